/- package task, as far as Check. -/
import Derived.Test.YtkohggddaheefaaLib
import Derived.Test.YtkohggddaheefaaT1
import Derived.KernelRfl
set_option linter.unusedSimpArgs false
set_option linter.unusedVariables false
namespace Go.Proofs.YtkohggddaheefaaEv
open Go
set_option maxHeartbeats 1000000
theorem between_is (n lo hi : Int) (bx : Bx) : callL tab0 ext0 49 [vi n, vi lo, vi hi] bx = some (vb (decide (lo ≤ n) && decide (n ≤ hi)), bx) := by
  rw [callL_tab _ _ rfl tab49 rfl]
  simp +contextual [C49, push_cast, -Int.not_lt, -Int.not_le, ↓evI_call, ↓evI_calli, ↓evI_calln, ↓evI_callz, ↓evI_callv, ↓evI_mxn]
theorem between_pure (n lo hi : Int) : pureOf (callL tab0 ext0) false 49 [vi n, vi lo, vi hi] = some (vb (decide (lo ≤ n) && decide (n ≤ hi))) :=
  pureOf_eq (between_is ..) rfl
/-! ### names -/
def chr (s : ByteArray) (i : Nat) : Int := ((s.data.toList.getD i 0).toNat : Int)
def nameBad (s : ByteArray) (i : Nat) : Bool := (decide (chr s i < 97) || decide (122 < chr s i)) && (decide (i = 0) || (!decide (48 ≤ chr s i) || !decide (chr s i ≤ 57)))
def nameOk (s : ByteArray) : Bool := (fstP (nameBad s) 0 s.size).isNone && decide ((1 : Int) ≤ s.size) && decide ((s.size : Int) ≤ 8)
theorem name_loop (s : ByteArray) (bx : Bx) (hc : Clean bx) (hs : s.size ≤ 4611686018427387904) :
    ∀ d i (e : Env), i + d = s.size → (e 0 = vs s ∧ e 7 = vi s.size ∧ e 8 = vi i) → ∃ a, evL tab0 ext0 bx.length L75_0 (e, bx) = some a ∧ FQ (nameBad s) bx 0 (fun _ e => e 2 = vb false) (fun e => e 0 = vs s) i d a := by
  have hcd := hc.2
  refine fq_loop (St := fun i e => e 0 = vs s ∧ e 7 = vi s.size ∧ e 8 = vi i) _ _ _ _ _ ?_ ?_
  · rintro e ⟨h0, h7, h8⟩
    exact ⟨_, (go75_0 _ _).trans (by simp [B75_0, push_cast, -Int.not_lt, -Int.not_le, ↓evI_call, ↓evI_calli, ↓evI_calln, ↓evI_callz, ↓evI_callv, ↓evI_mxn, loopIn, loopIn0, keepL, emp, A.dang, A.dangC, h0, h7, h8, hcd]; rfl), by simp [put_at]⟩
  · rintro i e hi ⟨h0, h7, h8⟩
    rw [go75_0]
    have hi' : (i : Int) < s.size := by omega
    have hw : IntKind.wrap .i64 ((i : Int) + 1) = (i : Int) + 1 := wrap_in _ (by omega) (by omega)
    unfold nameBad chr
    simp +contextual [B75_0, push_cast, -Int.not_lt, -Int.not_le, ↓evI_call, ↓evI_calli, ↓evI_calln, ↓evI_callz, ↓evI_callv, ↓evI_mxn, loopIn, loopIn0, keepL, emp, A.dang, A.dangC, h0, h7, h8, hcd, hi, hi', hw]
    (repeat' refine Step.split (fun cc => ?_) (fun cc => ?_)) <;> first | (refine Step.ret0 ?_ ?_ <;> first | (simp_all [put_at, eqz]; done) | (simp [put_at, *]; done) | ((try simp [eqz] at *); omega)) | (refine Step.go ?_ ?_ <;> first | (simp_all [put_at, eqz]; done) | (simp [put_at, *]; done) | ((try simp [eqz] at *); omega)) | (refine Step.ret _ ?_ ?_ <;> first | (simp_all [put_at, eqz]; done) | (simp [put_at, *]; done) | ((try simp [eqz] at *); omega)) | (refine Step.goJ _ (by simp) ?_ ?_ <;> first | (simp_all [put_at, eqz]; done) | (simp [put_at, *]; done) | ((try simp [eqz] at *); omega))
theorem name_is (s : ByteArray) (bx : Bx) (hc : Clean bx) (hs : s.size ≤ 4611686018427387904) : Ans (vb (nameOk s)) bx (callL tab0 ext0 75 [vs s] bx) := by
  rw [callL_tab _ _ rfl tab75 rfl]
  simp +contextual [C75, push_cast, -Int.not_lt, -Int.not_le, ↓evI_call, ↓evI_calli, ↓evI_calln, ↓evI_callz, ↓evI_callv, ↓evI_mxn]
  refine behindP (P := fun r => Ans (vb (nameOk s)) bx r) (name_loop s bx hc hs s.size 0 _ (by omega) (by simp [put_at])) ?_
  intro a h
  unfold FQ at h
  unfold nameOk
  cases hf : fstP (nameBad s) 0 s.size with
  | none =>
    rw [hf] at h
    obtain ⟨e', rfl, h0⟩ := h
    simp +contextual [push_cast, -Int.not_lt, -Int.not_le, ↓evI_call, ↓evI_calli, ↓evI_calln, ↓evI_callz, ↓evI_callv, ↓evI_mxn, h0]
    refine Ans.mk0 ?_
    show vb _ = vb _
    congr 1
    rw [Bool.eq_iff_iff]; simp only [Bool.and_eq_true, Bool.not_eq_true', decide_eq_true_eq, decide_eq_false_iff_not, bal_nil]; omega
  | some k =>
    rw [hf] at h
    obtain ⟨e', junk, rfl, h⟩ := h
    simp [push_cast, -Int.not_lt, -Int.not_le, ↓evI_call, ↓evI_calli, ↓evI_calln, ↓evI_callz, ↓evI_callv, ↓evI_mxn, h]
    exact ⟨junk, rfl⟩
/-! ### places -/
def coreBad (x : Int) : Bool := !(decide (1 ≤ x) && decide (x ≤ 3))
def homeBad (n : Nat) (x : Int) : Bool := !(decide (0 ≤ x) && decide (x ≤ (n : Int) - 1))
def placedOk (s : St) : Bool := decide ((1 : Int) ≤ s.cores.length) && decide ((s.cores.length : Int) ≤ 3) && decide ((s.homes.length : Int) ≤ 4) && !s.cores.any coreBad && !s.homes.any (homeBad s.cores.length)
theorem core_is (x : Int) (bx : Bx) : callL tab0 ext0 71 [vi x] bx = some (vb (coreBad x), bx) := by
  rw [callL_tab _ _ rfl tab71 rfl]
  simp +contextual [C71, push_cast, -Int.not_lt, -Int.not_le, ↓evI_call, ↓evI_calli, ↓evI_calln, ↓evI_callz, ↓evI_callv, ↓evI_mxn, between_pure, coreBad]
theorem home_is (x : Int) (s : St) (hl : s.cores.length ≤ 4611686018427387904) : callL tab0 ext0 72 [vi x, .ptr 0 0] [St.c s] = some (vb (homeBad s.cores.length x), [St.c s]) := by
  rw [callL_tab _ _ rfl tab72 rfl]
  have hw : IntKind.wrap .i64 ((s.cores.length : Int) - 1) = (s.cores.length : Int) - 1 := wrap_in _ (by omega) (by omega)
  simp +contextual [C72, push_cast, -Int.not_lt, -Int.not_le, ↓evI_call, ↓evI_calli, ↓evI_calln, ↓evI_callz, ↓evI_callv, ↓evI_mxn, between_pure, homeBad, St.c, slI, slT, hw]
theorem placed_is (s : St) (hl : s.cores.length ≤ 4611686018427387904) (hh : s.homes.length ≤ 4611686018427387904) : Ans (vb (placedOk s)) [] (callL tab0 ext0 50 [.agg (St.c s)] []) := by
  rw [callL_tab _ _ rfl tab50 rfl]
  have h1 := hasI 71 [] coreBad s.cores [St.c s] (clean_St ..) rfl hl fun x _ => ⟨[], by simpa using core_is x [St.c s]⟩
  have h2 := hasI 72 [(0, 0)] (homeBad s.cores.length) s.homes [St.c s] (clean_St ..) rfl hh fun x _ => ⟨[], by simpa using home_is x s hl⟩
  have hc := clean_St s.proto s.cores s.homes s.tasks
  have ha : ∀ b, aft 1 (vb b, [St.c s]) = (vb b, [], [St.c s]) := fun b => aft_vb hc b
  simp only [St.c, slI, slT] at h1 h2 ha
  simp +contextual [C50, push_cast, -Int.not_lt, -Int.not_le, ↓evI_call, ↓evI_calli, ↓evI_calln, ↓evI_callz, ↓evI_callv, ↓evI_mxn, between_pure, St.c, slI, slT, h1, h2, ha]
  refine Ans.nil ?_
  congr 2
  rw [Bool.eq_iff_iff]; simp [placedOk, and_assoc]
/-! ### parts -/
def partBad (n : Nat) (p : Pt) : Bool := (!(decide (1 ≤ p.kind) && decide (p.kind ≤ 3)) || !(decide (1 ≤ p.len) && decide (p.len ≤ 60))) || !((decide (p.kind = 3) && (decide (0 ≤ p.res) && decide (p.res ≤ (n : Int) - 1))) || (decide (p.kind ≠ 3) && decide (p.res = 0)))
def partsOk (n : Nat) (l : List Pt) : Bool := !l.any (partBad n) && decide ((1 : Int) ≤ l.length) && decide ((l.length : Int) ≤ 6)
theorem parted_loop (s : St) (l : List Pt) (hl : l.length ≤ 4611686018427387904) (hh : s.homes.length ≤ 4611686018427387904) :
    ∀ d i (e : Env), i + d = l.length → (e 1 = slP l ∧ e 2 = .ptr 0 0 ∧ e 7 = slP l ∧ e 8 = vi l.length ∧ e 9 = vi i) → ∃ a, evL tab0 ext0 0 L77_0 (e, [St.c s]) = some a ∧ FQ (fun i => (l[i]?.map (partBad s.homes.length)).getD false) [St.c s] 0 (fun _ e => e 4 = vb false) (fun e => e 1 = slP l) i d a := by
  refine fq_loop (St := fun i e => e 1 = slP l ∧ e 2 = .ptr 0 0 ∧ e 7 = slP l ∧ e 8 = vi l.length ∧ e 9 = vi i) _ _ _ _ _ ?_ ?_
  · rintro e ⟨h1, h2, h7, h8, h9⟩
    exact ⟨_, (go77_0 _ _).trans (by simp [B77_0, push_cast, -Int.not_lt, -Int.not_le, ↓evI_call, ↓evI_calli, ↓evI_calln, ↓evI_callz, ↓evI_callv, ↓evI_mxn, loopIn, loopIn0, keepL, emp, A.dang, A.dangC, h1, h2, h7, h8, h9, slP, slI, slT, St.c]; rfl), by simp [put_at, slP]⟩
  · rintro i e hi ⟨h1, h2, h7, h8, h9⟩
    rw [go77_0]
    have hi' : (i : Int) < l.length := by omega
    have hw : IntKind.wrap .i64 ((i : Int) + 1) = (i : Int) + 1 := wrap_in _ (by omega) (by omega)
    have hw2 : IntKind.wrap .i64 ((s.homes.length : Int) - 1) = (s.homes.length : Int) - 1 := wrap_in _ (by omega) (by omega)
    simp +contextual [B77_0, push_cast, -Int.not_lt, -Int.not_le, ↓evI_call, ↓evI_calli, ↓evI_calln, ↓evI_callz, ↓evI_callv, ↓evI_mxn, loopIn, loopIn0, keepL, emp, A.dang, A.dangC, h1, h2, h7, h8, h9, slP, slI, slT, St.c, Pt.c, hi, hi', hw, hw2, drop_pt l i hi, between_pure, partBad]
    (repeat' refine Step.split (fun cc => ?_) (fun cc => ?_)) <;> first | (refine Step.ret0 ?_ ?_ <;> first | (simp_all [put_at, eqz]; done) | (simp [put_at, *]; done) | ((try simp [eqz] at *); omega)) | (refine Step.go ?_ ?_ <;> first | (simp_all [put_at, eqz]; done) | (simp [put_at, *]; done) | ((try simp [eqz] at *); omega)) | (refine Step.ret _ ?_ ?_ <;> first | (simp_all [put_at, eqz]; done) | (simp [put_at, *]; done) | ((try simp [eqz] at *); omega)) | (refine Step.goJ _ (by simp) ?_ ?_ <;> first | (simp_all [put_at, eqz]; done) | (simp [put_at, *]; done) | ((try simp [eqz] at *); omega))
theorem fst_any {α : Type} (p : α → Bool) (l : List α) : (fstP (fun i => (l[i]?.map p).getD false) 0 l.length).isNone = !l.any p := by
  cases h : fstP (fun i => (l[i]?.map p).getD false) 0 l.length with
  | none =>
    rw [fstP_none] at h
    have : l.any p = false := by
      rw [List.any_eq_false]
      intro x hx
      obtain ⟨i, hi, rfl⟩ := List.getElem_of_mem hx
      have := h i (Nat.zero_le _) (by omega)
      simpa [hi] using this
    rw [this]; rfl
  | some k =>
    obtain ⟨_, h2, h3⟩ := fstP_some _ _ _ h
    have hk : k < l.length := by omega
    have : l.any p = true := List.any_eq_true.2 ⟨l[k], List.getElem_mem hk, by simpa [hk] using h3⟩
    rw [this]; rfl
theorem parted_is (s : St) (l : List Pt) (hl : l.length ≤ 4611686018427387904) (hh : s.homes.length ≤ 4611686018427387904) : Ans (vb (partsOk s.homes.length l)) [] (callL tab0 ext0 77 [.agg (St.c s), slP l] []) := by
  rw [callL_tab _ _ rfl tab77 rfl]
  simp +contextual [C77, push_cast, -Int.not_lt, -Int.not_le, ↓evI_call, ↓evI_calli, ↓evI_calln, ↓evI_callz, ↓evI_callv, ↓evI_mxn, St.c, slI, slT, slP]
  have hlp := parted_loop s l hl hh l.length 0
  simp only [St.c, slI, slT, slP] at hlp
  refine behindP (P := fun r => Ans (vb (partsOk s.homes.length l)) [] r) (hlp _ (by omega) (by simp [put_at])) ?_
  intro a h
  unfold FQ at h
  unfold partsOk
  rw [← fst_any]
  split at h
  · rename_i hf
    obtain ⟨e', rfl, h1⟩ := h
    simp +contextual [push_cast, -Int.not_lt, -Int.not_le, ↓evI_call, ↓evI_calli, ↓evI_calln, ↓evI_callz, ↓evI_callv, ↓evI_mxn, h1, hf, slP, between_pure]
    exact ⟨_, rfl⟩
  · rename_i hf
    obtain ⟨e', junk, rfl, h1⟩ := h
    simp +contextual [push_cast, -Int.not_lt, -Int.not_le, ↓evI_call, ↓evI_calli, ↓evI_calln, ↓evI_callz, ↓evI_callv, ↓evI_mxn, h1, hf]
    exact ⟨_, rfl⟩
/-! ### one task -/
def twice (t o : Tk) : Bool := decide (o.name.toList = t.name.toList) || decide (o.prio = t.prio)
def taskErr (s : St) (n : Nat) (t : Tk) : Int :=
  if (!nameOk t.name || !(decide (1 ≤ t.period) && decide (t.period ≤ 3000)) || !(decide (1 ≤ t.deadline) && decide (t.deadline ≤ t.period)) || !(decide (1 ≤ t.prio) && decide (t.prio ≤ 1000))) = true then 10
  else if (!(decide (0 ≤ t.cluster) && decide (t.cluster ≤ (s.cores.length : Int) - 1))) = true then 16
  else if (s.tasks.take n).any (twice t) = true then 17
  else if (!partsOk s.homes.length t.parts) = true then 15
  else 0
theorem twice_is (t o : Tk) (s : St) : callL tab0 ext0 74 [.agg (Tk.c o), .ptr 1 0] [St.c s, Tk.c t] = some (vb (twice t o), [St.c s, Tk.c t] ++ [Tk.c o]) := by
  rw [callL_tab _ _ rfl tab74 rfl]
  simp +contextual [C74, push_cast, -Int.not_lt, -Int.not_le, ↓evI_call, ↓evI_calli, ↓evI_calln, ↓evI_callz, ↓evI_callv, ↓evI_mxn, St.c, Tk.c, slI, slT, slP, twice, eqz]
structure Fits (s : St) : Prop where
  cores : s.cores.length ≤ 4611686018427387904
  homes : s.homes.length ≤ 4611686018427387904
  tasks : s.tasks.length ≤ 4611686018427387904
  parts : ∀ t ∈ s.tasks, t.parts.length ≤ 4611686018427387904
  names : ∀ t ∈ s.tasks, t.name.size ≤ 4611686018427387904
theorem clean_StTk (s : St) (t : Tk) : Clean [St.c s, Tk.c t] := ⟨by simp [strip, A.cp1, St.c, Tk.c, slI, slT, slP], by simp [A.dangC, St.c, Tk.c, slI, slT, slP]⟩
theorem one_is (s : St) (n : Nat) (hn : n < s.tasks.length) (hf : Fits s) : Ans (vi (taskErr s n s.tasks[n])) [] (callL tab0 ext0 51 [.agg (St.c s), vi n] []) := by
  rw [callL_tab _ _ rfl tab51 rfl]
  have hm : s.tasks[n] ∈ s.tasks := List.getElem_mem hn
  have h1 := hasT 74 [(1, 0)] (twice s.tasks[n]) (s.tasks.take n) [St.c s, Tk.c s.tasks[n]] (clean_StTk ..) rfl (by have := hf.tasks; simp; omega) fun x _ => ⟨[Tk.c x], by simpa using twice_is s.tasks[n] x s⟩
  have h2 := pure_vb (k := false) (parted_is s s.tasks[n].parts (hf.parts _ hm) hf.homes)
  have h3 := pure_vb (k := false) (name_is s.tasks[n].name [] clean_nil (hf.names _ hm))
  have ha : ∀ b, aft 2 (vb b, [St.c s, Tk.c s.tasks[n]]) = (vb b, [], [St.c s, Tk.c s.tasks[n]]) := fun b => aft_vb (clean_StTk ..) b
  have hw2 : IntKind.wrap .i64 ((s.cores.length : Int) - 1) = (s.cores.length : Int) - 1 := wrap_in _ (by have := hf.cores; omega) (by have := hf.cores; omega)
  have hn' : (n : Int) < s.tasks.length := by omega
  have hn2 : (n : Int) ≤ s.tasks.length := by omega
  have hn3 : n ≤ s.tasks.length := by omega
  have hmin : min n s.tasks.length = n := by omega
  simp only [St.c, slI, slT, slP, Tk.c, List.length_take, hmin] at h1 h2 h3 ha
  simp +contextual (maxSteps := 1000000) [C51, push_cast, -Int.not_lt, -Int.not_le, ↓evI_call, ↓evI_calli, ↓evI_calln, ↓evI_callz, ↓evI_callv, ↓evI_mxn, St.c, Tk.c, slI, slT, slP, hn, hn', hn2, drop_tk _ n hn, take_tk _ n hn3, len_tk, sumC, h1, h2, h3, ha, hw2, between_pure]
  unfold taskErr
  (repeat' refine Ans.split (fun cc => ?_) (fun cc => ?_)) <;> first | (refine Ans.nil ?_ <;> first | rfl | (simp_all [eqz]; done) | ((try simp [eqz] at *); omega)) | (refine Ans.mk0 ?_ <;> first | rfl | (simp_all [eqz]; done) | ((try simp [eqz] at *); omega)) | (refine Ans.mk _ ?_ <;> first | rfl | (simp_all [eqz]; done) | ((try simp [eqz] at *); omega))
end Go.Proofs.YtkohggddaheefaaEv
/- task.Check. -/
namespace Go.Proofs.YtkohggddaheefaaEv
open Go
set_option maxHeartbeats 2000000
def errAt (s : St) (i : Nat) : Int := (s.tasks[i]?.map (taskErr s i)).getD 0
def chk (s : St) : Int × Int :=
  if s.proto < 1 ∨ 3 < s.proto then (-1, 10)
  else if placedOk s = false then (-1, 16)
  else if 6 < (s.tasks.length : Int) then (-1, 11)
  else if (s.tasks.length : Int) = 0 then (-1, 14)
  else match fstP (fun i => !eqz (errAt s i) 0) 0 s.tasks.length with
    | none => (-1, 0)
    | some k => (k, errAt s k)
theorem check_loop (s : St) (hf : Fits s) :
    ∀ d i (e : Env), i + d = s.tasks.length → (e 1 = .ptr 0 0 ∧ e 27 = vi s.tasks.length ∧ e 28 = vi i) → ∃ a, evL tab0 ext0 0 L17_1 (e, [St.c s]) = some a ∧ FQ (fun i => !eqz (errAt s i) 0) [St.c s] 1 (fun k e => e 2 = vi k ∧ e 3 = vi (errAt s k)) (fun _ => True) i d a := by
  refine fq_loop (St := fun i e => e 1 = .ptr 0 0 ∧ e 27 = vi s.tasks.length ∧ e 28 = vi i) _ _ _ _ _ ?_ ?_
  · rintro e ⟨h1, h2, h3⟩
    exact ⟨_, (go17_1 _ _).trans (by simp [B17_1, push_cast, -Int.not_lt, -Int.not_le, ↓evI_call, ↓evI_calli, ↓evI_calln, ↓evI_callz, ↓evI_callv, ↓evI_mxn, loopIn, loopIn0, keepL, emp, A.dang, A.dangC, h1, h2, h3, slP, slI, slT, St.c]; rfl), trivial⟩
  · rintro i e hi ⟨h1, h2, h3⟩
    rw [go17_1]
    have hi' : (i : Int) < s.tasks.length := by omega
    have ht := hf.tasks
    have hw : IntKind.wrap .i64 ((i : Int) + 1) = (i : Int) + 1 := wrap_in _ (by omega) (by omega)
    have ho := pure_vi (k := false) (one_is s i hi hf)
    have he : errAt s i = taskErr s i s.tasks[i] := by simp [errAt, hi]
    rw [he]
    simp only [St.c, slI, slT, slP] at ho
    simp +contextual [B17_1, push_cast, -Int.not_lt, -Int.not_le, ↓evI_call, ↓evI_calli, ↓evI_calln, ↓evI_callz, ↓evI_callv, ↓evI_mxn, loopIn, loopIn0, keepL, emp, A.dang, A.dangC, h1, h2, h3, slP, slI, slT, St.c, hi, hi', hw, ho]
    (repeat' refine Step.split (fun cc => ?_) (fun cc => ?_)) <;> first | (refine Step.ret0 ?_ ?_ <;> first | (simp_all [put_at, eqz]; done) | (simp [put_at, *]; done) | ((try simp [eqz] at *); omega)) | (refine Step.go ?_ ?_ <;> first | (simp_all [put_at, eqz]; done) | (simp [put_at, *]; done) | ((try simp [eqz] at *); omega)) | (refine Step.ret _ ?_ ?_ <;> first | (simp_all [put_at, eqz]; done) | (simp [put_at, *]; done) | ((try simp [eqz] at *); omega)) | (refine Step.goJ _ (by simp) ?_ ?_ <;> first | (simp_all [put_at, eqz]; done) | (simp [put_at, *]; done) | ((try simp [eqz] at *); omega))
theorem check_is (s : St) (hf : Fits s) : Ans (.tup [vi (chk s).1, vi (chk s).2]) [] (callL tab0 ext0 17 [.agg (St.c s)] []) := by
  rw [callL_tab _ _ rfl tab17 rfl]
  have hp := pure_vb (k := false) (placed_is s hf.cores hf.homes)
  simp only [St.c, slI, slT, slP] at hp
  simp +contextual [C17, push_cast, -Int.not_lt, -Int.not_le, ↓evI_call, ↓evI_calli, ↓evI_calln, ↓evI_callz, ↓evI_callv, ↓evI_mxn, St.c, slI, slT, slP, between_pure, hp]
  have hlp := check_loop s hf s.tasks.length 0
  simp only [St.c, slI, slT, slP] at hlp
  refine Ans.split (fun c1 => Ans.nil (by have c1' : s.proto < 1 ∨ 3 < s.proto := by omega
                                          simp [chk, c1'])) (fun c1 => ?_)
  replace c1 : ¬ (s.proto < 1 ∨ 3 < s.proto) := by omega
  refine Ans.split (fun c2 => Ans.nil (by simp [chk, c1, c2])) (fun c2 => ?_)
  refine Ans.split (fun c3 => Ans.nil (by have c3' : 6 < (s.tasks.length : Int) := by omega
                                          simp only [chk]; rw [if_neg c1, if_neg c2, if_pos c3'])) (fun c3 => ?_)
  replace c3 : ¬ 6 < (s.tasks.length : Int) := by omega
  refine Ans.split (fun c4 => Ans.nil (by have c4' : (s.tasks.length : Int) = 0 := by simpa [eqz] using c4
                                          have c4' : s.tasks = [] := by simpa using c4'
                                          simp [chk, c1, c2, c4'])) (fun c4 => ?_)
  have c4' : ¬ (s.tasks.length : Int) = 0 := by simpa [eqz] using c4
  have hk : chk s = match fstP (fun i => !eqz (errAt s i) 0) 0 s.tasks.length with
    | none => (-1, 0)
    | some k => (↑k, errAt s k) := by unfold chk; rw [if_neg c1, if_neg c2, if_neg c3, if_neg c4']
  refine behindP (P := fun r => Ans (.tup [vi (chk s).1, vi (chk s).2]) [] r) (hlp _ (by omega) (by simp [put_at])) ?_
  intro a h
  unfold FQ at h
  rw [hk]
  split at h
  · rename_i hf'
    obtain ⟨e', rfl, -⟩ := h
    simp +contextual [push_cast, -Int.not_lt, -Int.not_le, ↓evI_call, ↓evI_calli, ↓evI_calln, ↓evI_callz, ↓evI_callv, ↓evI_mxn, hf']
    exact Ans.nil rfl
  · rename_i k hf'
    obtain ⟨e', junk, rfl, h1, h2⟩ := h
    simp +contextual [push_cast, -Int.not_lt, -Int.not_le, ↓evI_call, ↓evI_calli, ↓evI_calln, ↓evI_callz, ↓evI_callv, ↓evI_mxn, h1, h2, hf']
    exact Ans.nil rfl
end Go.Proofs.YtkohggddaheefaaEv
/- Which sets the laws look at. -/
namespace Go.Proofs.YtkohggddaheefaaEv
open Go
set_option maxHeartbeats 2000000
def bigTk (t : Tk) : Bool := decide (20 < (t.name.size : Int)) || decide (10 < (t.parts.length : Int))
def few8 (s : St) : Bool := !(decide (8 < (s.cores.length : Int)) || decide (10 < (s.homes.length : Int)) || decide (9 < (s.tasks.length : Int))) && !s.tasks.any bigTk
theorem few_loop_16 (s : St) (hl : s.tasks.length ≤ 4611686018427387904) :
    ∀ d i (e : Env), i + d = s.tasks.length → (e 1 = .ptr 0 0 ∧ e 3 = vi i) → ∃ r, evL tab0 ext0 0 L16_0 (e, [St.c s]) = some r ∧ FQ (fun i => (s.tasks[i]?.map bigTk).getD false) [St.c s] 0 (fun _ e => e 2 = vb false) (fun _ => True) i d r := by
  refine fq_loop (St := fun i e => e 1 = .ptr 0 0 ∧ e 3 = vi i) _ _ _ _ _ ?_ ?_
  · rintro e ⟨h1, h3⟩
    exact ⟨_, (go16_0 _ _).trans (by simp [B16_0, push_cast, -Int.not_lt, -Int.not_le, ↓evI_call, ↓evI_calli, ↓evI_calln, ↓evI_callz, ↓evI_callv, ↓evI_mxn, loopIn, loopIn0, keepL, emp, A.dang, A.dangC, h1, h3, slI, slT, St.c]; rfl), trivial⟩
  · rintro i e hi ⟨h1, h3⟩
    rw [go16_0]
    have hi' : (i : Int) < s.tasks.length := by omega
    have hw : IntKind.wrap .i64 ((i : Int) + 1) = (i : Int) + 1 := wrap_in _ (by omega) (by omega)
    simp +contextual [B16_0, push_cast, -Int.not_lt, -Int.not_le, ↓evI_call, ↓evI_calli, ↓evI_calln, ↓evI_callz, ↓evI_callv, ↓evI_mxn, loopIn, loopIn0, keepL, emp, A.dang, A.dangC, h1, h3, slI, slT, slP, St.c, Tk.c, hi, hi', hw, drop_tk _ i hi, bigTk]
    (repeat' refine Step.split (fun cc => ?_) (fun cc => ?_)) <;> first | (refine Step.ret0 ?_ ?_ <;> first | (simp_all [put_at, eqz]; done) | (simp [put_at, *]; done) | ((try simp [eqz] at *); omega)) | (refine Step.go ?_ ?_ <;> first | (simp_all [put_at, eqz]; done) | (simp [put_at, *]; done) | ((try simp [eqz] at *); omega)) | (refine Step.ret _ ?_ ?_ <;> first | (simp_all [put_at, eqz]; done) | (simp [put_at, *]; done) | ((try simp [eqz] at *); omega)) | (refine Step.goJ _ (by simp) ?_ ?_ <;> first | (simp_all [put_at, eqz]; done) | (simp [put_at, *]; done) | ((try simp [eqz] at *); omega))
theorem few_is_16 (s : St) : Ans (vb (few8 s)) [] (callL tab0 ext0 16 [.agg (St.c s)] []) := by
  rw [callL_tab _ _ rfl tab16 rfl]
  simp +contextual [C16, push_cast, -Int.not_lt, -Int.not_le, ↓evI_call, ↓evI_calli, ↓evI_calln, ↓evI_callz, ↓evI_callv, ↓evI_mxn, St.c, slI, slT]
  refine Ans.split (fun c => Ans.nil ?_) (fun c => ?_)
  · show vb false = vb _
    congr 1; symm
    unfold few8
    rw [Bool.eq_false_iff]
    simp
    intros
    omega
  · have h1 := few_loop_16 s (by omega) s.tasks.length 0
    simp only [St.c, slI, slT] at h1
    have hk : few8 s = !s.tasks.any bigTk := by
      have e1 : decide (8 < (s.cores.length : Int)) = false := by simp; omega
      have e2 : decide (10 < (s.homes.length : Int)) = false := by simp; omega
      have e3 : decide (9 < (s.tasks.length : Int)) = false := by simp; omega
      unfold few8; rw [e1, e2, e3]; simp
    rw [hk, ← fst_any]
    refine behindP (P := fun r => Ans (vb _) [] r) (h1 _ (by omega) (by simp [put_at])) ?_
    intro r h
    unfold FQ at h
    split at h
    · rename_i hf
      obtain ⟨e', rfl, -⟩ := h
      simp +contextual [push_cast, -Int.not_lt, -Int.not_le, ↓evI_call, ↓evI_calli, ↓evI_calln, ↓evI_callz, ↓evI_callv, ↓evI_mxn, hf]
      exact ⟨_, rfl⟩
    · rename_i hf
      obtain ⟨e', junk, rfl, g⟩ := h
      simp +contextual [push_cast, -Int.not_lt, -Int.not_le, ↓evI_call, ↓evI_calli, ↓evI_calln, ↓evI_callz, ↓evI_callv, ↓evI_mxn, hf, g]
      exact ⟨_, rfl⟩
theorem few_loop_25 (s : St) (hl : s.tasks.length ≤ 4611686018427387904) :
    ∀ d i (e : Env), i + d = s.tasks.length → (e 1 = .ptr 0 0 ∧ e 3 = vi i) → ∃ r, evL tab0 ext0 0 L25_0 (e, [St.c s]) = some r ∧ FQ (fun i => (s.tasks[i]?.map bigTk).getD false) [St.c s] 0 (fun _ e => e 2 = vb false) (fun _ => True) i d r := by
  refine fq_loop (St := fun i e => e 1 = .ptr 0 0 ∧ e 3 = vi i) _ _ _ _ _ ?_ ?_
  · rintro e ⟨h1, h3⟩
    exact ⟨_, (go25_0 _ _).trans (by simp [B25_0, push_cast, -Int.not_lt, -Int.not_le, ↓evI_call, ↓evI_calli, ↓evI_calln, ↓evI_callz, ↓evI_callv, ↓evI_mxn, loopIn, loopIn0, keepL, emp, A.dang, A.dangC, h1, h3, slI, slT, St.c]; rfl), trivial⟩
  · rintro i e hi ⟨h1, h3⟩
    rw [go25_0]
    have hi' : (i : Int) < s.tasks.length := by omega
    have hw : IntKind.wrap .i64 ((i : Int) + 1) = (i : Int) + 1 := wrap_in _ (by omega) (by omega)
    simp +contextual [B25_0, push_cast, -Int.not_lt, -Int.not_le, ↓evI_call, ↓evI_calli, ↓evI_calln, ↓evI_callz, ↓evI_callv, ↓evI_mxn, loopIn, loopIn0, keepL, emp, A.dang, A.dangC, h1, h3, slI, slT, slP, St.c, Tk.c, hi, hi', hw, drop_tk _ i hi, bigTk]
    (repeat' refine Step.split (fun cc => ?_) (fun cc => ?_)) <;> first | (refine Step.ret0 ?_ ?_ <;> first | (simp_all [put_at, eqz]; done) | (simp [put_at, *]; done) | ((try simp [eqz] at *); omega)) | (refine Step.go ?_ ?_ <;> first | (simp_all [put_at, eqz]; done) | (simp [put_at, *]; done) | ((try simp [eqz] at *); omega)) | (refine Step.ret _ ?_ ?_ <;> first | (simp_all [put_at, eqz]; done) | (simp [put_at, *]; done) | ((try simp [eqz] at *); omega)) | (refine Step.goJ _ (by simp) ?_ ?_ <;> first | (simp_all [put_at, eqz]; done) | (simp [put_at, *]; done) | ((try simp [eqz] at *); omega))
theorem few_is_25 (s : St) : Ans (vb (few8 s)) [] (callL tab0 ext0 25 [.agg (St.c s)] []) := by
  rw [callL_tab _ _ rfl tab25 rfl]
  simp +contextual [C25, push_cast, -Int.not_lt, -Int.not_le, ↓evI_call, ↓evI_calli, ↓evI_calln, ↓evI_callz, ↓evI_callv, ↓evI_mxn, St.c, slI, slT]
  refine Ans.split (fun c => Ans.nil ?_) (fun c => ?_)
  · show vb false = vb _
    congr 1; symm
    unfold few8
    rw [Bool.eq_false_iff]
    simp
    intros
    omega
  · have h1 := few_loop_25 s (by omega) s.tasks.length 0
    simp only [St.c, slI, slT] at h1
    have hk : few8 s = !s.tasks.any bigTk := by
      have e1 : decide (8 < (s.cores.length : Int)) = false := by simp; omega
      have e2 : decide (10 < (s.homes.length : Int)) = false := by simp; omega
      have e3 : decide (9 < (s.tasks.length : Int)) = false := by simp; omega
      unfold few8; rw [e1, e2, e3]; simp
    rw [hk, ← fst_any]
    refine behindP (P := fun r => Ans (vb _) [] r) (h1 _ (by omega) (by simp [put_at])) ?_
    intro r h
    unfold FQ at h
    split at h
    · rename_i hf
      obtain ⟨e', rfl, -⟩ := h
      simp +contextual [push_cast, -Int.not_lt, -Int.not_le, ↓evI_call, ↓evI_calli, ↓evI_calln, ↓evI_callz, ↓evI_callv, ↓evI_mxn, hf]
      exact ⟨_, rfl⟩
    · rename_i hf
      obtain ⟨e', junk, rfl, g⟩ := h
      simp +contextual [push_cast, -Int.not_lt, -Int.not_le, ↓evI_call, ↓evI_calli, ↓evI_calln, ↓evI_callz, ↓evI_callv, ↓evI_mxn, hf, g]
      exact ⟨_, rfl⟩
theorem few_loop_41 (s : St) (hl : s.tasks.length ≤ 4611686018427387904) :
    ∀ d i (e : Env), i + d = s.tasks.length → (e 1 = .ptr 0 0 ∧ e 3 = vi i) → ∃ r, evL tab0 ext0 0 L41_0 (e, [St.c s]) = some r ∧ FQ (fun i => (s.tasks[i]?.map bigTk).getD false) [St.c s] 0 (fun _ e => e 2 = vb false) (fun _ => True) i d r := by
  refine fq_loop (St := fun i e => e 1 = .ptr 0 0 ∧ e 3 = vi i) _ _ _ _ _ ?_ ?_
  · rintro e ⟨h1, h3⟩
    exact ⟨_, (go41_0 _ _).trans (by simp [B41_0, push_cast, -Int.not_lt, -Int.not_le, ↓evI_call, ↓evI_calli, ↓evI_calln, ↓evI_callz, ↓evI_callv, ↓evI_mxn, loopIn, loopIn0, keepL, emp, A.dang, A.dangC, h1, h3, slI, slT, St.c]; rfl), trivial⟩
  · rintro i e hi ⟨h1, h3⟩
    rw [go41_0]
    have hi' : (i : Int) < s.tasks.length := by omega
    have hw : IntKind.wrap .i64 ((i : Int) + 1) = (i : Int) + 1 := wrap_in _ (by omega) (by omega)
    simp +contextual [B41_0, push_cast, -Int.not_lt, -Int.not_le, ↓evI_call, ↓evI_calli, ↓evI_calln, ↓evI_callz, ↓evI_callv, ↓evI_mxn, loopIn, loopIn0, keepL, emp, A.dang, A.dangC, h1, h3, slI, slT, slP, St.c, Tk.c, hi, hi', hw, drop_tk _ i hi, bigTk]
    (repeat' refine Step.split (fun cc => ?_) (fun cc => ?_)) <;> first | (refine Step.ret0 ?_ ?_ <;> first | (simp_all [put_at, eqz]; done) | (simp [put_at, *]; done) | ((try simp [eqz] at *); omega)) | (refine Step.go ?_ ?_ <;> first | (simp_all [put_at, eqz]; done) | (simp [put_at, *]; done) | ((try simp [eqz] at *); omega)) | (refine Step.ret _ ?_ ?_ <;> first | (simp_all [put_at, eqz]; done) | (simp [put_at, *]; done) | ((try simp [eqz] at *); omega)) | (refine Step.goJ _ (by simp) ?_ ?_ <;> first | (simp_all [put_at, eqz]; done) | (simp [put_at, *]; done) | ((try simp [eqz] at *); omega))
theorem few_is_41 (s : St) : Ans (vb (few8 s)) [] (callL tab0 ext0 41 [.agg (St.c s)] []) := by
  rw [callL_tab _ _ rfl tab41 rfl]
  simp +contextual [C41, push_cast, -Int.not_lt, -Int.not_le, ↓evI_call, ↓evI_calli, ↓evI_calln, ↓evI_callz, ↓evI_callv, ↓evI_mxn, St.c, slI, slT]
  refine Ans.split (fun c => Ans.nil ?_) (fun c => ?_)
  · show vb false = vb _
    congr 1; symm
    unfold few8
    rw [Bool.eq_false_iff]
    simp
    intros
    omega
  · have h1 := few_loop_41 s (by omega) s.tasks.length 0
    simp only [St.c, slI, slT] at h1
    have hk : few8 s = !s.tasks.any bigTk := by
      have e1 : decide (8 < (s.cores.length : Int)) = false := by simp; omega
      have e2 : decide (10 < (s.homes.length : Int)) = false := by simp; omega
      have e3 : decide (9 < (s.tasks.length : Int)) = false := by simp; omega
      unfold few8; rw [e1, e2, e3]; simp
    rw [hk, ← fst_any]
    refine behindP (P := fun r => Ans (vb _) [] r) (h1 _ (by omega) (by simp [put_at])) ?_
    intro r h
    unfold FQ at h
    split at h
    · rename_i hf
      obtain ⟨e', rfl, -⟩ := h
      simp +contextual [push_cast, -Int.not_lt, -Int.not_le, ↓evI_call, ↓evI_calli, ↓evI_calln, ↓evI_callz, ↓evI_callv, ↓evI_mxn, hf]
      exact ⟨_, rfl⟩
    · rename_i hf
      obtain ⟨e', junk, rfl, g⟩ := h
      simp +contextual [push_cast, -Int.not_lt, -Int.not_le, ↓evI_call, ↓evI_calli, ↓evI_calln, ↓evI_callz, ↓evI_callv, ↓evI_mxn, hf, g]
      exact ⟨_, rfl⟩
theorem few8_fits (s : St) (h : few8 s = true) : Fits s := by
  unfold few8 at h
  simp [bigTk] at h
  obtain ⟨⟨⟨h1, h2⟩, h3⟩, h4⟩ := h
  exact ⟨by omega, by omega, by omega, fun t ht => by have := (h4 t ht).2; omega, fun t ht => by have := (h4 t ht).1; omega⟩
/-- A set as small as the laws look at. -/
structure Sm (s : St) : Prop where
  cores : s.cores.length ≤ 8
  homes : s.homes.length ≤ 10
  tasks : s.tasks.length ≤ 9
  parts : ∀ t ∈ s.tasks, t.parts.length ≤ 10
  names : ∀ t ∈ s.tasks, t.name.size ≤ 20
theorem Sm.fits {s : St} (h : Sm s) : Fits s := ⟨by have := h.cores; omega, by have := h.homes; omega, by have := h.tasks; omega, fun t ht => by have := h.parts t ht; omega, fun t ht => by have := h.names t ht; omega⟩
theorem few8_sm (s : St) (h : few8 s = true) : Sm s := by
  unfold few8 at h
  simp [bigTk] at h
  obtain ⟨⟨⟨h1, h2⟩, h3⟩, h4⟩ := h
  exact ⟨by omega, by omega, by omega, fun t ht => by have := (h4 t ht).2; omega, fun t ht => by have := (h4 t ht).1; omega⟩
end Go.Proofs.YtkohggddaheefaaEv
/- What the laws call known: by running the code. -/
namespace Go.Proofs.YtkohggddaheefaaEv
open Go
def isTrue : Option (A × Bx) → Bool
  | some (.val (.bool true), _) => true
  | _ => false
theorem isTrue_of {r : Option (A × Bx)} (h : isTrue r = true) : Ans (vb true) [] r := by
  unfold isTrue at h
  split at h
  · exact ⟨_, rfl⟩
  · cases h
theorem run_true {tab ext f} (k : Nat) (h : isTrue (callOf tab ext (evK tab ext k) f [] []) = true) : Ans (vb true) [] (callL tab ext f [] []) := by
  obtain ⟨j, h⟩ := isTrue_of h
  exact ⟨j, (callL_iff ..).2 ⟨k, h⟩⟩
set_option maxRecDepth 100000
theorem known_15 : Ans (vb true) [] (callL tab0 ext0 15 [] []) := run_true 2000 (by kernel_rfl)
theorem known_24 : Ans (vb true) [] (callL tab0 ext0 24 [] []) := run_true 2000 (by kernel_rfl)
theorem known_34 : Ans (vb true) [] (callL tab0 ext0 34 [] []) := run_true 2000 (by kernel_rfl)
end Go.Proofs.YtkohggddaheefaaEv
