/- The reference's Check. -/
import Derived.Test.YtkohggddaheefaaTsk
set_option linter.unusedSimpArgs false
set_option linter.unusedVariables false
namespace Go.Proofs.YtkohggddaheefaaEv
open Go
set_option maxHeartbeats 2000000
theorem nameR_loop (s : ByteArray) (bx : Bx) (hc : Clean bx) (hs : s.size ≤ 4611686018427387904) :
    ∀ d i (e : Env), i + d = s.size → (e 0 = vs s ∧ e 3 = vi i) → ∃ a, evL tab0 ext0 bx.length L78_0 (e, bx) = some a ∧ FQ (nameBad s) bx 0 (fun _ e => e 2 = vb false) (fun e => e 0 = vs s) i d a := by
  have hcd := hc.2
  refine fq_loop (St := fun i e => e 0 = vs s ∧ e 3 = vi i) _ _ _ _ _ ?_ ?_
  · rintro e ⟨h0, h3⟩
    exact ⟨_, (go78_0 _ _).trans (by simp [B78_0, push_cast, -Int.not_lt, -Int.not_le, ↓evI_call, ↓evI_calli, ↓evI_calln, ↓evI_callz, ↓evI_callv, ↓evI_mxn, loopIn, loopIn0, keepL, emp, A.dang, A.dangC, h0, h3, hcd]; rfl), by simp [put_at]⟩
  · rintro i e hi ⟨h0, h3⟩
    rw [go78_0]
    have hi' : (i : Int) < s.size := by omega
    have hw : IntKind.wrap .i64 ((i : Int) + 1) = (i : Int) + 1 := wrap_in _ (by omega) (by omega)
    unfold nameBad chr
    have hx : ((s.data.toList.getD i 0).toNat : Int) = ((s.data[i]).toNat : Int) := by simp [hi]
    rw [hx]
    generalize hg : ((s.data[i]).toNat : Int) = x
    by_cases c1 : x < 97 <;> by_cases c2 : 122 < x <;> by_cases c3 : x < 48 <;> by_cases c4 : 57 < x <;> cases c5 : eqz (i : Int) 0 <;> first | omega | skip
    all_goals
      have c5' : decide (i = 0) = eqz i 0 := by simp [eqz]
      have d3 : decide (48 ≤ x) = !decide (x < 48) := by rw [Bool.eq_iff_iff]; simp
      have d4 : decide (x ≤ 57) = !decide (57 < x) := by rw [Bool.eq_iff_iff]; simp
      rw [d3, d4, c5']
      clear d3 d4 c5'
      simp [B78_0, push_cast, -Int.not_lt, -Int.not_le, ↓evI_call, ↓evI_calli, ↓evI_calln, ↓evI_callz, ↓evI_callv, ↓evI_mxn, loopIn, loopIn0, keepL, emp, A.dang, A.dangC, h0, h3, hcd, hi, hi', hw, hg, c1, c2, c3, c4, c5]
      first | (refine Step.ret0 ?_ ?_ <;> simp [put_at]) | (refine Step.go ?_ ?_ <;> simp [put_at])
theorem nameR_is (s : ByteArray) (bx : Bx) (hc : Clean bx) (hs : s.size ≤ 4611686018427387904) : Ans (vb (nameOk s)) bx (callL tab0 ext0 78 [vs s] bx) := by
  rw [callL_tab _ _ rfl tab78 rfl]
  simp +contextual [C78, push_cast, -Int.not_lt, -Int.not_le, ↓evI_call, ↓evI_calli, ↓evI_calln, ↓evI_callz, ↓evI_callv, ↓evI_mxn]
  refine behindP (P := fun r => Ans (vb (nameOk s)) bx r) (nameR_loop s bx hc hs s.size 0 _ (by omega) (by simp [put_at])) ?_
  intro a h
  unfold FQ at h
  unfold nameOk
  cases hf : fstP (nameBad s) 0 s.size with
  | none =>
    rw [hf] at h
    obtain ⟨e', rfl, h0⟩ := h
    simp +contextual [push_cast, -Int.not_lt, -Int.not_le, ↓evI_call, ↓evI_calli, ↓evI_calln, ↓evI_callz, ↓evI_callv, ↓evI_mxn, h0]
    exact Ans.mk0 rfl
  | some k =>
    rw [hf] at h
    obtain ⟨e', junk, rfl, h⟩ := h
    simp [push_cast, -Int.not_lt, -Int.not_le, ↓evI_call, ↓evI_calli, ↓evI_calln, ↓evI_callz, ↓evI_callv, ↓evI_mxn, h]
    exact ⟨junk, rfl⟩
theorem partR_is (s : St) (p : Pt) : Ans (vb (!partBad s.homes.length p)) [] (callL tab0 ext0 79 [.agg (St.c s), .agg (Pt.c p)] []) := by
  rw [callL_tab _ _ rfl tab79 rfl]
  simp +contextual [C79, push_cast, -Int.not_lt, -Int.not_le, ↓evI_call, ↓evI_calli, ↓evI_calln, ↓evI_callz, ↓evI_callv, ↓evI_mxn, St.c, Pt.c, slI, slT]
  refine Ans.split (fun c => Ans.nil ?_) (fun c => Ans.nil ?_)
  · show vb _ = vb _
    congr 1
    rw [Bool.eq_iff_iff]; simp [partBad]; omega
  · show vb _ = vb _
    congr 1
    rw [Bool.eq_iff_iff]; simp [partBad, eqz]; omega
theorem plcC_loop (s : St) (hh : s.cores.length ≤ 4611686018427387904) :
    ∀ d i (e : Env), i + d = s.cores.length → (e 1 = .ptr 0 0 ∧ e 3 = vi i) → ∃ a, evL tab0 ext0 0 L52_0 (e, [St.c s]) = some a ∧ FQ (fun i => (s.cores[i]?.map (coreBad)).getD false) [St.c s] 0 (fun _ e => e 2 = vb false) (fun e => e 1 = .ptr 0 0) i d a := by
  refine fq_loop (St := fun i e => e 1 = .ptr 0 0 ∧ e 3 = vi i) _ _ _ _ _ ?_ ?_
  · rintro e ⟨h1, h3⟩
    exact ⟨_, (go52_0 _ _).trans (by simp [B52_0, push_cast, -Int.not_lt, -Int.not_le, ↓evI_call, ↓evI_calli, ↓evI_calln, ↓evI_callz, ↓evI_callv, ↓evI_mxn, loopIn, loopIn0, keepL, emp, A.dang, A.dangC, h1, h3, slI, slT, St.c]; rfl), by simp [put_at]⟩
  · rintro i e hi ⟨h1, h3⟩
    rw [go52_0]
    have hi' : (i : Int) < s.cores.length := by omega
    have hw : IntKind.wrap .i64 ((i : Int) + 1) = (i : Int) + 1 := wrap_in _ (by omega) (by omega)
    simp +contextual [B52_0, push_cast, -Int.not_lt, -Int.not_le, ↓evI_call, ↓evI_calli, ↓evI_calln, ↓evI_callz, ↓evI_callv, ↓evI_mxn, loopIn, loopIn0, keepL, emp, A.dang, A.dangC, h1, h3, slI, slT, St.c, hi, hi', hw, drop_int _ i hi, coreBad, homeBad]
    (repeat' refine Step.split (fun cc => ?_) (fun cc => ?_)) <;> first | (refine Step.ret0 ?_ ?_ <;> first | (simp_all [put_at, eqz]; done) | (simp [put_at, *]; done) | ((try simp [eqz] at *); omega)) | (refine Step.go ?_ ?_ <;> first | (simp_all [put_at, eqz]; done) | (simp [put_at, *]; done) | ((try simp [eqz] at *); omega)) | (refine Step.ret _ ?_ ?_ <;> first | (simp_all [put_at, eqz]; done) | (simp [put_at, *]; done) | ((try simp [eqz] at *); omega)) | (refine Step.goJ _ (by simp) ?_ ?_ <;> first | (simp_all [put_at, eqz]; done) | (simp [put_at, *]; done) | ((try simp [eqz] at *); omega))
theorem plcH_loop (s : St) (hh : s.homes.length ≤ 4611686018427387904) :
    ∀ d i (e : Env), i + d = s.homes.length → (e 1 = .ptr 0 0 ∧ e 4 = vi i) → ∃ a, evL tab0 ext0 0 L52_2 (e, [St.c s]) = some a ∧ FQ (fun i => (s.homes[i]?.map (homeBad s.cores.length)).getD false) [St.c s] 2 (fun _ e => e 2 = vb false) (fun e => e 1 = .ptr 0 0) i d a := by
  refine fq_loop (St := fun i e => e 1 = .ptr 0 0 ∧ e 4 = vi i) _ _ _ _ _ ?_ ?_
  · rintro e ⟨h1, h3⟩
    exact ⟨_, (go52_2 _ _).trans (by simp [B52_2, push_cast, -Int.not_lt, -Int.not_le, ↓evI_call, ↓evI_calli, ↓evI_calln, ↓evI_callz, ↓evI_callv, ↓evI_mxn, loopIn, loopIn0, keepL, emp, A.dang, A.dangC, h1, h3, slI, slT, St.c]; rfl), by simp [put_at]⟩
  · rintro i e hi ⟨h1, h3⟩
    rw [go52_2]
    have hi' : (i : Int) < s.homes.length := by omega
    have hw : IntKind.wrap .i64 ((i : Int) + 1) = (i : Int) + 1 := wrap_in _ (by omega) (by omega)
    simp +contextual [B52_2, push_cast, -Int.not_lt, -Int.not_le, ↓evI_call, ↓evI_calli, ↓evI_calln, ↓evI_callz, ↓evI_callv, ↓evI_mxn, loopIn, loopIn0, keepL, emp, A.dang, A.dangC, h1, h3, slI, slT, St.c, hi, hi', hw, drop_int _ i hi, coreBad, homeBad]
    (repeat' refine Step.split (fun cc => ?_) (fun cc => ?_)) <;> first | (refine Step.ret0 ?_ ?_ <;> first | (simp_all [put_at, eqz]; done) | (simp [put_at, *]; done) | ((try simp [eqz] at *); omega)) | (refine Step.go ?_ ?_ <;> first | (simp_all [put_at, eqz]; done) | (simp [put_at, *]; done) | ((try simp [eqz] at *); omega)) | (refine Step.ret _ ?_ ?_ <;> first | (simp_all [put_at, eqz]; done) | (simp [put_at, *]; done) | ((try simp [eqz] at *); omega)) | (refine Step.goJ _ (by simp) ?_ ?_ <;> first | (simp_all [put_at, eqz]; done) | (simp [put_at, *]; done) | ((try simp [eqz] at *); omega))
theorem placesR_is (s : St) (hc : s.cores.length ≤ 4611686018427387904) (hh : s.homes.length ≤ 4611686018427387904) : Ans (vb (placedOk s)) [] (callL tab0 ext0 52 [.agg (St.c s)] []) := by
  rw [callL_tab _ _ rfl tab52 rfl]
  simp +contextual [C52, push_cast, -Int.not_lt, -Int.not_le, ↓evI_call, ↓evI_calli, ↓evI_calln, ↓evI_callz, ↓evI_callv, ↓evI_mxn, St.c, slI, slT]
  have h1 := plcC_loop s hc s.cores.length 0
  have h2 := plcH_loop s hh s.homes.length 0
  simp only [St.c, slI, slT] at h1 h2
  refine Ans.split (fun c => Ans.nil ?_) (fun c => ?_)
  · show vb _ = vb _
    congr 1
    symm
    unfold placedOk
    simp
    intros
    omega
  have hp : placedOk s = (!s.cores.any coreBad && !s.homes.any (homeBad s.cores.length)) := by
    have e1 : decide ((1 : Int) ≤ s.cores.length) = true := by simp; omega
    have e2 : decide ((s.cores.length : Int) ≤ 3) = true := by simp; omega
    have e3 : decide ((s.homes.length : Int) ≤ 4) = true := by simp; omega
    unfold placedOk
    rw [e1, e2, e3]; simp
  rw [hp, ← fst_any, ← fst_any]
  refine behindP (P := fun r => Ans (vb _) [] r) (h1 _ (by omega) (by simp [put_at])) ?_
  intro a h
  unfold FQ at h
  split at h
  · rename_i hf
    obtain ⟨e', rfl, g1⟩ := h
    simp +contextual [push_cast, -Int.not_lt, -Int.not_le, ↓evI_call, ↓evI_calli, ↓evI_calln, ↓evI_callz, ↓evI_callv, ↓evI_mxn, hf]
    refine behindP (P := fun r => Ans (vb _) [] r) (h2 _ (by omega) (by simp [put_at, g1])) ?_
    intro a h
    unfold FQ at h
    split at h
    · rename_i hf
      obtain ⟨e', rfl, g1⟩ := h
      simp +contextual [push_cast, -Int.not_lt, -Int.not_le, ↓evI_call, ↓evI_calli, ↓evI_calln, ↓evI_callz, ↓evI_callv, ↓evI_mxn, hf]
      exact ⟨_, rfl⟩
    · rename_i hf
      obtain ⟨e', junk, rfl, g1⟩ := h
      simp +contextual [push_cast, -Int.not_lt, -Int.not_le, ↓evI_call, ↓evI_calli, ↓evI_calln, ↓evI_callz, ↓evI_callv, ↓evI_mxn, hf, g1]
      exact ⟨_, rfl⟩
  · rename_i hf
    obtain ⟨e', junk, rfl, g1⟩ := h
    simp +contextual [push_cast, -Int.not_lt, -Int.not_le, ↓evI_call, ↓evI_calli, ↓evI_calln, ↓evI_callz, ↓evI_callv, ↓evI_mxn, hf, g1]
    exact ⟨_, rfl⟩
theorem tkT_loop (s : St) (t : Tk) (n : Nat) (hn : n ≤ s.tasks.length) (ht : s.tasks.length ≤ 4611686018427387904) :
    ∀ d i (e : Env), i + d = n → (e 1 = vi n ∧ e 2 = .ptr 0 0 ∧ e 5 = .ptr 1 0 ∧ e 6 = vi i) → ∃ a, evL tab0 ext0 0 L53_0 (e, [St.c s, Tk.c t]) = some a ∧ FQ (fun i => (s.tasks[i]?.map (twice t)).getD false) [St.c s, Tk.c t] 0 (fun _ e => e 4 = vi 17) (fun e => e 2 = .ptr 0 0 ∧ e 5 = .ptr 1 0) i d a := by
  refine fq_loop (St := fun i e => e 1 = vi n ∧ e 2 = .ptr 0 0 ∧ e 5 = .ptr 1 0 ∧ e 6 = vi i) _ _ _ _ _ ?_ ?_
  · rintro e ⟨h1, h2, h5, h6⟩
    exact ⟨_, (go53_0 _ _).trans (by simp [B53_0, push_cast, -Int.not_lt, -Int.not_le, ↓evI_call, ↓evI_calli, ↓evI_calln, ↓evI_callz, ↓evI_callv, ↓evI_mxn, loopIn, loopIn0, keepL, emp, A.dang, A.dangC, h1, h2, h5, h6, slI, slT, slP, St.c, Tk.c]; rfl), by simp [put_at]⟩
  · rintro i e hi ⟨h1, h2, h5, h6⟩
    rw [go53_0]
    have hi1 : i < s.tasks.length := by omega
    have hi' : (i : Int) < n := by omega
    have hi2 : (i : Int) < s.tasks.length := by omega
    have hw : IntKind.wrap .i64 ((i : Int) + 1) = (i : Int) + 1 := wrap_in _ (by omega) (by omega)
    simp +contextual [B53_0, push_cast, -Int.not_lt, -Int.not_le, ↓evI_call, ↓evI_calli, ↓evI_calln, ↓evI_callz, ↓evI_callv, ↓evI_mxn, loopIn, loopIn0, keepL, emp, A.dang, A.dangC, h1, h2, h5, h6, slI, slT, slP, St.c, Tk.c, hi, hi', hi1, hi2, hw, drop_tk _ i hi1, twice]
    (repeat' refine Step.split (fun cc => ?_) (fun cc => ?_)) <;> first | (refine Step.ret0 ?_ ?_ <;> first | (simp_all [put_at, eqz]; done) | (simp [put_at, *]; done) | ((try simp [eqz] at *); omega)) | (refine Step.go ?_ ?_ <;> first | (simp_all [put_at, eqz]; done) | (simp [put_at, *]; done) | ((try simp [eqz] at *); omega)) | (refine Step.ret _ ?_ ?_ <;> first | (simp_all [put_at, eqz]; done) | (simp [put_at, *]; done) | ((try simp [eqz] at *); omega)) | (refine Step.goJ _ (by simp) ?_ ?_ <;> first | (simp_all [put_at, eqz]; done) | (simp [put_at, *]; done) | ((try simp [eqz] at *); omega))
theorem tkP_loop (s : St) (t : Tk) (hp : t.parts.length ≤ 4611686018427387904) :
    ∀ d i (e : Env), i + d = t.parts.length → (e 2 = .ptr 0 0 ∧ e 5 = .ptr 1 0 ∧ e 7 = vi i) → ∃ a, evL tab0 ext0 0 L53_2 (e, [St.c s, Tk.c t]) = some a ∧ FQ (fun i => (t.parts[i]?.map (partBad s.homes.length)).getD false) [St.c s, Tk.c t] 2 (fun _ e => e 4 = vi 15) (fun _ => True) i d a := by
  refine fq_loop (St := fun i e => e 2 = .ptr 0 0 ∧ e 5 = .ptr 1 0 ∧ e 7 = vi i) _ _ _ _ _ ?_ ?_
  · rintro e ⟨h2, h5, h7⟩
    exact ⟨_, (go53_2 _ _).trans (by simp [B53_2, push_cast, -Int.not_lt, -Int.not_le, ↓evI_call, ↓evI_calli, ↓evI_calln, ↓evI_callz, ↓evI_callv, ↓evI_mxn, loopIn, loopIn0, keepL, emp, A.dang, A.dangC, h2, h5, h7, slI, slT, slP, St.c, Tk.c]; rfl), trivial⟩
  · rintro i e hi ⟨h2, h5, h7⟩
    rw [go53_2]
    have hi' : (i : Int) < t.parts.length := by omega
    have hw : IntKind.wrap .i64 ((i : Int) + 1) = (i : Int) + 1 := wrap_in _ (by omega) (by omega)
    have ho := pure_vb (k := false) (partR_is s t.parts[i])
    simp only [St.c, slI, slT, Pt.c] at ho
    simp +contextual [B53_2, push_cast, -Int.not_lt, -Int.not_le, ↓evI_call, ↓evI_calli, ↓evI_calln, ↓evI_callz, ↓evI_callv, ↓evI_mxn, loopIn, loopIn0, keepL, emp, A.dang, A.dangC, h2, h5, h7, slI, slT, slP, St.c, Tk.c, Pt.c, hi, hi', hw, drop_pt _ i hi, ho]
    (repeat' refine Step.split (fun cc => ?_) (fun cc => ?_)) <;> first | (refine Step.ret0 ?_ ?_ <;> first | (simp_all [put_at, eqz]; done) | (simp [put_at, *]; done) | ((try simp [eqz] at *); omega)) | (refine Step.go ?_ ?_ <;> first | (simp_all [put_at, eqz]; done) | (simp [put_at, *]; done) | ((try simp [eqz] at *); omega)) | (refine Step.ret _ ?_ ?_ <;> first | (simp_all [put_at, eqz]; done) | (simp [put_at, *]; done) | ((try simp [eqz] at *); omega)) | (refine Step.goJ _ (by simp) ?_ ?_ <;> first | (simp_all [put_at, eqz]; done) | (simp [put_at, *]; done) | ((try simp [eqz] at *); omega))
theorem fst_any_take {α : Type} (p : α → Bool) (l : List α) (n : Nat) (hn : n ≤ l.length) : (fstP (fun i => (l[i]?.map p).getD false) 0 n).isNone = !(l.take n).any p := by
  rw [← fst_any, List.length_take, Nat.min_eq_left hn]
  congr 1
  exact fstP_congr _ _ fun k _ h => by rw [List.getElem?_take_of_lt (by omega)]
theorem taskR_is (s : St) (n : Nat) (hn : n < s.tasks.length) (hf : Fits s) : Ans (vi (taskErr s n s.tasks[n])) [] (callL tab0 ext0 53 [.agg (St.c s), vi n] []) := by
  rw [callL_tab _ _ rfl tab53 rfl]
  have hm : s.tasks[n] ∈ s.tasks := List.getElem_mem hn
  have h3 := pure_vb (k := false) (nameR_is s.tasks[n].name [] clean_nil (hf.names _ hm))
  have hn' : (n : Int) < s.tasks.length := by omega
  simp +contextual (maxSteps := 1000000) [C53, push_cast, -Int.not_lt, -Int.not_le, ↓evI_call, ↓evI_calli, ↓evI_calln, ↓evI_callz, ↓evI_callv, ↓evI_mxn, St.c, Tk.c, slI, slT, slP, hn, hn', drop_tk _ n hn, h3]
  have h1 := tkT_loop s s.tasks[n] n (by omega) hf.tasks n 0
  have h2 := tkP_loop s s.tasks[n] (hf.parts _ hm) s.tasks[n].parts.length 0
  simp only [St.c, slI, slT, slP, Tk.c] at h1 h2
  refine Ans.split (fun c1 => Ans.nil ?_) (fun c1 => ?_)
  · show vi 10 = vi _
    congr 1; symm; unfold taskErr
    rw [if_pos (by cases hN : nameOk s.tasks[n].name <;> simp [hN] at c1 ⊢ <;> omega)]
  refine Ans.split (fun c2 => Ans.nil ?_) (fun c2 => ?_)
  · show vi 16 = vi _
    congr 1; symm; unfold taskErr
    rw [if_neg (by cases hN : nameOk s.tasks[n].name <;> simp [hN] at c1 ⊢ <;> omega), if_pos (by simp; omega)]
  have he : taskErr s n s.tasks[n] = if (s.tasks.take n).any (twice s.tasks[n]) = true then 17 else if (!partsOk s.homes.length s.tasks[n].parts) = true then 15 else 0 := by
    unfold taskErr
    rw [if_neg (by cases hN : nameOk s.tasks[n].name <;> simp [hN] at c1 ⊢ <;> omega), if_neg (by simp; omega)]
  refine behindP (P := fun r => Ans (vi _) [] r) (h1 _ (by omega) (by simp [put_at])) ?_
  have ha := fst_any_take (twice s.tasks[n]) s.tasks n (by omega)
  have hb := fst_any (partBad s.homes.length) s.tasks[n].parts
  rw [he]
  intro a h
  unfold FQ at h
  split at h
  · rename_i hf0
    obtain ⟨e', rfl, g2, g5⟩ := h
    rw [hf0] at ha
    have ha' : (s.tasks.take n).any (twice s.tasks[n]) = false := by cases hx : (s.tasks.take n).any (twice s.tasks[n]) <;> simp [hx] at ha ⊢
    rw [ha', if_neg (by simp)]
    simp +contextual [push_cast, -Int.not_lt, -Int.not_le, ↓evI_call, ↓evI_calli, ↓evI_calln, ↓evI_callz, ↓evI_callv, ↓evI_mxn, g2, g5]
    refine Ans.split (fun c3 => Ans.nil ?_) (fun c3 => ?_)
    · show vi 15 = vi _
      congr 1; symm
      rw [if_pos]
      simp [partsOk]; intros; omega
    have hq : partsOk s.homes.length s.tasks[n].parts = !s.tasks[n].parts.any (partBad s.homes.length) := by
      have e1 : decide ((1 : Int) ≤ s.tasks[n].parts.length) = true := by simp; omega
      have e2 : decide ((s.tasks[n].parts.length : Int) ≤ 6) = true := by simp; omega
      unfold partsOk
      rw [e1, e2]; simp
    rw [hq, ← hb]
    refine behindP (P := fun r => Ans (vi _) [] r) (h2 _ (by omega) (by simp [put_at, g2, g5])) ?_
    intro a h
    unfold FQ at h
    split at h
    · rename_i hf1
      obtain ⟨e', rfl, -⟩ := h
      simp +contextual [push_cast, -Int.not_lt, -Int.not_le, ↓evI_call, ↓evI_calli, ↓evI_calln, ↓evI_callz, ↓evI_callv, ↓evI_mxn, hf1]
      exact ⟨_, rfl⟩
    · rename_i hf1
      obtain ⟨e', junk, rfl, g⟩ := h
      simp +contextual [push_cast, -Int.not_lt, -Int.not_le, ↓evI_call, ↓evI_calli, ↓evI_calln, ↓evI_callz, ↓evI_callv, ↓evI_mxn, hf1, g]
      exact ⟨_, rfl⟩
  · rename_i hf0
    obtain ⟨e', junk, rfl, g⟩ := h
    rw [hf0] at ha
    have ha' : (s.tasks.take n).any (twice s.tasks[n]) = true := by cases hx : (s.tasks.take n).any (twice s.tasks[n]) <;> simp [hx] at ha ⊢
    rw [ha', if_pos rfl]
    simp +contextual [push_cast, -Int.not_lt, -Int.not_le, ↓evI_call, ↓evI_calli, ↓evI_calln, ↓evI_callz, ↓evI_callv, ↓evI_mxn, g]
    exact ⟨_, rfl⟩
theorem checkR_loop (s : St) (hf : Fits s) :
    ∀ d i (e : Env), i + d = s.tasks.length → (e 1 = .ptr 0 0 ∧ e 4 = vi i) → ∃ a, evL tab0 ext0 0 L18_1 (e, [St.c s]) = some a ∧ FQ (fun i => !eqz (errAt s i) 0) [St.c s] 1 (fun k e => e 2 = vi k ∧ e 3 = vi (errAt s k)) (fun _ => True) i d a := by
  refine fq_loop (St := fun i e => e 1 = .ptr 0 0 ∧ e 4 = vi i) _ _ _ _ _ ?_ ?_
  · rintro e ⟨h1, h3⟩
    exact ⟨_, (go18_1 _ _).trans (by simp [B18_1, push_cast, -Int.not_lt, -Int.not_le, ↓evI_call, ↓evI_calli, ↓evI_calln, ↓evI_callz, ↓evI_callv, ↓evI_mxn, loopIn, loopIn0, keepL, emp, A.dang, A.dangC, h1, h3, slP, slI, slT, St.c]; rfl), trivial⟩
  · rintro i e hi ⟨h1, h3⟩
    rw [go18_1]
    have hi' : (i : Int) < s.tasks.length := by omega
    have ht := hf.tasks
    have hw : IntKind.wrap .i64 ((i : Int) + 1) = (i : Int) + 1 := wrap_in _ (by omega) (by omega)
    have ho := pure_vi (k := false) (taskR_is s i hi hf)
    have he : errAt s i = taskErr s i s.tasks[i] := by simp [errAt, hi]
    rw [he]
    simp only [St.c, slI, slT, slP] at ho
    simp +contextual [B18_1, push_cast, -Int.not_lt, -Int.not_le, ↓evI_call, ↓evI_calli, ↓evI_calln, ↓evI_callz, ↓evI_callv, ↓evI_mxn, loopIn, loopIn0, keepL, emp, A.dang, A.dangC, h1, h3, slP, slI, slT, St.c, hi, hi', hw, ho]
    (repeat' refine Step.split (fun cc => ?_) (fun cc => ?_)) <;> first | (refine Step.ret0 ?_ ?_ <;> first | (simp_all [put_at, eqz]; done) | (simp [put_at, *]; done) | ((try simp [eqz] at *); omega)) | (refine Step.go ?_ ?_ <;> first | (simp_all [put_at, eqz]; done) | (simp [put_at, *]; done) | ((try simp [eqz] at *); omega)) | (refine Step.ret _ ?_ ?_ <;> first | (simp_all [put_at, eqz]; done) | (simp [put_at, *]; done) | ((try simp [eqz] at *); omega)) | (refine Step.goJ _ (by simp) ?_ ?_ <;> first | (simp_all [put_at, eqz]; done) | (simp [put_at, *]; done) | ((try simp [eqz] at *); omega))
theorem checkR_is (s : St) (hf : Fits s) : Ans (.tup [vi (chk s).1, vi (chk s).2]) [] (callL tab0 ext0 18 [.agg (St.c s)] []) := by
  rw [callL_tab _ _ rfl tab18 rfl]
  have hp := pure_vb (k := false) (placesR_is s hf.cores hf.homes)
  simp only [St.c, slI, slT, slP] at hp
  simp +contextual [C18, push_cast, -Int.not_lt, -Int.not_le, ↓evI_call, ↓evI_calli, ↓evI_calln, ↓evI_callz, ↓evI_callv, ↓evI_mxn, St.c, slI, slT, slP, hp]
  have hlp := checkR_loop s hf s.tasks.length 0
  simp only [St.c, slI, slT, slP] at hlp
  refine Ans.split (fun c1 => Ans.nil (by simp [chk, c1])) (fun c1 => ?_)
  refine Ans.split (fun c2 => Ans.nil (by simp [chk, c1, c2])) (fun c2 => ?_)
  refine Ans.split (fun c3 => Ans.nil (by simp [chk, c1, c2, c3])) (fun c3 => ?_)
  refine Ans.split (fun c4 => Ans.nil (by have c4' : (s.tasks.length : Int) = 0 := by simpa [eqz] using c4
                                          have c4' : s.tasks = [] := by simpa using c4'
                                          simp [chk, c1, c2, c4'])) (fun c4 => ?_)
  have c4' : ¬ (s.tasks.length : Int) = 0 := by simpa [eqz] using c4
  have hk : chk s = match fstP (fun i => !eqz (errAt s i) 0) 0 s.tasks.length with
    | none => (-1, 0)
    | some k => (↑k, errAt s k) := by unfold chk; rw [if_neg c1, if_neg c2, if_neg c3, if_neg c4']; rfl
  refine behindP (P := fun r => Ans (.tup [vi (chk s).1, vi (chk s).2]) [] r) (hlp _ (by omega) (by simp [put_at])) ?_
  intro a h
  unfold FQ at h
  rw [hk]
  split at h
  · rename_i hf'
    obtain ⟨e', rfl, -⟩ := h
    simp +contextual [push_cast, -Int.not_lt, -Int.not_le, ↓evI_call, ↓evI_calli, ↓evI_calln, ↓evI_callz, ↓evI_callv, ↓evI_mxn, hf']
    exact Ans.nil rfl
  · rename_i k hf'
    obtain ⟨e', junk, rfl, h1, h2⟩ := h
    simp +contextual [push_cast, -Int.not_lt, -Int.not_le, ↓evI_call, ↓evI_calli, ↓evI_calln, ↓evI_callz, ↓evI_callv, ↓evI_mxn, h1, h2, hf']
    exact Ans.nil rfl
theorem okR_is (s : St) (hf : Fits s) : Ans (vb (eqz (chk s).2 0)) [] (callL tab0 ext0 22 [.agg (St.c s)] []) := by
  rw [callL_tab _ _ rfl tab22 rfl]
  have hp := pure_tup2 (k := false) (checkR_is s hf)
  simp only [St.c, slI, slT, slP] at hp
  simp +contextual [C22, push_cast, -Int.not_lt, -Int.not_le, ↓evI_call, ↓evI_calli, ↓evI_calln, ↓evI_callz, ↓evI_callv, ↓evI_mxn, St.c, slI, slT, slP, hp]
  exact Ans.nil rfl
end Go.Proofs.YtkohggddaheefaaEv
