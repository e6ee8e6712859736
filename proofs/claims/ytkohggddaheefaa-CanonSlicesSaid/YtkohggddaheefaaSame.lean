/- Whether tasks, sets are alike: the program's, the reference's. -/
import Derived.Test.YtkohggddaheefaaEqs
import Derived.Test.YtkohggddaheefaaTsk
set_option linter.unusedSimpArgs false
set_option linter.unusedVariables false
namespace Go.Proofs.YtkohggddaheefaaEv
open Go
set_option maxHeartbeats 2000000
def sameTk (a b : Tk) : Bool := decide (a.name.toList = b.name.toList) && eqz a.period b.period && eqz a.deadline b.deadline && eqz a.prio b.prio && eqz a.cluster b.cluster && decide (a.parts = b.parts)
theorem sameTR_loop (a b : Tk) (hl : a.parts.length ≤ 4611686018427387904) (hab : a.parts.length = b.parts.length) :
    ∀ d i (e : Env), i + d = a.parts.length → (e 2 = .ptr 0 0 ∧ e 3 = .ptr 1 0 ∧ e 5 = vi i) → ∃ r, evL tab0 ext0 0 L57_0 (e, [Tk.c a, Tk.c b]) = some r ∧ FQ (fun i => !decide (a.parts[i]? = b.parts[i]?)) [Tk.c a, Tk.c b] 0 (fun _ e => e 4 = vb false) (fun _ => True) i d r := by
  refine fq_loop (St := fun i e => e 2 = .ptr 0 0 ∧ e 3 = .ptr 1 0 ∧ e 5 = vi i) _ _ _ _ _ ?_ ?_
  · rintro e ⟨h2, h3, h5⟩
    exact ⟨_, (go57_0 _ _).trans (by simp [B57_0, push_cast, -Int.not_lt, -Int.not_le, ↓evI_call, ↓evI_calli, ↓evI_calln, ↓evI_callz, ↓evI_callv, ↓evI_mxn, loopIn, loopIn0, keepL, emp, A.dang, A.dangC, h2, h3, h5, slP, Tk.c]; rfl), trivial⟩
  · rintro i e hi ⟨h2, h3, h5⟩
    rw [go57_0]
    have hi1 : i < b.parts.length := by omega
    have hi' : (i : Int) < a.parts.length := by omega
    have hi2 : (i : Int) < b.parts.length := by omega
    have hw : IntKind.wrap .i64 ((i : Int) + 1) = (i : Int) + 1 := wrap_in _ (by omega) (by omega)
    simp +contextual [B57_0, push_cast, -Int.not_lt, -Int.not_le, ↓evI_call, ↓evI_calli, ↓evI_calln, ↓evI_callz, ↓evI_callv, ↓evI_mxn, loopIn, loopIn0, keepL, emp, A.dang, A.dangC, h2, h3, h5, slP, Tk.c, Pt.c, hi, hi', hi1, hi2, hw, drop_pt _ i hi, drop_pt _ i hi1, eqCells_pt]
    (repeat' refine Step.split (fun cc => ?_) (fun cc => ?_)) <;> first | (refine Step.ret0 ?_ ?_ <;> first | (simp_all [put_at, eqz]; done) | (simp [put_at, *]; done) | ((try simp [eqz] at *); omega)) | (refine Step.go ?_ ?_ <;> first | (simp_all [put_at, eqz]; done) | (simp [put_at, *]; done) | ((try simp [eqz] at *); omega)) | (refine Step.ret _ ?_ ?_ <;> first | (simp_all [put_at, eqz]; done) | (simp [put_at, *]; done) | ((try simp [eqz] at *); omega)) | (refine Step.goJ _ (by simp) ?_ ?_ <;> first | (simp_all [put_at, eqz]; done) | (simp [put_at, *]; done) | ((try simp [eqz] at *); omega))
theorem list_eq_fst {α : Type} [DecidableEq α] (l m : List α) (h : l.length = m.length) : decide (l = m) = (fstP (fun i => !decide (l[i]? = m[i]?)) 0 l.length).isNone := by
  cases hf : fstP (fun i => !decide (l[i]? = m[i]?)) 0 l.length with
  | none =>
    rw [fstP_none] at hf
    have : l = m := by
      apply List.ext_getElem? 
      intro i
      by_cases hi : i < l.length
      · simpa using hf i (Nat.zero_le _) (by omega)
      · rw [List.getElem?_eq_none (by omega), List.getElem?_eq_none (by omega)]
    simp [this]
  | some k =>
    obtain ⟨_, _, h3⟩ := fstP_some _ _ _ hf
    have : l ≠ m := fun e => by simp [e] at h3
    simp [this]
theorem sameTR_is (a b : Tk) (hl : a.parts.length ≤ 4611686018427387904) : Ans (vb (sameTk a b)) [] (callL tab0 ext0 57 [.agg (Tk.c a), .agg (Tk.c b)] []) := by
  rw [callL_tab _ _ rfl tab57 rfl]
  simp +contextual (maxSteps := 1000000) [C57, push_cast, -Int.not_lt, -Int.not_le, ↓evI_call, ↓evI_calli, ↓evI_calln, ↓evI_callz, ↓evI_callv, ↓evI_mxn, Tk.c, slP]
  have h1 := sameTR_loop a b hl
  simp only [Tk.c, slP] at h1
  refine Ans.split (fun c => Ans.nil ?_) (fun c => ?_)
  · show vb false = vb _
    congr 1; symm; unfold sameTk
    rw [Bool.eq_false_iff]
    intro h
    simp only [Bool.and_eq_true, decide_eq_true_eq] at h
    obtain ⟨⟨⟨⟨⟨k1, k2⟩, k3⟩, k4⟩, k5⟩, k6⟩ := h
    simp [k1, k2, k3, k4, k5, k6, eqz_self] at c
  · simp only [not_or, Bool.not_eq_false, Decidable.not_not] at c
    obtain ⟨⟨⟨⟨⟨k1, k2⟩, k3⟩, k4⟩, k5⟩, k6⟩ := c
    have hab : a.parts.length = b.parts.length := by simp [eqz] at k6; omega
    have hk : sameTk a b = decide (a.parts = b.parts) := by unfold sameTk; simp [k1, k2, k3, k4, k5]
    rw [hk, list_eq_fst _ _ hab]
    refine behindP (P := fun r => Ans (vb _) [] r) (h1 hab a.parts.length 0 _ (by omega) (by simp [put_at])) ?_
    intro r h
    unfold FQ at h
    split at h
    · rename_i hf
      obtain ⟨e', rfl, -⟩ := h
      simp +contextual [push_cast, -Int.not_lt, -Int.not_le, ↓evI_call, ↓evI_calli, ↓evI_calln, ↓evI_callz, ↓evI_callv, ↓evI_mxn, hf]
      exact ⟨_, rfl⟩
    · rename_i hf
      obtain ⟨e', junk, rfl, g⟩ := h
      simp +contextual [push_cast, -Int.not_lt, -Int.not_le, ↓evI_call, ↓evI_calli, ↓evI_calln, ↓evI_callz, ↓evI_callv, ↓evI_mxn, hf, g]
      exact ⟨_, rfl⟩
def badAt (l m : List Tk) (i : Nat) : Bool := match l[i]?, m[i]? with
  | some a, some b => !sameTk a b
  | _, _ => false
theorem badAt_is (l m : List Tk) (i : Nat) (h : i < l.length) (h' : i < m.length) : badAt l m i = !sameTk l[i] m[i] := by
  unfold badAt; simp [h, h']
theorem sameR_loop (s t : St) (hs : Fits s) (hab : s.tasks.length = t.tasks.length) :
    ∀ d i (e : Env), i + d = s.tasks.length → (e 2 = .ptr 0 0 ∧ e 3 = .ptr 1 0 ∧ e 5 = vi i) → ∃ r, evL tab0 ext0 0 L20_0 (e, [St.c s, St.c t]) = some r ∧ FQ (badAt s.tasks t.tasks) [St.c s, St.c t] 0 (fun _ e => e 4 = vb false) (fun _ => True) i d r := by
  have hl := hs.tasks
  refine fq_loop (St := fun i e => e 2 = .ptr 0 0 ∧ e 3 = .ptr 1 0 ∧ e 5 = vi i) _ _ _ _ _ ?_ ?_
  · rintro e ⟨h2, h3, h5⟩
    exact ⟨_, (go20_0 _ _).trans (by simp [B20_0, push_cast, -Int.not_lt, -Int.not_le, ↓evI_call, ↓evI_calli, ↓evI_calln, ↓evI_callz, ↓evI_callv, ↓evI_mxn, loopIn, loopIn0, keepL, emp, A.dang, A.dangC, h2, h3, h5, slI, slT, St.c]; rfl), trivial⟩
  · rintro i e hi ⟨h2, h3, h5⟩
    rw [go20_0]
    have hi1 : i < t.tasks.length := by omega
    have hi' : (i : Int) < s.tasks.length := by omega
    have hi2 : (i : Int) < t.tasks.length := by omega
    have hw : IntKind.wrap .i64 ((i : Int) + 1) = (i : Int) + 1 := wrap_in _ (by omega) (by omega)
    have ho := pure_vb (k := false) (sameTR_is s.tasks[i] t.tasks[i] (hs.parts _ (List.getElem_mem hi)))
    simp only [Tk.c, slP] at ho
    rw [badAt_is _ _ _ hi hi1]
    simp +contextual [B20_0, push_cast, -Int.not_lt, -Int.not_le, ↓evI_call, ↓evI_calli, ↓evI_calln, ↓evI_callz, ↓evI_callv, ↓evI_mxn, loopIn, loopIn0, keepL, emp, A.dang, A.dangC, h2, h3, h5, slI, slT, slP, St.c, Tk.c, hi, hi', hi1, hi2, hw, drop_tk _ i hi, drop_tk _ i hi1, ho]
    (repeat' refine Step.split (fun cc => ?_) (fun cc => ?_)) <;> first | (refine Step.ret0 ?_ ?_ <;> first | (simp_all [put_at, eqz]; done) | (simp [put_at, *]; done) | ((try simp [eqz] at *); omega)) | (refine Step.go ?_ ?_ <;> first | (simp_all [put_at, eqz]; done) | (simp [put_at, *]; done) | ((try simp [eqz] at *); omega)) | (refine Step.ret _ ?_ ?_ <;> first | (simp_all [put_at, eqz]; done) | (simp [put_at, *]; done) | ((try simp [eqz] at *); omega)) | (refine Step.goJ _ (by simp) ?_ ?_ <;> first | (simp_all [put_at, eqz]; done) | (simp [put_at, *]; done) | ((try simp [eqz] at *); omega))
def sameSt (s t : St) : Bool := eqz s.proto t.proto && decide (s.cores = t.cores) && decide (s.homes = t.homes) && eqz s.tasks.length t.tasks.length && (fstP (badAt s.tasks t.tasks) 0 s.tasks.length).isNone
theorem sameR_is (s t : St) (hs : Fits s) : Ans (vb (sameSt s t)) [] (callL tab0 ext0 20 [.agg (St.c s), .agg (St.c t)] []) := by
  rw [callL_tab _ _ rfl tab20 rfl]
  have e1 := pure_vb (k := false) (eqR s.cores t.cores [] clean_nil hs.cores)
  have e2 := pure_vb (k := false) (eqR s.homes t.homes [] clean_nil hs.homes)
  have h1 := sameR_loop s t hs
  simp only [St.c, slI, slT] at h1 e1 e2
  simp +contextual (maxSteps := 1000000) [C20, push_cast, -Int.not_lt, -Int.not_le, ↓evI_call, ↓evI_calli, ↓evI_calln, ↓evI_callz, ↓evI_callv, ↓evI_mxn, St.c, slI, slT, e1, e2]
  refine Ans.split (fun c => Ans.nil ?_) (fun c => ?_)
  · show vb false = vb _
    congr 1; symm; unfold sameSt
    rw [Bool.eq_false_iff]
    intro h
    simp only [Bool.and_eq_true, decide_eq_true_eq] at h
    obtain ⟨⟨⟨⟨k1, k2⟩, k3⟩, k4⟩, k5⟩ := h
    simp [k1, k2, k3, k4, eqz_self] at c
  · simp only [not_or, Bool.not_eq_false, Decidable.not_not] at c
    obtain ⟨⟨⟨k1, k2⟩, k3⟩, k4⟩ := c
    have hab : s.tasks.length = t.tasks.length := by simp [eqz] at k4; omega
    have hk : sameSt s t = (fstP (badAt s.tasks t.tasks) 0 s.tasks.length).isNone := by unfold sameSt; simp [k1, k2, k3, k4]
    rw [hk]
    refine behindP (P := fun r => Ans (vb _) [] r) (h1 hab s.tasks.length 0 _ (by omega) (by simp [put_at])) ?_
    intro r h
    unfold FQ at h
    split at h
    · rename_i hf
      obtain ⟨e', rfl, -⟩ := h
      simp +contextual [push_cast, -Int.not_lt, -Int.not_le, ↓evI_call, ↓evI_calli, ↓evI_calln, ↓evI_callz, ↓evI_callv, ↓evI_mxn, hf]
      exact ⟨_, rfl⟩
    · rename_i hf
      obtain ⟨e', junk, rfl, g⟩ := h
      simp +contextual [push_cast, -Int.not_lt, -Int.not_le, ↓evI_call, ↓evI_calli, ↓evI_calln, ↓evI_callz, ↓evI_callv, ↓evI_mxn, hf, g]
      exact ⟨_, rfl⟩
/-! ### the program's -/
theorem sameT_is (a b : Tk) (hl : a.parts.length ≤ 4611686018427387904) (bx : Bx) : Ans (vb (sameTk a b)) bx (callL tab0 ext0 48 [.agg (Tk.c a), .agg (Tk.c b)] bx) := by
  rw [callL_tab _ _ rfl tab48 rfl]
  have e1 := pure_vb (k := false) (eqP a.parts b.parts [] clean_nil hl)
  simp only [slP] at e1
  simp +contextual (maxSteps := 1000000) [C48, push_cast, -Int.not_lt, -Int.not_le, ↓evI_call, ↓evI_calli, ↓evI_calln, ↓evI_callz, ↓evI_callv, ↓evI_mxn, List.append_assoc, List.cons_append, List.nil_append, get_0, get_1, get_2, set_0, set_1, set_2, bx_len, Tk.c, slP, e1]
  exact Ans.mk _ rfl
theorem clean4 (s t : St) (a b : Tk) : Clean [St.c s, St.c t, Tk.c a, Tk.c b] := ⟨by simp [strip, A.cp1, St.c, Tk.c, slI, slT, slP], by simp [A.dangC, St.c, Tk.c, slI, slT, slP]⟩
theorem clean2 (s t : St) : Clean [St.c s, St.c t] := ⟨by simp [strip, A.cp1, St.c, slI, slT], by simp [A.dangC, St.c, slI, slT]⟩
theorem eqT_loop (s t : St) (hs : Fits s) (hab : s.tasks.length = t.tasks.length) :
    ∀ d i (e : Env), i + d = s.tasks.length → (e 1 = slT t.tasks ∧ e 2 = .fn 48 [] ∧ e 15 = slT s.tasks ∧ e 16 = vi s.tasks.length ∧ e 17 = vi i) → ∃ r, evL tab0 ext0 2 L55_0 (e, [St.c s, St.c t]) = some r ∧ FQ (badAt s.tasks t.tasks) [St.c s, St.c t] 0 (fun _ e => e 6 = vb false) (fun _ => True) i d r := by
  have hl := hs.tasks
  refine fq_loop (St := fun i e => e 1 = slT t.tasks ∧ e 2 = .fn 48 [] ∧ e 15 = slT s.tasks ∧ e 16 = vi s.tasks.length ∧ e 17 = vi i) _ _ _ _ _ ?_ ?_
  · rintro e ⟨h1, h2, h3, h4, h5⟩
    exact ⟨_, (go55_0 _ _).trans (by simp [B55_0, push_cast, -Int.not_lt, -Int.not_le, ↓evI_call, ↓evI_calli, ↓evI_calln, ↓evI_callz, ↓evI_callv, ↓evI_mxn, loopIn, loopIn0, keepL, emp, A.dang, A.dangC, h1, h2, h3, h4, h5, slI, slT, St.c]; rfl), trivial⟩
  · rintro i e hi ⟨h1, h2, h3, h4, h5⟩
    rw [go55_0]
    have hi1 : i < t.tasks.length := by omega
    have hi' : (i : Int) < s.tasks.length := by omega
    have hi2 : (i : Int) < t.tasks.length := by omega
    have hw : IntKind.wrap .i64 ((i : Int) + 1) = (i : Int) + 1 := wrap_in _ (by omega) (by omega)
    obtain ⟨junk, ho⟩ := sameT_is s.tasks[i] t.tasks[i] (hs.parts _ (List.getElem_mem hi)) [St.c s, St.c t, Tk.c s.tasks[i], Tk.c t.tasks[i]]
    have ha := aft_vb' (clean4 s t s.tasks[i] t.tasks[i])
    simp only [Tk.c, slP, St.c, slI, slT, List.length_cons, List.length_nil, List.cons_append, List.nil_append, Nat.zero_add, Nat.reduceAdd] at ho ha
    rw [badAt_is _ _ _ hi hi1]
    simp +contextual [B55_0, push_cast, -Int.not_lt, -Int.not_le, ↓evI_call, ↓evI_calli, ↓evI_calln, ↓evI_callz, ↓evI_callv, ↓evI_mxn, loopIn, loopIn0, keepL, emp, A.dang, A.dangC, h1, h2, h3, h4, h5, slI, slT, slP, St.c, Tk.c, hi, hi', hi1, hi2, hw, drop_tk _ i hi, drop_tk _ i hi1, ho, ha]
    (repeat' refine Step.split (fun cc => ?_) (fun cc => ?_)) <;> first | (refine Step.ret0 ?_ ?_ <;> first | (simp_all [put_at, eqz]; done) | (simp [put_at, *]; done) | ((try simp [eqz] at *); omega)) | (refine Step.go ?_ ?_ <;> first | (simp_all [put_at, eqz]; done) | (simp [put_at, *]; done) | ((try simp [eqz] at *); omega)) | (refine Step.ret _ ?_ ?_ <;> first | (simp_all [put_at, eqz]; done) | (simp [put_at, *]; done) | ((try simp [eqz] at *); omega)) | (refine Step.goJ _ (by simp) ?_ ?_ <;> first | (simp_all [put_at, eqz]; done) | (simp [put_at, *]; done) | ((try simp [eqz] at *); omega))
theorem eqT_is (s t : St) (hs : Fits s) : Ans (vb (eqz s.tasks.length t.tasks.length && (fstP (badAt s.tasks t.tasks) 0 s.tasks.length).isNone)) [St.c s, St.c t] (callL tab0 ext0 55 [slT s.tasks, slT t.tasks, .fn 48 []] [St.c s, St.c t]) := by
  rw [callL_tab _ _ rfl tab55 rfl]
  simp +contextual [C55, push_cast, -Int.not_lt, -Int.not_le, ↓evI_call, ↓evI_calli, ↓evI_calln, ↓evI_callz, ↓evI_callv, ↓evI_mxn, slT]
  refine Ans.split (fun c => ?_) (fun c => ?_)
  · refine Ans.mk0 ?_
    show vb false = vb _
    congr 1; symm; simp [c]
  · have k4 : eqz (s.tasks.length : Int) t.tasks.length = true := by simpa using c
    have hab : s.tasks.length = t.tasks.length := by simp [eqz] at k4; omega
    rw [k4, Bool.true_and]
    refine behindP (P := fun r => Ans (vb _) [St.c s, St.c t] r) (eqT_loop s t hs hab s.tasks.length 0 _ (by omega) (by simp [put_at, slT])) ?_
    intro r h
    unfold FQ at h
    split at h
    · rename_i hf
      obtain ⟨e', rfl, -⟩ := h
      simp +contextual [push_cast, -Int.not_lt, -Int.not_le, ↓evI_call, ↓evI_calli, ↓evI_calln, ↓evI_callz, ↓evI_callv, ↓evI_mxn, hf]
      exact Ans.mk0 rfl
    · rename_i hf
      obtain ⟨e', junk, rfl, g⟩ := h
      simp +contextual [push_cast, -Int.not_lt, -Int.not_le, ↓evI_call, ↓evI_calli, ↓evI_calln, ↓evI_callz, ↓evI_callv, ↓evI_mxn, hf, g]
      exact ⟨junk, rfl⟩
theorem sameS_is (s t : St) (hs : Fits s) : Ans (vb (sameSt s t)) [] (callL tab0 ext0 19 [.agg (St.c s), .agg (St.c t)] []) := by
  rw [callL_tab _ _ rfl tab19 rfl]
  have e1 := pure_vb (k := false) (eqJ s.cores t.cores [] clean_nil hs.cores)
  have e2 := pure_vb (k := false) (eqJ s.homes t.homes [] clean_nil hs.homes)
  obtain ⟨junk, e3⟩ := eqT_is s t hs
  have ha := aft_vb' (clean2 s t)
  simp only [St.c, slI, slT, List.length_cons, List.length_nil, List.cons_append, List.nil_append, Nat.zero_add, Nat.reduceAdd] at e1 e2 e3 ha
  obtain ⟨x, hx⟩ : ∃ x, x = decide (s.cores = t.cores) := ⟨_, rfl⟩
  obtain ⟨y, hy⟩ : ∃ y, y = decide (s.homes = t.homes) := ⟨_, rfl⟩
  unfold sameSt
  rw [← hx] at e1 ⊢
  rw [← hy] at e2 ⊢
  clear hx hy
  simp +contextual (maxSteps := 1000000) [C19, push_cast, -Int.not_lt, -Int.not_le, ↓evI_call, ↓evI_calli, ↓evI_calln, ↓evI_callz, ↓evI_callv, ↓evI_mxn, St.c, slI, slT, e1, e2, e3, ha]
  refine Ans.nil ?_
  show vb _ = vb _
  congr 1
  simp [Bool.and_assoc]
end Go.Proofs.YtkohggddaheefaaEv
