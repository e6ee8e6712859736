/- Which sets the laws look at. -/
import Derived.Test.YtclebnamhpgdmaaGreatCheck
set_option linter.unusedSimpArgs false
set_option linter.unusedVariables false
namespace Go.Proofs.YtclebnamhpgdmaaGreatEv
open Go
set_option maxHeartbeats 2000000
def bigTk (t : Tk) : Bool := decide (20 < (t.name.size : Int)) || decide (10 < (t.parts.length : Int))
def few8 (s : St) : Bool := !(decide (8 < (s.cores.length : Int)) || decide (10 < (s.homes.length : Int)) || decide (9 < (s.tasks.length : Int))) && !s.tasks.any bigTk
theorem few_loop_6 (s : St) (hl : s.tasks.length ≤ 4611686018427387904) :
    ∀ d i (e : Env), i + d = s.tasks.length → (e 1 = .ptr 0 0 ∧ e 3 = vi i) → ∃ r, evL tab0 ext0 0 L6_0 (e, [St.c s]) = some r ∧ FQ (fun i => (s.tasks[i]?.map bigTk).getD false) [St.c s] 0 (fun _ e => e 2 = vb false) (fun _ => True) i d r := by
  refine fq_loop (St := fun i e => e 1 = .ptr 0 0 ∧ e 3 = vi i) _ _ _ _ _ ?_ ?_
  · rintro e ⟨h1, h3⟩
    exact ⟨_, (go6_0 _ _).trans (by simp [B6_0, push_cast, -Int.not_lt, -Int.not_le, ↓evI_call, ↓evI_calli, ↓evI_callv, ↓evI_mxn, loopIn, loopIn0, keepL, emp, A.dang, A.dangC, h1, h3, slI, slT, St.c]; rfl), trivial⟩
  · rintro i e hi ⟨h1, h3⟩
    rw [go6_0]
    have hi' : (i : Int) < s.tasks.length := by omega
    have hw : IntKind.wrap .i64 ((i : Int) + 1) = (i : Int) + 1 := wrap_in _ (by omega) (by omega)
    simp +contextual [B6_0, push_cast, -Int.not_lt, -Int.not_le, ↓evI_call, ↓evI_calli, ↓evI_callv, ↓evI_mxn, loopIn, loopIn0, keepL, emp, A.dang, A.dangC, h1, h3, slI, slT, slP, St.c, Tk.c, hi, hi', hw, drop_tk _ i hi, bigTk]
    (repeat' refine Step.split (fun cc => ?_) (fun cc => ?_)) <;> first | (refine Step.ret0 ?_ ?_ <;> first | (simp_all [put_at, eqz]; done) | (simp [put_at, *]; done) | ((try simp [eqz] at *); omega)) | (refine Step.go ?_ ?_ <;> first | (simp_all [put_at, eqz]; done) | (simp [put_at, *]; done) | ((try simp [eqz] at *); omega)) | (refine Step.ret _ ?_ ?_ <;> first | (simp_all [put_at, eqz]; done) | (simp [put_at, *]; done) | ((try simp [eqz] at *); omega)) | (refine Step.goJ _ (by simp) ?_ ?_ <;> first | (simp_all [put_at, eqz]; done) | (simp [put_at, *]; done) | ((try simp [eqz] at *); omega))
theorem few_is_6 (s : St) : Ans (vb (few8 s)) [] (callL tab0 ext0 6 [.agg (St.c s)] []) := by
  rw [callL_tab _ _ rfl tab6 rfl]
  simp +contextual [C6, push_cast, -Int.not_lt, -Int.not_le, ↓evI_call, ↓evI_calli, ↓evI_callv, ↓evI_mxn, St.c, slI, slT]
  refine Ans.split (fun c => Ans.nil ?_) (fun c => ?_)
  · show vb false = vb _
    congr 1; symm
    unfold few8
    rw [Bool.eq_false_iff]
    simp
    intros
    omega
  · have h1 := few_loop_6 s (by omega) s.tasks.length 0
    simp only [St.c, slI, slT] at h1
    have hk : few8 s = !s.tasks.any bigTk := by
      have e1 : decide (8 < (s.cores.length : Int)) = false := by simp; omega
      have e2 : decide (10 < (s.homes.length : Int)) = false := by simp; omega
      have e3 : decide (9 < (s.tasks.length : Int)) = false := by simp; omega
      unfold few8; rw [e1, e2, e3]; simp
    rw [hk, ← fst_any]
    refine behindP (P := fun r => Ans (vb _) [] r) (h1 _ (by omega) (by simp [put_at])) ?_
    intro r h
    unfold FQ at h
    split at h
    · rename_i hf
      obtain ⟨e', rfl, -⟩ := h
      simp +contextual [push_cast, -Int.not_lt, -Int.not_le, ↓evI_call, ↓evI_calli, ↓evI_callv, ↓evI_mxn, hf]
      exact ⟨_, rfl⟩
    · rename_i hf
      obtain ⟨e', junk, rfl, g⟩ := h
      simp +contextual [push_cast, -Int.not_lt, -Int.not_le, ↓evI_call, ↓evI_calli, ↓evI_callv, ↓evI_mxn, hf, g]
      exact ⟨_, rfl⟩
theorem few_loop_14 (s : St) (hl : s.tasks.length ≤ 4611686018427387904) :
    ∀ d i (e : Env), i + d = s.tasks.length → (e 1 = .ptr 0 0 ∧ e 3 = vi i) → ∃ r, evL tab0 ext0 0 L14_0 (e, [St.c s]) = some r ∧ FQ (fun i => (s.tasks[i]?.map bigTk).getD false) [St.c s] 0 (fun _ e => e 2 = vb false) (fun _ => True) i d r := by
  refine fq_loop (St := fun i e => e 1 = .ptr 0 0 ∧ e 3 = vi i) _ _ _ _ _ ?_ ?_
  · rintro e ⟨h1, h3⟩
    exact ⟨_, (go14_0 _ _).trans (by simp [B14_0, push_cast, -Int.not_lt, -Int.not_le, ↓evI_call, ↓evI_calli, ↓evI_callv, ↓evI_mxn, loopIn, loopIn0, keepL, emp, A.dang, A.dangC, h1, h3, slI, slT, St.c]; rfl), trivial⟩
  · rintro i e hi ⟨h1, h3⟩
    rw [go14_0]
    have hi' : (i : Int) < s.tasks.length := by omega
    have hw : IntKind.wrap .i64 ((i : Int) + 1) = (i : Int) + 1 := wrap_in _ (by omega) (by omega)
    simp +contextual [B14_0, push_cast, -Int.not_lt, -Int.not_le, ↓evI_call, ↓evI_calli, ↓evI_callv, ↓evI_mxn, loopIn, loopIn0, keepL, emp, A.dang, A.dangC, h1, h3, slI, slT, slP, St.c, Tk.c, hi, hi', hw, drop_tk _ i hi, bigTk]
    (repeat' refine Step.split (fun cc => ?_) (fun cc => ?_)) <;> first | (refine Step.ret0 ?_ ?_ <;> first | (simp_all [put_at, eqz]; done) | (simp [put_at, *]; done) | ((try simp [eqz] at *); omega)) | (refine Step.go ?_ ?_ <;> first | (simp_all [put_at, eqz]; done) | (simp [put_at, *]; done) | ((try simp [eqz] at *); omega)) | (refine Step.ret _ ?_ ?_ <;> first | (simp_all [put_at, eqz]; done) | (simp [put_at, *]; done) | ((try simp [eqz] at *); omega)) | (refine Step.goJ _ (by simp) ?_ ?_ <;> first | (simp_all [put_at, eqz]; done) | (simp [put_at, *]; done) | ((try simp [eqz] at *); omega))
theorem few_is_14 (s : St) : Ans (vb (few8 s)) [] (callL tab0 ext0 14 [.agg (St.c s)] []) := by
  rw [callL_tab _ _ rfl tab14 rfl]
  simp +contextual [C14, push_cast, -Int.not_lt, -Int.not_le, ↓evI_call, ↓evI_calli, ↓evI_callv, ↓evI_mxn, St.c, slI, slT]
  refine Ans.split (fun c => Ans.nil ?_) (fun c => ?_)
  · show vb false = vb _
    congr 1; symm
    unfold few8
    rw [Bool.eq_false_iff]
    simp
    intros
    omega
  · have h1 := few_loop_14 s (by omega) s.tasks.length 0
    simp only [St.c, slI, slT] at h1
    have hk : few8 s = !s.tasks.any bigTk := by
      have e1 : decide (8 < (s.cores.length : Int)) = false := by simp; omega
      have e2 : decide (10 < (s.homes.length : Int)) = false := by simp; omega
      have e3 : decide (9 < (s.tasks.length : Int)) = false := by simp; omega
      unfold few8; rw [e1, e2, e3]; simp
    rw [hk, ← fst_any]
    refine behindP (P := fun r => Ans (vb _) [] r) (h1 _ (by omega) (by simp [put_at])) ?_
    intro r h
    unfold FQ at h
    split at h
    · rename_i hf
      obtain ⟨e', rfl, -⟩ := h
      simp +contextual [push_cast, -Int.not_lt, -Int.not_le, ↓evI_call, ↓evI_calli, ↓evI_callv, ↓evI_mxn, hf]
      exact ⟨_, rfl⟩
    · rename_i hf
      obtain ⟨e', junk, rfl, g⟩ := h
      simp +contextual [push_cast, -Int.not_lt, -Int.not_le, ↓evI_call, ↓evI_calli, ↓evI_callv, ↓evI_mxn, hf, g]
      exact ⟨_, rfl⟩
theorem few8_fits (s : St) (h : few8 s = true) : Fits s := by
  unfold few8 at h
  simp [bigTk] at h
  obtain ⟨⟨⟨h1, h2⟩, h3⟩, h4⟩ := h
  exact ⟨by omega, by omega, by omega, fun t ht => by have := (h4 t ht).2; omega, fun t ht => by have := (h4 t ht).1; omega⟩
/-- A set as small as the laws look at. -/
structure Sm (s : St) : Prop where
  cores : s.cores.length ≤ 8
  homes : s.homes.length ≤ 10
  tasks : s.tasks.length ≤ 9
  parts : ∀ t ∈ s.tasks, t.parts.length ≤ 10
  names : ∀ t ∈ s.tasks, t.name.size ≤ 20
theorem Sm.fits {s : St} (h : Sm s) : Fits s := ⟨by have := h.cores; omega, by have := h.homes; omega, by have := h.tasks; omega, fun t ht => by have := h.parts t ht; omega, fun t ht => by have := h.names t ht; omega⟩
theorem few8_sm (s : St) (h : few8 s = true) : Sm s := by
  unfold few8 at h
  simp [bigTk] at h
  obtain ⟨⟨⟨h1, h2⟩, h3⟩, h4⟩ := h
  exact ⟨by omega, by omega, by omega, fun t ht => by have := (h4 t ht).2; omega, fun t ht => by have := (h4 t ht).1; omega⟩
end Go.Proofs.YtclebnamhpgdmaaGreatEv
