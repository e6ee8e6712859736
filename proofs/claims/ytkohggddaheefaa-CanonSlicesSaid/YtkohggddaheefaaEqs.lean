/- slices.Equal of numbers, parts; the reference's. -/
import Derived.Test.YtkohggddaheefaaLib
import Derived.Test.YtkohggddaheefaaT1
set_option linter.unusedSimpArgs false
set_option linter.unusedVariables false
namespace Go.Proofs.YtkohggddaheefaaEv
open Go
set_option maxHeartbeats 1000000

theorem eqJ_loop (l m : List Int) (bx : Bx) (hc : Clean bx) (hlm : l.length = m.length) (hl : l.length ≤ 4611686018427387904) :
    ∀ d i (e : Env), i + d = l.length → (e 0 = slI l ∧ e 1 = slI m ∧ e 12 = vi l.length ∧ e 13 = vi i) → ∃ a, evL tab0 ext0 bx.length L54_0 (e, bx) = some a ∧ EqQ (fun a b : Int => decide (a = b)) l m bx 4 i a := by
  have hcd := hc.2
  have hlm' : (l.length : Int) = m.length := by omega
  refine loop_ind (St := fun i (e : Env) => e 0 = slI l ∧ e 1 = slI m ∧ e 12 = vi l.length ∧ e 13 = vi i) ?_ ?_
  · rintro e ⟨h0, h1, h12, h13⟩
    refine ⟨_, (go54_0 _ _).trans (by simp [B54_0, push_cast, -Int.not_lt, -Int.not_le, ↓evI_call, ↓evI_calli, ↓evI_calln, ↓evI_callz, ↓evI_callv, ↓evI_mxn, loopIn, loopIn0, keepL, emp, A.dang, A.dangC, h0, h1, h12, h13, slI, hcd, hlm]; rfl), _, [], .inl ⟨?_, rfl⟩⟩
    rw [List.drop_of_length_le (by omega), List.drop_of_length_le (by omega)]; rfl
  · rintro i e hil ⟨h0, h1, h12, h13⟩
    have him : i < m.length := by omega
    by_cases hb : l[i] = m[i]
    · right
      have hz := eqz_self
      refine ⟨_, (go54_0 _ _).trans (by simp [B54_0, push_cast, -Int.not_lt, -Int.not_le, ↓evI_call, ↓evI_calli, ↓evI_calln, ↓evI_callz, ↓evI_callv, ↓evI_mxn, loopIn, loopIn0, keepL, emp, A.dang, A.dangC, h0, h1, h12, h13, slI, hcd, hil, him, drop_int l i hil, drop_int m i him, hb, hz]; rfl), ?_, EqQ.step hil him (by simpa using hb)⟩
      simp [put_at, slI]
      rw [wrap_in _ (by omega) (by omega)]
    · left
      have hz : ∀ x y : Int, eqz x y = decide (x = y) := fun _ _ => rfl
      refine ⟨_, (go54_0 _ _).trans (by simp [B54_0, push_cast, -Int.not_lt, -Int.not_le, ↓evI_call, ↓evI_calli, ↓evI_calln, ↓evI_callz, ↓evI_callv, ↓evI_mxn, loopIn, loopIn0, keepL, emp, A.dang, A.dangC, h0, h1, h12, h13, slI, hcd, hil, him, drop_int l i hil, drop_int m i him, hb, hz]; rfl), _, [], .inr ⟨?_, by simp; rfl, ?_⟩⟩
      · rw [eqF_drop _ _ _ _ hil him]; simp [hb]
      · simp [put_at]
theorem eqJ (l m : List Int) (bx : Bx) (hc : Clean bx) (hl : l.length ≤ 4611686018427387904) :
    ∃ junk, callL tab0 ext0 54 [slI l, slI m] bx = some (vb (decide (l = m)), bx ++ junk) := by
  rw [callL_tab _ _ rfl tab54 rfl, ← eqF_eq]
  by_cases hlm : l.length = m.length
  · have hlm' : (l.length : Int) = m.length := by omega
    simp [C54, push_cast, -Int.not_lt, -Int.not_le, ↓evI_call, ↓evI_calli, ↓evI_calln, ↓evI_callz, ↓evI_callv, ↓evI_mxn, slI, hlm', eqz]
    refine behindP (P := fun r => ∃ junk, r = some (vb (eqF (fun a b => decide (a = b)) l m), bx ++ junk)) (eqJ_loop l m bx hc hlm hl l.length 0 _ (by omega) (by simp [put_at, slI, hlm'])) ?_
    rintro a ⟨e', junk, ⟨h, rfl⟩ | ⟨h, rfl, h4⟩⟩
    · simp only [List.drop_zero] at h
      exact ⟨[], by simp [push_cast, -Int.not_lt, -Int.not_le, ↓evI_call, ↓evI_calli, ↓evI_calln, ↓evI_callz, ↓evI_callv, ↓evI_mxn, h]⟩
    · simp only [List.drop_zero] at h
      exact ⟨junk, by simp [push_cast, -Int.not_lt, -Int.not_le, ↓evI_call, ↓evI_calli, ↓evI_calln, ↓evI_callz, ↓evI_callv, ↓evI_mxn, h, h4]⟩
  · refine ⟨[], ?_⟩
    have hlm' : ¬ (l.length : Int) = m.length := by omega
    simp [C54, push_cast, -Int.not_lt, -Int.not_le, ↓evI_call, ↓evI_calli, ↓evI_calln, ↓evI_callz, ↓evI_callv, ↓evI_mxn, slI, hlm', eqz, eqF_len _ _ _ hlm]

theorem eqP_loop (l m : List Pt) (bx : Bx) (hc : Clean bx) (hlm : l.length = m.length) (hl : l.length ≤ 4611686018427387904) :
    ∀ d i (e : Env), i + d = l.length → (e 0 = slP l ∧ e 1 = slP m ∧ e 12 = vi l.length ∧ e 13 = vi i) → ∃ a, evL tab0 ext0 bx.length L70_0 (e, bx) = some a ∧ EqQ (fun a b : Pt => decide (a = b)) l m bx 4 i a := by
  have hcd := hc.2
  have hlm' : (l.length : Int) = m.length := by omega
  refine loop_ind (St := fun i (e : Env) => e 0 = slP l ∧ e 1 = slP m ∧ e 12 = vi l.length ∧ e 13 = vi i) ?_ ?_
  · rintro e ⟨h0, h1, h12, h13⟩
    refine ⟨_, (go70_0 _ _).trans (by simp [B70_0, push_cast, -Int.not_lt, -Int.not_le, ↓evI_call, ↓evI_calli, ↓evI_calln, ↓evI_callz, ↓evI_callv, ↓evI_mxn, loopIn, loopIn0, keepL, emp, A.dang, A.dangC, h0, h1, h12, h13, slP, hcd, Pt.c, eqCells_pt, hlm]; rfl), _, [], .inl ⟨?_, rfl⟩⟩
    rw [List.drop_of_length_le (by omega), List.drop_of_length_le (by omega)]; rfl
  · rintro i e hil ⟨h0, h1, h12, h13⟩
    have him : i < m.length := by omega
    by_cases hb : l[i] = m[i]
    · right
      have hz := eqz_self
      refine ⟨_, (go70_0 _ _).trans (by simp [B70_0, push_cast, -Int.not_lt, -Int.not_le, ↓evI_call, ↓evI_calli, ↓evI_calln, ↓evI_callz, ↓evI_callv, ↓evI_mxn, loopIn, loopIn0, keepL, emp, A.dang, A.dangC, h0, h1, h12, h13, slP, hcd, Pt.c, eqCells_pt, hil, him, drop_pt l i hil, drop_pt m i him, hb, hz]; rfl), ?_, EqQ.step hil him (by simpa using hb)⟩
      simp [put_at, slP]
      rw [wrap_in _ (by omega) (by omega)]
    · left
      have hz : ∀ x y : Int, eqz x y = decide (x = y) := fun _ _ => rfl
      refine ⟨_, (go70_0 _ _).trans (by simp [B70_0, push_cast, -Int.not_lt, -Int.not_le, ↓evI_call, ↓evI_calli, ↓evI_calln, ↓evI_callz, ↓evI_callv, ↓evI_mxn, loopIn, loopIn0, keepL, emp, A.dang, A.dangC, h0, h1, h12, h13, slP, hcd, Pt.c, eqCells_pt, hil, him, drop_pt l i hil, drop_pt m i him, hb, hz]; rfl), _, [], .inr ⟨?_, by simp; rfl, ?_⟩⟩
      · rw [eqF_drop _ _ _ _ hil him]; simp [hb]
      · simp [put_at]
theorem eqP (l m : List Pt) (bx : Bx) (hc : Clean bx) (hl : l.length ≤ 4611686018427387904) :
    ∃ junk, callL tab0 ext0 70 [slP l, slP m] bx = some (vb (decide (l = m)), bx ++ junk) := by
  rw [callL_tab _ _ rfl tab70 rfl, ← eqF_eq]
  by_cases hlm : l.length = m.length
  · have hlm' : (l.length : Int) = m.length := by omega
    simp [C70, push_cast, -Int.not_lt, -Int.not_le, ↓evI_call, ↓evI_calli, ↓evI_calln, ↓evI_callz, ↓evI_callv, ↓evI_mxn, slP, hlm', eqz]
    refine behindP (P := fun r => ∃ junk, r = some (vb (eqF (fun a b => decide (a = b)) l m), bx ++ junk)) (eqP_loop l m bx hc hlm hl l.length 0 _ (by omega) (by simp [put_at, slP, hlm'])) ?_
    rintro a ⟨e', junk, ⟨h, rfl⟩ | ⟨h, rfl, h4⟩⟩
    · simp only [List.drop_zero] at h
      exact ⟨[], by simp [push_cast, -Int.not_lt, -Int.not_le, ↓evI_call, ↓evI_calli, ↓evI_calln, ↓evI_callz, ↓evI_callv, ↓evI_mxn, h]⟩
    · simp only [List.drop_zero] at h
      exact ⟨junk, by simp [push_cast, -Int.not_lt, -Int.not_le, ↓evI_call, ↓evI_calli, ↓evI_calln, ↓evI_callz, ↓evI_callv, ↓evI_mxn, h, h4]⟩
  · refine ⟨[], ?_⟩
    have hlm' : ¬ (l.length : Int) = m.length := by omega
    simp [C70, push_cast, -Int.not_lt, -Int.not_le, ↓evI_call, ↓evI_calli, ↓evI_calln, ↓evI_callz, ↓evI_callv, ↓evI_mxn, slP, hlm', eqz, eqF_len _ _ _ hlm]

theorem eqR_loop (l m : List Int) (bx : Bx) (hc : Clean bx) (hlm : l.length = m.length) (hl : l.length ≤ 4611686018427387904) :
    ∀ d i (e : Env), i + d = l.length → (e 0 = slI l ∧ e 1 = slI m ∧ e 5 = vi i) → ∃ a, evL tab0 ext0 bx.length L56_0 (e, bx) = some a ∧ EqQ (fun a b : Int => decide (a = b)) l m bx 4 i a := by
  have hcd := hc.2
  have hlm' : (l.length : Int) = m.length := by omega
  refine loop_ind (St := fun i (e : Env) => e 0 = slI l ∧ e 1 = slI m ∧ e 5 = vi i) ?_ ?_
  · rintro e ⟨h0, h1, h5⟩
    refine ⟨_, (go56_0 _ _).trans (by simp [B56_0, push_cast, -Int.not_lt, -Int.not_le, ↓evI_call, ↓evI_calli, ↓evI_calln, ↓evI_callz, ↓evI_callv, ↓evI_mxn, loopIn, loopIn0, keepL, emp, A.dang, A.dangC, h0, h1, h5, slI, hcd, hlm]; rfl), _, [], .inl ⟨?_, rfl⟩⟩
    rw [List.drop_of_length_le (by omega), List.drop_of_length_le (by omega)]; rfl
  · rintro i e hil ⟨h0, h1, h5⟩
    have him : i < m.length := by omega
    by_cases hb : l[i] = m[i]
    · right
      have hz := eqz_self
      refine ⟨_, (go56_0 _ _).trans (by simp [B56_0, push_cast, -Int.not_lt, -Int.not_le, ↓evI_call, ↓evI_calli, ↓evI_calln, ↓evI_callz, ↓evI_callv, ↓evI_mxn, loopIn, loopIn0, keepL, emp, A.dang, A.dangC, h0, h1, h5, slI, hcd, hil, him, drop_int l i hil, drop_int m i him, hb, hz]; rfl), ?_, EqQ.step hil him (by simpa using hb)⟩
      simp [put_at, slI]
      rw [wrap_in _ (by omega) (by omega)]
    · left
      have hz : ∀ x y : Int, eqz x y = decide (x = y) := fun _ _ => rfl
      refine ⟨_, (go56_0 _ _).trans (by simp [B56_0, push_cast, -Int.not_lt, -Int.not_le, ↓evI_call, ↓evI_calli, ↓evI_calln, ↓evI_callz, ↓evI_callv, ↓evI_mxn, loopIn, loopIn0, keepL, emp, A.dang, A.dangC, h0, h1, h5, slI, hcd, hil, him, drop_int l i hil, drop_int m i him, hb, hz]; rfl), _, [], .inr ⟨?_, by simp; rfl, ?_⟩⟩
      · rw [eqF_drop _ _ _ _ hil him]; simp [hb]
      · simp [put_at]
theorem eqR (l m : List Int) (bx : Bx) (hc : Clean bx) (hl : l.length ≤ 4611686018427387904) :
    ∃ junk, callL tab0 ext0 56 [slI l, slI m] bx = some (vb (decide (l = m)), bx ++ junk) := by
  rw [callL_tab _ _ rfl tab56 rfl, ← eqF_eq]
  by_cases hlm : l.length = m.length
  · have hlm' : (l.length : Int) = m.length := by omega
    simp [C56, push_cast, -Int.not_lt, -Int.not_le, ↓evI_call, ↓evI_calli, ↓evI_calln, ↓evI_callz, ↓evI_callv, ↓evI_mxn, slI, hlm', eqz]
    refine behindP (P := fun r => ∃ junk, r = some (vb (eqF (fun a b => decide (a = b)) l m), bx ++ junk)) (eqR_loop l m bx hc hlm hl l.length 0 _ (by omega) (by simp [put_at, slI, hlm'])) ?_
    rintro a ⟨e', junk, ⟨h, rfl⟩ | ⟨h, rfl, h4⟩⟩
    · simp only [List.drop_zero] at h
      exact ⟨[], by simp [push_cast, -Int.not_lt, -Int.not_le, ↓evI_call, ↓evI_calli, ↓evI_calln, ↓evI_callz, ↓evI_callv, ↓evI_mxn, h]⟩
    · simp only [List.drop_zero] at h
      exact ⟨junk, by simp [push_cast, -Int.not_lt, -Int.not_le, ↓evI_call, ↓evI_calli, ↓evI_calln, ↓evI_callz, ↓evI_callv, ↓evI_mxn, h, h4]⟩
  · refine ⟨[], ?_⟩
    have hlm' : ¬ (l.length : Int) = m.length := by omega
    simp [C56, push_cast, -Int.not_lt, -Int.not_le, ↓evI_call, ↓evI_calli, ↓evI_calln, ↓evI_callz, ↓evI_callv, ↓evI_mxn, slI, hlm', eqz, eqF_len _ _ _ hlm]
end Go.Proofs.YtkohggddaheefaaEv
