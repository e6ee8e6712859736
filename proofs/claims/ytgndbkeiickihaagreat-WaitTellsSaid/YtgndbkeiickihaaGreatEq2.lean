/- Two lists of numbers that are alike: slices.Equal, the reference's. -/
import Derived.Test.YtgndbkeiickihaaGreatExt
import Derived.Test.YtgndbkeiickihaaGreatT
set_option linter.unusedSimpArgs false
set_option linter.unusedVariables false
namespace Go.Proofs.YtgndbkeiickihaaGreatEv
open Go
set_option maxHeartbeats 1000000
theorem eqR2_loop (l m : List Int) (bx : Bx) (hc : Clean bx) (hlm : l.length = m.length) (hl : l.length ≤ 4611686018427387904) :
    ∀ d i (e : Env), i + d = l.length → (e 0 = slI l ∧ e 1 = slI m ∧ e 5 = vi i) → ∃ a, evL tab0 ext0 bx.length L12_0 (e, bx) = some a ∧ EqQ (fun a b : Int => decide (a = b)) l m bx 4 i a := by
  have hcd := hc.2
  have hlm' : (l.length : Int) = m.length := by omega
  refine loop_ind (St := fun i (e : Env) => e 0 = slI l ∧ e 1 = slI m ∧ e 5 = vi i) ?_ ?_
  · rintro e ⟨h0, h1, h5⟩
    refine ⟨_, (go12_0 _ _).trans (by simp [B12_0, push_cast, -Int.not_lt, -Int.not_le, ↓evI_call, ↓evI_calli, ↓evI_callv, ↓evI_mxn, loopIn, loopIn0, keepL, emp, A.dang, A.dangC, h0, h1, h5, slI, hcd, hlm]; rfl), _, [], .inl ⟨?_, rfl⟩⟩
    rw [List.drop_of_length_le (by omega), List.drop_of_length_le (by omega)]; rfl
  · rintro i e hil ⟨h0, h1, h5⟩
    have him : i < m.length := by omega
    by_cases hb : l[i] = m[i]
    · right
      have hz := eqz_self
      refine ⟨_, (go12_0 _ _).trans (by simp [B12_0, push_cast, -Int.not_lt, -Int.not_le, ↓evI_call, ↓evI_calli, ↓evI_callv, ↓evI_mxn, loopIn, loopIn0, keepL, emp, A.dang, A.dangC, h0, h1, h5, slI, hcd, hil, him, drop_int l i hil, drop_int m i him, hb, hz]; rfl), ?_, EqQ.step hil him (by simpa using hb)⟩
      simp [put_at, slI]
      rw [wrap_in _ (by omega) (by omega)]
    · left
      have hz : ∀ x y : Int, eqz x y = decide (x = y) := fun _ _ => rfl
      refine ⟨_, (go12_0 _ _).trans (by simp [B12_0, push_cast, -Int.not_lt, -Int.not_le, ↓evI_call, ↓evI_calli, ↓evI_callv, ↓evI_mxn, loopIn, loopIn0, keepL, emp, A.dang, A.dangC, h0, h1, h5, slI, hcd, hil, him, drop_int l i hil, drop_int m i him, hb, hz]; rfl), _, [], .inr ⟨?_, by simp; rfl, ?_⟩⟩
      · rw [eqF_drop _ _ _ _ hil him]; simp [hb]
      · simp [put_at]
theorem eqR2 (l m : List Int) (bx : Bx) (hc : Clean bx) (hl : l.length ≤ 4611686018427387904) :
    ∃ junk, callL tab0 ext0 12 [slI l, slI m] bx = some (vb (decide (l = m)), bx ++ junk) := by
  rw [callL_tab _ _ rfl tab12 rfl, ← eqF_eq]
  by_cases hlm : l.length = m.length
  · have hlm' : (l.length : Int) = m.length := by omega
    simp [C12, push_cast, -Int.not_lt, -Int.not_le, ↓evI_call, ↓evI_calli, ↓evI_callv, ↓evI_mxn, slI, hlm', eqz]
    refine behindP (P := fun r => ∃ junk, r = some (vb (eqF (fun a b => decide (a = b)) l m), bx ++ junk)) (eqR2_loop l m bx hc hlm hl l.length 0 _ (by omega) (by simp [put_at, slI, hlm'])) ?_
    rintro a ⟨e', junk, ⟨h, rfl⟩ | ⟨h, rfl, h4⟩⟩
    · simp only [List.drop_zero] at h
      exact ⟨[], by simp [push_cast, -Int.not_lt, -Int.not_le, ↓evI_call, ↓evI_calli, ↓evI_callv, ↓evI_mxn, h]⟩
    · simp only [List.drop_zero] at h
      exact ⟨junk, by simp [push_cast, -Int.not_lt, -Int.not_le, ↓evI_call, ↓evI_calli, ↓evI_callv, ↓evI_mxn, h, h4]⟩
  · refine ⟨[], ?_⟩
    have hlm' : ¬ (l.length : Int) = m.length := by omega
    simp [C12, push_cast, -Int.not_lt, -Int.not_le, ↓evI_call, ↓evI_calli, ↓evI_callv, ↓evI_mxn, slI, hlm', eqz, eqF_len _ _ _ hlm]
theorem eqR2_is (l m : List Int) (hl : l.length ≤ 4611686018427387904) : Ans (vb (decide (l = m))) [] (callL tab0 ext0 12 [slI l, slI m] []) := by
  obtain ⟨j, h⟩ := eqR2 l m [] clean_nil hl
  exact ⟨j, h⟩
end Go.Proofs.YtgndbkeiickihaaGreatEv
