/- swingbridgelaw17.BoundAlone. -/
import Derived.Test.YtclebnamhpgdmaaExpl
import Derived.Test.YtclebnamhpgdmaaIn1
set_option linter.unusedSimpArgs false
set_option linter.unusedVariables false
namespace Go.Proofs.YtclebnamhpgdmaaEv
open Go
set_option maxHeartbeats 4000000
theorem u8mod {n : Int} (k : Int) (h : (Lit.int .u8 n).wf = true) (hk : 1 ≤ k) (hk2 : k ≤ 255) : ∃ m, n.tmod k = m ∧ 0 ≤ m ∧ m < k ∧ IntKind.wrap .i64 m = m ∧ IntKind.wrap .i64 (m + 1) = m + 1 := by
  obtain ⟨h1, h2⟩ := u8_of h
  have e := Int.tmod_eq_emod_of_nonneg (b := k) h1
  have m1 := Int.emod_nonneg n (show k ≠ 0 by omega)
  have m2 := Int.emod_lt_of_pos n (show 0 < k by omega)
  exact ⟨_, e, m1, m2, wrap_in _ (by omega) (by omega), wrap_in _ (by omega) (by omega)⟩
theorem one_keep (p : Int) (l : List Pt) : pureOf (callL tab0 ext0) true 19 [vi p, slP l] = some (.agg [vi p, .sl [vi 1] 1 1, .sl [vi 0] 1 1, .sl [vs ⟨#[97]⟩, vi 100, vi 100, vi 1, vi 0, slP l] 1 1]) := by
  rw [pureOf_b, callL_tab _ _ rfl tab19 rfl]
  simp [C19, push_cast, -Int.not_lt, -Int.not_le, ↓evI_call, ↓evI_calli, ↓evI_callv, ↓evI_mxn, slP, frzK]
theorem boundAlone_is (r sl l r2 l2 pr : Int) (k0 : (Lit.int .u8 r).wf = true) (k1 : (Lit.int .u8 sl).wf = true) (k2 : (Lit.int .u8 l).wf = true) (k3 : (Lit.int .u8 r2).wf = true) (k4 : (Lit.int .u8 l2).wf = true) (k5 : (Lit.int .u8 pr).wf = true) :
    Ans (vb true) [] (callL tab0 ext1 4 [vu8 r, vu8 sl, vu8 l, vu8 r2, vu8 l2, vu8 pr] []) := by
  rw [callL_tab _ _ rfl tab4 rfl]
  have h1 := pure_vb (k := false) known_13
  obtain ⟨a, a1, a2, a3, a4, a5⟩ := u8mod 50 k0 (by omega) (by omega)
  obtain ⟨b, b1, b2, b3, b4, b5⟩ := u8mod 50 k1 (by omega) (by omega)
  obtain ⟨c, c1, c2, c3, c4, c5⟩ := u8mod 50 k2 (by omega) (by omega)
  obtain ⟨d, d1, d2, d3, d4, d5⟩ := u8mod 50 k3 (by omega) (by omega)
  obtain ⟨f, f1, f2, f3, f4, f5⟩ := u8mod 50 k4 (by omega) (by omega)
  obtain ⟨p, p1, p2, p3, p4, p5⟩ := u8mod 3 k5 (by omega) (by omega)
  have h2 := pure1 (one_keep (p + 1) [⟨1, a + 1, 0⟩, ⟨2, b + 1, 0⟩, ⟨3, c + 1, 0⟩])
  have hb1 : ∀ x ∈ [(100 : Int)], I64' x := by intro x hx; simp at hx; subst hx; exact ⟨by omega, by omega⟩
  have hb2 : ∀ x ∈ [(100 : Int), 100], I64' x := by intro x hx; simp at hx; subst hx; exact ⟨by omega, by omega⟩
  have h3 := pure_ansO (k := false) (next_is (sOne (p + 1) (a + 1) (b + 1) (c + 1)) (sOne_sm ..) [100] hb1 0)
  have h4 := pure_ansO (k := false) (next_is (sApart (p + 1) (a + 1) (b + 1) (c + 1) (d + 1) (f + 1)) (sApart_sm ..) [100, 100] hb2 0)
  rw [sOne_next (by omega) (by omega) (by omega) (by omega)] at h3
  rw [sApart_next (by omega) (by omega) (by omega) (by omega) (by omega) (by omega)] at h4
  have w1 : IntKind.wrap .i64 (a + 1 + (b + 1)) = a + 1 + (b + 1) := wrap_in _ (by omega) (by omega)
  have w2 : IntKind.wrap .i64 (a + 1 + (b + 1) + (c + 1)) = a + 1 + (b + 1) + (c + 1) := wrap_in _ (by omega) (by omega)
  have w3 : IntKind.wrap .i64 (a + 1 + (b + 1) + (c + 1) + f) = a + 1 + (b + 1) + (c + 1) + f := wrap_in _ (by omega) (by omega)
  have w4 : IntKind.wrap .i64 (a + 1 + (b + 1) + (c + 1) + f + 1) = a + 1 + (b + 1) + (c + 1) + (f + 1) := by rw [wrap_in _ (by omega) (by omega)]; omega
  have s1 : St.c (sOne (p + 1) (a + 1) (b + 1) (c + 1)) = [vi (p + 1), .sl [vi 1] 1 0, .sl [vi 0] 1 0, .sl [vs ⟨#[97]⟩, vi 100, vi 100, vi 1, vi 0, .sl [vi 1, vi (a + 1), vi 0, vi 2, vi (b + 1), vi 0, vi 3, vi (c + 1), vi 0] 3 0] 1 0] := rfl
  have s2 : St.c (sApart (p + 1) (a + 1) (b + 1) (c + 1) (d + 1) (f + 1)) = [vi (p + 1), .sl [vi 1, vi 1] 2 0, .sl [vi 0, vi 1] 2 0, .sl [vs ⟨#[97]⟩, vi 100, vi 100, vi 1, vi 0, .sl [vi 1, vi (a + 1), vi 0, vi 2, vi (b + 1), vi 0, vi 3, vi (c + 1), vi 0] 3 0, vs ⟨#[98]⟩, vi 3000, vi 3000, vi 2, vi 1, .sl [vi 1, vi (d + 1), vi 0, vi 3, vi (f + 1), vi 1] 2 0] 2 0] := rfl
  have s3 : slP [⟨1, a + 1, 0⟩, ⟨2, b + 1, 0⟩, ⟨3, c + 1, 0⟩] = .sl [vi 1, vi (a + 1), vi 0, vi 2, vi (b + 1), vi 0, vi 3, vi (c + 1), vi 0] 3 0 := rfl
  have s4 : slI [(100 : Int)] = .sl [vi 100] 1 0 := rfl
  have s5 : slI [(100 : Int), 100] = .sl [vi 100, vi 100] 2 0 := rfl
  rw [s1, s4] at h3
  rw [s2, s5] at h4
  rw [s3] at h2
  simp only [Option.getD_some, Option.isSome_some] at h3 h4
  by_cases hp2 : p + 1 = 2
  · have he : eqz (p + 1) 2 = true := by simp [eqz, hp2]
    rw [if_pos hp2, Int.add_zero] at h4
    simp [C4, push_cast, -Int.not_lt, -Int.not_le, ↓evI_call, ↓evI_calli, ↓evI_callv, ↓evI_mxn, h1, a1, a4, a5, b1, b4, b5, c1, c4, c5, d1, d4, d5, f1, f4, f5, p1, p4, p5, h2, h3, h4, w1, w2, w3, w4, eqz_self, asList, he]
    exact ⟨_, rfl⟩
  · have he : eqz (p + 1) 2 = false := by simp [eqz, hp2]
    rw [if_neg hp2] at h4
    simp [C4, push_cast, -Int.not_lt, -Int.not_le, ↓evI_call, ↓evI_calli, ↓evI_callv, ↓evI_mxn, h1, a1, a4, a5, b1, b4, b5, c1, c4, c5, d1, d4, d5, f1, f4, f5, p1, p4, p5, h2, h3, h4, w1, w2, w3, w4, eqz_self, asList, he]
    exact ⟨_, rfl⟩
end Go.Proofs.YtclebnamhpgdmaaEv
