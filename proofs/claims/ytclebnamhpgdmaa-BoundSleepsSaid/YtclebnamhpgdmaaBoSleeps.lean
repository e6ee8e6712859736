/- swingbridgelaw17.BoundSleeps. -/
import Derived.Test.YtclebnamhpgdmaaExpl
import Derived.Test.YtclebnamhpgdmaaIn1
set_option linter.unusedSimpArgs false
set_option linter.unusedVariables false
namespace Go.Proofs.YtclebnamhpgdmaaEv
open Go
set_option maxHeartbeats 4000000
/-! ### the plain law -/
def psA (o : List Pt) : List Pt := o ++ [⟨1, 3, 0⟩, ⟨3, 2, 0⟩]
def psB (o : List Pt) : List Pt := o ++ [⟨1, 4, 0⟩, ⟨3, 5, 0⟩]
theorem psA_g (o : List Pt) (ho : o = [] ∨ ∃ x, (1 ≤ x ∧ x ≤ 60) ∧ o = [⟨2, x, 0⟩]) : PtsG (psA o) := by
  rcases ho with rfl | ⟨x, hx, rfl⟩
  · exact ⟨by simp [psA], fun q hq => by simp [psA] at hq; rcases hq with rfl | rfl <;> simp⟩
  · exact ⟨by simp [psA], fun q hq => by simp [psA] at hq; rcases hq with rfl | rfl | rfl <;> simp <;> omega⟩
theorem psB_g (o : List Pt) (ho : o = [] ∨ ∃ x, (1 ≤ x ∧ x ≤ 60) ∧ o = [⟨2, x, 0⟩]) : PtsG (psB o) := by
  rcases ho with rfl | ⟨x, hx, rfl⟩
  · exact ⟨by simp [psB], fun q hq => by simp [psB] at hq; rcases hq with rfl | rfl <;> simp⟩
  · exact ⟨by simp [psB], fun q hq => by simp [psB] at hq; rcases hq with rfl | rfl | rfl <;> simp <;> omega⟩
def ps0 (x : Int) : List Pt := [⟨2, x, 0⟩]
theorem own_plain (x y : Int) : ownS (sPair 1 (psA []) (psB [])) [x, y] 0 = some 10 := by
  have h1 := psA_g [] (.inl rfl)
  have h2 := psB_g [] (.inl rfl)
  have ht := sPair_there (p := 1) (by omega) h1 h2 0 (by omega)
  have hp := sPair_fair0 h1 h2 x y 1 ⟨3, 2, 0⟩ rfl rfl
  have hw : waitsS (sPair 1 (psA []) (psB [])) [x, y] (0 : Nat) = some [0, 7] := by
    refine waits_of _ ht (by simp [ptsAt, sPair, psA]) fun i hi => ?_
    rcases i with _ | _ | i
    · exact waitF_no (by simp [kindAt, sPair, psA])
    · have hk3 : kindAt (sPair 1 (psA []) (psB [])) 0 1 = 3 := by simp [kindAt, sPair, psA]
      exact waitF_lock hk3 hp
    · simp at hi; omega
  unfold ownS wsumS
  rw [Int.natCast_zero] at hw
  rw [hw]
  simp [ptsAt, sPair, psA, allK, sumL, kLen]
theorem own_slept (x y o q : Int) (ho : 1 ≤ o ∧ o ≤ 60) (hq : 1 ≤ q ∧ q ≤ 60) : ownS (sPair 1 (psA (ps0 o)) (psB (ps0 q))) [x, y] 0 = some (10 + o) := by
  have h1 := psA_g (ps0 o) (.inr ⟨o, ho, rfl⟩)
  have h2 := psB_g (ps0 q) (.inr ⟨q, hq, rfl⟩)
  have ht := sPair_there (p := 1) (by omega) h1 h2 0 (by omega)
  have hp := sPair_fair0 h1 h2 x y 2 ⟨3, 2, 0⟩ rfl rfl
  have hl : longest (psB (ps0 q)) = 5 := by simp [longest, psB, ps0, maxL, kLen]; omega
  rw [hl] at hp
  have hw : waitsS (sPair 1 (psA (ps0 o)) (psB (ps0 q))) [x, y] (0 : Nat) = some [0, 0, 7] := by
    refine waits_of _ ht (by simp [ptsAt, sPair, psA, ps0]) fun i hi => ?_
    rcases i with _ | _ | _ | i
    · exact waitF_no (by simp [kindAt, sPair, psA, ps0])
    · exact waitF_no (by simp [kindAt, sPair, psA, ps0])
    · have hk3 : kindAt (sPair 1 (psA (ps0 o)) (psB (ps0 q))) 0 2 = 3 := by simp [kindAt, sPair, psA, ps0]
      exact waitF_lock hk3 hp
    · simp at hi; omega
  unfold ownS wsumS
  rw [Int.natCast_zero] at hw
  rw [hw]
  simp [ptsAt, sPair, psA, ps0, allK, sumL, kLen]
  omega
theorem others_same (x y w o q : Int) (hx : 0 ≤ x) (hy : 0 ≤ y) (ho : 1 ≤ o ∧ o ≤ 60) (hq : 1 ≤ q ∧ q ≤ 60) : othersS (sPair 1 (psA (ps0 o)) (psB (ps0 q))) [x, y] 0 w = othersS (sPair 1 (psA []) (psB [])) [x, y] 0 w := by
  rw [sPair_others0 (psA_g (ps0 o) (.inr ⟨o, ho, rfl⟩)) (psB_g (ps0 q) (.inr ⟨q, hq, rfl⟩)) x y w hx hy, sPair_others0 (psA_g [] (.inl rfl)) (psB_g [] (.inl rfl)) x y w hx hy]
  rfl
/-! ### the walk -/
theorem one_keep' (p : Int) (l : List Pt) : pureOf (callL tab0 ext0) true 19 [vi p, slP l] = some (.agg [vi p, .sl [vi 1] 1 1, .sl [vi 0] 1 1, .sl [vs ⟨#[97]⟩, vi 100, vi 100, vi 1, vi 0, slP l] 1 1]) := by
  rw [pureOf_b, callL_tab _ _ rfl tab19 rfl]
  simp [C19, push_cast, -Int.not_lt, -Int.not_le, ↓evI_call, ↓evI_calli, ↓evI_callv, ↓evI_mxn, slP, frzK]
theorem two_is7 (p a b c d : Int) : pureOf (callL tab0 ext0) false 20 [vi p, vi a, vi b, vi c, vi d] = some (.agg [vi p, .sl [vi 1] 1 0, .sl [vi 0] 1 0, .sl [vs ⟨#[97]⟩, vi 100, vi 100, vi 1, vi 0, .sl [vi 1, vi a, vi 0, vi 3, vi b, vi 0] 2 0, vs ⟨#[98]⟩, vi 200, vi 200, vi 2, vi 0, .sl [vi 1, vi c, vi 0, vi 3, vi d, vi 0] 2 0] 2 0]) := by
  rw [pureOf_b, callL_tab _ _ rfl tab20 rfl]
  have h := one_keep' p [⟨1, a, 0⟩, ⟨3, b, 0⟩]
  have e : slP [⟨1, a, 0⟩, ⟨3, b, 0⟩] = .sl [vi 1, vi a, vi 0, vi 3, vi b, vi 0] 2 0 := rfl
  rw [e] at h
  simp [C20, push_cast, -Int.not_lt, -Int.not_le, ↓evI_call, ↓evI_calli, ↓evI_callv, ↓evI_mxn, h, frzK, asList]
theorem umod {k : IntKind} {n : Int} (q : Int) (h1 : 0 ≤ n) (hk : 1 ≤ q) (hk2 : q ≤ 70000) : ∃ m, n.tmod q = m ∧ 0 ≤ m ∧ m < q ∧ IntKind.wrap .i64 m = m ∧ IntKind.wrap .i64 (m + 1) = m + 1 := by
  have e := Int.tmod_eq_emod_of_nonneg (b := q) h1
  have m1 := Int.emod_nonneg n (show q ≠ 0 by omega)
  have m2 := Int.emod_lt_of_pos n (show 0 < q by omega)
  exact ⟨_, e, m1, m2, wrap_in _ (by omega) (by omega), wrap_in _ (by omega) (by omega)⟩
theorem boundSleeps_is (sl ow wn : Int) (k0 : (Lit.int .u8 sl).wf = true) (k1 : (Lit.int .u8 ow).wf = true) (k2 : (Lit.int .u16 wn).wf = true) :
    Ans (vb true) [] (callL tab0 ext1 6 [vu8 sl, vu8 ow, .val (.int .u16 wn)] []) := by
  rw [callL_tab _ _ rfl tab6 rfl]
  have h1 := pure_vb (k := false) known_13
  have u0 := u8_of k0
  have u1 := u8_of k1
  have u2 : 0 ≤ wn ∧ wn ≤ 65535 := by
    have := k2
    simp [Lit.wf, IntKind.min, IntKind.max, IntKind.signed, IntKind.bits] at this
    omega
  obtain ⟨q, q1, q2, q3, q4, q5⟩ := umod (k := .u8) 60 u0.1 (by omega) (by omega)
  obtain ⟨o, o1, o2, o3, o4, o5⟩ := umod (k := .u8) 60 u1.1 (by omega) (by omega)
  obtain ⟨w, w1, w2, w3, w4, w5⟩ := umod (k := .u16) 3000 u2.1 (by omega) (by omega)
  have h2 := pure1 (two_is7 1 3 2 4 5)
  have hb2 : ∀ x ∈ [(80 : Int), 90], I64' x := by intro x hx; simp at hx; rcases hx with rfl | rfl <;> exact ⟨by omega, by omega⟩
  have gA := psA_g [] (.inl rfl)
  have gB := psB_g [] (.inl rfl)
  have gA2 := psA_g (ps0 (o + 1)) (.inr ⟨o + 1, by omega, rfl⟩)
  have gB2 := psB_g (ps0 (q + 1)) (.inr ⟨q + 1, by omega, rfl⟩)
  have h3 := pure_ansO (k := false) (own_is (sPair 1 (psA []) (psB [])) (sPair_sm gA gB) [80, 90] hb2 0)
  have h4 := pure_ansO (k := false) (own_is (sPair 1 (psA (ps0 (o + 1))) (psB (ps0 (q + 1)))) (sPair_sm gA2 gB2) [80, 90] hb2 0)
  have hw0 : I64' w := ⟨by omega, by omega⟩
  have h5 := pure_vi (k := false) (others_is (sPair 1 (psA []) (psB [])) (sPair_sm gA gB) [80, 90] hb2 0 w hw0)
  have h6 := pure_vi (k := false) (others_is (sPair 1 (psA (ps0 (o + 1))) (psB (ps0 (q + 1)))) (sPair_sm gA2 gB2) [80, 90] hb2 0 w hw0)
  rw [own_plain] at h3
  rw [own_slept _ _ _ _ (by omega) (by omega)] at h4
  rw [others_same 80 90 w (o + 1) (q + 1) (by omega) (by omega) (by omega) (by omega)] at h6
  generalize othersS (sPair 1 (psA []) (psB [])) [80, 90] 0 w = W at h5 h6
  have s1 : St.c (sPair 1 (psA []) (psB [])) = [vi 1, .sl [vi 1] 1 0, .sl [vi 0] 1 0, .sl [vs ⟨#[97]⟩, vi 100, vi 100, vi 1, vi 0, .sl [vi 1, vi 3, vi 0, vi 3, vi 2, vi 0] 2 0, vs ⟨#[98]⟩, vi 200, vi 200, vi 2, vi 0, .sl [vi 1, vi 4, vi 0, vi 3, vi 5, vi 0] 2 0] 2 0] := rfl
  have s2 : St.c (sPair 1 (psA (ps0 (o + 1))) (psB (ps0 (q + 1)))) = [vi 1, .sl [vi 1] 1 0, .sl [vi 0] 1 0, .sl [vs ⟨#[97]⟩, vi 100, vi 100, vi 1, vi 0, .sl [vi 2, vi (o + 1), vi 0, vi 1, vi 3, vi 0, vi 3, vi 2, vi 0] 3 0, vs ⟨#[98]⟩, vi 200, vi 200, vi 2, vi 0, .sl [vi 2, vi (q + 1), vi 0, vi 1, vi 4, vi 0, vi 3, vi 5, vi 0] 3 0] 2 0] := rfl
  have s4 : slI [(80 : Int), 90] = .sl [vi 80, vi 90] 2 0 := rfl
  rw [s1, s4] at h3 h5
  rw [s2, s4] at h4 h6
  simp only [Option.getD_some, Option.isSome_some] at h3 h4
  have e1 : IntKind.wrap .i64 (10 + o) = 10 + o := wrap_in _ (by omega) (by omega)
  have e2 : IntKind.wrap .i64 (10 + o + 1) = 10 + (o + 1) := by rw [wrap_in _ (by omega) (by omega)]; omega
  simp [C6, push_cast, -Int.not_lt, -Int.not_le, ↓evI_call, ↓evI_calli, ↓evI_callv, ↓evI_mxn, h1, q1, q4, q5, o1, o4, o5, w1, w4, h2, h3, h4, h5, h6, e1, e2, eqz_self, asList]
  exact ⟨_, rfl⟩
end Go.Proofs.YtclebnamhpgdmaaEv
