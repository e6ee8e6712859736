/- The least number that is told of itself. -/
import Derived.Test.YtclebnamhpgdmaaGreatAgent
set_option linter.unusedSimpArgs false
set_option linter.unusedVariables false
namespace Go.Proofs.YtclebnamhpgdmaaGreatEv
open Go
/-- The first fixed place, of these. -/
def lfp (f : Int → Int) (lo hi : Int) : Option Int := (fstP (fun d : Nat => decide (f (lo + (d : Int)) = lo + (d : Int))) 0 (hi + 1 - lo).toNat).map fun d : Nat => lo + (d : Int)
theorem fstP_first {p : Nat → Bool} : ∀ (d i k : Nat), fstP p i d = some k → ∀ j, i ≤ j → j < k → p j = false
  | 0, _, _, h => by cases h
  | d + 1, i, k, h => by
    unfold fstP at h
    cases hp : p i with
    | true => rw [hp] at h; cases h; intro j h1 h2; omega
    | false =>
      rw [hp] at h
      intro j h1 h2
      by_cases hj : j = i
      · rw [hj]; exact hp
      · exact fstP_first d (i + 1) k h j (by omega) h2
theorem lfp_some {f : Int → Int} {lo hi w : Int} : lfp f lo hi = some w ↔ lo ≤ w ∧ w ≤ hi ∧ f w = w ∧ ∀ v, lo ≤ v → v < w → f v ≠ v := by
  unfold lfp
  constructor
  · intro h
    rw [Option.map_eq_some_iff] at h
    obtain ⟨d, h1, rfl⟩ := h
    obtain ⟨_, h3, h4⟩ := fstP_some _ _ _ h1
    have h5 := fstP_first _ _ _ h1
    refine ⟨by omega, by omega, by simpa using h4, fun v h6 h7 => ?_⟩
    have := h5 (v - lo).toNat (Nat.zero_le _) (by omega)
    rw [decide_eq_false_iff_not] at this
    rwa [show lo + (((v - lo).toNat : Nat) : Int) = v by omega] at this
  · rintro ⟨h1, h2, h3, h4⟩
    rw [Option.map_eq_some_iff]
    cases hf : fstP (fun d : Nat => decide (f (lo + (d : Int)) = lo + (d : Int))) 0 (hi + 1 - lo).toNat with
    | none =>
      rw [fstP_none] at hf
      have := hf (w - lo).toNat (Nat.zero_le _) (by omega)
      rw [decide_eq_false_iff_not, show lo + (((w - lo).toNat : Nat) : Int) = w by omega] at this
      exact absurd h3 this
    | some d =>
      refine ⟨d, rfl, ?_⟩
      obtain ⟨_, k3, k4⟩ := fstP_some _ _ _ hf
      have k5 := fstP_first _ _ _ hf
      have k4 : f (lo + d) = lo + d := by simpa using k4
      by_cases hw : lo + (d : Int) = w
      · exact hw
      · rcases (by omega : lo + (d : Int) < w ∨ w < lo + (d : Int)) with h | h
        · exact absurd k4 (h4 _ (by omega) h)
        · have := k5 (w - lo).toNat (Nat.zero_le _) (by omega)
          rw [decide_eq_false_iff_not, show lo + (((w - lo).toNat : Nat) : Int) = w by omega] at this
          exact absurd h3 this
theorem lfp_none {f : Int → Int} {lo hi : Int} : lfp f lo hi = none ↔ ∀ v, lo ≤ v → v ≤ hi → f v ≠ v := by
  unfold lfp
  rw [Option.map_eq_none_iff, fstP_none]
  constructor
  · intro h v h1 h2
    have := h (v - lo).toNat (Nat.zero_le _) (by omega)
    rw [decide_eq_false_iff_not, show lo + (((v - lo).toNat : Nat) : Int) = v by omega] at this
    exact this
  · intro h k _ hk
    simpa using h (lo + k) (by omega) (by omega)
/-- Below one that is told no more of, there is one that is told of itself. -/
theorem lfp_pre {f : Int → Int} {lo hi w : Int} (hm : ∀ u v, lo ≤ u → u ≤ v → f u ≤ f v) (hlo : ∀ v, lo ≤ v → lo ≤ f v) (h1 : lo ≤ w) (h2 : w ≤ hi) (hw : f w ≤ w) : ∃ v, lfp f lo hi = some v ∧ v ≤ w := by
  have key : ∀ (d : Nat) (w : Int), (w - lo).toNat = d → lo ≤ w → w ≤ hi → f w ≤ w → ∃ v, lo ≤ v ∧ v ≤ w ∧ f v = v := by
    intro d
    induction d using Nat.strongRecOn with
    | ind d ih =>
      intro w hd h1 h2 hw
      by_cases he : f w = w
      · exact ⟨w, h1, Int.le_refl _, he⟩
      · have h3 := hlo w h1
        obtain ⟨v, v1, v2, v3⟩ := ih (f w - lo).toNat (by omega) (f w) rfl h3 (by omega) (hm _ _ h3 hw)
        exact ⟨v, v1, by omega, v3⟩
  obtain ⟨v, v1, v2, v3⟩ := key _ w rfl h1 h2 hw
  cases hl : lfp f lo hi with
  | none => exact absurd v3 (lfp_none.1 hl v v1 (by omega))
  | some u =>
    obtain ⟨u1, u2, u3, u4⟩ := lfp_some.1 hl
    refine ⟨u, rfl, ?_⟩
    by_cases huv : u ≤ v
    · omega
    · exact absurd v3 (u4 v v1 (by omega))
/-! ### more windows, more work -/
theorem ceil_mono {a b p : Int} (hp : 1 ≤ p) (h : a ≤ b) : ceilS a p ≤ ceilS b p := by
  unfold ceilS; exact Int.ediv_le_ediv (by omega) (by omega)
theorem jobs_mono {w w' b b' p : Int} (h : w ≤ w') (hb : b ≤ b') (hb0 : 0 ≤ b) : jobsS w b p ≤ jobsS w' b' p := by
  have := (jobs_le w' b' p).1
  unfold jobsS at this ⊢
  by_cases h1 : w < 1 ∨ b < 0 ∨ p < 1
  · rw [if_pos h1]; exact this
  · rw [if_neg h1, if_neg (by omega)]
    have := ceil_mono (p := p) (by omega) (show w + b ≤ w' + b' by omega)
    omega
theorem work_mono {w w' b b' p e e' : Int} (h : w ≤ w') (hb : b ≤ b') (hb0 : 0 ≤ b) (he : e ≤ e') : workS w b p e ≤ workS w' b' p e' := by
  unfold workS
  have h1 := jobs_mono (p := p) h hb hb0
  have h2 : jobsS w b p * max e 0 ≤ jobsS w' b' p * max e' 0 := Int.mul_le_mul h1 (by omega) (by omega) (jobs_le ..).1
  omega
theorem work_neg {w b p e : Int} (hb : b < 0) : workS w b p e = 0 := by
  unfold workS jobsS; rw [if_pos (by omega)]; omega
theorem work_mono_w {w w' b p e : Int} (h : w ≤ w') : workS w b p e ≤ workS w' b p e := by
  by_cases hb : b < 0
  · rw [work_neg hb, work_neg hb]; omega
  · exact work_mono h (Int.le_refl _) (by omega) (Int.le_refl _)
theorem sumN_mono {f g : Nat → Int} : ∀ n, (∀ i, i < n → f i ≤ g i) → sumN f n ≤ sumN g n
  | 0, _ => Int.le_refl _
  | n + 1, h => by
    have h1 := sumN_mono n fun i hi => h i (by omega); have h2 := h n (by omega)
    rw [sumN, sumN]; omega
theorem higher_mono_w (s bs n c) {w w' : Int} (h : w ≤ w') : higherS s bs n c w ≤ higherS s bs n c w' := by
  unfold higherS
  split
  · have := sumN_mono (f := hiF s bs n.toNat c w) (g := hiF s bs n.toNat c w') s.tasks.length fun i _ => by
      unfold hiF; split
      · exact work_mono_w h
      · omega
    omega
  · omega
end Go.Proofs.YtclebnamhpgdmaaGreatEv
