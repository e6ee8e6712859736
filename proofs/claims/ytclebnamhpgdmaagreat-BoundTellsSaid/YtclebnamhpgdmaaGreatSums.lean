/- Sums, greatest ones over numbers below one. -/
import Derived.Test.YtclebnamhpgdmaaGreatGood
set_option linter.unusedSimpArgs false
set_option linter.unusedVariables false
namespace Go.Proofs.YtclebnamhpgdmaaGreatEv
open Go
def sumN (f : Nat → Int) : Nat → Int
  | 0 => 0
  | n + 1 => sumN f n + f n
def maxN (f : Nat → Int) : Nat → Int
  | 0 => 0
  | n + 1 => max (maxN f n) (f n)
theorem maxN_nonneg (f : Nat → Int) : ∀ n, 0 ≤ maxN f n
  | 0 => Int.le_refl _
  | n + 1 => by have := maxN_nonneg f n; unfold maxN; omega
theorem maxN_le {f : Nat → Int} {b : Int} (hb : 0 ≤ b) : ∀ n, (∀ i, i < n → f i ≤ b) → maxN f n ≤ b
  | 0, _ => hb
  | n + 1, h => by
    have := maxN_le hb n fun i hi => h i (by omega); have := h n (by omega); unfold maxN; omega
theorem le_maxN {f : Nat → Int} : ∀ n i, i < n → f i ≤ maxN f n
  | n + 1, i, h => by
    unfold maxN
    by_cases hi : i = n
    · subst hi; omega
    · have := le_maxN (f := f) n i (by omega); omega
theorem sumN_congr {f g : Nat → Int} : ∀ n, (∀ i, i < n → f i = g i) → sumN f n = sumN g n
  | 0, _ => rfl
  | n + 1, h => by rw [sumN, sumN, sumN_congr n fun i hi => h i (by omega), h n (by omega)]
theorem maxN_congr {f g : Nat → Int} : ∀ n, (∀ i, i < n → f i = g i) → maxN f n = maxN g n
  | 0, _ => rfl
  | n + 1, h => by rw [maxN, maxN, maxN_congr n fun i hi => h i (by omega), h n (by omega)]
theorem sumN_zero : ∀ n, sumN (fun _ => 0) n = 0
  | 0 => rfl
  | n + 1 => by rw [sumN, sumN_zero n]; rfl
theorem sumN_add (f g : Nat → Int) : ∀ n, sumN (fun i => f i + g i) n = sumN f n + sumN g n
  | 0 => rfl
  | n + 1 => by simp only [sumN, sumN_add f g n]; omega
theorem sumN_le {f : Nat → Int} {b : Int} : ∀ n, (∀ i, i < n → f i ≤ b) → sumN f n ≤ n * b
  | 0, _ => by simp [sumN]
  | n + 1, h => by
    have h1 := sumN_le n fun i hi => h i (by omega); have h2 := h n (by omega)
    rw [sumN, Int.natCast_succ, Int.add_mul, Int.one_mul]; omega
theorem sumN_ge {f : Nat → Int} : ∀ n, (∀ i, i < n → 0 ≤ f i) → 0 ≤ sumN f n
  | 0, _ => Int.le_refl _
  | n + 1, h => by
    have h1 := sumN_ge n fun i hi => h i (by omega); have h2 := h n (by omega)
    rw [sumN]; omega
theorem maxN_zero : ∀ n, maxN (fun _ => 0) n = 0
  | 0 => rfl
  | n + 1 => by rw [maxN, maxN_zero n]; rfl
/-- Sums in either order. -/
theorem sumN_sumL {α : Type} (f : Nat → α → Int) (n : Nat) : ∀ l : List α, sumN (fun c => sumL (f c) l) n = sumL (fun a => sumN (fun c => f c a) n) l
  | [] => sumN_zero n
  | a :: l => by
    rw [sumL, ← sumN_sumL f n l, ← sumN_add]; rfl
theorem maxN_max (f g : Nat → Int) : ∀ n, maxN (fun i => max (f i) (g i)) n = max (maxN f n) (maxN g n)
  | 0 => rfl
  | n + 1 => by simp only [maxN, maxN_max f g n]; omega
theorem maxN_maxL {α : Type} (f : Nat → α → Int) (n : Nat) : ∀ l : List α, maxN (fun c => maxL (f c) l) n = maxL (fun a => maxN (fun c => f c a) n) l
  | [] => maxN_zero n
  | a :: l => by
    rw [maxL, ← maxN_maxL f n l, ← maxN_max]; rfl
theorem sumN_one (x h : Int) : ∀ n : Nat, sumN (fun c => if h = (c : Int) then x else 0) n = if 0 ≤ h ∧ h < n then x else 0
  | 0 => by rw [sumN, if_neg (by omega)]
  | n + 1 => by
    rw [sumN, sumN_one x h n]
    by_cases h1 : h = (n : Int)
    · rw [if_neg (by omega), if_pos h1, if_pos (by omega)]; omega
    · rw [if_neg h1]
      by_cases h2 : 0 ≤ h ∧ h < n
      · rw [if_pos h2, if_pos (by omega)]; omega
      · rw [if_neg h2, if_neg (by omega)]; rfl
theorem maxN_one (x h : Int) (hx : 0 ≤ x) : ∀ n : Nat, maxN (fun c => if h = (c : Int) then x else 0) n = if 0 ≤ h ∧ h < n then x else 0
  | 0 => by rw [maxN, if_neg (by omega)]
  | n + 1 => by
    rw [maxN, maxN_one x h hx n]
    by_cases h1 : h = (n : Int)
    · rw [if_neg (by omega), if_pos h1, if_pos (by omega)]; omega
    · rw [if_neg h1]
      by_cases h2 : 0 ≤ h ∧ h < n
      · rw [if_pos h2, if_pos (by omega)]; omega
      · rw [if_neg h2, if_neg (by omega)]; rfl
end Go.Proofs.YtclebnamhpgdmaaGreatEv
