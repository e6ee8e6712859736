/- A crowd in one line: plain law. -/
import Derived.Test.YtiocdaeinahcoaaCrowd
set_option linter.unusedSimpArgs false
set_option linter.unusedVariables false
namespace Go.Proofs.YtiocdaeinahcoaaEv
open Go
def cwL (l : List Int) (i : Nat) : Int := l.getD i 0 % 60 + 1
def cwP (l : List Int) (i : Nat) : List Pt := [⟨1, 1, 0⟩, ⟨3, cwL l i, (i : Int) % 2⟩]
def cwS (l : List Int) (n : Nat) : St := crS 1 [2] [0, 0] 900 (cwP l) n
theorem cwL_b (l : List Int) (i : Nat) : 1 ≤ cwL l i ∧ cwL l i ≤ 60 := by unfold cwL; omega
theorem cw_good (l : List Int) (n : Nat) (hn : 1 ≤ n ∧ n ≤ 6) : Good (cwS l n) := by
  refine cr_good 1 [2] [0, 0] 900 _ n (by omega) (by simp) (fun x h => by rw [List.mem_singleton.1 h]; omega) (by simp) (fun x h => by simp at h; subst h; simp) hn (by omega) fun i hi => ⟨by simp [cwP], fun p h => ?_⟩
  have hb := cwL_b l i
  simp only [cwP, List.mem_cons, List.not_mem_nil, or_false] at h
  rcases h with rfl | rfl
  · exact ⟨by show (1 : Int) ≤ 1 ∧ (1 : Int) ≤ 3; decide, by show (1 : Int) ≤ 1 ∧ (1 : Int) ≤ 60; decide, fun e => absurd e (by show ¬ (1 : Int) = 3; decide), fun _ => rfl⟩
  · exact ⟨by show (1 : Int) ≤ 3 ∧ (3 : Int) ≤ 3; decide, hb, fun _ => by show (0 : Int) ≤ (i : Int) % 2 ∧ (i : Int) % 2 < ((2 : Nat) : Int); omega, fun e => absurd rfl e⟩
theorem cw_long (l : List Int) (n i : Nat) (hi : i < n) : longAt (cwS l n) i = cwL l i := by
  unfold cwS; rw [cr_long _ _ _ _ _ _ i hi]
  have e : longest (cwP l i) = max 0 (max (cwL l i) 0) := rfl
  have := cwL_b l i
  rw [e]; omega
theorem sumN_skip (f g : Nat → Int) (k : Nat) : ∀ n, (∀ i, i < n → f i = if eqz (i : Int) k = true then 0 else g i) → sumN f n + (if k < n then g k else 0) = sumN g n
  | 0, _ => by simp [sumN]
  | n + 1, h => by
    have ih := sumN_skip f g k n fun i hi => h i (by omega)
    have hf := h n (by omega)
    rw [sumN, sumN, hf]
    by_cases e : n = k
    · subst e
      rw [if_pos (eqz_self _), if_pos (by omega)]
      rw [if_neg (by omega)] at ih
      omega
    · rw [if_neg (by simp [eqz]; omega)]
      by_cases e2 : k < n
      · rw [if_pos e2] at ih; rw [if_pos (by omega)]; omega
      · rw [if_neg e2] at ih; rw [if_neg (by omega)]; omega
theorem cw_ahead (s : St) (k : Nat) : ∀ n, (∀ i, i < n → 1 ≤ longAt s i) → (othP s k n).length + (if k < n then 1 else 0) = n
  | 0, _ => by simp [othP]
  | n + 1, h => by
    have ih := cw_ahead s k n fun i hi => h i (by omega)
    have hl := h n (by omega)
    rw [othP]
    by_cases e : n = k
    · subst e
      rw [if_pos (.inl (eqz_self _)), if_pos (by omega)]
      rw [if_neg (by omega)] at ih
      omega
    · rw [if_neg (by rintro (h | h) <;> simp [eqz] at h <;> omega), List.length_append, List.length_singleton]
      by_cases e2 : k < n
      · rw [if_pos e2] at ih; rw [if_pos (by omega)]; omega
      · rw [if_neg e2] at ih; rw [if_neg (by omega)]; omega
theorem cw_law (l : List Int) (n k : Nat) (hn : 1 ≤ n ∧ n ≤ 6) (hk : k < n) :
    fairS (cwS l n) k 1 = some (sumN (cwL l) n) ∧ fairS (cwS l n) k 0 = none ∧ fairS (cwS l n) n 1 = none ∧ aheadS (cwS l n) k = (n : Int) - 1 := by
  have g := cw_good l n hn
  have hlen : (cwS l n).tasks.length = n := crS_len ..
  have ht : thereS (cwS l n) k = true := (thereS_iff _ _).2 ⟨g, by omega, by rw [hlen]; omega⟩
  have hat : (cwS l n).tasks[k]'(by rw [hlen]; exact hk) = crT 900 (cwP l) k := crS_at ..
  have h1 := lockS_nat (cwS l n) k 1 ht (by rw [hlen]; exact hk)
  have h0 := lockS_nat (cwS l n) k 0 ht (by rw [hlen]; exact hk)
  rw [hat] at h0 h1
  have h1 : lockS (cwS l n) k 1 = some ⟨3, cwL l k, (k : Int) % 2⟩ := h1
  have h0 : lockS (cwS l n) k 0 = none := h0
  have hno : thereS (cwS l n) n = false := by
    rcases (Bool.eq_false_or_eq_true (thereS (cwS l n) n)).symm with h | h
    · exact h
    · have := ((thereS_iff _ _).1 h).2.2; rw [hlen] at this; omega
  refine ⟨?_, ?_, ?_, ?_⟩
  · unfold fairS
    rw [h1]
    show some (cwL l k + othSum (cwS l n) k) = _
    have := sumN_skip (othF (cwS l n) k) (cwL l) k n fun i hi => by unfold othF; rw [cw_long l n i hi]
    rw [if_pos hk] at this
    unfold othSum; rw [hlen]; congr 1; omega
  · unfold fairS; rw [h0]; rfl
  · unfold fairS; rw [lockS_no _ _ _ hno]; rfl
  · unfold aheadS
    rw [if_pos ht, hlen]
    have := cw_ahead (cwS l n) k n fun i hi => by rw [cw_long l n i hi]; exact (cwL_b l i).1
    rw [if_pos hk] at this
    omega
end Go.Proofs.YtiocdaeinahcoaaEv
