/- With greater bounds a request to an agent doesn't take less. -/
import Derived.Test.YtgndbkeiickihaaAg
set_option linter.unusedSimpArgs false
set_option linter.unusedVariables false
namespace Go.Proofs.YtgndbkeiickihaaEv
open Go
set_option maxHeartbeats 2000000
/-! ### the plain law -/
theorem higher_mono_b {s : St} {bs cs : List Int} (hl : bs.length = cs.length) (h : ∀ i, bAt bs i = bAt cs i ∨ (0 ≤ bAt bs i ∧ bAt bs i ≤ bAt cs i)) (n c w : Int) : higherS s bs n c w ≤ higherS s cs n c w := by
  unfold higherS
  by_cases hc : thereS s n = true ∧ bs.length = s.tasks.length
  · rw [if_pos hc, if_pos (by rw [← hl]; exact hc)]
    have := sumN_mono (f := hiF s bs n.toNat c w) (g := hiF s cs n.toNat c w) s.tasks.length fun i _ => by
      unfold hiF; split
      · rcases h i with h | ⟨h1, h2⟩
        · rw [h]; omega
        · exact work_mono (Int.le_refl _) h2 h1 (Int.le_refl _)
      · omega
    omega
  · rw [if_neg hc, if_neg (by rw [← hl]; exact hc)]; omega
theorem agent_mono_b {s : St} {bs cs : List Int} (hl : bs.length = cs.length) (h : ∀ i, bAt bs i = bAt cs i ∨ (0 ≤ bAt bs i ∧ bAt bs i ≤ bAt cs i)) (n k : Int) (b : Int) (hb : agentS s cs n k = some b) : ∃ a, agentS s bs n k = some a ∧ a ≤ b := by
  unfold agentS at hb ⊢
  split at hb
  · rename_i hlc
    rw [if_pos (by omega)]
    cases hk : lockS s n k with
    | none => rw [hk] at hb; cases hb
    | some p =>
      rw [hk] at hb
      simp only [Option.bind_some] at hb ⊢
      obtain ⟨h1, h2, h3, _⟩ := lfp_some.1 hb
      refine lfp_pre (fun u v _ h => by have := higher_mono_w s bs n (homeOf s p) h; omega) (fun v _ => by have := higher_bounds s bs n (homeOf s p) v; omega) h1 h2 ?_
      have := higher_mono_b (s := s) hl h n (homeOf s p) b
      omega
  · cases hb
theorem set_bAt (bs : List Int) (k : Nat) (d : Int) (hk : k < bs.length) (h0 : 0 ≤ bs[k]) (hd : 0 ≤ d) : ∀ i, bAt bs i = bAt (bs.set k (bs[k] + d)) i ∨ (0 ≤ bAt bs i ∧ bAt bs i ≤ bAt (bs.set k (bs[k] + d)) i) := by
  intro i
  unfold bAt
  by_cases hi : k = i
  · subst hi
    right
    simp [hk]; omega
  · left; simp [List.getElem?_set_ne hi]
end Go.Proofs.YtgndbkeiickihaaEv
