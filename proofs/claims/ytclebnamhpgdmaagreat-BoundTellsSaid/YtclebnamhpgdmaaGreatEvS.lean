/- From an answer of compact code to a call of the program. -/
import Derived.Test.YtclebnamhpgdmaaGreatEvR
namespace Go.Proofs.YtclebnamhpgdmaaGreatEv
open Go Go.RowKit
theorem Rep.ofVal {w : World} {lim μ : Nat → Nat} {m : Nat} {u x : Value} (h : Rep w lim μ m u (.val x)) : u = x := by
  cases h with
  | r h => cases h with
    | c h => cases h with
      | v h => cases h with
        | val => rfl
theorem law_true {P : Program} {Φ : CallF} (hs : SoundF P Φ) {f : Nat} {xs : List A} {junk : Bx} (h : Φ f xs [] = some (vb true, junk)) (w : World) (lim : Nat → Nat) (vs : Array Value)
    (hsz : vs.size = xs.length) (hr : ∀ i (h : i < xs.length), Rep w lim id 0 (vs.getD i undef) xs[i] ∧ n2 xs[i]) :
    Calls P f vs w fun e w' => e = .returned (.bool true) ∧ Below w.heap.size w w' := by
  have hb : BoxRep w lim id ([] : Bx) := ⟨fun r h => absurd h (Nat.not_lt_zero _), fun r h => absurd h (Nat.not_lt_zero _), fun r _ h => absurd h (Nat.not_lt_zero _)⟩
  obtain ⟨_, _, hc⟩ := hs f xs [] (vb true) junk h w lim id vs hsz hr hb
  refine hc.mono fun e w' ⟨v, lim', μ', he, _, hbut, _, _, _, _, hrep⟩ => ?_
  obtain rfl := hrep.ofVal
  exact ⟨he, hbut.below⟩
end Go.Proofs.YtclebnamhpgdmaaGreatEv
