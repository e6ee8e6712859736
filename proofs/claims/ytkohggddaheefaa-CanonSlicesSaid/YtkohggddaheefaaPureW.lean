/- A call whose answer is known, at the World level. -/
import Derived.Test.YtkohggddaheefaaT1
set_option linter.unusedSimpArgs false
set_option linter.unusedVariables false
namespace Go.Proofs.YtkohggddaheefaaEv
open Go Go.RowKit
theorem pure_w {P : Program} {Φ : CallF} (hΦ : SoundF P Φ) {f : Nat} {args : List A} {v : A} (h : pureOf Φ false f args = some v) (w : World) (lim : Nat → Nat) (vs : Array Value) (hsz : vs.size = args.length)
    (hrep : ∀ i (h : i < args.length), Rep w lim id 0 (vs.getD i undef) args[i] ∧ n2 args[i]) (hgl : GlobOk w id 0) : Calls P f vs w fun e w' => ∃ u lim', e = .returned u ∧ Below w.heap.size w w' ∧ (∀ b, b < w.heap.size → lim' b = lim b) ∧ Rep w' lim' id 0 u v := by
  unfold pureOf at h
  cases hx : Φ f args [] with
  | none => rw [hx] at h; cases h
  | some q =>
    obtain ⟨r, bx⟩ := q
    rw [hx] at h
    obtain ⟨_, _, hC⟩ := hΦ _ _ _ _ _ hx w lim id vs hsz hrep (boxRep_nil _ _ _) hgl
    refine hC.mono ?_
    rintro e w' ⟨u, lim', μ', rfl, _, hb, _, hlim, hμ, hbox, hr⟩
    have he : Ext w' lim' w' (fun b => if ((List.range bx.length).any fun r => decide (μ' r = b)) = true then rowSz w' b else lim' b) := by
      refine ⟨?_, fun _ => Nat.le_refl _⟩
      intro b o v ho hc
      refine ⟨hc, ?_⟩
      simp only
      split
      · exact lt_rowSz hc
      · exact ho
    have hl : ∀ r (h : r < bx.length), ∀ o, o < bx[r].length → o < (fun b => if ((List.range bx.length).any fun r => decide (μ' r = b)) = true then rowSz w' b else lim' b) (μ' r) := by
      intro r hr o ho
      simp only
      rw [if_pos (List.any_eq_true.2 ⟨r, List.mem_range.2 hr, decide_eq_true rfl⟩)]
      exact box_rowSz hbox r hr o ho
    obtain ⟨k1, _⟩ := frz_rep false hbox he _ _ _ hr h hl id
    refine ⟨u, _, rfl, hb.below, fun b hbw => ?_, k1⟩
    show (if ((List.range bx.length).any fun r => decide (μ' r = b)) = true then rowSz w' b else lim' b) = lim b
    rw [if_neg]
    · exact hlim b hbw
    · intro hc
      obtain ⟨r, hr1, hr2⟩ := List.any_eq_true.1 hc
      have h1 := hμ r (Nat.zero_le _) (List.mem_range.1 hr1)
      have h2 := of_decide_eq_true hr2
      omega
end Go.Proofs.YtkohggddaheefaaEv
