/- Rows of bytes as inputs. -/
import Derived.Test.YtkohggddaheefaaIn1
set_option linter.unusedSimpArgs false
set_option linter.unusedVariables false
namespace Go.Proofs.YtkohggddaheefaaEv
open Go Go.RowKit Go.ChangeShapes Go.WideShapes
set_option maxRecDepth 100000
variable {H : Type} {enc : TypeId × Value → H} {w : World} {base b0 : Nat} {held : Bool} {v : Value} {d : DataW H} {ps : List MemPlace} {r : Reach}
def B8 (n : Int) : Prop := 0 ≤ n ∧ n ≤ 255
def slB (l : List Int) : A := .sl (l.map vu8) l.length 0
theorem open_u8 {fuel : Nat} {cs : List Value} {x : DataW H × List MemPlace} (h : DataW.trod enc Try.prog w base (fun _ => true) held fuel 5 cs = some x) : ∃ n, B8 n ∧ Cells w cs [vu8 n] := by
  obtain ⟨n, h1, h2⟩ := cells_int Try.underlying5 h
  exact ⟨n, u8_of h1, h2⟩
theorem open_u8s {fuel : Nat} {cs : List Value} {x : DataW H × List MemPlace} (h : DataW.trod enc Try.prog w base (fun _ => true) held fuel 42 cs = some x) : ∃ l, (∀ n ∈ l, B8 n) ∧ Cells w cs [slB l] := by
  obtain ⟨l, h1, h2⟩ := cells_slice (fun n => [vu8 n]) B8 1 (by omega) (by kernel_rfl) (fun _ => rfl) (fun _ => rfl) open_u8 Try.underlying42 h
  refine ⟨l, h1, ?_⟩
  have e : (l.flatMap fun n => [vu8 n]) = l.map vu8 := by clear h1 h2; induction l <;> simp_all
  rw [e] at h2; exact h2
theorem inp_u8s (hval : Value.okWide Try.prog w r b0 42 v) (h : DataW.Trod enc Try.prog w base (fun _ => true) held 42 v d ps) : ∃ l : List Int, (∀ n ∈ l, B8 n) ∧ Inp w v (slB l) :=
  inp_slice (P := Try.prog) (t := 42) (f := fun l : List Int => l.map vu8) (m := fun l => l.length) Try.underlying42 hval h (fun h => open_u8s h)
end Go.Proofs.YtkohggddaheefaaEv
