/- Those who may run as inputs. -/
import Derived.Test.YtkohggddaheefaaWhoR
set_option linter.unusedSimpArgs false
set_option linter.unusedVariables false
namespace Go.Proofs.YtkohggddaheefaaEv
open Go Go.RowKit Go.ChangeShapes Go.WideShapes
set_option maxRecDepth 100000
variable {H : Type} {enc : TypeId × Value → H} {w : World} {base b0 : Nat} {held : Bool} {v : Value} {d : DataW H} {ps : List MemPlace} {r : Reach}
def Wh.ok (p : Wh) : Prop := I64 p.task ∧ I64 p.prio ∧ I64 p.boost
def slW (l : List Wh) : A := .sl (fg whc l) l.length 0
theorem open_who {fuel : Nat} {cs : List Value} {x : DataW H × List MemPlace} (h : DataW.trod enc Try.prog w base (fun _ => true) held fuel 50 cs = some x) : ∃ p : Wh, p.ok ∧ Cells w cs (whc p) := by
  obtain ⟨hl, hf⟩ := cells_struct Try.underlying50 (by kernel_rfl) (by kernel_rfl) h
  obtain ⟨_, _, h0⟩ := hf 0 _ rfl
  obtain ⟨_, _, h1⟩ := hf 1 _ rfl
  obtain ⟨_, _, h2⟩ := hf 2 _ rfl
  obtain ⟨a, wa, ca⟩ := open_num h0
  obtain ⟨b, wb, cb⟩ := open_num h1
  obtain ⟨c, wc, cc⟩ := open_num h2
  refine ⟨⟨a, b, c⟩, ⟨wa, wb, wc⟩, ?_⟩
  rw [eta3 hl]
  exact ca.cons (cb.cons cc)
theorem open_whos {fuel : Nat} {cs : List Value} {x : DataW H × List MemPlace} (h : DataW.trod enc Try.prog w base (fun _ => true) held fuel 51 cs = some x) : ∃ l : List Wh, (∀ p ∈ l, p.ok) ∧ Cells w cs [slW l] :=
  cells_slice whc Wh.ok 3 (by omega) (by kernel_rfl) (fun _ => rfl) (fun _ => rfl) open_who Try.underlying51 h
theorem n2_Wh (s : Wh) : (whc s).all A.isV = true ∧ ∀ i (hi : i < (whc s).length), n2 (whc s)[i] := by
  refine ⟨rfl, fun i hi => ?_⟩
  have hi : i < 3 := hi
  rcases i with _ | _ | _ | i
  · exact n2_vi _
  · exact n2_vi _
  · exact n2_vi _
  · omega
theorem inp_who (hval : Value.okWide Try.prog w r b0 50 v) (h : DataW.Trod enc Try.prog w base (fun _ => true) held 50 v d ps) : ∃ s : Wh, s.ok ∧ Inp w v (.agg (whc s)) :=
  inp_struct (P := Try.prog) (t := 50) n2_Wh Try.underlying50 hval h (fun h => open_who h)
theorem inp_whos (hval : Value.okWide Try.prog w r b0 51 v) (h : DataW.Trod enc Try.prog w base (fun _ => true) held 51 v d ps) : ∃ l : List Wh, (∀ p ∈ l, p.ok) ∧ Inp w v (slW l) :=
  inp_slice (P := Try.prog) (t := 51) (f := fun l : List Wh => fg whc l) (m := fun l => l.length) Try.underlying51 hval h (fun h => open_whos h)
end Go.Proofs.YtkohggddaheefaaEv
