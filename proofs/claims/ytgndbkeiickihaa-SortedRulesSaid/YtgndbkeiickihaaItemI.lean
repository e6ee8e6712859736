/- Rows of items, of numbers of 16 bits as inputs. -/
import Derived.Test.YtgndbkeiickihaaItem
import Derived.Test.YtgndbkeiickihaaIn1
set_option linter.unusedSimpArgs false
set_option linter.unusedVariables false
namespace Go.Proofs.YtgndbkeiickihaaEv
open Go Go.RowKit Go.ChangeShapes Go.WideShapes
set_option maxRecDepth 100000
variable {H : Type} {enc : TypeId × Value → H} {w : World} {base b0 : Nat} {held : Bool} {v : Value} {d : DataW H} {ps : List MemPlace} {r : Reach}
def It.ok (p : It) : Prop := I64 p.key ∧ I64 p.id
theorem open_item {fuel : Nat} {cs : List Value} {x : DataW H × List MemPlace} (h : DataW.trod enc Try.prog w base (fun _ => true) held fuel 24 cs = some x) : ∃ p : It, p.ok ∧ Cells w cs (itc p) := by
  obtain ⟨hl, hf⟩ := cells_struct Try.underlying24 (by kernel_rfl) (by kernel_rfl) h
  obtain ⟨_, _, h0⟩ := hf 0 _ rfl
  obtain ⟨_, _, h1⟩ := hf 1 _ rfl
  obtain ⟨a, wa, ca⟩ := open_num h0
  obtain ⟨b, wb, cb⟩ := open_num h1
  refine ⟨⟨a, b⟩, ⟨wa, wb⟩, ?_⟩
  rw [eta2 hl]
  exact ca.cons cb
theorem open_items {fuel : Nat} {cs : List Value} {x : DataW H × List MemPlace} (h : DataW.trod enc Try.prog w base (fun _ => true) held fuel 22 cs = some x) : ∃ l : List It, (∀ p ∈ l, p.ok) ∧ Cells w cs [slX l] :=
  cells_slice itc It.ok 2 (by omega) (by kernel_rfl) (fun _ => rfl) (fun _ => rfl) open_item Try.underlying22 h
theorem n2_It (s : It) : (itc s).all A.isV = true ∧ ∀ i (hi : i < (itc s).length), n2 (itc s)[i] := by
  refine ⟨rfl, fun i hi => ?_⟩
  have hi : i < 2 := hi
  rcases i with _ | _ | i
  · exact n2_vi _
  · exact n2_vi _
  · omega
theorem inp_item (hval : Value.okWide Try.prog w r b0 24 v) (h : DataW.Trod enc Try.prog w base (fun _ => true) held 24 v d ps) : ∃ s : It, s.ok ∧ Inp w v (.agg (itc s)) :=
  inp_struct (P := Try.prog) (t := 24) n2_It Try.underlying24 hval h (fun h => open_item h)
theorem inp_items (hval : Value.okWide Try.prog w r b0 22 v) (h : DataW.Trod enc Try.prog w base (fun _ => true) held 22 v d ps) : ∃ l : List It, (∀ p ∈ l, p.ok) ∧ Inp w v (slX l) :=
  inp_slice (P := Try.prog) (t := 22) (f := fun l : List It => fg itc l) (m := fun l => l.length) Try.underlying22 hval h (fun h => open_items h)
/-! ### numbers of 16 bits -/
abbrev vu16 (n : Int) : A := .val (.int .u16 n)
theorem u16_of {n : Int} (h : (Lit.int .u16 n).wf = true) : 0 ≤ n ∧ n ≤ 65535 := by
  simp only [Lit.wf, Bool.and_eq_true, decide_eq_true_eq] at h
  have e1 : IntKind.min .u16 = 0 := by decide
  have e2 : IntKind.max .u16 = 65535 := by decide
  omega
def B16 (n : Int) : Prop := 0 ≤ n ∧ n ≤ 65535
def slH (l : List Int) : A := .sl (l.map vu16) l.length 0
theorem open_u16 {fuel : Nat} {cs : List Value} {x : DataW H × List MemPlace} (h : DataW.trod enc Try.prog w base (fun _ => true) held fuel 39 cs = some x) : ∃ n, B16 n ∧ Cells w cs [vu16 n] := by
  obtain ⟨n, h1, h2⟩ := cells_int Try.underlying39 h
  exact ⟨n, u16_of h1, h2⟩
theorem open_u16s {fuel : Nat} {cs : List Value} {x : DataW H × List MemPlace} (h : DataW.trod enc Try.prog w base (fun _ => true) held fuel 38 cs = some x) : ∃ l, (∀ n ∈ l, B16 n) ∧ Cells w cs [slH l] := by
  obtain ⟨l, h1, h2⟩ := cells_slice (fun n => [vu16 n]) B16 1 (by omega) (by kernel_rfl) (fun _ => rfl) (fun _ => rfl) open_u16 Try.underlying38 h
  refine ⟨l, h1, ?_⟩
  have e : (l.flatMap fun n => [vu16 n]) = l.map vu16 := by clear h1 h2; induction l <;> simp_all
  rw [e] at h2; exact h2
theorem inp_u16s (hval : Value.okWide Try.prog w r b0 38 v) (h : DataW.Trod enc Try.prog w base (fun _ => true) held 38 v d ps) : ∃ l : List Int, (∀ n ∈ l, B16 n) ∧ Inp w v (slH l) :=
  inp_slice (P := Try.prog) (t := 38) (f := fun l : List Int => l.map vu16) (m := fun l => l.length) Try.underlying38 hval h (fun h => open_u16s h)
end Go.Proofs.YtgndbkeiickihaaEv
