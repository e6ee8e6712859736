/- A call's own rows of tasks and of parts: what may be written without being seen elsewhere. -/
import Derived.Test.YtkohggddaheefaaT1
import Derived.WalkKit
set_option linter.unusedSimpArgs false
set_option linter.unusedVariables false
namespace Go.Proofs.YtkohggddaheefaaEv
open Go Go.RowKit
/-- A row that may be written, of so many cells at least. -/
def RowAt (w : World) (b m : Nat) : Prop := ∃ row t, w.heap[b]? = some (.cells row t (0, 0)) ∧ m ≤ row.size
theorem RowAt.lt {w : World} {b m : Nat} (h : RowAt w b m) : b < w.heap.size := by
  obtain ⟨row, t, h1, _⟩ := h
  exact lt_of_heap h1
theorem RowAt.below {w w' : World} {b m : Nat} (h : RowAt w b m) (hb : Below w.heap.size w w') : RowAt w' b m := by
  have hl := h.lt
  obtain ⟨row, t, h1, h2⟩ := h
  exact ⟨row, t, (hb.block b hl).trans h1, h2⟩
theorem RowAt.set {w : World} {b m : Nat} (h : RowAt w b m) (c q : Nat) (vs : List Value) : RowAt (w.setCells c q vs) b m := by
  obtain ⟨row, t, h1, h2⟩ := h
  by_cases e : b = c
  · subst e
    obtain ⟨cs', h3, h4, _⟩ := setCells_heap vs w row t (0, 0) b q h1
    exact ⟨cs', t, h3, by omega⟩
  · exact ⟨row, t, (setCells_other vs w c q b e).trans h1, h2⟩
theorem RowAt.cell {w : World} {b m : Nat} (h : RowAt w b m) {j : Nat} (hj : j < m) : ∃ v, w.cell? ⟨b, j, none⟩ = some v := by
  obtain ⟨row, t, h1, h2⟩ := h
  exact ⟨_, cell_of_row h1 (by omega)⟩
theorem RowAt.live {w : World} {b m : Nat} (h : RowAt w b m) (j : Nat) : w.frozen? ⟨b, j, none⟩ = false := by
  obtain ⟨row, t, h1, h2⟩ := h
  simp [World.frozen?, h1]
/-- A task's parts, of the call's own. -/
def OwnPart (B U : Nat) (w : World) (tb k : Nat) : Prop := ∃ pb len cap, w.cell? ⟨tb, k * 6 + 5, none⟩ = some (.slice (some ⟨pb, 0, none⟩) len cap) ∧ 0 < len ∧ B ≤ pb ∧ pb < U ∧ pb ≠ tb ∧ RowAt w pb 3 ∧ ∀ j, j < 5 → ∃ u, w.cell? ⟨tb, k * 6 + j, none⟩ = some u ∧ u.oneCell' = true
theorem OwnPart.below {B U : Nat} {w w' : World} {tb k : Nat} (h : OwnPart B U w tb k) (hb : Below w.heap.size w w') : OwnPart B U w' tb k := by
  obtain ⟨pb, len, cap, h1, h2, h3, h4, h5, h6, h7⟩ := h
  exact ⟨pb, len, cap, (hb.cell (lt_of_cell h1)).trans h1, h2, h3, h4, h5, h6.below hb, fun j hj => by obtain ⟨u, q1, q2⟩ := h7 j hj; exact ⟨u, (hb.cell (lt_of_cell q1)).trans q1, q2⟩⟩
theorem OwnPart.grow {B U U' : Nat} {w : World} {tb k : Nat} (h : OwnPart B U w tb k) (hU : U ≤ U') : OwnPart B U' w tb k := by
  obtain ⟨pb, len, cap, h1, h2, h3, h4, h5, h6⟩ := h
  exact ⟨pb, len, cap, h1, h2, h3, by omega, h5, h6⟩
theorem RowAt.mono {w : World} {b m m' : Nat} (h : RowAt w b m) (hm : m' ≤ m) : RowAt w b m' := by
  obtain ⟨row, t, h1, h2⟩ := h
  exact ⟨row, t, h1, by omega⟩
theorem one_set {w : World} {b m x : Nat} (hr : RowAt w b m) (hx : x < m) (c q : Nat) (vs : List Value) (hv : c = b → ∀ v ∈ vs, v.oneCell' = true) (h : ∃ u, w.cell? ⟨b, x, none⟩ = some u ∧ u.oneCell' = true) : ∃ u, (w.setCells c q vs).cell? ⟨b, x, none⟩ = some u ∧ u.oneCell' = true := by
  obtain ⟨u, q1, q2⟩ := h
  obtain ⟨row, t, h1, h2⟩ := hr
  by_cases e : c = b
  · subst e
    obtain ⟨cs', h3, h4, h5⟩ := setCells_heap vs w row t (0, 0) c q h1
    refine ⟨_, cell_of_row h3 (by omega), ?_⟩
    rw [h5 x (by omega)]
    split
    · rename_i hc
      have hl : x - q < vs.length := by omega
      rw [List.getD_eq_getElem?_getD, List.getElem?_eq_getElem hl]
      exact hv rfl _ (List.getElem_mem hl)
    · rw [cell_of_row h1 (by omega)] at q1
      rw [Option.some.inj q1]; exact q2
  · exact ⟨u, (cell?_of_heap (setCells_other vs w c q b fun h => e h.symm) x).trans q1, q2⟩
theorem OwnPart.set {B U : Nat} {w : World} {tb k : Nat} (h : OwnPart B U w tb k) (hr : RowAt w tb (k * 6 + 6)) (c q : Nat) (vs : List Value) (ho : c = tb → k * 6 + 5 < q ∨ q + vs.length ≤ k * 6 + 5) (hv : c = tb → ∀ v ∈ vs, v.oneCell' = true) : OwnPart B U (w.setCells c q vs) tb k := by
  obtain ⟨pb, len, cap, h1, h2, h3, h4, h5, h6, h7⟩ := h
  exact ⟨pb, len, cap, (World.cell?_setCells_out c vs q w _ fun e _ => ho e.symm).trans h1, h2, h3, h4, h5, h6.set c q vs, fun j hj => one_set hr (by omega) c q vs hv (h7 j hj)⟩
/-- A row of tasks of the call's own. -/
def OwnS (B U : Nat) (w : World) (tb n : Nat) : Prop := B ≤ tb ∧ tb < U ∧ RowAt w tb (n * 6) ∧ ∀ k, k < n → OwnPart B U w tb k
theorem OwnS.below {B U : Nat} {w w' : World} {tb n : Nat} (h : OwnS B U w tb n) (hb : Below w.heap.size w w') : OwnS B U w' tb n :=
  ⟨h.1, h.2.1, h.2.2.1.below hb, fun k hk => (h.2.2.2 k hk).below hb⟩
theorem OwnS.set {B U : Nat} {w : World} {tb n : Nat} (h : OwnS B U w tb n) (c q : Nat) (vs : List Value) (ho : c = tb → ∀ k, k < n → k * 6 + 5 < q ∨ q + vs.length ≤ k * 6 + 5) (hv : c = tb → ∀ v ∈ vs, v.oneCell' = true) : OwnS B U (w.setCells c q vs) tb n :=
  ⟨h.1, h.2.1, h.2.2.1.set c q vs, fun k hk => (h.2.2.2 k hk).set (h.2.2.1.mono (by omega)) c q vs (fun e => ho e k hk) hv⟩
/-- One more task, at the end. -/
theorem OwnS.more {B U : Nat} {w : World} {tb n : Nat} (h : OwnS B U w tb n) (hr : RowAt w tb ((n + 1) * 6)) (hp : OwnPart B U w tb n) : OwnS B U w tb (n + 1) :=
  ⟨h.1, h.2.1, hr, fun k hk => by
    by_cases e : k = n
    · subst e; exact hp
    · exact h.2.2.2 k (by omega)⟩
end Go.Proofs.YtkohggddaheefaaEv
