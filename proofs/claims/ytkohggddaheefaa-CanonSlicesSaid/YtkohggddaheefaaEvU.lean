/- What a law's input is, as cells: numbers, truths, texts, records, lists of them. -/
import Derived.Test.YtkohggddaheefaaEv4
import Derived.ChangeArms
import Derived.ChangeShapes
namespace Go.Proofs.YtkohggddaheefaaEv
open Go Go.RowKit
/-- As far as a block goes. -/
def limW (w : World) (b : Nat) : Nat := match w.heap[b]? with
  | some (.cells c _ _) => c.size
  | _ => 0
theorem limW_cell {w : World} {b o : Nat} {v : Value} (h : w.cell? ⟨b, o, none⟩ = some v) : o < limW w b := by
  unfold World.cell? at h
  unfold limW
  dsimp only at h
  split at h
  · rename_i c t m hb
    simp only [Option.isSome_none, Bool.false_eq_true, if_false] at h
    rw [hb]
    exact (Array.getElem?_eq_some_iff.1 h).1
  · cases h
/-- Cells, as they are known. -/
def Cells (w : World) (cs : List Value) (as : List A) : Prop := cs.length = as.length ∧ ∀ i (h : i < as.length), RepV w (limW w) (cs.getD i undef) as[i]
theorem Cells.one {w : World} {v : Value} {a : A} (h : RepV w (limW w) v a) : Cells w [v] [a] :=
  ⟨rfl, fun i hi => by have : i = 0 := by simp at hi; omega
                       subst this; exact h⟩
theorem Cells.nil {w : World} : Cells w [] [] := ⟨rfl, fun i hi => by simp at hi⟩
theorem Cells.append {w : World} {cs cs' : List Value} {as as' : List A} (h : Cells w cs as) (h' : Cells w cs' as') : Cells w (cs ++ cs') (as ++ as') := by
  refine ⟨by rw [List.length_append, List.length_append, h.1, h'.1], fun i hi => ?_⟩
  rw [List.getD_eq_getElem?_getD]
  by_cases hlt : i < as.length
  · rw [List.getElem?_append_left (by rw [h.1]; exact hlt), List.getElem_append_left hlt, ← List.getD_eq_getElem?_getD]
    exact h.2 i hlt
  · rw [List.getElem?_append_right (by rw [h.1]; omega), List.getElem_append_right (by omega), ← List.getD_eq_getElem?_getD, h.1]
    exact h'.2 _ _
section
variable {H : Type} {enc : TypeId × Value → H} {P : Program} {w : World} {base : Nat} {spare : Nat → Bool} {held : Bool} {t : TypeId}
theorem cells_int {k : IntKind} {fuel : Nat} {cs : List Value} {x} (ht : P.underlying t = some (.int k)) (h : DataW.trod enc P w base spare held fuel t cs = some x) : ∃ n, (Lit.int k n).wf = true ∧ Cells w cs [.val (.int k n)] := by
  obtain ⟨n, rfl, _, hw⟩ := DataW.trod_int ht h
  exact ⟨n, hw, .one (.val _ rfl)⟩
theorem cells_bool {fuel : Nat} {cs : List Value} {x} (ht : P.underlying t = some .bool) (h : DataW.trod enc P w base spare held fuel t cs = some x) : ∃ b, Cells w cs [vb b] := by
  obtain ⟨n, rfl, _⟩ := DataW.trod_bool ht h
  exact ⟨n, .one (.val _ rfl)⟩
theorem cells_str {fuel : Nat} {cs : List Value} {x} (ht : P.underlying t = some .string) (h : DataW.trod enc P w base spare held fuel t cs = some x) : ∃ s, Cells w cs [vs s] := by
  obtain ⟨n, rfl, _, _⟩ := DataW.trod_string ht h
  exact ⟨n, .one (.val _ rfl)⟩
theorem getD_choose {α : Type} {len : Nat} {R : Nat → α → Prop} (h : ∀ i, i < len → ∃ v, R i v) : ∃ l : List α, l.length = len ∧ ∀ i (hi : i < l.length), R i l[i] := by
  induction len with
  | zero => exact ⟨[], rfl, fun i hi => by simp at hi⟩
  | succ n ih =>
    obtain ⟨l, h1, h2⟩ := ih fun i hi => h i (by omega)
    obtain ⟨v, hv⟩ := h n (by omega)
    refine ⟨l ++ [v], by simp [h1], fun i hi => ?_⟩
    by_cases hlt : i < l.length
    · rw [List.getElem_append_left hlt]; exact h2 i hlt
    · have : i = n := by simp at hi; omega
      subst this
      rw [List.getElem_append_right (by omega)]
      simpa [h1] using hv
/-- A list of records. -/
theorem cells_slice {e : TypeId} {α : Type} (f : α → List A) (G : α → Prop) (z : Nat) (hz : 0 < z) (hc : P.cellsOf e = z) (hf : ∀ v, (f v).length = z)
    (hs : ∀ b, spare b = true) (he : ∀ {fuel : Nat} {cs : List Value} {x}, DataW.trod enc P w base spare held fuel e cs = some x → ∃ v, G v ∧ Cells w cs (f v))
    {fuel : Nat} {cs : List Value} {x} (ht : P.underlying t = some (.slice e)) (h : DataW.trod enc P w base spare held fuel t cs = some x) :
    ∃ l : List α, (∀ v ∈ l, G v) ∧ Cells w cs [.sl (l.flatMap f) l.length 0] := by
  rcases DataW.trod_slice ht h with ⟨rfl, _⟩ | ⟨a, len, cap, elems, rest, n, _, rfl, _, _, hl, _, hlen, hel, hrest, _⟩
  · exact ⟨[], (fun v hv => by cases hv), .one (.nil 0 (by omega))⟩
  · have hx : ∀ i, i < len → ∃ v, G v ∧ ∀ j (hj : j < (f v).length), ∃ u, w.cell? (a.add (i * z + j)) = some u ∧ RepV w (limW w) u (f v)[j] := by
      intro i hi
      have hb := hel i hi
      rw [List.getElem?_eq_getElem (by omega), Option.bind_eq_some_iff] at hb
      obtain ⟨cs', hcs, hy⟩ := hb
      obtain ⟨v, hg, hv⟩ := he hy
      refine ⟨v, hg, fun j hj => ?_⟩
      obtain ⟨_, h2, h3⟩ := World.cells?_some hcs
      rw [hc] at h2 h3
      have h4 := h3 j (by rw [hf] at hj; exact hj)
      rw [Addr.add_add] at h4
      have hj' : j < cs'.length := by rw [hv.1]; exact hj
      rw [List.getElem?_eq_getElem hj'] at h4
      refine ⟨_, h4, ?_⟩
      have := hv.2 j hj
      rwa [List.getD_eq_getElem?_getD, List.getElem?_eq_getElem hj'] at this
    obtain ⟨l, h1, h2⟩ := getD_choose hx
    refine ⟨l, (fun v hv => by obtain ⟨i, hi, rfl⟩ := List.getElem_of_mem hv; exact (h2 i hi).1), .one ?_⟩
    have hlf : (l.flatMap f).length = l.length * z := by
      clear h1 h2
      induction l with
      | nil => simp
      | cons a l ih => rw [List.flatMap_cons, List.length_append, hf, ih, List.length_cons, Nat.add_mul]; omega
    have hat : ∀ i j (hi : i < l.length) (hj : j < z) , (l.flatMap f)[i * z + j]? = some ((f l[i])[j]'(by rw [hf]; exact hj)) := by
      clear h1 h2 hlf
      induction l with
      | nil => intro i j hi; simp at hi
      | cons a l ih =>
        intro i j hi hj
        rw [List.flatMap_cons]
        cases i with
        | zero => rw [List.getElem?_append_left (by rw [hf]; omega)]; simp [List.getElem?_eq_getElem (show j < (f a).length by rw [hf]; exact hj)]
        | succ i =>
          rw [List.getElem?_append_right (by rw [hf, Nat.add_mul]; omega), hf, show (i + 1) * z + j - z = i * z + j by rw [Nat.add_mul]; omega]
          exact ih i j (by simpa using hi) hj
    obtain ⟨b, off, spot⟩ := a
    by_cases h0 : len = 0
    · subst h0
      have hln : l = [] := List.eq_nil_of_length_eq_zero h1
      subst hln
      cases spot with
      | none => exact .sl b off 0 cap [] 0 (fun _ => undef) (by omega) (by omega) (by omega) (fun i hi => by simp at hi) (fun i hi => by simp at hi) (fun i hi => by simp at hi)
      | some sp =>
        obtain ⟨hr1, hr2⟩ := hrest (hs _)
        have hcap : cap = 0 := by
          rcases Nat.eq_zero_or_pos cap with h | h
          · exact h
          · have hb := hr2 0 (by omega)
            rw [List.getElem?_eq_getElem (by omega), Option.bind_eq_some_iff] at hb
            obtain ⟨cs', hcs, _⟩ := hb
            obtain ⟨_, g2, g3⟩ := World.cells?_some hcs
            rw [hc] at g2 g3
            have g4 := g3 0 hz
            rw [Addr.add_add, List.getElem?_eq_getElem (by omega)] at g4
            have := World.cell?_spot g4
            simp [Addr.add] at this
        subst hcap
        exact .emp b off sp 0 ⟨by omega, by omega, by omega⟩
    · have hsp : spot = none := by
        obtain ⟨u, hu, _⟩ := (h2 0 (by omega)).2 0 (by rw [hf]; exact hz)
        simpa [Addr.add] using World.cell?_spot hu
      subst hsp
      have hcell : ∀ m (hm : m < (l.flatMap f).length), ∃ u, w.cell? ⟨b, off + m, none⟩ = some u ∧ RepV w (limW w) u (l.flatMap f)[m] := by
        intro m hm
        have hm1 : m / z < l.length := by rw [hlf] at hm; exact Nat.div_lt_of_lt_mul (by rw [Nat.mul_comm]; exact hm)
        have hm2 : m % z < z := Nat.mod_lt _ hz
        have hmm : m / z * z + m % z = m := by rw [Nat.mul_comm]; exact Nat.div_add_mod m z
        obtain ⟨u, hu, hr⟩ := (h2 (m / z) hm1).2 (m % z) (by rw [hf]; exact hm2)
        rw [hmm, Addr.add_lit] at hu
        have := hat (m / z) (m % z) hm1 hm2
        rw [hmm, List.getElem?_eq_getElem hm] at this
        injection this with this
        exact ⟨u, hu, by rw [this]; exact hr⟩
      rw [show len = l.length from h1.symm] at hl ⊢
      refine .sl b off l.length cap (l.flatMap f) 0 (fun m => (w.cell? ⟨b, off + m, none⟩).getD undef) hl (by omega) (by omega) (fun m hm => ?_) (fun m hm => ?_) (fun m hm => ?_)
      · obtain ⟨u, hu, _⟩ := hcell m hm; rw [hu]; rfl
      · obtain ⟨u, hu, _⟩ := hcell m hm; exact limW_cell hu
      · obtain ⟨u, hu, hr⟩ := hcell m hm; rw [hu]; exact hr
/-- A record of which each field is a cell. -/
theorem cells_struct {fs : Array Field} {fuel : Nat} {cs : List Value} {x} (ht : P.underlying t = some (.struct fs)) (hl : P.cellsOf t = fs.size)
    (ho : (List.range fs.size).all (fun i => match fs[i]? with | some f => f.offset == i && P.cellsOf f.type == 1 | none => false) = true)
    (h : DataW.trod enc P w base spare held fuel t cs = some x) :
    cs.length = fs.size ∧ ∀ i f, fs[i]? = some f → ∃ n y, DataW.trod enc P w base spare held n f.type [cs.getD i undef] = some y := by
  obtain ⟨xs, n, _, _, h1, h2, h3⟩ := DataW.trod_struct ht h
  refine ⟨by rw [h1, hl], fun i f hf => ?_⟩
  have hi : i < fs.size := (Array.getElem?_eq_some_iff.1 hf).1
  have hof := List.all_eq_true.1 ho i (List.mem_range.2 hi)
  rw [hf] at hof
  simp only [Bool.and_eq_true, beq_iff_eq] at hof
  have := h3 i f hf
  rw [hof.1, hof.2, List.getElem?_eq_getElem (by omega)] at this
  have hc : i < cs.length := by omega
  rw [List.drop_eq_getElem_cons hc] at this
  have e : cs.getD i undef = cs[i] := by rw [List.getD_eq_getElem?_getD, List.getElem?_eq_getElem hc]; rfl
  rw [e]
  exact ⟨n, xs[i], this⟩
theorem Cells.cons {v : Value} {cs : List Value} {a : A} {as : List A} (h : Cells w [v] [a]) (h' : Cells w cs as) : Cells w (v :: cs) (a :: as) := h.append h'
theorem eta1 {cs : List Value} (h : cs.length = 1) : cs = [cs.getD 0 undef] := by
  match cs, h with
  | [_], _ => rfl
theorem eta2 {cs : List Value} (h : cs.length = 2) : cs = [cs.getD 0 undef, cs.getD 1 undef] := by
  match cs, h with
  | [_, _], _ => rfl
theorem eta3 {cs : List Value} (h : cs.length = 3) : cs = [cs.getD 0 undef, cs.getD 1 undef, cs.getD 2 undef] := by
  match cs, h with
  | [_, _, _], _ => rfl
theorem eta4 {cs : List Value} (h : cs.length = 4) : cs = [cs.getD 0 undef, cs.getD 1 undef, cs.getD 2 undef, cs.getD 3 undef] := by
  match cs, h with
  | [_, _, _, _], _ => rfl
theorem eta6 {cs : List Value} (h : cs.length = 6) : cs = [cs.getD 0 undef, cs.getD 1 undef, cs.getD 2 undef, cs.getD 3 undef, cs.getD 4 undef, cs.getD 5 undef] := by
  match cs, h with
  | [_, _, _, _, _, _], _ => rfl
/-- An argument that is a record. -/
theorem rep_agg {c : Array Value} {as : List A} (h : Cells w (Value.agg c).cells.toList as) (hn : ∀ i (hi : i < as.length), n2 as[i]) : Rep w (limW w) id 0 (.agg c) (.agg as) := by
  have hs : c.size = as.length := h.1
  refine .r (.agg c as hs (fun i hi => .v ?_) hn)
  have := h.2 i hi
  rw [Array.getD_eq_getD_getElem?]
  rw [List.getD_eq_getElem?_getD] at this
  have e : (Value.agg c).cells.toList[i]? = c[i]? := by
    show c.toList[i]? = c[i]?
    simp
  rw [e] at this
  exact this
end
end Go.Proofs.YtkohggddaheefaaEv
