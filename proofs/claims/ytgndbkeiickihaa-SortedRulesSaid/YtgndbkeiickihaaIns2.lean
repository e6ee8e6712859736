/- slices.Insert of one record: what it leaves, whichever way it goes. -/
import Derived.Test.YtgndbkeiickihaaInsW
import Derived.Test.YtgndbkeiickihaaEv4
set_option linter.unusedSimpArgs false
set_option linter.unusedVariables false
namespace Go.Proofs.YtgndbkeiickihaaEv
open Go Go.RowKit Go.Proofs.YtgndbkeiickihaaIns
theorem cell_set (w : World) (b q : Nat) (vs : List Value) (h : ∀ j, j < vs.length → (w.cell? ⟨b, q + j, none⟩).isSome = true) (j : Nat) :
    (w.setCells b q vs).cell? ⟨b, j, none⟩ = if q ≤ j ∧ j < q + vs.length then vs[j - q]? else w.cell? ⟨b, j, none⟩ := by
  split
  · rename_i hc
    have := World.cell?_setCells_in b vs q w h (j - q) (by omega)
    rw [show q + (j - q) = j by omega] at this
    rw [this, List.getElem?_eq_getElem (by omega)]
  · rename_i hc
    exact World.cell?_setCells_out b vs q w _ fun _ _ => by show j < q ∨ q + vs.length ≤ j; omega
/-- What it leaves. -/
def InsPost (w : World) (b : Nat) (L : List Value) (n : Nat) (e : Ending) (w' : World) : Prop :=
  ∃ b' c', e = .returned (.slice (some ⟨b', 0, none⟩) n c') ∧ n ≤ c' ∧ w'.os = w.os ∧ w'.tape = w.tape ∧ w'.output = w.output ∧ w.heap.size ≤ w'.heap.size ∧ (∀ k, k < w.heap.size → k ≠ b → w'.heap[k]? = w.heap[k]?) ∧
    (b' = b ∨ w.heap.size ≤ b') ∧ (∀ k, rowSz w k ≤ rowSz w' k) ∧ ∀ j v, L[j]? = some v → w'.cell? ⟨b', j, none⟩ = some v
theorem ins_list (cs vs : List Value) (p j : Nat) (v : Value) (hp : p ≤ cs.length) (h : (cs.take p ++ vs ++ cs.drop p)[j]? = some v) :
    (j < p ∧ cs[j]? = some v) ∨ (p ≤ j ∧ j < p + vs.length ∧ vs[j - p]? = some v) ∨ (p + vs.length ≤ j ∧ cs[j - vs.length]? = some v) := by
  by_cases h1 : j < p
  · left
    rw [List.append_assoc, List.getElem?_append_left (by rw [List.length_take]; omega), List.getElem?_take, if_pos h1] at h
    exact ⟨h1, h⟩
  · by_cases h2 : j < p + vs.length
    · right; left
      rw [List.getElem?_append_left (by rw [List.length_append, List.length_take]; omega), List.getElem?_append_right (by rw [List.length_take]; omega), List.length_take] at h
      rw [show min p cs.length = p by omega] at h
      exact ⟨by omega, h2, h⟩
    · right; right
      rw [List.getElem?_append_right (by rw [List.length_append, List.length_take]; omega), List.length_append, List.length_take, List.getElem?_drop] at h
      rw [show p + (j - (min p cs.length + vs.length)) = j - vs.length by omega] at h
      exact ⟨by omega, h⟩
theorem ins_all (w : World) (b vb n c i : Nat) (row vrow : Array Value) (t tv : TypeId) (cs vs : List Value) (hb : w.heap[b]? = some (.cells row t (0, 0))) (hcz : c * 2 ≤ row.size) (hnc : n ≤ c) (hn : n ≤ 1000) (hi : i ≤ n)
    (hcl : cs.length = n * 2) (hcs : ∀ j v, cs[j]? = some v → w.cell? ⟨b, j, none⟩ = some v) (h1c : ∀ v ∈ cs, v.oneCell' = true)
    (hv : w.heap[vb]? = some (.cells vrow tv (0, 0))) (hvb : vb ≠ b) (hvl : vs.length = 2) (hvs : ∀ j v, vs[j]? = some v → w.cell? ⟨vb, j, none⟩ = some v) (h1v : ∀ v ∈ vs, v.oneCell' = true) (vc : Nat) :
    Calls Try.prog 34 #[.slice (some ⟨b, 0, none⟩) n c, .int .i64 i, .slice (some ⟨vb, 0, none⟩) 1 vc] w (InsPost w b (cs.take (i * 2) ++ vs ++ cs.drop (i * 2)) (n + 1)) := by
  have hbs := lt_of_heap hb
  have hsp : ∀ j, j < row.size → (w.cell? ⟨b, j, none⟩).isSome = true := fun j hj => by rw [cell_of_row hb hj]; rfl
  have hfz : ∀ j, w.frozen? ⟨b, j, none⟩ = false := fun j => by simp [World.frozen?, hb]
  have hcs' : ∀ j v, cs[j]? = some v → w.cell? ⟨b, 0 + j, none⟩ = some v := fun j v h => by rw [Nat.zero_add]; exact hcs j v h
  have hvs' : ∀ j v, vs[j]? = some v → w.cell? ⟨vb, 0 + j, none⟩ = some v := fun j v h => by rw [Nat.zero_add]; exact hvs j v h
  by_cases hroom : n + 1 ≤ c
  · have hbelow := fun (w : World) q (vs : List Value) => setCells_below vs w b q 0 (Nat.zero_le _)
    by_cases hin : i = n
    · subst hin
      refine (ins_end_room b 0 i c vb 0 1 vc vs w (by omega) hroom (by omega) (by omega) (fun j hj => by rw [Nat.zero_add]; exact hsp _ (by omega)) (fun j hj => hfz _) hvs' h1v).mono ?_
      rintro e w' ⟨rfl, rfl⟩
      refine ⟨b, c, rfl, hroom, (hbelow ..).os, (hbelow ..).tape, (hbelow ..).output, (hbelow ..).size, fun k _ hk => setCells_other _ _ _ _ _ hk, .inl rfl, fun k => Nat.le_of_eq (setCells_rows _ _ _ _ _).symm, fun j v h => ?_⟩
      rw [Nat.zero_add, cell_set _ _ _ _ fun j hj => hsp _ (by omega)]
      rcases ins_list _ _ _ _ _ (by omega) h with ⟨h1, h2⟩ | ⟨h1, h2, h3⟩ | ⟨h1, h2⟩
      · rw [if_neg (by omega)]; exact hcs _ _ h2
      · rw [if_pos (by omega)]; exact h3
      · rw [List.getElem?_eq_none (by omega)] at h2; cases h2
    · refine (ins_shift b 0 n c i vb 0 1 vc cs vs w (by omega) (by omega) hroom (by omega) hvb hcl (by omega) hcs' (fun j hj => by rw [Nat.zero_add]; exact hsp _ (by omega)) (fun j _ => hfz _) hvs' h1c h1v tv t vrow.size row.size (by simp [World.shape?, hv]) (by simp [World.shape?, hb]) (by omega) (by simp [World.frozen?, hv]) (by simp [World.frozen?, hv])).mono ?_
      rintro e w' ⟨rfl, rfl⟩
      have hd : Below w.heap.size w w.drew := drew_below w
      have hspd : ∀ j, j < row.size → (w.drew.cell? ⟨b, j, none⟩).isSome = true := hsp
      have hsp1 : ∀ j, j < row.size → ((w.drew.setCells b (0 + (i + 1) * 2) (cs.drop (i * 2))).cell? ⟨b, j, none⟩).isSome = true := fun j hj =>
        isSome_setCells b _ _ _ (fun k hk => hspd _ (by rw [List.length_drop] at hk; omega)) _ (hspd j hj)
      have b1 := hbelow w.drew (0 + (i + 1) * 2) (cs.drop (i * 2))
      have b2 := hbelow (w.drew.setCells b (0 + (i + 1) * 2) (cs.drop (i * 2))) (0 + i * 2) vs
      refine ⟨b, c, rfl, hroom, b2.os.trans (b1.os.trans hd.os), b2.tape.trans (b1.tape.trans hd.tape), b2.output.trans (b1.output.trans hd.output), Nat.le_trans hd.size (Nat.le_trans b1.size b2.size), fun k hk hkb => ?_, .inl rfl, fun k => ?_, fun j v h => ?_⟩
      · rw [setCells_other _ _ _ _ _ hkb, setCells_other _ _ _ _ _ hkb, hd.block k hk]
      · rw [setCells_rows, setCells_rows]; exact rows_below hd k
      · rw [cell_set _ _ _ _ fun j hj => hsp1 _ (by omega), cell_set _ _ _ _ fun j hj => hspd _ (by rw [List.length_drop] at hj; omega), Nat.zero_add, Nat.zero_add]
        rcases ins_list _ _ _ _ _ (by omega) h with ⟨h1, h2⟩ | ⟨h1, h2, h3⟩ | ⟨h1, h2⟩
        · rw [if_neg (by omega), if_neg (by omega)]; exact hcs _ _ h2
        · rw [if_pos (by omega)]; exact h3
        · have hj : j - vs.length < cs.length := by
            rcases Nat.lt_or_ge (j - vs.length) cs.length with h | h
            · exact h
            · rw [List.getElem?_eq_none h] at h2; cases h2
          rw [if_neg (by omega), if_pos (by rw [List.length_drop]; omega), List.getElem?_drop]
          rw [show i * 2 + (j - (i + 1) * 2) = j - vs.length by omega]
          exact h2
  · by_cases hin : i = n
    · subst hin
      refine (ins_end_grow (some ⟨b, 0, none⟩) i c vb 0 1 vc cs vs w (by omega) hnc (by omega) (by omega) hcl (by omega) (fun h => by cases h) (fun a ha j v h => by cases ha; rw [Addr.add_lit, Nat.zero_add]; exact hcs j v h) hvs' h1v).mono ?_
      rintro e w' ⟨rfl, rfl⟩
      have hd : Below w.heap.size w (w.drew.alloc (.cells ((cs ++ vs).toArray ++ Builtin.zeroCells (Value.agg #[.int .i64 0, .int .i64 0]).cells (grownCap w (i + 1) c 24 - (i + 1))) 24)) := (drew_below w).trans (alloc_below w.drew _)
      refine ⟨w.heap.size, _, rfl, grownCap_ge .., hd.os, hd.tape, hd.output, hd.size, fun k hk _ => hd.block k hk, .inr (Nat.le_refl _), rows_below hd, fun j v h => ?_⟩
      have hL : (cs ++ vs)[j]? = some v := by
        rcases ins_list _ _ _ _ _ (by omega) h with ⟨h1, h2⟩ | ⟨h1, h2, h3⟩ | ⟨h1, h2⟩
        · rw [List.getElem?_append_left (by omega)]; exact h2
        · rw [List.getElem?_append_right (by omega), hcl]; exact h3
        · rw [List.getElem?_eq_none (by omega)] at h2; cases h2
      obtain ⟨hj, e⟩ := List.getElem?_eq_some_iff.1 hL
      rw [World.cell?_alloc_at (w := w.drew) _ _ w.heap.size j rfl, Array.getElem?_append_left (by simpa using hj)]
      simpa using hL
    · refine (ins_grow b 0 n c i vb 0 1 vc cs vs w (by omega) (by omega) hnc (by omega) (by omega) hcl (by omega) hcs' hvs' h1c h1v).mono ?_
      rintro e w' ⟨rfl, rfl⟩
      generalize hR : ((cs.take (i * 2)).toArray ++ Builtin.zeroCells (Value.agg #[.int .i64 0, .int .i64 0]).cells (n + 1 - i) ++ Builtin.zeroCells (Value.agg #[.int .i64 0, .int .i64 0]).cells (grownCap w (n + 1) c 24 - (n + 1))) = R
      have hzc : (Value.agg #[.int .i64 0, .int .i64 0]).cells.size = 2 := rfl
      have hRs : (n + 1) * 2 ≤ R.size := by
        rw [← hR]
        simp only [Array.size_append, List.size_toArray, List.length_take, size_zeroCells, hzc]
        omega
      have hRt : ∀ (j : Nat) (v : Value), (cs.take (i * 2))[j]? = some v → R[j]? = some v := by
        intro j v h
        obtain ⟨hj, _⟩ := List.getElem?_eq_some_iff.1 h
        rw [← hR, Array.append_assoc, Array.getElem?_append_left (by simpa using hj)]
        simpa using h
      have ha : Below w.heap.size w (w.alloc (.cells R 24)) := alloc_below w _
      have hd1 : Below w.heap.size w (w.alloc (.cells R 24)).drew := ha.drew
      have hsz : ∀ j, j < R.size → ((w.alloc (.cells R 24)).drew.cell? ⟨w.heap.size, j, none⟩).isSome = true := fun j hj => by
        show ((w.alloc (.cells R 24)).cell? ⟨w.heap.size, j, none⟩).isSome = true
        rw [cell_of_row (heap_alloc_new w _) hj]; rfl
      have hs2 : Below w.heap.size w ((w.alloc (.cells R 24)).drew.setCells w.heap.size (i * 2) vs) := hd1.trans (setCells_below vs _ w.heap.size (i * 2) _ (Nat.le_refl _))
      have hs3 : Below w.heap.size w (((w.alloc (.cells R 24)).drew.setCells w.heap.size (i * 2) vs).drew) := hs2.drew
      have hs4 := hs3.trans (setCells_below (cs.drop (i * 2)) _ w.heap.size ((i + 1) * 2) _ (Nat.le_refl _))
      refine ⟨w.heap.size, _, rfl, grownCap_ge .., hs4.os, hs4.tape, hs4.output, hs4.size, fun k hk _ => hs4.block k hk, .inr (Nat.le_refl _), rows_below hs4, fun j v h => ?_⟩
      have hsz2 : ∀ j, j < R.size → ((((w.alloc (.cells R 24)).drew.setCells w.heap.size (i * 2) vs).drew).cell? ⟨w.heap.size, j, none⟩).isSome = true := fun j hj =>
        isSome_setCells w.heap.size vs (i * 2) _ (fun k hk => hsz _ (by omega)) j (hsz j hj)
      rw [cell_set _ _ _ _ fun j hj => hsz2 _ (by rw [List.length_drop] at hj; omega)]
      have hin2 : ∀ j, (((w.alloc (.cells R 24)).drew.setCells w.heap.size (i * 2) vs).drew).cell? ⟨w.heap.size, j, none⟩ = if i * 2 ≤ j ∧ j < i * 2 + vs.length then vs[j - i * 2]? else (w.alloc (.cells R 24)).cell? ⟨w.heap.size, j, none⟩ := fun j => by
        show ((w.alloc (.cells R 24)).drew.setCells w.heap.size (i * 2) vs).cell? ⟨w.heap.size, j, none⟩ = _
        rw [cell_set _ _ _ _ fun k hk => hsz _ (by omega)]
        rfl
      rw [hin2]
      rcases ins_list _ _ _ _ _ (by omega) h with ⟨h1, h2⟩ | ⟨h1, h2, h3⟩ | ⟨h1, h2⟩
      · rw [if_neg (by omega), if_neg (by omega)]
        have := hRt j v (by rw [List.getElem?_take, if_pos h1]; exact h2)
        obtain ⟨hj, e⟩ := Array.getElem?_eq_some_iff.1 this
        rw [cell_of_row (heap_alloc_new w _) hj, Array.getD_eq_getD_getElem?, this]; rfl
      · rw [if_neg (by omega), if_pos (by omega)]; exact h3
      · have hj : j - vs.length < cs.length := by
          rcases Nat.lt_or_ge (j - vs.length) cs.length with h | h
          · exact h
          · rw [List.getElem?_eq_none h] at h2; cases h2
        rw [if_pos (by rw [List.length_drop]; omega), List.getElem?_drop]
        rw [show i * 2 + (j - (i + 1) * 2) = j - vs.length by omega]
        exact h2
/-- Into nothing. -/
theorem ins_none (w : World) (p : Option Addr) (vb : Nat) (vs : List Value) (hvl : vs.length = 2) (hvs : ∀ j v, vs[j]? = some v → w.cell? ⟨vb, j, none⟩ = some v) (h1v : ∀ v ∈ vs, v.oneCell' = true) (vc : Nat) :
    Calls Try.prog 34 #[.slice p 0 0, .int .i64 0, .slice (some ⟨vb, 0, none⟩) 1 vc] w (InsPost w w.heap.size vs 1) := by
  have h := ins_end_grow p 0 0 vb 0 1 vc [] vs w (by omega) (Nat.le_refl _) (by omega) (by omega) rfl (by omega) (fun _ => rfl) (fun a _ j v h => by cases h) (fun j v h => by rw [Nat.zero_add]; exact hvs j v h) h1v
  refine h.mono ?_
  rintro e w' ⟨rfl, rfl⟩
  have hd : Below w.heap.size w (w.drew.alloc (.cells ((([] : List Value) ++ vs).toArray ++ Builtin.zeroCells (Value.agg #[.int .i64 0, .int .i64 0]).cells (grownCap w (0 + 1) 0 24 - (0 + 1))) 24)) := (drew_below w).trans (alloc_below w.drew _)
  refine ⟨w.heap.size, _, rfl, grownCap_ge .., hd.os, hd.tape, hd.output, hd.size, fun k hk _ => hd.block k hk, .inr (Nat.le_refl _), rows_below hd, fun j v h => ?_⟩
  obtain ⟨hj, e⟩ := List.getElem?_eq_some_iff.1 h
  rw [World.cell?_alloc_at (w := w.drew) _ _ w.heap.size j rfl, Array.getElem?_append_left (by simpa using hj)]
  simpa using h
end Go.Proofs.YtgndbkeiickihaaEv
