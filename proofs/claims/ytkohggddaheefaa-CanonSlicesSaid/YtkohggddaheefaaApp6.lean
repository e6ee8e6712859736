/- One task more behind a row of tasks: in its room, or in a new row. -/
import Derived.Test.YtkohggddaheefaaOwnW
import Derived.Test.YtkohggddaheefaaCopyO
import Derived.Deep.AppendSrc
import Derived.Lib.AppendZeros
set_option linter.unusedSimpArgs false
set_option linter.unusedVariables false
namespace Go.Proofs.YtkohggddaheefaaEv
open Go Go.RowKit
set_option maxHeartbeats 1000000
/-- The rows as they were, but for this one. -/
structure Keeps (tb : Nat) (w w' : World) : Prop where
  os : w'.os = w.os
  tape : w'.tape = w.tape
  output : w'.output = w.output
  size : w.heap.size ≤ w'.heap.size
  block : ∀ k, k < w.heap.size → k ≠ tb → w'.heap[k]? = w.heap[k]?
/-- A row of so many tasks; nil, if there are none yet. -/
def RowT (B U : Nat) (w : World) (v : Value) (i : Nat) : Prop := (i = 0 ∧ v = .slice none 0 0) ∨ ∃ tb cap, v = .slice (some ⟨tb, 0, none⟩) i cap ∧ i ≤ cap ∧ RowAt w tb (cap * 6) ∧ OwnS B U w tb i
/-- The cells of a task whose parts are the call's own. -/
def TaskCells (B U : Nat) (w : World) (vs : List Value) : Prop := vs.length = 6 ∧ (∀ v ∈ vs, v.oneCell' = true) ∧ ∃ pb len cap, vs[5]? = some (.slice (some ⟨pb, 0, none⟩) len cap) ∧ 0 < len ∧ B ≤ pb ∧ pb < U ∧ RowAt w pb 3
theorem cell_setC (w : World) (b q : Nat) (vs : List Value) (row : Array Value) (t : TypeId) (h : w.heap[b]? = some (.cells row t (0, 0))) (j : Nat) (v : Value) (hj : vs[j]? = some v) (hq : q + j < row.size) : (w.setCells b q vs).cell? ⟨b, q + j, none⟩ = some v := by
  obtain ⟨cs', h1, h2, h3⟩ := setCells_heap vs w row t (0, 0) b q h
  have hl := (List.getElem?_eq_some_iff.1 hj).1
  rw [cell_of_row h1 (by omega), h3 _ hq, if_pos (by omega), Nat.add_sub_cancel_left, List.getD_eq_getElem?_getD, hj]
  rfl
theorem infoTk : (Try.prog.info? 37).map (fun i => (i.zero, i.size, i.bytes)) = some (some (.agg #[.string ⟨#[]⟩, .int .i64 0, .int .i64 0, .int .i64 0, .int .i64 0, .slice none 0 0]), 6, 72) := by kernel_rfl
theorem app_task (B U : Nat) (w : World) (v : Value) (i : Nat) (hi : i ≤ 1000) (hv : RowT B U w v i) (hBw : B ≤ w.heap.size) (xb xc : Nat) (vs : List Value) (hvs : TaskCells B U w vs) (hx : ∀ j u, vs[j]? = some u → w.cell? ⟨xb, j, none⟩ = some u)
    (hne : ∀ tb cap, v = .slice (some ⟨tb, 0, none⟩) i cap → vs[5]? = vs[5]? ∧ ∀ pb len c, vs[5]? = some (.slice (some ⟨pb, 0, none⟩) len c) → pb ≠ tb) (hUw : U ≤ w.heap.size) (ty : TypeId) :
    ∃ tb' cap' w', (Builtin.append_ #[23, 23] ty #[v, .slice (some ⟨xb, 0, none⟩) 1 xc]).run Try.prog w = .ok (.slice (some ⟨tb', 0, none⟩) (i + 1) cap') w' ∧
      RowT B w'.heap.size w' (.slice (some ⟨tb', 0, none⟩) (i + 1) cap') (i + 1) ∧ (∃ tb, Keeps tb w w' ∧ ((∃ cap, v = .slice (some ⟨tb, 0, none⟩) i cap ∧ tb' = tb) ∨ (tb' = w.heap.size ∧ tb = w.heap.size))) := by
  obtain ⟨hvl, h1v, pb, len, pc, hv5, hp0, hpB, hpU, hpr⟩ := hvs
  obtain ⟨i0, hi0, hzz⟩ := Option.map_eq_some_iff.1 infoTk
  simp only [Prod.mk.injEq] at hzz
  obtain ⟨hz0, hzs, hzb⟩ := hzz
  have hsrc : Src Try.prog i0.size 23 (.slice (some ⟨xb, 0, none⟩) 1 xc) 1 vs w := by
    rw [hzs]
    exact Src.ofSlice w Try.underlying23 ⟨xb, 0, none⟩ 1 xc vs (by omega) (fun j u hj => by rw [Addr.add_lit, Nat.zero_add]; exact hx j u hj) h1v
  by_cases hroom : ∃ tb cap, v = .slice (some ⟨tb, 0, none⟩) i cap ∧ i + 1 ≤ cap
  · obtain ⟨tb, cap, rfl, hc⟩ := hroom
    have ho : RowAt w tb (cap * 6) ∧ OwnS B U w tb i := by
      rcases hv with ⟨_, h⟩ | ⟨tb2, cap2, h, _, h3, h4⟩
      · cases h
      · cases h; exact ⟨h3, h4⟩
    obtain ⟨hr, hO⟩ := ho
    have hr' := hr
    obtain ⟨row, t, hh, hs⟩ := hr'
    have hrun := run_append_room_src w 23 23 ty 37 i0 Try.underlying23 hi0 tb 0 i cap _ 1 vs hsrc hc (fun j hj => by
      obtain ⟨u, hu⟩ := hr.cell (j := 0 + i * i0.size + j) (by rw [hzs]; omega)
      rw [hu]; rfl) (fun j hj => hr.live _)
    rw [hzs, Nat.zero_add] at hrun
    have hsz := (setCells_below vs w tb (i * 6) 0 (Nat.zero_le _)).size
    refine ⟨tb, cap, _, hrun, .inr ⟨tb, cap, rfl, hc, hr.set _ _ _, ?_⟩, tb, ⟨?_, ?_, ?_, ?_, fun k _ hk => setCells_other _ _ _ _ _ hk⟩, .inl ⟨cap, rfl, rfl⟩⟩
    · have h2 := hO.set tb (i * 6) vs (fun _ k hk => .inl (by omega)) fun _ => h1v
      refine OwnS.more ⟨h2.1, by have := h2.2.1; omega, h2.2.2.1, fun k hk => (h2.2.2.2 k hk).grow (by omega)⟩ ?_ ?_
      · obtain ⟨row2, t2, hh2, hs2⟩ := hr.set tb (i * 6) vs
        exact ⟨row2, t2, hh2, by omega⟩
      · refine ⟨pb, len, pc, cell_setC w tb (i * 6) vs row t hh 5 _ hv5 (by omega), hp0, hpB, by omega, ?_, hpr.set _ _ _, fun j hj => ?_⟩
        · exact (hne tb cap rfl).2 pb len pc hv5
        · have hjl : j < vs.length := by omega
          exact ⟨_, cell_setC w tb (i * 6) vs row t hh j _ (List.getElem?_eq_getElem hjl) (by omega), h1v _ (List.getElem_mem hjl)⟩
    · exact (setCells_below vs w tb (i * 6) 0 (Nat.zero_le _)).os
    · exact (setCells_below vs w tb (i * 6) 0 (Nat.zero_le _)).tape
    · exact (setCells_below vs w tb (i * 6) 0 (Nat.zero_le _)).output
    · exact (setCells_below vs w tb (i * 6) 0 (Nat.zero_le _)).size
  · have hcap : ∃ (base : Option Addr) (cap : Nat) (olds : List Value), v = .slice base i cap ∧ cap < i + 1 ∧ olds.length = i * 6 ∧ (Builtin.firstCells i0.size i (.slice base i cap)).run Try.prog w.drew = .ok olds.toArray w.drew ∧
        ∀ k, k < i → ∃ pb len c, olds[k * 6 + 5]? = some (.slice (some ⟨pb, 0, none⟩) len c) ∧ 0 < len ∧ B ≤ pb ∧ pb < U ∧ RowAt w pb 3 ∧ ∀ j, j < 5 → ∃ u, olds[k * 6 + j]? = some u ∧ u.oneCell' = true := by
      rcases hv with ⟨rfl, rfl⟩ | ⟨tb, cap, rfl, hc, hr, hO⟩
      · exact ⟨none, 0, [], rfl, by omega, rfl, run_firstCells_none w.drew i0.size 0 0 0, fun k hk => absurd hk (Nat.not_lt_zero _)⟩
      · have hc2 : cap < i + 1 := by
          rcases Nat.lt_or_ge cap (i + 1) with h | h
          · exact h
          · exact absurd ⟨tb, cap, rfl, h⟩ hroom
        obtain ⟨row, t, hh, hs⟩ := hr
        refine ⟨some ⟨tb, 0, none⟩, cap, (List.range (i * 6)).map fun j => row.getD j undef, rfl, hc2, by simp, ?_, fun k hk => ?_⟩
        · rw [hzs]
          refine run_firstCells_some w.drew 6 i ⟨tb, 0, none⟩ i cap _ (by simp) fun j u hj => ?_
          have hjl := (List.getElem?_eq_some_iff.1 hj).1
          simp only [List.length_map, List.length_range] at hjl
          rw [Addr.add_lit, Nat.zero_add]
          show w.cell? ⟨tb, j, none⟩ = _
          rw [cell_of_row hh (by omega), ← hj]
          simp [hjl]
        · obtain ⟨pb, len, c, h1, h2, h3, h4, _, h6, h7⟩ := hO.2.2.2 k hk
          refine ⟨pb, len, c, ?_, h2, h3, h4, h6, fun j hj => ?_⟩
          · rw [cell_of_row hh (by omega)] at h1
            simp only [List.getElem?_map, List.getElem?_range (show k * 6 + 5 < i * 6 by omega), Option.map_some]
            exact h1
          · obtain ⟨u, q1, q2⟩ := h7 j hj
            rw [cell_of_row hh (by omega)] at q1
            refine ⟨u, ?_, q2⟩
            simp only [List.getElem?_map, List.getElem?_range (show k * 6 + j < i * 6 by omega), Option.map_some]
            exact q1
    obtain ⟨base, cap, olds, rfl, hc, hol, hold, hop⟩ := hcap
    have hrun := run_append_grow_src w 23 23 ty 37 i0 _ Try.underlying23 hi0 hz0 base i cap olds hold _ 1 vs hsrc (by omega) (by omega) (by rw [hzb]; exact growslice_fits (by omega) (by omega))
    have hge := grownCap_ge w (i + 1) cap 37
    generalize grownCap w (i + 1) cap 37 = cap' at hrun hge
    have hzc : (Value.agg #[.string ⟨#[]⟩, .int .i64 0, .int .i64 0, .int .i64 0, .int .i64 0, .slice none 0 0]).cells.size = 6 := rfl
    generalize hR : (olds ++ vs).toArray ++ Builtin.zeroCells (Value.agg #[.string ⟨#[]⟩, .int .i64 0, .int .i64 0, .int .i64 0, .int .i64 0, .slice none 0 0]).cells (cap' - (i + 1)) = R at hrun
    have hRs : cap' * 6 ≤ R.size := by
      rw [← hR]
      simp only [Array.size_append, List.size_toArray, List.length_append, size_zeroCells, hzc, hol, hvl]
      omega
    have hd : Below w.heap.size w (w.drew.alloc (.cells R 37)) := (drew_below w).trans (alloc_below w.drew _)
    have hsz : (w.drew.alloc (.cells R 37)).heap.size = w.heap.size + 1 := Array.size_push ..
    have hnew : (w.drew.alloc (.cells R 37)).heap[w.heap.size]? = some (.cells R 37 (0, 0)) := heap_alloc_new w.drew _
    have hcell : ∀ j u, (olds ++ vs)[j]? = some u → (w.drew.alloc (.cells R 37)).cell? ⟨w.heap.size, j, none⟩ = some u := by
      intro j u hj
      have hjl := (List.getElem?_eq_some_iff.1 hj).1
      have hjR : j < R.size := by rw [List.length_append, hol, hvl] at hjl; omega
      rw [cell_of_row hnew hjR, Array.getD_eq_getD_getElem?, ← hR, Array.getElem?_append_left (by simpa using hjl)]
      simp [hj]
    refine ⟨w.heap.size, cap', _, hrun, .inr ⟨w.heap.size, cap', rfl, hge, ⟨R, _, hnew, hRs⟩, hBw, by omega, ⟨R, _, hnew, by omega⟩, fun k hk => ?_⟩, w.heap.size, ⟨hd.os, hd.tape, hd.output, hd.size, fun k hk _ => hd.block k hk⟩, .inr ⟨rfl, rfl⟩⟩
    by_cases hki : k < i
    · obtain ⟨pb2, len2, c2, q1, q2, q3, q4, q5, q6⟩ := hop k hki
      refine ⟨pb2, len2, c2, hcell _ _ ?_, q2, q3, by omega, by have := q5.lt; omega, q5.below hd, fun j hj => ?_⟩
      · rw [List.getElem?_append_left (by omega)]; exact q1
      · obtain ⟨u, z1, z2⟩ := q6 j hj
        exact ⟨u, hcell _ _ (by rw [List.getElem?_append_left (by omega)]; exact z1), z2⟩
    · obtain rfl : k = i := by omega
      refine ⟨pb, len, pc, hcell _ _ ?_, hp0, hpB, by omega, by have := hpr.lt; omega, hpr.below hd, fun j hj => ?_⟩
      · rw [List.getElem?_append_right (by omega), hol, show k * 6 + 5 - k * 6 = 5 by omega]; exact hv5
      · have hjl : j < vs.length := by omega
        exact ⟨_, hcell _ _ (by rw [List.getElem?_append_right (by omega), hol, show k * 6 + j - k * 6 = j by omega]; exact List.getElem?_eq_getElem hjl), h1v _ (List.getElem_mem hjl)⟩
end Go.Proofs.YtkohggddaheefaaEv
