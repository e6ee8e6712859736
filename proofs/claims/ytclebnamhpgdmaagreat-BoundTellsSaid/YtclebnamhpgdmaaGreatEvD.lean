/- The operations that read or write memory. -/
import Derived.Test.YtclebnamhpgdmaaGreatEvC
namespace Go.Proofs.YtclebnamhpgdmaaGreatEv
open Go Go.RowKit
set_option linter.unusedSimpArgs false
set_option linter.unusedVariables false

variable {P : Program} {F : Fr} {lim μ : Nat → Nat} {own : Nat → Pl} {s : Env × Bx} {a : Act} {w : World} {o : Oper} {next : Act → World → Prop} {Q : Exit → Act → World → Prop}

/-! ### reading -/
theorem load_agg {t : TypeId} {d : TypeDesc} {i : TypeInfo} (hu : P.underlying t = some d) (hi : P.info? t = some i) (hd : isAggD d = true) {b q : Nat} (vs : Nat → Value)
    (hc : ∀ j, j < i.size → w.cell? ⟨b, q + j, none⟩ = some (vs j)) :
    (Instr.loadAt t (.pointer (some ⟨b, q, none⟩))).run P w = .ok (.agg ((List.range i.size).map vs).toArray) w := by
  have h := run_loadCells (P := P) w ⟨b, q, none⟩ i.size vs (fun j hj => by rw [Addr.add_lit]; exact hc j hj)
  have hs : (sizeOf t).run P w = .ok i.size w := by simp [sizeOf, typeInfo, hi]
  cases d <;> simp [isAggD] at hd <;> simp [Instr.loadAt, Instr.sureAddr, loadVar, isAgg, run_underlying hu, hs, h]

theorem load_one {t : TypeId} {d : TypeDesc} (hu : P.underlying t = some d) (hd : isAggD d = false) {b q : Nat} {v : Value}
    (hc : w.cell? ⟨b, q, none⟩ = some v) : (Instr.loadAt t (.pointer (some ⟨b, q, none⟩))).run P w = .ok v w := by
  cases d <;> simp [isAggD] at hd <;> simp [Instr.loadAt, Instr.sureAddr, loadVar, isAgg, run_underlying hu, hc]

theorem cell_of_row {cs : Array Value} {t fr b} (h : w.heap[b]? = some (.cells cs t fr)) {j : Nat} (hj : j < cs.size) : w.cell? ⟨b, j, none⟩ = some (cs.getD j undef) := by
  unfold World.cell?
  simp [h, hj]

theorem getD_range (n : Nat) (vs : Nat → Value) (j : Nat) (hj : j < n) : (((List.range n).map vs).toArray).getD j undef = vs j := by
  simp [Array.getD_eq_getD_getElem?, hj]

/-! ### writing a row -/
theorem setCell_heap {cs : Array Value} {t fr} {b q : Nat} (v : Value) (h : w.heap[b]? = some (.cells cs t fr)) :
    (w.setCell ⟨b, q, none⟩ v).heap[b]? = some (.cells (cs.setIfInBounds q v) t fr) := by
  simp [World.setCell, Array.getElem?_modify, h]

theorem setCells_heap : ∀ (vs : List Value) (w : World) (cs : Array Value) (t : TypeId) (fr : Nat × Nat) (b q : Nat), w.heap[b]? = some (.cells cs t fr) →
    ∃ cs', (w.setCells b q vs).heap[b]? = some (.cells cs' t fr) ∧ cs'.size = cs.size ∧ ∀ j, j < cs.size → cs'.getD j undef = if q ≤ j ∧ j < q + vs.length then vs.getD (j - q) undef else cs.getD j undef
  | [], w, cs, t, fr, b, q, h => ⟨cs, h, rfl, fun j hj => by rw [if_neg (by simp)]⟩
  | v :: vs, w, cs, t, fr, b, q, h => by
    obtain ⟨cs', h1, h2, h3⟩ := setCells_heap vs _ _ t fr b (q + 1) (setCell_heap (q := q) v h)
    refine ⟨cs', h1, by simpa using h2, fun j hj => ?_⟩
    rw [h3 j (by simpa using hj)]
    have hg : (cs.setIfInBounds q v).getD j undef = if j = q then v else cs.getD j undef := by
      simp only [Array.getD_eq_getD_getElem?, Array.getElem?_setIfInBounds]
      by_cases e : q = j
      · subst e; simp [hj]
      · have : ¬ j = q := fun x => e x.symm
        simp [e, this]
    by_cases e : j = q
    · subst e
      rw [if_neg (by omega), hg, if_pos rfl, if_pos (by simp)]
      simp
    · rw [hg, if_neg e]
      by_cases hr : q + 1 ≤ j ∧ j < q + 1 + vs.length
      · rw [if_pos hr, if_pos (by simp; omega)]
        rw [show j - q = (j - (q + 1)) + 1 by omega]
        simp
      · rw [if_neg hr, if_neg (by simp; omega)]

theorem setCells_other : ∀ (vs : List Value) (w : World) (b q k : Nat), k ≠ b → (w.setCells b q vs).heap[k]? = w.heap[k]?
  | [], _, _, _, _, _ => rfl
  | v :: vs, w, b, q, k, h => by
    rw [World.setCells, setCells_other vs _ b (q + 1) k h, Below.heap_setCell _ _ _ _ h]

theorem setCells_below : ∀ (vs : List Value) (w : World) (b q B : Nat), B ≤ b → Below B w (w.setCells b q vs)
  | [], w, _, _, _, _ => Below.refl _ _
  | v :: vs, w, b, q, B, h => by
    rw [World.setCells]
    exact ((Below.refl B w).setCell (p := ⟨b, q, none⟩) h v).trans (setCells_below vs _ b (q + 1) B h)

/-- A store into a box. -/
theorem InvG.store (h : InvG F lim μ own s a w) {r q : Nat} {vs : List Value} {xs : List A} (hr : r < s.2.length) (hq : q + xs.length ≤ s.2[r].length) (hl : vs.length = xs.length)
    (hrep : ∀ i (hi : i < xs.length), RepC w lim μ s.2.length (vs.getD i undef) xs[i]) {own' : Nat → Pl}
    (hflt : ∀ i, FlagOk w lim own' F.w0.heap.size (.t i) (a.tmps.getD i undef) (s.1 i))
    (hflb : ∀ r o cs t, F.nb ≤ r → (h : r < s.2.length) → w.heap[μ r]? = some (.cells cs t (0, 0)) → (ho : o < s.2[r].length) → FlagOk w lim own' F.w0.heap.size (.b r o) (cs.getD o undef) s.2[r][o])
    (hnew : F.nb ≤ r → ∀ i (hi : i < xs.length), FlagOk w lim own' F.w0.heap.size (.b r (q + i)) (vs.getD i undef) xs[i]) :
    InvG F lim μ own' (s.1, s.2.set r (s.2[r].take q ++ xs ++ s.2[r].drop (q + xs.length))) a (w.setCells (μ r) q vs) := by
  obtain ⟨cs, t, hh, hs, hc⟩ := h.box.row r hr
  obtain ⟨cs', hh', hs', hg'⟩ := setCells_heap vs w cs t (0, 0) (μ r) q hh
  have hlim := h.box.lim0 r hr
  have hext : Ext w lim (w.setCells (μ r) q vs) lim := by
    intro b o v ho hc
    refine ⟨?_, ho⟩
    by_cases e : b = μ r
    · subst e; omega
    · rw [cell?_of_heap (setCells_other vs w (μ r) q b e)]; exact hc
  have hnlen : (s.2[r].take q ++ xs ++ s.2[r].drop (q + xs.length)).length = s.2[r].length := by simp; omega
  have hget : ∀ o (ho : o < s.2[r].length), (s.2[r].take q ++ xs ++ s.2[r].drop (q + xs.length))[o]'(by rw [hnlen]; exact ho) =
      if h : q ≤ o ∧ o < q + xs.length then xs[o - q]'(by omega) else s.2[r][o] := by
    intro o ho
    by_cases h1 : o < q
    · rw [dif_neg (by omega)]
      rw [List.getElem_append_left (by simp; omega), List.getElem_append_left (by simp; omega)]
      simp
    · by_cases h2 : o < q + xs.length
      · rw [dif_pos (by omega)]
        rw [List.getElem_append_left (by simp; omega), List.getElem_append_right (by simp; omega)]
        congr 1
        simp; omega
      · rw [dif_neg (by omega)]
        rw [List.getElem_append_right (by simp; omega)]
        rw [List.getElem_drop]
        congr 1
        simp; omega
  have hfm : ∀ own p v x, FlagOk w lim own F.w0.heap.size p v x → FlagOk (w.setCells (μ r) q vs) lim own F.w0.heap.size p v x := by
    intro own p v x hf l n b o c e1 e2 e3
    obtain ⟨g1, g2, g3, g4, cs1, t1, sz, g5, g6, g7⟩ := hf l n b o c e1 e2 e3
    have : b ≠ μ r := by rintro rfl; omega
    exact ⟨g1, g2, g3, g4, cs1, t1, sz, (setCells_other vs w (μ r) q b this).trans g5, g6, g7⟩
  have hsl : (s.2.set r (s.2[r].take q ++ xs ++ s.2[r].drop (q + xs.length))).length = s.2.length := by simp
  refine ⟨h.defers, h.size, by simpa using h.nb, h.mu0, fun k hk hk' => h.mub k hk (by simpa using hk'), fun i => ?_, ⟨?_, ?_, ?_⟩, fun i => hfm _ _ _ _ (hflt i), ?_, ?_, h.lim0⟩
  · have := (h.env i).mono (μ' := μ) (m' := s.2.length) hext (fun _ _ => rfl) (Nat.le_refl _)
    simpa using this
  · intro k hk
    have hk' : k < s.2.length := by simpa using hk
    rw [hsl]
    by_cases e : r = k
    · subst e
      refine ⟨cs', t, hh', ?_, ?_⟩
      · simp only [List.getElem_set_self, hnlen, hs']; exact hs
      · intro o ho
        simp only [List.getElem_set_self, hnlen] at ho
        simp only [List.getElem_set_self]
        rw [hget o ho, hg' o (by omega)]
        rw [hl]
        by_cases hin : q ≤ o ∧ o < q + xs.length
        · rw [dif_pos hin, if_pos hin]; exact (hrep (o - q) (by omega)).mono hext (fun _ _ => rfl) (Nat.le_refl _)
        · rw [dif_neg hin, if_neg hin]; exact (hc o ho).mono hext (fun _ _ => rfl) (Nat.le_refl _)
    · obtain ⟨cs1, t1, k1, k2, k3⟩ := h.box.row k hk'
      have hne : μ k ≠ μ r := fun e' => e (h.box.inj _ _ hk' hr e').symm
      refine ⟨cs1, t1, (setCells_other vs w (μ r) q _ hne).trans k1, ?_, ?_⟩
      · rw [List.getElem_set_ne e]; exact k2
      · intro o ho
        rw [List.getElem_set_ne e] at ho
        have : (s.2.set r (s.2[r].take q ++ xs ++ s.2[r].drop (q + xs.length)))[k] = s.2[k] := List.getElem_set_ne e _
        simp only [this]
        exact (k3 o ho).mono hext (fun _ _ => rfl) (Nat.le_refl _)
  · intro k hk; exact h.box.lim0 k (by simpa using hk)
  · intro k k' hk hk' e; exact h.box.inj k k' (by simpa using hk) (by simpa using hk') e
  · intro k o cs1 t1 hk hk' hheap ho
    have hk2 : k < s.2.length := by simpa using hk'
    by_cases e : r = k
    · subst e
      rw [hh'] at hheap
      cases hheap
      simp only [List.getElem_set_self, hnlen] at ho
      simp only [List.getElem_set_self]
      rw [hget o ho, hg' o (by omega), hl]
      by_cases hin : q ≤ o ∧ o < q + xs.length
      · rw [dif_pos hin, if_pos hin]
        have := hnew hk (o - q) (by omega)
        rw [show q + (o - q) = o by omega] at this
        exact hfm _ _ _ _ this
      · rw [dif_neg hin, if_neg hin]; exact hfm _ _ _ _ (hflb r o cs t hk hk2 hh ho)
    · have hne : μ k ≠ μ r := fun e' => e (h.box.inj _ _ hk2 hr e').symm
      rw [setCells_other vs w (μ r) q _ hne] at hheap
      have : (s.2.set r (s.2[r].take q ++ xs ++ s.2[r].drop (q + xs.length)))[k] = s.2[k] := List.getElem_set_ne e _
      simp only [this] at ho ⊢
      exact hfm _ _ _ _ (hflb k o cs1 t1 hk hk2 hheap ho)
  · refine h.below.trans ?_
    have hb := setCells_below vs w (μ r) q (μ r) (Nat.le_refl _)
    refine ⟨hb.os, hb.tape, hb.output, hb.size, fun k hk hne => setCells_other vs w (μ r) q k ?_⟩
    rintro rfl
    rcases Nat.lt_or_ge r F.nb with h1 | h1
    · exact hne r h1 (h.mu0 r h1).symm
    · have := h.mub r h1 hr; omega

theorem alloc_below (w : World) (x : Obj) : Below w.heap.size w (w.alloc x) := (Below.refl _ _).alloc (Nat.le_refl _) x

def μBox (w : World) (μ : Nat → Nat) (m : Nat) : Nat → Nat := fun r => if r = m then w.heap.size else μ r
def limBox (w : World) (lim : Nat → Nat) : Nat → Nat := fun b => if b = w.heap.size then 0 else lim b

/-- A new box. -/
theorem InvG.newBox (h : InvG F lim μ own s a w) {cs : Array Value} {t : TypeId} {xs : List A} (hs : xs.length ≤ cs.size) (hrep : ∀ i (hi : i < xs.length), RepC w lim μ s.2.length (cs.getD i undef) xs[i]) {own' : Nat → Pl}
    (hflt : ∀ i, FlagOk w lim own' F.w0.heap.size (.t i) (a.tmps.getD i undef) (s.1 i))
    (hflb : ∀ r o cs t, F.nb ≤ r → (h : r < s.2.length) → w.heap[μ r]? = some (.cells cs t (0, 0)) → (ho : o < s.2[r].length) → FlagOk w lim own' F.w0.heap.size (.b r o) (cs.getD o undef) s.2[r][o])
    (hnew : ∀ i (hi : i < xs.length), FlagOk w lim own' F.w0.heap.size (.b s.2.length i) (cs.getD i undef) xs[i]) :
    InvG F (limBox w lim) (μBox w μ s.2.length) own' (s.1, s.2 ++ [xs]) a (w.alloc (.cells cs t)) := by
  have hb := alloc_below w (.cells cs t)
  have hl : ∀ b, b < w.heap.size → limBox w lim b = lim b := fun b hb => by unfold limBox; rw [if_neg (by omega)]
  have hsz := h.below.size
  have hext := Ext.of_below (lim := lim) hb hl
  have hμ : ∀ r, r < s.2.length → μBox w μ s.2.length r = μ r := fun r hr => by unfold μBox; rw [if_neg (by omega)]
  have hm : s.2.length ≤ (s.2 ++ [xs]).length := by simp
  refine ⟨h.defers, h.size, by simp; have := h.nb; omega, fun r hr => ?_, fun r hr hr' => ?_, fun i => (h.env i).mono hext hμ hm, ⟨?_, ?_, ?_⟩, fun i => (hflt i).mono hb hl, ?_, h.below.trans (.of_below (hb.mono hsz)), fun b hbb => (hl b (by omega)).trans (h.lim0 b hbb)⟩
  · have := h.nb
    rw [hμ r (by omega)]; exact h.mu0 r hr
  · unfold μBox
    split
    · exact hsz
    · simp at hr'; exact h.mub r hr (by omega)
  · intro r hr
    by_cases e : r = s.2.length
    · subst e
      refine ⟨cs, t, ?_, ?_, ?_⟩
      · unfold μBox; rw [if_pos rfl]; exact heap_alloc_new w _
      · simpa using hs
      · intro o ho
        simp only [List.getElem_concat_length] at ho ⊢
        exact (hrep o ho).mono hext hμ hm
    · have hr' : r < s.2.length := by simp at hr; omega
      obtain ⟨cs1, t1, k1, k2, k3⟩ := h.box.row r hr'
      refine ⟨cs1, t1, ?_, ?_, ?_⟩
      · rw [hμ r hr']; exact (hb.block _ (lt_of_heap k1)).trans k1
      · rw [List.getElem_append_left hr']; exact k2
      · intro o ho
        simp only [List.getElem_append_left hr'] at ho ⊢
        exact (k3 o ho).mono hext hμ hm
  · intro r hr
    by_cases e : r = s.2.length
    · unfold limBox μBox; rw [if_pos e, if_pos rfl]
    · have hr' : r < s.2.length := by simp at hr; omega
      have := h.box.lt hr'
      rw [hμ r hr', hl _ this]; exact h.box.lim0 r hr'
  · intro r r' hr hr' e
    unfold μBox at e
    by_cases e1 : r = s.2.length <;> by_cases e2 : r' = s.2.length
    · omega
    · rw [if_pos e1, if_neg e2] at e
      have := h.box.lt (show r' < s.2.length by simp at hr'; omega)
      omega
    · rw [if_neg e1, if_pos e2] at e
      have := h.box.lt (show r < s.2.length by simp at hr; omega)
      omega
    · rw [if_neg e1, if_neg e2] at e
      exact h.box.inj r r' (by simp at hr; omega) (by simp at hr'; omega) e
  · intro r o cs1 t1 hr hr' hh ho
    by_cases e : r = s.2.length
    · subst e
      unfold μBox at hh
      rw [if_pos rfl, heap_alloc_new w (.cells cs t)] at hh
      cases hh
      simp only [List.getElem_concat_length] at ho ⊢
      exact (hnew o ho).mono hb hl
    · have hr2 : r < s.2.length := by simp at hr'; omega
      rw [hμ r hr2, hb.block _ (h.box.lt hr2)] at hh
      simp only [List.getElem_append_left hr2] at ho ⊢
      exact (hflb r o cs1 t1 hr hr2 hh ho).mono hb hl

/-- A new box whose cells hold no right. -/
theorem InvG.newBox0 (h : InvG F lim μ own s a w) {cs : Array Value} {t : TypeId} {xs : List A} (hs : xs.length ≤ cs.size) (hrep : ∀ i (hi : i < xs.length), RepC w lim μ s.2.length (cs.getD i undef) xs[i]) (h2 : ∀ i (hi : i < xs.length), n2 xs[i]) :
    InvG F (limBox w lim) (μBox w μ s.2.length) own (s.1, s.2 ++ [xs]) a (w.alloc (.cells cs t)) :=
  h.newBox hs hrep h.flt h.flb fun i hi => .of_n2 (h2 i hi)

/-- A new row that slices read. -/
theorem InvG.newRow (h : InvG F lim μ own s a w) (x : Obj) (L : Nat) :
    InvG F (fun b => if b = w.heap.size then L else lim b) μ own s a (w.alloc x) :=
  h.step (alloc_below w x) fun b hb => by simp; omega

theorem drew_below (w : World) : Below w.heap.size w w.drew := (Below.refl _ _).drew

theorem rep_row {cs : Array Value} {t : TypeId} {l : List A} {n c g L : Nat} (hs : l.length ≤ cs.size) (hL : l.length ≤ L) (hn : n ≤ c) (hg : g = 1 → c = n) (h3 : g ≠ 3) (hrep : ∀ i (hi : i < l.length), RepV w lim (cs.getD i undef) l[i]) :
    RepV (w.alloc (.cells cs t)) (fun b => if b = w.heap.size then L else lim b) (.slice (some ⟨w.heap.size, 0, none⟩) n c) (.sl l n g) := by
  have hext : Ext w lim (w.alloc (.cells cs t)) (fun b => if b = w.heap.size then L else lim b) := .of_below (alloc_below w _) fun b hb => by simp; omega
  refine .sl _ _ _ _ _ _ (fun i => cs.getD i undef) hn hg h3 (fun i hi => ?_) (fun i hi => ?_) (fun i hi => (hrep i hi).mono hext)
  · rw [Nat.zero_add]; exact cell_of_row (heap_alloc_new w _) (by omega)
  · simp; omega
end Go.Proofs.YtclebnamhpgdmaaGreatEv
