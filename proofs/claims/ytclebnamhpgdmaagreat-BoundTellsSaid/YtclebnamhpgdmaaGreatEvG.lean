/- Each operation does what the evaluator says: the rest. -/
import Derived.Test.YtclebnamhpgdmaaGreatEvE
namespace Go.Proofs.YtclebnamhpgdmaaGreatEv
open Go Go.RowKit
set_option linter.unusedSimpArgs false
set_option linter.unusedVariables false

variable {P : Program} {F : Fr} {lim μ : Nat → Nat} {own : Nat → Pl} {s : Env × Bx} {a : Act} {w : World} {o : Oper} {next : Act → World → Prop} {Q : Exit → Act → World → Prop}
  {x : A} {ups : List (Nat × A)} {bx' : Bx} {Φ : CallF}

/-! ### literals -/
theorem foldl_set (off : Nat) : ∀ (l : List Value) (k : Nat) (cells : Array Value),
    ((l.zipIdx k).foldl (fun cs p => cs.setIfInBounds (off + p.2) p.1) cells).size = cells.size ∧
    ∀ j, j < cells.size → ((l.zipIdx k).foldl (fun cs p => cs.setIfInBounds (off + p.2) p.1) cells).getD j undef = if off + k ≤ j ∧ j < off + k + l.length then l.getD (j - (off + k)) undef else cells.getD j undef
  | [], k, cells => ⟨rfl, fun j hj => by rw [if_neg (by simp)]; rfl⟩
  | v :: l, k, cells => by
    obtain ⟨h1, h2⟩ := foldl_set off l (k + 1) (cells.setIfInBounds (off + k) v)
    rw [List.zipIdx_cons, List.foldl_cons]
    refine ⟨by simpa using h1, fun j hj => ?_⟩
    rw [h2 j (by simpa using hj)]
    have hg : (cells.setIfInBounds (off + k) v).getD j undef = if j = off + k then v else cells.getD j undef := by
      simp only [Array.getD_eq_getD_getElem?, Array.getElem?_setIfInBounds]
      by_cases e : off + k = j
      · subst e; simp [hj]
      · have : ¬ j = off + k := fun x => e x.symm
        simp [e, this]
    by_cases e : j = off + k
    · subst e
      rw [if_neg (by omega), hg, if_pos rfl, if_pos (by simp)]
      simp
    · rw [hg, if_neg e]
      by_cases hr : off + (k + 1) ≤ j ∧ j < off + (k + 1) + l.length
      · rw [if_pos hr, if_pos (by simp; omega)]
        rw [show j - (off + k) = (j - (off + (k + 1))) + 1 by omega]
        simp
      · rw [if_neg hr, if_neg (by simp; omega)]

theorem fill_sound (h : InvG F lim μ own s a w) (place : Nat → Option (Nat × Nat)) (nrm : Bool) : ∀ (ps : List (Nat × Operand)) (ps' : List (Nat × Nat × O)) (cells : Array Value) (cs cs' : List A),
    partsOf place ps = some ps' → (ps'.map (·.2.2)).all (okO F.nt) = true → cells.size = cs.length → (∀ i (hi : i < cs.length), RepC w lim μ s.2.length (cells.getD i undef) cs[i] ∧ n2 cs[i] ∧ (nrm = true → cs[i].isV = true)) →
    fillA s.1 nrm cs ps' = some cs' →
    ∃ cells', Instr.fill place cells (ps.map fun p => (p.1, a.eval p.2)) = some cells' ∧ cells'.size = cs'.length ∧ cs'.length = cs.length ∧ ∀ i (hi : i < cs'.length), RepC w lim μ s.2.length (cells'.getD i undef) cs'[i] ∧ n2 cs'[i] ∧ (nrm = true → cs'[i].isV = true)
  | [], ps', cells, cs, cs', hp, _, hs, hr, hf => by
    cases hp; cases hf
    exact ⟨cells, rfl, hs, rfl, hr⟩
  | (i, y) :: ps, ps', cells, cs, cs', hp, hk, hs, hr, hf => by
    unfold partsOf at hp
    split at hp
    · rename_i off size y' t e1 e2 e3
      cases hp
      simp only [List.map_cons, List.all_cons, Bool.and_eq_true] at hk
      have hy := eval_rep h e2 hk.1
      unfold fillA at hf
      simp only at hf
      obtain ⟨z, hc, hy', hzz⟩ : ∃ z, (if nrm = true then (y'.ev s.1).norm else (y'.ev s.1).cp) = z ∧ Rep w lim μ s.2.length (a.eval y) z ∧ n2 z := by
        cases nrm with
        | true => exact ⟨_, rfl, hy.norm, n2_norm _⟩
        | false => exact ⟨_, rfl, hy.cp, n2_cp _⟩
      rw [hc] at hf
      split at hf
      · rename_i hcond
        obtain ⟨hl, hle, hv0⟩ := hcond
        have hv : z.cells.all A.isC = true := by
          rw [List.all_eq_true] at hv0 ⊢
          intro b hb
          have := hv0 b hb
          cases nrm with
          | true => exact isC_of_isV (by simpa [okCell] using this)
          | false => simpa [okCell] using this
        have hvV : nrm = true → ∀ j (hj : j < z.cells.length), z.cells[j].isV = true := by
          intro hn j hj
          have := List.all_eq_true.1 hv0 _ (List.getElem_mem hj)
          simpa [hn, okCell] using this
        obtain ⟨hcs, hcr⟩ := hy'.cells hv
        have hz2 : ∀ j (hj : j < z.cells.length), n2 z.cells[j] := by
          intro j hj
          cases z with
          | agg l => obtain ⟨_, _, _, _, h3⟩ := hy'.toAgg; exact h3 j hj
          | sl l n g =>
            simp only [A.cells, List.getElem_singleton]
            intro l' n' e
            exact hzz _ _ e
          | _ => intro l n e; simp [A.cells] at e
        obtain ⟨f1, f2⟩ := foldl_set off (a.eval y).cells.toList 0 cells
        have harr : ((a.eval y).cells.zipIdx.foldl (init := cells) fun cs p => cs.setIfInBounds (off + p.2) p.1) = (((a.eval y).cells.toList.zipIdx 0).foldl (fun cs p => cs.setIfInBounds (off + p.2) p.1) cells) := by
          rw [← Array.foldl_toList]; simp
        have hlen : (cs.take off ++ z.cells ++ cs.drop (off + size)).length = cs.length := by simp; omega
        obtain ⟨cells', g1, g2, g3, g4⟩ := fill_sound h place nrm ps t (((a.eval y).cells.toList.zipIdx 0).foldl (fun cs p => cs.setIfInBounds (off + p.2) p.1) cells) (cs.take off ++ z.cells ++ cs.drop (off + size)) cs' e3 hk.2 (by rw [f1, hlen, hs])
          (fun j hj => by
            rw [hlen] at hj
            rw [f2 j (by omega), Nat.add_zero]
            by_cases h1 : j < off
            · rw [if_neg (by omega)]
              rw [List.getElem_append_left (by simp; omega), List.getElem_append_left (by simp; omega), List.getElem_take]
              exact hr j hj
            · by_cases h2 : j < off + size
              · rw [if_pos (by simp [hcs, hl]; omega)]
                rw [List.getElem_append_left (by simp; omega), List.getElem_append_right (by simp; omega)]
                have hj1 : j - (cs.take off).length = j - off := by simp; omega
                have hlt : j - off < z.cells.length := by omega
                have q1 := hcr (j - off) hlt
                have q2 := hz2 (j - off) hlt
                rw [List.getD_eq_getElem?_getD, Array.getElem?_toList]
                rw [Array.getD_eq_getD_getElem?] at q1
                simp only [hj1]
                exact ⟨q1, q2, fun hn => hvV hn _ hlt⟩
              · rw [if_neg (by simp [hcs, hl]; omega)]
                rw [List.getElem_append_right (by simp; omega), List.getElem_drop]
                have : off + size + (j - (cs.take off ++ z.cells).length) = j := by simp; omega
                simp only [this]
                exact hr j hj)
          hf
        refine ⟨cells', ?_, g2, by rw [g3, hlen], g4⟩
        simp only [List.map_cons, Instr.fill, e1]
        rw [if_neg]
        · rw [harr]; exact g1
        · simp [hcs, hl, hs]; omega
      · cases hf
    · cases hp

theorem run_places : ∀ (fs : List Field) (pl : List (Nat × Nat)), sizesOf P fs = some pl →
    (fs.mapM (fun f => do pure (f.offset, ← sizeOf f.type) : Field → Sem (Nat × Nat))).run P w = .ok pl w
  | [], pl, h => by cases h; simp
  | f :: fs, pl, h => by
    unfold sizesOf at h
    split at h
    · rename_i i t e1 e2
      cases h
      have ih := run_places fs t e2
      have hs : (sizeOf f.type).run P w = .ok i.size w := by simp [sizeOf, typeInfo, e1]
      simp only [List.mapM_cons, Sem.run_bind, hs, Result.andThen_ok, Sem.run_pure, ih]
    · cases h

theorem zero_rep {t : TypeId} {z : List Value} (hz : zeroOf P t = some z) : ∃ i zv, P.info? t = some i ∧ i.zero = some zv ∧ zv.cells.toList = z ∧ z.length = i.size ∧ (∀ v ∈ z, v.oneCell' = true) := by
  unfold zeroOf at hz
  split at hz
  · rename_i i hi
    split at hz
    · rename_i zv hzv
      split at hz
      · rename_i hcond
        cases hz
        exact ⟨i, zv, hi, hzv, rfl, hcond.1, fun v hv => List.all_eq_true.1 hcond.2 v hv⟩
      · cases hz
    · cases hz
  · cases hz

theorem isV_cst1 (v : Value) (h : v.oneCell' = true) : (cst1 v).isV = true := by
  unfold cst1
  split
  · rfl
  · exact h

theorem cst_cells {cells : Array Value} {z : List Value} (he : cells.toList = z) (h1 : ∀ v ∈ z, v.oneCell' = true) (i : Nat) (hi : i < (z.map cst1).length) :
    RepV w lim (cells.getD i undef) (z.map cst1)[i] ∧ n2 (z.map cst1)[i] ∧ (z.map cst1)[i].isV = true := by
  subst he
  have hi' : i < cells.size := by simpa using hi
  have e : cells.getD i undef = cells.toList[i]'(by simpa using hi') := by simp [Array.getD, hi']
  rw [e, List.getElem_map]
  exact ⟨rep_cst1 _ (h1 _ (List.getElem_mem _)), n2_cst1 _, isV_cst1 _ (h1 _ (List.getElem_mem _))⟩

theorem s_build {t : TypeId} {ps : Array (Nat × Operand)} {fs : Array Field} {z : List Value} {pl : List (Nat × Nat)} {ps' : List (Nat × Nat × O)} (h : InvG F lim μ own s a w) (hd : ∀ k, o.dst = some k → k < F.nt)
    (ho : o.op = .build t ps) (hu : P.underlying t = some (.struct fs)) (hz : zeroOf P t = some z) (hpl : sizesOf P fs.toList = some pl) (hp : partsOf (fun i => pl[i]?) ps.toList = some ps')
    (hk : (I.build z ps').os.all (okO F.nt) = true) (hev : evI Φ F.nb (.build z ps') s.1 s.2 = some (x, ups, bx')) (hn : Goes F o s x ups bx' next) : o.wp P a w next Q := by
  simp only [evI, Option.map_eq_some_iff] at hev
  obtain ⟨cs', hf, he⟩ := hev
  cases he
  obtain ⟨i, zv, hi, hzv, hzl, hlen, h1⟩ := zero_rep hz
  obtain ⟨cells', g1, g2, g3, g4⟩ := fill_sound h (fun i => pl[i]?) false ps.toList ps' zv.cells (z.map cst1) cs' hp hk (by rw [← hzl]; simp) (fun i hi => ⟨.v (cst_cells hzl h1 i hi).1, (cst_cells (w := w) (lim := lim) hzl h1 i hi).2.1, fun h => by cases h⟩) hf
  have hpm := run_places (P := P) (w := w) fs.toList pl hpl
  have hrun : (execOp a.eval o).run P w = .ok (.value (.agg cells')) w := by
    have hm : (fs.mapM (fun f => do pure (f.offset, ← sizeOf f.type) : Field → Sem (Nat × Nat))).run P w = .ok pl.toArray w := by
      rw [Array.mapM_eq_mapM_toList]; simp only [Sem.run_map, hpm, Result.andThen_ok]
    simp only [bind_pure_comp] at hm
    have g1' : Instr.fill (fun x => pl.toArray[x]?) zv.cells (ps.map fun p => (p.1, a.eval p.2)).toList = some cells' := by
      simpa using g1
    simp [execOp, ho, Instr.build, zeroValue, typeInfo, hi, hzv, run_underlying hu, hm]
    simp at g1'
    simp [g1']
  refine pure_sound h hd hrun (.r (.agg _ _ g2 (fun j hj => (g4 j hj).1) (fun j hj => (g4 j hj).2.1))) (fun _ _ e => by cases e) hn

theorem s_bsl {mu : Bool} {t e : TypeId} {len : Nat} {ps : Array (Nat × Operand)} {i : TypeInfo} {z : List Value} {ps' : List (Nat × Nat × O)} (h : InvG F lim μ own s a w) (hd : ∀ k, o.dst = some k → k < F.nt)
    (ho : o.op = .buildSlice t len ps) (hu : P.underlying t = some (.slice e)) (hi : P.info? e = some i) (hz : zeroOf P e = some z) (hlim : len * i.size ≤ 16777216) (hpos : 0 < i.size)
    (hp : partsOf (fun k => some (k * i.size, i.size)) ps.toList = some ps')
    (hk : (I.bsl i.size len ((List.range (len * i.size)).map fun j => z.getD (j % z.length) undef) ps' mu).os.all (okO F.nt) = true)
    (hev : evI Φ F.nb (.bsl i.size len ((List.range (len * i.size)).map fun j => z.getD (j % z.length) undef) ps' mu) s.1 s.2 = some (x, ups, bx')) (hn : Goes F o s x ups bx' next) : o.wp P a w next Q := by
  simp only [evI] at hev
  obtain ⟨cs', hf, hev⟩ : ∃ cs', fillA s.1 true (((List.range (len * i.size)).map fun j => z.getD (j % z.length) undef).map cst1) ps' = some cs' ∧
      (if mu = true ∧ 0 < len then some (.bs s.2.length len i.size, [], s.2 ++ [cs']) else some (.sl (cs'.map A.norm1) len 1, [], s.2)) = some (x, ups, bx') := by
    split at hev
    · rename_i cs' hf; exact ⟨cs', hf, hev⟩
    · cases hev
  obtain ⟨i', zv, hi', hzv, hzl, hlen, h1⟩ := zero_rep hz
  rw [hi] at hi'
  cases hi'
  have hzsz : zv.cells.size = i.size := by rw [← hlen, ← hzl]; simp
  have hcells : ∀ n, 0 < n → (((Array.range n).map (zv.cells[· % zv.cells.size]!)).toList = (List.range n).map fun j => z.getD (j % z.length) undef) := by
    intro n hn
    rw [← hzl]
    simp only [Array.toList_map, Array.toList_range]
    apply List.map_congr_left
    intro j hj
    have : j % zv.cells.size < zv.cells.size := Nat.mod_lt _ (by omega)
    simp [this]
  have hone : ∀ v ∈ (List.range (len * i.size)).map (fun j => z.getD (j % z.length) undef), v.oneCell' = true := by
    intro v hv
    simp only [List.mem_map, List.mem_range] at hv
    obtain ⟨j, hj, rfl⟩ := hv
    have : j % z.length < z.length := Nat.mod_lt _ (by omega)
    rw [List.getD_eq_getElem?_getD, List.getElem?_eq_getElem this]
    exact h1 _ (List.getElem_mem _)
  -- the zero row
  obtain ⟨zc, zr, hzr1, hzr2, hzr3⟩ : ∃ zc zr : Array Value, zr.toList = ((List.range (len * i.size)).map fun j => z.getD (j % z.length) undef) ∧
      (Array.range (len * i.size)).map (zc[· % zc.size]!) = zr ∧ zc = (if len * i.size = 0 then #[] else zv.cells) := by
    by_cases h0 : len * i.size = 0
    · exact ⟨#[], #[], by simp [h0], by simp [h0], by rw [if_pos h0]⟩
    · exact ⟨zv.cells, _, hcells _ (by omega), rfl, by rw [if_neg h0]⟩
  obtain ⟨cells', g1, g2, g3, g4⟩ := fill_sound h (fun k => some (k * i.size, i.size)) true ps.toList ps' zr _ cs' hp hk (by rw [← hzr1]; simp) (fun i hi => ⟨.v (cst_cells hzr1 hone i hi).1, (cst_cells (w := w) (lim := lim) hzr1 hone i hi).2.1, fun _ => (cst_cells (w := w) (lim := lim) hzr1 hone i hi).2.2⟩) hf
  have g1' : Instr.fill (fun k => some (k * i.size, i.size)) zr (ps.map fun p => (p.1, a.eval p.2)).toList = some cells' := by simpa using g1
  have hrun : (execOp a.eval o).run P w = .ok (.value (.slice (some ⟨w.heap.size, 0, none⟩) len len)) (w.alloc (.cells cells' e)) := by
    have hnl : ¬ (len * i.size > 2 ^ 24) := by simpa using hlim
    have hs : (sizeOf e).run P w = .ok i.size w := by simp [sizeOf, typeInfo, hi]
    have hb : (Instr.buildSlice t len (ps.map fun p => (p.1, a.eval p.2))).run P w = .ok (.slice (some ⟨w.heap.size, 0, none⟩) len len) (w.alloc (.cells cells' e)) := by
      unfold Instr.buildSlice
      simp only [Sem.run_bind, run_underlying hu, Result.andThen_ok, hs]
      rw [if_neg hnl]
      have hzv' : (zeroValue e).run P w = .ok zv w := by simp [zeroValue, typeInfo, hi, hzv]
      by_cases h0 : len * i.size = 0
      · rw [if_pos h0] at hzr3 ⊢
        subst hzr3
        simp only [Sem.run_bind, Sem.run_pure, Result.andThen_ok, hzr2, g1']
        simp [newRow]
      · rw [if_neg h0] at hzr3 ⊢
        subst hzr3
        simp only [Sem.run_bind, Sem.run_pure, Result.andThen_ok, hzv', hzr2, g1']
        simp [newRow]
    simp only [execOp, ho, Sem.run_bind, hb, Result.andThen_ok, Sem.run_pure]
  split at hev
  · rename_i hmu
    cases hev
    have key := h.newBox0 (cs := cells') (t := e) (xs := cs') (by omega) (fun j hj => (g4 j hj).1) (fun j hj => (g4 j hj).2.1)
    refine wp_value hrun (hn _ _ (key.setO hd ?_ (fun l n b q c e => by cases e)))
    have := RepC.bs (w := w.alloc (.cells cells' e)) (lim := limBox w lim) (μ := μBox w μ s.2.length) (m := (s.2 ++ [cs']).length) s.2.length len i.size len (by simp) (Nat.le_refl _)
    exact .r (.c (by simpa [μBox] using this))
  · cases hev
    have key := h.newRow (.cells cells' e) cs'.length
    refine wp_value hrun (hn _ _ (key.setO hd (.rv ?_) (fun l n b q c e => by cases e)))
    refine rep_row (by simp [g2]) (by simp) (Nat.le_refl _) (fun _ => rfl) (by omega) (fun j hj => ?_)
    rw [List.getElem_map]
    exact ((g4 j (by simpa using hj)).1.isV ((g4 j (by simpa using hj)).2.2 rfl)).norm1
end Go.Proofs.YtclebnamhpgdmaaGreatEv
