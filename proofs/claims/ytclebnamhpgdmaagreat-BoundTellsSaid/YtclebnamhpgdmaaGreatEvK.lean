/- Calls: what is frozen, what is handed on. -/
import Derived.Test.YtclebnamhpgdmaaGreatEvI
namespace Go.Proofs.YtclebnamhpgdmaaGreatEv
open Go Go.RowKit
set_option linter.unusedSimpArgs false
set_option linter.unusedVariables false

variable {P : Program} {F : Fr} {lim μ : Nat → Nat} {own : Nat → Pl} {s : Env × Bx} {a : Act} {w : World} {o : Oper} {next : Act → World → Prop} {Q : Exit → Act → World → Prop}
  {x : A} {ups : List (Nat × A)} {bx' : Bx} {Φ : CallF}

theorem mapM_some {α β : Type} (f : α → Option β) : ∀ (l : List α) (r : List β), l.mapM f = some r → r.length = l.length ∧ ∀ i (h : i < l.length) (h' : i < r.length), f l[i] = some r[i]
  | [], r, h => by simp at h; subst h; exact ⟨rfl, fun i h => by simp at h⟩
  | x :: l, r, h => by
    rw [List.mapM_cons] at h
    cases hx : f x with
    | none => rw [hx] at h; simp at h
    | some y =>
      rw [hx] at h
      cases hl : l.mapM f with
      | none => rw [hl] at h; simp at h
      | some t =>
        rw [hl] at h
        simp at h
        subst h
        obtain ⟨h1, h2⟩ := mapM_some f l t hl
        refine ⟨by simp [h1], fun i hi hi' => ?_⟩
        cases i with
        | zero => exact hx
        | succ i => exact h2 i (by simpa using hi) (by simpa using hi')

/-- A cell, frozen. -/
theorem frzC_rep {bx : Bx} {lim2 : Nat → Nat} (hb : BoxRep w lim μ bx) (he : Ext w lim w lim2) : ∀ (d : Nat) (v : Value) (a a' : A), RepC w lim μ bx.length v a → frzC bx d a = some a' →
    (a.hasB = true → ∀ r (h : r < bx.length), ∀ o, o < bx[r].length → o < lim2 (μ r)) → RepV w lim2 v a' ∧ n2 a' := by
  intro d
  induction d with
  | zero =>
    intro v a a' hr hf hl
    cases a with
    | val x => simp only [frzC] at hf; cases hf; exact ⟨(hr.isV (Rep.r (.c hr)).val.2).mono he |> fun h => by simpa using h, n2_val _⟩
    | sl l n g => simp only [frzC] at hf; cases hf; exact ⟨((hr.isV rfl).zero).mono he, fun _ _ e => by cases e⟩
    | _ => simp [frzC] at hf
  | succ d ih =>
    intro v a a' hr hf hl
    cases a with
    | val x => simp only [frzC] at hf; cases hf; exact ⟨(hr.isV (Rep.r (.c hr)).val.2).mono he, n2_val _⟩
    | sl l n g => simp only [frzC] at hf; cases hf; exact ⟨((hr.isV rfl).zero).mono he, fun _ _ e => by cases e⟩
    | bs r n z =>
      simp only [frzC] at hf
      obtain ⟨c, hv, hnc, hlt⟩ := (Rep.r (.c hr)).toBs
      have hl' := hl rfl
      rw [List.getElem?_eq_getElem hlt] at hf
      simp only at hf
      split at hf
      · rename_i hle
        simp only [Option.map_eq_some_iff] at hf
        obtain ⟨l, hm, rfl⟩ := hf
        obtain ⟨row, t, hh, hs, hc⟩ := hb.row r hlt
        obtain ⟨m1, m2⟩ := mapM_some _ _ _ hm
        have hlen : l.length = n * z := by rw [m1]; simp; omega
        rw [hv]
        refine ⟨.sl (μ r) 0 n c l 0 (fun i => row.getD i undef) hnc (fun h => by cases h) (by omega) (fun i hi => ?_) (fun i hi => ?_) (fun i hi => ?_), fun _ _ e => by cases e⟩
        · rw [Nat.zero_add]; exact cell_of_row hh (by omega)
        · rw [Nat.zero_add]; exact hl' r hlt i (by omega)
        · have := m2 i (by rw [← m1]; exact hi) hi
          rw [List.getElem_take] at this
          exact (ih _ _ _ (hc i (by omega)) this fun _ => hl').1
      · cases hf
    | _ => simp [frzC] at hf

theorem frzR_rep {bx : Bx} {lim2 : Nat → Nat} (hb : BoxRep w lim μ bx) (he : Ext w lim w lim2) (v : Value) (a a' : A) (hr : Rep w lim μ bx.length v a) (hf : frzR bx a = some a')
    (hl : a.hasB = true → ∀ r (h : r < bx.length), ∀ o, o < bx[r].length → o < lim2 (μ r)) (μ' : Nat → Nat) : RepR w lim2 μ' 0 v a' ∧ n2 a' := by
  unfold frzR at hf
  split at hf
  · rename_i l
    simp only [Option.map_eq_some_iff] at hf
    obtain ⟨l', hm, rfl⟩ := hf
    obtain ⟨vs, rfl, hs, hc, h2⟩ := hr.toAgg
    obtain ⟨m1, m2⟩ := mapM_some _ _ _ hm
    have hcell : ∀ i (hi : i < l'.length), RepV w lim2 (vs.getD i undef) l'[i] ∧ n2 l'[i] := by
      intro i hi
      have hi' : i < l.length := by omega
      refine frzC_rep hb he 3 _ _ _ (hc i hi') (m2 i hi' hi) fun hB => hl ?_
      simp only [A.hasB, List.any_eq_true]
      refine ⟨l[i], List.getElem_mem _, ?_⟩
      cases hx : l[i] <;> first
        | rfl
        | (rw [hx] at hB
           first
           | (simp [A.hasB] at hB; done)
           | (have := hc i hi'; rw [hx] at this; exact absurd rfl (this.noagg _)))
    exact ⟨.agg vs l' (by omega) (fun i hi => .v (hcell i hi).1) (fun i hi => (hcell i hi).2), fun _ _ e => by cases e⟩
  · rename_i hna
    have hC : a.isC = true := by
      cases a <;> first | rfl | (simp [frzC] at hf; done) | exact absurd rfl (hna _) | skip
      rename_i x
      exact hr.val.2
    obtain ⟨k1, k2⟩ := frzC_rep hb he 3 _ _ _ (hr.isC hC) hf hl
    exact ⟨.c (.v k1), k2⟩

/-- An answer, frozen. -/
theorem frz_rep {bx : Bx} {lim2 : Nat → Nat} (keep : Bool) (hb : BoxRep w lim μ bx) (he : Ext w lim w lim2) (v : Value) (a a' : A) (hr : Rep w lim μ bx.length v a) (hf : frz keep bx a = some a')
    (hl : ∀ r (h : r < bx.length), ∀ o, o < bx[r].length → o < lim2 (μ r)) (μ' : Nat → Nat) : Rep w lim2 μ' 0 v a' ∧ n2 a' := by
  unfold frz at hf
  split at hf
  · rename_i l
    simp only [Option.map_eq_some_iff] at hf
    obtain ⟨l', hm, rfl⟩ := hf
    obtain ⟨vs, rfl, hs, hc⟩ := hr.toTup
    obtain ⟨m1, m2⟩ := mapM_some _ _ _ hm
    exact ⟨.tup vs l' (by omega) (fun i hi => (frzR_rep hb he _ _ _ (.r (hc i (by omega))) (m2 i (by omega) hi) (fun _ => hl) μ').1), fun _ _ e => by cases e⟩
  · rename_i l
    split at hf
    · rename_i hcond
      cases hf
      obtain ⟨vs, rfl, hs, hc, h2⟩ := hr.toAgg
      refine ⟨.r (.agg vs _ (by simpa using hs) (fun i hi => ?_) (fun i hi => ?_)), fun _ _ e => by cases e⟩
      · have hi' : i < l.length := by simpa using hi
        rw [List.getElem_map]
        exact .v (((hc i hi').isV (List.all_eq_true.1 hcond.2 _ (List.getElem_mem hi'))).mono he).cp1
      · rw [List.getElem_map]; exact n2_cp1 _
    · obtain ⟨k1, k2⟩ := frzR_rep hb he _ _ _ hr hf (fun _ => hl) μ'
      exact ⟨.r k1, k2⟩
  · obtain ⟨k1, k2⟩ := frzR_rep hb he _ _ _ hr hf (fun _ => hl) μ'
    exact ⟨.r k1, k2⟩

/-- How far a row reaches. -/
def rowSz (w : World) (b : Nat) : Nat := match w.heap[b]? with
  | some (.cells cs _ _) => cs.size
  | _ => 0

theorem lt_rowSz {w : World} {b o : Nat} {v : Value} (h : w.cell? ⟨b, o, none⟩ = some v) : o < rowSz w b := by
  unfold World.cell? at h
  unfold rowSz
  split at h
  · rename_i cs t fr hh
    simp only at hh
    rw [hh]
    simp at h
    rcases Nat.lt_or_ge o cs.size with h' | h'
    · exact h'
    · simp [Array.getElem?_eq_none h'] at h
  · cases h

theorem box_rowSz {w : World} {bx : Bx} (hb : BoxRep w lim μ bx) : ∀ r (h : r < bx.length), ∀ o, o < bx[r].length → o < rowSz w (μ r) := by
  intro r hr o ho
  obtain ⟨cs, t, hh, hs, _⟩ := hb.row r hr
  unfold rowSz
  rw [hh]
  simp only
  omega

theorem ext_rowSz (w : World) (lim : Nat → Nat) : Ext w lim w (rowSz w) := fun b o v ho hc => ⟨hc, lt_rowSz hc⟩

/-- Numbers, truths and texts are known of themselves. -/
theorem scal_rep {w lim μ m v a} (h : Rep w lim μ m v a) (hs : a.scal = true) (w' : World) (lim' μ' : Nat → Nat) (m' : Nat) : Rep w' lim' μ' m' v a ∧ n2 a := by
  cases a with
  | val x => obtain ⟨rfl, h1⟩ := h.val; exact ⟨.rv (.val _ h1), n2_val _⟩
  | tup l =>
    obtain ⟨vs, rfl, hsz, hc⟩ := h.toTup
    refine ⟨.tup vs l hsz (fun i hi => ?_), fun _ _ e => by cases e⟩
    have hv := List.all_eq_true.1 hs _ (List.getElem_mem hi)
    have hr := hc i hi
    cases hx : l[i] with
    | val x =>
      rw [hx] at hr
      obtain ⟨e, h1⟩ := (Rep.r hr).val
      rw [e]; exact .c (.v (.val _ h1))
    | _ => rw [hx] at hv; simp [A.isVal] at hv
  | _ => simp [A.scal, A.isVal] at hs

theorem args0_rep (h : InvG F lim μ own s a w) {lim2 : Nat → Nat} (he : Ext w lim w lim2) {ys : List Operand} {xs : List O} {as : List A} (h1 : oList ys = some xs) (hk : xs.all (okO F.nt) = true)
    (ha : args0 s.1 s.2 xs = some as) (hl : (xs.any fun x => (x.ev s.1).hasB) = true → ∀ r (h : r < s.2.length), ∀ o, o < s.2[r].length → o < lim2 (μ r)) :
    as.length = ys.length ∧ ∀ i (hi : i < as.length), Rep w lim2 μ 0 ((ys.map a.eval).getD i undef) as[i] ∧ n2 as[i] := by
  obtain ⟨m1, m2⟩ := mapM_some _ _ _ ha
  have hlen := oList_len _ _ h1
  refine ⟨by omega, fun i hi => ?_⟩
  have hi' : i < xs.length := by omega
  have hr := oList_rep h ys xs h1 hk i hi'
  obtain ⟨k1, k2⟩ := frzR_rep h.box he _ _ _ hr (m2 i hi' hi) (fun hB => hl (by
    rw [List.any_eq_true]; exact ⟨xs[i], List.getElem_mem _, hB⟩)) μ
  exact ⟨.r k1, k2⟩

theorem boxRep_nil (w : World) (lim μ : Nat → Nat) : BoxRep w lim μ [] := ⟨fun r h => by simp at h, fun r h => by simp at h, fun r r' h => by simp at h⟩

theorem s_call {f : Nat} {xs : Array Operand} {ts : Array TypeId} {xs' : List O} {keep : Bool} (hΦ : SoundF P Φ) (h : InvG F lim μ own s a w) (hd : ∀ k, o.dst = some k → k < F.nt) (ho : o.op = .call { callee := .value (.func f), args := xs, argTypes := ts })
    (h1 : oList xs.toList = some xs') (hk : xs'.all (okO F.nt) = true) (hev : evI Φ F.nb (.call f xs' keep) s.1 s.2 = some (x, ups, bx')) (hn : Goes F o s x ups bx' next) : o.wp P a w next Q := by
  simp only [evI] at hev
  split at hev
  · rename_i as has
    split at hev
    · rename_i v hv
      split at hev
      · cases hev
      · rename_i hcond
        cases hev
        unfold pureOf at hv
        cases hc : Φ f as [] with
        | none => simp [hc] at hv
        | some q =>
          obtain ⟨r, bxr⟩ := q
          simp only [hc] at hv
          have hvs : ∀ i, (xs.map a.eval).getD i undef = (xs.toList.map a.eval).getD i undef := fun i => by
            rw [Array.getD_eq_getD_getElem?, List.getD_eq_getElem?_getD]; simp
          -- the call itself, whatever is let be read
          have go : ∀ lim2, Ext w lim w lim2 → ((xs'.any fun x => (x.ev s.1).hasB) = true → ∀ r (h : r < s.2.length), ∀ o, o < s.2[r].length → o < lim2 (μ r)) →
              (∀ w, (callFunc f (xs.map a.eval)).run P w = .ok (.enter f (xs.map a.eval)) w) ∧
              Calls P f (xs.map a.eval) w fun e w' => ∃ vv lim' μ', e = .returned vv ∧ Below w.heap.size w w' ∧ (∀ b, b < w.heap.size → lim' b = lim2 b) ∧
                (∀ r, r < bxr.length → w.heap.size ≤ μ' r) ∧ BoxRep w' lim' μ' bxr ∧ Rep w' lim' μ' bxr.length vv r := by
            intro lim2 he hl
            obtain ⟨a1, a2⟩ := args0_rep h he h1 hk has hl
            obtain ⟨k1, k2, k4⟩ := hΦ _ _ _ _ _ hc w lim2 μ (xs.map a.eval) (by simp [a1]) (fun i hi => by
              rw [hvs]; exact a2 i hi) (boxRep_nil _ _ _)
            refine ⟨k1, k4.mono ?_⟩
            rintro e w' ⟨vv, lim', μ', rfl, _, hb, _, hl', hnew, hbr, hr⟩
            exact ⟨vv, lim', μ', rfl, hb.below, hl', fun r hr => hnew r (Nat.zero_le _) hr, hbr, hr⟩
          by_cases hdirty : (xs'.any fun x => (x.ev s.1).hasB) = true
          · have hscal : x.scal = true := by
              cases hsc : x.scal with
              | true => rfl
              | false => exact absurd ⟨hdirty, hsc⟩ hcond
            obtain ⟨k1, k2⟩ := go (rowSz w) (ext_rowSz w lim) fun _ => box_rowSz h.box
            unfold Oper.wp
            rw [run_callf ho (k1 w)]
            show Calls P f _ w _
            refine k2.mono ?_
            rintro e w' ⟨vv, lim', μ', rfl, hb, hl', hnew, hbr, hr⟩
            obtain ⟨g1, g2⟩ := frz_rep keep hbr (ext_rowSz w' lim') _ _ _ hr hv (box_rowSz hbr) μ'
            obtain ⟨g3, g4⟩ := scal_rep g1 hscal w' lim μ s.2.length
            exact hn _ _ ((h.step hb fun _ _ => rfl).setO hd g3 fun l n b q c e => absurd e (g4 _ _))
          · obtain ⟨k1, k2⟩ := go lim (.refl _ _) fun hB => absurd hB hdirty
            unfold Oper.wp
            rw [run_callf ho (k1 w)]
            show Calls P f _ w _
            refine k2.mono ?_
            rintro e w' ⟨vv, lim', μ', rfl, hb, hl', hnew, hbr, hr⟩
            have hext : Ext w' lim' w' (fun b => if b < w.heap.size then lim b else rowSz w' b) := by
              intro b q u hq hcell
              refine ⟨hcell, ?_⟩
              simp only
              split
              · rename_i hlt; rw [← hl' b hlt]; exact hq
              · exact lt_rowSz hcell
            obtain ⟨g1, g2⟩ := frz_rep keep hbr hext _ _ _ hr hv (fun r hr o ho => by
              have := hnew r hr
              rw [if_neg (by omega)]
              exact box_rowSz hbr r hr o ho) μ
            refine hn _ _ ((h.step (lim' := fun b => if b < w.heap.size then lim b else rowSz w' b) hb fun b hb => by rw [if_pos hb]).setO hd (g1.mono (.refl _ _) (fun r hr => by omega) (Nat.zero_le _)) fun l n b q c e => absurd e (g2 _ _))
    · cases hev
  · cases hev

/-! ### calls that may write boxes -/
theorem strip_len (bx : Bx) : (strip bx).length = bx.length := by simp [strip]
theorem strip_at (bx : Bx) (r : Nat) (h : r < bx.length) : (strip bx)[r]'(by rw [strip_len]; exact h) = bx[r].map A.cp1 := by simp [strip]

theorem BoxRep.strip {w lim μ bx} (h : BoxRep w lim μ bx) : BoxRep w lim μ (strip bx) := by
  refine ⟨fun r hr => ?_, fun r hr => h.lim0 r (by rwa [strip_len] at hr), fun r r' hr hr' e => h.inj r r' (by rwa [strip_len] at hr) (by rwa [strip_len] at hr') e⟩
  rw [strip_len] at hr
  obtain ⟨cs, t, k1, k2, k3⟩ := h.row r hr
  refine ⟨cs, t, k1, by rw [strip_at _ _ hr]; simpa using k2, fun o ho => ?_⟩
  simp only [strip_at _ _ hr, List.length_map] at ho
  simp only [strip_at _ _ hr, List.getElem_map]
  rw [strip_len]
  exact (k3 o ho).cp1

theorem dangC_rep {w lim μ m m' v a} (h : RepC w lim μ m v a) (hd : a.dangC m' = true) : RepC w lim μ m' v a := by
  cases h with
  | v h => exact .v h
  | bs r n z c h hn => exact .bs r n z c (by simpa [A.dangC] using hd) hn

theorem BoxRep.take {w lim μ bx} (h : BoxRep w lim μ bx) {n : Nat} (hn : n ≤ bx.length) (hd : ((bx.take n).all fun cs => cs.all (A.dangC n)) = true) : BoxRep w lim μ (bx.take n) := by
  have hlen : (bx.take n).length = n := by simp; omega
  refine ⟨fun r hr => ?_, fun r hr => h.lim0 r (by omega), fun r r' hr hr' e => h.inj r r' (by omega) (by omega) e⟩
  have hr2 : r < bx.length := by omega
  obtain ⟨cs, t, k1, k2, k3⟩ := h.row r hr2
  rw [hlen]
  refine ⟨cs, t, k1, by rw [List.getElem_take]; exact k2, fun o ho => ?_⟩
  simp only [List.getElem_take] at ho ⊢
  refine dangC_rep (k3 o ho) ?_
  have h1 := List.all_eq_true.1 hd bx[r] (by rw [List.mem_take_iff_getElem]; exact ⟨r, by omega, rfl⟩)
  exact List.all_eq_true.1 h1 _ (List.getElem_mem _)

/-- Behind a call that had the boxes. -/
theorem after_inv (h : InvG F lim μ own s a w) {r : A} {bxr : Bx} {w' : World} {vv : Value} {lim' μ' : Nat → Nat} (hle : s.2.length ≤ bxr.length) (h2 : n2 r) (hb : But w.heap.size μ s.2.length w w')
    (hμ : ∀ r, r < s.2.length → μ' r = μ r) (hl : ∀ b, b < w.heap.size → lim' b = lim b) (hnew : ∀ r, s.2.length ≤ r → r < bxr.length → w.heap.size ≤ μ' r) (hbr : BoxRep w' lim' μ' bxr) (hr : Rep w' lim' μ' bxr.length vv r)
    (hd : ∀ k, o.dst = some k → k < F.nt) : Inv F (putO o.dst (aft s.2.length (r, bxr)).1 (puts (aft s.2.length (r, bxr)).2.1 s.1), (aft s.2.length (r, bxr)).2.2) (a.put o.dst vv) w' := by
  obtain ⟨bx2, hbx2, hlen2, hbr2, hr2, hn2⟩ : ∃ bx2, (aft s.2.length (r, bxr)).2.2 = bx2 ∧ s.2.length ≤ bx2.length ∧ BoxRep w' lim' μ' bx2 ∧ Rep w' lim' μ' bx2.length vv r ∧
      ((∀ r (h : r < bx2.length), ∀ o (ho : o < bx2[r].length), n2 bx2[r][o]) ∧ bx2.length ≤ bxr.length) := by
    unfold aft
    simp only
    split
    · rename_i hc
      refine ⟨_, rfl, by rw [List.length_take, strip_len]; omega, hbr.strip.take (by rw [strip_len]; exact hle) hc.2, (scal_rep hr hc.1 _ _ _ _).1, fun r hr o ho => ?_, by rw [List.length_take, strip_len]; omega⟩
      have hr3 : r < bxr.length := by rw [List.length_take, strip_len] at hr; omega
      simp only [List.getElem_take, strip_at _ _ hr3, List.getElem_map]
      exact n2_cp1 _
    · refine ⟨_, rfl, by rw [strip_len]; exact hle, hbr.strip, by rw [strip_len]; exact hr, fun r hr o ho => ?_, by rw [strip_len]; exact Nat.le_refl _⟩
      have hr3 : r < bxr.length := by rw [strip_len] at hr; exact hr
      simp only [strip_at _ _ hr3, List.getElem_map]
      exact n2_cp1 _
  have hfst : (aft s.2.length (r, bxr)).1 = r := rfl
  have hups : (aft s.2.length (r, bxr)).2.1 = [] := rfl
  rw [hbx2, hfst, hups]
  have hext : Ext w lim w' lim' := by
    intro b q u hq hc
    have hlt := lt_of_cell hc
    refine ⟨?_, by rw [hl b hlt]; exact hq⟩
    rw [cell?_of_heap (hb.block b hlt fun r hr e => by have := h.box.lim0 r hr; rw [e] at this; omega)]
    exact hc
  have hsz := h.below.size
  have hfl : ∀ own p v x, FlagOk w lim own F.w0.heap.size p v x → FlagOk w' lim' own F.w0.heap.size p v x := by
    intro own p v x hf l n b q c e1 e2 e3
    obtain ⟨g1, g2, g3, g4, cs, t, sz, g5, g6, g7⟩ := hf l n b q c e1 e2 e3
    have hlt := lt_of_heap g5
    exact ⟨g1, g2, by rw [hl b hlt]; exact g3, g4, cs, t, sz, (hb.block b hlt fun r hr e => by have := h.box.lim0 r hr; rw [e] at this; omega).trans g5, g6, g7⟩
  have hI : InvG F lim' μ' own (s.1, bx2) a w' := by
    refine ⟨h.defers, h.size, Nat.le_trans h.nb hlen2, fun r hr => (hμ r (Nat.lt_of_lt_of_le hr h.nb)).trans (h.mu0 r hr), fun r hr hr' => ?_, fun i => (h.env i).mono hext hμ hlen2, hbr2, fun i => hfl _ _ _ _ (h.flt i), fun r q cs t hr hr' hh ho => .of_n2 (hn2.1 r hr' q ho), h.below.trans ⟨hb.os, hb.tape, hb.output, hb.size, fun k hk hne => ?_⟩, fun b hbb => (hl b (by omega)).trans (h.lim0 b hbb)⟩
    · rcases Nat.lt_or_ge r s.2.length with h' | h'
      · rw [hμ r h']; exact h.mub r hr h'
      · have : r < bx2.length := hr'
        exact Nat.le_trans hsz (hnew r h' (by omega))
    · refine hb.block k (by omega) fun r hr e => ?_
      rcases Nat.lt_or_ge r F.nb with h' | h'
      · exact hne r h' ((h.mu0 r h').symm.trans e)
      · have := h.mub r h' hr; omega
  exact hI.setO hd hr2 fun l n b q c e => absurd e (h2 _ _)

theorem s_calli {f : Nat} {xs : Array Operand} {ts : Array TypeId} {xs' : List O} (hΦ : SoundF P Φ) (h : InvG F lim μ own s a w) (hd : ∀ k, o.dst = some k → k < F.nt) (ho : o.op = .call { callee := .value (.func f), args := xs, argTypes := ts })
    (h1 : oList xs.toList = some xs') (hk : xs'.all (okO F.nt) = true) (hev : evI Φ F.nb (.calli f xs') s.1 s.2 = some (x, ups, bx')) (hn : Goes F o s x ups bx' next) : o.wp P a w next Q := by
  simp only [evI, Option.map_eq_some_iff] at hev
  obtain ⟨⟨r, bxr⟩, hr, he⟩ := hev
  cases he
  obtain ⟨k1, k2, k4⟩ := hΦ _ _ _ _ _ hr w lim μ (xs.map a.eval) (by simp [← oList_len _ _ h1]) (fun i hi => by
    have := oList_rep h _ _ h1 hk i (by simpa using hi)
    rw [List.getElem_map]
    have e : (xs.map a.eval).getD i undef = (xs.toList.map a.eval).getD i undef := by
      rw [Array.getD_eq_getD_getElem?, List.getD_eq_getElem?_getD]; simp
    rw [e]; exact ⟨this.norm, n2_norm _⟩) h.box
  unfold Oper.wp
  rw [run_callf ho (k1 w)]
  show Calls P f _ w _
  refine k4.mono ?_
  rintro e w' ⟨vv, lim', μ', rfl, k3, hb, hμ, hl, hnew, hbr, hrr⟩
  exact hn _ _ (after_inv h k3 k2 hb hμ hl hnew hbr hrr hd)

theorem s_callv {t : Nat} {xs : Array Operand} {ts : Array TypeId} {xs' : List O} (hΦ : SoundF P Φ) (h : InvG F lim μ own s a w) (hd : ∀ k, o.dst = some k → k < F.nt) (ho : o.op = .call { callee := .value (.tmp t), args := xs, argTypes := ts })
    (h1 : oList xs.toList = some xs') (hk : xs'.all (okO F.nt) = true) (hev : evI Φ F.nb (.callv (.t t) xs') s.1 s.2 = some (x, ups, bx')) (hn : Goes F o s x ups bx' next) : o.wp P a w next Q := by
  simp only [evI] at hev
  split at hev
  · rename_i f caps e1
    simp only [Option.map_eq_some_iff] at hev
    obtain ⟨⟨r, bxr⟩, hr, he⟩ := hev
    cases he
    have hf := h.env t
    simp only [O.ev] at e1
    rw [e1] at hf
    obtain ⟨hvf, hcaps⟩ := hf.toFn
    have hlen := oList_len _ _ h1
    have hlen' : xs.size = xs'.length := by simpa using hlen
    obtain ⟨k1, k2, k4⟩ := hΦ _ _ _ _ _ hr w lim μ (xs.map a.eval ++ (caps.map fun p => Value.pointer (some ⟨μ p.1, p.2, none⟩)).toArray) (by simp [← hlen]) (fun i hi => by
      have hi2 : i < xs'.length + caps.length := by simpa using hi
      rw [Array.getD_eq_getD_getElem?]
      by_cases hlt : i < xs'.length
      · rw [List.getElem_append_left (by simpa using hlt), List.getElem_map, Array.getElem?_append_left (by simpa [← hlen] using hlt)]
        have := oList_rep h _ _ h1 hk i hlt
        rw [List.getD_eq_getElem?_getD] at this
        exact ⟨by simpa using this.norm, n2_norm _⟩
      · rw [List.getElem_append_right (by simpa using hlt), Array.getElem?_append_right (by simp [hlen']; omega)]
        have hlt2 : i - xs'.length < caps.length := by omega
        simp only [List.length_map, Array.size_map, List.getElem_map]
        have e2 : i - xs.size = i - xs'.length := by rw [← hlen]; simp
        rw [e2]
        simp only [List.getElem?_toArray, List.getElem?_map, List.getElem?_eq_getElem hlt2, Option.map_some, Option.getD_some]
        exact ⟨.ptr _ _ (hcaps _ (List.getElem_mem _)), fun _ _ e => by cases e⟩) h.box
    unfold Oper.wp
    rw [run_callv ho hvf (k1 w)]
    show Calls P f _ w _
    refine k4.mono ?_
    rintro e w' ⟨vv, lim', μ', rfl, k3, hb, hμ, hl, hnew, hbr, hrr⟩
    exact hn _ _ (after_inv h k3 k2 hb hμ hl hnew hbr hrr hd)
  · cases hev

theorem s_isnil {neg : Bool} {t u e : TypeId} {y z : Operand} {y' : O} (h : InvG F lim μ own s a w) (hd : ∀ k, o.dst = some k → k < F.nt) (ho : o.op = .binOp (if neg then .neq else .eql) t y z u)
    (hu : P.underlying t = some (.slice e)) (h1 : toO y = some y') (hz : nilO z = true) (hk : okO F.nt y' = true) (hev : evI Φ F.nb (.isnil neg y') s.1 s.2 = some (x, ups, bx')) (hn : Goes F o s x ups bx' next) : o.wp P a w next Q := by
  have hy := eval_rep h h1 hk
  have hzv : a.eval z = .slice none 0 0 := by
    unfold nilO at hz
    split at hz
    · rfl
    · cases hz
  simp only [evI] at hev
  split at hev
  · rename_i l n g e1
    rw [e1] at hy
    have key : ∀ b c, a.eval y = .slice b n c → ∀ q : Bool, b.isNone = q → (x, ups, bx') = (.val (.bool (if neg then !q else q)), [], s.2) → o.wp P a w next Q := by
      intro b c hv q hq hx
      cases hx
      refine pure_sound h hd (run_bin ho (v := .bool (if neg = true then !q else q)) ?_ ?_) (rep_bool _) (n2_val _) hn
      · rw [hv]; exact eqGuard_plain (by simp) (by simp)
      · rw [hv, hzv]
        have := isnil_run (P := P) (w := w) hu b n c
        rw [hq] at this
        cases neg <;> simp [binOp, this]
    have hy' := hy.toSl
    split at hev
    · rename_i hg
      subst hg
      generalize hv : a.eval y = v at hy'
      cases hy' with
      | nil _ h4 => exact key none 0 hv true rfl (by cases hev; cases neg <;> rfl)
      | emp b q sp g h3 => exact absurd rfl h3.2.2
      | sl b q n c l g vs hnc hg h3 => exact absurd rfl h3
    · split at hev
      · rename_i hcond
        generalize hv : a.eval y = v at hy'
        cases hy' with
        | nil _ h4 => rcases hcond with h | h
                      · omega
                      · exact absurd h h4
        | emp b q sp g h3 => exact key (some ⟨b, q, some sp⟩) 0 hv false rfl (by cases hev; cases neg <;> rfl)
        | sl b q n c l g vs hnc hg h3 => exact key (some ⟨b, q, none⟩) c hv false rfl (by cases hev; cases neg <;> rfl)
      · cases hev
  · cases hev
end Go.Proofs.YtclebnamhpgdmaaGreatEv
