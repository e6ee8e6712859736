/- Calls: what is frozen, what is handed on. -/
import Derived.Test.YtkohggddaheefaaEv2
import Derived.Laws.BytesArg
set_option linter.unusedSimpArgs false
set_option linter.unusedVariables false
namespace Go.Proofs.YtkohggddaheefaaEv
open Go Go.RowKit

variable {P : Program} {F : Fr} {lim μ : Nat → Nat} {own : Nat → Pl} {s : Env × Bx} {a : Act} {w : World} {o : Oper} {next : Act → World → Prop} {Q : Exit → Act → World → Prop}
  {x : A} {ups : List (Nat × A)} {bx' : Bx} {Φ : CallF}

theorem mapM_some {α β : Type} (f : α → Option β) : ∀ (l : List α) (r : List β), l.mapM f = some r → r.length = l.length ∧ ∀ i (h : i < l.length) (h' : i < r.length), f l[i] = some r[i]
  | [], r, h => by simp at h; subst h; exact ⟨rfl, fun i h => by simp at h⟩
  | x :: l, r, h => by
    rw [List.mapM_cons] at h
    cases hx : f x with
    | none => rw [hx] at h; simp at h
    | some y =>
      rw [hx] at h
      cases hl : l.mapM f with
      | none => rw [hl] at h; simp at h
      | some t =>
        rw [hl] at h
        simp at h
        subst h
        obtain ⟨h1, h2⟩ := mapM_some f l t hl
        refine ⟨by simp [h1], fun i hi hi' => ?_⟩
        cases i with
        | zero => exact hx
        | succ i => exact h2 i (by simpa using hi) (by simpa using hi')

/-- A cell, frozen. -/
theorem frzC_rep {bx : Bx} {lim2 : Nat → Nat} (hb : BoxRep w lim μ bx) (he : Ext w lim w lim2) : ∀ (d : Nat) (v : Value) (a a' : A), RepC w lim μ bx.length v a → frzC bx d a = some a' →
    (a.hasB = true → ∀ r (h : r < bx.length), ∀ o, o < bx[r].length → o < lim2 (μ r)) → RepV w lim2 v a' ∧ n2 a' := by
  intro d
  induction d with
  | zero =>
    intro v a a' hr hf hl
    cases a with
    | val x => simp only [frzC] at hf; cases hf; exact ⟨(hr.isV (Rep.r (.c hr)).val.2).mono he |> fun h => by simpa using h, n2_val _⟩
    | sl l n g => simp only [frzC] at hf; cases hf; exact ⟨((hr.isV rfl).zero).mono he, fun _ _ e => by cases e⟩
    | _ => simp [frzC] at hf
  | succ d ih =>
    intro v a a' hr hf hl
    cases a with
    | val x => simp only [frzC] at hf; cases hf; exact ⟨(hr.isV (Rep.r (.c hr)).val.2).mono he, n2_val _⟩
    | sl l n g => simp only [frzC] at hf; cases hf; exact ⟨((hr.isV rfl).zero).mono he, fun _ _ e => by cases e⟩
    | bs r n z =>
      simp only [frzC] at hf
      obtain ⟨c, hv, hnc, hlt⟩ := (Rep.r (.c hr)).toBs
      have hl' := hl rfl
      rw [List.getElem?_eq_getElem hlt] at hf
      simp only at hf
      split at hf
      · rename_i hle
        simp only [Option.map_eq_some_iff] at hf
        obtain ⟨l, hm, rfl⟩ := hf
        obtain ⟨row, t, hh, hs, hc⟩ := hb.row r hlt
        obtain ⟨m1, m2⟩ := mapM_some _ _ _ hm
        have hlen : l.length = n * z := by rw [m1]; simp; omega
        rw [hv]
        refine ⟨.sl (μ r) 0 n c l 0 (fun i => row.getD i undef) hnc (fun h => by cases h) (by omega) (fun i hi => ?_) (fun i hi => ?_) (fun i hi => ?_), fun _ _ e => by cases e⟩
        · rw [Nat.zero_add]; exact cell_of_row hh (by omega)
        · rw [Nat.zero_add]; exact hl' r hlt i (by omega)
        · have := m2 i (by rw [← m1]; exact hi) hi
          rw [List.getElem_take] at this
          exact (ih _ _ _ (hc i (by omega)) this fun _ => hl').1
      · cases hf
    | _ => simp [frzC] at hf

theorem frzR_rep {bx : Bx} {lim2 : Nat → Nat} (hb : BoxRep w lim μ bx) (he : Ext w lim w lim2) (v : Value) (a a' : A) (hr : Rep w lim μ bx.length v a) (hf : frzR bx a = some a')
    (hl : a.hasB = true → ∀ r (h : r < bx.length), ∀ o, o < bx[r].length → o < lim2 (μ r)) (μ' : Nat → Nat) : RepR w lim2 μ' 0 v a' ∧ n2 a' := by
  unfold frzR at hf
  split at hf
  · rename_i l
    simp only [Option.map_eq_some_iff] at hf
    obtain ⟨l', hm, rfl⟩ := hf
    obtain ⟨vs, rfl, hs, hc, h2⟩ := hr.toAgg
    obtain ⟨m1, m2⟩ := mapM_some _ _ _ hm
    have hcell : ∀ i (hi : i < l'.length), RepV w lim2 (vs.getD i undef) l'[i] ∧ n2 l'[i] := by
      intro i hi
      have hi' : i < l.length := by omega
      refine frzC_rep hb he 3 _ _ _ (hc i hi') (m2 i hi' hi) fun hB => hl ?_
      simp only [A.hasB, List.any_eq_true]
      refine ⟨l[i], List.getElem_mem _, ?_⟩
      cases hx : l[i] <;> first
        | rfl
        | (rw [hx] at hB
           first
           | (simp [A.hasB] at hB; done)
           | (have := hc i hi'; rw [hx] at this; exact absurd rfl (this.noagg _)))
    exact ⟨.agg vs l' (by omega) (fun i hi => .v (hcell i hi).1) (fun i hi => (hcell i hi).2), fun _ _ e => by cases e⟩
  · rename_i hna
    have hC : a.isC = true := by
      cases a <;> first | rfl | (simp [frzC] at hf; done) | exact absurd rfl (hna _) | skip
      rename_i x
      exact hr.val.2
    obtain ⟨k1, k2⟩ := frzC_rep hb he 3 _ _ _ (hr.isC hC) hf hl
    exact ⟨.c (.v k1), k2⟩

/-- An answer, frozen. -/
theorem frz_rep {bx : Bx} {lim2 : Nat → Nat} (keep : Bool) (hb : BoxRep w lim μ bx) (he : Ext w lim w lim2) (v : Value) (a a' : A) (hr : Rep w lim μ bx.length v a) (hf : frz keep bx a = some a')
    (hl : ∀ r (h : r < bx.length), ∀ o, o < bx[r].length → o < lim2 (μ r)) (μ' : Nat → Nat) : Rep w lim2 μ' 0 v a' ∧ n2 a' := by
  unfold frz at hf
  split at hf
  · rename_i l
    simp only [Option.map_eq_some_iff] at hf
    obtain ⟨l', hm, rfl⟩ := hf
    obtain ⟨vs, rfl, hs, hc⟩ := hr.toTup
    obtain ⟨m1, m2⟩ := mapM_some _ _ _ hm
    exact ⟨.tup vs l' (by omega) (fun i hi => (frzR_rep hb he _ _ _ (.r (hc i (by omega))) (m2 i (by omega) hi) (fun _ => hl) μ').1), fun _ _ e => by cases e⟩
  · rename_i l
    split at hf
    · rename_i hcond
      cases hf
      obtain ⟨vs, rfl, hs, hc, h2⟩ := hr.toAgg
      refine ⟨.r (.agg vs _ (by simpa using hs) (fun i hi => ?_) (fun i hi => ?_)), fun _ _ e => by cases e⟩
      · have hi' : i < l.length := by simpa using hi
        rw [List.getElem_map]
        exact .v (((hc i hi').isV (List.all_eq_true.1 hcond.2 _ (List.getElem_mem hi'))).mono he).cp1
      · rw [List.getElem_map]; exact n2_cp1 _
    · obtain ⟨k1, k2⟩ := frzR_rep hb he _ _ _ hr hf (fun _ => hl) μ'
      exact ⟨.r k1, k2⟩
  · obtain ⟨k1, k2⟩ := frzR_rep hb he _ _ _ hr hf (fun _ => hl) μ'
    exact ⟨.r k1, k2⟩

theorem lt_rowSz {w : World} {b o : Nat} {v : Value} (h : w.cell? ⟨b, o, none⟩ = some v) : o < rowSz w b := by
  unfold World.cell? at h
  unfold rowSz
  split at h
  · rename_i cs t fr hh
    simp only at hh
    rw [hh]
    simp at h
    rcases Nat.lt_or_ge o cs.size with h' | h'
    · exact h'
    · simp [Array.getElem?_eq_none h'] at h
  · cases h

theorem box_rowSz {w : World} {bx : Bx} (hb : BoxRep w lim μ bx) : ∀ r (h : r < bx.length), ∀ o, o < bx[r].length → o < rowSz w (μ r) := by
  intro r hr o ho
  obtain ⟨cs, t, hh, hs, _⟩ := hb.row r hr
  unfold rowSz
  rw [hh]
  simp only
  omega

theorem ext_rowSz (w : World) (lim : Nat → Nat) : Ext w lim w (rowSz w) := ⟨fun b o v ho hc => ⟨hc, lt_rowSz hc⟩, fun _ => Nat.le_refl _⟩

/-- Numbers, truths and texts are known of themselves. -/
theorem scal_rep {w lim μ m v a} (h : Rep w lim μ m v a) (hs : a.scal = true) (w' : World) (lim' μ' : Nat → Nat) (m' : Nat) : Rep w' lim' μ' m' v a ∧ n2 a := by
  cases a with
  | val x => obtain ⟨rfl, h1⟩ := h.val; exact ⟨.rv (.val _ h1), n2_val _⟩
  | tup l =>
    obtain ⟨vs, rfl, hsz, hc⟩ := h.toTup
    refine ⟨.tup vs l hsz (fun i hi => ?_), fun _ _ e => by cases e⟩
    have hv := List.all_eq_true.1 hs _ (List.getElem_mem hi)
    have hr := hc i hi
    cases hx : l[i] with
    | val x =>
      rw [hx] at hr
      obtain ⟨e, h1⟩ := (Rep.r hr).val
      rw [e]; exact .c (.v (.val _ h1))
    | _ => rw [hx] at hv; simp [A.isVal] at hv
  | _ => simp [A.scal, A.isVal] at hs

theorem args0_rep (h : InvG F lim μ own s a w) {lim2 : Nat → Nat} (he : Ext w lim w lim2) {ys : List Operand} {xs : List O} {as : List A} (h1 : oList ys = some xs) (hk : xs.all (okO F.nt) = true)
    (ha : args0 s.1 s.2 xs = some as) (hl : (xs.any fun x => (x.ev s.1).hasB) = true → ∀ r (h : r < s.2.length), ∀ o, o < s.2[r].length → o < lim2 (μ r)) :
    as.length = ys.length ∧ ∀ i (hi : i < as.length), Rep w lim2 μ 0 ((ys.map a.eval).getD i undef) as[i] ∧ n2 as[i] := by
  obtain ⟨m1, m2⟩ := mapM_some _ _ _ ha
  have hlen := oList_len _ _ h1
  refine ⟨by omega, fun i hi => ?_⟩
  have hi' : i < xs.length := by omega
  have hr := oList_rep h ys xs h1 hk i hi'
  obtain ⟨k1, k2⟩ := frzR_rep h.box he _ _ _ hr (m2 i hi' hi) (fun hB => hl (by
    rw [List.any_eq_true]; exact ⟨xs[i], List.getElem_mem _, hB⟩)) μ
  exact ⟨.r k1, k2⟩

theorem boxRep_nil (w : World) (lim μ : Nat → Nat) : BoxRep w lim μ [] := ⟨fun r h => by simp at h, fun r h => by simp at h, fun r r' h => by simp at h⟩

theorem s_call {f : Nat} {xs : Array Operand} {ts : Array TypeId} {xs' : List O} {keep : Bool} (hΦ : SoundF P Φ) (h : InvG F lim μ own s a w) (hd : ∀ k, o.dst = some k → k < F.nt) (ho : o.op = .call { callee := .value (.func f), args := xs, argTypes := ts })
    (h1 : oList xs.toList = some xs') (hk : xs'.all (okO F.nt) = true) (hev : evI Φ F.nb (.call f xs' keep) s.1 s.2 = some (x, ups, bx')) (hn : Goes F o s x ups bx' next) : o.wp P a w next Q := by
  simp only [evI] at hev
  split at hev
  · rename_i as has
    split at hev
    · rename_i v hv
      split at hev
      · cases hev
      · rename_i hcond
        cases hev
        unfold pureOf at hv
        cases hc : Φ f as [] with
        | none => simp [hc] at hv
        | some q =>
          obtain ⟨r, bxr⟩ := q
          simp only [hc] at hv
          have hvs : ∀ i, (xs.map a.eval).getD i undef = (xs.toList.map a.eval).getD i undef := fun i => by
            rw [Array.getD_eq_getD_getElem?, List.getD_eq_getElem?_getD]; simp
          -- the call itself, whatever is let be read
          have go : ∀ lim2, Ext w lim w lim2 → ((xs'.any fun x => (x.ev s.1).hasB) = true → ∀ r (h : r < s.2.length), ∀ o, o < s.2[r].length → o < lim2 (μ r)) →
              (∀ w, (callFunc f (xs.map a.eval)).run P w = .ok (.enter f (xs.map a.eval)) w) ∧
              Calls P f (xs.map a.eval) w fun e w' => ∃ vv lim' μ', e = .returned vv ∧ Below w.heap.size w w' ∧ (∀ b, b < w.heap.size → lim' b = lim2 b) ∧
                (∀ r, r < bxr.length → w.heap.size ≤ μ' r) ∧ BoxRep w' lim' μ' bxr ∧ Rep w' lim' μ' bxr.length vv r := by
            intro lim2 he hl
            obtain ⟨a1, a2⟩ := args0_rep h he h1 hk has hl
            obtain ⟨k1, k2, k4⟩ := hΦ _ _ _ _ _ hc w lim2 μ (xs.map a.eval) (by simp [a1]) (fun i hi => by
              rw [hvs]; exact a2 i hi) (boxRep_nil _ _ _) (h.glob.none _)
            refine ⟨k1, k4.mono ?_⟩
            rintro e w' ⟨vv, lim', μ', rfl, _, hb, _, hl', hnew, hbr, hr⟩
            exact ⟨vv, lim', μ', rfl, hb.below, hl', fun r hr => hnew r (Nat.zero_le _) hr, hbr, hr⟩
          by_cases hdirty : (xs'.any fun x => (x.ev s.1).hasB) = true
          · have hscal : x.scal = true := by
              cases hsc : x.scal with
              | true => rfl
              | false => exact absurd ⟨hdirty, hsc⟩ hcond
            obtain ⟨k1, k2⟩ := go (rowSz w) (ext_rowSz w lim) fun _ => box_rowSz h.box
            unfold Oper.wp
            rw [run_callf ho (k1 w)]
            show Calls P f _ w _
            refine k2.mono ?_
            rintro e w' ⟨vv, lim', μ', rfl, hb, hl', hnew, hbr, hr⟩
            obtain ⟨g1, g2⟩ := frz_rep keep hbr (ext_rowSz w' lim') _ _ _ hr hv (box_rowSz hbr) μ'
            obtain ⟨g3, g4⟩ := scal_rep g1 hscal w' lim μ s.2.length
            exact hn _ _ ((h.step hb fun _ _ => rfl).setO hd g3 fun l n b q c e => absurd e (g4 _ _))
          · obtain ⟨k1, k2⟩ := go lim (.refl _ _) fun hB => absurd hB hdirty
            unfold Oper.wp
            rw [run_callf ho (k1 w)]
            show Calls P f _ w _
            refine k2.mono ?_
            rintro e w' ⟨vv, lim', μ', rfl, hb, hl', hnew, hbr, hr⟩
            have hext : Ext w' lim' w' (fun b => if b < w.heap.size then lim b else rowSz w' b) := by
              refine ⟨?_, fun _ => Nat.le_refl _⟩
              intro b q u hq hcell
              refine ⟨hcell, ?_⟩
              simp only
              split
              · rename_i hlt; rw [← hl' b hlt]; exact hq
              · exact lt_rowSz hcell
            obtain ⟨g1, g2⟩ := frz_rep keep hbr hext _ _ _ hr hv (fun r hr o ho => by
              have := hnew r hr
              rw [if_neg (by omega)]
              exact box_rowSz hbr r hr o ho) μ
            refine hn _ _ ((h.step (lim' := fun b => if b < w.heap.size then lim b else rowSz w' b) hb fun b hb => by rw [if_pos hb]).setO hd (g1.mono (.refl _ _) (fun r hr => by omega) (Nat.zero_le _)) fun l n b q c e => absurd e (g2 _ _))
    · cases hev
  · cases hev

/-! ### a call behind which the boxes are gone -/
theorem rep_undefA {w w' : World} {lim lim' μ μ' : Nat → Nat} {m m' : Nat} {a : A} (h : Rep w lim μ m undef a) : Rep w' lim' μ' m' undef a ∧ n2 a := by
  generalize hu : (undef : Value) = u at h
  cases h with
  | any => exact ⟨.any _, fun _ _ e => by cases e⟩
  | und => exact ⟨.und, fun _ _ e => by cases e⟩
  | r h => cases h with
    | c h => cases h with
      | v h => cases h with
        | val v h1 => exact ⟨.rv (.val _ h1), n2_val _⟩
        | nil => cases hu
        | emp => cases hu
        | sl => cases hu
      | bs => cases hu
    | agg => cases hu
  | tup vs l hs hr =>
    cases hu
    exact ⟨.tup _ _ hs fun i hi => absurd hi (by rw [← hs]; exact Nat.not_lt_zero _), fun _ _ e => by cases e⟩
  | ptr => cases hu
  | ip => cases hu
  | ipx => cases hu
  | fn => cases hu
theorem puts_range (g : Nat → A) (e : Env) : ∀ (n i : Nat), puts ((List.range n).map fun i => (i, g i)) e i = if i < n then g i else e i := by
  intro n
  induction n with
  | zero => intro i; simp [puts]
  | succ n ih =>
    intro i
    rw [List.range_succ, List.map_append]
    have happ : ∀ (u v : List (Nat × A)) (e : Env), puts (u ++ v) e = puts v (puts u e) := by
      intro u
      induction u with
      | nil => intro v e; rfl
      | cons p u ih => intro v e; obtain ⟨d, x⟩ := p; exact ih v _
    rw [happ]
    show put n (g n) (puts ((List.range n).map fun i => (i, g i)) e) i = _
    unfold put
    split
    · rename_i h; subst h; rw [if_pos (by omega)]
    · rename_i h
      rw [ih i]
      by_cases hi : i < n
      · rw [if_pos hi, if_pos (by omega)]
      · rw [if_neg hi, if_neg (by omega)]
/-- What boxes are is read from now on, and never written again. -/
theorem frz_all (h : InvG F lim μ own s a w) (hnb : F.nb = 0) {nt : Nat} (hnt : F.nt ≤ nt) : ∃ lim2, Ext w lim w lim2 ∧ (∀ r (h : r < s.2.length), ∀ o, o < s.2[r].length → o < lim2 (μ r)) ∧ InvG F lim2 μ own (puts (frzE nt s.1 s.2) s.1, []) a w := by
  refine ⟨fun b => if ((List.range s.2.length).any fun r => decide (μ r = b)) = true then rowSz w b else lim b, ?_, ?_, ?_⟩
  · refine ⟨?_, fun _ => Nat.le_refl _⟩
    intro b o v ho hc
    refine ⟨hc, ?_⟩
    simp only
    split
    · exact lt_rowSz hc
    · exact ho
  · intro r hr o ho
    simp only
    rw [if_pos (List.any_eq_true.2 ⟨r, List.mem_range.2 hr, decide_eq_true rfl⟩)]
    exact box_rowSz h.box r hr o ho
  · have he : Ext w lim w (fun b => if ((List.range s.2.length).any fun r => decide (μ r = b)) = true then rowSz w b else lim b) := by
      refine ⟨?_, fun _ => Nat.le_refl _⟩
      intro b o v ho hc
      refine ⟨hc, ?_⟩
      simp only
      split
      · exact lt_rowSz hc
      · exact ho
    have hl : ∀ r (h : r < s.2.length), ∀ o, o < s.2[r].length → o < (fun b => if ((List.range s.2.length).any fun r => decide (μ r = b)) = true then rowSz w b else lim b) (μ r) := by
      intro r hr o ho
      simp only
      rw [if_pos (List.any_eq_true.2 ⟨r, List.mem_range.2 hr, decide_eq_true rfl⟩)]
      exact box_rowSz h.box r hr o ho
    have henv : ∀ i, Rep w (fun b => if ((List.range s.2.length).any fun r => decide (μ r = b)) = true then rowSz w b else lim b) μ 0 (a.tmps.getD i undef) (puts (frzE nt s.1 s.2) s.1 i) ∧ n2 (puts (frzE nt s.1 s.2) s.1 i) := by
      intro i
      unfold frzE
      rw [puts_range]
      split
      · cases hf : frzR s.2 (s.1 i) with
        | none => exact ⟨.any _, fun _ _ e => by cases e⟩
        | some a' =>
          obtain ⟨k1, k2⟩ := frzR_rep h.box he _ _ _ (h.env i) hf (fun _ => hl) μ
          exact ⟨.r k1, k2⟩
      · rename_i hi
        have hu : a.tmps.getD i undef = undef := by
          rw [Array.getD_eq_getD_getElem?, Array.getElem?_eq_none (by rw [h.size]; omega)]; rfl
        have := h.env i
        rw [hu] at this ⊢
        exact rep_undefA this
    refine ⟨h.defers, h.size, by rw [hnb]; exact Nat.zero_le _, fun r hr => by omega, fun r _ hr => absurd hr (Nat.not_lt_zero _), fun i => (henv i).1, boxRep_nil _ _ _, fun i => .of_n2 (henv i).2, fun r _ _ _ _ hr => absurd hr (Nat.not_lt_zero _), h.below, fun b hb => ?_⟩
    rw [if_neg, h.lim0 b hb]
    intro hany
    obtain ⟨r, hr, e⟩ := List.any_eq_true.1 hany
    have e := of_decide_eq_true e
    have := h.mub r (by omega) (List.mem_range.1 hr)
    omega
theorem s_callz {nt f : Nat} {xs : Array Operand} {ts : Array TypeId} {xs' : List O} (hΦ : SoundF P Φ) (h : InvG F lim μ own s a w) (hd : ∀ k, o.dst = some k → k < F.nt) (ho : o.op = .call { callee := .value (.func f), args := xs, argTypes := ts })
    (h1 : oList xs.toList = some xs') (hk : xs'.all (okO F.nt) = true) (hnt : F.nt ≤ nt) (hev : evI Φ F.nb (.callz nt f xs') s.1 s.2 = some (x, ups, bx')) (hn : Goes F o s x ups bx' next) : o.wp P a w next Q := by
  simp only [evI] at hev
  split at hev
  · rename_i hnb
    split at hev
    · rename_i as has
      split at hev
      · rename_i v hv
        cases hev
        unfold pureOf at hv
        cases hc : Φ f as [] with
        | none => simp [hc] at hv
        | some q =>
          obtain ⟨r, bxr⟩ := q
          simp only [hc] at hv
          have hvs : ∀ i, (xs.map a.eval).getD i undef = (xs.toList.map a.eval).getD i undef := fun i => by
            rw [Array.getD_eq_getD_getElem?, List.getD_eq_getElem?_getD]; simp
          obtain ⟨lim2, he, hl, h2⟩ := frz_all h hnb hnt
          obtain ⟨a1, a2⟩ := args0_rep h he h1 hk has (fun _ => hl)
          obtain ⟨k1, k2, k4⟩ := hΦ _ _ _ _ _ hc w lim2 μ (xs.map a.eval) (by simp [a1]) (fun i hi => by
            rw [hvs]; exact a2 i hi) (boxRep_nil _ _ _) (h.glob.none _)
          unfold Oper.wp
          rw [run_callf ho (k1 w)]
          show Calls P f _ w _
          refine k4.mono ?_
          rintro e w' ⟨vv, lim', μ', rfl, _, hb0, _, hl', hnew0, hbr, hr⟩
          have hb := hb0.below
          have hnew : ∀ r, r < bxr.length → w.heap.size ≤ μ' r := fun r hr => hnew0 r (Nat.zero_le _) hr
          have hext : Ext w' lim' w' (fun b => if b < w.heap.size then lim2 b else rowSz w' b) := by
            refine ⟨?_, fun _ => Nat.le_refl _⟩
            intro b q u hq hcell
            refine ⟨hcell, ?_⟩
            simp only
            split
            · rename_i hlt; rw [← hl' b hlt]; exact hq
            · exact lt_rowSz hcell
          obtain ⟨g1, g2⟩ := frz_rep false hbr hext _ _ _ hr hv (fun r hr o ho => by
            have := hnew r hr
            rw [if_neg (by omega)]
            exact box_rowSz hbr r hr o ho) μ
          exact hn _ _ ((h2.step (lim' := fun b => if b < w.heap.size then lim2 b else rowSz w' b) hb fun b hb => by rw [if_pos hb]).setO hd g1 fun l n b q c e => absurd e (g2 _ _))
      · cases hev
    · cases hev
  · cases hev

/-! ### calls that may write boxes -/
theorem strip_len (bx : Bx) : (strip bx).length = bx.length := by simp [strip]
theorem strip_at (bx : Bx) (r : Nat) (h : r < bx.length) : (strip bx)[r]'(by rw [strip_len]; exact h) = bx[r].map A.cp1 := by simp [strip]

theorem BoxRep.strip {w lim μ bx} (h : BoxRep w lim μ bx) : BoxRep w lim μ (strip bx) := by
  refine ⟨fun r hr => ?_, fun r hr => h.lim0 r (by rwa [strip_len] at hr), fun r r' hr hr' e => h.inj r r' (by rwa [strip_len] at hr) (by rwa [strip_len] at hr') e⟩
  rw [strip_len] at hr
  obtain ⟨cs, t, k1, k2, k3⟩ := h.row r hr
  refine ⟨cs, t, k1, by rw [strip_at _ _ hr]; simpa using k2, fun o ho => ?_⟩
  simp only [strip_at _ _ hr, List.length_map] at ho
  simp only [strip_at _ _ hr, List.getElem_map]
  rw [strip_len]
  exact (k3 o ho).cp1

theorem dangC_rep {w lim μ m m' v a} (h : RepC w lim μ m v a) (hd : a.dangC m' = true) : RepC w lim μ m' v a := by
  cases h with
  | v h => exact .v h
  | bs r n z c h hn hz => exact .bs r n z c (by simpa [A.dangC] using hd) hn hz

theorem BoxRep.take {w lim μ bx} (h : BoxRep w lim μ bx) {n : Nat} (hn : n ≤ bx.length) (hd : ((bx.take n).all fun cs => cs.all (A.dangC n)) = true) : BoxRep w lim μ (bx.take n) := by
  have hlen : (bx.take n).length = n := by simp; omega
  refine ⟨fun r hr => ?_, fun r hr => h.lim0 r (by omega), fun r r' hr hr' e => h.inj r r' (by omega) (by omega) e⟩
  have hr2 : r < bx.length := by omega
  obtain ⟨cs, t, k1, k2, k3⟩ := h.row r hr2
  rw [hlen]
  refine ⟨cs, t, k1, by rw [List.getElem_take]; exact k2, fun o ho => ?_⟩
  simp only [List.getElem_take] at ho ⊢
  refine dangC_rep (k3 o ho) ?_
  have h1 := List.all_eq_true.1 hd bx[r] (by rw [List.mem_take_iff_getElem]; exact ⟨r, by omega, rfl⟩)
  exact List.all_eq_true.1 h1 _ (List.getElem_mem _)

/-- Behind a call that had the boxes. -/
theorem after_inv (h : InvG F lim μ own s a w) {r : A} {bxr : Bx} {w' : World} {vv : Value} {lim' μ' : Nat → Nat} (hle : s.2.length ≤ bxr.length) (h2 : n2 r) (hb : But w.heap.size μ s.2.length w w')
    (hμ : ∀ r, r < s.2.length → μ' r = μ r) (hl : ∀ b, b < w.heap.size → lim' b = lim b) (hnew : ∀ r, s.2.length ≤ r → r < bxr.length → w.heap.size ≤ μ' r) (hbr : BoxRep w' lim' μ' bxr) (hr : Rep w' lim' μ' bxr.length vv r)
    (hd : ∀ k, o.dst = some k → k < F.nt) : Inv F (putO o.dst (aft s.2.length (r, bxr)).1 (puts (aft s.2.length (r, bxr)).2.1 s.1), (aft s.2.length (r, bxr)).2.2) (a.put o.dst vv) w' := by
  obtain ⟨bx2, hbx2, hlen2, hbr2, hr2, hn2⟩ : ∃ bx2, (aft s.2.length (r, bxr)).2.2 = bx2 ∧ s.2.length ≤ bx2.length ∧ BoxRep w' lim' μ' bx2 ∧ Rep w' lim' μ' bx2.length vv r ∧
      ((∀ r (h : r < bx2.length), ∀ o (ho : o < bx2[r].length), n2 bx2[r][o]) ∧ bx2.length ≤ bxr.length) := by
    unfold aft
    simp only
    split
    · rename_i hc
      refine ⟨_, rfl, by rw [List.length_take, strip_len]; omega, hbr.strip.take (by rw [strip_len]; exact hle) hc.2, (scal_rep hr hc.1 _ _ _ _).1, fun r hr o ho => ?_, by rw [List.length_take, strip_len]; omega⟩
      have hr3 : r < bxr.length := by rw [List.length_take, strip_len] at hr; omega
      simp only [List.getElem_take, strip_at _ _ hr3, List.getElem_map]
      exact n2_cp1 _
    · refine ⟨_, rfl, by rw [strip_len]; exact hle, hbr.strip, by rw [strip_len]; exact hr, fun r hr o ho => ?_, by rw [strip_len]; exact Nat.le_refl _⟩
      have hr3 : r < bxr.length := by rw [strip_len] at hr; exact hr
      simp only [strip_at _ _ hr3, List.getElem_map]
      exact n2_cp1 _
  have hfst : (aft s.2.length (r, bxr)).1 = r := rfl
  have hups : (aft s.2.length (r, bxr)).2.1 = [] := rfl
  rw [hbx2, hfst, hups]
  have hext : Ext w lim w' lim' := by
    refine ⟨?_, hb.rows⟩
    intro b q u hq hc
    have hlt := lt_of_cell hc
    refine ⟨?_, by rw [hl b hlt]; exact hq⟩
    rw [cell?_of_heap (hb.block b hlt fun r hr e => by have := h.box.lim0 r hr; rw [e] at this; omega)]
    exact hc
  have hsz := h.below.size
  have hfl : ∀ own p v x, FlagOk w lim own F.w0.heap.size p v x → FlagOk w' lim' own F.w0.heap.size p v x := by
    intro own p v x hf l n b q c e1 e2 e3
    obtain ⟨g1, g2, g3, g4, cs, t, sz, g5, g6, g7⟩ := hf l n b q c e1 e2 e3
    have hlt := lt_of_heap g5
    exact ⟨g1, g2, by rw [hl b hlt]; exact g3, g4, cs, t, sz, (hb.block b hlt fun r hr e => by have := h.box.lim0 r hr; rw [e] at this; omega).trans g5, g6, g7⟩
  have hI : InvG F lim' μ' own (s.1, bx2) a w' := by
    refine ⟨h.defers, h.size, Nat.le_trans h.nb hlen2, fun r hr => (hμ r (Nat.lt_of_lt_of_le hr h.nb)).trans (h.mu0 r hr), fun r hr hr' => ?_, fun i => (h.env i).mono hext hμ hlen2, hbr2, fun i => hfl _ _ _ _ (h.flt i), fun r q cs t hr hr' hh ho => .of_n2 (hn2.1 r hr' q ho), h.below.trans ⟨hb.os, hb.tape, hb.output, hb.size, fun k hk hne => ?_, hb.rows⟩, fun b hbb => (hl b (by omega)).trans (h.lim0 b hbb)⟩
    · rcases Nat.lt_or_ge r s.2.length with h' | h'
      · rw [hμ r h']; exact h.mub r hr h'
      · have : r < bx2.length := hr'
        exact Nat.le_trans hsz (hnew r h' (by omega))
    · refine hb.block k (by omega) fun r hr e => ?_
      rcases Nat.lt_or_ge r F.nb with h' | h'
      · exact hne r h' ((h.mu0 r h').symm.trans e)
      · have := h.mub r h' hr; omega
  exact hI.setO hd hr2 fun l n b q c e => absurd e (h2 _ _)

theorem s_calli {f : Nat} {xs : Array Operand} {ts : Array TypeId} {xs' : List O} (hΦ : SoundF P Φ) (h : InvG F lim μ own s a w) (hd : ∀ k, o.dst = some k → k < F.nt) (ho : o.op = .call { callee := .value (.func f), args := xs, argTypes := ts })
    (h1 : oList xs.toList = some xs') (hk : xs'.all (okO F.nt) = true) (hev : evI Φ F.nb (.calli f xs') s.1 s.2 = some (x, ups, bx')) (hn : Goes F o s x ups bx' next) : o.wp P a w next Q := by
  simp only [evI, Option.map_eq_some_iff] at hev
  obtain ⟨⟨r, bxr⟩, hr, he⟩ := hev
  cases he
  obtain ⟨k1, k2, k4⟩ := hΦ _ _ _ _ _ hr w lim μ (xs.map a.eval) (by simp [← oList_len _ _ h1]) (fun i hi => by
    have := oList_rep h _ _ h1 hk i (by simpa using hi)
    rw [List.getElem_map]
    have e : (xs.map a.eval).getD i undef = (xs.toList.map a.eval).getD i undef := by
      rw [Array.getD_eq_getD_getElem?, List.getD_eq_getElem?_getD]; simp
    rw [e]; exact ⟨this.norm, n2_norm _⟩) h.box h.glob
  unfold Oper.wp
  rw [run_callf ho (k1 w)]
  show Calls P f _ w _
  refine k4.mono ?_
  rintro e w' ⟨vv, lim', μ', rfl, k3, hb, hμ, hl, hnew, hbr, hrr⟩
  exact hn _ _ (after_inv h k3 k2 hb hμ hl hnew hbr hrr hd)

theorem s_callv {t : Nat} {xs : Array Operand} {ts : Array TypeId} {xs' : List O} (hΦ : SoundF P Φ) (h : InvG F lim μ own s a w) (hd : ∀ k, o.dst = some k → k < F.nt) (ho : o.op = .call { callee := .value (.tmp t), args := xs, argTypes := ts })
    (h1 : oList xs.toList = some xs') (hk : xs'.all (okO F.nt) = true) (hev : evI Φ F.nb (.callv (.t t) xs') s.1 s.2 = some (x, ups, bx')) (hn : Goes F o s x ups bx' next) : o.wp P a w next Q := by
  simp only [evI] at hev
  split at hev
  · rename_i f caps e1
    simp only [Option.map_eq_some_iff] at hev
    obtain ⟨⟨r, bxr⟩, hr, he⟩ := hev
    cases he
    have hf := h.env t
    simp only [O.ev] at e1
    rw [e1] at hf
    obtain ⟨hvf, hcaps⟩ := hf.toFn
    have hlen := oList_len _ _ h1
    have hlen' : xs.size = xs'.length := by simpa using hlen
    obtain ⟨k1, k2, k4⟩ := hΦ _ _ _ _ _ hr w lim μ (xs.map a.eval ++ (caps.map fun p => Value.pointer (some ⟨μ p.1, p.2, none⟩)).toArray) (by simp [← hlen]) (fun i hi => by
      have hi2 : i < xs'.length + caps.length := by simpa using hi
      rw [Array.getD_eq_getD_getElem?]
      by_cases hlt : i < xs'.length
      · rw [List.getElem_append_left (by simpa using hlt), List.getElem_map, Array.getElem?_append_left (by simpa [← hlen] using hlt)]
        have := oList_rep h _ _ h1 hk i hlt
        rw [List.getD_eq_getElem?_getD] at this
        exact ⟨by simpa using this.norm, n2_norm _⟩
      · rw [List.getElem_append_right (by simpa using hlt), Array.getElem?_append_right (by simp [hlen']; omega)]
        have hlt2 : i - xs'.length < caps.length := by omega
        simp only [List.length_map, Array.size_map, List.getElem_map]
        have e2 : i - xs.size = i - xs'.length := by rw [← hlen]; simp
        rw [e2]
        simp only [List.getElem?_toArray, List.getElem?_map, List.getElem?_eq_getElem hlt2, Option.map_some, Option.getD_some]
        exact ⟨.ptr _ _ (hcaps _ (List.getElem_mem _)), fun _ _ e => by cases e⟩) h.box h.glob
    unfold Oper.wp
    rw [run_callv ho hvf (k1 w)]
    show Calls P f _ w _
    refine k4.mono ?_
    rintro e w' ⟨vv, lim', μ', rfl, k3, hb, hμ, hl, hnew, hbr, hrr⟩
    exact hn _ _ (after_inv h k3 k2 hb hμ hl hnew hbr hrr hd)
  · cases hev

theorem s_isnil {neg : Bool} {t u e : TypeId} {y z : Operand} {y' : O} (h : InvG F lim μ own s a w) (hd : ∀ k, o.dst = some k → k < F.nt) (ho : o.op = .binOp (if neg then .neq else .eql) t y z u)
    (hu : P.underlying t = some (.slice e)) (h1 : toO y = some y') (hz : nilO z = true) (hk : okO F.nt y' = true) (hev : evI Φ F.nb (.isnil neg y') s.1 s.2 = some (x, ups, bx')) (hn : Goes F o s x ups bx' next) : o.wp P a w next Q := by
  have hy := eval_rep h h1 hk
  have hzv : a.eval z = .slice none 0 0 := by
    unfold nilO at hz
    split at hz
    · rfl
    · cases hz
  simp only [evI] at hev
  split at hev
  · rename_i l n g e1
    rw [e1] at hy
    have key : ∀ b c, a.eval y = .slice b n c → ∀ q : Bool, b.isNone = q → (x, ups, bx') = (.val (.bool (if neg then !q else q)), [], s.2) → o.wp P a w next Q := by
      intro b c hv q hq hx
      cases hx
      refine pure_sound h hd (run_bin ho (v := .bool (if neg = true then !q else q)) ?_ ?_) (rep_bool _) (n2_val _) hn
      · rw [hv]; exact eqGuard_plain (by simp) (by simp)
      · rw [hv, hzv]
        have := isnil_run (P := P) (w := w) hu b n c
        rw [hq] at this
        cases neg <;> simp [binOp, this]
    have hy' := hy.toSl
    split at hev
    · rename_i hg
      subst hg
      generalize hv : a.eval y = v at hy'
      cases hy' with
      | nil _ h4 => exact key none 0 hv true rfl (by cases hev; cases neg <;> rfl)
      | emp b q sp g h3 => exact absurd rfl h3.2.2
      | sl b q n c l g vs hnc hg h3 => exact absurd rfl h3
    · split at hev
      · rename_i hcond
        generalize hv : a.eval y = v at hy'
        cases hy' with
        | nil _ h4 => rcases hcond with h | h
                      · omega
                      · exact absurd h h4
        | emp b q sp g h3 => exact key (some ⟨b, q, some sp⟩) 0 hv false rfl (by cases hev; cases neg <;> rfl)
        | sl b q n c l g vs hnc hg h3 => exact key (some ⟨b, q, none⟩) c hv false rfl (by cases hev; cases neg <;> rfl)
      · cases hev
  · cases hev
end Go.Proofs.YtkohggddaheefaaEv
/- All operations together. -/
namespace Go.Proofs.YtkohggddaheefaaEv
open Go Go.RowKit

variable {P : Program} {F : Fr} {lim μ : Nat → Nat} {own : Nat → Pl} {s : Env × Bx} {a : Act} {w : World} {o : Oper} {next : Act → World → Prop} {Q : Exit → Act → World → Prop}
  {x : A} {ups : List (Nat × A)} {bx' : Bx} {Φ : CallF}

theorem bytesA_eq : ∀ (l : List A) (bs : List UInt8), bytesA l = some bs → ∃ xs : List Int, l = xs.map (fun n => A.val (.int .u8 n)) ∧ bs = xs.map fun n => UInt8.ofNat n.toNat
  | [], bs, h => by cases h; exact ⟨[], rfl, rfl⟩
  | y :: l, bs, h => by
    unfold bytesA at h
    split at h
    · rename_i e; cases e
    · rename_i b r e
      cases e
      simp only [Option.map_eq_some_iff] at h
      obtain ⟨t, ht, rfl⟩ := h
      obtain ⟨xs, rfl, rfl⟩ := bytesA_eq _ t ht
      exact ⟨b :: xs, rfl, rfl⟩
    · cases h

theorem s_bstr {t d e : TypeId} {y : Operand} {y' : O} (h : InvG F lim μ own s a w) (hd : ∀ k, o.dst = some k → k < F.nt) (ho : o.op = .convert t d y)
    (hs : P.underlying t = some (.slice e)) (he : P.underlying e = some (.int .u8)) (hdd : P.underlying d = some .string) (h1 : toO y = some y') (hk : okO F.nt y' = true)
    (hev : evI Φ F.nb (.bstr y') s.1 s.2 = some (x, ups, bx')) (hn : Goes F o s x ups bx' next) : o.wp P a w next Q := by
  have hy := eval_rep h h1 hk
  simp only [evI] at hev
  split at hev
  · rename_i l n g e1
    rw [e1] at hy
    split at hev
    · rename_i hln
      simp only [Option.map_eq_some_iff] at hev
      obtain ⟨bs, hbs, hx⟩ := hev
      cases hx
      obtain ⟨xs, hlx, rfl⟩ := bytesA_eq _ _ hbs
      have hp' := hy.toSl
      generalize hvp : a.eval y = vp at hp'
      cases hp' with
      | nil _ h4 =>
        have hr := run_convert_bytes_nil (P := P) w t e hs he 0 0 d hdd
        have hxs : xs = [] := by
          have := congrArg List.length hlx
          simp at this
          exact List.eq_nil_of_length_eq_zero this.symm
        subst hxs
        exact pure_sound h hd (run_conv ho (by rw [hvp]; exact hr)) (rep_str _) (n2_val _) hn
      | emp b q sp g h3 =>
        have hxs : xs = [] := by
          have := congrArg List.length hlx
          simp at this
          exact List.eq_nil_of_length_eq_zero this.symm
        subst hxs
        refine pure_sound h hd (run_conv ho (v := .string ⟨#[]⟩) ?_) (rep_str _) (n2_val _) hn
        rw [hvp]
        simp [convert, run_underlying hs, run_underlying hdd, run_underlying he]
        have hl0 := run_loadCells_list (P := P) (w := w) ⟨b, q, some sp⟩ [] (fun j v hj => by simp at hj)
        simp only [List.length_nil] at hl0
        simp [Conv.bytesToString, hl0, ByteArray.empty, ByteArray.emptyWithCapacity]
        rfl
      | sl b q n c l g vs hnc hg h3 hc hl hr =>
        subst hlx
        simp only [List.length_map] at hln
        have hcell : ∀ i, i < n → w.cell? ⟨b, q + i, none⟩ = some (.int .u8 (xs.getD i 0)) := by
          intro i hi
          have hi' : i < (xs.map (fun n => A.val (.int .u8 n))).length := by simp; omega
          rw [hc i hi']
          have := hr i hi'
          rw [List.getElem_map] at this
          have hv := (Rep.rv (μ := μ) (m := 0) this).val.1
          rw [hv, List.getD_eq_getElem?_getD, List.getElem?_eq_getElem (by omega)]; rfl
        have hrr := run_convert_bytes_arg (P := P) w t e hs he b q n c xs hln hcell d hdd
        exact pure_sound h hd (run_conv ho (by rw [hvp]; exact hrr)) (rep_str _) (n2_val _) hn
    · cases hev
  · cases hev

theorem s_conv {t d : TypeId} {y : Operand} {y' : O} {k0 k : IntKind} (h : InvG F lim μ own s a w) (hd : ∀ k, o.dst = some k → k < F.nt) (ho : o.op = .convert t d y)
    (hs : P.underlying t = some (.int k0)) (hdd : P.underlying d = some (.int k)) (h1 : toO y = some y') (hk : okO F.nt y' = true)
    (hev : evI Φ F.nb (.conv k y') s.1 s.2 = some (x, ups, bx')) (hn : Goes F o s x ups bx' next) : o.wp P a w next Q := by
  have hy := eval_rep h h1 hk
  simp only [evI] at hev
  split at hev
  · rename_i kk n e1
    rw [e1] at hy
    obtain ⟨hv, _⟩ := hy.val
    cases hev
    refine pure_sound h hd (run_conv ho (v := .int k (k.wrap n)) ?_) (rep_int _ _) (n2_val _) hn
    simp [convert, run_underlying hs, run_underlying hdd, hv, Conv.intToInt]
  · cases hev

theorem s_len {y : Operand} {y' : O} {t : TypeId} {e : TypeId} (h : InvG F lim μ own s a w) (hd : ∀ k, o.dst = some k → k < F.nt) (ho : o.op = .call { callee := .builtin .len, args := #[y], argTypes := #[t] })
    (hs : P.underlying t = some (.slice e)) (h1 : toO y = some y') (hk : okO F.nt y' = true)
    (hev : evI Φ F.nb (.len y') s.1 s.2 = some (x, ups, bx')) (hn : Goes F o s x ups bx' next) : o.wp P a w next Q := by
  have hy := eval_rep h h1 hk
  simp only [evI] at hev
  split at hev
  · rename_i l n g e1
    rw [e1] at hy
    cases hev
    obtain ⟨base, c, cs, ev, _⟩ := sl_cells (P := P) hy.toSl
    refine pure_sound h hd (run_builtin ho fun cs => ?_) (rep_int _ _) (n2_val _) hn
    simp [builtin, Builtin.len_, run_underlying hs, ev, goInt]
  · rename_i r n z e1
    rw [e1] at hy
    cases hev
    obtain ⟨c, ev, _⟩ := hy.toBs
    refine pure_sound h hd (run_builtin ho fun cs => ?_) (rep_int _ _) (n2_val _) hn
    simp [builtin, Builtin.len_, run_underlying hs, ev, goInt]
  · cases hev

theorem s_slen {y : Operand} {y' : O} {t : TypeId} (h : InvG F lim μ own s a w) (hd : ∀ k, o.dst = some k → k < F.nt) (ho : o.op = .call { callee := .builtin .len, args := #[y], argTypes := #[t] })
    (hs : P.underlying t = some .string) (h1 : toO y = some y') (hk : okO F.nt y' = true)
    (hev : evI Φ F.nb (.slen y') s.1 s.2 = some (x, ups, bx')) (hn : Goes F o s x ups bx' next) : o.wp P a w next Q := by
  have hy := eval_rep h h1 hk
  simp only [evI] at hev
  split at hev
  · rename_i sv e1
    rw [e1] at hy
    cases hev
    obtain ⟨hv, _⟩ := hy.val
    refine pure_sound h hd (run_builtin ho fun cs => ?_) (rep_int _ _) (n2_val _) hn
    simp [builtin, Builtin.len_, run_underlying hs, hv, goInt]
  · cases hev

theorem foldM_run (isMax : Bool) : ∀ (l : List A) (vs : List Value) (a0 r : Int), foldM isMax a0 l = some r → vs.length = l.length → (∀ i (hi : i < l.length), ∃ m, Rep w lim μ m (vs.getD i undef) l[i]) →
    (vs.foldlM (if isMax then Builtin.max2 else Builtin.min2) (.int .i64 a0)).run P w = .ok (.int .i64 r) w
  | [], vs, a0, r, h, hl, _ => by
    cases h
    have : vs = [] := List.eq_nil_of_length_eq_zero (by simpa using hl)
    subst this
    simp
  | y :: l, [], a0, r, h, hl, _ => by simp at hl
  | y :: l, v :: vs, a0, r, h, hl, hr => by
    unfold foldM at h
    split at h
    · rename_i e; cases e
    · rename_i a0' b l' e
      cases e
      obtain ⟨m, h0⟩ := hr 0 (by simp)
      have hv : v = .int .i64 b := by simpa using h0.val.1
      subst hv
      have ih := foldM_run isMax _ vs _ r h (by simpa using hl) (fun i hi => hr (i + 1) (by simpa using hi))
      cases isMax with
      | true => simpa [Builtin.max2] using ih
      | false => simpa [Builtin.min2] using ih
    · cases h

theorem s_mxn {xs : Array Operand} {ts : Array TypeId} {xs' : List O} (isMax : Bool) (h : InvG F lim μ own s a w) (hd : ∀ k, o.dst = some k → k < F.nt) (ho : o.op = .call { callee := .builtin (if isMax then .max else .min), args := xs, argTypes := ts })
    (h1 : oList xs.toList = some xs') (hk : xs'.all (okO F.nt) = true) (hev : evI Φ F.nb (.mxn isMax xs') s.1 s.2 = some (x, ups, bx')) (hn : Goes F o s x ups bx' next) : o.wp P a w next Q := by
  have hlen := oList_len _ _ h1
  have hrep := oList_rep h _ _ h1 hk
  simp only [evI] at hev
  split at hev
  · rename_i a0 r e1
    simp only [Option.map_eq_some_iff] at hev
    obtain ⟨v, hv, hx⟩ := hev
    cases hx
    obtain ⟨y', r', rfl⟩ : ∃ y' r', xs' = y' :: r' := by cases xs' with | nil => simp at e1 | cons y' r' => exact ⟨y', r', rfl⟩
    simp only [List.map_cons, List.cons.injEq] at e1
    obtain ⟨e1, rfl⟩ := e1
    obtain ⟨xl⟩ := xs
    obtain ⟨y, rr, rfl⟩ : ∃ y rr, xl = y :: rr := by cases xl with | nil => simp at hlen | cons y rr => exact ⟨y, rr, rfl⟩
    have h0 := hrep 0 (by simp)
    simp only [List.map_cons, List.getElem_cons_zero] at h0
    rw [e1] at h0
    have hv0 : a.eval y = .int .i64 a0 := by simpa using h0.val.1
    have hf := foldM_run (P := P) (w := w) (lim := lim) (μ := μ) isMax _ (rr.map a.eval) a0 v hv (by simpa using hlen) (fun i hi => ⟨_, by
      have := hrep (i + 1) (by simpa using hi)
      simpa using this⟩)
    refine pure_sound h hd (run_builtin ho (v := .int .i64 v) fun cs => ?_) (rep_int _ _) (n2_val _) hn
    cases isMax with
    | true => simp only [if_true, builtin, Builtin.max_] at hf ⊢; simp [hv0, hf]
    | false => simp only [builtin, Builtin.min_] at hf ⊢; simp at hf; simp [hv0, hf]
  · cases hev

theorem s_bin {op : BinOp} {t u : TypeId} {y z : Operand} {y' z' : O} (h : InvG F lim μ own s a w) (hd : ∀ k, o.dst = some k → k < F.nt) (ho : o.op = .binOp op t y z u)
    (h1 : toO y = some y') (h2 : toO z = some z') (hk : (I.bin op y' z').os.all (okO F.nt) = true) (hev : evI Φ F.nb (.bin op y' z') s.1 s.2 = some (x, ups, bx')) (hn : Goes F o s x ups bx' next) : o.wp P a w next Q := by
  simp only [I.os, List.all_cons, List.all_nil, Bool.and_true, Bool.and_eq_true] at hk
  have hy := eval_rep h h1 hk.1
  have hz := eval_rep h h2 hk.2
  simp only [evI, Option.map_eq_some_iff] at hev
  obtain ⟨r, hr, he⟩ := hev
  cases he
  obtain ⟨v, k1, rfl, k3, k4, k5⟩ := bin_run (P := P) (t := t) hy hz hr
  exact pure_sound h hd (run_bin ho (eqGuard_plain k4 k5) k1) (.rv (.val _ k3)) (n2_val _) hn

theorem s_eqs {neg : Bool} {t u : TypeId} {y z : Operand} {y' z' : O} {fs : Array Field} {i : TypeInfo} (h : InvG F lim μ own s a w) (hd : ∀ k, o.dst = some k → k < F.nt) (ho : o.op = .binOp (if neg then .neq else .eql) t y z u)
    (hu : P.underlying t = some (.struct fs)) (hc : P.stoodInHeld t = false ∧ intFields P fs.toList 0 = true ∧ fs.size = i.size)
    (h1 : toO y = some y') (h2 : toO z = some z') (hk : (I.eqs neg i.size y' z').os.all (okO F.nt) = true) (hev : evI Φ F.nb (.eqs neg i.size y' z') s.1 s.2 = some (x, ups, bx')) (hn : Goes F o s x ups bx' next) : o.wp P a w next Q := by
  simp only [I.os, List.all_cons, List.all_nil, Bool.and_true, Bool.and_eq_true] at hk
  have hy := eval_rep h h1 hk.1
  have hz := eval_rep h h2 hk.2
  simp only [evI] at hev
  split at hev
  · rename_i xs ys e1 e2
    rw [e1] at hy
    rw [e2] at hz
    split at hev
    · rename_i hl
      simp only [Option.map_eq_some_iff] at hev
      obtain ⟨r, hr, he⟩ := hev
      cases he
      have hq := eqs_run hu hc.1 hc.2.1 hy hz (by omega) hr
      obtain ⟨vs, e3, _⟩ := hy.toAgg
      obtain ⟨us, e4, _⟩ := hz.toAgg
      rw [e3, e4] at hq
      refine pure_sound h hd (run_bin ho (v := .bool (if neg = true then !r else r)) ?_ ?_) (rep_bool _) (n2_val _) hn
      · rw [e3, e4]; exact eqGuard_agg hu hc.2.1 _ _ _ _
      · rw [e3, e4]
        cases neg <;> simp [binOp, hq]
    · cases hev
  · cases hev

theorem s_eqb {neg : Bool} {t u : TypeId} {y z : Operand} {y' z' : O} (h : InvG F lim μ own s a w) (hd : ∀ k, o.dst = some k → k < F.nt) (ho : o.op = .binOp (if neg then .neq else .eql) t y z u)
    (hu : P.underlying t = some .bool) (h1 : toO y = some y') (h2 : toO z = some z') (hk : (I.eqb neg y' z').os.all (okO F.nt) = true) (hev : evI Φ F.nb (.eqb neg y' z') s.1 s.2 = some (x, ups, bx')) (hn : Goes F o s x ups bx' next) : o.wp P a w next Q := by
  simp only [I.os, List.all_cons, List.all_nil, Bool.and_true, Bool.and_eq_true] at hk
  have hy := eval_rep h h1 hk.1
  have hz := eval_rep h h2 hk.2
  simp only [evI] at hev
  split at hev
  · rename_i p q e1 e2
    rw [e1] at hy
    rw [e2] at hz
    cases hev
    have e3 := hy.val.1
    have e4 := hz.val.1
    refine pure_sound h hd (run_bin ho (v := .bool (if neg = true then !(p == q) else p == q)) ?_ ?_) (rep_bool _) (n2_val _) hn
    · rw [e3]; exact eqGuard_plain (by simp) (by simp)
    · rw [e3, e4]
      cases neg <;> simp [binOp, eqb_run hu]
  · cases hev

theorem s_un {op : UnOp} {t : TypeId} {y : Operand} {y' : O} (h : InvG F lim μ own s a w) (hd : ∀ k, o.dst = some k → k < F.nt) (ho : o.op = .unOp op t y)
    (h1 : toO y = some y') (hk : okO F.nt y' = true) (hev : evI Φ F.nb (.un op y') s.1 s.2 = some (x, ups, bx')) (hn : Goes F o s x ups bx' next) : o.wp P a w next Q := by
  have hy := eval_rep h h1 hk
  simp only [evI, Option.map_eq_some_iff] at hev
  obtain ⟨r, hr, he⟩ := hev
  cases he
  obtain ⟨v, k1, rfl, k3⟩ := un_run (P := P) hy hr
  exact pure_sound h hd (run_un ho k1) (.rv (.val _ k3)) (n2_val _) hn

/-- All slots are frozen. -/
def okZ (nt : Nat) : I → Bool
  | .callz n _ _ => decide (nt ≤ n)
  | _ => true
/-- Each operation does what the evaluator says. -/
theorem opSound (hΦ : SoundF P Φ) (h : InvG F lim μ own s a w) {hh : Hn} {i : I} (hc : compI P hh o.dst o.op = some i) (hk : i.os.all (okO F.nt) = true) (hzz : okZ F.nt i = true) (hd : ∀ k, o.dst = some k → k < F.nt)
    (hev : evI Φ F.nb i s.1 s.2 = some (x, ups, bx')) (hn : Goes F o s x ups bx' next) : o.wp P a w next Q := by
  unfold compI at hc
  split at hc
  · rename_i y ho
    simp only [Option.map_eq_some_iff] at hc
    obtain ⟨y', h1, rfl⟩ := hc
    have hk1 : okO F.nt y' = true := by simpa [I.os] using hk
    revert hev
    generalize (isTk hh.tk o.dst) = b
    intro hev
    cases b with
    | true => simp only [evI] at hev; cases hev; exact mv_sound h hd h1 hk1 (run_move ho) hn
    | false => simp only [evI] at hev; cases hev; exact pure_sound h hd (run_move ho) (eval_rep h h1 hk1).cp (n2_cp _) hn
  · rename_i y ho
    simp only [Option.map_eq_some_iff] at hc
    obtain ⟨y', h1, rfl⟩ := hc
    have hk1 : okO F.nt y' = true := by simpa [I.os] using hk
    cases hev; exact mv_sound h hd h1 hk1 (run_assign ho) hn
  · rename_i c u v ho
    split at hc
    · rename_i h1 h2 h3; cases hc; exact s_pick h hd ho h1 h2 h3 hk hev hn
    · cases hc
  · rename_i t ho
    simp only [Option.map_eq_some_iff] at hc
    obtain ⟨z, hz, rfl⟩ := hc
    exact s_alloc h hd ho hz hev hn
  · rename_i t y ho
    simp only [Option.map_eq_some_iff] at hc
    obtain ⟨y', h1, rfl⟩ := hc
    exact s_box h hd ho h1 (by simpa [I.os] using hk) hev hn
  · rename_i t ps ho
    split at hc
    · rename_i fs z hu hz
      split at hc
      · rename_i pl hpl
        simp only [Option.map_eq_some_iff] at hc
        obtain ⟨ps', hp, rfl⟩ := hc
        exact s_build h hd ho hu hz hpl hp hk hev hn
      · cases hc
    · cases hc
  · rename_i t len ps ho
    split at hc
    · rename_i e hu
      split at hc
      · rename_i i' z hi hz
        split at hc
        · rename_i hcond
          simp only [Option.map_eq_some_iff] at hc
          obtain ⟨ps', hp, rfl⟩ := hc
          exact s_bsl h hd ho hu hi hz hcond.1 hcond.2 hp hk hev hn
        · cases hc
      · cases hc
    · cases hc
  · rename_i t y ho
    split at hc
    · rename_i d i' y' hu hi h1
      cases hc
      exact s_load h hd ho hu hi h1 (by simpa [I.os] using hk) hev hn
    · cases hc
  · rename_i t p y ho
    split at hc
    · rename_i i' p' y' hi h1 h2
      cases hc
      simp only [I.os, List.all_cons, List.all_nil, Bool.and_true, Bool.and_eq_true] at hk
      exact s_store h hd ho hi h1 h2 hk.1 hk.2 hev hn
    · cases hc
  · rename_i op t y z u ho
    split at hc
    · rename_i y' z' h1 h2
      split at hc
      · rename_i fs i' hu hi
        split at hc
        · rename_i hcond; cases hc; exact s_eqs (neg := false) h hd ho hu hcond h1 h2 hk hev hn
        · cases hc
      · rename_i fs i' hu hi
        split at hc
        · rename_i hcond; cases hc; exact s_eqs (neg := true) h hd ho hu hcond h1 h2 hk hev hn
        · cases hc
      · rename_i hu; cases hc; exact s_eqb (neg := false) h hd ho hu h1 h2 hk hev hn
      · rename_i hu; cases hc; exact s_eqb (neg := true) h hd ho hu h1 h2 hk hev hn
      rotate_left 4
      · rename_i hu
        split at hc
        · rename_i hnil; cases hc; exact s_isnil (neg := false) h hd ho hu h1 hnil (by simpa [I.os] using hk) hev hn
        · cases hc
      · rename_i hu
        split at hc
        · rename_i hnil; cases hc; exact s_isnil (neg := true) h hd ho hu h1 hnil (by simpa [I.os] using hk) hev hn
        · cases hc
      all_goals first
        | (cases hc; done)
        | (cases hc; exact s_bin h hd ho h1 h2 hk hev hn)
    · cases hc
  · rename_i op t y ho
    simp only [Option.map_eq_some_iff] at hc
    obtain ⟨y', h1, rfl⟩ := hc
    exact s_un h hd ho h1 (by simpa [I.os] using hk) hev hn
  · rename_i t d y ho
    split at hc
    · rename_i hs hdd h1; cases hc; exact s_conv h hd ho hs hdd h1 (by simpa [I.os] using hk) hev hn
    · rename_i hs hdd h1
      split at hc
      · rename_i he; cases hc; exact s_bstr h hd ho hs he hdd h1 (by simpa [I.os] using hk) hev hn
      · cases hc
    · cases hc
  · rename_i xs ts ho
    obtain ⟨xl⟩ := xs
    obtain ⟨tl⟩ := ts
    split at hc
    · rename_i y t e1 e2
      simp only at e1 e2; subst e1 e2
      split at hc
      · rename_i hs h1; cases hc; exact s_len h hd ho hs h1 (by simpa [I.os] using hk) hev hn
      · rename_i hs h1; cases hc; exact s_slen h hd ho hs h1 (by simpa [I.os] using hk) hev hn
      · cases hc
    · cases hc
  · rename_i xs ts ho
    obtain ⟨xl⟩ := xs
    obtain ⟨tl⟩ := ts
    split at hc
    · rename_i y z t u e1 e2
      simp only at e1 e2; subst e1 e2
      split at hc
      · rename_i ht hu h1 h2
        split at hc
        · rename_i hi hz
          split at hc
          · rename_i hcond
            cases hc
            simp only [I.os, List.all_cons, List.all_nil, Bool.and_true, Bool.and_eq_true] at hk
            exact s_app h hd ho ht hu ⟨_, rfl⟩ hi hz hcond.1 hcond.2 h1 h2 hk.1 hk.2 hev hn
          · cases hc
        · cases hc
      · cases hc
    · cases hc
  · rename_i xs ts ho
    simp only [Option.map_eq_some_iff] at hc
    obtain ⟨xs', h1, rfl⟩ := hc
    exact s_mxn true h hd ho h1 hk hev hn
  · rename_i xs ts ho
    simp only [Option.map_eq_some_iff] at hc
    obtain ⟨xs', h1, rfl⟩ := hc
    exact s_mxn false h hd ho h1 hk hev hn
  · rename_i f xs ts ho
    split at hc
    · split at hc
      · simp only [Option.map_eq_some_iff] at hc
        obtain ⟨xs', h1, rfl⟩ := hc
        simp only [evI, Option.bind_eq_some_iff] at hev
        obtain ⟨q, h2, h3⟩ := hev
        obtain ⟨rfl, -⟩ := preQ_some h3
        exact s_calli hΦ h hd ho h1 hk h2 hn
      · simp only [Option.map_eq_some_iff] at hc
        obtain ⟨xs', h1, rfl⟩ := hc
        exact s_calli hΦ h hd ho h1 hk hev hn
    · split at hc
      · simp only [Option.map_eq_some_iff] at hc
        obtain ⟨xs', h1, rfl⟩ := hc
        simp only [I.os, List.all_append, Bool.and_eq_true] at hk
        exact s_callz hΦ h hd ho h1 hk.1 (of_decide_eq_true hzz) hev hn
      · simp only [Option.map_eq_some_iff] at hc
        obtain ⟨xs', h1, rfl⟩ := hc
        exact s_call hΦ h hd ho h1 hk hev hn
  · rename_i t xs ts ho
    simp only [Option.map_eq_some_iff] at hc
    obtain ⟨xs', h1, rfl⟩ := hc
    simp only [I.os, List.all_cons, Bool.and_eq_true] at hk
    exact s_callv hΦ h hd ho h1 hk.2 hev hn
  · rename_i t y lo hi mx ho
    split at hc
    · rename_i y' lo' hi' mx' h1 h2 h3 h4
      split at hc
      · rename_i e hu
        split at hc
        · cases hc
        · rename_i hx
          simp only [Option.map_eq_some_iff] at hc
          obtain ⟨i', hi', rfl⟩ := hc
          exact s_slc h hd ho hu hi' h1 h2 h3 h4 hx hk hev hn
      · rename_i hu
        split at hc
        · rename_i hm
          cases hc
          have hmx : mx = none := by
            cases mx with
            | none => rfl
            | some z => simp only [oOpt, Option.map_eq_some_iff] at h4; obtain ⟨_, _, rfl⟩ := h4; simp at hm
          subst hmx
          exact s_sslc h hd ho hu h1 h2 h3 hk hev hn
        · cases hc
      · cases hc
    · cases hc
  · rename_i t y k ho
    split at hc
    · rename_i fs y' hu h1
      split at hc
      · rename_i f hf
        split at hc
        · rename_i i' hi
          split at hc
          · cases hc
          · rename_i hsz
            cases hc
            exact s_fa h hd ho hu hf hi hsz h1 (by simpa [I.os] using hk) hev hn
        · cases hc
      · cases hc
    · cases hc
  · rename_i t y k ho
    split at hc
    · rename_i e y' k' hu h1 h2
      simp only [Option.map_eq_some_iff] at hc
      obtain ⟨i', hi, rfl⟩ := hc
      simp only [I.os, List.all_cons, List.all_nil, Bool.and_true, Bool.and_eq_true] at hk
      exact s_ia h hd ho hu hi h1 h2 hk.1 hk.2 hev hn
    · cases hc
  · rename_i t y k ho
    split at hc
    · rename_i y' k' hu h1 h2
      cases hc
      simp only [I.os, List.all_cons, List.all_nil, Bool.and_true, Bool.and_eq_true] at hk
      exact s_ix h hd ho hu h1 h2 hk.1 hk.2 hev hn
    · cases hc
  · rename_i y k ho
    simp only [Option.map_eq_some_iff] at hc
    obtain ⟨y', h1, rfl⟩ := hc
    exact s_ext h hd ho h1 (by simpa [I.os] using hk) hev hn
  · rename_i f fs cs ho
    split at hc
    · rename_i he
      simp only [Option.map_eq_some_iff] at hc
      obtain ⟨cs', h1, rfl⟩ := hc
      have hfs : fs = #[] := by simpa using he
      subst hfs
      exact s_mkf h hd ho h1 hk hev hn
    · cases hc
  · rename_i t l c ho
    split at hc
    · rename_i e y' hu h1
      split at hc
      · rename_i i' z hi hz
        split at hc
        · rename_i hcond
          cases hc
          exact s_mksl h hd ho hu hi hz hcond.2.1 hcond.2.2 hcond.1 h1 (by simpa [I.os] using hk) hev hn
        · cases hc
      · cases hc
    · cases hc
  · cases hc
end Go.Proofs.YtkohggddaheefaaEv
/- A region in whatever order its edges allow. -/
namespace Go.Proofs.YtkohggddaheefaaEv
open Go Go.RowKit

/-! ### what an operation reads and writes -/
def tmpsOf (xs : List O) : List Nat := xs.filterMap fun | .t i => some i | _ => none

def takesI : I → List Nat
  | .mv x true => tmpsOf [x]
  | .box x => tmpsOf [x]
  | .store _ _ x => tmpsOf [x]
  | .app _ _ x _ _ => tmpsOf [x]
  | .callz nt _ _ => List.range nt
  | _ => []

/-- 0: nothing of the boxes; 1: it reads them; 2: it takes a right out of one; 3: it writes, makes one. -/
def memI : I → Nat
  | .alloc _ => 3
  | .box _ => 3
  | .bsl _ _ _ _ m => if m then 3 else 0
  | .load _ _ _ t => if t then 2 else 1
  | .store _ _ _ => 3
  | .app _ _ _ _ m => if m then 3 else 1
  | .mksl _ _ _ _ m => if m then 3 else 0
  | .call _ _ _ => 1
  | .calli _ _ => 3
  | .calln _ _ => 3
  | .callz _ _ _ => 3
  | .callv _ _ => 3
  | _ => 0

theorem evO_congr {e e' : Env} {xs : List O} (h : ∀ t ∈ tmpsOf xs, e t = e' t) : ∀ x ∈ xs, x.ev e = x.ev e' := by
  intro x hx
  cases x with
  | t i => exact h i (by simp only [tmpsOf, List.mem_filterMap]; exact ⟨.t i, hx, rfl⟩)
  | c v => rfl
  | f k => rfl

theorem map_congr_os {β : Type} {e e' : Env} {xs : List O} (h : ∀ x ∈ xs, x.ev e = x.ev e') (f : A → β) : (xs.map fun x => f (x.ev e)) = xs.map fun x => f (x.ev e') :=
  List.map_congr_left fun x hx => by rw [h x hx]

theorem mapM_congr_os {α β : Type} {f g : α → Option β} : ∀ {l : List α}, (∀ x ∈ l, f x = g x) → l.mapM f = l.mapM g
  | [], _ => rfl
  | x :: l, h => by
    rw [List.mapM_cons, List.mapM_cons, h x (by simp), mapM_congr_os fun y hy => h y (by simp [hy])]

theorem any_congr_os {α : Type} {f g : α → Bool} : ∀ {l : List α}, (∀ x ∈ l, f x = g x) → l.any f = l.any g
  | [], _ => rfl
  | x :: l, h => by
    rw [List.any_cons, List.any_cons, h x (by simp), any_congr_os fun y hy => h y (by simp [hy])]

theorem fillA_congr {e e' : Env} (nrm : Bool) : ∀ (ps : List (Nat × Nat × O)) (cs : List A), (∀ x ∈ ps.map (·.2.2), x.ev e = x.ev e') → fillA e nrm cs ps = fillA e' nrm cs ps
  | [], _, _ => rfl
  | (off, size, x) :: ps, cs, h => by
    have ih := fun cs => fillA_congr nrm ps cs fun y hy => h y (by simp only [List.map_cons]; exact List.mem_cons_of_mem _ hy)
    unfold fillA
    rw [h x (by simp)]
    simp only [ih]

theorem capsOf_congr {e e' : Env} : ∀ (xs : List O), (∀ x ∈ xs, x.ev e = x.ev e') → capsOf e xs = capsOf e' xs
  | [], _ => rfl
  | x :: xs, h => by
    unfold capsOf
    rw [h x (by simp), capsOf_congr xs fun y hy => h y (by simp [hy])]

theorem optInt_congr {e e' : Env} (d : Nat) (x : Option O) (h : ∀ y ∈ x.toList, y.ev e = y.ev e') : optInt e d x = optInt e' d x := by
  cases x with
  | none => rfl
  | some x => simp only [optInt]; rw [h x (by simp)]

theorem takeU_congr {e e' : Env} (x : O) (h : x.ev e = x.ev e') : takeU x e = takeU x e' := by
  cases x with
  | t i => simp only [O.ev] at h; simp only [takeU, h]
  | c v => rfl
  | f k => rfl

theorem evI_congr (Φ : CallF) (nb : Nat) (i : I) {e e' : Env} (bx : Bx) (h : ∀ t ∈ tmpsOf i.os, e t = e' t) : evI Φ nb i e bx = evI Φ nb i e' bx := by
  have h' := evO_congr h
  cases i with
  | mv x t =>
    have := h' x (by simp [I.os])
    cases t with
    | true => simp only [evI, this, takeU_congr x this]
    | false => simp only [evI, this]
  | pick c a b => simp only [evI, h' c (by simp [I.os]), h' a (by simp [I.os]), h' b (by simp [I.os])]
  | alloc z => rfl
  | box x => have := h' x (by simp [I.os]); simp only [evI, this, takeU_congr x this]
  | build z ps => simp only [evI, fillA_congr false ps _ (fun x hx => h' x hx)]
  | bsl sz len z ps mu => simp only [evI, fillA_congr true ps _ (fun x hx => h' x hx)]
  | isnil neg x => simp only [evI, h' x (by simp [I.os])]
  | load sz ag x t => simp only [evI, h' x (by simp [I.os])]
  | store sz p x => have := h' x (by simp [I.os]); simp only [evI, this, h' p (by simp [I.os]), takeU_congr x this]
  | bin op x y => simp only [evI, h' x (by simp [I.os]), h' y (by simp [I.os])]
  | un op x => simp only [evI, h' x (by simp [I.os])]
  | conv k x => simp only [evI, h' x (by simp [I.os])]
  | bstr x => simp only [evI, h' x (by simp [I.os])]
  | eqs neg n x y => simp only [evI, h' x (by simp [I.os]), h' y (by simp [I.os])]
  | eqb neg x y => simp only [evI, h' x (by simp [I.os]), h' y (by simp [I.os])]
  | len x => simp only [evI, h' x (by simp [I.os])]
  | slen x => simp only [evI, h' x (by simp [I.os])]
  | mxn b xs =>
    have : xs.map (O.ev e) = xs.map (O.ev e') := List.map_congr_left fun x hx => h' x hx
    simp only [evI, this]
  | app sz bytes x y mu => have := h' x (by simp [I.os]); simp only [evI, this, h' y (by simp [I.os]), takeU_congr x this]
  | slc sz x lo hi mx =>
    simp only [evI, h' x (by simp [I.os])]
    split
    · rename_i l n g _
      rw [optInt_congr 0 lo (fun y hy => h' y (by simp [I.os] at hy ⊢; simp [hy])), optInt_congr n hi (fun y hy => h' y (by simp [I.os] at hy ⊢; simp [hy])), optInt_congr n mx (fun y hy => h' y (by simp [I.os] at hy ⊢; simp [hy]))]
    · rename_i r n z _
      rw [optInt_congr n hi (fun y hy => h' y (by simp [I.os] at hy ⊢; simp [hy]))]
    · rfl
  | sslc x lo hi =>
    simp only [evI, h' x (by simp [I.os])]
    split
    · rename_i sv _
      rw [optInt_congr 0 lo (fun y hy => h' y (by simp [I.os] at hy ⊢; simp [hy])), optInt_congr sv.size hi (fun y hy => h' y (by simp [I.os] at hy ⊢; simp [hy]))]
    · rfl
  | fa off p => simp only [evI, h' p (by simp [I.os])]
  | ia sz x i => simp only [evI, h' x (by simp [I.os]), h' i (by simp [I.os])]
  | ix x i => simp only [evI, h' x (by simp [I.os]), h' i (by simp [I.os])]
  | ext x k => simp only [evI, h' x (by simp [I.os])]
  | mkf f caps => simp only [evI, capsOf_congr caps fun x hx => h' x hx]
  | mksl sz b z n mu => simp only [evI, h' n (by simp [I.os])]
  | call f xs keep =>
    have h1 : args0 e bx xs = args0 e' bx xs := by
      unfold args0
      exact mapM_congr_os fun x hx => by rw [h' x hx]
    have h2 : (xs.any fun x => (x.ev e).hasB) = (xs.any fun x => (x.ev e').hasB) := any_congr_os fun x hx => by rw [h' x hx]
    simp only [evI, h1, h2]
  | calli f xs => simp only [evI, map_congr_os (xs := xs) (fun x hx => h' x hx) A.norm]
  | calln f xs => simp only [evI, map_congr_os (xs := xs) (fun x hx => h' x hx) A.norm]
  | callz nt f xs =>
    have h1 : args0 e bx xs = args0 e' bx xs := by
      unfold args0
      exact mapM_congr_os fun x hx => by rw [h' x (by simp [I.os, hx])]
    have h2 : frzE nt e bx = frzE nt e' bx := by
      unfold frzE
      refine List.map_congr_left fun i hi => ?_
      have := h' (.t i) (by simp only [I.os, List.mem_append, List.mem_map]; exact .inr ⟨i, hi, rfl⟩)
      simp only [O.ev] at this
      rw [this]
    simp only [evI, h1, h2]
  | callv x xs => simp only [evI, h' x (by simp [I.os]), map_congr_os (xs := xs) (fun x hx => h' x (by simp [I.os, hx])) A.norm]

theorem takeU_keys (x : O) (e : Env) : ∀ p ∈ takeU x e, p.1 ∈ tmpsOf [x] := by
  intro p hp
  cases x with
  | t i =>
    simp only [takeU] at hp
    split at hp
    · split at hp
      · simp at hp; subst hp; simp [tmpsOf]
      · simp at hp
    · simp at hp
  | c v => simp [takeU] at hp
  | f k => simp [takeU] at hp

/-! ### what a right taken does not change -/
theorem cp1_frz (bx bx2 : Bx) (hs : strip bx2 = strip bx) : ∀ (d : Nat) (a a2 : A), a.cp1 = a2.cp1 → frzC bx d a = frzC bx2 d a2 := by
  have hrow : ∀ r : Nat, (bx2[r]?).map (List.map A.cp1) = (bx[r]?).map (List.map A.cp1) := fun r => by
    have := congrArg (fun l : Bx => l[r]?) hs
    simpa [strip] using this
  have sh : ∀ a a2 : A, a.cp1 = a2.cp1 → (∃ v, a = .val v ∧ a2 = .val v) ∨ (∃ l n g g2, a = .sl l n g ∧ a2 = .sl l n g2) ∨ (∃ r n z, a = .bs r n z ∧ a2 = .bs r n z) ∨
      ((∀ v, a ≠ .val v) ∧ (∀ l n g, a ≠ .sl l n g) ∧ (∀ r n z, a ≠ .bs r n z) ∧ (∀ v, a2 ≠ .val v) ∧ (∀ l n g, a2 ≠ .sl l n g) ∧ (∀ r n z, a2 ≠ .bs r n z)) := by
    intro a a2 h
    cases a <;> cases a2 <;> simp [A.cp1] at h ⊢ <;> simp_all
  intro d
  induction d with
  | zero =>
    intro a a2 h
    rcases sh a a2 h with ⟨v, rfl, rfl⟩ | ⟨l, n, g, g2, rfl, rfl⟩ | ⟨r, n, z, rfl, rfl⟩ | ⟨h1, h2, h3, h4, h5, h6⟩
    · rfl
    · rfl
    · rfl
    · have e1 : frzC bx 0 a = none := by cases a <;> first | rfl | exact absurd rfl (h1 _) | exact absurd rfl (h2 _ _ _)
      have e2 : frzC bx2 0 a2 = none := by cases a2 <;> first | rfl | exact absurd rfl (h4 _) | exact absurd rfl (h5 _ _ _)
      rw [e1, e2]
  | succ d ih =>
    intro a a2 h
    rcases sh a a2 h with ⟨v, rfl, rfl⟩ | ⟨l, n, g, g2, rfl, rfl⟩ | ⟨r, n, z, rfl, rfl⟩ | ⟨h1, h2, h3, h4, h5, h6⟩
    · rfl
    · rfl
    · have hl : ∀ (cs cs2 : List A) (k : Nat), cs2.map A.cp1 = cs.map A.cp1 → (cs.take k).mapM (frzC bx d) = (cs2.take k).mapM (frzC bx2 d) := by
        intro cs
        induction cs with
        | nil => intro cs2 k hk; have : cs2 = [] := by simpa using hk
                 subst this; simp
        | cons c cs ihc =>
          intro cs2 k hk
          cases cs2 with
          | nil => simp at hk
          | cons c2 cs2 =>
            simp only [List.map_cons, List.cons.injEq] at hk
            cases k with
            | zero => simp
            | succ k => rw [List.take_succ_cons, List.take_succ_cons, List.mapM_cons, List.mapM_cons, ih c c2 hk.1.symm, ihc cs2 k hk.2]
      simp only [frzC]
      have := hrow r
      cases h1 : bx[r]? with
      | none => rw [h1] at this; cases h2 : bx2[r]? with
        | none => rfl
        | some cs2 => rw [h2] at this; simp at this
      | some cs =>
        rw [h1] at this
        cases h2 : bx2[r]? with
        | none => rw [h2] at this; simp at this
        | some cs2 =>
          rw [h2] at this
          simp only [Option.map_some, Option.some.injEq] at this
          have hlen := congrArg List.length this
          simp only [List.length_map] at hlen
          simp only [hlen, hl cs cs2 _ this]
    · have e1 : frzC bx (d + 1) a = none := by cases a <;> first | rfl | exact absurd rfl (h1 _) | exact absurd rfl (h2 _ _ _) | exact absurd rfl (h3 _ _ _)
      have e2 : frzC bx2 (d + 1) a2 = none := by cases a2 <;> first | rfl | exact absurd rfl (h4 _) | exact absurd rfl (h5 _ _ _) | exact absurd rfl (h6 _ _ _)
      rw [e1, e2]

theorem frzR_strip (bx bx2 : Bx) (hs : strip bx2 = strip bx) (a : A) : frzR bx a = frzR bx2 a := by
  unfold frzR
  split
  · rename_i l
    rw [mapM_congr_os (g := frzC bx2 3) fun x _ => cp1_frz bx bx2 hs 3 x x rfl]
  · exact cp1_frz bx bx2 hs 3 _ _ rfl

theorem args0_strip (bx bx2 : Bx) (hs : strip bx2 = strip bx) (e : Env) (xs : List O) : args0 e bx xs = args0 e bx2 xs := by
  unfold args0
  exact mapM_congr_os fun x _ => frzR_strip bx bx2 hs _

theorem row_strip {bx bx2 : Bx} (hs : strip bx2 = strip bx) (r : Nat) : (bx[r]? = none ∧ bx2[r]? = none) ∨ ∃ cs cs2, bx[r]? = some cs ∧ bx2[r]? = some cs2 ∧ cs2.map A.cp1 = cs.map A.cp1 := by
  have hrow : (bx2[r]?).map (List.map A.cp1) = (bx[r]?).map (List.map A.cp1) := by
    have := congrArg (fun l : Bx => l[r]?) hs
    simpa [strip] using this
  cases h1 : bx[r]? with
  | none => cases h2 : bx2[r]? with
    | none => exact .inl ⟨rfl, rfl⟩
    | some cs2 => rw [h1, h2] at hrow; simp at hrow
  | some cs => cases h2 : bx2[r]? with
    | none => rw [h1, h2] at hrow; simp at hrow
    | some cs2 => rw [h1, h2] at hrow; exact .inr ⟨cs, cs2, rfl, rfl, by simpa using hrow⟩

theorem cp1_cp1 (a : A) : a.cp1.cp1 = a.cp1 := by
  cases a with
  | sl l n g => by_cases hg : g = 2 <;> simp [A.cp1, hg]
  | _ => rfl

theorem norm1_cp1 (a : A) : a.cp1.norm1 = a.norm1 := by cases a <;> rfl
theorem isV_cp1 (a : A) : a.cp1.isV = a.isV := by cases a <;> rfl

theorem asList_strip (bx bx2 : Bx) (hs : strip bx2 = strip bx) (a : A) : asList bx a = asList bx2 a := by
  unfold asList
  split
  · rfl
  · rename_i r n z
    rcases row_strip hs r with ⟨h1, h2⟩ | ⟨cs, cs2, h1, h2, h3⟩
    · rw [h1, h2]
    · rw [h1, h2]
      have hlen := congrArg List.length h3
      simp only [List.length_map] at hlen
      have h4 : ∀ k, (cs2.take k).map A.cp1 = (cs.take k).map A.cp1 := fun k => by rw [List.map_take, List.map_take, h3]
      have h5 : ∀ k, (cs2.take k).map A.norm1 = (cs.take k).map A.norm1 := fun k => by
        have := congrArg (List.map A.norm1) (h4 k)
        simpa [List.map_map, Function.comp_def, norm1_cp1] using this
      have h6 : ∀ k, (cs2.take k).all A.isV = (cs.take k).all A.isV := fun k => by
        have hh : ∀ l : List A, (l.map A.cp1).all A.isV = l.all A.isV := fun l => by
          rw [List.all_map]; congr 1; funext a; exact isV_cp1 a
        rw [← hh, ← hh (cs.take k), h4 k]
      simp only [hlen, h5, h6]
  · rfl

theorem evI_facts (Φ : CallF) (nb : Nat) (i : I) (e : Env) (bx : Bx) (v : A) (ups : List (Nat × A)) (bx' : Bx) (h : evI Φ nb i e bx = some (v, ups, bx')) :
    (∀ p ∈ ups, p.1 ∈ takesI i) ∧ (memI i ≤ 1 → bx' = bx) ∧ (memI i = 0 → ∀ bx2, evI Φ nb i e bx2 = some (v, ups, bx2)) ∧
    (memI i = 1 → ∀ bx2, strip bx2 = strip bx → evI Φ nb i e bx2 = some (v, ups, bx2)) ∧ (memI i = 2 → strip bx' = strip bx) := by
  cases i with
  | mv x t =>
    cases t with
    | true => simp only [evI] at h ⊢; cases h; exact ⟨takeU_keys _ _, fun _ => rfl, fun _ _ => rfl, by simp [memI], by simp [memI]⟩
    | false => simp only [evI] at h ⊢; cases h; exact ⟨by simp, fun _ => rfl, fun _ _ => rfl, by simp [memI], by simp [memI]⟩
  | alloc z => simp only [evI] at h; cases h; exact ⟨by simp, by simp [memI], by simp [memI], by simp [memI], by simp [memI]⟩
  | box x =>
    simp only [evI] at h
    split at h
    · cases h; exact ⟨takeU_keys _ _, by simp [memI], by simp [memI], by simp [memI], by simp [memI]⟩
    · cases h
  | store sz p x =>
    simp only [evI] at h
    repeat' split at h
    all_goals first | (cases h; done) | (cases h; exact ⟨takeU_keys _ _, by simp [memI], by simp [memI], by simp [memI], by simp [memI]⟩)
  | bsl sz len z ps mu =>
    cases mu with
    | true =>
      simp only [evI] at h
      repeat' split at h
      all_goals first | (cases h; done) | (cases h; exact ⟨by simp, by simp [memI], by simp [memI], by simp [memI], by simp [memI]⟩)
    | false =>
      simp only [evI] at h ⊢
      split at h
      · rename_i cs hcs
        rw [if_neg (by simp)] at h
        cases h
        exact ⟨by simp, fun _ => rfl, fun _ bx2 => by simp, by simp [memI], by simp [memI]⟩
      · cases h
  | mksl sz by_ z n mu =>
    cases mu with
    | true =>
      simp only [evI] at h
      repeat' split at h
      all_goals first | (cases h; done) | (cases h; exact ⟨by simp, by simp [memI], by simp [memI], by simp [memI], by simp [memI]⟩)
    | false =>
      simp only [evI] at h ⊢
      split at h
      · split at h
        · rename_i hc
          rw [if_neg (by simp)] at h
          cases h
          exact ⟨by simp, fun _ => rfl, fun _ bx2 => by rw [if_pos hc, if_neg (by simp)], by simp [memI], by simp [memI]⟩
        · cases h
      · cases h
  | load sz ag x t =>
    cases t with
    | true =>
      suffices hk : ups = [] ∧ strip bx' = strip bx by
        rw [hk.1]; exact ⟨by simp, by simp [memI], by simp [memI], by simp [memI], fun _ => hk.2⟩
      simp only [evI, if_true] at h
      split at h
      · rename_i r q hx
        split at h
        · rename_i cs hcs
          split at h
          · split at h
            · cases h; exact ⟨rfl, rfl⟩
            · cases h
          · split at h
            · rename_i c hc
              split at h
              · cases h
                refine ⟨rfl, ?_⟩
                have hlt : q < cs.length := by
                  rcases Nat.lt_or_ge q cs.length with h' | h'
                  · exact h'
                  · simp [List.getElem?_eq_none h'] at hc
                have hcp : (cs.set q v.cp1).map A.cp1 = cs.map A.cp1 := by
                  apply List.ext_getElem?
                  intro k
                  simp only [List.getElem?_map, List.getElem?_set]
                  by_cases e : q = k
                  · subst e
                    rw [if_pos rfl, if_pos hlt, hc]
                    simp only [Option.map_some]
                    rw [cp1_cp1]
                  · rw [if_neg e]
                have hrl : r < bx.length := by
                  rcases Nat.lt_or_ge r bx.length with h' | h'
                  · exact h'
                  · simp [List.getElem?_eq_none h'] at hcs
                unfold strip
                apply List.ext_getElem?
                intro k
                simp only [List.getElem?_map, List.getElem?_set]
                by_cases e : r = k
                · subst e
                  rw [if_pos rfl, if_pos hrl, hcs]
                  simp only [Option.map_some]; rw [hcp]
                · rw [if_neg e]
              · cases h
            · cases h
        · cases h
      · split at h
        · split at h
          · cases h; exact ⟨rfl, rfl⟩
          · cases h
        · split at h
          · cases h; exact ⟨rfl, rfl⟩
          · cases h
      · split at h
        · split at h
          · cases h; exact ⟨rfl, rfl⟩
          · cases h
        · split at h
          · cases h; exact ⟨rfl, rfl⟩
          · cases h
      · cases h
    | false =>
      simp only [evI, Bool.false_eq_true, if_false] at h ⊢
      refine ⟨?_, ?_, by simp [memI], fun _ bx2 hs => ?_, by simp [memI]⟩
      · repeat' split at h
        all_goals first | (cases h; done) | (cases h; simp)
      · intro _
        repeat' split at h
        all_goals first | (cases h; done) | (cases h; rfl)
      · split at h
        · rename_i r q hx
          rcases row_strip hs r with ⟨h1, h2⟩ | ⟨cs, cs2, h1, h2, h3⟩
          · rw [h1] at h; simp at h
          · rw [h1] at h
            rw [h2]
            have hlen := congrArg List.length h3
            simp only [List.length_map] at hlen
            simp only at h ⊢
            split at h
            · rename_i hag
              rw [if_pos hag]
              split at h
              · rename_i hle
                cases h
                rw [if_pos (by omega)]
                have : ((cs2.drop q).take sz).map A.cp1 = ((cs.drop q).take sz).map A.cp1 := by
                  rw [List.map_take, List.map_drop, h3, ← List.map_drop, ← List.map_take]
                rw [this]
              · cases h
            · rename_i hag
              rw [if_neg hag]
              have hq := congrArg (fun l : List A => l[q]?) h3
              simp only [List.getElem?_map] at hq
              cases hc : cs[q]? with
              | none => rw [hc] at h; simp at h
              | some c =>
                rw [hc] at h hq
                cases hc2 : cs2[q]? with
                | none => rw [hc2] at hq; simp at hq
                | some c2 =>
                  rw [hc2] at hq
                  simp only [Option.map_some, Option.some.injEq] at hq
                  simp only at h ⊢
                  cases h
                  rw [hq]
        · rename_i l hx
          split at h
          · rename_i hag; rw [if_pos hag]; split at h
            · rename_i hle; cases h; rw [if_pos hle]
            · cases h
          · rename_i hag; rw [if_neg hag]; split at h
            · cases h; rfl
            · cases h
        · rename_i b0 o0 l hx
          split at h
          · rename_i hag; rw [if_pos hag]; split at h
            · rename_i hle; cases h; rw [if_pos hle]
            · cases h
          · rename_i hag; rw [if_neg hag]; split at h
            · cases h; rfl
            · cases h
        · cases h
  | app sz bytes x y mu =>
    cases mu with
    | true =>
      simp only [evI] at h
      repeat' split at h
      all_goals first | (cases h; done) | (cases h; exact ⟨takeU_keys _ _, by simp [memI], by simp [memI], by simp [memI], by simp [memI]⟩)
    | false =>
      refine ⟨?_, ?_, by simp [memI], fun _ bx2 hs => ?_, by simp [memI]⟩
      · simp only [evI] at h
        repeat' split at h
        all_goals first | (cases h; done) | (cases h; exact takeU_keys _ _)
      · intro _
        simp only [evI] at h
        repeat' split at h
        all_goals first | (cases h; done) | (cases h; rfl) | (rename_i hm; simp at hm)
      · simp only [evI] at h ⊢
        rw [← asList_strip bx bx2 hs]
        split at h
        · split at h
          · rename_i hc
            rw [if_neg (by simp)] at h
            cases h
            rw [if_pos hc, if_neg (by simp)]
          · cases h
        · cases h
  | call f xs keep =>
    refine ⟨?_, ?_, by simp [memI], fun _ bx2 hs => ?_, by simp [memI]⟩
    · simp only [evI] at h
      repeat' split at h
      all_goals first | (cases h; done) | (cases h; simp)
    · intro _
      simp only [evI] at h
      repeat' split at h
      all_goals first | (cases h; done) | (cases h; rfl)
    · simp only [evI] at h ⊢
      rw [← args0_strip bx bx2 hs]
      split at h
      · split at h
        · split at h
          · cases h
          · rename_i hc; cases h; rw [if_neg hc]
        · cases h
      · cases h
  | callz nt f xs =>
    simp only [evI] at h
    split at h
    · split at h
      · split at h
        · cases h
          refine ⟨fun p hp => ?_, by simp [memI], by simp [memI], by simp [memI], by simp [memI]⟩
          unfold frzE at hp
          obtain ⟨i, hi, rfl⟩ := List.mem_map.1 hp
          exact hi
        · cases h
      · cases h
    · cases h
  | calln f xs =>
    simp only [evI, Option.bind_eq_some_iff, Option.map_eq_some_iff] at h
    obtain ⟨q, ⟨r, _, hr⟩, hq⟩ := h
    obtain ⟨rfl, -⟩ := preQ_some hq
    cases hr
    exact ⟨by simp, by simp [memI], by simp [memI], by simp [memI], by simp [memI]⟩
  | calli f xs =>
    simp only [evI, Option.map_eq_some_iff] at h
    obtain ⟨r, _, hr⟩ := h
    cases hr
    exact ⟨by simp, by simp [memI], by simp [memI], by simp [memI], by simp [memI]⟩
  | callv x xs =>
    simp only [evI] at h
    split at h
    · simp only [Option.map_eq_some_iff] at h
      obtain ⟨r, _, hr⟩ := h
      cases hr
      exact ⟨by simp, by simp [memI], by simp [memI], by simp [memI], by simp [memI]⟩
    · cases h
  | _ =>
    refine (fun (h3 : _ ∧ _ ∧ _) => ⟨h3.1, h3.2.1, h3.2.2, by simp [memI], by simp [memI]⟩) ?_
    simp only [evI, Option.map_eq_some_iff] at h ⊢
    repeat' split at h
    all_goals first
      | (cases h; done)
      | (obtain ⟨r, h1, hr⟩ := h; cases hr; exact ⟨by simp, fun _ => rfl, fun _ bx2 => ⟨r, h1, rfl⟩⟩)
      | (cases h; refine ⟨by simp, fun _ => rfl, fun _ bx2 => ?_⟩; simp_all; done)
      | (obtain ⟨r, h1, hr⟩ := h; cases hr; refine ⟨by simp, fun _ => rfl, fun _ bx2 => ?_⟩; simp_all; done)
      | (simp only [Option.map_eq_some_iff] at h; obtain ⟨r, h1, hr⟩ := h; cases hr; refine ⟨by simp, fun _ => rfl, fun _ bx2 => ?_⟩; simp_all)
end Go.Proofs.YtkohggddaheefaaEv
/- The orders that a region's edges allow all come to the same. -/
namespace Go.Proofs.YtkohggddaheefaaEv
open Go Go.RowKit

def readsJ (j : J) : List Nat := (match j.g with | some (t, _) => [t] | none => []) ++ tmpsOf j.i.os
def writesJ (j : J) : List Nat := (match j.d with | some d => [d] | none => []) ++ takesI j.i

/-- The slots that are written, and the boxes. -/
noncomputable def effJ (Φ : CallF) (nb : Nat) (j : J) (e : Env) (bx : Bx) : Option (List (Nat × A) × Bx) :=
  let run : Option (List (Nat × A) × Bx) := match evI Φ nb j.i e bx with
    | some (v, ups, bx') => some (ups ++ (match j.d with | some d => [(d, v)] | none => []), bx')
    | none => none
  let skip : Option (List (Nat × A) × Bx) := some ((match j.d with | some d => [(d, .und)] | none => []), bx)
  match j.g with
  | none => run
  | some (t, b) => match e t with
    | .val (.bool b') => if b' = b then run else skip
    | .und => skip
    | _ => none

theorem puts_append : ∀ (u v : List (Nat × A)) (e : Env), puts (u ++ v) e = puts v (puts u e)
  | [], _, _ => rfl
  | (d, x) :: u, v, e => puts_append u v (put d x e)

theorem evJ_eff (Φ : CallF) (nb : Nat) (j : J) (s : Env × Bx) : evJ Φ nb j s = (effJ Φ nb j s.1 s.2).map fun p => (puts p.1 s.1, p.2) := by
  have hrun : evRun Φ nb j s = (match evI Φ nb j.i s.1 s.2 with
    | some (v, ups, bx') => some (ups ++ (match j.d with | some d => [(d, v)] | none => []), bx')
    | none => none : Option (List (Nat × A) × Bx)).map fun p => (puts p.1 s.1, p.2) := by
    unfold evRun
    cases evI Φ nb j.i s.1 s.2 with
    | none => rfl
    | some q =>
      obtain ⟨v, ups, bx'⟩ := q
      simp only [Option.map_some]
      rw [puts_append]
      cases j.d <;> rfl
  have hskip : (some (putO j.d .und s.1, s.2) : Option (Env × Bx)) = (some ((match j.d with | some d => [(d, A.und)] | none => []), s.2) : Option (List (Nat × A) × Bx)).map fun p => (puts p.1 s.1, p.2) := by
    cases j.d <;> rfl
  unfold evJ effJ
  cases j.g with
  | none => exact hrun
  | some p =>
    obtain ⟨t, b⟩ := p
    simp only
    cases s.1 t with
    | val v =>
      cases v with
      | bool b' => simp only; split; exact hrun; exact hskip
      | _ => rfl
    | und => exact hskip
    | _ => rfl

theorem effJ_congr (Φ : CallF) (nb : Nat) (j : J) {e e' : Env} (bx : Bx) (h : ∀ t ∈ readsJ j, e t = e' t) : effJ Φ nb j e bx = effJ Φ nb j e' bx := by
  have hi : evI Φ nb j.i e bx = evI Φ nb j.i e' bx := evI_congr Φ nb j.i bx fun t ht => h t (by simp [readsJ, ht])
  unfold effJ
  rw [hi]
  cases hg : j.g with
  | none => rfl
  | some p =>
    obtain ⟨t, b⟩ := p
    have : e t = e' t := h t (by simp [readsJ, hg])
    simp only [this]

theorem effJ_facts (Φ : CallF) (nb : Nat) (j : J) (e : Env) (bx : Bx) (u bx') (h : effJ Φ nb j e bx = some (u, bx')) :
    (∀ p ∈ u, p.1 ∈ writesJ j) ∧ (memI j.i ≤ 1 → bx' = bx) ∧ (memI j.i = 0 → ∀ bx2, effJ Φ nb j e bx2 = some (u, bx2)) ∧
    (memI j.i = 1 → ∀ bx2, strip bx2 = strip bx → effJ Φ nb j e bx2 = some (u, bx2)) ∧ (memI j.i = 2 → strip bx' = strip bx) := by
  have hd : ∀ (v : A), ∀ p ∈ (match j.d with | some d => [(d, v)] | none => []), p.1 ∈ writesJ j := by
    intro v p hp
    cases hj : j.d with
    | none => simp [hj] at hp
    | some d => simp [hj] at hp; subst hp; simp [writesJ, hj]
  unfold effJ at h ⊢
  simp only at h ⊢
  have run : (match evI Φ nb j.i e bx with
      | some (v, ups, bx') => some (ups ++ (match j.d with | some d => [(d, v)] | none => []), bx')
      | none => none) = some (u, bx') → (∀ p ∈ u, p.1 ∈ writesJ j) ∧ (memI j.i ≤ 1 → bx' = bx) ∧ (memI j.i = 0 → ∀ bx2, (match evI Φ nb j.i e bx2 with
      | some (v, ups, bx') => some (ups ++ (match j.d with | some d => [(d, v)] | none => []), bx')
      | none => none : Option (List (Nat × A) × Bx)) = some (u, bx2)) ∧ (memI j.i = 1 → ∀ bx2, strip bx2 = strip bx → (match evI Φ nb j.i e bx2 with
      | some (v, ups, bx') => some (ups ++ (match j.d with | some d => [(d, v)] | none => []), bx')
      | none => none : Option (List (Nat × A) × Bx)) = some (u, bx2)) ∧ (memI j.i = 2 → strip bx' = strip bx) := by
    intro h
    cases he : evI Φ nb j.i e bx with
    | none => simp [he] at h
    | some q =>
      obtain ⟨v, ups, b2⟩ := q
      simp only [he, Option.some.injEq, Prod.mk.injEq] at h
      obtain ⟨rfl, rfl⟩ := h
      obtain ⟨f1, f2, f3, f4, f5⟩ := evI_facts Φ nb j.i e bx v ups b2 he
      refine ⟨fun p hp => ?_, f2, fun hm bx2 => ?_, fun hm bx2 hs => ?_, f5⟩
      · rcases List.mem_append.1 hp with hp | hp
        · simp only [writesJ, List.mem_append]; exact .inr (f1 p hp)
        · exact hd v p hp
      · rw [f3 hm bx2]
      · rw [f4 hm bx2 hs]
  have skip : ∀ {d : Option Nat}, (some ((match j.d with | some d => [(d, A.und)] | none => []), bx) : Option (List (Nat × A) × Bx)) = some (u, bx') →
      (∀ p ∈ u, p.1 ∈ writesJ j) ∧ (memI j.i ≤ 1 → bx' = bx) ∧ (memI j.i = 0 → ∀ bx2, (some ((match j.d with | some d => [(d, A.und)] | none => []), bx2) : Option (List (Nat × A) × Bx)) = some (u, bx2)) ∧
      (memI j.i = 1 → ∀ bx2, strip bx2 = strip bx → (some ((match j.d with | some d => [(d, A.und)] | none => []), bx2) : Option (List (Nat × A) × Bx)) = some (u, bx2)) ∧ (memI j.i = 2 → strip bx' = strip bx) := by
    intro _ h
    cases h
    exact ⟨hd _, fun _ => rfl, fun _ _ => rfl, fun _ _ _ => rfl, fun _ => rfl⟩
  cases hg : j.g with
  | none => simp only [hg] at h ⊢; exact run h
  | some p =>
    obtain ⟨t, b⟩ := p
    simp only [hg] at h ⊢
    cases ht : e t with
    | val v =>
      cases v with
      | bool b' =>
        simp only [ht] at h ⊢
        by_cases hb : b' = b
        · simp only [if_pos hb] at h ⊢; exact run h
        · simp only [if_neg hb] at h ⊢; exact skip (d := none) h
      | _ => simp [ht] at h
    | und => simp only [ht] at h ⊢; exact skip (d := none) h
    | _ => simp [ht] at h

def indep (p q : J) : Bool :=
  (writesJ p).all (fun t => !(readsJ q).contains t && !(writesJ q).contains t) && (writesJ q).all (fun t => !(readsJ p).contains t) &&
  (memI p.i == 0 || memI q.i == 0 || (memI p.i == 1 && memI q.i == 1) || (memI p.i == 1 && memI q.i == 2) || (memI p.i == 2 && memI q.i == 1))

theorem puts_other : ∀ (u : List (Nat × A)) (e : Env) (t : Nat), (∀ p ∈ u, p.1 ≠ t) → puts u e t = e t
  | [], _, _, _ => rfl
  | (d, x) :: u, e, t, h => by
    show puts u (put d x e) t = e t
    rw [puts_other u _ t fun p hp => h p (by simp [hp])]
    rw [put_at, if_neg]
    intro e'; exact h (d, x) (by simp) e'.symm

theorem puts_same : ∀ (u : List (Nat × A)) (e e' : Env) (t : Nat), (∃ p ∈ u, p.1 = t) → puts u e t = puts u e' t
  | [], _, _, _, h => by simp at h
  | (d, x) :: u, e, e', t, h => by
    show puts u (put d x e) t = puts u (put d x e') t
    by_cases hu : ∃ p ∈ u, p.1 = t
    · exact puts_same u _ _ t hu
    · have hne : ∀ p ∈ u, p.1 ≠ t := fun p hp e => hu ⟨p, hp, e⟩
      rw [puts_other u _ t hne, puts_other u _ t hne]
      obtain ⟨p, hp, hpt⟩ := h
      rcases List.mem_cons.1 hp with rfl | hp
      · simp only at hpt; subst hpt; simp [put_at]
      · exact absurd hpt (hne p hp)

theorem puts_comm (u v : List (Nat × A)) (e : Env) (h : ∀ p ∈ u, ∀ q ∈ v, p.1 ≠ q.1) : puts v (puts u e) = puts u (puts v e) := by
  funext t
  by_cases hu : ∃ p ∈ u, p.1 = t
  · obtain ⟨p, hp, rfl⟩ := hu
    rw [puts_other v _ _ fun q hq e => h p hp q hq e.symm]
    exact puts_same u _ _ _ ⟨p, hp, rfl⟩
  · have hne : ∀ p ∈ u, p.1 ≠ t := fun p hp e => hu ⟨p, hp, e⟩
    rw [puts_other u _ t hne]
    by_cases hv : ∃ q ∈ v, q.1 = t
    · exact puts_same v _ _ _ hv
    · have hne' : ∀ q ∈ v, q.1 ≠ t := fun q hq e => hv ⟨q, hq, e⟩
      rw [puts_other v _ t hne', puts_other v _ t hne', puts_other u _ t hne]

/-- Two that do not touch each other may change places. -/
theorem comm2 (Φ : CallF) (nb : Nat) (p q : J) (h : indep p q = true) (s s1 s2) (h1 : evJ Φ nb p s = some s1) (h2 : evJ Φ nb q s1 = some s2) :
    ∃ t, evJ Φ nb q s = some t ∧ evJ Φ nb p t = some s2 := by
  simp only [indep, Bool.and_eq_true, List.all_eq_true, Bool.not_eq_true', List.contains_eq_mem, decide_eq_false_iff_not, Bool.or_eq_true, beq_iff_eq, decide_eq_true_eq] at h
  obtain ⟨⟨hpq, hqp⟩, hm⟩ := h
  rw [evJ_eff, Option.map_eq_some_iff] at h1 h2
  obtain ⟨⟨u, bx1⟩, e1, rfl⟩ := h1
  obtain ⟨⟨v, bx2⟩, e2, rfl⟩ := h2
  simp only at e2
  obtain ⟨f1, f2, f3, f4, f5⟩ := effJ_facts Φ nb p _ _ _ _ e1
  have hq' : effJ Φ nb q s.1 bx1 = some (v, bx2) := by
    rw [← e2]
    exact effJ_congr Φ nb q bx1 fun t ht => (puts_other u s.1 t fun a ha e => by
      have := (hpq _ (f1 a ha)).1
      exact this (e ▸ ht)).symm
  obtain ⟨g1, g2, g3, g4, g5⟩ := effJ_facts Φ nb q _ _ _ _ hq'
  have hkeys : ∀ a ∈ u, ∀ b ∈ v, a.1 ≠ b.1 := fun a ha b hb e => (hpq _ (f1 a ha)).2 (e ▸ g1 b hb)
  have hp' : ∀ bx, effJ Φ nb p (puts v s.1) bx = effJ Φ nb p s.1 bx := fun bx =>
    effJ_congr Φ nb p bx fun t ht => puts_other v s.1 t fun a ha e => hqp _ (g1 a ha) (e ▸ ht)
  rcases hm with (((hm | hm) | ⟨hm, hm'⟩) | ⟨hm, hm'⟩) | ⟨hm, hm'⟩
  · -- p leaves the boxes alone
    have hb := f2 (by omega)
    subst hb
    refine ⟨(puts v s.1, bx2), by rw [evJ_eff, hq']; rfl, ?_⟩
    rw [evJ_eff, hp', f3 hm bx2]
    simp only [Option.map_some]
    rw [puts_comm u v _ hkeys]
  · have hb := g2 (by omega)
    subst hb
    refine ⟨(puts v s.1, s.2), by rw [evJ_eff, g3 hm s.2]; rfl, ?_⟩
    rw [evJ_eff, hp', e1]
    simp only [Option.map_some]
    rw [puts_comm u v _ hkeys]
  · have hb := f2 (by omega)
    have hb' := g2 (by omega)
    subst hb
    subst hb'
    refine ⟨(puts v s.1, s.2), by rw [evJ_eff, hq']; rfl, ?_⟩
    rw [evJ_eff, hp', e1]
    simp only [Option.map_some]
    rw [puts_comm u v _ hkeys]
  · -- p reads, q takes a right
    have hb := f2 (by omega)
    subst hb
    refine ⟨(puts v s.1, bx2), by rw [evJ_eff, hq']; rfl, ?_⟩
    rw [evJ_eff, hp', f4 hm bx2 (g5 hm')]
    simp only [Option.map_some]
    rw [puts_comm u v _ hkeys]
  · have hb := g2 (by omega)
    subst hb
    refine ⟨(puts v s.1, s.2), by rw [evJ_eff, g4 hm' s.2 (f5 hm).symm]; rfl, ?_⟩
    rw [evJ_eff, hp', e1]
    simp only [Option.map_some]
    rw [puts_comm u v _ hkeys]

theorem evJs_append (Φ : CallF) (nb : Nat) : ∀ (l m : List J) (s), evJs Φ nb (l ++ m) s = (evJs Φ nb l s).bind (evJs Φ nb m)
  | [], _, _ => rfl
  | j :: l, m, s => by
    simp only [List.cons_append, evJs]
    cases evJ Φ nb j s with
    | none => rfl
    | some s' => exact evJs_append Φ nb l m s'

/-- What may change places where K holds; whatever runs keeps K. -/
structure Comm (Φ : CallF) (nb : Nat) (K : Env × Bx → Prop) (ind : J → J → Bool) (S : J → Prop) : Prop where
  comm : ∀ p q, S p → S q → ind p q = true → ∀ s s1 s2, K s → evJ Φ nb p s = some s1 → evJ Φ nb q s1 = some s2 → ∃ t, evJ Φ nb q s = some t ∧ evJ Φ nb p t = some s2
  keep : ∀ p, S p → ∀ s s1, K s → evJ Φ nb p s = some s1 → K s1
theorem comm_plain (Φ : CallF) (nb : Nat) : Comm Φ nb (fun _ => True) indep (fun _ => True) :=
  ⟨fun p q _ _ h s s1 s2 _ => comm2 Φ nb p q h s s1 s2, fun _ _ _ _ _ _ => trivial⟩

/-- One moves behind all that it does not touch. -/
theorem move_back {Φ : CallF} {nb : Nat} {K : Env × Bx → Prop} {ind : J → J → Bool} {S : J → Prop} (hC : Comm Φ nb K ind S) (p : J) (hp : S p) : ∀ (l : List J) (s s2), (∀ q ∈ l, S q ∧ ind p q = true) → K s → evJs Φ nb (p :: l) s = some s2 → evJs Φ nb (l ++ [p]) s = some s2
  | [], s, s2, _, _, h => h
  | q :: l, s, s2, hi, hK, h => by
    simp only [evJs] at h
    cases h1 : evJ Φ nb p s with
    | none => simp [h1] at h
    | some s1 =>
      simp only [h1] at h
      cases h2 : evJ Φ nb q s1 with
      | none => simp [h2] at h
      | some s3 =>
        simp only [h2] at h
        obtain ⟨t, t1, t2⟩ := hC.comm p q hp (hi q (by simp)).1 (hi q (by simp)).2 s s1 s3 hK h1 h2
        simp only [List.cons_append, evJs, t1]
        exact move_back hC p hp l t s2 (fun x hx => hi x (by simp [hx])) (hC.keep q (hi q (by simp)).1 _ _ hK t1) (by simp only [evJs, t2]; exact h)

/-- Any order that keeps what must be kept. -/
theorem perm_sound {Φ : CallF} {nb : Nat} {K : Env × Bx → Prop} {ind : J → J → Bool} {S : J → Prop} (hC : Comm Φ nb K ind S) (js : Nat → J) : ∀ (I : List Nat) (σ : List Nat) (s s2), (∀ x ∈ I, S (js x)) → K s → I.Pairwise (· < ·) → σ.Nodup → (∀ x, x ∈ I ↔ x ∈ σ) →
    σ.Pairwise (fun q p => ¬ (p < q ∧ ind (js p) (js q) = false)) → evJs Φ nb (I.map js) s = some s2 → evJs Φ nb (σ.map js) s = some s2
  | [], σ, s, s2, _, _, _, _, hm, _, h => by
    have : σ = [] := by
      cases σ with
      | nil => rfl
      | cons x σ => exact absurd ((hm x).2 (by simp)) (by simp)
    subst this
    exact h
  | p :: I, σ, s, s2, hS, hK, hI, hn, hm, hσ, h => by
    obtain ⟨σ1, σ2, rfl⟩ := List.append_of_mem ((hm p).1 (by simp))
    rw [List.pairwise_cons] at hI
    have hn' := hn
    rw [List.nodup_append] at hn'
    obtain ⟨n1, n2, n3⟩ := hn'
    rw [List.nodup_cons] at n2
    have hσ' := hσ
    rw [List.pairwise_append] at hσ'
    obtain ⟨q1, q2, q3⟩ := hσ'
    have hind : ∀ q ∈ σ1, S (js q) ∧ ind (js p) (js q) = true := by
      intro q hq
      have hqI : q ∈ p :: I := (hm q).2 (by simp [hq])
      refine ⟨hS q hqI, ?_⟩
      have hne : q ≠ p := fun e => n3 q hq p (by simp) e
      have hlt : p < q := hI.1 q ((List.mem_cons.1 hqI).resolve_left hne)
      have := q3 q hq p (by simp)
      cases hi : ind (js p) (js q) with
      | true => rfl
      | false => exact absurd ⟨hlt, hi⟩ this
    simp only [List.map_cons, evJs] at h
    cases h1 : evJ Φ nb (js p) s with
    | none => simp [h1] at h
    | some s1 =>
      simp only [h1] at h
      have ih := perm_sound hC js I (σ1 ++ σ2) s1 s2 (fun x hx => hS x (by simp [hx])) (hC.keep _ (hS p (by simp)) _ _ hK h1) hI.2 (by
          rw [List.nodup_append]; exact ⟨n1, n2.2, fun a ha b hb => n3 a ha b (by simp [hb])⟩)
        (by
          intro x
          constructor
          · intro hx
            have := (hm x).1 (by simp [hx])
            have hne : x ≠ p := by rintro rfl; exact absurd (hI.1 x hx) (Nat.lt_irrefl _)
            simp only [List.mem_append, List.mem_cons] at this ⊢
            rcases this with h | h | h
            · exact .inl h
            · exact absurd h hne
            · exact .inr h
          · intro hx
            have hx' : x ∈ σ1 ++ p :: σ2 := by
              simp only [List.mem_append, List.mem_cons] at hx ⊢
              rcases hx with h | h
              · exact .inl h
              · exact .inr (.inr h)
            have hne : x ≠ p := by
              rintro rfl
              rcases List.mem_append.1 hx with h | h
              · exact n3 x h x (by simp) rfl
              · exact n2.1 h
            exact (List.mem_cons.1 ((hm x).2 hx')).resolve_left hne)
        (hσ.sublist (List.Sublist.append (List.Sublist.refl _) (List.sublist_cons_self _ _))) h
      rw [List.map_append, evJs_append] at ih
      rw [List.map_append, List.map_cons, show σ1.map js ++ js p :: σ2.map js = (σ1.map js ++ [js p]) ++ σ2.map js by simp, evJs_append]
      cases hm1 : evJs Φ nb (σ1.map js) s1 with
      | none => simp [hm1] at ih
      | some s3 =>
        rw [move_back hC (js p) (hS p (by simp)) (σ1.map js) s s3 (by simpa using hind) hK (by simp only [evJs, h1]; exact hm1)]
        rw [hm1] at ih
        exact ih

/-! ### boxes that are known to be different -/
def rootOf (cl : List (Nat × Nat)) (x : Nat) : Nat := match cl.find? fun p => p.1 == x with
  | some p => p.2
  | none => x
def ptrS (j : J) : Option Nat := match j.i with
  | .store _ (.t x) _ => some x
  | _ => none
def ptrL (j : J) : Option Nat := match j.i with
  | .load _ _ (.t x) false => some x
  | _ => none
def apart (cl ne : List (Nat × Nat)) (x y : Nat) : Bool := ne.any fun p => (p.1 == rootOf cl x && p.2 == rootOf cl y) || (p.2 == rootOf cl x && p.1 == rootOf cl y)
def slotsOk (p q : J) : Bool := (writesJ p).all (fun t => !(readsJ q).contains t && !(writesJ q).contains t) && (writesJ q).all (fun t => !(readsJ p).contains t)
def indepD (cl ne : List (Nat × Nat)) (p q : J) : Bool := indep p q || (slotsOk p q && (match ptrS p, ptrL q with
  | some x, some y => apart cl ne x y
  | _, _ => match ptrL p, ptrS q with
    | some y, some x => apart cl ne x y
    | _, _ => false))
/-- Roots are not written; what has a root is written from it alone. -/
def rootJ (cl ne : List (Nat × Nat)) (j : J) : Bool := (writesJ j).all fun t => !(cl.any fun p => p.2 == t) && !(ne.any fun p => p.1 == t || p.2 == t) && (match cl.find? fun p => p.1 == t with
  | some p => match j with
    | ⟨some d, .fa _ (.t b), none⟩ => d == t && b == p.2
    | _ => false
  | none => true)
structure KD (cl ne : List (Nat × Nat)) (s : Env × Bx) : Prop where
  root : ∀ y p, cl.find? (fun p => p.1 == y) = some p → ∀ r o, s.1 y = .ptr r o → ∃ o', s.1 p.2 = .ptr r o'
  ne : ∀ p ∈ ne, ∃ r o r' o', s.1 p.1 = .ptr r o ∧ s.1 p.2 = .ptr r' o' ∧ r ≠ r'
theorem KD.start {cl ne : List (Nat × Nat)} {s : Env × Bx} (h : neOk ne s.1 = true) (hd : (ne.all fun p => !(cl.any fun q => q.1 == p.1) && !(cl.any fun q => q.1 == p.2)) = true) : KD cl ne (clr cl s.1, s.2) := by
  refine ⟨fun y p hp r o hy => ?_, fun p hp => ?_⟩
  · have hm := List.mem_of_find?_eq_some hp
    have hq := List.find?_some hp
    have : clr cl s.1 y = .any := by
      unfold clr
      rw [if_pos (List.any_eq_true.2 ⟨p, hm, hq⟩)]
    have hy : clr cl s.1 y = .ptr r o := hy
    rw [this] at hy; cases hy
  · have h1 := List.all_eq_true.1 h p hp
    have h2 := List.all_eq_true.1 hd p hp
    simp only [Bool.and_eq_true, Bool.not_eq_true'] at h2
    have e1 : clr cl s.1 p.1 = s.1 p.1 := by unfold clr; rw [if_neg (by simp [h2.1])]
    have e2 : clr cl s.1 p.2 = s.1 p.2 := by unfold clr; rw [if_neg (by simp [h2.2])]
    simp only [e1, e2]
    split at h1
    · rename_i r o r' o' h3 h4
      exact ⟨r, o, r', o', h3, h4, by simpa using h1⟩
    · cases h1
theorem KD.ptr {cl ne : List (Nat × Nat)} {s : Env × Bx} (h : KD cl ne s) {x r o : Nat} (hx : s.1 x = .ptr r o) : ∃ o', s.1 (rootOf cl x) = .ptr r o' := by
  unfold rootOf
  cases hf : cl.find? fun p => p.1 == x with
  | none => exact ⟨o, hx⟩
  | some p => exact h.root x p hf r o hx
theorem KD.apart {cl ne : List (Nat × Nat)} {s : Env × Bx} (h : KD cl ne s) {x y r o r' o' : Nat} (hx : s.1 x = .ptr r o) (hy : s.1 y = .ptr r' o') (ha : apart cl ne x y = true) : r ≠ r' := by
  obtain ⟨o1, h1⟩ := h.ptr hx
  obtain ⟨o2, h2⟩ := h.ptr hy
  obtain ⟨p, hp, hh⟩ := List.any_eq_true.1 ha
  obtain ⟨r1, _, r2, _, k1, k2, k3⟩ := h.ne p hp
  simp only [Bool.or_eq_true, Bool.and_eq_true, beq_iff_eq] at hh
  rcases hh with ⟨e1, e2⟩ | ⟨e1, e2⟩
  · rw [e1, h1] at k1; rw [e2, h2] at k2
    cases k1; cases k2; exact k3
  · rw [e1, h1] at k2; rw [e2, h2] at k1
    cases k1; cases k2; exact fun e => k3 e.symm
theorem evJ_keys {Φ : CallF} {nb : Nat} {j : J} {s s1 : Env × Bx} (h : evJ Φ nb j s = some s1) (t : Nat) (ht : t ∉ writesJ j) : s1.1 t = s.1 t := by
  rw [evJ_eff, Option.map_eq_some_iff] at h
  obtain ⟨⟨u, bx1⟩, e1, rfl⟩ := h
  obtain ⟨f1, -⟩ := effJ_facts Φ nb j _ _ _ _ e1
  exact puts_other u _ t fun p hp e => ht (e ▸ f1 p hp)
theorem KD.keep {Φ : CallF} {nb : Nat} {cl ne : List (Nat × Nat)} {j : J} (hj : rootJ cl ne j = true) {s s1 : Env × Bx} (h : KD cl ne s) (h1 : evJ Φ nb j s = some s1) : KD cl ne s1 := by
  have hw : ∀ t ∈ writesJ j, _ := List.all_eq_true.1 hj
  have hroot : ∀ p ∈ cl, p.2 ∉ writesJ j := fun p hp ht => by
    have := hw _ ht
    simp only [Bool.and_eq_true, Bool.not_eq_true', List.any_eq_false] at this
    have := this.1.1 p hp
    simp at this
  have hne : ∀ p ∈ ne, p.1 ∉ writesJ j ∧ p.2 ∉ writesJ j := fun p hp => ⟨fun ht => by
    have := hw _ ht
    simp only [Bool.and_eq_true, Bool.not_eq_true', List.any_eq_false] at this
    have := this.1.2 p hp
    simp at this, fun ht => by
    have := hw _ ht
    simp only [Bool.and_eq_true, Bool.not_eq_true', List.any_eq_false] at this
    have := this.1.2 p hp
    simp at this⟩
  refine ⟨fun y p hp r o hy => ?_, fun p hp => ?_⟩
  · have hm := List.mem_of_find?_eq_some hp
    rw [evJ_keys h1 _ (hroot p hm)]
    by_cases hyw : y ∈ writesJ j
    · have hq := (by have := hw y hyw; simp only [Bool.and_eq_true] at this; exact this.2)
      rw [hp] at hq
      simp only at hq
      split at hq
      · rename_i d off b
        simp only [Bool.and_eq_true, beq_iff_eq] at hq
        obtain ⟨rfl, rfl⟩ := hq
        unfold evJ evRun at h1
        simp only [evI, O.ev] at h1
        split at h1
        · rename_i v ups bx' he
          simp only [Option.some.injEq] at h1
          subst h1
          simp only [putO] at hy
          split at he
          · rename_i r2 o2 e2
            simp only [Option.some.injEq, Prod.mk.injEq] at he
            obtain ⟨rfl, rfl, rfl⟩ := he
            simp only [put_at, if_true, A.ptr.injEq] at hy
            rw [e2]; exact ⟨o2, by rw [hy.1]⟩
          · rename_i l2 e2
            simp only [Option.some.injEq, Prod.mk.injEq] at he
            obtain ⟨rfl, rfl, rfl⟩ := he
            simp [put_at] at hy
          · rename_i b2 o2 l2 e2
            simp only [Option.some.injEq, Prod.mk.injEq] at he
            obtain ⟨rfl, rfl, rfl⟩ := he
            simp [put_at] at hy
          · cases he
        · cases h1
      · cases hq
    · rw [evJ_keys h1 _ hyw] at hy
      exact h.root y p hp r o hy
  · obtain ⟨a1, a2⟩ := hne p hp
    rw [evJ_keys h1 _ a1, evJ_keys h1 _ a2]
    exact h.ne p hp
theorem store_eff {Φ : CallF} {nb : Nat} {j : J} {e : Env} {bx bx1 : Bx} {u} {x : Nat} (hx : ptrS j = some x) (h : effJ Φ nb j e bx = some (u, bx1)) : bx1 = bx ∨ ∃ r o c, e x = .ptr r o ∧ bx1 = bx.set r c := by
  unfold ptrS at hx
  split at hx
  · rename_i sz x' v hi
    cases hx
    have run : ∀ {q : A × List (Nat × A) × Bx}, evI Φ nb j.i e bx = some q → ∃ r o c, e x = .ptr r o ∧ q.2.2 = bx.set r c := by
      intro q hq
      rw [hi] at hq
      simp only [evI] at hq
      have hxx : O.ev e (.t x) = e x := rfl
      rw [hxx] at hq
      cases hex : e x with
      | ptr r o =>
        rw [hex] at hq
        cases hbr : bx[r]? with
        | none => simp only [hbr] at hq; cases hq
        | some cs =>
          simp only [hbr] at hq
          by_cases hc : (v.ev e).cells.length = sz ∧ o + sz ≤ cs.length ∧ (v.ev e).cells.all A.isC = true ∧ (nb ≤ r ∨ (v.ev e).cells.all A.isV = true)
          · rw [if_pos hc] at hq; cases hq; exact ⟨r, o, _, rfl, rfl⟩
          · rw [if_neg hc] at hq; cases hq
      | _ => rw [hex] at hq; cases hq
    unfold effJ at h
    simp only at h
    have fin : (match evI Φ nb j.i e bx with
        | some (v, ups, bx') => some (ups ++ (match j.d with | some d => [(d, v)] | none => []), bx')
        | none => none) = some (u, bx1) → bx1 = bx ∨ ∃ r o c, e x = .ptr r o ∧ bx1 = bx.set r c := by
      intro h
      cases he : evI Φ nb j.i e bx with
      | none => simp [he] at h
      | some q =>
        obtain ⟨v, ups, b2⟩ := q
        simp only [he, Option.some.injEq, Prod.mk.injEq] at h
        obtain ⟨r, o, c, k1, k2⟩ := run he
        exact .inr ⟨r, o, c, k1, h.2 ▸ k2⟩
    split at h
    · exact fin h
    · split at h
      · split at h
        · exact fin h
        · cases h; exact .inl rfl
      · cases h; exact .inl rfl
      · cases h
  · cases hx
theorem load_eff {Φ : CallF} {nb : Nat} {j : J} {e : Env} {bx bx1 : Bx} {u} {y : Nat} (hy : ptrL j = some y) (h : effJ Φ nb j e bx = some (u, bx1)) :
    bx1 = bx ∧ ∀ bx2 : Bx, (∀ r o, e y = .ptr r o → bx2[r]? = bx[r]?) → effJ Φ nb j e bx2 = some (u, bx2) := by
  unfold ptrL at hy
  split at hy
  · rename_i sz ag y' hi
    cases hy
    have run : ∀ {q : A × List (Nat × A) × Bx}, evI Φ nb j.i e bx = some q → q.2.2 = bx ∧ ∀ bx2 : Bx, (∀ r o, e y = .ptr r o → bx2[r]? = bx[r]?) → evI Φ nb j.i e bx2 = some (q.1, q.2.1, bx2) := by
      intro q hq
      rw [hi] at hq ⊢
      simp only [evI] at hq ⊢
      have hyy : O.ev e (.t y) = e y := rfl
      rw [hyy] at hq
      simp only [hyy]
      split at hq
      · rename_i r o e1
        split at hq
        · rename_i cs hcs
          split at hq
          · split at hq
            · cases hq
              refine ⟨rfl, fun bx2 h2 => ?_⟩
              rw [h2 r o e1, hcs]
              rename_i ha hb
              simp [ha, hb]
            · cases hq
          · split at hq
            · cases hq
              refine ⟨rfl, fun bx2 h2 => ?_⟩
              rw [h2 r o e1, hcs]
              rename_i ha _ _ hb
              simp [ha, hb]
            · cases hq
        · cases hq
      · rename_i l e1
        split at hq
        · split at hq
          · cases hq
            rename_i ha hb
            refine ⟨rfl, fun bx2 _ => ?_⟩
            simp [ha, hb]
          · cases hq
        · split at hq
          · cases hq
            rename_i ha _ _ _
            refine ⟨rfl, fun bx2 _ => ?_⟩
            simp [ha]
          · cases hq
      · rename_i b0 o0 l e1
        split at hq
        · split at hq
          · cases hq
            rename_i ha hb
            refine ⟨rfl, fun bx2 _ => ?_⟩
            simp [ha, hb]
          · cases hq
        · split at hq
          · cases hq
            rename_i ha _ _ _
            refine ⟨rfl, fun bx2 _ => ?_⟩
            simp [ha]
          · cases hq
      · cases hq
    have fin : (match evI Φ nb j.i e bx with
        | some (v, ups, bx') => some (ups ++ (match j.d with | some d => [(d, v)] | none => []), bx')
        | none => none) = some (u, bx1) → bx1 = bx ∧ ∀ bx2 : Bx, (∀ r o, e y = .ptr r o → bx2[r]? = bx[r]?) → (match evI Φ nb j.i e bx2 with
        | some (v, ups, bx') => some (ups ++ (match j.d with | some d => [(d, v)] | none => []), bx')
        | none => none : Option (List (Nat × A) × Bx)) = some (u, bx2) := by
      intro h
      cases he : evI Φ nb j.i e bx with
      | none => simp [he] at h
      | some q =>
        obtain ⟨v, ups, b2⟩ := q
        simp only [he, Option.some.injEq, Prod.mk.injEq] at h
        obtain ⟨k1, k2⟩ := run he
        refine ⟨h.2 ▸ k1, fun bx2 h2 => ?_⟩
        rw [k2 bx2 h2]
        simp [h.1]
    unfold effJ at h ⊢
    simp only at h ⊢
    cases hg : j.g with
    | none => simp only [hg] at h ⊢; exact fin h
    | some p =>
      obtain ⟨t, b⟩ := p
      simp only [hg] at h ⊢
      cases ht : e t with
      | val v =>
        cases v with
        | bool b' =>
          simp only [ht] at h ⊢
          by_cases hb : b' = b
          · simp only [if_pos hb] at h ⊢; exact fin h
          · simp only [if_neg hb] at h ⊢; cases h; exact ⟨rfl, fun _ _ => rfl⟩
        | _ => simp [ht] at h
      | und => simp only [ht] at h ⊢; cases h; exact ⟨rfl, fun _ _ => rfl⟩
      | _ => simp [ht] at h
  · cases hy
theorem comm_apart (Φ : CallF) (nb : Nat) (cl ne : List (Nat × Nat)) : Comm Φ nb (KD cl ne) (indepD cl ne) (fun j => rootJ cl ne j = true) := by
  refine ⟨fun p q _ _ hi s s1 s2 hK h1 h2 => ?_, fun p hp s s1 hK h => hK.keep hp h⟩
  unfold indepD at hi
  rw [Bool.or_eq_true] at hi
  rcases hi with hi | hi
  · exact comm2 Φ nb p q hi s s1 s2 h1 h2
  rw [Bool.and_eq_true] at hi
  obtain ⟨hs, hi⟩ := hi
  simp only [slotsOk, Bool.and_eq_true, List.all_eq_true, Bool.not_eq_true', List.contains_eq_mem, decide_eq_false_iff_not] at hs
  obtain ⟨hpq, hqp⟩ := hs
  rw [evJ_eff, Option.map_eq_some_iff] at h1 h2
  obtain ⟨⟨u, bx1⟩, e1, rfl⟩ := h1
  obtain ⟨⟨v, bx2⟩, e2, rfl⟩ := h2
  simp only at e2
  obtain ⟨f1, -⟩ := effJ_facts Φ nb p _ _ _ _ e1
  have hq' : effJ Φ nb q s.1 bx1 = some (v, bx2) := by
    rw [← e2]
    exact effJ_congr Φ nb q bx1 fun t ht => (puts_other u s.1 t fun a ha e => (hpq _ (f1 a ha)).1 (e ▸ ht)).symm
  obtain ⟨g1, -⟩ := effJ_facts Φ nb q _ _ _ _ hq'
  have hkeys : ∀ a ∈ u, ∀ b ∈ v, a.1 ≠ b.1 := fun a ha b hb e => (hpq _ (f1 a ha)).2 (e ▸ g1 b hb)
  have hp' : ∀ bx, effJ Φ nb p (puts v s.1) bx = effJ Φ nb p s.1 bx := fun bx =>
    effJ_congr Φ nb p bx fun t ht => puts_other v s.1 t fun a ha e => hqp _ (g1 a ha) (e ▸ ht)
  have setget : ∀ (bx : Bx) (r r' : Nat) c, r ≠ r' → (bx.set r c)[r']? = bx[r']? := fun bx r r' c h => List.getElem?_set_ne h
  split at hi
  · rename_i x y hx hy
    obtain ⟨k1, k2⟩ := load_eff hy hq'
    subst k1
    refine ⟨(puts v s.1, s.2), ?_, ?_⟩
    · rw [evJ_eff, k2 s.2 fun r' o' hy' => ?_]
      · rfl
      · rcases store_eff hx e1 with rfl | ⟨r, o, c, hx', rfl⟩
        · rfl
        · exact (setget _ _ _ _ (hK.apart hx' hy' hi)).symm
    · rw [evJ_eff, hp', e1]
      simp only [Option.map_some]
      rw [puts_comm u v _ hkeys]
  · split at hi
    · rename_i y x hy hx
      obtain ⟨k1, k2⟩ := load_eff hy e1
      subst k1
      refine ⟨(puts v s.1, bx2), by rw [evJ_eff, hq']; rfl, ?_⟩
      rw [evJ_eff, hp', k2 bx2 fun r' o' hy' => ?_]
      · simp only [Option.map_some]
        rw [puts_comm u v _ hkeys]
      · rcases store_eff hx hq' with rfl | ⟨r, o, c, hx', rfl⟩
        · rfl
        · exact setget _ _ _ _ (hK.apart hx' hy' hi)
    · cases hi
end Go.Proofs.YtkohggddaheefaaEv
