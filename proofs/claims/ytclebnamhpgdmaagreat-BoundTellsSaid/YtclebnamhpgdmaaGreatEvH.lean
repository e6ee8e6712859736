/- Each operation does what the evaluator says: slices, calls, and all together. -/
import Derived.Test.YtclebnamhpgdmaaGreatEvG
namespace Go.Proofs.YtclebnamhpgdmaaGreatEv
open Go Go.RowKit
set_option linter.unusedSimpArgs false
set_option linter.unusedVariables false

variable {P : Program} {F : Fr} {lim μ : Nat → Nat} {own : Nat → Pl} {s : Env × Bx} {a : Act} {w : World} {o : Oper} {next : Act → World → Prop} {Q : Exit → Act → World → Prop}
  {x : A} {ups : List (Nat × A)} {bx' : Bx} {Φ : CallF}

/-- The cells of a slice, as a list. -/
theorem sl_cells {v : Value} {l : List A} {n g : Nat} (h : RepV w lim v (.sl l n g)) :
    ∃ (base : Option Addr) (c : Nat) (cs : List Value), v = .slice base n c ∧ n ≤ c ∧ cs.length = l.length ∧ (∀ i (hi : i < l.length), RepV w lim (cs.getD i undef) l[i]) ∧
      (∀ sz, l.length = n * sz → (Builtin.firstCells sz n v).run P w = .ok cs.toArray w) ∧ (∀ w' : World, w'.heap = w.heap → ∀ sz, l.length = n * sz → (Builtin.firstCells sz n v).run P w' = .ok cs.toArray w') ∧
      ((l = [] ∧ n = 0 ∧ c = 0 ∧ (base = none ∨ (g ≠ 1 ∧ g ≠ 2 ∧ g ≠ 3 ∧ ∃ b q s, base = some ⟨b, q, some s⟩))) ∨ ∃ b q, base = some ⟨b, q, none⟩ ∧ (g = 1 → c = n) ∧ (∀ i, i < l.length → w.cell? ⟨b, q + i, none⟩ = some (cs.getD i undef)) ∧ (∀ i, i < l.length → q + i < lim b)) := by
  cases h with
  | nil g h4 => exact ⟨none, 0, [], rfl, Nat.le_refl _, rfl, fun i hi => by simp at hi, fun sz _ => run_firstCells_none ..,  fun w' _ sz _ => run_firstCells_none .., .inl ⟨rfl, rfl, rfl, .inl rfl⟩⟩
  | emp b q s g h3 => exact ⟨some ⟨b, q, some s⟩, 0, [], rfl, Nat.le_refl _, rfl, fun i hi => by simp at hi, fun sz _ => run_firstCells_some (P := P) w sz 0 _ 0 0 [] (by simp) (fun j v hj => by simp at hj), fun w' _ sz _ => run_firstCells_some (P := P) w' sz 0 _ 0 0 [] (by simp) (fun j v hj => by simp at hj), .inl ⟨rfl, rfl, rfl, .inr ⟨h3.1, h3.2.1, h3.2.2, b, q, s, rfl⟩⟩⟩
  | sl b q n c l g vs hn hg h3 hc hl hr =>
    have hgd : ∀ i, i < l.length → ((List.range l.length).map vs).getD i undef = vs i := by
      intro i hi
      rw [List.getD_eq_getElem?_getD, List.getElem?_map, List.getElem?_range hi]; rfl
    have hfc : ∀ w' : World, w'.heap = w.heap → ∀ sz, l.length = n * sz → (Builtin.firstCells sz n (.slice (some ⟨b, q, none⟩) n c)).run P w' = .ok ((List.range l.length).map vs).toArray w' := by
      intro w' hw sz hsz
      refine run_firstCells_some (P := P) w' sz n ⟨b, q, none⟩ n c ((List.range l.length).map vs) (by simpa using hsz) (fun j v hj => ?_)
      have hj' : j < l.length := by
        rcases Nat.lt_or_ge j l.length with h' | h'
        · exact h'
        · simp [h'] at hj
      rw [Addr.add_lit]
      rw [List.getElem?_map, List.getElem?_range hj'] at hj
      cases hj
      rw [cell?_of_heap (w := w) (by rw [hw])]
      exact hc j hj'
    exact ⟨_, c, (List.range l.length).map vs, rfl, hn, by simp, fun i hi => by rw [hgd i hi]; exact hr i hi, fun sz hsz => hfc w rfl sz hsz, hfc,
      .inr ⟨b, q, rfl, hg, fun i hi => by rw [hgd i hi]; exact hc i hi, hl⟩⟩

/-- What an append takes over. -/
theorem src_cells {v : Value} {y : A} {l2 : List A} {n2' : Nat} {bx : Bx} (hb : BoxRep w lim μ bx) (h : Rep w lim μ bx.length v y) (ha : asList bx y = some (l2, n2')) :
    ∃ (base : Option Addr) (c : Nat) (cs : List Value), v = .slice base n2' c ∧ cs.length = l2.length ∧ (∀ i (hi : i < l2.length), RepV w lim (cs.getD i undef) l2[i]) ∧
      (∀ w' : World, w'.heap = w.heap → ∀ sz, l2.length = n2' * sz → (Builtin.firstCells sz n2' v).run P w' = .ok cs.toArray w') := by
  unfold asList at ha
  split at ha
  · rename_i l n g
    cases ha
    obtain ⟨base, c, cs, ev, hnc, hcl, hcr, _, hfc, _⟩ := sl_cells (P := P) h.toSl
    exact ⟨base, c, cs, ev, hcl, hcr, hfc⟩
  · rename_i r n z
    split at ha
    · rename_i bs hbs
      split at ha
      · rename_i hcond
        obtain ⟨hle, hall⟩ := hcond
        cases ha
        obtain ⟨c, ev, hnc, hr⟩ := h.toBs
        rw [List.getElem?_eq_getElem hr] at hbs
        cases hbs
        obtain ⟨row, t, hh, hs, hc⟩ := hb.row r hr
        have hlen : ((bx[r].take (n2' * z)).map A.norm1).length = n2' * z := by simp; omega
        refine ⟨_, c, (List.range (n2' * z)).map fun i => row.getD i undef, ev, by rw [hlen]; simp, fun i hi => ?_, fun w' hw sz hsz => ?_⟩
        · rw [hlen] at hi
          rw [List.getElem_map, List.getElem_take]
          have e : ((List.range (n2' * z)).map fun i => row.getD i undef).getD i undef = row.getD i undef := by
            rw [List.getD_eq_getElem?_getD, List.getElem?_map, List.getElem?_range hi]; rfl
          rw [e]
          have hV := List.all_eq_true.1 hall (bx[r][i]'(by omega)) (by
            rw [List.mem_take_iff_getElem]; exact ⟨i, by omega, rfl⟩)
          exact ((hc i (by omega)).isV hV).norm1
        · rw [hlen] at hsz
          rw [ev]
          refine run_firstCells_some (P := P) w' sz n2' ⟨μ r, 0, none⟩ n2' c _ (by simpa using hsz) (fun j v hj => ?_)
          have hj' : j < n2' * z := by
            rcases Nat.lt_or_ge j (n2' * z) with h' | h'
            · exact h'
            · simp [h'] at hj
          rw [Addr.add_lit, Nat.zero_add]
          rw [List.getElem?_map, List.getElem?_range hj'] at hj
          cases hj
          rw [cell?_of_heap (w := w) (by rw [hw])]
          exact cell_of_row hh (by omega)
      · cases ha
    · cases ha
  · cases ha

theorem app_grow (t u ty e : TypeId) (i : TypeInfo) (z : Value) (d : TypeDesc) (ht : P.underlying t = some (.slice e)) (hu : P.underlying u = some d) (hd : ∃ e', d = .slice e') (hi : P.info? e = some i) (hz : i.zero = some z)
    (base base2 : Option Addr) (n c n2 c2 : Nat) (olds news : List Value) (ho : ∀ w' : World, w'.heap = w.heap → (Builtin.firstCells i.size n (.slice base n c)).run P w' = .ok olds.toArray w')
    (hn : ∀ w' : World, w'.heap = w.heap → (Builtin.firstCells i.size n2 (.slice base2 n2 c2)).run P w' = .ok news.toArray w') (hg : c < n + n2) (hb : (n + n2) * i.bytes ≤ 70368744177664) (hb0 : 0 < i.bytes) :
    (Builtin.append_ #[t, u] ty #[.slice base n c, .slice base2 n2 c2]).run P w =
      .ok (.slice (some ⟨w.heap.size, 0, none⟩) (n + n2) (grownCap w (n + n2) c e)) (w.drew.alloc (.cells (olds.toArray ++ news.toArray ++ Builtin.zeroCells z.cells (grownCap w (n + n2) c e - (n + n2))) e)) := by
  obtain ⟨e', rfl⟩ := hd
  have hle : n + n2 ≤ (n + n2) * i.bytes := Nat.le_mul_of_pos_right _ hb0
  have h1 : ¬ (n + n2 ≤ c) := by omega
  have h63' : ¬ (9223372036854775807 < ((n : Int) + (n2 : Int))) := by omega
  have h48 := growslice_fits (bytes := i.bytes) hg (by omega)
  have h48' : ¬ (281474976710656 < Builtin.nextslicecap (n + n2) c * i.bytes) := by omega
  have f1 := ho w.drew rfl
  have f2 := hn w.drew rfl
  simp [Builtin.append_, run_underlying ht, run_underlying hu, sizeOf, typeInfo, zeroValue, hi, hz, Builtin.lenOf, h1, h63', h48', Question.forced, f1, f2, newRow, grownCap]
  congr 2
  apply Array.ext'
  simp [List.append_assoc]

theorem app_room (t u ty e : TypeId) (i : TypeInfo) (d : TypeDesc) (ht : P.underlying t = some (.slice e)) (hu : P.underlying u = some d) (hd : ∃ e', d = .slice e') (hi : P.info? e = some i)
    (b q : Nat) (base2 : Option Addr) (n c n2 c2 : Nat) (news : List Value) (hn : (Builtin.firstCells i.size n2 (.slice base2 n2 c2)).run P w = .ok news.toArray w) (hg : n + n2 ≤ c) (h1 : ∀ v ∈ news, v.oneCell' = true)
    (hc : ∀ j, j < news.length → (w.cell? ⟨b, q + n * i.size + j, none⟩).isSome = true) (hf : ∀ j, j < news.length → w.frozen? ⟨b, q + n * i.size + j, none⟩ = false) :
    (Builtin.append_ #[t, u] ty #[.slice (some ⟨b, q, none⟩) n c, .slice base2 n2 c2]).run P w = .ok (.slice (some ⟨b, q, none⟩) (n + n2) c) (w.setCells b (q + n * i.size) news) := by
  obtain ⟨e', rfl⟩ := hd
  have hst := run_storeCells_cells (P := P) b (q + n * i.size) news 0 w (by simpa using hc) (by simpa using hf) h1
  simp only [Nat.add_zero] at hst
  simp [Builtin.append_, run_underlying ht, run_underlying hu, sizeOf, typeInfo, hi, Builtin.lenOf, hg, hn, Addr.add_lit, hst]

theorem app_room_nil (t u ty e : TypeId) (i : TypeInfo) (d : TypeDesc) (ht : P.underlying t = some (.slice e)) (hu : P.underlying u = some d) (hd : ∃ e', d = .slice e') (hi : P.info? e = some i)
    (base2 : Option Addr) (n c n2 c2 : Nat) (news : List Value) (hn : (Builtin.firstCells i.size n2 (.slice base2 n2 c2)).run P w = .ok news.toArray w) (hg : n + n2 ≤ c) :
    (Builtin.append_ #[t, u] ty #[.slice none n c, .slice base2 n2 c2]).run P w = .ok (.slice none (n + n2) c) w := by
  obtain ⟨e', rfl⟩ := hd
  simp [Builtin.append_, run_underlying ht, run_underlying hu, sizeOf, typeInfo, hi, Builtin.lenOf, hg, hn]

/-- A row beyond its end is written by the only one who may. -/
theorem InvG.grow (h : InvG F lim μ own s a w) {b q n c sz : Nat} {l : List A} {vs : List Value} {cs : Array Value} {t : TypeId} (hfree : FreeB F μ s a w b) (hbase : F.w0.heap.size ≤ b) (hlim : lim b = q + l.length) (hpos : 0 < l.length)
    (hh : w.heap[b]? = some (.cells cs t (0, 0))) :
    InvG F (fun k => if k = b then lim b + vs.length else lim k) μ own s a (w.setCells b (q + l.length) vs) ∧ Ext w lim (w.setCells b (q + l.length) vs) (fun k => if k = b then lim b + vs.length else lim k) := by
  have hext : Ext w lim (w.setCells b (q + l.length) vs) (fun k => if k = b then lim b + vs.length else lim k) := by
    intro b' o v ho hc
    refine ⟨?_, by simp only; split <;> rename_i e; · subst e; omega
                   · exact ho⟩
    by_cases e : b' = b
    · subst e
      rw [World.cell?_setCells_out b' vs (q + l.length) w _ (fun _ _ => .inl (by simp; omega))]
      exact hc
    · rw [cell?_of_heap (setCells_other vs w b (q + l.length) b' e)]; exact hc
  have hnb : ∀ r, r < s.2.length → μ r ≠ b := by
    intro r hr e
    have := h.box.lim0 r hr
    rw [e] at this; omega
  refine ⟨⟨h.defers, h.size, h.nb, h.mu0, h.mub, fun i => (h.env i).mono hext (fun _ _ => rfl) (Nat.le_refl _), ⟨?_, ?_, h.box.inj⟩, ?_, ?_, h.below.trans (.of_below (setCells_below vs w b _ _ hbase)), ?_⟩, hext⟩
  · intro r hr
    obtain ⟨cs1, t1, k1, k2, k3⟩ := h.box.row r hr
    exact ⟨cs1, t1, (setCells_other vs w b _ _ (hnb r hr)).trans k1, k2, fun z hz => (k3 z hz).mono hext (fun _ _ => rfl) (Nat.le_refl _)⟩
  · intro r hr
    show (if μ r = b then _ else _) = 0
    rw [if_neg (hnb r hr)]; exact h.box.lim0 r hr
  · intro i l' n' b' o' c' f1 f2 f3
    obtain ⟨g1, g2, g3, g4, cs1, t1, sz1, g5, g6, g7⟩ := h.flt i l' n' b' o' c' f1 f2 f3
    have hne : b' ≠ b := by rintro rfl; exact hfree.1 i l' n' o' c' f1 f2 f3
    exact ⟨g1, g2, by simp only; rw [if_neg hne]; exact g3, g4, cs1, t1, sz1, (setCells_other vs w b _ _ hne).trans g5, g6, g7⟩
  · intro r z cs1 t1 hr hr' hheap hz l' n' b' o' c' f1 f2 f3
    rw [setCells_other vs w b _ _ (hnb r hr')] at hheap
    obtain ⟨g1, g2, g3, g4, cs2, t2, sz1, g5, g6, g7⟩ := h.flb r z cs1 t1 hr hr' hheap hz l' n' b' o' c' f1 f2 f3
    have hne : b' ≠ b := by rintro rfl; exact hfree.2 r z cs1 t1 l' n' o' c' hr hr' hheap hz f1 f2 f3
    exact ⟨g1, g2, by simp only; rw [if_neg hne]; exact g3, g4, cs2, t2, sz1, (setCells_other vs w b _ _ hne).trans g5, g6, g7⟩
  · intro b' hb'
    show (if b' = b then _ else _) = _
    rw [if_neg (by omega)]; exact h.lim0 b' hb'

/-- The right of an operand that has one. -/
theorem flag_of (h : InvG F lim μ own s a w) {y : Operand} {y' : O} (h1 : toO y = some y') {l : List A} {n b q c : Nat} (e1 : y'.ev s.1 = .sl l n 2) (ev1 : a.eval y = .slice (some ⟨b, q, none⟩) n c) (hc : n < c) :
    FreeB F μ (puts (takeU y' s.1) s.1, s.2) a w b ∧ Flagged w lim F.w0.heap.size b q n c l := by
  cases y' with
  | t k =>
    cases y <;> simp [toO] at h1
    subst h1
    exact (h.take _).2 _ l n b q c rfl e1 ev1 hc
  | c v =>
    exfalso
    simp only [O.ev, cst] at e1
    split at e1
    · cases e1
    · exact n2_cst1 _ _ _ e1
  | f k => cases e1

theorem freeB_mono (h : InvG F lim μ own s a w) {b : Nat} (hf : FreeB F μ s a w b) {w' : World} (hb : Below w.heap.size w w') : FreeB F μ s a w' b := by
  refine ⟨hf.1, fun r z cs t l n o' c hr hr' hh => hf.2 r z cs t l n o' c hr hr' ?_⟩
  rw [← hb.block _ (h.box.lt hr')]; exact hh

theorem s_app {mu : Bool} {y z : Operand} {y' z' : O} {t u e : TypeId} {i : TypeInfo} {d : TypeDesc} {zr : List Value} (h : InvG F lim μ own s a w) (hd : ∀ k, o.dst = some k → k < F.nt)
    (ho : o.op = .call { callee := .builtin .append, args := #[y, z], argTypes := #[t, u] }) (ht : P.underlying t = some (.slice e)) (hu : P.underlying u = some d) (hdd : ∃ e', d = .slice e') (hi : P.info? e = some i) (hz : zeroOf P e = some zr)
    (hsz : 0 < i.size) (hby : 0 < i.bytes) (h1 : toO y = some y') (h2 : toO z = some z') (hk1 : okO F.nt y' = true) (hk2 : okO F.nt z' = true)
    (hev : evI Φ F.nb (.app i.size i.bytes y' z' mu) s.1 s.2 = some (x, ups, bx')) (hn : Goes F o s x ups bx' next) : o.wp P a w next Q := by
  have hy := eval_rep h h1 hk1
  have hzv := eval_rep h h2 hk2
  obtain ⟨i', zv, hi', hzero, hzl, hzlen, hzone⟩ := zero_rep hz
  rw [hi] at hi'; cases hi'
  have hzc : zv.cells.size = i.size := by rw [← hzlen, ← hzl]; simp
  simp only [evI] at hev
  split at hev
  · rename_i l n g l2 n2' e1 e2
    rw [e1] at hy
    split at hev
    · rename_i hcond
      obtain ⟨hg, hl1, hl2, hbytes⟩ := hcond
      obtain ⟨hI, hF⟩ := h.take y'
      obtain ⟨base, c, cs, ev1, hnc, hcl, hcr, _, hfc, hor0⟩ := sl_cells (P := P) hy.toSl
      have hor : (base = none ∧ l = [] ∧ n = 0 ∧ c = 0) ∨ ∃ b q, base = some ⟨b, q, none⟩ ∧ (g = 1 → c = n) ∧ (∀ i, i < l.length → w.cell? ⟨b, q + i, none⟩ = some (cs.getD i undef)) ∧ (∀ i, i < l.length → q + i < lim b) := by
        rcases hor0 with ⟨z1, z2, z3, z4 | ⟨z4, z5, _⟩⟩ | z
        · exact .inl ⟨z4, z1, z2, z3⟩
        · rcases hg with hg | hg <;> simp [hg] at z4 z5
        · exact .inr z
      obtain ⟨base2, c2, cs2, ev2, hcl2, hcr2, hfc2⟩ := src_cells (P := P) h.box hzv e2
      have hfc2w := hfc2 w rfl
      have hones : ∀ v ∈ cs2, v.oneCell' = true := by
        intro v hv
        obtain ⟨j, hj, rfl⟩ := List.getElem_of_mem hv
        have := (hcr2 j (by omega)).one
        rwa [List.getD_eq_getElem?_getD, List.getElem?_eq_getElem hj] at this
      have hrunOf : ∀ {v w'}, (Builtin.append_ #[t, u] o.type #[a.eval y, a.eval z]).run P w = .ok v w' → (execOp a.eval o).run P w = .ok (.value v) w' := by
        intro v w' hr
        refine run_builtin ho fun cs => ?_
        simp [builtin, hr]
      have hget : ∀ j (hj : j < (l ++ l2).length), RepV w lim ((cs ++ cs2).getD j undef) (l ++ l2)[j] := by
        intro j hj
        by_cases hlt : j < l.length
        · rw [List.getElem_append_left hlt]
          have := hcr j hlt
          rwa [List.getD_eq_getElem?_getD, List.getElem?_append_left (by omega), ← List.getD_eq_getElem?_getD]
        · rw [List.getElem_append_right (by omega)]
          have := hcr2 (j - l.length) (by simp at hj; omega)
          rw [List.getD_eq_getElem?_getD, List.getElem?_append_right (by omega), hcl, ← List.getD_eq_getElem?_getD]
          exact this
      have hflagg : ∀ b q, base = some ⟨b, q, none⟩ → n < c → FreeB F μ (puts (takeU y' s.1) s.1, s.2) a w b ∧ Flagged w lim F.w0.heap.size b q n c l := by
        rintro b q rfl hlt
        rcases hg with rfl | rfl
        · rcases hor with ⟨h0, _⟩ | ⟨b', q', _, hg1, _⟩
          · cases h0
          · have := hg1 rfl; omega
        · exact flag_of h h1 e1 ev1 hlt
      -- the new row, where there is no room
      have hgrow : c < n + n2' → ∃ cs0 : Array Value, (Builtin.append_ #[t, u] o.type #[a.eval y, a.eval z]).run P w = .ok (.slice (some ⟨w.drew.heap.size, 0, none⟩) (n + n2') (grownCap w (n + n2') c e)) (w.drew.alloc (.cells cs0 e)) ∧
          cs0.size = grownCap w (n + n2') c e * i.size ∧ n + n2' ≤ grownCap w (n + n2') c e ∧ (∀ j, j < (l ++ l2).length → cs0.getD j undef = (cs ++ cs2).getD j undef) := by
        intro hcg
        have hge := grownCap_ge w (n + n2') c e
        have hr := app_grow (w := w) t u o.type e i zv d ht hu hdd hi hzero base base2 n c n2' c2 cs cs2 (fun w' hw => by rw [← ev1]; exact hfc w' hw _ hl1) (fun w' hw => by rw [← ev2]; exact hfc2 w' hw _ hl2) hcg hbytes hby
        rw [← ev1, ← ev2] at hr
        refine ⟨_, hr, ?_, hge, fun j hj => ?_⟩
        · simp only [Array.size_append, List.size_toArray, size_zeroCells, hzc, hcl, hcl2, hl1, hl2, ← Nat.add_mul]
          congr 1; omega
        · have hj' : j < (cs ++ cs2).length := by simp [hcl, hcl2]; simp at hj; omega
          rw [Array.getD_eq_getD_getElem?, List.getD_eq_getElem?_getD]
          rw [Array.getElem?_append_left (by simpa using hj')]
          simp
      have hI' := (hI.step (lim' := lim) (drew_below w) (fun _ _ => rfl))
      have hlen : (l ++ l2).length = (n + n2') * i.size := by simp [hl1, hl2, Nat.add_mul]
      split at hev
      · -- to be written: a box
        rename_i hmu
        obtain ⟨_, hn0, hn2⟩ := hmu
        cases hev
        subst hn0
        have hl0 : l = [] := by apply List.eq_nil_of_length_eq_zero; simpa using hl1
        subst hl0
        have hc0 : c = 0 := by
          rcases hor with ⟨_, _, _, h0⟩ | ⟨b, q, hb, hg1, _⟩
          · exact h0
          · rcases Nat.eq_zero_or_pos c with h0 | h0
            · exact h0
            · have := (hflagg b q hb h0).2.2.2.1
              simp at this
        obtain ⟨cs0, hr, hsize, hge, hcs0⟩ := hgrow (by omega)
        have key := hI'.newBox0 (cs := cs0) (t := e) (xs := l2.map A.norm1) (by rw [List.length_map, hsize, hl2]; exact Nat.mul_le_mul_right _ (by omega)) (fun j hj => by
            have hj' : j < l2.length := by simpa using hj
            have := hget j (by simpa using hj')
            rw [hcs0 j (by simpa using hj'), List.getElem_map]
            simp only [List.nil_append] at this
            exact .v (this.mono (.of_below (drew_below w) fun _ _ => rfl)).norm1)
          (fun j hj => by rw [List.getElem_map]; exact n2_norm1 _)
        refine wp_value (hrunOf hr) (hn _ _ (key.setO hd ?_ (fun l n b q c e => by cases e)))
        have := RepC.bs (w := w.drew.alloc (.cells cs0 e)) (lim := limBox w.drew lim) (μ := μBox w.drew μ s.2.length) (m := (s.2 ++ [l2.map A.norm1]).length) s.2.length n2' i.size (grownCap w (0 + n2') c e) (by simp) (by omega)
        exact .r (.c (by simpa [μBox] using this))
      · cases hev
        by_cases hroom : n + n2' ≤ c
        · rcases hor with ⟨rfl, rfl, rfl, rfl⟩ | ⟨b, q, rfl, hg1, hc1, hlim1⟩
          · -- nothing onto nothing
            have hn0 : n2' = 0 := by omega
            subst hn0
            have hl20 : l2 = [] := by simpa using hl2
            subst hl20
            have hr := app_room_nil (w := w) t u o.type e i d ht hu hdd hi base2 0 0 0 c2 cs2 (by rw [← ev2]; exact hfc2w _ hl2) (Nat.le_refl _)
            rw [← ev1, ← ev2] at hr
            refine wp_value (hrunOf hr) (hn _ _ (hI.setO hd (.rv (by rw [ev1]; exact RepV.nil 2 (by omega))) (fun l n b q c e' e2' e3' => by rw [ev1] at e2'; cases e2')))
          · have hflag := hflagg b q rfl
            by_cases hn0 : n2' = 0
            · -- nothing is appended
              subst hn0
              have hl20 : l2 = [] := by apply List.eq_nil_of_length_eq_zero; simpa using hl2
              subst hl20
              have hcs2 : cs2 = [] := by apply List.eq_nil_of_length_eq_zero; simpa using hcl2
              subst hcs2
              have hr := app_room (w := w) t u o.type e i d ht hu hdd hi b q base2 n c 0 c2 [] (by rw [← ev2]; exact hfc2w _ hl2) (by simpa using hnc) (by simp) (fun j hj => by simp at hj) (fun j hj => by simp at hj)
              rw [← ev1, ← ev2] at hr
              refine wp_value (hrunOf hr) (hn _ _ ?_)
              simp only [World.setCells, List.append_nil, Nat.add_zero]
              have hR : Rep w lim μ s.2.length (.slice (some ⟨b, q, none⟩) n c) (.sl l n 2) := .rv (.sl b q n c l 2 (fun i => cs.getD i undef) hnc (fun h => by cases h) (by omega) hc1 hlim1 (fun i hi => hcr i hi))
              refine hI.setO hd hR ?_
              intro l' n' b' q' c' f1 f2 f3
              cases f1
              cases f2
              exact hflag f3
            · -- into its own room
              have hlt : n < c := by omega
              obtain ⟨hfree, hbase, hlim, hpos, rcs, rt, sz, hh, hsz1, hsz2⟩ := hflag hlt
              have hn1 : 0 < n := by
                rcases Nat.eq_zero_or_pos n with h0 | h0
                · subst h0; simp at hl1; simp [hl1] at hpos
                · exact h0
              have hszz : sz = i.size := by
                have : n * sz = n * i.size := by omega
                exact Nat.eq_of_mul_eq_mul_left hn1 this
              subst hszz
              have hend : q + l.length + l2.length ≤ rcs.size := by
                rw [hsz2, hl1, hl2, Nat.add_assoc, ← Nat.add_mul]
                have := Nat.mul_le_mul_right i.size hroom
                omega
              have hr := app_room (w := w) t u o.type e i d ht hu hdd hi b q base2 n c n2' c2 cs2 (by rw [← ev2]; exact hfc2w _ hl2) hroom hones
                (fun j hj => by rw [← hl1, cell_of_row hh (by omega)]; rfl) (fun j hj => by simp [World.frozen?, hh])
              rw [← ev1, ← ev2, ← hl1] at hr
              obtain ⟨hG, hext⟩ := hI.grow (sz := i.size) (n := n) (c := c) (vs := cs2) hfree hbase hlim hpos hh
              obtain ⟨cs', k1, k2, k3⟩ := setCells_heap cs2 w rcs rt (0, 0) b (q + l.length) hh
              have hcell : ∀ j, j < (l ++ l2).length → (w.setCells b (q + l.length) cs2).cell? ⟨b, q + j, none⟩ = some ((cs ++ cs2).getD j undef) := by
                intro j hj
                simp only [List.length_append] at hj
                by_cases hjl : j < l.length
                · rw [(hext b (q + j) _ (hlim1 j hjl) (hc1 j hjl)).1]
                  rw [List.getD_eq_getElem?_getD, List.getD_eq_getElem?_getD, List.getElem?_append_left (by omega)]
                · rw [cell_of_row k1 (by omega), k3 _ (by omega), if_pos (by omega)]
                  rw [List.getD_eq_getElem?_getD, List.getD_eq_getElem?_getD, List.getElem?_append_right (by omega)]
                  congr 3
                  omega
              refine wp_value (hrunOf hr) (hn _ _ (hG.setO hd (.rv ?_) ?_))
              · refine .sl b q (n + n2') c (l ++ l2) 2 (fun j => (cs ++ cs2).getD j undef) hroom (fun h => by cases h) (by omega) hcell (fun j hj => ?_) (fun j hj => (hget j hj).mono hext)
                simp only [List.length_append] at hj
                simp; omega
              · intro l' n' b' q' c' f1 f2 f3
                cases f1
                cases f2
                refine ⟨⟨hfree.1, ?_⟩, hbase, ?_, by simp; omega, cs', rt, i.size, k1, by simp [hl1, hl2, Nat.add_mul], by rw [k2, hsz2]⟩
                · intro r z cs1 t1 l' n' o' c' hr' hr'' hheap hz f1 f2 f3
                  have hne : μ r ≠ b := by
                    intro e'
                    have := h.box.lim0 r hr''
                    rw [e'] at this; omega
                  rw [setCells_other cs2 w b _ _ hne] at hheap
                  exact hfree.2 r z cs1 t1 l' n' o' c' hr' hr'' hheap hz f1 f2 f3
                · simp; omega
        · -- into a new row
          obtain ⟨cs0, hr, hsize, hge, hcs0⟩ := hgrow (by omega)
          have key := hI'.newRow (.cells cs0 e) (l ++ l2).length
          refine wp_value (hrunOf hr) (hn _ _ (key.setO hd (.rv ?_) ?_))
          · refine rep_row (w := w.drew) (by rw [hsize, hlen]; exact Nat.mul_le_mul_right _ hge) (Nat.le_refl _) hge (fun h => by cases h) (by omega) (fun j hj => ?_)
            rw [hcs0 j hj]
            exact (hget j hj).mono (.of_below (drew_below w) fun _ _ => rfl)
          · intro l' n' b' q' c' f1 f2 f3
            cases f1
            cases f2
            refine ⟨freeB_mono hI' (freeB_new hI' (Nat.le_refl _)) (alloc_below _ _), ?_, ?_, ?_, _, e, i.size, heap_alloc_new _ _, hlen, ?_⟩
            · exact h.below.size
            · show (if w.drew.heap.size = w.drew.heap.size then (l ++ l2).length else lim w.drew.heap.size) = 0 + (l ++ l2).length
              rw [if_pos rfl, Nat.zero_add]
            · rw [hlen]; exact Nat.mul_pos (by omega) hsz
            · rw [hsize]; simp
    · cases hev
  · cases hev
end Go.Proofs.YtclebnamhpgdmaaGreatEv
