/- Each operation does what the evaluator says. -/
import Derived.Test.YtclebnamhpgdmaaGreatEvD
namespace Go.Proofs.YtclebnamhpgdmaaGreatEv
open Go Go.RowKit
set_option linter.unusedSimpArgs false
set_option linter.unusedVariables false

/-- What an answer of the callees' evaluator means. -/
def SoundF (P : Program) (Φ : CallF) : Prop := ∀ f xs bx r bx', Φ f xs bx = some (r, bx') → ∀ (w : World) (lim μ : Nat → Nat) (vs : Array Value), vs.size = xs.length →
  (∀ i (h : i < xs.length), Rep w lim μ bx.length (vs.getD i undef) xs[i] ∧ n2 xs[i]) → BoxRep w lim μ bx →
  (∀ w, (callFunc f vs).run P w = .ok (.enter f vs) w) ∧ n2 r ∧
  Calls P f vs w fun e w' => ∃ v lim' μ', e = .returned v ∧ bx.length ≤ bx'.length ∧ But w.heap.size μ bx.length w w' ∧ (∀ r, r < bx.length → μ' r = μ r) ∧ (∀ b, b < w.heap.size → lim' b = lim b) ∧
    (∀ r, bx.length ≤ r → r < bx'.length → w.heap.size ≤ μ' r) ∧ BoxRep w' lim' μ' bx' ∧ Rep w' lim' μ' bx'.length v r

variable {P : Program} {F : Fr} {lim μ : Nat → Nat} {own : Nat → Pl} {s : Env × Bx} {a : Act} {w : World} {o : Oper} {next : Act → World → Prop} {Q : Exit → Act → World → Prop}
  {x : A} {ups : List (Nat × A)} {bx' : Bx} {Φ : CallF}

abbrev Goes (F : Fr) (o : Oper) (s : Env × Bx) (x : A) (ups : List (Nat × A)) (bx' : Bx) (next : Act → World → Prop) : Prop :=
  ∀ a' w', Inv F (putO o.dst x (puts ups s.1), bx') a' w' → next a' w'

theorem s_pick {c u v : Operand} {c' u' v' : O} (h : InvG F lim μ own s a w) (hd : ∀ k, o.dst = some k → k < F.nt) (ho : o.op = .pick c u v)
    (h1 : toO c = some c') (h2 : toO u = some u') (h3 : toO v = some v') (hk : (I.pick c' u' v').os.all (okO F.nt) = true)
    (hev : evI Φ F.nb (.pick c' u' v') s.1 s.2 = some (x, ups, bx')) (hn : Goes F o s x ups bx' next) : o.wp P a w next Q := by
  simp only [I.os, List.all_cons, List.all_nil, Bool.and_true, Bool.and_eq_true] at hk
  simp only [evI] at hev
  have hc := eval_rep h h1 hk.1
  split at hev
  · rename_i t e
    rw [e] at hc
    obtain ⟨hc, _⟩ := hc.val
    cases hev
    cases t with
    | true => exact pure_sound h hd (run_pick ho hc) (by simpa using (eval_rep h h2 hk.2.1).cp) (by simpa using n2_cp _) hn
    | false => exact pure_sound h hd (run_pick ho hc) (by simpa using (eval_rep h h3 hk.2.2).cp) (by simpa using n2_cp _) hn
  · cases hev

theorem s_load {t : TypeId} {y : Operand} {y' : O} {d : TypeDesc} {i : TypeInfo} {tk : Bool} (h : InvG F lim μ own s a w) (hd : ∀ k, o.dst = some k → k < F.nt) (ho : o.op = .load t y)
    (hu : P.underlying t = some d) (hi : P.info? t = some i) (h1 : toO y = some y') (hk : okO F.nt y' = true)
    (hev : evI Φ F.nb (.load i.size (isAggD d) y' tk) s.1 s.2 = some (x, ups, bx')) (hn : Goes F o s x ups bx' next) : o.wp P a w next Q := by
  have hy := eval_rep h h1 hk
  simp only [evI] at hev
  split at hev
  · rename_i r q e
    rw [e] at hy
    obtain ⟨hvy, hr⟩ := hy.toPtr
    obtain ⟨cs, ct, hh, hs, hcell⟩ := h.box.row r hr
    rw [List.getElem?_eq_getElem hr] at hev
    simp only at hev
    split at hev
    · rename_i hag
      split at hev
      · rename_i hle
        cases hev
        have hrun := load_agg (P := P) (w := w) hu hi hag (b := μ r) (q := q) (fun j => cs.getD (q + j) undef) (fun j hj => cell_of_row hh (by omega))
        refine pure_sound h hd (run_load' ho (by rw [hvy]; exact hrun)) (.r (.agg _ _ ?_ ?_ ?_)) (fun _ _ e => by cases e) hn
        · simp; omega
        · intro j hj
          have hj' : j < i.size := by simp at hj; omega
          rw [getD_range _ _ _ hj']
          simp only [List.getElem_map, List.getElem_take, List.getElem_drop]
          exact (hcell (q + j) (by omega)).cp1
        · intro j hj; simp only [List.getElem_map]; exact n2_cp1 _
      · cases hev
    · rename_i hag
      have hag' : isAggD d = false := by simpa using hag
      split at hev
      · rename_i c hc
        have hq : q < s.2[r].length := by
          rcases Nat.lt_or_ge q s.2[r].length with h' | h'
          · exact h'
          · simp [List.getElem?_eq_none h'] at hc
        rw [List.getElem?_eq_getElem hq] at hc
        cases hc
        have hrun := load_one (P := P) (w := w) hu hag' (cell_of_row hh (j := q) (by omega))
        split at hev
        · split at hev
          · rename_i hnb
            cases hev
            -- the right moves from the box to the slot
            have hI : InvG F lim μ own (s.1, s.2.set r (s.2[r].set q s.2[r][q].cp1)) a w := by
              have hsl : (s.2.set r (s.2[r].set q s.2[r][q].cp1)).length = s.2.length := by simp
              refine ⟨h.defers, h.size, by simpa using h.nb, h.mu0, fun k hk hk' => h.mub k hk (by simpa using hk'), fun i => by simpa using h.env i, ⟨?_, ?_, ?_⟩, h.flt, ?_, h.below, h.lim0⟩
              · intro k hk
                have hk' : k < s.2.length := by simpa using hk
                obtain ⟨cs1, t1, k1, k2, k3⟩ := h.box.row k hk'
                rw [hsl]
                by_cases e : r = k
                · subst e
                  refine ⟨cs1, t1, k1, by simpa using k2, ?_⟩
                  intro z hz
                  simp only [List.getElem_set_self, List.length_set] at hz ⊢
                  by_cases ez : q = z
                  · subst ez; simp only [List.getElem_set_self]; exact (k3 q hz).cp1
                  · rw [List.getElem_set_ne ez]; exact k3 z hz
                · have : (s.2.set r (s.2[r].set q s.2[r][q].cp1))[k] = s.2[k] := List.getElem_set_ne e _
                  refine ⟨cs1, t1, k1, by rw [this]; exact k2, ?_⟩
                  intro z hz
                  simp only [this] at hz ⊢
                  exact k3 z hz
              · intro k hk; exact h.box.lim0 k (by simpa using hk)
              · intro k k' hk hk' e; exact h.box.inj k k' (by simpa using hk) (by simpa using hk') e
              · intro k z cs1 t1 hk hk' hheap hz
                have hk2 : k < s.2.length := by simpa using hk'
                by_cases e : r = k
                · subst e
                  simp only [List.getElem_set_self, List.length_set] at hz ⊢
                  by_cases ez : q = z
                  · subst ez; simp only [List.getElem_set_self]; exact .of_n2 (n2_cp1 _)
                  · rw [List.getElem_set_ne ez]; exact h.flb r z cs1 t1 hk hk2 hheap hz
                · have : (s.2.set r (s.2[r].set q s.2[r][q].cp1))[k] = s.2[k] := List.getElem_set_ne e _
                  simp only [this] at hz ⊢
                  exact h.flb k z cs1 t1 hk hk2 hheap hz
            refine wp_value (run_load' ho (by rw [hvy]; exact hrun)) (hn _ _ (hI.setO hd (.r (.c (by simpa using hcell q hq))) ?_))
            intro l n b z c e1 e2 e3
            obtain ⟨hown, hfl⟩ := h.flb r q cs ct hnb hr hh hq l n b z c e1 e2 e3
            refine ⟨⟨?_, ?_⟩, hfl⟩
            · intro i l' n' o' c' f1 f2 f3
              have := (h.flt i l' n' b o' c' f1 f2 f3).1
              rw [hown] at this; cases this
            · intro k z' cs1 t1 l' n' o' c' hk hk' hheap hz f1 f2 f3
              have hk2 : k < s.2.length := by simpa using hk'
              by_cases e : r = k
              · subst e
                simp only [List.getElem_set_self, List.length_set] at hz f1
                by_cases ez : q = z'
                · subst ez; simp only [List.getElem_set_self] at f1; exact absurd f1 (n2_cp1 _ _ _)
                · rw [List.getElem_set_ne ez] at f1
                  have := (h.flb r z' cs1 t1 hk hk2 hheap hz l' n' b o' c' f1 f2 f3).1
                  rw [hown] at this
                  cases this
                  exact ez rfl
              · have hs' : (s.2.set r (s.2[r].set q s.2[r][q].cp1))[k] = s.2[k] := List.getElem_set_ne e _
                simp only [hs'] at hz f1
                have := (h.flb k z' cs1 t1 hk hk2 hheap hz l' n' b o' c' f1 f2 f3).1
                rw [hown] at this
                cases this
                exact e rfl
          · cases hev
        · cases hev
          exact pure_sound h hd (run_load' ho (by rw [hvy]; exact hrun)) (.r (.c (hcell q hq).cp1)) (n2_cp1 _) hn
      · cases hev
  · rename_i l e
    rw [e] at hy
    obtain ⟨b, q, vs, hvy, hc, hl, hr⟩ := hy.toIp
    split at hev
    · rename_i hag
      split at hev
      · rename_i hle
        cases hev
        have hrun := load_agg (P := P) (w := w) hu hi hag (b := b) (q := q) vs (fun j hj => hc j (by omega))
        refine pure_sound h hd (run_load' ho (by rw [hvy]; exact hrun)) (.r (.agg _ _ ?_ ?_ ?_)) (fun _ _ e => by cases e) hn
        · simp; omega
        · intro j hj
          have hj' : j < i.size := by simp at hj; omega
          rw [getD_range _ _ _ hj']
          simp only [List.getElem_map, List.getElem_take]
          exact .v (hr j (by omega)).norm1
        · intro j hj; simp only [List.getElem_map]; exact n2_norm1 _
      · cases hev
    · rename_i hag
      have hag' : isAggD d = false := by simpa using hag
      split at hev
      · rename_i c l'
        cases hev
        have hrun := load_one (P := P) (w := w) hu hag' (b := b) (q := q) (by simpa using hc 0 (by simp))
        exact pure_sound h hd (run_load' ho (by rw [hvy]; exact hrun)) (.rv (RepV.norm1 (hr 0 (Nat.zero_lt_succ _)))) (n2_norm1 _) hn
      · cases hev
  · cases hev

/-- The right that a single boxed value brings along. -/
theorem flag_split (h : InvG F lim μ own s a w) {y : Operand} {y' : O} (h1 : toO y = some y') (hk : okO F.nt y' = true) (hv : (y'.ev s.1).cells.all A.isC = true) (r q : Nat) :
    ∃ own', (∀ i, FlagOk w lim own' F.w0.heap.size (.t i) (a.tmps.getD i undef) (puts (takeU y' s.1) s.1 i)) ∧
      (∀ r o cs t, F.nb ≤ r → (h : r < s.2.length) → w.heap[μ r]? = some (.cells cs t (0, 0)) → (ho : o < s.2[r].length) → FlagOk w lim own' F.w0.heap.size (.b r o) (cs.getD o undef) s.2[r][o]) ∧
      (∀ i (hi : i < (y'.ev s.1).cells.length), FlagOk w lim own' F.w0.heap.size (.b r (q + i)) ((a.eval y).cells.getD i undef) (y'.ev s.1).cells[i]) := by
  have hy := eval_rep h h1 hk
  obtain ⟨hI, hF⟩ := h.take y'
  generalize hz : y'.ev s.1 = z at *
  by_cases hs : ∃ l n g, z = .sl l n g
  · obtain ⟨l, n, g, rfl⟩ := hs
    have hone := hy.toSl.one
    have hc1 := cells_one hone
    by_cases hfl : g = 2 ∧ ∃ b o c, a.eval y = .slice (some ⟨b, o, none⟩) n c ∧ n < c
    · obtain ⟨rfl, b, o, c, e2, e3⟩ := hfl
      cases y' with
      | t i =>
        cases y <;> simp [toO] at h1
        subst h1
        obtain ⟨hfree, hflag⟩ := hF _ l n b o c rfl hz e2 e3
        refine ⟨ownAt own b (.b r q), (hI.reown hfree _).flt, (hI.reown hfree _).flb, ?_⟩
        intro j hj
        have : j = 0 := by simp [A.cells] at hj; omega
        subst this
        simp only [A.cells, List.getElem_cons_zero, Nat.add_zero]
        rw [e2]
        intro l' n' b' o' c' f1 f2 f3
        have f2' : Value.slice (some ⟨b, o, none⟩) n c = .slice (some ⟨b', o', none⟩) n' c' := f2
        cases f2'
        cases f1
        exact ⟨by simp [ownAt], hflag⟩
      | c v =>
        exfalso
        simp only [O.ev, cst] at hz
        split at hz
        · cases hz
        · exact n2_cst1 _ _ _ hz
      | f k => cases hz
    · refine ⟨own, hI.flt, hI.flb, ?_⟩
      intro j hj
      have : j = 0 := by simp [A.cells] at hj; omega
      subst this
      simp only [A.cells, List.getElem_cons_zero, Nat.add_zero]
      intro l' n' b' o' c' f1 f2 f3
      rw [hc1] at f2
      have f2' : a.eval y = .slice (some ⟨b', o', none⟩) n' c' := f2
      cases f1
      exact absurd ⟨rfl, b', o', c', f2', f3⟩ hfl
  · refine ⟨own, hI.flt, hI.flb, ?_⟩
    intro j hj
    refine .of_n2 ?_
    cases z with
    | agg l =>
      obtain ⟨vs, e, h1, h2, h3⟩ := hy.toAgg
      exact h3 j hj
    | sl l n g => exact absurd ⟨l, n, g, rfl⟩ hs
    | _ => intro l n e; simp [A.cells] at e

theorem s_store {t : TypeId} {p y : Operand} {p' y' : O} {i : TypeInfo} (h : InvG F lim μ own s a w) (hd : ∀ k, o.dst = some k → k < F.nt) (ho : o.op = .store t p y)
    (hi : P.info? t = some i) (h1 : toO p = some p') (h2 : toO y = some y') (hk1 : okO F.nt p' = true) (hk2 : okO F.nt y' = true)
    (hev : evI Φ F.nb (.store i.size p' y') s.1 s.2 = some (x, ups, bx')) (hn : Goes F o s x ups bx' next) : o.wp P a w next Q := by
  have hp := eval_rep h h1 hk1
  have hy := eval_rep h h2 hk2
  simp only [evI] at hev
  split at hev
  · rename_i r q e
    rw [e] at hp
    obtain ⟨hvp, hr⟩ := hp.toPtr
    rw [List.getElem?_eq_getElem hr] at hev
    simp only at hev
    split at hev
    · rename_i hcond
      obtain ⟨hlen, hle, hv, hnbv⟩ := hcond
      cases hev
      obtain ⟨hI, hF⟩ := h.take y'
      obtain ⟨own', f1, f2, f3⟩ := flag_split h h2 hk2 hv r q
      obtain ⟨hcs, hcr⟩ := hy.cells hv
      obtain ⟨cs, ct, hh, hs, hcell⟩ := h.box.row r hr
      obtain ⟨xs, hxs, hxl, hxr, hxf⟩ : ∃ xs, (if F.nb ≤ r then (y'.ev s.1).cells else (y'.ev s.1).cells.map A.norm1) = xs ∧ xs.length = (y'.ev s.1).cells.length ∧
          (∀ j (hj : j < xs.length), RepC w lim μ s.2.length ((a.eval y).cells.getD j undef) xs[j]) ∧
          (F.nb ≤ r → ∀ j (hj : j < xs.length), FlagOk w lim own' F.w0.heap.size (.b r (q + j)) ((a.eval y).cells.getD j undef) xs[j]) := by
        by_cases hnb : F.nb ≤ r
        · rw [if_pos hnb]; exact ⟨_, rfl, rfl, hcr, fun _ => f3⟩
        · rw [if_neg hnb]
          refine ⟨_, rfl, by simp, fun j hj => ?_, fun h => absurd h hnb⟩
          rw [List.getElem_map]; exact (hcr j (by simpa using hj)).norm1
      rw [hxs] at hn
      have hget : ∀ j, (a.eval y).cells.toList.getD j undef = (a.eval y).cells.getD j undef := fun j => by
        rw [List.getD_eq_getElem?_getD, Array.getElem?_toList, Array.getD_eq_getD_getElem?]
      have key := hI.store (q := q) (vs := (a.eval y).cells.toList) (xs := xs) hr (show q + xs.length ≤ s.2[r].length by rw [hxl]; omega) (by rw [hxl]; simpa using hcs)
        (fun j hj => by rw [hget]; exact hxr j hj) f1 f2 (fun hnb j hj => by rw [hget]; exact hxf hnb j hj)
      have hst : (storeCells ⟨μ r, q, none⟩ (a.eval y).cells.toList 0).run P w = .ok () (w.setCells (μ r) q (a.eval y).cells.toList) := by
        refine run_storeCells_cells (μ r) q _ 0 w (fun j hj => ?_) (fun j hj => ?_) (fun v hv' => ?_)
        · have hj' : j < (y'.ev s.1).cells.length := by rw [← hcs]; simpa using hj
          rw [Nat.add_zero, cell_of_row hh (by omega)]; rfl
        · simp [World.frozen?, hh]
        · obtain ⟨j, hj, rfl⟩ := List.getElem_of_mem hv'
          have hj' : j < (y'.ev s.1).cells.length := by rw [← hcs]; simpa using hj
          have := (hcr j hj').one
          rw [Array.getD_eq_getD_getElem?, Array.getElem?_eq_getElem (by simpa using hj)] at this
          simpa using this
      have hrun : (execOp a.eval o).run P w = .ok .skip (w.setCells (μ r) q (a.eval y).cells.toList) := by
        have hsz : (a.eval y).cells.size = i.size := by rw [hcs]; exact hlen
        simp only [execOp, ho, Instr.storeAt, Instr.sureAddr, storeVar, sizeOf, typeInfo, hvp]
        simp [hi, hsz, hst]
      refine wp_skipR hrun (hn _ _ ?_)
      have := key.setO (d := o.dst) (v := undef) (x := .und) hd .und (fun l n b q c e => by cases e)
      rw [hxl, hlen] at this
      exact this
    · cases hev
  · cases hev

theorem s_alloc {t : TypeId} {z : List Value} (h : InvG F lim μ own s a w) (hd : ∀ k, o.dst = some k → k < F.nt) (ho : o.op = .alloc t)
    (hz : zeroOf P t = some z) (hev : evI Φ F.nb (.alloc z) s.1 s.2 = some (x, ups, bx')) (hn : Goes F o s x ups bx' next) : o.wp P a w next Q := by
  simp only [evI] at hev
  cases hev
  unfold zeroOf at hz
  split at hz
  · rename_i i hi
    split at hz
    · rename_i zv hzv
      split at hz
      · rename_i hcond
        obtain ⟨hlen, hone⟩ := hcond
        cases hz
        have hrun : (execOp a.eval o).run P w = .ok (.value (.pointer (some ⟨w.heap.size, 0, none⟩))) (w.alloc (.cells zv.cells t)) := by
          simp [execOp, ho, Instr.alloc, zeroValue, typeInfo, hi, hzv, newVar, newRow]
        have key := h.newBox0 (cs := zv.cells) (t := t) (xs := zv.cells.toList.map cst1) (by simp) (fun j hj => by
          have hj' : j < zv.cells.size := by simpa using hj
          have e : zv.cells.getD j undef = zv.cells.toList[j]'(by simpa using hj') := by simp [Array.getD, hj']
          rw [e, List.getElem_map]
          exact .v (rep_cst1 _ (List.all_eq_true.1 hone _ (List.getElem_mem _)))) (fun j hj => by rw [List.getElem_map]; exact n2_cst1 _)
        refine wp_value hrun (hn _ _ (key.setO hd ?_ (fun l n b q c e => by cases e)))
        have := Rep.ptr (w := w.alloc (.cells zv.cells t)) (lim := limBox w lim) (μ := μBox w μ s.2.length) (m := (s.2 ++ [zv.cells.toList.map cst1]).length) s.2.length 0 (by simp)
        simpa [μBox] using this
      · cases hz
    · cases hz
  · cases hz

theorem s_box {t : TypeId} {y : Operand} {y' : O} (h : InvG F lim μ own s a w) (hd : ∀ k, o.dst = some k → k < F.nt) (ho : o.op = .box t y)
    (h2 : toO y = some y') (hk2 : okO F.nt y' = true) (hev : evI Φ F.nb (.box y') s.1 s.2 = some (x, ups, bx')) (hn : Goes F o s x ups bx' next) : o.wp P a w next Q := by
  have hy := eval_rep h h2 hk2
  simp only [evI] at hev
  split at hev
  · rename_i hv
    cases hev
    obtain ⟨hI, hF⟩ := h.take y'
    obtain ⟨own', f1, f2, f3⟩ := flag_split h h2 hk2 hv s.2.length 0
    obtain ⟨hcs, hcr⟩ := hy.cells hv
    have hrun : (execOp a.eval o).run P w = .ok (.value (.pointer (some ⟨w.heap.size, 0, none⟩))) (w.alloc (.cells (a.eval y).cells t)) := by
      simp [execOp, ho, Instr.box, newVar, newRow]
    have key := hI.newBox (cs := (a.eval y).cells) (t := t) (xs := (y'.ev s.1).cells) (by omega) hcr f1 f2 (fun j hj => by have := f3 j hj; rwa [Nat.zero_add] at this)
    refine wp_value hrun (hn _ _ (key.setO hd ?_ (fun l n b q c e => by cases e)))
    have := Rep.ptr (w := w.alloc (.cells (a.eval y).cells t)) (lim := limBox w lim) (μ := μBox w μ s.2.length) (m := (s.2 ++ [(y'.ev s.1).cells]).length) s.2.length 0 (by simp)
    simpa [μBox] using this
  · cases hev
end Go.Proofs.YtclebnamhpgdmaaGreatEv
