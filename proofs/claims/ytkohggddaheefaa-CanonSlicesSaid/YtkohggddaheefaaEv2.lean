/- Each operation does what the evaluator says. -/
import Derived.Test.YtkohggddaheefaaEv1
import Derived.Laws.MakeOwn
set_option linter.unusedSimpArgs false
set_option linter.unusedVariables false
namespace Go.Proofs.YtkohggddaheefaaEv
open Go Go.RowKit

/-- What an answer of the callees' evaluator means. -/
def SoundF (P : Program) (Φ : CallF) : Prop := ∀ f xs bx r bx', Φ f xs bx = some (r, bx') → ∀ (w : World) (lim μ : Nat → Nat) (vs : Array Value), vs.size = xs.length →
  (∀ i (h : i < xs.length), Rep w lim μ bx.length (vs.getD i undef) xs[i] ∧ n2 xs[i]) → BoxRep w lim μ bx → GlobOk w μ bx.length →
  (∀ w, (callFunc f vs).run P w = .ok (.enter f vs) w) ∧ n2 r ∧
  Calls P f vs w fun e w' => ∃ v lim' μ', e = .returned v ∧ bx.length ≤ bx'.length ∧ But w.heap.size μ bx.length w w' ∧ (∀ r, r < bx.length → μ' r = μ r) ∧ (∀ b, b < w.heap.size → lim' b = lim b) ∧
    (∀ r, bx.length ≤ r → r < bx'.length → w.heap.size ≤ μ' r) ∧ BoxRep w' lim' μ' bx' ∧ Rep w' lim' μ' bx'.length v r

variable {P : Program} {F : Fr} {lim μ : Nat → Nat} {own : Nat → Pl} {s : Env × Bx} {a : Act} {w : World} {o : Oper} {next : Act → World → Prop} {Q : Exit → Act → World → Prop}
  {x : A} {ups : List (Nat × A)} {bx' : Bx} {Φ : CallF}

abbrev Goes (F : Fr) (o : Oper) (s : Env × Bx) (x : A) (ups : List (Nat × A)) (bx' : Bx) (next : Act → World → Prop) : Prop :=
  ∀ a' w', Inv F (putO o.dst x (puts ups s.1), bx') a' w' → next a' w'

theorem s_pick {c u v : Operand} {c' u' v' : O} (h : InvG F lim μ own s a w) (hd : ∀ k, o.dst = some k → k < F.nt) (ho : o.op = .pick c u v)
    (h1 : toO c = some c') (h2 : toO u = some u') (h3 : toO v = some v') (hk : (I.pick c' u' v').os.all (okO F.nt) = true)
    (hev : evI Φ F.nb (.pick c' u' v') s.1 s.2 = some (x, ups, bx')) (hn : Goes F o s x ups bx' next) : o.wp P a w next Q := by
  simp only [I.os, List.all_cons, List.all_nil, Bool.and_true, Bool.and_eq_true] at hk
  simp only [evI] at hev
  have hc := eval_rep h h1 hk.1
  split at hev
  · rename_i t e
    rw [e] at hc
    obtain ⟨hc, _⟩ := hc.val
    cases hev
    cases t with
    | true => exact pure_sound h hd (run_pick ho hc) (by simpa using (eval_rep h h2 hk.2.1).cp) (by simpa using n2_cp _) hn
    | false => exact pure_sound h hd (run_pick ho hc) (by simpa using (eval_rep h h3 hk.2.2).cp) (by simpa using n2_cp _) hn
  · cases hev

theorem s_load {t : TypeId} {y : Operand} {y' : O} {d : TypeDesc} {i : TypeInfo} {tk : Bool} (h : InvG F lim μ own s a w) (hd : ∀ k, o.dst = some k → k < F.nt) (ho : o.op = .load t y)
    (hu : P.underlying t = some d) (hi : P.info? t = some i) (h1 : toO y = some y') (hk : okO F.nt y' = true)
    (hev : evI Φ F.nb (.load i.size (isAggD d) y' tk) s.1 s.2 = some (x, ups, bx')) (hn : Goes F o s x ups bx' next) : o.wp P a w next Q := by
  have hy := eval_rep h h1 hk
  simp only [evI] at hev
  split at hev
  · rename_i r q e
    rw [e] at hy
    obtain ⟨hvy, hr⟩ := hy.toPtr
    obtain ⟨cs, ct, hh, hs, hcell⟩ := h.box.row r hr
    rw [List.getElem?_eq_getElem hr] at hev
    simp only at hev
    split at hev
    · rename_i hag
      split at hev
      · rename_i hle
        cases hev
        have hrun := load_agg (P := P) (w := w) hu hi hag (b := μ r) (q := q) (fun j => cs.getD (q + j) undef) (fun j hj => cell_of_row hh (by omega))
        refine pure_sound h hd (run_load' ho (by rw [hvy]; exact hrun)) (.r (.agg _ _ ?_ ?_ ?_)) (fun _ _ e => by cases e) hn
        · simp; omega
        · intro j hj
          have hj' : j < i.size := by simp at hj; omega
          rw [getD_range _ _ _ hj']
          simp only [List.getElem_map, List.getElem_take, List.getElem_drop]
          exact (hcell (q + j) (by omega)).cp1
        · intro j hj; simp only [List.getElem_map]; exact n2_cp1 _
      · cases hev
    · rename_i hag
      have hag' : isAggD d = false := by simpa using hag
      split at hev
      · rename_i c hc
        have hq : q < s.2[r].length := by
          rcases Nat.lt_or_ge q s.2[r].length with h' | h'
          · exact h'
          · simp [List.getElem?_eq_none h'] at hc
        rw [List.getElem?_eq_getElem hq] at hc
        cases hc
        have hrun := load_one (P := P) (w := w) hu hag' (cell_of_row hh (j := q) (by omega))
        split at hev
        · split at hev
          · rename_i hnb
            cases hev
            -- the right moves from the box to the slot
            have hI : InvG F lim μ own (s.1, s.2.set r (s.2[r].set q s.2[r][q].cp1)) a w := by
              have hsl : (s.2.set r (s.2[r].set q s.2[r][q].cp1)).length = s.2.length := by simp
              refine ⟨h.defers, h.size, by simpa using h.nb, h.mu0, fun k hk hk' => h.mub k hk (by simpa using hk'), fun i => by simpa using h.env i, ⟨?_, ?_, ?_⟩, h.flt, ?_, h.below, h.lim0⟩
              · intro k hk
                have hk' : k < s.2.length := by simpa using hk
                obtain ⟨cs1, t1, k1, k2, k3⟩ := h.box.row k hk'
                rw [hsl]
                by_cases e : r = k
                · subst e
                  refine ⟨cs1, t1, k1, by simpa using k2, ?_⟩
                  intro z hz
                  simp only [List.getElem_set_self, List.length_set] at hz ⊢
                  by_cases ez : q = z
                  · subst ez; simp only [List.getElem_set_self]; exact (k3 q hz).cp1
                  · rw [List.getElem_set_ne ez]; exact k3 z hz
                · have : (s.2.set r (s.2[r].set q s.2[r][q].cp1))[k] = s.2[k] := List.getElem_set_ne e _
                  refine ⟨cs1, t1, k1, by rw [this]; exact k2, ?_⟩
                  intro z hz
                  simp only [this] at hz ⊢
                  exact k3 z hz
              · intro k hk; exact h.box.lim0 k (by simpa using hk)
              · intro k k' hk hk' e; exact h.box.inj k k' (by simpa using hk) (by simpa using hk') e
              · intro k z cs1 t1 hk hk' hheap hz
                have hk2 : k < s.2.length := by simpa using hk'
                by_cases e : r = k
                · subst e
                  simp only [List.getElem_set_self, List.length_set] at hz ⊢
                  by_cases ez : q = z
                  · subst ez; simp only [List.getElem_set_self]; exact .of_n2 (n2_cp1 _)
                  · rw [List.getElem_set_ne ez]; exact h.flb r z cs1 t1 hk hk2 hheap hz
                · have : (s.2.set r (s.2[r].set q s.2[r][q].cp1))[k] = s.2[k] := List.getElem_set_ne e _
                  simp only [this] at hz ⊢
                  exact h.flb k z cs1 t1 hk hk2 hheap hz
            refine wp_value (run_load' ho (by rw [hvy]; exact hrun)) (hn _ _ (hI.setO hd (.r (.c (by simpa using hcell q hq))) ?_))
            intro l n b z c e1 e2 e3
            obtain ⟨hown, hfl⟩ := h.flb r q cs ct hnb hr hh hq l n b z c e1 e2 e3
            refine ⟨⟨?_, ?_⟩, hfl⟩
            · intro i l' n' o' c' f1 f2 f3
              have := (h.flt i l' n' b o' c' f1 f2 f3).1
              rw [hown] at this; cases this
            · intro k z' cs1 t1 l' n' o' c' hk hk' hheap hz f1 f2 f3
              have hk2 : k < s.2.length := by simpa using hk'
              by_cases e : r = k
              · subst e
                simp only [List.getElem_set_self, List.length_set] at hz f1
                by_cases ez : q = z'
                · subst ez; simp only [List.getElem_set_self] at f1; exact absurd f1 (n2_cp1 _ _ _)
                · rw [List.getElem_set_ne ez] at f1
                  have := (h.flb r z' cs1 t1 hk hk2 hheap hz l' n' b o' c' f1 f2 f3).1
                  rw [hown] at this
                  cases this
                  exact ez rfl
              · have hs' : (s.2.set r (s.2[r].set q s.2[r][q].cp1))[k] = s.2[k] := List.getElem_set_ne e _
                simp only [hs'] at hz f1
                have := (h.flb k z' cs1 t1 hk hk2 hheap hz l' n' b o' c' f1 f2 f3).1
                rw [hown] at this
                cases this
                exact e rfl
          · cases hev
        · cases hev
          exact pure_sound h hd (run_load' ho (by rw [hvy]; exact hrun)) (.r (.c (hcell q hq).cp1)) (n2_cp1 _) hn
      · cases hev
  · rename_i l e
    rw [e] at hy
    obtain ⟨b, q, vs, hvy, hc, hl, hr⟩ := hy.toIp
    split at hev
    · rename_i hag
      split at hev
      · rename_i hle
        cases hev
        have hrun := load_agg (P := P) (w := w) hu hi hag (b := b) (q := q) vs (fun j hj => hc j (by omega))
        refine pure_sound h hd (run_load' ho (by rw [hvy]; exact hrun)) (.r (.agg _ _ ?_ ?_ ?_)) (fun _ _ e => by cases e) hn
        · simp; omega
        · intro j hj
          have hj' : j < i.size := by simp at hj; omega
          rw [getD_range _ _ _ hj']
          simp only [List.getElem_map, List.getElem_take]
          exact .v (hr j (by omega)).norm1
        · intro j hj; simp only [List.getElem_map]; exact n2_norm1 _
      · cases hev
    · rename_i hag
      have hag' : isAggD d = false := by simpa using hag
      split at hev
      · rename_i c l'
        cases hev
        have hrun := load_one (P := P) (w := w) hu hag' (b := b) (q := q) (by simpa using hc 0 (by simp))
        exact pure_sound h hd (run_load' ho (by rw [hvy]; exact hrun)) (.rv (RepV.norm1 (hr 0 (Nat.zero_lt_succ _)))) (n2_norm1 _) hn
      · cases hev
  · rename_i b0 o0 l e
    rw [e] at hy
    obtain ⟨b, q, vs, hvy, hc, hl, hr⟩ := hy.toIpx.2.toIp
    split at hev
    · rename_i hag
      split at hev
      · rename_i hle
        cases hev
        have hrun := load_agg (P := P) (w := w) hu hi hag (b := b) (q := q) vs (fun j hj => hc j (by omega))
        refine pure_sound h hd (run_load' ho (by rw [hvy]; exact hrun)) (.r (.agg _ _ ?_ ?_ ?_)) (fun _ _ e => by cases e) hn
        · simp; omega
        · intro j hj
          have hj' : j < i.size := by simp at hj; omega
          rw [getD_range _ _ _ hj']
          simp only [List.getElem_map, List.getElem_take]
          exact .v (hr j (by omega)).norm1
        · intro j hj; simp only [List.getElem_map]; exact n2_norm1 _
      · cases hev
    · rename_i hag
      have hag' : isAggD d = false := by simpa using hag
      split at hev
      · rename_i c l'
        cases hev
        have hrun := load_one (P := P) (w := w) hu hag' (b := b) (q := q) (by simpa using hc 0 (by simp))
        exact pure_sound h hd (run_load' ho (by rw [hvy]; exact hrun)) (.rv (RepV.norm1 (hr 0 (Nat.zero_lt_succ _)))) (n2_norm1 _) hn
      · cases hev
  · cases hev

/-- The right that a single boxed value brings along. -/
theorem flag_split (h : InvG F lim μ own s a w) {y : Operand} {y' : O} (h1 : toO y = some y') (hk : okO F.nt y' = true) (hv : (y'.ev s.1).cells.all A.isC = true) (r q : Nat) :
    ∃ own', (∀ i, FlagOk w lim own' F.w0.heap.size (.t i) (a.tmps.getD i undef) (puts (takeU y' s.1) s.1 i)) ∧
      (∀ r o cs t, F.nb ≤ r → (h : r < s.2.length) → w.heap[μ r]? = some (.cells cs t (0, 0)) → (ho : o < s.2[r].length) → FlagOk w lim own' F.w0.heap.size (.b r o) (cs.getD o undef) s.2[r][o]) ∧
      (∀ i (hi : i < (y'.ev s.1).cells.length), FlagOk w lim own' F.w0.heap.size (.b r (q + i)) ((a.eval y).cells.getD i undef) (y'.ev s.1).cells[i]) := by
  have hy := eval_rep h h1 hk
  obtain ⟨hI, hF⟩ := h.take y'
  generalize hz : y'.ev s.1 = z at *
  by_cases hs : ∃ l n g, z = .sl l n g
  · obtain ⟨l, n, g, rfl⟩ := hs
    have hone := hy.toSl.one
    have hc1 := cells_one hone
    by_cases hfl : g = 2 ∧ ∃ b o c, a.eval y = .slice (some ⟨b, o, none⟩) n c ∧ n < c
    · obtain ⟨rfl, b, o, c, e2, e3⟩ := hfl
      cases y' with
      | t i =>
        cases y <;> simp [toO] at h1
        subst h1
        obtain ⟨hfree, hflag⟩ := hF _ l n b o c rfl hz e2 e3
        refine ⟨ownAt own b (.b r q), (hI.reown hfree _).flt, (hI.reown hfree _).flb, ?_⟩
        intro j hj
        have : j = 0 := by simp [A.cells] at hj; omega
        subst this
        simp only [A.cells, List.getElem_cons_zero, Nat.add_zero]
        rw [e2]
        intro l' n' b' o' c' f1 f2 f3
        have f2' : Value.slice (some ⟨b, o, none⟩) n c = .slice (some ⟨b', o', none⟩) n' c' := f2
        cases f2'
        cases f1
        exact ⟨by simp [ownAt], hflag⟩
      | c v =>
        exfalso
        simp only [O.ev, cst] at hz
        split at hz
        · cases hz
        · exact n2_cst1 _ _ _ hz
      | f k => cases hz
    · refine ⟨own, hI.flt, hI.flb, ?_⟩
      intro j hj
      have : j = 0 := by simp [A.cells] at hj; omega
      subst this
      simp only [A.cells, List.getElem_cons_zero, Nat.add_zero]
      intro l' n' b' o' c' f1 f2 f3
      rw [hc1] at f2
      have f2' : a.eval y = .slice (some ⟨b', o', none⟩) n' c' := f2
      cases f1
      exact absurd ⟨rfl, b', o', c', f2', f3⟩ hfl
  · refine ⟨own, hI.flt, hI.flb, ?_⟩
    intro j hj
    refine .of_n2 ?_
    cases z with
    | agg l =>
      obtain ⟨vs, e, h1, h2, h3⟩ := hy.toAgg
      exact h3 j hj
    | sl l n g => exact absurd ⟨l, n, g, rfl⟩ hs
    | _ => intro l n e; simp [A.cells] at e

theorem s_store {t : TypeId} {p y : Operand} {p' y' : O} {i : TypeInfo} (h : InvG F lim μ own s a w) (hd : ∀ k, o.dst = some k → k < F.nt) (ho : o.op = .store t p y)
    (hi : P.info? t = some i) (h1 : toO p = some p') (h2 : toO y = some y') (hk1 : okO F.nt p' = true) (hk2 : okO F.nt y' = true)
    (hev : evI Φ F.nb (.store i.size p' y') s.1 s.2 = some (x, ups, bx')) (hn : Goes F o s x ups bx' next) : o.wp P a w next Q := by
  have hp := eval_rep h h1 hk1
  have hy := eval_rep h h2 hk2
  simp only [evI] at hev
  split at hev
  · rename_i r q e
    rw [e] at hp
    obtain ⟨hvp, hr⟩ := hp.toPtr
    rw [List.getElem?_eq_getElem hr] at hev
    simp only at hev
    split at hev
    · rename_i hcond
      obtain ⟨hlen, hle, hv, hnbv⟩ := hcond
      cases hev
      obtain ⟨hI, hF⟩ := h.take y'
      obtain ⟨own', f1, f2, f3⟩ := flag_split h h2 hk2 hv r q
      obtain ⟨hcs, hcr⟩ := hy.cells hv
      obtain ⟨cs, ct, hh, hs, hcell⟩ := h.box.row r hr
      obtain ⟨xs, hxs, hxl, hxr, hxf⟩ : ∃ xs, (if F.nb ≤ r then (y'.ev s.1).cells else (y'.ev s.1).cells.map A.norm1) = xs ∧ xs.length = (y'.ev s.1).cells.length ∧
          (∀ j (hj : j < xs.length), RepC w lim μ s.2.length ((a.eval y).cells.getD j undef) xs[j]) ∧
          (F.nb ≤ r → ∀ j (hj : j < xs.length), FlagOk w lim own' F.w0.heap.size (.b r (q + j)) ((a.eval y).cells.getD j undef) xs[j]) := by
        by_cases hnb : F.nb ≤ r
        · rw [if_pos hnb]; exact ⟨_, rfl, rfl, hcr, fun _ => f3⟩
        · rw [if_neg hnb]
          refine ⟨_, rfl, by simp, fun j hj => ?_, fun h => absurd h hnb⟩
          rw [List.getElem_map]; exact (hcr j (by simpa using hj)).norm1
      rw [hxs] at hn
      have hget : ∀ j, (a.eval y).cells.toList.getD j undef = (a.eval y).cells.getD j undef := fun j => by
        rw [List.getD_eq_getElem?_getD, Array.getElem?_toList, Array.getD_eq_getD_getElem?]
      have key := hI.store (q := q) (vs := (a.eval y).cells.toList) (xs := xs) hr (show q + xs.length ≤ s.2[r].length by rw [hxl]; omega) (by rw [hxl]; simpa using hcs)
        (fun j hj => by rw [hget]; exact hxr j hj) f1 f2 (fun hnb j hj => by rw [hget]; exact hxf hnb j hj)
      have hst : (storeCells ⟨μ r, q, none⟩ (a.eval y).cells.toList 0).run P w = .ok () (w.setCells (μ r) q (a.eval y).cells.toList) := by
        refine run_storeCells_cells (μ r) q _ 0 w (fun j hj => ?_) (fun j hj => ?_) (fun v hv' => ?_)
        · have hj' : j < (y'.ev s.1).cells.length := by rw [← hcs]; simpa using hj
          rw [Nat.add_zero, cell_of_row hh (by omega)]; rfl
        · simp [World.frozen?, hh]
        · obtain ⟨j, hj, rfl⟩ := List.getElem_of_mem hv'
          have hj' : j < (y'.ev s.1).cells.length := by rw [← hcs]; simpa using hj
          have := (hcr j hj').one
          rw [Array.getD_eq_getD_getElem?, Array.getElem?_eq_getElem (by simpa using hj)] at this
          simpa using this
      have hrun : (execOp a.eval o).run P w = .ok .skip (w.setCells (μ r) q (a.eval y).cells.toList) := by
        have hsz : (a.eval y).cells.size = i.size := by rw [hcs]; exact hlen
        simp only [execOp, ho, Instr.storeAt, Instr.sureAddr, storeVar, sizeOf, typeInfo, hvp]
        simp [hi, hsz, hst]
      refine wp_skipR hrun (hn _ _ ?_)
      have := key.setO (d := o.dst) (v := undef) (x := .und) hd .und (fun l n b q c e => by cases e)
      rw [hxl, hlen] at this
      exact this
    · cases hev
  · cases hev

theorem s_alloc {t : TypeId} {z : List Value} (h : InvG F lim μ own s a w) (hd : ∀ k, o.dst = some k → k < F.nt) (ho : o.op = .alloc t)
    (hz : zeroOf P t = some z) (hev : evI Φ F.nb (.alloc z) s.1 s.2 = some (x, ups, bx')) (hn : Goes F o s x ups bx' next) : o.wp P a w next Q := by
  simp only [evI] at hev
  cases hev
  unfold zeroOf at hz
  split at hz
  · rename_i i hi
    split at hz
    · rename_i zv hzv
      split at hz
      · rename_i hcond
        obtain ⟨hlen, hone⟩ := hcond
        cases hz
        have hrun : (execOp a.eval o).run P w = .ok (.value (.pointer (some ⟨w.heap.size, 0, none⟩))) (w.alloc (.cells zv.cells t)) := by
          simp [execOp, ho, Instr.alloc, zeroValue, typeInfo, hi, hzv, newVar, newRow]
        have key := h.newBox0 (cs := zv.cells) (t := t) (xs := zv.cells.toList.map cst1) (by simp) (fun j hj => by
          have hj' : j < zv.cells.size := by simpa using hj
          have e : zv.cells.getD j undef = zv.cells.toList[j]'(by simpa using hj') := by simp [Array.getD, hj']
          rw [e, List.getElem_map]
          exact .v (rep_cst1 _ (List.all_eq_true.1 hone _ (List.getElem_mem _)))) (fun j hj => by rw [List.getElem_map]; exact n2_cst1 _)
        refine wp_value hrun (hn _ _ (key.setO hd ?_ (fun l n b q c e => by cases e)))
        have := Rep.ptr (w := w.alloc (.cells zv.cells t)) (lim := limBox w lim) (μ := μBox w μ s.2.length) (m := (s.2 ++ [zv.cells.toList.map cst1]).length) s.2.length 0 (by simp)
        simpa [μBox] using this
      · cases hz
    · cases hz
  · cases hz

theorem s_box {t : TypeId} {y : Operand} {y' : O} (h : InvG F lim μ own s a w) (hd : ∀ k, o.dst = some k → k < F.nt) (ho : o.op = .box t y)
    (h2 : toO y = some y') (hk2 : okO F.nt y' = true) (hev : evI Φ F.nb (.box y') s.1 s.2 = some (x, ups, bx')) (hn : Goes F o s x ups bx' next) : o.wp P a w next Q := by
  have hy := eval_rep h h2 hk2
  simp only [evI] at hev
  split at hev
  · rename_i hv
    cases hev
    obtain ⟨hI, hF⟩ := h.take y'
    obtain ⟨own', f1, f2, f3⟩ := flag_split h h2 hk2 hv s.2.length 0
    obtain ⟨hcs, hcr⟩ := hy.cells hv
    have hrun : (execOp a.eval o).run P w = .ok (.value (.pointer (some ⟨w.heap.size, 0, none⟩))) (w.alloc (.cells (a.eval y).cells t)) := by
      simp [execOp, ho, Instr.box, newVar, newRow]
    have key := hI.newBox (cs := (a.eval y).cells) (t := t) (xs := (y'.ev s.1).cells) (by omega) hcr f1 f2 (fun j hj => by have := f3 j hj; rwa [Nat.zero_add] at this)
    refine wp_value hrun (hn _ _ (key.setO hd ?_ (fun l n b q c e => by cases e)))
    have := Rep.ptr (w := w.alloc (.cells (a.eval y).cells t)) (lim := limBox w lim) (μ := μBox w μ s.2.length) (m := (s.2 ++ [(y'.ev s.1).cells]).length) s.2.length 0 (by simp)
    simpa [μBox] using this
  · cases hev
end Go.Proofs.YtkohggddaheefaaEv
/- Each operation does what the evaluator says: the rest. -/
namespace Go.Proofs.YtkohggddaheefaaEv
open Go Go.RowKit

variable {P : Program} {F : Fr} {lim μ : Nat → Nat} {own : Nat → Pl} {s : Env × Bx} {a : Act} {w : World} {o : Oper} {next : Act → World → Prop} {Q : Exit → Act → World → Prop}
  {x : A} {ups : List (Nat × A)} {bx' : Bx} {Φ : CallF}

/-! ### literals -/
theorem foldl_set (off : Nat) : ∀ (l : List Value) (k : Nat) (cells : Array Value),
    ((l.zipIdx k).foldl (fun cs p => cs.setIfInBounds (off + p.2) p.1) cells).size = cells.size ∧
    ∀ j, j < cells.size → ((l.zipIdx k).foldl (fun cs p => cs.setIfInBounds (off + p.2) p.1) cells).getD j undef = if off + k ≤ j ∧ j < off + k + l.length then l.getD (j - (off + k)) undef else cells.getD j undef
  | [], k, cells => ⟨rfl, fun j hj => by rw [if_neg (by simp)]; rfl⟩
  | v :: l, k, cells => by
    obtain ⟨h1, h2⟩ := foldl_set off l (k + 1) (cells.setIfInBounds (off + k) v)
    rw [List.zipIdx_cons, List.foldl_cons]
    refine ⟨by simpa using h1, fun j hj => ?_⟩
    rw [h2 j (by simpa using hj)]
    have hg : (cells.setIfInBounds (off + k) v).getD j undef = if j = off + k then v else cells.getD j undef := by
      simp only [Array.getD_eq_getD_getElem?, Array.getElem?_setIfInBounds]
      by_cases e : off + k = j
      · subst e; simp [hj]
      · have : ¬ j = off + k := fun x => e x.symm
        simp [e, this]
    by_cases e : j = off + k
    · subst e
      rw [if_neg (by omega), hg, if_pos rfl, if_pos (by simp)]
      simp
    · rw [hg, if_neg e]
      by_cases hr : off + (k + 1) ≤ j ∧ j < off + (k + 1) + l.length
      · rw [if_pos hr, if_pos (by simp; omega)]
        rw [show j - (off + k) = (j - (off + (k + 1))) + 1 by omega]
        simp
      · rw [if_neg hr, if_neg (by simp; omega)]

theorem fill_sound (h : InvG F lim μ own s a w) (place : Nat → Option (Nat × Nat)) (nrm : Bool) : ∀ (ps : List (Nat × Operand)) (ps' : List (Nat × Nat × O)) (cells : Array Value) (cs cs' : List A),
    partsOf place ps = some ps' → (ps'.map (·.2.2)).all (okO F.nt) = true → cells.size = cs.length → (∀ i (hi : i < cs.length), RepC w lim μ s.2.length (cells.getD i undef) cs[i] ∧ n2 cs[i] ∧ (nrm = true → cs[i].isV = true)) →
    fillA s.1 nrm cs ps' = some cs' →
    ∃ cells', Instr.fill place cells (ps.map fun p => (p.1, a.eval p.2)) = some cells' ∧ cells'.size = cs'.length ∧ cs'.length = cs.length ∧ ∀ i (hi : i < cs'.length), RepC w lim μ s.2.length (cells'.getD i undef) cs'[i] ∧ n2 cs'[i] ∧ (nrm = true → cs'[i].isV = true)
  | [], ps', cells, cs, cs', hp, _, hs, hr, hf => by
    cases hp; cases hf
    exact ⟨cells, rfl, hs, rfl, hr⟩
  | (i, y) :: ps, ps', cells, cs, cs', hp, hk, hs, hr, hf => by
    unfold partsOf at hp
    split at hp
    · rename_i off size y' t e1 e2 e3
      cases hp
      simp only [List.map_cons, List.all_cons, Bool.and_eq_true] at hk
      have hy := eval_rep h e2 hk.1
      unfold fillA at hf
      simp only at hf
      obtain ⟨z, hc, hy', hzz⟩ : ∃ z, (if nrm = true then (y'.ev s.1).norm else (y'.ev s.1).cp) = z ∧ Rep w lim μ s.2.length (a.eval y) z ∧ n2 z := by
        cases nrm with
        | true => exact ⟨_, rfl, hy.norm, n2_norm _⟩
        | false => exact ⟨_, rfl, hy.cp, n2_cp _⟩
      rw [hc] at hf
      split at hf
      · rename_i hcond
        obtain ⟨hl, hle, hv0⟩ := hcond
        have hv : z.cells.all A.isC = true := by
          rw [List.all_eq_true] at hv0 ⊢
          intro b hb
          have := hv0 b hb
          cases nrm with
          | true => exact isC_of_isV (by simpa [okCell] using this)
          | false => simpa [okCell] using this
        have hvV : nrm = true → ∀ j (hj : j < z.cells.length), z.cells[j].isV = true := by
          intro hn j hj
          have := List.all_eq_true.1 hv0 _ (List.getElem_mem hj)
          simpa [hn, okCell] using this
        obtain ⟨hcs, hcr⟩ := hy'.cells hv
        have hz2 : ∀ j (hj : j < z.cells.length), n2 z.cells[j] := by
          intro j hj
          cases z with
          | agg l => obtain ⟨_, _, _, _, h3⟩ := hy'.toAgg; exact h3 j hj
          | sl l n g =>
            simp only [A.cells, List.getElem_singleton]
            intro l' n' e
            exact hzz _ _ e
          | _ => intro l n e; simp [A.cells] at e
        obtain ⟨f1, f2⟩ := foldl_set off (a.eval y).cells.toList 0 cells
        have harr : ((a.eval y).cells.zipIdx.foldl (init := cells) fun cs p => cs.setIfInBounds (off + p.2) p.1) = (((a.eval y).cells.toList.zipIdx 0).foldl (fun cs p => cs.setIfInBounds (off + p.2) p.1) cells) := by
          rw [← Array.foldl_toList]; simp
        have hlen : (cs.take off ++ z.cells ++ cs.drop (off + size)).length = cs.length := by simp; omega
        obtain ⟨cells', g1, g2, g3, g4⟩ := fill_sound h place nrm ps t (((a.eval y).cells.toList.zipIdx 0).foldl (fun cs p => cs.setIfInBounds (off + p.2) p.1) cells) (cs.take off ++ z.cells ++ cs.drop (off + size)) cs' e3 hk.2 (by rw [f1, hlen, hs])
          (fun j hj => by
            rw [hlen] at hj
            rw [f2 j (by omega), Nat.add_zero]
            by_cases h1 : j < off
            · rw [if_neg (by omega)]
              rw [List.getElem_append_left (by simp; omega), List.getElem_append_left (by simp; omega), List.getElem_take]
              exact hr j hj
            · by_cases h2 : j < off + size
              · rw [if_pos (by simp [hcs, hl]; omega)]
                rw [List.getElem_append_left (by simp; omega), List.getElem_append_right (by simp; omega)]
                have hj1 : j - (cs.take off).length = j - off := by simp; omega
                have hlt : j - off < z.cells.length := by omega
                have q1 := hcr (j - off) hlt
                have q2 := hz2 (j - off) hlt
                rw [List.getD_eq_getElem?_getD, Array.getElem?_toList]
                rw [Array.getD_eq_getD_getElem?] at q1
                simp only [hj1]
                exact ⟨q1, q2, fun hn => hvV hn _ hlt⟩
              · rw [if_neg (by simp [hcs, hl]; omega)]
                rw [List.getElem_append_right (by simp; omega), List.getElem_drop]
                have : off + size + (j - (cs.take off ++ z.cells).length) = j := by simp; omega
                simp only [this]
                exact hr j hj)
          hf
        refine ⟨cells', ?_, g2, by rw [g3, hlen], g4⟩
        simp only [List.map_cons, Instr.fill, e1]
        rw [if_neg]
        · rw [harr]; exact g1
        · simp [hcs, hl, hs]; omega
      · cases hf
    · cases hp

theorem run_places : ∀ (fs : List Field) (pl : List (Nat × Nat)), sizesOf P fs = some pl →
    (fs.mapM (fun f => do pure (f.offset, ← sizeOf f.type) : Field → Sem (Nat × Nat))).run P w = .ok pl w
  | [], pl, h => by cases h; simp
  | f :: fs, pl, h => by
    unfold sizesOf at h
    split at h
    · rename_i i t e1 e2
      cases h
      have ih := run_places fs t e2
      have hs : (sizeOf f.type).run P w = .ok i.size w := by simp [sizeOf, typeInfo, e1]
      simp only [List.mapM_cons, Sem.run_bind, hs, Result.andThen_ok, Sem.run_pure, ih]
    · cases h

theorem zero_rep {t : TypeId} {z : List Value} (hz : zeroOf P t = some z) : ∃ i zv, P.info? t = some i ∧ i.zero = some zv ∧ zv.cells.toList = z ∧ z.length = i.size ∧ (∀ v ∈ z, v.oneCell' = true) := by
  unfold zeroOf at hz
  split at hz
  · rename_i i hi
    split at hz
    · rename_i zv hzv
      split at hz
      · rename_i hcond
        cases hz
        exact ⟨i, zv, hi, hzv, rfl, hcond.1, fun v hv => List.all_eq_true.1 hcond.2 v hv⟩
      · cases hz
    · cases hz
  · cases hz

theorem isV_cst1 (v : Value) (h : v.oneCell' = true) : (cst1 v).isV = true := by
  unfold cst1
  split
  · rfl
  · exact h

theorem cst_cells {cells : Array Value} {z : List Value} (he : cells.toList = z) (h1 : ∀ v ∈ z, v.oneCell' = true) (i : Nat) (hi : i < (z.map cst1).length) :
    RepV w lim (cells.getD i undef) (z.map cst1)[i] ∧ n2 (z.map cst1)[i] ∧ (z.map cst1)[i].isV = true := by
  subst he
  have hi' : i < cells.size := by simpa using hi
  have e : cells.getD i undef = cells.toList[i]'(by simpa using hi') := by simp [Array.getD, hi']
  rw [e, List.getElem_map]
  exact ⟨rep_cst1 _ (h1 _ (List.getElem_mem _)), n2_cst1 _, isV_cst1 _ (h1 _ (List.getElem_mem _))⟩

theorem s_build {t : TypeId} {ps : Array (Nat × Operand)} {fs : Array Field} {z : List Value} {pl : List (Nat × Nat)} {ps' : List (Nat × Nat × O)} (h : InvG F lim μ own s a w) (hd : ∀ k, o.dst = some k → k < F.nt)
    (ho : o.op = .build t ps) (hu : P.underlying t = some (.struct fs)) (hz : zeroOf P t = some z) (hpl : sizesOf P fs.toList = some pl) (hp : partsOf (fun i => pl[i]?) ps.toList = some ps')
    (hk : (I.build z ps').os.all (okO F.nt) = true) (hev : evI Φ F.nb (.build z ps') s.1 s.2 = some (x, ups, bx')) (hn : Goes F o s x ups bx' next) : o.wp P a w next Q := by
  simp only [evI, Option.map_eq_some_iff] at hev
  obtain ⟨cs', hf, he⟩ := hev
  cases he
  obtain ⟨i, zv, hi, hzv, hzl, hlen, h1⟩ := zero_rep hz
  obtain ⟨cells', g1, g2, g3, g4⟩ := fill_sound h (fun i => pl[i]?) false ps.toList ps' zv.cells (z.map cst1) cs' hp hk (by rw [← hzl]; simp) (fun i hi => ⟨.v (cst_cells hzl h1 i hi).1, (cst_cells (w := w) (lim := lim) hzl h1 i hi).2.1, fun h => by cases h⟩) hf
  have hpm := run_places (P := P) (w := w) fs.toList pl hpl
  have hrun : (execOp a.eval o).run P w = .ok (.value (.agg cells')) w := by
    have hm : (fs.mapM (fun f => do pure (f.offset, ← sizeOf f.type) : Field → Sem (Nat × Nat))).run P w = .ok pl.toArray w := by
      rw [Array.mapM_eq_mapM_toList]; simp only [Sem.run_map, hpm, Result.andThen_ok]
    simp only [bind_pure_comp] at hm
    have g1' : Instr.fill (fun x => pl.toArray[x]?) zv.cells (ps.map fun p => (p.1, a.eval p.2)).toList = some cells' := by
      simpa using g1
    simp [execOp, ho, Instr.build, zeroValue, typeInfo, hi, hzv, run_underlying hu, hm]
    simp at g1'
    simp [g1']
  refine pure_sound h hd hrun (.r (.agg _ _ g2 (fun j hj => (g4 j hj).1) (fun j hj => (g4 j hj).2.1))) (fun _ _ e => by cases e) hn

theorem s_bsl {mu : Bool} {t e : TypeId} {len : Nat} {ps : Array (Nat × Operand)} {i : TypeInfo} {z : List Value} {ps' : List (Nat × Nat × O)} (h : InvG F lim μ own s a w) (hd : ∀ k, o.dst = some k → k < F.nt)
    (ho : o.op = .buildSlice t len ps) (hu : P.underlying t = some (.slice e)) (hi : P.info? e = some i) (hz : zeroOf P e = some z) (hlim : len * i.size ≤ 16777216) (hpos : 0 < i.size)
    (hp : partsOf (fun k => some (k * i.size, i.size)) ps.toList = some ps')
    (hk : (I.bsl i.size len ((List.range (len * i.size)).map fun j => z.getD (j % z.length) undef) ps' mu).os.all (okO F.nt) = true)
    (hev : evI Φ F.nb (.bsl i.size len ((List.range (len * i.size)).map fun j => z.getD (j % z.length) undef) ps' mu) s.1 s.2 = some (x, ups, bx')) (hn : Goes F o s x ups bx' next) : o.wp P a w next Q := by
  simp only [evI] at hev
  obtain ⟨cs', hf, hev⟩ : ∃ cs', fillA s.1 true (((List.range (len * i.size)).map fun j => z.getD (j % z.length) undef).map cst1) ps' = some cs' ∧
      (if mu = true ∧ 0 < len then some (.bs s.2.length len i.size, [], s.2 ++ [cs']) else some (.sl (cs'.map A.norm1) len 1, [], s.2)) = some (x, ups, bx') := by
    split at hev
    · rename_i cs' hf; exact ⟨cs', hf, hev⟩
    · cases hev
  obtain ⟨i', zv, hi', hzv, hzl, hlen, h1⟩ := zero_rep hz
  rw [hi] at hi'
  cases hi'
  have hzsz : zv.cells.size = i.size := by rw [← hlen, ← hzl]; simp
  have hcells : ∀ n, 0 < n → (((Array.range n).map (zv.cells[· % zv.cells.size]!)).toList = (List.range n).map fun j => z.getD (j % z.length) undef) := by
    intro n hn
    rw [← hzl]
    simp only [Array.toList_map, Array.toList_range]
    apply List.map_congr_left
    intro j hj
    have : j % zv.cells.size < zv.cells.size := Nat.mod_lt _ (by omega)
    simp [this]
  have hone : ∀ v ∈ (List.range (len * i.size)).map (fun j => z.getD (j % z.length) undef), v.oneCell' = true := by
    intro v hv
    simp only [List.mem_map, List.mem_range] at hv
    obtain ⟨j, hj, rfl⟩ := hv
    have : j % z.length < z.length := Nat.mod_lt _ (by omega)
    rw [List.getD_eq_getElem?_getD, List.getElem?_eq_getElem this]
    exact h1 _ (List.getElem_mem _)
  -- the zero row
  obtain ⟨zc, zr, hzr1, hzr2, hzr3⟩ : ∃ zc zr : Array Value, zr.toList = ((List.range (len * i.size)).map fun j => z.getD (j % z.length) undef) ∧
      (Array.range (len * i.size)).map (zc[· % zc.size]!) = zr ∧ zc = (if len * i.size = 0 then #[] else zv.cells) := by
    by_cases h0 : len * i.size = 0
    · exact ⟨#[], #[], by simp [h0], by simp [h0], by rw [if_pos h0]⟩
    · exact ⟨zv.cells, _, hcells _ (by omega), rfl, by rw [if_neg h0]⟩
  obtain ⟨cells', g1, g2, g3, g4⟩ := fill_sound h (fun k => some (k * i.size, i.size)) true ps.toList ps' zr _ cs' hp hk (by rw [← hzr1]; simp) (fun i hi => ⟨.v (cst_cells hzr1 hone i hi).1, (cst_cells (w := w) (lim := lim) hzr1 hone i hi).2.1, fun _ => (cst_cells (w := w) (lim := lim) hzr1 hone i hi).2.2⟩) hf
  have g1' : Instr.fill (fun k => some (k * i.size, i.size)) zr (ps.map fun p => (p.1, a.eval p.2)).toList = some cells' := by simpa using g1
  have hrun : (execOp a.eval o).run P w = .ok (.value (.slice (some ⟨w.heap.size, 0, none⟩) len len)) (w.alloc (.cells cells' e)) := by
    have hnl : ¬ (len * i.size > 2 ^ 24) := by simpa using hlim
    have hs : (sizeOf e).run P w = .ok i.size w := by simp [sizeOf, typeInfo, hi]
    have hb : (Instr.buildSlice t len (ps.map fun p => (p.1, a.eval p.2))).run P w = .ok (.slice (some ⟨w.heap.size, 0, none⟩) len len) (w.alloc (.cells cells' e)) := by
      unfold Instr.buildSlice
      simp only [Sem.run_bind, run_underlying hu, Result.andThen_ok, hs]
      rw [if_neg hnl]
      have hzv' : (zeroValue e).run P w = .ok zv w := by simp [zeroValue, typeInfo, hi, hzv]
      by_cases h0 : len * i.size = 0
      · rw [if_pos h0] at hzr3 ⊢
        subst hzr3
        simp only [Sem.run_bind, Sem.run_pure, Result.andThen_ok, hzr2, g1']
        simp [newRow]
      · rw [if_neg h0] at hzr3 ⊢
        subst hzr3
        simp only [Sem.run_bind, Sem.run_pure, Result.andThen_ok, hzv', hzr2, g1']
        simp [newRow]
    simp only [execOp, ho, Sem.run_bind, hb, Result.andThen_ok, Sem.run_pure]
  split at hev
  · rename_i hmu
    cases hev
    have key := h.newBox0 (cs := cells') (t := e) (xs := cs') (by omega) (fun j hj => (g4 j hj).1) (fun j hj => (g4 j hj).2.1)
    refine wp_value hrun (hn _ _ (key.setO hd ?_ (fun l n b q c e => by cases e)))
    have hll : (((List.range (len * i.size)).map fun j => z.getD (j % z.length) undef).map cst1).length = len * i.size := by simp
    have := RepC.bs (w := w.alloc (.cells cells' e)) (lim := limBox w lim) (μ := μBox w μ s.2.length) (m := (s.2 ++ [cs']).length) s.2.length len i.size len (by simp) (Nat.le_refl _) (by unfold μBox; rw [if_pos rfl, rowSz_of (heap_alloc_new w _)]; omega)
    exact .r (.c (by simpa [μBox] using this))
  · cases hev
    have key := h.newRow (.cells cells' e) cs'.length
    refine wp_value hrun (hn _ _ (key.setO hd (.rv ?_) (fun l n b q c e => by cases e)))
    refine rep_row (by simp [g2]) (by simp) (Nat.le_refl _) (fun _ => rfl) (by omega) (fun j hj => ?_)
    rw [List.getElem_map]
    exact ((g4 j (by simpa using hj)).1.isV ((g4 j (by simpa using hj)).2.2 rfl)).norm1
end Go.Proofs.YtkohggddaheefaaEv
/- Each operation does what the evaluator says: slices, calls, and all together. -/
namespace Go.Proofs.YtkohggddaheefaaEv
open Go Go.RowKit

variable {P : Program} {F : Fr} {lim μ : Nat → Nat} {own : Nat → Pl} {s : Env × Bx} {a : Act} {w : World} {o : Oper} {next : Act → World → Prop} {Q : Exit → Act → World → Prop}
  {x : A} {ups : List (Nat × A)} {bx' : Bx} {Φ : CallF}

/-- The cells of a slice, as a list. -/
theorem sl_cells {v : Value} {l : List A} {n g : Nat} (h : RepV w lim v (.sl l n g)) :
    ∃ (base : Option Addr) (c : Nat) (cs : List Value), v = .slice base n c ∧ n ≤ c ∧ cs.length = l.length ∧ (∀ i (hi : i < l.length), RepV w lim (cs.getD i undef) l[i]) ∧
      (∀ sz, l.length = n * sz → (Builtin.firstCells sz n v).run P w = .ok cs.toArray w) ∧ (∀ w' : World, w'.heap = w.heap → ∀ sz, l.length = n * sz → (Builtin.firstCells sz n v).run P w' = .ok cs.toArray w') ∧
      ((l = [] ∧ n = 0 ∧ c = 0 ∧ (base = none ∨ (g ≠ 1 ∧ g ≠ 2 ∧ g ≠ 3 ∧ ∃ b q s, base = some ⟨b, q, some s⟩))) ∨ ∃ b q, base = some ⟨b, q, none⟩ ∧ (g = 1 → c = n) ∧ (∀ i, i < l.length → w.cell? ⟨b, q + i, none⟩ = some (cs.getD i undef)) ∧ (∀ i, i < l.length → q + i < lim b)) := by
  cases h with
  | nil g h4 => exact ⟨none, 0, [], rfl, Nat.le_refl _, rfl, fun i hi => by simp at hi, fun sz _ => run_firstCells_none ..,  fun w' _ sz _ => run_firstCells_none .., .inl ⟨rfl, rfl, rfl, .inl rfl⟩⟩
  | emp b q s g h3 => exact ⟨some ⟨b, q, some s⟩, 0, [], rfl, Nat.le_refl _, rfl, fun i hi => by simp at hi, fun sz _ => run_firstCells_some (P := P) w sz 0 _ 0 0 [] (by simp) (fun j v hj => by simp at hj), fun w' _ sz _ => run_firstCells_some (P := P) w' sz 0 _ 0 0 [] (by simp) (fun j v hj => by simp at hj), .inl ⟨rfl, rfl, rfl, .inr ⟨h3.1, h3.2.1, h3.2.2, b, q, s, rfl⟩⟩⟩
  | sl b q n c l g vs hn hg h3 hc hl hr =>
    have hgd : ∀ i, i < l.length → ((List.range l.length).map vs).getD i undef = vs i := by
      intro i hi
      rw [List.getD_eq_getElem?_getD, List.getElem?_map, List.getElem?_range hi]; rfl
    have hfc : ∀ w' : World, w'.heap = w.heap → ∀ sz, l.length = n * sz → (Builtin.firstCells sz n (.slice (some ⟨b, q, none⟩) n c)).run P w' = .ok ((List.range l.length).map vs).toArray w' := by
      intro w' hw sz hsz
      refine run_firstCells_some (P := P) w' sz n ⟨b, q, none⟩ n c ((List.range l.length).map vs) (by simpa using hsz) (fun j v hj => ?_)
      have hj' : j < l.length := by
        rcases Nat.lt_or_ge j l.length with h' | h'
        · exact h'
        · simp [h'] at hj
      rw [Addr.add_lit]
      rw [List.getElem?_map, List.getElem?_range hj'] at hj
      cases hj
      rw [cell?_of_heap (w := w) (by rw [hw])]
      exact hc j hj'
    exact ⟨_, c, (List.range l.length).map vs, rfl, hn, by simp, fun i hi => by rw [hgd i hi]; exact hr i hi, fun sz hsz => hfc w rfl sz hsz, hfc,
      .inr ⟨b, q, rfl, hg, fun i hi => by rw [hgd i hi]; exact hc i hi, hl⟩⟩

/-- What an append takes over. -/
theorem src_cells {v : Value} {y : A} {l2 : List A} {n2' : Nat} {bx : Bx} (hb : BoxRep w lim μ bx) (h : Rep w lim μ bx.length v y) (ha : asList bx y = some (l2, n2')) :
    ∃ (base : Option Addr) (c : Nat) (cs : List Value), v = .slice base n2' c ∧ cs.length = l2.length ∧ (∀ i (hi : i < l2.length), RepV w lim (cs.getD i undef) l2[i]) ∧
      (∀ w' : World, w'.heap = w.heap → ∀ sz, l2.length = n2' * sz → (Builtin.firstCells sz n2' v).run P w' = .ok cs.toArray w') := by
  unfold asList at ha
  split at ha
  · rename_i l n g
    cases ha
    obtain ⟨base, c, cs, ev, hnc, hcl, hcr, _, hfc, _⟩ := sl_cells (P := P) h.toSl
    exact ⟨base, c, cs, ev, hcl, hcr, hfc⟩
  · rename_i r n z
    split at ha
    · rename_i bs hbs
      split at ha
      · rename_i hcond
        obtain ⟨hle, hall⟩ := hcond
        cases ha
        obtain ⟨c, ev, hnc, hr⟩ := h.toBs
        rw [List.getElem?_eq_getElem hr] at hbs
        cases hbs
        obtain ⟨row, t, hh, hs, hc⟩ := hb.row r hr
        have hlen : ((bx[r].take (n2' * z)).map A.norm1).length = n2' * z := by simp; omega
        refine ⟨_, c, (List.range (n2' * z)).map fun i => row.getD i undef, ev, by rw [hlen]; simp, fun i hi => ?_, fun w' hw sz hsz => ?_⟩
        · rw [hlen] at hi
          rw [List.getElem_map, List.getElem_take]
          have e : ((List.range (n2' * z)).map fun i => row.getD i undef).getD i undef = row.getD i undef := by
            rw [List.getD_eq_getElem?_getD, List.getElem?_map, List.getElem?_range hi]; rfl
          rw [e]
          have hV := List.all_eq_true.1 hall (bx[r][i]'(by omega)) (by
            rw [List.mem_take_iff_getElem]; exact ⟨i, by omega, rfl⟩)
          exact ((hc i (by omega)).isV hV).norm1
        · rw [hlen] at hsz
          rw [ev]
          refine run_firstCells_some (P := P) w' sz n2' ⟨μ r, 0, none⟩ n2' c _ (by simpa using hsz) (fun j v hj => ?_)
          have hj' : j < n2' * z := by
            rcases Nat.lt_or_ge j (n2' * z) with h' | h'
            · exact h'
            · simp [h'] at hj
          rw [Addr.add_lit, Nat.zero_add]
          rw [List.getElem?_map, List.getElem?_range hj'] at hj
          cases hj
          rw [cell?_of_heap (w := w) (by rw [hw])]
          exact cell_of_row hh (by omega)
      · cases ha
    · cases ha
  · cases ha

theorem app_grow (t u ty e : TypeId) (i : TypeInfo) (z : Value) (d : TypeDesc) (ht : P.underlying t = some (.slice e)) (hu : P.underlying u = some d) (hd : ∃ e', d = .slice e') (hi : P.info? e = some i) (hz : i.zero = some z)
    (base base2 : Option Addr) (n c n2 c2 : Nat) (olds news : List Value) (ho : ∀ w' : World, w'.heap = w.heap → (Builtin.firstCells i.size n (.slice base n c)).run P w' = .ok olds.toArray w')
    (hn : ∀ w' : World, w'.heap = w.heap → (Builtin.firstCells i.size n2 (.slice base2 n2 c2)).run P w' = .ok news.toArray w') (hg : c < n + n2) (hb : (n + n2) * i.bytes ≤ 70368744177664) (hb0 : 0 < i.bytes) :
    (Builtin.append_ #[t, u] ty #[.slice base n c, .slice base2 n2 c2]).run P w =
      .ok (.slice (some ⟨w.heap.size, 0, none⟩) (n + n2) (grownCap w (n + n2) c e)) (w.drew.alloc (.cells (olds.toArray ++ news.toArray ++ Builtin.zeroCells z.cells (grownCap w (n + n2) c e - (n + n2))) e)) := by
  obtain ⟨e', rfl⟩ := hd
  have hle : n + n2 ≤ (n + n2) * i.bytes := Nat.le_mul_of_pos_right _ hb0
  have h1 : ¬ (n + n2 ≤ c) := by omega
  have h63' : ¬ (9223372036854775807 < ((n : Int) + (n2 : Int))) := by omega
  have h48 := growslice_fits (bytes := i.bytes) hg (by omega)
  have h48' : ¬ (281474976710656 < Builtin.nextslicecap (n + n2) c * i.bytes) := by omega
  have f1 := ho w.drew rfl
  have f2 := hn w.drew rfl
  simp [Builtin.append_, run_underlying ht, run_underlying hu, sizeOf, typeInfo, zeroValue, hi, hz, Builtin.lenOf, h1, h63', h48', Question.forced, f1, f2, newRow, grownCap]
  congr 2
  apply Array.ext'
  simp [List.append_assoc]

theorem app_room (t u ty e : TypeId) (i : TypeInfo) (d : TypeDesc) (ht : P.underlying t = some (.slice e)) (hu : P.underlying u = some d) (hd : ∃ e', d = .slice e') (hi : P.info? e = some i)
    (b q : Nat) (base2 : Option Addr) (n c n2 c2 : Nat) (news : List Value) (hn : (Builtin.firstCells i.size n2 (.slice base2 n2 c2)).run P w = .ok news.toArray w) (hg : n + n2 ≤ c) (h1 : ∀ v ∈ news, v.oneCell' = true)
    (hc : ∀ j, j < news.length → (w.cell? ⟨b, q + n * i.size + j, none⟩).isSome = true) (hf : ∀ j, j < news.length → w.frozen? ⟨b, q + n * i.size + j, none⟩ = false) :
    (Builtin.append_ #[t, u] ty #[.slice (some ⟨b, q, none⟩) n c, .slice base2 n2 c2]).run P w = .ok (.slice (some ⟨b, q, none⟩) (n + n2) c) (w.setCells b (q + n * i.size) news) := by
  obtain ⟨e', rfl⟩ := hd
  have hst := run_storeCells_cells (P := P) b (q + n * i.size) news 0 w (by simpa using hc) (by simpa using hf) h1
  simp only [Nat.add_zero] at hst
  simp [Builtin.append_, run_underlying ht, run_underlying hu, sizeOf, typeInfo, hi, Builtin.lenOf, hg, hn, Addr.add_lit, hst]

theorem app_room_nil (t u ty e : TypeId) (i : TypeInfo) (d : TypeDesc) (ht : P.underlying t = some (.slice e)) (hu : P.underlying u = some d) (hd : ∃ e', d = .slice e') (hi : P.info? e = some i)
    (base2 : Option Addr) (n c n2 c2 : Nat) (news : List Value) (hn : (Builtin.firstCells i.size n2 (.slice base2 n2 c2)).run P w = .ok news.toArray w) (hg : n + n2 ≤ c) :
    (Builtin.append_ #[t, u] ty #[.slice none n c, .slice base2 n2 c2]).run P w = .ok (.slice none (n + n2) c) w := by
  obtain ⟨e', rfl⟩ := hd
  simp [Builtin.append_, run_underlying ht, run_underlying hu, sizeOf, typeInfo, hi, Builtin.lenOf, hg, hn]

/-- A row beyond its end is written by the only one who may. -/
theorem InvG.grow (h : InvG F lim μ own s a w) {b q n c sz : Nat} {l : List A} {vs : List Value} {cs : Array Value} {t : TypeId} (hfree : FreeB F μ s a w b) (hbase : F.w0.heap.size ≤ b) (hlim : lim b = q + l.length) (hpos : 0 < l.length)
    (hh : w.heap[b]? = some (.cells cs t (0, 0))) :
    InvG F (fun k => if k = b then lim b + vs.length else lim k) μ own s a (w.setCells b (q + l.length) vs) ∧ Ext w lim (w.setCells b (q + l.length) vs) (fun k => if k = b then lim b + vs.length else lim k) := by
  have hrows := fun k => Nat.le_of_eq (setCells_rows vs w b (q + l.length) k).symm
  have hbb := setCells_below vs w b (q + l.length) _ hbase
  have hext : Ext w lim (w.setCells b (q + l.length) vs) (fun k => if k = b then lim b + vs.length else lim k) := by
    refine ⟨?_, hrows⟩
    intro b' o v ho hc
    refine ⟨?_, by simp only; split <;> rename_i e; · subst e; omega
                   · exact ho⟩
    by_cases e : b' = b
    · subst e
      rw [World.cell?_setCells_out b' vs (q + l.length) w _ (fun _ _ => .inl (by simp; omega))]
      exact hc
    · rw [cell?_of_heap (setCells_other vs w b (q + l.length) b' e)]; exact hc
  have hnb : ∀ r, r < s.2.length → μ r ≠ b := by
    intro r hr e
    have := h.box.lim0 r hr
    rw [e] at this; omega
  refine ⟨⟨h.defers, h.size, h.nb, h.mu0, h.mub, fun i => (h.env i).mono hext (fun _ _ => rfl) (Nat.le_refl _), ⟨?_, ?_, h.box.inj⟩, ?_, ?_, h.below.trans ⟨hbb.os, hbb.tape, hbb.output, hbb.size, fun k hk _ => hbb.block k hk, hrows⟩, ?_⟩, hext⟩
  · intro r hr
    obtain ⟨cs1, t1, k1, k2, k3⟩ := h.box.row r hr
    exact ⟨cs1, t1, (setCells_other vs w b _ _ (hnb r hr)).trans k1, k2, fun z hz => (k3 z hz).mono hext (fun _ _ => rfl) (Nat.le_refl _)⟩
  · intro r hr
    show (if μ r = b then _ else _) = 0
    rw [if_neg (hnb r hr)]; exact h.box.lim0 r hr
  · intro i l' n' b' o' c' f1 f2 f3
    obtain ⟨g1, g2, g3, g4, cs1, t1, sz1, g5, g6, g7⟩ := h.flt i l' n' b' o' c' f1 f2 f3
    have hne : b' ≠ b := by rintro rfl; exact hfree.1 i l' n' o' c' f1 f2 f3
    exact ⟨g1, g2, by simp only; rw [if_neg hne]; exact g3, g4, cs1, t1, sz1, (setCells_other vs w b _ _ hne).trans g5, g6, g7⟩
  · intro r z cs1 t1 hr hr' hheap hz l' n' b' o' c' f1 f2 f3
    rw [setCells_other vs w b _ _ (hnb r hr')] at hheap
    obtain ⟨g1, g2, g3, g4, cs2, t2, sz1, g5, g6, g7⟩ := h.flb r z cs1 t1 hr hr' hheap hz l' n' b' o' c' f1 f2 f3
    have hne : b' ≠ b := by rintro rfl; exact hfree.2 r z cs1 t1 l' n' o' c' hr hr' hheap hz f1 f2 f3
    exact ⟨g1, g2, by simp only; rw [if_neg hne]; exact g3, g4, cs2, t2, sz1, (setCells_other vs w b _ _ hne).trans g5, g6, g7⟩
  · intro b' hb'
    show (if b' = b then _ else _) = _
    rw [if_neg (by omega)]; exact h.lim0 b' hb'

/-- The right of an operand that has one. -/
theorem flag_of (h : InvG F lim μ own s a w) {y : Operand} {y' : O} (h1 : toO y = some y') {l : List A} {n b q c : Nat} (e1 : y'.ev s.1 = .sl l n 2) (ev1 : a.eval y = .slice (some ⟨b, q, none⟩) n c) (hc : n < c) :
    FreeB F μ (puts (takeU y' s.1) s.1, s.2) a w b ∧ Flagged w lim F.w0.heap.size b q n c l := by
  cases y' with
  | t k =>
    cases y <;> simp [toO] at h1
    subst h1
    exact (h.take _).2 _ l n b q c rfl e1 ev1 hc
  | c v =>
    exfalso
    simp only [O.ev, cst] at e1
    split at e1
    · cases e1
    · exact n2_cst1 _ _ _ e1
  | f k => cases e1

theorem freeB_mono (h : InvG F lim μ own s a w) {b : Nat} (hf : FreeB F μ s a w b) {w' : World} (hb : Below w.heap.size w w') : FreeB F μ s a w' b := by
  refine ⟨hf.1, fun r z cs t l n o' c hr hr' hh => hf.2 r z cs t l n o' c hr hr' ?_⟩
  rw [← hb.block _ (h.box.lt hr')]; exact hh

theorem s_app {mu : Bool} {y z : Operand} {y' z' : O} {t u e : TypeId} {i : TypeInfo} {d : TypeDesc} {zr : List Value} (h : InvG F lim μ own s a w) (hd : ∀ k, o.dst = some k → k < F.nt)
    (ho : o.op = .call { callee := .builtin .append, args := #[y, z], argTypes := #[t, u] }) (ht : P.underlying t = some (.slice e)) (hu : P.underlying u = some d) (hdd : ∃ e', d = .slice e') (hi : P.info? e = some i) (hz : zeroOf P e = some zr)
    (hsz : 0 < i.size) (hby : 0 < i.bytes) (h1 : toO y = some y') (h2 : toO z = some z') (hk1 : okO F.nt y' = true) (hk2 : okO F.nt z' = true)
    (hev : evI Φ F.nb (.app i.size i.bytes y' z' mu) s.1 s.2 = some (x, ups, bx')) (hn : Goes F o s x ups bx' next) : o.wp P a w next Q := by
  have hy := eval_rep h h1 hk1
  have hzv := eval_rep h h2 hk2
  obtain ⟨i', zv, hi', hzero, hzl, hzlen, hzone⟩ := zero_rep hz
  rw [hi] at hi'; cases hi'
  have hzc : zv.cells.size = i.size := by rw [← hzlen, ← hzl]; simp
  simp only [evI] at hev
  split at hev
  · rename_i l n g l2 n2' e1 e2
    rw [e1] at hy
    split at hev
    · rename_i hcond
      obtain ⟨hg, hl1, hl2, hbytes⟩ := hcond
      obtain ⟨hI, hF⟩ := h.take y'
      obtain ⟨base, c, cs, ev1, hnc, hcl, hcr, _, hfc, hor0⟩ := sl_cells (P := P) hy.toSl
      have hor : (base = none ∧ l = [] ∧ n = 0 ∧ c = 0) ∨ ∃ b q, base = some ⟨b, q, none⟩ ∧ (g = 1 → c = n) ∧ (∀ i, i < l.length → w.cell? ⟨b, q + i, none⟩ = some (cs.getD i undef)) ∧ (∀ i, i < l.length → q + i < lim b) := by
        rcases hor0 with ⟨z1, z2, z3, z4 | ⟨z4, z5, _⟩⟩ | z
        · exact .inl ⟨z4, z1, z2, z3⟩
        · rcases hg with hg | hg <;> simp [hg] at z4 z5
        · exact .inr z
      obtain ⟨base2, c2, cs2, ev2, hcl2, hcr2, hfc2⟩ := src_cells (P := P) h.box hzv e2
      have hfc2w := hfc2 w rfl
      have hones : ∀ v ∈ cs2, v.oneCell' = true := by
        intro v hv
        obtain ⟨j, hj, rfl⟩ := List.getElem_of_mem hv
        have := (hcr2 j (by omega)).one
        rwa [List.getD_eq_getElem?_getD, List.getElem?_eq_getElem hj] at this
      have hrunOf : ∀ {v w'}, (Builtin.append_ #[t, u] o.type #[a.eval y, a.eval z]).run P w = .ok v w' → (execOp a.eval o).run P w = .ok (.value v) w' := by
        intro v w' hr
        refine run_builtin ho fun cs => ?_
        simp [builtin, hr]
      have hget : ∀ j (hj : j < (l ++ l2).length), RepV w lim ((cs ++ cs2).getD j undef) (l ++ l2)[j] := by
        intro j hj
        by_cases hlt : j < l.length
        · rw [List.getElem_append_left hlt]
          have := hcr j hlt
          rwa [List.getD_eq_getElem?_getD, List.getElem?_append_left (by omega), ← List.getD_eq_getElem?_getD]
        · rw [List.getElem_append_right (by omega)]
          have := hcr2 (j - l.length) (by simp at hj; omega)
          rw [List.getD_eq_getElem?_getD, List.getElem?_append_right (by omega), hcl, ← List.getD_eq_getElem?_getD]
          exact this
      have hflagg : ∀ b q, base = some ⟨b, q, none⟩ → n < c → FreeB F μ (puts (takeU y' s.1) s.1, s.2) a w b ∧ Flagged w lim F.w0.heap.size b q n c l := by
        rintro b q rfl hlt
        rcases hg with rfl | rfl
        · rcases hor with ⟨h0, _⟩ | ⟨b', q', _, hg1, _⟩
          · cases h0
          · have := hg1 rfl; omega
        · exact flag_of h h1 e1 ev1 hlt
      -- the new row, where there is no room
      have hgrow : c < n + n2' → ∃ cs0 : Array Value, (Builtin.append_ #[t, u] o.type #[a.eval y, a.eval z]).run P w = .ok (.slice (some ⟨w.drew.heap.size, 0, none⟩) (n + n2') (grownCap w (n + n2') c e)) (w.drew.alloc (.cells cs0 e)) ∧
          cs0.size = grownCap w (n + n2') c e * i.size ∧ n + n2' ≤ grownCap w (n + n2') c e ∧ (∀ j, j < (l ++ l2).length → cs0.getD j undef = (cs ++ cs2).getD j undef) := by
        intro hcg
        have hge := grownCap_ge w (n + n2') c e
        have hr := app_grow (w := w) t u o.type e i zv d ht hu hdd hi hzero base base2 n c n2' c2 cs cs2 (fun w' hw => by rw [← ev1]; exact hfc w' hw _ hl1) (fun w' hw => by rw [← ev2]; exact hfc2 w' hw _ hl2) hcg hbytes hby
        rw [← ev1, ← ev2] at hr
        refine ⟨_, hr, ?_, hge, fun j hj => ?_⟩
        · simp only [Array.size_append, List.size_toArray, size_zeroCells, hzc, hcl, hcl2, hl1, hl2, ← Nat.add_mul]
          congr 1; omega
        · have hj' : j < (cs ++ cs2).length := by simp [hcl, hcl2]; simp at hj; omega
          rw [Array.getD_eq_getD_getElem?, List.getD_eq_getElem?_getD]
          rw [Array.getElem?_append_left (by simpa using hj')]
          simp
      have hI' := (hI.step (lim' := lim) (drew_below w) (fun _ _ => rfl))
      have hlen : (l ++ l2).length = (n + n2') * i.size := by simp [hl1, hl2, Nat.add_mul]
      split at hev
      · -- to be written: a box
        rename_i hmu
        obtain ⟨_, hn0, hn2⟩ := hmu
        cases hev
        have hcn : c = n := by
          rcases hor with ⟨_, _, h1, h0⟩ | ⟨b, q, hb, hg1, _⟩
          · omega
          · rcases hn0 with hn0 | hg
            · subst hn0
              have hl0 : l = [] := by apply List.eq_nil_of_length_eq_zero; simpa using hl1
              subst hl0
              rcases Nat.eq_zero_or_pos c with h0 | h0
              · exact h0
              · have := (hflagg b q hb h0).2.2.2.1
                simp at this
            · exact hg1 hg
        obtain ⟨cs0, hr, hsize, hge, hcs0⟩ := hgrow (by omega)
        have key := hI'.newBox0 (cs := cs0) (t := e) (xs := (l ++ l2).map A.norm1) (by rw [List.length_map, hsize, hlen]; exact Nat.mul_le_mul_right _ hge) (fun j hj => by
            have hj' : j < (l ++ l2).length := by simpa using hj
            have := hget j hj'
            rw [hcs0 j hj', List.getElem_map]
            exact .v (this.mono (.of_below (drew_below w) fun _ _ => rfl)).norm1)
          (fun j hj => by rw [List.getElem_map]; exact n2_norm1 _)
        refine wp_value (hrunOf hr) (hn _ _ (key.setO hd ?_ (fun l n b q c e => by cases e)))
        have := RepC.bs (w := w.drew.alloc (.cells cs0 e)) (lim := limBox w.drew lim) (μ := μBox w.drew μ s.2.length) (m := (s.2 ++ [(l ++ l2).map A.norm1]).length) s.2.length (n + n2') i.size (grownCap w (n + n2') c e) (by simp) (by omega) (by unfold μBox; rw [if_pos rfl, rowSz_of (heap_alloc_new w.drew _), hsize]; exact Nat.le_refl _)
        exact .r (.c (by simpa [μBox] using this))
      · cases hev
        by_cases hroom : n + n2' ≤ c
        · rcases hor with ⟨rfl, rfl, rfl, rfl⟩ | ⟨b, q, rfl, hg1, hc1, hlim1⟩
          · -- nothing onto nothing
            have hn0 : n2' = 0 := by omega
            subst hn0
            have hl20 : l2 = [] := by simpa using hl2
            subst hl20
            have hr := app_room_nil (w := w) t u o.type e i d ht hu hdd hi base2 0 0 0 c2 cs2 (by rw [← ev2]; exact hfc2w _ hl2) (Nat.le_refl _)
            rw [← ev1, ← ev2] at hr
            refine wp_value (hrunOf hr) (hn _ _ (hI.setO hd (.rv (by rw [ev1]; exact RepV.nil 2 (by omega))) (fun l n b q c e' e2' e3' => by rw [ev1] at e2'; cases e2')))
          · have hflag := hflagg b q rfl
            by_cases hn0 : n2' = 0
            · -- nothing is appended
              subst hn0
              have hl20 : l2 = [] := by apply List.eq_nil_of_length_eq_zero; simpa using hl2
              subst hl20
              have hcs2 : cs2 = [] := by apply List.eq_nil_of_length_eq_zero; simpa using hcl2
              subst hcs2
              have hr := app_room (w := w) t u o.type e i d ht hu hdd hi b q base2 n c 0 c2 [] (by rw [← ev2]; exact hfc2w _ hl2) (by simpa using hnc) (by simp) (fun j hj => by simp at hj) (fun j hj => by simp at hj)
              rw [← ev1, ← ev2] at hr
              refine wp_value (hrunOf hr) (hn _ _ ?_)
              simp only [World.setCells, List.append_nil, Nat.add_zero]
              have hR : Rep w lim μ s.2.length (.slice (some ⟨b, q, none⟩) n c) (.sl l n 2) := .rv (.sl b q n c l 2 (fun i => cs.getD i undef) hnc (fun h => by cases h) (by omega) hc1 hlim1 (fun i hi => hcr i hi))
              refine hI.setO hd hR ?_
              intro l' n' b' q' c' f1 f2 f3
              cases f1
              cases f2
              exact hflag f3
            · -- into its own room
              have hlt : n < c := by omega
              obtain ⟨hfree, hbase, hlim, hpos, rcs, rt, sz, hh, hsz1, hsz2⟩ := hflag hlt
              have hn1 : 0 < n := by
                rcases Nat.eq_zero_or_pos n with h0 | h0
                · subst h0; simp at hl1; simp [hl1] at hpos
                · exact h0
              have hszz : sz = i.size := by
                have : n * sz = n * i.size := by omega
                exact Nat.eq_of_mul_eq_mul_left hn1 this
              subst hszz
              have hend : q + l.length + l2.length ≤ rcs.size := by
                rw [hsz2, hl1, hl2, Nat.add_assoc, ← Nat.add_mul]
                have := Nat.mul_le_mul_right i.size hroom
                omega
              have hr := app_room (w := w) t u o.type e i d ht hu hdd hi b q base2 n c n2' c2 cs2 (by rw [← ev2]; exact hfc2w _ hl2) hroom hones
                (fun j hj => by rw [← hl1, cell_of_row hh (by omega)]; rfl) (fun j hj => by simp [World.frozen?, hh])
              rw [← ev1, ← ev2, ← hl1] at hr
              obtain ⟨hG, hext⟩ := hI.grow (sz := i.size) (n := n) (c := c) (vs := cs2) hfree hbase hlim hpos hh
              obtain ⟨cs', k1, k2, k3⟩ := setCells_heap cs2 w rcs rt (0, 0) b (q + l.length) hh
              have hcell : ∀ j, j < (l ++ l2).length → (w.setCells b (q + l.length) cs2).cell? ⟨b, q + j, none⟩ = some ((cs ++ cs2).getD j undef) := by
                intro j hj
                simp only [List.length_append] at hj
                by_cases hjl : j < l.length
                · rw [(hext.1 b (q + j) _ (hlim1 j hjl) (hc1 j hjl)).1]
                  rw [List.getD_eq_getElem?_getD, List.getD_eq_getElem?_getD, List.getElem?_append_left (by omega)]
                · rw [cell_of_row k1 (by omega), k3 _ (by omega), if_pos (by omega)]
                  rw [List.getD_eq_getElem?_getD, List.getD_eq_getElem?_getD, List.getElem?_append_right (by omega)]
                  congr 3
                  omega
              refine wp_value (hrunOf hr) (hn _ _ (hG.setO hd (.rv ?_) ?_))
              · refine .sl b q (n + n2') c (l ++ l2) 2 (fun j => (cs ++ cs2).getD j undef) hroom (fun h => by cases h) (by omega) hcell (fun j hj => ?_) (fun j hj => (hget j hj).mono hext)
                simp only [List.length_append] at hj
                simp; omega
              · intro l' n' b' q' c' f1 f2 f3
                cases f1
                cases f2
                refine ⟨⟨hfree.1, ?_⟩, hbase, ?_, by simp; omega, cs', rt, i.size, k1, by simp [hl1, hl2, Nat.add_mul], by rw [k2, hsz2]⟩
                · intro r z cs1 t1 l' n' o' c' hr' hr'' hheap hz f1 f2 f3
                  have hne : μ r ≠ b := by
                    intro e'
                    have := h.box.lim0 r hr''
                    rw [e'] at this; omega
                  rw [setCells_other cs2 w b _ _ hne] at hheap
                  exact hfree.2 r z cs1 t1 l' n' o' c' hr' hr'' hheap hz f1 f2 f3
                · simp; omega
        · -- into a new row
          obtain ⟨cs0, hr, hsize, hge, hcs0⟩ := hgrow (by omega)
          have key := hI'.newRow (.cells cs0 e) (l ++ l2).length
          refine wp_value (hrunOf hr) (hn _ _ (key.setO hd (.rv ?_) ?_))
          · refine rep_row (w := w.drew) (by rw [hsize, hlen]; exact Nat.mul_le_mul_right _ hge) (Nat.le_refl _) hge (fun h => by cases h) (by omega) (fun j hj => ?_)
            rw [hcs0 j hj]
            exact (hget j hj).mono (.of_below (drew_below w) fun _ _ => rfl)
          · intro l' n' b' q' c' f1 f2 f3
            cases f1
            cases f2
            refine ⟨freeB_mono hI' (freeB_new hI' (Nat.le_refl _)) (alloc_below _ _), ?_, ?_, ?_, _, e, i.size, heap_alloc_new _ _, hlen, ?_⟩
            · exact h.below.size
            · show (if w.drew.heap.size = w.drew.heap.size then (l ++ l2).length else lim w.drew.heap.size) = 0 + (l ++ l2).length
              rw [if_pos rfl, Nat.zero_add]
            · rw [hlen]; exact Nat.mul_pos (by omega) hsz
            · rw [hsize]; simp
    · cases hev
  · cases hev
end Go.Proofs.YtkohggddaheefaaEv
/- Each operation does what the evaluator says: the last ones, and all together. -/
namespace Go.Proofs.YtkohggddaheefaaEv
open Go Go.RowKit

variable {P : Program} {F : Fr} {lim μ : Nat → Nat} {own : Nat → Pl} {s : Env × Bx} {a : Act} {w : World} {o : Oper} {next : Act → World → Prop} {Q : Exit → Act → World → Prop}
  {x : A} {ups : List (Nat × A)} {bx' : Bx} {Φ : CallF}

theorem s_mksl {mu : Bool} {t e : TypeId} {l c : Operand} {y' : O} {i : TypeInfo} {z : List Value} (h : InvG F lim μ own s a w) (hd : ∀ k, o.dst = some k → k < F.nt) (ho : o.op = .makeSlice t l c)
    (hu : P.underlying t = some (.slice e)) (hi : P.info? e = some i) (hz : zeroOf P e = some z) (hpos : 0 < i.size) (hbpos : 0 < i.bytes) (hlc : sameO l c = true) (h1 : toO l = some y') (hk : okO F.nt y' = true)
    (hev : evI Φ F.nb (.mksl i.size i.bytes z y' mu) s.1 s.2 = some (x, ups, bx')) (hn : Goes F o s x ups bx' next) : o.wp P a w next Q := by
  have hy := eval_rep h h1 hk
  have hc : a.eval c = a.eval l := by
    unfold sameO at hlc
    split at hlc
    · rw [beq_iff_eq] at hlc; rw [hlc]
    · rw [beq_iff_eq] at hlc; rw [hlc]
    · cases hlc
  obtain ⟨i', zv, hi', hzero, hzl, hzlen, hzone⟩ := zero_rep hz
  rw [hi] at hi'; cases hi'
  have hzc : zv.cells.size = i.size := by rw [← hzlen, ← hzl]; simp
  simp only [evI] at hev
  split at hev
  · rename_i k e1
    rw [e1] at hy
    obtain ⟨hv, _⟩ := hy.val
    split at hev
    · rename_i hcond
      obtain ⟨h0, hb⟩ := hcond
      obtain ⟨n, rfl⟩ := Int.eq_ofNat_of_zero_le h0
      have hby : n * i.bytes ≤ 70368744177664 := by
        have h2 : ((n * i.bytes : Nat) : Int) ≤ 70368744177664 := by rw [Int.natCast_mul]; exact hb
        omega
      simp only [Int.toNat_natCast] at hev
      obtain ⟨cells, hc1, hc2⟩ : ∃ cells : Array Value, cells.toList = (List.replicate n z).flatten ∧ (Array.range (n * i.size)).map (zv.cells[· % zv.cells.size]!) = cells := by
        refine ⟨_, ?_, rfl⟩
        have hf : ∀ m, (List.replicate m z).flatten = (List.range (m * i.size)).map fun j => z.getD (j % z.length) undef := by
          intro m
          induction m with
          | zero => simp
          | succ m ih =>
            rw [List.replicate_succ', List.flatten_append, ih, Nat.succ_mul, List.range_add, List.map_append]
            congr 1
            simp only [List.flatten_singleton, List.map_map]
            apply List.ext_getElem
            · simp [hzlen]
            · intro j h1 h2
              have hj : j < z.length := h1
              simp only [List.getElem_map, List.getElem_range, Function.comp]
              rw [hzlen] at hj ⊢
              rw [Nat.mul_comm, Nat.mul_add_mod, Nat.mod_eq_of_lt hj]
              simp [h1]
        rw [hf, ← hzl]
        simp only [Array.toList_map, Array.toList_range]
        apply List.map_congr_left
        intro j hj
        have : j % zv.cells.size < zv.cells.size := Nat.mod_lt _ (by omega)
        simp [this]
      have hsize : cells.size = n * i.size := by rw [← hc2]; simp
      have hones : ∀ v ∈ (List.replicate n z).flatten, v.oneCell' = true := by
        intro v hv
        simp only [List.mem_flatten, List.mem_replicate] at hv
        obtain ⟨l, ⟨_, rfl⟩, hv⟩ := hv
        exact hzone v hv
      have hmap : (List.replicate n (z.map cst1)).flatten = ((List.replicate n z).flatten).map cst1 := by
        rw [List.map_flatten, List.map_replicate]
      have hnle : n ≤ n * i.bytes := Nat.le_mul_of_pos_right _ hbpos
      have hrun : (execOp a.eval o).run P w = .ok (.value (.slice (some ⟨w.heap.size, 0, none⟩) n n)) (w.alloc (.cells cells e)) := by
        have hm := run_make (P := P) w t e i zv hu hi hzero .i64 .i64 n n (by omega) (Int.le_refl _) (by rw [Int.mul_comm]; omega) (by omega)
        simp only [Int.toNat_natCast, madeCells, hc2] at hm
        simp [execOp, ho, hc, hv, hm]
      have hcl : ((List.replicate n (z.map cst1)).flatten).length = n * i.size := by
        rw [hmap, List.length_map, ← hc1]; simpa using hsize
      have hcc : ∀ j (hj : j < ((List.replicate n (z.map cst1)).flatten).length), RepV w lim (cells.getD j undef) ((List.replicate n (z.map cst1)).flatten)[j] ∧ n2 ((List.replicate n (z.map cst1)).flatten)[j] := by
        intro j hj
        have := cst_cells (w := w) (lim := lim) hc1 hones j (by rw [← hmap]; exact hj)
        simp only [hmap]
        exact ⟨this.1, this.2.1⟩
      split at hev
      · rename_i hmu
        cases hev
        have key := h.newBox0 (cs := cells) (t := e) (xs := (List.replicate n (z.map cst1)).flatten) (by rw [hcl, hsize]; exact Nat.le_refl _) (fun j hj => .v (hcc j hj).1) (fun j hj => (hcc j hj).2)
        refine wp_value hrun (hn _ _ (key.setO hd ?_ (fun l n b q c e => by cases e)))
        have := RepC.bs (w := w.alloc (.cells cells e)) (lim := limBox w lim) (μ := μBox w μ s.2.length) (m := (s.2 ++ [(List.replicate n (z.map cst1)).flatten]).length) s.2.length n i.size n (by simp) (Nat.le_refl _) (by unfold μBox; rw [if_pos rfl, rowSz_of (heap_alloc_new w _), hsize]; exact Nat.le_refl _)
        exact .r (.c (by simpa [μBox] using this))
      · cases hev
        have key := h.newRow (.cells cells e) (n * i.size)
        refine wp_value hrun (hn _ _ (key.setO hd (.rv ?_) (fun l n b q c e => by cases e)))
        have hll : ((List.replicate n (z.map cst1)).flatten.map A.norm1).length = n * i.size := by rw [List.length_map, hcl]
        refine rep_row (by rw [hll, hsize]; exact Nat.le_refl _) (by rw [hll]; exact Nat.le_refl _) (Nat.le_refl _) (fun _ => rfl) (by omega) (fun j hj => ?_)
        rw [List.getElem_map]
        exact (hcc j (by simpa using hj)).1.norm1
    · cases hev
  · cases hev

theorem s_fa {t : TypeId} {p : Operand} {p' : O} {k : Nat} {fs : Array Field} {f : Field} {i : TypeInfo} (h : InvG F lim μ own s a w) (hd : ∀ k, o.dst = some k → k < F.nt) (ho : o.op = .fieldAddr t p k)
    (hu : P.underlying t = some (.struct fs)) (hf : fs[k]? = some f) (hi : P.info? f.type = some i) (hsz : i.size ≠ 0) (h1 : toO p = some p') (hk : okO F.nt p' = true)
    (hev : evI Φ F.nb (.fa f.offset p') s.1 s.2 = some (x, ups, bx')) (hn : Goes F o s x ups bx' next) : o.wp P a w next Q := by
  have hp := eval_rep h h1 hk
  have hrun : ∀ b q, a.eval p = .pointer (some ⟨b, q, none⟩) → (execOp a.eval o).run P w = .ok (.value (.pointer (some ⟨b, q + f.offset, none⟩))) w := by
    intro b q e
    refine run_fa ho ?_
    have hs : (sizeOf f.type).run P w = .ok i.size w := by simp [sizeOf, typeInfo, hi]
    simp [Instr.fieldAt, run_underlying hu, hf, e, Instr.sureAddr, fieldPlace, hs, hsz, Addr.add_lit]
  simp only [evI] at hev
  split at hev
  · rename_i r q e
    rw [e] at hp
    obtain ⟨hvp, hr⟩ := hp.toPtr
    cases hev
    exact pure_sound h hd (hrun _ _ hvp) (.ptr r _ hr) (fun _ _ e => by cases e) hn
  · rename_i l e
    rw [e] at hp
    obtain ⟨b, q, vs, hvp, hc, hl, hr⟩ := hp.toIp
    cases hev
    refine pure_sound h hd (hrun _ _ hvp) (.ip b _ _ (fun j => vs (f.offset + j)) (fun j hj => ?_) (fun j hj => ?_) (fun j hj => ?_)) (fun _ _ e => by cases e) hn
    · rw [Nat.add_assoc]; exact hc _ (by simp at hj; omega)
    · rw [Nat.add_assoc]; exact hl _ (by simp at hj; omega)
    · rw [List.getElem_drop]; exact hr _ (by simp at hj; omega)
  · rename_i b0 o0 l e
    rw [e] at hp
    obtain ⟨b, q, vs, hvp, hc, hl, hr⟩ := hp.toIpx.2.toIp
    cases hev
    refine pure_sound h hd (hrun _ _ hvp) (.ip b _ _ (fun j => vs (f.offset + j)) (fun j hj => ?_) (fun j hj => ?_) (fun j hj => ?_)) (fun _ _ e => by cases e) hn
    · rw [Nat.add_assoc]; exact hc _ (by simp at hj; omega)
    · rw [Nat.add_assoc]; exact hl _ (by simp at hj; omega)
    · rw [List.getElem_drop]; exact hr _ (by simp at hj; omega)
  · cases hev

theorem s_ia {t e : TypeId} {p k : Operand} {p' k' : O} {i : TypeInfo} (h : InvG F lim μ own s a w) (hd : ∀ k, o.dst = some k → k < F.nt) (ho : o.op = .indexAddr t p k)
    (hu : P.underlying t = some (.slice e)) (hi : P.info? e = some i) (h1 : toO p = some p') (h2 : toO k = some k') (hk1 : okO F.nt p' = true) (hk2 : okO F.nt k' = true)
    (hev : evI Φ F.nb (.ia i.size p' k') s.1 s.2 = some (x, ups, bx')) (hn : Goes F o s x ups bx' next) : o.wp P a w next Q := by
  have hp := eval_rep h h1 hk1
  have hx := eval_rep h h2 hk2
  simp only [evI] at hev
  split at hev
  · rename_i l n g kd j e1 e2
    rw [e1] at hp
    rw [e2] at hx
    obtain ⟨hxv, _⟩ := hx.val
    split at hev
    · rename_i hcond
      cases hev
      have hs : (sizeOf e).run P w = .ok i.size w := by simp [sizeOf, typeInfo, hi]
      have hp' := hp.toSl
      generalize hvp : a.eval p = vp at hp'
      cases hp' with
      | nil => simp at hcond; omega
      | emp => simp at hcond; omega
      | sl b q n c l g vs hnc hg h3 hc hl hr =>
        have hrun : (execOp a.eval o).run P w = .ok (.value (.pointer (some ⟨b, q + j.toNat * i.size, none⟩))) w := by
          refine run_ia ho ?_
          simp [Instr.indexAt, hxv, asIntOf, run_underlying hu, hvp, hcond, hs, Addr.add_lit]
        refine pure_sound h hd hrun (.ip b _ _ (fun m => vs (j.toNat * i.size + m)) (fun m hm => ?_) (fun m hm => ?_) (fun m hm => ?_)) (fun _ _ e => by cases e) hn
        · rw [Nat.add_assoc]; exact hc _ (by simp at hm; omega)
        · rw [Nat.add_assoc]; exact hl _ (by simp at hm; omega)
        · rw [List.getElem_drop]; exact hr _ (by simp at hm; omega)
    · cases hev
  · rename_i r n z kd j e1 e2
    rw [e1] at hp
    rw [e2] at hx
    obtain ⟨hxv, _⟩ := hx.val
    obtain ⟨c, hvp, hnc, hr⟩ := hp.toBs
    split at hev
    · rename_i hcond
      cases hev
      have hs : (sizeOf e).run P w = .ok i.size w := by simp [sizeOf, typeInfo, hi]
      have hrun : (execOp a.eval o).run P w = .ok (.value (.pointer (some ⟨μ r, j.toNat * i.size, none⟩))) w := by
        refine run_ia ho ?_
        simp [Instr.indexAt, hxv, asIntOf, run_underlying hu, hvp, hcond, hs, Addr.add_lit]
      exact pure_sound h hd hrun (.ptr r _ hr) (fun _ _ e => by cases e) hn
    · cases hev
  · cases hev

theorem s_ix {t : TypeId} {p k : Operand} {p' k' : O} (h : InvG F lim μ own s a w) (hd : ∀ k, o.dst = some k → k < F.nt) (ho : o.op = .index t p k)
    (hu : P.underlying t = some .string) (h1 : toO p = some p') (h2 : toO k = some k') (hk1 : okO F.nt p' = true) (hk2 : okO F.nt k' = true)
    (hev : evI Φ F.nb (.ix p' k') s.1 s.2 = some (x, ups, bx')) (hn : Goes F o s x ups bx' next) : o.wp P a w next Q := by
  have hp := eval_rep h h1 hk1
  have hx := eval_rep h h2 hk2
  simp only [evI] at hev
  split at hev
  · rename_i sv kd j e1 e2
    rw [e1] at hp
    rw [e2] at hx
    obtain ⟨hpv, _⟩ := hp.val
    obtain ⟨hxv, _⟩ := hx.val
    split at hev
    · rename_i hcond
      cases hev
      have hlt : j.toNat < sv.size := by omega
      have hb : sv[j.toNat]? = some sv[j.toNat] := by simp [hlt]
      have he : sv.data.toList.getD j.toNat 0 = sv[j.toNat] := by
        have : j.toNat < sv.data.toList.length := hlt
        rw [List.getD_eq_getElem?_getD, List.getElem?_eq_getElem this]
        rfl
      have hrun : (execOp a.eval o).run P w = .ok (.value (.int .u8 (sv[j.toNat].toNat : Int))) w := by
        refine run_ix ho ?_
        simp [Instr.index, hxv, hpv, asIntOf, run_underlying hu, hcond.1, hb]
      exact pure_sound h hd hrun (by rw [he]; exact rep_int _ _) (n2_val _) hn
    · cases hev
  · cases hev

theorem s_ext {y : Operand} {y' : O} {k : Nat} (h : InvG F lim μ own s a w) (hd : ∀ k, o.dst = some k → k < F.nt) (ho : o.op = .extract y k)
    (h1 : toO y = some y') (hk1 : okO F.nt y' = true) (hev : evI Φ F.nb (.ext y' k) s.1 s.2 = some (x, ups, bx')) (hn : Goes F o s x ups bx' next) : o.wp P a w next Q := by
  have hy := eval_rep h h1 hk1
  simp only [evI] at hev
  split at hev
  · rename_i l e1
    rw [e1] at hy
    obtain ⟨vs, hvy, hs, hr⟩ := hy.toTup
    split at hev
    · rename_i v hv
      cases hev
      have hk : k < l.length := by
        rcases Nat.lt_or_ge k l.length with h' | h'
        · exact h'
        · simp [List.getElem?_eq_none h'] at hv
      rw [List.getElem?_eq_getElem hk] at hv
      cases hv
      have hrun : (execOp a.eval o).run P w = .ok (.value (vs.getD k undef)) w := by
        refine run_ext ho ?_
        have : vs[k]? = some (vs.getD k undef) := by
          have : k < vs.size := by omega
          simp [this]
        rw [hvy]
        simp only [Instr.extract, this]; rfl
      exact pure_sound h hd hrun (.r (hr k hk).cp) (n2_cp _) hn
    · cases hev
  · cases hev

theorem rep_bounds (h : InvG F lim μ own s a w) {y : Option Operand} {y' : Option O} {d : Nat} {k : Int} (h1 : oOpt y = some y') (hk : ∀ z, y' = some z → okO F.nt z = true) (he : optInt s.1 d y' = some k) :
    (y = none ∧ y' = none ∧ k = d) ∨ ∃ z kd, y = some z ∧ y'.isSome = true ∧ a.eval z = .int kd k := by
  cases y with
  | none => cases h1; cases he; exact .inl ⟨rfl, rfl, rfl⟩
  | some z =>
    simp only [oOpt, Option.map_eq_some_iff] at h1
    obtain ⟨z', hz, rfl⟩ := h1
    have hr := eval_rep h hz (hk _ rfl)
    simp only [optInt] at he
    split at he
    · rename_i kd k' e
      cases he
      rw [e] at hr
      exact .inr ⟨z, kd, rfl, rfl, hr.val.1⟩
    · cases he

theorem sliceBound_ok (k : IntKind) (i : Int) (y : Nat) (code) (h0 : 0 ≤ i) (h1 : i ≤ y) : (Instr.sliceBound (.int k i) y code).run P w = .ok i.toNat w := by
  simp [Instr.sliceBound, asIntOf, h0, h1]

theorem s_slc {t e : TypeId} {p : Operand} {lo hi mx : Option Operand} {p' : O} {lo' hi' mx' : Option O} {i : TypeInfo} (h : InvG F lim μ own s a w) (hd : ∀ k, o.dst = some k → k < F.nt) (ho : o.op = .slice t p lo hi mx)
    (hu : P.underlying t = some (.slice e)) (hie : P.info? e = some i) (h1 : toO p = some p') (h2 : oOpt lo = some lo') (h3 : oOpt hi = some hi') (h4 : oOpt mx = some mx') (hx : ¬ (hi'.isNone = true ∧ mx'.isSome = true))
    (hk : (I.slc i.size p' lo' hi' mx').os.all (okO F.nt) = true) (hev : evI Φ F.nb (.slc i.size p' lo' hi' mx') s.1 s.2 = some (x, ups, bx')) (hn : Goes F o s x ups bx' next) : o.wp P a w next Q := by
  simp only [I.os, List.all_cons, List.all_append, Bool.and_eq_true] at hk
  have hp := eval_rep h h1 hk.1
  simp only [evI] at hev
  split at hev
  · rename_i l n g e1
    rw [e1] at hp
    split at hev
    · rename_i ka kb kc q1 q2 q3
      split at hev
      · rename_i hcond
        obtain ⟨c1, c2, c3, c4, c5⟩ := hcond
        cases hev
        have r1 := rep_bounds h h2 (fun z hz => by subst hz; simpa using hk.2.1.1) q1
        have r2 := rep_bounds h h3 (fun z hz => by subst hz; simpa using hk.2.1.2) q2
        have r3 := rep_bounds h h4 (fun z hz => by subst hz; simpa using hk.2.2) q3
        obtain ⟨base, c, cs, ev, hnc, hcl, hcr, hf1, hf2, hor⟩ := sl_cells (P := P) hp.toSl
        have hs : (sizeOf e).run P w = .ok i.size w := by simp [sizeOf, typeInfo, hie]
        have hmc : (if mx'.isSome = true then kc.toNat else c) ≤ c ∧ kb.toNat ≤ (if mx'.isSome = true then kc.toNat else c) := by split <;> omega
        -- the bounds
        have hb : (Instr.sliceBounds true n c (lo.map a.eval) (hi.map a.eval) (mx.map a.eval)).run P w = .ok (ka.toNat, kb.toNat, if mx'.isSome = true then kc.toNat else c) w := by
          have bm : ∀ z, mx = some z → ∃ kd, a.eval z = .int kd kc ∧ mx'.isSome = true := by
            intro z hz
            rcases r3 with ⟨e1, e2, e3⟩ | ⟨z', kd, e1, e2, e3⟩
            · rw [e1] at hz; cases hz
            · rw [e1] at hz; cases hz; exact ⟨kd, e3, e2⟩
          have bh : ∀ z, hi = some z → ∃ kd, a.eval z = .int kd kb ∧ hi'.isSome = true := by
            intro z hz
            rcases r2 with ⟨e1, e2, e3⟩ | ⟨z', kd, e1, e2, e3⟩
            · rw [e1] at hz; cases hz
            · rw [e1] at hz; cases hz; exact ⟨kd, e3, e2⟩
          have bl : ∀ z, lo = some z → ∃ kd, a.eval z = .int kd ka := by
            intro z hz
            rcases r1 with ⟨e1, e2, e3⟩ | ⟨z', kd, e1, e2, e3⟩
            · rw [e1] at hz; cases hz
            · rw [e1] at hz; cases hz; exact ⟨kd, e3⟩
          have nm : mx = none → mx'.isSome = false := by
            intro hz
            rcases r3 with ⟨e1, e2, e3⟩ | ⟨z', kd, e1, e2, e3⟩
            · rw [e2]; rfl
            · rw [e1] at hz; cases hz
          have nh : hi = none → hi' = none ∧ kb = n := by
            intro hz
            rcases r2 with ⟨e1, e2, e3⟩ | ⟨z', kd, e1, e2, e3⟩
            · exact ⟨e2, e3⟩
            · rw [e1] at hz; cases hz
          have nl : lo = none → ka = 0 := by
            intro hz
            rcases r1 with ⟨e1, e2, e3⟩ | ⟨z', kd, e1, e2, e3⟩
            · exact e3
            · rw [e1] at hz; cases hz
          unfold Instr.sliceBounds
          cases mx with
          | none =>
            have hm0 := nm rfl
            cases hi with
            | none =>
              obtain ⟨hh1, rfl⟩ := nh rfl
              cases lo with
              | none => have := nl rfl; subst this; simp [hm0]
              | some zl => obtain ⟨kl, el⟩ := bl zl rfl; simp [hm0, el, sliceBound_ok kl ka n _ c1 c2]
            | some zh =>
              obtain ⟨kh, eh, _⟩ := bh zh rfl
              have s2 := sliceBound_ok (P := P) (w := w) kh kb c .sliceAcap (by omega) (by omega)
              cases lo with
              | none => have := nl rfl; subst this; simp [hm0, eh, s2]
              | some zl =>
                obtain ⟨kl, el⟩ := bl zl rfl
                have s1 := sliceBound_ok (P := P) (w := w) kl ka kb.toNat .sliceB c1 (by omega)
                simp [hm0, eh, s2, el, s1]
          | some zm =>
            obtain ⟨km, em, hm1⟩ := bm zm rfl
            have s3 := sliceBound_ok (P := P) (w := w) km kc c .slice3Acap (by omega) (by omega)
            cases hi with
            | none => exact absurd ⟨by rw [(nh rfl).1]; rfl, hm1⟩ hx
            | some zh =>
              obtain ⟨kh, eh, _⟩ := bh zh rfl
              have s2 := sliceBound_ok (P := P) (w := w) kh kb kc.toNat .slice3B (by omega) (by omega)
              cases lo with
              | none => have := nl rfl; subst this; simp [hm1, em, s3, eh, s2]
              | some zl =>
                obtain ⟨kl, el⟩ := bl zl rfl
                have s1 := sliceBound_ok (P := P) (w := w) kl ka kb.toNat .slice3C c1 (by omega)
                simp [hm1, em, s3, eh, s2, el, s1]
        generalize hm : (if mx'.isSome = true then kc.toNat else c) = m at hb hmc
        have hrun : (execOp a.eval o).run P w = .ok (.value (.slice (if m = ka.toNat then base else base.map (·.add (ka.toNat * i.size))) (kb.toNat - ka.toNat) (m - ka.toNat))) w := by
          refine run_slc ho ?_
          simp [Instr.sliceAt, run_underlying hu, Instr.slice, ev, hb, hs]
        have hlen : ((l.drop (ka.toNat * i.size)).take ((kb - ka).toNat * i.size)).length = (kb - ka).toNat * i.size := by
          have : ka.toNat * i.size + (kb - ka).toNat * i.size ≤ n * i.size := by rw [← Nat.add_mul]; exact Nat.mul_le_mul_right _ (by omega)
          simp [c5]; omega
        have hba : kb.toNat - ka.toNat = (kb - ka).toNat := by omega
        have hfull : (if mx'.isSome = true ∧ kb = kc ∧ 0 < n then 1 else 0) = 1 → m - ka.toNat = kb.toNat - ka.toNat := by
          intro hq
          split at hq
          · rename_i hq'; obtain ⟨z1, z2, z3⟩ := hq'; rw [if_pos z1] at hm; omega
          · cases hq
        have hn2 : n2 (.sl ((l.drop (ka.toNat * i.size)).take ((kb - ka).toNat * i.size)) (kb - ka).toNat (if mx'.isSome = true ∧ kb = kc ∧ 0 < n then 1 else 0)) := by
          intro l' n' e; injection e with _ _ e3; split at e3 <;> omega
        refine pure_sound h hd hrun (.rv ?_) hn2 hn
        rw [hba]
        rcases hor with ⟨rfl, rfl, rfl, hbase⟩ | ⟨b, q, rfl, hg1, hc1, hlim1⟩
        · have z1 : ka.toNat = 0 := by omega
          have z2 : (kb - ka).toNat = 0 := by omega
          have z3 : m = 0 := by omega
          rcases hbase with rfl | ⟨_, _, _, b, q, s, rfl⟩
          · simp [z1, z2, z3]
            exact .nil _ (by omega)
          · simp [z1, z2, z3]
            exact .emp b q s 0 ⟨by omega, by omega, by omega⟩
        · by_cases hmk : m = ka.toNat
          · have z2 : (kb - ka).toNat = 0 := by omega
            rw [if_pos hmk, z2, hmk]
            simp only [Nat.sub_self, Nat.zero_mul, List.take_zero]
            exact .sl b q 0 0 [] _ (fun _ => undef) (Nat.le_refl _) (fun _ => rfl) (by split <;> omega) (fun i hi => by simp at hi) (fun i hi => by simp at hi) (fun i hi => by simp at hi)
          · rw [if_neg hmk]
            simp only [Option.map_some, Addr.add_lit]
            refine .sl b _ _ _ _ _ (fun j => cs.getD (ka.toNat * i.size + j) undef) (by omega) (fun hq => by have := hfull hq; omega) (by split <;> omega) (fun j hj => ?_) (fun j hj => ?_) (fun j hj => ?_)
            · rw [Nat.add_assoc]
              have : ka.toNat * i.size + j < l.length := by simp at hj; omega
              exact hc1 _ this
            · rw [Nat.add_assoc]
              have : ka.toNat * i.size + j < l.length := by simp at hj; omega
              exact hlim1 _ this
            · have : ka.toNat * i.size + j < l.length := by simp at hj; omega
              simp only [List.getElem_take, List.getElem_drop]
              exact hcr _ this
      · cases hev
    · cases hev
  · rename_i r n z e1
    rw [e1] at hp
    obtain ⟨c, hvp, hnc, hr, hzz⟩ := hp.toBsz
    split at hev
    · rename_i kb q2
      split at hev
      · rename_i hcond
        cases hev
        have hlo : lo = none := by
          cases lo with
          | none => rfl
          | some z => simp only [oOpt, Option.map_eq_some_iff] at h2; obtain ⟨_, _, h⟩ := h2; cases h
        have hmx : mx = none := by
          cases mx with
          | none => rfl
          | some z => simp only [oOpt, Option.map_eq_some_iff] at h4; obtain ⟨_, _, h⟩ := h4; cases h
        subst hlo hmx
        have r2 := rep_bounds h h3 (fun z hz => by subst hz; simpa using hk.2.1.2) q2
        have hs : (sizeOf e).run P w = .ok i.size w := by simp [sizeOf, typeInfo, hie]
        have hb : (Instr.sliceBounds true n c none (hi.map a.eval) none).run P w = .ok (0, kb.toNat, c) w := by
          unfold Instr.sliceBounds
          rcases r2 with ⟨e1, e2, e3⟩ | ⟨zh, kh, e1, e2, eh⟩
          · subst e1 e3; simp
          · subst e1
            have s2 := sliceBound_ok (P := P) (w := w) kh kb c .sliceAcap (by omega) (by omega)
            simp [eh, s2]
        have hrun : (execOp a.eval o).run P w = .ok (.value (.slice (some ⟨μ r, 0, none⟩) kb.toNat c)) w := by
          refine run_slc ho ?_
          simp [Instr.sliceAt, run_underlying hu, Instr.slice, hvp, hb, hs, Addr.add_lit]
        exact pure_sound h hd hrun (.r (.c (.bs r kb.toNat z c hr (by omega) hzz))) (fun _ _ e => by cases e) hn
      · cases hev
    · cases hev
  · cases hev

theorem s_sslc {t : TypeId} {p : Operand} {lo hi : Option Operand} {p' : O} {lo' hi' : Option O} (h : InvG F lim μ own s a w) (hd : ∀ k, o.dst = some k → k < F.nt) (ho : o.op = .slice t p lo hi none)
    (hu : P.underlying t = some .string) (h1 : toO p = some p') (h2 : oOpt lo = some lo') (h3 : oOpt hi = some hi')
    (hk : (I.sslc p' lo' hi').os.all (okO F.nt) = true) (hev : evI Φ F.nb (.sslc p' lo' hi') s.1 s.2 = some (x, ups, bx')) (hn : Goes F o s x ups bx' next) : o.wp P a w next Q := by
  simp only [I.os, List.all_cons, List.all_append, Bool.and_eq_true] at hk
  have hp := eval_rep h h1 hk.1
  simp only [evI] at hev
  split at hev
  · rename_i sv e1
    rw [e1] at hp
    obtain ⟨hpv, _⟩ := hp.val
    split at hev
    · rename_i ka kb q1 q2
      split at hev
      · rename_i hcond
        obtain ⟨c1, c2, c3⟩ := hcond
        cases hev
        have r1 := rep_bounds h h2 (fun z hz => by subst hz; simpa using hk.2.1) q1
        have r2 := rep_bounds h h3 (fun z hz => by subst hz; simpa using hk.2.2) q2
        have hb : (Instr.sliceBounds false sv.size sv.size (lo.map a.eval) (hi.map a.eval) none).run P w = .ok (ka.toNat, kb.toNat, sv.size) w := by
          unfold Instr.sliceBounds
          rcases r2 with ⟨e1, e2, e3⟩ | ⟨zh, kh, e1, e2, eh⟩
          · subst e1 e3
            rcases r1 with ⟨f1, f2, f3⟩ | ⟨zl, kl, f1, f2, el⟩
            · subst f1 f3; simp
            · subst f1; simp [el, sliceBound_ok kl ka sv.size _ c1 c2]
          · subst e1
            have s2 := sliceBound_ok (P := P) (w := w) kh kb sv.size .sliceAlen (by omega) (by omega)
            rcases r1 with ⟨f1, f2, f3⟩ | ⟨zl, kl, f1, f2, el⟩
            · subst f1 f3; simp [eh, s2]
            · subst f1
              have s1 := sliceBound_ok (P := P) (w := w) kl ka kb.toNat .sliceB c1 (by omega)
              simp [eh, s2, el, s1]
        have hrun : (execOp a.eval o).run P w = .ok (.value (.string (sv.extract ka.toNat kb.toNat))) w := by
          refine run_slc ho ?_
          simp [Instr.sliceAt, run_underlying hu, Instr.slice, hpv, hb]
        exact pure_sound h hd hrun (rep_str _) (n2_val _) hn
      · cases hev
    · cases hev
  · cases hev

theorem oList_len : ∀ (ys : List Operand) (xs : List O), oList ys = some xs → ys.length = xs.length
  | [], xs, h => by cases h; rfl
  | y :: ys, xs, h => by
    unfold oList at h
    split at h
    · rename_i e1 e2
      cases h
      simp [oList_len ys _ e2]
    · cases h

theorem oList_rep (h : InvG F lim μ own s a w) : ∀ (ys : List Operand) (xs : List O), oList ys = some xs → xs.all (okO F.nt) = true →
    ∀ i (hi : i < xs.length), Rep w lim μ s.2.length ((ys.map a.eval).getD i undef) (xs[i].ev s.1)
  | [], xs, e, hk, i, hi => by cases e; simp at hi
  | y :: ys, xs, e, hk, i, hi => by
    unfold oList at e
    split at e
    · rename_i x' t e1 e2
      cases e
      simp only [List.all_cons, Bool.and_eq_true] at hk
      cases i with
      | zero => exact eval_rep h e1 hk.1
      | succ i => simpa using oList_rep h ys t e2 hk.2 i (by simpa using hi)
    · cases e

theorem caps_rep (h : InvG F lim μ own s a w) : ∀ (ys : List Operand) (xs : List O) (cs : List (Nat × Nat)), oList ys = some xs → xs.all (okO F.nt) = true → capsOf s.1 xs = some cs →
    (∀ p ∈ cs, p.1 < s.2.length) ∧ ys.map a.eval = cs.map fun p => Value.pointer (some ⟨μ p.1, p.2, none⟩)
  | [], xs, cs, e, hk, hc => by cases e; cases hc; exact ⟨by simp, rfl⟩
  | y :: ys, xs, cs, e, hk, hc => by
    unfold oList at e
    split at e
    · rename_i x' t e1 e2
      cases e
      simp only [List.all_cons, Bool.and_eq_true] at hk
      have hy := eval_rep h e1 hk.1
      simp only [capsOf] at hc
      split at hc
      · rename_i r q e3
        simp only [Option.map_eq_some_iff] at hc
        obtain ⟨cs', hc', rfl⟩ := hc
        obtain ⟨i1, i2⟩ := caps_rep h ys t cs' e2 hk.2 hc'
        rw [e3] at hy
        obtain ⟨hvy, hr⟩ := hy.toPtr
        refine ⟨?_, by simp [hvy, i2]⟩
        intro p hp
        rcases List.mem_cons.1 hp with rfl | hp
        · exact hr
        · exact i1 p hp
      · cases hc
    · cases e

theorem s_mkf {f : Nat} {cs : Array Operand} {cs' : List O} (h : InvG F lim μ own s a w) (hd : ∀ k, o.dst = some k → k < F.nt) (ho : o.op = .makeFunc (.func f) #[] cs)
    (h1 : oList cs.toList = some cs') (hk : cs'.all (okO F.nt) = true) (hev : evI Φ F.nb (.mkf f cs') s.1 s.2 = some (x, ups, bx')) (hn : Goes F o s x ups bx' next) : o.wp P a w next Q := by
  simp only [evI, Option.map_eq_some_iff] at hev
  obtain ⟨c, hc, he⟩ := hev
  cases he
  obtain ⟨g1, g2⟩ := caps_rep h _ _ _ h1 hk hc
  refine pure_sound h hd (run_mkf ho) ?_ (fun _ _ e => by cases e) hn
  have : cs.map a.eval = (c.map fun p => Value.pointer (some ⟨μ p.1, p.2, none⟩)).toArray := by
    rw [← g2]; apply Array.ext'; simp
  rw [this]
  exact .fn f c g1

end Go.Proofs.YtkohggddaheefaaEv
