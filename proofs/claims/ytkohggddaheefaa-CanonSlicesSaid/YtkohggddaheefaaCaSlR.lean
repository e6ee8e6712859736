/- swingbridgelaw10.CanonSlices: the region that makes both copies, in whatever order. -/
import Derived.Test.YtkohggddaheefaaCaSlW
set_option linter.unusedSimpArgs false
set_option linter.unusedVariables false
namespace Go.Proofs.YtkohggddaheefaaEv
open Go Go.RowKit
set_option maxHeartbeats 1000000
set_option maxRecDepth 100000
theorem wpAny_inv {P : Program} {md : Region.Mode} {ops : Array Oper} {Q : Exit → Act → World → Prop} (I : Array Bool → Act → World → Prop)
    (hstep : ∀ L a w i, I L a w → i ∈ Region.ready md ops L → wpOp P ops Q i (fun a' w' => I (L.setIfInBounds i true) a' w') a w) (hend : ∀ L a w, I L a w → Region.ready md ops L = [] → Q .normal a w) :
    ∀ (fuel : Nat) (L : Array Bool) (a : Act) (w : World), L.size = ops.size → L.toList.count false ≤ fuel → I L a w → wpAny P md ops Q fuel L a w
  | 0, L, a, w, hs, hc, hI => by
    have hr : Region.ready md ops L = [] := by
      cases h : Region.ready md ops L with
      | nil => rfl
      | cons i r =>
        have hi : i ∈ Region.ready md ops L := by rw [h]; simp
        have h1 := (mem_ready.1 hi).1
        rcases Nat.lt_or_ge i L.size with hl | hl
        · rw [Array.getD_eq_getD_getElem?, Array.getElem?_eq_getElem hl] at h1
          have h2 : L[i] = false := by simpa using h1
          have h3 : false ∈ L.toList := by rw [← h2]; simp
          have := List.count_pos_iff.2 h3
          omega
        · rw [Array.getD_eq_getD_getElem?, Array.getElem?_eq_none hl] at h1; cases h1
    exact ⟨hr, hend _ _ _ hI hr⟩
  | fuel + 1, L, a, w, hs, hc, hI => by
    refine ⟨fun h => hend _ _ _ hI h, fun i hi => ?_⟩
    refine wpOp_mono (fun a' w' hI' => wpAny_inv I hstep hend fuel _ a' w' (by simpa using hs) ?_ hI') (hstep _ _ _ _ hI hi)
    have h1 := (mem_ready.1 hi).1
    have hl : i < L.size := by
      rcases Nat.lt_or_ge i L.size with hl | hl
      · exact hl
      · rw [Array.getD_eq_getD_getElem?, Array.getElem?_eq_none hl] at h1; cases h1
    rw [Array.getD_eq_getD_getElem?, Array.getElem?_eq_getElem hl] at h1
    have h2 : L[i] = false := by simpa using h1
    have h4 : (L.toList.set i true).count false + 1 = L.toList.count false := by
      have hl' : i < L.toList.length := by simpa using hl
      have h2' : L.toList[i] = false := by simpa using h2
      rw [List.count_set hl']
      have h3 : false ∈ L.toList := by rw [← h2]; simp
      have := List.count_pos_iff.2 h3
      rw [h2']
      simp only [BEq.rfl, if_true]
      rw [if_neg (by decide)]
      omega
    rw [Array.toList_setIfInBounds]
    omega
theorem wpOp_of {P : Program} {ops : Array Oper} {Q : Exit → Act → World → Prop} {i : Nat} {o : Oper} {K : Act → World → Prop} {a : Act} {w : World} (hi : ops[i]? = some o) (hg : o.guard = none) (h : o.wp P a w K Q) : wpOp P ops Q i K a w := by
  unfold wpOp
  rw [hi]
  simp only [Region.wanted, hg, if_true]
  exact .inl h
def regOps : Code → Array Oper
  | .seq (.region _ ops _) _ => ops
  | _ => #[]
/-- What is known of a slot of this region, once its operation is done with. -/
def P13 (B n : Nat) (v5 v1 : Value) (k1 : Int) (w : World) : Nat → Value → Prop
  | 0, v => v = v5
  | 2, v => v = v5
  | 3, v => v = v1
  | 4, v => v = .int .i64 k1
  | 1, v => ∃ (p : Int) (ca : Option Addr) (cn cc : Nat) (ha : Option Addr) (hn hc tb cap : Nat), v = .agg #[.int .i64 p, .slice ca cn cc, .slice ha hn hc, .slice (some ⟨tb, 0, none⟩) n cap] ∧ n ≤ cap ∧ OwnS B w.heap.size w tb n
  | 5, v => ∃ (p : Int) (ca : Option Addr) (cn cc : Nat) (ha : Option Addr) (hn hc tb cap : Nat), v = .agg #[.int .i64 p, .slice ca cn cc, .slice ha hn hc, .slice (some ⟨tb, 0, none⟩) n cap] ∧ n ≤ cap ∧ OwnS B w.heap.size w tb n
  | 6, v => ∃ q, v = .pointer (some ⟨q, 0, none⟩) ∧ B ≤ q ∧ RowAt w q 4
  | 7, v => ∃ q, v = .pointer (some ⟨q, 0, none⟩) ∧ B ≤ q ∧ RowAt w q 4
  | _, _ => True
theorem P13.below {B n : Nat} {v5 v1 : Value} {k1 : Int} {w w' : World} {i : Nat} {v : Value} (h : P13 B n v5 v1 k1 w i v) (hb : Below w.heap.size w w') : P13 B n v5 v1 k1 w' i v := by
  rcases i with _ | _ | _ | _ | _ | _ | _ | _ | i
  · exact h
  · obtain ⟨p, ca, cn, cc, ha, hn, hc, tb, cap, rfl, h1, h2⟩ := h
    exact ⟨p, ca, cn, cc, ha, hn, hc, tb, cap, rfl, h1, (h2.below hb).up hb.size⟩
  · exact h
  · exact h
  · exact h
  · obtain ⟨p, ca, cn, cc, ha, hn, hc, tb, cap, rfl, h1, h2⟩ := h
    exact ⟨p, ca, cn, cc, ha, hn, hc, tb, cap, rfl, h1, (h2.below hb).up hb.size⟩
  · obtain ⟨q, rfl, h1, h2⟩ := h
    exact ⟨q, rfl, h1, h2.below hb⟩
  · obtain ⟨q, rfl, h1, h2⟩ := h
    exact ⟨q, rfl, h1, h2.below hb⟩
  · trivial
/-- Four cells of a block written. -/
theorem P13.set {B n : Nat} {v5 v1 : Value} {k1 : Int} {w : World} {i : Nat} {v : Value} (h : P13 B n v5 v1 k1 w i v) (c : Nat) (vs : List Value) (h4 : vs.length ≤ 4) (hv : ∀ v ∈ vs, v.oneCell' = true) : P13 B n v5 v1 k1 (w.setCells c 0 vs) i v := by
  have hs := (setCells_below vs w c 0 c (Nat.le_refl _)).size
  rcases i with _ | _ | _ | _ | _ | _ | _ | _ | i
  · exact h
  · obtain ⟨p, ca, cn, cc, ha, hn, hc, tb, cap, rfl, h1, h2⟩ := h
    exact ⟨p, ca, cn, cc, ha, hn, hc, tb, cap, rfl, h1, (h2.set c 0 vs (fun _ k _ => .inr (by omega)) fun _ => hv).up hs⟩
  · exact h
  · exact h
  · exact h
  · obtain ⟨p, ca, cn, cc, ha, hn, hc, tb, cap, rfl, h1, h2⟩ := h
    exact ⟨p, ca, cn, cc, ha, hn, hc, tb, cap, rfl, h1, (h2.set c 0 vs (fun _ k _ => .inr (by omega)) fun _ => hv).up hs⟩
  · obtain ⟨q, rfl, h1, h2⟩ := h
    exact ⟨q, rfl, h1, h2.set c 0 vs⟩
  · obtain ⟨q, rfl, h1, h2⟩ := h
    exact ⟨q, rfl, h1, h2.set c 0 vs⟩
  · trivial
def slot13 (i : Nat) : Nat := [45, 46, 47, 48, 49, 50, 8, 9].getD i 0
/-- The region's invariant. -/
structure I13 (W : World) (n : Nat) (v5 v1 : Value) (k1 : Int) (p2 p5 : Value) (L : Array Bool) (a : Act) (w : World) : Prop where
  len : L.size = 10
  dep8 : L.getD 8 false = true → L.getD 6 false = true ∧ L.getD 7 false = true
  dep9 : L.getD 9 false = true → L.getD 6 false = true ∧ L.getD 7 false = true
  def0 : a.defers = []
  size : a.tmps.size = 121
  below : Below W.heap.size W w
  t1 : a.eval (.tmp 1) = v1
  t2 : a.eval (.tmp 2) = p2
  t5 : a.eval (.tmp 5) = p5
  at_ : ∀ i, i < 8 → L.getD i false = true → P13 W.heap.size n v5 v1 k1 w i (a.eval (.tmp (slot13 i)))
  ne : L.getD 6 false = true → L.getD 7 false = true → a.eval (.tmp 8) ≠ a.eval (.tmp 9)
  st8 : L.getD 8 false = true → ∃ q tb cap, a.eval (.tmp 8) = .pointer (some ⟨q, 0, none⟩) ∧ w.cell? ⟨q, 3, none⟩ = some (.slice (some ⟨tb, 0, none⟩) n cap) ∧ n ≤ cap ∧ W.heap.size ≤ q ∧ OwnS W.heap.size w.heap.size w tb n
  st9 : L.getD 9 false = true → ∃ q tb cap, a.eval (.tmp 9) = .pointer (some ⟨q, 0, none⟩) ∧ w.cell? ⟨q, 3, none⟩ = some (.slice (some ⟨tb, 0, none⟩) n cap) ∧ n ≤ cap ∧ W.heap.size ≤ q ∧ OwnS W.heap.size w.heap.size w tb n
theorem oper_val {P : Program} {o : Oper} {a : Act} {w w' : World} {K : Act → World → Prop} {Q : Exit → Act → World → Prop} {v : Value} (h : (execOp a.eval o).run P w = .ok (.value v) w') (hK : K (a.put o.dst v) w') : o.wp P a w K Q := by
  unfold Oper.wp; rw [h]; exact hK
theorem oper_skip {P : Program} {o : Oper} {a : Act} {w w' : World} {K : Act → World → Prop} {Q : Exit → Act → World → Prop} (h : (execOp a.eval o).run P w = .ok .skip w') (hK : K (a.put o.dst undef) w') : o.wp P a w K Q := by
  unfold Oper.wp; rw [h]; exact hK
theorem oper_call {P : Program} {o : Oper} {a : Act} {w w' : World} {K : Act → World → Prop} {Q : Exit → Act → World → Prop} {f : Nat} {xs : Array Value} {R : Ending → World → Prop} (h : (execOp a.eval o).run P w = .ok (.enter f xs) w') (hC : Calls P f xs w' R) (hK : ∀ e w2, R e w2 → ∃ u, e = .returned u ∧ K (a.put o.dst u) w2) : o.wp P a w K Q := by
  unfold Oper.wp; rw [h]
  refine hC.mono fun e w2 hr => ?_
  obtain ⟨u, rfl, hk⟩ := hK e w2 hr
  exact hk
theorem run13_load {a : Act} {w : World} {dst : Option Nat} {aft : Array Edge} {pos : String} {b : Nat} {v0 v1 v2 v3 : Value} (h5 : a.eval (.tmp 5) = .pointer (some ⟨b, 0, none⟩)) (h0 : w.cell? ⟨b, 0, none⟩ = some v0) (h1 : w.cell? ⟨b, 1, none⟩ = some v1) (h2 : w.cell? ⟨b, 2, none⟩ = some v2) (h3 : w.cell? ⟨b, 3, none⟩ = some v3) :
    (execOp a.eval { dst := dst, op := .load 25 (.tmp 5), type := 25, pos := pos, after := aft, guard := none }).run Try.prog w = .ok (.value (.agg #[v0, v1, v2, v3])) w := by
  have h5' := h5
  simp [Act.eval] at h5'
  simp [execOp, h5', go_sem, h0, h1, h2, h3]
theorem run13_call {a : Act} {w : World} {dst : Option Nat} {aft : Array Edge} {pos : String} {v : Value} (h : a.eval (.tmp 45) = v) :
    (execOp a.eval { dst := dst, op := .call { callee := .value (.func 44), args := #[.tmp 45], argTypes := #[25] }, type := 25, pos := pos, after := aft, guard := none }).run Try.prog w = .ok (.enter 44 #[v]) w := by
  have h' := h
  simp [Act.eval] at h'
  simp [execOp, h', go_sem]
theorem run13_alloc {a : Act} {w : World} {dst : Option Nat} {aft : Array Edge} {pos : String} :
    (execOp a.eval { dst := dst, op := .alloc 25, type := 0, pos := pos, after := aft, guard := none }).run Try.prog w = .ok (.value (.pointer (some ⟨w.heap.size, 0, none⟩))) (w.alloc (.cells #[.int .i64 0, .slice none 0 0, .slice none 0 0, .slice none 0 0] 25)) := by
  simp [execOp, go_sem]
theorem run13_call2 {a : Act} {w : World} {dst : Option Nat} {aft : Array Edge} {pos : String} {v u : Value} (h : a.eval (.tmp 47) = v) (g : a.eval (.tmp 49) = u) :
    (execOp a.eval { dst := dst, op := .call { callee := .value (.func 46), args := #[.tmp 47, .tmp 49], argTypes := #[25, 3] }, type := 25, pos := pos, after := aft, guard := none }).run Try.prog w = .ok (.enter 46 #[v, u]) w := by
  have h' := h
  simp [Act.eval] at h'
  have g' := g
  simp [Act.eval] at g'
  simp [execOp, h', g', go_sem]
theorem run13_move {a : Act} {w : World} {dst : Option Nat} {aft : Array Edge} {pos : String} {v : Value} (h : a.eval (.tmp 1) = v) :
    (execOp a.eval { dst := dst, op := .move (.tmp 1), type := 5, pos := pos, after := aft, guard := none }).run Try.prog w = .ok (.value v) w := by
  have h' := h
  simp [Act.eval] at h'
  simp [execOp, h', go_sem]
theorem run13_conv {a : Act} {w : World} {dst : Option Nat} {aft : Array Edge} {pos : String} {k : Int} (hk : 0 ≤ k ∧ k ≤ 255) (h : a.eval (.tmp 48) = .int .u8 k) :
    (execOp a.eval { dst := dst, op := .convert 5 3 (.tmp 48), type := 3, pos := pos, after := aft, guard := none }).run Try.prog w = .ok (.value (.int .i64 k)) w := by
  have h' := h
  simp [Act.eval] at h'
  have hw : IntKind.wrap .i64 k = k := wrap_in _ (by omega) (by omega)
  simp [execOp, h', go_sem, hw]
theorem run13_store {a : Act} {w : World} {aft : Array Edge} {pos : String} {d t : Nat} {q : Nat} {p : Int} {ca ha ta : Option Addr} {cn cc hn hc tn tc : Nat} (h : a.eval (.tmp d) = .pointer (some ⟨q, 0, none⟩)) (g : a.eval (.tmp t) = .agg #[.int .i64 p, .slice ca cn cc, .slice ha hn hc, .slice ta tn tc]) (hr : RowAt w q 4) :
    (execOp a.eval { dst := none, op := .store 25 (.tmp d) (.tmp t), type := 0, pos := pos, after := aft, guard := none }).run Try.prog w = .ok .skip (w.setCells q 0 [.int .i64 p, .slice ca cn cc, .slice ha hn hc, .slice ta tn tc]) := by
  have h' := h
  simp [Act.eval] at h'
  have g' := g
  simp [Act.eval] at g'
  obtain ⟨k0, hk0⟩ := hr.cell (j := 0) (by omega)
  obtain ⟨k1, hk1⟩ := hr.cell (j := 1) (by omega)
  obtain ⟨k2, hk2⟩ := hr.cell (j := 2) (by omega)
  obtain ⟨k3, hk3⟩ := hr.cell (j := 3) (by omega)
  have hf0 := hr.live 0
  have hf1 := hr.live 1
  have hf2 := hr.live 2
  have hf3 := hr.live 3
  simp [execOp, h', g', go_sem, hk0, hk1, hk2, hk3, hf0, hf1, hf2, hf3]
  try rfl
theorem eval_put_same {a : Act} {d : Nat} {v : Value} (h : d < a.tmps.size) : (a.put (some d) v).eval (.tmp d) = v := by
  simp [Act.eval, Act.put, h]
theorem eval_put_ne {a : Act} {d k : Nat} {v : Value} (h : k ≠ d) : (a.put (some d) v).eval (.tmp k) = a.eval (.tmp k) :=
  Act.eval_put fun d' e => by cases e; exact fun e2 => h (by cases e2; rfl)
theorem lset13 {L : Array Bool} {i j : Nat} (hi : i < L.size) : (L.setIfInBounds i true).getD j false = if j = i then true else L.getD j false := by
  rw [Array.getD_eq_getD_getElem?, Array.getD_eq_getD_getElem?, Array.getElem?_setIfInBounds]
  by_cases h : i = j
  · subst h; simp [hi]
  · simp [h, Ne.symm h]
theorem slot13_inj : ∀ i, i < 8 → ∀ j, j < 8 → slot13 i = slot13 j → i = j := by decide
theorem slot13_no : ∀ i, i < 8 → slot13 i ≠ 1 ∧ slot13 i ≠ 2 ∧ slot13 i ≠ 5 ∧ slot13 i < 121 := by decide
theorem I13.upd {W : World} {n : Nat} {v5 v1 : Value} {k1 : Int} {p2 p5 : Value} {L : Array Bool} {a : Act} {w : World} (h : I13 W n v5 v1 k1 p2 p5 L a w) (i : Nat) (hi : i < 8) (hL : L.getD i false = false) (v : Value) (w' : World) (hb : Below w.heap.size w w')
    (hv : P13 W.heap.size n v5 v1 k1 w' i v) (h6 : i = 6 → L.getD 7 false = true → v ≠ a.eval (.tmp 9)) (h7 : i = 7 → L.getD 6 false = true → a.eval (.tmp 8) ≠ v) : I13 W n v5 v1 k1 p2 p5 (L.setIfInBounds i true) (a.put (some (slot13 i)) v) w' := by
  have hs := h.len
  have hn := slot13_no i hi
  have hg := fun j => lset13 (L := L) (i := i) (j := j) (by omega)
  refine ⟨by simpa using hs, ?_, ?_, h.def0, by simpa [Act.put] using h.size, h.below.trans (hb.mono h.below.size), ?_, ?_, ?_, ?_, ?_, ?_, ?_⟩
  · rw [hg, hg, hg, if_neg (by omega)]
    intro e
    obtain ⟨u1, u2⟩ := h.dep8 e
    rw [u1, u2]; simp
  · rw [hg, hg, hg, if_neg (by omega)]
    intro e
    obtain ⟨u1, u2⟩ := h.dep9 e
    rw [u1, u2]; simp
  · rw [eval_put_ne (by omega)]; exact h.t1
  · rw [eval_put_ne (by omega)]; exact h.t2
  · rw [eval_put_ne (by omega)]; exact h.t5
  · intro j hj hLj
    rw [hg] at hLj
    by_cases e : j = i
    · subst e
      rw [eval_put_same (by rw [h.size]; omega)]
      exact hv
    · rw [if_neg e] at hLj
      rw [eval_put_ne (fun e2 => e (slot13_inj _ hj _ hi e2))]
      exact (h.at_ j hj hLj).below hb
  · intro e6 e7
    rw [hg] at e6 e7
    by_cases q6 : i = 6
    · subst q6
      rw [if_neg (by omega)] at e7
      rw [show slot13 6 = 8 from rfl, eval_put_same (by rw [h.size]; omega), eval_put_ne (by omega)]
      exact h6 rfl e7
    · rw [if_neg (Ne.symm q6)] at e6
      by_cases q7 : i = 7
      · subst q7
        rw [show slot13 7 = 9 from rfl, eval_put_same (by rw [h.size]; omega), eval_put_ne (by omega)]
        exact h7 rfl e6
      · rw [if_neg (Ne.symm q7)] at e7
        have n8 : 8 ≠ slot13 i := fun e => q6 (slot13_inj i hi 6 (by omega) e.symm)
        have n9 : 9 ≠ slot13 i := fun e => q7 (slot13_inj i hi 7 (by omega) e.symm)
        rw [eval_put_ne n8, eval_put_ne n9]
        exact h.ne e6 e7
  · rw [hg, if_neg (by omega)]
    intro e
    have n8 : 8 ≠ slot13 i := fun e2 => by
      have := slot13_inj i hi 6 (by omega) e2.symm
      subst this
      rw [(h.dep8 e).1] at hL; cases hL
    rw [eval_put_ne n8]
    obtain ⟨q, tb, cap, u1, u2, u3, u4, u5⟩ := h.st8 e
    exact ⟨q, tb, cap, u1, (hb.cell (lt_of_cell u2)).trans u2, u3, u4, (u5.below hb).up hb.size⟩
  · rw [hg, if_neg (by omega)]
    intro e
    have n9 : 9 ≠ slot13 i := fun e2 => by
      have := slot13_inj i hi 7 (by omega) e2.symm
      subst this
      rw [(h.dep9 e).2] at hL; cases hL
    rw [eval_put_ne n9]
    obtain ⟨q, tb, cap, u1, u2, u3, u4, u5⟩ := h.st9 e
    exact ⟨q, tb, cap, u1, (hb.cell (lt_of_cell u2)).trans u2, u3, u4, (u5.below hb).up hb.size⟩
noncomputable def ops13 : Array Oper := regOps (cdPost 5 (Try.f14.body.getD .skip))
theorem step13 {Q : Exit → Act → World → Prop} {W : World} {n b5 : Nat} {k1 pr : Int} {ca ha ta : Option Addr} {cn cc hn hc tn tc : Nat} {p2 : Value} (hk : 0 ≤ k1 ∧ k1 ≤ 255)
    (hc0 : W.cell? ⟨b5, 0, none⟩ = some (.int .i64 pr)) (hc1 : W.cell? ⟨b5, 1, none⟩ = some (.slice ca cn cc)) (hc2 : W.cell? ⟨b5, 2, none⟩ = some (.slice ha hn hc)) (hc3 : W.cell? ⟨b5, 3, none⟩ = some (.slice ta tn tc))
    (hCan : ∀ W', Below W.heap.size W W' → Calls Try.prog 44 #[.agg #[.int .i64 pr, .slice ca cn cc, .slice ha hn hc, .slice ta tn tc]] W' (CopyPost W' n))
    (hMov : ∀ W', Below W.heap.size W W' → Calls Try.prog 46 #[.agg #[.int .i64 pr, .slice ca cn cc, .slice ha hn hc, .slice ta tn tc], .int .i64 k1] W' (CopyPost W' n))
    (L : Array Bool) (a : Act) (w : World) (i : Nat) (h : I13 W n (.agg #[.int .i64 pr, .slice ca cn cc, .slice ha hn hc, .slice ta tn tc]) (.int .u8 k1) k1 p2 (.pointer (some ⟨b5, 0, none⟩)) L a w) (hi : i ∈ Region.ready .any ops13 L) :
    wpOp Try.prog ops13 Q i (fun a' w' => I13 W n (.agg #[.int .i64 pr, .slice ca cn cc, .slice ha hn hc, .slice ta tn tc]) (.int .u8 k1) k1 p2 (.pointer (some ⟨b5, 0, none⟩)) (L.setIfInBounds i true) a' w') a w := by
  obtain ⟨hun, o, ho, hall⟩ := mem_ready.1 hi
  have h10 : ops13.size = 10 := rfl
  have hilt : i < 10 := by
    rcases Nat.lt_or_ge i 10 with hl | hl
    · exact hl
    · rw [Array.getElem?_eq_none (by omega)] at ho; cases ho
  have hL : L.getD i false = false := by
    rw [Array.getD_eq_getD_getElem?, Array.getElem?_eq_getElem (by rw [h.len]; omega)] at hun ⊢
    simpa using hun
  have hlt : b5 < W.heap.size := lt_of_cell hc0
  have hb := h.below
  match i, hilt with
  | 0, _ =>
    refine wpOp_of (o := ops13.getD 0 default) rfl rfl (oper_val (run13_load h.t5 ((hb.cell hlt).trans hc0) ((hb.cell hlt).trans hc1) ((hb.cell hlt).trans hc2) ((hb.cell hlt).trans hc3)) ?_)
    exact h.upd 0 (by omega) hL _ w (Below.refl ..) rfl (fun e => by cases e) fun e => by cases e
  | 1, _ =>
    have ho' : o = ops13.getD 1 default := (Option.some.inj (ho.symm.trans (rfl : ops13[1]? = some (ops13.getD 1 default))))
    have d0 : L.getD 0 false = true := hall ⟨0, .data⟩ (by rw [ho']; show _ ∈ (ops13.getD 1 default).after; simp [ops13, regOps, cdPost, Try.f14]) rfl
    have e0 : a.eval (.tmp 45) = _ := h.at_ 0 (by omega) d0
    refine wpOp_of (o := ops13.getD 1 default) rfl rfl (oper_call (run13_call e0) (hCan w hb) fun e w2 hr => ?_)
    obtain ⟨p, ca', cn', cc', ha', hn', hc', tb, cap, rfl, q1, q2, q3⟩ := hr
    refine ⟨_, rfl, h.upd 1 (by omega) hL _ w2 q2 ⟨p, ca', cn', cc', ha', hn', hc', tb, cap, rfl, q1, q3.low hb.size⟩ (fun e => by cases e) fun e => by cases e⟩
  | 2, _ =>
    refine wpOp_of (o := ops13.getD 2 default) rfl rfl (oper_val (run13_load h.t5 ((hb.cell hlt).trans hc0) ((hb.cell hlt).trans hc1) ((hb.cell hlt).trans hc2) ((hb.cell hlt).trans hc3)) ?_)
    exact h.upd 2 (by omega) hL _ w (Below.refl ..) rfl (fun e => by cases e) fun e => by cases e
  | 3, _ =>
    refine wpOp_of (o := ops13.getD 3 default) rfl rfl (oper_val (run13_move h.t1) ?_)
    exact h.upd 3 (by omega) hL _ w (Below.refl ..) rfl (fun e => by cases e) fun e => by cases e
  | 4, _ =>
    have ho' : o = ops13.getD 4 default := (Option.some.inj (ho.symm.trans (rfl : ops13[4]? = some (ops13.getD 4 default))))
    have d3 : L.getD 3 false = true := hall ⟨3, .data⟩ (by rw [ho']; show _ ∈ (ops13.getD 4 default).after; simp [ops13, regOps, cdPost, Try.f14]) rfl
    have e3 : a.eval (.tmp 48) = _ := h.at_ 3 (by omega) d3
    refine wpOp_of (o := ops13.getD 4 default) rfl rfl (oper_val (run13_conv hk e3) ?_)
    exact h.upd 4 (by omega) hL _ w (Below.refl ..) rfl (fun e => by cases e) fun e => by cases e
  | 5, _ =>
    have ho' : o = ops13.getD 5 default := (Option.some.inj (ho.symm.trans (rfl : ops13[5]? = some (ops13.getD 5 default))))
    have d2 : L.getD 2 false = true := hall ⟨2, .data⟩ (by rw [ho']; show _ ∈ (ops13.getD 5 default).after; simp [ops13, regOps, cdPost, Try.f14]) rfl
    have d4 : L.getD 4 false = true := hall ⟨4, .data⟩ (by rw [ho']; show _ ∈ (ops13.getD 5 default).after; simp [ops13, regOps, cdPost, Try.f14]) rfl
    have e2 : a.eval (.tmp 47) = _ := h.at_ 2 (by omega) d2
    have e4 : a.eval (.tmp 49) = _ := h.at_ 4 (by omega) d4
    refine wpOp_of (o := ops13.getD 5 default) rfl rfl (oper_call (run13_call2 e2 e4) (hMov w hb) fun e w2 hr => ?_)
    obtain ⟨p, ca', cn', cc', ha', hn', hc', tb, cap, rfl, q1, q2, q3⟩ := hr
    refine ⟨_, rfl, h.upd 5 (by omega) hL _ w2 q2 ⟨p, ca', cn', cc', ha', hn', hc', tb, cap, rfl, q1, q3.low hb.size⟩ (fun e => by cases e) fun e => by cases e⟩
  | 6, _ =>
    refine wpOp_of (o := ops13.getD 6 default) rfl rfl (oper_val run13_alloc ?_)
    refine h.upd 6 (by omega) hL _ _ (alloc_below w _) ⟨w.heap.size, rfl, hb.size, ⟨_, _, heap_alloc_new w _, Nat.le_refl 4⟩⟩ (fun _ e7 => ?_) fun e => by cases e
    obtain ⟨q, u1, _, u2⟩ := h.at_ 7 (by omega) e7
    have hq := u2.lt
    have u1' : a.eval (.tmp 9) = .pointer (some ⟨q, 0, none⟩) := u1
    rw [u1']
    intro e
    simp only [Value.pointer.injEq, Option.some.injEq, Addr.mk.injEq] at e
    omega
  | 7, _ =>
    refine wpOp_of (o := ops13.getD 7 default) rfl rfl (oper_val run13_alloc ?_)
    refine h.upd 7 (by omega) hL _ _ (alloc_below w _) ⟨w.heap.size, rfl, hb.size, ⟨_, _, heap_alloc_new w _, Nat.le_refl 4⟩⟩ (fun e => by cases e) fun _ e6 => ?_
    obtain ⟨q, u1, _, u2⟩ := h.at_ 6 (by omega) e6
    have hq := u2.lt
    have u1' : a.eval (.tmp 8) = .pointer (some ⟨q, 0, none⟩) := u1
    rw [u1']
    intro e
    simp only [Value.pointer.injEq, Option.some.injEq, Addr.mk.injEq] at e
    omega
  | 8, _ =>
    have ho' : o = ops13.getD 8 default := (Option.some.inj (ho.symm.trans (rfl : ops13[8]? = some (ops13.getD 8 default))))
    have d6 : L.getD 6 false = true := hall ⟨6, .data⟩ (by rw [ho']; show _ ∈ (ops13.getD 8 default).after; simp [ops13, regOps, cdPost, Try.f14]) rfl
    have d7 : L.getD 7 false = true := hall ⟨7, .phase⟩ (by rw [ho']; show _ ∈ (ops13.getD 8 default).after; simp [ops13, regOps, cdPost, Try.f14]) rfl
    have d1 : L.getD 1 false = true := hall ⟨1, .data⟩ (by rw [ho']; show _ ∈ (ops13.getD 8 default).after; simp [ops13, regOps, cdPost, Try.f14]) rfl
    obtain ⟨q, u1, q1, q2⟩ := h.at_ 6 (by omega) d6
    obtain ⟨p, ca', cn', cc', ha', hn', hc', tb, cap, z0, z1, z2⟩ := h.at_ 1 (by omega) d1
    have u1' : a.eval (.tmp 8) = .pointer (some ⟨q, 0, none⟩) := u1
    have z0' : a.eval (.tmp 46) = .agg #[.int .i64 p, .slice ca' cn' cc', .slice ha' hn' hc', .slice (some ⟨tb, 0, none⟩) n cap] := z0
    refine wpOp_of (o := ops13.getD 8 default) rfl rfl (oper_skip (run13_store u1' z0' q2) ?_)
    show I13 _ _ _ _ _ _ _ _ a _
    have hone : ∀ v ∈ [Value.int .i64 p, .slice ca' cn' cc', .slice ha' hn' hc', .slice (some ⟨tb, 0, none⟩) n cap], v.oneCell' = true := by
      intro v hv
      simp only [List.mem_cons, List.not_mem_nil, or_false] at hv
      rcases hv with rfl | rfl | rfl | rfl <;> rfl
    have hsz := (setCells_below [Value.int .i64 p, .slice ca' cn' cc', .slice ha' hn' hc', .slice (some ⟨tb, 0, none⟩) n cap] w q 0 q (Nat.le_refl _)).size
    obtain ⟨row, t, hrh, hrs⟩ := q2
    refine ⟨by simpa using h.len, ?_, ?_, h.def0, h.size, hb.trans (setCells_below _ w q 0 _ q1), h.t1, h.t2, h.t5, ?_, ?_, ?_, ?_⟩
    · intro _
      rw [lset13 (by rw [h.len]; omega), lset13 (by rw [h.len]; omega), if_neg (by omega), if_neg (by omega)]
      exact ⟨d6, d7⟩
    · intro _
      rw [lset13 (by rw [h.len]; omega), lset13 (by rw [h.len]; omega), if_neg (by omega), if_neg (by omega)]
      exact ⟨d6, d7⟩
    · intro j hj e
      rw [lset13 (by rw [h.len]; omega), if_neg (by omega)] at e
      exact (h.at_ j hj e).set q _ (by show 4 ≤ 4; omega) hone
    · intro _ _
      exact h.ne d6 d7
    · intro _
      refine ⟨q, tb, cap, u1', ?_, z1, q1, (z2.set q 0 [.int .i64 p, .slice ca' cn' cc', .slice ha' hn' hc', .slice (some ⟨tb, 0, none⟩) n cap] (fun _ k _ => .inr (by show 0 + 4 ≤ _; omega)) fun _ => hone).up hsz⟩
      have := cell_setC w q 0 [.int .i64 p, .slice ca' cn' cc', .slice ha' hn' hc', .slice (some ⟨tb, 0, none⟩) n cap] row t hrh 3 (.slice (some ⟨tb, 0, none⟩) n cap) rfl (by omega)
      exact this
    · intro e
      rw [lset13 (by rw [h.len]; omega), if_neg (by omega)] at e
      obtain ⟨q', tb', cap', y1, y2, y3, y4, y5⟩ := h.st9 e
      have hne : q ≠ q' := by
        intro eq
        subst eq
        have := h.ne d6 d7
        rw [y1, u1'] at this
        exact this rfl
      exact ⟨q', tb', cap', y1, (World.cell?_setCells_out q _ 0 w ⟨q', 3, none⟩ fun e2 _ => absurd e2.symm hne).trans y2, y3, y4, (y5.set q 0 _ (fun _ k _ => .inr (by show 0 + 4 ≤ _; omega)) fun _ => hone).up hsz⟩
  | 9, _ =>
    have ho' : o = ops13.getD 9 default := (Option.some.inj (ho.symm.trans (rfl : ops13[9]? = some (ops13.getD 9 default))))
    have d6 : L.getD 6 false = true := hall ⟨6, .phase⟩ (by rw [ho']; show _ ∈ (ops13.getD 9 default).after; simp [ops13, regOps, cdPost, Try.f14]) rfl
    have d7 : L.getD 7 false = true := hall ⟨7, .data⟩ (by rw [ho']; show _ ∈ (ops13.getD 9 default).after; simp [ops13, regOps, cdPost, Try.f14]) rfl
    have d5 : L.getD 5 false = true := hall ⟨5, .data⟩ (by rw [ho']; show _ ∈ (ops13.getD 9 default).after; simp [ops13, regOps, cdPost, Try.f14]) rfl
    obtain ⟨q, u1, q1, q2⟩ := h.at_ 7 (by omega) d7
    obtain ⟨p, ca', cn', cc', ha', hn', hc', tb, cap, z0, z1, z2⟩ := h.at_ 5 (by omega) d5
    have u1' : a.eval (.tmp 9) = .pointer (some ⟨q, 0, none⟩) := u1
    have z0' : a.eval (.tmp 50) = .agg #[.int .i64 p, .slice ca' cn' cc', .slice ha' hn' hc', .slice (some ⟨tb, 0, none⟩) n cap] := z0
    refine wpOp_of (o := ops13.getD 9 default) rfl rfl (oper_skip (run13_store u1' z0' q2) ?_)
    show I13 _ _ _ _ _ _ _ _ a _
    have hone : ∀ v ∈ [Value.int .i64 p, .slice ca' cn' cc', .slice ha' hn' hc', .slice (some ⟨tb, 0, none⟩) n cap], v.oneCell' = true := by
      intro v hv
      simp only [List.mem_cons, List.not_mem_nil, or_false] at hv
      rcases hv with rfl | rfl | rfl | rfl <;> rfl
    have hsz := (setCells_below [Value.int .i64 p, .slice ca' cn' cc', .slice ha' hn' hc', .slice (some ⟨tb, 0, none⟩) n cap] w q 0 q (Nat.le_refl _)).size
    obtain ⟨row, t, hrh, hrs⟩ := q2
    refine ⟨by simpa using h.len, ?_, ?_, h.def0, h.size, hb.trans (setCells_below _ w q 0 _ q1), h.t1, h.t2, h.t5, ?_, ?_, ?_, ?_⟩
    · intro _
      rw [lset13 (by rw [h.len]; omega), lset13 (by rw [h.len]; omega), if_neg (by omega), if_neg (by omega)]
      exact ⟨d6, d7⟩
    · intro _
      rw [lset13 (by rw [h.len]; omega), lset13 (by rw [h.len]; omega), if_neg (by omega), if_neg (by omega)]
      exact ⟨d6, d7⟩
    · intro j hj e
      rw [lset13 (by rw [h.len]; omega), if_neg (by omega)] at e
      exact (h.at_ j hj e).set q _ (by show 4 ≤ 4; omega) hone
    · intro _ _
      exact h.ne d6 d7
    · intro e
      rw [lset13 (by rw [h.len]; omega), if_neg (by omega)] at e
      obtain ⟨q', tb', cap', y1, y2, y3, y4, y5⟩ := h.st8 e
      have hne : q ≠ q' := by
        intro eq
        subst eq
        have := h.ne d6 d7
        rw [y1, u1'] at this
        exact this rfl
      exact ⟨q', tb', cap', y1, (World.cell?_setCells_out q _ 0 w ⟨q', 3, none⟩ fun e2 _ => absurd e2.symm hne).trans y2, y3, y4, (y5.set q 0 _ (fun _ k _ => .inr (by show 0 + 4 ≤ _; omega)) fun _ => hone).up hsz⟩
    · intro _
      refine ⟨q, tb, cap, u1', ?_, z1, q1, (z2.set q 0 [.int .i64 p, .slice ca' cn' cc', .slice ha' hn' hc', .slice (some ⟨tb, 0, none⟩) n cap] (fun _ k _ => .inr (by show 0 + 4 ≤ _; omega)) fun _ => hone).up hsz⟩
      have := cell_setC w q 0 [.int .i64 p, .slice ca' cn' cc', .slice ha' hn' hc', .slice (some ⟨tb, 0, none⟩) n cap] row t hrh 3 (.slice (some ⟨tb, 0, none⟩) n cap) rfl (by omega)
      exact this
theorem lst13 {L : Array Bool} (hs : L.size = 10) (hr : Region.ready .any ops13 L = []) (i : Nat) (hi : i < 10) (D : List Nat) (hD : ∀ e ∈ (ops13.getD i default).after, e.on ∈ D) (hl : ∀ j ∈ D, L.getD j false = true) : L.getD i false = true := by
  have hd : ∀ e ∈ (ops13.getD i default).after, Region.binds .any e = true → L.getD e.on false = true := fun e he _ => hl _ (hD e he)
  cases h : L.getD i false with
  | true => rfl
  | false =>
    have h10 : ops13.size = 10 := rfl
    have hm : i ∈ Region.ready .any ops13 L := by
      refine mem_ready.2 ⟨?_, ops13.getD i default, ?_, hd⟩
      · rw [Array.getD_eq_getD_getElem?, Array.getElem?_eq_getElem (by rw [hs]; omega)] at h ⊢
        simpa using h
      · rw [Array.getD_eq_getD_getElem?, Array.getElem?_eq_getElem (by omega)]; rfl
    rw [hr] at hm
    cases hm
theorem all13 {L : Array Bool} (hs : L.size = 10) (hr : Region.ready .any ops13 L = []) : L.getD 6 false = true ∧ L.getD 7 false = true ∧ L.getD 8 false = true ∧ L.getD 9 false = true := by
  have l0 := lst13 hs hr 0 (by omega) [] (by simp [ops13, regOps, cdPost, Try.f14]) (by intro j hj; cases hj)
  have l2 := lst13 hs hr 2 (by omega) [] (by simp [ops13, regOps, cdPost, Try.f14]) (by intro j hj; cases hj)
  have l3 := lst13 hs hr 3 (by omega) [] (by simp [ops13, regOps, cdPost, Try.f14]) (by intro j hj; cases hj)
  have l6 := lst13 hs hr 6 (by omega) [] (by simp [ops13, regOps, cdPost, Try.f14]) (by intro j hj; cases hj)
  have l7 := lst13 hs hr 7 (by omega) [] (by simp [ops13, regOps, cdPost, Try.f14]) (by intro j hj; cases hj)
  have l1 := lst13 hs hr 1 (by omega) [0] (by simp [ops13, regOps, cdPost, Try.f14]) (by intro j hj; simp only [List.mem_cons, List.not_mem_nil, or_false] at hj; subst hj; assumption)
  have l4 := lst13 hs hr 4 (by omega) [3] (by simp [ops13, regOps, cdPost, Try.f14]) (by intro j hj; simp only [List.mem_cons, List.not_mem_nil, or_false] at hj; subst hj; assumption)
  have l5 := lst13 hs hr 5 (by omega) [2, 4, 1] (by simp [ops13, regOps, cdPost, Try.f14]) (by intro j hj; simp only [List.mem_cons, List.not_mem_nil, or_false] at hj; rcases hj with rfl | rfl | rfl <;> assumption)
  have l8 := lst13 hs hr 8 (by omega) [0, 1, 2, 3, 4, 5, 6, 7] (by simp [ops13, regOps, cdPost, Try.f14]) (by intro j hj; simp only [List.mem_cons, List.not_mem_nil, or_false] at hj; rcases hj with rfl | rfl | rfl | rfl | rfl | rfl | rfl | rfl <;> assumption)
  have l9 := lst13 hs hr 9 (by omega) [0, 1, 2, 3, 4, 5, 6, 7, 8] (by simp [ops13, regOps, cdPost, Try.f14]) (by intro j hj; simp only [List.mem_cons, List.not_mem_nil, or_false] at hj; rcases hj with rfl | rfl | rfl | rfl | rfl | rfl | rfl | rfl | rfl <;> assumption)
  exact ⟨l6, l7, l8, l9⟩
/-- What the region leaves. -/
structure Out13 (W : World) (n : Nat) (v1 p2 p5 : Value) (a : Act) (w : World) : Prop where
  def0 : a.defers = []
  size : a.tmps.size = 121
  below : Below W.heap.size W w
  t2 : a.eval (.tmp 2) = p2
  t5 : a.eval (.tmp 5) = p5
  st8 : ∃ q tb cap, a.eval (.tmp 8) = .pointer (some ⟨q, 0, none⟩) ∧ w.cell? ⟨q, 3, none⟩ = some (.slice (some ⟨tb, 0, none⟩) n cap) ∧ n ≤ cap ∧ W.heap.size ≤ q ∧ OwnS W.heap.size w.heap.size w tb n
  st9 : ∃ q tb cap, a.eval (.tmp 9) = .pointer (some ⟨q, 0, none⟩) ∧ w.cell? ⟨q, 3, none⟩ = some (.slice (some ⟨tb, 0, none⟩) n cap) ∧ n ≤ cap ∧ W.heap.size ≤ q ∧ OwnS W.heap.size w.heap.size w tb n
theorem region13 {Q : Exit → Act → World → Prop} {W : World} {n b5 : Nat} {k1 pr : Int} {ca ha ta : Option Addr} {cn cc hn hc tn tc : Nat} {p2 : Value} (hk : 0 ≤ k1 ∧ k1 ≤ 255)
    (hc0 : W.cell? ⟨b5, 0, none⟩ = some (.int .i64 pr)) (hc1 : W.cell? ⟨b5, 1, none⟩ = some (.slice ca cn cc)) (hc2 : W.cell? ⟨b5, 2, none⟩ = some (.slice ha hn hc)) (hc3 : W.cell? ⟨b5, 3, none⟩ = some (.slice ta tn tc))
    (hCan : ∀ W', Below W.heap.size W W' → Calls Try.prog 44 #[.agg #[.int .i64 pr, .slice ca cn cc, .slice ha hn hc, .slice ta tn tc]] W' (CopyPost W' n))
    (hMov : ∀ W', Below W.heap.size W W' → Calls Try.prog 46 #[.agg #[.int .i64 pr, .slice ca cn cc, .slice ha hn hc, .slice ta tn tc], .int .i64 k1] W' (CopyPost W' n))
    (a : Act) (hd : a.defers = []) (hsz : a.tmps.size = 121) (h1 : a.eval (.tmp 1) = .int .u8 k1) (h2 : a.eval (.tmp 2) = p2) (h5 : a.eval (.tmp 5) = .pointer (some ⟨b5, 0, none⟩))
    (hQ : ∀ a' w', Out13 W n (.int .u8 k1) p2 (.pointer (some ⟨b5, 0, none⟩)) a' w' → Q .normal a' w') : (Code.region 13 ops13 true).wp Try.prog Q a W := by
  refine wp_region_any (by kernel_rfl) ?_
  have hB : Below W.heap.size W { W with drawn := W.drawn + 1 } := (Below.refl W.heap.size W).drew
  refine wpAny_inv (I13 { W with drawn := W.drawn + 1 } n (.agg #[.int .i64 pr, .slice ca cn cc, .slice ha hn hc, .slice ta tn tc]) (.int .u8 k1) k1 p2 (.pointer (some ⟨b5, 0, none⟩))) (fun L a w i hI hi => step13 (W := { W with drawn := W.drawn + 1 }) hk hc0 hc1 hc2 hc3 (fun W' h => hCan W' (hB.trans h)) (fun W' h => hMov W' (hB.trans h)) L a w i hI hi) (fun L a w hI hr => ?_) _ _ _ _ (by simp) (by rw [show ops13.size = 10 from rfl]; decide) ?_
  · obtain ⟨l6, l7, l8, l9⟩ := all13 hI.len hr
    exact hQ _ _ ⟨hI.def0, hI.size, hB.trans hI.below, hI.t2, hI.t5, hI.st8 l8, hI.st9 l9⟩
  · refine ⟨rfl, ?_, ?_, hd, hsz, Below.refl .., h1, h2, h5, ?_, ?_, ?_, ?_⟩
    all_goals rw [show ops13.size = 10 from rfl]
    · intro e; exact absurd e (by decide)
    · intro e; exact absurd e (by decide)
    · intro i _ e
      rw [Array.getD_eq_getD_getElem?, Array.getElem?_replicate] at e
      split at e <;> cases e
    · intro e; exact absurd e (by decide)
    · intro e; exact absurd e (by decide)
    · intro e; exact absurd e (by decide)
end Go.Proofs.YtkohggddaheefaaEv
