-- made by a program of this session's own out of the translation; Lean checks it
import Derived.Test.YtapjngmlocgdoaaPCountRisesx0
import Derived.Test.YtapjngmlocgdoaaPCountRisesx1
namespace Go.Proofs.Ytapjngmlocgdoaa.PCountRises
open Go.RowKit Go.Proofs.YtapjngmlocgdoaaW.PrintWords Go.Proofs.YtapjngmlocgdoaaW.PrintLast Go.Proofs.YtapjngmlocgdoaaW.PrintMore
attribute [local go_sem] max2_int min2_int max_two min_two max_three min_three max_four min_four   -- for this text's walks alone
set_option linter.unusedVariables false
set_option linter.unusedSimpArgs false

/-! ### swingbridgelaw12_known: function 25 -/
def swingbridgelaw12_known.f (k : Nat)  : Option (Bool) := (count_Jobs.f k 10 3 5).bind fun t131 => (if t131 = 3 then ((count_Jobs.f k 0 3 5).bind fun t132 => (if t132 = 0 then ((count_Jobs.f k 1 0 5).bind fun t133 => (if t133 = 1 then ((count_Work.f k 10 3 5 4).bind fun t134 => (if t134 = 12 then ((count_Work.f k 10 3 5 (-1)).bind fun t135 => (some (t135 == 0))) else (some false))) else (some false))) else (some false))) else (some false))
theorem swingbridgelaw12_known.mono : ∀ k, LeO (swingbridgelaw12_known.f k ) (swingbridgelaw12_known.f (k + 1) ) := by
  intro  k
  unfold swingbridgelaw12_known.f
  repeat' first
      | (with_reducible exact count_Jobs.mono _ _ _ _)
      | (with_reducible exact count_Work.mono _ _ _ _ _)
      | (with_reducible exact LeO.refl _)
      | (with_reducible exact LeO.none _)
      | (with_reducible refine LeO.ite ?_ ?_)
      | (with_reducible refine LeO.bind ?_ (fun _ => ?_))
      | exact count_Jobs.mono _ _ _ _
      | exact count_Work.mono _ _ _ _ _
      | exact LeO.none _
      | refine LeO.ite ?_ ?_
      | refine LeO.bind ?_ (fun _ => ?_)
set_option maxHeartbeats 8000000 in
set_option maxRecDepth 100000 in
theorem swingbridgelaw12_known.calls (k : Nat)  (r : Bool) (w : World) (h : swingbridgelaw12_known.f k  = some r) :
    Calls Try.prog 25 #[] w fun e w' => e = .returned (.bool r) ∧ Below w.heap.size w w' := by
  have HB := Aside0.mk (Below.refl w.heap.size w)
  have H : ((count_Jobs.f k 10 3 5).bind fun t131 => (if t131 = 3 then ((count_Jobs.f k 0 3 5).bind fun t132 => (if t132 = 0 then ((count_Jobs.f k 1 0 5).bind fun t133 => (if t133 = 1 then ((count_Work.f k 10 3 5 4).bind fun t134 => (if t134 = 12 then ((count_Work.f k 10 3 5 (-1)).bind fun t135 => (some (t135 == 0))) else (some false))) else (some false))) else (some false))) else (some false))) = some r := h
  clear h
  replace H := Option.bind_eq_some_iff.mp H
  obtain ⟨t131, A10, H⟩ := H
  replace H : (if t131 = 3 then ((count_Jobs.f k 0 3 5).bind fun t132 => (if t132 = 0 then ((count_Jobs.f k 1 0 5).bind fun t133 => (if t133 = 1 then ((count_Work.f k 10 3 5 4).bind fun t134 => (if t134 = 12 then ((count_Work.f k 10 3 5 (-1)).bind fun t135 => (some (t135 == 0))) else (some false))) else (some false))) else (some false))) else (some false)) = some r := H
  have A1 := Aside0.mk A10
  clear A10
  by_cases c2 : t131 = 3
  · rw [if_pos c2] at H
    have c2b0 : (t131 == 3) = true := beq_iff_eq.mpr c2
    have c2b1 : (t131 != 3) = false := bne_eq_false_iff_eq.mpr c2
    clear c2
    replace H := Option.bind_eq_some_iff.mp H
    obtain ⟨t132, A30, H⟩ := H
    replace H : (if t132 = 0 then ((count_Jobs.f k 1 0 5).bind fun t133 => (if t133 = 1 then ((count_Work.f k 10 3 5 4).bind fun t134 => (if t134 = 12 then ((count_Work.f k 10 3 5 (-1)).bind fun t135 => (some (t135 == 0))) else (some false))) else (some false))) else (some false)) = some r := H
    have A3 := Aside0.mk A30
    clear A30
    by_cases c4 : t132 = 0
    · rw [if_pos c4] at H
      have c4b0 : (t132 == 0) = true := beq_iff_eq.mpr c4
      have c4b1 : (t132 != 0) = false := bne_eq_false_iff_eq.mpr c4
      clear c4
      replace H := Option.bind_eq_some_iff.mp H
      obtain ⟨t133, A50, H⟩ := H
      replace H : (if t133 = 1 then ((count_Work.f k 10 3 5 4).bind fun t134 => (if t134 = 12 then ((count_Work.f k 10 3 5 (-1)).bind fun t135 => (some (t135 == 0))) else (some false))) else (some false)) = some r := H
      have A5 := Aside0.mk A50
      clear A50
      by_cases c6 : t133 = 1
      · rw [if_pos c6] at H
        have c6b0 : (t133 == 1) = true := beq_iff_eq.mpr c6
        have c6b1 : (t133 != 1) = false := bne_eq_false_iff_eq.mpr c6
        clear c6
        replace H := Option.bind_eq_some_iff.mp H
        obtain ⟨t134, A70, H⟩ := H
        replace H : (if t134 = 12 then ((count_Work.f k 10 3 5 (-1)).bind fun t135 => (some (t135 == 0))) else (some false)) = some r := H
        have A7 := Aside0.mk A70
        clear A70
        by_cases c8 : t134 = 12
        · rw [if_pos c8] at H
          have c8b0 : (t134 == 12) = true := beq_iff_eq.mpr c8
          have c8b1 : (t134 != 12) = false := bne_eq_false_iff_eq.mpr c8
          clear c8
          replace H := Option.bind_eq_some_iff.mp H
          obtain ⟨t135, A90, H⟩ := H
          replace H : (some (t135 == 0)) = some r := H
          have A9 := Aside0.mk A90
          clear A90
          obtain rfl := Option.some.inj H
          go_enter Try.func25, Try.ntmps25
          go_wp2_with (first | ((with_reducible refine gate_callee (f := 26) rfl ?_); refine goesL_ (some 1) rfl rfl Try.func26 (by kernel_rfl) rfl #[.int .i64 10, .int .i64 3, .int .i64 5] rfl (by (try simp only [List.map_toArray, List.map_cons, List.map_nil]); first | done | rfl | (simp only [List.length_drop, List.length_take]; rfl)) ?_; (with_reducible refine (count_Jobs.calls k 10 3 5 t131 _ A1.out).mono ?_); rintro e w10 ⟨rfl, hb⟩; refine ⟨_, rfl, ?_⟩; have n0_ := Aside0.mk (below_step (by repeat (first | (with_reducible first | exact HB.out | apply below_alloc | apply pw_below_drewN | apply below_drew1) | exact HB.out)) hb); clear HB; have HB := n0_; clear n0_; (try clear hb); (try clear hb2); (try clear hk); (try clear hi)) | (go_at_call 26; (with_reducible refine (count_Jobs.calls k 0 3 5 t132 _ A3.out).mono ?_); rintro e w11 ⟨rfl, hb⟩; have n0_ := Aside0.mk (below_step (by repeat (first | (with_reducible first | exact HB.out | apply below_alloc | apply pw_below_drewN | apply below_drew1) | exact HB.out)) hb); clear HB; have HB := n0_; clear n0_; (try clear hb); (try clear hb2); (try clear hk); (try clear hi)) | (go_at_call 26; (with_reducible refine (count_Jobs.calls k 1 0 5 t133 _ A5.out).mono ?_); rintro e w12 ⟨rfl, hb⟩; have n0_ := Aside0.mk (below_step (by repeat (first | (with_reducible first | exact HB.out | apply below_alloc | apply pw_below_drewN | apply below_drew1) | exact HB.out)) hb); clear HB; have HB := n0_; clear n0_; (try clear hb); (try clear hb2); (try clear hk); (try clear hi)) | (go_at_call 27; (with_reducible refine (count_Work.calls k 10 3 5 4 t134 _ A7.out).mono ?_); rintro e w13 ⟨rfl, hb⟩; have n0_ := Aside0.mk (below_step (by repeat (first | (with_reducible first | exact HB.out | apply below_alloc | apply pw_below_drewN | apply below_drew1) | exact HB.out)) hb); clear HB; have HB := n0_; clear n0_; (try clear hb); (try clear hb2); (try clear hk); (try clear hi)) | (go_at_call 27; (with_reducible refine (count_Work.calls k 10 3 5 (-1) t135 _ A9.out).mono ?_); rintro e w14 ⟨rfl, hb⟩; have n0_ := Aside0.mk (below_step (by repeat (first | (with_reducible first | exact HB.out | apply below_alloc | apply pw_below_drewN | apply below_drew1) | exact HB.out)) hb); clear HB; have HB := n0_; clear n0_; (try clear hb); (try clear hb2); (try clear hk); (try clear hi)))
          go_ret
          exact ⟨by first | rfl | (simp [errW_none, errW_some] <;> rfl) | (simp [*, errW_none, errW_some] <;> rfl), by repeat (first | (with_reducible first | exact HB.out | apply below_alloc | apply pw_below_drewN | apply below_drew1) | exact HB.out)⟩
        · rw [if_neg c8] at H
          have c8b0 : (t134 == 12) = false := beq_eq_false_iff_ne.mpr c8
          have c8b1 : (t134 != 12) = true := bne_iff_ne.mpr c8
          obtain rfl := Option.some.inj H
          go_enter Try.func25, Try.ntmps25
          go_wp2_with (first | ((with_reducible refine gate_callee (f := 26) rfl ?_); refine goesL_ (some 1) rfl rfl Try.func26 (by kernel_rfl) rfl #[.int .i64 10, .int .i64 3, .int .i64 5] rfl (by (try simp only [List.map_toArray, List.map_cons, List.map_nil]); first | done | rfl | (simp only [List.length_drop, List.length_take]; rfl)) ?_; (with_reducible refine (count_Jobs.calls k 10 3 5 t131 _ A1.out).mono ?_); rintro e w15 ⟨rfl, hb⟩; refine ⟨_, rfl, ?_⟩; have n0_ := Aside0.mk (below_step (by repeat (first | (with_reducible first | exact HB.out | apply below_alloc | apply pw_below_drewN | apply below_drew1) | exact HB.out)) hb); clear HB; have HB := n0_; clear n0_; (try clear hb); (try clear hb2); (try clear hk); (try clear hi)) | (go_at_call 26; (with_reducible refine (count_Jobs.calls k 0 3 5 t132 _ A3.out).mono ?_); rintro e w16 ⟨rfl, hb⟩; have n0_ := Aside0.mk (below_step (by repeat (first | (with_reducible first | exact HB.out | apply below_alloc | apply pw_below_drewN | apply below_drew1) | exact HB.out)) hb); clear HB; have HB := n0_; clear n0_; (try clear hb); (try clear hb2); (try clear hk); (try clear hi)) | (go_at_call 26; (with_reducible refine (count_Jobs.calls k 1 0 5 t133 _ A5.out).mono ?_); rintro e w17 ⟨rfl, hb⟩; have n0_ := Aside0.mk (below_step (by repeat (first | (with_reducible first | exact HB.out | apply below_alloc | apply pw_below_drewN | apply below_drew1) | exact HB.out)) hb); clear HB; have HB := n0_; clear n0_; (try clear hb); (try clear hb2); (try clear hk); (try clear hi)) | (go_at_call 27; (with_reducible refine (count_Work.calls k 10 3 5 4 t134 _ A7.out).mono ?_); rintro e w18 ⟨rfl, hb⟩; have n0_ := Aside0.mk (below_step (by repeat (first | (with_reducible first | exact HB.out | apply below_alloc | apply pw_below_drewN | apply below_drew1) | exact HB.out)) hb); clear HB; have HB := n0_; clear n0_; (try clear hb); (try clear hb2); (try clear hk); (try clear hi)))
          go_ret
          exact ⟨by first | rfl | (simp [errW_none, errW_some] <;> rfl) | (simp [*, errW_none, errW_some] <;> rfl), by repeat (first | (with_reducible first | exact HB.out | apply below_alloc | apply pw_below_drewN | apply below_drew1) | exact HB.out)⟩
      · rw [if_neg c6] at H
        have c6b0 : (t133 == 1) = false := beq_eq_false_iff_ne.mpr c6
        have c6b1 : (t133 != 1) = true := bne_iff_ne.mpr c6
        obtain rfl := Option.some.inj H
        go_enter Try.func25, Try.ntmps25
        go_wp2_with (first | ((with_reducible refine gate_callee (f := 26) rfl ?_); refine goesL_ (some 1) rfl rfl Try.func26 (by kernel_rfl) rfl #[.int .i64 10, .int .i64 3, .int .i64 5] rfl (by (try simp only [List.map_toArray, List.map_cons, List.map_nil]); first | done | rfl | (simp only [List.length_drop, List.length_take]; rfl)) ?_; (with_reducible refine (count_Jobs.calls k 10 3 5 t131 _ A1.out).mono ?_); rintro e w19 ⟨rfl, hb⟩; refine ⟨_, rfl, ?_⟩; have n0_ := Aside0.mk (below_step (by repeat (first | (with_reducible first | exact HB.out | apply below_alloc | apply pw_below_drewN | apply below_drew1) | exact HB.out)) hb); clear HB; have HB := n0_; clear n0_; (try clear hb); (try clear hb2); (try clear hk); (try clear hi)) | (go_at_call 26; (with_reducible refine (count_Jobs.calls k 0 3 5 t132 _ A3.out).mono ?_); rintro e w20 ⟨rfl, hb⟩; have n0_ := Aside0.mk (below_step (by repeat (first | (with_reducible first | exact HB.out | apply below_alloc | apply pw_below_drewN | apply below_drew1) | exact HB.out)) hb); clear HB; have HB := n0_; clear n0_; (try clear hb); (try clear hb2); (try clear hk); (try clear hi)) | (go_at_call 26; (with_reducible refine (count_Jobs.calls k 1 0 5 t133 _ A5.out).mono ?_); rintro e w21 ⟨rfl, hb⟩; have n0_ := Aside0.mk (below_step (by repeat (first | (with_reducible first | exact HB.out | apply below_alloc | apply pw_below_drewN | apply below_drew1) | exact HB.out)) hb); clear HB; have HB := n0_; clear n0_; (try clear hb); (try clear hb2); (try clear hk); (try clear hi)))
        go_ret
        exact ⟨by first | rfl | (simp [errW_none, errW_some] <;> rfl) | (simp [*, errW_none, errW_some] <;> rfl), by repeat (first | (with_reducible first | exact HB.out | apply below_alloc | apply pw_below_drewN | apply below_drew1) | exact HB.out)⟩
    · rw [if_neg c4] at H
      have c4b0 : (t132 == 0) = false := beq_eq_false_iff_ne.mpr c4
      have c4b1 : (t132 != 0) = true := bne_iff_ne.mpr c4
      obtain rfl := Option.some.inj H
      go_enter Try.func25, Try.ntmps25
      go_wp2_with (first | ((with_reducible refine gate_callee (f := 26) rfl ?_); refine goesL_ (some 1) rfl rfl Try.func26 (by kernel_rfl) rfl #[.int .i64 10, .int .i64 3, .int .i64 5] rfl (by (try simp only [List.map_toArray, List.map_cons, List.map_nil]); first | done | rfl | (simp only [List.length_drop, List.length_take]; rfl)) ?_; (with_reducible refine (count_Jobs.calls k 10 3 5 t131 _ A1.out).mono ?_); rintro e w22 ⟨rfl, hb⟩; refine ⟨_, rfl, ?_⟩; have n0_ := Aside0.mk (below_step (by repeat (first | (with_reducible first | exact HB.out | apply below_alloc | apply pw_below_drewN | apply below_drew1) | exact HB.out)) hb); clear HB; have HB := n0_; clear n0_; (try clear hb); (try clear hb2); (try clear hk); (try clear hi)) | (go_at_call 26; (with_reducible refine (count_Jobs.calls k 0 3 5 t132 _ A3.out).mono ?_); rintro e w23 ⟨rfl, hb⟩; have n0_ := Aside0.mk (below_step (by repeat (first | (with_reducible first | exact HB.out | apply below_alloc | apply pw_below_drewN | apply below_drew1) | exact HB.out)) hb); clear HB; have HB := n0_; clear n0_; (try clear hb); (try clear hb2); (try clear hk); (try clear hi)))
      go_ret
      exact ⟨by first | rfl | (simp [errW_none, errW_some] <;> rfl) | (simp [*, errW_none, errW_some] <;> rfl), by repeat (first | (with_reducible first | exact HB.out | apply below_alloc | apply pw_below_drewN | apply below_drew1) | exact HB.out)⟩
  · rw [if_neg c2] at H
    have c2b0 : (t131 == 3) = false := beq_eq_false_iff_ne.mpr c2
    have c2b1 : (t131 != 3) = true := bne_iff_ne.mpr c2
    obtain rfl := Option.some.inj H
    go_enter Try.func25, Try.ntmps25
    go_wp2_with (first | ((with_reducible refine gate_callee (f := 26) rfl ?_); refine goesL_ (some 1) rfl rfl Try.func26 (by kernel_rfl) rfl #[.int .i64 10, .int .i64 3, .int .i64 5] rfl (by (try simp only [List.map_toArray, List.map_cons, List.map_nil]); first | done | rfl | (simp only [List.length_drop, List.length_take]; rfl)) ?_; (with_reducible refine (count_Jobs.calls k 10 3 5 t131 _ A1.out).mono ?_); rintro e w24 ⟨rfl, hb⟩; refine ⟨_, rfl, ?_⟩; have n0_ := Aside0.mk (below_step (by repeat (first | (with_reducible first | exact HB.out | apply below_alloc | apply pw_below_drewN | apply below_drew1) | exact HB.out)) hb); clear HB; have HB := n0_; clear n0_; (try clear hb); (try clear hb2); (try clear hk); (try clear hi)))
    go_ret
    exact ⟨by first | rfl | (simp [errW_none, errW_some] <;> rfl) | (simp [*, errW_none, errW_some] <;> rfl), by repeat (first | (with_reducible first | exact HB.out | apply below_alloc | apply pw_below_drewN | apply below_drew1) | exact HB.out)⟩

/-! ### swingbridgelaw12_CountRises: function 11 -/
def swingbridgelaw12_CountRises.f (k : Nat) (a0 : Int) (a1 : Int) (a2 : Int) (a3 : Int) (a4 : Int) : Option (Bool) := (swingbridgelaw12_known.f k).bind fun t136 => (if t136 = true then ((count_Work.f k (wrap64 (a0)) (wrap64 (a1)) (wrap64 ((wrap64 (a2)) + 1)) (wrap64 (a3))).bind fun t137 => (if t137 ≥ 0 then ((count_Work.f k (wrap64 ((wrap64 (a0)) + (wrap64 (a4)))) (wrap64 (a1)) (wrap64 ((wrap64 (a2)) + 1)) (wrap64 (a3))).bind fun t138 => (if t138 ≥ t137 then ((count_Work.f k (wrap64 (a0)) (wrap64 ((wrap64 (a1)) + (wrap64 (a4)))) (wrap64 ((wrap64 (a2)) + 1)) (wrap64 (a3))).bind fun t139 => (if t139 ≥ t137 then ((count_Work.f k (wrap64 (a0)) (wrap64 (a1)) (wrap64 ((wrap64 ((wrap64 (a2)) + 1)) + (wrap64 (a4)))) (wrap64 (a3))).bind fun t140 => (if t140 ≤ t137 then ((count_Work.f k (wrap64 (a0)) (wrap64 (a1)) (wrap64 ((wrap64 (a2)) + 1)) (wrap64 ((wrap64 (a3)) + (wrap64 (a4))))).bind fun t141 => (some (decide (t141 ≥ t137)))) else (some false))) else (some false))) else (some false))) else (some false))) else (some false))
theorem swingbridgelaw12_CountRises.mono : ∀ a0 a1 a2 a3 a4 k, LeO (swingbridgelaw12_CountRises.f k a0 a1 a2 a3 a4) (swingbridgelaw12_CountRises.f (k + 1) a0 a1 a2 a3 a4) := by
  intro a0 a1 a2 a3 a4 k
  unfold swingbridgelaw12_CountRises.f
  repeat' first
      | (with_reducible exact count_Work.mono _ _ _ _ _)
      | (with_reducible exact swingbridgelaw12_known.mono _)
      | (with_reducible exact LeO.refl _)
      | (with_reducible exact LeO.none _)
      | (with_reducible refine LeO.ite ?_ ?_)
      | (with_reducible refine LeO.bind ?_ (fun _ => ?_))
      | exact count_Work.mono _ _ _ _ _
      | exact swingbridgelaw12_known.mono _
      | exact LeO.none _
      | refine LeO.ite ?_ ?_
      | refine LeO.bind ?_ (fun _ => ?_)
set_option maxHeartbeats 8000000 in
set_option maxRecDepth 100000 in
theorem swingbridgelaw12_CountRises.calls (k : Nat) (a0 : Int) (a1 : Int) (a2 : Int) (a3 : Int) (a4 : Int) (r : Bool) (w : World) (h : swingbridgelaw12_CountRises.f k a0 a1 a2 a3 a4 = some r) :
    Calls Try.prog 11 #[.int .u16 a0, .int .u16 a1, .int .u16 a2, .int .u16 a3, .int .u16 a4] w fun e w' => e = .returned (.bool r) ∧ Below w.heap.size w w' := by
  have HB := Aside0.mk (Below.refl w.heap.size w)
  have H : ((swingbridgelaw12_known.f k).bind fun t136 => (if t136 = true then ((count_Work.f k (wrap64 (a0)) (wrap64 (a1)) (wrap64 ((wrap64 (a2)) + 1)) (wrap64 (a3))).bind fun t137 => (if t137 ≥ 0 then ((count_Work.f k (wrap64 ((wrap64 (a0)) + (wrap64 (a4)))) (wrap64 (a1)) (wrap64 ((wrap64 (a2)) + 1)) (wrap64 (a3))).bind fun t138 => (if t138 ≥ t137 then ((count_Work.f k (wrap64 (a0)) (wrap64 ((wrap64 (a1)) + (wrap64 (a4)))) (wrap64 ((wrap64 (a2)) + 1)) (wrap64 (a3))).bind fun t139 => (if t139 ≥ t137 then ((count_Work.f k (wrap64 (a0)) (wrap64 (a1)) (wrap64 ((wrap64 ((wrap64 (a2)) + 1)) + (wrap64 (a4)))) (wrap64 (a3))).bind fun t140 => (if t140 ≤ t137 then ((count_Work.f k (wrap64 (a0)) (wrap64 (a1)) (wrap64 ((wrap64 (a2)) + 1)) (wrap64 ((wrap64 (a3)) + (wrap64 (a4))))).bind fun t141 => (some (decide (t141 ≥ t137)))) else (some false))) else (some false))) else (some false))) else (some false))) else (some false))) = some r := h
  clear h
  replace H := Option.bind_eq_some_iff.mp H
  obtain ⟨t136, A60, H⟩ := H
  replace H : (if t136 = true then ((count_Work.f k (wrap64 (a0)) (wrap64 (a1)) (wrap64 ((wrap64 (a2)) + 1)) (wrap64 (a3))).bind fun t137 => (if t137 ≥ 0 then ((count_Work.f k (wrap64 ((wrap64 (a0)) + (wrap64 (a4)))) (wrap64 (a1)) (wrap64 ((wrap64 (a2)) + 1)) (wrap64 (a3))).bind fun t138 => (if t138 ≥ t137 then ((count_Work.f k (wrap64 (a0)) (wrap64 ((wrap64 (a1)) + (wrap64 (a4)))) (wrap64 ((wrap64 (a2)) + 1)) (wrap64 (a3))).bind fun t139 => (if t139 ≥ t137 then ((count_Work.f k (wrap64 (a0)) (wrap64 (a1)) (wrap64 ((wrap64 ((wrap64 (a2)) + 1)) + (wrap64 (a4)))) (wrap64 (a3))).bind fun t140 => (if t140 ≤ t137 then ((count_Work.f k (wrap64 (a0)) (wrap64 (a1)) (wrap64 ((wrap64 (a2)) + 1)) (wrap64 ((wrap64 (a3)) + (wrap64 (a4))))).bind fun t141 => (some (decide (t141 ≥ t137)))) else (some false))) else (some false))) else (some false))) else (some false))) else (some false)) = some r := H
  have A6 := Aside0.mk A60
  clear A60
  by_cases c7 : t136 = true
  · subst c7
    have H1 : ((count_Work.f k (wrap64 (a0)) (wrap64 (a1)) (wrap64 ((wrap64 (a2)) + 1)) (wrap64 (a3))).bind fun t137 => (if t137 ≥ 0 then ((count_Work.f k (wrap64 ((wrap64 (a0)) + (wrap64 (a4)))) (wrap64 (a1)) (wrap64 ((wrap64 (a2)) + 1)) (wrap64 (a3))).bind fun t138 => (if t138 ≥ t137 then ((count_Work.f k (wrap64 (a0)) (wrap64 ((wrap64 (a1)) + (wrap64 (a4)))) (wrap64 ((wrap64 (a2)) + 1)) (wrap64 (a3))).bind fun t139 => (if t139 ≥ t137 then ((count_Work.f k (wrap64 (a0)) (wrap64 (a1)) (wrap64 ((wrap64 ((wrap64 (a2)) + 1)) + (wrap64 (a4)))) (wrap64 (a3))).bind fun t140 => (if t140 ≤ t137 then ((count_Work.f k (wrap64 (a0)) (wrap64 (a1)) (wrap64 ((wrap64 (a2)) + 1)) (wrap64 ((wrap64 (a3)) + (wrap64 (a4))))).bind fun t141 => (some (decide (t141 ≥ t137)))) else (some false))) else (some false))) else (some false))) else (some false))) = some r := by rw [if_pos rfl] at H; exact H
    clear H
    have H := H1
    clear H1
    replace H := Option.bind_eq_some_iff.mp H
    obtain ⟨t137, A80, H⟩ := H
    replace H : (if t137 ≥ 0 then ((count_Work.f k (wrap64 ((wrap64 (a0)) + (wrap64 (a4)))) (wrap64 (a1)) (wrap64 ((wrap64 (a2)) + 1)) (wrap64 (a3))).bind fun t138 => (if t138 ≥ t137 then ((count_Work.f k (wrap64 (a0)) (wrap64 ((wrap64 (a1)) + (wrap64 (a4)))) (wrap64 ((wrap64 (a2)) + 1)) (wrap64 (a3))).bind fun t139 => (if t139 ≥ t137 then ((count_Work.f k (wrap64 (a0)) (wrap64 (a1)) (wrap64 ((wrap64 ((wrap64 (a2)) + 1)) + (wrap64 (a4)))) (wrap64 (a3))).bind fun t140 => (if t140 ≤ t137 then ((count_Work.f k (wrap64 (a0)) (wrap64 (a1)) (wrap64 ((wrap64 (a2)) + 1)) (wrap64 ((wrap64 (a3)) + (wrap64 (a4))))).bind fun t141 => (some (decide (t141 ≥ t137)))) else (some false))) else (some false))) else (some false))) else (some false)) = some r := H
    have A8 := Aside0.mk A80
    clear A80
    by_cases c9 : t137 ≥ 0
    · rw [if_pos c9] at H
      have c9b0 : decide (0 ≤ t137) = true := decide_eq_true c9
      clear c9
      replace H := Option.bind_eq_some_iff.mp H
      obtain ⟨t138, A100, H⟩ := H
      replace H : (if t138 ≥ t137 then ((count_Work.f k (wrap64 (a0)) (wrap64 ((wrap64 (a1)) + (wrap64 (a4)))) (wrap64 ((wrap64 (a2)) + 1)) (wrap64 (a3))).bind fun t139 => (if t139 ≥ t137 then ((count_Work.f k (wrap64 (a0)) (wrap64 (a1)) (wrap64 ((wrap64 ((wrap64 (a2)) + 1)) + (wrap64 (a4)))) (wrap64 (a3))).bind fun t140 => (if t140 ≤ t137 then ((count_Work.f k (wrap64 (a0)) (wrap64 (a1)) (wrap64 ((wrap64 (a2)) + 1)) (wrap64 ((wrap64 (a3)) + (wrap64 (a4))))).bind fun t141 => (some (decide (t141 ≥ t137)))) else (some false))) else (some false))) else (some false)) = some r := H
      have A10 := Aside0.mk A100
      clear A100
      by_cases c11 : t138 ≥ t137
      · rw [if_pos c11] at H
        have c11b0 : decide (t137 ≤ t138) = true := decide_eq_true c11
        clear c11
        replace H := Option.bind_eq_some_iff.mp H
        obtain ⟨t139, A120, H⟩ := H
        replace H : (if t139 ≥ t137 then ((count_Work.f k (wrap64 (a0)) (wrap64 (a1)) (wrap64 ((wrap64 ((wrap64 (a2)) + 1)) + (wrap64 (a4)))) (wrap64 (a3))).bind fun t140 => (if t140 ≤ t137 then ((count_Work.f k (wrap64 (a0)) (wrap64 (a1)) (wrap64 ((wrap64 (a2)) + 1)) (wrap64 ((wrap64 (a3)) + (wrap64 (a4))))).bind fun t141 => (some (decide (t141 ≥ t137)))) else (some false))) else (some false)) = some r := H
        have A12 := Aside0.mk A120
        clear A120
        by_cases c13 : t139 ≥ t137
        · rw [if_pos c13] at H
          have c13b0 : decide (t137 ≤ t139) = true := decide_eq_true c13
          clear c13
          replace H := Option.bind_eq_some_iff.mp H
          obtain ⟨t140, A140, H⟩ := H
          replace H : (if t140 ≤ t137 then ((count_Work.f k (wrap64 (a0)) (wrap64 (a1)) (wrap64 ((wrap64 (a2)) + 1)) (wrap64 ((wrap64 (a3)) + (wrap64 (a4))))).bind fun t141 => (some (decide (t141 ≥ t137)))) else (some false)) = some r := H
          have A14 := Aside0.mk A140
          clear A140
          by_cases c15 : t140 ≤ t137
          · rw [if_pos c15] at H
            have c15b0 : decide (t140 ≤ t137) = true := decide_eq_true c15
            clear c15
            replace H := Option.bind_eq_some_iff.mp H
            obtain ⟨t141, A160, H⟩ := H
            replace H : (some (decide (t141 ≥ t137))) = some r := H
            have A16 := Aside0.mk A160
            clear A160
            obtain rfl := Option.some.inj H
            go_enter Try.func11, Try.ntmps11
            go_wp2_with (first | ((with_reducible refine gate_callee (f := 25) rfl ?_); refine goesL_ (some 17) rfl rfl Try.func25 (by kernel_rfl) rfl #[] rfl (by (try simp only [List.map_toArray, List.map_cons, List.map_nil]); first | done | rfl | (simp only [List.length_drop, List.length_take]; rfl)) ?_; (with_reducible refine (swingbridgelaw12_known.calls k  true _ A6.out).mono ?_); rintro e w17 ⟨rfl, hb⟩; refine ⟨_, rfl, ?_⟩; have n0_ := Aside0.mk (below_step (by repeat (first | (with_reducible first | exact HB.out | apply below_alloc | apply pw_below_drewN | apply below_drew1) | exact HB.out)) hb); clear HB; have HB := n0_; clear n0_; (try clear hb); (try clear hb2); (try clear hk); (try clear hi)) | ((with_reducible refine gate_callee (f := 27) rfl ?_); refine goesL_ (some 34) rfl rfl Try.func27 (by kernel_rfl) rfl #[.int .i64 (wrap64 (a0)), .int .i64 (wrap64 (a1)), .int .i64 (wrap64 ((wrap64 (a2)) + 1)), .int .i64 (wrap64 (a3))] rfl (by (try simp only [List.map_toArray, List.map_cons, List.map_nil]); first | done | rfl | (simp only [List.length_drop, List.length_take]; rfl)) ?_; (with_reducible refine (count_Work.calls k (wrap64 (a0)) (wrap64 (a1)) (wrap64 ((wrap64 (a2)) + 1)) (wrap64 (a3)) t137 _ A8.out).mono ?_); rintro e w18 ⟨rfl, hb⟩; refine ⟨_, rfl, ?_⟩; have n0_ := Aside0.mk (below_step (by repeat (first | (with_reducible first | exact HB.out | apply below_alloc | apply pw_below_drewN | apply below_drew1) | exact HB.out)) hb); clear HB; have HB := n0_; clear n0_; (try clear hb); (try clear hb2); (try clear hk); (try clear hi)) | (go_at_call 27; (with_reducible refine (count_Work.calls k (wrap64 ((wrap64 (a0)) + (wrap64 (a4)))) (wrap64 (a1)) (wrap64 ((wrap64 (a2)) + 1)) (wrap64 (a3)) t138 _ A10.out).mono ?_); rintro e w19 ⟨rfl, hb⟩; have n0_ := Aside0.mk (below_step (by repeat (first | (with_reducible first | exact HB.out | apply below_alloc | apply pw_below_drewN | apply below_drew1) | exact HB.out)) hb); clear HB; have HB := n0_; clear n0_; (try clear hb); (try clear hb2); (try clear hk); (try clear hi)) | (go_at_call 27; (with_reducible refine (count_Work.calls k (wrap64 (a0)) (wrap64 ((wrap64 (a1)) + (wrap64 (a4)))) (wrap64 ((wrap64 (a2)) + 1)) (wrap64 (a3)) t139 _ A12.out).mono ?_); rintro e w20 ⟨rfl, hb⟩; have n0_ := Aside0.mk (below_step (by repeat (first | (with_reducible first | exact HB.out | apply below_alloc | apply pw_below_drewN | apply below_drew1) | exact HB.out)) hb); clear HB; have HB := n0_; clear n0_; (try clear hb); (try clear hb2); (try clear hk); (try clear hi)) | (go_at_call 27; (with_reducible refine (count_Work.calls k (wrap64 (a0)) (wrap64 (a1)) (wrap64 ((wrap64 ((wrap64 (a2)) + 1)) + (wrap64 (a4)))) (wrap64 (a3)) t140 _ A14.out).mono ?_); rintro e w21 ⟨rfl, hb⟩; have n0_ := Aside0.mk (below_step (by repeat (first | (with_reducible first | exact HB.out | apply below_alloc | apply pw_below_drewN | apply below_drew1) | exact HB.out)) hb); clear HB; have HB := n0_; clear n0_; (try clear hb); (try clear hb2); (try clear hk); (try clear hi)) | (go_at_call 27; (with_reducible refine (count_Work.calls k (wrap64 (a0)) (wrap64 (a1)) (wrap64 ((wrap64 (a2)) + 1)) (wrap64 ((wrap64 (a3)) + (wrap64 (a4)))) t141 _ A16.out).mono ?_); rintro e w22 ⟨rfl, hb⟩; have n0_ := Aside0.mk (below_step (by repeat (first | (with_reducible first | exact HB.out | apply below_alloc | apply pw_below_drewN | apply below_drew1) | exact HB.out)) hb); clear HB; have HB := n0_; clear n0_; (try clear hb); (try clear hb2); (try clear hk); (try clear hi)))
            go_ret
            exact ⟨by first | rfl | (simp [errW_none, errW_some] <;> rfl) | (simp [*, errW_none, errW_some] <;> rfl), by repeat (first | (with_reducible first | exact HB.out | apply below_alloc | apply pw_below_drewN | apply below_drew1) | exact HB.out)⟩
          · rw [if_neg c15] at H
            have c15b0 : decide (t140 ≤ t137) = false := decide_eq_false c15
            clear c15
            obtain rfl := Option.some.inj H
            go_enter Try.func11, Try.ntmps11
            go_wp2_with (first | ((with_reducible refine gate_callee (f := 25) rfl ?_); refine goesL_ (some 17) rfl rfl Try.func25 (by kernel_rfl) rfl #[] rfl (by (try simp only [List.map_toArray, List.map_cons, List.map_nil]); first | done | rfl | (simp only [List.length_drop, List.length_take]; rfl)) ?_; (with_reducible refine (swingbridgelaw12_known.calls k  true _ A6.out).mono ?_); rintro e w23 ⟨rfl, hb⟩; refine ⟨_, rfl, ?_⟩; have n0_ := Aside0.mk (below_step (by repeat (first | (with_reducible first | exact HB.out | apply below_alloc | apply pw_below_drewN | apply below_drew1) | exact HB.out)) hb); clear HB; have HB := n0_; clear n0_; (try clear hb); (try clear hb2); (try clear hk); (try clear hi)) | ((with_reducible refine gate_callee (f := 27) rfl ?_); refine goesL_ (some 34) rfl rfl Try.func27 (by kernel_rfl) rfl #[.int .i64 (wrap64 (a0)), .int .i64 (wrap64 (a1)), .int .i64 (wrap64 ((wrap64 (a2)) + 1)), .int .i64 (wrap64 (a3))] rfl (by (try simp only [List.map_toArray, List.map_cons, List.map_nil]); first | done | rfl | (simp only [List.length_drop, List.length_take]; rfl)) ?_; (with_reducible refine (count_Work.calls k (wrap64 (a0)) (wrap64 (a1)) (wrap64 ((wrap64 (a2)) + 1)) (wrap64 (a3)) t137 _ A8.out).mono ?_); rintro e w24 ⟨rfl, hb⟩; refine ⟨_, rfl, ?_⟩; have n0_ := Aside0.mk (below_step (by repeat (first | (with_reducible first | exact HB.out | apply below_alloc | apply pw_below_drewN | apply below_drew1) | exact HB.out)) hb); clear HB; have HB := n0_; clear n0_; (try clear hb); (try clear hb2); (try clear hk); (try clear hi)) | (go_at_call 27; (with_reducible refine (count_Work.calls k (wrap64 ((wrap64 (a0)) + (wrap64 (a4)))) (wrap64 (a1)) (wrap64 ((wrap64 (a2)) + 1)) (wrap64 (a3)) t138 _ A10.out).mono ?_); rintro e w25 ⟨rfl, hb⟩; have n0_ := Aside0.mk (below_step (by repeat (first | (with_reducible first | exact HB.out | apply below_alloc | apply pw_below_drewN | apply below_drew1) | exact HB.out)) hb); clear HB; have HB := n0_; clear n0_; (try clear hb); (try clear hb2); (try clear hk); (try clear hi)) | (go_at_call 27; (with_reducible refine (count_Work.calls k (wrap64 (a0)) (wrap64 ((wrap64 (a1)) + (wrap64 (a4)))) (wrap64 ((wrap64 (a2)) + 1)) (wrap64 (a3)) t139 _ A12.out).mono ?_); rintro e w26 ⟨rfl, hb⟩; have n0_ := Aside0.mk (below_step (by repeat (first | (with_reducible first | exact HB.out | apply below_alloc | apply pw_below_drewN | apply below_drew1) | exact HB.out)) hb); clear HB; have HB := n0_; clear n0_; (try clear hb); (try clear hb2); (try clear hk); (try clear hi)) | (go_at_call 27; (with_reducible refine (count_Work.calls k (wrap64 (a0)) (wrap64 (a1)) (wrap64 ((wrap64 ((wrap64 (a2)) + 1)) + (wrap64 (a4)))) (wrap64 (a3)) t140 _ A14.out).mono ?_); rintro e w27 ⟨rfl, hb⟩; have n0_ := Aside0.mk (below_step (by repeat (first | (with_reducible first | exact HB.out | apply below_alloc | apply pw_below_drewN | apply below_drew1) | exact HB.out)) hb); clear HB; have HB := n0_; clear n0_; (try clear hb); (try clear hb2); (try clear hk); (try clear hi)))
            go_ret
            exact ⟨by first | rfl | (simp [errW_none, errW_some] <;> rfl) | (simp [*, errW_none, errW_some] <;> rfl), by repeat (first | (with_reducible first | exact HB.out | apply below_alloc | apply pw_below_drewN | apply below_drew1) | exact HB.out)⟩
        · rw [if_neg c13] at H
          have c13b0 : decide (t137 ≤ t139) = false := decide_eq_false c13
          clear c13
          obtain rfl := Option.some.inj H
          go_enter Try.func11, Try.ntmps11
          go_wp2_with (first | ((with_reducible refine gate_callee (f := 25) rfl ?_); refine goesL_ (some 17) rfl rfl Try.func25 (by kernel_rfl) rfl #[] rfl (by (try simp only [List.map_toArray, List.map_cons, List.map_nil]); first | done | rfl | (simp only [List.length_drop, List.length_take]; rfl)) ?_; (with_reducible refine (swingbridgelaw12_known.calls k  true _ A6.out).mono ?_); rintro e w28 ⟨rfl, hb⟩; refine ⟨_, rfl, ?_⟩; have n0_ := Aside0.mk (below_step (by repeat (first | (with_reducible first | exact HB.out | apply below_alloc | apply pw_below_drewN | apply below_drew1) | exact HB.out)) hb); clear HB; have HB := n0_; clear n0_; (try clear hb); (try clear hb2); (try clear hk); (try clear hi)) | ((with_reducible refine gate_callee (f := 27) rfl ?_); refine goesL_ (some 34) rfl rfl Try.func27 (by kernel_rfl) rfl #[.int .i64 (wrap64 (a0)), .int .i64 (wrap64 (a1)), .int .i64 (wrap64 ((wrap64 (a2)) + 1)), .int .i64 (wrap64 (a3))] rfl (by (try simp only [List.map_toArray, List.map_cons, List.map_nil]); first | done | rfl | (simp only [List.length_drop, List.length_take]; rfl)) ?_; (with_reducible refine (count_Work.calls k (wrap64 (a0)) (wrap64 (a1)) (wrap64 ((wrap64 (a2)) + 1)) (wrap64 (a3)) t137 _ A8.out).mono ?_); rintro e w29 ⟨rfl, hb⟩; refine ⟨_, rfl, ?_⟩; have n0_ := Aside0.mk (below_step (by repeat (first | (with_reducible first | exact HB.out | apply below_alloc | apply pw_below_drewN | apply below_drew1) | exact HB.out)) hb); clear HB; have HB := n0_; clear n0_; (try clear hb); (try clear hb2); (try clear hk); (try clear hi)) | (go_at_call 27; (with_reducible refine (count_Work.calls k (wrap64 ((wrap64 (a0)) + (wrap64 (a4)))) (wrap64 (a1)) (wrap64 ((wrap64 (a2)) + 1)) (wrap64 (a3)) t138 _ A10.out).mono ?_); rintro e w30 ⟨rfl, hb⟩; have n0_ := Aside0.mk (below_step (by repeat (first | (with_reducible first | exact HB.out | apply below_alloc | apply pw_below_drewN | apply below_drew1) | exact HB.out)) hb); clear HB; have HB := n0_; clear n0_; (try clear hb); (try clear hb2); (try clear hk); (try clear hi)) | (go_at_call 27; (with_reducible refine (count_Work.calls k (wrap64 (a0)) (wrap64 ((wrap64 (a1)) + (wrap64 (a4)))) (wrap64 ((wrap64 (a2)) + 1)) (wrap64 (a3)) t139 _ A12.out).mono ?_); rintro e w31 ⟨rfl, hb⟩; have n0_ := Aside0.mk (below_step (by repeat (first | (with_reducible first | exact HB.out | apply below_alloc | apply pw_below_drewN | apply below_drew1) | exact HB.out)) hb); clear HB; have HB := n0_; clear n0_; (try clear hb); (try clear hb2); (try clear hk); (try clear hi)))
          go_ret
          exact ⟨by first | rfl | (simp [errW_none, errW_some] <;> rfl) | (simp [*, errW_none, errW_some] <;> rfl), by repeat (first | (with_reducible first | exact HB.out | apply below_alloc | apply pw_below_drewN | apply below_drew1) | exact HB.out)⟩
      · rw [if_neg c11] at H
        have c11b0 : decide (t137 ≤ t138) = false := decide_eq_false c11
        clear c11
        obtain rfl := Option.some.inj H
        go_enter Try.func11, Try.ntmps11
        go_wp2_with (first | ((with_reducible refine gate_callee (f := 25) rfl ?_); refine goesL_ (some 17) rfl rfl Try.func25 (by kernel_rfl) rfl #[] rfl (by (try simp only [List.map_toArray, List.map_cons, List.map_nil]); first | done | rfl | (simp only [List.length_drop, List.length_take]; rfl)) ?_; (with_reducible refine (swingbridgelaw12_known.calls k  true _ A6.out).mono ?_); rintro e w32 ⟨rfl, hb⟩; refine ⟨_, rfl, ?_⟩; have n0_ := Aside0.mk (below_step (by repeat (first | (with_reducible first | exact HB.out | apply below_alloc | apply pw_below_drewN | apply below_drew1) | exact HB.out)) hb); clear HB; have HB := n0_; clear n0_; (try clear hb); (try clear hb2); (try clear hk); (try clear hi)) | ((with_reducible refine gate_callee (f := 27) rfl ?_); refine goesL_ (some 34) rfl rfl Try.func27 (by kernel_rfl) rfl #[.int .i64 (wrap64 (a0)), .int .i64 (wrap64 (a1)), .int .i64 (wrap64 ((wrap64 (a2)) + 1)), .int .i64 (wrap64 (a3))] rfl (by (try simp only [List.map_toArray, List.map_cons, List.map_nil]); first | done | rfl | (simp only [List.length_drop, List.length_take]; rfl)) ?_; (with_reducible refine (count_Work.calls k (wrap64 (a0)) (wrap64 (a1)) (wrap64 ((wrap64 (a2)) + 1)) (wrap64 (a3)) t137 _ A8.out).mono ?_); rintro e w33 ⟨rfl, hb⟩; refine ⟨_, rfl, ?_⟩; have n0_ := Aside0.mk (below_step (by repeat (first | (with_reducible first | exact HB.out | apply below_alloc | apply pw_below_drewN | apply below_drew1) | exact HB.out)) hb); clear HB; have HB := n0_; clear n0_; (try clear hb); (try clear hb2); (try clear hk); (try clear hi)) | (go_at_call 27; (with_reducible refine (count_Work.calls k (wrap64 ((wrap64 (a0)) + (wrap64 (a4)))) (wrap64 (a1)) (wrap64 ((wrap64 (a2)) + 1)) (wrap64 (a3)) t138 _ A10.out).mono ?_); rintro e w34 ⟨rfl, hb⟩; have n0_ := Aside0.mk (below_step (by repeat (first | (with_reducible first | exact HB.out | apply below_alloc | apply pw_below_drewN | apply below_drew1) | exact HB.out)) hb); clear HB; have HB := n0_; clear n0_; (try clear hb); (try clear hb2); (try clear hk); (try clear hi)))
        go_ret
        exact ⟨by first | rfl | (simp [errW_none, errW_some] <;> rfl) | (simp [*, errW_none, errW_some] <;> rfl), by repeat (first | (with_reducible first | exact HB.out | apply below_alloc | apply pw_below_drewN | apply below_drew1) | exact HB.out)⟩
    · rw [if_neg c9] at H
      have c9b0 : decide (0 ≤ t137) = false := decide_eq_false c9
      clear c9
      obtain rfl := Option.some.inj H
      go_enter Try.func11, Try.ntmps11
      go_wp2_with (first | ((with_reducible refine gate_callee (f := 25) rfl ?_); refine goesL_ (some 17) rfl rfl Try.func25 (by kernel_rfl) rfl #[] rfl (by (try simp only [List.map_toArray, List.map_cons, List.map_nil]); first | done | rfl | (simp only [List.length_drop, List.length_take]; rfl)) ?_; (with_reducible refine (swingbridgelaw12_known.calls k  true _ A6.out).mono ?_); rintro e w35 ⟨rfl, hb⟩; refine ⟨_, rfl, ?_⟩; have n0_ := Aside0.mk (below_step (by repeat (first | (with_reducible first | exact HB.out | apply below_alloc | apply pw_below_drewN | apply below_drew1) | exact HB.out)) hb); clear HB; have HB := n0_; clear n0_; (try clear hb); (try clear hb2); (try clear hk); (try clear hi)) | ((with_reducible refine gate_callee (f := 27) rfl ?_); refine goesL_ (some 34) rfl rfl Try.func27 (by kernel_rfl) rfl #[.int .i64 (wrap64 (a0)), .int .i64 (wrap64 (a1)), .int .i64 (wrap64 ((wrap64 (a2)) + 1)), .int .i64 (wrap64 (a3))] rfl (by (try simp only [List.map_toArray, List.map_cons, List.map_nil]); first | done | rfl | (simp only [List.length_drop, List.length_take]; rfl)) ?_; (with_reducible refine (count_Work.calls k (wrap64 (a0)) (wrap64 (a1)) (wrap64 ((wrap64 (a2)) + 1)) (wrap64 (a3)) t137 _ A8.out).mono ?_); rintro e w36 ⟨rfl, hb⟩; refine ⟨_, rfl, ?_⟩; have n0_ := Aside0.mk (below_step (by repeat (first | (with_reducible first | exact HB.out | apply below_alloc | apply pw_below_drewN | apply below_drew1) | exact HB.out)) hb); clear HB; have HB := n0_; clear n0_; (try clear hb); (try clear hb2); (try clear hk); (try clear hi)))
      go_ret
      exact ⟨by first | rfl | (simp [errW_none, errW_some] <;> rfl) | (simp [*, errW_none, errW_some] <;> rfl), by repeat (first | (with_reducible first | exact HB.out | apply below_alloc | apply pw_below_drewN | apply below_drew1) | exact HB.out)⟩
  · replace c7 := Bool.eq_false_iff.mpr c7
    subst c7
    have H1 : (some false) = some r := by rw [if_neg (show ¬ (false = true) by decide)] at H; exact H
    clear H
    have H := H1
    clear H1
    obtain rfl := Option.some.inj H
    go_enter Try.func11, Try.ntmps11
    go_wp2_with (first | ((with_reducible refine gate_callee (f := 25) rfl ?_); refine goesL_ (some 17) rfl rfl Try.func25 (by kernel_rfl) rfl #[] rfl (by (try simp only [List.map_toArray, List.map_cons, List.map_nil]); first | done | rfl | (simp only [List.length_drop, List.length_take]; rfl)) ?_; (with_reducible refine (swingbridgelaw12_known.calls k  false _ A6.out).mono ?_); rintro e w37 ⟨rfl, hb⟩; refine ⟨_, rfl, ?_⟩; have n0_ := Aside0.mk (below_step (by repeat (first | (with_reducible first | exact HB.out | apply below_alloc | apply pw_below_drewN | apply below_drew1) | exact HB.out)) hb); clear HB; have HB := n0_; clear n0_; (try clear hb); (try clear hb2); (try clear hk); (try clear hi)))
    go_ret
    exact ⟨by first | rfl | (simp [errW_none, errW_some] <;> rfl) | (simp [*, errW_none, errW_some] <;> rfl), by repeat (first | (with_reducible first | exact HB.out | apply below_alloc | apply pw_below_drewN | apply below_drew1) | exact HB.out)⟩

/-- THE ONE PURE STATEMENT of swingbridgelaw12_CountRises: yours. -/
def swingbridgelaw12_CountRises.Pure : Prop := ∀ (a0 : Int) (a1 : Int) (a2 : Int) (a3 : Int) (a4 : Int), (Lit.int .u16 a0).wf = true → (Lit.int .u16 a1).wf = true → (Lit.int .u16 a2).wf = true → (Lit.int .u16 a3).wf = true → (Lit.int .u16 a4).wf = true → ∃ k, swingbridgelaw12_CountRises.f k a0 a1 a2 a3 a4 = some true
theorem swingbridgelaw12_CountRises.walk (P : swingbridgelaw12_CountRises.Pure) (a0 : Int) (a1 : Int) (a2 : Int) (a3 : Int) (a4 : Int) (w : World) (w0 : (Lit.int .u16 a0).wf = true) (w1 : (Lit.int .u16 a1).wf = true) (w2 : (Lit.int .u16 a2).wf = true) (w3 : (Lit.int .u16 a3).wf = true) (w4 : (Lit.int .u16 a4).wf = true) :
    Calls Try.prog 11 #[.int .u16 a0, .int .u16 a1, .int .u16 a2, .int .u16 a3, .int .u16 a4] w fun e w' => e = .returned (.bool true) ∧ Below w.heap.size w w' := by
  obtain ⟨k, h⟩ := P a0 a1 a2 a3 a4 w0 w1 w2 w3 w4
  refine (swingbridgelaw12_CountRises.calls k a0 a1 a2 a3 a4 true w h).mono ?_
  rintro e w' ⟨rfl, hd⟩
  exact ⟨rfl, hd⟩

end Go.Proofs.Ytapjngmlocgdoaa.PCountRises
