-- made by a program of this session's own out of the translation; Lean checks it
import Derived.Test.YtkohggddaheefaaPDemandLocksx0
import Derived.Test.YtkohggddaheefaaPDemandLocksx1
namespace Go.Proofs.Ytkohggddaheefaa.PDemandLocks
open Go.RowKit Go.Proofs.YtkohggddaheefaaW.PrintWords Go.Proofs.YtkohggddaheefaaW.PrintLast Go.Proofs.YtkohggddaheefaaW.PrintMore
attribute [local go_sem] max2_int min2_int max_two min_two max_three min_three max_four min_four   -- for this text's walks alone
set_option linter.unusedVariables false
set_option linter.unusedSimpArgs false

/-! ### task_parted: function 77 -/
mutual
def task_parted.l0 : Nat → List (S39) → List (S39) → Int → Int → Int → List Int → List Int → List (S37) → Option (Bool)
  | 0, _, _, _, _, _, _, _, _ => none
  | k + 1, x1, x7, x8, x9, x103000, x103001, x103002, x103003 => if x9 < x8 then (if 0 ≤ x9 then (if x9 < (x7.length : Int) then ((task_between.f ((rd_T39 x7 x9).f0) 1 3).bind fun t106 => (if t106 = true then ((task_between.f ((rd_T39 x7 x9).f1) 1 60).bind fun t107 => (if t107 = true then (task_parted.j1 k x1 x7 x8 x9 false x103000 x103001 x103002 x103003 ((rd_T39 x7 x9).f0) ((rd_T39 x7 x9).f1) ((rd_T39 x7 x9).f2)) else (task_parted.j1 k x1 x7 x8 x9 true x103000 x103001 x103002 x103003 ((rd_T39 x7 x9).f0) ((rd_T39 x7 x9).f1) ((rd_T39 x7 x9).f2)))) else (task_parted.j1 k x1 x7 x8 x9 true x103000 x103001 x103002 x103003 ((rd_T39 x7 x9).f0) ((rd_T39 x7 x9).f1) ((rd_T39 x7 x9).f2)))) else (none)) else (none)) else ((task_between.f (x1.length : Int) 1 6).bind fun t103 => (some t103))
def task_parted.j1 : Nat → List (S39) → List (S39) → Int → Int → Bool → Int → List Int → List Int → List (S37) → Int → Int → Int → Option (Bool)
  | 0, _, _, _, _, _, _, _, _, _, _, _, _ => none
  | k + 1, x1, x7, x8, x9, x13, x103000, x103001, x103002, x103003, x106000, x106001, x106002 => if x13 = true then (some false) else (if x106000 = 3 then ((task_between.f x106002 0 (wrap64 ((x103002.length : Int) - 1))).bind fun t108 => (task_parted.j2 k x1 x7 x8 x9 t108 x103000 x103001 x103002 x103003 x106000 x106001 x106002)) else (task_parted.j2 k x1 x7 x8 x9 false x103000 x103001 x103002 x103003 x106000 x106001 x106002))
def task_parted.j2 : Nat → List (S39) → List (S39) → Int → Int → Bool → Int → List Int → List Int → List (S37) → Int → Int → Int → Option (Bool)
  | 0, _, _, _, _, _, _, _, _, _, _, _, _ => none
  | k + 1, x1, x7, x8, x9, x24, x103000, x103001, x103002, x103003, x106000, x106001, x106002 => if x24 = true then (task_parted.l0 k x1 x7 x8 (wrap64 (x9 + 1)) x103000 x103001 x103002 x103003) else (if x106000 = 3 then (some false) else (if x106002 = 0 then (task_parted.l0 k x1 x7 x8 (wrap64 (x9 + 1)) x103000 x103001 x103002 x103003) else (some false)))
end
def task_parted.f (k : Nat) (a0_0 : Int) (l0_1 : List Int) (l0_2 : List Int) (l0_3 : List (S37)) (l1 : List (S39)) : Option (Bool) := task_parted.l0 k l1 l1 (l1.length : Int) 0 a0_0 l0_1 l0_2 l0_3
theorem task_parted.mono_l : ∀ k, (∀ y0 y1 y2 y3 y4 y5 y6 y7, LeO (task_parted.l0 k y0 y1 y2 y3 y4 y5 y6 y7) (task_parted.l0 (k + 1) y0 y1 y2 y3 y4 y5 y6 y7)) ∧ (∀ y0 y1 y2 y3 y4 y5 y6 y7 y8 y9 y10 y11, LeO (task_parted.j1 k y0 y1 y2 y3 y4 y5 y6 y7 y8 y9 y10 y11) (task_parted.j1 (k + 1) y0 y1 y2 y3 y4 y5 y6 y7 y8 y9 y10 y11)) ∧ (∀ y0 y1 y2 y3 y4 y5 y6 y7 y8 y9 y10 y11, LeO (task_parted.j2 k y0 y1 y2 y3 y4 y5 y6 y7 y8 y9 y10 y11) (task_parted.j2 (k + 1) y0 y1 y2 y3 y4 y5 y6 y7 y8 y9 y10 y11))
  | 0 => ⟨fun _ _ _ _ _ _ _ _ r h => by simp [task_parted.l0] at h, fun _ _ _ _ _ _ _ _ _ _ _ _ r h => by simp [task_parted.j1] at h, fun _ _ _ _ _ _ _ _ _ _ _ _ r h => by simp [task_parted.j2] at h⟩
  | k + 1 => by
    obtain ⟨ih0, ih1, ih2⟩ := task_parted.mono_l k
    refine ⟨?_, ?_, ?_⟩
    · intro y0 y1 y2 y3 y4 y5 y6 y7
      unfold task_parted.l0
      repeat' first
      | (with_reducible exact ih0 _ _ _ _ _ _ _ _)
      | (with_reducible exact ih1 _ _ _ _ _ _ _ _ _ _ _ _)
      | (with_reducible exact ih2 _ _ _ _ _ _ _ _ _ _ _ _)
      | (with_reducible exact LeO.refl _)
      | (with_reducible exact LeO.none _)
      | (with_reducible refine LeO.ite ?_ ?_)
      | (with_reducible refine LeO.bind ?_ (fun _ => ?_))
      | exact ih0 _ _ _ _ _ _ _ _
      | exact ih1 _ _ _ _ _ _ _ _ _ _ _ _
      | exact ih2 _ _ _ _ _ _ _ _ _ _ _ _
      | exact LeO.none _
      | refine LeO.ite ?_ ?_
      | refine LeO.bind ?_ (fun _ => ?_)
    · intro y0 y1 y2 y3 y4 y5 y6 y7 y8 y9 y10 y11
      unfold task_parted.j1
      repeat' first
      | (with_reducible exact ih0 _ _ _ _ _ _ _ _)
      | (with_reducible exact ih1 _ _ _ _ _ _ _ _ _ _ _ _)
      | (with_reducible exact ih2 _ _ _ _ _ _ _ _ _ _ _ _)
      | (with_reducible exact LeO.refl _)
      | (with_reducible exact LeO.none _)
      | (with_reducible refine LeO.ite ?_ ?_)
      | (with_reducible refine LeO.bind ?_ (fun _ => ?_))
      | exact ih0 _ _ _ _ _ _ _ _
      | exact ih1 _ _ _ _ _ _ _ _ _ _ _ _
      | exact ih2 _ _ _ _ _ _ _ _ _ _ _ _
      | exact LeO.none _
      | refine LeO.ite ?_ ?_
      | refine LeO.bind ?_ (fun _ => ?_)
    · intro y0 y1 y2 y3 y4 y5 y6 y7 y8 y9 y10 y11
      unfold task_parted.j2
      repeat' first
      | (with_reducible exact ih0 _ _ _ _ _ _ _ _)
      | (with_reducible exact ih1 _ _ _ _ _ _ _ _ _ _ _ _)
      | (with_reducible exact ih2 _ _ _ _ _ _ _ _ _ _ _ _)
      | (with_reducible exact LeO.refl _)
      | (with_reducible exact LeO.none _)
      | (with_reducible refine LeO.ite ?_ ?_)
      | (with_reducible refine LeO.bind ?_ (fun _ => ?_))
      | exact ih0 _ _ _ _ _ _ _ _
      | exact ih1 _ _ _ _ _ _ _ _ _ _ _ _
      | exact ih2 _ _ _ _ _ _ _ _ _ _ _ _
      | exact LeO.none _
      | refine LeO.ite ?_ ?_
      | refine LeO.bind ?_ (fun _ => ?_)
theorem task_parted.mono : ∀ a0 a1 a2 a3 a4 k, LeO (task_parted.f k a0 a1 a2 a3 a4) (task_parted.f (k + 1) a0 a1 a2 a3 a4) := by
  intro a0 a1 a2 a3 a4 k
  obtain ⟨ih0, ih1, ih2⟩ := task_parted.mono_l k
  unfold task_parted.f
  repeat' first
      | (with_reducible exact ih0 _ _ _ _ _ _ _ _)
      | (with_reducible exact ih1 _ _ _ _ _ _ _ _ _ _ _ _)
      | (with_reducible exact ih2 _ _ _ _ _ _ _ _ _ _ _ _)
      | (with_reducible exact LeO.refl _)
      | (with_reducible exact LeO.none _)
      | (with_reducible refine LeO.ite ?_ ?_)
      | (with_reducible refine LeO.bind ?_ (fun _ => ?_))
      | exact ih0 _ _ _ _ _ _ _ _
      | exact ih1 _ _ _ _ _ _ _ _ _ _ _ _
      | exact ih2 _ _ _ _ _ _ _ _ _ _ _ _
      | exact LeO.none _
      | refine LeO.ite ?_ ?_
      | refine LeO.bind ?_ (fun _ => ?_)
set_option maxHeartbeats 8000000 in
set_option maxRecDepth 100000 in
theorem task_parted.calls (k : Nat) (a0_0 : Int) (A0_1 : Option Addr) (c0_1 : Nat) (l0_1 : List Int) (A0_2 : Option Addr) (c0_2 : Nat) (l0_2 : List Int) (A0_3 : Option Addr) (c0_3 : Nat) (l0_3 : List (S37)) (A1 : Option Addr) (c1 : Nat) (l1 : List (S39)) (r : Bool) (w : World) (hr0_1 : Kd.C (Kd.int .i64) w A0_1 l0_1.length l0_1) (hc0_1 : l0_1.length ≤ c0_1) (hr0_2 : Kd.C (Kd.int .i64) w A0_2 l0_2.length l0_2) (hc0_2 : l0_2.length ≤ c0_2) (hr0_3 : Kd.C k37 w A0_3 l0_3.length l0_3) (hc0_3 : l0_3.length ≤ c0_3) (hr1 : Kd.C k39 w A1 l1.length l1) (hc1 : l1.length ≤ c1) (h : task_parted.f k a0_0 l0_1 l0_2 l0_3 l1 = some r) :
    Calls Try.prog 77 #[.agg #[.int .i64 a0_0, .slice A0_1 l0_1.length c0_1, .slice A0_2 l0_2.length c0_2, .slice A0_3 l0_3.length c0_3], .slice A1 l1.length c1] w fun e w' => e = .returned (.bool r) ∧ Below w.heap.size w w' := by
  have hu25 := Try.underlying25
  have hu39 := Try.underlying39
  have HR0_1 := Aside0.mk hr0_1
  have HC0_1 := Aside0.mk hc0_1
  clear hr0_1 hc0_1
  have HR0_2 := Aside0.mk hr0_2
  have HC0_2 := Aside0.mk hc0_2
  clear hr0_2 hc0_2
  have HR0_3 := Aside0.mk hr0_3
  have HC0_3 := Aside0.mk hc0_3
  clear hr0_3 hc0_3
  have HR1 := Aside0.mk hr1
  have HC1 := Aside0.mk hc1
  clear hr1 hc1
  have HB := Aside0.mk (Below.refl w.heap.size w)
  have H : (task_parted.l0 k l1 l1 (l1.length : Int) 0 a0_0 l0_1 l0_2 l0_3) = some r := h
  clear h
  have H' := Aside0.mk H
  clear H
  go_enter Try.func77, Try.ntmps77
  go_wp2_with (first | go_step3 | ((with_reducible refine gate_dst (N := 2) rfl ?_); (try (refine gate_guard (by rfl) ?_; dsimp only)); refine box_event ?hg (N := 2) ?hd (cs := #[.int .i64 a0_0, .slice A0_1 l0_1.length c0_1, .slice A0_2 l0_2.length c0_2, .slice A0_3 l0_3.length c0_3]) (t := 25) ?hr ?_; (case hd => rfl); (case hg => rfl); (case hr => first | (go_simp; done) | (go_simp; rfl)); intro gb102 hg w3 hbox hb; have n0_ := Aside0.mk (below_step (by repeat (first | (with_reducible first | exact HB.out | apply below_alloc | apply pw_below_drewN | apply below_drew1) | exact HB.out)) hb); have n1_ := Aside0.mk (hbox); have n2_ := Aside0.mk ((by rw [hg]; exact (below_size (by repeat (first | (with_reducible first | exact HB.out | apply below_alloc | apply pw_below_drewN | apply below_drew1) | exact HB.out))) : w.heap.size ≤ gb102)); have n3_ := Aside0.mk ((by rw [hg]; exact (below_size (by repeat (first | (with_reducible first | exact HB.out | apply below_alloc | apply pw_below_drewN | apply below_drew1) | exact HB.out))) : w.heap.size ≤ gb102)); clear HB; have HB := n0_; have BK102 := n1_; have GW102 := n2_; have GE102 := n3_; clear n0_ n1_ n2_ n3_; clear hb hbox hg))
  go_loopg [9] k (fun kq v9 w' => ∃ (x9_1 : Int), v9 = .int .i64 x9_1 ∧ Aside0 (task_parted.l0 kq l1 l1 (l1.length : Int) x9_1 a0_0 l0_1 l0_2 l0_3 = some r) ∧ Aside0 (kq ≤ k) ∧ Aside0 (w'.heap[gb102]? = some (.cells #[.int .i64 a0_0, (.slice A0_1 l0_1.length c0_1), (.slice A0_2 l0_2.length c0_2), (.slice A0_3 l0_3.length c0_3)] 25 (0, 0))) ∧ Aside0 (Below w.heap.size w w'))
  case atStart => exact ⟨(0), (by first | rfl | (simp; done) | (simp [*]; done)), H', ⟨Nat.le_refl _⟩, ⟨by (with_reducible repeat (first | refine blk_drewN ?_ _ | refine blk_drew ?_ | refine blk_alloc ?_ _)); exact BK102.out⟩, ⟨by repeat (first | (with_reducible first | exact HB.out | apply below_alloc | apply pw_below_drewN | apply below_drew1 | refine below_set ?_ GE102.out) | exact HB.out)⟩⟩
  case round =>
    clear H'
    try clear c1
    try clear p2
    obtain ⟨x9_1, rfl, HA, HK1, BK102, HB⟩ := hrel
    cases gk with
    | zero => exact absurd HA.out (by simp [task_parted.l0])
    | succ k1 =>
      have H := HA.out
      clear HA
      simp only [task_parted.l0] at H
      by_cases c4 : x9_1 < (l1.length : Int)
      · rw [if_pos c4] at H
        have c4b0 : decide (x9_1 < (l1.length : Int)) = true := decide_eq_true c4
        clear c4
        by_cases c5 : 0 ≤ x9_1
        · rw [if_pos c5] at H
          have c5b0 : decide (0 ≤ x9_1) = true := decide_eq_true c5
          clear c5
          by_cases c6 : x9_1 < (l1.length : Int)
          · rw [if_pos c6] at H
            have c6b0 : decide (x9_1 < (l1.length : Int)) = true := decide_eq_true c6
            clear c6
            have HC7 := Aside0.mk H
            clear H
            have p104 : 0 ≤ (x9_1 : Int) := of_decide_eq_true (by first | (with_reducible assumption) | assumption)
            have q104 : x9_1 < (l1.length : Int) := of_decide_eq_true (by first | (with_reducible assumption) | assumption)
            obtain ⟨ad104, e104, hx104_0, hx104_1, hx104_2⟩ := at_T39 HR1.out x9_1 p104 q104
            cases e104
            replace hx104_0 := (HB.out.cell (World.block_lt_of_cell? w _ hx104_0)).trans hx104_0
            replace hx104_1 := (HB.out.cell (World.block_lt_of_cell? w _ hx104_1)).trans hx104_1
            replace hx104_2 := (HB.out.cell (World.block_lt_of_cell? w _ hx104_2)).trans hx104_2
            replace p104 := eq_true p104
            replace q104 := eq_true q104
            go_upto_region 4 with (first | go_step3 | ((with_reducible refine gate_dst (N := 6) rfl ?_); (try (refine gate_guard (by rfl) ?_; dsimp only)); refine box_event ?hg (N := 6) ?hd (cs := #[.int .i64 0, .int .i64 0, .int .i64 0]) (t := 39) ?hr ?_; (case hd => rfl); (case hg => rfl); (case hr => first | (go_simp; done) | (go_simp; rfl)); intro gb105 hg w8 hbox hb; have n0_ := Aside0.mk (blk_below (g := gb102) (o := .cells #[.int .i64 a0_0, .slice A0_1 l0_1.length c0_1, .slice A0_2 l0_2.length c0_2, .slice A0_3 l0_3.length c0_3] 25 (0, 0)) (by (with_reducible repeat (first | refine blk_drewN ?_ _ | refine blk_drew ?_ | refine blk_alloc ?_ _)); exact BK102.out) hb); have n1_ := Aside0.mk (below_step (by repeat (first | (with_reducible first | exact HB.out | apply below_alloc | apply pw_below_drewN | apply below_drew1 | refine below_set ?_ GE102.out) | exact HB.out)) hb); have n2_ := Aside0.mk (hbox); have n3_ := Aside0.mk ((by rw [hg]; exact (below_size (by repeat (first | (with_reducible first | exact HB.out | apply below_alloc | apply pw_below_drewN | apply below_drew1 | refine below_set ?_ GE102.out) | exact HB.out))) : w.heap.size ≤ gb105)); have n4_ := Aside0.mk ((by rw [hg]; exact (below_size (by repeat (first | (with_reducible first | exact HB.out | apply below_alloc | apply pw_below_drewN | apply below_drew1 | refine below_set ?_ GE102.out) | exact HB.out))) : w.heap.size ≤ gb105)); have n5_ := Aside0.mk ((by rw [hg]; exact Nat.ne_of_lt (blk_lt (g := gb102) (o := .cells #[.int .i64 a0_0, .slice A0_1 l0_1.length c0_1, .slice A0_2 l0_2.length c0_2, .slice A0_3 l0_3.length c0_3] 25 (0, 0)) (by (with_reducible repeat (first | refine blk_drewN ?_ _ | refine blk_drew ?_ | refine blk_alloc ?_ _)); exact BK102.out)) : gb102 ≠ gb105)); have n6_ := Aside0.mk ((by rw [hg]; exact Nat.ne_of_gt (blk_lt (g := gb102) (o := .cells #[.int .i64 a0_0, .slice A0_1 l0_1.length c0_1, .slice A0_2 l0_2.length c0_2, .slice A0_3 l0_3.length c0_3] 25 (0, 0)) (by (with_reducible repeat (first | refine blk_drewN ?_ _ | refine blk_drew ?_ | refine blk_alloc ?_ _)); exact BK102.out)) : gb105 ≠ gb102)); clear BK102; clear HB; have BK102 := n0_; have HB := n1_; have BK105 := n2_; have GW105 := n3_; have GE105 := n4_; have NB102_105 := n5_; have NB105_102 := n6_; clear n0_ n1_ n2_ n3_ n4_ n5_ n6_; clear hb hbox hg; have hnb9 := NB105_102.out; have hnc9 := NB102_105.out; have hcz10_0 : w8.cell? ⟨gb105, 0, none⟩ = some (.int .i64 0) := (blk_cell BK105.out 0).trans rfl; have hcz10_1 : w8.cell? ⟨gb105, 1, none⟩ = some (.int .i64 0) := (blk_cell BK105.out 1).trans rfl; have hcz10_2 : w8.cell? ⟨gb105, 2, none⟩ = some (.int .i64 0) := (blk_cell BK105.out 2).trans rfl; have hfz10_0 := blk_frozen BK105.out 0; have hfz10_1 := blk_frozen BK105.out 1; have hfz10_2 := blk_frozen BK105.out 2))
            (try simp only [Act.put, List.setIfInBounds_toArray, List.set_cons_zero, List.set_cons_succ])
            go_cut [13] (fun v13 wc => ∃ (kq : Nat) (x13_6 : Bool), v13 = .bool x13_6 ∧ Aside0 (task_parted.j1 kq l1 l1 (l1.length : Int) x9_1 x13_6 a0_0 l0_1 l0_2 l0_3 ((rd_T39 l1 x9_1).f0) ((rd_T39 l1 x9_1).f1) ((rd_T39 l1 x9_1).f2) = some r) ∧ Aside0 (kq ≤ k1) ∧ Aside0 (wc.heap[gb102]? = some (.cells #[.int .i64 a0_0, (.slice A0_1 l0_1.length c0_1), (.slice A0_2 l0_2.length c0_2), (.slice A0_3 l0_3.length c0_3)] 25 (0, 0))) ∧ Aside0 (wc.heap[gb105]? = some (.cells #[.int .i64 ((rd_T39 l1 x9_1).f0), .int .i64 ((rd_T39 l1 x9_1).f1), .int .i64 ((rd_T39 l1 x9_1).f2)] 39 (0, 0))) ∧ Aside0 (Below w.heap.size w wc))
            case first =>
              have H := HC7.out
              clear HC7
              replace H := Option.bind_eq_some_iff.mp H
              obtain ⟨t106, A110, H⟩ := H
              replace H : (if t106 = true then ((task_between.f ((rd_T39 l1 x9_1).f1) 1 60).bind fun t107 => (if t107 = true then (task_parted.j1 k1 l1 l1 (l1.length : Int) x9_1 false a0_0 l0_1 l0_2 l0_3 ((rd_T39 l1 x9_1).f0) ((rd_T39 l1 x9_1).f1) ((rd_T39 l1 x9_1).f2)) else (task_parted.j1 k1 l1 l1 (l1.length : Int) x9_1 true a0_0 l0_1 l0_2 l0_3 ((rd_T39 l1 x9_1).f0) ((rd_T39 l1 x9_1).f1) ((rd_T39 l1 x9_1).f2)))) else (task_parted.j1 k1 l1 l1 (l1.length : Int) x9_1 true a0_0 l0_1 l0_2 l0_3 ((rd_T39 l1 x9_1).f0) ((rd_T39 l1 x9_1).f1) ((rd_T39 l1 x9_1).f2))) = some r := H
              have A11 := Aside0.mk A110
              clear A110
              by_cases c12 : t106 = true
              · subst c12
                have H1 : ((task_between.f ((rd_T39 l1 x9_1).f1) 1 60).bind fun t107 => (if t107 = true then (task_parted.j1 k1 l1 l1 (l1.length : Int) x9_1 false a0_0 l0_1 l0_2 l0_3 ((rd_T39 l1 x9_1).f0) ((rd_T39 l1 x9_1).f1) ((rd_T39 l1 x9_1).f2)) else (task_parted.j1 k1 l1 l1 (l1.length : Int) x9_1 true a0_0 l0_1 l0_2 l0_3 ((rd_T39 l1 x9_1).f0) ((rd_T39 l1 x9_1).f1) ((rd_T39 l1 x9_1).f2)))) = some r := by rw [if_pos rfl] at H; exact H
                clear H
                have H := H1
                clear H1
                replace H := Option.bind_eq_some_iff.mp H
                obtain ⟨t107, A130, H⟩ := H
                replace H : (if t107 = true then (task_parted.j1 k1 l1 l1 (l1.length : Int) x9_1 false a0_0 l0_1 l0_2 l0_3 ((rd_T39 l1 x9_1).f0) ((rd_T39 l1 x9_1).f1) ((rd_T39 l1 x9_1).f2)) else (task_parted.j1 k1 l1 l1 (l1.length : Int) x9_1 true a0_0 l0_1 l0_2 l0_3 ((rd_T39 l1 x9_1).f0) ((rd_T39 l1 x9_1).f1) ((rd_T39 l1 x9_1).f2))) = some r := H
                have A13 := Aside0.mk A130
                clear A130
                by_cases c14 : t107 = true
                · subst c14
                  have H1 : (task_parted.j1 k1 l1 l1 (l1.length : Int) x9_1 false a0_0 l0_1 l0_2 l0_3 ((rd_T39 l1 x9_1).f0) ((rd_T39 l1 x9_1).f1) ((rd_T39 l1 x9_1).f2)) = some r := by rw [if_pos rfl] at H; exact H
                  clear H
                  have H := H1
                  clear H1
                  have H' := Aside0.mk H
                  clear H
                  have hnb15 := NB105_102.out
                  have hnc15 := NB102_105.out
                  have hcz16_0 : w8.cell? ⟨gb105, 0, none⟩ = some (.int .i64 0) := (blk_cell BK105.out 0).trans rfl
                  have hcz16_1 : w8.cell? ⟨gb105, 1, none⟩ = some (.int .i64 0) := (blk_cell BK105.out 1).trans rfl
                  have hcz16_2 : w8.cell? ⟨gb105, 2, none⟩ = some (.int .i64 0) := (blk_cell BK105.out 2).trans rfl
                  have hfz16_0 := blk_frozen BK105.out 0
                  have hfz16_1 := blk_frozen BK105.out 1
                  have hfz16_2 := blk_frozen BK105.out 2
                  go_wp2_with (first | go_step3 | ((with_reducible refine gate_callee (f := 49) rfl ?_); refine goesL_ (some 16) rfl rfl Try.func49 (by kernel_rfl) rfl #[.int .i64 ((rd_T39 l1 x9_1).f0), .int .i64 1, .int .i64 3] rfl (by (try simp only [List.map_toArray, List.map_cons, List.map_nil]); first | done | rfl | (simp only [List.length_drop, List.length_take]; rfl)) ?_; (with_reducible refine (task_between.calls ((rd_T39 l1 x9_1).f0) 1 3 true _ A11.out).mono ?_); rintro e w' ⟨rfl, ⟨nd, rfl⟩⟩; refine ⟨_, rfl, ?_⟩) | (go_at_call 49; (with_reducible refine (task_between.calls ((rd_T39 l1 x9_1).f1) 1 60 true _ A13.out).mono ?_); rintro e w' ⟨rfl, ⟨nd, rfl⟩⟩))
                  go_meet
                  case rel => exact ⟨_, (false), (by first | rfl | (simp; done) | (simp [*]; done)), H', ⟨by have := HK1.out; first | omega | exact Nat.le_refl _⟩, ⟨by (with_reducible repeat (first | refine blk_drewN ?_ _ | refine blk_drew ?_ | refine blk_alloc ?_ _)); refine blk_far ?_ NB102_105.out _; (with_reducible repeat (first | refine blk_drewN ?_ _ | refine blk_drew ?_ | refine blk_alloc ?_ _)); refine blk_far ?_ NB102_105.out _; (with_reducible repeat (first | refine blk_drewN ?_ _ | refine blk_drew ?_ | refine blk_alloc ?_ _)); refine blk_far ?_ NB102_105.out _; (with_reducible repeat (first | refine blk_drewN ?_ _ | refine blk_drew ?_ | refine blk_alloc ?_ _)); exact BK102.out⟩, ⟨by (with_reducible repeat (first | refine blk_drewN ?_ _ | refine blk_drew ?_ | refine blk_alloc ?_ _)); refine blk_put (cs := #[.int .i64 ((rd_T39 l1 x9_1).f0), .int .i64 ((rd_T39 l1 x9_1).f1), .int .i64 0]) ?_ 2 _ rfl; (with_reducible repeat (first | refine blk_drewN ?_ _ | refine blk_drew ?_ | refine blk_alloc ?_ _)); refine blk_put (cs := #[.int .i64 ((rd_T39 l1 x9_1).f0), .int .i64 0, .int .i64 0]) ?_ 1 _ rfl; (with_reducible repeat (first | refine blk_drewN ?_ _ | refine blk_drew ?_ | refine blk_alloc ?_ _)); refine blk_put (cs := #[.int .i64 0, .int .i64 0, .int .i64 0]) ?_ 0 _ rfl; (with_reducible repeat (first | refine blk_drewN ?_ _ | refine blk_drew ?_ | refine blk_alloc ?_ _)); exact BK105.out⟩, ⟨by repeat (first | (with_reducible first | exact HB.out | apply below_alloc | apply pw_below_drewN | apply below_drew1 | refine below_set ?_ GE102.out | refine below_set ?_ GE105.out) | exact HB.out)⟩⟩
                · replace c14 := Bool.eq_false_iff.mpr c14
                  subst c14
                  have H1 : (task_parted.j1 k1 l1 l1 (l1.length : Int) x9_1 true a0_0 l0_1 l0_2 l0_3 ((rd_T39 l1 x9_1).f0) ((rd_T39 l1 x9_1).f1) ((rd_T39 l1 x9_1).f2)) = some r := by rw [if_neg (show ¬ (false = true) by decide)] at H; exact H
                  clear H
                  have H := H1
                  clear H1
                  have H' := Aside0.mk H
                  clear H
                  have hnb17 := NB105_102.out
                  have hnc17 := NB102_105.out
                  have hcz18_0 : w8.cell? ⟨gb105, 0, none⟩ = some (.int .i64 0) := (blk_cell BK105.out 0).trans rfl
                  have hcz18_1 : w8.cell? ⟨gb105, 1, none⟩ = some (.int .i64 0) := (blk_cell BK105.out 1).trans rfl
                  have hcz18_2 : w8.cell? ⟨gb105, 2, none⟩ = some (.int .i64 0) := (blk_cell BK105.out 2).trans rfl
                  have hfz18_0 := blk_frozen BK105.out 0
                  have hfz18_1 := blk_frozen BK105.out 1
                  have hfz18_2 := blk_frozen BK105.out 2
                  go_wp2_with (first | go_step3 | ((with_reducible refine gate_callee (f := 49) rfl ?_); refine goesL_ (some 16) rfl rfl Try.func49 (by kernel_rfl) rfl #[.int .i64 ((rd_T39 l1 x9_1).f0), .int .i64 1, .int .i64 3] rfl (by (try simp only [List.map_toArray, List.map_cons, List.map_nil]); first | done | rfl | (simp only [List.length_drop, List.length_take]; rfl)) ?_; (with_reducible refine (task_between.calls ((rd_T39 l1 x9_1).f0) 1 3 true _ A11.out).mono ?_); rintro e w' ⟨rfl, ⟨nd, rfl⟩⟩; refine ⟨_, rfl, ?_⟩) | (go_at_call 49; (with_reducible refine (task_between.calls ((rd_T39 l1 x9_1).f1) 1 60 false _ A13.out).mono ?_); rintro e w' ⟨rfl, ⟨nd, rfl⟩⟩))
                  go_meet
                  case rel => exact ⟨_, (true), (by first | rfl | (simp; done) | (simp [*]; done)), H', ⟨by have := HK1.out; first | omega | exact Nat.le_refl _⟩, ⟨by (with_reducible repeat (first | refine blk_drewN ?_ _ | refine blk_drew ?_ | refine blk_alloc ?_ _)); refine blk_far ?_ NB102_105.out _; (with_reducible repeat (first | refine blk_drewN ?_ _ | refine blk_drew ?_ | refine blk_alloc ?_ _)); refine blk_far ?_ NB102_105.out _; (with_reducible repeat (first | refine blk_drewN ?_ _ | refine blk_drew ?_ | refine blk_alloc ?_ _)); refine blk_far ?_ NB102_105.out _; (with_reducible repeat (first | refine blk_drewN ?_ _ | refine blk_drew ?_ | refine blk_alloc ?_ _)); exact BK102.out⟩, ⟨by (with_reducible repeat (first | refine blk_drewN ?_ _ | refine blk_drew ?_ | refine blk_alloc ?_ _)); refine blk_put (cs := #[.int .i64 ((rd_T39 l1 x9_1).f0), .int .i64 ((rd_T39 l1 x9_1).f1), .int .i64 0]) ?_ 2 _ rfl; (with_reducible repeat (first | refine blk_drewN ?_ _ | refine blk_drew ?_ | refine blk_alloc ?_ _)); refine blk_put (cs := #[.int .i64 ((rd_T39 l1 x9_1).f0), .int .i64 0, .int .i64 0]) ?_ 1 _ rfl; (with_reducible repeat (first | refine blk_drewN ?_ _ | refine blk_drew ?_ | refine blk_alloc ?_ _)); refine blk_put (cs := #[.int .i64 0, .int .i64 0, .int .i64 0]) ?_ 0 _ rfl; (with_reducible repeat (first | refine blk_drewN ?_ _ | refine blk_drew ?_ | refine blk_alloc ?_ _)); exact BK105.out⟩, ⟨by repeat (first | (with_reducible first | exact HB.out | apply below_alloc | apply pw_below_drewN | apply below_drew1 | refine below_set ?_ GE102.out | refine below_set ?_ GE105.out) | exact HB.out)⟩⟩
              · replace c12 := Bool.eq_false_iff.mpr c12
                subst c12
                have H1 : (task_parted.j1 k1 l1 l1 (l1.length : Int) x9_1 true a0_0 l0_1 l0_2 l0_3 ((rd_T39 l1 x9_1).f0) ((rd_T39 l1 x9_1).f1) ((rd_T39 l1 x9_1).f2)) = some r := by rw [if_neg (show ¬ (false = true) by decide)] at H; exact H
                clear H
                have H := H1
                clear H1
                have H' := Aside0.mk H
                clear H
                have hnb19 := NB105_102.out
                have hnc19 := NB102_105.out
                have hcz20_0 : w8.cell? ⟨gb105, 0, none⟩ = some (.int .i64 0) := (blk_cell BK105.out 0).trans rfl
                have hcz20_1 : w8.cell? ⟨gb105, 1, none⟩ = some (.int .i64 0) := (blk_cell BK105.out 1).trans rfl
                have hcz20_2 : w8.cell? ⟨gb105, 2, none⟩ = some (.int .i64 0) := (blk_cell BK105.out 2).trans rfl
                have hfz20_0 := blk_frozen BK105.out 0
                have hfz20_1 := blk_frozen BK105.out 1
                have hfz20_2 := blk_frozen BK105.out 2
                go_wp2_with (first | go_step3 | ((with_reducible refine gate_callee (f := 49) rfl ?_); refine goesL_ (some 16) rfl rfl Try.func49 (by kernel_rfl) rfl #[.int .i64 ((rd_T39 l1 x9_1).f0), .int .i64 1, .int .i64 3] rfl (by (try simp only [List.map_toArray, List.map_cons, List.map_nil]); first | done | rfl | (simp only [List.length_drop, List.length_take]; rfl)) ?_; (with_reducible refine (task_between.calls ((rd_T39 l1 x9_1).f0) 1 3 false _ A11.out).mono ?_); rintro e w' ⟨rfl, ⟨nd, rfl⟩⟩; refine ⟨_, rfl, ?_⟩))
                go_meet
                case rel => exact ⟨_, (true), (by first | rfl | (simp; done) | (simp [*]; done)), H', ⟨by have := HK1.out; first | omega | exact Nat.le_refl _⟩, ⟨by (with_reducible repeat (first | refine blk_drewN ?_ _ | refine blk_drew ?_ | refine blk_alloc ?_ _)); refine blk_far ?_ NB102_105.out _; (with_reducible repeat (first | refine blk_drewN ?_ _ | refine blk_drew ?_ | refine blk_alloc ?_ _)); refine blk_far ?_ NB102_105.out _; (with_reducible repeat (first | refine blk_drewN ?_ _ | refine blk_drew ?_ | refine blk_alloc ?_ _)); refine blk_far ?_ NB102_105.out _; (with_reducible repeat (first | refine blk_drewN ?_ _ | refine blk_drew ?_ | refine blk_alloc ?_ _)); exact BK102.out⟩, ⟨by (with_reducible repeat (first | refine blk_drewN ?_ _ | refine blk_drew ?_ | refine blk_alloc ?_ _)); refine blk_put (cs := #[.int .i64 ((rd_T39 l1 x9_1).f0), .int .i64 ((rd_T39 l1 x9_1).f1), .int .i64 0]) ?_ 2 _ rfl; (with_reducible repeat (first | refine blk_drewN ?_ _ | refine blk_drew ?_ | refine blk_alloc ?_ _)); refine blk_put (cs := #[.int .i64 ((rd_T39 l1 x9_1).f0), .int .i64 0, .int .i64 0]) ?_ 1 _ rfl; (with_reducible repeat (first | refine blk_drewN ?_ _ | refine blk_drew ?_ | refine blk_alloc ?_ _)); refine blk_put (cs := #[.int .i64 0, .int .i64 0, .int .i64 0]) ?_ 0 _ rfl; (with_reducible repeat (first | refine blk_drewN ?_ _ | refine blk_drew ?_ | refine blk_alloc ?_ _)); exact BK105.out⟩, ⟨by repeat (first | (with_reducible first | exact HB.out | apply below_alloc | apply pw_below_drewN | apply below_drew1 | refine below_set ?_ GE102.out | refine below_set ?_ GE105.out) | exact HB.out)⟩⟩
            case rest =>
              clear HC7
              try clear c1
              try clear p1
              try clear q1
              try clear hx1
              try clear p2
              try clear c4
              try clear c4b0
              try clear c5
              try clear c5b0
              try clear c6
              try clear c6b0
              try clear c7
              try clear c9
              try clear p10
              try clear q10
              try clear hx10
              try clear c12
              try clear c14
              try clear c15
              try clear c17
              try clear c19
              try clear hcz10_0
              try clear hcz10_1
              try clear hcz10_2
              try clear hcz16_0
              try clear hcz16_1
              try clear hcz16_2
              try clear hcz18_0
              try clear hcz18_1
              try clear hcz18_2
              try clear hcz20_0
              try clear hcz20_1
              try clear hcz20_2
              try clear hfz10_0
              try clear hfz10_1
              try clear hfz10_2
              try clear hfz16_0
              try clear hfz16_1
              try clear hfz16_2
              try clear hfz18_0
              try clear hfz18_1
              try clear hfz18_2
              try clear hfz20_0
              try clear hfz20_1
              try clear hfz20_2
              try clear hx104_0
              try clear hx104_1
              try clear hx104_2
              try clear p104
              try clear p2
              try clear q104
              obtain ⟨kq, x13_6, rfl, HA, HJ6, BK102, BK105, HB⟩ := hcut
              cases kq with
              | zero => exact absurd HA.out (by simp [task_parted.j1])
              | succ kj6 =>
                have H := HA.out
                clear HA
                simp only [task_parted.j1] at H
                by_cases c21 : x13_6 = true
                · subst c21
                  have H1 : (some false) = some r := by rw [if_pos rfl] at H; exact H
                  clear H
                  have H := H1
                  clear H1
                  obtain rfl := Option.some.inj H
                  go_wp2_with (first | go_step3 | go_in)
                  (try rw [Exit.noGoto_ret])
                  go_ret
                  exact ⟨by first | rfl | (simp [errW_none, errW_some] <;> rfl) | (simp [*, errW_none, errW_some] <;> rfl), by repeat (first | (with_reducible first | exact HB.out | apply below_alloc | apply pw_below_drewN | apply below_drew1 | refine below_set ?_ GE102.out | refine below_set ?_ GE105.out) | exact HB.out)⟩
                · replace c21 := Bool.eq_false_iff.mpr c21
                  subst c21
                  have H1 : (if ((rd_T39 l1 x9_1).f0) = 3 then ((task_between.f ((rd_T39 l1 x9_1).f2) 0 (wrap64 ((l0_2.length : Int) - 1))).bind fun t108 => (task_parted.j2 kj6 l1 l1 (l1.length : Int) x9_1 t108 a0_0 l0_1 l0_2 l0_3 ((rd_T39 l1 x9_1).f0) ((rd_T39 l1 x9_1).f1) ((rd_T39 l1 x9_1).f2))) else (task_parted.j2 kj6 l1 l1 (l1.length : Int) x9_1 false a0_0 l0_1 l0_2 l0_3 ((rd_T39 l1 x9_1).f0) ((rd_T39 l1 x9_1).f1) ((rd_T39 l1 x9_1).f2))) = some r := by rw [if_neg (show ¬ (false = true) by decide)] at H; exact H
                  clear H
                  have H := H1
                  clear H1
                  have HC22 := Aside0.mk H
                  clear H
                  go_upto_region 6 with (go_step3)
                  go_cut [24] (fun v24 wc => ∃ (kq : Nat) (x24_21 : Bool), v24 = .bool x24_21 ∧ Aside0 (task_parted.j2 kq l1 l1 (l1.length : Int) x9_1 x24_21 a0_0 l0_1 l0_2 l0_3 ((rd_T39 l1 x9_1).f0) ((rd_T39 l1 x9_1).f1) ((rd_T39 l1 x9_1).f2) = some r) ∧ Aside0 (kq ≤ kj6) ∧ Aside0 (wc.heap[gb102]? = some (.cells #[.int .i64 a0_0, (.slice A0_1 l0_1.length c0_1), (.slice A0_2 l0_2.length c0_2), (.slice A0_3 l0_3.length c0_3)] 25 (0, 0))) ∧ Aside0 (wc.heap[gb105]? = some (.cells #[.int .i64 ((rd_T39 l1 x9_1).f0), .int .i64 ((rd_T39 l1 x9_1).f1), .int .i64 ((rd_T39 l1 x9_1).f2)] 39 (0, 0))) ∧ Aside0 (Below w.heap.size w wc))
                  case first =>
                    have H := HC22.out
                    clear HC22
                    by_cases c23 : ((rd_T39 l1 x9_1).f0) = 3
                    · rw [if_pos c23] at H
                      have c23b0 : (((rd_T39 l1 x9_1).f0) == 3) = true := beq_iff_eq.mpr c23
                      have c23b1 : (((rd_T39 l1 x9_1).f0) != 3) = false := bne_eq_false_iff_eq.mpr c23
                      clear c23
                      (first | rw [c23b0] | (simp only [i64_w, i32_w]; rw [c23b0]) | skip)
                      replace H := Option.bind_eq_some_iff.mp H
                      obtain ⟨t108, A240, H⟩ := H
                      replace H : (task_parted.j2 kj6 l1 l1 (l1.length : Int) x9_1 t108 a0_0 l0_1 l0_2 l0_3 ((rd_T39 l1 x9_1).f0) ((rd_T39 l1 x9_1).f1) ((rd_T39 l1 x9_1).f2)) = some r := H
                      have A24 := Aside0.mk A240
                      clear A240
                      have H' := Aside0.mk H
                      clear H
                      have hnb25 := NB105_102.out
                      have hnc25 := NB102_105.out
                      have hcz26_0 : wc.cell? ⟨gb105, 0, none⟩ = some (.int .i64 ((rd_T39 l1 x9_1).f0)) := (blk_cell BK105.out 0).trans rfl
                      have hcz26_1 : wc.cell? ⟨gb105, 1, none⟩ = some (.int .i64 ((rd_T39 l1 x9_1).f1)) := (blk_cell BK105.out 1).trans rfl
                      have hcz26_2 : wc.cell? ⟨gb105, 2, none⟩ = some (.int .i64 ((rd_T39 l1 x9_1).f2)) := (blk_cell BK105.out 2).trans rfl
                      have hfz26_0 := blk_frozen BK105.out 0
                      have hfz26_1 := blk_frozen BK105.out 1
                      have hfz26_2 := blk_frozen BK105.out 2
                      have hcz27_0 : wc.cell? ⟨gb102, 0, none⟩ = some (.int .i64 a0_0) := (blk_cell BK102.out 0).trans rfl
                      have hcz27_1 : wc.cell? ⟨gb102, 1, none⟩ = some (.slice A0_1 l0_1.length c0_1) := (blk_cell BK102.out 1).trans rfl
                      have hcz27_2 : wc.cell? ⟨gb102, 2, none⟩ = some (.slice A0_2 l0_2.length c0_2) := (blk_cell BK102.out 2).trans rfl
                      have hcz27_3 : wc.cell? ⟨gb102, 3, none⟩ = some (.slice A0_3 l0_3.length c0_3) := (blk_cell BK102.out 3).trans rfl
                      have hfz27_0 := blk_frozen BK102.out 0
                      have hfz27_1 := blk_frozen BK102.out 1
                      have hfz27_2 := blk_frozen BK102.out 2
                      have hfz27_3 := blk_frozen BK102.out 3
                      go_wp2_with (first | go_step3 | (go_at_call 49; (with_reducible refine (task_between.calls ((rd_T39 l1 x9_1).f2) 0 (wrap64 ((l0_2.length : Int) - 1)) t108 _ A24.out).mono ?_); rintro e w' ⟨rfl, ⟨nd, rfl⟩⟩))
                      go_meet
                      case rel => exact ⟨_, (t108), (by first | rfl | (simp; done) | (simp [*]; done)), H', ⟨by have := HK1.out; have := HJ6.out; first | omega | exact Nat.le_refl _⟩, ⟨by (with_reducible repeat (first | refine blk_drewN ?_ _ | refine blk_drew ?_ | refine blk_alloc ?_ _)); exact BK102.out⟩, ⟨by (with_reducible repeat (first | refine blk_drewN ?_ _ | refine blk_drew ?_ | refine blk_alloc ?_ _)); exact BK105.out⟩, ⟨by repeat (first | (with_reducible first | exact HB.out | apply below_alloc | apply pw_below_drewN | apply below_drew1 | refine below_set ?_ GE102.out | refine below_set ?_ GE105.out) | exact HB.out)⟩⟩
                    · rw [if_neg c23] at H
                      have c23b0 : (((rd_T39 l1 x9_1).f0) == 3) = false := beq_eq_false_iff_ne.mpr c23
                      have c23b1 : (((rd_T39 l1 x9_1).f0) != 3) = true := bne_iff_ne.mpr c23
                      (first | rw [c23b0] | (simp only [i64_w, i32_w]; rw [c23b0]) | skip)
                      have H' := Aside0.mk H
                      clear H
                      have hnb28 := NB105_102.out
                      have hnc28 := NB102_105.out
                      have hcz29_0 : wc.cell? ⟨gb105, 0, none⟩ = some (.int .i64 ((rd_T39 l1 x9_1).f0)) := (blk_cell BK105.out 0).trans rfl
                      have hcz29_1 : wc.cell? ⟨gb105, 1, none⟩ = some (.int .i64 ((rd_T39 l1 x9_1).f1)) := (blk_cell BK105.out 1).trans rfl
                      have hcz29_2 : wc.cell? ⟨gb105, 2, none⟩ = some (.int .i64 ((rd_T39 l1 x9_1).f2)) := (blk_cell BK105.out 2).trans rfl
                      have hfz29_0 := blk_frozen BK105.out 0
                      have hfz29_1 := blk_frozen BK105.out 1
                      have hfz29_2 := blk_frozen BK105.out 2
                      go_wp2_with (first | go_step3 | go_in)
                      go_meet
                      case rel => exact ⟨_, (false), (by first | rfl | (simp; done) | (simp [*]; done)), H', ⟨by have := HK1.out; have := HJ6.out; first | omega | exact Nat.le_refl _⟩, ⟨by (with_reducible repeat (first | refine blk_drewN ?_ _ | refine blk_drew ?_ | refine blk_alloc ?_ _)); exact BK102.out⟩, ⟨by (with_reducible repeat (first | refine blk_drewN ?_ _ | refine blk_drew ?_ | refine blk_alloc ?_ _)); exact BK105.out⟩, ⟨by repeat (first | (with_reducible first | exact HB.out | apply below_alloc | apply pw_below_drewN | apply below_drew1 | refine below_set ?_ GE102.out | refine below_set ?_ GE105.out) | exact HB.out)⟩⟩
                  case rest =>
                    clear HC22
                    try clear c1
                    try clear p1
                    try clear q1
                    try clear hx1
                    try clear c2
                    try clear p2
                    try clear c4
                    try clear c4b0
                    try clear c5
                    try clear c5b0
                    try clear c6
                    try clear c6b0
                    try clear p6
                    try clear c7
                    try clear c9
                    try clear p10
                    try clear q10
                    try clear hx10
                    try clear c12
                    try clear c14
                    try clear c15
                    try clear c17
                    try clear c19
                    try clear c21
                    try clear c23
                    try clear c23b0
                    try clear c23b1
                    try clear c25
                    try clear c28
                    try clear hcz10_0
                    try clear hcz10_1
                    try clear hcz10_2
                    try clear hcz16_0
                    try clear hcz16_1
                    try clear hcz16_2
                    try clear hcz18_0
                    try clear hcz18_1
                    try clear hcz18_2
                    try clear hcz20_0
                    try clear hcz20_1
                    try clear hcz20_2
                    try clear hcz26_0
                    try clear hcz26_1
                    try clear hcz26_2
                    try clear hcz27_0
                    try clear hcz27_1
                    try clear hcz27_2
                    try clear hcz27_3
                    try clear hcz29_0
                    try clear hcz29_1
                    try clear hcz29_2
                    try clear hfz10_0
                    try clear hfz10_1
                    try clear hfz10_2
                    try clear hfz16_0
                    try clear hfz16_1
                    try clear hfz16_2
                    try clear hfz18_0
                    try clear hfz18_1
                    try clear hfz18_2
                    try clear hfz20_0
                    try clear hfz20_1
                    try clear hfz20_2
                    try clear hfz26_0
                    try clear hfz26_1
                    try clear hfz26_2
                    try clear hfz27_0
                    try clear hfz27_1
                    try clear hfz27_2
                    try clear hfz27_3
                    try clear hfz29_0
                    try clear hfz29_1
                    try clear hfz29_2
                    try clear hx104_0
                    try clear hx104_1
                    try clear hx104_2
                    try clear p1
                    try clear p10
                    try clear p104
                    try clear p2
                    try clear q1
                    try clear q10
                    try clear q104
                    obtain ⟨kq, x24_21, rfl, HA, HJ21, BK102, BK105, HB⟩ := hcut
                    cases kq with
                    | zero => exact absurd HA.out (by simp [task_parted.j2])
                    | succ kj21 =>
                      have H := HA.out
                      clear HA
                      simp only [task_parted.j2] at H
                      by_cases c30 : x24_21 = true
                      · subst c30
                        have H1 : (task_parted.l0 kj21 l1 l1 (l1.length : Int) (wrap64 (x9_1 + 1)) a0_0 l0_1 l0_2 l0_3) = some r := by rw [if_pos rfl] at H; exact H
                        clear H
                        have H := H1
                        clear H1
                        have H' := Aside0.mk H
                        clear H
                        go_wp2_with (first | go_step3 | go_in)
                        go_roundg kj21
                        case measure => have := HK1.out; have := HJ6.out; have := HJ21.out; omega
                        case rel => exact ⟨(wrap64 (x9_1 + 1)), (by first | rfl | (simp; done) | (simp [*]; done)), H', ⟨by have := HK1.out; have := HJ6.out; have := HJ21.out; omega⟩, ⟨by (with_reducible repeat (first | refine blk_drewN ?_ _ | refine blk_drew ?_ | refine blk_alloc ?_ _)); exact BK102.out⟩, ⟨by repeat (first | (with_reducible first | exact HB.out | apply below_alloc | apply pw_below_drewN | apply below_drew1 | refine below_set ?_ GE102.out | refine below_set ?_ GE105.out) | exact HB.out)⟩⟩
                      · replace c30 := Bool.eq_false_iff.mpr c30
                        subst c30
                        have H1 : (if ((rd_T39 l1 x9_1).f0) = 3 then (some false) else (if ((rd_T39 l1 x9_1).f2) = 0 then (task_parted.l0 kj21 l1 l1 (l1.length : Int) (wrap64 (x9_1 + 1)) a0_0 l0_1 l0_2 l0_3) else (some false))) = some r := by rw [if_neg (show ¬ (false = true) by decide)] at H; exact H
                        clear H
                        have H := H1
                        clear H1
                        by_cases c31 : ((rd_T39 l1 x9_1).f0) = 3
                        · rw [if_pos c31] at H
                          have c31b0 : (((rd_T39 l1 x9_1).f0) == 3) = true := beq_iff_eq.mpr c31
                          have c31b1 : (((rd_T39 l1 x9_1).f0) != 3) = false := bne_eq_false_iff_eq.mpr c31
                          clear c31
                          obtain rfl := Option.some.inj H
                          have hnb32 := NB105_102.out
                          have hnc32 := NB102_105.out
                          have hcz33_0 : wc.cell? ⟨gb105, 0, none⟩ = some (.int .i64 ((rd_T39 l1 x9_1).f0)) := (blk_cell BK105.out 0).trans rfl
                          have hcz33_1 : wc.cell? ⟨gb105, 1, none⟩ = some (.int .i64 ((rd_T39 l1 x9_1).f1)) := (blk_cell BK105.out 1).trans rfl
                          have hcz33_2 : wc.cell? ⟨gb105, 2, none⟩ = some (.int .i64 ((rd_T39 l1 x9_1).f2)) := (blk_cell BK105.out 2).trans rfl
                          have hfz33_0 := blk_frozen BK105.out 0
                          have hfz33_1 := blk_frozen BK105.out 1
                          have hfz33_2 := blk_frozen BK105.out 2
                          go_wp2_with (first | go_step3 | go_in)
                          (try rw [Exit.noGoto_ret])
                          go_ret
                          exact ⟨by first | rfl | (simp [errW_none, errW_some] <;> rfl) | (simp [*, errW_none, errW_some] <;> rfl), by repeat (first | (with_reducible first | exact HB.out | apply below_alloc | apply pw_below_drewN | apply below_drew1 | refine below_set ?_ GE102.out | refine below_set ?_ GE105.out) | exact HB.out)⟩
                        · rw [if_neg c31] at H
                          have c31b0 : (((rd_T39 l1 x9_1).f0) == 3) = false := beq_eq_false_iff_ne.mpr c31
                          have c31b1 : (((rd_T39 l1 x9_1).f0) != 3) = true := bne_iff_ne.mpr c31
                          by_cases c34 : ((rd_T39 l1 x9_1).f2) = 0
                          · rw [if_pos c34] at H
                            have c34b0 : (((rd_T39 l1 x9_1).f2) == 0) = true := beq_iff_eq.mpr c34
                            have c34b1 : (((rd_T39 l1 x9_1).f2) != 0) = false := bne_eq_false_iff_eq.mpr c34
                            clear c34
                            have H' := Aside0.mk H
                            clear H
                            have hnb35 := NB105_102.out
                            have hnc35 := NB102_105.out
                            have hcz36_0 : wc.cell? ⟨gb105, 0, none⟩ = some (.int .i64 ((rd_T39 l1 x9_1).f0)) := (blk_cell BK105.out 0).trans rfl
                            have hcz36_1 : wc.cell? ⟨gb105, 1, none⟩ = some (.int .i64 ((rd_T39 l1 x9_1).f1)) := (blk_cell BK105.out 1).trans rfl
                            have hcz36_2 : wc.cell? ⟨gb105, 2, none⟩ = some (.int .i64 ((rd_T39 l1 x9_1).f2)) := (blk_cell BK105.out 2).trans rfl
                            have hfz36_0 := blk_frozen BK105.out 0
                            have hfz36_1 := blk_frozen BK105.out 1
                            have hfz36_2 := blk_frozen BK105.out 2
                            go_wp2_with (first | go_step3 | go_in)
                            go_roundg kj21
                            case measure => have := HK1.out; have := HJ6.out; have := HJ21.out; omega
                            case rel => exact ⟨(wrap64 (x9_1 + 1)), (by first | rfl | (simp; done) | (simp [*]; done)), H', ⟨by have := HK1.out; have := HJ6.out; have := HJ21.out; omega⟩, ⟨by (with_reducible repeat (first | refine blk_drewN ?_ _ | refine blk_drew ?_ | refine blk_alloc ?_ _)); exact BK102.out⟩, ⟨by repeat (first | (with_reducible first | exact HB.out | apply below_alloc | apply pw_below_drewN | apply below_drew1 | refine below_set ?_ GE102.out | refine below_set ?_ GE105.out) | exact HB.out)⟩⟩
                          · rw [if_neg c34] at H
                            have c34b0 : (((rd_T39 l1 x9_1).f2) == 0) = false := beq_eq_false_iff_ne.mpr c34
                            have c34b1 : (((rd_T39 l1 x9_1).f2) != 0) = true := bne_iff_ne.mpr c34
                            obtain rfl := Option.some.inj H
                            have hnb37 := NB105_102.out
                            have hnc37 := NB102_105.out
                            have hcz38_0 : wc.cell? ⟨gb105, 0, none⟩ = some (.int .i64 ((rd_T39 l1 x9_1).f0)) := (blk_cell BK105.out 0).trans rfl
                            have hcz38_1 : wc.cell? ⟨gb105, 1, none⟩ = some (.int .i64 ((rd_T39 l1 x9_1).f1)) := (blk_cell BK105.out 1).trans rfl
                            have hcz38_2 : wc.cell? ⟨gb105, 2, none⟩ = some (.int .i64 ((rd_T39 l1 x9_1).f2)) := (blk_cell BK105.out 2).trans rfl
                            have hfz38_0 := blk_frozen BK105.out 0
                            have hfz38_1 := blk_frozen BK105.out 1
                            have hfz38_2 := blk_frozen BK105.out 2
                            go_wp2_with (first | go_step3 | go_in)
                            (try rw [Exit.noGoto_ret])
                            go_ret
                            exact ⟨by first | rfl | (simp [errW_none, errW_some] <;> rfl) | (simp [*, errW_none, errW_some] <;> rfl), by repeat (first | (with_reducible first | exact HB.out | apply below_alloc | apply pw_below_drewN | apply below_drew1 | refine below_set ?_ GE102.out | refine below_set ?_ GE105.out) | exact HB.out)⟩
          · rw [if_neg c6] at H
            exact absurd H (by simp)
        · rw [if_neg c5] at H
          exact absurd H (by simp)
      · rw [if_neg c4] at H
        have c4b0 : decide (x9_1 < (l1.length : Int)) = false := decide_eq_false c4
        clear c4
        replace H := Option.bind_eq_some_iff.mp H
        obtain ⟨t103, A390, H⟩ := H
        replace H : (some t103) = some r := H
        have A39 := Aside0.mk A390
        clear A390
        obtain rfl := Option.some.inj H
        go_wp2_with (first | go_step3 | ((with_reducible refine gate_callee (f := 49) rfl ?_); refine goesL_ (some 49) rfl rfl Try.func49 (by kernel_rfl) rfl #[.int .i64 (l1.length : Int), .int .i64 1, .int .i64 6] rfl (by (try simp only [List.map_toArray, List.map_cons, List.map_nil]); first | done | rfl | (simp only [List.length_drop, List.length_take]; rfl)) ?_; (with_reducible refine (task_between.calls (l1.length : Int) 1 6 t103 _ A39.out).mono ?_); rintro e w' ⟨rfl, ⟨nd, rfl⟩⟩; refine ⟨_, rfl, ?_⟩))
        (try rw [Exit.noGoto_ret])
        go_ret
        exact ⟨by first | rfl | (simp [errW_none, errW_some] <;> rfl) | (simp [*, errW_none, errW_some] <;> rfl), by repeat (first | (with_reducible first | exact HB.out | apply below_alloc | apply pw_below_drewN | apply below_drew1 | refine below_set ?_ GE102.out) | exact HB.out)⟩

/-! ### task_one_1_fn74: function 700000, by hand -/

theorem boolEqs (x y : List UInt8) (u v : Int) : (x == y || u == v) = (decide (x = y) || decide (u = v)) := by
  by_cases h : x = y <;> by_cases h2 : u = v <;> simp [h, h2]
set_option maxHeartbeats 8000000 in
set_option maxRecDepth 100000 in
theorem oneTwice (gb : Nat) (b0 : ByteArray) (b1 b2 b3 b4 : Int) (A5 : Option Addr) (n5 c5 : Nat) (a0 : ByteArray) (a1 a2 a3 a4 : Int) (B5 : Option Addr) (m5 d5 : Nat) (w : World) (hbk : w.heap[gb]? = some (.cells #[.string b0, .int .i64 b1, .int .i64 b2, .int .i64 b3, .int .i64 b4, .slice A5 n5 c5] 37 (0, 0))) :
    Calls Try.prog 74 #[.agg #[.string a0, .int .i64 a1, .int .i64 a2, .int .i64 a3, .int .i64 a4, .slice B5 m5 d5], .pointer (some ⟨gb, 0, none⟩)] w fun e w' => e = .returned (.bool (decide (a0.toList = b0.toList) || decide (a3 = b3))) ∧ Below w.heap.size w w' := by
  have hu37 := Try.underlying37
  have hlt : gb < w.heap.size := blk_lt hbk
  have HB := Aside0.mk (Below.refl w.heap.size w)
  have HBK := Aside0.mk hbk
  have HLT := Aside0.mk hlt
  clear hbk hlt
  go_enter Try.func74, Try.ntmps74
  go_wp2_with (first | ((with_reducible refine gate_dst (N := 2) rfl ?_); refine box_event ?hg (N := 2) ?hd (cs := #[.string a0, .int .i64 a1, .int .i64 a2, .int .i64 a3, .int .i64 a4, .slice B5 m5 d5]) (t := 37) ?hr ?_; (case hd => rfl); (case hg => rfl); (case hr => first | (go_simp; done) | (go_simp; rfl)); intro gx hg w3 hbox hb; have HB3 := Aside0.mk (below_then HB.out HB.out.size hb); have hbk3 := (hb.block gb HLT.out).trans HBK.out; have hcz0 : w3.cell? ⟨gx, 0, none⟩ = some (.string a0) := (blk_cell hbox 0).trans rfl; have hcz3 : w3.cell? ⟨gx, 3, none⟩ = some (.int .i64 a3) := (blk_cell hbox 3).trans rfl; have hcy0 : w3.cell? ⟨gb, 0, none⟩ = some (.string b0) := (blk_cell hbk3 0).trans rfl; have hcy3 : w3.cell? ⟨gb, 3, none⟩ = some (.int .i64 b3) := (blk_cell hbk3 3).trans rfl; clear hb hbox hg hbk3))
  all_goals go_ret
  all_goals refine ⟨?_, HB3.out⟩
  all_goals first | (show Ending.returned (.bool (a0.toList == b0.toList || a3 == b3)) = _; rw [boolEqs]) | (simp [*]; done)

set_option maxHeartbeats 8000000 in
set_option maxRecDepth 100000 in
theorem indexTask (A : Option Addr) (c : Nat) (l : List S37) (g : Nat) (lb : Array Value) (p : S37 → Bool) (w : World) (hr : Kd.C k37 w A l.length l)
    (eg : ∀ args w, (callFunc g args).run Try.prog w = .ok (.enter g args) w)
    (hp : ∀ (W : World) (x : S37) (B5 : Option Addr) (d5 : Nat), Below w.heap.size w W → x.f5.length ≤ d5 → Kd.C k39 W B5 x.f5.length x.f5 → Calls Try.prog g (#[.agg #[.string x.f0, .int .i64 x.f1, .int .i64 x.f2, .int .i64 x.f3, .int .i64 x.f4, .slice B5 x.f5.length d5]] ++ lb) W fun e w' => e = .returned (.bool (p x)) ∧ Below w.heap.size w w') :
    Calls Try.prog 88 #[.slice A l.length c, .func (.func g) #[] lb] w fun e w' => e = .returned (.int .i64 (idxF p l 0)) ∧ Below w.heap.size w w' := by
  have hl : l.length ≤ 9223372036854775807 := hr.2.1
  by_cases h0 : l.length = 0
  · have e0 : l = [] := List.eq_nil_of_length_eq_zero h0
    subst e0
    clear hr hp hl h0 eg
    go_enter Try.func88, Try.ntmps88
    go_wp2
    go_loopg [5, 8] 1 (fun gg _ s8 wr => s8 = .int .i64 0 ∧ wr = w ∧ gg = gg)
    case atStart => exact ⟨rfl, rfl, rfl⟩
    case round =>
      obtain ⟨rfl, rfl, _⟩ := hrel
      go_wp2
      go_ret
      exact ⟨rfl, Below.refl _ _⟩
  · obtain ⟨ad, hA, _⟩ := hr.2.2 (by omega)
    subst hA
    have HR := Aside0.mk hr
    have HP := Aside0.mk hp
    have HL := Aside0.mk hl
    have H0 := Aside0.mk h0
    clear hr hp h0
    go_enter Try.func88, Try.ntmps88
    go_wp2
    go_loopg [5, 8] l.length (fun gg _ s8 wr => ∃ kk : Nat, kk ≤ l.length ∧ l.length - kk ≤ gg ∧ s8 = .int .i64 kk ∧ Aside (Below w.heap.size w wr) ∧ Aside (∀ j, j < kk → p (l.getD j z37) = false))
    case atStart => exact ⟨0, Nat.zero_le _, by omega, rfl, Below.refl _ w, fun j hj => absurd hj (Nat.not_lt_zero _)⟩
    case round =>
      obtain ⟨kk, hkk, hg, rfl, BW, HA⟩ := hrel
      by_cases hlt : kk < l.length
      · have hltz : (kk : Int) < (l.length : Int) := by omega
        obtain ⟨ad', cs, e', hcl, hK, hcell⟩ := Kd.C_get HR.out z37 (kk : Int) (by omega) (by omega)
        injection e' with e'
        subst e'
        have hgd : l.getD ((kk : Int)).toNat z37 = l.getD kk z37 := by simp
        rw [hgd] at hK
        obtain ⟨A5, c5, rfl, hl5, g5⟩ := k37_open hK
        have hx : ∀ j u, ([Value.string (l.getD kk z37).f0, .int .i64 (l.getD kk z37).f1, .int .i64 (l.getD kk z37).f2, .int .i64 (l.getD kk z37).f3, .int .i64 (l.getD kk z37).f4, .slice A5 (l.getD kk z37).f5.length c5])[j]? = some u → wr.cell? (ad.add (kk * 6 + j)) = some u := fun j u hu => pw_cell_below BW.out (hcell j u hu)
        have hx0 := hx 0 _ rfl
        have hx1 := hx 1 _ rfl
        rw [add_field _ _ 1 (by omega)] at hx1
        have hx2 := hx 2 _ rfl
        rw [add_field _ _ 2 (by omega)] at hx2
        have hx3 := hx 3 _ rfl
        rw [add_field _ _ 3 (by omega)] at hx3
        have hx4 := hx 4 _ rfl
        rw [add_field _ _ 4 (by omega)] at hx4
        have hx5 := hx 5 _ rfl
        rw [add_field _ _ 5 (by omega)] at hx5
        rw [Nat.add_zero] at hx0
        have hcall := HP.out wr (l.getD kk z37) A5 c5 BW.out hl5 (Kd.C_below g5 BW.out)
        clear hx hcell hK hcl hgd hl5 g5
        clear HP HR
        generalize hy : l.getD kk z37 = y at *
        have B : Aside (l.getD kk z37 = y) := hy
        clear hy
        cases hq : p y with
        | true =>
          rw [hq] at hcall
          have HCALL := Aside0.mk hcall
          clear hcall
          go_wp2_with (go_at_fn g; refine HCALL.out.mono ?_; rintro e w' ⟨rfl, hb'⟩)
          go_ret
          exact ⟨retInt (idxF_hit p z37 l kk hlt HA _ B hq), hb'⟩
        | false =>
          rw [hq] at hcall
          have HCALL := Aside0.mk hcall
          clear hcall
          go_wp2_with (go_at_fn g; refine HCALL.out.mono ?_; rintro e w' ⟨rfl, hb'⟩)
          go_roundg (l.length - (kk + 1))
          case measure => omega
          case rel =>
            refine ⟨kk + 1, by omega, by omega, by go_num, hb', (show Aside _ from fun j hj => ?_)⟩
            by_cases e : j = kk
            · subst e
              rw [B.out]; exact hq
            · exact HA.out j (by omega)
      · have hltz : ¬ (kk : Int) < (l.length : Int) := by omega
        have : kk = l.length := by omega
        subst this
        go_wp2
        go_ret
        exact ⟨retInt (idxF_miss p z37 l HA.out), BW.out⟩
set_option maxHeartbeats 8000000 in
set_option maxRecDepth 100000 in
theorem containsTask (A : Option Addr) (c : Nat) (l : List S37) (g : Nat) (lb : Array Value) (p : S37 → Bool) (r : Bool) (w : World) (hr : Kd.C k37 w A l.length l)
    (eg : ∀ args w, (callFunc g args).run Try.prog w = .ok (.enter g args) w)
    (hp : ∀ (W : World) (x : S37) (B5 : Option Addr) (d5 : Nat), Below w.heap.size w W → x.f5.length ≤ d5 → Kd.C k39 W B5 x.f5.length x.f5 → Calls Try.prog g (#[.agg #[.string x.f0, .int .i64 x.f1, .int .i64 x.f2, .int .i64 x.f3, .int .i64 x.f4, .slice B5 x.f5.length d5]] ++ lb) W fun e w' => e = .returned (.bool (p x)) ∧ Below w.heap.size w w') (h : l.any p = r) :
    Calls Try.prog 76 #[.slice A l.length c, .func (.func g) #[] lb] w fun e w' => e = .returned (.bool r) ∧ Below w.heap.size w w' := by
  have HI := Aside0.mk (indexTask A c l g lb p w hr eg hp)
  rw [← idxF_nonneg p l 0] at h
  have HH := Aside0.mk h
  clear hr eg hp h
  generalize idxF p l 0 = z at *
  go_enter Try.func76, Try.ntmps76
  go_wp2_with (go_at_call 88; refine HI.out.mono ?_; rintro e w' ⟨rfl, hb'⟩)
  go_ret
  exact ⟨retBool HH.out.symm, hb'⟩

def task_one_1_fn74.f (l0 : List S37) (b0 : ByteArray) (b1 b2 b3 b4 : Int) (l5 : List S39) : Option (Bool) := some (l0.any fun o => decide (o.f0.toList = b0.toList) || decide (o.f3 = b3))
theorem task_one_1_fn74.calls (A0 : Option Addr) (c0 : Nat) (l0 : List S37) (gb : Nat) (b0 : ByteArray) (b1 b2 b3 b4 : Int) (A5 : Option Addr) (c5 : Nat) (l5 : List S39) (r : Bool) (w : World) (hr0 : Kd.C k37 w A0 l0.length l0) (hc0 : l0.length ≤ c0) (hbk : w.heap[gb]? = some (.cells #[.string b0, .int .i64 b1, .int .i64 b2, .int .i64 b3, .int .i64 b4, .slice A5 l5.length c5] 37 (0, 0))) (h : task_one_1_fn74.f l0 b0 b1 b2 b3 b4 l5 = some r) :
    Calls Try.prog 76 #[.slice A0 l0.length c0, .func (.func 74) #[] #[.pointer (some ⟨gb, 0, none⟩)]] w fun e w' => e = .returned (.bool r) ∧ Below w.heap.size w w' := by
  obtain h := Option.some.inj h
  exact containsTask A0 c0 l0 74 #[.pointer (some ⟨gb, 0, none⟩)] (fun o => decide (o.f0.toList = b0.toList) || decide (o.f3 = b3)) r w hr0 (enters_of Try.func74 (by kernel_rfl) rfl)
    (fun W x B5 d5 hW _ _ => (oneTwice gb b0 b1 b2 b3 b4 A5 l5.length c5 x.f0 x.f1 x.f2 x.f3 x.f4 B5 x.f5.length d5 W ((hW.block gb (blk_lt hbk)).trans hbk)).mono fun _ _ ⟨he, hd⟩ => ⟨he, below_then hW hW.size hd⟩) h


end Go.Proofs.Ytkohggddaheefaa.PDemandLocks
