-- made by a program of this session's own out of the translation; Lean checks it
import Derived.Test.YtkohggddaheefaaPDemandLocksx0
namespace Go.Proofs.Ytkohggddaheefaa.PDemandLocks
open Go.RowKit Go.Proofs.YtkohggddaheefaaW.PrintWords Go.Proofs.YtkohggddaheefaaW.PrintLast Go.Proofs.YtkohggddaheefaaW.PrintMore
attribute [local go_sem] max2_int min2_int max_two min_two max_three min_three max_four min_four   -- for this text's walks alone
set_option linter.unusedVariables false
set_option linter.unusedSimpArgs false

/-! ### task_between: function 49 -/
def task_between.f (a0 : Int) (a1 : Int) (a2 : Int) : Option (Bool) := if a0 ≥ a1 then (some (decide (a0 ≤ a2))) else (some false)
set_option maxHeartbeats 8000000 in
set_option maxRecDepth 100000 in
theorem task_between.calls (a0 : Int) (a1 : Int) (a2 : Int) (r : Bool) (w : World) (h : task_between.f a0 a1 a2 = some r) :
    Calls Try.prog 49 #[.int .i64 a0, .int .i64 a1, .int .i64 a2] w fun e w' => e = .returned (.bool r) ∧ Drawn0 w w' := by
  have H : (if a0 ≥ a1 then (some (decide (a0 ≤ a2))) else (some false)) = some r := h
  clear h
  by_cases c4 : a0 ≥ a1
  · rw [if_pos c4] at H
    have c4b0 : decide (a1 ≤ a0) = true := decide_eq_true c4
    clear c4
    obtain rfl := Option.some.inj H
    go_enter Try.func49, Try.ntmps49
    go_wp2
    go_ret
    exact ⟨by first | rfl | (simp; done) | (simp [*]; done), by repeat (first | exact Drawn0.refl _ | apply Drawn0.step)⟩
  · rw [if_neg c4] at H
    have c4b0 : decide (a1 ≤ a0) = false := decide_eq_false c4
    clear c4
    obtain rfl := Option.some.inj H
    go_enter Try.func49, Try.ntmps49
    go_wp2
    go_ret
    exact ⟨by first | rfl | (simp; done) | (simp [*]; done), by repeat (first | exact Drawn0.refl _ | apply Drawn0.step)⟩

/-! ### task_placed_1: function 71 -/
def task_placed_1.f (a0 : Int) : Option (Bool) := (task_between.f a0 1 3).bind fun t101 => (some (!t101))
set_option maxHeartbeats 8000000 in
set_option maxRecDepth 100000 in
theorem task_placed_1.calls (a0 : Int) (r : Bool) (w : World) (h : task_placed_1.f a0 = some r) :
    Calls Try.prog 71 #[.int .i64 a0] w fun e w' => e = .returned (.bool r) ∧ Drawn0 w w' := by
  have H : ((task_between.f a0 1 3).bind fun t101 => (some (!t101))) = some r := h
  clear h
  replace H := Option.bind_eq_some_iff.mp H
  obtain ⟨t101, A20, H⟩ := H
  replace H : (some (!t101)) = some r := H
  have A2 := Aside0.mk A20
  clear A20
  obtain rfl := Option.some.inj H
  go_enter Try.func71, Try.ntmps71
  go_wp2_with (first | ((with_reducible refine gate_callee (f := 49) rfl ?_); refine goesL_ (some 4) rfl rfl Try.func49 (by kernel_rfl) rfl #[.int .i64 a0, .int .i64 1, .int .i64 3] rfl (by (try simp only [List.map_toArray, List.map_cons, List.map_nil]); first | done | rfl | (simp only [List.length_drop, List.length_take]; rfl)) ?_; (with_reducible refine (task_between.calls a0 1 3 t101 _ A2.out).mono ?_); rintro e w' ⟨rfl, ⟨nd, rfl⟩⟩; refine ⟨_, rfl, ?_⟩))
  go_ret
  exact ⟨by first | rfl | (simp; done) | (simp [*]; done), by repeat (first | exact Drawn0.refl _ | apply Drawn0.step)⟩

/-! ### task_placed: function 50, by hand -/

def betw (n lo hi : Int) : Bool := decide (lo ≤ n) && decide (n ≤ hi)
theorem betw_eq (n lo hi : Int) : task_between.f n lo hi = some (betw n lo hi) := by
  unfold task_between.f betw
  by_cases h : lo ≤ n
  · rw [if_pos h]; simp [h]
  · rw [if_neg h]; simp [h]
/-- The first place, from n on, at which p holds; -1. -/
def idxF {α : Type} (p : α → Bool) : List α → Nat → Int
  | [], _ => -1
  | x :: xs, n => if p x = true then (n : Int) else idxF p xs (n + 1)
theorem idxF_nonneg {α : Type} (p : α → Bool) (xs : List α) (n : Nat) : decide (0 ≤ idxF p xs n) = xs.any p := by
  induction xs generalizing n with
  | nil => rfl
  | cons x xs ih =>
    unfold idxF
    rw [List.any_cons]
    by_cases h : p x = true
    · rw [if_pos h, h]; simp
    · rw [if_neg h, ih]; simp [h]
theorem idxF_at {α : Type} (p : α → Bool) (z : α) (xs : List α) (k : Nat) (hk : k ≤ xs.length) (h : ∀ j, j < k → p (xs.getD j z) = false) : idxF p xs 0 = idxF p (xs.drop k) k := by
  induction k with
  | zero => rfl
  | succ k ih =>
    rw [ih (by omega) fun j hj => h j (by omega), List.drop_eq_getElem_cons (by omega)]
    have := h k (by omega)
    rw [List.getD_eq_getElem?_getD, List.getElem?_eq_getElem (by omega)] at this
    simp only [Option.getD_some] at this
    conv => lhs; unfold idxF
    rw [if_neg (by simp [this])]
theorem idxF_hit {α : Type} (p : α → Bool) (z : α) (xs : List α) (k : Nat) (hk : k < xs.length) (h : ∀ j, j < k → p (xs.getD j z) = false) (y : α) (hy : xs.getD k z = y) (hp : p y = true) : idxF p xs 0 = (k : Int) := by
  rw [idxF_at p z xs k (by omega) h, List.drop_eq_getElem_cons hk]
  have hy : xs[k] = y := by rwa [List.getD_eq_getElem?_getD, List.getElem?_eq_getElem hk] at hy
  unfold idxF
  rw [hy, if_pos hp]
theorem idxF_miss {α : Type} (p : α → Bool) (z : α) (xs : List α) (h : ∀ j, j < xs.length → p (xs.getD j z) = false) : idxF p xs 0 = -1 := by
  rw [idxF_at p z xs xs.length (Nat.le_refl _) h, List.drop_length]
  rfl
theorem retBool {a b : Bool} (h : b = a) : Ending.returned (.bool a) = Ending.returned (.bool b) := by rw [h]
theorem retInt {a b : Int} (h : b = a) : Ending.returned (.int .i64 a) = Ending.returned (.int .i64 b) := by rw [h]

set_option maxHeartbeats 8000000 in
set_option maxRecDepth 100000 in
theorem indexInt (A : Option Addr) (c : Nat) (l : List Int) (g : Nat) (lb : Array Value) (p : Int → Bool) (w : World) (hr : Kd.C (Kd.int .i64) w A l.length l)
    (eg : ∀ args w, (callFunc g args).run Try.prog w = .ok (.enter g args) w)
    (hp : ∀ (W : World) (x : Int), Below w.heap.size w W → Calls Try.prog g (#[.int .i64 x] ++ lb) W fun e w' => e = .returned (.bool (p x)) ∧ Below w.heap.size w w') :
    Calls Try.prog 87 #[.slice A l.length c, .func (.func g) #[] lb] w fun e w' => e = .returned (.int .i64 (idxF p l 0)) ∧ Below w.heap.size w w' := by
  have hl : l.length ≤ 9223372036854775807 := hr.2.1
  by_cases h0 : l.length = 0
  · have e0 : l = [] := List.eq_nil_of_length_eq_zero h0
    subst e0
    clear hr hp hl h0 eg
    go_enter Try.func87, Try.ntmps87
    go_wp2
    go_loopg [5, 8] 1 (fun gg _ s8 wr => s8 = .int .i64 0 ∧ wr = w ∧ gg = gg)
    case atStart => exact ⟨rfl, rfl, rfl⟩
    case round =>
      obtain ⟨rfl, rfl, _⟩ := hrel
      go_wp2
      go_ret
      exact ⟨rfl, Below.refl _ _⟩
  · obtain ⟨ad, hA, _⟩ := hr.2.2 (by omega)
    subst hA
    have HR := Aside0.mk hr
    have HP := Aside0.mk hp
    have HL := Aside0.mk hl
    have H0 := Aside0.mk h0
    clear hr hp h0
    go_enter Try.func87, Try.ntmps87
    go_wp2
    go_loopg [5, 8] l.length (fun gg _ s8 wr => ∃ kk : Nat, kk ≤ l.length ∧ l.length - kk ≤ gg ∧ s8 = .int .i64 kk ∧ Aside (Below w.heap.size w wr) ∧ Aside (∀ j, j < kk → p (l.getD j 0) = false))
    case atStart => exact ⟨0, Nat.zero_le _, by omega, rfl, Below.refl _ w, fun j hj => absurd hj (Nat.not_lt_zero _)⟩
    case round =>
      obtain ⟨kk, hkk, hg, rfl, BW, HA⟩ := hrel
      by_cases hlt : kk < l.length
      · have hltz : (kk : Int) < (l.length : Int) := by omega
        obtain ⟨ad', e', hcell⟩ := Kd.at_int HR.out (kk : Int) (by omega) (by omega)
        injection e' with e'
        subst e'
        have l2 : wr.cell? (ad.add kk) = some (.int .i64 (l.getD kk 0)) := by simpa [rd] using pw_cell_below BW.out hcell
        have hcall := HP.out wr (l.getD kk 0) BW.out
        clear hcell
        clear HP HR
        generalize hy : l.getD kk 0 = y at *
        have B : Aside (l.getD kk 0 = y) := hy
        clear hy
        cases hq : p y with
        | true =>
          rw [hq] at hcall
          have HCALL := Aside0.mk hcall
          clear hcall
          go_wp2_with (go_at_fn g; refine HCALL.out.mono ?_; rintro e w' ⟨rfl, hb'⟩)
          go_ret
          exact ⟨retInt (idxF_hit p 0 l kk hlt HA _ B hq), hb'⟩
        | false =>
          rw [hq] at hcall
          have HCALL := Aside0.mk hcall
          clear hcall
          go_wp2_with (go_at_fn g; refine HCALL.out.mono ?_; rintro e w' ⟨rfl, hb'⟩)
          go_roundg (l.length - (kk + 1))
          case measure => omega
          case rel =>
            refine ⟨kk + 1, by omega, by omega, by go_num, hb', (show Aside _ from fun j hj => ?_)⟩
            by_cases e : j = kk
            · subst e
              rw [B.out]; exact hq
            · exact HA.out j (by omega)
      · have hltz : ¬ (kk : Int) < (l.length : Int) := by omega
        have : kk = l.length := by omega
        subst this
        go_wp2
        go_ret
        exact ⟨retInt (idxF_miss p 0 l HA.out), BW.out⟩
set_option maxHeartbeats 8000000 in
set_option maxRecDepth 100000 in
theorem containsInt (A : Option Addr) (c : Nat) (l : List Int) (g : Nat) (lb : Array Value) (p : Int → Bool) (r : Bool) (w : World) (hr : Kd.C (Kd.int .i64) w A l.length l)
    (eg : ∀ args w, (callFunc g args).run Try.prog w = .ok (.enter g args) w)
    (hp : ∀ (W : World) (x : Int), Below w.heap.size w W → Calls Try.prog g (#[.int .i64 x] ++ lb) W fun e w' => e = .returned (.bool (p x)) ∧ Below w.heap.size w w') (h : l.any p = r) :
    Calls Try.prog 73 #[.slice A l.length c, .func (.func g) #[] lb] w fun e w' => e = .returned (.bool r) ∧ Below w.heap.size w w' := by
  have HI := Aside0.mk (indexInt A c l g lb p w hr eg hp)
  rw [← idxF_nonneg p l 0] at h
  have HH := Aside0.mk h
  clear hr eg hp h
  generalize idxF p l 0 = z at *
  go_enter Try.func73, Try.ntmps73
  go_wp2_with (go_at_call 87; refine HI.out.mono ?_; rintro e w' ⟨rfl, hb'⟩)
  go_ret
  exact ⟨retBool HH.out.symm, hb'⟩

set_option maxHeartbeats 8000000 in
set_option maxRecDepth 100000 in
theorem placed2 (gb : Nat) (a0 : Int) (A1 A2 A3 : Option Addr) (n1 c1 n2 c2 n3 c3 : Nat) (hn : n1 ≤ 3) (x : Int) (b : Bool) (hb : task_between.f x 0 ((n1 : Int) - 1) = some b) (w : World) (hbk : w.heap[gb]? = some (.cells #[.int .i64 a0, .slice A1 n1 c1, .slice A2 n2 c2, .slice A3 n3 c3] 25 (0, 0))) :
    Calls Try.prog 72 #[.int .i64 x, .pointer (some ⟨gb, 0, none⟩)] w fun e w' => e = .returned (.bool (!b)) ∧ Drawn0 w w' := by
  have hc1 : w.cell? ⟨gb, 1, none⟩ = some (.slice A1 n1 c1) := (blk_cell hbk 1).trans rfl
  have HB := Aside0.mk hb
  clear hbk hb
  go_enter Try.func72, Try.ntmps72
  go_wp2_with (go_at_call 49; refine (task_between.calls _ _ _ b _ HB.out).mono ?_; rintro e w' ⟨rfl, ⟨nd, rfl⟩⟩)
  go_ret
  exact ⟨rfl, ⟨_, rfl⟩⟩
/-- Whether clusters and resources may be so. -/
def placedB (cores homes : List Int) : Bool := (betw (cores.length : Int) 1 3 && decide ((homes.length : Int) ≤ 4)) && !(cores.any fun x => !(betw x 1 3)) && !(homes.any fun x => !(betw x 0 ((cores.length : Int) - 1)))
def task_placed.f (a0_0 : Int) (l0_1 : List Int) (l0_2 : List Int) (l0_3 : List S37) : Option (Bool) := some (placedB l0_1 l0_2)
set_option maxHeartbeats 8000000 in
set_option maxRecDepth 100000 in
theorem task_placed.calls (a0_0 : Int) (A0_1 : Option Addr) (c0_1 : Nat) (l0_1 : List Int) (A0_2 : Option Addr) (c0_2 : Nat) (l0_2 : List Int) (A0_3 : Option Addr) (c0_3 : Nat) (l0_3 : List S37) (r : Bool) (w : World) (hr0_1 : Kd.C (Kd.int .i64) w A0_1 l0_1.length l0_1) (hc0_1 : l0_1.length ≤ c0_1) (hr0_2 : Kd.C (Kd.int .i64) w A0_2 l0_2.length l0_2) (hc0_2 : l0_2.length ≤ c0_2) (hr0_3 : Kd.C k37 w A0_3 l0_3.length l0_3) (hc0_3 : l0_3.length ≤ c0_3) (h : task_placed.f a0_0 l0_1 l0_2 l0_3 = some r) :
    Calls Try.prog 50 #[.agg #[.int .i64 a0_0, .slice A0_1 l0_1.length c0_1, .slice A0_2 l0_2.length c0_2, .slice A0_3 l0_3.length c0_3]] w fun e w' => e = .returned (.bool r) ∧ Below w.heap.size w w' := by
  have HR1 := Aside0.mk hr0_1
  have HR2 := Aside0.mk hr0_2
  obtain rfl := Option.some.inj h
  clear h hr0_1 hr0_2 hr0_3 hc0_1 hc0_2 hc0_3
  have HB := Aside0.mk (Below.refl w.heap.size w)
  have hu25 := Try.underlying25
  have eg1 : ∀ args w, (callFunc 71 args).run Try.prog w = .ok (.enter 71 args) w := enters_of Try.func71 (by kernel_rfl) rfl
  have eg2 : ∀ args w, (callFunc 72 args).run Try.prog w = .ok (.enter 72 args) w := enters_of Try.func72 (by kernel_rfl) rfl
  have EG1 := Aside0.mk eg1
  have EG2 := Aside0.mk eg2
  clear eg1 eg2
  have c1 := fun (W : World) (hW : Below w.heap.size w W) (b : Bool) (hb : (l0_1.any fun x => !(betw x 1 3)) = b) => containsInt A0_1 c0_1 l0_1 71 #[] (fun x => !(betw x 1 3)) b W (Kd.C_below HR1.out hW) EG1.out
    (fun W2 x h2 => (task_placed_1.calls x (!(betw x 1 3)) W2 (by unfold task_placed_1.f; rw [betw_eq]; rfl)).mono fun _ _ ⟨he, hd⟩ => ⟨he, below_then h2 h2.size hd.below⟩) hb
  have c2 := fun (hn : l0_1.length ≤ 3) (gb : Nat) (W : World) (hW : Below w.heap.size w W) (hbk : W.heap[gb]? = some (.cells #[.int .i64 a0_0, .slice A0_1 l0_1.length c0_1, .slice A0_2 l0_2.length c0_2, .slice A0_3 l0_3.length c0_3] 25 (0, 0))) (b : Bool) (hb : (l0_2.any fun x => !(betw x 0 ((l0_1.length : Int) - 1))) = b) => containsInt A0_2 c0_2 l0_2 72 #[.pointer (some ⟨gb, 0, none⟩)] (fun x => !(betw x 0 ((l0_1.length : Int) - 1))) b W (Kd.C_below HR2.out hW) EG2.out
    (fun W2 x h2 => (placed2 gb a0_0 A0_1 A0_2 A0_3 l0_1.length c0_1 l0_2.length c0_2 l0_3.length c0_3 hn x _ (betw_eq _ _ _) W2 ((h2.block gb (blk_lt hbk)).trans hbk)).mono fun _ _ ⟨he, hd⟩ => ⟨he, below_then h2 h2.size hd.below⟩) hb
  have C1 := Aside0.mk c1
  have C2 := Aside0.mk c2
  clear c1 c2
  unfold placedB
  cases hb1 : betw (l0_1.length : Int) 1 3 with
  | false =>
    have HB1 := Aside0.mk hb1
    clear hb1
    go_enter Try.func50, Try.ntmps50
    go_wp2_with (first | ((with_reducible refine gate_dst (N := 1) rfl ?_); refine box_event ?hg (N := 1) ?hd (cs := #[.int .i64 a0_0, .slice A0_1 l0_1.length c0_1, .slice A0_2 l0_2.length c0_2, .slice A0_3 l0_3.length c0_3]) (t := 25) ?hr ?_; (case hd => rfl); (case hg => rfl); (case hr => first | (go_simp; done) | (go_simp; rfl)); intro gb hg w3 hbox hb; have HB3 := Aside0.mk (below_then HB.out HB.out.size hb); have BK := Aside0.mk hbox; have hcz0 : w3.cell? ⟨gb, 0, none⟩ = some (.int .i64 a0_0) := (blk_cell hbox 0).trans rfl; have hcz1 : w3.cell? ⟨gb, 1, none⟩ = some (.slice A0_1 l0_1.length c0_1) := (blk_cell hbox 1).trans rfl; have hcz2 : w3.cell? ⟨gb, 2, none⟩ = some (.slice A0_2 l0_2.length c0_2) := (blk_cell hbox 2).trans rfl; clear hb hbox hg) | (go_at_call 49; refine (task_between.calls _ _ _ false _ (by rw [betw_eq, HB1.out])).mono ?_; rintro e w' ⟨rfl, ⟨nd, rfl⟩⟩))
    go_ret
    exact ⟨rfl, pw_below_drewN HB3.out _⟩
  | true =>
    have hn : l0_1.length ≤ 3 := by unfold betw at hb1; simp at hb1; omega
    have HN := Aside0.mk hn
    have HB1 := Aside0.mk hb1
    clear hb1 hn
    by_cases h2 : (l0_2.length : Int) ≤ 4
    · have h2a : decide ((l0_2.length : Int) ≤ 4) = true := by simpa using h2
      have h2b : decide (l0_2.length ≤ 4) = true := by simp; omega
      rw [h2a]
      clear h2
      cases hb3 : (l0_1.any fun x => !(betw x 1 3)) with
      | true =>
        have HB4 := Aside0.mk hb3
        clear hb3
        go_enter Try.func50, Try.ntmps50
        go_wp2_with (first | ((with_reducible refine gate_dst (N := 1) rfl ?_); refine box_event ?hg (N := 1) ?hd (cs := #[.int .i64 a0_0, .slice A0_1 l0_1.length c0_1, .slice A0_2 l0_2.length c0_2, .slice A0_3 l0_3.length c0_3]) (t := 25) ?hr ?_; (case hd => rfl); (case hg => rfl); (case hr => first | (go_simp; done) | (go_simp; rfl)); intro gb hg w3 hbox hb; have HB3 := Aside0.mk (below_then HB.out HB.out.size hb); have BK := Aside0.mk hbox; have hcz0 : w3.cell? ⟨gb, 0, none⟩ = some (.int .i64 a0_0) := (blk_cell hbox 0).trans rfl; have hcz1 : w3.cell? ⟨gb, 1, none⟩ = some (.slice A0_1 l0_1.length c0_1) := (blk_cell hbox 1).trans rfl; have hcz2 : w3.cell? ⟨gb, 2, none⟩ = some (.slice A0_2 l0_2.length c0_2) := (blk_cell hbox 2).trans rfl; clear hb hbox hg) | (go_at_call 49; refine (task_between.calls _ _ _ true _ (by rw [betw_eq, HB1.out])).mono ?_; rintro e w' ⟨rfl, ⟨nd, rfl⟩⟩; have HB5 := Aside0.mk (pw_below_drewN HB3.out nd)) | (go_at_call 73; refine (C1.out _ HB5.out true HB4.out).mono ?_; rintro e w5 ⟨rfl, hb6⟩; have HB7 := Aside0.mk (below_then HB5.out HB5.out.size hb6); clear hb6))
        go_ret
        exact ⟨rfl, HB7.out⟩
      | false =>
        have HB4 := Aside0.mk hb3
        clear hb3
        cases hb8 : (l0_2.any fun x => !(betw x 0 ((l0_1.length : Int) - 1))) with
        | true =>
          have HB8 := Aside0.mk hb8
          clear hb8
          go_enter Try.func50, Try.ntmps50
          go_wp2_with (first | ((with_reducible refine gate_dst (N := 1) rfl ?_); refine box_event ?hg (N := 1) ?hd (cs := #[.int .i64 a0_0, .slice A0_1 l0_1.length c0_1, .slice A0_2 l0_2.length c0_2, .slice A0_3 l0_3.length c0_3]) (t := 25) ?hr ?_; (case hd => rfl); (case hg => rfl); (case hr => first | (go_simp; done) | (go_simp; rfl)); intro gb hg w3 hbox hb; have HB3 := Aside0.mk (below_then HB.out HB.out.size hb); have BK := Aside0.mk hbox; have hcz0 : w3.cell? ⟨gb, 0, none⟩ = some (.int .i64 a0_0) := (blk_cell hbox 0).trans rfl; have hcz1 : w3.cell? ⟨gb, 1, none⟩ = some (.slice A0_1 l0_1.length c0_1) := (blk_cell hbox 1).trans rfl; have hcz2 : w3.cell? ⟨gb, 2, none⟩ = some (.slice A0_2 l0_2.length c0_2) := (blk_cell hbox 2).trans rfl; clear hb hbox hg) | (go_at_call 49; refine (task_between.calls _ _ _ true _ (by rw [betw_eq, HB1.out])).mono ?_; rintro e w' ⟨rfl, ⟨nd, rfl⟩⟩; have HB5 := Aside0.mk (pw_below_drewN HB3.out nd)) | (go_at_call 73; refine (C1.out _ HB5.out false HB4.out).mono ?_; rintro e w5 ⟨rfl, hb6⟩; have HB7 := Aside0.mk (below_then HB5.out HB5.out.size hb6); have hbk5 := (hb6.block gb (blk_lt (w := w3.drewN nd) BK.out)).trans BK.out; have BK5 := Aside0.mk hbk5; have hcy2 : w5.cell? ⟨gb, 2, none⟩ = some (.slice A0_2 l0_2.length c0_2) := (blk_cell hbk5 2).trans rfl; clear hb6 hbk5) | (go_at_call 73; refine (C2.out HN.out gb _ HB7.out BK5.out true HB8.out).mono ?_; rintro e w9 ⟨rfl, hb10⟩; have HB11 := Aside0.mk (below_then HB7.out HB7.out.size hb10); clear hb10))
          go_ret
          exact ⟨rfl, HB11.out⟩
        | false =>
          have HB8 := Aside0.mk hb8
          clear hb8
          go_enter Try.func50, Try.ntmps50
          go_wp2_with (first | ((with_reducible refine gate_dst (N := 1) rfl ?_); refine box_event ?hg (N := 1) ?hd (cs := #[.int .i64 a0_0, .slice A0_1 l0_1.length c0_1, .slice A0_2 l0_2.length c0_2, .slice A0_3 l0_3.length c0_3]) (t := 25) ?hr ?_; (case hd => rfl); (case hg => rfl); (case hr => first | (go_simp; done) | (go_simp; rfl)); intro gb hg w3 hbox hb; have HB3 := Aside0.mk (below_then HB.out HB.out.size hb); have BK := Aside0.mk hbox; have hcz0 : w3.cell? ⟨gb, 0, none⟩ = some (.int .i64 a0_0) := (blk_cell hbox 0).trans rfl; have hcz1 : w3.cell? ⟨gb, 1, none⟩ = some (.slice A0_1 l0_1.length c0_1) := (blk_cell hbox 1).trans rfl; have hcz2 : w3.cell? ⟨gb, 2, none⟩ = some (.slice A0_2 l0_2.length c0_2) := (blk_cell hbox 2).trans rfl; clear hb hbox hg) | (go_at_call 49; refine (task_between.calls _ _ _ true _ (by rw [betw_eq, HB1.out])).mono ?_; rintro e w' ⟨rfl, ⟨nd, rfl⟩⟩; have HB5 := Aside0.mk (pw_below_drewN HB3.out nd)) | (go_at_call 73; refine (C1.out _ HB5.out false HB4.out).mono ?_; rintro e w5 ⟨rfl, hb6⟩; have HB7 := Aside0.mk (below_then HB5.out HB5.out.size hb6); have hbk5 := (hb6.block gb (blk_lt (w := w3.drewN nd) BK.out)).trans BK.out; have BK5 := Aside0.mk hbk5; have hcy2 : w5.cell? ⟨gb, 2, none⟩ = some (.slice A0_2 l0_2.length c0_2) := (blk_cell hbk5 2).trans rfl; clear hb6 hbk5) | (go_at_call 73; refine (C2.out HN.out gb _ HB7.out BK5.out false HB8.out).mono ?_; rintro e w9 ⟨rfl, hb10⟩; have HB11 := Aside0.mk (below_then HB7.out HB7.out.size hb10); clear hb10))
          go_ret
          exact ⟨rfl, HB11.out⟩
    · have h2a : decide ((l0_2.length : Int) ≤ 4) = false := by simpa using h2
      have h2b : decide (l0_2.length ≤ 4) = false := by simp; omega
      rw [h2a]
      clear h2
      go_enter Try.func50, Try.ntmps50
      go_wp2_with (first | ((with_reducible refine gate_dst (N := 1) rfl ?_); refine box_event ?hg (N := 1) ?hd (cs := #[.int .i64 a0_0, .slice A0_1 l0_1.length c0_1, .slice A0_2 l0_2.length c0_2, .slice A0_3 l0_3.length c0_3]) (t := 25) ?hr ?_; (case hd => rfl); (case hg => rfl); (case hr => first | (go_simp; done) | (go_simp; rfl)); intro gb hg w3 hbox hb; have HB3 := Aside0.mk (below_then HB.out HB.out.size hb); have BK := Aside0.mk hbox; have hcz0 : w3.cell? ⟨gb, 0, none⟩ = some (.int .i64 a0_0) := (blk_cell hbox 0).trans rfl; have hcz1 : w3.cell? ⟨gb, 1, none⟩ = some (.slice A0_1 l0_1.length c0_1) := (blk_cell hbox 1).trans rfl; have hcz2 : w3.cell? ⟨gb, 2, none⟩ = some (.slice A0_2 l0_2.length c0_2) := (blk_cell hbox 2).trans rfl; clear hb hbox hg) | (go_at_call 49; refine (task_between.calls _ _ _ true _ (by rw [betw_eq, HB1.out])).mono ?_; rintro e w' ⟨rfl, ⟨nd, rfl⟩⟩))
      go_ret
      exact ⟨rfl, pw_below_drewN HB3.out _⟩


/-! ### words_Name: function 75 -/
def words_Name.l0 : Nat → ByteArray → Int → Int → Option (Bool)
  | 0, _, _, _ => none
  | k + 1, x0, x7, x8 => if x8 < x7 then (if 0 ≤ x8 then (if x8 < (x0.size : Int) then (if (bt x0 x8) ≥ 48 then (if (bt x0 x8) ≤ 57 then (if (bt x0 x8) < 97 then (if x8 = 0 then (some false) else (words_Name.l0 k x0 x7 (wrap64 (x8 + 1)))) else (if (bt x0 x8) > 122 then (if x8 = 0 then (some false) else (words_Name.l0 k x0 x7 (wrap64 (x8 + 1)))) else (words_Name.l0 k x0 x7 (wrap64 (x8 + 1))))) else (if (bt x0 x8) < 97 then (if x8 = 0 then (some false) else (some false)) else (if (bt x0 x8) > 122 then (if x8 = 0 then (some false) else (some false)) else (words_Name.l0 k x0 x7 (wrap64 (x8 + 1)))))) else (if (bt x0 x8) < 97 then (if x8 = 0 then (some false) else (some false)) else (if (bt x0 x8) > 122 then (if x8 = 0 then (some false) else (some false)) else (words_Name.l0 k x0 x7 (wrap64 (x8 + 1)))))) else (none)) else (none)) else (if x0.toList = ([] : List UInt8) then (some false) else (some (decide ((x0.size : Int) ≤ 8))))
def words_Name.f (k : Nat) (a0 : ByteArray) : Option (Bool) := words_Name.l0 k a0 (a0.size : Int) 0
theorem words_Name.mono_l : ∀ k, (∀ y0 y1 y2, LeO (words_Name.l0 k y0 y1 y2) (words_Name.l0 (k + 1) y0 y1 y2))
  | 0 => fun _ _ _ r h => by simp [words_Name.l0] at h
  | k + 1 => by
    have ih0 := words_Name.mono_l k
    · intro y0 y1 y2
      unfold words_Name.l0
      repeat' first
      | (with_reducible exact ih0 _ _ _)
      | (with_reducible exact LeO.refl _)
      | (with_reducible exact LeO.none _)
      | (with_reducible refine LeO.ite ?_ ?_)
      | (with_reducible refine LeO.bind ?_ (fun _ => ?_))
      | exact ih0 _ _ _
      | exact LeO.none _
      | refine LeO.ite ?_ ?_
      | refine LeO.bind ?_ (fun _ => ?_)
theorem words_Name.mono : ∀ a0 k, LeO (words_Name.f k a0) (words_Name.f (k + 1) a0) := by
  intro a0 k
  have ih0 := words_Name.mono_l k
  unfold words_Name.f
  repeat' first
      | (with_reducible exact ih0 _ _ _)
      | (with_reducible exact LeO.refl _)
      | (with_reducible exact LeO.none _)
      | (with_reducible refine LeO.ite ?_ ?_)
      | (with_reducible refine LeO.bind ?_ (fun _ => ?_))
      | exact ih0 _ _ _
      | exact LeO.none _
      | refine LeO.ite ?_ ?_
      | refine LeO.bind ?_ (fun _ => ?_)
set_option maxHeartbeats 8000000 in
set_option maxRecDepth 100000 in
theorem words_Name.calls (k : Nat) (a0 : ByteArray) (r : Bool) (w : World) (h : words_Name.f k a0 = some r) :
    Calls Try.prog 75 #[.string a0] w fun e w' => e = .returned (.bool r) ∧ Drawn0 w w' := by
  have H : (words_Name.l0 k a0 (a0.size : Int) 0) = some r := h
  clear h
  have H' := Aside0.mk H
  clear H
  go_enter Try.func75, Try.ntmps75
  go_wp2
  go_loopg [8] k (fun kq v8 w' => ∃ (x8_1 : Int), v8 = .int .i64 x8_1 ∧ Aside0 (words_Name.l0 kq a0 (a0.size : Int) x8_1 = some r) ∧ Aside0 (kq ≤ k) ∧ Drawn0 w w')
  case atStart => exact ⟨(0), (by first | rfl | (simp; done) | (simp [*]; done)), H', ⟨Nat.le_refl _⟩, by repeat (first | exact Drawn0.refl _ | apply Drawn0.step)⟩
  case round =>
    clear H'
    obtain ⟨x8_1, rfl, HA, HK1, ⟨m1, rfl⟩⟩ := hrel
    cases gk with
    | zero => exact absurd HA.out (by simp [words_Name.l0])
    | succ k1 =>
      have H := HA.out
      clear HA
      simp only [words_Name.l0] at H
      by_cases c2 : x8_1 < (a0.size : Int)
      · rw [if_pos c2] at H
        have c2b0 : decide (x8_1 < (a0.size : Int)) = true := decide_eq_true c2
        clear c2
        by_cases c3 : 0 ≤ x8_1
        · rw [if_pos c3] at H
          have c3b0 : decide (0 ≤ x8_1) = true := decide_eq_true c3
          clear c3
          by_cases c4 : x8_1 < (a0.size : Int)
          · rw [if_pos c4] at H
            have c4b0 : decide (x8_1 < (a0.size : Int)) = true := decide_eq_true c4
            clear c4
            by_cases c6 : (bt a0 x8_1) ≥ 48
            · rw [if_pos c6] at H
              have c6b0 : decide (48 ≤ (bt a0 x8_1)) = true := decide_eq_true c6
              clear c6
              by_cases c7 : (bt a0 x8_1) ≤ 57
              · rw [if_pos c7] at H
                have c7b0 : decide ((bt a0 x8_1) ≤ 57) = true := decide_eq_true c7
                clear c7
                by_cases c8 : (bt a0 x8_1) < 97
                · rw [if_pos c8] at H
                  have c8b0 : decide ((bt a0 x8_1) < 97) = true := decide_eq_true c8
                  clear c8
                  by_cases c9 : x8_1 = 0
                  · rw [if_pos c9] at H
                    have c9b0 : (x8_1 == 0) = true := beq_iff_eq.mpr c9
                    have c9b1 : (x8_1 != 0) = false := bne_eq_false_iff_eq.mpr c9
                    clear c9
                    obtain rfl := Option.some.inj H
                    have p5 : 0 ≤ (x8_1 : Int) := of_decide_eq_true (by first | (with_reducible assumption) | assumption)
                    have q5 : x8_1 < (a0.size : Int) := of_decide_eq_true (by first | (with_reducible assumption) | assumption)
                    have hx5 := bt_at a0 x8_1
                    replace p5 := eq_true p5
                    replace q5 := eq_true q5
                    go_wp2
                    go_ret
                    exact ⟨by first | rfl | (simp; done) | (simp [*]; done), by repeat (first | exact Drawn0.refl _ | apply Drawn0.step)⟩
                  · rw [if_neg c9] at H
                    have c9b0 : (x8_1 == 0) = false := beq_eq_false_iff_ne.mpr c9
                    have c9b1 : (x8_1 != 0) = true := bne_iff_ne.mpr c9
                    have H' := Aside0.mk H
                    clear H
                    have p5 : 0 ≤ (x8_1 : Int) := of_decide_eq_true (by first | (with_reducible assumption) | assumption)
                    have q5 : x8_1 < (a0.size : Int) := of_decide_eq_true (by first | (with_reducible assumption) | assumption)
                    have hx5 := bt_at a0 x8_1
                    replace p5 := eq_true p5
                    replace q5 := eq_true q5
                    go_wp2
                    go_roundg k1
                    case measure => have := HK1.out; omega
                    case rel => exact ⟨(wrap64 (x8_1 + 1)), (by first | rfl | (simp; done) | (simp [*]; done)), H', ⟨by have := HK1.out; omega⟩, by repeat (first | exact Drawn0.refl _ | apply Drawn0.step)⟩
                · rw [if_neg c8] at H
                  have c8b0 : decide ((bt a0 x8_1) < 97) = false := decide_eq_false c8
                  clear c8
                  by_cases c10 : (bt a0 x8_1) > 122
                  · rw [if_pos c10] at H
                    have c10b0 : decide (122 < (bt a0 x8_1)) = true := decide_eq_true c10
                    clear c10
                    by_cases c11 : x8_1 = 0
                    · rw [if_pos c11] at H
                      have c11b0 : (x8_1 == 0) = true := beq_iff_eq.mpr c11
                      have c11b1 : (x8_1 != 0) = false := bne_eq_false_iff_eq.mpr c11
                      clear c11
                      obtain rfl := Option.some.inj H
                      have p5 : 0 ≤ (x8_1 : Int) := of_decide_eq_true (by first | (with_reducible assumption) | assumption)
                      have q5 : x8_1 < (a0.size : Int) := of_decide_eq_true (by first | (with_reducible assumption) | assumption)
                      have hx5 := bt_at a0 x8_1
                      replace p5 := eq_true p5
                      replace q5 := eq_true q5
                      go_wp2
                      go_ret
                      exact ⟨by first | rfl | (simp; done) | (simp [*]; done), by repeat (first | exact Drawn0.refl _ | apply Drawn0.step)⟩
                    · rw [if_neg c11] at H
                      have c11b0 : (x8_1 == 0) = false := beq_eq_false_iff_ne.mpr c11
                      have c11b1 : (x8_1 != 0) = true := bne_iff_ne.mpr c11
                      have H' := Aside0.mk H
                      clear H
                      have p5 : 0 ≤ (x8_1 : Int) := of_decide_eq_true (by first | (with_reducible assumption) | assumption)
                      have q5 : x8_1 < (a0.size : Int) := of_decide_eq_true (by first | (with_reducible assumption) | assumption)
                      have hx5 := bt_at a0 x8_1
                      replace p5 := eq_true p5
                      replace q5 := eq_true q5
                      go_wp2
                      go_roundg k1
                      case measure => have := HK1.out; omega
                      case rel => exact ⟨(wrap64 (x8_1 + 1)), (by first | rfl | (simp; done) | (simp [*]; done)), H', ⟨by have := HK1.out; omega⟩, by repeat (first | exact Drawn0.refl _ | apply Drawn0.step)⟩
                  · rw [if_neg c10] at H
                    have c10b0 : decide (122 < (bt a0 x8_1)) = false := decide_eq_false c10
                    clear c10
                    have H' := Aside0.mk H
                    clear H
                    have p5 : 0 ≤ (x8_1 : Int) := of_decide_eq_true (by first | (with_reducible assumption) | assumption)
                    have q5 : x8_1 < (a0.size : Int) := of_decide_eq_true (by first | (with_reducible assumption) | assumption)
                    have hx5 := bt_at a0 x8_1
                    replace p5 := eq_true p5
                    replace q5 := eq_true q5
                    go_wp2
                    go_roundg k1
                    case measure => have := HK1.out; omega
                    case rel => exact ⟨(wrap64 (x8_1 + 1)), (by first | rfl | (simp; done) | (simp [*]; done)), H', ⟨by have := HK1.out; omega⟩, by repeat (first | exact Drawn0.refl _ | apply Drawn0.step)⟩
              · rw [if_neg c7] at H
                have c7b0 : decide ((bt a0 x8_1) ≤ 57) = false := decide_eq_false c7
                clear c7
                by_cases c12 : (bt a0 x8_1) < 97
                · rw [if_pos c12] at H
                  have c12b0 : decide ((bt a0 x8_1) < 97) = true := decide_eq_true c12
                  clear c12
                  by_cases c13 : x8_1 = 0
                  · rw [if_pos c13] at H
                    have c13b0 : (x8_1 == 0) = true := beq_iff_eq.mpr c13
                    have c13b1 : (x8_1 != 0) = false := bne_eq_false_iff_eq.mpr c13
                    clear c13
                    obtain rfl := Option.some.inj H
                    have p5 : 0 ≤ (x8_1 : Int) := of_decide_eq_true (by first | (with_reducible assumption) | assumption)
                    have q5 : x8_1 < (a0.size : Int) := of_decide_eq_true (by first | (with_reducible assumption) | assumption)
                    have hx5 := bt_at a0 x8_1
                    replace p5 := eq_true p5
                    replace q5 := eq_true q5
                    go_wp2
                    go_ret
                    exact ⟨by first | rfl | (simp; done) | (simp [*]; done), by repeat (first | exact Drawn0.refl _ | apply Drawn0.step)⟩
                  · rw [if_neg c13] at H
                    have c13b0 : (x8_1 == 0) = false := beq_eq_false_iff_ne.mpr c13
                    have c13b1 : (x8_1 != 0) = true := bne_iff_ne.mpr c13
                    obtain rfl := Option.some.inj H
                    have p5 : 0 ≤ (x8_1 : Int) := of_decide_eq_true (by first | (with_reducible assumption) | assumption)
                    have q5 : x8_1 < (a0.size : Int) := of_decide_eq_true (by first | (with_reducible assumption) | assumption)
                    have hx5 := bt_at a0 x8_1
                    replace p5 := eq_true p5
                    replace q5 := eq_true q5
                    go_wp2
                    go_ret
                    exact ⟨by first | rfl | (simp; done) | (simp [*]; done), by repeat (first | exact Drawn0.refl _ | apply Drawn0.step)⟩
                · rw [if_neg c12] at H
                  have c12b0 : decide ((bt a0 x8_1) < 97) = false := decide_eq_false c12
                  clear c12
                  by_cases c14 : (bt a0 x8_1) > 122
                  · rw [if_pos c14] at H
                    have c14b0 : decide (122 < (bt a0 x8_1)) = true := decide_eq_true c14
                    clear c14
                    by_cases c15 : x8_1 = 0
                    · rw [if_pos c15] at H
                      have c15b0 : (x8_1 == 0) = true := beq_iff_eq.mpr c15
                      have c15b1 : (x8_1 != 0) = false := bne_eq_false_iff_eq.mpr c15
                      clear c15
                      obtain rfl := Option.some.inj H
                      have p5 : 0 ≤ (x8_1 : Int) := of_decide_eq_true (by first | (with_reducible assumption) | assumption)
                      have q5 : x8_1 < (a0.size : Int) := of_decide_eq_true (by first | (with_reducible assumption) | assumption)
                      have hx5 := bt_at a0 x8_1
                      replace p5 := eq_true p5
                      replace q5 := eq_true q5
                      go_wp2
                      go_ret
                      exact ⟨by first | rfl | (simp; done) | (simp [*]; done), by repeat (first | exact Drawn0.refl _ | apply Drawn0.step)⟩
                    · rw [if_neg c15] at H
                      have c15b0 : (x8_1 == 0) = false := beq_eq_false_iff_ne.mpr c15
                      have c15b1 : (x8_1 != 0) = true := bne_iff_ne.mpr c15
                      obtain rfl := Option.some.inj H
                      have p5 : 0 ≤ (x8_1 : Int) := of_decide_eq_true (by first | (with_reducible assumption) | assumption)
                      have q5 : x8_1 < (a0.size : Int) := of_decide_eq_true (by first | (with_reducible assumption) | assumption)
                      have hx5 := bt_at a0 x8_1
                      replace p5 := eq_true p5
                      replace q5 := eq_true q5
                      go_wp2
                      go_ret
                      exact ⟨by first | rfl | (simp; done) | (simp [*]; done), by repeat (first | exact Drawn0.refl _ | apply Drawn0.step)⟩
                  · rw [if_neg c14] at H
                    have c14b0 : decide (122 < (bt a0 x8_1)) = false := decide_eq_false c14
                    clear c14
                    have H' := Aside0.mk H
                    clear H
                    have p5 : 0 ≤ (x8_1 : Int) := of_decide_eq_true (by first | (with_reducible assumption) | assumption)
                    have q5 : x8_1 < (a0.size : Int) := of_decide_eq_true (by first | (with_reducible assumption) | assumption)
                    have hx5 := bt_at a0 x8_1
                    replace p5 := eq_true p5
                    replace q5 := eq_true q5
                    go_wp2
                    go_roundg k1
                    case measure => have := HK1.out; omega
                    case rel => exact ⟨(wrap64 (x8_1 + 1)), (by first | rfl | (simp; done) | (simp [*]; done)), H', ⟨by have := HK1.out; omega⟩, by repeat (first | exact Drawn0.refl _ | apply Drawn0.step)⟩
            · rw [if_neg c6] at H
              have c6b0 : decide (48 ≤ (bt a0 x8_1)) = false := decide_eq_false c6
              clear c6
              by_cases c16 : (bt a0 x8_1) < 97
              · rw [if_pos c16] at H
                have c16b0 : decide ((bt a0 x8_1) < 97) = true := decide_eq_true c16
                clear c16
                by_cases c17 : x8_1 = 0
                · rw [if_pos c17] at H
                  have c17b0 : (x8_1 == 0) = true := beq_iff_eq.mpr c17
                  have c17b1 : (x8_1 != 0) = false := bne_eq_false_iff_eq.mpr c17
                  clear c17
                  obtain rfl := Option.some.inj H
                  have p5 : 0 ≤ (x8_1 : Int) := of_decide_eq_true (by first | (with_reducible assumption) | assumption)
                  have q5 : x8_1 < (a0.size : Int) := of_decide_eq_true (by first | (with_reducible assumption) | assumption)
                  have hx5 := bt_at a0 x8_1
                  replace p5 := eq_true p5
                  replace q5 := eq_true q5
                  go_wp2
                  go_ret
                  exact ⟨by first | rfl | (simp; done) | (simp [*]; done), by repeat (first | exact Drawn0.refl _ | apply Drawn0.step)⟩
                · rw [if_neg c17] at H
                  have c17b0 : (x8_1 == 0) = false := beq_eq_false_iff_ne.mpr c17
                  have c17b1 : (x8_1 != 0) = true := bne_iff_ne.mpr c17
                  obtain rfl := Option.some.inj H
                  have p5 : 0 ≤ (x8_1 : Int) := of_decide_eq_true (by first | (with_reducible assumption) | assumption)
                  have q5 : x8_1 < (a0.size : Int) := of_decide_eq_true (by first | (with_reducible assumption) | assumption)
                  have hx5 := bt_at a0 x8_1
                  replace p5 := eq_true p5
                  replace q5 := eq_true q5
                  go_wp2
                  go_ret
                  exact ⟨by first | rfl | (simp; done) | (simp [*]; done), by repeat (first | exact Drawn0.refl _ | apply Drawn0.step)⟩
              · rw [if_neg c16] at H
                have c16b0 : decide ((bt a0 x8_1) < 97) = false := decide_eq_false c16
                clear c16
                by_cases c18 : (bt a0 x8_1) > 122
                · rw [if_pos c18] at H
                  have c18b0 : decide (122 < (bt a0 x8_1)) = true := decide_eq_true c18
                  clear c18
                  by_cases c19 : x8_1 = 0
                  · rw [if_pos c19] at H
                    have c19b0 : (x8_1 == 0) = true := beq_iff_eq.mpr c19
                    have c19b1 : (x8_1 != 0) = false := bne_eq_false_iff_eq.mpr c19
                    clear c19
                    obtain rfl := Option.some.inj H
                    have p5 : 0 ≤ (x8_1 : Int) := of_decide_eq_true (by first | (with_reducible assumption) | assumption)
                    have q5 : x8_1 < (a0.size : Int) := of_decide_eq_true (by first | (with_reducible assumption) | assumption)
                    have hx5 := bt_at a0 x8_1
                    replace p5 := eq_true p5
                    replace q5 := eq_true q5
                    go_wp2
                    go_ret
                    exact ⟨by first | rfl | (simp; done) | (simp [*]; done), by repeat (first | exact Drawn0.refl _ | apply Drawn0.step)⟩
                  · rw [if_neg c19] at H
                    have c19b0 : (x8_1 == 0) = false := beq_eq_false_iff_ne.mpr c19
                    have c19b1 : (x8_1 != 0) = true := bne_iff_ne.mpr c19
                    obtain rfl := Option.some.inj H
                    have p5 : 0 ≤ (x8_1 : Int) := of_decide_eq_true (by first | (with_reducible assumption) | assumption)
                    have q5 : x8_1 < (a0.size : Int) := of_decide_eq_true (by first | (with_reducible assumption) | assumption)
                    have hx5 := bt_at a0 x8_1
                    replace p5 := eq_true p5
                    replace q5 := eq_true q5
                    go_wp2
                    go_ret
                    exact ⟨by first | rfl | (simp; done) | (simp [*]; done), by repeat (first | exact Drawn0.refl _ | apply Drawn0.step)⟩
                · rw [if_neg c18] at H
                  have c18b0 : decide (122 < (bt a0 x8_1)) = false := decide_eq_false c18
                  clear c18
                  have H' := Aside0.mk H
                  clear H
                  have p5 : 0 ≤ (x8_1 : Int) := of_decide_eq_true (by first | (with_reducible assumption) | assumption)
                  have q5 : x8_1 < (a0.size : Int) := of_decide_eq_true (by first | (with_reducible assumption) | assumption)
                  have hx5 := bt_at a0 x8_1
                  replace p5 := eq_true p5
                  replace q5 := eq_true q5
                  go_wp2
                  go_roundg k1
                  case measure => have := HK1.out; omega
                  case rel => exact ⟨(wrap64 (x8_1 + 1)), (by first | rfl | (simp; done) | (simp [*]; done)), H', ⟨by have := HK1.out; omega⟩, by repeat (first | exact Drawn0.refl _ | apply Drawn0.step)⟩
          · rw [if_neg c4] at H
            exact absurd H (by simp)
        · rw [if_neg c3] at H
          exact absurd H (by simp)
      · rw [if_neg c2] at H
        have c2b0 : decide (x8_1 < (a0.size : Int)) = false := decide_eq_false c2
        clear c2
        by_cases c20 : a0.toList = ([] : List UInt8)
        · rw [if_pos c20] at H
          have c20b0 : (a0.toList == ([] : List UInt8)) = true := beq_iff_eq.mpr c20
          have c20b1 : (a0.toList != ([] : List UInt8)) = false := bne_eq_false_iff_eq.mpr c20
          clear c20
          obtain rfl := Option.some.inj H
          go_wp2
          go_ret
          exact ⟨by first | rfl | (simp; done) | (simp [*]; done), by repeat (first | exact Drawn0.refl _ | apply Drawn0.step)⟩
        · rw [if_neg c20] at H
          have c20b0 : (a0.toList == ([] : List UInt8)) = false := beq_eq_false_iff_ne.mpr c20
          have c20b1 : (a0.toList != ([] : List UInt8)) = true := bne_iff_ne.mpr c20
          obtain rfl := Option.some.inj H
          go_wp2
          go_ret
          exact ⟨by first | rfl | (simp; done) | (simp [*]; done), by repeat (first | exact Drawn0.refl _ | apply Drawn0.step)⟩

end Go.Proofs.Ytkohggddaheefaa.PDemandLocks
