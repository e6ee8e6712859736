/- swingbridgelaw18.AdmitTwo. -/
import Derived.Test.YtclebnamhpgdmaaExpl
import Derived.Test.YtclebnamhpgdmaaAdmit
import Derived.Test.YtclebnamhpgdmaaIn1
import Derived.Test.YtclebnamhpgdmaaExt2
set_option linter.unusedSimpArgs false
set_option linter.unusedVariables false
namespace Go.Proofs.YtclebnamhpgdmaaEv
open Go
set_option maxHeartbeats 4000000
/-! ### the plain law -/
def sTwo (x y q : Int) : St := ⟨1, [1], [], [⟨⟨#[97]⟩, q, q, 1, 0, [⟨1, x, 0⟩]⟩, ⟨⟨#[98]⟩, 400, 400, 2, 0, [⟨1, y, 0⟩]⟩]⟩
structure Two2 (x y q : Int) : Prop where
  x : 1 ≤ x ∧ x ≤ 40
  y : 1 ≤ y ∧ y ≤ 40
  q : 41 ≤ q ∧ q ≤ 140
theorem sTwo_good {x y q : Int} (h : Two2 x y q) : Good (sTwo x y q) := by
  have hx := h.x
  have hy := h.y
  have hq := h.q
  refine ⟨by simp [sTwo], by simp [sTwo], by simp [sTwo], by simp [sTwo], by simp [sTwo], by simp [sTwo], fun t ht => ?_, fun i j hi hj hij => ?_⟩
  · simp only [sTwo, List.mem_cons, List.not_mem_nil, or_false] at ht
    rcases ht with rfl | rfl
    · refine ⟨rfl, by show 1 ≤ q ∧ q ≤ 3000; omega, by show 1 ≤ q ∧ q ≤ q; omega, by simp, by simp [sTwo], by simp, fun p hp => ?_⟩
      simp only [List.mem_cons, List.not_mem_nil, or_false] at hp
      subst hp
      exact ⟨by simp, by show 1 ≤ x ∧ x ≤ 60; omega, by simp, by simp⟩
    · refine ⟨rfl, by simp, by simp, by simp, by simp [sTwo], by simp, fun p hp => ?_⟩
      simp only [List.mem_cons, List.not_mem_nil, or_false] at hp
      subst hp
      exact ⟨by simp, by show 1 ≤ y ∧ y ≤ 60; omega, by simp, by simp⟩
  · have hi : i < 2 := hi
    have hj : j < 2 := hj
    obtain rfl : i = 0 := by omega
    obtain rfl : j = 1 := by omega
    unfold twice
    simp [sTwo]
theorem sTwo_sm (x y q : Int) : Sm (sTwo x y q) := ⟨by simp [sTwo], by simp [sTwo], by simp [sTwo], by simp [sTwo], by simp [sTwo]; decide⟩
def fT (x y q r : Int) : Int := y + x * ((r + x + q - 1) / q)
theorem fT_b {x y q r : Int} (h : Two2 x y q) (hr : 1 ≤ r ∧ r ≤ 400) : r ≤ 400 ∧ y + x ≤ fT x y q r ∧ fT x y q r ≤ 4000 ∧ 0 ≤ (r + x + q - 1) / q ∧ (r + x + q - 1) / q ≤ 15 := by
  have hx := h.x
  have hy := h.y
  have hq := h.q
  unfold fT
  have h1 : 1 ≤ (r + x + q - 1) / q := Int.le_ediv_of_mul_le (by omega) (by omega)
  have h2 : (r + x + q - 1) / q < 15 := Int.ediv_lt_of_lt_mul (by omega) (by omega)
  have h3 : x * 1 ≤ x * ((r + x + q - 1) / q) := Int.mul_le_mul_of_nonneg_left h1 (by omega)
  have h4 : x * ((r + x + q - 1) / q) ≤ 40 * 15 := Int.mul_le_mul (by omega) (by omega) (by omega) (by omega)
  omega
theorem sTwo_next0 {x y q : Int} (h : Two2 x y q) (r : Int) (hr : 1 ≤ r) : nextS (sTwo x y q) [x, r] 0 = some x := by
  have g := sTwo_good h
  have hx := h.x
  have ht : thereS (sTwo x y q) (0 : Nat) = true := (thereS_iff _ _).2 ⟨g, by simp, by simp [sTwo]⟩
  have hw : waitsS (sTwo x y q) [x, r] (0 : Nat) = some [0] := by
    refine waits_of _ ht (by simp [ptsAt, sTwo]) fun i hi => ?_
    rcases i with _ | i
    · exact waitF_no (by simp [kindAt, sTwo])
    · simp at hi
  have h2 := next_of (n := 0) (by simp [sTwo]) hw
  rw [Int.natCast_zero] at h2
  rw [h2]
  have he : eachS (sTwo x y q) 0 1 = 0 := by unfold eachS; simp [sTwo, clAt, ptsAt, prioAt, eqz, allK, sumL, kLen]
  have hc : corAt (sTwo x y q) 0 = 1 := by simp [corAt, sTwo, clAt]
  have ho : ∀ w, othersS (sTwo x y q) [x, r] 0 w = 0 := fun w => by
    unfold othersS
    split
    · rw [Int.toNat_zero, hc]
      show sumN (othW (sTwo x y q) [x, r] 0 w) 2 / 1 = _
      simp [sumN, othW, eqz, he, work_nil]
    · rfl
  rw [ho]
  simp [ptsAt, sTwo, allK, sumL, kLen]
theorem sTwo_next1 {x y q : Int} (h : Two2 x y q) (r : Int) (hr : 1 ≤ r ∧ r ≤ 400) : nextS (sTwo x y q) [x, r] 1 = some (fT x y q r) := by
  have g := sTwo_good h
  have hx := h.x
  have hy := h.y
  have hq := h.q
  have hfb := fT_b h hr
  have ht : thereS (sTwo x y q) (1 : Nat) = true := (thereS_iff _ _).2 ⟨g, by simp, by simp [sTwo]⟩
  have hw : waitsS (sTwo x y q) [x, r] (1 : Nat) = some [0] := by
    refine waits_of _ ht (by simp [ptsAt, sTwo]) fun i hi => ?_
    rcases i with _ | i
    · exact waitF_no (by simp [kindAt, sTwo])
    · simp at hi
  have h2 := next_of (n := 1) (by simp [sTwo]) hw
  have e1 : (((1 : Nat) : Int)) = 1 := rfl
  rw [e1] at h2 ht
  rw [h2]
  have he : eachS (sTwo x y q) 1 0 = x := by unfold eachS; simp [sTwo, clAt, ptsAt, prioAt, eqz, allK, sumL, kLen]
  have hc : corAt (sTwo x y q) 1 = 1 := by simp [corAt, sTwo, clAt]
  have hpq : perAt (sTwo x y q) 0 = q := by simp [perAt, sTwo]
  have hwk : workS r x q x = x * ((r + x + q - 1) / q) := by
    unfold workS jobsS ceilS
    rw [if_neg (by omega)]
    have h5 : min ((r + x + q - 1) / q) 1000000 = (r + x + q - 1) / q := by omega
    have h6 : max x 0 = x := by omega
    rw [h5, h6, Int.mul_comm]
    unfold fT at hfb
    omega
  have ho : othersS (sTwo x y q) [x, r] 1 r = x * ((r + x + q - 1) / q) := by
    unfold othersS
    rw [if_pos ⟨ht, by simp [sTwo], by simp [negL]; omega⟩]
    have : (1 : Int).toNat = 1 := rfl
    rw [this, hc]
    show sumN (othW (sTwo x y q) [x, r] 1 r) 2 / 1 = _
    simp [sumN, othW, eqz, he, hpq, bAt, hwk]
  have hb : bAt [x, r] 1 = r := by simp [bAt]
  rw [hb, ho]
  unfold fT
  simp [ptsAt, sTwo, allK, sumL, kLen]
theorem sTwo_round {x y q : Int} (h : Two2 x y q) (r : Int) (hr : 1 ≤ r ∧ r ≤ 400) : roundS (sTwo x y q) [x, r] = if 400 < fT x y q r then none else some [x, fT x y q r] := by
  have h0 := sTwo_next0 h r hr.1
  have h1 := sTwo_next1 h r hr
  have hx := h.x
  have hq := h.q
  have b0 : rBad (sTwo x y q) [x, r] 0 = false := by
    unfold rBad
    rw [Int.natCast_zero, h0]
    simp [dlAt, sTwo]; omega
  have b1 : rBad (sTwo x y q) [x, r] 1 = decide (400 < fT x y q r) := by
    unfold rBad
    have e1 : (((1 : Nat) : Int)) = 1 := rfl
    rw [e1, h1]
    simp [dlAt, sTwo]
  unfold roundS
  show (if (fstP (rBad (sTwo x y q) [x, r]) 0 2).isNone = true then _ else _) = _
  simp only [fstP, b0, b1]
  by_cases hc : 400 < fT x y q r
  · simp [hc]
  · simp [hc]
    show rL (sTwo x y q) [x, r] 2 = _
    unfold rL rNext
    simp [List.range_succ, h0, h1]
def lpT (x y q : Int) : Nat → Int → Int
  | 0, r => r
  | k + 1, r => if r ≤ 400 then (if eqz (fT x y q r) r = true then r else lpT x y q k (fT x y q r)) else r
theorem lpT_big {x y q : Int} : ∀ (m : Nat) {r : Int}, 400 < r → lpT x y q m r = r
  | 0, r, h => rfl
  | m + 1, r, h => by unfold lpT; rw [if_neg (by omega)]
theorem two_law {x y q : Int} (h : Two2 x y q) : ∀ (k m : Nat) (r : Int), k ≤ m → 1 ≤ r ∧ r ≤ 400 → (400 < lpT x y q m r → (itS (sTwo x y q) k [x, r]).2 ≠ 0) ∧
    (lpT x y q m r ≤ 400 → (itS (sTwo x y q) k [x, r]).2 = 20 ∨ itS (sTwo x y q) k [x, r] = ([x, lpT x y q m r], 0))
  | 0, m, r, _, _ => ⟨fun _ => by simp [itS], fun _ => .inl rfl⟩
  | k + 1, 0, r, hk, _ => by omega
  | k + 1, m + 1, r, hk, hr => by
    have hfb := fT_b h hr
    have hx := h.x
    have hy := h.y
    unfold itS lpT
    rw [sTwo_round h r hr, if_pos hr.2]
    by_cases hc : 400 < fT x y q r
    · rw [if_pos hc]
      have hne : eqz (fT x y q r) r = false := by simp [eqz]; omega
      rw [if_neg (by simp [hne]), lpT_big m hc]
      exact ⟨fun _ => by simp, fun h2 => by omega⟩
    · rw [if_neg hc]
      by_cases he : fT x y q r = r
      · have he2 : eqz (fT x y q r) r = true := by simp [eqz, he]
        simp only [he2, if_true]
        rw [he]
        simp only [if_true]
        exact ⟨fun h2 => by omega, fun _ => .inr trivial⟩
      · have he2 : eqz (fT x y q r) r = false := by simp [eqz, he]
        have he3 : ¬ ([x, fT x y q r] = [x, r]) := by simp [he]
        simp only [he2, Bool.false_eq_true, if_false, if_neg he3]
        exact two_law h k m (fT x y q r) (by omega) ⟨by omega, by omega⟩
theorem sTwo_start {x y q : Int} : stL (sTwo x y q) 2 = [x, y] := by
  unfold stL stF
  simp [List.range_succ, ptsAt, sTwo, allK, sumL, kLen]
theorem two_an {x y q : Int} (h : Two2 x y q) (m : Nat) (hm : 200 ≤ m) : (400 < lpT x y q m y → eqz (anS (sTwo x y q)).2 0 = false ∧ (anS (sTwo x y q)).1.ok = false) ∧
    (lpT x y q m y ≤ 400 → eqz (anS (sTwo x y q)).2 20 = true ∨ ((anS (sTwo x y q)).2 = 0 ∧ (anS (sTwo x y q)).1.bounds = [x, lpT x y q m y])) := by
  have g := sTwo_good h
  have ho := (okS_iff _).2 g
  have hy := h.y
  have hl := two_law h 200 m y hm ⟨hy.1, by omega⟩
  have e : leastB (sTwo x y q) = itS (sTwo x y q) 200 [x, y] := by
    unfold leastB
    show itS _ 200 (stL _ 2) = _
    rw [sTwo_start]
  unfold anS
  rw [if_pos ho, e]
  clear e
  generalize itS (sTwo x y q) 200 [x, y] = w at *
  refine ⟨fun h2 => ?_, fun h2 => ?_⟩
  · have h3 := hl.1 h2
    have h4 : eqz w.2 0 = false := by simp [eqz, h3]
    rw [if_neg (by simp [h4])]
    exact ⟨h4, rfl⟩
  · rcases hl.2 h2 with h3 | h3
    · rw [if_neg (by simp [eqz, h3])]
      exact .inl (by simp [eqz, h3])
    · rw [h3]
      right
      rw [if_pos (by simp [eqz])]
      exact ⟨rfl, rfl⟩
/-! ### the walk -/
def EXT {α : Type} (Q : α → Prop) (r : Option α) : Prop := ∃ zz, r = some zz ∧ Q zz
def sTc (x y q : Int) (g : Nat) : List A := [vi 1, .sl [vi 1] 1 g, .sl [] 0 g, .sl [vs ⟨#[97]⟩, vi q, vi q, vi 1, vi 0, .sl [vi 1, vi x, vi 0] 1 0, vs ⟨#[98]⟩, vi 400, vi 400, vi 2, vi 0, .sl [vi 1, vi y, vi 0] 1 0] 2 g]
theorem adt_own (x y q : Int) (v : Vd) (e : Env) : evL tab0 ext2 0 L11_0 (e, [sTc x y q 1, Vd.c v]) = evL tab0 ext2 0 L11_0 (e, [sTc x y q 2, Vd.c v]) := by
  rw [go11_0, go11_0]
  congr 1
theorem adt_loop {x y q : Int} (h : Two2 x y q) (v : Vd) (z : Int) : ∀ (d i : Nat) (r : Int) (e : Env), i + d = 1000 → 1 ≤ r ∧ r ≤ 4000 → e 7 = vi x → e 8 = vi y → e 9 = vi q → e 11 = .ptr 1 0 → e 12 = vi z → e 13 = vi r → e 14 = vi i →
    EXT (fun zz => ∃ e', zz = (.ex 0, e', [sTc x y q 2, Vd.c v]) ∧ e' 7 = vi x ∧ e' 11 = .ptr 1 0 ∧ e' 12 = vi z ∧ e' 13 = vi (lpT x y q d r)) (evL tab0 ext2 0 L11_0 (e, [sTc x y q 2, Vd.c v])) := by
  intro d
  induction d with
  | zero =>
    intro i r e hi hr h7 h8 h9 h11 h12 h13 h14
    obtain rfl : i = 1000 := by omega
    rw [go11_0]
    simp [B11_0, push_cast, -Int.not_lt, -Int.not_le, ↓evI_call, ↓evI_calli, ↓evI_callv, ↓evI_mxn, loopIn, loopIn0, keepL, emp, A.dang, A.dangC, sTc, slI, Vd.c, slW, h7, h8, h9, h11, h12, h13, h14]
    exact ⟨_, rfl, _, rfl, by simp [put_at], by simp [put_at], by simp [put_at], by simp [put_at, lpT]⟩
  | succ d ih =>
    intro i r e hi hr h7 h8 h9 h11 h12 h13 h14
    have hi2 : (i : Int) < 1000 := by omega
    have hw : IntKind.wrap .i64 ((i : Int) + 1) = (i : Int) + 1 := wrap_in _ (by omega) (by omega)
    have hx := h.x
    have hy := h.y
    have hq := h.q
    by_cases hc : r ≤ 400
    · have hfb := fT_b h ⟨hr.1, hc⟩
      have w1 : IntKind.wrap .i64 (r + x) = r + x := wrap_in _ (by omega) (by omega)
      have w2 : IntKind.wrap .i64 (r + x + q) = r + x + q := wrap_in _ (by omega) (by omega)
      have w3 : IntKind.wrap .i64 (r + x + q - 1) = r + x + q - 1 := wrap_in _ (by omega) (by omega)
      have w4 : IntKind.wrap .i64 ((r + x + q - 1).tdiv q) = (r + x + q - 1) / q := by rw [Int.tdiv_eq_ediv_of_nonneg (by omega)]; exact wrap_in _ (by omega) (by omega)
      have hq0 : ¬ q = 0 := by omega
      have hf : fT x y q r = y + x * ((r + x + q - 1) / q) := rfl
      have hlp : lpT x y q (d + 1) r = if eqz (fT x y q r) r = true then r else lpT x y q d (fT x y q r) := by rw [lpT, if_pos hc]
      have ih1 := ih (i + 1) (fT x y q r)
      rw [hlp]
      rw [hf] at hfb hlp ih1 ⊢
      generalize (r + x + q - 1) / q = c at *
      have w5 : IntKind.wrap .i64 (x * c) = x * c := wrap_in _ (by omega) (by omega)
      have w6 : IntKind.wrap .i64 (y + x * c) = y + x * c := wrap_in _ (by omega) (by omega)
      rw [go11_0]
      rcases (Bool.eq_false_or_eq_true (eqz (y + x * c) r)).symm with he | he
      · rw [if_neg (by simp [he])]
        simp [B11_0, push_cast, -Int.not_lt, -Int.not_le, ↓evI_call, ↓evI_calli, ↓evI_callv, ↓evI_mxn, loopIn, loopIn0, keepL, emp, A.dang, A.dangC, sTc, slI, Vd.c, slW, h7, h8, h9, h11, h12, h13, h14, hi2, hc, hw, w1, w2, w3, w4, w5, w6, hq0, he]
        apply ih1
        all_goals first | omega | (simp [put_at]; done)
      · rw [if_pos he]
        simp [B11_0, push_cast, -Int.not_lt, -Int.not_le, ↓evI_call, ↓evI_calli, ↓evI_callv, ↓evI_mxn, loopIn, loopIn0, keepL, emp, A.dang, A.dangC, sTc, slI, Vd.c, slW, h7, h8, h9, h11, h12, h13, h14, hi2, hc, hw, w1, w2, w3, w4, w5, w6, hq0, he]
        exact ⟨_, rfl, _, rfl, by simp [put_at], by simp [put_at], by simp [put_at], by simp [put_at]⟩
    · have hlp : lpT x y q (d + 1) r = r := lpT_big _ (by omega)
      rw [hlp, go11_0]
      simp [B11_0, push_cast, -Int.not_lt, -Int.not_le, ↓evI_call, ↓evI_calli, ↓evI_callv, ↓evI_mxn, loopIn, loopIn0, keepL, emp, A.dang, A.dangC, sTc, slI, Vd.c, slW, h7, h8, h9, h11, h12, h13, h14, hi2, hc]
      exact ⟨_, rfl, _, rfl, by simp [put_at], by simp [put_at], by simp [put_at], by simp [put_at]⟩
theorem vmod {n : Int} (q : Int) (h1 : 0 ≤ n) (hk : 1 ≤ q) (hk2 : q ≤ 70000) : ∃ m, n.tmod q = m ∧ 0 ≤ m ∧ m < q ∧ IntKind.wrap .i64 m = m ∧ IntKind.wrap .i64 (m + 1) = m + 1 ∧ IntKind.wrap .i64 (m + 41) = m + 41 := by
  have e := Int.tmod_eq_emod_of_nonneg (b := q) h1
  have m1 := Int.emod_nonneg n (show q ≠ 0 by omega)
  have m2 := Int.emod_lt_of_pos n (show 0 < q by omega)
  exact ⟨_, e, m1, m2, wrap_in _ (by omega) (by omega), wrap_in _ (by omega) (by omega), wrap_in _ (by omega) (by omega)⟩
theorem admitTwo_is (a b p : Int) (k0 : (Lit.int .u8 a).wf = true) (k1 : (Lit.int .u8 b).wf = true) (k2 : (Lit.int .u8 p).wf = true) : Ans (vb true) [] (callL tab0 ext2 11 [vu8 a, vu8 b, vu8 p] []) := by
  rw [callL_tab _ _ rfl tab11 rfl]
  have h1 := pure_vb (k := false) known_21
  obtain ⟨x, x1, x2, x3, x4, x5, _⟩ := vmod 40 (u8_of k0).1 (by omega) (by omega)
  obtain ⟨y, y1, y2, y3, y4, y5, _⟩ := vmod 40 (u8_of k1).1 (by omega) (by omega)
  obtain ⟨q, q1, q2, q3, q4, _, q5⟩ := vmod 100 (u8_of k2).1 (by omega) (by omega)
  have hT : Two2 (x + 1) (y + 1) (q + 41) := ⟨by omega, by omega, by omega⟩
  have h3 := pure2 (analyze_is (sTwo (x + 1) (y + 1) (q + 41)) (sTwo_sm ..))
  have hlaw := two_an hT 1000 (by omega)
  have hlp0 := fun e => adt_loop hT (anS (sTwo (x + 1) (y + 1) (q + 41))).1 (anS (sTwo (x + 1) (y + 1) (q + 41))).2 1000 0 (y + 1) e (by omega) (by omega)
  have hown := adt_own (x + 1) (y + 1) (q + 41) (anS (sTwo (x + 1) (y + 1) (q + 41))).1
  simp only [← hown] at hlp0
  have hlp := hlp0
  clear hlp0 hown
  generalize lpT (x + 1) (y + 1) (q + 41) 1000 (y + 1) = R at *
  generalize (anS (sTwo (x + 1) (y + 1) (q + 41))).1 = v at *
  generalize (anS (sTwo (x + 1) (y + 1) (q + 41))).2 = z at *
  have s1 : St.c (sTwo (x + 1) (y + 1) (q + 41)) = [vi 1, .sl [vi 1] 1 0, .sl [] 0 0, .sl [vs ⟨#[97]⟩, vi (q + 41), vi (q + 41), vi 1, vi 0, .sl [vi 1, vi (x + 1), vi 0] 1 0, vs ⟨#[98]⟩, vi 400, vi 400, vi 2, vi 0, .sl [vi 1, vi (y + 1), vi 0] 1 0] 2 0] := rfl
  rw [s1] at h3
  simp only [Vd.c, slW, slI, sTc] at h3 hlp
  by_cases hR : 400 < R
  · obtain ⟨g1, g2⟩ := hlaw.1 hR
    simp [C11, push_cast, -Int.not_lt, -Int.not_le, ↓evI_call, ↓evI_calli, ↓evI_callv, ↓evI_mxn, h1, x1, x4, x5, y1, y4, y5, q1, q4, q5, h3, asList]
    refine behindP (P := fun r => Ans _ [] r) (hlp _ (by simp [put_at]) (by simp [put_at]) (by simp [put_at]) (by simp [put_at]) (by simp [put_at]) (by simp [put_at]) (by simp [put_at])) ?_
    rintro _ ⟨e', rfl, k7, k11, k12, k13⟩
    simp [push_cast, -Int.not_lt, -Int.not_le, ↓evI_call, ↓evI_calli, ↓evI_callv, ↓evI_mxn, k7, k11, k12, k13, hR, g1, g2, slI]
    exact ⟨_, rfl⟩
  · rcases hlaw.2 (by omega) with g1 | ⟨g1, g2⟩
    · simp [C11, push_cast, -Int.not_lt, -Int.not_le, ↓evI_call, ↓evI_calli, ↓evI_callv, ↓evI_mxn, h1, x1, x4, x5, y1, y4, y5, q1, q4, q5, h3, asList]
      refine behindP (P := fun r => Ans _ [] r) (hlp _ (by simp [put_at]) (by simp [put_at]) (by simp [put_at]) (by simp [put_at]) (by simp [put_at]) (by simp [put_at]) (by simp [put_at])) ?_
      rintro _ ⟨e', rfl, k7, k11, k12, k13⟩
      simp [push_cast, -Int.not_lt, -Int.not_le, ↓evI_call, ↓evI_calli, ↓evI_callv, ↓evI_mxn, k7, k11, k12, k13, hR, g1, slI]
      exact ⟨_, rfl⟩
    · subst g1
      have e20 : eqz 0 20 = false := rfl
      have e2 : eqz 2 2 = true := rfl
      have s5 : (A.sl (v.bounds.map vi) v.bounds.length 0) = .sl [vi (x + 1), vi R] 2 0 := by rw [g2]; rfl
      rw [s5] at h3 hlp
      simp [C11, push_cast, -Int.not_lt, -Int.not_le, ↓evI_call, ↓evI_calli, ↓evI_callv, ↓evI_mxn, h1, x1, x4, x5, y1, y4, y5, q1, q4, q5, h3, asList]
      refine behindP (P := fun r => Ans _ [] r) (hlp _ (by simp [put_at]) (by simp [put_at]) (by simp [put_at]) (by simp [put_at]) (by simp [put_at]) (by simp [put_at]) (by simp [put_at])) ?_
      rintro _ ⟨e', rfl, k7, k11, k12, k13⟩
      simp [push_cast, -Int.not_lt, -Int.not_le, ↓evI_call, ↓evI_calli, ↓evI_callv, ↓evI_mxn, k7, k11, k12, k13, hR, e20, e2, eqz_self]
      exact ⟨_, rfl⟩
end Go.Proofs.YtclebnamhpgdmaaEv
