/- swingbridgelaw16.WaitProtocols. -/
import Derived.Test.YtgndbkeiickihaaPair
import Derived.Test.YtgndbkeiickihaaIn1
set_option linter.unusedSimpArgs false
set_option linter.unusedVariables false
namespace Go.Proofs.YtgndbkeiickihaaEv
open Go
set_option maxHeartbeats 4000000
/-! ### the plain law -/
def psL (x : Int) : List Pt := [⟨1, 1, 0⟩, ⟨3, x, 0⟩]
theorem psL_g {x : Int} (hx : 1 ≤ x ∧ x ≤ 60) : PtsG (psL x) := ⟨by simp [psL], fun q hq => by simp [psL] at hq; rcases hq with rfl | rfl <;> simp <;> omega⟩
theorem psL_long {x : Int} (hx : 1 ≤ x ∧ x ≤ 60) : longest (psL x) = x := by simp [longest, psL, maxL, kLen]; omega
structure XY (p x y : Int) : Prop where
  p : 1 ≤ p ∧ p ≤ 3
  x : 1 ≤ x ∧ x ≤ 50
  y : 1 ≤ y ∧ y ≤ 50
def sXY (p x y : Int) : St := sPair p (psL x) (psL y)
theorem XY.gx {p x y} (h : XY p x y) : PtsG (psL x) := psL_g ⟨h.x.1, by have := h.x; omega⟩
theorem XY.gy {p x y} (h : XY p x y) : PtsG (psL y) := psL_g ⟨h.y.1, by have := h.y; omega⟩
theorem XY.good {p x y} (h : XY p x y) : Good (sXY p x y) := sPair_good h.p h.gx h.gy
theorem XY.there {p x y} (h : XY p x y) (n : Nat) (hn : n < 2) : thereS (sXY p x y) n = true := sPair_there h.p h.gx h.gy n hn
theorem XY.lock0 {p x y} (h : XY p x y) : lockS (sXY p x y) 0 1 = some ⟨3, x, 0⟩ := by
  have ht := h.there 0 (by omega)
  unfold lockS
  rw [if_pos ⟨ht, by omega⟩]
  simp [sXY, sPair, psL, eqz]
theorem XY.lock1 {p x y} (h : XY p x y) : lockS (sXY p x y) 1 1 = some ⟨3, y, 0⟩ := by
  have ht := h.there 1 (by omega)
  unfold lockS
  rw [if_pos ⟨ht, by omega⟩]
  simp [sXY, sPair, psL, eqz]
theorem XY.lx {p x y} (h : XY p x y) : longest (psL x) = x := psL_long ⟨h.x.1, by have := h.x; omega⟩
theorem XY.ly {p x y} (h : XY p x y) : longest (psL y) = y := psL_long ⟨h.y.1, by have := h.y; omega⟩
theorem xy_fair {x y : Int} (h : XY 1 x y) (bs : List Int) (hl : bs.length = 2) : partS (sXY 1 x y) bs 0 1 = some (x + y) ∧ partS (sXY 1 x y) bs 1 1 = some (y + x) := by
  have l1 := h.lx
  have l2 := h.ly
  unfold partS
  rw [if_pos (by simp [sXY, sPair, hl]), if_pos (by simp [sXY, sPair, eqz])]
  rw [if_pos (by simp [sXY, sPair, hl]), if_pos (by simp [sXY, sPair, eqz])]
  unfold fairS
  rw [h.lock0, h.lock1]
  simp [othSum, sXY, sPair, sumN, othF, eqz, longAt, l1, l2]
theorem xy_tok {x y : Int} (h : XY 3 x y) (bs : List Int) (hl : bs.length = 2) : partS (sXY 3 x y) bs 0 1 = some (x + max x y) ∧ partS (sXY 3 x y) bs 1 1 = some (y + max x y) := by
  have l1 := h.lx
  have l2 := h.ly
  have hx := h.x
  have hy := h.y
  have ho := (okS_iff _).2 h.good
  have t0 := h.there 0 (by omega)
  have t1 := h.there 1 (by omega)
  have hi : ∀ n, insS (sXY 3 x y) n = 0 := fun n => by
    unfold insS coresS
    rw [if_pos ho]
    have hm : ∀ k : Nat, (min (0 : Int) k).toNat = 0 := fun k => by omega
    simp [sXY, sPair, sumL, sumTop, topS, hm]
  have hr : roundsS (sXY 3 x y) 0 = 1 := by
    unfold roundsS askersS asks
    rw [ho]
    simp [sXY, sPair, coreAt, sumL, eqz, ceilS, l1, l2]
    rw [if_pos (by omega), if_pos (by omega)]
    decide
  have hs : stayS (sXY 3 x y) 0 = max x y := by
    unfold stayS
    show maxN (outF (sXY 3 x y) 0) 2 = _
    have e0 : outF (sXY 3 x y) 0 0 = x := by
      unfold outF
      have a1 : clusterAt (sXY 3 x y) 0 = 0 := by simp [clusterAt, sXY, sPair]
      have a2 : longAt (sXY 3 x y) 0 = x := by simp [longAt, sXY, sPair, l1]
      rw [a1, a2, hi, if_pos ⟨rfl, by omega⟩]; omega
    have e1 : outF (sXY 3 x y) 0 1 = y := by
      unfold outF
      have a1 : clusterAt (sXY 3 x y) 1 = 0 := by simp [clusterAt, sXY, sPair]
      have a2 : longAt (sXY 3 x y) 1 = y := by simp [longAt, sXY, sPair, l2]
      rw [a1, a2, hi, if_pos ⟨rfl, by omega⟩]; omega
    simp only [maxN, e0, e1]
    omega
  have ou : ∀ n : Nat, n < 2 → outS (sXY 3 x y) n = max x y := by
    intro n hn
    unfold outS
    rw [if_pos (h.there n hn)]
    have hc : clusterAt (sXY 3 x y) (n : Int).toNat = 0 := by
      rcases n with _ | _ | n
      · simp [clusterAt, sXY, sPair]
      · simp [clusterAt, sXY, sPair]
      · omega
    have hlo : ¬ (eqz (longAt (sXY 3 x y) (n : Int).toNat) 0 = true) := by
      rcases n with _ | _ | n
      · simp [longAt, sXY, sPair, l1, eqz]; omega
      · simp [longAt, sXY, sPair, l2, eqz]; omega
      · omega
    rw [if_neg hlo, hc, hr, hs]; omega
  have o0 := ou 0 (by omega)
  have o1 := ou 1 (by omega)
  have c1 : (((1 : Nat) : Int)) = 1 := rfl
  have c0 : (((0 : Nat) : Int)) = 0 := rfl
  rw [c0] at o0
  rw [c1] at o1
  unfold partS
  rw [if_pos (by simp [sXY, sPair, hl]), if_neg (by simp [sXY, sPair, eqz]), if_neg (by simp [sXY, sPair, eqz])]
  rw [if_pos (by simp [sXY, sPair, hl]), if_neg (by simp [sXY, sPair, eqz]), if_neg (by simp [sXY, sPair, eqz])]
  unfold tokS tokIn
  rw [h.lock0, h.lock1]
  simp [hi, o0, o1]
def fW (x y w : Int) : Int := y + x * ((w + 90 + 99) / 100)
theorem fW_b {x y w : Int} {p : Int} (h : XY p x y) (hw : 1 ≤ w ∧ w ≤ 3000) : y + x ≤ fW x y w ∧ fW x y w ≤ 2000 ∧ 0 ≤ (w + 90 + 99) / 100 ∧ (w + 90 + 99) / 100 ≤ 31 := by
  have hx := h.x
  have hy := h.y
  unfold fW
  have h1 : 1 ≤ (w + 90 + 99) / 100 := by omega
  have h2 : (w + 90 + 99) / 100 ≤ 31 := by omega
  have h3 : x * 1 ≤ x * ((w + 90 + 99) / 100) := Int.mul_le_mul_of_nonneg_left h1 (by omega)
  have h4 : x * ((w + 90 + 99) / 100) ≤ 50 * 31 := Int.mul_le_mul (by omega) h2 (by omega) (by omega)
  omega
theorem fW_mono {x y u v : Int} {p : Int} (h : XY p x y) (huv : u ≤ v) : fW x y u ≤ fW x y v := by
  have hx := h.x
  unfold fW
  have h1 : (u + 90 + 99) / 100 ≤ (v + 90 + 99) / 100 := Int.ediv_le_ediv (by omega) (by omega)
  have h2 := Int.mul_le_mul_of_nonneg_left h1 (show 0 ≤ x by omega)
  omega
theorem xy_ag0 {x y : Int} (h : XY 2 x y) (b0 b1 : Int) : partS (sXY 2 x y) [b0, b1] 0 1 = some (x + y) := by
  have hx := h.x
  have hy := h.y
  have t0 := h.there 0 (by omega)
  have t1 := h.there 1 (by omega)
  have c1 : (((1 : Nat) : Int)) = 1 := rfl
  have c0 : (((0 : Nat) : Int)) = 0 := rfl
  rw [c0] at t0
  rw [c1] at t1
  have hh : homeOf (sXY 2 x y) ⟨3, x, 0⟩ = 0 := by simp [homeOf, sXY, sPair]
  have hm : mostS (sXY 2 x y) 1 0 = y := by
    unfold mostS homedS; rw [if_pos t1]; simp [homedL, sXY, sPair, psL, lockAt, homeOf, eqz, maxL]; omega
  have hlo : lowerS (sXY 2 x y) 0 0 = y := by
    unfold lowerS
    rw [if_pos t0]
    show maxN (lowF (sXY 2 x y) 0 0) 2 = _
    have e0 : lowF (sXY 2 x y) 0 0 0 = 0 := by simp [lowF]
    have e1 : lowF (sXY 2 x y) 0 0 1 = y := by
      unfold lowF
      rw [if_pos (by simp [prioAt, sXY, sPair]), c1, hm]
    simp only [maxN, e0, e1]
    omega
  have hhi : ∀ w, higherS (sXY 2 x y) [b0, b1] 0 0 w = 0 := fun w => by
    unfold higherS
    rw [if_pos ⟨t0, by simp [sXY, sPair]⟩]
    show min (sumN (hiF (sXY 2 x y) [b0, b1] 0 0 w) 2) 1000000 = 0
    simp [sumN, hiF, prioAt, sXY, sPair]
    omega
  unfold partS
  rw [if_pos (by simp [sXY, sPair]), if_neg (by simp [sXY, sPair, eqz]), if_pos (by simp [sXY, sPair, eqz])]
  unfold agentS
  rw [if_pos (by simp [sXY, sPair]), h.lock0]
  have hle : leastS (sXY 2 x y) 0 ⟨3, x, 0⟩ = x + y := by unfold leastS; rw [hh, hlo]
  simp only [Option.bind_some, hle, hh, hhi]
  exact lfp_lo (by omega) (by omega)
theorem xy_ag1 {x y : Int} (h : XY 2 x y) : partS (sXY 2 x y) [90, 190] 1 1 = lfp (fun w => y + min (workS w 90 100 x) 1000000) y 3000 := by
  have hx := h.x
  have hy := h.y
  have t0 := h.there 0 (by omega)
  have t1 := h.there 1 (by omega)
  have c1 : (((1 : Nat) : Int)) = 1 := rfl
  have c0 : (((0 : Nat) : Int)) = 0 := rfl
  rw [c0] at t0
  rw [c1] at t1
  have hh : homeOf (sXY 2 x y) ⟨3, y, 0⟩ = 0 := by simp [homeOf, sXY, sPair]
  have hat : atS (sXY 2 x y) 0 0 = x := by
    unfold atS homedS; rw [if_pos t0]; simp [homedL, sXY, sPair, psL, lockAt, homeOf, eqz, sumL]
  have hlo : lowerS (sXY 2 x y) 1 0 = 0 := by
    unfold lowerS
    rw [if_pos t1]
    show maxN (lowF (sXY 2 x y) 1 0) 2 = _
    simp [maxN, lowF, prioAt, sXY, sPair]
  have hhi : ∀ w, higherS (sXY 2 x y) [90, 190] 1 0 w = min (workS w 90 100 x) 1000000 := fun w => by
    unfold higherS
    rw [if_pos ⟨t1, by simp [sXY, sPair]⟩]
    show min (sumN (hiF (sXY 2 x y) [90, 190] 1 0 w) 2) 1000000 = _
    have e0 : hiF (sXY 2 x y) [90, 190] 1 0 w 0 = workS w 90 100 x := by
      unfold hiF
      rw [if_pos (by simp [prioAt, sXY, sPair]), c0, hat]
      simp [bAt, perAt, sXY, sPair]
    have e1 : hiF (sXY 2 x y) [90, 190] 1 0 w 1 = 0 := by simp [hiF]
    simp only [sumN, e0, e1]
    rw [Int.zero_add, Int.add_zero]
  unfold partS
  rw [if_pos (by simp [sXY, sPair]), if_neg (by simp [sXY, sPair, eqz]), if_pos (by simp [sXY, sPair, eqz])]
  unfold agentS
  rw [if_pos (by simp [sXY, sPair]), h.lock1]
  have hle : leastS (sXY 2 x y) 1 ⟨3, y, 0⟩ = y := by unfold leastS; rw [hh, hlo]; simp
  simp only [Option.bind_some, hle, hh, hhi]
theorem work_fW {x y w : Int} {p : Int} (h : XY p x y) (hw : 1 ≤ w ∧ w ≤ 3000) : y + min (workS w 90 100 x) 1000000 = fW x y w := by
  have hx := h.x
  have hb := fW_b h hw
  unfold fW at hb ⊢
  unfold workS jobsS ceilS
  rw [if_neg (by omega)]
  have e : (w + 90 + 100 - 1) / 100 = (w + 90 + 99) / 100 := by congr 1; omega
  rw [e]
  have h5 : min ((w + 90 + 99) / 100) 1000000 = (w + 90 + 99) / 100 := by omega
  have h6 : max x 0 = x := by omega
  rw [h5, h6, Int.mul_comm]
  have hy := h.y
  omega
/-- What the loop comes to. -/
structure Wt (x y w : Int) : Prop where
  lo : y + x ≤ w
  hi : w ≤ 2000 ∨ w = y + x
  up : w ≤ fW x y w
  all : ∀ v, y ≤ v → v ≤ 3000 → fW x y v = v → w ≤ v
theorem Wt.start {x y : Int} {p : Int} (h : XY p x y) : Wt x y (y + x) := by
  have hx := h.x
  have hy := h.y
  exact ⟨Int.le_refl _, .inr rfl, (fW_b h ⟨by omega, by omega⟩).1, fun v h1 h2 h3 => by have := (fW_b h (w := v) ⟨by omega, by omega⟩).1; omega⟩
theorem Wt.next {x y w : Int} {p : Int} (h : XY p x y) (hw : Wt x y w) (h3 : w ≤ 3000) : Wt x y (fW x y w) := by
  have hx := h.x
  have hy := h.y
  have hl := hw.lo
  have hb := fW_b h (w := w) ⟨by omega, h3⟩
  exact ⟨hb.1, .inl hb.2.1, fW_mono h hw.up, fun v h1 h2 h4 => by have := fW_mono h (hw.all v h1 h2 h4); omega⟩
theorem Wt.done {x y w : Int} (h : XY 2 x y) (hw : Wt x y w) (h3 : w ≤ 3000) (he : fW x y w = w) : partS (sXY 2 x y) [90, 190] 1 1 = some w := by
  have hx := h.x
  have hy := h.y
  have hl := hw.lo
  rw [xy_ag1 h]
  refine lfp_some.2 ⟨by omega, h3, ?_, fun v h1 h2 h4 => ?_⟩
  · rw [work_fW h ⟨by omega, h3⟩, he]
  · rw [work_fW h ⟨by omega, by omega⟩] at h4
    have := hw.all v h1 (by omega) h4
    omega
/-! ### the walk -/
theorem one_keep6 (p : Int) (l : List Pt) : pureOf (callL tab0 ext0) true 43 [vi p, slP l] = some (.agg [vi p, .sl [vi 1] 1 1, .sl [vi 0] 1 1, .sl [vs ⟨#[97]⟩, vi 100, vi 100, vi 1, vi 0, slP l] 1 1]) := by
  rw [pureOf_b, callL_tab _ _ rfl tab43 rfl]
  simp [C43, push_cast, -Int.not_lt, -Int.not_le, ↓evI_call, ↓evI_calli, ↓evI_callv, ↓evI_mxn, slP, frzK]
theorem two_is6 (p a b c d : Int) : pureOf (callL tab0 ext0) false 28 [vi p, vi a, vi b, vi c, vi d] = some (.agg [vi p, .sl [vi 1] 1 0, .sl [vi 0] 1 0, .sl [vs ⟨#[97]⟩, vi 100, vi 100, vi 1, vi 0, .sl [vi 1, vi a, vi 0, vi 3, vi b, vi 0] 2 0, vs ⟨#[98]⟩, vi 200, vi 200, vi 2, vi 0, .sl [vi 1, vi c, vi 0, vi 3, vi d, vi 0] 2 0] 2 0]) := by
  rw [pureOf_b, callL_tab _ _ rfl tab28 rfl]
  have h := one_keep6 p [⟨1, a, 0⟩, ⟨3, b, 0⟩]
  have e : slP [⟨1, a, 0⟩, ⟨3, b, 0⟩] = .sl [vi 1, vi a, vi 0, vi 3, vi b, vi 0] 2 0 := rfl
  rw [e] at h
  simp [C28, push_cast, -Int.not_lt, -Int.not_le, ↓evI_call, ↓evI_calli, ↓evI_callv, ↓evI_mxn, h, frzK, asList]
theorem xmod {n : Int} (q : Int) (h1 : 0 ≤ n) (hk : 1 ≤ q) (hk2 : q ≤ 70000) : ∃ m, n.tmod q = m ∧ 0 ≤ m ∧ m < q ∧ IntKind.wrap .i64 m = m ∧ IntKind.wrap .i64 (m + 1) = m + 1 := by
  have e := Int.tmod_eq_emod_of_nonneg (b := q) h1
  have m1 := Int.emod_nonneg n (show q ≠ 0 by omega)
  have m2 := Int.emod_lt_of_pos n (show 0 < q by omega)
  exact ⟨_, e, m1, m2, wrap_in _ (by omega) (by omega), wrap_in _ (by omega) (by omega)⟩
def EXP {α : Type} (Q : α → Prop) (r : Option α) : Prop := ∃ zz, r = some zz ∧ Q zz
def WQ (x y m n : Int) (ok is : Bool) (zz : Out × Env × Bx) : Prop := ∃ e' w', zz = (.ex 0, e', [St.c (sXY 2 x y)]) ∧ Wt x y w' ∧ (w' ≤ 3000 → fW x y w' = w') ∧ e' 7 = vi x ∧ e' 8 = vi y ∧ e' 12 = vi m ∧ e' 13 = vb ok ∧ e' 14 = vi n ∧ e' 15 = vb is ∧ e' 16 = vi w'
theorem wp_loop {x y : Int} (h : XY 2 x y) (m n : Int) (ok is : Bool) : ∀ (d : Nat) (w : Int) (e : Env), (3001 - w).toNat ≤ d → Wt x y w → e 7 = vi x → e 8 = vi y → e 12 = vi m → e 13 = vb ok → e 14 = vi n → e 15 = vb is → e 16 = vi w →
    EXP (WQ x y m n ok is) (evL tab0 ext0 0 L9_0 (e, [St.c (sXY 2 x y)])) := by
  intro d
  induction d with
  | zero =>
    intro w e hd hw h7 h8 h12 h13 h14 h15 h16
    have hc : ¬ w ≤ 3000 := by omega
    rw [go9_0]
    simp [B9_0, push_cast, -Int.not_lt, -Int.not_le, ↓evI_call, ↓evI_calli, ↓evI_callv, ↓evI_mxn, loopIn, loopIn0, keepL, emp, A.dang, A.dangC, St.c, slI, slT, h7, h8, h12, h13, h14, h15, h16, hc]
    exact ⟨_, rfl, _, w, rfl, hw, fun h => absurd h hc, by simp [put_at], by simp [put_at], by simp [put_at], by simp [put_at], by simp [put_at], by simp [put_at], by simp [put_at]⟩
  | succ d ih =>
    intro w e hd hw h7 h8 h12 h13 h14 h15 h16
    have hx := h.x
    have hy := h.y
    have hlo := hw.lo
    by_cases hc : w ≤ 3000
    · have hb := fW_b h (w := w) ⟨by omega, hc⟩
      have w1 : IntKind.wrap .i64 (w + 90) = w + 90 := wrap_in _ (by omega) (by omega)
      have w2 : IntKind.wrap .i64 (w + 90 + 99) = w + 90 + 99 := wrap_in _ (by omega) (by omega)
      have w3 : IntKind.wrap .i64 ((w + 90 + 99).tdiv 100) = (w + 90 + 99) / 100 := by rw [Int.tdiv_eq_ediv_of_nonneg (by omega)]; exact wrap_in _ (by omega) (by omega)
      have hn := hw.next h hc
      have hup := hw.up
      have hf : fW x y w = y + x * ((w + 90 + 99) / 100) := rfl
      have ih1 := ih (fW x y w)
      rw [hf] at hb hn hup ih1
      have hfin : eqz (y + x * ((w + 90 + 99) / 100)) w = true → fW x y w = w := fun he => by rw [hf]; simpa [eqz] using he
      generalize (w + 90 + 99) / 100 = c at *
      have w5 : IntKind.wrap .i64 (x * c) = x * c := wrap_in _ (by omega) (by omega)
      have w6 : IntKind.wrap .i64 (y + x * c) = y + x * c := wrap_in _ (by omega) (by omega)
      rw [go9_0]
      rcases (Bool.eq_false_or_eq_true (eqz (y + x * c) w)).symm with he | he
      · have hne : ¬ y + x * c = w := by simpa [eqz] using he
        simp [B9_0, push_cast, -Int.not_lt, -Int.not_le, ↓evI_call, ↓evI_calli, ↓evI_callv, ↓evI_mxn, loopIn, loopIn0, keepL, emp, A.dang, A.dangC, St.c, slI, slT, h7, h8, h12, h13, h14, h15, h16, hc, w1, w2, w3, w5, w6, he]
        apply ih1
        all_goals first | omega | exact hn | (simp [put_at]; done)
      · simp [B9_0, push_cast, -Int.not_lt, -Int.not_le, ↓evI_call, ↓evI_calli, ↓evI_callv, ↓evI_mxn, loopIn, loopIn0, keepL, emp, A.dang, A.dangC, St.c, slI, slT, h7, h8, h12, h13, h14, h15, h16, hc, w1, w2, w3, w5, w6, he]
        exact ⟨_, rfl, _, w, rfl, hw, fun _ => hfin he, by simp [put_at], by simp [put_at], by simp [put_at], by simp [put_at], by simp [put_at], by simp [put_at], by simp [put_at]⟩
    · rw [go9_0]
      simp [B9_0, push_cast, -Int.not_lt, -Int.not_le, ↓evI_call, ↓evI_calli, ↓evI_callv, ↓evI_mxn, loopIn, loopIn0, keepL, emp, A.dang, A.dangC, St.c, slI, slT, h7, h8, h12, h13, h14, h15, h16, hc]
      exact ⟨_, rfl, _, w, rfl, hw, fun h => absurd h hc, by simp [put_at], by simp [put_at], by simp [put_at], by simp [put_at], by simp [put_at], by simp [put_at], by simp [put_at]⟩
theorem waitProtocols_is (a b p : Int) (k0 : (Lit.int .u8 a).wf = true) (k1 : (Lit.int .u8 b).wf = true) (k2 : (Lit.int .u8 p).wf = true) : Ans (vb true) [] (callL tab0 ext0 9 [vu8 a, vu8 b, vu8 p] []) := by
  rw [callL_tab _ _ rfl tab9 rfl]
  have h1 := pure_vb (k := false) known_24
  obtain ⟨x, x1, x2, x3, x4, x5⟩ := xmod 50 (u8_of k0).1 (by omega) (by omega)
  obtain ⟨y, y1, y2, y3, y4, y5⟩ := xmod 50 (u8_of k1).1 (by omega) (by omega)
  obtain ⟨q, q1, q2, q3, q4, q5⟩ := xmod 3 (u8_of k2).1 (by omega) (by omega)
  have h2 := two_is6 (q + 1) 1 (x + 1) 1 (y + 1)
  have hb2 : ∀ z ∈ [(90 : Int), 190], I64' z := by intro z hz; simp at hz; rcases hz with rfl | rfl <;> exact ⟨by omega, by omega⟩
  have s1 : St.c (sXY (q + 1) (x + 1) (y + 1)) = [vi (q + 1), .sl [vi 1] 1 0, .sl [vi 0] 1 0, .sl [vs ⟨#[97]⟩, vi 100, vi 100, vi 1, vi 0, .sl [vi 1, vi 1, vi 0, vi 3, vi (x + 1), vi 0] 2 0, vs ⟨#[98]⟩, vi 200, vi 200, vi 2, vi 0, .sl [vi 1, vi 1, vi 0, vi 3, vi (y + 1), vi 0] 2 0] 2 0] := rfl
  have s4 : slI [(90 : Int), 190] = .sl [vi 90, vi 190] 2 0 := rfl
  have w1 : IntKind.wrap .i64 (x + 1 + (y + 1)) = x + 1 + (y + 1) := wrap_in _ (by omega) (by omega)
  have w2 : IntKind.wrap .i64 (y + 1 + (x + 1)) = y + 1 + (x + 1) := wrap_in _ (by omega) (by omega)
  have hsm : Sm (sXY (q + 1) (x + 1) (y + 1)) := sPair_sm (psL_g ⟨by omega, by omega⟩) (psL_g ⟨by omega, by omega⟩)
  have h3 := pure_ansO (k := false) (part_is' (sXY (q + 1) (x + 1) (y + 1)) hsm [90, 190] hb2 0 1)
  have h4 := pure_ansO (k := false) (part_is' (sXY (q + 1) (x + 1) (y + 1)) hsm [90, 190] hb2 1 1)
  rw [s1, s4] at h3 h4
  rcases (by omega : q = 0 ∨ q = 1 ∨ q = 2) with hq | hq | hq
  · have hX : XY 1 (x + 1) (y + 1) := ⟨by omega, by omega, by omega⟩
    obtain ⟨f0, f1⟩ := xy_fair hX [90, 190] rfl
    have e1 : sXY (q + 1) (x + 1) (y + 1) = sXY 1 (x + 1) (y + 1) := by rw [hq]; rfl
    rw [e1] at h3 h4
    rw [f0] at h3
    rw [f1] at h4
    have c3 : eqz (q + 1) 3 = false := by simp [eqz]; omega
    have c1 : eqz (q + 1) 1 = true := by simp [eqz]; omega
    simp only [Option.getD_some, Option.isSome_some] at h3 h4
    have w3 : eqz (y + 1 + (x + 1)) (x + 1 + (y + 1)) = true := by simp [eqz]; omega
    simp [C9, push_cast, -Int.not_lt, -Int.not_le, ↓evI_call, ↓evI_calli, ↓evI_callv, ↓evI_mxn, h1, x1, x4, x5, y1, y4, y5, q1, q4, q5, h2, h3, h4, c1, c3, w1, w2, w3, eqz_self]
    exact ⟨_, rfl⟩
  · have hX : XY 2 (x + 1) (y + 1) := ⟨by omega, by omega, by omega⟩
    have e1 : sXY (q + 1) (x + 1) (y + 1) = sXY 2 (x + 1) (y + 1) := by rw [hq]; rfl
    have f0 := xy_ag0 hX 90 190
    have hst := Wt.start hX
    have hlp := fun (n : Int) (is : Bool) e => wp_loop hX (x + 1 + (y + 1)) n true is 3001 (y + 1 + (x + 1)) e (by omega) hst
    have c3 : eqz (q + 1) 3 = false := by simp [eqz]; omega
    have c1 : eqz (q + 1) 1 = false := by simp [eqz]; omega
    have s2 : St.c (sXY 2 (x + 1) (y + 1)) = [vi (q + 1), .sl [vi 1] 1 0, .sl [vi 0] 1 0, .sl [vs ⟨#[97]⟩, vi 100, vi 100, vi 1, vi 0, .sl [vi 1, vi 1, vi 0, vi 3, vi (x + 1), vi 0] 2 0, vs ⟨#[98]⟩, vi 200, vi 200, vi 2, vi 0, .sl [vi 1, vi 1, vi 0, vi 3, vi (y + 1), vi 0] 2 0] 2 0] := by rw [← s1, e1]
    rw [e1, f0] at h3
    rw [e1] at h4
    simp only [Option.getD_some, Option.isSome_some] at h3
    have hdone := fun w (hw : Wt (x + 1) (y + 1) w) => hw.done hX
    have hnone : ∀ w, Wt (x + 1) (y + 1) w → 3000 < w → partS (sXY 2 (x + 1) (y + 1)) [90, 190] 1 1 = none := by
      intro w hw h3
      rw [xy_ag1 hX, lfp_none]
      intro v v1 v2 v3
      rw [work_fW hX ⟨by omega, v2⟩] at v3
      have := hw.all v v1 v2 v3
      omega
    generalize partS (sXY 2 (x + 1) (y + 1)) [90, 190] 1 1 = R at *
    simp only [s2] at hlp
    simp [C9, push_cast, -Int.not_lt, -Int.not_le, ↓evI_call, ↓evI_calli, ↓evI_callv, ↓evI_mxn, h1, x1, x4, x5, y1, y4, y5, q1, q4, q5, h2, h3, h4, c1, c3, w1, w2, eqz_self]
    refine behindP (P := fun r => Ans _ [] r) (hlp (R.getD 0) R.isSome _ (by simp [put_at]) (by simp [put_at]) (by simp [put_at]) (by simp [put_at]) (by simp [put_at]) (by simp [put_at]) (by simp [put_at])) ?_
    rintro _ ⟨e', w', rfl, hw, hfx, k7, k8, k12, k13, k14, k15, k16⟩
    by_cases hc : w' ≤ 3000
    · have hR := hdone w' hw hc (hfx hc)
      subst hR
      simp only [Option.getD_some, Option.isSome_some] at k14 k15
      simp [push_cast, -Int.not_lt, -Int.not_le, ↓evI_call, ↓evI_calli, ↓evI_callv, ↓evI_mxn, k7, k8, k12, k13, k14, k15, k16, hc, w1, eqz_self]
      exact ⟨_, rfl⟩
    · have hR := hnone w' hw (by omega)
      subst hR
      simp only [Option.getD_none, Option.isSome_none] at k14 k15
      simp [push_cast, -Int.not_lt, -Int.not_le, ↓evI_call, ↓evI_calli, ↓evI_callv, ↓evI_mxn, k7, k8, k12, k13, k14, k15, k16, hc, w1, eqz_self]
      exact ⟨_, rfl⟩
  · have hX : XY 3 (x + 1) (y + 1) := ⟨by omega, by omega, by omega⟩
    obtain ⟨f0, f1⟩ := xy_tok hX [90, 190] rfl
    have e1 : sXY (q + 1) (x + 1) (y + 1) = sXY 3 (x + 1) (y + 1) := by rw [hq]; rfl
    rw [e1] at h3 h4
    rw [f0] at h3
    rw [f1] at h4
    have c3 : eqz (q + 1) 3 = true := by simp [eqz]; omega
    have hfm : ∀ u v : Int, foldM true u [vi v] = some (max u v) := fun u v => by show some (if v > u then v else u) = _; rw [max_if]
    have w3 : IntKind.wrap .i64 (x + 1 + max (x + 1) (y + 1)) = x + 1 + max (x + 1) (y + 1) := wrap_in _ (by omega) (by omega)
    have w4 : IntKind.wrap .i64 (y + 1 + max (x + 1) (y + 1)) = y + 1 + max (x + 1) (y + 1) := wrap_in _ (by omega) (by omega)
    have hfm1 := hfm (x + 1) (y + 1)
    clear hfm
    generalize max (x + 1) (y + 1) = M at *
    simp only [Option.getD_some, Option.isSome_some] at h3 h4
    simp [C9, push_cast, -Int.not_lt, -Int.not_le, ↓evI_call, ↓evI_calli, ↓evI_callv, ↓evI_mxn, h1, x1, x4, x5, y1, y4, y5, q1, q4, q5, h2, h3, h4, c3, hfm1, w3, w4, eqz_self]
    exact ⟨_, rfl⟩
end Go.Proofs.YtgndbkeiickihaaEv
