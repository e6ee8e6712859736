/- swingbridgelaw17.BoundHigher: its own set is written to; it is run in two orders. -/
import Derived.Test.YtclebnamhpgdmaaBound
import Derived.Test.YtclebnamhpgdmaaIn1
import Derived.Test.YtclebnamhpgdmaaVarH
import Derived.Test.YtclebnamhpgdmaaTwoH
set_option linter.unusedSimpArgs false
set_option linter.unusedVariables false
namespace Go.Proofs.YtclebnamhpgdmaaEv
open Go
set_option maxHeartbeats 4000000
/-! ### the plain law -/
def sHi (p c x y q0 q1 : Int) : St := ⟨p, [c], [0], [⟨⟨#[97]⟩, 100, 100, q0, 0, [⟨1, 1, 0⟩, ⟨3, 1, 0⟩]⟩, ⟨⟨#[98]⟩, 200, 200, q1, 0, [⟨1, x, 0⟩, ⟨3, y, 0⟩]⟩]⟩
structure Hi (p c x y q0 q1 : Int) : Prop where
  p : 1 ≤ p ∧ p ≤ 3
  c : 1 ≤ c ∧ c ≤ 3
  x : 1 ≤ x ∧ x ≤ 50
  y : 1 ≤ y ∧ y ≤ 50
  q : (q0 = 1 ∧ q1 = 2) ∨ (q0 = 2 ∧ q1 = 1)
theorem Hi.good {p c x y q0 q1} (h : Hi p c x y q0 q1) : Good (sHi p c x y q0 q1) := by
  have hp := h.p; have hc := h.c; have hx := h.x; have hy := h.y; have hq := h.q
  have gp : ∀ {k l : Int}, 1 ≤ k ∧ k ≤ 3 → 1 ≤ l ∧ l ≤ 60 → GoodP (sHi p c x y q0 q1) ⟨k, l, 0⟩ := fun h1 h2 => ⟨h1, h2, fun _ => by simp [sHi], fun _ => rfl⟩
  refine ⟨hp, by simp [sHi], by simp [sHi]; omega, by simp [sHi], by simp [sHi], by simp [sHi], fun t ht => ?_, fun i j hi hj hij => ?_⟩
  · simp only [sHi, List.mem_cons, List.not_mem_nil, or_false] at ht
    rcases ht with rfl | rfl
    · refine ⟨rfl, by simp, by simp, by show 1 ≤ q0 ∧ q0 ≤ 1000; omega, by simp [sHi], by simp, fun q hq => ?_⟩
      simp only [List.mem_cons, List.not_mem_nil, or_false] at hq
      rcases hq with rfl | rfl <;> exact gp (by omega) (by omega)
    · refine ⟨rfl, by simp, by simp, by show 1 ≤ q1 ∧ q1 ≤ 1000; omega, by simp [sHi], by simp, fun q hq => ?_⟩
      simp only [List.mem_cons, List.not_mem_nil, or_false] at hq
      rcases hq with rfl | rfl <;> exact gp (by omega) (by omega)
  · have hi : i < 2 := hi
    have hj : j < 2 := hj
    obtain rfl : i = 0 := by omega
    obtain rfl : j = 1 := by omega
    unfold twice
    rcases hq with ⟨rfl, rfl⟩ | ⟨rfl, rfl⟩ <;> simp [sHi]
theorem sHi_sm (p c x y q0 q1 : Int) : Sm (sHi p c x y q0 q1) := by
  refine ⟨by simp [sHi], by simp [sHi], by simp [sHi], fun t ht => ?_, fun t ht => ?_⟩
  · simp only [sHi, List.mem_cons, List.not_mem_nil, or_false] at ht
    rcases ht with rfl | rfl <;> simp
  · simp only [sHi, List.mem_cons, List.not_mem_nil, or_false] at ht
    rcases ht with rfl | rfl
    · show ByteArray.size ⟨#[97]⟩ ≤ 20; decide
    · show ByteArray.size ⟨#[98]⟩ ≤ 20; decide
theorem Hi.there {p c x y q0 q1} (h : Hi p c x y q0 q1) (n : Nat) (hn : n < 2) : thereS (sHi p c x y q0 q1) n = true := (thereS_iff _ _).2 ⟨h.good, by omega, by show (n : Int) < ((2 : Nat) : Int); omega⟩
theorem Hi.each {p c x y q0 q1} (h : Hi p c x y q0 q1) : eachS (sHi p c x y q0 q1) 0 1 = if q0 = 2 then x + y else y := by
  have hx := h.x; have hy := h.y; have hq := h.q
  have t1 := h.there 1 (by omega)
  have c1 : (((1 : Nat) : Int)) = 1 := rfl
  rw [c1] at t1
  have hat : atS (sHi p c x y q0 q1) 1 0 = y := by
    unfold atS homedS
    rw [if_pos t1]
    simp [homedL, sHi, lockAt, homeOf, eqz, sumL]
  have e1 : clAt (sHi p c x y q0 q1) 0 = 0 := by simp [clAt, sHi]
  have e2 : clAt (sHi p c x y q0 q1) 1 = 0 := by simp [clAt, sHi]
  have e3 : prioAt (sHi p c x y q0 q1) 0 = q0 := by simp [prioAt, sHi]
  have e4 : prioAt (sHi p c x y q0 q1) 1 = q1 := by simp [prioAt, sHi]
  have e5 : allK (ptsAt (sHi p c x y q0 q1) 1) 1 = x := by simp [ptsAt, sHi, allK, sumL, kLen]
  have e6 : allK (ptsAt (sHi p c x y q0 q1) 1) 3 = y := by simp [ptsAt, sHi, allK, sumL, kLen]
  unfold eachS
  rw [e1, e2, e3, e4, e5, e6, c1, hat]
  rcases hq with ⟨rfl, rfl⟩ | ⟨rfl, rfl⟩ <;> simp [eqz]
theorem Hi.others {p c x y q0 q1} (h : Hi p c x y q0 q1) {w : Int} (hw : 1 ≤ w ∧ w ≤ 2000) : othersS (sHi p c x y q0 q1) [50, 70] 0 w = ((w + 70 + 199) / 200) * (if q0 = 2 then x + y else y) / c := by
  have hx := h.x; have hy := h.y; have hq := h.q
  have t0 := h.there 0 (by omega)
  have c0 : (((0 : Nat) : Int)) = 0 := rfl
  rw [c0] at t0
  have hc : corAt (sHi p c x y q0 q1) 0 = c := by simp [corAt, sHi, clAt]
  have he := h.each
  have hb : 1 ≤ (if q0 = 2 then x + y else y) ∧ (if q0 = 2 then x + y else y) ≤ 100 := by split <;> omega
  generalize (if q0 = 2 then x + y else y) = z at *
  have hj : 1 ≤ (w + 70 + 199) / 200 := Int.le_ediv_of_mul_le (by omega) (by omega)
  have hj2 : (w + 70 + 199) / 200 < 13 := Int.ediv_lt_of_lt_mul (by omega) (by omega)
  have hm : (w + 70 + 199) / 200 * z ≤ 13 * 100 := Int.mul_le_mul (by omega) (by omega) (by omega) (by omega)
  have hwk : workS w 70 200 z = (w + 70 + 199) / 200 * z := by
    unfold workS jobsS ceilS
    rw [if_neg (by omega)]
    have e : (w + 70 + 200 - 1) / 200 = (w + 70 + 199) / 200 := by congr 1; omega
    rw [e]
    have h5 : min ((w + 70 + 199) / 200) 1000000 = (w + 70 + 199) / 200 := by omega
    have h6 : max z 0 = z := by omega
    rw [h5, h6]
    omega
  unfold othersS
  rw [if_pos ⟨t0, by simp [sHi], by simp [negL]⟩]
  rw [Int.toNat_zero, hc]
  show sumN (othW (sHi p c x y q0 q1) [50, 70] 0 w) 2 / c = _
  have o0 : othW (sHi p c x y q0 q1) [50, 70] 0 w 0 = 0 := by simp [othW, eqz]
  have o1 : othW (sHi p c x y q0 q1) [50, 70] 0 w 1 = (w + 70 + 199) / 200 * z := by
    unfold othW
    rw [if_neg (by simp [eqz]), he]
    have b1 : bAt [50, 70] 1 = 70 := by simp [bAt]
    have p1 : perAt (sHi p c x y q0 q1) 1 = 200 := by simp [perAt, sHi]
    rw [b1, p1, hwk]
  simp only [sumN, o0, o1]
  rw [Int.zero_add, Int.zero_add]
theorem Hi.others0 {p c x y q0 q1} (h : Hi p c x y q0 q1) : othersS (sHi p c x y q0 q1) [50, 70] 0 0 = 0 := by
  unfold othersS
  split
  · rw [Int.toNat_zero]
    show sumN (othW (sHi p c x y q0 q1) [50, 70] 0 0) 2 / _ = 0
    have hm : min (0 : Int) 1000000 = 0 := by omega
    simp [sumN, othW, eqz, workS, jobsS, hm]
  · rfl
theorem others_neg (s : St) (w : Int) : othersS s [50, -1] 0 w = 0 := by
  unfold othersS
  rw [if_neg (by rintro ⟨_, _, h⟩; simp [negL] at h)]
theorem others_short (p c x y q0 q1 w : Int) : othersS (sHi p c x y q0 q1) [50] 0 w = 0 := by
  unfold othersS
  rw [if_neg (by rintro ⟨_, h, _⟩; simp [sHi] at h)]
/-! ### the walk -/
def tabH : Nat → Option CFun := fun f => match f with
  | 20 => some C20h
  | _ => none
noncomputable def extH : CallF := fun f args bx => match f with
  | 20 => none
  | _ => callL tab0 ext1 f args bx
theorem tabH_ok : TabOk Try.prog tabH := by
  intro f F h
  unfold tabH at h
  split at h
  · cases h; exact row20h
  · cases h
theorem extH_sound : SoundF Try.prog extH := by
  intro f xs bx r bx' h
  unfold extH at h
  split at h
  · cases h
  · exact callL_sound tab_ok ext1_sound _ _ _ _ _ h
theorem upH {f args bx r} (hf : f ≠ 20) (h : callL tab0 ext1 f args bx = some r) : callL tabH extH f args bx = some r := by
  have e : extH f args bx = some r := by
    unfold extH
    split
    · exact absurd rfl hf
    · exact h
  unfold callL callOf
  rw [e]
theorem pureH {k f args v} (hf : f ≠ 20) (h : pureOf (callL tab0 ext1) k f args = some v) : pureOf (callL tabH extH) k f args = some v := by
  unfold pureOf at h ⊢
  cases hc : callL tab0 ext1 f args [] with
  | none => simp [hc] at h
  | some q =>
    rw [hc] at h
    rw [upH hf hc]
    exact h
noncomputable def ext3 : CallF := fun f args bx => match f with
  | 5 => two (evL tabH extH) C5a C5b args bx
  | _ => ext1 f args bx
theorem ext3_sound : SoundF Try.prog ext3 := by
  intro f xs bx r bx' h
  unfold ext3 at h
  split at h
  · exact two_sound tabH_ok extH_sound row2_5 h
  · exact ext1_sound _ _ _ _ _ h
theorem one_keepH (p : Int) (l : List Pt) : pureOf (callL tabH extH) true 19 [vi p, slP l] = some (.agg [vi p, .sl [vi 1] 1 1, .sl [vi 0] 1 1, .sl [vs ⟨#[97]⟩, vi 100, vi 100, vi 1, vi 0, slP l] 1 1]) := by
  refine pureH (by decide) (pure1 ?_)
  rw [pureOf_b, callL_tab _ _ rfl tab19 rfl]
  simp [C19, push_cast, -Int.not_lt, -Int.not_le, ↓evI_call, ↓evI_calli, ↓evI_callv, ↓evI_mxn, slP, frzK]
def bxH0 (p : Int) : List A := [vi p, .sl [vi 1] 1 1, .sl [vi 0] 1 1, .bs 2 2 6]
def tskH (x y q0 q1 : Int) : List A := [vs ⟨#[97]⟩, vi 100, vi 100, vi q0, vi 0, .sl [vi 1, vi 1, vi 0, vi 3, vi 1, vi 0] 2 0, vs ⟨#[98]⟩, vi 200, vi 200, vi q1, vi 0, .sl [vi 1, vi x, vi 0, vi 3, vi y, vi 0] 2 0]
theorem two_h (p x y : Int) : callL tabH extH 20 [vi p, vi 1, vi 1, vi x, vi y] [] = some (.agg (bxH0 p), [bxH0 p, bxH0 p, tskH x y 1 2]) := by
  rw [callL_tab _ _ rfl (rfl : tabH 20 = some C20h) rfl]
  have h := one_keepH p [⟨1, 1, 0⟩, ⟨3, 1, 0⟩]
  have e : slP [⟨1, 1, 0⟩, ⟨3, 1, 0⟩] = .sl [vi 1, vi 1, vi 0, vi 3, vi 1, vi 0] 2 0 := rfl
  rw [e] at h
  simp [C20h, push_cast, -Int.not_lt, -Int.not_le, ↓evI_call, ↓evI_calli, ↓evI_callv, ↓evI_mxn, h, asList, bxH0, tskH]
theorem hmod {n : Int} (q : Int) (h1 : 0 ≤ n) (hk : 1 ≤ q) (hk2 : q ≤ 70000) : ∃ m, n.tmod q = m ∧ 0 ≤ m ∧ m < q ∧ IntKind.wrap .i64 m = m ∧ IntKind.wrap .i64 (m + 1) = m + 1 := by
  have e := Int.tmod_eq_emod_of_nonneg (b := q) h1
  have m1 := Int.emod_nonneg n (show q ≠ 0 by omega)
  have m2 := Int.emod_lt_of_pos n (show 0 < q by omega)
  exact ⟨_, e, m1, m2, wrap_in _ (by omega) (by omega), wrap_in _ (by omega) (by omega)⟩
theorem run_a_true {r l cn wn pr a b c w p J : Int} (h1 : pureOf (callL tabH extH) false 13 [] = some (vb true))
    (a1 : r.tmod 50 = a) (a4 : IntKind.wrap .i64 a = a) (a5 : IntKind.wrap .i64 (a + 1) = a + 1) (b1 : l.tmod 50 = b) (b4 : IntKind.wrap .i64 b = b) (b5 : IntKind.wrap .i64 (b + 1) = b + 1)
    (c1 : cn.tmod 3 = c) (c4 : IntKind.wrap .i64 c = c) (c5 : IntKind.wrap .i64 (c + 1) = c + 1) (w1 : wn.tmod 2000 = w) (w4 : IntKind.wrap .i64 w = w) (w5 : IntKind.wrap .i64 (w + 1) = w + 1)
    (p1 : pr.tmod 3 = p) (p4 : IntKind.wrap .i64 p = p) (p5 : IntKind.wrap .i64 (p + 1) = p + 1) (w6 : IntKind.wrap .i64 (w + 1 + 70) = w + 1 + 70) (w7 : IntKind.wrap .i64 (w + 1 + 70 + 199) = w + 1 + 70 + 199)
    (w8 : IntKind.wrap .i64 ((w + 1 + 70 + 199).tdiv 200) = J) (ab : IntKind.wrap .i64 (a + 1 + (b + 1)) = a + 1 + (b + 1)) (hc0 : ¬ c + 1 = 0)
    (z1 : IntKind.wrap .i64 (J * (a + 1 + (b + 1))) = J * (a + 1 + (b + 1))) (z2 : IntKind.wrap .i64 ((J * (a + 1 + (b + 1))).tdiv (c + 1)) = J * (a + 1 + (b + 1)) / (c + 1))
    (e0 : pureOf (callL tabH extH) false 18 [.agg [vi (p + 1), .sl [vi (c + 1)] 1 0, .sl [vi 0] 1 0, .sl (tskH (a + 1) (b + 1) 2 1) 2 0], .sl [vi 50, vi 70] 2 0, vi 0, vi (w + 1)] = some (vi (J * (a + 1 + (b + 1)) / (c + 1))))
    (e1 : pureOf (callL tabH extH) false 18 [.agg [vi (p + 1), .sl [vi (c + 1)] 1 0, .sl [vi 0] 1 0, .sl (tskH (a + 1) (b + 1) 2 1) 2 0], .sl [vi 50, vi (-1)] 2 0, vi 0, vi (w + 1)] = some (vi 0))
    (e2 : pureOf (callL tabH extH) false 18 [.agg [vi (p + 1), .sl [vi (c + 1)] 1 0, .sl [vi 0] 1 0, .sl (tskH (a + 1) (b + 1) 2 1) 2 0], .sl [vi 50] 1 0, vi 0, vi (w + 1)] = some (vi 0))
    (e3 : pureOf (callL tabH extH) false 18 [.agg [vi (p + 1), .sl [vi (c + 1)] 1 0, .sl [vi 0] 1 0, .sl (tskH (a + 1) (b + 1) 2 1) 2 0], .sl [vi 50, vi 70] 2 0, vi 0, vi 0] = some (vi 0)) :
    Ans (vb true) [] (runF (evL tabH extH) C5a [vu8 r, vu8 l, vu8 cn, .val (.int .u16 wn), vb true, vu8 pr]) := by
  have h2 := two_h (p + 1) (a + 1) (b + 1)
  simp only [tskH, bxH0] at h2 e0 e1 e2 e3
  change Ans (vb true) [] ((evL tabH extH 0 C5a.body (initFrom 0 [vu8 r, vu8 l, vu8 cn, .val (.int .u16 wn), vb true, vu8 pr], [])).bind (resK C5a))
  simp [C5a, push_cast, -Int.not_lt, -Int.not_le, ↓evI_call, ↓evI_calli, ↓evI_callv, ↓evI_mxn, h1, a1, a4, a5, b1, b4, b5, c1, c4, c5, w1, w4, w5, p1, p4, p5, h2, e0, e1, e2, e3, w6, w7, w8, ab, hc0, z1, z2, aft, strip, eqz_self, asList]
  exact Ans.nil rfl
theorem run_a_false {r l cn wn pr a b c w p J : Int} (h1 : pureOf (callL tabH extH) false 13 [] = some (vb true))
    (a1 : r.tmod 50 = a) (a4 : IntKind.wrap .i64 a = a) (a5 : IntKind.wrap .i64 (a + 1) = a + 1) (b1 : l.tmod 50 = b) (b4 : IntKind.wrap .i64 b = b) (b5 : IntKind.wrap .i64 (b + 1) = b + 1)
    (c1 : cn.tmod 3 = c) (c4 : IntKind.wrap .i64 c = c) (c5 : IntKind.wrap .i64 (c + 1) = c + 1) (w1 : wn.tmod 2000 = w) (w4 : IntKind.wrap .i64 w = w) (w5 : IntKind.wrap .i64 (w + 1) = w + 1)
    (p1 : pr.tmod 3 = p) (p4 : IntKind.wrap .i64 p = p) (p5 : IntKind.wrap .i64 (p + 1) = p + 1) (w6 : IntKind.wrap .i64 (w + 1 + 70) = w + 1 + 70) (w7 : IntKind.wrap .i64 (w + 1 + 70 + 199) = w + 1 + 70 + 199)
    (w8 : IntKind.wrap .i64 ((w + 1 + 70 + 199).tdiv 200) = J) (ab : IntKind.wrap .i64 (a + 1 + (b + 1)) = a + 1 + (b + 1)) (hc0 : ¬ c + 1 = 0)
    (z1 : IntKind.wrap .i64 (J * (b + 1)) = J * (b + 1)) (z2 : IntKind.wrap .i64 ((J * (b + 1)).tdiv (c + 1)) = J * (b + 1) / (c + 1))
    (e0 : pureOf (callL tabH extH) false 18 [.agg [vi (p + 1), .sl [vi (c + 1)] 1 0, .sl [vi 0] 1 0, .sl (tskH (a + 1) (b + 1) 1 2) 2 0], .sl [vi 50, vi 70] 2 0, vi 0, vi (w + 1)] = some (vi (J * (b + 1) / (c + 1))))
    (e1 : pureOf (callL tabH extH) false 18 [.agg [vi (p + 1), .sl [vi (c + 1)] 1 0, .sl [vi 0] 1 0, .sl (tskH (a + 1) (b + 1) 1 2) 2 0], .sl [vi 50, vi (-1)] 2 0, vi 0, vi (w + 1)] = some (vi 0))
    (e2 : pureOf (callL tabH extH) false 18 [.agg [vi (p + 1), .sl [vi (c + 1)] 1 0, .sl [vi 0] 1 0, .sl (tskH (a + 1) (b + 1) 1 2) 2 0], .sl [vi 50] 1 0, vi 0, vi (w + 1)] = some (vi 0))
    (e3 : pureOf (callL tabH extH) false 18 [.agg [vi (p + 1), .sl [vi (c + 1)] 1 0, .sl [vi 0] 1 0, .sl (tskH (a + 1) (b + 1) 1 2) 2 0], .sl [vi 50, vi 70] 2 0, vi 0, vi 0] = some (vi 0)) :
    Ans (vb true) [] (runF (evL tabH extH) C5a [vu8 r, vu8 l, vu8 cn, .val (.int .u16 wn), vb false, vu8 pr]) := by
  have h2 := two_h (p + 1) (a + 1) (b + 1)
  simp only [tskH, bxH0] at h2 e0 e1 e2 e3
  change Ans (vb true) [] ((evL tabH extH 0 C5a.body (initFrom 0 [vu8 r, vu8 l, vu8 cn, .val (.int .u16 wn), vb false, vu8 pr], [])).bind (resK C5a))
  simp [C5a, push_cast, -Int.not_lt, -Int.not_le, ↓evI_call, ↓evI_calli, ↓evI_callv, ↓evI_mxn, h1, a1, a4, a5, b1, b4, b5, c1, c4, c5, w1, w4, w5, p1, p4, p5, h2, e0, e1, e2, e3, w6, w7, w8, hc0, z1, z2, aft, strip, eqz_self, asList]
  exact Ans.nil rfl
theorem run_b_true {r l cn wn pr a b c w p J : Int} (h1 : pureOf (callL tabH extH) false 13 [] = some (vb true))
    (a1 : r.tmod 50 = a) (a4 : IntKind.wrap .i64 a = a) (a5 : IntKind.wrap .i64 (a + 1) = a + 1) (b1 : l.tmod 50 = b) (b4 : IntKind.wrap .i64 b = b) (b5 : IntKind.wrap .i64 (b + 1) = b + 1)
    (c1 : cn.tmod 3 = c) (c4 : IntKind.wrap .i64 c = c) (c5 : IntKind.wrap .i64 (c + 1) = c + 1) (w1 : wn.tmod 2000 = w) (w4 : IntKind.wrap .i64 w = w) (w5 : IntKind.wrap .i64 (w + 1) = w + 1)
    (p1 : pr.tmod 3 = p) (p4 : IntKind.wrap .i64 p = p) (p5 : IntKind.wrap .i64 (p + 1) = p + 1) (w6 : IntKind.wrap .i64 (w + 1 + 70) = w + 1 + 70) (w7 : IntKind.wrap .i64 (w + 1 + 70 + 199) = w + 1 + 70 + 199)
    (w8 : IntKind.wrap .i64 ((w + 1 + 70 + 199).tdiv 200) = J) (ab : IntKind.wrap .i64 (a + 1 + (b + 1)) = a + 1 + (b + 1)) (hc0 : ¬ c + 1 = 0)
    (z1 : IntKind.wrap .i64 (J * (a + 1 + (b + 1))) = J * (a + 1 + (b + 1))) (z2 : IntKind.wrap .i64 ((J * (a + 1 + (b + 1))).tdiv (c + 1)) = J * (a + 1 + (b + 1)) / (c + 1))
    (e0 : pureOf (callL tabH extH) false 18 [.agg [vi (p + 1), .sl [vi (c + 1)] 1 0, .sl [vi 0] 1 0, .sl (tskH (a + 1) (b + 1) 2 1) 2 0], .sl [vi 50, vi 70] 2 0, vi 0, vi (w + 1)] = some (vi (J * (a + 1 + (b + 1)) / (c + 1))))
    (e1 : pureOf (callL tabH extH) false 18 [.agg [vi (p + 1), .sl [vi (c + 1)] 1 0, .sl [vi 0] 1 0, .sl (tskH (a + 1) (b + 1) 2 1) 2 0], .sl [vi 50, vi (-1)] 2 0, vi 0, vi (w + 1)] = some (vi 0))
    (e2 : pureOf (callL tabH extH) false 18 [.agg [vi (p + 1), .sl [vi (c + 1)] 1 0, .sl [vi 0] 1 0, .sl (tskH (a + 1) (b + 1) 2 1) 2 0], .sl [vi 50] 1 0, vi 0, vi (w + 1)] = some (vi 0))
    (e3 : pureOf (callL tabH extH) false 18 [.agg [vi (p + 1), .sl [vi (c + 1)] 1 0, .sl [vi 0] 1 0, .sl (tskH (a + 1) (b + 1) 2 1) 2 0], .sl [vi 50, vi 70] 2 0, vi 0, vi 0] = some (vi 0)) :
    Ans (vb true) [] (runF (evL tabH extH) C5b [vu8 r, vu8 l, vu8 cn, .val (.int .u16 wn), vb true, vu8 pr]) := by
  have h2 := two_h (p + 1) (a + 1) (b + 1)
  simp only [tskH, bxH0] at h2 e0 e1 e2 e3
  change Ans (vb true) [] ((evL tabH extH 0 C5b.body (initFrom 0 [vu8 r, vu8 l, vu8 cn, .val (.int .u16 wn), vb true, vu8 pr], [])).bind (resK C5b))
  simp [C5b, push_cast, -Int.not_lt, -Int.not_le, ↓evI_call, ↓evI_calli, ↓evI_callv, ↓evI_mxn, h1, a1, a4, a5, b1, b4, b5, c1, c4, c5, w1, w4, w5, p1, p4, p5, h2, e0, e1, e2, e3, w6, w7, w8, ab, hc0, z1, z2, aft, strip, eqz_self, asList]
  exact Ans.nil rfl
theorem run_b_false {r l cn wn pr a b c w p J : Int} (h1 : pureOf (callL tabH extH) false 13 [] = some (vb true))
    (a1 : r.tmod 50 = a) (a4 : IntKind.wrap .i64 a = a) (a5 : IntKind.wrap .i64 (a + 1) = a + 1) (b1 : l.tmod 50 = b) (b4 : IntKind.wrap .i64 b = b) (b5 : IntKind.wrap .i64 (b + 1) = b + 1)
    (c1 : cn.tmod 3 = c) (c4 : IntKind.wrap .i64 c = c) (c5 : IntKind.wrap .i64 (c + 1) = c + 1) (w1 : wn.tmod 2000 = w) (w4 : IntKind.wrap .i64 w = w) (w5 : IntKind.wrap .i64 (w + 1) = w + 1)
    (p1 : pr.tmod 3 = p) (p4 : IntKind.wrap .i64 p = p) (p5 : IntKind.wrap .i64 (p + 1) = p + 1) (w6 : IntKind.wrap .i64 (w + 1 + 70) = w + 1 + 70) (w7 : IntKind.wrap .i64 (w + 1 + 70 + 199) = w + 1 + 70 + 199)
    (w8 : IntKind.wrap .i64 ((w + 1 + 70 + 199).tdiv 200) = J) (ab : IntKind.wrap .i64 (a + 1 + (b + 1)) = a + 1 + (b + 1)) (hc0 : ¬ c + 1 = 0)
    (z1 : IntKind.wrap .i64 (J * (b + 1)) = J * (b + 1)) (z2 : IntKind.wrap .i64 ((J * (b + 1)).tdiv (c + 1)) = J * (b + 1) / (c + 1))
    (e0 : pureOf (callL tabH extH) false 18 [.agg [vi (p + 1), .sl [vi (c + 1)] 1 0, .sl [vi 0] 1 0, .sl (tskH (a + 1) (b + 1) 1 2) 2 0], .sl [vi 50, vi 70] 2 0, vi 0, vi (w + 1)] = some (vi (J * (b + 1) / (c + 1))))
    (e1 : pureOf (callL tabH extH) false 18 [.agg [vi (p + 1), .sl [vi (c + 1)] 1 0, .sl [vi 0] 1 0, .sl (tskH (a + 1) (b + 1) 1 2) 2 0], .sl [vi 50, vi (-1)] 2 0, vi 0, vi (w + 1)] = some (vi 0))
    (e2 : pureOf (callL tabH extH) false 18 [.agg [vi (p + 1), .sl [vi (c + 1)] 1 0, .sl [vi 0] 1 0, .sl (tskH (a + 1) (b + 1) 1 2) 2 0], .sl [vi 50] 1 0, vi 0, vi (w + 1)] = some (vi 0))
    (e3 : pureOf (callL tabH extH) false 18 [.agg [vi (p + 1), .sl [vi (c + 1)] 1 0, .sl [vi 0] 1 0, .sl (tskH (a + 1) (b + 1) 1 2) 2 0], .sl [vi 50, vi 70] 2 0, vi 0, vi 0] = some (vi 0)) :
    Ans (vb true) [] (runF (evL tabH extH) C5b [vu8 r, vu8 l, vu8 cn, .val (.int .u16 wn), vb false, vu8 pr]) := by
  have h2 := two_h (p + 1) (a + 1) (b + 1)
  simp only [tskH, bxH0] at h2 e0 e1 e2 e3
  change Ans (vb true) [] ((evL tabH extH 0 C5b.body (initFrom 0 [vu8 r, vu8 l, vu8 cn, .val (.int .u16 wn), vb false, vu8 pr], [])).bind (resK C5b))
  simp [C5b, push_cast, -Int.not_lt, -Int.not_le, ↓evI_call, ↓evI_calli, ↓evI_callv, ↓evI_mxn, h1, a1, a4, a5, b1, b4, b5, c1, c4, c5, w1, w4, w5, p1, p4, p5, h2, e0, e1, e2, e3, w6, w7, w8, hc0, z1, z2, aft, strip, eqz_self, asList]
  exact Ans.nil rfl
theorem others_h {p c a b w q0 q1 : Int} (hH : Hi (p + 1) (c + 1) (a + 1) (b + 1) q0 q1) (hw : 0 ≤ w ∧ w < 2000) :
      pureOf (callL tabH extH) false 18 [.agg [vi (p + 1), .sl [vi (c + 1)] 1 0, .sl [vi 0] 1 0, .sl (tskH (a + 1) (b + 1) q0 q1) 2 0], .sl [vi 50, vi 70] 2 0, vi 0, vi (w + 1)] = some (vi ((w + 1 + 70 + 199) / 200 * (if q0 = 2 then a + 1 + (b + 1) else b + 1) / (c + 1))) ∧
      pureOf (callL tabH extH) false 18 [.agg [vi (p + 1), .sl [vi (c + 1)] 1 0, .sl [vi 0] 1 0, .sl (tskH (a + 1) (b + 1) q0 q1) 2 0], .sl [vi 50, vi (-1)] 2 0, vi 0, vi (w + 1)] = some (vi 0) ∧
      pureOf (callL tabH extH) false 18 [.agg [vi (p + 1), .sl [vi (c + 1)] 1 0, .sl [vi 0] 1 0, .sl (tskH (a + 1) (b + 1) q0 q1) 2 0], .sl [vi 50] 1 0, vi 0, vi (w + 1)] = some (vi 0) ∧
      pureOf (callL tabH extH) false 18 [.agg [vi (p + 1), .sl [vi (c + 1)] 1 0, .sl [vi 0] 1 0, .sl (tskH (a + 1) (b + 1) q0 q1) 2 0], .sl [vi 50, vi 70] 2 0, vi 0, vi 0] = some (vi 0) := by
  have hb2 : ∀ x ∈ [(50 : Int), 70], I64' x := by intro x hx; simp at hx; rcases hx with rfl | rfl <;> exact ⟨by omega, by omega⟩
  have hb3 : ∀ x ∈ [(50 : Int), -1], I64' x := by intro x hx; simp at hx; rcases hx with rfl | rfl <;> exact ⟨by omega, by omega⟩
  have hb4 : ∀ x ∈ [(50 : Int)], I64' x := by intro x hx; simp at hx; subst hx; exact ⟨by omega, by omega⟩
  have hw0 : I64' (w + 1) := ⟨by omega, by omega⟩
  have s4 : slI [(50 : Int), 70] = .sl [vi 50, vi 70] 2 0 := rfl
  have s5 : slI [(50 : Int), -1] = .sl [vi 50, vi (-1)] 2 0 := rfl
  have s6 : slI [(50 : Int)] = .sl [vi 50] 1 0 := rfl
  have s1 : St.c (sHi (p + 1) (c + 1) (a + 1) (b + 1) q0 q1) = [vi (p + 1), .sl [vi (c + 1)] 1 0, .sl [vi 0] 1 0, .sl (tskH (a + 1) (b + 1) q0 q1) 2 0] := rfl
  have hs := sHi_sm (p + 1) (c + 1) (a + 1) (b + 1) q0 q1
  have e0 := pureH (by decide) (pure_vi (k := false) (others_is _ hs [50, 70] hb2 0 (w + 1) hw0))
  have e1 := pureH (by decide) (pure_vi (k := false) (others_is _ hs [50, -1] hb3 0 (w + 1) hw0))
  have e2 := pureH (by decide) (pure_vi (k := false) (others_is _ hs [50] hb4 0 (w + 1) hw0))
  have e3 := pureH (by decide) (pure_vi (k := false) (others_is _ hs [50, 70] hb2 0 0 ⟨by omega, by omega⟩))
  rw [s1, s4, hH.others ⟨by omega, by omega⟩] at e0
  rw [s1, s5, others_neg] at e1
  rw [s1, s6, others_short] at e2
  rw [s1, s4, hH.others0] at e3
  exact ⟨e0, e1, e2, e3⟩
theorem quo_h {w c : Int} (hw : 0 ≤ w ∧ w < 2000) (hc : 0 ≤ c ∧ c < 3) : IntKind.wrap .i64 ((w + 1 + 70 + 199).tdiv 200) = (w + 1 + 70 + 199) / 200 ∧ ∀ z, 1 ≤ z ∧ z ≤ 100 → IntKind.wrap .i64 ((w + 1 + 70 + 199) / 200 * z) = (w + 1 + 70 + 199) / 200 * z ∧ IntKind.wrap .i64 (((w + 1 + 70 + 199) / 200 * z).tdiv (c + 1)) = (w + 1 + 70 + 199) / 200 * z / (c + 1) := by
  have hj : 1 ≤ (w + 1 + 70 + 199) / 200 := Int.le_ediv_of_mul_le (by omega) (by omega)
  have hj2 : (w + 1 + 70 + 199) / 200 < 13 := Int.ediv_lt_of_lt_mul (by omega) (by omega)
  refine ⟨by rw [Int.tdiv_eq_ediv_of_nonneg (by omega)]; exact wrap_in _ (by omega) (by omega), fun z hz => ?_⟩
  generalize (w + 1 + 70 + 199) / 200 = J at *
  have hm : J * z ≤ 13 * 100 := Int.mul_le_mul (by omega) (by omega) (by omega) (by omega)
  have hm0 : 0 ≤ J * z := Int.mul_nonneg (by omega) (by omega)
  have hd0 := Int.ediv_nonneg hm0 (show 0 ≤ c + 1 by omega)
  have hd1 : J * z / (c + 1) ≤ J * z := Int.ediv_le_self _ hm0
  refine ⟨wrap_in _ (by omega) (by omega), ?_⟩
  rw [Int.tdiv_eq_ediv_of_nonneg hm0]
  exact wrap_in _ (by omega) (by omega)
theorem run_h (r l cn wn pr : Int) (hi : Bool) (k0 : (Lit.int .u8 r).wf = true) (k1 : (Lit.int .u8 l).wf = true) (k2 : (Lit.int .u8 cn).wf = true) (k3 : (Lit.int .u16 wn).wf = true) (k5 : (Lit.int .u8 pr).wf = true) :
    Ans (vb true) [] (runF (evL tabH extH) C5a [vu8 r, vu8 l, vu8 cn, .val (.int .u16 wn), vb hi, vu8 pr]) ∧ Ans (vb true) [] (runF (evL tabH extH) C5b [vu8 r, vu8 l, vu8 cn, .val (.int .u16 wn), vb hi, vu8 pr]) := by
  have h1 := pureH (by decide) (pure_vb (k := false) known_13)
  have u3 : 0 ≤ wn ∧ wn ≤ 65535 := by
    have := k3
    simp [Lit.wf, IntKind.min, IntKind.max, IntKind.signed, IntKind.bits] at this
    omega
  obtain ⟨a, a1, a2, a3, a4, a5⟩ := hmod 50 (u8_of k0).1 (by decide) (by decide)
  obtain ⟨b, b1, b2, b3, b4, b5⟩ := hmod 50 (u8_of k1).1 (by decide) (by decide)
  obtain ⟨c, c1, c2, c3, c4, c5⟩ := hmod 3 (u8_of k2).1 (by decide) (by decide)
  obtain ⟨w, w1, w2, w3, w4, w5⟩ := hmod 2000 u3.1 (by decide) (by decide)
  obtain ⟨p, p1, p2, p3, p4, p5⟩ := hmod 3 (u8_of k5).1 (by decide) (by decide)
  clear k0 k1 k2 k3 k5 u3
  obtain ⟨w8, hz⟩ := quo_h (w := w) (c := c) ⟨w2, w3⟩ ⟨c2, c3⟩
  have far : (∀ q0 q1 : Int, (q0 = 1 ∧ q1 = 2) ∨ (q0 = 2 ∧ q1 = 1) → Hi (p + 1) (c + 1) (a + 1) (b + 1) q0 q1) ∧ IntKind.wrap .i64 (w + 1 + 70) = w + 1 + 70 ∧ IntKind.wrap .i64 (w + 1 + 70 + 199) = w + 1 + 70 + 199 ∧ IntKind.wrap .i64 (a + 1 + (b + 1)) = a + 1 + (b + 1) ∧ ¬ c + 1 = 0 ∧ (1 ≤ b + 1 ∧ b + 1 ≤ 100) ∧ (1 ≤ a + 1 + (b + 1) ∧ a + 1 + (b + 1) ≤ 100) := by
    clear a1 b1 c1 w1 p1 w8 hz h1
    exact ⟨fun q0 q1 hq => ⟨by omega, by omega, by omega, by omega, hq⟩, wrap_in _ (by omega) (by omega), wrap_in _ (by omega) (by omega), wrap_in _ (by omega) (by omega), by omega, by omega, by omega⟩
  obtain ⟨hH, w6, w7, ab, hc0, v1, v2⟩ := far
  cases hi with
  | false =>
    obtain ⟨e0, e1, e2, e3⟩ := others_h (hH 1 2 (.inl ⟨rfl, rfl⟩)) ⟨w2, w3⟩
    rw [if_neg (by decide)] at e0
    obtain ⟨z1, z2⟩ := hz (b + 1) v1
    generalize (w + 1 + 70 + 199) / 200 = J at *
    exact ⟨run_a_false h1 a1 a4 a5 b1 b4 b5 c1 c4 c5 w1 w4 w5 p1 p4 p5 w6 w7 w8 ab hc0 z1 z2 e0 e1 e2 e3, run_b_false h1 a1 a4 a5 b1 b4 b5 c1 c4 c5 w1 w4 w5 p1 p4 p5 w6 w7 w8 ab hc0 z1 z2 e0 e1 e2 e3⟩
  | true =>
    obtain ⟨e0, e1, e2, e3⟩ := others_h (hH 2 1 (.inr ⟨rfl, rfl⟩)) ⟨w2, w3⟩
    rw [if_pos rfl] at e0
    obtain ⟨z1, z2⟩ := hz (a + 1 + (b + 1)) v2
    generalize (w + 1 + 70 + 199) / 200 = J at *
    exact ⟨run_a_true h1 a1 a4 a5 b1 b4 b5 c1 c4 c5 w1 w4 w5 p1 p4 p5 w6 w7 w8 ab hc0 z1 z2 e0 e1 e2 e3, run_b_true h1 a1 a4 a5 b1 b4 b5 c1 c4 c5 w1 w4 w5 p1 p4 p5 w6 w7 w8 ab hc0 z1 z2 e0 e1 e2 e3⟩
theorem boundHigher_is (r l cn wn : Int) (hi : Bool) (pr : Int) (k0 : (Lit.int .u8 r).wf = true) (k1 : (Lit.int .u8 l).wf = true) (k2 : (Lit.int .u8 cn).wf = true) (k3 : (Lit.int .u16 wn).wf = true) (k5 : (Lit.int .u8 pr).wf = true) :
    Ans (vb true) [] (callL tab0 ext3 5 [vu8 r, vu8 l, vu8 cn, .val (.int .u16 wn), vb hi, vu8 pr] []) := by
  have h := two_vb (run_h r l cn wn pr hi k0 k1 k2 k3 k5).1 (run_h r l cn wn pr hi k0 k1 k2 k3 k5).2
  refine ⟨[], ?_⟩
  unfold callL callOf
  have e : ext3 5 [vu8 r, vu8 l, vu8 cn, .val (.int .u16 wn), vb hi, vu8 pr] [] = some (vb true, []) := h
  rw [e]; rfl
end Go.Proofs.YtclebnamhpgdmaaEv
