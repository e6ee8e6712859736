/- calc, count as far as they are asked: numbers that are not below 0. -/
import Derived.Test.YtgndbkeiickihaaLib
import Derived.Test.YtgndbkeiickihaaT1
set_option linter.unusedSimpArgs false
set_option linter.unusedVariables false
namespace Go.Proofs.YtgndbkeiickihaaEv
open Go
set_option maxHeartbeats 1000000
def I64' (n : Int) : Prop := -9223372036854775808 ≤ n ∧ n ≤ 9223372036854775807
abbrev vu (n : Int) : A := .val (.int .u64 n)
theorem pure_tupb {Φ : CallF} {k f args a b} (h : Ans (.tup [vi a, vb b]) [] (Φ f args [])) : pureOf Φ k f args = some (.tup [vi a, vb b]) := by
  obtain ⟨j, h⟩ := h
  exact pureOf_eq h rfl
theorem pure_vu {Φ : CallF} {k f args b} (h : Ans (vu b) [] (Φ f args [])) : pureOf Φ k f args = some (vu b) := by
  obtain ⟨j, h⟩ := h
  exact pureOf_eq h rfl
theorem pure_tupu {Φ : CallF} {k f args a b} (h : Ans (.tup [vu a, vu b]) [] (Φ f args [])) : pureOf Φ k f args = some (.tup [vu a, vu b]) := by
  obtain ⟨j, h⟩ := h
  exact pureOf_eq h rfl
def ceilS (a b : Int) : Int := (a + b - 1) / b
theorem ceil_eq (a b : Int) (ha : 0 ≤ a) (hb : 1 ≤ b) : ceilS a b = if 0 < a % b then a / b + 1 else a / b := by
  unfold ceilS
  have h1 := Int.mul_ediv_add_emod a b
  have h2 := Int.emod_nonneg a (show b ≠ 0 by omega)
  have h3 := Int.emod_lt_of_pos a (show 0 < b by omega)
  split
  · have e : a + b - 1 = (a % b - 1) + b * (a / b + 1) := by rw [Int.mul_add]; omega
    rw [e, Int.add_mul_ediv_left _ _ (by omega), Int.ediv_eq_zero_of_lt (by omega) (by omega)]; omega
  · have e : a + b - 1 = (b - 1) + b * (a / b) := by omega
    rw [e, Int.add_mul_ediv_left _ _ (by omega), Int.ediv_eq_zero_of_lt (by omega) (by omega)]; omega
theorem ceil_le (a b : Int) (ha : 0 ≤ a) (hb : 1 ≤ b) : 0 ≤ ceilS a b ∧ ceilS a b ≤ a := by
  rw [ceil_eq a b ha hb]
  have h1 := Int.mul_ediv_add_emod a b
  have h2 := Int.emod_nonneg a (show b ≠ 0 by omega)
  have h4 := Int.ediv_nonneg ha (show 0 ≤ b by omega)
  have h5 : a / b ≤ b * (a / b) := by
    have := Int.mul_le_mul_of_nonneg_right hb h4
    omega
  split <;> omega
def jobsS (w b p : Int) : Int := if w < 1 ∨ b < 0 ∨ p < 1 then 0 else min (ceilS (w + b) p) 1000000
def workS (w b p e : Int) : Int := min (jobsS w b p * max e 0) 1000000
theorem jobs_le (w b p : Int) : 0 ≤ jobsS w b p ∧ jobsS w b p ≤ 1000000 := by
  unfold jobsS
  split
  · omega
  · have := ceil_le (w + b) p (by omega) (by omega)
    omega
theorem wrap_u (n : Int) (h1 : 0 ≤ n) (h2 : n ≤ 18446744073709551615) : IntKind.wrap .u64 n = n := by
  have e : IntKind.u64.wrap n = n % 18446744073709551616 := by simp [IntKind.wrap, IntKind.bits, IntKind.signed]
  rw [e]; omega
theorem wrap_i (n : Int) (h1 : -9223372036854775808 ≤ n) (h2 : n ≤ 9223372036854775807) : IntKind.wrap .i64 n = n := by
  rw [IntKind.wrap_i64]; omega
theorem minR (n : Int) : foldM false n [vi 1000000] = some (min n 1000000) := by show some (if 1000000 < n then 1000000 else n) = _; congr 1; split <;> omega
theorem add_is (a b : Int) (ha : 0 ≤ a) (hb : 0 ≤ b) (ha' : a ≤ 9223372036854775807) (hb' : b ≤ 9223372036854775807) :
    Ans (.tup [vi (if a + b ≤ 9223372036854775807 then a + b else 0), vb (decide (a + b ≤ 9223372036854775807))]) [] (callL tab0 ext0 116 [vi a, vi b] []) := by
  rw [callL_tab _ _ rfl tab116 rfl]
  have h1 : ¬ a < 0 := by omega
  have h2 : ¬ b < 0 := by omega
  by_cases h : a + b ≤ 9223372036854775807
  · have hw : IntKind.wrap .i64 (a + b) = a + b := wrap_i _ (by omega) h
    have h3 : ¬ a + b < 0 := by omega
    simp [C116, push_cast, -Int.not_lt, -Int.not_le, ↓evI_call, ↓evI_calli, ↓evI_calln, ↓evI_callz, ↓evI_callv, ↓evI_mxn, h1, h2, h3, hw, h]
    exact Ans.nil rfl
  · have hw : IntKind.wrap .i64 (a + b) < 0 := by rw [IntKind.wrap_i64]; omega
    simp [C116, push_cast, -Int.not_lt, -Int.not_le, ↓evI_call, ↓evI_calli, ↓evI_calln, ↓evI_callz, ↓evI_callv, ↓evI_mxn, h1, h2, hw, h]
    exact Ans.nil rfl
theorem size_is (n : Int) (h : 0 ≤ n) (h' : n ≤ 9223372036854775807) : Ans (vu n) [] (callL tab0 ext0 110 [vi n] []) := by
  rw [callL_tab _ _ rfl tab110 rfl]
  have h1 : ¬ n < 0 := by omega
  have hw := wrap_u n h (by omega)
  simp [C110, push_cast, -Int.not_lt, -Int.not_le, ↓evI_call, ↓evI_calli, ↓evI_calln, ↓evI_callz, ↓evI_callv, ↓evI_mxn, h1, hw]
  exact Ans.nil rfl
theorem signed_is (n : Int) (h : 0 ≤ n) (h' : n ≤ 9223372036854775807) : Ans (.tup [vi n, vb true]) [] (callL tab0 ext0 111 [vu n, vb false] []) := by
  rw [callL_tab _ _ rfl tab111 rfl]
  have hw := wrap_i n (by omega) h'
  by_cases h0 : n = 0
  · subst h0
    simp [C111, push_cast, -Int.not_lt, -Int.not_le, ↓evI_call, ↓evI_calli, ↓evI_calln, ↓evI_callz, ↓evI_callv, ↓evI_mxn, eqz]
    exact Ans.nil rfl
  · have h2 : eqz n 0 = false := by simp [eqz, h0]
    simp [C111, push_cast, -Int.not_lt, -Int.not_le, ↓evI_call, ↓evI_calli, ↓evI_calln, ↓evI_callz, ↓evI_callv, ↓evI_mxn, h2, h', hw]
    exact Ans.nil rfl
theorem up_is (a b : Int) (ha : 0 ≤ a) (hb : 1 ≤ b) (ha' : a ≤ 9223372036854775807) (hb' : b ≤ 9223372036854775807) : Ans (.tup [vi (ceilS a b), vb true]) [] (callL tab0 ext0 92 [vi a, vi b] []) := by
  rw [callL_tab _ _ rfl tab92 rfl]
  have f1 := pure_vu (k := false) (size_is a ha ha')
  have f2 := pure_vu (k := false) (size_is b (by omega) hb')
  have hc := ceil_le a b ha hb
  have f3 := pure_tupb (k := false) (signed_is (ceilS a b) hc.1 (by omega))
  have h1 : ¬ a < 0 := by omega
  have h2 : ¬ b < 0 := by omega
  have h3 : eqz b 0 = false := by simp [eqz]; omega
  have h4 : ¬ b = 0 := by omega
  have q1 : IntKind.wrap .u64 (a.tdiv b) = a / b := by
    rw [Int.tdiv_eq_ediv_of_nonneg ha]
    have := Int.ediv_nonneg ha (show 0 ≤ b by omega)
    have := Int.ediv_le_self b ha
    exact wrap_u _ (by omega) (by omega)
  have q2 : a.tmod b = a % b := Int.tmod_eq_emod_of_nonneg ha
  have hce := ceil_eq a b ha hb
  by_cases h0 : 0 < a % b
  · rw [if_pos h0] at hce
    have q3 : IntKind.wrap .u64 (a / b + 1) = ceilS a b := by rw [← hce]; exact wrap_u _ (by omega) (by omega)
    simp [C92, push_cast, -Int.not_lt, -Int.not_le, ↓evI_call, ↓evI_calli, ↓evI_calln, ↓evI_callz, ↓evI_callv, ↓evI_mxn, f1, f2, f3, h1, h2, h3, h4, q1, q2, q3, h0]
    exact Ans.nil rfl
  · rw [if_neg h0] at hce
    rw [hce] at f3 ⊢
    simp [C92, push_cast, -Int.not_lt, -Int.not_le, ↓evI_call, ↓evI_calli, ↓evI_calln, ↓evI_callz, ↓evI_callv, ↓evI_mxn, f1, f2, f3, h1, h2, h3, h4, q1, q2, h0]
    exact Ans.nil rfl
theorem mask_low (n : Int) (h : 0 ≤ n) (h' : n < 4294967296) : andK .u64 n 4294967295 = n := by
  unfold andK
  obtain ⟨m, rfl⟩ : ∃ m : Nat, n = m := ⟨n.toNat, by omega⟩
  have e1 : (BitVec.ofInt (IntKind.bits .u64) (m : Int)).toNat = m := by
    show (BitVec.ofInt 64 (m : Int)).toNat = m
    rw [BitVec.toNat_ofInt]; omega
  have e2 : (BitVec.ofInt (IntKind.bits .u64) 4294967295).toNat = 2 ^ 32 - 1 := by decide
  rw [BitVec.toNat_and, e1, e2, Nat.and_two_pow_sub_one_eq_mod]
  rw [Nat.mod_eq_of_lt (by omega)]
  exact wrap_u _ (by omega) (by omega)
theorem shr_32 (n : Int) (h : 0 ≤ n) : shrK .u64 n 32 = n / 4294967296 := by
  unfold shrK
  show n.fdiv 4294967296 = _
  exact Int.fdiv_eq_ediv_of_nonneg _ (by omega)
theorem mul64_is (a b : Int) (ha : 0 ≤ a) (hb : 0 ≤ b) (ha' : a ≤ 1000000) (hb' : b ≤ 1073741824) : Ans (.tup [vu 0, vu (a * b)]) [] (callL tab0 ext0 115 [vu a, vu b] []) := by
  rw [callL_tab _ _ rfl tab115 rfl]
  have p1 : 0 ≤ a * b := Int.mul_nonneg ha hb
  have p2 : a * b ≤ 1000000 * 1073741824 := Int.mul_le_mul ha' hb' hb (by omega)
  have m1 := mask_low a ha (by omega)
  have m2 := mask_low b hb (by omega)
  have w1 := wrap_u (a * b) p1 (by omega)
  have s1 : shrK .u64 a 32 = 0 := by rw [shr_32 a ha]; omega
  have s2 : shrK .u64 b 32 = 0 := by rw [shr_32 b hb]; omega
  obtain ⟨t, ht, ht0, ht1⟩ : ∃ t, shrK .u64 (a * b) 32 = t ∧ 0 ≤ t ∧ t < 4294967296 := by
    refine ⟨_, rfl, ?_⟩
    rw [shr_32 _ p1]; omega
  have m3 := mask_low t ht0 ht1
  have s3 : shrK .u64 t 32 = 0 := by rw [shr_32 t ht0]; omega
  have w2 := wrap_u t ht0 (by omega)
  have w0 : IntKind.wrap .u64 0 = 0 := by decide
  simp [C115, push_cast, -Int.not_lt, -Int.not_le, ↓evI_call, ↓evI_calli, ↓evI_calln, ↓evI_callz, ↓evI_callv, ↓evI_mxn, m1, m2, w1, s1, s2, ht, m3, s3, w2, w0]
  exact Ans.nil rfl
theorem mul_is (a b : Int) (ha : 0 ≤ a) (hb : 0 ≤ b) (ha' : a ≤ 1000000) (hb' : b ≤ 1073741824) : Ans (.tup [vi (a * b), vb true]) [] (callL tab0 ext0 107 [vi a, vi b] []) := by
  rw [callL_tab _ _ rfl tab107 rfl]
  have p1 : 0 ≤ a * b := Int.mul_nonneg ha hb
  have p2 : a * b ≤ 1000000 * 1073741824 := Int.mul_le_mul ha' hb' hb (by omega)
  have f1 := pure_vu (k := false) (size_is a ha (by omega))
  have f2 := pure_vu (k := false) (size_is b hb (by omega))
  have f3 := pure_tupu (k := false) (mul64_is a b ha hb ha' hb')
  have f4 := pure_tupb (k := false) (signed_is (a * b) p1 (by omega))
  have h1 : ¬ a < 0 := by omega
  have h2 : ¬ b < 0 := by omega
  simp [C107, push_cast, -Int.not_lt, -Int.not_le, ↓evI_call, ↓evI_calli, ↓evI_calln, ↓evI_callz, ↓evI_callv, ↓evI_mxn, f1, f2, f3, f4, h1, h2]
  exact Ans.nil rfl
theorem held_is (n : Int) (b : Bool) : Ans (vi (if b = true then min n 1000000 else 1000000)) [] (callL tab0 ext0 106 [vi n, vb b] []) := by
  rw [callL_tab _ _ rfl tab106 rfl]
  cases b with
  | true =>
    simp [C106, push_cast, -Int.not_lt, -Int.not_le, ↓evI_call, ↓evI_calli, ↓evI_calln, ↓evI_callz, ↓evI_callv, ↓evI_mxn, foldM]
    refine Ans.nil ?_
    congr 2; omega
  | false =>
    simp [C106, push_cast, -Int.not_lt, -Int.not_le, ↓evI_call, ↓evI_calli, ↓evI_calln, ↓evI_callz, ↓evI_callv, ↓evI_mxn]
    exact Ans.nil rfl
def wX (w b : Int) (i : Nat) : Int := if i = 0 then w else b
def wO (w b p : Int) : Nat → Int
  | 0 => 0
  | i + 1 => if wO w b p i + wX w b i % p < p then wO w b p i + wX w b i % p else wO w b p i + wX w b i % p - p
def wN (w b p : Int) : Nat → Int
  | 0 => 0
  | i + 1 => if wO w b p i + wX w b i % p < p then wN w b p i + (if 1000000 < wX w b i / p then 1000000 else wX w b i / p) else wN w b p i + (if 1000000 < wX w b i / p then 1000000 else wX w b i / p) + 1
theorem wX_drop (w b : Int) (i : Nat) (h : i < 2) : ([vi w, vi b] : List A).drop i = vi (wX w b i) :: ([vi w, vi b] : List A).drop (i + 1) := by
  rcases i with _ | _ | i
  · rfl
  · rfl
  · omega
theorem wO_bound (w b p : Int) (hp : 1 ≤ p) : ∀ i, 0 ≤ wO w b p i ∧ wO w b p i < p
  | 0 => by unfold wO; omega
  | i + 1 => by
    have h1 := wO_bound w b p hp i
    have h2 := Int.emod_nonneg (wX w b i) (show p ≠ 0 by omega)
    have h3 := Int.emod_lt_of_pos (wX w b i) (show 0 < p by omega)
    unfold wO; split <;> omega
theorem wN_bound (w b p : Int) (hw : 0 ≤ w) (hb : 0 ≤ b) (hp : 1 ≤ p) : ∀ i, 0 ≤ wN w b p i ∧ wN w b p i ≤ 1000001 * i
  | 0 => by unfold wN; omega
  | i + 1 => by
    have h1 := wN_bound w b p hw hb hp i
    have h2 : 0 ≤ wX w b i / p := Int.ediv_nonneg (by unfold wX; split <;> assumption) (by omega)
    unfold wN
    repeat' split
    all_goals omega
theorem wide_loop (w b p : Int) (hw : 1 ≤ w) (hw' : w ≤ 9223372036854775807) (hb : 0 ≤ b) (hb' : b ≤ 9223372036854775807) (hp : 1 ≤ p) (hp' : p ≤ 3000) :
    ∀ d i (e : Env), i + d = 2 → (e 2 = vi p ∧ e 8 = vi (wN w b p i) ∧ e 9 = vi (wO w b p i) ∧ e 15 = .sl [vi w, vi b] 2 0 ∧ e 16 = vi 2 ∧ e 17 = vi i) → ∃ zz, evL tab0 ext0 0 L117_0 (e, []) = some zz ∧ FQ (fun _ => false) ([]) 0 (fun _ _ => True) (fun e => e 8 = vi (wN w b p 2) ∧ e 9 = vi (wO w b p 2)) i d zz := by
  refine fq_loop (St := fun i e => e 2 = vi p ∧ e 8 = vi (wN w b p i) ∧ e 9 = vi (wO w b p i) ∧ e 15 = .sl [vi w, vi b] 2 0 ∧ e 16 = vi 2 ∧ e 17 = vi i) _ _ _ _ _ ?_ ?_
  · rintro e ⟨g0, g1, g2, g3, g4, g5⟩
    exact ⟨_, (go117_0 _ _).trans (by simp [B117_0, push_cast, -Int.not_lt, -Int.not_le, ↓evI_call, ↓evI_calli, ↓evI_calln, ↓evI_callz, ↓evI_callv, ↓evI_mxn, loopIn, loopIn0, keepL, emp, A.dang, A.dangC, g0, g1, g2, g3, g4, g5]; rfl), by simp [put_at, g1, g2]⟩
  · rintro i e hi ⟨g0, g1, g2, g3, g4, g5⟩
    rw [go117_0]
    have hi' : (i : Int) < (2 : Nat) := by omega
    have hw : IntKind.wrap .i64 ((i : Int) + 1) = (i : Int) + 1 := wrap_in _ (by omega) (by omega)
    have hx : 0 ≤ wX w b i ∧ wX w b i ≤ 9223372036854775807 := by unfold wX; split <;> omega
    have o1 := wO_bound w b p hp i
    have n1 := wN_bound w b p (by omega) hb hp i
    have q1 : IntKind.wrap .i64 ((wX w b i).tdiv p) = wX w b i / p := by
      rw [Int.tdiv_eq_ediv_of_nonneg hx.1]
      have := Int.ediv_nonneg hx.1 (show 0 ≤ p by omega)
      have := Int.ediv_le_self p hx.1
      exact wrap_i _ (by omega) (by omega)
    have q2 : (wX w b i).tmod p = wX w b i % p := Int.tmod_eq_emod_of_nonneg hx.1
    have h2 := Int.emod_nonneg (wX w b i) (show p ≠ 0 by omega)
    have h3 := Int.emod_lt_of_pos (wX w b i) (show 0 < p by omega)
    have h5 : 0 ≤ wX w b i / p := Int.ediv_nonneg hx.1 (by omega)
    have q3 : IntKind.wrap .i64 (wO w b p i + wX w b i % p) = wO w b p i + wX w b i % p := wrap_i _ (by omega) (by omega)
    have q4 : IntKind.wrap .i64 (wO w b p i + wX w b i % p - p) = wO w b p i + wX w b i % p - p := wrap_i _ (by omega) (by omega)
    have q5 : IntKind.wrap .i64 (wN w b p i + (if 1000000 < wX w b i / p then 1000000 else wX w b i / p)) = wN w b p i + (if 1000000 < wX w b i / p then 1000000 else wX w b i / p) := wrap_i _ (by split <;> omega) (by split <;> omega)
    have q6 : IntKind.wrap .i64 (wN w b p i + (if 1000000 < wX w b i / p then 1000000 else wX w b i / p) + 1) = wN w b p i + (if 1000000 < wX w b i / p then 1000000 else wX w b i / p) + 1 := wrap_i _ (by split <;> omega) (by split <;> omega)
    have q7 : foldM false (wX w b i / p) [vi 1000000] = some (if 1000000 < wX w b i / p then 1000000 else wX w b i / p) := rfl
    have p0 : ¬ p = 0 := by omega
    have hi2 : (i : Int) < 2 := by omega
    rw [wN, wO]
    generalize (if 1000000 < wX w b i / p then (1000000 : Int) else wX w b i / p) = m at q5 q6 q7 ⊢
    generalize wX w b i % p = y at q2 q3 q4 h2 h3 ⊢
    generalize wO w b p i = o at q3 q4 o1 g2 ⊢
    generalize wN w b p i = N at q5 q6 n1 g1 ⊢
    simp +contextual (maxSteps := 400000) [B117_0, push_cast, -Int.not_lt, -Int.not_le, ↓evI_call, ↓evI_calli, ↓evI_calln, ↓evI_callz, ↓evI_callv, ↓evI_mxn, loopIn, loopIn0, keepL, emp, A.dang, A.dangC, g0, g1, g2, g3, g4, g5, hi, hi', wX_drop w b i hi, hw, q1, q2, q3, q4, q5, q6, q7, p0, hi2]
    refine Step.split (fun cc => ?_) (fun cc => ?_) <;> refine Step.go rfl ?_ <;> simp [put_at, cc]
theorem wide_eq (w b p : Int) (hw : 1 ≤ w) (hb : 0 ≤ b) (hp : 1 ≤ p) : min (if 0 < wO w b p 2 then wN w b p 2 + 1 else wN w b p 2) 1000000 = min (ceilS (w + b) p) 1000000 := by
  have d1 := Int.mul_ediv_add_emod w p
  have d2 := Int.mul_ediv_add_emod b p
  have r1 := Int.emod_nonneg w (show p ≠ 0 by omega)
  have r2 := Int.emod_nonneg b (show p ≠ 0 by omega)
  have r3 := Int.emod_lt_of_pos w (show 0 < p by omega)
  have r4 := Int.emod_lt_of_pos b (show 0 < p by omega)
  have v1 := Int.ediv_nonneg (show 0 ≤ w by omega) (show 0 ≤ p by omega)
  have v2 := Int.ediv_nonneg hb (show 0 ≤ p by omega)
  have hc : ceilS (w + b) p = w / p + b / p + (if w % p + b % p = 0 then 0 else if w % p + b % p ≤ p then 1 else 2) := by
    have e : w + b + p - 1 = (w % p + b % p + p - 1) + p * (w / p + b / p) := by rw [Int.mul_add]; omega
    unfold ceilS
    rw [e, Int.add_mul_ediv_left _ _ (by omega)]
    split
    · rw [Int.ediv_eq_zero_of_lt (by omega) (by omega)]; omega
    · split
      · have e2 : w % p + b % p + p - 1 = (w % p + b % p - 1) + p * 1 := by omega
        rw [e2, Int.add_mul_ediv_left _ _ (by omega), Int.ediv_eq_zero_of_lt (by omega) (by omega)]; omega
      · have e2 : w % p + b % p + p - 1 = (w % p + b % p - 1 - p) + p * 2 := by omega
        rw [e2, Int.add_mul_ediv_left _ _ (by omega), Int.ediv_eq_zero_of_lt (by omega) (by omega)]; omega
  rw [hc]
  simp only [wO, wN, wX, if_true, Nat.one_ne_zero, if_false, Int.zero_add]
  generalize w / p = c1 at *
  generalize b / p = c2 at *
  generalize w % p = y1 at *
  generalize b % p = y2 at *
  clear d1 d2
  simp only [r3, if_true]
  by_cases k1 : y1 + y2 < p <;> simp only [k1, if_true, if_false] <;> repeat' split
  all_goals omega
theorem wide_is (w b p : Int) (hw : 1 ≤ w) (hw' : w ≤ 9223372036854775807) (hb : 0 ≤ b) (hb' : b ≤ 9223372036854775807) (hp : 1 ≤ p) (hp' : p ≤ 3000) : Ans (vi (min (ceilS (w + b) p) 1000000)) [] (callL tab0 ext0 117 [vi w, vi b, vi p] []) := by
  rw [callL_tab _ _ rfl tab117 rfl]
  have n1 := wN_bound w b p (by omega) hb hp 2
  have hw1 : IntKind.wrap .i64 (wN w b p 2 + 1) = wN w b p 2 + 1 := wrap_i _ (by omega) (by omega)
  rw [← wide_eq w b p hw hb hp]
  simp [C117, push_cast, -Int.not_lt, -Int.not_le, ↓evI_call, ↓evI_calli, ↓evI_calln, ↓evI_callz, ↓evI_callv, ↓evI_mxn]
  refine behindP (P := fun r => Ans _ [] r) (wide_loop w b p hw hw' hb hb' hp hp' 2 0 _ (by omega) (by simp [put_at, wN, wO])) ?_
  intro a h
  obtain ⟨e', rfl, hx⟩ := h.never; clear h; have h := hx
  obtain ⟨k1, k2⟩ := h
  simp [push_cast, -Int.not_lt, -Int.not_le, ↓evI_call, ↓evI_calli, ↓evI_calln, ↓evI_callz, ↓evI_callv, ↓evI_mxn, k1, k2, hw1, foldM]
  refine Ans.split (fun c => ?_) (fun c => ?_)
  · refine Ans.nil ?_; simp [c]; omega
  · refine Ans.nil ?_; simp [c]; omega
theorem jobs_is (w b p : Int) (hw1 : I64' w) (hb1 : I64' b) (hp' : p ≤ 3000) : Ans (vi (jobsS w b p)) [] (callL tab0 ext0 108 [vi w, vi b, vi p] []) := by
  rw [callL_tab _ _ rfl tab108 rfl]
  unfold jobsS
  obtain ⟨_, hw'⟩ := hw1
  obtain ⟨_, hb'⟩ := hb1
  by_cases h0 : w < 1 ∨ b < 0 ∨ p < 1
  · rw [if_pos h0]
    rcases h0 with h | h | h
    · simp [C108, push_cast, -Int.not_lt, -Int.not_le, ↓evI_call, ↓evI_calli, ↓evI_calln, ↓evI_callz, ↓evI_callv, ↓evI_mxn, h]
      exact Ans.nil rfl
    · by_cases h2 : w < 1 <;> simp [C108, push_cast, -Int.not_lt, -Int.not_le, ↓evI_call, ↓evI_calli, ↓evI_calln, ↓evI_callz, ↓evI_callv, ↓evI_mxn, h, h2] <;> exact Ans.nil rfl
    · by_cases h2 : w < 1 <;> by_cases h3 : b < 0 <;> simp [C108, push_cast, -Int.not_lt, -Int.not_le, ↓evI_call, ↓evI_calli, ↓evI_calln, ↓evI_callz, ↓evI_callv, ↓evI_mxn, h, h2, h3] <;> exact Ans.nil rfl
  · rw [if_neg h0]
    have c1 : ¬ w < 1 := by omega
    have c2 : ¬ b < 0 := by omega
    have c3 : ¬ p < 1 := by omega
    have f1 := pure_tupb (k := false) (add_is w b (by omega) (by omega) hw' hb')
    by_cases hs : w + b ≤ 9223372036854775807
    · have f2 := pure_tupb (k := false) (up_is (w + b) p (by omega) (by omega) hs (by omega))
      have f3 := pure_vi (k := false) (held_is (ceilS (w + b) p) true)
      simp only [hs, if_true, decide_true] at f1 f3
      simp [C108, push_cast, -Int.not_lt, -Int.not_le, ↓evI_call, ↓evI_calli, ↓evI_calln, ↓evI_callz, ↓evI_callv, ↓evI_mxn, c1, c2, c3, f1, f2, f3]
      exact Ans.nil rfl
    · have f2 := pure_vi (k := false) (wide_is w b p (by omega) hw' (by omega) hb' (by omega) hp')
      simp only [hs, if_false, decide_false] at f1
      simp [C108, push_cast, -Int.not_lt, -Int.not_le, ↓evI_call, ↓evI_calli, ↓evI_calln, ↓evI_callz, ↓evI_callv, ↓evI_mxn, c1, c2, c3, f1, f2]
      exact Ans.nil rfl
theorem work_is (w b p e : Int) (hw1 : I64' w) (hb1 : I64' b) (hp' : p ≤ 3000) (he : e ≤ 1000000) : Ans (vi (workS w b p e)) [] (callL tab0 ext0 88 [vi w, vi b, vi p, vi e] []) := by
  rw [callL_tab _ _ rfl tab88 rfl]
  have f1 := pure_vi (k := false) (jobs_is w b p hw1 hb1 hp')
  have hj := jobs_le w b p
  have f2 := pure_tupb (k := false) (mul_is (jobsS w b p) (max e 0) hj.1 (by omega) hj.2 (by omega))
  have f3 := pure_vi (k := false) (held_is (jobsS w b p * max e 0) true)
  have hm : foldM true e [vi 0] = some (max e 0) := by show some (if 0 > e then 0 else e) = _; congr 1; split <;> omega
  simp only [if_true] at f3
  unfold workS
  generalize max e 0 = m at f2 f3 hm ⊢
  simp [C88, push_cast, -Int.not_lt, -Int.not_le, ↓evI_call, ↓evI_calli, ↓evI_calln, ↓evI_callz, ↓evI_callv, ↓evI_mxn, f1, f2, f3, hm]
  exact Ans.nil rfl
end Go.Proofs.YtgndbkeiickihaaEv
