/- However a task's jobs are released, no more of them are under way in a window than count tells. No condition. -/
import Derived.Test.YtapjngmlocgdoaaPCountReleasesx2
namespace Go.Proofs.Ytapjngmlocgdoaa.Pure
open Go.RowKit Go.Proofs.Ytapjngmlocgdoaa.PCountReleases Go.Proofs.YtapjngmlocgdoaaW.PrintWords Go.Proofs.YtapjngmlocgdoaaW.PrintLast Go.Proofs.YtapjngmlocgdoaaW.PrintMore

/-! ### plain facts of calc's functions -/
/-- It is an int64. -/
def inI (n : Int) : Prop := -9223372036854775808 ≤ n ∧ n ≤ 9223372036854775807
/-- A number, if it is an int64; else none. -/
def told (n : Int) : Int × Bool := if -9223372036854775808 ≤ n ∧ n ≤ 9223372036854775807 then (n, true) else (0, false)
theorem told_in {n : Int} (h : inI n) : told n = (n, true) := if_pos h
theorem told_out {n : Int} (h : ¬ inI n) : told n = (0, false) := if_neg h
theorem wf_in {n : Int} (h : (Lit.int .i64 n).wf = true) : inI n := by
  simp only [Lit.wf, Bool.and_eq_true, decide_eq_true_eq] at h
  have e1 : IntKind.min .i64 = -9223372036854775808 := by decide
  have e2 : IntKind.max .i64 = 9223372036854775807 := by decide
  rw [e1, e2] at h
  exact h
theorem wrap64_in {n : Int} (h : inI n) : wrap64 n = n := by unfold inI at h; unfold wrap64; omega
theorem u64_eq (z : Int) : IntKind.u64.wrap z = z % 18446744073709551616 := by
  have e : (2 ^ IntKind.u64.bits : Int) = 18446744073709551616 := by decide
  unfold IntKind.wrap
  rw [e]
  simp [IntKind.signed]
theorem add_eq {a b : Int} (ha : inI a) (hb : inI b) : calc_Add.f a b = some (told (a + b)) := by
  unfold calc_Add.f told
  unfold inI at ha hb
  unfold wrap64
  split
  · rename_i h
    split
    · rename_i h2
      rw [if_neg]
      simp at h h2
      omega
    · rename_i h2
      have : (a < 0 ↔ b < 0) := by simpa using h
      have h3 : ((a + b + 9223372036854775808) % 18446744073709551616 - 9223372036854775808 < 0 ↔ a < 0) := by simpa using h2
      rw [if_pos (by omega)]
      congr 2; omega
  · rename_i h
    have : ¬ (a < 0 ↔ b < 0) := by simpa using h
    rw [if_pos (by omega)]
    congr 2; omega
theorem size_eq {a : Int} (ha : inI a) : calc_size.f a = some (a.natAbs : Int) := by
  unfold calc_size.f
  unfold inI at ha
  split
  · rw [u64_eq, u64_eq]; congr 1; omega
  · rw [u64_eq]; congr 1; omega
theorem signed_eq {k : Nat} {n : Int} (hn : 0 ≤ n) (h2 : n < 18446744073709551616) (below : Bool) : calc_signed.f (k + 1) n below = some (told (if below = true then -n else n)) := by
  unfold calc_signed.f told
  by_cases h0 : n = 0
  · subst h0; cases below <;> rfl
  · rw [if_neg h0]
    cases below with
    | true =>
      simp only [if_true, calc_signed.j0]
      by_cases h : n ≤ 9223372036854775808
      · rw [if_pos (by simpa using h), if_pos (by omega), u64_eq]
        unfold wrap64
        congr 2; omega
      · rw [if_neg (by simpa using h), if_neg (by omega)]
    | false =>
      simp only [Bool.false_eq_true, if_false, calc_signed.j0]
      by_cases h : n ≤ 9223372036854775807
      · rw [if_pos h, if_pos (by omega)]
        unfold wrap64
        congr 2; omega
      · rw [if_neg h, if_neg (by omega)]
/-- The sign of a product, a quotient. -/
def below2 (a b : Int) : Bool := (decide (a < 0)) != (decide (b < 0))
theorem below2_true {a b : Int} : below2 a b = true ↔ ¬ (a < 0 ↔ b < 0) := by simp [below2]
theorem below2_false {a b : Int} : below2 a b = false ↔ (a < 0 ↔ b < 0) := by simp [below2]
theorem and_low (x : Int) (h : 0 ≤ x) (h2 : x < 18446744073709551616) : Go.bits .and .u64 x 4294967295 = x % 4294967296 :=
  bits_mask .u64 64 (by decide) (fun n h0 h1 => by rw [u64_eq]; omega) 32 (by decide) x h h2
theorem mul_small {x y : Int} (hx : 0 ≤ x) (hx2 : x ≤ 4294967295) (hy : 0 ≤ y) (hy2 : y ≤ 4294967295) : 0 ≤ x * y ∧ x * y ≤ 18446744065119617025 := by
  refine ⟨Int.mul_nonneg hx hy, ?_⟩
  calc x * y ≤ 4294967295 * y := Int.mul_le_mul_of_nonneg_right hx2 hy
    _ ≤ 4294967295 * 4294967295 := Int.mul_le_mul_of_nonneg_left hy2 (by decide)
    _ = 18446744065119617025 := by decide
theorem mul64_eq {a b : Int} (ha : 0 ≤ a) (ha2 : a < 18446744073709551616) (hb : 0 ≤ b) (hb2 : b < 18446744073709551616) :
    bits_Mul64.f a b = some (a * b / 18446744073709551616, a * b % 18446744073709551616) := by
  unfold bits_Mul64.f
  rw [and_low a ha ha2, and_low b hb hb2]
  obtain ⟨p1, p2⟩ := mul_small (x := a / 4294967296) (y := b / 4294967296) (by omega) (by omega) (by omega) (by omega)
  obtain ⟨q1, q2⟩ := mul_small (x := a / 4294967296) (y := b % 4294967296) (by omega) (by omega) (by omega) (by omega)
  obtain ⟨r1, r2⟩ := mul_small (x := a % 4294967296) (y := b / 4294967296) (by omega) (by omega) (by omega) (by omega)
  obtain ⟨s1, s2⟩ := mul_small (x := a % 4294967296) (y := b % 4294967296) (by omega) (by omega) (by omega) (by omega)
  have e : a * b = (a / 4294967296) * (b / 4294967296) * 18446744073709551616 + ((a / 4294967296) * (b % 4294967296) + (a % 4294967296) * (b / 4294967296)) * 4294967296 + (a % 4294967296) * (b % 4294967296) := by
    have h1 : a = (a / 4294967296) * 4294967296 + a % 4294967296 := by omega
    have h2 : b = (b / 4294967296) * 4294967296 + b % 4294967296 := by omega
    generalize a / 4294967296 = x at *
    generalize a % 4294967296 = y at *
    generalize b / 4294967296 = z at *
    generalize b % 4294967296 = u at *
    rw [h1, h2]
    simp only [Int.add_mul, Int.mul_add]
    have g1 : x * 4294967296 * (z * 4294967296) = x * z * 18446744073709551616 := by rw [Int.mul_assoc, Int.mul_comm 4294967296 (z * 4294967296), Int.mul_assoc z, ← Int.mul_assoc]; rfl
    have g2 : x * 4294967296 * u = x * u * 4294967296 := by rw [Int.mul_assoc, Int.mul_comm 4294967296 u, ← Int.mul_assoc]
    have g3 : y * (z * 4294967296) = y * z * 4294967296 := by rw [← Int.mul_assoc]
    rw [g1, g2, g3]
    omega
  rw [u64_eq (a * b), e]
  generalize (a / 4294967296) * (b / 4294967296) = p at *
  generalize (a / 4294967296) * (b % 4294967296) = q at *
  generalize (a % 4294967296) * (b / 4294967296) = r at *
  generalize (a % 4294967296) * (b % 4294967296) = s at *
  clear e
  rw [u64_eq p, u64_eq q, u64_eq s, u64_eq r]
  rw [and_low _ (by rw [u64_eq]; omega) (by rw [u64_eq]; omega)]
  simp only [u64_eq]
  congr 2
  omega
theorem mul_eq {k : Nat} {a b : Int} (ha : inI a) (hb : inI b) : calc_Mul.f (k + 1) a b = some (told (a * b)) := by
  have ha' := ha; have hb' := hb
  unfold inI at ha' hb'
  unfold calc_Mul.f
  rw [size_eq ha, size_eq hb]
  simp only [Option.bind_some]
  rw [mul64_eq (by omega) (by omega) (by omega) (by omega)]
  simp only [Option.bind_some]
  have em : (a.natAbs : Int) * (b.natAbs : Int) = ((a * b).natAbs : Int) := by rw [Int.natAbs_mul]; rfl
  rw [em]
  have hs : ((decide (a < 0)) != (decide (b < 0))) = true → a * b ≤ 0 := by
    intro h
    have h2 : ¬ (a < 0 ↔ b < 0) := by simpa using h
    by_cases h3 : a < 0
    · exact Int.mul_nonpos_of_nonpos_of_nonneg (by omega) (by omega)
    · exact Int.mul_nonpos_of_nonneg_of_nonpos (by omega) (by omega)
  have hs' : ((decide (a < 0)) != (decide (b < 0))) = false → 0 ≤ a * b := by
    intro h
    have h2 : (a < 0 ↔ b < 0) := by simpa using h
    by_cases h3 : a < 0
    · exact Int.mul_nonneg_of_nonpos_of_nonpos (by omega) (by omega)
    · exact Int.mul_nonneg (by omega) (by omega)
  by_cases h : ((a * b).natAbs : Int) / 18446744073709551616 > 0
  · rw [if_pos h, told_out]
    unfold inI; omega
  · rw [if_neg h, signed_eq (by omega) (by omega)]
    simp only [Option.bind_some]
    cases hc : ((decide (a < 0)) != (decide (b < 0))) with
    | true =>
      have := hs hc
      have e : (if true = true then -(((a * b).natAbs : Int) % 18446744073709551616) else ((a * b).natAbs : Int) % 18446744073709551616) = a * b := by rw [if_pos rfl]; omega
      rw [e]
    | false =>
      have := hs' hc
      have e : (if false = true then -(((a * b).natAbs : Int) % 18446744073709551616) else ((a * b).natAbs : Int) % 18446744073709551616) = a * b := by rw [if_neg (by simp)]; omega
      rw [e]
theorem bind_pair {α β : Type} (p : α × β) : ((some p).bind fun b => some (b.1, b.2)) = some p := rfl
/-- A quotient rounded up (of a divisor that is not 0). -/
def cd (a b : Int) : Int := if ((decide (a < 0)) != (decide (b < 0))) = true then -((a.natAbs : Int) / (b.natAbs : Int)) else (a.natAbs : Int) / (b.natAbs : Int) + (if (a.natAbs : Int) % (b.natAbs : Int) > 0 then 1 else 0)
theorem up_zero {k : Nat} {a : Int} : calc_Up.f k a 0 = some (0, false) := rfl
theorem up_eq {k : Nat} {a b : Int} (ha : inI a) (hb : inI b) (h0 : b ≠ 0) : calc_Up.f (k + 1) a b = some (told (cd a b)) := by
  have ha' := ha; have hb' := hb
  unfold inI at ha' hb'
  unfold calc_Up.f cd
  rw [if_neg h0, size_eq ha, size_eq hb]
  simp only [Option.bind_some]
  rw [if_neg (by omega), Int.tmod_eq_emod_of_nonneg (by omega), Int.tdiv_eq_ediv_of_nonneg (by omega)]
  have q0 : 0 ≤ (a.natAbs : Int) / (b.natAbs : Int) := Int.ediv_nonneg (by omega) (by omega)
  have q1 : (a.natAbs : Int) / (b.natAbs : Int) ≤ a.natAbs := by
    have := Int.ediv_le_self (a := (a.natAbs : Int)) (b.natAbs : Int) (by omega)
    exact this
  generalize (a.natAbs : Int) / (b.natAbs : Int) = q at *
  generalize (a.natAbs : Int) % (b.natAbs : Int) = r at *
  simp only [u64_eq]
  have e1 : q % 18446744073709551616 = q := by omega
  have e2 : (q + 1) % 18446744073709551616 = q + 1 := by omega
  rw [e1, e2]
  by_cases hr : r > 0
  · rw [if_pos hr, if_pos hr]
    by_cases hc : ((decide (a < 0)) != (decide (b < 0))) = true
    · rw [if_pos hc, if_pos hc, signed_eq q0 (by omega), if_pos rfl, bind_pair]
    · rw [if_neg hc, if_neg hc, signed_eq (by omega) (by omega), if_neg (by simp), bind_pair]
  · rw [if_neg hr, if_neg hr, signed_eq q0 (by omega), bind_pair]
    by_cases hc : ((decide (a < 0)) != (decide (b < 0))) = true
    · rw [if_pos hc, if_pos hc]
    · rw [if_neg hc, if_neg hc, Int.add_zero]
/-- What is rounded up is the least that is enough. -/
theorem cd_enough {a b : Int} (hb : 0 < b) : a ≤ cd a b * b ∧ (cd a b - 1) * b < a := by
  have hbn : ((b.natAbs : Nat) : Int) = b := by omega
  unfold cd
  rw [hbn]
  have hd : decide (b < 0) = false := by simp; omega
  rw [hd]
  have hm := Int.mul_ediv_add_emod (a.natAbs : Int) b
  have h1 := Int.emod_nonneg (a.natAbs : Int) (show b ≠ 0 by omega)
  have h2 := Int.emod_lt_of_pos (a.natAbs : Int) hb
  generalize (a.natAbs : Int) / b = q at *
  generalize (a.natAbs : Int) % b = r at *
  have hcomm : q * b = b * q := Int.mul_comm _ _
  by_cases h : a < 0
  · have : decide (a < 0) = true := by simpa using h
    rw [this, if_pos (by decide), Int.sub_mul, Int.neg_mul]
    omega
  · have : decide (a < 0) = false := by simpa using h
    rw [this, if_neg (by decide)]
    by_cases hr : r > 0
    · rw [if_pos hr, Int.add_sub_cancel, Int.add_mul]; omega
    · rw [if_neg hr, Int.add_zero, Int.sub_mul]; omega
theorem cd_unique {a b n : Int} (hb : 0 < b) (h1 : a ≤ n * b) (h2 : (n - 1) * b < a) : cd a b = n := by
  obtain ⟨g1, g2⟩ := cd_enough (a := a) hb
  have k1 : (cd a b - 1) * b < n * b := by omega
  have k2 : (n - 1) * b < cd a b * b := by omega
  have := Int.lt_of_mul_lt_mul_right k1 (by omega)
  have := Int.lt_of_mul_lt_mul_right k2 (by omega)
  omega

/-! ### plain facts of count's functions (periods up to 2^62) -/
/-- How many jobs. -/
def jobsS (w b p : Int) : Int := if w < 1 ∨ b < 0 ∨ p < 1 then 0 else min ((w + b + p - 1) / p) 1000000
theorem held_eq {n : Int} (h : inI n) : count_held.f (told n).1 (told n).2 = some (min n 1000000) := by
  rw [told_in h]
  unfold count_held.f mn
  simp only [if_true]
  congr 1
  omega
theorem cd_pos {a b : Int} (_ : 0 ≤ a) (hb : 0 < b) : cd a b = (a + b - 1) / b := by
  refine cd_unique hb ?_ ?_
  · have h1 := Int.mul_ediv_add_emod (a + b - 1) b
    have h2 := Int.emod_lt_of_pos (a + b - 1) hb
    have h3 : b * ((a + b - 1) / b) = (a + b - 1) / b * b := Int.mul_comm _ _
    omega
  · have h1 := Int.mul_ediv_add_emod (a + b - 1) b
    have h2 := Int.emod_nonneg (a + b - 1) (show b ≠ 0 by omega)
    have h3 : b * ((a + b - 1) / b) = (a + b - 1) / b * b := Int.mul_comm _ _
    rw [Int.sub_mul]
    omega
theorem cd_small {a b : Int} (ha : inI a) (ha0 : 0 ≤ a) (hb : 0 < b) : inI (cd a b) := by
  have q0 : 0 ≤ (a.natAbs : Int) / (b.natAbs : Int) := Int.ediv_nonneg (by omega) (by omega)
  have q1 : (a.natAbs : Int) / (b.natAbs : Int) ≤ a.natAbs := Int.ediv_le_self (a := (a.natAbs : Int)) (b.natAbs : Int) (by omega)
  have e : cd a b = (a + b - 1) / b := cd_pos ha0 hb
  have hc := cd_enough (a := a) hb
  unfold inI at *
  have h1 : 0 ≤ cd a b := by rw [e]; exact Int.ediv_nonneg (by omega) (by omega)
  have h2 : cd a b ≤ a ∨ cd a b ≤ 1 := by
    by_cases h : cd a b ≤ 1
    · exact .inr h
    · refine .inl ?_
      have h3 : (cd a b - 1) * 1 ≤ (cd a b - 1) * b := Int.mul_le_mul_of_nonneg_left (by omega) (by omega)
      omega
  omega
theorem div_parts (x p : Int) (hp : 0 < p) : ∃ q r, x / p = q ∧ Int.tmod x p = Int.tmod x p ∧ x = q * p + r ∧ 0 ≤ r ∧ r < p ∧ x % p = r :=
  ⟨x / p, x % p, rfl, rfl, by rw [Int.mul_comm]; exact (Int.mul_ediv_add_emod x p).symm, Int.emod_nonneg x (by omega), Int.emod_lt_of_pos x hp, rfl⟩
theorem wide_eq {k : Nat} {w b p : Int} (hw : inI w) (hb : inI b) (h1 : 1 ≤ w) (h2 : 0 ≤ b) (h3 : 1 ≤ p) (h4 : p ≤ 4611686018427387904) : count_wide.f (k + 3) w b p = some (min ((w + b + p - 1) / p) 1000000) := by
  unfold inI at hw hb
  obtain ⟨a, r, ea, _, exa, hr0, hr1, er⟩ := div_parts w p (by omega)
  obtain ⟨c, s, ec, _, exc, hs0, hs1, es⟩ := div_parts b p (by omega)
  have ha0 : 0 ≤ a := by rw [← ea]; exact Int.ediv_nonneg (by omega) (by omega)
  have hc0 : 0 ≤ c := by rw [← ec]; exact Int.ediv_nonneg (by omega) (by omega)
  have ha1 : a ≤ w := by rw [← ea]; exact Int.ediv_le_self _ (by omega)
  have hc1 : c ≤ b := by rw [← ec]; exact Int.ediv_le_self _ (by omega)
  have hx : w + b + p - 1 = (r + s + p - 1) + (a + c) * p := by rw [Int.add_mul]; omega
  have hq : (w + b + p - 1) / p = (r + s + p - 1) / p + (a + c) := by rw [hx, Int.add_mul_ediv_right _ _ (by omega)]
  have hz : (r + s + p - 1) / p = if r + s = 0 then 0 else if r + s ≤ p then 1 else 2 := by
    split
    · exact Int.ediv_eq_zero_of_lt (by omega) (by omega)
    · split
      · have : r + s + p - 1 = (r + s - 1) + 1 * p := by omega
        rw [this, Int.add_mul_ediv_right _ _ (by omega), Int.ediv_eq_zero_of_lt (by omega) (by omega)]; rfl
      · have : r + s + p - 1 = (r + s - 1 - p) + 2 * p := by omega
        rw [this, Int.add_mul_ediv_right _ _ (by omega), Int.ediv_eq_zero_of_lt (by omega) (by omega)]; rfl
  unfold count_wide.f
  simp only [Option.bind_some, List.length_cons, List.length_nil]
  have d0 : Int.tdiv w p = a := by rw [Int.tdiv_eq_ediv_of_nonneg (by omega), ea]
  have d1 : Int.tdiv b p = c := by rw [Int.tdiv_eq_ediv_of_nonneg (by omega), ec]
  have m0 : Int.tmod w p = r := by rw [Int.tmod_eq_emod_of_nonneg (by omega), er]
  have m1 : Int.tmod b p = s := by rw [Int.tmod_eq_emod_of_nonneg (by omega), es]
  have g0 : rd [w, b] 0 = w := rfl
  have g1 : rd [w, b] 1 = b := rfl
  have w1 : wrap64 (0 + 1) = 1 := by unfold wrap64; rfl
  have w2 : wrap64 (1 + 1) = 2 := by unfold wrap64; rfl
  have mna : mn a 1000000 = min a 1000000 := by unfold mn; omega
  have mnc : mn c 1000000 = min c 1000000 := by unfold mn; omega
  rw [count_wide.l0, if_pos (by simp), if_pos (by decide), if_pos (by simp), if_neg (by omega), g0, d0, m0, Int.zero_add, wrap64_in (n := r) (by unfold inI; omega), if_pos hr1, w1, wrap64_in (n := a) (by unfold inI; omega), mna, Int.zero_add, wrap64_in (n := min a 1000000) (by unfold inI; omega)]
  rw [count_wide.l0, if_pos (by simp), if_pos (by decide), if_pos (by simp), if_neg (by omega), g1, d1, m1, w2, wrap64_in (n := c) (by unfold inI; omega), mnc, wrap64_in (n := r + s) (by unfold inI; omega), wrap64_in (n := min a 1000000 + min c 1000000) (by unfold inI; omega)]
  rw [hq, hz]
  by_cases h : r + s < p
  · rw [if_pos h, count_wide.l0, if_neg (by decide)]
    by_cases h0 : r + s > 0
    · rw [if_pos h0, wrap64_in (by unfold inI; omega), if_neg (by omega), if_pos (by omega)]
      unfold mn
      congr 1; omega
    · rw [if_neg h0, if_pos (by omega)]
      unfold mn
      congr 1; omega
  · rw [if_neg h, wrap64_in (n := min a 1000000 + min c 1000000 + 1) (by unfold inI; omega), wrap64_in (n := r + s - p) (by unfold inI; omega), count_wide.l0, if_neg (by decide)]
    by_cases h0 : r + s - p > 0
    · rw [if_pos h0, wrap64_in (by unfold inI; omega), if_neg (by omega), if_neg (by omega)]
      unfold mn
      congr 1; omega
    · rw [if_neg h0, if_neg (by omega), if_pos (by omega)]
      unfold mn
      congr 1; omega
theorem jobs_eq {k : Nat} {w b p : Int} (hw : inI w) (hb : inI b) (hp : inI p) (h4 : p ≤ 4611686018427387904) : count_Jobs.f (k + 4) w b p = some (jobsS w b p) := by
  have hw' := hw; have hb' := hb; have hp' := hp
  unfold inI at hw' hb' hp'
  unfold count_Jobs.f jobsS
  by_cases h1 : w < 1
  · rw [if_pos h1, if_pos (.inl h1)]; rfl
  · by_cases h2 : b < 0
    · rw [if_neg h1, if_pos h2, if_pos (.inr (.inl h2))]; rfl
    · rw [if_neg h1, if_neg h2]
      by_cases h3 : p < 1
      · rw [if_pos (.inr (.inr h3)), show decide (p < 1) = true by simpa using h3]; rfl
      · rw [if_neg (fun h => h.elim h1 (fun h => h.elim h2 h3)), show decide (p < 1) = false by simpa using h3]
        rw [count_Jobs.j0, if_neg (by decide), add_eq hw hb]
        by_cases h : inI (w + b)
        · have eu : calc_Up.f (k + 3) (w + b) p = some (told (cd (w + b) p)) := up_eq h hp (by omega)
          rw [told_in h]
          simp only [Option.bind_some, if_true]
          rw [eu]
          simp only [Option.bind_some]
          rw [held_eq (cd_small h (by omega) (by omega)), cd_pos (by omega) (by omega)]
          rfl
        · rw [told_out h]
          simp only [Option.bind_some, Bool.false_eq_true, if_false]
          rw [wide_eq hw hb (by omega) (by omega) (by omega) h4]
          rfl
theorem jobs_bounds (w b p : Int) : 0 ≤ jobsS w b p ∧ jobsS w b p ≤ 1000000 := by
  unfold jobsS
  split
  · omega
  · have : 0 ≤ (w + b + p - 1) / p := Int.ediv_nonneg (by omega) (by omega)
    omega
/-- How much work. -/
def workS (w b p e : Int) : Int := min (jobsS w b p * max e 0) 1000000
theorem work_eq {k : Nat} {w b p e : Int} (hw : inI w) (hb : inI b) (hp : inI p) (h4 : p ≤ 4611686018427387904) (he : inI e) : count_Work.f (k + 4) w b p e = some (workS w b p e) := by
  have he' := he
  unfold inI at he'
  obtain ⟨j0, j1⟩ := jobs_bounds w b p
  unfold count_Work.f workS
  rw [jobs_eq hw hb hp h4]
  simp only [Option.bind_some]
  have em : mx e 0 = max e 0 := by unfold mx; omega
  rw [em]
  have eu : calc_Mul.f (k + 4) (jobsS w b p) (max e 0) = some (told (jobsS w b p * max e 0)) := mul_eq (by unfold inI; omega) (by unfold inI; omega)
  rw [eu]
  simp only [Option.bind_some]
  have hn : 0 ≤ jobsS w b p * max e 0 := Int.mul_nonneg j0 (by omega)
  by_cases h : inI (jobsS w b p * max e 0)
  · rw [held_eq h]; rfl
  · rw [told_out h]
    unfold inI at h
    unfold count_held.f
    rw [if_neg (by decide)]
    simp only [Option.bind_some]
    congr 1; omega
theorem count_known : swingbridgelaw12_known.f 10 = some true := by decide +kernel
theorem count_known_all (k : Nat) (hk : 10 ≤ k) : swingbridgelaw12_known.f k = some true := by
  obtain ⟨d, rfl⟩ : ∃ d, k = 10 + d := ⟨k - 10, by omega⟩
  clear hk
  induction d with
  | zero => exact count_known
  | succ d ih => exact swingbridgelaw12_known.mono (10 + d) _ ih
theorem wf_u8 {n : Int} (h : (Lit.int .u8 n).wf = true) : 0 ≤ n ∧ n ≤ 255 := by
  simp only [Lit.wf, Bool.and_eq_true, decide_eq_true_eq] at h
  exact h
theorem wf_u16 {n : Int} (h : (Lit.int .u16 n).wf = true) : 0 ≤ n ∧ n ≤ 65535 := by
  simp only [Lit.wf, Bool.and_eq_true, decide_eq_true_eq] at h
  exact h
theorem wf_u32 {n : Int} (h : (Lit.int .u32 n).wf = true) : 0 ≤ n ∧ n ≤ 4294967295 := by
  simp only [Lit.wf, Bool.and_eq_true, decide_eq_true_eq] at h
  exact h
theorem wf_u64 {n : Int} (h : (Lit.int .u64 n).wf = true) : 0 ≤ n ∧ n ≤ 18446744073709551615 := by
  simp only [Lit.wf, Bool.and_eq_true, decide_eq_true_eq] at h
  exact h

/-- What holds of the jobs that were counted: they stand p apart within the window and the bound ahead of it. -/
def RelInv (p b a w at_ n : Int) : Prop := (n = 0 ∨ a - b + 1 + n * p ≤ at_) ∧ (n = 0 ∨ (n - 1) * p ≤ w + b - 2)
theorem RelInv.end_ {p b a w at_ n : Int} (h : RelInv p b a w at_ n) (hp : 1 ≤ p) (hb : 1 ≤ b) (hw : 1 ≤ w) : n ≤ (w + b + p - 1) / p := by
  obtain ⟨_, h5⟩ := h
  rw [Int.le_ediv_iff_mul_le (by omega)]
  rcases h5 with h5 | h5
  · subst h5; omega
  · rw [Int.sub_mul] at h5; omega
theorem RelInv.more {p b a w at_ n x : Int} (h : RelInv p b a w at_ n) (hp : 1 ≤ p) (c1 : at_ < a + w) (c2 : at_ + b > a) (hx : 0 ≤ x) : RelInv p b a w (at_ + p + x) (n + 1) := by
  obtain ⟨h4, _⟩ := h
  have e2 : (n + 1) * p = n * p + p := by rw [Int.add_mul]; omega
  have e3 : (n + 1 - 1) * p = n * p := by rw [Int.add_sub_cancel]
  refine ⟨.inr ?_, .inr ?_⟩
  · rw [e2]
    rcases h4 with h4 | h4
    · subst h4; omega
    · omega
  · rw [e3]
    rcases h4 with h4 | h4
    · subst h4; omega
    · omega
theorem RelInv.on {p b a w at_ n x : Int} (h : RelInv p b a w at_ n) (hp : 1 ≤ p) (hx : 0 ≤ x) : RelInv p b a w (at_ + p + x) n :=
  ⟨h.1.imp id (fun h => by omega), h.2⟩
theorem in_small {x : Int} (h1 : -100000 ≤ x) (h2 : x ≤ 100000) : inI x := by unfold inI; omega
theorem releases_loop (l : List Int) (hl : l.length ≤ 60) (hw : ∀ x ∈ l, 0 ≤ x ∧ x ≤ 255) (p b a w : Int) (hp : 1 ≤ p ∧ p ≤ 40) (hb : 1 ≤ b ∧ b ≤ 60) (ha : 0 ≤ a ∧ a ≤ 500) (hww : 1 ≤ w ∧ w ≤ 300) :
    ∀ (d k i : Nat) (at_ n : Int), i + d = l.length → d + 5 < k → 0 ≤ n → n ≤ i → -1 ≤ at_ → at_ ≤ 70 * (i : Int) → RelInv p b a w at_ n →
      swingbridgelaw12_CountReleases.l0 k l p b a w at_ n (i : Int) = some true := by
  intro d
  induction d with
  | zero =>
    intro k i at_ n hid hk h0 h1 h2 h3 hI
    obtain ⟨k, rfl⟩ : ∃ m, k = m + 5 := ⟨k - 5, by omega⟩
    rw [swingbridgelaw12_CountReleases.l0, if_neg (by omega), jobs_eq (in_small (by omega) (by omega)) (in_small (by omega) (by omega)) (in_small (by omega) (by omega)) (by omega)]
    simp only [Option.bind_some, Option.some.injEq, decide_eq_true_eq]
    have e : jobsS w b p = min ((w + b + p - 1) / p) 1000000 := if_neg (by omega)
    have := hI.end_ hp.1 hb.1 hww.1
    omega
  | succ d ih =>
    intro k i at_ n hid hk h0 h1 h2 h3 hI
    obtain ⟨k, rfl⟩ : ∃ m, k = m + 1 := ⟨k - 1, by omega⟩
    have hlt : i < l.length := by omega
    have hx : 0 ≤ rd l (i : Int) ∧ rd l (i : Int) ≤ 255 := by
      refine hw _ ?_
      unfold rd
      simp [List.getD_eq_getElem?_getD, List.getElem?_eq_getElem hlt]
    rw [swingbridgelaw12_CountReleases.l0, if_pos (by omega)]
    generalize rd l (i : Int) = x at *
    have ht : Int.tmod x 30 = x % 30 := Int.tmod_eq_emod_of_nonneg (by omega)
    have e1 : wrap64 ((i : Int) + 1) = ((i + 1 : Nat) : Int) := by rw [wrap64_in (in_small (by omega) (by omega))]; omega
    have hy0 : 0 ≤ x % 30 := by omega
    have hy1 : x % 30 ≤ 29 := by omega
    rw [ht, e1]
    clear ht e1
    generalize x % 30 = y at *
    clear hx
    have hat : at_ ≤ 4200 := by omega
    have hn : n ≤ 60 := by omega
    rw [wrap64_in (n := a + w) (in_small (by omega) (by omega)), wrap64_in (n := at_ + b) (in_small (by omega) (by omega)), wrap64_in (n := at_ + p) (in_small (by omega) (by omega)), wrap64_in (n := y) (in_small (by omega) (by omega)), wrap64_in (n := at_ + p + y) (in_small (by omega) (by omega)), wrap64_in (n := n + 1) (in_small (by omega) (by omega))]
    by_cases c1 : at_ < a + w
    · rw [if_pos c1]
      by_cases c2 : at_ + b > a
      · rw [if_pos c2, if_pos (by omega)]
        exact ih k (i + 1) _ _ (by omega) (by omega) (by omega) (by omega) (by omega) (by omega) (hI.more hp.1 c1 c2 hy0)
      · rw [if_neg c2, if_pos (by omega)]
        exact ih k (i + 1) _ _ (by omega) (by omega) (by omega) (by omega) (by omega) (by omega) (hI.on hp.1 hy0)
    · rw [if_neg c1, if_pos (by omega)]
      exact ih k (i + 1) _ _ (by omega) (by omega) (by omega) (by omega) (by omega) (by omega) (hI.on hp.1 hy0)
theorem CountReleases : swingbridgelaw12_CountReleases.Pure := by
  intro l a1 a2 a3 a4 _ _ hl h1 h2 h3 h4
  have h1 := wf_u8 h1
  have h2 := wf_u8 h2
  have h3 := wf_u16 h3
  have h4 := wf_u16 h4
  have hl : ∀ x ∈ l, 0 ≤ x ∧ x ≤ 255 := fun x hx => wf_u8 (hl x hx)
  refine ⟨100, ?_⟩
  unfold swingbridgelaw12_CountReleases.f
  rw [count_known_all 100 (by decide)]
  simp only [Option.bind_some, if_true]
  by_cases h : (l.length : Int) > 60
  · rw [if_pos h]
  · rw [if_neg h, Int.tmod_eq_emod_of_nonneg (by omega), Int.tmod_eq_emod_of_nonneg (by omega), Int.tmod_eq_emod_of_nonneg (by omega), Int.tmod_eq_emod_of_nonneg (by omega)]
    rw [wrap64_in (n := a1 % 40) (by unfold inI; omega), wrap64_in (n := a2 % 60) (by unfold inI; omega), wrap64_in (n := a3 % 500) (by unfold inI; omega), wrap64_in (n := a4 % 300) (by unfold inI; omega), wrap64_in (n := a1 % 40 + 1) (by unfold inI; omega), wrap64_in (n := a2 % 60 + 1) (by unfold inI; omega), wrap64_in (n := a4 % 300 + 1) (by unfold inI; omega)]
    exact releases_loop l (by omega) hl _ _ _ _ (by omega) (by omega) (by omega) (by omega) l.length 100 0 0 0 (by omega) (by omega) (by decide) (by decide) (by decide) (by decide) ⟨.inl rfl, .inl rfl⟩

end Go.Proofs.Ytapjngmlocgdoaa.Pure
