/- Of every row of at most 60 numbers the program's sum as a whole, or that there is none, is the document's. No condition. -/
import Derived.Test.YtapjngmlocgdoaaPCalcSumsx2
namespace Go.Proofs.Ytapjngmlocgdoaa.Pure
open Go.RowKit Go.Proofs.Ytapjngmlocgdoaa.PCalcSums Go.Proofs.YtapjngmlocgdoaaW.PrintWords Go.Proofs.YtapjngmlocgdoaaW.PrintLast Go.Proofs.YtapjngmlocgdoaaW.PrintMore

/-! ### plain facts of calc's functions -/
/-- It is an int64. -/
def inI (n : Int) : Prop := -9223372036854775808 ≤ n ∧ n ≤ 9223372036854775807
/-- A number, if it is an int64; else none. -/
def told (n : Int) : Int × Bool := if -9223372036854775808 ≤ n ∧ n ≤ 9223372036854775807 then (n, true) else (0, false)
theorem told_in {n : Int} (h : inI n) : told n = (n, true) := if_pos h
theorem told_out {n : Int} (h : ¬ inI n) : told n = (0, false) := if_neg h
theorem wf_in {n : Int} (h : (Lit.int .i64 n).wf = true) : inI n := by
  simp only [Lit.wf, Bool.and_eq_true, decide_eq_true_eq] at h
  have e1 : IntKind.min .i64 = -9223372036854775808 := by decide
  have e2 : IntKind.max .i64 = 9223372036854775807 := by decide
  rw [e1, e2] at h
  exact h
theorem wrap64_in {n : Int} (h : inI n) : wrap64 n = n := by unfold inI at h; unfold wrap64; omega
theorem u64_eq (z : Int) : IntKind.u64.wrap z = z % 18446744073709551616 := by
  have e : (2 ^ IntKind.u64.bits : Int) = 18446744073709551616 := by decide
  unfold IntKind.wrap
  rw [e]
  simp [IntKind.signed]
theorem add_eq {a b : Int} (ha : inI a) (hb : inI b) : calc_Add.f a b = some (told (a + b)) := by
  unfold calc_Add.f told
  unfold inI at ha hb
  unfold wrap64
  split
  · rename_i h
    split
    · rename_i h2
      rw [if_neg]
      simp at h h2
      omega
    · rename_i h2
      have : (a < 0 ↔ b < 0) := by simpa using h
      have h3 : ((a + b + 9223372036854775808) % 18446744073709551616 - 9223372036854775808 < 0 ↔ a < 0) := by simpa using h2
      rw [if_pos (by omega)]
      congr 2; omega
  · rename_i h
    have : ¬ (a < 0 ↔ b < 0) := by simpa using h
    rw [if_pos (by omega)]
    congr 2; omega
theorem size_eq {a : Int} (ha : inI a) : calc_size.f a = some (a.natAbs : Int) := by
  unfold calc_size.f
  unfold inI at ha
  split
  · rw [u64_eq, u64_eq]; congr 1; omega
  · rw [u64_eq]; congr 1; omega
theorem signed_eq {k : Nat} {n : Int} (hn : 0 ≤ n) (h2 : n < 18446744073709551616) (below : Bool) : calc_signed.f (k + 1) n below = some (told (if below = true then -n else n)) := by
  unfold calc_signed.f told
  by_cases h0 : n = 0
  · subst h0; cases below <;> rfl
  · rw [if_neg h0]
    cases below with
    | true =>
      simp only [if_true, calc_signed.j0]
      by_cases h : n ≤ 9223372036854775808
      · rw [if_pos (by simpa using h), if_pos (by omega), u64_eq]
        unfold wrap64
        congr 2; omega
      · rw [if_neg (by simpa using h), if_neg (by omega)]
    | false =>
      simp only [Bool.false_eq_true, if_false, calc_signed.j0]
      by_cases h : n ≤ 9223372036854775807
      · rw [if_pos h, if_pos (by omega)]
        unfold wrap64
        congr 2; omega
      · rw [if_neg h, if_neg (by omega)]
/-- The sign of a product, a quotient. -/
def below2 (a b : Int) : Bool := (decide (a < 0)) != (decide (b < 0))
theorem below2_true {a b : Int} : below2 a b = true ↔ ¬ (a < 0 ↔ b < 0) := by simp [below2]
theorem below2_false {a b : Int} : below2 a b = false ↔ (a < 0 ↔ b < 0) := by simp [below2]
theorem and_low (x : Int) (h : 0 ≤ x) (h2 : x < 18446744073709551616) : Go.bits .and .u64 x 4294967295 = x % 4294967296 :=
  bits_mask .u64 64 (by decide) (fun n h0 h1 => by rw [u64_eq]; omega) 32 (by decide) x h h2
theorem mul_small {x y : Int} (hx : 0 ≤ x) (hx2 : x ≤ 4294967295) (hy : 0 ≤ y) (hy2 : y ≤ 4294967295) : 0 ≤ x * y ∧ x * y ≤ 18446744065119617025 := by
  refine ⟨Int.mul_nonneg hx hy, ?_⟩
  calc x * y ≤ 4294967295 * y := Int.mul_le_mul_of_nonneg_right hx2 hy
    _ ≤ 4294967295 * 4294967295 := Int.mul_le_mul_of_nonneg_left hy2 (by decide)
    _ = 18446744065119617025 := by decide
theorem mul64_eq {a b : Int} (ha : 0 ≤ a) (ha2 : a < 18446744073709551616) (hb : 0 ≤ b) (hb2 : b < 18446744073709551616) :
    bits_Mul64.f a b = some (a * b / 18446744073709551616, a * b % 18446744073709551616) := by
  unfold bits_Mul64.f
  rw [and_low a ha ha2, and_low b hb hb2]
  obtain ⟨p1, p2⟩ := mul_small (x := a / 4294967296) (y := b / 4294967296) (by omega) (by omega) (by omega) (by omega)
  obtain ⟨q1, q2⟩ := mul_small (x := a / 4294967296) (y := b % 4294967296) (by omega) (by omega) (by omega) (by omega)
  obtain ⟨r1, r2⟩ := mul_small (x := a % 4294967296) (y := b / 4294967296) (by omega) (by omega) (by omega) (by omega)
  obtain ⟨s1, s2⟩ := mul_small (x := a % 4294967296) (y := b % 4294967296) (by omega) (by omega) (by omega) (by omega)
  have e : a * b = (a / 4294967296) * (b / 4294967296) * 18446744073709551616 + ((a / 4294967296) * (b % 4294967296) + (a % 4294967296) * (b / 4294967296)) * 4294967296 + (a % 4294967296) * (b % 4294967296) := by
    have h1 : a = (a / 4294967296) * 4294967296 + a % 4294967296 := by omega
    have h2 : b = (b / 4294967296) * 4294967296 + b % 4294967296 := by omega
    generalize a / 4294967296 = x at *
    generalize a % 4294967296 = y at *
    generalize b / 4294967296 = z at *
    generalize b % 4294967296 = u at *
    rw [h1, h2]
    simp only [Int.add_mul, Int.mul_add]
    have g1 : x * 4294967296 * (z * 4294967296) = x * z * 18446744073709551616 := by rw [Int.mul_assoc, Int.mul_comm 4294967296 (z * 4294967296), Int.mul_assoc z, ← Int.mul_assoc]; rfl
    have g2 : x * 4294967296 * u = x * u * 4294967296 := by rw [Int.mul_assoc, Int.mul_comm 4294967296 u, ← Int.mul_assoc]
    have g3 : y * (z * 4294967296) = y * z * 4294967296 := by rw [← Int.mul_assoc]
    rw [g1, g2, g3]
    omega
  rw [u64_eq (a * b), e]
  generalize (a / 4294967296) * (b / 4294967296) = p at *
  generalize (a / 4294967296) * (b % 4294967296) = q at *
  generalize (a % 4294967296) * (b / 4294967296) = r at *
  generalize (a % 4294967296) * (b % 4294967296) = s at *
  clear e
  rw [u64_eq p, u64_eq q, u64_eq s, u64_eq r]
  rw [and_low _ (by rw [u64_eq]; omega) (by rw [u64_eq]; omega)]
  simp only [u64_eq]
  congr 2
  omega
theorem mul_eq {k : Nat} {a b : Int} (ha : inI a) (hb : inI b) : calc_Mul.f (k + 1) a b = some (told (a * b)) := by
  have ha' := ha; have hb' := hb
  unfold inI at ha' hb'
  unfold calc_Mul.f
  rw [size_eq ha, size_eq hb]
  simp only [Option.bind_some]
  rw [mul64_eq (by omega) (by omega) (by omega) (by omega)]
  simp only [Option.bind_some]
  have em : (a.natAbs : Int) * (b.natAbs : Int) = ((a * b).natAbs : Int) := by rw [Int.natAbs_mul]; rfl
  rw [em]
  have hs : ((decide (a < 0)) != (decide (b < 0))) = true → a * b ≤ 0 := by
    intro h
    have h2 : ¬ (a < 0 ↔ b < 0) := by simpa using h
    by_cases h3 : a < 0
    · exact Int.mul_nonpos_of_nonpos_of_nonneg (by omega) (by omega)
    · exact Int.mul_nonpos_of_nonneg_of_nonpos (by omega) (by omega)
  have hs' : ((decide (a < 0)) != (decide (b < 0))) = false → 0 ≤ a * b := by
    intro h
    have h2 : (a < 0 ↔ b < 0) := by simpa using h
    by_cases h3 : a < 0
    · exact Int.mul_nonneg_of_nonpos_of_nonpos (by omega) (by omega)
    · exact Int.mul_nonneg (by omega) (by omega)
  by_cases h : ((a * b).natAbs : Int) / 18446744073709551616 > 0
  · rw [if_pos h, told_out]
    unfold inI; omega
  · rw [if_neg h, signed_eq (by omega) (by omega)]
    simp only [Option.bind_some]
    cases hc : ((decide (a < 0)) != (decide (b < 0))) with
    | true =>
      have := hs hc
      have e : (if true = true then -(((a * b).natAbs : Int) % 18446744073709551616) else ((a * b).natAbs : Int) % 18446744073709551616) = a * b := by rw [if_pos rfl]; omega
      rw [e]
    | false =>
      have := hs' hc
      have e : (if false = true then -(((a * b).natAbs : Int) % 18446744073709551616) else ((a * b).natAbs : Int) % 18446744073709551616) = a * b := by rw [if_neg (by simp)]; omega
      rw [e]
theorem bind_pair {α β : Type} (p : α × β) : ((some p).bind fun b => some (b.1, b.2)) = some p := rfl
/-- A quotient rounded up (of a divisor that is not 0). -/
def cd (a b : Int) : Int := if ((decide (a < 0)) != (decide (b < 0))) = true then -((a.natAbs : Int) / (b.natAbs : Int)) else (a.natAbs : Int) / (b.natAbs : Int) + (if (a.natAbs : Int) % (b.natAbs : Int) > 0 then 1 else 0)
theorem up_zero {k : Nat} {a : Int} : calc_Up.f k a 0 = some (0, false) := rfl
theorem up_eq {k : Nat} {a b : Int} (ha : inI a) (hb : inI b) (h0 : b ≠ 0) : calc_Up.f (k + 1) a b = some (told (cd a b)) := by
  have ha' := ha; have hb' := hb
  unfold inI at ha' hb'
  unfold calc_Up.f cd
  rw [if_neg h0, size_eq ha, size_eq hb]
  simp only [Option.bind_some]
  rw [if_neg (by omega), Int.tmod_eq_emod_of_nonneg (by omega), Int.tdiv_eq_ediv_of_nonneg (by omega)]
  have q0 : 0 ≤ (a.natAbs : Int) / (b.natAbs : Int) := Int.ediv_nonneg (by omega) (by omega)
  have q1 : (a.natAbs : Int) / (b.natAbs : Int) ≤ a.natAbs := by
    have := Int.ediv_le_self (a := (a.natAbs : Int)) (b.natAbs : Int) (by omega)
    exact this
  generalize (a.natAbs : Int) / (b.natAbs : Int) = q at *
  generalize (a.natAbs : Int) % (b.natAbs : Int) = r at *
  simp only [u64_eq]
  have e1 : q % 18446744073709551616 = q := by omega
  have e2 : (q + 1) % 18446744073709551616 = q + 1 := by omega
  rw [e1, e2]
  by_cases hr : r > 0
  · rw [if_pos hr, if_pos hr]
    by_cases hc : ((decide (a < 0)) != (decide (b < 0))) = true
    · rw [if_pos hc, if_pos hc, signed_eq q0 (by omega), if_pos rfl, bind_pair]
    · rw [if_neg hc, if_neg hc, signed_eq (by omega) (by omega), if_neg (by simp), bind_pair]
  · rw [if_neg hr, if_neg hr, signed_eq q0 (by omega), bind_pair]
    by_cases hc : ((decide (a < 0)) != (decide (b < 0))) = true
    · rw [if_pos hc, if_pos hc]
    · rw [if_neg hc, if_neg hc, Int.add_zero]
/-- What is rounded up is the least that is enough. -/
theorem cd_enough {a b : Int} (hb : 0 < b) : a ≤ cd a b * b ∧ (cd a b - 1) * b < a := by
  have hbn : ((b.natAbs : Nat) : Int) = b := by omega
  unfold cd
  rw [hbn]
  have hd : decide (b < 0) = false := by simp; omega
  rw [hd]
  have hm := Int.mul_ediv_add_emod (a.natAbs : Int) b
  have h1 := Int.emod_nonneg (a.natAbs : Int) (show b ≠ 0 by omega)
  have h2 := Int.emod_lt_of_pos (a.natAbs : Int) hb
  generalize (a.natAbs : Int) / b = q at *
  generalize (a.natAbs : Int) % b = r at *
  have hcomm : q * b = b * q := Int.mul_comm _ _
  by_cases h : a < 0
  · have : decide (a < 0) = true := by simpa using h
    rw [this, if_pos (by decide), Int.sub_mul, Int.neg_mul]
    omega
  · have : decide (a < 0) = false := by simpa using h
    rw [this, if_neg (by decide)]
    by_cases hr : r > 0
    · rw [if_pos hr, Int.add_sub_cancel, Int.add_mul]; omega
    · rw [if_neg hr, Int.add_zero, Int.sub_mul]; omega
theorem cd_unique {a b n : Int} (hb : 0 < b) (h1 : a ≤ n * b) (h2 : (n - 1) * b < a) : cd a b = n := by
  obtain ⟨g1, g2⟩ := cd_enough (a := a) hb
  have k1 : (cd a b - 1) * b < n * b := by omega
  have k2 : (n - 1) * b < cd a b * b := by omega
  have := Int.lt_of_mul_lt_mul_right k1 (by omega)
  have := Int.lt_of_mul_lt_mul_right k2 (by omega)
  omega

/-! ### the sum -/
theorem rd_drop (l : List Int) (i : Nat) (h : i < l.length) : (l.drop i).sum = rd l (i : Int) + (l.drop (i + 1)).sum := by
  rw [List.drop_eq_getElem_cons h, List.sum_cons]
  unfold rd
  simp [List.getD_eq_getElem?_getD, List.getElem?_eq_getElem h]
theorem rd_mem (l : List Int) (i : Nat) (h : i < l.length) : rd l (i : Int) ∈ l := by
  unfold rd
  simp [List.getD_eq_getElem?_getD, List.getElem?_eq_getElem h]
theorem add64_eq {a b c : Int} (ha : 0 ≤ a) (hb : 0 ≤ b) (hc : 0 ≤ c) (hc1 : c ≤ 1) : bits_Add64.f a b c = some ((a + b + c) % 18446744073709551616, (a + b + c) / 18446744073709551616) := by
  unfold bits_Add64.f
  rw [if_pos (by omega)]
  congr 2 <;> omega
theorem sum_loop (l : List Int) (hl : l.length ≤ 140737488351232) (hw : ∀ x ∈ l, inI x) (X : Int) (hX : -170141183460469231731687303715884105728 < X) (hX2 : X < 170141183460469231731687303715884105728) :
    ∀ (d k i : Nat) (hi lo : Int), i + d = l.length → d < k → 0 ≤ hi → hi < 18446744073709551616 → 0 ≤ lo → lo < 18446744073709551616 → (hi * 18446744073709551616 + lo + (l.drop i).sum - X) % 340282366920938463463374607431768211456 = 0 →
      calc_Sum.l0 k hi lo l (l.length : Int) (i : Int) = some (told X) := by
  intro d
  induction d with
  | zero =>
    intro k i hi lo hid hk h0 h1 h2 h3 hm
    obtain ⟨k, rfl⟩ : ∃ m, k = m + 1 := ⟨k - 1, by omega⟩
    have hd : (l.drop i).sum = 0 := by rw [List.drop_of_length_le (by omega)]; rfl
    rw [hd] at hm
    simp only [calc_Sum.l0]
    rw [if_neg (by omega)]
    have hwl : wrap64 lo = if lo < 9223372036854775808 then lo else lo - 18446744073709551616 := by unfold wrap64; split <;> omega
    rw [hwl]
    by_cases hlo : lo < 9223372036854775808
    · rw [if_pos hlo, if_pos (by omega)]
      by_cases hh : hi = 0
      · subst hh
        have e : X = lo := by omega
        rw [if_pos rfl, told_in (show inI X by unfold inI; omega), e]
      · rw [if_neg hh, if_neg (by omega), told_out (show ¬ inI X by unfold inI; omega)]
    · rw [if_neg hlo, if_neg (by omega), if_pos (by omega)]
      by_cases hh : hi = 18446744073709551615
      · subst hh
        have e : X = lo - 18446744073709551616 := by omega
        rw [if_pos rfl, told_in (show inI X by unfold inI; omega), e]
      · rw [if_neg hh, told_out (show ¬ inI X by unfold inI; omega)]
  | succ d ih =>
    intro k i hi lo hid hk h0 h1 h2 h3 hm
    obtain ⟨k, rfl⟩ : ∃ m, k = m + 1 := ⟨k - 1, by omega⟩
    have hlt : i < l.length := by omega
    have hx := hw _ (rd_mem l i hlt)
    rw [rd_drop l i hlt] at hm
    simp only [calc_Sum.l0]
    rw [if_pos (by omega), if_pos (by omega), if_pos (by omega)]
    generalize rd l (i : Int) = x at *
    unfold inI at hx
    have e1 : wrap64 ((i : Int) + 1) = ((i + 1 : Nat) : Int) := by rw [wrap64_in (by unfold inI; omega)]; omega
    rw [add64_eq h2 (by rw [u64_eq]; omega) (by decide) (by decide), e1]
    simp only [Option.bind_some, u64_eq]
    rw [add64_eq h0 (by decide) (by omega) (by omega)]
    simp only [Option.bind_some]
    by_cases hp : x ≥ 0
    · rw [if_pos hp]
      exact ih k (i + 1) _ _ (by omega) (by omega) (by omega) (by omega) (by omega) (by omega) (by omega)
    · rw [if_neg hp]
      exact ih k (i + 1) _ _ (by omega) (by omega) (by omega) (by omega) (by omega) (by omega) (by omega)
theorem sum_bound (l : List Int) (hw : ∀ x ∈ l, inI x) : -9223372036854775808 * (l.length : Int) ≤ l.sum ∧ l.sum ≤ 9223372036854775808 * (l.length : Int) := by
  induction l with
  | nil => simp
  | cons a l ih =>
    obtain ⟨h1, h2⟩ := ih fun x hx => hw x (List.mem_cons_of_mem _ hx)
    have := hw a (List.mem_cons_self ..)
    unfold inI at this
    rw [List.sum_cons, List.length_cons]
    omega
/-- calc.Sum tells the sum as a whole, or that it is none. -/
theorem sum_eq (l : List Int) (hl : l.length ≤ 140737488351232) (hw : ∀ x ∈ l, inI x) (k : Nat) (hk : l.length < k) : calc_Sum.f k l = some (told l.sum) := by
  obtain ⟨h1, h2⟩ := sum_bound l hw
  exact sum_loop l hl hw l.sum (by omega) (by omega) l.length k 0 0 0 (by omega) hk (by decide) (by decide) (by decide) (by decide) (by simp)
theorem known_eq : swingbridgelaw1_known.f 10 = some true := by decide +kernel
theorem known_all (k : Nat) (hk : 10 ≤ k) : swingbridgelaw1_known.f k = some true := by
  obtain ⟨d, rfl⟩ : ∃ d, k = 10 + d := ⟨k - 10, by omega⟩
  clear hk
  induction d with
  | zero => exact known_eq
  | succ d ih => exact swingbridgelaw1_known.mono (10 + d) _ ih

/-! ### the document's sum, by halves -/
theorem ofInt_toNat (x : Int) : (BitVec.ofInt 64 x).toNat = (x % 18446744073709551616).toNat := by
  rw [BitVec.toNat_ofInt]; rfl
theorem i64_low (x : Int) : Go.bits .and .i64 x 4294967295 = x % 4294967296 := by
  have e : Go.bits .and .i64 x 4294967295 = IntKind.i64.wrap (((BitVec.ofInt 64 x) &&& (BitVec.ofInt 64 4294967295)).toNat : Int) := rfl
  rw [e, BitVec.toNat_and, ofInt_toNat, ofInt_toNat, IntKind.wrap_i64]
  have e2 : ((4294967295 : Int) % 18446744073709551616).toNat = 2 ^ 32 - 1 := by decide
  rw [e2, Nat.and_two_pow_sub_one_eq_mod]
  have : ((x % 18446744073709551616).toNat % 2 ^ 32 : Nat) = (x % 4294967296).toNat := by omega
  rw [this]
  omega
theorem i64_join (h l : Int) (hh : -2147483648 ≤ h ∧ h < 2147483648) (hl : 0 ≤ l ∧ l < 4294967296) : Go.bits .or .i64 (h * 4294967296) l = h * 4294967296 + l := by
  have e : Go.bits .or .i64 (h * 4294967296) l = IntKind.i64.wrap (((BitVec.ofInt 64 (h * 4294967296)) ||| (BitVec.ofInt 64 l)).toNat : Int) := rfl
  rw [e, BitVec.toNat_or, ofInt_toNat, ofInt_toNat, IntKind.wrap_i64]
  have e1 : ((h * 4294967296) % 18446744073709551616).toNat = 2 ^ 32 * (h % 4294967296).toNat := by omega
  have e2 : (l % 18446744073709551616).toNat = l.toNat := by omega
  rw [e1, e2, ← Nat.two_pow_add_eq_or_of_lt (by omega) (h % 4294967296).toNat]
  omega
theorem ref_sum_loop (l : List Int) (hl : l.length ≤ 60) (hw : ∀ x ∈ l, inI x) (X : Int) :
    ∀ (d k i : Nat) (hi lo : Int), i + d = l.length → d < k → -2147483648 * (i : Int) ≤ hi → hi ≤ 2147483648 * (i : Int) → 0 ≤ lo → lo ≤ 4294967296 * (i : Int) → hi * 4294967296 + lo + (l.drop i).sum = X →
      swingbridgeref1_Sum.l0 k l hi lo (i : Int) = some (told X) := by
  intro d
  induction d with
  | zero =>
    intro k i hi lo hid hk h0 h1 h2 h3 hm
    obtain ⟨k, rfl⟩ : ∃ m, k = m + 1 := ⟨k - 1, by omega⟩
    have hd : (l.drop i).sum = 0 := by rw [List.drop_of_length_le (by omega)]; rfl
    rw [hd] at hm
    rw [swingbridgeref1_Sum.l0, if_neg (by omega), wrap64_in (n := hi + lo / 4294967296) (by unfold inI; omega)]
    by_cases g1 : hi + lo / 4294967296 ≥ 2147483648
    · rw [if_pos g1, told_out (by unfold inI; omega)]
    · rw [if_neg g1]
      by_cases g2 : hi + lo / 4294967296 < -2147483648
      · rw [if_pos g2, told_out (by unfold inI; omega)]
      · rw [if_neg g2, wrap64_in (n := (hi + lo / 4294967296) * 4294967296) (by unfold inI; omega), i64_low, i64_join _ _ (by omega) (by omega), told_in (by unfold inI; omega)]
        congr 2; omega
  | succ d ih =>
    intro k i hi lo hid hk h0 h1 h2 h3 hm
    obtain ⟨k, rfl⟩ : ∃ m, k = m + 1 := ⟨k - 1, by omega⟩
    have hlt : i < l.length := by omega
    have hx := hw _ (rd_mem l i hlt)
    rw [rd_drop l i hlt] at hm
    rw [swingbridgeref1_Sum.l0, if_pos (by omega), if_pos (by omega)]
    generalize rd l (i : Int) = x at *
    unfold inI at hx
    have e1 : wrap64 ((i : Int) + 1) = ((i + 1 : Nat) : Int) := by rw [wrap64_in (by unfold inI; omega)]; omega
    rw [e1, i64_low, wrap64_in (n := hi + x / 4294967296) (by unfold inI; omega), wrap64_in (n := lo + x % 4294967296) (by unfold inI; omega)]
    exact ih k (i + 1) _ _ (by omega) (by omega) (by omega) (by omega) (by omega) (by omega) (by omega)
theorem CalcSums : swingbridgelaw1_CalcSums.Pure := by
  intro l _ hl hw
  have hw : ∀ x ∈ l, inI x := fun x hx => wf_in (hw x hx)
  refine ⟨100, ?_⟩
  unfold swingbridgelaw1_CalcSums.f
  rw [known_all 100 (by decide)]
  simp only [Option.bind_some, if_true]
  by_cases h : (l.length : Int) > 60
  · rw [if_pos h]
  · rw [if_neg h, sum_eq l (by omega) hw 100 (by omega)]
    have er : swingbridgeref1_Sum.f 100 l = some (told l.sum) := ref_sum_loop l (by omega) hw l.sum l.length 100 0 0 0 (by omega) (by omega) (by decide) (by decide) (by decide) (by decide) (by simp)
    rw [er]
    simp only [Option.bind_some, if_true, beq_self_eq_true]

end Go.Proofs.Ytapjngmlocgdoaa.Pure
