/- Numbers' texts; an error's word. -/
import Derived.Test.YtamblgbmdhldbaaGreatDoorRepKn
import Derived.Test.YtamblgbmdhldbaaGreatDoorIn1
set_option linter.unusedSimpArgs false
set_option linter.unusedVariables false
namespace Go.Proofs.YtamblgbmdhldbaaGreatDoorEv
open Go
set_option maxHeartbeats 2000000
/-- A number's text. -/
def txt (n : Int) : ByteArray := if n < 0 ∨ 9999999 < n then ⟨#[]⟩ else ⟨(itoaF n).toArray⟩
theorem ba_app (l m : List UInt8) : (⟨l.toArray⟩ : ByteArray) ++ ⟨m.toArray⟩ = ⟨(l ++ m).toArray⟩ := by
  rw [ByteArray.ext_iff, ByteArray.data_append]; simp
theorem dF_len : ∀ (k u : Nat), (dF k u).length ≤ k
  | 0, _ => Nat.le_refl _
  | k + 1, u => by
    unfold dF
    split
    · simp
    · have := dF_len k (u / 10); simp; omega
theorem txt_size (n : Int) : (txt n).size ≤ 21 := by
  unfold txt
  split
  · exact Nat.zero_le _
  · show (itoaF n).toArray.size ≤ 21
    unfold itoaF
    split
    · have := dF_len 20 n.natAbs; simp; omega
    · have := dF_len 20 n.toNat; simp; omega
theorem text_is (n : Int) : pureOf (callL tab0 ext5) false 25 [vi n] = some (vs (txt n)) := by
  refine pureOf_eq (bx := []) (r := vs _) ?_ rfl
  rw [callL_tab _ _ rfl tab25 rfl]
  unfold txt
  by_cases c1 : n < 0
  · simp [C25, push_cast, -Int.not_lt, -Int.not_le, ↓evI_call, ↓evI_calli, ↓evI_callz, ↓evI_callv, ↓evI_mxn, c1]
  · by_cases c2 : 9999999 < n
    · simp [C25, push_cast, -Int.not_lt, -Int.not_le, ↓evI_call, ↓evI_calli, ↓evI_callz, ↓evI_callv, ↓evI_mxn, c1, c2]
    · have h : pureOf (callL tab0 ext5) false 38 [vi n] = some (vs ⟨(itoaF n).toArray⟩) := pureOf_eq (itoa_is (by omega) []) rfl
      generalize itoaF n = T at *
      simp [C25, push_cast, -Int.not_lt, -Int.not_le, ↓evI_call, ↓evI_calli, ↓evI_callz, ↓evI_callv, ↓evI_mxn, c1, c2, h]
theorem textR_is : ∀ (k : Nat) (n : Int), 0 ≤ n → n < 10 ^ k → 0 < k → k ≤ 20 → n ≤ 9999999 → callL tab0 ext5 14 [vi n] [] = some (vs ⟨(dF k n.toNat).toArray⟩, [])
  | 0, _, _, _, h, _, _ => absurd h (Nat.lt_irrefl 0)
  | k + 1, n, h0, hk, _, hk2, hn => by
    rw [callL_tab _ _ rfl tab14 rfl]
    have c1 : ¬ n < 0 := by omega
    have c2 : ¬ 9999999 < n := by omega
    unfold dF
    by_cases c3 : n < 10
    · have c3' : n.toNat < 10 := by omega
      rw [if_pos c3']
      have w1 : IntKind.wrap .i64 (48 + n) = 48 + n := wrap_in _ (by omega) (by omega)
      have w2 : IntKind.wrap .u8 (48 + n) = 48 + n := by simp only [IntKind.wrap, IntKind.bits, IntKind.signed]; simp; omega
      have w3 : (48 + n).toNat.toUInt8 = UInt8.ofNat (48 + n.toNat) := by
        have : (48 + n).toNat = 48 + n.toNat := by omega
        rw [this]
      simp [C14, push_cast, -Int.not_lt, -Int.not_le, ↓evI_call, ↓evI_calli, ↓evI_callz, ↓evI_callv, ↓evI_mxn, bytesA, c1, c2, c3, w1, w2, w3]
    · have c3' : ¬ n.toNat < 10 := by omega
      rw [if_neg c3']
      have hkk : 0 < k := by
        rcases Nat.eq_zero_or_pos k with rfl | h
        · simp at hk; omega
        · exact h
      have hlt : n / 10 < 10 ^ k := by
        have h10 : (10 : Int) ^ (k + 1) = 10 ^ k * 10 := Int.pow_succ _ _
        omega
      have ih := textR_is k (n / 10) (by omega) hlt hkk (by omega) (by omega)
      have e1 : (n / 10).toNat = n.toNat / 10 := by omega
      rw [e1] at ih
      have q1 : n.tdiv 10 = n / 10 := Int.tdiv_eq_ediv_of_nonneg h0
      have q2 : n.tmod 10 = n % 10 := Int.tmod_eq_emod_of_nonneg h0
      have w0 : IntKind.wrap .i64 (n / 10) = n / 10 := wrap_in _ (by omega) (by omega)
      have w1 : IntKind.wrap .i64 (48 + n % 10) = 48 + n % 10 := wrap_in _ (by omega) (by omega)
      have w2 : IntKind.wrap .u8 (48 + n % 10) = 48 + n % 10 := by simp only [IntKind.wrap, IntKind.bits, IntKind.signed]; simp; omega
      have w3 : (48 + n % 10).toNat.toUInt8 = UInt8.ofNat (48 + n.toNat % 10) := by
        have : (48 + n % 10).toNat = 48 + n.toNat % 10 := by omega
        rw [this]
      have hp : pureOf (callL tab0 ext5) false 14 [vi (n / 10)] = some (vs ⟨(dF k (n.toNat / 10)).toArray⟩) := pureOf_eq ih rfl
      have hl := dF_len k (n.toNat / 10)
      have ha := ba_app (dF k (n.toNat / 10)) [UInt8.ofNat (48 + n.toNat % 10)]
      have hs : (⟨(dF k (n.toNat / 10)).toArray⟩ : ByteArray).size = (dF k (n.toNat / 10)).length := by show (dF k (n.toNat / 10)).toArray.size = _; simp
      have hs2 : (⟨#[UInt8.ofNat (48 + n.toNat % 10)]⟩ : ByteArray).size = 1 := rfl
      have hle : (dF k (n.toNat / 10)).length + 1 ≤ 70368744177664 := by omega
      rw [← ha]
      generalize dF k (n.toNat / 10) = D at *
      generalize UInt8.ofNat (48 + n.toNat % 10) = b at *
      simp [C14, push_cast, -Int.not_lt, -Int.not_le, ↓evI_call, ↓evI_calli, ↓evI_callz, ↓evI_callv, ↓evI_mxn, bytesA, c1, c2, c3, q1, q2, w0, w1, w2, w3, hp, hs, hs2, hle]
theorem textR (n : Int) : pureOf (callL tab0 ext5) false 14 [vi n] = some (vs (txt n)) := by
  unfold txt
  by_cases h : n < 0 ∨ 9999999 < n
  · rw [if_pos h]
    refine pureOf_eq (bx := []) (r := vs _) ?_ rfl
    rw [callL_tab _ _ rfl tab14 rfl]
    by_cases c1 : n < 0
    · simp [C14, push_cast, -Int.not_lt, -Int.not_le, ↓evI_call, ↓evI_calli, ↓evI_callz, ↓evI_callv, ↓evI_mxn, c1]
    · have c2 : 9999999 < n := by omega
      simp [C14, push_cast, -Int.not_lt, -Int.not_le, ↓evI_call, ↓evI_calli, ↓evI_callz, ↓evI_callv, ↓evI_mxn, c1, c2]
  · rw [if_neg h]
    refine pureOf_eq (textR_is 20 n (by omega) (by omega) (by omega) (by omega) (by omega)) ?_
    unfold itoaF
    rw [if_neg (by omega)]; rfl
def lateB : ByteArray := ⟨#[108, 97, 116, 101]⟩
def unkB : ByteArray := ⟨#[117, 110, 107, 110, 111, 119, 110]⟩
def errB : ByteArray := ⟨#[101, 114, 114, 111, 114, 32]⟩
/-- An error's word. -/
def word (e : Int) : ByteArray := if e = 19 then lateB else if e = 20 then unkB else errB ++ txt e
theorem word_is (e : Int) : pureOf (callL tab0 ext5) false 15 [vi e] = some (vs (word e)) := by
  refine pureOf_eq (bx := []) (r := vs _) ?_ rfl
  rw [callL_tab _ _ rfl tab15 rfl]
  unfold word
  have h := text_is e
  have hs := txt_size e
  have he : errB.size = 6 := rfl
  generalize txt e = T at *
  by_cases c1 : e = 19
  · subst c1; simp [C15, push_cast, -Int.not_lt, -Int.not_le, ↓evI_call, ↓evI_calli, ↓evI_callz, ↓evI_callv, ↓evI_mxn, eqz, lateB]
  · by_cases c2 : e = 20
    · subst c2; simp [C15, push_cast, -Int.not_lt, -Int.not_le, ↓evI_call, ↓evI_calli, ↓evI_callz, ↓evI_callv, ↓evI_mxn, eqz, unkB]
    · have h6 : (⟨#[101, 114, 114, 111, 114, 32]⟩ : ByteArray).size + T.size ≤ 70368744177664 := by show 6 + T.size ≤ _; omega
      simp [C15, push_cast, -Int.not_lt, -Int.not_le, ↓evI_call, ↓evI_calli, ↓evI_callz, ↓evI_callv, ↓evI_mxn, eqz, c1, c2, h, h6, errB]
theorem reportWords_is (n : Int) (hn0 : (Lit.int .u8 n).wf = true) : Ans (vb true) [] (callL tab0 ext5 6 [vu8 n] []) := by
  rw [callL_tab _ _ rfl tab6 rfl]
  have hn := u8_of hn0
  have h1 := pure_vb (k := false) known_7
  have w := wrap_u8i _ hn
  have h2 := word_is n
  have h3 := textR n
  unfold word at h2
  have hs := txt_size n
  generalize txt n = T at *
  by_cases c1 : n = 19
  · subst c1
    simp only [if_true, lateB] at h2
    simp [C6, push_cast, -Int.not_lt, -Int.not_le, ↓evI_call, ↓evI_calli, ↓evI_callz, ↓evI_callv, ↓evI_mxn, eqz, h1, h2, w]
    exact ⟨_, rfl⟩
  · by_cases c2 : n = 20
    · subst c2
      simp only [if_true, unkB] at h2
      simp [C6, push_cast, -Int.not_lt, -Int.not_le, ↓evI_call, ↓evI_calli, ↓evI_callz, ↓evI_callv, ↓evI_mxn, eqz, h1, h2, w]
      exact ⟨_, rfl⟩
    · have h6 : (⟨#[101, 114, 114, 111, 114, 32]⟩ : ByteArray).size + T.size ≤ 70368744177664 := by show 6 + T.size ≤ _; omega
      simp only [c1, c2, if_false, errB] at h2
      simp [C6, push_cast, -Int.not_lt, -Int.not_le, ↓evI_call, ↓evI_calli, ↓evI_callz, ↓evI_callv, ↓evI_mxn, eqz, h1, h2, h3, w, c1, c2, h6]
      exact ⟨_, rfl⟩
end Go.Proofs.YtamblgbmdhldbaaGreatDoorEv
