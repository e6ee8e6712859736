/- swingbridgeref20.First. -/
import Derived.Test.YtkohggddaheefaaWhoF
set_option linter.unusedSimpArgs false
set_option linter.unusedVariables false
namespace Go.Proofs.YtkohggddaheefaaEv
open Go
set_option maxHeartbeats 2000000
/-- The place behind the last one that one isn't ahead of. -/
def posR (x : Wh) : List Wh → Nat
  | [] => 0
  | a :: R => if wlt x a then posR x R else R.length + 1
theorem posR_le (x : Wh) : ∀ R, posR x R ≤ R.length
  | [] => Nat.le_refl _
  | a :: R => by
    unfold posR
    split
    · exact Nat.le_succ_of_le (posR_le x R)
    · simp
theorem posR_ins (x : Wh) : ∀ (R T : List Wh), (R.reverse ++ T).take (posR x R) ++ x :: (R.reverse ++ T).drop (posR x R) = insR' wlt R x T
  | [], T => rfl
  | a :: R, T => by
    unfold posR insR'
    cases h : wlt x a with
    | true =>
      rw [if_pos rfl, if_pos rfl, ← posR_ins x R (a :: T)]; simp
    | false =>
      rw [if_neg Bool.false_ne_true, if_neg Bool.false_ne_true]
      have e : (a :: R).reverse ++ T = (R.reverse ++ [a]) ++ T := by simp
      rw [e, List.take_left' (by simp), List.drop_left' (by simp)]; simp
theorem posR_mge (x : Wh) (l : List Wh) (hs : Srt wlt l) : l.take (posR x l.reverse) ++ x :: l.drop (posR x l.reverse) = mge wlt l [x] := by
  have := posR_ins x l.reverse []
  rw [List.reverse_reverse, List.append_nil] at this
  rw [this, insR'_mge wlt wlt_swo _ _ _ (by simpa using hs) (fun t ht => by cases ht)]; simp
theorem wh_drop {L : List Wh} {i : Nat} {x : Wh} (hx : L[i]? = some x) : ∃ r, (fg whc L).drop (i * 3) = vi x.task :: vi x.prio :: vi x.boost :: r := by
  obtain ⟨hi', rfl⟩ := List.getElem?_eq_some_iff.1 hx
  exact ⟨_, drop_flat whc 3 (fun _ => rfl) L i hi'⟩
theorem rf_loop2 (L : List Wh) (n : Nat) (k : Int) (hL : L.length = n) (hn : n ≤ 1000) (i : Nat) (x : Wh) (hx : L[i]? = some x) : ∀ (R T : List Wh) (e : Env), R.length + T.length = i → e 0 = .sl (fg whc L) n 0 → e 1 = vi k → e 5 = .sl (fg whc (R.reverse ++ T)) i 2 → e 6 = vi i → e 7 = vi R.length →
    ∃ e', evL tab0 ext0 0 L39_2 (e, []) = some (.ex 2, e', []) ∧ e' 0 = .sl (fg whc L) n 0 ∧ e' 1 = vi k ∧ e' 5 = .sl (fg whc (R.reverse ++ T)) i 2 ∧ e' 6 = vi i ∧ e' 7 = vi (posR x R) := by
  intro R
  induction R with
  | nil =>
    intro T e hl h0 h1 h5 h6 h7
    have e0 : posR x [] = 0 := rfl
    rw [e0]
    simp only [List.length_nil] at h7
    generalize fg whc L = B at *
    generalize fg whc (([] : List Wh).reverse ++ T) = B2 at *
    exact ⟨_, (go39_2 _ _).trans (by simp [B39_2, push_cast, -Int.not_lt, -Int.not_le, ↓evI_call, ↓evI_calli, ↓evI_callz, ↓evI_callv, ↓evI_mxn, loopIn, loopIn0, keepL, emp, A.dang, A.dangC, h0, h1, h5, h6, h7]; rfl), by simp [put_at]⟩
  | cons a R ih =>
    intro T e hl h0 h1 h5 h6 h7
    simp only [List.length_cons] at hl h7
    have hi : i < n := by rw [← hL]; exact (List.getElem?_eq_some_iff.1 hx).1
    have l1 := whE.flen L
    rw [hL] at l1
    have eL : (a :: R).reverse ++ T = R.reverse ++ a :: T := by simp
    rw [eL] at h5 ⊢
    have l2 := whE.flen (R.reverse ++ a :: T)
    have l20 : (R.reverse ++ a :: T).length = i := by simp; omega
    rw [l20] at l2
    obtain ⟨D1, g1⟩ := wh_drop hx
    obtain ⟨D2, g2⟩ := wh_drop (midx R.reverse a T R.length (by simp))
    have hah := ahead_r x a
    simp only [whc] at hah
    have k1 : i * 3 + 3 ≤ n * 3 := by omega
    have k2 : R.length * 3 + 3 ≤ i * 3 := by omega
    have q0 : (i : Int) < n := by omega
    have q1 : IntKind.wrap .i64 (((R.length + 1 : Nat) : Int) - 1) = (R.length : Int) := by rw [wrap_in _ (by omega) (by omega)]; omega
    have q2 : (0 : Int) < ((R.length + 1 : Nat) : Int) := by omega
    have q3 : (R.length : Int) < i := by omega
    unfold posR
    cases hlt : wlt x a with
    | true =>
      rw [hlt] at hah
      rw [if_pos rfl]
      have ih' := ih (a :: T)
      generalize fg whc L = B at *
      generalize fg whc (R.reverse ++ a :: T) = B2 at *
      obtain ⟨e', r1, r2⟩ := ih' (put 7 (vi R.length) (put 0 (.sl B n 0) (put 1 (vi k) (put 5 (.sl B2 i 2) (put 6 (vi i) emp))))) (by simp; omega) (by simp [put_at]) (by simp [put_at]) (by simp [put_at]) (by simp [put_at]) (by simp [put_at])
      refine ⟨e', ?_, r2⟩
      rw [← r1]
      refine (go39_2 _ _).trans ?_
      generalize ((R.length + 1 : Nat) : Int) = z at *
      simp [B39_2, push_cast, -Int.not_lt, -Int.not_le, ↓evI_call, ↓evI_calli, ↓evI_callz, ↓evI_callv, ↓evI_mxn, loopIn, loopIn0, keepL, emp, A.dang, A.dangC, h0, h1, h5, h6, h7, g1, g2, k1, k2, q0, q1, q2, q3, l1, l2, hah]
      exact loop_env (by simp [put_at])
    | false =>
      rw [hlt] at hah
      rw [if_neg Bool.false_ne_true]
      generalize fg whc L = B at *
      generalize fg whc (R.reverse ++ a :: T) = B2 at *
      have h7' : ∀ E : Env, E 7 = vi ((R.length + 1 : Nat) : Int) → E 7 = vi ((R.length + 1 : Nat) : Int) := fun _ h => h
      generalize hz : ((R.length + 1 : Nat) : Int) = z at *
      exact ⟨_, (go39_2 _ _).trans (by simp [B39_2, push_cast, -Int.not_lt, -Int.not_le, ↓evI_call, ↓evI_calli, ↓evI_callz, ↓evI_callv, ↓evI_mxn, loopIn, loopIn0, keepL, emp, A.dang, A.dangC, h0, h1, h5, h6, h7, g1, g2, k1, k2, q0, q1, q2, q3, l1, l2, hah]; rfl), by simp [put_at, ← hz]⟩
theorem rf_loop0 (L : List Wh) (n : Nat) (k : Int) (hL : L.length = n) (hn : n ≤ 1000) : ∀ (d i : Nat) (e : Env), i + d = n → e 0 = .sl (fg whc L) n 0 → e 1 = vi k → e 5 = .sl (fg whc (ss wlt (L.take i))) i 2 → e 6 = vi i →
    ∃ e', evL tab0 ext0 0 L39_0 (e, []) = some (.ex 0, e', []) ∧ e' 1 = vi k ∧ e' 5 = .sl (fg whc (ss wlt L)) n 2 := by
  intro d
  induction d with
  | zero =>
    intro i e hi h0 h1 h5 h6
    obtain rfl : i = n := by omega
    rw [List.take_of_length_le (by omega)] at h5
    generalize fg whc L = B at *
    generalize fg whc (ss wlt L) = B2 at *
    exact ⟨_, (go39_0 _ _).trans (by simp [B39_0, push_cast, -Int.not_lt, -Int.not_le, ↓evI_call, ↓evI_calli, ↓evI_callz, ↓evI_callv, ↓evI_mxn, loopIn, loopIn0, keepL, emp, A.dang, A.dangC, h0, h1, h5, h6]; rfl), by simp [put_at]⟩
  | succ d ih =>
    intro i e hi h0 h1 h5 h6
    obtain ⟨x, hx⟩ : ∃ x, L[i]? = some x := ⟨_, List.getElem?_eq_getElem (by omega)⟩
    have hll : (ss wlt (L.take i)).length = i := by rw [ss_len, List.length_take]; omega
    have e1 : L.take (i + 1) = L.take i ++ [x] := by rw [List.take_add_one, hx]; rfl
    have e2 := posR_mge x (ss wlt (L.take i)) (ss_srt wlt wlt_swo _ _ rfl)
    rw [← ss_snoc, ← e1] at e2
    have hple := posR_le x (ss wlt (L.take i)).reverse
    rw [List.length_reverse, hll] at hple
    obtain ⟨e2', r1, r2, r3, r4, r5, r6⟩ := rf_loop2 L n k hL hn i x hx (ss wlt (L.take i)).reverse [] (put 7 (vi i) (put 0 (.sl (fg whc L) n 0) (put 1 (vi k) (put 5 (.sl (fg whc (ss wlt (L.take i))) i 2) (put 6 (vi i) emp))))) (by rw [List.length_reverse, hll]; simp) (by simp [put_at]) (by simp [put_at]) (by simp [put_at]) (by simp [put_at]) (by simp [put_at, hll])
    rw [List.reverse_reverse, List.append_nil] at r4
    generalize posR x (ss wlt (L.take i)).reverse = at' at *
    have l1 := whE.flen L
    rw [hL] at l1
    have l2 := whE.flen (ss wlt (L.take i))
    rw [hll] at l2
    obtain ⟨D1, g1⟩ := wh_drop hx
    have t1 : (fg whc (ss wlt (L.take i))).take (at' * 3) = fg whc ((ss wlt (L.take i)).take at') := take_flat _ 3 (fun _ => rfl) _ _ (by omega)
    have t2 : ((fg whc (ss wlt (L.take i))).drop (at' * 3)).take ((i - at') * 3) = fg whc ((ss wlt (L.take i)).drop at') := by
      have h : (fg whc (ss wlt (L.take i))).drop (at' * 3) = fg whc ((ss wlt (L.take i)).drop at') := by
        have h2 : fg whc (ss wlt (L.take i)) = fg whc ((ss wlt (L.take i)).take at') ++ fg whc ((ss wlt (L.take i)).drop at') := by rw [← List.flatMap_append, List.take_append_drop]
        rw [h2, List.drop_left' (by rw [whE.flen, List.length_take]; congr 1; omega)]
      rw [h, List.take_of_length_le (by rw [whE.flen, List.length_drop, hll]; exact Nat.le_refl _)]
    have t3 : fg whc ((ss wlt (L.take i)).take at') ++ (vi x.task :: vi x.prio :: vi x.boost :: fg whc ((ss wlt (L.take i)).drop at')) = fg whc (ss wlt (L.take (i + 1))) := by
      rw [← e2]; simp [fg, List.flatMap_append, whc]
    have l3 : (fg whc ((ss wlt (L.take i)).take at')).length = at' * 3 := by rw [whE.flen, List.length_take]; congr 1; omega
    have l4 : (fg whc ((ss wlt (L.take i)).drop at')).length = (i - at') * 3 := by rw [whE.flen, List.length_drop, hll]
    have q0 : (i : Int) < n := by omega
    have q1 : IntKind.wrap .i64 ((i : Int) + 1) = ((i + 1 : Nat) : Int) := by rw [wrap_in _ (by omega) (by omega)]; omega
    have k1 : i * 3 + 3 ≤ n * 3 := by omega
    have q2 : (at' : Int) ≤ i := by omega
    have q3 : ((i : Int) - at').toNat = i - at' := by omega
    have b1 : at' * 24 ≤ 70368744177664 := by omega
    have b2 : (at' + 1) * 24 ≤ 70368744177664 := by omega
    have b3 : (at' + 1 + (i - at')) * 24 ≤ 70368744177664 := by omega
    have b6 : (i + 1) * 24 ≤ 70368744177664 := by omega
    have b4 : at' + 1 + (i - at') = i + 1 := by omega
    have b5 : at' * 3 + 3 = (at' + 1) * 3 := by omega
    obtain ⟨e', s1, s2⟩ := ih (i + 1) (put 6 (vi ((i + 1 : Nat) : Int)) (put 5 (.sl (fg whc (ss wlt (L.take (i + 1)))) (i + 1) 2) (put 0 (.sl (fg whc L) n 0) (put 1 (vi k) emp)))) (by omega) (by simp [put_at]) (by simp [put_at]) (by simp [put_at]) (by simp [put_at])
    refine ⟨e', ?_, s2⟩
    rw [← s1, ← t3]
    refine (go39_0 _ _).trans ?_
    generalize fg whc L = B at *
    generalize fg whc (ss wlt (L.take i)) = B2 at *
    generalize fg whc ((ss wlt (L.take i)).take at') = B3 at *
    generalize fg whc ((ss wlt (L.take i)).drop at') = B4 at *
    generalize ((i + 1 : Nat) : Int) = z at *
    simp [B39_0, push_cast, -Int.not_lt, -Int.not_le, ↓evI_call, ↓evI_calli, ↓evI_callz, ↓evI_callv, ↓evI_mxn, loopIn, loopIn0, keepL, emp, A.dang, A.dangC, h0, h1, h5, h6, q0]
    refine behind (Q := fun a => a = (.ex 2, e2', [])) ⟨_, Eq.trans (loop_env (by simp [put_at])) r1, rfl⟩ ?_
    rintro _ rfl
    simp [push_cast, -Int.not_lt, -Int.not_le, ↓evI_call, ↓evI_calli, ↓evI_callz, ↓evI_callv, ↓evI_mxn, asList, r2, r3, r4, r5, r6, q0, q1, q2, q3, k1, l1, l2, l3, l4, t1, t2, g1, b1, b2, b3, b4, b5, b6]
    exact loop_env (by simp [put_at, r2, r3])
theorem rf_loop4 (L : List Wh) (n : Nat) (k : Int) (hL : L.length = n) (hn : n ≤ 1000) : ∀ (d i : Nat) (e : Env), i + d = n → (i : Int) ≤ max k 0 → e 1 = vi k → e 8 = .sl ((L.take i).map fun w => vi w.task) i 2 → e 5 = .sl (fg whc L) n 2 → e 9 = vi i →
    ∃ e', evL tab0 ext0 0 L39_4 (e, []) = some (.ex 4, e', []) ∧ e' 8 = .sl ((L.take k.toNat).map fun w => vi w.task) (min k.toNat n) 2 := by
  intro d
  induction d with
  | zero =>
    intro i e hi hk h1 h8 h5 h9
    obtain rfl : i = n := by omega
    have e1 : L.take k.toNat = L.take i := by rw [List.take_of_length_le (by omega), List.take_of_length_le (by omega)]
    have e2 : min k.toNat i = i := by omega
    rw [e1, e2]
    generalize fg whc L = B at *
    exact ⟨_, (go39_4 _ _).trans (by simp [B39_4, push_cast, -Int.not_lt, -Int.not_le, ↓evI_call, ↓evI_calli, ↓evI_callz, ↓evI_callv, ↓evI_mxn, loopIn, loopIn0, keepL, emp, A.dang, A.dangC, h1, h8, h5, h9]; rfl), by simp [put_at, h8]⟩
  | succ d ih =>
    intro i e hi hk h1 h8 h5 h9
    obtain ⟨x, hx⟩ : ∃ x, L[i]? = some x := ⟨_, List.getElem?_eq_getElem (by omega)⟩
    have l1 := whE.flen L
    rw [hL] at l1
    have g1 : (fg whc L).drop (i * 3) = vi x.task :: vi x.prio :: vi x.boost :: (L.drop (i + 1)).flatMap whc := by
      obtain ⟨hi', rfl⟩ := List.getElem?_eq_some_iff.1 hx
      exact drop_flat whc 3 (fun _ => rfl) L i hi'
    have k1 : i * 3 + 3 ≤ n * 3 := by omega
    have q0 : (i : Int) < n := by omega
    have q1 : IntKind.wrap .i64 ((i : Int) + 1) = ((i + 1 : Nat) : Int) := by rw [wrap_in _ (by omega) (by omega)]; omega
    by_cases hki : (i : Int) < k
    · have e3 : (L.take (i + 1)).map (fun w => vi w.task) = (L.take i).map (fun w => vi w.task) ++ [vi x.task] := by
        rw [List.take_add_one, hx]; simp
      obtain ⟨e', r1, r2⟩ := ih (i + 1) (put 9 (vi ((i + 1 : Nat) : Int)) (put 8 (.sl ((L.take (i + 1)).map fun w => vi w.task) (i + 1) 2) (put 1 (vi k) (put 5 (.sl (fg whc L) n 2) emp)))) (by omega) (by omega) (by simp [put_at]) (by simp [put_at]) (by simp [put_at]) (by simp [put_at])
      refine ⟨e', ?_, r2⟩
      rw [← r1]
      refine (go39_4 _ _).trans ?_
      rw [e3]
      have l2 : ((L.take i).map fun w => vi w.task).length = i := by rw [List.length_map, List.length_take]; omega
      generalize (L.take i).map (fun w => vi w.task) = M at *
      have hb : (i + 1) * 8 ≤ 70368744177664 := by omega
      generalize fg whc L = B at *
      generalize (L.drop (i + 1)).flatMap whc = D at *
      generalize ((i + 1 : Nat) : Int) = z at *
      simp [B39_4, push_cast, -Int.not_lt, -Int.not_le, ↓evI_call, ↓evI_calli, ↓evI_callz, ↓evI_callv, ↓evI_mxn, loopIn, loopIn0, keepL, emp, A.dang, A.dangC, h1, h8, h5, h9, g1, k1, q0, q1, l1, l2, hb, hki, asList]
      exact loop_env (by simp [put_at])
    · have e1 : L.take k.toNat = L.take i := by rw [show k.toNat = i by omega]
      have e2 : min k.toNat n = i := by omega
      rw [e1, e2]
      generalize fg whc L = B at *
      exact ⟨_, (go39_4 _ _).trans (by simp [B39_4, push_cast, -Int.not_lt, -Int.not_le, ↓evI_call, ↓evI_calli, ↓evI_callz, ↓evI_callv, ↓evI_mxn, loopIn, loopIn0, keepL, emp, A.dang, A.dangC, h1, h8, h5, h9, q0, hki]; rfl), by simp [put_at, h8]⟩
theorem first_r (L : List Wh) (k : Int) (hn : L.length ≤ 1000) : pureOf (callL tab0 ext0) false 39 [.sl (fg whc L) L.length 0, vi k] = some (slI (firstW L k)) := by
  rw [pureOf_b, callL_tab _ _ rfl tab39 rfl]
  have hl := ss_len wlt L
  obtain ⟨e1', r1, r2, r3⟩ := rf_loop0 L L.length k rfl hn L.length 0 (put 6 (vi (0 : Nat)) (put 5 (.sl [] 0 2) (put 0 (.sl (fg whc L) L.length 0) (put 1 (vi k) emp)))) (by omega) (by simp [put_at]) (by simp [put_at]) (by simp [put_at, ss_nil]) (by simp [put_at])
  obtain ⟨e2, s1, s2⟩ := rf_loop4 (ss wlt L) L.length k hl hn L.length 0 (put 9 (vi (0 : Nat)) (put 8 (.sl [] 0 2) (put 5 (.sl (fg whc (ss wlt L)) L.length 2) (put 1 (vi k) emp)))) (by omega) (by omega) (by simp [put_at]) (by simp [put_at]) (by simp [put_at]) (by simp [put_at])
  have e1 : slI (firstW L k) = .sl (((ss wlt L).take k.toNat).map fun w => vi w.task) (min k.toNat L.length) 0 := by
    unfold slI firstW
    rw [List.map_map, List.length_map, List.length_take, hl]; rfl
  rw [e1]
  generalize ((ss wlt L).take k.toNat).map (fun w => vi w.task) = M at *
  generalize fg whc L = B at *
  generalize fg whc (ss wlt L) = B2 at *
  simp [C39, push_cast, -Int.not_lt, -Int.not_le, ↓evI_call, ↓evI_calli, ↓evI_callz, ↓evI_callv, ↓evI_mxn]
  refine behind (Q := fun a => a = (.ex 0, e1', [])) ⟨_, Eq.trans (loop_env (by simp [put_at])) r1, rfl⟩ ?_
  rintro _ rfl
  simp [push_cast, -Int.not_lt, -Int.not_le, ↓evI_call, ↓evI_calli, ↓evI_callz, ↓evI_callv, ↓evI_mxn, r2, r3]
  refine behind (Q := fun a => a = (.ex 4, e2, [])) ⟨_, Eq.trans (loop_env (by simp [put_at, r2, r3])) s1, rfl⟩ ?_
  rintro _ rfl
  simp [push_cast, -Int.not_lt, -Int.not_le, ↓evI_call, ↓evI_calli, ↓evI_callz, ↓evI_callv, ↓evI_mxn, s2, frzK]
end Go.Proofs.YtkohggddaheefaaEv
