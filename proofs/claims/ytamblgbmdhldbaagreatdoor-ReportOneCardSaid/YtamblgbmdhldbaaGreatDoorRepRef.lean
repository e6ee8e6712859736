/- The tasks' numbers by priority, the lines that are told: the reference's. -/
import Derived.Test.YtamblgbmdhldbaaGreatDoorRepOrd
import Derived.Test.YtamblgbmdhldbaaGreatDoorAdmitR
set_option linter.unusedSimpArgs false
set_option linter.unusedVariables false
namespace Go.Proofs.YtamblgbmdhldbaaGreatDoorEv
open Go
set_option maxHeartbeats 2000000
/-- The place behind the last one that one isn't ahead of. -/
def posG {α : Type} (lt : α → α → Bool) (x : α) : List α → Nat
  | [] => 0
  | a :: R => if lt x a then posG lt x R else R.length + 1
theorem posG_le {α : Type} (lt : α → α → Bool) (x : α) : ∀ R, posG lt x R ≤ R.length
  | [] => Nat.le_refl _
  | a :: R => by
    unfold posG
    split
    · exact Nat.le_succ_of_le (posG_le lt x R)
    · simp
theorem posG_ins {α : Type} (lt : α → α → Bool) (x : α) : ∀ (R T : List α), (R.reverse ++ T).take (posG lt x R) ++ x :: (R.reverse ++ T).drop (posG lt x R) = insR' lt R x T
  | [], T => rfl
  | a :: R, T => by
    unfold posG insR'
    cases h : lt x a with
    | true =>
      rw [if_pos rfl, if_pos rfl, ← posG_ins lt x R (a :: T)]; simp
    | false =>
      rw [if_neg Bool.false_ne_true, if_neg Bool.false_ne_true]
      have e : (a :: R).reverse ++ T = (R.reverse ++ [a]) ++ T := by simp
      rw [e, List.take_left' (by simp), List.drop_left' (by simp)]; simp
theorem posG_mge {α : Type} {lt : α → α → Bool} (hw : Swo lt) (x : α) (l : List α) (hs : Srt lt l) : l.take (posG lt x l.reverse) ++ x :: l.drop (posG lt x l.reverse) = mge lt l [x] := by
  have := posG_ins lt x l.reverse []
  rw [List.reverse_reverse, List.append_nil] at this
  rw [this, insR'_mge lt hw _ _ _ (by simpa using hs) (fun t ht => by cases ht)]; simp
theorem nl_get {l : List Nat} {i j : Nat} (h : l[i]? = some j) : ∃ r, (nl l).drop i = vi (j : Nat) :: r := by
  obtain ⟨hi, rfl⟩ := List.getElem?_eq_some_iff.1 h
  exact ⟨nl (l.drop (i + 1)), by unfold nl; rw [← List.map_drop, List.drop_eq_getElem_cons hi]; rfl⟩
theorem od_loop2 (s : St) (hs : Sm s) (g : Good s) (i : Nat) (hi : i < s.tasks.length) : ∀ (R T : List Nat) (e : Env), (∀ y ∈ R, y < s.tasks.length) → R.length + T.length = i → e 1 = .ptr 0 0 → e 3 = .sl (nl (R.reverse ++ T)) i 2 → e 4 = vi i → e 5 = vi R.length →
    ∃ e', evL tab0 ext0 0 L24_2 (e, [St.c s]) = some (.ex 2, e', [St.c s]) ∧ e' 1 = .ptr 0 0 ∧ e' 3 = .sl (nl (R.reverse ++ T)) i 2 ∧ e' 4 = vi i ∧ e' 5 = vi (posG (plt s) i R) := by
  have hn := hs.tasks
  have hl6 := len_tk s.tasks
  intro R
  induction R with
  | nil =>
    intro T e hR hl h1 h3 h4 h5
    have e0 : posG (plt s) i [] = 0 := rfl
    rw [e0]
    simp only [List.length_nil] at h5
    generalize nl (([] : List Nat).reverse ++ T) = B2 at *
    exact ⟨_, (go24_2 _ _).trans (by simp [B24_2, push_cast, -Int.not_lt, -Int.not_le, ↓evI_call, ↓evI_calli, ↓evI_callz, ↓evI_callv, ↓evI_mxn, loopIn, loopIn0, keepL, emp, A.dang, A.dangC, St.c, slI, slT, h1, h3, h4, h5]; rfl), by simp [put_at]⟩
  | cons a R ih =>
    intro T e hR hl h1 h3 h4 h5
    simp only [List.length_cons] at hl h5
    have ha := hR a (List.mem_cons_self ..)
    have eL : (a :: R).reverse ++ T = R.reverse ++ a :: T := by simp
    rw [eL] at h3 ⊢
    have l2 : (nl (R.reverse ++ a :: T)).length = i := by rw [nl_len]; simp; omega
    obtain ⟨D2, g2⟩ := nl_get (midx R.reverse a T R.length (by simp))
    have d1 := drop_tk s.tasks a ha
    have d2 := drop_tk s.tasks i hi
    have p1 := prioAt_is s a ha
    have p2 := prioAt_is s i hi
    have k1 : (a : Int) < s.tasks.length := by omega
    have k2 : (i : Int) < s.tasks.length := by omega
    have k3 : a * 6 + 6 ≤ s.tasks.length * 6 := by omega
    have k4 : i * 6 + 6 ≤ s.tasks.length * 6 := by omega
    have q1 : IntKind.wrap .i64 (((R.length + 1 : Nat) : Int) - 1) = (R.length : Int) := by rw [wrap_in _ (by omega) (by omega)]; omega
    have q2 : (0 : Int) < ((R.length + 1 : Nat) : Int) := by omega
    have q3 : (R.length : Int) < i := by omega
    have hpl : plt s i a = decide (s.tasks[i].prio < s.tasks[a].prio) := by unfold plt; rw [p1, p2]
    unfold posG
    rw [hpl]
    simp only [Tk.c] at d1 d2
    by_cases hlt : s.tasks[i].prio < s.tasks[a].prio
    · rw [if_pos (by simpa using hlt)]
      have ih' := ih (a :: T)
      generalize nl (R.reverse ++ a :: T) = B2 at *
      obtain ⟨e', r1, r2⟩ := ih' (put 5 (vi R.length) (put 1 (.ptr 0 0) (put 3 (.sl B2 i 2) (put 4 (vi i) emp)))) (fun y hy => hR y (List.mem_cons_of_mem _ hy)) (by simp; omega) (by simp [put_at]) (by simp [put_at]) (by simp [put_at]) (by simp [put_at])
      refine ⟨e', ?_, r2⟩
      rw [← r1]
      refine (go24_2 _ _).trans ?_
      generalize ((R.length + 1 : Nat) : Int) = z at *
      simp [B24_2, push_cast, -Int.not_lt, -Int.not_le, ↓evI_call, ↓evI_calli, ↓evI_callz, ↓evI_callv, ↓evI_mxn, loopIn, loopIn0, keepL, emp, A.dang, A.dangC, St.c, slI, slT, h1, h3, h4, h5, g2, d1, d2, k1, k2, k3, k4, q1, q2, q3, l2, hl6, hlt, ha, hi]
      exact loop_env (by simp [put_at])
    · rw [if_neg (by simpa using hlt)]
      generalize nl (R.reverse ++ a :: T) = B2 at *
      generalize hz : ((R.length + 1 : Nat) : Int) = z at *
      exact ⟨_, (go24_2 _ _).trans (by simp [B24_2, push_cast, -Int.not_lt, -Int.not_le, ↓evI_call, ↓evI_calli, ↓evI_callz, ↓evI_callv, ↓evI_mxn, loopIn, loopIn0, keepL, emp, A.dang, A.dangC, St.c, slI, slT, h1, h3, h4, h5, g2, d1, d2, k1, k2, k3, k4, q1, q2, q3, l2, hl6, hlt, ha, hi]; rfl), by simp [put_at, ← hz]⟩
theorem nl_app (a b : List Nat) : nl (a ++ b) = nl a ++ nl b := List.map_append
theorem od_loop0 (s : St) (hs : Sm s) (g : Good s) : ∀ (d i : Nat) (e : Env), i + d = s.tasks.length → e 1 = .ptr 0 0 → e 3 = .sl (nl (ss (plt s) (List.range i))) i 2 → e 4 = vi i →
    ∃ e', evL tab0 ext0 0 L24_0 (e, [St.c s]) = some (.ex 0, e', [St.c s]) ∧ e' 3 = .sl (nl (ordS s)) s.tasks.length 2 := by
  have hn := hs.tasks
  intro d
  induction d with
  | zero =>
    intro i e hi h1 h3 h4
    obtain rfl : i = s.tasks.length := by omega
    have e0 : ss (plt s) (List.range s.tasks.length) = ordS s := rfl
    rw [e0] at h3
    generalize nl (ordS s) = B at *
    exact ⟨_, (go24_0 _ _).trans (by simp [B24_0, push_cast, -Int.not_lt, -Int.not_le, ↓evI_call, ↓evI_calli, ↓evI_callz, ↓evI_callv, ↓evI_mxn, loopIn, loopIn0, keepL, emp, A.dang, A.dangC, St.c, slI, slT, h1, h3, h4]; rfl), by simp [put_at]⟩
  | succ d ih =>
    intro i e hi h1 h3 h4
    have hil : i < s.tasks.length := by omega
    have hll : (ss (plt s) (List.range i)).length = i := by rw [ss_len, List.length_range]
    have hmm : ∀ y ∈ (ss (plt s) (List.range i)).reverse, y < s.tasks.length := fun y hy => by
      have h := List.mem_range.1 ((ss_perm (plt s) _ _ rfl).mem_iff.1 (List.mem_reverse.1 hy))
      omega
    have e2 := posG_mge (plt_swo s) i (ss (plt s) (List.range i)) (ss_srt _ (plt_swo s) _ _ rfl)
    rw [← ss_snoc, ← List.range_succ] at e2
    have hple := posG_le (plt s) i (ss (plt s) (List.range i)).reverse
    rw [List.length_reverse, hll] at hple
    obtain ⟨e2', r1, r2, r3, r4, r5⟩ := od_loop2 s hs g i hil (ss (plt s) (List.range i)).reverse [] (put 5 (vi i) (put 1 (.ptr 0 0) (put 3 (.sl (nl (ss (plt s) (List.range i))) i 2) (put 4 (vi i) emp)))) hmm (by rw [List.length_reverse, hll]; simp) (by simp [put_at]) (by simp [put_at]) (by simp [put_at]) (by simp [put_at, hll])
    rw [List.reverse_reverse, List.append_nil] at r3
    generalize posG (plt s) i (ss (plt s) (List.range i)).reverse = at' at *
    have l2 : (nl (ss (plt s) (List.range i))).length = i := by rw [nl_len, hll]
    have t1 : (nl (ss (plt s) (List.range i))).take at' = nl ((ss (plt s) (List.range i)).take at') := List.map_take.symm
    have t2 : ((nl (ss (plt s) (List.range i))).drop at').take (i - at') = nl ((ss (plt s) (List.range i)).drop at') := by
      have h : (nl (ss (plt s) (List.range i))).drop at' = nl ((ss (plt s) (List.range i)).drop at') := List.map_drop.symm
      rw [h, List.take_of_length_le (by rw [nl_len, List.length_drop, hll]; exact Nat.le_refl _)]
    have t3 : nl ((ss (plt s) (List.range i)).take at') ++ (vi (i : Nat) :: nl ((ss (plt s) (List.range i)).drop at')) = nl (ss (plt s) (List.range (i + 1))) := by
      rw [← e2, nl_app]; rfl
    have l3 : (nl ((ss (plt s) (List.range i)).take at')).length = at' := by rw [nl_len, List.length_take]; omega
    have l4 : (nl ((ss (plt s) (List.range i)).drop at')).length = i - at' := by rw [nl_len, List.length_drop, hll]
    have q0 : (i : Int) < s.tasks.length := by omega
    have q1 : IntKind.wrap .i64 ((i : Int) + 1) = ((i + 1 : Nat) : Int) := by rw [wrap_in _ (by omega) (by omega)]; omega
    have q2 : (at' : Int) ≤ i := by omega
    have q3 : ((i : Int) - at').toNat = i - at' := by omega
    have b1 : at' * 8 ≤ 70368744177664 := by omega
    have b2 : (at' + 1) * 8 ≤ 70368744177664 := by omega
    have b3 : (at' + 1 + (i - at')) * 8 ≤ 70368744177664 := by omega
    have b6 : (i + 1) * 8 ≤ 70368744177664 := by omega
    have b4 : at' + 1 + (i - at') = i + 1 := by omega
    obtain ⟨e', s1, s2⟩ := ih (i + 1) (put 4 (vi ((i + 1 : Nat) : Int)) (put 3 (.sl (nl (ss (plt s) (List.range (i + 1)))) (i + 1) 2) (put 1 (.ptr 0 0) emp))) (by omega) (by simp [put_at]) (by simp [put_at]) (by simp [put_at])
    refine ⟨e', ?_, s2⟩
    rw [← s1, ← t3]
    refine (go24_0 _ _).trans ?_
    generalize nl (ss (plt s) (List.range i)) = B2 at *
    generalize nl ((ss (plt s) (List.range i)).take at') = B3 at *
    generalize nl ((ss (plt s) (List.range i)).drop at') = B4 at *
    generalize ((i + 1 : Nat) : Int) = z at *
    simp only [St.c, slI, slT] at r1
    simp [B24_0, push_cast, -Int.not_lt, -Int.not_le, ↓evI_call, ↓evI_calli, ↓evI_callz, ↓evI_callv, ↓evI_mxn, loopIn, loopIn0, keepL, emp, A.dang, A.dangC, St.c, slI, slT, h1, h3, h4, q0]
    refine behind (Q := fun a => a = (.ex 2, e2', [[vi s.proto, .sl (s.cores.map vi) s.cores.length 0, .sl (s.homes.map vi) s.homes.length 0, .sl (s.tasks.flatMap Tk.c) s.tasks.length 0]])) ⟨_, Eq.trans (loop_env (by simp [put_at])) r1, rfl⟩ ?_
    rintro _ rfl
    simp [push_cast, -Int.not_lt, -Int.not_le, ↓evI_call, ↓evI_calli, ↓evI_callz, ↓evI_callv, ↓evI_mxn, asList, r2, r3, r4, r5, q0, q1, q2, q3, l2, l3, l4, t1, t2, b1, b2, b3, b4, b6]
    exact loop_env (by simp [put_at, r2, r3])
theorem order_is (s : St) (hs : Sm s) (g : Good s) : pureOf (callL tab0 ext0) false 24 [.agg (St.c s)] = some (.sl (nl (ordS s)) s.tasks.length 0) := by
  rw [pureOf_b, callL_tab _ _ rfl tab24 rfl]
  have hlp := fun (e : Env) (h : e 1 = .ptr 0 0 ∧ e 3 = .sl [] 0 2 ∧ e 4 = vi ((0 : Nat) : Int)) => exA (od_loop0 s hs g s.tasks.length 0 e (by omega) h.1 h.2.1 h.2.2)
  have hpm := fun (bx : Bx) (d : Nat) => plain_mapM (bx := bx) (d := d) (nl_plain (ordS s))
  generalize nl (ordS s) = B at *
  simp only [St.c, slI, slT] at hlp
  simp [C24, push_cast, -Int.not_lt, -Int.not_le, ↓evI_call, ↓evI_calli, ↓evI_callz, ↓evI_callv, ↓evI_mxn, St.c, slI, slT]
  refine behind (hlp _ (by simp [put_at])) ?_
  rintro _ ⟨e', rfl, k3⟩
  simp [push_cast, -Int.not_lt, -Int.not_le, ↓evI_call, ↓evI_calli, ↓evI_callz, ↓evI_callv, ↓evI_mxn, k3, frzK, hpm]
end Go.Proofs.YtamblgbmdhldbaaGreatDoorEv
