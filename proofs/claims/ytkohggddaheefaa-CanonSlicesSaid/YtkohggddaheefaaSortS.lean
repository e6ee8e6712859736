/- slices.SortStableFunc of few records of two numbers: by putting in. -/
import Derived.Test.YtkohggddaheefaaLib
import Derived.KernelRfl
set_option linter.unusedSimpArgs false
set_option linter.unusedVariables false
namespace Go.Proofs.YtkohggddaheefaaEv
open Go
set_option maxHeartbeats 2000000
abbrev It := Int × Int
def itc (p : It) : List A := [vi p.1, vi p.2]
def fl (l : List It) : List A := l.flatMap itc
theorem fl_len (l : List It) : (fl l).length = l.length * 2 := len_flat _ 2 (fun _ => rfl) l
theorem fl_plain (l : List It) : (fl l).all A.plain = true := plain_flat _ (fun _ => rfl) l
theorem fl_app (l m : List It) : fl (l ++ m) = fl l ++ fl m := List.flatMap_append
/-- A record is put in from the right, behind all whose key isn't above its own. -/
def insP : List It → It → List It → List It
  | [], x, T => x :: T
  | a :: R, x, T => if x.1 < a.1 then insP R x (a :: T) else R.reverse ++ a :: x :: T
theorem insP_len : ∀ (R : List It) (x : It) (T : List It), (insP R x T).length = R.length + 1 + T.length
  | [], x, T => by simp [insP]; omega
  | a :: R, x, T => by
    unfold insP
    split
    · rw [insP_len R x (a :: T)]; simp; omega
    · simp; omega
/-- So many put in. -/
def srtL (L : List It) : Nat → List It
  | 0 => L
  | i + 1 => match (srtL L i)[i + 1]? with
    | some x => insP ((srtL L i).take (i + 1)).reverse x ((srtL L i).drop (i + 2))
    | none => srtL L i
theorem srtL_len (L : List It) : ∀ i, (srtL L i).length = L.length
  | 0 => rfl
  | i + 1 => by
    have h := srtL_len L i
    unfold srtL
    cases hx : (srtL L i)[i + 1]? with
    | none => exact h
    | some x =>
      have hi : i + 1 < (srtL L i).length := (List.getElem?_eq_some_iff.1 hx).1
      simp only
      rw [insP_len, List.length_reverse, List.length_take, List.length_drop]; omega
theorem fl_clean (l : List It) : Clean [fl l] :=
  ⟨by show [(fl l).map A.cp1] = [fl l]; rw [plain_cp (fl_plain l)], by show ([fl l].all fun cs => cs.all (A.dangC 1)) = true; simp only [List.all_cons, List.all_nil, plain_dang (fl_plain l), Bool.and_self]⟩
theorem fl_at (U : List It) (x : It) (V : List It) (o : Nat) (ho : o = U.length * 2) : ((fl (U ++ x :: V)).drop o).take 2 = [vi x.1, vi x.2] := by
  subst ho
  rw [fl_app, ← fl_len U, List.drop_left]; rfl
theorem fl_put (U : List It) (x y : It) (V : List It) (o : Nat) (ho : o = U.length * 2) : (fl (U ++ x :: V)).take o ++ vi y.1 :: vi y.2 :: (fl (U ++ x :: V)).drop (o + 2) = fl (U ++ y :: V) := by
  subst ho
  rw [fl_app, fl_app, ← fl_len U, List.take_left, ← List.drop_drop, List.drop_left]; rfl
def cmpS (a b : Int) : Int := if a < b then -1 else if b < a then 1 else 0
theorem cmpS_neg (a b : Int) : cmpS a b < 0 ↔ a < b := by
  unfold cmpS
  split
  · omega
  · split <;> omega
theorem cmp_itm (a b : It) (B : List A) : callL tab0 ext0 86 [.agg [vi a.1, vi a.2], .agg [vi b.1, vi b.2]] [B] = some (vi (cmpS a.1 b.1), [B] ++ [itc a, itc b]) := by
  have h0 : ∀ x : Int, pureOf (callL tab0 ext0) false 89 [vi x] = some (vb false) := by
    intro x
    refine pureOf_eq (bx := []) (r := vb false) ?_ rfl
    rw [callL_tab _ _ rfl tab89 rfl]
    simp [C89, push_cast, -Int.not_lt, -Int.not_le, ↓evI_call, ↓evI_calli, ↓evI_calln, ↓evI_callz, ↓evI_callv, ↓evI_mxn]
  have h1 : pureOf (callL tab0 ext0) false 82 [vi a.1, vi b.1] = some (vi (cmpS a.1 b.1)) := by
    unfold cmpS
    refine pureOf_eq (bx := []) (r := vi _) ?_ rfl
    rw [callL_tab _ _ rfl tab82 rfl]
    by_cases c1 : a.1 < b.1
    · simp [C82, push_cast, -Int.not_lt, -Int.not_le, ↓evI_call, ↓evI_calli, ↓evI_calln, ↓evI_callz, ↓evI_callv, ↓evI_mxn, h0, c1]
    · by_cases c2 : b.1 < a.1 <;> simp [C82, push_cast, -Int.not_lt, -Int.not_le, ↓evI_call, ↓evI_calli, ↓evI_calln, ↓evI_callz, ↓evI_callv, ↓evI_mxn, h0, c1, c2]
  rw [callL_tab _ _ rfl tab86 rfl]
  generalize cmpS a.1 b.1 = r at h1 ⊢
  simp [C86, push_cast, -Int.not_lt, -Int.not_le, ↓evI_call, ↓evI_calli, ↓evI_calln, ↓evI_callz, ↓evI_callv, ↓evI_mxn, h1, itc]
theorem iss_loop2 (n i : Nat) (hn : n ≤ 50) : ∀ (R : List It) (x : It) (T : List It) (e : Env), R.length + T.length + 1 = n → e 0 = .bs 0 n 2 → e 1 = vi 0 → e 2 = vi n → e 3 = .fn 86 [] → e 8 = vi i → e 9 = vi R.length →
    ∃ e', evL tab0 ext0 1 L94_2 (e, [fl (R.reverse ++ x :: T)]) = some (.ex 2, e', [fl (insP R x T)]) ∧ (e' 0 = .bs 0 n 2 ∧ e' 1 = vi 0 ∧ e' 2 = vi n ∧ e' 3 = .fn 86 [] ∧ e' 8 = vi i) := by
  intro R
  induction R with
  | nil =>
    intro x T e hl h0 h1 h2 h3 h8 h9
    have hcl := (fl_clean (([] : List It).reverse ++ x :: T)).2
    have e0 : insP [] x T = ([] : List It).reverse ++ x :: T := rfl
    rw [e0]
    have hcl' : (fl (([] : List It).reverse ++ x :: T)).all (A.dangC 1) = true := plain_dang (fl_plain _)
    generalize fl (([] : List It).reverse ++ x :: T) = B at *
    refine ⟨_, (go94_2 _ _).trans (by simp [B94_2, push_cast, -Int.not_lt, -Int.not_le, ↓evI_call, ↓evI_calli, ↓evI_calln, ↓evI_callz, ↓evI_callv, ↓evI_mxn, loopIn, loopIn0, keepL, emp, A.dang, A.dangC, h0, h1, h2, h3, h8, h9, hcl', -List.all_eq_true]; rfl), by simp [put_at]⟩
  | cons a R ih =>
    intro x T e hl h0 h1 h2 h3 h8 h9
    have eL : (a :: R).reverse ++ x :: T = R.reverse ++ a :: x :: T := by simp
    rw [eL]
    have hcall := cmp_itm x a (fl (R.reverse ++ a :: x :: T))
    have haft := aft_vi' (fl_clean (R.reverse ++ a :: x :: T)) (cmpS x.1 a.1) [itc x, itc a]
    have hcl : (fl (R.reverse ++ a :: x :: T)).all (A.dangC 1) = true := plain_dang (fl_plain _)
    have hlen := fl_len (R.reverse ++ a :: x :: T)
    have hl0 : R.length + 1 + T.length + 1 = n := by simpa using hl
    have hl1 : (R.reverse ++ a :: x :: T).length = n := by simp; omega
    rw [hl1] at hlen
    have dA := fl_at R.reverse a (x :: T) (R.length * 2) (by simp)
    have dX := fl_at (R.reverse ++ [a]) x T ((R.length + 1) * 2) (by simp)
    have s1 := fl_put (R.reverse ++ [a]) x a T ((R.length + 1) * 2) (by simp)
    have s2 := fl_put R.reverse a x (a :: T) (R.length * 2) (by simp)
    simp only [List.append_assoc, List.cons_append, List.nil_append] at dX s1
    have hlen2 := fl_len (R.reverse ++ a :: a :: T)
    have hl2 : (R.reverse ++ a :: a :: T).length = n := by simp; omega
    rw [hl2] at hlen2
    have h9' : e 9 = vi ((R.length : Int) + 1) := by rw [h9]; simp
    have hj : IntKind.wrap .i64 ((R.length : Int) + 1 - 1) = R.length := by rw [wrap_in _ (by omega) (by omega)]; omega
    have hj2 : IntKind.wrap .i64 (R.length : Int) = R.length := wrap_in _ (by omega) (by omega)
    have hpos : (0 : Int) < (R.length : Int) + 1 := by omega
    have q1 : (0 : Int) ≤ (R.length : Int) + 1 := by omega
    have q2 : (R.length : Int) + 1 < n := by omega
    have q3 : (R.length : Int) < n := by omega
    have q4 : (0 : Int) ≤ R.length := by omega
    have q5 : ((R.length : Int) + 1).toNat = R.length + 1 := by omega
    have k1 : (R.length + 1) * 2 + 2 ≤ n * 2 := by omega
    have k2 : R.length * 2 + 2 ≤ n * 2 := by omega
    have hneg := cmpS_neg x.1 a.1
    simp only [List.length_cons, List.length_nil, List.cons_append, List.nil_append, Nat.zero_add] at hcall haft
    by_cases hlt : x.1 < a.1
    · have c1 : cmpS x.1 a.1 < 0 := hneg.2 hlt
      have hins : insP (a :: R) x T = insP R x (a :: T) := by rw [insP, if_pos hlt]
      rw [hins]
      obtain ⟨e2', k3, k4⟩ := ih x (a :: T) (put 9 (vi R.length) (put 0 (.bs 0 n 2) (put 1 (vi 0) (put 2 (vi n) (put 3 (.fn 86 []) (put 8 (vi i) emp)))))) (by simp; omega) (by simp [put_at]) (by simp [put_at]) (by simp [put_at]) (by simp [put_at]) (by simp [put_at]) (by simp [put_at])
      refine ⟨e2', ?_, k4⟩
      rw [← k3]
      refine (go94_2 _ _).trans ?_
      generalize fl (R.reverse ++ a :: x :: T) = B at *
      generalize fl (R.reverse ++ a :: a :: T) = B2 at *
      generalize fl (R.reverse ++ x :: a :: T) = B3 at *
      simp [B94_2, push_cast, -Int.not_lt, -Int.not_le, ↓evI_call, ↓evI_calli, ↓evI_calln, ↓evI_callz, ↓evI_callv, ↓evI_mxn, loopIn, loopIn0, keepL, emp, A.dang, A.dangC, h0, h1, h2, h3, h8, h9', hcl, hj, hj2, hpos, hcall, haft, c1, dA, dX, s1, s2, hlen, hlen2, k1, k2, q1, q2, q3, q4, q5, -List.all_eq_true]
      exact loop_env (by simp [put_at])
    · have c1 : ¬ cmpS x.1 a.1 < 0 := fun h => hlt (hneg.1 h)
      have hins : insP (a :: R) x T = R.reverse ++ a :: x :: T := by rw [insP, if_neg hlt]
      rw [hins]
      generalize fl (R.reverse ++ a :: x :: T) = B at *
      refine ⟨_, (go94_2 _ _).trans (by simp [B94_2, push_cast, -Int.not_lt, -Int.not_le, ↓evI_call, ↓evI_calli, ↓evI_calln, ↓evI_callz, ↓evI_callv, ↓evI_mxn, loopIn, loopIn0, keepL, emp, A.dang, A.dangC, h0, h1, h2, h3, h8, h9', hcl, hj, hj2, hpos, hcall, haft, c1, dA, dX, hlen, k1, k2, q1, q2, q3, q4, q5, -List.all_eq_true]; rfl), by simp [put_at]⟩
/-- One more is put in. -/
theorem srtL_step (L : List It) (i : Nat) (h : i + 1 < L.length) : ∃ x, (srtL L i)[i + 1]? = some x ∧ srtL L i = ((srtL L i).take (i + 1)) ++ x :: (srtL L i).drop (i + 2) ∧ srtL L (i + 1) = insP ((srtL L i).take (i + 1)).reverse x ((srtL L i).drop (i + 2)) := by
  have hl := srtL_len L i
  have hi : i + 1 < (srtL L i).length := by omega
  refine ⟨(srtL L i)[i + 1], List.getElem?_eq_getElem hi, ?_, ?_⟩
  · rw [← List.drop_eq_getElem_cons hi, List.take_append_drop]
  · rw [srtL, List.getElem?_eq_getElem hi]
theorem iss_loop0 (n : Nat) (hn : n ≤ 50) (L : List It) (hL : L.length = n) : ∀ (d i : Nat) (e : Env), i + 1 + d = n → e 0 = .bs 0 n 2 → e 1 = vi 0 → e 2 = vi n → e 3 = .fn 86 [] → e 8 = vi ((i + 1 : Nat) : Int) →
    ∃ e', evL tab0 ext0 1 L94_0 (e, [fl (srtL L i)]) = some (.ex 0, e', [fl (srtL L (n - 1))]) := by
  intro d
  induction d with
  | zero =>
    intro i e hi h0 h1 h2 h3 h8
    obtain rfl : i = n - 1 := by omega
    have hcl : (fl (srtL L (n - 1))).all (A.dangC 1) = true := plain_dang (fl_plain _)
    have e1 : n - 1 + 1 = n := by omega
    rw [e1] at h8
    generalize fl (srtL L (n - 1)) = B at *
    exact ⟨_, (go94_0 _ _).trans (by simp [B94_0, push_cast, -Int.not_lt, -Int.not_le, ↓evI_call, ↓evI_calli, ↓evI_calln, ↓evI_callz, ↓evI_callv, ↓evI_mxn, loopIn, loopIn0, keepL, emp, A.dang, A.dangC, h0, h1, h2, h3, h8, hcl, -List.all_eq_true]; rfl)⟩
  | succ d ih =>
    intro i e hi h0 h1 h2 h3 h8
    obtain ⟨x, x1, x2, x3⟩ := srtL_step L i (by omega)
    have hlen := srtL_len L i
    have hR : ((srtL L i).take (i + 1)).reverse.length = i + 1 := by rw [List.length_reverse, List.length_take]; omega
    have hin := iss_loop2 n (i + 1) hn ((srtL L i).take (i + 1)).reverse x ((srtL L i).drop (i + 2))
    rw [List.reverse_reverse, ← x2, ← x3, hR] at hin
    have hw : IntKind.wrap .i64 (((i + 1 : Nat) : Int) + 1) = ((i + 1 + 1 : Nat) : Int) := by rw [wrap_in _ (by omega) (by omega)]; omega
    have hc : ((i + 1 : Nat) : Int) < n := by omega
    obtain ⟨e2', k1, k2, k3, k4, k5, k6⟩ := hin (put 9 (vi ((i + 1 : Nat) : Int)) (put 0 (.bs 0 n 2) (put 1 (vi 0) (put 2 (vi n) (put 3 (.fn 86 []) (put 8 (vi ((i + 1 : Nat) : Int)) emp)))))) (by rw [List.length_drop]; omega) (by simp [put_at]) (by simp [put_at]) (by simp [put_at]) (by simp [put_at]) (by simp [put_at]) (by simp [put_at])
    obtain ⟨e3', m1⟩ := ih (i + 1) (put 8 (vi ((i + 1 + 1 : Nat) : Int)) e2') (by omega) (by simp [put_at, k2]) (by simp [put_at, k3]) (by simp [put_at, k4]) (by simp [put_at, k5]) (by simp [put_at])
    refine ⟨e3', ?_⟩
    rw [← m1]
    refine (go94_0 _ _).trans ?_
    have hcl : (fl (srtL L i)).all (A.dangC 1) = true := plain_dang (fl_plain _)
    generalize fl (srtL L i) = B at *
    generalize fl (srtL L (i + 1)) = B2 at *
    generalize hz : ((i + 1 : Nat) : Int) = z at *
    generalize ((i + 1 + 1 : Nat) : Int) = z2 at *
    simp [B94_0, push_cast, -Int.not_lt, -Int.not_le, ↓evI_call, ↓evI_calli, ↓evI_calln, ↓evI_callz, ↓evI_callv, ↓evI_mxn, loopIn, loopIn0, keepL, emp, A.dang, A.dangC, h0, h1, h2, h3, h8, hcl, hc, -List.all_eq_true]
    refine behind (Q := fun a => a = (.ex 2, e2', [B2])) ⟨_, Eq.trans (loop_env (by simp [put_at])) k1, rfl⟩ ?_
    rintro _ rfl
    simp [push_cast, -Int.not_lt, -Int.not_le, ↓evI_call, ↓evI_calli, ↓evI_calln, ↓evI_callz, ↓evI_callv, ↓evI_mxn, k2, k3, k4, k5, k6, hw]
    exact loop_env (by simp [put_at, k2, k3, k4, k5, k6])
theorem iss_call (L : List It) (hn : 0 < L.length ∧ L.length ≤ 50) : callL tab0 ext0 94 [.bs 0 L.length 2, vi 0, vi L.length, .fn 86 []] [fl L] = some (.tup [], [fl (srtL L (L.length - 1))]) := by
  rw [callL_tab _ _ rfl tab94 rfl]
  obtain ⟨e', k1⟩ := iss_loop0 L.length (by omega) L rfl (L.length - 1) 0 (put 8 (vi ((0 + 1 : Nat) : Int)) (put 0 (.bs 0 L.length 2) (put 1 (vi 0) (put 2 (vi L.length) (put 3 (.fn 86 []) emp))))) (by omega) (by simp [put_at]) (by simp [put_at]) (by simp [put_at]) (by simp [put_at]) (by simp [put_at])
  have w1 : IntKind.wrap .i64 1 = 1 := by decide
  have e0 : srtL L 0 = L := rfl
  rw [e0] at k1
  generalize fl L = B at *
  generalize fl (srtL L (L.length - 1)) = B2 at *
  simp [C94, w1, push_cast, -Int.not_lt, -Int.not_le, ↓evI_call, ↓evI_calli, ↓evI_calln, ↓evI_callz, ↓evI_callv, ↓evI_mxn]
  refine behind (Q := fun a => a = (.ex 0, e', [B2])) ⟨_, Eq.trans (loop_env (by simp [put_at])) k1, rfl⟩ ?_
  rintro _ rfl
  simp [push_cast, -Int.not_lt, -Int.not_le, ↓evI_call, ↓evI_calli, ↓evI_calln, ↓evI_callz, ↓evI_callv, ↓evI_mxn]
theorem stable_call (L : List It) (hn : 0 < L.length ∧ L.length ≤ 19) : callL tab0 ext0 92 [.bs 0 L.length 2, vi L.length, .fn 86 []] [fl L] = some (.tup [], [fl (srtL L (L.length - 1))]) := by
  rw [callL_tab _ _ rfl tab92 rfl]
  have h1 := iss_call L ⟨hn.1, by omega⟩
  have ha := aft_clean (fl_clean (srtL L (L.length - 1))) (v := .tup []) rfl
  have hcl : (fl L).all (A.dangC 1) = true := plain_dang (fl_plain _)
  have hcl2 : (fl (srtL L (L.length - 1))).all (A.dangC 1) = true := plain_dang (fl_plain _)
  have c1 : ¬ (20 : Int) ≤ L.length := by omega
  have c2 : ¬ (20 : Int) < L.length := by omega
  have c3 : ¬ 20 ≤ L.length := by omega
  have c4 : ¬ 20 < L.length := by omega
  generalize fl L = B at *
  generalize fl (srtL L (L.length - 1)) = B2 at *
  simp only [List.length_cons, List.length_nil, Nat.zero_add] at ha
  simp [C92, push_cast, -Int.not_lt, -Int.not_le, ↓evI_call, ↓evI_calli, ↓evI_calln, ↓evI_callz, ↓evI_callv, ↓evI_mxn, loopIn, loopIn0, keepL, emp, A.dang, A.dangC, go92_0, B92_0, go92_2, B92_2, hcl, hcl2, c1, c2, c3, c4, h1, ha, -List.all_eq_true]
theorem ss_call (L : List It) (hn : 0 < L.length ∧ L.length ≤ 19) : callL tab0 ext0 85 [.bs 0 L.length 2, .fn 86 []] [fl L] = some (.tup [], [fl (srtL L (L.length - 1))]) := by
  rw [callL_tab _ _ rfl tab85 rfl]
  have h1 := stable_call L hn
  have ha := aft_clean (fl_clean (srtL L (L.length - 1))) (v := .tup []) rfl
  generalize fl L = B at *
  generalize fl (srtL L (L.length - 1)) = B2 at *
  simp only [List.length_cons, List.length_nil, Nat.zero_add] at ha
  simp [C85, push_cast, -Int.not_lt, -Int.not_le, ↓evI_call, ↓evI_calli, ↓evI_calln, ↓evI_callz, ↓evI_callv, ↓evI_mxn, h1, ha]
theorem sort_is (L : List It) (hn : L.length ≤ 19) : pureOf (callL tab0 ext0) false 68 [.sl (fl L) L.length 0] = some (.sl (fl (srtL L (L.length - 1))) L.length 0) := by
  rw [pureOf_b, callL_tab _ _ rfl tab68 rfl]
  have hc := clone_84 (fl L) L.length [] (fl_plain L) (fl_len L) (by omega)
  unfold cloned at hc
  by_cases hz : L.length = 0
  · obtain rfl : L = [] := List.length_eq_zero_iff.1 hz
    have hs : callL tab0 ext0 85 [.sl [] 0 0, .fn 86 []] [] = some (.tup [], []) := (callL_iff ..).2 ⟨100, by kernel_rfl⟩
    simp only [List.length_nil, if_true] at hc
    have e : fl [] = [] := rfl
    have e2 : fl (srtL [] (0 - 1)) = [] := rfl
    rw [e] at hc
    simp [C68, push_cast, -Int.not_lt, -Int.not_le, ↓evI_call, ↓evI_calli, ↓evI_calln, ↓evI_callz, ↓evI_callv, ↓evI_mxn, hc, aft, strip, hs, frzK, e, srtL]
  · rw [if_neg hz] at hc
    have h1 := ss_call L ⟨by omega, hn⟩
    have ha := aft_clean (fl_clean (srtL L (L.length - 1))) (v := .tup []) rfl
    have hcp := plain_cp (fl_plain L)
    have hcp2 := plain_cp (fl_plain (srtL L (L.length - 1)))
    have hm := fun bx d => plain_mapM (bx := bx) (d := d) (fl_plain (srtL L (L.length - 1)))
    have hl := fl_len (srtL L (L.length - 1))
    rw [srtL_len] at hl
    have htk : (fl (srtL L (L.length - 1))).take (L.length * 2) = fl (srtL L (L.length - 1)) := List.take_of_length_le (by omega)
    have hle : L.length * 2 ≤ (fl (srtL L (L.length - 1))).length := by omega
    generalize fl L = B at *
    generalize fl (srtL L (L.length - 1)) = B2 at *
    simp only [List.length_cons, List.length_nil, Nat.zero_add, List.nil_append] at ha hc
    simp [C68, push_cast, -Int.not_lt, -Int.not_le, ↓evI_call, ↓evI_calli, ↓evI_calln, ↓evI_callz, ↓evI_callv, ↓evI_mxn, hc, aft, strip, hcp, hcp2, h1, ha, frzK, htk, hm, hle]
end Go.Proofs.YtkohggddaheefaaEv
