/- slices.SortStableFunc: swaps, rotations, merges of sorted stretches. -/
import Derived.Test.YtgndbkeiickihaaMrg
import Derived.KernelRfl
set_option linter.unusedSimpArgs false
set_option linter.unusedVariables false
namespace Go.Proofs.YtgndbkeiickihaaEv
open Go
set_option maxHeartbeats 2000000
/-- What compares records says which is ahead. -/
structure CmpK {α : Type} (enc : α → List A) (lt : α → α → Bool) (fc : Nat) : Prop where
  call : ∀ (a b : α) (B : List A), B.all A.plain = true → ∃ c junk, callL tab0 ext0 fc [.agg (enc a), .agg (enc b)] [B] = some (vi c, B :: junk) ∧ (c < 0 ↔ lt a b = true)
section
variable {α : Type} {enc : α → List A} (hE : Enc enc 2)
include hE
theorem sr_loop (L : List α) (n a b k : Nat) (hL : L.length = n) (hn : n ≤ 1000000) (ha : a + k ≤ n) (hb : b + k ≤ n) : ∀ (d i : Nat) (e : Env), i + d = k → e 0 = .bs 0 n 2 → e 1 = vi a → e 2 = vi b → e 3 = vi k → e 10 = vi i →
    ∃ e', evL tab0 ext0 1 L113_0 (e, [fg enc (swr L a b i)]) = some (.ex 0, e', [fg enc (swr L a b k)]) := by
  intro d
  induction d with
  | zero =>
    intro i e hi h0 h1 h2 h3 h10
    obtain rfl : i = k := by omega
    have hcl : (fg enc (swr L a b i)).all (A.dangC 1) = true := plain_dang (hE.fplain _)
    generalize fg enc (swr L a b i) = B at *
    exact ⟨_, (go113_0 _ _).trans (by simp [B113_0, push_cast, -Int.not_lt, -Int.not_le, ↓evI_call, ↓evI_calli, ↓evI_calln, ↓evI_callz, ↓evI_callv, ↓evI_mxn, loopIn, loopIn0, keepL, emp, A.dang, A.dangC, h0, h1, h2, h3, h10, hcl, -List.all_eq_true]; rfl)⟩
  | succ d ih =>
    intro i e hi h0 h1 h2 h3 h10
    have hlen := swr_len L a b i
    obtain ⟨x, hx⟩ : ∃ x, (swr L a b i)[a + i]? = some x := ⟨_, List.getElem?_eq_getElem (by omega)⟩
    obtain ⟨y, hy⟩ : ∃ x, (swr L a b i)[b + i]? = some x := ⟨_, List.getElem?_eq_getElem (by omega)⟩
    have hcl : (fg enc (swr L a b i)).all (A.dangC 1) = true := plain_dang (hE.fplain _)
    have g1 := hE.get hx
    have g2 := hE.get hy
    have s1 := hE.put (L := swr L a b i) (i := a + i) (by omega) y
    have s2 := hE.put (L := (swr L a b i).set (a + i) y) (i := b + i) (by rw [List.length_set]; omega) x
    have s3 : ((swr L a b i).set (a + i) y).set (b + i) x = swr L a b (i + 1) := by rw [swr, sw, hx, hy]
    rw [s3] at s2
    have l1 := hE.flen (swr L a b i)
    have l2 := hE.flen ((swr L a b i).set (a + i) y)
    rw [List.length_set] at l2
    rw [hlen, hL] at l1 l2
    have k1 : (a + i) * 2 + 2 ≤ n * 2 := by omega
    have k2 : (b + i) * 2 + 2 ≤ n * 2 := by omega
    have q1 : IntKind.wrap .i64 ((a : Int) + i) = ((a + i : Nat) : Int) := by rw [wrap_in _ (by omega) (by omega)]; omega
    have q2 : IntKind.wrap .i64 ((b : Int) + i) = ((b + i : Nat) : Int) := by rw [wrap_in _ (by omega) (by omega)]; omega
    have q3 : ((a + i : Nat) : Int) < n := by omega
    have q4 : ((b + i : Nat) : Int) < n := by omega
    have q5 : IntKind.wrap .i64 ((i : Int) + 1) = ((i + 1 : Nat) : Int) := by rw [wrap_in _ (by omega) (by omega)]; omega
    have q6 : (i : Int) < k := by omega
    have q7 : (0 : Int) ≤ ((a + i : Nat) : Int) := by omega
    have q8 : (0 : Int) ≤ ((b + i : Nat) : Int) := by omega
    have q9 : ((a + i : Nat) : Int).toNat = a + i := by omega
    have q10 : ((b + i : Nat) : Int).toNat = b + i := by omega
    have ih' := ih (i + 1)
    generalize fg enc (swr L a b (i + 1)) = B3 at *
    generalize fg enc (swr L a b i) = B at *
    generalize fg enc ((swr L a b i).set (a + i) y) = B2 at *
    generalize ((i + 1 : Nat) : Int) = z at *
    generalize ((a + i : Nat) : Int) = u at *
    generalize ((b + i : Nat) : Int) = v at *
    obtain ⟨e', h⟩ := ih' (put 10 (vi z) (put 0 (.bs 0 n 2) (put 1 (vi a) (put 2 (vi b) (put 3 (vi k) emp))))) (by omega) (by simp [put_at]) (by simp [put_at]) (by simp [put_at]) (by simp [put_at]) (by simp [put_at])
    refine ⟨e', ?_⟩
    rw [← h]
    refine (go113_0 _ _).trans ?_
    simp [B113_0, push_cast, -Int.not_lt, -Int.not_le, ↓evI_call, ↓evI_calli, ↓evI_calln, ↓evI_callz, ↓evI_callv, ↓evI_mxn, loopIn, loopIn0, keepL, emp, A.dang, A.dangC, h0, h1, h2, h3, h10, hcl, q1, q2, q3, q4, q5, q6, q7, q8, q9, q10, k1, k2, g1, g2, s1, s2, l1, l2, hE.cp, hE.norm, hE.vs, hE.cs, hE.len, -List.all_eq_true]
    exact loop_env (by simp [put_at])
theorem fgC (L : List α) : Clean [fg enc L] :=
  ⟨by show [(fg enc L).map A.cp1] = [fg enc L]; rw [plain_cp (hE.fplain L)], by show ([fg enc L].all fun cs => cs.all (A.dangC 1)) = true; simp only [List.all_cons, List.all_nil, plain_dang (hE.fplain L), Bool.and_self]⟩
theorem sr_call (L : List α) (n a b k : Nat) (fc : Nat) (hL : L.length = n) (hn : n ≤ 1000000) (ha : a + k ≤ n) (hb : b + k ≤ n) :
    callL tab0 ext0 113 [.bs 0 n 2, vi a, vi b, vi k, .fn fc []] [fg enc L] = some (.tup [], [fg enc (swr L a b k)]) := by
  rw [callL_tab _ _ rfl tab113 rfl]
  obtain ⟨e', h⟩ := sr_loop hE L n a b k hL hn ha hb k 0 (put 10 (vi (0 : Nat)) (put 0 (.bs 0 n 2) (put 1 (vi a) (put 2 (vi b) (put 3 (vi k) emp))))) (by omega) (by simp [put_at]) (by simp [put_at]) (by simp [put_at]) (by simp [put_at]) (by simp [put_at])
  have e0 : swr L a b 0 = L := rfl
  rw [e0] at h
  generalize fg enc L = B at *
  generalize fg enc (swr L a b k) = B2 at *
  simp [C113, push_cast, -Int.not_lt, -Int.not_le, ↓evI_call, ↓evI_calli, ↓evI_calln, ↓evI_callz, ↓evI_callv, ↓evI_mxn]
  refine behind (Q := fun a => a = (.ex 0, e', [B2])) ⟨_, Eq.trans (loop_env (by simp [put_at])) h, rfl⟩ ?_
  rintro _ rfl
  simp [push_cast, -Int.not_lt, -Int.not_le, ↓evI_call, ↓evI_calli, ↓evI_calln, ↓evI_callz, ↓evI_callv, ↓evI_mxn]
theorem ro_loop (n m : Nat) (fc : Nat) (hn : n ≤ 1000000) : ∀ (k : Nat) (U X Y V : List α) (e : Env), X.length + Y.length ≤ k → 0 < X.length → 0 < Y.length → U.length + X.length = m → (U ++ (X ++ (Y ++ V))).length = n →
    e 0 = .bs 0 n 2 → e 2 = vi m → e 4 = .fn fc [] → e 10 = vi X.length → e 11 = vi Y.length →
    ∃ e' U' X' Y' V', evL tab0 ext0 1 L94_0 (e, [fg enc (U ++ (X ++ (Y ++ V)))]) = some (.ex 0, e', [fg enc (U' ++ (X' ++ (Y' ++ V')))]) ∧ X'.length = Y'.length ∧ U'.length + X'.length = m ∧ (U' ++ (X' ++ (Y' ++ V'))).length = n ∧
      e' 0 = .bs 0 n 2 ∧ e' 2 = vi m ∧ e' 4 = .fn fc [] ∧ e' 10 = vi X'.length ∧ U' ++ (Y' ++ (X' ++ V')) = U ++ (Y ++ (X ++ V)) := by
  intro k
  induction k with
  | zero => intro U X Y V e h1 h2 h3; omega
  | succ k ih =>
    intro U X Y V e hk hX hY hm hl h0 h2 h4 h10 h11
    have hl' : U.length + X.length + Y.length + V.length = n := by rw [← hl]; simp only [List.length_append]; omega
    have hcl : (fg enc (U ++ (X ++ (Y ++ V)))).all (A.dangC 1) = true := plain_dang (hE.fplain _)
    rcases Nat.lt_trichotomy X.length Y.length with hlt | heq | hgt
    · -- the right one is longer
      obtain ⟨Y1, Y2, rfl, hY2⟩ : ∃ Y1 Y2, Y = Y1 ++ Y2 ∧ Y2.length = X.length := ⟨Y.take (Y.length - X.length), Y.drop (Y.length - X.length), (List.take_append_drop _ _).symm, by rw [List.length_drop]; omega⟩
      have hl2 : (Y1 ++ Y2).length = Y1.length + Y2.length := List.length_append
      rw [hl2] at hlt h11 hk hY hl'
      have hs := sr_call hE (U ++ (X ++ ((Y1 ++ Y2) ++ V))) n U.length (U.length + X.length + Y1.length) X.length fc hl hn (by omega) (by omega)
      have e1 := swr_app U X.length X Y1 Y2 V rfl hY2
      simp only [List.append_assoc] at hs hcl hl ⊢
      rw [e1] at hs
      have ha := aft_clean (fgC hE (U ++ (Y2 ++ (Y1 ++ (X ++ V))))) (v := .tup []) rfl
      simp only [List.length_cons, List.length_nil, Nat.zero_add] at ha
      obtain ⟨e', U', X', Y', V', r1, r2⟩ := ih U Y2 Y1 (X ++ V) (put 11 (vi Y1.length) (put 0 (.bs 0 n 2) (put 2 (vi m) (put 4 (.fn fc []) (put 10 (vi X.length) emp))))) (by omega) (by omega) (by omega) (by omega) (by simp only [List.length_append]; omega)
        (by simp [put_at]) (by simp [put_at]) (by simp [put_at]) (by simp [put_at, hY2]) (by simp [put_at])
      have q1 : IntKind.wrap .i64 ((m : Int) - X.length) = (U.length : Int) := by rw [wrap_in _ (by omega) (by omega)]; omega
      have q2 : IntKind.wrap .i64 ((m : Int) + ((Y1.length : Int) + Y2.length)) = ((m + Y1.length + Y2.length : Nat) : Int) := by rw [wrap_in _ (by omega) (by omega)]; omega
      have q2' : IntKind.wrap .i64 (((m + Y1.length + Y2.length : Nat) : Int) - X.length) = ((U.length + X.length + Y1.length : Nat) : Int) := by rw [wrap_in _ (by omega) (by omega)]; omega
      have q3 : IntKind.wrap .i64 ((Y1.length : Int) + Y2.length - X.length) = (Y1.length : Int) := by rw [wrap_in _ (by omega) (by omega)]; omega
      have q4 : ¬ ((Y1.length : Int) + Y2.length < X.length) := by omega
      have q5 : ¬ ((X.length : Int) = (Y1.length : Int) + Y2.length) := by omega
      have h11' : e 11 = vi ((Y1.length : Int) + Y2.length) := by rw [h11]; push_cast; rfl
      refine ⟨e', U', X', Y', V', ?_, ?_⟩
      · rw [← r1]
        refine (go94_0 _ _).trans ?_
        generalize fg enc (U ++ (X ++ (Y1 ++ (Y2 ++ V)))) = B at *
        generalize fg enc (U ++ (Y2 ++ (Y1 ++ (X ++ V)))) = B2 at *
        generalize ((m + Y1.length + Y2.length : Nat) : Int) = u at *
        generalize ((U.length + X.length + Y1.length : Nat) : Int) = v at *
        simp [B94_0, push_cast, -Int.not_lt, -Int.not_le, ↓evI_call, ↓evI_calli, ↓evI_calln, ↓evI_callz, ↓evI_callv, ↓evI_mxn, loopIn, loopIn0, keepL, emp, A.dang, A.dangC, h0, h2, h4, h10, h11', hcl, q1, q2, q2', q3, q4, q5, hs, ha, eqz, -List.all_eq_true]
        exact loop_env (by simp [put_at])
      · simpa only [List.append_assoc] using r2
    · rw [heq] at h10
      obtain ⟨e', r1, r2⟩ : ∃ e', evL tab0 ext0 1 L94_0 (e, [fg enc (U ++ (X ++ (Y ++ V)))]) = some (.ex 0, e', [fg enc (U ++ (X ++ (Y ++ V)))]) ∧ (e' 0 = .bs 0 n 2 ∧ e' 2 = vi m ∧ e' 4 = .fn fc [] ∧ e' 10 = vi Y.length) := by
        generalize fg enc (U ++ (X ++ (Y ++ V))) = B at *
        refine ⟨_, (go94_0 _ _).trans (by simp [B94_0, push_cast, -Int.not_lt, -Int.not_le, ↓evI_call, ↓evI_calli, ↓evI_calln, ↓evI_callz, ↓evI_callv, ↓evI_mxn, loopIn, loopIn0, keepL, emp, A.dang, A.dangC, h0, h2, h4, h10, h11, hcl, eqz, -List.all_eq_true]; rfl), by simp [put_at, h0, h2, h4, h10]⟩
      exact ⟨e', U, X, Y, V, r1, heq, hm, hl, r2.1, r2.2.1, r2.2.2.1, by rw [heq]; exact r2.2.2.2, rfl⟩
    · obtain ⟨X1, X2, rfl, hX1⟩ : ∃ X1 X2, X = X1 ++ X2 ∧ X1.length = Y.length := ⟨X.take Y.length, X.drop Y.length, (List.take_append_drop _ _).symm, by rw [List.length_take]; omega⟩
      have hl2 : (X1 ++ X2).length = X1.length + X2.length := List.length_append
      rw [hl2] at hgt h10 hk hX hl' hm
      have hs := sr_call hE (U ++ ((X1 ++ X2) ++ (Y ++ V))) n U.length (U.length + X1.length + X2.length) Y.length fc hl hn (by omega) (by omega)
      have e1 := swr_app U Y.length X1 X2 Y V hX1 rfl
      simp only [List.append_assoc] at hs hcl hl ⊢
      rw [e1] at hs
      have ha := aft_clean (fgC hE (U ++ (Y ++ (X2 ++ (X1 ++ V))))) (v := .tup []) rfl
      simp only [List.length_cons, List.length_nil, Nat.zero_add] at ha
      obtain ⟨e', U', X', Y', V', r1, r2⟩ := ih (U ++ Y) X2 X1 V (put 10 (vi X2.length) (put 0 (.bs 0 n 2) (put 2 (vi m) (put 4 (.fn fc []) (put 11 (vi Y.length) emp))))) (by omega) (by omega) (by omega) (by rw [List.length_append]; omega) (by simp only [List.length_append]; omega)
        (by simp [put_at]) (by simp [put_at]) (by simp [put_at]) (by simp [put_at]) (by simp [put_at, hX1])
      have q1 : IntKind.wrap .i64 ((m : Int) - ((X1.length : Int) + X2.length)) = (U.length : Int) := by rw [wrap_in _ (by omega) (by omega)]; omega
      have q2 : (m : Int) = ((U.length + X1.length + X2.length : Nat) : Int) := by omega
      have q3 : IntKind.wrap .i64 ((X1.length : Int) + X2.length - Y.length) = (X2.length : Int) := by rw [wrap_in _ (by omega) (by omega)]; omega
      have q4 : (Y.length : Int) < (X1.length : Int) + X2.length := by omega
      have q5 : ¬ ((X1.length : Int) + X2.length = Y.length) := by omega
      have h10' : e 10 = vi ((X1.length : Int) + X2.length) := by rw [h10]; push_cast; rfl
      refine ⟨e', U', X', Y', V', ?_, ?_⟩
      · simp only [List.append_assoc] at r1
        rw [← r1]
        refine (go94_0 _ _).trans ?_
        rw [← q2] at hs
        generalize fg enc (U ++ (X1 ++ (X2 ++ (Y ++ V)))) = B at *
        generalize fg enc (U ++ (Y ++ (X2 ++ (X1 ++ V)))) = B2 at *
        simp [B94_0, push_cast, -Int.not_lt, -Int.not_le, ↓evI_call, ↓evI_calli, ↓evI_calln, ↓evI_callz, ↓evI_callv, ↓evI_mxn, loopIn, loopIn0, keepL, emp, A.dang, A.dangC, h0, h2, h4, h10', h11, hcl, q1, q3, q4, q5, hs, ha, eqz, -List.all_eq_true]
        exact loop_env (by simp [put_at])
      · simpa only [List.append_assoc] using r2
theorem ro_call (n : Nat) (fc : Nat) (hn : n ≤ 1000000) (U X Y V : List α) (hX : 0 < X.length) (hY : 0 < Y.length) (hl : (U ++ (X ++ (Y ++ V))).length = n) (m b : Nat) (hm : m = U.length + X.length) (hb : b = m + Y.length) :
    callL tab0 ext0 94 [.bs 0 n 2, vi U.length, vi m, vi b, .fn fc []] [fg enc (U ++ (X ++ (Y ++ V)))] = some (.tup [], [fg enc (U ++ (Y ++ (X ++ V)))]) := by
  rw [callL_tab _ _ rfl tab94 rfl]
  have hl' : U.length + X.length + Y.length + V.length = n := by rw [← hl]; simp only [List.length_append]; omega
  obtain ⟨e', U', X', Y', V', h, r1, r2, r3, r4, r5, r6, r7, r8⟩ := ro_loop hE n m fc hn _ U X Y V (put 11 (vi Y.length) (put 10 (vi X.length) (put 0 (.bs 0 n 2) (put 2 (vi m) (put 4 (.fn fc []) emp))))) (Nat.le_refl _) hX hY hm.symm hl
        (by simp [put_at]) (by simp [put_at]) (by simp [put_at]) (by simp [put_at]) (by simp [put_at])
  have r3' : U'.length + X'.length + Y'.length + V'.length = n := by rw [← r3]; simp only [List.length_append]; omega
  have hs := sr_call hE (U' ++ (X' ++ (Y' ++ V'))) n U'.length m X'.length fc r3 hn (by omega) (by omega)
  have e1 := swr_app U' X'.length X' [] Y' V' rfl r1.symm
  simp only [List.nil_append, List.length_nil, Nat.add_zero] at e1
  rw [← r2, e1, r8, r2] at hs
  have ha := aft_clean (fgC hE (U ++ (Y ++ (X ++ V)))) (v := .tup []) rfl
  simp only [List.length_cons, List.length_nil, Nat.zero_add] at ha
  have q1 : IntKind.wrap .i64 ((m : Int) - U.length) = (X.length : Int) := by rw [wrap_in _ (by omega) (by omega)]; omega
  have q2 : IntKind.wrap .i64 ((b : Int) - m) = (Y.length : Int) := by rw [wrap_in _ (by omega) (by omega)]; omega
  have q3 : IntKind.wrap .i64 ((m : Int) - X'.length) = (U'.length : Int) := by rw [wrap_in _ (by omega) (by omega)]; omega
  generalize fg enc (U ++ (X ++ (Y ++ V))) = B at *
  generalize fg enc (U ++ (Y ++ (X ++ V))) = B2 at *
  generalize fg enc (U' ++ (X' ++ (Y' ++ V'))) = B3 at *
  simp [C94, push_cast, -Int.not_lt, -Int.not_le, ↓evI_call, ↓evI_calli, ↓evI_calln, ↓evI_callz, ↓evI_callv, ↓evI_mxn, q1, q2]
  refine behind (Q := fun a => a = (.ex 0, e', [B3])) ⟨_, Eq.trans (loop_env (by simp [put_at])) h, rfl⟩ ?_
  rintro _ rfl
  simp [push_cast, -Int.not_lt, -Int.not_le, ↓evI_call, ↓evI_calli, ↓evI_calln, ↓evI_callz, ↓evI_callv, ↓evI_mxn, r4, r5, r6, r7, q3, hs, ha]
variable {lt : α → α → Bool} {fc : Nat}
theorem ic_loop2 (hC : CmpK enc lt fc) (n i b : Nat) (hn : n ≤ 1000000) (U : List α) : ∀ (R : List α) (x : α) (T : List α) (e : Env), U.length + R.length + T.length + 1 = n → e 0 = .bs 0 n 2 → e 1 = vi U.length → e 2 = vi b → e 3 = .fn fc [] → e 8 = vi i → e 9 = vi ((U.length + R.length : Nat) : Int) →
    ∃ e', evL tab0 ext0 1 L64_2 (e, [fg enc (U ++ (R.reverse ++ x :: T))]) = some (.ex 2, e', [fg enc (U ++ insR' lt R x T)]) ∧ (e' 0 = .bs 0 n 2 ∧ e' 1 = vi U.length ∧ e' 2 = vi b ∧ e' 3 = .fn fc [] ∧ e' 8 = vi i) := by
  intro R
  induction R with
  | nil =>
    intro x T e hl h0 h1 h2 h3 h8 h9
    have hcl : (fg enc (U ++ (([] : List α).reverse ++ x :: T))).all (A.dangC 1) = true := plain_dang (hE.fplain _)
    have e0 : U ++ insR' lt [] x T = U ++ (([] : List α).reverse ++ x :: T) := rfl
    rw [e0]
    simp only [List.length_nil, Nat.add_zero] at h9
    generalize fg enc (U ++ (([] : List α).reverse ++ x :: T)) = B at *
    exact ⟨_, (go64_2 _ _).trans (by simp [B64_2, push_cast, -Int.not_lt, -Int.not_le, ↓evI_call, ↓evI_calli, ↓evI_calln, ↓evI_callz, ↓evI_callv, ↓evI_mxn, loopIn, loopIn0, keepL, emp, A.dang, A.dangC, h0, h1, h2, h3, h8, h9, hcl, -List.all_eq_true]; rfl), by simp [put_at]⟩
  | cons a R ih =>
    intro x T e hl h0 h1 h2 h3 h8 h9
    have eL : U ++ ((a :: R).reverse ++ x :: T) = (U ++ R.reverse) ++ a :: (x :: T) := by simp
    rw [eL]
    obtain ⟨c, junk, hcall, hc⟩ := hC.call x a (fg enc ((U ++ R.reverse) ++ a :: (x :: T))) (hE.fplain _)
    have haft := aft_vi' (fgC hE ((U ++ R.reverse) ++ a :: (x :: T))) c junk
    simp only [List.length_cons, List.length_nil, List.cons_append, List.nil_append, Nat.zero_add] at haft
    have hcl : (fg enc ((U ++ R.reverse) ++ a :: (x :: T))).all (A.dangC 1) = true := plain_dang (hE.fplain _)
    simp only [List.length_cons] at hl h9
    have l1 := hE.flen ((U ++ R.reverse) ++ a :: (x :: T))
    have l0 : ((U ++ R.reverse) ++ a :: (x :: T)).length = n := by simp; omega
    rw [l0] at l1
    have g1 := hE.get (midx (U ++ R.reverse) a (x :: T) (U.length + R.length) (by simp))
    have g2 := hE.get (midx1 (U ++ R.reverse) a x T (U.length + (R.length + 1)) (by simp; omega))
    have s1 := hE.put (L := (U ++ R.reverse) ++ a :: (x :: T)) (i := U.length + (R.length + 1)) (by omega) a
    have s2 := hE.put (L := ((U ++ R.reverse) ++ a :: (x :: T)).set (U.length + (R.length + 1)) a) (i := U.length + R.length) (by rw [List.length_set]; omega) x
    have l2 := hE.flen (((U ++ R.reverse) ++ a :: (x :: T)).set (U.length + (R.length + 1)) a)
    rw [List.length_set, l0] at l2
    have s3 := adj_r (U ++ R.reverse) a x T (U.length + R.length) (U.length + (R.length + 1)) (by simp) (by omega)
    rw [List.append_assoc U R.reverse (x :: a :: T)] at s3
    rw [s3] at s2
    have k1 : (U.length + (R.length + 1)) * 2 + 2 ≤ n * 2 := by omega
    have k2 : (U.length + R.length) * 2 + 2 ≤ n * 2 := by omega
    have q1 : IntKind.wrap .i64 (((U.length + (R.length + 1) : Nat) : Int) - 1) = ((U.length + R.length : Nat) : Int) := by rw [wrap_in _ (by omega) (by omega)]; omega
    have q3 : ((U.length + (R.length + 1) : Nat) : Int) < n := by omega
    have q4 : ((U.length + R.length : Nat) : Int) < n := by omega
    have q6 : (U.length : Int) < ((U.length + (R.length + 1) : Nat) : Int) := by omega
    have q7 : (0 : Int) ≤ ((U.length + (R.length + 1) : Nat) : Int) := by omega
    have q8 : (0 : Int) ≤ ((U.length + R.length : Nat) : Int) := by omega
    have q9 : ((U.length + (R.length + 1) : Nat) : Int).toNat = U.length + (R.length + 1) := by omega
    have q10 : ((U.length + R.length : Nat) : Int).toNat = U.length + R.length := by omega
    cases hlt : lt x a with
    | true =>
      have c1 : c < 0 := hc.2 hlt
      have hins : insR' lt (a :: R) x T = insR' lt R x (a :: T) := by rw [insR', if_pos hlt]
      rw [hins]
      obtain ⟨e2', k3, k4⟩ := ih x (a :: T) (put 9 (vi ((U.length + R.length : Nat) : Int)) (put 0 (.bs 0 n 2) (put 1 (vi U.length) (put 2 (vi b) (put 3 (.fn fc []) (put 8 (vi i) emp)))))) (by simp; omega) (by simp [put_at]) (by simp [put_at]) (by simp [put_at]) (by simp [put_at]) (by simp [put_at]) (by simp [put_at])
      refine ⟨e2', ?_, k4⟩
      rw [← k3]
      refine (go64_2 _ _).trans ?_
      generalize fg enc ((U ++ R.reverse) ++ a :: (x :: T)) = B at *
      generalize fg enc (((U ++ R.reverse) ++ a :: (x :: T)).set (U.length + (R.length + 1)) a) = B2 at *
      generalize fg enc (U ++ (R.reverse ++ x :: (a :: T))) = B3 at *
      generalize ((U.length + (R.length + 1) : Nat) : Int) = u at *
      generalize ((U.length + R.length : Nat) : Int) = v at *
      simp [B64_2, push_cast, -Int.not_lt, -Int.not_le, ↓evI_call, ↓evI_calli, ↓evI_calln, ↓evI_callz, ↓evI_callv, ↓evI_mxn, loopIn, loopIn0, keepL, emp, A.dang, A.dangC, h0, h1, h2, h3, h8, h9, hcl, q1, q3, q4, q6, q7, q8, q9, q10, k1, k2, g1, g2, s1, s2, l1, l2, hcall, haft, c1, hE.cp, hE.norm, hE.vs, hE.cs, hE.len, -List.all_eq_true]
      exact loop_env (by simp [put_at])
    | false =>
      have c1 : ¬ c < 0 := fun h => by rw [hc.1 h] at hlt; cases hlt
      have hins : U ++ insR' lt (a :: R) x T = (U ++ R.reverse) ++ a :: (x :: T) := by rw [insR', if_neg (by rw [hlt]; exact Bool.false_ne_true)]; simp
      rw [hins]
      generalize fg enc ((U ++ R.reverse) ++ a :: (x :: T)) = B at *
      generalize ((U.length + (R.length + 1) : Nat) : Int) = u at *
      generalize ((U.length + R.length : Nat) : Int) = v at *
      refine ⟨_, (go64_2 _ _).trans (by simp [B64_2, push_cast, -Int.not_lt, -Int.not_le, ↓evI_call, ↓evI_calli, ↓evI_calln, ↓evI_callz, ↓evI_callv, ↓evI_mxn, loopIn, loopIn0, keepL, emp, A.dang, A.dangC, h0, h1, h2, h3, h8, h9, hcl, q1, q3, q4, q6, q7, q8, q9, q10, k1, k2, g1, g2, l1, hcall, haft, c1, hE.cp, hE.norm, hE.vs, hE.cs, hE.len, -List.all_eq_true]; rfl), by simp [put_at]⟩
theorem ic_loop0 (hC : CmpK enc lt fc) (hS : Swo lt) (n : Nat) (hn : n ≤ 1000000) (U V : List α) : ∀ (Y X : List α) (e : Env), 0 < X.length → U.length + X.length + Y.length + V.length = n → e 0 = .bs 0 n 2 → e 1 = vi U.length → e 2 = vi ((U.length + X.length + Y.length : Nat) : Int) → e 3 = .fn fc [] → e 8 = vi ((U.length + X.length : Nat) : Int) →
    ∃ e', evL tab0 ext0 1 L64_0 (e, [fg enc (U ++ (ss lt X ++ (Y ++ V)))]) = some (.ex 0, e', [fg enc (U ++ (ss lt (X ++ Y) ++ V))]) := by
  intro Y
  induction Y with
  | nil =>
    intro X e hX hl h0 h1 h2 h3 h8
    have hcl : (fg enc (U ++ (ss lt X ++ ([] ++ V)))).all (A.dangC 1) = true := plain_dang (hE.fplain _)
    rw [List.append_nil X]
    simp only [List.length_nil, Nat.add_zero] at h2
    have e1 : U ++ (ss lt X ++ V) = U ++ (ss lt X ++ ([] ++ V)) := rfl
    rw [e1]
    generalize fg enc (U ++ (ss lt X ++ ([] ++ V))) = B at *
    exact ⟨_, (go64_0 _ _).trans (by simp [B64_0, push_cast, -Int.not_lt, -Int.not_le, ↓evI_call, ↓evI_calli, ↓evI_calln, ↓evI_callz, ↓evI_callv, ↓evI_mxn, loopIn, loopIn0, keepL, emp, A.dang, A.dangC, h0, h1, h2, h3, h8, hcl, -List.all_eq_true]; rfl)⟩
  | cons y Y ih =>
    intro X e hX hl h0 h1 h2 h3 h8
    have hlen := ss_len lt X
    have hsrt := ss_srt lt hS _ X rfl
    simp only [List.length_cons] at hl h2
    obtain ⟨e2', k1, k2, k3, k4, k5, k6⟩ := ic_loop2 hE hC n (U.length + X.length) (U.length + X.length + (Y.length + 1)) hn U (ss lt X).reverse y (Y ++ V) (put 9 (vi ((U.length + X.length : Nat) : Int)) (put 0 (.bs 0 n 2) (put 1 (vi U.length) (put 2 (vi ((U.length + X.length + (Y.length + 1) : Nat) : Int)) (put 3 (.fn fc []) (put 8 (vi ((U.length + X.length : Nat) : Int)) emp))))))
      (by simp only [List.length_reverse, List.length_append]; omega) (by simp [put_at]) (by simp [put_at]) (by simp [put_at]) (by simp [put_at]) (by simp [put_at]) (by simp [put_at, hlen])
    rw [List.reverse_reverse] at k1
    have e1 : insR' lt (ss lt X).reverse y (Y ++ V) = ss lt (X ++ [y]) ++ (Y ++ V) := by
      have := insR'_app lt (ss lt X).reverse y [] (Y ++ V)
      rw [List.nil_append] at this
      rw [this, insR'_mge lt hS _ _ _ (by simpa using hsrt) (fun t ht => by cases ht), ss_snoc]
      simp
    rw [e1] at k1
    have e2 : X ++ y :: Y = (X ++ [y]) ++ Y := by simp
    rw [e2]
    have hw : IntKind.wrap .i64 (((U.length + X.length : Nat) : Int) + 1) = ((U.length + (X.length + 1) : Nat) : Int) := by rw [wrap_in _ (by omega) (by omega)]; omega
    have hc : ((U.length + X.length : Nat) : Int) < ((U.length + X.length + (Y.length + 1) : Nat) : Int) := by omega
    obtain ⟨e3', m1⟩ := ih (X ++ [y]) (put 8 (vi ((U.length + (X.length + 1) : Nat) : Int)) e2') (by simp) (by simp only [List.length_append, List.length_singleton]; omega) (by simp [put_at, k2]) (by simp [put_at, k3])
      (by simp only [List.length_append, List.length_singleton]; rw [show U.length + (X.length + 1) + Y.length = U.length + X.length + (Y.length + 1) by omega]; simp [put_at, k4]) (by simp [put_at, k5]) (by simp [put_at])
    refine ⟨e3', ?_⟩
    rw [← m1]
    refine (go64_0 _ _).trans ?_
    have hcl : (fg enc (U ++ (ss lt X ++ (y :: Y ++ V)))).all (A.dangC 1) = true := plain_dang (hE.fplain _)
    rw [List.cons_append] at hcl ⊢
    generalize fg enc (U ++ (ss lt X ++ (y :: (Y ++ V)))) = B at *
    generalize fg enc (U ++ (ss lt (X ++ [y]) ++ (Y ++ V))) = B2 at *
    generalize ((U.length + X.length : Nat) : Int) = z at *
    generalize ((U.length + (X.length + 1) : Nat) : Int) = z2 at *
    generalize ((U.length + X.length + (Y.length + 1) : Nat) : Int) = z3 at *
    simp [B64_0, push_cast, -Int.not_lt, -Int.not_le, ↓evI_call, ↓evI_calli, ↓evI_calln, ↓evI_callz, ↓evI_callv, ↓evI_mxn, loopIn, loopIn0, keepL, emp, A.dang, A.dangC, h0, h1, h2, h3, h8, hcl, hc, -List.all_eq_true]
    refine behind (Q := fun a => a = (.ex 2, e2', [B2])) ⟨_, Eq.trans (loop_env (by simp [put_at])) k1, rfl⟩ ?_
    rintro _ rfl
    simp [push_cast, -Int.not_lt, -Int.not_le, ↓evI_call, ↓evI_calli, ↓evI_calln, ↓evI_callz, ↓evI_callv, ↓evI_mxn, k2, k3, k4, k5, k6, hw]
    exact loop_env (by simp [put_at, k2, k3, k4, k5, k6])
theorem ic_call (hC : CmpK enc lt fc) (hS : Swo lt) (n : Nat) (hn : n ≤ 1000000) (U X V : List α) (b : Nat) (hb : b = U.length + X.length) (hl : b + V.length = n) :
    callL tab0 ext0 64 [.bs 0 n 2, vi U.length, vi b, .fn fc []] [fg enc (U ++ (X ++ V))] = some (.tup [], [fg enc (U ++ (ss lt X ++ V))]) := by
  rw [callL_tab _ _ rfl tab64 rfl]
  cases X with
  | nil =>
    have hcl : (fg enc (U ++ ([] ++ V))).all (A.dangC 1) = true := plain_dang (hE.fplain _)
    have e0 : ss lt ([] : List α) = [] := rfl
    rw [e0]
    simp only [List.length_nil, Nat.add_zero] at hb
    have q1 : IntKind.wrap .i64 ((U.length : Int) + 1) = ((U.length + 1 : Nat) : Int) := by rw [wrap_in _ (by omega) (by omega)]; omega
    have q2 : ¬ ((U.length + 1 : Nat) : Int) < b := by omega
    generalize fg enc (U ++ ([] ++ V)) = B at *
    generalize ((U.length + 1 : Nat) : Int) = u at *
    simp [C64, push_cast, -Int.not_lt, -Int.not_le, ↓evI_call, ↓evI_calli, ↓evI_calln, ↓evI_callz, ↓evI_callv, ↓evI_mxn, loopIn, loopIn0, keepL, emp, A.dang, A.dangC, go64_0, B64_0, q1, q2, hcl, -List.all_eq_true]
  | cons x X =>
    simp only [List.length_cons] at hb
    obtain ⟨e', k1⟩ := ic_loop0 hE hC hS n hn U V X [x] (put 8 (vi ((U.length + 1 : Nat) : Int)) (put 0 (.bs 0 n 2) (put 1 (vi U.length) (put 2 (vi b) (put 3 (.fn fc []) emp))))) (by simp) (by simp only [List.length_singleton]; omega) (by simp [put_at]) (by simp [put_at])
      (by simp only [List.length_singleton]; rw [show U.length + 1 + X.length = b by omega]; simp [put_at]) (by simp [put_at]) (by simp [put_at])
    have e1 : ss lt [x] = [x] := by rw [← List.nil_append [x], ss_snoc, ss_nil, mge_nil]; rfl
    rw [e1] at k1
    have q1 : IntKind.wrap .i64 ((U.length : Int) + 1) = ((U.length + 1 : Nat) : Int) := by rw [wrap_in _ (by omega) (by omega)]; omega
    have e2 : U ++ (x :: X ++ V) = U ++ ([x] ++ (X ++ V)) := by simp
    rw [e2]
    rw [List.singleton_append (l := X)] at k1
    generalize fg enc (U ++ ([x] ++ (X ++ V))) = B at *
    generalize fg enc (U ++ (ss lt (x :: X) ++ V)) = B2 at *
    generalize ((U.length + 1 : Nat) : Int) = u at *
    simp [C64, q1, push_cast, -Int.not_lt, -Int.not_le, ↓evI_call, ↓evI_calli, ↓evI_calln, ↓evI_callz, ↓evI_callv, ↓evI_mxn]
    refine behind (Q := fun a => a = (.ex 0, e', [B2])) ⟨_, Eq.trans (loop_env (by simp [put_at])) k1, rfl⟩ ?_
    rintro _ rfl
    simp [push_cast, -Int.not_lt, -Int.not_le, ↓evI_call, ↓evI_calli, ↓evI_calln, ↓evI_callz, ↓evI_callv, ↓evI_mxn]
theorem sm_loop2 (n : Nat) (hn : n ≤ 1000000) (V : List α) : ∀ (Q U : List α) (x : α) (e : Env), U.length + Q.length + 1 + V.length = n → e 0 = .bs 0 n 2 → e 10 = vi ((U.length + Q.length + 1 : Nat) : Int) → e 13 = vi U.length →
    ∃ e', evL tab0 ext0 1 L65_2 (e, [fg enc (U ++ x :: (Q ++ V))]) = some (.ex 2, e', [fg enc (U ++ (Q ++ x :: V))]) := by
  intro Q
  induction Q with
  | nil =>
    intro U x e hl h0 h10 h13
    have hcl : (fg enc (U ++ x :: ([] ++ V))).all (A.dangC 1) = true := plain_dang (hE.fplain _)
    have e1 : U ++ ([] ++ x :: V) = U ++ x :: ([] ++ V) := rfl
    rw [e1]
    simp only [List.length_nil, Nat.add_zero] at h10 hl
    have q1 : IntKind.wrap .i64 (((U.length + 1 : Nat) : Int) - 1) = (U.length : Int) := by rw [wrap_in _ (by omega) (by omega)]; omega
    generalize fg enc (U ++ x :: ([] ++ V)) = B at *
    generalize ((U.length + 1 : Nat) : Int) = u at *
    exact ⟨_, (go65_2 _ _).trans (by simp [B65_2, push_cast, -Int.not_lt, -Int.not_le, ↓evI_call, ↓evI_calli, ↓evI_calln, ↓evI_callz, ↓evI_callv, ↓evI_mxn, loopIn, loopIn0, keepL, emp, A.dang, A.dangC, h0, h10, h13, q1, hcl, -List.all_eq_true]; rfl)⟩
  | cons q Q ih =>
    intro U x e hl h0 h10 h13
    simp only [List.length_cons] at hl h10
    rw [List.cons_append]
    have hcl : (fg enc (U ++ x :: (q :: (Q ++ V)))).all (A.dangC 1) = true := plain_dang (hE.fplain _)
    have l0 : (U ++ x :: (q :: (Q ++ V))).length = n := by simp only [List.length_append, List.length_cons]; omega
    have l1 := hE.flen (U ++ x :: (q :: (Q ++ V)))
    have l2 := hE.flen ((U ++ x :: (q :: (Q ++ V))).set U.length q)
    rw [List.length_set, l0] at l2
    rw [l0] at l1
    have g1 := hE.get (midx U x (q :: (Q ++ V)) U.length rfl)
    have g2 := hE.get (midx1 U x q (Q ++ V) (U.length + 1) rfl)
    have s1 := hE.put (L := U ++ x :: (q :: (Q ++ V))) (i := U.length) (by omega) q
    have s2 := hE.put (L := (U ++ x :: (q :: (Q ++ V))).set U.length q) (i := U.length + 1) (by rw [List.length_set]; omega) x
    rw [adj_l U x q (Q ++ V) U.length (U.length + 1) rfl rfl] at s2
    have k1 : (U.length + 1) * 2 + 2 ≤ n * 2 := by omega
    have k2 : U.length * 2 + 2 ≤ n * 2 := by omega
    have q1 : IntKind.wrap .i64 (((U.length + (Q.length + 1) + 1 : Nat) : Int) - 1) = ((U.length + Q.length + 1 : Nat) : Int) := by rw [wrap_in _ (by omega) (by omega)]; omega
    have q2 : IntKind.wrap .i64 ((U.length : Int) + 1) = ((U.length + 1 : Nat) : Int) := by rw [wrap_in _ (by omega) (by omega)]; omega
    have q3 : ((U.length + 1 : Nat) : Int) < n := by omega
    have q4 : (U.length : Int) < n := by omega
    have q6 : (U.length : Int) < ((U.length + Q.length + 1 : Nat) : Int) := by omega
    have q7 : (0 : Int) ≤ ((U.length + 1 : Nat) : Int) := by omega
    have q9 : ((U.length + 1 : Nat) : Int).toNat = U.length + 1 := by omega
    obtain ⟨e', hih⟩ := ih (U ++ [q]) x (put 13 (vi ((U.length + 1 : Nat) : Int)) (put 0 (.bs 0 n 2) (put 10 (vi ((U.length + (Q.length + 1) + 1 : Nat) : Int)) emp))) (by simp only [List.length_append, List.length_singleton]; omega) (by simp [put_at])
      (by simp only [List.length_append, List.length_singleton]; rw [show U.length + 1 + Q.length + 1 = U.length + (Q.length + 1) + 1 by omega]; simp [put_at]) (by simp [put_at])
    simp only [List.append_assoc, List.singleton_append] at hih
    refine ⟨e', ?_⟩
    rw [List.cons_append, ← hih]
    refine (go65_2 _ _).trans ?_
    generalize fg enc (U ++ x :: (q :: (Q ++ V))) = B at *
    generalize fg enc ((U ++ x :: (q :: (Q ++ V))).set U.length q) = B2 at *
    generalize fg enc (U ++ q :: (x :: (Q ++ V))) = B3 at *
    generalize ((U.length + 1 : Nat) : Int) = u at *
    generalize ((U.length + (Q.length + 1) + 1 : Nat) : Int) = v at *
    generalize ((U.length + Q.length + 1 : Nat) : Int) = v2 at *
    simp [B65_2, push_cast, -Int.not_lt, -Int.not_le, ↓evI_call, ↓evI_calli, ↓evI_calln, ↓evI_callz, ↓evI_callv, ↓evI_mxn, loopIn, loopIn0, keepL, emp, A.dang, A.dangC, h0, h10, h13, hcl, q1, q2, q3, q4, q6, q7, q9, k1, k2, g1, g2, s1, s2, l1, l2, hE.cp, hE.norm, hE.vs, hE.cs, hE.len, -List.all_eq_true]
    exact loop_env (by simp [put_at])
theorem sm_loop6 (n : Nat) (hn : n ≤ 1000000) (U : List α) : ∀ (R : List α) (x : α) (V : List α) (e : Env), U.length + R.length + 1 + V.length = n → e 0 = .bs 0 n 2 → e 14 = vi U.length → e 17 = vi ((U.length + R.length : Nat) : Int) →
    ∃ e', evL tab0 ext0 1 L65_6 (e, [fg enc (U ++ (R.reverse ++ x :: V))]) = some (.ex 6, e', [fg enc (U ++ x :: (R.reverse ++ V))]) := by
  intro R
  induction R with
  | nil =>
    intro x V e hl h0 h14 h17
    have hcl : (fg enc (U ++ (([] : List α).reverse ++ x :: V))).all (A.dangC 1) = true := plain_dang (hE.fplain _)
    have e1 : U ++ x :: (([] : List α).reverse ++ V) = U ++ (([] : List α).reverse ++ x :: V) := rfl
    rw [e1]
    simp only [List.length_nil, Nat.add_zero] at h17 hl
    generalize fg enc (U ++ (([] : List α).reverse ++ x :: V)) = B at *
    exact ⟨_, (go65_6 _ _).trans (by simp [B65_6, push_cast, -Int.not_lt, -Int.not_le, ↓evI_call, ↓evI_calli, ↓evI_calln, ↓evI_callz, ↓evI_callv, ↓evI_mxn, loopIn, loopIn0, keepL, emp, A.dang, A.dangC, h0, h14, h17, hcl, -List.all_eq_true]; rfl)⟩
  | cons a R ih =>
    intro x V e hl h0 h14 h17
    simp only [List.length_cons] at hl h17
    have eL : U ++ ((a :: R).reverse ++ x :: V) = (U ++ R.reverse) ++ a :: (x :: V) := by simp
    rw [eL]
    have hcl : (fg enc ((U ++ R.reverse) ++ a :: (x :: V))).all (A.dangC 1) = true := plain_dang (hE.fplain _)
    have l1 := hE.flen ((U ++ R.reverse) ++ a :: (x :: V))
    have l0 : ((U ++ R.reverse) ++ a :: (x :: V)).length = n := by simp; omega
    rw [l0] at l1
    have g1 := hE.get (midx (U ++ R.reverse) a (x :: V) (U.length + R.length) (by simp))
    have g2 := hE.get (midx1 (U ++ R.reverse) a x V (U.length + (R.length + 1)) (by simp; omega))
    have s1 := hE.put (L := (U ++ R.reverse) ++ a :: (x :: V)) (i := U.length + (R.length + 1)) (by omega) a
    have s2 := hE.put (L := ((U ++ R.reverse) ++ a :: (x :: V)).set (U.length + (R.length + 1)) a) (i := U.length + R.length) (by rw [List.length_set]; omega) x
    have l2 := hE.flen (((U ++ R.reverse) ++ a :: (x :: V)).set (U.length + (R.length + 1)) a)
    rw [List.length_set, l0] at l2
    have s3 := adj_r (U ++ R.reverse) a x V (U.length + R.length) (U.length + (R.length + 1)) (by simp) (by omega)
    rw [List.append_assoc U R.reverse (x :: a :: V)] at s3
    rw [s3] at s2
    have k1 : (U.length + (R.length + 1)) * 2 + 2 ≤ n * 2 := by omega
    have k2 : (U.length + R.length) * 2 + 2 ≤ n * 2 := by omega
    have q1 : IntKind.wrap .i64 (((U.length + (R.length + 1) : Nat) : Int) - 1) = ((U.length + R.length : Nat) : Int) := by rw [wrap_in _ (by omega) (by omega)]; omega
    have q3 : ((U.length + (R.length + 1) : Nat) : Int) < n := by omega
    have q4 : ((U.length + R.length : Nat) : Int) < n := by omega
    have q6 : (U.length : Int) < ((U.length + (R.length + 1) : Nat) : Int) := by omega
    have q7 : (0 : Int) ≤ ((U.length + (R.length + 1) : Nat) : Int) := by omega
    have q8 : (0 : Int) ≤ ((U.length + R.length : Nat) : Int) := by omega
    have q9 : ((U.length + (R.length + 1) : Nat) : Int).toNat = U.length + (R.length + 1) := by omega
    have q10 : ((U.length + R.length : Nat) : Int).toNat = U.length + R.length := by omega
    obtain ⟨e', hih⟩ := ih x (a :: V) (put 17 (vi ((U.length + R.length : Nat) : Int)) (put 0 (.bs 0 n 2) (put 14 (vi U.length) emp))) (by simp only [List.length_cons]; omega) (by simp [put_at]) (by simp [put_at]) (by simp [put_at])
    refine ⟨e', ?_⟩
    have eR : U ++ x :: ((a :: R).reverse ++ V) = U ++ x :: (R.reverse ++ a :: V) := by simp
    rw [eR, ← hih]
    refine (go65_6 _ _).trans ?_
    generalize fg enc ((U ++ R.reverse) ++ a :: (x :: V)) = B at *
    generalize fg enc (((U ++ R.reverse) ++ a :: (x :: V)).set (U.length + (R.length + 1)) a) = B2 at *
    generalize fg enc (U ++ (R.reverse ++ x :: (a :: V))) = B3 at *
    generalize ((U.length + (R.length + 1) : Nat) : Int) = u at *
    generalize ((U.length + R.length : Nat) : Int) = v at *
    simp [B65_6, push_cast, -Int.not_lt, -Int.not_le, ↓evI_call, ↓evI_calli, ↓evI_calln, ↓evI_callz, ↓evI_callv, ↓evI_mxn, loopIn, loopIn0, keepL, emp, A.dang, A.dangC, h0, h14, h17, hcl, q1, q3, q4, q6, q7, q8, q9, q10, k1, k2, g1, g2, s1, s2, l1, l2, hE.cp, hE.norm, hE.vs, hE.cs, hE.len, -List.all_eq_true]
    exact loop_env (by simp [put_at])
omit hE in
theorem wrapu (k : Nat) (h : k ≤ 4000000) : IntKind.wrap .u64 (k : Int) = k := by
  simp only [IntKind.wrap, IntKind.bits, IntKind.signed]; simp; omega
omit hE in
theorem half (k : Nat) (h : k ≤ 4000000) : IntKind.wrap .i64 (shrK .u64 (IntKind.wrap .u64 (IntKind.wrap .i64 (k : Int))) 1) = ((k / 2 : Nat) : Int) := by
  have h1 : IntKind.wrap .i64 (k : Int) = k := wrap_in _ (by omega) (by omega)
  rw [h1, wrapu k h]
  show IntKind.wrap .i64 (Int.fdiv (k : Int) (2 ^ 1)) = _
  rw [Int.fdiv_eq_ediv_of_nonneg _ (by omega), wrap_in _ (by omega) (by omega)]
  omega
/-- Where a row of truths turns. -/
def Turns (p : Nat → Bool) (lo hi r : Nat) : Prop := lo ≤ r ∧ r ≤ hi ∧ (r = lo ∨ p (r - 1) = true) ∧ (r = hi ∨ p r = false)
/-- The search: which of the two the middle one becomes. -/
theorem sm_loop0 (hC : CmpK enc lt fc) (n a : Nat) (hn : n ≤ 1000000) (L : List α) (hL : L.length = n) (x : α) (hx : L[a]? = some x) (p : Nat → Bool) (lo hi : Nat) (hhi : hi ≤ n) (hp : ∀ h y, lo ≤ h → h < hi → L[h]? = some y → p h = lt y x) :
    ∀ (d i j : Nat) (e : Env), j - i ≤ d → lo ≤ i → i ≤ j → j ≤ hi → (i = lo ∨ p (i - 1) = true) → (j = hi ∨ p j = false) → e 0 = .bs 0 n 2 → e 1 = vi a → e 4 = .fn fc [] → e 10 = vi i → e 11 = vi j →
    ∃ e' r, evL tab0 ext0 1 L65_0 (e, [fg enc L]) = some (.ex 0, e', [fg enc L]) ∧ Turns p lo hi r ∧ e' 0 = .bs 0 n 2 ∧ e' 1 = vi a ∧ e' 10 = vi r := by
  intro d
  induction d with
  | zero =>
    intro i j e hd h1 h2 h3 h4 h5 e0 e1 e4 e10 e11
    obtain rfl : i = j := by omega
    have hcl : (fg enc L).all (A.dangC 1) = true := plain_dang (hE.fplain _)
    generalize fg enc L = B at *
    obtain ⟨e', r1, r2⟩ : ∃ e', evL tab0 ext0 1 L65_0 (e, [B]) = some (.ex 0, e', [B]) ∧ (e' 0 = .bs 0 n 2 ∧ e' 1 = vi a ∧ e' 10 = vi i) :=
      ⟨_, (go65_0 _ _).trans (by simp [B65_0, push_cast, -Int.not_lt, -Int.not_le, ↓evI_call, ↓evI_calli, ↓evI_calln, ↓evI_callz, ↓evI_callv, ↓evI_mxn, loopIn, loopIn0, keepL, emp, A.dang, A.dangC, e0, e1, e4, e10, e11, hcl, -List.all_eq_true]; rfl), by simp [put_at]⟩
    exact ⟨e', i, r1, ⟨h1, h3, h4, h5⟩, r2⟩
  | succ d ih =>
    intro i j e hd h1 h2 h3 h4 h5 e0 e1 e4 e10 e11
    have hcl : (fg enc L).all (A.dangC 1) = true := plain_dang (hE.fplain _)
    by_cases hij : i = j
    · subst hij
      generalize fg enc L = B at *
      obtain ⟨e', r1, r2⟩ : ∃ e', evL tab0 ext0 1 L65_0 (e, [B]) = some (.ex 0, e', [B]) ∧ (e' 0 = .bs 0 n 2 ∧ e' 1 = vi a ∧ e' 10 = vi i) :=
        ⟨_, (go65_0 _ _).trans (by simp [B65_0, push_cast, -Int.not_lt, -Int.not_le, ↓evI_call, ↓evI_calli, ↓evI_calln, ↓evI_callz, ↓evI_callv, ↓evI_mxn, loopIn, loopIn0, keepL, emp, A.dang, A.dangC, e0, e1, e4, e10, e11, hcl, -List.all_eq_true]; rfl), by simp [put_at]⟩
      exact ⟨e', i, r1, ⟨h1, h3, h4, h5⟩, r2⟩
    · have ha : a < n := by rw [← hL]; exact (List.getElem?_eq_some_iff.1 hx).1
      obtain ⟨h, hh⟩ : ∃ h, h = (i + j) / 2 := ⟨_, rfl⟩
      have b1 : i ≤ h := by omega
      have b2 : h < j := by omega
      obtain ⟨y, hy⟩ : ∃ y, L[h]? = some y := ⟨_, List.getElem?_eq_getElem (by omega)⟩
      have hpy := hp h y (by omega) (by omega) hy
      obtain ⟨c, junk, hcall, hc⟩ := hC.call y x (fg enc L) (hE.fplain _)
      have haft := aft_vi' (fgC hE L) c junk
      simp only [List.length_cons, List.length_nil, List.cons_append, List.nil_append, Nat.zero_add] at haft
      have g1 := hE.get hx
      have g2 := hE.get hy
      have l1 := hE.flen L
      rw [hL] at l1
      have q0 : (i : Int) < j := by omega
      have q1 := half (i + j) (by omega)
      rw [← hh] at q1
      have q2 : IntKind.wrap .i64 ((h : Int) + 1) = ((h + 1 : Nat) : Int) := by rw [wrap_in _ (by omega) (by omega)]; omega
      have q3 : (h : Int) < n := by omega
      have q4 : (a : Int) < n := by omega
      have k1 : h * 2 + 2 ≤ n * 2 := by omega
      have k2 : a * 2 + 2 ≤ n * 2 := by omega
      rw [show ((i + j : Nat) : Int) = (i : Int) + j by omega] at q1
      cases hlt : lt y x with
      | true =>
        have c1 : c < 0 := hc.2 hlt
        obtain ⟨e', r, r1, r2⟩ := ih (h + 1) j (put 10 (vi ((h + 1 : Nat) : Int)) (put 0 (.bs 0 n 2) (put 1 (vi a) (put 4 (.fn fc []) (put 11 (vi j) emp))))) (by omega) (by omega) (by omega) h3 (.inr (by rw [Nat.add_sub_cancel, hpy, hlt])) h5
          (by simp [put_at]) (by simp [put_at]) (by simp [put_at]) (by simp [put_at]) (by simp [put_at])
        refine ⟨e', r, ?_, r2⟩
        rw [← r1]
        refine (go65_0 _ _).trans ?_
        generalize fg enc L = B at *
        generalize ((h + 1 : Nat) : Int) = u at *
        simp [B65_0, push_cast, -Int.not_lt, -Int.not_le, ↓evI_call, ↓evI_calli, ↓evI_calln, ↓evI_callz, ↓evI_callv, ↓evI_mxn, loopIn, loopIn0, keepL, emp, A.dang, A.dangC, e0, e1, e4, e10, e11, hcl, q0, q1, q2, q3, q4, k1, k2, g1, g2, l1, hcall, haft, c1, hE.cp, hE.norm, hE.vs, hE.cs, hE.len, -List.all_eq_true]
        exact loop_env (by simp [put_at])
      | false =>
        have c1 : ¬ c < 0 := fun h => by rw [hc.1 h] at hlt; cases hlt
        obtain ⟨e', r, r1, r2⟩ := ih i h (put 11 (vi h) (put 0 (.bs 0 n 2) (put 1 (vi a) (put 4 (.fn fc []) (put 10 (vi i) emp))))) (by omega) (by omega) (by omega) (by omega) h4 (.inr (by rw [hpy, hlt]))
          (by simp [put_at]) (by simp [put_at]) (by simp [put_at]) (by simp [put_at]) (by simp [put_at])
        refine ⟨e', r, ?_, r2⟩
        rw [← r1]
        refine (go65_0 _ _).trans ?_
        generalize fg enc L = B at *
        simp [B65_0, push_cast, -Int.not_lt, -Int.not_le, ↓evI_call, ↓evI_calli, ↓evI_calln, ↓evI_callz, ↓evI_callv, ↓evI_mxn, loopIn, loopIn0, keepL, emp, A.dang, A.dangC, e0, e1, e4, e10, e11, hcl, q0, q1, q2, q3, q4, k1, k2, g1, g2, l1, hcall, haft, c1, hE.cp, hE.norm, hE.vs, hE.cs, hE.len, -List.all_eq_true]
        exact loop_env (by simp [put_at])
theorem sm_loop4 (hC : CmpK enc lt fc) (n a : Nat) (hn : n ≤ 1000000) (L : List α) (hL : L.length = n) (x : α) (hx : L[a]? = some x) (p : Nat → Bool) (lo hi : Nat) (hhi : hi ≤ n) (hp : ∀ h y, lo ≤ h → h < hi → L[h]? = some y → p h = !lt x y) :
    ∀ (d i j : Nat) (e : Env), j - i ≤ d → lo ≤ i → i ≤ j → j ≤ hi → (i = lo ∨ p (i - 1) = true) → (j = hi ∨ p j = false) → e 0 = .bs 0 n 2 → e 2 = vi a → e 4 = .fn fc [] → e 14 = vi i → e 15 = vi j →
    ∃ e' r, evL tab0 ext0 1 L65_4 (e, [fg enc L]) = some (.ex 4, e', [fg enc L]) ∧ Turns p lo hi r ∧ e' 0 = .bs 0 n 2 ∧ e' 2 = vi a ∧ e' 14 = vi r := by
  intro d
  induction d with
  | zero =>
    intro i j e hd h1 h2 h3 h4 h5 e0 e1 e4 e10 e11
    obtain rfl : i = j := by omega
    have hcl : (fg enc L).all (A.dangC 1) = true := plain_dang (hE.fplain _)
    generalize fg enc L = B at *
    obtain ⟨e', r1, r2⟩ : ∃ e', evL tab0 ext0 1 L65_4 (e, [B]) = some (.ex 4, e', [B]) ∧ (e' 0 = .bs 0 n 2 ∧ e' 2 = vi a ∧ e' 14 = vi i) :=
      ⟨_, (go65_4 _ _).trans (by simp [B65_4, push_cast, -Int.not_lt, -Int.not_le, ↓evI_call, ↓evI_calli, ↓evI_calln, ↓evI_callz, ↓evI_callv, ↓evI_mxn, loopIn, loopIn0, keepL, emp, A.dang, A.dangC, e0, e1, e4, e10, e11, hcl, -List.all_eq_true]; rfl), by simp [put_at]⟩
    exact ⟨e', i, r1, ⟨h1, h3, h4, h5⟩, r2⟩
  | succ d ih =>
    intro i j e hd h1 h2 h3 h4 h5 e0 e1 e4 e10 e11
    have hcl : (fg enc L).all (A.dangC 1) = true := plain_dang (hE.fplain _)
    by_cases hij : i = j
    · subst hij
      generalize fg enc L = B at *
      obtain ⟨e', r1, r2⟩ : ∃ e', evL tab0 ext0 1 L65_4 (e, [B]) = some (.ex 4, e', [B]) ∧ (e' 0 = .bs 0 n 2 ∧ e' 2 = vi a ∧ e' 14 = vi i) :=
        ⟨_, (go65_4 _ _).trans (by simp [B65_4, push_cast, -Int.not_lt, -Int.not_le, ↓evI_call, ↓evI_calli, ↓evI_calln, ↓evI_callz, ↓evI_callv, ↓evI_mxn, loopIn, loopIn0, keepL, emp, A.dang, A.dangC, e0, e1, e4, e10, e11, hcl, -List.all_eq_true]; rfl), by simp [put_at]⟩
      exact ⟨e', i, r1, ⟨h1, h3, h4, h5⟩, r2⟩
    · have ha : a < n := by rw [← hL]; exact (List.getElem?_eq_some_iff.1 hx).1
      obtain ⟨h, hh⟩ : ∃ h, h = (i + j) / 2 := ⟨_, rfl⟩
      have b1 : i ≤ h := by omega
      have b2 : h < j := by omega
      obtain ⟨y, hy⟩ : ∃ y, L[h]? = some y := ⟨_, List.getElem?_eq_getElem (by omega)⟩
      have hpy := hp h y (by omega) (by omega) hy
      obtain ⟨c, junk, hcall, hc⟩ := hC.call x y (fg enc L) (hE.fplain _)
      have haft := aft_vi' (fgC hE L) c junk
      simp only [List.length_cons, List.length_nil, List.cons_append, List.nil_append, Nat.zero_add] at haft
      have g1 := hE.get hx
      have g2 := hE.get hy
      have l1 := hE.flen L
      rw [hL] at l1
      have q0 : (i : Int) < j := by omega
      have q1 := half (i + j) (by omega)
      rw [← hh] at q1
      have q2 : IntKind.wrap .i64 ((h : Int) + 1) = ((h + 1 : Nat) : Int) := by rw [wrap_in _ (by omega) (by omega)]; omega
      have q3 : (h : Int) < n := by omega
      have q4 : (a : Int) < n := by omega
      have k1 : h * 2 + 2 ≤ n * 2 := by omega
      have k2 : a * 2 + 2 ≤ n * 2 := by omega
      rw [show ((i + j : Nat) : Int) = (i : Int) + j by omega] at q1
      cases hlt : lt x y with
      | true =>
        have c1 : c < 0 := hc.2 hlt
        obtain ⟨e', r, r1, r2⟩ := ih i h (put 15 (vi h) (put 0 (.bs 0 n 2) (put 2 (vi a) (put 4 (.fn fc []) (put 14 (vi i) emp))))) (by omega) (by omega) (by omega) (by omega) h4 (.inr (by rw [hpy, hlt]; rfl))
          (by simp [put_at]) (by simp [put_at]) (by simp [put_at]) (by simp [put_at]) (by simp [put_at])
        refine ⟨e', r, ?_, r2⟩
        rw [← r1]
        refine (go65_4 _ _).trans ?_
        generalize fg enc L = B at *
        simp [B65_4, push_cast, -Int.not_lt, -Int.not_le, ↓evI_call, ↓evI_calli, ↓evI_calln, ↓evI_callz, ↓evI_callv, ↓evI_mxn, loopIn, loopIn0, keepL, emp, A.dang, A.dangC, e0, e1, e4, e10, e11, hcl, q0, q1, q2, q3, q4, k1, k2, g1, g2, l1, hcall, haft, c1, hE.cp, hE.norm, hE.vs, hE.cs, hE.len, -List.all_eq_true]
        exact loop_env (by simp [put_at])
      | false =>
        have c1 : ¬ c < 0 := fun h => by rw [hc.1 h] at hlt; cases hlt
        obtain ⟨e', r, r1, r2⟩ := ih (h + 1) j (put 14 (vi ((h + 1 : Nat) : Int)) (put 0 (.bs 0 n 2) (put 2 (vi a) (put 4 (.fn fc []) (put 15 (vi j) emp))))) (by omega) (by omega) (by omega) h3 (.inr (by rw [Nat.add_sub_cancel, hpy, hlt]; rfl)) h5
          (by simp [put_at]) (by simp [put_at]) (by simp [put_at]) (by simp [put_at]) (by simp [put_at])
        refine ⟨e', r, ?_, r2⟩
        rw [← r1]
        refine (go65_4 _ _).trans ?_
        generalize fg enc L = B at *
        generalize ((h + 1 : Nat) : Int) = u at *
        simp [B65_4, push_cast, -Int.not_lt, -Int.not_le, ↓evI_call, ↓evI_calli, ↓evI_calln, ↓evI_callz, ↓evI_callv, ↓evI_mxn, loopIn, loopIn0, keepL, emp, A.dang, A.dangC, e0, e1, e4, e10, e11, hcl, q0, q1, q2, q3, q4, k1, k2, g1, g2, l1, hcall, haft, c1, hE.cp, hE.norm, hE.vs, hE.cs, hE.len, -List.all_eq_true]
        exact loop_env (by simp [put_at])
theorem sm_loop8 (hC : CmpK enc lt fc) (n a m b mid nn P : Nat) (hn : n ≤ 1000000) (L : List α) (hL : L.length = n) (p : Nat → Bool) (lo hi : Nat) (hhi : hi ≤ n) (hP : ∀ h, lo ≤ h → h < hi → h ≤ P ∧ P - h < n) (hPn : P ≤ 4000000) (hp : ∀ h x y, lo ≤ h → h < hi → L[P - h]? = some x → L[h]? = some y → p h = !lt x y) :
    ∀ (d i j : Nat) (e : Env), j - i ≤ d → lo ≤ i → i ≤ j → j ≤ hi → (i = lo ∨ p (i - 1) = true) → (j = hi ∨ p j = false) → e 0 = .bs 0 n 2 → e 1 = vi a → e 2 = vi m → e 3 = vi b → e 4 = .fn fc [] → e 18 = vi mid → e 19 = vi nn → e 22 = vi P → e 20 = vi i → e 21 = vi j →
    ∃ e' r, evL tab0 ext0 1 L65_8 (e, [fg enc L]) = some (.ex 8, e', [fg enc L]) ∧ Turns p lo hi r ∧ e' 0 = .bs 0 n 2 ∧ e' 1 = vi a ∧ e' 2 = vi m ∧ e' 3 = vi b ∧ e' 4 = .fn fc [] ∧ e' 18 = vi mid ∧ e' 19 = vi nn ∧ e' 20 = vi r := by
  intro d
  induction d with
  | zero =>
    intro i j e hd h1 h2 h3 h4 h5 e0 e1 e2 e3 e4 e18 e19 e22 e10 e11
    obtain rfl : i = j := by omega
    have hcl : (fg enc L).all (A.dangC 1) = true := plain_dang (hE.fplain _)
    generalize fg enc L = B at *
    obtain ⟨e', r1, r2⟩ : ∃ e', evL tab0 ext0 1 L65_8 (e, [B]) = some (.ex 8, e', [B]) ∧ (e' 0 = .bs 0 n 2 ∧ e' 1 = vi a ∧ e' 2 = vi m ∧ e' 3 = vi b ∧ e' 4 = .fn fc [] ∧ e' 18 = vi mid ∧ e' 19 = vi nn ∧ e' 20 = vi i) :=
      ⟨_, (go65_8 _ _).trans (by simp [B65_8, push_cast, -Int.not_lt, -Int.not_le, ↓evI_call, ↓evI_calli, ↓evI_calln, ↓evI_callz, ↓evI_callv, ↓evI_mxn, loopIn, loopIn0, keepL, emp, A.dang, A.dangC, e0, e1, e2, e3, e4, e18, e19, e22, e10, e11, hcl, -List.all_eq_true]; rfl), by simp [put_at]⟩
    exact ⟨e', i, r1, ⟨h1, h3, h4, h5⟩, r2⟩
  | succ d ih =>
    intro i j e hd h1 h2 h3 h4 h5 e0 e1 e2 e3 e4 e18 e19 e22 e10 e11
    have hcl : (fg enc L).all (A.dangC 1) = true := plain_dang (hE.fplain _)
    by_cases hij : i = j
    · subst hij
      generalize fg enc L = B at *
      obtain ⟨e', r1, r2⟩ : ∃ e', evL tab0 ext0 1 L65_8 (e, [B]) = some (.ex 8, e', [B]) ∧ (e' 0 = .bs 0 n 2 ∧ e' 1 = vi a ∧ e' 2 = vi m ∧ e' 3 = vi b ∧ e' 4 = .fn fc [] ∧ e' 18 = vi mid ∧ e' 19 = vi nn ∧ e' 20 = vi i) :=
        ⟨_, (go65_8 _ _).trans (by simp [B65_8, push_cast, -Int.not_lt, -Int.not_le, ↓evI_call, ↓evI_calli, ↓evI_calln, ↓evI_callz, ↓evI_callv, ↓evI_mxn, loopIn, loopIn0, keepL, emp, A.dang, A.dangC, e0, e1, e2, e3, e4, e18, e19, e22, e10, e11, hcl, -List.all_eq_true]; rfl), by simp [put_at]⟩
      exact ⟨e', i, r1, ⟨h1, h3, h4, h5⟩, r2⟩
    · obtain ⟨h, hh⟩ : ∃ h, h = (i + j) / 2 := ⟨_, rfl⟩
      have b1 : i ≤ h := by omega
      have b2 : h < j := by omega
      obtain ⟨y, hy⟩ : ∃ y, L[h]? = some y := ⟨_, List.getElem?_eq_getElem (by omega)⟩
      obtain ⟨w1, w2⟩ := hP h (by omega) (by omega)
      obtain ⟨x, hx⟩ : ∃ y, L[P - h]? = some y := ⟨_, List.getElem?_eq_getElem (by omega)⟩
      have hpy := hp h x y (by omega) (by omega) hx hy
      obtain ⟨c, junk, hcall, hc⟩ := hC.call x y (fg enc L) (hE.fplain _)
      have haft := aft_vi' (fgC hE L) c junk
      simp only [List.length_cons, List.length_nil, List.cons_append, List.nil_append, Nat.zero_add] at haft
      have g1 := hE.get hx
      have g2 := hE.get hy
      have l1 := hE.flen L
      rw [hL] at l1
      have q0 : (i : Int) < j := by omega
      have q1 := half (i + j) (by omega)
      rw [← hh] at q1
      have q2 : IntKind.wrap .i64 ((h : Int) + 1) = ((h + 1 : Nat) : Int) := by rw [wrap_in _ (by omega) (by omega)]; omega
      have q3 : (h : Int) < n := by omega
      have q4 : ((P - h : Nat) : Int) < n := by omega
      have q5 : IntKind.wrap .i64 ((P : Int) - h) = ((P - h : Nat) : Int) := by rw [wrap_in _ (by omega) (by omega)]; omega
      have q6 : (0 : Int) ≤ ((P - h : Nat) : Int) := by omega
      have q7 : ((P - h : Nat) : Int).toNat = P - h := by omega
      have k1 : h * 2 + 2 ≤ n * 2 := by omega
      have k2 : (P - h) * 2 + 2 ≤ n * 2 := by omega
      rw [show ((i + j : Nat) : Int) = (i : Int) + j by omega] at q1
      cases hlt : lt x y with
      | true =>
        have c1 : c < 0 := hc.2 hlt
        obtain ⟨e', r, r1, r2⟩ := ih i h (put 21 (vi h) (put 0 (.bs 0 n 2) (put 1 (vi a) (put 2 (vi m) (put 3 (vi b) (put 4 (.fn fc []) (put 18 (vi mid) (put 19 (vi nn) (put 22 (vi P) (put 20 (vi i) emp)))))))))) (by omega) (by omega) (by omega) (by omega) h4 (.inr (by rw [hpy, hlt]; rfl))
          (by simp [put_at]) (by simp [put_at]) (by simp [put_at]) (by simp [put_at]) (by simp [put_at]) (by simp [put_at]) (by simp [put_at]) (by simp [put_at]) (by simp [put_at]) (by simp [put_at])
        refine ⟨e', r, ?_, r2⟩
        rw [← r1]
        refine (go65_8 _ _).trans ?_
        generalize fg enc L = B at *
        generalize ((P - h : Nat) : Int) = u2 at *
        simp [B65_8, push_cast, -Int.not_lt, -Int.not_le, ↓evI_call, ↓evI_calli, ↓evI_calln, ↓evI_callz, ↓evI_callv, ↓evI_mxn, loopIn, loopIn0, keepL, emp, A.dang, A.dangC, e0, e1, e2, e3, e4, e18, e19, e22, e10, e11, hcl, q0, q1, q2, q3, q4, q5, q6, q7, k1, k2, g1, g2, l1, hcall, haft, c1, hE.cp, hE.norm, hE.vs, hE.cs, hE.len, -List.all_eq_true]
        exact loop_env (by simp [put_at])
      | false =>
        have c1 : ¬ c < 0 := fun h => by rw [hc.1 h] at hlt; cases hlt
        obtain ⟨e', r, r1, r2⟩ := ih (h + 1) j (put 20 (vi ((h + 1 : Nat) : Int)) (put 0 (.bs 0 n 2) (put 1 (vi a) (put 2 (vi m) (put 3 (vi b) (put 4 (.fn fc []) (put 18 (vi mid) (put 19 (vi nn) (put 22 (vi P) (put 21 (vi j) emp)))))))))) (by omega) (by omega) (by omega) h3 (.inr (by rw [Nat.add_sub_cancel, hpy, hlt]; rfl)) h5
          (by simp [put_at]) (by simp [put_at]) (by simp [put_at]) (by simp [put_at]) (by simp [put_at]) (by simp [put_at]) (by simp [put_at]) (by simp [put_at]) (by simp [put_at]) (by simp [put_at])
        refine ⟨e', r, ?_, r2⟩
        rw [← r1]
        refine (go65_8 _ _).trans ?_
        generalize fg enc L = B at *
        generalize ((P - h : Nat) : Int) = u2 at *
        generalize ((h + 1 : Nat) : Int) = u at *
        simp [B65_8, push_cast, -Int.not_lt, -Int.not_le, ↓evI_call, ↓evI_calli, ↓evI_calln, ↓evI_callz, ↓evI_callv, ↓evI_mxn, loopIn, loopIn0, keepL, emp, A.dang, A.dangC, e0, e1, e2, e3, e4, e18, e19, e22, e10, e11, hcl, q0, q1, q2, q3, q4, q5, q6, q7, k1, k2, g1, g2, l1, hcall, haft, c1, hE.cp, hE.norm, hE.vs, hE.cs, hE.len, -List.all_eq_true]
        exact loop_env (by simp [put_at])
/-- What a merge answers. -/
def SmOk (enc : α → List A) (lt : α → α → Bool) (fc n : Nat) (P Q : List α) : Prop := ∀ (U V : List α), U.length + P.length + Q.length + V.length = n → 0 < P.length → 0 < Q.length → Srt lt P → Srt lt Q →
  ∀ m b : Nat, m = U.length + P.length → b = m + Q.length → callL tab0 ext0 65 [.bs 0 n 2, vi U.length, vi m, vi b, .fn fc []] [fg enc (U ++ (P ++ (Q ++ V)))] = some (.tup [], [fg enc (U ++ (mge lt P Q ++ V))])
theorem sm_one_l (hC : CmpK enc lt fc) (hS : Swo lt) (n : Nat) (hn : n ≤ 1000000) (x : α) (Q : List α) : SmOk enc lt fc n [x] Q := by
  intro U V hl hP hQ sP sQ m b hm hb
  rw [callL_tab _ _ rfl tab65 rfl]
  simp only [List.length_singleton] at hl hm
  have l0 : (U ++ ([x] ++ (Q ++ V))).length = n := by simp only [List.length_append, List.length_singleton]; omega
  obtain ⟨e', r, r1, ⟨t1, t2, t3, t4⟩, r2, r3, r4⟩ := sm_loop0 hE hC n U.length hn (U ++ ([x] ++ (Q ++ V))) l0 x (midx U x _ _ rfl) (fun h => match (U ++ ([x] ++ (Q ++ V)))[h]? with | some y => lt y x | none => false) m b (by omega)
    (fun h y _ _ hy => by simp only [hy]) _ m b (put 0 (.bs 0 n 2) (put 1 (vi U.length) (put 4 (.fn fc []) (put 10 (vi m) (put 11 (vi b) emp))))) (Nat.le_refl _) (Nat.le_refl _) (by omega) (Nat.le_refl _) (.inl rfl) (.inl rfl) (by simp [put_at]) (by simp [put_at]) (by simp [put_at]) (by simp [put_at]) (by simp [put_at])
  obtain ⟨Q1, Q2, rfl, hQ1⟩ : ∃ Q1 Q2, Q = Q1 ++ Q2 ∧ Q1.length = r - m := ⟨Q.take (r - m), Q.drop (r - m), (List.take_append_drop _ _).symm, by rw [List.length_take]; omega⟩
  have hlQ : (Q1 ++ Q2).length = Q1.length + Q2.length := List.length_append
  have hm1 : mge lt [x] (Q1 ++ Q2) = Q1 ++ x :: Q2 := by
    have := mge_cut lt hS (P1 := []) (P2 := [x]) (Q1 := Q1) (Q2 := Q2) sP sQ ?_ (.inr (.inl rfl))
    · rw [List.nil_append] at this
      rw [this, mge_nil]
      rcases t4 with h | h
      · have : Q2 = [] := List.length_eq_zero_iff.1 (by omega)
        rw [this, mge_nil']
      · cases Q2 with
        | nil => rw [mge_nil']
        | cons q Q2 =>
          have hq : (U ++ ([x] ++ (Q1 ++ (q :: Q2) ++ V)))[r]? = some q := by
            have := midx (U ++ x :: Q1) q (Q2 ++ V) r (by simp; omega)
            simpa using this
          dsimp only at h; rw [hq] at h
          rw [mge_ge lt _ _ h, mge_nil]
    · rcases t3 with h | h
      · exact .inl (List.length_eq_zero_iff.1 (by omega))
      · refine (Nat.eq_zero_or_pos Q1.length).imp (fun h => List.length_eq_zero_iff.1 h) fun hpos => .inr ?_
        obtain ⟨N, q, rfl⟩ : ∃ N q, Q1 = N ++ [q] := ⟨Q1.dropLast, Q1.getLast (by intro h; rw [h] at hpos; cases hpos), (List.dropLast_concat_getLast _).symm⟩
        have hq : (U ++ ([x] ++ (N ++ [q] ++ Q2 ++ V)))[r - 1]? = some q := by
          have := midx (U ++ x :: N) q (Q2 ++ V) (r - 1) (by simp at hQ1 ⊢; omega)
          simpa using this
        dsimp only at h; rw [hq] at h
        exact ⟨q, x, N, [], rfl, rfl, h⟩
  rw [hm1]
  obtain ⟨e2, k1⟩ := sm_loop2 hE n hn (Q2 ++ V) Q1 U x (put 13 (vi U.length) e') (by simp only [List.length_append] at hl ⊢; omega) (by simp [put_at, r2]) (by rw [show U.length + Q1.length + 1 = r by omega]; simp [put_at, r4]) (by simp [put_at])
  have e1 : U ++ ([x] ++ (Q1 ++ Q2 ++ V)) = U ++ x :: (Q1 ++ (Q2 ++ V)) := by simp
  have e3 : U ++ (Q1 ++ x :: Q2 ++ V) = U ++ (Q1 ++ x :: (Q2 ++ V)) := by simp
  rw [e1] at r1
  rw [e1, e3]
  have q1 : IntKind.wrap .i64 ((m : Int) - U.length) = 1 := by rw [wrap_in _ (by omega) (by omega)]; omega
  generalize fg enc (U ++ x :: (Q1 ++ (Q2 ++ V))) = B at *
  generalize fg enc (U ++ (Q1 ++ x :: (Q2 ++ V))) = B2 at *
  simp [C65, push_cast, -Int.not_lt, -Int.not_le, ↓evI_call, ↓evI_calli, ↓evI_calln, ↓evI_callz, ↓evI_callv, ↓evI_mxn, q1]
  refine behind (Q := fun a => a = (.ex 0, e', [B])) ⟨_, Eq.trans (loop_env (by simp [put_at])) r1, rfl⟩ ?_
  rintro _ rfl
  simp [push_cast, -Int.not_lt, -Int.not_le, ↓evI_call, ↓evI_calli, ↓evI_calln, ↓evI_callz, ↓evI_callv, ↓evI_mxn, r3]
  refine behind (Q := fun a => a = (.ex 2, e2, [B2])) ⟨_, Eq.trans (loop_env (by simp [put_at])) k1, rfl⟩ ?_
  rintro _ rfl
  simp [push_cast, -Int.not_lt, -Int.not_le, ↓evI_call, ↓evI_calli, ↓evI_calln, ↓evI_callz, ↓evI_callv, ↓evI_mxn]
theorem sm_one_r (hC : CmpK enc lt fc) (hS : Swo lt) (n : Nat) (hn : n ≤ 1000000) (x : α) (P : List α) (h1 : P.length ≠ 1) : SmOk enc lt fc n P [x] := by
  intro U V hl hP hQ sP sQ m b hm hb
  rw [callL_tab _ _ rfl tab65 rfl]
  simp only [List.length_singleton] at hl hb
  have l0 : (U ++ (P ++ ([x] ++ V))).length = n := by simp only [List.length_append, List.length_singleton]; omega
  have hx : (U ++ (P ++ ([x] ++ V)))[m]? = some x := by
    have := midx (U ++ P) x V m (by simp; omega)
    simpa using this
  obtain ⟨e', r, r1, ⟨t1, t2, t3, t4⟩, r2, r3, r4⟩ := sm_loop4 hE hC n m hn (U ++ (P ++ ([x] ++ V))) l0 x hx (fun h => match (U ++ (P ++ ([x] ++ V)))[h]? with | some y => !lt x y | none => false) U.length m (by omega)
    (fun h y _ _ hy => by simp only [hy]) _ U.length m (put 0 (.bs 0 n 2) (put 2 (vi m) (put 4 (.fn fc []) (put 14 (vi U.length) (put 15 (vi m) emp))))) (Nat.le_refl _) (Nat.le_refl _) (by omega) (Nat.le_refl _) (.inl rfl) (.inl rfl) (by simp [put_at]) (by simp [put_at]) (by simp [put_at]) (by simp [put_at]) (by simp [put_at])
  obtain ⟨P1, P2, rfl, hP1⟩ : ∃ P1 P2, P = P1 ++ P2 ∧ P1.length = r - U.length := ⟨P.take (r - U.length), P.drop (r - U.length), (List.take_append_drop _ _).symm, by rw [List.length_take]; omega⟩
  have hlP : (P1 ++ P2).length = P1.length + P2.length := List.length_append
  have hm1 : mge lt (P1 ++ P2) [x] = P1 ++ x :: P2 := by
    have := mge_cut lt hS (P1 := P1) (P2 := P2) (Q1 := []) (Q2 := [x]) sP sQ (.inl rfl) ?_
    · rw [List.nil_append, mge_nil'] at this
      rw [mge_put lt P1 P2 x]
      · intro u hu
        rcases t3 with h | h
        · have : P1 = [] := List.length_eq_zero_iff.1 (by omega)
          rw [this] at hu; cases hu
        · have hpos : 0 < P1.length := List.length_pos_of_mem hu
          obtain ⟨N, q, rfl⟩ : ∃ N q, P1 = N ++ [q] := ⟨P1.dropLast, P1.getLast (by intro h; rw [h] at hpos; cases hpos), (List.dropLast_concat_getLast _).symm⟩
          have hq : (U ++ ((N ++ [q]) ++ P2 ++ ([x] ++ V)))[r - 1]? = some q := by
            have := midx (U ++ N) q (P2 ++ ([x] ++ V)) (r - 1) (by simp at hP1 ⊢; omega)
            simpa using this
          dsimp only at h; rw [hq] at h
          have h' : lt x q = false := by simpa using h
          rcases List.mem_append.1 hu with hu | hu
          · exact hS.neg _ _ _ h' ((List.pairwise_append.1 (List.pairwise_append.1 sP).1).2.2 u hu q (by simp))
          · rw [List.mem_singleton.1 hu]; exact h'
      · intro v hv
        rcases t4 with h | h
        · have : P2 = [] := List.length_eq_zero_iff.1 (by omega)
          rw [this] at hv; cases hv
        · cases P2 with
          | nil => cases hv
          | cons q P2 =>
            have hq : (U ++ (P1 ++ (q :: P2) ++ ([x] ++ V)))[r]? = some q := by
              have := midx (U ++ P1) q (P2 ++ ([x] ++ V)) r (by simp; omega)
              simpa using this
            dsimp only at h; rw [hq] at h
            have h' : lt x q = true := by simpa using h
            rcases List.mem_cons.1 hv with rfl | hv
            · exact h'
            · have h3 := (List.pairwise_cons.1 (List.pairwise_append.1 sP).2.1).1 v hv
              cases h4 : lt x v with
              | true => rfl
              | false => rw [hS.neg _ _ _ h4 h3] at h'; cases h'
    · rcases t3 with h | h
      · exact .inr (.inl (List.length_eq_zero_iff.1 (by omega)))
      · refine .inr ((Nat.eq_zero_or_pos P1.length).imp (fun h => List.length_eq_zero_iff.1 h) fun hpos => ?_)
        obtain ⟨N, q, rfl⟩ : ∃ N q, P1 = N ++ [q] := ⟨P1.dropLast, P1.getLast (by intro h; rw [h] at hpos; cases hpos), (List.dropLast_concat_getLast _).symm⟩
        have hq : (U ++ ((N ++ [q]) ++ P2 ++ ([x] ++ V)))[r - 1]? = some q := by
          have := midx (U ++ N) q (P2 ++ ([x] ++ V)) (r - 1) (by simp at hP1 ⊢; omega)
          simpa using this
        dsimp only at h; rw [hq] at h
        exact ⟨x, q, [], N, rfl, rfl, by simpa using h⟩
  rw [hm1]
  obtain ⟨e2, k1⟩ := sm_loop6 hE n hn (U ++ P1) P2.reverse x V (put 17 (vi m) e') (by simp only [List.length_append, List.length_reverse] at hl ⊢; omega) (by simp [put_at, r2]) (by simp only [List.length_append]; rw [show U.length + P1.length = r by omega]; simp [put_at, r4]) (by simp only [List.length_append, List.length_reverse]; rw [show U.length + P1.length + P2.length = m by omega]; simp [put_at])
  rw [List.reverse_reverse] at k1
  have e1 : U ++ (P1 ++ P2 ++ ([x] ++ V)) = U ++ P1 ++ (P2 ++ x :: V) := by simp
  have e3 : U ++ (P1 ++ x :: P2 ++ V) = U ++ P1 ++ x :: (P2 ++ V) := by simp
  rw [e1] at r1
  rw [e1, e3]
  have q1 : ¬ IntKind.wrap .i64 ((m : Int) - U.length) = 1 := by rw [wrap_in _ (by omega) (by omega)]; omega
  have q2 : IntKind.wrap .i64 ((b : Int) - m) = 1 := by rw [wrap_in _ (by omega) (by omega)]; omega
  generalize fg enc (U ++ P1 ++ (P2 ++ x :: V)) = B at *
  generalize fg enc (U ++ P1 ++ x :: (P2 ++ V)) = B2 at *
  simp [C65, push_cast, -Int.not_lt, -Int.not_le, ↓evI_call, ↓evI_calli, ↓evI_calln, ↓evI_callz, ↓evI_callv, ↓evI_mxn, eqz, q1, q2]
  refine behind (Q := fun a => a = (.ex 4, e', [B])) ⟨_, Eq.trans (loop_env (by simp [put_at])) r1, rfl⟩ ?_
  rintro _ rfl
  simp [push_cast, -Int.not_lt, -Int.not_le, ↓evI_call, ↓evI_calli, ↓evI_calln, ↓evI_callz, ↓evI_callv, ↓evI_mxn, r3]
  refine behind (Q := fun a => a = (.ex 6, e2, [B2])) ⟨_, Eq.trans (loop_env (by simp [put_at])) k1, rfl⟩ ?_
  rintro _ rfl
  simp [push_cast, -Int.not_lt, -Int.not_le, ↓evI_call, ↓evI_calli, ↓evI_calln, ↓evI_callz, ↓evI_callv, ↓evI_mxn]
end
end Go.Proofs.YtgndbkeiickihaaEv
