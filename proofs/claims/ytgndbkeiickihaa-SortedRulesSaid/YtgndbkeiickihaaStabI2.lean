/- slices.SortStableFunc: the merge, the blocks. -/
import Derived.Test.YtgndbkeiickihaaStabI
set_option linter.unusedSimpArgs false
set_option linter.unusedVariables false
namespace Go.Proofs.YtgndbkeiickihaaEv
open Go
set_option maxHeartbeats 2000000
section
variable {α : Type} {enc : α → List A} (hE : Enc enc 2) {lt : α → α → Bool} {fc : Nat}
include hE
/-- What is behind the search. -/
def smTail : C := (.seq (.reg [⟨some 175, .mv (.t 19) false, none⟩, ⟨some 176, .mv (.t 20) false, none⟩, ⟨some 177, .bin .sub (.t 175) (.t 176), none⟩, ⟨some 24, .mv (.t 177) true, none⟩])
  (.seq (.seq (.reg [⟨some 178, .mv (.t 20) false, none⟩, ⟨some 179, .mv (.t 2) false, none⟩, ⟨some 180, .bin .lss (.t 178) (.t 179), none⟩, ⟨some 181, .mv (.t 180) false, none⟩, ⟨some 182, .mv (.t 2) false, some (181, true)⟩, ⟨some 183, .mv (.t 24) false, some (181, true)⟩, ⟨some 184, .bin .lss (.t 182) (.t 183), some (181, true)⟩, ⟨some 185, .pick (.t 181) (.t 184) (.c (.bool false)), none⟩])
  (.cond (.t 185) (.reg [⟨some 186, .mv (.t 0) false, none⟩, ⟨some 187, .mv (.t 20) false, none⟩, ⟨some 188, .mv (.t 2) false, none⟩, ⟨some 189, .mv (.t 24) false, none⟩, ⟨some 190, .mv (.t 4) false, none⟩, ⟨some 191, .calli 94 [(.t 186), (.t 187), (.t 188), (.t 189), (.t 190)], none⟩])
  (.skip)))
  (.seq (.seq (.reg [⟨some 192, .mv (.t 1) false, none⟩, ⟨some 193, .mv (.t 20) false, none⟩, ⟨some 194, .bin .lss (.t 192) (.t 193), none⟩, ⟨some 195, .mv (.t 194) false, none⟩, ⟨some 196, .mv (.t 20) false, some (195, true)⟩, ⟨some 197, .mv (.t 18) false, some (195, true)⟩, ⟨some 198, .bin .lss (.t 196) (.t 197), some (195, true)⟩, ⟨some 199, .pick (.t 195) (.t 198) (.c (.bool false)), none⟩])
  (.cond (.t 199) (.reg [⟨some 200, .mv (.t 0) false, none⟩, ⟨some 201, .mv (.t 1) false, none⟩, ⟨some 202, .mv (.t 20) false, none⟩, ⟨some 203, .mv (.t 18) false, none⟩, ⟨some 204, .mv (.t 4) false, none⟩, ⟨some 205, .calli 65 [(.t 200), (.t 201), (.t 202), (.t 203), (.t 204)], none⟩])
  (.skip)))
  (.seq (.reg [⟨some 206, .mv (.t 18) false, none⟩, ⟨some 207, .mv (.t 24) false, none⟩, ⟨some 208, .bin .lss (.t 206) (.t 207), none⟩, ⟨some 209, .mv (.t 208) false, none⟩, ⟨some 210, .mv (.t 24) false, some (209, true)⟩, ⟨some 211, .mv (.t 3) false, some (209, true)⟩, ⟨some 212, .bin .lss (.t 210) (.t 211), some (209, true)⟩, ⟨some 213, .pick (.t 209) (.t 212) (.c (.bool false)), none⟩])
  (.cond (.t 213) (.reg [⟨some 214, .mv (.t 0) false, none⟩, ⟨some 215, .mv (.t 18) false, none⟩, ⟨some 216, .mv (.t 24) false, none⟩, ⟨some 217, .mv (.t 3) false, none⟩, ⟨some 218, .mv (.t 4) false, none⟩, ⟨some 219, .calli 65 [(.t 214), (.t 215), (.t 216), (.t 217), (.t 218)], none⟩])
  (.skip))))))
theorem sm_gen (hC : CmpK enc lt fc) (hS : Swo lt) (n : Nat) (hn : n ≤ 1000000) (P Q : List α) (hP2 : 2 ≤ P.length) (hQ2 : 2 ≤ Q.length)
    (ih : ∀ P' Q' : List α, P'.length + Q'.length < P.length + Q.length → SmOk enc lt fc n P' Q') : SmOk enc lt fc n P Q := by
  intro U V hl _ _ sP sQ m b hm hb
  rw [callL_tab _ _ rfl tab65 rfl]
  obtain ⟨mid, hmid⟩ : ∃ k, k = (U.length + b) / 2 := ⟨_, rfl⟩
  obtain ⟨nn, hnn⟩ : ∃ k, k = mid + m := ⟨_, rfl⟩
  obtain ⟨lo, hi, hlh⟩ : ∃ lo hi, (mid < m ∧ lo = nn - b ∧ hi = mid) ∨ (¬ mid < m ∧ lo = U.length ∧ hi = m) := by
    by_cases h : mid < m
    · exact ⟨_, _, .inl ⟨h, rfl, rfl⟩⟩
    · exact ⟨_, _, .inr ⟨h, rfl, rfl⟩⟩
  have l0 : (U ++ (P ++ (Q ++ V))).length = n := by simp only [List.length_append]; omega
  have hlo : U.length ≤ lo ∧ lo ≤ hi ∧ hi ≤ m ∧ hi ≤ mid ∧ nn ≤ hi + b ∧ nn ≤ lo + b ∧ m + hi ≤ nn := by omega
  obtain ⟨e', r, r1, ⟨t1, t2, t3, t4⟩, r2, r3, r4, r5, r6, r7, r8, r9⟩ := sm_loop8 hE hC n U.length m b mid nn (nn - 1) hn (U ++ (P ++ (Q ++ V))) l0
    (fun h => match (U ++ (P ++ (Q ++ V)))[nn - 1 - h]?, (U ++ (P ++ (Q ++ V)))[h]? with | some x, some y => !lt x y | _, _ => false) lo hi (by omega) (fun h _ _ => by omega) (by omega)
    (fun h x y _ _ hx hy => by simp only [hx, hy]) _ lo hi (put 0 (.bs 0 n 2) (put 1 (vi U.length) (put 2 (vi m) (put 3 (vi b) (put 4 (.fn fc []) (put 18 (vi mid) (put 19 (vi nn) (put 22 (vi ((nn - 1 : Nat) : Int)) (put 20 (vi lo) (put 21 (vi hi) emp)))))))))) (Nat.le_refl _) (Nat.le_refl _) (by omega) (Nat.le_refl _) (.inl rfl) (.inl rfl)
    (by simp [put_at]) (by simp [put_at]) (by simp [put_at]) (by simp [put_at]) (by simp [put_at]) (by simp [put_at]) (by simp [put_at]) (by simp [put_at]) (by simp [put_at]) (by simp [put_at])
  obtain ⟨en, hen⟩ : ∃ k, k = nn - r := ⟨_, rfl⟩
  obtain ⟨P1, P2, rfl, hP1⟩ : ∃ P1 P2, P = P1 ++ P2 ∧ P1.length = r - U.length := ⟨P.take (r - U.length), P.drop (r - U.length), (List.take_append_drop _ _).symm, by rw [List.length_take]; omega⟩
  obtain ⟨Q1, Q2, rfl, hQ1⟩ : ∃ Q1 Q2, Q = Q1 ++ Q2 ∧ Q1.length = en - m := ⟨Q.take (en - m), Q.drop (en - m), (List.take_append_drop _ _).symm, by rw [List.length_take]; omega⟩
  rw [List.length_append] at hl hm hb hP2 hQ2
  have hl' : U.length + P1.length + P2.length + Q1.length + Q2.length + V.length = n := by rw [List.length_append] at hl; omega
  have f1 : r = U.length + P1.length := by clear hl hl' hP2 hQ2 hb hQ1 hen hnn hmid hlh; omega
  have f3 : m = r + P2.length := by clear hl hl' hP2 hQ2 hb hQ1 hen hnn hmid hlh hlo; omega
  have f2 : en = m + Q1.length := by clear hl hl' hP2 hQ2 hb hP1 hmid hlh hm; omega
  have f4 : b = en + Q2.length := by clear hl hl' hP2 hQ2 hP1 hmid hlh hm hlo hnn hen hQ1; omega
  have f6 : nn = en + r := by clear hl hl' hP2 hQ2 hP1 hmid hlh hm hb hQ1; omega
  have f5 : mid = r + Q1.length := by clear hl hl' hP2 hQ2 hP1 hmid hlh hm hb hQ1 hlo hen; omega
  have f7 : mid < b ∧ U.length < mid := by clear hl hl' hlh hQ1 hlo hen hP1; omega
  have g3 : r = lo → Q2.length = 0 ∨ P1.length = 0 := by clear hl hl' hP2 hQ2 hP1 hmid hm hb hQ1 hlo hen; omega
  have g4 : r = hi → Q1.length = 0 ∨ P2.length = 0 := by clear hl hl' hP2 hQ2 hP1 hmid hm hb hQ1 hlo hen; omega
  have hb1 : n ≤ 1000000 := hn
  have q0 : U.length + P1.length + P2.length + Q1.length + Q2.length + V.length = n := hl'
  have q1 : ¬ IntKind.wrap .i64 ((m : Int) - U.length) = 1 := by rw [wrap_in _ (by omega) (by omega)]; omega
  have q2 : ¬ IntKind.wrap .i64 ((b : Int) - m) = 1 := by rw [wrap_in _ (by omega) (by omega)]; omega
  have q3 := half (U.length + b) (by omega)
  rw [← hmid, show ((U.length + b : Nat) : Int) = (U.length : Int) + b by omega] at q3
  have q4 : IntKind.wrap .i64 ((mid : Int) + m) = nn := by rw [wrap_in _ (by omega) (by omega)]; omega
  have q5 : IntKind.wrap .i64 ((nn : Int) - 1) = ((nn - 1 : Nat) : Int) := by rw [wrap_in _ (by omega) (by omega)]; omega
  have q6 : IntKind.wrap .i64 ((nn : Int) - r) = en := by rw [wrap_in _ (by omega) (by omega)]; omega
  have hstart : (∃ q7 : (mid : Int) < m, IntKind.wrap .i64 ((nn : Int) - b) = lo ∧ (mid : Int) = hi) ∨ (∃ q7 : ¬ (mid : Int) < m, (U.length : Int) = lo ∧ (m : Int) = hi) := by
    rcases hlh with ⟨h1, h2, h3⟩ | ⟨h1, h2, h3⟩
    · exact .inl ⟨by omega, by rw [wrap_in _ (by omega) (by omega)]; omega, by omega⟩
    · exact .inr ⟨by omega, by omega, by omega⟩
  clear hm hb hP1 hQ1 hen hnn hmid hlh hlo t1 t2 hb1 hl q0
  have ePre : U ++ (P1 ++ P2 ++ (Q1 ++ Q2 ++ V)) = U ++ (P1 ++ (P2 ++ (Q1 ++ (Q2 ++ V)))) := by simp only [List.append_assoc]
  rw [ePre] at r1 t3 t4 l0
  rw [ePre]
  have hcut : mge lt (P1 ++ P2) (Q1 ++ Q2) = mge lt P1 Q1 ++ mge lt P2 Q2 := by
    refine mge_cut lt hS sP sQ ?_ ?_
    · by_cases hq : Q1.length = 0
      · exact .inl (List.length_eq_zero_iff.1 hq)
      by_cases hp : P2.length = 0
      · exact .inr (.inl (List.length_eq_zero_iff.1 hp))
      refine .inr (.inr ?_)
      obtain ⟨N, q, rfl⟩ : ∃ N q, Q1 = N ++ [q] := ⟨Q1.dropLast, Q1.getLast (by intro h; rw [h] at hq; exact hq rfl), (List.dropLast_concat_getLast _).symm⟩
      cases P2 with
      | nil => exact absurd rfl hp
      | cons p P2 =>
        simp only [List.length_cons, List.length_append, List.length_nil, Nat.zero_add] at *
        rcases t4 with h | h
        · exfalso; have := g4 h; omega
        · have g1 : (U ++ (P1 ++ (p :: P2 ++ (N ++ [q] ++ (Q2 ++ V)))))[nn - 1 - r]? = some q := by
            have := midx (U ++ P1 ++ p :: P2 ++ N) q (Q2 ++ V) (nn - 1 - r) (by simp only [List.length_append, List.length_cons]; omega)
            simpa using this
          have g2 : (U ++ (P1 ++ (p :: P2 ++ (N ++ [q] ++ (Q2 ++ V)))))[r]? = some p := by
            have := midx (U ++ P1) p (P2 ++ (N ++ [q] ++ (Q2 ++ V))) r (by simp only [List.length_append]; omega)
            simpa using this
          try dsimp only at h
          rw [g1, g2] at h
          exact ⟨q, p, N, P2, rfl, rfl, by simpa using h⟩
    · by_cases hq : Q2.length = 0
      · exact .inl (List.length_eq_zero_iff.1 hq)
      by_cases hp : P1.length = 0
      · exact .inr (.inl (List.length_eq_zero_iff.1 hp))
      refine .inr (.inr ?_)
      obtain ⟨N, p, rfl⟩ : ∃ N q, P1 = N ++ [q] := ⟨P1.dropLast, P1.getLast (by intro h; rw [h] at hp; exact hp rfl), (List.dropLast_concat_getLast _).symm⟩
      cases Q2 with
      | nil => exact absurd rfl hq
      | cons q Q2 =>
        simp only [List.length_cons, List.length_append, List.length_nil, Nat.zero_add] at *
        rcases t3 with h | h
        · exfalso; have := g3 h; omega
        · have g1 : (U ++ (N ++ [p] ++ (P2 ++ (Q1 ++ (q :: Q2 ++ V)))))[nn - 1 - (r - 1)]? = some q := by
            have := midx (U ++ (N ++ [p]) ++ P2 ++ Q1) q (Q2 ++ V) (nn - 1 - (r - 1)) (by simp only [List.length_append, List.length_cons, List.length_nil]; omega)
            simpa using this
          have g2 : (U ++ (N ++ [p] ++ (P2 ++ (Q1 ++ (q :: Q2 ++ V)))))[r - 1]? = some p := by
            have := midx (U ++ N) p (P2 ++ (Q1 ++ (q :: Q2 ++ V))) (r - 1) (by simp only [List.length_append]; omega)
            simpa using this
          try dsimp only at h
          rw [g1, g2] at h
          exact ⟨q, p, Q2, N, rfl, rfl, by simpa using h⟩
  rw [hcut]
  have eEnd : U ++ (mge lt P1 Q1 ++ mge lt P2 Q2 ++ V) = U ++ (mge lt P1 Q1 ++ (mge lt P2 Q2 ++ V)) := by simp only [List.append_assoc]
  rw [eEnd]
  have sP' := List.pairwise_append.1 sP
  have sQ' := List.pairwise_append.1 sQ
  have hlen1 := mge_len lt P1 Q1
  -- the turning
  clear t3 t4
  have S1 : (((r : Int) < m ∧ (m : Int) < en) ∧ callL tab0 ext0 94 [.bs 0 n 2, vi r, vi m, vi en, .fn fc []] [fg enc (U ++ (P1 ++ (P2 ++ (Q1 ++ (Q2 ++ V)))))] = some (.tup [], [fg enc (U ++ (P1 ++ (Q1 ++ (P2 ++ (Q2 ++ V)))))])) ∨
      ((¬ (r : Int) < m ∨ ((r : Int) < m ∧ ¬ (m : Int) < en)) ∧ fg enc (U ++ (P1 ++ (P2 ++ (Q1 ++ (Q2 ++ V))))) = fg enc (U ++ (P1 ++ (Q1 ++ (P2 ++ (Q2 ++ V)))))) := by
    by_cases c1 : P2.length = 0
    · right
      rw [List.length_eq_zero_iff.1 c1]
      exact ⟨.inl (by omega), rfl⟩
    by_cases c2 : Q1.length = 0
    · right
      rw [List.length_eq_zero_iff.1 c2]
      exact ⟨.inr ⟨by omega, by omega⟩, rfl⟩
    left
    refine ⟨⟨by omega, by omega⟩, ?_⟩
    have := ro_call hE n fc hn (U ++ P1) P2 Q1 (Q2 ++ V) (by omega) (by omega) (by simp only [List.length_append]; omega) m en (by simp only [List.length_append]; omega) (by omega)
    simp only [List.append_assoc, List.length_append] at this
    rw [show U.length + P1.length = r by omega] at this
    exact this
  have S2 : (((U.length : Int) < r ∧ (r : Int) < mid) ∧ callL tab0 ext0 65 [.bs 0 n 2, vi U.length, vi r, vi mid, .fn fc []] [fg enc (U ++ (P1 ++ (Q1 ++ (P2 ++ (Q2 ++ V)))))] = some (.tup [], [fg enc (U ++ (mge lt P1 Q1 ++ (P2 ++ (Q2 ++ V))))])) ∨
      ((¬ (U.length : Int) < r ∨ ((U.length : Int) < r ∧ ¬ (r : Int) < mid)) ∧ fg enc (U ++ (P1 ++ (Q1 ++ (P2 ++ (Q2 ++ V))))) = fg enc (U ++ (mge lt P1 Q1 ++ (P2 ++ (Q2 ++ V))))) := by
    by_cases c1 : P1.length = 0
    · right
      rw [List.length_eq_zero_iff.1 c1, mge_nil]
      exact ⟨.inl (by omega), rfl⟩
    by_cases c2 : Q1.length = 0
    · right
      rw [List.length_eq_zero_iff.1 c2, mge_nil']
      exact ⟨.inr ⟨by omega, by omega⟩, rfl⟩
    left
    refine ⟨⟨by omega, by omega⟩, ?_⟩
    have := ih P1 Q1 (by simp only [List.length_append]; omega) U (P2 ++ (Q2 ++ V)) (by simp only [List.length_append]; omega) (by omega) (by omega) sP'.1 sQ'.1 r mid (by omega) (by omega)
    exact this
  have S3 : (((mid : Int) < en ∧ (en : Int) < b) ∧ callL tab0 ext0 65 [.bs 0 n 2, vi mid, vi en, vi b, .fn fc []] [fg enc (U ++ (mge lt P1 Q1 ++ (P2 ++ (Q2 ++ V))))] = some (.tup [], [fg enc (U ++ (mge lt P1 Q1 ++ (mge lt P2 Q2 ++ V)))])) ∨
      ((¬ (mid : Int) < en ∨ ((mid : Int) < en ∧ ¬ (en : Int) < b)) ∧ fg enc (U ++ (mge lt P1 Q1 ++ (P2 ++ (Q2 ++ V)))) = fg enc (U ++ (mge lt P1 Q1 ++ (mge lt P2 Q2 ++ V)))) := by
    by_cases c1 : P2.length = 0
    · right
      rw [List.length_eq_zero_iff.1 c1, mge_nil]
      exact ⟨.inl (by omega), rfl⟩
    by_cases c2 : Q2.length = 0
    · right
      rw [List.length_eq_zero_iff.1 c2, mge_nil']
      exact ⟨.inr ⟨by omega, by omega⟩, by simp⟩
    left
    refine ⟨⟨by omega, by omega⟩, ?_⟩
    have := ih P2 Q2 (by simp only [List.length_append]; omega) (U ++ mge lt P1 Q1) V (by simp only [List.length_append]; omega) (by omega) (by omega) sP'.2.1 sQ'.2.1 en b (by simp only [List.length_append]; omega) (by omega)
    simp only [List.append_assoc, List.length_append] at this
    rw [show U.length + (mge lt P1 Q1).length = mid by omega] at this
    exact this
  have hcl0 := (fgC hE (U ++ (P1 ++ (P2 ++ (Q1 ++ (Q2 ++ V))))))
  have a1 := aft_clean (fgC hE (U ++ (P1 ++ (Q1 ++ (P2 ++ (Q2 ++ V)))))) (v := .tup []) rfl
  have a2 := aft_clean (fgC hE (U ++ (mge lt P1 Q1 ++ (P2 ++ (Q2 ++ V))))) (v := .tup []) rfl
  have a3 := aft_clean (fgC hE (U ++ (mge lt P1 Q1 ++ (mge lt P2 Q2 ++ V)))) (v := .tup []) rfl
  simp only [List.length_cons, List.length_nil, Nat.zero_add] at a1 a2 a3
  clear ih hcut sP sQ sP' sQ'
  generalize fg enc (U ++ (P1 ++ (P2 ++ (Q1 ++ (Q2 ++ V))))) = B0 at *
  generalize fg enc (U ++ (P1 ++ (Q1 ++ (P2 ++ (Q2 ++ V))))) = B1 at *
  generalize fg enc (U ++ (mge lt P1 Q1 ++ (P2 ++ (Q2 ++ V)))) = B2 at *
  generalize fg enc (U ++ (mge lt P1 Q1 ++ (mge lt P2 Q2 ++ V))) = B3 at *
  generalize ((nn - 1 : Nat) : Int) = u at *
  have K : ∀ E : Env, (∀ i ∈ [0, 1, 2, 3, 4, 18, 19, 20, 21, 22], E i = (put 0 (.bs 0 n 2) (put 1 (vi U.length) (put 2 (vi m) (put 3 (vi b) (put 4 (.fn fc []) (put 18 (vi mid) (put 19 (vi nn) (put 22 (vi u) (put 20 (vi lo) (put 21 (vi hi) emp)))))))))) i) →
      evL tab0 ext0 1 L65_8 (E, [B0]) = some (.ex 8, e', [B0]) := fun E hEq => Eq.trans (loop_env hEq) r1
  have hres : C65.res = [] := rfl
  have FNX : ∀ E : Env, (∀ i ∈ [0, 1, 2, 3, 4, 18, 19, 20, 21, 22], E i = (put 0 (.bs 0 n 2) (put 1 (vi U.length) (put 2 (vi m) (put 3 (vi b) (put 4 (.fn fc []) (put 18 (vi mid) (put 19 (vi nn) (put 22 (vi u) (put 20 (vi lo) (put 21 (vi hi) emp)))))))))) i) →
      ((evL tab0 ext0 1 L65_8 (E, [B0])).bind fun x => (blkK 8 x).bind fun y => (seqG tab0 ext0 1 smTail y).bind (resK C65)) = some (.tup [], [B3]) := by
    intro E hEq
    refine behind (Q := fun a => a = (.ex 8, e', [B0])) ⟨_, K _ hEq, rfl⟩ ?_
    rintro _ rfl
    simp only [blkK_ex, if_true, ob_some, seqG_nor]
    unfold smTail
    rw [eL_seq, Option.bind_assoc]
    refine behind (Q := fun a => ∃ e1, a = (.nor, e1, [B0]) ∧ e1 0 = .bs 0 n 2 ∧ e1 1 = vi U.length ∧ e1 2 = vi m ∧ e1 3 = vi b ∧ e1 4 = .fn fc [] ∧ e1 18 = vi mid ∧ e1 20 = vi r ∧ e1 24 = vi en) ⟨_, by simp [push_cast, -Int.not_lt, -Int.not_le, ↓evI_call, ↓evI_calli, ↓evI_calln, ↓evI_callz, ↓evI_callv, ↓evI_mxn, r8, r9, q6]; rfl, _, rfl, by simp [put_at, r2, r3, r4, r5, r6, r7, r9]⟩ ?_
    rintro _ ⟨e1, rfl, r2, r3, r4, r5, r6, r7, r9, r10⟩
    simp only [ob_some, seqG_nor]
    rw [eL_seq, Option.bind_assoc]
    refine behind (Q := fun a => ∃ e1, a = (.nor, e1, [B1]) ∧ e1 0 = .bs 0 n 2 ∧ e1 1 = vi U.length ∧ e1 2 = vi m ∧ e1 3 = vi b ∧ e1 4 = .fn fc [] ∧ e1 18 = vi mid ∧ e1 20 = vi r ∧ e1 24 = vi en) ?_ ?_
    · clear S2 S3
      rcases S1 with ⟨⟨c1, c1'⟩, h1⟩ | ⟨c1 | ⟨c1, c1'⟩, rfl⟩
      · exact ⟨_, by simp [push_cast, -Int.not_lt, -Int.not_le, ↓evI_call, ↓evI_calli, ↓evI_calln, ↓evI_callz, ↓evI_callv, ↓evI_mxn, r2, r3, r4, r5, r6, r7, r9, r10, c1, c1', h1, a1]; rfl, _, rfl, by simp [put_at, r2, r3, r4, r5, r6, r7, r9, r10]⟩
      · exact ⟨_, by simp [push_cast, -Int.not_lt, -Int.not_le, ↓evI_call, ↓evI_calli, ↓evI_calln, ↓evI_callz, ↓evI_callv, ↓evI_mxn, r2, r3, r4, r5, r6, r7, r9, r10, c1]; rfl, _, rfl, by simp [put_at, r2, r3, r4, r5, r6, r7, r9, r10]⟩
      · exact ⟨_, by simp [push_cast, -Int.not_lt, -Int.not_le, ↓evI_call, ↓evI_calli, ↓evI_calln, ↓evI_callz, ↓evI_callv, ↓evI_mxn, r2, r3, r4, r5, r6, r7, r9, r10, c1, c1']; rfl, _, rfl, by simp [put_at, r2, r3, r4, r5, r6, r7, r9, r10]⟩
    clear r2 r3 r4 r5 r6 r7 r9 r10
    rintro _ ⟨e1, rfl, r2, r3, r4, r5, r6, r7, r9, r10⟩
    simp only [ob_some, seqG_nor]
    rw [eL_seq, Option.bind_assoc]
    refine behind (Q := fun a => ∃ e1, a = (.nor, e1, [B2]) ∧ e1 0 = .bs 0 n 2 ∧ e1 1 = vi U.length ∧ e1 2 = vi m ∧ e1 3 = vi b ∧ e1 4 = .fn fc [] ∧ e1 18 = vi mid ∧ e1 20 = vi r ∧ e1 24 = vi en) ?_ ?_
    · clear S1 S3
      rcases S2 with ⟨⟨c1, c1'⟩, h1⟩ | ⟨c1 | ⟨c1, c1'⟩, rfl⟩
      · exact ⟨_, by simp [push_cast, -Int.not_lt, -Int.not_le, ↓evI_call, ↓evI_calli, ↓evI_calln, ↓evI_callz, ↓evI_callv, ↓evI_mxn, r2, r3, r4, r5, r6, r7, r9, r10, c1, c1', h1, a2]; rfl, _, rfl, by simp [put_at, r2, r3, r4, r5, r6, r7, r9, r10]⟩
      · exact ⟨_, by simp [push_cast, -Int.not_lt, -Int.not_le, ↓evI_call, ↓evI_calli, ↓evI_calln, ↓evI_callz, ↓evI_callv, ↓evI_mxn, r2, r3, r4, r5, r6, r7, r9, r10, c1]; rfl, _, rfl, by simp [put_at, r2, r3, r4, r5, r6, r7, r9, r10]⟩
      · exact ⟨_, by simp [push_cast, -Int.not_lt, -Int.not_le, ↓evI_call, ↓evI_calli, ↓evI_calln, ↓evI_callz, ↓evI_callv, ↓evI_mxn, r2, r3, r4, r5, r6, r7, r9, r10, c1, c1']; rfl, _, rfl, by simp [put_at, r2, r3, r4, r5, r6, r7, r9, r10]⟩
    clear r2 r3 r4 r5 r6 r7 r9 r10
    rintro _ ⟨e1, rfl, r2, r3, r4, r5, r6, r7, r9, r10⟩
    simp only [ob_some, seqG_nor]
    clear S1 S2
    rcases S3 with ⟨⟨c1, c1'⟩, h1⟩ | ⟨c1 | ⟨c1, c1'⟩, rfl⟩
    · simp [push_cast, -Int.not_lt, -Int.not_le, ↓evI_call, ↓evI_calli, ↓evI_calln, ↓evI_callz, ↓evI_callv, ↓evI_mxn, hres, r2, r3, r4, r5, r6, r7, r9, r10, c1, c1', h1, a3]
    · simp [push_cast, -Int.not_lt, -Int.not_le, ↓evI_call, ↓evI_calli, ↓evI_calln, ↓evI_callz, ↓evI_callv, ↓evI_mxn, hres, r2, r3, r4, r5, r6, r7, r9, r10, c1]
    · simp [push_cast, -Int.not_lt, -Int.not_le, ↓evI_call, ↓evI_calli, ↓evI_calln, ↓evI_callz, ↓evI_callv, ↓evI_mxn, hres, r2, r3, r4, r5, r6, r7, r9, r10, c1, c1']
  rcases hstart with ⟨q7, q8, q9⟩ | ⟨q7, q8, q9⟩
  · simp [C65, push_cast, -Int.not_lt, -Int.not_le, ↓evI_call, ↓evI_calli, ↓evI_calln, ↓evI_callz, ↓evI_callv, ↓evI_mxn, eqz, q1, q2, q3, q4, q5, q7, q8]
    exact FNX _ (by simp [put_at, q9])
  · simp [C65, push_cast, -Int.not_lt, -Int.not_le, ↓evI_call, ↓evI_calli, ↓evI_calln, ↓evI_callz, ↓evI_callv, ↓evI_mxn, eqz, q1, q2, q3, q4, q5, q7]
    exact FNX _ (by simp [put_at, q8, q9])
theorem sm_call (hC : CmpK enc lt fc) (hS : Swo lt) (n : Nat) (hn : n ≤ 1000000) : ∀ (k : Nat) (P Q : List α), P.length + Q.length ≤ k → SmOk enc lt fc n P Q := by
  intro k
  induction k with
  | zero => intro P Q hk U V _ hP; omega
  | succ k ih =>
    intro P Q hk
    match P, Q, hk, ih with
    | [], Q, hk, ih => intro U V _ hP; exact absurd hP (Nat.lt_irrefl 0)
    | [x], Q, hk, ih => exact sm_one_l hE hC hS n hn x Q
    | x :: y :: P, [], hk, ih => intro U V _ _ hQ; exact absurd hQ (Nat.lt_irrefl 0)
    | x :: y :: P, [z], hk, ih => exact sm_one_r hE hC hS n hn z _ (by simp)
    | x :: y :: P, z :: w :: Q, hk, ih => exact sm_gen hE hC hS n hn _ _ (by simp) (by simp) fun P' Q' h => ih P' Q' (by simp only [List.length_cons] at h hk; omega)
end
end Go.Proofs.YtgndbkeiickihaaEv
