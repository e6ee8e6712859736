/- The reference's waits in one line: others, Ahead, Fair. -/
import Derived.Test.YtclebnamhpgdmaaGreatFair
set_option linter.unusedSimpArgs false
set_option linter.unusedVariables false
namespace Go.Proofs.YtclebnamhpgdmaaGreatEv
open Go
set_option maxHeartbeats 2000000
theorem othR_loop (s : St) (hs : Sm s) (n : Int) :
    ∀ d i (e : Env), i + d = s.tasks.length → (e 1 = vi n ∧ e 2 = .ptr 0 0 ∧ e 5 = .sl ((othR s n i).map vi) (othR s n i).length 2 ∧ e 6 = vi i) → ∃ zz, evL tab0 ext0 0 L96_0 (e, [St.c s]) = some zz ∧ FQ (fun _ => false) ([St.c s]) 0 (fun _ _ => True) (fun e => e 5 = .sl ((othR s n s.tasks.length).map vi) (othR s n s.tasks.length).length 2) i d zz := by
  have hc := hs.tasks
  refine fq_loop (St := fun i e => e 1 = vi n ∧ e 2 = .ptr 0 0 ∧ e 5 = .sl ((othR s n i).map vi) (othR s n i).length 2 ∧ e 6 = vi i) _ _ _ _ _ ?_ ?_
  · rintro e ⟨g0, g1, g2, g3⟩
    exact ⟨_, (go96_0 _ _).trans (by simp [B96_0, push_cast, -Int.not_lt, -Int.not_le, ↓evI_call, ↓evI_calli, ↓evI_callv, ↓evI_mxn, loopIn, loopIn0, keepL, emp, A.dang, A.dangC, g0, g1, g2, g3, slI, slT, slP, St.c, Tk.c]; rfl), by simp [put_at, g2]⟩
  · rintro i e hi ⟨g0, g1, g2, g3⟩
    rw [go96_0]
    have hi' : (i : Int) < (s.tasks.length : Nat) := by omega
    have hw : IntKind.wrap .i64 ((i : Int) + 1) = (i : Int) + 1 := wrap_in _ (by omega) (by omega)
    have h1 := pure_vi (k := false) (longestR_is s.tasks[i] (by have := hs.parts _ (List.getElem_mem hi); omega))
    have hn := othR_len s n i
    have hn2 : ((othR s n i).length + 1) * 8 ≤ 70368744177664 := by omega
    rw [othR, longAt_is s i hi]
    generalize othR s n i = q at g2 hn2 ⊢
    simp only [Tk.c, slP] at h1
    simp +contextual (maxSteps := 400000) [B96_0, push_cast, -Int.not_lt, -Int.not_le, ↓evI_call, ↓evI_calli, ↓evI_callv, ↓evI_mxn, loopIn, loopIn0, keepL, emp, A.dang, A.dangC, g0, g1, g2, g3, hi, hi', slI, slT, slP, St.c, Tk.c, drop_tk _ i hi, hw, h1, hn2, asList]
    refine Step.split (fun cc => ?_) (fun cc => ?_) <;> refine Step.goJ _ (by simp) rfl ?_ <;> simp [put_at, cc]
theorem othR_is (s : St) (hs : Sm s) (n : Int) : pureOf (callL tab0 ext0) false 96 [.agg (St.c s), vi n] = some (slI (othR s n s.tasks.length)) := by
  rw [pureOf_b, callL_tab _ _ rfl tab96 rfl]
  have hlp := othR_loop s hs n s.tasks.length 0
  simp only [St.c, slI, slT] at hlp
  generalize othR s n s.tasks.length = q at hlp ⊢
  simp [C96, push_cast, -Int.not_lt, -Int.not_le, ↓evI_call, ↓evI_calli, ↓evI_callv, ↓evI_mxn, St.c, slI, slT]
  refine behind (hlp _ (by omega) (by simp [put_at, othR])) ?_
  intro a h
  obtain ⟨e', rfl, hx⟩ := h.never; clear h; have h := hx
  simp [push_cast, -Int.not_lt, -Int.not_le, ↓evI_call, ↓evI_calli, ↓evI_callv, ↓evI_mxn, h, frzK, plain_mapM (plain_vi _)]
/-- How many of these are above zero. -/
def posN : List Int → Nat
  | [] => 0
  | a :: l => (if 0 < a then 1 else 0) + posN l
theorem posN_append (a b : List Int) : posN (a ++ b) = posN a + posN b := by
  induction a with
  | nil => simp [posN]
  | cons x a ih => simp only [List.cons_append, posN, ih]; omega
theorem posN_le : ∀ l, posN l ≤ l.length
  | [] => Nat.le_refl _
  | a :: l => by have := posN_le l; simp only [posN, List.length_cons]; split <;> omega
theorem posN_take (l : List Int) (i : Nat) (hi : i < l.length) : posN (l.take (i + 1)) = posN (l.take i) + (if 0 < l[i] then 1 else 0) := by
  rw [List.take_succ_eq_append_getElem hi, posN_append]; simp [posN]
theorem oth_pos {s : St} (g : Good s) (n : Int) : ∀ i, posN (othR s n i) = (othP s n i).length
  | 0 => rfl
  | i + 1 => by
    have ih := oth_pos g n i
    have hb := longAt_bounds g i
    rw [othR, othP]
    by_cases h1 : eqz (i : Int) n = true
    · rw [if_pos h1, if_pos (.inl h1), ih]
    · rw [if_neg h1, posN_append, ih]
      by_cases h2 : eqz (longAt s i) 0 = true
      · rw [if_pos (.inr h2)]; simp [eqz] at h2; simp [posN, h2]
      · rw [if_neg (by rintro (h | h); exact h1 h; exact h2 h)]; simp [eqz] at h2; simp [posN]; omega
theorem fairR_is (s : St) (hs : Sm s) (n k : Int) : Ans (ansO (fairS s n k)) [] (callL tab0 ext0 81 [.agg (St.c s), vi n, vi k] []) := by
  rw [callL_tab _ _ rfl tab81 rfl]
  have h1 := lockR_is s hs n k
  unfold fairS
  cases hr : lockS s n k with
  | none =>
    rw [hr] at h1
    simp only [St.c, slI, slT, pt0, Pt.c, Option.getD_none, Option.isSome_none] at h1
    simp [C81, push_cast, -Int.not_lt, -Int.not_le, ↓evI_call, ↓evI_calli, ↓evI_callv, ↓evI_mxn, St.c, slI, slT, h1]
    exact Ans.nil rfl
  | some p =>
    rw [hr] at h1
    obtain ⟨g, m, j, hm, hj, en, ek, ep, hk⟩ := lockS_some hr
    have h2 := othR_is s hs n
    have hlen := othR_len s n s.tasks.length
    have hb := othSum_bounds g n
    have hts := g.tasks
    have h3 := pure_vi (k := false) (sumR_is (othR s n s.tasks.length) 6 (othR_b g n _) (by omega))
    rw [sumTop_all _ _ (by omega), othR_sum] at h3
    have e : sumN (othF s n) s.tasks.length = othSum s n := rfl
    rw [e] at h3
    have hp : 1 ≤ p.len ∧ p.len ≤ 60 := by rw [ep]; exact (g.pts (List.getElem_mem hm)).2 _ (List.getElem_mem hj)
    have hw : IntKind.wrap .i64 (p.len + othSum s n) = p.len + othSum s n := wrap_in _ (by omega) (by omega)
    generalize othR s n s.tasks.length = q at h2 h3
    generalize othSum s n = w at h3 hw ⊢
    simp only [St.c, slI, slT, Pt.c, Option.getD_some, Option.isSome_some] at h1 h2 h3
    simp [C81, push_cast, -Int.not_lt, -Int.not_le, ↓evI_call, ↓evI_calli, ↓evI_callv, ↓evI_mxn, St.c, slI, slT, h1, h2, h3, hw]
    exact Ans.nil rfl
end Go.Proofs.YtclebnamhpgdmaaGreatEv
