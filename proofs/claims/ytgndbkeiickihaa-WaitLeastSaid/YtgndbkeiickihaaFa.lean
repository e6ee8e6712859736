/- package fair: the program's, the reference's. -/
import Derived.Test.YtgndbkeiickihaaRefAg
import Derived.Test.YtgndbkeiickihaaSo
set_option linter.unusedSimpArgs false
set_option linter.unusedVariables false
namespace Go.Proofs.YtgndbkeiickihaaEv
open Go
set_option maxHeartbeats 2000000
def longAt (s : St) (i : Nat) : Int := (s.tasks[i]?.map fun t => longest t.parts).getD 0
theorem longAt_is (s : St) (i : Nat) (h : i < s.tasks.length) : longAt s i = longest s.tasks[i].parts := by unfold longAt; simp [h]
theorem longAt_bounds {s : St} (g : Good s) (i : Nat) : 0 ≤ longAt s i ∧ longAt s i ≤ 60 := by
  unfold longAt
  cases h : s.tasks[i]? with
  | none => simp
  | some t =>
    obtain ⟨hi, rfl⟩ := List.getElem?_eq_some_iff.1 h
    simp only [Option.map_some, Option.getD_some]
    unfold longest
    exact ⟨maxL_nonneg _ _, maxL_le _ _ (by omega) _ fun p hp => by have := (g.pts (List.getElem_mem hi)).2 p hp; unfold kLen; split <;> omega⟩
/-- The others' longest Locks: of those that have one; of all. -/
def othP (s : St) (n : Int) : Nat → List Int
  | 0 => []
  | i + 1 => if eqz (i : Int) n = true ∨ eqz (longAt s i) 0 = true then othP s n i else othP s n i ++ [longAt s i]
def othR (s : St) (n : Int) : Nat → List Int
  | 0 => []
  | i + 1 => if eqz (i : Int) n = true then othR s n i else othR s n i ++ [longAt s i]
def othF (s : St) (n : Int) (i : Nat) : Int := if eqz (i : Int) n = true then 0 else longAt s i
def othSum (s : St) (n : Int) : Int := sumN (othF s n) s.tasks.length
theorem othP_sum (s : St) (n : Int) : ∀ i, sumL id (othP s n i) = sumN (othF s n) i
  | 0 => rfl
  | i + 1 => by
    have ih := othP_sum s n i
    rw [othP, sumN]
    unfold othF at ih ⊢
    by_cases h1 : eqz (i : Int) n = true
    · rw [if_pos (.inl h1), if_pos h1, ih]; omega
    · by_cases h2 : eqz (longAt s i) 0 = true
      · rw [if_pos (.inr h2), if_neg h1, ih]; simp [eqz] at h2; omega
      · rw [if_neg (by rintro (h | h); exact h1 h; exact h2 h), if_neg h1, sumL_append, ih]; simp [sumL]
theorem othR_sum (s : St) (n : Int) : ∀ i, sumL id (othR s n i) = sumN (othF s n) i
  | 0 => rfl
  | i + 1 => by
    have ih := othR_sum s n i
    rw [othR, sumN]
    unfold othF at ih ⊢
    by_cases h1 : eqz (i : Int) n = true
    · rw [if_pos h1, if_pos h1, ih]; omega
    · rw [if_neg h1, if_neg h1, sumL_append, ih]; simp [sumL]
theorem othP_len (s : St) (n : Int) : ∀ i, (othP s n i).length ≤ i
  | 0 => Nat.le_refl _
  | i + 1 => by have := othP_len s n i; rw [othP]; split <;> simp <;> omega
theorem othR_len (s : St) (n : Int) : ∀ i, (othR s n i).length ≤ i
  | 0 => Nat.le_refl _
  | i + 1 => by have := othR_len s n i; rw [othR]; split <;> simp <;> omega
theorem othP_b {s : St} (g : Good s) (n : Int) : ∀ i, ∀ x ∈ othP s n i, 0 ≤ x ∧ x ≤ 60
  | 0, _, h => by cases h
  | i + 1, x, h => by
    rw [othP] at h
    split at h
    · exact othP_b g n i x h
    · rcases List.mem_append.1 h with h | h
      · exact othP_b g n i x h
      · rw [List.mem_singleton.1 h]; exact longAt_bounds g i
theorem othR_b {s : St} (g : Good s) (n : Int) : ∀ i, ∀ x ∈ othR s n i, 0 ≤ x ∧ x ≤ 60
  | 0, _, h => by cases h
  | i + 1, x, h => by
    rw [othR] at h
    split at h
    · exact othR_b g n i x h
    · rcases List.mem_append.1 h with h | h
      · exact othR_b g n i x h
      · rw [List.mem_singleton.1 h]; exact longAt_bounds g i
theorem othSum_bounds {s : St} (g : Good s) (n : Int) : 0 ≤ othSum s n ∧ othSum s n ≤ 720 := by
  have hb : ∀ i, 0 ≤ othF s n i ∧ othF s n i ≤ 60 := fun i => by have := longAt_bounds g i; unfold othF; split <;> omega
  have h1 := sumN_ge (f := othF s n) s.tasks.length fun i _ => (hb i).1
  have h2 := sumN_le (f := othF s n) (b := 60) s.tasks.length fun i _ => (hb i).2
  have := g.tasks
  unfold othSum; omega
def fairS (s : St) (n k : Int) : Option Int := (lockS s n k).map fun p => p.len + othSum s n
def aheadS (s : St) (n : Int) : Int := if thereS s n = true then (othP s n s.tasks.length).length else 0
theorem oth_loop (s : St) (hs : Sm s) (n : Int) :
    ∀ d i (e : Env), i + d = s.tasks.length → (e 1 = vi n ∧ e 5 = .sl ((othP s n i).map vi) (othP s n i).length 2 ∧ e 29 = slT s.tasks ∧ e 30 = vi s.tasks.length ∧ e 31 = vi i) → ∃ zz, evL tab0 ext0 0 L58_0 (e, [St.c s]) = some zz ∧ FQ (fun _ => false) ([St.c s]) 0 (fun _ _ => True) (fun e => e 5 = .sl ((othP s n s.tasks.length).map vi) (othP s n s.tasks.length).length 2) i d zz := by
  have hc := hs.tasks
  refine fq_loop (St := fun i e => e 1 = vi n ∧ e 5 = .sl ((othP s n i).map vi) (othP s n i).length 2 ∧ e 29 = slT s.tasks ∧ e 30 = vi s.tasks.length ∧ e 31 = vi i) _ _ _ _ _ ?_ ?_
  · rintro e ⟨g0, g1, g2, g3, g4⟩
    exact ⟨_, (go58_0 _ _).trans (by simp [B58_0, push_cast, -Int.not_lt, -Int.not_le, ↓evI_call, ↓evI_calli, ↓evI_calln, ↓evI_callz, ↓evI_callv, ↓evI_mxn, loopIn, loopIn0, keepL, emp, A.dang, A.dangC, g0, g1, g2, g3, g4, slI, slT, slP, St.c, Tk.c]; rfl), by simp [put_at, g1]⟩
  · rintro i e hi ⟨g0, g1, g2, g3, g4⟩
    rw [go58_0]
    have hi' : (i : Int) < (s.tasks.length : Nat) := by omega
    have hw : IntKind.wrap .i64 ((i : Int) + 1) = (i : Int) + 1 := wrap_in _ (by omega) (by omega)
    have h1 := pure_vi (k := false) (longest_is s.tasks[i] (by have := hs.parts _ (List.getElem_mem hi); omega))
    have hn := othP_len s n i
    have hn2 : ((othP s n i).length + 1) * 8 ≤ 70368744177664 := by omega
    rw [othP, longAt_is s i hi]
    generalize othP s n i = q at g1 hn2 ⊢
    simp only [Tk.c, slP] at h1
    simp +contextual (maxSteps := 400000) [B58_0, push_cast, -Int.not_lt, -Int.not_le, ↓evI_call, ↓evI_calli, ↓evI_calln, ↓evI_callz, ↓evI_callv, ↓evI_mxn, loopIn, loopIn0, keepL, emp, A.dang, A.dangC, g0, g1, g2, g3, g4, hi, hi', slI, slT, slP, St.c, Tk.c, drop_tk _ i hi, hw, h1, hn2, asList]
    refine Step.split (fun cc => ?_) (fun cc => ?_) <;> refine Step.goJ _ (by simp) rfl ?_ <;> simp [put_at, cc]
theorem oth_is (s : St) (hs : Sm s) (n : Int) : pureOf (callL tab0 ext0) false 58 [.agg (St.c s), vi n] = some (slI (if thereS s n = true then othP s n s.tasks.length else [])) := by
  rw [pureOf_b, callL_tab _ _ rfl tab58 rfl]
  have h1 := okS_pure s hs.fits
  rcases (Bool.eq_false_or_eq_true (thereS s n)).symm with ht | ht
  · rw [if_neg (by simp [ht])]
    by_cases c1 : (chk s).2 = 0
    · have c1' : eqz (chk s).2 0 = true := by simp [eqz, c1]
      rw [c1] at h1
      have c2 : n < 0 ∨ (s.tasks.length : Int) ≤ n := by
        unfold thereS okS at ht
        simp [c1', eqz, c1] at ht
        omega
      simp only [St.c, slI, slT] at h1
      by_cases c3 : n < 0
      · simp [C58, push_cast, -Int.not_lt, -Int.not_le, ↓evI_call, ↓evI_calli, ↓evI_calln, ↓evI_callz, ↓evI_callv, ↓evI_mxn, St.c, slI, slT, h1, eqz_self, c3, frzK]
      · have c4 : (s.tasks.length : Int) ≤ n := by omega
        simp [C58, push_cast, -Int.not_lt, -Int.not_le, ↓evI_call, ↓evI_calli, ↓evI_calln, ↓evI_callz, ↓evI_callv, ↓evI_mxn, St.c, slI, slT, h1, eqz_self, c3, c4, frzK]
    · have c1' : eqz (chk s).2 0 = false := by simp [eqz, c1]
      generalize (chk s).2 = z at h1 c1'
      simp only [St.c, slI, slT] at h1
      simp [C58, push_cast, -Int.not_lt, -Int.not_le, ↓evI_call, ↓evI_calli, ↓evI_calln, ↓evI_callz, ↓evI_callv, ↓evI_mxn, St.c, slI, slT, h1, c1', frzK]
  · rw [if_pos ht]
    obtain ⟨g, h0, hn⟩ := (thereS_iff s n).1 ht
    have c1 := (chk_good s).2 g
    rw [c1] at h1
    have c3 : ¬ n < 0 := by omega
    have c4 : ¬ (s.tasks.length : Int) ≤ n := by omega
    have hlp := oth_loop s hs n s.tasks.length 0
    simp only [St.c, slI, slT] at h1 hlp
    simp [C58, push_cast, -Int.not_lt, -Int.not_le, ↓evI_call, ↓evI_calli, ↓evI_calln, ↓evI_callz, ↓evI_callv, ↓evI_mxn, St.c, slI, slT, h1, eqz_self, c3, c4]
    refine behind (hlp _ (by omega) (by simp [put_at, othP])) ?_
    intro a h
    obtain ⟨e', rfl, hx⟩ := h.never; clear h; have h := hx
    simp [push_cast, -Int.not_lt, -Int.not_le, ↓evI_call, ↓evI_calli, ↓evI_calln, ↓evI_callz, ↓evI_callv, ↓evI_mxn, h, frzK, plain_mapM (plain_vi _)]
/-- A task's part, whatever it is. -/
def rawS (s : St) (n k : Int) : Option Pt := if thereS s n = true ∧ 0 ≤ k then (s.tasks[n.toNat]?.bind fun t => t.parts[k.toNat]?) else none
theorem rawS_lock (s : St) (n k : Int) : lockS s n k = (rawS s n k).filter fun p => eqz p.kind 3 := by
  unfold lockS rawS; split <;> rfl
/-- Drawn regions: not by rfl (the kernel goes astray in them). -/
theorem clr_nil' (e : Env) : clr [] e = e := by funext i; simp [clr]
theorem neOk_nil' (e : Env) : neOk [] e = true := by simp [neOk]
theorem neK_ptr' (r o r' o') : neK (.ptr r o) (.ptr r' o') = !(r == r') := by simp [neK]
theorem neOk_cons' (p ne) (e : Env) : neOk (p :: ne) e = (neK (e p.1) (e p.2) && neOk ne e) := by rw [neOk_cons]
theorem locked_no1 (s : St) (hs : Sm s) (n k : Int) (ht : thereS s n = false) (c1 : (chk s).2 = 0) : pureOf (callL tab0 ext0) false 57 [.agg (St.c s), vi n, vi k] = some (.tup [.agg (Pt.c pt0), vb false]) := by
  rw [pureOf_b, callL_tab _ _ rfl tab57 rfl]
  have h1 := okS_pure s hs.fits
  have c1' : eqz (chk s).2 0 = true := by simp [eqz, c1]
  rw [c1] at h1
  have c2 : n < 0 ∨ (s.tasks.length : Int) ≤ n := by
    unfold thereS okS at ht
    simp [c1', eqz, c1] at ht
    omega
  clear ht
  simp only [St.c, slI, slT] at h1
  by_cases c3 : n < 0
  · simp [C57, push_cast, -Int.not_lt, -Int.not_le, ↓evI_call, ↓evI_calli, ↓evI_calln, ↓evI_callz, ↓evI_callv, ↓evI_mxn, St.c, slI, slT, h1, eqz_self, c3, frzK, pt0, Pt.c]
  · have c4 : (s.tasks.length : Int) ≤ n := by omega
    simp [C57, push_cast, -Int.not_lt, -Int.not_le, ↓evI_call, ↓evI_calli, ↓evI_calln, ↓evI_callz, ↓evI_callv, ↓evI_mxn, St.c, slI, slT, h1, eqz_self, c3, c4, frzK, pt0, Pt.c]
theorem locked_no2 (s : St) (hs : Sm s) (n k : Int) (c1 : (chk s).2 ≠ 0) : pureOf (callL tab0 ext0) false 57 [.agg (St.c s), vi n, vi k] = some (.tup [.agg (Pt.c pt0), vb false]) := by
  rw [pureOf_b, callL_tab _ _ rfl tab57 rfl]
  have h1 := okS_pure s hs.fits
  have c1' : eqz (chk s).2 0 = false := by simp [eqz, c1]
  generalize (chk s).2 = z at h1 c1'
  simp only [St.c, slI, slT] at h1
  simp [C57, push_cast, -Int.not_lt, -Int.not_le, ↓evI_call, ↓evI_calli, ↓evI_calln, ↓evI_callz, ↓evI_callv, ↓evI_mxn, St.c, slI, slT, h1, c1', frzK, pt0, Pt.c]
theorem locked_neg (s : St) (hs : Sm s) (m : Nat) (k : Int) (c1 : (chk s).2 = 0) (hm : m < s.tasks.length) (hk0 : k < 0) : pureOf (callL tab0 ext0) false 57 [.agg (St.c s), vi m, vi k] = some (.tup [.agg (Pt.c pt0), vb false]) := by
  rw [pureOf_b, callL_tab _ _ rfl tab57 rfl]
  have h1 := okS_pure s hs.fits
  rw [c1] at h1
  have c4 : ¬ (s.tasks.length : Int) ≤ m := by omega
  have c6 : ¬ (m : Int) < 0 := by omega
  have c7 : (0 : Int) ≤ m := by omega
  simp only [St.c, slI, slT] at h1
  simp [C57, push_cast, -Int.not_lt, -Int.not_le, ↓evI_call, ↓evI_calli, ↓evI_calln, ↓evI_callz, ↓evI_callv, ↓evI_mxn, St.c, slI, slT, h1, eqz_self, c4, c6, c7, hk0, frzK, pt0, Pt.c]
theorem locked_out (s : St) (hs : Sm s) (m j : Nat) (c1 : (chk s).2 = 0) (hm : m < s.tasks.length) (hj : ¬ j < s.tasks[m].parts.length) : pureOf (callL tab0 ext0) false 57 [.agg (St.c s), vi m, vi j] = some (.tup [.agg (Pt.c pt0), vb false]) := by
  rw [pureOf_b, callL_tab _ _ rfl tab57 rfl]
  have h1 := okS_pure s hs.fits
  rw [c1] at h1
  have c4 : ¬ (s.tasks.length : Int) ≤ m := by omega
  have c6 : ¬ (m : Int) < 0 := by omega
  have c7 : (0 : Int) ≤ m := by omega
  have c5 : (m : Int) < s.tasks.length := by omega
  have hj' : (s.tasks[m].parts.length : Int) ≤ j := by omega
  have d6 : ¬ (j : Int) < 0 := by omega
  have d7 : (0 : Int) ≤ j := by omega
  simp only [St.c, slI, slT] at h1
  simp [C57, push_cast, -Int.not_lt, -Int.not_le, ↓evI_call, ↓evI_calli, ↓evI_calln, ↓evI_callz, ↓evI_callv, ↓evI_mxn, St.c, slI, slT, slP, Tk.c, h1, eqz_self, c4, c6, c7, c5, hm, d6, d7, drop_tk _ m hm, hj', frzK, pt0, Pt.c]
theorem locked_hit (s : St) (hs : Sm s) (m j : Nat) (c1 : (chk s).2 = 0) (hm : m < s.tasks.length) (hj : j < s.tasks[m].parts.length) : pureOf (callL tab0 ext0) false 57 [.agg (St.c s), vi m, vi j] = some (.tup [.agg (Pt.c s.tasks[m].parts[j]), vb (eqz s.tasks[m].parts[j].kind 3)]) := by
  rw [pureOf_b, callL_tab _ _ rfl tab57 rfl]
  have h1 := okS_pure s hs.fits
  rw [c1] at h1
  have c4 : ¬ (s.tasks.length : Int) ≤ m := by omega
  have c6 : ¬ (m : Int) < 0 := by omega
  have c7 : (0 : Int) ≤ m := by omega
  have c5 : (m : Int) < s.tasks.length := by omega
  have hj' : ¬ (s.tasks[m].parts.length : Int) ≤ j := by omega
  have d6 : ¬ (j : Int) < 0 := by omega
  have d7 : (0 : Int) ≤ j := by omega
  have hj2 : (j : Int) < s.tasks[m].parts.length := by omega
  obtain ⟨p, hp⟩ : ∃ p, p = s.tasks[m].parts[j] := ⟨_, rfl⟩
  have hdrop := drop_pt s.tasks[m].parts j hj
  rw [← hp] at hdrop ⊢
  simp only [St.c, slI, slT] at h1
  rcases (Bool.eq_false_or_eq_true (eqz p.kind 3)).symm with hk | hk
  · simp [C57, push_cast, -Int.not_lt, -Int.not_le, ↓evI_call, ↓evI_calli, ↓evI_calln, ↓evI_callz, ↓evI_callv, ↓evI_mxn, clr_nil', neOk_nil', neK_ptr', neOk_cons', St.c, slI, slT, slP, Tk.c, Pt.c, h1, eqz_self, c4, c6, c7, c5, hm, d6, d7, drop_tk _ m hm, hj', hj2, hj, hdrop, hk, frzK, pt0]
  · simp [C57, push_cast, -Int.not_lt, -Int.not_le, ↓evI_call, ↓evI_calli, ↓evI_calln, ↓evI_callz, ↓evI_callv, ↓evI_mxn, clr_nil', neOk_nil', neK_ptr', neOk_cons', St.c, slI, slT, slP, Tk.c, Pt.c, h1, eqz_self, c4, c6, c7, c5, hm, d6, d7, drop_tk _ m hm, hj', hj2, hj, hdrop, hk, frzK, pt0]
theorem locked_is (s : St) (hs : Sm s) (n k : Int) : pureOf (callL tab0 ext0) false 57 [.agg (St.c s), vi n, vi k] = some (.tup [.agg (Pt.c ((rawS s n k).getD pt0)), vb (lockS s n k).isSome]) := by
  rw [rawS_lock]
  rcases (Bool.eq_false_or_eq_true (thereS s n)).symm with ht | ht
  · have e : rawS s n k = none := by unfold rawS; rw [if_neg (by simp [ht])]
    rw [e]
    by_cases c1 : (chk s).2 = 0
    · exact locked_no1 s hs n k ht c1
    · exact locked_no2 s hs n k c1
  obtain ⟨g, h0, hn⟩ := (thereS_iff s n).1 ht
  have c1 := (chk_good s).2 g
  obtain ⟨m, rfl⟩ := nat_of n h0
  have hm : m < s.tasks.length := by omega
  by_cases hk0 : k < 0
  · have e : rawS s m k = none := by unfold rawS; rw [if_neg (by omega)]
    rw [e]
    exact locked_neg s hs m k c1 hm hk0
  obtain ⟨j, rfl⟩ := nat_of k (by omega)
  have e : rawS s m j = s.tasks[m].parts[j]? := by unfold rawS; rw [if_pos ⟨ht, by omega⟩]; simp [hm]
  rw [e]
  rcases Decidable.em (j < s.tasks[m].parts.length) with hj | hj
  · rw [List.getElem?_eq_getElem hj, locked_hit s hs m j c1 hm hj]
    simp only [Option.filter_some, Option.getD_some]
    split
    · next h => rw [h]; rfl
    · next h => rw [(Bool.not_eq_true _).mp h]; rfl
  · rw [List.getElem?_eq_none (by omega)]
    exact locked_out s hs m j c1 hm hj
theorem fair_is (s : St) (hs : Sm s) (n k : Int) : Ans (ansO (fairS s n k)) [] (callL tab0 ext0 44 [.agg (St.c s), vi n, vi k] []) := by
  rw [callL_tab _ _ rfl tab44 rfl]
  have h1 := locked_is s hs n k
  unfold fairS
  rw [rawS_lock] at h1 ⊢
  cases hr : (rawS s n k).filter fun p => eqz p.kind 3 with
  | none =>
    rw [hr] at h1
    simp only [St.c, slI, slT, Pt.c, Option.isSome_none] at h1
    simp [C44, push_cast, -Int.not_lt, -Int.not_le, ↓evI_call, ↓evI_calli, ↓evI_calln, ↓evI_callz, ↓evI_callv, ↓evI_mxn, St.c, slI, slT, h1]
    exact Ans.nil rfl
  | some p =>
    have hl : lockS s n k = some p := by rw [rawS_lock]; exact hr
    obtain ⟨g, m, j, hm, hj, en, ek, ep, hk⟩ := lockS_some hl
    have hraw : rawS s n k = some p := (Option.filter_eq_some_iff.1 hr).1
    rw [hr, hraw] at h1
    have ht : thereS s n = true := (thereS_iff s n).2 ⟨g, by omega, by omega⟩
    have h2 := oth_is s hs n
    rw [if_pos ht] at h2
    have hlen := othP_len s n s.tasks.length
    have hb := othSum_bounds g n
    have hts := hs.tasks
    have h3 := pure_vi (k := false) (sumT_is (othP s n s.tasks.length) (othP s n s.tasks.length).length (othP_b g n _) (by omega))
    rw [sumTop_all _ _ (Int.le_refl _), othP_sum] at h3
    have e : sumN (othF s n) s.tasks.length = othSum s n := rfl
    rw [e] at h3
    have hp : 1 ≤ p.len ∧ p.len ≤ 60 := by rw [ep]; exact (g.pts (List.getElem_mem hm)).2 _ (List.getElem_mem hj)
    have hw : IntKind.wrap .i64 (p.len + othSum s n) = p.len + othSum s n := wrap_in _ (by omega) (by omega)
    generalize othP s n s.tasks.length = q at h2 h3
    generalize othSum s n = w at h3 hw ⊢
    simp only [St.c, slI, slT, Pt.c, Option.getD_some, Option.isSome_some] at h1 h2 h3
    simp [C44, push_cast, -Int.not_lt, -Int.not_le, ↓evI_call, ↓evI_calli, ↓evI_calln, ↓evI_callz, ↓evI_callv, ↓evI_mxn, St.c, slI, slT, h1, h2, h3, hw]
    exact Ans.nil rfl
end Go.Proofs.YtgndbkeiickihaaEv
/- The reference's waits in one line: others, Ahead, Fair. -/
namespace Go.Proofs.YtgndbkeiickihaaEv
open Go
set_option maxHeartbeats 2000000
/-- How many of these are above zero. -/
def posN : List Int → Nat
  | [] => 0
  | a :: l => (if 0 < a then 1 else 0) + posN l
theorem posN_append (a b : List Int) : posN (a ++ b) = posN a + posN b := by
  induction a with
  | nil => simp [posN]
  | cons x a ih => simp only [List.cons_append, posN, ih]; omega
theorem posN_le : ∀ l, posN l ≤ l.length
  | [] => Nat.le_refl _
  | a :: l => by have := posN_le l; simp only [posN, List.length_cons]; split <;> omega
theorem posN_take (l : List Int) (i : Nat) (hi : i < l.length) : posN (l.take (i + 1)) = posN (l.take i) + (if 0 < l[i] then 1 else 0) := by
  rw [List.take_succ_eq_append_getElem hi, posN_append]; simp [posN]
theorem oth_pos {s : St} (g : Good s) (n : Int) : ∀ i, posN (othR s n i) = (othP s n i).length
  | 0 => rfl
  | i + 1 => by
    have ih := oth_pos g n i
    have hb := longAt_bounds g i
    rw [othR, othP]
    by_cases h1 : eqz (i : Int) n = true
    · rw [if_pos h1, if_pos (.inl h1), ih]
    · rw [if_neg h1, posN_append, ih]
      by_cases h2 : eqz (longAt s i) 0 = true
      · rw [if_pos (.inr h2)]; simp [eqz] at h2; simp [posN, h2]
      · rw [if_neg (by rintro (h | h); exact h1 h; exact h2 h)]; simp [eqz] at h2; simp [posN]; omega
end Go.Proofs.YtgndbkeiickihaaEv
