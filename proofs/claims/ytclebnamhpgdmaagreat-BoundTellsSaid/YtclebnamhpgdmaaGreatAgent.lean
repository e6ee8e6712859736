/- package agent. -/
import Derived.Test.YtclebnamhpgdmaaGreatDem
import Derived.Test.YtclebnamhpgdmaaGreatSums
import Derived.Test.YtclebnamhpgdmaaGreatCnt
set_option linter.unusedSimpArgs false
set_option linter.unusedVariables false
namespace Go.Proofs.YtclebnamhpgdmaaGreatEv
open Go
set_option maxHeartbeats 2000000
def prioAt (s : St) (i : Nat) : Int := (s.tasks[i]?.map Tk.prio).getD 0
def perAt (s : St) (i : Nat) : Int := (s.tasks[i]?.map Tk.period).getD 0
theorem prioAt_is (s : St) (i : Nat) (h : i < s.tasks.length) : prioAt s i = s.tasks[i].prio := by unfold prioAt; simp [h]
theorem perAt_is (s : St) (i : Nat) (h : i < s.tasks.length) : perAt s i = s.tasks[i].period := by unfold perAt; simp [h]
def lowF (s : St) (m : Nat) (c : Int) (i : Nat) : Int := if prioAt s m < prioAt s i then mostS s i c else 0
def lowerS (s : St) (n c : Int) : Int := if thereS s n = true then maxN (lowF s n.toNat c) s.tasks.length else 0
theorem most_bounds (s : St) (n c : Int) : 0 ≤ mostS s n c ∧ mostS s n c ≤ 60 := by
  unfold mostS
  exact ⟨maxL_nonneg _ _, maxL_le _ _ (by omega) _ fun x hx => by have := (homedS_pts s n c).2 x hx; simp only [id]; omega⟩
theorem at_bounds (s : St) (n c : Int) : 0 ≤ atS s n c ∧ atS s n c ≤ 600 := by
  have := sum60 (homedS_pts s n c) (homedS s n c).length
  rw [List.take_length] at this; exact this
theorem low_bounds (s : St) (m : Nat) (c : Int) (i : Nat) : 0 ≤ lowF s m c i ∧ lowF s m c i ≤ 60 := by
  have := most_bounds s i c
  unfold lowF; split <;> omega
theorem lower_bounds (s : St) (n c : Int) : 0 ≤ lowerS s n c ∧ lowerS s n c ≤ 60 := by
  unfold lowerS
  split
  · exact ⟨maxN_nonneg _ _, maxN_le (by omega) _ fun i _ => (low_bounds ..).2⟩
  · omega
theorem low_step (s : St) (m : Nat) (c : Int) (i : Nat) : maxN (lowF s m c) (i + 1) = if prioAt s m < prioAt s i then (if maxN (lowF s m c) i < mostS s i c then mostS s i c else maxN (lowF s m c) i) else maxN (lowF s m c) i := by
  have := maxN_nonneg (lowF s m c) i
  rw [maxN, max_if]
  have h : lowF s m c i = if prioAt s m < prioAt s i then mostS s i c else 0 := rfl
  rw [h]
  by_cases hh : prioAt s m < prioAt s i
  · rw [if_pos hh, if_pos hh]
  · rw [if_neg hh, if_neg hh, if_neg (by omega)]
theorem lower_loop (s : St) (hs : Sm s) (m : Nat) (hm : m < s.tasks.length) (c : Int) :
    ∀ d i (e : Env), i + d = s.tasks.length → (e 1 = vi m ∧ e 2 = vi c ∧ e 3 = .ptr 0 0 ∧ e 7 = vi (maxN (lowF s m c) i) ∧ e 15 = slT s.tasks ∧ e 16 = vi s.tasks.length ∧ e 17 = vi i) → ∃ zz, evL tab0 ext0 0 L90_0 (e, [St.c s]) = some zz ∧ FQ (fun _ => false) ([St.c s]) 0 (fun _ _ => True) (fun e => e 7 = vi (maxN (lowF s m c) s.tasks.length)) i d zz := by
  have hc := hs.tasks
  refine fq_loop (St := fun i e => e 1 = vi m ∧ e 2 = vi c ∧ e 3 = .ptr 0 0 ∧ e 7 = vi (maxN (lowF s m c) i) ∧ e 15 = slT s.tasks ∧ e 16 = vi s.tasks.length ∧ e 17 = vi i) _ _ _ _ _ ?_ ?_
  · rintro e ⟨g0, g1, g2, g3, g4, g5, g6⟩
    exact ⟨_, (go90_0 _ _).trans (by simp [B90_0, push_cast, -Int.not_lt, -Int.not_le, ↓evI_call, ↓evI_calli, ↓evI_callv, ↓evI_mxn, loopIn, loopIn0, keepL, emp, A.dang, A.dangC, g0, g1, g2, g3, g4, g5, g6, slI, slT, slP, St.c, Tk.c]; rfl), by simp [put_at, g3]⟩
  · rintro i e hi ⟨g0, g1, g2, g3, g4, g5, g6⟩
    rw [go90_0]
    have hi' : (i : Int) < (s.tasks.length : Nat) := by omega
    have hw : IntKind.wrap .i64 ((i : Int) + 1) = (i : Int) + 1 := wrap_in _ (by omega) (by omega)
    have hm' : (m : Int) < s.tasks.length := by omega
    have h2 := pure_vi (k := false) (most_is s i c hs.fits)
    rw [low_step, prioAt_is s m hm, prioAt_is s i hi]
    have hle : (decide (s.tasks[i].prio ≤ s.tasks[m].prio)) = !decide (s.tasks[m].prio < s.tasks[i].prio) := by rw [Bool.eq_iff_iff]; simp
    generalize maxN (lowF s m c) i = q at g3 ⊢
    simp only [St.c, slI, slT] at h2
    simp +contextual (maxSteps := 400000) [B90_0, push_cast, -Int.not_lt, -Int.not_le, ↓evI_call, ↓evI_calli, ↓evI_callv, ↓evI_mxn, loopIn, loopIn0, keepL, emp, A.dang, A.dangC, g0, g1, g2, g3, g4, g5, g6, hi, hi', slI, slT, slP, St.c, Tk.c, drop_tk _ i hi, drop_tk _ m hm, hm, hm', hw, h2, foldM, hle]
    (repeat' refine Step.split (fun cc => ?_) (fun cc => ?_)) <;> first | (refine Step.ret0 ?_ ?_ <;> first | (simp_all [put_at, eqz]; done) | (simp [put_at, *]; done) | ((try simp [eqz] at *); omega)) | (refine Step.go ?_ ?_ <;> first | (simp_all [put_at, eqz]; done) | (simp [put_at, *]; done) | ((try simp [eqz] at *); omega)) | (refine Step.ret _ ?_ ?_ <;> first | (simp_all [put_at, eqz]; done) | (simp [put_at, *]; done) | ((try simp [eqz] at *); omega)) | (refine Step.goJ _ (by simp) ?_ ?_ <;> first | (simp_all [put_at, eqz]; done) | (simp [put_at, *]; done) | ((try simp [eqz] at *); omega))
theorem lower_is (s : St) (hs : Sm s) (n c : Int) : Ans (vi (lowerS s n c)) [] (callL tab0 ext0 90 [.agg (St.c s), vi n, vi c] []) := by
  rw [callL_tab _ _ rfl tab90 rfl]
  have h1 := pure_vb (k := false) (there_89 s n hs.fits)
  unfold lowerS
  rcases (Bool.eq_false_or_eq_true (thereS s n)).symm with ht | ht
  · rw [ht] at h1 ⊢
    simp only [St.c, slI, slT] at h1
    simp [C90, push_cast, -Int.not_lt, -Int.not_le, ↓evI_call, ↓evI_calli, ↓evI_callv, ↓evI_mxn, St.c, slI, slT, h1]
    exact Ans.nil rfl
  · rw [ht] at h1 ⊢
    obtain ⟨g, h0, hn⟩ := (thereS_iff s n).1 ht
    obtain ⟨m, rfl⟩ := nat_of n h0
    have hm : m < s.tasks.length := by omega
    have hlp := lower_loop s hs m hm c s.tasks.length 0
    simp only [St.c, slI, slT] at h1 hlp
    simp [C90, push_cast, -Int.not_lt, -Int.not_le, ↓evI_call, ↓evI_calli, ↓evI_callv, ↓evI_mxn, St.c, slI, slT, h1]
    refine behindP (P := fun r => Ans _ [] r) (hlp _ (by omega) (by simp [put_at, maxN])) ?_
    intro a h
    obtain ⟨e', rfl, hx⟩ := h.never; clear h; have h := hx
    simp [push_cast, -Int.not_lt, -Int.not_le, ↓evI_call, ↓evI_calli, ↓evI_callv, ↓evI_mxn, h]
    exact Ans.nil rfl
/-! ### higher ones -/
def bAt (bs : List Int) (i : Nat) : Int := bs.getD i 0
theorem bAt_is (bs : List Int) (i : Nat) (h : i < bs.length) : bAt bs i = bs[i] := by unfold bAt; simp [h]
def hiF (s : St) (bs : List Int) (m : Nat) (c w : Int) (i : Nat) : Int := if prioAt s i < prioAt s m then workS w (bAt bs i) (perAt s i) (atS s i c) else 0
def higherS (s : St) (bs : List Int) (n c w : Int) : Int := if thereS s n = true ∧ bs.length = s.tasks.length then min (sumN (hiF s bs n.toNat c w) s.tasks.length) 1000000 else 0
theorem work_le (w b p e : Int) : 0 ≤ workS w b p e ∧ workS w b p e ≤ 1000000 := by
  unfold workS
  have := Int.mul_nonneg (jobs_le w b p).1 (show 0 ≤ max e 0 by omega)
  omega
theorem hi_bounds (s bs m c w i) : 0 ≤ hiF s bs m c w i ∧ hiF s bs m c w i ≤ 1000000 := by
  unfold hiF; split
  · exact work_le ..
  · omega
theorem hi_sum (s bs m c w) (i : Nat) (h : i ≤ 10) : 0 ≤ sumN (hiF s bs m c w) i ∧ sumN (hiF s bs m c w) i ≤ 10000000 := by
  have h1 := sumN_ge (f := hiF s bs m c w) i fun j _ => (hi_bounds ..).1
  have h2 := sumN_le (f := hiF s bs m c w) (b := 1000000) i fun j _ => (hi_bounds ..).2
  omega
theorem higher_bounds (s bs n c w) : 0 ≤ higherS s bs n c w ∧ higherS s bs n c w ≤ 1000000 := by
  unfold higherS
  split
  · have h1 := sumN_ge (f := hiF s bs n.toNat c w) s.tasks.length fun j _ => (hi_bounds ..).1
    omega
  · omega
theorem hi_step (s : St) (bs : List Int) (m : Nat) (c w : Int) (i : Nat) : sumN (hiF s bs m c w) (i + 1) = if prioAt s i < prioAt s m then sumN (hiF s bs m c w) i + workS w (bAt bs i) (perAt s i) (atS s i c) else sumN (hiF s bs m c w) i := by
  rw [sumN]
  have h : hiF s bs m c w i = if prioAt s i < prioAt s m then workS w (bAt bs i) (perAt s i) (atS s i c) else 0 := rfl
  rw [h]; split <;> omega
theorem higher_loop (s : St) (hs : Sm s) (g : Good s) (bs : List Int) (hb : ∀ b ∈ bs, I64' b) (hl : bs.length = s.tasks.length) (m : Nat) (hm : m < s.tasks.length) (c w : Int) (hw0 : I64' w) :
    ∀ d i (e : Env), i + d = s.tasks.length → (e 1 = slI bs ∧ e 2 = vi m ∧ e 3 = vi c ∧ e 4 = vi w ∧ e 5 = .ptr 0 0 ∧ e 11 = vi (sumN (hiF s bs m c w) i) ∧ e 27 = slT s.tasks ∧ e 28 = vi s.tasks.length ∧ e 29 = vi i) → ∃ zz, evL tab0 ext0 0 L91_0 (e, [St.c s]) = some zz ∧ FQ (fun _ => false) ([St.c s]) 0 (fun _ _ => True) (fun e => e 11 = vi (sumN (hiF s bs m c w) s.tasks.length)) i d zz := by
  have hc := hs.tasks
  refine fq_loop (St := fun i e => e 1 = slI bs ∧ e 2 = vi m ∧ e 3 = vi c ∧ e 4 = vi w ∧ e 5 = .ptr 0 0 ∧ e 11 = vi (sumN (hiF s bs m c w) i) ∧ e 27 = slT s.tasks ∧ e 28 = vi s.tasks.length ∧ e 29 = vi i) _ _ _ _ _ ?_ ?_
  · rintro e ⟨g0, g1, g2, g3, g4, g5, g6, g7, g8⟩
    exact ⟨_, (go91_0 _ _).trans (by simp [B91_0, push_cast, -Int.not_lt, -Int.not_le, ↓evI_call, ↓evI_calli, ↓evI_callv, ↓evI_mxn, loopIn, loopIn0, keepL, emp, A.dang, A.dangC, g0, g1, g2, g3, g4, g5, g6, g7, g8, slI, slT, slP, St.c, Tk.c]; rfl), by simp [put_at, g5]⟩
  · rintro i e hi ⟨g0, g1, g2, g3, g4, g5, g6, g7, g8⟩
    rw [go91_0]
    have hi' : (i : Int) < (s.tasks.length : Nat) := by omega
    have hw : IntKind.wrap .i64 ((i : Int) + 1) = (i : Int) + 1 := wrap_in _ (by omega) (by omega)
    have hm' : (m : Int) < s.tasks.length := by omega
    have hi3 : i < bs.length := by omega
    have hi4 : (i : Int) < bs.length := by omega
    have hg := g.task _ (List.getElem_mem hi)
    have ha := at_bounds s i c
    have h2 := pure_vi (k := false) (at_is s i c hs.fits)
    have h3 := pure_vi (k := false) (work_is w bs[i] s.tasks[i].period (atS s i c) hw0 (hb _ (List.getElem_mem hi3)) hg.period.2 (by omega))
    have hs2 := hi_sum s bs m c w i (by omega)
    rw [hi_step, prioAt_is s m hm, prioAt_is s i hi, bAt_is bs i hi3, perAt_is s i hi]
    have hwk := work_le w bs[i] s.tasks[i].period (atS s i c)
    generalize workS w bs[i] s.tasks[i].period (atS s i c) = k at h3 hwk ⊢
    generalize sumN (hiF s bs m c w) i = q at g5 hs2 ⊢
    have hw3 : IntKind.wrap .i64 (q + k) = q + k := wrap_i _ (by omega) (by omega)
    simp only [St.c, slI, slT] at h2
    simp +contextual (maxSteps := 400000) [B91_0, push_cast, -Int.not_lt, -Int.not_le, ↓evI_call, ↓evI_calli, ↓evI_callv, ↓evI_mxn, loopIn, loopIn0, keepL, emp, A.dang, A.dangC, g0, g1, g2, g3, g4, g5, g6, g7, g8, hi, hi', slI, slT, slP, St.c, Tk.c, drop_tk _ i hi, drop_tk _ m hm, drop_int _ i hi3, hm, hm', hi4, hw, h2, h3, hw3]
    (repeat' refine Step.split (fun cc => ?_) (fun cc => ?_)) <;> first | (refine Step.ret0 ?_ ?_ <;> first | (simp_all [put_at, eqz]; done) | (simp [put_at, *]; done) | ((try simp [eqz] at *); omega)) | (refine Step.go ?_ ?_ <;> first | (simp_all [put_at, eqz]; done) | (simp [put_at, *]; done) | ((try simp [eqz] at *); omega)) | (refine Step.ret _ ?_ ?_ <;> first | (simp_all [put_at, eqz]; done) | (simp [put_at, *]; done) | ((try simp [eqz] at *); omega)) | (refine Step.goJ _ (by simp) ?_ ?_ <;> first | (simp_all [put_at, eqz]; done) | (simp [put_at, *]; done) | ((try simp [eqz] at *); omega))
theorem higher_is (s : St) (hs : Sm s) (bs : List Int) (hb : ∀ b ∈ bs, I64' b) (n c w : Int) (hw0 : I64' w) : Ans (vi (higherS s bs n c w)) [] (callL tab0 ext0 91 [.agg (St.c s), slI bs, vi n, vi c, vi w] []) := by
  rw [callL_tab _ _ rfl tab91 rfl]
  have h1 := pure_vb (k := false) (there_89 s n hs.fits)
  unfold higherS
  by_cases hl : bs.length = s.tasks.length
  · have hl' : eqz (bs.length : Int) s.tasks.length = true := by simp [eqz, hl]
    rcases (Bool.eq_false_or_eq_true (thereS s n)).symm with ht | ht
    · rw [ht] at h1 ⊢
      simp only [St.c, slI, slT] at h1
      simp [C91, push_cast, -Int.not_lt, -Int.not_le, ↓evI_call, ↓evI_calli, ↓evI_callv, ↓evI_mxn, St.c, slI, slT, h1]
      exact Ans.nil rfl
    · rw [ht] at h1 ⊢
      obtain ⟨g, h0, hn⟩ := (thereS_iff s n).1 ht
      obtain ⟨m, rfl⟩ := nat_of n h0
      have hm : m < s.tasks.length := by omega
      have hlp := higher_loop s hs g bs hb hl m hm c w hw0 s.tasks.length 0
      simp only [St.c, slI, slT] at h1 hlp
      simp [C91, push_cast, -Int.not_lt, -Int.not_le, ↓evI_call, ↓evI_calli, ↓evI_callv, ↓evI_mxn, St.c, slI, slT, h1, hl']
      refine behindP (P := fun r => Ans _ [] r) (hlp _ (by omega) (by simp [put_at, sumN])) ?_
      intro a h
      obtain ⟨e', rfl, hx⟩ := h.never; clear h; have h := hx
      simp [push_cast, -Int.not_lt, -Int.not_le, ↓evI_call, ↓evI_calli, ↓evI_callv, ↓evI_mxn, h, minR, hl]
      exact Ans.nil rfl
  · have hl' : eqz (bs.length : Int) s.tasks.length = false := by simp [eqz]; omega
    rw [if_neg (by simp [hl])]
    simp only [St.c, slI, slT] at h1
    rcases (Bool.eq_false_or_eq_true (thereS s n)) with ht | ht <;> rw [ht] at h1 <;> simp [C91, push_cast, -Int.not_lt, -Int.not_le, ↓evI_call, ↓evI_calli, ↓evI_callv, ↓evI_mxn, St.c, slI, slT, h1, hl'] <;> exact Ans.nil rfl
end Go.Proofs.YtclebnamhpgdmaaGreatEv
