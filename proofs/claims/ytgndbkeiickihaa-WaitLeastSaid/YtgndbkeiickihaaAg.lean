/- package agent. -/
import Derived.Test.YtgndbkeiickihaaGd
import Derived.Test.YtgndbkeiickihaaCnt
set_option linter.unusedSimpArgs false
set_option linter.unusedVariables false
namespace Go.Proofs.YtgndbkeiickihaaEv
open Go
set_option maxHeartbeats 2000000
def prioAt (s : St) (i : Nat) : Int := (s.tasks[i]?.map Tk.prio).getD 0
def perAt (s : St) (i : Nat) : Int := (s.tasks[i]?.map Tk.period).getD 0
theorem prioAt_is (s : St) (i : Nat) (h : i < s.tasks.length) : prioAt s i = s.tasks[i].prio := by unfold prioAt; simp [h]
theorem perAt_is (s : St) (i : Nat) (h : i < s.tasks.length) : perAt s i = s.tasks[i].period := by unfold perAt; simp [h]
def lowF (s : St) (m : Nat) (c : Int) (i : Nat) : Int := if prioAt s m < prioAt s i then mostS s i c else 0
def lowerS (s : St) (n c : Int) : Int := if thereS s n = true then maxN (lowF s n.toNat c) s.tasks.length else 0
theorem most_bounds (s : St) (n c : Int) : 0 ≤ mostS s n c ∧ mostS s n c ≤ 60 := by
  unfold mostS
  exact ⟨maxL_nonneg _ _, maxL_le _ _ (by omega) _ fun x hx => by have := (homedS_pts s n c).2 x hx; simp only [id]; omega⟩
theorem at_bounds (s : St) (n c : Int) : 0 ≤ atS s n c ∧ atS s n c ≤ 600 := by
  have := sum60 (homedS_pts s n c) (homedS s n c).length
  rw [List.take_length] at this; exact this
theorem low_bounds (s : St) (m : Nat) (c : Int) (i : Nat) : 0 ≤ lowF s m c i ∧ lowF s m c i ≤ 60 := by
  have := most_bounds s i c
  unfold lowF; split <;> omega
theorem lower_bounds (s : St) (n c : Int) : 0 ≤ lowerS s n c ∧ lowerS s n c ≤ 60 := by
  unfold lowerS
  split
  · exact ⟨maxN_nonneg _ _, maxN_le (by omega) _ fun i _ => (low_bounds ..).2⟩
  · omega
theorem low_step (s : St) (m : Nat) (c : Int) (i : Nat) : maxN (lowF s m c) (i + 1) = if prioAt s m < prioAt s i then (if maxN (lowF s m c) i < mostS s i c then mostS s i c else maxN (lowF s m c) i) else maxN (lowF s m c) i := by
  have := maxN_nonneg (lowF s m c) i
  rw [maxN, max_if]
  have h : lowF s m c i = if prioAt s m < prioAt s i then mostS s i c else 0 := rfl
  rw [h]
  by_cases hh : prioAt s m < prioAt s i
  · rw [if_pos hh, if_pos hh]
  · rw [if_neg hh, if_neg hh, if_neg (by omega)]
theorem lower_loop (s : St) (hs : Sm s) (m : Nat) (hm : m < s.tasks.length) (c : Int) :
    ∀ d i (e : Env), i + d = s.tasks.length → (e 1 = vi m ∧ e 2 = vi c ∧ e 3 = .ptr 0 0 ∧ e 7 = vi (maxN (lowF s m c) i) ∧ e 15 = slT s.tasks ∧ e 16 = vi s.tasks.length ∧ e 17 = vi i) → ∃ zz, evL tab0 ext0 0 L60_0 (e, [St.c s]) = some zz ∧ FQ (fun _ => false) ([St.c s]) 0 (fun _ _ => True) (fun e => e 7 = vi (maxN (lowF s m c) s.tasks.length)) i d zz := by
  have hc := hs.tasks
  refine fq_loop (St := fun i e => e 1 = vi m ∧ e 2 = vi c ∧ e 3 = .ptr 0 0 ∧ e 7 = vi (maxN (lowF s m c) i) ∧ e 15 = slT s.tasks ∧ e 16 = vi s.tasks.length ∧ e 17 = vi i) _ _ _ _ _ ?_ ?_
  · rintro e ⟨g0, g1, g2, g3, g4, g5, g6⟩
    exact ⟨_, (go60_0 _ _).trans (by simp [B60_0, push_cast, -Int.not_lt, -Int.not_le, ↓evI_call, ↓evI_calli, ↓evI_calln, ↓evI_callz, ↓evI_callv, ↓evI_mxn, loopIn, loopIn0, keepL, emp, A.dang, A.dangC, g0, g1, g2, g3, g4, g5, g6, slI, slT, slP, St.c, Tk.c]; rfl), by simp [put_at, g3]⟩
  · rintro i e hi ⟨g0, g1, g2, g3, g4, g5, g6⟩
    rw [go60_0]
    have hi' : (i : Int) < (s.tasks.length : Nat) := by omega
    have hw : IntKind.wrap .i64 ((i : Int) + 1) = (i : Int) + 1 := wrap_in _ (by omega) (by omega)
    have hm' : (m : Int) < s.tasks.length := by omega
    have h2 := pure_vi (k := false) (most_is s i c hs.fits)
    rw [low_step, prioAt_is s m hm, prioAt_is s i hi]
    have hle : (decide (s.tasks[i].prio ≤ s.tasks[m].prio)) = !decide (s.tasks[m].prio < s.tasks[i].prio) := by rw [Bool.eq_iff_iff]; simp
    generalize maxN (lowF s m c) i = q at g3 ⊢
    simp only [St.c, slI, slT] at h2
    simp +contextual (maxSteps := 400000) [B60_0, push_cast, -Int.not_lt, -Int.not_le, ↓evI_call, ↓evI_calli, ↓evI_calln, ↓evI_callz, ↓evI_callv, ↓evI_mxn, loopIn, loopIn0, keepL, emp, A.dang, A.dangC, g0, g1, g2, g3, g4, g5, g6, hi, hi', slI, slT, slP, St.c, Tk.c, drop_tk _ i hi, drop_tk _ m hm, hm, hm', hw, h2, foldM, hle]
    (repeat' refine Step.split (fun cc => ?_) (fun cc => ?_)) <;> first | (refine Step.ret0 ?_ ?_ <;> first | (simp_all [put_at, eqz]; done) | (simp [put_at, *]; done) | ((try simp [eqz] at *); omega)) | (refine Step.go ?_ ?_ <;> first | (simp_all [put_at, eqz]; done) | (simp [put_at, *]; done) | ((try simp [eqz] at *); omega)) | (refine Step.ret _ ?_ ?_ <;> first | (simp_all [put_at, eqz]; done) | (simp [put_at, *]; done) | ((try simp [eqz] at *); omega)) | (refine Step.goJ _ (by simp) ?_ ?_ <;> first | (simp_all [put_at, eqz]; done) | (simp [put_at, *]; done) | ((try simp [eqz] at *); omega))
theorem lower_is (s : St) (hs : Sm s) (n c : Int) : Ans (vi (lowerS s n c)) [] (callL tab0 ext0 60 [.agg (St.c s), vi n, vi c] []) := by
  rw [callL_tab _ _ rfl tab60 rfl]
  have h1 := pure_vb (k := false) (there_59 s n hs.fits)
  unfold lowerS
  rcases (Bool.eq_false_or_eq_true (thereS s n)).symm with ht | ht
  · rw [ht] at h1 ⊢
    simp only [St.c, slI, slT] at h1
    simp [C60, push_cast, -Int.not_lt, -Int.not_le, ↓evI_call, ↓evI_calli, ↓evI_calln, ↓evI_callz, ↓evI_callv, ↓evI_mxn, St.c, slI, slT, h1]
    exact Ans.nil rfl
  · rw [ht] at h1 ⊢
    obtain ⟨g, h0, hn⟩ := (thereS_iff s n).1 ht
    obtain ⟨m, rfl⟩ := nat_of n h0
    have hm : m < s.tasks.length := by omega
    have hlp := lower_loop s hs m hm c s.tasks.length 0
    simp only [St.c, slI, slT] at h1 hlp
    simp [C60, push_cast, -Int.not_lt, -Int.not_le, ↓evI_call, ↓evI_calli, ↓evI_calln, ↓evI_callz, ↓evI_callv, ↓evI_mxn, St.c, slI, slT, h1]
    refine behindP (P := fun r => Ans _ [] r) (hlp _ (by omega) (by simp [put_at, maxN])) ?_
    intro a h
    obtain ⟨e', rfl, hx⟩ := h.never; clear h; have h := hx
    simp [push_cast, -Int.not_lt, -Int.not_le, ↓evI_call, ↓evI_calli, ↓evI_calln, ↓evI_callz, ↓evI_callv, ↓evI_mxn, h]
    exact Ans.nil rfl
/-! ### higher ones -/
def bAt (bs : List Int) (i : Nat) : Int := bs.getD i 0
theorem bAt_is (bs : List Int) (i : Nat) (h : i < bs.length) : bAt bs i = bs[i] := by unfold bAt; simp [h]
def hiF (s : St) (bs : List Int) (m : Nat) (c w : Int) (i : Nat) : Int := if prioAt s i < prioAt s m then workS w (bAt bs i) (perAt s i) (atS s i c) else 0
def higherS (s : St) (bs : List Int) (n c w : Int) : Int := if thereS s n = true ∧ bs.length = s.tasks.length then min (sumN (hiF s bs n.toNat c w) s.tasks.length) 1000000 else 0
theorem work_le (w b p e : Int) : 0 ≤ workS w b p e ∧ workS w b p e ≤ 1000000 := by
  unfold workS
  have := Int.mul_nonneg (jobs_le w b p).1 (show 0 ≤ max e 0 by omega)
  omega
theorem hi_bounds (s bs m c w i) : 0 ≤ hiF s bs m c w i ∧ hiF s bs m c w i ≤ 1000000 := by
  unfold hiF; split
  · exact work_le ..
  · omega
theorem hi_sum (s bs m c w) (i : Nat) (h : i ≤ 10) : 0 ≤ sumN (hiF s bs m c w) i ∧ sumN (hiF s bs m c w) i ≤ 10000000 := by
  have h1 := sumN_ge (f := hiF s bs m c w) i fun j _ => (hi_bounds ..).1
  have h2 := sumN_le (f := hiF s bs m c w) (b := 1000000) i fun j _ => (hi_bounds ..).2
  omega
theorem higher_bounds (s bs n c w) : 0 ≤ higherS s bs n c w ∧ higherS s bs n c w ≤ 1000000 := by
  unfold higherS
  split
  · have h1 := sumN_ge (f := hiF s bs n.toNat c w) s.tasks.length fun j _ => (hi_bounds ..).1
    omega
  · omega
theorem hi_step (s : St) (bs : List Int) (m : Nat) (c w : Int) (i : Nat) : sumN (hiF s bs m c w) (i + 1) = if prioAt s i < prioAt s m then sumN (hiF s bs m c w) i + workS w (bAt bs i) (perAt s i) (atS s i c) else sumN (hiF s bs m c w) i := by
  rw [sumN]
  have h : hiF s bs m c w i = if prioAt s i < prioAt s m then workS w (bAt bs i) (perAt s i) (atS s i c) else 0 := rfl
  rw [h]; split <;> omega
theorem higher_loop (s : St) (hs : Sm s) (g : Good s) (bs : List Int) (hb : ∀ b ∈ bs, I64' b) (hl : bs.length = s.tasks.length) (m : Nat) (hm : m < s.tasks.length) (c w : Int) (hw0 : I64' w) :
    ∀ d i (e : Env), i + d = s.tasks.length → (e 1 = slI bs ∧ e 2 = vi m ∧ e 3 = vi c ∧ e 4 = vi w ∧ e 5 = .ptr 0 0 ∧ e 11 = vi (sumN (hiF s bs m c w) i) ∧ e 27 = slT s.tasks ∧ e 28 = vi s.tasks.length ∧ e 29 = vi i) → ∃ zz, evL tab0 ext0 0 L61_0 (e, [St.c s]) = some zz ∧ FQ (fun _ => false) ([St.c s]) 0 (fun _ _ => True) (fun e => e 11 = vi (sumN (hiF s bs m c w) s.tasks.length)) i d zz := by
  have hc := hs.tasks
  refine fq_loop (St := fun i e => e 1 = slI bs ∧ e 2 = vi m ∧ e 3 = vi c ∧ e 4 = vi w ∧ e 5 = .ptr 0 0 ∧ e 11 = vi (sumN (hiF s bs m c w) i) ∧ e 27 = slT s.tasks ∧ e 28 = vi s.tasks.length ∧ e 29 = vi i) _ _ _ _ _ ?_ ?_
  · rintro e ⟨g0, g1, g2, g3, g4, g5, g6, g7, g8⟩
    exact ⟨_, (go61_0 _ _).trans (by simp [B61_0, push_cast, -Int.not_lt, -Int.not_le, ↓evI_call, ↓evI_calli, ↓evI_calln, ↓evI_callz, ↓evI_callv, ↓evI_mxn, loopIn, loopIn0, keepL, emp, A.dang, A.dangC, g0, g1, g2, g3, g4, g5, g6, g7, g8, slI, slT, slP, St.c, Tk.c]; rfl), by simp [put_at, g5]⟩
  · rintro i e hi ⟨g0, g1, g2, g3, g4, g5, g6, g7, g8⟩
    rw [go61_0]
    have hi' : (i : Int) < (s.tasks.length : Nat) := by omega
    have hw : IntKind.wrap .i64 ((i : Int) + 1) = (i : Int) + 1 := wrap_in _ (by omega) (by omega)
    have hm' : (m : Int) < s.tasks.length := by omega
    have hi3 : i < bs.length := by omega
    have hi4 : (i : Int) < bs.length := by omega
    have hg := g.task _ (List.getElem_mem hi)
    have ha := at_bounds s i c
    have h2 := pure_vi (k := false) (at_is s i c hs.fits)
    have h3 := pure_vi (k := false) (work_is w bs[i] s.tasks[i].period (atS s i c) hw0 (hb _ (List.getElem_mem hi3)) hg.period.2 (by omega))
    have hs2 := hi_sum s bs m c w i (by omega)
    rw [hi_step, prioAt_is s m hm, prioAt_is s i hi, bAt_is bs i hi3, perAt_is s i hi]
    have hwk := work_le w bs[i] s.tasks[i].period (atS s i c)
    generalize workS w bs[i] s.tasks[i].period (atS s i c) = k at h3 hwk ⊢
    generalize sumN (hiF s bs m c w) i = q at g5 hs2 ⊢
    have hw3 : IntKind.wrap .i64 (q + k) = q + k := wrap_i _ (by omega) (by omega)
    simp only [St.c, slI, slT] at h2
    simp +contextual (maxSteps := 400000) [B61_0, push_cast, -Int.not_lt, -Int.not_le, ↓evI_call, ↓evI_calli, ↓evI_calln, ↓evI_callz, ↓evI_callv, ↓evI_mxn, loopIn, loopIn0, keepL, emp, A.dang, A.dangC, g0, g1, g2, g3, g4, g5, g6, g7, g8, hi, hi', slI, slT, slP, St.c, Tk.c, drop_tk _ i hi, drop_tk _ m hm, drop_int _ i hi3, hm, hm', hi4, hw, h2, h3, hw3]
    (repeat' refine Step.split (fun cc => ?_) (fun cc => ?_)) <;> first | (refine Step.ret0 ?_ ?_ <;> first | (simp_all [put_at, eqz]; done) | (simp [put_at, *]; done) | ((try simp [eqz] at *); omega)) | (refine Step.go ?_ ?_ <;> first | (simp_all [put_at, eqz]; done) | (simp [put_at, *]; done) | ((try simp [eqz] at *); omega)) | (refine Step.ret _ ?_ ?_ <;> first | (simp_all [put_at, eqz]; done) | (simp [put_at, *]; done) | ((try simp [eqz] at *); omega)) | (refine Step.goJ _ (by simp) ?_ ?_ <;> first | (simp_all [put_at, eqz]; done) | (simp [put_at, *]; done) | ((try simp [eqz] at *); omega))
theorem higher_is (s : St) (hs : Sm s) (bs : List Int) (hb : ∀ b ∈ bs, I64' b) (n c w : Int) (hw0 : I64' w) : Ans (vi (higherS s bs n c w)) [] (callL tab0 ext0 61 [.agg (St.c s), slI bs, vi n, vi c, vi w] []) := by
  rw [callL_tab _ _ rfl tab61 rfl]
  have h1 := pure_vb (k := false) (there_59 s n hs.fits)
  unfold higherS
  by_cases hl : bs.length = s.tasks.length
  · have hl' : eqz (bs.length : Int) s.tasks.length = true := by simp [eqz, hl]
    rcases (Bool.eq_false_or_eq_true (thereS s n)).symm with ht | ht
    · rw [ht] at h1 ⊢
      simp only [St.c, slI, slT] at h1
      simp [C61, push_cast, -Int.not_lt, -Int.not_le, ↓evI_call, ↓evI_calli, ↓evI_calln, ↓evI_callz, ↓evI_callv, ↓evI_mxn, St.c, slI, slT, h1]
      exact Ans.nil rfl
    · rw [ht] at h1 ⊢
      obtain ⟨g, h0, hn⟩ := (thereS_iff s n).1 ht
      obtain ⟨m, rfl⟩ := nat_of n h0
      have hm : m < s.tasks.length := by omega
      have hlp := higher_loop s hs g bs hb hl m hm c w hw0 s.tasks.length 0
      simp only [St.c, slI, slT] at h1 hlp
      simp [C61, push_cast, -Int.not_lt, -Int.not_le, ↓evI_call, ↓evI_calli, ↓evI_calln, ↓evI_callz, ↓evI_callv, ↓evI_mxn, St.c, slI, slT, h1, hl']
      refine behindP (P := fun r => Ans _ [] r) (hlp _ (by omega) (by simp [put_at, sumN])) ?_
      intro a h
      obtain ⟨e', rfl, hx⟩ := h.never; clear h; have h := hx
      simp [push_cast, -Int.not_lt, -Int.not_le, ↓evI_call, ↓evI_calli, ↓evI_calln, ↓evI_callz, ↓evI_callv, ↓evI_mxn, h, minR, hl]
      exact Ans.nil rfl
  · have hl' : eqz (bs.length : Int) s.tasks.length = false := by simp [eqz]; omega
    rw [if_neg (by simp [hl])]
    simp only [St.c, slI, slT] at h1
    rcases (Bool.eq_false_or_eq_true (thereS s n)) with ht | ht <;> rw [ht] at h1 <;> simp [C61, push_cast, -Int.not_lt, -Int.not_le, ↓evI_call, ↓evI_calli, ↓evI_calln, ↓evI_callz, ↓evI_callv, ↓evI_mxn, St.c, slI, slT, h1, hl'] <;> exact Ans.nil rfl
end Go.Proofs.YtgndbkeiickihaaEv
/- The least number that is told of itself. -/
namespace Go.Proofs.YtgndbkeiickihaaEv
open Go
/-- The first fixed place, of these. -/
def lfp (f : Int → Int) (lo hi : Int) : Option Int := (fstP (fun d : Nat => decide (f (lo + (d : Int)) = lo + (d : Int))) 0 (hi + 1 - lo).toNat).map fun d : Nat => lo + (d : Int)
theorem fstP_first {p : Nat → Bool} : ∀ (d i k : Nat), fstP p i d = some k → ∀ j, i ≤ j → j < k → p j = false
  | 0, _, _, h => by cases h
  | d + 1, i, k, h => by
    unfold fstP at h
    cases hp : p i with
    | true => rw [hp] at h; cases h; intro j h1 h2; omega
    | false =>
      rw [hp] at h
      intro j h1 h2
      by_cases hj : j = i
      · rw [hj]; exact hp
      · exact fstP_first d (i + 1) k h j (by omega) h2
theorem lfp_some {f : Int → Int} {lo hi w : Int} : lfp f lo hi = some w ↔ lo ≤ w ∧ w ≤ hi ∧ f w = w ∧ ∀ v, lo ≤ v → v < w → f v ≠ v := by
  unfold lfp
  constructor
  · intro h
    rw [Option.map_eq_some_iff] at h
    obtain ⟨d, h1, rfl⟩ := h
    obtain ⟨_, h3, h4⟩ := fstP_some _ _ _ h1
    have h5 := fstP_first _ _ _ h1
    refine ⟨by omega, by omega, by simpa using h4, fun v h6 h7 => ?_⟩
    have := h5 (v - lo).toNat (Nat.zero_le _) (by omega)
    rw [decide_eq_false_iff_not] at this
    rwa [show lo + (((v - lo).toNat : Nat) : Int) = v by omega] at this
  · rintro ⟨h1, h2, h3, h4⟩
    rw [Option.map_eq_some_iff]
    cases hf : fstP (fun d : Nat => decide (f (lo + (d : Int)) = lo + (d : Int))) 0 (hi + 1 - lo).toNat with
    | none =>
      rw [fstP_none] at hf
      have := hf (w - lo).toNat (Nat.zero_le _) (by omega)
      rw [decide_eq_false_iff_not, show lo + (((w - lo).toNat : Nat) : Int) = w by omega] at this
      exact absurd h3 this
    | some d =>
      refine ⟨d, rfl, ?_⟩
      obtain ⟨_, k3, k4⟩ := fstP_some _ _ _ hf
      have k5 := fstP_first _ _ _ hf
      have k4 : f (lo + d) = lo + d := by simpa using k4
      by_cases hw : lo + (d : Int) = w
      · exact hw
      · rcases (by omega : lo + (d : Int) < w ∨ w < lo + (d : Int)) with h | h
        · exact absurd k4 (h4 _ (by omega) h)
        · have := k5 (w - lo).toNat (Nat.zero_le _) (by omega)
          rw [decide_eq_false_iff_not, show lo + (((w - lo).toNat : Nat) : Int) = w by omega] at this
          exact absurd h3 this
theorem lfp_none {f : Int → Int} {lo hi : Int} : lfp f lo hi = none ↔ ∀ v, lo ≤ v → v ≤ hi → f v ≠ v := by
  unfold lfp
  rw [Option.map_eq_none_iff, fstP_none]
  constructor
  · intro h v h1 h2
    have := h (v - lo).toNat (Nat.zero_le _) (by omega)
    rw [decide_eq_false_iff_not, show lo + (((v - lo).toNat : Nat) : Int) = v by omega] at this
    exact this
  · intro h k _ hk
    simpa using h (lo + k) (by omega) (by omega)
/-- Below one that is told no more of, there is one that is told of itself. -/
theorem lfp_pre {f : Int → Int} {lo hi w : Int} (hm : ∀ u v, lo ≤ u → u ≤ v → f u ≤ f v) (hlo : ∀ v, lo ≤ v → lo ≤ f v) (h1 : lo ≤ w) (h2 : w ≤ hi) (hw : f w ≤ w) : ∃ v, lfp f lo hi = some v ∧ v ≤ w := by
  have key : ∀ (d : Nat) (w : Int), (w - lo).toNat = d → lo ≤ w → w ≤ hi → f w ≤ w → ∃ v, lo ≤ v ∧ v ≤ w ∧ f v = v := by
    intro d
    induction d using Nat.strongRecOn with
    | ind d ih =>
      intro w hd h1 h2 hw
      by_cases he : f w = w
      · exact ⟨w, h1, Int.le_refl _, he⟩
      · have h3 := hlo w h1
        obtain ⟨v, v1, v2, v3⟩ := ih (f w - lo).toNat (by omega) (f w) rfl h3 (by omega) (hm _ _ h3 hw)
        exact ⟨v, v1, by omega, v3⟩
  obtain ⟨v, v1, v2, v3⟩ := key _ w rfl h1 h2 hw
  cases hl : lfp f lo hi with
  | none => exact absurd v3 (lfp_none.1 hl v v1 (by omega))
  | some u =>
    obtain ⟨u1, u2, u3, u4⟩ := lfp_some.1 hl
    refine ⟨u, rfl, ?_⟩
    by_cases huv : u ≤ v
    · omega
    · exact absurd v3 (u4 v v1 (by omega))
/-! ### more windows, more work -/
theorem ceil_mono {a b p : Int} (hp : 1 ≤ p) (h : a ≤ b) : ceilS a p ≤ ceilS b p := by
  unfold ceilS; exact Int.ediv_le_ediv (by omega) (by omega)
theorem jobs_mono {w w' b b' p : Int} (h : w ≤ w') (hb : b ≤ b') (hb0 : 0 ≤ b) : jobsS w b p ≤ jobsS w' b' p := by
  have := (jobs_le w' b' p).1
  unfold jobsS at this ⊢
  by_cases h1 : w < 1 ∨ b < 0 ∨ p < 1
  · rw [if_pos h1]; exact this
  · rw [if_neg h1, if_neg (by omega)]
    have := ceil_mono (p := p) (by omega) (show w + b ≤ w' + b' by omega)
    omega
theorem work_mono {w w' b b' p e e' : Int} (h : w ≤ w') (hb : b ≤ b') (hb0 : 0 ≤ b) (he : e ≤ e') : workS w b p e ≤ workS w' b' p e' := by
  unfold workS
  have h1 := jobs_mono (p := p) h hb hb0
  have h2 : jobsS w b p * max e 0 ≤ jobsS w' b' p * max e' 0 := Int.mul_le_mul h1 (by omega) (by omega) (jobs_le ..).1
  omega
theorem work_neg {w b p e : Int} (hb : b < 0) : workS w b p e = 0 := by
  unfold workS jobsS; rw [if_pos (by omega)]; omega
theorem work_mono_w {w w' b p e : Int} (h : w ≤ w') : workS w b p e ≤ workS w' b p e := by
  by_cases hb : b < 0
  · rw [work_neg hb, work_neg hb]; omega
  · exact work_mono h (Int.le_refl _) (by omega) (Int.le_refl _)
theorem sumN_mono {f g : Nat → Int} : ∀ n, (∀ i, i < n → f i ≤ g i) → sumN f n ≤ sumN g n
  | 0, _ => Int.le_refl _
  | n + 1, h => by
    have h1 := sumN_mono n fun i hi => h i (by omega); have h2 := h n (by omega)
    rw [sumN, sumN]; omega
theorem higher_mono_w (s bs n c) {w w' : Int} (h : w ≤ w') : higherS s bs n c w ≤ higherS s bs n c w' := by
  unfold higherS
  split
  · have := sumN_mono (f := hiF s bs n.toNat c w) (g := hiF s bs n.toNat c w') s.tasks.length fun i _ => by
      unfold hiF; split
      · exact work_mono_w h
      · omega
    omega
  · omega
end Go.Proofs.YtgndbkeiickihaaEv
/- agent.Part: the least number that is told of itself. -/
namespace Go.Proofs.YtgndbkeiickihaaEv
open Go
set_option maxHeartbeats 2000000
/-- A task's Lock. -/
def lockS (s : St) (n k : Int) : Option Pt := if thereS s n = true ∧ 0 ≤ k then (s.tasks[n.toNat]?.bind fun t => t.parts[k.toNat]?).filter (fun p => eqz p.kind 3) else none
theorem lockS_no (s : St) (n k : Int) (h : thereS s n = false) : lockS s n k = none := by unfold lockS; rw [if_neg (by simp [h])]
theorem lockS_neg (s : St) (n k : Int) (h : k < 0) : lockS s n k = none := by unfold lockS; rw [if_neg (by omega)]
theorem lockS_nat (s : St) (m k : Nat) (ht : thereS s m = true) (hm : m < s.tasks.length) : lockS s m k = (s.tasks[m].parts[k]?).filter (fun p => eqz p.kind 3) := by
  unfold lockS; rw [if_pos ⟨ht, by omega⟩]; simp [hm]
theorem lockS_some {s : St} {n k : Int} {p : Pt} (h : lockS s n k = some p) : Good s ∧ ∃ (m j : Nat) (hm : m < s.tasks.length) (hj : j < s.tasks[m].parts.length), n = m ∧ k = j ∧ p = s.tasks[m].parts[j] ∧ p.kind = 3 := by
  unfold lockS at h
  split at h
  · rename_i hc
    obtain ⟨g, h0, hn⟩ := (thereS_iff s n).1 hc.1
    obtain ⟨m, rfl⟩ := nat_of n h0
    obtain ⟨j, rfl⟩ := nat_of k hc.2
    have hm : m < s.tasks.length := by omega
    simp only [Int.toNat_natCast, List.getElem?_eq_getElem hm, Option.bind_some, Option.filter_eq_some_iff] at h
    obtain ⟨h1, h2⟩ := h
    obtain ⟨hj, rfl⟩ := List.getElem?_eq_some_iff.1 h1
    exact ⟨g, m, j, hm, hj, rfl, rfl, rfl, by simpa [eqz] using h2⟩
  · cases h
def RQ (bx : Bx) (r : Option Int) (a : Out × Env × Bx) : Prop := match r with
  | some v => ∃ e' junk, a = (.ret, e', bx ++ junk) ∧ e' 8 = vi v ∧ e' 9 = vb true
  | none => ∃ e', a = (.ex 0, e', bx)
theorem rounds {go : Env → Option (Out × Env × Bx)} {bx : Bx} {f : Int → Int} {lo : Int} (hm : ∀ u v, lo ≤ u → u ≤ v → f u ≤ f v) (hlo : ∀ v, lo ≤ f v) (St : Int → Env → Prop)
    (h1 : ∀ w e, St w e → lo ≤ w → 3000 < w → ∃ e', go e = some (.ex 0, e', bx))
    (h2 : ∀ w e, St w e → lo ≤ w → w ≤ 3000 → f w = w → ∃ e' junk, go e = some (.ret, e', bx ++ junk) ∧ e' 8 = vi w ∧ e' 9 = vb true)
    (h3 : ∀ w e, St w e → lo ≤ w → w ≤ 3000 → w < f w → ∃ e', go e = go e' ∧ St (f w) e') :
    ∀ e, St lo e → ∃ a, go e = some a ∧ RQ bx (lfp f lo 3000) a := by
  have key : ∀ (d : Nat) (w : Int) e, (3001 - w).toNat = d → St w e → lo ≤ w → w ≤ f w → (∀ v, lo ≤ v → v < w → f v ≠ v) → ∃ a, go e = some a ∧ RQ bx (lfp f lo 3000) a := by
    intro d
    induction d using Nat.strongRecOn with
    | ind d ih =>
      intro w e hd hs hw hf hv
      by_cases hle : w ≤ 3000
      · by_cases he : f w = w
        · obtain ⟨e', junk, k1, k2⟩ := h2 w e hs hw hle he
          refine ⟨_, k1, ?_⟩
          rw [lfp_some.2 ⟨hw, hle, he, hv⟩]
          exact ⟨e', junk, rfl, k2⟩
        · obtain ⟨e', k1, k2⟩ := h3 w e hs hw hle (by omega)
          obtain ⟨a, a1, a2⟩ := ih (3001 - f w).toNat (by omega) (f w) e' rfl k2 (hlo w) (hm _ _ hw hf) (fun v v1 v2 v3 => by
            by_cases hvw : v < w
            · exact hv v v1 hvw v3
            · have := hm w v hw (by omega); omega)
          exact ⟨a, k1.trans a1, a2⟩
      · obtain ⟨e', k1⟩ := h1 w e hs hw (by omega)
        refine ⟨_, k1, ?_⟩
        rw [lfp_none.2 fun v v1 v2 => hv v v1 (by omega)]
        exact ⟨e', rfl⟩
  intro e hs
  exact key _ lo e rfl hs (Int.le_refl _) (hlo lo) fun v v1 v2 => by omega
def leastS (s : St) (n : Int) (p : Pt) : Int := p.len + lowerS s n (homeOf s p)
def agentS (s : St) (bs : List Int) (n k : Int) : Option Int := if bs.length = s.tasks.length then (lockS s n k).bind fun p => lfp (fun w => leastS s n p + higherS s bs n (homeOf s p) w) (leastS s n p) 3000 else none
def ansO (r : Option Int) : A := .tup [vi (r.getD 0), vb r.isSome]
theorem pure_ansO {Φ : CallF} {k f args r} (h : Ans (ansO r) [] (Φ f args [])) : pureOf Φ k f args = some (.tup [vi (r.getD 0), vb r.isSome]) := pure_tupb h
theorem least_bounds {s : St} {n k : Int} {p : Pt} (h : lockS s n k = some p) : 1 ≤ leastS s n p ∧ leastS s n p ≤ 120 := by
  obtain ⟨g, m, j, hm, hj, _, _, rfl, _⟩ := lockS_some h
  have h1 := ((g.task _ (List.getElem_mem hm)).part _ (List.getElem_mem hj)).len
  have h2 := lower_bounds s n (homeOf s s.tasks[m].parts[j])
  unfold leastS; omega
/-- Where a Lock's home is. -/
theorem home_at {s : St} (g : Good s) {t : Tk} (ht : t ∈ s.tasks) {p : Pt} (hp : p ∈ t.parts) (hk : p.kind = 3) : 0 ≤ p.res ∧ p.res < s.homes.length ∧ (s.homes.map vi).drop p.res.toNat = vi (homeOf s p) :: (s.homes.drop (p.res.toNat + 1)).map vi := by
  have gp := ((g.task t ht).part p hp).res hk
  have hh : p.res.toNat < s.homes.length := by omega
  refine ⟨gp.1, gp.2, ?_⟩
  rw [drop_int _ _ hh]; unfold homeOf; simp [hh]
theorem agent_loop (s : St) (hs : Sm s) (bs : List Int) (hb : ∀ b ∈ bs, I64' b) (n : Int) (p : Pt) (home lst : Int) (hl : 1 ≤ lst ∧ lst ≤ 120) :
    ∀ e : Env, (e 1 = slI bs ∧ e 2 = vi n ∧ e 4 = .ptr 0 0 ∧ e 11 = vi home ∧ e 12 = vi lst ∧ e 13 = vi lst) → ∃ a, evL tab0 ext0 0 L45_0 (e, [St.c s, Pt.c p]) = some a ∧ RQ [St.c s, Pt.c p] (lfp (fun w => lst + higherS s bs n home w) lst 3000) a := by
  have hH := fun w => higher_bounds s bs n home w
  refine rounds (go := fun e => evL tab0 ext0 0 L45_0 (e, [St.c s, Pt.c p])) (fun u v _ h => by have := higher_mono_w s bs n home h; omega) (fun v => by have := hH v; omega) (fun w e => e 1 = slI bs ∧ e 2 = vi n ∧ e 4 = .ptr 0 0 ∧ e 11 = vi home ∧ e 12 = vi lst ∧ e 13 = vi w) ?_ ?_ ?_
  · rintro w e ⟨h1, h2, h3, h4, h5, h6⟩ hw hw2
    have c : ¬ w ≤ 3000 := by omega
    exact ⟨_, (go45_0 _ _).trans (by simp [B45_0, push_cast, -Int.not_lt, -Int.not_le, ↓evI_call, ↓evI_calli, ↓evI_calln, ↓evI_callz, ↓evI_callv, ↓evI_mxn, loopIn, loopIn0, keepL, emp, A.dang, A.dangC, h1, h2, h3, h4, h5, h6, c, slI, slT, St.c, Pt.c]; rfl)⟩
  · rintro w e ⟨h1, h2, h3, h4, h5, h6⟩ hw hw2 hf
    have k1 := pure_vi (k := false) (higher_is s hs bs hb n home w ⟨by omega, by omega⟩)
    have kw := wrap_i (lst + higherS s bs n home w) (by have := hH w; omega) (by have := hH w; omega)
    rw [hf] at kw
    simp only [St.c, slI, slT] at k1
    exact ⟨_, _, (go45_0 _ _).trans (by simp [B45_0, push_cast, -Int.not_lt, -Int.not_le, ↓evI_call, ↓evI_calli, ↓evI_calln, ↓evI_callz, ↓evI_callv, ↓evI_mxn, loopIn, loopIn0, keepL, emp, A.dang, A.dangC, h1, h2, h3, h4, h5, h6, hw2, slI, slT, St.c, Pt.c, k1, hf, kw, eqz_self]; exact ⟨rfl, rfl⟩), by simp [put_at]⟩
  · rintro w e ⟨h1, h2, h3, h4, h5, h6⟩ hw hw2 hf
    have k1 := pure_vi (k := false) (higher_is s hs bs hb n home w ⟨by omega, by omega⟩)
    have kw := wrap_i (lst + higherS s bs n home w) (by have := hH w; omega) (by have := hH w; omega)
    have c1 : eqz (lst + higherS s bs n home w) w = false := by simp [eqz]; omega
    have c2 : ¬ lst + higherS s bs n home w < w := by omega
    simp only [St.c, slI, slT] at k1
    exact ⟨_, (go45_0 _ _).trans (by simp [B45_0, push_cast, -Int.not_lt, -Int.not_le, ↓evI_call, ↓evI_calli, ↓evI_calln, ↓evI_callz, ↓evI_callv, ↓evI_mxn, loopIn, loopIn0, keepL, emp, A.dang, A.dangC, h1, h2, h3, h4, h5, h6, hw2, slI, slT, St.c, Pt.c, k1, kw, c1, c2]; rfl), by simp [put_at, slI]⟩
theorem agent_is (s : St) (hs : Sm s) (bs : List Int) (hb : ∀ b ∈ bs, I64' b) (n k : Int) : Ans (ansO (agentS s bs n k)) [] (callL tab0 ext0 45 [.agg (St.c s), slI bs, vi n, vi k] []) := by
  rw [callL_tab _ _ rfl tab45 rfl]
  have h1 := pure_vb (k := false) (there_59 s n hs.fits)
  unfold agentS
  rcases Decidable.em (¬ bs.length = s.tasks.length) with hl | hl
  · have hl' : eqz (bs.length : Int) s.tasks.length = false := by simp [eqz]; omega
    rw [if_neg hl]
    simp only [St.c, slI, slT] at h1
    rcases (Bool.eq_false_or_eq_true (thereS s n)) with ht | ht <;> rw [ht] at h1 <;> simp [C45, push_cast, -Int.not_lt, -Int.not_le, ↓evI_call, ↓evI_calli, ↓evI_calln, ↓evI_callz, ↓evI_callv, ↓evI_mxn, St.c, slI, slT, h1, hl'] <;> exact Ans.nil rfl
  replace hl := Decidable.not_not.1 hl
  have hl' : eqz (bs.length : Int) s.tasks.length = true := by simp [eqz, hl]
  rw [if_pos hl]
  rcases (Bool.eq_false_or_eq_true (thereS s n)).symm with ht | ht
  · rw [ht] at h1
    rw [lockS_no s n k ht]
    simp only [St.c, slI, slT] at h1
    simp [C45, push_cast, -Int.not_lt, -Int.not_le, ↓evI_call, ↓evI_calli, ↓evI_calln, ↓evI_callz, ↓evI_callv, ↓evI_mxn, St.c, slI, slT, h1]
    exact Ans.nil rfl
  rw [ht] at h1
  obtain ⟨g, h0, hn⟩ := (thereS_iff s n).1 ht
  obtain ⟨m, rfl⟩ := nat_of n h0
  have hm : m < s.tasks.length := by omega
  by_cases hk0 : k < 0
  · rw [lockS_neg s m k hk0]
    simp only [St.c, slI, slT] at h1
    simp [C45, push_cast, -Int.not_lt, -Int.not_le, ↓evI_call, ↓evI_calli, ↓evI_calln, ↓evI_callz, ↓evI_callv, ↓evI_mxn, St.c, slI, slT, h1, hl', hk0]
    exact Ans.nil rfl
  obtain ⟨j, rfl⟩ := nat_of k (by omega)
  rw [lockS_nat s m j ht hm]
  rcases Decidable.em (¬ j < s.tasks[m].parts.length) with hj | hj
  · have hj' : (s.tasks[m].parts.length : Int) ≤ j := by omega
    rw [List.getElem?_eq_none (by omega)]
    simp only [St.c, slI, slT] at h1
    simp [C45, push_cast, -Int.not_lt, -Int.not_le, ↓evI_call, ↓evI_calli, ↓evI_calln, ↓evI_callz, ↓evI_callv, ↓evI_mxn, St.c, slI, slT, slP, Tk.c, h1, hl', hm, hn, drop_tk _ m hm, hk0, hj']
    exact Ans.nil rfl
  replace hj := Decidable.not_not.1 hj
  have hj' : ¬ (s.tasks[m].parts.length : Int) ≤ j := by omega
  have hj2 : (j : Int) < s.tasks[m].parts.length := by omega
  have hlk := lockS_nat s m j ht hm
  rw [List.getElem?_eq_getElem hj] at hlk ⊢
  obtain ⟨p, hp⟩ : ∃ p, p = s.tasks[m].parts[j] := ⟨_, rfl⟩
  have hdrop := drop_pt s.tasks[m].parts j hj
  rw [← hp] at hlk hdrop ⊢
  rcases (Bool.eq_false_or_eq_true (eqz p.kind 3)).symm with hk | hk
  · simp only [Option.filter_some, hk] at hlk ⊢
    simp only [St.c, slI, slT] at h1
    simp [C45, push_cast, -Int.not_lt, -Int.not_le, ↓evI_call, ↓evI_calli, ↓evI_calln, ↓evI_callz, ↓evI_callv, ↓evI_mxn, St.c, slI, slT, slP, Tk.c, Pt.c, h1, hl', hm, hn, drop_tk _ m hm, hk0, hj', hj2, hj, hdrop, hk]
    exact Ans.nil rfl
  simp only [Option.filter_some, hk, if_true] at hlk ⊢
  have hlb := least_bounds hlk
  obtain ⟨r1, r2, r3⟩ := home_at g (List.getElem_mem hm) (p := p) (by rw [hp]; exact List.getElem_mem hj) (by simpa [eqz] using hk)
  have h2 := pure_vi (k := false) (lower_is s hs m (homeOf s p))
  have hlp := agent_loop s hs bs hb m p (homeOf s p) (leastS s m p) hlb
  have hw : IntKind.wrap .i64 (p.len + lowerS s m (homeOf s p)) = leastS s m p := wrap_i _ (by unfold leastS at hlb; omega) (by unfold leastS at hlb; omega)
  simp only [Option.bind_some]
  generalize lfp _ _ _ = r at hlp ⊢
  simp only [St.c, slI, slT, Pt.c] at h1 h2 hlp
  simp [C45, push_cast, -Int.not_lt, -Int.not_le, ↓evI_call, ↓evI_calli, ↓evI_calln, ↓evI_callz, ↓evI_callv, ↓evI_mxn, St.c, slI, slT, slP, Tk.c, Pt.c, h1, h2, hl', hm, hn, drop_tk _ m hm, hk0, hj', hj2, hj, hdrop, hk, r1, r2, r3, hw]
  refine behindP (P := fun r' => Ans _ [] r') (hlp _ (by simp [put_at])) ?_
  intro a h
  cases r with
  | some v =>
    obtain ⟨e', junk, rfl, k8, k9⟩ := h
    simp [push_cast, -Int.not_lt, -Int.not_le, ↓evI_call, ↓evI_calli, ↓evI_calln, ↓evI_callz, ↓evI_callv, ↓evI_mxn, k8, k9]
    exact Ans.nil rfl
  | none =>
    obtain ⟨e', rfl⟩ := h
    simp [push_cast, -Int.not_lt, -Int.not_le, ↓evI_call, ↓evI_calli, ↓evI_calln, ↓evI_callz, ↓evI_callv, ↓evI_mxn]
    exact Ans.nil rfl
end Go.Proofs.YtgndbkeiickihaaEv
