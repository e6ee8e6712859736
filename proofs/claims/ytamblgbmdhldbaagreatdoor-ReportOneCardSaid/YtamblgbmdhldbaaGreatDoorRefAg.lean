/- The reference's demands, agents. -/
import Derived.Test.YtamblgbmdhldbaaGreatDoorAg
import Derived.Test.YtamblgbmdhldbaaGreatDoorRef7
set_option linter.unusedSimpArgs false
set_option linter.unusedVariables false
namespace Go.Proofs.YtamblgbmdhldbaaGreatDoorEv
open Go
set_option maxHeartbeats 2000000
theorem thereR_is (s : St) (n : Int) (hf : Fits s) : Ans (vb (thereS s n)) [] (callL tab0 ext0 65 [.agg (St.c s), vi n] []) := by
  rw [callL_tab _ _ rfl tab65 rfl]
  have h1 := pure_vb (k := false) (okR_is s hf)
  have e : eqz (chk s).2 0 = okS s := rfl
  rw [e] at h1
  unfold thereS
  generalize okS s = c at h1 ⊢
  simp only [St.c, slI, slT] at h1
  simp +contextual [C65, push_cast, -Int.not_lt, -Int.not_le, ↓evI_call, ↓evI_calli, ↓evI_callz, ↓evI_callv, ↓evI_mxn, St.c, slI, slT, h1]
  refine Ans.nil ?_
  congr 2
def lkF (s : St) (c : Int) (p : Pt) : Int := if lockAt s c p = true then p.len else 0
theorem at_eq {s : St} (g : Good s) (m : Nat) (h : m < s.tasks.length) (c : Int) : atS s m c = sumL (lkF s c) s.tasks[m].parts ∧ mostS s m c = maxL (lkF s c) s.tasks[m].parts := by
  have ht : thereS s m = true := by rw [there_nat s m h]; exact (okS_iff s).2 g
  have e : homedS s m c = homedL s s.tasks[m].parts c := by unfold homedS; rw [if_pos ht]; simp [h]
  unfold atS mostS
  rw [e]; unfold homedL; rw [sumL_map, sumL_filter, maxL_map, maxL_filter]
  exact ⟨rfl, rfl⟩
theorem at_no {s : St} {n : Int} (h : thereS s n = false) (c : Int) : atS s n c = 0 ∧ mostS s n c = 0 := by
  have e : homedS s n c = [] := by unfold homedS; rw [if_neg (by simp [h])]
  unfold atS mostS; rw [e]; exact ⟨rfl, rfl⟩
theorem lkF_bounds {s : St} (g : Good s) {t : Tk} (ht : t ∈ s.tasks) (c : Int) (i : Nat) : 0 ≤ sumL (lkF s c) (t.parts.take i) ∧ sumL (lkF s c) (t.parts.take i) ≤ 600 := by
  have hp := g.pts ht
  have h2 : ∀ p ∈ t.parts.take i, 0 ≤ lkF s c p ∧ lkF s c p ≤ 60 := by
    intro p h
    have := hp.2 p (List.mem_of_mem_take h)
    unfold lkF; split <;> omega
  have h3 := sumL_ge _ _ fun p h => (h2 p h).1
  have h4 := sumL_le _ 60 _ fun p h => (h2 p h).2
  have h5 : (t.parts.take i).length ≤ 10 := by rw [List.length_take]; have := hp.1; omega
  omega
theorem lkF_step (s : St) (c : Int) (l : List Pt) (i : Nat) (h : i < l.length) : (sumL (lkF s c) (l.take (i + 1)) = if eqz l[i].kind 3 = true ∧ eqz (homeOf s l[i]) c = true then sumL (lkF s c) (l.take i) + l[i].len else sumL (lkF s c) (l.take i)) ∧
    (maxL (lkF s c) (l.take (i + 1)) = if eqz l[i].kind 3 = true ∧ eqz (homeOf s l[i]) c = true then (if maxL (lkF s c) (l.take i) < l[i].len then l[i].len else maxL (lkF s c) (l.take i)) else maxL (lkF s c) (l.take i)) := by
  have hn := maxL_nonneg (lkF s c) (l.take i)
  rw [sumL_take _ _ _ h, maxL_take _ _ _ h, max_if]
  have e : lkF s c l[i] = if eqz l[i].kind 3 = true ∧ eqz (homeOf s l[i]) c = true then l[i].len else 0 := by unfold lkF lockAt; simp only [Bool.and_eq_true]
  rw [e]
  by_cases hh : eqz l[i].kind 3 = true ∧ eqz (homeOf s l[i]) c = true
  · simp only [if_pos hh, and_self]
  · simp only [if_neg hh]; refine ⟨by omega, ?_⟩; rw [if_neg (by omega)]
theorem atR_loop (s : St) (g : Good s) (t : Tk) (ht : t ∈ s.tasks) (c : Int) :
    ∀ d i (e : Env), i + d = t.parts.length → (e 2 = vi c ∧ e 3 = .ptr 0 0 ∧ e 8 = vi (sumL (lkF s c) (t.parts.take i)) ∧ e 9 = vi (maxL (lkF s c) (t.parts.take i)) ∧ e 10 = .ptr 1 0 ∧ e 11 = vi i) → ∃ zz, evL tab0 ext0 0 L125_0 (e, [St.c s, Tk.c t]) = some zz ∧ FQ (fun _ => false) ([St.c s, Tk.c t]) 0 (fun _ _ => True) (fun e => e 8 = vi (sumL (lkF s c) t.parts) ∧ e 9 = vi (maxL (lkF s c) t.parts)) i d zz := by
  have hp := (g.task t ht).parts
  refine fq_loop (St := fun i e => e 2 = vi c ∧ e 3 = .ptr 0 0 ∧ e 8 = vi (sumL (lkF s c) (t.parts.take i)) ∧ e 9 = vi (maxL (lkF s c) (t.parts.take i)) ∧ e 10 = .ptr 1 0 ∧ e 11 = vi i) _ _ _ _ _ ?_ ?_
  · rintro e ⟨g0, g1, g2, g3, g4, g5⟩
    exact ⟨_, (go125_0 _ _).trans (by simp [B125_0, push_cast, -Int.not_lt, -Int.not_le, ↓evI_call, ↓evI_calli, ↓evI_callz, ↓evI_callv, ↓evI_mxn, loopIn, loopIn0, keepL, emp, A.dang, A.dangC, g0, g1, g2, g3, g4, g5, slP, slI, slT, St.c, Tk.c, Pt.c]; rfl), by simp [put_at, g2, g3]⟩
  · rintro i e hi ⟨g0, g1, g2, g3, g4, g5⟩
    rw [go125_0]
    have hi' : (i : Int) < (t.parts.length : Nat) := by omega
    have hw : IntKind.wrap .i64 ((i : Int) + 1) = (i : Int) + 1 := wrap_in _ (by omega) (by omega)
    have q := fun (h : eqz t.parts[i].kind 3 = true) => home_at g ht (List.getElem_mem hi) (by simpa [eqz] using h)
    have q1 : eqz t.parts[i].kind 3 = true → 0 ≤ t.parts[i].res := fun h => (q h).1
    have q2 : eqz t.parts[i].kind 3 = true → t.parts[i].res < s.homes.length := fun h => (q h).2.1
    have q3 : eqz t.parts[i].kind 3 = true → (s.homes.map vi).drop t.parts[i].res.toNat = vi (homeOf s t.parts[i]) :: (s.homes.drop (t.parts[i].res.toNat + 1)).map vi := fun h => (q h).2.2
    have b1 := lkF_bounds g ht c i
    have b2 := (g.pts ht).2 _ (List.getElem_mem hi)
    have hw2 : IntKind.wrap .i64 (sumL (lkF s c) (t.parts.take i) + t.parts[i].len) = sumL (lkF s c) (t.parts.take i) + t.parts[i].len := wrap_i _ (by omega) (by omega)
    obtain ⟨s1, s2⟩ := lkF_step s c t.parts i hi
    rw [s1, s2]
    clear s1 s2 q b1
    generalize sumL (lkF s c) (t.parts.take i) = u at hw2 g2 ⊢
    generalize maxL (lkF s c) (t.parts.take i) = v at g3 ⊢
    simp +contextual (maxSteps := 400000) [B125_0, push_cast, -Int.not_lt, -Int.not_le, ↓evI_call, ↓evI_calli, ↓evI_callz, ↓evI_callv, ↓evI_mxn, loopIn, loopIn0, keepL, emp, A.dang, A.dangC, g0, g1, g2, g3, g4, g5, hi, hi', slP, slI, slT, St.c, Tk.c, Pt.c, drop_pt _ i hi, hw, hw2, q1, q2, q3, foldM]
    refine Step.split (fun cc => ?_) (fun cc => ?_) <;> refine Step.go rfl ?_ <;> simp [put_at, cc]
theorem atR_is (s : St) (hs : Sm s) (n c : Int) : Ans (.tup [vi (atS s n c), vi (mostS s n c)]) [] (callL tab0 ext0 125 [.agg (St.c s), vi n, vi c] []) := by
  rw [callL_tab _ _ rfl tab125 rfl]
  have h1 := pure_vb (k := false) (thereR_is s n hs.fits)
  rcases (Bool.eq_false_or_eq_true (thereS s n)).symm with ht | ht
  · rw [ht] at h1
    rw [(at_no ht c).1, (at_no ht c).2]
    simp only [St.c, slI, slT] at h1
    simp [C125, push_cast, -Int.not_lt, -Int.not_le, ↓evI_call, ↓evI_calli, ↓evI_callz, ↓evI_callv, ↓evI_mxn, St.c, slI, slT, h1]
    exact Ans.nil rfl
  · rw [ht] at h1
    obtain ⟨g, h0, hn⟩ := (thereS_iff s n).1 ht
    obtain ⟨m, rfl⟩ := nat_of n h0
    have hm : m < s.tasks.length := by omega
    have hlp := atR_loop s g s.tasks[m] (List.getElem_mem hm) c s.tasks[m].parts.length 0
    rw [(at_eq g m hm c).1, (at_eq g m hm c).2]
    simp only [St.c, slI, slT, slP, Tk.c] at h1 hlp
    simp [C125, push_cast, -Int.not_lt, -Int.not_le, ↓evI_call, ↓evI_calli, ↓evI_callz, ↓evI_callv, ↓evI_mxn, St.c, slI, slT, slP, h1, hm, drop_tk _ m hm, Tk.c]
    refine behindP (P := fun r => Ans _ [] r) (hlp _ (by omega) (by simp [put_at, sumL, maxL])) ?_
    intro a h
    obtain ⟨e', rfl, hx⟩ := h.never; clear h; have h := hx
    obtain ⟨k1, k2⟩ := h
    simp [push_cast, -Int.not_lt, -Int.not_le, ↓evI_call, ↓evI_calli, ↓evI_callz, ↓evI_callv, ↓evI_mxn, k1, k2]
    exact Ans.nil rfl
theorem longestR_loop (t : Tk) (hl : t.parts.length ≤ 4611686018427387904) :
    ∀ d i (e : Env), i + d = t.parts.length → (e 1 = .ptr 0 0 ∧ e 3 = vi (maxL (kLen 3) (t.parts.take i)) ∧ e 4 = vi i) → ∃ zz, evL tab0 ext0 0 L66_0 (e, [Tk.c t]) = some zz ∧ FQ (fun _ => false) ([Tk.c t]) 0 (fun _ _ => True) (fun e => e 3 = vi (longest t.parts)) i d zz := by
  refine fq_loop (St := fun i e => e 1 = .ptr 0 0 ∧ e 3 = vi (maxL (kLen 3) (t.parts.take i)) ∧ e 4 = vi i) _ _ _ _ _ ?_ ?_
  · rintro e ⟨g0, g1, g2⟩
    exact ⟨_, (go66_0 _ _).trans (by simp [B66_0, push_cast, -Int.not_lt, -Int.not_le, ↓evI_call, ↓evI_calli, ↓evI_callz, ↓evI_callv, ↓evI_mxn, loopIn, loopIn0, keepL, emp, A.dang, A.dangC, g0, g1, g2, slP, Tk.c, Pt.c]; rfl), by simp [put_at, g1, longest]⟩
  · rintro i e hi ⟨g0, g1, g2⟩
    rw [go66_0]
    have hi' : (i : Int) < (t.parts.length : Nat) := by omega
    have hw : IntKind.wrap .i64 ((i : Int) + 1) = (i : Int) + 1 := wrap_in _ (by omega) (by omega)
    rw [longest_take t.parts i hi]
    simp +contextual (maxSteps := 400000) [B66_0, push_cast, -Int.not_lt, -Int.not_le, ↓evI_call, ↓evI_calli, ↓evI_callz, ↓evI_callv, ↓evI_mxn, loopIn, loopIn0, keepL, emp, A.dang, A.dangC, g0, g1, g2, hi, hi', slP, Tk.c, Pt.c, drop_pt _ i hi, hw, foldM]
    (repeat' refine Step.split (fun cc => ?_) (fun cc => ?_)) <;> first | (refine Step.ret0 ?_ ?_ <;> first | (simp_all [put_at, eqz]; done) | (simp [put_at, *]; done) | ((try simp [eqz] at *); omega)) | (refine Step.go ?_ ?_ <;> first | (simp_all [put_at, eqz]; done) | (simp [put_at, *]; done) | ((try simp [eqz] at *); omega)) | (refine Step.ret _ ?_ ?_ <;> first | (simp_all [put_at, eqz]; done) | (simp [put_at, *]; done) | ((try simp [eqz] at *); omega)) | (refine Step.goJ _ (by simp) ?_ ?_ <;> first | (simp_all [put_at, eqz]; done) | (simp [put_at, *]; done) | ((try simp [eqz] at *); omega))
theorem longestR_is (t : Tk) (hl : t.parts.length ≤ 4611686018427387904) : Ans (vi (longest t.parts)) [] (callL tab0 ext0 66 [.agg (Tk.c t)] []) := by
  rw [callL_tab _ _ rfl tab66 rfl]
  simp +contextual [C66, push_cast, -Int.not_lt, -Int.not_le, ↓evI_call, ↓evI_calli, ↓evI_callz, ↓evI_callv, ↓evI_mxn, Tk.c, slP]
  have hlp := longestR_loop t hl t.parts.length 0
  simp only [Tk.c, slP] at hlp
  refine behindP (P := fun r => Ans _ [] r) (hlp _ (by omega) (by simp [put_at, maxL])) ?_
  intro a h
  obtain ⟨e', rfl, hx⟩ := h.never; clear h; have h := hx
  simp [push_cast, -Int.not_lt, -Int.not_le, ↓evI_call, ↓evI_calli, ↓evI_callz, ↓evI_callv, ↓evI_mxn, h]
  exact Ans.nil rfl
theorem lowerR_loop (s : St) (hs : Sm s) (m : Nat) (hm : m < s.tasks.length) (ht : thereS s m = true) (c : Int) :
    ∀ d i (e : Env), i + d = s.tasks.length → (e 1 = vi m ∧ e 2 = vi c ∧ e 3 = .ptr 0 0 ∧ e 7 = vi (maxN (lowF s m c) i) ∧ e 8 = vi i) → ∃ zz, evL tab0 ext0 0 L104_0 (e, [St.c s]) = some zz ∧ FQ (fun _ => false) ([St.c s]) 0 (fun _ _ => True) (fun e => e 7 = vi (maxN (lowF s m c) s.tasks.length)) i d zz := by
  have hc := hs.tasks
  refine fq_loop (St := fun i e => e 1 = vi m ∧ e 2 = vi c ∧ e 3 = .ptr 0 0 ∧ e 7 = vi (maxN (lowF s m c) i) ∧ e 8 = vi i) _ _ _ _ _ ?_ ?_
  · rintro e ⟨g0, g1, g2, g3, g4⟩
    exact ⟨_, (go104_0 _ _).trans (by simp [B104_0, push_cast, -Int.not_lt, -Int.not_le, ↓evI_call, ↓evI_calli, ↓evI_callz, ↓evI_callv, ↓evI_mxn, loopIn, loopIn0, keepL, emp, A.dang, A.dangC, g0, g1, g2, g3, g4, slI, slT, slP, St.c, Tk.c]; rfl), by simp [put_at, g3]⟩
  · rintro i e hi ⟨g0, g1, g2, g3, g4⟩
    rw [go104_0]
    have hi' : (i : Int) < (s.tasks.length : Nat) := by omega
    have hw : IntKind.wrap .i64 ((i : Int) + 1) = (i : Int) + 1 := wrap_in _ (by omega) (by omega)
    have hm' : (m : Int) < s.tasks.length := by omega
    have h1 := pure_vb (k := false) (thereR_is s m hs.fits)
    rw [ht] at h1
    have h2 := pure_tup2 (k := false) (atR_is s hs i c)
    rw [low_step, prioAt_is s m hm, prioAt_is s i hi]
    generalize maxN (lowF s m c) i = q at g3 ⊢
    simp only [St.c, slI, slT] at h1 h2
    simp +contextual (maxSteps := 400000) [B104_0, push_cast, -Int.not_lt, -Int.not_le, ↓evI_call, ↓evI_calli, ↓evI_callz, ↓evI_callv, ↓evI_mxn, loopIn, loopIn0, keepL, emp, A.dang, A.dangC, g0, g1, g2, g3, g4, hi, hi', slI, slT, slP, St.c, Tk.c, drop_tk _ i hi, drop_tk _ m hm, hm, hm', hw, h1, h2, foldM]
    (repeat' refine Step.split (fun cc => ?_) (fun cc => ?_)) <;> first | (refine Step.ret0 ?_ ?_ <;> first | (simp_all [put_at, eqz]; done) | (simp [put_at, *]; done) | ((try simp [eqz] at *); omega)) | (refine Step.go ?_ ?_ <;> first | (simp_all [put_at, eqz]; done) | (simp [put_at, *]; done) | ((try simp [eqz] at *); omega)) | (refine Step.ret _ ?_ ?_ <;> first | (simp_all [put_at, eqz]; done) | (simp [put_at, *]; done) | ((try simp [eqz] at *); omega)) | (refine Step.goJ _ (by simp) ?_ ?_ <;> first | (simp_all [put_at, eqz]; done) | (simp [put_at, *]; done) | ((try simp [eqz] at *); omega))
theorem lowerR_is (s : St) (hs : Sm s) (n c : Int) : Ans (vi (lowerS s n c)) [] (callL tab0 ext0 104 [.agg (St.c s), vi n, vi c] []) := by
  rw [callL_tab _ _ rfl tab104 rfl]
  unfold lowerS
  rcases (Bool.eq_false_or_eq_true (thereS s n)).symm with ht | ht
  · have h1 := pure_vb (k := false) (thereR_is s n hs.fits)
    rw [ht] at h1 ⊢
    simp only [St.c, slI, slT] at h1
    by_cases hz : s.tasks.length = 0
    · simp [C104, push_cast, -Int.not_lt, -Int.not_le, ↓evI_call, ↓evI_calli, ↓evI_callz, ↓evI_callv, ↓evI_mxn, loopIn, loopIn0, keepL, emp, A.dang, A.dangC, St.c, slI, slT, h1, go104_0, B104_0, hz]
      exact Ans.nil rfl
    · have hz' : 0 < s.tasks.length := by omega
      simp [C104, push_cast, -Int.not_lt, -Int.not_le, ↓evI_call, ↓evI_calli, ↓evI_callz, ↓evI_callv, ↓evI_mxn, loopIn, loopIn0, keepL, emp, A.dang, A.dangC, St.c, slI, slT, h1, go104_0, B104_0, hz']
      exact Ans.nil rfl
  · obtain ⟨g, h0, hn⟩ := (thereS_iff s n).1 ht
    obtain ⟨m, rfl⟩ := nat_of n h0
    have hm : m < s.tasks.length := by omega
    have hlp := lowerR_loop s hs m hm ht c s.tasks.length 0
    rw [ht]
    simp only [St.c, slI, slT] at hlp
    simp [C104, push_cast, -Int.not_lt, -Int.not_le, ↓evI_call, ↓evI_calli, ↓evI_callz, ↓evI_callv, ↓evI_mxn, St.c, slI, slT]
    refine behindP (P := fun r => Ans _ [] r) (hlp _ (by omega) (by simp [put_at, maxN])) ?_
    intro a h
    obtain ⟨e', rfl, hx⟩ := h.never; clear h; have h := hx
    simp [push_cast, -Int.not_lt, -Int.not_le, ↓evI_call, ↓evI_calli, ↓evI_callz, ↓evI_callv, ↓evI_mxn, h]
    exact Ans.nil rfl
theorem hiM_step (s : St) (bs : List Int) (m : Nat) (c w : Int) (i : Nat) : min (sumN (hiF s bs m c w) (i + 1)) 1000000 = if prioAt s i < prioAt s m then min (min (sumN (hiF s bs m c w) i) 1000000 + workS w (bAt bs i) (perAt s i) (atS s i c)) 1000000 else min (sumN (hiF s bs m c w) i) 1000000 := by
  have := (work_le w (bAt bs i) (perAt s i) (atS s i c)).1
  rw [hi_step]; split <;> omega
theorem higherR_loop (s : St) (hs : Sm s) (g : Good s) (bs : List Int) (hb : ∀ b ∈ bs, I64' b) (hl : bs.length = s.tasks.length) (m : Nat) (hm : m < s.tasks.length) (c w : Int) (hw0 : I64' w) :
    ∀ d i (e : Env), i + d = s.tasks.length → (e 1 = slI bs ∧ e 2 = vi m ∧ e 3 = vi c ∧ e 4 = vi w ∧ e 5 = .ptr 0 0 ∧ e 11 = vi (min (sumN (hiF s bs m c w) i) 1000000) ∧ e 12 = vi i) → ∃ zz, evL tab0 ext0 0 L105_0 (e, [St.c s]) = some zz ∧ FQ (fun _ => false) ([St.c s]) 0 (fun _ _ => True) (fun e => e 11 = vi (min (sumN (hiF s bs m c w) s.tasks.length) 1000000)) i d zz := by
  have hc := hs.tasks
  refine fq_loop (St := fun i e => e 1 = slI bs ∧ e 2 = vi m ∧ e 3 = vi c ∧ e 4 = vi w ∧ e 5 = .ptr 0 0 ∧ e 11 = vi (min (sumN (hiF s bs m c w) i) 1000000) ∧ e 12 = vi i) _ _ _ _ _ ?_ ?_
  · rintro e ⟨g0, g1, g2, g3, g4, g5, g6⟩
    exact ⟨_, (go105_0 _ _).trans (by simp [B105_0, push_cast, -Int.not_lt, -Int.not_le, ↓evI_call, ↓evI_calli, ↓evI_callz, ↓evI_callv, ↓evI_mxn, loopIn, loopIn0, keepL, emp, A.dang, A.dangC, g0, g1, g2, g3, g4, g5, g6, slI, slT, slP, St.c, Tk.c]; rfl), by simp [put_at, g5]⟩
  · rintro i e hi ⟨g0, g1, g2, g3, g4, g5, g6⟩
    rw [go105_0]
    have hi' : (i : Int) < (s.tasks.length : Nat) := by omega
    have hw : IntKind.wrap .i64 ((i : Int) + 1) = (i : Int) + 1 := wrap_in _ (by omega) (by omega)
    have hm' : (m : Int) < s.tasks.length := by omega
    have hi3 : i < bs.length := by omega
    have hi4 : (i : Int) < bs.length := by omega
    have hg := g.task _ (List.getElem_mem hi)
    have ha := at_bounds s i c
    have h2 := pure_tup2 (k := false) (atR_is s hs i c)
    have h3 := pure_vi (k := false) (workR_is w bs[i] s.tasks[i].period (atS s i c) hw0 (hb _ (List.getElem_mem hi3)) hg.period.2 (by omega))
    have hs2 := hi_sum s bs m c w i (by omega)
    rw [hiM_step, prioAt_is s m hm, prioAt_is s i hi, bAt_is bs i hi3, perAt_is s i hi]
    have hwk := work_le w bs[i] s.tasks[i].period (atS s i c)
    generalize workS w bs[i] s.tasks[i].period (atS s i c) = k at h3 hwk ⊢
    have hs3 : 0 ≤ min (sumN (hiF s bs m c w) i) 1000000 ∧ min (sumN (hiF s bs m c w) i) 1000000 ≤ 1000000 := by omega
    generalize min (sumN (hiF s bs m c w) i) 1000000 = q at g5 hs3 ⊢
    have hw3 : IntKind.wrap .i64 (q + k) = q + k := wrap_i _ (by omega) (by omega)
    simp only [St.c, slI, slT] at h2
    simp +contextual (maxSteps := 400000) [B105_0, push_cast, -Int.not_lt, -Int.not_le, ↓evI_call, ↓evI_calli, ↓evI_callz, ↓evI_callv, ↓evI_mxn, loopIn, loopIn0, keepL, emp, A.dang, A.dangC, g0, g1, g2, g3, g4, g5, g6, hi, hi', slI, slT, slP, St.c, Tk.c, drop_tk _ i hi, drop_tk _ m hm, drop_int _ i hi3, hm, hm', hi4, hw, h2, h3, hw3, minR]
    (repeat' refine Step.split (fun cc => ?_) (fun cc => ?_)) <;> first | (refine Step.ret0 ?_ ?_ <;> first | (simp_all [put_at, eqz]; done) | (simp [put_at, *]; done) | ((try simp [eqz] at *); omega)) | (refine Step.go ?_ ?_ <;> first | (simp_all [put_at, eqz]; done) | (simp [put_at, *]; done) | ((try simp [eqz] at *); omega)) | (refine Step.ret _ ?_ ?_ <;> first | (simp_all [put_at, eqz]; done) | (simp [put_at, *]; done) | ((try simp [eqz] at *); omega)) | (refine Step.goJ _ (by simp) ?_ ?_ <;> first | (simp_all [put_at, eqz]; done) | (simp [put_at, *]; done) | ((try simp [eqz] at *); omega))
theorem higherR_is (s : St) (hs : Sm s) (bs : List Int) (hb : ∀ b ∈ bs, I64' b) (n c w : Int) (hw0 : I64' w) : Ans (vi (higherS s bs n c w)) [] (callL tab0 ext0 105 [.agg (St.c s), slI bs, vi n, vi c, vi w] []) := by
  rw [callL_tab _ _ rfl tab105 rfl]
  have h1 := pure_vb (k := false) (thereR_is s n hs.fits)
  unfold higherS
  by_cases hl : bs.length = s.tasks.length
  · have hl' : eqz (bs.length : Int) s.tasks.length = true := by simp [eqz, hl]
    rcases (Bool.eq_false_or_eq_true (thereS s n)).symm with ht | ht
    · rw [ht] at h1 ⊢
      simp only [St.c, slI, slT] at h1
      simp [C105, push_cast, -Int.not_lt, -Int.not_le, ↓evI_call, ↓evI_calli, ↓evI_callz, ↓evI_callv, ↓evI_mxn, St.c, slI, slT, h1]
      exact Ans.nil rfl
    · rw [ht] at h1 ⊢
      obtain ⟨g, h0, hn⟩ := (thereS_iff s n).1 ht
      obtain ⟨m, rfl⟩ := nat_of n h0
      have hm : m < s.tasks.length := by omega
      have hlp := higherR_loop s hs g bs hb hl m hm c w hw0 s.tasks.length 0
      simp only [St.c, slI, slT] at h1 hlp
      simp [C105, push_cast, -Int.not_lt, -Int.not_le, ↓evI_call, ↓evI_calli, ↓evI_callz, ↓evI_callv, ↓evI_mxn, St.c, slI, slT, h1, hl']
      refine behindP (P := fun r => Ans _ [] r) (hlp _ (by omega) (by simp [put_at, sumN]; rfl)) ?_
      intro a h
      obtain ⟨e', rfl, hx⟩ := h.never; clear h; have h := hx
      simp [push_cast, -Int.not_lt, -Int.not_le, ↓evI_call, ↓evI_calli, ↓evI_callz, ↓evI_callv, ↓evI_mxn, h, hl]
      exact Ans.nil rfl
  · have hl' : eqz (bs.length : Int) s.tasks.length = false := by simp [eqz]; omega
    rw [if_neg (by simp [hl])]
    simp only [St.c, slI, slT] at h1
    rcases (Bool.eq_false_or_eq_true (thereS s n)) with ht | ht <;> rw [ht] at h1 <;> simp [C105, push_cast, -Int.not_lt, -Int.not_le, ↓evI_call, ↓evI_calli, ↓evI_callz, ↓evI_callv, ↓evI_mxn, St.c, slI, slT, h1, hl'] <;> exact Ans.nil rfl
/-! ### a task's Lock, an agent's answer -/
def pt0 : Pt := ⟨0, 0, 0⟩
theorem lockR_is (s : St) (hs : Sm s) (n k : Int) : pureOf (callL tab0 ext0) false 101 [.agg (St.c s), vi n, vi k] = some (.tup [.agg (Pt.c ((lockS s n k).getD pt0)), vb (lockS s n k).isSome]) := by
  rw [pureOf_b, callL_tab _ _ rfl tab101 rfl]
  have h1 := pure_vb (k := false) (thereR_is s n hs.fits)
  rcases (Bool.eq_false_or_eq_true (thereS s n)).symm with ht | ht
  · rw [ht] at h1
    rw [lockS_no s n k ht]
    simp only [St.c, slI, slT] at h1
    simp [C101, push_cast, -Int.not_lt, -Int.not_le, ↓evI_call, ↓evI_calli, ↓evI_callz, ↓evI_callv, ↓evI_mxn, St.c, slI, slT, h1, frzK, pt0, Pt.c]
  rw [ht] at h1
  obtain ⟨g, h0, hn⟩ := (thereS_iff s n).1 ht
  obtain ⟨m, rfl⟩ := nat_of n h0
  have hm : m < s.tasks.length := by omega
  by_cases hk0 : k < 0
  · rw [lockS_neg s m k hk0]
    simp only [St.c, slI, slT] at h1
    simp [C101, push_cast, -Int.not_lt, -Int.not_le, ↓evI_call, ↓evI_calli, ↓evI_callz, ↓evI_callv, ↓evI_mxn, St.c, slI, slT, h1, hk0, frzK, pt0, Pt.c]
  obtain ⟨j, rfl⟩ := nat_of k (by omega)
  rw [lockS_nat s m j ht hm]
  rcases Decidable.em (¬ j < s.tasks[m].parts.length) with hj | hj
  · have hj' : (s.tasks[m].parts.length : Int) ≤ j := by omega
    rw [List.getElem?_eq_none (by omega)]
    simp only [St.c, slI, slT] at h1
    simp [C101, push_cast, -Int.not_lt, -Int.not_le, ↓evI_call, ↓evI_calli, ↓evI_callz, ↓evI_callv, ↓evI_mxn, St.c, slI, slT, slP, Tk.c, h1, hm, hn, drop_tk _ m hm, hk0, hj', frzK, pt0, Pt.c]
  replace hj := Decidable.not_not.1 hj
  have hj' : ¬ (s.tasks[m].parts.length : Int) ≤ j := by omega
  have hj2 : (j : Int) < s.tasks[m].parts.length := by omega
  rw [List.getElem?_eq_getElem hj]
  obtain ⟨p, hp⟩ : ∃ p, p = s.tasks[m].parts[j] := ⟨_, rfl⟩
  have hdrop := drop_pt s.tasks[m].parts j hj
  rw [← hp] at hdrop ⊢
  simp only [St.c, slI, slT] at h1
  rcases (Bool.eq_false_or_eq_true (eqz p.kind 3)).symm with hk | hk
  · simp only [Option.filter_some, hk]
    simp [C101, push_cast, -Int.not_lt, -Int.not_le, ↓evI_call, ↓evI_calli, ↓evI_callz, ↓evI_callv, ↓evI_mxn, St.c, slI, slT, slP, Tk.c, Pt.c, h1, hm, hn, drop_tk _ m hm, hk0, hj', hj2, hj, hdrop, hk, frzK, pt0]
  · simp only [Option.filter_some, hk, if_true]
    simp [C101, push_cast, -Int.not_lt, -Int.not_le, ↓evI_call, ↓evI_calli, ↓evI_callz, ↓evI_callv, ↓evI_mxn, St.c, slI, slT, slP, Tk.c, Pt.c, h1, hm, hn, drop_tk _ m hm, hk0, hj', hj2, hj, hdrop, hk, frzK, pt0]
theorem agentR_loop (s : St) (hs : Sm s) (bs : List Int) (hb : ∀ b ∈ bs, I64' b) (n : Int) (p : Pt) (home lst : Int) (hl : 1 ≤ lst ∧ lst ≤ 120) :
    ∀ e : Env, (e 1 = slI bs ∧ e 2 = vi n ∧ e 4 = .ptr 0 0 ∧ e 12 = vi home ∧ e 13 = vi lst ∧ e 14 = vi lst) → ∃ a, evL tab0 ext0 0 L84_0 (e, [St.c s, Pt.c p]) = some a ∧ RQ [St.c s, Pt.c p] (lfp (fun w => lst + higherS s bs n home w) lst 3000) a := by
  have hH := fun w => higher_bounds s bs n home w
  refine rounds (go := fun e => evL tab0 ext0 0 L84_0 (e, [St.c s, Pt.c p])) (fun u v _ h => by have := higher_mono_w s bs n home h; omega) (fun v => by have := hH v; omega) (fun w e => e 1 = slI bs ∧ e 2 = vi n ∧ e 4 = .ptr 0 0 ∧ e 12 = vi home ∧ e 13 = vi lst ∧ e 14 = vi w) ?_ ?_ ?_
  · rintro w e ⟨h1, h2, h3, h4, h5, h6⟩ hw hw2
    have c : ¬ w ≤ 3000 := by omega
    exact ⟨_, (go84_0 _ _).trans (by simp [B84_0, push_cast, -Int.not_lt, -Int.not_le, ↓evI_call, ↓evI_calli, ↓evI_callz, ↓evI_callv, ↓evI_mxn, loopIn, loopIn0, keepL, emp, A.dang, A.dangC, h1, h2, h3, h4, h5, h6, c, slI, slT, St.c, Pt.c]; rfl)⟩
  · rintro w e ⟨h1, h2, h3, h4, h5, h6⟩ hw hw2 hf
    have k1 := pure_vi (k := false) (higherR_is s hs bs hb n home w ⟨by omega, by omega⟩)
    have kw := wrap_i (lst + higherS s bs n home w) (by have := hH w; omega) (by have := hH w; omega)
    rw [hf] at kw
    simp only [St.c, slI, slT] at k1
    exact ⟨_, _, (go84_0 _ _).trans (by simp [B84_0, push_cast, -Int.not_lt, -Int.not_le, ↓evI_call, ↓evI_calli, ↓evI_callz, ↓evI_callv, ↓evI_mxn, loopIn, loopIn0, keepL, emp, A.dang, A.dangC, h1, h2, h3, h4, h5, h6, hw2, slI, slT, St.c, Pt.c, k1, hf, kw, eqz_self]; exact ⟨rfl, rfl⟩), by simp [put_at]⟩
  · rintro w e ⟨h1, h2, h3, h4, h5, h6⟩ hw hw2 hf
    have k1 := pure_vi (k := false) (higherR_is s hs bs hb n home w ⟨by omega, by omega⟩)
    have kw := wrap_i (lst + higherS s bs n home w) (by have := hH w; omega) (by have := hH w; omega)
    have c1 : eqz (lst + higherS s bs n home w) w = false := by simp [eqz]; omega
    simp only [St.c, slI, slT] at k1
    exact ⟨_, (go84_0 _ _).trans (by simp [B84_0, push_cast, -Int.not_lt, -Int.not_le, ↓evI_call, ↓evI_calli, ↓evI_callz, ↓evI_callv, ↓evI_mxn, loopIn, loopIn0, keepL, emp, A.dang, A.dangC, h1, h2, h3, h4, h5, h6, hw2, slI, slT, St.c, Pt.c, k1, kw, c1]; rfl), by simp [put_at, slI]⟩
theorem agentR_is (s : St) (hs : Sm s) (bs : List Int) (hb : ∀ b ∈ bs, I64' b) (n k : Int) : Ans (ansO (agentS s bs n k)) [] (callL tab0 ext0 84 [.agg (St.c s), slI bs, vi n, vi k] []) := by
  rw [callL_tab _ _ rfl tab84 rfl]
  have h1 := lockR_is s hs n k
  unfold agentS
  cases hlk : lockS s n k with
  | none =>
    rw [hlk] at h1
    simp only [St.c, slI, slT, pt0, Pt.c, Option.getD_none, Option.isSome_none] at h1
    have e : (if bs.length = s.tasks.length then (none : Option Pt).bind fun p => lfp (fun w => leastS s n p + higherS s bs n (homeOf s p) w) (leastS s n p) 3000 else none) = none := by split <;> rfl
    rw [e]
    simp [C84, push_cast, -Int.not_lt, -Int.not_le, ↓evI_call, ↓evI_calli, ↓evI_callz, ↓evI_callv, ↓evI_mxn, St.c, slI, slT, h1]
    exact Ans.nil rfl
  | some p =>
    rw [hlk] at h1
    have hlb := least_bounds hlk
    obtain ⟨g, m, j, hm, hj, rfl, rfl, hp, hk⟩ := lockS_some hlk
    simp only [St.c, slI, slT, Pt.c, Option.getD_some, Option.isSome_some] at h1
    by_cases hl : bs.length = s.tasks.length
    · have hl' : eqz (bs.length : Int) s.tasks.length = true := by simp [eqz, hl]
      rw [if_pos hl]
      obtain ⟨r1, r2, r3⟩ := home_at g (List.getElem_mem hm) (p := p) (by rw [hp]; exact List.getElem_mem hj) hk
      have h2 := pure_vi (k := false) (lowerR_is s hs m (homeOf s p))
      have hlp := agentR_loop s hs bs hb m p (homeOf s p) (leastS s m p) hlb
      have hw : IntKind.wrap .i64 (p.len + lowerS s m (homeOf s p)) = leastS s m p := wrap_i _ (by unfold leastS at hlb; omega) (by unfold leastS at hlb; omega)
      simp only [Option.bind_some]
      generalize lfp _ _ _ = r at hlp ⊢
      simp only [St.c, slI, slT, Pt.c] at h2 hlp
      simp [C84, push_cast, -Int.not_lt, -Int.not_le, ↓evI_call, ↓evI_calli, ↓evI_callz, ↓evI_callv, ↓evI_mxn, St.c, slI, slT, h1, h2, hl', r1, r2, r3, hw]
      refine behindP (P := fun r' => Ans _ [] r') (hlp _ (by simp [put_at])) ?_
      intro a h
      cases r with
      | some v =>
        obtain ⟨e', junk, rfl, k8, k9⟩ := h
        simp [push_cast, -Int.not_lt, -Int.not_le, ↓evI_call, ↓evI_calli, ↓evI_callz, ↓evI_callv, ↓evI_mxn, k8, k9]
        exact Ans.nil rfl
      | none =>
        obtain ⟨e', rfl⟩ := h
        simp [push_cast, -Int.not_lt, -Int.not_le, ↓evI_call, ↓evI_calli, ↓evI_callz, ↓evI_callv, ↓evI_mxn]
        exact Ans.nil rfl
    · have hl' : eqz (bs.length : Int) s.tasks.length = false := by simp [eqz]; omega
      rw [if_neg hl]
      simp [C84, push_cast, -Int.not_lt, -Int.not_le, ↓evI_call, ↓evI_calli, ↓evI_callz, ↓evI_callv, ↓evI_mxn, St.c, slI, slT, h1, hl']
      exact Ans.nil rfl
end Go.Proofs.YtamblgbmdhldbaaGreatDoorEv
