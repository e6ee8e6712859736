/- package token: the program's. -/
import Derived.Test.YtgndbkeiickihaaFa
set_option linter.unusedSimpArgs false
set_option linter.unusedVariables false
namespace Go.Proofs.YtgndbkeiickihaaEv
open Go
set_option maxHeartbeats 2000000
def insS (s : St) (n : Int) : Int := sumTop (othR s n s.tasks.length) (coresS s - 1)
theorem topS_sum_b {l : List Int} (h : ∀ x ∈ l, 0 ≤ x ∧ x ≤ 60) (hl : l.length ≤ 12) (k : Int) : 0 ≤ sumTop l k ∧ sumTop l k ≤ 720 := by
  have ht := topS_len l k
  have h1 := sumL_ge id (topS l k) fun x hx => (h x (topS_mem hx)).1
  have h2 := sumL_le id 60 (topS l k) fun x hx => (h x (topS_mem hx)).2
  unfold sumTop; omega
theorem oth6 {s : St} (g : Good s) (n : Int) : (othR s n s.tasks.length).length ≤ 6 := by
  have := othR_len s n s.tasks.length; have := g.tasks; omega
theorem ins_bounds {s : St} (g : Good s) (n : Int) : 0 ≤ insS s n ∧ insS s n ≤ 720 :=
  topS_sum_b (othR_b g n _) (by have := oth6 g n; omega) _
theorem coresS_good {s : St} (g : Good s) : coresS s = sumL id s.cores := by unfold coresS; rw [if_pos ((okS_iff s).2 g)]
theorem cores_bounds {s : St} (g : Good s) : 0 ≤ coresS s ∧ coresS s ≤ 600 := by
  rw [coresS_good g]; have := g.sum_cores s.cores.length; rwa [List.take_length] at this
def clusterAt (s : St) (i : Nat) : Int := (s.tasks[i]?.map Tk.cluster).getD 0
theorem clusterAt_is (s : St) (i : Nat) (h : i < s.tasks.length) : clusterAt s i = s.tasks[i].cluster := by unfold clusterAt; simp [h]
def coreAt (s : St) (c : Int) : Int := s.cores[c.toNat]?.getD 0
theorem core_at {s : St} (g : Good s) {t : Tk} (ht : t ∈ s.tasks) : 0 ≤ t.cluster ∧ t.cluster < s.cores.length ∧ (s.cores.map vi).drop t.cluster.toNat = vi (coreAt s t.cluster) :: (s.cores.drop (t.cluster.toNat + 1)).map vi ∧ 1 ≤ coreAt s t.cluster ∧ coreAt s t.cluster ≤ 3 := by
  have gp := (g.task t ht).cluster
  have hh : t.cluster.toNat < s.cores.length := by omega
  have e : coreAt s t.cluster = s.cores[t.cluster.toNat] := by unfold coreAt; simp [hh]
  refine ⟨gp.1, gp.2, ?_, ?_⟩
  · rw [drop_int _ _ hh, e]
  · rw [e]; exact g.core _ (List.getElem_mem hh)
/-- How long who asks at this cluster stays at most. -/
def outF (s : St) (c : Int) (i : Nat) : Int := if eqz (clusterAt s i) c = true ∧ 0 < longAt s i then longAt s i + insS s i else 0
theorem outF_bounds {s : St} (g : Good s) (c : Int) (i : Nat) : 0 ≤ outF s c i ∧ outF s c i ≤ 780 := by
  have h1 := longAt_bounds g i
  have h2 := ins_bounds g i
  unfold outF; split <;> omega
def stayS (s : St) (c : Int) : Int := maxN (outF s c) s.tasks.length
theorem stay_bounds {s : St} (g : Good s) (c : Int) (i : Nat) : 0 ≤ maxN (outF s c) i ∧ maxN (outF s c) i ≤ 780 :=
  ⟨maxN_nonneg _ _, maxN_le (by omega) _ fun i _ => (outF_bounds g c i).2⟩
theorem stay_step (s : St) (c : Int) (i : Nat) : maxN (outF s c) (i + 1) = if eqz (clusterAt s i) c = true ∧ 0 < longAt s i then max (maxN (outF s c) i) (longAt s i + insS s i) else maxN (outF s c) i := by
  have := maxN_nonneg (outF s c) i
  rw [maxN]
  have h : outF s c i = if eqz (clusterAt s i) c = true ∧ 0 < longAt s i then longAt s i + insS s i else 0 := rfl
  rw [h]
  split <;> omega
def roundsS (s : St) (c : Int) : Int := ceilS (max (askersS s c - coreAt s c) 0) (coreAt s c)
def outS (s : St) (n : Int) : Int := if thereS s n = true then (if eqz (longAt s n.toNat) 0 = true then 0 else roundsS s (clusterAt s n.toNat) * stayS s (clusterAt s n.toNat)) else 0
def tokIn (s : St) (n k : Int) : Option Int := (lockS s n k).map fun p => p.len + insS s n
def tokS (s : St) (n k : Int) : Option Int := (tokIn s n k).map fun i => i + outS s n
theorem tokIn_b {s : St} {n k x : Int} (h : tokIn s n k = some x) : 1 ≤ x ∧ x ≤ 780 ∧ thereS s n = true := by
  unfold tokIn at h
  obtain ⟨p, hp, rfl⟩ := Option.map_eq_some_iff.1 h
  obtain ⟨g, m, j, hm, hj, en, ek, ep, hk⟩ := lockS_some hp
  have h1 : 1 ≤ p.len ∧ p.len ≤ 60 := by rw [ep]; exact (g.pts (List.getElem_mem hm)).2 _ (List.getElem_mem hj)
  have h2 := ins_bounds g n
  exact ⟨by omega, by omega, (thereS_iff s n).2 ⟨g, by omega, by omega⟩⟩
theorem asks_bounds (s : St) (c : Int) (h : s.tasks.length ≤ 10) : 0 ≤ askersS s c ∧ askersS s c ≤ 10 := by
  have := asks_take s c s.tasks.length h; rwa [List.take_length] at this
theorem rounds_bounds (s : St) (c : Int) (h : s.tasks.length ≤ 10) (h1 : 1 ≤ coreAt s c) : 0 ≤ roundsS s c ∧ roundsS s c ≤ 10 := by
  have := asks_bounds s c h
  have := ceil_le (max (askersS s c - coreAt s c) 0) (coreAt s c) (by omega) h1
  unfold roundsS; omega
theorem mul_b {a b x y : Int} (ha : 0 ≤ a) (hb : 0 ≤ b) (hx : a ≤ x) (hy : b ≤ y) : 0 ≤ a * b ∧ a * b ≤ x * y :=
  ⟨Int.mul_nonneg ha hb, Int.mul_le_mul hx hy hb (Int.le_trans ha hx)⟩
theorem out_bounds (s : St) (n : Int) : 0 ≤ outS s n ∧ outS s n ≤ 7800 := by
  unfold outS
  split
  · next ht =>
    obtain ⟨g, h0, hn⟩ := (thereS_iff s n).1 ht
    obtain ⟨m, rfl⟩ := nat_of n h0
    have hm : m < s.tasks.length := by omega
    have hc := core_at g (List.getElem_mem hm)
    rw [Int.toNat_natCast, clusterAt_is s m hm]
    have h1 := rounds_bounds s s.tasks[m].cluster (by have := g.tasks; omega) hc.2.2.2.1
    have h2 := stay_bounds g s.tasks[m].cluster s.tasks.length
    have h3 := mul_b h1.1 h2.1 h1.2 h2.2
    have e : maxN (outF s s.tasks[m].cluster) s.tasks.length = stayS s s.tasks[m].cluster := rfl
    rw [e] at h3
    split <;> omega
  · omega
theorem tokO_loop (s : St) (hs : Sm s) (n : Int) :
    ∀ d i (e : Env), i + d = s.tasks.length → (e 1 = vi n ∧ e 2 = .ptr 0 0 ∧ e 5 = .sl ((othR s n i).map vi) (othR s n i).length 2 ∧ e 9 = slT s.tasks ∧ e 10 = vi s.tasks.length ∧ e 11 = vi i) → ∃ zz, evL tab0 ext0 0 L91_0 (e, [St.c s]) = some zz ∧ FQ (fun _ => false) ([St.c s]) 0 (fun _ _ => True) (fun e => e 2 = .ptr 0 0 ∧ e 5 = .sl ((othR s n s.tasks.length).map vi) (othR s n s.tasks.length).length 2) i d zz := by
  have hc := hs.tasks
  refine fq_loop (St := fun i e => e 1 = vi n ∧ e 2 = .ptr 0 0 ∧ e 5 = .sl ((othR s n i).map vi) (othR s n i).length 2 ∧ e 9 = slT s.tasks ∧ e 10 = vi s.tasks.length ∧ e 11 = vi i) _ _ _ _ _ ?_ ?_
  · rintro e ⟨g0, g1, g2, g3, g4, g5⟩
    exact ⟨_, (go91_0 _ _).trans (by simp [B91_0, push_cast, -Int.not_lt, -Int.not_le, ↓evI_call, ↓evI_calli, ↓evI_calln, ↓evI_callz, ↓evI_callv, ↓evI_mxn, loopIn, loopIn0, keepL, emp, A.dang, A.dangC, g0, g1, g2, g3, g4, g5, slI, slT, slP, St.c, Tk.c]; rfl), by simp [put_at, g1, g2]⟩
  · rintro i e hi ⟨g0, g1, g2, g3, g4, g5⟩
    rw [go91_0]
    have hi' : (i : Int) < (s.tasks.length : Nat) := by omega
    have hw : IntKind.wrap .i64 ((i : Int) + 1) = (i : Int) + 1 := wrap_in _ (by omega) (by omega)
    have h1 := pure_vi (k := false) (longest_is s.tasks[i] (by have := hs.parts _ (List.getElem_mem hi); omega))
    have hn := othR_len s n i
    have hn2 : ((othR s n i).length + 1) * 8 ≤ 70368744177664 := by omega
    rw [othR, longAt_is s i hi]
    generalize othR s n i = q at g2 hn2 ⊢
    simp only [Tk.c, slP] at h1
    simp +contextual (maxSteps := 400000) [B91_0, push_cast, -Int.not_lt, -Int.not_le, ↓evI_call, ↓evI_calli, ↓evI_calln, ↓evI_callz, ↓evI_callv, ↓evI_mxn, loopIn, loopIn0, keepL, emp, A.dang, A.dangC, g0, g1, g2, g3, g4, g5, hi, hi', slI, slT, slP, St.c, Tk.c, drop_tk _ i hi, hw, h1, hn2, asList]
    refine Step.split (fun cc => ?_) (fun cc => ?_) <;> refine Step.goJ _ (by simp) rfl ?_ <;> simp [put_at, cc]
theorem tokO_is (s : St) (hs : Sm s) (g : Good s) (n : Int) : Ans (vi (insS s n)) [] (callL tab0 ext0 91 [.agg (St.c s), vi n] []) := by
  rw [callL_tab _ _ rfl tab91 rfl]
  have hlp := tokO_loop s hs n s.tasks.length 0
  have h1 := pure_vi (k := false) (cores_is s hs.fits)
  have hb := cores_bounds g
  have hw : IntKind.wrap .i64 (coresS s - 1) = coresS s - 1 := wrap_in _ (by omega) (by omega)
  have h2 := pure_vi (k := false) (sumT_is (othR s n s.tasks.length) (coresS s - 1) (othR_b g n _) (by have := oth6 g n; omega))
  unfold insS
  generalize othR s n s.tasks.length = q at h2 hlp ⊢
  generalize coresS s = z at h1 h2 hw ⊢
  generalize sumTop q (z - 1) = w at h2 ⊢
  simp only [St.c, slI, slT] at h1 h2 hlp
  simp [C91, push_cast, -Int.not_lt, -Int.not_le, ↓evI_call, ↓evI_calli, ↓evI_calln, ↓evI_callz, ↓evI_callv, ↓evI_mxn, St.c, slI, slT]
  refine behindP (P := fun r => Ans _ [] r) (hlp _ (by omega) (by simp [put_at, othR])) ?_
  intro a h
  obtain ⟨e', rfl, hx⟩ := h.never; clear h; have h := hx
  simp [push_cast, -Int.not_lt, -Int.not_le, ↓evI_call, ↓evI_calli, ↓evI_calln, ↓evI_callz, ↓evI_callv, ↓evI_mxn, h, h1, h2, hw]
  exact Ans.nil rfl
theorem tokIn_is (s : St) (hs : Sm s) (n k : Int) : Ans (ansO (tokIn s n k)) [] (callL tab0 ext0 62 [.agg (St.c s), vi n, vi k] []) := by
  rw [callL_tab _ _ rfl tab62 rfl]
  have h1 := pure_vb (k := false) (there_90 s n hs.fits)
  unfold tokIn
  rcases (Bool.eq_false_or_eq_true (thereS s n)).symm with ht | ht
  · rw [ht] at h1
    rw [lockS_no s n k ht]
    simp only [St.c, slI, slT] at h1
    simp [C62, push_cast, -Int.not_lt, -Int.not_le, ↓evI_call, ↓evI_calli, ↓evI_calln, ↓evI_callz, ↓evI_callv, ↓evI_mxn, St.c, slI, slT, h1]
    exact Ans.nil rfl
  rw [ht] at h1
  obtain ⟨g, h0, hn⟩ := (thereS_iff s n).1 ht
  obtain ⟨m, rfl⟩ := nat_of n h0
  have hm : m < s.tasks.length := by omega
  have hm' : (m : Int) < s.tasks.length := by omega
  by_cases hk0 : k < 0
  · have e : lockS s m k = none := by rw [rawS_lock]; unfold rawS; rw [if_neg (by omega)]; rfl
    rw [e]
    simp only [St.c, slI, slT] at h1
    simp [C62, push_cast, -Int.not_lt, -Int.not_le, ↓evI_call, ↓evI_calli, ↓evI_calln, ↓evI_callz, ↓evI_callv, ↓evI_mxn, St.c, slI, slT, h1, hk0]
    exact Ans.nil rfl
  obtain ⟨j, rfl⟩ := nat_of k (by omega)
  have d6 : ¬ (j : Int) < 0 := by omega
  have e : lockS s m j = (s.tasks[m].parts[j]?).filter fun p => eqz p.kind 3 := by rw [rawS_lock]; unfold rawS; rw [if_pos ⟨ht, by omega⟩]; simp [hm]
  rw [e]
  rcases Decidable.em (j < s.tasks[m].parts.length) with hj | hj
  · have hj' : ¬ (s.tasks[m].parts.length : Int) ≤ j := by omega
    have hj2 : (j : Int) < s.tasks[m].parts.length := by omega
    have h2 := pure_vi (k := false) (tokO_is s hs g m)
    have hb := ins_bounds g m
    have hpl := (g.pts (List.getElem_mem hm)).2 _ (List.getElem_mem hj)
    rw [List.getElem?_eq_getElem hj]
    obtain ⟨p, hp⟩ : ∃ p, p = s.tasks[m].parts[j] := ⟨_, rfl⟩
    have hdrop := drop_pt s.tasks[m].parts j hj
    rw [← hp] at hdrop hpl ⊢
    have hw : IntKind.wrap .i64 (p.len + insS s m) = p.len + insS s m := wrap_in _ (by omega) (by omega)
    generalize insS s m = w at h2 hw ⊢
    simp only [St.c, slI, slT] at h1 h2
    rcases (Bool.eq_false_or_eq_true (eqz p.kind 3)).symm with hk | hk
    · simp only [Option.filter_some, hk]
      simp [C62, push_cast, -Int.not_lt, -Int.not_le, ↓evI_call, ↓evI_calli, ↓evI_calln, ↓evI_callz, ↓evI_callv, ↓evI_mxn, St.c, slI, slT, slP, Tk.c, Pt.c, h1, h2, hm, hm', d6, drop_tk _ m hm, hj', hj2, hj, hdrop, hk, hw]
      exact Ans.nil rfl
    · simp only [Option.filter_some, hk, if_true]
      simp [C62, push_cast, -Int.not_lt, -Int.not_le, ↓evI_call, ↓evI_calli, ↓evI_calln, ↓evI_callz, ↓evI_callv, ↓evI_mxn, St.c, slI, slT, slP, Tk.c, Pt.c, h1, h2, hm, hm', d6, drop_tk _ m hm, hj', hj2, hj, hdrop, hk, hw]
      exact Ans.nil rfl
  · have hj' : (s.tasks[m].parts.length : Int) ≤ j := by omega
    rw [List.getElem?_eq_none (by omega)]
    simp only [St.c, slI, slT] at h1
    simp [C62, push_cast, -Int.not_lt, -Int.not_le, ↓evI_call, ↓evI_calli, ↓evI_calln, ↓evI_callz, ↓evI_callv, ↓evI_mxn, St.c, slI, slT, slP, Tk.c, h1, hm, hm', d6, drop_tk _ m hm, hj']
    exact Ans.nil rfl
theorem tokU_loop (s : St) (hs : Sm s) (g : Good s) (c q : Int) :
    ∀ d i (e : Env), i + d = s.tasks.length → (e 2 = .ptr 0 0 ∧ e 5 = vi c ∧ e 6 = vi q ∧ e 7 = vi (maxN (outF s c) i) ∧ e 37 = slT s.tasks ∧ e 38 = vi s.tasks.length ∧ e 39 = vi i) → ∃ zz, evL tab0 ext0 0 L63_0 (e, [St.c s]) = some zz ∧ FQ (fun _ => false) ([St.c s]) 0 (fun _ _ => True) (fun e => e 2 = .ptr 0 0 ∧ e 5 = vi c ∧ e 6 = vi q ∧ e 7 = vi (stayS s c)) i d zz := by
  have hc := hs.tasks
  refine fq_loop (St := fun i e => e 2 = .ptr 0 0 ∧ e 5 = vi c ∧ e 6 = vi q ∧ e 7 = vi (maxN (outF s c) i) ∧ e 37 = slT s.tasks ∧ e 38 = vi s.tasks.length ∧ e 39 = vi i) _ _ _ _ _ ?_ ?_
  · rintro e ⟨g0, g1, g2, g3, g4, g5, g6⟩
    exact ⟨_, (go63_0 _ _).trans (by simp [B63_0, push_cast, -Int.not_lt, -Int.not_le, ↓evI_call, ↓evI_calli, ↓evI_calln, ↓evI_callz, ↓evI_callv, ↓evI_mxn, loopIn, loopIn0, keepL, emp, A.dang, A.dangC, g0, g1, g2, g3, g4, g5, g6, slI, slT, slP, St.c, Tk.c]; rfl), by simp [put_at, g0, g1, g2, g3, stayS]⟩
  · rintro i e hi ⟨g0, g1, g2, g3, g4, g5, g6⟩
    rw [go63_0]
    have hi' : (i : Int) < (s.tasks.length : Nat) := by omega
    have hw : IntKind.wrap .i64 ((i : Int) + 1) = (i : Int) + 1 := wrap_in _ (by omega) (by omega)
    have h1 := pure_vi (k := false) (longest_is s.tasks[i] (by have := hs.parts _ (List.getElem_mem hi); omega))
    have h2 := pure_vi (k := false) (tokO_is s hs g i)
    have b1 := longAt_bounds g i
    have b2 := ins_bounds g i
    rw [stay_step, clusterAt_is s i hi]
    rw [longAt_is s i hi] at b1 ⊢
    have hw2 : IntKind.wrap .i64 (longest s.tasks[i].parts + insS s i) = longest s.tasks[i].parts + insS s i := wrap_in _ (by omega) (by omega)
    have hf : foldM true (maxN (outF s c) i) [vi (longest s.tasks[i].parts + insS s i)] = some (max (maxN (outF s c) i) (longest s.tasks[i].parts + insS s i)) := by show some (if longest s.tasks[i].parts + insS s i > maxN (outF s c) i then _ else _) = _; congr 1; split <;> omega
    generalize maxN (outF s c) i = u at g3 hf ⊢
    generalize insS s i = w at h2 hw2 hf ⊢
    simp only [St.c, slI, slT, Tk.c, slP] at h1 h2
    simp +contextual (maxSteps := 400000) [B63_0, push_cast, -Int.not_lt, -Int.not_le, ↓evI_call, ↓evI_calli, ↓evI_calln, ↓evI_callz, ↓evI_callv, ↓evI_mxn, loopIn, loopIn0, keepL, emp, A.dang, A.dangC, g0, g1, g2, g3, g4, g5, g6, hi, hi', slI, slT, slP, St.c, Tk.c, drop_tk _ i hi, hw, hw2, h1, h2, hf]
    (repeat' refine Step.split (fun cc => ?_) (fun cc => ?_)) <;> first | (refine Step.ret0 ?_ ?_ <;> first | (simp_all [put_at, eqz]; done) | (simp [put_at, *]; done) | ((try simp [eqz] at *); omega)) | (refine Step.go ?_ ?_ <;> first | (simp_all [put_at, eqz]; done) | (simp [put_at, *]; done) | ((try simp [eqz] at *); omega)) | (refine Step.ret _ ?_ ?_ <;> first | (simp_all [put_at, eqz]; done) | (simp [put_at, *]; done) | ((try simp [eqz] at *); omega)) | (refine Step.goJ _ (by simp) ?_ ?_ <;> first | (simp_all [put_at, eqz]; done) | (simp [put_at, *]; done) | ((try simp [eqz] at *); omega))
theorem tokU_is (s : St) (hs : Sm s) (n : Int) : Ans (vi (outS s n)) [] (callL tab0 ext0 63 [.agg (St.c s), vi n] []) := by
  rw [callL_tab _ _ rfl tab63 rfl]
  have h1 := pure_vb (k := false) (there_90 s n hs.fits)
  unfold outS
  rcases (Bool.eq_false_or_eq_true (thereS s n)).symm with ht | ht
  · rw [ht] at h1
    rw [ht]
    simp only [St.c, slI, slT] at h1
    simp [C63, push_cast, -Int.not_lt, -Int.not_le, ↓evI_call, ↓evI_calli, ↓evI_calln, ↓evI_callz, ↓evI_callv, ↓evI_mxn, St.c, slI, slT, h1]
    exact Ans.nil rfl
  rw [ht] at h1
  rw [if_pos ht]
  obtain ⟨g, h0, hn⟩ := (thereS_iff s n).1 ht
  obtain ⟨m, rfl⟩ := nat_of n h0
  have hm : m < s.tasks.length := by omega
  have hm' : (m : Int) < s.tasks.length := by omega
  have h2 := pure_vi (k := false) (longest_is s.tasks[m] (by have := hs.parts _ (List.getElem_mem hm); omega))
  rw [Int.toNat_natCast, longAt_is s m hm, clusterAt_is s m hm]
  rcases (Bool.eq_false_or_eq_true (eqz (longest s.tasks[m].parts) 0)).symm with hz | hz
  · rw [hz]
    obtain ⟨k1, k2, k3, k4, k5⟩ := core_at g (List.getElem_mem hm)
    have h3 := pure_vi (k := false) (askers_is s s.tasks[m].cluster hs)
    have b1 := asks_bounds s s.tasks[m].cluster (by have := hs.tasks; omega)
    have h4 := pure_tupb (k := false) (up_is (max (askersS s s.tasks[m].cluster - coreAt s s.tasks[m].cluster) 0) (coreAt s s.tasks[m].cluster) (by omega) k4 (by omega) (by omega))
    have b2 := rounds_bounds s s.tasks[m].cluster (by have := hs.tasks; omega) k4
    have b3 := stay_bounds g s.tasks[m].cluster s.tasks.length
    have e3 : maxN (outF s s.tasks[m].cluster) s.tasks.length = stayS s s.tasks[m].cluster := rfl
    rw [e3] at b3
    have b4 := mul_b b2.1 b3.1 b2.2 b3.2
    have hw : IntKind.wrap .i64 (roundsS s s.tasks[m].cluster * stayS s s.tasks[m].cluster) = roundsS s s.tasks[m].cluster * stayS s s.tasks[m].cluster := wrap_in _ (by omega) (by omega)
    have hw2 : IntKind.wrap .i64 (askersS s s.tasks[m].cluster - coreAt s s.tasks[m].cluster) = askersS s s.tasks[m].cluster - coreAt s s.tasks[m].cluster := wrap_in _ (by omega) (by omega)
    have e4 : ceilS (max (askersS s s.tasks[m].cluster - coreAt s s.tasks[m].cluster) 0) (coreAt s s.tasks[m].cluster) = roundsS s s.tasks[m].cluster := rfl
    rw [e4] at h4
    have hf : foldM true (askersS s s.tasks[m].cluster - coreAt s s.tasks[m].cluster) [vi 0] = some (max (askersS s s.tasks[m].cluster - coreAt s s.tasks[m].cluster) 0) := by show some (if 0 > _ then 0 else _) = _; congr 1; split <;> omega
    have hlp := tokU_loop s hs g s.tasks[m].cluster (coreAt s s.tasks[m].cluster) s.tasks.length 0
    have hd := drop_tk s.tasks m hm
    generalize roundsS s s.tasks[m].cluster = r at h4 hw ⊢
    generalize stayS s s.tasks[m].cluster = w at hlp hw ⊢
    generalize askersS s s.tasks[m].cluster = a at h3 h4 hw2 hf
    generalize coreAt s s.tasks[m].cluster = o at hlp h4 hw2 hf k3
    simp only [St.c, slI, slT, slP, Tk.c] at h1 h2 h3 hlp hd
    generalize s.tasks[m].cluster = c at *
    generalize max (a - o) 0 = z at *
    simp [C63, push_cast, -Int.not_lt, -Int.not_le, ↓evI_call, ↓evI_calli, ↓evI_calln, ↓evI_callz, ↓evI_callv, ↓evI_mxn, St.c, slI, slT, slP, Tk.c, h1, h2, hm, hm', hd, hz, k1, k2, k3]
    refine behindP (P := fun r => Ans _ [] r) (hlp _ (by omega) (by simp [put_at, maxN])) ?_
    intro a h
    obtain ⟨e', rfl, hx⟩ := h.never; clear h; have h := hx
    simp [push_cast, -Int.not_lt, -Int.not_le, ↓evI_call, ↓evI_calli, ↓evI_calln, ↓evI_callz, ↓evI_callv, ↓evI_mxn, h, h3, h4, hw, hw2, hf]
    exact Ans.nil rfl
  · rw [hz]
    simp only [St.c, slI, slT, slP, Tk.c] at h1 h2
    simp [C63, push_cast, -Int.not_lt, -Int.not_le, ↓evI_call, ↓evI_calli, ↓evI_calln, ↓evI_callz, ↓evI_callv, ↓evI_mxn, St.c, slI, slT, slP, Tk.c, h1, h2, hm, hm', drop_tk _ m hm, hz]
    exact Ans.nil rfl
theorem tok_is (s : St) (hs : Sm s) (n k : Int) : Ans (ansO (tokS s n k)) [] (callL tab0 ext0 46 [.agg (St.c s), vi n, vi k] []) := by
  rw [callL_tab _ _ rfl tab46 rfl]
  have h1 := pure_ansO (k := false) (tokIn_is s hs n k)
  have h2 := pure_vi (k := false) (tokU_is s hs n)
  have hb := out_bounds s n
  unfold tokS
  cases hr : tokIn s n k with
  | none =>
    rw [hr] at h1
    simp only [St.c, slI, slT] at h1
    simp [C46, push_cast, -Int.not_lt, -Int.not_le, ↓evI_call, ↓evI_calli, ↓evI_calln, ↓evI_callz, ↓evI_callv, ↓evI_mxn, St.c, slI, slT, h1]
    exact Ans.nil rfl
  | some x =>
    rw [hr] at h1
    have hb2 := tokIn_b hr
    have hw : IntKind.wrap .i64 (x + outS s n) = x + outS s n := wrap_in _ (by omega) (by omega)
    generalize outS s n = w at h2 hw ⊢
    simp only [St.c, slI, slT] at h1 h2
    simp [C46, push_cast, -Int.not_lt, -Int.not_le, ↓evI_call, ↓evI_calli, ↓evI_calln, ↓evI_callz, ↓evI_callv, ↓evI_mxn, St.c, slI, slT, h1, h2, hw]
    exact Ans.nil rfl
end Go.Proofs.YtgndbkeiickihaaEv
/- The reference's waits at gates. -/
namespace Go.Proofs.YtgndbkeiickihaaEv
open Go
set_option maxHeartbeats 2000000
end Go.Proofs.YtgndbkeiickihaaEv
