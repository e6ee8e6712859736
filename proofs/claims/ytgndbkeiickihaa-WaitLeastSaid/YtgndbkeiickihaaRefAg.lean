/- The reference's demands, agents. -/
import Derived.Test.YtgndbkeiickihaaAg
import Derived.Test.YtgndbkeiickihaaRef7
set_option linter.unusedSimpArgs false
set_option linter.unusedVariables false
namespace Go.Proofs.YtgndbkeiickihaaEv
open Go
set_option maxHeartbeats 2000000
theorem thereR_is (s : St) (n : Int) (hf : Fits s) : Ans (vb (thereS s n)) [] (callL tab0 ext0 26 [.agg (St.c s), vi n] []) := by
  rw [callL_tab _ _ rfl tab26 rfl]
  have h1 := pure_vb (k := false) (okR_is s hf)
  have e : eqz (chk s).2 0 = okS s := rfl
  rw [e] at h1
  unfold thereS
  generalize okS s = c at h1 ⊢
  simp only [St.c, slI, slT] at h1
  simp +contextual [C26, push_cast, -Int.not_lt, -Int.not_le, ↓evI_call, ↓evI_calli, ↓evI_calln, ↓evI_callz, ↓evI_callv, ↓evI_mxn, St.c, slI, slT, h1]
  refine Ans.nil ?_
  congr 2
def lkF (s : St) (c : Int) (p : Pt) : Int := if lockAt s c p = true then p.len else 0
theorem at_eq {s : St} (g : Good s) (m : Nat) (h : m < s.tasks.length) (c : Int) : atS s m c = sumL (lkF s c) s.tasks[m].parts ∧ mostS s m c = maxL (lkF s c) s.tasks[m].parts := by
  have ht : thereS s m = true := by rw [there_nat s m h]; exact (okS_iff s).2 g
  have e : homedS s m c = homedL s s.tasks[m].parts c := by unfold homedS; rw [if_pos ht]; simp [h]
  unfold atS mostS
  rw [e]; unfold homedL; rw [sumL_map, sumL_filter, maxL_map, maxL_filter]
  exact ⟨rfl, rfl⟩
theorem at_no {s : St} {n : Int} (h : thereS s n = false) (c : Int) : atS s n c = 0 ∧ mostS s n c = 0 := by
  have e : homedS s n c = [] := by unfold homedS; rw [if_neg (by simp [h])]
  unfold atS mostS; rw [e]; exact ⟨rfl, rfl⟩
theorem lkF_bounds {s : St} (g : Good s) {t : Tk} (ht : t ∈ s.tasks) (c : Int) (i : Nat) : 0 ≤ sumL (lkF s c) (t.parts.take i) ∧ sumL (lkF s c) (t.parts.take i) ≤ 600 := by
  have hp := g.pts ht
  have h2 : ∀ p ∈ t.parts.take i, 0 ≤ lkF s c p ∧ lkF s c p ≤ 60 := by
    intro p h
    have := hp.2 p (List.mem_of_mem_take h)
    unfold lkF; split <;> omega
  have h3 := sumL_ge _ _ fun p h => (h2 p h).1
  have h4 := sumL_le _ 60 _ fun p h => (h2 p h).2
  have h5 : (t.parts.take i).length ≤ 10 := by rw [List.length_take]; have := hp.1; omega
  omega
theorem lkF_step (s : St) (c : Int) (l : List Pt) (i : Nat) (h : i < l.length) : (sumL (lkF s c) (l.take (i + 1)) = if eqz l[i].kind 3 = true ∧ eqz (homeOf s l[i]) c = true then sumL (lkF s c) (l.take i) + l[i].len else sumL (lkF s c) (l.take i)) ∧
    (maxL (lkF s c) (l.take (i + 1)) = if eqz l[i].kind 3 = true ∧ eqz (homeOf s l[i]) c = true then (if maxL (lkF s c) (l.take i) < l[i].len then l[i].len else maxL (lkF s c) (l.take i)) else maxL (lkF s c) (l.take i)) := by
  have hn := maxL_nonneg (lkF s c) (l.take i)
  rw [sumL_take _ _ _ h, maxL_take _ _ _ h, max_if]
  have e : lkF s c l[i] = if eqz l[i].kind 3 = true ∧ eqz (homeOf s l[i]) c = true then l[i].len else 0 := by unfold lkF lockAt; simp only [Bool.and_eq_true]
  rw [e]
  by_cases hh : eqz l[i].kind 3 = true ∧ eqz (homeOf s l[i]) c = true
  · simp only [if_pos hh, and_self]
  · simp only [if_neg hh]; refine ⟨by omega, ?_⟩; rw [if_neg (by omega)]
/-! ### a task's Lock, an agent's answer -/
def pt0 : Pt := ⟨0, 0, 0⟩
end Go.Proofs.YtgndbkeiickihaaEv
