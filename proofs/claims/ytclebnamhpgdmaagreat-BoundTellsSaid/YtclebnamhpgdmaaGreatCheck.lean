/- task.Check. -/
import Derived.Test.YtclebnamhpgdmaaGreatTask
set_option linter.unusedSimpArgs false
set_option linter.unusedVariables false
namespace Go.Proofs.YtclebnamhpgdmaaGreatEv
open Go
set_option maxHeartbeats 2000000
def errAt (s : St) (i : Nat) : Int := (s.tasks[i]?.map (taskErr s i)).getD 0
def chk (s : St) : Int × Int :=
  if s.proto < 1 ∨ 3 < s.proto then (-1, 10)
  else if placedOk s = false then (-1, 16)
  else if 6 < (s.tasks.length : Int) then (-1, 11)
  else if (s.tasks.length : Int) = 0 then (-1, 14)
  else match fstP (fun i => !eqz (errAt s i) 0) 0 s.tasks.length with
    | none => (-1, 0)
    | some k => (k, errAt s k)
theorem check_loop (s : St) (hf : Fits s) :
    ∀ d i (e : Env), i + d = s.tasks.length → (e 1 = .ptr 0 0 ∧ e 27 = vi s.tasks.length ∧ e 28 = vi i) → ∃ a, evL tab0 ext0 0 L26_1 (e, [St.c s]) = some a ∧ FQ (fun i => !eqz (errAt s i) 0) [St.c s] 1 (fun k e => e 2 = vi k ∧ e 3 = vi (errAt s k)) (fun _ => True) i d a := by
  refine fq_loop (St := fun i e => e 1 = .ptr 0 0 ∧ e 27 = vi s.tasks.length ∧ e 28 = vi i) _ _ _ _ _ ?_ ?_
  · rintro e ⟨h1, h2, h3⟩
    exact ⟨_, (go26_1 _ _).trans (by simp [B26_1, push_cast, -Int.not_lt, -Int.not_le, ↓evI_call, ↓evI_calli, ↓evI_callv, ↓evI_mxn, loopIn, loopIn0, keepL, emp, A.dang, A.dangC, h1, h2, h3, slP, slI, slT, St.c]; rfl), trivial⟩
  · rintro i e hi ⟨h1, h2, h3⟩
    rw [go26_1]
    have hi' : (i : Int) < s.tasks.length := by omega
    have ht := hf.tasks
    have hw : IntKind.wrap .i64 ((i : Int) + 1) = (i : Int) + 1 := wrap_in _ (by omega) (by omega)
    have ho := pure_vi (k := false) (one_is s i hi hf)
    have he : errAt s i = taskErr s i s.tasks[i] := by simp [errAt, hi]
    rw [he]
    simp only [St.c, slI, slT, slP] at ho
    simp +contextual [B26_1, push_cast, -Int.not_lt, -Int.not_le, ↓evI_call, ↓evI_calli, ↓evI_callv, ↓evI_mxn, loopIn, loopIn0, keepL, emp, A.dang, A.dangC, h1, h2, h3, slP, slI, slT, St.c, hi, hi', hw, ho]
    (repeat' refine Step.split (fun cc => ?_) (fun cc => ?_)) <;> first | (refine Step.ret0 ?_ ?_ <;> first | (simp_all [put_at, eqz]; done) | (simp [put_at, *]; done) | ((try simp [eqz] at *); omega)) | (refine Step.go ?_ ?_ <;> first | (simp_all [put_at, eqz]; done) | (simp [put_at, *]; done) | ((try simp [eqz] at *); omega)) | (refine Step.ret _ ?_ ?_ <;> first | (simp_all [put_at, eqz]; done) | (simp [put_at, *]; done) | ((try simp [eqz] at *); omega)) | (refine Step.goJ _ (by simp) ?_ ?_ <;> first | (simp_all [put_at, eqz]; done) | (simp [put_at, *]; done) | ((try simp [eqz] at *); omega))
theorem check_is (s : St) (hf : Fits s) : Ans (.tup [vi (chk s).1, vi (chk s).2]) [] (callL tab0 ext0 26 [.agg (St.c s)] []) := by
  rw [callL_tab _ _ rfl tab26 rfl]
  have hp := pure_vb (k := false) (placed_is s hf.cores hf.homes)
  simp only [St.c, slI, slT, slP] at hp
  simp +contextual [C26, push_cast, -Int.not_lt, -Int.not_le, ↓evI_call, ↓evI_calli, ↓evI_callv, ↓evI_mxn, St.c, slI, slT, slP, between_pure, hp]
  have hlp := check_loop s hf s.tasks.length 0
  simp only [St.c, slI, slT, slP] at hlp
  refine Ans.split (fun c1 => Ans.nil (by have c1' : s.proto < 1 ∨ 3 < s.proto := by omega
                                          simp [chk, c1'])) (fun c1 => ?_)
  replace c1 : ¬ (s.proto < 1 ∨ 3 < s.proto) := by omega
  refine Ans.split (fun c2 => Ans.nil (by simp [chk, c1, c2])) (fun c2 => ?_)
  refine Ans.split (fun c3 => Ans.nil (by have c3' : 6 < (s.tasks.length : Int) := by omega
                                          simp only [chk]; rw [if_neg c1, if_neg c2, if_pos c3'])) (fun c3 => ?_)
  replace c3 : ¬ 6 < (s.tasks.length : Int) := by omega
  refine Ans.split (fun c4 => Ans.nil (by have c4' : (s.tasks.length : Int) = 0 := by simpa [eqz] using c4
                                          have c4' : s.tasks = [] := by simpa using c4'
                                          simp [chk, c1, c2, c4'])) (fun c4 => ?_)
  have c4' : ¬ (s.tasks.length : Int) = 0 := by simpa [eqz] using c4
  have hk : chk s = match fstP (fun i => !eqz (errAt s i) 0) 0 s.tasks.length with
    | none => (-1, 0)
    | some k => (↑k, errAt s k) := by unfold chk; rw [if_neg c1, if_neg c2, if_neg c3, if_neg c4']
  refine behindP (P := fun r => Ans (.tup [vi (chk s).1, vi (chk s).2]) [] r) (hlp _ (by omega) (by simp [put_at])) ?_
  intro a h
  unfold FQ at h
  rw [hk]
  split at h
  · rename_i hf'
    obtain ⟨e', rfl, -⟩ := h
    simp +contextual [push_cast, -Int.not_lt, -Int.not_le, ↓evI_call, ↓evI_calli, ↓evI_callv, ↓evI_mxn, hf']
    exact Ans.nil rfl
  · rename_i k hf'
    obtain ⟨e', junk, rfl, h1, h2⟩ := h
    simp +contextual [push_cast, -Int.not_lt, -Int.not_le, ↓evI_call, ↓evI_calli, ↓evI_callv, ↓evI_mxn, h1, h2, hf']
    exact Ans.nil rfl
end Go.Proofs.YtclebnamhpgdmaaGreatEv
