/- package wait: the program's, the reference's Part. -/
import Derived.Test.YtclebnamhpgdmaaGreatTokenR
set_option linter.unusedSimpArgs false
set_option linter.unusedVariables false
namespace Go.Proofs.YtclebnamhpgdmaaGreatEv
open Go
set_option maxHeartbeats 2000000
def partS (s : St) (bs : List Int) (n k : Int) : Option Int := if bs.length = s.tasks.length then (if eqz s.proto 1 = true then fairS s n k else if eqz s.proto 2 = true then agentS s bs n k else tokS s n k) else none
theorem part_is' (s : St) (hs : Sm s) (bs : List Int) (hb : ∀ b ∈ bs, I64' b) (n k : Int) : Ans (ansO (partS s bs n k)) [] (callL tab0 ext0 58 [.agg (St.c s), slI bs, vi n, vi k] []) := by
  rw [callL_tab _ _ rfl tab58 rfl]
  have h1 := pure_ansO (k := false) (fair_is s hs n k)
  have h2 := pure_ansO (k := false) (agent_is s hs bs hb n k)
  have h3 := pure_ansO (k := false) (tok_is s hs n k)
  unfold partS
  by_cases hl : bs.length = s.tasks.length
  · rw [if_pos hl]
    have hl' : eqz (bs.length : Int) s.tasks.length = true := by simp [eqz, hl]
    generalize fairS s n k = r1 at *
    generalize agentS s bs n k = r2 at *
    generalize tokS s n k = r3 at *
    simp only [St.c, slI, slT] at h1 h2 h3
    rcases (Bool.eq_false_or_eq_true (eqz s.proto 1)).symm with p1 | p1
    · rcases (Bool.eq_false_or_eq_true (eqz s.proto 2)).symm with p2 | p2
      · rw [if_neg (by simp [p1]), if_neg (by simp [p2])]
        simp [C58, push_cast, -Int.not_lt, -Int.not_le, ↓evI_call, ↓evI_calli, ↓evI_callv, ↓evI_mxn, St.c, slI, slT, hl', p1, p2, h3]
        exact Ans.nil rfl
      · rw [if_neg (by simp [p1]), if_pos p2]
        simp [C58, push_cast, -Int.not_lt, -Int.not_le, ↓evI_call, ↓evI_calli, ↓evI_callv, ↓evI_mxn, St.c, slI, slT, hl', p1, p2, h2]
        exact Ans.nil rfl
    · rw [if_pos p1]
      simp [C58, push_cast, -Int.not_lt, -Int.not_le, ↓evI_call, ↓evI_calli, ↓evI_callv, ↓evI_mxn, St.c, slI, slT, hl', p1, h1]
      exact Ans.nil rfl
  · rw [if_neg hl]
    have hl' : eqz (bs.length : Int) s.tasks.length = false := by simp [eqz]; omega
    simp [C58, push_cast, -Int.not_lt, -Int.not_le, ↓evI_call, ↓evI_calli, ↓evI_callv, ↓evI_mxn, St.c, slI, slT, hl']
    exact Ans.nil rfl
theorem partR' (s : St) (hs : Sm s) (bs : List Int) (hb : ∀ b ∈ bs, I64' b) (n k : Int) : Ans (ansO (partS s bs n k)) [] (callL tab0 ext0 62 [.agg (St.c s), slI bs, vi n, vi k] []) := by
  rw [callL_tab _ _ rfl tab62 rfl]
  have h1 := pure_ansO (k := false) (fairR_is s hs n k)
  have h2 := pure_ansO (k := false) (agentR_is s hs bs hb n k)
  have h3 := pure_ansO (k := false) (tokR_is s hs n k)
  unfold partS
  by_cases hl : bs.length = s.tasks.length
  · rw [if_pos hl]
    have hl' : eqz (bs.length : Int) s.tasks.length = true := by simp [eqz, hl]
    generalize fairS s n k = r1 at *
    generalize agentS s bs n k = r2 at *
    generalize tokS s n k = r3 at *
    simp only [St.c, slI, slT] at h1 h2 h3
    rcases (Bool.eq_false_or_eq_true (eqz s.proto 1)).symm with p1 | p1
    · rcases (Bool.eq_false_or_eq_true (eqz s.proto 2)).symm with p2 | p2
      · rw [if_neg (by simp [p1]), if_neg (by simp [p2])]
        simp [C62, push_cast, -Int.not_lt, -Int.not_le, ↓evI_call, ↓evI_calli, ↓evI_callv, ↓evI_mxn, St.c, slI, slT, hl', p1, p2, h3]
        exact Ans.nil rfl
      · rw [if_neg (by simp [p1]), if_pos p2]
        simp [C62, push_cast, -Int.not_lt, -Int.not_le, ↓evI_call, ↓evI_calli, ↓evI_callv, ↓evI_mxn, St.c, slI, slT, hl', p1, p2, h2]
        exact Ans.nil rfl
    · rw [if_pos p1]
      simp [C62, push_cast, -Int.not_lt, -Int.not_le, ↓evI_call, ↓evI_calli, ↓evI_callv, ↓evI_mxn, St.c, slI, slT, hl', p1, h1]
      exact Ans.nil rfl
  · rw [if_neg hl]
    have hl' : eqz (bs.length : Int) s.tasks.length = false := by simp [eqz]; omega
    simp [C62, push_cast, -Int.not_lt, -Int.not_le, ↓evI_call, ↓evI_calli, ↓evI_callv, ↓evI_mxn, St.c, slI, slT, hl']
    exact Ans.nil rfl
end Go.Proofs.YtclebnamhpgdmaaGreatEv
