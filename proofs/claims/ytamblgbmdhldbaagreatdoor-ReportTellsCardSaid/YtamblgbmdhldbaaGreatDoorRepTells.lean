/- swingbridgelaw19.ReportTells. -/
import Derived.Test.YtamblgbmdhldbaaGreatDoorRepR
set_option linter.unusedSimpArgs false
set_option linter.unusedVariables false
namespace Go.Proofs.YtamblgbmdhldbaaGreatDoorEv
open Go
set_option maxHeartbeats 2000000
theorem reportTells_is (s : St) (_ : s.ok) : Ans (vb true) [] (callL tab0 ext5 3 [.agg (St.c s)] []) := by
  rw [callL_tab _ _ rfl tab3 rfl]
  have h1 := pure_vb (k := false) known_7
  have h2 := pure5 (pure1 (pure_vb (k := false) (few_is_8 s)))
  rcases (Bool.eq_false_or_eq_true (few8 s)).symm with hs | hs
  · rw [hs] at h2
    simp only [St.c, slI, slT] at h2
    simp [C3, push_cast, -Int.not_lt, -Int.not_le, ↓evI_call, ↓evI_calli, ↓evI_callz, ↓evI_callv, ↓evI_mxn, St.c, slI, slT, h1, h2]
    exact ⟨_, rfl⟩
  rw [hs] at h2
  have hs := few8_sm s hs
  have h3 := lines_is s hs
  have h4 := reportR_is s hs
  have h5 := pure5 (pure1 (same_is (linesS s).1 (lines_few s hs)))
  generalize (linesS s).1 = l at *
  generalize (linesS s).2 = z at *
  simp only [St.c, slI, slT, slS] at h2 h3 h4 h5
  simp [C3, push_cast, -Int.not_lt, -Int.not_le, ↓evI_call, ↓evI_calli, ↓evI_callz, ↓evI_callv, ↓evI_mxn, St.c, slI, slT, slS, h1, h2, h3, h4, h5, eqz_self]
  exact ⟨_, rfl⟩
end Go.Proofs.YtamblgbmdhldbaaGreatDoorEv
