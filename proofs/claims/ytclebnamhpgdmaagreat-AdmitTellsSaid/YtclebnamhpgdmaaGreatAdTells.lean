/- swingbridgelaw18.AdmitTells. -/
import Derived.Test.YtclebnamhpgdmaaGreatAdmitR
import Derived.Test.YtclebnamhpgdmaaGreatExt2
import Derived.Test.YtclebnamhpgdmaaGreatIn1
set_option linter.unusedSimpArgs false
set_option linter.unusedVariables false
namespace Go.Proofs.YtclebnamhpgdmaaGreatEv
open Go
set_option maxHeartbeats 2000000
theorem admitTells_is (s : St) (bs : List Int) (_ : s.ok) (hb : ∀ b ∈ bs, I64 b) :
    Ans (vb true) [] (callL tab0 ext2 4 [.agg (St.c s), slI bs] []) := by
  rw [callL_tab _ _ rfl tab4 rfl]
  have h1 := pure_vb (k := false) known_13
  have h2 := pure2 (pure1 (pure_vb (k := false) (few_is_14 s)))
  rcases (Bool.eq_false_or_eq_true (few8 s)).symm with hs | hs
  · rw [hs] at h2
    simp only [St.c, slI, slT] at h2
    simp [C4, push_cast, -Int.not_lt, -Int.not_le, ↓evI_call, ↓evI_calli, ↓evI_callv, ↓evI_mxn, St.c, slI, slT, h1, h2]
    exact ⟨_, rfl⟩
  rw [hs] at h2
  have hs := few8_sm s hs
  by_cases hl : 10 < (bs.length : Int)
  · simp only [St.c, slI, slT] at h2
    simp [C4, push_cast, -Int.not_lt, -Int.not_le, ↓evI_call, ↓evI_calli, ↓evI_callv, ↓evI_mxn, St.c, slI, slT, h1, h2, hl]
    exact ⟨_, rfl⟩
  have h3 := pure2 (analyze_is s hs)
  have h4 := pure2 (analyzeR_is s hs)
  have h5 := pure2 (pure_vb (k := false) (holds_is s hs bs hb))
  have h6 := pure2 (pure_vb (k := false) (holdsR_is s hs bs hb))
  have h7 := pure2 (pure1 (pure_vb (k := false) (sameV_is (anS s).1 (anS_small s hs))))
  generalize (anS s).1 = v at *
  generalize (anS s).2 = z at *
  generalize holdsS s bs = q at *
  simp only [St.c, slI, slT, Vd.c, slW] at h2 h3 h4 h5 h6 h7
  simp [C4, push_cast, -Int.not_lt, -Int.not_le, ↓evI_call, ↓evI_calli, ↓evI_callv, ↓evI_mxn, St.c, slI, slT, Vd.c, slW, h1, h2, h3, h4, h5, h6, h7, hl, eqz_self]
  exact ⟨_, rfl⟩
end Go.Proofs.YtclebnamhpgdmaaGreatEv
