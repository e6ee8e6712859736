/- swingbridgelaw17.BoundTells. -/
import Derived.Test.YtclebnamhpgdmaaGreatBound
import Derived.Test.YtclebnamhpgdmaaGreatInp
set_option linter.unusedSimpArgs false
set_option linter.unusedVariables false
namespace Go.Proofs.YtclebnamhpgdmaaGreatEv
open Go
set_option maxHeartbeats 2000000
theorem boundTells_is (s : St) (bs : List Int) (n w : Int) (_ : s.ok) (hb : ∀ b ∈ bs, I64 b) (_ : (Lit.int .i64 n).wf = true) (hw : (Lit.int .i64 w).wf = true) :
    Ans (vb true) [] (callL tab0 ext1 3 [.agg (St.c s), slI bs, vi n, vi w] []) := by
  rw [callL_tab _ _ rfl tab3 rfl]
  have h1 := pure_vb (k := false) known_5
  have h2 := pure1 (pure_vb (k := false) (few_is_6 s))
  rcases (Bool.eq_false_or_eq_true (few8 s)).symm with hs | hs
  · rw [hs] at h2
    simp only [St.c, slI, slT] at h2
    simp [C3, push_cast, -Int.not_lt, -Int.not_le, ↓evI_call, ↓evI_calli, ↓evI_callv, ↓evI_mxn, St.c, slI, slT, h1, h2]
    exact ⟨_, rfl⟩
  rw [hs] at h2
  have hs := few8_sm s hs
  by_cases hl : 10 < (bs.length : Int)
  · simp only [St.c, slI, slT] at h2
    simp [C3, push_cast, -Int.not_lt, -Int.not_le, ↓evI_call, ↓evI_calli, ↓evI_callv, ↓evI_mxn, St.c, slI, slT, h1, h2, hl]
    exact ⟨_, rfl⟩
  have h3 := pure_ansO (k := false) (own_is s hs bs hb n)
  have h4 := pure_ansO (k := false) (ownR_is s hs bs hb n)
  have h5 := pure_ansO (k := false) (next_is s hs bs hb n)
  have h6 := pure_ansO (k := false) (nextR_is s hs bs hb n)
  have h7 := pure_vi (k := false) (others_is s hs bs hb n w (i64_wf hw))
  have h8 := pure_vi (k := false) (othersR_is s hs bs hb n w (i64_wf hw))
  generalize ownS s bs n = r at h3 h4
  generalize nextS s bs n = q at h5 h6
  generalize othersS s bs n w = u at h7 h8
  simp only [St.c, slI, slT] at h2 h3 h4 h5 h6 h7 h8
  simp [C3, push_cast, -Int.not_lt, -Int.not_le, ↓evI_call, ↓evI_calli, ↓evI_callv, ↓evI_mxn, St.c, slI, slT, h1, h2, h3, h4, h5, h6, h7, h8, hl, eqz_self]
  exact ⟨_, rfl⟩
end Go.Proofs.YtclebnamhpgdmaaGreatEv
