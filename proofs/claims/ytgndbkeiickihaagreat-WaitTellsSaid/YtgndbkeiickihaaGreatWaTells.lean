/- swingbridgelaw16.WaitTells. -/
import Derived.Test.YtgndbkeiickihaaGreatWaitSum
import Derived.Test.YtgndbkeiickihaaGreatInp
import Derived.Test.YtgndbkeiickihaaGreatEq2
set_option linter.unusedSimpArgs false
set_option linter.unusedVariables false
namespace Go.Proofs.YtgndbkeiickihaaGreatEv
open Go
set_option maxHeartbeats 2000000
theorem pure_tup2b {Φ : CallF} {k f args a b} (h : Ans (.tup [vi a, vb b]) [] (Φ f args [])) : pureOf Φ k f args = some (.tup [vi a, vb b]) := by
  obtain ⟨j, h⟩ := h
  exact pureOf_eq h rfl
theorem waitTells_is (s : St) (bs : List Int) (n k : Int) (_ : s.ok) (hb : ∀ b ∈ bs, I64 b) (_ : (Lit.int .i64 n).wf = true) (_ : (Lit.int .i64 k).wf = true) :
    Ans (vb true) [] (callL tab0 ext0 3 [.agg (St.c s), slI bs, vi n, vi k] []) := by
  rw [callL_tab _ _ rfl tab3 rfl]
  have h1 := pure_vb (k := false) known_4
  have h2 := pure_vb (k := false) (few_is_5 s)
  rcases (Bool.eq_false_or_eq_true (few8 s)).symm with hs | hs
  · rw [hs] at h2
    simp only [St.c, slI, slT] at h2
    simp [C3, push_cast, -Int.not_lt, -Int.not_le, ↓evI_call, ↓evI_calli, ↓evI_callv, ↓evI_mxn, St.c, slI, slT, h1, h2]
    exact ⟨_, rfl⟩
  rw [hs] at h2
  have hs := few8_sm s hs
  by_cases hl : 10 < (bs.length : Int)
  · simp only [St.c, slI, slT] at h2
    simp [C3, push_cast, -Int.not_lt, -Int.not_le, ↓evI_call, ↓evI_calli, ↓evI_callv, ↓evI_mxn, St.c, slI, slT, h1, h2, hl]
    exact ⟨_, rfl⟩
  have h3 := pure_ansO (k := false) (part_is' s hs bs hb n k)
  have h4 := pure_ansO (k := false) (partR' s hs bs hb n k)
  have h5 := waits_is s hs bs hb n
  have h6 := waitsR_is s hs bs hb n
  have h7 := pure_tup2b (k := false) (wsum_is s hs bs hb n)
  have h8 := pure_tup2b (k := false) (wsumR_is s hs bs hb n)
  generalize partS s bs n k = r at h3 h4
  generalize wsumS s bs n = q at h7 h8
  have hw : ((waitsS s bs n).getD []).length ≤ 4611686018427387904 := by have := waits_few hs bs n; omega
  generalize (waitsS s bs n).getD [] = w at h5 h6 hw
  generalize (waitsS s bs n).isSome = u at h5 h6 h7 h8
  have h9 := pure_vb (k := false) (eqR2_is w w hw)
  rw [decide_eq_true rfl] at h9
  simp only [St.c, slI, slT] at h2 h3 h4 h5 h6 h7 h8 h9
  simp [C3, push_cast, -Int.not_lt, -Int.not_le, ↓evI_call, ↓evI_calli, ↓evI_callv, ↓evI_mxn, St.c, slI, slT, h1, h2, h3, h4, h5, h6, h7, h8, h9, hl, eqz_self]
  exact ⟨_, rfl⟩
end Go.Proofs.YtgndbkeiickihaaGreatEv
