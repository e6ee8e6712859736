/- swingbridgelaw22.TurnTells. -/
import Derived.Test.YtkohggddaheefaaWhoI
set_option linter.unusedSimpArgs false
set_option linter.unusedVariables false
namespace Go.Proofs.YtkohggddaheefaaEv
open Go
set_option maxHeartbeats 1000000
theorem turnTells_is (a b : Wh) (l : List Wh) (k : Int) (_ : a.ok) (_ : b.ok) (_ : ∀ p ∈ l, p.ok) (_ : (Lit.int .i64 k).wf = true) : Ans (vb true) [] (callL tab0 ext0 9 [.agg (whc a), .agg (whc b), slW l, vi k] []) := by
  rw [callL_tab _ _ rfl tab9 rfl]
  have h1 := pure_vb (k := false) known_34
  by_cases hl : l.length ≤ 40
  · have h2 := ahead_w a b
    have h3 := ahead_r a b
    have h4 := first_w l k (by omega)
    have h5 := first_r l k (by omega)
    have h6 : pureOf (callL tab0 ext0) false 37 [slI (firstW l k), slI (firstW l k)] = some (vb true) := by
      have hle : (firstW l k).length ≤ 100000 := by simp only [firstW, List.length_map, List.length_take, ss_len]; omega
      have := pure_vb (k := false) (si_is (firstW l k) (firstW l k) hle)
      simpa using this
    have c1 : ¬ (40 : Int) < l.length := by omega
    have c2 : ¬ 40 < l.length := by omega
    simp only [whc, slI] at h2 h3 h4 h5 h6
    unfold slW
    generalize fg whc l = B at *
    generalize (firstW l k).map vi = M at *
    simp [C9, push_cast, -Int.not_lt, -Int.not_le, ↓evI_call, ↓evI_calli, ↓evI_callz, ↓evI_callv, ↓evI_mxn, whc, slW, h1, h2, h3, h4, h5, h6, c1, c2]
    exact ⟨_, rfl⟩
  · have c1 : (40 : Int) < l.length := by omega
    have c2 : 40 < l.length := by omega
    simp [C9, push_cast, -Int.not_lt, -Int.not_le, ↓evI_call, ↓evI_calli, ↓evI_callz, ↓evI_callv, ↓evI_mxn, whc, slW, h1, c1, c2]
    exact ⟨_, rfl⟩
end Go.Proofs.YtkohggddaheefaaEv
