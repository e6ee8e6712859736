/- swingbridgelaw2.SortedTells. -/
import Derived.Test.YtgndbkeiickihaaSoY
import Derived.Test.YtgndbkeiickihaaItemI
set_option linter.unusedSimpArgs false
set_option linter.unusedVariables false
namespace Go.Proofs.YtgndbkeiickihaaEv
open Go
set_option maxHeartbeats 1000000
set_option maxRecDepth 100000
theorem sortedTells_is (L : List It) (x : It) (n : List Int) (k : Int) (_ : ∀ p ∈ L, p.ok) (_ : x.ok) (_ : ∀ x ∈ n, I64 x) (_ : (Lit.int .i64 k).wf = true) : Ans (vb true) [] (callL tab0 extP 3 [slX L, .agg (itc x), slI n, vi k] []) := by
  rw [callL_tab _ _ (by rw [extP_no (by decide) (by decide)]; rfl) tab3 rfl]
  have hk := knownP
  by_cases hL : L.length > 50
  · have hL' : (50 : Int) < L.length := by omega
    simp [C3, push_cast, -Int.not_lt, -Int.not_le, ↓evI_call, ↓evI_calli, ↓evI_calln, ↓evI_callz, ↓evI_callv, ↓evI_mxn, slX, itc, hk, hL']
    exact Ans.nil rfl
  have hL' : ¬ (50 : Int) < L.length := by omega
  by_cases hn : n.length > 50
  · have hn' : (50 : Int) < n.length := by omega
    simp [C3, push_cast, -Int.not_lt, -Int.not_le, ↓evI_call, ↓evI_calli, ↓evI_calln, ↓evI_callz, ↓evI_callv, ↓evI_mxn, slX, slI, itc, hk, hL', hn']
    exact Ans.nil rfl
  have hn' : ¬ (50 : Int) < n.length := by omega
  have hl : (ss ilt L).length = L.length := ss_len ..
  have hl2 : (mge ilt (ss ilt L) [x]).length ≤ 1000 := by
    rw [(mge_perm ilt _ (ss ilt L) [x] (Nat.le_refl _)).length_eq]; simp only [List.length_append, hl, List.length_cons, List.length_nil]; omega
  have htl := topS_len n k
  have h1 := pureP (refSort_is L (by omega))
  have h2 := pureP (sortP_is L (by omega))
  have h3 := pureP (sameI_is (ss ilt L) (by omega))
  have h4 := pureP (is_is L (by omega))
  have h5 := pureP (pure_vb (k := false) (refIs_is L (by omega)))
  have h6 := putP L x (by omega)
  have h7 := pureP (refPut_is (ss ilt L) x (by omega))
  have h8 := pureP (sameI_is (mge ilt (ss ilt L) [x]) hl2)
  have h9 := topP n k (by omega)
  have h10 := pureP (topR_is n k (by omega))
  have h11 := pureP (sameN_is (topS n k) (by omega))
  have h12 := sumP n k (by omega)
  have h13 := sumRP n k (by omega)
  generalize sumW (topS n k) (topS n k).length = z at *
  generalize topS n k = t at *
  generalize isI L = q at *
  generalize mge ilt (ss ilt L) [x] = m at *
  generalize ss ilt L = s at *
  simp only [slX, slI, itc] at h1 h2 h3 h4 h5 h6 h7 h8 h9 h10 h11 h12 h13 ⊢
  simp [C3, push_cast, -Int.not_lt, -Int.not_le, ↓evI_call, ↓evI_calli, ↓evI_calln, ↓evI_callz, ↓evI_callv, ↓evI_mxn, hk, hL', hn', h1, h2, h3, h4, h5, h6, h7, h8, h9, h10, h11, h12, h13]
  exact Ans.nil rfl
end Go.Proofs.YtgndbkeiickihaaEv
