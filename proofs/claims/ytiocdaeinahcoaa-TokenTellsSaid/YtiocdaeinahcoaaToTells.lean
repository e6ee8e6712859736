/- swingbridgelaw15.TokenTells. -/
import Derived.Test.YtiocdaeinahcoaaTokenR
import Derived.Test.YtiocdaeinahcoaaInp
set_option linter.unusedSimpArgs false
set_option linter.unusedVariables false
namespace Go.Proofs.YtiocdaeinahcoaaEv
open Go
set_option maxHeartbeats 2000000
theorem tokenTells_is (s : St) (n k : Int) (_ : s.ok) (_ : (Lit.int .i64 n).wf = true) (_ : (Lit.int .i64 k).wf = true) :
    Ans (vb true) [] (callL tab0 ext0 11 [.agg (St.c s), vi n, vi k] []) := by
  rw [callL_tab _ _ rfl tab11 rfl]
  have h1 := pure_vb (k := false) known_30
  have h2 := pure_vb (k := false) (few_is_31 s)
  rcases (Bool.eq_false_or_eq_true (few8 s)).symm with hs | hs
  · rw [hs] at h2
    simp only [St.c, slI, slT] at h2
    simp [C11, -Int.not_lt, -Int.not_le, Option.bind_assoc, eL_seq, eL_reg, eL_dreg, clr_nil, clr_cons, neOk_nil, neOk_cons, neK_ptr, eL_ret, eL_skip, eL_exit, eL_scope, eL_cond, eL_block, gJ_nil, gJ_n, gJ_g, ob_ite, ob_none, ob_some, om_some, om_none, om_ite, seqG_nor, seqG_ex, seqG_ret, blkK_nor, blkK_ex, blkK_ret, resK_nor, resK_ret, condK_vb, runG_some, runG_none, puts_nil, puts_cons, gdOf_some, guardX_t, guardX_f, guardX_u, guardX_ite, gd_ite, gd_ite', gd_ite2, gd_ite2', mrg_no, mrg_yes, mrg_ite, mrg_ite', ite_vb, ite_vi, ↓evI_call, ↓evI_calli, ↓evI_callv, ↓evI_mxn, fzL_nil, fzL_cons, nmL_nil, nmL_cons, mpL_nil, mpL_cons, anyB_nil, anyB_cons, callvK_fn, mxnK_cons, evI, eqz_self, evBin_eql, evBin_neq, initFrom, putO, put_at, O.ev, evBin_add, evBin_sub, evBin_mul, evBin_lss, evBin_leq, evBin_gtr, evBin_geq, evBin_quo, evBin_rem, evBin_shr, evBin_shl, evBin_and, evBin_or, evBin_xor, evBin_seql, evBin_sneq, evBin_sadd, evUn, A.cp, A.cp1, A.own, A.norm, A.norm1, cst, cst1, takeU, resultOf, resVal, A.isR, A.isC, A.isV, A.cells, Value.oneCell', frz, frzR, frzC, A.hasB, A.scal, A.isVal, optInt, okCell, fillA, capsOf, St.c, slI, slT, h1, h2]
    exact ⟨_, rfl⟩
  rw [hs] at h2
  have hs := few8_sm s hs
  have h3 := pure_ansO (k := false) (tokIn_is s hs n k)
  have h4 := pure_ansO (k := false) (tokInR_is s hs n k)
  have h5 := pure_ansO (k := false) (tok_is s hs n k)
  have h6 := pure_ansO (k := false) (tokR_is s hs n k)
  have h7 := pure_vi (k := false) (tokU_is s hs n)
  have h8 := pure_vi (k := false) (outR_is s hs n)
  generalize tokIn s n k = r at h3 h4
  generalize tokS s n k = q at h5 h6
  generalize outS s n = w at h7 h8
  simp only [St.c, slI, slT] at h2 h3 h4 h5 h6 h7 h8
  simp [C11, -Int.not_lt, -Int.not_le, Option.bind_assoc, eL_seq, eL_reg, eL_dreg, clr_nil, clr_cons, neOk_nil, neOk_cons, neK_ptr, eL_ret, eL_skip, eL_exit, eL_scope, eL_cond, eL_block, gJ_nil, gJ_n, gJ_g, ob_ite, ob_none, ob_some, om_some, om_none, om_ite, seqG_nor, seqG_ex, seqG_ret, blkK_nor, blkK_ex, blkK_ret, resK_nor, resK_ret, condK_vb, runG_some, runG_none, puts_nil, puts_cons, gdOf_some, guardX_t, guardX_f, guardX_u, guardX_ite, gd_ite, gd_ite', gd_ite2, gd_ite2', mrg_no, mrg_yes, mrg_ite, mrg_ite', ite_vb, ite_vi, ↓evI_call, ↓evI_calli, ↓evI_callv, ↓evI_mxn, fzL_nil, fzL_cons, nmL_nil, nmL_cons, mpL_nil, mpL_cons, anyB_nil, anyB_cons, callvK_fn, mxnK_cons, evI, eqz_self, evBin_eql, evBin_neq, initFrom, putO, put_at, O.ev, evBin_add, evBin_sub, evBin_mul, evBin_lss, evBin_leq, evBin_gtr, evBin_geq, evBin_quo, evBin_rem, evBin_shr, evBin_shl, evBin_and, evBin_or, evBin_xor, evBin_seql, evBin_sneq, evBin_sadd, evUn, A.cp, A.cp1, A.own, A.norm, A.norm1, cst, cst1, takeU, resultOf, resVal, A.isR, A.isC, A.isV, A.cells, Value.oneCell', frz, frzR, frzC, A.hasB, A.scal, A.isVal, optInt, okCell, fillA, capsOf, St.c, slI, slT, h1, h2, h3, h4, h5, h6, h7, h8, eqz_self]
  exact ⟨_, rfl⟩
end Go.Proofs.YtiocdaeinahcoaaEv
