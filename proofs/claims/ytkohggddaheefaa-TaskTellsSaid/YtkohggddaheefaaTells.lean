/- swingbridgelaw8.TaskTells. -/
import Derived.Test.YtkohggddaheefaaCopy
import Derived.Test.YtkohggddaheefaaSame
import Derived.Test.YtkohggddaheefaaRef7
import Derived.Test.YtkohggddaheefaaKnown
import Derived.Test.YtkohggddaheefaaInp
set_option linter.unusedSimpArgs false
set_option linter.unusedVariables false
namespace Go.Proofs.YtkohggddaheefaaEv
open Go
set_option maxHeartbeats 1000000
theorem sameSt_self (s : St) : sameSt s s = true := by
  unfold sameSt
  rw [eqz_self, eqz_self]
  simp only [decide_true, Bool.and_self, Bool.true_and, Option.isNone_iff_eq_none]
  rw [fstP_none]
  intro k h1 h2
  have hk : k < s.tasks.length := by omega
  rw [badAt_is _ _ _ hk hk]
  simp [sameTk, eqz_self]
theorem taskTells_is (s t : St) (_ : s.ok) (_ : t.ok) : Ans (vb true) [] (callL tab0 ext0 3 [.agg (St.c s), .agg (St.c t)] []) := by
  rw [callL_tab _ _ rfl tab3 rfl]
  have h1 := pure_vb (k := false) known8
  have h2 := pure_vb (k := false) (few_is s)
  have h3 := pure_vb (k := false) (few_is t)
  rcases (Bool.eq_false_or_eq_true (few8 s)).symm with hs | hs
  · rw [hs] at h2
    simp only [St.c, slI, slT] at h2 h3
    simp [C3, -Int.not_lt, -Int.not_le, Option.bind_assoc, eL_seq, eL_reg, eL_ret, eL_skip, eL_exit, eL_scope, eL_cond, eL_block, gJ_nil, gJ_n, gJ_g, ob_ite, ob_none, ob_some, om_some, om_none, om_ite, seqG_nor, seqG_ex, seqG_ret, blkK_nor, blkK_ex, blkK_ret, resK_nor, resK_ret, condK_vb, runG_some, runG_none, puts_nil, puts_cons, gdOf_some, guardX_t, guardX_f, guardX_u, guardX_ite, gd_ite, gd_ite', gd_ite2, gd_ite2', mrg_no, mrg_yes, mrg_ite, mrg_ite', ite_vb, ite_vi, ↓evI_call, ↓evI_calli, ↓evI_callv, ↓evI_mxn, fzL_nil, fzL_cons, nmL_nil, nmL_cons, mpL_nil, mpL_cons, anyB_nil, anyB_cons, callvK_fn, mxnK_cons, evI, eqz_self, evBin_eql, evBin_neq, initFrom, putO, put_at, O.ev, evBin_add, evBin_sub, evBin_mul, evBin_lss, evBin_leq, evBin_gtr, evBin_geq, evBin_quo, evBin_rem, evBin_shr, evBin_shl, evBin_seql, evBin_sneq, evBin_sadd, evUn, A.cp, A.cp1, A.own, A.norm, A.norm1, cst, cst1, takeU, resultOf, resVal, A.isR, A.isC, A.isV, A.cells, Value.oneCell', frz, frzR, frzC, A.hasB, A.scal, A.isVal, optInt, okCell, fillA, capsOf, St.c, slI, slT, h1, h2, h3]
    exact ⟨_, rfl⟩
  rcases (Bool.eq_false_or_eq_true (few8 t)).symm with ht | ht
  · rw [hs] at h2
    rw [ht] at h3
    simp only [St.c, slI, slT] at h2 h3
    simp [C3, -Int.not_lt, -Int.not_le, Option.bind_assoc, eL_seq, eL_reg, eL_ret, eL_skip, eL_exit, eL_scope, eL_cond, eL_block, gJ_nil, gJ_n, gJ_g, ob_ite, ob_none, ob_some, om_some, om_none, om_ite, seqG_nor, seqG_ex, seqG_ret, blkK_nor, blkK_ex, blkK_ret, resK_nor, resK_ret, condK_vb, runG_some, runG_none, puts_nil, puts_cons, gdOf_some, guardX_t, guardX_f, guardX_u, guardX_ite, gd_ite, gd_ite', gd_ite2, gd_ite2', mrg_no, mrg_yes, mrg_ite, mrg_ite', ite_vb, ite_vi, ↓evI_call, ↓evI_calli, ↓evI_callv, ↓evI_mxn, fzL_nil, fzL_cons, nmL_nil, nmL_cons, mpL_nil, mpL_cons, anyB_nil, anyB_cons, callvK_fn, mxnK_cons, evI, eqz_self, evBin_eql, evBin_neq, initFrom, putO, put_at, O.ev, evBin_add, evBin_sub, evBin_mul, evBin_lss, evBin_leq, evBin_gtr, evBin_geq, evBin_quo, evBin_rem, evBin_shr, evBin_shl, evBin_seql, evBin_sneq, evBin_sadd, evUn, A.cp, A.cp1, A.own, A.norm, A.norm1, cst, cst1, takeU, resultOf, resVal, A.isR, A.isC, A.isV, A.cells, Value.oneCell', frz, frzR, frzC, A.hasB, A.scal, A.isVal, optInt, okCell, fillA, capsOf, St.c, slI, slT, h1, h2, h3]
    exact ⟨_, rfl⟩
  have ms := few8_sm s hs
  have mt := few8_sm t ht
  rw [hs] at h2
  rw [ht] at h3
  have h4 := pure_tup2 (k := false) (check_is s ms.fits)
  have h5 := pure_tup2 (k := false) (checkR_is s ms.fits)
  have h6 := pure_vb (k := false) (sameS_is s t ms.fits)
  have h7 := pure_vb (k := false) (sameR_is s t ms.fits)
  have h8 := copy_is s ms
  have h9 := pure_vb (k := false) (sameR_is s s ms.fits)
  rw [sameSt_self] at h9
  generalize sameSt s t = x at h6 h7
  generalize (chk s).1 = y at h4 h5
  generalize (chk s).2 = z at h4 h5
  simp only [St.c, slI, slT] at h2 h3 h4 h5 h6 h7 h8 h9
  simp [C3, -Int.not_lt, -Int.not_le, Option.bind_assoc, eL_seq, eL_reg, eL_ret, eL_skip, eL_exit, eL_scope, eL_cond, eL_block, gJ_nil, gJ_n, gJ_g, ob_ite, ob_none, ob_some, om_some, om_none, om_ite, seqG_nor, seqG_ex, seqG_ret, blkK_nor, blkK_ex, blkK_ret, resK_nor, resK_ret, condK_vb, runG_some, runG_none, puts_nil, puts_cons, gdOf_some, guardX_t, guardX_f, guardX_u, guardX_ite, gd_ite, gd_ite', gd_ite2, gd_ite2', mrg_no, mrg_yes, mrg_ite, mrg_ite', ite_vb, ite_vi, ↓evI_call, ↓evI_calli, ↓evI_callv, ↓evI_mxn, fzL_nil, fzL_cons, nmL_nil, nmL_cons, mpL_nil, mpL_cons, anyB_nil, anyB_cons, callvK_fn, mxnK_cons, evI, eqz_self, evBin_eql, evBin_neq, initFrom, putO, put_at, O.ev, evBin_add, evBin_sub, evBin_mul, evBin_lss, evBin_leq, evBin_gtr, evBin_geq, evBin_quo, evBin_rem, evBin_shr, evBin_shl, evBin_seql, evBin_sneq, evBin_sadd, evUn, A.cp, A.cp1, A.own, A.norm, A.norm1, cst, cst1, takeU, resultOf, resVal, A.isR, A.isC, A.isV, A.cells, Value.oneCell', frz, frzR, frzC, A.hasB, A.scal, A.isVal, optInt, okCell, fillA, capsOf, St.c, slI, slT, h1, h2, h3, h4, h5, h6, h7, h8, h9]
  exact ⟨_, rfl⟩
end Go.Proofs.YtkohggddaheefaaEv
