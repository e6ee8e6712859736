/- Which sets the laws look at. -/
import Derived.Test.YtiocdaeinahcoaaCheck
set_option linter.unusedSimpArgs false
set_option linter.unusedVariables false
namespace Go.Proofs.YtiocdaeinahcoaaEv
open Go
set_option maxHeartbeats 2000000
def bigTk (t : Tk) : Bool := decide (20 < (t.name.size : Int)) || decide (10 < (t.parts.length : Int))
def few8 (s : St) : Bool := !(decide (8 < (s.cores.length : Int)) || decide (10 < (s.homes.length : Int)) || decide (9 < (s.tasks.length : Int))) && !s.tasks.any bigTk
theorem few_loop_16 (s : St) (hl : s.tasks.length ≤ 4611686018427387904) :
    ∀ d i (e : Env), i + d = s.tasks.length → (e 1 = .ptr 0 0 ∧ e 3 = vi i) → ∃ r, evL tab0 ext0 0 L16_0 (e, [St.c s]) = some r ∧ FQ (fun i => (s.tasks[i]?.map bigTk).getD false) [St.c s] 0 (fun _ e => e 2 = vb false) (fun _ => True) i d r := by
  refine fq_loop (St := fun i e => e 1 = .ptr 0 0 ∧ e 3 = vi i) _ _ _ _ _ ?_ ?_
  · rintro e ⟨h1, h3⟩
    exact ⟨_, (go16_0 _ _).trans (by simp [B16_0, -Int.not_lt, -Int.not_le, Option.bind_assoc, eL_seq, eL_reg, eL_dreg, clr_nil, clr_cons, neOk_nil, neOk_cons, neK_ptr, eL_ret, eL_skip, eL_exit, eL_scope, eL_cond, eL_block, gJ_nil, gJ_n, gJ_g, ob_ite, ob_none, ob_some, om_some, om_none, om_ite, seqG_nor, seqG_ex, seqG_ret, blkK_nor, blkK_ex, blkK_ret, resK_nor, resK_ret, condK_vb, runG_some, runG_none, puts_nil, puts_cons, gdOf_some, guardX_t, guardX_f, guardX_u, guardX_ite, gd_ite, gd_ite', gd_ite2, gd_ite2', mrg_no, mrg_yes, mrg_ite, mrg_ite', ite_vb, ite_vi, ↓evI_call, ↓evI_calli, ↓evI_callv, ↓evI_mxn, fzL_nil, fzL_cons, nmL_nil, nmL_cons, mpL_nil, mpL_cons, anyB_nil, anyB_cons, callvK_fn, mxnK_cons, evI, eqz_self, evBin_eql, evBin_neq, initFrom, putO, put_at, O.ev, evBin_add, evBin_sub, evBin_mul, evBin_lss, evBin_leq, evBin_gtr, evBin_geq, evBin_quo, evBin_rem, evBin_shr, evBin_shl, evBin_and, evBin_or, evBin_xor, evBin_seql, evBin_sneq, evBin_sadd, evUn, A.cp, A.cp1, A.own, A.norm, A.norm1, cst, cst1, takeU, resultOf, resVal, A.isR, A.isC, A.isV, A.cells, Value.oneCell', frz, frzR, frzC, A.hasB, A.scal, A.isVal, optInt, okCell, fillA, capsOf, loopIn, loopIn0, keepL, emp, A.dang, A.dangC, h1, h3, slI, slT, St.c]; rfl), trivial⟩
  · rintro i e hi ⟨h1, h3⟩
    rw [go16_0]
    have hi' : (i : Int) < s.tasks.length := by omega
    have hw : IntKind.wrap .i64 ((i : Int) + 1) = (i : Int) + 1 := wrap_in _ (by omega) (by omega)
    simp +contextual [B16_0, -Int.not_lt, -Int.not_le, Option.bind_assoc, eL_seq, eL_reg, eL_dreg, clr_nil, clr_cons, neOk_nil, neOk_cons, neK_ptr, eL_ret, eL_skip, eL_exit, eL_scope, eL_cond, eL_block, gJ_nil, gJ_n, gJ_g, ob_ite, ob_none, ob_some, om_some, om_none, om_ite, seqG_nor, seqG_ex, seqG_ret, blkK_nor, blkK_ex, blkK_ret, resK_nor, resK_ret, condK_vb, runG_some, runG_none, puts_nil, puts_cons, gdOf_some, guardX_t, guardX_f, guardX_u, guardX_ite, gd_ite, gd_ite', gd_ite2, gd_ite2', mrg_no, mrg_yes, mrg_ite, mrg_ite', ite_vb, ite_vi, ↓evI_call, ↓evI_calli, ↓evI_callv, ↓evI_mxn, fzL_nil, fzL_cons, nmL_nil, nmL_cons, mpL_nil, mpL_cons, anyB_nil, anyB_cons, callvK_fn, mxnK_cons, evI, eqz_self, evBin_eql, evBin_neq, initFrom, putO, put_at, O.ev, evBin_add, evBin_sub, evBin_mul, evBin_lss, evBin_leq, evBin_gtr, evBin_geq, evBin_quo, evBin_rem, evBin_shr, evBin_shl, evBin_and, evBin_or, evBin_xor, evBin_seql, evBin_sneq, evBin_sadd, evUn, A.cp, A.cp1, A.own, A.norm, A.norm1, cst, cst1, takeU, resultOf, resVal, A.isR, A.isC, A.isV, A.cells, Value.oneCell', frz, frzR, frzC, A.hasB, A.scal, A.isVal, optInt, okCell, fillA, capsOf, loopIn, loopIn0, keepL, emp, A.dang, A.dangC, h1, h3, slI, slT, slP, St.c, Tk.c, hi, hi', hw, drop_tk _ i hi, bigTk]
    (repeat' refine Step.split (fun cc => ?_) (fun cc => ?_)) <;> first | (refine Step.ret0 ?_ ?_ <;> first | (simp_all [put_at, eqz]; done) | (simp [put_at, *]; done) | ((try simp [eqz] at *); omega)) | (refine Step.go ?_ ?_ <;> first | (simp_all [put_at, eqz]; done) | (simp [put_at, *]; done) | ((try simp [eqz] at *); omega)) | (refine Step.ret _ ?_ ?_ <;> first | (simp_all [put_at, eqz]; done) | (simp [put_at, *]; done) | ((try simp [eqz] at *); omega)) | (refine Step.goJ _ (by simp) ?_ ?_ <;> first | (simp_all [put_at, eqz]; done) | (simp [put_at, *]; done) | ((try simp [eqz] at *); omega))
theorem few_is_16 (s : St) : Ans (vb (few8 s)) [] (callL tab0 ext0 16 [.agg (St.c s)] []) := by
  rw [callL_tab _ _ rfl tab16 rfl]
  simp +contextual [C16, -Int.not_lt, -Int.not_le, Option.bind_assoc, eL_seq, eL_reg, eL_dreg, clr_nil, clr_cons, neOk_nil, neOk_cons, neK_ptr, eL_ret, eL_skip, eL_exit, eL_scope, eL_cond, eL_block, gJ_nil, gJ_n, gJ_g, ob_ite, ob_none, ob_some, om_some, om_none, om_ite, seqG_nor, seqG_ex, seqG_ret, blkK_nor, blkK_ex, blkK_ret, resK_nor, resK_ret, condK_vb, runG_some, runG_none, puts_nil, puts_cons, gdOf_some, guardX_t, guardX_f, guardX_u, guardX_ite, gd_ite, gd_ite', gd_ite2, gd_ite2', mrg_no, mrg_yes, mrg_ite, mrg_ite', ite_vb, ite_vi, ↓evI_call, ↓evI_calli, ↓evI_callv, ↓evI_mxn, fzL_nil, fzL_cons, nmL_nil, nmL_cons, mpL_nil, mpL_cons, anyB_nil, anyB_cons, callvK_fn, mxnK_cons, evI, eqz_self, evBin_eql, evBin_neq, initFrom, putO, put_at, O.ev, evBin_add, evBin_sub, evBin_mul, evBin_lss, evBin_leq, evBin_gtr, evBin_geq, evBin_quo, evBin_rem, evBin_shr, evBin_shl, evBin_and, evBin_or, evBin_xor, evBin_seql, evBin_sneq, evBin_sadd, evUn, A.cp, A.cp1, A.own, A.norm, A.norm1, cst, cst1, takeU, resultOf, resVal, A.isR, A.isC, A.isV, A.cells, Value.oneCell', frz, frzR, frzC, A.hasB, A.scal, A.isVal, optInt, okCell, fillA, capsOf, St.c, slI, slT]
  refine Ans.split (fun c => Ans.nil ?_) (fun c => ?_)
  · show vb false = vb _
    congr 1; symm
    unfold few8
    rw [Bool.eq_false_iff]
    simp
    intros
    omega
  · have h1 := few_loop_16 s (by omega) s.tasks.length 0
    simp only [St.c, slI, slT] at h1
    have hk : few8 s = !s.tasks.any bigTk := by
      have e1 : decide (8 < (s.cores.length : Int)) = false := by simp; omega
      have e2 : decide (10 < (s.homes.length : Int)) = false := by simp; omega
      have e3 : decide (9 < (s.tasks.length : Int)) = false := by simp; omega
      unfold few8; rw [e1, e2, e3]; simp
    rw [hk, ← fst_any]
    refine behindP (P := fun r => Ans (vb _) [] r) (h1 _ (by omega) (by simp [put_at])) ?_
    intro r h
    unfold FQ at h
    split at h
    · rename_i hf
      obtain ⟨e', rfl, -⟩ := h
      simp +contextual [-Int.not_lt, -Int.not_le, Option.bind_assoc, eL_seq, eL_reg, eL_dreg, clr_nil, clr_cons, neOk_nil, neOk_cons, neK_ptr, eL_ret, eL_skip, eL_exit, eL_scope, eL_cond, eL_block, gJ_nil, gJ_n, gJ_g, ob_ite, ob_none, ob_some, om_some, om_none, om_ite, seqG_nor, seqG_ex, seqG_ret, blkK_nor, blkK_ex, blkK_ret, resK_nor, resK_ret, condK_vb, runG_some, runG_none, puts_nil, puts_cons, gdOf_some, guardX_t, guardX_f, guardX_u, guardX_ite, gd_ite, gd_ite', gd_ite2, gd_ite2', mrg_no, mrg_yes, mrg_ite, mrg_ite', ite_vb, ite_vi, ↓evI_call, ↓evI_calli, ↓evI_callv, ↓evI_mxn, fzL_nil, fzL_cons, nmL_nil, nmL_cons, mpL_nil, mpL_cons, anyB_nil, anyB_cons, callvK_fn, mxnK_cons, evI, eqz_self, evBin_eql, evBin_neq, initFrom, putO, put_at, O.ev, evBin_add, evBin_sub, evBin_mul, evBin_lss, evBin_leq, evBin_gtr, evBin_geq, evBin_quo, evBin_rem, evBin_shr, evBin_shl, evBin_and, evBin_or, evBin_xor, evBin_seql, evBin_sneq, evBin_sadd, evUn, A.cp, A.cp1, A.own, A.norm, A.norm1, cst, cst1, takeU, resultOf, resVal, A.isR, A.isC, A.isV, A.cells, Value.oneCell', frz, frzR, frzC, A.hasB, A.scal, A.isVal, optInt, okCell, fillA, capsOf, hf]
      exact ⟨_, rfl⟩
    · rename_i hf
      obtain ⟨e', junk, rfl, g⟩ := h
      simp +contextual [-Int.not_lt, -Int.not_le, Option.bind_assoc, eL_seq, eL_reg, eL_dreg, clr_nil, clr_cons, neOk_nil, neOk_cons, neK_ptr, eL_ret, eL_skip, eL_exit, eL_scope, eL_cond, eL_block, gJ_nil, gJ_n, gJ_g, ob_ite, ob_none, ob_some, om_some, om_none, om_ite, seqG_nor, seqG_ex, seqG_ret, blkK_nor, blkK_ex, blkK_ret, resK_nor, resK_ret, condK_vb, runG_some, runG_none, puts_nil, puts_cons, gdOf_some, guardX_t, guardX_f, guardX_u, guardX_ite, gd_ite, gd_ite', gd_ite2, gd_ite2', mrg_no, mrg_yes, mrg_ite, mrg_ite', ite_vb, ite_vi, ↓evI_call, ↓evI_calli, ↓evI_callv, ↓evI_mxn, fzL_nil, fzL_cons, nmL_nil, nmL_cons, mpL_nil, mpL_cons, anyB_nil, anyB_cons, callvK_fn, mxnK_cons, evI, eqz_self, evBin_eql, evBin_neq, initFrom, putO, put_at, O.ev, evBin_add, evBin_sub, evBin_mul, evBin_lss, evBin_leq, evBin_gtr, evBin_geq, evBin_quo, evBin_rem, evBin_shr, evBin_shl, evBin_and, evBin_or, evBin_xor, evBin_seql, evBin_sneq, evBin_sadd, evUn, A.cp, A.cp1, A.own, A.norm, A.norm1, cst, cst1, takeU, resultOf, resVal, A.isR, A.isC, A.isV, A.cells, Value.oneCell', frz, frzR, frzC, A.hasB, A.scal, A.isVal, optInt, okCell, fillA, capsOf, hf, g]
      exact ⟨_, rfl⟩
theorem few_loop_25 (s : St) (hl : s.tasks.length ≤ 4611686018427387904) :
    ∀ d i (e : Env), i + d = s.tasks.length → (e 1 = .ptr 0 0 ∧ e 3 = vi i) → ∃ r, evL tab0 ext0 0 L25_0 (e, [St.c s]) = some r ∧ FQ (fun i => (s.tasks[i]?.map bigTk).getD false) [St.c s] 0 (fun _ e => e 2 = vb false) (fun _ => True) i d r := by
  refine fq_loop (St := fun i e => e 1 = .ptr 0 0 ∧ e 3 = vi i) _ _ _ _ _ ?_ ?_
  · rintro e ⟨h1, h3⟩
    exact ⟨_, (go25_0 _ _).trans (by simp [B25_0, -Int.not_lt, -Int.not_le, Option.bind_assoc, eL_seq, eL_reg, eL_dreg, clr_nil, clr_cons, neOk_nil, neOk_cons, neK_ptr, eL_ret, eL_skip, eL_exit, eL_scope, eL_cond, eL_block, gJ_nil, gJ_n, gJ_g, ob_ite, ob_none, ob_some, om_some, om_none, om_ite, seqG_nor, seqG_ex, seqG_ret, blkK_nor, blkK_ex, blkK_ret, resK_nor, resK_ret, condK_vb, runG_some, runG_none, puts_nil, puts_cons, gdOf_some, guardX_t, guardX_f, guardX_u, guardX_ite, gd_ite, gd_ite', gd_ite2, gd_ite2', mrg_no, mrg_yes, mrg_ite, mrg_ite', ite_vb, ite_vi, ↓evI_call, ↓evI_calli, ↓evI_callv, ↓evI_mxn, fzL_nil, fzL_cons, nmL_nil, nmL_cons, mpL_nil, mpL_cons, anyB_nil, anyB_cons, callvK_fn, mxnK_cons, evI, eqz_self, evBin_eql, evBin_neq, initFrom, putO, put_at, O.ev, evBin_add, evBin_sub, evBin_mul, evBin_lss, evBin_leq, evBin_gtr, evBin_geq, evBin_quo, evBin_rem, evBin_shr, evBin_shl, evBin_and, evBin_or, evBin_xor, evBin_seql, evBin_sneq, evBin_sadd, evUn, A.cp, A.cp1, A.own, A.norm, A.norm1, cst, cst1, takeU, resultOf, resVal, A.isR, A.isC, A.isV, A.cells, Value.oneCell', frz, frzR, frzC, A.hasB, A.scal, A.isVal, optInt, okCell, fillA, capsOf, loopIn, loopIn0, keepL, emp, A.dang, A.dangC, h1, h3, slI, slT, St.c]; rfl), trivial⟩
  · rintro i e hi ⟨h1, h3⟩
    rw [go25_0]
    have hi' : (i : Int) < s.tasks.length := by omega
    have hw : IntKind.wrap .i64 ((i : Int) + 1) = (i : Int) + 1 := wrap_in _ (by omega) (by omega)
    simp +contextual [B25_0, -Int.not_lt, -Int.not_le, Option.bind_assoc, eL_seq, eL_reg, eL_dreg, clr_nil, clr_cons, neOk_nil, neOk_cons, neK_ptr, eL_ret, eL_skip, eL_exit, eL_scope, eL_cond, eL_block, gJ_nil, gJ_n, gJ_g, ob_ite, ob_none, ob_some, om_some, om_none, om_ite, seqG_nor, seqG_ex, seqG_ret, blkK_nor, blkK_ex, blkK_ret, resK_nor, resK_ret, condK_vb, runG_some, runG_none, puts_nil, puts_cons, gdOf_some, guardX_t, guardX_f, guardX_u, guardX_ite, gd_ite, gd_ite', gd_ite2, gd_ite2', mrg_no, mrg_yes, mrg_ite, mrg_ite', ite_vb, ite_vi, ↓evI_call, ↓evI_calli, ↓evI_callv, ↓evI_mxn, fzL_nil, fzL_cons, nmL_nil, nmL_cons, mpL_nil, mpL_cons, anyB_nil, anyB_cons, callvK_fn, mxnK_cons, evI, eqz_self, evBin_eql, evBin_neq, initFrom, putO, put_at, O.ev, evBin_add, evBin_sub, evBin_mul, evBin_lss, evBin_leq, evBin_gtr, evBin_geq, evBin_quo, evBin_rem, evBin_shr, evBin_shl, evBin_and, evBin_or, evBin_xor, evBin_seql, evBin_sneq, evBin_sadd, evUn, A.cp, A.cp1, A.own, A.norm, A.norm1, cst, cst1, takeU, resultOf, resVal, A.isR, A.isC, A.isV, A.cells, Value.oneCell', frz, frzR, frzC, A.hasB, A.scal, A.isVal, optInt, okCell, fillA, capsOf, loopIn, loopIn0, keepL, emp, A.dang, A.dangC, h1, h3, slI, slT, slP, St.c, Tk.c, hi, hi', hw, drop_tk _ i hi, bigTk]
    (repeat' refine Step.split (fun cc => ?_) (fun cc => ?_)) <;> first | (refine Step.ret0 ?_ ?_ <;> first | (simp_all [put_at, eqz]; done) | (simp [put_at, *]; done) | ((try simp [eqz] at *); omega)) | (refine Step.go ?_ ?_ <;> first | (simp_all [put_at, eqz]; done) | (simp [put_at, *]; done) | ((try simp [eqz] at *); omega)) | (refine Step.ret _ ?_ ?_ <;> first | (simp_all [put_at, eqz]; done) | (simp [put_at, *]; done) | ((try simp [eqz] at *); omega)) | (refine Step.goJ _ (by simp) ?_ ?_ <;> first | (simp_all [put_at, eqz]; done) | (simp [put_at, *]; done) | ((try simp [eqz] at *); omega))
theorem few_is_25 (s : St) : Ans (vb (few8 s)) [] (callL tab0 ext0 25 [.agg (St.c s)] []) := by
  rw [callL_tab _ _ rfl tab25 rfl]
  simp +contextual [C25, -Int.not_lt, -Int.not_le, Option.bind_assoc, eL_seq, eL_reg, eL_dreg, clr_nil, clr_cons, neOk_nil, neOk_cons, neK_ptr, eL_ret, eL_skip, eL_exit, eL_scope, eL_cond, eL_block, gJ_nil, gJ_n, gJ_g, ob_ite, ob_none, ob_some, om_some, om_none, om_ite, seqG_nor, seqG_ex, seqG_ret, blkK_nor, blkK_ex, blkK_ret, resK_nor, resK_ret, condK_vb, runG_some, runG_none, puts_nil, puts_cons, gdOf_some, guardX_t, guardX_f, guardX_u, guardX_ite, gd_ite, gd_ite', gd_ite2, gd_ite2', mrg_no, mrg_yes, mrg_ite, mrg_ite', ite_vb, ite_vi, ↓evI_call, ↓evI_calli, ↓evI_callv, ↓evI_mxn, fzL_nil, fzL_cons, nmL_nil, nmL_cons, mpL_nil, mpL_cons, anyB_nil, anyB_cons, callvK_fn, mxnK_cons, evI, eqz_self, evBin_eql, evBin_neq, initFrom, putO, put_at, O.ev, evBin_add, evBin_sub, evBin_mul, evBin_lss, evBin_leq, evBin_gtr, evBin_geq, evBin_quo, evBin_rem, evBin_shr, evBin_shl, evBin_and, evBin_or, evBin_xor, evBin_seql, evBin_sneq, evBin_sadd, evUn, A.cp, A.cp1, A.own, A.norm, A.norm1, cst, cst1, takeU, resultOf, resVal, A.isR, A.isC, A.isV, A.cells, Value.oneCell', frz, frzR, frzC, A.hasB, A.scal, A.isVal, optInt, okCell, fillA, capsOf, St.c, slI, slT]
  refine Ans.split (fun c => Ans.nil ?_) (fun c => ?_)
  · show vb false = vb _
    congr 1; symm
    unfold few8
    rw [Bool.eq_false_iff]
    simp
    intros
    omega
  · have h1 := few_loop_25 s (by omega) s.tasks.length 0
    simp only [St.c, slI, slT] at h1
    have hk : few8 s = !s.tasks.any bigTk := by
      have e1 : decide (8 < (s.cores.length : Int)) = false := by simp; omega
      have e2 : decide (10 < (s.homes.length : Int)) = false := by simp; omega
      have e3 : decide (9 < (s.tasks.length : Int)) = false := by simp; omega
      unfold few8; rw [e1, e2, e3]; simp
    rw [hk, ← fst_any]
    refine behindP (P := fun r => Ans (vb _) [] r) (h1 _ (by omega) (by simp [put_at])) ?_
    intro r h
    unfold FQ at h
    split at h
    · rename_i hf
      obtain ⟨e', rfl, -⟩ := h
      simp +contextual [-Int.not_lt, -Int.not_le, Option.bind_assoc, eL_seq, eL_reg, eL_dreg, clr_nil, clr_cons, neOk_nil, neOk_cons, neK_ptr, eL_ret, eL_skip, eL_exit, eL_scope, eL_cond, eL_block, gJ_nil, gJ_n, gJ_g, ob_ite, ob_none, ob_some, om_some, om_none, om_ite, seqG_nor, seqG_ex, seqG_ret, blkK_nor, blkK_ex, blkK_ret, resK_nor, resK_ret, condK_vb, runG_some, runG_none, puts_nil, puts_cons, gdOf_some, guardX_t, guardX_f, guardX_u, guardX_ite, gd_ite, gd_ite', gd_ite2, gd_ite2', mrg_no, mrg_yes, mrg_ite, mrg_ite', ite_vb, ite_vi, ↓evI_call, ↓evI_calli, ↓evI_callv, ↓evI_mxn, fzL_nil, fzL_cons, nmL_nil, nmL_cons, mpL_nil, mpL_cons, anyB_nil, anyB_cons, callvK_fn, mxnK_cons, evI, eqz_self, evBin_eql, evBin_neq, initFrom, putO, put_at, O.ev, evBin_add, evBin_sub, evBin_mul, evBin_lss, evBin_leq, evBin_gtr, evBin_geq, evBin_quo, evBin_rem, evBin_shr, evBin_shl, evBin_and, evBin_or, evBin_xor, evBin_seql, evBin_sneq, evBin_sadd, evUn, A.cp, A.cp1, A.own, A.norm, A.norm1, cst, cst1, takeU, resultOf, resVal, A.isR, A.isC, A.isV, A.cells, Value.oneCell', frz, frzR, frzC, A.hasB, A.scal, A.isVal, optInt, okCell, fillA, capsOf, hf]
      exact ⟨_, rfl⟩
    · rename_i hf
      obtain ⟨e', junk, rfl, g⟩ := h
      simp +contextual [-Int.not_lt, -Int.not_le, Option.bind_assoc, eL_seq, eL_reg, eL_dreg, clr_nil, clr_cons, neOk_nil, neOk_cons, neK_ptr, eL_ret, eL_skip, eL_exit, eL_scope, eL_cond, eL_block, gJ_nil, gJ_n, gJ_g, ob_ite, ob_none, ob_some, om_some, om_none, om_ite, seqG_nor, seqG_ex, seqG_ret, blkK_nor, blkK_ex, blkK_ret, resK_nor, resK_ret, condK_vb, runG_some, runG_none, puts_nil, puts_cons, gdOf_some, guardX_t, guardX_f, guardX_u, guardX_ite, gd_ite, gd_ite', gd_ite2, gd_ite2', mrg_no, mrg_yes, mrg_ite, mrg_ite', ite_vb, ite_vi, ↓evI_call, ↓evI_calli, ↓evI_callv, ↓evI_mxn, fzL_nil, fzL_cons, nmL_nil, nmL_cons, mpL_nil, mpL_cons, anyB_nil, anyB_cons, callvK_fn, mxnK_cons, evI, eqz_self, evBin_eql, evBin_neq, initFrom, putO, put_at, O.ev, evBin_add, evBin_sub, evBin_mul, evBin_lss, evBin_leq, evBin_gtr, evBin_geq, evBin_quo, evBin_rem, evBin_shr, evBin_shl, evBin_and, evBin_or, evBin_xor, evBin_seql, evBin_sneq, evBin_sadd, evUn, A.cp, A.cp1, A.own, A.norm, A.norm1, cst, cst1, takeU, resultOf, resVal, A.isR, A.isC, A.isV, A.cells, Value.oneCell', frz, frzR, frzC, A.hasB, A.scal, A.isVal, optInt, okCell, fillA, capsOf, hf, g]
      exact ⟨_, rfl⟩
theorem few_loop_31 (s : St) (hl : s.tasks.length ≤ 4611686018427387904) :
    ∀ d i (e : Env), i + d = s.tasks.length → (e 1 = .ptr 0 0 ∧ e 3 = vi i) → ∃ r, evL tab0 ext0 0 L31_0 (e, [St.c s]) = some r ∧ FQ (fun i => (s.tasks[i]?.map bigTk).getD false) [St.c s] 0 (fun _ e => e 2 = vb false) (fun _ => True) i d r := by
  refine fq_loop (St := fun i e => e 1 = .ptr 0 0 ∧ e 3 = vi i) _ _ _ _ _ ?_ ?_
  · rintro e ⟨h1, h3⟩
    exact ⟨_, (go31_0 _ _).trans (by simp [B31_0, -Int.not_lt, -Int.not_le, Option.bind_assoc, eL_seq, eL_reg, eL_dreg, clr_nil, clr_cons, neOk_nil, neOk_cons, neK_ptr, eL_ret, eL_skip, eL_exit, eL_scope, eL_cond, eL_block, gJ_nil, gJ_n, gJ_g, ob_ite, ob_none, ob_some, om_some, om_none, om_ite, seqG_nor, seqG_ex, seqG_ret, blkK_nor, blkK_ex, blkK_ret, resK_nor, resK_ret, condK_vb, runG_some, runG_none, puts_nil, puts_cons, gdOf_some, guardX_t, guardX_f, guardX_u, guardX_ite, gd_ite, gd_ite', gd_ite2, gd_ite2', mrg_no, mrg_yes, mrg_ite, mrg_ite', ite_vb, ite_vi, ↓evI_call, ↓evI_calli, ↓evI_callv, ↓evI_mxn, fzL_nil, fzL_cons, nmL_nil, nmL_cons, mpL_nil, mpL_cons, anyB_nil, anyB_cons, callvK_fn, mxnK_cons, evI, eqz_self, evBin_eql, evBin_neq, initFrom, putO, put_at, O.ev, evBin_add, evBin_sub, evBin_mul, evBin_lss, evBin_leq, evBin_gtr, evBin_geq, evBin_quo, evBin_rem, evBin_shr, evBin_shl, evBin_and, evBin_or, evBin_xor, evBin_seql, evBin_sneq, evBin_sadd, evUn, A.cp, A.cp1, A.own, A.norm, A.norm1, cst, cst1, takeU, resultOf, resVal, A.isR, A.isC, A.isV, A.cells, Value.oneCell', frz, frzR, frzC, A.hasB, A.scal, A.isVal, optInt, okCell, fillA, capsOf, loopIn, loopIn0, keepL, emp, A.dang, A.dangC, h1, h3, slI, slT, St.c]; rfl), trivial⟩
  · rintro i e hi ⟨h1, h3⟩
    rw [go31_0]
    have hi' : (i : Int) < s.tasks.length := by omega
    have hw : IntKind.wrap .i64 ((i : Int) + 1) = (i : Int) + 1 := wrap_in _ (by omega) (by omega)
    simp +contextual [B31_0, -Int.not_lt, -Int.not_le, Option.bind_assoc, eL_seq, eL_reg, eL_dreg, clr_nil, clr_cons, neOk_nil, neOk_cons, neK_ptr, eL_ret, eL_skip, eL_exit, eL_scope, eL_cond, eL_block, gJ_nil, gJ_n, gJ_g, ob_ite, ob_none, ob_some, om_some, om_none, om_ite, seqG_nor, seqG_ex, seqG_ret, blkK_nor, blkK_ex, blkK_ret, resK_nor, resK_ret, condK_vb, runG_some, runG_none, puts_nil, puts_cons, gdOf_some, guardX_t, guardX_f, guardX_u, guardX_ite, gd_ite, gd_ite', gd_ite2, gd_ite2', mrg_no, mrg_yes, mrg_ite, mrg_ite', ite_vb, ite_vi, ↓evI_call, ↓evI_calli, ↓evI_callv, ↓evI_mxn, fzL_nil, fzL_cons, nmL_nil, nmL_cons, mpL_nil, mpL_cons, anyB_nil, anyB_cons, callvK_fn, mxnK_cons, evI, eqz_self, evBin_eql, evBin_neq, initFrom, putO, put_at, O.ev, evBin_add, evBin_sub, evBin_mul, evBin_lss, evBin_leq, evBin_gtr, evBin_geq, evBin_quo, evBin_rem, evBin_shr, evBin_shl, evBin_and, evBin_or, evBin_xor, evBin_seql, evBin_sneq, evBin_sadd, evUn, A.cp, A.cp1, A.own, A.norm, A.norm1, cst, cst1, takeU, resultOf, resVal, A.isR, A.isC, A.isV, A.cells, Value.oneCell', frz, frzR, frzC, A.hasB, A.scal, A.isVal, optInt, okCell, fillA, capsOf, loopIn, loopIn0, keepL, emp, A.dang, A.dangC, h1, h3, slI, slT, slP, St.c, Tk.c, hi, hi', hw, drop_tk _ i hi, bigTk]
    (repeat' refine Step.split (fun cc => ?_) (fun cc => ?_)) <;> first | (refine Step.ret0 ?_ ?_ <;> first | (simp_all [put_at, eqz]; done) | (simp [put_at, *]; done) | ((try simp [eqz] at *); omega)) | (refine Step.go ?_ ?_ <;> first | (simp_all [put_at, eqz]; done) | (simp [put_at, *]; done) | ((try simp [eqz] at *); omega)) | (refine Step.ret _ ?_ ?_ <;> first | (simp_all [put_at, eqz]; done) | (simp [put_at, *]; done) | ((try simp [eqz] at *); omega)) | (refine Step.goJ _ (by simp) ?_ ?_ <;> first | (simp_all [put_at, eqz]; done) | (simp [put_at, *]; done) | ((try simp [eqz] at *); omega))
theorem few_is_31 (s : St) : Ans (vb (few8 s)) [] (callL tab0 ext0 31 [.agg (St.c s)] []) := by
  rw [callL_tab _ _ rfl tab31 rfl]
  simp +contextual [C31, -Int.not_lt, -Int.not_le, Option.bind_assoc, eL_seq, eL_reg, eL_dreg, clr_nil, clr_cons, neOk_nil, neOk_cons, neK_ptr, eL_ret, eL_skip, eL_exit, eL_scope, eL_cond, eL_block, gJ_nil, gJ_n, gJ_g, ob_ite, ob_none, ob_some, om_some, om_none, om_ite, seqG_nor, seqG_ex, seqG_ret, blkK_nor, blkK_ex, blkK_ret, resK_nor, resK_ret, condK_vb, runG_some, runG_none, puts_nil, puts_cons, gdOf_some, guardX_t, guardX_f, guardX_u, guardX_ite, gd_ite, gd_ite', gd_ite2, gd_ite2', mrg_no, mrg_yes, mrg_ite, mrg_ite', ite_vb, ite_vi, ↓evI_call, ↓evI_calli, ↓evI_callv, ↓evI_mxn, fzL_nil, fzL_cons, nmL_nil, nmL_cons, mpL_nil, mpL_cons, anyB_nil, anyB_cons, callvK_fn, mxnK_cons, evI, eqz_self, evBin_eql, evBin_neq, initFrom, putO, put_at, O.ev, evBin_add, evBin_sub, evBin_mul, evBin_lss, evBin_leq, evBin_gtr, evBin_geq, evBin_quo, evBin_rem, evBin_shr, evBin_shl, evBin_and, evBin_or, evBin_xor, evBin_seql, evBin_sneq, evBin_sadd, evUn, A.cp, A.cp1, A.own, A.norm, A.norm1, cst, cst1, takeU, resultOf, resVal, A.isR, A.isC, A.isV, A.cells, Value.oneCell', frz, frzR, frzC, A.hasB, A.scal, A.isVal, optInt, okCell, fillA, capsOf, St.c, slI, slT]
  refine Ans.split (fun c => Ans.nil ?_) (fun c => ?_)
  · show vb false = vb _
    congr 1; symm
    unfold few8
    rw [Bool.eq_false_iff]
    simp
    intros
    omega
  · have h1 := few_loop_31 s (by omega) s.tasks.length 0
    simp only [St.c, slI, slT] at h1
    have hk : few8 s = !s.tasks.any bigTk := by
      have e1 : decide (8 < (s.cores.length : Int)) = false := by simp; omega
      have e2 : decide (10 < (s.homes.length : Int)) = false := by simp; omega
      have e3 : decide (9 < (s.tasks.length : Int)) = false := by simp; omega
      unfold few8; rw [e1, e2, e3]; simp
    rw [hk, ← fst_any]
    refine behindP (P := fun r => Ans (vb _) [] r) (h1 _ (by omega) (by simp [put_at])) ?_
    intro r h
    unfold FQ at h
    split at h
    · rename_i hf
      obtain ⟨e', rfl, -⟩ := h
      simp +contextual [-Int.not_lt, -Int.not_le, Option.bind_assoc, eL_seq, eL_reg, eL_dreg, clr_nil, clr_cons, neOk_nil, neOk_cons, neK_ptr, eL_ret, eL_skip, eL_exit, eL_scope, eL_cond, eL_block, gJ_nil, gJ_n, gJ_g, ob_ite, ob_none, ob_some, om_some, om_none, om_ite, seqG_nor, seqG_ex, seqG_ret, blkK_nor, blkK_ex, blkK_ret, resK_nor, resK_ret, condK_vb, runG_some, runG_none, puts_nil, puts_cons, gdOf_some, guardX_t, guardX_f, guardX_u, guardX_ite, gd_ite, gd_ite', gd_ite2, gd_ite2', mrg_no, mrg_yes, mrg_ite, mrg_ite', ite_vb, ite_vi, ↓evI_call, ↓evI_calli, ↓evI_callv, ↓evI_mxn, fzL_nil, fzL_cons, nmL_nil, nmL_cons, mpL_nil, mpL_cons, anyB_nil, anyB_cons, callvK_fn, mxnK_cons, evI, eqz_self, evBin_eql, evBin_neq, initFrom, putO, put_at, O.ev, evBin_add, evBin_sub, evBin_mul, evBin_lss, evBin_leq, evBin_gtr, evBin_geq, evBin_quo, evBin_rem, evBin_shr, evBin_shl, evBin_and, evBin_or, evBin_xor, evBin_seql, evBin_sneq, evBin_sadd, evUn, A.cp, A.cp1, A.own, A.norm, A.norm1, cst, cst1, takeU, resultOf, resVal, A.isR, A.isC, A.isV, A.cells, Value.oneCell', frz, frzR, frzC, A.hasB, A.scal, A.isVal, optInt, okCell, fillA, capsOf, hf]
      exact ⟨_, rfl⟩
    · rename_i hf
      obtain ⟨e', junk, rfl, g⟩ := h
      simp +contextual [-Int.not_lt, -Int.not_le, Option.bind_assoc, eL_seq, eL_reg, eL_dreg, clr_nil, clr_cons, neOk_nil, neOk_cons, neK_ptr, eL_ret, eL_skip, eL_exit, eL_scope, eL_cond, eL_block, gJ_nil, gJ_n, gJ_g, ob_ite, ob_none, ob_some, om_some, om_none, om_ite, seqG_nor, seqG_ex, seqG_ret, blkK_nor, blkK_ex, blkK_ret, resK_nor, resK_ret, condK_vb, runG_some, runG_none, puts_nil, puts_cons, gdOf_some, guardX_t, guardX_f, guardX_u, guardX_ite, gd_ite, gd_ite', gd_ite2, gd_ite2', mrg_no, mrg_yes, mrg_ite, mrg_ite', ite_vb, ite_vi, ↓evI_call, ↓evI_calli, ↓evI_callv, ↓evI_mxn, fzL_nil, fzL_cons, nmL_nil, nmL_cons, mpL_nil, mpL_cons, anyB_nil, anyB_cons, callvK_fn, mxnK_cons, evI, eqz_self, evBin_eql, evBin_neq, initFrom, putO, put_at, O.ev, evBin_add, evBin_sub, evBin_mul, evBin_lss, evBin_leq, evBin_gtr, evBin_geq, evBin_quo, evBin_rem, evBin_shr, evBin_shl, evBin_and, evBin_or, evBin_xor, evBin_seql, evBin_sneq, evBin_sadd, evUn, A.cp, A.cp1, A.own, A.norm, A.norm1, cst, cst1, takeU, resultOf, resVal, A.isR, A.isC, A.isV, A.cells, Value.oneCell', frz, frzR, frzC, A.hasB, A.scal, A.isVal, optInt, okCell, fillA, capsOf, hf, g]
      exact ⟨_, rfl⟩
theorem few8_fits (s : St) (h : few8 s = true) : Fits s := by
  unfold few8 at h
  simp [bigTk] at h
  obtain ⟨⟨⟨h1, h2⟩, h3⟩, h4⟩ := h
  exact ⟨by omega, by omega, by omega, fun t ht => by have := (h4 t ht).2; omega, fun t ht => by have := (h4 t ht).1; omega⟩
/-- A set as small as the laws look at. -/
structure Sm (s : St) : Prop where
  cores : s.cores.length ≤ 8
  homes : s.homes.length ≤ 10
  tasks : s.tasks.length ≤ 9
  parts : ∀ t ∈ s.tasks, t.parts.length ≤ 10
  names : ∀ t ∈ s.tasks, t.name.size ≤ 20
theorem Sm.fits {s : St} (h : Sm s) : Fits s := ⟨by have := h.cores; omega, by have := h.homes; omega, by have := h.tasks; omega, fun t ht => by have := h.parts t ht; omega, fun t ht => by have := h.names t ht; omega⟩
theorem few8_sm (s : St) (h : few8 s = true) : Sm s := by
  unfold few8 at h
  simp [bigTk] at h
  obtain ⟨⟨⟨h1, h2⟩, h3⟩, h4⟩ := h
  exact ⟨by omega, by omega, by omega, fun t ht => by have := (h4 t ht).2; omega, fun t ht => by have := (h4 t ht).1; omega⟩
end Go.Proofs.YtiocdaeinahcoaaEv
