/- swingbridgelaw14.AgentLeast. -/
import Derived.Test.YtiocdaeinahcoaaRefAg
import Derived.Test.YtiocdaeinahcoaaInp
set_option linter.unusedSimpArgs false
set_option linter.unusedVariables false
namespace Go.Proofs.YtiocdaeinahcoaaEv
open Go
set_option maxHeartbeats 2000000
abbrev vu8 (n : Int) : A := .val (.int .u8 n)
theorem u8_of {n : Int} (h : (Lit.int .u8 n).wf = true) : 0 ≤ n ∧ n ≤ 255 := by
  simp only [Lit.wf, Bool.and_eq_true, decide_eq_true_eq] at h
  have e1 : IntKind.min .u8 = 0 := by decide
  have e2 : IntKind.max .u8 = 255 := by decide
  omega
theorem wrap_u8i (n : Int) (h : 0 ≤ n ∧ n ≤ 255) : IntKind.wrap .i64 n = n := wrap_i n (by omega) (by omega)
theorem least_loop (s : St) (hs : Sm s) (bs : List Int) (hb : ∀ b ∈ bs, I64' b) (n : Int) (hn : 0 ≤ n ∧ n ≤ 255) (p : Pt) (home lst : Int) (hl : 1 ≤ lst ∧ lst ≤ 120) (r : Option Int) (N : Nat) (hN : lst + (N : Int) = 3001) :
    ∀ d i (e : Env), i + d = N → (e 1 = slI bs ∧ e 2 = vu8 n ∧ e 4 = .ptr 0 0 ∧ e 10 = vi (r.getD 0) ∧ e 11 = vb r.isSome ∧ e 12 = vi home ∧ e 13 = vi lst ∧ e 14 = vi (lst + (i : Int))) → ∃ zz, evL tab0 ext0 0 L4_0 (e, [St.c s, Pt.c p]) = some zz ∧ FQ (fun i => decide (lst + higherS s bs n home (lst + (i : Int)) = lst + (i : Int))) ([St.c s, Pt.c p]) 0 (fun k e => e 8 = vb (r.isSome && eqz (r.getD 0) (lst + (k : Int)))) (fun e => e 10 = vi (r.getD 0) ∧ e 11 = vb r.isSome) i d zz := by
  refine fq_loop (St := fun i e => e 1 = slI bs ∧ e 2 = vu8 n ∧ e 4 = .ptr 0 0 ∧ e 10 = vi (r.getD 0) ∧ e 11 = vb r.isSome ∧ e 12 = vi home ∧ e 13 = vi lst ∧ e 14 = vi (lst + (i : Int))) _ _ _ _ _ ?_ ?_
  · rintro e ⟨g0, g1, g2, g3, g4, g5, g6, g7⟩
    have c : ¬ lst + (N : Int) ≤ 3000 := by omega
    exact ⟨_, (go4_0 _ _).trans (by simp [B4_0, -Int.not_lt, -Int.not_le, Option.bind_assoc, eL_seq, eL_reg, eL_dreg, clr_nil, clr_cons, neOk_nil, neOk_cons, neK_ptr, eL_ret, eL_skip, eL_exit, eL_scope, eL_cond, eL_block, gJ_nil, gJ_n, gJ_g, ob_ite, ob_none, ob_some, om_some, om_none, om_ite, seqG_nor, seqG_ex, seqG_ret, blkK_nor, blkK_ex, blkK_ret, resK_nor, resK_ret, condK_vb, runG_some, runG_none, puts_nil, puts_cons, gdOf_some, guardX_t, guardX_f, guardX_u, guardX_ite, gd_ite, gd_ite', gd_ite2, gd_ite2', mrg_no, mrg_yes, mrg_ite, mrg_ite', ite_vb, ite_vi, ↓evI_call, ↓evI_calli, ↓evI_callv, ↓evI_mxn, fzL_nil, fzL_cons, nmL_nil, nmL_cons, mpL_nil, mpL_cons, anyB_nil, anyB_cons, callvK_fn, mxnK_cons, evI, eqz_self, evBin_eql, evBin_neq, initFrom, putO, put_at, O.ev, evBin_add, evBin_sub, evBin_mul, evBin_lss, evBin_leq, evBin_gtr, evBin_geq, evBin_quo, evBin_rem, evBin_shr, evBin_shl, evBin_and, evBin_or, evBin_xor, evBin_seql, evBin_sneq, evBin_sadd, evUn, A.cp, A.cp1, A.own, A.norm, A.norm1, cst, cst1, takeU, resultOf, resVal, A.isR, A.isC, A.isV, A.cells, Value.oneCell', frz, frzR, frzC, A.hasB, A.scal, A.isVal, optInt, okCell, fillA, capsOf, loopIn, loopIn0, keepL, emp, A.dang, A.dangC, g0, g1, g2, g3, g4, g5, g6, g7, slI, slT, slP, St.c, Pt.c, c]; rfl), by simp [put_at, g3, g4]⟩
  · rintro i e hi ⟨g0, g1, g2, g3, g4, g5, g6, g7⟩
    rw [go4_0]
    have hi' : (i : Int) < (N : Nat) := by omega
    have hw : IntKind.wrap .i64 (lst + (i : Int) + 1) = lst + ((i : Int) + 1) := by rw [wrap_i _ (by omega) (by omega)]; omega
    have c : lst + (i : Int) ≤ 3000 := by omega
    have k1 := pure_vi (k := false) (higher_is s hs bs hb n home (lst + (i : Int)) ⟨by omega, by omega⟩)
    have hH := higher_bounds s bs n home (lst + (i : Int))
    have kw := wrap_i (lst + higherS s bs n home (lst + (i : Int))) (by omega) (by omega)
    have k2 := wrap_u8i n hn
    have ed : decide (lst + higherS s bs n home (lst + (i : Int)) = lst + (i : Int)) = eqz (lst + higherS s bs n home (lst + (i : Int))) (lst + (i : Int)) := rfl
    rw [ed]
    clear ed
    generalize higherS s bs n home (lst + (i : Int)) = q at k1 kw hH ⊢
    simp only [St.c, slI, slT] at k1
    simp +contextual (maxSteps := 400000) [B4_0, -Int.not_lt, -Int.not_le, Option.bind_assoc, eL_seq, eL_reg, eL_dreg, clr_nil, clr_cons, neOk_nil, neOk_cons, neK_ptr, eL_ret, eL_skip, eL_exit, eL_scope, eL_cond, eL_block, gJ_nil, gJ_n, gJ_g, ob_ite, ob_none, ob_some, om_some, om_none, om_ite, seqG_nor, seqG_ex, seqG_ret, blkK_nor, blkK_ex, blkK_ret, resK_nor, resK_ret, condK_vb, runG_some, runG_none, puts_nil, puts_cons, gdOf_some, guardX_t, guardX_f, guardX_u, guardX_ite, gd_ite, gd_ite', gd_ite2, gd_ite2', mrg_no, mrg_yes, mrg_ite, mrg_ite', ite_vb, ite_vi, ↓evI_call, ↓evI_calli, ↓evI_callv, ↓evI_mxn, fzL_nil, fzL_cons, nmL_nil, nmL_cons, mpL_nil, mpL_cons, anyB_nil, anyB_cons, callvK_fn, mxnK_cons, evI, eqz_self, evBin_eql, evBin_neq, initFrom, putO, put_at, O.ev, evBin_add, evBin_sub, evBin_mul, evBin_lss, evBin_leq, evBin_gtr, evBin_geq, evBin_quo, evBin_rem, evBin_shr, evBin_shl, evBin_and, evBin_or, evBin_xor, evBin_seql, evBin_sneq, evBin_sadd, evUn, A.cp, A.cp1, A.own, A.norm, A.norm1, cst, cst1, takeU, resultOf, resVal, A.isR, A.isC, A.isV, A.cells, Value.oneCell', frz, frzR, frzC, A.hasB, A.scal, A.isVal, optInt, okCell, fillA, capsOf, loopIn, loopIn0, keepL, emp, A.dang, A.dangC, g0, g1, g2, g3, g4, g5, g6, g7, hi, hi', slI, slT, slP, St.c, Pt.c, hw, c, k1, kw, k2]
    refine Step.split (fun cc => ?_) (fun cc => ?_) <;> first | (refine Step.ret0 (by simpa using cc) ?_; simp [put_at, cc]; done) | (refine Step.go (by simpa using cc) ?_; simp [put_at, cc]; done) | (refine Step.ret0 rfl ?_; simp [put_at, cc]; done) | (refine Step.go rfl ?_; simp [put_at, cc]; done) | (refine Step.goJ _ (by simp) (by simpa using cc) ?_; simp [put_at, cc]; done) | (refine Step.goJ _ (by simp) rfl ?_; simp [put_at, cc]; done) | (refine Step.ret _ (by simpa using cc) ?_; simp [put_at, cc]; done)
theorem agentLeast_is (s : St) (bs : List Int) (n k : Int) (_ : s.ok) (hb : ∀ b ∈ bs, I64 b) (hn8 : (Lit.int .u8 n).wf = true) (hk8 : (Lit.int .u8 k).wf = true) :
    Ans (vb true) [] (callL tab0 ext0 4 [.agg (St.c s), slI bs, vu8 n, vu8 k] []) := by
  have hn := u8_of hn8
  have hk := u8_of hk8
  have kn := wrap_u8i n hn
  have kk := wrap_u8i k hk
  rw [callL_tab _ _ rfl tab4 rfl]
  have h1 := pure_vb (k := false) known_15
  have h2 := pure_vb (k := false) (few_is_16 s)
  rcases (Bool.eq_false_or_eq_true (few8 s)).symm with hs | hs
  · rw [hs] at h2
    simp only [St.c, slI, slT] at h2
    simp [C4, -Int.not_lt, -Int.not_le, Option.bind_assoc, eL_seq, eL_reg, eL_dreg, clr_nil, clr_cons, neOk_nil, neOk_cons, neK_ptr, eL_ret, eL_skip, eL_exit, eL_scope, eL_cond, eL_block, gJ_nil, gJ_n, gJ_g, ob_ite, ob_none, ob_some, om_some, om_none, om_ite, seqG_nor, seqG_ex, seqG_ret, blkK_nor, blkK_ex, blkK_ret, resK_nor, resK_ret, condK_vb, runG_some, runG_none, puts_nil, puts_cons, gdOf_some, guardX_t, guardX_f, guardX_u, guardX_ite, gd_ite, gd_ite', gd_ite2, gd_ite2', mrg_no, mrg_yes, mrg_ite, mrg_ite', ite_vb, ite_vi, ↓evI_call, ↓evI_calli, ↓evI_callv, ↓evI_mxn, fzL_nil, fzL_cons, nmL_nil, nmL_cons, mpL_nil, mpL_cons, anyB_nil, anyB_cons, callvK_fn, mxnK_cons, evI, eqz_self, evBin_eql, evBin_neq, initFrom, putO, put_at, O.ev, evBin_add, evBin_sub, evBin_mul, evBin_lss, evBin_leq, evBin_gtr, evBin_geq, evBin_quo, evBin_rem, evBin_shr, evBin_shl, evBin_and, evBin_or, evBin_xor, evBin_seql, evBin_sneq, evBin_sadd, evUn, A.cp, A.cp1, A.own, A.norm, A.norm1, cst, cst1, takeU, resultOf, resVal, A.isR, A.isC, A.isV, A.cells, Value.oneCell', frz, frzR, frzC, A.hasB, A.scal, A.isVal, optInt, okCell, fillA, capsOf, St.c, slI, slT, h1, h2]
    exact ⟨_, rfl⟩
  rw [hs] at h2
  have hs := few8_sm s hs
  by_cases hl : (10 : Int) < bs.length
  · simp only [St.c, slI, slT] at h2
    simp [C4, -Int.not_lt, -Int.not_le, Option.bind_assoc, eL_seq, eL_reg, eL_dreg, clr_nil, clr_cons, neOk_nil, neOk_cons, neK_ptr, eL_ret, eL_skip, eL_exit, eL_scope, eL_cond, eL_block, gJ_nil, gJ_n, gJ_g, ob_ite, ob_none, ob_some, om_some, om_none, om_ite, seqG_nor, seqG_ex, seqG_ret, blkK_nor, blkK_ex, blkK_ret, resK_nor, resK_ret, condK_vb, runG_some, runG_none, puts_nil, puts_cons, gdOf_some, guardX_t, guardX_f, guardX_u, guardX_ite, gd_ite, gd_ite', gd_ite2, gd_ite2', mrg_no, mrg_yes, mrg_ite, mrg_ite', ite_vb, ite_vi, ↓evI_call, ↓evI_calli, ↓evI_callv, ↓evI_mxn, fzL_nil, fzL_cons, nmL_nil, nmL_cons, mpL_nil, mpL_cons, anyB_nil, anyB_cons, callvK_fn, mxnK_cons, evI, eqz_self, evBin_eql, evBin_neq, initFrom, putO, put_at, O.ev, evBin_add, evBin_sub, evBin_mul, evBin_lss, evBin_leq, evBin_gtr, evBin_geq, evBin_quo, evBin_rem, evBin_shr, evBin_shl, evBin_and, evBin_or, evBin_xor, evBin_seql, evBin_sneq, evBin_sadd, evUn, A.cp, A.cp1, A.own, A.norm, A.norm1, cst, cst1, takeU, resultOf, resVal, A.isR, A.isC, A.isV, A.cells, Value.oneCell', frz, frzR, frzC, A.hasB, A.scal, A.isVal, optInt, okCell, fillA, capsOf, St.c, slI, slT, h1, h2, hl]
    exact ⟨_, rfl⟩
  have h3 := pure_vb (k := false) (thereR_is s n hs.fits)
  rcases (Bool.eq_false_or_eq_true (thereS s n)).symm with ht | ht
  · rw [ht] at h3
    simp only [St.c, slI, slT] at h2 h3
    simp [C4, -Int.not_lt, -Int.not_le, Option.bind_assoc, eL_seq, eL_reg, eL_dreg, clr_nil, clr_cons, neOk_nil, neOk_cons, neK_ptr, eL_ret, eL_skip, eL_exit, eL_scope, eL_cond, eL_block, gJ_nil, gJ_n, gJ_g, ob_ite, ob_none, ob_some, om_some, om_none, om_ite, seqG_nor, seqG_ex, seqG_ret, blkK_nor, blkK_ex, blkK_ret, resK_nor, resK_ret, condK_vb, runG_some, runG_none, puts_nil, puts_cons, gdOf_some, guardX_t, guardX_f, guardX_u, guardX_ite, gd_ite, gd_ite', gd_ite2, gd_ite2', mrg_no, mrg_yes, mrg_ite, mrg_ite', ite_vb, ite_vi, ↓evI_call, ↓evI_calli, ↓evI_callv, ↓evI_mxn, fzL_nil, fzL_cons, nmL_nil, nmL_cons, mpL_nil, mpL_cons, anyB_nil, anyB_cons, callvK_fn, mxnK_cons, evI, eqz_self, evBin_eql, evBin_neq, initFrom, putO, put_at, O.ev, evBin_add, evBin_sub, evBin_mul, evBin_lss, evBin_leq, evBin_gtr, evBin_geq, evBin_quo, evBin_rem, evBin_shr, evBin_shl, evBin_and, evBin_or, evBin_xor, evBin_seql, evBin_sneq, evBin_sadd, evUn, A.cp, A.cp1, A.own, A.norm, A.norm1, cst, cst1, takeU, resultOf, resVal, A.isR, A.isC, A.isV, A.cells, Value.oneCell', frz, frzR, frzC, A.hasB, A.scal, A.isVal, optInt, okCell, fillA, capsOf, St.c, slI, slT, h1, h2, h3, hl, kn]
    exact ⟨_, rfl⟩
  rw [ht] at h3
  obtain ⟨g, h0, hlt⟩ := (thereS_iff s n).1 ht
  have h4 := pure_ansO (k := false) (agent_is s hs bs hb n k)
  obtain ⟨m, rfl⟩ := nat_of n h0
  obtain ⟨j, rfl⟩ := nat_of k hk.1
  have hm : m < s.tasks.length := by omega
  rcases Decidable.em (¬ j < s.tasks[m].parts.length) with hj | hj
  · have hj' : (s.tasks[m].parts.length : Int) ≤ j := by omega
    simp only [St.c, slI, slT] at h2 h3
    simp [C4, -Int.not_lt, -Int.not_le, Option.bind_assoc, eL_seq, eL_reg, eL_dreg, clr_nil, clr_cons, neOk_nil, neOk_cons, neK_ptr, eL_ret, eL_skip, eL_exit, eL_scope, eL_cond, eL_block, gJ_nil, gJ_n, gJ_g, ob_ite, ob_none, ob_some, om_some, om_none, om_ite, seqG_nor, seqG_ex, seqG_ret, blkK_nor, blkK_ex, blkK_ret, resK_nor, resK_ret, condK_vb, runG_some, runG_none, puts_nil, puts_cons, gdOf_some, guardX_t, guardX_f, guardX_u, guardX_ite, gd_ite, gd_ite', gd_ite2, gd_ite2', mrg_no, mrg_yes, mrg_ite, mrg_ite', ite_vb, ite_vi, ↓evI_call, ↓evI_calli, ↓evI_callv, ↓evI_mxn, fzL_nil, fzL_cons, nmL_nil, nmL_cons, mpL_nil, mpL_cons, anyB_nil, anyB_cons, callvK_fn, mxnK_cons, evI, eqz_self, evBin_eql, evBin_neq, initFrom, putO, put_at, O.ev, evBin_add, evBin_sub, evBin_mul, evBin_lss, evBin_leq, evBin_gtr, evBin_geq, evBin_quo, evBin_rem, evBin_shr, evBin_shl, evBin_and, evBin_or, evBin_xor, evBin_seql, evBin_sneq, evBin_sadd, evUn, A.cp, A.cp1, A.own, A.norm, A.norm1, cst, cst1, takeU, resultOf, resVal, A.isR, A.isC, A.isV, A.cells, Value.oneCell', frz, frzR, frzC, A.hasB, A.scal, A.isVal, optInt, okCell, fillA, capsOf, St.c, slI, slT, slP, Tk.c, h1, h2, h3, hl, kn, kk, hm, hlt, drop_tk _ m hm, hj']
    exact ⟨_, rfl⟩
  replace hj := Decidable.not_not.1 hj
  have hj' : ¬ (s.tasks[m].parts.length : Int) ≤ j := by omega
  have hj2 : (j : Int) < s.tasks[m].parts.length := by omega
  rcases Decidable.em (¬ bs.length = s.tasks.length) with hbl | hbl
  · have hbl' : eqz (bs.length : Int) s.tasks.length = false := by simp [eqz]; omega
    simp only [St.c, slI, slT] at h2 h3
    simp [C4, -Int.not_lt, -Int.not_le, Option.bind_assoc, eL_seq, eL_reg, eL_dreg, clr_nil, clr_cons, neOk_nil, neOk_cons, neK_ptr, eL_ret, eL_skip, eL_exit, eL_scope, eL_cond, eL_block, gJ_nil, gJ_n, gJ_g, ob_ite, ob_none, ob_some, om_some, om_none, om_ite, seqG_nor, seqG_ex, seqG_ret, blkK_nor, blkK_ex, blkK_ret, resK_nor, resK_ret, condK_vb, runG_some, runG_none, puts_nil, puts_cons, gdOf_some, guardX_t, guardX_f, guardX_u, guardX_ite, gd_ite, gd_ite', gd_ite2, gd_ite2', mrg_no, mrg_yes, mrg_ite, mrg_ite', ite_vb, ite_vi, ↓evI_call, ↓evI_calli, ↓evI_callv, ↓evI_mxn, fzL_nil, fzL_cons, nmL_nil, nmL_cons, mpL_nil, mpL_cons, anyB_nil, anyB_cons, callvK_fn, mxnK_cons, evI, eqz_self, evBin_eql, evBin_neq, initFrom, putO, put_at, O.ev, evBin_add, evBin_sub, evBin_mul, evBin_lss, evBin_leq, evBin_gtr, evBin_geq, evBin_quo, evBin_rem, evBin_shr, evBin_shl, evBin_and, evBin_or, evBin_xor, evBin_seql, evBin_sneq, evBin_sadd, evUn, A.cp, A.cp1, A.own, A.norm, A.norm1, cst, cst1, takeU, resultOf, resVal, A.isR, A.isC, A.isV, A.cells, Value.oneCell', frz, frzR, frzC, A.hasB, A.scal, A.isVal, optInt, okCell, fillA, capsOf, St.c, slI, slT, slP, Tk.c, h1, h2, h3, hl, kn, kk, hm, hlt, drop_tk _ m hm, hj', hbl']
    exact ⟨_, rfl⟩
  replace hbl := Decidable.not_not.1 hbl
  have hbl' : eqz (bs.length : Int) s.tasks.length = true := by simp [eqz, hbl]
  have hlk := lockS_nat s m j ht hm
  rw [List.getElem?_eq_getElem hj] at hlk
  obtain ⟨p, hp⟩ : ∃ p, p = s.tasks[m].parts[j] := ⟨_, rfl⟩
  have hdrop := drop_pt s.tasks[m].parts j hj
  rw [← hp] at hlk hdrop
  unfold agentS at h4
  rw [if_pos hbl] at h4
  rcases (Bool.eq_false_or_eq_true (eqz p.kind 3)).symm with hkd | hkd
  · simp only [Option.filter_some, hkd] at hlk
    simp only [hlk, Bool.false_eq_true, if_false, Option.bind_none, Option.getD_none, Option.isSome_none] at h4
    simp only [St.c, slI, slT] at h2 h3 h4
    simp [C4, -Int.not_lt, -Int.not_le, Option.bind_assoc, eL_seq, eL_reg, eL_dreg, clr_nil, clr_cons, neOk_nil, neOk_cons, neK_ptr, eL_ret, eL_skip, eL_exit, eL_scope, eL_cond, eL_block, gJ_nil, gJ_n, gJ_g, ob_ite, ob_none, ob_some, om_some, om_none, om_ite, seqG_nor, seqG_ex, seqG_ret, blkK_nor, blkK_ex, blkK_ret, resK_nor, resK_ret, condK_vb, runG_some, runG_none, puts_nil, puts_cons, gdOf_some, guardX_t, guardX_f, guardX_u, guardX_ite, gd_ite, gd_ite', gd_ite2, gd_ite2', mrg_no, mrg_yes, mrg_ite, mrg_ite', ite_vb, ite_vi, ↓evI_call, ↓evI_calli, ↓evI_callv, ↓evI_mxn, fzL_nil, fzL_cons, nmL_nil, nmL_cons, mpL_nil, mpL_cons, anyB_nil, anyB_cons, callvK_fn, mxnK_cons, evI, eqz_self, evBin_eql, evBin_neq, initFrom, putO, put_at, O.ev, evBin_add, evBin_sub, evBin_mul, evBin_lss, evBin_leq, evBin_gtr, evBin_geq, evBin_quo, evBin_rem, evBin_shr, evBin_shl, evBin_and, evBin_or, evBin_xor, evBin_seql, evBin_sneq, evBin_sadd, evUn, A.cp, A.cp1, A.own, A.norm, A.norm1, cst, cst1, takeU, resultOf, resVal, A.isR, A.isC, A.isV, A.cells, Value.oneCell', frz, frzR, frzC, A.hasB, A.scal, A.isVal, optInt, okCell, fillA, capsOf, St.c, slI, slT, slP, Tk.c, Pt.c, h1, h2, h3, h4, hl, kn, kk, hm, hlt, drop_tk _ m hm, hj', hj2, hj, hdrop, hbl', hkd, eqz_self]
    exact ⟨_, rfl⟩
  simp only [Option.filter_some, hkd, if_true] at hlk
  have hlb := least_bounds hlk
  obtain ⟨r1, r2, r3⟩ := home_at g (List.getElem_mem hm) (p := p) (by rw [hp]; exact List.getElem_mem hj) (by simpa [eqz] using hkd)
  have h5 := pure_vi (k := false) (lower_is s hs m (homeOf s p))
  have hw : IntKind.wrap .i64 (p.len + lowerS s m (homeOf s p)) = leastS s m p := wrap_i _ (by unfold leastS at hlb; omega) (by unfold leastS at hlb; omega)
  simp only [hlk, Option.bind_some] at h4
  have hN : leastS s m p + (((3000 + 1 - leastS s m p).toNat : Nat) : Int) = 3001 := by omega
  have hlp := least_loop s hs bs hb m hn p (homeOf s p) (leastS s m p) hlb (lfp (fun w => leastS s m p + higherS s bs m (homeOf s p) w) (leastS s m p) 3000) _ hN (3000 + 1 - leastS s m p).toNat 0
  unfold lfp at h4 hlp
  unfold FQ at hlp
  generalize fstP _ _ _ = r at h4 hlp
  generalize (3000 + 1 - leastS s m p).toNat = N at hlp
  have e0 : leastS s m p + ((0 : Nat) : Int) = leastS s m p := by omega
  rw [e0] at hlp
  generalize leastS s m p = lst at h4 hlp hw
  simp only [St.c, slI, slT, Pt.c] at h2 h3 h4 h5 hlp
  simp [C4, -Int.not_lt, -Int.not_le, Option.bind_assoc, eL_seq, eL_reg, eL_dreg, clr_nil, clr_cons, neOk_nil, neOk_cons, neK_ptr, eL_ret, eL_skip, eL_exit, eL_scope, eL_cond, eL_block, gJ_nil, gJ_n, gJ_g, ob_ite, ob_none, ob_some, om_some, om_none, om_ite, seqG_nor, seqG_ex, seqG_ret, blkK_nor, blkK_ex, blkK_ret, resK_nor, resK_ret, condK_vb, runG_some, runG_none, puts_nil, puts_cons, gdOf_some, guardX_t, guardX_f, guardX_u, guardX_ite, gd_ite, gd_ite', gd_ite2, gd_ite2', mrg_no, mrg_yes, mrg_ite, mrg_ite', ite_vb, ite_vi, ↓evI_call, ↓evI_calli, ↓evI_callv, ↓evI_mxn, fzL_nil, fzL_cons, nmL_nil, nmL_cons, mpL_nil, mpL_cons, anyB_nil, anyB_cons, callvK_fn, mxnK_cons, evI, eqz_self, evBin_eql, evBin_neq, initFrom, putO, put_at, O.ev, evBin_add, evBin_sub, evBin_mul, evBin_lss, evBin_leq, evBin_gtr, evBin_geq, evBin_quo, evBin_rem, evBin_shr, evBin_shl, evBin_and, evBin_or, evBin_xor, evBin_seql, evBin_sneq, evBin_sadd, evUn, A.cp, A.cp1, A.own, A.norm, A.norm1, cst, cst1, takeU, resultOf, resVal, A.isR, A.isC, A.isV, A.cells, Value.oneCell', frz, frzR, frzC, A.hasB, A.scal, A.isVal, optInt, okCell, fillA, capsOf, St.c, slI, slT, slP, Tk.c, Pt.c, h1, h2, h3, h4, h5, hl, kn, kk, hm, hlt, drop_tk _ m hm, hj', hj2, hj, hdrop, hbl', hkd, r1, r2, r3, hw]
  refine behindP (P := fun r' => Ans _ [] r') (hlp _ (by omega) (by simp [put_at])) ?_
  intro a h
  cases r with
  | some v =>
    obtain ⟨e', junk, rfl, k8⟩ := h
    simp [-Int.not_lt, -Int.not_le, Option.bind_assoc, eL_seq, eL_reg, eL_dreg, clr_nil, clr_cons, neOk_nil, neOk_cons, neK_ptr, eL_ret, eL_skip, eL_exit, eL_scope, eL_cond, eL_block, gJ_nil, gJ_n, gJ_g, ob_ite, ob_none, ob_some, om_some, om_none, om_ite, seqG_nor, seqG_ex, seqG_ret, blkK_nor, blkK_ex, blkK_ret, resK_nor, resK_ret, condK_vb, runG_some, runG_none, puts_nil, puts_cons, gdOf_some, guardX_t, guardX_f, guardX_u, guardX_ite, gd_ite, gd_ite', gd_ite2, gd_ite2', mrg_no, mrg_yes, mrg_ite, mrg_ite', ite_vb, ite_vi, ↓evI_call, ↓evI_calli, ↓evI_callv, ↓evI_mxn, fzL_nil, fzL_cons, nmL_nil, nmL_cons, mpL_nil, mpL_cons, anyB_nil, anyB_cons, callvK_fn, mxnK_cons, evI, eqz_self, evBin_eql, evBin_neq, initFrom, putO, put_at, O.ev, evBin_add, evBin_sub, evBin_mul, evBin_lss, evBin_leq, evBin_gtr, evBin_geq, evBin_quo, evBin_rem, evBin_shr, evBin_shl, evBin_and, evBin_or, evBin_xor, evBin_seql, evBin_sneq, evBin_sadd, evUn, A.cp, A.cp1, A.own, A.norm, A.norm1, cst, cst1, takeU, resultOf, resVal, A.isR, A.isC, A.isV, A.cells, Value.oneCell', frz, frzR, frzC, A.hasB, A.scal, A.isVal, optInt, okCell, fillA, capsOf, k8, eqz_self]
    exact ⟨_, rfl⟩
  | none =>
    obtain ⟨e', rfl, k8, k9⟩ := h
    simp [-Int.not_lt, -Int.not_le, Option.bind_assoc, eL_seq, eL_reg, eL_dreg, clr_nil, clr_cons, neOk_nil, neOk_cons, neK_ptr, eL_ret, eL_skip, eL_exit, eL_scope, eL_cond, eL_block, gJ_nil, gJ_n, gJ_g, ob_ite, ob_none, ob_some, om_some, om_none, om_ite, seqG_nor, seqG_ex, seqG_ret, blkK_nor, blkK_ex, blkK_ret, resK_nor, resK_ret, condK_vb, runG_some, runG_none, puts_nil, puts_cons, gdOf_some, guardX_t, guardX_f, guardX_u, guardX_ite, gd_ite, gd_ite', gd_ite2, gd_ite2', mrg_no, mrg_yes, mrg_ite, mrg_ite', ite_vb, ite_vi, ↓evI_call, ↓evI_calli, ↓evI_callv, ↓evI_mxn, fzL_nil, fzL_cons, nmL_nil, nmL_cons, mpL_nil, mpL_cons, anyB_nil, anyB_cons, callvK_fn, mxnK_cons, evI, eqz_self, evBin_eql, evBin_neq, initFrom, putO, put_at, O.ev, evBin_add, evBin_sub, evBin_mul, evBin_lss, evBin_leq, evBin_gtr, evBin_geq, evBin_quo, evBin_rem, evBin_shr, evBin_shl, evBin_and, evBin_or, evBin_xor, evBin_seql, evBin_sneq, evBin_sadd, evUn, A.cp, A.cp1, A.own, A.norm, A.norm1, cst, cst1, takeU, resultOf, resVal, A.isR, A.isC, A.isV, A.cells, Value.oneCell', frz, frzR, frzC, A.hasB, A.scal, A.isVal, optInt, okCell, fillA, capsOf, k8, k9, eqz_self]
    exact ⟨_, rfl⟩
end Go.Proofs.YtiocdaeinahcoaaEv
