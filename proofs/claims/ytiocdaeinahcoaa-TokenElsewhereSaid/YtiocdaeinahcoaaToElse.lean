/- swingbridgelaw15.TokenElsewhere. -/
import Derived.Test.YtiocdaeinahcoaaToElseP
import Derived.Test.YtiocdaeinahcoaaU8
set_option linter.unusedSimpArgs false
set_option linter.unusedVariables false
namespace Go.Proofs.YtiocdaeinahcoaaEv
open Go
set_option maxHeartbeats 4000000
theorem tokenElsewhere_is (a b c d : Int) (ha8 : (Lit.int .u8 a).wf = true) (hb8 : (Lit.int .u8 b).wf = true) (hc8 : (Lit.int .u8 c).wf = true) (hd8 : (Lit.int .u8 d).wf = true) :
    Ans (vb true) [] (callL tab0 ext0 14 [vu8 a, vu8 b, vu8 c, vu8 d] []) := by
  have q : ∀ n m : Int, (Lit.int .u8 n).wf = true → 1 ≤ m ∧ m ≤ 50 → n.tmod m = n % m ∧ 0 ≤ n % m ∧ n % m < m ∧ IntKind.wrap .i64 (n % m) = n % m ∧ IntKind.wrap .i64 (n % m + 1) = n % m + 1 := by
    intro n m hn hm
    have h := u8_of hn
    have h1 := Int.emod_nonneg n (show m ≠ 0 by omega)
    have h2 := Int.emod_lt_of_pos n (show 0 < m by omega)
    exact ⟨Int.tmod_eq_emod_of_nonneg h.1, h1, h2, wrap_in _ (by omega) (by omega), wrap_in _ (by omega) (by omega)⟩
  obtain ⟨a1, a2, a3, a4, a6⟩ := q a 50 ha8 (by omega)
  obtain ⟨b1, b2, b3, b4, b6⟩ := q b 50 hb8 (by omega)
  obtain ⟨c1, c2, c3, c4, c6⟩ := q c 50 hc8 (by omega)
  obtain ⟨d1, d2, d3, d4, d6⟩ := q d 3 hd8 (by omega)
  clear q
  have l := else_law (a % 50 + 1) (b % 50 + 1) (c % 50 + 1) (d % 3 + 1) (by omega) (by omega) (by omega) (by omega)
  generalize a % 50 = x0 at *
  generalize b % 50 = y0 at *
  generalize c % 50 = z0 at *
  generalize d % 3 = k0 at *
  obtain ⟨x, hx⟩ : ∃ x, x = x0 + 1 := ⟨_, rfl⟩
  obtain ⟨y, hy⟩ : ∃ y, y = y0 + 1 := ⟨_, rfl⟩
  obtain ⟨z, hz⟩ : ∃ z, z = z0 + 1 := ⟨_, rfl⟩
  obtain ⟨k, hk⟩ : ∃ k, k = k0 + 1 := ⟨_, rfl⟩
  rw [← hx] at a6 l
  rw [← hy] at b6 l
  rw [← hz] at c6 l
  rw [← hk] at d6 l
  obtain ⟨l1, l2, l3⟩ := l
  have w1 : IntKind.wrap .i64 (x + max y z) = x + max y z := wrap_in _ (by omega) (by omega)
  have w2 : IntKind.wrap .i64 (x + y) = x + y := wrap_in _ (by omega) (by omega)
  have w3 : IntKind.wrap .i64 (x + y + z) = x + y + z := wrap_in _ (by omega) (by omega)
  have hf : foldM true y [vi z] = some (max y z) := by show some (if z > y then z else y) = _; congr 1; split <;> omega
  have hs := else_sm x y z k
  have h1 := pure_vb (k := false) known_30
  have h2 := pure_ansO (k := false) (tok_is _ hs 0 0)
  have h3 := pure_vi (k := false) (tokU_is _ hs 0)
  have h4 := pure_vi (k := false) (tokU_is _ hs 1)
  rw [l1] at h2
  rw [l2] at h3
  generalize outS (elseS x y z k) 1 = o at h4 l3
  rw [callL_tab _ _ rfl tab14 rfl]
  simp only [St.c, slI, slT, slP, elseS, elseT, Tk.c, Pt.c, List.flatMap_cons, List.flatMap_nil, List.map_cons, List.map_nil, List.cons_append, List.nil_append, List.append_nil, List.length_cons, List.length_nil, Option.getD_some, Option.isSome_some, Nat.zero_add, Nat.reduceAdd] at h2 h3 h4
  by_cases hk1 : 1 < k
  · rw [if_pos hk1] at h2
    have e1 : eqz k 1 = false := by simp [eqz]; omega
    rw [e1] at l3
    simp [C14, -Int.not_lt, -Int.not_le, Option.bind_assoc, eL_seq, eL_reg, eL_dreg, clr_nil, clr_cons, neOk_nil, neOk_cons, neK_ptr, eL_ret, eL_skip, eL_exit, eL_scope, eL_cond, eL_block, gJ_nil, gJ_n, gJ_g, ob_ite, ob_none, ob_some, om_some, om_none, om_ite, seqG_nor, seqG_ex, seqG_ret, blkK_nor, blkK_ex, blkK_ret, resK_nor, resK_ret, condK_vb, runG_some, runG_none, puts_nil, puts_cons, gdOf_some, guardX_t, guardX_f, guardX_u, guardX_ite, gd_ite, gd_ite', gd_ite2, gd_ite2', mrg_no, mrg_yes, mrg_ite, mrg_ite', ite_vb, ite_vi, ↓evI_call, ↓evI_calli, ↓evI_callv, ↓evI_mxn, fzL_nil, fzL_cons, nmL_nil, nmL_cons, mpL_nil, mpL_cons, anyB_nil, anyB_cons, callvK_fn, mxnK_cons, evI, eqz_self, evBin_eql, evBin_neq, initFrom, putO, put_at, O.ev, evBin_add, evBin_sub, evBin_mul, evBin_lss, evBin_leq, evBin_gtr, evBin_geq, evBin_quo, evBin_rem, evBin_shr, evBin_shl, evBin_and, evBin_or, evBin_xor, evBin_seql, evBin_sneq, evBin_sadd, evUn, A.cp, A.cp1, A.own, A.norm, A.norm1, cst, cst1, takeU, resultOf, resVal, A.isR, A.isC, A.isV, A.cells, Value.oneCell', frz, frzR, frzC, A.hasB, A.scal, A.isVal, optInt, okCell, fillA, capsOf, h1, a1, a4, a6, b1, b4, b6, c1, c4, c6, d1, d4, d6, ← hx, ← hy, ← hz, ← hk, hf, w1, w2, w3, h2, h3, h4, hk1, e1, l3, eqz_self]
    exact ⟨_, rfl⟩
  · rw [if_neg hk1] at h2
    have e1 : eqz k 1 = true := by simp [eqz]; omega
    rw [e1] at l3
    simp [C14, -Int.not_lt, -Int.not_le, Option.bind_assoc, eL_seq, eL_reg, eL_dreg, clr_nil, clr_cons, neOk_nil, neOk_cons, neK_ptr, eL_ret, eL_skip, eL_exit, eL_scope, eL_cond, eL_block, gJ_nil, gJ_n, gJ_g, ob_ite, ob_none, ob_some, om_some, om_none, om_ite, seqG_nor, seqG_ex, seqG_ret, blkK_nor, blkK_ex, blkK_ret, resK_nor, resK_ret, condK_vb, runG_some, runG_none, puts_nil, puts_cons, gdOf_some, guardX_t, guardX_f, guardX_u, guardX_ite, gd_ite, gd_ite', gd_ite2, gd_ite2', mrg_no, mrg_yes, mrg_ite, mrg_ite', ite_vb, ite_vi, ↓evI_call, ↓evI_calli, ↓evI_callv, ↓evI_mxn, fzL_nil, fzL_cons, nmL_nil, nmL_cons, mpL_nil, mpL_cons, anyB_nil, anyB_cons, callvK_fn, mxnK_cons, evI, eqz_self, evBin_eql, evBin_neq, initFrom, putO, put_at, O.ev, evBin_add, evBin_sub, evBin_mul, evBin_lss, evBin_leq, evBin_gtr, evBin_geq, evBin_quo, evBin_rem, evBin_shr, evBin_shl, evBin_and, evBin_or, evBin_xor, evBin_seql, evBin_sneq, evBin_sadd, evUn, A.cp, A.cp1, A.own, A.norm, A.norm1, cst, cst1, takeU, resultOf, resVal, A.isR, A.isC, A.isV, A.cells, Value.oneCell', frz, frzR, frzC, A.hasB, A.scal, A.isVal, optInt, okCell, fillA, capsOf, h1, a1, a4, a6, b1, b4, b6, c1, c4, c6, d1, d4, d6, ← hx, ← hy, ← hz, ← hk, hf, w1, w2, w3, h2, h3, h4, hk1, e1, l3, eqz_self]
    exact ⟨_, rfl⟩
end Go.Proofs.YtiocdaeinahcoaaEv
