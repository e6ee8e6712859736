/- swingbridgelaw13.FairCrowd. -/
import Derived.Test.YtiocdaeinahcoaaCrowdF
import Derived.Test.YtiocdaeinahcoaaU8s
set_option linter.unusedSimpArgs false
set_option linter.unusedVariables false
namespace Go.Proofs.YtiocdaeinahcoaaEv
open Go
set_option maxHeartbeats 4000000
theorem cu8w (i : Nat) (h : i < 6) : IntKind.wrap .u8 (97 + (i : Int)) = 97 + (i : Int) := by
  match i, h with
  | 0, _ => rfl | 1, _ => rfl | 2, _ => rfl | 3, _ => rfl | 4, _ => rfl | 5, _ => rfl
theorem cbytes1 (i : Nat) (h : i < 6) : bytesA [.val (.int .u8 (97 + (i : Int)))] = some [UInt8.ofNat (97 + i)] := by
  match i, h with
  | 0, _ => rfl | 1, _ => rfl | 2, _ => rfl | 3, _ => rfl | 4, _ => rfl | 5, _ => rfl
def cwQ (l : List Int) (i : Nat) : List A := ((List.range i).map (crT 900 (cwP l))).flatMap Tk.c
def cwB (l : List Int) (i : Nat) : List A := [vi 1, .sl [vi 2] 1 2, .sl [vi 0, vi 0] 2 2, .sl (cwQ l i) i 2]
theorem cwQ_len (l : List Int) : ∀ i, (cwQ l i).length = i * 6
  | 0 => rfl
  | i + 1 => by have := cwQ_len l i; unfold cwQ at this ⊢; rw [cr_step, List.length_append, this]; show i * 6 + 6 = _; omega
theorem cwQ_step (l : List Int) (i : Nat) : cwQ l (i + 1) = cwQ l i ++ [vs ⟨#[UInt8.ofNat (97 + i)]⟩, vi 900, vi 900, vi ((i : Int) + 1), vi 0, .sl [vi 1, vi 1, vi 0, vi 3, vi (cwL l i), vi ((i : Int) % 2)] 2 0] := by
  unfold cwQ; rw [cr_step]; rfl
theorem drop_u8 (l : List Int) (i : Nat) (h : i < l.length) : (l.map vu8).drop i = vu8 l[i] :: (l.drop (i + 1)).map vu8 := by
  rw [← List.map_drop, List.drop_eq_getElem_cons h]; rfl
theorem cw_own (l : List Int) (at' a0 : A) (hat : at'.dang 1 = true) (ho : at'.own = at') (e : Env) (h0 : e 0 = slB l) (h1 : e 1 = vu8 0) (h5 : e 5 = .ptr 0 0) (h6 : e 6 = vi 0) (h7 : e 7 = vi 0) : True := trivial
theorem cw_first (l : List Int) (a : Int) (e : Env) (h0 : e 0 = slB l) (h1 : e 1 = vu8 a) (h5 : e 5 = .ptr 0 0) (h6 : e 6 = vi 0) (h7 : e 7 = vi 0) :
    evL tab0 ext0 0 L10_0 (e, [[vi 1, .sl [vi 2] 1 1, .sl [vi 0, vi 0] 2 1, .sl [] 0 1]]) = evL tab0 ext0 0 L10_0 (e, [cwB l 0]) := by
  rw [go10_0, go10_0]
  simp [cwB, cwQ, -Int.not_lt, -Int.not_le, Option.bind_assoc, eL_seq, eL_reg, eL_dreg, clr_nil, clr_cons, neOk_nil, neOk_cons, neK_ptr, eL_ret, eL_skip, eL_exit, eL_scope, eL_cond, eL_block, gJ_nil, gJ_n, gJ_g, ob_ite, ob_none, ob_some, om_some, om_none, om_ite, seqG_nor, seqG_ex, seqG_ret, blkK_nor, blkK_ex, blkK_ret, resK_nor, resK_ret, condK_vb, runG_some, runG_none, puts_nil, puts_cons, gdOf_some, guardX_t, guardX_f, guardX_u, guardX_ite, gd_ite, gd_ite', gd_ite2, gd_ite2', mrg_no, mrg_yes, mrg_ite, mrg_ite', ite_vb, ite_vi, ↓evI_call, ↓evI_calli, ↓evI_callv, ↓evI_mxn, fzL_nil, fzL_cons, nmL_nil, nmL_cons, mpL_nil, mpL_cons, anyB_nil, anyB_cons, callvK_fn, mxnK_cons, evI, eqz_self, evBin_eql, evBin_neq, initFrom, putO, put_at, O.ev, evBin_add, evBin_sub, evBin_mul, evBin_lss, evBin_leq, evBin_gtr, evBin_geq, evBin_quo, evBin_rem, evBin_shr, evBin_shl, evBin_and, evBin_or, evBin_xor, evBin_seql, evBin_sneq, evBin_sadd, evUn, A.cp, A.cp1, A.own, A.norm, A.norm1, cst, cst1, takeU, resultOf, resVal, A.isR, A.isC, A.isV, A.cells, Value.oneCell', frz, frzR, frzC, A.hasB, A.scal, A.isVal, optInt, okCell, fillA, capsOf, loopIn, loopIn0, keepL, emp, A.dang, A.dangC, slB, h0, h1, h5, h6, h7]
theorem cw_loop (l : List Int) (a : Int) (hl : ∀ n ∈ l, B8 n) (hn : l.length ≤ 6) : ∀ (k i : Nat) (e : Env), i + k = l.length → e 0 = slB l → e 1 = vu8 a → e 5 = .ptr 0 0 → e 6 = vi (sumN (cwL l) i) → e 7 = vi i →
    ∃ e', evL tab0 ext0 0 L10_0 (e, [cwB l i]) = some (.ex 0, e', [cwB l l.length]) ∧ e' 0 = slB l ∧ e' 1 = vu8 a ∧ e' 5 = .ptr 0 0 ∧ e' 6 = vi (sumN (cwL l) l.length) := by
  intro k
  induction k with
  | zero =>
    intro i e hi h0 h1 h5 h6 h7
    obtain rfl : i = l.length := by omega
    unfold cwB
    generalize cwQ l l.length = Q
    exact ⟨_, (go10_0 _ _).trans (by simp [B10_0, -Int.not_lt, -Int.not_le, Option.bind_assoc, eL_seq, eL_reg, eL_dreg, clr_nil, clr_cons, neOk_nil, neOk_cons, neK_ptr, eL_ret, eL_skip, eL_exit, eL_scope, eL_cond, eL_block, gJ_nil, gJ_n, gJ_g, ob_ite, ob_none, ob_some, om_some, om_none, om_ite, seqG_nor, seqG_ex, seqG_ret, blkK_nor, blkK_ex, blkK_ret, resK_nor, resK_ret, condK_vb, runG_some, runG_none, puts_nil, puts_cons, gdOf_some, guardX_t, guardX_f, guardX_u, guardX_ite, gd_ite, gd_ite', gd_ite2, gd_ite2', mrg_no, mrg_yes, mrg_ite, mrg_ite', ite_vb, ite_vi, ↓evI_call, ↓evI_calli, ↓evI_callv, ↓evI_mxn, fzL_nil, fzL_cons, nmL_nil, nmL_cons, mpL_nil, mpL_cons, anyB_nil, anyB_cons, callvK_fn, mxnK_cons, evI, eqz_self, evBin_eql, evBin_neq, initFrom, putO, put_at, O.ev, evBin_add, evBin_sub, evBin_mul, evBin_lss, evBin_leq, evBin_gtr, evBin_geq, evBin_quo, evBin_rem, evBin_shr, evBin_shl, evBin_and, evBin_or, evBin_xor, evBin_seql, evBin_sneq, evBin_sadd, evUn, A.cp, A.cp1, A.own, A.norm, A.norm1, cst, cst1, takeU, resultOf, resVal, A.isR, A.isC, A.isV, A.cells, Value.oneCell', frz, frzR, frzC, A.hasB, A.scal, A.isVal, optInt, okCell, fillA, capsOf, loopIn, loopIn0, keepL, emp, A.dang, A.dangC, slB, h0, h1, h5, h6, h7]; rfl), by simp [put_at, slB]⟩
  | succ k ih =>
    intro i e hi h0 h1 h5 h6 h7
    have hil : i < l.length := by omega
    have hi' : (i : Int) < l.length := by omega
    have hw : IntKind.wrap .i64 ((i : Int) + 1) = (i : Int) + 1 := wrap_in _ (by omega) (by omega)
    have hw2 : IntKind.wrap .i64 (97 + (i : Int)) = 97 + (i : Int) := wrap_in _ (by omega) (by omega)
    have hw3 := cu8w i (by omega)
    have hb := cbytes1 i (by omega)
    have hsz : (i + 1) * 72 ≤ 70368744177664 := by omega
    have hQ := cwQ_len l i
    have hx := hl _ (List.getElem_mem hil)
    have hd := drop_u8 l i hil
    have e1 : cwL l i = l[i] % 60 + 1 := by unfold cwL; simp [hil]
    have r1 : l[i].tmod 60 = l[i] % 60 := Int.tmod_eq_emod_of_nonneg hx.1
    have r2 : (i : Int).tmod 2 = (i : Int) % 2 := Int.tmod_eq_emod_of_nonneg (by omega)
    have w1 : IntKind.wrap .i64 (l[i] % 60) = l[i] % 60 := wrap_in _ (by omega) (by omega)
    have w2 : IntKind.wrap .i64 (l[i] % 60 + 1) = l[i] % 60 + 1 := wrap_in _ (by omega) (by omega)
    have b1 := sumN_ge (f := cwL l) i fun j _ => by have := cwL_b l j; omega
    have b2 := sumN_le (f := cwL l) (b := 60) i fun j _ => (cwL_b l j).2
    have w3 : IntKind.wrap .i64 (sumN (cwL l) i + (l[i] % 60 + 1)) = sumN (cwL l) i + (l[i] % 60 + 1) := wrap_in _ (by omega) (by omega)
    have e2' : sumN (cwL l) (i + 1) = sumN (cwL l) i + (l[i] % 60 + 1) := by rw [sumN, e1]
    obtain ⟨e2, k1, k2⟩ := ih (i + 1) (put 7 (vi ((i : Int) + 1)) (put 0 (slB l) (put 1 (vu8 a) (put 5 (.ptr 0 0) (put 6 (vi (sumN (cwL l) (i + 1))) emp))))) (by omega) (by simp [put_at]) (by simp [put_at]) (by simp [put_at]) (by simp [put_at]) (by simp [put_at])
    refine ⟨e2, ?_, k2⟩
    rw [← k1]
    refine (go10_0 _ _).trans ?_
    unfold cwB
    rw [cwQ_step, e2', e1]
    generalize UInt8.ofNat (97 + i) = nm at *
    generalize cwQ l i = Q at *
    generalize sumN (cwL l) i = u at *
    generalize l[i] = z at *
    simp [B10_0, -Int.not_lt, -Int.not_le, Option.bind_assoc, eL_seq, eL_reg, eL_dreg, clr_nil, clr_cons, neOk_nil, neOk_cons, neK_ptr, eL_ret, eL_skip, eL_exit, eL_scope, eL_cond, eL_block, gJ_nil, gJ_n, gJ_g, ob_ite, ob_none, ob_some, om_some, om_none, om_ite, seqG_nor, seqG_ex, seqG_ret, blkK_nor, blkK_ex, blkK_ret, resK_nor, resK_ret, condK_vb, runG_some, runG_none, puts_nil, puts_cons, gdOf_some, guardX_t, guardX_f, guardX_u, guardX_ite, gd_ite, gd_ite', gd_ite2, gd_ite2', mrg_no, mrg_yes, mrg_ite, mrg_ite', ite_vb, ite_vi, ↓evI_call, ↓evI_calli, ↓evI_callv, ↓evI_mxn, fzL_nil, fzL_cons, nmL_nil, nmL_cons, mpL_nil, mpL_cons, anyB_nil, anyB_cons, callvK_fn, mxnK_cons, evI, eqz_self, evBin_eql, evBin_neq, initFrom, putO, put_at, O.ev, evBin_add, evBin_sub, evBin_mul, evBin_lss, evBin_leq, evBin_gtr, evBin_geq, evBin_quo, evBin_rem, evBin_shr, evBin_shl, evBin_and, evBin_or, evBin_xor, evBin_seql, evBin_sneq, evBin_sadd, evUn, A.cp, A.cp1, A.own, A.norm, A.norm1, cst, cst1, takeU, resultOf, resVal, A.isR, A.isC, A.isV, A.cells, Value.oneCell', frz, frzR, frzC, A.hasB, A.scal, A.isVal, optInt, okCell, fillA, capsOf, loopIn, loopIn0, keepL, emp, A.dang, A.dangC, slB, h0, h1, h5, h6, h7, hi', hil, hw, hw2, hw3, hb, asList, hsz, hQ, hd, r1, r2, w1, w2, w3]
    exact loop_env (by simp [put_at, slB])
theorem cw_loopP (l : List Int) (a : Int) (hl : ∀ n ∈ l, B8 n) (hn : l.length ≤ 6) (e : Env) (h : e 0 = slB l ∧ e 1 = vu8 a ∧ e 5 = .ptr 0 0 ∧ e 6 = vi 0 ∧ e 7 = vi 0) :
    ∃ z, evL tab0 ext0 0 L10_0 (e, [[vi 1, .sl [vi 2] 1 1, .sl [vi 0, vi 0] 2 1, .sl [] 0 1]]) = some z ∧ ∃ e', z = (.ex 0, e', [cwB l l.length]) ∧ e' 0 = slB l ∧ e' 1 = vu8 a ∧ e' 5 = .ptr 0 0 ∧ e' 6 = vi (sumN (cwL l) l.length) := by
  obtain ⟨h0, h1, h5, h6, h7⟩ := h
  obtain ⟨e', k, k2⟩ := cw_loop l a hl hn l.length 0 e (by omega) h0 h1 h5 h6 h7
  exact ⟨_, (cw_first l a e h0 h1 h5 h6 h7).trans k, e', rfl, k2⟩
theorem fairCrowd_is (l : List Int) (a : Int) (hl : ∀ n ∈ l, B8 n) (ha8 : (Lit.int .u8 a).wf = true) : Ans (vb true) [] (callL tab0 ext0 10 [slB l, vu8 a] []) := by
  have ha := u8_of ha8
  have ka := wrap_u8i a ha
  have h1 := pure_vb (k := false) known_24
  rw [callL_tab _ _ rfl tab10 rfl]
  by_cases c1 : (l.length : Int) < 1
  · simp [C10, -Int.not_lt, -Int.not_le, Option.bind_assoc, eL_seq, eL_reg, eL_dreg, clr_nil, clr_cons, neOk_nil, neOk_cons, neK_ptr, eL_ret, eL_skip, eL_exit, eL_scope, eL_cond, eL_block, gJ_nil, gJ_n, gJ_g, ob_ite, ob_none, ob_some, om_some, om_none, om_ite, seqG_nor, seqG_ex, seqG_ret, blkK_nor, blkK_ex, blkK_ret, resK_nor, resK_ret, condK_vb, runG_some, runG_none, puts_nil, puts_cons, gdOf_some, guardX_t, guardX_f, guardX_u, guardX_ite, gd_ite, gd_ite', gd_ite2, gd_ite2', mrg_no, mrg_yes, mrg_ite, mrg_ite', ite_vb, ite_vi, ↓evI_call, ↓evI_calli, ↓evI_callv, ↓evI_mxn, fzL_nil, fzL_cons, nmL_nil, nmL_cons, mpL_nil, mpL_cons, anyB_nil, anyB_cons, callvK_fn, mxnK_cons, evI, eqz_self, evBin_eql, evBin_neq, initFrom, putO, put_at, O.ev, evBin_add, evBin_sub, evBin_mul, evBin_lss, evBin_leq, evBin_gtr, evBin_geq, evBin_quo, evBin_rem, evBin_shr, evBin_shl, evBin_and, evBin_or, evBin_xor, evBin_seql, evBin_sneq, evBin_sadd, evUn, A.cp, A.cp1, A.own, A.norm, A.norm1, cst, cst1, takeU, resultOf, resVal, A.isR, A.isC, A.isV, A.cells, Value.oneCell', frz, frzR, frzC, A.hasB, A.scal, A.isVal, optInt, okCell, fillA, capsOf, slB, h1, c1]
    exact ⟨_, rfl⟩
  by_cases c2 : (6 : Int) < l.length
  · simp [C10, -Int.not_lt, -Int.not_le, Option.bind_assoc, eL_seq, eL_reg, eL_dreg, clr_nil, clr_cons, neOk_nil, neOk_cons, neK_ptr, eL_ret, eL_skip, eL_exit, eL_scope, eL_cond, eL_block, gJ_nil, gJ_n, gJ_g, ob_ite, ob_none, ob_some, om_some, om_none, om_ite, seqG_nor, seqG_ex, seqG_ret, blkK_nor, blkK_ex, blkK_ret, resK_nor, resK_ret, condK_vb, runG_some, runG_none, puts_nil, puts_cons, gdOf_some, guardX_t, guardX_f, guardX_u, guardX_ite, gd_ite, gd_ite', gd_ite2, gd_ite2', mrg_no, mrg_yes, mrg_ite, mrg_ite', ite_vb, ite_vi, ↓evI_call, ↓evI_calli, ↓evI_callv, ↓evI_mxn, fzL_nil, fzL_cons, nmL_nil, nmL_cons, mpL_nil, mpL_cons, anyB_nil, anyB_cons, callvK_fn, mxnK_cons, evI, eqz_self, evBin_eql, evBin_neq, initFrom, putO, put_at, O.ev, evBin_add, evBin_sub, evBin_mul, evBin_lss, evBin_leq, evBin_gtr, evBin_geq, evBin_quo, evBin_rem, evBin_shr, evBin_shl, evBin_and, evBin_or, evBin_xor, evBin_seql, evBin_sneq, evBin_sadd, evUn, A.cp, A.cp1, A.own, A.norm, A.norm1, cst, cst1, takeU, resultOf, resVal, A.isR, A.isC, A.isV, A.cells, Value.oneCell', frz, frzR, frzC, A.hasB, A.scal, A.isVal, optInt, okCell, fillA, capsOf, slB, h1, c1, c2]
    exact ⟨_, rfl⟩
  have hn : 1 ≤ l.length ∧ l.length ≤ 6 := by omega
  have q1 : a.tmod l.length = a % l.length := Int.tmod_eq_emod_of_nonneg ha.1
  have q2 := Int.emod_nonneg a (show (l.length : Int) ≠ 0 by omega)
  have q3 := Int.emod_lt_of_pos a (show 0 < (l.length : Int) by omega)
  have qz : ¬ (l.length : Int) = 0 := by omega
  have hne : ¬ l = [] := by intro e; rw [e] at hn; simp at hn
  obtain ⟨k, hk⟩ := nat_of (a % l.length) q2
  rw [hk] at q1 q3
  have g := cw_good l l.length hn
  have hs := cr_sm 1 [2] [0, 0] 900 (cwP l) l.length g
  obtain ⟨p1, p2, p3, p4⟩ := cw_law l l.length k hn (by omega)
  have h2 := pure_ansO (k := false) (fair_is (cwS l l.length) hs k 1)
  have h3 := pure_ansO (k := false) (fair_is (cwS l l.length) hs k 0)
  have h4 := pure_ansO (k := false) (fair_is (cwS l l.length) hs l.length 1)
  have h5 := pure_vi (k := false) (ahead_is (cwS l l.length) hs k)
  rw [p1] at h2
  rw [p2] at h3
  rw [p3] at h4
  rw [p4] at h5
  have hlen : (cwS l l.length).tasks.length = l.length := crS_len ..
  have hcells : St.c (cwS l l.length) = [vi 1, .sl [vi 2] 1 0, .sl [vi 0, vi 0] 2 0, .sl (cwQ l l.length) l.length 0] := by
    show [vi 1, A.sl [vi 2] 1 0, A.sl [vi 0, vi 0] 2 0, A.sl (cwQ l l.length) (cwS l l.length).tasks.length 0] = _
    rw [hlen]
  rw [hcells] at h2 h3 h4 h5
  have w5 : IntKind.wrap .i64 ((l.length : Int) - 1) = (l.length : Int) - 1 := wrap_in _ (by omega) (by omega)
  have hlp := cw_loopP l a hl hn.2
  simp only [Option.getD_some, Option.isSome_some, Option.getD_none, Option.isSome_none, slB] at h2 h3 h4 hlp
  simp [C10, -Int.not_lt, -Int.not_le, Option.bind_assoc, eL_seq, eL_reg, eL_dreg, clr_nil, clr_cons, neOk_nil, neOk_cons, neK_ptr, eL_ret, eL_skip, eL_exit, eL_scope, eL_cond, eL_block, gJ_nil, gJ_n, gJ_g, ob_ite, ob_none, ob_some, om_some, om_none, om_ite, seqG_nor, seqG_ex, seqG_ret, blkK_nor, blkK_ex, blkK_ret, resK_nor, resK_ret, condK_vb, runG_some, runG_none, puts_nil, puts_cons, gdOf_some, guardX_t, guardX_f, guardX_u, guardX_ite, gd_ite, gd_ite', gd_ite2, gd_ite2', mrg_no, mrg_yes, mrg_ite, mrg_ite', ite_vb, ite_vi, ↓evI_call, ↓evI_calli, ↓evI_callv, ↓evI_mxn, fzL_nil, fzL_cons, nmL_nil, nmL_cons, mpL_nil, mpL_cons, anyB_nil, anyB_cons, callvK_fn, mxnK_cons, evI, eqz_self, evBin_eql, evBin_neq, initFrom, putO, put_at, O.ev, evBin_add, evBin_sub, evBin_mul, evBin_lss, evBin_leq, evBin_gtr, evBin_geq, evBin_quo, evBin_rem, evBin_shr, evBin_shl, evBin_and, evBin_or, evBin_xor, evBin_seql, evBin_sneq, evBin_sadd, evUn, A.cp, A.cp1, A.own, A.norm, A.norm1, cst, cst1, takeU, resultOf, resVal, A.isR, A.isC, A.isV, A.cells, Value.oneCell', frz, frzR, frzC, A.hasB, A.scal, A.isVal, optInt, okCell, fillA, capsOf, slB, h1, c1, c2]
  refine behindP (P := fun r' => Ans _ [] r') (hlp _ (by simp [put_at])) ?_
  rintro _ ⟨e1, rfl, k1, k2, k3, k4⟩
  clear hlp
  unfold cwB
  generalize sumN (cwL l) l.length = u at *
  simp [-Int.not_lt, -Int.not_le, Option.bind_assoc, eL_seq, eL_reg, eL_dreg, clr_nil, clr_cons, neOk_nil, neOk_cons, neK_ptr, eL_ret, eL_skip, eL_exit, eL_scope, eL_cond, eL_block, gJ_nil, gJ_n, gJ_g, ob_ite, ob_none, ob_some, om_some, om_none, om_ite, seqG_nor, seqG_ex, seqG_ret, blkK_nor, blkK_ex, blkK_ret, resK_nor, resK_ret, condK_vb, runG_some, runG_none, puts_nil, puts_cons, gdOf_some, guardX_t, guardX_f, guardX_u, guardX_ite, gd_ite, gd_ite', gd_ite2, gd_ite2', mrg_no, mrg_yes, mrg_ite, mrg_ite', ite_vb, ite_vi, ↓evI_call, ↓evI_calli, ↓evI_callv, ↓evI_mxn, fzL_nil, fzL_cons, nmL_nil, nmL_cons, mpL_nil, mpL_cons, anyB_nil, anyB_cons, callvK_fn, mxnK_cons, evI, eqz_self, evBin_eql, evBin_neq, initFrom, putO, put_at, O.ev, evBin_add, evBin_sub, evBin_mul, evBin_lss, evBin_leq, evBin_gtr, evBin_geq, evBin_quo, evBin_rem, evBin_shr, evBin_shl, evBin_and, evBin_or, evBin_xor, evBin_seql, evBin_sneq, evBin_sadd, evUn, A.cp, A.cp1, A.own, A.norm, A.norm1, cst, cst1, takeU, resultOf, resVal, A.isR, A.isC, A.isV, A.cells, Value.oneCell', frz, frzR, frzC, A.hasB, A.scal, A.isVal, optInt, okCell, fillA, capsOf, k1, k2, k3, k4, ka, qz, hne, q1, h2, h3, h4, h5, w5, eqz_self]
  exact ⟨_, rfl⟩
end Go.Proofs.YtiocdaeinahcoaaEv
