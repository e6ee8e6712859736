/- swingbridgelaw13.FairSums. -/
import Derived.Test.YtiocdaeinahcoaaFairR
import Derived.Test.YtiocdaeinahcoaaInp
set_option linter.unusedSimpArgs false
set_option linter.unusedVariables false
namespace Go.Proofs.YtiocdaeinahcoaaEv
open Go
set_option maxHeartbeats 4000000
theorem othP_lt (s : St) (a : Nat) : ∀ i, (othP s a i).length + (if a < i then 1 else 0) ≤ i
  | 0 => by simp [othP]
  | i + 1 => by
    have ih := othP_lt s a i
    rw [othP]
    by_cases h : i = a
    · subst h; rw [if_pos (.inl (eqz_self _))]
      simp only [Nat.lt_irrefl, if_false, Nat.lt_succ_self, if_true] at ih ⊢; omega
    · have e : (if a < i + 1 then 1 else 0) = if a < i then 1 else 0 := by congr 1; simp; omega
      rw [e]; split
      · omega
      · rw [List.length_append, List.length_singleton]; omega
theorem sums6 (s : St) (hs : Sm s) (a b : Nat) (hb : b < s.tasks.length) (p : Pt) (w n k : Int) (cnt : Nat) (hcnt : cnt = if eqz (b : Int) a = true then 0 else s.tasks[b].parts.length) :
    ∀ d i (e : Env), i + d = cnt → (e 1 = .ptr 0 0 ∧ e 3 = vi a ∧ e 4 = vi k ∧ e 5 = .ptr 1 0 ∧ e 6 = vi w ∧ e 7 = vi n ∧ e 8 = vi b ∧ e 9 = vi (maxL (kLen 3) (s.tasks[b].parts.take i)) ∧ e 10 = vi i) → ∃ zz, evL tab0 ext0 0 L8_6 (e, [St.c s, Pt.c p]) = some zz ∧ FQ (fun _ => false) ([St.c s, Pt.c p]) 6 (fun _ _ => True) (fun e => e 1 = .ptr 0 0 ∧ e 3 = vi a ∧ e 4 = vi k ∧ e 5 = .ptr 1 0 ∧ e 6 = vi w ∧ e 7 = vi n ∧ e 8 = vi b ∧ e 9 = vi (othF s a b)) i d zz := by
  have hp := hs.parts _ (List.getElem_mem hb)
  have hb' : (b : Int) < s.tasks.length := by omega
  have hd := drop_tk s.tasks b hb
  simp only [Tk.c, slP] at hd
  refine fq_loop (St := fun i e => e 1 = .ptr 0 0 ∧ e 3 = vi a ∧ e 4 = vi k ∧ e 5 = .ptr 1 0 ∧ e 6 = vi w ∧ e 7 = vi n ∧ e 8 = vi b ∧ e 9 = vi (maxL (kLen 3) (s.tasks[b].parts.take i)) ∧ e 10 = vi i) _ _ _ _ _ ?_ ?_
  · rintro e ⟨g0, g1, g2, g3, g4, g5, g6, g7, g8⟩
    have ho : othF s a b = maxL (kLen 3) (s.tasks[b].parts.take cnt) := by
      unfold othF
      rw [hcnt, longAt_is s b hb]
      split
      · rfl
      · rw [List.take_length]; rfl
    rw [ho]
    rcases (Bool.eq_false_or_eq_true (eqz (b : Int) a)).symm with hz | hz
    · rw [if_neg (by simp [hz])] at hcnt
      subst hcnt
      generalize maxL (kLen 3) (s.tasks[b].parts.take s.tasks[b].parts.length) = q at g7 ⊢
      exact ⟨_, (go8_6 _ _).trans (by simp [B8_6, -Int.not_lt, -Int.not_le, Option.bind_assoc, eL_seq, eL_reg, eL_dreg, clr_nil, clr_cons, neOk_nil, neOk_cons, neK_ptr, eL_ret, eL_skip, eL_exit, eL_scope, eL_cond, eL_block, gJ_nil, gJ_n, gJ_g, ob_ite, ob_none, ob_some, om_some, om_none, om_ite, seqG_nor, seqG_ex, seqG_ret, blkK_nor, blkK_ex, blkK_ret, resK_nor, resK_ret, condK_vb, runG_some, runG_none, puts_nil, puts_cons, gdOf_some, guardX_t, guardX_f, guardX_u, guardX_ite, gd_ite, gd_ite', gd_ite2, gd_ite2', mrg_no, mrg_yes, mrg_ite, mrg_ite', ite_vb, ite_vi, ↓evI_call, ↓evI_calli, ↓evI_callv, ↓evI_mxn, fzL_nil, fzL_cons, nmL_nil, nmL_cons, mpL_nil, mpL_cons, anyB_nil, anyB_cons, callvK_fn, mxnK_cons, evI, eqz_self, evBin_eql, evBin_neq, initFrom, putO, put_at, O.ev, evBin_add, evBin_sub, evBin_mul, evBin_lss, evBin_leq, evBin_gtr, evBin_geq, evBin_quo, evBin_rem, evBin_shr, evBin_shl, evBin_and, evBin_or, evBin_xor, evBin_seql, evBin_sneq, evBin_sadd, evUn, A.cp, A.cp1, A.own, A.norm, A.norm1, cst, cst1, takeU, resultOf, resVal, A.isR, A.isC, A.isV, A.cells, Value.oneCell', frz, frzR, frzC, A.hasB, A.scal, A.isVal, optInt, okCell, fillA, capsOf, loopIn, loopIn0, keepL, emp, A.dang, A.dangC, g0, g1, g2, g3, g4, g5, g6, g7, g8, slI, slT, slP, St.c, Tk.c, Pt.c, hd, hb, hb', hz]; rfl), by simp [put_at, g0, g1, g2, g3, g4, g5, g6, g7]⟩
    rw [if_pos hz] at hcnt
    subst hcnt
    generalize maxL (kLen 3) (s.tasks[b].parts.take 0) = q at g7 ⊢
    by_cases hl : 0 < s.tasks[b].parts.length
    · exact ⟨_, (go8_6 _ _).trans (by simp [B8_6, -Int.not_lt, -Int.not_le, Option.bind_assoc, eL_seq, eL_reg, eL_dreg, clr_nil, clr_cons, neOk_nil, neOk_cons, neK_ptr, eL_ret, eL_skip, eL_exit, eL_scope, eL_cond, eL_block, gJ_nil, gJ_n, gJ_g, ob_ite, ob_none, ob_some, om_some, om_none, om_ite, seqG_nor, seqG_ex, seqG_ret, blkK_nor, blkK_ex, blkK_ret, resK_nor, resK_ret, condK_vb, runG_some, runG_none, puts_nil, puts_cons, gdOf_some, guardX_t, guardX_f, guardX_u, guardX_ite, gd_ite, gd_ite', gd_ite2, gd_ite2', mrg_no, mrg_yes, mrg_ite, mrg_ite', ite_vb, ite_vi, ↓evI_call, ↓evI_calli, ↓evI_callv, ↓evI_mxn, fzL_nil, fzL_cons, nmL_nil, nmL_cons, mpL_nil, mpL_cons, anyB_nil, anyB_cons, callvK_fn, mxnK_cons, evI, eqz_self, evBin_eql, evBin_neq, initFrom, putO, put_at, O.ev, evBin_add, evBin_sub, evBin_mul, evBin_lss, evBin_leq, evBin_gtr, evBin_geq, evBin_quo, evBin_rem, evBin_shr, evBin_shl, evBin_and, evBin_or, evBin_xor, evBin_seql, evBin_sneq, evBin_sadd, evUn, A.cp, A.cp1, A.own, A.norm, A.norm1, cst, cst1, takeU, resultOf, resVal, A.isR, A.isC, A.isV, A.cells, Value.oneCell', frz, frzR, frzC, A.hasB, A.scal, A.isVal, optInt, okCell, fillA, capsOf, loopIn, loopIn0, keepL, emp, A.dang, A.dangC, g0, g1, g2, g3, g4, g5, g6, g7, g8, slI, slT, slP, St.c, Tk.c, Pt.c, hd, hb, hb', hz, hl]; rfl), by simp [put_at, g0, g1, g2, g3, g4, g5, g6, g7]⟩
    exact ⟨_, (go8_6 _ _).trans (by simp [B8_6, -Int.not_lt, -Int.not_le, Option.bind_assoc, eL_seq, eL_reg, eL_dreg, clr_nil, clr_cons, neOk_nil, neOk_cons, neK_ptr, eL_ret, eL_skip, eL_exit, eL_scope, eL_cond, eL_block, gJ_nil, gJ_n, gJ_g, ob_ite, ob_none, ob_some, om_some, om_none, om_ite, seqG_nor, seqG_ex, seqG_ret, blkK_nor, blkK_ex, blkK_ret, resK_nor, resK_ret, condK_vb, runG_some, runG_none, puts_nil, puts_cons, gdOf_some, guardX_t, guardX_f, guardX_u, guardX_ite, gd_ite, gd_ite', gd_ite2, gd_ite2', mrg_no, mrg_yes, mrg_ite, mrg_ite', ite_vb, ite_vi, ↓evI_call, ↓evI_calli, ↓evI_callv, ↓evI_mxn, fzL_nil, fzL_cons, nmL_nil, nmL_cons, mpL_nil, mpL_cons, anyB_nil, anyB_cons, callvK_fn, mxnK_cons, evI, eqz_self, evBin_eql, evBin_neq, initFrom, putO, put_at, O.ev, evBin_add, evBin_sub, evBin_mul, evBin_lss, evBin_leq, evBin_gtr, evBin_geq, evBin_quo, evBin_rem, evBin_shr, evBin_shl, evBin_and, evBin_or, evBin_xor, evBin_seql, evBin_sneq, evBin_sadd, evUn, A.cp, A.cp1, A.own, A.norm, A.norm1, cst, cst1, takeU, resultOf, resVal, A.isR, A.isC, A.isV, A.cells, Value.oneCell', frz, frzR, frzC, A.hasB, A.scal, A.isVal, optInt, okCell, fillA, capsOf, loopIn, loopIn0, keepL, emp, A.dang, A.dangC, g0, g1, g2, g3, g4, g5, g6, g7, g8, slI, slT, slP, St.c, Tk.c, Pt.c, hd, hb, hb', hz, hl]; rfl), by simp [put_at, g0, g1, g2, g3, g4, g5, g6, g7]⟩
  · rintro i e hi ⟨g0, g1, g2, g3, g4, g5, g6, g7, g8⟩
    rw [go8_6]
    have hi' : (i : Int) < (cnt : Nat) := by omega
    have hw : IntKind.wrap .i64 ((i : Int) + 1) = (i : Int) + 1 := wrap_in _ (by split at hcnt <;> omega) (by split at hcnt <;> omega)
    have hz : eqz (b : Int) a = false := by
      rcases (Bool.eq_false_or_eq_true (eqz (b : Int) a)).symm with hz | hz
      · exact hz
      · rw [if_pos hz] at hcnt; omega
    rw [if_neg (by simp [hz])] at hcnt
    subst hcnt
    rw [longest_take s.tasks[b].parts i hi]
    have hq := drop_pt s.tasks[b].parts i hi
    generalize maxL (kLen 3) (s.tasks[b].parts.take i) = q at g7 ⊢
    generalize s.tasks[b].parts[i] = r at hq ⊢
    simp +contextual (maxSteps := 400000) [B8_6, -Int.not_lt, -Int.not_le, Option.bind_assoc, eL_seq, eL_reg, eL_dreg, clr_nil, clr_cons, neOk_nil, neOk_cons, neK_ptr, eL_ret, eL_skip, eL_exit, eL_scope, eL_cond, eL_block, gJ_nil, gJ_n, gJ_g, ob_ite, ob_none, ob_some, om_some, om_none, om_ite, seqG_nor, seqG_ex, seqG_ret, blkK_nor, blkK_ex, blkK_ret, resK_nor, resK_ret, condK_vb, runG_some, runG_none, puts_nil, puts_cons, gdOf_some, guardX_t, guardX_f, guardX_u, guardX_ite, gd_ite, gd_ite', gd_ite2, gd_ite2', mrg_no, mrg_yes, mrg_ite, mrg_ite', ite_vb, ite_vi, ↓evI_call, ↓evI_calli, ↓evI_callv, ↓evI_mxn, fzL_nil, fzL_cons, nmL_nil, nmL_cons, mpL_nil, mpL_cons, anyB_nil, anyB_cons, callvK_fn, mxnK_cons, evI, eqz_self, evBin_eql, evBin_neq, initFrom, putO, put_at, O.ev, evBin_add, evBin_sub, evBin_mul, evBin_lss, evBin_leq, evBin_gtr, evBin_geq, evBin_quo, evBin_rem, evBin_shr, evBin_shl, evBin_and, evBin_or, evBin_xor, evBin_seql, evBin_sneq, evBin_sadd, evUn, A.cp, A.cp1, A.own, A.norm, A.norm1, cst, cst1, takeU, resultOf, resVal, A.isR, A.isC, A.isV, A.cells, Value.oneCell', frz, frzR, frzC, A.hasB, A.scal, A.isVal, optInt, okCell, fillA, capsOf, loopIn, loopIn0, keepL, emp, A.dang, A.dangC, g0, g1, g2, g3, g4, g5, g6, g7, g8, hi, hi', slI, slT, slP, St.c, Tk.c, Pt.c, hd, hb, hb', hz, hq, hw, foldM]
    (repeat' refine Step.split (fun cc => ?_) (fun cc => ?_)) <;> first | (refine Step.ret0 ?_ ?_ <;> first | (simp_all [put_at, eqz]; done) | (simp [put_at, *]; done) | ((try simp [eqz] at *); omega)) | (refine Step.go ?_ ?_ <;> first | (simp_all [put_at, eqz]; done) | (simp [put_at, *]; done) | ((try simp [eqz] at *); omega)) | (refine Step.ret _ ?_ ?_ <;> first | (simp_all [put_at, eqz]; done) | (simp [put_at, *]; done) | ((try simp [eqz] at *); omega)) | (refine Step.goJ _ (by simp) ?_ ?_ <;> first | (simp_all [put_at, eqz]; done) | (simp [put_at, *]; done) | ((try simp [eqz] at *); omega))
theorem sums4 (s : St) (hs : Sm s) (g : Good s) (a : Nat) (ha : a < s.tasks.length) (p : Pt) (hpl : 1 ≤ p.len ∧ p.len ≤ 60) (k : Int) :
    ∀ d i (e : Env), i + d = s.tasks.length → (e 1 = .ptr 0 0 ∧ e 3 = vi a ∧ e 4 = vi k ∧ e 5 = .ptr 1 0 ∧ e 6 = vi (p.len + sumN (othF s a) i) ∧ e 7 = vi (othP s a i).length ∧ e 8 = vi i) → ∃ zz, evL tab0 ext0 0 L8_4 (e, [St.c s, Pt.c p]) = some zz ∧ FQ (fun _ => false) ([St.c s, Pt.c p]) 4 (fun _ _ => True) (fun e => e 1 = .ptr 0 0 ∧ e 3 = vi a ∧ e 4 = vi k ∧ e 5 = .ptr 1 0 ∧ e 6 = vi (p.len + othSum s a) ∧ e 7 = vi (othP s a s.tasks.length).length) i d zz := by
  have hc := hs.tasks
  refine fq_loop (St := fun i e => e 1 = .ptr 0 0 ∧ e 3 = vi a ∧ e 4 = vi k ∧ e 5 = .ptr 1 0 ∧ e 6 = vi (p.len + sumN (othF s a) i) ∧ e 7 = vi (othP s a i).length ∧ e 8 = vi i) _ _ _ _ _ ?_ ?_
  · rintro e ⟨g0, g1, g2, g3, g4, g5, g6⟩
    exact ⟨_, (go8_4 _ _).trans (by simp [B8_4, -Int.not_lt, -Int.not_le, Option.bind_assoc, eL_seq, eL_reg, eL_dreg, clr_nil, clr_cons, neOk_nil, neOk_cons, neK_ptr, eL_ret, eL_skip, eL_exit, eL_scope, eL_cond, eL_block, gJ_nil, gJ_n, gJ_g, ob_ite, ob_none, ob_some, om_some, om_none, om_ite, seqG_nor, seqG_ex, seqG_ret, blkK_nor, blkK_ex, blkK_ret, resK_nor, resK_ret, condK_vb, runG_some, runG_none, puts_nil, puts_cons, gdOf_some, guardX_t, guardX_f, guardX_u, guardX_ite, gd_ite, gd_ite', gd_ite2, gd_ite2', mrg_no, mrg_yes, mrg_ite, mrg_ite', ite_vb, ite_vi, ↓evI_call, ↓evI_calli, ↓evI_callv, ↓evI_mxn, fzL_nil, fzL_cons, nmL_nil, nmL_cons, mpL_nil, mpL_cons, anyB_nil, anyB_cons, callvK_fn, mxnK_cons, evI, eqz_self, evBin_eql, evBin_neq, initFrom, putO, put_at, O.ev, evBin_add, evBin_sub, evBin_mul, evBin_lss, evBin_leq, evBin_gtr, evBin_geq, evBin_quo, evBin_rem, evBin_shr, evBin_shl, evBin_and, evBin_or, evBin_xor, evBin_seql, evBin_sneq, evBin_sadd, evUn, A.cp, A.cp1, A.own, A.norm, A.norm1, cst, cst1, takeU, resultOf, resVal, A.isR, A.isC, A.isV, A.cells, Value.oneCell', frz, frzR, frzC, A.hasB, A.scal, A.isVal, optInt, okCell, fillA, capsOf, loopIn, loopIn0, keepL, emp, A.dang, A.dangC, g0, g1, g2, g3, g4, g5, g6, slI, slT, slP, St.c, Tk.c, Pt.c]; rfl), by simp [put_at, g0, g1, g2, g3, g4, g5, othSum]⟩
  · rintro i e hi ⟨g0, g1, g2, g3, g4, g5, g6⟩
    rw [go8_4]
    have hi' : (i : Int) < (s.tasks.length : Nat) := by omega
    have hw : IntKind.wrap .i64 ((i : Int) + 1) = (i : Int) + 1 := wrap_in _ (by omega) (by omega)
    have hF : ∀ i, 0 ≤ othF s a i ∧ othF s a i ≤ 60 := fun i => by have := longAt_bounds g i; unfold othF; split <;> omega
    have b1 := sumN_ge (f := othF s a) i fun i _ => (hF i).1
    have b2 := sumN_le (f := othF s a) (b := 60) i fun i _ => (hF i).2
    have b3 := hF i
    have b4 := othP_len s a i
    have hw2 : IntKind.wrap .i64 (p.len + sumN (othF s a) i + othF s a i) = p.len + sumN (othF s a) i + othF s a i := wrap_in _ (by omega) (by omega)
    have hw3 : IntKind.wrap .i64 (((othP s a i).length : Int) + 1) = ((othP s a i).length : Int) + 1 := wrap_in _ (by omega) (by omega)
    have e1 : p.len + sumN (othF s a) (i + 1) = p.len + sumN (othF s a) i + othF s a i := by rw [sumN]; omega
    have e2 : ((othP s a (i + 1)).length : Int) = if 0 < othF s a i then ((othP s a i).length : Int) + 1 else (othP s a i).length := by
      have := longAt_bounds g i
      rw [othP]
      unfold othF
      by_cases h1 : eqz (i : Int) a = true
      · rw [if_pos (.inl h1), if_pos h1]; simp
      · rw [if_neg h1]
        by_cases h2 : eqz (longAt s i) 0 = true
        · rw [if_pos (.inr h2), if_neg (by simp [eqz] at h2; omega)]
        · rw [if_neg (by rintro (h | h); exact h1 h; exact h2 h), if_pos (by simp [eqz] at h2; omega)]; simp
    have hlp := sums6 s hs a i hi p (p.len + sumN (othF s a) i) (othP s a i).length k _ rfl (if eqz (i : Int) a = true then 0 else s.tasks[i].parts.length) 0
    rw [e1, e2]
    generalize p.len + sumN (othF s a) i = u at *
    generalize (othP s a i).length = v at *
    generalize othF s a i = x at *
    generalize (if eqz (i : Int) a = true then 0 else s.tasks[i].parts.length) = y at hlp
    simp only [St.c, slI, slT, Pt.c] at hlp
    simp +contextual (maxSteps := 400000) [B8_4, -Int.not_lt, -Int.not_le, Option.bind_assoc, eL_seq, eL_reg, eL_dreg, clr_nil, clr_cons, neOk_nil, neOk_cons, neK_ptr, eL_ret, eL_skip, eL_exit, eL_scope, eL_cond, eL_block, gJ_nil, gJ_n, gJ_g, ob_ite, ob_none, ob_some, om_some, om_none, om_ite, seqG_nor, seqG_ex, seqG_ret, blkK_nor, blkK_ex, blkK_ret, resK_nor, resK_ret, condK_vb, runG_some, runG_none, puts_nil, puts_cons, gdOf_some, guardX_t, guardX_f, guardX_u, guardX_ite, gd_ite, gd_ite', gd_ite2, gd_ite2', mrg_no, mrg_yes, mrg_ite, mrg_ite', ite_vb, ite_vi, ↓evI_call, ↓evI_calli, ↓evI_callv, ↓evI_mxn, fzL_nil, fzL_cons, nmL_nil, nmL_cons, mpL_nil, mpL_cons, anyB_nil, anyB_cons, callvK_fn, mxnK_cons, evI, eqz_self, evBin_eql, evBin_neq, initFrom, putO, put_at, O.ev, evBin_add, evBin_sub, evBin_mul, evBin_lss, evBin_leq, evBin_gtr, evBin_geq, evBin_quo, evBin_rem, evBin_shr, evBin_shl, evBin_and, evBin_or, evBin_xor, evBin_seql, evBin_sneq, evBin_sadd, evUn, A.cp, A.cp1, A.own, A.norm, A.norm1, cst, cst1, takeU, resultOf, resVal, A.isR, A.isC, A.isV, A.cells, Value.oneCell', frz, frzR, frzC, A.hasB, A.scal, A.isVal, optInt, okCell, fillA, capsOf, loopIn, loopIn0, keepL, emp, A.dang, A.dangC, g0, g1, g2, g3, g4, g5, g6, hi, hi', slI, slT, slP, St.c, Tk.c, Pt.c, hw]
    refine behindP (P := fun r' => Step _ _ _ _ _ r') (hlp _ (by omega) (by simp [put_at, maxL])) ?_
    intro z h
    obtain ⟨e', rfl, hx⟩ := h.never; clear h; have h := hx
    obtain ⟨k1, k2, k3, k4, k5, k6, k7, k8⟩ := h
    simp [-Int.not_lt, -Int.not_le, Option.bind_assoc, eL_seq, eL_reg, eL_dreg, clr_nil, clr_cons, neOk_nil, neOk_cons, neK_ptr, eL_ret, eL_skip, eL_exit, eL_scope, eL_cond, eL_block, gJ_nil, gJ_n, gJ_g, ob_ite, ob_none, ob_some, om_some, om_none, om_ite, seqG_nor, seqG_ex, seqG_ret, blkK_nor, blkK_ex, blkK_ret, resK_nor, resK_ret, condK_vb, runG_some, runG_none, puts_nil, puts_cons, gdOf_some, guardX_t, guardX_f, guardX_u, guardX_ite, gd_ite, gd_ite', gd_ite2, gd_ite2', mrg_no, mrg_yes, mrg_ite, mrg_ite', ite_vb, ite_vi, ↓evI_call, ↓evI_calli, ↓evI_callv, ↓evI_mxn, fzL_nil, fzL_cons, nmL_nil, nmL_cons, mpL_nil, mpL_cons, anyB_nil, anyB_cons, callvK_fn, mxnK_cons, evI, eqz_self, evBin_eql, evBin_neq, initFrom, putO, put_at, O.ev, evBin_add, evBin_sub, evBin_mul, evBin_lss, evBin_leq, evBin_gtr, evBin_geq, evBin_quo, evBin_rem, evBin_shr, evBin_shl, evBin_and, evBin_or, evBin_xor, evBin_seql, evBin_sneq, evBin_sadd, evUn, A.cp, A.cp1, A.own, A.norm, A.norm1, cst, cst1, takeU, resultOf, resVal, A.isR, A.isC, A.isV, A.cells, Value.oneCell', frz, frzR, frzC, A.hasB, A.scal, A.isVal, optInt, okCell, fillA, capsOf, k1, k2, k3, k4, k5, k6, k7, k8, hw, hw2, hw3]
    refine Step.split (fun cc => ?_) (fun cc => ?_) <;> refine Step.go rfl ?_ <;> simp [put_at, cc, k1, k2, k3, k4, k5, k6, k7, k8]
theorem sums2 (s : St) (hs : Sm s) (g : Good s) (a : Nat) (ha : a < s.tasks.length) :
    ∀ d i (e : Env), i + d = s.tasks[a].parts.length → (e 1 = .ptr 0 0 ∧ e 3 = vi a ∧ e 4 = vi i) → ∃ zz, evL tab0 ext0 0 L8_2 (e, [St.c s]) = some zz ∧ FQ (fun _ => false) ([St.c s]) 2 (fun _ _ => True) (fun e => e 1 = .ptr 0 0 ∧ e 3 = vi a) i d zz := by
  have hp := hs.parts _ (List.getElem_mem ha)
  have hc := hs.tasks
  have ha' : (a : Int) < s.tasks.length := by omega
  have hd := drop_tk s.tasks a ha
  simp only [Tk.c, slP] at hd
  refine fq_loop (St := fun i e => e 1 = .ptr 0 0 ∧ e 3 = vi a ∧ e 4 = vi i) _ _ _ _ _ ?_ ?_
  · rintro e ⟨g0, g1, g2⟩
    exact ⟨_, (go8_2 _ _).trans (by simp [B8_2, -Int.not_lt, -Int.not_le, Option.bind_assoc, eL_seq, eL_reg, eL_dreg, clr_nil, clr_cons, neOk_nil, neOk_cons, neK_ptr, eL_ret, eL_skip, eL_exit, eL_scope, eL_cond, eL_block, gJ_nil, gJ_n, gJ_g, ob_ite, ob_none, ob_some, om_some, om_none, om_ite, seqG_nor, seqG_ex, seqG_ret, blkK_nor, blkK_ex, blkK_ret, resK_nor, resK_ret, condK_vb, runG_some, runG_none, puts_nil, puts_cons, gdOf_some, guardX_t, guardX_f, guardX_u, guardX_ite, gd_ite, gd_ite', gd_ite2, gd_ite2', mrg_no, mrg_yes, mrg_ite, mrg_ite', ite_vb, ite_vi, ↓evI_call, ↓evI_calli, ↓evI_callv, ↓evI_mxn, fzL_nil, fzL_cons, nmL_nil, nmL_cons, mpL_nil, mpL_cons, anyB_nil, anyB_cons, callvK_fn, mxnK_cons, evI, eqz_self, evBin_eql, evBin_neq, initFrom, putO, put_at, O.ev, evBin_add, evBin_sub, evBin_mul, evBin_lss, evBin_leq, evBin_gtr, evBin_geq, evBin_quo, evBin_rem, evBin_shr, evBin_shl, evBin_and, evBin_or, evBin_xor, evBin_seql, evBin_sneq, evBin_sadd, evUn, A.cp, A.cp1, A.own, A.norm, A.norm1, cst, cst1, takeU, resultOf, resVal, A.isR, A.isC, A.isV, A.cells, Value.oneCell', frz, frzR, frzC, A.hasB, A.scal, A.isVal, optInt, okCell, fillA, capsOf, loopIn, loopIn0, keepL, emp, A.dang, A.dangC, g0, g1, g2, slI, slT, slP, St.c, Tk.c, Pt.c, hd, ha, ha']; rfl), by simp [put_at, g0, g1]⟩
  · rintro i e hi ⟨g0, g1, g2⟩
    rw [go8_2]
    have hi' : (i : Int) < (s.tasks[a].parts.length : Nat) := by omega
    have hw : IntKind.wrap .i64 ((i : Int) + 1) = (i : Int) + 1 := wrap_in _ (by omega) (by omega)
    have hpl := (g.pts (List.getElem_mem ha)).2 _ (List.getElem_mem hi)
    have hq := drop_pt s.tasks[a].parts i hi
    have ht : thereS s a = true := (thereS_iff s a).2 ⟨g, by omega, ha'⟩
    have hlk : lockS s a i = if eqz s.tasks[a].parts[i].kind 3 = true then some s.tasks[a].parts[i] else none := by
      rw [rawS_lock]; unfold rawS; rw [if_pos ⟨ht, by omega⟩]; simp [ha, hi, Option.filter_some]
    have h1 := pure_ansO (k := false) (fair_is s hs a i)
    have h2 := pure_vi (k := false) (ahead_is s hs a)
    have e2 : aheadS s a = (othP s a s.tasks.length).length := by unfold aheadS; rw [if_pos ht]
    unfold fairS at h1
    rw [hlk] at h1
    rw [e2] at h2
    have hlt := othP_lt s a s.tasks.length
    rw [if_pos ha] at hlt
    have hlp := sums4 s hs g a ha s.tasks[a].parts[i] hpl i s.tasks.length 0
    have hw2 : IntKind.wrap .i64 ((s.tasks.length : Int) - 1) = (s.tasks.length : Int) - 1 := wrap_in _ (by omega) (by omega)
    have hcmp : ¬ (s.tasks.length : Int) - 1 < (othP s a s.tasks.length).length := by omega
    generalize s.tasks[a].parts[i] = p at *
    generalize (othP s a s.tasks.length).length = v at *
    generalize othSum s a = u at *
    simp only [St.c, slI, slT, Pt.c] at h1 h2 hlp
    simp +contextual (maxSteps := 400000) [B8_2, -Int.not_lt, -Int.not_le, Option.bind_assoc, eL_seq, eL_reg, eL_dreg, clr_nil, clr_cons, neOk_nil, neOk_cons, neK_ptr, eL_ret, eL_skip, eL_exit, eL_scope, eL_cond, eL_block, gJ_nil, gJ_n, gJ_g, ob_ite, ob_none, ob_some, om_some, om_none, om_ite, seqG_nor, seqG_ex, seqG_ret, blkK_nor, blkK_ex, blkK_ret, resK_nor, resK_ret, condK_vb, runG_some, runG_none, puts_nil, puts_cons, gdOf_some, guardX_t, guardX_f, guardX_u, guardX_ite, gd_ite, gd_ite', gd_ite2, gd_ite2', mrg_no, mrg_yes, mrg_ite, mrg_ite', ite_vb, ite_vi, ↓evI_call, ↓evI_calli, ↓evI_callv, ↓evI_mxn, fzL_nil, fzL_cons, nmL_nil, nmL_cons, mpL_nil, mpL_cons, anyB_nil, anyB_cons, callvK_fn, mxnK_cons, evI, eqz_self, evBin_eql, evBin_neq, initFrom, putO, put_at, O.ev, evBin_add, evBin_sub, evBin_mul, evBin_lss, evBin_leq, evBin_gtr, evBin_geq, evBin_quo, evBin_rem, evBin_shr, evBin_shl, evBin_and, evBin_or, evBin_xor, evBin_seql, evBin_sneq, evBin_sadd, evUn, A.cp, A.cp1, A.own, A.norm, A.norm1, cst, cst1, takeU, resultOf, resVal, A.isR, A.isC, A.isV, A.cells, Value.oneCell', frz, frzR, frzC, A.hasB, A.scal, A.isVal, optInt, okCell, fillA, capsOf, loopIn, loopIn0, keepL, emp, A.dang, A.dangC, g0, g1, g2, hi, hi', slI, slT, slP, St.c, Tk.c, Pt.c, hd, ha, ha', hq, hw]
    refine behindP (P := fun r' => Step _ _ _ _ _ r') (hlp _ (by omega) (by simp [put_at, sumN, othP])) ?_
    intro z h
    obtain ⟨e', rfl, hx⟩ := h.never; clear h; have h := hx
    obtain ⟨k1, k2, k3, k4, k5, k6⟩ := h
    rcases (Bool.eq_false_or_eq_true (eqz p.kind 3)).symm with hk | hk
    · rw [hk] at h1
      simp at h1
      simp [-Int.not_lt, -Int.not_le, Option.bind_assoc, eL_seq, eL_reg, eL_dreg, clr_nil, clr_cons, neOk_nil, neOk_cons, neK_ptr, eL_ret, eL_skip, eL_exit, eL_scope, eL_cond, eL_block, gJ_nil, gJ_n, gJ_g, ob_ite, ob_none, ob_some, om_some, om_none, om_ite, seqG_nor, seqG_ex, seqG_ret, blkK_nor, blkK_ex, blkK_ret, resK_nor, resK_ret, condK_vb, runG_some, runG_none, puts_nil, puts_cons, gdOf_some, guardX_t, guardX_f, guardX_u, guardX_ite, gd_ite, gd_ite', gd_ite2, gd_ite2', mrg_no, mrg_yes, mrg_ite, mrg_ite', ite_vb, ite_vi, ↓evI_call, ↓evI_calli, ↓evI_callv, ↓evI_mxn, fzL_nil, fzL_cons, nmL_nil, nmL_cons, mpL_nil, mpL_cons, anyB_nil, anyB_cons, callvK_fn, mxnK_cons, evI, eqz_self, evBin_eql, evBin_neq, initFrom, putO, put_at, O.ev, evBin_add, evBin_sub, evBin_mul, evBin_lss, evBin_leq, evBin_gtr, evBin_geq, evBin_quo, evBin_rem, evBin_shr, evBin_shl, evBin_and, evBin_or, evBin_xor, evBin_seql, evBin_sneq, evBin_sadd, evUn, A.cp, A.cp1, A.own, A.norm, A.norm1, cst, cst1, takeU, resultOf, resVal, A.isR, A.isC, A.isV, A.cells, Value.oneCell', frz, frzR, frzC, A.hasB, A.scal, A.isVal, optInt, okCell, fillA, capsOf, k1, k2, k3, k4, k5, k6, hk, h1, h2, hw, hw2, hcmp, eqz_self]
      exact Step.goJ _ (by simp) rfl (by simp [put_at, k1, k2, k3, k4, k5, k6])
    · rw [hk] at h1
      simp at h1
      simp [-Int.not_lt, -Int.not_le, Option.bind_assoc, eL_seq, eL_reg, eL_dreg, clr_nil, clr_cons, neOk_nil, neOk_cons, neK_ptr, eL_ret, eL_skip, eL_exit, eL_scope, eL_cond, eL_block, gJ_nil, gJ_n, gJ_g, ob_ite, ob_none, ob_some, om_some, om_none, om_ite, seqG_nor, seqG_ex, seqG_ret, blkK_nor, blkK_ex, blkK_ret, resK_nor, resK_ret, condK_vb, runG_some, runG_none, puts_nil, puts_cons, gdOf_some, guardX_t, guardX_f, guardX_u, guardX_ite, gd_ite, gd_ite', gd_ite2, gd_ite2', mrg_no, mrg_yes, mrg_ite, mrg_ite', ite_vb, ite_vi, ↓evI_call, ↓evI_calli, ↓evI_callv, ↓evI_mxn, fzL_nil, fzL_cons, nmL_nil, nmL_cons, mpL_nil, mpL_cons, anyB_nil, anyB_cons, callvK_fn, mxnK_cons, evI, eqz_self, evBin_eql, evBin_neq, initFrom, putO, put_at, O.ev, evBin_add, evBin_sub, evBin_mul, evBin_lss, evBin_leq, evBin_gtr, evBin_geq, evBin_quo, evBin_rem, evBin_shr, evBin_shl, evBin_and, evBin_or, evBin_xor, evBin_seql, evBin_sneq, evBin_sadd, evUn, A.cp, A.cp1, A.own, A.norm, A.norm1, cst, cst1, takeU, resultOf, resVal, A.isR, A.isC, A.isV, A.cells, Value.oneCell', frz, frzR, frzC, A.hasB, A.scal, A.isVal, optInt, okCell, fillA, capsOf, k1, k2, k3, k4, k5, k6, hk, h1, h2, hw, hw2, hcmp, eqz_self]
      exact Step.goJ _ (by simp) rfl (by simp [put_at, k1, k2, k3, k4, k5, k6])
theorem sums0 (s : St) (hs : Sm s) (g : Good s) :
    ∀ d i (e : Env), i + d = s.tasks.length → (e 1 = .ptr 0 0 ∧ e 3 = vi i) → ∃ zz, evL tab0 ext0 0 L8_0 (e, [St.c s]) = some zz ∧ FQ (fun _ => false) ([St.c s]) 0 (fun _ _ => True) (fun _ => True) i d zz := by
  have hp := hs.tasks
  refine fq_loop (St := fun i e => e 1 = .ptr 0 0 ∧ e 3 = vi i) _ _ _ _ _ ?_ ?_
  · rintro e ⟨g0, g1⟩
    exact ⟨_, (go8_0 _ _).trans (by simp [B8_0, -Int.not_lt, -Int.not_le, Option.bind_assoc, eL_seq, eL_reg, eL_dreg, clr_nil, clr_cons, neOk_nil, neOk_cons, neK_ptr, eL_ret, eL_skip, eL_exit, eL_scope, eL_cond, eL_block, gJ_nil, gJ_n, gJ_g, ob_ite, ob_none, ob_some, om_some, om_none, om_ite, seqG_nor, seqG_ex, seqG_ret, blkK_nor, blkK_ex, blkK_ret, resK_nor, resK_ret, condK_vb, runG_some, runG_none, puts_nil, puts_cons, gdOf_some, guardX_t, guardX_f, guardX_u, guardX_ite, gd_ite, gd_ite', gd_ite2, gd_ite2', mrg_no, mrg_yes, mrg_ite, mrg_ite', ite_vb, ite_vi, ↓evI_call, ↓evI_calli, ↓evI_callv, ↓evI_mxn, fzL_nil, fzL_cons, nmL_nil, nmL_cons, mpL_nil, mpL_cons, anyB_nil, anyB_cons, callvK_fn, mxnK_cons, evI, eqz_self, evBin_eql, evBin_neq, initFrom, putO, put_at, O.ev, evBin_add, evBin_sub, evBin_mul, evBin_lss, evBin_leq, evBin_gtr, evBin_geq, evBin_quo, evBin_rem, evBin_shr, evBin_shl, evBin_and, evBin_or, evBin_xor, evBin_seql, evBin_sneq, evBin_sadd, evUn, A.cp, A.cp1, A.own, A.norm, A.norm1, cst, cst1, takeU, resultOf, resVal, A.isR, A.isC, A.isV, A.cells, Value.oneCell', frz, frzR, frzC, A.hasB, A.scal, A.isVal, optInt, okCell, fillA, capsOf, loopIn, loopIn0, keepL, emp, A.dang, A.dangC, g0, g1, slI, slT, slP, St.c]; rfl), by trivial⟩
  · rintro i e hi ⟨g0, g1⟩
    rw [go8_0]
    have hi' : (i : Int) < (s.tasks.length : Nat) := by omega
    have hw : IntKind.wrap .i64 ((i : Int) + 1) = (i : Int) + 1 := wrap_in _ (by omega) (by omega)
    have hlp := sums2 s hs g i hi s.tasks[i].parts.length 0
    simp only [St.c, slI, slT] at hlp
    simp +contextual (maxSteps := 400000) [B8_0, -Int.not_lt, -Int.not_le, Option.bind_assoc, eL_seq, eL_reg, eL_dreg, clr_nil, clr_cons, neOk_nil, neOk_cons, neK_ptr, eL_ret, eL_skip, eL_exit, eL_scope, eL_cond, eL_block, gJ_nil, gJ_n, gJ_g, ob_ite, ob_none, ob_some, om_some, om_none, om_ite, seqG_nor, seqG_ex, seqG_ret, blkK_nor, blkK_ex, blkK_ret, resK_nor, resK_ret, condK_vb, runG_some, runG_none, puts_nil, puts_cons, gdOf_some, guardX_t, guardX_f, guardX_u, guardX_ite, gd_ite, gd_ite', gd_ite2, gd_ite2', mrg_no, mrg_yes, mrg_ite, mrg_ite', ite_vb, ite_vi, ↓evI_call, ↓evI_calli, ↓evI_callv, ↓evI_mxn, fzL_nil, fzL_cons, nmL_nil, nmL_cons, mpL_nil, mpL_cons, anyB_nil, anyB_cons, callvK_fn, mxnK_cons, evI, eqz_self, evBin_eql, evBin_neq, initFrom, putO, put_at, O.ev, evBin_add, evBin_sub, evBin_mul, evBin_lss, evBin_leq, evBin_gtr, evBin_geq, evBin_quo, evBin_rem, evBin_shr, evBin_shl, evBin_and, evBin_or, evBin_xor, evBin_seql, evBin_sneq, evBin_sadd, evUn, A.cp, A.cp1, A.own, A.norm, A.norm1, cst, cst1, takeU, resultOf, resVal, A.isR, A.isC, A.isV, A.cells, Value.oneCell', frz, frzR, frzC, A.hasB, A.scal, A.isVal, optInt, okCell, fillA, capsOf, loopIn, loopIn0, keepL, emp, A.dang, A.dangC, g0, g1, hi, hi', slI, slT, slP, St.c, hw]
    refine behindP (P := fun r' => Step _ _ _ _ _ r') (hlp _ (by omega) (by simp [put_at])) ?_
    intro z h
    obtain ⟨e', rfl, hx⟩ := h.never; clear h; have h := hx
    obtain ⟨k1, k2⟩ := h
    simp [-Int.not_lt, -Int.not_le, Option.bind_assoc, eL_seq, eL_reg, eL_dreg, clr_nil, clr_cons, neOk_nil, neOk_cons, neK_ptr, eL_ret, eL_skip, eL_exit, eL_scope, eL_cond, eL_block, gJ_nil, gJ_n, gJ_g, ob_ite, ob_none, ob_some, om_some, om_none, om_ite, seqG_nor, seqG_ex, seqG_ret, blkK_nor, blkK_ex, blkK_ret, resK_nor, resK_ret, condK_vb, runG_some, runG_none, puts_nil, puts_cons, gdOf_some, guardX_t, guardX_f, guardX_u, guardX_ite, gd_ite, gd_ite', gd_ite2, gd_ite2', mrg_no, mrg_yes, mrg_ite, mrg_ite', ite_vb, ite_vi, ↓evI_call, ↓evI_calli, ↓evI_callv, ↓evI_mxn, fzL_nil, fzL_cons, nmL_nil, nmL_cons, mpL_nil, mpL_cons, anyB_nil, anyB_cons, callvK_fn, mxnK_cons, evI, eqz_self, evBin_eql, evBin_neq, initFrom, putO, put_at, O.ev, evBin_add, evBin_sub, evBin_mul, evBin_lss, evBin_leq, evBin_gtr, evBin_geq, evBin_quo, evBin_rem, evBin_shr, evBin_shl, evBin_and, evBin_or, evBin_xor, evBin_seql, evBin_sneq, evBin_sadd, evUn, A.cp, A.cp1, A.own, A.norm, A.norm1, cst, cst1, takeU, resultOf, resVal, A.isR, A.isC, A.isV, A.cells, Value.oneCell', frz, frzR, frzC, A.hasB, A.scal, A.isVal, optInt, okCell, fillA, capsOf, k1, k2, hw]
    exact Step.go rfl (by simp [put_at, k1, k2])
theorem fairSums_is (s : St) (_ : s.ok) : Ans (vb true) [] (callL tab0 ext0 8 [.agg (St.c s)] []) := by
  rw [callL_tab _ _ rfl tab8 rfl]
  have h1 := pure_vb (k := false) known_24
  have h2 := pure_vb (k := false) (few_is_25 s)
  rcases (Bool.eq_false_or_eq_true (few8 s)).symm with hs | hs
  · rw [hs] at h2
    simp only [St.c, slI, slT] at h2
    simp [C8, -Int.not_lt, -Int.not_le, Option.bind_assoc, eL_seq, eL_reg, eL_dreg, clr_nil, clr_cons, neOk_nil, neOk_cons, neK_ptr, eL_ret, eL_skip, eL_exit, eL_scope, eL_cond, eL_block, gJ_nil, gJ_n, gJ_g, ob_ite, ob_none, ob_some, om_some, om_none, om_ite, seqG_nor, seqG_ex, seqG_ret, blkK_nor, blkK_ex, blkK_ret, resK_nor, resK_ret, condK_vb, runG_some, runG_none, puts_nil, puts_cons, gdOf_some, guardX_t, guardX_f, guardX_u, guardX_ite, gd_ite, gd_ite', gd_ite2, gd_ite2', mrg_no, mrg_yes, mrg_ite, mrg_ite', ite_vb, ite_vi, ↓evI_call, ↓evI_calli, ↓evI_callv, ↓evI_mxn, fzL_nil, fzL_cons, nmL_nil, nmL_cons, mpL_nil, mpL_cons, anyB_nil, anyB_cons, callvK_fn, mxnK_cons, evI, eqz_self, evBin_eql, evBin_neq, initFrom, putO, put_at, O.ev, evBin_add, evBin_sub, evBin_mul, evBin_lss, evBin_leq, evBin_gtr, evBin_geq, evBin_quo, evBin_rem, evBin_shr, evBin_shl, evBin_and, evBin_or, evBin_xor, evBin_seql, evBin_sneq, evBin_sadd, evUn, A.cp, A.cp1, A.own, A.norm, A.norm1, cst, cst1, takeU, resultOf, resVal, A.isR, A.isC, A.isV, A.cells, Value.oneCell', frz, frzR, frzC, A.hasB, A.scal, A.isVal, optInt, okCell, fillA, capsOf, St.c, slI, slT, h1, h2]
    exact ⟨_, rfl⟩
  rw [hs] at h2
  have hs := few8_sm s hs
  have h3 := pure_vb (k := false) (thereR_is s 0 hs.fits)
  rcases (Bool.eq_false_or_eq_true (thereS s 0)).symm with ht | ht
  · rw [ht] at h3
    simp only [St.c, slI, slT] at h2 h3
    simp [C8, -Int.not_lt, -Int.not_le, Option.bind_assoc, eL_seq, eL_reg, eL_dreg, clr_nil, clr_cons, neOk_nil, neOk_cons, neK_ptr, eL_ret, eL_skip, eL_exit, eL_scope, eL_cond, eL_block, gJ_nil, gJ_n, gJ_g, ob_ite, ob_none, ob_some, om_some, om_none, om_ite, seqG_nor, seqG_ex, seqG_ret, blkK_nor, blkK_ex, blkK_ret, resK_nor, resK_ret, condK_vb, runG_some, runG_none, puts_nil, puts_cons, gdOf_some, guardX_t, guardX_f, guardX_u, guardX_ite, gd_ite, gd_ite', gd_ite2, gd_ite2', mrg_no, mrg_yes, mrg_ite, mrg_ite', ite_vb, ite_vi, ↓evI_call, ↓evI_calli, ↓evI_callv, ↓evI_mxn, fzL_nil, fzL_cons, nmL_nil, nmL_cons, mpL_nil, mpL_cons, anyB_nil, anyB_cons, callvK_fn, mxnK_cons, evI, eqz_self, evBin_eql, evBin_neq, initFrom, putO, put_at, O.ev, evBin_add, evBin_sub, evBin_mul, evBin_lss, evBin_leq, evBin_gtr, evBin_geq, evBin_quo, evBin_rem, evBin_shr, evBin_shl, evBin_and, evBin_or, evBin_xor, evBin_seql, evBin_sneq, evBin_sadd, evUn, A.cp, A.cp1, A.own, A.norm, A.norm1, cst, cst1, takeU, resultOf, resVal, A.isR, A.isC, A.isV, A.cells, Value.oneCell', frz, frzR, frzC, A.hasB, A.scal, A.isVal, optInt, okCell, fillA, capsOf, St.c, slI, slT, h1, h2, h3]
    exact ⟨_, rfl⟩
  rw [ht] at h3
  obtain ⟨g, _, _⟩ := (thereS_iff s 0).1 ht
  have hlp := sums0 s hs g s.tasks.length 0
  simp only [St.c, slI, slT] at h2 h3 hlp
  simp [C8, -Int.not_lt, -Int.not_le, Option.bind_assoc, eL_seq, eL_reg, eL_dreg, clr_nil, clr_cons, neOk_nil, neOk_cons, neK_ptr, eL_ret, eL_skip, eL_exit, eL_scope, eL_cond, eL_block, gJ_nil, gJ_n, gJ_g, ob_ite, ob_none, ob_some, om_some, om_none, om_ite, seqG_nor, seqG_ex, seqG_ret, blkK_nor, blkK_ex, blkK_ret, resK_nor, resK_ret, condK_vb, runG_some, runG_none, puts_nil, puts_cons, gdOf_some, guardX_t, guardX_f, guardX_u, guardX_ite, gd_ite, gd_ite', gd_ite2, gd_ite2', mrg_no, mrg_yes, mrg_ite, mrg_ite', ite_vb, ite_vi, ↓evI_call, ↓evI_calli, ↓evI_callv, ↓evI_mxn, fzL_nil, fzL_cons, nmL_nil, nmL_cons, mpL_nil, mpL_cons, anyB_nil, anyB_cons, callvK_fn, mxnK_cons, evI, eqz_self, evBin_eql, evBin_neq, initFrom, putO, put_at, O.ev, evBin_add, evBin_sub, evBin_mul, evBin_lss, evBin_leq, evBin_gtr, evBin_geq, evBin_quo, evBin_rem, evBin_shr, evBin_shl, evBin_and, evBin_or, evBin_xor, evBin_seql, evBin_sneq, evBin_sadd, evUn, A.cp, A.cp1, A.own, A.norm, A.norm1, cst, cst1, takeU, resultOf, resVal, A.isR, A.isC, A.isV, A.cells, Value.oneCell', frz, frzR, frzC, A.hasB, A.scal, A.isVal, optInt, okCell, fillA, capsOf, St.c, slI, slT, h1, h2, h3]
  refine behindP (P := fun r => Ans _ [] r) (hlp _ (by omega) (by simp [put_at])) ?_
  intro a h
  obtain ⟨e', rfl, hx⟩ := h.never; clear h; have h := hx
  simp [-Int.not_lt, -Int.not_le, Option.bind_assoc, eL_seq, eL_reg, eL_dreg, clr_nil, clr_cons, neOk_nil, neOk_cons, neK_ptr, eL_ret, eL_skip, eL_exit, eL_scope, eL_cond, eL_block, gJ_nil, gJ_n, gJ_g, ob_ite, ob_none, ob_some, om_some, om_none, om_ite, seqG_nor, seqG_ex, seqG_ret, blkK_nor, blkK_ex, blkK_ret, resK_nor, resK_ret, condK_vb, runG_some, runG_none, puts_nil, puts_cons, gdOf_some, guardX_t, guardX_f, guardX_u, guardX_ite, gd_ite, gd_ite', gd_ite2, gd_ite2', mrg_no, mrg_yes, mrg_ite, mrg_ite', ite_vb, ite_vi, ↓evI_call, ↓evI_calli, ↓evI_callv, ↓evI_mxn, fzL_nil, fzL_cons, nmL_nil, nmL_cons, mpL_nil, mpL_cons, anyB_nil, anyB_cons, callvK_fn, mxnK_cons, evI, eqz_self, evBin_eql, evBin_neq, initFrom, putO, put_at, O.ev, evBin_add, evBin_sub, evBin_mul, evBin_lss, evBin_leq, evBin_gtr, evBin_geq, evBin_quo, evBin_rem, evBin_shr, evBin_shl, evBin_and, evBin_or, evBin_xor, evBin_seql, evBin_sneq, evBin_sadd, evUn, A.cp, A.cp1, A.own, A.norm, A.norm1, cst, cst1, takeU, resultOf, resVal, A.isR, A.isC, A.isV, A.cells, Value.oneCell', frz, frzR, frzC, A.hasB, A.scal, A.isVal, optInt, okCell, fillA, capsOf]
  exact ⟨_, rfl⟩
end Go.Proofs.YtiocdaeinahcoaaEv
