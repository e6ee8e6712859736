/- swingbridgelaw15.TokenRounds. -/
import Derived.Test.YtiocdaeinahcoaaCrowd
import Derived.Test.YtiocdaeinahcoaaU8
set_option linter.unusedSimpArgs false
set_option linter.unusedVariables false
namespace Go.Proofs.YtiocdaeinahcoaaEv
open Go
set_option maxHeartbeats 4000000
theorem u8w (i : Nat) (h : i < 6) : IntKind.wrap .u8 (97 + (i : Int)) = 97 + (i : Int) := by
  match i, h with
  | 0, _ => rfl | 1, _ => rfl | 2, _ => rfl | 3, _ => rfl | 4, _ => rfl | 5, _ => rfl
theorem bytes1 (i : Nat) (h : i < 6) : bytesA [.val (.int .u8 (97 + (i : Int)))] = some [UInt8.ofNat (97 + i)] := by
  match i, h with
  | 0, _ => rfl | 1, _ => rfl | 2, _ => rfl | 3, _ => rfl | 4, _ => rfl | 5, _ => rfl
def rdQ (d : Int) (i : Nat) : List A := ((List.range i).map (crT 2000 fun _ => [⟨3, d, 0⟩])).flatMap Tk.c
def rdB (c d : Int) (i : Nat) : List A := [vi 3, .sl [vi c] 1 2, .sl [vi 0] 1 2, .sl (rdQ d i) i 2]
theorem rdQ_len (d : Int) : ∀ i, (rdQ d i).length = i * 6
  | 0 => rfl
  | i + 1 => by have := rdQ_len d i; unfold rdQ at this ⊢; rw [cr_step, List.length_append, this]; show i * 6 + 6 = _; omega
theorem rdQ_step (d : Int) (i : Nat) : rdQ d (i + 1) = rdQ d i ++ [vs ⟨#[UInt8.ofNat (97 + i)]⟩, vi 2000, vi 2000, vi ((i : Int) + 1), vi 0, .sl [vi 3, vi d, vi 0] 1 0] := by
  unfold rdQ; rw [cr_step]; rfl
theorem rd_own (c d : Int) (n : Nat) (e : Env) (h7 : e 7 = vi n) (h8 : e 8 = vi c) (h9 : e 9 = vi d) (h10 : e 10 = .ptr 0 0) (h11 : e 11 = vi 0) :
    evL tab0 ext0 0 L13_0 (e, [[vi 3, .sl [vi c] 1 1, .sl [vi 0] 1 1, .sl [] 0 1]]) = evL tab0 ext0 0 L13_0 (e, [rdB c d 0]) := by
  rw [go13_0, go13_0]
  simp [rdB, rdQ, -Int.not_lt, -Int.not_le, Option.bind_assoc, eL_seq, eL_reg, eL_dreg, clr_nil, clr_cons, neOk_nil, neOk_cons, neK_ptr, eL_ret, eL_skip, eL_exit, eL_scope, eL_cond, eL_block, gJ_nil, gJ_n, gJ_g, ob_ite, ob_none, ob_some, om_some, om_none, om_ite, seqG_nor, seqG_ex, seqG_ret, blkK_nor, blkK_ex, blkK_ret, resK_nor, resK_ret, condK_vb, runG_some, runG_none, puts_nil, puts_cons, gdOf_some, guardX_t, guardX_f, guardX_u, guardX_ite, gd_ite, gd_ite', gd_ite2, gd_ite2', mrg_no, mrg_yes, mrg_ite, mrg_ite', ite_vb, ite_vi, ↓evI_call, ↓evI_calli, ↓evI_callv, ↓evI_mxn, fzL_nil, fzL_cons, nmL_nil, nmL_cons, mpL_nil, mpL_cons, anyB_nil, anyB_cons, callvK_fn, mxnK_cons, evI, eqz_self, evBin_eql, evBin_neq, initFrom, putO, put_at, O.ev, evBin_add, evBin_sub, evBin_mul, evBin_lss, evBin_leq, evBin_gtr, evBin_geq, evBin_quo, evBin_rem, evBin_shr, evBin_shl, evBin_and, evBin_or, evBin_xor, evBin_seql, evBin_sneq, evBin_sadd, evUn, A.cp, A.cp1, A.own, A.norm, A.norm1, cst, cst1, takeU, resultOf, resVal, A.isR, A.isC, A.isV, A.cells, Value.oneCell', frz, frzR, frzC, A.hasB, A.scal, A.isVal, optInt, okCell, fillA, capsOf, loopIn, loopIn0, keepL, emp, A.dang, A.dangC, h7, h8, h9, h10, h11]
theorem rd_loop (c d : Int) (n : Nat) (hn : n ≤ 6) : ∀ (k i : Nat) (e : Env), i + k = n → e 7 = vi n → e 8 = vi c → e 9 = vi d → e 10 = .ptr 0 0 → e 11 = vi i →
    ∃ e', evL tab0 ext0 0 L13_0 (e, [rdB c d i]) = some (.ex 0, e', [rdB c d n]) ∧ e' 7 = vi n ∧ e' 8 = vi c ∧ e' 9 = vi d ∧ e' 10 = .ptr 0 0 := by
  intro k
  induction k with
  | zero =>
    intro i e hi h7 h8 h9 h10 h11
    obtain rfl : i = n := by omega
    unfold rdB
    generalize rdQ d i = Q
    exact ⟨_, (go13_0 _ _).trans (by simp [B13_0, -Int.not_lt, -Int.not_le, Option.bind_assoc, eL_seq, eL_reg, eL_dreg, clr_nil, clr_cons, neOk_nil, neOk_cons, neK_ptr, eL_ret, eL_skip, eL_exit, eL_scope, eL_cond, eL_block, gJ_nil, gJ_n, gJ_g, ob_ite, ob_none, ob_some, om_some, om_none, om_ite, seqG_nor, seqG_ex, seqG_ret, blkK_nor, blkK_ex, blkK_ret, resK_nor, resK_ret, condK_vb, runG_some, runG_none, puts_nil, puts_cons, gdOf_some, guardX_t, guardX_f, guardX_u, guardX_ite, gd_ite, gd_ite', gd_ite2, gd_ite2', mrg_no, mrg_yes, mrg_ite, mrg_ite', ite_vb, ite_vi, ↓evI_call, ↓evI_calli, ↓evI_callv, ↓evI_mxn, fzL_nil, fzL_cons, nmL_nil, nmL_cons, mpL_nil, mpL_cons, anyB_nil, anyB_cons, callvK_fn, mxnK_cons, evI, eqz_self, evBin_eql, evBin_neq, initFrom, putO, put_at, O.ev, evBin_add, evBin_sub, evBin_mul, evBin_lss, evBin_leq, evBin_gtr, evBin_geq, evBin_quo, evBin_rem, evBin_shr, evBin_shl, evBin_and, evBin_or, evBin_xor, evBin_seql, evBin_sneq, evBin_sadd, evUn, A.cp, A.cp1, A.own, A.norm, A.norm1, cst, cst1, takeU, resultOf, resVal, A.isR, A.isC, A.isV, A.cells, Value.oneCell', frz, frzR, frzC, A.hasB, A.scal, A.isVal, optInt, okCell, fillA, capsOf, loopIn, loopIn0, keepL, emp, A.dang, A.dangC, h7, h8, h9, h10, h11]; rfl), by simp [put_at]⟩
  | succ k ih =>
    intro i e hi h7 h8 h9 h10 h11
    have hi' : (i : Int) < n := by omega
    have hw : IntKind.wrap .i64 ((i : Int) + 1) = (i : Int) + 1 := wrap_in _ (by omega) (by omega)
    have hw2 : IntKind.wrap .i64 (97 + (i : Int)) = 97 + (i : Int) := wrap_in _ (by omega) (by omega)
    have hw3 := u8w i (by omega)
    have hb := bytes1 i (by omega)
    have hsz : (i + 1) * 72 ≤ 70368744177664 := by omega
    have hQ := rdQ_len d i
    obtain ⟨e2, k1, k2⟩ := ih (i + 1) (put 11 (vi ((i : Int) + 1)) (put 7 (vi n) (put 8 (vi c) (put 9 (vi d) (put 10 (.ptr 0 0) emp))))) (by omega) (by simp [put_at]) (by simp [put_at]) (by simp [put_at]) (by simp [put_at]) (by simp [put_at])
    refine ⟨e2, ?_, k2⟩
    rw [← k1]
    refine (go13_0 _ _).trans ?_
    unfold rdB
    rw [rdQ_step]
    generalize UInt8.ofNat (97 + i) = nm at *
    generalize rdQ d i = Q at *
    simp [B13_0, -Int.not_lt, -Int.not_le, Option.bind_assoc, eL_seq, eL_reg, eL_dreg, clr_nil, clr_cons, neOk_nil, neOk_cons, neK_ptr, eL_ret, eL_skip, eL_exit, eL_scope, eL_cond, eL_block, gJ_nil, gJ_n, gJ_g, ob_ite, ob_none, ob_some, om_some, om_none, om_ite, seqG_nor, seqG_ex, seqG_ret, blkK_nor, blkK_ex, blkK_ret, resK_nor, resK_ret, condK_vb, runG_some, runG_none, puts_nil, puts_cons, gdOf_some, guardX_t, guardX_f, guardX_u, guardX_ite, gd_ite, gd_ite', gd_ite2, gd_ite2', mrg_no, mrg_yes, mrg_ite, mrg_ite', ite_vb, ite_vi, ↓evI_call, ↓evI_calli, ↓evI_callv, ↓evI_mxn, fzL_nil, fzL_cons, nmL_nil, nmL_cons, mpL_nil, mpL_cons, anyB_nil, anyB_cons, callvK_fn, mxnK_cons, evI, eqz_self, evBin_eql, evBin_neq, initFrom, putO, put_at, O.ev, evBin_add, evBin_sub, evBin_mul, evBin_lss, evBin_leq, evBin_gtr, evBin_geq, evBin_quo, evBin_rem, evBin_shr, evBin_shl, evBin_and, evBin_or, evBin_xor, evBin_seql, evBin_sneq, evBin_sadd, evUn, A.cp, A.cp1, A.own, A.norm, A.norm1, cst, cst1, takeU, resultOf, resVal, A.isR, A.isC, A.isV, A.cells, Value.oneCell', frz, frzR, frzC, A.hasB, A.scal, A.isVal, optInt, okCell, fillA, capsOf, loopIn, loopIn0, keepL, emp, A.dang, A.dangC, h7, h8, h9, h10, h11, hi', hw, hw2, hw3, hb, asList, hsz, hQ]
    exact loop_env (by simp [put_at])
theorem rd_loopP (c d : Int) (n : Nat) (hn : n ≤ 6) (e : Env) (h : e 7 = vi n ∧ e 8 = vi c ∧ e 9 = vi d ∧ e 10 = .ptr 0 0 ∧ e 11 = vi 0) :
    ∃ a, evL tab0 ext0 0 L13_0 (e, [[vi 3, .sl [vi c] 1 1, .sl [vi 0] 1 1, .sl [] 0 1]]) = some a ∧ ∃ e', a = (.ex 0, e', [rdB c d n]) ∧ e' 7 = vi n ∧ e' 8 = vi c ∧ e' 9 = vi d ∧ e' 10 = .ptr 0 0 := by
  obtain ⟨h7, h8, h9, h10, h11⟩ := h
  obtain ⟨e', k, k2⟩ := rd_loop c d n hn n 0 e (by omega) h7 h8 h9 h10 h11
  exact ⟨_, (rd_own c d n e h7 h8 h9 h10 h11).trans k, e', rfl, k2⟩
theorem rd_loop2 (c w : Int) (n R : Nat) (x : A) (hx : x = vi (w * min (n : Int) c)) (hR : ∀ i : Nat, i < R → 0 < (n : Int) - c - i * c) (hR2 : ¬ 0 < (n : Int) - c - R * c) (hb : ∀ i : Nat, i ≤ R → -100 ≤ (n : Int) - c - i * c ∧ (n : Int) - c - i * c ≤ 100) (hc : 1 ≤ c ∧ c ≤ 3) (hRs : R ≤ 10) :
    ∀ d i (e : Env), i + d = R → (e 7 = vi n ∧ e 8 = vi c ∧ e 10 = .ptr 0 0 ∧ e 12 = vi (w * min (n : Int) c) ∧ e 13 = vi i ∧ e 14 = vi ((n : Int) - c - i * c)) → ∃ zz, evL tab0 ext0 0 L13_2 (e, [rdB c w n]) = some zz ∧ FQ (fun _ => false) ([rdB c w n]) 2 (fun _ _ => True) (fun e => e 7 = vi n ∧ e 8 = vi c ∧ e 10 = .ptr 0 0 ∧ e 12 = vi (w * min (n : Int) c) ∧ e 13 = vi R) i d zz := by
  refine fq_loop (St := fun i e => e 7 = vi n ∧ e 8 = vi c ∧ e 10 = .ptr 0 0 ∧ e 12 = vi (w * min (n : Int) c) ∧ e 13 = vi i ∧ e 14 = vi ((n : Int) - c - i * c)) _ _ _ _ _ ?_ ?_
  · rintro e ⟨g0, g1, g2, g3, g4, g5⟩
    generalize (n : Int) - c - R * c = u at hR2 g5
    exact ⟨_, (go13_2 _ _).trans (by simp [B13_2, -Int.not_lt, -Int.not_le, Option.bind_assoc, eL_seq, eL_reg, eL_dreg, clr_nil, clr_cons, neOk_nil, neOk_cons, neK_ptr, eL_ret, eL_skip, eL_exit, eL_scope, eL_cond, eL_block, gJ_nil, gJ_n, gJ_g, ob_ite, ob_none, ob_some, om_some, om_none, om_ite, seqG_nor, seqG_ex, seqG_ret, blkK_nor, blkK_ex, blkK_ret, resK_nor, resK_ret, condK_vb, runG_some, runG_none, puts_nil, puts_cons, gdOf_some, guardX_t, guardX_f, guardX_u, guardX_ite, gd_ite, gd_ite', gd_ite2, gd_ite2', mrg_no, mrg_yes, mrg_ite, mrg_ite', ite_vb, ite_vi, ↓evI_call, ↓evI_calli, ↓evI_callv, ↓evI_mxn, fzL_nil, fzL_cons, nmL_nil, nmL_cons, mpL_nil, mpL_cons, anyB_nil, anyB_cons, callvK_fn, mxnK_cons, evI, eqz_self, evBin_eql, evBin_neq, initFrom, putO, put_at, O.ev, evBin_add, evBin_sub, evBin_mul, evBin_lss, evBin_leq, evBin_gtr, evBin_geq, evBin_quo, evBin_rem, evBin_shr, evBin_shl, evBin_and, evBin_or, evBin_xor, evBin_seql, evBin_sneq, evBin_sadd, evUn, A.cp, A.cp1, A.own, A.norm, A.norm1, cst, cst1, takeU, resultOf, resVal, A.isR, A.isC, A.isV, A.cells, Value.oneCell', frz, frzR, frzC, A.hasB, A.scal, A.isVal, optInt, okCell, fillA, capsOf, loopIn, loopIn0, keepL, emp, A.dang, A.dangC, g0, g1, g2, g3, g4, g5, rdB, hR2]; rfl), by simp [put_at, g0, g1, g2, g3, g4]⟩
  · rintro i e hi ⟨g0, g1, g2, g3, g4, g5⟩
    rw [go13_2]
    have hi' : (i : Int) < (R : Nat) := by omega
    have hw : IntKind.wrap .i64 ((i : Int) + 1) = (i : Int) + 1 := wrap_in _ (by omega) (by omega)
    have h1 := hR i hi
    have h2 := hb i (by omega)
    have e3 : (n : Int) - c - ((i : Int) + 1) * c = (n : Int) - c - i * c - c := by rw [Int.add_mul]; omega
    have hw2 : IntKind.wrap .i64 ((n : Int) - c - i * c - c) = (n : Int) - c - i * c - c := wrap_in _ (by omega) (by omega)
    simp only [Int.natCast_add, Int.natCast_one] at *
    rw [e3]
    generalize (n : Int) - c - i * c = u at *
    simp +contextual (maxSteps := 400000) [B13_2, -Int.not_lt, -Int.not_le, Option.bind_assoc, eL_seq, eL_reg, eL_dreg, clr_nil, clr_cons, neOk_nil, neOk_cons, neK_ptr, eL_ret, eL_skip, eL_exit, eL_scope, eL_cond, eL_block, gJ_nil, gJ_n, gJ_g, ob_ite, ob_none, ob_some, om_some, om_none, om_ite, seqG_nor, seqG_ex, seqG_ret, blkK_nor, blkK_ex, blkK_ret, resK_nor, resK_ret, condK_vb, runG_some, runG_none, puts_nil, puts_cons, gdOf_some, guardX_t, guardX_f, guardX_u, guardX_ite, gd_ite, gd_ite', gd_ite2, gd_ite2', mrg_no, mrg_yes, mrg_ite, mrg_ite', ite_vb, ite_vi, ↓evI_call, ↓evI_calli, ↓evI_callv, ↓evI_mxn, fzL_nil, fzL_cons, nmL_nil, nmL_cons, mpL_nil, mpL_cons, anyB_nil, anyB_cons, callvK_fn, mxnK_cons, evI, eqz_self, evBin_eql, evBin_neq, initFrom, putO, put_at, O.ev, evBin_add, evBin_sub, evBin_mul, evBin_lss, evBin_leq, evBin_gtr, evBin_geq, evBin_quo, evBin_rem, evBin_shr, evBin_shl, evBin_and, evBin_or, evBin_xor, evBin_seql, evBin_sneq, evBin_sadd, evUn, A.cp, A.cp1, A.own, A.norm, A.norm1, cst, cst1, takeU, resultOf, resVal, A.isR, A.isC, A.isV, A.cells, Value.oneCell', frz, frzR, frzC, A.hasB, A.scal, A.isVal, optInt, okCell, fillA, capsOf, loopIn, loopIn0, keepL, emp, A.dang, A.dangC, g0, g1, g2, g3, g4, g5, hi, hi', rdB, hw, hw2, h1]
    exact Step.go rfl (by simp [put_at])
theorem rd_ceil (n : Nat) (c : Int) (hn : 1 ≤ n ∧ n ≤ 6) (hc : 1 ≤ c ∧ c ≤ 3) : ∃ R : Nat, (R : Int) = ceilS (max ((n : Int) - c) 0) c ∧ R ≤ 10 ∧ (∀ i : Nat, i < R → 0 < (n : Int) - c - i * c) ∧ ¬ 0 < (n : Int) - c - R * c ∧ ∀ i : Nat, i ≤ R → -100 ≤ (n : Int) - c - i * c ∧ (n : Int) - c - i * c ≤ 100 := by
  have h := ceil_le (max ((n : Int) - c) 0) c (by omega) hc.1
  obtain ⟨R, hR⟩ := nat_of _ h.1
  refine ⟨R, hR.symm, by omega, ?_⟩
  have e : ceilS (max ((n : Int) - c) 0) c = (max ((n : Int) - c) 0 + c - 1) / c := rfl
  rw [e] at hR
  obtain rfl | rfl | rfl : c = 1 ∨ c = 2 ∨ c = 3 := by omega
  all_goals exact ⟨fun i hi => by omega, by omega, fun i hi => by omega⟩
theorem tokenRounds_is (a b l : Int) (ha8 : (Lit.int .u8 a).wf = true) (hb8 : (Lit.int .u8 b).wf = true) (hl8 : (Lit.int .u8 l).wf = true) :
    Ans (vb true) [] (callL tab0 ext0 13 [vu8 a, vu8 b, vu8 l] []) := by
  have q : ∀ n m : Int, (Lit.int .u8 n).wf = true → 1 ≤ m ∧ m ≤ 50 → n.tmod m = n % m ∧ 0 ≤ n % m ∧ n % m < m ∧ IntKind.wrap .i64 (n % m) = n % m ∧ IntKind.wrap .i64 (n % m + 1) = n % m + 1 := by
    intro n m hn hm
    have h := u8_of hn
    have h1 := Int.emod_nonneg n (show m ≠ 0 by omega)
    have h2 := Int.emod_lt_of_pos n (show 0 < m by omega)
    exact ⟨Int.tmod_eq_emod_of_nonneg h.1, h1, h2, wrap_in _ (by omega) (by omega), wrap_in _ (by omega) (by omega)⟩
  obtain ⟨a1, a2, a3, a4, a6⟩ := q a 6 ha8 (by omega)
  obtain ⟨b1, b2, b3, b4, b6⟩ := q b 3 hb8 (by omega)
  obtain ⟨l1, l2, l3, l4, l6⟩ := q l 50 hl8 (by omega)
  clear q
  generalize a % 6 = n0 at *
  generalize b % 3 = c0 at *
  generalize l % 50 = d0 at *
  obtain ⟨n, hn⟩ : ∃ n : Nat, (n : Int) = n0 + 1 := ⟨(n0 + 1).toNat, by omega⟩
  obtain ⟨c, hc⟩ : ∃ c, c = c0 + 1 := ⟨_, rfl⟩
  obtain ⟨d, hd⟩ : ∃ d, d = d0 + 1 := ⟨_, rfl⟩
  rw [← hn] at a6
  rw [← hc] at b6
  rw [← hd] at l6
  have h1 := pure_vb (k := false) known_30
  rw [callL_tab _ _ rfl tab13 rfl]
  have hnn : 1 ≤ n ∧ n ≤ 6 := by omega
  have hcc : 1 ≤ c ∧ c ≤ 3 := by omega
  have hdd : 1 ≤ d ∧ d ≤ 60 := by omega
  have g := round_good c d n hcc hdd hnn
  have hs := cr_sm 3 [c] [0] 2000 (fun _ => [⟨3, d, 0⟩]) n g
  obtain ⟨p1, p2, p3⟩ := round_law c d n hcc hdd hnn
  have h2 := pure_ansO (k := false) (tokIn_is (roundS c d n) hs 0 0)
  have h3 := pure_vi (k := false) (tokU_is (roundS c d n) hs 0)
  have h4 := pure_ansO (k := false) (tok_is (roundS c d n) hs ((n : Int) - 1) 0)
  rw [p1] at h2
  rw [p2] at h3
  rw [p3] at h4
  obtain ⟨R, r1, r2, r3, r4, r5⟩ := rd_ceil n c hnn hcc
  rw [← r1] at h3 h4
  have hlen : (roundS c d n).tasks.length = n := crS_len ..
  have hcells : St.c (roundS c d n) = [vi 3, .sl [vi c] 1 0, .sl [vi 0] 1 0, .sl (rdQ d n) n 0] := by
    show [vi 3, A.sl [vi c] 1 0, A.sl [vi 0] 1 0, A.sl (rdQ d n) (roundS c d n).tasks.length 0] = _
    rw [hlen]
  rw [hcells] at h2 h3 h4
  have hb1 := mul_b (a := d) (b := min (n : Int) c) (x := 60) (y := 3) (by omega) (by omega) (by omega) (by omega)
  have hb2 := mul_b (a := (R : Int)) (b := d * min (n : Int) c) (x := 10) (y := 180) (by omega) (by omega) (by omega) (by omega)
  have w1 : IntKind.wrap .i64 (d * min (n : Int) c) = d * min (n : Int) c := wrap_in _ (by omega) (by omega)
  have w2 : IntKind.wrap .i64 ((R : Int) * (d * min (n : Int) c)) = (R : Int) * (d * min (n : Int) c) := wrap_in _ (by omega) (by omega)
  have w3 : IntKind.wrap .i64 (d * min (n : Int) c + (R : Int) * (d * min (n : Int) c)) = d * min (n : Int) c + (R : Int) * (d * min (n : Int) c) := wrap_in _ (by omega) (by omega)
  have w4 : IntKind.wrap .i64 ((n : Int) - c) = (n : Int) - c := wrap_in _ (by omega) (by omega)
  have w5 : IntKind.wrap .i64 ((n : Int) - 1) = (n : Int) - 1 := wrap_in _ (by omega) (by omega)
  have hf : foldM false (n : Int) [vi c] = some (min (n : Int) c) := by show some (if c < (n : Int) then c else n) = _; congr 1; split <;> omega
  have l2 := rd_loop2 c d n R _ rfl r3 r4 r5 hcc r2 R 0
  simp only [Option.getD_some, Option.isSome_some] at h2 h4
  simp [C13, -Int.not_lt, -Int.not_le, Option.bind_assoc, eL_seq, eL_reg, eL_dreg, clr_nil, clr_cons, neOk_nil, neOk_cons, neK_ptr, eL_ret, eL_skip, eL_exit, eL_scope, eL_cond, eL_block, gJ_nil, gJ_n, gJ_g, ob_ite, ob_none, ob_some, om_some, om_none, om_ite, seqG_nor, seqG_ex, seqG_ret, blkK_nor, blkK_ex, blkK_ret, resK_nor, resK_ret, condK_vb, runG_some, runG_none, puts_nil, puts_cons, gdOf_some, guardX_t, guardX_f, guardX_u, guardX_ite, gd_ite, gd_ite', gd_ite2, gd_ite2', mrg_no, mrg_yes, mrg_ite, mrg_ite', ite_vb, ite_vi, ↓evI_call, ↓evI_calli, ↓evI_callv, ↓evI_mxn, fzL_nil, fzL_cons, nmL_nil, nmL_cons, mpL_nil, mpL_cons, anyB_nil, anyB_cons, callvK_fn, mxnK_cons, evI, eqz_self, evBin_eql, evBin_neq, initFrom, putO, put_at, O.ev, evBin_add, evBin_sub, evBin_mul, evBin_lss, evBin_leq, evBin_gtr, evBin_geq, evBin_quo, evBin_rem, evBin_shr, evBin_shl, evBin_and, evBin_or, evBin_xor, evBin_seql, evBin_sneq, evBin_sadd, evUn, A.cp, A.cp1, A.own, A.norm, A.norm1, cst, cst1, takeU, resultOf, resVal, A.isR, A.isC, A.isV, A.cells, Value.oneCell', frz, frzR, frzC, A.hasB, A.scal, A.isVal, optInt, okCell, fillA, capsOf, h1, a1, a4, a6, b1, b4, b6, l1, l4, l6, ← hn, ← hc, ← hd]
  refine behindP (P := fun r' => Ans _ [] r') (rd_loopP c d n (by omega) _ (by simp [put_at])) ?_
  rintro a ⟨e1, rfl, k1, k2, k3, k4⟩
  simp [-Int.not_lt, -Int.not_le, Option.bind_assoc, eL_seq, eL_reg, eL_dreg, clr_nil, clr_cons, neOk_nil, neOk_cons, neK_ptr, eL_ret, eL_skip, eL_exit, eL_scope, eL_cond, eL_block, gJ_nil, gJ_n, gJ_g, ob_ite, ob_none, ob_some, om_some, om_none, om_ite, seqG_nor, seqG_ex, seqG_ret, blkK_nor, blkK_ex, blkK_ret, resK_nor, resK_ret, condK_vb, runG_some, runG_none, puts_nil, puts_cons, gdOf_some, guardX_t, guardX_f, guardX_u, guardX_ite, gd_ite, gd_ite', gd_ite2, gd_ite2', mrg_no, mrg_yes, mrg_ite, mrg_ite', ite_vb, ite_vi, ↓evI_call, ↓evI_calli, ↓evI_callv, ↓evI_mxn, fzL_nil, fzL_cons, nmL_nil, nmL_cons, mpL_nil, mpL_cons, anyB_nil, anyB_cons, callvK_fn, mxnK_cons, evI, eqz_self, evBin_eql, evBin_neq, initFrom, putO, put_at, O.ev, evBin_add, evBin_sub, evBin_mul, evBin_lss, evBin_leq, evBin_gtr, evBin_geq, evBin_quo, evBin_rem, evBin_shr, evBin_shl, evBin_and, evBin_or, evBin_xor, evBin_seql, evBin_sneq, evBin_sadd, evUn, A.cp, A.cp1, A.own, A.norm, A.norm1, cst, cst1, takeU, resultOf, resVal, A.isR, A.isC, A.isV, A.cells, Value.oneCell', frz, frzR, frzC, A.hasB, A.scal, A.isVal, optInt, okCell, fillA, capsOf, k1, k2, k3, k4, hf, w1, w4]
  refine behindP (P := fun r' => Ans _ [] r') (l2 _ (by omega) (by simp [put_at, k1, k2, k4])) ?_
  intro a h
  obtain ⟨e', rfl, hx⟩ := h.never; clear h; have h := hx
  obtain ⟨j1, j2, j3, j4, j5⟩ := h
  clear l2
  generalize d * min (n : Int) c = v at *
  generalize hu2 : (R : Int) * v = u at h3 h4 w2 w3
  have hq : (rdQ d n).length = n * 6 := rdQ_len d n
  unfold rdB
  simp [-Int.not_lt, -Int.not_le, Option.bind_assoc, eL_seq, eL_reg, eL_dreg, clr_nil, clr_cons, neOk_nil, neOk_cons, neK_ptr, eL_ret, eL_skip, eL_exit, eL_scope, eL_cond, eL_block, gJ_nil, gJ_n, gJ_g, ob_ite, ob_none, ob_some, om_some, om_none, om_ite, seqG_nor, seqG_ex, seqG_ret, blkK_nor, blkK_ex, blkK_ret, resK_nor, resK_ret, condK_vb, runG_some, runG_none, puts_nil, puts_cons, gdOf_some, guardX_t, guardX_f, guardX_u, guardX_ite, gd_ite, gd_ite', gd_ite2, gd_ite2', mrg_no, mrg_yes, mrg_ite, mrg_ite', ite_vb, ite_vi, ↓evI_call, ↓evI_calli, ↓evI_callv, ↓evI_mxn, fzL_nil, fzL_cons, nmL_nil, nmL_cons, mpL_nil, mpL_cons, anyB_nil, anyB_cons, callvK_fn, mxnK_cons, evI, eqz_self, evBin_eql, evBin_neq, initFrom, putO, put_at, O.ev, evBin_add, evBin_sub, evBin_mul, evBin_lss, evBin_leq, evBin_gtr, evBin_geq, evBin_quo, evBin_rem, evBin_shr, evBin_shl, evBin_and, evBin_or, evBin_xor, evBin_seql, evBin_sneq, evBin_sadd, evUn, A.cp, A.cp1, A.own, A.norm, A.norm1, cst, cst1, takeU, resultOf, resVal, A.isR, A.isC, A.isV, A.cells, Value.oneCell', frz, frzR, frzC, A.hasB, A.scal, A.isVal, optInt, okCell, fillA, capsOf, j1, j2, j3, j4, j5, h2, h3, h4, hu2, w2, w3, w5, eqz_self]
  exact ⟨_, rfl⟩
end Go.Proofs.YtiocdaeinahcoaaEv
