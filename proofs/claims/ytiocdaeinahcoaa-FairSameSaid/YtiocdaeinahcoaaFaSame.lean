/- swingbridgelaw13.FairSame. -/
import Derived.Test.YtiocdaeinahcoaaFaSameP
import Derived.Test.YtiocdaeinahcoaaU8
set_option linter.unusedSimpArgs false
set_option linter.unusedVariables false
namespace Go.Proofs.YtiocdaeinahcoaaEv
open Go
set_option maxHeartbeats 4000000
theorem plainOwn {l : List A} (h : l.all A.plain = true) : l.map A.own = l := by
  simp only [List.all_eq_true] at h
  refine (List.map_congr_left fun a ha => ?_).trans (List.map_id' l)
  have := h a ha
  cases a <;> simp_all [A.plain, A.own]
/-! ### the cores -/
def smC (s : St) (v : Int) (i : Nat) : List Int := List.replicate i v ++ s.cores.drop i
theorem smC_len (s : St) (v : Int) (i : Nat) (h : i ≤ s.cores.length) : (smC s v i).length = s.cores.length := by simp [smC]; omega
theorem smC_step (s : St) (v : Int) (i : Nat) (h : i < s.cores.length) : ((smC s v i).map vi).take i ++ vi v :: ((smC s v i).map vi).drop (i + 1) = (smC s v (i + 1)).map vi := by
  unfold smC
  rw [List.drop_eq_getElem_cons h, List.map_append, List.map_cons]
  have e := put_mid ((List.replicate i v).map vi) ((s.cores.drop (i + 1)).map vi) (vi s.cores[i]) (vi v) i (by simp)
  rw [e, List.replicate_succ', List.append_assoc, List.map_append, List.map_append]; rfl
theorem fs_loop0 (s : St) (c p : Int) (hc : 0 ≤ c ∧ c ≤ 255) (hs : Sm s) : ∀ (k i : Nat) (e : Env), i + k = s.cores.length → e 1 = vu8 c → e 2 = vu8 p → e 3 = .ptr 0 0 → e 7 = .ptr 1 0 → e 8 = vi i →
    ∃ e', evL tab0 ext0 0 L9_0 (e, [St.c s, [vi s.proto, .bs 2 s.cores.length 1, slI s.homes, slT s.tasks], (smC s (c % 3 + 1) i).map vi]) = some (.ex 0, e', [St.c s, [vi s.proto, .bs 2 s.cores.length 1, slI s.homes, slT s.tasks], (smC s (c % 3 + 1) s.cores.length).map vi]) ∧ e' 2 = vu8 p ∧ e' 3 = .ptr 0 0 ∧ e' 7 = .ptr 1 0 := by
  intro k
  induction k with
  | zero =>
    intro i e hi h1 h2 h3 h7 h8
    obtain rfl : i = s.cores.length := by omega
    have pd := plain_dang (m := 3) (plain_vi (smC s (c % 3 + 1) s.cores.length))
    have po := plainOwn (plain_vi (smC s (c % 3 + 1) s.cores.length))
    generalize (smC s (c % 3 + 1) s.cores.length).map vi = B at pd po ⊢
    exact ⟨_, (go9_0 _ _).trans (by simp [B9_0, -Int.not_lt, -Int.not_le, Option.bind_assoc, eL_seq, eL_reg, eL_dreg, clr_nil, clr_cons, neOk_nil, neOk_cons, neK_ptr, eL_ret, eL_skip, eL_exit, eL_scope, eL_cond, eL_block, gJ_nil, gJ_n, gJ_g, ob_ite, ob_none, ob_some, om_some, om_none, om_ite, seqG_nor, seqG_ex, seqG_ret, blkK_nor, blkK_ex, blkK_ret, resK_nor, resK_ret, condK_vb, runG_some, runG_none, puts_nil, puts_cons, gdOf_some, guardX_t, guardX_f, guardX_u, guardX_ite, gd_ite, gd_ite', gd_ite2, gd_ite2', mrg_no, mrg_yes, mrg_ite, mrg_ite', ite_vb, ite_vi, ↓evI_call, ↓evI_calli, ↓evI_callv, ↓evI_mxn, fzL_nil, fzL_cons, nmL_nil, nmL_cons, mpL_nil, mpL_cons, anyB_nil, anyB_cons, callvK_fn, mxnK_cons, evI, eqz_self, evBin_eql, evBin_neq, initFrom, putO, put_at, O.ev, evBin_add, evBin_sub, evBin_mul, evBin_lss, evBin_leq, evBin_gtr, evBin_geq, evBin_quo, evBin_rem, evBin_shr, evBin_shl, evBin_and, evBin_or, evBin_xor, evBin_seql, evBin_sneq, evBin_sadd, evUn, A.cp, A.cp1, A.own, A.norm, A.norm1, cst, cst1, takeU, resultOf, resVal, A.isR, A.isC, A.isV, A.cells, Value.oneCell', frz, frzR, frzC, A.hasB, A.scal, A.isVal, optInt, okCell, fillA, capsOf, loopIn, loopIn0, keepL, emp, A.dang, A.dangC, St.c, slI, slT, h1, h2, h3, h7, h8, pd, po, -List.all_eq_true, -List.map_map]; rfl), by simp [put_at]⟩
  | succ k ih =>
    intro i e hi h1 h2 h3 h7 h8
    have hil : i < s.cores.length := by omega
    have hi' : (i : Int) < s.cores.length := by omega
    have hcl := hs.cores
    have hw : IntKind.wrap .i64 ((i : Int) + 1) = (i : Int) + 1 := wrap_in _ (by omega) (by omega)
    have kc := wrap_u8i c hc
    have kr : c.tmod 3 = c % 3 := Int.tmod_eq_emod_of_nonneg hc.1
    have hw2 : IntKind.wrap .i64 (c % 3 + 1) = c % 3 + 1 := wrap_in _ (by omega) (by omega)
    have pd := plain_dang (m := 3) (plain_vi (smC s (c % 3 + 1) i))
    have po := plainOwn (plain_vi (smC s (c % 3 + 1) i))
    have hst := smC_step s (c % 3 + 1) i hil
    have hlb : ((smC s (c % 3 + 1) i).map vi).length = s.cores.length := by rw [List.length_map, smC_len _ _ _ (by omega)]
    obtain ⟨e2, k1, k2⟩ := ih (i + 1) (put 8 (vi ((i : Int) + 1)) (put 1 (vu8 c) (put 2 (vu8 p) (put 3 (.ptr 0 0) (put 7 (.ptr 1 0) emp))))) (by omega) (by simp [put_at]) (by simp [put_at]) (by simp [put_at]) (by simp [put_at]) (by simp [put_at])
    refine ⟨e2, ?_, k2⟩
    rw [← k1]
    refine (go9_0 _ _).trans ?_
    rw [← hst]
    have hB1 : i + 1 ≤ s.cores.length := by omega
    generalize hv : c % 3 + 1 = v at *
    generalize (smC s v i).map vi = B at *
    simp [B9_0, -Int.not_lt, -Int.not_le, Option.bind_assoc, eL_seq, eL_reg, eL_dreg, clr_nil, clr_cons, neOk_nil, neOk_cons, neK_ptr, eL_ret, eL_skip, eL_exit, eL_scope, eL_cond, eL_block, gJ_nil, gJ_n, gJ_g, ob_ite, ob_none, ob_some, om_some, om_none, om_ite, seqG_nor, seqG_ex, seqG_ret, blkK_nor, blkK_ex, blkK_ret, resK_nor, resK_ret, condK_vb, runG_some, runG_none, puts_nil, puts_cons, gdOf_some, guardX_t, guardX_f, guardX_u, guardX_ite, gd_ite, gd_ite', gd_ite2, gd_ite2', mrg_no, mrg_yes, mrg_ite, mrg_ite', ite_vb, ite_vi, ↓evI_call, ↓evI_calli, ↓evI_callv, ↓evI_mxn, fzL_nil, fzL_cons, nmL_nil, nmL_cons, mpL_nil, mpL_cons, anyB_nil, anyB_cons, callvK_fn, mxnK_cons, evI, eqz_self, evBin_eql, evBin_neq, initFrom, putO, put_at, O.ev, evBin_add, evBin_sub, evBin_mul, evBin_lss, evBin_leq, evBin_gtr, evBin_geq, evBin_quo, evBin_rem, evBin_shr, evBin_shl, evBin_and, evBin_or, evBin_xor, evBin_seql, evBin_sneq, evBin_sadd, evUn, A.cp, A.cp1, A.own, A.norm, A.norm1, cst, cst1, takeU, resultOf, resVal, A.isR, A.isC, A.isV, A.cells, Value.oneCell', frz, frzR, frzC, A.hasB, A.scal, A.isVal, optInt, okCell, fillA, capsOf, loopIn, loopIn0, keepL, emp, A.dang, A.dangC, St.c, slI, slT, h1, h2, h3, h7, h8, pd, po, hil, hi', hw, kc, kr, hv, hw2, hlb, hB1, -List.all_eq_true, -List.map_map]
    exact loop_env (by simp [put_at])
/-! ### the tasks -/
theorem chgL_append (p n) : ∀ (a b : List Tk) i, chgL p n i (a ++ b) = chgL p n i a ++ chgL p n (i + a.length) b
  | [], b, i => by simp [chgL]
  | t :: a, b, i => by
    simp only [List.cons_append, chgL, chgL_append p n a b (i + 1), List.length_cons]
    congr 3; omega
def smA (s : St) (p : Int) (i : Nat) : List A := (chgL p s.tasks.length 0 (s.tasks.take i)).flatMap Tk.c
def smT (s : St) (p : Int) (i : Nat) : List A := smA s p i ++ (s.tasks.drop i).flatMap Tk.c
theorem smA_len (s p i) (h : i ≤ s.tasks.length) : (smA s p i).length = i * 6 := by
  unfold smA; rw [len_tk, chgL_len, List.length_take]; congr 1; omega
theorem smA_step (s p) (i : Nat) (h : i < s.tasks.length) : smA s p (i + 1) = smA s p i ++ Tk.c (chgT p s.tasks.length i s.tasks[i]) := by
  unfold smA
  rw [List.take_succ_eq_append_getElem h, chgL_append, List.flatMap_append, List.length_take, Nat.zero_add, show min i s.tasks.length = i by omega]
  simp [chgL]
theorem smT_at (s p) (i : Nat) (h : i < s.tasks.length) : smT s p i = smA s p i ++ (vs s.tasks[i].name :: vi s.tasks[i].period :: vi s.tasks[i].deadline :: vi s.tasks[i].prio :: vi s.tasks[i].cluster :: slP s.tasks[i].parts :: (s.tasks.drop (i + 1)).flatMap Tk.c) := by
  unfold smT; rw [List.drop_eq_getElem_cons h, List.flatMap_cons]; rfl
theorem smT_next (s p) (i : Nat) (h : i < s.tasks.length) : smT s p (i + 1) = smA s p i ++ (vs s.tasks[i].name :: vi s.tasks[i].period :: vi s.tasks[i].deadline :: vi (1 + ((i : Int) + p) % s.tasks.length) :: vi 0 :: slP s.tasks[i].parts :: (s.tasks.drop (i + 1)).flatMap Tk.c) := by
  unfold smT; rw [smA_step s p i h, List.append_assoc]; rfl
theorem smT_end (s cs p) : smT s p s.tasks.length = (chgS s cs p).tasks.flatMap Tk.c := by
  unfold smT smA; rw [List.take_length, List.drop_length]; simp [chgS]
theorem smT_plain (s p i) : (smT s p i).all A.plain = true := by
  unfold smT smA; rw [← List.flatMap_append]; exact plain_tk _
theorem smT_len (s p i) (h : i ≤ s.tasks.length) : (smT s p i).length = s.tasks.length * 6 := by
  unfold smT; rw [List.length_append, smA_len s p i h, len_tk, List.length_drop]; omega
theorem put3 (U R : List A) (a b c d e f v : A) (i : Nat) (hU : U.length = i * 6) : (U ++ (a :: b :: c :: d :: e :: f :: R)).take (i * 6 + 3) ++ v :: (U ++ (a :: b :: c :: d :: e :: f :: R)).drop (i * 6 + 3 + 1) = U ++ (a :: b :: c :: v :: e :: f :: R) := by
  have := put_mid (U ++ [a, b, c]) (e :: f :: R) d v (i * 6 + 3) (by simp [hU])
  simpa using this
theorem put4 (U R : List A) (a b c d e f v : A) (i : Nat) (hU : U.length = i * 6) : (U ++ (a :: b :: c :: d :: e :: f :: R)).take (i * 6 + 4) ++ v :: (U ++ (a :: b :: c :: d :: e :: f :: R)).drop (i * 6 + 4 + 1) = U ++ (a :: b :: c :: d :: v :: f :: R) := by
  have := put_mid (U ++ [a, b, c, d]) (f :: R) e v (i * 6 + 4) (by simp [hU])
  simpa using this
def smB (s : St) (C T : List A) : Bx := [St.c s, [vi s.proto, .bs 2 s.cores.length 1, slI s.homes, .bs 3 s.tasks.length 6], C, T]
theorem fs_loop2 (s : St) (p : Int) (hp : 0 ≤ p ∧ p ≤ 255) (hs : Sm s) (C : List A) (hC : C.all A.plain = true) : ∀ (k i : Nat) (e : Env), i + k = s.tasks.length → e 2 = vu8 p → e 3 = .ptr 0 0 → e 7 = .ptr 1 0 → e 9 = vi i →
    ∃ e', evL tab0 ext0 0 L9_2 (e, smB s C (smT s p i)) = some (.ex 2, e', smB s C (smT s p s.tasks.length)) ∧ e' 3 = .ptr 0 0 ∧ e' 7 = .ptr 1 0 := by
  have pdC := plain_dang (m := 4) hC
  have poC := plainOwn hC
  intro k
  induction k with
  | zero =>
    intro i e hi h2 h3 h7 h9
    obtain rfl : i = s.tasks.length := by omega
    have pd := plain_dang (m := 4) (smT_plain s p s.tasks.length)
    have po := plainOwn (smT_plain s p s.tasks.length)
    generalize smT s p s.tasks.length = B at pd po ⊢
    exact ⟨_, (go9_2 _ _).trans (by simp [B9_2, -Int.not_lt, -Int.not_le, Option.bind_assoc, eL_seq, eL_reg, eL_dreg, clr_nil, clr_cons, neOk_nil, neOk_cons, neK_ptr, eL_ret, eL_skip, eL_exit, eL_scope, eL_cond, eL_block, gJ_nil, gJ_n, gJ_g, ob_ite, ob_none, ob_some, om_some, om_none, om_ite, seqG_nor, seqG_ex, seqG_ret, blkK_nor, blkK_ex, blkK_ret, resK_nor, resK_ret, condK_vb, runG_some, runG_none, puts_nil, puts_cons, gdOf_some, guardX_t, guardX_f, guardX_u, guardX_ite, gd_ite, gd_ite', gd_ite2, gd_ite2', mrg_no, mrg_yes, mrg_ite, mrg_ite', ite_vb, ite_vi, ↓evI_call, ↓evI_calli, ↓evI_callv, ↓evI_mxn, fzL_nil, fzL_cons, nmL_nil, nmL_cons, mpL_nil, mpL_cons, anyB_nil, anyB_cons, callvK_fn, mxnK_cons, evI, eqz_self, evBin_eql, evBin_neq, initFrom, putO, put_at, O.ev, evBin_add, evBin_sub, evBin_mul, evBin_lss, evBin_leq, evBin_gtr, evBin_geq, evBin_quo, evBin_rem, evBin_shr, evBin_shl, evBin_and, evBin_or, evBin_xor, evBin_seql, evBin_sneq, evBin_sadd, evUn, A.cp, A.cp1, A.own, A.norm, A.norm1, cst, cst1, takeU, resultOf, resVal, A.isR, A.isC, A.isV, A.cells, Value.oneCell', frz, frzR, frzC, A.hasB, A.scal, A.isVal, optInt, okCell, fillA, capsOf, loopIn, loopIn0, keepL, emp, A.dang, A.dangC, smB, St.c, slI, slT, h2, h3, h7, h9, pd, po, pdC, poC, -List.all_eq_true, -List.map_map]; rfl), by simp [put_at]⟩
  | succ k ih =>
    intro i e hi h2 h3 h7 h9
    have hil : i < s.tasks.length := by omega
    have hi' : (i : Int) < s.tasks.length := by omega
    have hcl := hs.tasks
    have hw : IntKind.wrap .i64 ((i : Int) + 1) = (i : Int) + 1 := wrap_in _ (by omega) (by omega)
    have kp := wrap_u8i p hp
    have hw2 : IntKind.wrap .i64 ((i : Int) + p) = (i : Int) + p := wrap_in _ (by omega) (by omega)
    have kr : ((i : Int) + p).tmod s.tasks.length = ((i : Int) + p) % s.tasks.length := Int.tmod_eq_emod_of_nonneg (by omega)
    have m1 := Int.emod_nonneg ((i : Int) + p) (show (s.tasks.length : Int) ≠ 0 by omega)
    have m2 := Int.emod_lt_of_pos ((i : Int) + p) (show 0 < (s.tasks.length : Int) by omega)
    have hw3 : IntKind.wrap .i64 (1 + ((i : Int) + p) % s.tasks.length) = 1 + ((i : Int) + p) % s.tasks.length := wrap_in _ (by omega) (by omega)
    have qz : ¬ (s.tasks.length : Int) = 0 := by omega
    have hne : ¬ s.tasks = [] := by intro e; rw [e] at hil; simp at hil
    have pd := plain_dang (m := 4) (smT_plain s p i)
    have po := plainOwn (smT_plain s p i)
    have hlb := smT_len s p i (by omega)
    have hA := smA_len s p i (by omega)
    have p1 := put3 (smA s p i) ((s.tasks.drop (i + 1)).flatMap Tk.c) (vs s.tasks[i].name) (vi s.tasks[i].period) (vi s.tasks[i].deadline) (vi s.tasks[i].prio) (vi s.tasks[i].cluster) (slP s.tasks[i].parts) (vi (1 + ((i : Int) + p) % s.tasks.length)) i hA
    have p2 := put4 (smA s p i) ((s.tasks.drop (i + 1)).flatMap Tk.c) (vs s.tasks[i].name) (vi s.tasks[i].period) (vi s.tasks[i].deadline) (vi (1 + ((i : Int) + p) % s.tasks.length)) (vi s.tasks[i].cluster) (slP s.tasks[i].parts) (vi 0) i hA
    rw [← smT_next s p i hil] at p2
    rw [← smT_at s p i hil] at p1
    generalize smA s p i ++ (vs s.tasks[i].name :: vi s.tasks[i].period :: vi s.tasks[i].deadline :: vi (1 + ((i : Int) + p) % s.tasks.length) :: vi s.tasks[i].cluster :: slP s.tasks[i].parts :: (s.tasks.drop (i + 1)).flatMap Tk.c) = M at p1 p2
    have hlM : M.length = s.tasks.length * 6 := by rw [← p1]; simp only [List.length_append, List.length_cons, List.length_take, List.length_drop, hlb]; omega
    have hB1 : i * 6 + 3 + 1 ≤ s.tasks.length * 6 := by omega
    have hB2 : i * 6 + 4 + 1 ≤ s.tasks.length * 6 := by omega
    obtain ⟨e2, k1, k2⟩ := ih (i + 1) (put 9 (vi ((i : Int) + 1)) (put 2 (vu8 p) (put 3 (.ptr 0 0) (put 7 (.ptr 1 0) emp)))) (by omega) (by simp [put_at]) (by simp [put_at]) (by simp [put_at]) (by simp [put_at])
    refine ⟨e2, ?_, k2⟩
    rw [← k1]
    refine (go9_2 _ _).trans ?_
    generalize smT s p (i + 1) = T2 at *
    generalize smT s p i = T1 at *
    generalize hv : 1 + ((i : Int) + p) % s.tasks.length = v at *
    simp [B9_2, -Int.not_lt, -Int.not_le, Option.bind_assoc, eL_seq, eL_reg, eL_dreg, clr_nil, clr_cons, neOk_nil, neOk_cons, neK_ptr, eL_ret, eL_skip, eL_exit, eL_scope, eL_cond, eL_block, gJ_nil, gJ_n, gJ_g, ob_ite, ob_none, ob_some, om_some, om_none, om_ite, seqG_nor, seqG_ex, seqG_ret, blkK_nor, blkK_ex, blkK_ret, resK_nor, resK_ret, condK_vb, runG_some, runG_none, puts_nil, puts_cons, gdOf_some, guardX_t, guardX_f, guardX_u, guardX_ite, gd_ite, gd_ite', gd_ite2, gd_ite2', mrg_no, mrg_yes, mrg_ite, mrg_ite', ite_vb, ite_vi, ↓evI_call, ↓evI_calli, ↓evI_callv, ↓evI_mxn, fzL_nil, fzL_cons, nmL_nil, nmL_cons, mpL_nil, mpL_cons, anyB_nil, anyB_cons, callvK_fn, mxnK_cons, evI, eqz_self, evBin_eql, evBin_neq, initFrom, putO, put_at, O.ev, evBin_add, evBin_sub, evBin_mul, evBin_lss, evBin_leq, evBin_gtr, evBin_geq, evBin_quo, evBin_rem, evBin_shr, evBin_shl, evBin_and, evBin_or, evBin_xor, evBin_seql, evBin_sneq, evBin_sadd, evUn, A.cp, A.cp1, A.own, A.norm, A.norm1, cst, cst1, takeU, resultOf, resVal, A.isR, A.isC, A.isV, A.cells, Value.oneCell', frz, frzR, frzC, A.hasB, A.scal, A.isVal, optInt, okCell, fillA, capsOf, loopIn, loopIn0, keepL, emp, A.dang, A.dangC, smB, St.c, slI, slT, h2, h3, h7, h9, pd, po, pdC, poC, hil, hi', hw, hw2, hw3, kp, kr, hv, qz, hne, hlb, hlM, hB1, hB2, p1, p2, -List.all_eq_true, -List.map_map]
    exact loop_env (by simp [put_at])
/-! ### the walk -/
theorem fs6 (s : St) (hs : Sm s) (g : Good s) (cs : List Int) (hcl : cs.length = s.cores.length) (p : Int) (g' : Good (chgS s cs p)) (m : Nat) (hm : m < s.tasks.length) (C T : List A) (hC : C = cs.map vi) (hT : T = (chgS s cs p).tasks.flatMap Tk.c) :
    ∀ d i (e : Env), i + d = s.tasks[m].parts.length → (e 3 = .ptr 0 0 ∧ e 7 = .ptr 1 0 ∧ e 10 = vi m ∧ e 11 = vi i) → ∃ zz, evL tab0 ext0 0 L9_6 (e, smB s C T) = some zz ∧ FQ (fun _ => false) (smB s C T) 6 (fun _ _ => True) (fun e => e 3 = .ptr 0 0 ∧ e 7 = .ptr 1 0 ∧ e 10 = vi m) i d zz := by
  have hp := hs.parts _ (List.getElem_mem hm)
  have plC : C.all A.plain = true := by rw [hC]; exact plain_vi cs
  have plT : T.all A.plain = true := by rw [hT]; exact plain_tk _
  have pdC := plain_dang (m := 4) plC
  have poC := plainOwn plC
  have pdT := plain_dang (m := 4) plT
  have poT := plainOwn plT
  have lC : C.length = s.cores.length := by rw [hC, List.length_map, hcl]
  have lT : T.length = s.tasks.length * 6 := by rw [hT, len_tk, chgS_len]
  have hm' : (m : Int) < s.tasks.length := by omega
  have hd := drop_tk s.tasks m hm
  simp only [Tk.c, slP] at hd
  refine fq_loop (St := fun i e => e 3 = .ptr 0 0 ∧ e 7 = .ptr 1 0 ∧ e 10 = vi m ∧ e 11 = vi i) _ _ _ _ _ ?_ ?_
  · rintro e ⟨g0, g1, g2, g3⟩
    have x1 := 0
    exact ⟨_, (go9_6 _ _).trans (by simp [B9_6, -Int.not_lt, -Int.not_le, Option.bind_assoc, eL_seq, eL_reg, eL_dreg, clr_nil, clr_cons, neOk_nil, neOk_cons, neK_ptr, eL_ret, eL_skip, eL_exit, eL_scope, eL_cond, eL_block, gJ_nil, gJ_n, gJ_g, ob_ite, ob_none, ob_some, om_some, om_none, om_ite, seqG_nor, seqG_ex, seqG_ret, blkK_nor, blkK_ex, blkK_ret, resK_nor, resK_ret, condK_vb, runG_some, runG_none, puts_nil, puts_cons, gdOf_some, guardX_t, guardX_f, guardX_u, guardX_ite, gd_ite, gd_ite', gd_ite2, gd_ite2', mrg_no, mrg_yes, mrg_ite, mrg_ite', ite_vb, ite_vi, ↓evI_call, ↓evI_calli, ↓evI_callv, ↓evI_mxn, fzL_nil, fzL_cons, nmL_nil, nmL_cons, mpL_nil, mpL_cons, anyB_nil, anyB_cons, callvK_fn, mxnK_cons, evI, eqz_self, evBin_eql, evBin_neq, initFrom, putO, put_at, O.ev, evBin_add, evBin_sub, evBin_mul, evBin_lss, evBin_leq, evBin_gtr, evBin_geq, evBin_quo, evBin_rem, evBin_shr, evBin_shl, evBin_and, evBin_or, evBin_xor, evBin_seql, evBin_sneq, evBin_sadd, evUn, A.cp, A.cp1, A.own, A.norm, A.norm1, cst, cst1, takeU, resultOf, resVal, A.isR, A.isC, A.isV, A.cells, Value.oneCell', frz, frzR, frzC, A.hasB, A.scal, A.isVal, optInt, okCell, fillA, capsOf, loopIn, loopIn0, keepL, emp, A.dang, A.dangC, g0, g1, g2, g3, smB, slI, slT, slP, St.c, Tk.c, pdC, poC, pdT, poT, hm, hm', hd, -List.all_eq_true, -List.map_map]; rfl), by simp [put_at, g0, g1, g2]⟩
  · rintro i e hi ⟨g0, g1, g2, g3⟩
    rw [go9_6]
    have hi' : (i : Int) < (s.tasks[m].parts.length : Nat) := by omega
    have hw : IntKind.wrap .i64 ((i : Int) + 1) = (i : Int) + 1 := wrap_in _ (by omega) (by omega)
    have h3 := pure_ansO (k := false) (fair_is s hs m i)
    have h4 := pure_ansO (k := false) (fair_is (chgS s cs p) (chg_sm g g' hs) m i)
    rw [chg_fair g g'] at h4
    have hcells : St.c (chgS s cs p) = [vi s.proto, .sl C s.cores.length 0, slI s.homes, .sl T s.tasks.length 0] := by
      rw [hC, hT, ← hcl]
      have e : St.c (chgS s cs p) = [vi s.proto, .sl (cs.map vi) cs.length 0, slI s.homes, .sl ((chgS s cs p).tasks.flatMap Tk.c) (chgS s cs p).tasks.length 0] := rfl
      rw [e, chgS_len]
    rw [hcells] at h4
    have pf1 : ∀ bx d, (C.take s.cores.length).mapM (frzC bx d) = some C := fun bx d => by rw [List.take_of_length_le (by omega)]; exact plain_mapM plC
    have pf2 : ∀ bx d, (T.take (s.tasks.length * 6)).mapM (frzC bx d) = some T := fun bx d => by rw [List.take_of_length_le (by omega)]; exact plain_mapM plT
    generalize fairS s m i = r at h3 h4
    simp only [St.c, slI, slT] at h3 h4
    simp +contextual (maxSteps := 400000) [B9_6, -Int.not_lt, -Int.not_le, Option.bind_assoc, eL_seq, eL_reg, eL_dreg, clr_nil, clr_cons, neOk_nil, neOk_cons, neK_ptr, eL_ret, eL_skip, eL_exit, eL_scope, eL_cond, eL_block, gJ_nil, gJ_n, gJ_g, ob_ite, ob_none, ob_some, om_some, om_none, om_ite, seqG_nor, seqG_ex, seqG_ret, blkK_nor, blkK_ex, blkK_ret, resK_nor, resK_ret, condK_vb, runG_some, runG_none, puts_nil, puts_cons, gdOf_some, guardX_t, guardX_f, guardX_u, guardX_ite, gd_ite, gd_ite', gd_ite2, gd_ite2', mrg_no, mrg_yes, mrg_ite, mrg_ite', ite_vb, ite_vi, ↓evI_call, ↓evI_calli, ↓evI_callv, ↓evI_mxn, fzL_nil, fzL_cons, nmL_nil, nmL_cons, mpL_nil, mpL_cons, anyB_nil, anyB_cons, callvK_fn, mxnK_cons, evI, eqz_self, evBin_eql, evBin_neq, initFrom, putO, put_at, O.ev, evBin_add, evBin_sub, evBin_mul, evBin_lss, evBin_leq, evBin_gtr, evBin_geq, evBin_quo, evBin_rem, evBin_shr, evBin_shl, evBin_and, evBin_or, evBin_xor, evBin_seql, evBin_sneq, evBin_sadd, evUn, A.cp, A.cp1, A.own, A.norm, A.norm1, cst, cst1, takeU, resultOf, resVal, A.isR, A.isC, A.isV, A.cells, Value.oneCell', frz, frzR, frzC, A.hasB, A.scal, A.isVal, optInt, okCell, fillA, capsOf, loopIn, loopIn0, keepL, emp, A.dang, A.dangC, g0, g1, g2, g3, hi, hi', smB, slI, slT, slP, St.c, Tk.c, pdC, poC, pdT, poT, pf1, pf2, lC, lT, hm, hm', hd, hw, h3, h4, eqz_self, -List.all_eq_true, -List.map_map]
    exact Step.go rfl (by simp [put_at])
theorem fs4 (s : St) (hs : Sm s) (g : Good s) (cs : List Int) (hcl : cs.length = s.cores.length) (p : Int) (g' : Good (chgS s cs p)) (C T : List A) (hC : C = cs.map vi) (hT : T = (chgS s cs p).tasks.flatMap Tk.c) :
    ∀ d i (e : Env), i + d = s.tasks.length → (e 3 = .ptr 0 0 ∧ e 7 = .ptr 1 0 ∧ e 10 = vi i) → ∃ zz, evL tab0 ext0 0 L9_4 (e, smB s C T) = some zz ∧ FQ (fun _ => false) (smB s C T) 4 (fun _ _ => True) (fun _ => True) i d zz := by
  have hc := hs.tasks
  have plC : C.all A.plain = true := by rw [hC]; exact plain_vi cs
  have plT : T.all A.plain = true := by rw [hT]; exact plain_tk _
  have pdC := plain_dang (m := 4) plC
  have poC := plainOwn plC
  have pdT := plain_dang (m := 4) plT
  have poT := plainOwn plT
  refine fq_loop (St := fun i e => e 3 = .ptr 0 0 ∧ e 7 = .ptr 1 0 ∧ e 10 = vi i) _ _ _ _ _ ?_ ?_
  · rintro e ⟨g0, g1, g2⟩
    have x1 := 0
    exact ⟨_, (go9_4 _ _).trans (by simp [B9_4, -Int.not_lt, -Int.not_le, Option.bind_assoc, eL_seq, eL_reg, eL_dreg, clr_nil, clr_cons, neOk_nil, neOk_cons, neK_ptr, eL_ret, eL_skip, eL_exit, eL_scope, eL_cond, eL_block, gJ_nil, gJ_n, gJ_g, ob_ite, ob_none, ob_some, om_some, om_none, om_ite, seqG_nor, seqG_ex, seqG_ret, blkK_nor, blkK_ex, blkK_ret, resK_nor, resK_ret, condK_vb, runG_some, runG_none, puts_nil, puts_cons, gdOf_some, guardX_t, guardX_f, guardX_u, guardX_ite, gd_ite, gd_ite', gd_ite2, gd_ite2', mrg_no, mrg_yes, mrg_ite, mrg_ite', ite_vb, ite_vi, ↓evI_call, ↓evI_calli, ↓evI_callv, ↓evI_mxn, fzL_nil, fzL_cons, nmL_nil, nmL_cons, mpL_nil, mpL_cons, anyB_nil, anyB_cons, callvK_fn, mxnK_cons, evI, eqz_self, evBin_eql, evBin_neq, initFrom, putO, put_at, O.ev, evBin_add, evBin_sub, evBin_mul, evBin_lss, evBin_leq, evBin_gtr, evBin_geq, evBin_quo, evBin_rem, evBin_shr, evBin_shl, evBin_and, evBin_or, evBin_xor, evBin_seql, evBin_sneq, evBin_sadd, evUn, A.cp, A.cp1, A.own, A.norm, A.norm1, cst, cst1, takeU, resultOf, resVal, A.isR, A.isC, A.isV, A.cells, Value.oneCell', frz, frzR, frzC, A.hasB, A.scal, A.isVal, optInt, okCell, fillA, capsOf, loopIn, loopIn0, keepL, emp, A.dang, A.dangC, g0, g1, g2, smB, slI, slT, slP, St.c, pdC, poC, pdT, poT, -List.all_eq_true, -List.map_map]; rfl), by trivial⟩
  · rintro i e hi ⟨g0, g1, g2⟩
    rw [go9_4]
    have hi' : (i : Int) < (s.tasks.length : Nat) := by omega
    have hw : IntKind.wrap .i64 ((i : Int) + 1) = (i : Int) + 1 := wrap_in _ (by omega) (by omega)
    have l2 := fs6 s hs g cs hcl p g' i hi C T hC hT s.tasks[i].parts.length 0
    simp only [smB, St.c, slI, slT] at l2
    simp +contextual (maxSteps := 400000) [B9_4, -Int.not_lt, -Int.not_le, Option.bind_assoc, eL_seq, eL_reg, eL_dreg, clr_nil, clr_cons, neOk_nil, neOk_cons, neK_ptr, eL_ret, eL_skip, eL_exit, eL_scope, eL_cond, eL_block, gJ_nil, gJ_n, gJ_g, ob_ite, ob_none, ob_some, om_some, om_none, om_ite, seqG_nor, seqG_ex, seqG_ret, blkK_nor, blkK_ex, blkK_ret, resK_nor, resK_ret, condK_vb, runG_some, runG_none, puts_nil, puts_cons, gdOf_some, guardX_t, guardX_f, guardX_u, guardX_ite, gd_ite, gd_ite', gd_ite2, gd_ite2', mrg_no, mrg_yes, mrg_ite, mrg_ite', ite_vb, ite_vi, ↓evI_call, ↓evI_calli, ↓evI_callv, ↓evI_mxn, fzL_nil, fzL_cons, nmL_nil, nmL_cons, mpL_nil, mpL_cons, anyB_nil, anyB_cons, callvK_fn, mxnK_cons, evI, eqz_self, evBin_eql, evBin_neq, initFrom, putO, put_at, O.ev, evBin_add, evBin_sub, evBin_mul, evBin_lss, evBin_leq, evBin_gtr, evBin_geq, evBin_quo, evBin_rem, evBin_shr, evBin_shl, evBin_and, evBin_or, evBin_xor, evBin_seql, evBin_sneq, evBin_sadd, evUn, A.cp, A.cp1, A.own, A.norm, A.norm1, cst, cst1, takeU, resultOf, resVal, A.isR, A.isC, A.isV, A.cells, Value.oneCell', frz, frzR, frzC, A.hasB, A.scal, A.isVal, optInt, okCell, fillA, capsOf, loopIn, loopIn0, keepL, emp, A.dang, A.dangC, g0, g1, g2, hi, hi', smB, slI, slT, slP, St.c, pdC, poC, pdT, poT, hw, -List.all_eq_true, -List.map_map]
    refine behindP (P := fun r' => Step _ _ _ _ _ r') (l2 _ (by omega) (by simp [put_at])) ?_
    intro z h
    obtain ⟨e', rfl, hx⟩ := h.never; clear h; have h := hx
    obtain ⟨j1, j2, j3⟩ := h
    simp [-Int.not_lt, -Int.not_le, Option.bind_assoc, eL_seq, eL_reg, eL_dreg, clr_nil, clr_cons, neOk_nil, neOk_cons, neK_ptr, eL_ret, eL_skip, eL_exit, eL_scope, eL_cond, eL_block, gJ_nil, gJ_n, gJ_g, ob_ite, ob_none, ob_some, om_some, om_none, om_ite, seqG_nor, seqG_ex, seqG_ret, blkK_nor, blkK_ex, blkK_ret, resK_nor, resK_ret, condK_vb, runG_some, runG_none, puts_nil, puts_cons, gdOf_some, guardX_t, guardX_f, guardX_u, guardX_ite, gd_ite, gd_ite', gd_ite2, gd_ite2', mrg_no, mrg_yes, mrg_ite, mrg_ite', ite_vb, ite_vi, ↓evI_call, ↓evI_calli, ↓evI_callv, ↓evI_mxn, fzL_nil, fzL_cons, nmL_nil, nmL_cons, mpL_nil, mpL_cons, anyB_nil, anyB_cons, callvK_fn, mxnK_cons, evI, eqz_self, evBin_eql, evBin_neq, initFrom, putO, put_at, O.ev, evBin_add, evBin_sub, evBin_mul, evBin_lss, evBin_leq, evBin_gtr, evBin_geq, evBin_quo, evBin_rem, evBin_shr, evBin_shl, evBin_and, evBin_or, evBin_xor, evBin_seql, evBin_sneq, evBin_sadd, evUn, A.cp, A.cp1, A.own, A.norm, A.norm1, cst, cst1, takeU, resultOf, resVal, A.isR, A.isC, A.isV, A.cells, Value.oneCell', frz, frzR, frzC, A.hasB, A.scal, A.isVal, optInt, okCell, fillA, capsOf, j1, j2, j3, hw]
    exact Step.go rfl (by simp [put_at, j1, j2, j3])
theorem exP {x : Option (Out × Env × Bx)} {o : Out} {bx : Bx} {Q : Env → Prop} (h : ∃ e', x = some (o, e', bx) ∧ Q e') : ∃ a, x = some a ∧ ∃ e', a = (o, e', bx) ∧ Q e' := by
  obtain ⟨e', h1, h2⟩ := h
  exact ⟨_, h1, e', rfl, h2⟩
theorem fairSame_is (s : St) (c p : Int) (_ : s.ok) (hc8 : (Lit.int .u8 c).wf = true) (hp8 : (Lit.int .u8 p).wf = true) : Ans (vb true) [] (callL tab0 ext0 9 [.agg (St.c s), vu8 c, vu8 p] []) := by
  have hc := u8_of hc8
  have hp := u8_of hp8
  rw [callL_tab _ _ rfl tab9 rfl]
  have h1 := pure_vb (k := false) known_24
  have h2 := pure_vb (k := false) (few_is_25 s)
  rcases (Bool.eq_false_or_eq_true (few8 s)).symm with hs | hs
  · rw [hs] at h2
    simp only [St.c, slI, slT] at h2
    simp [C9, -Int.not_lt, -Int.not_le, Option.bind_assoc, eL_seq, eL_reg, eL_dreg, clr_nil, clr_cons, neOk_nil, neOk_cons, neK_ptr, eL_ret, eL_skip, eL_exit, eL_scope, eL_cond, eL_block, gJ_nil, gJ_n, gJ_g, ob_ite, ob_none, ob_some, om_some, om_none, om_ite, seqG_nor, seqG_ex, seqG_ret, blkK_nor, blkK_ex, blkK_ret, resK_nor, resK_ret, condK_vb, runG_some, runG_none, puts_nil, puts_cons, gdOf_some, guardX_t, guardX_f, guardX_u, guardX_ite, gd_ite, gd_ite', gd_ite2, gd_ite2', mrg_no, mrg_yes, mrg_ite, mrg_ite', ite_vb, ite_vi, ↓evI_call, ↓evI_calli, ↓evI_callv, ↓evI_mxn, fzL_nil, fzL_cons, nmL_nil, nmL_cons, mpL_nil, mpL_cons, anyB_nil, anyB_cons, callvK_fn, mxnK_cons, evI, eqz_self, evBin_eql, evBin_neq, initFrom, putO, put_at, O.ev, evBin_add, evBin_sub, evBin_mul, evBin_lss, evBin_leq, evBin_gtr, evBin_geq, evBin_quo, evBin_rem, evBin_shr, evBin_shl, evBin_and, evBin_or, evBin_xor, evBin_seql, evBin_sneq, evBin_sadd, evUn, A.cp, A.cp1, A.own, A.norm, A.norm1, cst, cst1, takeU, resultOf, resVal, A.isR, A.isC, A.isV, A.cells, Value.oneCell', frz, frzR, frzC, A.hasB, A.scal, A.isVal, optInt, okCell, fillA, capsOf, St.c, slI, slT, h1, h2]
    exact ⟨_, rfl⟩
  rw [hs] at h2
  have hs := few8_sm s hs
  have h3 := pure_vi (k := false) (ahead_is s hs 0)
  rcases (Bool.eq_false_or_eq_true (eqz (aheadS s 0) 0)).symm with hz | hz
  rotate_left
  · generalize aheadS s 0 = a at h3 hz
    simp only [St.c, slI, slT] at h2 h3
    simp [C9, -Int.not_lt, -Int.not_le, Option.bind_assoc, eL_seq, eL_reg, eL_dreg, clr_nil, clr_cons, neOk_nil, neOk_cons, neK_ptr, eL_ret, eL_skip, eL_exit, eL_scope, eL_cond, eL_block, gJ_nil, gJ_n, gJ_g, ob_ite, ob_none, ob_some, om_some, om_none, om_ite, seqG_nor, seqG_ex, seqG_ret, blkK_nor, blkK_ex, blkK_ret, resK_nor, resK_ret, condK_vb, runG_some, runG_none, puts_nil, puts_cons, gdOf_some, guardX_t, guardX_f, guardX_u, guardX_ite, gd_ite, gd_ite', gd_ite2, gd_ite2', mrg_no, mrg_yes, mrg_ite, mrg_ite', ite_vb, ite_vi, ↓evI_call, ↓evI_calli, ↓evI_callv, ↓evI_mxn, fzL_nil, fzL_cons, nmL_nil, nmL_cons, mpL_nil, mpL_cons, anyB_nil, anyB_cons, callvK_fn, mxnK_cons, evI, eqz_self, evBin_eql, evBin_neq, initFrom, putO, put_at, O.ev, evBin_add, evBin_sub, evBin_mul, evBin_lss, evBin_leq, evBin_gtr, evBin_geq, evBin_quo, evBin_rem, evBin_shr, evBin_shl, evBin_and, evBin_or, evBin_xor, evBin_seql, evBin_sneq, evBin_sadd, evUn, A.cp, A.cp1, A.own, A.norm, A.norm1, cst, cst1, takeU, resultOf, resVal, A.isR, A.isC, A.isV, A.cells, Value.oneCell', frz, frzR, frzC, A.hasB, A.scal, A.isVal, optInt, okCell, fillA, capsOf, St.c, slI, slT, h1, h2, h3, hz]
    exact ⟨_, rfl⟩
  have ht : thereS s 0 = true := by
    rcases (Bool.eq_false_or_eq_true (thereS s 0)).symm with ht | ht
    · unfold aheadS at hz; rw [ht] at hz; simp [eqz] at hz
    · exact ht
  obtain ⟨g, _, _⟩ := (thereS_iff s 0).1 ht
  have gc := g.cores
  have gt := g.tasks
  obtain ⟨cs, hcs⟩ : ∃ cs, cs = smC s (c % 3 + 1) s.cores.length := ⟨_, rfl⟩
  have hcl : cs.length = s.cores.length := by rw [hcs, smC_len _ _ _ (Nat.le_refl _)]
  have hci : ∀ x ∈ cs, 1 ≤ x ∧ x ≤ 3 := by
    intro x hx
    rw [hcs] at hx
    unfold smC at hx
    rw [List.drop_length, List.append_nil] at hx
    have := (List.mem_replicate.1 hx).2
    omega
  have g' := chg_good g hcl hci p
  have l0 := fs_loop0 s c p hc hs s.cores.length 0
  have l2 := fs_loop2 s p hp hs (cs.map vi) (plain_vi cs) s.tasks.length 0
  have l4 := fs4 s hs g cs hcl p g' (cs.map vi) (smT s p s.tasks.length) rfl (smT_end s cs p) s.tasks.length 0
  rw [← hcs] at l0
  have e0 : (smC s (c % 3 + 1) 0).map vi = s.cores.map vi := by simp [smC]
  have e2 : smT s p 0 = s.tasks.flatMap Tk.c := by simp [smT, smA, chgL]
  rw [e0] at l0
  rw [e2] at l2
  have pn := plain_norm (plain_vi s.cores)
  have pnT := plain_norm (plain_tk s.tasks)
  have plC := plain_vi cs
  have hsz : s.cores.length * 8 ≤ 70368744177664 := by omega
  have hszT : s.tasks.length * 72 ≤ 70368744177664 := by omega
  have hlm : (s.cores.map vi).length = s.cores.length := by simp
  have hlT := len_tk s.tasks
  have hne : ¬ s.cores = [] := by intro e; rw [e] at gc; simp at gc
  have hneT : ¬ s.tasks = [] := by intro e; rw [e] at gt; simp at gt
  have hpos : 0 < s.cores.length := by omega
  have hposT : 0 < s.tasks.length := by omega
  generalize aheadS s 0 = a at h3 hz
  generalize smT s p s.tasks.length = T2 at l2 l4
  generalize cs.map vi = C2 at l0 l2 l4 plC
  simp only [smB, St.c, slI, slT] at h2 h3 l0 l2 l4 ⊢
  generalize s.cores.map vi = C1 at *
  generalize s.tasks.flatMap Tk.c = T1 at *
  simp [C9, -Int.not_lt, -Int.not_le, Option.bind_assoc, eL_seq, eL_reg, eL_dreg, clr_nil, clr_cons, neOk_nil, neOk_cons, neK_ptr, eL_ret, eL_skip, eL_exit, eL_scope, eL_cond, eL_block, gJ_nil, gJ_n, gJ_g, ob_ite, ob_none, ob_some, om_some, om_none, om_ite, seqG_nor, seqG_ex, seqG_ret, blkK_nor, blkK_ex, blkK_ret, resK_nor, resK_ret, condK_vb, runG_some, runG_none, puts_nil, puts_cons, gdOf_some, guardX_t, guardX_f, guardX_u, guardX_ite, gd_ite, gd_ite', gd_ite2, gd_ite2', mrg_no, mrg_yes, mrg_ite, mrg_ite', ite_vb, ite_vi, ↓evI_call, ↓evI_calli, ↓evI_callv, ↓evI_mxn, fzL_nil, fzL_cons, nmL_nil, nmL_cons, mpL_nil, mpL_cons, anyB_nil, anyB_cons, callvK_fn, mxnK_cons, evI, eqz_self, evBin_eql, evBin_neq, initFrom, putO, put_at, O.ev, evBin_add, evBin_sub, evBin_mul, evBin_lss, evBin_leq, evBin_gtr, evBin_geq, evBin_quo, evBin_rem, evBin_shr, evBin_shl, evBin_and, evBin_or, evBin_xor, evBin_seql, evBin_sneq, evBin_sadd, evUn, A.cp, A.cp1, A.own, A.norm, A.norm1, cst, cst1, takeU, resultOf, resVal, A.isR, A.isC, A.isV, A.cells, Value.oneCell', frz, frzR, frzC, A.hasB, A.scal, A.isVal, optInt, okCell, fillA, capsOf, h1, h2, h3, hz, asList, pn, pnT, hsz, hszT, hlm, hlT, hpos, hposT, hne, hneT]
  refine behindP (P := fun r' => Ans _ [] r') (exP (l0 _ (by omega) (by simp [put_at]) (by simp [put_at]) (by simp [put_at]) (by simp [put_at]) (by simp [put_at]))) ?_
  rintro _ ⟨e1, rfl, k1, k2, k3⟩
  simp [-Int.not_lt, -Int.not_le, Option.bind_assoc, eL_seq, eL_reg, eL_dreg, clr_nil, clr_cons, neOk_nil, neOk_cons, neK_ptr, eL_ret, eL_skip, eL_exit, eL_scope, eL_cond, eL_block, gJ_nil, gJ_n, gJ_g, ob_ite, ob_none, ob_some, om_some, om_none, om_ite, seqG_nor, seqG_ex, seqG_ret, blkK_nor, blkK_ex, blkK_ret, resK_nor, resK_ret, condK_vb, runG_some, runG_none, puts_nil, puts_cons, gdOf_some, guardX_t, guardX_f, guardX_u, guardX_ite, gd_ite, gd_ite', gd_ite2, gd_ite2', mrg_no, mrg_yes, mrg_ite, mrg_ite', ite_vb, ite_vi, ↓evI_call, ↓evI_calli, ↓evI_callv, ↓evI_mxn, fzL_nil, fzL_cons, nmL_nil, nmL_cons, mpL_nil, mpL_cons, anyB_nil, anyB_cons, callvK_fn, mxnK_cons, evI, eqz_self, evBin_eql, evBin_neq, initFrom, putO, put_at, O.ev, evBin_add, evBin_sub, evBin_mul, evBin_lss, evBin_leq, evBin_gtr, evBin_geq, evBin_quo, evBin_rem, evBin_shr, evBin_shl, evBin_and, evBin_or, evBin_xor, evBin_seql, evBin_sneq, evBin_sadd, evUn, A.cp, A.cp1, A.own, A.norm, A.norm1, cst, cst1, takeU, resultOf, resVal, A.isR, A.isC, A.isV, A.cells, Value.oneCell', frz, frzR, frzC, A.hasB, A.scal, A.isVal, optInt, okCell, fillA, capsOf, k1, k2, k3, asList, pn, pnT, hsz, hszT, hlm, hlT, hpos, hposT, hne, hneT]
  refine behindP (P := fun r' => Ans _ [] r') (exP (l2 _ (by omega) (by simp [put_at, k1, k2, k3]) (by simp [put_at, k1, k2, k3]) (by simp [put_at, k1, k2, k3]) (by simp [put_at, k1, k2, k3]))) ?_
  rintro _ ⟨e3, rfl, j1, j2⟩
  simp [-Int.not_lt, -Int.not_le, Option.bind_assoc, eL_seq, eL_reg, eL_dreg, clr_nil, clr_cons, neOk_nil, neOk_cons, neK_ptr, eL_ret, eL_skip, eL_exit, eL_scope, eL_cond, eL_block, gJ_nil, gJ_n, gJ_g, ob_ite, ob_none, ob_some, om_some, om_none, om_ite, seqG_nor, seqG_ex, seqG_ret, blkK_nor, blkK_ex, blkK_ret, resK_nor, resK_ret, condK_vb, runG_some, runG_none, puts_nil, puts_cons, gdOf_some, guardX_t, guardX_f, guardX_u, guardX_ite, gd_ite, gd_ite', gd_ite2, gd_ite2', mrg_no, mrg_yes, mrg_ite, mrg_ite', ite_vb, ite_vi, ↓evI_call, ↓evI_calli, ↓evI_callv, ↓evI_mxn, fzL_nil, fzL_cons, nmL_nil, nmL_cons, mpL_nil, mpL_cons, anyB_nil, anyB_cons, callvK_fn, mxnK_cons, evI, eqz_self, evBin_eql, evBin_neq, initFrom, putO, put_at, O.ev, evBin_add, evBin_sub, evBin_mul, evBin_lss, evBin_leq, evBin_gtr, evBin_geq, evBin_quo, evBin_rem, evBin_shr, evBin_shl, evBin_and, evBin_or, evBin_xor, evBin_seql, evBin_sneq, evBin_sadd, evUn, A.cp, A.cp1, A.own, A.norm, A.norm1, cst, cst1, takeU, resultOf, resVal, A.isR, A.isC, A.isV, A.cells, Value.oneCell', frz, frzR, frzC, A.hasB, A.scal, A.isVal, optInt, okCell, fillA, capsOf, j1, j2]
  refine behindP (P := fun r' => Ans _ [] r') (l4 _ (by omega) (by simp [put_at, j1, j2])) ?_
  intro z h
  obtain ⟨e', rfl, hx⟩ := h.never; clear h; have h := hx
  simp [-Int.not_lt, -Int.not_le, Option.bind_assoc, eL_seq, eL_reg, eL_dreg, clr_nil, clr_cons, neOk_nil, neOk_cons, neK_ptr, eL_ret, eL_skip, eL_exit, eL_scope, eL_cond, eL_block, gJ_nil, gJ_n, gJ_g, ob_ite, ob_none, ob_some, om_some, om_none, om_ite, seqG_nor, seqG_ex, seqG_ret, blkK_nor, blkK_ex, blkK_ret, resK_nor, resK_ret, condK_vb, runG_some, runG_none, puts_nil, puts_cons, gdOf_some, guardX_t, guardX_f, guardX_u, guardX_ite, gd_ite, gd_ite', gd_ite2, gd_ite2', mrg_no, mrg_yes, mrg_ite, mrg_ite', ite_vb, ite_vi, ↓evI_call, ↓evI_calli, ↓evI_callv, ↓evI_mxn, fzL_nil, fzL_cons, nmL_nil, nmL_cons, mpL_nil, mpL_cons, anyB_nil, anyB_cons, callvK_fn, mxnK_cons, evI, eqz_self, evBin_eql, evBin_neq, initFrom, putO, put_at, O.ev, evBin_add, evBin_sub, evBin_mul, evBin_lss, evBin_leq, evBin_gtr, evBin_geq, evBin_quo, evBin_rem, evBin_shr, evBin_shl, evBin_and, evBin_or, evBin_xor, evBin_seql, evBin_sneq, evBin_sadd, evUn, A.cp, A.cp1, A.own, A.norm, A.norm1, cst, cst1, takeU, resultOf, resVal, A.isR, A.isC, A.isV, A.cells, Value.oneCell', frz, frzR, frzC, A.hasB, A.scal, A.isVal, optInt, okCell, fillA, capsOf]
  exact ⟨_, rfl⟩
end Go.Proofs.YtiocdaeinahcoaaEv
