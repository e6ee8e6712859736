/- swingbridgelaw8.TaskLimits. -/
import Derived.Test.YtkohggddaheefaaKnown
import Derived.Test.YtkohggddaheefaaCheck
set_option linter.unusedSimpArgs false
set_option linter.unusedVariables false
namespace Go.Proofs.YtkohggddaheefaaEv
open Go
set_option maxHeartbeats 2000000
set_option maxRecDepth 100000
def bxL (a b c : A) : Bx := [[vi 3, a, b, c]]
def nl : A := .sl [] 0 1
def n2l : A := .sl [] 0 2
def envL (t m c k r : Int) (x y : A) (ix : Nat) : Env := puts [(11, vi t), (12, vi m), (13, vi c), (14, vi k), (15, vi r), (16, .ptr 0 0), (19, x), (ix, y)] emp
def keptL (a : Out × Env × Bx) := (a.1, a.2.1 11, a.2.1 12, a.2.1 13, a.2.1 14, a.2.1 15, a.2.1 16, a.2.2)
def coresL (c : Nat) (k : Int) : List Int := List.replicate c k
def homesL (c r : Nat) : List Int := (List.range r).map fun (i : Nat) => ((i % c : Nat) : Int)
def partsL (m : Nat) : List Pt := (List.range m).map fun (i : Nat) => ⟨1 + (i % 2 : Nat), 60, 0⟩
def tasksL (c t : Nat) (l : List Pt) : List Tk := (List.range t).map fun (i : Nat) => ⟨⟨#[(97 + i).toUInt8]⟩, 3000, 3000, 1000 - (i : Int), ((i % c : Nat) : Int), l⟩
theorem st0 (t m k r : Int) (c : Nat) (hc : c = 2 ∨ c = 3 ∨ c = 4) :
    ∃ a, evL tab0 ext0 0 L6_0 (envL t m c k r .any (vi 0) 17, bxL nl nl nl) = some a ∧ keptL a = (.ex 0, vi t, vi m, vi c, vi k, vi r, .ptr 0 0, bxL (.sl ((coresL c k).map vi) c 2) n2l n2l) := by
  rcases hc with rfl | rfl | rfl <;> exact loop_run 60 (by kernel_rfl)
theorem st2 (t m k : Int) (x : List A) (xn : Nat) (c r : Nat) (hc : c = 2 ∨ c = 3 ∨ c = 4) (hr : r = 3 ∨ r = 4 ∨ r = 5) :
    ∃ a, evL tab0 ext0 0 L6_2 (envL t m c k r .any (vi 0) 18, bxL (.sl x xn 2) n2l n2l) = some a ∧ keptL a = (.ex 2, vi t, vi m, vi c, vi k, vi r, .ptr 0 0, bxL (.sl x xn 2) (.sl ((homesL c r).map vi) r 2) n2l) := by
  rcases hc with rfl | rfl | rfl <;> rcases hr with rfl | rfl | rfl <;> exact loop_run 60 (by kernel_rfl)
theorem st4 (t c k r : Int) (x y : List A) (xn yn : Nat) (m : Nat) (hm : m = 5 ∨ m = 6 ∨ m = 7) :
    ∃ a, evL tab0 ext0 0 L6_4 (envL t m c k r n2l (vi 0) 20, bxL (.sl x xn 2) (.sl y yn 2) n2l) = some a ∧ (keptL a, a.2.1 19) = ((.ex 4, vi t, vi m, vi c, vi k, vi r, .ptr 0 0, bxL (.sl x xn 2) (.sl y yn 2) n2l), .sl ((partsL m).flatMap Pt.c) m 2) := by
  rcases hm with rfl | rfl | rfl <;> exact loop_run 60 (by kernel_rfl)
theorem st6 (m k r : Int) (x y : List A) (xn yn : Nat) (l : List Pt) (c t : Nat) (hc : c = 2 ∨ c = 3 ∨ c = 4) (ht : t = 5 ∨ t = 6 ∨ t = 7) :
    ∃ a, evL tab0 ext0 0 L6_6 (envL t m c k r (.sl (l.flatMap Pt.c) l.length 2) (vi 0) 21, bxL (.sl x xn 2) (.sl y yn 2) n2l) = some a ∧ keptL a = (.ex 6, vi t, vi m, vi c, vi k, vi r, .ptr 0 0, bxL (.sl x xn 2) (.sl y yn 2) (.sl ((tasksL c t l).flatMap Tk.c) t 2)) := by
  rcases hc with rfl | rfl | rfl <;> rcases ht with rfl | rfl | rfl <;> exact loop_run 60 (by kernel_rfl)
def setL (t m c k r : Nat) : St := ⟨3, coresL c k, homesL c r, tasksL c t (partsL m)⟩
def wantL (t m c k r : Nat) : Bool :=
  if 3 < c ∨ 3 < k ∨ 4 < r then chk (setL t m c k r) == (-1, 16) else if 6 < t then chk (setL t m c k r) == (-1, 11) else if 6 < m then chk (setL t m c k r) == (0, 15) else chk (setL t m c k r) == (-1, 0)
theorem want_all : ([5, 6, 7].all fun t => [5, 6, 7].all fun m => [2, 3, 4].all fun c => [2, 3, 4].all fun k => [3, 4, 5].all fun r => wantL t m c k r) = true := by kernel_rfl
theorem lenC (c : Nat) (k : Int) : (coresL c k).length = c := by simp [coresL]
theorem lenH (c r : Nat) : (homesL c r).length = r := by simp [homesL]
theorem lenP (m : Nat) : (partsL m).length = m := by simp [partsL]
theorem lenT (c t : Nat) (l : List Pt) : (tasksL c t l).length = t := by simp [tasksL]
theorem setL_c (t m c k r : Nat) : St.c (setL t m c k r) = [vi 3, .sl ((coresL c k).map vi) c 0, .sl ((homesL c r).map vi) r 0, .sl ((tasksL c t (partsL m)).flatMap Tk.c) t 0] := by
  simp only [St.c, setL, slI, slT, lenC, lenH, lenT]
theorem setL_fits (t m c k r : Nat) (h : t ≤ 9 ∧ m ≤ 9 ∧ c ≤ 9 ∧ r ≤ 9) : Fits (setL t m c k r) := by
  refine ⟨?_, ?_, ?_, ?_, ?_⟩
  · simp only [setL, lenC]; omega
  · simp only [setL, lenH]; omega
  · simp only [setL, lenT]; omega
  · intro x hx
    simp only [setL, tasksL, List.mem_map] at hx
    obtain ⟨i, _, rfl⟩ := hx
    simp only [lenP]; omega
  · intro x hx
    simp only [setL, tasksL, List.mem_map] at hx
    obtain ⟨i, _, rfl⟩ := hx
    show (1 : Nat) ≤ _
    omega
theorem check_set (t m c k r : Nat) (h : t ≤ 9 ∧ m ≤ 9 ∧ c ≤ 9 ∧ r ≤ 9) :
    pureOf (callL tab0 ext0) false 17 [.agg [vi 3, .sl ((coresL c k).map vi) c 0, .sl ((homesL c r).map vi) r 0, .sl ((tasksL c t (partsL m)).flatMap Tk.c) t 0]] = some (.tup [vi (chk (setL t m c k r)).1, vi (chk (setL t m c k r)).2]) := by
  rw [← setL_c]; exact pure_tup2 (check_is _ (setL_fits t m c k r h))
abbrev vu8 (n : Int) : A := .val (.int .u8 n)
theorem rem3 (n : Int) (a : Int) (h : 0 ≤ n) (ha : 0 ≤ a ∧ a ≤ 9) : ∃ t : Nat, (t : Int) = a + n % 3 ∧ IntKind.wrap .i64 (a + IntKind.wrap .i64 (n.tmod 3)) = (t : Int) := by
  have h1 : n.tmod 3 = n % 3 := Int.tmod_eq_emod_of_nonneg h
  refine ⟨(a + n % 3).toNat, by omega, ?_⟩
  rw [h1, wrap_in (n % 3) (by omega) (by omega), wrap_in _ (by omega) (by omega)]
  omega
theorem limits_is (n m c k r : Int) (hn : 0 ≤ n) (hm : 0 ≤ m) (hc : 0 ≤ c) (hk : 0 ≤ k) (hr : 0 ≤ r) :
    Ans (vb true) [] (callL tab0 ext0 6 [vu8 n, vu8 m, vu8 c, vu8 k, vu8 r] []) := by
  obtain ⟨t', ht, ht'⟩ := rem3 n 5 hn (by omega)
  obtain ⟨m', hm1, hm'⟩ := rem3 m 5 hm (by omega)
  obtain ⟨c', hc1, hc'⟩ := rem3 c 2 hc (by omega)
  obtain ⟨k', hk1, hk'⟩ := rem3 k 2 hk (by omega)
  obtain ⟨r', hr1, hr'⟩ := rem3 r 3 hr (by omega)
  rw [callL_tab _ _ rfl tab6 rfl]
  have h8 := pure_vb (k := false) known8
  simp [C6, Option.bind_assoc, eL_seq, eL_reg, eL_ret, eL_skip, eL_exit, eL_scope, eL_cond, eL_block, gJ_nil, gJ_n, gJ_g, ob_ite, ob_none, ob_some, om_some, om_none, om_ite, seqG_nor, seqG_ex, seqG_ret, blkK_nor, blkK_ex, blkK_ret, resK_nor, resK_ret, condK_vb, runG_some, runG_none, puts_nil, puts_cons, gdOf_some, guardX_t, guardX_f, guardX_u, guardX_ite, gd_ite, gd_ite', gd_ite2, gd_ite2', mrg_no, mrg_yes, mrg_ite, mrg_ite', ite_vb, ite_vi, ↓evI_call, ↓evI_calli, ↓evI_callv, ↓evI_mxn, fzL_nil, fzL_cons, nmL_nil, nmL_cons, mpL_nil, mpL_cons, anyB_nil, anyB_cons, callvK_fn, mxnK_cons, evI, eqz_self, evBin_eql, evBin_neq, initFrom, putO, put_at, O.ev, evBin_add, evBin_sub, evBin_mul, evBin_lss, evBin_leq, evBin_gtr, evBin_geq, evBin_quo, evBin_rem, evBin_shr, evBin_shl, evBin_seql, evBin_sneq, evBin_sadd, evUn, A.cp, A.cp1, A.own, A.norm, A.norm1, cst, cst1, takeU, resultOf, resVal, A.isR, A.isC, A.isV, A.cells, Value.oneCell', frz, frzR, frzC, A.hasB, A.scal, A.isVal, optInt, okCell, fillA, capsOf, h8, ht', hm', hc', hk', hr']
  obtain ⟨⟨o0, e0, b0⟩, ha, hk0⟩ := st0 t' m' k' r' c' (by omega)
  refine behindP (P := fun r => Ans (vb true) [] r) (Q := fun a => a = (o0, e0, b0)) ⟨_, Eq.trans (loop_env (by simp [put_at, envL, puts])) ha, rfl⟩ ?_
  rintro _ rfl
  simp only [keptL, Prod.mk.injEq] at hk0
  obtain ⟨rfl, g11, g12, g13, g14, g15, g16, rfl⟩ := hk0
  simp [Option.bind_assoc, eL_seq, eL_reg, eL_ret, eL_skip, eL_exit, eL_scope, eL_cond, eL_block, gJ_nil, gJ_n, gJ_g, ob_ite, ob_none, ob_some, om_some, om_none, om_ite, seqG_nor, seqG_ex, seqG_ret, blkK_nor, blkK_ex, blkK_ret, resK_nor, resK_ret, condK_vb, runG_some, runG_none, puts_nil, puts_cons, gdOf_some, guardX_t, guardX_f, guardX_u, guardX_ite, gd_ite, gd_ite', gd_ite2, gd_ite2', mrg_no, mrg_yes, mrg_ite, mrg_ite', ite_vb, ite_vi, ↓evI_call, ↓evI_calli, ↓evI_callv, ↓evI_mxn, fzL_nil, fzL_cons, nmL_nil, nmL_cons, mpL_nil, mpL_cons, anyB_nil, anyB_cons, callvK_fn, mxnK_cons, evI, eqz_self, evBin_eql, evBin_neq, initFrom, putO, put_at, O.ev, evBin_add, evBin_sub, evBin_mul, evBin_lss, evBin_leq, evBin_gtr, evBin_geq, evBin_quo, evBin_rem, evBin_shr, evBin_shl, evBin_seql, evBin_sneq, evBin_sadd, evUn, A.cp, A.cp1, A.own, A.norm, A.norm1, cst, cst1, takeU, resultOf, resVal, A.isR, A.isC, A.isV, A.cells, Value.oneCell', frz, frzR, frzC, A.hasB, A.scal, A.isVal, optInt, okCell, fillA, capsOf]
  clear ha
  obtain ⟨⟨o1, e1, b1⟩, ha, hk0⟩ := st2 t' m' k' ((coresL c' k').map vi) c' c' r' (by omega) (by omega)
  refine behindP (P := fun r => Ans (vb true) [] r) (Q := fun a => a = (o1, e1, b1)) ⟨_, Eq.trans (loop_env (by simp [put_at, envL, puts, g11, g12, g13, g14, g15, g16])) ha, rfl⟩ ?_
  rintro _ rfl
  simp only [keptL, Prod.mk.injEq] at hk0
  clear ha g11 g12 g13 g14 g15 g16
  obtain ⟨rfl, g11, g12, g13, g14, g15, g16, rfl⟩ := hk0
  simp [Option.bind_assoc, eL_seq, eL_reg, eL_ret, eL_skip, eL_exit, eL_scope, eL_cond, eL_block, gJ_nil, gJ_n, gJ_g, ob_ite, ob_none, ob_some, om_some, om_none, om_ite, seqG_nor, seqG_ex, seqG_ret, blkK_nor, blkK_ex, blkK_ret, resK_nor, resK_ret, condK_vb, runG_some, runG_none, puts_nil, puts_cons, gdOf_some, guardX_t, guardX_f, guardX_u, guardX_ite, gd_ite, gd_ite', gd_ite2, gd_ite2', mrg_no, mrg_yes, mrg_ite, mrg_ite', ite_vb, ite_vi, ↓evI_call, ↓evI_calli, ↓evI_callv, ↓evI_mxn, fzL_nil, fzL_cons, nmL_nil, nmL_cons, mpL_nil, mpL_cons, anyB_nil, anyB_cons, callvK_fn, mxnK_cons, evI, eqz_self, evBin_eql, evBin_neq, initFrom, putO, put_at, O.ev, evBin_add, evBin_sub, evBin_mul, evBin_lss, evBin_leq, evBin_gtr, evBin_geq, evBin_quo, evBin_rem, evBin_shr, evBin_shl, evBin_seql, evBin_sneq, evBin_sadd, evUn, A.cp, A.cp1, A.own, A.norm, A.norm1, cst, cst1, takeU, resultOf, resVal, A.isR, A.isC, A.isV, A.cells, Value.oneCell', frz, frzR, frzC, A.hasB, A.scal, A.isVal, optInt, okCell, fillA, capsOf]
  obtain ⟨⟨o2, e2, b2⟩, ha, hk0⟩ := st4 t' c' k' r' ((coresL c' k').map vi) ((homesL c' r').map vi) c' r' m' (by omega)
  refine behindP (P := fun r => Ans (vb true) [] r) (Q := fun a => a = (o2, e2, b2)) ⟨_, Eq.trans (loop_env (by simp [put_at, envL, puts, g11, g12, g13, g14, g15, g16, n2l])) ha, rfl⟩ ?_
  rintro _ rfl
  simp only [keptL, Prod.mk.injEq] at hk0
  clear ha g11 g12 g13 g14 g15 g16
  obtain ⟨⟨rfl, g11, g12, g13, g14, g15, g16, rfl⟩, g19⟩ := hk0
  simp [Option.bind_assoc, eL_seq, eL_reg, eL_ret, eL_skip, eL_exit, eL_scope, eL_cond, eL_block, gJ_nil, gJ_n, gJ_g, ob_ite, ob_none, ob_some, om_some, om_none, om_ite, seqG_nor, seqG_ex, seqG_ret, blkK_nor, blkK_ex, blkK_ret, resK_nor, resK_ret, condK_vb, runG_some, runG_none, puts_nil, puts_cons, gdOf_some, guardX_t, guardX_f, guardX_u, guardX_ite, gd_ite, gd_ite', gd_ite2, gd_ite2', mrg_no, mrg_yes, mrg_ite, mrg_ite', ite_vb, ite_vi, ↓evI_call, ↓evI_calli, ↓evI_callv, ↓evI_mxn, fzL_nil, fzL_cons, nmL_nil, nmL_cons, mpL_nil, mpL_cons, anyB_nil, anyB_cons, callvK_fn, mxnK_cons, evI, eqz_self, evBin_eql, evBin_neq, initFrom, putO, put_at, O.ev, evBin_add, evBin_sub, evBin_mul, evBin_lss, evBin_leq, evBin_gtr, evBin_geq, evBin_quo, evBin_rem, evBin_shr, evBin_shl, evBin_seql, evBin_sneq, evBin_sadd, evUn, A.cp, A.cp1, A.own, A.norm, A.norm1, cst, cst1, takeU, resultOf, resVal, A.isR, A.isC, A.isV, A.cells, Value.oneCell', frz, frzR, frzC, A.hasB, A.scal, A.isVal, optInt, okCell, fillA, capsOf]
  have h6 := st6 m' k' r' ((coresL c' k').map vi) ((homesL c' r').map vi) c' r' (partsL m') c' t' (by omega) (by omega)
  rw [lenP] at h6
  obtain ⟨⟨o3, e3, b3⟩, ha, hk0⟩ := h6
  refine behindP (P := fun r => Ans (vb true) [] r) (Q := fun a => a = (o3, e3, b3)) ⟨_, Eq.trans (loop_env (by simp [put_at, envL, puts, g11, g12, g13, g14, g15, g16, g19])) ha, rfl⟩ ?_
  rintro _ rfl
  simp only [keptL, Prod.mk.injEq] at hk0
  clear ha g11 g12 g13 g14 g15 g16
  obtain ⟨rfl, g11, g12, g13, g14, g15, g16, rfl⟩ := hk0
  have hck := check_set t' m' c' k' r' (by omega)
  have hw : wantL t' m' c' k' r' = true := by
    have h := want_all
    simp only [List.all_eq_true] at h
    exact h t' (by simp; omega) m' (by simp; omega) c' (by simp; omega) k' (by simp; omega) r' (by simp; omega)
  simp +contextual [Option.bind_assoc, eL_seq, eL_reg, eL_ret, eL_skip, eL_exit, eL_scope, eL_cond, eL_block, gJ_nil, gJ_n, gJ_g, ob_ite, ob_none, ob_some, om_some, om_none, om_ite, seqG_nor, seqG_ex, seqG_ret, blkK_nor, blkK_ex, blkK_ret, resK_nor, resK_ret, condK_vb, runG_some, runG_none, puts_nil, puts_cons, gdOf_some, guardX_t, guardX_f, guardX_u, guardX_ite, gd_ite, gd_ite', gd_ite2, gd_ite2', mrg_no, mrg_yes, mrg_ite, mrg_ite', ite_vb, ite_vi, ↓evI_call, ↓evI_calli, ↓evI_callv, ↓evI_mxn, fzL_nil, fzL_cons, nmL_nil, nmL_cons, mpL_nil, mpL_cons, anyB_nil, anyB_cons, callvK_fn, mxnK_cons, evI, eqz_self, evBin_eql, evBin_neq, initFrom, putO, put_at, O.ev, evBin_add, evBin_sub, evBin_mul, evBin_lss, evBin_leq, evBin_gtr, evBin_geq, evBin_quo, evBin_rem, evBin_shr, evBin_shl, evBin_seql, evBin_sneq, evBin_sadd, evUn, A.cp, A.cp1, A.own, A.norm, A.norm1, cst, cst1, takeU, resultOf, resVal, A.isR, A.isC, A.isV, A.cells, Value.oneCell', frz, frzR, frzC, A.hasB, A.scal, A.isVal, optInt, okCell, fillA, capsOf, bxL, g11, g12, g13, g14, g15, g16, hck]
  unfold wantL at hw
  refine Ans.split (fun d => ?_) (fun d => ?_)
  · rw [if_pos (by omega)] at hw
    rw [eq_of_beq hw]; exact Ans.nil rfl
  rw [if_neg (by omega)] at hw
  refine Ans.split (fun d => ?_) (fun d => ?_)
  · rw [if_pos (by omega)] at hw
    rw [eq_of_beq hw]; exact Ans.nil rfl
  rw [if_neg (by omega)] at hw
  refine Ans.split (fun d => ?_) (fun d => ?_)
  · rw [if_pos (by omega)] at hw
    rw [eq_of_beq hw]; exact Ans.nil rfl
  rw [if_neg (by omega)] at hw
  rw [eq_of_beq hw]; exact Ans.nil rfl
end Go.Proofs.YtkohggddaheefaaEv
