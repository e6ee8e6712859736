/- swingbridgelaw15.TokenCores. -/
import Derived.Test.YtiocdaeinahcoaaTokenP
import Derived.Test.YtiocdaeinahcoaaU8
set_option linter.unusedSimpArgs false
set_option linter.unusedVariables false
namespace Go.Proofs.YtiocdaeinahcoaaEv
open Go
set_option maxHeartbeats 4000000
theorem tcores2 (s : St) (hs : Sm s) (g : Good s) (cs : List Int) (hcl : cs.length = s.cores.length) (g' : Good (withCores s cs)) (hle : sumL id s.cores ≤ sumL id cs) (m : Nat) (hm : m < s.tasks.length) :
    ∀ d i (e : Env), i + d = s.tasks[m].parts.length → (e 2 = .ptr 0 0 ∧ e 6 = .ptr 1 0 ∧ e 7 = vi m ∧ e 9 = vi i) → ∃ zz, evL tab0 ext0 0 L12_2 (e, [St.c s, [vi s.proto, .bs 2 cs.length 1, slI s.homes, slT s.tasks], cs.map vi]) = some zz ∧ FQ (fun _ => false) ([St.c s, [vi s.proto, .bs 2 cs.length 1, slI s.homes, slT s.tasks], cs.map vi]) 2 (fun _ _ => True) (fun e => e 2 = .ptr 0 0 ∧ e 6 = .ptr 1 0 ∧ e 7 = vi m) i d zz := by
  have hp := hs.parts _ (List.getElem_mem hm)
  have pd := plain_dang (m := 3) (plain_vi cs)
  have po : (cs.map vi).map A.own = cs.map vi := by rw [List.map_map]; rfl
  have hm' : (m : Int) < s.tasks.length := by omega
  have hd := drop_tk s.tasks m hm
  simp only [Tk.c, slP] at hd
  refine fq_loop (St := fun i e => e 2 = .ptr 0 0 ∧ e 6 = .ptr 1 0 ∧ e 7 = vi m ∧ e 9 = vi i) _ _ _ _ _ ?_ ?_
  · rintro e ⟨g0, g1, g2, g3⟩
    have x1 := 0
    exact ⟨_, (go12_2 _ _).trans (by simp [B12_2, -Int.not_lt, -Int.not_le, Option.bind_assoc, eL_seq, eL_reg, eL_dreg, clr_nil, clr_cons, neOk_nil, neOk_cons, neK_ptr, eL_ret, eL_skip, eL_exit, eL_scope, eL_cond, eL_block, gJ_nil, gJ_n, gJ_g, ob_ite, ob_none, ob_some, om_some, om_none, om_ite, seqG_nor, seqG_ex, seqG_ret, blkK_nor, blkK_ex, blkK_ret, resK_nor, resK_ret, condK_vb, runG_some, runG_none, puts_nil, puts_cons, gdOf_some, guardX_t, guardX_f, guardX_u, guardX_ite, gd_ite, gd_ite', gd_ite2, gd_ite2', mrg_no, mrg_yes, mrg_ite, mrg_ite', ite_vb, ite_vi, ↓evI_call, ↓evI_calli, ↓evI_callv, ↓evI_mxn, fzL_nil, fzL_cons, nmL_nil, nmL_cons, mpL_nil, mpL_cons, anyB_nil, anyB_cons, callvK_fn, mxnK_cons, evI, eqz_self, evBin_eql, evBin_neq, initFrom, putO, put_at, O.ev, evBin_add, evBin_sub, evBin_mul, evBin_lss, evBin_leq, evBin_gtr, evBin_geq, evBin_quo, evBin_rem, evBin_shr, evBin_shl, evBin_and, evBin_or, evBin_xor, evBin_seql, evBin_sneq, evBin_sadd, evUn, A.cp, A.cp1, A.own, A.norm, A.norm1, cst, cst1, takeU, resultOf, resVal, A.isR, A.isC, A.isV, A.cells, Value.oneCell', frz, frzR, frzC, A.hasB, A.scal, A.isVal, optInt, okCell, fillA, capsOf, loopIn, loopIn0, keepL, emp, A.dang, A.dangC, g0, g1, g2, g3, slI, slT, slP, St.c, Tk.c, pd, po, hm, hm', hd, -List.all_eq_true, -List.map_map]; rfl), by simp [put_at, g0, g1, g2]⟩
  · rintro i e hi ⟨g0, g1, g2, g3⟩
    rw [go12_2]
    have hi' : (i : Int) < (s.tasks[m].parts.length : Nat) := by omega
    have hw : IntKind.wrap .i64 ((i : Int) + 1) = (i : Int) + 1 := wrap_in _ (by omega) (by omega)
    have ht : thereS s m = true := (thereS_iff s m).2 ⟨g, by omega, by omega⟩
    have hq := drop_pt s.tasks[m].parts i hi
    have hlk : lockS s m i = if eqz s.tasks[m].parts[i].kind 3 = true then some s.tasks[m].parts[i] else none := by
      rw [rawS_lock]; unfold rawS; rw [if_pos ⟨ht, by omega⟩]; simp [hm, hi, Option.filter_some]
    have h3 := pure_ansO (k := false) (tokIn_is s hs m i)
    have h4 := pure_ansO (k := false) (tokIn_is (withCores s cs) (sm_cores hs g') m i)
    have pf : ((cs.map vi).take cs.length).mapM (frzC [St.c s, [vi s.proto, .bs 2 cs.length 1, slI s.homes, slT s.tasks], cs.map vi] 2) = some (cs.map vi) := by rw [List.take_of_length_le (by simp)]; exact plain_mapM (plain_vi cs)
    have m1 := tokIn_mono g g' hle m i
    have m2 : (tokIn s m i).isSome = true → ¬ (tokIn s m i).getD 0 < s.tasks[m].parts[i].len := by
      intro h
      obtain ⟨p, p1, p2⟩ := tokIn_own h
      rw [hlk] at p1
      split at p1
      · cases p1; exact p2
      · cases p1
    generalize tokIn s m i = r1 at *
    generalize tokIn (withCores s cs) m i = r2 at *
    obtain ⟨m3, m4⟩ := m1
    rw [m3] at h4
    generalize s.tasks[m].parts[i] = p at *
    simp only [St.c, slI, slT, withCores] at h3 h4 pf
    simp +contextual (maxSteps := 400000) [B12_2, -Int.not_lt, -Int.not_le, Option.bind_assoc, eL_seq, eL_reg, eL_dreg, clr_nil, clr_cons, neOk_nil, neOk_cons, neK_ptr, eL_ret, eL_skip, eL_exit, eL_scope, eL_cond, eL_block, gJ_nil, gJ_n, gJ_g, ob_ite, ob_none, ob_some, om_some, om_none, om_ite, seqG_nor, seqG_ex, seqG_ret, blkK_nor, blkK_ex, blkK_ret, resK_nor, resK_ret, condK_vb, runG_some, runG_none, puts_nil, puts_cons, gdOf_some, guardX_t, guardX_f, guardX_u, guardX_ite, gd_ite, gd_ite', gd_ite2, gd_ite2', mrg_no, mrg_yes, mrg_ite, mrg_ite', ite_vb, ite_vi, ↓evI_call, ↓evI_calli, ↓evI_callv, ↓evI_mxn, fzL_nil, fzL_cons, nmL_nil, nmL_cons, mpL_nil, mpL_cons, anyB_nil, anyB_cons, callvK_fn, mxnK_cons, evI, eqz_self, evBin_eql, evBin_neq, initFrom, putO, put_at, O.ev, evBin_add, evBin_sub, evBin_mul, evBin_lss, evBin_leq, evBin_gtr, evBin_geq, evBin_quo, evBin_rem, evBin_shr, evBin_shl, evBin_and, evBin_or, evBin_xor, evBin_seql, evBin_sneq, evBin_sadd, evUn, A.cp, A.cp1, A.own, A.norm, A.norm1, cst, cst1, takeU, resultOf, resVal, A.isR, A.isC, A.isV, A.cells, Value.oneCell', frz, frzR, frzC, A.hasB, A.scal, A.isVal, optInt, okCell, fillA, capsOf, loopIn, loopIn0, keepL, emp, A.dang, A.dangC, g0, g1, g2, g3, hi, hi', slI, slT, slP, St.c, Tk.c, pd, po, pf, hm, hm', hd, hq, hw, h3, h4, m2, m4, Pt.c, -List.all_eq_true, -List.map_map]
    exact Step.go rfl (by simp [put_at])
theorem tcores0 (s : St) (hs : Sm s) (g : Good s) (cs : List Int) (hcl : cs.length = s.cores.length) (g' : Good (withCores s cs)) (hle : sumL id s.cores ≤ sumL id cs) :
    ∀ d i (e : Env), i + d = s.tasks.length → (e 2 = .ptr 0 0 ∧ e 6 = .ptr 1 0 ∧ e 7 = vi i) → ∃ zz, evL tab0 ext0 0 L12_0 (e, [St.c s, [vi s.proto, .bs 2 cs.length 1, slI s.homes, slT s.tasks], cs.map vi]) = some zz ∧ FQ (fun _ => false) ([St.c s, [vi s.proto, .bs 2 cs.length 1, slI s.homes, slT s.tasks], cs.map vi]) 0 (fun _ _ => True) (fun _ => True) i d zz := by
  have hc := hs.tasks
  have pd := plain_dang (m := 3) (plain_vi cs)
  have po : (cs.map vi).map A.own = cs.map vi := by rw [List.map_map]; rfl
  refine fq_loop (St := fun i e => e 2 = .ptr 0 0 ∧ e 6 = .ptr 1 0 ∧ e 7 = vi i) _ _ _ _ _ ?_ ?_
  · rintro e ⟨g0, g1, g2⟩
    have x1 := 0
    exact ⟨_, (go12_0 _ _).trans (by simp [B12_0, -Int.not_lt, -Int.not_le, Option.bind_assoc, eL_seq, eL_reg, eL_dreg, clr_nil, clr_cons, neOk_nil, neOk_cons, neK_ptr, eL_ret, eL_skip, eL_exit, eL_scope, eL_cond, eL_block, gJ_nil, gJ_n, gJ_g, ob_ite, ob_none, ob_some, om_some, om_none, om_ite, seqG_nor, seqG_ex, seqG_ret, blkK_nor, blkK_ex, blkK_ret, resK_nor, resK_ret, condK_vb, runG_some, runG_none, puts_nil, puts_cons, gdOf_some, guardX_t, guardX_f, guardX_u, guardX_ite, gd_ite, gd_ite', gd_ite2, gd_ite2', mrg_no, mrg_yes, mrg_ite, mrg_ite', ite_vb, ite_vi, ↓evI_call, ↓evI_calli, ↓evI_callv, ↓evI_mxn, fzL_nil, fzL_cons, nmL_nil, nmL_cons, mpL_nil, mpL_cons, anyB_nil, anyB_cons, callvK_fn, mxnK_cons, evI, eqz_self, evBin_eql, evBin_neq, initFrom, putO, put_at, O.ev, evBin_add, evBin_sub, evBin_mul, evBin_lss, evBin_leq, evBin_gtr, evBin_geq, evBin_quo, evBin_rem, evBin_shr, evBin_shl, evBin_and, evBin_or, evBin_xor, evBin_seql, evBin_sneq, evBin_sadd, evUn, A.cp, A.cp1, A.own, A.norm, A.norm1, cst, cst1, takeU, resultOf, resVal, A.isR, A.isC, A.isV, A.cells, Value.oneCell', frz, frzR, frzC, A.hasB, A.scal, A.isVal, optInt, okCell, fillA, capsOf, loopIn, loopIn0, keepL, emp, A.dang, A.dangC, g0, g1, g2, slI, slT, slP, St.c, Tk.c, pd, po, -List.all_eq_true, -List.map_map]; rfl), by trivial⟩
  · rintro i e hi ⟨g0, g1, g2⟩
    rw [go12_0]
    have hi' : (i : Int) < (s.tasks.length : Nat) := by omega
    have hw : IntKind.wrap .i64 ((i : Int) + 1) = (i : Int) + 1 := wrap_in _ (by omega) (by omega)
    have l2 := tcores2 s hs g cs hcl g' hle i hi s.tasks[i].parts.length 0
    have h5 := pure_vi (k := false) (askersR_is s hs g s.tasks[i].cluster)
    have h6 := pure_vi (k := false) (tokU_is s hs i)
    obtain ⟨k1, k2, k3, k4, k5⟩ := core_at g (List.getElem_mem hi)
    have hz : askersS s s.tasks[i].cluster ≤ coreAt s s.tasks[i].cluster → outS s i = 0 := out_none i hi
    have hd := drop_tk s.tasks i hi
    simp only [St.c, slI, slT, Tk.c, slP] at l2 h5 h6 hd
    have hzz : ¬ (askersS s s.tasks[i].cluster ≤ coreAt s s.tasks[i].cluster ∧ eqz (outS s i) 0 = false) := fun h => by rw [hz h.1] at h; exact absurd h.2 (by simp [eqz])
    generalize outS s i = w at *
    generalize askersS s s.tasks[i].cluster = a at *
    generalize coreAt s s.tasks[i].cluster = o at *
    generalize s.tasks[i].cluster = c at *
    simp +contextual (maxSteps := 400000) [B12_0, -Int.not_lt, -Int.not_le, Option.bind_assoc, eL_seq, eL_reg, eL_dreg, clr_nil, clr_cons, neOk_nil, neOk_cons, neK_ptr, eL_ret, eL_skip, eL_exit, eL_scope, eL_cond, eL_block, gJ_nil, gJ_n, gJ_g, ob_ite, ob_none, ob_some, om_some, om_none, om_ite, seqG_nor, seqG_ex, seqG_ret, blkK_nor, blkK_ex, blkK_ret, resK_nor, resK_ret, condK_vb, runG_some, runG_none, puts_nil, puts_cons, gdOf_some, guardX_t, guardX_f, guardX_u, guardX_ite, gd_ite, gd_ite', gd_ite2, gd_ite2', mrg_no, mrg_yes, mrg_ite, mrg_ite', ite_vb, ite_vi, ↓evI_call, ↓evI_calli, ↓evI_callv, ↓evI_mxn, fzL_nil, fzL_cons, nmL_nil, nmL_cons, mpL_nil, mpL_cons, anyB_nil, anyB_cons, callvK_fn, mxnK_cons, evI, eqz_self, evBin_eql, evBin_neq, initFrom, putO, put_at, O.ev, evBin_add, evBin_sub, evBin_mul, evBin_lss, evBin_leq, evBin_gtr, evBin_geq, evBin_quo, evBin_rem, evBin_shr, evBin_shl, evBin_and, evBin_or, evBin_xor, evBin_seql, evBin_sneq, evBin_sadd, evUn, A.cp, A.cp1, A.own, A.norm, A.norm1, cst, cst1, takeU, resultOf, resVal, A.isR, A.isC, A.isV, A.cells, Value.oneCell', frz, frzR, frzC, A.hasB, A.scal, A.isVal, optInt, okCell, fillA, capsOf, loopIn, loopIn0, keepL, emp, A.dang, A.dangC, g0, g1, g2, hi, hi', slI, slT, slP, St.c, Tk.c, pd, po, hw, hd, h5, h6, k1, k2, k3, -List.all_eq_true, -List.map_map]
    rw [if_neg hzz]
    refine behindP (P := fun r' => Step _ _ _ _ _ r') (l2 _ (by omega) (by simp [put_at])) ?_
    intro z h
    obtain ⟨e', rfl, hx⟩ := h.never; clear h; have h := hx
    obtain ⟨j1, j2, j3⟩ := h
    simp [-Int.not_lt, -Int.not_le, Option.bind_assoc, eL_seq, eL_reg, eL_dreg, clr_nil, clr_cons, neOk_nil, neOk_cons, neK_ptr, eL_ret, eL_skip, eL_exit, eL_scope, eL_cond, eL_block, gJ_nil, gJ_n, gJ_g, ob_ite, ob_none, ob_some, om_some, om_none, om_ite, seqG_nor, seqG_ex, seqG_ret, blkK_nor, blkK_ex, blkK_ret, resK_nor, resK_ret, condK_vb, runG_some, runG_none, puts_nil, puts_cons, gdOf_some, guardX_t, guardX_f, guardX_u, guardX_ite, gd_ite, gd_ite', gd_ite2, gd_ite2', mrg_no, mrg_yes, mrg_ite, mrg_ite', ite_vb, ite_vi, ↓evI_call, ↓evI_calli, ↓evI_callv, ↓evI_mxn, fzL_nil, fzL_cons, nmL_nil, nmL_cons, mpL_nil, mpL_cons, anyB_nil, anyB_cons, callvK_fn, mxnK_cons, evI, eqz_self, evBin_eql, evBin_neq, initFrom, putO, put_at, O.ev, evBin_add, evBin_sub, evBin_mul, evBin_lss, evBin_leq, evBin_gtr, evBin_geq, evBin_quo, evBin_rem, evBin_shr, evBin_shl, evBin_and, evBin_or, evBin_xor, evBin_seql, evBin_sneq, evBin_sadd, evUn, A.cp, A.cp1, A.own, A.norm, A.norm1, cst, cst1, takeU, resultOf, resVal, A.isR, A.isC, A.isV, A.cells, Value.oneCell', frz, frzR, frzC, A.hasB, A.scal, A.isVal, optInt, okCell, fillA, capsOf, j1, j2, j3, hw]
    exact Step.go rfl (by simp [put_at, j1, j2, j3])
theorem tokenCores_is (s : St) (d : Int) (_ : s.ok) (hd8 : (Lit.int .u8 d).wf = true) : Ans (vb true) [] (callL tab0 ext0 12 [.agg (St.c s), vu8 d] []) := by
  have hd := u8_of hd8
  have kd := wrap_u8i d hd
  rw [callL_tab _ _ rfl tab12 rfl]
  have h1 := pure_vb (k := false) known_30
  have h2 := pure_vb (k := false) (few_is_31 s)
  rcases (Bool.eq_false_or_eq_true (few8 s)).symm with hs | hs
  · rw [hs] at h2
    simp only [St.c, slI, slT] at h2
    simp [C12, -Int.not_lt, -Int.not_le, Option.bind_assoc, eL_seq, eL_reg, eL_dreg, clr_nil, clr_cons, neOk_nil, neOk_cons, neK_ptr, eL_ret, eL_skip, eL_exit, eL_scope, eL_cond, eL_block, gJ_nil, gJ_n, gJ_g, ob_ite, ob_none, ob_some, om_some, om_none, om_ite, seqG_nor, seqG_ex, seqG_ret, blkK_nor, blkK_ex, blkK_ret, resK_nor, resK_ret, condK_vb, runG_some, runG_none, puts_nil, puts_cons, gdOf_some, guardX_t, guardX_f, guardX_u, guardX_ite, gd_ite, gd_ite', gd_ite2, gd_ite2', mrg_no, mrg_yes, mrg_ite, mrg_ite', ite_vb, ite_vi, ↓evI_call, ↓evI_calli, ↓evI_callv, ↓evI_mxn, fzL_nil, fzL_cons, nmL_nil, nmL_cons, mpL_nil, mpL_cons, anyB_nil, anyB_cons, callvK_fn, mxnK_cons, evI, eqz_self, evBin_eql, evBin_neq, initFrom, putO, put_at, O.ev, evBin_add, evBin_sub, evBin_mul, evBin_lss, evBin_leq, evBin_gtr, evBin_geq, evBin_quo, evBin_rem, evBin_shr, evBin_shl, evBin_and, evBin_or, evBin_xor, evBin_seql, evBin_sneq, evBin_sadd, evUn, A.cp, A.cp1, A.own, A.norm, A.norm1, cst, cst1, takeU, resultOf, resVal, A.isR, A.isC, A.isV, A.cells, Value.oneCell', frz, frzR, frzC, A.hasB, A.scal, A.isVal, optInt, okCell, fillA, capsOf, St.c, slI, slT, h1, h2]
    exact ⟨_, rfl⟩
  rw [hs] at h2
  have hs := few8_sm s hs
  have h3 := pure_vb (k := false) (thereR_is s 0 hs.fits)
  rcases (Bool.eq_false_or_eq_true (thereS s 0)).symm with ht | ht
  · rw [ht] at h3
    simp only [St.c, slI, slT] at h2 h3
    simp [C12, -Int.not_lt, -Int.not_le, Option.bind_assoc, eL_seq, eL_reg, eL_dreg, clr_nil, clr_cons, neOk_nil, neOk_cons, neK_ptr, eL_ret, eL_skip, eL_exit, eL_scope, eL_cond, eL_block, gJ_nil, gJ_n, gJ_g, ob_ite, ob_none, ob_some, om_some, om_none, om_ite, seqG_nor, seqG_ex, seqG_ret, blkK_nor, blkK_ex, blkK_ret, resK_nor, resK_ret, condK_vb, runG_some, runG_none, puts_nil, puts_cons, gdOf_some, guardX_t, guardX_f, guardX_u, guardX_ite, gd_ite, gd_ite', gd_ite2, gd_ite2', mrg_no, mrg_yes, mrg_ite, mrg_ite', ite_vb, ite_vi, ↓evI_call, ↓evI_calli, ↓evI_callv, ↓evI_mxn, fzL_nil, fzL_cons, nmL_nil, nmL_cons, mpL_nil, mpL_cons, anyB_nil, anyB_cons, callvK_fn, mxnK_cons, evI, eqz_self, evBin_eql, evBin_neq, initFrom, putO, put_at, O.ev, evBin_add, evBin_sub, evBin_mul, evBin_lss, evBin_leq, evBin_gtr, evBin_geq, evBin_quo, evBin_rem, evBin_shr, evBin_shl, evBin_and, evBin_or, evBin_xor, evBin_seql, evBin_sneq, evBin_sadd, evUn, A.cp, A.cp1, A.own, A.norm, A.norm1, cst, cst1, takeU, resultOf, resVal, A.isR, A.isC, A.isV, A.cells, Value.oneCell', frz, frzR, frzC, A.hasB, A.scal, A.isVal, optInt, okCell, fillA, capsOf, St.c, slI, slT, h1, h2, h3]
    exact ⟨_, rfl⟩
  rw [ht] at h3
  obtain ⟨g, _, _⟩ := (thereS_iff s 0).1 ht
  have hcl := g.cores
  have q1 : d.tmod s.cores.length = d % s.cores.length := Int.tmod_eq_emod_of_nonneg hd.1
  have q2 := Int.emod_nonneg d (show (s.cores.length : Int) ≠ 0 by omega)
  have q3 := Int.emod_lt_of_pos d (show 0 < (s.cores.length : Int) by omega)
  have qz : ¬ (s.cores.length : Int) = 0 := by omega
  obtain ⟨j, hj⟩ := nat_of (d % s.cores.length) q2
  rw [hj] at q1 q3
  have hjl : j < s.cores.length := by omega
  have pn := plain_norm (plain_vi s.cores)
  have hsz : s.cores.length * 8 ≤ 70368744177664 := by omega
  have hlm : (s.cores.map vi).length = s.cores.length := by simp
  have hget : (s.cores.map vi)[j]? = some (vi s.cores[j]) := by simp [hjl]
  have hlen1 : j + 1 ≤ s.cores.length := by omega
  have hne : ¬ s.cores = [] := by intro e; rw [e] at hcl; simp at hcl
  have hg2 : ∀ h : j < (s.cores.map vi).length, (s.cores.map vi)[j] = vi s.cores[j] := by intro h; simp
  have hcj := g.core _ (List.getElem_mem hjl)
  have hw : IntKind.wrap .i64 (s.cores[j] + 1) = s.cores[j] + 1 := wrap_i _ (by omega) (by omega)
  have hpos : 0 < s.cores.length := by omega
  by_cases hc1 : s.cores[j] < 3
  · have hset : (s.cores.set j (s.cores[j] + 1)).map vi = (s.cores.map vi).take j ++ vi (s.cores[j] + 1) :: (s.cores.map vi).drop (j + 1) := by
      rw [List.map_set, List.set_eq_take_append_cons_drop, if_pos (by simpa using hjl)]
    have g' : Good (withCores s (s.cores.set j (s.cores[j] + 1))) := good_cores g (by rw [List.length_set]) fun c hc => by
      rcases List.mem_or_eq_of_mem_set hc with h | rfl
      · exact g.core _ h
      · omega
    have l0 := tcores0 s hs g _ (by rw [List.length_set]) g' (by rw [sumL_set]; omega) s.tasks.length 0
    rw [hset, List.length_set] at l0
    simp only [St.c, slI, slT] at h2 h3 l0 ⊢
    generalize s.cores.map vi = B at *
    have hB1 : j + 1 ≤ B.length := by omega
    simp [C12, -Int.not_lt, -Int.not_le, Option.bind_assoc, eL_seq, eL_reg, eL_dreg, clr_nil, clr_cons, neOk_nil, neOk_cons, neK_ptr, eL_ret, eL_skip, eL_exit, eL_scope, eL_cond, eL_block, gJ_nil, gJ_n, gJ_g, ob_ite, ob_none, ob_some, om_some, om_none, om_ite, seqG_nor, seqG_ex, seqG_ret, blkK_nor, blkK_ex, blkK_ret, resK_nor, resK_ret, condK_vb, runG_some, runG_none, puts_nil, puts_cons, gdOf_some, guardX_t, guardX_f, guardX_u, guardX_ite, gd_ite, gd_ite', gd_ite2, gd_ite2', mrg_no, mrg_yes, mrg_ite, mrg_ite', ite_vb, ite_vi, ↓evI_call, ↓evI_calli, ↓evI_callv, ↓evI_mxn, fzL_nil, fzL_cons, nmL_nil, nmL_cons, mpL_nil, mpL_cons, anyB_nil, anyB_cons, callvK_fn, mxnK_cons, evI, eqz_self, evBin_eql, evBin_neq, initFrom, putO, put_at, O.ev, evBin_add, evBin_sub, evBin_mul, evBin_lss, evBin_leq, evBin_gtr, evBin_geq, evBin_quo, evBin_rem, evBin_shr, evBin_shl, evBin_and, evBin_or, evBin_xor, evBin_seql, evBin_sneq, evBin_sadd, evUn, A.cp, A.cp1, A.own, A.norm, A.norm1, cst, cst1, takeU, resultOf, resVal, A.isR, A.isC, A.isV, A.cells, Value.oneCell', frz, frzR, frzC, A.hasB, A.scal, A.isVal, optInt, okCell, fillA, capsOf, h1, h2, h3, asList, pn, hsz, hlm, hpos, kd, qz, q1, q3, hjl, hget, hg2, hne, hc1, hw, hB1, hlen1]
    refine behindP (P := fun r' => Ans _ [] r') (l0 _ (by omega) (by simp [put_at])) ?_
    intro a h
    obtain ⟨e', rfl, hx⟩ := h.never; clear h; have h := hx
    simp [-Int.not_lt, -Int.not_le, Option.bind_assoc, eL_seq, eL_reg, eL_dreg, clr_nil, clr_cons, neOk_nil, neOk_cons, neK_ptr, eL_ret, eL_skip, eL_exit, eL_scope, eL_cond, eL_block, gJ_nil, gJ_n, gJ_g, ob_ite, ob_none, ob_some, om_some, om_none, om_ite, seqG_nor, seqG_ex, seqG_ret, blkK_nor, blkK_ex, blkK_ret, resK_nor, resK_ret, condK_vb, runG_some, runG_none, puts_nil, puts_cons, gdOf_some, guardX_t, guardX_f, guardX_u, guardX_ite, gd_ite, gd_ite', gd_ite2, gd_ite2', mrg_no, mrg_yes, mrg_ite, mrg_ite', ite_vb, ite_vi, ↓evI_call, ↓evI_calli, ↓evI_callv, ↓evI_mxn, fzL_nil, fzL_cons, nmL_nil, nmL_cons, mpL_nil, mpL_cons, anyB_nil, anyB_cons, callvK_fn, mxnK_cons, evI, eqz_self, evBin_eql, evBin_neq, initFrom, putO, put_at, O.ev, evBin_add, evBin_sub, evBin_mul, evBin_lss, evBin_leq, evBin_gtr, evBin_geq, evBin_quo, evBin_rem, evBin_shr, evBin_shl, evBin_and, evBin_or, evBin_xor, evBin_seql, evBin_sneq, evBin_sadd, evUn, A.cp, A.cp1, A.own, A.norm, A.norm1, cst, cst1, takeU, resultOf, resVal, A.isR, A.isC, A.isV, A.cells, Value.oneCell', frz, frzR, frzC, A.hasB, A.scal, A.isVal, optInt, okCell, fillA, capsOf]
    exact ⟨_, rfl⟩
  · have l0 := tcores0 s hs g s.cores rfl g (Int.le_refl _) s.tasks.length 0
    simp only [St.c, slI, slT] at h2 h3 l0 ⊢
    generalize s.cores.map vi = B at *
    have hB1 : j + 1 ≤ B.length := by omega
    simp [C12, -Int.not_lt, -Int.not_le, Option.bind_assoc, eL_seq, eL_reg, eL_dreg, clr_nil, clr_cons, neOk_nil, neOk_cons, neK_ptr, eL_ret, eL_skip, eL_exit, eL_scope, eL_cond, eL_block, gJ_nil, gJ_n, gJ_g, ob_ite, ob_none, ob_some, om_some, om_none, om_ite, seqG_nor, seqG_ex, seqG_ret, blkK_nor, blkK_ex, blkK_ret, resK_nor, resK_ret, condK_vb, runG_some, runG_none, puts_nil, puts_cons, gdOf_some, guardX_t, guardX_f, guardX_u, guardX_ite, gd_ite, gd_ite', gd_ite2, gd_ite2', mrg_no, mrg_yes, mrg_ite, mrg_ite', ite_vb, ite_vi, ↓evI_call, ↓evI_calli, ↓evI_callv, ↓evI_mxn, fzL_nil, fzL_cons, nmL_nil, nmL_cons, mpL_nil, mpL_cons, anyB_nil, anyB_cons, callvK_fn, mxnK_cons, evI, eqz_self, evBin_eql, evBin_neq, initFrom, putO, put_at, O.ev, evBin_add, evBin_sub, evBin_mul, evBin_lss, evBin_leq, evBin_gtr, evBin_geq, evBin_quo, evBin_rem, evBin_shr, evBin_shl, evBin_and, evBin_or, evBin_xor, evBin_seql, evBin_sneq, evBin_sadd, evUn, A.cp, A.cp1, A.own, A.norm, A.norm1, cst, cst1, takeU, resultOf, resVal, A.isR, A.isC, A.isV, A.cells, Value.oneCell', frz, frzR, frzC, A.hasB, A.scal, A.isVal, optInt, okCell, fillA, capsOf, h1, h2, h3, asList, pn, hsz, hlm, hpos, kd, qz, q1, q3, hjl, hget, hg2, hne, hc1, hw, hB1, hlen1]
    refine behindP (P := fun r' => Ans _ [] r') (l0 _ (by omega) (by simp [put_at])) ?_
    intro a h
    obtain ⟨e', rfl, hx⟩ := h.never; clear h; have h := hx
    simp [-Int.not_lt, -Int.not_le, Option.bind_assoc, eL_seq, eL_reg, eL_dreg, clr_nil, clr_cons, neOk_nil, neOk_cons, neK_ptr, eL_ret, eL_skip, eL_exit, eL_scope, eL_cond, eL_block, gJ_nil, gJ_n, gJ_g, ob_ite, ob_none, ob_some, om_some, om_none, om_ite, seqG_nor, seqG_ex, seqG_ret, blkK_nor, blkK_ex, blkK_ret, resK_nor, resK_ret, condK_vb, runG_some, runG_none, puts_nil, puts_cons, gdOf_some, guardX_t, guardX_f, guardX_u, guardX_ite, gd_ite, gd_ite', gd_ite2, gd_ite2', mrg_no, mrg_yes, mrg_ite, mrg_ite', ite_vb, ite_vi, ↓evI_call, ↓evI_calli, ↓evI_callv, ↓evI_mxn, fzL_nil, fzL_cons, nmL_nil, nmL_cons, mpL_nil, mpL_cons, anyB_nil, anyB_cons, callvK_fn, mxnK_cons, evI, eqz_self, evBin_eql, evBin_neq, initFrom, putO, put_at, O.ev, evBin_add, evBin_sub, evBin_mul, evBin_lss, evBin_leq, evBin_gtr, evBin_geq, evBin_quo, evBin_rem, evBin_shr, evBin_shl, evBin_and, evBin_or, evBin_xor, evBin_seql, evBin_sneq, evBin_sadd, evUn, A.cp, A.cp1, A.own, A.norm, A.norm1, cst, cst1, takeU, resultOf, resVal, A.isR, A.isC, A.isV, A.cells, Value.oneCell', frz, frzR, frzC, A.hasB, A.scal, A.isVal, optInt, okCell, fillA, capsOf]
    exact ⟨_, rfl⟩
end Go.Proofs.YtiocdaeinahcoaaEv
