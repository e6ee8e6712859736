/- swingbridgelaw11.DemandParts. -/
import Derived.Test.YtkohggddaheefaaDem
import Derived.Test.YtkohggddaheefaaSums
import Derived.Test.YtkohggddaheefaaInp
set_option linter.unusedSimpArgs false
set_option linter.unusedVariables false
namespace Go.Proofs.YtkohggddaheefaaEv
open Go
set_option maxHeartbeats 2000000
/-! ### the plain law -/
theorem homedS_nat {s : St} (g : Good s) (i : Nat) (h : i < s.tasks.length) (c : Int) : homedS s i c = homedL s s.tasks[i].parts c := by
  have ht : thereS s i = true := by rw [there_nat s i h]; exact (okS_iff s).2 g
  unfold homedS; rw [if_pos ht]; simp [h]
theorem at_all {s : St} (g : Good s) (i : Nat) (h : i < s.tasks.length) : sumN (fun c => atS s i c) s.cores.length = allK s.tasks[i].parts 3 := by
  have h1 : ∀ c : Nat, atS s i c = sumL (fun p => if lockAt s c p = true then p.len else 0) s.tasks[i].parts := by
    intro c
    unfold atS; rw [homedS_nat g i h]; unfold homedL; rw [sumL_map, sumL_filter]; rfl
  rw [sumN_congr _ fun c _ => h1 c, sumN_sumL]
  unfold allK
  refine sumL_congr _ fun p hp => ?_
  have gp := (g.task _ (List.getElem_mem h)).part p hp
  unfold kLen lockAt
  by_cases hk : p.kind = 3
  · rw [if_pos hk]
    have hr := gp.res hk
    have hh : p.res.toNat < s.homes.length := by omega
    have hm := g.home _ (List.getElem_mem hh)
    have e : homeOf s p = s.homes[p.res.toNat] := by unfold homeOf; simp [hh]
    rw [sumN_congr (g := fun c => if homeOf s p = (c : Int) then p.len else 0) _ fun c _ => by simp [eqz, hk]]
    rw [sumN_one, e, if_pos hm]
  · rw [if_neg hk, sumN_congr (g := fun _ => 0) _ fun c _ => by simp [eqz, hk]]
    exact sumN_zero _
theorem most_all {s : St} (g : Good s) (i : Nat) (h : i < s.tasks.length) : maxN (fun c => mostS s i c) s.cores.length = longest s.tasks[i].parts := by
  have h1 : ∀ c : Nat, mostS s i c = maxL (fun p => if lockAt s c p = true then p.len else 0) s.tasks[i].parts := by
    intro c
    unfold mostS; rw [homedS_nat g i h]; unfold homedL; rw [maxL_map, maxL_filter]; rfl
  rw [maxN_congr _ fun c _ => h1 c, maxN_maxL]
  unfold longest
  refine maxL_congr _ fun p hp => ?_
  have gp := (g.task _ (List.getElem_mem h)).part p hp
  unfold kLen lockAt
  by_cases hk : p.kind = 3
  · rw [if_pos hk]
    have hr := gp.res hk
    have hh : p.res.toNat < s.homes.length := by omega
    have hm := g.home _ (List.getElem_mem hh)
    have e : homeOf s p = s.homes[p.res.toNat] := by unfold homeOf; simp [hh]
    rw [maxN_congr (g := fun c => if homeOf s p = (c : Int) then p.len else 0) _ fun c _ => by simp [eqz, hk]]
    rw [maxN_one _ _ (by have := gp.len; omega), e, if_pos hm]
  · rw [if_neg hk, maxN_congr (g := fun _ => 0) _ fun c _ => by simp [eqz, hk]]
    exact maxN_zero _
theorem all_kinds {s : St} (g : Good s) {t : Tk} (ht : t ∈ s.tasks) : allK t.parts 1 + allK t.parts 2 + allK t.parts 3 = sumL Pt.len t.parts := by
  unfold allK
  rw [← sumL_add, ← sumL_add]
  refine sumL_congr _ fun p hp => ?_
  have := ((g.task t ht).part p hp).kind
  unfold kLen
  rcases (by omega : p.kind = 1 ∨ p.kind = 2 ∨ p.kind = 3) with h | h | h <;> simp [h]
def has (t : Tk) : Int := if 0 < longest t.parts then 1 else 0
theorem askers_all {s : St} (g : Good s) : sumN (fun c => askersS s c) s.cores.length = sumL has s.tasks := by
  unfold askersS
  rw [sumN_sumL]
  refine sumL_congr _ fun t ht => ?_
  have hc := (g.task t ht).cluster
  have hk := (okS_iff s).2 g
  unfold asks has
  by_cases hl : 0 < longest t.parts
  · rw [if_pos hl, sumN_congr (g := fun c => if t.cluster = (c : Int) then 1 else 0) _ fun c _ => by simp [eqz, hl, hk]]
    rw [sumN_one, if_pos hc]
  · rw [if_neg hl, sumN_congr (g := fun _ => 0) _ fun c _ => by simp [hl]]
    exact sumN_zero _
/-! ### the walk -/
theorem dp_loop0 (s : St) (hs : Sm s) :
    ∀ d i (e : Env), i + d = s.cores.length → (e 1 = .ptr 0 0 ∧ e 3 = vi (sumN (fun c => askersS s c) i) ∧ e 4 = vi i) → ∃ r, evL tab0 ext0 0 L7_0 (e, [St.c s]) = some r ∧ FQ (fun _ => false) ([St.c s]) 0 (fun _ _ => True) (fun e => e 1 = .ptr 0 0 ∧ e 3 = vi (sumN (fun c => askersS s c) s.cores.length)) i d r := by
  have hc := hs.cores
  refine fq_loop (St := fun i e => e 1 = .ptr 0 0 ∧ e 3 = vi (sumN (fun c => askersS s c) i) ∧ e 4 = vi i) _ _ _ _ _ ?_ ?_
  · rintro e ⟨g0, g1, g2⟩
    exact ⟨_, (go7_0 _ _).trans (by simp [B7_0, -Int.not_lt, -Int.not_le, Option.bind_assoc, eL_seq, eL_reg, eL_ret, eL_skip, eL_exit, eL_scope, eL_cond, eL_block, gJ_nil, gJ_n, gJ_g, ob_ite, ob_none, ob_some, om_some, om_none, om_ite, seqG_nor, seqG_ex, seqG_ret, blkK_nor, blkK_ex, blkK_ret, resK_nor, resK_ret, condK_vb, runG_some, runG_none, puts_nil, puts_cons, gdOf_some, guardX_t, guardX_f, guardX_u, guardX_ite, gd_ite, gd_ite', gd_ite2, gd_ite2', mrg_no, mrg_yes, mrg_ite, mrg_ite', ite_vb, ite_vi, ↓evI_call, ↓evI_calli, ↓evI_callv, ↓evI_mxn, fzL_nil, fzL_cons, nmL_nil, nmL_cons, mpL_nil, mpL_cons, anyB_nil, anyB_cons, callvK_fn, mxnK_cons, evI, eqz_self, evBin_eql, evBin_neq, initFrom, putO, put_at, O.ev, evBin_add, evBin_sub, evBin_mul, evBin_lss, evBin_leq, evBin_gtr, evBin_geq, evBin_quo, evBin_rem, evBin_shr, evBin_shl, evBin_seql, evBin_sneq, evBin_sadd, evUn, A.cp, A.cp1, A.own, A.norm, A.norm1, cst, cst1, takeU, resultOf, resVal, A.isR, A.isC, A.isV, A.cells, Value.oneCell', frz, frzR, frzC, A.hasB, A.scal, A.isVal, optInt, okCell, fillA, capsOf, loopIn, loopIn0, keepL, emp, A.dang, A.dangC, g0, g1, g2, slI, slT, slP, St.c]; rfl), by simp [put_at, g0, g1, g2, slI, slT, slP, St.c]⟩
  · rintro i e hi ⟨g0, g1, g2⟩
    rw [go7_0]
    have hi' : (i : Int) < (s.cores.length : Nat) := by omega
    have hw : IntKind.wrap .i64 ((i : Int) + 1) = (i : Int) + 1 := wrap_in _ (by omega) (by omega)
    have h2 := pure_vi (k := false) (askers_is s i hs)
    have ha : ∀ c : Nat, 0 ≤ askersS s c ∧ askersS s c ≤ 10 := fun c => by
      have := asks_take s c s.tasks.length (by have := hs.tasks; omega)
      rw [List.take_length] at this; exact this
    have h4 := sumN_ge (f := fun c => askersS s c) i fun c _ => (ha c).1
    have h5 := sumN_le (f := fun c => askersS s c) (b := 10) i fun c _ => (ha c).2
    have h6 := ha i
    rw [sumN]
    have hw2 : IntKind.wrap .i64 (sumN (fun c => askersS s c) i + askersS s i) = sumN (fun c => askersS s c) i + askersS s i := wrap_in _ (by omega) (by omega)
    simp only [St.c, slI, slT] at h2
    simp +contextual (maxSteps := 400000) [B7_0, -Int.not_lt, -Int.not_le, Option.bind_assoc, eL_seq, eL_reg, eL_ret, eL_skip, eL_exit, eL_scope, eL_cond, eL_block, gJ_nil, gJ_n, gJ_g, ob_ite, ob_none, ob_some, om_some, om_none, om_ite, seqG_nor, seqG_ex, seqG_ret, blkK_nor, blkK_ex, blkK_ret, resK_nor, resK_ret, condK_vb, runG_some, runG_none, puts_nil, puts_cons, gdOf_some, guardX_t, guardX_f, guardX_u, guardX_ite, gd_ite, gd_ite', gd_ite2, gd_ite2', mrg_no, mrg_yes, mrg_ite, mrg_ite', ite_vb, ite_vi, ↓evI_call, ↓evI_calli, ↓evI_callv, ↓evI_mxn, fzL_nil, fzL_cons, nmL_nil, nmL_cons, mpL_nil, mpL_cons, anyB_nil, anyB_cons, callvK_fn, mxnK_cons, evI, eqz_self, evBin_eql, evBin_neq, initFrom, putO, put_at, O.ev, evBin_add, evBin_sub, evBin_mul, evBin_lss, evBin_leq, evBin_gtr, evBin_geq, evBin_quo, evBin_rem, evBin_shr, evBin_shl, evBin_seql, evBin_sneq, evBin_sadd, evUn, A.cp, A.cp1, A.own, A.norm, A.norm1, cst, cst1, takeU, resultOf, resVal, A.isR, A.isC, A.isV, A.cells, Value.oneCell', frz, frzR, frzC, A.hasB, A.scal, A.isVal, optInt, okCell, fillA, capsOf, loopIn, loopIn0, keepL, emp, A.dang, A.dangC, g0, g1, g2, hi, hi', slI, slT, slP, St.c, hw, hw2, h2]
    (repeat' refine Step.split (fun cc => ?_) (fun cc => ?_)) <;> first | (refine Step.ret0 ?_ ?_ <;> first | (simp_all [put_at, eqz]; done) | (simp [put_at, *]; done) | ((try simp [eqz] at *); omega)) | (refine Step.go ?_ ?_ <;> first | (simp_all [put_at, eqz]; done) | (simp [put_at, *]; done) | ((try simp [eqz] at *); omega)) | (refine Step.ret _ ?_ ?_ <;> first | (simp_all [put_at, eqz]; done) | (simp [put_at, *]; done) | ((try simp [eqz] at *); omega)) | (refine Step.goJ _ (by simp) ?_ ?_ <;> first | (simp_all [put_at, eqz]; done) | (simp [put_at, *]; done) | ((try simp [eqz] at *); omega))
theorem dp_loop4 (s : St) (t : Tk) (ht : PtsOk t.parts) (x y : Int) :
    ∀ d i (e : Env), i + d = t.parts.length → (e 1 = .ptr 0 0 ∧ e 3 = vi x ∧ e 5 = vi y ∧ e 6 = .ptr 1 0 ∧ e 7 = vi (sumL Pt.len (t.parts.take i)) ∧ e 8 = vi 0 ∧ e 9 = vi 0 ∧ e 10 = vi i) → ∃ r, evL tab0 ext0 0 L7_4 (e, [St.c s, Tk.c t]) = some r ∧ FQ (fun _ => false) ([St.c s, Tk.c t]) 4 (fun _ _ => True) (fun e => e 1 = .ptr 0 0 ∧ e 3 = vi x ∧ e 5 = vi y ∧ e 6 = .ptr 1 0 ∧ e 7 = vi (sumL Pt.len t.parts) ∧ e 8 = vi 0 ∧ e 9 = vi 0) i d r := by
  have hc := ht.1
  refine fq_loop (St := fun i e => e 1 = .ptr 0 0 ∧ e 3 = vi x ∧ e 5 = vi y ∧ e 6 = .ptr 1 0 ∧ e 7 = vi (sumL Pt.len (t.parts.take i)) ∧ e 8 = vi 0 ∧ e 9 = vi 0 ∧ e 10 = vi i) _ _ _ _ _ ?_ ?_
  · rintro e ⟨g0, g1, g2, g3, g4, g5, g6, g7⟩
    exact ⟨_, (go7_4 _ _).trans (by simp [B7_4, -Int.not_lt, -Int.not_le, Option.bind_assoc, eL_seq, eL_reg, eL_ret, eL_skip, eL_exit, eL_scope, eL_cond, eL_block, gJ_nil, gJ_n, gJ_g, ob_ite, ob_none, ob_some, om_some, om_none, om_ite, seqG_nor, seqG_ex, seqG_ret, blkK_nor, blkK_ex, blkK_ret, resK_nor, resK_ret, condK_vb, runG_some, runG_none, puts_nil, puts_cons, gdOf_some, guardX_t, guardX_f, guardX_u, guardX_ite, gd_ite, gd_ite', gd_ite2, gd_ite2', mrg_no, mrg_yes, mrg_ite, mrg_ite', ite_vb, ite_vi, ↓evI_call, ↓evI_calli, ↓evI_callv, ↓evI_mxn, fzL_nil, fzL_cons, nmL_nil, nmL_cons, mpL_nil, mpL_cons, anyB_nil, anyB_cons, callvK_fn, mxnK_cons, evI, eqz_self, evBin_eql, evBin_neq, initFrom, putO, put_at, O.ev, evBin_add, evBin_sub, evBin_mul, evBin_lss, evBin_leq, evBin_gtr, evBin_geq, evBin_quo, evBin_rem, evBin_shr, evBin_shl, evBin_seql, evBin_sneq, evBin_sadd, evUn, A.cp, A.cp1, A.own, A.norm, A.norm1, cst, cst1, takeU, resultOf, resVal, A.isR, A.isC, A.isV, A.cells, Value.oneCell', frz, frzR, frzC, A.hasB, A.scal, A.isVal, optInt, okCell, fillA, capsOf, loopIn, loopIn0, keepL, emp, A.dang, A.dangC, g0, g1, g2, g3, g4, g5, g6, g7, slI, slT, slP, St.c, Tk.c, Pt.c]; rfl), by simp [put_at, g0, g1, g2, g3, g4, g5, g6, g7, slI, slT, slP, St.c, Tk.c, Pt.c]⟩
  · rintro i e hi ⟨g0, g1, g2, g3, g4, g5, g6, g7⟩
    rw [go7_4]
    have hi' : (i : Int) < (t.parts.length : Nat) := by omega
    have hw : IntKind.wrap .i64 ((i : Int) + 1) = (i : Int) + 1 := wrap_in _ (by omega) (by omega)
    rw [sumL_take _ _ _ hi]
    have h2 := ht.2 _ (List.getElem_mem hi)
    have h3 := sumL_ge Pt.len (t.parts.take i) fun p hp => by have := ht.2 p (List.mem_of_mem_take hp); omega
    have h4 := sumL_le Pt.len 60 (t.parts.take i) fun p hp => by have := ht.2 p (List.mem_of_mem_take hp); omega
    have h5 : (t.parts.take i).length ≤ 10 := by rw [List.length_take]; omega
    have hw2 : IntKind.wrap .i64 (sumL Pt.len (t.parts.take i) + t.parts[i].len) = sumL Pt.len (t.parts.take i) + t.parts[i].len := wrap_in _ (by omega) (by omega)
    simp +contextual (maxSteps := 400000) [B7_4, -Int.not_lt, -Int.not_le, Option.bind_assoc, eL_seq, eL_reg, eL_ret, eL_skip, eL_exit, eL_scope, eL_cond, eL_block, gJ_nil, gJ_n, gJ_g, ob_ite, ob_none, ob_some, om_some, om_none, om_ite, seqG_nor, seqG_ex, seqG_ret, blkK_nor, blkK_ex, blkK_ret, resK_nor, resK_ret, condK_vb, runG_some, runG_none, puts_nil, puts_cons, gdOf_some, guardX_t, guardX_f, guardX_u, guardX_ite, gd_ite, gd_ite', gd_ite2, gd_ite2', mrg_no, mrg_yes, mrg_ite, mrg_ite', ite_vb, ite_vi, ↓evI_call, ↓evI_calli, ↓evI_callv, ↓evI_mxn, fzL_nil, fzL_cons, nmL_nil, nmL_cons, mpL_nil, mpL_cons, anyB_nil, anyB_cons, callvK_fn, mxnK_cons, evI, eqz_self, evBin_eql, evBin_neq, initFrom, putO, put_at, O.ev, evBin_add, evBin_sub, evBin_mul, evBin_lss, evBin_leq, evBin_gtr, evBin_geq, evBin_quo, evBin_rem, evBin_shr, evBin_shl, evBin_seql, evBin_sneq, evBin_sadd, evUn, A.cp, A.cp1, A.own, A.norm, A.norm1, cst, cst1, takeU, resultOf, resVal, A.isR, A.isC, A.isV, A.cells, Value.oneCell', frz, frzR, frzC, A.hasB, A.scal, A.isVal, optInt, okCell, fillA, capsOf, loopIn, loopIn0, keepL, emp, A.dang, A.dangC, g0, g1, g2, g3, g4, g5, g6, g7, hi, hi', slI, slT, slP, St.c, Tk.c, Pt.c, drop_pt _ i hi, hw, hw2]
    (repeat' refine Step.split (fun cc => ?_) (fun cc => ?_)) <;> first | (refine Step.ret0 ?_ ?_ <;> first | (simp_all [put_at, eqz]; done) | (simp [put_at, *]; done) | ((try simp [eqz] at *); omega)) | (refine Step.go ?_ ?_ <;> first | (simp_all [put_at, eqz]; done) | (simp [put_at, *]; done) | ((try simp [eqz] at *); omega)) | (refine Step.ret _ ?_ ?_ <;> first | (simp_all [put_at, eqz]; done) | (simp [put_at, *]; done) | ((try simp [eqz] at *); omega)) | (refine Step.goJ _ (by simp) ?_ ?_ <;> first | (simp_all [put_at, eqz]; done) | (simp [put_at, *]; done) | ((try simp [eqz] at *); omega))
theorem dp_loop6 (s : St) (hs : Sm s) (t : Tk) (m : Nat) (x y : Int) :
    ∀ d i (e : Env), i + d = s.cores.length → (e 1 = .ptr 0 0 ∧ e 3 = vi x ∧ e 5 = vi m ∧ e 6 = .ptr 1 0 ∧ e 7 = vi y ∧ e 8 = vi (sumN (fun c => atS s m c) i) ∧ e 9 = vi (maxN (fun c => mostS s m c) i) ∧ e 11 = vi i) → ∃ r, evL tab0 ext0 0 L7_6 (e, [St.c s, Tk.c t]) = some r ∧ FQ (fun _ => false) ([St.c s, Tk.c t]) 6 (fun _ _ => True) (fun e => e 1 = .ptr 0 0 ∧ e 3 = vi x ∧ e 5 = vi m ∧ e 6 = .ptr 1 0 ∧ e 7 = vi y ∧ e 8 = vi (sumN (fun c => atS s m c) s.cores.length) ∧ e 9 = vi (maxN (fun c => mostS s m c) s.cores.length)) i d r := by
  have hc := hs.cores
  refine fq_loop (St := fun i e => e 1 = .ptr 0 0 ∧ e 3 = vi x ∧ e 5 = vi m ∧ e 6 = .ptr 1 0 ∧ e 7 = vi y ∧ e 8 = vi (sumN (fun c => atS s m c) i) ∧ e 9 = vi (maxN (fun c => mostS s m c) i) ∧ e 11 = vi i) _ _ _ _ _ ?_ ?_
  · rintro e ⟨g0, g1, g2, g3, g4, g5, g6, g7⟩
    exact ⟨_, (go7_6 _ _).trans (by simp [B7_6, -Int.not_lt, -Int.not_le, Option.bind_assoc, eL_seq, eL_reg, eL_ret, eL_skip, eL_exit, eL_scope, eL_cond, eL_block, gJ_nil, gJ_n, gJ_g, ob_ite, ob_none, ob_some, om_some, om_none, om_ite, seqG_nor, seqG_ex, seqG_ret, blkK_nor, blkK_ex, blkK_ret, resK_nor, resK_ret, condK_vb, runG_some, runG_none, puts_nil, puts_cons, gdOf_some, guardX_t, guardX_f, guardX_u, guardX_ite, gd_ite, gd_ite', gd_ite2, gd_ite2', mrg_no, mrg_yes, mrg_ite, mrg_ite', ite_vb, ite_vi, ↓evI_call, ↓evI_calli, ↓evI_callv, ↓evI_mxn, fzL_nil, fzL_cons, nmL_nil, nmL_cons, mpL_nil, mpL_cons, anyB_nil, anyB_cons, callvK_fn, mxnK_cons, evI, eqz_self, evBin_eql, evBin_neq, initFrom, putO, put_at, O.ev, evBin_add, evBin_sub, evBin_mul, evBin_lss, evBin_leq, evBin_gtr, evBin_geq, evBin_quo, evBin_rem, evBin_shr, evBin_shl, evBin_seql, evBin_sneq, evBin_sadd, evUn, A.cp, A.cp1, A.own, A.norm, A.norm1, cst, cst1, takeU, resultOf, resVal, A.isR, A.isC, A.isV, A.cells, Value.oneCell', frz, frzR, frzC, A.hasB, A.scal, A.isVal, optInt, okCell, fillA, capsOf, loopIn, loopIn0, keepL, emp, A.dang, A.dangC, g0, g1, g2, g3, g4, g5, g6, g7, slI, slT, slP, St.c, Tk.c, Pt.c]; rfl), by simp [put_at, g0, g1, g2, g3, g4, g5, g6, g7, slI, slT, slP, St.c, Tk.c, Pt.c]⟩
  · rintro i e hi ⟨g0, g1, g2, g3, g4, g5, g6, g7⟩
    rw [go7_6]
    have hi' : (i : Int) < (s.cores.length : Nat) := by omega
    have hw : IntKind.wrap .i64 ((i : Int) + 1) = (i : Int) + 1 := wrap_in _ (by omega) (by omega)
    have h2 := pure_vi (k := false) (at_is s m i hs.fits)
    have h3 := pure_vi (k := false) (most_is s m i hs.fits)
    have ha : ∀ c : Nat, 0 ≤ atS s m c ∧ atS s m c ≤ 600 := fun c => by
      have := sum60 (homedS_pts s m c) (homedS s m c).length
      rw [List.take_length] at this; exact this
    have h4 := sumN_ge (f := fun c => atS s m c) i fun c _ => (ha c).1
    have h5 := sumN_le (f := fun c => atS s m c) (b := 600) i fun c _ => (ha c).2
    have h6 := ha i
    rw [sumN, maxN, max_if]
    have hw2 : IntKind.wrap .i64 (sumN (fun c => atS s m c) i + atS s m i) = sumN (fun c => atS s m c) i + atS s m i := wrap_in _ (by omega) (by omega)
    simp only [St.c, slI, slT] at h2 h3
    simp +contextual (maxSteps := 400000) [B7_6, -Int.not_lt, -Int.not_le, Option.bind_assoc, eL_seq, eL_reg, eL_ret, eL_skip, eL_exit, eL_scope, eL_cond, eL_block, gJ_nil, gJ_n, gJ_g, ob_ite, ob_none, ob_some, om_some, om_none, om_ite, seqG_nor, seqG_ex, seqG_ret, blkK_nor, blkK_ex, blkK_ret, resK_nor, resK_ret, condK_vb, runG_some, runG_none, puts_nil, puts_cons, gdOf_some, guardX_t, guardX_f, guardX_u, guardX_ite, gd_ite, gd_ite', gd_ite2, gd_ite2', mrg_no, mrg_yes, mrg_ite, mrg_ite', ite_vb, ite_vi, ↓evI_call, ↓evI_calli, ↓evI_callv, ↓evI_mxn, fzL_nil, fzL_cons, nmL_nil, nmL_cons, mpL_nil, mpL_cons, anyB_nil, anyB_cons, callvK_fn, mxnK_cons, evI, eqz_self, evBin_eql, evBin_neq, initFrom, putO, put_at, O.ev, evBin_add, evBin_sub, evBin_mul, evBin_lss, evBin_leq, evBin_gtr, evBin_geq, evBin_quo, evBin_rem, evBin_shr, evBin_shl, evBin_seql, evBin_sneq, evBin_sadd, evUn, A.cp, A.cp1, A.own, A.norm, A.norm1, cst, cst1, takeU, resultOf, resVal, A.isR, A.isC, A.isV, A.cells, Value.oneCell', frz, frzR, frzC, A.hasB, A.scal, A.isVal, optInt, okCell, fillA, capsOf, loopIn, loopIn0, keepL, emp, A.dang, A.dangC, g0, g1, g2, g3, g4, g5, g6, g7, hi, hi', slI, slT, slP, St.c, Tk.c, Pt.c, hw, hw2, h2, h3, foldM]
    (repeat' refine Step.split (fun cc => ?_) (fun cc => ?_)) <;> first | (refine Step.ret0 ?_ ?_ <;> first | (simp_all [put_at, eqz]; done) | (simp [put_at, *]; done) | ((try simp [eqz] at *); omega)) | (refine Step.go ?_ ?_ <;> first | (simp_all [put_at, eqz]; done) | (simp [put_at, *]; done) | ((try simp [eqz] at *); omega)) | (refine Step.ret _ ?_ ?_ <;> first | (simp_all [put_at, eqz]; done) | (simp [put_at, *]; done) | ((try simp [eqz] at *); omega)) | (refine Step.goJ _ (by simp) ?_ ?_ <;> first | (simp_all [put_at, eqz]; done) | (simp [put_at, *]; done) | ((try simp [eqz] at *); omega))
theorem has_bounds (l : List Tk) : 0 ≤ sumL has l ∧ sumL has l ≤ l.length := by
  refine ⟨sumL_ge _ _ fun t _ => by unfold has; split <;> omega, ?_⟩
  have := sumL_le has 1 l fun t _ => by unfold has; split <;> omega
  omega
theorem dp_loop2 (s : St) (hs : Sm s) (g : Good s) (T : Int) (hT : 0 ≤ T ∧ T ≤ 10) :
    ∀ d i (e : Env), i + d = s.tasks.length → (e 1 = .ptr 0 0 ∧ e 3 = vi (T - sumL has (s.tasks.take i)) ∧ e 5 = vi i) → ∃ r, evL tab0 ext0 0 L7_2 (e, [St.c s]) = some r ∧ FQ (fun _ => false) ([St.c s]) 2 (fun _ _ => True) (fun e => e 3 = vi (T - sumL has s.tasks)) i d r := by
  have hc := hs.tasks
  refine fq_loop (St := fun i e => e 1 = .ptr 0 0 ∧ e 3 = vi (T - sumL has (s.tasks.take i)) ∧ e 5 = vi i) _ _ _ _ _ ?_ ?_
  · rintro e ⟨g0, g1, g2⟩
    exact ⟨_, (go7_2 _ _).trans (by simp [B7_2, -Int.not_lt, -Int.not_le, Option.bind_assoc, eL_seq, eL_reg, eL_ret, eL_skip, eL_exit, eL_scope, eL_cond, eL_block, gJ_nil, gJ_n, gJ_g, ob_ite, ob_none, ob_some, om_some, om_none, om_ite, seqG_nor, seqG_ex, seqG_ret, blkK_nor, blkK_ex, blkK_ret, resK_nor, resK_ret, condK_vb, runG_some, runG_none, puts_nil, puts_cons, gdOf_some, guardX_t, guardX_f, guardX_u, guardX_ite, gd_ite, gd_ite', gd_ite2, gd_ite2', mrg_no, mrg_yes, mrg_ite, mrg_ite', ite_vb, ite_vi, ↓evI_call, ↓evI_calli, ↓evI_callv, ↓evI_mxn, fzL_nil, fzL_cons, nmL_nil, nmL_cons, mpL_nil, mpL_cons, anyB_nil, anyB_cons, callvK_fn, mxnK_cons, evI, eqz_self, evBin_eql, evBin_neq, initFrom, putO, put_at, O.ev, evBin_add, evBin_sub, evBin_mul, evBin_lss, evBin_leq, evBin_gtr, evBin_geq, evBin_quo, evBin_rem, evBin_shr, evBin_shl, evBin_seql, evBin_sneq, evBin_sadd, evUn, A.cp, A.cp1, A.own, A.norm, A.norm1, cst, cst1, takeU, resultOf, resVal, A.isR, A.isC, A.isV, A.cells, Value.oneCell', frz, frzR, frzC, A.hasB, A.scal, A.isVal, optInt, okCell, fillA, capsOf, loopIn, loopIn0, keepL, emp, A.dang, A.dangC, g0, g1, g2, slI, slT, slP, St.c, Tk.c]; rfl), by simp [put_at, g0, g1, g2, slI, slT, slP, St.c, Tk.c]⟩
  · rintro i e hi ⟨g0, g1, g2⟩
    rw [go7_2]
    have hi' : (i : Int) < (s.tasks.length : Nat) := by omega
    have hw : IntKind.wrap .i64 ((i : Int) + 1) = (i : Int) + 1 := wrap_in _ (by omega) (by omega)
    have hm := List.getElem_mem hi
    have hp := g.pts hm
    have l4 := dp_loop4 s s.tasks[i] hp (T - sumL has (s.tasks.take i)) i s.tasks[i].parts.length 0
    have l6 := dp_loop6 s hs s.tasks[i] i (T - sumL has (s.tasks.take i)) (sumL Pt.len s.tasks[i].parts) s.cores.length 0
    rw [at_all g i hi, most_all g i hi] at l6
    have h1 := pure_vi (k := false) (longest_is s.tasks[i] (by have := hp.1; omega))
    have h2 := pure_vi (k := false) (kind_31 s.tasks[i] hp)
    have h3 := pure_vi (k := false) (kind_32 s.tasks[i] hp)
    have h4 := pure_vi (k := false) (kind_33 s.tasks[i] hp)
    have h5 := all_kinds g hm
    have b1 := hp.take s.tasks[i].parts.length 1
    have b2 := hp.take s.tasks[i].parts.length 2
    have b3 := hp.take s.tasks[i].parts.length 3
    rw [List.take_length] at b1 b2 b3
    have w1 : IntKind.wrap .i64 (allK s.tasks[i].parts 1 + allK s.tasks[i].parts 2) = allK s.tasks[i].parts 1 + allK s.tasks[i].parts 2 := by unfold allK; exact wrap_in _ (by omega) (by omega)
    have w4 : IntKind.wrap .i64 (sumL Pt.len s.tasks[i].parts) = sumL Pt.len s.tasks[i].parts := by unfold allK at h5; exact wrap_in _ (by omega) (by omega)
    have w2 : IntKind.wrap .i64 (allK s.tasks[i].parts 1 + allK s.tasks[i].parts 2 + allK s.tasks[i].parts 3) = allK s.tasks[i].parts 1 + allK s.tasks[i].parts 2 + allK s.tasks[i].parts 3 := by unfold allK; exact wrap_in _ (by omega) (by omega)
    have b4 := has_bounds (s.tasks.take i)
    have b5 : (s.tasks.take i).length ≤ 10 := by rw [List.length_take]; omega
    have w3 : IntKind.wrap .i64 (T - sumL has (s.tasks.take i) - 1) = T - sumL has (s.tasks.take i) - 1 := wrap_in _ (by omega) (by omega)
    have e1 : sumL has (s.tasks.take (i + 1)) = sumL has (s.tasks.take i) + (if 0 < longest s.tasks[i].parts then 1 else 0) := by rw [sumL_take _ _ _ hi]; rfl
    rw [e1]
    generalize sumL has (s.tasks.take i) = q at l4 l6 w3 g1 ⊢
    simp only [St.c, slI, slT, slP, Tk.c] at h1 h2 h3 h4 l4 l6
    simp +contextual (maxSteps := 400000) [B7_2, -Int.not_lt, -Int.not_le, Option.bind_assoc, eL_seq, eL_reg, eL_ret, eL_skip, eL_exit, eL_scope, eL_cond, eL_block, gJ_nil, gJ_n, gJ_g, ob_ite, ob_none, ob_some, om_some, om_none, om_ite, seqG_nor, seqG_ex, seqG_ret, blkK_nor, blkK_ex, blkK_ret, resK_nor, resK_ret, condK_vb, runG_some, runG_none, puts_nil, puts_cons, gdOf_some, guardX_t, guardX_f, guardX_u, guardX_ite, gd_ite, gd_ite', gd_ite2, gd_ite2', mrg_no, mrg_yes, mrg_ite, mrg_ite', ite_vb, ite_vi, ↓evI_call, ↓evI_calli, ↓evI_callv, ↓evI_mxn, fzL_nil, fzL_cons, nmL_nil, nmL_cons, mpL_nil, mpL_cons, anyB_nil, anyB_cons, callvK_fn, mxnK_cons, evI, eqz_self, evBin_eql, evBin_neq, initFrom, putO, put_at, O.ev, evBin_add, evBin_sub, evBin_mul, evBin_lss, evBin_leq, evBin_gtr, evBin_geq, evBin_quo, evBin_rem, evBin_shr, evBin_shl, evBin_seql, evBin_sneq, evBin_sadd, evUn, A.cp, A.cp1, A.own, A.norm, A.norm1, cst, cst1, takeU, resultOf, resVal, A.isR, A.isC, A.isV, A.cells, Value.oneCell', frz, frzR, frzC, A.hasB, A.scal, A.isVal, optInt, okCell, fillA, capsOf, loopIn, loopIn0, keepL, emp, A.dang, A.dangC, g0, g1, g2, hi, hi', slI, slT, slP, St.c, Tk.c, drop_tk _ i hi, hw]
    refine behindP (P := fun r => Step _ _ _ _ _ r) (l4 _ (by omega) (by simp [put_at, sumL])) ?_
    intro a h
    obtain ⟨e', rfl, hx⟩ := h.never; clear h; have h := hx
    obtain ⟨k1, k3, k5, k6, k7, k8, k9⟩ := h
    simp [-Int.not_lt, -Int.not_le, Option.bind_assoc, eL_seq, eL_reg, eL_ret, eL_skip, eL_exit, eL_scope, eL_cond, eL_block, gJ_nil, gJ_n, gJ_g, ob_ite, ob_none, ob_some, om_some, om_none, om_ite, seqG_nor, seqG_ex, seqG_ret, blkK_nor, blkK_ex, blkK_ret, resK_nor, resK_ret, condK_vb, runG_some, runG_none, puts_nil, puts_cons, gdOf_some, guardX_t, guardX_f, guardX_u, guardX_ite, gd_ite, gd_ite', gd_ite2, gd_ite2', mrg_no, mrg_yes, mrg_ite, mrg_ite', ite_vb, ite_vi, ↓evI_call, ↓evI_calli, ↓evI_callv, ↓evI_mxn, fzL_nil, fzL_cons, nmL_nil, nmL_cons, mpL_nil, mpL_cons, anyB_nil, anyB_cons, callvK_fn, mxnK_cons, evI, eqz_self, evBin_eql, evBin_neq, initFrom, putO, put_at, O.ev, evBin_add, evBin_sub, evBin_mul, evBin_lss, evBin_leq, evBin_gtr, evBin_geq, evBin_quo, evBin_rem, evBin_shr, evBin_shl, evBin_seql, evBin_sneq, evBin_sadd, evUn, A.cp, A.cp1, A.own, A.norm, A.norm1, cst, cst1, takeU, resultOf, resVal, A.isR, A.isC, A.isV, A.cells, Value.oneCell', frz, frzR, frzC, A.hasB, A.scal, A.isVal, optInt, okCell, fillA, capsOf, k1, k3, k5, k6, k7, k8, k9]
    refine behindP (P := fun r => Step _ _ _ _ _ r) (l6 _ (by omega) (by simp [put_at, k1, k3, k5, k6, k7, k8, k9, sumN, maxN])) ?_
    intro a h
    obtain ⟨e', rfl, hx⟩ := h.never; clear h; have h := hx
    clear hx k1 k3 k5 k6 k7 k8 k9
    obtain ⟨k1, k3, k5, k6, k7, k8, k9⟩ := h
    simp +contextual [-Int.not_lt, -Int.not_le, Option.bind_assoc, eL_seq, eL_reg, eL_ret, eL_skip, eL_exit, eL_scope, eL_cond, eL_block, gJ_nil, gJ_n, gJ_g, ob_ite, ob_none, ob_some, om_some, om_none, om_ite, seqG_nor, seqG_ex, seqG_ret, blkK_nor, blkK_ex, blkK_ret, resK_nor, resK_ret, condK_vb, runG_some, runG_none, puts_nil, puts_cons, gdOf_some, guardX_t, guardX_f, guardX_u, guardX_ite, gd_ite, gd_ite', gd_ite2, gd_ite2', mrg_no, mrg_yes, mrg_ite, mrg_ite', ite_vb, ite_vi, ↓evI_call, ↓evI_calli, ↓evI_callv, ↓evI_mxn, fzL_nil, fzL_cons, nmL_nil, nmL_cons, mpL_nil, mpL_cons, anyB_nil, anyB_cons, callvK_fn, mxnK_cons, evI, eqz_self, evBin_eql, evBin_neq, initFrom, putO, put_at, O.ev, evBin_add, evBin_sub, evBin_mul, evBin_lss, evBin_leq, evBin_gtr, evBin_geq, evBin_quo, evBin_rem, evBin_shr, evBin_shl, evBin_seql, evBin_sneq, evBin_sadd, evUn, A.cp, A.cp1, A.own, A.norm, A.norm1, cst, cst1, takeU, resultOf, resVal, A.isR, A.isC, A.isV, A.cells, Value.oneCell', frz, frzR, frzC, A.hasB, A.scal, A.isVal, optInt, okCell, fillA, capsOf, k1, k3, k5, k6, k7, k8, k9, h1, h2, h3, h4, w1, w2, w3, w4, h5, eqz_self, hw]
    refine Step.split (fun cc => ?_) (fun cc => ?_) <;> refine Step.goJ _ (by simp) rfl ?_ <;> simp [put_at, cc, k1, k3] <;> omega
theorem demandParts_is (s : St) (_ : s.ok) : Ans (vb true) [] (callL tab0 ext0 7 [.agg (St.c s)] []) := by
  rw [callL_tab _ _ rfl tab7 rfl]
  have h1 := pure_vb (k := false) known_24
  have h2 := pure_vb (k := false) (few_is_25 s)
  rcases (Bool.eq_false_or_eq_true (few8 s)).symm with hs | hs
  · rw [hs] at h2
    simp only [St.c, slI, slT] at h2
    simp [C7, -Int.not_lt, -Int.not_le, Option.bind_assoc, eL_seq, eL_reg, eL_ret, eL_skip, eL_exit, eL_scope, eL_cond, eL_block, gJ_nil, gJ_n, gJ_g, ob_ite, ob_none, ob_some, om_some, om_none, om_ite, seqG_nor, seqG_ex, seqG_ret, blkK_nor, blkK_ex, blkK_ret, resK_nor, resK_ret, condK_vb, runG_some, runG_none, puts_nil, puts_cons, gdOf_some, guardX_t, guardX_f, guardX_u, guardX_ite, gd_ite, gd_ite', gd_ite2, gd_ite2', mrg_no, mrg_yes, mrg_ite, mrg_ite', ite_vb, ite_vi, ↓evI_call, ↓evI_calli, ↓evI_callv, ↓evI_mxn, fzL_nil, fzL_cons, nmL_nil, nmL_cons, mpL_nil, mpL_cons, anyB_nil, anyB_cons, callvK_fn, mxnK_cons, evI, eqz_self, evBin_eql, evBin_neq, initFrom, putO, put_at, O.ev, evBin_add, evBin_sub, evBin_mul, evBin_lss, evBin_leq, evBin_gtr, evBin_geq, evBin_quo, evBin_rem, evBin_shr, evBin_shl, evBin_seql, evBin_sneq, evBin_sadd, evUn, A.cp, A.cp1, A.own, A.norm, A.norm1, cst, cst1, takeU, resultOf, resVal, A.isR, A.isC, A.isV, A.cells, Value.oneCell', frz, frzR, frzC, A.hasB, A.scal, A.isVal, optInt, okCell, fillA, capsOf, St.c, slI, slT, h1, h2]
    exact ⟨_, rfl⟩
  rw [hs] at h2
  have hs := few8_sm s hs
  have h3 := pure_vi (k := false) (cores_is s hs.fits)
  rcases (Bool.eq_false_or_eq_true (okS s)).symm with hk | hk
  · have : coresS s = 0 := by unfold coresS; rw [hk]; rfl
    rw [this] at h3
    simp only [St.c, slI, slT] at h2 h3
    simp [C7, -Int.not_lt, -Int.not_le, Option.bind_assoc, eL_seq, eL_reg, eL_ret, eL_skip, eL_exit, eL_scope, eL_cond, eL_block, gJ_nil, gJ_n, gJ_g, ob_ite, ob_none, ob_some, om_some, om_none, om_ite, seqG_nor, seqG_ex, seqG_ret, blkK_nor, blkK_ex, blkK_ret, resK_nor, resK_ret, condK_vb, runG_some, runG_none, puts_nil, puts_cons, gdOf_some, guardX_t, guardX_f, guardX_u, guardX_ite, gd_ite, gd_ite', gd_ite2, gd_ite2', mrg_no, mrg_yes, mrg_ite, mrg_ite', ite_vb, ite_vi, ↓evI_call, ↓evI_calli, ↓evI_callv, ↓evI_mxn, fzL_nil, fzL_cons, nmL_nil, nmL_cons, mpL_nil, mpL_cons, anyB_nil, anyB_cons, callvK_fn, mxnK_cons, evI, eqz_self, evBin_eql, evBin_neq, initFrom, putO, put_at, O.ev, evBin_add, evBin_sub, evBin_mul, evBin_lss, evBin_leq, evBin_gtr, evBin_geq, evBin_quo, evBin_rem, evBin_shr, evBin_shl, evBin_seql, evBin_sneq, evBin_sadd, evUn, A.cp, A.cp1, A.own, A.norm, A.norm1, cst, cst1, takeU, resultOf, resVal, A.isR, A.isC, A.isV, A.cells, Value.oneCell', frz, frzR, frzC, A.hasB, A.scal, A.isVal, optInt, okCell, fillA, capsOf, St.c, slI, slT, h1, h2, h3]
    exact ⟨_, rfl⟩
  have g := (okS_iff s).1 hk
  have hc : eqz (coresS s) 0 = false := by
    unfold coresS; rw [if_pos hk]
    have := g.cores
    rcases hcs : s.cores with _ | ⟨a, l⟩
    · rw [hcs] at this; simp at this
    · have h1 := g.core a (by rw [hcs]; simp)
      have h2 := sumL_ge id l fun x hx => by have := g.core x (by rw [hcs]; simp [hx]); simp only [id]; omega
      have e : sumL id (a :: l) = a + sumL id l := rfl
      rw [e]; unfold eqz; rw [decide_eq_false_iff_not]; omega
  have l0 := dp_loop0 s hs s.cores.length 0
  have hb := has_bounds s.tasks
  have ht := g.tasks
  have l2 := dp_loop2 s hs g (sumL has s.tasks) ⟨hb.1, by omega⟩ s.tasks.length 0
  rw [askers_all g] at l0
  rw [show sumL has s.tasks - sumL has s.tasks = 0 by omega] at l2
  generalize sumL has s.tasks = q at l0 l2
  simp only [St.c, slI, slT] at h2 h3 l0 l2
  simp [C7, -Int.not_lt, -Int.not_le, Option.bind_assoc, eL_seq, eL_reg, eL_ret, eL_skip, eL_exit, eL_scope, eL_cond, eL_block, gJ_nil, gJ_n, gJ_g, ob_ite, ob_none, ob_some, om_some, om_none, om_ite, seqG_nor, seqG_ex, seqG_ret, blkK_nor, blkK_ex, blkK_ret, resK_nor, resK_ret, condK_vb, runG_some, runG_none, puts_nil, puts_cons, gdOf_some, guardX_t, guardX_f, guardX_u, guardX_ite, gd_ite, gd_ite', gd_ite2, gd_ite2', mrg_no, mrg_yes, mrg_ite, mrg_ite', ite_vb, ite_vi, ↓evI_call, ↓evI_calli, ↓evI_callv, ↓evI_mxn, fzL_nil, fzL_cons, nmL_nil, nmL_cons, mpL_nil, mpL_cons, anyB_nil, anyB_cons, callvK_fn, mxnK_cons, evI, eqz_self, evBin_eql, evBin_neq, initFrom, putO, put_at, O.ev, evBin_add, evBin_sub, evBin_mul, evBin_lss, evBin_leq, evBin_gtr, evBin_geq, evBin_quo, evBin_rem, evBin_shr, evBin_shl, evBin_seql, evBin_sneq, evBin_sadd, evUn, A.cp, A.cp1, A.own, A.norm, A.norm1, cst, cst1, takeU, resultOf, resVal, A.isR, A.isC, A.isV, A.cells, Value.oneCell', frz, frzR, frzC, A.hasB, A.scal, A.isVal, optInt, okCell, fillA, capsOf, St.c, slI, slT, h1, h2, h3, hc]
  refine behindP (P := fun r => Ans _ [] r) (l0 _ (by omega) (by simp [put_at, sumN])) ?_
  intro a h
  obtain ⟨e', rfl, hx⟩ := h.never; clear h; have h := hx
  obtain ⟨k1, k3⟩ := h
  simp [-Int.not_lt, -Int.not_le, Option.bind_assoc, eL_seq, eL_reg, eL_ret, eL_skip, eL_exit, eL_scope, eL_cond, eL_block, gJ_nil, gJ_n, gJ_g, ob_ite, ob_none, ob_some, om_some, om_none, om_ite, seqG_nor, seqG_ex, seqG_ret, blkK_nor, blkK_ex, blkK_ret, resK_nor, resK_ret, condK_vb, runG_some, runG_none, puts_nil, puts_cons, gdOf_some, guardX_t, guardX_f, guardX_u, guardX_ite, gd_ite, gd_ite', gd_ite2, gd_ite2', mrg_no, mrg_yes, mrg_ite, mrg_ite', ite_vb, ite_vi, ↓evI_call, ↓evI_calli, ↓evI_callv, ↓evI_mxn, fzL_nil, fzL_cons, nmL_nil, nmL_cons, mpL_nil, mpL_cons, anyB_nil, anyB_cons, callvK_fn, mxnK_cons, evI, eqz_self, evBin_eql, evBin_neq, initFrom, putO, put_at, O.ev, evBin_add, evBin_sub, evBin_mul, evBin_lss, evBin_leq, evBin_gtr, evBin_geq, evBin_quo, evBin_rem, evBin_shr, evBin_shl, evBin_seql, evBin_sneq, evBin_sadd, evUn, A.cp, A.cp1, A.own, A.norm, A.norm1, cst, cst1, takeU, resultOf, resVal, A.isR, A.isC, A.isV, A.cells, Value.oneCell', frz, frzR, frzC, A.hasB, A.scal, A.isVal, optInt, okCell, fillA, capsOf, k1, k3]
  refine behindP (P := fun r => Ans _ [] r) (l2 _ (by omega) (by simp [put_at, k1, k3, sumL])) ?_
  intro a h
  obtain ⟨e', rfl, hx⟩ := h.never; clear h; have h := hx
  simp [-Int.not_lt, -Int.not_le, Option.bind_assoc, eL_seq, eL_reg, eL_ret, eL_skip, eL_exit, eL_scope, eL_cond, eL_block, gJ_nil, gJ_n, gJ_g, ob_ite, ob_none, ob_some, om_some, om_none, om_ite, seqG_nor, seqG_ex, seqG_ret, blkK_nor, blkK_ex, blkK_ret, resK_nor, resK_ret, condK_vb, runG_some, runG_none, puts_nil, puts_cons, gdOf_some, guardX_t, guardX_f, guardX_u, guardX_ite, gd_ite, gd_ite', gd_ite2, gd_ite2', mrg_no, mrg_yes, mrg_ite, mrg_ite', ite_vb, ite_vi, ↓evI_call, ↓evI_calli, ↓evI_callv, ↓evI_mxn, fzL_nil, fzL_cons, nmL_nil, nmL_cons, mpL_nil, mpL_cons, anyB_nil, anyB_cons, callvK_fn, mxnK_cons, evI, eqz_self, evBin_eql, evBin_neq, initFrom, putO, put_at, O.ev, evBin_add, evBin_sub, evBin_mul, evBin_lss, evBin_leq, evBin_gtr, evBin_geq, evBin_quo, evBin_rem, evBin_shr, evBin_shl, evBin_seql, evBin_sneq, evBin_sadd, evUn, A.cp, A.cp1, A.own, A.norm, A.norm1, cst, cst1, takeU, resultOf, resVal, A.isR, A.isC, A.isV, A.cells, Value.oneCell', frz, frzR, frzC, A.hasB, A.scal, A.isVal, optInt, okCell, fillA, capsOf, h]
  exact ⟨_, rfl⟩
end Go.Proofs.YtkohggddaheefaaEv
