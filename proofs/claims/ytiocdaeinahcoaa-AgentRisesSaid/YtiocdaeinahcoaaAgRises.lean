/- swingbridgelaw14.AgentRises. -/
import Derived.Test.YtiocdaeinahcoaaAgLeast
set_option linter.unusedSimpArgs false
set_option linter.unusedVariables false
namespace Go.Proofs.YtiocdaeinahcoaaEv
open Go
set_option maxHeartbeats 2000000
/-! ### the plain law -/
theorem higher_mono_b {s : St} {bs cs : List Int} (hl : bs.length = cs.length) (h : ∀ i, bAt bs i = bAt cs i ∨ (0 ≤ bAt bs i ∧ bAt bs i ≤ bAt cs i)) (n c w : Int) : higherS s bs n c w ≤ higherS s cs n c w := by
  unfold higherS
  by_cases hc : thereS s n = true ∧ bs.length = s.tasks.length
  · rw [if_pos hc, if_pos (by rw [← hl]; exact hc)]
    have := sumN_mono (f := hiF s bs n.toNat c w) (g := hiF s cs n.toNat c w) s.tasks.length fun i _ => by
      unfold hiF; split
      · rcases h i with h | ⟨h1, h2⟩
        · rw [h]; omega
        · exact work_mono (Int.le_refl _) h2 h1 (Int.le_refl _)
      · omega
    omega
  · rw [if_neg hc, if_neg (by rw [← hl]; exact hc)]; omega
theorem agent_mono_b {s : St} {bs cs : List Int} (hl : bs.length = cs.length) (h : ∀ i, bAt bs i = bAt cs i ∨ (0 ≤ bAt bs i ∧ bAt bs i ≤ bAt cs i)) (n k : Int) (b : Int) (hb : agentS s cs n k = some b) : ∃ a, agentS s bs n k = some a ∧ a ≤ b := by
  unfold agentS at hb ⊢
  split at hb
  · rename_i hlc
    rw [if_pos (by omega)]
    cases hk : lockS s n k with
    | none => rw [hk] at hb; cases hb
    | some p =>
      rw [hk] at hb
      simp only [Option.bind_some] at hb ⊢
      obtain ⟨h1, h2, h3, _⟩ := lfp_some.1 hb
      refine lfp_pre (fun u v _ h => by have := higher_mono_w s bs n (homeOf s p) h; omega) (fun v _ => by have := higher_bounds s bs n (homeOf s p) v; omega) h1 h2 ?_
      have := higher_mono_b (s := s) hl h n (homeOf s p) b
      omega
  · cases hb
theorem set_bAt (bs : List Int) (k : Nat) (d : Int) (hk : k < bs.length) (h0 : 0 ≤ bs[k]) (hd : 0 ≤ d) : ∀ i, bAt bs i = bAt (bs.set k (bs[k] + d)) i ∨ (0 ≤ bAt bs i ∧ bAt bs i ≤ bAt (bs.set k (bs[k] + d)) i) := by
  intro i
  unfold bAt
  by_cases hi : k = i
  · subst hi
    right
    simp [hk]; omega
  · left; simp [List.getElem?_set_ne hi]
/-! ### the walk -/
theorem rises_loop2 (s : St) (hs : Sm s) (bs cs : List Int) (hb : ∀ b ∈ bs, I64' b) (hc : ∀ b ∈ cs, I64' b) (hm : ∀ n k b, agentS s cs n k = some b → ∃ a, agentS s bs n k = some a ∧ a ≤ b) (m : Nat) (hm' : m < s.tasks.length) :
    ∀ d i (e : Env), i + d = s.tasks[m].parts.length → (e 1 = slI bs ∧ e 4 = .ptr 0 0 ∧ e 9 = .bs 1 cs.length 1 ∧ e 11 = vi m ∧ e 12 = vi i) → ∃ zz, evL tab0 ext0 0 L5_2 (e, [St.c s, cs.map vi]) = some zz ∧ FQ (fun _ => false) ([St.c s, cs.map vi]) 2 (fun _ _ => True) (fun e => e 1 = slI bs ∧ e 4 = .ptr 0 0 ∧ e 9 = .bs 1 cs.length 1 ∧ e 11 = vi m) i d zz := by
  have hp := hs.parts _ (List.getElem_mem hm')
  have pd := plain_dang (m := 2) (plain_vi cs)
  have po : (cs.map vi).map A.own = cs.map vi := by rw [List.map_map]; rfl
  have ml : (m : Int) < s.tasks.length := by omega
  refine fq_loop (St := fun i e => e 1 = slI bs ∧ e 4 = .ptr 0 0 ∧ e 9 = .bs 1 cs.length 1 ∧ e 11 = vi m ∧ e 12 = vi i) _ _ _ _ _ ?_ ?_
  · rintro e ⟨g0, g1, g2, g3, g4⟩
    have x1 := 0
    exact ⟨_, (go5_2 _ _).trans (by simp [B5_2, -Int.not_lt, -Int.not_le, Option.bind_assoc, eL_seq, eL_reg, eL_dreg, clr_nil, clr_cons, neOk_nil, neOk_cons, neK_ptr, eL_ret, eL_skip, eL_exit, eL_scope, eL_cond, eL_block, gJ_nil, gJ_n, gJ_g, ob_ite, ob_none, ob_some, om_some, om_none, om_ite, seqG_nor, seqG_ex, seqG_ret, blkK_nor, blkK_ex, blkK_ret, resK_nor, resK_ret, condK_vb, runG_some, runG_none, puts_nil, puts_cons, gdOf_some, guardX_t, guardX_f, guardX_u, guardX_ite, gd_ite, gd_ite', gd_ite2, gd_ite2', mrg_no, mrg_yes, mrg_ite, mrg_ite', ite_vb, ite_vi, ↓evI_call, ↓evI_calli, ↓evI_callv, ↓evI_mxn, fzL_nil, fzL_cons, nmL_nil, nmL_cons, mpL_nil, mpL_cons, anyB_nil, anyB_cons, callvK_fn, mxnK_cons, evI, eqz_self, evBin_eql, evBin_neq, initFrom, putO, put_at, O.ev, evBin_add, evBin_sub, evBin_mul, evBin_lss, evBin_leq, evBin_gtr, evBin_geq, evBin_quo, evBin_rem, evBin_shr, evBin_shl, evBin_and, evBin_or, evBin_xor, evBin_seql, evBin_sneq, evBin_sadd, evUn, A.cp, A.cp1, A.own, A.norm, A.norm1, cst, cst1, takeU, resultOf, resVal, A.isR, A.isC, A.isV, A.cells, Value.oneCell', frz, frzR, frzC, A.hasB, A.scal, A.isVal, optInt, okCell, fillA, capsOf, loopIn, loopIn0, keepL, emp, A.dang, A.dangC, g0, g1, g2, g3, g4, slI, slT, slP, St.c, Tk.c, pd, po, hm', ml, drop_tk _ m hm', -List.all_eq_true, -List.map_map]; rfl), by simp [put_at, slI]⟩
  · rintro i e hi ⟨g0, g1, g2, g3, g4⟩
    rw [go5_2]
    have hi' : (i : Int) < (s.tasks[m].parts.length : Nat) := by omega
    have hw : IntKind.wrap .i64 ((i : Int) + 1) = (i : Int) + 1 := wrap_in _ (by omega) (by omega)
    have h3 := pure_ansO (k := false) (agent_is s hs bs hb m i)
    have h4 := pure_ansO (k := false) (agent_is s hs cs hc m i)
    have pf : ((cs.map vi).take cs.length).mapM (frzC [St.c s, cs.map vi] 2) = some (cs.map vi) := by rw [List.take_of_length_le (by simp)]; exact plain_mapM (plain_vi cs)
    obtain ⟨ra, hra⟩ : ∃ ra, agentS s bs m i = ra := ⟨_, rfl⟩
    obtain ⟨rb, hrb⟩ : ∃ rb, agentS s cs m i = rb := ⟨_, rfl⟩
    have hA : rb.isSome = true → ra.isSome = true ∧ ¬ rb.getD 0 < ra.getD 0 := by
      intro h
      obtain ⟨b, rfl⟩ := Option.isSome_iff_exists.1 h
      obtain ⟨a, a1, a2⟩ := hm _ _ _ hrb
      rw [hra] at a1; subst a1
      simp; omega
    rw [hra] at h3
    rw [hrb] at h4
    have hA1 := fun h => (hA h).1
    have hA2 := fun h => (hA h).2
    clear hA
    simp only [St.c, slI, slT] at h3 h4 pf
    simp +contextual (maxSteps := 400000) [B5_2, -Int.not_lt, -Int.not_le, Option.bind_assoc, eL_seq, eL_reg, eL_dreg, clr_nil, clr_cons, neOk_nil, neOk_cons, neK_ptr, eL_ret, eL_skip, eL_exit, eL_scope, eL_cond, eL_block, gJ_nil, gJ_n, gJ_g, ob_ite, ob_none, ob_some, om_some, om_none, om_ite, seqG_nor, seqG_ex, seqG_ret, blkK_nor, blkK_ex, blkK_ret, resK_nor, resK_ret, condK_vb, runG_some, runG_none, puts_nil, puts_cons, gdOf_some, guardX_t, guardX_f, guardX_u, guardX_ite, gd_ite, gd_ite', gd_ite2, gd_ite2', mrg_no, mrg_yes, mrg_ite, mrg_ite', ite_vb, ite_vi, ↓evI_call, ↓evI_calli, ↓evI_callv, ↓evI_mxn, fzL_nil, fzL_cons, nmL_nil, nmL_cons, mpL_nil, mpL_cons, anyB_nil, anyB_cons, callvK_fn, mxnK_cons, evI, eqz_self, evBin_eql, evBin_neq, initFrom, putO, put_at, O.ev, evBin_add, evBin_sub, evBin_mul, evBin_lss, evBin_leq, evBin_gtr, evBin_geq, evBin_quo, evBin_rem, evBin_shr, evBin_shl, evBin_and, evBin_or, evBin_xor, evBin_seql, evBin_sneq, evBin_sadd, evUn, A.cp, A.cp1, A.own, A.norm, A.norm1, cst, cst1, takeU, resultOf, resVal, A.isR, A.isC, A.isV, A.cells, Value.oneCell', frz, frzR, frzC, A.hasB, A.scal, A.isVal, optInt, okCell, fillA, capsOf, loopIn, loopIn0, keepL, emp, A.dang, A.dangC, g0, g1, g2, g3, g4, hi, hi', slI, slT, slP, St.c, Tk.c, pd, po, pf, hm', ml, drop_tk _ m hm', hw, h3, h4, hA1, hA2, -List.all_eq_true, -List.map_map]
    exact Step.go rfl (by simp [put_at])
theorem rises_loop0 (s : St) (hs : Sm s) (bs cs : List Int) (hb : ∀ b ∈ bs, I64' b) (hc : ∀ b ∈ cs, I64' b) (hm : ∀ n k b, agentS s cs n k = some b → ∃ a, agentS s bs n k = some a ∧ a ≤ b) :
    ∀ d i (e : Env), i + d = s.tasks.length → (e 1 = slI bs ∧ e 4 = .ptr 0 0 ∧ e 9 = .bs 1 cs.length 1 ∧ e 11 = vi i) → ∃ zz, evL tab0 ext0 0 L5_0 (e, [St.c s, cs.map vi]) = some zz ∧ FQ (fun _ => false) ([St.c s, cs.map vi]) 0 (fun _ _ => True) (fun _ => True) i d zz := by
  have hp := hs.tasks
  have pd := plain_dang (m := 2) (plain_vi cs)
  have po : (cs.map vi).map A.own = cs.map vi := by rw [List.map_map]; rfl
  refine fq_loop (St := fun i e => e 1 = slI bs ∧ e 4 = .ptr 0 0 ∧ e 9 = .bs 1 cs.length 1 ∧ e 11 = vi i) _ _ _ _ _ ?_ ?_
  · rintro e ⟨g0, g1, g2, g3⟩
    have x1 := 0
    exact ⟨_, (go5_0 _ _).trans (by simp [B5_0, -Int.not_lt, -Int.not_le, Option.bind_assoc, eL_seq, eL_reg, eL_dreg, clr_nil, clr_cons, neOk_nil, neOk_cons, neK_ptr, eL_ret, eL_skip, eL_exit, eL_scope, eL_cond, eL_block, gJ_nil, gJ_n, gJ_g, ob_ite, ob_none, ob_some, om_some, om_none, om_ite, seqG_nor, seqG_ex, seqG_ret, blkK_nor, blkK_ex, blkK_ret, resK_nor, resK_ret, condK_vb, runG_some, runG_none, puts_nil, puts_cons, gdOf_some, guardX_t, guardX_f, guardX_u, guardX_ite, gd_ite, gd_ite', gd_ite2, gd_ite2', mrg_no, mrg_yes, mrg_ite, mrg_ite', ite_vb, ite_vi, ↓evI_call, ↓evI_calli, ↓evI_callv, ↓evI_mxn, fzL_nil, fzL_cons, nmL_nil, nmL_cons, mpL_nil, mpL_cons, anyB_nil, anyB_cons, callvK_fn, mxnK_cons, evI, eqz_self, evBin_eql, evBin_neq, initFrom, putO, put_at, O.ev, evBin_add, evBin_sub, evBin_mul, evBin_lss, evBin_leq, evBin_gtr, evBin_geq, evBin_quo, evBin_rem, evBin_shr, evBin_shl, evBin_and, evBin_or, evBin_xor, evBin_seql, evBin_sneq, evBin_sadd, evUn, A.cp, A.cp1, A.own, A.norm, A.norm1, cst, cst1, takeU, resultOf, resVal, A.isR, A.isC, A.isV, A.cells, Value.oneCell', frz, frzR, frzC, A.hasB, A.scal, A.isVal, optInt, okCell, fillA, capsOf, loopIn, loopIn0, keepL, emp, A.dang, A.dangC, g0, g1, g2, g3, slI, slT, slP, St.c, pd, po, -List.all_eq_true, -List.map_map]; rfl), by trivial⟩
  · rintro i e hi ⟨g0, g1, g2, g3⟩
    rw [go5_0]
    have hi' : (i : Int) < (s.tasks.length : Nat) := by omega
    have hw : IntKind.wrap .i64 ((i : Int) + 1) = (i : Int) + 1 := wrap_in _ (by omega) (by omega)
    have l2 := rises_loop2 s hs bs cs hb hc hm i hi s.tasks[i].parts.length 0
    simp only [St.c, slI, slT] at l2
    simp +contextual (maxSteps := 400000) [B5_0, -Int.not_lt, -Int.not_le, Option.bind_assoc, eL_seq, eL_reg, eL_dreg, clr_nil, clr_cons, neOk_nil, neOk_cons, neK_ptr, eL_ret, eL_skip, eL_exit, eL_scope, eL_cond, eL_block, gJ_nil, gJ_n, gJ_g, ob_ite, ob_none, ob_some, om_some, om_none, om_ite, seqG_nor, seqG_ex, seqG_ret, blkK_nor, blkK_ex, blkK_ret, resK_nor, resK_ret, condK_vb, runG_some, runG_none, puts_nil, puts_cons, gdOf_some, guardX_t, guardX_f, guardX_u, guardX_ite, gd_ite, gd_ite', gd_ite2, gd_ite2', mrg_no, mrg_yes, mrg_ite, mrg_ite', ite_vb, ite_vi, ↓evI_call, ↓evI_calli, ↓evI_callv, ↓evI_mxn, fzL_nil, fzL_cons, nmL_nil, nmL_cons, mpL_nil, mpL_cons, anyB_nil, anyB_cons, callvK_fn, mxnK_cons, evI, eqz_self, evBin_eql, evBin_neq, initFrom, putO, put_at, O.ev, evBin_add, evBin_sub, evBin_mul, evBin_lss, evBin_leq, evBin_gtr, evBin_geq, evBin_quo, evBin_rem, evBin_shr, evBin_shl, evBin_and, evBin_or, evBin_xor, evBin_seql, evBin_sneq, evBin_sadd, evUn, A.cp, A.cp1, A.own, A.norm, A.norm1, cst, cst1, takeU, resultOf, resVal, A.isR, A.isC, A.isV, A.cells, Value.oneCell', frz, frzR, frzC, A.hasB, A.scal, A.isVal, optInt, okCell, fillA, capsOf, loopIn, loopIn0, keepL, emp, A.dang, A.dangC, g0, g1, g2, g3, hi, hi', slI, slT, slP, St.c, pd, po, hw, -List.all_eq_true, -List.map_map]
    refine behindP (P := fun r' => Step _ _ _ _ _ r') (l2 _ (by omega) (by simp [put_at])) ?_
    intro a h
    obtain ⟨e', rfl, hx⟩ := h.never; clear h; have h := hx
    obtain ⟨k1, k2, k3, k4⟩ := h
    simp [-Int.not_lt, -Int.not_le, Option.bind_assoc, eL_seq, eL_reg, eL_dreg, clr_nil, clr_cons, neOk_nil, neOk_cons, neK_ptr, eL_ret, eL_skip, eL_exit, eL_scope, eL_cond, eL_block, gJ_nil, gJ_n, gJ_g, ob_ite, ob_none, ob_some, om_some, om_none, om_ite, seqG_nor, seqG_ex, seqG_ret, blkK_nor, blkK_ex, blkK_ret, resK_nor, resK_ret, condK_vb, runG_some, runG_none, puts_nil, puts_cons, gdOf_some, guardX_t, guardX_f, guardX_u, guardX_ite, gd_ite, gd_ite', gd_ite2, gd_ite2', mrg_no, mrg_yes, mrg_ite, mrg_ite', ite_vb, ite_vi, ↓evI_call, ↓evI_calli, ↓evI_callv, ↓evI_mxn, fzL_nil, fzL_cons, nmL_nil, nmL_cons, mpL_nil, mpL_cons, anyB_nil, anyB_cons, callvK_fn, mxnK_cons, evI, eqz_self, evBin_eql, evBin_neq, initFrom, putO, put_at, O.ev, evBin_add, evBin_sub, evBin_mul, evBin_lss, evBin_leq, evBin_gtr, evBin_geq, evBin_quo, evBin_rem, evBin_shr, evBin_shl, evBin_and, evBin_or, evBin_xor, evBin_seql, evBin_sneq, evBin_sadd, evUn, A.cp, A.cp1, A.own, A.norm, A.norm1, cst, cst1, takeU, resultOf, resVal, A.isR, A.isC, A.isV, A.cells, Value.oneCell', frz, frzR, frzC, A.hasB, A.scal, A.isVal, optInt, okCell, fillA, capsOf, k1, k2, k3, k4, hw]
    exact Step.go rfl (by simp [put_at, k1, k2, k3, k4])
theorem agentRises_is (s : St) (bs : List Int) (d k : Int) (_ : s.ok) (hb : ∀ b ∈ bs, I64 b) (hd8 : (Lit.int .u8 d).wf = true) (hk8 : (Lit.int .u8 k).wf = true) :
    Ans (vb true) [] (callL tab0 ext0 5 [.agg (St.c s), slI bs, vu8 d, vu8 k] []) := by
  have hd := u8_of hd8
  have hk := u8_of hk8
  have kd := wrap_u8i d hd
  have kk := wrap_u8i k hk
  rw [callL_tab _ _ rfl tab5 rfl]
  have h1 := pure_vb (k := false) known_15
  have h2 := pure_vb (k := false) (few_is_16 s)
  rcases (Bool.eq_false_or_eq_true (few8 s)).symm with hs | hs
  · rw [hs] at h2
    simp only [St.c, slI, slT] at h2
    simp [C5, -Int.not_lt, -Int.not_le, Option.bind_assoc, eL_seq, eL_reg, eL_dreg, clr_nil, clr_cons, neOk_nil, neOk_cons, neK_ptr, eL_ret, eL_skip, eL_exit, eL_scope, eL_cond, eL_block, gJ_nil, gJ_n, gJ_g, ob_ite, ob_none, ob_some, om_some, om_none, om_ite, seqG_nor, seqG_ex, seqG_ret, blkK_nor, blkK_ex, blkK_ret, resK_nor, resK_ret, condK_vb, runG_some, runG_none, puts_nil, puts_cons, gdOf_some, guardX_t, guardX_f, guardX_u, guardX_ite, gd_ite, gd_ite', gd_ite2, gd_ite2', mrg_no, mrg_yes, mrg_ite, mrg_ite', ite_vb, ite_vi, ↓evI_call, ↓evI_calli, ↓evI_callv, ↓evI_mxn, fzL_nil, fzL_cons, nmL_nil, nmL_cons, mpL_nil, mpL_cons, anyB_nil, anyB_cons, callvK_fn, mxnK_cons, evI, eqz_self, evBin_eql, evBin_neq, initFrom, putO, put_at, O.ev, evBin_add, evBin_sub, evBin_mul, evBin_lss, evBin_leq, evBin_gtr, evBin_geq, evBin_quo, evBin_rem, evBin_shr, evBin_shl, evBin_and, evBin_or, evBin_xor, evBin_seql, evBin_sneq, evBin_sadd, evUn, A.cp, A.cp1, A.own, A.norm, A.norm1, cst, cst1, takeU, resultOf, resVal, A.isR, A.isC, A.isV, A.cells, Value.oneCell', frz, frzR, frzC, A.hasB, A.scal, A.isVal, optInt, okCell, fillA, capsOf, St.c, slI, slT, h1, h2]
    exact ⟨_, rfl⟩
  rw [hs] at h2
  have hs := few8_sm s hs
  by_cases hl : (10 : Int) < bs.length
  · simp only [St.c, slI, slT] at h2
    simp [C5, -Int.not_lt, -Int.not_le, Option.bind_assoc, eL_seq, eL_reg, eL_dreg, clr_nil, clr_cons, neOk_nil, neOk_cons, neK_ptr, eL_ret, eL_skip, eL_exit, eL_scope, eL_cond, eL_block, gJ_nil, gJ_n, gJ_g, ob_ite, ob_none, ob_some, om_some, om_none, om_ite, seqG_nor, seqG_ex, seqG_ret, blkK_nor, blkK_ex, blkK_ret, resK_nor, resK_ret, condK_vb, runG_some, runG_none, puts_nil, puts_cons, gdOf_some, guardX_t, guardX_f, guardX_u, guardX_ite, gd_ite, gd_ite', gd_ite2, gd_ite2', mrg_no, mrg_yes, mrg_ite, mrg_ite', ite_vb, ite_vi, ↓evI_call, ↓evI_calli, ↓evI_callv, ↓evI_mxn, fzL_nil, fzL_cons, nmL_nil, nmL_cons, mpL_nil, mpL_cons, anyB_nil, anyB_cons, callvK_fn, mxnK_cons, evI, eqz_self, evBin_eql, evBin_neq, initFrom, putO, put_at, O.ev, evBin_add, evBin_sub, evBin_mul, evBin_lss, evBin_leq, evBin_gtr, evBin_geq, evBin_quo, evBin_rem, evBin_shr, evBin_shl, evBin_and, evBin_or, evBin_xor, evBin_seql, evBin_sneq, evBin_sadd, evUn, A.cp, A.cp1, A.own, A.norm, A.norm1, cst, cst1, takeU, resultOf, resVal, A.isR, A.isC, A.isV, A.cells, Value.oneCell', frz, frzR, frzC, A.hasB, A.scal, A.isVal, optInt, okCell, fillA, capsOf, St.c, slI, slT, h1, h2, hl]
    exact ⟨_, rfl⟩
  by_cases hz : bs.length = 0
  · have hz' : eqz (bs.length : Int) 0 = true := by simp [eqz, hz]
    simp only [St.c, slI, slT] at h2
    simp [C5, -Int.not_lt, -Int.not_le, Option.bind_assoc, eL_seq, eL_reg, eL_dreg, clr_nil, clr_cons, neOk_nil, neOk_cons, neK_ptr, eL_ret, eL_skip, eL_exit, eL_scope, eL_cond, eL_block, gJ_nil, gJ_n, gJ_g, ob_ite, ob_none, ob_some, om_some, om_none, om_ite, seqG_nor, seqG_ex, seqG_ret, blkK_nor, blkK_ex, blkK_ret, resK_nor, resK_ret, condK_vb, runG_some, runG_none, puts_nil, puts_cons, gdOf_some, guardX_t, guardX_f, guardX_u, guardX_ite, gd_ite, gd_ite', gd_ite2, gd_ite2', mrg_no, mrg_yes, mrg_ite, mrg_ite', ite_vb, ite_vi, ↓evI_call, ↓evI_calli, ↓evI_callv, ↓evI_mxn, fzL_nil, fzL_cons, nmL_nil, nmL_cons, mpL_nil, mpL_cons, anyB_nil, anyB_cons, callvK_fn, mxnK_cons, evI, eqz_self, evBin_eql, evBin_neq, initFrom, putO, put_at, O.ev, evBin_add, evBin_sub, evBin_mul, evBin_lss, evBin_leq, evBin_gtr, evBin_geq, evBin_quo, evBin_rem, evBin_shr, evBin_shl, evBin_and, evBin_or, evBin_xor, evBin_seql, evBin_sneq, evBin_sadd, evUn, A.cp, A.cp1, A.own, A.norm, A.norm1, cst, cst1, takeU, resultOf, resVal, A.isR, A.isC, A.isV, A.cells, Value.oneCell', frz, frzR, frzC, A.hasB, A.scal, A.isVal, optInt, okCell, fillA, capsOf, St.c, slI, slT, h1, h2, hl, hz']
    exact ⟨_, rfl⟩
  have hz' : eqz (bs.length : Int) 0 = false := by unfold eqz; rw [decide_eq_false_iff_not]; omega
  have h3 := pure_vb (k := false) (thereR_is s 0 hs.fits)
  rcases (Bool.eq_false_or_eq_true (thereS s 0)).symm with ht | ht
  · rw [ht] at h3
    simp only [St.c, slI, slT] at h2 h3
    simp [C5, -Int.not_lt, -Int.not_le, Option.bind_assoc, eL_seq, eL_reg, eL_dreg, clr_nil, clr_cons, neOk_nil, neOk_cons, neK_ptr, eL_ret, eL_skip, eL_exit, eL_scope, eL_cond, eL_block, gJ_nil, gJ_n, gJ_g, ob_ite, ob_none, ob_some, om_some, om_none, om_ite, seqG_nor, seqG_ex, seqG_ret, blkK_nor, blkK_ex, blkK_ret, resK_nor, resK_ret, condK_vb, runG_some, runG_none, puts_nil, puts_cons, gdOf_some, guardX_t, guardX_f, guardX_u, guardX_ite, gd_ite, gd_ite', gd_ite2, gd_ite2', mrg_no, mrg_yes, mrg_ite, mrg_ite', ite_vb, ite_vi, ↓evI_call, ↓evI_calli, ↓evI_callv, ↓evI_mxn, fzL_nil, fzL_cons, nmL_nil, nmL_cons, mpL_nil, mpL_cons, anyB_nil, anyB_cons, callvK_fn, mxnK_cons, evI, eqz_self, evBin_eql, evBin_neq, initFrom, putO, put_at, O.ev, evBin_add, evBin_sub, evBin_mul, evBin_lss, evBin_leq, evBin_gtr, evBin_geq, evBin_quo, evBin_rem, evBin_shr, evBin_shl, evBin_and, evBin_or, evBin_xor, evBin_seql, evBin_sneq, evBin_sadd, evUn, A.cp, A.cp1, A.own, A.norm, A.norm1, cst, cst1, takeU, resultOf, resVal, A.isR, A.isC, A.isV, A.cells, Value.oneCell', frz, frzR, frzC, A.hasB, A.scal, A.isVal, optInt, okCell, fillA, capsOf, St.c, slI, slT, h1, h2, h3, hl, hz']
    exact ⟨_, rfl⟩
  rw [ht] at h3
  have q1 : k.tmod bs.length = k % bs.length := Int.tmod_eq_emod_of_nonneg hk.1
  have q2 := Int.emod_nonneg k (show (bs.length : Int) ≠ 0 by omega)
  have q3 := Int.emod_lt_of_pos k (show 0 < (bs.length : Int) by omega)
  have qz : ¬ (bs.length : Int) = 0 := by omega
  obtain ⟨j, hj⟩ := nat_of (k % bs.length) q2
  rw [hj] at q1 q3
  have hjl : j < bs.length := by omega
  have pn := plain_norm (plain_vi bs)
  have hsz : bs.length * 8 ≤ 70368744177664 := by omega
  have hlm : (bs.map vi).length = bs.length := by simp
  have hget : (bs.map vi)[j]? = some (vi bs[j]) := by simp [hjl]
  have hlen1 : j + 1 ≤ bs.length := by omega
  have hne : ¬ bs = [] := by intro e; rw [e] at hz; exact hz rfl
  have hg2 : ∀ h : j < (bs.map vi).length, (bs.map vi)[j] = vi bs[j] := by intro h; simp
  have hw : 0 ≤ bs[j] ∧ bs[j] ≤ 1073741824 → IntKind.wrap .i64 (bs[j] + d) = bs[j] + d := by intro h; exact wrap_i _ (by omega) (by omega)
  have hpos : 0 < bs.length := by omega
  have hset : (bs.set j (bs[j] + d)).map vi = (bs.map vi).take j ++ vi (bs[j] + d) :: (bs.map vi).drop (j + 1) := by
    rw [List.map_set, List.set_eq_take_append_cons_drop, if_pos (by simpa using hjl)]
  obtain ⟨cs, hcs⟩ : ∃ cs, cs = bs.set j (bs[j] + d) := ⟨_, rfl⟩
  have hcl : cs.length = bs.length := by rw [hcs, List.length_set]
  by_cases hc1 : bs[j] < 0
  · simp only [St.c, slI, slT] at h2 h3 ⊢
    generalize bs.map vi = B at pn hlm hget hg2 ⊢
    simp [C5, -Int.not_lt, -Int.not_le, Option.bind_assoc, eL_seq, eL_reg, eL_dreg, clr_nil, clr_cons, neOk_nil, neOk_cons, neK_ptr, eL_ret, eL_skip, eL_exit, eL_scope, eL_cond, eL_block, gJ_nil, gJ_n, gJ_g, ob_ite, ob_none, ob_some, om_some, om_none, om_ite, seqG_nor, seqG_ex, seqG_ret, blkK_nor, blkK_ex, blkK_ret, resK_nor, resK_ret, condK_vb, runG_some, runG_none, puts_nil, puts_cons, gdOf_some, guardX_t, guardX_f, guardX_u, guardX_ite, gd_ite, gd_ite', gd_ite2, gd_ite2', mrg_no, mrg_yes, mrg_ite, mrg_ite', ite_vb, ite_vi, ↓evI_call, ↓evI_calli, ↓evI_callv, ↓evI_mxn, fzL_nil, fzL_cons, nmL_nil, nmL_cons, mpL_nil, mpL_cons, anyB_nil, anyB_cons, callvK_fn, mxnK_cons, evI, eqz_self, evBin_eql, evBin_neq, initFrom, putO, put_at, O.ev, evBin_add, evBin_sub, evBin_mul, evBin_lss, evBin_leq, evBin_gtr, evBin_geq, evBin_quo, evBin_rem, evBin_shr, evBin_shl, evBin_and, evBin_or, evBin_xor, evBin_seql, evBin_sneq, evBin_sadd, evUn, A.cp, A.cp1, A.own, A.norm, A.norm1, cst, cst1, takeU, resultOf, resVal, A.isR, A.isC, A.isV, A.cells, Value.oneCell', frz, frzR, frzC, A.hasB, A.scal, A.isVal, optInt, okCell, fillA, capsOf, h1, h2, h3, hl, hz', asList, pn, hsz, hlm, hpos, kk, qz, q1, q3, hjl, hget, hg2, hne, hc1]
    exact ⟨_, rfl⟩
  by_cases hc2 : 1073741824 < bs[j]
  · simp only [St.c, slI, slT] at h2 h3 ⊢
    generalize bs.map vi = B at pn hlm hget hg2 ⊢
    simp [C5, -Int.not_lt, -Int.not_le, Option.bind_assoc, eL_seq, eL_reg, eL_dreg, clr_nil, clr_cons, neOk_nil, neOk_cons, neK_ptr, eL_ret, eL_skip, eL_exit, eL_scope, eL_cond, eL_block, gJ_nil, gJ_n, gJ_g, ob_ite, ob_none, ob_some, om_some, om_none, om_ite, seqG_nor, seqG_ex, seqG_ret, blkK_nor, blkK_ex, blkK_ret, resK_nor, resK_ret, condK_vb, runG_some, runG_none, puts_nil, puts_cons, gdOf_some, guardX_t, guardX_f, guardX_u, guardX_ite, gd_ite, gd_ite', gd_ite2, gd_ite2', mrg_no, mrg_yes, mrg_ite, mrg_ite', ite_vb, ite_vi, ↓evI_call, ↓evI_calli, ↓evI_callv, ↓evI_mxn, fzL_nil, fzL_cons, nmL_nil, nmL_cons, mpL_nil, mpL_cons, anyB_nil, anyB_cons, callvK_fn, mxnK_cons, evI, eqz_self, evBin_eql, evBin_neq, initFrom, putO, put_at, O.ev, evBin_add, evBin_sub, evBin_mul, evBin_lss, evBin_leq, evBin_gtr, evBin_geq, evBin_quo, evBin_rem, evBin_shr, evBin_shl, evBin_and, evBin_or, evBin_xor, evBin_seql, evBin_sneq, evBin_sadd, evUn, A.cp, A.cp1, A.own, A.norm, A.norm1, cst, cst1, takeU, resultOf, resVal, A.isR, A.isC, A.isV, A.cells, Value.oneCell', frz, frzR, frzC, A.hasB, A.scal, A.isVal, optInt, okCell, fillA, capsOf, h1, h2, h3, hl, hz', asList, pn, hsz, hlm, hpos, kk, qz, q1, q3, hjl, hget, hg2, hne, hc1, hc2]
    exact ⟨_, rfl⟩
  have hw := hw (by omega)
  have hcm : ∀ n k b, agentS s cs n k = some b → ∃ a, agentS s bs n k = some a ∧ a ≤ b := fun n k b h => agent_mono_b hcl.symm (by rw [hcs]; exact set_bAt bs j d hjl (by omega) hd.1) n k b h
  have hcI : ∀ b ∈ cs, I64' b := by
    intro b hb'
    rw [hcs] at hb'
    rcases List.mem_or_eq_of_mem_set hb' with h | rfl
    · exact hb b h
    · exact ⟨by omega, by omega⟩
  have l0 := fun (_ : True) => rises_loop0 s hs bs cs hb hcI hcm s.tasks.length 0
  rw [← hcs] at hset
  rw [hset, hcl] at l0
  simp only [St.c, slI, slT] at h2 h3 l0 ⊢
  generalize bs.map vi = B at pn hlm hget hg2 l0 ⊢
  have hB1 : j + 1 ≤ B.length := by omega
  simp [C5, -Int.not_lt, -Int.not_le, Option.bind_assoc, eL_seq, eL_reg, eL_dreg, clr_nil, clr_cons, neOk_nil, neOk_cons, neK_ptr, eL_ret, eL_skip, eL_exit, eL_scope, eL_cond, eL_block, gJ_nil, gJ_n, gJ_g, ob_ite, ob_none, ob_some, om_some, om_none, om_ite, seqG_nor, seqG_ex, seqG_ret, blkK_nor, blkK_ex, blkK_ret, resK_nor, resK_ret, condK_vb, runG_some, runG_none, puts_nil, puts_cons, gdOf_some, guardX_t, guardX_f, guardX_u, guardX_ite, gd_ite, gd_ite', gd_ite2, gd_ite2', mrg_no, mrg_yes, mrg_ite, mrg_ite', ite_vb, ite_vi, ↓evI_call, ↓evI_calli, ↓evI_callv, ↓evI_mxn, fzL_nil, fzL_cons, nmL_nil, nmL_cons, mpL_nil, mpL_cons, anyB_nil, anyB_cons, callvK_fn, mxnK_cons, evI, eqz_self, evBin_eql, evBin_neq, initFrom, putO, put_at, O.ev, evBin_add, evBin_sub, evBin_mul, evBin_lss, evBin_leq, evBin_gtr, evBin_geq, evBin_quo, evBin_rem, evBin_shr, evBin_shl, evBin_and, evBin_or, evBin_xor, evBin_seql, evBin_sneq, evBin_sadd, evUn, A.cp, A.cp1, A.own, A.norm, A.norm1, cst, cst1, takeU, resultOf, resVal, A.isR, A.isC, A.isV, A.cells, Value.oneCell', frz, frzR, frzC, A.hasB, A.scal, A.isVal, optInt, okCell, fillA, capsOf, h1, h2, h3, hl, hz', asList, pn, hsz, hlm, hpos, kk, kd, qz, q1, q3, hjl, hget, hg2, hne, hc1, hc2, hw, hB1, hlen1]
  refine behindP (P := fun r' => Ans _ [] r') (l0 trivial _ (by omega) (by simp [put_at])) ?_
  intro a h
  obtain ⟨e', rfl, hx⟩ := h.never; clear h; have h := hx
  simp [-Int.not_lt, -Int.not_le, Option.bind_assoc, eL_seq, eL_reg, eL_dreg, clr_nil, clr_cons, neOk_nil, neOk_cons, neK_ptr, eL_ret, eL_skip, eL_exit, eL_scope, eL_cond, eL_block, gJ_nil, gJ_n, gJ_g, ob_ite, ob_none, ob_some, om_some, om_none, om_ite, seqG_nor, seqG_ex, seqG_ret, blkK_nor, blkK_ex, blkK_ret, resK_nor, resK_ret, condK_vb, runG_some, runG_none, puts_nil, puts_cons, gdOf_some, guardX_t, guardX_f, guardX_u, guardX_ite, gd_ite, gd_ite', gd_ite2, gd_ite2', mrg_no, mrg_yes, mrg_ite, mrg_ite', ite_vb, ite_vi, ↓evI_call, ↓evI_calli, ↓evI_callv, ↓evI_mxn, fzL_nil, fzL_cons, nmL_nil, nmL_cons, mpL_nil, mpL_cons, anyB_nil, anyB_cons, callvK_fn, mxnK_cons, evI, eqz_self, evBin_eql, evBin_neq, initFrom, putO, put_at, O.ev, evBin_add, evBin_sub, evBin_mul, evBin_lss, evBin_leq, evBin_gtr, evBin_geq, evBin_quo, evBin_rem, evBin_shr, evBin_shl, evBin_and, evBin_or, evBin_xor, evBin_seql, evBin_sneq, evBin_sadd, evUn, A.cp, A.cp1, A.own, A.norm, A.norm1, cst, cst1, takeU, resultOf, resVal, A.isR, A.isC, A.isV, A.cells, Value.oneCell', frz, frzR, frzC, A.hasB, A.scal, A.isVal, optInt, okCell, fillA, capsOf]
  exact ⟨_, rfl⟩
end Go.Proofs.YtiocdaeinahcoaaEv
