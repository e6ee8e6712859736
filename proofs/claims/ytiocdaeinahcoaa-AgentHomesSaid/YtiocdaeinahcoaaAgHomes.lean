/- swingbridgelaw14.AgentHomes. -/
import Derived.Test.YtiocdaeinahcoaaAgLeast
set_option linter.unusedSimpArgs false
set_option linter.unusedVariables false
namespace Go.Proofs.YtiocdaeinahcoaaEv
open Go
set_option maxHeartbeats 4000000
set_option maxRecDepth 100000
def nmA : ByteArray := ⟨#[97]⟩
def nmB : ByteArray := ⟨#[98]⟩
def nmC : ByteArray := ⟨#[99]⟩
def setH (x y z u : Int) : St := ⟨2, [1, 1], [0, 1], [⟨nmA, 1000, 1000, 1, 0, [⟨3, x, 0⟩]⟩, ⟨nmB, 1000, 1000, 2, 0, [⟨3, y, 0⟩, ⟨3, z, 0⟩]⟩, ⟨nmC, 1000, 1000, 3, 0, [⟨3, u, 1⟩]⟩]⟩
structure L50 (x : Int) : Prop where
  lo : 1 ≤ x
  hi : x ≤ 50
theorem nmA_ok : nameOk nmA = true := by decide
theorem nmB_ok : nameOk nmB = true := by decide
theorem nmC_ok : nameOk nmC = true := by decide
theorem setH_good {x y z u : Int} (hx : L50 x) (hy : L50 y) (hz : L50 z) (hu : L50 u) : Good (setH x y z u) := by
  have := hx.lo; have := hx.hi; have := hy.lo; have := hy.hi; have := hz.lo; have := hz.hi; have := hu.lo; have := hu.hi
  have gp : ∀ l r : Int, 1 ≤ l ∧ l ≤ 60 → 0 ≤ r ∧ r < 2 → GoodP (setH x y z u) ⟨3, l, r⟩ := fun l r h h' => ⟨by simp, h, fun _ => by simp [setH]; omega, fun h => absurd rfl h⟩
  refine ⟨by simp [setH], by simp [setH], by simp [setH], by simp [setH], by simp [setH], by simp [setH], ?_, ?_⟩
  · intro t ht
    simp only [setH, List.mem_cons, List.not_mem_nil, or_false] at ht
    rcases ht with rfl | rfl | rfl
    · exact ⟨nmA_ok, by simp, by simp, by simp, by simp [setH], by simp, by simp; exact gp _ _ (by omega) (by omega)⟩
    · exact ⟨nmB_ok, by simp, by simp, by simp, by simp [setH], by simp, by simp; exact ⟨gp _ _ (by omega) (by omega), gp _ _ (by omega) (by omega)⟩⟩
    · exact ⟨nmC_ok, by simp, by simp, by simp, by simp [setH], by simp, by simp; exact gp _ _ (by omega) (by omega)⟩
  · intro i j hi hj hij
    have hj : j < 3 := hj
    rcases (by omega : (i = 0 ∧ j = 1) ∨ (i = 0 ∧ j = 2) ∨ (i = 1 ∧ j = 2)) with ⟨rfl, rfl⟩ | ⟨rfl, rfl⟩ | ⟨rfl, rfl⟩ <;> simp [setH, twice, bal_eq, nmA, nmB, nmC]
theorem setH_sm (x y z u : Int) : Sm (setH x y z u) := ⟨by simp [setH], by simp [setH], by simp [setH], by simp [setH], by
  intro t ht
  simp only [setH, List.mem_cons, List.not_mem_nil, or_false] at ht
  rcases ht with rfl | rfl | rfl <;> exact (show (1 : Nat) ≤ 20 by omega)⟩
theorem work1 (w b e : Int) (h : 1 ≤ w ∧ 0 ≤ b ∧ w + b ≤ 1000) (he : 0 ≤ e ∧ e ≤ 100) : workS w b 1000 e = e := by
  unfold workS jobsS ceilS
  rw [if_neg (by omega)]
  have : (w + b + 1000 - 1) / 1000 = 1 := by omega
  rw [this]
  have : min (1 : Int) 1000000 = 1 := by decide
  rw [this, Int.one_mul]; omega
theorem lfp_const {f : Int → Int} {lo hi v : Int} (h1 : 1 ≤ lo) (h2 : lo ≤ v) (h3 : v ≤ 800) (hh : hi = 3000) (hf : ∀ w, 1 ≤ w ∧ w ≤ 800 → f w = v) : lfp f lo hi = some v := by
  rw [lfp_some]
  exact ⟨h2, by omega, hf v (by omega), fun w a b => by rw [hf w (by omega)]; omega⟩
section
variable {x y z u : Int} (hx : L50 x) (hy : L50 y) (hz : L50 z) (hu : L50 u)
include hx hy hz hu
theorem H_there (m : Nat) (h : m < 3) : thereS (setH x y z u) m = true := by rw [there_nat (setH x y z u) m (show m < (setH x y z u).tasks.length from h)]; exact (okS_iff _).2 (setH_good hx hy hz hu)
theorem H_at0 (m : Nat) (h : m < 3) : atS (setH x y z u) m 0 = (if m = 0 then x else if m = 1 then y + z else 0) ∧ mostS (setH x y z u) m 0 = (if m = 0 then x else if m = 1 then max y z else 0) := by
  obtain ⟨e1, e2⟩ := at_eq (setH_good hx hy hz hu) m h 0
  have := hx.lo; have := hy.lo; have := hz.lo; have := hu.lo
  rw [e1, e2]
  rcases (by omega : m = 0 ∨ m = 1 ∨ m = 2) with rfl | rfl | rfl <;> simp [setH, sumL, maxL, lkF, lockAt, homeOf, eqz] <;> omega
theorem H_at1 (m : Nat) (h : m < 3) : atS (setH x y z u) m 1 = (if m = 2 then u else 0) ∧ mostS (setH x y z u) m 1 = (if m = 2 then u else 0) := by
  obtain ⟨e1, e2⟩ := at_eq (setH_good hx hy hz hu) m h 1
  have := hx.lo; have := hy.lo; have := hz.lo; have := hu.lo
  rw [e1, e2]
  rcases (by omega : m = 0 ∨ m = 1 ∨ m = 2) with rfl | rfl | rfl <;> simp [setH, sumL, maxL, lkF, lockAt, homeOf, eqz] <;> omega
theorem H_lower (m : Nat) (h : m < 3) : lowerS (setH x y z u) m 0 = (if m = 0 then max y z else 0) ∧ lowerS (setH x y z u) m 1 = (if m = 2 then 0 else u) := by
  have a0 := fun m h => (H_at0 hx hy hz hu m h).2
  have a1 := fun m h => (H_at1 hx hy hz hu m h).2
  have := hx.lo; have := hy.lo; have := hz.lo; have := hu.lo
  have b00 := a0 0 (by omega); have b01 := a0 1 (by omega); have b02 := a0 2 (by omega)
  have b10 := a1 0 (by omega); have b11 := a1 1 (by omega); have b12 := a1 2 (by omega)
  simp at b00 b01 b02 b10 b11 b12
  unfold lowerS
  rw [if_pos (H_there hx hy hz hu m h), if_pos (H_there hx hy hz hu m h)]
  have hl : (setH x y z u).tasks.length = 3 := rfl
  have p0 : prioAt (setH x y z u) 0 = 1 := rfl
  have p1 : prioAt (setH x y z u) 1 = 2 := rfl
  have p2 : prioAt (setH x y z u) 2 = 3 := rfl
  rw [hl]
  rcases (by omega : m = 0 ∨ m = 1 ∨ m = 2) with rfl | rfl | rfl <;> simp [maxN, lowF, p0, p1, p2, b00, b01, b02, b10, b11, b12] <;> omega
theorem H_higher (m : Nat) (h : m < 3) (w : Int) (hw : 1 ≤ w ∧ w ≤ 800) : higherS (setH x y z u) [100, 200, 100] m 0 w = (if m = 0 then 0 else if m = 1 then x else x + (y + z)) ∧ higherS (setH x y z u) [100, 200, 100] m 1 w = 0 := by
  have a0 := fun m h => (H_at0 hx hy hz hu m h).1
  have a1 := fun m h => (H_at1 hx hy hz hu m h).1
  have := hx.lo; have := hx.hi; have := hy.lo; have := hy.hi; have := hz.lo; have := hz.hi; have := hu.lo; have := hu.hi
  have b00 := a0 0 (by omega); have b01 := a0 1 (by omega); have b02 := a0 2 (by omega)
  have b10 := a1 0 (by omega); have b11 := a1 1 (by omega); have b12 := a1 2 (by omega)
  simp at b00 b01 b02 b10 b11 b12
  unfold higherS
  have hl : (setH x y z u).tasks.length = 3 := rfl
  have hc : thereS (setH x y z u) m = true ∧ ([100, 200, 100] : List Int).length = (setH x y z u).tasks.length := ⟨H_there hx hy hz hu m h, rfl⟩
  rw [if_pos hc, if_pos hc, hl]
  have p0 : prioAt (setH x y z u) 0 = 1 := rfl
  have p1 : prioAt (setH x y z u) 1 = 2 := rfl
  have p2 : prioAt (setH x y z u) 2 = 3 := rfl
  have q0 : perAt (setH x y z u) 0 = 1000 := rfl
  have q1 : perAt (setH x y z u) 1 = 1000 := rfl
  have w1 := work1 w 100 x (by omega) (by omega)
  have w2 := work1 w 200 (y + z) (by omega) (by omega)
  have w3 := work1 w 100 0 (by omega) (by omega)
  have w4 := work1 w 200 0 (by omega) (by omega)
  rcases (by omega : m = 0 ∨ m = 1 ∨ m = 2) with rfl | rfl | rfl <;> simp [sumN, hiF, bAt, p0, p1, p2, q0, q1, b00, b01, b02, b10, b11, b12, w1, w2, w3, w4] <;> omega
theorem H_agent : agentS (setH x y z u) [100, 200, 100] 0 0 = some (x + max y z) ∧ agentS (setH x y z u) [100, 200, 100] 1 0 = some (y + x) ∧ agentS (setH x y z u) [100, 200, 100] 2 0 = some u := by
  have := hx.lo; have := hx.hi; have := hy.lo; have := hy.hi; have := hz.lo; have := hz.hi; have := hu.lo; have := hu.hi
  have hl : ([100, 200, 100] : List Int).length = (setH x y z u).tasks.length := rfl
  have k0 : lockS (setH x y z u) ((0 : Nat) : Int) ((0 : Nat) : Int) = some ⟨3, x, 0⟩ := by rw [lockS_nat _ 0 0 (H_there hx hy hz hu 0 (by omega)) (by show 0 < 3; omega)]; rfl
  have k1 : lockS (setH x y z u) ((1 : Nat) : Int) ((0 : Nat) : Int) = some ⟨3, y, 0⟩ := by rw [lockS_nat _ 1 0 (H_there hx hy hz hu 1 (by omega)) (by show 1 < 3; omega)]; rfl
  have k2 : lockS (setH x y z u) ((2 : Nat) : Int) ((0 : Nat) : Int) = some ⟨3, u, 1⟩ := by rw [lockS_nat _ 2 0 (H_there hx hy hz hu 2 (by omega)) (by show 2 < 3; omega)]; rfl
  have l0 := (H_lower hx hy hz hu 0 (by omega)).1
  have l1 := (H_lower hx hy hz hu 1 (by omega)).1
  have l2 := (H_lower hx hy hz hu 2 (by omega)).2
  have e0 : homeOf (setH x y z u) ⟨3, x, 0⟩ = 0 := rfl
  have e1 : homeOf (setH x y z u) ⟨3, y, 0⟩ = 0 := rfl
  have e2 : homeOf (setH x y z u) ⟨3, u, 1⟩ = 1 := rfl
  refine ⟨?_, ?_, ?_⟩
  · unfold agentS
    rw [if_pos hl]
    show (lockS (setH x y z u) ((0 : Nat) : Int) ((0 : Nat) : Int)).bind _ = _
    rw [k0, Option.bind_some]
    have el : leastS (setH x y z u) 0 ⟨3, x, 0⟩ = x + max y z := by unfold leastS; rw [e0]; show x + lowerS _ ((0 : Nat) : Int) 0 = _; rw [l0]; simp
    rw [el]
    refine lfp_const (by omega) (by omega) (by omega) rfl fun w hw => ?_
    have := (H_higher hx hy hz hu 0 (by omega) w hw).1
    rw [e0]
    show x + max y z + higherS _ _ ((0 : Nat) : Int) 0 w = _
    rw [this]; simp
  · unfold agentS
    rw [if_pos hl]
    show (lockS (setH x y z u) ((1 : Nat) : Int) ((0 : Nat) : Int)).bind _ = _
    rw [k1, Option.bind_some]
    have el : leastS (setH x y z u) 1 ⟨3, y, 0⟩ = y := by unfold leastS; rw [e1]; show y + lowerS _ ((1 : Nat) : Int) 0 = _; rw [l1]; simp
    rw [el]
    refine lfp_const (by omega) (by omega) (by omega) rfl fun w hw => ?_
    have := (H_higher hx hy hz hu 1 (by omega) w hw).1
    rw [e1]
    show y + higherS _ _ ((1 : Nat) : Int) 0 w = _
    rw [this]; simp
  · unfold agentS
    rw [if_pos hl]
    show (lockS (setH x y z u) ((2 : Nat) : Int) ((0 : Nat) : Int)).bind _ = _
    rw [k2, Option.bind_some]
    have el : leastS (setH x y z u) 2 ⟨3, u, 1⟩ = u := by unfold leastS; rw [e2]; show u + lowerS _ ((2 : Nat) : Int) 1 = _; rw [l2]; simp
    rw [el]
    refine lfp_const (by omega) (by omega) (by omega) rfl fun w hw => ?_
    have := (H_higher hx hy hz hu 2 (by omega) w hw).2
    rw [e2]
    show u + higherS _ _ ((2 : Nat) : Int) 1 w = _
    rw [this]; simp
end
theorem mod50 {n : Int} (h : 0 ≤ n ∧ n ≤ 255) : ∃ x, L50 x ∧ IntKind.wrap .i64 (IntKind.wrap .i64 (n.tmod 50) + 1) = x := by
  have h1 : n.tmod 50 = n % 50 := Int.tmod_eq_emod_of_nonneg h.1
  refine ⟨n % 50 + 1, ⟨by omega, by omega⟩, ?_⟩
  rw [h1, wrap_i (n % 50) (by omega) (by omega), wrap_i _ (by omega) (by omega)]
theorem agentHomes_is (a b c d : Int) (ha : (Lit.int .u8 a).wf = true) (hb : (Lit.int .u8 b).wf = true) (hc : (Lit.int .u8 c).wf = true) (hd : (Lit.int .u8 d).wf = true) :
    Ans (vb true) [] (callL tab0 ext0 6 [vu8 a, vu8 b, vu8 c, vu8 d] []) := by
  rw [callL_tab _ _ rfl tab6 rfl]
  have h1 := pure_vb (k := false) known_15
  obtain ⟨x, hx, ex⟩ := mod50 (u8_of ha)
  obtain ⟨y, hy, ey⟩ := mod50 (u8_of hb)
  obtain ⟨z, hz, ez⟩ := mod50 (u8_of hc)
  obtain ⟨u, hu, eu⟩ := mod50 (u8_of hd)
  have hs := setH_sm x y z u
  have hbI : ∀ b ∈ ([100, 200, 100] : List Int), I64' b := by intro b hb; simp at hb; rcases hb with rfl | rfl | rfl <;> exact ⟨by omega, by omega⟩
  have p0 := pure_ansO (k := false) (agent_is (setH x y z u) hs [100, 200, 100] hbI 0 0)
  have p1 := pure_ansO (k := false) (agent_is (setH x y z u) hs [100, 200, 100] hbI 1 0)
  have p2 := pure_ansO (k := false) (agent_is (setH x y z u) hs [100, 200, 100] hbI 2 0)
  have p3 := pure_vi (k := false) (lower_is (setH x y z u) hs 0 1)
  have p4 := pure_vi (k := false) (higher_is (setH x y z u) hs [100, 200, 100] hbI 2 0 10 ⟨by omega, by omega⟩)
  have p5 := pure_vi (k := false) (higher_is (setH x y z u) hs [100, 200, 100] hbI 0 0 10 ⟨by omega, by omega⟩)
  obtain ⟨a0, a1, a2⟩ := H_agent hx hy hz hu
  have l1 : lowerS (setH x y z u) 0 1 = u := (H_lower hx hy hz hu 0 (by omega)).2
  have g1 : higherS (setH x y z u) [100, 200, 100] 2 0 10 = x + (y + z) := (H_higher hx hy hz hu 2 (by omega) 10 (by omega)).1
  have g2 : higherS (setH x y z u) [100, 200, 100] 0 0 10 = 0 := (H_higher hx hy hz hu 0 (by omega) 10 (by omega)).1
  rw [a0] at p0; rw [a1] at p1; rw [a2] at p2; rw [l1] at p3; rw [g1] at p4; rw [g2] at p5
  have := hx.lo; have := hx.hi; have := hy.lo; have := hy.hi; have := hz.lo; have := hz.hi
  have hm : foldM true y [vi z] = some (max y z) := by show some (if z > y then z else y) = _; congr 1; split <;> omega
  have w1 := wrap_i (x + max y z) (by omega) (by omega)
  have w2 := wrap_i (y + x) (by omega) (by omega)
  have w3 := wrap_i (x + y) (by omega) (by omega)
  have w4 : IntKind.wrap .i64 (x + y + z) = x + (y + z) := by rw [wrap_i _ (by omega) (by omega)]; omega
  simp only [St.c, setH, slI, slT, List.map_cons, List.map_nil, List.flatMap_cons, List.flatMap_nil, Tk.c, slP, Pt.c, List.length_cons, List.length_nil, List.append_nil, List.cons_append, List.nil_append, Nat.zero_add, Nat.reduceAdd, nmA, nmB, nmC, Option.getD_some, Option.isSome_some] at p0 p1 p2 p3 p4 p5
  generalize max y z = mm at hm w1 p0
  simp [C6, -Int.not_lt, -Int.not_le, Option.bind_assoc, eL_seq, eL_reg, eL_dreg, clr_nil, clr_cons, neOk_nil, neOk_cons, neK_ptr, eL_ret, eL_skip, eL_exit, eL_scope, eL_cond, eL_block, gJ_nil, gJ_n, gJ_g, ob_ite, ob_none, ob_some, om_some, om_none, om_ite, seqG_nor, seqG_ex, seqG_ret, blkK_nor, blkK_ex, blkK_ret, resK_nor, resK_ret, condK_vb, runG_some, runG_none, puts_nil, puts_cons, gdOf_some, guardX_t, guardX_f, guardX_u, guardX_ite, gd_ite, gd_ite', gd_ite2, gd_ite2', mrg_no, mrg_yes, mrg_ite, mrg_ite', ite_vb, ite_vi, ↓evI_call, ↓evI_calli, ↓evI_callv, ↓evI_mxn, fzL_nil, fzL_cons, nmL_nil, nmL_cons, mpL_nil, mpL_cons, anyB_nil, anyB_cons, callvK_fn, mxnK_cons, evI, eqz_self, evBin_eql, evBin_neq, initFrom, putO, put_at, O.ev, evBin_add, evBin_sub, evBin_mul, evBin_lss, evBin_leq, evBin_gtr, evBin_geq, evBin_quo, evBin_rem, evBin_shr, evBin_shl, evBin_and, evBin_or, evBin_xor, evBin_seql, evBin_sneq, evBin_sadd, evUn, A.cp, A.cp1, A.own, A.norm, A.norm1, cst, cst1, takeU, resultOf, resVal, A.isR, A.isC, A.isV, A.cells, Value.oneCell', frz, frzR, frzC, A.hasB, A.scal, A.isVal, optInt, okCell, fillA, capsOf, h1, ex, ey, ez, eu, p0, p1, p2, p3, p4, p5, hm, w1, w2, w3, w4, eqz_self]
  exact ⟨_, rfl⟩
end Go.Proofs.YtiocdaeinahcoaaEv
