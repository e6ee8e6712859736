/- swingbridgelaw22.TurnBoosts. -/
import Derived.Test.YtkohggddaheefaaTurnP
import Derived.Test.YtkohggddaheefaaU8s
set_option linter.unusedSimpArgs false
set_option linter.unusedVariables false
namespace Go.Proofs.YtkohggddaheefaaEv
open Go
set_option maxHeartbeats 4000000
/-- The one made of the numbers at a place. -/
def bw (bs ps : List Int) (i : Nat) : Wh := ⟨i, ps.getD i 0, if (bs.getD i 0).tmod 2 = 1 then bs.getD i 0 else 0⟩
def bws (bs ps : List Int) (i : Nat) : List Wh := (List.range i).map (bw bs ps)
theorem bws_len (bs ps : List Int) (i : Nat) : (bws bs ps i).length = i := by simp [bws]
theorem bws_at (bs ps : List Int) {i j : Nat} (h : j < i) : (bws bs ps i)[j]? = some (bw bs ps j) := by simp [bws, h]
theorem bws_numd (bs ps : List Int) (m : Nat) : Numd (bws bs ps m) := by
  intro i w h
  have hi : i < m := by have := (List.getElem?_eq_some_iff.1 h).1; rwa [bws_len] at this
  rw [bws_at bs ps hi] at h
  cases h; rfl
theorem bws_succ (bs ps : List Int) (i : Nat) : bws bs ps (i + 1) = bws bs ps i ++ [bw bs ps i] := by simp [bws, List.range_succ]
def bcnt (bs ps : List Int) (i : Nat) : Nat := (bws bs ps i).countP fun w => decide (0 < w.boost)
theorem bcnt_le (bs ps : List Int) (i : Nat) : bcnt bs ps i ≤ i := by
  have := List.countP_le_length (p := fun w : Wh => decide (0 < w.boost)) (l := bws bs ps i)
  rwa [bws_len] at this
theorem b8_odd {b : Int} (h : B8 b) : (0 < (if b.tmod 2 = 1 then b else 0)) ↔ b.tmod 2 = 1 := by
  by_cases c : b.tmod 2 = 1
  · have h2 := h.1
    simp only [c, if_true]
    constructor
    · intro _; trivial
    · intro _
      rcases Int.lt_or_eq_of_le h2 with h3 | h3
      · exact h3
      · subst h3; simp at c
  · simp [c]
theorem getD_lt (l : List Int) (i : Nat) (h : i < l.length) : l.getD i 0 = l[i] := by simp [List.getD, h]
theorem drop_u8 (l : List Int) (i : Nat) (h : i < l.length) : (l.map vu8).drop i = vu8 (l.getD i 0) :: (l.drop (i + 1)).map vu8 := by
  rw [← List.map_drop, List.drop_eq_getElem_cons h, getD_lt l i h]; rfl
theorem tb_loop0 (bs ps : List Int) (k : Int) (hb : ∀ n ∈ bs, B8 n) (hp : ∀ n ∈ ps, B8 n) (hm : bs.length ≤ 20) (hl : bs.length ≤ ps.length) : ∀ (d i : Nat) (e : Env), i + d = bs.length → e 0 = slB bs → e 1 = slB ps → e 2 = vu8 k → e 7 = .sl (fg whc (bws bs ps i)) i 2 → e 8 = vi (bcnt bs ps i) → e 9 = vi i →
    ∃ e', evL tab0 ext0 0 L11_0 (e, []) = some (.ex 0, e', []) ∧ e' 0 = slB bs ∧ e' 1 = slB ps ∧ e' 2 = vu8 k ∧ e' 7 = .sl (fg whc (bws bs ps bs.length)) bs.length 2 ∧ e' 8 = vi (bcnt bs ps bs.length) := by
  intro d
  induction d with
  | zero =>
    intro i e hi h0 h1 h2 h7 h8 h9
    obtain rfl : i = bs.length := by omega
    generalize fg whc (bws bs ps bs.length) = B at *
    exact ⟨_, (go11_0 _ _).trans (by simp [B11_0, push_cast, -Int.not_lt, -Int.not_le, ↓evI_call, ↓evI_calli, ↓evI_callz, ↓evI_callv, ↓evI_mxn, loopIn, loopIn0, keepL, emp, A.dang, A.dangC, h0, h1, h2, h7, h8, h9, slB]; rfl), by simp [put_at, slB]⟩
  | succ d ih =>
    intro i e hi h0 h1 h2 h7 h8 h9
    have d1 := drop_u8 bs i (by omega)
    have d2 := drop_u8 ps i (by omega)
    have hbi : B8 (bs.getD i 0) := by rw [getD_lt _ _ (by omega)]; exact hb _ (List.getElem_mem _)
    have hpi : B8 (ps.getD i 0) := by rw [getD_lt _ _ (by omega)]; exact hp _ (List.getElem_mem _)
    have l1 := whE.flen (bws bs ps i)
    rw [bws_len] at l1
    have hcl := bcnt_le bs ps i
    have e3 : fg whc (bws bs ps (i + 1)) = fg whc (bws bs ps i) ++ [vi i, vi (ps.getD i 0), vi (if (bs.getD i 0).tmod 2 = 1 then bs.getD i 0 else 0)] := by rw [bws_succ, fg, List.flatMap_append]; rfl
    have e4 : bcnt bs ps (i + 1) = bcnt bs ps i + (if (bs.getD i 0).tmod 2 = 1 then 1 else 0) := by
      unfold bcnt
      rw [bws_succ, List.countP_append, List.countP_singleton]
      have := b8_odd hbi
      congr 1
      simp only [bw, decide_eq_true_eq, this]
    have hih := ih (i + 1) (put 9 (vi ((i + 1 : Nat) : Int)) (put 8 (vi (bcnt bs ps (i + 1))) (put 7 (.sl (fg whc (bws bs ps (i + 1))) (i + 1) 2) (put 0 (slB bs) (put 1 (slB ps) (put 2 (vu8 k) emp)))))) (by omega) (by simp [put_at]) (by simp [put_at]) (by simp [put_at]) (by simp [put_at]) (by simp [put_at]) (by simp [put_at])
    obtain ⟨e', r1, r2⟩ := hih
    refine ⟨e', ?_, r2⟩
    rw [← r1, e3, e4]
    refine (go11_0 _ _).trans ?_
    have w1 := wrap_u8i _ hbi
    have w2 := wrap_u8i _ hpi
    have w3 : IntKind.wrap .i64 ((i : Int) + 1) = ((i + 1 : Nat) : Int) := by rw [wrap_in _ (by omega) (by omega)]; omega
    have w4 : IntKind.wrap .i64 ((bcnt bs ps i : Int) + 1) = ((bcnt bs ps i + 1 : Nat) : Int) := by rw [wrap_in _ (by omega) (by omega)]; omega
    have q1 : (i : Int) < bs.length := by omega
    have q2 : (i : Int) < ps.length := by omega
    have q1' : i < bs.length := by omega
    have q2' : i < ps.length := by omega
    have q3 : (i + 1) * 24 ≤ 70368744177664 := by omega
    generalize fg whc (bws bs ps i) = B at *
    generalize bcnt bs ps i = c at *
    generalize bs.getD i 0 = b at *
    generalize ps.getD i 0 = p at *
    generalize (bs.drop (i + 1)).map vu8 = D1 at *
    generalize (ps.drop (i + 1)).map vu8 = D2 at *
    generalize hz : ((i + 1 : Nat) : Int) = z at *
    by_cases cc : b.tmod 2 = 1
    · have cc' : eqz (b.tmod 2) 1 = true := by simp [eqz, cc]
      simp only [cc, if_true]
      generalize ((c + 1 : Nat) : Int) = z2 at *
      simp [B11_0, push_cast, -Int.not_lt, -Int.not_le, ↓evI_call, ↓evI_calli, ↓evI_callz, ↓evI_callv, ↓evI_mxn, loopIn, loopIn0, keepL, emp, A.dang, A.dangC, h0, h1, h2, h7, h8, h9, slB, d1, d2, w1, w2, w3, w4, q1, q2, q1', q2', q3, l1, cc, eqz, asList]
      refine (loop_junk (bx := []) (nb := 0) (kb := 0) [[vi i, vi p, vi b]] (by simp) _).trans ?_
      exact loop_env (by simp [put_at])
    · simp only [cc, if_false, Nat.add_zero]
      simp [B11_0, push_cast, -Int.not_lt, -Int.not_le, ↓evI_call, ↓evI_calli, ↓evI_callz, ↓evI_callv, ↓evI_mxn, loopIn, loopIn0, keepL, emp, A.dang, A.dangC, h0, h1, h2, h7, h8, h9, slB, d1, d2, w1, w2, w3, w4, q1, q2, q1', q2', q3, l1, cc, eqz, asList]
      refine (loop_junk (bx := []) (nb := 0) (kb := 0) [[vi i, vi p, vi 0]] (by simp) _).trans ?_
      exact loop_env (by simp [put_at])
/-- What stands at a place of the answer. -/
theorem tb_fact (bs ps : List Int) (hb : ∀ n ∈ bs, B8 n) (hl : bs.length ≤ ps.length) {i : Nat} (hi : i < bs.length) : ∃ t : Nat, (firstW (bws bs ps bs.length) bs.length)[i]? = some (t : Int) ∧ t < bs.length ∧
    ((bs.getD t 0).tmod 2 = 1 ↔ i < bcnt bs ps bs.length) ∧ (ss wlt (bws bs ps bs.length))[i]? = some (bw bs ps t) := by
  have hlen : (ss wlt (bws bs ps bs.length)).length = bs.length := by rw [ss_len, bws_len]
  have h1 := List.getElem?_eq_getElem (l := ss wlt (bws bs ps bs.length)) (i := i) (by omega)
  obtain ⟨t, a1, a2, a3⟩ := s_at (bws_numd bs ps bs.length) h1
  rw [bws_len] at a2
  rw [bws_at bs ps a2] at a3
  have h2 : (ss wlt (bws bs ps bs.length))[i] = bw bs ps t := (Option.some.inj a3).symm
  rw [h2] at h1
  refine ⟨t, ?_, a2, ?_, h1⟩
  · rw [firstW_at _ _ _ (by omega), h1]; rfl
  · have h3 := bpre _ (ss_srt wlt wlt_swo _ _ rfl) i _ h1
    rw [(ss_perm wlt _ (bws bs ps bs.length) rfl).countP_eq] at h3
    have hbt : B8 (bs.getD t 0) := by rw [getD_lt _ _ a2]; exact hb _ (List.getElem_mem _)
    rw [← b8_odd hbt]
    exact h3
theorem tb_loop2 (bs ps : List Int) (hb : ∀ n ∈ bs, B8 n) (hp : ∀ n ∈ ps, B8 n) (hm : bs.length ≤ 20) (hl : bs.length ≤ ps.length) (B : List A) : ∀ (d i : Nat) (e : Env), i + d = bs.length → e 0 = slB bs → e 1 = slB ps → e 7 = .sl B bs.length 2 → e 8 = vi (bcnt bs ps bs.length) →
    e 11 = .sl ((firstW (bws bs ps bs.length) bs.length).map vi) bs.length 0 → e 12 = vi i → ∃ e', evL tab0 ext0 0 L11_2 (e, []) = some (.ex 2, e', []) := by
  intro d
  induction d with
  | zero =>
    intro i e hi h0 h1 h7 h8 h11 h12
    obtain rfl : i = bs.length := by omega
    exact ⟨_, (go11_2 _ _).trans (by simp [B11_2, push_cast, -Int.not_lt, -Int.not_le, ↓evI_call, ↓evI_calli, ↓evI_callz, ↓evI_callv, ↓evI_mxn, loopIn, loopIn0, keepL, emp, A.dang, A.dangC, h0, h1, h7, h8, h11, h12, slB]; rfl)⟩
  | succ d ih =>
    intro i e hi h0 h1 h7 h8 h11 h12
    obtain ⟨t, f1, f2, f3, f4⟩ := tb_fact bs ps hb hl (i := i) (by omega)
    have hih := ih (i + 1) (put 12 (vi ((i + 1 : Nat) : Int)) (put 0 (slB bs) (put 1 (slB ps) (put 7 (.sl B bs.length 2) (put 8 (vi (bcnt bs ps bs.length)) (put 11 (.sl ((firstW (bws bs ps bs.length) bs.length).map vi) bs.length 0) emp)))))) (by omega) (by simp [put_at]) (by simp [put_at]) (by simp [put_at]) (by simp [put_at]) (by simp [put_at]) (by simp [put_at])
    obtain ⟨e', r1⟩ := hih
    refine ⟨e', ?_⟩
    rw [← r1]
    refine (go11_2 _ _).trans ?_
    have d0 := drop_int _ i (List.getElem?_eq_some_iff.1 f1).1
    rw [(List.getElem?_eq_some_iff.1 f1).2] at d0
    have d1 := drop_u8 bs t (by omega)
    have d2 := drop_u8 ps t (by omega)
    have hF := firstW_len (bws bs ps bs.length) bs.length
    rw [bws_len] at hF
    have l0 : ((firstW (bws bs ps bs.length) bs.length).map vi).length = bs.length := by rw [List.length_map]; omega
    have w3 : IntKind.wrap .i64 ((i : Int) + 1) = ((i + 1 : Nat) : Int) := by rw [wrap_in _ (by omega) (by omega)]; omega
    have q1 : (i : Int) < bs.length := by omega
    have q1' : i < bs.length := by omega
    have t1 : ¬ ((t : Int) < 0) := by omega
    have t2 : ¬ ((bs.length : Int) ≤ t) := by omega
    have t2' : ¬ (bs.length ≤ t) := by omega
    have t3 : (t : Int) < bs.length := by omega
    have t4 : (t : Int) < ps.length := by omega
    have t4' : t < ps.length := by omega
    have f3' : ((bs.getD t 0).tmod 2 = 1) = ((i : Int) < (bcnt bs ps bs.length : Int)) := propext (f3.trans (by omega))
    have w1 : IntKind.wrap .i64 1 = 1 := by decide
    rcases Nat.eq_zero_or_pos i with rfl | hpos
    · generalize bcnt bs ps bs.length = c at *
      generalize (firstW (bws bs ps bs.length) bs.length).map vi = F at *
      generalize List.map vi (List.drop (0 + 1) (firstW (bws bs ps bs.length) bs.length)) = F1 at *
      generalize bs.getD t 0 = b at *
      generalize ps.getD t 0 = p at *
      generalize (bs.drop (t + 1)).map vu8 = D1 at *
      generalize (ps.drop (t + 1)).map vu8 = D2 at *
      have q5 : ¬ ((c : Int) < 0) := by omega
      by_cases cc : (0 : Int) < c
      · have fb : b.tmod 2 = 1 := f3'.symm ▸ cc
        have cc' : 0 < c := by omega
        simp [B11_2, push_cast, -Int.not_lt, -Int.not_le, ↓evI_call, ↓evI_calli, ↓evI_callz, ↓evI_callv, ↓evI_mxn, loopIn, loopIn0, keepL, emp, A.dang, A.dangC, h0, h1, h7, h8, h11, h12, slB, d0, d1, d2, w3, q1, q1', t1, t2, t2', t3, f2, t4, t4', fb, cc, cc', q5, w1, eqz]
        exact loop_env (by simp [put_at])
      · have fb : ¬ b.tmod 2 = 1 := fun h => cc (f3' ▸ h)
        have cc' : ¬ 0 < c := by omega
        simp [B11_2, push_cast, -Int.not_lt, -Int.not_le, ↓evI_call, ↓evI_calli, ↓evI_callz, ↓evI_callv, ↓evI_mxn, loopIn, loopIn0, keepL, emp, A.dang, A.dangC, h0, h1, h7, h8, h11, h12, slB, d0, d1, d2, w3, q1, q1', t1, t2, t2', t3, f2, t4, t4', fb, cc, cc', q5, w1, eqz]
        exact loop_env (by simp [put_at])
    · obtain ⟨j, rfl⟩ : ∃ j, i = j + 1 := ⟨i - 1, by omega⟩
      obtain ⟨t', g1, g2, g3, g4⟩ := tb_fact bs ps hb hl (i := j) (by omega)
      have hord := s_srt (M := bws bs ps bs.length) (Nat.lt_succ_self j) g4 f4
      have b0 := drop_int _ j (List.getElem?_eq_some_iff.1 g1).1
      rw [(List.getElem?_eq_some_iff.1 g1).2] at b0
      have b1 := drop_u8 bs t' (by omega)
      have b2 := drop_u8 ps t' (by omega)
      have wj : IntKind.wrap .i64 (((j + 1 : Nat) : Int) - 1) = (j : Int) := by rw [wrap_in _ (by omega) (by omega)]; omega
      have t5 : (t' : Int) < bs.length := by omega
      have t6 : (t' : Int) < ps.length := by omega
      have t6' : t' < ps.length := by omega
      have t7 : (j : Int) < bs.length := by omega
      have t7' : j < bs.length := by omega
      have q6 : (0 : Int) < ((j + 1 : Nat) : Int) := by omega
      unfold wlt at hord
      have hbt : B8 (bs.getD t 0) := by rw [getD_lt _ _ f2]; exact hb _ (List.getElem_mem _)
      have hbt' : B8 (bs.getD t' 0) := by rw [getD_lt _ _ g2]; exact hb _ (List.getElem_mem _)
      have o1 := b8_odd hbt
      have o2 := b8_odd hbt'
      simp only [bw] at hord
      have K1 : ((j + 1 : Nat) : Int) < (bcnt bs ps bs.length : Int) → ¬ bs.getD t 0 < bs.getD t' 0 := by
        intro h
        have h1 := f3.2 (by omega)
        have h2 := g3.2 (by omega)
        have p1 := o1.2 h1
        have p2 := o2.2 h2
        simp only [if_pos h1, if_pos h2] at hord p1 p2
        simp only [if_pos p1, if_pos p2] at hord
        have := of_decide_eq_false hord
        omega
      have K2 : (bcnt bs ps bs.length : Int) < ((j + 1 : Nat) : Int) → ¬ ps.getD t 0 < ps.getD t' 0 := by
        intro h
        have h1 : ¬ (bs.getD t 0).tmod 2 = 1 := fun h => by have := f3.1 h; omega
        have h2 : ¬ (bs.getD t' 0).tmod 2 = 1 := fun h => by have := g3.1 h; omega
        simp only [if_neg h1, if_neg h2, Int.lt_irrefl, if_false] at hord
        have := of_decide_eq_false hord
        omega
      clear hord o1 o2 hbt hbt' f1 f4 g1 g4
      generalize bcnt bs ps bs.length = c at *
      generalize (firstW (bws bs ps bs.length) bs.length).map vi = F at *
      generalize List.map vi (List.drop (j + 1 + 1) (firstW (bws bs ps bs.length) bs.length)) = F1 at *
      generalize List.map vi (List.drop (j + 1) (firstW (bws bs ps bs.length) bs.length)) = F2 at *
      generalize bs.getD t 0 = b at *
      generalize ps.getD t 0 = p at *
      generalize bs.getD t' 0 = b' at *
      generalize ps.getD t' 0 = p' at *
      generalize (bs.drop (t + 1)).map vu8 = D1 at *
      generalize (ps.drop (t + 1)).map vu8 = D2 at *
      generalize (bs.drop (t' + 1)).map vu8 = D3 at *
      generalize (ps.drop (t' + 1)).map vu8 = D4 at *
      have zt : (((j + 1 : Nat) : Int)).toNat = j + 1 := by omega
      have zp : (0 : Int) ≤ ((j + 1 : Nat) : Int) := by omega
      generalize ((j + 1 + 1 : Nat) : Int) = z2 at *
      generalize hz : ((j + 1 : Nat) : Int) = z at *
      rcases Int.lt_trichotomy z c with cc | cc | cc
      · have fb : b.tmod 2 = 1 := f3'.symm ▸ cc
        have k1 := K1 cc
        have cn : ¬ (c : Int) < z := by omega
        simp [B11_2, push_cast, -Int.not_lt, -Int.not_le, ↓evI_call, ↓evI_calli, ↓evI_callz, ↓evI_callv, ↓evI_mxn, loopIn, loopIn0, keepL, emp, A.dang, A.dangC, h0, h1, h7, h8, h11, h12, slB, d0, d1, d2, b0, b1, b2, w3, wj, q1, q1', q6, t1, t2, t2', t3, f2, t4, t4', t5, g2, t6, t6', t7, t7', fb, cc, cn, k1, zt, zp, eqz]
        exact loop_env (by simp [put_at])
      · have cc1 : ¬ z < (c : Int) := by omega
        have fb : ¬ b.tmod 2 = 1 := fun h => cc1 (f3' ▸ h)
        have cn : ¬ (c : Int) < z := by omega
        simp [B11_2, push_cast, -Int.not_lt, -Int.not_le, ↓evI_call, ↓evI_calli, ↓evI_callz, ↓evI_callv, ↓evI_mxn, loopIn, loopIn0, keepL, emp, A.dang, A.dangC, h0, h1, h7, h8, h11, h12, slB, d0, d1, d2, b0, b1, b2, w3, wj, q1, q1', q6, t1, t2, t2', t3, f2, t4, t4', t5, g2, t6, t6', t7, t7', fb, cc1, cn, zt, zp, eqz]
        exact loop_env (by simp [put_at])
      · have cc1 : ¬ z < (c : Int) := by omega
        have fb : ¬ b.tmod 2 = 1 := fun h => cc1 (f3' ▸ h)
        have k2 := K2 cc
        simp [B11_2, push_cast, -Int.not_lt, -Int.not_le, ↓evI_call, ↓evI_calli, ↓evI_callz, ↓evI_callv, ↓evI_mxn, loopIn, loopIn0, keepL, emp, A.dang, A.dangC, h0, h1, h7, h8, h11, h12, slB, d0, d1, d2, b0, b1, b2, w3, wj, q1, q1', q6, t1, t2, t2', t3, f2, t4, t4', t5, g2, t6, t6', t7, t7', fb, cc, cc1, k2, zt, zp, eqz]
        exact loop_env (by simp [put_at])
theorem turnBoosts_is (bs ps : List Int) (k : Int) (hb : ∀ n ∈ bs, B8 n) (hp : ∀ n ∈ ps, B8 n) (hk0 : (Lit.int .u8 k).wf = true) : Ans (vb true) [] (callL tab0 ext0 11 [slB bs, slB ps, vu8 k] []) := by
  rw [callL_tab _ _ rfl tab11 rfl]
  have h1 := pure_vb (k := false) known_34
  by_cases hm : bs.length ≤ 20
  · by_cases hl : bs.length ≤ ps.length
    · have hk := u8_of hk0
      have ht : B8 (k.tmod 25) := ⟨Int.tmod_nonneg _ hk.1, by have := Int.tmod_lt_of_pos k (show (0 : Int) < 25 by omega); omega⟩
      have w2 := wrap_u8i _ ht
      obtain ⟨e1, r1, r2, r3, r4, r5, r6⟩ := tb_loop0 bs ps k hb hp hm hl bs.length 0 (put 9 (vi (0 : Nat)) (put 8 (vi (0 : Nat)) (put 7 (.sl [] 0 2) (put 0 (slB bs) (put 1 (slB ps) (put 2 (vu8 k) emp)))))) (by omega) (by simp [put_at]) (by simp [put_at]) (by simp [put_at]) (by simp [put_at, bws]) (by simp [put_at, bcnt, bws]) (by simp [put_at])
      have hll := bws_len bs ps bs.length
      have c1 := first_w (bws bs ps bs.length) bs.length (by omega)
      have c2 := first_w (bws bs ps bs.length) (k.tmod 25) (by omega)
      have z1 := firstW_len (bws bs ps bs.length) bs.length
      have z2 := firstW_len (bws bs ps bs.length) (k.tmod 25)
      rw [hll] at c1 c2 z1 z2
      have z1' : (firstW (bws bs ps bs.length) bs.length).length = bs.length := by omega
      simp only [slI, z1', z2] at c1 c2
      obtain ⟨e2, s1⟩ := tb_loop2 bs ps hb hp hm hl (fg whc (bws bs ps bs.length)) bs.length 0 (put 12 (vi (0 : Nat)) (put 11 (.sl ((firstW (bws bs ps bs.length) bs.length).map vi) bs.length 0) (put 0 (slB bs) (put 1 (slB ps) (put 7 (.sl (fg whc (bws bs ps bs.length)) bs.length 2) (put 8 (vi (bcnt bs ps bs.length)) emp)))))) (by omega) (by simp [put_at]) (by simp [put_at]) (by simp [put_at]) (by simp [put_at]) (by simp [put_at]) (by simp [put_at])
      have n1 : ¬ (20 : Int) < bs.length := by omega
      have n1' : ¬ 20 < bs.length := by omega
      have n2 : ¬ (ps.length : Int) < bs.length := by omega
      have n2' : ¬ ps.length < bs.length := by omega
      have hmin : (((min (k.tmod 25).toNat bs.length : Nat)) : Int) = (if (bs.length : Int) < k.tmod 25 then (bs.length : Int) else k.tmod 25) := by
        have := ht.1
        split <;> omega
      generalize fg whc (bws bs ps bs.length) = B at *
      generalize (firstW (bws bs ps bs.length) bs.length).map vi = F at *
      generalize (firstW (bws bs ps bs.length) (k.tmod 25)).map vi = F2 at *
      simp [C11, push_cast, -Int.not_lt, -Int.not_le, ↓evI_call, ↓evI_calli, ↓evI_callz, ↓evI_callv, ↓evI_mxn, slB, h1, n1, n1', n2, n2']
      refine behindP (Q := fun a => a = (.ex 0, e1, [])) ⟨_, Eq.trans (loop_env (by simp [put_at, slB])) r1, rfl⟩ ?_
      rintro _ rfl
      simp [push_cast, -Int.not_lt, -Int.not_le, ↓evI_call, ↓evI_calli, ↓evI_callz, ↓evI_callv, ↓evI_mxn, r2, r3, r4, r5, r6, c1, c2, w2, eqz, foldM]
      rw [if_pos hmin]
      refine behindP (Q := fun a => a = (.ex 2, e2, [])) ⟨_, Eq.trans (loop_env (by simp [put_at, r2, r3, r5, r6])) s1, rfl⟩ ?_
      rintro _ rfl
      simp [push_cast, -Int.not_lt, -Int.not_le, ↓evI_call, ↓evI_calli, ↓evI_callz, ↓evI_callv, ↓evI_mxn]
      exact ⟨_, rfl⟩
    · have n1 : (ps.length : Int) < bs.length := by omega
      have n1' : ps.length < bs.length := by omega
      have n2 : ¬ (20 : Int) < bs.length := by omega
      have n2' : ¬ 20 < bs.length := by omega
      simp [C11, push_cast, -Int.not_lt, -Int.not_le, ↓evI_call, ↓evI_calli, ↓evI_callz, ↓evI_callv, ↓evI_mxn, slB, h1, n1, n1', n2, n2']
      exact ⟨_, rfl⟩
  · have n1 : (20 : Int) < bs.length := by omega
    have n1' : 20 < bs.length := by omega
    simp [C11, push_cast, -Int.not_lt, -Int.not_le, ↓evI_call, ↓evI_calli, ↓evI_callz, ↓evI_callv, ↓evI_mxn, slB, h1, n1, n1']
    exact ⟨_, rfl⟩
end Go.Proofs.YtkohggddaheefaaEv
