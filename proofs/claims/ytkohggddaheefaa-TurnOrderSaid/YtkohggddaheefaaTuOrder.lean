/- swingbridgelaw22.TurnOrder. -/
import Derived.Test.YtkohggddaheefaaTurnP
import Derived.Test.YtkohggddaheefaaIn1
set_option linter.unusedSimpArgs false
set_option linter.unusedVariables false
namespace Go.Proofs.YtkohggddaheefaaEv
open Go
set_option maxHeartbeats 4000000
/-- Each one's task made its place. -/
def nmb : Nat → List Wh → List Wh
  | _, [] => []
  | k, w :: l => ⟨k, w.prio, w.boost⟩ :: nmb (k + 1) l
theorem nmb_len : ∀ (k : Nat) (l : List Wh), (nmb k l).length = l.length
  | _, [] => rfl
  | k, w :: l => by simp [nmb, nmb_len (k + 1) l]
theorem nmb_at : ∀ (k : Nat) (l : List Wh) (i : Nat) (w : Wh), l[i]? = some w → (nmb k l)[i]? = some ⟨((k + i : Nat) : Int), w.prio, w.boost⟩
  | k, [], i, w, h => by simp at h
  | k, a :: l, 0, w, h => by simp at h; subst h; simp [nmb]
  | k, a :: l, i + 1, w, h => by
    have := nmb_at (k + 1) l i w (by simpa using h)
    simp only [nmb, List.getElem?_cons_succ, this]
    rw [show k + 1 + i = k + (i + 1) by omega]
theorem nmb_numd (l : List Wh) : Numd (nmb 0 l) := by
  intro i w h
  have hi : i < l.length := by have := (List.getElem?_eq_some_iff.1 h).1; rwa [nmb_len] at this
  rw [nmb_at 0 l i _ (List.getElem?_eq_getElem hi)] at h
  cases h; simp
theorem fg_task (U : List Wh) (w : Wh) (V : List Wh) (x : Int) (i : Nat) (hi : i = U.length) : (fg whc (U ++ w :: V)).take (i * 3) ++ vi x :: (fg whc (U ++ w :: V)).drop (i * 3 + 1) = fg whc (U ++ ⟨x, w.prio, w.boost⟩ :: V) := by
  subst hi
  have h := whE.flen U
  have e1 : fg whc (U ++ w :: V) = fg whc U ++ (whc w ++ fg whc V) := by simp [fg]
  have e2 : fg whc (U ++ ⟨x, w.prio, w.boost⟩ :: V) = fg whc U ++ (whc ⟨x, w.prio, w.boost⟩ ++ fg whc V) := by simp [fg]
  rw [e1, e2, ← h, List.take_left, ← List.drop_drop, List.drop_left]; rfl
theorem plain_own {l : List A} (h : l.all A.plain = true) : l.map A.own = l := by
  simp only [List.all_eq_true] at h
  refine (List.map_congr_left fun a ha => ?_).trans (List.map_id' _)
  have h := h a ha
  cases a <;> simp_all [A.plain, A.own]
/-- Which places are marked. -/
def mks (f : List Int) (i n : Nat) : List A := (List.range n).map fun (j : Nat) => vb (decide ((j : Int) ∈ f.take i))
theorem mks_len (f : List Int) (i n : Nat) : (mks f i n).length = n := by simp [mks]
theorem mks_at (f : List Int) (i n j : Nat) (h : j < n) : (mks f i n)[j]? = some (vb (decide ((j : Int) ∈ f.take i))) := by
  unfold mks
  rw [List.getElem?_map, List.getElem?_range h]; rfl
theorem mks_plain (f : List Int) (i n : Nat) : (mks f i n).all A.plain = true := by
  simp only [mks, List.all_eq_true, List.mem_map]
  rintro _ ⟨_, _, rfl⟩; rfl
theorem mks_zero (f : List Int) (n : Nat) : (List.replicate n [vb false]).flatten = mks f 0 n := by
  induction n with
  | zero => rfl
  | succ n ih =>
    have : mks f 0 (n + 1) = mks f 0 n ++ [vb false] := by simp [mks, List.range_succ]
    rw [this, List.replicate_succ', List.flatten_append, ih]; rfl
theorem mks_step (f : List Int) (i n t : Nat) (ht : t < n) (hf : f[i]? = some (t : Int)) : (mks f i n).take t ++ vb true :: (mks f i n).drop (t + 1) = mks f (i + 1) n := by
  have e1 : (mks f i n).set t (vb true) = (mks f i n).take t ++ vb true :: (mks f i n).drop (t + 1) := List.set_eq_take_append_cons_drop.trans (if_pos (by rw [mks_len]; exact ht))
  rw [← e1]
  refine List.ext_getElem? fun j => ?_
  by_cases hj : j < n
  · rw [mks_at f (i + 1) n j hj]
    have e2 : f.take (i + 1) = f.take i ++ [(t : Int)] := by rw [List.take_add_one, hf]; rfl
    by_cases hjt : t = j
    · subst hjt
      rw [List.getElem?_set_self (by rw [mks_len]; exact hj), e2]; simp
    · rw [List.getElem?_set_ne hjt, mks_at f i n j hj, e2]
      have : ¬ (j : Int) = t := by omega
      simp [this]
  · rw [List.getElem?_eq_none (by rw [List.length_set, mks_len]; omega), List.getElem?_eq_none (by rw [mks_len]; omega)]
theorem to_loop0 (a b c : Wh) (l : List Wh) (n : Nat) (k : Int) (hL : l.length = n) (hn : n ≤ 30) : ∀ (d i : Nat) (e : Env), i + d = n → e 4 = vu8 k → e 13 = .bs 3 n 3 → e 14 = vi i →
    ∃ e', evL tab0 ext0 0 L10_0 (e, [whc a, whc b, whc c, fg whc ((nmb 0 l).take i ++ l.drop i)]) = some (.ex 0, e', [whc a, whc b, whc c, fg whc (nmb 0 l)]) ∧ e' 4 = vu8 k ∧ e' 13 = .bs 3 n 3 := by
  intro d
  induction d with
  | zero =>
    intro i e hi h4 h13 h14
    obtain rfl : i = n := by omega
    have e1 : (nmb 0 l).take i ++ l.drop i = nmb 0 l := by rw [List.take_of_length_le (by rw [nmb_len]; omega), List.drop_of_length_le (by omega), List.append_nil]
    rw [e1]
    have hcl : (fg whc (nmb 0 l)).all (A.dangC 4) = true := plain_dang (whE.fplain _)
    have hown := plain_own (whE.fplain (nmb 0 l))
    generalize fg whc (nmb 0 l) = B at *
    exact ⟨_, (go10_0 _ _).trans (by simp [B10_0, push_cast, -Int.not_lt, -Int.not_le, ↓evI_call, ↓evI_calli, ↓evI_callz, ↓evI_callv, ↓evI_mxn, loopIn, loopIn0, keepL, emp, A.dang, A.dangC, whc, h4, h13, h14, hcl, hown, -List.all_eq_true]; rfl), by simp [put_at]⟩
  | succ d ih =>
    intro i e hi h4 h13 h14
    have hil : i < l.length := by omega
    have hlt : ((nmb 0 l).take i).length = i := by rw [List.length_take, nmb_len]; omega
    have e1 : l.drop i = l[i] :: l.drop (i + 1) := List.drop_eq_getElem_cons hil
    have e2 : (nmb 0 l).take (i + 1) ++ l.drop (i + 1) = (nmb 0 l).take i ++ ⟨(i : Int), l[i].prio, l[i].boost⟩ :: l.drop (i + 1) := by
      rw [List.take_add_one, nmb_at 0 l i _ (List.getElem?_eq_getElem hil)]; simp
    have s1 := fg_task ((nmb 0 l).take i) l[i] (l.drop (i + 1)) i i hlt.symm
    rw [← e2, ← e1] at s1
    obtain ⟨e', r1, r2⟩ := ih (i + 1) (put 14 (vi ((i + 1 : Nat) : Int)) (put 4 (vu8 k) (put 13 (.bs 3 n 3) emp))) (by omega) (by simp [put_at]) (by simp [put_at]) (by simp [put_at])
    refine ⟨e', ?_, r2⟩
    rw [← r1]
    have hcl : (fg whc ((nmb 0 l).take i ++ l.drop i)).all (A.dangC 4) = true := plain_dang (whE.fplain _)
    have hown := plain_own (whE.fplain ((nmb 0 l).take i ++ l.drop i))
    have hlen := whE.flen ((nmb 0 l).take i ++ l.drop i)
    rw [List.length_append, hlt, List.length_drop, show i + (l.length - i) = n by omega] at hlen
    have q1 : IntKind.wrap .i64 ((i : Int) + 1) = ((i + 1 : Nat) : Int) := by rw [wrap_in _ (by omega) (by omega)]; omega
    have q2 : (i : Int) < n := by omega
    have k1 : i * 3 + 1 ≤ n * 3 := by omega
    refine (go10_0 _ _).trans ?_
    generalize fg whc ((nmb 0 l).take i ++ l.drop i) = B at *
    generalize fg whc ((nmb 0 l).take (i + 1) ++ l.drop (i + 1)) = B2 at *
    generalize ((i + 1 : Nat) : Int) = z at *
    simp [B10_0, push_cast, -Int.not_lt, -Int.not_le, ↓evI_call, ↓evI_calli, ↓evI_callz, ↓evI_callv, ↓evI_mxn, loopIn, loopIn0, keepL, emp, A.dang, A.dangC, whc, h4, h13, h14, hcl, hown, hlen, q1, q2, k1, s1, -List.all_eq_true]
    exact loop_env (by simp [put_at])
/-- What stands at a place of the answer. -/
theorem to_fact (l : List Wh) (k : Int) {i : Nat} (hi : i < (firstW (nmb 0 l) k).length) : ∃ (t : Nat) (w : Wh), (firstW (nmb 0 l) k)[i]? = some (t : Int) ∧ t < l.length ∧ (nmb 0 l)[t]? = some w ∧ (ss wlt (nmb 0 l))[i]? = some w ∧ w.task = t := by
  have hk : (i : Int) < k ∧ i < l.length := by rw [firstW_len, nmb_len] at hi; omega
  have hlen : (ss wlt (nmb 0 l)).length = l.length := by rw [ss_len, nmb_len]
  have h1 := List.getElem?_eq_getElem (l := ss wlt (nmb 0 l)) (i := i) (by omega)
  obtain ⟨t, a1, a2, a3⟩ := s_at (nmb_numd l) h1
  rw [nmb_len] at a2
  exact ⟨t, _, by rw [firstW_at _ _ _ hk.1, h1, ← a1]; rfl, a2, a3, h1, a1⟩
theorem to_fresh (l : List Wh) (k : Int) {i : Nat} {t : Nat} (hi : i < (firstW (nmb 0 l) k).length) (ht : (firstW (nmb 0 l) k)[i]? = some (t : Int)) : ¬ (t : Int) ∈ (firstW (nmb 0 l) k).take i := by
  intro h
  obtain ⟨j, hj, hjt⟩ := List.getElem_of_mem h
  rw [List.length_take] at hj
  rw [List.getElem_take] at hjt
  obtain ⟨t1, w1, a1, _, _, a4, a5⟩ := to_fact l k hi
  obtain ⟨t2, w2, b1, _, _, b4, b5⟩ := to_fact l k (i := j) (by omega)
  rw [ht] at a1
  rw [List.getElem?_eq_getElem (by omega), hjt] at b1
  have h1 : (t : Int) = t1 := Option.some.inj a1
  have h2 : (t : Int) = t2 := Option.some.inj b1
  exact s_ne (nmb_numd l) (show j < i by omega) b4 a4 (by omega)
theorem to_loop2 (l : List Wh) (n m : Nat) (k : Int) (hL : l.length = n) (hn : n ≤ 30) (hm : (firstW (nmb 0 l) k).length = m) : ∀ (d i : Nat) (e : Env), i + d = m → e 13 = .sl (fg whc (nmb 0 l)) n 0 → e 15 = .sl ((firstW (nmb 0 l) k).map vi) m 0 → e 16 = .bs 0 n 1 → e 17 = vi i →
    ∃ e', evL tab0 ext0 0 L10_2 (e, [mks (firstW (nmb 0 l) k) i n]) = some (.ex 2, e', [mks (firstW (nmb 0 l) k) m n]) ∧ e' 13 = .sl (fg whc (nmb 0 l)) n 0 ∧ e' 15 = .sl ((firstW (nmb 0 l) k).map vi) m 0 ∧ e' 16 = .bs 0 n 1 := by
  intro d
  induction d with
  | zero =>
    intro i e hi h13 h15 h16 h17
    obtain rfl : i = m := by omega
    have hcl : (mks (firstW (nmb 0 l) k) i n).all (A.dangC 1) = true := plain_dang (mks_plain _ _ _)
    have hown := plain_own (mks_plain (firstW (nmb 0 l) k) i n)
    generalize mks (firstW (nmb 0 l) k) i n = B at *
    generalize fg whc (nmb 0 l) = M at *
    generalize (firstW (nmb 0 l) k).map vi = F at *
    exact ⟨_, (go10_2 _ _).trans (by simp [B10_2, push_cast, -Int.not_lt, -Int.not_le, ↓evI_call, ↓evI_calli, ↓evI_callz, ↓evI_callv, ↓evI_mxn, loopIn, loopIn0, keepL, emp, A.dang, A.dangC, h13, h15, h16, h17, hcl, hown, -List.all_eq_true]; rfl), by simp [put_at]⟩
  | succ d ih =>
    intro i e hi h13 h15 h16 h17
    have hmn : m ≤ n := by rw [← hm, firstW_len, nmb_len]; omega
    obtain ⟨t, w, f1, f2, f3, f4, f5⟩ := to_fact l k (i := i) (by omega)
    have f6 := to_fresh l k (i := i) (by omega) f1
    obtain ⟨e', r1, r2⟩ := ih (i + 1) (put 17 (vi ((i + 1 : Nat) : Int)) (put 13 (.sl (fg whc (nmb 0 l)) n 0) (put 15 (.sl ((firstW (nmb 0 l) k).map vi) m 0) (put 16 (.bs 0 n 1) emp)))) (by omega) (by simp [put_at]) (by simp [put_at]) (by simp [put_at]) (by simp [put_at])
    refine ⟨e', ?_, r2⟩
    rw [← r1]
    have hcl : (mks (firstW (nmb 0 l) k) i n).all (A.dangC 1) = true := plain_dang (mks_plain _ _ _)
    have hown := plain_own (mks_plain (firstW (nmb 0 l) k) i n)
    have hml := mks_len (firstW (nmb 0 l) k) i n
    have hm1 := mks_at (firstW (nmb 0 l) k) i n t (by omega)
    rw [decide_eq_false f6] at hm1
    have hm2 : ∀ h, (mks (firstW (nmb 0 l) k) i n)[t]'h = vb false := fun h => by have := hm1; rw [List.getElem?_eq_getElem h] at this; exact Option.some.inj this
    have hst := mks_step (firstW (nmb 0 l) k) i n t (by omega) f1
    have d0 := drop_int _ i (List.getElem?_eq_some_iff.1 f1).1
    rw [(List.getElem?_eq_some_iff.1 f1).2] at d0
    obtain ⟨D1, d1⟩ := wh_drop f3
    have lM := whE.flen (nmb 0 l)
    rw [nmb_len, hL] at lM
    have l0 : ((firstW (nmb 0 l) k).map vi).length = m := by rw [List.length_map]; omega
    have q1 : IntKind.wrap .i64 ((i : Int) + 1) = ((i + 1 : Nat) : Int) := by rw [wrap_in _ (by omega) (by omega)]; omega
    have q2 : (i : Int) < m := by omega
    have q2' : i < m := by omega
    have t1 : ¬ ((t : Int) < 0) := by omega
    have t2 : ¬ ((n : Int) ≤ t) := by omega
    have t2' : ¬ (n ≤ t) := by omega
    have t3 : (t : Int) < n := by omega
    have t3' : t < n := by omega
    have k1 : t * 3 + 3 ≤ n * 3 := by omega
    have k2 : t + 1 ≤ n := by omega
    refine (go10_2 _ _).trans ?_
    rcases Nat.eq_zero_or_pos i with rfl | hpos
    · have w1 : IntKind.wrap .i64 1 = 1 := by decide
      generalize mks (firstW (nmb 0 l) k) 0 n = B at *
      generalize mks (firstW (nmb 0 l) k) (0 + 1) n = B2 at *
      generalize fg whc (nmb 0 l) = M at *
      generalize List.map vi (List.drop (0 + 1) (firstW (nmb 0 l) k)) = F1 at *
      generalize (firstW (nmb 0 l) k).map vi = F at *
      simp [B10_2, push_cast, -Int.not_lt, -Int.not_le, ↓evI_call, ↓evI_calli, ↓evI_callz, ↓evI_callv, ↓evI_mxn, loopIn, loopIn0, keepL, emp, A.dang, A.dangC, h13, h15, h16, h17, hcl, hown, hml, hm1, hm2, hst, d0, d1, lM, l0, q1, q2, q2', t1, t2, t2', t3, t3', k1, k2, w1, -List.all_eq_true]
      exact loop_env (by simp [put_at])
    · obtain ⟨j, rfl⟩ : ∃ j, i = j + 1 := ⟨i - 1, by omega⟩
      obtain ⟨t', w', g1, g2, g3, g4, g5⟩ := to_fact l k (i := j) (by omega)
      have hah := ahead_w w' w
      rw [s_ahead (nmb_numd l) (Nat.lt_succ_self j) g4 f4] at hah
      simp only [whc] at hah
      have b0 := drop_int _ j (List.getElem?_eq_some_iff.1 g1).1
      rw [(List.getElem?_eq_some_iff.1 g1).2] at b0
      obtain ⟨D2, b1⟩ := wh_drop g3
      have wj : IntKind.wrap .i64 (((j + 1 : Nat) : Int) - 1) = (j : Int) := by rw [wrap_in _ (by omega) (by omega)]; omega
      have t5 : (t' : Int) < n := by omega
      have t5' : t' < n := by omega
      have t6 : (j : Int) < m := by omega
      have t6' : j < m := by omega
      have k3 : t' * 3 + 3 ≤ n * 3 := by omega
      have q6 : (0 : Int) < ((j + 1 : Nat) : Int) := by omega
      have zt : (((j + 1 : Nat) : Int)).toNat = j + 1 := by omega
      have zp : (0 : Int) ≤ ((j + 1 : Nat) : Int) := by omega
      generalize mks (firstW (nmb 0 l) k) (j + 1) n = B at *
      generalize mks (firstW (nmb 0 l) k) (j + 1 + 1) n = B2 at *
      generalize fg whc (nmb 0 l) = M at *
      generalize List.map vi (List.drop (j + 1 + 1) (firstW (nmb 0 l) k)) = F1 at *
      generalize List.map vi (List.drop (j + 1) (firstW (nmb 0 l) k)) = F2 at *
      generalize (firstW (nmb 0 l) k).map vi = F at *
      generalize ((j + 1 + 1 : Nat) : Int) = z2 at *
      generalize ((j + 1 : Nat) : Int) = z at *
      simp [B10_2, push_cast, -Int.not_lt, -Int.not_le, ↓evI_call, ↓evI_calli, ↓evI_callz, ↓evI_callv, ↓evI_mxn, loopIn, loopIn0, keepL, emp, A.dang, A.dangC, h13, h15, h16, h17, hcl, hown, hml, hm1, hm2, hst, d0, d1, b0, b1, lM, l0, q1, q2, q2', q6, t1, t2, t2', t3, t3', t5, t5', t6, t6', k1, k2, k3, wj, zt, zp, hah, -List.all_eq_true]
      exact loop_env (by simp [put_at])
theorem to_last (l : List Wh) (k : Int) {i : Nat} {w v : Wh} (hi : (nmb 0 l)[i]? = some w) (hf : ¬ (i : Int) ∈ firstW (nmb 0 l) k) {j : Nat} (hj : j < (firstW (nmb 0 l) k).length) (hv : (ss wlt (nmb 0 l))[j]? = some v) : wlt w v = false := by
  obtain ⟨q, hq⟩ := s_find hi
  have hwt := nmb_numd l i w hi
  by_cases h : q < (firstW (nmb 0 l) k).length
  · exfalso
    obtain ⟨t, w', a1, _, _, a4, a5⟩ := to_fact l k h
    rw [hq] at a4
    cases a4
    have : t = i := by omega
    subst this
    exact hf (List.mem_of_getElem? a1)
  · exact s_srt (show j < q by omega) hv hq
theorem to_loop4 (l : List Wh) (n m : Nat) (k : Int) (hL : l.length = n) (hn : n ≤ 30) (hm : (firstW (nmb 0 l) k).length = m) : ∀ (d i : Nat) (e : Env), i + d = n → e 13 = .sl (fg whc (nmb 0 l)) n 0 → e 15 = .sl ((firstW (nmb 0 l) k).map vi) m 0 → e 16 = .bs 0 n 1 → e 18 = vi i →
    ∃ e', evL tab0 ext0 0 L10_4 (e, [mks (firstW (nmb 0 l) k) m n]) = some (.ex 4, e', [mks (firstW (nmb 0 l) k) m n]) := by
  intro d
  have hcl : (mks (firstW (nmb 0 l) k) m n).all (A.dangC 1) = true := plain_dang (mks_plain _ _ _)
  have hown := plain_own (mks_plain (firstW (nmb 0 l) k) m n)
  have hml := mks_len (firstW (nmb 0 l) k) m n
  have lM := whE.flen (nmb 0 l)
  rw [nmb_len, hL] at lM
  have l0 : ((firstW (nmb 0 l) k).map vi).length = m := by rw [List.length_map]; omega
  have hmn : m ≤ n := by rw [← hm, firstW_len, nmb_len]; omega
  induction d with
  | zero =>
    intro i e hi h13 h15 h16 h18
    obtain rfl : i = n := by omega
    generalize mks (firstW (nmb 0 l) k) m i = B at *
    generalize fg whc (nmb 0 l) = M at *
    generalize (firstW (nmb 0 l) k).map vi = F at *
    exact ⟨_, (go10_4 _ _).trans (by simp [B10_4, push_cast, -Int.not_lt, -Int.not_le, ↓evI_call, ↓evI_calli, ↓evI_callz, ↓evI_callv, ↓evI_mxn, loopIn, loopIn0, keepL, emp, A.dang, A.dangC, h13, h15, h16, h18, hcl, hown, -List.all_eq_true]; rfl)⟩
  | succ d ih =>
    intro i e hi h13 h15 h16 h18
    have q2 : (i : Int) < n := by omega
    have q2' : i < n := by omega
    by_cases hm0 : m = 0
    · subst hm0
      generalize mks (firstW (nmb 0 l) k) 0 n = B at *
      generalize fg whc (nmb 0 l) = M at *
      generalize (firstW (nmb 0 l) k).map vi = F at *
      exact ⟨_, (go10_4 _ _).trans (by simp [B10_4, push_cast, -Int.not_lt, -Int.not_le, ↓evI_call, ↓evI_calli, ↓evI_callz, ↓evI_callv, ↓evI_mxn, loopIn, loopIn0, keepL, emp, A.dang, A.dangC, h13, h15, h16, h18, hcl, hown, q2, q2', -List.all_eq_true]; rfl)⟩
    obtain ⟨e', r1⟩ := ih (i + 1) (put 18 (vi ((i + 1 : Nat) : Int)) (put 13 (.sl (fg whc (nmb 0 l)) n 0) (put 15 (.sl ((firstW (nmb 0 l) k).map vi) m 0) (put 16 (.bs 0 n 1) emp)))) (by omega) (by simp [put_at]) (by simp [put_at]) (by simp [put_at]) (by simp [put_at])
    refine ⟨e', ?_⟩
    rw [← r1]
    refine (go10_4 _ _).trans ?_
    have q1 : IntKind.wrap .i64 ((i : Int) + 1) = ((i + 1 : Nat) : Int) := by rw [wrap_in _ (by omega) (by omega)]; omega
    have q3 : (0 : Int) < m := by omega
    have q3' : 0 < m := by omega
    have hm1 := mks_at (firstW (nmb 0 l) k) m n i (by omega)
    have htk : (firstW (nmb 0 l) k).take m = firstW (nmb 0 l) k := List.take_of_length_le (by omega)
    rw [htk] at hm1
    have hm2 : ∀ h, (mks (firstW (nmb 0 l) k) m n)[i]'h = vb (decide ((i : Int) ∈ firstW (nmb 0 l) k)) := fun h => by have := hm1; rw [List.getElem?_eq_getElem h] at this; exact Option.some.inj this
    by_cases hf : (i : Int) ∈ firstW (nmb 0 l) k
    · rw [decide_eq_true hf] at hm1 hm2
      generalize mks (firstW (nmb 0 l) k) m n = B at *
      generalize fg whc (nmb 0 l) = M at *
      generalize (firstW (nmb 0 l) k).map vi = F at *
      generalize ((i + 1 : Nat) : Int) = z at *
      simp [B10_4, push_cast, -Int.not_lt, -Int.not_le, ↓evI_call, ↓evI_calli, ↓evI_callz, ↓evI_callv, ↓evI_mxn, loopIn, loopIn0, keepL, emp, A.dang, A.dangC, h13, h15, h16, h18, hcl, hown, hml, hm1, hm2, q1, q2, q2', q3, q3', -List.all_eq_true]
      exact loop_env (by simp [put_at])
    · rw [decide_eq_false hf] at hm1 hm2
      obtain ⟨j, rfl⟩ : ∃ j, m = j + 1 := ⟨m - 1, by omega⟩
      obtain ⟨t', v, g1, g2, g3, g4, g5⟩ := to_fact l k (i := j) (by omega)
      have hil : i < l.length := by omega
      have hi' := nmb_at 0 l i _ (List.getElem?_eq_getElem hil)
      obtain ⟨w, hw⟩ : ∃ w, (nmb 0 l)[i]? = some w := ⟨_, hi'⟩
      have hah := ahead_w w v
      rw [to_last l k hw hf (j := j) (by omega) g4] at hah
      simp only [whc] at hah
      obtain ⟨D1, d1⟩ := wh_drop hw
      have b0 := drop_int _ j (List.getElem?_eq_some_iff.1 g1).1
      rw [(List.getElem?_eq_some_iff.1 g1).2] at b0
      obtain ⟨D2, b1⟩ := wh_drop g3
      have wj : IntKind.wrap .i64 (((j + 1 : Nat) : Int) - 1) = (j : Int) := by rw [wrap_in _ (by omega) (by omega)]; omega
      have t5 : (t' : Int) < n := by omega
      have t5' : t' < n := by omega
      have t6 : (j : Int) < ((j + 1 : Nat) : Int) := by omega
      have k1 : i * 3 + 3 ≤ n * 3 := by omega
      have k3 : t' * 3 + 3 ≤ n * 3 := by omega
      clear hi'
      generalize mks (firstW (nmb 0 l) k) (j + 1) n = B at *
      generalize fg whc (nmb 0 l) = M at *
      generalize List.map vi (List.drop (j + 1) (firstW (nmb 0 l) k)) = F2 at *
      generalize (firstW (nmb 0 l) k).map vi = F at *
      generalize ((i + 1 : Nat) : Int) = z at *
      generalize hzz : ((j + 1 : Nat) : Int) = zz at *
      have hz0 : ((j : Int) + 1) = zz := by omega
      simp [B10_4, push_cast, -Int.not_lt, -Int.not_le, ↓evI_call, ↓evI_calli, ↓evI_callz, ↓evI_callv, ↓evI_mxn, loopIn, loopIn0, keepL, emp, A.dang, A.dangC, h13, h15, h16, h18, hcl, hown, hml, hm1, hm2, d1, b0, b1, lM, l0, q1, q2, q2', q3, q3', t5, t5', t6, k1, k3, wj, hz0, hah, -List.all_eq_true]
      exact loop_env (by simp [put_at])
/-- What is behind the two at hand. -/
def toTail : C := .seq (.reg [⟨some 63, .mv (.t 3) false, none⟩, ⟨some 64, .app 3 24 (.c (.slice none 0 0)) (.t 63) true, none⟩, ⟨some 13, .mv (.t 64) true, none⟩])
  (.seq (.seq (.reg [⟨some 14, .mv (.c (.int .i64 0)) true, none⟩])
  (.block 0 (L10_0)))
  (.seq (.reg [⟨some 76, .mv (.t 13) false, none⟩, ⟨some 77, .mv (.t 4) false, none⟩, ⟨some 78, .bin .rem (.t 77) (.c (.int .u8 40)), none⟩, ⟨some 79, .conv .i64 (.t 78), none⟩, ⟨some 80, .callz 183 38 [(.t 76), (.t 79)], none⟩, ⟨some 15, .mv (.t 80) true, none⟩])
  (.seq (.seq (.reg [⟨some 81, .mv (.t 15) false, none⟩, ⟨some 82, .len (.t 81), none⟩, ⟨some 83, .mv (.t 13) false, none⟩, ⟨some 84, .len (.t 83), none⟩, ⟨some 85, .mv (.t 4) false, none⟩, ⟨some 86, .bin .rem (.t 85) (.c (.int .u8 40)), none⟩, ⟨some 87, .conv .i64 (.t 86), none⟩, ⟨some 88, .mxn false [(.t 84), (.t 87)], none⟩, ⟨some 89, .bin .neq (.t 82) (.t 88), none⟩])
  (.cond (.t 89) (.seq (.reg [⟨some 10, .mv (.c (.bool false)) true, none⟩])
  (.ret))
  (.skip)))
  (.seq (.reg [⟨some 90, .mv (.t 13) false, none⟩, ⟨some 91, .len (.t 90), none⟩, ⟨some 92, .mksl 1 1 [(.bool false)] (.t 91) true, none⟩, ⟨some 16, .mv (.t 92) true, none⟩])
  (.seq (.seq (.reg [⟨some 17, .mv (.c (.int .i64 0)) true, none⟩])
  (.block 2 (L10_2)))
  (.seq (.seq (.reg [⟨some 18, .mv (.c (.int .i64 0)) true, none⟩])
  (.block 4 (L10_4)))
  (.seq (.reg [⟨some 10, .mv (.c (.bool true)) true, none⟩])
  (.ret))))))))
def toHead : CFun := ⟨183, 5, .seq (.reg [⟨some 5, .box (.t 0), none⟩, ⟨some 6, .box (.t 1), none⟩, ⟨some 7, .box (.t 2), none⟩, ⟨some 10, .mv (.c (.bool false)) true, none⟩])
  (.seq (.seq (.reg [⟨some 19, .call 34 [] false, none⟩, ⟨some 20, .un .not (.t 19), none⟩])
  (.cond (.t 20) (.seq (.reg [⟨some 10, .mv (.c (.bool false)) true, none⟩])
  (.ret))
  (.skip)))
  (.seq (.seq (.reg [⟨some 21, .mv (.t 3) false, none⟩, ⟨some 22, .len (.t 21), none⟩, ⟨some 23, .bin .gtr (.t 22) (.c (.int .i64 30)), none⟩])
  (.cond (.t 23) (.seq (.reg [⟨some 10, .mv (.c (.bool true)) true, none⟩])
  (.ret))
  (.skip)))
  (.seq (.reg [⟨some 24, .load 3 true (.t 5) false, none⟩, ⟨some 25, .load 3 true (.t 6) false, none⟩, ⟨some 26, .call 35 [(.t 24), (.t 25)] false, none⟩, ⟨some 27, .load 3 true (.t 6) false, none⟩, ⟨some 28, .load 3 true (.t 5) false, none⟩, ⟨some 29, .call 35 [(.t 27), (.t 28)] false, none⟩, ⟨some 11, .mv (.t 26) true, none⟩, ⟨some 12, .mv (.t 29) true, none⟩])
  (.seq (.seq (.reg [⟨some 30, .mv (.t 11) false, none⟩, ⟨some 31, .mv (.t 30) false, none⟩, ⟨some 32, .mv (.t 12) false, some (31, true)⟩, ⟨some 33, .pick (.t 31) (.t 32) (.c (.bool false)), none⟩, ⟨some 34, .mv (.t 33) false, none⟩, ⟨some 35, .mv (.t 11) false, some (34, false)⟩, ⟨some 36, .mv (.t 35) false, some (34, false)⟩, ⟨some 37, .load 3 true (.t 6) false, some (36, true)⟩, ⟨some 38, .load 3 true (.t 7) false, some (36, true)⟩, ⟨some 39, .call 35 [(.t 37), (.t 38)] false, some (36, true)⟩, ⟨some 40, .pick (.t 36) (.t 39) (.c (.bool false)), some (34, false)⟩, ⟨some 41, .mv (.t 40) false, some (34, false)⟩, ⟨some 42, .load 3 true (.t 5) false, some (41, true)⟩, ⟨some 43, .load 3 true (.t 7) false, some (41, true)⟩, ⟨some 44, .call 35 [(.t 42), (.t 43)] false, some (41, true)⟩, ⟨some 45, .un .not (.t 44), some (41, true)⟩, ⟨some 46, .pick (.t 41) (.t 45) (.c (.bool false)), some (34, false)⟩, ⟨some 47, .pick (.t 34) (.c (.bool true)) (.t 46), none⟩, ⟨some 48, .mv (.t 47) false, none⟩, ⟨some 49, .fa 0 (.t 5), some (48, false)⟩, ⟨some 50, .load 1 false (.t 49) false, some (48, false)⟩, ⟨some 51, .fa 0 (.t 6), some (48, false)⟩, ⟨some 52, .load 1 false (.t 51) false, some (48, false)⟩, ⟨some 53, .bin .neq (.t 50) (.t 52), some (48, false)⟩, ⟨some 54, .mv (.t 53) false, some (48, false)⟩, ⟨some 55, .mv (.t 11) false, some (54, true)⟩, ⟨some 56, .un .not (.t 55), some (54, true)⟩, ⟨some 57, .pick (.t 54) (.t 56) (.c (.bool false)), some (48, false)⟩, ⟨some 58, .mv (.t 57) false, some (48, false)⟩, ⟨some 59, .mv (.t 12) false, some (58, true)⟩, ⟨some 60, .un .not (.t 59), some (58, true)⟩, ⟨some 61, .pick (.t 58) (.t 60) (.c (.bool false)), some (48, false)⟩, ⟨some 62, .pick (.t 48) (.c (.bool true)) (.t 61), none⟩])
  (.cond (.t 62) (.seq (.reg [⟨some 10, .mv (.c (.bool false)) true, none⟩])
  (.ret))
  (.skip)))
  toTail)))), [.t 10]⟩
theorem to_c : C10 = toHead := rfl
/-- It ends, and tells that it is so. -/
def RetT (o : Option (Out × Env × Bx)) : Prop := ∃ (e' : Env) (bx : Bx), o = some (.ret, e', bx) ∧ e' 10 = vb true
theorem RetT.run {o : Option (Out × Env × Bx)} (h : RetT o) : ∃ a, o = some a ∧ ∃ (e' : Env) (bx : Bx), a = (.ret, e', bx) ∧ e' 10 = vb true := by
  obtain ⟨e', bx, h1, h2⟩ := h
  exact ⟨_, h1, e', bx, rfl, h2⟩
theorem to_tail (a b c : Wh) (l : List Wh) (k : Int) (hm : l.length ≤ 30) (hk : 0 ≤ k ∧ k ≤ 255) (e : Env) (h3 : e 3 = .sl (fg whc l) l.length 0) (h4 : e 4 = vu8 k) :
    RetT (evL tab0 ext0 0 toTail (e, [whc a, whc b, whc c])) := by
  have ht : 0 ≤ k.tmod 40 ∧ k.tmod 40 ≤ 255 := ⟨Int.tmod_nonneg _ hk.1, by have := Int.tmod_lt_of_pos k (show (0 : Int) < 40 by omega); omega⟩
  have w2 := wrap_u8i _ ht
  have hf := first_w (nmb 0 l) (k.tmod 40) (by rw [nmb_len]; omega)
  have hfl := firstW_len (nmb 0 l) (k.tmod 40)
  rw [nmb_len] at hf hfl
  have hmin : (((firstW (nmb 0 l) (k.tmod 40)).length : Nat) : Int) = (if k.tmod 40 < (l.length : Int) then k.tmod 40 else (l.length : Int)) := by
    rw [hfl]
    have := ht.1
    split <;> omega
  by_cases hz : l.length = 0
  · obtain rfl : l = [] := List.length_eq_zero_iff.1 hz
    have ef : firstW (nmb 0 []) (k.tmod 40) = [] := by simp [firstW, nmb, ss_nil]
    rw [ef] at hf hmin
    have e0 : fg whc (nmb 0 []) = [] := rfl
    have e1 : fg whc [] = [] := rfl
    rw [e0] at hf
    rw [e1] at h3
    simp only [slI, List.map_nil, List.length_nil] at hf hmin h3
    have q : ¬ (k.tmod 40 < 0) := by omega
    refine ⟨_, [], by unfold toTail; simp [push_cast, -Int.not_lt, -Int.not_le, ↓evI_call, ↓evI_calli, ↓evI_callz, ↓evI_callv, ↓evI_mxn, loopIn, loopIn0, keepL, emp, A.dang, A.dangC, whc, h3, h4, asList, go10_0, B10_0, go10_2, B10_2, go10_4, B10_4, w2, hf, foldM, eqz, q]; rfl, by simp [put_at]⟩
  · obtain ⟨x, l', rfl⟩ : ∃ x l', l = x :: l' := by cases l with | nil => exact absurd rfl hz | cons x l' => exact ⟨x, l', rfl⟩
    obtain ⟨n, hn⟩ : ∃ n, n = (x :: l').length := ⟨_, rfl⟩
    rw [← hn] at hf hfl hmin hm hz h3
    obtain ⟨m, hmm⟩ : ∃ m, m = (firstW (nmb 0 (x :: l')) (k.tmod 40)).length := ⟨_, rfl⟩
    obtain ⟨e1, r1, r2, r3⟩ := to_loop0 a b c (x :: l') n k hn.symm hm n 0 (put 14 (vi (0 : Nat)) (put 4 (vu8 k) (put 13 (.bs 3 n 3) emp))) (by omega) (by simp [put_at]) (by simp [put_at]) (by simp [put_at])
    have e00 : (nmb 0 (x :: l')).take 0 ++ (x :: l').drop 0 = x :: l' := rfl
    rw [e00] at r1
    obtain ⟨e2, s1, s2, s3, s4⟩ := to_loop2 (x :: l') n m (k.tmod 40) hn.symm hm hmm.symm m 0 (put 17 (vi (0 : Nat)) (put 13 (.sl (fg whc (nmb 0 (x :: l'))) n 0) (put 15 (.sl ((firstW (nmb 0 (x :: l')) (k.tmod 40)).map vi) m 0) (put 16 (.bs 0 n 1) emp)))) (by omega) (by simp [put_at]) (by simp [put_at]) (by simp [put_at]) (by simp [put_at])
    obtain ⟨e3, u1⟩ := to_loop4 (x :: l') n m (k.tmod 40) hn.symm hm hmm.symm n 0 (put 18 (vi (0 : Nat)) (put 13 (.sl (fg whc (nmb 0 (x :: l'))) n 0) (put 15 (.sl ((firstW (nmb 0 (x :: l')) (k.tmod 40)).map vi) m 0) (put 16 (.bs 0 n 1) emp)))) (by omega) (by simp [put_at]) (by simp [put_at]) (by simp [put_at]) (by simp [put_at])
    have hl1 := whE.flen (x :: l')
    have hl2 := whE.flen (nmb 0 (x :: l'))
    rw [nmb_len] at hl2
    rw [← hn] at hl1 hl2
    have hp := plain_norm (whE.fplain (x :: l'))
    have hfz := fun bx d => plain_mapM (bx := bx) (d := d) (whE.fplain (nmb 0 (x :: l')))
    have htk : (fg whc (nmb 0 (x :: l'))).take (n * 3) = fg whc (nmb 0 (x :: l')) := List.take_of_length_le (by omega)
    have hmz : List.replicate n (vb false) = mks (firstW (nmb 0 (x :: l')) (k.tmod 40)) 0 n := by rw [← mks_zero]; simp
    have b2' : (n : Int) ≤ 70368744177664 := by omega
    unfold slI at hf
    rw [← hmm] at hf hmin
    have b1 : n * 24 ≤ 70368744177664 := by omega
    have b2 : n ≤ 70368744177664 := by omega
    have b3 : 0 < n := by omega
    have b4 : n * 3 ≤ (fg whc (nmb 0 (x :: l'))).length := by omega
    generalize fg whc (x :: l') = L at *
    generalize fg whc (nmb 0 (x :: l')) = M at *
    generalize (firstW (nmb 0 (x :: l')) (k.tmod 40)).map vi = F at *
    generalize mks (firstW (nmb 0 (x :: l')) (k.tmod 40)) 0 n = K0 at *
    generalize mks (firstW (nmb 0 (x :: l')) (k.tmod 40)) m n = K1 at *
    unfold toTail
    simp [push_cast, -Int.not_lt, -Int.not_le, ↓evI_call, ↓evI_calli, ↓evI_callz, ↓evI_callv, ↓evI_mxn, whc, h3, h4, asList, hl1, hp, b1, b3]
    refine behindP (Q := fun q => q = (.ex 0, e1, [whc a, whc b, whc c, M])) ⟨_, Eq.trans (loop_env (by simp [put_at, h4])) r1, rfl⟩ ?_
    rintro _ rfl
    simp [push_cast, -Int.not_lt, -Int.not_le, ↓evI_call, ↓evI_calli, ↓evI_callz, ↓evI_callv, ↓evI_mxn, whc, r2, r3, hl2, b4, htk, hfz, hf, w2, foldM, eqz, b2', b3, hmz]
    rw [if_pos hmin]
    refine behindP (Q := fun q => q = (.ex 2, e2, [K1])) ⟨_, Eq.trans (loop_env (by simp [put_at, puts_frzE, frzR, frzC, r3, b4, htk, hfz])) s1, rfl⟩ ?_
    rintro _ rfl
    simp [push_cast, -Int.not_lt, -Int.not_le, ↓evI_call, ↓evI_calli, ↓evI_callz, ↓evI_callv, ↓evI_mxn]
    refine behindP (Q := fun q => q = (.ex 4, e3, [K1])) ⟨_, Eq.trans (loop_env (by simp [put_at, s2, s3, s4])) u1, rfl⟩ ?_
    rintro _ rfl
    simp [push_cast, -Int.not_lt, -Int.not_le, ↓evI_call, ↓evI_calli, ↓evI_callz, ↓evI_callv, ↓evI_mxn]
    exact ⟨_, _, rfl, by simp [put_at]⟩
theorem turnOrder_is (a b c : Wh) (l : List Wh) (k : Int) (_ : a.ok) (_ : b.ok) (_ : c.ok) (_ : ∀ p ∈ l, p.ok) (hk0 : (Lit.int .u8 k).wf = true) : Ans (vb true) [] (callL tab0 ext0 10 [.agg (whc a), .agg (whc b), .agg (whc c), slW l, vu8 k] []) := by
  rw [callL_tab _ _ rfl (tab10.trans (congrArg some to_c)) rfl]
  have h1 := pure_vb (k := false) known_34
  unfold slW
  by_cases hm : l.length ≤ 30
  · have hk := u8_of hk0
    have a1 := ahead_w a b
    have a2 := ahead_w b a
    have a3 := ahead_w b c
    have a4 := ahead_w a c
    have T1 : ¬ (wlt a b = true ∧ wlt b a = true) := fun h => by rw [wlt_swo.asym a b h.1] at h; cases h.2
    have T2 : wlt a b = true → wlt b c = true → wlt a c = true := fun h h' => wlt_swo.trans h h'
    have T3 : eqz a.task b.task = false → wlt a b = false → wlt b a = false → False := fun h h1 h2 => by rw [wlt_total (by simpa [eqz] using h) h2] at h1; cases h1
    have n1 : ¬ (30 : Int) < l.length := by omega
    have n1' : ¬ 30 < l.length := by omega
    have TL := to_tail a b c l k hm hk
    simp only [whc] at a1 a2 a3 a4
    generalize wlt a b = x at *
    generalize wlt b a = y at *
    generalize wlt b c = u at *
    generalize wlt a c = v at *
    generalize hq : eqz a.task b.task = q at *
    cases x <;> cases y <;> cases u <;> cases v <;> cases q <;> first
      | (exfalso; exact T1 ⟨rfl, rfl⟩) | (exfalso; exact Bool.noConfusion (T2 rfl rfl)) | (exfalso; exact T3 rfl rfl rfl)
      | (clear T1 T2 T3
         simp [toHead, push_cast, -Int.not_lt, -Int.not_le, ↓evI_call, ↓evI_calli, ↓evI_callz, ↓evI_callv, ↓evI_mxn, whc, h1, n1, n1', a1, a2, a3, a4, hq]
         refine behindP (TL _ ?_ ?_).run ?_
         · simp [put_at]
         · simp [put_at]
         rintro _ ⟨e', bx, rfl, h10⟩
         simp [push_cast, -Int.not_lt, -Int.not_le, ↓evI_call, ↓evI_calli, ↓evI_callz, ↓evI_callv, ↓evI_mxn, h10]
         exact ⟨_, rfl⟩)
  · have n1 : (30 : Int) < l.length := by omega
    have n1' : 30 < l.length := by omega
    generalize fg whc l = B at *
    simp [toHead, push_cast, -Int.not_lt, -Int.not_le, ↓evI_call, ↓evI_calli, ↓evI_callz, ↓evI_callv, ↓evI_mxn, whc, h1, n1, n1']
    exact ⟨_, rfl⟩
end Go.Proofs.YtkohggddaheefaaEv
