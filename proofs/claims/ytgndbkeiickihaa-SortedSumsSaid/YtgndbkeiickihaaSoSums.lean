/- swingbridgelaw2.SortedSums. -/
import Derived.Test.YtgndbkeiickihaaSoY
import Derived.Test.YtgndbkeiickihaaItemI
set_option linter.unusedSimpArgs false
set_option linter.unusedVariables false
namespace Go.Proofs.YtgndbkeiickihaaEv
open Go
set_option maxHeartbeats 1000000
set_option maxRecDepth 100000
/-! ### sums of the first ones -/
def pS (l : List Int) (j : Nat) : Int := sumL id (l.take j)
theorem pS_mono {l : List Int} (h : ∀ x ∈ l, 0 ≤ x) : ∀ j, pS l j ≤ pS l (j + 1) := by
  intro j
  unfold pS
  by_cases hj : j < l.length
  · rw [sumL_take _ _ _ hj]
    have := h _ (List.getElem_mem hj)
    simp only [id]; omega
  · rw [List.take_of_length_le (by omega), List.take_of_length_le (by omega)]; exact Int.le_refl _
theorem pS_all {l : List Int} (h : ∀ x ∈ l, 0 ≤ x) (j : Nat) : pS l j ≤ sumL id l := by
  unfold pS
  have h1 : sumL id l = sumL id (l.take j) + sumL id (l.drop j) := by rw [← sumL_append, List.take_append_drop]
  have h2 := sumL_ge id (l.drop j) fun x hx => h x (List.mem_of_mem_drop hx)
  omega
theorem pS_cons (x : Int) (l : List Int) (j : Nat) : pS (x :: l) (j + 1) = x + pS l j := rfl
/-- One more ahead of a row in order. -/
theorem pS_head (x : Int) (hx : 0 ≤ x) : ∀ (l : List Int) (j : Nat), l.Pairwise (fun a b => b ≤ a) → (∀ y ∈ l, y ≤ x) → (∀ y ∈ l, 0 ≤ y) → pS l (j + 1) ≤ x + pS l j := by
  intro l j hs hle h0
  unfold pS
  by_cases hj : j < l.length
  · rw [sumL_take _ _ _ hj]
    have := hle _ (List.getElem_mem hj)
    simp only [id]; omega
  · rw [List.take_of_length_le (by omega), List.take_of_length_le (by omega)]; omega
theorem pS_ins (x : Int) (hx : 0 ≤ x) : ∀ (l : List Int) (j : Nat), l.Pairwise (fun a b => b ≤ a) → (∀ y ∈ l, 0 ≤ y) → pS l j ≤ pS (insD x l) j
  | [], j, _, _ => by
    unfold pS insD
    have := sumL_ge id (List.take j [x]) fun y hy => by
      have := List.mem_of_mem_take hy
      simp at this; simp only [id]; omega
    simpa [sumL] using this
  | a :: l, 0, _, _ => by simp [pS, sumL]
  | a :: l, j + 1, hs, h0 => by
    unfold insD
    split
    · rename_i hax
      rw [pS_cons x]
      refine pS_head x hx (a :: l) j hs (fun y hy => ?_) h0
      rcases List.mem_cons.1 hy with rfl | hy
      · exact hax
      · exact Int.le_trans (List.rel_of_pairwise_cons hs hy) hax
    · rw [pS_cons, pS_cons]
      have := pS_ins x hx l j (List.pairwise_cons.1 hs).2 fun y hy => h0 y (List.mem_cons_of_mem _ hy)
      omega
theorem topS_nat (l : List Int) (j : Nat) : topS l j = (sortD l).take j := by
  unfold topS
  have e : (min (max (j : Int) 0) l.length).toNat = min j l.length := by omega
  rw [e, ← sortD_len l]
  by_cases h : j ≤ (sortD l).length
  · rw [Nat.min_eq_left h]
  · rw [Nat.min_eq_right (by omega), List.take_of_length_le (Nat.le_refl _), List.take_of_length_le (by omega)]
theorem sortD_snoc (l : List Int) (x : Int) : sortD (l ++ [x]) = insD x (sortD l) := by
  symm
  refine sortD_uniq ?_ (insD_sorted x _ (sortD_sorted l))
  refine (insD_perm x _).trans (((sortD_perm l).cons x).trans ?_)
  exact (List.perm_append_comm (l₁ := [x]) (l₂ := l))
/-- The machine's sum is the sum. -/
theorem sumW_is (l : List Int) (h : ∀ x ∈ l, 0 ≤ x ∧ x ≤ 65535) (hl : l.length ≤ 1000) : ∀ i, i ≤ l.length → sumW l i = pS l i ∧ 0 ≤ pS l i ∧ pS l i ≤ i * 65535
  | 0, _ => by simp [sumW, pS, sumL]
  | i + 1, hi => by
    obtain ⟨h1, h2, h3⟩ := sumW_is l h hl i (by omega)
    have hx := h _ (List.getElem_mem (show i < l.length by omega))
    have e : pS l (i + 1) = pS l i + l[i] := sumL_take id l i (by omega)
    have eg : l.getD i 0 = l[i] := by rw [List.getD_eq_getElem?_getD, List.getElem?_eq_getElem (show i < l.length by omega)]; rfl
    have hw : sumW l (i + 1) = pS l i + l[i] := by
      show IntKind.wrap .i64 (sumW l i + l.getD i 0) = _
      rw [h1, eg]
      exact wrap_in _ (by omega) (by omega)
    refine ⟨by rw [hw, e], by omega, by rw [e]; push_cast; omega⟩
theorem sumW_top (l : List Int) (h : ∀ x ∈ l, 0 ≤ x ∧ x ≤ 65535) (hl : l.length ≤ 60) (j : Nat) : sumW (topS l j) (topS l j).length = pS (sortD l) j := by
  have ht := topS_len l j
  rw [(sumW_is (topS l j) (fun x hx => h x (topS_mem hx)) (by omega) _ (Nat.le_refl _)).1]
  unfold pS
  rw [List.take_length, topS_nat]
/-! ### the loop -/
def SUQ (n : List Int) (k m : Int) (zz : Out × Env × Bx) : Prop := ∃ e' g, zz = (.ex 0, e', []) ∧ e' 1 = vu8 k ∧ e' 2 = vu16 m ∧ e' 7 = .sl (n.map vi) n.length g ∧ e' 8 = vi (sumL id n)
theorem sums_loop (n : List Int) (hn : n.length ≤ 40) (h16 : ∀ x ∈ n, 0 ≤ x ∧ x ≤ 65535) (k m : Int) : ∀ (d i : Nat) (e : Env), i + d = n.length → e 0 = slH n → e 1 = vu8 k → e 2 = vu16 m → e 7 = .sl ((n.take i).map vi) i 2 → e 8 = vi (pS n i) → e 9 = vi i →
    EXR (SUQ n k m) (evL tab0 extP 0 L7_0 (e, [])) := by
  intro d
  induction d with
  | zero =>
    intro i e hi g0 g1 g2 g7 g8 g9
    obtain rfl : i = n.length := by omega
    rw [List.take_length] at g7
    have g8' : e 8 = vi (sumL id n) := by rw [g8]; unfold pS; rw [List.take_length]
    rw [go7_0]
    simp [B7_0, push_cast, -Int.not_lt, -Int.not_le, ↓evI_call, ↓evI_calli, ↓evI_calln, ↓evI_callz, ↓evI_callv, ↓evI_mxn, loopIn, loopIn0, keepL, emp, A.dang, A.dangC, slH, g0, g1, g2, g7, g8', g9]
    exact ⟨_, rfl, _, _, rfl, by simp [put_at], by simp [put_at], by simp [put_at]; rfl, by simp [put_at]⟩
  | succ d ih =>
    intro i e hi g0 g1 g2 g7 g8 g9
    have h1 : i < n.length := by omega
    have h3 : (i : Int) < n.length := by omega
    have hx := h16 _ (List.getElem_mem h1)
    have hd : (n.map vu16).drop i = vu16 n[i] :: (n.map vu16).drop (i + 1) := by rw [List.drop_eq_getElem_cons (by simpa using h1)]; simp
    have hs : pS n (i + 1) = pS n i + n[i] := sumL_take id n i h1
    have hpb := sumW_is n h16 (by omega) i (by omega)
    have hw : IntKind.wrap .i64 ((i : Int) + 1) = (i : Int) + 1 := wrap_in _ (by omega) (by omega)
    have hw1 : IntKind.wrap .i64 n[i] = n[i] := wrap_in _ (by omega) (by omega)
    have hw2 : IntKind.wrap .i64 (pS n i + n[i]) = pS n (i + 1) := by rw [hs]; exact wrap_in _ (by omega) (by omega)
    have htk : (n.take (i + 1)).map vi = (n.take i).map vi ++ [vi n[i]] := by rw [List.take_succ_eq_append_getElem h1, List.map_append]; rfl
    have hlen : ((n.take i).map vi).length = i := by rw [List.length_map, List.length_take]; omega
    have hpl := plain_norm (plain_vi (n.take i))
    have hpd := plain_dang (m := 1) (plain_vi (n.take i))
    have b1 : (i + 1) * 8 ≤ 70368744177664 := by omega
    have ih' := ih (i + 1)
    rw [htk] at ih'
    clear ih htk
    rw [go7_0]
    generalize n[i] = y at *
    generalize pS n (i + 1) = z' at *
    generalize pS n i = z at *
    generalize (n.take i).map vi = O at *
    generalize (n.map vu16).drop (i + 1) = R at *
    simp [B7_0, push_cast, -Int.not_lt, -Int.not_le, ↓evI_call, ↓evI_calli, ↓evI_calln, ↓evI_callz, ↓evI_callv, ↓evI_mxn, loopIn, loopIn0, keepL, emp, A.dang, A.dangC, slH, g0, g1, g2, g7, g8, g9, h3, hd, hw, hw1, hw2, hlen, hpl, hpd, b1, asList, -List.all_eq_true]
    refine ih' _ (by omega) ?_ ?_ ?_ ?_ ?_ ?_ <;> simp [put_at, slH]
theorem sortedSums_is (n : List Int) (k m : Int) (hn16 : ∀ x ∈ n, B16 x) (hk : (Lit.int .u8 k).wf = true) (hm : (Lit.int .u16 m).wf = true) : Ans (vb true) [] (callL tab0 extP 7 [slH n, vu8 k, vu16 m] []) := by
  rw [callL_tab _ _ (by rw [extP_no (by decide) (by decide)]; rfl) tab7 rfl]
  have hkn := knownP
  by_cases hL : n.length > 40
  · have hL' : (40 : Int) < n.length := by omega
    simp [C7, push_cast, -Int.not_lt, -Int.not_le, ↓evI_call, ↓evI_calli, ↓evI_calln, ↓evI_callz, ↓evI_callv, ↓evI_mxn, slH, hkn, hL']
    exact Ans.nil rfl
  have hL' : ¬ (40 : Int) < n.length := by omega
  have hb := u8_of hk
  have hbm := u16_of hm
  have h0 : ∀ x ∈ n, 0 ≤ x := fun x hx => (hn16 x hx).1
  have hs0 : ∀ x ∈ sortD n, 0 ≤ x := fun x hx => h0 x ((sortD_perm n).mem_iff.1 hx)
  obtain ⟨j, hj⟩ : ∃ j : Nat, (j : Int) = k % 45 := ⟨(k % 45).toNat, by omega⟩
  have hj1 : j < 45 := by omega
  have hk1 : k.tmod 45 = (j : Int) := by rw [hj]; exact Int.tmod_eq_emod_of_nonneg hb.1
  have hk3 : IntKind.wrap .i64 (j : Int) = (j : Int) := wrap_in _ (by omega) (by omega)
  have hwm : IntKind.wrap .i64 m = m := wrap_in _ (by omega) (by omega)
  have hwj : IntKind.wrap .i64 ((j : Int) + 1) = (j : Int) + 1 := wrap_in _ (by omega) (by omega)
  have hlp := fun e => sums_loop n (by omega) hn16 k m n.length 0 e (by omega)
  have h1 := sumP n j (by omega)
  have h2 := sumP (n ++ [m]) j (by simp; omega)
  have h3 := sumP n n.length (by omega)
  have h4 := sumP n (-1) (by omega)
  have h5 := sumP n (j + 1 : Nat) (by omega)
  rw [sumW_top n hn16 (by omega)] at h1 h3 h5
  rw [sumW_top (n ++ [m]) (fun x hx => by
    rcases List.mem_append.1 hx with hx | hx
    · exact hn16 x hx
    · simp at hx; subst hx; exact hbm) (by simp; omega)] at h2
  have e4 : topS n (-1) = [] := by unfold topS; rw [show min (max (-1 : Int) 0) n.length = 0 by omega]; simp
  rw [e4] at h4
  have e3 : pS (sortD n) n.length = sumL id n := by unfold pS; rw [List.take_of_length_le (by rw [sortD_len]; exact Nat.le_refl _)]; exact sumL_perm (sortD_perm n)
  rw [e3] at h3
  have q1 : pS (sortD n) j ≤ sumL id n := by rw [← e3]; have := pS_all hs0 j; rw [sumL_perm (sortD_perm n)] at this; rw [e3]; exact this
  have q2 : pS (sortD n) j ≤ pS (sortD (n ++ [m])) j := by rw [sortD_snoc]; exact pS_ins m hbm.1 _ j (sortD_sorted n) hs0
  have q3 : pS (sortD n) j ≤ pS (sortD n) (j + 1) := pS_mono hs0 j
  have hz : eqz (sumL id n) (sumL id n) = true := by simp [eqz]
  have hz0 : eqz 0 0 = true := by simp [eqz]
  have hpl := plain_norm (plain_vi n)
  have hpd := plain_dang (m := 1) (plain_vi n)
  have b1 : n.length * 8 ≤ 70368744177664 := by omega
  have b2 : (n.length + 1) * 8 ≤ 70368744177664 := by omega
  have hml : (n.map vi).length = n.length := by simp
  have q0 : pS n 0 = 0 := by simp [pS, sumL]
  have h5 : pureOf (callL tab0 extP) false 21 [slI n, vi ((j : Int) + 1)] = some (vi (pS (sortD n) (j + 1))) := h5
  generalize pS (sortD n) j = s at *
  generalize pS (sortD (n ++ [m])) j = t at *
  generalize pS (sortD n) (j + 1) = u at *
  simp only [slI, slH, List.take_zero, List.map_nil, List.map_append, List.map_cons, List.length_append, List.length_cons, List.length_nil, Nat.zero_add, q0, sumW] at h1 h2 h3 h4 h5 hlp
  simp [C7, push_cast, -Int.not_lt, -Int.not_le, ↓evI_call, ↓evI_calli, ↓evI_calln, ↓evI_callz, ↓evI_callv, ↓evI_mxn, slH, hkn, hL']
  refine behindP (P := fun r => Ans _ [] r) (hlp _ (by simp [put_at]) (by simp [put_at]) (by simp [put_at]) (by simp [put_at]) (by simp [put_at]) (by simp [put_at])) ?_
  rintro a ⟨e', g, rfl, k1, k2, k7, k8⟩
  generalize sumL id n = all at *
  generalize n.map vi = O at *
  simp [push_cast, -Int.not_lt, -Int.not_le, ↓evI_call, ↓evI_calli, ↓evI_calln, ↓evI_callz, ↓evI_callv, ↓evI_mxn, k1, k2, k7, k8, hk1, hk3, hwm, hwj, h1, h2, h3, h4, h5, q1, q2, q3, hz, hz0, hpl, hpd, b1, b2, hml, asList, -List.all_eq_true]
  exact Ans.nil rfl
end Go.Proofs.YtgndbkeiickihaaEv
