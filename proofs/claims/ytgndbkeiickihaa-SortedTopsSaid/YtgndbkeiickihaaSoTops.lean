/- swingbridgelaw2.SortedTops. -/
import Derived.Test.YtgndbkeiickihaaSoY
import Derived.Test.YtgndbkeiickihaaItemI
set_option linter.unusedSimpArgs false
set_option linter.unusedVariables false
namespace Go.Proofs.YtgndbkeiickihaaEv
open Go
set_option maxHeartbeats 1000000
set_option maxRecDepth 100000
/-- Where a number stands first. -/
def atQ (x : Int) (l : List Int) (zz : Out × Env × Bx) : Prop := ∃ e' k, zz = (.ret, e', []) ∧ e' 4 = vi (k : Nat)
theorem num_loop (l : List Int) (hl : l.length ≤ 1000) (x : Int) (p : Nat) (hp : p < l.length) (hx : l[p] = x) : ∀ (d i : Nat) (e : Env), i + d = p → e 0 = slI l → e 1 = vi x → e 5 = vi i →
    EXR (atQ x l) (evL tab0 extP 0 L39_0 (e, [])) := by
  intro d
  induction d with
  | zero =>
    intro i e hi g0 g1 g5
    obtain rfl : i = p := by omega
    have h3 : (i : Int) < l.length := by omega
    have hd := drop_int l i hp
    rw [hx] at hd
    have hz : eqz x x = true := by simp [eqz]
    rw [go39_0]
    simp [B39_0, push_cast, -Int.not_lt, -Int.not_le, ↓evI_call, ↓evI_calli, ↓evI_calln, ↓evI_callz, ↓evI_callv, ↓evI_mxn, loopIn, loopIn0, keepL, emp, A.dang, A.dangC, slI, g0, g1, g5, h3, hd, hz]
    exact ⟨_, rfl, _, i, rfl, by simp [put_at]⟩
  | succ d ih =>
    intro i e hi g0 g1 g5
    have hil : i < l.length := by omega
    have h3 : (i : Int) < l.length := by omega
    have hd := drop_int l i hil
    have hw : IntKind.wrap .i64 ((i : Int) + 1) = (i : Int) + 1 := wrap_in _ (by omega) (by omega)
    have ih' := ih (i + 1)
    clear ih
    rw [go39_0]
    generalize l[i] = y at *
    by_cases hy : y = x
    · have hz : eqz y x = true := by simp [eqz, hy]
      simp [B39_0, push_cast, -Int.not_lt, -Int.not_le, ↓evI_call, ↓evI_calli, ↓evI_calln, ↓evI_callz, ↓evI_callv, ↓evI_mxn, loopIn, loopIn0, keepL, emp, A.dang, A.dangC, slI, g0, g1, g5, h3, hd, hz]
      exact ⟨_, rfl, _, i, rfl, by simp [put_at]⟩
    · have hz : eqz y x = false := by simp [eqz, hy]
      simp [B39_0, push_cast, -Int.not_lt, -Int.not_le, ↓evI_call, ↓evI_calli, ↓evI_calln, ↓evI_callz, ↓evI_callv, ↓evI_mxn, loopIn, loopIn0, keepL, emp, A.dang, A.dangC, slI, g0, g1, g5, h3, hd, hz, hw]
      refine ih' _ (by omega) ?_ ?_ ?_ <;> simp [put_at, slI]
theorem num_is (l : List Int) (hl : l.length ≤ 1000) (x : Int) (hx : x ∈ l) : ∃ k : Nat, pureOf (callL tab0 extP) false 39 [slI l, vi x] = some (vi k) := by
  obtain ⟨p, hp, hpx⟩ := List.getElem_of_mem hx
  have hlp := fun e => num_loop l hl x p hp hpx p 0 e (by omega)
  suffices h : EXR (fun zz => ∃ k : Nat, zz = vi k) (pureOf (callL tab0 extP) false 39 [slI l, vi x]) by
    obtain ⟨zz, h1, k, rfl⟩ := h
    exact ⟨k, h1⟩
  rw [pureOf_b, callL_tab _ _ (by rw [extP_no (by decide) (by decide)]; rfl) tab39 rfl]
  simp [C39, push_cast, -Int.not_lt, -Int.not_le, ↓evI_call, ↓evI_calli, ↓evI_calln, ↓evI_callz, ↓evI_callv, ↓evI_mxn, slI]
  refine behindP (P := EXR _) (hlp _ (by simp [put_at, slI]) (by simp [put_at]) (by simp [put_at])) ?_
  rintro a ⟨e', k, rfl, k4⟩
  simp [push_cast, -Int.not_lt, -Int.not_le, ↓evI_call, ↓evI_calli, ↓evI_calln, ↓evI_callz, ↓evI_callv, ↓evI_mxn, k4, frzK]
  exact ⟨_, rfl, k, rfl⟩
theorem in_is (l : List Int) (hl : l.length ≤ 1000) (x : Int) (hx : x ∈ l) : pureOf (callL tab0 extP) false 23 [slI l, vi x] = some (vb true) := by
  obtain ⟨k, h1⟩ := num_is l hl x hx
  have hk : (0 : Int) ≤ k := by omega
  rw [pureOf_b, callL_tab _ _ (by rw [extP_no (by decide) (by decide)]; rfl) tab23 rfl]
  simp only [slI] at h1
  simp [C23, push_cast, -Int.not_lt, -Int.not_le, ↓evI_call, ↓evI_calli, ↓evI_calln, ↓evI_callz, ↓evI_callv, ↓evI_mxn, slI, h1, hk, frzK]
/-! ### the law -/
def cntG (x : Int) (l : List Int) : Nat := l.countP fun y => decide (x < y)
theorem cntG_top (l : List Int) (p : Nat) (hp : p < (sortD l).length) : cntG (sortD l)[p] l ≤ p := by
  have e : cntG (sortD l)[p] l = cntG (sortD l)[p] (sortD l) := ((sortD_perm l).countP_eq _).symm
  rw [e]
  have hs := sortD_sorted l
  generalize sortD l = m at *
  obtain ⟨x, hx⟩ : ∃ x, x = m[p] := ⟨_, rfl⟩
  rw [← hx]
  have h1 : cntG x m = cntG x (m.take p) + cntG x (m.drop p) := by
    unfold cntG
    rw [← List.countP_append, List.take_append_drop]
  have h2 : cntG x (m.drop p) = 0 := by
    unfold cntG
    rw [List.countP_eq_zero]
    intro y hy
    obtain ⟨j, hj, rfl⟩ := List.getElem_of_mem hy
    rw [List.getElem_drop]
    simp only [List.length_drop] at hj
    by_cases hz : j = 0
    · subst hz
      have : m[p + 0] = x := by rw [hx]; rfl
      rw [this]
      simp
    · have := List.pairwise_iff_getElem.1 hs p (p + j) hp (by omega) (by omega)
      rw [← hx] at this
      simp; omega
  have h3 : cntG x (m.take p) ≤ p := Nat.le_trans List.countP_le_length (by rw [List.length_take]; omega)
  omega
def TIQ (n t : List Int) (p c : Nat) (zz : Out × Env × Bx) : Prop := ∃ e', zz = (.ex 2, e', []) ∧ e' 0 = slI n ∧ e' 5 = slI t ∧ e' 6 = vi p ∧ e' 7 = vi c
theorem tops_loop2 (n t : List Int) (hn : n.length ≤ 50) (p : Nat) (hp : p < t.length) (x : Int) (hx : t[p] = x) : ∀ (d j : Nat) (e : Env), j + d = n.length → e 0 = slI n → e 5 = slI t → e 6 = vi p → e 7 = vi (cntG x (n.take j)) → e 8 = vi j →
    EXR (TIQ n t p (cntG x n)) (evL tab0 extP 0 L5_2 (e, [])) := by
  intro d
  induction d with
  | zero =>
    intro j e hj g0 g5 g6 g7 g8
    obtain rfl : j = n.length := by omega
    rw [List.take_length] at g7
    rw [go5_2]
    simp [B5_2, push_cast, -Int.not_lt, -Int.not_le, ↓evI_call, ↓evI_calli, ↓evI_calln, ↓evI_callz, ↓evI_callv, ↓evI_mxn, loopIn, loopIn0, keepL, emp, A.dang, A.dangC, slI, g0, g5, g6, g7, g8]
    exact ⟨_, rfl, _, rfl, by simp [put_at, slI], by simp [put_at, slI], by simp [put_at], by simp [put_at]⟩
  | succ d ih =>
    intro j e hj g0 g5 g6 g7 g8
    have h1 : j < n.length := by omega
    have h3 : (j : Int) < n.length := by omega
    have h4 : (p : Int) < t.length := by omega
    have hd := drop_int n j h1
    have hd2 := drop_int t p hp
    rw [hx] at hd2
    have hc : cntG x (n.take (j + 1)) = cntG x (n.take j) + if x < n[j] then 1 else 0 := by
      unfold cntG
      rw [List.take_succ_eq_append_getElem h1, List.countP_append]
      simp [List.countP_cons]
    have hcl : cntG x (n.take j) ≤ 50 := Nat.le_trans List.countP_le_length (by rw [List.length_take]; omega)
    have hw : IntKind.wrap .i64 ((j : Int) + 1) = (j : Int) + 1 := wrap_in _ (by omega) (by omega)
    have hw2 : IntKind.wrap .i64 ((cntG x (n.take j) : Int) + 1) = (cntG x (n.take j) : Int) + 1 := wrap_in _ (by omega) (by omega)
    have ih' := ih (j + 1)
    clear ih
    rw [go5_2]
    generalize n[j] = y at *
    generalize cntG x (n.take j) = c at *
    by_cases hy : x < y
    · rw [if_pos hy] at hc
      simp [B5_2, push_cast, -Int.not_lt, -Int.not_le, ↓evI_call, ↓evI_calli, ↓evI_calln, ↓evI_callz, ↓evI_callv, ↓evI_mxn, loopIn, loopIn0, keepL, emp, A.dang, A.dangC, slI, g0, g5, g6, g7, g8, h3, h4, hd, hd2, hw, hw2, hy]
      refine ih' _ (by omega) ?_ ?_ ?_ ?_ ?_ <;> simp [put_at, slI, hc]
    · rw [if_neg hy] at hc
      simp [B5_2, push_cast, -Int.not_lt, -Int.not_le, ↓evI_call, ↓evI_calli, ↓evI_calln, ↓evI_callz, ↓evI_callv, ↓evI_mxn, loopIn, loopIn0, keepL, emp, A.dang, A.dangC, slI, g0, g5, g6, g7, g8, h3, h4, hd, hd2, hw, hw2, hy]
      refine ih' _ (by omega) ?_ ?_ ?_ ?_ ?_ <;> simp [put_at, slI, hc]
theorem tops_loop0 (n t : List Int) (hn : n.length ≤ 50) (ht : t.length ≤ 50) (hm : ∀ x ∈ t, x ∈ n) (hc : ∀ p (h : p < t.length), cntG t[p] n ≤ p) (hs : ∀ p (h : p + 1 < t.length), t[p + 1] ≤ t[p]) : ∀ (d i : Nat) (e : Env), i + d = t.length → e 0 = slI n → e 5 = slI t → e 6 = vi i →
    EXR (fun zz => ∃ e', zz = (.ex 0, e', [])) (evL tab0 extP 0 L5_0 (e, [])) := by
  intro d
  induction d with
  | zero =>
    intro i e hi g0 g5 g6
    obtain rfl : i = t.length := by omega
    rw [go5_0]
    simp [B5_0, push_cast, -Int.not_lt, -Int.not_le, ↓evI_call, ↓evI_calli, ↓evI_calln, ↓evI_callz, ↓evI_callv, ↓evI_mxn, loopIn, loopIn0, keepL, emp, A.dang, A.dangC, slI, g0, g5, g6]
    exact ⟨_, rfl, _, rfl⟩
  | succ d ih =>
    intro i e hi g0 g5 g6
    have h1 : i < t.length := by omega
    have h3 : (i : Int) < t.length := by omega
    have hd := drop_int t i h1
    have hin := in_is n (by omega) t[i] (hm _ (List.getElem_mem h1))
    have hcn := hc i h1
    have hlp := fun e => tops_loop2 n t hn i h1 _ rfl n.length 0 e (by omega)
    have hw : IntKind.wrap .i64 ((i : Int) + 1) = (i : Int) + 1 := wrap_in _ (by omega) (by omega)
    have hnc : ¬ (i : Int) < cntG t[i] n := by omega
    have ih' := ih (i + 1)
    clear ih
    simp only [slI] at hin hlp
    rw [go5_0]
    generalize hx : t[i] = x at *
    generalize cntG x n = c at *
    by_cases hz : i = 0
    · subst hz
      simp [B5_0, push_cast, -Int.not_lt, -Int.not_le, ↓evI_call, ↓evI_calli, ↓evI_calln, ↓evI_callz, ↓evI_callv, ↓evI_mxn, loopIn, loopIn0, keepL, emp, A.dang, A.dangC, slI, g0, g5, g6, h1]
      refine behindP (P := EXR _) (hlp _ (by simp [put_at]) (by simp [put_at]) (by simp [put_at]) (by simp [put_at, cntG]) (by simp [put_at])) ?_
      rintro a ⟨e', rfl, k0, k5, k6, k7⟩
      simp only [slI] at k0 k5
      obtain rfl : c = 0 := by omega
      have hw1 : IntKind.wrap .i64 1 = 1 := by decide
      obtain ⟨R, hdz⟩ : ∃ R, t.map vi = vi x :: R := ⟨_, by simpa using hd⟩
      simp [push_cast, -Int.not_lt, -Int.not_le, ↓evI_call, ↓evI_calli, ↓evI_calln, ↓evI_callz, ↓evI_callv, ↓evI_mxn, k0, k5, k6, k7, hin, h1, hdz, hw1]
      refine ih' _ (by omega) ?_ ?_ ?_ <;> simp [put_at, slI, k0, k5, k6, hdz]
    · obtain ⟨m, rfl⟩ : ∃ m, i = m + 1 := ⟨i - 1, by omega⟩
      have hm1 : m < t.length := by omega
      have hm2 : (m : Int) < t.length := by omega
      have hdm := drop_int t m hm1
      have hle := hs m h1
      rw [hx] at hle
      have hnl : ¬ t[m] < x := by omega
      have hpos : (0 : Int) < (m : Int) + 1 := by omega
      have hp0 : (0 : Int) ≤ (m : Int) + 1 := by omega
      have h3' : (m : Int) + 1 < t.length := by omega
      have hnc' : ¬ (m : Int) + 1 < c := by omega
      have hw3 : IntKind.wrap .i64 ((m : Int) + 1 + 1) = (m : Int) + 1 + 1 := wrap_in _ (by omega) (by omega)
      have hw2 : IntKind.wrap .i64 (m : Int) = (m : Int) := wrap_in _ (by omega) (by omega)
      generalize t[m] = y at *
      simp [B5_0, push_cast, -Int.not_lt, -Int.not_le, ↓evI_call, ↓evI_calli, ↓evI_calln, ↓evI_callz, ↓evI_callv, ↓evI_mxn, loopIn, loopIn0, keepL, emp, A.dang, A.dangC, slI, g0, g5, g6, h3']
      refine behindP (P := EXR _) (hlp _ (by simp [put_at]) (by simp [put_at]) (by simp [put_at]) (by simp [put_at, cntG]) (by simp [put_at])) ?_
      rintro a ⟨e', rfl, k0, k5, k6, k7⟩
      simp only [slI] at k0 k5
      simp [push_cast, -Int.not_lt, -Int.not_le, ↓evI_call, ↓evI_calli, ↓evI_calln, ↓evI_callz, ↓evI_callv, ↓evI_mxn, k0, k5, k6, k7, hnc', hin, hd, hdm, hnl, hw3, hw2, h3', hm2, hpos, hp0]
      refine ih' _ (by omega) ?_ ?_ ?_ <;> simp [put_at, slI, k0, k5, k6]
theorem sortedTops_is (n : List Int) (k : Int) (_ : ∀ x ∈ n, I64 x) (hk : (Lit.int .u8 k).wf = true) : Ans (vb true) [] (callL tab0 extP 5 [slI n, vu8 k] []) := by
  rw [callL_tab _ _ (by rw [extP_no (by decide) (by decide)]; rfl) tab5 rfl]
  have hkn := knownP
  by_cases hL : n.length > 50
  · have hL' : (50 : Int) < n.length := by omega
    simp [C5, push_cast, -Int.not_lt, -Int.not_le, ↓evI_call, ↓evI_calli, ↓evI_calln, ↓evI_callz, ↓evI_callv, ↓evI_mxn, slI, hkn, hL']
    exact Ans.nil rfl
  have hL' : ¬ (50 : Int) < n.length := by omega
  have hb := u8_of hk
  have hk1 : k.tmod 60 = k % 60 := Int.tmod_eq_emod_of_nonneg hb.1
  have hk2 : 0 ≤ k % 60 ∧ k % 60 < 60 := by omega
  have hk3 : IntKind.wrap .i64 (k % 60) = k % 60 := wrap_in _ (by omega) (by omega)
  have htl := topS_len n (k % 60)
  have h1 := topP n (k % 60) (by omega)
  have hmn : foldM false (k % 60) [vi n.length] = some ((topS n (k % 60)).length : Int) := by
    rw [htl]
    show some (if (n.length : Int) < k % 60 then (n.length : Int) else k % 60) = _
    congr 1
    split <;> omega
  have htn : (topS n (k % 60)).length ≤ n.length := by omega
  have hlp := fun e => tops_loop0 n (topS n (k % 60)) (by omega) (by omega) (fun x hx => topS_mem hx) (fun p h => by
    have hp : p < (sortD n).length := by rw [sortD_len]; omega
    have e : (topS n (k % 60))[p] = (sortD n)[p] := by simp [topS]
    rw [e]; exact cntG_top n p hp) (fun p h => by
    have e : ∀ q (hq : q < (topS n (k % 60)).length), (topS n (k % 60))[q] = (sortD n)[q]'(by rw [sortD_len]; omega) := fun q hq => by simp [topS]
    rw [e, e]
    exact List.pairwise_iff_getElem.1 (sortD_sorted n) p (p + 1) _ _ (by omega)) (topS n (k % 60)).length 0 e (by omega)
  generalize topS n (k % 60) = t at *
  have hz : eqz (t.length : Int) t.length = true := by simp [eqz]
  generalize k % 60 = K at *
  simp only [slI] at h1 hlp
  simp [C5, push_cast, -Int.not_lt, -Int.not_le, ↓evI_call, ↓evI_calli, ↓evI_calln, ↓evI_callz, ↓evI_callv, ↓evI_mxn, slI, hkn, hL', hk1, hk3, h1, hmn, hz]
  refine behindP (P := fun r => Ans _ [] r) (hlp _ (by simp [put_at]) (by simp [put_at]) (by simp [put_at])) ?_
  rintro a ⟨e', rfl⟩
  simp [push_cast, -Int.not_lt, -Int.not_le, ↓evI_call, ↓evI_calli, ↓evI_calln, ↓evI_callz, ↓evI_callv, ↓evI_mxn]
  exact Ans.nil rfl
end Go.Proofs.YtgndbkeiickihaaEv
