/- Items: is a row in order, the reference's rows. -/
import Derived.Test.YtgndbkeiickihaaItem
set_option linter.unusedSimpArgs false
set_option linter.unusedVariables false
namespace Go.Proofs.YtgndbkeiickihaaEv
open Go
set_option maxHeartbeats 4000000
def EXR {α : Type} (Q : α → Prop) (r : Option α) : Prop := ∃ zz, r = some zz ∧ Q zz
def okTo (L : List It) (i : Nat) : Bool := (fstP (badI L) 0 i).isNone
theorem okTo_iff (L : List It) (i : Nat) : okTo L i = true ↔ ∀ k, k < i → badI L k = false := by
  unfold okTo
  rw [Option.isNone_iff_eq_none, fstP_none]
  exact ⟨fun h k hk => h k (Nat.zero_le _) (by omega), fun h k _ hk => h k (by omega)⟩
theorem okTo_succ (L : List It) (i : Nat) : okTo L (i + 1) = (!badI L i && okTo L i) := by
  rw [Bool.eq_iff_iff, Bool.and_eq_true, okTo_iff, okTo_iff, Bool.not_eq_true']
  exact ⟨fun h => ⟨h i (by omega), fun k hk => h k (by omega)⟩, fun h k hk => by
    by_cases e : k = i
    · subst e; exact h.1
    · exact h.2 k (by omega)⟩
def ISQ (L : List It) (i : Nat) (zz : Out × Env × Bx) : Prop := (okTo L i = true ∧ ∃ e', zz = (.ex 0, e', [])) ∨ (okTo L i = false ∧ ∃ e' bx', zz = (.ret, e', bx') ∧ e' 4 = vb false)
theorem isS_loop (L : List It) (h9 : L.length ≤ 1000) : ∀ (i : Nat) (e : Env) (J : Bx), i < L.length ∨ i = 0 → e 0 = slX L → e 1 = .fn 32 [] → e 5 = vi i → EXR (ISQ L i) (evL tab0 ext0 0 L33_0 (e, J)) := by
  intro i
  induction i with
  | zero =>
    intro e J _ g0 g1 g5
    rw [go33_0]
    simp [B33_0, push_cast, -Int.not_lt, -Int.not_le, ↓evI_call, ↓evI_calli, ↓evI_calln, ↓evI_callz, ↓evI_callv, ↓evI_mxn, loopIn, loopIn0, keepL, emp, A.dang, A.dangC, slX, g0, g1, g5]
    exact ⟨_, rfl, .inl ⟨rfl, _, rfl⟩⟩
  | succ i ih =>
    intro e J hi g0 g1 g5
    have h2 : i + 1 < L.length := by omega
    have h1 : i < L.length := by omega
    have h3 : (i : Int) < L.length := by omega
    have h4 : (i : Int) + 1 < L.length := by omega
    obtain ⟨R1, d1⟩ := it_drop L i h1
    obtain ⟨R2, d2⟩ := it_drop L (i + 1) h2
    have hb := badI_at L i h1 h2
    have hs := okTo_succ L i
    have hc := compareI_is L[i + 1] L[i] []
    have hlt : decide (cmpJ L[i + 1].key L[i].key < 0) = badI L i := by
      rw [hb, Bool.eq_iff_iff, decide_eq_true_eq, decide_eq_true_eq]
      have := cmpJ_lt L[i + 1] L[i]
      unfold ilt at this
      simpa using this
    have w1 : IntKind.wrap .i64 ((i : Int) + 1 - 1) = (i : Int) := by rw [wrap_in _ (by omega) (by omega)]; omega
    have w1' : IntKind.wrap .i64 (i : Int) = (i : Int) := wrap_in _ (by omega) (by omega)
    have t1 : ((i : Int) + 1).toNat = i + 1 := by omega
    have p1 : (0 : Int) ≤ (i : Int) + 1 := by omega
    have p2 : (0 : Int) < (i : Int) + 1 := by omega
    have ih' := fun e J => ih e J (.inl h1)
    clear ih hb
    rw [go33_0]
    generalize L[i] = x at *
    generalize L[i + 1] = y at *
    generalize cmpJ y.key x.key = cc at *
    have ha : aft 0 (vi cc, [[vi y.key, vi y.id], [vi x.key, vi x.id]]) = (vi cc, [], []) := rfl
    rw [List.nil_append] at hc
    simp only [itc] at hc
    cases hbb : badI L i with
    | true =>
      rw [hbb] at hlt hs
      have hlt : cc < 0 := by simpa using hlt
      simp [B33_0, push_cast, -Int.not_lt, -Int.not_le, ↓evI_call, ↓evI_calli, ↓evI_calln, ↓evI_callz, ↓evI_callv, ↓evI_mxn, loopIn, loopIn0, keepL, emp, A.dang, A.dangC, slX, g0, g1, g5, h3, h4, d1, d2, w1, w1', t1, p1, p2, hc, ha, hlt]
      exact ⟨_, rfl, .inr ⟨by rw [hs]; rfl, _, _, rfl, by simp [put_at]⟩⟩
    | false =>
      rw [hbb] at hlt hs
      have hlt : ¬ cc < 0 := by simpa using hlt
      simp [B33_0, push_cast, -Int.not_lt, -Int.not_le, ↓evI_call, ↓evI_calli, ↓evI_calln, ↓evI_callz, ↓evI_callv, ↓evI_mxn, loopIn, loopIn0, keepL, emp, A.dang, A.dangC, slX, g0, g1, g5, h3, h4, d1, d2, w1, w1', t1, p1, p2, hc, ha, hlt]
      unfold ISQ
      rw [hs]
      exact ih' _ _ (by simp [put_at, slX]) (by simp [put_at]) (by simp [put_at])
theorem isS_is (L : List It) (h9 : L.length ≤ 1000) : Ans (vb (isI L)) [] (callL tab0 ext0 33 [slX L, .fn 32 []] []) := by
  rw [callL_tab _ _ rfl tab33 rfl]
  by_cases hn : L.length = 0
  · obtain rfl : L = [] := List.length_eq_zero_iff.1 hn
    have w1 : IntKind.wrap .i64 (-1) = -1 := by decide
    simp [C33, push_cast, -Int.not_lt, -Int.not_le, ↓evI_call, ↓evI_calli, ↓evI_calln, ↓evI_callz, ↓evI_callv, ↓evI_mxn, loopIn, loopIn0, keepL, emp, A.dang, A.dangC, slX, go33_0, B33_0, w1]
    exact ⟨_, rfl⟩
  · have w1 : IntKind.wrap .i64 ((L.length : Int) - 1) = ((L.length - 1 : Nat) : Int) := by rw [wrap_in _ (by omega) (by omega)]; omega
    have hlp := fun e J => isS_loop L h9 (L.length - 1) e J (.inl (by omega))
    have hI : isI L = okTo L (L.length - 1) := rfl
    rw [hI]
    simp only [slX] at hlp
    generalize ((L.length - 1 : Nat) : Int) = z at *
    simp [C33, push_cast, -Int.not_lt, -Int.not_le, ↓evI_call, ↓evI_calli, ↓evI_calln, ↓evI_callz, ↓evI_callv, ↓evI_mxn, slX, w1]
    refine behindP (P := fun r => Ans _ [] r) (hlp _ _ (by simp [put_at]) (by simp [put_at]) (by simp [put_at])) ?_
    rintro a (⟨h1, e', rfl⟩ | ⟨h1, e', bx', rfl, h2⟩)
    · rw [h1]; simp [push_cast, -Int.not_lt, -Int.not_le, ↓evI_call, ↓evI_calli, ↓evI_calln, ↓evI_callz, ↓evI_callv, ↓evI_mxn]; exact ⟨_, rfl⟩
    · rw [h1]; simp [push_cast, -Int.not_lt, -Int.not_le, ↓evI_call, ↓evI_calli, ↓evI_calln, ↓evI_callz, ↓evI_callv, ↓evI_mxn, h2]; exact ⟨_, rfl⟩
theorem is_is (L : List It) (h9 : L.length ≤ 1000) : pureOf (callL tab0 ext0) false 14 [slX L] = some (vb (isI L)) := by
  refine pure_vb ?_
  rw [callL_tab _ _ rfl tab14 rfl]
  obtain ⟨J, h1⟩ := isS_is L h9
  generalize isI L = b at *
  have ha : aft 0 (vb b, [] ++ J) = (vb b, [], []) := rfl
  rw [List.nil_append] at h1 ha
  simp only [slX] at h1
  simp [C14, push_cast, -Int.not_lt, -Int.not_le, ↓evI_call, ↓evI_calli, ↓evI_calln, ↓evI_callz, ↓evI_callv, ↓evI_mxn, slX, h1, ha]
  exact ⟨_, rfl⟩
/-! ### the reference's rows -/
def stP (x : It) (s : List It × Bool) (a : It) : List It × Bool := if s.2 = false ∧ ilt x a = true then (s.1 ++ [x] ++ [a], true) else (s.1 ++ [a], s.2)
def fnP (x : It) (s : List It × Bool) : List It := if s.2 = true then s.1 else s.1 ++ [x]
theorem stP_fold (x : It) : ∀ (l : List It) (s : List It × Bool), fnP x (l.foldl (stP x) s) = if s.2 = true then s.1 ++ l else s.1 ++ mge ilt l [x]
  | [], s => by
    rw [mge_nil]
    cases h : s.2 <;> simp [fnP, h]
  | a :: l, s => by
    rw [List.foldl_cons, stP_fold x l]
    unfold stP
    cases h : s.2 with
    | true => simp
    | false =>
      cases h2 : ilt x a with
      | true => rw [mge_lt ilt _ _ h2, mge_nil']; simp
      | false => rw [mge_ge ilt _ _ h2]; simp [h]
def stA (x : It) (L : List It) (i : Nat) : List It × Bool := (L.take i).foldl (stP x) ([], false)
theorem stA_succ (x : It) (L : List It) (i : Nat) (h : i < L.length) : stA x L (i + 1) = stP x (stA x L i) L[i] := by
  unfold stA
  rw [List.take_succ_eq_append_getElem h, List.foldl_append]
  rfl
theorem stP_one (x : It) (s : List It × Bool) (a : It) : (stP x s a).1.length ≤ s.1.length + 2 := by
  unfold stP
  split <;> simp
theorem stA_len (x : It) (L : List It) : ∀ i, i ≤ L.length → (stA x L i).1.length ≤ 2 * i
  | 0, _ => by simp [stA]
  | i + 1, h => by
    rw [stA_succ x L i (by omega)]
    have := stP_one x (stA x L i) L[i]
    have := stA_len x L i (by omega)
    omega
theorem stA_end (x : It) (L : List It) : fnP x (stA x L L.length) = mge ilt L [x] := by
  unfold stA
  rw [List.take_length, stP_fold]
  simp
def RPQ (x : It) (L : List It) (zz : Out × Env × Bx) : Prop := ∃ e', zz = (.ex 0, e', [itc x]) ∧ e' 3 = .ptr 0 0 ∧ e' 5 = .sl (fg itc (stA x L L.length).1) (stA x L L.length).1.length 2 ∧ e' 6 = vb (stA x L L.length).2
theorem refPut_loop (x : It) (L : List It) (h9 : L.length ≤ 1000) : ∀ (d i : Nat) (e : Env), i + d = L.length → e 0 = slX L → e 3 = .ptr 0 0 → e 5 = .sl (fg itc (stA x L i).1) (stA x L i).1.length 2 → e 6 = vb (stA x L i).2 → e 7 = vi i →
    EXR (RPQ x L) (evL tab0 ext0 0 L17_0 (e, [itc x])) := by
  intro d
  induction d with
  | zero =>
    intro i e hi g0 g3 g5 g6 g7
    obtain rfl : i = L.length := by omega
    rw [go17_0]
    simp [B17_0, push_cast, -Int.not_lt, -Int.not_le, ↓evI_call, ↓evI_calli, ↓evI_calln, ↓evI_callz, ↓evI_callv, ↓evI_mxn, loopIn, loopIn0, keepL, emp, A.dang, A.dangC, slX, itc, g0, g3, g5, g6, g7]
    exact ⟨_, rfl, _, rfl, by simp [put_at], by simp [put_at], by simp [put_at]⟩
  | succ d ih =>
    intro i e hi g0 g3 g5 g6 g7
    have h1 : i < L.length := by omega
    have h3 : (i : Int) < L.length := by omega
    obtain ⟨R1, d1⟩ := it_drop L i h1
    have hs := stA_succ x L i h1
    have hlen := stA_len x L i (by omega)
    have hw : IntKind.wrap .i64 ((i : Int) + 1) = (i : Int) + 1 := wrap_in _ (by omega) (by omega)
    have ih' := ih (i + 1)
    rw [hs] at ih'
    clear ih hs
    rw [go17_0]
    generalize L[i] = y at *
    generalize stA x L i = st at *
    obtain ⟨o, dn⟩ := st
    simp only at g5 g6 hlen
    have ol := it_len o
    have b1 : (o.length + 1) * 16 ≤ 70368744177664 := by omega
    have b2 : (o.length + 1 + 1) * 16 ≤ 70368744177664 := by omega
    have b3 : o.length * 2 + 2 = (o.length + 1) * 2 := by omega
    unfold stP at ih'
    cases dn with
    | true =>
      simp only [Bool.true_eq_false, false_and, if_false, it_snoc, List.length_append, List.length_cons, List.length_nil] at ih'
      generalize fg itc o = O at *
      simp [B17_0, push_cast, -Int.not_lt, -Int.not_le, ↓evI_call, ↓evI_calli, ↓evI_calln, ↓evI_callz, ↓evI_callv, ↓evI_mxn, loopIn, loopIn0, keepL, emp, A.dang, A.dangC, slX, itc, g0, g3, g5, g6, g7, h3, d1, hw, ol, b1, asList]
      refine ih' _ (by omega) ?_ ?_ ?_ ?_ ?_ <;> simp [put_at, slX]
    | false =>
      cases hl : ilt x y with
      | true =>
        have hl2 : x.key < y.key := by simpa [ilt] using hl
        simp only [hl, and_self, if_true, it_snoc, List.length_append, List.length_cons, List.length_nil] at ih'
        generalize fg itc o = O at *
        simp [B17_0, push_cast, -Int.not_lt, -Int.not_le, ↓evI_call, ↓evI_calli, ↓evI_calln, ↓evI_callz, ↓evI_callv, ↓evI_mxn, loopIn, loopIn0, keepL, emp, A.dang, A.dangC, slX, itc, g0, g3, g5, g6, g7, h3, d1, hw, ol, b1, b2, b3, hl2, asList]
        refine ih' _ (by omega) ?_ ?_ ?_ ?_ ?_ <;> simp [put_at, slX]
      | false =>
        have hl2 : ¬ x.key < y.key := by simpa [ilt] using hl
        simp only [hl, Bool.false_eq_true, and_false, if_false, it_snoc, List.length_append, List.length_cons, List.length_nil] at ih'
        generalize fg itc o = O at *
        simp [B17_0, push_cast, -Int.not_lt, -Int.not_le, ↓evI_call, ↓evI_calli, ↓evI_calln, ↓evI_callz, ↓evI_callv, ↓evI_mxn, loopIn, loopIn0, keepL, emp, A.dang, A.dangC, slX, itc, g0, g3, g5, g6, g7, h3, d1, hw, ol, b1, hl2, asList]
        refine ih' _ (by omega) ?_ ?_ ?_ ?_ ?_ <;> simp [put_at, slX]
theorem refPut_is (L : List It) (x : It) (h9 : L.length ≤ 1000) : pureOf (callL tab0 ext0) false 17 [slX L, .agg (itc x)] = some (slX (mge ilt L [x])) := by
  rw [pureOf_b, callL_tab _ _ rfl tab17 rfl]
  have hlp := fun e => refPut_loop x L h9 L.length 0 e (by omega)
  have h0 : stA x L 0 = ([], false) := rfl
  rw [h0] at hlp
  have he := stA_end x L
  have hlen := stA_len x L L.length (Nat.le_refl _)
  rw [← he]
  simp only [slX, itc, List.flatMap_nil, List.length_nil] at hlp
  simp [C17, push_cast, -Int.not_lt, -Int.not_le, ↓evI_call, ↓evI_calli, ↓evI_calln, ↓evI_callz, ↓evI_callv, ↓evI_mxn, slX, itc]
  refine behind (hlp _ (by simp [put_at]) (by simp [put_at]) (by simp [put_at]) (by simp [put_at]) (by simp [put_at])) ?_
  rintro a ⟨e', rfl, k3, k5, k6⟩
  generalize stA x L L.length = st at *
  obtain ⟨o, dn⟩ := st
  simp only at k5 k6 hlen
  have ol := it_len o
  have op := it_plain o
  have b1 : (o.length + 1) * 16 ≤ 70368744177664 := by omega
  unfold fnP
  cases dn with
  | true =>
    simp only [if_true]
    generalize fg itc o = O at *
    simp [push_cast, -Int.not_lt, -Int.not_le, ↓evI_call, ↓evI_calli, ↓evI_calln, ↓evI_callz, ↓evI_callv, ↓evI_mxn, k3, k5, k6, frzK, frzR, frz, frzC]
  | false =>
    simp only [Bool.false_eq_true, if_false, it_snoc, List.length_append, List.length_cons, List.length_nil]
    generalize fg itc o = O at *
    simp [push_cast, -Int.not_lt, -Int.not_le, ↓evI_call, ↓evI_calli, ↓evI_calln, ↓evI_callz, ↓evI_callv, ↓evI_mxn, k3, k5, k6, ol, b1, asList, itc, frzK, frzR, frz, frzC]
def RSQ (L : List It) (zz : Out × Env × Bx) : Prop := ∃ e' g', zz = (.ex 0, e', []) ∧ e' 3 = .sl (fg itc (ss ilt L)) L.length g'
theorem refSort_loop (L : List It) (h9 : L.length ≤ 900) : ∀ (d i g : Nat) (e : Env), i + d = L.length → e 0 = slX L → e 3 = .sl (fg itc (ss ilt (L.take i))) i g → e 4 = vi i →
    EXR (RSQ L) (evL tab0 ext0 0 L11_0 (e, [])) := by
  intro d
  induction d with
  | zero =>
    intro i g e hi g0 g3 g4
    obtain rfl : i = L.length := by omega
    rw [List.take_length] at g3
    rw [go11_0]
    simp [B11_0, push_cast, -Int.not_lt, -Int.not_le, ↓evI_call, ↓evI_calli, ↓evI_calln, ↓evI_callz, ↓evI_callv, ↓evI_mxn, loopIn, loopIn0, keepL, emp, A.dang, A.dangC, slX, g0, g3, g4]
    exact ⟨_, rfl, _, g, rfl, by simp [put_at]⟩
  | succ d ih =>
    intro i g e hi g0 g3 g4
    have h1 : i < L.length := by omega
    have h3 : (i : Int) < L.length := by omega
    obtain ⟨R1, d1⟩ := it_drop L i h1
    have hw : IntKind.wrap .i64 ((i : Int) + 1) = (i : Int) + 1 := wrap_in _ (by omega) (by omega)
    have hss := ss_snoc ilt (L.take i) L[i]
    rw [← List.take_succ_eq_append_getElem h1] at hss
    have hsl : (ss ilt (L.take i)).length = i := by rw [ss_len, List.length_take]; omega
    have hp := refPut_is (ss ilt (L.take i)) L[i] (by omega)
    rw [← hss] at hp
    have hsl2 : (ss ilt (L.take (i + 1))).length = i + 1 := by rw [ss_len, List.length_take]; omega
    simp only [slX, hsl, hsl2, itc] at hp
    have ih' := ih (i + 1)
    clear ih hss
    rw [go11_0]
    generalize L[i] = y at *
    generalize fg itc (ss ilt (L.take i)) = O at *
    generalize fg itc (ss ilt (L.take (i + 1))) = O2 at *
    simp [B11_0, push_cast, -Int.not_lt, -Int.not_le, ↓evI_call, ↓evI_calli, ↓evI_calln, ↓evI_callz, ↓evI_callv, ↓evI_mxn, loopIn, loopIn0, keepL, emp, A.dang, A.dangC, slX, g0, g3, g4, h3, d1, hw, hp]
    refine ih' 0 _ (by omega) ?_ ?_ ?_ <;> simp [put_at, slX]
theorem refSort_is (L : List It) (h9 : L.length ≤ 900) : pureOf (callL tab0 ext0) false 11 [slX L] = some (slX (ss ilt L)) := by
  rw [pureOf_b, callL_tab _ _ rfl tab11 rfl]
  have hlp := fun e => refSort_loop L h9 L.length 0 2 e (by omega)
  have hsl : (ss ilt L).length = L.length := ss_len ilt L
  simp only [slX, List.take_zero, ss_nil, List.flatMap_nil] at hlp
  simp [C11, push_cast, -Int.not_lt, -Int.not_le, ↓evI_call, ↓evI_calli, ↓evI_calln, ↓evI_callz, ↓evI_callv, ↓evI_mxn, slX]
  refine behind (hlp _ (by simp [put_at]) (by simp [put_at]) (by simp [put_at])) ?_
  rintro a ⟨e', g', rfl, k3⟩
  rw [hsl]
  generalize fg itc (ss ilt L) = O at *
  simp [push_cast, -Int.not_lt, -Int.not_le, ↓evI_call, ↓evI_calli, ↓evI_calln, ↓evI_callz, ↓evI_callv, ↓evI_mxn, k3, frzK, frzR, frz, frzC]
theorem eqCells_it (a : It) : eqCells [vi a.key, vi a.id] [vi a.key, vi a.id] = some true := by simp [eqCells]
theorem sameI_loop (L : List It) (h9 : L.length ≤ 1000) :
    ∀ d i (e : Env), i + d = L.length → (e 0 = slX L ∧ e 1 = slX L ∧ e 5 = vi i) → ∃ zz, evL tab0 ext0 0 L12_0 (e, []) = some zz ∧ FQ (fun _ => false) ([]) 0 (fun _ _ => True) (fun _ => True) i d zz := by
  refine fq_loop (St := fun i e => e 0 = slX L ∧ e 1 = slX L ∧ e 5 = vi i) _ _ _ _ _ ?_ ?_
  · rintro e ⟨g0, g1, g2⟩
    exact ⟨_, (go12_0 _ _).trans (by simp [B12_0, push_cast, -Int.not_lt, -Int.not_le, ↓evI_call, ↓evI_calli, ↓evI_calln, ↓evI_callz, ↓evI_callv, ↓evI_mxn, loopIn, loopIn0, keepL, emp, A.dang, A.dangC, g0, g1, g2, slX]; rfl), by trivial⟩
  · rintro i e hi ⟨g0, g1, g2⟩
    rw [go12_0]
    have hi' : (i : Int) < (L.length : Nat) := by omega
    have hw : IntKind.wrap .i64 ((i : Int) + 1) = (i : Int) + 1 := wrap_in _ (by omega) (by omega)
    obtain ⟨R1, d1⟩ := it_drop L i hi
    have he := eqCells_it L[i]
    generalize L[i] = x at *
    simp +contextual (maxSteps := 400000) [B12_0, push_cast, -Int.not_lt, -Int.not_le, ↓evI_call, ↓evI_calli, ↓evI_calln, ↓evI_callz, ↓evI_callv, ↓evI_mxn, loopIn, loopIn0, keepL, emp, A.dang, A.dangC, g0, g1, g2, hi, hi', slX, d1, hw, he]
    (repeat' refine Step.split (fun cc => ?_) (fun cc => ?_)) <;> first | (refine Step.ret0 ?_ ?_ <;> first | (simp_all [put_at, eqz]; done) | (simp [put_at, *]; done) | ((try simp [eqz] at *); omega)) | (refine Step.go ?_ ?_ <;> first | (simp_all [put_at, eqz]; done) | (simp [put_at, *]; done) | ((try simp [eqz] at *); omega)) | (refine Step.ret _ ?_ ?_ <;> first | (simp_all [put_at, eqz]; done) | (simp [put_at, *]; done) | ((try simp [eqz] at *); omega)) | (refine Step.goJ _ (by simp) ?_ ?_ <;> first | (simp_all [put_at, eqz]; done) | (simp [put_at, *]; done) | ((try simp [eqz] at *); omega))
theorem sameI_is (L : List It) (h9 : L.length ≤ 1000) : pureOf (callL tab0 ext0) false 12 [slX L, slX L] = some (vb true) := by
  refine pure_vb ?_
  rw [callL_tab _ _ rfl tab12 rfl]
  have hlp := fun e => sameI_loop L h9 L.length 0 e (by omega)
  simp only [slX] at hlp
  simp [C12, push_cast, -Int.not_lt, -Int.not_le, ↓evI_call, ↓evI_calli, ↓evI_calln, ↓evI_callz, ↓evI_callv, ↓evI_mxn, slX, eqz_self]
  refine behindP (P := fun r => Ans _ [] r) (hlp _ (by simp [put_at])) ?_
  intro a h
  obtain ⟨e', rfl, hx⟩ := h.never; clear h; have h := hx
  simp [push_cast, -Int.not_lt, -Int.not_le, ↓evI_call, ↓evI_calli, ↓evI_calln, ↓evI_callz, ↓evI_callv, ↓evI_mxn]
  exact ⟨_, rfl⟩
theorem sameN_loop (L : List Int) (h9 : L.length ≤ 1000) :
    ∀ d i (e : Env), i + d = L.length → (e 0 = slI L ∧ e 1 = slI L ∧ e 5 = vi i) → ∃ zz, evL tab0 ext0 0 L18_0 (e, []) = some zz ∧ FQ (fun _ => false) ([]) 0 (fun _ _ => True) (fun _ => True) i d zz := by
  refine fq_loop (St := fun i e => e 0 = slI L ∧ e 1 = slI L ∧ e 5 = vi i) _ _ _ _ _ ?_ ?_
  · rintro e ⟨g0, g1, g2⟩
    exact ⟨_, (go18_0 _ _).trans (by simp [B18_0, push_cast, -Int.not_lt, -Int.not_le, ↓evI_call, ↓evI_calli, ↓evI_calln, ↓evI_callz, ↓evI_callv, ↓evI_mxn, loopIn, loopIn0, keepL, emp, A.dang, A.dangC, g0, g1, g2, slI]; rfl), by trivial⟩
  · rintro i e hi ⟨g0, g1, g2⟩
    rw [go18_0]
    have hi' : (i : Int) < (L.length : Nat) := by omega
    have hw : IntKind.wrap .i64 ((i : Int) + 1) = (i : Int) + 1 := wrap_in _ (by omega) (by omega)
    have d1 := drop_int L i hi
    simp +contextual (maxSteps := 400000) [B18_0, push_cast, -Int.not_lt, -Int.not_le, ↓evI_call, ↓evI_calli, ↓evI_calln, ↓evI_callz, ↓evI_callv, ↓evI_mxn, loopIn, loopIn0, keepL, emp, A.dang, A.dangC, g0, g1, g2, hi, hi', slI, d1, hw, eqz_self]
    (repeat' refine Step.split (fun cc => ?_) (fun cc => ?_)) <;> first | (refine Step.ret0 ?_ ?_ <;> first | (simp_all [put_at, eqz]; done) | (simp [put_at, *]; done) | ((try simp [eqz] at *); omega)) | (refine Step.go ?_ ?_ <;> first | (simp_all [put_at, eqz]; done) | (simp [put_at, *]; done) | ((try simp [eqz] at *); omega)) | (refine Step.ret _ ?_ ?_ <;> first | (simp_all [put_at, eqz]; done) | (simp [put_at, *]; done) | ((try simp [eqz] at *); omega)) | (refine Step.goJ _ (by simp) ?_ ?_ <;> first | (simp_all [put_at, eqz]; done) | (simp [put_at, *]; done) | ((try simp [eqz] at *); omega))
theorem sameN_is (L : List Int) (h9 : L.length ≤ 1000) : pureOf (callL tab0 ext0) false 18 [slI L, slI L] = some (vb true) := by
  refine pure_vb ?_
  rw [callL_tab _ _ rfl tab18 rfl]
  have hlp := fun e => sameN_loop L h9 L.length 0 e (by omega)
  simp only [slI] at hlp
  simp [C18, push_cast, -Int.not_lt, -Int.not_le, ↓evI_call, ↓evI_calli, ↓evI_calln, ↓evI_callz, ↓evI_callv, ↓evI_mxn, slI, eqz_self]
  refine behindP (P := fun r => Ans _ [] r) (hlp _ (by simp [put_at])) ?_
  intro a h
  obtain ⟨e', rfl, hx⟩ := h.never; clear h; have h := hx
  simp [push_cast, -Int.not_lt, -Int.not_le, ↓evI_call, ↓evI_calli, ↓evI_calln, ↓evI_callz, ↓evI_callv, ↓evI_mxn]
  exact ⟨_, rfl⟩
end Go.Proofs.YtgndbkeiickihaaEv
