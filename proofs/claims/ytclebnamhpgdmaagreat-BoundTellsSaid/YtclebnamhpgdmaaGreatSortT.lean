/- The greatest ones of few numbers, their sum: the program's, the reference's. -/
import Derived.Test.YtclebnamhpgdmaaGreatSortI
import Derived.Test.YtclebnamhpgdmaaGreatGood
set_option linter.unusedSimpArgs false
set_option linter.unusedVariables false
namespace Go.Proofs.YtclebnamhpgdmaaGreatEv
open Go
set_option maxHeartbeats 2000000
/-- Greatest ones first. -/
def insD (x : Int) : List Int → List Int
  | [] => [x]
  | a :: l => if a ≤ x then x :: a :: l else a :: insD x l
def sortD : List Int → List Int
  | [] => []
  | a :: l => insD a (sortD l)
theorem insD_perm (x : Int) : ∀ l, (insD x l).Perm (x :: l)
  | [] => List.Perm.refl _
  | a :: l => by
    unfold insD; split
    · exact List.Perm.refl _
    · exact ((insD_perm x l).cons a).trans (List.Perm.swap ..)
theorem sortD_perm : ∀ l, (sortD l).Perm l
  | [] => List.Perm.refl _
  | a :: l => (insD_perm a (sortD l)).trans ((sortD_perm l).cons a)
theorem insD_sorted (x : Int) : ∀ l : List Int, l.Pairwise (fun a b => b ≤ a) → (insD x l).Pairwise (fun a b => b ≤ a)
  | [], _ => List.pairwise_singleton _ _
  | a :: l, h => by
    unfold insD; split
    · rename_i hx
      refine List.Pairwise.cons (fun b hb => ?_) h
      rcases List.mem_cons.1 hb with rfl | hb
      · exact hx
      · exact Int.le_trans (List.rel_of_pairwise_cons h hb) hx
    · rename_i hx
      rw [List.pairwise_cons] at h
      refine List.Pairwise.cons (fun b hb => ?_) (insD_sorted x l h.2)
      rcases List.mem_cons.1 ((insD_perm x l).mem_iff.1 hb) with rfl | hb
      · omega
      · exact h.1 b hb
theorem sortD_sorted : ∀ l, (sortD l).Pairwise (fun a b => b ≤ a)
  | [] => List.Pairwise.nil
  | a :: l => insD_sorted a _ (sortD_sorted l)
theorem sorted_uniq : ∀ (l m : List Int), l.Perm m → l.Pairwise (fun a b => b ≤ a) → m.Pairwise (fun a b => b ≤ a) → l = m
  | [], m, h, _, _ => (List.Perm.nil_eq h)
  | a :: l, [], h, _, _ => absurd h.length_eq (by simp)
  | a :: l, b :: m, h, h1, h2 => by
    rw [List.pairwise_cons] at h1 h2
    have e : a = b := by
      have m1 : b ∈ a :: l := h.mem_iff.2 (by simp)
      have m2 : a ∈ b :: m := h.mem_iff.1 (by simp)
      rcases List.mem_cons.1 m1 with rfl | m1
      · rfl
      · rcases List.mem_cons.1 m2 with rfl | m2
        · rfl
        · have := h1.1 b m1; have := h2.1 a m2; omega
    subst e
    rw [sorted_uniq l m (List.Perm.cons_inv h) h1.2 h2.2]
theorem sortD_uniq {l m : List Int} (h : m.Perm l) (hs : m.Pairwise (fun a b => b ≤ a)) : m = sortD l :=
  sorted_uniq _ _ (h.trans (sortD_perm l).symm) hs (sortD_sorted l)
theorem sumL_perm {l m : List Int} (h : l.Perm m) : sumL id l = sumL id m := by
  induction h with
  | nil => rfl
  | cons x _ ih => simp [sumL, ih]
  | swap x y l => simp [sumL]; omega
  | trans _ _ h1 h2 => exact h1.trans h2
def topS (l : List Int) (k : Int) : List Int := (sortD l).take (min (max k 0) l.length).toNat
def sumTop (l : List Int) (k : Int) : Int := sumL id (topS l k)
theorem sortD_len (l : List Int) : (sortD l).length = l.length := (sortD_perm l).length_eq
theorem sumTop_all (l : List Int) (k : Int) (h : (l.length : Int) ≤ k) : sumTop l k = sumL id l := by
  unfold sumTop topS
  rw [List.take_of_length_le (by rw [sortD_len]; omega)]
  exact sumL_perm (sortD_perm l)
theorem topS_mem {l : List Int} {k x : Int} (h : x ∈ topS l k) : x ∈ l := (sortD_perm l).mem_iff.1 (List.mem_of_mem_take h)
theorem topS_len (l : List Int) (k : Int) : ((topS l k).length : Int) = min (max k 0) l.length := by
  unfold topS; rw [List.length_take, sortD_len]; omega
/-! ### the program's -/
theorem cmp_is (a b : Int) (bx : Bx) : callL tab0 ext0 113 [vi a, vi b] bx = some (vi (if b < a then -1 else if a < b then 1 else 0), bx) := by
  have h0 : ∀ x : Int, pureOf (callL tab0 ext0) false 119 [vi x] = some (vb false) := by
    intro x
    refine pureOf_eq (bx := []) (r := vb false) ?_ rfl
    rw [callL_tab _ _ rfl tab119 rfl]
    simp [C119, push_cast, -Int.not_lt, -Int.not_le, ↓evI_call, ↓evI_calli, ↓evI_callv, ↓evI_mxn]
  have h1 : pureOf (callL tab0 ext0) false 114 [vi b, vi a] = some (vi (if b < a then -1 else if a < b then 1 else 0)) := by
    refine pureOf_eq (bx := []) (r := vi (if b < a then -1 else if a < b then 1 else 0)) ?_ rfl
    rw [callL_tab _ _ rfl tab114 rfl]
    by_cases c1 : b < a
    · simp [C114, push_cast, -Int.not_lt, -Int.not_le, ↓evI_call, ↓evI_calli, ↓evI_callv, ↓evI_mxn, h0, c1]
    · by_cases c2 : a < b <;> simp [C114, push_cast, -Int.not_lt, -Int.not_le, ↓evI_call, ↓evI_calli, ↓evI_callv, ↓evI_mxn, h0, c1, c2]
  rw [callL_tab _ _ rfl tab113 rfl]
  generalize (if b < a then (-1 : Int) else if a < b then 1 else 0) = r at h1 ⊢
  simp [C113, push_cast, -Int.not_lt, -Int.not_le, ↓evI_call, ↓evI_calli, ↓evI_callv, ↓evI_mxn, h1]
theorem cmp_ok : CmpOk 113 [] [] [] (fun x => -x) (fun a b => if b < a then -1 else if a < b then 1 else 0) := by
  refine ⟨fun L => ⟨?_, ?_⟩, rfl, fun a b L => ⟨[], ?_⟩, fun a b => ?_⟩
  · show [(L.map vi).map A.cp1] = [L.map vi]
    rw [plain_cp (plain_vi L)]
  · show ([L.map vi].all fun cs => cs.all (A.dangC 1)) = true
    simp only [List.all_cons, List.all_nil, plain_dang (plain_vi L), Bool.and_self]
  · rw [List.append_nil]; exact cmp_is a b _
  · show (if b < a then (-1 : Int) else if a < b then 1 else 0) < 0 ↔ -a < -b
    split
    · omega
    · split <;> omega
theorem top_is (l : List Int) (k : Int) (hl : l.length ≤ 12) : pureOf (callL tab0 ext0) false 102 [slI l, vi k] = some (slI (topS l k)) := by
  rw [pureOf_b, callL_tab _ _ rfl tab102 rfl]
  have g1 := clone_111 (l.map vi) l.length [] (plain_vi _) (by simp) (by omega)
  have hm1 : foldM true k [vi 0] = some (max k 0) := by show some (if 0 > k then 0 else k) = _; congr 1; split <;> omega
  have hm2 : foldM false (max k 0) [vi l.length] = some (min (max k 0) l.length) := by show some (if (l.length : Int) < max k 0 then (l.length : Int) else max k 0) = _; congr 1; split <;> omega
  by_cases hz : l.length = 0
  · obtain rfl : l = [] := List.length_eq_zero_iff.1 hz
    have hs : callL tab0 ext0 112 [.sl [] 0 0, .fn 113 []] [] = some (.tup [], []) := (callL_iff ..).2 ⟨100, by kernel_rfl⟩
    have hm3 : foldM false (max k 0) [vi 0] = some 0 := by show some (if (0 : Int) < max k 0 then (0 : Int) else max k 0) = _; congr 1; split <;> omega
    unfold cloned at g1
    simp only [List.length_nil, List.map_nil, if_true] at g1
    have e : topS [] k = [] := by unfold topS sortD; simp
    rw [e]
    simp [C102, push_cast, -Int.not_lt, -Int.not_le, ↓evI_call, ↓evI_calli, ↓evI_callv, ↓evI_mxn, slI, g1, aft, strip, hs, hm1, hm3, frzK]
  · obtain ⟨L', s1, s2, s3⟩ := sf_call cmp_ok l hl
    have eL : L' = sortD l := sortD_uniq s2 (s3.imp fun h => by omega)
    unfold cloned at g1
    rw [if_neg hz] at g1
    have pc := plain_cp (plain_vi l)
    have pd := plain_dang (m := 1) (plain_vi l)
    have pc' := plain_cp (plain_vi L')
    have pd' := plain_dang (m := 1) (plain_vi L')
    have pm := fun bx d => plain_mapM (bx := bx) (d := d) (plain_vi (topS l k))
    have q0 : 0 ≤ min (max k 0) (l.length : Int) ∧ min (max k 0) (l.length : Int) ≤ l.length := by omega
    have htk : (L'.map vi).take (min (max k 0) (l.length : Int)).toNat = (topS l k).map vi := by rw [eL]; unfold topS; rw [List.map_take]
    have hlen : (L'.map vi).length = l.length := by simp [s2.length_eq]
    have htl := topS_len l k
    have hk2 : (min (max k 0) (l.length : Int)).toNat = (topS l k).length := by omega
    have hk3 : (topS l k).length ≤ l.length := by omega
    simp only [bxS, List.nil_append, List.length_nil, slI] at s1 ⊢
    rw [hk2] at htk
    clear eL s2 s3
    generalize min (max k 0) (l.length : Int) = w at *
    generalize max k 0 = w' at *
    generalize l.map vi = B at *
    generalize L'.map vi = B' at *
    simp [C102, push_cast, -Int.not_lt, -Int.not_le, ↓evI_call, ↓evI_calli, ↓evI_callv, ↓evI_mxn, slI, g1, aft, strip, pc, pd, pc', pd', s1, hm1, hm2, q0, frzK, hk2, htk, hlen, pm, hk3, -List.all_eq_true]
theorem b60_take {l : List Int} (h : ∀ x ∈ l, 0 ≤ x ∧ x ≤ 60) (hl : l.length ≤ 12) (i : Nat) : 0 ≤ sumL id (l.take i) ∧ sumL id (l.take i) ≤ 720 := by
  have h2 := fun x hx => h x (List.mem_of_mem_take (i := i) hx)
  have h3 := sumL_ge id _ fun x hx => (h2 x hx).1
  have h4 := sumL_le id 60 _ fun x hx => (h2 x hx).2
  have h5 : (l.take i).length ≤ 12 := by rw [List.length_take]; omega
  omega
theorem sum_loop (l : List Int) (h : ∀ x ∈ l, 0 ≤ x ∧ x ≤ 60) (hl : l.length ≤ 12) :
    ∀ d i (e : Env), i + d = l.length → (e 5 = vi (sumL id (l.take i)) ∧ e 10 = slI l ∧ e 11 = vi l.length ∧ e 12 = vi i) → ∃ zz, evL tab0 ext0 0 L88_0 (e, []) = some zz ∧ FQ (fun _ => false) ([]) 0 (fun _ _ => True) (fun e => e 5 = vi (sumL id l)) i d zz := by
  refine fq_loop (St := fun i e => e 5 = vi (sumL id (l.take i)) ∧ e 10 = slI l ∧ e 11 = vi l.length ∧ e 12 = vi i) _ _ _ _ _ ?_ ?_
  · rintro e ⟨g0, g1, g2, g3⟩
    exact ⟨_, (go88_0 _ _).trans (by simp [B88_0, push_cast, -Int.not_lt, -Int.not_le, ↓evI_call, ↓evI_calli, ↓evI_callv, ↓evI_mxn, loopIn, loopIn0, keepL, emp, A.dang, A.dangC, g0, g1, g2, g3, slI]; rfl), by simp [put_at, g0]⟩
  · rintro i e hi ⟨g0, g1, g2, g3⟩
    rw [go88_0]
    have hi' : (i : Int) < (l.length : Nat) := by omega
    have hw : IntKind.wrap .i64 ((i : Int) + 1) = (i : Int) + 1 := wrap_in _ (by omega) (by omega)
    rw [sumL_take _ _ _ hi]
    have h1 := b60_take h hl i
    have h2 := h _ (List.getElem_mem hi)
    have hw2 : IntKind.wrap .i64 (sumL id (l.take i) + l[i]) = sumL id (l.take i) + l[i] := wrap_in _ (by omega) (by omega)
    simp +contextual (maxSteps := 400000) [B88_0, push_cast, -Int.not_lt, -Int.not_le, ↓evI_call, ↓evI_calli, ↓evI_callv, ↓evI_mxn, loopIn, loopIn0, keepL, emp, A.dang, A.dangC, g0, g1, g2, g3, hi, hi', slI, drop_int _ i hi, hw, hw2]
    (repeat' refine Step.split (fun cc => ?_) (fun cc => ?_)) <;> first | (refine Step.ret0 ?_ ?_ <;> first | (simp_all [put_at, eqz]; done) | (simp [put_at, *]; done) | ((try simp [eqz] at *); omega)) | (refine Step.go ?_ ?_ <;> first | (simp_all [put_at, eqz]; done) | (simp [put_at, *]; done) | ((try simp [eqz] at *); omega)) | (refine Step.ret _ ?_ ?_ <;> first | (simp_all [put_at, eqz]; done) | (simp [put_at, *]; done) | ((try simp [eqz] at *); omega)) | (refine Step.goJ _ (by simp) ?_ ?_ <;> first | (simp_all [put_at, eqz]; done) | (simp [put_at, *]; done) | ((try simp [eqz] at *); omega))
theorem sumT_is (l : List Int) (k : Int) (h : ∀ x ∈ l, 0 ≤ x ∧ x ≤ 60) (hl : l.length ≤ 12) : Ans (vi (sumTop l k)) [] (callL tab0 ext0 88 [slI l, vi k] []) := by
  rw [callL_tab _ _ rfl tab88 rfl]
  have h1 := top_is l k hl
  have ht := topS_len l k
  have hlp := sum_loop (topS l k) (fun x hx => h x (topS_mem hx)) (by omega) (topS l k).length 0
  unfold sumTop
  simp only [slI] at h1 hlp
  simp [C88, push_cast, -Int.not_lt, -Int.not_le, ↓evI_call, ↓evI_calli, ↓evI_callv, ↓evI_mxn, slI, h1]
  refine behindP (P := fun r => Ans _ [] r) (hlp _ (by omega) (by simp [put_at, sumL])) ?_
  intro a h
  obtain ⟨e', rfl, hx⟩ := h.never; clear h; have h := hx
  simp [push_cast, -Int.not_lt, -Int.not_le, ↓evI_call, ↓evI_calli, ↓evI_callv, ↓evI_mxn, h]
  exact Ans.nil rfl
/-! ### the reference's -/
/-- Where the greatest one of these is, the first. -/
def maxAt (l : List Int) : Nat → Nat
  | 0 => 0
  | i + 1 => if l.getD (maxAt l i) 0 < l.getD (i + 1) 0 then i + 1 else maxAt l i
theorem maxAt_le (l : List Int) : ∀ i, maxAt l i ≤ i
  | 0 => Nat.le_refl _
  | i + 1 => by have := maxAt_le l i; unfold maxAt; split <;> omega
theorem maxAt_max (l : List Int) : ∀ i j, j ≤ i → l.getD j 0 ≤ l.getD (maxAt l i) 0
  | 0, j, h => by obtain rfl : j = 0 := by omega
                  exact Int.le_refl _
  | i + 1, j, h => by
    unfold maxAt
    by_cases hj : j = i + 1
    · subst hj; split <;> omega
    · have := maxAt_max l i j (by omega); split <;> omega
theorem sortD_max {l : List Int} {m : Nat} (hm : m < l.length) (hmax : ∀ j, j < l.length → l.getD j 0 ≤ l.getD m 0) : sortD l = l.getD m 0 :: sortD (l.take m ++ l.drop (m + 1)) := by
  symm
  have e : l.getD m 0 = l[m] := by simp [hm]
  refine sortD_uniq ?_ ?_
  · rw [e]
    have h1 : l = l.take m ++ l[m] :: l.drop (m + 1) := by rw [← List.drop_eq_getElem_cons hm, List.take_append_drop]
    have h2 : (l[m] :: sortD (l.take m ++ l.drop (m + 1))).Perm (l[m] :: (l.take m ++ l.drop (m + 1))) := (sortD_perm _).cons _
    refine h2.trans ?_
    conv => rhs; rw [h1]
    exact List.perm_middle.symm
  · refine List.Pairwise.cons (fun b hb => ?_) (sortD_sorted _)
    have hb := (sortD_perm _).mem_iff.1 hb
    have hb2 : b ∈ l := by
      rcases List.mem_append.1 hb with h | h
      · exact List.mem_of_mem_take h
      · exact List.mem_of_mem_drop h
    obtain ⟨j, hj, rfl⟩ := List.getElem_of_mem hb2
    have := hmax j hj
    simpa [hj] using this
theorem topR_loop2 (l : List Int) (hl : l.length ≤ 60) (o : List Int) (k : Int) (h0 : 1 ≤ l.length) :
    ∀ d i (e : Env), i + d = l.length - 1 → (e 1 = vi k ∧ e 5 = .sl (l.map vi) l.length 2 ∧ e 6 = .sl (o.map vi) o.length 2 ∧ e 7 = vi (maxAt l i) ∧ e 8 = vi ((i : Int) + 1)) → ∃ zz, evL tab0 ext0 0 L107_2 (e, []) = some zz ∧ FQ (fun _ => false) ([]) 2 (fun _ _ => True) (fun e => e 1 = vi k ∧ e 5 = .sl (l.map vi) l.length 2 ∧ e 6 = .sl (o.map vi) o.length 2 ∧ e 7 = vi (maxAt l (l.length - 1))) i d zz := by
  refine fq_loop (St := fun i e => e 1 = vi k ∧ e 5 = .sl (l.map vi) l.length 2 ∧ e 6 = .sl (o.map vi) o.length 2 ∧ e 7 = vi (maxAt l i) ∧ e 8 = vi ((i : Int) + 1)) _ _ _ _ _ ?_ ?_
  · rintro e ⟨g0, g1, g2, g3, g4⟩
    have c : ¬ ((l.length - 1 : Nat) : Int) + 1 < l.length := by omega
    exact ⟨_, (go107_2 _ _).trans (by simp [B107_2, push_cast, -Int.not_lt, -Int.not_le, ↓evI_call, ↓evI_calli, ↓evI_callv, ↓evI_mxn, loopIn, loopIn0, keepL, emp, A.dang, A.dangC, g0, g1, g2, g3, g4, c]; rfl), by simp [put_at, g0, g1, g2, g3]⟩
  · rintro i e hi ⟨g0, g1, g2, g3, g4⟩
    rw [go107_2]
    have hi' : (i : Int) < (l.length - 1 : Nat) := by omega
    have hw : IntKind.wrap .i64 ((i : Int) + 1 + 1) = (i : Int) + 1 + 1 := wrap_in _ (by omega) (by omega)
    have c : (i : Int) + 1 < l.length := by omega
    have hm := maxAt_le l i
    have c2 : (maxAt l i : Int) < l.length := by omega
    have c3 : (0 : Int) ≤ (i : Int) + 1 := by omega
    have hm2 : maxAt l i < l.length := by omega
    have hi2 : i + 1 < l.length := by omega
    have d1 := drop_int l (maxAt l i) hm2
    have d2 := drop_int l (i + 1) hi2
    have t1 : ((i : Int) + 1).toNat = i + 1 := by omega
    have e1 : l.getD (maxAt l i) 0 = l[maxAt l i] := by simp [hm2]
    have e2 : l.getD (i + 1) 0 = l[i + 1] := by simp [hi2]
    rw [maxAt, e1, e2]
    generalize l[maxAt l i] = x at d1 ⊢
    generalize l[i + 1] = y at d2 ⊢
    generalize maxAt l i = q at *
    simp +contextual (maxSteps := 400000) [B107_2, push_cast, -Int.not_lt, -Int.not_le, ↓evI_call, ↓evI_calli, ↓evI_callv, ↓evI_mxn, loopIn, loopIn0, keepL, emp, A.dang, A.dangC, g0, g1, g2, g3, g4, hi, hi', c, c2, c3, d1, d2, t1, hw]
    refine Step.split (fun cc => ?_) (fun cc => ?_) <;> refine Step.go rfl ?_ <;> simp [put_at, cc]
def lefts (l : List Int) : Nat → List Int
  | 0 => l
  | i + 1 => (lefts l i).take (maxAt (lefts l i) ((lefts l i).length - 1)) ++ (lefts l i).drop (maxAt (lefts l i) ((lefts l i).length - 1) + 1)
theorem lefts_spec (l : List Int) : ∀ i, i ≤ l.length → (lefts l i).length = l.length - i ∧ sortD (lefts l i) = (sortD l).drop i
  | 0, _ => by simp [lefts]
  | i + 1, h => by
    obtain ⟨h1, h2⟩ := lefts_spec l i (by omega)
    rw [lefts]
    generalize lefts l i = q at h1 h2 ⊢
    have hm := maxAt_le q (q.length - 1)
    have hm2 : maxAt q (q.length - 1) < q.length := by omega
    have hs := sortD_max hm2 fun j hj => maxAt_max q (q.length - 1) j (by omega)
    refine ⟨by rw [List.length_append, List.length_take, List.length_drop]; omega, ?_⟩
    rw [h2] at hs
    have e : List.drop (i + 1) (sortD l) = ((sortD l).drop i).drop 1 := by rw [List.drop_drop]
    rw [e, hs]; rfl
theorem lefts_take (l : List Int) (i : Nat) (h : i < l.length) : (sortD l).take (i + 1) = (sortD l).take i ++ [(lefts l i).getD (maxAt (lefts l i) ((lefts l i).length - 1)) 0] := by
  obtain ⟨h1, h2⟩ := lefts_spec l i (by omega)
  have hm := maxAt_le (lefts l i) ((lefts l i).length - 1)
  have hs := sortD_max (l := lefts l i) (by omega : maxAt (lefts l i) ((lefts l i).length - 1) < _) fun j hj => maxAt_max (lefts l i) ((lefts l i).length - 1) j (by omega)
  rw [h2] at hs
  have hlen := sortD_len l
  have e := List.drop_eq_getElem_cons (l := sortD l) (by omega : i < _)
  rw [e] at hs
  rw [List.take_succ_eq_append_getElem (by omega)]
  rw [(List.cons.inj hs).1]
def topN (l : List Int) (k : Int) : Nat := (min (max k 0) l.length).toNat
theorem topR_loop (l : List Int) (hl : l.length ≤ 60) (k : Int) :
    ∀ d i (e : Env), i + d = topN l k → (e 1 = vi k ∧ e 5 = .sl ((lefts l i).map vi) (lefts l i).length 2 ∧ e 6 = .sl (((sortD l).take i).map vi) ((sortD l).take i).length 2) → ∃ zz, evL tab0 ext0 0 L107_0 (e, []) = some zz ∧ FQ (fun _ => false) ([]) 0 (fun _ _ => True) (fun e => e 6 = .sl (((sortD l).take (topN l k)).map vi) ((sortD l).take (topN l k)).length 2) i d zz := by
  refine fq_loop (St := fun i e => e 1 = vi k ∧ e 5 = .sl ((lefts l i).map vi) (lefts l i).length 2 ∧ e 6 = .sl (((sortD l).take i).map vi) ((sortD l).take i).length 2) _ _ _ _ _ ?_ ?_
  · rintro e ⟨g0, g1, g2⟩
    have h1 := (lefts_spec l (topN l k) (by unfold topN; omega)).1
    have h2 : ((sortD l).take (topN l k)).length = topN l k := by rw [List.length_take, sortD_len]; unfold topN; omega
    have c : ¬ (((sortD l).take (topN l k)).length < k ∧ 0 < (lefts l (topN l k)).length) := by rw [h1, h2]; unfold topN; omega
    generalize (sortD l).take (topN l k) = q at c h2 g2 ⊢
    generalize lefts l (topN l k) = q2 at c h1 g1 ⊢
    rcases Decidable.em ((q.length : Int) < k) with c1 | c1
    · have c2 : ¬ 0 < q2.length := by omega
      exact ⟨_, (go107_0 _ _).trans (by simp [B107_0, push_cast, -Int.not_lt, -Int.not_le, ↓evI_call, ↓evI_calli, ↓evI_callv, ↓evI_mxn, loopIn, loopIn0, keepL, emp, A.dang, A.dangC, g0, g1, g2, c1, c2]; rfl), by simp [put_at, g0, g1, g2, c1]⟩
    exact ⟨_, (go107_0 _ _).trans (by simp [B107_0, push_cast, -Int.not_lt, -Int.not_le, ↓evI_call, ↓evI_calli, ↓evI_callv, ↓evI_mxn, loopIn, loopIn0, keepL, emp, A.dang, A.dangC, g0, g1, g2, c1]; rfl), by simp [put_at, g2]⟩
  · rintro i e hi ⟨g0, g1, g2⟩
    rw [go107_0]
    have hi' : (i : Int) < (topN l k : Nat) := by omega
    have h0 : i < l.length := by unfold topN at hi; omega
    have h1 := (lefts_spec l i (by omega)).1
    have h3 : ((sortD l).take i).length = i := by rw [List.length_take, sortD_len]; omega
    have c1 : (((sortD l).take i).length : Int) < k := by rw [h3]; unfold topN at hi; omega
    have c2 : 0 < (lefts l i).length := by omega
    have hlp := topR_loop2 (lefts l i) (by omega) ((sortD l).take i) k (by omega) ((lefts l i).length - 1) 0
    have hm := maxAt_le (lefts l i) ((lefts l i).length - 1)
    have hm2 : maxAt (lefts l i) ((lefts l i).length - 1) < (lefts l i).length := by omega
    have e2 : (lefts l i).getD (maxAt (lefts l i) ((lefts l i).length - 1)) 0 = (lefts l i)[maxAt (lefts l i) ((lefts l i).length - 1)] := by simp [hm2]
    rw [lefts_take l i h0, lefts]
    rw [e2]
    have d1 := drop_int (lefts l i) _ hm2
    have hln : (((sortD l).take i).length + 1) * 8 ≤ 70368744177664 := by omega
    generalize (lefts l i)[maxAt (lefts l i) ((lefts l i).length - 1)] = x at d1 ⊢
    generalize (sortD l).take i = o at *
    generalize lefts l i = q at *
    generalize hmm : maxAt q (q.length - 1) = m at *
    simp +contextual (maxSteps := 400000) [B107_0, push_cast, -Int.not_lt, -Int.not_le, ↓evI_call, ↓evI_calli, ↓evI_callv, ↓evI_mxn, loopIn, loopIn0, keepL, emp, A.dang, A.dangC, g0, g1, g2, hi, hi', c1, c2]
    refine behindP (P := fun r' => Step _ _ _ _ _ r') (hlp _ (by omega) (by simp [put_at, maxAt])) ?_
    intro a h
    obtain ⟨e', rfl, hx⟩ := h.never; clear h; have h := hx
    have hw : IntKind.wrap .i64 ((m : Int) + 1) = (m : Int) + 1 := wrap_in _ (by omega) (by omega)
    have c3 : (m : Int) < q.length := by omega
    have c4 : (m : Int) ≤ q.length := by omega
    have c5 : (m : Int) + 1 ≤ q.length := by omega
    have c6 : (0 : Int) ≤ (m : Int) + 1 := by omega
    have t1 : ((m : Int) + 1).toNat = m + 1 := by omega
    have t2 : ((q.length : Int) - ((m : Int) + 1)).toNat = q.length - (m + 1) := by omega
    have t3 : min m q.length = m := by omega
    have t4 : m * 8 ≤ 70368744177664 := by omega
    have t5 : (m + (q.length - (m + 1))) * 8 ≤ 70368744177664 := by omega
    have t6 : List.take (q.length - (m + 1)) (List.drop (m + 1) (q.map vi)) = List.drop (m + 1) (q.map vi) := List.take_of_length_le (by simp)
    simp [push_cast, -Int.not_lt, -Int.not_le, ↓evI_call, ↓evI_calli, ↓evI_callv, ↓evI_mxn, h, hw, c3, c4, c5, c6, t1, t2, t3, t4, t5, t6, d1, hln, asList]
    exact Step.go rfl (by simp [put_at, h])
theorem topR_is (l : List Int) (k : Int) (hl : l.length ≤ 60) : pureOf (callL tab0 ext0) false 107 [slI l, vi k] = some (slI (topS l k)) := by
  rw [pureOf_b, callL_tab _ _ rfl tab107 rfl]
  have hlp := topR_loop l hl k (topN l k) 0
  have hb : l.length * 8 ≤ 70368744177664 := by omega
  have e : topS l k = (sortD l).take (topN l k) := rfl
  rw [e]
  generalize (sortD l).take (topN l k) = q at hlp ⊢
  simp [C107, push_cast, -Int.not_lt, -Int.not_le, ↓evI_call, ↓evI_calli, ↓evI_callv, ↓evI_mxn, slI, hb, asList]
  refine behind (hlp _ (by omega) (by simp [put_at, lefts])) ?_
  intro a h
  obtain ⟨e', rfl, hx⟩ := h.never; clear h; have h := hx
  simp [push_cast, -Int.not_lt, -Int.not_le, ↓evI_call, ↓evI_calli, ↓evI_callv, ↓evI_mxn, h, frzK, plain_mapM (plain_vi _)]
theorem sumR_loop (l : List Int) (h : ∀ x ∈ l, 0 ≤ x ∧ x ≤ 60) (hl : l.length ≤ 12) :
    ∀ d i (e : Env), i + d = l.length → (e 5 = slI l ∧ e 6 = vi (sumL id (l.take i)) ∧ e 7 = vi i) → ∃ zz, evL tab0 ext0 0 L95_0 (e, []) = some zz ∧ FQ (fun _ => false) ([]) 0 (fun _ _ => True) (fun e => e 6 = vi (sumL id l)) i d zz := by
  refine fq_loop (St := fun i e => e 5 = slI l ∧ e 6 = vi (sumL id (l.take i)) ∧ e 7 = vi i) _ _ _ _ _ ?_ ?_
  · rintro e ⟨g0, g1, g2⟩
    exact ⟨_, (go95_0 _ _).trans (by simp [B95_0, push_cast, -Int.not_lt, -Int.not_le, ↓evI_call, ↓evI_calli, ↓evI_callv, ↓evI_mxn, loopIn, loopIn0, keepL, emp, A.dang, A.dangC, g0, g1, g2, slI]; rfl), by simp [put_at, g1]⟩
  · rintro i e hi ⟨g0, g1, g2⟩
    rw [go95_0]
    have hi' : (i : Int) < (l.length : Nat) := by omega
    have hw : IntKind.wrap .i64 ((i : Int) + 1) = (i : Int) + 1 := wrap_in _ (by omega) (by omega)
    rw [sumL_take _ _ _ hi]
    have h1 := b60_take h hl i
    have h2 := h _ (List.getElem_mem hi)
    have hw2 : IntKind.wrap .i64 (sumL id (l.take i) + l[i]) = sumL id (l.take i) + l[i] := wrap_in _ (by omega) (by omega)
    simp +contextual (maxSteps := 400000) [B95_0, push_cast, -Int.not_lt, -Int.not_le, ↓evI_call, ↓evI_calli, ↓evI_callv, ↓evI_mxn, loopIn, loopIn0, keepL, emp, A.dang, A.dangC, g0, g1, g2, hi, hi', slI, drop_int _ i hi, hw, hw2]
    (repeat' refine Step.split (fun cc => ?_) (fun cc => ?_)) <;> first | (refine Step.ret0 ?_ ?_ <;> first | (simp_all [put_at, eqz]; done) | (simp [put_at, *]; done) | ((try simp [eqz] at *); omega)) | (refine Step.go ?_ ?_ <;> first | (simp_all [put_at, eqz]; done) | (simp [put_at, *]; done) | ((try simp [eqz] at *); omega)) | (refine Step.ret _ ?_ ?_ <;> first | (simp_all [put_at, eqz]; done) | (simp [put_at, *]; done) | ((try simp [eqz] at *); omega)) | (refine Step.goJ _ (by simp) ?_ ?_ <;> first | (simp_all [put_at, eqz]; done) | (simp [put_at, *]; done) | ((try simp [eqz] at *); omega))
theorem sumR_is (l : List Int) (k : Int) (h : ∀ x ∈ l, 0 ≤ x ∧ x ≤ 60) (hl : l.length ≤ 12) : Ans (vi (sumTop l k)) [] (callL tab0 ext0 95 [slI l, vi k] []) := by
  rw [callL_tab _ _ rfl tab95 rfl]
  have h1 := topR_is l k (by omega)
  have ht := topS_len l k
  have hlp := sumR_loop (topS l k) (fun x hx => h x (topS_mem hx)) (by omega) (topS l k).length 0
  unfold sumTop
  simp only [slI] at h1 hlp
  simp [C95, push_cast, -Int.not_lt, -Int.not_le, ↓evI_call, ↓evI_calli, ↓evI_callv, ↓evI_mxn, slI, h1]
  refine behindP (P := fun r => Ans _ [] r) (hlp _ (by omega) (by simp [put_at, sumL])) ?_
  intro a h
  obtain ⟨e', rfl, hx⟩ := h.never; clear h; have h := hx
  simp [push_cast, -Int.not_lt, -Int.not_le, ↓evI_call, ↓evI_calli, ↓evI_callv, ↓evI_mxn, h]
  exact Ans.nil rfl
end Go.Proofs.YtclebnamhpgdmaaGreatEv
