/- Merging two rows in order, the left one first: the plain law of stable sorting. -/
import Derived.Test.YtgndbkeiickihaaLib
set_option linter.unusedSimpArgs false
set_option linter.unusedVariables false
namespace Go.Proofs.YtgndbkeiickihaaEv
open Go
section
variable {α : Type} (lt : α → α → Bool)
/-- An order of keys. -/
structure Swo : Prop where
  asym : ∀ a b, lt a b = true → lt b a = false
  neg : ∀ a b c, lt a b = false → lt b c = false → lt a c = false
variable {lt}
theorem Swo.irr (h : Swo lt) (a : α) : lt a a = false := by
  cases ha : lt a a with
  | false => rfl
  | true => rw [h.asym a a ha] at ha; cases ha
theorem Swo.trans (h : Swo lt) {a b c : α} (h1 : lt a b = true) (h2 : lt b c = true) : lt a c = true := by
  cases ha : lt a c with
  | true => rfl
  | false => rw [h.neg a c b ha (h.asym b c h2)] at h1; cases h1
variable (lt)
def mge : List α → List α → List α
  | [], Q => Q
  | p :: P, [] => p :: P
  | p :: P, q :: Q => if lt q p then q :: mge (p :: P) Q else p :: mge P (q :: Q)
termination_by P Q => P.length + Q.length
theorem mge_nil (Q : List α) : mge lt [] Q = Q := by rw [mge]
theorem mge_nil' (P : List α) : mge lt P [] = P := by cases P <;> rw [mge]
theorem mge_lt {p q : α} (P Q : List α) (h : lt q p = true) : mge lt (p :: P) (q :: Q) = q :: mge lt (p :: P) Q := by rw [mge, if_pos h]
theorem mge_ge {p q : α} (P Q : List α) (h : lt q p = false) : mge lt (p :: P) (q :: Q) = p :: mge lt P (q :: Q) := by rw [mge, if_neg (by rw [h]; exact Bool.false_ne_true)]
/-- Two rows are merged by parts. -/
theorem mge_split : ∀ (k : Nat) (P1 P2 Q1 Q2 : List α), P1.length + Q1.length ≤ k → (∀ q ∈ Q1, ∀ p ∈ P2, lt q p = true) → (∀ q ∈ Q2, ∀ p ∈ P1, lt q p = false) →
    mge lt (P1 ++ P2) (Q1 ++ Q2) = mge lt P1 Q1 ++ mge lt P2 Q2 := by
  intro k
  induction k with
  | zero =>
    intro P1 P2 Q1 Q2 hk _ _
    have h1 : P1 = [] := List.length_eq_zero_iff.1 (by omega)
    have h2 : Q1 = [] := List.length_eq_zero_iff.1 (by omega)
    subst h1 h2
    simp [mge_nil]
  | succ k ih =>
    intro P1 P2 Q1 Q2 hk h1 h2
    cases P1 with
    | nil =>
      cases Q1 with
      | nil => simp [mge_nil]
      | cons q Q1 =>
        cases P2 with
        | nil => simp [mge_nil]
        | cons p P2 =>
          have := ih [] (p :: P2) Q1 Q2 (by simp at hk ⊢; omega) (fun a ha => h1 a (by simp [ha])) (fun a _ b hb => by cases hb)
          simp only [List.nil_append, mge_nil] at this
          simp only [List.nil_append, List.cons_append, mge_nil, mge_lt lt _ _ (h1 q (by simp) p (by simp)), this]
    | cons p P1 =>
      cases Q1 with
      | nil =>
        cases Q2 with
        | nil => simp [mge_nil']
        | cons q Q2 =>
          have := ih P1 P2 [] (q :: Q2) (by simp at hk ⊢; omega) (fun a ha => by cases ha) (fun a ha b hb => h2 a ha b (by simp [hb]))
          simp only [List.nil_append, mge_nil'] at this
          simp only [List.nil_append, List.cons_append, mge_nil', mge_ge lt _ _ (h2 q (by simp) p (by simp)), this]
      | cons q Q1 =>
        cases hq : lt q p with
        | true =>
          have := ih (p :: P1) P2 Q1 Q2 (by simp at hk ⊢; omega) (fun a ha => h1 a (by simp [ha])) h2
          simp only [List.cons_append] at this ⊢
          rw [mge_lt lt _ _ hq, mge_lt lt _ _ hq, this, List.cons_append]
        | false =>
          have := ih P1 P2 (q :: Q1) Q2 (by simp at hk ⊢; omega) h1 (fun a ha b hb => h2 a ha b (by simp [hb]))
          simp only [List.cons_append] at this ⊢
          rw [mge_ge lt _ _ hq, mge_ge lt _ _ hq, this, List.cons_append]
theorem mge_perm : ∀ (k : Nat) (P Q : List α), P.length + Q.length ≤ k → (mge lt P Q).Perm (P ++ Q) := by
  intro k
  induction k with
  | zero =>
    intro P Q hk
    have h1 : P = [] := List.length_eq_zero_iff.1 (by omega)
    subst h1
    rw [mge_nil]; exact List.Perm.refl _
  | succ k ih =>
    intro P Q hk
    cases P with
    | nil => rw [mge_nil]; exact List.Perm.refl _
    | cons p P =>
      cases Q with
      | nil => rw [mge_nil', List.append_nil]
      | cons q Q =>
        cases hq : lt q p with
        | true =>
          rw [mge_lt lt _ _ hq]
          exact ((ih (p :: P) Q (by simp at hk ⊢; omega)).cons q).trans List.perm_middle.symm
        | false =>
          rw [mge_ge lt _ _ hq]
          exact (ih P (q :: Q) (by simp at hk ⊢; omega)).cons p
theorem mge_mem {P Q : List α} {x : α} : x ∈ mge lt P Q ↔ x ∈ P ∨ x ∈ Q := by
  rw [(mge_perm lt _ P Q (Nat.le_refl _)).mem_iff, List.mem_append]
theorem mge_len (P Q : List α) : (mge lt P Q).length = P.length + Q.length := by
  rw [(mge_perm lt _ P Q (Nat.le_refl _)).length_eq, List.length_append]
def Srt (l : List α) : Prop := l.Pairwise fun a b => lt b a = false
theorem mge_srt (hs : Swo lt) : ∀ (k : Nat) (P Q : List α), P.length + Q.length ≤ k → Srt lt P → Srt lt Q → Srt lt (mge lt P Q) := by
  intro k
  induction k with
  | zero =>
    intro P Q hk hP hQ
    have h1 : P = [] := List.length_eq_zero_iff.1 (by omega)
    subst h1
    rw [mge_nil]; exact hQ
  | succ k ih =>
    intro P Q hk hP hQ
    cases P with
    | nil => rw [mge_nil]; exact hQ
    | cons p P =>
      cases Q with
      | nil => rw [mge_nil']; exact hP
      | cons q Q =>
        have p1 := List.pairwise_cons.1 hP
        have q1 := List.pairwise_cons.1 hQ
        cases hq : lt q p with
        | true =>
          rw [mge_lt lt _ _ hq]
          refine List.Pairwise.cons (fun x hx => ?_) (ih _ _ (by simp at hk ⊢; omega) hP q1.2)
          rcases (mge_mem lt).1 hx with hx | hx
          · have hpq := hs.asym _ _ hq
            rcases List.mem_cons.1 hx with rfl | hx
            · exact hpq
            · exact hs.neg _ _ _ (p1.1 x hx) hpq
          · exact q1.1 x hx
        | false =>
          rw [mge_ge lt _ _ hq]
          refine List.Pairwise.cons (fun x hx => ?_) (ih _ _ (by simp at hk ⊢; omega) p1.2 hQ)
          rcases (mge_mem lt).1 hx with hx | hx
          · exact p1.1 x hx
          · rcases List.mem_cons.1 hx with rfl | hx
            · exact hq
            · exact hs.neg _ _ _ (q1.1 x hx) hq
theorem mge_assoc (hs : Swo lt) : ∀ (k : Nat) (P Q R : List α), P.length + Q.length + R.length ≤ k → mge lt (mge lt P Q) R = mge lt P (mge lt Q R) := by
  intro k
  induction k with
  | zero =>
    intro P Q R hk
    have h1 : P = [] := List.length_eq_zero_iff.1 (by omega)
    subst h1
    rw [mge_nil, mge_nil]
  | succ k ih =>
    intro P Q R hk
    cases P with
    | nil => rw [mge_nil, mge_nil]
    | cons a P =>
      cases Q with
      | nil => rw [mge_nil', mge_nil]
      | cons b Q =>
        cases R with
        | nil => rw [mge_nil', mge_nil']
        | cons c R =>
          cases hba : lt b a with
          | true =>
            rw [mge_lt lt _ _ hba]
            cases hcb : lt c b with
            | true =>
              have hca := hs.trans hcb hba
              rw [mge_lt lt _ _ hcb, mge_lt lt _ _ hcb, mge_lt lt _ _ hca, ← ih (a :: P) (b :: Q) R (by simp at hk ⊢; omega), mge_lt lt _ _ hba]
            | false =>
              rw [mge_ge lt _ _ hcb, mge_ge lt _ _ hcb, mge_lt lt _ _ hba, ih (a :: P) Q (c :: R) (by simp at hk ⊢; omega)]
          | false =>
            rw [mge_ge lt _ _ hba]
            cases hca : lt c a with
            | true =>
              have hcb : lt c b = true := by
                cases h : lt c b with
                | true => rfl
                | false => rw [hs.neg c b a h hba] at hca; cases hca
              rw [mge_lt lt _ _ hca, mge_lt lt _ _ hcb, mge_lt lt _ _ hca, ← ih (a :: P) (b :: Q) R (by simp at hk ⊢; omega), mge_ge lt _ _ hba]
            | false =>
              rw [mge_ge lt _ _ hca, ih P (b :: Q) (c :: R) (by simp at hk ⊢; omega)]
              cases hcb : lt c b with
              | true => rw [mge_lt lt _ _ hcb, mge_ge lt _ _ hca]
              | false => rw [mge_ge lt _ _ hcb, mge_ge lt _ _ hba]
/-- The row in order: one by one put in. -/
def ss (L : List α) : List α := L.foldl (fun acc x => mge lt acc [x]) []
theorem ss_nil : ss lt ([] : List α) = [] := rfl
theorem ss_snoc (L : List α) (x : α) : ss lt (L ++ [x]) = mge lt (ss lt L) [x] := by rw [ss, List.foldl_append]; rfl
theorem ss_app (hs : Swo lt) (L : List α) : ∀ (d : Nat) (M : List α), M.length = d → ss lt (L ++ M) = mge lt (ss lt L) (ss lt M) := by
  intro d
  induction d with
  | zero => intro M hM; rw [List.length_eq_zero_iff.1 hM, List.append_nil, ss_nil, mge_nil']
  | succ d ih =>
    intro M hM
    obtain ⟨N, x, rfl⟩ : ∃ N x, M = N ++ [x] := ⟨M.dropLast, M.getLast (by intro h; rw [h] at hM; cases hM), (List.dropLast_concat_getLast _).symm⟩
    rw [← List.append_assoc, ss_snoc, ss_snoc, ih N (by simpa using hM), mge_assoc lt hs _ _ _ _ (Nat.le_refl _)]
theorem ss_perm : ∀ (d : Nat) (M : List α), M.length = d → (ss lt M).Perm M := by
  intro d
  induction d with
  | zero => intro M hM; rw [List.length_eq_zero_iff.1 hM]; exact List.Perm.refl _
  | succ d ih =>
    intro M hM
    obtain ⟨N, x, rfl⟩ : ∃ N x, M = N ++ [x] := ⟨M.dropLast, M.getLast (by intro h; rw [h] at hM; cases hM), (List.dropLast_concat_getLast _).symm⟩
    rw [ss_snoc]
    exact (mge_perm lt _ _ _ (Nat.le_refl _)).trans ((ih N (by simpa using hM)).append_right [x])
theorem ss_len (M : List α) : (ss lt M).length = M.length := (ss_perm lt _ M rfl).length_eq
theorem ss_srt (hs : Swo lt) : ∀ (d : Nat) (M : List α), M.length = d → Srt lt (ss lt M) := by
  intro d
  induction d with
  | zero => intro M hM; rw [List.length_eq_zero_iff.1 hM]; exact List.Pairwise.nil
  | succ d ih =>
    intro M hM
    obtain ⟨N, x, rfl⟩ : ∃ N x, M = N ++ [x] := ⟨M.dropLast, M.getLast (by intro h; rw [h] at hM; cases hM), (List.dropLast_concat_getLast _).symm⟩
    rw [ss_snoc]
    exact mge_srt lt hs _ _ _ (Nat.le_refl _) (ih N (by simpa using hM)) (List.pairwise_singleton _ _)
/-- Where two rows in order are cut so that they can be merged apart. -/
theorem mge_cut (hs : Swo lt) {P1 P2 Q1 Q2 : List α} (hP : Srt lt (P1 ++ P2)) (hQ : Srt lt (Q1 ++ Q2)) (h1 : Q1 = [] ∨ P2 = [] ∨ ∃ q p Q1' P2', Q1 = Q1' ++ [q] ∧ P2 = p :: P2' ∧ lt q p = true) (h2 : Q2 = [] ∨ P1 = [] ∨ ∃ q p Q2' P1', Q2 = q :: Q2' ∧ P1 = P1' ++ [p] ∧ lt q p = false) :
    mge lt (P1 ++ P2) (Q1 ++ Q2) = mge lt P1 Q1 ++ mge lt P2 Q2 := by
  refine mge_split lt _ _ _ _ _ (Nat.le_refl _) (fun q hq p hp => ?_) (fun q hq p hp => ?_)
  · rcases h1 with rfl | rfl | ⟨q0, p0, Q1', P2', rfl, rfl, h⟩
    · cases hq
    · cases hp
    · have a1 : lt q0 q = false := by
        rcases List.mem_append.1 hq with hq | hq
        · exact (List.pairwise_append.1 (List.pairwise_append.1 hQ).1).2.2 q hq q0 (by simp)
        · rw [List.mem_singleton.1 hq]; exact hs.irr _
      have a2 : lt p p0 = false := by
        rcases List.mem_cons.1 hp with rfl | hp
        · exact hs.irr _
        · exact (List.pairwise_cons.1 (List.pairwise_append.1 hP).2.1).1 p hp
      cases hqp : lt q p with
      | true => rfl
      | false => rw [hs.neg _ _ _ (hs.neg _ _ _ a1 hqp) a2] at h; cases h
  · rcases h2 with rfl | rfl | ⟨q0, p0, Q2', P1', rfl, rfl, h⟩
    · cases hq
    · cases hp
    · have a1 : lt p0 p = false := by
        rcases List.mem_append.1 hp with hp | hp
        · exact (List.pairwise_append.1 (List.pairwise_append.1 hP).1).2.2 p hp p0 (by simp)
        · rw [List.mem_singleton.1 hp]; exact hs.irr _
      have a2 : lt q q0 = false := by
        rcases List.mem_cons.1 hq with rfl | hq
        · exact hs.irr _
        · exact (List.pairwise_cons.1 (List.pairwise_append.1 hQ).2.1).1 q hq
      exact hs.neg _ _ _ (hs.neg _ _ _ a2 h) a1
/-- One is put in between those that it isn't ahead of and those that it is ahead of. -/
theorem mge_put (U V : List α) (x : α) (h1 : ∀ u ∈ U, lt x u = false) (h2 : ∀ v ∈ V, lt x v = true) : mge lt (U ++ V) [x] = U ++ x :: V := by
  have := mge_split lt _ U V [] [x] (Nat.le_refl _) (fun a ha => by cases ha) (fun a ha b hb => by rw [List.mem_singleton.1 ha]; exact h1 b hb)
  rw [List.nil_append] at this
  rw [this, mge_nil']
  cases V with
  | nil => rw [mge_nil]
  | cons v V => rw [mge_lt lt _ _ (h2 v (by simp)), mge_nil']
theorem mge_put' (U V : List α) (x : α) (h1 : ∀ u ∈ U, lt u x = true) (h2 : ∀ v ∈ V, lt v x = false) : mge lt [x] (U ++ V) = U ++ x :: V := by
  have := mge_split lt _ [] [x] U V (Nat.le_refl _) (fun a ha b hb => by rw [List.mem_singleton.1 hb]; exact h1 a ha) (fun a ha b hb => by cases hb)
  rw [List.nil_append] at this
  rw [this, mge_nil]
  cases V with
  | nil => rw [mge_nil']
  | cons v V => rw [mge_ge lt _ _ (h2 v (by simp)), mge_nil]
/-- Put in from the right: the place behind which all are greater. -/
def insR' : List α → α → List α → List α
  | [], x, T => x :: T
  | a :: R, x, T => if lt x a then insR' R x (a :: T) else R.reverse ++ a :: x :: T
theorem insR'_mge (hs : Swo lt) : ∀ (R : List α) (x : α) (T : List α), Srt lt (R.reverse ++ T) → (∀ t ∈ T, lt x t = true) → insR' lt R x T = mge lt (R.reverse ++ T) [x]
  | [], x, T, _, h2 => by rw [insR', List.reverse_nil, mge_put lt [] T x (fun _ h => by cases h) h2]; rfl
  | a :: R, x, T, h1, h2 => by
    rw [insR']
    cases hx : lt x a with
    | true =>
      rw [if_pos rfl, insR'_mge hs R x (a :: T) (by simpa using h1) (fun t ht => by rcases List.mem_cons.1 ht with rfl | ht; exact hx; exact h2 t ht)]
      simp
    | false =>
      rw [if_neg Bool.false_ne_true]
      have := mge_put lt (R.reverse ++ [a]) T x (fun u hu => by
        rcases List.mem_append.1 hu with hu | hu
        · simp only [List.reverse_cons, List.append_assoc, List.singleton_append] at h1
          have h3 := (List.pairwise_append.1 h1).2.2 u hu a (by simp)
          exact hs.neg _ _ _ hx h3
        · rw [List.mem_singleton.1 hu]; exact hx) h2
      simpa using this.symm
theorem insR'_app : ∀ (R : List α) (x : α) (U T : List α), insR' lt R x (U ++ T) = insR' lt R x U ++ T
  | [], x, U, T => rfl
  | a :: R, x, U, T => by
    unfold insR'
    split
    · exact insR'_app R x (a :: U) T
    · simp
end
/-! ### records in cells -/
section
variable {α : Type} (enc : α → List A) (z : Nat)
/-- Records of so many cells, without pointers. -/
structure Enc : Prop where
  len : ∀ a, (enc a).length = z
  plain : ∀ a, (enc a).all A.plain = true
abbrev fg (L : List α) : List A := L.flatMap enc
variable {enc z}
theorem Enc.cp (h : Enc enc z) (a : α) : (enc a).map A.cp1 = enc a := plain_cp (h.plain a)
theorem Enc.norm (h : Enc enc z) (a : α) : (enc a).map A.norm1 = enc a := plain_norm (h.plain a)
theorem Enc.vs (h : Enc enc z) (a : α) : (enc a).all A.isV = true := plain_allV (h.plain a)
theorem Enc.cs (h : Enc enc z) (a : α) : (enc a).all A.isC = true := by
  have := h.vs a
  simp only [List.all_eq_true] at this ⊢
  intro x hx
  have h1 := this x hx
  cases x <;> first | rfl | exact h1 | cases h1
theorem Enc.flen (h : Enc enc z) (L : List α) : (fg enc L).length = L.length * z := len_flat _ z h.len L
theorem Enc.fplain (h : Enc enc z) (L : List α) : (fg enc L).all A.plain = true := plain_flat _ h.plain L
theorem Enc.get (h : Enc enc z) {L : List α} {i : Nat} {x : α} (hx : L[i]? = some x) : ((fg enc L).drop (i * z)).take z = enc x := by
  obtain ⟨hi, rfl⟩ := List.getElem?_eq_some_iff.1 hx
  rw [show (fg enc L).drop (i * z) = enc L[i] ++ (L.drop (i + 1)).flatMap enc from drop_flat _ z h.len L i hi, ← h.len L[i], List.take_left]
theorem Enc.put (h : Enc enc z) {L : List α} {i : Nat} (hi : i < L.length) (y : α) : (fg enc L).take (i * z) ++ (enc y ++ (fg enc L).drop (i * z + z)) = fg enc (L.set i y) := by
  have e1 : L.set i y = L.take i ++ y :: L.drop (i + 1) := List.set_eq_take_append_cons_drop.trans (if_pos hi)
  have e2 : (fg enc L).take (i * z) = (L.take i).flatMap enc := take_flat _ z h.len L i (by omega)
  have e3 : (fg enc L).drop (i * z + z) = (L.drop (i + 1)).flatMap enc := by
    have := drop_flat enc z h.len L i hi
    rw [← List.drop_drop, show (fg enc L).drop (i * z) = _ from this, ← h.len L[i], List.drop_left]
  rw [e1, e2, e3]; simp [fg, List.flatMap_append]
theorem Enc.in' (h : Enc enc z) {L : List α} {i n : Nat} (hi : i < n) : i * z + z ≤ n * z := by
  have : (i + 1) * z ≤ n * z := Nat.mul_le_mul_right z hi
  rw [Nat.add_mul, Nat.one_mul] at this; exact this
/-- Two cells change their places. -/
def sw (L : List α) (i j : Nat) : List α := match L[i]?, L[j]? with
  | some x, some y => (L.set i y).set j x
  | _, _ => L
theorem sw_len (L : List α) (i j : Nat) : (sw L i j).length = L.length := by
  unfold sw; split <;> simp
theorem sw_app (U M V : List α) (x y : α) (i j : Nat) (hi : i = U.length) (hj : j = U.length + 1 + M.length) : sw (U ++ x :: (M ++ y :: V)) i j = U ++ y :: (M ++ x :: V) := by
  subst hi hj
  have h1 : (U ++ x :: (M ++ y :: V))[U.length]? = some x := by simp
  have h2 : (U ++ x :: (M ++ y :: V))[U.length + 1 + M.length]? = some y := by
    rw [List.getElem?_append_right (by omega), show U.length + 1 + M.length - U.length = M.length + 1 by omega]; simp
  unfold sw
  rw [h1, h2]
  show ((U ++ x :: (M ++ y :: V)).set U.length y).set (U.length + 1 + M.length) x = _
  rw [List.set_append_right _ _ (Nat.le_refl _), Nat.sub_self, List.set_cons_zero, List.set_append_right _ _ (by omega), show U.length + 1 + M.length - U.length = M.length + 1 by omega, List.set_cons_succ,
    List.set_append_right _ _ (Nat.le_refl _), Nat.sub_self, List.set_cons_zero]
theorem adj_r (U : List α) (a x : α) (T : List α) (i j : Nat) (hi : i = U.length) (hj : j = i + 1) : ((U ++ a :: x :: T).set j a).set i x = U ++ x :: a :: T := by
  subst hi hj
  rw [List.set_append_right _ _ (by omega), List.set_append_right _ _ (by omega), show U.length + 1 - U.length = 1 by omega, Nat.sub_self]; rfl
theorem adj_l (U : List α) (a x : α) (T : List α) (i j : Nat) (hi : i = U.length) (hj : j = i + 1) : ((U ++ a :: x :: T).set i x).set j a = U ++ x :: a :: T := by
  subst hi hj
  rw [List.set_append_right _ _ (by omega), List.set_append_right _ _ (by omega), show U.length + 1 - U.length = 1 by omega, Nat.sub_self]; rfl
theorem midx (U : List α) (a : α) (V : List α) (i : Nat) (h : i = U.length) : (U ++ a :: V)[i]? = some a := by
  subst h; simp
theorem midx1 (U : List α) (a x : α) (V : List α) (i : Nat) (h : i = U.length + 1) : (U ++ a :: x :: V)[i]? = some x := by
  subst h; rw [List.getElem?_append_right (by omega), show U.length + 1 - U.length = 1 by omega]; rfl
theorem sw_comm (L : List α) (i j : Nat) : sw L i j = sw L j i := by
  unfold sw
  cases hi : L[i]? with
  | none => cases hj : L[j]? <;> rfl
  | some x =>
    cases hj : L[j]? with
    | none => rfl
    | some y =>
      by_cases h : i = j
      · subst h; rw [hi] at hj; cases hj; rfl
      · simp only; rw [List.set_comm _ _ h]
/-- Two stretches change their places, so far. -/
def swr (L : List α) (a b : Nat) : Nat → List α
  | 0 => L
  | i + 1 => sw (swr L a b i) (a + i) (b + i)
theorem swr_len (L : List α) (a b : Nat) : ∀ i, (swr L a b i).length = L.length
  | 0 => rfl
  | i + 1 => by rw [swr, sw_len, swr_len L a b i]
theorem swr_app (U : List α) : ∀ (n : Nat) (X M Y V : List α), X.length = n → Y.length = n → swr (U ++ (X ++ (M ++ (Y ++ V)))) U.length (U.length + X.length + M.length) n = U ++ (Y ++ (M ++ (X ++ V))) := by
  intro n
  induction n with
  | zero => intro X M Y V hX hY; rw [List.length_eq_zero_iff.1 hX, List.length_eq_zero_iff.1 hY]; rfl
  | succ n ih =>
    intro X M Y V hX hY
    obtain ⟨X, x, rfl⟩ : ∃ N x, X = N ++ [x] := ⟨X.dropLast, X.getLast (by intro h; rw [h] at hX; cases hX), (List.dropLast_concat_getLast _).symm⟩
    obtain ⟨Y, y, rfl⟩ : ∃ N x, Y = N ++ [x] := ⟨Y.dropLast, Y.getLast (by intro h; rw [h] at hY; cases hY), (List.dropLast_concat_getLast _).symm⟩
    simp only [List.length_append, List.length_singleton, Nat.add_right_cancel_iff] at hX hY
    have := ih X (x :: M) Y (y :: V) hX hY
    rw [swr]
    simp only [List.append_assoc, List.singleton_append, List.cons_append, List.nil_append, List.length_append, List.length_cons, List.length_nil] at this ⊢
    rw [show U.length + (X.length + (0 + 1)) + M.length = U.length + X.length + (M.length + 1) by omega, this]
    have h2 := sw_app (U ++ Y) (M ++ X) V x y (U.length + n) (U.length + X.length + (M.length + 1) + n) (by simp; omega) (by simp; omega)
    simp only [List.append_assoc] at h2
    exact h2
end
end Go.Proofs.YtgndbkeiickihaaEv
