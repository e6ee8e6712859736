/- slices.SortFunc of few numbers: by putting in. -/
import Derived.Test.YtclebnamhpgdmaaGreatClone
import Derived.KernelRfl
set_option linter.unusedSimpArgs false
set_option linter.unusedVariables false
namespace Go.Proofs.YtclebnamhpgdmaaGreatEv
open Go
set_option maxHeartbeats 2000000
/-! ### putting in -/
def insR (key : Int → Int) : List Int → Int → List Int → List Int
  | [], x, T => x :: T
  | a :: R, x, T => if key x < key a then insR key R x (a :: T) else R.reverse ++ a :: x :: T
theorem insR_perm (key : Int → Int) : ∀ (R : List Int) (x : Int) (T : List Int), (insR key R x T).Perm (R.reverse ++ x :: T)
  | [], x, T => List.Perm.refl _
  | a :: R, x, T => by
    unfold insR
    split
    · refine (insR_perm key R x (a :: T)).trans ?_
      rw [List.reverse_cons, List.append_assoc]
      exact List.Perm.append_left _ (List.Perm.swap ..)
    · rw [List.reverse_cons, List.append_assoc]; exact List.Perm.refl _
theorem insR_append (key : Int → Int) : ∀ (R : List Int) (x : Int) (T : List Int), insR key R x T = insR key R x [] ++ T := by
  have h : ∀ (R : List Int) (x : Int) (U T : List Int), insR key R x (U ++ T) = insR key R x U ++ T := by
    intro R
    induction R with
    | nil => intro x U T; rfl
    | cons a R ih =>
      intro x U T
      unfold insR
      split
      · exact ih x (a :: U) T
      · simp
  intro R x T
  exact h R x [] T
theorem insR_sorted (key : Int → Int) : ∀ (R : List Int) (x : Int) (T : List Int), R.reverse.Pairwise (fun a b => key a ≤ key b) → T.Pairwise (fun a b => key a ≤ key b) → (∀ a ∈ R, ∀ t ∈ T, key a ≤ key t) → (∀ t ∈ T, key x ≤ key t) →
    (insR key R x T).Pairwise (fun a b => key a ≤ key b)
  | [], x, T, _, hT, _, hx => List.Pairwise.cons hx hT
  | a :: R, x, T, hR, hT, hRT, hx => by
    unfold insR
    rw [List.reverse_cons, List.pairwise_append] at hR
    obtain ⟨r1, _, r3⟩ := hR
    split
    · rename_i hlt
      refine insR_sorted key R x (a :: T) r1 (List.Pairwise.cons (fun t ht => hRT a (by simp) t ht) hT) (fun b hb t ht => ?_) (fun t ht => ?_)
      · rcases List.mem_cons.1 ht with rfl | ht
        · exact r3 b (by simpa using hb) t (by simp)
        · exact hRT b (by simp [hb]) t ht
      · rcases List.mem_cons.1 ht with rfl | ht
        · omega
        · exact hx t ht
    · rename_i hge
      rw [List.pairwise_append]
      refine ⟨r1, List.Pairwise.cons (fun t ht => ?_) (List.Pairwise.cons hx hT), fun b hb t ht => ?_⟩
      · rcases List.mem_cons.1 ht with rfl | ht
        · omega
        · exact hRT a (by simp) t ht
      · have h1 := r3 b hb a (by simp)
        rcases List.mem_cons.1 ht with rfl | ht
        · exact h1
        · rcases List.mem_cons.1 ht with rfl | ht
          · omega
          · exact hRT b (by simp; right; simpa using hb) t ht
/-! ### the walk -/
section
variable (f : Nat) (caps : List (Nat × Nat)) (P Q : Bx) (key : Int → Int) (cmp : Int → Int → Int)
def bxS (P Q : Bx) (L : List Int) : Bx := P ++ L.map vi :: Q
structure CmpOk : Prop where
  clean : ∀ L : List Int, Clean (bxS P Q L)
  capsOk : (A.fn f caps).dang (P.length + (Q.length + 1)) = true
  call : ∀ (a b : Int) (L : List Int), ∃ junk, callL tab0 ext0 f (vi a :: vi b :: caps.map fun p => A.ptr p.1 p.2) (bxS P Q L) = some (vi (cmp a b), bxS P Q L ++ junk)
  neg : ∀ a b, cmp a b < 0 ↔ key a < key b
end
theorem put_mid (U V : List A) (b c : A) (k : Nat) (hk : k = U.length) : (U ++ b :: V).take k ++ c :: (U ++ b :: V).drop (k + 1) = U ++ c :: V := by
  subst hk
  rw [List.take_left, ← List.drop_drop, List.drop_left]; rfl
theorem is_loop2 {f : Nat} {caps : List (Nat × Nat)} {P Q : Bx} {key : Int → Int} {cmp : Int → Int → Int} (hk : CmpOk f caps P Q key cmp) (n i : Nat) (hn : n ≤ 50) :
    ∀ (R : List Int) (x : Int) (T : List Int) (e : Env), R.length + T.length + 1 = n → e 0 = .bs P.length n 1 → e 1 = vi 0 → e 2 = vi n → e 3 = .fn f caps → e 8 = vi i → e 9 = vi R.length →
      ∃ e', evL tab0 ext0 (P.length + (Q.length + 1)) L120_2 (e, bxS P Q (R.reverse ++ x :: T)) = some (.ex 2, e', bxS P Q (insR key R x T)) ∧ (e' 0 = .bs P.length n 1 ∧ e' 1 = vi 0 ∧ e' 2 = vi n ∧ e' 3 = .fn f caps ∧ e' 8 = vi i) := by
  intro R
  induction R with
  | nil =>
    intro x T e hl h0 h1 h2 h3 h8 h9
    have hcl := (hk.clean (([] : List Int).reverse ++ x :: T)).2
    have hcp := hk.capsOk
    simp only [A.dang] at hcp
    have e1 : (bxS P Q (([] : List Int).reverse ++ x :: T)).length = P.length + (Q.length + 1) := by simp [bxS]
    rw [e1] at hcl
    have e2 : (bxS P Q (([] : List Int).reverse ++ x :: T)).take (P.length + (Q.length + 1)) = bxS P Q (([] : List Int).reverse ++ x :: T) := by rw [← e1]; exact List.take_length
    have e3 : (bxS P Q (([] : List Int).reverse ++ x :: T)).drop (P.length + (Q.length + 1)) = [] := by rw [← e1]; exact List.drop_length
    have hP : P.length < P.length + (Q.length + 1) := by omega
    have e0 : insR key [] x T = ([] : List Int).reverse ++ x :: T := rfl
    rw [e0]
    generalize bxS P Q (([] : List Int).reverse ++ x :: T) = bx at *
    refine ⟨_, (go120_2 _ _).trans (by simp [B120_2, push_cast, -Int.not_lt, -Int.not_le, ↓evI_call, ↓evI_calli, ↓evI_callv, ↓evI_mxn, loopIn, loopIn0, keepL, emp, A.dang, A.dangC, h0, h1, h2, h3, h8, h9, hcl, hcp, e1, e2, e3, hP, -List.all_eq_true]; rfl), by simp [put_at]⟩
  | cons a R ih =>
    intro x T e hl h0 h1 h2 h3 h8 h9
    obtain ⟨junk, hcall⟩ := hk.call x a ((a :: R).reverse ++ x :: T)
    have haft := aft_vi' (hk.clean ((a :: R).reverse ++ x :: T)) (cmp x a) junk
    have hcl := (hk.clean ((a :: R).reverse ++ x :: T)).2
    have hcp := hk.capsOk
    simp only [A.dang] at hcp
    have e1 : (bxS P Q ((a :: R).reverse ++ x :: T)).length = P.length + (Q.length + 1) := by simp [bxS]
    rw [e1] at hcl haft
    have e2 : (bxS P Q ((a :: R).reverse ++ x :: T)).take (P.length + (Q.length + 1)) = bxS P Q ((a :: R).reverse ++ x :: T) := by rw [← e1]; exact List.take_length
    have e3 : (bxS P Q ((a :: R).reverse ++ x :: T)).drop (P.length + (Q.length + 1)) = [] := by rw [← e1]; exact List.drop_length
    have hP : P.length < P.length + (Q.length + 1) := by omega
    have hnP : ¬ P.length + (Q.length + 1) ≤ P.length := by omega
    -- the box
    have eL : (a :: R).reverse ++ x :: T = R.reverse ++ a :: x :: T := by simp
    have hB : (bxS P Q ((a :: R).reverse ++ x :: T))[P.length]? = some ((R.reverse ++ a :: x :: T).map vi) := by rw [eL]; simp [bxS]
    have b1 : ((R.reverse ++ a :: x :: T).map vi)[R.length]? = some (vi a) := by simp
    have b2 : ((R.reverse ++ a :: x :: T).map vi)[R.length + 1]? = some (vi x) := by simp [List.getElem?_append_right]
    have hl0 : R.length + 1 + T.length + 1 = n := by simpa using hl
    have gb1 : ∀ h, ((R.reverse ++ a :: x :: T).map vi)[R.length]'h = vi a := fun h => by have := b1; rw [List.getElem?_eq_getElem h] at this; exact Option.some.inj this
    have gb2 : ∀ h, ((R.reverse ++ a :: x :: T).map vi)[R.length + 1]'h = vi x := fun h => by have := b2; rw [List.getElem?_eq_getElem h] at this; exact Option.some.inj this
    have hj : IntKind.wrap .i64 ((R.length : Int) + 1 - 1) = R.length := by rw [wrap_in _ (by omega) (by omega)]; omega
    have hj2 : IntKind.wrap .i64 (R.length : Int) = R.length := wrap_in _ (by omega) (by omega)
    have hpos : (0 : Int) < (R.length : Int) + 1 := by omega
    have hl1 : R.length + 1 < n := by simp at hl; omega
    have hl2 : R.length < n := by omega
    have hneg := hk.neg x a
    have gB : ∀ h, (bxS P Q ((a :: R).reverse ++ x :: T))[P.length]'h = (R.reverse ++ a :: x :: T).map vi := fun h => by have := hB; rw [List.getElem?_eq_getElem h] at this; exact Option.some.inj this
    simp only [List.length_cons] at h9
    have h9' : e 9 = vi ((R.length : Int) + 1) := by rw [h9]; push_cast; rfl
    by_cases hlt : key x < key a
    · have c1 : cmp x a < 0 := hneg.2 hlt
      have lenB : ((R.reverse ++ a :: x :: T).map vi).length = n := by simp at hl ⊢; omega
      have s1 : (((R.reverse ++ a :: x :: T).map vi).take (R.length + 1) ++ vi a :: ((R.reverse ++ a :: x :: T).map vi).drop (R.length + 1 + 1)) = (R.reverse ++ a :: a :: T).map vi := by
        have := put_mid ((R.reverse ++ [a]).map vi) (T.map vi) (vi x) (vi a) (R.length + 1) (by simp)
        simpa using this
      have s2 : (((R.reverse ++ a :: a :: T).map vi).take R.length ++ vi x :: ((R.reverse ++ a :: a :: T).map vi).drop (R.length + 1)) = (R.reverse ++ x :: a :: T).map vi := by
        have := put_mid (R.reverse.map vi) ((a :: T).map vi) (vi a) (vi x) R.length (by simp)
        simpa using this
      have lenB2 : ((R.reverse ++ a :: a :: T).map vi).length = n := by simp at hl ⊢; omega
      have g1 : (bxS P Q ((a :: R).reverse ++ x :: T)).set P.length ((R.reverse ++ a :: a :: T).map vi) = bxS P Q (R.reverse ++ a :: a :: T) := by rw [eL]; simp [bxS]
      have g2 : (bxS P Q (R.reverse ++ a :: a :: T)).set P.length ((R.reverse ++ x :: a :: T).map vi) = bxS P Q (R.reverse ++ x :: a :: T) := by simp [bxS]
      have g3 : (bxS P Q (R.reverse ++ a :: a :: T))[P.length]? = some ((R.reverse ++ a :: a :: T).map vi) := by simp [bxS]
      have gB2 : ∀ h, (bxS P Q (R.reverse ++ a :: a :: T))[P.length]'h = (R.reverse ++ a :: a :: T).map vi := fun h => by have := g3; rw [List.getElem?_eq_getElem h] at this; exact Option.some.inj this
      have hins : insR key (a :: R) x T = insR key R x (a :: T) := by rw [insR, if_pos hlt]
      rw [hins]
      have ih' := ih x (a :: T)
      generalize bxS P Q ((a :: R).reverse ++ x :: T) = bx at *
      generalize (R.reverse ++ a :: x :: T).map vi = B at *
      generalize (R.reverse ++ a :: a :: T).map vi = B2 at *
      generalize (R.reverse ++ x :: a :: T).map vi = B3 at *
      generalize bxS P Q (R.reverse ++ a :: a :: T) = bx2 at *
      have k1 : R.length + 1 + 1 ≤ n := by omega
      have k2 : R.length + 1 ≤ n := by omega
      have q1 : (0 : Int) ≤ (R.length : Int) + 1 := by omega
      have q2 : (R.length : Int) + 1 < n := by omega
      have q3 : (R.length : Int) < n := by omega
      have q4 : (0 : Int) ≤ R.length := by omega
      have q5 : ((R.length : Int) + 1).toNat = R.length + 1 := by omega
      obtain ⟨e2', k3, k4⟩ := ih' (put 9 (vi R.length) (put 0 (.bs P.length n 1) (put 1 (vi 0) (put 2 (vi n) (put 3 (.fn f caps) (put 8 (vi i) emp)))))) (by simp at hl ⊢; omega) (by simp [put_at]) (by simp [put_at]) (by simp [put_at]) (by simp [put_at]) (by simp [put_at]) (by simp [put_at])
      refine ⟨e2', ?_, k4⟩
      rw [← k3]
      refine (go120_2 _ _).trans ?_
      simp [B120_2, push_cast, -Int.not_lt, -Int.not_le, ↓evI_call, ↓evI_calli, ↓evI_callv, ↓evI_mxn, loopIn, loopIn0, keepL, emp, A.dang, A.dangC, h0, h1, h2, h3, h8, h9', hcl, hcp, e1, e2, e3, hP, hnP, hB, gB, gB2, gb1, gb2, b1, b2, hj, hj2, hpos, hl1, hl2, hcall, haft, c1, s1, s2, g1, g2, g3, lenB, lenB2, k1, k2, q1, q2, q3, q4, q5, -List.all_eq_true]
      exact loop_env (by simp [put_at])
    · have c1 : ¬ cmp x a < 0 := fun h => hlt (hneg.1 h)
      have hins : insR key (a :: R) x T = (a :: R).reverse ++ x :: T := by rw [insR, if_neg hlt]; simp
      rw [hins]
      have q1 : (0 : Int) ≤ (R.length : Int) + 1 := by omega
      have q2 : (R.length : Int) + 1 < n := by omega
      have q3 : (R.length : Int) < n := by omega
      have q4 : (0 : Int) ≤ R.length := by omega
      have q5 : ((R.length : Int) + 1).toNat = R.length + 1 := by omega
      generalize bxS P Q ((a :: R).reverse ++ x :: T) = bx at *
      generalize (R.reverse ++ a :: x :: T).map vi = B at *
      refine ⟨_, (go120_2 _ _).trans (by simp [B120_2, push_cast, -Int.not_lt, -Int.not_le, ↓evI_call, ↓evI_calli, ↓evI_callv, ↓evI_mxn, loopIn, loopIn0, keepL, emp, A.dang, A.dangC, h0, h1, h2, h3, h8, h9', hcl, hcp, e1, e2, e3, hP, hnP, hB, gB, b1, b2, hj, hj2, hpos, hl1, hl2, hcall, haft, c1, q1, q2, q3, q4, q5, -List.all_eq_true]; rfl), by simp [put_at]⟩
theorem is_loop0 {f : Nat} {caps : List (Nat × Nat)} {P Q : Bx} {key : Int → Int} {cmp : Int → Int → Int} (hk : CmpOk f caps P Q key cmp) (n : Nat) (hn : n ≤ 50) :
    ∀ (d i : Nat) (L : List Int) (e : Env), i + d = n → L.length = n → (L.take i).Pairwise (fun a b => key a ≤ key b) → e 0 = .bs P.length n 1 → e 1 = vi 0 → e 2 = vi n → e 3 = .fn f caps → e 8 = vi i →
      ∃ e' L', evL tab0 ext0 (P.length + (Q.length + 1)) L120_0 (e, bxS P Q L) = some (.ex 0, e', bxS P Q L') ∧ L'.Perm L ∧ L'.Pairwise (fun a b => key a ≤ key b) := by
  intro d
  induction d with
  | zero =>
    intro i L e hi hL hs h0 h1 h2 h3 h8
    have hcl := (hk.clean L).2
    have hcp := hk.capsOk
    simp only [A.dang] at hcp
    have e1 : (bxS P Q L).length = P.length + (Q.length + 1) := by simp [bxS]
    rw [e1] at hcl
    have e2 : (bxS P Q L).take (P.length + (Q.length + 1)) = bxS P Q L := by rw [← e1]; exact List.take_length
    have e3 : (bxS P Q L).drop (P.length + (Q.length + 1)) = [] := by rw [← e1]; exact List.drop_length
    have hP : P.length < P.length + (Q.length + 1) := by omega
    obtain rfl : i = n := by omega
    refine ⟨_, L, (go120_0 _ _).trans (by simp [B120_0, push_cast, -Int.not_lt, -Int.not_le, ↓evI_call, ↓evI_calli, ↓evI_callv, ↓evI_mxn, loopIn, loopIn0, keepL, emp, A.dang, A.dangC, h0, h1, h2, h3, h8, hcl, hcp, e1, e2, e3, hP, -List.all_eq_true]; rfl), List.Perm.refl _, ?_⟩
    rw [← hL, List.take_length] at hs; exact hs
  | succ d ih =>
    intro i L e hi hL hs h0 h1 h2 h3 h8
    have hil : i < L.length := by omega
    have hcl := (hk.clean L).2
    have hcp := hk.capsOk
    simp only [A.dang] at hcp
    have e1 : (bxS P Q L).length = P.length + (Q.length + 1) := by simp [bxS]
    rw [e1] at hcl
    have e2 : (bxS P Q L).take (P.length + (Q.length + 1)) = bxS P Q L := by rw [← e1]; exact List.take_length
    have e3 : (bxS P Q L).drop (P.length + (Q.length + 1)) = [] := by rw [← e1]; exact List.drop_length
    have hP : P.length < P.length + (Q.length + 1) := by omega
    have eL : (L.take i).reverse.reverse ++ L[i] :: L.drop (i + 1) = L := by rw [List.reverse_reverse, ← List.drop_eq_getElem_cons hil, List.take_append_drop]
    have hin := is_loop2 hk n i hn (L.take i).reverse L[i] (L.drop (i + 1))
    have hlen : (L.take i).reverse.length = i := by simp; omega
    rw [eL, hlen] at hin
    have hc : (i : Int) < n := by omega
    have hw : IntKind.wrap .i64 ((i : Int) + 1) = (i : Int) + 1 := wrap_in _ (by omega) (by omega)
    have hp := insR_perm key (L.take i).reverse L[i] (L.drop (i + 1))
    rw [eL] at hp
    have hs2 := insR_sorted key (L.take i).reverse L[i] [] (by rw [List.reverse_reverse]; exact hs) List.Pairwise.nil (fun _ _ _ h => by cases h) (fun _ h => by cases h)
    have ha := insR_append key (L.take i).reverse L[i] (L.drop (i + 1))
    have hpl := (insR_perm key (L.take i).reverse L[i] []).length_eq
    have hlp : (insR key (L.take i).reverse L[i] []).length = i + 1 := by rw [hpl]; simp; omega
    have ht : (insR key (L.take i).reverse L[i] (L.drop (i + 1))).take (i + 1) = insR key (L.take i).reverse L[i] [] := by rw [ha, ← hlp]; exact List.take_left
    rw [← ht] at hs2
    obtain ⟨e2', k1, k2, k3, k4, k5, k6⟩ := hin (put 9 (vi i) (put 0 (.bs P.length n 1) (put 1 (vi 0) (put 2 (vi n) (put 3 (.fn f caps) (put 8 (vi i) emp)))))) (by simp; omega) (by simp [put_at]) (by simp [put_at]) (by simp [put_at]) (by simp [put_at]) (by simp [put_at]) (by simp [put_at])
    have hl2 : (insR key (L.take i).reverse L[i] (L.drop (i + 1))).length = n := by rw [hp.length_eq]; exact hL
    generalize insR key (L.take i).reverse L[i] (L.drop (i + 1)) = L2 at *
    obtain ⟨e3', L', m1, m2, m3⟩ := ih (i + 1) L2 (put 8 (vi (i + 1 : Nat)) e2') (by omega) hl2 hs2 (by simp [put_at, k2]) (by simp [put_at, k3]) (by simp [put_at, k4]) (by simp [put_at, k5]) (by simp [put_at])
    refine ⟨e3', L', ?_, m2.trans hp, m3⟩
    rw [← m1]
    refine (go120_0 _ _).trans ?_
    generalize hbx : bxS P Q L = bx at *
    simp [B120_0, push_cast, -Int.not_lt, -Int.not_le, ↓evI_call, ↓evI_calli, ↓evI_callv, ↓evI_mxn, loopIn, loopIn0, keepL, emp, A.dang, A.dangC, h0, h1, h2, h3, h8, hcl, hcp, e1, e2, e3, hP, hc, -List.all_eq_true]
    refine behind (Q := fun a => a = (.ex 2, e2', bxS P Q L2)) ⟨_, Eq.trans (loop_env (by simp [put_at])) k1, rfl⟩ ?_
    rintro _ rfl
    simp [push_cast, -Int.not_lt, -Int.not_le, ↓evI_call, ↓evI_calli, ↓evI_callv, ↓evI_mxn, k2, k3, k4, k5, k6, hw]
    exact loop_env (by simp [put_at, k2, k3, k4, k5, k6])
theorem is_call {f : Nat} {caps : List (Nat × Nat)} {P Q : Bx} {key : Int → Int} {cmp : Int → Int → Int} (hk : CmpOk f caps P Q key cmp) (L : List Int) (hn : L.length ≤ 50) :
    ∃ L', callL tab0 ext0 120 [.bs P.length L.length 1, vi 0, vi L.length, .fn f caps] (bxS P Q L) = some (.tup [], bxS P Q L') ∧ L'.Perm L ∧ L'.Pairwise (fun a b => key a ≤ key b) := by
  have e1 : (bxS P Q L).length = P.length + (Q.length + 1) := by simp [bxS]
  rw [callL_tab _ _ rfl tab120 rfl, e1]
  by_cases hz : L.length = 0
  · refine ⟨L, ?_, List.Perm.refl _, by rw [List.length_eq_zero_iff.1 hz]; exact List.Pairwise.nil⟩
    have hcl := (hk.clean L).2
    have hcp := hk.capsOk
    simp only [A.dang] at hcp
    rw [e1] at hcl
    have e2 : (bxS P Q L).take (P.length + (Q.length + 1)) = bxS P Q L := by rw [← e1]; exact List.take_length
    have e3 : (bxS P Q L).drop (P.length + (Q.length + 1)) = [] := by rw [← e1]; exact List.drop_length
    have hP : P.length < P.length + (Q.length + 1) := by omega
    have w1 : IntKind.wrap .i64 1 = 1 := by decide
    rw [hz]
    generalize bxS P Q L = bx at *
    simp [C120, w1, push_cast, -Int.not_lt, -Int.not_le, ↓evI_call, ↓evI_calli, ↓evI_callv, ↓evI_mxn, loopIn, loopIn0, keepL, emp, A.dang, A.dangC, go120_0, B120_0, hcl, hcp, e1, e2, e3, hP, -List.all_eq_true]
  · have hs : (L.take 1).Pairwise (fun a b => key a ≤ key b) := by
      rcases L with _ | ⟨a, L⟩
      · exact List.Pairwise.nil
      · exact List.pairwise_singleton _ _
    obtain ⟨e', L', k1, k2, k3⟩ := is_loop0 hk L.length hn (L.length - 1) 1 L (put 8 (vi (1 : Nat)) (put 0 (.bs P.length L.length 1) (put 1 (vi 0) (put 2 (vi L.length) (put 3 (.fn f caps) emp))))) (by omega) rfl hs (by simp [put_at]) (by simp [put_at]) (by simp [put_at]) (by simp [put_at]) (by simp [put_at])
    refine ⟨L', ?_, k2, k3⟩
    have w1 : IntKind.wrap .i64 1 = 1 := by decide
    simp [C120, w1, push_cast, -Int.not_lt, -Int.not_le, ↓evI_call, ↓evI_calli, ↓evI_callv, ↓evI_mxn]
    refine behind (Q := fun a => a = (.ex 0, e', bxS P Q L')) ⟨_, Eq.trans (loop_env (by simp [put_at])) k1, rfl⟩ ?_
    rintro _ rfl
    simp [push_cast, -Int.not_lt, -Int.not_le, ↓evI_call, ↓evI_calli, ↓evI_callv, ↓evI_mxn]
theorem pdq_call {f : Nat} {caps : List (Nat × Nat)} {P Q : Bx} {key : Int → Int} {cmp : Int → Int → Int} (hk : CmpOk f caps P Q key cmp) (L : List Int) (hn : L.length ≤ 12) (lim : Int) :
    ∃ L', callL tab0 ext0 117 [.bs P.length L.length 1, vi 0, vi L.length, vi lim, .fn f caps] (bxS P Q L) = some (.tup [], bxS P Q L') ∧ L'.Perm L ∧ L'.Pairwise (fun a b => key a ≤ key b) := by
  have e1 : (bxS P Q L).length = P.length + (Q.length + 1) := by simp [bxS]
  obtain ⟨L', k1, k2, k3⟩ := is_call hk L (by omega)
  refine ⟨L', ?_, k2, k3⟩
  rw [callL_tab _ _ rfl tab117 rfl, e1]
  have hcl := (hk.clean L).2
  have hcp := hk.capsOk
  simp only [A.dang] at hcp
  rw [e1] at hcl
  have e2 : (bxS P Q L).take (P.length + (Q.length + 1)) = bxS P Q L := by rw [← e1]; exact List.take_length
  have e3 : (bxS P Q L).drop (P.length + (Q.length + 1)) = [] := by rw [← e1]; exact List.drop_length
  have hP : P.length < P.length + (Q.length + 1) := by omega
  have ha := aft_clean (hk.clean L') (v := .tup []) rfl
  have e4 : (bxS P Q L').length = P.length + (Q.length + 1) := by simp [bxS]
  rw [e4] at ha
  have hw : IntKind.wrap .i64 (L.length : Int) = L.length := wrap_in _ (by omega) (by omega)
  have hn' : (L.length : Int) ≤ 12 := by omega
  generalize bxS P Q L = bx at *
  generalize bxS P Q L' = bx' at *
  simp [C117, push_cast, -Int.not_lt, -Int.not_le, ↓evI_call, ↓evI_calli, ↓evI_callv, ↓evI_mxn, loopIn, loopIn0, keepL, emp, A.dang, A.dangC, go117_0, B117_0, hcl, hcp, e1, e2, e3, hP, hw, hn', k1, ha, -List.all_eq_true]
def intOf : Option (A × Bx) → Option Int
  | some (.val (.int .i64 v), _) => some v
  | _ => none
theorem intOf_some {r : Option (A × Bx)} {v : Int} (h : intOf r = some v) : ∃ bx, r = some (vi v, bx) := by
  unfold intOf at h
  split at h
  · cases h; exact ⟨_, rfl⟩
  · cases h
/-- How many bits so few have. -/
theorem len_few (n : Nat) (h : n ≤ 12) : ∃ v, pureOf (callL tab0 ext0) false 118 [.val (.int .u64 n)] = some (vi v) := by
  have key : ∃ v, intOf (callOf tab0 ext0 (evK tab0 ext0 60) 118 [.val (.int .u64 n)] []) = some v := by
    rcases (by omega : n = 0 ∨ n = 1 ∨ n = 2 ∨ n = 3 ∨ n = 4 ∨ n = 5 ∨ n = 6 ∨ n = 7 ∨ n = 8 ∨ n = 9 ∨ n = 10 ∨ n = 11 ∨ n = 12) with rfl | rfl | rfl | rfl | rfl | rfl | rfl | rfl | rfl | rfl | rfl | rfl | rfl
    · exact ⟨0, by kernel_rfl⟩
    · exact ⟨1, by kernel_rfl⟩
    · exact ⟨2, by kernel_rfl⟩
    · exact ⟨2, by kernel_rfl⟩
    · exact ⟨3, by kernel_rfl⟩
    · exact ⟨3, by kernel_rfl⟩
    · exact ⟨3, by kernel_rfl⟩
    · exact ⟨3, by kernel_rfl⟩
    · exact ⟨4, by kernel_rfl⟩
    · exact ⟨4, by kernel_rfl⟩
    · exact ⟨4, by kernel_rfl⟩
    · exact ⟨4, by kernel_rfl⟩
    · exact ⟨4, by kernel_rfl⟩
  obtain ⟨v, h⟩ := key
  obtain ⟨bx, h⟩ := intOf_some h
  exact ⟨v, pureOf_eq ((callL_iff ..).2 ⟨60, h⟩) rfl⟩
theorem sf_call {f : Nat} {caps : List (Nat × Nat)} {P Q : Bx} {key : Int → Int} {cmp : Int → Int → Int} (hk : CmpOk f caps P Q key cmp) (L : List Int) (hn : L.length ≤ 12) :
    ∃ L', callL tab0 ext0 112 [.bs P.length L.length 1, .fn f caps] (bxS P Q L) = some (.tup [], bxS P Q L') ∧ L'.Perm L ∧ L'.Pairwise (fun a b => key a ≤ key b) := by
  have e1 : (bxS P Q L).length = P.length + (Q.length + 1) := by simp [bxS]
  obtain ⟨v, hv⟩ := len_few L.length hn
  obtain ⟨L', k1, k2, k3⟩ := pdq_call hk L hn v
  refine ⟨L', ?_, k2, k3⟩
  rw [callL_tab _ _ rfl tab112 rfl, e1]
  have ha := aft_clean (hk.clean L') (v := .tup []) rfl
  have e4 : (bxS P Q L').length = P.length + (Q.length + 1) := by simp [bxS]
  rw [e4] at ha
  have hwu : IntKind.wrap .u64 (L.length : Int) = L.length := by
    have e : IntKind.u64.wrap (L.length : Int) = (L.length : Int) % 18446744073709551616 := by simp [IntKind.wrap, IntKind.bits, IntKind.signed]
    rw [e]; omega
  generalize bxS P Q L = bx at *
  generalize bxS P Q L' = bx' at *
  simp [C112, push_cast, -Int.not_lt, -Int.not_le, ↓evI_call, ↓evI_calli, ↓evI_callv, ↓evI_mxn, hv, hwu, k1, ha, e1]
end Go.Proofs.YtclebnamhpgdmaaGreatEv
