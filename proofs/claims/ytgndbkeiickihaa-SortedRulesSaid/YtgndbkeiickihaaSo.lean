/- slices.SortFunc of few numbers: by putting in. -/
import Derived.Test.YtgndbkeiickihaaLib
import Derived.KernelRfl
import Derived.Test.YtgndbkeiickihaaGd
set_option linter.unusedSimpArgs false
set_option linter.unusedVariables false
namespace Go.Proofs.YtgndbkeiickihaaEv
open Go
set_option maxHeartbeats 2000000
/-! ### putting in -/
def insR (key : Int → Int) : List Int → Int → List Int → List Int
  | [], x, T => x :: T
  | a :: R, x, T => if key x < key a then insR key R x (a :: T) else R.reverse ++ a :: x :: T
theorem insR_perm (key : Int → Int) : ∀ (R : List Int) (x : Int) (T : List Int), (insR key R x T).Perm (R.reverse ++ x :: T)
  | [], x, T => List.Perm.refl _
  | a :: R, x, T => by
    unfold insR
    split
    · refine (insR_perm key R x (a :: T)).trans ?_
      rw [List.reverse_cons, List.append_assoc]
      exact List.Perm.append_left _ (List.Perm.swap ..)
    · rw [List.reverse_cons, List.append_assoc]; exact List.Perm.refl _
theorem insR_append (key : Int → Int) : ∀ (R : List Int) (x : Int) (T : List Int), insR key R x T = insR key R x [] ++ T := by
  have h : ∀ (R : List Int) (x : Int) (U T : List Int), insR key R x (U ++ T) = insR key R x U ++ T := by
    intro R
    induction R with
    | nil => intro x U T; rfl
    | cons a R ih =>
      intro x U T
      unfold insR
      split
      · exact ih x (a :: U) T
      · simp
  intro R x T
  exact h R x [] T
theorem insR_sorted (key : Int → Int) : ∀ (R : List Int) (x : Int) (T : List Int), R.reverse.Pairwise (fun a b => key a ≤ key b) → T.Pairwise (fun a b => key a ≤ key b) → (∀ a ∈ R, ∀ t ∈ T, key a ≤ key t) → (∀ t ∈ T, key x ≤ key t) →
    (insR key R x T).Pairwise (fun a b => key a ≤ key b)
  | [], x, T, _, hT, _, hx => List.Pairwise.cons hx hT
  | a :: R, x, T, hR, hT, hRT, hx => by
    unfold insR
    rw [List.reverse_cons, List.pairwise_append] at hR
    obtain ⟨r1, _, r3⟩ := hR
    split
    · rename_i hlt
      refine insR_sorted key R x (a :: T) r1 (List.Pairwise.cons (fun t ht => hRT a (by simp) t ht) hT) (fun b hb t ht => ?_) (fun t ht => ?_)
      · rcases List.mem_cons.1 ht with rfl | ht
        · exact r3 b (by simpa using hb) t (by simp)
        · exact hRT b (by simp [hb]) t ht
      · rcases List.mem_cons.1 ht with rfl | ht
        · omega
        · exact hx t ht
    · rename_i hge
      rw [List.pairwise_append]
      refine ⟨r1, List.Pairwise.cons (fun t ht => ?_) (List.Pairwise.cons hx hT), fun b hb t ht => ?_⟩
      · rcases List.mem_cons.1 ht with rfl | ht
        · omega
        · exact hRT a (by simp) t ht
      · have h1 := r3 b hb a (by simp)
        rcases List.mem_cons.1 ht with rfl | ht
        · exact h1
        · rcases List.mem_cons.1 ht with rfl | ht
          · omega
          · exact hRT b (by simp; right; simpa using hb) t ht
/-! ### the walk -/
section
variable (f : Nat) (caps : List (Nat × Nat)) (P Q : Bx) (key : Int → Int) (cmp : Int → Int → Int)
def bxS (P Q : Bx) (L : List Int) : Bx := P ++ L.map vi :: Q
structure CmpOk : Prop where
  clean : ∀ L : List Int, Clean (bxS P Q L)
  capsOk : (A.fn f caps).dang (P.length + (Q.length + 1)) = true
  call : ∀ (a b : Int) (L : List Int), ∃ junk, callL tab0 ext0 f (vi a :: vi b :: caps.map fun p => A.ptr p.1 p.2) (bxS P Q L) = some (vi (cmp a b), bxS P Q L ++ junk)
  neg : ∀ a b, cmp a b < 0 ↔ key a < key b
end
theorem put_mid (U V : List A) (b c : A) (k : Nat) (hk : k = U.length) : (U ++ b :: V).take k ++ c :: (U ++ b :: V).drop (k + 1) = U ++ c :: V := by
  subst hk
  rw [List.take_left, ← List.drop_drop, List.drop_left]; rfl
theorem is_loop2 {f : Nat} {caps : List (Nat × Nat)} {P Q : Bx} {key : Int → Int} {cmp : Int → Int → Int} (hk : CmpOk f caps P Q key cmp) (n i : Nat) (hn : n ≤ 50) :
    ∀ (R : List Int) (x : Int) (T : List Int) (e : Env), R.length + T.length + 1 = n → e 0 = .bs P.length n 1 → e 1 = vi 0 → e 2 = vi n → e 3 = .fn f caps → e 8 = vi i → e 9 = vi R.length →
      ∃ e', evL tab0 ext0 (P.length + (Q.length + 1)) L67_2 (e, bxS P Q (R.reverse ++ x :: T)) = some (.ex 2, e', bxS P Q (insR key R x T)) ∧ (e' 0 = .bs P.length n 1 ∧ e' 1 = vi 0 ∧ e' 2 = vi n ∧ e' 3 = .fn f caps ∧ e' 8 = vi i) := by
  intro R
  induction R with
  | nil =>
    intro x T e hl h0 h1 h2 h3 h8 h9
    have hcl := (hk.clean (([] : List Int).reverse ++ x :: T)).2
    have hcp := hk.capsOk
    simp only [A.dang] at hcp
    have e1 : (bxS P Q (([] : List Int).reverse ++ x :: T)).length = P.length + (Q.length + 1) := by simp [bxS]
    rw [e1] at hcl
    have e2 : (bxS P Q (([] : List Int).reverse ++ x :: T)).take (P.length + (Q.length + 1)) = bxS P Q (([] : List Int).reverse ++ x :: T) := by rw [← e1]; exact List.take_length
    have e3 : (bxS P Q (([] : List Int).reverse ++ x :: T)).drop (P.length + (Q.length + 1)) = [] := by rw [← e1]; exact List.drop_length
    have hP : P.length < P.length + (Q.length + 1) := by omega
    have e0 : insR key [] x T = ([] : List Int).reverse ++ x :: T := rfl
    rw [e0]
    generalize bxS P Q (([] : List Int).reverse ++ x :: T) = bx at *
    refine ⟨_, (go67_2 _ _).trans (by simp [B67_2, push_cast, -Int.not_lt, -Int.not_le, ↓evI_call, ↓evI_calli, ↓evI_calln, ↓evI_callz, ↓evI_callv, ↓evI_mxn, loopIn, loopIn0, keepL, emp, A.dang, A.dangC, h0, h1, h2, h3, h8, h9, hcl, hcp, e1, e2, e3, hP, -List.all_eq_true]; rfl), by simp [put_at]⟩
  | cons a R ih =>
    intro x T e hl h0 h1 h2 h3 h8 h9
    obtain ⟨junk, hcall⟩ := hk.call x a ((a :: R).reverse ++ x :: T)
    have haft := aft_vi' (hk.clean ((a :: R).reverse ++ x :: T)) (cmp x a) junk
    have hcl := (hk.clean ((a :: R).reverse ++ x :: T)).2
    have hcp := hk.capsOk
    simp only [A.dang] at hcp
    have e1 : (bxS P Q ((a :: R).reverse ++ x :: T)).length = P.length + (Q.length + 1) := by simp [bxS]
    rw [e1] at hcl haft
    have e2 : (bxS P Q ((a :: R).reverse ++ x :: T)).take (P.length + (Q.length + 1)) = bxS P Q ((a :: R).reverse ++ x :: T) := by rw [← e1]; exact List.take_length
    have e3 : (bxS P Q ((a :: R).reverse ++ x :: T)).drop (P.length + (Q.length + 1)) = [] := by rw [← e1]; exact List.drop_length
    have hP : P.length < P.length + (Q.length + 1) := by omega
    have hnP : ¬ P.length + (Q.length + 1) ≤ P.length := by omega
    -- the box
    have eL : (a :: R).reverse ++ x :: T = R.reverse ++ a :: x :: T := by simp
    have hB : (bxS P Q ((a :: R).reverse ++ x :: T))[P.length]? = some ((R.reverse ++ a :: x :: T).map vi) := by rw [eL]; simp [bxS]
    have b1 : ((R.reverse ++ a :: x :: T).map vi)[R.length]? = some (vi a) := by simp
    have b2 : ((R.reverse ++ a :: x :: T).map vi)[R.length + 1]? = some (vi x) := by simp [List.getElem?_append_right]
    have hl0 : R.length + 1 + T.length + 1 = n := by simpa using hl
    have gb1 : ∀ h, ((R.reverse ++ a :: x :: T).map vi)[R.length]'h = vi a := fun h => by have := b1; rw [List.getElem?_eq_getElem h] at this; exact Option.some.inj this
    have gb2 : ∀ h, ((R.reverse ++ a :: x :: T).map vi)[R.length + 1]'h = vi x := fun h => by have := b2; rw [List.getElem?_eq_getElem h] at this; exact Option.some.inj this
    have hj : IntKind.wrap .i64 ((R.length : Int) + 1 - 1) = R.length := by rw [wrap_in _ (by omega) (by omega)]; omega
    have hj2 : IntKind.wrap .i64 (R.length : Int) = R.length := wrap_in _ (by omega) (by omega)
    have hpos : (0 : Int) < (R.length : Int) + 1 := by omega
    have hl1 : R.length + 1 < n := by simp at hl; omega
    have hl2 : R.length < n := by omega
    have hneg := hk.neg x a
    have gB : ∀ h, (bxS P Q ((a :: R).reverse ++ x :: T))[P.length]'h = (R.reverse ++ a :: x :: T).map vi := fun h => by have := hB; rw [List.getElem?_eq_getElem h] at this; exact Option.some.inj this
    simp only [List.length_cons] at h9
    have h9' : e 9 = vi ((R.length : Int) + 1) := by rw [h9]; push_cast; rfl
    by_cases hlt : key x < key a
    · have c1 : cmp x a < 0 := hneg.2 hlt
      have lenB : ((R.reverse ++ a :: x :: T).map vi).length = n := by simp at hl ⊢; omega
      have s1 : (((R.reverse ++ a :: x :: T).map vi).take (R.length + 1) ++ vi a :: ((R.reverse ++ a :: x :: T).map vi).drop (R.length + 1 + 1)) = (R.reverse ++ a :: a :: T).map vi := by
        have := put_mid ((R.reverse ++ [a]).map vi) (T.map vi) (vi x) (vi a) (R.length + 1) (by simp)
        simpa using this
      have s2 : (((R.reverse ++ a :: a :: T).map vi).take R.length ++ vi x :: ((R.reverse ++ a :: a :: T).map vi).drop (R.length + 1)) = (R.reverse ++ x :: a :: T).map vi := by
        have := put_mid (R.reverse.map vi) ((a :: T).map vi) (vi a) (vi x) R.length (by simp)
        simpa using this
      have lenB2 : ((R.reverse ++ a :: a :: T).map vi).length = n := by simp at hl ⊢; omega
      have g1 : (bxS P Q ((a :: R).reverse ++ x :: T)).set P.length ((R.reverse ++ a :: a :: T).map vi) = bxS P Q (R.reverse ++ a :: a :: T) := by rw [eL]; simp [bxS]
      have g2 : (bxS P Q (R.reverse ++ a :: a :: T)).set P.length ((R.reverse ++ x :: a :: T).map vi) = bxS P Q (R.reverse ++ x :: a :: T) := by simp [bxS]
      have g3 : (bxS P Q (R.reverse ++ a :: a :: T))[P.length]? = some ((R.reverse ++ a :: a :: T).map vi) := by simp [bxS]
      have gB2 : ∀ h, (bxS P Q (R.reverse ++ a :: a :: T))[P.length]'h = (R.reverse ++ a :: a :: T).map vi := fun h => by have := g3; rw [List.getElem?_eq_getElem h] at this; exact Option.some.inj this
      have hins : insR key (a :: R) x T = insR key R x (a :: T) := by rw [insR, if_pos hlt]
      rw [hins]
      have ih' := ih x (a :: T)
      generalize bxS P Q ((a :: R).reverse ++ x :: T) = bx at *
      generalize (R.reverse ++ a :: x :: T).map vi = B at *
      generalize (R.reverse ++ a :: a :: T).map vi = B2 at *
      generalize (R.reverse ++ x :: a :: T).map vi = B3 at *
      generalize bxS P Q (R.reverse ++ a :: a :: T) = bx2 at *
      have k1 : R.length + 1 + 1 ≤ n := by omega
      have k2 : R.length + 1 ≤ n := by omega
      have q1 : (0 : Int) ≤ (R.length : Int) + 1 := by omega
      have q2 : (R.length : Int) + 1 < n := by omega
      have q3 : (R.length : Int) < n := by omega
      have q4 : (0 : Int) ≤ R.length := by omega
      have q5 : ((R.length : Int) + 1).toNat = R.length + 1 := by omega
      obtain ⟨e2', k3, k4⟩ := ih' (put 9 (vi R.length) (put 0 (.bs P.length n 1) (put 1 (vi 0) (put 2 (vi n) (put 3 (.fn f caps) (put 8 (vi i) emp)))))) (by simp at hl ⊢; omega) (by simp [put_at]) (by simp [put_at]) (by simp [put_at]) (by simp [put_at]) (by simp [put_at]) (by simp [put_at])
      refine ⟨e2', ?_, k4⟩
      rw [← k3]
      refine (go67_2 _ _).trans ?_
      simp [B67_2, push_cast, -Int.not_lt, -Int.not_le, ↓evI_call, ↓evI_calli, ↓evI_calln, ↓evI_callz, ↓evI_callv, ↓evI_mxn, loopIn, loopIn0, keepL, emp, A.dang, A.dangC, h0, h1, h2, h3, h8, h9', hcl, hcp, e1, e2, e3, hP, hnP, hB, gB, gB2, gb1, gb2, b1, b2, hj, hj2, hpos, hl1, hl2, hcall, haft, c1, s1, s2, g1, g2, g3, lenB, lenB2, k1, k2, q1, q2, q3, q4, q5, -List.all_eq_true]
      exact loop_env (by simp [put_at])
    · have c1 : ¬ cmp x a < 0 := fun h => hlt (hneg.1 h)
      have hins : insR key (a :: R) x T = (a :: R).reverse ++ x :: T := by rw [insR, if_neg hlt]; simp
      rw [hins]
      have q1 : (0 : Int) ≤ (R.length : Int) + 1 := by omega
      have q2 : (R.length : Int) + 1 < n := by omega
      have q3 : (R.length : Int) < n := by omega
      have q4 : (0 : Int) ≤ R.length := by omega
      have q5 : ((R.length : Int) + 1).toNat = R.length + 1 := by omega
      generalize bxS P Q ((a :: R).reverse ++ x :: T) = bx at *
      generalize (R.reverse ++ a :: x :: T).map vi = B at *
      refine ⟨_, (go67_2 _ _).trans (by simp [B67_2, push_cast, -Int.not_lt, -Int.not_le, ↓evI_call, ↓evI_calli, ↓evI_calln, ↓evI_callz, ↓evI_callv, ↓evI_mxn, loopIn, loopIn0, keepL, emp, A.dang, A.dangC, h0, h1, h2, h3, h8, h9', hcl, hcp, e1, e2, e3, hP, hnP, hB, gB, b1, b2, hj, hj2, hpos, hl1, hl2, hcall, haft, c1, q1, q2, q3, q4, q5, -List.all_eq_true]; rfl), by simp [put_at]⟩
theorem is_loop0 {f : Nat} {caps : List (Nat × Nat)} {P Q : Bx} {key : Int → Int} {cmp : Int → Int → Int} (hk : CmpOk f caps P Q key cmp) (n : Nat) (hn : n ≤ 50) :
    ∀ (d i : Nat) (L : List Int) (e : Env), i + d = n → L.length = n → (L.take i).Pairwise (fun a b => key a ≤ key b) → e 0 = .bs P.length n 1 → e 1 = vi 0 → e 2 = vi n → e 3 = .fn f caps → e 8 = vi i →
      ∃ e' L', evL tab0 ext0 (P.length + (Q.length + 1)) L67_0 (e, bxS P Q L) = some (.ex 0, e', bxS P Q L') ∧ L'.Perm L ∧ L'.Pairwise (fun a b => key a ≤ key b) := by
  intro d
  induction d with
  | zero =>
    intro i L e hi hL hs h0 h1 h2 h3 h8
    have hcl := (hk.clean L).2
    have hcp := hk.capsOk
    simp only [A.dang] at hcp
    have e1 : (bxS P Q L).length = P.length + (Q.length + 1) := by simp [bxS]
    rw [e1] at hcl
    have e2 : (bxS P Q L).take (P.length + (Q.length + 1)) = bxS P Q L := by rw [← e1]; exact List.take_length
    have e3 : (bxS P Q L).drop (P.length + (Q.length + 1)) = [] := by rw [← e1]; exact List.drop_length
    have hP : P.length < P.length + (Q.length + 1) := by omega
    obtain rfl : i = n := by omega
    refine ⟨_, L, (go67_0 _ _).trans (by simp [B67_0, push_cast, -Int.not_lt, -Int.not_le, ↓evI_call, ↓evI_calli, ↓evI_calln, ↓evI_callz, ↓evI_callv, ↓evI_mxn, loopIn, loopIn0, keepL, emp, A.dang, A.dangC, h0, h1, h2, h3, h8, hcl, hcp, e1, e2, e3, hP, -List.all_eq_true]; rfl), List.Perm.refl _, ?_⟩
    rw [← hL, List.take_length] at hs; exact hs
  | succ d ih =>
    intro i L e hi hL hs h0 h1 h2 h3 h8
    have hil : i < L.length := by omega
    have hcl := (hk.clean L).2
    have hcp := hk.capsOk
    simp only [A.dang] at hcp
    have e1 : (bxS P Q L).length = P.length + (Q.length + 1) := by simp [bxS]
    rw [e1] at hcl
    have e2 : (bxS P Q L).take (P.length + (Q.length + 1)) = bxS P Q L := by rw [← e1]; exact List.take_length
    have e3 : (bxS P Q L).drop (P.length + (Q.length + 1)) = [] := by rw [← e1]; exact List.drop_length
    have hP : P.length < P.length + (Q.length + 1) := by omega
    have eL : (L.take i).reverse.reverse ++ L[i] :: L.drop (i + 1) = L := by rw [List.reverse_reverse, ← List.drop_eq_getElem_cons hil, List.take_append_drop]
    have hin := is_loop2 hk n i hn (L.take i).reverse L[i] (L.drop (i + 1))
    have hlen : (L.take i).reverse.length = i := by simp; omega
    rw [eL, hlen] at hin
    have hc : (i : Int) < n := by omega
    have hw : IntKind.wrap .i64 ((i : Int) + 1) = (i : Int) + 1 := wrap_in _ (by omega) (by omega)
    have hp := insR_perm key (L.take i).reverse L[i] (L.drop (i + 1))
    rw [eL] at hp
    have hs2 := insR_sorted key (L.take i).reverse L[i] [] (by rw [List.reverse_reverse]; exact hs) List.Pairwise.nil (fun _ _ _ h => by cases h) (fun _ h => by cases h)
    have ha := insR_append key (L.take i).reverse L[i] (L.drop (i + 1))
    have hpl := (insR_perm key (L.take i).reverse L[i] []).length_eq
    have hlp : (insR key (L.take i).reverse L[i] []).length = i + 1 := by rw [hpl]; simp; omega
    have ht : (insR key (L.take i).reverse L[i] (L.drop (i + 1))).take (i + 1) = insR key (L.take i).reverse L[i] [] := by rw [ha, ← hlp]; exact List.take_left
    rw [← ht] at hs2
    obtain ⟨e2', k1, k2, k3, k4, k5, k6⟩ := hin (put 9 (vi i) (put 0 (.bs P.length n 1) (put 1 (vi 0) (put 2 (vi n) (put 3 (.fn f caps) (put 8 (vi i) emp)))))) (by simp; omega) (by simp [put_at]) (by simp [put_at]) (by simp [put_at]) (by simp [put_at]) (by simp [put_at]) (by simp [put_at])
    have hl2 : (insR key (L.take i).reverse L[i] (L.drop (i + 1))).length = n := by rw [hp.length_eq]; exact hL
    generalize insR key (L.take i).reverse L[i] (L.drop (i + 1)) = L2 at *
    obtain ⟨e3', L', m1, m2, m3⟩ := ih (i + 1) L2 (put 8 (vi (i + 1 : Nat)) e2') (by omega) hl2 hs2 (by simp [put_at, k2]) (by simp [put_at, k3]) (by simp [put_at, k4]) (by simp [put_at, k5]) (by simp [put_at])
    refine ⟨e3', L', ?_, m2.trans hp, m3⟩
    rw [← m1]
    refine (go67_0 _ _).trans ?_
    generalize hbx : bxS P Q L = bx at *
    simp [B67_0, push_cast, -Int.not_lt, -Int.not_le, ↓evI_call, ↓evI_calli, ↓evI_calln, ↓evI_callz, ↓evI_callv, ↓evI_mxn, loopIn, loopIn0, keepL, emp, A.dang, A.dangC, h0, h1, h2, h3, h8, hcl, hcp, e1, e2, e3, hP, hc, -List.all_eq_true]
    refine behind (Q := fun a => a = (.ex 2, e2', bxS P Q L2)) ⟨_, Eq.trans (loop_env (by simp [put_at])) k1, rfl⟩ ?_
    rintro _ rfl
    simp [push_cast, -Int.not_lt, -Int.not_le, ↓evI_call, ↓evI_calli, ↓evI_calln, ↓evI_callz, ↓evI_callv, ↓evI_mxn, k2, k3, k4, k5, k6, hw]
    exact loop_env (by simp [put_at, k2, k3, k4, k5, k6])
theorem is_call {f : Nat} {caps : List (Nat × Nat)} {P Q : Bx} {key : Int → Int} {cmp : Int → Int → Int} (hk : CmpOk f caps P Q key cmp) (L : List Int) (hn : L.length ≤ 50) :
    ∃ L', callL tab0 ext0 67 [.bs P.length L.length 1, vi 0, vi L.length, .fn f caps] (bxS P Q L) = some (.tup [], bxS P Q L') ∧ L'.Perm L ∧ L'.Pairwise (fun a b => key a ≤ key b) := by
  have e1 : (bxS P Q L).length = P.length + (Q.length + 1) := by simp [bxS]
  rw [callL_tab _ _ rfl tab67 rfl, e1]
  by_cases hz : L.length = 0
  · refine ⟨L, ?_, List.Perm.refl _, by rw [List.length_eq_zero_iff.1 hz]; exact List.Pairwise.nil⟩
    have hcl := (hk.clean L).2
    have hcp := hk.capsOk
    simp only [A.dang] at hcp
    rw [e1] at hcl
    have e2 : (bxS P Q L).take (P.length + (Q.length + 1)) = bxS P Q L := by rw [← e1]; exact List.take_length
    have e3 : (bxS P Q L).drop (P.length + (Q.length + 1)) = [] := by rw [← e1]; exact List.drop_length
    have hP : P.length < P.length + (Q.length + 1) := by omega
    have w1 : IntKind.wrap .i64 1 = 1 := by decide
    rw [hz]
    generalize bxS P Q L = bx at *
    simp [C67, w1, push_cast, -Int.not_lt, -Int.not_le, ↓evI_call, ↓evI_calli, ↓evI_calln, ↓evI_callz, ↓evI_callv, ↓evI_mxn, loopIn, loopIn0, keepL, emp, A.dang, A.dangC, go67_0, B67_0, hcl, hcp, e1, e2, e3, hP, -List.all_eq_true]
  · have hs : (L.take 1).Pairwise (fun a b => key a ≤ key b) := by
      rcases L with _ | ⟨a, L⟩
      · exact List.Pairwise.nil
      · exact List.pairwise_singleton _ _
    obtain ⟨e', L', k1, k2, k3⟩ := is_loop0 hk L.length hn (L.length - 1) 1 L (put 8 (vi (1 : Nat)) (put 0 (.bs P.length L.length 1) (put 1 (vi 0) (put 2 (vi L.length) (put 3 (.fn f caps) emp))))) (by omega) rfl hs (by simp [put_at]) (by simp [put_at]) (by simp [put_at]) (by simp [put_at]) (by simp [put_at])
    refine ⟨L', ?_, k2, k3⟩
    have w1 : IntKind.wrap .i64 1 = 1 := by decide
    simp [C67, w1, push_cast, -Int.not_lt, -Int.not_le, ↓evI_call, ↓evI_calli, ↓evI_calln, ↓evI_callz, ↓evI_callv, ↓evI_mxn]
    refine behind (Q := fun a => a = (.ex 0, e', bxS P Q L')) ⟨_, Eq.trans (loop_env (by simp [put_at])) k1, rfl⟩ ?_
    rintro _ rfl
    simp [push_cast, -Int.not_lt, -Int.not_le, ↓evI_call, ↓evI_calli, ↓evI_calln, ↓evI_callz, ↓evI_callv, ↓evI_mxn]
theorem pdq_call {f : Nat} {caps : List (Nat × Nat)} {P Q : Bx} {key : Int → Int} {cmp : Int → Int → Int} (hk : CmpOk f caps P Q key cmp) (L : List Int) (hn : L.length ≤ 12) (lim : Int) :
    ∃ L', callL tab0 ext0 50 [.bs P.length L.length 1, vi 0, vi L.length, vi lim, .fn f caps] (bxS P Q L) = some (.tup [], bxS P Q L') ∧ L'.Perm L ∧ L'.Pairwise (fun a b => key a ≤ key b) := by
  have e1 : (bxS P Q L).length = P.length + (Q.length + 1) := by simp [bxS]
  obtain ⟨L', k1, k2, k3⟩ := is_call hk L (by omega)
  refine ⟨L', ?_, k2, k3⟩
  rw [callL_tab _ _ rfl tab50 rfl, e1]
  have hcl := (hk.clean L).2
  have hcp := hk.capsOk
  simp only [A.dang] at hcp
  rw [e1] at hcl
  have e2 : (bxS P Q L).take (P.length + (Q.length + 1)) = bxS P Q L := by rw [← e1]; exact List.take_length
  have e3 : (bxS P Q L).drop (P.length + (Q.length + 1)) = [] := by rw [← e1]; exact List.drop_length
  have hP : P.length < P.length + (Q.length + 1) := by omega
  have ha := aft_clean (hk.clean L') (v := .tup []) rfl
  have e4 : (bxS P Q L').length = P.length + (Q.length + 1) := by simp [bxS]
  rw [e4] at ha
  have hw : IntKind.wrap .i64 (L.length : Int) = L.length := wrap_in _ (by omega) (by omega)
  have hn' : (L.length : Int) ≤ 12 := by omega
  generalize bxS P Q L = bx at *
  generalize bxS P Q L' = bx' at *
  simp [C50, push_cast, -Int.not_lt, -Int.not_le, ↓evI_call, ↓evI_calli, ↓evI_calln, ↓evI_callz, ↓evI_callv, ↓evI_mxn, loopIn, loopIn0, keepL, emp, A.dang, A.dangC, go50_0, B50_0, hcl, hcp, e1, e2, e3, hP, hw, hn', k1, ha, -List.all_eq_true]
def intOf : Option (A × Bx) → Option Int
  | some (.val (.int .i64 v), _) => some v
  | _ => none
theorem intOf_some {r : Option (A × Bx)} {v : Int} (h : intOf r = some v) : ∃ bx, r = some (vi v, bx) := by
  unfold intOf at h
  split at h
  · cases h; exact ⟨_, rfl⟩
  · cases h
/-- How many bits so few have. -/
theorem len_few (n : Nat) (h : n ≤ 12) : ∃ v, pureOf (callL tab0 ext0) false 51 [.val (.int .u64 n)] = some (vi v) := by
  have key : ∃ v, intOf (callOf tab0 ext0 (evK tab0 ext0 60) 51 [.val (.int .u64 n)] []) = some v := by
    rcases (by omega : n = 0 ∨ n = 1 ∨ n = 2 ∨ n = 3 ∨ n = 4 ∨ n = 5 ∨ n = 6 ∨ n = 7 ∨ n = 8 ∨ n = 9 ∨ n = 10 ∨ n = 11 ∨ n = 12) with rfl | rfl | rfl | rfl | rfl | rfl | rfl | rfl | rfl | rfl | rfl | rfl | rfl
    · exact ⟨0, by kernel_rfl⟩
    · exact ⟨1, by kernel_rfl⟩
    · exact ⟨2, by kernel_rfl⟩
    · exact ⟨2, by kernel_rfl⟩
    · exact ⟨3, by kernel_rfl⟩
    · exact ⟨3, by kernel_rfl⟩
    · exact ⟨3, by kernel_rfl⟩
    · exact ⟨3, by kernel_rfl⟩
    · exact ⟨4, by kernel_rfl⟩
    · exact ⟨4, by kernel_rfl⟩
    · exact ⟨4, by kernel_rfl⟩
    · exact ⟨4, by kernel_rfl⟩
    · exact ⟨4, by kernel_rfl⟩
  obtain ⟨v, h⟩ := key
  obtain ⟨bx, h⟩ := intOf_some h
  exact ⟨v, pureOf_eq ((callL_iff ..).2 ⟨60, h⟩) rfl⟩
end Go.Proofs.YtgndbkeiickihaaEv
/- The greatest ones of few numbers, their sum: the program's, the reference's. -/
namespace Go.Proofs.YtgndbkeiickihaaEv
open Go
set_option maxHeartbeats 2000000
/-- Greatest ones first. -/
def insD (x : Int) : List Int → List Int
  | [] => [x]
  | a :: l => if a ≤ x then x :: a :: l else a :: insD x l
def sortD : List Int → List Int
  | [] => []
  | a :: l => insD a (sortD l)
theorem insD_perm (x : Int) : ∀ l, (insD x l).Perm (x :: l)
  | [] => List.Perm.refl _
  | a :: l => by
    unfold insD; split
    · exact List.Perm.refl _
    · exact ((insD_perm x l).cons a).trans (List.Perm.swap ..)
theorem sortD_perm : ∀ l, (sortD l).Perm l
  | [] => List.Perm.refl _
  | a :: l => (insD_perm a (sortD l)).trans ((sortD_perm l).cons a)
theorem insD_sorted (x : Int) : ∀ l : List Int, l.Pairwise (fun a b => b ≤ a) → (insD x l).Pairwise (fun a b => b ≤ a)
  | [], _ => List.pairwise_singleton _ _
  | a :: l, h => by
    unfold insD; split
    · rename_i hx
      refine List.Pairwise.cons (fun b hb => ?_) h
      rcases List.mem_cons.1 hb with rfl | hb
      · exact hx
      · exact Int.le_trans (List.rel_of_pairwise_cons h hb) hx
    · rename_i hx
      rw [List.pairwise_cons] at h
      refine List.Pairwise.cons (fun b hb => ?_) (insD_sorted x l h.2)
      rcases List.mem_cons.1 ((insD_perm x l).mem_iff.1 hb) with rfl | hb
      · omega
      · exact h.1 b hb
theorem sortD_sorted : ∀ l, (sortD l).Pairwise (fun a b => b ≤ a)
  | [] => List.Pairwise.nil
  | a :: l => insD_sorted a _ (sortD_sorted l)
theorem sorted_uniq : ∀ (l m : List Int), l.Perm m → l.Pairwise (fun a b => b ≤ a) → m.Pairwise (fun a b => b ≤ a) → l = m
  | [], m, h, _, _ => (List.Perm.nil_eq h)
  | a :: l, [], h, _, _ => absurd h.length_eq (by simp)
  | a :: l, b :: m, h, h1, h2 => by
    rw [List.pairwise_cons] at h1 h2
    have e : a = b := by
      have m1 : b ∈ a :: l := h.mem_iff.2 (by simp)
      have m2 : a ∈ b :: m := h.mem_iff.1 (by simp)
      rcases List.mem_cons.1 m1 with rfl | m1
      · rfl
      · rcases List.mem_cons.1 m2 with rfl | m2
        · rfl
        · have := h1.1 b m1; have := h2.1 a m2; omega
    subst e
    rw [sorted_uniq l m (List.Perm.cons_inv h) h1.2 h2.2]
theorem sortD_uniq {l m : List Int} (h : m.Perm l) (hs : m.Pairwise (fun a b => b ≤ a)) : m = sortD l :=
  sorted_uniq _ _ (h.trans (sortD_perm l).symm) hs (sortD_sorted l)
theorem sumL_perm {l m : List Int} (h : l.Perm m) : sumL id l = sumL id m := by
  induction h with
  | nil => rfl
  | cons x _ ih => simp [sumL, ih]
  | swap x y l => simp [sumL]; omega
  | trans _ _ h1 h2 => exact h1.trans h2
def topS (l : List Int) (k : Int) : List Int := (sortD l).take (min (max k 0) l.length).toNat
def sumTop (l : List Int) (k : Int) : Int := sumL id (topS l k)
theorem sortD_len (l : List Int) : (sortD l).length = l.length := (sortD_perm l).length_eq
theorem sumTop_all (l : List Int) (k : Int) (h : (l.length : Int) ≤ k) : sumTop l k = sumL id l := by
  unfold sumTop topS
  rw [List.take_of_length_le (by rw [sortD_len]; omega)]
  exact sumL_perm (sortD_perm l)
theorem topS_mem {l : List Int} {k x : Int} (h : x ∈ topS l k) : x ∈ l := (sortD_perm l).mem_iff.1 (List.mem_of_mem_take h)
theorem topS_len (l : List Int) (k : Int) : ((topS l k).length : Int) = min (max k 0) l.length := by
  unfold topS; rw [List.length_take, sortD_len]; omega
/-! ### the program's -/
theorem b60_take {l : List Int} (h : ∀ x ∈ l, 0 ≤ x ∧ x ≤ 60) (hl : l.length ≤ 12) (i : Nat) : 0 ≤ sumL id (l.take i) ∧ sumL id (l.take i) ≤ 720 := by
  have h2 := fun x hx => h x (List.mem_of_mem_take (i := i) hx)
  have h3 := sumL_ge id _ fun x hx => (h2 x hx).1
  have h4 := sumL_le id 60 _ fun x hx => (h2 x hx).2
  have h5 : (l.take i).length ≤ 12 := by rw [List.length_take]; omega
  omega
/-! ### the reference's -/
/-- Where the greatest one of these is, the first. -/
def maxAt (l : List Int) : Nat → Nat
  | 0 => 0
  | i + 1 => if l.getD (maxAt l i) 0 < l.getD (i + 1) 0 then i + 1 else maxAt l i
theorem maxAt_le (l : List Int) : ∀ i, maxAt l i ≤ i
  | 0 => Nat.le_refl _
  | i + 1 => by have := maxAt_le l i; unfold maxAt; split <;> omega
theorem maxAt_max (l : List Int) : ∀ i j, j ≤ i → l.getD j 0 ≤ l.getD (maxAt l i) 0
  | 0, j, h => by obtain rfl : j = 0 := by omega
                  exact Int.le_refl _
  | i + 1, j, h => by
    unfold maxAt
    by_cases hj : j = i + 1
    · subst hj; split <;> omega
    · have := maxAt_max l i j (by omega); split <;> omega
theorem sortD_max {l : List Int} {m : Nat} (hm : m < l.length) (hmax : ∀ j, j < l.length → l.getD j 0 ≤ l.getD m 0) : sortD l = l.getD m 0 :: sortD (l.take m ++ l.drop (m + 1)) := by
  symm
  have e : l.getD m 0 = l[m] := by simp [hm]
  refine sortD_uniq ?_ ?_
  · rw [e]
    have h1 : l = l.take m ++ l[m] :: l.drop (m + 1) := by rw [← List.drop_eq_getElem_cons hm, List.take_append_drop]
    have h2 : (l[m] :: sortD (l.take m ++ l.drop (m + 1))).Perm (l[m] :: (l.take m ++ l.drop (m + 1))) := (sortD_perm _).cons _
    refine h2.trans ?_
    conv => rhs; rw [h1]
    exact List.perm_middle.symm
  · refine List.Pairwise.cons (fun b hb => ?_) (sortD_sorted _)
    have hb := (sortD_perm _).mem_iff.1 hb
    have hb2 : b ∈ l := by
      rcases List.mem_append.1 hb with h | h
      · exact List.mem_of_mem_take h
      · exact List.mem_of_mem_drop h
    obtain ⟨j, hj, rfl⟩ := List.getElem_of_mem hb2
    have := hmax j hj
    simpa [hj] using this
theorem topR_loop2 (l : List Int) (hl : l.length ≤ 60) (o : List Int) (k : Int) (h0 : 1 ≤ l.length) :
    ∀ d i (e : Env), i + d = l.length - 1 → (e 1 = vi k ∧ e 5 = .sl (l.map vi) l.length 2 ∧ e 6 = .sl (o.map vi) o.length 2 ∧ e 7 = vi (maxAt l i) ∧ e 8 = vi ((i : Int) + 1)) → ∃ zz, evL tab0 ext0 0 L20_2 (e, []) = some zz ∧ FQ (fun _ => false) ([]) 2 (fun _ _ => True) (fun e => e 1 = vi k ∧ e 5 = .sl (l.map vi) l.length 2 ∧ e 6 = .sl (o.map vi) o.length 2 ∧ e 7 = vi (maxAt l (l.length - 1))) i d zz := by
  refine fq_loop (St := fun i e => e 1 = vi k ∧ e 5 = .sl (l.map vi) l.length 2 ∧ e 6 = .sl (o.map vi) o.length 2 ∧ e 7 = vi (maxAt l i) ∧ e 8 = vi ((i : Int) + 1)) _ _ _ _ _ ?_ ?_
  · rintro e ⟨g0, g1, g2, g3, g4⟩
    have c : ¬ ((l.length - 1 : Nat) : Int) + 1 < l.length := by omega
    exact ⟨_, (go20_2 _ _).trans (by simp [B20_2, push_cast, -Int.not_lt, -Int.not_le, ↓evI_call, ↓evI_calli, ↓evI_calln, ↓evI_callz, ↓evI_callv, ↓evI_mxn, loopIn, loopIn0, keepL, emp, A.dang, A.dangC, g0, g1, g2, g3, g4, c]; rfl), by simp [put_at, g0, g1, g2, g3]⟩
  · rintro i e hi ⟨g0, g1, g2, g3, g4⟩
    rw [go20_2]
    have hi' : (i : Int) < (l.length - 1 : Nat) := by omega
    have hw : IntKind.wrap .i64 ((i : Int) + 1 + 1) = (i : Int) + 1 + 1 := wrap_in _ (by omega) (by omega)
    have c : (i : Int) + 1 < l.length := by omega
    have hm := maxAt_le l i
    have c2 : (maxAt l i : Int) < l.length := by omega
    have c3 : (0 : Int) ≤ (i : Int) + 1 := by omega
    have hm2 : maxAt l i < l.length := by omega
    have hi2 : i + 1 < l.length := by omega
    have d1 := drop_int l (maxAt l i) hm2
    have d2 := drop_int l (i + 1) hi2
    have t1 : ((i : Int) + 1).toNat = i + 1 := by omega
    have e1 : l.getD (maxAt l i) 0 = l[maxAt l i] := by simp [hm2]
    have e2 : l.getD (i + 1) 0 = l[i + 1] := by simp [hi2]
    rw [maxAt, e1, e2]
    generalize l[maxAt l i] = x at d1 ⊢
    generalize l[i + 1] = y at d2 ⊢
    generalize maxAt l i = q at *
    simp +contextual (maxSteps := 400000) [B20_2, push_cast, -Int.not_lt, -Int.not_le, ↓evI_call, ↓evI_calli, ↓evI_calln, ↓evI_callz, ↓evI_callv, ↓evI_mxn, loopIn, loopIn0, keepL, emp, A.dang, A.dangC, g0, g1, g2, g3, g4, hi, hi', c, c2, c3, d1, d2, t1, hw]
    refine Step.split (fun cc => ?_) (fun cc => ?_) <;> refine Step.go rfl ?_ <;> simp [put_at, cc]
def lefts (l : List Int) : Nat → List Int
  | 0 => l
  | i + 1 => (lefts l i).take (maxAt (lefts l i) ((lefts l i).length - 1)) ++ (lefts l i).drop (maxAt (lefts l i) ((lefts l i).length - 1) + 1)
theorem lefts_spec (l : List Int) : ∀ i, i ≤ l.length → (lefts l i).length = l.length - i ∧ sortD (lefts l i) = (sortD l).drop i
  | 0, _ => by simp [lefts]
  | i + 1, h => by
    obtain ⟨h1, h2⟩ := lefts_spec l i (by omega)
    rw [lefts]
    generalize lefts l i = q at h1 h2 ⊢
    have hm := maxAt_le q (q.length - 1)
    have hm2 : maxAt q (q.length - 1) < q.length := by omega
    have hs := sortD_max hm2 fun j hj => maxAt_max q (q.length - 1) j (by omega)
    refine ⟨by rw [List.length_append, List.length_take, List.length_drop]; omega, ?_⟩
    rw [h2] at hs
    have e : List.drop (i + 1) (sortD l) = ((sortD l).drop i).drop 1 := by rw [List.drop_drop]
    rw [e, hs]; rfl
theorem lefts_take (l : List Int) (i : Nat) (h : i < l.length) : (sortD l).take (i + 1) = (sortD l).take i ++ [(lefts l i).getD (maxAt (lefts l i) ((lefts l i).length - 1)) 0] := by
  obtain ⟨h1, h2⟩ := lefts_spec l i (by omega)
  have hm := maxAt_le (lefts l i) ((lefts l i).length - 1)
  have hs := sortD_max (l := lefts l i) (by omega : maxAt (lefts l i) ((lefts l i).length - 1) < _) fun j hj => maxAt_max (lefts l i) ((lefts l i).length - 1) j (by omega)
  rw [h2] at hs
  have hlen := sortD_len l
  have e := List.drop_eq_getElem_cons (l := sortD l) (by omega : i < _)
  rw [e] at hs
  rw [List.take_succ_eq_append_getElem (by omega)]
  rw [(List.cons.inj hs).1]
def topN (l : List Int) (k : Int) : Nat := (min (max k 0) l.length).toNat
theorem topR_loop (l : List Int) (hl : l.length ≤ 60) (k : Int) :
    ∀ d i (e : Env), i + d = topN l k → (e 1 = vi k ∧ e 5 = .sl ((lefts l i).map vi) (lefts l i).length 2 ∧ e 6 = .sl (((sortD l).take i).map vi) ((sortD l).take i).length 2) → ∃ zz, evL tab0 ext0 0 L20_0 (e, []) = some zz ∧ FQ (fun _ => false) ([]) 0 (fun _ _ => True) (fun e => e 6 = .sl (((sortD l).take (topN l k)).map vi) ((sortD l).take (topN l k)).length 2) i d zz := by
  refine fq_loop (St := fun i e => e 1 = vi k ∧ e 5 = .sl ((lefts l i).map vi) (lefts l i).length 2 ∧ e 6 = .sl (((sortD l).take i).map vi) ((sortD l).take i).length 2) _ _ _ _ _ ?_ ?_
  · rintro e ⟨g0, g1, g2⟩
    have h1 := (lefts_spec l (topN l k) (by unfold topN; omega)).1
    have h2 : ((sortD l).take (topN l k)).length = topN l k := by rw [List.length_take, sortD_len]; unfold topN; omega
    have c : ¬ (((sortD l).take (topN l k)).length < k ∧ 0 < (lefts l (topN l k)).length) := by rw [h1, h2]; unfold topN; omega
    generalize (sortD l).take (topN l k) = q at c h2 g2 ⊢
    generalize lefts l (topN l k) = q2 at c h1 g1 ⊢
    rcases Decidable.em ((q.length : Int) < k) with c1 | c1
    · have c2 : ¬ 0 < q2.length := by omega
      exact ⟨_, (go20_0 _ _).trans (by simp [B20_0, push_cast, -Int.not_lt, -Int.not_le, ↓evI_call, ↓evI_calli, ↓evI_calln, ↓evI_callz, ↓evI_callv, ↓evI_mxn, loopIn, loopIn0, keepL, emp, A.dang, A.dangC, g0, g1, g2, c1, c2]; rfl), by simp [put_at, g0, g1, g2, c1]⟩
    exact ⟨_, (go20_0 _ _).trans (by simp [B20_0, push_cast, -Int.not_lt, -Int.not_le, ↓evI_call, ↓evI_calli, ↓evI_calln, ↓evI_callz, ↓evI_callv, ↓evI_mxn, loopIn, loopIn0, keepL, emp, A.dang, A.dangC, g0, g1, g2, c1]; rfl), by simp [put_at, g2]⟩
  · rintro i e hi ⟨g0, g1, g2⟩
    rw [go20_0]
    have hi' : (i : Int) < (topN l k : Nat) := by omega
    have h0 : i < l.length := by unfold topN at hi; omega
    have h1 := (lefts_spec l i (by omega)).1
    have h3 : ((sortD l).take i).length = i := by rw [List.length_take, sortD_len]; omega
    have c1 : (((sortD l).take i).length : Int) < k := by rw [h3]; unfold topN at hi; omega
    have c2 : 0 < (lefts l i).length := by omega
    have hlp := topR_loop2 (lefts l i) (by omega) ((sortD l).take i) k (by omega) ((lefts l i).length - 1) 0
    have hm := maxAt_le (lefts l i) ((lefts l i).length - 1)
    have hm2 : maxAt (lefts l i) ((lefts l i).length - 1) < (lefts l i).length := by omega
    have e2 : (lefts l i).getD (maxAt (lefts l i) ((lefts l i).length - 1)) 0 = (lefts l i)[maxAt (lefts l i) ((lefts l i).length - 1)] := by simp [hm2]
    rw [lefts_take l i h0, lefts]
    rw [e2]
    have d1 := drop_int (lefts l i) _ hm2
    have hln : (((sortD l).take i).length + 1) * 8 ≤ 70368744177664 := by omega
    generalize (lefts l i)[maxAt (lefts l i) ((lefts l i).length - 1)] = x at d1 ⊢
    generalize (sortD l).take i = o at *
    generalize lefts l i = q at *
    generalize hmm : maxAt q (q.length - 1) = m at *
    simp +contextual (maxSteps := 400000) [B20_0, push_cast, -Int.not_lt, -Int.not_le, ↓evI_call, ↓evI_calli, ↓evI_calln, ↓evI_callz, ↓evI_callv, ↓evI_mxn, loopIn, loopIn0, keepL, emp, A.dang, A.dangC, g0, g1, g2, hi, hi', c1, c2]
    refine behindP (P := fun r' => Step _ _ _ _ _ r') (hlp _ (by omega) (by simp [put_at, maxAt])) ?_
    intro a h
    obtain ⟨e', rfl, hx⟩ := h.never; clear h; have h := hx
    have hw : IntKind.wrap .i64 ((m : Int) + 1) = (m : Int) + 1 := wrap_in _ (by omega) (by omega)
    have c3 : (m : Int) < q.length := by omega
    have c4 : (m : Int) ≤ q.length := by omega
    have c5 : (m : Int) + 1 ≤ q.length := by omega
    have c6 : (0 : Int) ≤ (m : Int) + 1 := by omega
    have t1 : ((m : Int) + 1).toNat = m + 1 := by omega
    have t2 : ((q.length : Int) - ((m : Int) + 1)).toNat = q.length - (m + 1) := by omega
    have t3 : min m q.length = m := by omega
    have t4 : m * 8 ≤ 70368744177664 := by omega
    have t5 : (m + (q.length - (m + 1))) * 8 ≤ 70368744177664 := by omega
    have t6 : List.take (q.length - (m + 1)) (List.drop (m + 1) (q.map vi)) = List.drop (m + 1) (q.map vi) := List.take_of_length_le (by simp)
    simp [push_cast, -Int.not_lt, -Int.not_le, ↓evI_call, ↓evI_calli, ↓evI_calln, ↓evI_callz, ↓evI_callv, ↓evI_mxn, h, hw, c3, c4, c5, c6, t1, t2, t3, t4, t5, t6, d1, hln, asList]
    exact Step.go rfl (by simp [put_at, h])
theorem topR_is (l : List Int) (k : Int) (hl : l.length ≤ 60) : pureOf (callL tab0 ext0) false 20 [slI l, vi k] = some (slI (topS l k)) := by
  rw [pureOf_b, callL_tab _ _ rfl tab20 rfl]
  have hlp := topR_loop l hl k (topN l k) 0
  have hb : l.length * 8 ≤ 70368744177664 := by omega
  have e : topS l k = (sortD l).take (topN l k) := rfl
  rw [e]
  generalize (sortD l).take (topN l k) = q at hlp ⊢
  simp [C20, push_cast, -Int.not_lt, -Int.not_le, ↓evI_call, ↓evI_calli, ↓evI_calln, ↓evI_callz, ↓evI_callv, ↓evI_mxn, slI, hb, asList]
  refine behind (hlp _ (by omega) (by simp [put_at, lefts])) ?_
  intro a h
  obtain ⟨e', rfl, hx⟩ := h.never; clear h; have h := hx
  simp [push_cast, -Int.not_lt, -Int.not_le, ↓evI_call, ↓evI_calli, ↓evI_calln, ↓evI_callz, ↓evI_callv, ↓evI_mxn, h, frzK, plain_mapM (plain_vi _)]
theorem sumR_loop (l : List Int) (h : ∀ x ∈ l, 0 ≤ x ∧ x ≤ 60) (hl : l.length ≤ 12) :
    ∀ d i (e : Env), i + d = l.length → (e 5 = slI l ∧ e 6 = vi (sumL id (l.take i)) ∧ e 7 = vi i) → ∃ zz, evL tab0 ext0 0 L22_0 (e, []) = some zz ∧ FQ (fun _ => false) ([]) 0 (fun _ _ => True) (fun e => e 6 = vi (sumL id l)) i d zz := by
  refine fq_loop (St := fun i e => e 5 = slI l ∧ e 6 = vi (sumL id (l.take i)) ∧ e 7 = vi i) _ _ _ _ _ ?_ ?_
  · rintro e ⟨g0, g1, g2⟩
    exact ⟨_, (go22_0 _ _).trans (by simp [B22_0, push_cast, -Int.not_lt, -Int.not_le, ↓evI_call, ↓evI_calli, ↓evI_calln, ↓evI_callz, ↓evI_callv, ↓evI_mxn, loopIn, loopIn0, keepL, emp, A.dang, A.dangC, g0, g1, g2, slI]; rfl), by simp [put_at, g1]⟩
  · rintro i e hi ⟨g0, g1, g2⟩
    rw [go22_0]
    have hi' : (i : Int) < (l.length : Nat) := by omega
    have hw : IntKind.wrap .i64 ((i : Int) + 1) = (i : Int) + 1 := wrap_in _ (by omega) (by omega)
    rw [sumL_take _ _ _ hi]
    have h1 := b60_take h hl i
    have h2 := h _ (List.getElem_mem hi)
    have hw2 : IntKind.wrap .i64 (sumL id (l.take i) + l[i]) = sumL id (l.take i) + l[i] := wrap_in _ (by omega) (by omega)
    simp +contextual (maxSteps := 400000) [B22_0, push_cast, -Int.not_lt, -Int.not_le, ↓evI_call, ↓evI_calli, ↓evI_calln, ↓evI_callz, ↓evI_callv, ↓evI_mxn, loopIn, loopIn0, keepL, emp, A.dang, A.dangC, g0, g1, g2, hi, hi', slI, drop_int _ i hi, hw, hw2]
    (repeat' refine Step.split (fun cc => ?_) (fun cc => ?_)) <;> first | (refine Step.ret0 ?_ ?_ <;> first | (simp_all [put_at, eqz]; done) | (simp [put_at, *]; done) | ((try simp [eqz] at *); omega)) | (refine Step.go ?_ ?_ <;> first | (simp_all [put_at, eqz]; done) | (simp [put_at, *]; done) | ((try simp [eqz] at *); omega)) | (refine Step.ret _ ?_ ?_ <;> first | (simp_all [put_at, eqz]; done) | (simp [put_at, *]; done) | ((try simp [eqz] at *); omega)) | (refine Step.goJ _ (by simp) ?_ ?_ <;> first | (simp_all [put_at, eqz]; done) | (simp [put_at, *]; done) | ((try simp [eqz] at *); omega))
theorem sumR_is (l : List Int) (k : Int) (h : ∀ x ∈ l, 0 ≤ x ∧ x ≤ 60) (hl : l.length ≤ 12) : Ans (vi (sumTop l k)) [] (callL tab0 ext0 22 [slI l, vi k] []) := by
  rw [callL_tab _ _ rfl tab22 rfl]
  have h1 := topR_is l k (by omega)
  have ht := topS_len l k
  have hlp := sumR_loop (topS l k) (fun x hx => h x (topS_mem hx)) (by omega) (topS l k).length 0
  unfold sumTop
  simp only [slI] at h1 hlp
  simp [C22, push_cast, -Int.not_lt, -Int.not_le, ↓evI_call, ↓evI_calli, ↓evI_calln, ↓evI_callz, ↓evI_callv, ↓evI_mxn, slI, h1]
  refine behindP (P := fun r => Ans _ [] r) (hlp _ (by omega) (by simp [put_at, sumL])) ?_
  intro a h
  obtain ⟨e', rfl, hx⟩ := h.never; clear h; have h := hx
  simp [push_cast, -Int.not_lt, -Int.not_le, ↓evI_call, ↓evI_calli, ↓evI_calln, ↓evI_callz, ↓evI_callv, ↓evI_mxn, h]
  exact Ans.nil rfl
end Go.Proofs.YtgndbkeiickihaaEv
