/- slices.SortFunc of few numbers, where what compares them is told of these alone. -/
import Derived.Test.YtamblgbmdhldbaaGreatDoorSo
set_option linter.unusedSimpArgs false
set_option linter.unusedVariables false
namespace Go.Proofs.YtamblgbmdhldbaaGreatDoorEv
open Go
set_option maxHeartbeats 2000000
/-! ### the walk -/
section
variable (f : Nat) (caps : List (Nat × Nat)) (P Q : Bx) (key : Int → Int) (cmp : Int → Int → Int) (G : Int → Prop)
structure CmpG : Prop where
  clean : ∀ L : List Int, Clean (bxS P Q L)
  capsOk : (A.fn f caps).dang (P.length + (Q.length + 1)) = true
  call : ∀ (a b : Int) (L : List Int), G a → G b → ∃ junk, callL tab0 ext0 f (vi a :: vi b :: caps.map fun p => A.ptr p.1 p.2) (bxS P Q L) = some (vi (cmp a b), bxS P Q L ++ junk)
  neg : ∀ a b, G a → G b → (cmp a b < 0 ↔ key a < key b)
end
theorem isG_loop2 {f : Nat} {caps : List (Nat × Nat)} {P Q : Bx} {key : Int → Int} {cmp : Int → Int → Int} {G : Int → Prop} (hk : CmpG f caps P Q key cmp G) (n i : Nat) (hn : n ≤ 50) :
    ∀ (R : List Int) (x : Int) (T : List Int) (e : Env), (∀ y ∈ R, G y) → G x → R.length + T.length + 1 = n → e 0 = .bs P.length n 1 → e 1 = vi 0 → e 2 = vi n → e 3 = .fn f caps → e 8 = vi i → e 9 = vi R.length →
      ∃ e', evL tab0 ext0 (P.length + (Q.length + 1)) L52_2 (e, bxS P Q (R.reverse ++ x :: T)) = some (.ex 2, e', bxS P Q (insR key R x T)) ∧ (e' 0 = .bs P.length n 1 ∧ e' 1 = vi 0 ∧ e' 2 = vi n ∧ e' 3 = .fn f caps ∧ e' 8 = vi i) := by
  intro R
  induction R with
  | nil =>
    intro x T e hGR hGx hl h0 h1 h2 h3 h8 h9
    have hcl := (hk.clean (([] : List Int).reverse ++ x :: T)).2
    have hcp := hk.capsOk
    simp only [A.dang] at hcp
    have e1 : (bxS P Q (([] : List Int).reverse ++ x :: T)).length = P.length + (Q.length + 1) := by simp [bxS]
    rw [e1] at hcl
    have e2 : (bxS P Q (([] : List Int).reverse ++ x :: T)).take (P.length + (Q.length + 1)) = bxS P Q (([] : List Int).reverse ++ x :: T) := by rw [← e1]; exact List.take_length
    have e3 : (bxS P Q (([] : List Int).reverse ++ x :: T)).drop (P.length + (Q.length + 1)) = [] := by rw [← e1]; exact List.drop_length
    have hP : P.length < P.length + (Q.length + 1) := by omega
    have e0 : insR key [] x T = ([] : List Int).reverse ++ x :: T := rfl
    rw [e0]
    generalize bxS P Q (([] : List Int).reverse ++ x :: T) = bx at *
    refine ⟨_, (go52_2 _ _).trans (by simp [B52_2, push_cast, -Int.not_lt, -Int.not_le, ↓evI_call, ↓evI_calli, ↓evI_callz, ↓evI_callv, ↓evI_mxn, loopIn, loopIn0, keepL, emp, A.dang, A.dangC, h0, h1, h2, h3, h8, h9, hcl, hcp, e1, e2, e3, hP, -List.all_eq_true]; rfl), by simp [put_at]⟩
  | cons a R ih =>
    intro x T e hGR hGx hl h0 h1 h2 h3 h8 h9
    obtain ⟨junk, hcall⟩ := hk.call x a ((a :: R).reverse ++ x :: T) hGx (hGR a (List.mem_cons_self ..))
    have haft := aft_vi' (hk.clean ((a :: R).reverse ++ x :: T)) (cmp x a) junk
    have hcl := (hk.clean ((a :: R).reverse ++ x :: T)).2
    have hcp := hk.capsOk
    simp only [A.dang] at hcp
    have e1 : (bxS P Q ((a :: R).reverse ++ x :: T)).length = P.length + (Q.length + 1) := by simp [bxS]
    rw [e1] at hcl haft
    have e2 : (bxS P Q ((a :: R).reverse ++ x :: T)).take (P.length + (Q.length + 1)) = bxS P Q ((a :: R).reverse ++ x :: T) := by rw [← e1]; exact List.take_length
    have e3 : (bxS P Q ((a :: R).reverse ++ x :: T)).drop (P.length + (Q.length + 1)) = [] := by rw [← e1]; exact List.drop_length
    have hP : P.length < P.length + (Q.length + 1) := by omega
    have hnP : ¬ P.length + (Q.length + 1) ≤ P.length := by omega
    -- the box
    have eL : (a :: R).reverse ++ x :: T = R.reverse ++ a :: x :: T := by simp
    have hB : (bxS P Q ((a :: R).reverse ++ x :: T))[P.length]? = some ((R.reverse ++ a :: x :: T).map vi) := by rw [eL]; simp [bxS]
    have b1 : ((R.reverse ++ a :: x :: T).map vi)[R.length]? = some (vi a) := by simp
    have b2 : ((R.reverse ++ a :: x :: T).map vi)[R.length + 1]? = some (vi x) := by simp [List.getElem?_append_right]
    have hl0 : R.length + 1 + T.length + 1 = n := by simpa using hl
    have gb1 : ∀ h, ((R.reverse ++ a :: x :: T).map vi)[R.length]'h = vi a := fun h => by have := b1; rw [List.getElem?_eq_getElem h] at this; exact Option.some.inj this
    have gb2 : ∀ h, ((R.reverse ++ a :: x :: T).map vi)[R.length + 1]'h = vi x := fun h => by have := b2; rw [List.getElem?_eq_getElem h] at this; exact Option.some.inj this
    have hj : IntKind.wrap .i64 ((R.length : Int) + 1 - 1) = R.length := by rw [wrap_in _ (by omega) (by omega)]; omega
    have hj2 : IntKind.wrap .i64 (R.length : Int) = R.length := wrap_in _ (by omega) (by omega)
    have hpos : (0 : Int) < (R.length : Int) + 1 := by omega
    have hl1 : R.length + 1 < n := by simp at hl; omega
    have hl2 : R.length < n := by omega
    have hneg := hk.neg x a hGx (hGR a (List.mem_cons_self ..))
    have gB : ∀ h, (bxS P Q ((a :: R).reverse ++ x :: T))[P.length]'h = (R.reverse ++ a :: x :: T).map vi := fun h => by have := hB; rw [List.getElem?_eq_getElem h] at this; exact Option.some.inj this
    simp only [List.length_cons] at h9
    have h9' : e 9 = vi ((R.length : Int) + 1) := by rw [h9]; push_cast; rfl
    by_cases hlt : key x < key a
    · have c1 : cmp x a < 0 := hneg.2 hlt
      have lenB : ((R.reverse ++ a :: x :: T).map vi).length = n := by simp at hl ⊢; omega
      have s1 : (((R.reverse ++ a :: x :: T).map vi).take (R.length + 1) ++ vi a :: ((R.reverse ++ a :: x :: T).map vi).drop (R.length + 1 + 1)) = (R.reverse ++ a :: a :: T).map vi := by
        have := put_mid ((R.reverse ++ [a]).map vi) (T.map vi) (vi x) (vi a) (R.length + 1) (by simp)
        simpa using this
      have s2 : (((R.reverse ++ a :: a :: T).map vi).take R.length ++ vi x :: ((R.reverse ++ a :: a :: T).map vi).drop (R.length + 1)) = (R.reverse ++ x :: a :: T).map vi := by
        have := put_mid (R.reverse.map vi) ((a :: T).map vi) (vi a) (vi x) R.length (by simp)
        simpa using this
      have lenB2 : ((R.reverse ++ a :: a :: T).map vi).length = n := by simp at hl ⊢; omega
      have g1 : (bxS P Q ((a :: R).reverse ++ x :: T)).set P.length ((R.reverse ++ a :: a :: T).map vi) = bxS P Q (R.reverse ++ a :: a :: T) := by rw [eL]; simp [bxS]
      have g2 : (bxS P Q (R.reverse ++ a :: a :: T)).set P.length ((R.reverse ++ x :: a :: T).map vi) = bxS P Q (R.reverse ++ x :: a :: T) := by simp [bxS]
      have g3 : (bxS P Q (R.reverse ++ a :: a :: T))[P.length]? = some ((R.reverse ++ a :: a :: T).map vi) := by simp [bxS]
      have gB2 : ∀ h, (bxS P Q (R.reverse ++ a :: a :: T))[P.length]'h = (R.reverse ++ a :: a :: T).map vi := fun h => by have := g3; rw [List.getElem?_eq_getElem h] at this; exact Option.some.inj this
      have hins : insR key (a :: R) x T = insR key R x (a :: T) := by rw [insR, if_pos hlt]
      rw [hins]
      have ih' := ih x (a :: T)
      generalize bxS P Q ((a :: R).reverse ++ x :: T) = bx at *
      generalize (R.reverse ++ a :: x :: T).map vi = B at *
      generalize (R.reverse ++ a :: a :: T).map vi = B2 at *
      generalize (R.reverse ++ x :: a :: T).map vi = B3 at *
      generalize bxS P Q (R.reverse ++ a :: a :: T) = bx2 at *
      have k1 : R.length + 1 + 1 ≤ n := by omega
      have k2 : R.length + 1 ≤ n := by omega
      have q1 : (0 : Int) ≤ (R.length : Int) + 1 := by omega
      have q2 : (R.length : Int) + 1 < n := by omega
      have q3 : (R.length : Int) < n := by omega
      have q4 : (0 : Int) ≤ R.length := by omega
      have q5 : ((R.length : Int) + 1).toNat = R.length + 1 := by omega
      obtain ⟨e2', k3, k4⟩ := ih' (put 9 (vi R.length) (put 0 (.bs P.length n 1) (put 1 (vi 0) (put 2 (vi n) (put 3 (.fn f caps) (put 8 (vi i) emp)))))) (fun y hy => hGR y (List.mem_cons_of_mem _ hy)) hGx (by simp at hl ⊢; omega) (by simp [put_at]) (by simp [put_at]) (by simp [put_at]) (by simp [put_at]) (by simp [put_at]) (by simp [put_at])
      refine ⟨e2', ?_, k4⟩
      rw [← k3]
      refine (go52_2 _ _).trans ?_
      simp [B52_2, push_cast, -Int.not_lt, -Int.not_le, ↓evI_call, ↓evI_calli, ↓evI_callz, ↓evI_callv, ↓evI_mxn, loopIn, loopIn0, keepL, emp, A.dang, A.dangC, h0, h1, h2, h3, h8, h9', hcl, hcp, e1, e2, e3, hP, hnP, hB, gB, gB2, gb1, gb2, b1, b2, hj, hj2, hpos, hl1, hl2, hcall, haft, c1, s1, s2, g1, g2, g3, lenB, lenB2, k1, k2, q1, q2, q3, q4, q5, -List.all_eq_true]
      exact loop_env (by simp [put_at])
    · have c1 : ¬ cmp x a < 0 := fun h => hlt (hneg.1 h)
      have hins : insR key (a :: R) x T = (a :: R).reverse ++ x :: T := by rw [insR, if_neg hlt]; simp
      rw [hins]
      have q1 : (0 : Int) ≤ (R.length : Int) + 1 := by omega
      have q2 : (R.length : Int) + 1 < n := by omega
      have q3 : (R.length : Int) < n := by omega
      have q4 : (0 : Int) ≤ R.length := by omega
      have q5 : ((R.length : Int) + 1).toNat = R.length + 1 := by omega
      generalize bxS P Q ((a :: R).reverse ++ x :: T) = bx at *
      generalize (R.reverse ++ a :: x :: T).map vi = B at *
      refine ⟨_, (go52_2 _ _).trans (by simp [B52_2, push_cast, -Int.not_lt, -Int.not_le, ↓evI_call, ↓evI_calli, ↓evI_callz, ↓evI_callv, ↓evI_mxn, loopIn, loopIn0, keepL, emp, A.dang, A.dangC, h0, h1, h2, h3, h8, h9', hcl, hcp, e1, e2, e3, hP, hnP, hB, gB, b1, b2, hj, hj2, hpos, hl1, hl2, hcall, haft, c1, q1, q2, q3, q4, q5, -List.all_eq_true]; rfl), by simp [put_at]⟩
theorem isG_loop0 {f : Nat} {caps : List (Nat × Nat)} {P Q : Bx} {key : Int → Int} {cmp : Int → Int → Int} {G : Int → Prop} (hk : CmpG f caps P Q key cmp G) (n : Nat) (hn : n ≤ 50) :
    ∀ (d i : Nat) (L : List Int) (e : Env), (∀ y ∈ L, G y) → i + d = n → L.length = n → (L.take i).Pairwise (fun a b => key a ≤ key b) → e 0 = .bs P.length n 1 → e 1 = vi 0 → e 2 = vi n → e 3 = .fn f caps → e 8 = vi i →
      ∃ e' L', evL tab0 ext0 (P.length + (Q.length + 1)) L52_0 (e, bxS P Q L) = some (.ex 0, e', bxS P Q L') ∧ L'.Perm L ∧ L'.Pairwise (fun a b => key a ≤ key b) := by
  intro d
  induction d with
  | zero =>
    intro i L e hG hi hL hs h0 h1 h2 h3 h8
    have hcl := (hk.clean L).2
    have hcp := hk.capsOk
    simp only [A.dang] at hcp
    have e1 : (bxS P Q L).length = P.length + (Q.length + 1) := by simp [bxS]
    rw [e1] at hcl
    have e2 : (bxS P Q L).take (P.length + (Q.length + 1)) = bxS P Q L := by rw [← e1]; exact List.take_length
    have e3 : (bxS P Q L).drop (P.length + (Q.length + 1)) = [] := by rw [← e1]; exact List.drop_length
    have hP : P.length < P.length + (Q.length + 1) := by omega
    obtain rfl : i = n := by omega
    refine ⟨_, L, (go52_0 _ _).trans (by simp [B52_0, push_cast, -Int.not_lt, -Int.not_le, ↓evI_call, ↓evI_calli, ↓evI_callz, ↓evI_callv, ↓evI_mxn, loopIn, loopIn0, keepL, emp, A.dang, A.dangC, h0, h1, h2, h3, h8, hcl, hcp, e1, e2, e3, hP, -List.all_eq_true]; rfl), List.Perm.refl _, ?_⟩
    rw [← hL, List.take_length] at hs; exact hs
  | succ d ih =>
    intro i L e hG hi hL hs h0 h1 h2 h3 h8
    have hil : i < L.length := by omega
    have hcl := (hk.clean L).2
    have hcp := hk.capsOk
    simp only [A.dang] at hcp
    have e1 : (bxS P Q L).length = P.length + (Q.length + 1) := by simp [bxS]
    rw [e1] at hcl
    have e2 : (bxS P Q L).take (P.length + (Q.length + 1)) = bxS P Q L := by rw [← e1]; exact List.take_length
    have e3 : (bxS P Q L).drop (P.length + (Q.length + 1)) = [] := by rw [← e1]; exact List.drop_length
    have hP : P.length < P.length + (Q.length + 1) := by omega
    have eL : (L.take i).reverse.reverse ++ L[i] :: L.drop (i + 1) = L := by rw [List.reverse_reverse, ← List.drop_eq_getElem_cons hil, List.take_append_drop]
    have hin := isG_loop2 hk n i hn (L.take i).reverse L[i] (L.drop (i + 1))
    have hlen : (L.take i).reverse.length = i := by simp; omega
    rw [eL, hlen] at hin
    have hc : (i : Int) < n := by omega
    have hw : IntKind.wrap .i64 ((i : Int) + 1) = (i : Int) + 1 := wrap_in _ (by omega) (by omega)
    have hp := insR_perm key (L.take i).reverse L[i] (L.drop (i + 1))
    rw [eL] at hp
    have hs2 := insR_sorted key (L.take i).reverse L[i] [] (by rw [List.reverse_reverse]; exact hs) List.Pairwise.nil (fun _ _ _ h => by cases h) (fun _ h => by cases h)
    have ha := insR_append key (L.take i).reverse L[i] (L.drop (i + 1))
    have hpl := (insR_perm key (L.take i).reverse L[i] []).length_eq
    have hlp : (insR key (L.take i).reverse L[i] []).length = i + 1 := by rw [hpl]; simp; omega
    have ht : (insR key (L.take i).reverse L[i] (L.drop (i + 1))).take (i + 1) = insR key (L.take i).reverse L[i] [] := by rw [ha, ← hlp]; exact List.take_left
    rw [← ht] at hs2
    obtain ⟨e2', k1, k2, k3, k4, k5, k6⟩ := hin (put 9 (vi i) (put 0 (.bs P.length n 1) (put 1 (vi 0) (put 2 (vi n) (put 3 (.fn f caps) (put 8 (vi i) emp)))))) (fun y hy => hG y (List.mem_of_mem_take (List.mem_reverse.1 hy))) (hG _ (List.getElem_mem hil)) (by simp; omega) (by simp [put_at]) (by simp [put_at]) (by simp [put_at]) (by simp [put_at]) (by simp [put_at]) (by simp [put_at])
    have hG2 : ∀ y ∈ insR key (L.take i).reverse L[i] (L.drop (i + 1)), G y := fun y hy => hG y (hp.mem_iff.1 hy)
    have hl2 : (insR key (L.take i).reverse L[i] (L.drop (i + 1))).length = n := by rw [hp.length_eq]; exact hL
    generalize insR key (L.take i).reverse L[i] (L.drop (i + 1)) = L2 at *
    obtain ⟨e3', L', m1, m2, m3⟩ := ih (i + 1) L2 (put 8 (vi (i + 1 : Nat)) e2') hG2 (by omega) hl2 hs2 (by simp [put_at, k2]) (by simp [put_at, k3]) (by simp [put_at, k4]) (by simp [put_at, k5]) (by simp [put_at])
    refine ⟨e3', L', ?_, m2.trans hp, m3⟩
    rw [← m1]
    refine (go52_0 _ _).trans ?_
    generalize hbx : bxS P Q L = bx at *
    simp [B52_0, push_cast, -Int.not_lt, -Int.not_le, ↓evI_call, ↓evI_calli, ↓evI_callz, ↓evI_callv, ↓evI_mxn, loopIn, loopIn0, keepL, emp, A.dang, A.dangC, h0, h1, h2, h3, h8, hcl, hcp, e1, e2, e3, hP, hc, -List.all_eq_true]
    refine behind (Q := fun a => a = (.ex 2, e2', bxS P Q L2)) ⟨_, Eq.trans (loop_env (by simp [put_at])) k1, rfl⟩ ?_
    rintro _ rfl
    simp [push_cast, -Int.not_lt, -Int.not_le, ↓evI_call, ↓evI_calli, ↓evI_callz, ↓evI_callv, ↓evI_mxn, k2, k3, k4, k5, k6, hw]
    exact loop_env (by simp [put_at, k2, k3, k4, k5, k6])
theorem isG_call {f : Nat} {caps : List (Nat × Nat)} {P Q : Bx} {key : Int → Int} {cmp : Int → Int → Int} {G : Int → Prop} (hk : CmpG f caps P Q key cmp G) (L : List Int) (hG : ∀ y ∈ L, G y) (hn : L.length ≤ 50) :
    ∃ L', callL tab0 ext0 52 [.bs P.length L.length 1, vi 0, vi L.length, .fn f caps] (bxS P Q L) = some (.tup [], bxS P Q L') ∧ L'.Perm L ∧ L'.Pairwise (fun a b => key a ≤ key b) := by
  have e1 : (bxS P Q L).length = P.length + (Q.length + 1) := by simp [bxS]
  rw [callL_tab _ _ rfl tab52 rfl, e1]
  by_cases hz : L.length = 0
  · refine ⟨L, ?_, List.Perm.refl _, by rw [List.length_eq_zero_iff.1 hz]; exact List.Pairwise.nil⟩
    have hcl := (hk.clean L).2
    have hcp := hk.capsOk
    simp only [A.dang] at hcp
    rw [e1] at hcl
    have e2 : (bxS P Q L).take (P.length + (Q.length + 1)) = bxS P Q L := by rw [← e1]; exact List.take_length
    have e3 : (bxS P Q L).drop (P.length + (Q.length + 1)) = [] := by rw [← e1]; exact List.drop_length
    have hP : P.length < P.length + (Q.length + 1) := by omega
    have w1 : IntKind.wrap .i64 1 = 1 := by decide
    rw [hz]
    generalize bxS P Q L = bx at *
    simp [C52, w1, push_cast, -Int.not_lt, -Int.not_le, ↓evI_call, ↓evI_calli, ↓evI_callz, ↓evI_callv, ↓evI_mxn, loopIn, loopIn0, keepL, emp, A.dang, A.dangC, go52_0, B52_0, hcl, hcp, e1, e2, e3, hP, -List.all_eq_true]
  · have hs : (L.take 1).Pairwise (fun a b => key a ≤ key b) := by
      rcases L with _ | ⟨a, L⟩
      · exact List.Pairwise.nil
      · exact List.pairwise_singleton _ _
    obtain ⟨e', L', k1, k2, k3⟩ := isG_loop0 hk L.length hn (L.length - 1) 1 L (put 8 (vi (1 : Nat)) (put 0 (.bs P.length L.length 1) (put 1 (vi 0) (put 2 (vi L.length) (put 3 (.fn f caps) emp))))) hG (by omega) rfl hs (by simp [put_at]) (by simp [put_at]) (by simp [put_at]) (by simp [put_at]) (by simp [put_at])
    refine ⟨L', ?_, k2, k3⟩
    have w1 : IntKind.wrap .i64 1 = 1 := by decide
    simp [C52, w1, push_cast, -Int.not_lt, -Int.not_le, ↓evI_call, ↓evI_calli, ↓evI_callz, ↓evI_callv, ↓evI_mxn]
    refine behind (Q := fun a => a = (.ex 0, e', bxS P Q L')) ⟨_, Eq.trans (loop_env (by simp [put_at])) k1, rfl⟩ ?_
    rintro _ rfl
    simp [push_cast, -Int.not_lt, -Int.not_le, ↓evI_call, ↓evI_calli, ↓evI_callz, ↓evI_callv, ↓evI_mxn]
theorem pdqG_call {f : Nat} {caps : List (Nat × Nat)} {P Q : Bx} {key : Int → Int} {cmp : Int → Int → Int} {G : Int → Prop} (hk : CmpG f caps P Q key cmp G) (L : List Int) (hG : ∀ y ∈ L, G y) (hn : L.length ≤ 12) (lim : Int) :
    ∃ L', callL tab0 ext0 31 [.bs P.length L.length 1, vi 0, vi L.length, vi lim, .fn f caps] (bxS P Q L) = some (.tup [], bxS P Q L') ∧ L'.Perm L ∧ L'.Pairwise (fun a b => key a ≤ key b) := by
  have e1 : (bxS P Q L).length = P.length + (Q.length + 1) := by simp [bxS]
  obtain ⟨L', k1, k2, k3⟩ := isG_call hk L hG (by omega)
  refine ⟨L', ?_, k2, k3⟩
  rw [callL_tab _ _ rfl tab31 rfl, e1]
  have hcl := (hk.clean L).2
  have hcp := hk.capsOk
  simp only [A.dang] at hcp
  rw [e1] at hcl
  have e2 : (bxS P Q L).take (P.length + (Q.length + 1)) = bxS P Q L := by rw [← e1]; exact List.take_length
  have e3 : (bxS P Q L).drop (P.length + (Q.length + 1)) = [] := by rw [← e1]; exact List.drop_length
  have hP : P.length < P.length + (Q.length + 1) := by omega
  have ha := aft_clean (hk.clean L') (v := .tup []) rfl
  have e4 : (bxS P Q L').length = P.length + (Q.length + 1) := by simp [bxS]
  rw [e4] at ha
  have hw : IntKind.wrap .i64 (L.length : Int) = L.length := wrap_in _ (by omega) (by omega)
  have hn' : (L.length : Int) ≤ 12 := by omega
  generalize bxS P Q L = bx at *
  generalize bxS P Q L' = bx' at *
  simp [C31, push_cast, -Int.not_lt, -Int.not_le, ↓evI_call, ↓evI_calli, ↓evI_callz, ↓evI_callv, ↓evI_mxn, loopIn, loopIn0, keepL, emp, A.dang, A.dangC, go31_0, B31_0, hcl, hcp, e1, e2, e3, hP, hw, hn', k1, ha, -List.all_eq_true]
theorem sfG_call {f : Nat} {caps : List (Nat × Nat)} {P Q : Bx} {key : Int → Int} {cmp : Int → Int → Int} {G : Int → Prop} (hk : CmpG f caps P Q key cmp G) (L : List Int) (hG : ∀ y ∈ L, G y) (hn : L.length ≤ 12) :
    ∃ L', callL tab0 ext0 19 [.bs P.length L.length 1, .fn f caps] (bxS P Q L) = some (.tup [], bxS P Q L') ∧ L'.Perm L ∧ L'.Pairwise (fun a b => key a ≤ key b) := by
  have e1 : (bxS P Q L).length = P.length + (Q.length + 1) := by simp [bxS]
  obtain ⟨v, hv⟩ := len_few L.length hn
  obtain ⟨L', k1, k2, k3⟩ := pdqG_call hk L hG hn v
  refine ⟨L', ?_, k2, k3⟩
  rw [callL_tab _ _ rfl tab19 rfl, e1]
  have ha := aft_clean (hk.clean L') (v := .tup []) rfl
  have e4 : (bxS P Q L').length = P.length + (Q.length + 1) := by simp [bxS]
  rw [e4] at ha
  have hwu : IntKind.wrap .u64 (L.length : Int) = L.length := by
    have e : IntKind.u64.wrap (L.length : Int) = (L.length : Int) % 18446744073709551616 := by simp [IntKind.wrap, IntKind.bits, IntKind.signed]
    rw [e]; omega
  generalize bxS P Q L = bx at *
  generalize bxS P Q L' = bx' at *
  simp [C19, push_cast, -Int.not_lt, -Int.not_le, ↓evI_call, ↓evI_calli, ↓evI_callz, ↓evI_callv, ↓evI_mxn, hv, hwu, k1, ha, e1]
end Go.Proofs.YtamblgbmdhldbaaGreatDoorEv
