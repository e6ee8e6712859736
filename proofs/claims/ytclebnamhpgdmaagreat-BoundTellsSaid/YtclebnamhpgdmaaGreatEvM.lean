/- A region in whatever order its edges allow. -/
import Derived.Test.YtclebnamhpgdmaaGreatEvJ
namespace Go.Proofs.YtclebnamhpgdmaaGreatEv
open Go Go.RowKit
set_option linter.unusedSimpArgs false
set_option linter.unusedVariables false

/-! ### what an operation reads and writes -/
def tmpsOf (xs : List O) : List Nat := xs.filterMap fun | .t i => some i | _ => none

def takesI : I → List Nat
  | .mv x true => tmpsOf [x]
  | .box x => tmpsOf [x]
  | .store _ _ x => tmpsOf [x]
  | .app _ _ x _ _ => tmpsOf [x]
  | _ => []

/-- 0: nothing of the boxes; 1: it reads them; 2: it takes a right out of one; 3: it writes, makes one. -/
def memI : I → Nat
  | .alloc _ => 3
  | .box _ => 3
  | .bsl _ _ _ _ m => if m then 3 else 0
  | .load _ _ _ t => if t then 2 else 1
  | .store _ _ _ => 3
  | .app _ _ _ _ m => if m then 3 else 1
  | .mksl _ _ _ _ m => if m then 3 else 0
  | .call _ _ _ => 1
  | .calli _ _ => 3
  | .callv _ _ => 3
  | _ => 0

theorem evO_congr {e e' : Env} {xs : List O} (h : ∀ t ∈ tmpsOf xs, e t = e' t) : ∀ x ∈ xs, x.ev e = x.ev e' := by
  intro x hx
  cases x with
  | t i => exact h i (by simp only [tmpsOf, List.mem_filterMap]; exact ⟨.t i, hx, rfl⟩)
  | c v => rfl
  | f k => rfl

theorem map_congr_os {β : Type} {e e' : Env} {xs : List O} (h : ∀ x ∈ xs, x.ev e = x.ev e') (f : A → β) : (xs.map fun x => f (x.ev e)) = xs.map fun x => f (x.ev e') :=
  List.map_congr_left fun x hx => by rw [h x hx]

theorem mapM_congr_os {α β : Type} {f g : α → Option β} : ∀ {l : List α}, (∀ x ∈ l, f x = g x) → l.mapM f = l.mapM g
  | [], _ => rfl
  | x :: l, h => by
    rw [List.mapM_cons, List.mapM_cons, h x (by simp), mapM_congr_os fun y hy => h y (by simp [hy])]

theorem any_congr_os {α : Type} {f g : α → Bool} : ∀ {l : List α}, (∀ x ∈ l, f x = g x) → l.any f = l.any g
  | [], _ => rfl
  | x :: l, h => by
    rw [List.any_cons, List.any_cons, h x (by simp), any_congr_os fun y hy => h y (by simp [hy])]

theorem fillA_congr {e e' : Env} (nrm : Bool) : ∀ (ps : List (Nat × Nat × O)) (cs : List A), (∀ x ∈ ps.map (·.2.2), x.ev e = x.ev e') → fillA e nrm cs ps = fillA e' nrm cs ps
  | [], _, _ => rfl
  | (off, size, x) :: ps, cs, h => by
    have ih := fun cs => fillA_congr nrm ps cs fun y hy => h y (by simp only [List.map_cons]; exact List.mem_cons_of_mem _ hy)
    unfold fillA
    rw [h x (by simp)]
    simp only [ih]

theorem capsOf_congr {e e' : Env} : ∀ (xs : List O), (∀ x ∈ xs, x.ev e = x.ev e') → capsOf e xs = capsOf e' xs
  | [], _ => rfl
  | x :: xs, h => by
    unfold capsOf
    rw [h x (by simp), capsOf_congr xs fun y hy => h y (by simp [hy])]

theorem optInt_congr {e e' : Env} (d : Nat) (x : Option O) (h : ∀ y ∈ x.toList, y.ev e = y.ev e') : optInt e d x = optInt e' d x := by
  cases x with
  | none => rfl
  | some x => simp only [optInt]; rw [h x (by simp)]

theorem takeU_congr {e e' : Env} (x : O) (h : x.ev e = x.ev e') : takeU x e = takeU x e' := by
  cases x with
  | t i => simp only [O.ev] at h; simp only [takeU, h]
  | c v => rfl
  | f k => rfl

theorem evI_congr (Φ : CallF) (nb : Nat) (i : I) {e e' : Env} (bx : Bx) (h : ∀ t ∈ tmpsOf i.os, e t = e' t) : evI Φ nb i e bx = evI Φ nb i e' bx := by
  have h' := evO_congr h
  cases i with
  | mv x t =>
    have := h' x (by simp [I.os])
    cases t with
    | true => simp only [evI, this, takeU_congr x this]
    | false => simp only [evI, this]
  | pick c a b => simp only [evI, h' c (by simp [I.os]), h' a (by simp [I.os]), h' b (by simp [I.os])]
  | alloc z => rfl
  | box x => have := h' x (by simp [I.os]); simp only [evI, this, takeU_congr x this]
  | build z ps => simp only [evI, fillA_congr false ps _ (fun x hx => h' x hx)]
  | bsl sz len z ps mu => simp only [evI, fillA_congr true ps _ (fun x hx => h' x hx)]
  | isnil neg x => simp only [evI, h' x (by simp [I.os])]
  | load sz ag x t => simp only [evI, h' x (by simp [I.os])]
  | store sz p x => have := h' x (by simp [I.os]); simp only [evI, this, h' p (by simp [I.os]), takeU_congr x this]
  | bin op x y => simp only [evI, h' x (by simp [I.os]), h' y (by simp [I.os])]
  | un op x => simp only [evI, h' x (by simp [I.os])]
  | conv k x => simp only [evI, h' x (by simp [I.os])]
  | bstr x => simp only [evI, h' x (by simp [I.os])]
  | eqs neg n x y => simp only [evI, h' x (by simp [I.os]), h' y (by simp [I.os])]
  | eqb neg x y => simp only [evI, h' x (by simp [I.os]), h' y (by simp [I.os])]
  | len x => simp only [evI, h' x (by simp [I.os])]
  | slen x => simp only [evI, h' x (by simp [I.os])]
  | mxn b xs =>
    have : xs.map (O.ev e) = xs.map (O.ev e') := List.map_congr_left fun x hx => h' x hx
    simp only [evI, this]
  | app sz bytes x y mu => have := h' x (by simp [I.os]); simp only [evI, this, h' y (by simp [I.os]), takeU_congr x this]
  | slc sz x lo hi mx =>
    simp only [evI, h' x (by simp [I.os])]
    split
    · rename_i l n g _
      rw [optInt_congr 0 lo (fun y hy => h' y (by simp [I.os] at hy ⊢; simp [hy])), optInt_congr n hi (fun y hy => h' y (by simp [I.os] at hy ⊢; simp [hy])), optInt_congr n mx (fun y hy => h' y (by simp [I.os] at hy ⊢; simp [hy]))]
    · rename_i r n z _
      rw [optInt_congr n hi (fun y hy => h' y (by simp [I.os] at hy ⊢; simp [hy]))]
    · rfl
  | sslc x lo hi =>
    simp only [evI, h' x (by simp [I.os])]
    split
    · rename_i sv _
      rw [optInt_congr 0 lo (fun y hy => h' y (by simp [I.os] at hy ⊢; simp [hy])), optInt_congr sv.size hi (fun y hy => h' y (by simp [I.os] at hy ⊢; simp [hy]))]
    · rfl
  | fa off p => simp only [evI, h' p (by simp [I.os])]
  | ia sz x i => simp only [evI, h' x (by simp [I.os]), h' i (by simp [I.os])]
  | ix x i => simp only [evI, h' x (by simp [I.os]), h' i (by simp [I.os])]
  | ext x k => simp only [evI, h' x (by simp [I.os])]
  | mkf f caps => simp only [evI, capsOf_congr caps fun x hx => h' x hx]
  | mksl sz b z n mu => simp only [evI, h' n (by simp [I.os])]
  | call f xs keep =>
    have h1 : args0 e bx xs = args0 e' bx xs := by
      unfold args0
      exact mapM_congr_os fun x hx => by rw [h' x hx]
    have h2 : (xs.any fun x => (x.ev e).hasB) = (xs.any fun x => (x.ev e').hasB) := any_congr_os fun x hx => by rw [h' x hx]
    simp only [evI, h1, h2]
  | calli f xs => simp only [evI, map_congr_os (xs := xs) (fun x hx => h' x hx) A.norm]
  | callv x xs => simp only [evI, h' x (by simp [I.os]), map_congr_os (xs := xs) (fun x hx => h' x (by simp [I.os, hx])) A.norm]

theorem takeU_keys (x : O) (e : Env) : ∀ p ∈ takeU x e, p.1 ∈ tmpsOf [x] := by
  intro p hp
  cases x with
  | t i =>
    simp only [takeU] at hp
    split at hp
    · split at hp
      · simp at hp; subst hp; simp [tmpsOf]
      · simp at hp
    · simp at hp
  | c v => simp [takeU] at hp
  | f k => simp [takeU] at hp

/-! ### what a right taken does not change -/
theorem cp1_frz (bx bx2 : Bx) (hs : strip bx2 = strip bx) : ∀ (d : Nat) (a a2 : A), a.cp1 = a2.cp1 → frzC bx d a = frzC bx2 d a2 := by
  have hrow : ∀ r : Nat, (bx2[r]?).map (List.map A.cp1) = (bx[r]?).map (List.map A.cp1) := fun r => by
    have := congrArg (fun l : Bx => l[r]?) hs
    simpa [strip] using this
  have sh : ∀ a a2 : A, a.cp1 = a2.cp1 → (∃ v, a = .val v ∧ a2 = .val v) ∨ (∃ l n g g2, a = .sl l n g ∧ a2 = .sl l n g2) ∨ (∃ r n z, a = .bs r n z ∧ a2 = .bs r n z) ∨
      ((∀ v, a ≠ .val v) ∧ (∀ l n g, a ≠ .sl l n g) ∧ (∀ r n z, a ≠ .bs r n z) ∧ (∀ v, a2 ≠ .val v) ∧ (∀ l n g, a2 ≠ .sl l n g) ∧ (∀ r n z, a2 ≠ .bs r n z)) := by
    intro a a2 h
    cases a <;> cases a2 <;> simp [A.cp1] at h ⊢ <;> simp_all
  intro d
  induction d with
  | zero =>
    intro a a2 h
    rcases sh a a2 h with ⟨v, rfl, rfl⟩ | ⟨l, n, g, g2, rfl, rfl⟩ | ⟨r, n, z, rfl, rfl⟩ | ⟨h1, h2, h3, h4, h5, h6⟩
    · rfl
    · rfl
    · rfl
    · have e1 : frzC bx 0 a = none := by cases a <;> first | rfl | exact absurd rfl (h1 _) | exact absurd rfl (h2 _ _ _)
      have e2 : frzC bx2 0 a2 = none := by cases a2 <;> first | rfl | exact absurd rfl (h4 _) | exact absurd rfl (h5 _ _ _)
      rw [e1, e2]
  | succ d ih =>
    intro a a2 h
    rcases sh a a2 h with ⟨v, rfl, rfl⟩ | ⟨l, n, g, g2, rfl, rfl⟩ | ⟨r, n, z, rfl, rfl⟩ | ⟨h1, h2, h3, h4, h5, h6⟩
    · rfl
    · rfl
    · have hl : ∀ (cs cs2 : List A) (k : Nat), cs2.map A.cp1 = cs.map A.cp1 → (cs.take k).mapM (frzC bx d) = (cs2.take k).mapM (frzC bx2 d) := by
        intro cs
        induction cs with
        | nil => intro cs2 k hk; have : cs2 = [] := by simpa using hk
                 subst this; simp
        | cons c cs ihc =>
          intro cs2 k hk
          cases cs2 with
          | nil => simp at hk
          | cons c2 cs2 =>
            simp only [List.map_cons, List.cons.injEq] at hk
            cases k with
            | zero => simp
            | succ k => rw [List.take_succ_cons, List.take_succ_cons, List.mapM_cons, List.mapM_cons, ih c c2 hk.1.symm, ihc cs2 k hk.2]
      simp only [frzC]
      have := hrow r
      cases h1 : bx[r]? with
      | none => rw [h1] at this; cases h2 : bx2[r]? with
        | none => rfl
        | some cs2 => rw [h2] at this; simp at this
      | some cs =>
        rw [h1] at this
        cases h2 : bx2[r]? with
        | none => rw [h2] at this; simp at this
        | some cs2 =>
          rw [h2] at this
          simp only [Option.map_some, Option.some.injEq] at this
          have hlen := congrArg List.length this
          simp only [List.length_map] at hlen
          simp only [hlen, hl cs cs2 _ this]
    · have e1 : frzC bx (d + 1) a = none := by cases a <;> first | rfl | exact absurd rfl (h1 _) | exact absurd rfl (h2 _ _ _) | exact absurd rfl (h3 _ _ _)
      have e2 : frzC bx2 (d + 1) a2 = none := by cases a2 <;> first | rfl | exact absurd rfl (h4 _) | exact absurd rfl (h5 _ _ _) | exact absurd rfl (h6 _ _ _)
      rw [e1, e2]

theorem frzR_strip (bx bx2 : Bx) (hs : strip bx2 = strip bx) (a : A) : frzR bx a = frzR bx2 a := by
  unfold frzR
  split
  · rename_i l
    rw [mapM_congr_os (g := frzC bx2 3) fun x _ => cp1_frz bx bx2 hs 3 x x rfl]
  · exact cp1_frz bx bx2 hs 3 _ _ rfl

theorem args0_strip (bx bx2 : Bx) (hs : strip bx2 = strip bx) (e : Env) (xs : List O) : args0 e bx xs = args0 e bx2 xs := by
  unfold args0
  exact mapM_congr_os fun x _ => frzR_strip bx bx2 hs _

theorem row_strip {bx bx2 : Bx} (hs : strip bx2 = strip bx) (r : Nat) : (bx[r]? = none ∧ bx2[r]? = none) ∨ ∃ cs cs2, bx[r]? = some cs ∧ bx2[r]? = some cs2 ∧ cs2.map A.cp1 = cs.map A.cp1 := by
  have hrow : (bx2[r]?).map (List.map A.cp1) = (bx[r]?).map (List.map A.cp1) := by
    have := congrArg (fun l : Bx => l[r]?) hs
    simpa [strip] using this
  cases h1 : bx[r]? with
  | none => cases h2 : bx2[r]? with
    | none => exact .inl ⟨rfl, rfl⟩
    | some cs2 => rw [h1, h2] at hrow; simp at hrow
  | some cs => cases h2 : bx2[r]? with
    | none => rw [h1, h2] at hrow; simp at hrow
    | some cs2 => rw [h1, h2] at hrow; exact .inr ⟨cs, cs2, rfl, rfl, by simpa using hrow⟩

theorem cp1_cp1 (a : A) : a.cp1.cp1 = a.cp1 := by
  cases a with
  | sl l n g => by_cases hg : g = 2 <;> simp [A.cp1, hg]
  | _ => rfl

theorem norm1_cp1 (a : A) : a.cp1.norm1 = a.norm1 := by cases a <;> rfl
theorem isV_cp1 (a : A) : a.cp1.isV = a.isV := by cases a <;> rfl

theorem asList_strip (bx bx2 : Bx) (hs : strip bx2 = strip bx) (a : A) : asList bx a = asList bx2 a := by
  unfold asList
  split
  · rfl
  · rename_i r n z
    rcases row_strip hs r with ⟨h1, h2⟩ | ⟨cs, cs2, h1, h2, h3⟩
    · rw [h1, h2]
    · rw [h1, h2]
      have hlen := congrArg List.length h3
      simp only [List.length_map] at hlen
      have h4 : ∀ k, (cs2.take k).map A.cp1 = (cs.take k).map A.cp1 := fun k => by rw [List.map_take, List.map_take, h3]
      have h5 : ∀ k, (cs2.take k).map A.norm1 = (cs.take k).map A.norm1 := fun k => by
        have := congrArg (List.map A.norm1) (h4 k)
        simpa [List.map_map, Function.comp_def, norm1_cp1] using this
      have h6 : ∀ k, (cs2.take k).all A.isV = (cs.take k).all A.isV := fun k => by
        have hh : ∀ l : List A, (l.map A.cp1).all A.isV = l.all A.isV := fun l => by
          rw [List.all_map]; congr 1; funext a; exact isV_cp1 a
        rw [← hh, ← hh (cs.take k), h4 k]
      simp only [hlen, h5, h6]
  · rfl

theorem evI_facts (Φ : CallF) (nb : Nat) (i : I) (e : Env) (bx : Bx) (v : A) (ups : List (Nat × A)) (bx' : Bx) (h : evI Φ nb i e bx = some (v, ups, bx')) :
    (∀ p ∈ ups, p.1 ∈ takesI i) ∧ (memI i ≤ 1 → bx' = bx) ∧ (memI i = 0 → ∀ bx2, evI Φ nb i e bx2 = some (v, ups, bx2)) ∧
    (memI i = 1 → ∀ bx2, strip bx2 = strip bx → evI Φ nb i e bx2 = some (v, ups, bx2)) ∧ (memI i = 2 → strip bx' = strip bx) := by
  cases i with
  | mv x t =>
    cases t with
    | true => simp only [evI] at h ⊢; cases h; exact ⟨takeU_keys _ _, fun _ => rfl, fun _ _ => rfl, by simp [memI], by simp [memI]⟩
    | false => simp only [evI] at h ⊢; cases h; exact ⟨by simp, fun _ => rfl, fun _ _ => rfl, by simp [memI], by simp [memI]⟩
  | alloc z => simp only [evI] at h; cases h; exact ⟨by simp, by simp [memI], by simp [memI], by simp [memI], by simp [memI]⟩
  | box x =>
    simp only [evI] at h
    split at h
    · cases h; exact ⟨takeU_keys _ _, by simp [memI], by simp [memI], by simp [memI], by simp [memI]⟩
    · cases h
  | store sz p x =>
    simp only [evI] at h
    repeat' split at h
    all_goals first | (cases h; done) | (cases h; exact ⟨takeU_keys _ _, by simp [memI], by simp [memI], by simp [memI], by simp [memI]⟩)
  | bsl sz len z ps mu =>
    cases mu with
    | true =>
      simp only [evI] at h
      repeat' split at h
      all_goals first | (cases h; done) | (cases h; exact ⟨by simp, by simp [memI], by simp [memI], by simp [memI], by simp [memI]⟩)
    | false =>
      simp only [evI] at h ⊢
      split at h
      · rename_i cs hcs
        rw [if_neg (by simp)] at h
        cases h
        exact ⟨by simp, fun _ => rfl, fun _ bx2 => by simp, by simp [memI], by simp [memI]⟩
      · cases h
  | mksl sz by_ z n mu =>
    cases mu with
    | true =>
      simp only [evI] at h
      repeat' split at h
      all_goals first | (cases h; done) | (cases h; exact ⟨by simp, by simp [memI], by simp [memI], by simp [memI], by simp [memI]⟩)
    | false =>
      simp only [evI] at h ⊢
      split at h
      · split at h
        · rename_i hc
          rw [if_neg (by simp)] at h
          cases h
          exact ⟨by simp, fun _ => rfl, fun _ bx2 => by rw [if_pos hc, if_neg (by simp)], by simp [memI], by simp [memI]⟩
        · cases h
      · cases h
  | load sz ag x t =>
    cases t with
    | true =>
      suffices hk : ups = [] ∧ strip bx' = strip bx by
        rw [hk.1]; exact ⟨by simp, by simp [memI], by simp [memI], by simp [memI], fun _ => hk.2⟩
      simp only [evI, if_true] at h
      split at h
      · rename_i r q hx
        split at h
        · rename_i cs hcs
          split at h
          · split at h
            · cases h; exact ⟨rfl, rfl⟩
            · cases h
          · split at h
            · rename_i c hc
              split at h
              · cases h
                refine ⟨rfl, ?_⟩
                have hlt : q < cs.length := by
                  rcases Nat.lt_or_ge q cs.length with h' | h'
                  · exact h'
                  · simp [List.getElem?_eq_none h'] at hc
                have hcp : (cs.set q v.cp1).map A.cp1 = cs.map A.cp1 := by
                  apply List.ext_getElem?
                  intro k
                  simp only [List.getElem?_map, List.getElem?_set]
                  by_cases e : q = k
                  · subst e
                    rw [if_pos rfl, if_pos hlt, hc]
                    simp only [Option.map_some]
                    rw [cp1_cp1]
                  · rw [if_neg e]
                have hrl : r < bx.length := by
                  rcases Nat.lt_or_ge r bx.length with h' | h'
                  · exact h'
                  · simp [List.getElem?_eq_none h'] at hcs
                unfold strip
                apply List.ext_getElem?
                intro k
                simp only [List.getElem?_map, List.getElem?_set]
                by_cases e : r = k
                · subst e
                  rw [if_pos rfl, if_pos hrl, hcs]
                  simp only [Option.map_some]; rw [hcp]
                · rw [if_neg e]
              · cases h
            · cases h
        · cases h
      · split at h
        · split at h
          · cases h; exact ⟨rfl, rfl⟩
          · cases h
        · split at h
          · cases h; exact ⟨rfl, rfl⟩
          · cases h
      · cases h
    | false =>
      simp only [evI, Bool.false_eq_true, if_false] at h ⊢
      refine ⟨?_, ?_, by simp [memI], fun _ bx2 hs => ?_, by simp [memI]⟩
      · repeat' split at h
        all_goals first | (cases h; done) | (cases h; simp)
      · intro _
        repeat' split at h
        all_goals first | (cases h; done) | (cases h; rfl)
      · split at h
        · rename_i r q hx
          rcases row_strip hs r with ⟨h1, h2⟩ | ⟨cs, cs2, h1, h2, h3⟩
          · rw [h1] at h; simp at h
          · rw [h1] at h
            rw [h2]
            have hlen := congrArg List.length h3
            simp only [List.length_map] at hlen
            simp only at h ⊢
            split at h
            · rename_i hag
              rw [if_pos hag]
              split at h
              · rename_i hle
                cases h
                rw [if_pos (by omega)]
                have : ((cs2.drop q).take sz).map A.cp1 = ((cs.drop q).take sz).map A.cp1 := by
                  rw [List.map_take, List.map_drop, h3, ← List.map_drop, ← List.map_take]
                rw [this]
              · cases h
            · rename_i hag
              rw [if_neg hag]
              have hq := congrArg (fun l : List A => l[q]?) h3
              simp only [List.getElem?_map] at hq
              cases hc : cs[q]? with
              | none => rw [hc] at h; simp at h
              | some c =>
                rw [hc] at h hq
                cases hc2 : cs2[q]? with
                | none => rw [hc2] at hq; simp at hq
                | some c2 =>
                  rw [hc2] at hq
                  simp only [Option.map_some, Option.some.injEq] at hq
                  simp only at h ⊢
                  cases h
                  rw [hq]
        · rename_i l hx
          split at h
          · rename_i hag; rw [if_pos hag]; split at h
            · rename_i hle; cases h; rw [if_pos hle]
            · cases h
          · rename_i hag; rw [if_neg hag]; split at h
            · cases h; rfl
            · cases h
        · cases h
  | app sz bytes x y mu =>
    cases mu with
    | true =>
      simp only [evI] at h
      repeat' split at h
      all_goals first | (cases h; done) | (cases h; exact ⟨takeU_keys _ _, by simp [memI], by simp [memI], by simp [memI], by simp [memI]⟩)
    | false =>
      refine ⟨?_, ?_, by simp [memI], fun _ bx2 hs => ?_, by simp [memI]⟩
      · simp only [evI] at h
        repeat' split at h
        all_goals first | (cases h; done) | (cases h; exact takeU_keys _ _)
      · intro _
        simp only [evI] at h
        repeat' split at h
        all_goals first | (cases h; done) | (cases h; rfl) | (rename_i hm; simp at hm)
      · simp only [evI] at h ⊢
        rw [← asList_strip bx bx2 hs]
        split at h
        · split at h
          · rename_i hc
            rw [if_neg (by simp)] at h
            cases h
            rw [if_pos hc, if_neg (by simp)]
          · cases h
        · cases h
  | call f xs keep =>
    refine ⟨?_, ?_, by simp [memI], fun _ bx2 hs => ?_, by simp [memI]⟩
    · simp only [evI] at h
      repeat' split at h
      all_goals first | (cases h; done) | (cases h; simp)
    · intro _
      simp only [evI] at h
      repeat' split at h
      all_goals first | (cases h; done) | (cases h; rfl)
    · simp only [evI] at h ⊢
      rw [← args0_strip bx bx2 hs]
      split at h
      · split at h
        · split at h
          · cases h
          · rename_i hc; cases h; rw [if_neg hc]
        · cases h
      · cases h
  | calli f xs =>
    simp only [evI, Option.map_eq_some_iff] at h
    obtain ⟨r, _, hr⟩ := h
    cases hr
    exact ⟨by simp, by simp [memI], by simp [memI], by simp [memI], by simp [memI]⟩
  | callv x xs =>
    simp only [evI] at h
    split at h
    · simp only [Option.map_eq_some_iff] at h
      obtain ⟨r, _, hr⟩ := h
      cases hr
      exact ⟨by simp, by simp [memI], by simp [memI], by simp [memI], by simp [memI]⟩
    · cases h
  | _ =>
    refine (fun (h3 : _ ∧ _ ∧ _) => ⟨h3.1, h3.2.1, h3.2.2, by simp [memI], by simp [memI]⟩) ?_
    simp only [evI, Option.map_eq_some_iff] at h ⊢
    repeat' split at h
    all_goals first
      | (cases h; done)
      | (obtain ⟨r, h1, hr⟩ := h; cases hr; exact ⟨by simp, fun _ => rfl, fun _ bx2 => ⟨r, h1, rfl⟩⟩)
      | (cases h; refine ⟨by simp, fun _ => rfl, fun _ bx2 => ?_⟩; simp_all; done)
      | (obtain ⟨r, h1, hr⟩ := h; cases hr; refine ⟨by simp, fun _ => rfl, fun _ bx2 => ?_⟩; simp_all; done)
      | (simp only [Option.map_eq_some_iff] at h; obtain ⟨r, h1, hr⟩ := h; cases hr; refine ⟨by simp, fun _ => rfl, fun _ bx2 => ?_⟩; simp_all)
end Go.Proofs.YtclebnamhpgdmaaGreatEv
