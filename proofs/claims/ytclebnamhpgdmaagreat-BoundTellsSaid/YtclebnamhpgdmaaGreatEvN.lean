/- The orders that a region's edges allow all come to the same. -/
import Derived.Test.YtclebnamhpgdmaaGreatEvM
namespace Go.Proofs.YtclebnamhpgdmaaGreatEv
open Go Go.RowKit
set_option linter.unusedSimpArgs false
set_option linter.unusedVariables false

def readsJ (j : J) : List Nat := (match j.g with | some (t, _) => [t] | none => []) ++ tmpsOf j.i.os
def writesJ (j : J) : List Nat := (match j.d with | some d => [d] | none => []) ++ takesI j.i

/-- The slots that are written, and the boxes. -/
def effJ (Φ : CallF) (nb : Nat) (j : J) (e : Env) (bx : Bx) : Option (List (Nat × A) × Bx) :=
  let run : Option (List (Nat × A) × Bx) := match evI Φ nb j.i e bx with
    | some (v, ups, bx') => some (ups ++ (match j.d with | some d => [(d, v)] | none => []), bx')
    | none => none
  let skip : Option (List (Nat × A) × Bx) := some ((match j.d with | some d => [(d, .und)] | none => []), bx)
  match j.g with
  | none => run
  | some (t, b) => match e t with
    | .val (.bool b') => if b' = b then run else skip
    | .und => skip
    | _ => none

theorem puts_append : ∀ (u v : List (Nat × A)) (e : Env), puts (u ++ v) e = puts v (puts u e)
  | [], _, _ => rfl
  | (d, x) :: u, v, e => puts_append u v (put d x e)

theorem evJ_eff (Φ : CallF) (nb : Nat) (j : J) (s : Env × Bx) : evJ Φ nb j s = (effJ Φ nb j s.1 s.2).map fun p => (puts p.1 s.1, p.2) := by
  have hrun : evRun Φ nb j s = (match evI Φ nb j.i s.1 s.2 with
    | some (v, ups, bx') => some (ups ++ (match j.d with | some d => [(d, v)] | none => []), bx')
    | none => none : Option (List (Nat × A) × Bx)).map fun p => (puts p.1 s.1, p.2) := by
    unfold evRun
    cases evI Φ nb j.i s.1 s.2 with
    | none => rfl
    | some q =>
      obtain ⟨v, ups, bx'⟩ := q
      simp only [Option.map_some]
      rw [puts_append]
      cases j.d <;> rfl
  have hskip : (some (putO j.d .und s.1, s.2) : Option (Env × Bx)) = (some ((match j.d with | some d => [(d, A.und)] | none => []), s.2) : Option (List (Nat × A) × Bx)).map fun p => (puts p.1 s.1, p.2) := by
    cases j.d <;> rfl
  unfold evJ effJ
  cases j.g with
  | none => exact hrun
  | some p =>
    obtain ⟨t, b⟩ := p
    simp only
    cases s.1 t with
    | val v =>
      cases v with
      | bool b' => simp only; split; exact hrun; exact hskip
      | _ => rfl
    | und => exact hskip
    | _ => rfl

theorem effJ_congr (Φ : CallF) (nb : Nat) (j : J) {e e' : Env} (bx : Bx) (h : ∀ t ∈ readsJ j, e t = e' t) : effJ Φ nb j e bx = effJ Φ nb j e' bx := by
  have hi : evI Φ nb j.i e bx = evI Φ nb j.i e' bx := evI_congr Φ nb j.i bx fun t ht => h t (by simp [readsJ, ht])
  unfold effJ
  rw [hi]
  cases hg : j.g with
  | none => rfl
  | some p =>
    obtain ⟨t, b⟩ := p
    have : e t = e' t := h t (by simp [readsJ, hg])
    simp only [this]

theorem effJ_facts (Φ : CallF) (nb : Nat) (j : J) (e : Env) (bx : Bx) (u bx') (h : effJ Φ nb j e bx = some (u, bx')) :
    (∀ p ∈ u, p.1 ∈ writesJ j) ∧ (memI j.i ≤ 1 → bx' = bx) ∧ (memI j.i = 0 → ∀ bx2, effJ Φ nb j e bx2 = some (u, bx2)) ∧
    (memI j.i = 1 → ∀ bx2, strip bx2 = strip bx → effJ Φ nb j e bx2 = some (u, bx2)) ∧ (memI j.i = 2 → strip bx' = strip bx) := by
  have hd : ∀ (v : A), ∀ p ∈ (match j.d with | some d => [(d, v)] | none => []), p.1 ∈ writesJ j := by
    intro v p hp
    cases hj : j.d with
    | none => simp [hj] at hp
    | some d => simp [hj] at hp; subst hp; simp [writesJ, hj]
  unfold effJ at h ⊢
  simp only at h ⊢
  have run : (match evI Φ nb j.i e bx with
      | some (v, ups, bx') => some (ups ++ (match j.d with | some d => [(d, v)] | none => []), bx')
      | none => none) = some (u, bx') → (∀ p ∈ u, p.1 ∈ writesJ j) ∧ (memI j.i ≤ 1 → bx' = bx) ∧ (memI j.i = 0 → ∀ bx2, (match evI Φ nb j.i e bx2 with
      | some (v, ups, bx') => some (ups ++ (match j.d with | some d => [(d, v)] | none => []), bx')
      | none => none : Option (List (Nat × A) × Bx)) = some (u, bx2)) ∧ (memI j.i = 1 → ∀ bx2, strip bx2 = strip bx → (match evI Φ nb j.i e bx2 with
      | some (v, ups, bx') => some (ups ++ (match j.d with | some d => [(d, v)] | none => []), bx')
      | none => none : Option (List (Nat × A) × Bx)) = some (u, bx2)) ∧ (memI j.i = 2 → strip bx' = strip bx) := by
    intro h
    cases he : evI Φ nb j.i e bx with
    | none => simp [he] at h
    | some q =>
      obtain ⟨v, ups, b2⟩ := q
      simp only [he, Option.some.injEq, Prod.mk.injEq] at h
      obtain ⟨rfl, rfl⟩ := h
      obtain ⟨f1, f2, f3, f4, f5⟩ := evI_facts Φ nb j.i e bx v ups b2 he
      refine ⟨fun p hp => ?_, f2, fun hm bx2 => ?_, fun hm bx2 hs => ?_, f5⟩
      · rcases List.mem_append.1 hp with hp | hp
        · simp only [writesJ, List.mem_append]; exact .inr (f1 p hp)
        · exact hd v p hp
      · rw [f3 hm bx2]
      · rw [f4 hm bx2 hs]
  have skip : ∀ {d : Option Nat}, (some ((match j.d with | some d => [(d, A.und)] | none => []), bx) : Option (List (Nat × A) × Bx)) = some (u, bx') →
      (∀ p ∈ u, p.1 ∈ writesJ j) ∧ (memI j.i ≤ 1 → bx' = bx) ∧ (memI j.i = 0 → ∀ bx2, (some ((match j.d with | some d => [(d, A.und)] | none => []), bx2) : Option (List (Nat × A) × Bx)) = some (u, bx2)) ∧
      (memI j.i = 1 → ∀ bx2, strip bx2 = strip bx → (some ((match j.d with | some d => [(d, A.und)] | none => []), bx2) : Option (List (Nat × A) × Bx)) = some (u, bx2)) ∧ (memI j.i = 2 → strip bx' = strip bx) := by
    intro _ h
    cases h
    exact ⟨hd _, fun _ => rfl, fun _ _ => rfl, fun _ _ _ => rfl, fun _ => rfl⟩
  cases hg : j.g with
  | none => simp only [hg] at h ⊢; exact run h
  | some p =>
    obtain ⟨t, b⟩ := p
    simp only [hg] at h ⊢
    cases ht : e t with
    | val v =>
      cases v with
      | bool b' =>
        simp only [ht] at h ⊢
        by_cases hb : b' = b
        · simp only [if_pos hb] at h ⊢; exact run h
        · simp only [if_neg hb] at h ⊢; exact skip (d := none) h
      | _ => simp [ht] at h
    | und => simp only [ht] at h ⊢; exact skip (d := none) h
    | _ => simp [ht] at h

def indep (p q : J) : Bool :=
  (writesJ p).all (fun t => !(readsJ q).contains t && !(writesJ q).contains t) && (writesJ q).all (fun t => !(readsJ p).contains t) &&
  (memI p.i == 0 || memI q.i == 0 || (memI p.i == 1 && memI q.i == 1) || (memI p.i == 1 && memI q.i == 2) || (memI p.i == 2 && memI q.i == 1))

theorem puts_other : ∀ (u : List (Nat × A)) (e : Env) (t : Nat), (∀ p ∈ u, p.1 ≠ t) → puts u e t = e t
  | [], _, _, _ => rfl
  | (d, x) :: u, e, t, h => by
    show puts u (put d x e) t = e t
    rw [puts_other u _ t fun p hp => h p (by simp [hp])]
    rw [put_at, if_neg]
    intro e'; exact h (d, x) (by simp) e'.symm

theorem puts_same : ∀ (u : List (Nat × A)) (e e' : Env) (t : Nat), (∃ p ∈ u, p.1 = t) → puts u e t = puts u e' t
  | [], _, _, _, h => by simp at h
  | (d, x) :: u, e, e', t, h => by
    show puts u (put d x e) t = puts u (put d x e') t
    by_cases hu : ∃ p ∈ u, p.1 = t
    · exact puts_same u _ _ t hu
    · have hne : ∀ p ∈ u, p.1 ≠ t := fun p hp e => hu ⟨p, hp, e⟩
      rw [puts_other u _ t hne, puts_other u _ t hne]
      obtain ⟨p, hp, hpt⟩ := h
      rcases List.mem_cons.1 hp with rfl | hp
      · simp only at hpt; subst hpt; simp [put_at]
      · exact absurd hpt (hne p hp)

theorem puts_comm (u v : List (Nat × A)) (e : Env) (h : ∀ p ∈ u, ∀ q ∈ v, p.1 ≠ q.1) : puts v (puts u e) = puts u (puts v e) := by
  funext t
  by_cases hu : ∃ p ∈ u, p.1 = t
  · obtain ⟨p, hp, rfl⟩ := hu
    rw [puts_other v _ _ fun q hq e => h p hp q hq e.symm]
    exact puts_same u _ _ _ ⟨p, hp, rfl⟩
  · have hne : ∀ p ∈ u, p.1 ≠ t := fun p hp e => hu ⟨p, hp, e⟩
    rw [puts_other u _ t hne]
    by_cases hv : ∃ q ∈ v, q.1 = t
    · exact puts_same v _ _ _ hv
    · have hne' : ∀ q ∈ v, q.1 ≠ t := fun q hq e => hv ⟨q, hq, e⟩
      rw [puts_other v _ t hne', puts_other v _ t hne', puts_other u _ t hne]

/-- Two that do not touch each other may change places. -/
theorem comm2 (Φ : CallF) (nb : Nat) (p q : J) (h : indep p q = true) (s s1 s2) (h1 : evJ Φ nb p s = some s1) (h2 : evJ Φ nb q s1 = some s2) :
    ∃ t, evJ Φ nb q s = some t ∧ evJ Φ nb p t = some s2 := by
  simp only [indep, Bool.and_eq_true, List.all_eq_true, Bool.not_eq_true', List.contains_eq_mem, decide_eq_false_iff_not, Bool.or_eq_true, beq_iff_eq, decide_eq_true_eq] at h
  obtain ⟨⟨hpq, hqp⟩, hm⟩ := h
  rw [evJ_eff, Option.map_eq_some_iff] at h1 h2
  obtain ⟨⟨u, bx1⟩, e1, rfl⟩ := h1
  obtain ⟨⟨v, bx2⟩, e2, rfl⟩ := h2
  simp only at e2
  obtain ⟨f1, f2, f3, f4, f5⟩ := effJ_facts Φ nb p _ _ _ _ e1
  have hq' : effJ Φ nb q s.1 bx1 = some (v, bx2) := by
    rw [← e2]
    exact effJ_congr Φ nb q bx1 fun t ht => (puts_other u s.1 t fun a ha e => by
      have := (hpq _ (f1 a ha)).1
      exact this (e ▸ ht)).symm
  obtain ⟨g1, g2, g3, g4, g5⟩ := effJ_facts Φ nb q _ _ _ _ hq'
  have hkeys : ∀ a ∈ u, ∀ b ∈ v, a.1 ≠ b.1 := fun a ha b hb e => (hpq _ (f1 a ha)).2 (e ▸ g1 b hb)
  have hp' : ∀ bx, effJ Φ nb p (puts v s.1) bx = effJ Φ nb p s.1 bx := fun bx =>
    effJ_congr Φ nb p bx fun t ht => puts_other v s.1 t fun a ha e => hqp _ (g1 a ha) (e ▸ ht)
  rcases hm with (((hm | hm) | ⟨hm, hm'⟩) | ⟨hm, hm'⟩) | ⟨hm, hm'⟩
  · -- p leaves the boxes alone
    have hb := f2 (by omega)
    subst hb
    refine ⟨(puts v s.1, bx2), by rw [evJ_eff, hq']; rfl, ?_⟩
    rw [evJ_eff, hp', f3 hm bx2]
    simp only [Option.map_some]
    rw [puts_comm u v _ hkeys]
  · have hb := g2 (by omega)
    subst hb
    refine ⟨(puts v s.1, s.2), by rw [evJ_eff, g3 hm s.2]; rfl, ?_⟩
    rw [evJ_eff, hp', e1]
    simp only [Option.map_some]
    rw [puts_comm u v _ hkeys]
  · have hb := f2 (by omega)
    have hb' := g2 (by omega)
    subst hb
    subst hb'
    refine ⟨(puts v s.1, s.2), by rw [evJ_eff, hq']; rfl, ?_⟩
    rw [evJ_eff, hp', e1]
    simp only [Option.map_some]
    rw [puts_comm u v _ hkeys]
  · -- p reads, q takes a right
    have hb := f2 (by omega)
    subst hb
    refine ⟨(puts v s.1, bx2), by rw [evJ_eff, hq']; rfl, ?_⟩
    rw [evJ_eff, hp', f4 hm bx2 (g5 hm')]
    simp only [Option.map_some]
    rw [puts_comm u v _ hkeys]
  · have hb := g2 (by omega)
    subst hb
    refine ⟨(puts v s.1, s.2), by rw [evJ_eff, g4 hm' s.2 (f5 hm).symm]; rfl, ?_⟩
    rw [evJ_eff, hp', e1]
    simp only [Option.map_some]
    rw [puts_comm u v _ hkeys]

theorem evJs_append (Φ : CallF) (nb : Nat) : ∀ (l m : List J) (s), evJs Φ nb (l ++ m) s = (evJs Φ nb l s).bind (evJs Φ nb m)
  | [], _, _ => rfl
  | j :: l, m, s => by
    simp only [List.cons_append, evJs]
    cases evJ Φ nb j s with
    | none => rfl
    | some s' => exact evJs_append Φ nb l m s'

/-- What may change places where K holds; whatever runs keeps K. -/
structure Comm (Φ : CallF) (nb : Nat) (K : Env × Bx → Prop) (ind : J → J → Bool) (S : J → Prop) : Prop where
  comm : ∀ p q, S p → S q → ind p q = true → ∀ s s1 s2, K s → evJ Φ nb p s = some s1 → evJ Φ nb q s1 = some s2 → ∃ t, evJ Φ nb q s = some t ∧ evJ Φ nb p t = some s2
  keep : ∀ p, S p → ∀ s s1, K s → evJ Φ nb p s = some s1 → K s1
theorem comm_plain (Φ : CallF) (nb : Nat) : Comm Φ nb (fun _ => True) indep (fun _ => True) :=
  ⟨fun p q _ _ h s s1 s2 _ => comm2 Φ nb p q h s s1 s2, fun _ _ _ _ _ _ => trivial⟩

/-- One moves behind all that it does not touch. -/
theorem move_back {Φ : CallF} {nb : Nat} {K : Env × Bx → Prop} {ind : J → J → Bool} {S : J → Prop} (hC : Comm Φ nb K ind S) (p : J) (hp : S p) : ∀ (l : List J) (s s2), (∀ q ∈ l, S q ∧ ind p q = true) → K s → evJs Φ nb (p :: l) s = some s2 → evJs Φ nb (l ++ [p]) s = some s2
  | [], s, s2, _, _, h => h
  | q :: l, s, s2, hi, hK, h => by
    simp only [evJs] at h
    cases h1 : evJ Φ nb p s with
    | none => simp [h1] at h
    | some s1 =>
      simp only [h1] at h
      cases h2 : evJ Φ nb q s1 with
      | none => simp [h2] at h
      | some s3 =>
        simp only [h2] at h
        obtain ⟨t, t1, t2⟩ := hC.comm p q hp (hi q (by simp)).1 (hi q (by simp)).2 s s1 s3 hK h1 h2
        simp only [List.cons_append, evJs, t1]
        exact move_back hC p hp l t s2 (fun x hx => hi x (by simp [hx])) (hC.keep q (hi q (by simp)).1 _ _ hK t1) (by simp only [evJs, t2]; exact h)

/-- Any order that keeps what must be kept. -/
theorem perm_sound {Φ : CallF} {nb : Nat} {K : Env × Bx → Prop} {ind : J → J → Bool} {S : J → Prop} (hC : Comm Φ nb K ind S) (js : Nat → J) : ∀ (I : List Nat) (σ : List Nat) (s s2), (∀ x ∈ I, S (js x)) → K s → I.Pairwise (· < ·) → σ.Nodup → (∀ x, x ∈ I ↔ x ∈ σ) →
    σ.Pairwise (fun q p => ¬ (p < q ∧ ind (js p) (js q) = false)) → evJs Φ nb (I.map js) s = some s2 → evJs Φ nb (σ.map js) s = some s2
  | [], σ, s, s2, _, _, _, _, hm, _, h => by
    have : σ = [] := by
      cases σ with
      | nil => rfl
      | cons x σ => exact absurd ((hm x).2 (by simp)) (by simp)
    subst this
    exact h
  | p :: I, σ, s, s2, hS, hK, hI, hn, hm, hσ, h => by
    obtain ⟨σ1, σ2, rfl⟩ := List.append_of_mem ((hm p).1 (by simp))
    rw [List.pairwise_cons] at hI
    have hn' := hn
    rw [List.nodup_append] at hn'
    obtain ⟨n1, n2, n3⟩ := hn'
    rw [List.nodup_cons] at n2
    have hσ' := hσ
    rw [List.pairwise_append] at hσ'
    obtain ⟨q1, q2, q3⟩ := hσ'
    have hind : ∀ q ∈ σ1, S (js q) ∧ ind (js p) (js q) = true := by
      intro q hq
      have hqI : q ∈ p :: I := (hm q).2 (by simp [hq])
      refine ⟨hS q hqI, ?_⟩
      have hne : q ≠ p := fun e => n3 q hq p (by simp) e
      have hlt : p < q := hI.1 q ((List.mem_cons.1 hqI).resolve_left hne)
      have := q3 q hq p (by simp)
      cases hi : ind (js p) (js q) with
      | true => rfl
      | false => exact absurd ⟨hlt, hi⟩ this
    simp only [List.map_cons, evJs] at h
    cases h1 : evJ Φ nb (js p) s with
    | none => simp [h1] at h
    | some s1 =>
      simp only [h1] at h
      have ih := perm_sound hC js I (σ1 ++ σ2) s1 s2 (fun x hx => hS x (by simp [hx])) (hC.keep _ (hS p (by simp)) _ _ hK h1) hI.2 (by
          rw [List.nodup_append]; exact ⟨n1, n2.2, fun a ha b hb => n3 a ha b (by simp [hb])⟩)
        (by
          intro x
          constructor
          · intro hx
            have := (hm x).1 (by simp [hx])
            have hne : x ≠ p := by rintro rfl; exact absurd (hI.1 x hx) (Nat.lt_irrefl _)
            simp only [List.mem_append, List.mem_cons] at this ⊢
            rcases this with h | h | h
            · exact .inl h
            · exact absurd h hne
            · exact .inr h
          · intro hx
            have hx' : x ∈ σ1 ++ p :: σ2 := by
              simp only [List.mem_append, List.mem_cons] at hx ⊢
              rcases hx with h | h
              · exact .inl h
              · exact .inr (.inr h)
            have hne : x ≠ p := by
              rintro rfl
              rcases List.mem_append.1 hx with h | h
              · exact n3 x h x (by simp) rfl
              · exact n2.1 h
            exact (List.mem_cons.1 ((hm x).2 hx')).resolve_left hne)
        (hσ.sublist (List.Sublist.append (List.Sublist.refl _) (List.sublist_cons_self _ _))) h
      rw [List.map_append, evJs_append] at ih
      rw [List.map_append, List.map_cons, show σ1.map js ++ js p :: σ2.map js = (σ1.map js ++ [js p]) ++ σ2.map js by simp, evJs_append]
      cases hm1 : evJs Φ nb (σ1.map js) s1 with
      | none => simp [hm1] at ih
      | some s3 =>
        rw [move_back hC (js p) (hS p (by simp)) (σ1.map js) s s3 (by simpa using hind) hK (by simp only [evJs, h1]; exact hm1)]
        rw [hm1] at ih
        exact ih

/-! ### boxes that are known to be different -/
def rootOf (cl : List (Nat × Nat)) (x : Nat) : Nat := match cl.find? fun p => p.1 == x with
  | some p => p.2
  | none => x
def ptrS (j : J) : Option Nat := match j.i with
  | .store _ (.t x) _ => some x
  | _ => none
def ptrL (j : J) : Option Nat := match j.i with
  | .load _ _ (.t x) false => some x
  | _ => none
def apart (cl ne : List (Nat × Nat)) (x y : Nat) : Bool := ne.any fun p => (p.1 == rootOf cl x && p.2 == rootOf cl y) || (p.2 == rootOf cl x && p.1 == rootOf cl y)
def slotsOk (p q : J) : Bool := (writesJ p).all (fun t => !(readsJ q).contains t && !(writesJ q).contains t) && (writesJ q).all (fun t => !(readsJ p).contains t)
def indepD (cl ne : List (Nat × Nat)) (p q : J) : Bool := indep p q || (slotsOk p q && (match ptrS p, ptrL q with
  | some x, some y => apart cl ne x y
  | _, _ => match ptrL p, ptrS q with
    | some y, some x => apart cl ne x y
    | _, _ => false))
/-- Roots are not written; what has a root is written from it alone. -/
def rootJ (cl ne : List (Nat × Nat)) (j : J) : Bool := (writesJ j).all fun t => !(cl.any fun p => p.2 == t) && !(ne.any fun p => p.1 == t || p.2 == t) && (match cl.find? fun p => p.1 == t with
  | some p => match j with
    | ⟨some d, .fa _ (.t b), none⟩ => d == t && b == p.2
    | _ => false
  | none => true)
structure KD (cl ne : List (Nat × Nat)) (s : Env × Bx) : Prop where
  root : ∀ y p, cl.find? (fun p => p.1 == y) = some p → ∀ r o, s.1 y = .ptr r o → ∃ o', s.1 p.2 = .ptr r o'
  ne : ∀ p ∈ ne, ∃ r o r' o', s.1 p.1 = .ptr r o ∧ s.1 p.2 = .ptr r' o' ∧ r ≠ r'
theorem KD.start {cl ne : List (Nat × Nat)} {s : Env × Bx} (h : neOk ne s.1 = true) (hd : (ne.all fun p => !(cl.any fun q => q.1 == p.1) && !(cl.any fun q => q.1 == p.2)) = true) : KD cl ne (clr cl s.1, s.2) := by
  refine ⟨fun y p hp r o hy => ?_, fun p hp => ?_⟩
  · have hm := List.mem_of_find?_eq_some hp
    have hq := List.find?_some hp
    have : clr cl s.1 y = .any := by
      unfold clr
      rw [if_pos (List.any_eq_true.2 ⟨p, hm, hq⟩)]
    have hy : clr cl s.1 y = .ptr r o := hy
    rw [this] at hy; cases hy
  · have h1 := List.all_eq_true.1 h p hp
    have h2 := List.all_eq_true.1 hd p hp
    simp only [Bool.and_eq_true, Bool.not_eq_true'] at h2
    have e1 : clr cl s.1 p.1 = s.1 p.1 := by unfold clr; rw [if_neg (by simp [h2.1])]
    have e2 : clr cl s.1 p.2 = s.1 p.2 := by unfold clr; rw [if_neg (by simp [h2.2])]
    simp only [e1, e2]
    split at h1
    · rename_i r o r' o' h3 h4
      exact ⟨r, o, r', o', h3, h4, by simpa using h1⟩
    · cases h1
theorem KD.ptr {cl ne : List (Nat × Nat)} {s : Env × Bx} (h : KD cl ne s) {x r o : Nat} (hx : s.1 x = .ptr r o) : ∃ o', s.1 (rootOf cl x) = .ptr r o' := by
  unfold rootOf
  cases hf : cl.find? fun p => p.1 == x with
  | none => exact ⟨o, hx⟩
  | some p => exact h.root x p hf r o hx
theorem KD.apart {cl ne : List (Nat × Nat)} {s : Env × Bx} (h : KD cl ne s) {x y r o r' o' : Nat} (hx : s.1 x = .ptr r o) (hy : s.1 y = .ptr r' o') (ha : apart cl ne x y = true) : r ≠ r' := by
  obtain ⟨o1, h1⟩ := h.ptr hx
  obtain ⟨o2, h2⟩ := h.ptr hy
  obtain ⟨p, hp, hh⟩ := List.any_eq_true.1 ha
  obtain ⟨r1, _, r2, _, k1, k2, k3⟩ := h.ne p hp
  simp only [Bool.or_eq_true, Bool.and_eq_true, beq_iff_eq] at hh
  rcases hh with ⟨e1, e2⟩ | ⟨e1, e2⟩
  · rw [e1, h1] at k1; rw [e2, h2] at k2
    cases k1; cases k2; exact k3
  · rw [e1, h1] at k2; rw [e2, h2] at k1
    cases k1; cases k2; exact fun e => k3 e.symm
theorem evJ_keys {Φ : CallF} {nb : Nat} {j : J} {s s1 : Env × Bx} (h : evJ Φ nb j s = some s1) (t : Nat) (ht : t ∉ writesJ j) : s1.1 t = s.1 t := by
  rw [evJ_eff, Option.map_eq_some_iff] at h
  obtain ⟨⟨u, bx1⟩, e1, rfl⟩ := h
  obtain ⟨f1, -⟩ := effJ_facts Φ nb j _ _ _ _ e1
  exact puts_other u _ t fun p hp e => ht (e ▸ f1 p hp)
theorem KD.keep {Φ : CallF} {nb : Nat} {cl ne : List (Nat × Nat)} {j : J} (hj : rootJ cl ne j = true) {s s1 : Env × Bx} (h : KD cl ne s) (h1 : evJ Φ nb j s = some s1) : KD cl ne s1 := by
  have hw : ∀ t ∈ writesJ j, _ := List.all_eq_true.1 hj
  have hroot : ∀ p ∈ cl, p.2 ∉ writesJ j := fun p hp ht => by
    have := hw _ ht
    simp only [Bool.and_eq_true, Bool.not_eq_true', List.any_eq_false] at this
    have := this.1.1 p hp
    simp at this
  have hne : ∀ p ∈ ne, p.1 ∉ writesJ j ∧ p.2 ∉ writesJ j := fun p hp => ⟨fun ht => by
    have := hw _ ht
    simp only [Bool.and_eq_true, Bool.not_eq_true', List.any_eq_false] at this
    have := this.1.2 p hp
    simp at this, fun ht => by
    have := hw _ ht
    simp only [Bool.and_eq_true, Bool.not_eq_true', List.any_eq_false] at this
    have := this.1.2 p hp
    simp at this⟩
  refine ⟨fun y p hp r o hy => ?_, fun p hp => ?_⟩
  · have hm := List.mem_of_find?_eq_some hp
    rw [evJ_keys h1 _ (hroot p hm)]
    by_cases hyw : y ∈ writesJ j
    · have hq := (by have := hw y hyw; simp only [Bool.and_eq_true] at this; exact this.2)
      rw [hp] at hq
      simp only at hq
      split at hq
      · rename_i d off b
        simp only [Bool.and_eq_true, beq_iff_eq] at hq
        obtain ⟨rfl, rfl⟩ := hq
        unfold evJ evRun at h1
        simp only [evI, O.ev] at h1
        split at h1
        · rename_i v ups bx' he
          simp only [Option.some.injEq] at h1
          subst h1
          simp only [putO] at hy
          split at he
          · rename_i r2 o2 e2
            simp only [Option.some.injEq, Prod.mk.injEq] at he
            obtain ⟨rfl, rfl, rfl⟩ := he
            simp only [put_at, if_true, A.ptr.injEq] at hy
            rw [e2]; exact ⟨o2, by rw [hy.1]⟩
          · rename_i l2 e2
            simp only [Option.some.injEq, Prod.mk.injEq] at he
            obtain ⟨rfl, rfl, rfl⟩ := he
            simp [put_at] at hy
          · cases he
        · cases h1
      · cases hq
    · rw [evJ_keys h1 _ hyw] at hy
      exact h.root y p hp r o hy
  · obtain ⟨a1, a2⟩ := hne p hp
    rw [evJ_keys h1 _ a1, evJ_keys h1 _ a2]
    exact h.ne p hp
theorem store_eff {Φ : CallF} {nb : Nat} {j : J} {e : Env} {bx bx1 : Bx} {u} {x : Nat} (hx : ptrS j = some x) (h : effJ Φ nb j e bx = some (u, bx1)) : bx1 = bx ∨ ∃ r o c, e x = .ptr r o ∧ bx1 = bx.set r c := by
  unfold ptrS at hx
  split at hx
  · rename_i sz x' v hi
    cases hx
    have run : ∀ {q : A × List (Nat × A) × Bx}, evI Φ nb j.i e bx = some q → ∃ r o c, e x = .ptr r o ∧ q.2.2 = bx.set r c := by
      intro q hq
      rw [hi] at hq
      simp only [evI] at hq
      have hxx : O.ev e (.t x) = e x := rfl
      rw [hxx] at hq
      cases hex : e x with
      | ptr r o =>
        rw [hex] at hq
        cases hbr : bx[r]? with
        | none => simp only [hbr] at hq; cases hq
        | some cs =>
          simp only [hbr] at hq
          by_cases hc : (v.ev e).cells.length = sz ∧ o + sz ≤ cs.length ∧ (v.ev e).cells.all A.isC = true ∧ (nb ≤ r ∨ (v.ev e).cells.all A.isV = true)
          · rw [if_pos hc] at hq; cases hq; exact ⟨r, o, _, rfl, rfl⟩
          · rw [if_neg hc] at hq; cases hq
      | _ => rw [hex] at hq; cases hq
    unfold effJ at h
    simp only at h
    have fin : (match evI Φ nb j.i e bx with
        | some (v, ups, bx') => some (ups ++ (match j.d with | some d => [(d, v)] | none => []), bx')
        | none => none) = some (u, bx1) → bx1 = bx ∨ ∃ r o c, e x = .ptr r o ∧ bx1 = bx.set r c := by
      intro h
      cases he : evI Φ nb j.i e bx with
      | none => simp [he] at h
      | some q =>
        obtain ⟨v, ups, b2⟩ := q
        simp only [he, Option.some.injEq, Prod.mk.injEq] at h
        obtain ⟨r, o, c, k1, k2⟩ := run he
        exact .inr ⟨r, o, c, k1, h.2 ▸ k2⟩
    split at h
    · exact fin h
    · split at h
      · split at h
        · exact fin h
        · cases h; exact .inl rfl
      · cases h; exact .inl rfl
      · cases h
  · cases hx
theorem load_eff {Φ : CallF} {nb : Nat} {j : J} {e : Env} {bx bx1 : Bx} {u} {y : Nat} (hy : ptrL j = some y) (h : effJ Φ nb j e bx = some (u, bx1)) :
    bx1 = bx ∧ ∀ bx2 : Bx, (∀ r o, e y = .ptr r o → bx2[r]? = bx[r]?) → effJ Φ nb j e bx2 = some (u, bx2) := by
  unfold ptrL at hy
  split at hy
  · rename_i sz ag y' hi
    cases hy
    have run : ∀ {q : A × List (Nat × A) × Bx}, evI Φ nb j.i e bx = some q → q.2.2 = bx ∧ ∀ bx2 : Bx, (∀ r o, e y = .ptr r o → bx2[r]? = bx[r]?) → evI Φ nb j.i e bx2 = some (q.1, q.2.1, bx2) := by
      intro q hq
      rw [hi] at hq ⊢
      simp only [evI] at hq ⊢
      have hyy : O.ev e (.t y) = e y := rfl
      rw [hyy] at hq
      simp only [hyy]
      split at hq
      · rename_i r o e1
        split at hq
        · rename_i cs hcs
          split at hq
          · split at hq
            · cases hq
              refine ⟨rfl, fun bx2 h2 => ?_⟩
              rw [h2 r o e1, hcs]
              rename_i ha hb
              simp [ha, hb]
            · cases hq
          · split at hq
            · cases hq
              refine ⟨rfl, fun bx2 h2 => ?_⟩
              rw [h2 r o e1, hcs]
              rename_i ha _ _ hb
              simp [ha, hb]
            · cases hq
        · cases hq
      · rename_i l e1
        split at hq
        · split at hq
          · cases hq
            rename_i ha hb
            refine ⟨rfl, fun bx2 _ => ?_⟩
            simp [ha, hb]
          · cases hq
        · split at hq
          · cases hq
            rename_i ha _ _ _
            refine ⟨rfl, fun bx2 _ => ?_⟩
            simp [ha]
          · cases hq
      · cases hq
    have fin : (match evI Φ nb j.i e bx with
        | some (v, ups, bx') => some (ups ++ (match j.d with | some d => [(d, v)] | none => []), bx')
        | none => none) = some (u, bx1) → bx1 = bx ∧ ∀ bx2 : Bx, (∀ r o, e y = .ptr r o → bx2[r]? = bx[r]?) → (match evI Φ nb j.i e bx2 with
        | some (v, ups, bx') => some (ups ++ (match j.d with | some d => [(d, v)] | none => []), bx')
        | none => none : Option (List (Nat × A) × Bx)) = some (u, bx2) := by
      intro h
      cases he : evI Φ nb j.i e bx with
      | none => simp [he] at h
      | some q =>
        obtain ⟨v, ups, b2⟩ := q
        simp only [he, Option.some.injEq, Prod.mk.injEq] at h
        obtain ⟨k1, k2⟩ := run he
        refine ⟨h.2 ▸ k1, fun bx2 h2 => ?_⟩
        rw [k2 bx2 h2]
        simp [h.1]
    unfold effJ at h ⊢
    simp only at h ⊢
    cases hg : j.g with
    | none => simp only [hg] at h ⊢; exact fin h
    | some p =>
      obtain ⟨t, b⟩ := p
      simp only [hg] at h ⊢
      cases ht : e t with
      | val v =>
        cases v with
        | bool b' =>
          simp only [ht] at h ⊢
          by_cases hb : b' = b
          · simp only [if_pos hb] at h ⊢; exact fin h
          · simp only [if_neg hb] at h ⊢; cases h; exact ⟨rfl, fun _ _ => rfl⟩
        | _ => simp [ht] at h
      | und => simp only [ht] at h ⊢; cases h; exact ⟨rfl, fun _ _ => rfl⟩
      | _ => simp [ht] at h
  · cases hy
theorem comm_apart (Φ : CallF) (nb : Nat) (cl ne : List (Nat × Nat)) : Comm Φ nb (KD cl ne) (indepD cl ne) (fun j => rootJ cl ne j = true) := by
  refine ⟨fun p q _ _ hi s s1 s2 hK h1 h2 => ?_, fun p hp s s1 hK h => hK.keep hp h⟩
  unfold indepD at hi
  rw [Bool.or_eq_true] at hi
  rcases hi with hi | hi
  · exact comm2 Φ nb p q hi s s1 s2 h1 h2
  rw [Bool.and_eq_true] at hi
  obtain ⟨hs, hi⟩ := hi
  simp only [slotsOk, Bool.and_eq_true, List.all_eq_true, Bool.not_eq_true', List.contains_eq_mem, decide_eq_false_iff_not] at hs
  obtain ⟨hpq, hqp⟩ := hs
  rw [evJ_eff, Option.map_eq_some_iff] at h1 h2
  obtain ⟨⟨u, bx1⟩, e1, rfl⟩ := h1
  obtain ⟨⟨v, bx2⟩, e2, rfl⟩ := h2
  simp only at e2
  obtain ⟨f1, -⟩ := effJ_facts Φ nb p _ _ _ _ e1
  have hq' : effJ Φ nb q s.1 bx1 = some (v, bx2) := by
    rw [← e2]
    exact effJ_congr Φ nb q bx1 fun t ht => (puts_other u s.1 t fun a ha e => (hpq _ (f1 a ha)).1 (e ▸ ht)).symm
  obtain ⟨g1, -⟩ := effJ_facts Φ nb q _ _ _ _ hq'
  have hkeys : ∀ a ∈ u, ∀ b ∈ v, a.1 ≠ b.1 := fun a ha b hb e => (hpq _ (f1 a ha)).2 (e ▸ g1 b hb)
  have hp' : ∀ bx, effJ Φ nb p (puts v s.1) bx = effJ Φ nb p s.1 bx := fun bx =>
    effJ_congr Φ nb p bx fun t ht => puts_other v s.1 t fun a ha e => hqp _ (g1 a ha) (e ▸ ht)
  have setget : ∀ (bx : Bx) (r r' : Nat) c, r ≠ r' → (bx.set r c)[r']? = bx[r']? := fun bx r r' c h => List.getElem?_set_ne h
  split at hi
  · rename_i x y hx hy
    obtain ⟨k1, k2⟩ := load_eff hy hq'
    subst k1
    refine ⟨(puts v s.1, s.2), ?_, ?_⟩
    · rw [evJ_eff, k2 s.2 fun r' o' hy' => ?_]
      · rfl
      · rcases store_eff hx e1 with rfl | ⟨r, o, c, hx', rfl⟩
        · rfl
        · exact (setget _ _ _ _ (hK.apart hx' hy' hi)).symm
    · rw [evJ_eff, hp', e1]
      simp only [Option.map_some]
      rw [puts_comm u v _ hkeys]
  · split at hi
    · rename_i y x hy hx
      obtain ⟨k1, k2⟩ := load_eff hy e1
      subst k1
      refine ⟨(puts v s.1, bx2), by rw [evJ_eff, hq']; rfl, ?_⟩
      rw [evJ_eff, hp', k2 bx2 fun r' o' hy' => ?_]
      · simp only [Option.map_some]
        rw [puts_comm u v _ hkeys]
      · rcases store_eff hx hq' with rfl | ⟨r, o, c, hx', rfl⟩
        · rfl
        · exact setget _ _ _ _ (hK.apart hx' hy' hi)
    · cases hi
end Go.Proofs.YtclebnamhpgdmaaGreatEv
