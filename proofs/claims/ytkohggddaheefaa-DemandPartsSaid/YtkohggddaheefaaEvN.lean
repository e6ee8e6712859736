/- The orders that a region's edges allow all come to the same. -/
import Derived.Test.YtkohggddaheefaaEvM
namespace Go.Proofs.YtkohggddaheefaaEv
open Go Go.RowKit
set_option linter.unusedSimpArgs false
set_option linter.unusedVariables false

def readsJ (j : J) : List Nat := (match j.g with | some (t, _) => [t] | none => []) ++ tmpsOf j.i.os
def writesJ (j : J) : List Nat := (match j.d with | some d => [d] | none => []) ++ takesI j.i

/-- The slots that are written, and the boxes. -/
def effJ (Φ : CallF) (nb : Nat) (j : J) (e : Env) (bx : Bx) : Option (List (Nat × A) × Bx) :=
  let run : Option (List (Nat × A) × Bx) := match evI Φ nb j.i e bx with
    | some (v, ups, bx') => some (ups ++ (match j.d with | some d => [(d, v)] | none => []), bx')
    | none => none
  let skip : Option (List (Nat × A) × Bx) := some ((match j.d with | some d => [(d, .und)] | none => []), bx)
  match j.g with
  | none => run
  | some (t, b) => match e t with
    | .val (.bool b') => if b' = b then run else skip
    | .und => skip
    | _ => none

theorem puts_append : ∀ (u v : List (Nat × A)) (e : Env), puts (u ++ v) e = puts v (puts u e)
  | [], _, _ => rfl
  | (d, x) :: u, v, e => puts_append u v (put d x e)

theorem evJ_eff (Φ : CallF) (nb : Nat) (j : J) (s : Env × Bx) : evJ Φ nb j s = (effJ Φ nb j s.1 s.2).map fun p => (puts p.1 s.1, p.2) := by
  have hrun : evRun Φ nb j s = (match evI Φ nb j.i s.1 s.2 with
    | some (v, ups, bx') => some (ups ++ (match j.d with | some d => [(d, v)] | none => []), bx')
    | none => none : Option (List (Nat × A) × Bx)).map fun p => (puts p.1 s.1, p.2) := by
    unfold evRun
    cases evI Φ nb j.i s.1 s.2 with
    | none => rfl
    | some q =>
      obtain ⟨v, ups, bx'⟩ := q
      simp only [Option.map_some]
      rw [puts_append]
      cases j.d <;> rfl
  have hskip : (some (putO j.d .und s.1, s.2) : Option (Env × Bx)) = (some ((match j.d with | some d => [(d, A.und)] | none => []), s.2) : Option (List (Nat × A) × Bx)).map fun p => (puts p.1 s.1, p.2) := by
    cases j.d <;> rfl
  unfold evJ effJ
  cases j.g with
  | none => exact hrun
  | some p =>
    obtain ⟨t, b⟩ := p
    simp only
    cases s.1 t with
    | val v =>
      cases v with
      | bool b' => simp only; split; exact hrun; exact hskip
      | _ => rfl
    | und => exact hskip
    | _ => rfl

theorem effJ_congr (Φ : CallF) (nb : Nat) (j : J) {e e' : Env} (bx : Bx) (h : ∀ t ∈ readsJ j, e t = e' t) : effJ Φ nb j e bx = effJ Φ nb j e' bx := by
  have hi : evI Φ nb j.i e bx = evI Φ nb j.i e' bx := evI_congr Φ nb j.i bx fun t ht => h t (by simp [readsJ, ht])
  unfold effJ
  rw [hi]
  cases hg : j.g with
  | none => rfl
  | some p =>
    obtain ⟨t, b⟩ := p
    have : e t = e' t := h t (by simp [readsJ, hg])
    simp only [this]

theorem effJ_facts (Φ : CallF) (nb : Nat) (j : J) (e : Env) (bx : Bx) (u bx') (h : effJ Φ nb j e bx = some (u, bx')) :
    (∀ p ∈ u, p.1 ∈ writesJ j) ∧ (memI j.i ≤ 1 → bx' = bx) ∧ (memI j.i = 0 → ∀ bx2, effJ Φ nb j e bx2 = some (u, bx2)) ∧
    (memI j.i = 1 → ∀ bx2, strip bx2 = strip bx → effJ Φ nb j e bx2 = some (u, bx2)) ∧ (memI j.i = 2 → strip bx' = strip bx) := by
  have hd : ∀ (v : A), ∀ p ∈ (match j.d with | some d => [(d, v)] | none => []), p.1 ∈ writesJ j := by
    intro v p hp
    cases hj : j.d with
    | none => simp [hj] at hp
    | some d => simp [hj] at hp; subst hp; simp [writesJ, hj]
  unfold effJ at h ⊢
  simp only at h ⊢
  have run : (match evI Φ nb j.i e bx with
      | some (v, ups, bx') => some (ups ++ (match j.d with | some d => [(d, v)] | none => []), bx')
      | none => none) = some (u, bx') → (∀ p ∈ u, p.1 ∈ writesJ j) ∧ (memI j.i ≤ 1 → bx' = bx) ∧ (memI j.i = 0 → ∀ bx2, (match evI Φ nb j.i e bx2 with
      | some (v, ups, bx') => some (ups ++ (match j.d with | some d => [(d, v)] | none => []), bx')
      | none => none : Option (List (Nat × A) × Bx)) = some (u, bx2)) ∧ (memI j.i = 1 → ∀ bx2, strip bx2 = strip bx → (match evI Φ nb j.i e bx2 with
      | some (v, ups, bx') => some (ups ++ (match j.d with | some d => [(d, v)] | none => []), bx')
      | none => none : Option (List (Nat × A) × Bx)) = some (u, bx2)) ∧ (memI j.i = 2 → strip bx' = strip bx) := by
    intro h
    cases he : evI Φ nb j.i e bx with
    | none => simp [he] at h
    | some q =>
      obtain ⟨v, ups, b2⟩ := q
      simp only [he, Option.some.injEq, Prod.mk.injEq] at h
      obtain ⟨rfl, rfl⟩ := h
      obtain ⟨f1, f2, f3, f4, f5⟩ := evI_facts Φ nb j.i e bx v ups b2 he
      refine ⟨fun p hp => ?_, f2, fun hm bx2 => ?_, fun hm bx2 hs => ?_, f5⟩
      · rcases List.mem_append.1 hp with hp | hp
        · simp only [writesJ, List.mem_append]; exact .inr (f1 p hp)
        · exact hd v p hp
      · rw [f3 hm bx2]
      · rw [f4 hm bx2 hs]
  have skip : ∀ {d : Option Nat}, (some ((match j.d with | some d => [(d, A.und)] | none => []), bx) : Option (List (Nat × A) × Bx)) = some (u, bx') →
      (∀ p ∈ u, p.1 ∈ writesJ j) ∧ (memI j.i ≤ 1 → bx' = bx) ∧ (memI j.i = 0 → ∀ bx2, (some ((match j.d with | some d => [(d, A.und)] | none => []), bx2) : Option (List (Nat × A) × Bx)) = some (u, bx2)) ∧
      (memI j.i = 1 → ∀ bx2, strip bx2 = strip bx → (some ((match j.d with | some d => [(d, A.und)] | none => []), bx2) : Option (List (Nat × A) × Bx)) = some (u, bx2)) ∧ (memI j.i = 2 → strip bx' = strip bx) := by
    intro _ h
    cases h
    exact ⟨hd _, fun _ => rfl, fun _ _ => rfl, fun _ _ _ => rfl, fun _ => rfl⟩
  cases hg : j.g with
  | none => simp only [hg] at h ⊢; exact run h
  | some p =>
    obtain ⟨t, b⟩ := p
    simp only [hg] at h ⊢
    cases ht : e t with
    | val v =>
      cases v with
      | bool b' =>
        simp only [ht] at h ⊢
        by_cases hb : b' = b
        · simp only [if_pos hb] at h ⊢; exact run h
        · simp only [if_neg hb] at h ⊢; exact skip (d := none) h
      | _ => simp [ht] at h
    | und => simp only [ht] at h ⊢; exact skip (d := none) h
    | _ => simp [ht] at h

def indep (p q : J) : Bool :=
  (writesJ p).all (fun t => !(readsJ q).contains t && !(writesJ q).contains t) && (writesJ q).all (fun t => !(readsJ p).contains t) &&
  (memI p.i == 0 || memI q.i == 0 || (memI p.i == 1 && memI q.i == 1) || (memI p.i == 1 && memI q.i == 2) || (memI p.i == 2 && memI q.i == 1))

theorem puts_other : ∀ (u : List (Nat × A)) (e : Env) (t : Nat), (∀ p ∈ u, p.1 ≠ t) → puts u e t = e t
  | [], _, _, _ => rfl
  | (d, x) :: u, e, t, h => by
    show puts u (put d x e) t = e t
    rw [puts_other u _ t fun p hp => h p (by simp [hp])]
    rw [put_at, if_neg]
    intro e'; exact h (d, x) (by simp) e'.symm

theorem puts_same : ∀ (u : List (Nat × A)) (e e' : Env) (t : Nat), (∃ p ∈ u, p.1 = t) → puts u e t = puts u e' t
  | [], _, _, _, h => by simp at h
  | (d, x) :: u, e, e', t, h => by
    show puts u (put d x e) t = puts u (put d x e') t
    by_cases hu : ∃ p ∈ u, p.1 = t
    · exact puts_same u _ _ t hu
    · have hne : ∀ p ∈ u, p.1 ≠ t := fun p hp e => hu ⟨p, hp, e⟩
      rw [puts_other u _ t hne, puts_other u _ t hne]
      obtain ⟨p, hp, hpt⟩ := h
      rcases List.mem_cons.1 hp with rfl | hp
      · simp only at hpt; subst hpt; simp [put_at]
      · exact absurd hpt (hne p hp)

theorem puts_comm (u v : List (Nat × A)) (e : Env) (h : ∀ p ∈ u, ∀ q ∈ v, p.1 ≠ q.1) : puts v (puts u e) = puts u (puts v e) := by
  funext t
  by_cases hu : ∃ p ∈ u, p.1 = t
  · obtain ⟨p, hp, rfl⟩ := hu
    rw [puts_other v _ _ fun q hq e => h p hp q hq e.symm]
    exact puts_same u _ _ _ ⟨p, hp, rfl⟩
  · have hne : ∀ p ∈ u, p.1 ≠ t := fun p hp e => hu ⟨p, hp, e⟩
    rw [puts_other u _ t hne]
    by_cases hv : ∃ q ∈ v, q.1 = t
    · exact puts_same v _ _ _ hv
    · have hne' : ∀ q ∈ v, q.1 ≠ t := fun q hq e => hv ⟨q, hq, e⟩
      rw [puts_other v _ t hne', puts_other v _ t hne', puts_other u _ t hne]

/-- Two that do not touch each other may change places. -/
theorem comm2 (Φ : CallF) (nb : Nat) (p q : J) (h : indep p q = true) (s s1 s2) (h1 : evJ Φ nb p s = some s1) (h2 : evJ Φ nb q s1 = some s2) :
    ∃ t, evJ Φ nb q s = some t ∧ evJ Φ nb p t = some s2 := by
  simp only [indep, Bool.and_eq_true, List.all_eq_true, Bool.not_eq_true', List.contains_eq_mem, decide_eq_false_iff_not, Bool.or_eq_true, beq_iff_eq, decide_eq_true_eq] at h
  obtain ⟨⟨hpq, hqp⟩, hm⟩ := h
  rw [evJ_eff, Option.map_eq_some_iff] at h1 h2
  obtain ⟨⟨u, bx1⟩, e1, rfl⟩ := h1
  obtain ⟨⟨v, bx2⟩, e2, rfl⟩ := h2
  simp only at e2
  obtain ⟨f1, f2, f3, f4, f5⟩ := effJ_facts Φ nb p _ _ _ _ e1
  have hq' : effJ Φ nb q s.1 bx1 = some (v, bx2) := by
    rw [← e2]
    exact effJ_congr Φ nb q bx1 fun t ht => (puts_other u s.1 t fun a ha e => by
      have := (hpq _ (f1 a ha)).1
      exact this (e ▸ ht)).symm
  obtain ⟨g1, g2, g3, g4, g5⟩ := effJ_facts Φ nb q _ _ _ _ hq'
  have hkeys : ∀ a ∈ u, ∀ b ∈ v, a.1 ≠ b.1 := fun a ha b hb e => (hpq _ (f1 a ha)).2 (e ▸ g1 b hb)
  have hp' : ∀ bx, effJ Φ nb p (puts v s.1) bx = effJ Φ nb p s.1 bx := fun bx =>
    effJ_congr Φ nb p bx fun t ht => puts_other v s.1 t fun a ha e => hqp _ (g1 a ha) (e ▸ ht)
  rcases hm with (((hm | hm) | ⟨hm, hm'⟩) | ⟨hm, hm'⟩) | ⟨hm, hm'⟩
  · -- p leaves the boxes alone
    have hb := f2 (by omega)
    subst hb
    refine ⟨(puts v s.1, bx2), by rw [evJ_eff, hq']; rfl, ?_⟩
    rw [evJ_eff, hp', f3 hm bx2]
    simp only [Option.map_some]
    rw [puts_comm u v _ hkeys]
  · have hb := g2 (by omega)
    subst hb
    refine ⟨(puts v s.1, s.2), by rw [evJ_eff, g3 hm s.2]; rfl, ?_⟩
    rw [evJ_eff, hp', e1]
    simp only [Option.map_some]
    rw [puts_comm u v _ hkeys]
  · have hb := f2 (by omega)
    have hb' := g2 (by omega)
    subst hb
    subst hb'
    refine ⟨(puts v s.1, s.2), by rw [evJ_eff, hq']; rfl, ?_⟩
    rw [evJ_eff, hp', e1]
    simp only [Option.map_some]
    rw [puts_comm u v _ hkeys]
  · -- p reads, q takes a right
    have hb := f2 (by omega)
    subst hb
    refine ⟨(puts v s.1, bx2), by rw [evJ_eff, hq']; rfl, ?_⟩
    rw [evJ_eff, hp', f4 hm bx2 (g5 hm')]
    simp only [Option.map_some]
    rw [puts_comm u v _ hkeys]
  · have hb := g2 (by omega)
    subst hb
    refine ⟨(puts v s.1, s.2), by rw [evJ_eff, g4 hm' s.2 (f5 hm).symm]; rfl, ?_⟩
    rw [evJ_eff, hp', e1]
    simp only [Option.map_some]
    rw [puts_comm u v _ hkeys]

theorem evJs_append (Φ : CallF) (nb : Nat) : ∀ (l m : List J) (s), evJs Φ nb (l ++ m) s = (evJs Φ nb l s).bind (evJs Φ nb m)
  | [], _, _ => rfl
  | j :: l, m, s => by
    simp only [List.cons_append, evJs]
    cases evJ Φ nb j s with
    | none => rfl
    | some s' => exact evJs_append Φ nb l m s'

/-- One moves behind all that it does not touch. -/
theorem move_back (Φ : CallF) (nb : Nat) (p : J) : ∀ (l : List J) (s s2), (∀ q ∈ l, indep p q = true) → evJs Φ nb (p :: l) s = some s2 → evJs Φ nb (l ++ [p]) s = some s2
  | [], s, s2, _, h => h
  | q :: l, s, s2, hi, h => by
    simp only [evJs] at h
    cases h1 : evJ Φ nb p s with
    | none => simp [h1] at h
    | some s1 =>
      simp only [h1] at h
      cases h2 : evJ Φ nb q s1 with
      | none => simp [h2] at h
      | some s3 =>
        simp only [h2] at h
        obtain ⟨t, t1, t2⟩ := comm2 Φ nb p q (hi q (by simp)) s s1 s3 h1 h2
        simp only [List.cons_append, evJs, t1]
        exact move_back Φ nb p l t s2 (fun x hx => hi x (by simp [hx])) (by simp only [evJs, t2]; exact h)

/-- Any order that keeps what must be kept. -/
theorem perm_sound (Φ : CallF) (nb : Nat) (js : Nat → J) : ∀ (I : List Nat) (σ : List Nat) (s s2), I.Pairwise (· < ·) → σ.Nodup → (∀ x, x ∈ I ↔ x ∈ σ) →
    σ.Pairwise (fun q p => ¬ (p < q ∧ indep (js p) (js q) = false)) → evJs Φ nb (I.map js) s = some s2 → evJs Φ nb (σ.map js) s = some s2
  | [], σ, s, s2, _, _, hm, _, h => by
    have : σ = [] := by
      cases σ with
      | nil => rfl
      | cons x σ => exact absurd ((hm x).2 (by simp)) (by simp)
    subst this
    exact h
  | p :: I, σ, s, s2, hI, hn, hm, hσ, h => by
    obtain ⟨σ1, σ2, rfl⟩ := List.append_of_mem ((hm p).1 (by simp))
    rw [List.pairwise_cons] at hI
    have hn' := hn
    rw [List.nodup_append] at hn'
    obtain ⟨n1, n2, n3⟩ := hn'
    rw [List.nodup_cons] at n2
    have hσ' := hσ
    rw [List.pairwise_append] at hσ'
    obtain ⟨q1, q2, q3⟩ := hσ'
    have hind : ∀ q ∈ σ1, indep (js p) (js q) = true := by
      intro q hq
      have hqI : q ∈ p :: I := (hm q).2 (by simp [hq])
      have hne : q ≠ p := fun e => n3 q hq p (by simp) e
      have hlt : p < q := hI.1 q ((List.mem_cons.1 hqI).resolve_left hne)
      have := q3 q hq p (by simp)
      cases hi : indep (js p) (js q) with
      | true => rfl
      | false => exact absurd ⟨hlt, hi⟩ this
    simp only [List.map_cons, evJs] at h
    cases h1 : evJ Φ nb (js p) s with
    | none => simp [h1] at h
    | some s1 =>
      simp only [h1] at h
      have ih := perm_sound Φ nb js I (σ1 ++ σ2) s1 s2 hI.2 (by
          rw [List.nodup_append]; exact ⟨n1, n2.2, fun a ha b hb => n3 a ha b (by simp [hb])⟩)
        (by
          intro x
          constructor
          · intro hx
            have := (hm x).1 (by simp [hx])
            have hne : x ≠ p := by rintro rfl; exact absurd (hI.1 x hx) (Nat.lt_irrefl _)
            simp only [List.mem_append, List.mem_cons] at this ⊢
            rcases this with h | h | h
            · exact .inl h
            · exact absurd h hne
            · exact .inr h
          · intro hx
            have hx' : x ∈ σ1 ++ p :: σ2 := by
              simp only [List.mem_append, List.mem_cons] at hx ⊢
              rcases hx with h | h
              · exact .inl h
              · exact .inr (.inr h)
            have hne : x ≠ p := by
              rintro rfl
              rcases List.mem_append.1 hx with h | h
              · exact n3 x h x (by simp) rfl
              · exact n2.1 h
            exact (List.mem_cons.1 ((hm x).2 hx')).resolve_left hne)
        (hσ.sublist (List.Sublist.append (List.Sublist.refl _) (List.sublist_cons_self _ _))) h
      rw [List.map_append, evJs_append] at ih
      rw [List.map_append, List.map_cons, show σ1.map js ++ js p :: σ2.map js = (σ1.map js ++ [js p]) ++ σ2.map js by simp, evJs_append]
      cases hm1 : evJs Φ nb (σ1.map js) s1 with
      | none => simp [hm1] at ih
      | some s3 =>
        rw [move_back Φ nb (js p) (σ1.map js) s s3 (by simpa using hind) (by simp only [evJs, h1]; exact hm1)]
        rw [hm1] at ih
        exact ih
end Go.Proofs.YtkohggddaheefaaEv
