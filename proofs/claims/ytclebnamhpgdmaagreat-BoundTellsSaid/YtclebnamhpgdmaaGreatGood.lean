/- What a set is of which nothing is wrong; sums, greatest ones. -/
import Derived.Test.YtclebnamhpgdmaaGreatFew
import Derived.Test.YtclebnamhpgdmaaGreatClone
set_option linter.unusedSimpArgs false
set_option linter.unusedVariables false
namespace Go.Proofs.YtclebnamhpgdmaaGreatEv
open Go
def sumL {α : Type} (f : α → Int) : List α → Int
  | [] => 0
  | a :: l => f a + sumL f l
def maxL {α : Type} (f : α → Int) : List α → Int
  | [] => 0
  | a :: l => max (f a) (maxL f l)
theorem maxL_nonneg {α : Type} (f : α → Int) : ∀ l : List α, 0 ≤ maxL f l
  | [] => Int.le_refl _
  | a :: l => by have := maxL_nonneg f l; unfold maxL; omega
theorem sumL_append {α : Type} (f : α → Int) (m : List α) : ∀ l : List α, sumL f (l ++ m) = sumL f l + sumL f m
  | [] => by simp [sumL]
  | a :: l => by simp [sumL, sumL_append f m l]; omega
theorem maxL_append {α : Type} (f : α → Int) (m : List α) : ∀ l : List α, maxL f (l ++ m) = max (maxL f l) (maxL f m)
  | [] => by have := maxL_nonneg f m; simp [maxL]; omega
  | a :: l => by simp [maxL, maxL_append f m l, Int.max_assoc]
theorem take_succ' {α : Type} (l : List α) (i : Nat) (h : i < l.length) : l.take (i + 1) = l.take i ++ [l[i]] := by
  rw [List.take_add_one, List.getElem?_eq_getElem h]; rfl
theorem sumL_take {α : Type} (f : α → Int) (l : List α) (i : Nat) (h : i < l.length) : sumL f (l.take (i + 1)) = sumL f (l.take i) + f l[i] := by
  rw [take_succ' l i h, sumL_append]; simp [sumL]
theorem maxL_take {α : Type} (f : α → Int) (l : List α) (i : Nat) (h : i < l.length) : maxL f (l.take (i + 1)) = max (maxL f (l.take i)) (f l[i]) := by
  rw [take_succ' l i h, maxL_append]; have := maxL_nonneg f (l.take i); simp [maxL]; omega
theorem sumL_take0 {α : Type} (f : α → Int) (l : List α) : sumL f (l.take 0) = 0 := by simp [sumL]
theorem maxL_take0 {α : Type} (f : α → Int) (l : List α) : maxL f (l.take 0) = 0 := by simp [maxL]
theorem sumL_le {α : Type} (f : α → Int) (c : Int) : ∀ l : List α, (∀ a ∈ l, f a ≤ c) → sumL f l ≤ l.length * c
  | [], _ => by simp [sumL]
  | a :: l, h => by
    have h1 := h a (by simp); have h2 := sumL_le f c l fun x hx => h x (by simp [hx])
    rw [sumL, List.length_cons, Int.natCast_succ, Int.add_mul, Int.one_mul]; omega
theorem sumL_ge {α : Type} (f : α → Int) : ∀ l : List α, (∀ a ∈ l, 0 ≤ f a) → 0 ≤ sumL f l
  | [], _ => by simp [sumL]
  | a :: l, h => by
    have h1 := h a (by simp); have h2 := sumL_ge f l fun x hx => h x (by simp [hx])
    rw [sumL]; omega
theorem maxL_le {α : Type} (f : α → Int) (c : Int) (hc : 0 ≤ c) : ∀ l : List α, (∀ a ∈ l, f a ≤ c) → maxL f l ≤ c
  | [], _ => by simpa [maxL] using hc
  | a :: l, h => by
    have h1 := h a (by simp); have h2 := maxL_le f c hc l fun x hx => h x (by simp [hx])
    rw [maxL]; omega
theorem le_maxL {α : Type} (f : α → Int) : ∀ (l : List α) (a : α), a ∈ l → f a ≤ maxL f l
  | b :: l, a, h => by
    rcases List.mem_cons.1 h with rfl | h
    · rw [maxL]; omega
    · have := le_maxL f l a h; rw [maxL]; omega
theorem sumL_congr {α : Type} {f g : α → Int} : ∀ (l : List α), (∀ a ∈ l, f a = g a) → sumL f l = sumL g l
  | [], _ => rfl
  | a :: l, h => by rw [sumL, sumL, h a (by simp), sumL_congr l fun x hx => h x (by simp [hx])]
theorem maxL_congr {α : Type} {f g : α → Int} : ∀ (l : List α), (∀ a ∈ l, f a = g a) → maxL f l = maxL g l
  | [], _ => rfl
  | a :: l, h => by rw [maxL, maxL, h a (by simp), maxL_congr l fun x hx => h x (by simp [hx])]
theorem sumL_filter {α : Type} (f : α → Int) (c : α → Bool) : ∀ l : List α, sumL f (l.filter c) = sumL (fun a => if c a then f a else 0) l
  | [] => rfl
  | a :: l => by rw [List.filter_cons]; split <;> rename_i h <;> simp [sumL, sumL_filter f c l, h]
theorem maxL_filter {α : Type} (f : α → Int) (c : α → Bool) : ∀ l : List α, maxL f (l.filter c) = maxL (fun a => if c a then f a else 0) l
  | [] => rfl
  | a :: l => by
    have := maxL_nonneg (fun a => if c a then f a else 0) l
    rw [List.filter_cons]; split <;> rename_i h <;> simp only [maxL, maxL_filter f c l, h] <;> simp <;> omega
theorem sumL_map {α β : Type} (f : β → Int) (g : α → β) : ∀ l : List α, sumL f (l.map g) = sumL (fun a => f (g a)) l
  | [] => rfl
  | a :: l => by simp [sumL, sumL_map f g l]
theorem maxL_map {α β : Type} (f : β → Int) (g : α → β) : ∀ l : List α, maxL f (l.map g) = maxL (fun a => f (g a)) l
  | [] => rfl
  | a :: l => by simp [maxL, maxL_map f g l]
theorem sumL_add {α : Type} (f g : α → Int) : ∀ l : List α, sumL (fun a => f a + g a) l = sumL f l + sumL g l
  | [] => rfl
  | a :: l => by simp only [sumL, sumL_add f g l]; omega
theorem sumL_mono {α : Type} {f g : α → Int} : ∀ (l : List α), (∀ a ∈ l, f a ≤ g a) → sumL f l ≤ sumL g l
  | [], _ => Int.le_refl _
  | a :: l, h => by
    have h1 := h a (by simp); have h2 := sumL_mono l fun x hx => h x (by simp [hx])
    rw [sumL, sumL]; omega
theorem maxL_mono {α : Type} {f g : α → Int} : ∀ (l : List α), (∀ a ∈ l, f a ≤ g a) → maxL f l ≤ maxL g l
  | [], _ => Int.le_refl _
  | a :: l, h => by
    have h1 := h a (by simp); have h2 := maxL_mono l fun x hx => h x (by simp [hx])
    rw [maxL, maxL]; omega
/-! ### a set of which nothing is wrong -/
structure GoodP (s : St) (p : Pt) : Prop where
  kind : 1 ≤ p.kind ∧ p.kind ≤ 3
  len : 1 ≤ p.len ∧ p.len ≤ 60
  res : p.kind = 3 → 0 ≤ p.res ∧ p.res < s.homes.length
  res0 : p.kind ≠ 3 → p.res = 0
structure GoodT (s : St) (t : Tk) : Prop where
  name : nameOk t.name = true
  period : 1 ≤ t.period ∧ t.period ≤ 3000
  deadline : 1 ≤ t.deadline ∧ t.deadline ≤ t.period
  prio : 1 ≤ t.prio ∧ t.prio ≤ 1000
  cluster : 0 ≤ t.cluster ∧ t.cluster < s.cores.length
  parts : 1 ≤ t.parts.length ∧ t.parts.length ≤ 6
  part : ∀ p ∈ t.parts, GoodP s p
structure Good (s : St) : Prop where
  proto : 1 ≤ s.proto ∧ s.proto ≤ 3
  cores : 1 ≤ s.cores.length ∧ s.cores.length ≤ 3
  core : ∀ c ∈ s.cores, 1 ≤ c ∧ c ≤ 3
  homes : s.homes.length ≤ 4
  home : ∀ h ∈ s.homes, 0 ≤ h ∧ h < s.cores.length
  tasks : 1 ≤ s.tasks.length ∧ s.tasks.length ≤ 6
  task : ∀ t ∈ s.tasks, GoodT s t
  uniq : ∀ i j (hi : i < s.tasks.length) (hj : j < s.tasks.length), i < j → twice s.tasks[j] s.tasks[i] = false
theorem partBad_good {s : St} {p : Pt} : partBad s.homes.length p = false ↔ GoodP s p := by
  unfold partBad
  constructor
  · intro h
    simp at h
    obtain ⟨⟨⟨h1, h2⟩, h3, h4⟩, h5⟩ := h
    exact ⟨⟨h1, h2⟩, ⟨h3, h4⟩, fun e => by
      by_cases hh : p.res < 0 ∨ (s.homes.length : Int) - 1 < p.res
      · exact absurd e (h5 (.inr hh)).1
      · omega, fun e => (h5 (.inl e)).2⟩
  · rintro ⟨h1, h2, h3, h4⟩
    simp
    refine ⟨⟨h1, h2⟩, fun hh => ?_⟩
    by_cases h : p.kind = 3
    · have := h3 h; omega
    · exact ⟨h, h4 h⟩
theorem taskErr_good {s : St} {n : Nat} {t : Tk} : taskErr s n t = 0 ↔ GoodT s t ∧ (s.tasks.take n).any (twice t) = false := by
  unfold taskErr
  constructor
  · intro h
    split at h
    · omega
    · rename_i c1
      split at h
      · omega
      · rename_i c2
        split at h
        · omega
        · rename_i c3
          split at h
          · omega
          · rename_i c4
            simp only [Bool.not_eq_true, Bool.or_eq_false_iff, Bool.not_eq_false', Bool.and_eq_true, decide_eq_true_eq] at c1 c2 c3 c4
            obtain ⟨⟨⟨k1, k2⟩, k3⟩, k4⟩ := c1
            unfold partsOk at c4
            simp only [Bool.and_eq_true, decide_eq_true_eq, Bool.not_eq_true', List.any_eq_false] at c4
            obtain ⟨⟨m1, m2⟩, m3⟩ := c4
            exact ⟨⟨k1, k2, k3, k4, by omega, by omega, fun p hp => partBad_good.1 (by simpa using m1 p hp)⟩, c3⟩
  · rintro ⟨⟨k1, k2, k3, k4, k5, k6, k7⟩, c3⟩
    have c1 : (!nameOk t.name || !(decide (1 ≤ t.period) && decide (t.period ≤ 3000)) || !(decide (1 ≤ t.deadline) && decide (t.deadline ≤ t.period)) || !(decide (1 ≤ t.prio) && decide (t.prio ≤ 1000))) = false := by simp [k1, k2, k3, k4]
    have c2 : (!(decide (0 ≤ t.cluster) && decide (t.cluster ≤ (s.cores.length : Int) - 1))) = false := by simp; omega
    have c4 : partsOk s.homes.length t.parts = true := by
      unfold partsOk
      have : t.parts.any (partBad s.homes.length) = false := by
        rw [List.any_eq_false]; intro p hp; simp [partBad_good.2 (k7 p hp)]
      simp [this]; omega
    rw [c1, c2, c3, c4]; rfl
theorem fst_none_iff (s : St) : fstP (fun i => !eqz (errAt s i) 0) 0 s.tasks.length = none ↔ ∀ i (h : i < s.tasks.length), taskErr s i s.tasks[i] = 0 := by
  rw [fstP_none]
  constructor
  · intro h i hi
    have := h i (Nat.zero_le _) (by omega)
    simpa [errAt, hi, eqz] using this
  · intro h i _ hi
    have hi : i < s.tasks.length := by omega
    simp [errAt, hi, eqz, h i hi]
theorem chk_good (s : St) : (chk s).2 = 0 ↔ Good s := by
  unfold chk
  constructor
  · intro h
    split at h
    · simp at h
    · rename_i c1
      split at h
      · simp at h
      · rename_i c2
        split at h
        · simp at h
        · rename_i c3
          split at h
          · simp at h
          · rename_i c4
            split at h
            · rename_i c5
              rw [fst_none_iff] at c5
              simp only [placedOk, Bool.not_eq_false, Bool.and_eq_true, decide_eq_true_eq, Bool.not_eq_true', List.any_eq_false] at c2
              obtain ⟨⟨⟨⟨k1, k2⟩, k3⟩, k4⟩, k5⟩ := c2
              have h6 := fun i hi => taskErr_good.1 (c5 i hi)
              refine ⟨by omega, ⟨by omega, by omega⟩, fun c hc => ?_, by omega, fun c hc => ?_, by omega, fun t ht => ?_, fun i j hi hj hij => ?_⟩
              · have := k4 c hc; simp [coreBad] at this; omega
              · have := k5 c hc; simp [homeBad] at this; omega
              · obtain ⟨i, hi, rfl⟩ := List.getElem_of_mem ht
                exact (h6 i hi).1
              · have := (h6 j hj).2
                rw [List.any_eq_false] at this
                have h7 := this s.tasks[i] (by rw [List.mem_take_iff_getElem]; exact ⟨i, by omega, rfl⟩)
                simpa using h7
            · rename_i k c5
              obtain ⟨_, _, c6⟩ := fstP_some _ _ _ c5
              simp [eqz] at c6
              exact absurd h c6
  · intro g
    have hp := g.proto; have ht := g.tasks; have hc := g.cores; have hh := g.homes
    rw [if_neg (by omega)]
    have h2 : placedOk s = true := by
      unfold placedOk
      have a1 : s.cores.any coreBad = false := by
        rw [List.any_eq_false]; intro c h; have := g.core c h; simp [coreBad]; omega
      have a2 : s.homes.any (homeBad s.cores.length) = false := by
        rw [List.any_eq_false]; intro c h; have := g.home c h; simp [homeBad]; omega
      rw [a1, a2]; simp; omega
    rw [h2, if_neg (by simp), if_neg (by omega), if_neg (by omega)]
    have h3 : fstP (fun i => !eqz (errAt s i) 0) 0 s.tasks.length = none := by
      rw [fst_none_iff]
      intro i hi
      rw [taskErr_good]
      refine ⟨g.task _ (List.getElem_mem hi), ?_⟩
      rw [List.any_eq_false]
      intro t hm
      rw [List.mem_take_iff_getElem] at hm
      obtain ⟨j, hj, rfl⟩ := hm
      have := g.uniq j i (by omega) hi (by omega)
      simp [this]
    rw [h3]
theorem Good.sm {s : St} (g : Good s) (hn : ∀ t ∈ s.tasks, t.name.size ≤ 20) : Sm s := ⟨by have := g.cores; omega, by have := g.homes; omega, by have := g.tasks; omega, fun t ht => by have := (g.task t ht).parts; omega, hn⟩
def okS (s : St) : Bool := eqz (chk s).2 0
theorem okS_iff (s : St) : okS s = true ↔ Good s := by rw [← chk_good]; simp [okS, eqz]
def thereS (s : St) (n : Int) : Bool := okS s && decide (0 ≤ n) && decide (n < s.tasks.length)
end Go.Proofs.YtclebnamhpgdmaaGreatEv
