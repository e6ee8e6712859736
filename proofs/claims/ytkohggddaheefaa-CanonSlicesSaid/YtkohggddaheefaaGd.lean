/- What a set is of which nothing is wrong; sums, greatest ones. -/
import Derived.Test.YtkohggddaheefaaTsk
import Derived.Test.YtkohggddaheefaaLib
set_option linter.unusedSimpArgs false
set_option linter.unusedVariables false
namespace Go.Proofs.YtkohggddaheefaaEv
open Go
def sumL {α : Type} (f : α → Int) : List α → Int
  | [] => 0
  | a :: l => f a + sumL f l
def maxL {α : Type} (f : α → Int) : List α → Int
  | [] => 0
  | a :: l => max (f a) (maxL f l)
theorem maxL_nonneg {α : Type} (f : α → Int) : ∀ l : List α, 0 ≤ maxL f l
  | [] => Int.le_refl _
  | a :: l => by have := maxL_nonneg f l; unfold maxL; omega
theorem sumL_append {α : Type} (f : α → Int) (m : List α) : ∀ l : List α, sumL f (l ++ m) = sumL f l + sumL f m
  | [] => by simp [sumL]
  | a :: l => by simp [sumL, sumL_append f m l]; omega
theorem maxL_append {α : Type} (f : α → Int) (m : List α) : ∀ l : List α, maxL f (l ++ m) = max (maxL f l) (maxL f m)
  | [] => by have := maxL_nonneg f m; simp [maxL]; omega
  | a :: l => by simp [maxL, maxL_append f m l, Int.max_assoc]
theorem take_succ' {α : Type} (l : List α) (i : Nat) (h : i < l.length) : l.take (i + 1) = l.take i ++ [l[i]] := by
  rw [List.take_add_one, List.getElem?_eq_getElem h]; rfl
theorem sumL_take {α : Type} (f : α → Int) (l : List α) (i : Nat) (h : i < l.length) : sumL f (l.take (i + 1)) = sumL f (l.take i) + f l[i] := by
  rw [take_succ' l i h, sumL_append]; simp [sumL]
theorem maxL_take {α : Type} (f : α → Int) (l : List α) (i : Nat) (h : i < l.length) : maxL f (l.take (i + 1)) = max (maxL f (l.take i)) (f l[i]) := by
  rw [take_succ' l i h, maxL_append]; have := maxL_nonneg f (l.take i); simp [maxL]; omega
theorem sumL_take0 {α : Type} (f : α → Int) (l : List α) : sumL f (l.take 0) = 0 := by simp [sumL]
theorem maxL_take0 {α : Type} (f : α → Int) (l : List α) : maxL f (l.take 0) = 0 := by simp [maxL]
theorem sumL_le {α : Type} (f : α → Int) (c : Int) : ∀ l : List α, (∀ a ∈ l, f a ≤ c) → sumL f l ≤ l.length * c
  | [], _ => by simp [sumL]
  | a :: l, h => by
    have h1 := h a (by simp); have h2 := sumL_le f c l fun x hx => h x (by simp [hx])
    rw [sumL, List.length_cons, Int.natCast_succ, Int.add_mul, Int.one_mul]; omega
theorem sumL_ge {α : Type} (f : α → Int) : ∀ l : List α, (∀ a ∈ l, 0 ≤ f a) → 0 ≤ sumL f l
  | [], _ => by simp [sumL]
  | a :: l, h => by
    have h1 := h a (by simp); have h2 := sumL_ge f l fun x hx => h x (by simp [hx])
    rw [sumL]; omega
theorem maxL_le {α : Type} (f : α → Int) (c : Int) (hc : 0 ≤ c) : ∀ l : List α, (∀ a ∈ l, f a ≤ c) → maxL f l ≤ c
  | [], _ => by simpa [maxL] using hc
  | a :: l, h => by
    have h1 := h a (by simp); have h2 := maxL_le f c hc l fun x hx => h x (by simp [hx])
    rw [maxL]; omega
theorem le_maxL {α : Type} (f : α → Int) : ∀ (l : List α) (a : α), a ∈ l → f a ≤ maxL f l
  | b :: l, a, h => by
    rcases List.mem_cons.1 h with rfl | h
    · rw [maxL]; omega
    · have := le_maxL f l a h; rw [maxL]; omega
theorem sumL_congr {α : Type} {f g : α → Int} : ∀ (l : List α), (∀ a ∈ l, f a = g a) → sumL f l = sumL g l
  | [], _ => rfl
  | a :: l, h => by rw [sumL, sumL, h a (by simp), sumL_congr l fun x hx => h x (by simp [hx])]
theorem maxL_congr {α : Type} {f g : α → Int} : ∀ (l : List α), (∀ a ∈ l, f a = g a) → maxL f l = maxL g l
  | [], _ => rfl
  | a :: l, h => by rw [maxL, maxL, h a (by simp), maxL_congr l fun x hx => h x (by simp [hx])]
theorem sumL_filter {α : Type} (f : α → Int) (c : α → Bool) : ∀ l : List α, sumL f (l.filter c) = sumL (fun a => if c a then f a else 0) l
  | [] => rfl
  | a :: l => by rw [List.filter_cons]; split <;> rename_i h <;> simp [sumL, sumL_filter f c l, h]
theorem maxL_filter {α : Type} (f : α → Int) (c : α → Bool) : ∀ l : List α, maxL f (l.filter c) = maxL (fun a => if c a then f a else 0) l
  | [] => rfl
  | a :: l => by
    have := maxL_nonneg (fun a => if c a then f a else 0) l
    rw [List.filter_cons]; split <;> rename_i h <;> simp only [maxL, maxL_filter f c l, h] <;> simp <;> omega
theorem sumL_map {α β : Type} (f : β → Int) (g : α → β) : ∀ l : List α, sumL f (l.map g) = sumL (fun a => f (g a)) l
  | [] => rfl
  | a :: l => by simp [sumL, sumL_map f g l]
theorem maxL_map {α β : Type} (f : β → Int) (g : α → β) : ∀ l : List α, maxL f (l.map g) = maxL (fun a => f (g a)) l
  | [] => rfl
  | a :: l => by simp [maxL, maxL_map f g l]
theorem sumL_add {α : Type} (f g : α → Int) : ∀ l : List α, sumL (fun a => f a + g a) l = sumL f l + sumL g l
  | [] => rfl
  | a :: l => by simp only [sumL, sumL_add f g l]; omega
theorem sumL_mono {α : Type} {f g : α → Int} : ∀ (l : List α), (∀ a ∈ l, f a ≤ g a) → sumL f l ≤ sumL g l
  | [], _ => Int.le_refl _
  | a :: l, h => by
    have h1 := h a (by simp); have h2 := sumL_mono l fun x hx => h x (by simp [hx])
    rw [sumL, sumL]; omega
theorem maxL_mono {α : Type} {f g : α → Int} : ∀ (l : List α), (∀ a ∈ l, f a ≤ g a) → maxL f l ≤ maxL g l
  | [], _ => Int.le_refl _
  | a :: l, h => by
    have h1 := h a (by simp); have h2 := maxL_mono l fun x hx => h x (by simp [hx])
    rw [maxL, maxL]; omega
/-! ### a set of which nothing is wrong -/
structure GoodP (s : St) (p : Pt) : Prop where
  kind : 1 ≤ p.kind ∧ p.kind ≤ 3
  len : 1 ≤ p.len ∧ p.len ≤ 60
  res : p.kind = 3 → 0 ≤ p.res ∧ p.res < s.homes.length
  res0 : p.kind ≠ 3 → p.res = 0
structure GoodT (s : St) (t : Tk) : Prop where
  name : nameOk t.name = true
  period : 1 ≤ t.period ∧ t.period ≤ 3000
  deadline : 1 ≤ t.deadline ∧ t.deadline ≤ t.period
  prio : 1 ≤ t.prio ∧ t.prio ≤ 1000
  cluster : 0 ≤ t.cluster ∧ t.cluster < s.cores.length
  parts : 1 ≤ t.parts.length ∧ t.parts.length ≤ 6
  part : ∀ p ∈ t.parts, GoodP s p
structure Good (s : St) : Prop where
  proto : 1 ≤ s.proto ∧ s.proto ≤ 3
  cores : 1 ≤ s.cores.length ∧ s.cores.length ≤ 3
  core : ∀ c ∈ s.cores, 1 ≤ c ∧ c ≤ 3
  homes : s.homes.length ≤ 4
  home : ∀ h ∈ s.homes, 0 ≤ h ∧ h < s.cores.length
  tasks : 1 ≤ s.tasks.length ∧ s.tasks.length ≤ 6
  task : ∀ t ∈ s.tasks, GoodT s t
  uniq : ∀ i j (hi : i < s.tasks.length) (hj : j < s.tasks.length), i < j → twice s.tasks[j] s.tasks[i] = false
theorem partBad_good {s : St} {p : Pt} : partBad s.homes.length p = false ↔ GoodP s p := by
  unfold partBad
  constructor
  · intro h
    simp at h
    obtain ⟨⟨⟨h1, h2⟩, h3, h4⟩, h5⟩ := h
    exact ⟨⟨h1, h2⟩, ⟨h3, h4⟩, fun e => by
      by_cases hh : p.res < 0 ∨ (s.homes.length : Int) - 1 < p.res
      · exact absurd e (h5 (.inr hh)).1
      · omega, fun e => (h5 (.inl e)).2⟩
  · rintro ⟨h1, h2, h3, h4⟩
    simp
    refine ⟨⟨h1, h2⟩, fun hh => ?_⟩
    by_cases h : p.kind = 3
    · have := h3 h; omega
    · exact ⟨h, h4 h⟩
theorem taskErr_good {s : St} {n : Nat} {t : Tk} : taskErr s n t = 0 ↔ GoodT s t ∧ (s.tasks.take n).any (twice t) = false := by
  unfold taskErr
  constructor
  · intro h
    split at h
    · omega
    · rename_i c1
      split at h
      · omega
      · rename_i c2
        split at h
        · omega
        · rename_i c3
          split at h
          · omega
          · rename_i c4
            simp only [Bool.not_eq_true, Bool.or_eq_false_iff, Bool.not_eq_false', Bool.and_eq_true, decide_eq_true_eq] at c1 c2 c3 c4
            obtain ⟨⟨⟨k1, k2⟩, k3⟩, k4⟩ := c1
            unfold partsOk at c4
            simp only [Bool.and_eq_true, decide_eq_true_eq, Bool.not_eq_true', List.any_eq_false] at c4
            obtain ⟨⟨m1, m2⟩, m3⟩ := c4
            exact ⟨⟨k1, k2, k3, k4, by omega, by omega, fun p hp => partBad_good.1 (by simpa using m1 p hp)⟩, c3⟩
  · rintro ⟨⟨k1, k2, k3, k4, k5, k6, k7⟩, c3⟩
    have c1 : (!nameOk t.name || !(decide (1 ≤ t.period) && decide (t.period ≤ 3000)) || !(decide (1 ≤ t.deadline) && decide (t.deadline ≤ t.period)) || !(decide (1 ≤ t.prio) && decide (t.prio ≤ 1000))) = false := by simp [k1, k2, k3, k4]
    have c2 : (!(decide (0 ≤ t.cluster) && decide (t.cluster ≤ (s.cores.length : Int) - 1))) = false := by simp; omega
    have c4 : partsOk s.homes.length t.parts = true := by
      unfold partsOk
      have : t.parts.any (partBad s.homes.length) = false := by
        rw [List.any_eq_false]; intro p hp; simp [partBad_good.2 (k7 p hp)]
      simp [this]; omega
    rw [c1, c2, c3, c4]; rfl
theorem fst_none_iff (s : St) : fstP (fun i => !eqz (errAt s i) 0) 0 s.tasks.length = none ↔ ∀ i (h : i < s.tasks.length), taskErr s i s.tasks[i] = 0 := by
  rw [fstP_none]
  constructor
  · intro h i hi
    have := h i (Nat.zero_le _) (by omega)
    simpa [errAt, hi, eqz] using this
  · intro h i _ hi
    have hi : i < s.tasks.length := by omega
    simp [errAt, hi, eqz, h i hi]
theorem chk_good (s : St) : (chk s).2 = 0 ↔ Good s := by
  unfold chk
  constructor
  · intro h
    split at h
    · simp at h
    · rename_i c1
      split at h
      · simp at h
      · rename_i c2
        split at h
        · simp at h
        · rename_i c3
          split at h
          · simp at h
          · rename_i c4
            split at h
            · rename_i c5
              rw [fst_none_iff] at c5
              simp only [placedOk, Bool.not_eq_false, Bool.and_eq_true, decide_eq_true_eq, Bool.not_eq_true', List.any_eq_false] at c2
              obtain ⟨⟨⟨⟨k1, k2⟩, k3⟩, k4⟩, k5⟩ := c2
              have h6 := fun i hi => taskErr_good.1 (c5 i hi)
              refine ⟨by omega, ⟨by omega, by omega⟩, fun c hc => ?_, by omega, fun c hc => ?_, by omega, fun t ht => ?_, fun i j hi hj hij => ?_⟩
              · have := k4 c hc; simp [coreBad] at this; omega
              · have := k5 c hc; simp [homeBad] at this; omega
              · obtain ⟨i, hi, rfl⟩ := List.getElem_of_mem ht
                exact (h6 i hi).1
              · have := (h6 j hj).2
                rw [List.any_eq_false] at this
                have h7 := this s.tasks[i] (by rw [List.mem_take_iff_getElem]; exact ⟨i, by omega, rfl⟩)
                simpa using h7
            · rename_i k c5
              obtain ⟨_, _, c6⟩ := fstP_some _ _ _ c5
              simp [eqz] at c6
              exact absurd h c6
  · intro g
    have hp := g.proto; have ht := g.tasks; have hc := g.cores; have hh := g.homes
    rw [if_neg (by omega)]
    have h2 : placedOk s = true := by
      unfold placedOk
      have a1 : s.cores.any coreBad = false := by
        rw [List.any_eq_false]; intro c h; have := g.core c h; simp [coreBad]; omega
      have a2 : s.homes.any (homeBad s.cores.length) = false := by
        rw [List.any_eq_false]; intro c h; have := g.home c h; simp [homeBad]; omega
      rw [a1, a2]; simp; omega
    rw [h2, if_neg (by simp), if_neg (by omega), if_neg (by omega)]
    have h3 : fstP (fun i => !eqz (errAt s i) 0) 0 s.tasks.length = none := by
      rw [fst_none_iff]
      intro i hi
      rw [taskErr_good]
      refine ⟨g.task _ (List.getElem_mem hi), ?_⟩
      rw [List.any_eq_false]
      intro t hm
      rw [List.mem_take_iff_getElem] at hm
      obtain ⟨j, hj, rfl⟩ := hm
      have := g.uniq j i (by omega) hi (by omega)
      simp [this]
    rw [h3]
theorem Good.sm {s : St} (g : Good s) (hn : ∀ t ∈ s.tasks, t.name.size ≤ 20) : Sm s := ⟨by have := g.cores; omega, by have := g.homes; omega, by have := g.tasks; omega, fun t ht => by have := (g.task t ht).parts; omega, hn⟩
def okS (s : St) : Bool := eqz (chk s).2 0
theorem okS_iff (s : St) : okS s = true ↔ Good s := by rw [← chk_good]; simp [okS, eqz]
def thereS (s : St) (n : Int) : Bool := okS s && decide (0 ≤ n) && decide (n < s.tasks.length)
end Go.Proofs.YtkohggddaheefaaEv
/- package demand. -/
namespace Go.Proofs.YtkohggddaheefaaEv
open Go
set_option maxHeartbeats 1000000
theorem okS_pure (s : St) (hf : Fits s) : pureOf (callL tab0 ext0) false 17 [.agg (St.c s)] = some (.tup [vi (chk s).1, vi (chk s).2]) := pure_tup2 (check_is s hf)
theorem there_62 (s : St) (n : Int) (hf : Fits s) : Ans (vb (thereS s n)) [] (callL tab0 ext0 62 [.agg (St.c s), vi n] []) := by
  rw [callL_tab _ _ rfl tab62 rfl]
  have h1 := okS_pure s hf
  obtain ⟨c, hc⟩ : ∃ c, c = (chk s).2 := ⟨_, rfl⟩
  unfold thereS okS
  rw [← hc] at h1 ⊢
  simp only [St.c, slI, slT] at h1
  simp +contextual [C62, push_cast, -Int.not_lt, -Int.not_le, ↓evI_call, ↓evI_calli, ↓evI_calln, ↓evI_callz, ↓evI_callv, ↓evI_mxn, St.c, slI, slT, h1]
  refine Ans.nil ?_
  congr 2
def kLen (k : Int) (p : Pt) : Int := if p.kind = k then p.len else 0
def allK (l : List Pt) (k : Int) : Int := sumL (kLen k) l
def longest (l : List Pt) : Int := maxL (kLen 3) l
def PtsOk (l : List Pt) : Prop := l.length ≤ 10 ∧ ∀ p ∈ l, 1 ≤ p.len ∧ p.len ≤ 60
theorem PtsOk.take {l : List Pt} (h : PtsOk l) (i : Nat) (k : Int) : 0 ≤ sumL (kLen k) (l.take i) ∧ sumL (kLen k) (l.take i) ≤ 600 := by
  have h2 : ∀ p ∈ l.take i, 0 ≤ kLen k p ∧ kLen k p ≤ 60 := by
    intro p hp
    have := h.2 p (List.mem_of_mem_take hp)
    unfold kLen; split <;> omega
  refine ⟨sumL_ge _ _ fun p hp => (h2 p hp).1, ?_⟩
  have h3 := sumL_le (kLen k) 60 (l.take i) fun p hp => (h2 p hp).2
  have h4 := h.1
  have h5 : (l.take i).length ≤ 10 := by rw [List.length_take]; omega
  omega
theorem Good.pts {s : St} (g : Good s) {t : Tk} (ht : t ∈ s.tasks) : PtsOk t.parts := ⟨by have := (g.task t ht).parts; omega, fun p hp => ((g.task t ht).part p hp).len⟩
theorem all_loop (t : Tk) (k : Int) (ht : PtsOk t.parts) :
    ∀ d i (e : Env), i + d = t.parts.length → (e 1 = vi k ∧ e 5 = vi (sumL (kLen k) (t.parts.take i)) ∧ e 9 = slP t.parts ∧ e 10 = vi t.parts.length ∧ e 11 = vi i) → ∃ zz, evL tab0 ext0 0 L64_0 (e, [Tk.c t]) = some zz ∧ FQ (fun _ => false) ([Tk.c t]) 0 (fun _ _ => True) (fun e => e 5 = vi (allK t.parts k)) i d zz := by
  have hl := ht.1
  refine fq_loop (St := fun i e => e 1 = vi k ∧ e 5 = vi (sumL (kLen k) (t.parts.take i)) ∧ e 9 = slP t.parts ∧ e 10 = vi t.parts.length ∧ e 11 = vi i) _ _ _ _ _ ?_ ?_
  · rintro e ⟨g0, g1, g2, g3, g4⟩
    exact ⟨_, (go64_0 _ _).trans (by simp [B64_0, push_cast, -Int.not_lt, -Int.not_le, ↓evI_call, ↓evI_calli, ↓evI_calln, ↓evI_callz, ↓evI_callv, ↓evI_mxn, loopIn, loopIn0, keepL, emp, A.dang, A.dangC, g0, g1, g2, g3, g4, slP, Tk.c, Pt.c]; rfl), by simp [put_at, g1, allK]⟩
  · rintro i e hi ⟨g0, g1, g2, g3, g4⟩
    rw [go64_0]
    have hi' : (i : Int) < (t.parts.length : Nat) := by omega
    have hw : IntKind.wrap .i64 ((i : Int) + 1) = (i : Int) + 1 := wrap_in _ (by omega) (by omega)
    have h1 := ht.take i k
    have h2 := ht.2 _ (List.getElem_mem hi)
    have hw2 : IntKind.wrap .i64 (sumL (kLen k) (t.parts.take i) + t.parts[i].len) = sumL (kLen k) (t.parts.take i) + t.parts[i].len := wrap_in _ (by omega) (by omega)
    have h3 := sumL_take (kLen k) t.parts i hi
    have h4 : kLen k t.parts[i] = if t.parts[i].kind = k then t.parts[i].len else 0 := rfl
    rw [h4] at h3
    rw [h3]
    simp +contextual (maxSteps := 400000) [B64_0, push_cast, -Int.not_lt, -Int.not_le, ↓evI_call, ↓evI_calli, ↓evI_calln, ↓evI_callz, ↓evI_callv, ↓evI_mxn, loopIn, loopIn0, keepL, emp, A.dang, A.dangC, g0, g1, g2, g3, g4, hi, hi', slP, Tk.c, Pt.c, drop_pt _ i hi, hw, hw2]
    (repeat' refine Step.split (fun cc => ?_) (fun cc => ?_)) <;> first | (refine Step.ret0 ?_ ?_ <;> first | (simp_all [put_at, eqz]; done) | (simp [put_at, *]; done) | ((try simp [eqz] at *); omega)) | (refine Step.go ?_ ?_ <;> first | (simp_all [put_at, eqz]; done) | (simp [put_at, *]; done) | ((try simp [eqz] at *); omega)) | (refine Step.ret _ ?_ ?_ <;> first | (simp_all [put_at, eqz]; done) | (simp [put_at, *]; done) | ((try simp [eqz] at *); omega)) | (refine Step.goJ _ (by simp) ?_ ?_ <;> first | (simp_all [put_at, eqz]; done) | (simp [put_at, *]; done) | ((try simp [eqz] at *); omega))
theorem all_is (t : Tk) (k : Int) (ht : PtsOk t.parts) : Ans (vi (allK t.parts k)) [] (callL tab0 ext0 64 [.agg (Tk.c t), vi k] []) := by
  rw [callL_tab _ _ rfl tab64 rfl]
  simp +contextual [C64, push_cast, -Int.not_lt, -Int.not_le, ↓evI_call, ↓evI_calli, ↓evI_calln, ↓evI_callz, ↓evI_callv, ↓evI_mxn, Tk.c, slP]
  have hlp := all_loop t k ht t.parts.length 0
  simp only [Tk.c, slP] at hlp
  refine behindP (P := fun r => Ans _ [] r) (hlp _ (by omega) (by simp [put_at, sumL])) ?_
  intro a h
  obtain ⟨e', rfl, hx⟩ := h.never; clear h; have h := hx
  simp [push_cast, -Int.not_lt, -Int.not_le, ↓evI_call, ↓evI_calli, ↓evI_calln, ↓evI_callz, ↓evI_callv, ↓evI_mxn, h]
  exact Ans.nil rfl
theorem kind_31 (t : Tk) (ht : PtsOk t.parts) : Ans (vi (allK t.parts 3)) [] (callL tab0 ext0 31 [.agg (Tk.c t)] []) := by
  rw [callL_tab _ _ rfl tab31 rfl]
  have h := pure_vi (k := false) (all_is t 3 ht)
  simp only [Tk.c, slP] at h
  simp [C31, push_cast, -Int.not_lt, -Int.not_le, ↓evI_call, ↓evI_calli, ↓evI_calln, ↓evI_callz, ↓evI_callv, ↓evI_mxn, Tk.c, slP, h]
  exact Ans.nil rfl
theorem kind_32 (t : Tk) (ht : PtsOk t.parts) : Ans (vi (allK t.parts 1)) [] (callL tab0 ext0 32 [.agg (Tk.c t)] []) := by
  rw [callL_tab _ _ rfl tab32 rfl]
  have h := pure_vi (k := false) (all_is t 1 ht)
  simp only [Tk.c, slP] at h
  simp [C32, push_cast, -Int.not_lt, -Int.not_le, ↓evI_call, ↓evI_calli, ↓evI_calln, ↓evI_callz, ↓evI_callv, ↓evI_mxn, Tk.c, slP, h]
  exact Ans.nil rfl
theorem kind_33 (t : Tk) (ht : PtsOk t.parts) : Ans (vi (allK t.parts 2)) [] (callL tab0 ext0 33 [.agg (Tk.c t)] []) := by
  rw [callL_tab _ _ rfl tab33 rfl]
  have h := pure_vi (k := false) (all_is t 2 ht)
  simp only [Tk.c, slP] at h
  simp [C33, push_cast, -Int.not_lt, -Int.not_le, ↓evI_call, ↓evI_calli, ↓evI_calln, ↓evI_callz, ↓evI_callv, ↓evI_mxn, Tk.c, slP, h]
  exact Ans.nil rfl
theorem max_if (a b : Int) : max a b = if a < b then b else a := by split <;> omega
theorem longest_take (l : List Pt) (i : Nat) (h : i < l.length) : maxL (kLen 3) (l.take (i + 1)) = if eqz l[i].kind 3 = true then (if maxL (kLen 3) (l.take i) < l[i].len then l[i].len else maxL (kLen 3) (l.take i)) else maxL (kLen 3) (l.take i) := by
  rw [maxL_take _ _ _ h]
  have := maxL_nonneg (kLen 3) (l.take i)
  unfold kLen at this ⊢
  simp only [eqz, decide_eq_true_eq]
  split <;> rw [max_if] <;> split <;> omega
theorem longest_loop (t : Tk) (hl : t.parts.length ≤ 4611686018427387904) :
    ∀ d i (e : Env), i + d = t.parts.length → (e 3 = vi (maxL (kLen 3) (t.parts.take i)) ∧ e 7 = slP t.parts ∧ e 8 = vi t.parts.length ∧ e 9 = vi i) → ∃ zz, evL tab0 ext0 0 L30_0 (e, [Tk.c t]) = some zz ∧ FQ (fun _ => false) ([Tk.c t]) 0 (fun _ _ => True) (fun e => e 3 = vi (longest t.parts)) i d zz := by
  refine fq_loop (St := fun i e => e 3 = vi (maxL (kLen 3) (t.parts.take i)) ∧ e 7 = slP t.parts ∧ e 8 = vi t.parts.length ∧ e 9 = vi i) _ _ _ _ _ ?_ ?_
  · rintro e ⟨g0, g1, g2, g3⟩
    exact ⟨_, (go30_0 _ _).trans (by simp [B30_0, push_cast, -Int.not_lt, -Int.not_le, ↓evI_call, ↓evI_calli, ↓evI_calln, ↓evI_callz, ↓evI_callv, ↓evI_mxn, loopIn, loopIn0, keepL, emp, A.dang, A.dangC, g0, g1, g2, g3, slP, Tk.c, Pt.c]; rfl), by simp [put_at, g0, longest]⟩
  · rintro i e hi ⟨g0, g1, g2, g3⟩
    rw [go30_0]
    have hi' : (i : Int) < (t.parts.length : Nat) := by omega
    have hw : IntKind.wrap .i64 ((i : Int) + 1) = (i : Int) + 1 := wrap_in _ (by omega) (by omega)
    rw [longest_take t.parts i hi]
    simp +contextual (maxSteps := 400000) [B30_0, push_cast, -Int.not_lt, -Int.not_le, ↓evI_call, ↓evI_calli, ↓evI_calln, ↓evI_callz, ↓evI_callv, ↓evI_mxn, loopIn, loopIn0, keepL, emp, A.dang, A.dangC, g0, g1, g2, g3, hi, hi', slP, Tk.c, Pt.c, drop_pt _ i hi, hw, foldM]
    (repeat' refine Step.split (fun cc => ?_) (fun cc => ?_)) <;> first | (refine Step.ret0 ?_ ?_ <;> first | (simp_all [put_at, eqz]; done) | (simp [put_at, *]; done) | ((try simp [eqz] at *); omega)) | (refine Step.go ?_ ?_ <;> first | (simp_all [put_at, eqz]; done) | (simp [put_at, *]; done) | ((try simp [eqz] at *); omega)) | (refine Step.ret _ ?_ ?_ <;> first | (simp_all [put_at, eqz]; done) | (simp [put_at, *]; done) | ((try simp [eqz] at *); omega)) | (refine Step.goJ _ (by simp) ?_ ?_ <;> first | (simp_all [put_at, eqz]; done) | (simp [put_at, *]; done) | ((try simp [eqz] at *); omega))
theorem longest_is (t : Tk) (hl : t.parts.length ≤ 4611686018427387904) : Ans (vi (longest t.parts)) [] (callL tab0 ext0 30 [.agg (Tk.c t)] []) := by
  rw [callL_tab _ _ rfl tab30 rfl]
  simp +contextual [C30, push_cast, -Int.not_lt, -Int.not_le, ↓evI_call, ↓evI_calli, ↓evI_calln, ↓evI_callz, ↓evI_callv, ↓evI_mxn, Tk.c, slP]
  have hlp := longest_loop t hl t.parts.length 0
  simp only [Tk.c, slP] at hlp
  refine behindP (P := fun r => Ans _ [] r) (hlp _ (by omega) (by simp [put_at, maxL])) ?_
  intro a h
  obtain ⟨e', rfl, hx⟩ := h.never; clear h; have h := hx
  simp [push_cast, -Int.not_lt, -Int.not_le, ↓evI_call, ↓evI_calli, ↓evI_calln, ↓evI_callz, ↓evI_callv, ↓evI_mxn, h]
  exact Ans.nil rfl
/-- A Lock of a resource whose home is there. -/
def homeOf (s : St) (p : Pt) : Int := s.homes.getD p.res.toNat 0
def lockAt (s : St) (c : Int) (p : Pt) : Bool := eqz p.kind 3 && eqz (homeOf s p) c
def homedL (s : St) (l : List Pt) (c : Int) : List Int := (l.filter (lockAt s c)).map Pt.len
theorem homed_take (s : St) (l : List Pt) (c : Int) (i : Nat) (h : i < l.length) : homedL s (l.take (i + 1)) c = if lockAt s c l[i] = true then homedL s (l.take i) c ++ [l[i].len] else homedL s (l.take i) c := by
  unfold homedL
  rw [take_succ' l i h, List.filter_append, List.map_append]
  split <;> rename_i hh <;> simp [List.filter_cons, hh]
theorem homed_len (s : St) (l : List Pt) (c : Int) : (homedL s l c).length ≤ l.length := by
  unfold homedL; rw [List.length_map]; exact List.length_filter_le _ _
theorem homed_loop (s : St) (g : Good s) (t : Tk) (ht : t ∈ s.tasks) (c : Int) :
    ∀ d i (e : Env), i + d = t.parts.length → (e 2 = vi c ∧ e 3 = .ptr 0 0 ∧ e 7 = .sl ((homedL s (t.parts.take i) c).map vi) (homedL s (t.parts.take i) c).length 2 ∧ e 19 = slP t.parts ∧ e 20 = vi t.parts.length ∧ e 21 = vi i) → ∃ zz, evL tab0 ext0 0 L63_0 (e, [St.c s]) = some zz ∧ FQ (fun _ => false) ([St.c s]) 0 (fun _ _ => True) (fun e => e 7 = .sl ((homedL s t.parts c).map vi) (homedL s t.parts c).length 2) i d zz := by
  have hp := (g.task t ht).parts
  refine fq_loop (St := fun i e => e 2 = vi c ∧ e 3 = .ptr 0 0 ∧ e 7 = .sl ((homedL s (t.parts.take i) c).map vi) (homedL s (t.parts.take i) c).length 2 ∧ e 19 = slP t.parts ∧ e 20 = vi t.parts.length ∧ e 21 = vi i) _ _ _ _ _ ?_ ?_
  · rintro e ⟨g0, g1, g2, g3, g4, g5⟩
    exact ⟨_, (go63_0 _ _).trans (by simp [B63_0, push_cast, -Int.not_lt, -Int.not_le, ↓evI_call, ↓evI_calli, ↓evI_calln, ↓evI_callz, ↓evI_callv, ↓evI_mxn, loopIn, loopIn0, keepL, emp, A.dang, A.dangC, g0, g1, g2, g3, g4, g5, slP, slI, slT, St.c, Pt.c]; rfl), by simp [put_at, g2]⟩
  · rintro i e hi ⟨g0, g1, g2, g3, g4, g5⟩
    rw [go63_0]
    have hi' : (i : Int) < (t.parts.length : Nat) := by omega
    have hw : IntKind.wrap .i64 ((i : Int) + 1) = (i : Int) + 1 := wrap_in _ (by omega) (by omega)
    have gp := (g.task t ht).part _ (List.getElem_mem hi)
    have q1 : eqz t.parts[i].kind 3 = true → 0 ≤ t.parts[i].res := fun h => (gp.res (by simpa [eqz] using h)).1
    have q2 : eqz t.parts[i].kind 3 = true → t.parts[i].res < s.homes.length := fun h => (gp.res (by simpa [eqz] using h)).2
    have q3 : eqz t.parts[i].kind 3 = true → (s.homes.map vi).drop t.parts[i].res.toNat = vi (homeOf s t.parts[i]) :: (s.homes.drop (t.parts[i].res.toNat + 1)).map vi := fun h => by
      have := q1 h; have := q2 h
      have hh : t.parts[i].res.toNat < s.homes.length := by omega
      rw [drop_int _ _ hh]; unfold homeOf; simp [hh]
    have hn := homed_len s (t.parts.take i) c
    rw [List.length_take] at hn
    have hn2 : ((homedL s (t.parts.take i) c).length + 1) * 8 ≤ 70368744177664 := by omega
    rw [homed_take s t.parts c i hi]
    unfold lockAt
    simp +contextual (maxSteps := 400000) [B63_0, push_cast, -Int.not_lt, -Int.not_le, ↓evI_call, ↓evI_calli, ↓evI_calln, ↓evI_callz, ↓evI_callv, ↓evI_mxn, loopIn, loopIn0, keepL, emp, A.dang, A.dangC, g0, g1, g2, g3, g4, g5, hi, hi', slP, slI, slT, St.c, Pt.c, drop_pt _ i hi, hw, q1, q2, q3, hn2, asList]
    refine Step.split (fun cc => ?_) (fun cc => ?_) <;> refine Step.goJ _ (by simp) rfl ?_ <;> simp [put_at, cc]
def homedS (s : St) (n c : Int) : List Int := if thereS s n = true then homedL s ((s.tasks[n.toNat]?.map Tk.parts).getD []) c else []
theorem thereS_iff (s : St) (n : Int) : thereS s n = true ↔ Good s ∧ 0 ≤ n ∧ n < s.tasks.length := by
  unfold thereS; simp only [Bool.and_eq_true, decide_eq_true_eq, okS_iff, and_assoc]
/-- A task's number. -/
theorem nat_of (n : Int) (h : 0 ≤ n) : ∃ m : Nat, n = m := ⟨n.toNat, by omega⟩
theorem homed_is (s : St) (n c : Int) (hf : Fits s) : pureOf (callL tab0 ext0) false 63 [.agg (St.c s), vi n, vi c] = some (slI (homedS s n c)) := by
  rw [pureOf_b, callL_tab _ _ rfl tab63 rfl]
  have h1 := pure_vb (k := false) (there_62 s n hf)
  rcases (Bool.eq_false_or_eq_true (thereS s n)).symm with ht | ht
  · rw [ht] at h1
    simp only [St.c, slI, slT] at h1
    simp [C63, push_cast, -Int.not_lt, -Int.not_le, ↓evI_call, ↓evI_calli, ↓evI_calln, ↓evI_callz, ↓evI_callv, ↓evI_mxn, St.c, slI, slT, h1, homedS, ht, frzK]
  · rw [ht] at h1
    obtain ⟨g, h0, hn⟩ := (thereS_iff s n).1 ht
    obtain ⟨m, rfl⟩ := nat_of n h0
    have hm : m < s.tasks.length := by omega
    have hlp := homed_loop s g s.tasks[m] (List.getElem_mem hm) c s.tasks[m].parts.length 0
    simp only [St.c, slI, slT, slP] at h1 hlp
    simp [C63, push_cast, -Int.not_lt, -Int.not_le, ↓evI_call, ↓evI_calli, ↓evI_calln, ↓evI_callz, ↓evI_callv, ↓evI_mxn, St.c, slI, slT, slP, h1, hm, drop_tk _ m hm, Tk.c]
    refine behind (hlp _ (by omega) (by simp [put_at, homedL])) ?_
    intro a h
    obtain ⟨e', rfl, hx⟩ := h.never; clear h; have h := hx
    simp [push_cast, -Int.not_lt, -Int.not_le, ↓evI_call, ↓evI_calli, ↓evI_calln, ↓evI_callz, ↓evI_callv, ↓evI_mxn, h, frzK, homedS, ht, plain_mapM (plain_vi _), hm]
theorem homedS_pts (s : St) (n c : Int) : (homedS s n c).length ≤ 10 ∧ ∀ x ∈ homedS s n c, 1 ≤ x ∧ x ≤ 60 := by
  unfold homedS
  split
  · rename_i ht
    obtain ⟨g, h0, hn⟩ := (thereS_iff s n).1 ht
    obtain ⟨m, rfl⟩ := nat_of n h0
    have hm : m < s.tasks.length := by omega
    have hp := g.pts (List.getElem_mem hm)
    simp only [Int.toNat_natCast, List.getElem?_eq_getElem hm, Option.map_some, Option.getD_some]
    refine ⟨Nat.le_trans (homed_len ..) hp.1, fun x hx => ?_⟩
    unfold homedL at hx
    obtain ⟨p, hp2, rfl⟩ := List.mem_map.1 hx
    exact hp.2 p (List.mem_filter.1 hp2).1
  · simp
def atS (s : St) (n c : Int) : Int := sumL id (homedS s n c)
def mostS (s : St) (n c : Int) : Int := maxL id (homedS s n c)
theorem sum60 {l : List Int} (h : l.length ≤ 10 ∧ ∀ x ∈ l, 1 ≤ x ∧ x ≤ 60) (i : Nat) : 0 ≤ sumL id (l.take i) ∧ sumL id (l.take i) ≤ 600 := by
  have h2 := fun x hx => h.2 x (List.mem_of_mem_take (i := i) hx)
  refine ⟨sumL_ge _ _ fun x hx => by have := h2 x hx; simp only [id]; omega, ?_⟩
  have h3 := sumL_le id 60 (l.take i) fun x hx => by have := h2 x hx; simp only [id]; omega
  have h5 : (l.take i).length ≤ 10 := by rw [List.length_take]; omega
  omega
theorem at_loop (l : List Int) (hl : l.length ≤ 10 ∧ ∀ x ∈ l, 1 ≤ x ∧ x ≤ 60) (s : St) :
    ∀ d i (e : Env), i + d = l.length → (e 7 = vi (sumL id (l.take i)) ∧ e 13 = slI l ∧ e 14 = vi l.length ∧ e 15 = vi i) → ∃ zz, evL tab0 ext0 0 L28_0 (e, [St.c s]) = some zz ∧ FQ (fun _ => false) ([St.c s]) 0 (fun _ _ => True) (fun e => e 7 = vi (sumL id l)) i d zz := by
  have hc := 0
  refine fq_loop (St := fun i e => e 7 = vi (sumL id (l.take i)) ∧ e 13 = slI l ∧ e 14 = vi l.length ∧ e 15 = vi i) _ _ _ _ _ ?_ ?_
  · rintro e ⟨g0, g1, g2, g3⟩
    exact ⟨_, (go28_0 _ _).trans (by simp [B28_0, push_cast, -Int.not_lt, -Int.not_le, ↓evI_call, ↓evI_calli, ↓evI_calln, ↓evI_callz, ↓evI_callv, ↓evI_mxn, loopIn, loopIn0, keepL, emp, A.dang, A.dangC, g0, g1, g2, g3, slI, slT, St.c]; rfl), by simp [put_at, g0]⟩
  · rintro i e hi ⟨g0, g1, g2, g3⟩
    rw [go28_0]
    have hi' : (i : Int) < (l.length : Nat) := by omega
    have hw : IntKind.wrap .i64 ((i : Int) + 1) = (i : Int) + 1 := wrap_in _ (by omega) (by omega)
    rw [sumL_take _ _ _ hi]
    have h1 := sum60 hl i
    have h2 := hl.2 _ (List.getElem_mem hi)
    have hw2 : IntKind.wrap .i64 (sumL id (l.take i) + l[i]) = sumL id (l.take i) + l[i] := wrap_in _ (by omega) (by omega)
    simp +contextual (maxSteps := 400000) [B28_0, push_cast, -Int.not_lt, -Int.not_le, ↓evI_call, ↓evI_calli, ↓evI_calln, ↓evI_callz, ↓evI_callv, ↓evI_mxn, loopIn, loopIn0, keepL, emp, A.dang, A.dangC, g0, g1, g2, g3, hi, hi', slI, slT, St.c, drop_int _ i hi, hw, hw2]
    (repeat' refine Step.split (fun cc => ?_) (fun cc => ?_)) <;> first | (refine Step.ret0 ?_ ?_ <;> first | (simp_all [put_at, eqz]; done) | (simp [put_at, *]; done) | ((try simp [eqz] at *); omega)) | (refine Step.go ?_ ?_ <;> first | (simp_all [put_at, eqz]; done) | (simp [put_at, *]; done) | ((try simp [eqz] at *); omega)) | (refine Step.ret _ ?_ ?_ <;> first | (simp_all [put_at, eqz]; done) | (simp [put_at, *]; done) | ((try simp [eqz] at *); omega)) | (refine Step.goJ _ (by simp) ?_ ?_ <;> first | (simp_all [put_at, eqz]; done) | (simp [put_at, *]; done) | ((try simp [eqz] at *); omega))
theorem at_is (s : St) (n c : Int) (hf : Fits s) : Ans (vi (atS s n c)) [] (callL tab0 ext0 28 [.agg (St.c s), vi n, vi c] []) := by
  rw [callL_tab _ _ rfl tab28 rfl]
  have h1 := homed_is s n c hf
  have hl := homedS_pts s n c
  unfold atS
  generalize homedS s n c = l at h1 hl
  have hlp := at_loop l hl s l.length 0
  simp only [St.c, slI, slT] at h1 hlp
  simp [C28, push_cast, -Int.not_lt, -Int.not_le, ↓evI_call, ↓evI_calli, ↓evI_calln, ↓evI_callz, ↓evI_callv, ↓evI_mxn, St.c, slI, slT, h1]
  refine behindP (P := fun r => Ans _ [] r) (hlp _ (by omega) (by simp [put_at, sumL])) ?_
  intro a h
  obtain ⟨e', rfl, hx⟩ := h.never; clear h; have h := hx
  simp [push_cast, -Int.not_lt, -Int.not_le, ↓evI_call, ↓evI_calli, ↓evI_calln, ↓evI_callz, ↓evI_callv, ↓evI_mxn, h]
  exact Ans.nil rfl
theorem max_take (l : List Int) (i : Nat) (h : i < l.length) : maxL id (l.take (i + 1)) = if maxL id (l.take i) < l[i] then l[i] else maxL id (l.take i) := by
  rw [maxL_take _ _ _ h]; simp only [id]; rw [max_if]
theorem most_loop (l : List Int) (hl : l.length ≤ 10 ∧ ∀ x ∈ l, 1 ≤ x ∧ x ≤ 60) (s : St) :
    ∀ d i (e : Env), i + d = l.length → (e 7 = vi (maxL id (l.take i)) ∧ e 13 = slI l ∧ e 14 = vi l.length ∧ e 15 = vi i) → ∃ zz, evL tab0 ext0 0 L29_0 (e, [St.c s]) = some zz ∧ FQ (fun _ => false) ([St.c s]) 0 (fun _ _ => True) (fun e => e 7 = vi (maxL id l)) i d zz := by
  have hc := 0
  refine fq_loop (St := fun i e => e 7 = vi (maxL id (l.take i)) ∧ e 13 = slI l ∧ e 14 = vi l.length ∧ e 15 = vi i) _ _ _ _ _ ?_ ?_
  · rintro e ⟨g0, g1, g2, g3⟩
    exact ⟨_, (go29_0 _ _).trans (by simp [B29_0, push_cast, -Int.not_lt, -Int.not_le, ↓evI_call, ↓evI_calli, ↓evI_calln, ↓evI_callz, ↓evI_callv, ↓evI_mxn, loopIn, loopIn0, keepL, emp, A.dang, A.dangC, g0, g1, g2, g3, slI, slT, St.c]; rfl), by simp [put_at, g0]⟩
  · rintro i e hi ⟨g0, g1, g2, g3⟩
    rw [go29_0]
    have hi' : (i : Int) < (l.length : Nat) := by omega
    have hw : IntKind.wrap .i64 ((i : Int) + 1) = (i : Int) + 1 := wrap_in _ (by omega) (by omega)
    rw [max_take _ _ hi]
    simp +contextual (maxSteps := 400000) [B29_0, push_cast, -Int.not_lt, -Int.not_le, ↓evI_call, ↓evI_calli, ↓evI_calln, ↓evI_callz, ↓evI_callv, ↓evI_mxn, loopIn, loopIn0, keepL, emp, A.dang, A.dangC, g0, g1, g2, g3, hi, hi', slI, slT, St.c, drop_int _ i hi, hw, foldM]
    (repeat' refine Step.split (fun cc => ?_) (fun cc => ?_)) <;> first | (refine Step.ret0 ?_ ?_ <;> first | (simp_all [put_at, eqz]; done) | (simp [put_at, *]; done) | ((try simp [eqz] at *); omega)) | (refine Step.go ?_ ?_ <;> first | (simp_all [put_at, eqz]; done) | (simp [put_at, *]; done) | ((try simp [eqz] at *); omega)) | (refine Step.ret _ ?_ ?_ <;> first | (simp_all [put_at, eqz]; done) | (simp [put_at, *]; done) | ((try simp [eqz] at *); omega)) | (refine Step.goJ _ (by simp) ?_ ?_ <;> first | (simp_all [put_at, eqz]; done) | (simp [put_at, *]; done) | ((try simp [eqz] at *); omega))
theorem most_is (s : St) (n c : Int) (hf : Fits s) : Ans (vi (mostS s n c)) [] (callL tab0 ext0 29 [.agg (St.c s), vi n, vi c] []) := by
  rw [callL_tab _ _ rfl tab29 rfl]
  have h1 := homed_is s n c hf
  have hl := homedS_pts s n c
  unfold mostS
  generalize homedS s n c = l at h1 hl
  have hlp := most_loop l hl s l.length 0
  simp only [St.c, slI, slT] at h1 hlp
  simp [C29, push_cast, -Int.not_lt, -Int.not_le, ↓evI_call, ↓evI_calli, ↓evI_calln, ↓evI_callz, ↓evI_callv, ↓evI_mxn, St.c, slI, slT, h1]
  refine behindP (P := fun r => Ans _ [] r) (hlp _ (by omega) (by simp [put_at, maxL])) ?_
  intro a h
  obtain ⟨e', rfl, hx⟩ := h.never; clear h; have h := hx
  simp [push_cast, -Int.not_lt, -Int.not_le, ↓evI_call, ↓evI_calli, ↓evI_calln, ↓evI_callz, ↓evI_callv, ↓evI_mxn, h]
  exact Ans.nil rfl
/-! ### all cores -/
def coresS (s : St) : Int := if okS s = true then sumL id s.cores else 0
theorem there0 (s : St) : thereS s 0 = okS s := by
  rw [Bool.eq_iff_iff, thereS_iff, okS_iff]
  exact ⟨fun h => h.1, fun g => ⟨g, by omega, by have := g.tasks; omega⟩⟩
theorem there_nat (s : St) (i : Nat) (h : i < s.tasks.length) : thereS s i = okS s := by
  rw [Bool.eq_iff_iff, thereS_iff, okS_iff]
  exact ⟨fun h => h.1, fun g => ⟨g, by omega, by omega⟩⟩
theorem Good.sum_cores {s : St} (g : Good s) (i : Nat) : 0 ≤ sumL id (s.cores.take i) ∧ sumL id (s.cores.take i) ≤ 600 :=
  sum60 ⟨by have := g.cores; omega, fun x hx => by have := g.core x hx; omega⟩ i
theorem cores_loop (s : St) (g : Good s) :
    ∀ d i (e : Env), i + d = s.cores.length → (e 3 = vi (sumL id (s.cores.take i)) ∧ e 9 = slI s.cores ∧ e 10 = vi s.cores.length ∧ e 11 = vi i) → ∃ zz, evL tab0 ext0 0 L26_0 (e, [St.c s]) = some zz ∧ FQ (fun _ => false) ([St.c s]) 0 (fun _ _ => True) (fun e => e 3 = vi (sumL id s.cores)) i d zz := by
  have hc := g.cores
  refine fq_loop (St := fun i e => e 3 = vi (sumL id (s.cores.take i)) ∧ e 9 = slI s.cores ∧ e 10 = vi s.cores.length ∧ e 11 = vi i) _ _ _ _ _ ?_ ?_
  · rintro e ⟨g0, g1, g2, g3⟩
    exact ⟨_, (go26_0 _ _).trans (by simp [B26_0, push_cast, -Int.not_lt, -Int.not_le, ↓evI_call, ↓evI_calli, ↓evI_calln, ↓evI_callz, ↓evI_callv, ↓evI_mxn, loopIn, loopIn0, keepL, emp, A.dang, A.dangC, g0, g1, g2, g3, slI, slT, St.c]; rfl), by simp [put_at, g0]⟩
  · rintro i e hi ⟨g0, g1, g2, g3⟩
    rw [go26_0]
    have hi' : (i : Int) < (s.cores.length : Nat) := by omega
    have hw : IntKind.wrap .i64 ((i : Int) + 1) = (i : Int) + 1 := wrap_in _ (by omega) (by omega)
    rw [sumL_take _ _ _ hi]
    have h1 := g.sum_cores i
    have h2 := g.core _ (List.getElem_mem hi)
    have hw2 : IntKind.wrap .i64 (sumL id (s.cores.take i) + s.cores[i]) = sumL id (s.cores.take i) + s.cores[i] := wrap_in _ (by omega) (by omega)
    simp +contextual (maxSteps := 400000) [B26_0, push_cast, -Int.not_lt, -Int.not_le, ↓evI_call, ↓evI_calli, ↓evI_calln, ↓evI_callz, ↓evI_callv, ↓evI_mxn, loopIn, loopIn0, keepL, emp, A.dang, A.dangC, g0, g1, g2, g3, hi, hi', slI, slT, St.c, drop_int _ i hi, hw, hw2]
    (repeat' refine Step.split (fun cc => ?_) (fun cc => ?_)) <;> first | (refine Step.ret0 ?_ ?_ <;> first | (simp_all [put_at, eqz]; done) | (simp [put_at, *]; done) | ((try simp [eqz] at *); omega)) | (refine Step.go ?_ ?_ <;> first | (simp_all [put_at, eqz]; done) | (simp [put_at, *]; done) | ((try simp [eqz] at *); omega)) | (refine Step.ret _ ?_ ?_ <;> first | (simp_all [put_at, eqz]; done) | (simp [put_at, *]; done) | ((try simp [eqz] at *); omega)) | (refine Step.goJ _ (by simp) ?_ ?_ <;> first | (simp_all [put_at, eqz]; done) | (simp [put_at, *]; done) | ((try simp [eqz] at *); omega))
theorem cores_is (s : St) (hf : Fits s) : Ans (vi (coresS s)) [] (callL tab0 ext0 26 [.agg (St.c s)] []) := by
  rw [callL_tab _ _ rfl tab26 rfl]
  have h1 := pure_vb (k := false) (there_62 s 0 hf)
  rw [there0] at h1
  unfold coresS
  rcases (Bool.eq_false_or_eq_true (okS s)).symm with ht | ht
  · rw [ht] at h1 ⊢
    simp only [St.c, slI, slT] at h1
    simp [C26, push_cast, -Int.not_lt, -Int.not_le, ↓evI_call, ↓evI_calli, ↓evI_calln, ↓evI_callz, ↓evI_callv, ↓evI_mxn, St.c, slI, slT, h1]
    exact Ans.nil rfl
  · rw [ht] at h1 ⊢
    have hlp := cores_loop s ((okS_iff s).1 ht) s.cores.length 0
    simp only [St.c, slI, slT] at h1 hlp
    simp [C26, push_cast, -Int.not_lt, -Int.not_le, ↓evI_call, ↓evI_calli, ↓evI_calln, ↓evI_callz, ↓evI_callv, ↓evI_mxn, St.c, slI, slT, h1]
    refine behindP (P := fun r => Ans _ [] r) (hlp _ (by omega) (by simp [put_at, sumL])) ?_
    intro a h
    obtain ⟨e', rfl, hx⟩ := h.never; clear h; have h := hx
    simp [push_cast, -Int.not_lt, -Int.not_le, ↓evI_call, ↓evI_calli, ↓evI_calln, ↓evI_callz, ↓evI_callv, ↓evI_mxn, h]
    exact Ans.nil rfl
/-! ### who asks at a cluster -/
def asks (s : St) (c : Int) (t : Tk) : Int := if (okS s = true ∧ eqz t.cluster c = true) ∧ 0 < longest t.parts then 1 else 0
def askersS (s : St) (c : Int) : Int := sumL (asks s c) s.tasks
theorem asks_take (s : St) (c : Int) (i : Nat) (h : s.tasks.length ≤ 10) : 0 ≤ sumL (asks s c) (s.tasks.take i) ∧ sumL (asks s c) (s.tasks.take i) ≤ 10 := by
  refine ⟨sumL_ge _ _ fun t _ => by unfold asks; split <;> omega, ?_⟩
  have h3 := sumL_le (asks s c) 1 (s.tasks.take i) fun t _ => by unfold asks; split <;> omega
  have h5 : (s.tasks.take i).length ≤ 10 := by rw [List.length_take]; omega
  omega
theorem askers_loop (s : St) (hs : Sm s) (c : Int) :
    ∀ d i (e : Env), i + d = s.tasks.length → (e 1 = vi c ∧ e 2 = .ptr 0 0 ∧ e 5 = vi (sumL (asks s c) (s.tasks.take i)) ∧ e 9 = slT s.tasks ∧ e 10 = vi s.tasks.length ∧ e 11 = vi i) → ∃ zz, evL tab0 ext0 0 L27_0 (e, [St.c s]) = some zz ∧ FQ (fun _ => false) ([St.c s]) 0 (fun _ _ => True) (fun e => e 5 = vi (askersS s c)) i d zz := by
  have hc := hs.tasks
  refine fq_loop (St := fun i e => e 1 = vi c ∧ e 2 = .ptr 0 0 ∧ e 5 = vi (sumL (asks s c) (s.tasks.take i)) ∧ e 9 = slT s.tasks ∧ e 10 = vi s.tasks.length ∧ e 11 = vi i) _ _ _ _ _ ?_ ?_
  · rintro e ⟨g0, g1, g2, g3, g4, g5⟩
    exact ⟨_, (go27_0 _ _).trans (by simp [B27_0, push_cast, -Int.not_lt, -Int.not_le, ↓evI_call, ↓evI_calli, ↓evI_calln, ↓evI_callz, ↓evI_callv, ↓evI_mxn, loopIn, loopIn0, keepL, emp, A.dang, A.dangC, g0, g1, g2, g3, g4, g5, slI, slT, slP, St.c, Tk.c]; rfl), by simp [put_at, g2, askersS]⟩
  · rintro i e hi ⟨g0, g1, g2, g3, g4, g5⟩
    rw [go27_0]
    have hi' : (i : Int) < (s.tasks.length : Nat) := by omega
    have hw : IntKind.wrap .i64 ((i : Int) + 1) = (i : Int) + 1 := wrap_in _ (by omega) (by omega)
    have h1 := asks_take s c i (by omega)
    have hw2 : IntKind.wrap .i64 (sumL (asks s c) (s.tasks.take i) + 1) = sumL (asks s c) (s.tasks.take i) + 1 := wrap_in _ (by omega) (by omega)
    rw [sumL_take _ _ _ hi]
    unfold asks
    have h2 := pure_vb (k := false) (there_62 s i hs.fits)
    rw [there_nat s i hi] at h2
    have h3 := pure_vi (k := false) (longest_is s.tasks[i] (by have := hs.parts _ (List.getElem_mem hi); omega))
    obtain ⟨b, hb⟩ : ∃ b, b = okS s := ⟨_, rfl⟩
    obtain ⟨q, hq⟩ : ∃ q, q = sumL (asks s c) (s.tasks.take i) := ⟨_, rfl⟩
    unfold asks at hq hw2 g2
    rw [← hb] at h2 hq hw2 g2 ⊢
    rw [← hq] at hw2 g2 ⊢
    clear hb hq h1
    simp only [St.c, slI, slT, slP, Tk.c] at h2 h3
    simp +contextual (maxSteps := 400000) [B27_0, push_cast, -Int.not_lt, -Int.not_le, ↓evI_call, ↓evI_calli, ↓evI_calln, ↓evI_callz, ↓evI_callv, ↓evI_mxn, loopIn, loopIn0, keepL, emp, A.dang, A.dangC, g0, g1, g2, g3, g4, g5, hi, hi', slI, slT, slP, St.c, Tk.c, drop_tk _ i hi, hw, hw2, h2, h3]
    (repeat' refine Step.split (fun cc => ?_) (fun cc => ?_)) <;> first | (refine Step.ret0 ?_ ?_ <;> first | (simp_all [put_at, eqz]; done) | (simp [put_at, *]; done) | ((try simp [eqz] at *); omega)) | (refine Step.go ?_ ?_ <;> first | (simp_all [put_at, eqz]; done) | (simp [put_at, *]; done) | ((try simp [eqz] at *); omega)) | (refine Step.ret _ ?_ ?_ <;> first | (simp_all [put_at, eqz]; done) | (simp [put_at, *]; done) | ((try simp [eqz] at *); omega)) | (refine Step.goJ _ (by simp) ?_ ?_ <;> first | (simp_all [put_at, eqz]; done) | (simp [put_at, *]; done) | ((try simp [eqz] at *); omega))
theorem askers_is (s : St) (c : Int) (hs : Sm s) : Ans (vi (askersS s c)) [] (callL tab0 ext0 27 [.agg (St.c s), vi c] []) := by
  rw [callL_tab _ _ rfl tab27 rfl]
  have hlp := askers_loop s hs c s.tasks.length 0
  simp only [St.c, slI, slT] at hlp
  simp [C27, push_cast, -Int.not_lt, -Int.not_le, ↓evI_call, ↓evI_calli, ↓evI_calln, ↓evI_callz, ↓evI_callv, ↓evI_mxn, St.c, slI, slT]
  refine behindP (P := fun r => Ans _ [] r) (hlp _ (by omega) (by simp [put_at, sumL])) ?_
  intro a h
  obtain ⟨e', rfl, hx⟩ := h.never; clear h; have h := hx
  simp [push_cast, -Int.not_lt, -Int.not_le, ↓evI_call, ↓evI_calli, ↓evI_calln, ↓evI_callz, ↓evI_callv, ↓evI_mxn, h]
  exact Ans.nil rfl
end Go.Proofs.YtkohggddaheefaaEv
/- Sums, greatest ones over numbers below one. -/
namespace Go.Proofs.YtkohggddaheefaaEv
open Go
def sumN (f : Nat → Int) : Nat → Int
  | 0 => 0
  | n + 1 => sumN f n + f n
def maxN (f : Nat → Int) : Nat → Int
  | 0 => 0
  | n + 1 => max (maxN f n) (f n)
theorem maxN_nonneg (f : Nat → Int) : ∀ n, 0 ≤ maxN f n
  | 0 => Int.le_refl _
  | n + 1 => by have := maxN_nonneg f n; unfold maxN; omega
theorem maxN_le {f : Nat → Int} {b : Int} (hb : 0 ≤ b) : ∀ n, (∀ i, i < n → f i ≤ b) → maxN f n ≤ b
  | 0, _ => hb
  | n + 1, h => by
    have := maxN_le hb n fun i hi => h i (by omega); have := h n (by omega); unfold maxN; omega
theorem le_maxN {f : Nat → Int} : ∀ n i, i < n → f i ≤ maxN f n
  | n + 1, i, h => by
    unfold maxN
    by_cases hi : i = n
    · subst hi; omega
    · have := le_maxN (f := f) n i (by omega); omega
theorem sumN_congr {f g : Nat → Int} : ∀ n, (∀ i, i < n → f i = g i) → sumN f n = sumN g n
  | 0, _ => rfl
  | n + 1, h => by rw [sumN, sumN, sumN_congr n fun i hi => h i (by omega), h n (by omega)]
theorem maxN_congr {f g : Nat → Int} : ∀ n, (∀ i, i < n → f i = g i) → maxN f n = maxN g n
  | 0, _ => rfl
  | n + 1, h => by rw [maxN, maxN, maxN_congr n fun i hi => h i (by omega), h n (by omega)]
theorem sumN_zero : ∀ n, sumN (fun _ => 0) n = 0
  | 0 => rfl
  | n + 1 => by rw [sumN, sumN_zero n]; rfl
theorem sumN_add (f g : Nat → Int) : ∀ n, sumN (fun i => f i + g i) n = sumN f n + sumN g n
  | 0 => rfl
  | n + 1 => by simp only [sumN, sumN_add f g n]; omega
theorem sumN_le {f : Nat → Int} {b : Int} : ∀ n, (∀ i, i < n → f i ≤ b) → sumN f n ≤ n * b
  | 0, _ => by simp [sumN]
  | n + 1, h => by
    have h1 := sumN_le n fun i hi => h i (by omega); have h2 := h n (by omega)
    rw [sumN, Int.natCast_succ, Int.add_mul, Int.one_mul]; omega
theorem sumN_ge {f : Nat → Int} : ∀ n, (∀ i, i < n → 0 ≤ f i) → 0 ≤ sumN f n
  | 0, _ => Int.le_refl _
  | n + 1, h => by
    have h1 := sumN_ge n fun i hi => h i (by omega); have h2 := h n (by omega)
    rw [sumN]; omega
theorem maxN_zero : ∀ n, maxN (fun _ => 0) n = 0
  | 0 => rfl
  | n + 1 => by rw [maxN, maxN_zero n]; rfl
/-- Sums in either order. -/
theorem sumN_sumL {α : Type} (f : Nat → α → Int) (n : Nat) : ∀ l : List α, sumN (fun c => sumL (f c) l) n = sumL (fun a => sumN (fun c => f c a) n) l
  | [] => sumN_zero n
  | a :: l => by
    rw [sumL, ← sumN_sumL f n l, ← sumN_add]; rfl
theorem maxN_max (f g : Nat → Int) : ∀ n, maxN (fun i => max (f i) (g i)) n = max (maxN f n) (maxN g n)
  | 0 => rfl
  | n + 1 => by simp only [maxN, maxN_max f g n]; omega
theorem maxN_maxL {α : Type} (f : Nat → α → Int) (n : Nat) : ∀ l : List α, maxN (fun c => maxL (f c) l) n = maxL (fun a => maxN (fun c => f c a) n) l
  | [] => maxN_zero n
  | a :: l => by
    rw [maxL, ← maxN_maxL f n l, ← maxN_max]; rfl
theorem sumN_one (x h : Int) : ∀ n : Nat, sumN (fun c => if h = (c : Int) then x else 0) n = if 0 ≤ h ∧ h < n then x else 0
  | 0 => by rw [sumN, if_neg (by omega)]
  | n + 1 => by
    rw [sumN, sumN_one x h n]
    by_cases h1 : h = (n : Int)
    · rw [if_neg (by omega), if_pos h1, if_pos (by omega)]; omega
    · rw [if_neg h1]
      by_cases h2 : 0 ≤ h ∧ h < n
      · rw [if_pos h2, if_pos (by omega)]; omega
      · rw [if_neg h2, if_neg (by omega)]; rfl
theorem maxN_one (x h : Int) (hx : 0 ≤ x) : ∀ n : Nat, maxN (fun c => if h = (c : Int) then x else 0) n = if 0 ≤ h ∧ h < n then x else 0
  | 0 => by rw [maxN, if_neg (by omega)]
  | n + 1 => by
    rw [maxN, maxN_one x h hx n]
    by_cases h1 : h = (n : Int)
    · rw [if_neg (by omega), if_pos h1, if_pos (by omega)]; omega
    · rw [if_neg h1]
      by_cases h2 : 0 ≤ h ∧ h < n
      · rw [if_pos h2, if_pos (by omega)]; omega
      · rw [if_neg h2, if_neg (by omega)]; rfl
end Go.Proofs.YtkohggddaheefaaEv
