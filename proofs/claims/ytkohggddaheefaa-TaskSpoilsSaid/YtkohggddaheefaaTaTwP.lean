/- Two tasks of one name, of one priority: plain law. -/
import Derived.Test.YtkohggddaheefaaGd
set_option linter.unusedSimpArgs false
set_option linter.unusedVariables false
namespace Go.Proofs.YtkohggddaheefaaEv
open Go
set_option maxHeartbeats 2000000
/-! ### the plain law -/
def mixT (pr : Bool) (a b : Tk) : Tk := if pr = true then { a with prio := b.prio } else { a with name := b.name }
def twS (s : St) (i : Nat) (t : Tk) : St := ⟨s.proto, s.cores, s.homes, s.tasks.set i t⟩
theorem fstP_eq {p : Nat → Bool} : ∀ (d i m : Nat), (∀ k, i ≤ k → k < m → p k = false) → i ≤ m → m < i + d → p m = true → fstP p i d = some m
  | 0, i, m, _, h1, h2, _ => by omega
  | d + 1, i, m, h, h1, h2, h3 => by
    unfold fstP
    by_cases he : i = m
    · subst he; rw [if_pos h3]
    · rw [if_neg (by rw [h i (by omega) (by omega)]; simp)]
      exact fstP_eq d (i + 1) m (fun k k1 k2 => h k (by omega) k2) (by omega) (by omega) h3
theorem apart2 {s : St} (g : Good s) {a b : Nat} (ha : a < s.tasks.length) (hb : b < s.tasks.length) (hab : a ≠ b) : ¬ s.tasks[a].name.toList = s.tasks[b].name.toList ∧ ¬ s.tasks[a].prio = s.tasks[b].prio := by
  rcases Nat.lt_or_gt_of_ne hab with h | h
  · have := g.uniq a b ha hb h
    unfold twice at this
    simpa using this
  · have := g.uniq b a hb ha h
    unfold twice at this
    simp at this
    exact ⟨fun e => this.1 e.symm, fun e => this.2 e.symm⟩
theorem mix_good {s : St} (g : Good s) {i j : Nat} (hi : i < s.tasks.length) (hj : j < s.tasks.length) (pr : Bool) : GoodT s (mixT pr s.tasks[i] s.tasks[j]) := by
  have a := g.task _ (List.getElem_mem hi)
  have b := g.task _ (List.getElem_mem hj)
  unfold mixT
  cases pr
  · exact ⟨b.name, a.period, a.deadline, a.prio, a.cluster, a.parts, a.part⟩
  · exact ⟨a.name, a.period, a.deadline, b.prio, a.cluster, a.parts, a.part⟩
theorem tw_get {s : St} {i m : Nat} (t : Tk) (hm : m < s.tasks.length) : (twS s i t).tasks[m]? = some (if m = i then t else s.tasks[m]) := by
  show (s.tasks.set i t)[m]? = _
  rw [List.getElem?_set]
  by_cases h : i = m
  · subst h; simp [hm]
  · rw [if_neg h, if_neg (Ne.symm h), List.getElem?_eq_getElem hm]
/-- Which two of the changed set are alike. -/
theorem tw_twice {s : St} (g : Good s) {i j : Nat} (hi : i < s.tasks.length) (hj : j < s.tasks.length) (hij : i ≠ j) (pr : Bool) {a b : Nat} (ha : a < s.tasks.length) (hb : b < s.tasks.length) (hab : a ≠ b) :
    twice (if a = i then mixT pr s.tasks[i] s.tasks[j] else s.tasks[a]) (if b = i then mixT pr s.tasks[i] s.tasks[j] else s.tasks[b]) = decide ((a = i ∧ b = j) ∨ (a = j ∧ b = i)) := by
  have key : ∀ c (hc : c < s.tasks.length), c ≠ i → twice (mixT pr s.tasks[i] s.tasks[j]) s.tasks[c] = decide (c = j) ∧ twice s.tasks[c] (mixT pr s.tasks[i] s.tasks[j]) = decide (c = j) := by
    intro c hc hci
    have h1 := apart2 g hc hi hci
    by_cases hcj : c = j
    · subst hcj
      unfold twice mixT
      cases pr <;> simp
    · have h2 := apart2 g hc hj hcj
      have e1 : ∀ x y : List UInt8, ¬ x = y → decide (y = x) = false := fun x y h => decide_eq_false fun e => h e.symm
      unfold twice mixT
      cases pr
      · simp [h1.2, h2.1, hcj, Ne.symm h1.2, Ne.symm h2.1]
      · simp [h1.1, h2.2, hcj, Ne.symm h1.1, Ne.symm h2.2]
  by_cases hai : a = i
  · subst hai
    have hb2 : b ≠ a := fun e => hab e.symm
    rw [if_pos rfl, if_neg hb2, (key b hb hb2).1]
    exact decide_eq_decide.2 (by omega)
  · by_cases hbi : b = i
    · subst hbi
      rw [if_neg hai, if_pos rfl, (key a ha hai).2]
      exact decide_eq_decide.2 (by omega)
    · rw [if_neg hai, if_neg hbi]
      have h := apart2 g ha hb hab
      unfold twice
      simp [Ne.symm h.1, Ne.symm h.2]
      omega
theorem err17 {s : St} {n : Nat} {t : Tk} (g : GoodT s t) (h : (s.tasks.take n).any (twice t) = true) : taskErr s n t = 17 := by
  obtain ⟨k1, k2, k3, k4, k5, k6, k7⟩ := g
  have c1 : (!nameOk t.name || !(decide (1 ≤ t.period) && decide (t.period ≤ 3000)) || !(decide (1 ≤ t.deadline) && decide (t.deadline ≤ t.period)) || !(decide (1 ≤ t.prio) && decide (t.prio ≤ 1000))) = false := by simp [k1, k2, k3, k4]
  have c2 : (!(decide (0 ≤ t.cluster) && decide (t.cluster ≤ (s.cores.length : Int) - 1))) = false := by simp; omega
  unfold taskErr
  rw [c1, c2, h]; rfl
theorem good_up {s : St} {i : Nat} {t x : Tk} (g : GoodT s x) : GoodT (twS s i t) x := by
  obtain ⟨a1, a2, a3, a4, a5, a6, a7⟩ := g
  exact ⟨a1, a2, a3, a4, a5, a6, fun p hp => by
    obtain ⟨b1, b2, b3, b4⟩ := a7 p hp
    exact ⟨b1, b2, b3, b4⟩⟩
theorem tw_chk {s : St} (g : Good s) {i j : Nat} (hi : i < s.tasks.length) (hj : j < s.tasks.length) (hij : i ≠ j) (pr : Bool) :
    chk (twS s i (mixT pr s.tasks[i] s.tasks[j])) = (((max i j : Nat) : Int), 17) := by
  have hlen : (twS s i (mixT pr s.tasks[i] s.tasks[j])).tasks.length = s.tasks.length := List.length_set ..
  have hgt : ∀ m (hm : m < s.tasks.length), GoodT (twS s i (mixT pr s.tasks[i] s.tasks[j])) (if m = i then mixT pr s.tasks[i] s.tasks[j] else s.tasks[m]) := by
    intro m hm
    split
    · exact good_up (mix_good g hi hj pr)
    · exact good_up (g.task _ (List.getElem_mem hm))
  have hany : ∀ m (hm : m < s.tasks.length), ((twS s i (mixT pr s.tasks[i] s.tasks[j])).tasks.take m).any (twice (if m = i then mixT pr s.tasks[i] s.tasks[j] else s.tasks[m])) = decide (m = max i j) := by
    intro m hm
    rw [Bool.eq_iff_iff, List.any_eq_true, decide_eq_true_iff]
    constructor
    · rintro ⟨x, hx, ht⟩
      rw [List.mem_take_iff_getElem] at hx
      obtain ⟨b, hb, rfl⟩ := hx
      have hb2 : b < s.tasks.length := by omega
      have e := tw_get (mixT pr s.tasks[i] s.tasks[j]) (i := i) hb2
      rw [List.getElem?_eq_getElem (by omega)] at e
      rw [Option.some.inj e, tw_twice g hi hj hij pr hm hb2 (by omega)] at ht
      have := of_decide_eq_true ht
      omega
    · intro hmax
      have hb : (if m = i then j else i) < m := by split <;> omega
      have hb2 : (if m = i then j else i) < s.tasks.length := by omega
      have e := tw_get (mixT pr s.tasks[i] s.tasks[j]) (i := i) hb2
      refine ⟨_, List.mem_take_iff_getElem.2 ⟨(if m = i then j else i), by omega, Option.some.inj ((List.getElem?_eq_getElem (by omega)).symm.trans e)⟩, ?_⟩
      rw [tw_twice g hi hj hij pr hm hb2 (by omega)]
      refine decide_eq_true ?_
      by_cases h : m = i
      · rw [if_pos h]; exact .inl ⟨h, rfl⟩
      · rw [if_neg h]; exact .inr ⟨by omega, rfl⟩
  have herr : ∀ m (hm : m < s.tasks.length), errAt (twS s i (mixT pr s.tasks[i] s.tasks[j])) m = taskErr (twS s i (mixT pr s.tasks[i] s.tasks[j])) m (if m = i then mixT pr s.tasks[i] s.tasks[j] else s.tasks[m]) := by
    intro m hm
    unfold errAt
    rw [tw_get _ hm]; rfl
  have hp := g.proto; have ht := g.tasks; have hc := g.cores; have hh := g.homes
  have h2 : placedOk (twS s i (mixT pr s.tasks[i] s.tasks[j])) = true := by
    show placedOk s = true
    unfold placedOk
    have a1 : s.cores.any coreBad = false := by
      rw [List.any_eq_false]; intro c h; have := g.core c h; simp [coreBad]; omega
    have a2 : s.homes.any (homeBad s.cores.length) = false := by
      rw [List.any_eq_false]; intro c h; have := g.home c h; simp [homeBad]; omega
    rw [a1, a2]; simp; omega
  have h3 : fstP (fun m => !eqz (errAt (twS s i (mixT pr s.tasks[i] s.tasks[j])) m) 0) 0 s.tasks.length = some (max i j) := by
    refine fstP_eq _ _ _ (fun m _ hm => ?_) (Nat.zero_le _) (by omega) ?_
    · rw [herr m (by omega), taskErr_good.2 ⟨hgt m (by omega), by rw [hany m (by omega)]; exact decide_eq_false (by omega)⟩]
      rfl
    · rw [herr _ (by omega), err17 (hgt _ (by omega)) (by rw [hany _ (by omega)]; exact decide_eq_true rfl)]
      rfl
  have hpr : (twS s i (mixT pr s.tasks[i] s.tasks[j])).proto = s.proto := rfl
  unfold chk
  rw [hlen, hpr, if_neg (by omega), h2, if_neg (by simp), if_neg (by omega), if_neg (by omega), h3]
  simp only
  rw [herr _ (by omega), err17 (hgt _ (by omega)) (by rw [hany _ (by omega)]; exact decide_eq_true rfl)]
/-! ### cells -/
theorem set_tk {l : List Tk} {i k : Nat} {t : Tk} {v : A} (hi : i < l.length) (hk : k < 6) (h : Tk.c t = (Tk.c l[i]).take k ++ v :: (Tk.c l[i]).drop (k + 1)) :
    (l.flatMap Tk.c).take (i * 6 + k) ++ v :: (l.flatMap Tk.c).drop (i * 6 + k + 1) = (l.set i t).flatMap Tk.c := by
  have e1 : l = l.take i ++ l[i] :: l.drop (i + 1) := by rw [List.getElem_cons_drop, List.take_append_drop]
  have hA : ((l.take i).flatMap Tk.c).length = i * 6 := by rw [len_tk, List.length_take]; congr 1; omega
  have e2 : l.flatMap Tk.c = (l.take i).flatMap Tk.c ++ (Tk.c l[i] ++ (l.drop (i + 1)).flatMap Tk.c) := by
    rw [← List.flatMap_cons, ← List.flatMap_append, ← e1]
  have hC : (Tk.c l[i]).length = 6 := rfl
  rw [List.set_eq_take_append_cons_drop, if_pos hi, List.flatMap_append, List.flatMap_cons, h, e2]
  rw [List.take_append, List.take_of_length_le (by omega), hA, Nat.add_sub_cancel_left, List.take_append_of_le_length (by omega)]
  rw [Nat.add_assoc, List.drop_append, List.drop_of_length_le (by omega), hA, Nat.add_sub_cancel_left, List.drop_append_of_le_length (by omega)]
  simp
end Go.Proofs.YtkohggddaheefaaEv
