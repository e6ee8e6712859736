/- One form of each set: plain law. -/
import Derived.Test.YtkohggddaheefaaCanon2
set_option linter.unusedSimpArgs false
set_option linter.unusedVariables false
namespace Go.Proofs.YtkohggddaheefaaEv
open Go
set_option maxHeartbeats 2000000
/-! ### a row turned round -/
def rot {α : Type} (k : Nat) (l : List α) : List α := l.drop k ++ l.take k
def sg (n k i : Nat) : Nat := if i + k < n then i + k else i + k - n
theorem rot_len {α : Type} (k : Nat) (l : List α) : (rot k l).length = l.length := by
  unfold rot; rw [List.length_append, List.length_drop, List.length_take]; omega
theorem sg_lt {n k i : Nat} (hk : k < n) (hi : i < n) : sg n k i < n := by unfold sg; split <;> omega
theorem sg_inj {n k i j : Nat} (hk : k < n) (hi : i < n) (hj : j < n) : sg n k i = sg n k j ↔ i = j := by unfold sg; split <;> split <;> omega
theorem sg_sur {n k j : Nat} (hk : k < n) (hj : j < n) : ∃ i, i < n ∧ sg n k i = j := by
  by_cases h : k ≤ j
  · exact ⟨j - k, by omega, by unfold sg; rw [if_pos (by omega)]; omega⟩
  · exact ⟨j + n - k, by omega, by unfold sg; rw [if_neg (by omega)]; omega⟩
theorem rot_get {α : Type} {k : Nat} {l : List α} {n i : Nat} (hl : l.length = n) (hk : k < n) (hi : i < n) : (rot k l)[i]? = l[sg n k i]? := by
  unfold rot sg
  by_cases h : i + k < n
  · rw [if_pos h, List.getElem?_append_left (by rw [List.length_drop]; omega), List.getElem?_drop, Nat.add_comm]
  · rw [if_neg h, List.getElem?_append_right (by rw [List.length_drop]; omega), List.length_drop, List.getElem?_take_of_lt (by omega)]
    congr 1; omega
theorem rot_mem {α : Type} {k : Nat} {l : List α} {x : α} : x ∈ rot k l ↔ x ∈ l := by
  unfold rot
  rw [List.mem_append, or_comm, ← List.mem_append, List.take_append_drop]
theorem rot_back {α : Type} {k : Nat} {l : List α} (hk : k ≤ l.length) : rot (l.length - k) (rot k l) = l := by
  have h : (l.drop k).length = l.length - k := List.length_drop ..
  unfold rot
  rw [List.drop_append_of_le_length (by omega), List.take_append_of_le_length (by omega), ← h, List.drop_length, List.take_length]
  exact List.take_append_drop k l
theorem rot_inj {α : Type} {k : Nat} {l m : List α} (hl : l.length = m.length) (hk : k ≤ l.length) : rot k l = rot k m ↔ l = m := by
  refine ⟨fun h => ?_, fun h => by rw [h]⟩
  rw [← rot_back hk, h, hl, rot_back (by omega)]
theorem ext_get {α : Type} {l m : List α} {n : Nat} (h1 : l.length = n) (h2 : m.length = n) (h : ∀ i, i < n → l[i]? = m[i]?) : l = m := by
  refine List.ext_getElem? fun i => ?_
  by_cases hi : i < n
  · exact h i hi
  · rw [List.getElem?_eq_none (by omega), List.getElem?_eq_none (by omega)]
/-! ### sorted rows -/
theorem insP_perm : ∀ (R : List It) (x : It) (T : List It), (insP R x T).Perm (R.reverse ++ x :: T)
  | [], x, T => List.Perm.refl _
  | a :: R, x, T => by
    unfold insP
    split
    · refine (insP_perm R x (a :: T)).trans ?_
      rw [List.reverse_cons, List.append_assoc]
      exact List.Perm.append_left _ (List.Perm.swap ..)
    · rw [List.reverse_cons, List.append_assoc]; exact List.Perm.refl _
theorem insP_sorted : ∀ (R : List It) (x : It) (T : List It), R.reverse.Pairwise (fun a b => a.1 ≤ b.1) → T.Pairwise (fun a b => a.1 ≤ b.1) → (∀ a ∈ R, ∀ t ∈ T, a.1 ≤ t.1) → (∀ t ∈ T, x.1 ≤ t.1) →
    (insP R x T).Pairwise (fun a b => a.1 ≤ b.1)
  | [], x, T, _, hT, _, hx => List.Pairwise.cons hx hT
  | a :: R, x, T, hR, hT, hRT, hx => by
    unfold insP
    rw [List.reverse_cons, List.pairwise_append] at hR
    obtain ⟨r1, _, r3⟩ := hR
    split
    · rename_i hlt
      refine insP_sorted R x (a :: T) r1 (List.Pairwise.cons (fun t ht => hRT a (by simp) t ht) hT) (fun b hb t ht => ?_) (fun t ht => ?_)
      · rcases List.mem_cons.1 ht with rfl | ht
        · exact r3 b (by simpa using hb) t (by simp)
        · exact hRT b (by simp [hb]) t ht
      · rcases List.mem_cons.1 ht with rfl | ht
        · omega
        · exact hx t ht
    · rename_i hge
      rw [List.pairwise_append]
      refine ⟨r1, List.Pairwise.cons (fun t ht => ?_) (List.Pairwise.cons hx hT), fun b hb t ht => ?_⟩
      · rcases List.mem_cons.1 ht with rfl | ht
        · omega
        · exact hx t ht |> fun h => by omega
      · have h1 := r3 b hb a (by simp)
        rcases List.mem_cons.1 ht with rfl | ht
        · exact h1
        · rcases List.mem_cons.1 ht with rfl | ht
          · omega
          · exact hRT b (by simp; right; simpa using hb) t ht
theorem refL_sorted (s : St) : ∀ i, (refL s i).Pairwise (fun a b => a.1 ≤ b.1)
  | 0 => List.Pairwise.nil
  | i + 1 => insP_sorted _ _ _ (by rw [List.reverse_reverse]; exact refL_sorted s i) List.Pairwise.nil (fun _ _ _ h => by cases h) (fun _ h => by cases h)
theorem refL_perm (s : St) : ∀ i, (refL s i).Perm (itL s i)
  | 0 => List.Perm.refl _
  | i + 1 => by
    have ih := refL_perm s i
    have e : itL s (i + 1) = itL s i ++ [(prT s i, (i : Int))] := by unfold itL; rw [List.range_succ, List.map_append]; rfl
    rw [e, refL]
    refine (insP_perm _ _ _).trans ?_
    rw [List.reverse_reverse]
    exact List.Perm.append_right _ ih
/-- Rows that rise strictly are one, if they hold the same. -/
theorem rise_uniq : ∀ (l m : List Tk), l.Perm m → l.Pairwise (fun a b => a.prio < b.prio) → m.Pairwise (fun a b => a.prio < b.prio) → l = m
  | [], m, h, _, _ => (List.Perm.nil_eq h)
  | a :: l, [], h, _, _ => absurd h.length_eq (by simp)
  | a :: l, b :: m, h, h1, h2 => by
    rw [List.pairwise_cons] at h1 h2
    have e : a = b := by
      have m1 : b ∈ a :: l := h.mem_iff.2 (by simp)
      have m2 : a ∈ b :: m := h.mem_iff.1 (by simp)
      rcases List.mem_cons.1 m1 with rfl | m1
      · rfl
      · rcases List.mem_cons.1 m2 with rfl | m2
        · rfl
        · have := h1.1 b m1; have := h2.1 a m2; omega
    subst e
    rw [rise_uniq l m (List.Perm.cons_inv h) h1.2 h2.2]
def Apart (s : St) : Prop := s.tasks.Pairwise (fun a b => a.prio ≠ b.prio)
theorem ord_tasks (s : St) : (pkS s (ordS s)).tasks = (refL s s.tasks.length).map fun p => tkAt s p.2 := by
  unfold pkS ordS
  rw [srt_is]
  simp
theorem ord_perm (s : St) : (pkS s (ordS s)).tasks.Perm s.tasks := by
  rw [ord_tasks]
  refine ((refL_perm s s.tasks.length).map _).trans ?_
  have e : (itL s s.tasks.length).map (fun p => tkAt s p.2) = s.tasks := by
    refine List.ext_getElem? fun i => ?_
    unfold itL
    rw [List.map_map, List.getElem?_map]
    by_cases hi : i < s.tasks.length
    · rw [List.getElem?_range hi, List.getElem?_eq_getElem hi]
      simp [tkAt, hi]
    · rw [List.getElem?_eq_none (by simpa using hi), List.getElem?_eq_none (by omega)]; rfl
  rw [e]
theorem apart_perm {s t : St} (h : t.tasks.Perm s.tasks) (ha : Apart s) : Apart t := by
  unfold Apart at ha ⊢
  exact h.symm.pairwise ha (fun hab => Ne.symm hab)
theorem ord_rise (s : St) (ha : Apart s) : (pkS s (ordS s)).tasks.Pairwise (fun a b => a.prio < b.prio) := by
  have h1 := apart_perm (s := s) (t := pkS s (ordS s)) (ord_perm s) ha
  unfold Apart at h1
  have h2 : (pkS s (ordS s)).tasks.Pairwise (fun a b => a.prio ≤ b.prio) := by
    rw [ord_tasks, List.pairwise_map]
    refine (refL_sorted s s.tasks.length).imp_of_mem ?_
    intro a b hma hmb hab
    obtain ⟨i, hi, rfl⟩ := refL_ok s _ (Nat.le_refl _) a hma
    obtain ⟨j, hj, rfl⟩ := refL_ok s _ (Nat.le_refl _) b hmb
    have ei : tkAt s (i : Int) = s.tasks[i] := by unfold tkAt; simp [hi]
    have ej : tkAt s (j : Int) = s.tasks[j] := by unfold tkAt; simp [hj]
    show (tkAt s (i : Int)).prio ≤ (tkAt s (j : Int)).prio
    rw [ei, ej, ← prT_is s i hi, ← prT_is s j hj]
    exact hab
  exact (h1.and h2).imp fun {a b} h => by have := h.1; have := h.2; omega
/-- One form. -/
theorem canon_one {s t : St} (h : t.tasks.Perm s.tasks) (hp : t.proto = s.proto) (hc : t.cores = s.cores) (hh : t.homes = s.homes) (ha : Apart s) : pkS t (ordS t) = pkS s (ordS s) := by
  have e : (pkS t (ordS t)).tasks = (pkS s (ordS s)).tasks := rise_uniq _ _ ((ord_perm t).trans (h.trans (ord_perm s).symm)) (ord_rise t (apart_perm h ha)) (ord_rise s ha)
  show St.mk t.proto t.cores t.homes (pkS t (ordS t)).tasks = St.mk s.proto s.cores s.homes (pkS s (ordS s)).tasks
  rw [hp, hc, hh, e]
/-! ### turned round and back -/
theorem mv_rot {s : St} {b : Int} (h : MvOk s b) : (pkS s (mvL s b s.tasks.length)).tasks = rot (mv0 s b).toNat s.tasks := by
  have h1 := h.lo
  have h2 := h.hi
  obtain ⟨j, hj⟩ : ∃ j : Nat, mv0 s b = j := ⟨(mv0 s b).toNat, by omega⟩
  refine ext_get (n := s.tasks.length) (by unfold pkS; rw [List.length_map, mvL_len]) (rot_len ..) fun i hi => ?_
  rw [rot_get rfl (by omega) hi, hj, Int.toNat_natCast]
  unfold pkS mvL
  rw [List.getElem?_map, List.getElem?_map, List.getElem?_range hi]
  have hf : mvF s b i = (sg s.tasks.length j i : Nat) := by
    unfold mvF
    rw [hj, Int.tmod_eq_emod_of_nonneg (by omega)]
    unfold sg
    split
    · rw [Int.emod_eq_of_lt (by omega) (by omega)]; omega
    · rw [← Int.sub_emod_right, Int.emod_eq_of_lt (by omega) (by omega)]; omega
  have hs := sg_lt (n := s.tasks.length) (k := j) (by omega) hi
  simp only [Option.map_some]
  rw [hf, List.getElem?_eq_getElem hs]
  unfold tkAt
  simp [hs]
theorem rot_perm {α : Type} (k : Nat) (l : List α) : (rot k l).Perm l := by
  unfold rot
  exact List.perm_append_comm.trans (by rw [List.take_append_drop])
theorem mv_back {s : St} (hs : Sm s) (hn : 0 < s.tasks.length) {b : Int} (hb : 0 ≤ b) (hm : Sm (pkS s (mvL s b s.tasks.length))) : pkS (pkS s (mvL s b s.tasks.length)) (mvL (pkS s (mvL s b s.tasks.length)) (-b) (pkS s (mvL s b s.tasks.length)).tasks.length) = s := by
  have h := mv_ok hs hn b
  have ht := mv_rot h
  have hl : (pkS s (mvL s b s.tasks.length)).tasks.length = s.tasks.length := by unfold pkS; rw [List.length_map, mvL_len]
  have h' := mv_ok hm (by omega) (-b)
  have ht' := mv_rot h'
  have r0 := Int.tmod_eq_emod_of_nonneg (b := (s.tasks.length : Int)) hb
  have r1 := Int.emod_nonneg b (show (s.tasks.length : Int) ≠ 0 by omega)
  have r2 := Int.emod_lt_of_pos b (show (0 : Int) < s.tasks.length by omega)
  have hj : mv0 s b = b % s.tasks.length := by
    unfold mv0
    rw [r0]
    generalize b % (s.tasks.length : Int) = r at *
    rw [Int.tmod_eq_emod_of_nonneg (by omega), Int.add_emod_right, Int.emod_eq_of_lt r1 r2]
  have hj' : mv0 (pkS s (mvL s b s.tasks.length)) (-b) = (-(b % s.tasks.length) + s.tasks.length).tmod s.tasks.length := by
    unfold mv0
    rw [hl, Int.neg_tmod, r0]
  have key : rot (mv0 (pkS s (mvL s b s.tasks.length)) (-b)).toNat (rot (mv0 s b).toNat s.tasks) = s.tasks := by
    rw [hj, hj']
    generalize b % (s.tasks.length : Int) = r at *
    obtain ⟨k, rfl⟩ : ∃ k : Nat, r = k := ⟨r.toNat, by omega⟩
    by_cases hk : k = 0
    · subst hk
      have e : (-(((0 : Nat) : Int)) + (s.tasks.length : Int)).tmod s.tasks.length = 0 := by simp
      rw [e]
      simp [rot]
    · have e : (-((k : Nat) : Int) + (s.tasks.length : Int)).tmod s.tasks.length = ((s.tasks.length - k : Nat) : Int) := by
        rw [Int.tmod_eq_emod_of_nonneg (by omega), Int.emod_eq_of_lt (by omega) (by omega)]; omega
      rw [e, Int.toNat_natCast, Int.toNat_natCast]
      exact rot_back (by omega)
  have e : (pkS (pkS s (mvL s b s.tasks.length)) (mvL (pkS s (mvL s b s.tasks.length)) (-b) (pkS s (mvL s b s.tasks.length)).tasks.length)).tasks = s.tasks := by
    rw [ht', ht, key]
  show St.mk s.proto s.cores s.homes (pkS (pkS s (mvL s b s.tasks.length)) (mvL (pkS s (mvL s b s.tasks.length)) (-b) (pkS s (mvL s b s.tasks.length)).tasks.length)).tasks = s
  rw [e]
theorem good_apart {s : St} (g : Good s) : Apart s := by
  unfold Apart
  rw [List.pairwise_iff_getElem]
  intro i j hi hj hij
  have := g.uniq i j hi hj hij
  unfold twice at this
  simp at this
  exact this.2
end Go.Proofs.YtkohggddaheefaaEv
