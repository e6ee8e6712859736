/- Who is first: plain law. -/
import Derived.Test.YtkohggddaheefaaWhoI
set_option linter.unusedSimpArgs false
set_option linter.unusedVariables false
namespace Go.Proofs.YtkohggddaheefaaEv
open Go
/-- Each one's task is its place. -/
def Numd (M : List Wh) : Prop := ∀ (i : Nat) (w : Wh), M[i]? = some w → w.task = i
theorem wlt_total {a b : Wh} (h : a.task ≠ b.task) (h2 : wlt b a = false) : wlt a b = true := by
  unfold wlt at *
  by_cases h1 : 0 < a.boost <;> by_cases h3 : 0 < b.boost <;> simp [h1, h3] at h2 ⊢ <;> omega
section
variable {M : List Wh} (hM : Numd M)
include hM
theorem s_at {i : Nat} {w : Wh} (h : (ss wlt M)[i]? = some w) : ∃ t : Nat, w.task = t ∧ t < M.length ∧ M[t]? = some w := by
  have h1 : w ∈ M := (ss_perm wlt _ M rfl).mem_iff.1 (List.mem_of_getElem? h)
  obtain ⟨t, ht, rfl⟩ := List.getElem_of_mem h1
  exact ⟨t, hM t _ (List.getElem?_eq_getElem ht), ht, List.getElem?_eq_getElem ht⟩
theorem s_pair : (ss wlt M).Pairwise fun a b => a.task ≠ b.task := by
  rw [List.Perm.pairwise_iff (fun h => Ne.symm h) (ss_perm wlt _ M rfl), List.pairwise_iff_getElem]
  intro i j hi hj hij
  rw [hM i _ (List.getElem?_eq_getElem hi), hM j _ (List.getElem?_eq_getElem hj)]
  omega
theorem s_ne {i j : Nat} {w v : Wh} (hij : i < j) (h1 : (ss wlt M)[i]? = some w) (h2 : (ss wlt M)[j]? = some v) : w.task ≠ v.task := by
  obtain ⟨a1, rfl⟩ := List.getElem?_eq_some_iff.1 h1
  obtain ⟨a2, rfl⟩ := List.getElem?_eq_some_iff.1 h2
  exact List.pairwise_iff_getElem.1 (s_pair hM) i j a1 a2 hij
omit hM in
theorem s_srt {i j : Nat} {w v : Wh} (hij : i < j) (h1 : (ss wlt M)[i]? = some w) (h2 : (ss wlt M)[j]? = some v) : wlt v w = false := by
  obtain ⟨a1, rfl⟩ := List.getElem?_eq_some_iff.1 h1
  obtain ⟨a2, rfl⟩ := List.getElem?_eq_some_iff.1 h2
  exact List.pairwise_iff_getElem.1 (ss_srt wlt wlt_swo _ M rfl) i j a1 a2 hij
theorem s_ahead {i j : Nat} {w v : Wh} (hij : i < j) (h1 : (ss wlt M)[i]? = some w) (h2 : (ss wlt M)[j]? = some v) : wlt w v = true :=
  wlt_total (s_ne hM hij h1 h2) (s_srt hij h1 h2)
omit hM in
/-- Where one stands. -/
theorem s_find {t : Nat} {w : Wh} (h : M[t]? = some w) : ∃ j : Nat, (ss wlt M)[j]? = some w := by
  have h1 : w ∈ ss wlt M := (ss_perm wlt _ M rfl).mem_iff.2 (List.mem_of_getElem? h)
  obtain ⟨j, hj, rfl⟩ := List.getElem_of_mem h1
  exact ⟨j, List.getElem?_eq_getElem hj⟩
end
/-- Those that are boosted are ahead. -/
theorem bpre : ∀ (S : List Wh), Srt wlt S → ∀ (i : Nat) (w : Wh), S[i]? = some w → (0 < w.boost ↔ i < S.countP fun w => decide (0 < w.boost))
  | [], _, i, w, h => by simp at h
  | a :: S, hS, i, w, h => by
    have h1 := List.pairwise_cons.1 hS
    by_cases ha : 0 < a.boost
    · rw [List.countP_cons_of_pos (by simpa using ha)]
      cases i with
      | zero => simp at h; subst h; exact ⟨fun _ => by omega, fun _ => ha⟩
      | succ i =>
        have := bpre S h1.2 i w (by simpa using h)
        omega
    · have hz : S.countP (fun w => decide (0 < w.boost)) = 0 := by
        rw [List.countP_eq_zero]
        intro b hb
        have h2 := h1.1 b hb
        unfold wlt at h2
        by_cases h3 : 0 < b.boost
        · simp [h3, ha] at h2
        · simpa using h3
      rw [List.countP_cons_of_neg (by simpa using ha), hz]
      cases i with
      | zero => simp at h; subst h; exact ⟨fun h => absurd h ha, fun h => absurd h (Nat.not_lt_zero _)⟩
      | succ i =>
        have := bpre S h1.2 i w (by simpa using h)
        rw [hz] at this
        exact ⟨fun h => absurd (this.1 h) (Nat.not_lt_zero _), fun h => absurd h (Nat.not_lt_zero _)⟩
theorem firstW_at (M : List Wh) (k : Int) (i : Nat) (hi : (i : Int) < k) : (firstW M k)[i]? = ((ss wlt M)[i]?).map Wh.task := by
  unfold firstW
  rw [List.getElem?_map, List.getElem?_take_of_lt (by omega)]
theorem firstW_len (M : List Wh) (k : Int) : (firstW M k).length = min k.toNat M.length := by
  unfold firstW
  rw [List.length_map, List.length_take, ss_len]
end Go.Proofs.YtkohggddaheefaaEv
