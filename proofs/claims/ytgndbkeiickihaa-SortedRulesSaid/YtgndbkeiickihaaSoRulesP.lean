/- swingbridgelaw2.SortedRules: what holds of a row in order whose items are numbered. -/
import Derived.Test.YtgndbkeiickihaaSoOnes
set_option linter.unusedSimpArgs false
set_option linter.unusedVariables false
namespace Go.Proofs.YtgndbkeiickihaaEv
open Go
set_option maxHeartbeats 1000000
/-- Numbered, the first ones. -/
def numA (L : List It) : Nat → List It
  | 0 => L
  | i + 1 => (numA L i).set i ⟨((numA L i).getD i default).key, i⟩
theorem numA_len (L : List It) : ∀ i, (numA L i).length = L.length
  | 0 => rfl
  | i + 1 => by rw [numA, List.length_set, numA_len L i]
theorem numA_at (L : List It) : ∀ i j, i ≤ L.length → (h : j < L.length) → (numA L i)[j]'(by rw [numA_len]; exact h) = if j < i then ⟨L[j].key, j⟩ else L[j]
  | 0, j, _, h => by simp [numA]
  | i + 1, j, hi, h => by
    have hl := numA_len L i
    have ih := fun j h => numA_at L i j (by omega) h
    simp only [numA, List.getElem_set]
    by_cases e : i = j
    · subst e
      rw [if_pos rfl, if_pos (by omega)]
      have : (numA L i).getD i default = L[i] := by
        rw [List.getD_eq_getElem?_getD, List.getElem?_eq_getElem (by omega), Option.getD_some, ih i h, if_neg (by omega)]
      rw [this]
    · rw [if_neg e, ih j h]
      by_cases e2 : j < i
      · rw [if_pos e2, if_pos (by omega)]
      · rw [if_neg e2, if_neg (by omega)]
def lexR (a b : It) : Prop := a.key < b.key ∨ a.key = b.key ∧ a.id < b.id
theorem lex_put {S : List It} {x : It} (hs : Srt ilt S) (hR : S.Pairwise lexR) (hid : ∀ s ∈ S, s.id < x.id) : (mge ilt S [x]).Pairwise lexR := by
  have hsm := mge_srt ilt ilt_swo _ S [x] (Nat.le_refl _) hs (List.pairwise_singleton _ _)
  rw [cut_put S x hs] at hsm ⊢
  have hhi := cutI_hi S x S.length
  have hle := cutI_le S x S.length
  generalize cutI S x S.length = k at *
  have hR' := hR
  rw [← List.take_append_drop k S] at hR'
  obtain ⟨r1, r2, r3⟩ := List.pairwise_append.1 hR'
  obtain ⟨_, _, s3⟩ := List.pairwise_append.1 hsm
  refine List.pairwise_append.2 ⟨r1, List.pairwise_cons.2 ⟨fun y hy => ?_, r2⟩, fun u hu y hy => ?_⟩
  · obtain ⟨j, hj, rfl⟩ := List.getElem_of_mem hy
    simp only [List.length_drop] at hj
    have := hhi (k + j) (by omega) (by omega)
    rw [List.getD_eq_getElem?_getD, List.getElem?_eq_getElem (by omega)] at this
    rw [List.getElem_drop]
    left
    simpa [ilt] using this
  · rcases List.mem_cons.1 hy with rfl | hy
    · have h1 := s3 u hu y (by simp)
      have h2 := hid u (List.mem_of_mem_take hu)
      simp only [ilt, decide_eq_false_iff_not] at h1
      unfold lexR
      omega
    · exact r3 u hu y hy
theorem ss_lex : ∀ (d : Nat) (M : List It), M.length = d → M.Pairwise (fun a b => a.id < b.id) → (ss ilt M).Pairwise lexR := by
  intro d
  induction d with
  | zero => intro M h _; obtain rfl := List.length_eq_zero_iff.1 h; exact List.Pairwise.nil
  | succ d ih =>
    intro M h hp
    obtain ⟨T, x, rfl⟩ : ∃ T x, M = T ++ [x] := ⟨M.dropLast, M.getLast (by intro e; rw [e] at h; cases h), (List.dropLast_concat_getLast _).symm⟩
    obtain ⟨h1, _, h3⟩ := List.pairwise_append.1 hp
    rw [ss_snoc]
    exact lex_put (ss_srt ilt ilt_swo _ T rfl) (ih T (by simpa using h) h1) fun s hs => h3 s ((ss_perm ilt _ T rfl).mem_iff.1 hs) x (by simp)
/-- A row whose items bear their places. -/
def numb (L : List It) : List It := numA L L.length
theorem numb_len (L : List It) : (numb L).length = L.length := numA_len L _
theorem numb_at (L : List It) (j : Nat) (h : j < L.length) : (numb L)[j]'(by rw [numb_len]; exact h) = ⟨L[j].key, j⟩ := by
  have := numA_at L L.length j (Nat.le_refl _) h
  rw [if_pos h] at this
  exact this
theorem numb_mem {L : List It} {s : It} (h : s ∈ numb L) : ∃ q : Nat, ∃ h : q < (numb L).length, s.id = (q : Int) ∧ (numb L)[q] = s := by
  obtain ⟨j, hj, rfl⟩ := List.getElem_of_mem h
  have hj' : j < L.length := by rw [numb_len] at hj; exact hj
  exact ⟨j, hj, by rw [numb_at L j hj'], rfl⟩
theorem numb_lex (L : List It) : (ss ilt (numb L)).Pairwise lexR := by
  refine ss_lex _ _ rfl (List.pairwise_iff_getElem.2 fun i j hi hj hij => ?_)
  rw [numb_len] at hi hj
  rw [numb_at L i hi, numb_at L j hj]
  show (i : Int) < j
  omega
/-- Who has been seen. -/
def seenA (n : Nat) (S : List It) (i : Nat) : List A := (List.range n).map fun d : Nat => vb ((S.take i).any fun s => s.id == (d : Int))
theorem seen_len (n : Nat) (S : List It) (i : Nat) : (seenA n S i).length = n := by simp [seenA]
theorem seen_zero (n : Nat) (S : List It) : seenA n S 0 = List.replicate n (vb false) := by
  unfold seenA
  rw [List.take_zero]
  simp [List.map_const']
theorem seen_plain (n : Nat) (S : List It) (i : Nat) : (seenA n S i).all A.plain = true := by
  simp only [seenA, List.all_eq_true, List.mem_map]
  rintro _ ⟨d, _, rfl⟩
  rfl
theorem seen_at (L : List It) (i q : Nat) (hi : i < (ss ilt (numb L)).length) (hq : (ss ilt (numb L))[i].id = (q : Int)) (hqn : q < L.length) : (seenA L.length (ss ilt (numb L)) i)[q]? = some (vb false) := by
  have hl := numb_lex L
  have hmem : ∀ s ∈ ss ilt (numb L), s ∈ numb L := fun s hs => (ss_perm ilt _ (numb L) rfl).mem_iff.1 hs
  generalize ss ilt (numb L) = S at *
  unfold seenA
  rw [List.getElem?_map, List.getElem?_range hqn]
  simp only [Option.map_some, Option.some.injEq]
  have : ((S.take i).any fun s => s.id == (q : Int)) = false := by
    rw [List.any_eq_false]
    intro s hs
    obtain ⟨j, hj, rfl⟩ := List.getElem_of_mem hs
    rw [List.length_take] at hj
    rw [List.getElem_take]
    have hr := List.pairwise_iff_getElem.1 hl j i (by omega) hi (by omega)
    obtain ⟨a, ha, ea, ea2⟩ := numb_mem (hmem _ (List.getElem_mem (show j < S.length by omega)))
    obtain ⟨b, hb, eb, eb2⟩ := numb_mem (hmem _ (List.getElem_mem hi))
    simp only [beq_iff_eq]
    intro e
    have hab : a = b := by omega
    subst hab
    rw [← ea2, ← eb2] at hr
    unfold lexR at hr
    omega
  rw [this]
theorem seen_set (n : Nat) (S : List It) (i q : Nat) (hi : i < S.length) (hq : S[i].id = (q : Int)) (hqn : q < n) : (seenA n S i).take q ++ vb true :: (seenA n S i).drop (q + 1) = seenA n S (i + 1) := by
  have h : (seenA n S i).take q ++ vb true :: (seenA n S i).drop (q + 1) = (seenA n S i).set q (vb true) := by
    rw [List.set_eq_take_append_cons_drop, if_pos (by rw [seen_len]; exact hqn)]
  rw [h]
  apply List.ext_getElem
  · rw [List.length_set, seen_len, seen_len]
  · intro d h1 h2
    rw [seen_len] at h2
    rw [List.getElem_set]
    simp only [seenA, List.getElem_map, List.getElem_range]
    rw [List.take_succ_eq_append_getElem hi, List.any_append]
    by_cases e : q = d
    · subst e
      rw [if_pos rfl]
      simp [hq]
    · rw [if_neg e]
      have : (S[i].id == (d : Int)) = false := by rw [hq]; simp; omega
      simp [this]
end Go.Proofs.YtgndbkeiickihaaEv
