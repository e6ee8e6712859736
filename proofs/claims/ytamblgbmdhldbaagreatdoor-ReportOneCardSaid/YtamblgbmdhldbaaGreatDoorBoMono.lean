/- With greater bounds, greater windows what is told isn't less. -/
import Derived.Test.YtamblgbmdhldbaaGreatDoorBound
import Derived.Test.YtamblgbmdhldbaaGreatDoorAgMono
set_option linter.unusedSimpArgs false
set_option linter.unusedVariables false
namespace Go.Proofs.YtamblgbmdhldbaaGreatDoorEv
open Go
set_option maxHeartbeats 2000000
/-- Bounds place by place not greater, and none below 0. -/
structure LeB (bs cs : List Int) : Prop where
  len : bs.length = cs.length
  nn : ∀ i, 0 ≤ bAt bs i
  le : ∀ i, bAt bs i ≤ bAt cs i
theorem LeB.nn' {bs cs} (h : LeB bs cs) (i) : 0 ≤ bAt cs i := Int.le_trans (h.nn i) (h.le i)
theorem part_mono {s : St} {bs cs : List Int} (h : LeB bs cs) {n k b : Int} (hb : partS s cs n k = some b) : ∃ a, partS s bs n k = some a ∧ a ≤ b := by
  unfold partS at hb ⊢
  rw [h.len]
  split at hb
  · rename_i hl
    rw [if_pos hl]
    split at hb
    · rename_i p1; rw [if_pos p1]; exact ⟨b, hb, Int.le_refl _⟩
    · rename_i p1
      rw [if_neg p1]
      split at hb
      · rename_i p2; rw [if_pos p2]; exact agent_mono_b h.len (fun i => .inr ⟨h.nn i, h.le i⟩) n k b hb
      · rename_i p2; rw [if_neg p2]; exact ⟨b, hb, Int.le_refl _⟩
  · cases hb
theorem waitF_mono {s : St} {bs cs : List Int} (h : LeB bs cs) {m i : Nat} {b : Int} (hb : waitF s cs m i = some b) : ∃ a, waitF s bs m i = some a ∧ a ≤ b := by
  unfold waitF at hb ⊢
  split at hb
  · rename_i hk; rw [if_pos hk]; exact part_mono h hb
  · rename_i hk; rw [if_neg hk]; exact ⟨b, hb, Int.le_refl _⟩
theorem wait_ok {s : St} {bs : List Int} {m i : Nat} (h : waitBad s bs m i = false) : ∃ b, waitF s bs m i = some b := by
  unfold waitBad at h
  exact Option.isSome_iff_exists.1 (by simpa using h)
theorem sumL_range (f : Nat → Int) (n : Nat) : sumL id ((List.range n).map f) = sumN f n := by
  induction n with
  | zero => rfl
  | succ n ih => rw [List.range_succ, List.map_append, sumL_append, ih, sumN]; simp [sumL]
theorem waits_some {s : St} {bs : List Int} {n : Int} {l : List Int} : waitsS s bs n = some l ↔ thereS s n = true ∧ (∀ i, i < (ptsAt s n.toNat).length → waitBad s bs n.toNat i = false) ∧ l = waitL s bs n.toNat (ptsAt s n.toNat).length := by
  have e : (s.tasks[n.toNat]?.map fun t => t.parts.length).getD 0 = (ptsAt s n.toNat).length := by unfold ptsAt; cases s.tasks[n.toNat]? <;> rfl
  unfold waitsS
  rw [e]
  constructor
  · intro h
    split at h
    · rename_i ht
      split at h
      · rename_i hf
        cases h
        refine ⟨ht, fun i hi => ?_, rfl⟩
        exact (fstP_none _ _).1 (by simpa using hf) i (Nat.zero_le _) (by omega)
      · cases h
    · cases h
  · rintro ⟨ht, hb, rfl⟩
    rw [if_pos ht, if_pos]
    rw [(fstP_none _ _).2 fun k _ hk => hb k (by omega)]; rfl
theorem waits_mono {s : St} {bs cs : List Int} (h : LeB bs cs) {n : Int} {l' : List Int} (hw : waitsS s cs n = some l') : ∃ l, waitsS s bs n = some l ∧ wsumS s bs n ≤ wsumS s cs n ∧ ∀ i, waitV s bs n.toNat i ≤ waitV s cs n.toNat i ∨ (ptsAt s n.toNat).length ≤ i := by
  obtain ⟨ht, hb, rfl⟩ := waits_some.1 hw
  have key : ∀ i, i < (ptsAt s n.toNat).length → waitBad s bs n.toNat i = false ∧ waitV s bs n.toNat i ≤ waitV s cs n.toNat i := by
    intro i hi
    obtain ⟨b, hb⟩ := wait_ok (hb i hi)
    obtain ⟨a, ha, hab⟩ := waitF_mono h hb
    unfold waitBad waitV
    rw [ha, hb]
    exact ⟨rfl, hab⟩
  have h1 := waits_some.2 ⟨ht, fun i hi => (key i hi).1, rfl⟩
  refine ⟨_, h1, ?_, fun i => ?_⟩
  · unfold wsumS
    rw [h1, hw]
    simp only [Option.getD_some]
    unfold waitL
    rw [sumL_range, sumL_range]
    exact sumN_mono _ fun i hi => (key i hi).2
  · by_cases hi : i < (ptsAt s n.toNat).length
    · exact .inl (key i hi).2
    · exact .inr (by omega)
theorem own_mono {s : St} {bs cs : List Int} (h : LeB bs cs) {n b : Int} (hb : ownS s cs n = some b) : ∃ a, ownS s bs n = some a ∧ a ≤ b := by
  unfold ownS at hb ⊢
  split at hb
  · rename_i hw
    obtain ⟨l', hl⟩ := Option.isSome_iff_exists.1 hw
    obtain ⟨l, h1, h2, _⟩ := waits_mono h hl
    rw [if_pos (by rw [h1]; rfl)]
    cases hb
    exact ⟨_, rfl, by omega⟩
  · cases hb
theorem negL_nn {bs : List Int} (h : ∀ i, 0 ≤ bAt bs i) : negL bs = false := by
  rw [negP, fstP_none]
  intro k _ _
  have := h k
  simp; omega
theorem others_mono {s : St} {bs cs : List Int} (h : LeB bs cs) {n w w' : Int} (hw : w ≤ w') : othersS s bs n w ≤ othersS s cs n w' := by
  unfold othersS
  rw [h.len, negL_nn h.nn, negL_nn h.nn']
  split
  · rename_i hc
    obtain ⟨g, h0, hn⟩ := (thereS_iff s n).1 hc.1
    have hcb := corAt_b g (show n.toNat < s.tasks.length by omega)
    refine Int.ediv_le_ediv (by omega) (sumN_mono _ fun i _ => ?_)
    unfold othW
    split
    · omega
    · exact work_mono hw (h.le i) (h.nn i) (Int.le_refl _)
  · omega
theorem next_mono {s : St} {bs cs : List Int} (h : LeB bs cs) {n b : Int} (hb : nextS s cs n = some b) : ∃ a, nextS s bs n = some a ∧ a ≤ b := by
  unfold nextS at hb ⊢
  rw [h.len]
  split at hb
  · rename_i hl
    rw [if_pos hl]
    obtain ⟨y, hy, rfl⟩ := Option.map_eq_some_iff.1 hb
    obtain ⟨x, hx, hxy⟩ := own_mono h hy
    rw [hx]
    refine ⟨_, rfl, ?_⟩
    have := others_mono (s := s) h (n := n) (h.le n.toNat)
    show x + othersS s bs n (bAt bs n.toNat) ≤ y + othersS s cs n (bAt cs n.toNat)
    omega
  · cases hb
end Go.Proofs.YtamblgbmdhldbaaGreatDoorEv
