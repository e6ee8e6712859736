/- Sets that are written down: what is told of them. -/
import Derived.Test.YtclebnamhpgdmaaBound
import Derived.Test.YtclebnamhpgdmaaBoMono
import Derived.Test.YtclebnamhpgdmaaPair
set_option linter.unusedSimpArgs false
set_option linter.unusedVariables false
namespace Go.Proofs.YtclebnamhpgdmaaEv
open Go
set_option maxHeartbeats 4000000
/-- A task alone, with a Run, a Sleep, a Lock. -/
def sOne (p a b c : Int) : St := ⟨p, [1], [0], [⟨⟨#[97]⟩, 100, 100, 1, 0, [⟨1, a, 0⟩, ⟨2, b, 0⟩, ⟨3, c, 0⟩]⟩]⟩
theorem sOne_good {p a b c : Int} (hp : 1 ≤ p ∧ p ≤ 3) (ha : 1 ≤ a ∧ a ≤ 60) (hb : 1 ≤ b ∧ b ≤ 60) (hc : 1 ≤ c ∧ c ≤ 60) : Good (sOne p a b c) := by
  refine ⟨hp, by simp [sOne], by simp [sOne], by simp [sOne], by simp [sOne], by simp [sOne], fun t ht => ?_, fun i j hi hj h => ?_⟩
  · simp only [sOne, List.mem_singleton] at ht
    subst ht
    refine ⟨rfl, by simp, by simp, by simp, by simp [sOne], by simp, fun q hq => ?_⟩
    simp only [List.mem_cons, List.not_mem_nil, or_false] at hq
    rcases hq with rfl | rfl | rfl
    · exact ⟨by simp, ha, by simp, by simp⟩
    · exact ⟨by simp, hb, by simp, by simp⟩
    · exact ⟨by simp, hc, by simp [sOne], by simp⟩
  · simp only [sOne, List.length_singleton] at hi hj
    omega
theorem sOne_sm (p a b c : Int) : Sm (sOne p a b c) := ⟨by simp [sOne], by simp [sOne], by simp [sOne], by simp [sOne], by simp [sOne]; decide⟩
theorem next_of {s : St} {bs : List Int} {n : Nat} {w : List Int} (hl : bs.length = s.tasks.length) (hw : waitsS s bs n = some w) : nextS s bs n = some (allK (ptsAt s n) 1 + allK (ptsAt s n) 2 + sumL id w + othersS s bs n (bAt bs n)) := by
  unfold nextS ownS wsumS
  rw [if_pos hl, hw]
  simp
theorem sOne_part {p a b c : Int} (hp : 1 ≤ p ∧ p ≤ 3) (ha : 1 ≤ a ∧ a ≤ 60) (hb : 1 ≤ b ∧ b ≤ 60) (hc : 1 ≤ c ∧ c ≤ 60) (x : Int) : partS (sOne p a b c) [x] 0 2 = some c := by
  have g := sOne_good hp ha hb hc
  have ht : thereS (sOne p a b c) 0 = true := (thereS_iff _ _).2 ⟨g, by simp, by simp [sOne]⟩
  have ho : okS (sOne p a b c) = true := (okS_iff _).2 g
  have hk : lockS (sOne p a b c) 0 2 = some ⟨3, c, 0⟩ := by unfold lockS; rw [if_pos ⟨ht, by omega⟩]; simp [sOne, eqz]
  unfold partS
  rw [if_pos (by simp [sOne])]
  rcases (by omega : p = 1 ∨ p = 2 ∨ p = 3) with rfl | rfl | rfl
  · rw [if_pos (by simp [sOne, eqz])]
    unfold fairS
    rw [hk]
    simp [othSum, sOne, sumN, othF, eqz]
  · rw [if_neg (by simp [sOne, eqz]), if_pos (by simp [sOne, eqz])]
    unfold agentS
    rw [if_pos (by simp [sOne]), hk]
    have hlo : lowerS (sOne 2 a b c) 0 (homeOf (sOne 2 a b c) ⟨3, c, 0⟩) = 0 := by
      unfold lowerS; rw [if_pos ht]; simp [sOne, maxN, lowF]
    have hhi : ∀ w, higherS (sOne 2 a b c) [x] 0 (homeOf (sOne 2 a b c) ⟨3, c, 0⟩) w = 0 := fun w => by
      unfold higherS; rw [if_pos ⟨ht, by simp [sOne]⟩]; simp [sOne, sumN, hiF]; omega
    have hle : leastS (sOne 2 a b c) 0 ⟨3, c, 0⟩ = c := by unfold leastS; rw [hlo]; simp
    simp only [Option.bind_some, hle, hhi]
    exact lfp_lo (by omega) (by omega)
  · rw [if_neg (by simp [sOne, eqz]), if_neg (by simp [sOne, eqz])]
    have hi : insS (sOne 3 a b c) 0 = 0 := by unfold insS; simp [sOne, othR, eqz, sumTop, topS, sortD, sumL]
    have hu : outS (sOne 3 a b c) 0 = 0 := by
      unfold outS
      rw [if_pos ht]
      split
      · rfl
      · have hr : roundsS (sOne 3 a b c) (clusterAt (sOne 3 a b c) (Int.toNat 0)) = 0 := by
          unfold roundsS askersS asks
          rw [ho]
          simp [sOne, clusterAt, coreAt, sumL, eqz, ceilS]
          split <;> (simp <;> omega)
        rw [hr]; omega
    unfold tokS tokIn
    rw [hk]
    simp [hi, hu]
theorem sOne_waits {p a b c : Int} (hp : 1 ≤ p ∧ p ≤ 3) (ha : 1 ≤ a ∧ a ≤ 60) (hb : 1 ≤ b ∧ b ≤ 60) (hc : 1 ≤ c ∧ c ≤ 60) (x : Int) : waitsS (sOne p a b c) [x] 0 = some [0, 0, c] := by
  have g := sOne_good hp ha hb hc
  have ht : thereS (sOne p a b c) 0 = true := (thereS_iff _ _).2 ⟨g, by simp, by simp [sOne]⟩
  have h2 := sOne_part hp ha hb hc x
  have f0 : waitF (sOne p a b c) [x] 0 0 = some 0 := by unfold waitF kindAt; simp [sOne, eqz]
  have f1 : waitF (sOne p a b c) [x] 0 1 = some 0 := by unfold waitF kindAt; simp [sOne, eqz]
  have f2 : waitF (sOne p a b c) [x] 0 2 = some c := by
    unfold waitF kindAt
    rw [if_pos (by simp [sOne, eqz])]
    exact h2
  have hl : (ptsAt (sOne p a b c) 0).length = 3 := by simp [ptsAt, sOne]
  refine waits_some.2 ⟨ht, fun i hi => ?_, ?_⟩
  · have hi : i < 3 := by rw [Int.toNat_zero, hl] at hi; exact hi
    unfold waitBad
    rcases i with _ | _ | _ | i
    · show (!(waitF _ _ 0 0).isSome) = false; rw [f0]; rfl
    · show (!(waitF _ _ 0 1).isSome) = false; rw [f1]; rfl
    · show (!(waitF _ _ 0 2).isSome) = false; rw [f2]; rfl
    · omega
  · rw [Int.toNat_zero, hl]
    unfold waitL waitV
    simp [List.range_succ, f0, f1, f2]
theorem sOne_next {p a b c : Int} (hp : 1 ≤ p ∧ p ≤ 3) (ha : 1 ≤ a ∧ a ≤ 60) (hb : 1 ≤ b ∧ b ≤ 60) (hc : 1 ≤ c ∧ c ≤ 60) (x : Int) : nextS (sOne p a b c) [x] 0 = some (a + b + c) := by
  have h := next_of (n := 0) (by simp [sOne]) (sOne_waits hp ha hb hc x)
  rw [Int.natCast_zero] at h
  rw [h]
  have ho : ∀ w, othersS (sOne p a b c) [x] 0 w = 0 := fun w => by
    unfold othersS
    split
    · simp [sOne, sumN, othW, eqz]
    · rfl
  rw [ho]
  simp [ptsAt, sOne, allK, sumL, kLen]
/-! ### one elsewhere -/
def sApart (p a b c r l : Int) : St := ⟨p, [1, 1], [0, 1], [⟨⟨#[97]⟩, 100, 100, 1, 0, [⟨1, a, 0⟩, ⟨2, b, 0⟩, ⟨3, c, 0⟩]⟩, ⟨⟨#[98]⟩, 3000, 3000, 2, 1, [⟨1, r, 0⟩, ⟨3, l, 1⟩]⟩]⟩
theorem sApart_good {p a b c r l : Int} (hp : 1 ≤ p ∧ p ≤ 3) (ha : 1 ≤ a ∧ a ≤ 60) (hb : 1 ≤ b ∧ b ≤ 60) (hc : 1 ≤ c ∧ c ≤ 60) (hr : 1 ≤ r ∧ r ≤ 60) (hl : 1 ≤ l ∧ l ≤ 60) : Good (sApart p a b c r l) := by
  refine ⟨hp, by simp [sApart], by simp [sApart], by simp [sApart], by simp [sApart], by simp [sApart], fun t ht => ?_, fun i j hi hj h => ?_⟩
  · simp only [sApart, List.mem_cons, List.not_mem_nil, or_false] at ht
    rcases ht with rfl | rfl
    · refine ⟨rfl, by simp, by simp, by simp, by simp [sApart], by simp, fun q hq => ?_⟩
      simp only [List.mem_cons, List.not_mem_nil, or_false] at hq
      rcases hq with rfl | rfl | rfl
      · exact ⟨by simp, ha, by simp, by simp⟩
      · exact ⟨by simp, hb, by simp, by simp⟩
      · exact ⟨by simp, hc, by simp [sApart], by simp⟩
    · refine ⟨rfl, by simp, by simp, by simp, by simp [sApart], by simp, fun q hq => ?_⟩
      simp only [List.mem_cons, List.not_mem_nil, or_false] at hq
      rcases hq with rfl | rfl
      · exact ⟨by simp, hr, by simp, by simp⟩
      · exact ⟨by simp, hl, by simp [sApart], by simp⟩
  · have hi : i < 2 := hi
    have hj : j < 2 := hj
    obtain rfl : i = 0 := by omega
    obtain rfl : j = 1 := by omega
    unfold twice
    simp [sApart]
theorem sApart_sm (p a b c r l : Int) : Sm (sApart p a b c r l) := ⟨by simp [sApart], by simp [sApart], by simp [sApart], by simp [sApart], by simp [sApart]; decide⟩
theorem sApart_part {p a b c r l : Int} (hp : 1 ≤ p ∧ p ≤ 3) (ha : 1 ≤ a ∧ a ≤ 60) (hb : 1 ≤ b ∧ b ≤ 60) (hc : 1 ≤ c ∧ c ≤ 60) (hr : 1 ≤ r ∧ r ≤ 60) (hl : 1 ≤ l ∧ l ≤ 60) (x y : Int) : partS (sApart p a b c r l) [x, y] 0 2 = some (c + if p = 2 then 0 else l) := by
  have g := sApart_good hp ha hb hc hr hl
  have ht : thereS (sApart p a b c r l) 0 = true := (thereS_iff _ _).2 ⟨g, by simp, by simp [sApart]⟩
  have ht1 : thereS (sApart p a b c r l) 1 = true := (thereS_iff _ _).2 ⟨g, by simp, by simp [sApart]⟩
  have ho : okS (sApart p a b c r l) = true := (okS_iff _).2 g
  have hk : lockS (sApart p a b c r l) 0 2 = some ⟨3, c, 0⟩ := by unfold lockS; rw [if_pos ⟨ht, by omega⟩]; simp [sApart, eqz]
  have hlo2 : longest [⟨1, r, 0⟩, ⟨3, l, 1⟩] = l := by simp [longest, maxL, kLen]; omega
  have hlo1 : longest [⟨1, a, 0⟩, ⟨2, b, 0⟩, ⟨3, c, 0⟩] = c := by simp [longest, maxL, kLen]; omega
  unfold partS
  rw [if_pos (by simp [sApart])]
  rcases (by omega : p = 1 ∨ p = 2 ∨ p = 3) with rfl | rfl | rfl
  · rw [if_pos (by simp [sApart, eqz])]
    unfold fairS
    rw [hk]
    simp [othSum, sApart, sumN, othF, eqz, longAt, hlo2]
  · rw [if_neg (by simp [sApart, eqz]), if_pos (by simp [sApart, eqz])]
    unfold agentS
    rw [if_pos (by simp [sApart]), hk]
    have hh : homeOf (sApart 2 a b c r l) ⟨3, c, 0⟩ = 0 := by simp [homeOf, sApart]
    have hm1 : mostS (sApart 2 a b c r l) 1 0 = 0 := by unfold mostS homedS; rw [if_pos ht1]; simp [homedL, sApart, lockAt, homeOf, eqz, maxL]
    have hlo : lowerS (sApart 2 a b c r l) 0 0 = 0 := by
      unfold lowerS; rw [if_pos ht]; simp [maxN, lowF, show (sApart 2 a b c r l).tasks.length = 2 from rfl, hm1]
    have hhi : ∀ w, higherS (sApart 2 a b c r l) [x, y] 0 0 w = 0 := fun w => by
      unfold higherS; rw [if_pos ⟨ht, by simp [sApart]⟩]; simp [sApart, sumN, hiF, prioAt]; omega
    have hle : leastS (sApart 2 a b c r l) 0 ⟨3, c, 0⟩ = c := by unfold leastS; rw [hh, hlo]; simp
    simp only [Option.bind_some, hle, hh, hhi]
    rw [lfp_lo (by omega) (by omega)]
    simp
  · rw [if_neg (by simp [sApart, eqz]), if_neg (by simp [sApart, eqz])]
    have hi : insS (sApart 3 a b c r l) 0 = l := by
      unfold insS coresS
      rw [if_pos ho]
      have hmn : (min (max (1 : Int) 0) 1).toNat = 1 := by decide
      simp [sApart, othR, eqz, sumTop, topS, sortD, insD, sumL, longAt, hlo2, hmn]
    have hu : outS (sApart 3 a b c r l) 0 = 0 := by
      unfold outS
      rw [if_pos ht]
      split
      · rfl
      · have hr : roundsS (sApart 3 a b c r l) (clusterAt (sApart 3 a b c r l) (Int.toNat 0)) = 0 := by
          unfold roundsS askersS asks
          rw [ho]
          simp [sApart, clusterAt, coreAt, sumL, eqz, ceilS]
          split <;> (simp <;> omega)
        rw [hr]; omega
    unfold tokS tokIn
    rw [hk]
    simp [hi, hu]
/-! ### waits, what comes next: part by part -/
theorem waits_of {s : St} {bs : List Int} {n : Nat} (w : List Int) (ht : thereS s n = true) (hl : (ptsAt s n).length = w.length) (h : ∀ i, i < w.length → waitF s bs n i = some (w.getD i 0)) : waitsS s bs n = some w := by
  refine waits_some.2 ⟨ht, fun i hi => ?_, ?_⟩
  · rw [Int.toNat_natCast] at hi ⊢
    unfold waitBad
    rw [h i (by omega)]; rfl
  · rw [Int.toNat_natCast, hl]
    refine List.ext_getElem? fun i => ?_
    by_cases hi : i < w.length
    · have h1 : (waitL s bs n w.length)[i]? = some (waitV s bs n i) := by unfold waitL; simp [hi]
      rw [h1, List.getElem?_eq_getElem hi]
      unfold waitV
      rw [h i hi, List.getD_eq_getElem?_getD, List.getElem?_eq_getElem hi]; rfl
    · rw [List.getElem?_eq_none (by omega), List.getElem?_eq_none (by rw [waitL_len]; omega)]
theorem waitF_no {s : St} {bs : List Int} {m i : Nat} (h : ¬ kindAt s m i = 3) : waitF s bs m i = some 0 := by unfold waitF; rw [if_neg (by simpa [eqz] using h)]
theorem waitF_lock {s : St} {bs : List Int} {m i : Nat} {x : Int} (h : kindAt s m i = 3) (hp : partS s bs m i = some x) : waitF s bs m i = some x := by unfold waitF; rw [if_pos (by simp [eqz, h]), hp]
theorem sApart_next {p a b c r l : Int} (hp : 1 ≤ p ∧ p ≤ 3) (ha : 1 ≤ a ∧ a ≤ 60) (hb : 1 ≤ b ∧ b ≤ 60) (hc : 1 ≤ c ∧ c ≤ 60) (hr : 1 ≤ r ∧ r ≤ 60) (hl : 1 ≤ l ∧ l ≤ 60) (x y : Int) : nextS (sApart p a b c r l) [x, y] 0 = some (a + b + c + if p = 2 then 0 else l) := by
  have g := sApart_good hp ha hb hc hr hl
  have ht : thereS (sApart p a b c r l) (0 : Nat) = true := (thereS_iff _ _).2 ⟨g, by simp, by simp [sApart]⟩
  have ht1 : thereS (sApart p a b c r l) 1 = true := (thereS_iff _ _).2 ⟨g, by simp, by simp [sApart]⟩
  have h2 := sApart_part hp ha hb hc hr hl x y
  have hw : waitsS (sApart p a b c r l) [x, y] (0 : Nat) = some [0, 0, c + if p = 2 then 0 else l] := by
    refine waits_of _ ht (by simp [ptsAt, sApart]) fun i hi => ?_
    rcases i with _ | _ | _ | i
    · exact waitF_no (by simp [kindAt, sApart])
    · exact waitF_no (by simp [kindAt, sApart])
    · have hk3 : kindAt (sApart p a b c r l) 0 2 = 3 := by simp [kindAt, sApart]
      exact waitF_lock hk3 h2
    · simp at hi; omega
  have h := next_of (n := 0) (by simp [sApart]) hw
  rw [Int.natCast_zero] at h
  rw [h]
  have hat : atS (sApart p a b c r l) 1 0 = 0 := by unfold atS homedS; rw [if_pos ht1]; simp [homedL, sApart, lockAt, homeOf, eqz, sumL]
  have he : eachS (sApart p a b c r l) 0 1 = 0 := by
    unfold eachS
    have h1 : clAt (sApart p a b c r l) 0 = 0 := by simp [clAt, sApart]
    have h2 : clAt (sApart p a b c r l) 1 = 1 := by simp [clAt, sApart]
    rw [h1, h2]
    have h3 : (((1 : Nat) : Int)) = 1 := rfl
    rw [h3, hat]
    simp [eqz]
  have hwk : ∀ w b q, workS w b q 0 = 0 := fun w b q => by unfold workS; simp; omega
  have ho : ∀ w, othersS (sApart p a b c r l) [x, y] 0 w = 0 := fun w => by
    unfold othersS
    split
    · have : sumN (othW (sApart p a b c r l) [x, y] (Int.toNat 0) w) (sApart p a b c r l).tasks.length = 0 := by
        show sumN (othW (sApart p a b c r l) [x, y] 0 w) 2 = 0
        simp [sumN, othW, eqz, he, hwk]
      rw [this]; simp
    · rfl
  rw [ho]
  simp [ptsAt, sApart, allK, sumL, kLen]
  omega
theorem work_nil (w b q : Int) : workS w b q 0 = 0 := by unfold workS; simp; omega
theorem sPair_others0 {ps qs : List Pt} (h1 : PtsG ps) (h2 : PtsG qs) (x y w : Int) (hx : 0 ≤ x) (hy : 0 ≤ y) : othersS (sPair 1 ps qs) [x, y] 0 w = workS w y 200 (allK qs 3) := by
  have ht := sPair_there (p := 1) (by omega) h1 h2 0 (by omega)
  unfold othersS
  rw [if_pos ⟨ht, by simp [sPair], by simp [negL]; omega⟩]
  have he : eachS (sPair 1 ps qs) 0 1 = allK qs 3 := by
    unfold eachS
    simp [sPair, clAt, ptsAt, prioAt, eqz]
  have hc : corAt (sPair 1 ps qs) 0 = 1 := by simp [corAt, sPair, clAt]
  rw [Int.toNat_zero, hc]
  show sumN (othW (sPair 1 ps qs) [x, y] 0 w) 2 / 1 = _
  have hp : perAt (sPair 1 ps qs) 1 = 200 := by simp [perAt, sPair]
  simp [sumN, othW, eqz, he, hp, bAt]
end Go.Proofs.YtclebnamhpgdmaaEv
