/- Three tasks at two clusters: plain law. -/
import Derived.Test.YtiocdaeinahcoaaTokenR
set_option linter.unusedSimpArgs false
set_option linter.unusedVariables false
namespace Go.Proofs.YtiocdaeinahcoaaEv
open Go
def elseT (nm : UInt8) (pr cl x : Int) : Tk := ⟨⟨#[nm]⟩, 900, 900, pr, cl, [⟨3, x, 0⟩]⟩
def elseS (x y z k : Int) : St := ⟨3, [1, k], [0], [elseT 97 1 0 x, elseT 98 2 1 y, elseT 99 3 1 z]⟩
theorem tw (a : UInt8) (p c x : Int) (b : UInt8) (q d y : Int) (h1 : (a == b) = false) (h2 : decide (q = p) = false) : twice (elseT a p c x) (elseT b q d y) = false := by
  unfold twice
  have h3 : ¬ (⟨#[b]⟩ : ByteArray).toList = (⟨#[a]⟩ : ByteArray).toList := by
    intro h
    have e : ∀ u : UInt8, (⟨#[u]⟩ : ByteArray).toList = [u] := fun u => by unfold ByteArray.toList; rw [bal_loop _ _ _ _ rfl]; rfl
    rw [e, e] at h
    injection h with h
    subst h; simp at h1
  show (decide ((⟨#[b]⟩ : ByteArray).toList = (⟨#[a]⟩ : ByteArray).toList) || decide (q = p)) = false
  rw [h2, decide_eq_false h3]; rfl
theorem out_zero {s : St} {m : Nat} (hm : m < s.tasks.length) (h : askersS s s.tasks[m].cluster ≤ coreAt s s.tasks[m].cluster) : outS s m = 0 := by
  unfold outS
  split
  · next ht =>
    obtain ⟨g, _⟩ := (thereS_iff s m).1 ht
    rw [Int.toNat_natCast, clusterAt_is s m hm]
    split
    · rfl
    · have hc := core_at g (List.getElem_mem hm)
      have e : max (askersS s s.tasks[m].cluster - coreAt s s.tasks[m].cluster) 0 = 0 := by omega
      have := ceil_le 0 (coreAt s s.tasks[m].cluster) (Int.le_refl _) hc.2.2.2.1
      unfold roundsS
      rw [e, show ceilS 0 (coreAt s s.tasks[m].cluster) = 0 by omega, Int.zero_mul]
  · rfl
theorem else_good (x y z k : Int) (hx : 1 ≤ x ∧ x ≤ 60) (hy : 1 ≤ y ∧ y ≤ 60) (hz : 1 ≤ z ∧ z ≤ 60) (hk : 1 ≤ k ∧ k ≤ 3) : Good (elseS x y z k) := by
  have hp : ∀ w : Int, 1 ≤ w ∧ w ≤ 60 → ∀ p ∈ [(⟨3, w, 0⟩ : Pt)], GoodP (elseS x y z k) p := by
    intro w hw p h
    rw [List.mem_singleton.1 h]
    exact ⟨by show (1 : Int) ≤ 3 ∧ (3 : Int) ≤ 3; decide, hw, fun _ => by show (0 : Int) ≤ 0 ∧ (0 : Int) < ((1 : Nat) : Int); decide, fun _ => rfl⟩
  have ht : ∀ nm pr cl w, nameOk ⟨#[nm]⟩ = true → 1 ≤ pr ∧ pr ≤ 1000 → 0 ≤ cl ∧ cl < 2 → 1 ≤ w ∧ w ≤ 60 → GoodT (elseS x y z k) (elseT nm pr cl w) := by
    intro nm pr cl w h1 h2 h3 h4
    exact ⟨h1, by show (1 : Int) ≤ 900 ∧ (900 : Int) ≤ 3000; decide, by show (1 : Int) ≤ 900 ∧ (900 : Int) ≤ 900; decide, h2, h3, by show 1 ≤ 1 ∧ 1 ≤ 6; decide, hp w h4⟩
  refine ⟨by show (1 : Int) ≤ 3 ∧ (3 : Int) ≤ 3; decide, by show 1 ≤ 2 ∧ 2 ≤ 3; decide, ?_, by show 1 ≤ 4; decide, ?_, by show 1 ≤ 3 ∧ 3 ≤ 6; decide, ?_, ?_⟩
  · intro c hc
    simp only [elseS, List.mem_cons, List.not_mem_nil, or_false] at hc
    omega
  · intro h hh
    simp only [elseS, List.mem_cons, List.not_mem_nil, or_false] at hh
    subst hh; show (0 : Int) ≤ 0 ∧ (0 : Int) < ((2 : Nat) : Int); decide
  · intro t h
    simp only [elseS, List.mem_cons, List.not_mem_nil, or_false] at h
    rcases h with rfl | rfl | rfl
    · exact ht 97 1 0 x rfl (by omega) (by omega) hx
    · exact ht 98 2 1 y rfl (by omega) (by omega) hy
    · exact ht 99 3 1 z rfl (by omega) (by omega) hz
  · intro i j hi hj h
    match i, j, hi, hj, h with
    | 0, 1, _, _, _ => exact tw 98 2 1 y 97 1 0 x rfl rfl
    | 0, 2, _, _, _ => exact tw 99 3 1 z 97 1 0 x rfl rfl
    | 1, 2, _, _, _ => exact tw 99 3 1 z 98 2 1 y rfl rfl
    | 0, j + 3, _, hj, _ => exact absurd hj (by show ¬ j + 3 < 3; omega)
    | i + 1, 1, _, _, h => omega
    | i + 2, 2, _, _, h => omega
    | i + 1, j + 3, _, hj, _ => exact absurd hj (by show ¬ j + 3 < 3; omega)
theorem else_sm (x y z k : Int) : Sm (elseS x y z k) := by
  refine ⟨by show 2 ≤ 8; decide, by show 1 ≤ 10; decide, by show 3 ≤ 9; decide, fun t h => ?_, fun t h => ?_⟩
  all_goals
    simp only [elseS, List.mem_cons, List.not_mem_nil, or_false] at h
    rcases h with rfl | rfl | rfl
  all_goals first | (show 1 ≤ 10; decide) | (show 1 ≤ 20; decide)
theorem else_long (w : Int) (hw : 1 ≤ w) : longest [(⟨3, w, 0⟩ : Pt)] = w := by
  have e : longest [(⟨3, w, 0⟩ : Pt)] = max w 0 := rfl
  rw [e]; omega
theorem else_oth0 (x y z k : Int) (hy : 1 ≤ y) (hz : 1 ≤ z) : othR (elseS x y z k) 0 3 = [y, z] := by
  have e : othR (elseS x y z k) 0 3 = [longest [(⟨3, y, 0⟩ : Pt)], longest [(⟨3, z, 0⟩ : Pt)]] := rfl
  rw [e, else_long y hy, else_long z hz]
theorem else_oth1 (x y z k : Int) (hx : 1 ≤ x) (hz : 1 ≤ z) : othR (elseS x y z k) 1 3 = [x, z] := by
  have e : othR (elseS x y z k) 1 3 = [longest [(⟨3, x, 0⟩ : Pt)], longest [(⟨3, z, 0⟩ : Pt)]] := rfl
  rw [e, else_long x hx, else_long z hz]
theorem else_oth2 (x y z k : Int) (hx : 1 ≤ x) (hy : 1 ≤ y) : othR (elseS x y z k) 2 3 = [x, y] := by
  have e : othR (elseS x y z k) 2 3 = [longest [(⟨3, x, 0⟩ : Pt)], longest [(⟨3, y, 0⟩ : Pt)]] := rfl
  rw [e, else_long x hx, else_long y hy]
theorem sumTop2 (a b k : Int) (hk : 1 ≤ k) : sumTop [a, b] k = if 1 < k then a + b else max a b := by
  split
  · rw [sumTop_all _ _ (by simp; omega)]; simp [sumL]
  · obtain rfl : k = 1 := by omega
    have e : topS [a, b] 1 = (sortD [a, b]).take 1 := rfl
    have e2 : sortD [a, b] = if b ≤ a then [a, b] else [b, a] := rfl
    unfold sumTop
    rw [e, e2]
    split <;> simp [sumL] <;> omega
theorem else_law (x y z k : Int) (hx : 1 ≤ x ∧ x ≤ 60) (hy : 1 ≤ y ∧ y ≤ 60) (hz : 1 ≤ z ∧ z ≤ 60) (hk : 1 ≤ k ∧ k ≤ 3) :
    tokS (elseS x y z k) 0 0 = some (if 1 < k then x + y + z else x + max y z) ∧ outS (elseS x y z k) 0 = 0 ∧ decide (0 < outS (elseS x y z k) 1) = eqz k 1 := by
  have g := else_good x y z k hx hy hz hk
  have hok : okS (elseS x y z k) = true := (okS_iff _).2 g
  have t0 : thereS (elseS x y z k) 0 = true := (thereS_iff _ _).2 ⟨g, by omega, by show (0 : Int) < ((3 : Nat) : Int); decide⟩
  have t1 : thereS (elseS x y z k) 1 = true := (thereS_iff _ _).2 ⟨g, by omega, by show (1 : Int) < ((3 : Nat) : Int); decide⟩
  have hco : coresS (elseS x y z k) = 1 + k := by rw [coresS_good g]; show (1 : Int) + (k + 0) = _; omega
  have hi0 : insS (elseS x y z k) 0 = if 1 < k then y + z else max y z := by
    unfold insS
    rw [hco]
    show sumTop (othR (elseS x y z k) 0 3) (1 + k - 1) = _
    rw [else_oth0 x y z k hy.1 hz.1, sumTop2 _ _ _ (by omega)]
    congr 1; simp; omega
  have ha0 : askersS (elseS x y z k) 0 = 1 := by
    have e : askersS (elseS x y z k) 0 = (if (okS (elseS x y z k) = true ∧ eqz 0 0 = true) ∧ 0 < longest [(⟨3, x, 0⟩ : Pt)] then 1 else 0) + ((if (okS (elseS x y z k) = true ∧ eqz 1 0 = true) ∧ 0 < longest [(⟨3, y, 0⟩ : Pt)] then 1 else 0) + ((if (okS (elseS x y z k) = true ∧ eqz 1 0 = true) ∧ 0 < longest [(⟨3, z, 0⟩ : Pt)] then 1 else 0) + 0)) := rfl
    rw [e, else_long x hx.1, if_pos ⟨⟨hok, rfl⟩, by omega⟩, if_neg (by rintro ⟨⟨_, h⟩, _⟩; exact absurd h (by decide)), if_neg (by rintro ⟨⟨_, h⟩, _⟩; exact absurd h (by decide))]
    rfl
  have ha1 : askersS (elseS x y z k) 1 = 2 := by
    have e : askersS (elseS x y z k) 1 = (if (okS (elseS x y z k) = true ∧ eqz 0 1 = true) ∧ 0 < longest [(⟨3, x, 0⟩ : Pt)] then 1 else 0) + ((if (okS (elseS x y z k) = true ∧ eqz 1 1 = true) ∧ 0 < longest [(⟨3, y, 0⟩ : Pt)] then 1 else 0) + ((if (okS (elseS x y z k) = true ∧ eqz 1 1 = true) ∧ 0 < longest [(⟨3, z, 0⟩ : Pt)] then 1 else 0) + 0)) := rfl
    rw [e, else_long y hy.1, else_long z hz.1, if_neg (by rintro ⟨⟨_, h⟩, _⟩; exact absurd h (by decide)), if_pos ⟨⟨hok, rfl⟩, by omega⟩, if_pos ⟨⟨hok, rfl⟩, by omega⟩]
    rfl
  have hlk : lockS (elseS x y z k) 0 0 = some ⟨3, x, 0⟩ := by unfold lockS; rw [if_pos ⟨t0, by omega⟩]; rfl
  have ho0 : outS (elseS x y z k) 0 = 0 := out_zero (m := 0) (by show 0 < 3; decide) (by show askersS (elseS x y z k) 0 ≤ 1; rw [ha0]; exact Int.le_refl _)
  refine ⟨?_, ho0, ?_⟩
  · unfold tokS tokIn
    rw [hlk, ho0, hi0]
    show some (x + _ + 0) = _
    congr 1; split <;> omega
  · have hc1 : clusterAt (elseS x y z k) 1 = 1 := rfl
    have hl1 : longAt (elseS x y z k) 1 = y := else_long y hy.1
    have hk1 : coreAt (elseS x y z k) 1 = k := rfl
    have e : outS (elseS x y z k) 1 = ceilS (max (2 - k) 0) k * stayS (elseS x y z k) 1 := by
      unfold outS
      rw [if_pos t1, show ((1 : Int).toNat) = 1 from rfl, hl1, hc1, if_neg (by simp [eqz]; omega)]
      unfold roundsS
      rw [ha1, hk1]
    rw [e]
    have hst : 1 ≤ stayS (elseS x y z k) 1 := by
      have h1 := le_maxN (f := outF (elseS x y z k) 1) 3 1 (by omega)
      have h2 : outF (elseS x y z k) 1 1 = y + insS (elseS x y z k) 1 := by
        unfold outF
        rw [hc1, hl1, if_pos ⟨rfl, by omega⟩]; rfl
      have h3 := ins_bounds g 1
      have h4 : stayS (elseS x y z k) 1 = maxN (outF (elseS x y z k) 1) 3 := rfl
      omega
    by_cases h : k = 1
    · subst h
      rw [show ceilS (max (2 - 1) 0) 1 = 1 from rfl, Int.one_mul]
      simp [eqz]; omega
    · have e1 : max (2 - k) 0 = 0 := by omega
      have := ceil_le 0 k (by omega) hk.1
      rw [e1, show ceilS 0 k = 0 by omega, Int.zero_mul]
      simp [eqz, h]
end Go.Proofs.YtiocdaeinahcoaaEv
