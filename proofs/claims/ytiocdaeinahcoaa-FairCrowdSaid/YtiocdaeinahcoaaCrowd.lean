/- So many tasks alike but for their parts: plain law. -/
import Derived.Test.YtiocdaeinahcoaaTokenR
set_option linter.unusedSimpArgs false
set_option linter.unusedVariables false
namespace Go.Proofs.YtiocdaeinahcoaaEv
open Go
def crT (per : Int) (f : Nat → List Pt) (i : Nat) : Tk := ⟨⟨#[UInt8.ofNat (97 + i)]⟩, per, per, i + 1, 0, f i⟩
def crS (proto : Int) (cs hs : List Int) (per : Int) (f : Nat → List Pt) (n : Nat) : St := ⟨proto, cs, hs, (List.range n).map (crT per f)⟩
theorem crS_len (proto cs hs per f n) : (crS proto cs hs per f n).tasks.length = n := by simp [crS]
theorem crS_at (proto cs hs per f n) (i : Nat) (h : i < (crS proto cs hs per f n).tasks.length) : (crS proto cs hs per f n).tasks[i] = crT per f i := by simp [crS]
theorem cr_step (per f n) : ((List.range (n + 1)).map (crT per f)).flatMap Tk.c = ((List.range n).map (crT per f)).flatMap Tk.c ++ Tk.c (crT per f n) := by
  rw [List.range_succ, List.map_append, List.flatMap_append]; simp
theorem cr_name : ∀ i, i < 6 → nameOk ⟨#[UInt8.ofNat (97 + i)]⟩ = true
  | 0, _ => rfl | 1, _ => rfl | 2, _ => rfl | 3, _ => rfl | 4, _ => rfl | 5, _ => rfl
theorem cr_good (proto : Int) (cs hs : List Int) (per : Int) (f : Nat → List Pt) (n : Nat) (hp : 1 ≤ proto ∧ proto ≤ 3) (hc : 1 ≤ cs.length ∧ cs.length ≤ 3) (hcs : ∀ c ∈ cs, 1 ≤ c ∧ c ≤ 3) (hh : hs.length ≤ 4) (hhs : ∀ h ∈ hs, 0 ≤ h ∧ h < cs.length)
    (hn : 1 ≤ n ∧ n ≤ 6) (hper : 1 ≤ per ∧ per ≤ 3000) (hf : ∀ i, i < n → (1 ≤ (f i).length ∧ (f i).length ≤ 6) ∧ ∀ p ∈ f i, GoodP (crS proto cs hs per f n) p) : Good (crS proto cs hs per f n) := by
  refine ⟨hp, hc, hcs, hh, hhs, by rw [crS_len]; exact hn, fun t ht => ?_, fun i j hi hj h => ?_⟩
  · obtain ⟨i, hi, rfl⟩ := List.getElem_of_mem ht
    rw [crS_at]
    rw [crS_len] at hi
    obtain ⟨h1, h2⟩ := hf i hi
    exact ⟨cr_name i (by omega), hper, ⟨hper.1, Int.le_refl _⟩, by show 1 ≤ (i : Int) + 1 ∧ (i : Int) + 1 ≤ 1000; omega, by show (0 : Int) ≤ 0 ∧ (0 : Int) < cs.length; omega, h1, h2⟩
  · rw [crS_at, crS_at]
    rw [crS_len] at hi hj
    unfold twice
    have h2 : decide ((crT per f i).prio = (crT per f j).prio) = false := by
      apply decide_eq_false; show ¬ (i : Int) + 1 = (j : Int) + 1; omega
    have h3 : ¬ (crT per f i).name.toList = (crT per f j).name.toList := by
      intro e
      rw [bal_eq, bal_eq] at e
      have e2 : UInt8.ofNat (97 + i) = UInt8.ofNat (97 + j) := by injection e
      have e3 := congrArg UInt8.toNat e2
      simp at e3; omega
    rw [h2, decide_eq_false h3]; rfl
theorem cr_sm (proto : Int) (cs hs : List Int) (per : Int) (f : Nat → List Pt) (n : Nat) (g : Good (crS proto cs hs per f n)) : Sm (crS proto cs hs per f n) := by
  refine ⟨by have := g.cores; omega, by have := g.homes; omega, by have := g.tasks; omega, fun t h => by have := (g.task t h).parts; omega, fun t h => ?_⟩
  obtain ⟨i, hi, rfl⟩ := List.getElem_of_mem h
  rw [crS_at]; show 1 ≤ 20; decide
theorem cr_long (proto cs hs per f n) (i : Nat) (hi : i < n) : longAt (crS proto cs hs per f n) i = longest (f i) := by
  rw [longAt_is _ i (by rw [crS_len]; exact hi), crS_at]; rfl
/-! ### all alike -/
theorem insD_rep (d : Int) : ∀ m, insD d (List.replicate m d) = List.replicate (m + 1) d
  | 0 => rfl
  | m + 1 => by rw [List.replicate_succ, insD, if_pos (Int.le_refl _)]; rfl
theorem sortD_rep (d : Int) : ∀ m, sortD (List.replicate m d) = List.replicate m d
  | 0 => rfl
  | m + 1 => by rw [List.replicate_succ, sortD, sortD_rep d m, insD_rep]; rfl
theorem sumL_rep (d : Int) : ∀ m : Nat, sumL id (List.replicate m d) = m * d
  | 0 => by simp [sumL]
  | m + 1 => by rw [List.replicate_succ, sumL, sumL_rep d m, Int.natCast_succ, Int.add_mul]; simp; omega
theorem sumTop_rep (d : Int) (m : Nat) (k : Int) : sumTop (List.replicate m d) k = min (max k 0) m * d := by
  unfold sumTop topS
  rw [sortD_rep, List.take_replicate, sumL_rep, List.length_replicate]
  congr 1; omega
theorem oth_rep (s : St) (d : Int) (a : Nat) : ∀ i, (∀ j, j < i → longAt s j = d) → othR s a i = List.replicate (i - if a < i then 1 else 0) d
  | 0, _ => rfl
  | i + 1, h => by
    rw [othR, oth_rep s d a i fun j hj => h j (by omega)]
    by_cases e : i = a
    · subst e; rw [if_pos (eqz_self _)]; simp
    · have e2 : ¬ eqz (i : Int) a = true := by simp [eqz]; omega
      rw [if_neg e2, h i (by omega), ← List.replicate_succ']
      congr 1; split <;> split <;> omega
theorem asks_all (s : St) (l : List Tk) (h : ∀ t ∈ l, asks s 0 t = 1) : sumL (asks s 0) l = l.length := by
  induction l with
  | nil => rfl
  | cons t l ih => rw [sumL, h t (by simp), ih fun t ht => h t (by simp [ht])]; simp; omega
def roundS (c d : Int) (n : Nat) : St := crS 3 [c] [0] 2000 (fun _ => [⟨3, d, 0⟩]) n
theorem round_good (c d : Int) (n : Nat) (hc : 1 ≤ c ∧ c ≤ 3) (hd : 1 ≤ d ∧ d ≤ 60) (hn : 1 ≤ n ∧ n ≤ 6) : Good (roundS c d n) := by
  refine cr_good 3 [c] [0] 2000 _ n (by omega) (by simp) (fun x h => by rw [List.mem_singleton.1 h]; exact hc) (by simp) (fun x h => by rw [List.mem_singleton.1 h]; simp) hn (by omega) fun i hi => ⟨by simp, fun p h => ?_⟩
  rw [List.mem_singleton.1 h]
  exact ⟨by show (1 : Int) ≤ 3 ∧ (3 : Int) ≤ 3; decide, hd, fun _ => by show (0 : Int) ≤ 0 ∧ (0 : Int) < ((1 : Nat) : Int); decide, fun _ => rfl⟩
theorem round_law (c d : Int) (n : Nat) (hc : 1 ≤ c ∧ c ≤ 3) (hd : 1 ≤ d ∧ d ≤ 60) (hn : 1 ≤ n ∧ n ≤ 6) :
    tokIn (roundS c d n) 0 0 = some (d * min (n : Int) c) ∧ outS (roundS c d n) 0 = ceilS (max ((n : Int) - c) 0) c * (d * min (n : Int) c) ∧ tokS (roundS c d n) ((n : Int) - 1) 0 = some (d * min (n : Int) c + ceilS (max ((n : Int) - c) 0) c * (d * min (n : Int) c)) := by
  have g := round_good c d n hc hd hn
  have hl : ∀ j, j < n → longAt (roundS c d n) j = d := fun j hj => by
    unfold roundS; rw [cr_long _ _ _ _ _ _ j hj]
    have e : longest [(⟨3, d, 0⟩ : Pt)] = max d 0 := rfl
    rw [e]; omega
  have hlen : (roundS c d n).tasks.length = n := crS_len ..
  have hco : coresS (roundS c d n) = c := by rw [coresS_good g]; show c + 0 = c; omega
  have hi : ∀ a, a < n → insS (roundS c d n) a = min (c - 1) ((n : Int) - 1) * d := by
    intro a ha
    unfold insS
    rw [hlen, oth_rep _ d a n hl, if_pos ha, sumTop_rep, hco]
    congr 1; omega
  have hm : d + min (c - 1) ((n : Int) - 1) * d = d * min (n : Int) c := by
    have e : min (n : Int) c = min (c - 1) ((n : Int) - 1) + 1 := by omega
    rw [e, Int.mul_add, Int.mul_comm]; omega
  have ht : ∀ a : Nat, a < n → thereS (roundS c d n) a = true := fun a ha => (thereS_iff _ _).2 ⟨g, by omega, by rw [hlen]; omega⟩
  have hlk : ∀ a : Nat, a < n → lockS (roundS c d n) a 0 = some ⟨3, d, 0⟩ := by
    intro a ha
    have h1 := lockS_nat (roundS c d n) a 0 (ht a ha) (by rw [hlen]; exact ha)
    have h2 : (roundS c d n).tasks[a]'(by rw [hlen]; exact ha) = crT 2000 (fun _ => [⟨3, d, 0⟩]) a := crS_at ..
    rw [h2] at h1
    exact h1
  have hin : ∀ a : Nat, a < n → tokIn (roundS c d n) a 0 = some (d * min (n : Int) c) := by
    intro a ha
    unfold tokIn; rw [hlk a ha, hi a ha]
    show some (d + _) = _
    rw [hm]
  have hcl : ∀ a, a < n → clusterAt (roundS c d n) a = 0 := fun a ha => by
    rw [clusterAt_is _ a (by rw [hlen]; exact ha)]
    have h2 : (roundS c d n).tasks[a]'(by rw [hlen]; exact ha) = crT 2000 (fun _ => [⟨3, d, 0⟩]) a := crS_at ..
    rw [h2]; rfl
  have hask : askersS (roundS c d n) 0 = n := by
    unfold askersS
    rw [asks_all, hlen]
    intro t h
    obtain ⟨a, ha, rfl⟩ := List.getElem_of_mem h
    have h2 : (roundS c d n).tasks[a] = crT 2000 (fun _ => [⟨3, d, 0⟩]) a := crS_at ..
    rw [h2]
    unfold asks
    have e : longest [(⟨3, d, 0⟩ : Pt)] = max d 0 := rfl
    rw [if_pos ⟨⟨(okS_iff _).2 g, rfl⟩, by show 0 < longest [(⟨3, d, 0⟩ : Pt)]; rw [e]; omega⟩]
  have hst : stayS (roundS c d n) 0 = d * min (n : Int) c := by
    have hF : ∀ i, i < n → outF (roundS c d n) 0 i = d * min (n : Int) c := fun i hi' => by
      unfold outF
      rw [hcl i hi', hl i hi', if_pos ⟨rfl, by omega⟩, hi i hi', hm]
    unfold stayS
    rw [hlen]
    have h0 : 0 ≤ d * min (n : Int) c := Int.mul_nonneg (by omega) (by omega)
    have h1 := maxN_le (f := outF (roundS c d n) 0) h0 n fun i hi' => by rw [hF i hi']; exact Int.le_refl _
    have h2 := le_maxN (f := outF (roundS c d n) 0) n 0 (by omega)
    rw [hF 0 (by omega)] at h2
    omega
  have hout : ∀ a : Nat, a < n → outS (roundS c d n) a = ceilS (max ((n : Int) - c) 0) c * (d * min (n : Int) c) := by
    intro a ha
    unfold outS
    rw [if_pos (ht a ha), Int.toNat_natCast, hl a ha, if_neg (by simp [eqz]; omega), hcl a ha, hst]
    unfold roundsS
    rw [hask]; rfl
  refine ⟨hin 0 (by omega), hout 0 (by omega), ?_⟩
  have e : (n : Int) - 1 = ((n - 1 : Nat) : Int) := by omega
  unfold tokS
  rw [e, hin (n - 1) (by omega), hout (n - 1) (by omega)]; rfl
end Go.Proofs.YtiocdaeinahcoaaEv
