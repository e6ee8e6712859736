/- Two tasks on one core, written down. -/
import Derived.Test.YtclebnamhpgdmaaWt
set_option linter.unusedSimpArgs false
set_option linter.unusedVariables false
namespace Go.Proofs.YtclebnamhpgdmaaEv
open Go
set_option maxHeartbeats 4000000
theorem lfp_lo {f : Int → Int} {lo hi : Int} (h : f lo = lo) (hl : lo ≤ hi) : lfp f lo hi = some lo := lfp_some.2 ⟨Int.le_refl _, hl, h, fun v h1 h2 => by omega⟩
/-! ### two on one core -/
def sPair (p : Int) (ps qs : List Pt) : St := ⟨p, [1], [0], [⟨⟨#[97]⟩, 100, 100, 1, 0, ps⟩, ⟨⟨#[98]⟩, 200, 200, 2, 0, qs⟩]⟩
structure PtsG (ps : List Pt) : Prop where
  len : 1 ≤ ps.length ∧ ps.length ≤ 6
  pt : ∀ q ∈ ps, (1 ≤ q.kind ∧ q.kind ≤ 3) ∧ (1 ≤ q.len ∧ q.len ≤ 60) ∧ q.res = 0
theorem sPair_good {p : Int} {ps qs : List Pt} (hp : 1 ≤ p ∧ p ≤ 3) (h1 : PtsG ps) (h2 : PtsG qs) : Good (sPair p ps qs) := by
  have gp : ∀ {l : List Pt}, PtsG l → ∀ q ∈ l, GoodP (sPair p ps qs) q := fun h q hq => by
    obtain ⟨k1, k2, k3⟩ := h.pt q hq
    exact ⟨k1, k2, fun _ => by rw [k3]; simp [sPair], fun _ => k3⟩
  refine ⟨hp, by simp [sPair], by simp [sPair], by simp [sPair], by simp [sPair], by simp [sPair], fun t ht => ?_, fun i j hi hj h => ?_⟩
  · simp only [sPair, List.mem_cons, List.not_mem_nil, or_false] at ht
    rcases ht with rfl | rfl
    · exact ⟨rfl, by simp, by simp, by simp, by simp [sPair], h1.len, gp h1⟩
    · exact ⟨rfl, by simp, by simp, by simp, by simp [sPair], h2.len, gp h2⟩
  · have hi : i < 2 := hi
    have hj : j < 2 := hj
    obtain rfl : i = 0 := by omega
    obtain rfl : j = 1 := by omega
    unfold twice
    simp [sPair]
theorem sPair_sm {p : Int} {ps qs : List Pt} (h1 : PtsG ps) (h2 : PtsG qs) : Sm (sPair p ps qs) := by
  have a1 := h1.len
  have a2 := h2.len
  refine ⟨by simp [sPair], by simp [sPair], by simp [sPair], fun t ht => ?_, fun t ht => ?_⟩
  · simp only [sPair, List.mem_cons, List.not_mem_nil, or_false] at ht
    rcases ht with rfl | rfl
    · show ps.length ≤ 10; omega
    · show qs.length ≤ 10; omega
  · simp only [sPair, List.mem_cons, List.not_mem_nil, or_false] at ht
    rcases ht with rfl | rfl
    · show ByteArray.size ⟨#[97]⟩ ≤ 20; decide
    · show ByteArray.size ⟨#[98]⟩ ≤ 20; decide
theorem sPair_there {p : Int} {ps qs : List Pt} (hp : 1 ≤ p ∧ p ≤ 3) (h1 : PtsG ps) (h2 : PtsG qs) (n : Nat) (hn : n < 2) : thereS (sPair p ps qs) n = true := (thereS_iff _ _).2 ⟨sPair_good hp h1 h2, by omega, by show (n : Int) < ((2 : Nat) : Int); omega⟩
theorem sPair_fair0 {ps qs : List Pt} (h1 : PtsG ps) (h2 : PtsG qs) (x y : Int) (k : Nat) (q : Pt) (hq : ps[k]? = some q) (h3 : q.kind = 3) : partS (sPair 1 ps qs) [x, y] 0 k = some (q.len + longest qs) := by
  have ht := sPair_there (p := 1) (by omega) h1 h2 0 (by omega)
  have hk : lockS (sPair 1 ps qs) 0 k = some q := by
    unfold lockS
    rw [if_pos ⟨ht, by omega⟩]
    simp [sPair, hq, eqz, h3]
  unfold partS
  rw [if_pos (by simp [sPair]), if_pos (by simp [sPair, eqz])]
  unfold fairS
  rw [hk]
  simp [othSum, sPair, sumN, othF, eqz, longAt]
end Go.Proofs.YtclebnamhpgdmaaEv
