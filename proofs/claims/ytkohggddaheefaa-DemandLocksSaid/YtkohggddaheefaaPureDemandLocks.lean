/- Locks at two clusters are told cluster by cluster, and the longest is the longest of both. No condition. -/
import Derived.Test.YtkohggddaheefaaPDemandLocksx6
namespace Go.Proofs.Ytkohggddaheefaa.Pure
open Go.RowKit Go.Proofs.Ytkohggddaheefaa.PDemandLocks Go.Proofs.YtkohggddaheefaaW.PrintWords Go.Proofs.YtkohggddaheefaaW.PrintLast Go.Proofs.YtkohggddaheefaaW.PrintMore

/-! ### a task of four parts at one of two clusters -/
theorem locks_known : swingbridgelaw11_known.f 30 = some true := by decide +kernel
def locksP (x y z : Int) : List S39 := [⟨3, x, 0⟩, ⟨3, y, 1⟩, ⟨1, 5, 0⟩, ⟨3, z, 0⟩]
def locksT (x y z c : Int) : S37 := ⟨⟨#[97]⟩, 500, 500, 3, c, locksP x y z⟩
theorem locks_name : words_Name.f 28 (⟨#[97]⟩ : ByteArray) = some true := by decide +kernel
theorem locks_placed (T : List S37) : task_placed.f 2 [1, 2] [0, 1] T = some true := by
  unfold task_placed.f; decide +kernel
theorem locks_parted {x y z : Int} (hx : 1 ≤ x ∧ x ≤ 60) (hy : 1 ≤ y ∧ y ≤ 60) (hz : 1 ≤ z ∧ z ≤ 60) (l : List S37) : task_parted.f 27 2 [1, 2] [0, 1] l (locksP x y z) = some true := by
  simp [locksP, task_parted.f, task_parted.l0, task_parted.j1, task_parted.j2, task_between.f, rd_T39, hx, hy, hz, wrap64]
theorem locks_one {x y z c : Int} (hx : 1 ≤ x ∧ x ≤ 60) (hy : 1 ≤ y ∧ y ≤ 60) (hz : 1 ≤ z ∧ z ≤ 60) (hc : 0 ≤ c ∧ c ≤ 1) : task_one.f 28 2 [1, 2] [0, 1] [locksT x y z c] 0 = some 0 := by
  simp [task_one.f, task_one.j0, task_between.f, rd_T37, locksT, locks_name, locks_parted hx hy hz, task_one_1_fn74.f, wrap64, hc]
theorem locks_check {x y z c : Int} (hx : 1 ≤ x ∧ x ≤ 60) (hy : 1 ≤ y ∧ y ≤ 60) (hz : 1 ≤ z ∧ z ≤ 60) (hc : 0 ≤ c ∧ c ≤ 1) : task_Check.f 29 2 [1, 2] [0, 1] [locksT x y z c] = some (-1, 0) := by
  simp [task_Check.f, locks_placed, task_between.f]
  rw [task_Check.l0]
  simp [locks_one hx hy hz hc, wrap64, task_Check.l0]
theorem locks_there {x y z c : Int} (hx : 1 ≤ x ∧ x ≤ 60) (hy : 1 ≤ y ∧ y ≤ 60) (hz : 1 ≤ z ∧ z ≤ 60) (hc : 0 ≤ c ∧ c ≤ 1) : demand_there.f 29 2 [1, 2] [0, 1] [locksT x y z c] 0 = some true := by
  simp [demand_there.f, locks_check hx hy hz hc]
theorem locks_there30 {x y z c : Int} (hx : 1 ≤ x ∧ x ≤ 60) (hy : 1 ≤ y ∧ y ≤ 60) (hz : 1 ≤ z ∧ z ≤ 60) (hc : 0 ≤ c ∧ c ≤ 1) (n : Int) : demand_there.f 30 2 [1, 2] [0, 1] [locksT x y z c] n = some (decide (0 ≤ n ∧ n < 1)) := by
  have h := task_Check.mono 2 [1, 2] [0, 1] [locksT x y z c] 29
  have h2 := locks_check hx hy hz hc
  have h3 : task_Check.f 30 2 [1, 2] [0, 1] [locksT x y z c] = some (-1, 0) := h _ h2
  by_cases g : 0 ≤ n <;> simp [demand_there.f, h3, g]
theorem locks_homed {x y z c : Int} (hx : 1 ≤ x ∧ x ≤ 60) (hy : 1 ≤ y ∧ y ≤ 60) (hz : 1 ≤ z ∧ z ≤ 60) (hc : 0 ≤ c ∧ c ≤ 1) : demand_homed.f 30 2 [1, 2] [0, 1] [locksT x y z c] 0 0 = some [x, z] ∧ demand_homed.f 30 2 [1, 2] [0, 1] [locksT x y z c] 0 1 = some [y] ∧ demand_homed.f 30 2 [1, 2] [0, 1] [locksT x y z c] 0 2 = some [] ∧ demand_homed.f 30 2 [1, 2] [0, 1] [locksT x y z c] (-1) 0 = some [] := by
  simp only [demand_homed.f, locks_there30 hx hy hz hc]
  simp [demand_homed.l0, rd_T37, locksT, locksP, rd_T39, rd, wrap64]
theorem locks_cores {x y z c : Int} (hx : 1 ≤ x ∧ x ≤ 60) (hy : 1 ≤ y ∧ y ≤ 60) (hz : 1 ≤ z ∧ z ≤ 60) (hc : 0 ≤ c ∧ c ≤ 1) : demand_Cores.f 30 2 [1, 2] [0, 1] [locksT x y z c] = some 3 := by
  simp [demand_Cores.f, locks_there30 hx hy hz hc, demand_Cores.l0, rd, wrap64]
theorem locks_longest {x y z c : Int} (hx : 1 ≤ x ∧ x ≤ 60) (k : Nat) : demand_Longest.f (k + 20) (⟨#[97]⟩ : ByteArray) 500 500 3 c (locksP x y z) = some (mx (mx x y) z) := by
  have h0 : mx 0 x = x := by unfold mx; split <;> omega
  simp [demand_Longest.f, demand_Longest.l0, locksP, rd_T39, wrap64, h0]
theorem locks_askers {x y z c : Int} (hx : 1 ≤ x ∧ x ≤ 60) (hy : 1 ≤ y ∧ y ≤ 60) (hz : 1 ≤ z ∧ z ≤ 60) (hc : 0 ≤ c ∧ c ≤ 1) (n : Int) : demand_Askers.f 31 2 [1, 2] [0, 1] [locksT x y z c] n = some (if c = n then 1 else 0) := by
  have e0 : rd_T37 [locksT x y z c] 0 = locksT x y z c := by simp [rd_T37]
  have e1 : (locksT x y z c).f5 = locksP x y z := rfl
  have e2 : (locksT x y z c).f4 = c := rfl
  have hl := locks_longest (y := y) (z := z) (c := c) hx 10
  have hp : mx (mx x y) z > 0 := by unfold mx; split <;> (try split) <;> omega
  simp only [demand_Askers.f]
  rw [demand_Askers.l0]
  simp only [List.length_singleton, e0, locks_there30 hx hy hz hc, e1, e2]
  have hl' : demand_Longest.f 30 (locksT x y z c).f0 (locksT x y z c).f1 (locksT x y z c).f2 (locksT x y z c).f3 c (locksP x y z) = some (mx (mx x y) z) := hl
  by_cases g : c = n <;> simp [g, hl', hp, wrap64, demand_Askers.l0] <;> (subst g; simp [hl', hp, demand_Askers.l0])
theorem DemandLocks : swingbridgelaw11_DemandLocks.Pure := by
  intro a b c d ha hb hc hd
  have u8 : ∀ n : Int, (Lit.int .u8 n).wf = true → 0 ≤ n ∧ n ≤ 255 := by
    intro n h
    simp only [Lit.wf, Bool.and_eq_true, decide_eq_true_eq] at h
    have e1 : IntKind.min .u8 = 0 := by decide
    have e2 : IntKind.max .u8 = 255 := by decide
    omega
  have num : ∀ n : Int, 0 ≤ n ∧ n ≤ 255 → 1 ≤ wrap64 (wrap64 (Int.tmod n 60) + 1) ∧ wrap64 (wrap64 (Int.tmod n 60) + 1) ≤ 60 := by
    intro n h
    rw [Int.tmod_eq_emod_of_nonneg h.1]
    unfold wrap64
    omega
  have hx := num a (u8 a ha)
  have hy := num b (u8 b hb)
  have hz := num c (u8 c hc)
  have hk : 0 ≤ wrap64 (Int.tmod d 2) ∧ wrap64 (Int.tmod d 2) ≤ 1 := by
    rw [Int.tmod_eq_emod_of_nonneg (u8 d hd).1]
    unfold wrap64
    omega
  clear num
  refine ⟨31, ?_⟩
  unfold swingbridgelaw11_DemandLocks.f
  generalize wrap64 (wrap64 (Int.tmod a 60) + 1) = x at *
  generalize wrap64 (wrap64 (Int.tmod b 60) + 1) = y at *
  generalize wrap64 (wrap64 (Int.tmod c 60) + 1) = z at *
  generalize wrap64 (Int.tmod d 2) = k at *
  have g0 := (locks_homed hx hy hz hk).1
  have g1 := (locks_homed hx hy hz hk).2.1
  have g2 := (locks_homed hx hy hz hk).2.2.1
  have g3 := (locks_homed hx hy hz hk).2.2.2
  have h0 : demand_homed.f 31 2 [1, 2] [0, 1] [locksT x y z k] 0 0 = some [x, z] := demand_homed.mono _ _ _ _ _ _ 30 _ g0
  have h1 : demand_homed.f 31 2 [1, 2] [0, 1] [locksT x y z k] 0 1 = some [y] := demand_homed.mono _ _ _ _ _ _ 30 _ g1
  have h2 : demand_homed.f 31 2 [1, 2] [0, 1] [locksT x y z k] 0 2 = some [] := demand_homed.mono _ _ _ _ _ _ 30 _ g2
  have h3 : demand_homed.f 31 2 [1, 2] [0, 1] [locksT x y z k] (-1) 0 = some [] := demand_homed.mono _ _ _ _ _ _ 30 _ g3
  have a0 : demand_At.f 31 2 [1, 2] [0, 1] [locksT x y z k] 0 0 = some (wrap64 (x + z)) := by
    have e : wrap64 x = x := by unfold wrap64; omega
    simp [demand_At.f, h0, demand_At.l0, rd, wrap64]
    simpa [wrap64] using congrArg (fun n => wrap64 (n + z)) e
  have a1 : demand_At.f 31 2 [1, 2] [0, 1] [locksT x y z k] 0 1 = some y := by
    have e : wrap64 y = y := by unfold wrap64; omega
    simp [demand_At.f, h1, demand_At.l0, rd, wrap64]
    simpa [wrap64] using e
  have a2 : demand_At.f 31 2 [1, 2] [0, 1] [locksT x y z k] 0 2 = some 0 := by simp [demand_At.f, h2, demand_At.l0]
  have a3 : demand_At.f 31 2 [1, 2] [0, 1] [locksT x y z k] (-1) 0 = some 0 := by simp [demand_At.f, h3, demand_At.l0]
  have m0 : demand_Most.f 31 2 [1, 2] [0, 1] [locksT x y z k] 0 0 = some (mx x z) := by
    have e : mx 0 x = x := by unfold mx; split <;> omega
    simp [demand_Most.f, h0, demand_Most.l0, rd, wrap64, e]
  have m1 : demand_Most.f 31 2 [1, 2] [0, 1] [locksT x y z k] 0 1 = some y := by
    have e : mx 0 y = y := by unfold mx; split <;> omega
    simp [demand_Most.f, h1, demand_Most.l0, rd, wrap64, e]
  have l0 : demand_Locks.f 31 (⟨#[97]⟩ : ByteArray) 500 500 3 k (locksP x y z) = some (wrap64 (wrap64 (x + y) + z)) := by
    have e : wrap64 x = x := by unfold wrap64; omega
    simp [demand_Locks.f, demand_all.f, demand_all.l0, locksP, rd_T39, wrap64]
    simpa [wrap64] using congrArg (fun n => wrap64 (wrap64 (n + y) + z)) e
  have n0 := locks_longest (y := y) (z := z) (c := k) hx 11
  have c0 : demand_Cores.f 31 2 [1, 2] [0, 1] [locksT x y z k] = some 3 := demand_Cores.mono _ _ _ _ 30 _ (locks_cores hx hy hz hk)
  have q0 := locks_askers hx hy hz hk k
  have q1 := locks_askers hx hy hz hk (wrap64 (1 - k))
  have kn : swingbridgelaw11_known.f 31 = some true := swingbridgelaw11_known.mono 30 _ locks_known
  have w1 : wrap64 (1 - k) = 1 - k := by unfold wrap64; omega
  rw [if_pos rfl] at q0
  rw [w1, if_neg (by omega)] at q1
  have n1 : demand_Longest.f 31 (⟨#[97]⟩ : ByteArray) 500 500 3 k (locksP x y z) = some (mx (mx x y) z) := n0
  simp only [locksT, locksP] at a0 a1 a2 a3 m0 m1 l0 n1 c0 q0 q1
  simp [kn, rd_T37, a0, a1, a2, a3, m0, m1, l0, n1, c0, q0, w1, q1]

end Go.Proofs.Ytkohggddaheefaa.Pure
