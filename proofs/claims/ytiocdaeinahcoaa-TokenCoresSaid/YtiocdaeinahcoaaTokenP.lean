/- Waits at gates with other cores: plain law. -/
import Derived.Test.YtiocdaeinahcoaaTokenR
set_option linter.unusedSimpArgs false
set_option linter.unusedVariables false
namespace Go.Proofs.YtiocdaeinahcoaaEv
open Go
def withCores (s : St) (cs : List Int) : St := { s with cores := cs }
theorem good_cores {s : St} {cs : List Int} (g : Good s) (hl : cs.length = s.cores.length) (hc : ∀ c ∈ cs, 1 ≤ c ∧ c ≤ 3) : Good (withCores s cs) where
  proto := g.proto
  cores := by have := g.cores; show 1 ≤ cs.length ∧ cs.length ≤ 3; omega
  core := hc
  homes := g.homes
  home := fun h hh => by have := g.home h hh; show 0 ≤ h ∧ h < cs.length; omega
  tasks := g.tasks
  task := fun t ht => by
    have q := g.task t ht
    exact ⟨q.name, q.period, q.deadline, q.prio, by have := q.cluster; show 0 ≤ t.cluster ∧ t.cluster < cs.length; omega, q.parts, fun p hp => by have := q.part p hp; exact ⟨this.kind, this.len, this.res, this.res0⟩⟩
  uniq := g.uniq
theorem sm_cores {s : St} {cs : List Int} (hs : Sm s) (g : Good (withCores s cs)) : Sm (withCores s cs) := by
  exact ⟨by have := g.cores; omega, hs.homes, hs.tasks, hs.parts, hs.names⟩
theorem there_cores {s : St} {cs : List Int} (g : Good s) (g' : Good (withCores s cs)) (n : Int) : thereS (withCores s cs) n = thereS s n := by
  rw [Bool.eq_iff_iff, thereS_iff, thereS_iff]
  exact ⟨fun h => ⟨g, h.2⟩, fun h => ⟨g', h.2⟩⟩
theorem lock_cores {s : St} {cs : List Int} (g : Good s) (g' : Good (withCores s cs)) (n k : Int) : lockS (withCores s cs) n k = lockS s n k := by
  unfold lockS; rw [there_cores g g']; rfl
theorem othR_cores (s : St) (cs : List Int) (n : Int) : ∀ i, othR (withCores s cs) n i = othR s n i
  | 0 => rfl
  | i + 1 => by rw [othR, othR, othR_cores s cs n i]; rfl
theorem take_mono {l : List Int} (h : ∀ x ∈ l, 0 ≤ x) {a b : Nat} (hab : a ≤ b) : sumL id (l.take a) ≤ sumL id (l.take b) := by
  have e : l.take b = l.take a ++ (l.drop a).take (b - a) := by
    obtain ⟨d, rfl⟩ : ∃ d, b = a + d := ⟨b - a, by omega⟩
    rw [List.take_add, Nat.add_sub_cancel_left]
  rw [e, sumL_append]
  have := sumL_ge id ((l.drop a).take (b - a)) fun x hx => h x (List.mem_of_mem_drop (List.mem_of_mem_take hx))
  omega
theorem sumTop_mono {l : List Int} (h : ∀ x ∈ l, 0 ≤ x) {k k' : Int} (hk : k ≤ k') : sumTop l k ≤ sumTop l k' := by
  unfold sumTop topS
  exact take_mono (fun x hx => h x ((sortD_perm l).mem_iff.1 hx)) (by omega)
theorem ins_mono {s : St} {cs : List Int} (g : Good s) (g' : Good (withCores s cs)) (h : sumL id s.cores ≤ sumL id cs) (n : Int) : insS s n ≤ insS (withCores s cs) n := by
  unfold insS
  rw [coresS_good g, coresS_good g']
  have e : (withCores s cs).tasks = s.tasks := rfl
  have e2 : (withCores s cs).cores = cs := rfl
  rw [e, e2, othR_cores]
  exact sumTop_mono (fun x hx => (othR_b g n _ x hx).1) (by omega)
theorem tokIn_mono {s : St} {cs : List Int} (g : Good s) (g' : Good (withCores s cs)) (h : sumL id s.cores ≤ sumL id cs) (n k : Int) :
    (tokIn (withCores s cs) n k).isSome = (tokIn s n k).isSome ∧ ¬ (tokIn (withCores s cs) n k).getD 0 < (tokIn s n k).getD 0 := by
  unfold tokIn
  rw [lock_cores g g']
  cases lockS s n k with
  | none => simp
  | some p => have := ins_mono g g' h n; simp; omega
theorem tokIn_own {s : St} {n k : Int} (h : (tokIn s n k).isSome = true) : ∃ p, lockS s n k = some p ∧ ¬ (tokIn s n k).getD 0 < p.len := by
  unfold tokIn at h ⊢
  cases hr : lockS s n k with
  | none => rw [hr] at h; simp at h
  | some p =>
    obtain ⟨g, _⟩ := lockS_some hr
    have := ins_bounds g n
    exact ⟨p, rfl, by simp; omega⟩
theorem out_none {s : St} (m : Nat) (hm : m < s.tasks.length) (h : askersS s s.tasks[m].cluster ≤ coreAt s s.tasks[m].cluster) : outS s m = 0 := by
  unfold outS
  split
  · next ht =>
    obtain ⟨g, _⟩ := (thereS_iff s m).1 ht
    rw [Int.toNat_natCast, clusterAt_is s m hm]
    split
    · rfl
    · have hc := core_at g (List.getElem_mem hm)
      have e : max (askersS s s.tasks[m].cluster - coreAt s s.tasks[m].cluster) 0 = 0 := by omega
      have := ceil_le 0 (coreAt s s.tasks[m].cluster) (Int.le_refl _) hc.2.2.2.1
      unfold roundsS
      rw [e, show ceilS 0 (coreAt s s.tasks[m].cluster) = 0 by omega, Int.zero_mul]
  · rfl
theorem sumL_set : ∀ (l : List Int) (k : Nat) (h : k < l.length), sumL id (l.set k (l[k] + 1)) = sumL id l + 1
  | a :: l, 0, _ => by simp [sumL]; omega
  | a :: l, k + 1, h => by
    have := sumL_set l k (by simpa using h)
    simp [sumL] at this ⊢; omega
end Go.Proofs.YtiocdaeinahcoaaEv
