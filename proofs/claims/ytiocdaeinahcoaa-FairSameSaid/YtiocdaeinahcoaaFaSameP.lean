/- Other cores, priorities, clusters: waits in one line stay: plain law. -/
import Derived.Test.YtiocdaeinahcoaaFairR
set_option linter.unusedSimpArgs false
set_option linter.unusedVariables false
namespace Go.Proofs.YtiocdaeinahcoaaEv
open Go
def chgT (p : Int) (n : Nat) (i : Nat) (t : Tk) : Tk := { t with prio := 1 + ((i : Int) + p) % n, cluster := 0 }
def chgL (p : Int) (n : Nat) : Nat → List Tk → List Tk
  | _, [] => []
  | i, t :: l => chgT p n i t :: chgL p n (i + 1) l
theorem chgL_len (p n) : ∀ l i, (chgL p n i l).length = l.length
  | [], _ => rfl
  | t :: l, i => by simp only [chgL, List.length_cons, chgL_len p n l (i + 1)]
theorem chgL_get? (p n) : ∀ (l : List Tk) i j, (chgL p n i l)[j]? = (l[j]?).map (chgT p n (i + j))
  | [], i, j => by simp [chgL]
  | t :: l, i, 0 => by simp [chgL]
  | t :: l, i, j + 1 => by
    simp only [chgL, List.getElem?_cons_succ, chgL_get? p n l (i + 1) j]
    congr 2; omega
def chgS (s : St) (cs : List Int) (p : Int) : St := { s with cores := cs, tasks := chgL p s.tasks.length 0 s.tasks }
theorem chgS_len (s cs p) : (chgS s cs p).tasks.length = s.tasks.length := chgL_len ..
theorem chgS_get? (s cs p) (j : Nat) : (chgS s cs p).tasks[j]? = (s.tasks[j]?).map (chgT p s.tasks.length j) := by
  show (chgL p s.tasks.length 0 s.tasks)[j]? = _
  rw [chgL_get?, Nat.zero_add]
theorem chgS_get (s cs p) (j : Nat) (h : j < (chgS s cs p).tasks.length) (h' : j < s.tasks.length) : (chgS s cs p).tasks[j] = chgT p s.tasks.length j s.tasks[j] := by
  have := chgS_get? s cs p j
  rw [List.getElem?_eq_getElem h, List.getElem?_eq_getElem h'] at this
  exact Option.some.inj this
theorem mod_ne (n i j : Nat) (p : Int) (hn : 1 ≤ n ∧ n ≤ 6) (h : i < j) (hj : j < n) : ¬ ((i : Int) + p) % n = ((j : Int) + p) % n := by
  obtain rfl | rfl | rfl | rfl | rfl | rfl : n = 1 ∨ n = 2 ∨ n = 3 ∨ n = 4 ∨ n = 5 ∨ n = 6 := by omega
  all_goals omega
theorem chg_good {s : St} {cs : List Int} (g : Good s) (hl : cs.length = s.cores.length) (hc : ∀ c ∈ cs, 1 ≤ c ∧ c ≤ 3) (p : Int) : Good (chgS s cs p) := by
  have hn := g.tasks
  refine ⟨g.proto, by have := g.cores; show 1 ≤ cs.length ∧ cs.length ≤ 3; omega, hc, g.homes, fun h hh => by have := g.home h hh; show 0 ≤ h ∧ h < cs.length; omega, by rw [chgS_len]; exact hn, fun t ht => ?_, fun i j hi hj h => ?_⟩
  · obtain ⟨i, hi, rfl⟩ := List.getElem_of_mem ht
    have hi' := hi; rw [chgS_len] at hi'
    rw [chgS_get s cs p i hi hi']
    have q := g.task _ (List.getElem_mem hi')
    have m1 := Int.emod_nonneg ((i : Int) + p) (show (s.tasks.length : Int) ≠ 0 by omega)
    have m2 := Int.emod_lt_of_pos ((i : Int) + p) (show 0 < (s.tasks.length : Int) by omega)
    exact ⟨q.name, q.period, q.deadline, by show 1 ≤ 1 + ((i : Int) + p) % s.tasks.length ∧ 1 + ((i : Int) + p) % s.tasks.length ≤ 1000; omega, by show (0 : Int) ≤ 0 ∧ (0 : Int) < cs.length; have := g.cores; omega, q.parts, fun x hx => by have := q.part x hx; exact ⟨this.kind, this.len, this.res, this.res0⟩⟩
  · have hi' := hi; have hj' := hj
    rw [chgS_len] at hi' hj'
    rw [chgS_get s cs p i hi hi', chgS_get s cs p j hj hj']
    have u := g.uniq i j hi' hj' h
    unfold twice at u ⊢
    rw [Bool.or_eq_false_iff] at u ⊢
    refine ⟨u.1, decide_eq_false fun e => ?_⟩
    have e : 1 + ((i : Int) + p) % s.tasks.length = 1 + ((j : Int) + p) % s.tasks.length := e
    exact mod_ne _ i j p hn h hj' (by omega)
theorem chg_sm {s : St} {cs : List Int} {p : Int} (g : Good s) (g' : Good (chgS s cs p)) (hs : Sm s) : Sm (chgS s cs p) := by
  refine ⟨by have := g'.cores; omega, hs.homes, by rw [chgS_len]; exact hs.tasks, fun t ht => ?_, fun t ht => ?_⟩
  all_goals
    obtain ⟨i, hi, rfl⟩ := List.getElem_of_mem ht
    have hi' := hi; rw [chgS_len] at hi'
    rw [chgS_get s cs p i hi hi']
  · exact hs.parts s.tasks[i] (List.getElem_mem hi')
  · exact hs.names s.tasks[i] (List.getElem_mem hi')
theorem chg_there {s : St} {cs : List Int} {p : Int} (g : Good s) (g' : Good (chgS s cs p)) (n : Int) : thereS (chgS s cs p) n = thereS s n := by
  rw [Bool.eq_iff_iff, thereS_iff, thereS_iff, chgS_len]
  exact ⟨fun h => ⟨g, h.2⟩, fun h => ⟨g', h.2⟩⟩
theorem chg_lock {s : St} {cs : List Int} {p : Int} (g : Good s) (g' : Good (chgS s cs p)) (n k : Int) : lockS (chgS s cs p) n k = lockS s n k := by
  unfold lockS; rw [chg_there g g', chgS_get?]
  split
  · cases s.tasks[n.toNat]? <;> rfl
  · rfl
theorem chg_long (s : St) (cs : List Int) (p : Int) (i : Nat) : longAt (chgS s cs p) i = longAt s i := by
  unfold longAt; rw [chgS_get?]
  cases s.tasks[i]? <;> rfl
theorem chg_fair {s : St} {cs : List Int} {p : Int} (g : Good s) (g' : Good (chgS s cs p)) (n k : Int) : fairS (chgS s cs p) n k = fairS s n k := by
  unfold fairS othSum
  rw [chg_lock g g', chgS_len]
  have e : othF (chgS s cs p) n = othF s n := by funext i; unfold othF; rw [chg_long]
  rw [e]
end Go.Proofs.YtiocdaeinahcoaaEv
