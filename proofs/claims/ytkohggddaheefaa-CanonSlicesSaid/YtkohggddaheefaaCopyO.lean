/- task.Copy: what it makes is its own, at the World level. -/
import Derived.Test.YtkohggddaheefaaOwnW
import Derived.Test.YtkohggddaheefaaCopyB
set_option linter.unusedSimpArgs false
set_option linter.unusedVariables false
namespace Go.Proofs.YtkohggddaheefaaEv
open Go Go.RowKit
set_option maxHeartbeats 1000000
theorem tB_at : ∀ (b : Nat) (l : List Tk) (k : Nat) (h : k < l.length), (tB b l l.length)[k * 6 + 5]? = some (.bs (b + 2 * k) l[k].parts.length 3)
  | _, [], k, h => absurd h (Nat.not_lt_zero _)
  | b, t :: l, 0, _ => rfl
  | b, t :: l, k + 1, h => by
    have ih := tB_at (b + 2) l k (by simpa using h)
    have e : tB b (t :: l) (t :: l).length = tkB b t ++ tB (b + 2) l l.length := rfl
    rw [e, List.getElem?_append_right (by show (tkB b t).length ≤ _; simp [tkB]; omega)]
    have e2 : (k + 1) * 6 + 5 - (tkB b t).length = k * 6 + 5 := by simp [tkB]; omega
    rw [e2, ih]
    simp only [List.getElem_cons_succ]
    congr 2
    omega
theorem jB_at : ∀ (l : List Tk) (k : Nat) (h : k < l.length), (jB l l.length)[2 * k + 1]? = some (l[k].parts.flatMap Pt.c)
  | [], k, h => absurd h (Nat.not_lt_zero _)
  | t :: l, 0, _ => by simp [jB]
  | t :: l, k + 1, h => by
    have ih := jB_at l k (by simpa using h)
    have e : jB (t :: l) (t :: l).length = [Tk.c t, t.parts.flatMap Pt.c] ++ jB l l.length := by simp [jB]
    rw [e, List.getElem?_append_right (by simp; omega)]
    rw [show 2 * (k + 1) + 1 - [Tk.c t, t.parts.flatMap Pt.c].length = 2 * k + 1 by simp; omega, ih]
    rfl
/-- What a copy is. -/
def CopyPost (W : World) (n : Nat) (e : Ending) (w' : World) : Prop := ∃ (p : Int) (ca : Option Addr) (cn cc : Nat) (ha : Option Addr) (hn hc tb cap : Nat), e = .returned (.agg #[.int .i64 p, .slice ca cn cc, .slice ha hn hc, .slice (some ⟨tb, 0, none⟩) n cap]) ∧ n ≤ cap ∧ Below W.heap.size W w' ∧ OwnS W.heap.size w'.heap.size w' tb n
theorem own_of {W w' : World} {lim μ : Nat → Nat} {bx : Bx} (l : List Tk) (b q : Nat) (hbox : BoxRep w' lim μ bx) (hq : q < bx.length) (hqe : bx[q]? = some (tB b l l.length)) (hjb : ∀ k (h : k < l.length), bx[b + 2 * k]? = some (l[k].parts.flatMap Pt.c)) (hbq : ∀ k, k < l.length → b + 2 * k ≠ q)
    (hμ : ∀ r, 0 ≤ r → r < bx.length → W.heap.size ≤ μ r) (hp : ∀ t ∈ l, 0 < t.parts.length) : OwnS W.heap.size w'.heap.size w' (μ q) l.length := by
  have hqe' : bx[q] = tB b l l.length := by rw [List.getElem?_eq_getElem hq] at hqe; exact Option.some.inj hqe
  obtain ⟨row, t, hh, hs, hcs⟩ := hbox.row q hq
  have hlen : (tB b l l.length).length = l.length * 6 := tB_len b l l.length
  rw [hqe', hlen] at hs
  refine ⟨hμ q (Nat.zero_le _) hq, lt_of_heap hh, ⟨row, t, hh, hs⟩, fun k hk => ?_⟩
  have hj : k * 6 + 5 < (bx[q]).length := by rw [hqe', hlen]; omega
  have h1 := hcs _ hj
  have he : (bx[q])[k * 6 + 5] = .bs (b + 2 * k) l[k].parts.length 3 := by
    have := tB_at b l k hk
    rw [← hqe', List.getElem?_eq_getElem hj] at this
    exact Option.some.inj this
  rw [he] at h1
  obtain ⟨c, hv, hcn, hlt, _⟩ := (Rep.r (.c h1)).toBsz
  obtain ⟨row2, t2, hh2, hs2, _⟩ := hbox.row _ hlt
  have hpe : bx[b + 2 * k] = l[k].parts.flatMap Pt.c := by
    have := hjb k hk
    rw [List.getElem?_eq_getElem hlt] at this
    exact Option.some.inj this
  have hlp := len_pt l[k].parts
  have hp0 := hp _ (List.getElem_mem hk)
  rw [hpe] at hs2
  refine ⟨μ (b + 2 * k), l[k].parts.length, c, ?_, hp0, hμ _ (Nat.zero_le _) hlt, lt_of_heap hh2, fun e => hbq k hk (hbox.inj _ _ hlt hq e), ⟨row2, t2, hh2, by omega⟩, fun j hj5 => ?_⟩
  · rw [cell_of_row hh (by omega), hv]
  · exact ⟨_, cell_of_row hh (by omega), (hcs (k * 6 + j) (by rw [hqe', hlen]; omega)).one⟩
theorem isSlice {w : World} {lim μ : Nat → Nat} {m : Nat} {v : Value} {a : A} (h : RepC w lim μ m v a) (ha : (∃ r n z, a = .bs r n z) ∨ ∃ l n g, a = .sl l n g) : ∃ x n c, v = .slice x n c := by
  rcases ha with ⟨r, n, z, rfl⟩ | ⟨l, n, g, rfl⟩
  · obtain ⟨c, hv, _⟩ := (Rep.r (.c h)).toBsz
    exact ⟨_, _, _, hv⟩
  · have h := (Rep.r (.c h)).toSl
    generalize hx : A.sl l n g = a at h
    cases h with
    | val _ _ => cases hx
    | nil => exact ⟨_, _, _, rfl⟩
    | emp b o s g => exact ⟨_, _, _, rfl⟩
    | sl b o n c l g vs hn hg h3 hc hl hr => exact ⟨_, _, _, rfl⟩
theorem copy_own (s : St) (hs : Sm s) (g : Good s) (W : World) (lim : Nat → Nat) (v : Value) (hv : Rep W lim id 0 v (.agg (St.c s))) (hgl : GlobOk W id 0) : Calls Try.prog 21 #[v] W (CopyPost W s.tasks.length) := by
  have hp : ∀ t ∈ s.tasks, 0 < t.parts.length := fun t ht => (g.task t ht).parts.1
  have fin : ∀ (X : List A) (bx : Bx) (q b : Nat) (pr : Int) (c h : A), X = [vi pr, c, h, .bs q s.tasks.length 6] → ((∃ r n z, c = .bs r n z) ∨ ∃ l n g, c = .sl l n g) → ((∃ r n z, h = .bs r n z) ∨ ∃ l n g, h = .sl l n g) → callL tabC extC 21 [.agg (St.c s)] [] = some (.agg X, bx) → bx[q]? = some (tB b s.tasks s.tasks.length) → (∀ k (h : k < s.tasks.length), bx[b + 2 * k]? = some (s.tasks[k].parts.flatMap Pt.c)) →
      (∀ k, k < s.tasks.length → b + 2 * k ≠ q) → Calls Try.prog 21 #[v] W (CopyPost W s.tasks.length) := by
    intro X bx q b pr c h hX hcS hhS hc hq hj hne
    obtain ⟨_, _, hC⟩ := callL_sound tabC_ok extC_sound 21 [.agg (St.c s)] [] _ _ hc W lim id #[v] rfl (fun i hi => by
      have hi : i < 1 := hi
      obtain rfl : i = 0 := by omega
      exact ⟨hv, fun _ _ e => by cases e⟩) (boxRep_nil _ _ _) hgl
    refine hC.mono ?_
    rintro e w' ⟨u, lim', μ', rfl, _, hb, _, _, hμ, hbox, hr⟩
    obtain ⟨vs, rfl, hsz, hcs, _⟩ := hr.toAgg
    subst hX
    have h3 := hcs 3 (by simp)
    simp only [List.getElem_cons_succ, List.getElem_cons_zero] at h3
    obtain ⟨cap, hv3, hcap, hlt, _⟩ := (Rep.r (.c h3)).toBsz
    have hvs : vs = #[vs.getD 0 undef, vs.getD 1 undef, vs.getD 2 undef, vs.getD 3 undef] := by
      have hsz : vs.size = 4 := hsz
      apply Array.ext_getElem?
      intro i
      rcases i with _ | _ | _ | _ | i
      · rw [Array.getD_eq_getD_getElem?, Array.getElem?_eq_getElem (by omega)]; simp
      · rw [Array.getD_eq_getD_getElem? (i := 1), Array.getElem?_eq_getElem (by omega)]; simp
      · rw [Array.getD_eq_getD_getElem? (i := 2), Array.getElem?_eq_getElem (by omega)]; simp
      · rw [Array.getD_eq_getD_getElem? (i := 3), Array.getElem?_eq_getElem (by omega)]; simp
      · rw [Array.getElem?_eq_none (by omega)]; simp
    have h0 := hcs 0 (by simp)
    have h1 := hcs 1 (by simp)
    have h2 := hcs 2 (by simp)
    simp only [List.getElem_cons_succ, List.getElem_cons_zero] at h0 h1 h2
    have e0 := (Rep.r (.c h0)).val.1
    obtain ⟨x1, n1, c1, e1⟩ := isSlice h1 hcS
    obtain ⟨x2, n2, c2, e2⟩ := isSlice h2 hhS
    rw [hv3, e0, e1, e2] at hvs
    exact ⟨_, _, _, _, _, _, _, μ' q, cap, congrArg _ (congrArg _ hvs), hcap, hb.below, own_of s.tasks b q hbox hlt hq hj hne hμ hp⟩
  by_cases hh : s.homes.length = 0
  · refine fin _ _ 3 5 _ _ _ rfl (.inl ⟨_, _, _, rfl⟩) (.inr ⟨_, _, _, rfl⟩) (copyB0 s hs g hh) rfl (fun k hk => ?_) fun k _ => by omega
    rw [List.getElem?_append_right (by simp; omega)]
    rw [show 5 + 2 * k - _ = 2 * k + 1 from by simp; omega]
    exact jB_at s.tasks k hk
  · refine fin _ _ 4 6 _ _ _ rfl (.inl ⟨_, _, _, rfl⟩) (.inl ⟨_, _, _, rfl⟩) (copyB1 s hs g hh) rfl (fun k hk => ?_) fun k _ => by omega
    rw [List.getElem?_append_right (by simp; omega)]
    rw [show 6 + 2 * k - _ = 2 * k + 1 from by simp; omega]
    exact jB_at s.tasks k hk
end Go.Proofs.YtkohggddaheefaaEv
