/- Parts, tasks, sets as a law's input. -/
import Derived.Test.YtclebnamhpgdmaaGreatT
import Derived.Test.YtclebnamhpgdmaaGreatEvU
import Derived.Test.YtclebnamhpgdmaaGreatProg
import Derived.KernelRfl
set_option linter.unusedSimpArgs false
set_option linter.unusedVariables false
namespace Go.Proofs.YtclebnamhpgdmaaGreatEv
open Go Go.RowKit
section
variable {H : Type} {enc : TypeId × Value → H} {w : World} {base : Nat} {held : Bool} {fuel : Nat} {cs : List Value} {x : DataW H × List MemPlace}
def I64 (n : Int) : Prop := -9223372036854775808 ≤ n ∧ n ≤ 9223372036854775807
theorem i64_wf {n : Int} (h : (Lit.int .i64 n).wf = true) : I64 n := by
  simp only [Lit.wf, Bool.and_eq_true, decide_eq_true_eq] at h
  exact h
def Pt.ok (p : Pt) : Prop := I64 p.kind ∧ I64 p.len ∧ I64 p.res
def Tk.ok (t : Tk) : Prop := I64 t.period ∧ I64 t.deadline ∧ I64 t.prio ∧ I64 t.cluster ∧ ∀ p ∈ t.parts, p.ok
def St.ok (s : St) : Prop := I64 s.proto ∧ (∀ n ∈ s.cores, I64 n) ∧ (∀ n ∈ s.homes, I64 n) ∧ ∀ t ∈ s.tasks, t.ok
theorem open_num (h : DataW.trod enc Tryz.prog w base (fun _ => true) held fuel 3 cs = some x) : ∃ n, I64 n ∧ Cells w cs [vi n] := by
  obtain ⟨n, h1, h2⟩ := cells_int Tryz.underlying3 h
  exact ⟨n, i64_wf h1, h2⟩
theorem open_nums (h : DataW.trod enc Tryz.prog w base (fun _ => true) held fuel 22 cs = some x) : ∃ l, (∀ n ∈ l, I64 n) ∧ Cells w cs [slI l] := by
  obtain ⟨l, h1, h2⟩ := cells_slice (fun n => [vi n]) I64 1 (by omega) (by kernel_rfl) (fun _ => rfl) (fun _ => rfl) open_num Tryz.underlying22 h
  refine ⟨l, h1, ?_⟩
  have e : (l.flatMap fun n => [vi n]) = l.map vi := by clear h1 h2; induction l <;> simp_all
  rw [e] at h2; exact h2
theorem open_part (h : DataW.trod enc Tryz.prog w base (fun _ => true) held fuel 57 cs = some x) : ∃ p : Pt, p.ok ∧ Cells w cs (Pt.c p) := by
  obtain ⟨hl, hf⟩ := cells_struct Tryz.underlying57 (by kernel_rfl) (by kernel_rfl) h
  obtain ⟨_, _, h0⟩ := hf 0 _ rfl
  obtain ⟨_, _, h1⟩ := hf 1 _ rfl
  obtain ⟨_, _, h2⟩ := hf 2 _ rfl
  obtain ⟨a, wa, ca⟩ := open_num h0
  obtain ⟨b, wb, cb⟩ := open_num h1
  obtain ⟨c, wc, cc⟩ := open_num h2
  refine ⟨⟨a, b, c⟩, ⟨wa, wb, wc⟩, ?_⟩
  rw [eta3 hl]
  exact ca.cons (cb.cons cc)
theorem open_parts (h : DataW.trod enc Tryz.prog w base (fun _ => true) held fuel 43 cs = some x) : ∃ l : List Pt, (∀ p ∈ l, p.ok) ∧ Cells w cs [slP l] :=
  cells_slice Pt.c Pt.ok 3 (by omega) (by kernel_rfl) (fun _ => rfl) (fun _ => rfl) open_part Tryz.underlying43 h
theorem open_task (h : DataW.trod enc Tryz.prog w base (fun _ => true) held fuel 45 cs = some x) : ∃ t : Tk, t.ok ∧ Cells w cs (Tk.c t) := by
  obtain ⟨hl, hf⟩ := cells_struct Tryz.underlying45 (by kernel_rfl) (by kernel_rfl) h
  obtain ⟨_, _, h0⟩ := hf 0 _ rfl
  obtain ⟨_, _, h1⟩ := hf 1 _ rfl
  obtain ⟨_, _, h2⟩ := hf 2 _ rfl
  obtain ⟨_, _, h3⟩ := hf 3 _ rfl
  obtain ⟨_, _, h4⟩ := hf 4 _ rfl
  obtain ⟨_, _, h5⟩ := hf 5 _ rfl
  obtain ⟨s, cs0⟩ := cells_str Tryz.underlying9 h0
  obtain ⟨a, wa, ca⟩ := open_num h1
  obtain ⟨b, wb, cb⟩ := open_num h2
  obtain ⟨c, wc, cc⟩ := open_num h3
  obtain ⟨d, wd, cd⟩ := open_num h4
  obtain ⟨l, wl, cl⟩ := open_parts h5
  refine ⟨⟨s, a, b, c, d, l⟩, ⟨wa, wb, wc, wd, wl⟩, ?_⟩
  rw [eta6 hl]
  exact cs0.cons (ca.cons (cb.cons (cc.cons (cd.cons cl))))
theorem open_tasks (h : DataW.trod enc Tryz.prog w base (fun _ => true) held fuel 23 cs = some x) : ∃ l : List Tk, (∀ p ∈ l, p.ok) ∧ Cells w cs [slT l] :=
  cells_slice Tk.c Tk.ok 6 (by omega) (by kernel_rfl) (fun _ => rfl) (fun _ => rfl) open_task Tryz.underlying23 h
theorem open_set (h : DataW.trod enc Tryz.prog w base (fun _ => true) held fuel 25 cs = some x) : ∃ s : St, s.ok ∧ Cells w cs (St.c s) := by
  obtain ⟨hl, hf⟩ := cells_struct Tryz.underlying25 (by kernel_rfl) (by kernel_rfl) h
  obtain ⟨_, _, h0⟩ := hf 0 _ rfl
  obtain ⟨_, _, h1⟩ := hf 1 _ rfl
  obtain ⟨_, _, h2⟩ := hf 2 _ rfl
  obtain ⟨_, _, h3⟩ := hf 3 _ rfl
  obtain ⟨a, wa, ca⟩ := open_num h0
  obtain ⟨b, wb, cb⟩ := open_nums h1
  obtain ⟨c, wc, cc⟩ := open_nums h2
  obtain ⟨d, wd, cd⟩ := open_tasks h3
  refine ⟨⟨a, b, c, d⟩, ⟨wa, wb, wc, wd⟩, ?_⟩
  rw [eta4 hl]
  exact ca.cons (cb.cons (cc.cons cd))
end
end Go.Proofs.YtclebnamhpgdmaaGreatEv
