/- Parts, tasks, sets as a law's input. -/
import Derived.Test.YtkohggddaheefaaT1
import Derived.Test.YtkohggddaheefaaEvU
import Derived.Test.YtkohggddaheefaaProg
import Derived.KernelRfl
import Derived.Test.YtkohggddaheefaaLib
import Derived.WalkKit
import Derived.ProofKit
import Derived.OpenShut
import Derived.ShutString
import Derived.ChangeOld
import Derived.Carry
import Derived.SizedLaws
import Derived.WideShapes
set_option linter.unusedSimpArgs false
set_option linter.unusedVariables false
namespace Go.Proofs.YtkohggddaheefaaEv
open Go Go.RowKit
section
variable {H : Type} {enc : TypeId × Value → H} {w : World} {base : Nat} {held : Bool} {fuel : Nat} {cs : List Value} {x : DataW H × List MemPlace}
def I64 (n : Int) : Prop := -9223372036854775808 ≤ n ∧ n ≤ 9223372036854775807
theorem i64_wf {n : Int} (h : (Lit.int .i64 n).wf = true) : I64 n := by
  simp only [Lit.wf, Bool.and_eq_true, decide_eq_true_eq] at h
  exact h
def Pt.ok (p : Pt) : Prop := I64 p.kind ∧ I64 p.len ∧ I64 p.res
def Tk.ok (t : Tk) : Prop := I64 t.period ∧ I64 t.deadline ∧ I64 t.prio ∧ I64 t.cluster ∧ ∀ p ∈ t.parts, p.ok
def St.ok (s : St) : Prop := I64 s.proto ∧ (∀ n ∈ s.cores, I64 n) ∧ (∀ n ∈ s.homes, I64 n) ∧ ∀ t ∈ s.tasks, t.ok
theorem open_num (h : DataW.trod enc Try.prog w base (fun _ => true) held fuel 3 cs = some x) : ∃ n, I64 n ∧ Cells w cs [vi n] := by
  obtain ⟨n, h1, h2⟩ := cells_int Try.underlying3 h
  exact ⟨n, i64_wf h1, h2⟩
theorem open_nums (h : DataW.trod enc Try.prog w base (fun _ => true) held fuel 22 cs = some x) : ∃ l, (∀ n ∈ l, I64 n) ∧ Cells w cs [slI l] := by
  obtain ⟨l, h1, h2⟩ := cells_slice (fun n => [vi n]) I64 1 (by omega) (by kernel_rfl) (fun _ => rfl) (fun _ => rfl) open_num Try.underlying22 h
  refine ⟨l, h1, ?_⟩
  have e : (l.flatMap fun n => [vi n]) = l.map vi := by clear h1 h2; induction l <;> simp_all
  rw [e] at h2; exact h2
theorem open_part (h : DataW.trod enc Try.prog w base (fun _ => true) held fuel 39 cs = some x) : ∃ p : Pt, p.ok ∧ Cells w cs (Pt.c p) := by
  obtain ⟨hl, hf⟩ := cells_struct Try.underlying39 (by kernel_rfl) (by kernel_rfl) h
  obtain ⟨_, _, h0⟩ := hf 0 _ rfl
  obtain ⟨_, _, h1⟩ := hf 1 _ rfl
  obtain ⟨_, _, h2⟩ := hf 2 _ rfl
  obtain ⟨a, wa, ca⟩ := open_num h0
  obtain ⟨b, wb, cb⟩ := open_num h1
  obtain ⟨c, wc, cc⟩ := open_num h2
  refine ⟨⟨a, b, c⟩, ⟨wa, wb, wc⟩, ?_⟩
  rw [eta3 hl]
  exact ca.cons (cb.cons cc)
theorem open_parts (h : DataW.trod enc Try.prog w base (fun _ => true) held fuel 35 cs = some x) : ∃ l : List Pt, (∀ p ∈ l, p.ok) ∧ Cells w cs [slP l] :=
  cells_slice Pt.c Pt.ok 3 (by omega) (by kernel_rfl) (fun _ => rfl) (fun _ => rfl) open_part Try.underlying35 h
theorem open_task (h : DataW.trod enc Try.prog w base (fun _ => true) held fuel 37 cs = some x) : ∃ t : Tk, t.ok ∧ Cells w cs (Tk.c t) := by
  obtain ⟨hl, hf⟩ := cells_struct Try.underlying37 (by kernel_rfl) (by kernel_rfl) h
  obtain ⟨_, _, h0⟩ := hf 0 _ rfl
  obtain ⟨_, _, h1⟩ := hf 1 _ rfl
  obtain ⟨_, _, h2⟩ := hf 2 _ rfl
  obtain ⟨_, _, h3⟩ := hf 3 _ rfl
  obtain ⟨_, _, h4⟩ := hf 4 _ rfl
  obtain ⟨_, _, h5⟩ := hf 5 _ rfl
  obtain ⟨s, cs0⟩ := cells_str Try.underlying9 h0
  obtain ⟨a, wa, ca⟩ := open_num h1
  obtain ⟨b, wb, cb⟩ := open_num h2
  obtain ⟨c, wc, cc⟩ := open_num h3
  obtain ⟨d, wd, cd⟩ := open_num h4
  obtain ⟨l, wl, cl⟩ := open_parts h5
  refine ⟨⟨s, a, b, c, d, l⟩, ⟨wa, wb, wc, wd, wl⟩, ?_⟩
  rw [eta6 hl]
  exact cs0.cons (ca.cons (cb.cons (cc.cons (cd.cons cl))))
theorem open_tasks (h : DataW.trod enc Try.prog w base (fun _ => true) held fuel 23 cs = some x) : ∃ l : List Tk, (∀ p ∈ l, p.ok) ∧ Cells w cs [slT l] :=
  cells_slice Tk.c Tk.ok 6 (by omega) (by kernel_rfl) (fun _ => rfl) (fun _ => rfl) open_task Try.underlying23 h
theorem open_set (h : DataW.trod enc Try.prog w base (fun _ => true) held fuel 25 cs = some x) : ∃ s : St, s.ok ∧ Cells w cs (St.c s) := by
  obtain ⟨hl, hf⟩ := cells_struct Try.underlying25 (by kernel_rfl) (by kernel_rfl) h
  obtain ⟨_, _, h0⟩ := hf 0 _ rfl
  obtain ⟨_, _, h1⟩ := hf 1 _ rfl
  obtain ⟨_, _, h2⟩ := hf 2 _ rfl
  obtain ⟨_, _, h3⟩ := hf 3 _ rfl
  obtain ⟨a, wa, ca⟩ := open_num h0
  obtain ⟨b, wb, cb⟩ := open_nums h1
  obtain ⟨c, wc, cc⟩ := open_nums h2
  obtain ⟨d, wd, cd⟩ := open_tasks h3
  refine ⟨⟨a, b, c, d⟩, ⟨wa, wb, wc, wd⟩, ?_⟩
  rw [eta4 hl]
  exact ca.cons (cb.cons (cc.cons cd))
end
end Go.Proofs.YtkohggddaheefaaEv
/- A law's arguments, as they are known; behind the call they read as they did. -/
namespace Go.Proofs.YtkohggddaheefaaEv
open Go Go.RowKit Go.ChangeShapes Go.WideShapes
section
set_option maxRecDepth 100000
variable {P : Program} {H : Type} {enc : TypeId × Value → H} {w : World} {base b0 : Nat} {held : Bool} {t : TypeId} {v : Value} {d : DataW H} {ps : List MemPlace} {r : Reach}
/-- An argument, as it is known. -/
def Inp (w : World) (v : Value) (a : A) : Prop := Rep w (limW w) id 0 v a ∧ n2 a
theorem inp_int {k : IntKind} (ht : P.underlying t = some (.int k)) (hval : Value.okWide P w r b0 t v) (h : DataW.Trod enc P w base (fun _ => true) held t v d ps) : ∃ n, (Lit.int k n).wf = true ∧ Inp w v (.val (.int k n)) := by
  obtain ⟨n, rfl, _, _, hw⟩ := open_int ht hval h
  exact ⟨n, hw, .rv (.val _ rfl), fun _ _ e => by cases e⟩
theorem inp_bool (ht : P.underlying t = some .bool) (hval : Value.okWide P w r b0 t v) (h : DataW.Trod enc P w base (fun _ => true) held t v d ps) : ∃ b, Inp w v (vb b) := by
  obtain ⟨b, rfl, _, _⟩ := open_bool ht hval h
  exact ⟨b, .rv (.val _ rfl), fun _ _ e => by cases e⟩
theorem inp_cell {l : List A} {n : Nat} {x : Value} (h : Cells w [x] [A.sl l n 0]) : Inp w x (.sl l n 0) :=
  ⟨.rv (h.2 0 (by simp)), fun _ _ e => by cases e⟩
theorem inp_slice {α : Type} {G : α → Prop} {e : TypeId} {f : α → List A} {m : α → Nat} (ht : P.underlying t = some (.slice e)) (hval : Value.okWide P w r b0 t v) (h : DataW.Trod enc P w base (fun _ => true) held t v d ps)
    (ho : ∀ {fuel cs x}, DataW.trod enc P w base (fun _ => true) held fuel t cs = some x → ∃ l, G l ∧ Cells w cs [.sl (f l) (m l) 0]) : ∃ l, G l ∧ Inp w v (.sl (f l) (m l) 0) := by
  obtain ⟨a, len, cap, rfl⟩ := okWide_slice ht hval
  obtain ⟨fuel, hf⟩ := h
  obtain ⟨l, hl, hc⟩ := ho hf
  exact ⟨l, hl, inp_cell hc⟩
theorem inp_struct {α : Type} {G : α → Prop} {fs : Array Field} {f : α → List A} (hn : ∀ x, (f x).all A.isV = true ∧ ∀ i (hi : i < (f x).length), n2 (f x)[i]) (ht : P.underlying t = some (.struct fs)) (hval : Value.okWide P w r b0 t v) (h : DataW.Trod enc P w base (fun _ => true) held t v d ps)
    (ho : ∀ {fuel cs x}, DataW.trod enc P w base (fun _ => true) held fuel t cs = some x → ∃ l, G l ∧ Cells w cs (f l)) : ∃ l, G l ∧ Inp w v (.agg (f l)) := by
  obtain ⟨cs, rfl, _⟩ := okWide_struct ht hval
  obtain ⟨fuel, hf⟩ := h
  obtain ⟨l, hl, hc⟩ := ho hf
  exact ⟨l, hl, rep_agg hc (hn l).2, fun _ _ e => by cases e⟩
/-- What a call leaves of its arguments. -/
theorem trodAll_below (hl : laidOutB P = true) {W W' : World} (hb : Below W.heap.size W W') : ∀ (ts : List TypeId) (vs : List Value) (ds : List (DataW H)) (ps : List MemPlace),
    (ts.all fun t => P.readableRec t && decide (t < P.types.size)) = true → DataW.TrodAll enc P W 0 (fun _ => true) true ts vs ds ps → (∀ x ∈ ps, x.block < W.heap.size) → DataW.TrodAll enc P W' 0 (fun b => decide (b < W.heap.size)) true ts vs ds ps
  | [], [], [], _, _, h, _ => h
  | t :: ts, v :: vs, d :: ds, _, hr, ⟨p, q, h1, h2, e⟩, hlt => by
    simp only [List.all_cons, Bool.and_eq_true, decide_eq_true_eq] at hr
    subst e
    exact ⟨p, q, Below.trod hl hr.1.1 hr.1.2 h1 hb fun x hx => hlt x (List.mem_append_left _ hx), trodAll_below hl hb ts vs ds q hr.2 h2 fun x hx => hlt x (List.mem_append_right _ hx), rfl⟩
theorem n2_vi (n : Int) : n2 (vi n) := fun _ _ e => by cases e
theorem n2_sl0 (l : List A) (n : Nat) : n2 (.sl l n 0) := fun _ _ e => by cases e
theorem n2_St (s : St) : (St.c s).all A.isV = true ∧ ∀ i (hi : i < (St.c s).length), n2 (St.c s)[i] := by
  refine ⟨rfl, fun i hi => ?_⟩
  have hi : i < 4 := hi
  rcases i with _ | _ | _ | _ | i
  · exact n2_vi _
  · exact n2_sl0 _ _
  · exact n2_sl0 _ _
  · exact n2_sl0 _ _
  · omega
theorem inp_set (hval : Value.okWide Try.prog w r b0 25 v) (h : DataW.Trod enc Try.prog w base (fun _ => true) held 25 v d ps) : ∃ s : St, s.ok ∧ Inp w v (.agg (St.c s)) :=
  inp_struct (P := Try.prog) (t := 25) n2_St Try.underlying25 hval h (fun h => open_set h)
theorem inp_nums (hval : Value.okWide Try.prog w r b0 22 v) (h : DataW.Trod enc Try.prog w base (fun _ => true) held 22 v d ps) : ∃ l : List Int, (∀ n ∈ l, I64 n) ∧ Inp w v (slI l) :=
  inp_slice (P := Try.prog) (t := 22) (f := fun l : List Int => l.map vi) (m := fun l => l.length) Try.underlying22 hval h (fun h => open_nums h)
end
theorem law_goes {f : Nat} {vs : Array Value} {xs : List A} (h : Ans (vb true) [] (callL tab0 ext0 f xs [])) (W : World) (hg : GlobOk W id 0) (hsz : vs.size = xs.length) (hi : ∀ i (h : i < xs.length), Inp W (vs.getD i undef) xs[i]) :
    Calls Try.prog f vs W fun e W' => e = .returned (.bool true) ∧ Below W.heap.size W W' := by
  obtain ⟨junk, h⟩ := h
  exact law_true (callL_sound tab_ok ext0_sound) h W (limW W) vs hsz hi hg
theorem law_goesX {Φ : CallF} (hs : SoundF Try.prog Φ) {f : Nat} {vs : Array Value} {xs : List A} (h : Ans (vb true) [] (Φ f xs [])) (W : World) (hg : GlobOk W id 0) (hsz : vs.size = xs.length) (hi : ∀ i (h : i < xs.length), Inp W (vs.getD i undef) xs[i]) :
    Calls Try.prog f vs W fun e W' => e = .returned (.bool true) ∧ Below W.heap.size W W' := by
  obtain ⟨junk, h⟩ := h
  exact law_true hs h W (limW W) vs hsz hi hg
end Go.Proofs.YtkohggddaheefaaEv
/- Small inputs. -/
namespace Go.Proofs.YtkohggddaheefaaEv
open Go
abbrev vu8 (n : Int) : A := .val (.int .u8 n)
theorem u8_of {n : Int} (h : (Lit.int .u8 n).wf = true) : 0 ≤ n ∧ n ≤ 255 := by
  simp only [Lit.wf, Bool.and_eq_true, decide_eq_true_eq] at h
  have e1 : IntKind.min .u8 = 0 := by decide
  have e2 : IntKind.max .u8 = 255 := by decide
  omega
theorem wrap_u8i (n : Int) (h : 0 ≤ n ∧ n ≤ 255) : IntKind.wrap .i64 n = n := wrap_in n (by omega) (by omega)
end Go.Proofs.YtkohggddaheefaaEv
