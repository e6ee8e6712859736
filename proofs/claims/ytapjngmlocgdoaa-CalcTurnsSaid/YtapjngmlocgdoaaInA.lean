/- A law's arguments, as they are known (numbers alone); behind the call they read as they did. -/
import Derived.Test.YtapjngmlocgdoaaT1
import Derived.Test.YtapjngmlocgdoaaEvU
import Derived.Test.YtapjngmlocgdoaaProg
import Derived.WalkKit
import Derived.ProofKit
import Derived.OpenShut
import Derived.ShutString
import Derived.ChangeOld
import Derived.Carry
import Derived.SizedLaws
import Derived.WideShapes
import Derived.KernelRfl
set_option linter.unusedSimpArgs false
set_option linter.unusedVariables false
namespace Go.Proofs.YtapjngmlocgdoaaEv
open Go Go.RowKit Go.ChangeShapes Go.WideShapes
section
variable {H : Type} {enc : TypeId × Value → H} {w : World} {base : Nat} {held : Bool} {fuel : Nat} {cs : List Value} {x : DataW H × List MemPlace}
def I64 (n : Int) : Prop := -9223372036854775808 ≤ n ∧ n ≤ 9223372036854775807
theorem i64_wf {n : Int} (h : (Lit.int .i64 n).wf = true) : I64 n := by
  simp only [Lit.wf, Bool.and_eq_true, decide_eq_true_eq] at h
  exact h
theorem open_num (h : DataW.trod enc Try.prog w base (fun _ => true) held fuel 2 cs = some x) : ∃ n, I64 n ∧ Cells w cs [vi n] := by
  obtain ⟨n, h1, h2⟩ := cells_int Try.underlying2 h
  exact ⟨n, i64_wf h1, h2⟩
theorem open_nums (h : DataW.trod enc Try.prog w base (fun _ => true) held fuel 27 cs = some x) : ∃ l, (∀ n ∈ l, I64 n) ∧ Cells w cs [slI l] := by
  obtain ⟨l, h1, h2⟩ := cells_slice (fun n => [vi n]) I64 1 (by omega) (by kernel_rfl) (fun _ => rfl) (fun _ => rfl) open_num Try.underlying27 h
  refine ⟨l, h1, ?_⟩
  have e : (l.flatMap fun n => [vi n]) = l.map vi := by clear h1 h2; induction l <;> simp_all
  rw [e] at h2; exact h2
end
section
set_option maxRecDepth 100000
variable {P : Program} {H : Type} {enc : TypeId × Value → H} {w : World} {base b0 : Nat} {held : Bool} {t : TypeId} {v : Value} {d : DataW H} {ps : List MemPlace} {r : Reach}
/-- An argument, as it is known. -/
def Inp (w : World) (v : Value) (a : A) : Prop := Rep w (limW w) id 0 v a ∧ n2 a
theorem inp_int {k : IntKind} (ht : P.underlying t = some (.int k)) (hval : Value.okWide P w r b0 t v) (h : DataW.Trod enc P w base (fun _ => true) held t v d ps) : ∃ n, (Lit.int k n).wf = true ∧ Inp w v (.val (.int k n)) := by
  obtain ⟨n, rfl, _, _, hw⟩ := open_int ht hval h
  exact ⟨n, hw, .rv (.val _ rfl), fun _ _ e => by cases e⟩
theorem inp_bool (ht : P.underlying t = some .bool) (hval : Value.okWide P w r b0 t v) (h : DataW.Trod enc P w base (fun _ => true) held t v d ps) : ∃ b, Inp w v (vb b) := by
  obtain ⟨b, rfl, _, _⟩ := open_bool ht hval h
  exact ⟨b, .rv (.val _ rfl), fun _ _ e => by cases e⟩
theorem inp_cell {l : List A} {n : Nat} {x : Value} (h : Cells w [x] [A.sl l n 0]) : Inp w x (.sl l n 0) :=
  ⟨.rv (h.2 0 (by simp)), fun _ _ e => by cases e⟩
theorem inp_slice {α : Type} {G : α → Prop} {e : TypeId} {f : α → List A} {m : α → Nat} (ht : P.underlying t = some (.slice e)) (hval : Value.okWide P w r b0 t v) (h : DataW.Trod enc P w base (fun _ => true) held t v d ps)
    (ho : ∀ {fuel cs x}, DataW.trod enc P w base (fun _ => true) held fuel t cs = some x → ∃ l, G l ∧ Cells w cs [.sl (f l) (m l) 0]) : ∃ l, G l ∧ Inp w v (.sl (f l) (m l) 0) := by
  obtain ⟨a, len, cap, rfl⟩ := okWide_slice ht hval
  obtain ⟨fuel, hf⟩ := h
  obtain ⟨l, hl, hc⟩ := ho hf
  exact ⟨l, hl, inp_cell hc⟩
theorem inp_struct {α : Type} {G : α → Prop} {fs : Array Field} {f : α → List A} (hn : ∀ x, (f x).all A.isV = true ∧ ∀ i (hi : i < (f x).length), n2 (f x)[i]) (ht : P.underlying t = some (.struct fs)) (hval : Value.okWide P w r b0 t v) (h : DataW.Trod enc P w base (fun _ => true) held t v d ps)
    (ho : ∀ {fuel cs x}, DataW.trod enc P w base (fun _ => true) held fuel t cs = some x → ∃ l, G l ∧ Cells w cs (f l)) : ∃ l, G l ∧ Inp w v (.agg (f l)) := by
  obtain ⟨cs, rfl, _⟩ := okWide_struct ht hval
  obtain ⟨fuel, hf⟩ := h
  obtain ⟨l, hl, hc⟩ := ho hf
  exact ⟨l, hl, rep_agg hc (hn l).2, fun _ _ e => by cases e⟩
/-- What a call leaves of its arguments. -/
theorem trodAll_below (hl : laidOutB P = true) {W W' : World} (hb : Below W.heap.size W W') : ∀ (ts : List TypeId) (vs : List Value) (ds : List (DataW H)) (ps : List MemPlace),
    (ts.all fun t => P.readableRec t && decide (t < P.types.size)) = true → DataW.TrodAll enc P W 0 (fun _ => true) true ts vs ds ps → (∀ x ∈ ps, x.block < W.heap.size) → DataW.TrodAll enc P W' 0 (fun b => decide (b < W.heap.size)) true ts vs ds ps
  | [], [], [], _, _, h, _ => h
  | t :: ts, v :: vs, d :: ds, _, hr, ⟨p, q, h1, h2, e⟩, hlt => by
    simp only [List.all_cons, Bool.and_eq_true, decide_eq_true_eq] at hr
    subst e
    exact ⟨p, q, Below.trod hl hr.1.1 hr.1.2 h1 hb fun x hx => hlt x (List.mem_append_left _ hx), trodAll_below hl hb ts vs ds q hr.2 h2 fun x hx => hlt x (List.mem_append_right _ hx), rfl⟩
theorem inp_nums (hval : Value.okWide Try.prog w r b0 27 v) (h : DataW.Trod enc Try.prog w base (fun _ => true) held 27 v d ps) : ∃ l : List Int, (∀ n ∈ l, I64 n) ∧ Inp w v (slI l) :=
  inp_slice (P := Try.prog) (t := 27) (f := fun l : List Int => l.map vi) (m := fun l => l.length) Try.underlying27 hval h (fun h => open_nums h)
end
theorem law_goesX {Φ : CallF} (hs : SoundF Try.prog Φ) {f : Nat} {vs : Array Value} {xs : List A} (h : Ans (vb true) [] (Φ f xs [])) (W : World) (hg : GlobOk W id 0) (hsz : vs.size = xs.length) (hi : ∀ i (h : i < xs.length), Inp W (vs.getD i undef) xs[i]) :
    Calls Try.prog f vs W fun e W' => e = .returned (.bool true) ∧ Below W.heap.size W W' := by
  obtain ⟨junk, h⟩ := h
  exact law_true hs h W (limW W) vs hsz hi hg
end Go.Proofs.YtapjngmlocgdoaaEv
