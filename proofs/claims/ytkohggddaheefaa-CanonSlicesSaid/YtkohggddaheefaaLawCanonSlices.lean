/- Of every set, of every number: what Canon and Move of package canon tell has slices of its own, so that writing into it leaves the set that was handed over as it was. -/
import Derived.Test.YtkohggddaheefaaRows
import Derived.Test.YtkohggddaheefaaIn1
import Derived.Test.YtkohggddaheefaaCaSl
import Derived.WalkKit
import Derived.ProofKit
import Derived.OpenShut
import Derived.ShutString
import Derived.ChangeOld
import Derived.Below
import Derived.SizedLaws
set_option linter.unusedVariables false
namespace Go.Proofs.Ytkohggddaheefaa.canonSlices
open Go.ChangeShapes Go.WideShapes Go.ChangeAt Go.RowKit
open Go.Proofs.YtkohggddaheefaaEv
theorem own : ownKnob Try.prog.godebug = none := by kernel_rfl
set_option maxRecDepth 100000 in
theorem lifted (os : Os) (started : os.Started) (H : Type) (enc : TypeId × Value → H) :
    ReturnsInHanded {} Try.checked os 14 .any (Rows.canonSlicesSpec.pre6 enc Try.prog Try.f14 Rows.canonSlicesRow.domain false) (Rows.canonSlicesSpec.post enc Try.prog Try.f14 false true false false) := by
  refine returnsInHanded_of_change_sized (C := Try.checked) own started (by kernel_rfl) Try.func14
    (ChangeSpec.witness6 (enc := enc) (C := Try.checked) false ⟨#[], #[.agg #[.int .i64 0, .slice none 0 0, .slice none 0 0, .slice none 0 0], .int .u8 0], []⟩ 14 (by kernel_rfl) (by kernel_rfl) (by kernel_rfl) (by kernel_rfl)) ?_
  intro W base args ds gs before hval0 hW hcnd hsz0 _
  have hval : ∀ (j : Nat) t v, Try.f14.params[j]? = some t → args[j]? = some v → Value.okWide Try.prog W .any base t v := hval0
  have hW' := hW
  obtain ⟨p, q, hA0, hV, rfl, hfz, hnd⟩ := hW
  have hA : DataW.TrodAll enc Try.prog W 0 (fun _ => true) true Try.f14.params.toList args.toList ds p := hA0
  rw [Try.params14] at hA hval
  have hA' := hA
  obtain ⟨v0, vs0, d0, ds0, p0, q0, hargs, rfl, hp, h0, r0⟩ := trodAll_cons hA
  obtain ⟨v1, vs1, d1, ds1, p1, q1, rfl, rfl, rfl, h1, r1⟩ := trodAll_cons r0
  obtain ⟨rfl, rfl, rfl⟩ := trodAll_nil r1
  obtain rfl : args = #[v0, v1] := by cases args; simp_all
  obtain ⟨rfl, rfl⟩ := trodVars_none hV
  obtain ⟨x0, k0, i0⟩ := inp_set (hval 0 25 v0 rfl rfl) h0
  obtain ⟨x1, k1, i1⟩ := inp_int Try.underlying5 (hval 1 5 v1 rfl rfl) h1
  clear hA0 hval0 hsz0
  refine (law_goesX (callL_sound tab_ok ext9_sound) (canonSlices_is x0 x1 k0 k1) W (by intro p hp; cases hp) rfl fun i hi => ?_).mono fun e W' ⟨he, bel⟩ => ?_
  · have hi : i < 2 := hi
    rcases i with _ | _ | i
    · exact i0
    · exact i1
    · omega
  subst he
  have hlt : ∀ x ∈ p, x.block < W.heap.size := fun x hx => by simpa using hW'.lt x (List.mem_append_left _ hx)
  exact ⟨_, rfl, _, _, _, [], _, [], hW', trodAll_mk1 (shut_bool Try.underlying4 _), trodAll_below (by kernel_rfl) bel _ _ _ _ (by kernel_rfl) hA' hlt, rfl, bel.frame _, fun h => by cases h⟩
theorem over : Rows.canonSlicesRow.holds Try.pinned (OpenSpec.ofChange Rows.canonSlicesSpec) :=
  OpenClaim.holds_of_wide 14 Try.f14 rfl rfl rfl rfl rfl rfl rfl ⟨rfl, rfl, rfl, rfl, rfl⟩ rfl rfl rfl rfl rfl (by kernel_rfl) Try.func14 (by kernel_rfl)
    (of_decide_eq_true (by kernel_rfl)) (by unfold Func.isWrapper; first | (rw [if_pos (by decide +kernel)]; kernel_rfl) | (rw [if_neg (by decide +kernel)]; exact ⟨rfl, rfl⟩))
    (fun os started H enc _ => lifted os started H enc)
theorem proved : Rows.CanonSlicesSaid := over
#print axioms proved
end Go.Proofs.Ytkohggddaheefaa.canonSlices
namespace Go.Proofs.Ytkohggddaheefaa
/-- The row, under a short name, for the claim. -/
theorem canonSlices_holds : Rows.CanonSlicesSaid := canonSlices.proved
end Go.Proofs.Ytkohggddaheefaa
