/- swingbridgelaw2.SortedSums. -/
import Derived.Test.YtgndbkeiickihaaRows
import Derived.Test.YtgndbkeiickihaaIn1
import Derived.Test.YtgndbkeiickihaaSoSums
import Derived.WalkKit
import Derived.ProofKit
import Derived.OpenShut
import Derived.ShutString
import Derived.ChangeOld
import Derived.Below
import Derived.SizedLaws
set_option linter.unusedVariables false
namespace Go.Proofs.Ytgndbkeiickihaa.sortedSums
open Go.ChangeShapes Go.WideShapes Go.ChangeAt Go.RowKit
open Go.Proofs.YtgndbkeiickihaaEv
theorem own : ownKnob Try.prog.godebug = none := by kernel_rfl
set_option maxRecDepth 100000 in
theorem lifted (os : Os) (started : os.Started) (H : Type) (enc : TypeId × Value → H) :
    ReturnsInHanded {} Try.checked os 7 .any (Rows.sortedSumsSpec.pre6 enc Try.prog Try.f7 Rows.sortedSumsRow.domain false) (Rows.sortedSumsSpec.post enc Try.prog Try.f7 false true false false) := by
  refine returnsInHanded_of_change_sized (C := Try.checked) own started (by kernel_rfl) Try.func7
    (ChangeSpec.witness6 (enc := enc) (C := Try.checked) false ⟨#[], #[.slice none 0 0, .int .u8 0, .int .u16 0], []⟩ 7 (by kernel_rfl) (by kernel_rfl) (by kernel_rfl) (by kernel_rfl)) ?_
  intro W base args ds gs before hval0 hW hcnd hsz0 _
  have hval : ∀ (j : Nat) t v, Try.f7.params[j]? = some t → args[j]? = some v → Value.okWide Try.prog W .any base t v := hval0
  have hW' := hW
  obtain ⟨p, q, hA0, hV, rfl, hfz, hnd⟩ := hW
  have hA : DataW.TrodAll enc Try.prog W 0 (fun _ => true) true Try.f7.params.toList args.toList ds p := hA0
  rw [Try.params7] at hA hval
  have hA' := hA
  obtain ⟨v0, vs0, d0, ds0, p0, q0, hargs, rfl, hp, h0, r0⟩ := trodAll_cons hA
  obtain ⟨v1, vs1, d1, ds1, p1, q1, rfl, rfl, rfl, h1, r1⟩ := trodAll_cons r0
  obtain ⟨v2, vs2, d2, ds2, p2, q2, rfl, rfl, rfl, h2, r2⟩ := trodAll_cons r1
  obtain ⟨rfl, rfl, rfl⟩ := trodAll_nil r2
  obtain rfl : args = #[v0, v1, v2] := by cases args; simp_all
  obtain ⟨rfl, rfl⟩ := trodVars_none hV
  obtain ⟨x0, k0, i0⟩ := inp_u16s (hval 0 38 v0 rfl rfl) h0
  obtain ⟨x1, k1, i1⟩ := inp_int Try.underlying5 (hval 1 5 v1 rfl rfl) h1
  obtain ⟨x2, k2, i2⟩ := inp_int Try.underlying39 (hval 2 39 v2 rfl rfl) h2
  clear hA0 hval0 hsz0
  refine (law_goesX (callL_sound tab_ok extP_sound) (sortedSums_is x0 x1 x2 k0 k1 k2) W (by intro p hp; cases hp) rfl fun i hi => ?_).mono fun e W' ⟨he, bel⟩ => ?_
  · have hi : i < 3 := hi
    rcases i with _ | _ | _ | i
    · exact i0
    · exact i1
    · exact i2
    · omega
  subst he
  have hlt : ∀ x ∈ p, x.block < W.heap.size := fun x hx => by simpa using hW'.lt x (List.mem_append_left _ hx)
  exact ⟨_, rfl, _, _, _, [], _, [], hW', trodAll_mk1 (shut_bool Try.underlying4 _), trodAll_below (by kernel_rfl) bel _ _ _ _ (by kernel_rfl) hA' hlt, rfl, bel.frame _, fun h => by cases h⟩
theorem over : Rows.sortedSumsRow.holds Try.pinned (OpenSpec.ofChange Rows.sortedSumsSpec) :=
  OpenClaim.holds_of_wide 7 Try.f7 rfl rfl rfl rfl rfl rfl rfl ⟨rfl, rfl, rfl, rfl, rfl⟩ rfl rfl rfl rfl rfl (by kernel_rfl) Try.func7 (by kernel_rfl)
    (of_decide_eq_true (by kernel_rfl)) (by unfold Func.isWrapper; first | (rw [if_pos (by decide +kernel)]; kernel_rfl) | (rw [if_neg (by decide +kernel)]; exact ⟨rfl, rfl⟩))
    (fun os started H enc _ => lifted os started H enc)
theorem proved : Rows.SortedSumsSaid := over
#print axioms proved
end Go.Proofs.Ytgndbkeiickihaa.sortedSums
namespace Go.Proofs.Ytgndbkeiickihaa
/-- The row, under a short name, for the claim. -/
theorem sortedSums_holds : Rows.SortedSumsSaid := sortedSums.proved
end Go.Proofs.Ytgndbkeiickihaa
