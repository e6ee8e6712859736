/- swingbridgelaw2.SortedRules. -/
import Derived.Test.YtgndbkeiickihaaRows
import Derived.Test.YtgndbkeiickihaaIn1
import Derived.Test.YtgndbkeiickihaaSoRulesW
import Derived.Test.YtgndbkeiickihaaItemI
import Derived.WalkKit
import Derived.ProofKit
import Derived.OpenShut
import Derived.ShutString
import Derived.ChangeOld
import Derived.Below
import Derived.SizedLaws
set_option linter.unusedVariables false
namespace Go.Proofs.Ytgndbkeiickihaa.sortedRules
open Go.ChangeShapes Go.WideShapes Go.ChangeAt Go.RowKit
open Go.Proofs.YtgndbkeiickihaaEv
theorem own : ownKnob Try.prog.godebug = none := by kernel_rfl
set_option maxRecDepth 100000 in
theorem lifted (os : Os) (started : os.Started) (H : Type) (enc : TypeId × Value → H) :
    ReturnsInHanded {} Try.checked os 4 .any (Rows.sortedRulesSpec.pre6 enc Try.prog Try.f4 Rows.sortedRulesRow.domain false) (Rows.sortedRulesSpec.post enc Try.prog Try.f4 false true false false) := by
  refine returnsInHanded_of_change_sized (C := Try.checked) own started (by kernel_rfl) Try.func4
    (ChangeSpec.witness6 (enc := enc) (C := Try.checked) false ⟨#[], #[.slice none 0 0], []⟩ 4 (by kernel_rfl) (by kernel_rfl) (by kernel_rfl) (by kernel_rfl)) ?_
  intro W base args ds gs before hval0 hW hcnd hsz0 _
  have hval : ∀ (j : Nat) t v, Try.f4.params[j]? = some t → args[j]? = some v → Value.okWide Try.prog W .any base t v := hval0
  have hW' := hW
  obtain ⟨p, q, hA0, hV, rfl, hfz, hnd⟩ := hW
  have hA : DataW.TrodAll enc Try.prog W 0 (fun _ => true) true Try.f4.params.toList args.toList ds p := hA0
  rw [Try.params4] at hA hval
  have hA' := hA
  obtain ⟨v0, vs0, d0, ds0, p0, q0, hargs, rfl, hp, h0, r0⟩ := trodAll_cons hA
  obtain ⟨rfl, rfl, rfl⟩ := trodAll_nil r0
  obtain rfl : args = #[v0] := by cases args; simp_all
  obtain ⟨rfl, rfl⟩ := trodVars_none hV
  obtain ⟨x0, k0, i0⟩ := inp_items (hval 0 22 v0 rfl rfl) h0
  clear hA0 hval0 hsz0
  refine (law_goesX (callL_sound tab_ok extR_sound) (sortedRules_is x0 k0) W (by intro p hp; cases hp) rfl fun i hi => ?_).mono fun e W' ⟨he, bel⟩ => ?_
  · have hi : i < 1 := hi
    rcases i with _ | i
    · exact i0
    · omega
  subst he
  have hlt : ∀ x ∈ p, x.block < W.heap.size := fun x hx => by simpa using hW'.lt x (List.mem_append_left _ hx)
  exact ⟨_, rfl, _, _, _, [], _, [], hW', trodAll_mk1 (shut_bool Try.underlying4 _), trodAll_below (by kernel_rfl) bel _ _ _ _ (by kernel_rfl) hA' hlt, rfl, bel.frame _, fun h => by cases h⟩
theorem over : Rows.sortedRulesRow.holds Try.pinned (OpenSpec.ofChange Rows.sortedRulesSpec) :=
  OpenClaim.holds_of_wide 4 Try.f4 rfl rfl rfl rfl rfl rfl rfl ⟨rfl, rfl, rfl, rfl, rfl⟩ rfl rfl rfl rfl rfl (by kernel_rfl) Try.func4 (by kernel_rfl)
    (of_decide_eq_true (by kernel_rfl)) (by unfold Func.isWrapper; first | (rw [if_pos (by decide +kernel)]; kernel_rfl) | (rw [if_neg (by decide +kernel)]; exact ⟨rfl, rfl⟩))
    (fun os started H enc _ => lifted os started H enc)
theorem proved : Rows.SortedRulesSaid := over
#print axioms proved
end Go.Proofs.Ytgndbkeiickihaa.sortedRules
namespace Go.Proofs.Ytgndbkeiickihaa
/-- The row, under a short name, for the claim. -/
theorem sortedRules_holds : Rows.SortedRulesSaid := sortedRules.proved
end Go.Proofs.Ytgndbkeiickihaa
