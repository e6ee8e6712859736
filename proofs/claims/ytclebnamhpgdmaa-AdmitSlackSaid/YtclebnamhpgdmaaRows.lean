/-
  No cell of these rows narrows 'for every input' (looked for: loops, veiled, ifaces, maps, wideKeys, modest, calm, conditions, laid).
  DERIVED. THE GIVEN ROWS OF THIS SEAT. 10 by the template 'for every input the law returns true; each argument reads behind the call as it read before'; 0 by the template 'total and deterministic' (their statements: YtclebnamhpgdmaaTotals.lean).
  GIVEN WITH THE SEED: the statements are not yours to turn. If you find one false, say at which input.
  Laid BY PROGRAM, IN A SANDBOX (cutbox-rows.mjs): the forced cells as the released guide's own fill.sh prints them over the translation 0ea0ac008989c5b4… (all of the seat's roots in one cut). By AI agents, Wed Nov 11 2026. No macro, syntax, notation, axiom, sorry.
-/
import Derived.Test.YtclebnamhpgdmaaChecked
import GoSem.Claim
import GoSem.ClaimJoined
import GoSem.ClaimMapViews
import Derived.JoinedTies
import Derived.KernelRfl
namespace Go.Proofs.Ytclebnamhpgdmaa
/- THE CELL 'sum', in the pinned program and in every row, IS THE sha256 OF THE DUMP (.gsa) THAT YtclebnamhpgdmaaProg.lean LOADS. Nothing in Lean hashes anything: it is a label: what it is worth is what the hold of that sum in a sandbox is worth. -/
noncomputable def Try.pinned : Pinned := { name := "ytclebnamhpgdmaa", sum := "0ea0ac008989c5b4915bfb5322f6dee104a935eee65d349eb183ce2ae9e76d02", checked := Try.checked }
namespace Rows
def none {H : Type} : Left H := { results := [], args := [] }

/-- 'swingbridgelaw17.BoundRises': WHATEVER THE INPUT: true; the input reads as it did. -/
def boundRisesSpec : ChangeSpec := { name := "boundRises", fn := fun _ => fun
  | [d1, d2, d3, d4] => { results := [.lit (.bool true)], args := [d1, d2, d3, d4] }
  | _ => none }
def boundRisesRow : OpenClaim := { program := "ytclebnamhpgdmaa", sum := "0ea0ac008989c5b4915bfb5322f6dee104a935eee65d349eb183ce2ae9e76d02", func := "swingbridge/swingbridgelaw17.BoundRises", spec := "boundRises", unfollowed := true, recurses := true, apart := false }
def BoundRisesSaid : Prop := boundRisesRow.holds Try.pinned (OpenSpec.ofChange boundRisesSpec)

/-- ITS FALSE NEIGHBOUR: 'it returns false'. Refute it at one input. -/
def boundRisesWrong : ChangeSpec := { name := "boundRises", fn := fun _ => fun
  | [d1, d2, d3, d4] => { results := [.lit (.bool false)], args := [d1, d2, d3, d4] }
  | _ => none }
def BoundRisesWrongFalsely : Prop := boundRisesRow.holds Try.pinned (OpenSpec.ofChange boundRisesWrong)

/-- 'swingbridgelaw17.BoundAlone': WHATEVER THE INPUT: true; the input reads as it did. -/
def boundAloneSpec : ChangeSpec := { name := "boundAlone", fn := fun _ => fun
  | [d1, d2, d3, d4, d5, d6] => { results := [.lit (.bool true)], args := [d1, d2, d3, d4, d5, d6] }
  | _ => none }
def boundAloneRow : OpenClaim := { program := "ytclebnamhpgdmaa", sum := "0ea0ac008989c5b4915bfb5322f6dee104a935eee65d349eb183ce2ae9e76d02", func := "swingbridge/swingbridgelaw17.BoundAlone", spec := "boundAlone", unfollowed := true, recurses := true, apart := false }
def BoundAloneSaid : Prop := boundAloneRow.holds Try.pinned (OpenSpec.ofChange boundAloneSpec)

/-- ITS FALSE NEIGHBOUR: 'it returns false'. Refute it at one input. -/
def boundAloneWrong : ChangeSpec := { name := "boundAlone", fn := fun _ => fun
  | [d1, d2, d3, d4, d5, d6] => { results := [.lit (.bool false)], args := [d1, d2, d3, d4, d5, d6] }
  | _ => none }
def BoundAloneWrongFalsely : Prop := boundAloneRow.holds Try.pinned (OpenSpec.ofChange boundAloneWrong)

/-- 'swingbridgelaw17.BoundHigher': WHATEVER THE INPUT: true; the input reads as it did. -/
def boundHigherSpec : ChangeSpec := { name := "boundHigher", fn := fun _ => fun
  | [d1, d2, d3, d4, d5, d6] => { results := [.lit (.bool true)], args := [d1, d2, d3, d4, d5, d6] }
  | _ => none }
def boundHigherRow : OpenClaim := { program := "ytclebnamhpgdmaa", sum := "0ea0ac008989c5b4915bfb5322f6dee104a935eee65d349eb183ce2ae9e76d02", func := "swingbridge/swingbridgelaw17.BoundHigher", spec := "boundHigher", unfollowed := true, recurses := true, apart := false }
def BoundHigherSaid : Prop := boundHigherRow.holds Try.pinned (OpenSpec.ofChange boundHigherSpec)

/-- ITS FALSE NEIGHBOUR: 'it returns false'. Refute it at one input. -/
def boundHigherWrong : ChangeSpec := { name := "boundHigher", fn := fun _ => fun
  | [d1, d2, d3, d4, d5, d6] => { results := [.lit (.bool false)], args := [d1, d2, d3, d4, d5, d6] }
  | _ => none }
def BoundHigherWrongFalsely : Prop := boundHigherRow.holds Try.pinned (OpenSpec.ofChange boundHigherWrong)

/-- 'swingbridgelaw17.BoundSleeps': WHATEVER THE INPUT: true; the input reads as it did. -/
def boundSleepsSpec : ChangeSpec := { name := "boundSleeps", fn := fun _ => fun
  | [d1, d2, d3] => { results := [.lit (.bool true)], args := [d1, d2, d3] }
  | _ => none }
def boundSleepsRow : OpenClaim := { program := "ytclebnamhpgdmaa", sum := "0ea0ac008989c5b4915bfb5322f6dee104a935eee65d349eb183ce2ae9e76d02", func := "swingbridge/swingbridgelaw17.BoundSleeps", spec := "boundSleeps", unfollowed := true, recurses := true, apart := false }
def BoundSleepsSaid : Prop := boundSleepsRow.holds Try.pinned (OpenSpec.ofChange boundSleepsSpec)

/-- ITS FALSE NEIGHBOUR: 'it returns false'. Refute it at one input. -/
def boundSleepsWrong : ChangeSpec := { name := "boundSleeps", fn := fun _ => fun
  | [d1, d2, d3] => { results := [.lit (.bool false)], args := [d1, d2, d3] }
  | _ => none }
def BoundSleepsWrongFalsely : Prop := boundSleepsRow.holds Try.pinned (OpenSpec.ofChange boundSleepsWrong)

/-- 'swingbridgelaw18.AdmitHolds': WHATEVER THE INPUT: true; the input reads as it did. -/
def admitHoldsSpec : ChangeSpec := { name := "admitHolds", fn := fun _ => fun
  | [d1, d2] => { results := [.lit (.bool true)], args := [d1, d2] }
  | _ => none }
def admitHoldsRow : OpenClaim := { program := "ytclebnamhpgdmaa", sum := "0ea0ac008989c5b4915bfb5322f6dee104a935eee65d349eb183ce2ae9e76d02", func := "swingbridge/swingbridgelaw18.AdmitHolds", spec := "admitHolds", unfollowed := true, recurses := true, apart := false }
def AdmitHoldsSaid : Prop := admitHoldsRow.holds Try.pinned (OpenSpec.ofChange admitHoldsSpec)

/-- ITS FALSE NEIGHBOUR: 'it returns false'. Refute it at one input. -/
def admitHoldsWrong : ChangeSpec := { name := "admitHolds", fn := fun _ => fun
  | [d1, d2] => { results := [.lit (.bool false)], args := [d1, d2] }
  | _ => none }
def AdmitHoldsWrongFalsely : Prop := admitHoldsRow.holds Try.pinned (OpenSpec.ofChange admitHoldsWrong)

/-- 'swingbridgelaw18.AdmitTurns': WHATEVER THE INPUT: true; the input reads as it did. -/
def admitTurnsSpec : ChangeSpec := { name := "admitTurns", fn := fun _ => fun
  | [d1, d2] => { results := [.lit (.bool true)], args := [d1, d2] }
  | _ => none }
def admitTurnsRow : OpenClaim := { program := "ytclebnamhpgdmaa", sum := "0ea0ac008989c5b4915bfb5322f6dee104a935eee65d349eb183ce2ae9e76d02", func := "swingbridge/swingbridgelaw18.AdmitTurns", spec := "admitTurns", unfollowed := true, recurses := true, apart := false }
def AdmitTurnsSaid : Prop := admitTurnsRow.holds Try.pinned (OpenSpec.ofChange admitTurnsSpec)

/-- ITS FALSE NEIGHBOUR: 'it returns false'. Refute it at one input. -/
def admitTurnsWrong : ChangeSpec := { name := "admitTurns", fn := fun _ => fun
  | [d1, d2] => { results := [.lit (.bool false)], args := [d1, d2] }
  | _ => none }
def AdmitTurnsWrongFalsely : Prop := admitTurnsRow.holds Try.pinned (OpenSpec.ofChange admitTurnsWrong)

/-- 'swingbridgelaw18.AdmitSlack': WHATEVER THE INPUT: true; the input reads as it did. -/
def admitSlackSpec : ChangeSpec := { name := "admitSlack", fn := fun _ => fun
  | [d1, d2, d3] => { results := [.lit (.bool true)], args := [d1, d2, d3] }
  | _ => none }
def admitSlackRow : OpenClaim := { program := "ytclebnamhpgdmaa", sum := "0ea0ac008989c5b4915bfb5322f6dee104a935eee65d349eb183ce2ae9e76d02", func := "swingbridge/swingbridgelaw18.AdmitSlack", spec := "admitSlack", unfollowed := true, recurses := true, apart := false }
def AdmitSlackSaid : Prop := admitSlackRow.holds Try.pinned (OpenSpec.ofChange admitSlackSpec)

/-- ITS FALSE NEIGHBOUR: 'it returns false'. Refute it at one input. -/
def admitSlackWrong : ChangeSpec := { name := "admitSlack", fn := fun _ => fun
  | [d1, d2, d3] => { results := [.lit (.bool false)], args := [d1, d2, d3] }
  | _ => none }
def AdmitSlackWrongFalsely : Prop := admitSlackRow.holds Try.pinned (OpenSpec.ofChange admitSlackWrong)

/-- 'swingbridgelaw18.AdmitAlone': WHATEVER THE INPUT: true; the input reads as it did. -/
def admitAloneSpec : ChangeSpec := { name := "admitAlone", fn := fun _ => fun
  | [d1, d2, d3, d4, d5] => { results := [.lit (.bool true)], args := [d1, d2, d3, d4, d5] }
  | _ => none }
def admitAloneRow : OpenClaim := { program := "ytclebnamhpgdmaa", sum := "0ea0ac008989c5b4915bfb5322f6dee104a935eee65d349eb183ce2ae9e76d02", func := "swingbridge/swingbridgelaw18.AdmitAlone", spec := "admitAlone", unfollowed := true, recurses := true, apart := false }
def AdmitAloneSaid : Prop := admitAloneRow.holds Try.pinned (OpenSpec.ofChange admitAloneSpec)

/-- ITS FALSE NEIGHBOUR: 'it returns false'. Refute it at one input. -/
def admitAloneWrong : ChangeSpec := { name := "admitAlone", fn := fun _ => fun
  | [d1, d2, d3, d4, d5] => { results := [.lit (.bool false)], args := [d1, d2, d3, d4, d5] }
  | _ => none }
def AdmitAloneWrongFalsely : Prop := admitAloneRow.holds Try.pinned (OpenSpec.ofChange admitAloneWrong)

/-- 'swingbridgelaw18.AdmitTwo': WHATEVER THE INPUT: true; the input reads as it did. -/
def admitTwoSpec : ChangeSpec := { name := "admitTwo", fn := fun _ => fun
  | [d1, d2, d3] => { results := [.lit (.bool true)], args := [d1, d2, d3] }
  | _ => none }
def admitTwoRow : OpenClaim := { program := "ytclebnamhpgdmaa", sum := "0ea0ac008989c5b4915bfb5322f6dee104a935eee65d349eb183ce2ae9e76d02", func := "swingbridge/swingbridgelaw18.AdmitTwo", spec := "admitTwo", unfollowed := true, recurses := true, apart := false }
def AdmitTwoSaid : Prop := admitTwoRow.holds Try.pinned (OpenSpec.ofChange admitTwoSpec)

/-- ITS FALSE NEIGHBOUR: 'it returns false'. Refute it at one input. -/
def admitTwoWrong : ChangeSpec := { name := "admitTwo", fn := fun _ => fun
  | [d1, d2, d3] => { results := [.lit (.bool false)], args := [d1, d2, d3] }
  | _ => none }
def AdmitTwoWrongFalsely : Prop := admitTwoRow.holds Try.pinned (OpenSpec.ofChange admitTwoWrong)

/-- 'swingbridgelaw18.AdmitReference': WHATEVER THE INPUT: true; the input reads as it did. -/
def admitReferenceSpec : ChangeSpec := { name := "admitReference", fn := fun _ => fun
  | [d1, d2] => { results := [.lit (.bool true)], args := [d1, d2] }
  | _ => none }
def admitReferenceRow : OpenClaim := { program := "ytclebnamhpgdmaa", sum := "0ea0ac008989c5b4915bfb5322f6dee104a935eee65d349eb183ce2ae9e76d02", func := "swingbridge/swingbridgelaw18.AdmitReference", spec := "admitReference", unfollowed := true, recurses := true, apart := false }
def AdmitReferenceSaid : Prop := admitReferenceRow.holds Try.pinned (OpenSpec.ofChange admitReferenceSpec)

/-- ITS FALSE NEIGHBOUR: 'it returns false'. Refute it at one input. -/
def admitReferenceWrong : ChangeSpec := { name := "admitReference", fn := fun _ => fun
  | [d1, d2] => { results := [.lit (.bool false)], args := [d1, d2] }
  | _ => none }
def AdmitReferenceWrongFalsely : Prop := admitReferenceRow.holds Try.pinned (OpenSpec.ofChange admitReferenceWrong)

/- THE SECOND FORM. 'bulk': how many values and letters a reading holds, each counted each time it is reached (what is shared counts as often as it is met; a slice's spare places count too). A statement '..UptoSaid' is the law's where the arguments, and the package variables that the reading takes, are together of bulk at most 1048576: NARROWER than '..Said'. Prove '..Said' where nothing that the law and all that it calls make is longer than what came in: it says more and counts as full. Else prove '..UptoSaid'. A law counts once. -/
mutual
def uptoBulk {H : Type} : DataW H → Nat
  | .lit (.string bytes) => bytes.length + 1
  | .lit _ => 1
  | .nil => 1
  | .ptr d => uptoBulk d + 1
  | .slice elems spare => uptoBulkAll elems + uptoBulkAll spare + 1
  | .agg parts => uptoBulkAll parts + 1
  | .iface _ d => uptoBulk d + 1
  | .map entries => uptoBulkEntries entries + 1
  | .held _ => 1
def uptoBulkAll {H : Type} : List (DataW H) → Nat
  | [] => 0
  | d :: r => uptoBulk d + uptoBulkAll r
def uptoBulkEntries {H : Type} : List (Lit × DataW H) → Nat
  | [] => 0
  | x :: r => uptoBulkEntry x + uptoBulkEntries r
def uptoBulkEntry {H : Type} : Lit × DataW H → Nat
  | (.string bytes, d) => bytes.length + uptoBulk d + 1
  | (_, d) => uptoBulk d + 1
 end
def uptoSmall : (H : Type) → List (DataW H) → Bool := fun _ ds => decide (uptoBulkAll ds ≤ 1048576)
def OpenSpec.upto (s : _root_.Go.ChangeSpec) : _root_.Go.OpenSpec := { _root_.Go.OpenSpec.ofChange s with cond := some uptoSmall }

/-- 'swingbridgelaw17.BoundRises', WHERE WHAT IT READS IS OF BULK AT MOST 1048576: true; the input reads as it did. -/
def boundRisesUptoRow : OpenClaim := { program := "ytclebnamhpgdmaa", sum := "0ea0ac008989c5b4915bfb5322f6dee104a935eee65d349eb183ce2ae9e76d02", func := "swingbridge/swingbridgelaw17.BoundRises", spec := "boundRises", unfollowed := true, recurses := true, apart := false, narrowed := true }
def BoundRisesUptoSaid : Prop := boundRisesUptoRow.holds Try.pinned (OpenSpec.upto boundRisesSpec)

/-- 'swingbridgelaw17.BoundAlone', WHERE WHAT IT READS IS OF BULK AT MOST 1048576: true; the input reads as it did. -/
def boundAloneUptoRow : OpenClaim := { program := "ytclebnamhpgdmaa", sum := "0ea0ac008989c5b4915bfb5322f6dee104a935eee65d349eb183ce2ae9e76d02", func := "swingbridge/swingbridgelaw17.BoundAlone", spec := "boundAlone", unfollowed := true, recurses := true, apart := false, narrowed := true }
def BoundAloneUptoSaid : Prop := boundAloneUptoRow.holds Try.pinned (OpenSpec.upto boundAloneSpec)

/-- 'swingbridgelaw17.BoundHigher', WHERE WHAT IT READS IS OF BULK AT MOST 1048576: true; the input reads as it did. -/
def boundHigherUptoRow : OpenClaim := { program := "ytclebnamhpgdmaa", sum := "0ea0ac008989c5b4915bfb5322f6dee104a935eee65d349eb183ce2ae9e76d02", func := "swingbridge/swingbridgelaw17.BoundHigher", spec := "boundHigher", unfollowed := true, recurses := true, apart := false, narrowed := true }
def BoundHigherUptoSaid : Prop := boundHigherUptoRow.holds Try.pinned (OpenSpec.upto boundHigherSpec)

/-- 'swingbridgelaw17.BoundSleeps', WHERE WHAT IT READS IS OF BULK AT MOST 1048576: true; the input reads as it did. -/
def boundSleepsUptoRow : OpenClaim := { program := "ytclebnamhpgdmaa", sum := "0ea0ac008989c5b4915bfb5322f6dee104a935eee65d349eb183ce2ae9e76d02", func := "swingbridge/swingbridgelaw17.BoundSleeps", spec := "boundSleeps", unfollowed := true, recurses := true, apart := false, narrowed := true }
def BoundSleepsUptoSaid : Prop := boundSleepsUptoRow.holds Try.pinned (OpenSpec.upto boundSleepsSpec)

/-- 'swingbridgelaw18.AdmitHolds', WHERE WHAT IT READS IS OF BULK AT MOST 1048576: true; the input reads as it did. -/
def admitHoldsUptoRow : OpenClaim := { program := "ytclebnamhpgdmaa", sum := "0ea0ac008989c5b4915bfb5322f6dee104a935eee65d349eb183ce2ae9e76d02", func := "swingbridge/swingbridgelaw18.AdmitHolds", spec := "admitHolds", unfollowed := true, recurses := true, apart := false, narrowed := true }
def AdmitHoldsUptoSaid : Prop := admitHoldsUptoRow.holds Try.pinned (OpenSpec.upto admitHoldsSpec)

/-- 'swingbridgelaw18.AdmitTurns', WHERE WHAT IT READS IS OF BULK AT MOST 1048576: true; the input reads as it did. -/
def admitTurnsUptoRow : OpenClaim := { program := "ytclebnamhpgdmaa", sum := "0ea0ac008989c5b4915bfb5322f6dee104a935eee65d349eb183ce2ae9e76d02", func := "swingbridge/swingbridgelaw18.AdmitTurns", spec := "admitTurns", unfollowed := true, recurses := true, apart := false, narrowed := true }
def AdmitTurnsUptoSaid : Prop := admitTurnsUptoRow.holds Try.pinned (OpenSpec.upto admitTurnsSpec)

/-- 'swingbridgelaw18.AdmitSlack', WHERE WHAT IT READS IS OF BULK AT MOST 1048576: true; the input reads as it did. -/
def admitSlackUptoRow : OpenClaim := { program := "ytclebnamhpgdmaa", sum := "0ea0ac008989c5b4915bfb5322f6dee104a935eee65d349eb183ce2ae9e76d02", func := "swingbridge/swingbridgelaw18.AdmitSlack", spec := "admitSlack", unfollowed := true, recurses := true, apart := false, narrowed := true }
def AdmitSlackUptoSaid : Prop := admitSlackUptoRow.holds Try.pinned (OpenSpec.upto admitSlackSpec)

/-- 'swingbridgelaw18.AdmitAlone', WHERE WHAT IT READS IS OF BULK AT MOST 1048576: true; the input reads as it did. -/
def admitAloneUptoRow : OpenClaim := { program := "ytclebnamhpgdmaa", sum := "0ea0ac008989c5b4915bfb5322f6dee104a935eee65d349eb183ce2ae9e76d02", func := "swingbridge/swingbridgelaw18.AdmitAlone", spec := "admitAlone", unfollowed := true, recurses := true, apart := false, narrowed := true }
def AdmitAloneUptoSaid : Prop := admitAloneUptoRow.holds Try.pinned (OpenSpec.upto admitAloneSpec)

/-- 'swingbridgelaw18.AdmitTwo', WHERE WHAT IT READS IS OF BULK AT MOST 1048576: true; the input reads as it did. -/
def admitTwoUptoRow : OpenClaim := { program := "ytclebnamhpgdmaa", sum := "0ea0ac008989c5b4915bfb5322f6dee104a935eee65d349eb183ce2ae9e76d02", func := "swingbridge/swingbridgelaw18.AdmitTwo", spec := "admitTwo", unfollowed := true, recurses := true, apart := false, narrowed := true }
def AdmitTwoUptoSaid : Prop := admitTwoUptoRow.holds Try.pinned (OpenSpec.upto admitTwoSpec)

/-- 'swingbridgelaw18.AdmitReference', WHERE WHAT IT READS IS OF BULK AT MOST 1048576: true; the input reads as it did. -/
def admitReferenceUptoRow : OpenClaim := { program := "ytclebnamhpgdmaa", sum := "0ea0ac008989c5b4915bfb5322f6dee104a935eee65d349eb183ce2ae9e76d02", func := "swingbridge/swingbridgelaw18.AdmitReference", spec := "admitReference", unfollowed := true, recurses := true, apart := false, narrowed := true }
def AdmitReferenceUptoSaid : Prop := admitReferenceUptoRow.holds Try.pinned (OpenSpec.upto admitReferenceSpec)

end Rows
end Go.Proofs.Ytclebnamhpgdmaa
