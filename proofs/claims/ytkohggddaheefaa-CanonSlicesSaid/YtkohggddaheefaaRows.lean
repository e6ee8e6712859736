/-
  No cell of these rows narrows 'for every input' (looked for: loops, veiled, ifaces, maps, wideKeys, modest, calm, conditions, laid).
  DERIVED. THE GIVEN ROWS OF THIS SEAT. 12 by the template 'for every input the law returns true; each argument reads behind the call as it read before'; 0 by the template 'total and deterministic' (their statements: YtkohggddaheefaaTotals.lean).
  GIVEN WITH THE SEED: the statements are not yours to turn. If you find one false, say at which input.
  Laid BY PROGRAM, IN A SANDBOX (cutbox-rows.mjs): the forced cells as the released guide's own fill.sh prints them over the translation d27da5581b769d62… (all of the seat's roots in one cut). By AI agents, Wed Nov 11 2026. No macro, syntax, notation, axiom, sorry.
-/
import Derived.Test.YtkohggddaheefaaChecked
import GoSem.Claim
import GoSem.ClaimJoined
import GoSem.ClaimMapViews
import Derived.JoinedTies
import Derived.KernelRfl
namespace Go.Proofs.Ytkohggddaheefaa
/- THE CELL 'sum', in the pinned program and in every row, IS THE sha256 OF THE DUMP (.gsa) THAT YtkohggddaheefaaProg.lean LOADS. Nothing in Lean hashes anything: it is a label: what it is worth is what the hold of that sum in a sandbox is worth. -/
noncomputable def Try.pinned : Pinned := { name := "ytkohggddaheefaa", sum := "d27da5581b769d62c4b4ee0753d492973cfc36fd69008e3698575328dfda2f9f", checked := Try.checked }
namespace Rows
def none {H : Type} : Left H := { results := [], args := [] }

/-- 'swingbridgelaw8.TaskTells': WHATEVER THE INPUT: true; the input reads as it did. -/
def taskTellsSpec : ChangeSpec := { name := "taskTells", fn := fun _ => fun
  | [d1, d2] => { results := [.lit (.bool true)], args := [d1, d2] }
  | _ => none }
def taskTellsRow : OpenClaim := { program := "ytkohggddaheefaa", sum := "d27da5581b769d62c4b4ee0753d492973cfc36fd69008e3698575328dfda2f9f", func := "swingbridge/swingbridgelaw8.TaskTells", spec := "taskTells", unfollowed := true, recurses := true, apart := false }
def TaskTellsSaid : Prop := taskTellsRow.holds Try.pinned (OpenSpec.ofChange taskTellsSpec)

/-- ITS FALSE NEIGHBOUR: 'it returns false'. Refute it at one input. -/
def taskTellsWrong : ChangeSpec := { name := "taskTells", fn := fun _ => fun
  | [d1, d2] => { results := [.lit (.bool false)], args := [d1, d2] }
  | _ => none }
def TaskTellsWrongFalsely : Prop := taskTellsRow.holds Try.pinned (OpenSpec.ofChange taskTellsWrong)

/-- 'swingbridgelaw8.TaskSpoils': WHATEVER THE INPUT: true; the input reads as it did. -/
def taskSpoilsSpec : ChangeSpec := { name := "taskSpoils", fn := fun _ => fun
  | [d1, d2, d3] => { results := [.lit (.bool true)], args := [d1, d2, d3] }
  | _ => none }
def taskSpoilsRow : OpenClaim := { program := "ytkohggddaheefaa", sum := "d27da5581b769d62c4b4ee0753d492973cfc36fd69008e3698575328dfda2f9f", func := "swingbridge/swingbridgelaw8.TaskSpoils", spec := "taskSpoils", unfollowed := true, recurses := true, apart := false }
def TaskSpoilsSaid : Prop := taskSpoilsRow.holds Try.pinned (OpenSpec.ofChange taskSpoilsSpec)

/-- ITS FALSE NEIGHBOUR: 'it returns false'. Refute it at one input. -/
def taskSpoilsWrong : ChangeSpec := { name := "taskSpoils", fn := fun _ => fun
  | [d1, d2, d3] => { results := [.lit (.bool false)], args := [d1, d2, d3] }
  | _ => none }
def TaskSpoilsWrongFalsely : Prop := taskSpoilsRow.holds Try.pinned (OpenSpec.ofChange taskSpoilsWrong)

/-- 'swingbridgelaw8.TaskTwice': WHATEVER THE INPUT: true; the input reads as it did. -/
def taskTwiceSpec : ChangeSpec := { name := "taskTwice", fn := fun _ => fun
  | [d1, d2, d3, d4] => { results := [.lit (.bool true)], args := [d1, d2, d3, d4] }
  | _ => none }
def taskTwiceRow : OpenClaim := { program := "ytkohggddaheefaa", sum := "d27da5581b769d62c4b4ee0753d492973cfc36fd69008e3698575328dfda2f9f", func := "swingbridge/swingbridgelaw8.TaskTwice", spec := "taskTwice", unfollowed := true, recurses := true, apart := false }
def TaskTwiceSaid : Prop := taskTwiceRow.holds Try.pinned (OpenSpec.ofChange taskTwiceSpec)

/-- ITS FALSE NEIGHBOUR: 'it returns false'. Refute it at one input. -/
def taskTwiceWrong : ChangeSpec := { name := "taskTwice", fn := fun _ => fun
  | [d1, d2, d3, d4] => { results := [.lit (.bool false)], args := [d1, d2, d3, d4] }
  | _ => none }
def TaskTwiceWrongFalsely : Prop := taskTwiceRow.holds Try.pinned (OpenSpec.ofChange taskTwiceWrong)

/-- 'swingbridgelaw8.TaskLimits': WHATEVER THE INPUT: true; the input reads as it did. -/
def taskLimitsSpec : ChangeSpec := { name := "taskLimits", fn := fun _ => fun
  | [d1, d2, d3, d4, d5] => { results := [.lit (.bool true)], args := [d1, d2, d3, d4, d5] }
  | _ => none }
def taskLimitsRow : OpenClaim := { program := "ytkohggddaheefaa", sum := "d27da5581b769d62c4b4ee0753d492973cfc36fd69008e3698575328dfda2f9f", func := "swingbridge/swingbridgelaw8.TaskLimits", spec := "taskLimits", unfollowed := true, recurses := true, apart := false }
def TaskLimitsSaid : Prop := taskLimitsRow.holds Try.pinned (OpenSpec.ofChange taskLimitsSpec)

/-- ITS FALSE NEIGHBOUR: 'it returns false'. Refute it at one input. -/
def taskLimitsWrong : ChangeSpec := { name := "taskLimits", fn := fun _ => fun
  | [d1, d2, d3, d4, d5] => { results := [.lit (.bool false)], args := [d1, d2, d3, d4, d5] }
  | _ => none }
def TaskLimitsWrongFalsely : Prop := taskLimitsRow.holds Try.pinned (OpenSpec.ofChange taskLimitsWrong)

/-- 'swingbridgelaw11.DemandParts': WHATEVER THE INPUT: true; the input reads as it did. -/
def demandPartsSpec : ChangeSpec := { name := "demandParts", fn := fun _ => fun
  | [d] => { results := [.lit (.bool true)], args := [d] }
  | _ => none }
def demandPartsRow : OpenClaim := { program := "ytkohggddaheefaa", sum := "d27da5581b769d62c4b4ee0753d492973cfc36fd69008e3698575328dfda2f9f", func := "swingbridge/swingbridgelaw11.DemandParts", spec := "demandParts", unfollowed := true, recurses := true, apart := false }
def DemandPartsSaid : Prop := demandPartsRow.holds Try.pinned (OpenSpec.ofChange demandPartsSpec)

/-- ITS FALSE NEIGHBOUR: 'it returns false'. Refute it at one input. -/
def demandPartsWrong : ChangeSpec := { name := "demandParts", fn := fun _ => fun
  | [d] => { results := [.lit (.bool false)], args := [d] }
  | _ => none }
def DemandPartsWrongFalsely : Prop := demandPartsRow.holds Try.pinned (OpenSpec.ofChange demandPartsWrong)

/-- 'swingbridgelaw11.DemandLocks': WHATEVER THE INPUT: true; the input reads as it did. -/
def demandLocksSpec : ChangeSpec := { name := "demandLocks", fn := fun _ => fun
  | [d1, d2, d3, d4] => { results := [.lit (.bool true)], args := [d1, d2, d3, d4] }
  | _ => none }
def demandLocksRow : OpenClaim := { program := "ytkohggddaheefaa", sum := "d27da5581b769d62c4b4ee0753d492973cfc36fd69008e3698575328dfda2f9f", func := "swingbridge/swingbridgelaw11.DemandLocks", spec := "demandLocks", unfollowed := true, recurses := true, apart := false }
def DemandLocksSaid : Prop := demandLocksRow.holds Try.pinned (OpenSpec.ofChange demandLocksSpec)

/-- ITS FALSE NEIGHBOUR: 'it returns false'. Refute it at one input. -/
def demandLocksWrong : ChangeSpec := { name := "demandLocks", fn := fun _ => fun
  | [d1, d2, d3, d4] => { results := [.lit (.bool false)], args := [d1, d2, d3, d4] }
  | _ => none }
def DemandLocksWrongFalsely : Prop := demandLocksRow.holds Try.pinned (OpenSpec.ofChange demandLocksWrong)

/-- 'swingbridgelaw22.TurnTells': WHATEVER THE INPUT: true; the input reads as it did. -/
def turnTellsSpec : ChangeSpec := { name := "turnTells", fn := fun _ => fun
  | [d1, d2, d3, d4] => { results := [.lit (.bool true)], args := [d1, d2, d3, d4] }
  | _ => none }
def turnTellsRow : OpenClaim := { program := "ytkohggddaheefaa", sum := "d27da5581b769d62c4b4ee0753d492973cfc36fd69008e3698575328dfda2f9f", func := "swingbridge/swingbridgelaw22.TurnTells", spec := "turnTells", unfollowed := true, recurses := true, apart := false }
def TurnTellsSaid : Prop := turnTellsRow.holds Try.pinned (OpenSpec.ofChange turnTellsSpec)

/-- ITS FALSE NEIGHBOUR: 'it returns false'. Refute it at one input. -/
def turnTellsWrong : ChangeSpec := { name := "turnTells", fn := fun _ => fun
  | [d1, d2, d3, d4] => { results := [.lit (.bool false)], args := [d1, d2, d3, d4] }
  | _ => none }
def TurnTellsWrongFalsely : Prop := turnTellsRow.holds Try.pinned (OpenSpec.ofChange turnTellsWrong)

/-- 'swingbridgelaw22.TurnOrder': WHATEVER THE INPUT: true; the input reads as it did. -/
def turnOrderSpec : ChangeSpec := { name := "turnOrder", fn := fun _ => fun
  | [d1, d2, d3, d4, d5] => { results := [.lit (.bool true)], args := [d1, d2, d3, d4, d5] }
  | _ => none }
def turnOrderRow : OpenClaim := { program := "ytkohggddaheefaa", sum := "d27da5581b769d62c4b4ee0753d492973cfc36fd69008e3698575328dfda2f9f", func := "swingbridge/swingbridgelaw22.TurnOrder", spec := "turnOrder", unfollowed := true, recurses := true, apart := false }
def TurnOrderSaid : Prop := turnOrderRow.holds Try.pinned (OpenSpec.ofChange turnOrderSpec)

/-- ITS FALSE NEIGHBOUR: 'it returns false'. Refute it at one input. -/
def turnOrderWrong : ChangeSpec := { name := "turnOrder", fn := fun _ => fun
  | [d1, d2, d3, d4, d5] => { results := [.lit (.bool false)], args := [d1, d2, d3, d4, d5] }
  | _ => none }
def TurnOrderWrongFalsely : Prop := turnOrderRow.holds Try.pinned (OpenSpec.ofChange turnOrderWrong)

/-- 'swingbridgelaw22.TurnBoosts': WHATEVER THE INPUT: true; the input reads as it did. -/
def turnBoostsSpec : ChangeSpec := { name := "turnBoosts", fn := fun _ => fun
  | [d1, d2, d3] => { results := [.lit (.bool true)], args := [d1, d2, d3] }
  | _ => none }
def turnBoostsRow : OpenClaim := { program := "ytkohggddaheefaa", sum := "d27da5581b769d62c4b4ee0753d492973cfc36fd69008e3698575328dfda2f9f", func := "swingbridge/swingbridgelaw22.TurnBoosts", spec := "turnBoosts", unfollowed := true, recurses := true, apart := false }
def TurnBoostsSaid : Prop := turnBoostsRow.holds Try.pinned (OpenSpec.ofChange turnBoostsSpec)

/-- ITS FALSE NEIGHBOUR: 'it returns false'. Refute it at one input. -/
def turnBoostsWrong : ChangeSpec := { name := "turnBoosts", fn := fun _ => fun
  | [d1, d2, d3] => { results := [.lit (.bool false)], args := [d1, d2, d3] }
  | _ => none }
def TurnBoostsWrongFalsely : Prop := turnBoostsRow.holds Try.pinned (OpenSpec.ofChange turnBoostsWrong)

/-- 'swingbridgelaw10.CanonTells': WHATEVER THE INPUT: true; the input reads as it did. -/
def canonTellsSpec : ChangeSpec := { name := "canonTells", fn := fun _ => fun
  | [d1, d2] => { results := [.lit (.bool true)], args := [d1, d2] }
  | _ => none }
def canonTellsRow : OpenClaim := { program := "ytkohggddaheefaa", sum := "d27da5581b769d62c4b4ee0753d492973cfc36fd69008e3698575328dfda2f9f", func := "swingbridge/swingbridgelaw10.CanonTells", spec := "canonTells", unfollowed := true, recurses := true, apart := false }
def CanonTellsSaid : Prop := canonTellsRow.holds Try.pinned (OpenSpec.ofChange canonTellsSpec)

/-- ITS FALSE NEIGHBOUR: 'it returns false'. Refute it at one input. -/
def canonTellsWrong : ChangeSpec := { name := "canonTells", fn := fun _ => fun
  | [d1, d2] => { results := [.lit (.bool false)], args := [d1, d2] }
  | _ => none }
def CanonTellsWrongFalsely : Prop := canonTellsRow.holds Try.pinned (OpenSpec.ofChange canonTellsWrong)

/-- 'swingbridgelaw10.CanonOne': WHATEVER THE INPUT: true; the input reads as it did. -/
def canonOneSpec : ChangeSpec := { name := "canonOne", fn := fun _ => fun
  | [d1, d2] => { results := [.lit (.bool true)], args := [d1, d2] }
  | _ => none }
def canonOneRow : OpenClaim := { program := "ytkohggddaheefaa", sum := "d27da5581b769d62c4b4ee0753d492973cfc36fd69008e3698575328dfda2f9f", func := "swingbridge/swingbridgelaw10.CanonOne", spec := "canonOne", unfollowed := true, recurses := true, apart := false }
def CanonOneSaid : Prop := canonOneRow.holds Try.pinned (OpenSpec.ofChange canonOneSpec)

/-- ITS FALSE NEIGHBOUR: 'it returns false'. Refute it at one input. -/
def canonOneWrong : ChangeSpec := { name := "canonOne", fn := fun _ => fun
  | [d1, d2] => { results := [.lit (.bool false)], args := [d1, d2] }
  | _ => none }
def CanonOneWrongFalsely : Prop := canonOneRow.holds Try.pinned (OpenSpec.ofChange canonOneWrong)

/-- 'swingbridgelaw10.CanonSlices': WHATEVER THE INPUT: true; the input reads as it did. -/
def canonSlicesSpec : ChangeSpec := { name := "canonSlices", fn := fun _ => fun
  | [d1, d2] => { results := [.lit (.bool true)], args := [d1, d2] }
  | _ => none }
def canonSlicesRow : OpenClaim := { program := "ytkohggddaheefaa", sum := "d27da5581b769d62c4b4ee0753d492973cfc36fd69008e3698575328dfda2f9f", func := "swingbridge/swingbridgelaw10.CanonSlices", spec := "canonSlices", unfollowed := true, recurses := true, apart := false }
def CanonSlicesSaid : Prop := canonSlicesRow.holds Try.pinned (OpenSpec.ofChange canonSlicesSpec)

/-- ITS FALSE NEIGHBOUR: 'it returns false'. Refute it at one input. -/
def canonSlicesWrong : ChangeSpec := { name := "canonSlices", fn := fun _ => fun
  | [d1, d2] => { results := [.lit (.bool false)], args := [d1, d2] }
  | _ => none }
def CanonSlicesWrongFalsely : Prop := canonSlicesRow.holds Try.pinned (OpenSpec.ofChange canonSlicesWrong)

/- THE SECOND FORM. 'bulk': how many values and letters a reading holds, each counted each time it is reached (what is shared counts as often as it is met; a slice's spare places count too). A statement '..UptoSaid' is the law's where the arguments, and the package variables that the reading takes, are together of bulk at most 1048576: NARROWER than '..Said'. Prove '..Said' where nothing that the law and all that it calls make is longer than what came in: it says more and counts as full. Else prove '..UptoSaid'. A law counts once. -/
mutual
def uptoBulk {H : Type} : DataW H → Nat
  | .lit (.string bytes) => bytes.length + 1
  | .lit _ => 1
  | .nil => 1
  | .ptr d => uptoBulk d + 1
  | .slice elems spare => uptoBulkAll elems + uptoBulkAll spare + 1
  | .agg parts => uptoBulkAll parts + 1
  | .iface _ d => uptoBulk d + 1
  | .map entries => uptoBulkEntries entries + 1
  | .held _ => 1
def uptoBulkAll {H : Type} : List (DataW H) → Nat
  | [] => 0
  | d :: r => uptoBulk d + uptoBulkAll r
def uptoBulkEntries {H : Type} : List (Lit × DataW H) → Nat
  | [] => 0
  | x :: r => uptoBulkEntry x + uptoBulkEntries r
def uptoBulkEntry {H : Type} : Lit × DataW H → Nat
  | (.string bytes, d) => bytes.length + uptoBulk d + 1
  | (_, d) => uptoBulk d + 1
 end
def uptoSmall : (H : Type) → List (DataW H) → Bool := fun _ ds => decide (uptoBulkAll ds ≤ 1048576)
def OpenSpec.upto (s : _root_.Go.ChangeSpec) : _root_.Go.OpenSpec := { _root_.Go.OpenSpec.ofChange s with cond := some uptoSmall }

/-- 'swingbridgelaw8.TaskTells', WHERE WHAT IT READS IS OF BULK AT MOST 1048576: true; the input reads as it did. -/
def taskTellsUptoRow : OpenClaim := { program := "ytkohggddaheefaa", sum := "d27da5581b769d62c4b4ee0753d492973cfc36fd69008e3698575328dfda2f9f", func := "swingbridge/swingbridgelaw8.TaskTells", spec := "taskTells", unfollowed := true, recurses := true, apart := false, narrowed := true }
def TaskTellsUptoSaid : Prop := taskTellsUptoRow.holds Try.pinned (OpenSpec.upto taskTellsSpec)

/-- 'swingbridgelaw8.TaskSpoils', WHERE WHAT IT READS IS OF BULK AT MOST 1048576: true; the input reads as it did. -/
def taskSpoilsUptoRow : OpenClaim := { program := "ytkohggddaheefaa", sum := "d27da5581b769d62c4b4ee0753d492973cfc36fd69008e3698575328dfda2f9f", func := "swingbridge/swingbridgelaw8.TaskSpoils", spec := "taskSpoils", unfollowed := true, recurses := true, apart := false, narrowed := true }
def TaskSpoilsUptoSaid : Prop := taskSpoilsUptoRow.holds Try.pinned (OpenSpec.upto taskSpoilsSpec)

/-- 'swingbridgelaw8.TaskTwice', WHERE WHAT IT READS IS OF BULK AT MOST 1048576: true; the input reads as it did. -/
def taskTwiceUptoRow : OpenClaim := { program := "ytkohggddaheefaa", sum := "d27da5581b769d62c4b4ee0753d492973cfc36fd69008e3698575328dfda2f9f", func := "swingbridge/swingbridgelaw8.TaskTwice", spec := "taskTwice", unfollowed := true, recurses := true, apart := false, narrowed := true }
def TaskTwiceUptoSaid : Prop := taskTwiceUptoRow.holds Try.pinned (OpenSpec.upto taskTwiceSpec)

/-- 'swingbridgelaw8.TaskLimits', WHERE WHAT IT READS IS OF BULK AT MOST 1048576: true; the input reads as it did. -/
def taskLimitsUptoRow : OpenClaim := { program := "ytkohggddaheefaa", sum := "d27da5581b769d62c4b4ee0753d492973cfc36fd69008e3698575328dfda2f9f", func := "swingbridge/swingbridgelaw8.TaskLimits", spec := "taskLimits", unfollowed := true, recurses := true, apart := false, narrowed := true }
def TaskLimitsUptoSaid : Prop := taskLimitsUptoRow.holds Try.pinned (OpenSpec.upto taskLimitsSpec)

/-- 'swingbridgelaw11.DemandParts', WHERE WHAT IT READS IS OF BULK AT MOST 1048576: true; the input reads as it did. -/
def demandPartsUptoRow : OpenClaim := { program := "ytkohggddaheefaa", sum := "d27da5581b769d62c4b4ee0753d492973cfc36fd69008e3698575328dfda2f9f", func := "swingbridge/swingbridgelaw11.DemandParts", spec := "demandParts", unfollowed := true, recurses := true, apart := false, narrowed := true }
def DemandPartsUptoSaid : Prop := demandPartsUptoRow.holds Try.pinned (OpenSpec.upto demandPartsSpec)

/-- 'swingbridgelaw11.DemandLocks', WHERE WHAT IT READS IS OF BULK AT MOST 1048576: true; the input reads as it did. -/
def demandLocksUptoRow : OpenClaim := { program := "ytkohggddaheefaa", sum := "d27da5581b769d62c4b4ee0753d492973cfc36fd69008e3698575328dfda2f9f", func := "swingbridge/swingbridgelaw11.DemandLocks", spec := "demandLocks", unfollowed := true, recurses := true, apart := false, narrowed := true }
def DemandLocksUptoSaid : Prop := demandLocksUptoRow.holds Try.pinned (OpenSpec.upto demandLocksSpec)

/-- 'swingbridgelaw22.TurnTells', WHERE WHAT IT READS IS OF BULK AT MOST 1048576: true; the input reads as it did. -/
def turnTellsUptoRow : OpenClaim := { program := "ytkohggddaheefaa", sum := "d27da5581b769d62c4b4ee0753d492973cfc36fd69008e3698575328dfda2f9f", func := "swingbridge/swingbridgelaw22.TurnTells", spec := "turnTells", unfollowed := true, recurses := true, apart := false, narrowed := true }
def TurnTellsUptoSaid : Prop := turnTellsUptoRow.holds Try.pinned (OpenSpec.upto turnTellsSpec)

/-- 'swingbridgelaw22.TurnOrder', WHERE WHAT IT READS IS OF BULK AT MOST 1048576: true; the input reads as it did. -/
def turnOrderUptoRow : OpenClaim := { program := "ytkohggddaheefaa", sum := "d27da5581b769d62c4b4ee0753d492973cfc36fd69008e3698575328dfda2f9f", func := "swingbridge/swingbridgelaw22.TurnOrder", spec := "turnOrder", unfollowed := true, recurses := true, apart := false, narrowed := true }
def TurnOrderUptoSaid : Prop := turnOrderUptoRow.holds Try.pinned (OpenSpec.upto turnOrderSpec)

/-- 'swingbridgelaw22.TurnBoosts', WHERE WHAT IT READS IS OF BULK AT MOST 1048576: true; the input reads as it did. -/
def turnBoostsUptoRow : OpenClaim := { program := "ytkohggddaheefaa", sum := "d27da5581b769d62c4b4ee0753d492973cfc36fd69008e3698575328dfda2f9f", func := "swingbridge/swingbridgelaw22.TurnBoosts", spec := "turnBoosts", unfollowed := true, recurses := true, apart := false, narrowed := true }
def TurnBoostsUptoSaid : Prop := turnBoostsUptoRow.holds Try.pinned (OpenSpec.upto turnBoostsSpec)

/-- 'swingbridgelaw10.CanonTells', WHERE WHAT IT READS IS OF BULK AT MOST 1048576: true; the input reads as it did. -/
def canonTellsUptoRow : OpenClaim := { program := "ytkohggddaheefaa", sum := "d27da5581b769d62c4b4ee0753d492973cfc36fd69008e3698575328dfda2f9f", func := "swingbridge/swingbridgelaw10.CanonTells", spec := "canonTells", unfollowed := true, recurses := true, apart := false, narrowed := true }
def CanonTellsUptoSaid : Prop := canonTellsUptoRow.holds Try.pinned (OpenSpec.upto canonTellsSpec)

/-- 'swingbridgelaw10.CanonOne', WHERE WHAT IT READS IS OF BULK AT MOST 1048576: true; the input reads as it did. -/
def canonOneUptoRow : OpenClaim := { program := "ytkohggddaheefaa", sum := "d27da5581b769d62c4b4ee0753d492973cfc36fd69008e3698575328dfda2f9f", func := "swingbridge/swingbridgelaw10.CanonOne", spec := "canonOne", unfollowed := true, recurses := true, apart := false, narrowed := true }
def CanonOneUptoSaid : Prop := canonOneUptoRow.holds Try.pinned (OpenSpec.upto canonOneSpec)

/-- 'swingbridgelaw10.CanonSlices', WHERE WHAT IT READS IS OF BULK AT MOST 1048576: true; the input reads as it did. -/
def canonSlicesUptoRow : OpenClaim := { program := "ytkohggddaheefaa", sum := "d27da5581b769d62c4b4ee0753d492973cfc36fd69008e3698575328dfda2f9f", func := "swingbridge/swingbridgelaw10.CanonSlices", spec := "canonSlices", unfollowed := true, recurses := true, apart := false, narrowed := true }
def CanonSlicesUptoSaid : Prop := canonSlicesUptoRow.holds Try.pinned (OpenSpec.upto canonSlicesSpec)

end Rows
end Go.Proofs.Ytkohggddaheefaa
