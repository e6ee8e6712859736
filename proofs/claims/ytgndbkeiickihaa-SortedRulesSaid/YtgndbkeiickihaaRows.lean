/-
  No cell of these rows narrows 'for every input' (looked for: loops, veiled, ifaces, maps, wideKeys, modest, calm, conditions, laid).
  DERIVED. THE GIVEN ROWS OF THIS SEAT. 7 by the template 'for every input the law returns true; each argument reads behind the call as it read before'; 0 by the template 'total and deterministic' (their statements: YtgndbkeiickihaaTotals.lean).
  GIVEN WITH THE SEED: the statements are not yours to turn. If you find one false, say at which input.
  Laid BY PROGRAM, IN A SANDBOX (cutbox-rows.mjs): the forced cells as the released guide's own fill.sh prints them over the translation af16e8f20f27f572… (all of the seat's roots in one cut). By AI agents, Wed Nov 11 2026. No macro, syntax, notation, axiom, sorry.
-/
import Derived.Test.YtgndbkeiickihaaChecked
import GoSem.Claim
import GoSem.ClaimJoined
import GoSem.ClaimMapViews
import Derived.JoinedTies
import Derived.KernelRfl
namespace Go.Proofs.Ytgndbkeiickihaa
/- THE CELL 'sum', in the pinned program and in every row, IS THE sha256 OF THE DUMP (.gsa) THAT YtgndbkeiickihaaProg.lean LOADS. Nothing in Lean hashes anything: it is a label: what it is worth is what the hold of that sum in a sandbox is worth. -/
noncomputable def Try.pinned : Pinned := { name := "ytgndbkeiickihaa", sum := "af16e8f20f27f572caaad62b7ccd7467463fdd45a49dcdea21df829cea3b81fd", checked := Try.checked }
namespace Rows
def none {H : Type} : Left H := { results := [], args := [] }

/-- 'swingbridgelaw2.SortedTells': WHATEVER THE INPUT: true; the input reads as it did. -/
def sortedTellsSpec : ChangeSpec := { name := "sortedTells", fn := fun _ => fun
  | [d1, d2, d3, d4] => { results := [.lit (.bool true)], args := [d1, d2, d3, d4] }
  | _ => none }
def sortedTellsRow : OpenClaim := { program := "ytgndbkeiickihaa", sum := "af16e8f20f27f572caaad62b7ccd7467463fdd45a49dcdea21df829cea3b81fd", func := "swingbridge/swingbridgelaw2.SortedTells", spec := "sortedTells", inPlace := ["slices.overlaps[swingbridge/api.Item]"], unfollowed := true, recurses := true, apart := false }
def SortedTellsSaid : Prop := sortedTellsRow.holds Try.pinned (OpenSpec.ofChange sortedTellsSpec)

/-- ITS FALSE NEIGHBOUR: 'it returns false'. Refute it at one input. -/
def sortedTellsWrong : ChangeSpec := { name := "sortedTells", fn := fun _ => fun
  | [d1, d2, d3, d4] => { results := [.lit (.bool false)], args := [d1, d2, d3, d4] }
  | _ => none }
def SortedTellsWrongFalsely : Prop := sortedTellsRow.holds Try.pinned (OpenSpec.ofChange sortedTellsWrong)

/-- 'swingbridgelaw2.SortedRules': WHATEVER THE INPUT: true; the input reads as it did. -/
def sortedRulesSpec : ChangeSpec := { name := "sortedRules", fn := fun _ => fun
  | [d] => { results := [.lit (.bool true)], args := [d] }
  | _ => none }
def sortedRulesRow : OpenClaim := { program := "ytgndbkeiickihaa", sum := "af16e8f20f27f572caaad62b7ccd7467463fdd45a49dcdea21df829cea3b81fd", func := "swingbridge/swingbridgelaw2.SortedRules", spec := "sortedRules", inPlace := ["slices.overlaps[swingbridge/api.Item]"], unfollowed := true, recurses := true, apart := false }
def SortedRulesSaid : Prop := sortedRulesRow.holds Try.pinned (OpenSpec.ofChange sortedRulesSpec)

/-- ITS FALSE NEIGHBOUR: 'it returns false'. Refute it at one input. -/
def sortedRulesWrong : ChangeSpec := { name := "sortedRules", fn := fun _ => fun
  | [d] => { results := [.lit (.bool false)], args := [d] }
  | _ => none }
def SortedRulesWrongFalsely : Prop := sortedRulesRow.holds Try.pinned (OpenSpec.ofChange sortedRulesWrong)

/-- 'swingbridgelaw2.SortedTops': WHATEVER THE INPUT: true; the input reads as it did. -/
def sortedTopsSpec : ChangeSpec := { name := "sortedTops", fn := fun _ => fun
  | [d1, d2] => { results := [.lit (.bool true)], args := [d1, d2] }
  | _ => none }
def sortedTopsRow : OpenClaim := { program := "ytgndbkeiickihaa", sum := "af16e8f20f27f572caaad62b7ccd7467463fdd45a49dcdea21df829cea3b81fd", func := "swingbridge/swingbridgelaw2.SortedTops", spec := "sortedTops", inPlace := ["slices.overlaps[swingbridge/api.Item]"], unfollowed := true, recurses := true, apart := false }
def SortedTopsSaid : Prop := sortedTopsRow.holds Try.pinned (OpenSpec.ofChange sortedTopsSpec)

/-- ITS FALSE NEIGHBOUR: 'it returns false'. Refute it at one input. -/
def sortedTopsWrong : ChangeSpec := { name := "sortedTops", fn := fun _ => fun
  | [d1, d2] => { results := [.lit (.bool false)], args := [d1, d2] }
  | _ => none }
def SortedTopsWrongFalsely : Prop := sortedTopsRow.holds Try.pinned (OpenSpec.ofChange sortedTopsWrong)

/-- 'swingbridgelaw2.SortedOnes': WHATEVER THE INPUT: true; the input reads as it did. -/
def sortedOnesSpec : ChangeSpec := { name := "sortedOnes", fn := fun _ => fun
  | [d] => { results := [.lit (.bool true)], args := [d] }
  | _ => none }
def sortedOnesRow : OpenClaim := { program := "ytgndbkeiickihaa", sum := "af16e8f20f27f572caaad62b7ccd7467463fdd45a49dcdea21df829cea3b81fd", func := "swingbridge/swingbridgelaw2.SortedOnes", spec := "sortedOnes", inPlace := ["slices.overlaps[swingbridge/api.Item]"], unfollowed := true, recurses := true, apart := false }
def SortedOnesSaid : Prop := sortedOnesRow.holds Try.pinned (OpenSpec.ofChange sortedOnesSpec)

/-- ITS FALSE NEIGHBOUR: 'it returns false'. Refute it at one input. -/
def sortedOnesWrong : ChangeSpec := { name := "sortedOnes", fn := fun _ => fun
  | [d] => { results := [.lit (.bool false)], args := [d] }
  | _ => none }
def SortedOnesWrongFalsely : Prop := sortedOnesRow.holds Try.pinned (OpenSpec.ofChange sortedOnesWrong)

/-- 'swingbridgelaw2.SortedSums': WHATEVER THE INPUT: true; the input reads as it did. -/
def sortedSumsSpec : ChangeSpec := { name := "sortedSums", fn := fun _ => fun
  | [d1, d2, d3] => { results := [.lit (.bool true)], args := [d1, d2, d3] }
  | _ => none }
def sortedSumsRow : OpenClaim := { program := "ytgndbkeiickihaa", sum := "af16e8f20f27f572caaad62b7ccd7467463fdd45a49dcdea21df829cea3b81fd", func := "swingbridge/swingbridgelaw2.SortedSums", spec := "sortedSums", inPlace := ["slices.overlaps[swingbridge/api.Item]"], unfollowed := true, recurses := true, apart := false }
def SortedSumsSaid : Prop := sortedSumsRow.holds Try.pinned (OpenSpec.ofChange sortedSumsSpec)

/-- ITS FALSE NEIGHBOUR: 'it returns false'. Refute it at one input. -/
def sortedSumsWrong : ChangeSpec := { name := "sortedSums", fn := fun _ => fun
  | [d1, d2, d3] => { results := [.lit (.bool false)], args := [d1, d2, d3] }
  | _ => none }
def SortedSumsWrongFalsely : Prop := sortedSumsRow.holds Try.pinned (OpenSpec.ofChange sortedSumsWrong)

/-- 'swingbridgelaw16.WaitLeast': WHATEVER THE INPUT: true; the input reads as it did. -/
def waitLeastSpec : ChangeSpec := { name := "waitLeast", fn := fun _ => fun
  | [d1, d2, d3, d4, d5] => { results := [.lit (.bool true)], args := [d1, d2, d3, d4, d5] }
  | _ => none }
def waitLeastRow : OpenClaim := { program := "ytgndbkeiickihaa", sum := "af16e8f20f27f572caaad62b7ccd7467463fdd45a49dcdea21df829cea3b81fd", func := "swingbridge/swingbridgelaw16.WaitLeast", spec := "waitLeast", unfollowed := true, recurses := true, apart := false }
def WaitLeastSaid : Prop := waitLeastRow.holds Try.pinned (OpenSpec.ofChange waitLeastSpec)

/-- ITS FALSE NEIGHBOUR: 'it returns false'. Refute it at one input. -/
def waitLeastWrong : ChangeSpec := { name := "waitLeast", fn := fun _ => fun
  | [d1, d2, d3, d4, d5] => { results := [.lit (.bool false)], args := [d1, d2, d3, d4, d5] }
  | _ => none }
def WaitLeastWrongFalsely : Prop := waitLeastRow.holds Try.pinned (OpenSpec.ofChange waitLeastWrong)

/-- 'swingbridgelaw16.WaitProtocols': WHATEVER THE INPUT: true; the input reads as it did. -/
def waitProtocolsSpec : ChangeSpec := { name := "waitProtocols", fn := fun _ => fun
  | [d1, d2, d3] => { results := [.lit (.bool true)], args := [d1, d2, d3] }
  | _ => none }
def waitProtocolsRow : OpenClaim := { program := "ytgndbkeiickihaa", sum := "af16e8f20f27f572caaad62b7ccd7467463fdd45a49dcdea21df829cea3b81fd", func := "swingbridge/swingbridgelaw16.WaitProtocols", spec := "waitProtocols", unfollowed := true, recurses := true, apart := false }
def WaitProtocolsSaid : Prop := waitProtocolsRow.holds Try.pinned (OpenSpec.ofChange waitProtocolsSpec)

/-- ITS FALSE NEIGHBOUR: 'it returns false'. Refute it at one input. -/
def waitProtocolsWrong : ChangeSpec := { name := "waitProtocols", fn := fun _ => fun
  | [d1, d2, d3] => { results := [.lit (.bool false)], args := [d1, d2, d3] }
  | _ => none }
def WaitProtocolsWrongFalsely : Prop := waitProtocolsRow.holds Try.pinned (OpenSpec.ofChange waitProtocolsWrong)

/- THE SECOND FORM. 'bulk': how many values and letters a reading holds, each counted each time it is reached (what is shared counts as often as it is met; a slice's spare places count too). A statement '..UptoSaid' is the law's where the arguments, and the package variables that the reading takes, are together of bulk at most 1048576: NARROWER than '..Said'. Prove '..Said' where nothing that the law and all that it calls make is longer than what came in: it says more and counts as full. Else prove '..UptoSaid'. A law counts once. -/
mutual
def uptoBulk {H : Type} : DataW H → Nat
  | .lit (.string bytes) => bytes.length + 1
  | .lit _ => 1
  | .nil => 1
  | .ptr d => uptoBulk d + 1
  | .slice elems spare => uptoBulkAll elems + uptoBulkAll spare + 1
  | .agg parts => uptoBulkAll parts + 1
  | .iface _ d => uptoBulk d + 1
  | .map entries => uptoBulkEntries entries + 1
  | .held _ => 1
def uptoBulkAll {H : Type} : List (DataW H) → Nat
  | [] => 0
  | d :: r => uptoBulk d + uptoBulkAll r
def uptoBulkEntries {H : Type} : List (Lit × DataW H) → Nat
  | [] => 0
  | x :: r => uptoBulkEntry x + uptoBulkEntries r
def uptoBulkEntry {H : Type} : Lit × DataW H → Nat
  | (.string bytes, d) => bytes.length + uptoBulk d + 1
  | (_, d) => uptoBulk d + 1
 end
def uptoSmall : (H : Type) → List (DataW H) → Bool := fun _ ds => decide (uptoBulkAll ds ≤ 1048576)
def OpenSpec.upto (s : _root_.Go.ChangeSpec) : _root_.Go.OpenSpec := { _root_.Go.OpenSpec.ofChange s with cond := some uptoSmall }

/-- 'swingbridgelaw2.SortedTells', WHERE WHAT IT READS IS OF BULK AT MOST 1048576: true; the input reads as it did. -/
def sortedTellsUptoRow : OpenClaim := { program := "ytgndbkeiickihaa", sum := "af16e8f20f27f572caaad62b7ccd7467463fdd45a49dcdea21df829cea3b81fd", func := "swingbridge/swingbridgelaw2.SortedTells", spec := "sortedTells", inPlace := ["slices.overlaps[swingbridge/api.Item]"], unfollowed := true, recurses := true, apart := false, narrowed := true }
def SortedTellsUptoSaid : Prop := sortedTellsUptoRow.holds Try.pinned (OpenSpec.upto sortedTellsSpec)

/-- 'swingbridgelaw2.SortedRules', WHERE WHAT IT READS IS OF BULK AT MOST 1048576: true; the input reads as it did. -/
def sortedRulesUptoRow : OpenClaim := { program := "ytgndbkeiickihaa", sum := "af16e8f20f27f572caaad62b7ccd7467463fdd45a49dcdea21df829cea3b81fd", func := "swingbridge/swingbridgelaw2.SortedRules", spec := "sortedRules", inPlace := ["slices.overlaps[swingbridge/api.Item]"], unfollowed := true, recurses := true, apart := false, narrowed := true }
def SortedRulesUptoSaid : Prop := sortedRulesUptoRow.holds Try.pinned (OpenSpec.upto sortedRulesSpec)

/-- 'swingbridgelaw2.SortedTops', WHERE WHAT IT READS IS OF BULK AT MOST 1048576: true; the input reads as it did. -/
def sortedTopsUptoRow : OpenClaim := { program := "ytgndbkeiickihaa", sum := "af16e8f20f27f572caaad62b7ccd7467463fdd45a49dcdea21df829cea3b81fd", func := "swingbridge/swingbridgelaw2.SortedTops", spec := "sortedTops", inPlace := ["slices.overlaps[swingbridge/api.Item]"], unfollowed := true, recurses := true, apart := false, narrowed := true }
def SortedTopsUptoSaid : Prop := sortedTopsUptoRow.holds Try.pinned (OpenSpec.upto sortedTopsSpec)

/-- 'swingbridgelaw2.SortedOnes', WHERE WHAT IT READS IS OF BULK AT MOST 1048576: true; the input reads as it did. -/
def sortedOnesUptoRow : OpenClaim := { program := "ytgndbkeiickihaa", sum := "af16e8f20f27f572caaad62b7ccd7467463fdd45a49dcdea21df829cea3b81fd", func := "swingbridge/swingbridgelaw2.SortedOnes", spec := "sortedOnes", inPlace := ["slices.overlaps[swingbridge/api.Item]"], unfollowed := true, recurses := true, apart := false, narrowed := true }
def SortedOnesUptoSaid : Prop := sortedOnesUptoRow.holds Try.pinned (OpenSpec.upto sortedOnesSpec)

/-- 'swingbridgelaw2.SortedSums', WHERE WHAT IT READS IS OF BULK AT MOST 1048576: true; the input reads as it did. -/
def sortedSumsUptoRow : OpenClaim := { program := "ytgndbkeiickihaa", sum := "af16e8f20f27f572caaad62b7ccd7467463fdd45a49dcdea21df829cea3b81fd", func := "swingbridge/swingbridgelaw2.SortedSums", spec := "sortedSums", inPlace := ["slices.overlaps[swingbridge/api.Item]"], unfollowed := true, recurses := true, apart := false, narrowed := true }
def SortedSumsUptoSaid : Prop := sortedSumsUptoRow.holds Try.pinned (OpenSpec.upto sortedSumsSpec)

/-- 'swingbridgelaw16.WaitLeast', WHERE WHAT IT READS IS OF BULK AT MOST 1048576: true; the input reads as it did. -/
def waitLeastUptoRow : OpenClaim := { program := "ytgndbkeiickihaa", sum := "af16e8f20f27f572caaad62b7ccd7467463fdd45a49dcdea21df829cea3b81fd", func := "swingbridge/swingbridgelaw16.WaitLeast", spec := "waitLeast", unfollowed := true, recurses := true, apart := false, narrowed := true }
def WaitLeastUptoSaid : Prop := waitLeastUptoRow.holds Try.pinned (OpenSpec.upto waitLeastSpec)

/-- 'swingbridgelaw16.WaitProtocols', WHERE WHAT IT READS IS OF BULK AT MOST 1048576: true; the input reads as it did. -/
def waitProtocolsUptoRow : OpenClaim := { program := "ytgndbkeiickihaa", sum := "af16e8f20f27f572caaad62b7ccd7467463fdd45a49dcdea21df829cea3b81fd", func := "swingbridge/swingbridgelaw16.WaitProtocols", spec := "waitProtocols", unfollowed := true, recurses := true, apart := false, narrowed := true }
def WaitProtocolsUptoSaid : Prop := waitProtocolsUptoRow.holds Try.pinned (OpenSpec.upto waitProtocolsSpec)

end Rows
end Go.Proofs.Ytgndbkeiickihaa
