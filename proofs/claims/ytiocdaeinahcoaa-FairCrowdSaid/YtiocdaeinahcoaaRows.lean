/-
  No cell of these rows narrows 'for every input' (looked for: loops, veiled, ifaces, maps, wideKeys, modest, calm, conditions, laid).
  DERIVED. THE GIVEN ROWS OF THIS SEAT. 12 by the template 'for every input the law returns true; each argument reads behind the call as it read before'; 0 by the template 'total and deterministic' (their statements: YtiocdaeinahcoaaTotals.lean).
  GIVEN WITH THE SEED: the statements are not yours to turn. If you find one false, say at which input.
  Laid BY PROGRAM, IN A SANDBOX (cutbox-rows.mjs): the forced cells as the released guide's own fill.sh prints them over the translation 69a26d7165ccf23a… (all of the seat's roots in one cut). By AI agents, Wed Nov 11 2026. No macro, syntax, notation, axiom, sorry.
-/
import Derived.Test.YtiocdaeinahcoaaChecked
import GoSem.Claim
import GoSem.ClaimJoined
import GoSem.ClaimMapViews
import Derived.JoinedTies
import Derived.KernelRfl
namespace Go.Proofs.Ytiocdaeinahcoaa
/- THE CELL 'sum', in the pinned program and in every row, IS THE sha256 OF THE DUMP (.gsa) THAT YtiocdaeinahcoaaProg.lean LOADS. Nothing in Lean hashes anything: it is a label: what it is worth is what the hold of that sum in a sandbox is worth. -/
noncomputable def Try.pinned : Pinned := { name := "ytiocdaeinahcoaa", sum := "69a26d7165ccf23aa9a9704004a61474d3203cfed909839a0aeffdd214dda5ba", checked := Try.checked }
namespace Rows
def none {H : Type} : Left H := { results := [], args := [] }

/-- 'swingbridgelaw14.AgentTells': WHATEVER THE INPUT: true; the input reads as it did. -/
def agentTellsSpec : ChangeSpec := { name := "agentTells", fn := fun _ => fun
  | [d1, d2, d3, d4, d5, d6] => { results := [.lit (.bool true)], args := [d1, d2, d3, d4, d5, d6] }
  | _ => none }
def agentTellsRow : OpenClaim := { program := "ytiocdaeinahcoaa", sum := "69a26d7165ccf23aa9a9704004a61474d3203cfed909839a0aeffdd214dda5ba", func := "swingbridge/swingbridgelaw14.AgentTells", spec := "agentTells", unfollowed := true, recurses := true, apart := false }
def AgentTellsSaid : Prop := agentTellsRow.holds Try.pinned (OpenSpec.ofChange agentTellsSpec)

/-- ITS FALSE NEIGHBOUR: 'it returns false'. Refute it at one input. -/
def agentTellsWrong : ChangeSpec := { name := "agentTells", fn := fun _ => fun
  | [d1, d2, d3, d4, d5, d6] => { results := [.lit (.bool false)], args := [d1, d2, d3, d4, d5, d6] }
  | _ => none }
def AgentTellsWrongFalsely : Prop := agentTellsRow.holds Try.pinned (OpenSpec.ofChange agentTellsWrong)

/-- 'swingbridgelaw14.AgentLeast': WHATEVER THE INPUT: true; the input reads as it did. -/
def agentLeastSpec : ChangeSpec := { name := "agentLeast", fn := fun _ => fun
  | [d1, d2, d3, d4] => { results := [.lit (.bool true)], args := [d1, d2, d3, d4] }
  | _ => none }
def agentLeastRow : OpenClaim := { program := "ytiocdaeinahcoaa", sum := "69a26d7165ccf23aa9a9704004a61474d3203cfed909839a0aeffdd214dda5ba", func := "swingbridge/swingbridgelaw14.AgentLeast", spec := "agentLeast", unfollowed := true, recurses := true, apart := false }
def AgentLeastSaid : Prop := agentLeastRow.holds Try.pinned (OpenSpec.ofChange agentLeastSpec)

/-- ITS FALSE NEIGHBOUR: 'it returns false'. Refute it at one input. -/
def agentLeastWrong : ChangeSpec := { name := "agentLeast", fn := fun _ => fun
  | [d1, d2, d3, d4] => { results := [.lit (.bool false)], args := [d1, d2, d3, d4] }
  | _ => none }
def AgentLeastWrongFalsely : Prop := agentLeastRow.holds Try.pinned (OpenSpec.ofChange agentLeastWrong)

/-- 'swingbridgelaw14.AgentRises': WHATEVER THE INPUT: true; the input reads as it did. -/
def agentRisesSpec : ChangeSpec := { name := "agentRises", fn := fun _ => fun
  | [d1, d2, d3, d4] => { results := [.lit (.bool true)], args := [d1, d2, d3, d4] }
  | _ => none }
def agentRisesRow : OpenClaim := { program := "ytiocdaeinahcoaa", sum := "69a26d7165ccf23aa9a9704004a61474d3203cfed909839a0aeffdd214dda5ba", func := "swingbridge/swingbridgelaw14.AgentRises", spec := "agentRises", unfollowed := true, recurses := true, apart := false }
def AgentRisesSaid : Prop := agentRisesRow.holds Try.pinned (OpenSpec.ofChange agentRisesSpec)

/-- ITS FALSE NEIGHBOUR: 'it returns false'. Refute it at one input. -/
def agentRisesWrong : ChangeSpec := { name := "agentRises", fn := fun _ => fun
  | [d1, d2, d3, d4] => { results := [.lit (.bool false)], args := [d1, d2, d3, d4] }
  | _ => none }
def AgentRisesWrongFalsely : Prop := agentRisesRow.holds Try.pinned (OpenSpec.ofChange agentRisesWrong)

/-- 'swingbridgelaw14.AgentHomes': WHATEVER THE INPUT: true; the input reads as it did. -/
def agentHomesSpec : ChangeSpec := { name := "agentHomes", fn := fun _ => fun
  | [d1, d2, d3, d4] => { results := [.lit (.bool true)], args := [d1, d2, d3, d4] }
  | _ => none }
def agentHomesRow : OpenClaim := { program := "ytiocdaeinahcoaa", sum := "69a26d7165ccf23aa9a9704004a61474d3203cfed909839a0aeffdd214dda5ba", func := "swingbridge/swingbridgelaw14.AgentHomes", spec := "agentHomes", unfollowed := true, recurses := true, apart := false }
def AgentHomesSaid : Prop := agentHomesRow.holds Try.pinned (OpenSpec.ofChange agentHomesSpec)

/-- ITS FALSE NEIGHBOUR: 'it returns false'. Refute it at one input. -/
def agentHomesWrong : ChangeSpec := { name := "agentHomes", fn := fun _ => fun
  | [d1, d2, d3, d4] => { results := [.lit (.bool false)], args := [d1, d2, d3, d4] }
  | _ => none }
def AgentHomesWrongFalsely : Prop := agentHomesRow.holds Try.pinned (OpenSpec.ofChange agentHomesWrong)

/-- 'swingbridgelaw13.FairTells': WHATEVER THE INPUT: true; the input reads as it did. -/
def fairTellsSpec : ChangeSpec := { name := "fairTells", fn := fun _ => fun
  | [d1, d2, d3] => { results := [.lit (.bool true)], args := [d1, d2, d3] }
  | _ => none }
def fairTellsRow : OpenClaim := { program := "ytiocdaeinahcoaa", sum := "69a26d7165ccf23aa9a9704004a61474d3203cfed909839a0aeffdd214dda5ba", func := "swingbridge/swingbridgelaw13.FairTells", spec := "fairTells", unfollowed := true, recurses := true, apart := false }
def FairTellsSaid : Prop := fairTellsRow.holds Try.pinned (OpenSpec.ofChange fairTellsSpec)

/-- ITS FALSE NEIGHBOUR: 'it returns false'. Refute it at one input. -/
def fairTellsWrong : ChangeSpec := { name := "fairTells", fn := fun _ => fun
  | [d1, d2, d3] => { results := [.lit (.bool false)], args := [d1, d2, d3] }
  | _ => none }
def FairTellsWrongFalsely : Prop := fairTellsRow.holds Try.pinned (OpenSpec.ofChange fairTellsWrong)

/-- 'swingbridgelaw13.FairSums': WHATEVER THE INPUT: true; the input reads as it did. -/
def fairSumsSpec : ChangeSpec := { name := "fairSums", fn := fun _ => fun
  | [d] => { results := [.lit (.bool true)], args := [d] }
  | _ => none }
def fairSumsRow : OpenClaim := { program := "ytiocdaeinahcoaa", sum := "69a26d7165ccf23aa9a9704004a61474d3203cfed909839a0aeffdd214dda5ba", func := "swingbridge/swingbridgelaw13.FairSums", spec := "fairSums", unfollowed := true, recurses := true, apart := false }
def FairSumsSaid : Prop := fairSumsRow.holds Try.pinned (OpenSpec.ofChange fairSumsSpec)

/-- ITS FALSE NEIGHBOUR: 'it returns false'. Refute it at one input. -/
def fairSumsWrong : ChangeSpec := { name := "fairSums", fn := fun _ => fun
  | [d] => { results := [.lit (.bool false)], args := [d] }
  | _ => none }
def FairSumsWrongFalsely : Prop := fairSumsRow.holds Try.pinned (OpenSpec.ofChange fairSumsWrong)

/-- 'swingbridgelaw13.FairSame': WHATEVER THE INPUT: true; the input reads as it did. -/
def fairSameSpec : ChangeSpec := { name := "fairSame", fn := fun _ => fun
  | [d1, d2, d3] => { results := [.lit (.bool true)], args := [d1, d2, d3] }
  | _ => none }
def fairSameRow : OpenClaim := { program := "ytiocdaeinahcoaa", sum := "69a26d7165ccf23aa9a9704004a61474d3203cfed909839a0aeffdd214dda5ba", func := "swingbridge/swingbridgelaw13.FairSame", spec := "fairSame", unfollowed := true, recurses := true, apart := false }
def FairSameSaid : Prop := fairSameRow.holds Try.pinned (OpenSpec.ofChange fairSameSpec)

/-- ITS FALSE NEIGHBOUR: 'it returns false'. Refute it at one input. -/
def fairSameWrong : ChangeSpec := { name := "fairSame", fn := fun _ => fun
  | [d1, d2, d3] => { results := [.lit (.bool false)], args := [d1, d2, d3] }
  | _ => none }
def FairSameWrongFalsely : Prop := fairSameRow.holds Try.pinned (OpenSpec.ofChange fairSameWrong)

/-- 'swingbridgelaw13.FairCrowd': WHATEVER THE INPUT: true; the input reads as it did. -/
def fairCrowdSpec : ChangeSpec := { name := "fairCrowd", fn := fun _ => fun
  | [d1, d2] => { results := [.lit (.bool true)], args := [d1, d2] }
  | _ => none }
def fairCrowdRow : OpenClaim := { program := "ytiocdaeinahcoaa", sum := "69a26d7165ccf23aa9a9704004a61474d3203cfed909839a0aeffdd214dda5ba", func := "swingbridge/swingbridgelaw13.FairCrowd", spec := "fairCrowd", unfollowed := true, recurses := true, apart := false }
def FairCrowdSaid : Prop := fairCrowdRow.holds Try.pinned (OpenSpec.ofChange fairCrowdSpec)

/-- ITS FALSE NEIGHBOUR: 'it returns false'. Refute it at one input. -/
def fairCrowdWrong : ChangeSpec := { name := "fairCrowd", fn := fun _ => fun
  | [d1, d2] => { results := [.lit (.bool false)], args := [d1, d2] }
  | _ => none }
def FairCrowdWrongFalsely : Prop := fairCrowdRow.holds Try.pinned (OpenSpec.ofChange fairCrowdWrong)

/-- 'swingbridgelaw15.TokenTells': WHATEVER THE INPUT: true; the input reads as it did. -/
def tokenTellsSpec : ChangeSpec := { name := "tokenTells", fn := fun _ => fun
  | [d1, d2, d3] => { results := [.lit (.bool true)], args := [d1, d2, d3] }
  | _ => none }
def tokenTellsRow : OpenClaim := { program := "ytiocdaeinahcoaa", sum := "69a26d7165ccf23aa9a9704004a61474d3203cfed909839a0aeffdd214dda5ba", func := "swingbridge/swingbridgelaw15.TokenTells", spec := "tokenTells", unfollowed := true, recurses := true, apart := false }
def TokenTellsSaid : Prop := tokenTellsRow.holds Try.pinned (OpenSpec.ofChange tokenTellsSpec)

/-- ITS FALSE NEIGHBOUR: 'it returns false'. Refute it at one input. -/
def tokenTellsWrong : ChangeSpec := { name := "tokenTells", fn := fun _ => fun
  | [d1, d2, d3] => { results := [.lit (.bool false)], args := [d1, d2, d3] }
  | _ => none }
def TokenTellsWrongFalsely : Prop := tokenTellsRow.holds Try.pinned (OpenSpec.ofChange tokenTellsWrong)

/-- 'swingbridgelaw15.TokenCores': WHATEVER THE INPUT: true; the input reads as it did. -/
def tokenCoresSpec : ChangeSpec := { name := "tokenCores", fn := fun _ => fun
  | [d1, d2] => { results := [.lit (.bool true)], args := [d1, d2] }
  | _ => none }
def tokenCoresRow : OpenClaim := { program := "ytiocdaeinahcoaa", sum := "69a26d7165ccf23aa9a9704004a61474d3203cfed909839a0aeffdd214dda5ba", func := "swingbridge/swingbridgelaw15.TokenCores", spec := "tokenCores", unfollowed := true, recurses := true, apart := false }
def TokenCoresSaid : Prop := tokenCoresRow.holds Try.pinned (OpenSpec.ofChange tokenCoresSpec)

/-- ITS FALSE NEIGHBOUR: 'it returns false'. Refute it at one input. -/
def tokenCoresWrong : ChangeSpec := { name := "tokenCores", fn := fun _ => fun
  | [d1, d2] => { results := [.lit (.bool false)], args := [d1, d2] }
  | _ => none }
def TokenCoresWrongFalsely : Prop := tokenCoresRow.holds Try.pinned (OpenSpec.ofChange tokenCoresWrong)

/-- 'swingbridgelaw15.TokenRounds': WHATEVER THE INPUT: true; the input reads as it did. -/
def tokenRoundsSpec : ChangeSpec := { name := "tokenRounds", fn := fun _ => fun
  | [d1, d2, d3] => { results := [.lit (.bool true)], args := [d1, d2, d3] }
  | _ => none }
def tokenRoundsRow : OpenClaim := { program := "ytiocdaeinahcoaa", sum := "69a26d7165ccf23aa9a9704004a61474d3203cfed909839a0aeffdd214dda5ba", func := "swingbridge/swingbridgelaw15.TokenRounds", spec := "tokenRounds", unfollowed := true, recurses := true, apart := false }
def TokenRoundsSaid : Prop := tokenRoundsRow.holds Try.pinned (OpenSpec.ofChange tokenRoundsSpec)

/-- ITS FALSE NEIGHBOUR: 'it returns false'. Refute it at one input. -/
def tokenRoundsWrong : ChangeSpec := { name := "tokenRounds", fn := fun _ => fun
  | [d1, d2, d3] => { results := [.lit (.bool false)], args := [d1, d2, d3] }
  | _ => none }
def TokenRoundsWrongFalsely : Prop := tokenRoundsRow.holds Try.pinned (OpenSpec.ofChange tokenRoundsWrong)

/-- 'swingbridgelaw15.TokenElsewhere': WHATEVER THE INPUT: true; the input reads as it did. -/
def tokenElsewhereSpec : ChangeSpec := { name := "tokenElsewhere", fn := fun _ => fun
  | [d1, d2, d3, d4] => { results := [.lit (.bool true)], args := [d1, d2, d3, d4] }
  | _ => none }
def tokenElsewhereRow : OpenClaim := { program := "ytiocdaeinahcoaa", sum := "69a26d7165ccf23aa9a9704004a61474d3203cfed909839a0aeffdd214dda5ba", func := "swingbridge/swingbridgelaw15.TokenElsewhere", spec := "tokenElsewhere", unfollowed := true, recurses := true, apart := false }
def TokenElsewhereSaid : Prop := tokenElsewhereRow.holds Try.pinned (OpenSpec.ofChange tokenElsewhereSpec)

/-- ITS FALSE NEIGHBOUR: 'it returns false'. Refute it at one input. -/
def tokenElsewhereWrong : ChangeSpec := { name := "tokenElsewhere", fn := fun _ => fun
  | [d1, d2, d3, d4] => { results := [.lit (.bool false)], args := [d1, d2, d3, d4] }
  | _ => none }
def TokenElsewhereWrongFalsely : Prop := tokenElsewhereRow.holds Try.pinned (OpenSpec.ofChange tokenElsewhereWrong)

/- THE SECOND FORM. 'bulk': how many values and letters a reading holds, each counted each time it is reached (what is shared counts as often as it is met; a slice's spare places count too). A statement '..UptoSaid' is the law's where the arguments, and the package variables that the reading takes, are together of bulk at most 1048576: NARROWER than '..Said'. Prove '..Said' where nothing that the law and all that it calls make is longer than what came in: it says more and counts as full. Else prove '..UptoSaid'. A law counts once. -/
mutual
def uptoBulk {H : Type} : DataW H → Nat
  | .lit (.string bytes) => bytes.length + 1
  | .lit _ => 1
  | .nil => 1
  | .ptr d => uptoBulk d + 1
  | .slice elems spare => uptoBulkAll elems + uptoBulkAll spare + 1
  | .agg parts => uptoBulkAll parts + 1
  | .iface _ d => uptoBulk d + 1
  | .map entries => uptoBulkEntries entries + 1
  | .held _ => 1
def uptoBulkAll {H : Type} : List (DataW H) → Nat
  | [] => 0
  | d :: r => uptoBulk d + uptoBulkAll r
def uptoBulkEntries {H : Type} : List (Lit × DataW H) → Nat
  | [] => 0
  | x :: r => uptoBulkEntry x + uptoBulkEntries r
def uptoBulkEntry {H : Type} : Lit × DataW H → Nat
  | (.string bytes, d) => bytes.length + uptoBulk d + 1
  | (_, d) => uptoBulk d + 1
 end
def uptoSmall : (H : Type) → List (DataW H) → Bool := fun _ ds => decide (uptoBulkAll ds ≤ 1048576)
def OpenSpec.upto (s : _root_.Go.ChangeSpec) : _root_.Go.OpenSpec := { _root_.Go.OpenSpec.ofChange s with cond := some uptoSmall }

/-- 'swingbridgelaw14.AgentTells', WHERE WHAT IT READS IS OF BULK AT MOST 1048576: true; the input reads as it did. -/
def agentTellsUptoRow : OpenClaim := { program := "ytiocdaeinahcoaa", sum := "69a26d7165ccf23aa9a9704004a61474d3203cfed909839a0aeffdd214dda5ba", func := "swingbridge/swingbridgelaw14.AgentTells", spec := "agentTells", unfollowed := true, recurses := true, apart := false, narrowed := true }
def AgentTellsUptoSaid : Prop := agentTellsUptoRow.holds Try.pinned (OpenSpec.upto agentTellsSpec)

/-- 'swingbridgelaw14.AgentLeast', WHERE WHAT IT READS IS OF BULK AT MOST 1048576: true; the input reads as it did. -/
def agentLeastUptoRow : OpenClaim := { program := "ytiocdaeinahcoaa", sum := "69a26d7165ccf23aa9a9704004a61474d3203cfed909839a0aeffdd214dda5ba", func := "swingbridge/swingbridgelaw14.AgentLeast", spec := "agentLeast", unfollowed := true, recurses := true, apart := false, narrowed := true }
def AgentLeastUptoSaid : Prop := agentLeastUptoRow.holds Try.pinned (OpenSpec.upto agentLeastSpec)

/-- 'swingbridgelaw14.AgentRises', WHERE WHAT IT READS IS OF BULK AT MOST 1048576: true; the input reads as it did. -/
def agentRisesUptoRow : OpenClaim := { program := "ytiocdaeinahcoaa", sum := "69a26d7165ccf23aa9a9704004a61474d3203cfed909839a0aeffdd214dda5ba", func := "swingbridge/swingbridgelaw14.AgentRises", spec := "agentRises", unfollowed := true, recurses := true, apart := false, narrowed := true }
def AgentRisesUptoSaid : Prop := agentRisesUptoRow.holds Try.pinned (OpenSpec.upto agentRisesSpec)

/-- 'swingbridgelaw14.AgentHomes', WHERE WHAT IT READS IS OF BULK AT MOST 1048576: true; the input reads as it did. -/
def agentHomesUptoRow : OpenClaim := { program := "ytiocdaeinahcoaa", sum := "69a26d7165ccf23aa9a9704004a61474d3203cfed909839a0aeffdd214dda5ba", func := "swingbridge/swingbridgelaw14.AgentHomes", spec := "agentHomes", unfollowed := true, recurses := true, apart := false, narrowed := true }
def AgentHomesUptoSaid : Prop := agentHomesUptoRow.holds Try.pinned (OpenSpec.upto agentHomesSpec)

/-- 'swingbridgelaw13.FairTells', WHERE WHAT IT READS IS OF BULK AT MOST 1048576: true; the input reads as it did. -/
def fairTellsUptoRow : OpenClaim := { program := "ytiocdaeinahcoaa", sum := "69a26d7165ccf23aa9a9704004a61474d3203cfed909839a0aeffdd214dda5ba", func := "swingbridge/swingbridgelaw13.FairTells", spec := "fairTells", unfollowed := true, recurses := true, apart := false, narrowed := true }
def FairTellsUptoSaid : Prop := fairTellsUptoRow.holds Try.pinned (OpenSpec.upto fairTellsSpec)

/-- 'swingbridgelaw13.FairSums', WHERE WHAT IT READS IS OF BULK AT MOST 1048576: true; the input reads as it did. -/
def fairSumsUptoRow : OpenClaim := { program := "ytiocdaeinahcoaa", sum := "69a26d7165ccf23aa9a9704004a61474d3203cfed909839a0aeffdd214dda5ba", func := "swingbridge/swingbridgelaw13.FairSums", spec := "fairSums", unfollowed := true, recurses := true, apart := false, narrowed := true }
def FairSumsUptoSaid : Prop := fairSumsUptoRow.holds Try.pinned (OpenSpec.upto fairSumsSpec)

/-- 'swingbridgelaw13.FairSame', WHERE WHAT IT READS IS OF BULK AT MOST 1048576: true; the input reads as it did. -/
def fairSameUptoRow : OpenClaim := { program := "ytiocdaeinahcoaa", sum := "69a26d7165ccf23aa9a9704004a61474d3203cfed909839a0aeffdd214dda5ba", func := "swingbridge/swingbridgelaw13.FairSame", spec := "fairSame", unfollowed := true, recurses := true, apart := false, narrowed := true }
def FairSameUptoSaid : Prop := fairSameUptoRow.holds Try.pinned (OpenSpec.upto fairSameSpec)

/-- 'swingbridgelaw13.FairCrowd', WHERE WHAT IT READS IS OF BULK AT MOST 1048576: true; the input reads as it did. -/
def fairCrowdUptoRow : OpenClaim := { program := "ytiocdaeinahcoaa", sum := "69a26d7165ccf23aa9a9704004a61474d3203cfed909839a0aeffdd214dda5ba", func := "swingbridge/swingbridgelaw13.FairCrowd", spec := "fairCrowd", unfollowed := true, recurses := true, apart := false, narrowed := true }
def FairCrowdUptoSaid : Prop := fairCrowdUptoRow.holds Try.pinned (OpenSpec.upto fairCrowdSpec)

/-- 'swingbridgelaw15.TokenTells', WHERE WHAT IT READS IS OF BULK AT MOST 1048576: true; the input reads as it did. -/
def tokenTellsUptoRow : OpenClaim := { program := "ytiocdaeinahcoaa", sum := "69a26d7165ccf23aa9a9704004a61474d3203cfed909839a0aeffdd214dda5ba", func := "swingbridge/swingbridgelaw15.TokenTells", spec := "tokenTells", unfollowed := true, recurses := true, apart := false, narrowed := true }
def TokenTellsUptoSaid : Prop := tokenTellsUptoRow.holds Try.pinned (OpenSpec.upto tokenTellsSpec)

/-- 'swingbridgelaw15.TokenCores', WHERE WHAT IT READS IS OF BULK AT MOST 1048576: true; the input reads as it did. -/
def tokenCoresUptoRow : OpenClaim := { program := "ytiocdaeinahcoaa", sum := "69a26d7165ccf23aa9a9704004a61474d3203cfed909839a0aeffdd214dda5ba", func := "swingbridge/swingbridgelaw15.TokenCores", spec := "tokenCores", unfollowed := true, recurses := true, apart := false, narrowed := true }
def TokenCoresUptoSaid : Prop := tokenCoresUptoRow.holds Try.pinned (OpenSpec.upto tokenCoresSpec)

/-- 'swingbridgelaw15.TokenRounds', WHERE WHAT IT READS IS OF BULK AT MOST 1048576: true; the input reads as it did. -/
def tokenRoundsUptoRow : OpenClaim := { program := "ytiocdaeinahcoaa", sum := "69a26d7165ccf23aa9a9704004a61474d3203cfed909839a0aeffdd214dda5ba", func := "swingbridge/swingbridgelaw15.TokenRounds", spec := "tokenRounds", unfollowed := true, recurses := true, apart := false, narrowed := true }
def TokenRoundsUptoSaid : Prop := tokenRoundsUptoRow.holds Try.pinned (OpenSpec.upto tokenRoundsSpec)

/-- 'swingbridgelaw15.TokenElsewhere', WHERE WHAT IT READS IS OF BULK AT MOST 1048576: true; the input reads as it did. -/
def tokenElsewhereUptoRow : OpenClaim := { program := "ytiocdaeinahcoaa", sum := "69a26d7165ccf23aa9a9704004a61474d3203cfed909839a0aeffdd214dda5ba", func := "swingbridge/swingbridgelaw15.TokenElsewhere", spec := "tokenElsewhere", unfollowed := true, recurses := true, apart := false, narrowed := true }
def TokenElsewhereUptoSaid : Prop := tokenElsewhereUptoRow.holds Try.pinned (OpenSpec.upto tokenElsewhereSpec)

end Rows
end Go.Proofs.Ytiocdaeinahcoaa
