/-
  No cell of these rows narrows 'for every input' (looked for: loops, veiled, ifaces, maps, wideKeys, modest, calm, conditions, laid).
  DERIVED. THE GIVEN ROWS OF THIS SEAT. 11 by the template 'for every input the law returns true; each argument reads behind the call as it read before'; 0 by the template 'total and deterministic' (their statements: YtapjngmlocgdoaaTotals.lean).
  GIVEN WITH THE SEED: the statements are not yours to turn. If you find one false, say at which input.
  Laid BY PROGRAM, IN A SANDBOX (cutbox-rows.mjs): the forced cells as the released guide's own fill.sh prints them over the translation 4a0d0bb93009ec13… (all of the seat's roots in one cut). By AI agents, Wed Nov 11 2026. No macro, syntax, notation, axiom, sorry.
-/
import Derived.Test.YtapjngmlocgdoaaChecked
import GoSem.Claim
import GoSem.ClaimJoined
import GoSem.ClaimMapViews
import Derived.JoinedTies
import Derived.KernelRfl
namespace Go.Proofs.Ytapjngmlocgdoaa
/- THE CELL 'sum', in the pinned program and in every row, IS THE sha256 OF THE DUMP (.gsa) THAT YtapjngmlocgdoaaProg.lean LOADS. Nothing in Lean hashes anything: it is a label: what it is worth is what the hold of that sum in a sandbox is worth. -/
noncomputable def Try.pinned : Pinned := { name := "ytapjngmlocgdoaa", sum := "4a0d0bb93009ec130b3eba8c480b6c730c5680230c4e9b57322d7ae9966dc093", checked := Try.checked }
namespace Rows
def none {H : Type} : Left H := { results := [], args := [] }

/-- 'swingbridgelaw1.CalcTells': WHATEVER THE INPUT: true; the input reads as it did. -/
def calcTellsSpec : ChangeSpec := { name := "calcTells", fn := fun _ => fun
  | [d1, d2, d3] => { results := [.lit (.bool true)], args := [d1, d2, d3] }
  | _ => none }
def calcTellsRow : OpenClaim := { program := "ytapjngmlocgdoaa", sum := "4a0d0bb93009ec130b3eba8c480b6c730c5680230c4e9b57322d7ae9966dc093", func := "swingbridge/swingbridgelaw1.CalcTells", spec := "calcTells", inPlace := ["math/bits.Add64"], apart := false }
def CalcTellsSaid : Prop := calcTellsRow.holds Try.pinned (OpenSpec.ofChange calcTellsSpec)

/-- ITS FALSE NEIGHBOUR: 'it returns false'. Refute it at one input. -/
def calcTellsWrong : ChangeSpec := { name := "calcTells", fn := fun _ => fun
  | [d1, d2, d3] => { results := [.lit (.bool false)], args := [d1, d2, d3] }
  | _ => none }
def CalcTellsWrongFalsely : Prop := calcTellsRow.holds Try.pinned (OpenSpec.ofChange calcTellsWrong)

/-- 'swingbridgelaw1.CalcSums': WHATEVER THE INPUT: true; the input reads as it did. -/
def calcSumsSpec : ChangeSpec := { name := "calcSums", fn := fun _ => fun
  | [d] => { results := [.lit (.bool true)], args := [d] }
  | _ => none }
def calcSumsRow : OpenClaim := { program := "ytapjngmlocgdoaa", sum := "4a0d0bb93009ec130b3eba8c480b6c730c5680230c4e9b57322d7ae9966dc093", func := "swingbridge/swingbridgelaw1.CalcSums", spec := "calcSums", inPlace := ["math/bits.Add64"], apart := false }
def CalcSumsSaid : Prop := calcSumsRow.holds Try.pinned (OpenSpec.ofChange calcSumsSpec)

/-- ITS FALSE NEIGHBOUR: 'it returns false'. Refute it at one input. -/
def calcSumsWrong : ChangeSpec := { name := "calcSums", fn := fun _ => fun
  | [d] => { results := [.lit (.bool false)], args := [d] }
  | _ => none }
def CalcSumsWrongFalsely : Prop := calcSumsRow.holds Try.pinned (OpenSpec.ofChange calcSumsWrong)

/-- 'swingbridgelaw1.CalcRules': WHATEVER THE INPUT: true; the input reads as it did. -/
def calcRulesSpec : ChangeSpec := { name := "calcRules", fn := fun _ => fun
  | [d1, d2] => { results := [.lit (.bool true)], args := [d1, d2] }
  | _ => none }
def calcRulesRow : OpenClaim := { program := "ytapjngmlocgdoaa", sum := "4a0d0bb93009ec130b3eba8c480b6c730c5680230c4e9b57322d7ae9966dc093", func := "swingbridge/swingbridgelaw1.CalcRules", spec := "calcRules", inPlace := ["math/bits.Add64"], apart := false }
def CalcRulesSaid : Prop := calcRulesRow.holds Try.pinned (OpenSpec.ofChange calcRulesSpec)

/-- ITS FALSE NEIGHBOUR: 'it returns false'. Refute it at one input. -/
def calcRulesWrong : ChangeSpec := { name := "calcRules", fn := fun _ => fun
  | [d1, d2] => { results := [.lit (.bool false)], args := [d1, d2] }
  | _ => none }
def CalcRulesWrongFalsely : Prop := calcRulesRow.holds Try.pinned (OpenSpec.ofChange calcRulesWrong)

/-- 'swingbridgelaw1.CalcTurns': WHATEVER THE INPUT: true; the input reads as it did. -/
def calcTurnsSpec : ChangeSpec := { name := "calcTurns", fn := fun _ => fun
  | [d1, d2, d3] => { results := [.lit (.bool true)], args := [d1, d2, d3] }
  | _ => none }
def calcTurnsRow : OpenClaim := { program := "ytapjngmlocgdoaa", sum := "4a0d0bb93009ec130b3eba8c480b6c730c5680230c4e9b57322d7ae9966dc093", func := "swingbridge/swingbridgelaw1.CalcTurns", spec := "calcTurns", inPlace := ["math/bits.Add64"], apart := false }
def CalcTurnsSaid : Prop := calcTurnsRow.holds Try.pinned (OpenSpec.ofChange calcTurnsSpec)

/-- ITS FALSE NEIGHBOUR: 'it returns false'. Refute it at one input. -/
def calcTurnsWrong : ChangeSpec := { name := "calcTurns", fn := fun _ => fun
  | [d1, d2, d3] => { results := [.lit (.bool false)], args := [d1, d2, d3] }
  | _ => none }
def CalcTurnsWrongFalsely : Prop := calcTurnsRow.holds Try.pinned (OpenSpec.ofChange calcTurnsWrong)

/-- 'swingbridgelaw1.CalcEnds': WHATEVER THE INPUT: true; the input reads as it did. -/
def calcEndsSpec : ChangeSpec := { name := "calcEnds", fn := fun _ => fun
  | [d] => { results := [.lit (.bool true)], args := [d] }
  | _ => none }
def calcEndsRow : OpenClaim := { program := "ytapjngmlocgdoaa", sum := "4a0d0bb93009ec130b3eba8c480b6c730c5680230c4e9b57322d7ae9966dc093", func := "swingbridge/swingbridgelaw1.CalcEnds", spec := "calcEnds", inPlace := ["math/bits.Add64"], apart := false }
def CalcEndsSaid : Prop := calcEndsRow.holds Try.pinned (OpenSpec.ofChange calcEndsSpec)

/-- ITS FALSE NEIGHBOUR: 'it returns false'. Refute it at one input. -/
def calcEndsWrong : ChangeSpec := { name := "calcEnds", fn := fun _ => fun
  | [d] => { results := [.lit (.bool false)], args := [d] }
  | _ => none }
def CalcEndsWrongFalsely : Prop := calcEndsRow.holds Try.pinned (OpenSpec.ofChange calcEndsWrong)

/-- 'swingbridgelaw1.CalcUp': WHATEVER THE INPUT: true; the input reads as it did. -/
def calcUpSpec : ChangeSpec := { name := "calcUp", fn := fun _ => fun
  | [d1, d2] => { results := [.lit (.bool true)], args := [d1, d2] }
  | _ => none }
def calcUpRow : OpenClaim := { program := "ytapjngmlocgdoaa", sum := "4a0d0bb93009ec130b3eba8c480b6c730c5680230c4e9b57322d7ae9966dc093", func := "swingbridge/swingbridgelaw1.CalcUp", spec := "calcUp", inPlace := ["math/bits.Add64"], apart := false }
def CalcUpSaid : Prop := calcUpRow.holds Try.pinned (OpenSpec.ofChange calcUpSpec)

/-- ITS FALSE NEIGHBOUR: 'it returns false'. Refute it at one input. -/
def calcUpWrong : ChangeSpec := { name := "calcUp", fn := fun _ => fun
  | [d1, d2] => { results := [.lit (.bool false)], args := [d1, d2] }
  | _ => none }
def CalcUpWrongFalsely : Prop := calcUpRow.holds Try.pinned (OpenSpec.ofChange calcUpWrong)

/-- 'swingbridgelaw1.CalcClips': WHATEVER THE INPUT: true; the input reads as it did. -/
def calcClipsSpec : ChangeSpec := { name := "calcClips", fn := fun _ => fun
  | [d1, d2, d3] => { results := [.lit (.bool true)], args := [d1, d2, d3] }
  | _ => none }
def calcClipsRow : OpenClaim := { program := "ytapjngmlocgdoaa", sum := "4a0d0bb93009ec130b3eba8c480b6c730c5680230c4e9b57322d7ae9966dc093", func := "swingbridge/swingbridgelaw1.CalcClips", spec := "calcClips", inPlace := ["math/bits.Add64"], apart := false }
def CalcClipsSaid : Prop := calcClipsRow.holds Try.pinned (OpenSpec.ofChange calcClipsSpec)

/-- ITS FALSE NEIGHBOUR: 'it returns false'. Refute it at one input. -/
def calcClipsWrong : ChangeSpec := { name := "calcClips", fn := fun _ => fun
  | [d1, d2, d3] => { results := [.lit (.bool false)], args := [d1, d2, d3] }
  | _ => none }
def CalcClipsWrongFalsely : Prop := calcClipsRow.holds Try.pinned (OpenSpec.ofChange calcClipsWrong)

/-- 'swingbridgelaw12.CountReleases': WHATEVER THE INPUT: true; the input reads as it did. -/
def countReleasesSpec : ChangeSpec := { name := "countReleases", fn := fun _ => fun
  | [d1, d2, d3, d4, d5] => { results := [.lit (.bool true)], args := [d1, d2, d3, d4, d5] }
  | _ => none }
def countReleasesRow : OpenClaim := { program := "ytapjngmlocgdoaa", sum := "4a0d0bb93009ec130b3eba8c480b6c730c5680230c4e9b57322d7ae9966dc093", func := "swingbridge/swingbridgelaw12.CountReleases", spec := "countReleases", apart := false }
def CountReleasesSaid : Prop := countReleasesRow.holds Try.pinned (OpenSpec.ofChange countReleasesSpec)

/-- ITS FALSE NEIGHBOUR: 'it returns false'. Refute it at one input. -/
def countReleasesWrong : ChangeSpec := { name := "countReleases", fn := fun _ => fun
  | [d1, d2, d3, d4, d5] => { results := [.lit (.bool false)], args := [d1, d2, d3, d4, d5] }
  | _ => none }
def CountReleasesWrongFalsely : Prop := countReleasesRow.holds Try.pinned (OpenSpec.ofChange countReleasesWrong)

/-- 'swingbridgelaw12.CountRises': WHATEVER THE INPUT: true; the input reads as it did. -/
def countRisesSpec : ChangeSpec := { name := "countRises", fn := fun _ => fun
  | [d1, d2, d3, d4, d5] => { results := [.lit (.bool true)], args := [d1, d2, d3, d4, d5] }
  | _ => none }
def countRisesRow : OpenClaim := { program := "ytapjngmlocgdoaa", sum := "4a0d0bb93009ec130b3eba8c480b6c730c5680230c4e9b57322d7ae9966dc093", func := "swingbridge/swingbridgelaw12.CountRises", spec := "countRises", apart := false }
def CountRisesSaid : Prop := countRisesRow.holds Try.pinned (OpenSpec.ofChange countRisesSpec)

/-- ITS FALSE NEIGHBOUR: 'it returns false'. Refute it at one input. -/
def countRisesWrong : ChangeSpec := { name := "countRises", fn := fun _ => fun
  | [d1, d2, d3, d4, d5] => { results := [.lit (.bool false)], args := [d1, d2, d3, d4, d5] }
  | _ => none }
def CountRisesWrongFalsely : Prop := countRisesRow.holds Try.pinned (OpenSpec.ofChange countRisesWrong)

/-- 'swingbridgelaw12.CountPeriods': WHATEVER THE INPUT: true; the input reads as it did. -/
def countPeriodsSpec : ChangeSpec := { name := "countPeriods", fn := fun _ => fun
  | [d1, d2, d3] => { results := [.lit (.bool true)], args := [d1, d2, d3] }
  | _ => none }
def countPeriodsRow : OpenClaim := { program := "ytapjngmlocgdoaa", sum := "4a0d0bb93009ec130b3eba8c480b6c730c5680230c4e9b57322d7ae9966dc093", func := "swingbridge/swingbridgelaw12.CountPeriods", spec := "countPeriods", apart := false }
def CountPeriodsSaid : Prop := countPeriodsRow.holds Try.pinned (OpenSpec.ofChange countPeriodsSpec)

/-- ITS FALSE NEIGHBOUR: 'it returns false'. Refute it at one input. -/
def countPeriodsWrong : ChangeSpec := { name := "countPeriods", fn := fun _ => fun
  | [d1, d2, d3] => { results := [.lit (.bool false)], args := [d1, d2, d3] }
  | _ => none }
def CountPeriodsWrongFalsely : Prop := countPeriodsRow.holds Try.pinned (OpenSpec.ofChange countPeriodsWrong)

/-- 'swingbridgelaw12.CountMost': WHATEVER THE INPUT: true; the input reads as it did. -/
def countMostSpec : ChangeSpec := { name := "countMost", fn := fun _ => fun
  | [d1, d2, d3, d4] => { results := [.lit (.bool true)], args := [d1, d2, d3, d4] }
  | _ => none }
def countMostRow : OpenClaim := { program := "ytapjngmlocgdoaa", sum := "4a0d0bb93009ec130b3eba8c480b6c730c5680230c4e9b57322d7ae9966dc093", func := "swingbridge/swingbridgelaw12.CountMost", spec := "countMost", apart := false }
def CountMostSaid : Prop := countMostRow.holds Try.pinned (OpenSpec.ofChange countMostSpec)

/-- ITS FALSE NEIGHBOUR: 'it returns false'. Refute it at one input. -/
def countMostWrong : ChangeSpec := { name := "countMost", fn := fun _ => fun
  | [d1, d2, d3, d4] => { results := [.lit (.bool false)], args := [d1, d2, d3, d4] }
  | _ => none }
def CountMostWrongFalsely : Prop := countMostRow.holds Try.pinned (OpenSpec.ofChange countMostWrong)

/- THE SECOND FORM. 'bulk': how many values and letters a reading holds, each counted each time it is reached (what is shared counts as often as it is met; a slice's spare places count too). A statement '..UptoSaid' is the law's where the arguments, and the package variables that the reading takes, are together of bulk at most 1048576: NARROWER than '..Said'. Prove '..Said' where nothing that the law and all that it calls make is longer than what came in: it says more and counts as full. Else prove '..UptoSaid'. A law counts once. -/
mutual
def uptoBulk {H : Type} : DataW H → Nat
  | .lit (.string bytes) => bytes.length + 1
  | .lit _ => 1
  | .nil => 1
  | .ptr d => uptoBulk d + 1
  | .slice elems spare => uptoBulkAll elems + uptoBulkAll spare + 1
  | .agg parts => uptoBulkAll parts + 1
  | .iface _ d => uptoBulk d + 1
  | .map entries => uptoBulkEntries entries + 1
  | .held _ => 1
def uptoBulkAll {H : Type} : List (DataW H) → Nat
  | [] => 0
  | d :: r => uptoBulk d + uptoBulkAll r
def uptoBulkEntries {H : Type} : List (Lit × DataW H) → Nat
  | [] => 0
  | x :: r => uptoBulkEntry x + uptoBulkEntries r
def uptoBulkEntry {H : Type} : Lit × DataW H → Nat
  | (.string bytes, d) => bytes.length + uptoBulk d + 1
  | (_, d) => uptoBulk d + 1
 end
def uptoSmall : (H : Type) → List (DataW H) → Bool := fun _ ds => decide (uptoBulkAll ds ≤ 1048576)
def OpenSpec.upto (s : _root_.Go.ChangeSpec) : _root_.Go.OpenSpec := { _root_.Go.OpenSpec.ofChange s with cond := some uptoSmall }

/-- 'swingbridgelaw1.CalcTells', WHERE WHAT IT READS IS OF BULK AT MOST 1048576: true; the input reads as it did. -/
def calcTellsUptoRow : OpenClaim := { program := "ytapjngmlocgdoaa", sum := "4a0d0bb93009ec130b3eba8c480b6c730c5680230c4e9b57322d7ae9966dc093", func := "swingbridge/swingbridgelaw1.CalcTells", spec := "calcTells", inPlace := ["math/bits.Add64"], apart := false, narrowed := true }
def CalcTellsUptoSaid : Prop := calcTellsUptoRow.holds Try.pinned (OpenSpec.upto calcTellsSpec)

/-- 'swingbridgelaw1.CalcSums', WHERE WHAT IT READS IS OF BULK AT MOST 1048576: true; the input reads as it did. -/
def calcSumsUptoRow : OpenClaim := { program := "ytapjngmlocgdoaa", sum := "4a0d0bb93009ec130b3eba8c480b6c730c5680230c4e9b57322d7ae9966dc093", func := "swingbridge/swingbridgelaw1.CalcSums", spec := "calcSums", inPlace := ["math/bits.Add64"], apart := false, narrowed := true }
def CalcSumsUptoSaid : Prop := calcSumsUptoRow.holds Try.pinned (OpenSpec.upto calcSumsSpec)

/-- 'swingbridgelaw1.CalcRules', WHERE WHAT IT READS IS OF BULK AT MOST 1048576: true; the input reads as it did. -/
def calcRulesUptoRow : OpenClaim := { program := "ytapjngmlocgdoaa", sum := "4a0d0bb93009ec130b3eba8c480b6c730c5680230c4e9b57322d7ae9966dc093", func := "swingbridge/swingbridgelaw1.CalcRules", spec := "calcRules", inPlace := ["math/bits.Add64"], apart := false, narrowed := true }
def CalcRulesUptoSaid : Prop := calcRulesUptoRow.holds Try.pinned (OpenSpec.upto calcRulesSpec)

/-- 'swingbridgelaw1.CalcTurns', WHERE WHAT IT READS IS OF BULK AT MOST 1048576: true; the input reads as it did. -/
def calcTurnsUptoRow : OpenClaim := { program := "ytapjngmlocgdoaa", sum := "4a0d0bb93009ec130b3eba8c480b6c730c5680230c4e9b57322d7ae9966dc093", func := "swingbridge/swingbridgelaw1.CalcTurns", spec := "calcTurns", inPlace := ["math/bits.Add64"], apart := false, narrowed := true }
def CalcTurnsUptoSaid : Prop := calcTurnsUptoRow.holds Try.pinned (OpenSpec.upto calcTurnsSpec)

/-- 'swingbridgelaw1.CalcEnds', WHERE WHAT IT READS IS OF BULK AT MOST 1048576: true; the input reads as it did. -/
def calcEndsUptoRow : OpenClaim := { program := "ytapjngmlocgdoaa", sum := "4a0d0bb93009ec130b3eba8c480b6c730c5680230c4e9b57322d7ae9966dc093", func := "swingbridge/swingbridgelaw1.CalcEnds", spec := "calcEnds", inPlace := ["math/bits.Add64"], apart := false, narrowed := true }
def CalcEndsUptoSaid : Prop := calcEndsUptoRow.holds Try.pinned (OpenSpec.upto calcEndsSpec)

/-- 'swingbridgelaw1.CalcUp', WHERE WHAT IT READS IS OF BULK AT MOST 1048576: true; the input reads as it did. -/
def calcUpUptoRow : OpenClaim := { program := "ytapjngmlocgdoaa", sum := "4a0d0bb93009ec130b3eba8c480b6c730c5680230c4e9b57322d7ae9966dc093", func := "swingbridge/swingbridgelaw1.CalcUp", spec := "calcUp", inPlace := ["math/bits.Add64"], apart := false, narrowed := true }
def CalcUpUptoSaid : Prop := calcUpUptoRow.holds Try.pinned (OpenSpec.upto calcUpSpec)

/-- 'swingbridgelaw1.CalcClips', WHERE WHAT IT READS IS OF BULK AT MOST 1048576: true; the input reads as it did. -/
def calcClipsUptoRow : OpenClaim := { program := "ytapjngmlocgdoaa", sum := "4a0d0bb93009ec130b3eba8c480b6c730c5680230c4e9b57322d7ae9966dc093", func := "swingbridge/swingbridgelaw1.CalcClips", spec := "calcClips", inPlace := ["math/bits.Add64"], apart := false, narrowed := true }
def CalcClipsUptoSaid : Prop := calcClipsUptoRow.holds Try.pinned (OpenSpec.upto calcClipsSpec)

/-- 'swingbridgelaw12.CountReleases', WHERE WHAT IT READS IS OF BULK AT MOST 1048576: true; the input reads as it did. -/
def countReleasesUptoRow : OpenClaim := { program := "ytapjngmlocgdoaa", sum := "4a0d0bb93009ec130b3eba8c480b6c730c5680230c4e9b57322d7ae9966dc093", func := "swingbridge/swingbridgelaw12.CountReleases", spec := "countReleases", apart := false, narrowed := true }
def CountReleasesUptoSaid : Prop := countReleasesUptoRow.holds Try.pinned (OpenSpec.upto countReleasesSpec)

/-- 'swingbridgelaw12.CountRises', WHERE WHAT IT READS IS OF BULK AT MOST 1048576: true; the input reads as it did. -/
def countRisesUptoRow : OpenClaim := { program := "ytapjngmlocgdoaa", sum := "4a0d0bb93009ec130b3eba8c480b6c730c5680230c4e9b57322d7ae9966dc093", func := "swingbridge/swingbridgelaw12.CountRises", spec := "countRises", apart := false, narrowed := true }
def CountRisesUptoSaid : Prop := countRisesUptoRow.holds Try.pinned (OpenSpec.upto countRisesSpec)

/-- 'swingbridgelaw12.CountPeriods', WHERE WHAT IT READS IS OF BULK AT MOST 1048576: true; the input reads as it did. -/
def countPeriodsUptoRow : OpenClaim := { program := "ytapjngmlocgdoaa", sum := "4a0d0bb93009ec130b3eba8c480b6c730c5680230c4e9b57322d7ae9966dc093", func := "swingbridge/swingbridgelaw12.CountPeriods", spec := "countPeriods", apart := false, narrowed := true }
def CountPeriodsUptoSaid : Prop := countPeriodsUptoRow.holds Try.pinned (OpenSpec.upto countPeriodsSpec)

/-- 'swingbridgelaw12.CountMost', WHERE WHAT IT READS IS OF BULK AT MOST 1048576: true; the input reads as it did. -/
def countMostUptoRow : OpenClaim := { program := "ytapjngmlocgdoaa", sum := "4a0d0bb93009ec130b3eba8c480b6c730c5680230c4e9b57322d7ae9966dc093", func := "swingbridge/swingbridgelaw12.CountMost", spec := "countMost", apart := false, narrowed := true }
def CountMostUptoSaid : Prop := countMostUptoRow.holds Try.pinned (OpenSpec.upto countMostSpec)

end Rows
end Go.Proofs.Ytapjngmlocgdoaa
