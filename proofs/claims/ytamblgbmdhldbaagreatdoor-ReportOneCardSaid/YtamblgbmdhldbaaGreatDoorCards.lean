/-
  DERIVED. GIVEN WITH THE SEED: THE CARDS: each row of YtamblgbmdhldbaaGreatDoorRows.lean that lists a variable, with what it lists TIED to the program's text (the seventh form; the later family's looks); each row that meets fmt, with fmt's text TOLD by the authors' own Lean function (tested against real Go, not proved from fmt's source: count such statements apart). THE CARD IS WHAT COUNTS. Prove the row's statement (the work); the ties are given (YtamblgbmdhldbaaGreatDoorTie.lean); close each card by the builder's one call (the guide's Derived/Test/ToyasCard.lean, 'card_holds'). Laid BY PROGRAM, IN A SANDBOX (cutbox-door.mjs). By AI agents, Wed Nov 11 2026. No macro, syntax, notation, axiom, sorry.
-/
import Derived.Test.YtamblgbmdhldbaaGreatDoorRows
import GoSem.ClaimSeven
namespace Go.Proofs.YtamblgbmdhldbaaGreatDoor
namespace Rows

/-- THE TIED CARD OF 'swingbridgelaw19.ReportTells'. -/
def reportTellsCard : Claim7 := { stood := { row := reportTellsRow, standIns := [], harness := (true, "4ae43c0d88ae7c83191992ae37143b99eb28f5c9a732c1732e49016fc388c3c3"), looks := false }, kinds := [], alts := [], laidByText := true, laidKinds := [.data, .data, .data], laidTests := true, laidLooks := .later }
def ReportTellsCardSaid : Prop := Claim7.holds Tryz.pinned (.plain (OpenSpec.ofChange reportTellsSpec)) reportTellsCard

/-- THE TIED CARD OF 'swingbridgelaw19.ReportTurns'. -/
def reportTurnsCard : Claim7 := { stood := { row := reportTurnsRow, standIns := [], harness := (true, "4ae43c0d88ae7c83191992ae37143b99eb28f5c9a732c1732e49016fc388c3c3"), looks := false }, kinds := [], alts := [], laidByText := true, laidKinds := [.data, .data, .data], laidTests := true, laidLooks := .later }
def ReportTurnsCardSaid : Prop := Claim7.holds Tryz.pinned (.plain (OpenSpec.ofChange reportTurnsSpec)) reportTurnsCard

/-- THE TIED CARD OF 'swingbridgelaw19.ReportOne'. -/
def reportOneCard : Claim7 := { stood := { row := reportOneRow, standIns := [], harness := (true, "4ae43c0d88ae7c83191992ae37143b99eb28f5c9a732c1732e49016fc388c3c3"), looks := false }, kinds := [], alts := [], laidByText := true, laidKinds := [.data, .data, .data], laidTests := true, laidLooks := .later }
def ReportOneCardSaid : Prop := Claim7.holds Tryz.pinned (.plain (OpenSpec.ofChange reportOneSpec)) reportOneCard

/-- THE TIED CARD OF 'swingbridgelaw19.ReportWords'. -/
def reportWordsCard : Claim7 := { stood := { row := reportWordsRow, standIns := [], harness := (true, "4ae43c0d88ae7c83191992ae37143b99eb28f5c9a732c1732e49016fc388c3c3"), looks := false }, kinds := [], alts := [], laidByText := true, laidKinds := [.data, .data, .data], laidTests := true, laidLooks := .later }
def ReportWordsCardSaid : Prop := Claim7.holds Tryz.pinned (.plain (OpenSpec.ofChange reportWordsSpec)) reportWordsCard

/-- THE SECOND FORM's CARD OF 'swingbridgelaw19.ReportTells'. -/
def reportTellsUptoCard : Claim7 := { stood := { row := reportTellsUptoRow, standIns := [], harness := (true, "4ae43c0d88ae7c83191992ae37143b99eb28f5c9a732c1732e49016fc388c3c3"), looks := false }, kinds := [], alts := [], laidByText := true, laidKinds := [.data, .data, .data], laidTests := true, laidLooks := .later }
def ReportTellsUptoCardSaid : Prop := Claim7.holds Tryz.pinned (.plain (OpenSpec.upto reportTellsSpec)) reportTellsUptoCard

/-- THE SECOND FORM's CARD OF 'swingbridgelaw19.ReportTurns'. -/
def reportTurnsUptoCard : Claim7 := { stood := { row := reportTurnsUptoRow, standIns := [], harness := (true, "4ae43c0d88ae7c83191992ae37143b99eb28f5c9a732c1732e49016fc388c3c3"), looks := false }, kinds := [], alts := [], laidByText := true, laidKinds := [.data, .data, .data], laidTests := true, laidLooks := .later }
def ReportTurnsUptoCardSaid : Prop := Claim7.holds Tryz.pinned (.plain (OpenSpec.upto reportTurnsSpec)) reportTurnsUptoCard

/-- THE SECOND FORM's CARD OF 'swingbridgelaw19.ReportOne'. -/
def reportOneUptoCard : Claim7 := { stood := { row := reportOneUptoRow, standIns := [], harness := (true, "4ae43c0d88ae7c83191992ae37143b99eb28f5c9a732c1732e49016fc388c3c3"), looks := false }, kinds := [], alts := [], laidByText := true, laidKinds := [.data, .data, .data], laidTests := true, laidLooks := .later }
def ReportOneUptoCardSaid : Prop := Claim7.holds Tryz.pinned (.plain (OpenSpec.upto reportOneSpec)) reportOneUptoCard

/-- THE SECOND FORM's CARD OF 'swingbridgelaw19.ReportWords'. -/
def reportWordsUptoCard : Claim7 := { stood := { row := reportWordsUptoRow, standIns := [], harness := (true, "4ae43c0d88ae7c83191992ae37143b99eb28f5c9a732c1732e49016fc388c3c3"), looks := false }, kinds := [], alts := [], laidByText := true, laidKinds := [.data, .data, .data], laidTests := true, laidLooks := .later }
def ReportWordsUptoCardSaid : Prop := Claim7.holds Tryz.pinned (.plain (OpenSpec.upto reportWordsSpec)) reportWordsUptoCard
end Rows
end Go.Proofs.YtamblgbmdhldbaaGreatDoor
