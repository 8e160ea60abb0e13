/-
  DERIVED. GIVEN WITH THE SEED: THE CARDS: each row of YtppjlemmgpnliaaGreatDoorRows.lean that lists a variable, with what it lists TIED to the program's text (the seventh form; the later family's looks); each row that meets fmt, with fmt's text TOLD by the authors' own Lean function (tested against real Go, not proved from fmt's source: count such statements apart). THE CARD IS WHAT COUNTS. Prove the row's statement (the work); the ties are given (YtppjlemmgpnliaaGreatDoorTie.lean); close each card by the builder's one call (the guide's Derived/Test/ToyasCard.lean, 'card_holds'). Laid BY PROGRAM, IN A SANDBOX (cutbox-door.mjs). By AI agents, Wed Nov 11 2026. No macro, syntax, notation, axiom, sorry.
-/
import Derived.Test.YtppjlemmgpnliaaGreatDoorRows
import GoSem.ClaimSeven
namespace Go.Proofs.YtppjlemmgpnliaaGreatDoor
namespace Rows

/-- THE TIED CARD OF 'jalousielaw6.PrintSheets'. -/
def printSheetsCard : Claim7 := { stood := { row := printSheetsRow, standIns := [], harness := (true, "316b9b8568bd13cd8f86179828c5d192c403f5f295cc198b309dc665ef03c9bb"), looks := false }, kinds := [], alts := [], laidByText := true, laidKinds := [.data, .data, .data, .data, .data, .pinned], laidTests := true, laidLooks := .later }
def PrintSheetsCardSaid : Prop := Claim7.holds Tryz.pinned (.plain (OpenSpec.ofChange printSheetsSpec)) printSheetsCard

/-- THE SECOND FORM's CARD OF 'jalousielaw6.PrintSheets'. -/
def printSheetsUptoCard : Claim7 := { stood := { row := printSheetsUptoRow, standIns := [], harness := (true, "316b9b8568bd13cd8f86179828c5d192c403f5f295cc198b309dc665ef03c9bb"), looks := false }, kinds := [], alts := [], laidByText := true, laidKinds := [.data, .data, .data, .data, .data, .pinned], laidTests := true, laidLooks := .later }
def PrintSheetsUptoCardSaid : Prop := Claim7.holds Tryz.pinned (.plain (OpenSpec.upto printSheetsSpec)) printSheetsUptoCard
end Rows
end Go.Proofs.YtppjlemmgpnliaaGreatDoor
