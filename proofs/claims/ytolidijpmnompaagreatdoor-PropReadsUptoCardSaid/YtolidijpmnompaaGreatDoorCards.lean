/-
  DERIVED. GIVEN WITH THE SEED: THE CARDS: each row of YtolidijpmnompaaGreatDoorRows.lean that lists a variable, with what it lists TIED to the program's text (the seventh form; the later family's looks); each row that meets fmt, with fmt's text TOLD by the authors' own Lean function (tested against real Go, not proved from fmt's source: count such statements apart). THE CARD IS WHAT COUNTS. Prove the row's statement (the work); the ties are given (YtolidijpmnompaaGreatDoorTie.lean); close each card by the builder's one call (the guide's Derived/Test/ToyasCard.lean, 'card_holds'). Laid BY PROGRAM, IN A SANDBOX (cutbox-door.mjs). By AI agents, Wed Nov 11 2026. No macro, syntax, notation, axiom, sorry.
-/
import Derived.Test.YtolidijpmnompaaGreatDoorRows
import GoSem.ClaimSeven
namespace Go.Proofs.YtolidijpmnompaaGreatDoor
namespace Rows

/-- THE TIED CARD OF 'jalousielaw14.PropReads'. -/
def propReadsCard : Claim7 := { stood := { row := propReadsRow, standIns := [], harness := (true, "309aeaf09703c48f3435b937e619aaad0345ebd02f3a10461608332bbd4787a6"), looks := false }, kinds := [], alts := [], laidByText := true, laidKinds := [.data, .listed, .data], laidTests := true, laidLooks := .later }
def PropReadsCardSaid : Prop := Claim7.holds Tryz.pinned (.plain (OpenSpec.ofChange propReadsSpec)) propReadsCard

/-- THE TIED CARD OF 'jalousielaw14.PropParses'. -/
def propParsesCard : Claim7 := { stood := { row := propParsesRow, standIns := [], harness := (true, "309aeaf09703c48f3435b937e619aaad0345ebd02f3a10461608332bbd4787a6"), looks := false }, kinds := [], alts := [], laidByText := true, laidKinds := [.data, .listed, .data], laidTests := true, laidLooks := .later }
def PropParsesCardSaid : Prop := Claim7.holds Tryz.pinned (.plain (OpenSpec.ofChange propParsesSpec)) propParsesCard

/-- THE SECOND FORM's CARD OF 'jalousielaw14.PropReads'. -/
def propReadsUptoCard : Claim7 := { stood := { row := propReadsUptoRow, standIns := [], harness := (true, "309aeaf09703c48f3435b937e619aaad0345ebd02f3a10461608332bbd4787a6"), looks := false }, kinds := [], alts := [], laidByText := true, laidKinds := [.data, .listed, .data], laidTests := true, laidLooks := .later }
def PropReadsUptoCardSaid : Prop := Claim7.holds Tryz.pinned (.plain (OpenSpec.upto propReadsSpec)) propReadsUptoCard

/-- THE SECOND FORM's CARD OF 'jalousielaw14.PropParses'. -/
def propParsesUptoCard : Claim7 := { stood := { row := propParsesUptoRow, standIns := [], harness := (true, "309aeaf09703c48f3435b937e619aaad0345ebd02f3a10461608332bbd4787a6"), looks := false }, kinds := [], alts := [], laidByText := true, laidKinds := [.data, .listed, .data], laidTests := true, laidLooks := .later }
def PropParsesUptoCardSaid : Prop := Claim7.holds Tryz.pinned (.plain (OpenSpec.upto propParsesSpec)) propParsesUptoCard
end Rows
end Go.Proofs.YtolidijpmnompaaGreatDoor
