/-
  DERIVED. GIVEN WITH THE SEED: THE CARDS: each row of YtehffjejplpaeaaDoorRows.lean that lists a variable, with what it lists TIED to the program's text (the seventh form; the later family's looks); each row that meets fmt, with fmt's text TOLD by the authors' own Lean function (tested against real Go, not proved from fmt's source: count such statements apart). THE CARD IS WHAT COUNTS. Prove the row's statement (the work); the ties are given (YtehffjejplpaeaaDoorTie.lean); close each card by the builder's one call (the guide's Derived/Test/ToyasCard.lean, 'card_holds'). Laid BY PROGRAM, IN A SANDBOX (cutbox-door.mjs). By AI agents, Wed Nov 11 2026. No macro, syntax, notation, axiom, sorry.
-/
import Derived.Test.YtehffjejplpaeaaDoorRows
import GoSem.ClaimSeven
namespace Go.Proofs.YtehffjejplpaeaaDoor
namespace Rows

/-- THE TIED CARD OF 'jalousielaw6.PrintSame'. -/
def printSameCard : Claim7 := { stood := { row := printSameRow, standIns := [], harness := (true, "55ed671777d1a10f76f20ac709b1952ddd476ece3e241c5d2fc04dde5edbcbc0"), looks := false }, kinds := [], alts := [], laidByText := true, laidKinds := [.data, .data, .pinned], laidTests := true, laidLooks := .later }
def PrintSameCardSaid : Prop := Claim7.holds Tryd.pinned (.plain (OpenSpec.ofChange printSameSpec)) printSameCard

/-- THE TIED CARD OF 'jalousielaw6.PrintBoth'. -/
def printBothCard : Claim7 := { stood := { row := printBothRow, standIns := [], harness := (true, "55ed671777d1a10f76f20ac709b1952ddd476ece3e241c5d2fc04dde5edbcbc0"), looks := false }, kinds := [], alts := [], laidByText := true, laidKinds := [.data, .data, .pinned], laidTests := true, laidLooks := .later }
def PrintBothCardSaid : Prop := Claim7.holds Tryd.pinned (.plain (OpenSpec.ofChange printBothSpec)) printBothCard

/-- THE SECOND FORM's CARD OF 'jalousielaw6.PrintSame'. -/
def printSameUptoCard : Claim7 := { stood := { row := printSameUptoRow, standIns := [], harness := (true, "55ed671777d1a10f76f20ac709b1952ddd476ece3e241c5d2fc04dde5edbcbc0"), looks := false }, kinds := [], alts := [], laidByText := true, laidKinds := [.data, .data, .pinned], laidTests := true, laidLooks := .later }
def PrintSameUptoCardSaid : Prop := Claim7.holds Tryd.pinned (.plain (OpenSpec.upto printSameSpec)) printSameUptoCard

/-- THE SECOND FORM's CARD OF 'jalousielaw6.PrintBoth'. -/
def printBothUptoCard : Claim7 := { stood := { row := printBothUptoRow, standIns := [], harness := (true, "55ed671777d1a10f76f20ac709b1952ddd476ece3e241c5d2fc04dde5edbcbc0"), looks := false }, kinds := [], alts := [], laidByText := true, laidKinds := [.data, .data, .pinned], laidTests := true, laidLooks := .later }
def PrintBothUptoCardSaid : Prop := Claim7.holds Tryd.pinned (.plain (OpenSpec.upto printBothSpec)) printBothUptoCard
end Rows
end Go.Proofs.YtehffjejplpaeaaDoor
