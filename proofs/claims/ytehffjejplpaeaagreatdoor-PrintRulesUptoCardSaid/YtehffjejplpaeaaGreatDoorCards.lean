/-
  DERIVED. GIVEN WITH THE SEED: THE CARDS: each row of YtehffjejplpaeaaGreatDoorRows.lean that lists a variable, with what it lists TIED to the program's text (the seventh form; the later family's looks); each row that meets fmt, with fmt's text TOLD by the authors' own Lean function (tested against real Go, not proved from fmt's source: count such statements apart). THE CARD IS WHAT COUNTS. Prove the row's statement (the work); the ties are given (YtehffjejplpaeaaGreatDoorTie.lean); close each card by the builder's one call (the guide's Derived/Test/ToyasCard.lean, 'card_holds'). Laid BY PROGRAM, IN A SANDBOX (cutbox-door.mjs). By AI agents, Wed Nov 11 2026. No macro, syntax, notation, axiom, sorry.
-/
import Derived.Test.YtehffjejplpaeaaGreatDoorRows
import GoSem.ClaimSeven
namespace Go.Proofs.YtehffjejplpaeaaGreatDoor
namespace Rows

/-- THE TIED CARD OF 'jalousielaw6.PrintValues'. -/
def printValuesCard : Claim7 := { stood := { row := printValuesRow, standIns := [], harness := (true, "a63a6546ee1ce3cdb1f22764890059d8795bd8905f8dd4dacdcbdb8a7cd5e870"), looks := false }, kinds := [], alts := [], laidByText := true, laidKinds := [.data, .data, .data, .data, .pinned], laidTests := true, laidLooks := .later }
def PrintValuesCardSaid : Prop := Claim7.holds Tryz.pinned (.plain (OpenSpec.ofChange printValuesSpec)) printValuesCard

/-- THE TIED CARD OF 'jalousielaw6.PrintDecls'. -/
def printDeclsCard : Claim7 := { stood := { row := printDeclsRow, standIns := [], harness := (true, "a63a6546ee1ce3cdb1f22764890059d8795bd8905f8dd4dacdcbdb8a7cd5e870"), looks := false }, kinds := [], alts := [], laidByText := true, laidKinds := [.data, .data, .data, .data, .pinned], laidTests := true, laidLooks := .later }
def PrintDeclsCardSaid : Prop := Claim7.holds Tryz.pinned (.plain (OpenSpec.ofChange printDeclsSpec)) printDeclsCard

/-- THE TIED CARD OF 'jalousielaw6.PrintRules'. -/
def printRulesCard : Claim7 := { stood := { row := printRulesRow, standIns := [], harness := (true, "a63a6546ee1ce3cdb1f22764890059d8795bd8905f8dd4dacdcbdb8a7cd5e870"), looks := false }, kinds := [], alts := [], laidByText := true, laidKinds := [.data, .data, .data, .data, .pinned], laidTests := true, laidLooks := .later }
def PrintRulesCardSaid : Prop := Claim7.holds Tryz.pinned (.plain (OpenSpec.ofChange printRulesSpec)) printRulesCard

/-- THE SECOND FORM's CARD OF 'jalousielaw6.PrintValues'. -/
def printValuesUptoCard : Claim7 := { stood := { row := printValuesUptoRow, standIns := [], harness := (true, "a63a6546ee1ce3cdb1f22764890059d8795bd8905f8dd4dacdcbdb8a7cd5e870"), looks := false }, kinds := [], alts := [], laidByText := true, laidKinds := [.data, .data, .data, .data, .pinned], laidTests := true, laidLooks := .later }
def PrintValuesUptoCardSaid : Prop := Claim7.holds Tryz.pinned (.plain (OpenSpec.upto printValuesSpec)) printValuesUptoCard

/-- THE SECOND FORM's CARD OF 'jalousielaw6.PrintDecls'. -/
def printDeclsUptoCard : Claim7 := { stood := { row := printDeclsUptoRow, standIns := [], harness := (true, "a63a6546ee1ce3cdb1f22764890059d8795bd8905f8dd4dacdcbdb8a7cd5e870"), looks := false }, kinds := [], alts := [], laidByText := true, laidKinds := [.data, .data, .data, .data, .pinned], laidTests := true, laidLooks := .later }
def PrintDeclsUptoCardSaid : Prop := Claim7.holds Tryz.pinned (.plain (OpenSpec.upto printDeclsSpec)) printDeclsUptoCard

/-- THE SECOND FORM's CARD OF 'jalousielaw6.PrintRules'. -/
def printRulesUptoCard : Claim7 := { stood := { row := printRulesUptoRow, standIns := [], harness := (true, "a63a6546ee1ce3cdb1f22764890059d8795bd8905f8dd4dacdcbdb8a7cd5e870"), looks := false }, kinds := [], alts := [], laidByText := true, laidKinds := [.data, .data, .data, .data, .pinned], laidTests := true, laidLooks := .later }
def PrintRulesUptoCardSaid : Prop := Claim7.holds Tryz.pinned (.plain (OpenSpec.upto printRulesSpec)) printRulesUptoCard
end Rows
end Go.Proofs.YtehffjejplpaeaaGreatDoor
