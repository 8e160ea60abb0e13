/-
  DERIVED. GIVEN WITH THE SEED: THE CARDS: each row of YtnlekmkfgaolbaaGreatDoorRows.lean that lists a variable, with what it lists TIED to the program's text (the seventh form; the later family's looks); each row that meets fmt, with fmt's text TOLD by the authors' own Lean function (tested against real Go, not proved from fmt's source: count such statements apart). THE CARD IS WHAT COUNTS. Prove the row's statement (the work); the ties are given (YtnlekmkfgaolbaaGreatDoorTie.lean); close each card by the builder's one call (the guide's Derived/Test/ToyasCard.lean, 'card_holds'). Laid BY PROGRAM, IN A SANDBOX (cutbox-door.mjs). By AI agents, Wed Nov 11 2026. No macro, syntax, notation, axiom, sorry.
-/
import Derived.Test.YtnlekmkfgaolbaaGreatDoorRows
import GoSem.ClaimSeven
namespace Go.Proofs.YtnlekmkfgaolbaaGreatDoor
namespace Rows

/-- THE TIED CARD OF 'jalousielaw5.RuleRules'. -/
def ruleRulesCard : Claim7 := { stood := { row := ruleRulesRow, standIns := [], harness := (true, "3c8962dff2f58cb1aea93a2ce13a6fef76f91345551e11acb334b48c0093a7eb"), looks := false }, kinds := [], alts := [], laidByText := true, laidKinds := [.data, .pinned], laidTests := true, laidLooks := .later }
def RuleRulesCardSaid : Prop := Claim7.holds Tryz.pinned (.plain (OpenSpec.ofChange ruleRulesSpec)) ruleRulesCard

/-- THE TIED CARD OF 'jalousielaw5.RuleSheet'. -/
def ruleSheetCard : Claim7 := { stood := { row := ruleSheetRow, standIns := [], harness := (true, "3c8962dff2f58cb1aea93a2ce13a6fef76f91345551e11acb334b48c0093a7eb"), looks := false }, kinds := [], alts := [], laidByText := true, laidKinds := [.data, .data, .pinned], laidTests := true, laidLooks := .later }
def RuleSheetCardSaid : Prop := Claim7.holds Tryz.pinned (.plain (OpenSpec.ofChange ruleSheetSpec)) ruleSheetCard

/-- THE TIED CARD OF 'jalousielaw5.RuleNests'. -/
def ruleNestsCard : Claim7 := { stood := { row := ruleNestsRow, standIns := [], harness := (true, "3c8962dff2f58cb1aea93a2ce13a6fef76f91345551e11acb334b48c0093a7eb"), looks := false }, kinds := [], alts := [], laidByText := true, laidKinds := [.data, .data, .pinned], laidTests := true, laidLooks := .later }
def RuleNestsCardSaid : Prop := Claim7.holds Tryz.pinned (.plain (OpenSpec.ofChange ruleNestsSpec)) ruleNestsCard

/-- THE TIED CARD OF 'jalousielaw5.RuleBehind'. -/
def ruleBehindCard : Claim7 := { stood := { row := ruleBehindRow, standIns := [], harness := (true, "3c8962dff2f58cb1aea93a2ce13a6fef76f91345551e11acb334b48c0093a7eb"), looks := false }, kinds := [], alts := [], laidByText := true, laidKinds := [.data, .pinned], laidTests := true, laidLooks := .later }
def RuleBehindCardSaid : Prop := Claim7.holds Tryz.pinned (.plain (OpenSpec.ofChange ruleBehindSpec)) ruleBehindCard

/-- THE TIED CARD OF 'jalousielaw5.RuleBounds'. -/
def ruleBoundsCard : Claim7 := { stood := { row := ruleBoundsRow, standIns := [], harness := (true, "3c8962dff2f58cb1aea93a2ce13a6fef76f91345551e11acb334b48c0093a7eb"), looks := false }, kinds := [], alts := [], laidByText := true, laidKinds := [.data, .pinned], laidTests := true, laidLooks := .later }
def RuleBoundsCardSaid : Prop := Claim7.holds Tryz.pinned (.plain (OpenSpec.ofChange ruleBoundsSpec)) ruleBoundsCard

/-- THE TIED CARD OF 'jalousielaw5.RuleDecls'. -/
def ruleDeclsCard : Claim7 := { stood := { row := ruleDeclsRow, standIns := [], harness := (true, "3c8962dff2f58cb1aea93a2ce13a6fef76f91345551e11acb334b48c0093a7eb"), looks := false }, kinds := [], alts := [], laidByText := true, laidKinds := [.data, .pinned], laidTests := true, laidLooks := .later }
def RuleDeclsCardSaid : Prop := Claim7.holds Tryz.pinned (.plain (OpenSpec.ofChange ruleDeclsSpec)) ruleDeclsCard

/-- THE TIED CARD OF 'jalousielaw5.RuleNeighbours'. -/
def ruleNeighboursCard : Claim7 := { stood := { row := ruleNeighboursRow, standIns := [], harness := (true, "3c8962dff2f58cb1aea93a2ce13a6fef76f91345551e11acb334b48c0093a7eb"), looks := false }, kinds := [], alts := [], laidByText := true, laidKinds := [.data, .pinned], laidTests := true, laidLooks := .later }
def RuleNeighboursCardSaid : Prop := Claim7.holds Tryz.pinned (.plain (OpenSpec.ofChange ruleNeighboursSpec)) ruleNeighboursCard

/-- THE TIED CARD OF 'jalousielaw5.RuleFlat'. -/
def ruleFlatCard : Claim7 := { stood := { row := ruleFlatRow, standIns := [], harness := (true, "3c8962dff2f58cb1aea93a2ce13a6fef76f91345551e11acb334b48c0093a7eb"), looks := false }, kinds := [], alts := [], laidByText := true, laidKinds := [.data, .pinned], laidTests := true, laidLooks := .later }
def RuleFlatCardSaid : Prop := Claim7.holds Tryz.pinned (.plain (OpenSpec.ofChange ruleFlatSpec)) ruleFlatCard

/-- THE TIED CARD OF 'jalousielaw5.RuleRaw'. -/
def ruleRawCard : Claim7 := { stood := { row := ruleRawRow, standIns := [], harness := (true, "3c8962dff2f58cb1aea93a2ce13a6fef76f91345551e11acb334b48c0093a7eb"), looks := false }, kinds := [], alts := [], laidByText := true, laidKinds := [.data, .pinned], laidTests := true, laidLooks := .later }
def RuleRawCardSaid : Prop := Claim7.holds Tryz.pinned (.plain (OpenSpec.ofChange ruleRawSpec)) ruleRawCard

/-- THE TIED CARD OF 'jalousielaw6.PrintSheets'. -/
def printSheetsCard : Claim7 := { stood := { row := printSheetsRow, standIns := [], harness := (true, "3c8962dff2f58cb1aea93a2ce13a6fef76f91345551e11acb334b48c0093a7eb"), looks := false }, kinds := [], alts := [], laidByText := true, laidKinds := [.data, .data, .data, .data, .data, .pinned], laidTests := true, laidLooks := .later }
def PrintSheetsCardSaid : Prop := Claim7.holds Tryz.pinned (.plain (OpenSpec.ofChange printSheetsSpec)) printSheetsCard

/-- THE TIED CARD OF 'jalousielaw6.PrintBack'. -/
def printBackCard : Claim7 := { stood := { row := printBackRow, standIns := [], harness := (true, "3c8962dff2f58cb1aea93a2ce13a6fef76f91345551e11acb334b48c0093a7eb"), looks := false }, kinds := [], alts := [], laidByText := true, laidKinds := [.data, .data, .pinned], laidTests := true, laidLooks := .later }
def PrintBackCardSaid : Prop := Claim7.holds Tryz.pinned (.plain (OpenSpec.ofChange printBackSpec)) printBackCard

/-- THE TIED CARD OF 'jalousielaw6.PrintTwice'. -/
def printTwiceCard : Claim7 := { stood := { row := printTwiceRow, standIns := [], harness := (true, "3c8962dff2f58cb1aea93a2ce13a6fef76f91345551e11acb334b48c0093a7eb"), looks := false }, kinds := [], alts := [], laidByText := true, laidKinds := [.data, .data, .pinned], laidTests := true, laidLooks := .later }
def PrintTwiceCardSaid : Prop := Claim7.holds Tryz.pinned (.plain (OpenSpec.ofChange printTwiceSpec)) printTwiceCard

/-- THE SECOND FORM's CARD OF 'jalousielaw5.RuleRules'. -/
def ruleRulesUptoCard : Claim7 := { stood := { row := ruleRulesUptoRow, standIns := [], harness := (true, "3c8962dff2f58cb1aea93a2ce13a6fef76f91345551e11acb334b48c0093a7eb"), looks := false }, kinds := [], alts := [], laidByText := true, laidKinds := [.data, .pinned], laidTests := true, laidLooks := .later }
def RuleRulesUptoCardSaid : Prop := Claim7.holds Tryz.pinned (.plain (OpenSpec.upto ruleRulesSpec)) ruleRulesUptoCard

/-- THE SECOND FORM's CARD OF 'jalousielaw5.RuleSheet'. -/
def ruleSheetUptoCard : Claim7 := { stood := { row := ruleSheetUptoRow, standIns := [], harness := (true, "3c8962dff2f58cb1aea93a2ce13a6fef76f91345551e11acb334b48c0093a7eb"), looks := false }, kinds := [], alts := [], laidByText := true, laidKinds := [.data, .data, .pinned], laidTests := true, laidLooks := .later }
def RuleSheetUptoCardSaid : Prop := Claim7.holds Tryz.pinned (.plain (OpenSpec.upto ruleSheetSpec)) ruleSheetUptoCard

/-- THE SECOND FORM's CARD OF 'jalousielaw5.RuleNests'. -/
def ruleNestsUptoCard : Claim7 := { stood := { row := ruleNestsUptoRow, standIns := [], harness := (true, "3c8962dff2f58cb1aea93a2ce13a6fef76f91345551e11acb334b48c0093a7eb"), looks := false }, kinds := [], alts := [], laidByText := true, laidKinds := [.data, .data, .pinned], laidTests := true, laidLooks := .later }
def RuleNestsUptoCardSaid : Prop := Claim7.holds Tryz.pinned (.plain (OpenSpec.upto ruleNestsSpec)) ruleNestsUptoCard

/-- THE SECOND FORM's CARD OF 'jalousielaw5.RuleBehind'. -/
def ruleBehindUptoCard : Claim7 := { stood := { row := ruleBehindUptoRow, standIns := [], harness := (true, "3c8962dff2f58cb1aea93a2ce13a6fef76f91345551e11acb334b48c0093a7eb"), looks := false }, kinds := [], alts := [], laidByText := true, laidKinds := [.data, .pinned], laidTests := true, laidLooks := .later }
def RuleBehindUptoCardSaid : Prop := Claim7.holds Tryz.pinned (.plain (OpenSpec.upto ruleBehindSpec)) ruleBehindUptoCard

/-- THE SECOND FORM's CARD OF 'jalousielaw5.RuleBounds'. -/
def ruleBoundsUptoCard : Claim7 := { stood := { row := ruleBoundsUptoRow, standIns := [], harness := (true, "3c8962dff2f58cb1aea93a2ce13a6fef76f91345551e11acb334b48c0093a7eb"), looks := false }, kinds := [], alts := [], laidByText := true, laidKinds := [.data, .pinned], laidTests := true, laidLooks := .later }
def RuleBoundsUptoCardSaid : Prop := Claim7.holds Tryz.pinned (.plain (OpenSpec.upto ruleBoundsSpec)) ruleBoundsUptoCard

/-- THE SECOND FORM's CARD OF 'jalousielaw5.RuleDecls'. -/
def ruleDeclsUptoCard : Claim7 := { stood := { row := ruleDeclsUptoRow, standIns := [], harness := (true, "3c8962dff2f58cb1aea93a2ce13a6fef76f91345551e11acb334b48c0093a7eb"), looks := false }, kinds := [], alts := [], laidByText := true, laidKinds := [.data, .pinned], laidTests := true, laidLooks := .later }
def RuleDeclsUptoCardSaid : Prop := Claim7.holds Tryz.pinned (.plain (OpenSpec.upto ruleDeclsSpec)) ruleDeclsUptoCard

/-- THE SECOND FORM's CARD OF 'jalousielaw5.RuleNeighbours'. -/
def ruleNeighboursUptoCard : Claim7 := { stood := { row := ruleNeighboursUptoRow, standIns := [], harness := (true, "3c8962dff2f58cb1aea93a2ce13a6fef76f91345551e11acb334b48c0093a7eb"), looks := false }, kinds := [], alts := [], laidByText := true, laidKinds := [.data, .pinned], laidTests := true, laidLooks := .later }
def RuleNeighboursUptoCardSaid : Prop := Claim7.holds Tryz.pinned (.plain (OpenSpec.upto ruleNeighboursSpec)) ruleNeighboursUptoCard

/-- THE SECOND FORM's CARD OF 'jalousielaw5.RuleFlat'. -/
def ruleFlatUptoCard : Claim7 := { stood := { row := ruleFlatUptoRow, standIns := [], harness := (true, "3c8962dff2f58cb1aea93a2ce13a6fef76f91345551e11acb334b48c0093a7eb"), looks := false }, kinds := [], alts := [], laidByText := true, laidKinds := [.data, .pinned], laidTests := true, laidLooks := .later }
def RuleFlatUptoCardSaid : Prop := Claim7.holds Tryz.pinned (.plain (OpenSpec.upto ruleFlatSpec)) ruleFlatUptoCard

/-- THE SECOND FORM's CARD OF 'jalousielaw5.RuleRaw'. -/
def ruleRawUptoCard : Claim7 := { stood := { row := ruleRawUptoRow, standIns := [], harness := (true, "3c8962dff2f58cb1aea93a2ce13a6fef76f91345551e11acb334b48c0093a7eb"), looks := false }, kinds := [], alts := [], laidByText := true, laidKinds := [.data, .pinned], laidTests := true, laidLooks := .later }
def RuleRawUptoCardSaid : Prop := Claim7.holds Tryz.pinned (.plain (OpenSpec.upto ruleRawSpec)) ruleRawUptoCard

/-- THE SECOND FORM's CARD OF 'jalousielaw6.PrintSheets'. -/
def printSheetsUptoCard : Claim7 := { stood := { row := printSheetsUptoRow, standIns := [], harness := (true, "3c8962dff2f58cb1aea93a2ce13a6fef76f91345551e11acb334b48c0093a7eb"), looks := false }, kinds := [], alts := [], laidByText := true, laidKinds := [.data, .data, .data, .data, .data, .pinned], laidTests := true, laidLooks := .later }
def PrintSheetsUptoCardSaid : Prop := Claim7.holds Tryz.pinned (.plain (OpenSpec.upto printSheetsSpec)) printSheetsUptoCard

/-- THE SECOND FORM's CARD OF 'jalousielaw6.PrintBack'. -/
def printBackUptoCard : Claim7 := { stood := { row := printBackUptoRow, standIns := [], harness := (true, "3c8962dff2f58cb1aea93a2ce13a6fef76f91345551e11acb334b48c0093a7eb"), looks := false }, kinds := [], alts := [], laidByText := true, laidKinds := [.data, .data, .pinned], laidTests := true, laidLooks := .later }
def PrintBackUptoCardSaid : Prop := Claim7.holds Tryz.pinned (.plain (OpenSpec.upto printBackSpec)) printBackUptoCard

/-- THE SECOND FORM's CARD OF 'jalousielaw6.PrintTwice'. -/
def printTwiceUptoCard : Claim7 := { stood := { row := printTwiceUptoRow, standIns := [], harness := (true, "3c8962dff2f58cb1aea93a2ce13a6fef76f91345551e11acb334b48c0093a7eb"), looks := false }, kinds := [], alts := [], laidByText := true, laidKinds := [.data, .data, .pinned], laidTests := true, laidLooks := .later }
def PrintTwiceUptoCardSaid : Prop := Claim7.holds Tryz.pinned (.plain (OpenSpec.upto printTwiceSpec)) printTwiceUptoCard
end Rows
end Go.Proofs.YtnlekmkfgaolbaaGreatDoor
