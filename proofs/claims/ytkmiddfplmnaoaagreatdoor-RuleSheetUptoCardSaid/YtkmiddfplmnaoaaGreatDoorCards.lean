/-
  DERIVED. GIVEN WITH THE SEED: THE CARDS: each row of YtkmiddfplmnaoaaGreatDoorRows.lean that lists a variable, with what it lists TIED to the program's text (the seventh form; the later family's looks); each row that meets fmt, with fmt's text TOLD by the authors' own Lean function (tested against real Go, not proved from fmt's source: count such statements apart). THE CARD IS WHAT COUNTS. Prove the row's statement (the work); the ties are given (YtkmiddfplmnaoaaGreatDoorTie.lean); close each card by the builder's one call (the guide's Derived/Test/ToyasCard.lean, 'card_holds'). Laid BY PROGRAM, IN A SANDBOX (cutbox-door.mjs). By AI agents, Wed Nov 11 2026. No macro, syntax, notation, axiom, sorry.
-/
import Derived.Test.YtkmiddfplmnaoaaGreatDoorRows
import GoSem.ClaimSeven
namespace Go.Proofs.YtkmiddfplmnaoaaGreatDoor
namespace Rows

/-- THE TIED CARD OF 'jalousielaw5.RuleSheet'. -/
def ruleSheetCard : Claim7 := { stood := { row := ruleSheetRow, standIns := [], harness := (true, "5539e3b92dfc384931e5b91d2e7ba80578be73cdae9bbee121be340996185cd2"), looks := false }, kinds := [], alts := [], laidByText := true, laidKinds := [.data, .data, .pinned], laidTests := true, laidLooks := .later }
def RuleSheetCardSaid : Prop := Claim7.holds Tryz.pinned (.plain (OpenSpec.ofChange ruleSheetSpec)) ruleSheetCard

/-- THE TIED CARD OF 'jalousielaw5.RuleNests'. -/
def ruleNestsCard : Claim7 := { stood := { row := ruleNestsRow, standIns := [], harness := (true, "5539e3b92dfc384931e5b91d2e7ba80578be73cdae9bbee121be340996185cd2"), looks := false }, kinds := [], alts := [], laidByText := true, laidKinds := [.data, .data, .pinned], laidTests := true, laidLooks := .later }
def RuleNestsCardSaid : Prop := Claim7.holds Tryz.pinned (.plain (OpenSpec.ofChange ruleNestsSpec)) ruleNestsCard

/-- THE SECOND FORM's CARD OF 'jalousielaw5.RuleSheet'. -/
def ruleSheetUptoCard : Claim7 := { stood := { row := ruleSheetUptoRow, standIns := [], harness := (true, "5539e3b92dfc384931e5b91d2e7ba80578be73cdae9bbee121be340996185cd2"), looks := false }, kinds := [], alts := [], laidByText := true, laidKinds := [.data, .data, .pinned], laidTests := true, laidLooks := .later }
def RuleSheetUptoCardSaid : Prop := Claim7.holds Tryz.pinned (.plain (OpenSpec.upto ruleSheetSpec)) ruleSheetUptoCard

/-- THE SECOND FORM's CARD OF 'jalousielaw5.RuleNests'. -/
def ruleNestsUptoCard : Claim7 := { stood := { row := ruleNestsUptoRow, standIns := [], harness := (true, "5539e3b92dfc384931e5b91d2e7ba80578be73cdae9bbee121be340996185cd2"), looks := false }, kinds := [], alts := [], laidByText := true, laidKinds := [.data, .data, .pinned], laidTests := true, laidLooks := .later }
def RuleNestsUptoCardSaid : Prop := Claim7.holds Tryz.pinned (.plain (OpenSpec.upto ruleNestsSpec)) ruleNestsUptoCard
end Rows
end Go.Proofs.YtkmiddfplmnaoaaGreatDoor
