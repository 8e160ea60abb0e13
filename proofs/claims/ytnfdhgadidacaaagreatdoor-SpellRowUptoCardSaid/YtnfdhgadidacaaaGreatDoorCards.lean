/-
  DERIVED. GIVEN WITH THE SEED: THE CARDS: each row of YtnfdhgadidacaaaGreatDoorRows.lean that lists a variable, with what it lists TIED to the program's text (the seventh form; the later family's looks); each row that meets fmt, with fmt's text TOLD by the authors' own Lean function (tested against real Go, not proved from fmt's source: count such statements apart). THE CARD IS WHAT COUNTS. Prove the row's statement (the work); the ties are given (YtnfdhgadidacaaaGreatDoorTie.lean); close each card by the builder's one call (the guide's Derived/Test/ToyasCard.lean, 'card_holds'). Laid BY PROGRAM, IN A SANDBOX (cutbox-door.mjs). By AI agents, Wed Nov 11 2026. No macro, syntax, notation, axiom, sorry.
-/
import Derived.Test.YtnfdhgadidacaaaGreatDoorRows
import GoSem.ClaimSeven
namespace Go.Proofs.YtnfdhgadidacaaaGreatDoor
namespace Rows

/-- THE TIED CARD OF 'jalousielaw3.TokTokens'. -/
def tokTokensCard : Claim7 := { stood := { row := tokTokensRow, standIns := [], harness := (true, "4ca0e40fc7ea06642f0e0417c846a20a5e93726e8f6d6f082fda9dc759cdda46"), looks := false }, kinds := [], alts := [], laidByText := true, laidKinds := [.data, .data, .pinned], laidTests := true, laidLooks := .later }
def TokTokensCardSaid : Prop := Claim7.holds Tryz.pinned (.plain (OpenSpec.ofChange tokTokensSpec)) tokTokensCard

/-- THE TIED CARD OF 'jalousielaw3.TokBytes'. -/
def tokBytesCard : Claim7 := { stood := { row := tokBytesRow, standIns := [], harness := (true, "4ca0e40fc7ea06642f0e0417c846a20a5e93726e8f6d6f082fda9dc759cdda46"), looks := false }, kinds := [], alts := [], laidByText := true, laidKinds := [.data, .data, .pinned], laidTests := true, laidLooks := .later }
def TokBytesCardSaid : Prop := Claim7.holds Tryz.pinned (.plain (OpenSpec.ofChange tokBytesSpec)) tokBytesCard

/-- THE TIED CARD OF 'jalousielaw4.SpellToken'. -/
def spellTokenCard : Claim7 := { stood := { row := spellTokenRow, standIns := [], harness := (true, "4ca0e40fc7ea06642f0e0417c846a20a5e93726e8f6d6f082fda9dc759cdda46"), looks := false }, kinds := [], alts := [], laidByText := true, laidKinds := [.data, .data, .data, .data, .pinned], laidTests := true, laidLooks := .later }
def SpellTokenCardSaid : Prop := Claim7.holds Tryz.pinned (.plain (OpenSpec.ofChange spellTokenSpec)) spellTokenCard

/-- THE TIED CARD OF 'jalousielaw4.SpellTokens'. -/
def spellTokensCard : Claim7 := { stood := { row := spellTokensRow, standIns := [], harness := (true, "4ca0e40fc7ea06642f0e0417c846a20a5e93726e8f6d6f082fda9dc759cdda46"), looks := false }, kinds := [], alts := [], laidByText := true, laidKinds := [.data, .data, .data, .data, .pinned], laidTests := true, laidLooks := .later }
def SpellTokensCardSaid : Prop := Claim7.holds Tryz.pinned (.plain (OpenSpec.ofChange spellTokensSpec)) spellTokensCard

/-- THE TIED CARD OF 'jalousielaw4.SpellIdent'. -/
def spellIdentCard : Claim7 := { stood := { row := spellIdentRow, standIns := [], harness := (true, "4ca0e40fc7ea06642f0e0417c846a20a5e93726e8f6d6f082fda9dc759cdda46"), looks := false }, kinds := [], alts := [], laidByText := true, laidKinds := [.data, .data, .data, .data, .pinned], laidTests := true, laidLooks := .later }
def SpellIdentCardSaid : Prop := Claim7.holds Tryz.pinned (.plain (OpenSpec.ofChange spellIdentSpec)) spellIdentCard

/-- THE TIED CARD OF 'jalousielaw4.SpellBack'. -/
def spellBackCard : Claim7 := { stood := { row := spellBackRow, standIns := [], harness := (true, "4ca0e40fc7ea06642f0e0417c846a20a5e93726e8f6d6f082fda9dc759cdda46"), looks := false }, kinds := [], alts := [], laidByText := true, laidKinds := [.data, .data, .pinned], laidTests := true, laidLooks := .later }
def SpellBackCardSaid : Prop := Claim7.holds Tryz.pinned (.plain (OpenSpec.ofChange spellBackSpec)) spellBackCard

/-- THE TIED CARD OF 'jalousielaw4.SpellOne'. -/
def spellOneCard : Claim7 := { stood := { row := spellOneRow, standIns := [], harness := (true, "4ca0e40fc7ea06642f0e0417c846a20a5e93726e8f6d6f082fda9dc759cdda46"), looks := false }, kinds := [], alts := [], laidByText := true, laidKinds := [.data, .data, .pinned], laidTests := true, laidLooks := .later }
def SpellOneCardSaid : Prop := Claim7.holds Tryz.pinned (.plain (OpenSpec.ofChange spellOneSpec)) spellOneCard

/-- THE TIED CARD OF 'jalousielaw4.SpellRow'. -/
def spellRowCard : Claim7 := { stood := { row := spellRowRow, standIns := [], harness := (true, "4ca0e40fc7ea06642f0e0417c846a20a5e93726e8f6d6f082fda9dc759cdda46"), looks := false }, kinds := [], alts := [], laidByText := true, laidKinds := [.data, .data, .pinned], laidTests := true, laidLooks := .later }
def SpellRowCardSaid : Prop := Claim7.holds Tryz.pinned (.plain (OpenSpec.ofChange spellRowSpec)) spellRowCard

/-- THE SECOND FORM's CARD OF 'jalousielaw3.TokTokens'. -/
def tokTokensUptoCard : Claim7 := { stood := { row := tokTokensUptoRow, standIns := [], harness := (true, "4ca0e40fc7ea06642f0e0417c846a20a5e93726e8f6d6f082fda9dc759cdda46"), looks := false }, kinds := [], alts := [], laidByText := true, laidKinds := [.data, .data, .pinned], laidTests := true, laidLooks := .later }
def TokTokensUptoCardSaid : Prop := Claim7.holds Tryz.pinned (.plain (OpenSpec.upto tokTokensSpec)) tokTokensUptoCard

/-- THE SECOND FORM's CARD OF 'jalousielaw3.TokBytes'. -/
def tokBytesUptoCard : Claim7 := { stood := { row := tokBytesUptoRow, standIns := [], harness := (true, "4ca0e40fc7ea06642f0e0417c846a20a5e93726e8f6d6f082fda9dc759cdda46"), looks := false }, kinds := [], alts := [], laidByText := true, laidKinds := [.data, .data, .pinned], laidTests := true, laidLooks := .later }
def TokBytesUptoCardSaid : Prop := Claim7.holds Tryz.pinned (.plain (OpenSpec.upto tokBytesSpec)) tokBytesUptoCard

/-- THE SECOND FORM's CARD OF 'jalousielaw4.SpellToken'. -/
def spellTokenUptoCard : Claim7 := { stood := { row := spellTokenUptoRow, standIns := [], harness := (true, "4ca0e40fc7ea06642f0e0417c846a20a5e93726e8f6d6f082fda9dc759cdda46"), looks := false }, kinds := [], alts := [], laidByText := true, laidKinds := [.data, .data, .data, .data, .pinned], laidTests := true, laidLooks := .later }
def SpellTokenUptoCardSaid : Prop := Claim7.holds Tryz.pinned (.plain (OpenSpec.upto spellTokenSpec)) spellTokenUptoCard

/-- THE SECOND FORM's CARD OF 'jalousielaw4.SpellTokens'. -/
def spellTokensUptoCard : Claim7 := { stood := { row := spellTokensUptoRow, standIns := [], harness := (true, "4ca0e40fc7ea06642f0e0417c846a20a5e93726e8f6d6f082fda9dc759cdda46"), looks := false }, kinds := [], alts := [], laidByText := true, laidKinds := [.data, .data, .data, .data, .pinned], laidTests := true, laidLooks := .later }
def SpellTokensUptoCardSaid : Prop := Claim7.holds Tryz.pinned (.plain (OpenSpec.upto spellTokensSpec)) spellTokensUptoCard

/-- THE SECOND FORM's CARD OF 'jalousielaw4.SpellIdent'. -/
def spellIdentUptoCard : Claim7 := { stood := { row := spellIdentUptoRow, standIns := [], harness := (true, "4ca0e40fc7ea06642f0e0417c846a20a5e93726e8f6d6f082fda9dc759cdda46"), looks := false }, kinds := [], alts := [], laidByText := true, laidKinds := [.data, .data, .data, .data, .pinned], laidTests := true, laidLooks := .later }
def SpellIdentUptoCardSaid : Prop := Claim7.holds Tryz.pinned (.plain (OpenSpec.upto spellIdentSpec)) spellIdentUptoCard

/-- THE SECOND FORM's CARD OF 'jalousielaw4.SpellBack'. -/
def spellBackUptoCard : Claim7 := { stood := { row := spellBackUptoRow, standIns := [], harness := (true, "4ca0e40fc7ea06642f0e0417c846a20a5e93726e8f6d6f082fda9dc759cdda46"), looks := false }, kinds := [], alts := [], laidByText := true, laidKinds := [.data, .data, .pinned], laidTests := true, laidLooks := .later }
def SpellBackUptoCardSaid : Prop := Claim7.holds Tryz.pinned (.plain (OpenSpec.upto spellBackSpec)) spellBackUptoCard

/-- THE SECOND FORM's CARD OF 'jalousielaw4.SpellOne'. -/
def spellOneUptoCard : Claim7 := { stood := { row := spellOneUptoRow, standIns := [], harness := (true, "4ca0e40fc7ea06642f0e0417c846a20a5e93726e8f6d6f082fda9dc759cdda46"), looks := false }, kinds := [], alts := [], laidByText := true, laidKinds := [.data, .data, .pinned], laidTests := true, laidLooks := .later }
def SpellOneUptoCardSaid : Prop := Claim7.holds Tryz.pinned (.plain (OpenSpec.upto spellOneSpec)) spellOneUptoCard

/-- THE SECOND FORM's CARD OF 'jalousielaw4.SpellRow'. -/
def spellRowUptoCard : Claim7 := { stood := { row := spellRowUptoRow, standIns := [], harness := (true, "4ca0e40fc7ea06642f0e0417c846a20a5e93726e8f6d6f082fda9dc759cdda46"), looks := false }, kinds := [], alts := [], laidByText := true, laidKinds := [.data, .data, .pinned], laidTests := true, laidLooks := .later }
def SpellRowUptoCardSaid : Prop := Claim7.holds Tryz.pinned (.plain (OpenSpec.upto spellRowSpec)) spellRowUptoCard
end Rows
end Go.Proofs.YtnfdhgadidacaaaGreatDoor
