/-
  DERIVED. GIVEN WITH THE SEED: THE CARDS: each row of YtnfdhgadidacaaaDoorRows.lean that lists a variable, with what it lists TIED to the program's text (the seventh form; the later family's looks); each row that meets fmt, with fmt's text TOLD by the authors' own Lean function (tested against real Go, not proved from fmt's source: count such statements apart). THE CARD IS WHAT COUNTS. Prove the row's statement (the work); the ties are given (YtnfdhgadidacaaaDoorTie.lean); close each card by the builder's one call (the guide's Derived/Test/ToyasCard.lean, 'card_holds'). Laid BY PROGRAM, IN A SANDBOX (cutbox-door.mjs). By AI agents, Wed Nov 11 2026. No macro, syntax, notation, axiom, sorry.
-/
import Derived.Test.YtnfdhgadidacaaaDoorRows
import GoSem.ClaimSeven
namespace Go.Proofs.YtnfdhgadidacaaaDoor
namespace Rows

/-- THE TIED CARD OF 'jalousielaw3.TokFew'. -/
def tokFewCard : Claim7 := { stood := { row := tokFewRow, standIns := [], harness := (true, "67de852704b52feb391a5ab51c29ccb1c34c90dcf4ff5651e50e77424e5e92a8"), looks := false }, kinds := [], alts := [], laidByText := true, laidKinds := [.data, .pinned], laidTests := true, laidLooks := .later }
def TokFewCardSaid : Prop := Claim7.holds Tryd.pinned (.plain (OpenSpec.ofChange tokFewSpec)) tokFewCard

/-- THE TIED CARD OF 'jalousielaw3.TokParts'. -/
def tokPartsCard : Claim7 := { stood := { row := tokPartsRow, standIns := [], harness := (true, "67de852704b52feb391a5ab51c29ccb1c34c90dcf4ff5651e50e77424e5e92a8"), looks := false }, kinds := [], alts := [], laidByText := true, laidKinds := [.data, .pinned], laidTests := true, laidLooks := .later }
def TokPartsCardSaid : Prop := Claim7.holds Tryd.pinned (.plain (OpenSpec.ofChange tokPartsSpec)) tokPartsCard

/-- THE TIED CARD OF 'jalousielaw3.TokRemarks'. -/
def tokRemarksCard : Claim7 := { stood := { row := tokRemarksRow, standIns := [], harness := (true, "67de852704b52feb391a5ab51c29ccb1c34c90dcf4ff5651e50e77424e5e92a8"), looks := false }, kinds := [], alts := [], laidByText := true, laidKinds := [.data, .pinned], laidTests := true, laidLooks := .later }
def TokRemarksCardSaid : Prop := Claim7.holds Tryd.pinned (.plain (OpenSpec.ofChange tokRemarksSpec)) tokRemarksCard

/-- THE TIED CARD OF 'jalousielaw4.SpellMay'. -/
def spellMayCard : Claim7 := { stood := { row := spellMayRow, standIns := [], harness := (true, "67de852704b52feb391a5ab51c29ccb1c34c90dcf4ff5651e50e77424e5e92a8"), looks := false }, kinds := [], alts := [], laidByText := true, laidKinds := [.data, .data, .data, .data, .pinned], laidTests := true, laidLooks := .later }
def SpellMayCardSaid : Prop := Claim7.holds Tryd.pinned (.plain (OpenSpec.ofChange spellMaySpec)) spellMayCard

/-- THE SECOND FORM's CARD OF 'jalousielaw3.TokFew'. -/
def tokFewUptoCard : Claim7 := { stood := { row := tokFewUptoRow, standIns := [], harness := (true, "67de852704b52feb391a5ab51c29ccb1c34c90dcf4ff5651e50e77424e5e92a8"), looks := false }, kinds := [], alts := [], laidByText := true, laidKinds := [.data, .pinned], laidTests := true, laidLooks := .later }
def TokFewUptoCardSaid : Prop := Claim7.holds Tryd.pinned (.plain (OpenSpec.upto tokFewSpec)) tokFewUptoCard

/-- THE SECOND FORM's CARD OF 'jalousielaw3.TokParts'. -/
def tokPartsUptoCard : Claim7 := { stood := { row := tokPartsUptoRow, standIns := [], harness := (true, "67de852704b52feb391a5ab51c29ccb1c34c90dcf4ff5651e50e77424e5e92a8"), looks := false }, kinds := [], alts := [], laidByText := true, laidKinds := [.data, .pinned], laidTests := true, laidLooks := .later }
def TokPartsUptoCardSaid : Prop := Claim7.holds Tryd.pinned (.plain (OpenSpec.upto tokPartsSpec)) tokPartsUptoCard

/-- THE SECOND FORM's CARD OF 'jalousielaw3.TokRemarks'. -/
def tokRemarksUptoCard : Claim7 := { stood := { row := tokRemarksUptoRow, standIns := [], harness := (true, "67de852704b52feb391a5ab51c29ccb1c34c90dcf4ff5651e50e77424e5e92a8"), looks := false }, kinds := [], alts := [], laidByText := true, laidKinds := [.data, .pinned], laidTests := true, laidLooks := .later }
def TokRemarksUptoCardSaid : Prop := Claim7.holds Tryd.pinned (.plain (OpenSpec.upto tokRemarksSpec)) tokRemarksUptoCard

/-- THE SECOND FORM's CARD OF 'jalousielaw4.SpellMay'. -/
def spellMayUptoCard : Claim7 := { stood := { row := spellMayUptoRow, standIns := [], harness := (true, "67de852704b52feb391a5ab51c29ccb1c34c90dcf4ff5651e50e77424e5e92a8"), looks := false }, kinds := [], alts := [], laidByText := true, laidKinds := [.data, .data, .data, .data, .pinned], laidTests := true, laidLooks := .later }
def SpellMayUptoCardSaid : Prop := Claim7.holds Tryd.pinned (.plain (OpenSpec.upto spellMaySpec)) spellMayUptoCard
end Rows
end Go.Proofs.YtnfdhgadidacaaaDoor
