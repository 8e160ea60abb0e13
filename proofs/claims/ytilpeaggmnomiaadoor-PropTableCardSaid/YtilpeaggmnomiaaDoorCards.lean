/-
  DERIVED. GIVEN WITH THE SEED: THE CARDS: each row of YtilpeaggmnomiaaDoorRows.lean that lists a variable, with what it lists TIED to the program's text (the seventh form; the later family's looks); each row that meets fmt, with fmt's text TOLD by the authors' own Lean function (tested against real Go, not proved from fmt's source: count such statements apart). THE CARD IS WHAT COUNTS. Prove the row's statement (the work); the ties are given (YtilpeaggmnomiaaDoorTie.lean); close each card by the builder's one call (the guide's Derived/Test/ToyasCard.lean, 'card_holds'). Laid BY PROGRAM, IN A SANDBOX (cutbox-door.mjs). By AI agents, Wed Nov 11 2026. No macro, syntax, notation, axiom, sorry.
-/
import Derived.Test.YtilpeaggmnomiaaDoorRows
import GoSem.ClaimSeven
namespace Go.Proofs.YtilpeaggmnomiaaDoor
namespace Rows

/-- THE TIED CARD OF 'jalousielaw14.PropTable'. -/
def propTableCard : Claim7 := { stood := { row := propTableRow, standIns := [], harness := (true, "f0db910f88ebdc1ba685e84cbe5591411f7b5070499022bdd6f52bfc60edd28c"), looks := false }, kinds := [], alts := [], laidByText := true, laidKinds := [.listed, .data], laidTests := true, laidLooks := .later }
def PropTableCardSaid : Prop := Claim7.holds Tryd.pinned (.plain (OpenSpec.ofChange propTableSpec)) propTableCard

/-- THE TIED CARD OF 'jalousielaw14.PropInitial'. -/
def propInitialCard : Claim7 := { stood := { row := propInitialRow, standIns := [], harness := (true, "f0db910f88ebdc1ba685e84cbe5591411f7b5070499022bdd6f52bfc60edd28c"), looks := false }, kinds := [], alts := [], laidByText := true, laidKinds := [.data, .listed, .data], laidTests := true, laidLooks := .later }
def PropInitialCardSaid : Prop := Claim7.holds Tryd.pinned (.plain (OpenSpec.ofChange propInitialSpec)) propInitialCard

/-- THE SECOND FORM's CARD OF 'jalousielaw14.PropTable'. -/
def propTableUptoCard : Claim7 := { stood := { row := propTableUptoRow, standIns := [], harness := (true, "f0db910f88ebdc1ba685e84cbe5591411f7b5070499022bdd6f52bfc60edd28c"), looks := false }, kinds := [], alts := [], laidByText := true, laidKinds := [.listed, .data], laidTests := true, laidLooks := .later }
def PropTableUptoCardSaid : Prop := Claim7.holds Tryd.pinned (.plain (OpenSpec.upto propTableSpec)) propTableUptoCard

/-- THE SECOND FORM's CARD OF 'jalousielaw14.PropInitial'. -/
def propInitialUptoCard : Claim7 := { stood := { row := propInitialUptoRow, standIns := [], harness := (true, "f0db910f88ebdc1ba685e84cbe5591411f7b5070499022bdd6f52bfc60edd28c"), looks := false }, kinds := [], alts := [], laidByText := true, laidKinds := [.data, .listed, .data], laidTests := true, laidLooks := .later }
def PropInitialUptoCardSaid : Prop := Claim7.holds Tryd.pinned (.plain (OpenSpec.upto propInitialSpec)) propInitialUptoCard
end Rows
end Go.Proofs.YtilpeaggmnomiaaDoor
