/-
  DERIVED. GIVEN WITH THE SEED: THE CARDS: each row of YtkbhmelfbekieaaGreatDoorRows.lean that lists a variable, with what it lists TIED to the program's text (the seventh form; the later family's looks); each row that meets fmt, with fmt's text TOLD by the authors' own Lean function (tested against real Go, not proved from fmt's source: count such statements apart). THE CARD IS WHAT COUNTS. Prove the row's statement (the work); the ties are given (YtkbhmelfbekieaaGreatDoorTie.lean); close each card by the builder's one call (the guide's Derived/Test/ToyasCard.lean, 'card_holds'). Laid BY PROGRAM, IN A SANDBOX (cutbox-door.mjs). By AI agents, Wed Nov 11 2026. No macro, syntax, notation, axiom, sorry.
-/
import Derived.Test.YtkbhmelfbekieaaGreatDoorRows
import GoSem.ClaimSeven
namespace Go.Proofs.YtkbhmelfbekieaaGreatDoor
namespace Rows

/-- THE TIED CARD OF 'jalousielaw9.SelWeighs'. -/
def selWeighsCard : Claim7 := { stood := { row := selWeighsRow, standIns := [], harness := (true, "044c23ba2340a0d8a3df157a561efed1d1bd6663997ea2e46165aa79ba053af4"), looks := false }, kinds := [], alts := [], laidByText := true, laidKinds := [.data], laidTests := true, laidLooks := .later }
def SelWeighsCardSaid : Prop := Claim7.holds Tryz.pinned (.plain (OpenSpec.ofChange selWeighsSpec)) selWeighsCard

/-- THE TIED CARD OF 'jalousielaw9.SelParses'. -/
def selParsesCard : Claim7 := { stood := { row := selParsesRow, standIns := [], harness := (true, "044c23ba2340a0d8a3df157a561efed1d1bd6663997ea2e46165aa79ba053af4"), looks := false }, kinds := [], alts := [], laidByText := true, laidKinds := [.data], laidTests := true, laidLooks := .later }
def SelParsesCardSaid : Prop := Claim7.holds Tryz.pinned (.plain (OpenSpec.ofChange selParsesSpec)) selParsesCard

/-- THE TIED CARD OF 'jalousielaw9.SelReads'. -/
def selReadsCard : Claim7 := { stood := { row := selReadsRow, standIns := [], harness := (true, "044c23ba2340a0d8a3df157a561efed1d1bd6663997ea2e46165aa79ba053af4"), looks := false }, kinds := [], alts := [], laidByText := true, laidKinds := [.data], laidTests := true, laidLooks := .later }
def SelReadsCardSaid : Prop := Claim7.holds Tryz.pinned (.plain (OpenSpec.ofChange selReadsSpec)) selReadsCard

/-- THE SECOND FORM's CARD OF 'jalousielaw9.SelWeighs'. -/
def selWeighsUptoCard : Claim7 := { stood := { row := selWeighsUptoRow, standIns := [], harness := (true, "044c23ba2340a0d8a3df157a561efed1d1bd6663997ea2e46165aa79ba053af4"), looks := false }, kinds := [], alts := [], laidByText := true, laidKinds := [.data], laidTests := true, laidLooks := .later }
def SelWeighsUptoCardSaid : Prop := Claim7.holds Tryz.pinned (.plain (OpenSpec.upto selWeighsSpec)) selWeighsUptoCard

/-- THE SECOND FORM's CARD OF 'jalousielaw9.SelParses'. -/
def selParsesUptoCard : Claim7 := { stood := { row := selParsesUptoRow, standIns := [], harness := (true, "044c23ba2340a0d8a3df157a561efed1d1bd6663997ea2e46165aa79ba053af4"), looks := false }, kinds := [], alts := [], laidByText := true, laidKinds := [.data], laidTests := true, laidLooks := .later }
def SelParsesUptoCardSaid : Prop := Claim7.holds Tryz.pinned (.plain (OpenSpec.upto selParsesSpec)) selParsesUptoCard

/-- THE SECOND FORM's CARD OF 'jalousielaw9.SelReads'. -/
def selReadsUptoCard : Claim7 := { stood := { row := selReadsUptoRow, standIns := [], harness := (true, "044c23ba2340a0d8a3df157a561efed1d1bd6663997ea2e46165aa79ba053af4"), looks := false }, kinds := [], alts := [], laidByText := true, laidKinds := [.data], laidTests := true, laidLooks := .later }
def SelReadsUptoCardSaid : Prop := Claim7.holds Tryz.pinned (.plain (OpenSpec.upto selReadsSpec)) selReadsUptoCard
end Rows
end Go.Proofs.YtkbhmelfbekieaaGreatDoor
