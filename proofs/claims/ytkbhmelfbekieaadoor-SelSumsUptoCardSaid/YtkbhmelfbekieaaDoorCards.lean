/-
  DERIVED. GIVEN WITH THE SEED: THE CARDS: each row of YtkbhmelfbekieaaDoorRows.lean that lists a variable, with what it lists TIED to the program's text (the seventh form; the later family's looks); each row that meets fmt, with fmt's text TOLD by the authors' own Lean function (tested against real Go, not proved from fmt's source: count such statements apart). THE CARD IS WHAT COUNTS. Prove the row's statement (the work); the ties are given (YtkbhmelfbekieaaDoorTie.lean); close each card by the builder's one call (the guide's Derived/Test/ToyasCard.lean, 'card_holds'). Laid BY PROGRAM, IN A SANDBOX (cutbox-door.mjs). By AI agents, Wed Nov 11 2026. No macro, syntax, notation, axiom, sorry.
-/
import Derived.Test.YtkbhmelfbekieaaDoorRows
import GoSem.ClaimSeven
namespace Go.Proofs.YtkbhmelfbekieaaDoor
namespace Rows

/-- THE TIED CARD OF 'jalousielaw9.SelMay'. -/
def selMayCard : Claim7 := { stood := { row := selMayRow, standIns := [], harness := (true, "c91eba85d7d2202f3f189575f2616dbc52e361bfbaf185d7ff845a66b6407932"), looks := false }, kinds := [], alts := [], laidByText := true, laidKinds := [.data], laidTests := true, laidLooks := .later }
def SelMayCardSaid : Prop := Claim7.holds Tryd.pinned (.plain (OpenSpec.ofChange selMaySpec)) selMayCard

/-- THE TIED CARD OF 'jalousielaw9.SelSums'. -/
def selSumsCard : Claim7 := { stood := { row := selSumsRow, standIns := [], harness := (true, "c91eba85d7d2202f3f189575f2616dbc52e361bfbaf185d7ff845a66b6407932"), looks := false }, kinds := [], alts := [], laidByText := true, laidKinds := [.data], laidTests := true, laidLooks := .later }
def SelSumsCardSaid : Prop := Claim7.holds Tryd.pinned (.plain (OpenSpec.ofChange selSumsSpec)) selSumsCard

/-- THE TIED CARD OF 'jalousielaw9.SelLists'. -/
def selListsCard : Claim7 := { stood := { row := selListsRow, standIns := [], harness := (true, "c91eba85d7d2202f3f189575f2616dbc52e361bfbaf185d7ff845a66b6407932"), looks := false }, kinds := [], alts := [], laidByText := true, laidKinds := [.data], laidTests := true, laidLooks := .later }
def SelListsCardSaid : Prop := Claim7.holds Tryd.pinned (.plain (OpenSpec.ofChange selListsSpec)) selListsCard

/-- THE SECOND FORM's CARD OF 'jalousielaw9.SelMay'. -/
def selMayUptoCard : Claim7 := { stood := { row := selMayUptoRow, standIns := [], harness := (true, "c91eba85d7d2202f3f189575f2616dbc52e361bfbaf185d7ff845a66b6407932"), looks := false }, kinds := [], alts := [], laidByText := true, laidKinds := [.data], laidTests := true, laidLooks := .later }
def SelMayUptoCardSaid : Prop := Claim7.holds Tryd.pinned (.plain (OpenSpec.upto selMaySpec)) selMayUptoCard

/-- THE SECOND FORM's CARD OF 'jalousielaw9.SelSums'. -/
def selSumsUptoCard : Claim7 := { stood := { row := selSumsUptoRow, standIns := [], harness := (true, "c91eba85d7d2202f3f189575f2616dbc52e361bfbaf185d7ff845a66b6407932"), looks := false }, kinds := [], alts := [], laidByText := true, laidKinds := [.data], laidTests := true, laidLooks := .later }
def SelSumsUptoCardSaid : Prop := Claim7.holds Tryd.pinned (.plain (OpenSpec.upto selSumsSpec)) selSumsUptoCard

/-- THE SECOND FORM's CARD OF 'jalousielaw9.SelLists'. -/
def selListsUptoCard : Claim7 := { stood := { row := selListsUptoRow, standIns := [], harness := (true, "c91eba85d7d2202f3f189575f2616dbc52e361bfbaf185d7ff845a66b6407932"), looks := false }, kinds := [], alts := [], laidByText := true, laidKinds := [.data], laidTests := true, laidLooks := .later }
def SelListsUptoCardSaid : Prop := Claim7.holds Tryd.pinned (.plain (OpenSpec.upto selListsSpec)) selListsUptoCard
end Rows
end Go.Proofs.YtkbhmelfbekieaaDoor
