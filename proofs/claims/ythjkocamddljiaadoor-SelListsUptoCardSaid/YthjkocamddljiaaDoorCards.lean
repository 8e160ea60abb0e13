/-
  DERIVED. GIVEN WITH THE SEED: THE CARDS: each row of YthjkocamddljiaaDoorRows.lean that lists a variable, with what it lists TIED to the program's text (the seventh form; the later family's looks); each row that meets fmt, with fmt's text TOLD by the authors' own Lean function (tested against real Go, not proved from fmt's source: count such statements apart). THE CARD IS WHAT COUNTS. Prove the row's statement (the work); the ties are given (YthjkocamddljiaaDoorTie.lean); close each card by the builder's one call (the guide's Derived/Test/ToyasCard.lean, 'card_holds'). Laid BY PROGRAM, IN A SANDBOX (cutbox-door.mjs). By AI agents, Wed Nov 11 2026. No macro, syntax, notation, axiom, sorry.
-/
import Derived.Test.YthjkocamddljiaaDoorRows
import GoSem.ClaimSeven
namespace Go.Proofs.YthjkocamddljiaaDoor
namespace Rows

/-- THE TIED CARD OF 'jalousielaw9.SelLists'. -/
def selListsCard : Claim7 := { stood := { row := selListsRow, standIns := [], harness := (true, "ef62ea55ae47c382f476697c46d286160755e14960561dc2795fea812b8e08f4"), looks := false }, kinds := [], alts := [], laidByText := true, laidKinds := [.data], laidTests := true, laidLooks := .later }
def SelListsCardSaid : Prop := Claim7.holds Tryd.pinned (.plain (OpenSpec.ofChange selListsSpec)) selListsCard

/-- THE SECOND FORM's CARD OF 'jalousielaw9.SelLists'. -/
def selListsUptoCard : Claim7 := { stood := { row := selListsUptoRow, standIns := [], harness := (true, "ef62ea55ae47c382f476697c46d286160755e14960561dc2795fea812b8e08f4"), looks := false }, kinds := [], alts := [], laidByText := true, laidKinds := [.data], laidTests := true, laidLooks := .later }
def SelListsUptoCardSaid : Prop := Claim7.holds Tryd.pinned (.plain (OpenSpec.upto selListsSpec)) selListsUptoCard
end Rows
end Go.Proofs.YthjkocamddljiaaDoor
