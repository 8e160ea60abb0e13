/-
  DERIVED. GIVEN WITH THE SEED: THE CARDS: each row of YtnipmgpehgchnaaGreatDoorRows.lean that lists a variable, with what it lists TIED to the program's text (the seventh form; the later family's looks); each row that meets fmt, with fmt's text TOLD by the authors' own Lean function (tested against real Go, not proved from fmt's source: count such statements apart). THE CARD IS WHAT COUNTS. Prove the row's statement (the work); the ties are given (YtnipmgpehgchnaaGreatDoorTie.lean); close each card by the builder's one call (the guide's Derived/Test/ToyasCard.lean, 'card_holds'). Laid BY PROGRAM, IN A SANDBOX (cutbox-door.mjs). By AI agents, Wed Nov 11 2026. No macro, syntax, notation, axiom, sorry.
-/
import Derived.Test.YtnipmgpehgchnaaGreatDoorRows
import GoSem.ClaimSeven
namespace Go.Proofs.YtnipmgpehgchnaaGreatDoor
namespace Rows

/-- THE TIED CARD OF 'jalousielaw14.PropVars'. -/
def propVarsCard : Claim7 := { stood := { row := propVarsRow, standIns := [], harness := (true, "7c730ce01d4ce017cf596a07b8a64ab9a3ff71a3c68f727bc0db89e2e2cf730a"), looks := false }, kinds := [], alts := [], laidByText := true, laidKinds := [.data, .listed, .data], laidTests := true, laidLooks := .later }
def PropVarsCardSaid : Prop := Claim7.holds Tryz.pinned (.plain (OpenSpec.ofChange propVarsSpec)) propVarsCard

/-- THE TIED CARD OF 'jalousielaw14.PropNames'. -/
def propNamesCard : Claim7 := { stood := { row := propNamesRow, standIns := [], harness := (true, "7c730ce01d4ce017cf596a07b8a64ab9a3ff71a3c68f727bc0db89e2e2cf730a"), looks := false }, kinds := [], alts := [], laidByText := true, laidKinds := [.data, .listed, .data], laidTests := true, laidLooks := .later }
def PropNamesCardSaid : Prop := Claim7.holds Tryz.pinned (.plain (OpenSpec.ofChange propNamesSpec)) propNamesCard

/-- THE TIED CARD OF 'jalousielaw14.PropCase'. -/
def propCaseCard : Claim7 := { stood := { row := propCaseRow, standIns := [], harness := (true, "7c730ce01d4ce017cf596a07b8a64ab9a3ff71a3c68f727bc0db89e2e2cf730a"), looks := false }, kinds := [], alts := [], laidByText := true, laidKinds := [.data, .listed, .data], laidTests := true, laidLooks := .later }
def PropCaseCardSaid : Prop := Claim7.holds Tryz.pinned (.plain (OpenSpec.ofChange propCaseSpec)) propCaseCard

/-- THE TIED CARD OF 'jalousielaw14.PropKinds'. -/
def propKindsCard : Claim7 := { stood := { row := propKindsRow, standIns := [], harness := (true, "7c730ce01d4ce017cf596a07b8a64ab9a3ff71a3c68f727bc0db89e2e2cf730a"), looks := false }, kinds := [], alts := [], laidByText := true, laidKinds := [.data, .listed, .data], laidTests := true, laidLooks := .later }
def PropKindsCardSaid : Prop := Claim7.holds Tryz.pinned (.plain (OpenSpec.ofChange propKindsSpec)) propKindsCard

/-- THE SECOND FORM's CARD OF 'jalousielaw14.PropVars'. -/
def propVarsUptoCard : Claim7 := { stood := { row := propVarsUptoRow, standIns := [], harness := (true, "7c730ce01d4ce017cf596a07b8a64ab9a3ff71a3c68f727bc0db89e2e2cf730a"), looks := false }, kinds := [], alts := [], laidByText := true, laidKinds := [.data, .listed, .data], laidTests := true, laidLooks := .later }
def PropVarsUptoCardSaid : Prop := Claim7.holds Tryz.pinned (.plain (OpenSpec.upto propVarsSpec)) propVarsUptoCard

/-- THE SECOND FORM's CARD OF 'jalousielaw14.PropNames'. -/
def propNamesUptoCard : Claim7 := { stood := { row := propNamesUptoRow, standIns := [], harness := (true, "7c730ce01d4ce017cf596a07b8a64ab9a3ff71a3c68f727bc0db89e2e2cf730a"), looks := false }, kinds := [], alts := [], laidByText := true, laidKinds := [.data, .listed, .data], laidTests := true, laidLooks := .later }
def PropNamesUptoCardSaid : Prop := Claim7.holds Tryz.pinned (.plain (OpenSpec.upto propNamesSpec)) propNamesUptoCard

/-- THE SECOND FORM's CARD OF 'jalousielaw14.PropCase'. -/
def propCaseUptoCard : Claim7 := { stood := { row := propCaseUptoRow, standIns := [], harness := (true, "7c730ce01d4ce017cf596a07b8a64ab9a3ff71a3c68f727bc0db89e2e2cf730a"), looks := false }, kinds := [], alts := [], laidByText := true, laidKinds := [.data, .listed, .data], laidTests := true, laidLooks := .later }
def PropCaseUptoCardSaid : Prop := Claim7.holds Tryz.pinned (.plain (OpenSpec.upto propCaseSpec)) propCaseUptoCard

/-- THE SECOND FORM's CARD OF 'jalousielaw14.PropKinds'. -/
def propKindsUptoCard : Claim7 := { stood := { row := propKindsUptoRow, standIns := [], harness := (true, "7c730ce01d4ce017cf596a07b8a64ab9a3ff71a3c68f727bc0db89e2e2cf730a"), looks := false }, kinds := [], alts := [], laidByText := true, laidKinds := [.data, .listed, .data], laidTests := true, laidLooks := .later }
def PropKindsUptoCardSaid : Prop := Claim7.holds Tryz.pinned (.plain (OpenSpec.upto propKindsSpec)) propKindsUptoCard
end Rows
end Go.Proofs.YtnipmgpehgchnaaGreatDoor
