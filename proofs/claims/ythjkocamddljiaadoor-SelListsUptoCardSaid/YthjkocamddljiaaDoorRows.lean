/-
  NARROWER THAN 'FOR EVERY INPUT', by the rows' own cells (each row's printed sentence says how): SelLists: loops, laid.
  DERIVED. THE GIVEN ROWS OF THIS SEAT. 1 by the template 'for every input the law returns true; each argument reads behind the call as it read before'; 0 by the template 'total and deterministic' (their statements: YthjkocamddljiaaDoorTotals.lean).
  GIVEN WITH THE SEED: the statements are not yours to turn. If you find one false, say at which input.
  Laid BY PROGRAM, IN A SANDBOX (cutbox-rows.mjs): the forced cells as the released guide's own fill.sh prints them over the translation b98523b3af619c74… (all of the seat's roots in one cut). By AI agents, Wed Nov 11 2026. No macro, syntax, notation, axiom, sorry.
-/
import Derived.Test.YthjkocamddljiaaDoorChecked
import GoSem.Claim
import GoSem.ClaimJoined
import GoSem.ClaimMapViews
import Derived.JoinedTies
import Derived.KernelRfl
namespace Go.Proofs.YthjkocamddljiaaDoor
/- THE CELL 'sum', in the pinned program and in every row, IS THE sha256 OF THE DUMP (.gsa) THAT YthjkocamddljiaaDoorProg.lean LOADS. Nothing in Lean hashes anything: it is a label: what it is worth is what the hold of that sum in a sandbox is worth. -/
noncomputable def Tryd.pinned : Pinned := { name := "ythjkocamddljiaadoor", sum := "b98523b3af619c749b71966f931827f0514b13cce90ed77b01d11ebce3939dd8", checked := Tryd.checked }
namespace Rows
def none {H : Type} : Left H := { results := [], args := [] }

/- WHAT THE LISTED PACKAGE-LEVEL VARIABLES READ AS WHEN THE CALL BEGINS. Each datum BY PROGRAM (the guide's laid-datum.mjs) off the statement by which the dump's own 'gosem.cut.vars' lays the variable. In a bare row this is a premise. The card (YthjkocamddljiaaDoorCards.lean) ties it to the program's text. -/
def laid_jalousie_jalousieref3_kinds {H : Type} : DataW H := .agg [.lit (.int .i64 21), .lit (.int .i64 22), .lit (.int .i64 19), .lit (.int .i64 20), .lit (.int .i64 23), .lit (.int .i64 24), .lit (.int .i64 18), .lit (.int .i64 16), .lit (.int .i64 17)]

/-- 'jalousielaw9.SelLists': WHATEVER THE INPUT: true; the input reads as it did. -/
def selListsSpec : ChangeSpec := { name := "selLists", fn := fun _ => fun
  | [d] => { results := [.lit (.bool true)], args := [d] }
  | _ => none }
def selListsRow : OpenClaim := { program := "ythjkocamddljiaadoor", sum := "b98523b3af619c749b71966f931827f0514b13cce90ed77b01d11ebce3939dd8", func := "jalousie/jalousielaw9.SelLists", spec := "selLists", inPlace := ["internal/bytealg.IndexByteString", "internal/bytealg.IndexString"], recurses := true, named := ["internal/bytealg.MaxLen", "jalousie/jalousieref3.kinds"], loops := true, apart := false, laid := [("jalousie/jalousieref3.kinds", laid_jalousie_jalousieref3_kinds)] }
def SelListsSaid : Prop := selListsRow.holds Tryd.pinned (OpenSpec.ofChange selListsSpec)

/-- ITS FALSE NEIGHBOUR: 'it returns false'. Refute it at one input. -/
def selListsWrong : ChangeSpec := { name := "selLists", fn := fun _ => fun
  | [d] => { results := [.lit (.bool false)], args := [d] }
  | _ => none }
def SelListsWrongFalsely : Prop := selListsRow.holds Tryd.pinned (OpenSpec.ofChange selListsWrong)

/- THE SECOND FORM. 'bulk': how many values and letters a reading holds, each counted each time it is reached (what is shared counts as often as it is met; a slice's spare places count too). A statement '..UptoSaid' is the law's where the arguments, and the package variables that the reading takes, are together of bulk at most 1048576: NARROWER than '..Said'. Prove '..Said' where nothing that the law and all that it calls make is longer than what came in: it says more and counts as full. Else prove '..UptoSaid'. A law counts once. -/
mutual
def uptoBulk {H : Type} : DataW H → Nat
  | .lit (.string bytes) => bytes.length + 1
  | .lit _ => 1
  | .nil => 1
  | .ptr d => uptoBulk d + 1
  | .slice elems spare => uptoBulkAll elems + uptoBulkAll spare + 1
  | .agg parts => uptoBulkAll parts + 1
  | .iface _ d => uptoBulk d + 1
  | .map entries => uptoBulkEntries entries + 1
  | .held _ => 1
def uptoBulkAll {H : Type} : List (DataW H) → Nat
  | [] => 0
  | d :: r => uptoBulk d + uptoBulkAll r
def uptoBulkEntries {H : Type} : List (Lit × DataW H) → Nat
  | [] => 0
  | x :: r => uptoBulkEntry x + uptoBulkEntries r
def uptoBulkEntry {H : Type} : Lit × DataW H → Nat
  | (.string bytes, d) => bytes.length + uptoBulk d + 1
  | (_, d) => uptoBulk d + 1
 end
def uptoSmall : (H : Type) → List (DataW H) → Bool := fun _ ds => decide (uptoBulkAll ds ≤ 1048576)
def OpenSpec.upto (s : _root_.Go.ChangeSpec) : _root_.Go.OpenSpec := { _root_.Go.OpenSpec.ofChange s with cond := some uptoSmall }

/-- 'jalousielaw9.SelLists', WHERE WHAT IT READS IS OF BULK AT MOST 1048576: true; the input reads as it did. -/
def selListsUptoRow : OpenClaim := { program := "ythjkocamddljiaadoor", sum := "b98523b3af619c749b71966f931827f0514b13cce90ed77b01d11ebce3939dd8", func := "jalousie/jalousielaw9.SelLists", spec := "selLists", inPlace := ["internal/bytealg.IndexByteString", "internal/bytealg.IndexString"], recurses := true, named := ["internal/bytealg.MaxLen", "jalousie/jalousieref3.kinds"], loops := true, apart := false, laid := [("jalousie/jalousieref3.kinds", laid_jalousie_jalousieref3_kinds)], narrowed := true }
def SelListsUptoSaid : Prop := selListsUptoRow.holds Tryd.pinned (OpenSpec.upto selListsSpec)

end Rows
end Go.Proofs.YthjkocamddljiaaDoor
