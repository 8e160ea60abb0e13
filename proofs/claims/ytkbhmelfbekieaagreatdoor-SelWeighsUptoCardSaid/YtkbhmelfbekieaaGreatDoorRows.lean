/-
  NARROWER THAN 'FOR EVERY INPUT', by the rows' own cells (each row's printed sentence says how): SelWeighs: loops, laid · SelParses: loops, laid · SelReads: laid.
  DERIVED. THE GIVEN ROWS OF THIS SEAT. 3 by the template 'for every input the law returns true; each argument reads behind the call as it read before'; 0 by the template 'total and deterministic' (their statements: YtkbhmelfbekieaaGreatDoorTotals.lean).
  GIVEN WITH THE SEED: the statements are not yours to turn. If you find one false, say at which input.
  Laid BY PROGRAM, IN A SANDBOX (cutbox-rows.mjs): the forced cells as the released guide's own fill.sh prints them over the translation 8c798b5d998805bc… (all of the seat's roots in one cut). By AI agents, Wed Nov 11 2026. No macro, syntax, notation, axiom, sorry.
-/
import Derived.Test.YtkbhmelfbekieaaGreatDoorChecked
import GoSem.Claim
import GoSem.ClaimJoined
import GoSem.ClaimMapViews
import Derived.JoinedTies
import Derived.KernelRfl
namespace Go.Proofs.YtkbhmelfbekieaaGreatDoor
/- THE CELL 'sum', in the pinned program and in every row, IS THE sha256 OF THE DUMP (.gsa) THAT YtkbhmelfbekieaaGreatDoorProg.lean LOADS. Nothing in Lean hashes anything: it is a label: what it is worth is what the hold of that sum in a sandbox is worth. -/
noncomputable def Tryz.pinned : Pinned := { name := "ytkbhmelfbekieaagreatdoor", sum := "8c798b5d998805bc67c90d41f881cf7b35f161d1ea71ca5a2c6b9ffe5c141023", checked := Tryz.checked }
namespace Rows
def none {H : Type} : Left H := { results := [], args := [] }

/- WHAT THE LISTED PACKAGE-LEVEL VARIABLES READ AS WHEN THE CALL BEGINS. Each datum BY PROGRAM (the guide's laid-datum.mjs) off the statement by which the dump's own 'gosem.cut.vars' lays the variable. In a bare row this is a premise. The card (YtkbhmelfbekieaaGreatDoorCards.lean) ties it to the program's text. -/
def laid_jalousie_jalousieref3_kinds {H : Type} : DataW H := .agg [.lit (.int .i64 21), .lit (.int .i64 22), .lit (.int .i64 19), .lit (.int .i64 20), .lit (.int .i64 23), .lit (.int .i64 24), .lit (.int .i64 18), .lit (.int .i64 16), .lit (.int .i64 17)]

/-- 'jalousielaw9.SelWeighs': WHATEVER THE INPUT: true; the input reads as it did. -/
def selWeighsSpec : ChangeSpec := { name := "selWeighs", fn := fun _ => fun
  | [d1, d2, d3, d4] => { results := [.lit (.bool true)], args := [d1, d2, d3, d4] }
  | _ => none }
def selWeighsRow : OpenClaim := { program := "ytkbhmelfbekieaagreatdoor", sum := "8c798b5d998805bc67c90d41f881cf7b35f161d1ea71ca5a2c6b9ffe5c141023", func := "jalousie/jalousielaw9.SelWeighs", spec := "selWeighs", inPlace := ["internal/bytealg.IndexByteString", "internal/bytealg.IndexString"], recurses := true, named := ["internal/bytealg.MaxLen", "jalousie/jalousieref3.kinds"], loops := true, apart := false, laid := [("jalousie/jalousieref3.kinds", laid_jalousie_jalousieref3_kinds)] }
def SelWeighsSaid : Prop := selWeighsRow.holds Tryz.pinned (OpenSpec.ofChange selWeighsSpec)

/-- ITS FALSE NEIGHBOUR: 'it returns false'. Refute it at one input. -/
def selWeighsWrong : ChangeSpec := { name := "selWeighs", fn := fun _ => fun
  | [d1, d2, d3, d4] => { results := [.lit (.bool false)], args := [d1, d2, d3, d4] }
  | _ => none }
def SelWeighsWrongFalsely : Prop := selWeighsRow.holds Tryz.pinned (OpenSpec.ofChange selWeighsWrong)

/-- 'jalousielaw9.SelParses': WHATEVER THE INPUT: true; the input reads as it did. -/
def selParsesSpec : ChangeSpec := { name := "selParses", fn := fun _ => fun
  | [d] => { results := [.lit (.bool true)], args := [d] }
  | _ => none }
def selParsesRow : OpenClaim := { program := "ytkbhmelfbekieaagreatdoor", sum := "8c798b5d998805bc67c90d41f881cf7b35f161d1ea71ca5a2c6b9ffe5c141023", func := "jalousie/jalousielaw9.SelParses", spec := "selParses", inPlace := ["internal/bytealg.IndexByteString", "internal/bytealg.IndexString"], recurses := true, named := ["internal/bytealg.MaxLen", "jalousie/jalousieref3.kinds"], loops := true, apart := false, laid := [("jalousie/jalousieref3.kinds", laid_jalousie_jalousieref3_kinds)] }
def SelParsesSaid : Prop := selParsesRow.holds Tryz.pinned (OpenSpec.ofChange selParsesSpec)

/-- ITS FALSE NEIGHBOUR: 'it returns false'. Refute it at one input. -/
def selParsesWrong : ChangeSpec := { name := "selParses", fn := fun _ => fun
  | [d] => { results := [.lit (.bool false)], args := [d] }
  | _ => none }
def SelParsesWrongFalsely : Prop := selParsesRow.holds Tryz.pinned (OpenSpec.ofChange selParsesWrong)

/-- 'jalousielaw9.SelReads': WHATEVER THE INPUT: true; the input reads as it did. -/
def selReadsSpec : ChangeSpec := { name := "selReads", fn := fun _ => fun
  | [d] => { results := [.lit (.bool true)], args := [d] }
  | _ => none }
def selReadsRow : OpenClaim := { program := "ytkbhmelfbekieaagreatdoor", sum := "8c798b5d998805bc67c90d41f881cf7b35f161d1ea71ca5a2c6b9ffe5c141023", func := "jalousie/jalousielaw9.SelReads", spec := "selReads", inPlace := ["internal/bytealg.IndexByteString", "internal/bytealg.IndexString"], recurses := true, named := ["jalousie/jalousieref3.kinds", "internal/bytealg.MaxLen"], apart := false, laid := [("jalousie/jalousieref3.kinds", laid_jalousie_jalousieref3_kinds)] }
def SelReadsSaid : Prop := selReadsRow.holds Tryz.pinned (OpenSpec.ofChange selReadsSpec)

/-- ITS FALSE NEIGHBOUR: 'it returns false'. Refute it at one input. -/
def selReadsWrong : ChangeSpec := { name := "selReads", fn := fun _ => fun
  | [d] => { results := [.lit (.bool false)], args := [d] }
  | _ => none }
def SelReadsWrongFalsely : Prop := selReadsRow.holds Tryz.pinned (OpenSpec.ofChange selReadsWrong)

/- THE SECOND FORM. 'bulk': how many values and letters a reading holds, each counted each time it is reached (what is shared counts as often as it is met; a slice's spare places count too). A statement '..UptoSaid' is the law's where the arguments, and the package variables that the reading takes, are together of bulk at most 1048576: NARROWER than '..Said'. Prove '..Said' where nothing that the law and all that it calls make is longer than what came in: it says more and counts as full. Else prove '..UptoSaid'. A law counts once. -/
mutual
def uptoBulk {H : Type} : DataW H → Nat
  | .lit (.string bytes) => bytes.length + 1
  | .lit _ => 1
  | .nil => 1
  | .ptr d => uptoBulk d + 1
  | .slice elems spare => uptoBulkAll elems + uptoBulkAll spare + 1
  | .agg parts => uptoBulkAll parts + 1
  | .iface _ d => uptoBulk d + 1
  | .map entries => uptoBulkEntries entries + 1
  | .held _ => 1
def uptoBulkAll {H : Type} : List (DataW H) → Nat
  | [] => 0
  | d :: r => uptoBulk d + uptoBulkAll r
def uptoBulkEntries {H : Type} : List (Lit × DataW H) → Nat
  | [] => 0
  | x :: r => uptoBulkEntry x + uptoBulkEntries r
def uptoBulkEntry {H : Type} : Lit × DataW H → Nat
  | (.string bytes, d) => bytes.length + uptoBulk d + 1
  | (_, d) => uptoBulk d + 1
 end
def uptoSmall : (H : Type) → List (DataW H) → Bool := fun _ ds => decide (uptoBulkAll ds ≤ 1048576)
def OpenSpec.upto (s : _root_.Go.ChangeSpec) : _root_.Go.OpenSpec := { _root_.Go.OpenSpec.ofChange s with cond := some uptoSmall }

/-- 'jalousielaw9.SelWeighs', WHERE WHAT IT READS IS OF BULK AT MOST 1048576: true; the input reads as it did. -/
def selWeighsUptoRow : OpenClaim := { program := "ytkbhmelfbekieaagreatdoor", sum := "8c798b5d998805bc67c90d41f881cf7b35f161d1ea71ca5a2c6b9ffe5c141023", func := "jalousie/jalousielaw9.SelWeighs", spec := "selWeighs", inPlace := ["internal/bytealg.IndexByteString", "internal/bytealg.IndexString"], recurses := true, named := ["internal/bytealg.MaxLen", "jalousie/jalousieref3.kinds"], loops := true, apart := false, laid := [("jalousie/jalousieref3.kinds", laid_jalousie_jalousieref3_kinds)], narrowed := true }
def SelWeighsUptoSaid : Prop := selWeighsUptoRow.holds Tryz.pinned (OpenSpec.upto selWeighsSpec)

/-- 'jalousielaw9.SelParses', WHERE WHAT IT READS IS OF BULK AT MOST 1048576: true; the input reads as it did. -/
def selParsesUptoRow : OpenClaim := { program := "ytkbhmelfbekieaagreatdoor", sum := "8c798b5d998805bc67c90d41f881cf7b35f161d1ea71ca5a2c6b9ffe5c141023", func := "jalousie/jalousielaw9.SelParses", spec := "selParses", inPlace := ["internal/bytealg.IndexByteString", "internal/bytealg.IndexString"], recurses := true, named := ["internal/bytealg.MaxLen", "jalousie/jalousieref3.kinds"], loops := true, apart := false, laid := [("jalousie/jalousieref3.kinds", laid_jalousie_jalousieref3_kinds)], narrowed := true }
def SelParsesUptoSaid : Prop := selParsesUptoRow.holds Tryz.pinned (OpenSpec.upto selParsesSpec)

/-- 'jalousielaw9.SelReads', WHERE WHAT IT READS IS OF BULK AT MOST 1048576: true; the input reads as it did. -/
def selReadsUptoRow : OpenClaim := { program := "ytkbhmelfbekieaagreatdoor", sum := "8c798b5d998805bc67c90d41f881cf7b35f161d1ea71ca5a2c6b9ffe5c141023", func := "jalousie/jalousielaw9.SelReads", spec := "selReads", inPlace := ["internal/bytealg.IndexByteString", "internal/bytealg.IndexString"], recurses := true, named := ["jalousie/jalousieref3.kinds", "internal/bytealg.MaxLen"], apart := false, laid := [("jalousie/jalousieref3.kinds", laid_jalousie_jalousieref3_kinds)], narrowed := true }
def SelReadsUptoSaid : Prop := selReadsUptoRow.holds Tryz.pinned (OpenSpec.upto selReadsSpec)

end Rows
end Go.Proofs.YtkbhmelfbekieaaGreatDoor
