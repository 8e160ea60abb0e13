/-
  No cell of these rows narrows 'for every input' (looked for: loops, veiled, ifaces, maps, wideKeys, modest, calm, conditions, laid).
  DERIVED. THE GIVEN ROWS OF THIS SEAT. 8 by the template 'for every input the law returns true; each argument reads behind the call as it read before'; 0 by the template 'total and deterministic' (their statements: YtedlleekcinbcaaTotals.lean).
  GIVEN WITH THE SEED: the statements are not yours to turn. If you find one false, say at which input.
  Laid BY PROGRAM, IN A SANDBOX (cutbox-rows.mjs): the forced cells as the released guide's own fill.sh prints them over the translation 9fc435f4d852a073… (all of the seat's roots in one cut). By AI agents, Wed Nov 11 2026. No macro, syntax, notation, axiom, sorry.
-/
import Derived.Test.YtedlleekcinbcaaChecked
import GoSem.Claim
import GoSem.ClaimJoined
import GoSem.ClaimMapViews
import Derived.JoinedTies
import Derived.KernelRfl
namespace Go.Proofs.Ytedlleekcinbcaa
/- THE CELL 'sum', in the pinned program and in every row, IS THE sha256 OF THE DUMP (.gsa) THAT YtedlleekcinbcaaProg.lean LOADS. Nothing in Lean hashes anything: it is a label: what it is worth is what the hold of that sum in a sandbox is worth. -/
noncomputable def Try.pinned : Pinned := { name := "ytedlleekcinbcaa", sum := "9fc435f4d852a073b9b57b582917a3b378b778dd94a5db61c55334f4f3b75b1e", checked := Try.checked }
namespace Rows
def none {H : Type} : Left H := { results := [], args := [] }

/-- 'jalousielaw2.UtfEncode': WHATEVER THE INPUT: true; the input reads as it did. -/
def utfEncodeSpec : ChangeSpec := { name := "utfEncode", fn := fun _ => fun
  | [d] => { results := [.lit (.bool true)], args := [d] }
  | _ => none }
def utfEncodeRow : OpenClaim := { program := "ytedlleekcinbcaa", sum := "9fc435f4d852a073b9b57b582917a3b378b778dd94a5db61c55334f4f3b75b1e", func := "jalousie/jalousielaw2.UtfEncode", spec := "utfEncode", apart := false }
def UtfEncodeSaid : Prop := utfEncodeRow.holds Try.pinned (OpenSpec.ofChange utfEncodeSpec)

/-- ITS FALSE NEIGHBOUR: 'it returns false'. Refute it at one input. -/
def utfEncodeWrong : ChangeSpec := { name := "utfEncode", fn := fun _ => fun
  | [d] => { results := [.lit (.bool false)], args := [d] }
  | _ => none }
def UtfEncodeWrongFalsely : Prop := utfEncodeRow.holds Try.pinned (OpenSpec.ofChange utfEncodeWrong)

/-- 'jalousielaw3.TokStarts': WHATEVER THE INPUT: true; the input reads as it did. -/
def tokStartsSpec : ChangeSpec := { name := "tokStarts", fn := fun _ => fun
  | [d] => { results := [.lit (.bool true)], args := [d] }
  | _ => none }
def tokStartsRow : OpenClaim := { program := "ytedlleekcinbcaa", sum := "9fc435f4d852a073b9b57b582917a3b378b778dd94a5db61c55334f4f3b75b1e", func := "jalousie/jalousielaw3.TokStarts", spec := "tokStarts", apart := false }
def TokStartsSaid : Prop := tokStartsRow.holds Try.pinned (OpenSpec.ofChange tokStartsSpec)

/-- ITS FALSE NEIGHBOUR: 'it returns false'. Refute it at one input. -/
def tokStartsWrong : ChangeSpec := { name := "tokStarts", fn := fun _ => fun
  | [d] => { results := [.lit (.bool false)], args := [d] }
  | _ => none }
def TokStartsWrongFalsely : Prop := tokStartsRow.holds Try.pinned (OpenSpec.ofChange tokStartsWrong)

/-- 'jalousielaw2.UtfRaw': WHATEVER THE INPUT: true; the input reads as it did. -/
def utfRawSpec : ChangeSpec := { name := "utfRaw", fn := fun _ => fun
  | [d] => { results := [.lit (.bool true)], args := [d] }
  | _ => none }
def utfRawRow : OpenClaim := { program := "ytedlleekcinbcaa", sum := "9fc435f4d852a073b9b57b582917a3b378b778dd94a5db61c55334f4f3b75b1e", func := "jalousie/jalousielaw2.UtfRaw", spec := "utfRaw", apart := false }
def UtfRawSaid : Prop := utfRawRow.holds Try.pinned (OpenSpec.ofChange utfRawSpec)

/-- ITS FALSE NEIGHBOUR: 'it returns false'. Refute it at one input. -/
def utfRawWrong : ChangeSpec := { name := "utfRaw", fn := fun _ => fun
  | [d] => { results := [.lit (.bool false)], args := [d] }
  | _ => none }
def UtfRawWrongFalsely : Prop := utfRawRow.holds Try.pinned (OpenSpec.ofChange utfRawWrong)

/-- 'jalousielaw2.UtfWhole': WHATEVER THE INPUT: true; the input reads as it did. -/
def utfWholeSpec : ChangeSpec := { name := "utfWhole", fn := fun _ => fun
  | [d] => { results := [.lit (.bool true)], args := [d] }
  | _ => none }
def utfWholeRow : OpenClaim := { program := "ytedlleekcinbcaa", sum := "9fc435f4d852a073b9b57b582917a3b378b778dd94a5db61c55334f4f3b75b1e", func := "jalousie/jalousielaw2.UtfWhole", spec := "utfWhole", apart := false }
def UtfWholeSaid : Prop := utfWholeRow.holds Try.pinned (OpenSpec.ofChange utfWholeSpec)

/-- ITS FALSE NEIGHBOUR: 'it returns false'. Refute it at one input. -/
def utfWholeWrong : ChangeSpec := { name := "utfWhole", fn := fun _ => fun
  | [d] => { results := [.lit (.bool false)], args := [d] }
  | _ => none }
def UtfWholeWrongFalsely : Prop := utfWholeRow.holds Try.pinned (OpenSpec.ofChange utfWholeWrong)

/-- 'jalousielaw2.UtfCuts': WHATEVER THE INPUT: true; the input reads as it did. -/
def utfCutsSpec : ChangeSpec := { name := "utfCuts", fn := fun _ => fun
  | [d1, d2] => { results := [.lit (.bool true)], args := [d1, d2] }
  | _ => none }
def utfCutsRow : OpenClaim := { program := "ytedlleekcinbcaa", sum := "9fc435f4d852a073b9b57b582917a3b378b778dd94a5db61c55334f4f3b75b1e", func := "jalousie/jalousielaw2.UtfCuts", spec := "utfCuts", apart := false }
def UtfCutsSaid : Prop := utfCutsRow.holds Try.pinned (OpenSpec.ofChange utfCutsSpec)

/-- ITS FALSE NEIGHBOUR: 'it returns false'. Refute it at one input. -/
def utfCutsWrong : ChangeSpec := { name := "utfCuts", fn := fun _ => fun
  | [d1, d2] => { results := [.lit (.bool false)], args := [d1, d2] }
  | _ => none }
def UtfCutsWrongFalsely : Prop := utfCutsRow.holds Try.pinned (OpenSpec.ofChange utfCutsWrong)

/-- 'jalousielaw2.UtfDecode': WHATEVER THE INPUT: true; the input reads as it did. -/
def utfDecodeSpec : ChangeSpec := { name := "utfDecode", fn := fun _ => fun
  | [d] => { results := [.lit (.bool true)], args := [d] }
  | _ => none }
def utfDecodeRow : OpenClaim := { program := "ytedlleekcinbcaa", sum := "9fc435f4d852a073b9b57b582917a3b378b778dd94a5db61c55334f4f3b75b1e", func := "jalousie/jalousielaw2.UtfDecode", spec := "utfDecode", apart := false }
def UtfDecodeSaid : Prop := utfDecodeRow.holds Try.pinned (OpenSpec.ofChange utfDecodeSpec)

/-- ITS FALSE NEIGHBOUR: 'it returns false'. Refute it at one input. -/
def utfDecodeWrong : ChangeSpec := { name := "utfDecode", fn := fun _ => fun
  | [d] => { results := [.lit (.bool false)], args := [d] }
  | _ => none }
def UtfDecodeWrongFalsely : Prop := utfDecodeRow.holds Try.pinned (OpenSpec.ofChange utfDecodeWrong)

/-- 'jalousielaw2.UtfBack': WHATEVER THE INPUT: true; the input reads as it did. -/
def utfBackSpec : ChangeSpec := { name := "utfBack", fn := fun _ => fun
  | [d1, d2] => { results := [.lit (.bool true)], args := [d1, d2] }
  | _ => none }
def utfBackRow : OpenClaim := { program := "ytedlleekcinbcaa", sum := "9fc435f4d852a073b9b57b582917a3b378b778dd94a5db61c55334f4f3b75b1e", func := "jalousie/jalousielaw2.UtfBack", spec := "utfBack", apart := false }
def UtfBackSaid : Prop := utfBackRow.holds Try.pinned (OpenSpec.ofChange utfBackSpec)

/-- ITS FALSE NEIGHBOUR: 'it returns false'. Refute it at one input. -/
def utfBackWrong : ChangeSpec := { name := "utfBack", fn := fun _ => fun
  | [d1, d2] => { results := [.lit (.bool false)], args := [d1, d2] }
  | _ => none }
def UtfBackWrongFalsely : Prop := utfBackRow.holds Try.pinned (OpenSpec.ofChange utfBackWrong)

/-- 'jalousielaw2.UtfOnce': WHATEVER THE INPUT: true; the input reads as it did. -/
def utfOnceSpec : ChangeSpec := { name := "utfOnce", fn := fun _ => fun
  | [d] => { results := [.lit (.bool true)], args := [d] }
  | _ => none }
def utfOnceRow : OpenClaim := { program := "ytedlleekcinbcaa", sum := "9fc435f4d852a073b9b57b582917a3b378b778dd94a5db61c55334f4f3b75b1e", func := "jalousie/jalousielaw2.UtfOnce", spec := "utfOnce", apart := false }
def UtfOnceSaid : Prop := utfOnceRow.holds Try.pinned (OpenSpec.ofChange utfOnceSpec)

/-- ITS FALSE NEIGHBOUR: 'it returns false'. Refute it at one input. -/
def utfOnceWrong : ChangeSpec := { name := "utfOnce", fn := fun _ => fun
  | [d] => { results := [.lit (.bool false)], args := [d] }
  | _ => none }
def UtfOnceWrongFalsely : Prop := utfOnceRow.holds Try.pinned (OpenSpec.ofChange utfOnceWrong)

/- THE SECOND FORM. 'bulk': how many values and letters a reading holds, each counted each time it is reached (what is shared counts as often as it is met; a slice's spare places count too). A statement '..UptoSaid' is the law's where the arguments, and the package variables that the reading takes, are together of bulk at most 1048576: NARROWER than '..Said'. Prove '..Said' where nothing that the law and all that it calls make is longer than what came in: it says more and counts as full. Else prove '..UptoSaid'. A law counts once. -/
mutual
def uptoBulk {H : Type} : DataW H → Nat
  | .lit (.string bytes) => bytes.length + 1
  | .lit _ => 1
  | .nil => 1
  | .ptr d => uptoBulk d + 1
  | .slice elems spare => uptoBulkAll elems + uptoBulkAll spare + 1
  | .agg parts => uptoBulkAll parts + 1
  | .iface _ d => uptoBulk d + 1
  | .map entries => uptoBulkEntries entries + 1
  | .held _ => 1
def uptoBulkAll {H : Type} : List (DataW H) → Nat
  | [] => 0
  | d :: r => uptoBulk d + uptoBulkAll r
def uptoBulkEntries {H : Type} : List (Lit × DataW H) → Nat
  | [] => 0
  | x :: r => uptoBulkEntry x + uptoBulkEntries r
def uptoBulkEntry {H : Type} : Lit × DataW H → Nat
  | (.string bytes, d) => bytes.length + uptoBulk d + 1
  | (_, d) => uptoBulk d + 1
 end
def uptoSmall : (H : Type) → List (DataW H) → Bool := fun _ ds => decide (uptoBulkAll ds ≤ 1048576)
def OpenSpec.upto (s : _root_.Go.ChangeSpec) : _root_.Go.OpenSpec := { _root_.Go.OpenSpec.ofChange s with cond := some uptoSmall }

/-- 'jalousielaw2.UtfEncode', WHERE WHAT IT READS IS OF BULK AT MOST 1048576: true; the input reads as it did. -/
def utfEncodeUptoRow : OpenClaim := { program := "ytedlleekcinbcaa", sum := "9fc435f4d852a073b9b57b582917a3b378b778dd94a5db61c55334f4f3b75b1e", func := "jalousie/jalousielaw2.UtfEncode", spec := "utfEncode", apart := false, narrowed := true }
def UtfEncodeUptoSaid : Prop := utfEncodeUptoRow.holds Try.pinned (OpenSpec.upto utfEncodeSpec)

/-- 'jalousielaw3.TokStarts', WHERE WHAT IT READS IS OF BULK AT MOST 1048576: true; the input reads as it did. -/
def tokStartsUptoRow : OpenClaim := { program := "ytedlleekcinbcaa", sum := "9fc435f4d852a073b9b57b582917a3b378b778dd94a5db61c55334f4f3b75b1e", func := "jalousie/jalousielaw3.TokStarts", spec := "tokStarts", apart := false, narrowed := true }
def TokStartsUptoSaid : Prop := tokStartsUptoRow.holds Try.pinned (OpenSpec.upto tokStartsSpec)

/-- 'jalousielaw2.UtfRaw', WHERE WHAT IT READS IS OF BULK AT MOST 1048576: true; the input reads as it did. -/
def utfRawUptoRow : OpenClaim := { program := "ytedlleekcinbcaa", sum := "9fc435f4d852a073b9b57b582917a3b378b778dd94a5db61c55334f4f3b75b1e", func := "jalousie/jalousielaw2.UtfRaw", spec := "utfRaw", apart := false, narrowed := true }
def UtfRawUptoSaid : Prop := utfRawUptoRow.holds Try.pinned (OpenSpec.upto utfRawSpec)

/-- 'jalousielaw2.UtfWhole', WHERE WHAT IT READS IS OF BULK AT MOST 1048576: true; the input reads as it did. -/
def utfWholeUptoRow : OpenClaim := { program := "ytedlleekcinbcaa", sum := "9fc435f4d852a073b9b57b582917a3b378b778dd94a5db61c55334f4f3b75b1e", func := "jalousie/jalousielaw2.UtfWhole", spec := "utfWhole", apart := false, narrowed := true }
def UtfWholeUptoSaid : Prop := utfWholeUptoRow.holds Try.pinned (OpenSpec.upto utfWholeSpec)

/-- 'jalousielaw2.UtfCuts', WHERE WHAT IT READS IS OF BULK AT MOST 1048576: true; the input reads as it did. -/
def utfCutsUptoRow : OpenClaim := { program := "ytedlleekcinbcaa", sum := "9fc435f4d852a073b9b57b582917a3b378b778dd94a5db61c55334f4f3b75b1e", func := "jalousie/jalousielaw2.UtfCuts", spec := "utfCuts", apart := false, narrowed := true }
def UtfCutsUptoSaid : Prop := utfCutsUptoRow.holds Try.pinned (OpenSpec.upto utfCutsSpec)

/-- 'jalousielaw2.UtfDecode', WHERE WHAT IT READS IS OF BULK AT MOST 1048576: true; the input reads as it did. -/
def utfDecodeUptoRow : OpenClaim := { program := "ytedlleekcinbcaa", sum := "9fc435f4d852a073b9b57b582917a3b378b778dd94a5db61c55334f4f3b75b1e", func := "jalousie/jalousielaw2.UtfDecode", spec := "utfDecode", apart := false, narrowed := true }
def UtfDecodeUptoSaid : Prop := utfDecodeUptoRow.holds Try.pinned (OpenSpec.upto utfDecodeSpec)

/-- 'jalousielaw2.UtfBack', WHERE WHAT IT READS IS OF BULK AT MOST 1048576: true; the input reads as it did. -/
def utfBackUptoRow : OpenClaim := { program := "ytedlleekcinbcaa", sum := "9fc435f4d852a073b9b57b582917a3b378b778dd94a5db61c55334f4f3b75b1e", func := "jalousie/jalousielaw2.UtfBack", spec := "utfBack", apart := false, narrowed := true }
def UtfBackUptoSaid : Prop := utfBackUptoRow.holds Try.pinned (OpenSpec.upto utfBackSpec)

/-- 'jalousielaw2.UtfOnce', WHERE WHAT IT READS IS OF BULK AT MOST 1048576: true; the input reads as it did. -/
def utfOnceUptoRow : OpenClaim := { program := "ytedlleekcinbcaa", sum := "9fc435f4d852a073b9b57b582917a3b378b778dd94a5db61c55334f4f3b75b1e", func := "jalousie/jalousielaw2.UtfOnce", spec := "utfOnce", apart := false, narrowed := true }
def UtfOnceUptoSaid : Prop := utfOnceUptoRow.holds Try.pinned (OpenSpec.upto utfOnceSpec)

end Rows
end Go.Proofs.Ytedlleekcinbcaa
