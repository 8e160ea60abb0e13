/- Facts of the program that the evaluation asks for, written by a program. -/
import Derived.Test.YtnfdhgadidacaaaDoorRows
import Derived.Lib.MapLaws
import Derived.Lib.DecodeN
import Derived.Lib.TrailingZeros
import Derived.Lib.ItoaNum
import Derived.Lib.Repeat
import Derived.Lib.Bytealg
import Derived.Test.YtnfdhgadidacaaaDoorTa
/- Facts of the program that the evaluation asks for: the live slots of each function, its types. Written by a program (gen.py). -/
namespace Go.Lift.D4
set_option linter.unusedVariables false
set_option linter.unusedSimpArgs false
open Go.Proofs
set_option maxRecDepth 20000

/-- what the package-level variables hold: math/bits.deBruijn64tab, internal/strconv.uint64pow10, unicode/utf8.first, unicode/utf8.acceptRanges -/
instance gtab : GTab := ⟨fun n => match n with | 1 => some (Go.Lib.deBruijn64tab.map fun c : Nat => .v (.int .u8 (c : Int))) | 2 => some (Go.Lib.pow10Tab.map fun c => .v (.int .u64 c)) | 3 => some ((List.range 256).map fun c => .v (.int .u8 (Go.Lib.firstT c))) | 4 => some ((List.range 16).flatMap fun i => [.v (.int .u8 (Go.Lib.accLo i)), .v (.int .u8 (Go.Lib.accHi i))]) | _ => none⟩
/-- where a byte stands in a text -/
noncomputable def idxP (lo : Nat) (args : List V) (h : Heap) : Option (V × Heap) := match args with
  | [.v (.string s), .v (.int .u8 c)] => some (.v (.int .i64 (Go.Lib.indexByte s.data.toList c.toNat.toUInt8)), h)
  | _ => none
/-- how many zeros end a number's bits -/
noncomputable def ctzP (lo : Nat) (args : List V) (h : Heap) : Option (V × Heap) := match args with
  | [.v (.int .u64 x)] => if 0 ≤ x ∧ x < 18446744073709551616 then some (.v (.int .i64 (Go.Lib.ctz 64 x.toNat)), h) else none
  | _ => none
/-- a byte, so many times -/
noncomputable def repP (lo : Nat) (args : List V) (h : Heap) : Option (V × Heap) := match args with
  | [.v (.string s), .v (.int .i64 n)] => if s.size = 1 ∧ 0 ≤ n ∧ n ≤ 1000000 then some (.v (.string ⟨(Go.Lib.repeatL s.data.toList n.toNat).toArray⟩), h) else none
  | _ => none
/-- a number in decimal digits -/
noncomputable def fmtP (lo : Nat) (args : List V) (h : Heap) : Option (V × Heap) := match args with
  | [.v (.int .u64 x), .v (.int .i64 b)] => if b = 10 ∧ 0 ≤ x ∧ x < 18446744073709551616 then some (.v (.string ⟨(Go.Lib.decDigits x.toNat).toArray⟩), h) else none
  | _ => none
noncomputable def primz : Nat → Option (Nat → List V → Heap → Option (V × Heap)) := fun n => match n with | 106 => some idxP | 86 => some ctzP | 61 => some repP | 51 => some fmtP | _ => none
attribute [go_sem] Tryd.underlying2
@[go_sem] theorem z2 : tsize Tryd.prog 2 = 1 := by kernel_rfl
@[go_sem] theorem k2 : ttag Tryd.prog 2 = some false := by kernel_rfl
@[go_sem] theorem y2 : Tryd.prog.bytesOf 2 = 8 := by kernel_rfl
@[go_sem] theorem s2 : isStr Tryd.prog 2 = false := by kernel_rfl
@[go_sem] theorem j2 : isI32 Tryd.prog 2 = false := by kernel_rfl
@[go_sem] theorem w2 : isU8 Tryd.prog 2 = false := by kernel_rfl
@[go_sem] theorem o2 : tzero Tryd.prog 2 = some [.int .i64 0] := by kernel_rfl
@[go_sem] theorem i2 : (Tryd.prog.info? 2).isSome = true := by kernel_rfl
attribute [go_sem] Tryd.underlying3
@[go_sem] theorem z3 : tsize Tryd.prog 3 = 1 := by kernel_rfl
@[go_sem] theorem k3 : ttag Tryd.prog 3 = some false := by kernel_rfl
@[go_sem] theorem y3 : Tryd.prog.bytesOf 3 = 8 := by kernel_rfl
@[go_sem] theorem s3 : isStr Tryd.prog 3 = false := by kernel_rfl
@[go_sem] theorem j3 : isI32 Tryd.prog 3 = false := by kernel_rfl
@[go_sem] theorem w3 : isU8 Tryd.prog 3 = false := by kernel_rfl
@[go_sem] theorem o3 : tzero Tryd.prog 3 = some [.int .i64 0] := by kernel_rfl
@[go_sem] theorem i3 : (Tryd.prog.info? 3).isSome = true := by kernel_rfl
attribute [go_sem] Tryd.underlying4
@[go_sem] theorem z4 : tsize Tryd.prog 4 = 1 := by kernel_rfl
@[go_sem] theorem k4 : ttag Tryd.prog 4 = some false := by kernel_rfl
@[go_sem] theorem y4 : Tryd.prog.bytesOf 4 = 1 := by kernel_rfl
@[go_sem] theorem s4 : isStr Tryd.prog 4 = false := by kernel_rfl
@[go_sem] theorem j4 : isI32 Tryd.prog 4 = false := by kernel_rfl
@[go_sem] theorem w4 : isU8 Tryd.prog 4 = false := by kernel_rfl
@[go_sem] theorem o4 : tzero Tryd.prog 4 = some [.bool false] := by kernel_rfl
@[go_sem] theorem i4 : (Tryd.prog.info? 4).isSome = true := by kernel_rfl
attribute [go_sem] Tryd.underlying5
@[go_sem] theorem z5 : tsize Tryd.prog 5 = 1 := by kernel_rfl
@[go_sem] theorem k5 : ttag Tryd.prog 5 = some false := by kernel_rfl
@[go_sem] theorem y5 : Tryd.prog.bytesOf 5 = 1 := by kernel_rfl
@[go_sem] theorem s5 : isStr Tryd.prog 5 = false := by kernel_rfl
@[go_sem] theorem j5 : isI32 Tryd.prog 5 = false := by kernel_rfl
@[go_sem] theorem w5 : isU8 Tryd.prog 5 = true := by kernel_rfl
@[go_sem] theorem o5 : tzero Tryd.prog 5 = some [.int .u8 0] := by kernel_rfl
@[go_sem] theorem i5 : (Tryd.prog.info? 5).isSome = true := by kernel_rfl
attribute [go_sem] Tryd.underlying9
@[go_sem] theorem z9 : tsize Tryd.prog 9 = 1 := by kernel_rfl
@[go_sem] theorem k9 : ttag Tryd.prog 9 = some false := by kernel_rfl
@[go_sem] theorem y9 : Tryd.prog.bytesOf 9 = 16 := by kernel_rfl
@[go_sem] theorem s9 : isStr Tryd.prog 9 = true := by kernel_rfl
@[go_sem] theorem j9 : isI32 Tryd.prog 9 = false := by kernel_rfl
@[go_sem] theorem w9 : isU8 Tryd.prog 9 = false := by kernel_rfl
@[go_sem] theorem o9 : tzero Tryd.prog 9 = some [.string ByteArray.empty] := by kernel_rfl
@[go_sem] theorem i9 : (Tryd.prog.info? 9).isSome = true := by kernel_rfl
attribute [go_sem] Tryd.underlying21
@[go_sem] theorem z21 : tsize Tryd.prog 21 = 1 := by kernel_rfl
@[go_sem] theorem k21 : ttag Tryd.prog 21 = some false := by kernel_rfl
@[go_sem] theorem y21 : Tryd.prog.bytesOf 21 = 4 := by kernel_rfl
@[go_sem] theorem s21 : isStr Tryd.prog 21 = false := by kernel_rfl
@[go_sem] theorem j21 : isI32 Tryd.prog 21 = true := by kernel_rfl
@[go_sem] theorem w21 : isU8 Tryd.prog 21 = false := by kernel_rfl
@[go_sem] theorem o21 : tzero Tryd.prog 21 = some [.int .i32 0] := by kernel_rfl
@[go_sem] theorem i21 : (Tryd.prog.info? 21).isSome = true := by kernel_rfl
attribute [go_sem] Tryd.underlying22
@[go_sem] theorem z22 : tsize Tryd.prog 22 = 1 := by kernel_rfl
@[go_sem] theorem k22 : ttag Tryd.prog 22 = some false := by kernel_rfl
@[go_sem] theorem y22 : Tryd.prog.bytesOf 22 = 24 := by kernel_rfl
@[go_sem] theorem s22 : isStr Tryd.prog 22 = false := by kernel_rfl
@[go_sem] theorem j22 : isI32 Tryd.prog 22 = false := by kernel_rfl
@[go_sem] theorem w22 : isU8 Tryd.prog 22 = false := by kernel_rfl
@[go_sem] theorem o22 : tzero Tryd.prog 22 = some [.slice none 0 0] := by kernel_rfl
@[go_sem] theorem i22 : (Tryd.prog.info? 22).isSome = true := by kernel_rfl
attribute [go_sem] Tryd.underlying26
@[go_sem] theorem z26 : tsize Tryd.prog 26 = 2 := by kernel_rfl
@[go_sem] theorem k26 : ttag Tryd.prog 26 = some true := by kernel_rfl
@[go_sem] theorem y26 : Tryd.prog.bytesOf 26 = 16 := by kernel_rfl
@[go_sem] theorem s26 : isStr Tryd.prog 26 = false := by kernel_rfl
@[go_sem] theorem j26 : isI32 Tryd.prog 26 = false := by kernel_rfl
@[go_sem] theorem w26 : isU8 Tryd.prog 26 = false := by kernel_rfl
@[go_sem] theorem o26 : tzero Tryd.prog 26 = some [.int .i64 0, .int .i64 0] := by kernel_rfl
@[go_sem] theorem i26 : (Tryd.prog.info? 26).isSome = true := by kernel_rfl
@[go_sem] theorem x26 : structOk Tryd.prog 26 = true := by kernel_rfl
@[go_sem] theorem g26x0 : fieldOff Tryd.prog 26 0 = some (0, 2) := by kernel_rfl
@[go_sem] theorem g26x1 : fieldOff Tryd.prog 26 1 = some (1, 2) := by kernel_rfl
attribute [go_sem] Tryd.underlying28
@[go_sem] theorem z28 : tsize Tryd.prog 28 = 6 := by kernel_rfl
@[go_sem] theorem k28 : ttag Tryd.prog 28 = some true := by kernel_rfl
@[go_sem] theorem y28 : Tryd.prog.bytesOf 28 = 48 := by kernel_rfl
@[go_sem] theorem s28 : isStr Tryd.prog 28 = false := by kernel_rfl
@[go_sem] theorem j28 : isI32 Tryd.prog 28 = false := by kernel_rfl
@[go_sem] theorem w28 : isU8 Tryd.prog 28 = false := by kernel_rfl
@[go_sem] theorem o28 : tzero Tryd.prog 28 = some [.int .i64 0, .string ByteArray.empty, .int .i64 0, .int .i64 0, .bool false, .bool false] := by kernel_rfl
@[go_sem] theorem i28 : (Tryd.prog.info? 28).isSome = true := by kernel_rfl
@[go_sem] theorem x28 : structOk Tryd.prog 28 = true := by kernel_rfl
@[go_sem] theorem g28x0 : fieldOff Tryd.prog 28 0 = some (0, 3) := by kernel_rfl
@[go_sem] theorem g28x1 : fieldOff Tryd.prog 28 1 = some (1, 9) := by kernel_rfl
@[go_sem] theorem g28x2 : fieldOff Tryd.prog 28 2 = some (2, 26) := by kernel_rfl
@[go_sem] theorem g28x3 : fieldOff Tryd.prog 28 3 = some (4, 4) := by kernel_rfl
@[go_sem] theorem g28x4 : fieldOff Tryd.prog 28 4 = some (5, 4) := by kernel_rfl
attribute [go_sem] Tryd.underlying31
@[go_sem] theorem z31 : tsize Tryd.prog 31 = 1 := by kernel_rfl
@[go_sem] theorem k31 : ttag Tryd.prog 31 = some false := by kernel_rfl
@[go_sem] theorem y31 : Tryd.prog.bytesOf 31 = 24 := by kernel_rfl
@[go_sem] theorem s31 : isStr Tryd.prog 31 = false := by kernel_rfl
@[go_sem] theorem j31 : isI32 Tryd.prog 31 = false := by kernel_rfl
@[go_sem] theorem w31 : isU8 Tryd.prog 31 = false := by kernel_rfl
@[go_sem] theorem o31 : tzero Tryd.prog 31 = some [.slice none 0 0] := by kernel_rfl
@[go_sem] theorem i31 : (Tryd.prog.info? 31).isSome = true := by kernel_rfl
attribute [go_sem] Tryd.underlying50
@[go_sem] theorem z50 : tsize Tryd.prog 50 = 1 := by kernel_rfl
@[go_sem] theorem k50 : ttag Tryd.prog 50 = some false := by kernel_rfl
@[go_sem] theorem y50 : Tryd.prog.bytesOf 50 = 8 := by kernel_rfl
@[go_sem] theorem s50 : isStr Tryd.prog 50 = false := by kernel_rfl
@[go_sem] theorem j50 : isI32 Tryd.prog 50 = false := by kernel_rfl
@[go_sem] theorem w50 : isU8 Tryd.prog 50 = false := by kernel_rfl
@[go_sem] theorem o50 : tzero Tryd.prog 50 = some [.int .i64 0] := by kernel_rfl
@[go_sem] theorem i50 : (Tryd.prog.info? 50).isSome = true := by kernel_rfl
attribute [go_sem] Tryd.underlying64
@[go_sem] theorem z64 : tsize Tryd.prog 64 = 1 := by kernel_rfl
@[go_sem] theorem k64 : ttag Tryd.prog 64 = some false := by kernel_rfl
@[go_sem] theorem y64 : Tryd.prog.bytesOf 64 = 8 := by kernel_rfl
@[go_sem] theorem s64 : isStr Tryd.prog 64 = false := by kernel_rfl
@[go_sem] theorem j64 : isI32 Tryd.prog 64 = false := by kernel_rfl
@[go_sem] theorem w64 : isU8 Tryd.prog 64 = false := by kernel_rfl
@[go_sem] theorem o64 : tzero Tryd.prog 64 = some [.int .u64 0] := by kernel_rfl
@[go_sem] theorem i64 : (Tryd.prog.info? 64).isSome = true := by kernel_rfl
attribute [go_sem] Tryd.underlying69
@[go_sem] theorem z69 : tsize Tryd.prog 69 = 1 := by kernel_rfl
@[go_sem] theorem k69 : ttag Tryd.prog 69 = some false := by kernel_rfl
@[go_sem] theorem y69 : Tryd.prog.bytesOf 69 = 8 := by kernel_rfl
@[go_sem] theorem s69 : isStr Tryd.prog 69 = false := by kernel_rfl
@[go_sem] theorem j69 : isI32 Tryd.prog 69 = false := by kernel_rfl
@[go_sem] theorem w69 : isU8 Tryd.prog 69 = false := by kernel_rfl
@[go_sem] theorem o69 : tzero Tryd.prog 69 = some [.int .u64 0] := by kernel_rfl
@[go_sem] theorem i69 : (Tryd.prog.info? 69).isSome = true := by kernel_rfl
attribute [go_sem] Tryd.underlying76
@[go_sem] theorem z76 : tsize Tryd.prog 76 = 2 := by kernel_rfl
@[go_sem] theorem k76 : ttag Tryd.prog 76 = some true := by kernel_rfl
@[go_sem] theorem y76 : Tryd.prog.bytesOf 76 = 16 := by kernel_rfl
@[go_sem] theorem s76 : isStr Tryd.prog 76 = false := by kernel_rfl
@[go_sem] theorem j76 : isI32 Tryd.prog 76 = false := by kernel_rfl
@[go_sem] theorem w76 : isU8 Tryd.prog 76 = false := by kernel_rfl
@[go_sem] theorem o76 : tzero Tryd.prog 76 = some [.int .u64 0, .int .u64 0] := by kernel_rfl
@[go_sem] theorem i76 : (Tryd.prog.info? 76).isSome = true := by kernel_rfl
attribute [go_sem] Tryd.underlying77
@[go_sem] theorem z77 : tsize Tryd.prog 77 = 4 := by kernel_rfl
@[go_sem] theorem k77 : ttag Tryd.prog 77 = some true := by kernel_rfl
@[go_sem] theorem y77 : Tryd.prog.bytesOf 77 = 32 := by kernel_rfl
@[go_sem] theorem s77 : isStr Tryd.prog 77 = false := by kernel_rfl
@[go_sem] theorem j77 : isI32 Tryd.prog 77 = false := by kernel_rfl
@[go_sem] theorem w77 : isU8 Tryd.prog 77 = false := by kernel_rfl
@[go_sem] theorem o77 : tzero Tryd.prog 77 = some [.int .u64 0, .int .u64 0, .int .u64 0, .int .u64 0] := by kernel_rfl
@[go_sem] theorem i77 : (Tryd.prog.info? 77).isSome = true := by kernel_rfl
attribute [go_sem] Tryd.underlying102
@[go_sem] theorem z102 : tsize Tryd.prog 102 = 20 := by kernel_rfl
@[go_sem] theorem k102 : ttag Tryd.prog 102 = some true := by kernel_rfl
@[go_sem] theorem y102 : Tryd.prog.bytesOf 102 = 20 := by kernel_rfl
@[go_sem] theorem s102 : isStr Tryd.prog 102 = false := by kernel_rfl
@[go_sem] theorem j102 : isI32 Tryd.prog 102 = false := by kernel_rfl
@[go_sem] theorem w102 : isU8 Tryd.prog 102 = false := by kernel_rfl
@[go_sem] theorem o102 : tzero Tryd.prog 102 = some [.int .u8 0, .int .u8 0, .int .u8 0, .int .u8 0, .int .u8 0, .int .u8 0, .int .u8 0, .int .u8 0, .int .u8 0, .int .u8 0, .int .u8 0, .int .u8 0, .int .u8 0, .int .u8 0, .int .u8 0, .int .u8 0, .int .u8 0, .int .u8 0, .int .u8 0, .int .u8 0] := by kernel_rfl
@[go_sem] theorem i102 : (Tryd.prog.info? 102).isSome = true := by kernel_rfl
attribute [go_sem] Tryd.underlying105
@[go_sem] theorem z105 : tsize Tryd.prog 105 = 256 := by kernel_rfl
@[go_sem] theorem k105 : ttag Tryd.prog 105 = some true := by kernel_rfl
@[go_sem] theorem y105 : Tryd.prog.bytesOf 105 = 256 := by kernel_rfl
@[go_sem] theorem s105 : isStr Tryd.prog 105 = false := by kernel_rfl
@[go_sem] theorem j105 : isI32 Tryd.prog 105 = false := by kernel_rfl
@[go_sem] theorem w105 : isU8 Tryd.prog 105 = false := by kernel_rfl
@[go_sem] theorem o105 : tzero Tryd.prog 105 = some [.bool false, .bool false, .bool false, .bool false, .bool false, .bool false, .bool false, .bool false, .bool false, .bool false, .bool false, .bool false, .bool false, .bool false, .bool false, .bool false, .bool false, .bool false, .bool false, .bool false, .bool false, .bool false, .bool false, .bool false, .bool false, .bool false, .bool false, .bool false, .bool false, .bool false, .bool false, .bool false, .bool false, .bool false, .bool false, .bool false, .bool false, .bool false, .bool false, .bool false, .bool false, .bool false, .bool false, .bool false, .bool false, .bool false, .bool false, .bool false, .bool false, .bool false, .bool false, .bool false, .bool false, .bool false, .bool false, .bool false, .bool false, .bool false, .bool false, .bool false, .bool false, .bool false, .bool false, .bool false, .bool false, .bool false, .bool false, .bool false, .bool false, .bool false, .bool false, .bool false, .bool false, .bool false, .bool false, .bool false, .bool false, .bool false, .bool false, .bool false, .bool false, .bool false, .bool false, .bool false, .bool false, .bool false, .bool false, .bool false, .bool false, .bool false, .bool false, .bool false, .bool false, .bool false, .bool false, .bool false, .bool false, .bool false, .bool false, .bool false, .bool false, .bool false, .bool false, .bool false, .bool false, .bool false, .bool false, .bool false, .bool false, .bool false, .bool false, .bool false, .bool false, .bool false, .bool false, .bool false, .bool false, .bool false, .bool false, .bool false, .bool false, .bool false, .bool false, .bool false, .bool false, .bool false, .bool false, .bool false, .bool false, .bool false, .bool false, .bool false, .bool false, .bool false, .bool false, .bool false, .bool false, .bool false, .bool false, .bool false, .bool false, .bool false, .bool false, .bool false, .bool false, .bool false, .bool false, .bool false, .bool false, .bool false, .bool false, .bool false, .bool false, .bool false, .bool false, .bool false, .bool false, .bool false, .bool false, .bool false, .bool false, .bool false, .bool false, .bool false, .bool false, .bool false, .bool false, .bool false, .bool false, .bool false, .bool false, .bool false, .bool false, .bool false, .bool false, .bool false, .bool false, .bool false, .bool false, .bool false, .bool false, .bool false, .bool false, .bool false, .bool false, .bool false, .bool false, .bool false, .bool false, .bool false, .bool false, .bool false, .bool false, .bool false, .bool false, .bool false, .bool false, .bool false, .bool false, .bool false, .bool false, .bool false, .bool false, .bool false, .bool false, .bool false, .bool false, .bool false, .bool false, .bool false, .bool false, .bool false, .bool false, .bool false, .bool false, .bool false, .bool false, .bool false, .bool false, .bool false, .bool false, .bool false, .bool false, .bool false, .bool false, .bool false, .bool false, .bool false, .bool false, .bool false, .bool false, .bool false, .bool false, .bool false, .bool false, .bool false, .bool false, .bool false, .bool false, .bool false, .bool false, .bool false, .bool false, .bool false, .bool false, .bool false, .bool false, .bool false, .bool false, .bool false, .bool false, .bool false, .bool false, .bool false, .bool false, .bool false] := by kernel_rfl
@[go_sem] theorem i105 : (Tryd.prog.info? 105).isSome = true := by kernel_rfl

def h6 : Hint := ⟨(fun id => match id with | 0 => some [2, 3] | 1 => some [4] | _ => none), (fun _ => none), (fun id => match id with | 1 => some 23 | _ => none), [], false, (fun _ => none)⟩
@[go_sem] theorem h6x : h6.mix = (fun _ => none) := rfl
@[go_sem] theorem h6l : h6.live = (fun id => match id with | 0 => some [2, 3] | 1 => some [4] | _ => none) := rfl
@[go_sem] theorem h6k : h6.keep = (fun _ => none) := rfl
@[go_sem] theorem h6t : h6.tail = (fun id => match id with | 1 => some 23 | _ => none) := rfl
@[go_sem] theorem h6v : h6.vars = [] := rfl
@[go_sem] theorem h6m : h6.mutc = false := rfl
def h11 : Hint := ⟨(fun id => match id with | 0 => some [1] | 1 => some [1, 3] | 2 => some [1, 3] | 3 => some [1, 3, 4] | 4 => some [1, 3, 4, 8] | 5 => some [1, 3, 4, 8, 9] | 6 => some [1, 3, 4, 8, 9] | 7 => some [1, 3, 4, 8, 9] | 8 => some [1, 3, 4, 8, 9] | 9 => some [1, 3, 4, 8, 9] | 10 => some [1, 3, 4, 8, 22] | 11 => some [3, 4] | 12 => some [1, 3, 4, 8, 9] | 13 => some [1, 3, 4, 8, 43] | 14 => some [1, 3, 4, 8, 43] | 15 => some [1, 3, 4, 8, 9] | 16 => some [1, 3, 4, 8, 50] | 17 => some [1, 3, 4, 8, 9] | 18 => some [1, 3, 4, 8, 56] | 19 => some [3, 4] | 20 => some [1, 3, 4, 8, 9] | 21 => some [1, 3, 4, 8, 74] | 22 => some [1, 3, 4, 8, 74] | 23 => some [3, 4] | 24 => some [1, 3, 4, 8, 9] | 25 => some [3, 4, 8, 82] | 26 => some [3, 4, 8, 82] | 27 => some [3, 4, 8, 82] | 28 => some [3, 4, 8, 82] | 29 => some [3, 4, 8, 82] | 30 => some [3, 4, 8, 82] | 31 => some [3, 4, 8, 82] | 32 => some [3, 4, 8, 82] | 33 => some [3, 4, 8, 91] | 34 => some [3, 4, 8, 91] | 35 => some [3, 4, 8, 91] | 36 => some [3, 4, 8, 91] | 37 => some [3, 4, 8, 91] | 38 => some [3, 4, 8, 91] | 39 => some [2] | _ => none), (fun _ => none), (fun _ => none), [], false, (fun _ => none)⟩
@[go_sem] theorem h11x : h11.mix = (fun _ => none) := rfl
@[go_sem] theorem h11l : h11.live = (fun id => match id with | 0 => some [1] | 1 => some [1, 3] | 2 => some [1, 3] | 3 => some [1, 3, 4] | 4 => some [1, 3, 4, 8] | 5 => some [1, 3, 4, 8, 9] | 6 => some [1, 3, 4, 8, 9] | 7 => some [1, 3, 4, 8, 9] | 8 => some [1, 3, 4, 8, 9] | 9 => some [1, 3, 4, 8, 9] | 10 => some [1, 3, 4, 8, 22] | 11 => some [3, 4] | 12 => some [1, 3, 4, 8, 9] | 13 => some [1, 3, 4, 8, 43] | 14 => some [1, 3, 4, 8, 43] | 15 => some [1, 3, 4, 8, 9] | 16 => some [1, 3, 4, 8, 50] | 17 => some [1, 3, 4, 8, 9] | 18 => some [1, 3, 4, 8, 56] | 19 => some [3, 4] | 20 => some [1, 3, 4, 8, 9] | 21 => some [1, 3, 4, 8, 74] | 22 => some [1, 3, 4, 8, 74] | 23 => some [3, 4] | 24 => some [1, 3, 4, 8, 9] | 25 => some [3, 4, 8, 82] | 26 => some [3, 4, 8, 82] | 27 => some [3, 4, 8, 82] | 28 => some [3, 4, 8, 82] | 29 => some [3, 4, 8, 82] | 30 => some [3, 4, 8, 82] | 31 => some [3, 4, 8, 82] | 32 => some [3, 4, 8, 82] | 33 => some [3, 4, 8, 91] | 34 => some [3, 4, 8, 91] | 35 => some [3, 4, 8, 91] | 36 => some [3, 4, 8, 91] | 37 => some [3, 4, 8, 91] | 38 => some [3, 4, 8, 91] | 39 => some [2] | _ => none) := rfl
@[go_sem] theorem h11k : h11.keep = (fun _ => none) := rfl
@[go_sem] theorem h11t : h11.tail = (fun _ => none) := rfl
@[go_sem] theorem h11v : h11.vars = [] := rfl
@[go_sem] theorem h11m : h11.mutc = false := rfl
def h12 : Hint := ⟨(fun id => match id with | 0 => some [1] | 1 => some [1, 3] | 2 => some [1, 3, 4, 5] | 3 => some [1, 3, 4, 5, 18] | 4 => some [1, 3, 4, 5, 18, 19] | 5 => some [1, 3, 4, 5, 18, 19] | 6 => some [1, 3, 4, 5, 18, 19] | 7 => some [1, 3, 4, 5] | 8 => some [2] | 9 => some [1, 3, 4, 5, 18, 37] | 10 => some [1, 3, 4, 5] | 11 => some [1, 4, 56] | 12 => some [2] | 13 => some [2] | 14 => some [1, 3, 4, 5, 18, 82] | 15 => some [1, 3, 4, 5, 18, 82] | 16 => some [1, 3, 5] | 17 => some [2] | 18 => some [1, 3, 4, 5, 18, 94] | 19 => some [1, 3] | 20 => some [2] | 21 => some [1, 3, 4, 5, 18, 107] | 22 => some [1, 3, 4, 5, 18, 107] | 23 => some [1, 3, 4, 5, 18, 107] | 24 => some [1, 3, 4, 5] | 25 => some [1, 3, 4, 5, 119] | 26 => some [1, 3, 4, 5] | 27 => some [1, 3, 129] | 28 => some [2] | 29 => some [1, 3, 7] | 30 => some [2] | 31 => some [2] | _ => none), (fun _ => none), (fun id => match id with | 10 => some 5 | 24 => some 5 | _ => none), [], false, (fun id => match id with | 10 => some ⟨[0, 1, 2, 3, 4, 6], [], .head 0 (.head 1 (.head 4 (.alt (.one 2 (.alt (.one 3 (.one 5 (.head 6 (.one 7 (.fin))))) (.one 5 (.head 3 (.head 6 (.one 7 (.fin))))))) (.one 5 (.head 2 (.head 3 (.head 6 (.one 7 (.fin)))))))))⟩ | 24 => some ⟨[0, 1, 2, 3, 4, 6], [], .head 0 (.head 1 (.head 4 (.alt (.one 2 (.alt (.one 3 (.one 5 (.head 6 (.one 7 (.fin))))) (.one 5 (.head 3 (.head 6 (.one 7 (.fin))))))) (.one 5 (.head 2 (.head 3 (.head 6 (.one 7 (.fin)))))))))⟩ | _ => none)⟩
@[go_sem] theorem h12x : h12.mix = (fun id => match id with | 10 => some ⟨[0, 1, 2, 3, 4, 6], [], .head 0 (.head 1 (.head 4 (.alt (.one 2 (.alt (.one 3 (.one 5 (.head 6 (.one 7 (.fin))))) (.one 5 (.head 3 (.head 6 (.one 7 (.fin))))))) (.one 5 (.head 2 (.head 3 (.head 6 (.one 7 (.fin)))))))))⟩ | 24 => some ⟨[0, 1, 2, 3, 4, 6], [], .head 0 (.head 1 (.head 4 (.alt (.one 2 (.alt (.one 3 (.one 5 (.head 6 (.one 7 (.fin))))) (.one 5 (.head 3 (.head 6 (.one 7 (.fin))))))) (.one 5 (.head 2 (.head 3 (.head 6 (.one 7 (.fin)))))))))⟩ | _ => none) := rfl
@[go_sem] theorem h12l : h12.live = (fun id => match id with | 0 => some [1] | 1 => some [1, 3] | 2 => some [1, 3, 4, 5] | 3 => some [1, 3, 4, 5, 18] | 4 => some [1, 3, 4, 5, 18, 19] | 5 => some [1, 3, 4, 5, 18, 19] | 6 => some [1, 3, 4, 5, 18, 19] | 7 => some [1, 3, 4, 5] | 8 => some [2] | 9 => some [1, 3, 4, 5, 18, 37] | 10 => some [1, 3, 4, 5] | 11 => some [1, 4, 56] | 12 => some [2] | 13 => some [2] | 14 => some [1, 3, 4, 5, 18, 82] | 15 => some [1, 3, 4, 5, 18, 82] | 16 => some [1, 3, 5] | 17 => some [2] | 18 => some [1, 3, 4, 5, 18, 94] | 19 => some [1, 3] | 20 => some [2] | 21 => some [1, 3, 4, 5, 18, 107] | 22 => some [1, 3, 4, 5, 18, 107] | 23 => some [1, 3, 4, 5, 18, 107] | 24 => some [1, 3, 4, 5] | 25 => some [1, 3, 4, 5, 119] | 26 => some [1, 3, 4, 5] | 27 => some [1, 3, 129] | 28 => some [2] | 29 => some [1, 3, 7] | 30 => some [2] | 31 => some [2] | _ => none) := rfl
@[go_sem] theorem h12k : h12.keep = (fun _ => none) := rfl
@[go_sem] theorem h12t : h12.tail = (fun id => match id with | 10 => some 5 | 24 => some 5 | _ => none) := rfl
@[go_sem] theorem h12v : h12.vars = [] := rfl
@[go_sem] theorem h12m : h12.mutc = false := rfl
def h13 : Hint := ⟨(fun id => match id with | 0 => some [2, 3] | 1 => some [3, 6] | 2 => some [3, 6, 7] | 3 => some [4] | 4 => some [3, 6, 12] | 5 => some [3, 6, 12] | 6 => some [3, 6, 12] | 7 => some [3, 6, 12] | 8 => some [3, 6, 12] | 9 => some [3, 6, 12] | 10 => some [20] | 11 => some [20, 21] | 12 => some [20, 21] | 13 => some [20, 21] | 14 => some [20, 21] | 15 => some [20, 21] | 16 => some [20, 21] | 17 => some [20, 21] | 18 => some [20, 21] | 19 => some [20, 21] | 20 => some [20, 21] | 21 => some [4] | 22 => some [4] | _ => none), (fun _ => none), (fun _ => none), [], false, (fun _ => none)⟩
@[go_sem] theorem h13x : h13.mix = (fun _ => none) := rfl
@[go_sem] theorem h13l : h13.live = (fun id => match id with | 0 => some [2, 3] | 1 => some [3, 6] | 2 => some [3, 6, 7] | 3 => some [4] | 4 => some [3, 6, 12] | 5 => some [3, 6, 12] | 6 => some [3, 6, 12] | 7 => some [3, 6, 12] | 8 => some [3, 6, 12] | 9 => some [3, 6, 12] | 10 => some [20] | 11 => some [20, 21] | 12 => some [20, 21] | 13 => some [20, 21] | 14 => some [20, 21] | 15 => some [20, 21] | 16 => some [20, 21] | 17 => some [20, 21] | 18 => some [20, 21] | 19 => some [20, 21] | 20 => some [20, 21] | 21 => some [4] | 22 => some [4] | _ => none) := rfl
@[go_sem] theorem h13k : h13.keep = (fun _ => none) := rfl
@[go_sem] theorem h13t : h13.tail = (fun _ => none) := rfl
@[go_sem] theorem h13v : h13.vars = [] := rfl
@[go_sem] theorem h13m : h13.mutc = false := rfl
def h14 : Hint := ⟨(fun id => match id with | 0 => some [2, 3] | 1 => some [2, 3, 12] | 2 => some [4] | 3 => some [3, 14] | 4 => some [4] | 5 => some [3, 14, 15] | 6 => some [3, 14, 15] | 7 => some [3, 14, 15] | 8 => some [3, 14, 15] | 9 => some [3, 14, 15] | 10 => some [3, 14, 15] | 11 => some [23] | 12 => some [23, 24] | 13 => some [23, 24] | 14 => some [23, 24] | 15 => some [23, 24] | 16 => some [23, 24] | 17 => some [23, 24] | 18 => some [23, 24] | 19 => some [23, 24] | 20 => some [23, 24] | 21 => some [23, 24] | 22 => some [4] | 23 => some [4] | _ => none), (fun _ => none), (fun _ => none), [], false, (fun _ => none)⟩
@[go_sem] theorem h14x : h14.mix = (fun _ => none) := rfl
@[go_sem] theorem h14l : h14.live = (fun id => match id with | 0 => some [2, 3] | 1 => some [2, 3, 12] | 2 => some [4] | 3 => some [3, 14] | 4 => some [4] | 5 => some [3, 14, 15] | 6 => some [3, 14, 15] | 7 => some [3, 14, 15] | 8 => some [3, 14, 15] | 9 => some [3, 14, 15] | 10 => some [3, 14, 15] | 11 => some [23] | 12 => some [23, 24] | 13 => some [23, 24] | 14 => some [23, 24] | 15 => some [23, 24] | 16 => some [23, 24] | 17 => some [23, 24] | 18 => some [23, 24] | 19 => some [23, 24] | 20 => some [23, 24] | 21 => some [23, 24] | 22 => some [4] | 23 => some [4] | _ => none) := rfl
@[go_sem] theorem h14k : h14.keep = (fun _ => none) := rfl
@[go_sem] theorem h14t : h14.tail = (fun _ => none) := rfl
@[go_sem] theorem h14v : h14.vars = [] := rfl
@[go_sem] theorem h14m : h14.mutc = false := rfl
def h19 : Hint := ⟨(fun id => match id with | 0 => some [0] | 1 => some [2] | _ => none), (fun _ => none), (fun _ => none), [], false, (fun _ => none)⟩
@[go_sem] theorem h19x : h19.mix = (fun _ => none) := rfl
@[go_sem] theorem h19l : h19.live = (fun id => match id with | 0 => some [0] | 1 => some [2] | _ => none) := rfl
@[go_sem] theorem h19k : h19.keep = (fun _ => none) := rfl
@[go_sem] theorem h19t : h19.tail = (fun _ => none) := rfl
@[go_sem] theorem h19v : h19.vars = [] := rfl
@[go_sem] theorem h19m : h19.mutc = false := rfl
def h20 : Hint := ⟨(fun id => match id with | 0 => some [0] | 1 => some [0, 14] | 2 => some [2] | 3 => some [2] | _ => none), (fun _ => none), (fun _ => none), [], false, (fun _ => none)⟩
@[go_sem] theorem h20x : h20.mix = (fun _ => none) := rfl
@[go_sem] theorem h20l : h20.live = (fun id => match id with | 0 => some [0] | 1 => some [0, 14] | 2 => some [2] | 3 => some [2] | _ => none) := rfl
@[go_sem] theorem h20k : h20.keep = (fun _ => none) := rfl
@[go_sem] theorem h20t : h20.tail = (fun _ => none) := rfl
@[go_sem] theorem h20v : h20.vars = [] := rfl
@[go_sem] theorem h20m : h20.mutc = false := rfl
def h21 : Hint := ⟨(fun id => match id with | 0 => some [0] | 1 => some [0, 6] | 2 => some [2] | 3 => some [0, 3] | 4 => some [2] | _ => none), (fun _ => none), (fun _ => none), [], false, (fun _ => none)⟩
@[go_sem] theorem h21x : h21.mix = (fun _ => none) := rfl
@[go_sem] theorem h21l : h21.live = (fun id => match id with | 0 => some [0] | 1 => some [0, 6] | 2 => some [2] | 3 => some [0, 3] | 4 => some [2] | _ => none) := rfl
@[go_sem] theorem h21k : h21.keep = (fun _ => none) := rfl
@[go_sem] theorem h21t : h21.tail = (fun _ => none) := rfl
@[go_sem] theorem h21v : h21.vars = [] := rfl
@[go_sem] theorem h21m : h21.mutc = false := rfl
def h22 : Hint := ⟨(fun id => match id with | 0 => some [1] | 1 => some [4] | 2 => some [2] | _ => none), (fun _ => none), (fun _ => none), [], false, (fun _ => none)⟩
@[go_sem] theorem h22x : h22.mix = (fun _ => none) := rfl
@[go_sem] theorem h22l : h22.live = (fun id => match id with | 0 => some [1] | 1 => some [4] | 2 => some [2] | _ => none) := rfl
@[go_sem] theorem h22k : h22.keep = (fun _ => none) := rfl
@[go_sem] theorem h22t : h22.tail = (fun _ => none) := rfl
@[go_sem] theorem h22v : h22.vars = [] := rfl
@[go_sem] theorem h22m : h22.mutc = false := rfl
def h23 : Hint := ⟨(fun id => match id with | 0 => some [0] | 1 => some [0, 4] | 2 => some [0, 4, 10, 11, 12] | 3 => some [0, 4, 10, 11, 12, 13] | 4 => some [0, 4, 6, 10, 11, 12] | 5 => some [0, 4, 10, 11, 12, 17] | 6 => some [2, 3] | 7 => some [0, 4, 10, 11, 12] | 8 => some [2, 3] | _ => none), (fun _ => none), (fun _ => none), [], false, (fun _ => none)⟩
@[go_sem] theorem h23x : h23.mix = (fun _ => none) := rfl
@[go_sem] theorem h23l : h23.live = (fun id => match id with | 0 => some [0] | 1 => some [0, 4] | 2 => some [0, 4, 10, 11, 12] | 3 => some [0, 4, 10, 11, 12, 13] | 4 => some [0, 4, 6, 10, 11, 12] | 5 => some [0, 4, 10, 11, 12, 17] | 6 => some [2, 3] | 7 => some [0, 4, 10, 11, 12] | 8 => some [2, 3] | _ => none) := rfl
@[go_sem] theorem h23k : h23.keep = (fun _ => none) := rfl
@[go_sem] theorem h23t : h23.tail = (fun _ => none) := rfl
@[go_sem] theorem h23v : h23.vars = [] := rfl
@[go_sem] theorem h23m : h23.mutc = false := rfl
def h24 : Hint := ⟨(fun id => match id with | 0 => some [0] | 1 => some [2] | _ => none), (fun _ => none), (fun _ => none), [], false, (fun _ => none)⟩
@[go_sem] theorem h24x : h24.mix = (fun _ => none) := rfl
@[go_sem] theorem h24l : h24.live = (fun id => match id with | 0 => some [0] | 1 => some [2] | _ => none) := rfl
@[go_sem] theorem h24k : h24.keep = (fun _ => none) := rfl
@[go_sem] theorem h24t : h24.tail = (fun _ => none) := rfl
@[go_sem] theorem h24v : h24.vars = [] := rfl
@[go_sem] theorem h24m : h24.mutc = false := rfl
def h25 : Hint := ⟨(fun id => match id with | 0 => some [0] | 1 => some [0, 7] | 2 => some [2] | 3 => some [3] | 4 => some [3, 10] | 5 => some [3, 10, 11] | 6 => some [3, 4, 10] | 7 => some [3, 10, 16] | 8 => some [2] | 9 => some [3, 10] | 10 => some [2] | _ => none), (fun _ => none), (fun _ => none), [], false, (fun _ => none)⟩
@[go_sem] theorem h25x : h25.mix = (fun _ => none) := rfl
@[go_sem] theorem h25l : h25.live = (fun id => match id with | 0 => some [0] | 1 => some [0, 7] | 2 => some [2] | 3 => some [3] | 4 => some [3, 10] | 5 => some [3, 10, 11] | 6 => some [3, 4, 10] | 7 => some [3, 10, 16] | 8 => some [2] | 9 => some [3, 10] | 10 => some [2] | _ => none) := rfl
@[go_sem] theorem h25k : h25.keep = (fun _ => none) := rfl
@[go_sem] theorem h25t : h25.tail = (fun _ => none) := rfl
@[go_sem] theorem h25v : h25.vars = [] := rfl
@[go_sem] theorem h25m : h25.mutc = false := rfl
def h26 : Hint := ⟨(fun id => match id with | 0 => some [1, 2] | 1 => some [1, 2, 23] | 2 => some [4, 5] | 3 => some [1, 2, 26] | 4 => some [27] | 5 => some [4, 5] | 6 => some [4, 5] | 7 => some [1, 2, 6, 7, 8] | 8 => some [1, 2, 6, 7, 8, 35] | 9 => some [1, 2, 6, 7, 8, 43] | 10 => some [4, 5] | 11 => some [1, 2, 6, 7, 8] | 12 => some [1, 2, 6, 7, 8, 48] | 13 => some [1, 2, 6, 7, 8] | 14 => some [1, 2, 6, 7, 8, 9] | 15 => some [1, 2, 6, 7, 8, 9, 53] | 16 => some [1, 2, 6, 7, 8, 9] | 17 => some [1, 2, 6, 7, 8, 9] | 18 => some [1, 2, 6, 7, 8, 9] | 19 => some [1, 2, 6, 7, 8, 9, 59] | 20 => some [4, 5] | 21 => some [1, 2, 6, 7, 8] | 22 => some [1, 2, 8, 10] | 23 => some [1, 2, 8, 10, 11] | 24 => some [1, 2, 8, 10, 11, 75] | 25 => some [1, 2, 8, 10, 11] | 26 => some [1, 2, 8, 10, 79] | 27 => some [4, 5] | 28 => some [1, 2, 8, 10, 83] | 29 => some [1, 2, 8, 10, 79] | 30 => some [1, 2, 8, 10, 12] | 31 => some [2, 8, 10, 12, 93] | 32 => some [2, 8, 10, 12] | 33 => some [2, 8, 10, 12, 97] | 34 => some [2, 8, 10, 12, 97] | 35 => some [2, 8, 10, 12, 93] | 36 => some [12, 110] | 37 => some [12, 110] | 38 => some [4, 5] | _ => none), (fun _ => none), (fun id => match id with | 7 => some 6 | _ => none), [], false, (fun id => match id with | 7 => some ⟨[0, 1, 2, 3, 4, 5], [], .head 0 (.head 1 (.head 2 (.alt (.one 3 (.alt (.one 4 (.alt (.one 5 (.one 6 (.one 7 (.one 8 (.fin))))) (.one 6 (.head 5 (.one 7 (.one 8 (.fin))))))) (.one 6 (.head 4 (.head 5 (.one 7 (.one 8 (.fin)))))))) (.one 6 (.head 3 (.head 4 (.head 5 (.one 7 (.one 8 (.fin))))))))))⟩ | _ => none)⟩
@[go_sem] theorem h26x : h26.mix = (fun id => match id with | 7 => some ⟨[0, 1, 2, 3, 4, 5], [], .head 0 (.head 1 (.head 2 (.alt (.one 3 (.alt (.one 4 (.alt (.one 5 (.one 6 (.one 7 (.one 8 (.fin))))) (.one 6 (.head 5 (.one 7 (.one 8 (.fin))))))) (.one 6 (.head 4 (.head 5 (.one 7 (.one 8 (.fin)))))))) (.one 6 (.head 3 (.head 4 (.head 5 (.one 7 (.one 8 (.fin))))))))))⟩ | _ => none) := rfl
@[go_sem] theorem h26l : h26.live = (fun id => match id with | 0 => some [1, 2] | 1 => some [1, 2, 23] | 2 => some [4, 5] | 3 => some [1, 2, 26] | 4 => some [27] | 5 => some [4, 5] | 6 => some [4, 5] | 7 => some [1, 2, 6, 7, 8] | 8 => some [1, 2, 6, 7, 8, 35] | 9 => some [1, 2, 6, 7, 8, 43] | 10 => some [4, 5] | 11 => some [1, 2, 6, 7, 8] | 12 => some [1, 2, 6, 7, 8, 48] | 13 => some [1, 2, 6, 7, 8] | 14 => some [1, 2, 6, 7, 8, 9] | 15 => some [1, 2, 6, 7, 8, 9, 53] | 16 => some [1, 2, 6, 7, 8, 9] | 17 => some [1, 2, 6, 7, 8, 9] | 18 => some [1, 2, 6, 7, 8, 9] | 19 => some [1, 2, 6, 7, 8, 9, 59] | 20 => some [4, 5] | 21 => some [1, 2, 6, 7, 8] | 22 => some [1, 2, 8, 10] | 23 => some [1, 2, 8, 10, 11] | 24 => some [1, 2, 8, 10, 11, 75] | 25 => some [1, 2, 8, 10, 11] | 26 => some [1, 2, 8, 10, 79] | 27 => some [4, 5] | 28 => some [1, 2, 8, 10, 83] | 29 => some [1, 2, 8, 10, 79] | 30 => some [1, 2, 8, 10, 12] | 31 => some [2, 8, 10, 12, 93] | 32 => some [2, 8, 10, 12] | 33 => some [2, 8, 10, 12, 97] | 34 => some [2, 8, 10, 12, 97] | 35 => some [2, 8, 10, 12, 93] | 36 => some [12, 110] | 37 => some [12, 110] | 38 => some [4, 5] | _ => none) := rfl
@[go_sem] theorem h26k : h26.keep = (fun _ => none) := rfl
@[go_sem] theorem h26t : h26.tail = (fun id => match id with | 7 => some 6 | _ => none) := rfl
@[go_sem] theorem h26v : h26.vars = [] := rfl
@[go_sem] theorem h26m : h26.mutc = false := rfl
def h43 : Hint := ⟨(fun id => match id with | 0 => some [0] | 1 => some [0, 7] | 2 => some [0, 3, 4] | 3 => some [0, 4, 36] | 4 => some [2] | 5 => some [0] | 6 => some [2] | _ => none), (fun _ => none), (fun _ => none), [], false, (fun _ => none)⟩
@[go_sem] theorem h43x : h43.mix = (fun _ => none) := rfl
@[go_sem] theorem h43l : h43.live = (fun id => match id with | 0 => some [0] | 1 => some [0, 7] | 2 => some [0, 3, 4] | 3 => some [0, 4, 36] | 4 => some [2] | 5 => some [0] | 6 => some [2] | _ => none) := rfl
@[go_sem] theorem h43k : h43.keep = (fun _ => none) := rfl
@[go_sem] theorem h43t : h43.tail = (fun _ => none) := rfl
@[go_sem] theorem h43v : h43.vars = [] := rfl
@[go_sem] theorem h43m : h43.mutc = false := rfl
def h44 : Hint := ⟨(fun id => match id with | 0 => some [0, 1] | 1 => some [4] | _ => none), (fun _ => none), (fun _ => none), [], false, (fun _ => none)⟩
@[go_sem] theorem h44x : h44.mix = (fun _ => none) := rfl
@[go_sem] theorem h44l : h44.live = (fun id => match id with | 0 => some [0, 1] | 1 => some [4] | _ => none) := rfl
@[go_sem] theorem h44k : h44.keep = (fun _ => none) := rfl
@[go_sem] theorem h44t : h44.tail = (fun _ => none) := rfl
@[go_sem] theorem h44v : h44.vars = [] := rfl
@[go_sem] theorem h44m : h44.mutc = false := rfl
def h45 : Hint := ⟨(fun id => match id with | 0 => some [0] | 1 => some [2] | _ => none), (fun _ => none), (fun _ => none), [], false, (fun _ => none)⟩
@[go_sem] theorem h45x : h45.mix = (fun _ => none) := rfl
@[go_sem] theorem h45l : h45.live = (fun id => match id with | 0 => some [0] | 1 => some [2] | _ => none) := rfl
@[go_sem] theorem h45k : h45.keep = (fun _ => none) := rfl
@[go_sem] theorem h45t : h45.tail = (fun _ => none) := rfl
@[go_sem] theorem h45v : h45.vars = [] := rfl
@[go_sem] theorem h45m : h45.mutc = false := rfl
def h46 : Hint := ⟨(fun id => match id with | 0 => some [1, 2] | 1 => some [1, 2, 15] | 2 => some [4, 5] | 3 => some [1, 2, 27] | 4 => some [4, 5] | 5 => some [1, 2, 35] | 6 => some [4, 5] | 7 => some [1, 2, 6, 7, 8] | 8 => some [1, 2, 6, 7, 48] | 9 => some [4, 5] | 10 => some [1, 2, 6, 7, 9] | 11 => some [1, 2, 6, 7, 9, 10] | 12 => some [1, 2, 9, 10, 65, 66] | 13 => some [1, 2, 9, 10, 65, 66, 67] | 14 => some [1, 2, 9, 10, 12, 65, 66] | 15 => some [1, 2, 9, 10, 12, 65, 66, 70, 71] | 16 => some [1, 2, 9, 10, 12, 65, 66, 70, 71, 72] | 17 => some [1, 2, 9, 10, 12, 65, 66, 70, 71, 74] | 18 => some [4, 5] | 19 => some [1, 2, 9, 10, 12, 65, 66, 70, 71] | 20 => some [1, 2, 9, 10, 12, 65, 66, 70, 71] | 21 => some [1, 2, 9, 10, 65, 66] | 22 => some [1, 2, 9, 13] | 23 => some [1, 2, 9, 13, 86] | 24 => some [4, 5] | 25 => some [1, 2, 9, 13, 90] | 26 => some [1, 2, 9, 13, 90] | 27 => some [2, 9, 13, 100] | 28 => some [2, 9, 13, 14] | 29 => some [2, 9, 13] | 30 => some [2, 13, 114] | 31 => some [2, 9, 13, 100] | 32 => some [13, 119] | 33 => some [13, 119] | 34 => some [4, 5] | _ => none), (fun _ => none), (fun id => match id with | 29 => some 8 | _ => none), [], false, (fun _ => none)⟩
@[go_sem] theorem h46x : h46.mix = (fun _ => none) := rfl
@[go_sem] theorem h46l : h46.live = (fun id => match id with | 0 => some [1, 2] | 1 => some [1, 2, 15] | 2 => some [4, 5] | 3 => some [1, 2, 27] | 4 => some [4, 5] | 5 => some [1, 2, 35] | 6 => some [4, 5] | 7 => some [1, 2, 6, 7, 8] | 8 => some [1, 2, 6, 7, 48] | 9 => some [4, 5] | 10 => some [1, 2, 6, 7, 9] | 11 => some [1, 2, 6, 7, 9, 10] | 12 => some [1, 2, 9, 10, 65, 66] | 13 => some [1, 2, 9, 10, 65, 66, 67] | 14 => some [1, 2, 9, 10, 12, 65, 66] | 15 => some [1, 2, 9, 10, 12, 65, 66, 70, 71] | 16 => some [1, 2, 9, 10, 12, 65, 66, 70, 71, 72] | 17 => some [1, 2, 9, 10, 12, 65, 66, 70, 71, 74] | 18 => some [4, 5] | 19 => some [1, 2, 9, 10, 12, 65, 66, 70, 71] | 20 => some [1, 2, 9, 10, 12, 65, 66, 70, 71] | 21 => some [1, 2, 9, 10, 65, 66] | 22 => some [1, 2, 9, 13] | 23 => some [1, 2, 9, 13, 86] | 24 => some [4, 5] | 25 => some [1, 2, 9, 13, 90] | 26 => some [1, 2, 9, 13, 90] | 27 => some [2, 9, 13, 100] | 28 => some [2, 9, 13, 14] | 29 => some [2, 9, 13] | 30 => some [2, 13, 114] | 31 => some [2, 9, 13, 100] | 32 => some [13, 119] | 33 => some [13, 119] | 34 => some [4, 5] | _ => none) := rfl
@[go_sem] theorem h46k : h46.keep = (fun _ => none) := rfl
@[go_sem] theorem h46t : h46.tail = (fun id => match id with | 29 => some 8 | _ => none) := rfl
@[go_sem] theorem h46v : h46.vars = [] := rfl
@[go_sem] theorem h46m : h46.mutc = false := rfl
def h47 : Hint := ⟨(fun id => match id with | 0 => some [0] | 1 => some [0, 3] | 2 => some [0, 3, 4] | 3 => some [0, 3, 4, 11] | 4 => some [0, 3, 4, 5, 6] | 5 => some [0, 3, 4, 6] | 6 => some [0, 3, 4] | 7 => some [2] | _ => none), (fun _ => none), (fun _ => none), [3], false, (fun _ => none)⟩
@[go_sem] theorem h47x : h47.mix = (fun _ => none) := rfl
@[go_sem] theorem h47l : h47.live = (fun id => match id with | 0 => some [0] | 1 => some [0, 3] | 2 => some [0, 3, 4] | 3 => some [0, 3, 4, 11] | 4 => some [0, 3, 4, 5, 6] | 5 => some [0, 3, 4, 6] | 6 => some [0, 3, 4] | 7 => some [2] | _ => none) := rfl
@[go_sem] theorem h47k : h47.keep = (fun _ => none) := rfl
@[go_sem] theorem h47t : h47.tail = (fun _ => none) := rfl
@[go_sem] theorem h47v : h47.vars = [3] := rfl
@[go_sem] theorem h47m : h47.mutc = false := rfl
def h48 : Hint := ⟨(fun id => match id with | 0 => some [0] | 1 => some [0, 3] | 2 => some [0, 3, 10] | 3 => some [0, 3, 5, 6] | 4 => some [0, 3, 5, 19] | 5 => some [2] | 6 => some [0, 3] | 7 => some [2] | _ => none), (fun _ => none), (fun _ => none), [], false, (fun _ => none)⟩
@[go_sem] theorem h48x : h48.mix = (fun _ => none) := rfl
@[go_sem] theorem h48l : h48.live = (fun id => match id with | 0 => some [0] | 1 => some [0, 3] | 2 => some [0, 3, 10] | 3 => some [0, 3, 5, 6] | 4 => some [0, 3, 5, 19] | 5 => some [2] | 6 => some [0, 3] | 7 => some [2] | _ => none) := rfl
@[go_sem] theorem h48k : h48.keep = (fun _ => none) := rfl
@[go_sem] theorem h48t : h48.tail = (fun _ => none) := rfl
@[go_sem] theorem h48v : h48.vars = [] := rfl
@[go_sem] theorem h48m : h48.mutc = false := rfl
def h49 : Hint := ⟨(fun id => match id with | 0 => some [1] | 1 => some [1, 10] | 2 => some [2] | 3 => some [2] | _ => none), (fun _ => none), (fun id => match id with | 3 => some 18 | _ => none), [], false, (fun _ => none)⟩
@[go_sem] theorem h49x : h49.mix = (fun _ => none) := rfl
@[go_sem] theorem h49l : h49.live = (fun id => match id with | 0 => some [1] | 1 => some [1, 10] | 2 => some [2] | 3 => some [2] | _ => none) := rfl
@[go_sem] theorem h49k : h49.keep = (fun _ => none) := rfl
@[go_sem] theorem h49t : h49.tail = (fun id => match id with | 3 => some 18 | _ => none) := rfl
@[go_sem] theorem h49v : h49.vars = [] := rfl
@[go_sem] theorem h49m : h49.mutc = false := rfl
def h50 : Hint := ⟨(fun id => match id with | 0 => some [0] | 1 => some [0, 4] | 2 => some [2] | 3 => some [2] | _ => none), (fun _ => none), (fun _ => none), [], false, (fun _ => none)⟩
@[go_sem] theorem h50x : h50.mix = (fun _ => none) := rfl
@[go_sem] theorem h50l : h50.live = (fun id => match id with | 0 => some [0] | 1 => some [0, 4] | 2 => some [2] | 3 => some [2] | _ => none) := rfl
@[go_sem] theorem h50k : h50.keep = (fun _ => none) := rfl
@[go_sem] theorem h50t : h50.tail = (fun _ => none) := rfl
@[go_sem] theorem h50v : h50.vars = [] := rfl
@[go_sem] theorem h50m : h50.mutc = false := rfl
def h58 : Hint := ⟨(fun id => match id with | 0 => some [0] | 1 => some [0, 4] | 2 => some [0, 4, 5, 6] | 3 => some [0, 4, 5, 6] | 4 => some [2, 3] | 5 => some [0, 4, 5, 6, 13] | 6 => some [2, 3] | 7 => some [0, 4, 5, 6, 18] | 8 => some [0, 5, 6, 7, 8] | 9 => some [0, 4, 5, 6, 28] | 10 => some [0, 4, 5, 6, 7, 8] | 11 => some [0, 5, 6, 7, 8, 38] | 12 => some [0, 5, 6, 7, 8, 38, 39] | 13 => some [0, 5, 6, 7, 8, 38, 39] | 14 => some [0, 5, 6, 7, 8, 41] | 15 => some [0, 5, 6, 7, 8, 38, 39] | 16 => some [0, 4, 5, 6, 43] | 17 => some [0, 4, 5, 6, 7, 8] | 18 => some [0, 5, 6, 7, 8, 53] | 19 => some [0, 5, 6, 7, 8, 53, 54] | 20 => some [0, 5, 6, 7, 8, 53, 54] | 21 => some [0, 5, 6, 7, 8, 56] | 22 => some [0, 5, 6, 7, 8, 53, 54] | 23 => some [0, 5, 6, 7, 8, 58, 59] | 24 => some [0, 5, 6, 7, 8, 58, 59, 60] | 25 => some [0, 5, 6, 7, 8, 9, 58, 59] | 26 => some [0, 7, 8, 9, 58, 59, 84] | 27 => some [2, 3] | 28 => some [0, 7, 8, 58, 59] | 29 => some [0, 5, 6, 7, 8, 58, 59] | 30 => some [0, 5, 6, 7, 8, 58, 59] | 31 => some [2, 3] | _ => none), (fun _ => none), (fun _ => none), [], false, (fun _ => none)⟩
@[go_sem] theorem h58x : h58.mix = (fun _ => none) := rfl
@[go_sem] theorem h58l : h58.live = (fun id => match id with | 0 => some [0] | 1 => some [0, 4] | 2 => some [0, 4, 5, 6] | 3 => some [0, 4, 5, 6] | 4 => some [2, 3] | 5 => some [0, 4, 5, 6, 13] | 6 => some [2, 3] | 7 => some [0, 4, 5, 6, 18] | 8 => some [0, 5, 6, 7, 8] | 9 => some [0, 4, 5, 6, 28] | 10 => some [0, 4, 5, 6, 7, 8] | 11 => some [0, 5, 6, 7, 8, 38] | 12 => some [0, 5, 6, 7, 8, 38, 39] | 13 => some [0, 5, 6, 7, 8, 38, 39] | 14 => some [0, 5, 6, 7, 8, 41] | 15 => some [0, 5, 6, 7, 8, 38, 39] | 16 => some [0, 4, 5, 6, 43] | 17 => some [0, 4, 5, 6, 7, 8] | 18 => some [0, 5, 6, 7, 8, 53] | 19 => some [0, 5, 6, 7, 8, 53, 54] | 20 => some [0, 5, 6, 7, 8, 53, 54] | 21 => some [0, 5, 6, 7, 8, 56] | 22 => some [0, 5, 6, 7, 8, 53, 54] | 23 => some [0, 5, 6, 7, 8, 58, 59] | 24 => some [0, 5, 6, 7, 8, 58, 59, 60] | 25 => some [0, 5, 6, 7, 8, 9, 58, 59] | 26 => some [0, 7, 8, 9, 58, 59, 84] | 27 => some [2, 3] | 28 => some [0, 7, 8, 58, 59] | 29 => some [0, 5, 6, 7, 8, 58, 59] | 30 => some [0, 5, 6, 7, 8, 58, 59] | 31 => some [2, 3] | _ => none) := rfl
@[go_sem] theorem h58k : h58.keep = (fun _ => none) := rfl
@[go_sem] theorem h58t : h58.tail = (fun _ => none) := rfl
@[go_sem] theorem h58v : h58.vars = [] := rfl
@[go_sem] theorem h58m : h58.mutc = false := rfl
def h59 : Hint := ⟨(fun id => match id with | 0 => some [0, 1] | 1 => some [4] | _ => none), (fun _ => none), (fun _ => none), [], false, (fun _ => none)⟩
@[go_sem] theorem h59x : h59.mix = (fun _ => none) := rfl
@[go_sem] theorem h59l : h59.live = (fun id => match id with | 0 => some [0, 1] | 1 => some [4] | _ => none) := rfl
@[go_sem] theorem h59k : h59.keep = (fun _ => none) := rfl
@[go_sem] theorem h59t : h59.tail = (fun _ => none) := rfl
@[go_sem] theorem h59v : h59.vars = [] := rfl
@[go_sem] theorem h59m : h59.mutc = false := rfl
def h60 : Hint := ⟨(fun id => match id with | 0 => some [1] | 1 => some [2] | _ => none), (fun _ => none), (fun _ => none), [], false, (fun _ => none)⟩
@[go_sem] theorem h60x : h60.mix = (fun _ => none) := rfl
@[go_sem] theorem h60l : h60.live = (fun id => match id with | 0 => some [1] | 1 => some [2] | _ => none) := rfl
@[go_sem] theorem h60k : h60.keep = (fun _ => none) := rfl
@[go_sem] theorem h60t : h60.tail = (fun _ => none) := rfl
@[go_sem] theorem h60v : h60.vars = [] := rfl
@[go_sem] theorem h60m : h60.mutc = false := rfl
def h62 : Hint := ⟨(fun id => match id with | 0 => some [0] | 1 => some [0, 5] | 2 => some [0, 5] | 3 => some [0, 5, 6] | 4 => some [0, 5, 6, 14] | 5 => some [0, 5, 6] | 6 => some [0, 5, 6] | 7 => some [2, 3, 4] | _ => none), (fun _ => none), (fun _ => none), [], false, (fun _ => none)⟩
@[go_sem] theorem h62x : h62.mix = (fun _ => none) := rfl
@[go_sem] theorem h62l : h62.live = (fun id => match id with | 0 => some [0] | 1 => some [0, 5] | 2 => some [0, 5] | 3 => some [0, 5, 6] | 4 => some [0, 5, 6, 14] | 5 => some [0, 5, 6] | 6 => some [0, 5, 6] | 7 => some [2, 3, 4] | _ => none) := rfl
@[go_sem] theorem h62k : h62.keep = (fun _ => none) := rfl
@[go_sem] theorem h62t : h62.tail = (fun _ => none) := rfl
@[go_sem] theorem h62v : h62.vars = [] := rfl
@[go_sem] theorem h62m : h62.mutc = false := rfl
def h63 : Hint := ⟨(fun id => match id with | 0 => some [0] | 1 => some [0, 4] | 2 => some [2] | 3 => some [2] | _ => none), (fun _ => none), (fun _ => none), [], false, (fun _ => none)⟩
@[go_sem] theorem h63x : h63.mix = (fun _ => none) := rfl
@[go_sem] theorem h63l : h63.live = (fun id => match id with | 0 => some [0] | 1 => some [0, 4] | 2 => some [2] | 3 => some [2] | _ => none) := rfl
@[go_sem] theorem h63k : h63.keep = (fun _ => none) := rfl
@[go_sem] theorem h63t : h63.tail = (fun _ => none) := rfl
@[go_sem] theorem h63v : h63.vars = [] := rfl
@[go_sem] theorem h63m : h63.mutc = false := rfl
def h64 : Hint := ⟨(fun id => match id with | 0 => some [0] | 1 => some [0, 3] | 2 => some [0, 3, 4] | 3 => some [0, 3, 4] | 4 => some [0, 3, 4] | 5 => some [0, 3, 4] | 6 => some [0, 3, 4, 16] | 7 => some [2] | _ => none), (fun _ => none), (fun _ => none), [], false, (fun _ => none)⟩
@[go_sem] theorem h64x : h64.mix = (fun _ => none) := rfl
@[go_sem] theorem h64l : h64.live = (fun id => match id with | 0 => some [0] | 1 => some [0, 3] | 2 => some [0, 3, 4] | 3 => some [0, 3, 4] | 4 => some [0, 3, 4] | 5 => some [0, 3, 4] | 6 => some [0, 3, 4, 16] | 7 => some [2] | _ => none) := rfl
@[go_sem] theorem h64k : h64.keep = (fun _ => none) := rfl
@[go_sem] theorem h64t : h64.tail = (fun _ => none) := rfl
@[go_sem] theorem h64v : h64.vars = [] := rfl
@[go_sem] theorem h64m : h64.mutc = false := rfl
def h65 : Hint := ⟨(fun id => match id with | 0 => some [0, 1] | 1 => some [0, 1, 12] | 2 => some [4] | 3 => some [0, 1, 21] | 4 => some [4] | 5 => some [0, 1, 5, 6] | 6 => some [0, 1, 5, 31] | 7 => some [4] | 8 => some [4] | _ => none), (fun _ => none), (fun _ => none), [], false, (fun _ => none)⟩
@[go_sem] theorem h65x : h65.mix = (fun _ => none) := rfl
@[go_sem] theorem h65l : h65.live = (fun id => match id with | 0 => some [0, 1] | 1 => some [0, 1, 12] | 2 => some [4] | 3 => some [0, 1, 21] | 4 => some [4] | 5 => some [0, 1, 5, 6] | 6 => some [0, 1, 5, 31] | 7 => some [4] | 8 => some [4] | _ => none) := rfl
@[go_sem] theorem h65k : h65.keep = (fun _ => none) := rfl
@[go_sem] theorem h65t : h65.tail = (fun _ => none) := rfl
@[go_sem] theorem h65v : h65.vars = [] := rfl
@[go_sem] theorem h65m : h65.mutc = false := rfl
def h66 : Hint := ⟨(fun id => match id with | 0 => some [0, 1] | 1 => some [0, 1, 7] | 2 => some [0, 1, 7, 18] | 3 => some [4, 5, 6] | 4 => some [0, 1, 7, 8, 9, 10] | 5 => some [0, 1, 7, 8, 9, 10, 28] | 6 => some [4, 5, 6] | 7 => some [0, 1, 8, 9, 10, 11] | 8 => some [0, 1, 8, 9, 10, 11, 12] | 9 => some [0, 1, 8, 9, 10, 11, 12, 37] | 10 => some [0, 1, 8, 9, 10, 11, 12] | 11 => some [0, 1, 8, 11, 12, 65] | 12 => some [4, 5, 6] | 13 => some [0, 1, 8, 11, 12] | 14 => some [0, 1, 8, 9, 10, 11, 12] | 15 => some [4, 5, 6] | _ => none), (fun _ => none), (fun _ => none), [], false, (fun _ => none)⟩
@[go_sem] theorem h66x : h66.mix = (fun _ => none) := rfl
@[go_sem] theorem h66l : h66.live = (fun id => match id with | 0 => some [0, 1] | 1 => some [0, 1, 7] | 2 => some [0, 1, 7, 18] | 3 => some [4, 5, 6] | 4 => some [0, 1, 7, 8, 9, 10] | 5 => some [0, 1, 7, 8, 9, 10, 28] | 6 => some [4, 5, 6] | 7 => some [0, 1, 8, 9, 10, 11] | 8 => some [0, 1, 8, 9, 10, 11, 12] | 9 => some [0, 1, 8, 9, 10, 11, 12, 37] | 10 => some [0, 1, 8, 9, 10, 11, 12] | 11 => some [0, 1, 8, 11, 12, 65] | 12 => some [4, 5, 6] | 13 => some [0, 1, 8, 11, 12] | 14 => some [0, 1, 8, 9, 10, 11, 12] | 15 => some [4, 5, 6] | _ => none) := rfl
@[go_sem] theorem h66k : h66.keep = (fun _ => none) := rfl
@[go_sem] theorem h66t : h66.tail = (fun _ => none) := rfl
@[go_sem] theorem h66v : h66.vars = [] := rfl
@[go_sem] theorem h66m : h66.mutc = false := rfl
def h67 : Hint := ⟨(fun id => match id with | 0 => some [0, 1] | 1 => some [0, 1, 6] | 2 => some [0, 1] | 3 => some [4] | _ => none), (fun _ => none), (fun id => match id with | 2 => some 4 | _ => none), [], false, (fun id => match id with | 2 => some ⟨[0, 1, 2, 3], [], .head 0 (.head 1 (.alt (.one 2 (.alt (.one 3 (.one 4 (.one 5 (.fin)))) (.one 4 (.head 3 (.one 5 (.fin)))))) (.one 4 (.head 2 (.head 3 (.one 5 (.fin)))))))⟩ | _ => none)⟩
@[go_sem] theorem h67x : h67.mix = (fun id => match id with | 2 => some ⟨[0, 1, 2, 3], [], .head 0 (.head 1 (.alt (.one 2 (.alt (.one 3 (.one 4 (.one 5 (.fin)))) (.one 4 (.head 3 (.one 5 (.fin)))))) (.one 4 (.head 2 (.head 3 (.one 5 (.fin)))))))⟩ | _ => none) := rfl
@[go_sem] theorem h67l : h67.live = (fun id => match id with | 0 => some [0, 1] | 1 => some [0, 1, 6] | 2 => some [0, 1] | 3 => some [4] | _ => none) := rfl
@[go_sem] theorem h67k : h67.keep = (fun _ => none) := rfl
@[go_sem] theorem h67t : h67.tail = (fun id => match id with | 2 => some 4 | _ => none) := rfl
@[go_sem] theorem h67v : h67.vars = [] := rfl
@[go_sem] theorem h67m : h67.mutc = false := rfl
def h78 : Hint := ⟨(fun id => match id with | 0 => some [0, 1] | 1 => some [0, 1, 5] | 2 => some [0, 1, 5, 16] | 3 => some [4] | 4 => some [0, 1, 5, 24] | 5 => some [4] | 6 => some [0, 1, 5, 31] | 7 => some [4] | 8 => some [0, 1, 5, 36] | 9 => some [4] | 10 => some [0, 1, 5, 6] | 11 => some [0, 1, 5, 6, 7] | 12 => some [0, 1, 5, 6, 7, 8] | 13 => some [0, 1, 5, 6, 7, 8, 9] | 14 => some [0, 1, 5, 6, 7, 8, 9, 10] | 15 => some [0, 1, 5, 6, 7, 8, 9, 10, 59] | 16 => some [0, 1, 5, 6, 7, 8, 9, 10, 64] | 17 => some [0, 1, 5, 6, 7, 8, 9, 10, 11] | 18 => some [0, 1, 5, 6, 7, 8, 9, 10, 11, 73] | 19 => some [4] | 20 => some [0, 1, 5, 6, 7, 8, 9, 10, 64] | 21 => some [0, 1, 5, 6, 7, 8, 9, 10, 93] | 22 => some [4] | 23 => some [0, 1, 5, 6, 7, 8, 9, 10] | 24 => some [0, 1, 5, 6, 7, 8, 9, 10] | 25 => some [0, 1, 5, 6, 7, 8, 9, 10, 107] | 26 => some [8, 12] | 27 => some [8, 12, 114] | 28 => some [4] | 29 => some [4] | 30 => some [0, 1, 5, 6, 7, 8, 9, 10, 132] | 31 => some [8, 13] | 32 => some [8, 13, 139] | 33 => some [4] | 34 => some [4] | 35 => some [4] | _ => none), (fun _ => none), (fun _ => none), [], false, (fun _ => none)⟩
@[go_sem] theorem h78x : h78.mix = (fun _ => none) := rfl
@[go_sem] theorem h78l : h78.live = (fun id => match id with | 0 => some [0, 1] | 1 => some [0, 1, 5] | 2 => some [0, 1, 5, 16] | 3 => some [4] | 4 => some [0, 1, 5, 24] | 5 => some [4] | 6 => some [0, 1, 5, 31] | 7 => some [4] | 8 => some [0, 1, 5, 36] | 9 => some [4] | 10 => some [0, 1, 5, 6] | 11 => some [0, 1, 5, 6, 7] | 12 => some [0, 1, 5, 6, 7, 8] | 13 => some [0, 1, 5, 6, 7, 8, 9] | 14 => some [0, 1, 5, 6, 7, 8, 9, 10] | 15 => some [0, 1, 5, 6, 7, 8, 9, 10, 59] | 16 => some [0, 1, 5, 6, 7, 8, 9, 10, 64] | 17 => some [0, 1, 5, 6, 7, 8, 9, 10, 11] | 18 => some [0, 1, 5, 6, 7, 8, 9, 10, 11, 73] | 19 => some [4] | 20 => some [0, 1, 5, 6, 7, 8, 9, 10, 64] | 21 => some [0, 1, 5, 6, 7, 8, 9, 10, 93] | 22 => some [4] | 23 => some [0, 1, 5, 6, 7, 8, 9, 10] | 24 => some [0, 1, 5, 6, 7, 8, 9, 10] | 25 => some [0, 1, 5, 6, 7, 8, 9, 10, 107] | 26 => some [8, 12] | 27 => some [8, 12, 114] | 28 => some [4] | 29 => some [4] | 30 => some [0, 1, 5, 6, 7, 8, 9, 10, 132] | 31 => some [8, 13] | 32 => some [8, 13, 139] | 33 => some [4] | 34 => some [4] | 35 => some [4] | _ => none) := rfl
@[go_sem] theorem h78k : h78.keep = (fun _ => none) := rfl
@[go_sem] theorem h78t : h78.tail = (fun _ => none) := rfl
@[go_sem] theorem h78v : h78.vars = [] := rfl
@[go_sem] theorem h78m : h78.mutc = false := rfl
def h79 : Hint := ⟨(fun id => match id with | 0 => some [1] | 1 => some [2] | _ => none), (fun _ => none), (fun id => match id with | 1 => some 18 | _ => none), [], false, (fun _ => none)⟩
@[go_sem] theorem h79x : h79.mix = (fun _ => none) := rfl
@[go_sem] theorem h79l : h79.live = (fun id => match id with | 0 => some [1] | 1 => some [2] | _ => none) := rfl
@[go_sem] theorem h79k : h79.keep = (fun _ => none) := rfl
@[go_sem] theorem h79t : h79.tail = (fun id => match id with | 1 => some 18 | _ => none) := rfl
@[go_sem] theorem h79v : h79.vars = [] := rfl
@[go_sem] theorem h79m : h79.mutc = false := rfl
def h87 : Hint := ⟨(fun id => match id with | 0 => some [0, 1] | 1 => some [0, 1, 16] | 2 => some [0, 1] | 3 => some [4] | _ => none), (fun _ => none), (fun _ => none), [], false, (fun _ => none)⟩
@[go_sem] theorem h87x : h87.mix = (fun _ => none) := rfl
@[go_sem] theorem h87l : h87.live = (fun id => match id with | 0 => some [0, 1] | 1 => some [0, 1, 16] | 2 => some [0, 1] | 3 => some [4] | _ => none) := rfl
@[go_sem] theorem h87k : h87.keep = (fun _ => none) := rfl
@[go_sem] theorem h87t : h87.tail = (fun _ => none) := rfl
@[go_sem] theorem h87v : h87.vars = [] := rfl
@[go_sem] theorem h87m : h87.mutc = false := rfl
def h91 : Hint := ⟨(fun id => match id with | 0 => some [0] | 1 => some [0, 5] | 2 => some [2, 3, 4] | 3 => some [0, 12] | 4 => some [2, 3, 4] | 5 => some [0, 15] | 6 => some [2, 3, 4] | 7 => some [0, 18] | 8 => some [2, 3, 4] | 9 => some [0, 25] | 10 => some [2, 3, 4] | 11 => some [0, 28] | 12 => some [2, 3, 4] | 13 => some [35] | 14 => some [2, 3, 4] | 15 => some [2, 3, 4] | _ => none), (fun _ => none), (fun _ => none), [], false, (fun _ => none)⟩
@[go_sem] theorem h91x : h91.mix = (fun _ => none) := rfl
@[go_sem] theorem h91l : h91.live = (fun id => match id with | 0 => some [0] | 1 => some [0, 5] | 2 => some [2, 3, 4] | 3 => some [0, 12] | 4 => some [2, 3, 4] | 5 => some [0, 15] | 6 => some [2, 3, 4] | 7 => some [0, 18] | 8 => some [2, 3, 4] | 9 => some [0, 25] | 10 => some [2, 3, 4] | 11 => some [0, 28] | 12 => some [2, 3, 4] | 13 => some [35] | 14 => some [2, 3, 4] | 15 => some [2, 3, 4] | _ => none) := rfl
@[go_sem] theorem h91k : h91.keep = (fun _ => none) := rfl
@[go_sem] theorem h91t : h91.tail = (fun _ => none) := rfl
@[go_sem] theorem h91v : h91.vars = [] := rfl
@[go_sem] theorem h91m : h91.mutc = false := rfl
def h108 : Hint := ⟨(fun id => match id with | 0 => some [0] | 1 => some [2] | _ => none), (fun _ => none), (fun _ => none), [], false, (fun _ => none)⟩
@[go_sem] theorem h108x : h108.mix = (fun _ => none) := rfl
@[go_sem] theorem h108l : h108.live = (fun id => match id with | 0 => some [0] | 1 => some [2] | _ => none) := rfl
@[go_sem] theorem h108k : h108.keep = (fun _ => none) := rfl
@[go_sem] theorem h108t : h108.tail = (fun _ => none) := rfl
@[go_sem] theorem h108v : h108.vars = [] := rfl
@[go_sem] theorem h108m : h108.mutc = false := rfl
def h110 : Hint := ⟨(fun id => match id with | 0 => some [0, 1] | 1 => some [0, 1, 6] | 2 => some [0, 1] | 3 => some [4] | _ => none), (fun _ => none), (fun _ => none), [], false, (fun _ => none)⟩
@[go_sem] theorem h110x : h110.mix = (fun _ => none) := rfl
@[go_sem] theorem h110l : h110.live = (fun id => match id with | 0 => some [0, 1] | 1 => some [0, 1, 6] | 2 => some [0, 1] | 3 => some [4] | _ => none) := rfl
@[go_sem] theorem h110k : h110.keep = (fun _ => none) := rfl
@[go_sem] theorem h110t : h110.tail = (fun _ => none) := rfl
@[go_sem] theorem h110v : h110.vars = [] := rfl
@[go_sem] theorem h110m : h110.mutc = false := rfl
def hints (f : Nat) : Hint := match f with
  | 6 => h6
  | 11 => h11
  | 12 => h12
  | 13 => h13
  | 14 => h14
  | 19 => h19
  | 20 => h20
  | 21 => h21
  | 22 => h22
  | 23 => h23
  | 24 => h24
  | 25 => h25
  | 26 => h26
  | 43 => h43
  | 44 => h44
  | 45 => h45
  | 46 => h46
  | 47 => h47
  | 48 => h48
  | 49 => h49
  | 50 => h50
  | 58 => h58
  | 59 => h59
  | 60 => h60
  | 62 => h62
  | 63 => h63
  | 64 => h64
  | 65 => h65
  | 66 => h66
  | 67 => h67
  | 78 => h78
  | 79 => h79
  | 87 => h87
  | 91 => h91
  | 108 => h108
  | 110 => h110
  | _ => ⟨fun _ => none, fun _ => none, fun _ => none, [], false, fun _ => none⟩
noncomputable def E : CallF := ev Tryd.prog hints primz
noncomputable def b6 : Code := bodyOf Tryd.f6
theorem c6 : codeOk Tryd.prog h6 28 b6 = true := by kernel_rfl
/-- jalousie/jalousielaw4.SpellMay -/
theorem e6 {lo : Nat} {args : List V} {h : Heap} (ha : args.length ≤ 28) (hb : args.all bare = true) :
    E lo 6 args h = fin Tryd.prog [.tmp 4] h.length (evCode ⟨Tryd.prog, E, lo, h.length, h6⟩ loopW b6 (args0 args, h)) :=
  ev_body rfl Tryd.func6 rfl Tryd.ntmps6 (by kernel_rfl) rfl c6 rfl ha hb
noncomputable def b11 : Code := bodyOf Tryd.f11
theorem c11 : codeOk Tryd.prog h11 104 b11 = true := by kernel_rfl
/-- jalousie/spell.May -/
theorem e11 {lo : Nat} {args : List V} {h : Heap} (ha : args.length ≤ 104) (hb : args.all bare = true) :
    E lo 11 args h = fin Tryd.prog [.tmp 2] h.length (evCode ⟨Tryd.prog, E, lo, h.length, h11⟩ loopW b11 (args0 args, h)) :=
  ev_body rfl Tryd.func11 rfl Tryd.ntmps11 (by kernel_rfl) rfl c11 rfl ha hb
noncomputable def b12 : Code := bodyOf Tryd.f12
theorem c12 : codeOk Tryd.prog h12 158 b12 = true := by kernel_rfl
/-- jalousie/jalousieref4.May -/
theorem e12 {lo : Nat} {args : List V} {h : Heap} (ha : args.length ≤ 158) (hb : args.all bare = true) :
    E lo 12 args h = fin Tryd.prog [.tmp 2] h.length (evCode ⟨Tryd.prog, E, lo, h.length, h12⟩ loopW b12 (args0 args, h)) :=
  ev_body rfl Tryd.func12 rfl Tryd.ntmps12 (by kernel_rfl) rfl c12 rfl ha hb
noncomputable def b13 : Code := bodyOf Tryd.f13
theorem c13 : codeOk Tryd.prog h13 32 b13 = true := by kernel_rfl
/-- jalousie/spell.Apart -/
theorem e13 {lo : Nat} {args : List V} {h : Heap} (ha : args.length ≤ 32) (hb : args.all bare = true) :
    E lo 13 args h = fin Tryd.prog [.tmp 4] h.length (evCode ⟨Tryd.prog, E, lo, h.length, h13⟩ loopW b13 (args0 args, h)) :=
  ev_body rfl Tryd.func13 rfl Tryd.ntmps13 (by kernel_rfl) rfl c13 rfl ha hb
noncomputable def b14 : Code := bodyOf Tryd.f14
theorem c14 : codeOk Tryd.prog h14 35 b14 = true := by kernel_rfl
/-- jalousie/jalousieref4.Apart -/
theorem e14 {lo : Nat} {args : List V} {h : Heap} (ha : args.length ≤ 35) (hb : args.all bare = true) :
    E lo 14 args h = fin Tryd.prog [.tmp 4] h.length (evCode ⟨Tryd.prog, E, lo, h.length, h14⟩ loopW b14 (args0 args, h)) :=
  ev_body rfl Tryd.func14 rfl Tryd.ntmps14 (by kernel_rfl) rfl c14 rfl ha hb
noncomputable def b19 : Code := bodyOf Tryd.f19
theorem c19 : codeOk Tryd.prog h19 11 b19 = true := by kernel_rfl
/-- jalousie/spell.stands -/
theorem e19 {lo : Nat} {args : List V} {h : Heap} (ha : args.length ≤ 11) (hb : args.all bare = true) :
    E lo 19 args h = fin Tryd.prog [.tmp 2] h.length (evCode ⟨Tryd.prog, E, lo, h.length, h19⟩ loopW b19 (args0 args, h)) :=
  ev_body rfl Tryd.func19 rfl Tryd.ntmps19 (by kernel_rfl) rfl c19 rfl ha hb
noncomputable def b20 : Code := bodyOf Tryd.f20
theorem c20 : codeOk Tryd.prog h20 29 b20 = true := by kernel_rfl
/-- jalousie/spell.loose -/
theorem e20 {lo : Nat} {args : List V} {h : Heap} (ha : args.length ≤ 29) (hb : args.all bare = true) :
    E lo 20 args h = fin Tryd.prog [.tmp 2] h.length (evCode ⟨Tryd.prog, E, lo, h.length, h20⟩ loopW b20 (args0 args, h)) :=
  ev_body rfl Tryd.func20 rfl Tryd.ntmps20 (by kernel_rfl) rfl c20 rfl ha hb
noncomputable def b21 : Code := bodyOf Tryd.f21
theorem c21 : codeOk Tryd.prog h21 35 b21 = true := by kernel_rfl
/-- jalousie/spell.sign -/
theorem e21 {lo : Nat} {args : List V} {h : Heap} (ha : args.length ≤ 35) (hb : args.all bare = true) :
    E lo 21 args h = fin Tryd.prog [.tmp 2] h.length (evCode ⟨Tryd.prog, E, lo, h.length, h21⟩ loopW b21 (args0 args, h)) :=
  ev_body rfl Tryd.func21 rfl Tryd.ntmps21 (by kernel_rfl) rfl c21 rfl ha hb
noncomputable def b22 : Code := bodyOf Tryd.f22
theorem c22 : codeOk Tryd.prog h22 15 b22 = true := by kernel_rfl
/-- jalousie/spell.plain -/
theorem e22 {lo : Nat} {args : List V} {h : Heap} (ha : args.length ≤ 15) (hb : args.all bare = true) :
    E lo 22 args h = fin Tryd.prog [.tmp 2] h.length (evCode ⟨Tryd.prog, E, lo, h.length, h22⟩ loopW b22 (args0 args, h)) :=
  ev_body rfl Tryd.func22 rfl Tryd.ntmps22 (by kernel_rfl) rfl c22 rfl ha hb
noncomputable def b23 : Code := bodyOf Tryd.f23
noncomputable def l23x0 : Code := loopAt b23 0
theorem c23 : codeOk Tryd.prog h23 23 b23 = true := by kernel_rfl
/-- jalousie/jalousieref4.Chars -/
theorem e23 {lo : Nat} {args : List V} {h : Heap} (ha : args.length ≤ 23) (hb : args.all bare = true) :
    E lo 23 args h = fin Tryd.prog [.tmp 2, .tmp 3] h.length (evCode ⟨Tryd.prog, E, lo, h.length, h23⟩ loopW b23 (args0 args, h)) :=
  ev_body rfl Tryd.func23 rfl Tryd.ntmps23 (by kernel_rfl) rfl c23 rfl ha hb
noncomputable def b24 : Code := bodyOf Tryd.f24
theorem c24 : codeOk Tryd.prog h24 9 b24 = true := by kernel_rfl
/-- jalousie/jalousieref4.digit -/
theorem e24 {lo : Nat} {args : List V} {h : Heap} (ha : args.length ≤ 9) (hb : args.all bare = true) :
    E lo 24 args h = fin Tryd.prog [.tmp 2] h.length (evCode ⟨Tryd.prog, E, lo, h.length, h24⟩ loopW b24 (args0 args, h)) :=
  ev_body rfl Tryd.func24 rfl Tryd.ntmps24 (by kernel_rfl) rfl c24 rfl ha hb
noncomputable def b25 : Code := bodyOf Tryd.f25
noncomputable def l25x0 : Code := loopAt b25 0
theorem c25 : codeOk Tryd.prog h25 40 b25 = true := by kernel_rfl
/-- jalousie/jalousieref4.delim -/
theorem e25 {lo : Nat} {args : List V} {h : Heap} (ha : args.length ≤ 40) (hb : args.all bare = true) :
    E lo 25 args h = fin Tryd.prog [.tmp 2] h.length (evCode ⟨Tryd.prog, E, lo, h.length, h25⟩ loopW b25 (args0 args, h)) :=
  ev_body rfl Tryd.func25 rfl Tryd.ntmps25 (by kernel_rfl) rfl c25 rfl ha hb
noncomputable def b26 : Code := bodyOf Tryd.f26
noncomputable def l26x0 : Code := loopAt b26 0
noncomputable def l26x1 : Code := loopAt b26 1
noncomputable def l26x2 : Code := loopAt b26 2
theorem c26 : codeOk Tryd.prog h26 114 b26 = true := by kernel_rfl
/-- jalousie/jalousieref1.Plain -/
theorem e26 {lo : Nat} {args : List V} {h : Heap} (ha : args.length ≤ 114) (hb : args.all bare = true) :
    E lo 26 args h = fin Tryd.prog [.tmp 4, .tmp 5] h.length (evCode ⟨Tryd.prog, E, lo, h.length, h26⟩ loopW b26 (args0 args, h)) :=
  ev_body rfl Tryd.func26 rfl Tryd.ntmps26 (by kernel_rfl) rfl c26 rfl ha hb
noncomputable def b43 : Code := bodyOf Tryd.f43
noncomputable def l43x0 : Code := loopAt b43 0
theorem c43 : codeOk Tryd.prog h43 40 b43 = true := by kernel_rfl
/-- jalousie/utf.Whole -/
theorem e43 {lo : Nat} {args : List V} {h : Heap} (ha : args.length ≤ 40) (hb : args.all bare = true) :
    E lo 43 args h = fin Tryd.prog [.tmp 2] h.length (evCode ⟨Tryd.prog, E, lo, h.length, h43⟩ loopW b43 (args0 args, h)) :=
  ev_body rfl Tryd.func43 rfl Tryd.ntmps43 (by kernel_rfl) rfl c43 rfl ha hb
noncomputable def b44 : Code := bodyOf Tryd.f44
theorem c44 : codeOk Tryd.prog h44 9 b44 = true := by kernel_rfl
/-- strings.Contains -/
theorem e44 {lo : Nat} {args : List V} {h : Heap} (ha : args.length ≤ 9) (hb : args.all bare = true) :
    E lo 44 args h = fin Tryd.prog [.tmp 4] h.length (evCode ⟨Tryd.prog, E, lo, h.length, h44⟩ loopW b44 (args0 args, h)) :=
  ev_body rfl Tryd.func44 rfl Tryd.ntmps44 (by kernel_rfl) rfl c44 rfl ha hb
noncomputable def b45 : Code := bodyOf Tryd.f45
theorem c45 : codeOk Tryd.prog h45 9 b45 = true := by kernel_rfl
/-- jalousie/spell.digit -/
theorem e45 {lo : Nat} {args : List V} {h : Heap} (ha : args.length ≤ 9) (hb : args.all bare = true) :
    E lo 45 args h = fin Tryd.prog [.tmp 2] h.length (evCode ⟨Tryd.prog, E, lo, h.length, h45⟩ loopW b45 (args0 args, h)) :=
  ev_body rfl Tryd.func45 rfl Tryd.ntmps45 (by kernel_rfl) rfl c45 rfl ha hb
noncomputable def b46 : Code := bodyOf Tryd.f46
noncomputable def l46x0 : Code := loopAt b46 0
noncomputable def l46x1 : Code := loopAt b46 1
theorem c46 : codeOk Tryd.prog h46 123 b46 = true := by kernel_rfl
/-- jalousie/rat.Plain -/
theorem e46 {lo : Nat} {args : List V} {h : Heap} (ha : args.length ≤ 123) (hb : args.all bare = true) :
    E lo 46 args h = fin Tryd.prog [.tmp 4, .tmp 5] h.length (evCode ⟨Tryd.prog, E, lo, h.length, h46⟩ loopW b46 (args0 args, h)) :=
  ev_body rfl Tryd.func46 rfl Tryd.ntmps46 (by kernel_rfl) rfl c46 rfl ha hb
noncomputable def b47 : Code := bodyOf Tryd.f47
noncomputable def l47x0 : Code := loopAt b47 0
theorem c47 : codeOk Tryd.prog h47 27 b47 = true := by kernel_rfl
/-- jalousie/jalousieref2.Raw -/
theorem e47 {lo : Nat} {args : List V} {h : Heap} (ha : args.length ≤ 27) (hb : args.all bare = true) :
    E lo 47 args h = fin Tryd.prog [.tmp 2] h.length (evCode ⟨Tryd.prog, E, lo, h.length, h47⟩ loopW b47 (args0 args, h)) :=
  ev_body rfl Tryd.func47 rfl Tryd.ntmps47 (by kernel_rfl) rfl c47 rfl ha hb
noncomputable def b48 : Code := bodyOf Tryd.f48
noncomputable def l48x0 : Code := loopAt b48 0
theorem c48 : codeOk Tryd.prog h48 23 b48 = true := by kernel_rfl
/-- jalousie/jalousieref2.Whole -/
theorem e48 {lo : Nat} {args : List V} {h : Heap} (ha : args.length ≤ 23) (hb : args.all bare = true) :
    E lo 48 args h = fin Tryd.prog [.tmp 2] h.length (evCode ⟨Tryd.prog, E, lo, h.length, h48⟩ loopW b48 (args0 args, h)) :=
  ev_body rfl Tryd.func48 rfl Tryd.ntmps48 (by kernel_rfl) rfl c48 rfl ha hb
noncomputable def b49 : Code := bodyOf Tryd.f49
theorem c49 : codeOk Tryd.prog h49 29 b49 = true := by kernel_rfl
/-- jalousie/jalousieref1.May -/
theorem e49 {lo : Nat} {args : List V} {h : Heap} (ha : args.length ≤ 29) (hb : args.all bare = true) :
    E lo 49 args h = fin Tryd.prog [.tmp 2] h.length (evCode ⟨Tryd.prog, E, lo, h.length, h49⟩ loopW b49 (args0 args, h)) :=
  ev_body rfl Tryd.func49 rfl Tryd.ntmps49 (by kernel_rfl) rfl c49 rfl ha hb
noncomputable def b50 : Code := bodyOf Tryd.f50
theorem c50 : codeOk Tryd.prog h50 12 b50 = true := by kernel_rfl
/-- jalousie/jalousieref1.mag -/
theorem e50 {lo : Nat} {args : List V} {h : Heap} (ha : args.length ≤ 12) (hb : args.all bare = true) :
    E lo 50 args h = fin Tryd.prog [.tmp 2] h.length (evCode ⟨Tryd.prog, E, lo, h.length, h50⟩ loopW b50 (args0 args, h)) :=
  ev_body rfl Tryd.func50 rfl Tryd.ntmps50 (by kernel_rfl) rfl c50 rfl ha hb
noncomputable def b58 : Code := bodyOf Tryd.f58
noncomputable def l58x0 : Code := loopAt b58 0
theorem c58 : codeOk Tryd.prog h58 101 b58 = true := by kernel_rfl
/-- jalousie/utf.step -/
theorem e58 {lo : Nat} {args : List V} {h : Heap} (ha : args.length ≤ 101) (hb : args.all bare = true) :
    E lo 58 args h = fin Tryd.prog [.tmp 2, .tmp 3] h.length (evCode ⟨Tryd.prog, E, lo, h.length, h58⟩ loopW b58 (args0 args, h)) :=
  ev_body rfl Tryd.func58 rfl Tryd.ntmps58 (by kernel_rfl) rfl c58 rfl ha hb
noncomputable def b59 : Code := bodyOf Tryd.f59
theorem c59 : codeOk Tryd.prog h59 8 b59 = true := by kernel_rfl
/-- strings.Index -/
theorem e59 {lo : Nat} {args : List V} {h : Heap} (ha : args.length ≤ 8) (hb : args.all bare = true) :
    E lo 59 args h = fin Tryd.prog [.tmp 4] h.length (evCode ⟨Tryd.prog, E, lo, h.length, h59⟩ loopW b59 (args0 args, h)) :=
  ev_body rfl Tryd.func59 rfl Tryd.ntmps59 (by kernel_rfl) rfl c59 rfl ha hb
noncomputable def b60 : Code := bodyOf Tryd.f60
theorem c60 : codeOk Tryd.prog h60 10 b60 = true := by kernel_rfl
/-- jalousie/rat.May -/
theorem e60 {lo : Nat} {args : List V} {h : Heap} (ha : args.length ≤ 10) (hb : args.all bare = true) :
    E lo 60 args h = fin Tryd.prog [.tmp 2] h.length (evCode ⟨Tryd.prog, E, lo, h.length, h60⟩ loopW b60 (args0 args, h)) :=
  ev_body rfl Tryd.func60 rfl Tryd.ntmps60 (by kernel_rfl) rfl c60 rfl ha hb
noncomputable def b62 : Code := bodyOf Tryd.f62
noncomputable def l62x0 : Code := loopAt b62 0
theorem c62 : codeOk Tryd.prog h62 23 b62 = true := by kernel_rfl
/-- jalousie/rat.powers -/
theorem e62 {lo : Nat} {args : List V} {h : Heap} (ha : args.length ≤ 23) (hb : args.all bare = true) :
    E lo 62 args h = fin Tryd.prog [.tmp 2, .tmp 3, .tmp 4] h.length (evCode ⟨Tryd.prog, E, lo, h.length, h62⟩ loopW b62 (args0 args, h)) :=
  ev_body rfl Tryd.func62 rfl Tryd.ntmps62 (by kernel_rfl) rfl c62 rfl ha hb
noncomputable def b63 : Code := bodyOf Tryd.f63
theorem c63 : codeOk Tryd.prog h63 10 b63 = true := by kernel_rfl
/-- jalousie/rat.size -/
theorem e63 {lo : Nat} {args : List V} {h : Heap} (ha : args.length ≤ 10) (hb : args.all bare = true) :
    E lo 63 args h = fin Tryd.prog [.tmp 2] h.length (evCode ⟨Tryd.prog, E, lo, h.length, h63⟩ loopW b63 (args0 args, h)) :=
  ev_body rfl Tryd.func63 rfl Tryd.ntmps63 (by kernel_rfl) rfl c63 rfl ha hb
noncomputable def b64 : Code := bodyOf Tryd.f64
noncomputable def l64x0 : Code := loopAt b64 0
theorem c64 : codeOk Tryd.prog h64 20 b64 = true := by kernel_rfl
/-- jalousie/rat.number -/
theorem e64 {lo : Nat} {args : List V} {h : Heap} (ha : args.length ≤ 20) (hb : args.all bare = true) :
    E lo 64 args h = fin Tryd.prog [.tmp 2] h.length (evCode ⟨Tryd.prog, E, lo, h.length, h64⟩ loopW b64 (args0 args, h)) :=
  ev_body rfl Tryd.func64 rfl Tryd.ntmps64 (by kernel_rfl) rfl c64 rfl ha hb
noncomputable def b65 : Code := bodyOf Tryd.f65
theorem c65 : codeOk Tryd.prog h65 37 b65 = true := by kernel_rfl
/-- strings.TrimRight -/
theorem e65 {lo : Nat} {args : List V} {h : Heap} (ha : args.length ≤ 37) (hb : args.all bare = true) :
    E lo 65 args h = fin Tryd.prog [.tmp 4] h.length (evCode ⟨Tryd.prog, E, lo, h.length, h65⟩ loopW b65 (args0 args, h)) :=
  ev_body rfl Tryd.func65 rfl Tryd.ntmps65 (by kernel_rfl) rfl c65 rfl ha hb
noncomputable def b66 : Code := bodyOf Tryd.f66
noncomputable def l66x0 : Code := loopAt b66 0
theorem c66 : codeOk Tryd.prog h66 81 b66 = true := by kernel_rfl
/-- jalousie/jalousieref2.one -/
theorem e66 {lo : Nat} {args : List V} {h : Heap} (ha : args.length ≤ 81) (hb : args.all bare = true) :
    E lo 66 args h = fin Tryd.prog [.tmp 4, .tmp 5, .tmp 6] h.length (evCode ⟨Tryd.prog, E, lo, h.length, h66⟩ loopW b66 (args0 args, h)) :=
  ev_body rfl Tryd.func66 rfl Tryd.ntmps66 (by kernel_rfl) rfl c66 rfl ha hb
noncomputable def b67 : Code := bodyOf Tryd.f67
noncomputable def l67x0 : Code := loopAt b67 0
theorem c67 : codeOk Tryd.prog h67 12 b67 = true := by kernel_rfl
/-- jalousie/jalousieref1.small -/
theorem e67 {lo : Nat} {args : List V} {h : Heap} (ha : args.length ≤ 12) (hb : args.all bare = true) :
    E lo 67 args h = fin Tryd.prog [.tmp 4] h.length (evCode ⟨Tryd.prog, E, lo, h.length, h67⟩ loopW b67 (args0 args, h)) :=
  ev_body rfl Tryd.func67 rfl Tryd.ntmps67 (by kernel_rfl) rfl c67 rfl ha hb
noncomputable def b78 : Code := bodyOf Tryd.f78
noncomputable def l78x0 : Code := loopAt b78 0
theorem c78 : codeOk Tryd.prog h78 143 b78 = true := by kernel_rfl
/-- internal/stringslite.Index -/
theorem e78 {lo : Nat} {args : List V} {h : Heap} (ha : args.length ≤ 143) (hb : args.all bare = true) :
    E lo 78 args h = fin Tryd.prog [.tmp 4] h.length (evCode ⟨Tryd.prog, E, lo, h.length, h78⟩ loopW b78 (args0 args, h)) :=
  ev_body rfl Tryd.func78 rfl Tryd.ntmps78 (by kernel_rfl) rfl c78 rfl ha hb
noncomputable def b79 : Code := bodyOf Tryd.f79
theorem c79 : codeOk Tryd.prog h79 21 b79 = true := by kernel_rfl
/-- jalousie/rat.sure -/
theorem e79 {lo : Nat} {args : List V} {h : Heap} (ha : args.length ≤ 21) (hb : args.all bare = true) :
    E lo 79 args h = fin Tryd.prog [.tmp 2] h.length (evCode ⟨Tryd.prog, E, lo, h.length, h79⟩ loopW b79 (args0 args, h)) :=
  ev_body rfl Tryd.func79 rfl Tryd.ntmps79 (by kernel_rfl) rfl c79 rfl ha hb
noncomputable def b87 : Code := bodyOf Tryd.f87
noncomputable def l87x0 : Code := loopAt b87 0
theorem c87 : codeOk Tryd.prog h87 23 b87 = true := by kernel_rfl
/-- strings.trimRightByte -/
theorem e87 {lo : Nat} {args : List V} {h : Heap} (ha : args.length ≤ 23) (hb : args.all bare = true) :
    E lo 87 args h = fin Tryd.prog [.tmp 4] h.length (evCode ⟨Tryd.prog, E, lo, h.length, h87⟩ loopW b87 (args0 args, h)) :=
  ev_body rfl Tryd.func87 rfl Tryd.ntmps87 (by kernel_rfl) rfl c87 rfl ha hb
noncomputable def b91 : Code := bodyOf Tryd.f91
theorem c91 : codeOk Tryd.prog h91 38 b91 = true := by kernel_rfl
/-- jalousie/jalousieref2.need -/
theorem e91 {lo : Nat} {args : List V} {h : Heap} (ha : args.length ≤ 38) (hb : args.all bare = true) :
    E lo 91 args h = fin Tryd.prog [.tmp 2, .tmp 3, .tmp 4] h.length (evCode ⟨Tryd.prog, E, lo, h.length, h91⟩ loopW b91 (args0 args, h)) :=
  ev_body rfl Tryd.func91 rfl Tryd.ntmps91 (by kernel_rfl) rfl c91 rfl ha hb
noncomputable def b108 : Code := bodyOf Tryd.f108
theorem c108 : codeOk Tryd.prog h108 6 b108 = true := by kernel_rfl
/-- internal/bytealg.Cutover -/
theorem e108 {lo : Nat} {args : List V} {h : Heap} (ha : args.length ≤ 6) (hb : args.all bare = true) :
    E lo 108 args h = fin Tryd.prog [.tmp 2] h.length (evCode ⟨Tryd.prog, E, lo, h.length, h108⟩ loopW b108 (args0 args, h)) :=
  ev_body rfl Tryd.func108 rfl Tryd.ntmps108 (by kernel_rfl) rfl c108 rfl ha hb
noncomputable def b110 : Code := bodyOf Tryd.f110
noncomputable def l110x0 : Code := loopAt b110 0
theorem c110 : codeOk Tryd.prog h110 12 b110 = true := by kernel_rfl
/-- jalousie/rat.gcd -/
theorem e110 {lo : Nat} {args : List V} {h : Heap} (ha : args.length ≤ 12) (hb : args.all bare = true) :
    E lo 110 args h = fin Tryd.prog [.tmp 4] h.length (evCode ⟨Tryd.prog, E, lo, h.length, h110⟩ loopW b110 (args0 args, h)) :=
  ev_body rfl Tryd.func110 rfl Tryd.ntmps110 (by kernel_rfl) rfl c110 rfl ha hb
end Go.Lift.D4
