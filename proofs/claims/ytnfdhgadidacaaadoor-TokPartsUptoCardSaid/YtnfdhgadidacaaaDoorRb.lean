/- Facts of the program that the evaluation asks for, written by a program. -/
import Derived.Test.YtnfdhgadidacaaaDoorRows
import Derived.Lib.MapLaws
import Derived.Lib.DecodeN
import Derived.Test.YtnfdhgadidacaaaDoorTa
/- Facts of the program that the evaluation asks for: the live slots of each function, its types. Written by a program (gen.py). -/
namespace Go.Lift.D3
set_option linter.unusedVariables false
set_option linter.unusedSimpArgs false
open Go.Proofs
set_option maxRecDepth 20000

/-- what the package-level variables hold: unicode/utf8.first, unicode/utf8.acceptRanges -/
instance gtab : GTab := ⟨fun n => match n with | 3 => some ((List.range 256).map fun c => .v (.int .u8 (Go.Lib.firstT c))) | 4 => some ((List.range 16).flatMap fun i => [.v (.int .u8 (Go.Lib.accLo i)), .v (.int .u8 (Go.Lib.accHi i))]) | _ => none⟩
/-- what jalousie/tok.alike makes of a character -/
def lowU (c : Int) : Int := if (decide (65 ≤ c) && decide (c ≤ 90)) = true then c + 32 else c
/-- strings.Map of that, taken from the shelf -/
noncomputable def mapP (lo : Nat) (args : List V) (h : Heap) : Option (V × Heap) := match args with
  | [.fn g [], .v (.string s)] => if g = 74 ∧ s.size < 35184372088832 then some (.v (.string ⟨(Go.Lib.mapD lowU s.data.toList).toArray⟩), h) else none
  | _ => none
noncomputable def primz : Nat → Option (Nat → List V → Heap → Option (V × Heap)) := fun n => match n with | 73 => some mapP | _ => none
attribute [go_sem] Tryd.underlying2
@[go_sem] theorem z2 : tsize Tryd.prog 2 = 1 := by kernel_rfl
@[go_sem] theorem k2 : ttag Tryd.prog 2 = some false := by kernel_rfl
@[go_sem] theorem y2 : Tryd.prog.bytesOf 2 = 8 := by kernel_rfl
@[go_sem] theorem s2 : isStr Tryd.prog 2 = false := by kernel_rfl
@[go_sem] theorem j2 : isI32 Tryd.prog 2 = false := by kernel_rfl
@[go_sem] theorem w2 : isU8 Tryd.prog 2 = false := by kernel_rfl
@[go_sem] theorem o2 : tzero Tryd.prog 2 = some [.int .i64 0] := by kernel_rfl
@[go_sem] theorem i2 : (Tryd.prog.info? 2).isSome = true := by kernel_rfl
attribute [go_sem] Tryd.underlying3
@[go_sem] theorem z3 : tsize Tryd.prog 3 = 1 := by kernel_rfl
@[go_sem] theorem k3 : ttag Tryd.prog 3 = some false := by kernel_rfl
@[go_sem] theorem y3 : Tryd.prog.bytesOf 3 = 8 := by kernel_rfl
@[go_sem] theorem s3 : isStr Tryd.prog 3 = false := by kernel_rfl
@[go_sem] theorem j3 : isI32 Tryd.prog 3 = false := by kernel_rfl
@[go_sem] theorem w3 : isU8 Tryd.prog 3 = false := by kernel_rfl
@[go_sem] theorem o3 : tzero Tryd.prog 3 = some [.int .i64 0] := by kernel_rfl
@[go_sem] theorem i3 : (Tryd.prog.info? 3).isSome = true := by kernel_rfl
attribute [go_sem] Tryd.underlying4
@[go_sem] theorem z4 : tsize Tryd.prog 4 = 1 := by kernel_rfl
@[go_sem] theorem k4 : ttag Tryd.prog 4 = some false := by kernel_rfl
@[go_sem] theorem y4 : Tryd.prog.bytesOf 4 = 1 := by kernel_rfl
@[go_sem] theorem s4 : isStr Tryd.prog 4 = false := by kernel_rfl
@[go_sem] theorem j4 : isI32 Tryd.prog 4 = false := by kernel_rfl
@[go_sem] theorem w4 : isU8 Tryd.prog 4 = false := by kernel_rfl
@[go_sem] theorem o4 : tzero Tryd.prog 4 = some [.bool false] := by kernel_rfl
@[go_sem] theorem i4 : (Tryd.prog.info? 4).isSome = true := by kernel_rfl
attribute [go_sem] Tryd.underlying5
@[go_sem] theorem z5 : tsize Tryd.prog 5 = 1 := by kernel_rfl
@[go_sem] theorem k5 : ttag Tryd.prog 5 = some false := by kernel_rfl
@[go_sem] theorem y5 : Tryd.prog.bytesOf 5 = 1 := by kernel_rfl
@[go_sem] theorem s5 : isStr Tryd.prog 5 = false := by kernel_rfl
@[go_sem] theorem j5 : isI32 Tryd.prog 5 = false := by kernel_rfl
@[go_sem] theorem w5 : isU8 Tryd.prog 5 = true := by kernel_rfl
@[go_sem] theorem o5 : tzero Tryd.prog 5 = some [.int .u8 0] := by kernel_rfl
@[go_sem] theorem i5 : (Tryd.prog.info? 5).isSome = true := by kernel_rfl
attribute [go_sem] Tryd.underlying9
@[go_sem] theorem z9 : tsize Tryd.prog 9 = 1 := by kernel_rfl
@[go_sem] theorem k9 : ttag Tryd.prog 9 = some false := by kernel_rfl
@[go_sem] theorem y9 : Tryd.prog.bytesOf 9 = 16 := by kernel_rfl
@[go_sem] theorem s9 : isStr Tryd.prog 9 = true := by kernel_rfl
@[go_sem] theorem j9 : isI32 Tryd.prog 9 = false := by kernel_rfl
@[go_sem] theorem w9 : isU8 Tryd.prog 9 = false := by kernel_rfl
@[go_sem] theorem o9 : tzero Tryd.prog 9 = some [.string ByteArray.empty] := by kernel_rfl
@[go_sem] theorem i9 : (Tryd.prog.info? 9).isSome = true := by kernel_rfl
attribute [go_sem] Tryd.underlying21
@[go_sem] theorem z21 : tsize Tryd.prog 21 = 1 := by kernel_rfl
@[go_sem] theorem k21 : ttag Tryd.prog 21 = some false := by kernel_rfl
@[go_sem] theorem y21 : Tryd.prog.bytesOf 21 = 4 := by kernel_rfl
@[go_sem] theorem s21 : isStr Tryd.prog 21 = false := by kernel_rfl
@[go_sem] theorem j21 : isI32 Tryd.prog 21 = true := by kernel_rfl
@[go_sem] theorem w21 : isU8 Tryd.prog 21 = false := by kernel_rfl
@[go_sem] theorem o21 : tzero Tryd.prog 21 = some [.int .i32 0] := by kernel_rfl
@[go_sem] theorem i21 : (Tryd.prog.info? 21).isSome = true := by kernel_rfl
attribute [go_sem] Tryd.underlying22
@[go_sem] theorem z22 : tsize Tryd.prog 22 = 1 := by kernel_rfl
@[go_sem] theorem k22 : ttag Tryd.prog 22 = some false := by kernel_rfl
@[go_sem] theorem y22 : Tryd.prog.bytesOf 22 = 24 := by kernel_rfl
@[go_sem] theorem s22 : isStr Tryd.prog 22 = false := by kernel_rfl
@[go_sem] theorem j22 : isI32 Tryd.prog 22 = false := by kernel_rfl
@[go_sem] theorem w22 : isU8 Tryd.prog 22 = false := by kernel_rfl
@[go_sem] theorem o22 : tzero Tryd.prog 22 = some [.slice none 0 0] := by kernel_rfl
@[go_sem] theorem i22 : (Tryd.prog.info? 22).isSome = true := by kernel_rfl
attribute [go_sem] Tryd.underlying23
@[go_sem] theorem z23 : tsize Tryd.prog 23 = 1 := by kernel_rfl
@[go_sem] theorem k23 : ttag Tryd.prog 23 = some false := by kernel_rfl
@[go_sem] theorem y23 : Tryd.prog.bytesOf 23 = 24 := by kernel_rfl
@[go_sem] theorem s23 : isStr Tryd.prog 23 = false := by kernel_rfl
@[go_sem] theorem j23 : isI32 Tryd.prog 23 = false := by kernel_rfl
@[go_sem] theorem w23 : isU8 Tryd.prog 23 = false := by kernel_rfl
@[go_sem] theorem o23 : tzero Tryd.prog 23 = some [.slice none 0 0] := by kernel_rfl
@[go_sem] theorem i23 : (Tryd.prog.info? 23).isSome = true := by kernel_rfl
attribute [go_sem] Tryd.underlying26
@[go_sem] theorem z26 : tsize Tryd.prog 26 = 2 := by kernel_rfl
@[go_sem] theorem k26 : ttag Tryd.prog 26 = some true := by kernel_rfl
@[go_sem] theorem y26 : Tryd.prog.bytesOf 26 = 16 := by kernel_rfl
@[go_sem] theorem s26 : isStr Tryd.prog 26 = false := by kernel_rfl
@[go_sem] theorem j26 : isI32 Tryd.prog 26 = false := by kernel_rfl
@[go_sem] theorem w26 : isU8 Tryd.prog 26 = false := by kernel_rfl
@[go_sem] theorem o26 : tzero Tryd.prog 26 = some [.int .i64 0, .int .i64 0] := by kernel_rfl
@[go_sem] theorem i26 : (Tryd.prog.info? 26).isSome = true := by kernel_rfl
@[go_sem] theorem x26 : structOk Tryd.prog 26 = true := by kernel_rfl
@[go_sem] theorem g26x0 : fieldOff Tryd.prog 26 0 = some (0, 2) := by kernel_rfl
@[go_sem] theorem g26x1 : fieldOff Tryd.prog 26 1 = some (1, 2) := by kernel_rfl
attribute [go_sem] Tryd.underlying28
@[go_sem] theorem z28 : tsize Tryd.prog 28 = 6 := by kernel_rfl
@[go_sem] theorem k28 : ttag Tryd.prog 28 = some true := by kernel_rfl
@[go_sem] theorem y28 : Tryd.prog.bytesOf 28 = 48 := by kernel_rfl
@[go_sem] theorem s28 : isStr Tryd.prog 28 = false := by kernel_rfl
@[go_sem] theorem j28 : isI32 Tryd.prog 28 = false := by kernel_rfl
@[go_sem] theorem w28 : isU8 Tryd.prog 28 = false := by kernel_rfl
@[go_sem] theorem o28 : tzero Tryd.prog 28 = some [.int .i64 0, .string ByteArray.empty, .int .i64 0, .int .i64 0, .bool false, .bool false] := by kernel_rfl
@[go_sem] theorem i28 : (Tryd.prog.info? 28).isSome = true := by kernel_rfl
@[go_sem] theorem x28 : structOk Tryd.prog 28 = true := by kernel_rfl
@[go_sem] theorem g28x0 : fieldOff Tryd.prog 28 0 = some (0, 3) := by kernel_rfl
@[go_sem] theorem g28x1 : fieldOff Tryd.prog 28 1 = some (1, 9) := by kernel_rfl
@[go_sem] theorem g28x2 : fieldOff Tryd.prog 28 2 = some (2, 26) := by kernel_rfl
@[go_sem] theorem g28x3 : fieldOff Tryd.prog 28 3 = some (4, 4) := by kernel_rfl
@[go_sem] theorem g28x4 : fieldOff Tryd.prog 28 4 = some (5, 4) := by kernel_rfl
attribute [go_sem] Tryd.underlying31
@[go_sem] theorem z31 : tsize Tryd.prog 31 = 1 := by kernel_rfl
@[go_sem] theorem k31 : ttag Tryd.prog 31 = some false := by kernel_rfl
@[go_sem] theorem y31 : Tryd.prog.bytesOf 31 = 24 := by kernel_rfl
@[go_sem] theorem s31 : isStr Tryd.prog 31 = false := by kernel_rfl
@[go_sem] theorem j31 : isI32 Tryd.prog 31 = false := by kernel_rfl
@[go_sem] theorem w31 : isU8 Tryd.prog 31 = false := by kernel_rfl
@[go_sem] theorem o31 : tzero Tryd.prog 31 = some [.slice none 0 0] := by kernel_rfl
@[go_sem] theorem i31 : (Tryd.prog.info? 31).isSome = true := by kernel_rfl
attribute [go_sem] Tryd.underlying35
@[go_sem] theorem z35 : tsize Tryd.prog 35 = 1 := by kernel_rfl
@[go_sem] theorem k35 : ttag Tryd.prog 35 = some false := by kernel_rfl
@[go_sem] theorem y35 : Tryd.prog.bytesOf 35 = 24 := by kernel_rfl
@[go_sem] theorem s35 : isStr Tryd.prog 35 = false := by kernel_rfl
@[go_sem] theorem j35 : isI32 Tryd.prog 35 = false := by kernel_rfl
@[go_sem] theorem w35 : isU8 Tryd.prog 35 = false := by kernel_rfl
@[go_sem] theorem o35 : tzero Tryd.prog 35 = some [.slice none 0 0] := by kernel_rfl
@[go_sem] theorem i35 : (Tryd.prog.info? 35).isSome = true := by kernel_rfl
attribute [go_sem] Tryd.underlying40
@[go_sem] theorem z40 : tsize Tryd.prog 40 = 2 := by kernel_rfl
@[go_sem] theorem k40 : ttag Tryd.prog 40 = some true := by kernel_rfl
@[go_sem] theorem y40 : Tryd.prog.bytesOf 40 = 32 := by kernel_rfl
@[go_sem] theorem s40 : isStr Tryd.prog 40 = false := by kernel_rfl
@[go_sem] theorem j40 : isI32 Tryd.prog 40 = false := by kernel_rfl
@[go_sem] theorem w40 : isU8 Tryd.prog 40 = false := by kernel_rfl
@[go_sem] theorem o40 : tzero Tryd.prog 40 = some [.slice none 0 0, .int .i64 0] := by kernel_rfl
@[go_sem] theorem i40 : (Tryd.prog.info? 40).isSome = true := by kernel_rfl
@[go_sem] theorem x40 : structOk Tryd.prog 40 = true := by kernel_rfl
@[go_sem] theorem g40x0 : fieldOff Tryd.prog 40 0 = some (0, 22) := by kernel_rfl
@[go_sem] theorem g40x1 : fieldOff Tryd.prog 40 1 = some (1, 3) := by kernel_rfl
attribute [go_sem] Tryd.underlying42
@[go_sem] theorem z42 : tsize Tryd.prog 42 = 2 := by kernel_rfl
@[go_sem] theorem k42 : ttag Tryd.prog 42 = some true := by kernel_rfl
@[go_sem] theorem y42 : Tryd.prog.bytesOf 42 = 32 := by kernel_rfl
@[go_sem] theorem s42 : isStr Tryd.prog 42 = false := by kernel_rfl
@[go_sem] theorem j42 : isI32 Tryd.prog 42 = false := by kernel_rfl
@[go_sem] theorem w42 : isU8 Tryd.prog 42 = false := by kernel_rfl
@[go_sem] theorem o42 : tzero Tryd.prog 42 = some [.slice none 0 0, .int .i64 0] := by kernel_rfl
@[go_sem] theorem i42 : (Tryd.prog.info? 42).isSome = true := by kernel_rfl
@[go_sem] theorem x42 : structOk Tryd.prog 42 = true := by kernel_rfl
@[go_sem] theorem g42x0 : fieldOff Tryd.prog 42 0 = some (0, 40) := by kernel_rfl
attribute [go_sem] Tryd.underlying53
@[go_sem] theorem z53 : tsize Tryd.prog 53 = 1 := by kernel_rfl
@[go_sem] theorem k53 : ttag Tryd.prog 53 = some false := by kernel_rfl
@[go_sem] theorem y53 : Tryd.prog.bytesOf 53 = 8 := by kernel_rfl
@[go_sem] theorem s53 : isStr Tryd.prog 53 = false := by kernel_rfl
@[go_sem] theorem j53 : isI32 Tryd.prog 53 = false := by kernel_rfl
@[go_sem] theorem w53 : isU8 Tryd.prog 53 = false := by kernel_rfl
@[go_sem] theorem i53 : (Tryd.prog.info? 53).isSome = true := by kernel_rfl
attribute [go_sem] Tryd.underlying55
@[go_sem] theorem z55 : tsize Tryd.prog 55 = 1 := by kernel_rfl
@[go_sem] theorem k55 : ttag Tryd.prog 55 = some false := by kernel_rfl
@[go_sem] theorem y55 : Tryd.prog.bytesOf 55 = 8 := by kernel_rfl
@[go_sem] theorem s55 : isStr Tryd.prog 55 = false := by kernel_rfl
@[go_sem] theorem j55 : isI32 Tryd.prog 55 = false := by kernel_rfl
@[go_sem] theorem w55 : isU8 Tryd.prog 55 = false := by kernel_rfl
@[go_sem] theorem i55 : (Tryd.prog.info? 55).isSome = true := by kernel_rfl
attribute [go_sem] Tryd.underlying64
@[go_sem] theorem z64 : tsize Tryd.prog 64 = 1 := by kernel_rfl
@[go_sem] theorem k64 : ttag Tryd.prog 64 = some false := by kernel_rfl
@[go_sem] theorem y64 : Tryd.prog.bytesOf 64 = 8 := by kernel_rfl
@[go_sem] theorem s64 : isStr Tryd.prog 64 = false := by kernel_rfl
@[go_sem] theorem j64 : isI32 Tryd.prog 64 = false := by kernel_rfl
@[go_sem] theorem w64 : isU8 Tryd.prog 64 = false := by kernel_rfl
@[go_sem] theorem o64 : tzero Tryd.prog 64 = some [.int .u64 0] := by kernel_rfl
@[go_sem] theorem i64 : (Tryd.prog.info? 64).isSome = true := by kernel_rfl
attribute [go_sem] Tryd.underlying69
@[go_sem] theorem z69 : tsize Tryd.prog 69 = 1 := by kernel_rfl
@[go_sem] theorem k69 : ttag Tryd.prog 69 = some false := by kernel_rfl
@[go_sem] theorem y69 : Tryd.prog.bytesOf 69 = 8 := by kernel_rfl
@[go_sem] theorem s69 : isStr Tryd.prog 69 = false := by kernel_rfl
@[go_sem] theorem j69 : isI32 Tryd.prog 69 = false := by kernel_rfl
@[go_sem] theorem w69 : isU8 Tryd.prog 69 = false := by kernel_rfl
@[go_sem] theorem o69 : tzero Tryd.prog 69 = some [.int .u64 0] := by kernel_rfl
@[go_sem] theorem i69 : (Tryd.prog.info? 69).isSome = true := by kernel_rfl
attribute [go_sem] Tryd.underlying85
@[go_sem] theorem z85 : tsize Tryd.prog 85 = 5 := by kernel_rfl
@[go_sem] theorem k85 : ttag Tryd.prog 85 = some true := by kernel_rfl
@[go_sem] theorem y85 : Tryd.prog.bytesOf 85 = 48 := by kernel_rfl
@[go_sem] theorem s85 : isStr Tryd.prog 85 = false := by kernel_rfl
@[go_sem] theorem j85 : isI32 Tryd.prog 85 = false := by kernel_rfl
@[go_sem] theorem w85 : isU8 Tryd.prog 85 = false := by kernel_rfl
@[go_sem] theorem o85 : tzero Tryd.prog 85 = some [.bool false, .string ByteArray.empty, .int .i64 0, .int .i64 0, .bool false] := by kernel_rfl
@[go_sem] theorem i85 : (Tryd.prog.info? 85).isSome = true := by kernel_rfl
@[go_sem] theorem x85 : structOk Tryd.prog 85 = true := by kernel_rfl
@[go_sem] theorem g85x0 : fieldOff Tryd.prog 85 0 = some (0, 4) := by kernel_rfl
@[go_sem] theorem g85x1 : fieldOff Tryd.prog 85 1 = some (1, 9) := by kernel_rfl
@[go_sem] theorem g85x2 : fieldOff Tryd.prog 85 2 = some (2, 2) := by kernel_rfl
@[go_sem] theorem g85x3 : fieldOff Tryd.prog 85 3 = some (3, 2) := by kernel_rfl
@[go_sem] theorem g85x4 : fieldOff Tryd.prog 85 4 = some (4, 4) := by kernel_rfl
attribute [go_sem] Tryd.underlying105
@[go_sem] theorem z105 : tsize Tryd.prog 105 = 256 := by kernel_rfl
@[go_sem] theorem k105 : ttag Tryd.prog 105 = some true := by kernel_rfl
@[go_sem] theorem y105 : Tryd.prog.bytesOf 105 = 256 := by kernel_rfl
@[go_sem] theorem s105 : isStr Tryd.prog 105 = false := by kernel_rfl
@[go_sem] theorem j105 : isI32 Tryd.prog 105 = false := by kernel_rfl
@[go_sem] theorem w105 : isU8 Tryd.prog 105 = false := by kernel_rfl
@[go_sem] theorem o105 : tzero Tryd.prog 105 = some [.bool false, .bool false, .bool false, .bool false, .bool false, .bool false, .bool false, .bool false, .bool false, .bool false, .bool false, .bool false, .bool false, .bool false, .bool false, .bool false, .bool false, .bool false, .bool false, .bool false, .bool false, .bool false, .bool false, .bool false, .bool false, .bool false, .bool false, .bool false, .bool false, .bool false, .bool false, .bool false, .bool false, .bool false, .bool false, .bool false, .bool false, .bool false, .bool false, .bool false, .bool false, .bool false, .bool false, .bool false, .bool false, .bool false, .bool false, .bool false, .bool false, .bool false, .bool false, .bool false, .bool false, .bool false, .bool false, .bool false, .bool false, .bool false, .bool false, .bool false, .bool false, .bool false, .bool false, .bool false, .bool false, .bool false, .bool false, .bool false, .bool false, .bool false, .bool false, .bool false, .bool false, .bool false, .bool false, .bool false, .bool false, .bool false, .bool false, .bool false, .bool false, .bool false, .bool false, .bool false, .bool false, .bool false, .bool false, .bool false, .bool false, .bool false, .bool false, .bool false, .bool false, .bool false, .bool false, .bool false, .bool false, .bool false, .bool false, .bool false, .bool false, .bool false, .bool false, .bool false, .bool false, .bool false, .bool false, .bool false, .bool false, .bool false, .bool false, .bool false, .bool false, .bool false, .bool false, .bool false, .bool false, .bool false, .bool false, .bool false, .bool false, .bool false, .bool false, .bool false, .bool false, .bool false, .bool false, .bool false, .bool false, .bool false, .bool false, .bool false, .bool false, .bool false, .bool false, .bool false, .bool false, .bool false, .bool false, .bool false, .bool false, .bool false, .bool false, .bool false, .bool false, .bool false, .bool false, .bool false, .bool false, .bool false, .bool false, .bool false, .bool false, .bool false, .bool false, .bool false, .bool false, .bool false, .bool false, .bool false, .bool false, .bool false, .bool false, .bool false, .bool false, .bool false, .bool false, .bool false, .bool false, .bool false, .bool false, .bool false, .bool false, .bool false, .bool false, .bool false, .bool false, .bool false, .bool false, .bool false, .bool false, .bool false, .bool false, .bool false, .bool false, .bool false, .bool false, .bool false, .bool false, .bool false, .bool false, .bool false, .bool false, .bool false, .bool false, .bool false, .bool false, .bool false, .bool false, .bool false, .bool false, .bool false, .bool false, .bool false, .bool false, .bool false, .bool false, .bool false, .bool false, .bool false, .bool false, .bool false, .bool false, .bool false, .bool false, .bool false, .bool false, .bool false, .bool false, .bool false, .bool false, .bool false, .bool false, .bool false, .bool false, .bool false, .bool false, .bool false, .bool false, .bool false, .bool false, .bool false, .bool false, .bool false, .bool false, .bool false, .bool false, .bool false, .bool false, .bool false, .bool false, .bool false, .bool false, .bool false, .bool false, .bool false, .bool false, .bool false, .bool false, .bool false, .bool false, .bool false, .bool false, .bool false, .bool false, .bool false] := by kernel_rfl
@[go_sem] theorem i105 : (Tryd.prog.info? 105).isSome = true := by kernel_rfl
attribute [go_sem] Tryd.underlying118
@[go_sem] theorem z118 : tsize Tryd.prog 118 = 1 := by kernel_rfl
@[go_sem] theorem k118 : ttag Tryd.prog 118 = some false := by kernel_rfl
@[go_sem] theorem y118 : Tryd.prog.bytesOf 118 = 24 := by kernel_rfl
@[go_sem] theorem s118 : isStr Tryd.prog 118 = false := by kernel_rfl
@[go_sem] theorem j118 : isI32 Tryd.prog 118 = false := by kernel_rfl
@[go_sem] theorem w118 : isU8 Tryd.prog 118 = false := by kernel_rfl
@[go_sem] theorem o118 : tzero Tryd.prog 118 = some [.slice none 0 0] := by kernel_rfl
@[go_sem] theorem i118 : (Tryd.prog.info? 118).isSome = true := by kernel_rfl

def h3 : Hint := ⟨(fun id => match id with | 0 => some [0] | 1 => some [0, 3] | 2 => some [3, 15] | 3 => some [2] | 4 => some [16, 17, 18] | 5 => some [16, 17, 18, 19] | 6 => some [5, 16, 17, 18] | 7 => some [5, 6, 16, 17, 18] | 8 => some [5, 6, 7, 16, 17, 18] | 9 => some [5, 6, 7, 8, 16, 17, 18] | 10 => some [5, 7, 16, 17, 18, 121] | 11 => some [2] | 12 => some [16, 17, 18, 150] | 13 => some [2] | 14 => some [16, 17, 18] | 15 => some [2] | _ => none), (fun _ => none), (fun _ => none), [], false, (fun _ => none)⟩
@[go_sem] theorem h3x : h3.mix = (fun _ => none) := rfl
@[go_sem] theorem h3l : h3.live = (fun id => match id with | 0 => some [0] | 1 => some [0, 3] | 2 => some [3, 15] | 3 => some [2] | 4 => some [16, 17, 18] | 5 => some [16, 17, 18, 19] | 6 => some [5, 16, 17, 18] | 7 => some [5, 6, 16, 17, 18] | 8 => some [5, 6, 7, 16, 17, 18] | 9 => some [5, 6, 7, 8, 16, 17, 18] | 10 => some [5, 7, 16, 17, 18, 121] | 11 => some [2] | 12 => some [16, 17, 18, 150] | 13 => some [2] | 14 => some [16, 17, 18] | 15 => some [2] | _ => none) := rfl
@[go_sem] theorem h3k : h3.keep = (fun _ => none) := rfl
@[go_sem] theorem h3t : h3.tail = (fun _ => none) := rfl
@[go_sem] theorem h3v : h3.vars = [] := rfl
@[go_sem] theorem h3m : h3.mutc = false := rfl
def h4 : Hint := ⟨(fun id => match id with | 0 => some [0, 1] | 1 => some [0, 1, 5] | 2 => some [0, 1, 5, 13] | 3 => some [0, 1, 5] | 4 => some [0, 1, 5, 70] | 5 => some [4] | 6 => some [0, 1, 92] | 7 => some [4] | 8 => some [0, 1, 6] | 9 => some [6, 7, 8] | 10 => some [7, 8, 9] | 11 => some [7, 8, 9, 124] | 12 => some [4] | 13 => some [4] | _ => none), (fun _ => none), (fun _ => none), [], false, (fun _ => none)⟩
@[go_sem] theorem h4x : h4.mix = (fun _ => none) := rfl
@[go_sem] theorem h4l : h4.live = (fun id => match id with | 0 => some [0, 1] | 1 => some [0, 1, 5] | 2 => some [0, 1, 5, 13] | 3 => some [0, 1, 5] | 4 => some [0, 1, 5, 70] | 5 => some [4] | 6 => some [0, 1, 92] | 7 => some [4] | 8 => some [0, 1, 6] | 9 => some [6, 7, 8] | 10 => some [7, 8, 9] | 11 => some [7, 8, 9, 124] | 12 => some [4] | 13 => some [4] | _ => none) := rfl
@[go_sem] theorem h4k : h4.keep = (fun _ => none) := rfl
@[go_sem] theorem h4t : h4.tail = (fun _ => none) := rfl
@[go_sem] theorem h4v : h4.vars = [] := rfl
@[go_sem] theorem h4m : h4.mutc = false := rfl
def h5 : Hint := ⟨(fun id => match id with | 0 => some [0, 1, 2] | 1 => some [0, 1, 2, 26] | 2 => some [6] | 3 => some [0, 1, 2, 30, 31, 32] | 4 => some [0, 1, 2, 30, 31, 32, 33] | 5 => some [0, 1, 2, 8, 30, 31, 32] | 6 => some [0, 1, 2, 8, 9, 30, 31, 32] | 7 => some [0, 1, 2, 8, 9, 30, 31, 32, 39] | 8 => some [0, 1, 2, 8, 9, 30, 31, 32] | 9 => some [0, 1, 2, 8, 9, 30, 31, 32, 88] | 10 => some [6] | 11 => some [0, 1, 2, 30, 31, 32] | 12 => some [0, 1, 2, 146] | 13 => some [6] | 14 => some [0, 1, 2, 10] | 15 => some [0, 1, 10] | 16 => some [0, 1, 11] | 17 => some [1, 11, 12] | 18 => some [11, 12, 13] | 19 => some [6] | _ => none), (fun _ => none), (fun _ => none), [10], false, (fun _ => none)⟩
@[go_sem] theorem h5x : h5.mix = (fun _ => none) := rfl
@[go_sem] theorem h5l : h5.live = (fun id => match id with | 0 => some [0, 1, 2] | 1 => some [0, 1, 2, 26] | 2 => some [6] | 3 => some [0, 1, 2, 30, 31, 32] | 4 => some [0, 1, 2, 30, 31, 32, 33] | 5 => some [0, 1, 2, 8, 30, 31, 32] | 6 => some [0, 1, 2, 8, 9, 30, 31, 32] | 7 => some [0, 1, 2, 8, 9, 30, 31, 32, 39] | 8 => some [0, 1, 2, 8, 9, 30, 31, 32] | 9 => some [0, 1, 2, 8, 9, 30, 31, 32, 88] | 10 => some [6] | 11 => some [0, 1, 2, 30, 31, 32] | 12 => some [0, 1, 2, 146] | 13 => some [6] | 14 => some [0, 1, 2, 10] | 15 => some [0, 1, 10] | 16 => some [0, 1, 11] | 17 => some [1, 11, 12] | 18 => some [11, 12, 13] | 19 => some [6] | _ => none) := rfl
@[go_sem] theorem h5k : h5.keep = (fun _ => none) := rfl
@[go_sem] theorem h5t : h5.tail = (fun _ => none) := rfl
@[go_sem] theorem h5v : h5.vars = [10] := rfl
@[go_sem] theorem h5m : h5.mutc = false := rfl
def h7 : Hint := ⟨(fun id => match id with | 0 => some [0] | 1 => some [3] | 2 => some [3, 4] | 3 => some [3, 4] | 4 => some [3, 4, 12] | 5 => some [2] | 6 => some [3, 4] | _ => none), (fun _ => none), (fun _ => none), [4], false, (fun _ => none)⟩
@[go_sem] theorem h7x : h7.mix = (fun _ => none) := rfl
@[go_sem] theorem h7l : h7.live = (fun id => match id with | 0 => some [0] | 1 => some [3] | 2 => some [3, 4] | 3 => some [3, 4] | 4 => some [3, 4, 12] | 5 => some [2] | 6 => some [3, 4] | _ => none) := rfl
@[go_sem] theorem h7k : h7.keep = (fun _ => none) := rfl
@[go_sem] theorem h7t : h7.tail = (fun _ => none) := rfl
@[go_sem] theorem h7v : h7.vars = [4] := rfl
@[go_sem] theorem h7m : h7.mutc = false := rfl
def h8 : Hint := ⟨(fun id => match id with | 0 => some [] | 1 => some [1] | 2 => some [0] | _ => none), (fun _ => none), (fun _ => none), [], false, (fun _ => none)⟩
@[go_sem] theorem h8x : h8.mix = (fun _ => none) := rfl
@[go_sem] theorem h8l : h8.live = (fun id => match id with | 0 => some [] | 1 => some [1] | 2 => some [0] | _ => none) := rfl
@[go_sem] theorem h8k : h8.keep = (fun _ => none) := rfl
@[go_sem] theorem h8t : h8.tail = (fun _ => none) := rfl
@[go_sem] theorem h8v : h8.vars = [] := rfl
@[go_sem] theorem h8m : h8.mutc = false := rfl
def h9 : Hint := ⟨(fun id => match id with | 0 => some [0] | 1 => some [2] | _ => none), (fun _ => none), (fun _ => none), [], false, (fun _ => none)⟩
@[go_sem] theorem h9x : h9.mix = (fun _ => none) := rfl
@[go_sem] theorem h9l : h9.live = (fun id => match id with | 0 => some [0] | 1 => some [2] | _ => none) := rfl
@[go_sem] theorem h9k : h9.keep = (fun _ => none) := rfl
@[go_sem] theorem h9t : h9.tail = (fun _ => none) := rfl
@[go_sem] theorem h9v : h9.vars = [] := rfl
@[go_sem] theorem h9m : h9.mutc = false := rfl
def h10 : Hint := ⟨(fun id => match id with | 0 => some [0, 1] | 1 => some [0, 1, 10] | 2 => some [4] | 3 => some [0, 1, 12, 13] | 4 => some [0, 1, 12, 13, 14] | 5 => some [0, 1, 5, 12, 13] | 6 => some [0, 1, 12, 13, 24] | 7 => some [4] | 8 => some [0, 1, 12, 13] | 9 => some [4] | _ => none), (fun _ => none), (fun id => match id with | 6 => some 9 | _ => none), [], false, (fun _ => none)⟩
@[go_sem] theorem h10x : h10.mix = (fun _ => none) := rfl
@[go_sem] theorem h10l : h10.live = (fun id => match id with | 0 => some [0, 1] | 1 => some [0, 1, 10] | 2 => some [4] | 3 => some [0, 1, 12, 13] | 4 => some [0, 1, 12, 13, 14] | 5 => some [0, 1, 5, 12, 13] | 6 => some [0, 1, 12, 13, 24] | 7 => some [4] | 8 => some [0, 1, 12, 13] | 9 => some [4] | _ => none) := rfl
@[go_sem] theorem h10k : h10.keep = (fun _ => none) := rfl
@[go_sem] theorem h10t : h10.tail = (fun id => match id with | 6 => some 9 | _ => none) := rfl
@[go_sem] theorem h10v : h10.vars = [] := rfl
@[go_sem] theorem h10m : h10.mutc = false := rfl
def h15 : Hint := ⟨(fun id => match id with | 0 => some [0, 4] | 1 => some [0] | 2 => some [0, 20] | 3 => some [0] | 4 => some [0, 30] | 5 => some [0] | _ => none), (fun _ => none), (fun _ => none), [], false, (fun _ => none)⟩
@[go_sem] theorem h15x : h15.mix = (fun _ => none) := rfl
@[go_sem] theorem h15l : h15.live = (fun id => match id with | 0 => some [0, 4] | 1 => some [0] | 2 => some [0, 20] | 3 => some [0] | 4 => some [0, 30] | 5 => some [0] | _ => none) := rfl
@[go_sem] theorem h15k : h15.keep = (fun _ => none) := rfl
@[go_sem] theorem h15t : h15.tail = (fun _ => none) := rfl
@[go_sem] theorem h15v : h15.vars = [] := rfl
@[go_sem] theorem h15m : h15.mutc = false := rfl
def h16 : Hint := ⟨(fun id => match id with | 0 => some [0, 1] | 1 => some [0, 1, 17] | 2 => some [4] | 3 => some [5] | 4 => some [5, 43] | 5 => some [4] | 6 => some [4] | _ => none), (fun _ => none), (fun id => match id with | 1 => some 12 | 3 => some 12 | _ => none), [], false, (fun _ => none)⟩
@[go_sem] theorem h16x : h16.mix = (fun _ => none) := rfl
@[go_sem] theorem h16l : h16.live = (fun id => match id with | 0 => some [0, 1] | 1 => some [0, 1, 17] | 2 => some [4] | 3 => some [5] | 4 => some [5, 43] | 5 => some [4] | 6 => some [4] | _ => none) := rfl
@[go_sem] theorem h16k : h16.keep = (fun _ => none) := rfl
@[go_sem] theorem h16t : h16.tail = (fun id => match id with | 1 => some 12 | 3 => some 12 | _ => none) := rfl
@[go_sem] theorem h16v : h16.vars = [] := rfl
@[go_sem] theorem h16m : h16.mutc = false := rfl
def h17 : Hint := ⟨(fun id => match id with | 0 => some [0, 2] | 1 => some [0, 2, 3] | 2 => some [0, 2, 3, 9] | 3 => some [2] | 4 => some [2] | 5 => some [0, 2, 3, 17] | 6 => some [2] | 7 => some [0, 2, 3, 26] | 8 => some [2, 3] | 9 => some [2] | 10 => some [0, 2, 3, 42] | 11 => some [2] | 12 => some [0, 2, 3, 65] | 13 => some [2] | 14 => some [2] | 15 => some [0, 2, 3, 81] | 16 => some [2] | 17 => some [2] | 18 => some [0, 2, 3, 97] | 19 => some [0, 2, 4] | 20 => some [0, 2, 4] | 21 => some [2] | 22 => some [0, 2, 132] | 23 => some [0, 2] | 24 => some [2] | 25 => some [0, 2, 155] | 26 => some [2] | 27 => some [2] | _ => none), (fun _ => none), (fun _ => none), [], false, (fun _ => none)⟩
@[go_sem] theorem h17x : h17.mix = (fun _ => none) := rfl
@[go_sem] theorem h17l : h17.live = (fun id => match id with | 0 => some [0, 2] | 1 => some [0, 2, 3] | 2 => some [0, 2, 3, 9] | 3 => some [2] | 4 => some [2] | 5 => some [0, 2, 3, 17] | 6 => some [2] | 7 => some [0, 2, 3, 26] | 8 => some [2, 3] | 9 => some [2] | 10 => some [0, 2, 3, 42] | 11 => some [2] | 12 => some [0, 2, 3, 65] | 13 => some [2] | 14 => some [2] | 15 => some [0, 2, 3, 81] | 16 => some [2] | 17 => some [2] | 18 => some [0, 2, 3, 97] | 19 => some [0, 2, 4] | 20 => some [0, 2, 4] | 21 => some [2] | 22 => some [0, 2, 132] | 23 => some [0, 2] | 24 => some [2] | 25 => some [0, 2, 155] | 26 => some [2] | 27 => some [2] | _ => none) := rfl
@[go_sem] theorem h17k : h17.keep = (fun _ => none) := rfl
@[go_sem] theorem h17t : h17.tail = (fun _ => none) := rfl
@[go_sem] theorem h17v : h17.vars = [] := rfl
@[go_sem] theorem h17m : h17.mutc = false := rfl
def h18 : Hint := ⟨(fun id => match id with | 0 => some [0] | 1 => some [0, 28] | 2 => some [0, 28] | 3 => some [0, 3] | 4 => some [0, 3, 4] | 5 => some [3, 4, 32, 33, 34] | 6 => some [3, 4, 32, 33, 34, 35] | 7 => some [3, 4, 6, 32, 33, 34] | 8 => some [3, 6, 7, 32, 33, 34] | 9 => some [3, 4, 6, 7, 32, 33, 34] | 10 => some [3, 4, 6, 7, 32, 33, 34, 41] | 11 => some [3, 4, 6, 7, 32, 33, 34, 41, 42] | 12 => some [3, 4, 6, 32, 33, 34, 44] | 13 => some [3, 4, 6, 32, 33, 34, 41, 45] | 14 => some [3, 4, 6, 32, 33, 34, 41, 45] | 15 => some [3, 4, 6, 7, 32, 33, 34, 41, 42] | 16 => some [3, 4, 6, 32, 33, 34, 48] | 17 => some [3, 4, 6, 7, 32, 33, 34, 41, 42] | 18 => some [3, 4, 32, 33, 34] | 19 => some [3, 4, 32, 33, 34] | 20 => some [2] | _ => none), (fun _ => none), (fun _ => none), [3], false, (fun _ => none)⟩
@[go_sem] theorem h18x : h18.mix = (fun _ => none) := rfl
@[go_sem] theorem h18l : h18.live = (fun id => match id with | 0 => some [0] | 1 => some [0, 28] | 2 => some [0, 28] | 3 => some [0, 3] | 4 => some [0, 3, 4] | 5 => some [3, 4, 32, 33, 34] | 6 => some [3, 4, 32, 33, 34, 35] | 7 => some [3, 4, 6, 32, 33, 34] | 8 => some [3, 6, 7, 32, 33, 34] | 9 => some [3, 4, 6, 7, 32, 33, 34] | 10 => some [3, 4, 6, 7, 32, 33, 34, 41] | 11 => some [3, 4, 6, 7, 32, 33, 34, 41, 42] | 12 => some [3, 4, 6, 32, 33, 34, 44] | 13 => some [3, 4, 6, 32, 33, 34, 41, 45] | 14 => some [3, 4, 6, 32, 33, 34, 41, 45] | 15 => some [3, 4, 6, 7, 32, 33, 34, 41, 42] | 16 => some [3, 4, 6, 32, 33, 34, 48] | 17 => some [3, 4, 6, 7, 32, 33, 34, 41, 42] | 18 => some [3, 4, 32, 33, 34] | 19 => some [3, 4, 32, 33, 34] | 20 => some [2] | _ => none) := rfl
@[go_sem] theorem h18k : h18.keep = (fun _ => none) := rfl
@[go_sem] theorem h18t : h18.tail = (fun _ => none) := rfl
@[go_sem] theorem h18v : h18.vars = [3] := rfl
@[go_sem] theorem h18m : h18.mutc = false := rfl
def h27 : Hint := ⟨(fun id => match id with | 0 => some [0, 1] | 1 => some [0, 7, 8, 9] | 2 => some [0, 7, 8, 9, 10] | 3 => some [0, 5, 6, 7, 8, 9] | 4 => some [0, 7, 8, 9, 18] | 5 => some [4] | 6 => some [0, 7, 8, 9] | 7 => some [4] | _ => none), (fun _ => none), (fun _ => none), [], false, (fun _ => none)⟩
@[go_sem] theorem h27x : h27.mix = (fun _ => none) := rfl
@[go_sem] theorem h27l : h27.live = (fun id => match id with | 0 => some [0, 1] | 1 => some [0, 7, 8, 9] | 2 => some [0, 7, 8, 9, 10] | 3 => some [0, 5, 6, 7, 8, 9] | 4 => some [0, 7, 8, 9, 18] | 5 => some [4] | 6 => some [0, 7, 8, 9] | 7 => some [4] | _ => none) := rfl
@[go_sem] theorem h27k : h27.keep = (fun _ => none) := rfl
@[go_sem] theorem h27t : h27.tail = (fun _ => none) := rfl
@[go_sem] theorem h27v : h27.vars = [] := rfl
@[go_sem] theorem h27m : h27.mutc = false := rfl
def h28 : Hint := ⟨(fun id => match id with | 0 => some [0] | 1 => some [2] | _ => none), (fun _ => none), (fun _ => none), [], false, (fun _ => none)⟩
@[go_sem] theorem h28x : h28.mix = (fun _ => none) := rfl
@[go_sem] theorem h28l : h28.live = (fun id => match id with | 0 => some [0] | 1 => some [2] | _ => none) := rfl
@[go_sem] theorem h28k : h28.keep = (fun _ => none) := rfl
@[go_sem] theorem h28t : h28.tail = (fun _ => none) := rfl
@[go_sem] theorem h28v : h28.vars = [] := rfl
@[go_sem] theorem h28m : h28.mutc = false := rfl
def h29 : Hint := ⟨(fun id => match id with | 0 => some [0, 4] | 1 => some [0] | _ => none), (fun _ => none), (fun _ => none), [], false, (fun _ => none)⟩
@[go_sem] theorem h29x : h29.mix = (fun _ => none) := rfl
@[go_sem] theorem h29l : h29.live = (fun id => match id with | 0 => some [0, 4] | 1 => some [0] | _ => none) := rfl
@[go_sem] theorem h29k : h29.keep = (fun _ => none) := rfl
@[go_sem] theorem h29t : h29.tail = (fun _ => none) := rfl
@[go_sem] theorem h29v : h29.vars = [] := rfl
@[go_sem] theorem h29m : h29.mutc = false := rfl
def h30 : Hint := ⟨(fun id => match id with | 0 => some [0, 2] | 1 => some [0, 2, 3] | 2 => some [0, 2, 3, 4] | 3 => some [0, 2, 3, 4, 5] | 4 => some [0, 2, 3, 4] | 5 => some [0, 2, 3, 4, 5, 21] | 6 => some [2] | 7 => some [0, 2, 3, 4, 5, 25] | 8 => some [2] | 9 => some [0, 2, 3, 4, 5, 32] | 10 => some [2, 4] | 11 => some [2] | 12 => some [0, 2, 3, 4, 5, 49] | 13 => some [0, 2, 3, 4] | 14 => some [0, 2, 3, 4, 83] | 15 => some [0, 2, 3, 4] | 16 => some [0, 2, 3, 4] | _ => none), (fun _ => none), (fun id => match id with | 13 => some 17 | _ => none), [4], false, (fun _ => none)⟩
@[go_sem] theorem h30x : h30.mix = (fun _ => none) := rfl
@[go_sem] theorem h30l : h30.live = (fun id => match id with | 0 => some [0, 2] | 1 => some [0, 2, 3] | 2 => some [0, 2, 3, 4] | 3 => some [0, 2, 3, 4, 5] | 4 => some [0, 2, 3, 4] | 5 => some [0, 2, 3, 4, 5, 21] | 6 => some [2] | 7 => some [0, 2, 3, 4, 5, 25] | 8 => some [2] | 9 => some [0, 2, 3, 4, 5, 32] | 10 => some [2, 4] | 11 => some [2] | 12 => some [0, 2, 3, 4, 5, 49] | 13 => some [0, 2, 3, 4] | 14 => some [0, 2, 3, 4, 83] | 15 => some [0, 2, 3, 4] | 16 => some [0, 2, 3, 4] | _ => none) := rfl
@[go_sem] theorem h30k : h30.keep = (fun _ => none) := rfl
@[go_sem] theorem h30t : h30.tail = (fun id => match id with | 13 => some 17 | _ => none) := rfl
@[go_sem] theorem h30v : h30.vars = [4] := rfl
@[go_sem] theorem h30m : h30.mutc = false := rfl
def h31 : Hint := ⟨(fun id => match id with | 0 => some [0] | 1 => some [3] | 2 => some [3, 4] | 3 => some [2] | 4 => some [3, 6] | 5 => some [2] | 6 => some [3, 8] | 7 => some [2] | 8 => some [3, 10] | 9 => some [2] | 10 => some [3, 12] | 11 => some [2] | 12 => some [3, 14] | 13 => some [2] | 14 => some [3, 16] | 15 => some [2] | 16 => some [3, 18] | 17 => some [2] | 18 => some [20] | 19 => some [2] | 20 => some [2] | _ => none), (fun _ => none), (fun _ => none), [], false, (fun _ => none)⟩
@[go_sem] theorem h31x : h31.mix = (fun _ => none) := rfl
@[go_sem] theorem h31l : h31.live = (fun id => match id with | 0 => some [0] | 1 => some [3] | 2 => some [3, 4] | 3 => some [2] | 4 => some [3, 6] | 5 => some [2] | 6 => some [3, 8] | 7 => some [2] | 8 => some [3, 10] | 9 => some [2] | 10 => some [3, 12] | 11 => some [2] | 12 => some [3, 14] | 13 => some [2] | 14 => some [3, 16] | 15 => some [2] | 16 => some [3, 18] | 17 => some [2] | 18 => some [20] | 19 => some [2] | 20 => some [2] | _ => none) := rfl
@[go_sem] theorem h31k : h31.keep = (fun _ => none) := rfl
@[go_sem] theorem h31t : h31.tail = (fun _ => none) := rfl
@[go_sem] theorem h31v : h31.vars = [] := rfl
@[go_sem] theorem h31m : h31.mutc = false := rfl
def h32 : Hint := ⟨(fun id => match id with | 0 => some [0] | 1 => some [2] | _ => none), (fun _ => none), (fun _ => none), [], false, (fun _ => none)⟩
@[go_sem] theorem h32x : h32.mix = (fun _ => none) := rfl
@[go_sem] theorem h32l : h32.live = (fun id => match id with | 0 => some [0] | 1 => some [2] | _ => none) := rfl
@[go_sem] theorem h32k : h32.keep = (fun _ => none) := rfl
@[go_sem] theorem h32t : h32.tail = (fun _ => none) := rfl
@[go_sem] theorem h32v : h32.vars = [] := rfl
@[go_sem] theorem h32m : h32.mutc = false := rfl
def h33 : Hint := ⟨(fun id => match id with | 0 => some [0, 1] | 1 => some [0, 1, 5] | 2 => some [0, 1, 14] | 3 => some [0, 1, 14] | 4 => some [4] | _ => none), (fun _ => none), (fun _ => none), [], false, (fun _ => none)⟩
@[go_sem] theorem h33x : h33.mix = (fun _ => none) := rfl
@[go_sem] theorem h33l : h33.live = (fun id => match id with | 0 => some [0, 1] | 1 => some [0, 1, 5] | 2 => some [0, 1, 14] | 3 => some [0, 1, 14] | 4 => some [4] | _ => none) := rfl
@[go_sem] theorem h33k : h33.keep = (fun _ => none) := rfl
@[go_sem] theorem h33t : h33.tail = (fun _ => none) := rfl
@[go_sem] theorem h33v : h33.vars = [] := rfl
@[go_sem] theorem h33m : h33.mutc = false := rfl
def h34 : Hint := ⟨(fun id => match id with | 0 => some [1, 2] | 1 => some [1, 2, 3] | 2 => some [1, 2, 3, 4] | 3 => some [1, 2, 3, 23] | 4 => some [1, 2, 3, 23] | 5 => some [1, 2, 3, 5] | 6 => some [1, 2, 3, 5] | 7 => some [1, 2, 3, 5, 47] | 8 => some [1, 2, 3, 5] | 9 => some [1, 2, 3, 5, 47] | 10 => some [1, 2, 3, 5, 6] | 11 => some [1, 2, 3, 5, 68] | 12 => some [1, 2, 3, 5, 7] | 13 => some [1, 2, 3, 5, 6, 7] | 14 => some [1, 2, 3, 5, 7, 78] | 15 => some [1, 2, 3, 5, 7, 78] | 16 => some [1, 2, 3, 5, 7, 84] | 17 => some [1, 2, 3, 5] | 18 => some [1, 2, 3, 5, 68] | 19 => some [1, 2, 3, 8] | 20 => some [1, 2, 8] | 21 => some [2, 8] | 22 => some [1, 2, 8, 118] | 23 => some [2, 8] | 24 => some [1, 2, 8, 129] | 25 => some [2, 8] | 26 => some [2, 8] | 27 => some [2] | _ => none), (fun _ => none), (fun id => match id with | 20 => some 19 | _ => none), [], false, (fun id => match id with | 20 => some ⟨[0, 1, 2, 3, 4, 5, 6, 7, 8, 9, 10, 11, 12, 13, 14, 15, 16, 17, 18, 20], [], .head 0 (.head 1 (.head 2 (.head 3 (.head 4 (.head 5 (.head 6 (.head 7 (.head 8 (.head 9 (.head 10 (.head 11 (.head 12 (.head 13 (.head 14 (.head 15 (.head 18 (.alt (.one 16 (.alt (.one 17 (.one 19 (.head 20 (.one 21 (.fin))))) (.one 19 (.head 20 (.alt (.one 17 (.one 21 (.fin))) (.one 21 (.head 17 (.fin)))))))) (.alt (.one 17 (.alt (.one 16 (.one 19 (.head 20 (.one 21 (.fin))))) (.one 19 (.head 16 (.head 20 (.one 21 (.fin))))))) (.one 19 (.head 16 (.head 20 (.alt (.one 17 (.one 21 (.fin))) (.one 21 (.head 17 (.fin)))))))))))))))))))))))))⟩ | _ => none)⟩
@[go_sem] theorem h34x : h34.mix = (fun id => match id with | 20 => some ⟨[0, 1, 2, 3, 4, 5, 6, 7, 8, 9, 10, 11, 12, 13, 14, 15, 16, 17, 18, 20], [], .head 0 (.head 1 (.head 2 (.head 3 (.head 4 (.head 5 (.head 6 (.head 7 (.head 8 (.head 9 (.head 10 (.head 11 (.head 12 (.head 13 (.head 14 (.head 15 (.head 18 (.alt (.one 16 (.alt (.one 17 (.one 19 (.head 20 (.one 21 (.fin))))) (.one 19 (.head 20 (.alt (.one 17 (.one 21 (.fin))) (.one 21 (.head 17 (.fin)))))))) (.alt (.one 17 (.alt (.one 16 (.one 19 (.head 20 (.one 21 (.fin))))) (.one 19 (.head 16 (.head 20 (.one 21 (.fin))))))) (.one 19 (.head 16 (.head 20 (.alt (.one 17 (.one 21 (.fin))) (.one 21 (.head 17 (.fin)))))))))))))))))))))))))⟩ | _ => none) := rfl
@[go_sem] theorem h34l : h34.live = (fun id => match id with | 0 => some [1, 2] | 1 => some [1, 2, 3] | 2 => some [1, 2, 3, 4] | 3 => some [1, 2, 3, 23] | 4 => some [1, 2, 3, 23] | 5 => some [1, 2, 3, 5] | 6 => some [1, 2, 3, 5] | 7 => some [1, 2, 3, 5, 47] | 8 => some [1, 2, 3, 5] | 9 => some [1, 2, 3, 5, 47] | 10 => some [1, 2, 3, 5, 6] | 11 => some [1, 2, 3, 5, 68] | 12 => some [1, 2, 3, 5, 7] | 13 => some [1, 2, 3, 5, 6, 7] | 14 => some [1, 2, 3, 5, 7, 78] | 15 => some [1, 2, 3, 5, 7, 78] | 16 => some [1, 2, 3, 5, 7, 84] | 17 => some [1, 2, 3, 5] | 18 => some [1, 2, 3, 5, 68] | 19 => some [1, 2, 3, 8] | 20 => some [1, 2, 8] | 21 => some [2, 8] | 22 => some [1, 2, 8, 118] | 23 => some [2, 8] | 24 => some [1, 2, 8, 129] | 25 => some [2, 8] | 26 => some [2, 8] | 27 => some [2] | _ => none) := rfl
@[go_sem] theorem h34k : h34.keep = (fun _ => none) := rfl
@[go_sem] theorem h34t : h34.tail = (fun id => match id with | 20 => some 19 | _ => none) := rfl
@[go_sem] theorem h34v : h34.vars = [] := rfl
@[go_sem] theorem h34m : h34.mutc = false := rfl
def h35 : Hint := ⟨(fun id => match id with | 0 => some [0] | 1 => some [2] | _ => none), (fun _ => none), (fun _ => none), [], false, (fun _ => none)⟩
@[go_sem] theorem h35x : h35.mix = (fun _ => none) := rfl
@[go_sem] theorem h35l : h35.live = (fun id => match id with | 0 => some [0] | 1 => some [2] | _ => none) := rfl
@[go_sem] theorem h35k : h35.keep = (fun _ => none) := rfl
@[go_sem] theorem h35t : h35.tail = (fun _ => none) := rfl
@[go_sem] theorem h35v : h35.vars = [] := rfl
@[go_sem] theorem h35m : h35.mutc = false := rfl
def h36 : Hint := ⟨(fun id => match id with | 0 => some [0, 1] | 1 => some [4] | _ => none), (fun _ => none), (fun _ => none), [], false, (fun _ => none)⟩
@[go_sem] theorem h36x : h36.mix = (fun _ => none) := rfl
@[go_sem] theorem h36l : h36.live = (fun id => match id with | 0 => some [0, 1] | 1 => some [4] | _ => none) := rfl
@[go_sem] theorem h36k : h36.keep = (fun _ => none) := rfl
@[go_sem] theorem h36t : h36.tail = (fun _ => none) := rfl
@[go_sem] theorem h36v : h36.vars = [] := rfl
@[go_sem] theorem h36m : h36.mutc = false := rfl
def h37 : Hint := ⟨(fun id => match id with | 0 => some [0, 1] | 1 => some [0, 1, 5] | 2 => some [0, 1, 5, 10] | 3 => some [4] | 4 => some [4] | _ => none), (fun _ => none), (fun _ => none), [], false, (fun _ => none)⟩
@[go_sem] theorem h37x : h37.mix = (fun _ => none) := rfl
@[go_sem] theorem h37l : h37.live = (fun id => match id with | 0 => some [0, 1] | 1 => some [0, 1, 5] | 2 => some [0, 1, 5, 10] | 3 => some [4] | 4 => some [4] | _ => none) := rfl
@[go_sem] theorem h37k : h37.keep = (fun _ => none) := rfl
@[go_sem] theorem h37t : h37.tail = (fun _ => none) := rfl
@[go_sem] theorem h37v : h37.vars = [] := rfl
@[go_sem] theorem h37m : h37.mutc = false := rfl
def h38 : Hint := ⟨(fun id => match id with | 0 => some [0] | 1 => some [0, 3] | 2 => some [2] | 3 => some [0, 3, 7] | 4 => some [0, 3] | 5 => some [0, 3, 16] | 6 => some [0, 3] | 7 => some [0, 3] | _ => none), (fun _ => none), (fun _ => none), [3], false, (fun _ => none)⟩
@[go_sem] theorem h38x : h38.mix = (fun _ => none) := rfl
@[go_sem] theorem h38l : h38.live = (fun id => match id with | 0 => some [0] | 1 => some [0, 3] | 2 => some [2] | 3 => some [0, 3, 7] | 4 => some [0, 3] | 5 => some [0, 3, 16] | 6 => some [0, 3] | 7 => some [0, 3] | _ => none) := rfl
@[go_sem] theorem h38k : h38.keep = (fun _ => none) := rfl
@[go_sem] theorem h38t : h38.tail = (fun _ => none) := rfl
@[go_sem] theorem h38v : h38.vars = [3] := rfl
@[go_sem] theorem h38m : h38.mutc = false := rfl
def h39 : Hint := ⟨(fun id => match id with | 0 => some [0, 2] | 1 => some [0, 2, 3] | 2 => some [0, 2, 3, 15] | 3 => some [2] | 4 => some [0, 2, 3] | 5 => some [0, 2, 3, 29] | 6 => some [2] | 7 => some [0, 2, 3, 43] | 8 => some [0, 2, 3, 29] | 9 => some [0, 2, 3, 4] | 10 => some [0, 2, 3, 4, 57] | 11 => some [0, 2, 3, 4, 57] | 12 => some [0, 2, 3, 5] | 13 => some [0, 2, 3, 68] | 14 => some [2] | 15 => some [2] | _ => none), (fun _ => none), (fun _ => none), [], false, (fun _ => none)⟩
@[go_sem] theorem h39x : h39.mix = (fun _ => none) := rfl
@[go_sem] theorem h39l : h39.live = (fun id => match id with | 0 => some [0, 2] | 1 => some [0, 2, 3] | 2 => some [0, 2, 3, 15] | 3 => some [2] | 4 => some [0, 2, 3] | 5 => some [0, 2, 3, 29] | 6 => some [2] | 7 => some [0, 2, 3, 43] | 8 => some [0, 2, 3, 29] | 9 => some [0, 2, 3, 4] | 10 => some [0, 2, 3, 4, 57] | 11 => some [0, 2, 3, 4, 57] | 12 => some [0, 2, 3, 5] | 13 => some [0, 2, 3, 68] | 14 => some [2] | 15 => some [2] | _ => none) := rfl
@[go_sem] theorem h39k : h39.keep = (fun _ => none) := rfl
@[go_sem] theorem h39t : h39.tail = (fun _ => none) := rfl
@[go_sem] theorem h39v : h39.vars = [] := rfl
@[go_sem] theorem h39m : h39.mutc = false := rfl
def h40 : Hint := ⟨(fun id => match id with | 0 => some [0] | 1 => some [0, 3] | 2 => some [3, 6, 7, 8] | 3 => some [3, 6, 7, 8, 9] | 4 => some [3, 5, 6, 7, 8] | 5 => some [3, 5, 6, 7, 8, 25] | 6 => some [3, 5, 6, 7, 8, 25] | 7 => some [3, 6, 7, 8] | 8 => some [3, 5, 6, 7, 8, 47] | 9 => some [3, 6, 7, 8] | 10 => some [3, 5, 6, 7, 8, 55] | 11 => some [3, 6, 7, 8] | 12 => some [3, 5, 6, 7, 8, 69] | 13 => some [3, 6, 7, 8] | 14 => some [3, 6, 7, 8] | 15 => some [2] | _ => none), (fun _ => none), (fun _ => none), [3], false, (fun _ => none)⟩
@[go_sem] theorem h40x : h40.mix = (fun _ => none) := rfl
@[go_sem] theorem h40l : h40.live = (fun id => match id with | 0 => some [0] | 1 => some [0, 3] | 2 => some [3, 6, 7, 8] | 3 => some [3, 6, 7, 8, 9] | 4 => some [3, 5, 6, 7, 8] | 5 => some [3, 5, 6, 7, 8, 25] | 6 => some [3, 5, 6, 7, 8, 25] | 7 => some [3, 6, 7, 8] | 8 => some [3, 5, 6, 7, 8, 47] | 9 => some [3, 6, 7, 8] | 10 => some [3, 5, 6, 7, 8, 55] | 11 => some [3, 6, 7, 8] | 12 => some [3, 5, 6, 7, 8, 69] | 13 => some [3, 6, 7, 8] | 14 => some [3, 6, 7, 8] | 15 => some [2] | _ => none) := rfl
@[go_sem] theorem h40k : h40.keep = (fun _ => none) := rfl
@[go_sem] theorem h40t : h40.tail = (fun _ => none) := rfl
@[go_sem] theorem h40v : h40.vars = [3] := rfl
@[go_sem] theorem h40m : h40.mutc = false := rfl
def h41 : Hint := ⟨(fun id => match id with | 0 => some [0] | 1 => some [0, 3] | 2 => some [3] | 3 => some [2] | _ => none), (fun _ => none), (fun _ => none), [], false, (fun _ => none)⟩
@[go_sem] theorem h41x : h41.mix = (fun _ => none) := rfl
@[go_sem] theorem h41l : h41.live = (fun id => match id with | 0 => some [0] | 1 => some [0, 3] | 2 => some [3] | 3 => some [2] | _ => none) := rfl
@[go_sem] theorem h41k : h41.keep = (fun _ => none) := rfl
@[go_sem] theorem h41t : h41.tail = (fun _ => none) := rfl
@[go_sem] theorem h41v : h41.vars = [] := rfl
@[go_sem] theorem h41m : h41.mutc = false := rfl
def h42 : Hint := ⟨(fun id => match id with | 0 => some [0] | 1 => some [0, 3] | 2 => some [0, 3, 8] | 3 => some [0, 3, 4, 5] | 4 => some [0, 3, 5] | 5 => some [0, 3] | 6 => some [2] | _ => none), (fun _ => none), (fun _ => none), [3], false, (fun _ => none)⟩
@[go_sem] theorem h42x : h42.mix = (fun _ => none) := rfl
@[go_sem] theorem h42l : h42.live = (fun id => match id with | 0 => some [0] | 1 => some [0, 3] | 2 => some [0, 3, 8] | 3 => some [0, 3, 4, 5] | 4 => some [0, 3, 5] | 5 => some [0, 3] | 6 => some [2] | _ => none) := rfl
@[go_sem] theorem h42k : h42.keep = (fun _ => none) := rfl
@[go_sem] theorem h42t : h42.tail = (fun _ => none) := rfl
@[go_sem] theorem h42v : h42.vars = [3] := rfl
@[go_sem] theorem h42m : h42.mutc = false := rfl
def h52 : Hint := ⟨(fun id => match id with | 0 => some [0] | 1 => some [0, 8] | 2 => some [0, 11] | 3 => some [2] | 4 => some [2] | 5 => some [0, 3] | 6 => some [0, 3, 4] | 7 => some [0, 3, 4, 21] | 8 => some [0, 3, 4] | 9 => some [0, 3, 4] | 10 => some [0, 3, 32] | 11 => some [0, 3, 32] | 12 => some [3, 48] | 13 => some [2] | 14 => some [2] | _ => none), (fun _ => none), (fun _ => none), [], false, (fun _ => none)⟩
@[go_sem] theorem h52x : h52.mix = (fun _ => none) := rfl
@[go_sem] theorem h52l : h52.live = (fun id => match id with | 0 => some [0] | 1 => some [0, 8] | 2 => some [0, 11] | 3 => some [2] | 4 => some [2] | 5 => some [0, 3] | 6 => some [0, 3, 4] | 7 => some [0, 3, 4, 21] | 8 => some [0, 3, 4] | 9 => some [0, 3, 4] | 10 => some [0, 3, 32] | 11 => some [0, 3, 32] | 12 => some [3, 48] | 13 => some [2] | 14 => some [2] | _ => none) := rfl
@[go_sem] theorem h52k : h52.keep = (fun _ => none) := rfl
@[go_sem] theorem h52t : h52.tail = (fun _ => none) := rfl
@[go_sem] theorem h52v : h52.vars = [] := rfl
@[go_sem] theorem h52m : h52.mutc = false := rfl
def h53 : Hint := ⟨(fun id => match id with | 0 => some [0, 5] | 1 => some [0] | _ => none), (fun _ => none), (fun _ => none), [], false, (fun _ => none)⟩
@[go_sem] theorem h53x : h53.mix = (fun _ => none) := rfl
@[go_sem] theorem h53l : h53.live = (fun id => match id with | 0 => some [0, 5] | 1 => some [0] | _ => none) := rfl
@[go_sem] theorem h53k : h53.keep = (fun _ => none) := rfl
@[go_sem] theorem h53t : h53.tail = (fun _ => none) := rfl
@[go_sem] theorem h53v : h53.vars = [] := rfl
@[go_sem] theorem h53m : h53.mutc = false := rfl
def h54 : Hint := ⟨(fun id => match id with | 0 => some [0, 2] | 1 => some [2, 5, 6] | 2 => some [2, 5, 18] | 3 => some [2, 3, 4] | 4 => some [2, 5, 7] | 5 => some [2, 5, 7, 24] | 6 => some [2, 3, 4] | 7 => some [2, 5, 7, 8] | 8 => some [2, 5, 7, 8, 32] | 9 => some [2, 3, 4] | 10 => some [2, 5, 7, 8, 9] | 11 => some [2, 5, 7, 8, 9, 37, 38, 39] | 12 => some [2, 5, 7, 8, 9, 37, 38, 39, 40] | 13 => some [2, 5, 7, 8, 9, 11, 37, 38, 39] | 14 => some [2, 5, 7, 8, 9, 37, 38, 39] | 15 => some [2, 5, 7, 8, 9, 37, 38, 39] | 16 => some [2, 3, 4] | _ => none), (fun _ => none), (fun id => match id with | 6 => some 3 | 9 => some 3 | 16 => some 17 | _ => none), [], false, (fun id => match id with | 6 => some ⟨[0, 1, 2], [], .head 0 (.alt (.one 1 (.alt (.one 2 (.one 3 (.one 4 (.one 5 (.fin))))) (.one 3 (.head 2 (.one 4 (.one 5 (.fin))))))) (.one 3 (.head 1 (.head 2 (.one 4 (.one 5 (.fin)))))))⟩ | 9 => some ⟨[0, 1, 2], [], .head 0 (.alt (.one 1 (.alt (.one 2 (.one 3 (.one 4 (.one 5 (.fin))))) (.one 3 (.head 2 (.one 4 (.one 5 (.fin))))))) (.one 3 (.head 1 (.head 2 (.one 4 (.one 5 (.fin)))))))⟩ | 16 => some ⟨[0, 1, 2, 3, 4, 5, 6, 7, 8, 9, 10, 11, 12, 13, 14, 15, 16], [], .head 0 (.head 1 (.head 2 (.head 3 (.head 4 (.head 5 (.head 6 (.head 7 (.head 8 (.head 9 (.head 10 (.head 11 (.head 12 (.head 13 (.head 14 (.alt (.one 15 (.alt (.one 16 (.one 17 (.one 18 (.one 19 (.fin))))) (.one 17 (.head 16 (.one 18 (.one 19 (.fin))))))) (.one 17 (.head 15 (.head 16 (.one 18 (.one 19 (.fin)))))))))))))))))))))⟩ | _ => none)⟩
@[go_sem] theorem h54x : h54.mix = (fun id => match id with | 6 => some ⟨[0, 1, 2], [], .head 0 (.alt (.one 1 (.alt (.one 2 (.one 3 (.one 4 (.one 5 (.fin))))) (.one 3 (.head 2 (.one 4 (.one 5 (.fin))))))) (.one 3 (.head 1 (.head 2 (.one 4 (.one 5 (.fin)))))))⟩ | 9 => some ⟨[0, 1, 2], [], .head 0 (.alt (.one 1 (.alt (.one 2 (.one 3 (.one 4 (.one 5 (.fin))))) (.one 3 (.head 2 (.one 4 (.one 5 (.fin))))))) (.one 3 (.head 1 (.head 2 (.one 4 (.one 5 (.fin)))))))⟩ | 16 => some ⟨[0, 1, 2, 3, 4, 5, 6, 7, 8, 9, 10, 11, 12, 13, 14, 15, 16], [], .head 0 (.head 1 (.head 2 (.head 3 (.head 4 (.head 5 (.head 6 (.head 7 (.head 8 (.head 9 (.head 10 (.head 11 (.head 12 (.head 13 (.head 14 (.alt (.one 15 (.alt (.one 16 (.one 17 (.one 18 (.one 19 (.fin))))) (.one 17 (.head 16 (.one 18 (.one 19 (.fin))))))) (.one 17 (.head 15 (.head 16 (.one 18 (.one 19 (.fin)))))))))))))))))))))⟩ | _ => none) := rfl
@[go_sem] theorem h54l : h54.live = (fun id => match id with | 0 => some [0, 2] | 1 => some [2, 5, 6] | 2 => some [2, 5, 18] | 3 => some [2, 3, 4] | 4 => some [2, 5, 7] | 5 => some [2, 5, 7, 24] | 6 => some [2, 3, 4] | 7 => some [2, 5, 7, 8] | 8 => some [2, 5, 7, 8, 32] | 9 => some [2, 3, 4] | 10 => some [2, 5, 7, 8, 9] | 11 => some [2, 5, 7, 8, 9, 37, 38, 39] | 12 => some [2, 5, 7, 8, 9, 37, 38, 39, 40] | 13 => some [2, 5, 7, 8, 9, 11, 37, 38, 39] | 14 => some [2, 5, 7, 8, 9, 37, 38, 39] | 15 => some [2, 5, 7, 8, 9, 37, 38, 39] | 16 => some [2, 3, 4] | _ => none) := rfl
@[go_sem] theorem h54k : h54.keep = (fun _ => none) := rfl
@[go_sem] theorem h54t : h54.tail = (fun id => match id with | 6 => some 3 | 9 => some 3 | 16 => some 17 | _ => none) := rfl
@[go_sem] theorem h54v : h54.vars = [] := rfl
@[go_sem] theorem h54m : h54.mutc = false := rfl
def h55 : Hint := ⟨(fun id => match id with | 0 => some [0] | 1 => some [2] | _ => none), (fun _ => none), (fun _ => none), [], false, (fun _ => none)⟩
@[go_sem] theorem h55x : h55.mix = (fun _ => none) := rfl
@[go_sem] theorem h55l : h55.live = (fun id => match id with | 0 => some [0] | 1 => some [2] | _ => none) := rfl
@[go_sem] theorem h55k : h55.keep = (fun _ => none) := rfl
@[go_sem] theorem h55t : h55.tail = (fun _ => none) := rfl
@[go_sem] theorem h55v : h55.vars = [] := rfl
@[go_sem] theorem h55m : h55.mutc = false := rfl
def h56 : Hint := ⟨(fun id => match id with | 0 => some [0, 1] | 1 => some [4] | _ => none), (fun _ => none), (fun _ => none), [], false, (fun _ => none)⟩
@[go_sem] theorem h56x : h56.mix = (fun _ => none) := rfl
@[go_sem] theorem h56l : h56.live = (fun id => match id with | 0 => some [0, 1] | 1 => some [4] | _ => none) := rfl
@[go_sem] theorem h56k : h56.keep = (fun _ => none) := rfl
@[go_sem] theorem h56t : h56.tail = (fun _ => none) := rfl
@[go_sem] theorem h56v : h56.vars = [] := rfl
@[go_sem] theorem h56m : h56.mutc = false := rfl
def h57 : Hint := ⟨(fun id => match id with | 0 => some [1, 2] | 1 => some [1, 2, 3] | 2 => some [1, 2, 3, 4] | 3 => some [1, 2, 3, 4] | 4 => some [1, 2, 3, 4, 5] | 5 => some [1, 2, 3, 4] | 6 => some [1, 2, 3, 4, 5, 22] | 7 => some [2] | 8 => some [1, 2, 3, 4, 5, 31] | 9 => some [1, 2, 4] | 10 => some [1, 2, 4, 5] | 11 => some [1, 2, 4, 47] | 12 => some [2] | 13 => some [2] | 14 => some [1, 2, 3, 4, 5, 52] | 15 => some [2] | 16 => some [1, 2, 3, 4, 69] | 17 => some [1, 2, 3, 4, 76] | 18 => some [2] | 19 => some [1, 2, 3, 4] | 20 => some [1, 2, 3, 4] | _ => none), (fun _ => none), (fun id => match id with | 5 => some 5 | 20 => some 5 | _ => none), [], false, (fun id => match id with | 5 => some ⟨[1, 2, 3], [0], .alt (.one 0 (.head 1 (.head 2 (.head 3 (.one 4 (.one 5 (.one 6 (.one 7 (.fin))))))))) (.one 1 (.alt (.one 0 (.head 2 (.head 3 (.one 4 (.one 5 (.one 6 (.one 7 (.fin)))))))) (.one 2 (.alt (.one 0 (.head 3 (.one 4 (.one 5 (.one 6 (.one 7 (.fin))))))) (.one 3 (.alt (.one 0 (.one 4 (.one 5 (.one 6 (.one 7 (.fin)))))) (.one 4 (.alt (.one 0 (.one 5 (.one 6 (.one 7 (.fin))))) (.one 5 (.one 0 (.one 6 (.one 7 (.fin)))))))))))))⟩ | 20 => some ⟨[1, 2, 3], [0], .alt (.one 0 (.head 1 (.head 2 (.head 3 (.one 4 (.one 5 (.one 6 (.one 7 (.fin))))))))) (.one 1 (.alt (.one 0 (.head 2 (.head 3 (.one 4 (.one 5 (.one 6 (.one 7 (.fin)))))))) (.one 2 (.alt (.one 0 (.head 3 (.one 4 (.one 5 (.one 6 (.one 7 (.fin))))))) (.one 3 (.alt (.one 0 (.one 4 (.one 5 (.one 6 (.one 7 (.fin)))))) (.one 4 (.alt (.one 0 (.one 5 (.one 6 (.one 7 (.fin))))) (.one 5 (.one 0 (.one 6 (.one 7 (.fin)))))))))))))⟩ | _ => none)⟩
@[go_sem] theorem h57x : h57.mix = (fun id => match id with | 5 => some ⟨[1, 2, 3], [0], .alt (.one 0 (.head 1 (.head 2 (.head 3 (.one 4 (.one 5 (.one 6 (.one 7 (.fin))))))))) (.one 1 (.alt (.one 0 (.head 2 (.head 3 (.one 4 (.one 5 (.one 6 (.one 7 (.fin)))))))) (.one 2 (.alt (.one 0 (.head 3 (.one 4 (.one 5 (.one 6 (.one 7 (.fin))))))) (.one 3 (.alt (.one 0 (.one 4 (.one 5 (.one 6 (.one 7 (.fin)))))) (.one 4 (.alt (.one 0 (.one 5 (.one 6 (.one 7 (.fin))))) (.one 5 (.one 0 (.one 6 (.one 7 (.fin)))))))))))))⟩ | 20 => some ⟨[1, 2, 3], [0], .alt (.one 0 (.head 1 (.head 2 (.head 3 (.one 4 (.one 5 (.one 6 (.one 7 (.fin))))))))) (.one 1 (.alt (.one 0 (.head 2 (.head 3 (.one 4 (.one 5 (.one 6 (.one 7 (.fin)))))))) (.one 2 (.alt (.one 0 (.head 3 (.one 4 (.one 5 (.one 6 (.one 7 (.fin))))))) (.one 3 (.alt (.one 0 (.one 4 (.one 5 (.one 6 (.one 7 (.fin)))))) (.one 4 (.alt (.one 0 (.one 5 (.one 6 (.one 7 (.fin))))) (.one 5 (.one 0 (.one 6 (.one 7 (.fin)))))))))))))⟩ | _ => none) := rfl
@[go_sem] theorem h57l : h57.live = (fun id => match id with | 0 => some [1, 2] | 1 => some [1, 2, 3] | 2 => some [1, 2, 3, 4] | 3 => some [1, 2, 3, 4] | 4 => some [1, 2, 3, 4, 5] | 5 => some [1, 2, 3, 4] | 6 => some [1, 2, 3, 4, 5, 22] | 7 => some [2] | 8 => some [1, 2, 3, 4, 5, 31] | 9 => some [1, 2, 4] | 10 => some [1, 2, 4, 5] | 11 => some [1, 2, 4, 47] | 12 => some [2] | 13 => some [2] | 14 => some [1, 2, 3, 4, 5, 52] | 15 => some [2] | 16 => some [1, 2, 3, 4, 69] | 17 => some [1, 2, 3, 4, 76] | 18 => some [2] | 19 => some [1, 2, 3, 4] | 20 => some [1, 2, 3, 4] | _ => none) := rfl
@[go_sem] theorem h57k : h57.keep = (fun _ => none) := rfl
@[go_sem] theorem h57t : h57.tail = (fun id => match id with | 5 => some 5 | 20 => some 5 | _ => none) := rfl
@[go_sem] theorem h57v : h57.vars = [] := rfl
@[go_sem] theorem h57m : h57.mutc = false := rfl
def h58 : Hint := ⟨(fun id => match id with | 0 => some [0] | 1 => some [0, 4] | 2 => some [0, 4, 5, 6] | 3 => some [0, 4, 5, 6] | 4 => some [2, 3] | 5 => some [0, 4, 5, 6, 13] | 6 => some [2, 3] | 7 => some [0, 4, 5, 6, 18] | 8 => some [0, 5, 6, 7, 8] | 9 => some [0, 4, 5, 6, 28] | 10 => some [0, 4, 5, 6, 7, 8] | 11 => some [0, 5, 6, 7, 8, 38] | 12 => some [0, 5, 6, 7, 8, 38, 39] | 13 => some [0, 5, 6, 7, 8, 38, 39] | 14 => some [0, 5, 6, 7, 8, 41] | 15 => some [0, 5, 6, 7, 8, 38, 39] | 16 => some [0, 4, 5, 6, 43] | 17 => some [0, 4, 5, 6, 7, 8] | 18 => some [0, 5, 6, 7, 8, 53] | 19 => some [0, 5, 6, 7, 8, 53, 54] | 20 => some [0, 5, 6, 7, 8, 53, 54] | 21 => some [0, 5, 6, 7, 8, 56] | 22 => some [0, 5, 6, 7, 8, 53, 54] | 23 => some [0, 5, 6, 7, 8, 58, 59] | 24 => some [0, 5, 6, 7, 8, 58, 59, 60] | 25 => some [0, 5, 6, 7, 8, 9, 58, 59] | 26 => some [0, 7, 8, 9, 58, 59, 84] | 27 => some [2, 3] | 28 => some [0, 7, 8, 58, 59] | 29 => some [0, 5, 6, 7, 8, 58, 59] | 30 => some [0, 5, 6, 7, 8, 58, 59] | 31 => some [2, 3] | _ => none), (fun _ => none), (fun _ => none), [], false, (fun _ => none)⟩
@[go_sem] theorem h58x : h58.mix = (fun _ => none) := rfl
@[go_sem] theorem h58l : h58.live = (fun id => match id with | 0 => some [0] | 1 => some [0, 4] | 2 => some [0, 4, 5, 6] | 3 => some [0, 4, 5, 6] | 4 => some [2, 3] | 5 => some [0, 4, 5, 6, 13] | 6 => some [2, 3] | 7 => some [0, 4, 5, 6, 18] | 8 => some [0, 5, 6, 7, 8] | 9 => some [0, 4, 5, 6, 28] | 10 => some [0, 4, 5, 6, 7, 8] | 11 => some [0, 5, 6, 7, 8, 38] | 12 => some [0, 5, 6, 7, 8, 38, 39] | 13 => some [0, 5, 6, 7, 8, 38, 39] | 14 => some [0, 5, 6, 7, 8, 41] | 15 => some [0, 5, 6, 7, 8, 38, 39] | 16 => some [0, 4, 5, 6, 43] | 17 => some [0, 4, 5, 6, 7, 8] | 18 => some [0, 5, 6, 7, 8, 53] | 19 => some [0, 5, 6, 7, 8, 53, 54] | 20 => some [0, 5, 6, 7, 8, 53, 54] | 21 => some [0, 5, 6, 7, 8, 56] | 22 => some [0, 5, 6, 7, 8, 53, 54] | 23 => some [0, 5, 6, 7, 8, 58, 59] | 24 => some [0, 5, 6, 7, 8, 58, 59, 60] | 25 => some [0, 5, 6, 7, 8, 9, 58, 59] | 26 => some [0, 7, 8, 9, 58, 59, 84] | 27 => some [2, 3] | 28 => some [0, 7, 8, 58, 59] | 29 => some [0, 5, 6, 7, 8, 58, 59] | 30 => some [0, 5, 6, 7, 8, 58, 59] | 31 => some [2, 3] | _ => none) := rfl
@[go_sem] theorem h58k : h58.keep = (fun _ => none) := rfl
@[go_sem] theorem h58t : h58.tail = (fun _ => none) := rfl
@[go_sem] theorem h58v : h58.vars = [] := rfl
@[go_sem] theorem h58m : h58.mutc = false := rfl
def h65 : Hint := ⟨(fun id => match id with | 0 => some [0, 1] | 1 => some [0, 1, 12] | 2 => some [4] | 3 => some [0, 1, 21] | 4 => some [4] | 5 => some [0, 1, 5, 6] | 6 => some [0, 1, 5, 31] | 7 => some [4] | 8 => some [4] | _ => none), (fun _ => none), (fun _ => none), [], false, (fun _ => none)⟩
@[go_sem] theorem h65x : h65.mix = (fun _ => none) := rfl
@[go_sem] theorem h65l : h65.live = (fun id => match id with | 0 => some [0, 1] | 1 => some [0, 1, 12] | 2 => some [4] | 3 => some [0, 1, 21] | 4 => some [4] | 5 => some [0, 1, 5, 6] | 6 => some [0, 1, 5, 31] | 7 => some [4] | 8 => some [4] | _ => none) := rfl
@[go_sem] theorem h65k : h65.keep = (fun _ => none) := rfl
@[go_sem] theorem h65t : h65.tail = (fun _ => none) := rfl
@[go_sem] theorem h65v : h65.vars = [] := rfl
@[go_sem] theorem h65m : h65.mutc = false := rfl
def h69 : Hint := ⟨(fun id => match id with | 0 => some [0] | 1 => some [0, 3] | 2 => some [2] | 3 => some [0, 8] | 4 => some [2] | 5 => some [0, 18] | 6 => some [2] | 7 => some [2] | _ => none), (fun _ => none), (fun _ => none), [], false, (fun _ => none)⟩
@[go_sem] theorem h69x : h69.mix = (fun _ => none) := rfl
@[go_sem] theorem h69l : h69.live = (fun id => match id with | 0 => some [0] | 1 => some [0, 3] | 2 => some [2] | 3 => some [0, 8] | 4 => some [2] | 5 => some [0, 18] | 6 => some [2] | 7 => some [2] | _ => none) := rfl
@[go_sem] theorem h69k : h69.keep = (fun _ => none) := rfl
@[go_sem] theorem h69t : h69.tail = (fun _ => none) := rfl
@[go_sem] theorem h69v : h69.vars = [] := rfl
@[go_sem] theorem h69m : h69.mutc = false := rfl
def h70 : Hint := ⟨(fun id => match id with | 0 => some [0, 2] | 1 => some [0, 2, 4] | 2 => some [0, 2, 4, 21] | 3 => some [0, 2, 4, 21] | 4 => some [0, 2, 4, 5] | 5 => some [0, 2, 4] | 6 => some [0, 2, 4, 44] | 7 => some [0, 2, 4, 6] | 8 => some [0, 2, 4, 6, 49] | 9 => some [2, 3] | 10 => some [0, 2, 4, 6] | 11 => some [0, 2, 4, 44] | 12 => some [0, 2, 4, 68] | 13 => some [2, 3] | 14 => some [0, 2, 4, 71] | 15 => some [2, 3] | 16 => some [0, 2, 4, 80] | 17 => some [2, 3] | 18 => some [0, 2, 4] | 19 => some [0, 2, 4, 7] | 20 => some [0, 2, 4, 7, 96] | 21 => some [0, 2, 4, 7, 96] | 22 => some [0, 2, 4, 7, 110] | 23 => some [2, 3] | 24 => some [2, 4, 7, 113, 114, 115] | 25 => some [2, 4, 7, 113, 114, 115, 116] | 26 => some [2, 4, 7, 9, 113, 114, 115] | 27 => some [2, 4, 7, 113, 114, 115] | 28 => some [2, 4, 7, 113, 114, 115] | 29 => some [2, 4, 129] | 30 => some [2, 4, 129] | 31 => some [2, 3] | _ => none), (fun _ => none), (fun id => match id with | 3 => some 6 | 5 => some 7 | 10 => some 9 | 21 => some 5 | _ => none), [], false, (fun id => match id with | 3 => some ⟨[0, 1, 2, 3, 4, 5], [], .head 0 (.head 1 (.head 2 (.head 5 (.alt (.one 3 (.alt (.one 4 (.one 6 (.one 7 (.fin)))) (.one 6 (.head 4 (.one 7 (.fin)))))) (.one 6 (.head 3 (.head 4 (.one 7 (.fin)))))))))⟩ | 5 => some ⟨[0, 1, 2, 3, 4, 5, 6, 9], [], .head 0 (.head 1 (.head 2 (.head 6 (.alt (.one 3 (.alt (.one 4 (.alt (.one 5 (.one 7 (.one 8 (.head 9 (.one 10 (.fin)))))) (.one 7 (.head 5 (.one 8 (.head 9 (.one 10 (.fin)))))))) (.one 7 (.head 4 (.head 5 (.one 8 (.head 9 (.one 10 (.fin))))))))) (.alt (.one 4 (.alt (.one 3 (.alt (.one 5 (.one 7 (.one 8 (.head 9 (.one 10 (.fin)))))) (.one 7 (.head 5 (.one 8 (.head 9 (.one 10 (.fin)))))))) (.one 7 (.head 3 (.head 5 (.one 8 (.head 9 (.one 10 (.fin))))))))) (.one 7 (.head 3 (.head 4 (.head 5 (.one 8 (.head 9 (.one 10 (.fin)))))))))))))⟩ | 10 => some ⟨[0, 1, 2, 3, 4, 5, 6, 7, 8, 10, 12], [], .head 0 (.head 1 (.head 2 (.head 3 (.head 4 (.head 5 (.head 6 (.head 8 (.alt (.one 7 (.one 9 (.head 10 (.one 11 (.head 12 (.one 13 (.fin))))))) (.one 9 (.head 7 (.head 10 (.one 11 (.head 12 (.one 13 (.fin)))))))))))))))⟩ | 21 => some ⟨[0, 1, 2, 3, 4], [], .head 0 (.head 1 (.head 2 (.alt (.one 3 (.alt (.one 4 (.one 5 (.one 6 (.fin)))) (.one 5 (.head 4 (.one 6 (.fin)))))) (.one 5 (.head 3 (.head 4 (.one 6 (.fin))))))))⟩ | _ => none)⟩
@[go_sem] theorem h70x : h70.mix = (fun id => match id with | 3 => some ⟨[0, 1, 2, 3, 4, 5], [], .head 0 (.head 1 (.head 2 (.head 5 (.alt (.one 3 (.alt (.one 4 (.one 6 (.one 7 (.fin)))) (.one 6 (.head 4 (.one 7 (.fin)))))) (.one 6 (.head 3 (.head 4 (.one 7 (.fin)))))))))⟩ | 5 => some ⟨[0, 1, 2, 3, 4, 5, 6, 9], [], .head 0 (.head 1 (.head 2 (.head 6 (.alt (.one 3 (.alt (.one 4 (.alt (.one 5 (.one 7 (.one 8 (.head 9 (.one 10 (.fin)))))) (.one 7 (.head 5 (.one 8 (.head 9 (.one 10 (.fin)))))))) (.one 7 (.head 4 (.head 5 (.one 8 (.head 9 (.one 10 (.fin))))))))) (.alt (.one 4 (.alt (.one 3 (.alt (.one 5 (.one 7 (.one 8 (.head 9 (.one 10 (.fin)))))) (.one 7 (.head 5 (.one 8 (.head 9 (.one 10 (.fin)))))))) (.one 7 (.head 3 (.head 5 (.one 8 (.head 9 (.one 10 (.fin))))))))) (.one 7 (.head 3 (.head 4 (.head 5 (.one 8 (.head 9 (.one 10 (.fin)))))))))))))⟩ | 10 => some ⟨[0, 1, 2, 3, 4, 5, 6, 7, 8, 10, 12], [], .head 0 (.head 1 (.head 2 (.head 3 (.head 4 (.head 5 (.head 6 (.head 8 (.alt (.one 7 (.one 9 (.head 10 (.one 11 (.head 12 (.one 13 (.fin))))))) (.one 9 (.head 7 (.head 10 (.one 11 (.head 12 (.one 13 (.fin)))))))))))))))⟩ | 21 => some ⟨[0, 1, 2, 3, 4], [], .head 0 (.head 1 (.head 2 (.alt (.one 3 (.alt (.one 4 (.one 5 (.one 6 (.fin)))) (.one 5 (.head 4 (.one 6 (.fin)))))) (.one 5 (.head 3 (.head 4 (.one 6 (.fin))))))))⟩ | _ => none) := rfl
@[go_sem] theorem h70l : h70.live = (fun id => match id with | 0 => some [0, 2] | 1 => some [0, 2, 4] | 2 => some [0, 2, 4, 21] | 3 => some [0, 2, 4, 21] | 4 => some [0, 2, 4, 5] | 5 => some [0, 2, 4] | 6 => some [0, 2, 4, 44] | 7 => some [0, 2, 4, 6] | 8 => some [0, 2, 4, 6, 49] | 9 => some [2, 3] | 10 => some [0, 2, 4, 6] | 11 => some [0, 2, 4, 44] | 12 => some [0, 2, 4, 68] | 13 => some [2, 3] | 14 => some [0, 2, 4, 71] | 15 => some [2, 3] | 16 => some [0, 2, 4, 80] | 17 => some [2, 3] | 18 => some [0, 2, 4] | 19 => some [0, 2, 4, 7] | 20 => some [0, 2, 4, 7, 96] | 21 => some [0, 2, 4, 7, 96] | 22 => some [0, 2, 4, 7, 110] | 23 => some [2, 3] | 24 => some [2, 4, 7, 113, 114, 115] | 25 => some [2, 4, 7, 113, 114, 115, 116] | 26 => some [2, 4, 7, 9, 113, 114, 115] | 27 => some [2, 4, 7, 113, 114, 115] | 28 => some [2, 4, 7, 113, 114, 115] | 29 => some [2, 4, 129] | 30 => some [2, 4, 129] | 31 => some [2, 3] | _ => none) := rfl
@[go_sem] theorem h70k : h70.keep = (fun _ => none) := rfl
@[go_sem] theorem h70t : h70.tail = (fun id => match id with | 3 => some 6 | 5 => some 7 | 10 => some 9 | 21 => some 5 | _ => none) := rfl
@[go_sem] theorem h70v : h70.vars = [] := rfl
@[go_sem] theorem h70m : h70.mutc = false := rfl
def h71 : Hint := ⟨(fun id => match id with | 0 => some [0, 1] | 1 => some [0, 1, 12] | 2 => some [4] | 3 => some [0, 1, 21] | 4 => some [4] | 5 => some [0, 1, 5, 6] | 6 => some [0, 1, 5, 31] | 7 => some [4] | 8 => some [4] | _ => none), (fun _ => none), (fun _ => none), [], false, (fun _ => none)⟩
@[go_sem] theorem h71x : h71.mix = (fun _ => none) := rfl
@[go_sem] theorem h71l : h71.live = (fun id => match id with | 0 => some [0, 1] | 1 => some [0, 1, 12] | 2 => some [4] | 3 => some [0, 1, 21] | 4 => some [4] | 5 => some [0, 1, 5, 6] | 6 => some [0, 1, 5, 31] | 7 => some [4] | 8 => some [4] | _ => none) := rfl
@[go_sem] theorem h71k : h71.keep = (fun _ => none) := rfl
@[go_sem] theorem h71t : h71.tail = (fun _ => none) := rfl
@[go_sem] theorem h71v : h71.vars = [] := rfl
@[go_sem] theorem h71m : h71.mutc = false := rfl
def h72 : Hint := ⟨(fun id => match id with | 0 => some [0, 1, 2, 6] | 1 => some [0, 1, 2, 6, 16] | 2 => some [6] | 3 => some [0, 1, 2, 6, 19] | 4 => some [0, 1, 2, 6, 16] | 5 => some [0, 1, 2, 6, 23] | 6 => some [6] | 7 => some [0, 1, 2, 6] | 8 => some [0, 1, 2, 6, 7] | 9 => some [0, 1, 2, 6, 7, 27, 28, 29] | 10 => some [0, 1, 2, 6, 7, 27, 28, 29, 30] | 11 => some [0, 1, 2, 6, 7, 9, 27, 28, 29] | 12 => some [0, 1, 2, 6, 7, 9, 10, 27, 28, 29] | 13 => some [0, 1, 2, 6, 7, 9, 10, 27, 28, 29, 35] | 14 => some [0, 1, 2, 6, 7, 9, 10, 27, 28, 29] | 15 => some [0, 1, 2, 6, 7, 9, 10, 27, 28, 29, 41] | 16 => some [0, 1, 2, 6, 7, 9, 10, 27, 28, 29] | 17 => some [0, 1, 2, 6, 7, 9, 10, 27, 28, 29, 48] | 18 => some [6] | 19 => some [0, 1, 2, 6, 7, 9, 10, 27, 28, 29] | 20 => some [0, 1, 2, 6, 7, 27, 28, 29] | 21 => some [6] | _ => none), (fun _ => none), (fun _ => none), [], false, (fun _ => none)⟩
@[go_sem] theorem h72x : h72.mix = (fun _ => none) := rfl
@[go_sem] theorem h72l : h72.live = (fun id => match id with | 0 => some [0, 1, 2, 6] | 1 => some [0, 1, 2, 6, 16] | 2 => some [6] | 3 => some [0, 1, 2, 6, 19] | 4 => some [0, 1, 2, 6, 16] | 5 => some [0, 1, 2, 6, 23] | 6 => some [6] | 7 => some [0, 1, 2, 6] | 8 => some [0, 1, 2, 6, 7] | 9 => some [0, 1, 2, 6, 7, 27, 28, 29] | 10 => some [0, 1, 2, 6, 7, 27, 28, 29, 30] | 11 => some [0, 1, 2, 6, 7, 9, 27, 28, 29] | 12 => some [0, 1, 2, 6, 7, 9, 10, 27, 28, 29] | 13 => some [0, 1, 2, 6, 7, 9, 10, 27, 28, 29, 35] | 14 => some [0, 1, 2, 6, 7, 9, 10, 27, 28, 29] | 15 => some [0, 1, 2, 6, 7, 9, 10, 27, 28, 29, 41] | 16 => some [0, 1, 2, 6, 7, 9, 10, 27, 28, 29] | 17 => some [0, 1, 2, 6, 7, 9, 10, 27, 28, 29, 48] | 18 => some [6] | 19 => some [0, 1, 2, 6, 7, 9, 10, 27, 28, 29] | 20 => some [0, 1, 2, 6, 7, 27, 28, 29] | 21 => some [6] | _ => none) := rfl
@[go_sem] theorem h72k : h72.keep = (fun _ => none) := rfl
@[go_sem] theorem h72t : h72.tail = (fun _ => none) := rfl
@[go_sem] theorem h72v : h72.vars = [] := rfl
@[go_sem] theorem h72m : h72.mutc = false := rfl
def h74 : Hint := ⟨(fun id => match id with | 0 => some [0] | 1 => some [0, 8] | 2 => some [2] | 3 => some [2] | _ => none), (fun _ => none), (fun _ => none), [], false, (fun _ => none)⟩
@[go_sem] theorem h74x : h74.mix = (fun _ => none) := rfl
@[go_sem] theorem h74l : h74.live = (fun id => match id with | 0 => some [0] | 1 => some [0, 8] | 2 => some [2] | 3 => some [2] | _ => none) := rfl
@[go_sem] theorem h74k : h74.keep = (fun _ => none) := rfl
@[go_sem] theorem h74t : h74.tail = (fun _ => none) := rfl
@[go_sem] theorem h74v : h74.vars = [] := rfl
@[go_sem] theorem h74m : h74.mutc = false := rfl
def h75 : Hint := ⟨(fun id => match id with | 0 => some [0, 1, 2] | 1 => some [0, 1, 2, 7] | 2 => some [0, 1, 2, 7] | 3 => some [2] | _ => none), (fun _ => none), (fun _ => none), [], false, (fun _ => none)⟩
@[go_sem] theorem h75x : h75.mix = (fun _ => none) := rfl
@[go_sem] theorem h75l : h75.live = (fun id => match id with | 0 => some [0, 1, 2] | 1 => some [0, 1, 2, 7] | 2 => some [0, 1, 2, 7] | 3 => some [2] | _ => none) := rfl
@[go_sem] theorem h75k : h75.keep = (fun _ => none) := rfl
@[go_sem] theorem h75t : h75.tail = (fun _ => none) := rfl
@[go_sem] theorem h75v : h75.vars = [] := rfl
@[go_sem] theorem h75m : h75.mutc = false := rfl
def h76 : Hint := ⟨(fun id => match id with | 0 => some [0, 2] | 1 => some [0, 2] | 2 => some [0, 2, 12] | 3 => some [2] | 4 => some [0, 2, 19] | 5 => some [2] | 6 => some [2] | 7 => some [0, 2, 35] | 8 => some [0, 2] | 9 => some [0, 2] | _ => none), (fun _ => none), (fun _ => none), [], false, (fun _ => none)⟩
@[go_sem] theorem h76x : h76.mix = (fun _ => none) := rfl
@[go_sem] theorem h76l : h76.live = (fun id => match id with | 0 => some [0, 2] | 1 => some [0, 2] | 2 => some [0, 2, 12] | 3 => some [2] | 4 => some [0, 2, 19] | 5 => some [2] | 6 => some [2] | 7 => some [0, 2, 35] | 8 => some [0, 2] | 9 => some [0, 2] | _ => none) := rfl
@[go_sem] theorem h76k : h76.keep = (fun _ => none) := rfl
@[go_sem] theorem h76t : h76.tail = (fun _ => none) := rfl
@[go_sem] theorem h76v : h76.vars = [] := rfl
@[go_sem] theorem h76m : h76.mutc = false := rfl
def h77 : Hint := ⟨(fun id => match id with | 0 => some [0] | 1 => some [2] | _ => none), (fun _ => none), (fun _ => none), [], false, (fun _ => none)⟩
@[go_sem] theorem h77x : h77.mix = (fun _ => none) := rfl
@[go_sem] theorem h77l : h77.live = (fun id => match id with | 0 => some [0] | 1 => some [2] | _ => none) := rfl
@[go_sem] theorem h77k : h77.keep = (fun _ => none) := rfl
@[go_sem] theorem h77t : h77.tail = (fun _ => none) := rfl
@[go_sem] theorem h77v : h77.vars = [] := rfl
@[go_sem] theorem h77m : h77.mutc = false := rfl
def h87 : Hint := ⟨(fun id => match id with | 0 => some [0, 1] | 1 => some [0, 1, 16] | 2 => some [0, 1] | 3 => some [4] | _ => none), (fun _ => none), (fun _ => none), [], false, (fun _ => none)⟩
@[go_sem] theorem h87x : h87.mix = (fun _ => none) := rfl
@[go_sem] theorem h87l : h87.live = (fun id => match id with | 0 => some [0, 1] | 1 => some [0, 1, 16] | 2 => some [0, 1] | 3 => some [4] | _ => none) := rfl
@[go_sem] theorem h87k : h87.keep = (fun _ => none) := rfl
@[go_sem] theorem h87t : h87.tail = (fun _ => none) := rfl
@[go_sem] theorem h87v : h87.vars = [] := rfl
@[go_sem] theorem h87m : h87.mutc = false := rfl
def h96 : Hint := ⟨(fun id => match id with | 0 => some [0] | 1 => some [0, 3] | 2 => some [0, 3, 19] | 3 => some [0, 3] | 4 => some [2] | _ => none), (fun _ => none), (fun _ => none), [], false, (fun _ => none)⟩
@[go_sem] theorem h96x : h96.mix = (fun _ => none) := rfl
@[go_sem] theorem h96l : h96.live = (fun id => match id with | 0 => some [0] | 1 => some [0, 3] | 2 => some [0, 3, 19] | 3 => some [0, 3] | 4 => some [2] | _ => none) := rfl
@[go_sem] theorem h96k : h96.keep = (fun _ => none) := rfl
@[go_sem] theorem h96t : h96.tail = (fun _ => none) := rfl
@[go_sem] theorem h96v : h96.vars = [] := rfl
@[go_sem] theorem h96m : h96.mutc = false := rfl
def h97 : Hint := ⟨(fun id => match id with | 0 => some [0, 1] | 1 => some [0, 1, 13] | 2 => some [0, 1] | 3 => some [4] | _ => none), (fun _ => none), (fun _ => none), [], false, (fun _ => none)⟩
@[go_sem] theorem h97x : h97.mix = (fun _ => none) := rfl
@[go_sem] theorem h97l : h97.live = (fun id => match id with | 0 => some [0, 1] | 1 => some [0, 1, 13] | 2 => some [0, 1] | 3 => some [4] | _ => none) := rfl
@[go_sem] theorem h97k : h97.keep = (fun _ => none) := rfl
@[go_sem] theorem h97t : h97.tail = (fun _ => none) := rfl
@[go_sem] theorem h97v : h97.vars = [] := rfl
@[go_sem] theorem h97m : h97.mutc = false := rfl
def h100 : Hint := ⟨(fun id => match id with | 0 => some [0, 1, 2, 6] | 1 => some [0, 1, 2, 6, 16] | 2 => some [6] | 3 => some [1, 2, 6, 18] | 4 => some [6] | 5 => some [6] | _ => none), (fun _ => none), (fun _ => none), [], false, (fun _ => none)⟩
@[go_sem] theorem h100x : h100.mix = (fun _ => none) := rfl
@[go_sem] theorem h100l : h100.live = (fun id => match id with | 0 => some [0, 1, 2, 6] | 1 => some [0, 1, 2, 6, 16] | 2 => some [6] | 3 => some [1, 2, 6, 18] | 4 => some [6] | 5 => some [6] | _ => none) := rfl
@[go_sem] theorem h100k : h100.keep = (fun _ => none) := rfl
@[go_sem] theorem h100t : h100.tail = (fun _ => none) := rfl
@[go_sem] theorem h100v : h100.vars = [] := rfl
@[go_sem] theorem h100m : h100.mutc = false := rfl
def hints (f : Nat) : Hint := match f with
  | 3 => h3
  | 4 => h4
  | 5 => h5
  | 7 => h7
  | 8 => h8
  | 9 => h9
  | 10 => h10
  | 15 => h15
  | 16 => h16
  | 17 => h17
  | 18 => h18
  | 27 => h27
  | 28 => h28
  | 29 => h29
  | 30 => h30
  | 31 => h31
  | 32 => h32
  | 33 => h33
  | 34 => h34
  | 35 => h35
  | 36 => h36
  | 37 => h37
  | 38 => h38
  | 39 => h39
  | 40 => h40
  | 41 => h41
  | 42 => h42
  | 52 => h52
  | 53 => h53
  | 54 => h54
  | 55 => h55
  | 56 => h56
  | 57 => h57
  | 58 => h58
  | 65 => h65
  | 69 => h69
  | 70 => h70
  | 71 => h71
  | 72 => h72
  | 74 => h74
  | 75 => h75
  | 76 => h76
  | 77 => h77
  | 87 => h87
  | 96 => h96
  | 97 => h97
  | 100 => h100
  | _ => ⟨fun _ => none, fun _ => none, fun _ => none, [], false, fun _ => none⟩
noncomputable def E : CallF := ev Tryd.prog hints primz
noncomputable def b3 : Code := bodyOf Tryd.f3
noncomputable def l3x0 : Code := loopAt b3 0
theorem c3 : codeOk Tryd.prog h3 153 b3 = true := by kernel_rfl
/-- jalousie/jalousielaw3.TokFew -/
theorem e3 {lo : Nat} {args : List V} {h : Heap} (ha : args.length ≤ 153) (hb : args.all bare = true) :
    E lo 3 args h = fin Tryd.prog [.tmp 2] h.length (evCode ⟨Tryd.prog, E, lo, h.length, h3⟩ loopW b3 (args0 args, h)) :=
  ev_body rfl Tryd.func3 rfl Tryd.ntmps3 (by kernel_rfl) rfl c3 rfl ha hb
noncomputable def b4 : Code := bodyOf Tryd.f4
noncomputable def l4x0 : Code := loopAt b4 0
theorem c4 : codeOk Tryd.prog h4 143 b4 = true := by kernel_rfl
/-- jalousie/jalousielaw3.TokParts -/
theorem e4 {lo : Nat} {args : List V} {h : Heap} (ha : args.length ≤ 143) (hb : args.all bare = true) :
    E lo 4 args h = fin Tryd.prog [.tmp 4] h.length (evCode ⟨Tryd.prog, E, lo, h.length, h4⟩ loopW b4 (args0 args, h)) :=
  ev_body rfl Tryd.func4 rfl Tryd.ntmps4 (by kernel_rfl) rfl c4 rfl ha hb
noncomputable def b5 : Code := bodyOf Tryd.f5
noncomputable def l5x0 : Code := loopAt b5 0
noncomputable def l5x1 : Code := loopAt b5 1
theorem c5 : codeOk Tryd.prog h5 195 b5 = true := by kernel_rfl
/-- jalousie/jalousielaw3.TokRemarks -/
theorem e5 {lo : Nat} {args : List V} {h : Heap} (ha : args.length ≤ 195) (hb : args.all bare = true) :
    E lo 5 args h = fin Tryd.prog [.tmp 6] h.length (evCode ⟨Tryd.prog, E, lo, h.length, h5⟩ loopW b5 (args0 args, h)) :=
  ev_body rfl Tryd.func5 rfl Tryd.ntmps5 (by kernel_rfl) rfl c5 rfl ha hb
noncomputable def b7 : Code := bodyOf Tryd.f7
noncomputable def l7x0 : Code := loopAt b7 0
theorem c7 : codeOk Tryd.prog h7 18 b7 = true := by kernel_rfl
/-- jalousie/tok.Tokens -/
theorem e7 {lo : Nat} {args : List V} {h : Heap} (ha : args.length ≤ 18) (hb : args.all bare = true) :
    E lo 7 args h = fin Tryd.prog [.tmp 2] h.length (evCode ⟨Tryd.prog, E, lo, h.length, h7⟩ loopW b7 (args0 args, h)) :=
  ev_body rfl Tryd.func7 rfl Tryd.ntmps7 (by kernel_rfl) rfl c7 rfl ha hb
noncomputable def b8 : Code := bodyOf Tryd.f8
theorem c8 : codeOk Tryd.prog h8 30 b8 = true := by kernel_rfl
/-- jalousie/jalousielaw3.awake -/
theorem e8 {lo : Nat} {args : List V} {h : Heap} (ha : args.length ≤ 30) (hb : args.all bare = true) :
    E lo 8 args h = fin Tryd.prog [.tmp 0] h.length (evCode ⟨Tryd.prog, E, lo, h.length, h8⟩ loopW b8 (args0 args, h)) :=
  ev_body rfl Tryd.func8 rfl Tryd.ntmps8 (by kernel_rfl) rfl c8 rfl ha hb
noncomputable def b9 : Code := bodyOf Tryd.f9
theorem c9 : codeOk Tryd.prog h9 6 b9 = true := by kernel_rfl
/-- jalousie/tok.Bytes -/
theorem e9 {lo : Nat} {args : List V} {h : Heap} (ha : args.length ≤ 6) (hb : args.all bare = true) :
    E lo 9 args h = fin Tryd.prog [.tmp 2] h.length (evCode ⟨Tryd.prog, E, lo, h.length, h9⟩ loopW b9 (args0 args, h)) :=
  ev_body rfl Tryd.func9 rfl Tryd.ntmps9 (by kernel_rfl) rfl c9 rfl ha hb
noncomputable def b10 : Code := bodyOf Tryd.f10
noncomputable def l10x0 : Code := loopAt b10 0
theorem c10 : codeOk Tryd.prog h10 26 b10 = true := by kernel_rfl
/-- jalousie/jalousieref3.Same -/
theorem e10 {lo : Nat} {args : List V} {h : Heap} (ha : args.length ≤ 26) (hb : args.all bare = true) :
    E lo 10 args h = fin Tryd.prog [.tmp 4] h.length (evCode ⟨Tryd.prog, E, lo, h.length, h10⟩ loopW b10 (args0 args, h)) :=
  ev_body rfl Tryd.func10 rfl Tryd.ntmps10 (by kernel_rfl) rfl c10 rfl ha hb
noncomputable def b15 : Code := bodyOf Tryd.f15
noncomputable def l15x0 : Code := loopAt b15 0
noncomputable def l15x1 : Code := loopAt b15 1
theorem c15 : codeOk Tryd.prog h15 38 b15 = true := by kernel_rfl
/- a method -/
theorem e15 {lo : Nat} {args : List V} {h : Heap} (ha : args.length ≤ 38) (hb : args.all bare = true) :
    E lo 15 args h = fin Tryd.prog [] h.length (evCode ⟨Tryd.prog, E, lo, h.length, h15⟩ loopW b15 (args0 args, h)) :=
  ev_body rfl Tryd.func15 rfl Tryd.ntmps15 (by kernel_rfl) rfl c15 rfl ha hb
noncomputable def b16 : Code := bodyOf Tryd.f16
theorem c16 : codeOk Tryd.prog h16 45 b16 = true := by kernel_rfl
/- a method -/
theorem e16 {lo : Nat} {args : List V} {h : Heap} (ha : args.length ≤ 45) (hb : args.all bare = true) :
    E lo 16 args h = fin Tryd.prog [.tmp 4] h.length (evCode ⟨Tryd.prog, E, lo, h.length, h16⟩ loopW b16 (args0 args, h)) :=
  ev_body rfl Tryd.func16 rfl Tryd.ntmps16 (by kernel_rfl) rfl c16 rfl ha hb
noncomputable def b17 : Code := bodyOf Tryd.f17
theorem c17 : codeOk Tryd.prog h17 170 b17 = true := by kernel_rfl
/- a method -/
theorem e17 {lo : Nat} {args : List V} {h : Heap} (ha : args.length ≤ 170) (hb : args.all bare = true) :
    E lo 17 args h = fin Tryd.prog [.cell 2 28] h.length (evCode ⟨Tryd.prog, E, lo, h.length, h17⟩ loopW b17 (args0 args, h)) :=
  ev_body rfl Tryd.func17 rfl Tryd.ntmps17 (by kernel_rfl) rfl c17 rfl ha hb
noncomputable def b18 : Code := bodyOf Tryd.f18
noncomputable def l18x0 : Code := loopAt b18 0
theorem c18 : codeOk Tryd.prog h18 56 b18 = true := by kernel_rfl
/-- jalousie/utf.Decode -/
theorem e18 {lo : Nat} {args : List V} {h : Heap} (ha : args.length ≤ 56) (hb : args.all bare = true) :
    E lo 18 args h = fin Tryd.prog [.tmp 2] h.length (evCode ⟨Tryd.prog, E, lo, h.length, h18⟩ loopW b18 (args0 args, h)) :=
  ev_body rfl Tryd.func18 rfl Tryd.ntmps18 (by kernel_rfl) rfl c18 rfl ha hb
noncomputable def b27 : Code := bodyOf Tryd.f27
noncomputable def l27x0 : Code := loopAt b27 0
theorem c27 : codeOk Tryd.prog h27 20 b27 = true := by kernel_rfl
/- a method -/
theorem e27 {lo : Nat} {args : List V} {h : Heap} (ha : args.length ≤ 20) (hb : args.all bare = true) :
    E lo 27 args h = fin Tryd.prog [.tmp 4] h.length (evCode ⟨Tryd.prog, E, lo, h.length, h27⟩ loopW b27 (args0 args, h)) :=
  ev_body rfl Tryd.func27 rfl Tryd.ntmps27 (by kernel_rfl) rfl c27 rfl ha hb
noncomputable def b28 : Code := bodyOf Tryd.f28
theorem c28 : codeOk Tryd.prog h28 13 b28 = true := by kernel_rfl
/-- jalousie/tok.blank -/
theorem e28 {lo : Nat} {args : List V} {h : Heap} (ha : args.length ≤ 13) (hb : args.all bare = true) :
    E lo 28 args h = fin Tryd.prog [.tmp 2] h.length (evCode ⟨Tryd.prog, E, lo, h.length, h28⟩ loopW b28 (args0 args, h)) :=
  ev_body rfl Tryd.func28 rfl Tryd.ntmps28 (by kernel_rfl) rfl c28 rfl ha hb
noncomputable def b29 : Code := bodyOf Tryd.f29
noncomputable def l29x0 : Code := loopAt b29 0
theorem c29 : codeOk Tryd.prog h29 12 b29 = true := by kernel_rfl
/- a method -/
theorem e29 {lo : Nat} {args : List V} {h : Heap} (ha : args.length ≤ 12) (hb : args.all bare = true) :
    E lo 29 args h = fin Tryd.prog [] h.length (evCode ⟨Tryd.prog, E, lo, h.length, h29⟩ loopW b29 (args0 args, h)) :=
  ev_body rfl Tryd.func29 rfl Tryd.ntmps29 (by kernel_rfl) rfl c29 rfl ha hb
noncomputable def b30 : Code := bodyOf Tryd.f30
noncomputable def l30x0 : Code := loopAt b30 0
theorem c30 : codeOk Tryd.prog h30 102 b30 = true := by kernel_rfl
/- a method -/
theorem e30 {lo : Nat} {args : List V} {h : Heap} (ha : args.length ≤ 102) (hb : args.all bare = true) :
    E lo 30 args h = fin Tryd.prog [.cell 2 28] h.length (evCode ⟨Tryd.prog, E, lo, h.length, h30⟩ loopW b30 (args0 args, h)) :=
  ev_body rfl Tryd.func30 rfl Tryd.ntmps30 (by kernel_rfl) rfl c30 rfl ha hb
noncomputable def b31 : Code := bodyOf Tryd.f31
theorem c31 : codeOk Tryd.prog h31 22 b31 = true := by kernel_rfl
/-- jalousie/tok.plain -/
theorem e31 {lo : Nat} {args : List V} {h : Heap} (ha : args.length ≤ 22) (hb : args.all bare = true) :
    E lo 31 args h = fin Tryd.prog [.tmp 2] h.length (evCode ⟨Tryd.prog, E, lo, h.length, h31⟩ loopW b31 (args0 args, h)) :=
  ev_body rfl Tryd.func31 rfl Tryd.ntmps31 (by kernel_rfl) rfl c31 rfl ha hb
noncomputable def b32 : Code := bodyOf Tryd.f32
theorem c32 : codeOk Tryd.prog h32 9 b32 = true := by kernel_rfl
/-- jalousie/tok.digit -/
theorem e32 {lo : Nat} {args : List V} {h : Heap} (ha : args.length ≤ 9) (hb : args.all bare = true) :
    E lo 32 args h = fin Tryd.prog [.tmp 2] h.length (evCode ⟨Tryd.prog, E, lo, h.length, h32⟩ loopW b32 (args0 args, h)) :=
  ev_body rfl Tryd.func32 rfl Tryd.ntmps32 (by kernel_rfl) rfl c32 rfl ha hb
noncomputable def b33 : Code := bodyOf Tryd.f33
theorem c33 : codeOk Tryd.prog h33 34 b33 = true := by kernel_rfl
/- a method -/
theorem e33 {lo : Nat} {args : List V} {h : Heap} (ha : args.length ≤ 34) (hb : args.all bare = true) :
    E lo 33 args h = fin Tryd.prog [.tmp 4] h.length (evCode ⟨Tryd.prog, E, lo, h.length, h33⟩ loopW b33 (args0 args, h)) :=
  ev_body rfl Tryd.func33 rfl Tryd.ntmps33 (by kernel_rfl) rfl c33 rfl ha hb
noncomputable def b34 : Code := bodyOf Tryd.f34
theorem c34 : codeOk Tryd.prog h34 146 b34 = true := by kernel_rfl
/- a method -/
theorem e34 {lo : Nat} {args : List V} {h : Heap} (ha : args.length ≤ 146) (hb : args.all bare = true) :
    E lo 34 args h = fin Tryd.prog [.cell 2 28] h.length (evCode ⟨Tryd.prog, E, lo, h.length, h34⟩ loopW b34 (args0 args, h)) :=
  ev_body rfl Tryd.func34 rfl Tryd.ntmps34 (by kernel_rfl) rfl c34 rfl ha hb
noncomputable def b35 : Code := bodyOf Tryd.f35
theorem c35 : codeOk Tryd.prog h35 13 b35 = true := by kernel_rfl
/-- jalousie/tok.letter -/
theorem e35 {lo : Nat} {args : List V} {h : Heap} (ha : args.length ≤ 13) (hb : args.all bare = true) :
    E lo 35 args h = fin Tryd.prog [.tmp 2] h.length (evCode ⟨Tryd.prog, E, lo, h.length, h35⟩ loopW b35 (args0 args, h)) :=
  ev_body rfl Tryd.func35 rfl Tryd.ntmps35 (by kernel_rfl) rfl c35 rfl ha hb
noncomputable def b36 : Code := bodyOf Tryd.f36
theorem c36 : codeOk Tryd.prog h36 16 b36 = true := by kernel_rfl
/- a method -/
theorem e36 {lo : Nat} {args : List V} {h : Heap} (ha : args.length ≤ 16) (hb : args.all bare = true) :
    E lo 36 args h = fin Tryd.prog [.tmp 4] h.length (evCode ⟨Tryd.prog, E, lo, h.length, h36⟩ loopW b36 (args0 args, h)) :=
  ev_body rfl Tryd.func36 rfl Tryd.ntmps36 (by kernel_rfl) rfl c36 rfl ha hb
noncomputable def b37 : Code := bodyOf Tryd.f37
theorem c37 : codeOk Tryd.prog h37 36 b37 = true := by kernel_rfl
/- a method -/
theorem e37 {lo : Nat} {args : List V} {h : Heap} (ha : args.length ≤ 36) (hb : args.all bare = true) :
    E lo 37 args h = fin Tryd.prog [.tmp 4] h.length (evCode ⟨Tryd.prog, E, lo, h.length, h37⟩ loopW b37 (args0 args, h)) :=
  ev_body rfl Tryd.func37 rfl Tryd.ntmps37 (by kernel_rfl) rfl c37 rfl ha hb
noncomputable def b38 : Code := bodyOf Tryd.f38
noncomputable def l38x0 : Code := loopAt b38 0
theorem c38 : codeOk Tryd.prog h38 26 b38 = true := by kernel_rfl
/- a method -/
theorem e38 {lo : Nat} {args : List V} {h : Heap} (ha : args.length ≤ 26) (hb : args.all bare = true) :
    E lo 38 args h = fin Tryd.prog [.tmp 2] h.length (evCode ⟨Tryd.prog, E, lo, h.length, h38⟩ loopW b38 (args0 args, h)) :=
  ev_body rfl Tryd.func38 rfl Tryd.ntmps38 (by kernel_rfl) rfl c38 rfl ha hb
noncomputable def b39 : Code := bodyOf Tryd.f39
noncomputable def l39x0 : Code := loopAt b39 0
theorem c39 : codeOk Tryd.prog h39 73 b39 = true := by kernel_rfl
/- a method -/
theorem e39 {lo : Nat} {args : List V} {h : Heap} (ha : args.length ≤ 73) (hb : args.all bare = true) :
    E lo 39 args h = fin Tryd.prog [.cell 2 28] h.length (evCode ⟨Tryd.prog, E, lo, h.length, h39⟩ loopW b39 (args0 args, h)) :=
  ev_body rfl Tryd.func39 rfl Tryd.ntmps39 (by kernel_rfl) rfl c39 rfl ha hb
noncomputable def b40 : Code := bodyOf Tryd.f40
noncomputable def l40x0 : Code := loopAt b40 0
theorem c40 : codeOk Tryd.prog h40 90 b40 = true := by kernel_rfl
/-- jalousie/utf.Encode -/
theorem e40 {lo : Nat} {args : List V} {h : Heap} (ha : args.length ≤ 90) (hb : args.all bare = true) :
    E lo 40 args h = fin Tryd.prog [.tmp 2] h.length (evCode ⟨Tryd.prog, E, lo, h.length, h40⟩ loopW b40 (args0 args, h)) :=
  ev_body rfl Tryd.func40 rfl Tryd.ntmps40 (by kernel_rfl) rfl c40 rfl ha hb
noncomputable def b41 : Code := bodyOf Tryd.f41
theorem c41 : codeOk Tryd.prog h41 14 b41 = true := by kernel_rfl
/- a method -/
theorem e41 {lo : Nat} {args : List V} {h : Heap} (ha : args.length ≤ 14) (hb : args.all bare = true) :
    E lo 41 args h = fin Tryd.prog [.tmp 2] h.length (evCode ⟨Tryd.prog, E, lo, h.length, h41⟩ loopW b41 (args0 args, h)) :=
  ev_body rfl Tryd.func41 rfl Tryd.ntmps41 (by kernel_rfl) rfl c41 rfl ha hb
noncomputable def b42 : Code := bodyOf Tryd.f42
noncomputable def l42x0 : Code := loopAt b42 0
theorem c42 : codeOk Tryd.prog h42 22 b42 = true := by kernel_rfl
/-- jalousie/utf.Raw -/
theorem e42 {lo : Nat} {args : List V} {h : Heap} (ha : args.length ≤ 22) (hb : args.all bare = true) :
    E lo 42 args h = fin Tryd.prog [.tmp 2] h.length (evCode ⟨Tryd.prog, E, lo, h.length, h42⟩ loopW b42 (args0 args, h)) :=
  ev_body rfl Tryd.func42 rfl Tryd.ntmps42 (by kernel_rfl) rfl c42 rfl ha hb
noncomputable def b52 : Code := bodyOf Tryd.f52
noncomputable def l52x0 : Code := loopAt b52 0
theorem c52 : codeOk Tryd.prog h52 50 b52 = true := by kernel_rfl
/- a method -/
theorem e52 {lo : Nat} {args : List V} {h : Heap} (ha : args.length ≤ 50) (hb : args.all bare = true) :
    E lo 52 args h = fin Tryd.prog [.tmp 2] h.length (evCode ⟨Tryd.prog, E, lo, h.length, h52⟩ loopW b52 (args0 args, h)) :=
  ev_body rfl Tryd.func52 rfl Tryd.ntmps52 (by kernel_rfl) rfl c52 rfl ha hb
noncomputable def b53 : Code := bodyOf Tryd.f53
noncomputable def l53x0 : Code := loopAt b53 0
theorem c53 : codeOk Tryd.prog h53 15 b53 = true := by kernel_rfl
/- a method -/
theorem e53 {lo : Nat} {args : List V} {h : Heap} (ha : args.length ≤ 15) (hb : args.all bare = true) :
    E lo 53 args h = fin Tryd.prog [] h.length (evCode ⟨Tryd.prog, E, lo, h.length, h53⟩ loopW b53 (args0 args, h)) :=
  ev_body rfl Tryd.func53 rfl Tryd.ntmps53 (by kernel_rfl) rfl c53 rfl ha hb
noncomputable def b54 : Code := bodyOf Tryd.f54
noncomputable def l54x0 : Code := loopAt b54 0
theorem c54 : codeOk Tryd.prog h54 67 b54 = true := by kernel_rfl
/-- jalousie/rat.Decimal -/
theorem e54 {lo : Nat} {args : List V} {h : Heap} (ha : args.length ≤ 67) (hb : args.all bare = true) :
    E lo 54 args h = fin Tryd.prog [.cell 2 26, .tmp 3, .tmp 4] h.length (evCode ⟨Tryd.prog, E, lo, h.length, h54⟩ loopW b54 (args0 args, h)) :=
  ev_body rfl Tryd.func54 rfl Tryd.ntmps54 (by kernel_rfl) rfl c54 rfl ha hb
noncomputable def b55 : Code := bodyOf Tryd.f55
theorem c55 : codeOk Tryd.prog h55 25 b55 = true := by kernel_rfl
/-- jalousie/tok.first -/
theorem e55 {lo : Nat} {args : List V} {h : Heap} (ha : args.length ≤ 25) (hb : args.all bare = true) :
    E lo 55 args h = fin Tryd.prog [.tmp 2] h.length (evCode ⟨Tryd.prog, E, lo, h.length, h55⟩ loopW b55 (args0 args, h)) :=
  ev_body rfl Tryd.func55 rfl Tryd.ntmps55 (by kernel_rfl) rfl c55 rfl ha hb
noncomputable def b56 : Code := bodyOf Tryd.f56
theorem c56 : codeOk Tryd.prog h56 9 b56 = true := by kernel_rfl
/-- jalousie/tok.alike -/
theorem e56 {lo : Nat} {args : List V} {h : Heap} (ha : args.length ≤ 9) (hb : args.all bare = true) :
    E lo 56 args h = fin Tryd.prog [.tmp 4] h.length (evCode ⟨Tryd.prog, E, lo, h.length, h56⟩ loopW b56 (args0 args, h)) :=
  ev_body rfl Tryd.func56 rfl Tryd.ntmps56 (by kernel_rfl) rfl c56 rfl ha hb
noncomputable def b57 : Code := bodyOf Tryd.f57
noncomputable def l57x0 : Code := loopAt b57 0
theorem c57 : codeOk Tryd.prog h57 95 b57 = true := by kernel_rfl
/- a method -/
theorem e57 {lo : Nat} {args : List V} {h : Heap} (ha : args.length ≤ 95) (hb : args.all bare = true) :
    E lo 57 args h = fin Tryd.prog [.cell 2 28] h.length (evCode ⟨Tryd.prog, E, lo, h.length, h57⟩ loopW b57 (args0 args, h)) :=
  ev_body rfl Tryd.func57 rfl Tryd.ntmps57 (by kernel_rfl) rfl c57 rfl ha hb
noncomputable def b58 : Code := bodyOf Tryd.f58
noncomputable def l58x0 : Code := loopAt b58 0
theorem c58 : codeOk Tryd.prog h58 101 b58 = true := by kernel_rfl
/-- jalousie/utf.step -/
theorem e58 {lo : Nat} {args : List V} {h : Heap} (ha : args.length ≤ 101) (hb : args.all bare = true) :
    E lo 58 args h = fin Tryd.prog [.tmp 2, .tmp 3] h.length (evCode ⟨Tryd.prog, E, lo, h.length, h58⟩ loopW b58 (args0 args, h)) :=
  ev_body rfl Tryd.func58 rfl Tryd.ntmps58 (by kernel_rfl) rfl c58 rfl ha hb
noncomputable def b65 : Code := bodyOf Tryd.f65
theorem c65 : codeOk Tryd.prog h65 37 b65 = true := by kernel_rfl
/-- strings.TrimRight -/
theorem e65 {lo : Nat} {args : List V} {h : Heap} (ha : args.length ≤ 37) (hb : args.all bare = true) :
    E lo 65 args h = fin Tryd.prog [.tmp 4] h.length (evCode ⟨Tryd.prog, E, lo, h.length, h65⟩ loopW b65 (args0 args, h)) :=
  ev_body rfl Tryd.func65 rfl Tryd.ntmps65 (by kernel_rfl) rfl c65 rfl ha hb
noncomputable def b69 : Code := bodyOf Tryd.f69
theorem c69 : codeOk Tryd.prog h69 28 b69 = true := by kernel_rfl
/-- jalousie/tok.hex -/
theorem e69 {lo : Nat} {args : List V} {h : Heap} (ha : args.length ≤ 28) (hb : args.all bare = true) :
    E lo 69 args h = fin Tryd.prog [.tmp 2] h.length (evCode ⟨Tryd.prog, E, lo, h.length, h69⟩ loopW b69 (args0 args, h)) :=
  ev_body rfl Tryd.func69 rfl Tryd.ntmps69 (by kernel_rfl) rfl c69 rfl ha hb
noncomputable def b70 : Code := bodyOf Tryd.f70
noncomputable def l70x0 : Code := loopAt b70 0
theorem c70 : codeOk Tryd.prog h70 135 b70 = true := by kernel_rfl
/-- jalousie/rat.cut -/
theorem e70 {lo : Nat} {args : List V} {h : Heap} (ha : args.length ≤ 135) (hb : args.all bare = true) :
    E lo 70 args h = fin Tryd.prog [.cell 2 85, .tmp 3] h.length (evCode ⟨Tryd.prog, E, lo, h.length, h70⟩ loopW b70 (args0 args, h)) :=
  ev_body rfl Tryd.func70 rfl Tryd.ntmps70 (by kernel_rfl) rfl c70 rfl ha hb
noncomputable def b71 : Code := bodyOf Tryd.f71
theorem c71 : codeOk Tryd.prog h71 37 b71 = true := by kernel_rfl
/-- strings.TrimLeft -/
theorem e71 {lo : Nat} {args : List V} {h : Heap} (ha : args.length ≤ 37) (hb : args.all bare = true) :
    E lo 71 args h = fin Tryd.prog [.tmp 4] h.length (evCode ⟨Tryd.prog, E, lo, h.length, h71⟩ loopW b71 (args0 args, h)) :=
  ev_body rfl Tryd.func71 rfl Tryd.ntmps71 (by kernel_rfl) rfl c71 rfl ha hb
noncomputable def b72 : Code := bodyOf Tryd.f72
noncomputable def l72x0 : Code := loopAt b72 0
noncomputable def l72x1 : Code := loopAt b72 1
noncomputable def l72x2 : Code := loopAt b72 2
theorem c72 : codeOk Tryd.prog h72 58 b72 = true := by kernel_rfl
/-- jalousie/rat.scaled -/
theorem e72 {lo : Nat} {args : List V} {h : Heap} (ha : args.length ≤ 58) (hb : args.all bare = true) :
    E lo 72 args h = fin Tryd.prog [.cell 6 26] h.length (evCode ⟨Tryd.prog, E, lo, h.length, h72⟩ loopW b72 (args0 args, h)) :=
  ev_body rfl Tryd.func72 rfl Tryd.ntmps72 (by kernel_rfl) rfl c72 rfl ha hb
noncomputable def b74 : Code := bodyOf Tryd.f74
theorem c74 : codeOk Tryd.prog h74 13 b74 = true := by kernel_rfl
/- a method -/
theorem e74 {lo : Nat} {args : List V} {h : Heap} (ha : args.length ≤ 13) (hb : args.all bare = true) :
    E lo 74 args h = fin Tryd.prog [.tmp 2] h.length (evCode ⟨Tryd.prog, E, lo, h.length, h74⟩ loopW b74 (args0 args, h)) :=
  ev_body rfl Tryd.func74 rfl Tryd.ntmps74 (by kernel_rfl) rfl c74 rfl ha hb
noncomputable def b75 : Code := bodyOf Tryd.f75
theorem c75 : codeOk Tryd.prog h75 21 b75 = true := by kernel_rfl
/- a method -/
theorem e75 {lo : Nat} {args : List V} {h : Heap} (ha : args.length ≤ 21) (hb : args.all bare = true) :
    E lo 75 args h = fin Tryd.prog [.cell 2 28] h.length (evCode ⟨Tryd.prog, E, lo, h.length, h75⟩ loopW b75 (args0 args, h)) :=
  ev_body rfl Tryd.func75 rfl Tryd.ntmps75 (by kernel_rfl) rfl c75 rfl ha hb
noncomputable def b76 : Code := bodyOf Tryd.f76
noncomputable def l76x0 : Code := loopAt b76 0
theorem c76 : codeOk Tryd.prog h76 53 b76 = true := by kernel_rfl
/- a method -/
theorem e76 {lo : Nat} {args : List V} {h : Heap} (ha : args.length ≤ 53) (hb : args.all bare = true) :
    E lo 76 args h = fin Tryd.prog [.cell 2 28] h.length (evCode ⟨Tryd.prog, E, lo, h.length, h76⟩ loopW b76 (args0 args, h)) :=
  ev_body rfl Tryd.func76 rfl Tryd.ntmps76 (by kernel_rfl) rfl c76 rfl ha hb
noncomputable def b77 : Code := bodyOf Tryd.f77
theorem c77 : codeOk Tryd.prog h77 25 b77 = true := by kernel_rfl
/-- jalousie/tok.unprintable -/
theorem e77 {lo : Nat} {args : List V} {h : Heap} (ha : args.length ≤ 25) (hb : args.all bare = true) :
    E lo 77 args h = fin Tryd.prog [.tmp 2] h.length (evCode ⟨Tryd.prog, E, lo, h.length, h77⟩ loopW b77 (args0 args, h)) :=
  ev_body rfl Tryd.func77 rfl Tryd.ntmps77 (by kernel_rfl) rfl c77 rfl ha hb
noncomputable def b87 : Code := bodyOf Tryd.f87
noncomputable def l87x0 : Code := loopAt b87 0
theorem c87 : codeOk Tryd.prog h87 23 b87 = true := by kernel_rfl
/-- strings.trimRightByte -/
theorem e87 {lo : Nat} {args : List V} {h : Heap} (ha : args.length ≤ 23) (hb : args.all bare = true) :
    E lo 87 args h = fin Tryd.prog [.tmp 4] h.length (evCode ⟨Tryd.prog, E, lo, h.length, h87⟩ loopW b87 (args0 args, h)) :=
  ev_body rfl Tryd.func87 rfl Tryd.ntmps87 (by kernel_rfl) rfl c87 rfl ha hb
noncomputable def b96 : Code := bodyOf Tryd.f96
noncomputable def l96x0 : Code := loopAt b96 0
theorem c96 : codeOk Tryd.prog h96 23 b96 = true := by kernel_rfl
/-- jalousie/rat.digits -/
theorem e96 {lo : Nat} {args : List V} {h : Heap} (ha : args.length ≤ 23) (hb : args.all bare = true) :
    E lo 96 args h = fin Tryd.prog [.tmp 2] h.length (evCode ⟨Tryd.prog, E, lo, h.length, h96⟩ loopW b96 (args0 args, h)) :=
  ev_body rfl Tryd.func96 rfl Tryd.ntmps96 (by kernel_rfl) rfl c96 rfl ha hb
noncomputable def b97 : Code := bodyOf Tryd.f97
noncomputable def l97x0 : Code := loopAt b97 0
theorem c97 : codeOk Tryd.prog h97 17 b97 = true := by kernel_rfl
/-- strings.trimLeftByte -/
theorem e97 {lo : Nat} {args : List V} {h : Heap} (ha : args.length ≤ 17) (hb : args.all bare = true) :
    E lo 97 args h = fin Tryd.prog [.tmp 4] h.length (evCode ⟨Tryd.prog, E, lo, h.length, h97⟩ loopW b97 (args0 args, h)) :=
  ev_body rfl Tryd.func97 rfl Tryd.ntmps97 (by kernel_rfl) rfl c97 rfl ha hb
noncomputable def b100 : Code := bodyOf Tryd.f100
theorem c100 : codeOk Tryd.prog h100 30 b100 = true := by kernel_rfl
/-- jalousie/rat.made -/
theorem e100 {lo : Nat} {args : List V} {h : Heap} (ha : args.length ≤ 30) (hb : args.all bare = true) :
    E lo 100 args h = fin Tryd.prog [.cell 6 26] h.length (evCode ⟨Tryd.prog, E, lo, h.length, h100⟩ loopW b100 (args0 args, h)) :=
  ev_body rfl Tryd.func100 rfl Tryd.ntmps100 (by kernel_rfl) rfl c100 rfl ha hb
end Go.Lift.D3
