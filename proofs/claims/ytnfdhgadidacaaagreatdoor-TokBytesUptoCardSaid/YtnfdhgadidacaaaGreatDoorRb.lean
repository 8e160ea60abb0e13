/- Facts of the program that the evaluation asks for, written by a program. -/
import Derived.Test.YtnfdhgadidacaaaGreatDoorRows
import Derived.Lib.MapLaws
import Derived.Lib.DecodeN
import Derived.Test.YtnfdhgadidacaaaGreatDoorTa
/- Facts of the program that the evaluation asks for: the live slots of each function, its types. Written by a program (gen.py). -/
namespace Go.Lift.R3
set_option linter.unusedVariables false
set_option linter.unusedSimpArgs false
open Go.Proofs
set_option maxRecDepth 20000

/-- what the package-level variables hold: jalousieref3.kinds, unicode/utf8.first, unicode/utf8.acceptRanges -/
instance gtab : GTab := ⟨fun n => match n with | 0 => some [.v (.int .i64 21), .v (.int .i64 22), .v (.int .i64 19), .v (.int .i64 20), .v (.int .i64 23), .v (.int .i64 24), .v (.int .i64 18), .v (.int .i64 16), .v (.int .i64 17)] | 4 => some ((List.range 256).map fun c => .v (.int .u8 (Go.Lib.firstT c))) | 5 => some ((List.range 16).flatMap fun i => [.v (.int .u8 (Go.Lib.accLo i)), .v (.int .u8 (Go.Lib.accHi i))]) | _ => none⟩
@[go_sem] theorem tab0 : GTab.tab 0 = some [.v (.int .i64 21), .v (.int .i64 22), .v (.int .i64 19), .v (.int .i64 20), .v (.int .i64 23), .v (.int .i64 24), .v (.int .i64 18), .v (.int .i64 16), .v (.int .i64 17)] := rfl
/-- what jalousie/tok.alike makes of a character -/
def lowU (c : Int) : Int := if (decide (65 ≤ c) && decide (c ≤ 90)) = true then c + 32 else c
/-- strings.Map of that, taken from the shelf -/
noncomputable def mapP (lo : Nat) (args : List V) (h : Heap) : Option (V × Heap) := match args with
  | [.fn g [], .v (.string s)] => if g = 147 ∧ s.size < 35184372088832 then some (.v (.string ⟨(Go.Lib.mapD lowU s.data.toList).toArray⟩), h) else none
  | _ => none
noncomputable def primz : Nat → Option (Nat → List V → Heap → Option (V × Heap)) := fun n => match n with | 146 => some mapP | _ => none
attribute [go_sem] Tryz.underlying2
@[go_sem] theorem z2 : tsize Tryz.prog 2 = 1 := by kernel_rfl
@[go_sem] theorem k2 : ttag Tryz.prog 2 = some false := by kernel_rfl
@[go_sem] theorem y2 : Tryz.prog.bytesOf 2 = 8 := by kernel_rfl
@[go_sem] theorem s2 : isStr Tryz.prog 2 = false := by kernel_rfl
@[go_sem] theorem j2 : isI32 Tryz.prog 2 = false := by kernel_rfl
@[go_sem] theorem w2 : isU8 Tryz.prog 2 = false := by kernel_rfl
@[go_sem] theorem o2 : tzero Tryz.prog 2 = some [.int .i64 0] := by kernel_rfl
@[go_sem] theorem i2 : (Tryz.prog.info? 2).isSome = true := by kernel_rfl
attribute [go_sem] Tryz.underlying3
@[go_sem] theorem z3 : tsize Tryz.prog 3 = 1 := by kernel_rfl
@[go_sem] theorem k3 : ttag Tryz.prog 3 = some false := by kernel_rfl
@[go_sem] theorem y3 : Tryz.prog.bytesOf 3 = 8 := by kernel_rfl
@[go_sem] theorem s3 : isStr Tryz.prog 3 = false := by kernel_rfl
@[go_sem] theorem j3 : isI32 Tryz.prog 3 = false := by kernel_rfl
@[go_sem] theorem w3 : isU8 Tryz.prog 3 = false := by kernel_rfl
@[go_sem] theorem o3 : tzero Tryz.prog 3 = some [.int .i64 0] := by kernel_rfl
@[go_sem] theorem i3 : (Tryz.prog.info? 3).isSome = true := by kernel_rfl
attribute [go_sem] Tryz.underlying4
@[go_sem] theorem z4 : tsize Tryz.prog 4 = 1 := by kernel_rfl
@[go_sem] theorem k4 : ttag Tryz.prog 4 = some false := by kernel_rfl
@[go_sem] theorem y4 : Tryz.prog.bytesOf 4 = 1 := by kernel_rfl
@[go_sem] theorem s4 : isStr Tryz.prog 4 = false := by kernel_rfl
@[go_sem] theorem j4 : isI32 Tryz.prog 4 = false := by kernel_rfl
@[go_sem] theorem w4 : isU8 Tryz.prog 4 = false := by kernel_rfl
@[go_sem] theorem o4 : tzero Tryz.prog 4 = some [.bool false] := by kernel_rfl
@[go_sem] theorem i4 : (Tryz.prog.info? 4).isSome = true := by kernel_rfl
attribute [go_sem] Tryz.underlying5
@[go_sem] theorem z5 : tsize Tryz.prog 5 = 1 := by kernel_rfl
@[go_sem] theorem k5 : ttag Tryz.prog 5 = some false := by kernel_rfl
@[go_sem] theorem y5 : Tryz.prog.bytesOf 5 = 1 := by kernel_rfl
@[go_sem] theorem s5 : isStr Tryz.prog 5 = false := by kernel_rfl
@[go_sem] theorem j5 : isI32 Tryz.prog 5 = false := by kernel_rfl
@[go_sem] theorem w5 : isU8 Tryz.prog 5 = true := by kernel_rfl
@[go_sem] theorem o5 : tzero Tryz.prog 5 = some [.int .u8 0] := by kernel_rfl
@[go_sem] theorem i5 : (Tryz.prog.info? 5).isSome = true := by kernel_rfl
attribute [go_sem] Tryz.underlying9
@[go_sem] theorem z9 : tsize Tryz.prog 9 = 1 := by kernel_rfl
@[go_sem] theorem k9 : ttag Tryz.prog 9 = some false := by kernel_rfl
@[go_sem] theorem y9 : Tryz.prog.bytesOf 9 = 16 := by kernel_rfl
@[go_sem] theorem s9 : isStr Tryz.prog 9 = true := by kernel_rfl
@[go_sem] theorem j9 : isI32 Tryz.prog 9 = false := by kernel_rfl
@[go_sem] theorem w9 : isU8 Tryz.prog 9 = false := by kernel_rfl
@[go_sem] theorem o9 : tzero Tryz.prog 9 = some [.string ByteArray.empty] := by kernel_rfl
@[go_sem] theorem i9 : (Tryz.prog.info? 9).isSome = true := by kernel_rfl
attribute [go_sem] Tryz.underlying21
@[go_sem] theorem z21 : tsize Tryz.prog 21 = 1 := by kernel_rfl
@[go_sem] theorem k21 : ttag Tryz.prog 21 = some false := by kernel_rfl
@[go_sem] theorem y21 : Tryz.prog.bytesOf 21 = 4 := by kernel_rfl
@[go_sem] theorem s21 : isStr Tryz.prog 21 = false := by kernel_rfl
@[go_sem] theorem j21 : isI32 Tryz.prog 21 = true := by kernel_rfl
@[go_sem] theorem w21 : isU8 Tryz.prog 21 = false := by kernel_rfl
@[go_sem] theorem o21 : tzero Tryz.prog 21 = some [.int .i32 0] := by kernel_rfl
@[go_sem] theorem i21 : (Tryz.prog.info? 21).isSome = true := by kernel_rfl
attribute [go_sem] Tryz.underlying22
@[go_sem] theorem z22 : tsize Tryz.prog 22 = 1 := by kernel_rfl
@[go_sem] theorem k22 : ttag Tryz.prog 22 = some false := by kernel_rfl
@[go_sem] theorem y22 : Tryz.prog.bytesOf 22 = 24 := by kernel_rfl
@[go_sem] theorem s22 : isStr Tryz.prog 22 = false := by kernel_rfl
@[go_sem] theorem j22 : isI32 Tryz.prog 22 = false := by kernel_rfl
@[go_sem] theorem w22 : isU8 Tryz.prog 22 = false := by kernel_rfl
@[go_sem] theorem o22 : tzero Tryz.prog 22 = some [.slice none 0 0] := by kernel_rfl
@[go_sem] theorem i22 : (Tryz.prog.info? 22).isSome = true := by kernel_rfl
attribute [go_sem] Tryz.underlying24
@[go_sem] theorem z24 : tsize Tryz.prog 24 = 1 := by kernel_rfl
@[go_sem] theorem k24 : ttag Tryz.prog 24 = some false := by kernel_rfl
@[go_sem] theorem y24 : Tryz.prog.bytesOf 24 = 24 := by kernel_rfl
@[go_sem] theorem s24 : isStr Tryz.prog 24 = false := by kernel_rfl
@[go_sem] theorem j24 : isI32 Tryz.prog 24 = false := by kernel_rfl
@[go_sem] theorem w24 : isU8 Tryz.prog 24 = false := by kernel_rfl
@[go_sem] theorem o24 : tzero Tryz.prog 24 = some [.slice none 0 0] := by kernel_rfl
@[go_sem] theorem i24 : (Tryz.prog.info? 24).isSome = true := by kernel_rfl
attribute [go_sem] Tryz.underlying28
@[go_sem] theorem z28 : tsize Tryz.prog 28 = 1 := by kernel_rfl
@[go_sem] theorem k28 : ttag Tryz.prog 28 = some false := by kernel_rfl
@[go_sem] theorem y28 : Tryz.prog.bytesOf 28 = 24 := by kernel_rfl
@[go_sem] theorem s28 : isStr Tryz.prog 28 = false := by kernel_rfl
@[go_sem] theorem j28 : isI32 Tryz.prog 28 = false := by kernel_rfl
@[go_sem] theorem w28 : isU8 Tryz.prog 28 = false := by kernel_rfl
@[go_sem] theorem o28 : tzero Tryz.prog 28 = some [.slice none 0 0] := by kernel_rfl
@[go_sem] theorem i28 : (Tryz.prog.info? 28).isSome = true := by kernel_rfl
attribute [go_sem] Tryz.underlying32
@[go_sem] theorem z32 : tsize Tryz.prog 32 = 2 := by kernel_rfl
@[go_sem] theorem k32 : ttag Tryz.prog 32 = some true := by kernel_rfl
@[go_sem] theorem y32 : Tryz.prog.bytesOf 32 = 16 := by kernel_rfl
@[go_sem] theorem s32 : isStr Tryz.prog 32 = false := by kernel_rfl
@[go_sem] theorem j32 : isI32 Tryz.prog 32 = false := by kernel_rfl
@[go_sem] theorem w32 : isU8 Tryz.prog 32 = false := by kernel_rfl
@[go_sem] theorem o32 : tzero Tryz.prog 32 = some [.int .i64 0, .int .i64 0] := by kernel_rfl
@[go_sem] theorem i32 : (Tryz.prog.info? 32).isSome = true := by kernel_rfl
@[go_sem] theorem x32 : structOk Tryz.prog 32 = true := by kernel_rfl
@[go_sem] theorem g32x0 : fieldOff Tryz.prog 32 0 = some (0, 2) := by kernel_rfl
@[go_sem] theorem g32x1 : fieldOff Tryz.prog 32 1 = some (1, 2) := by kernel_rfl
attribute [go_sem] Tryz.underlying34
@[go_sem] theorem z34 : tsize Tryz.prog 34 = 6 := by kernel_rfl
@[go_sem] theorem k34 : ttag Tryz.prog 34 = some true := by kernel_rfl
@[go_sem] theorem y34 : Tryz.prog.bytesOf 34 = 48 := by kernel_rfl
@[go_sem] theorem s34 : isStr Tryz.prog 34 = false := by kernel_rfl
@[go_sem] theorem j34 : isI32 Tryz.prog 34 = false := by kernel_rfl
@[go_sem] theorem w34 : isU8 Tryz.prog 34 = false := by kernel_rfl
@[go_sem] theorem o34 : tzero Tryz.prog 34 = some [.int .i64 0, .string ByteArray.empty, .int .i64 0, .int .i64 0, .bool false, .bool false] := by kernel_rfl
@[go_sem] theorem i34 : (Tryz.prog.info? 34).isSome = true := by kernel_rfl
@[go_sem] theorem x34 : structOk Tryz.prog 34 = true := by kernel_rfl
@[go_sem] theorem g34x0 : fieldOff Tryz.prog 34 0 = some (0, 3) := by kernel_rfl
@[go_sem] theorem g34x1 : fieldOff Tryz.prog 34 1 = some (1, 9) := by kernel_rfl
@[go_sem] theorem g34x2 : fieldOff Tryz.prog 34 2 = some (2, 32) := by kernel_rfl
@[go_sem] theorem g34x3 : fieldOff Tryz.prog 34 3 = some (4, 4) := by kernel_rfl
@[go_sem] theorem g34x4 : fieldOff Tryz.prog 34 4 = some (5, 4) := by kernel_rfl
attribute [go_sem] Tryz.underlying45
@[go_sem] theorem z45 : tsize Tryz.prog 45 = 2 := by kernel_rfl
@[go_sem] theorem k45 : ttag Tryz.prog 45 = some true := by kernel_rfl
@[go_sem] theorem y45 : Tryz.prog.bytesOf 45 = 32 := by kernel_rfl
@[go_sem] theorem s45 : isStr Tryz.prog 45 = false := by kernel_rfl
@[go_sem] theorem j45 : isI32 Tryz.prog 45 = false := by kernel_rfl
@[go_sem] theorem w45 : isU8 Tryz.prog 45 = false := by kernel_rfl
@[go_sem] theorem o45 : tzero Tryz.prog 45 = some [.slice none 0 0, .int .i64 0] := by kernel_rfl
@[go_sem] theorem i45 : (Tryz.prog.info? 45).isSome = true := by kernel_rfl
@[go_sem] theorem x45 : structOk Tryz.prog 45 = true := by kernel_rfl
@[go_sem] theorem g45x0 : fieldOff Tryz.prog 45 0 = some (0, 22) := by kernel_rfl
@[go_sem] theorem g45x1 : fieldOff Tryz.prog 45 1 = some (1, 3) := by kernel_rfl
attribute [go_sem] Tryz.underlying47
@[go_sem] theorem z47 : tsize Tryz.prog 47 = 2 := by kernel_rfl
@[go_sem] theorem k47 : ttag Tryz.prog 47 = some true := by kernel_rfl
@[go_sem] theorem y47 : Tryz.prog.bytesOf 47 = 32 := by kernel_rfl
@[go_sem] theorem s47 : isStr Tryz.prog 47 = false := by kernel_rfl
@[go_sem] theorem j47 : isI32 Tryz.prog 47 = false := by kernel_rfl
@[go_sem] theorem w47 : isU8 Tryz.prog 47 = false := by kernel_rfl
@[go_sem] theorem o47 : tzero Tryz.prog 47 = some [.slice none 0 0, .int .i64 0] := by kernel_rfl
@[go_sem] theorem i47 : (Tryz.prog.info? 47).isSome = true := by kernel_rfl
@[go_sem] theorem x47 : structOk Tryz.prog 47 = true := by kernel_rfl
@[go_sem] theorem g47x0 : fieldOff Tryz.prog 47 0 = some (0, 45) := by kernel_rfl
attribute [go_sem] Tryz.underlying50
@[go_sem] theorem z50 : tsize Tryz.prog 50 = 1 := by kernel_rfl
@[go_sem] theorem k50 : ttag Tryz.prog 50 = some false := by kernel_rfl
@[go_sem] theorem y50 : Tryz.prog.bytesOf 50 = 8 := by kernel_rfl
@[go_sem] theorem s50 : isStr Tryz.prog 50 = false := by kernel_rfl
@[go_sem] theorem j50 : isI32 Tryz.prog 50 = false := by kernel_rfl
@[go_sem] theorem w50 : isU8 Tryz.prog 50 = false := by kernel_rfl
@[go_sem] theorem i50 : (Tryz.prog.info? 50).isSome = true := by kernel_rfl
attribute [go_sem] Tryz.underlying52
@[go_sem] theorem z52 : tsize Tryz.prog 52 = 2 := by kernel_rfl
@[go_sem] theorem k52 : ttag Tryz.prog 52 = some true := by kernel_rfl
@[go_sem] theorem y52 : Tryz.prog.bytesOf 52 = 32 := by kernel_rfl
@[go_sem] theorem s52 : isStr Tryz.prog 52 = false := by kernel_rfl
@[go_sem] theorem j52 : isI32 Tryz.prog 52 = false := by kernel_rfl
@[go_sem] theorem w52 : isU8 Tryz.prog 52 = false := by kernel_rfl
@[go_sem] theorem o52 : tzero Tryz.prog 52 = some [.slice none 0 0, .int .i64 0] := by kernel_rfl
@[go_sem] theorem i52 : (Tryz.prog.info? 52).isSome = true := by kernel_rfl
@[go_sem] theorem x52 : structOk Tryz.prog 52 = true := by kernel_rfl
@[go_sem] theorem g52x0 : fieldOff Tryz.prog 52 0 = some (0, 22) := by kernel_rfl
@[go_sem] theorem g52x1 : fieldOff Tryz.prog 52 1 = some (1, 3) := by kernel_rfl
attribute [go_sem] Tryz.underlying71
@[go_sem] theorem z71 : tsize Tryz.prog 71 = 1 := by kernel_rfl
@[go_sem] theorem k71 : ttag Tryz.prog 71 = some false := by kernel_rfl
@[go_sem] theorem y71 : Tryz.prog.bytesOf 71 = 8 := by kernel_rfl
@[go_sem] theorem s71 : isStr Tryz.prog 71 = false := by kernel_rfl
@[go_sem] theorem j71 : isI32 Tryz.prog 71 = false := by kernel_rfl
@[go_sem] theorem w71 : isU8 Tryz.prog 71 = false := by kernel_rfl
@[go_sem] theorem i71 : (Tryz.prog.info? 71).isSome = true := by kernel_rfl
attribute [go_sem] Tryz.underlying73
@[go_sem] theorem z73 : tsize Tryz.prog 73 = 1 := by kernel_rfl
@[go_sem] theorem k73 : ttag Tryz.prog 73 = some false := by kernel_rfl
@[go_sem] theorem y73 : Tryz.prog.bytesOf 73 = 8 := by kernel_rfl
@[go_sem] theorem s73 : isStr Tryz.prog 73 = false := by kernel_rfl
@[go_sem] theorem j73 : isI32 Tryz.prog 73 = false := by kernel_rfl
@[go_sem] theorem w73 : isU8 Tryz.prog 73 = false := by kernel_rfl
@[go_sem] theorem i73 : (Tryz.prog.info? 73).isSome = true := by kernel_rfl
attribute [go_sem] Tryz.underlying79
@[go_sem] theorem z79 : tsize Tryz.prog 79 = 9 := by kernel_rfl
@[go_sem] theorem k79 : ttag Tryz.prog 79 = some true := by kernel_rfl
@[go_sem] theorem y79 : Tryz.prog.bytesOf 79 = 72 := by kernel_rfl
@[go_sem] theorem s79 : isStr Tryz.prog 79 = false := by kernel_rfl
@[go_sem] theorem j79 : isI32 Tryz.prog 79 = false := by kernel_rfl
@[go_sem] theorem w79 : isU8 Tryz.prog 79 = false := by kernel_rfl
@[go_sem] theorem o79 : tzero Tryz.prog 79 = some [.int .i64 0, .int .i64 0, .int .i64 0, .int .i64 0, .int .i64 0, .int .i64 0, .int .i64 0, .int .i64 0, .int .i64 0] := by kernel_rfl
@[go_sem] theorem i79 : (Tryz.prog.info? 79).isSome = true := by kernel_rfl
attribute [go_sem] Tryz.underlying90
@[go_sem] theorem z90 : tsize Tryz.prog 90 = 1 := by kernel_rfl
@[go_sem] theorem k90 : ttag Tryz.prog 90 = some false := by kernel_rfl
@[go_sem] theorem y90 : Tryz.prog.bytesOf 90 = 8 := by kernel_rfl
@[go_sem] theorem s90 : isStr Tryz.prog 90 = false := by kernel_rfl
@[go_sem] theorem j90 : isI32 Tryz.prog 90 = false := by kernel_rfl
@[go_sem] theorem w90 : isU8 Tryz.prog 90 = false := by kernel_rfl
@[go_sem] theorem o90 : tzero Tryz.prog 90 = some [.int .u64 0] := by kernel_rfl
@[go_sem] theorem i90 : (Tryz.prog.info? 90).isSome = true := by kernel_rfl
attribute [go_sem] Tryz.underlying101
@[go_sem] theorem z101 : tsize Tryz.prog 101 = 1 := by kernel_rfl
@[go_sem] theorem k101 : ttag Tryz.prog 101 = some false := by kernel_rfl
@[go_sem] theorem y101 : Tryz.prog.bytesOf 101 = 8 := by kernel_rfl
@[go_sem] theorem s101 : isStr Tryz.prog 101 = false := by kernel_rfl
@[go_sem] theorem j101 : isI32 Tryz.prog 101 = false := by kernel_rfl
@[go_sem] theorem w101 : isU8 Tryz.prog 101 = false := by kernel_rfl
@[go_sem] theorem o101 : tzero Tryz.prog 101 = some [.int .u64 0] := by kernel_rfl
@[go_sem] theorem i101 : (Tryz.prog.info? 101).isSome = true := by kernel_rfl
attribute [go_sem] Tryz.underlying116
@[go_sem] theorem z116 : tsize Tryz.prog 116 = 256 := by kernel_rfl
@[go_sem] theorem k116 : ttag Tryz.prog 116 = some true := by kernel_rfl
@[go_sem] theorem y116 : Tryz.prog.bytesOf 116 = 256 := by kernel_rfl
@[go_sem] theorem s116 : isStr Tryz.prog 116 = false := by kernel_rfl
@[go_sem] theorem j116 : isI32 Tryz.prog 116 = false := by kernel_rfl
@[go_sem] theorem w116 : isU8 Tryz.prog 116 = false := by kernel_rfl
@[go_sem] theorem o116 : tzero Tryz.prog 116 = some [.bool false, .bool false, .bool false, .bool false, .bool false, .bool false, .bool false, .bool false, .bool false, .bool false, .bool false, .bool false, .bool false, .bool false, .bool false, .bool false, .bool false, .bool false, .bool false, .bool false, .bool false, .bool false, .bool false, .bool false, .bool false, .bool false, .bool false, .bool false, .bool false, .bool false, .bool false, .bool false, .bool false, .bool false, .bool false, .bool false, .bool false, .bool false, .bool false, .bool false, .bool false, .bool false, .bool false, .bool false, .bool false, .bool false, .bool false, .bool false, .bool false, .bool false, .bool false, .bool false, .bool false, .bool false, .bool false, .bool false, .bool false, .bool false, .bool false, .bool false, .bool false, .bool false, .bool false, .bool false, .bool false, .bool false, .bool false, .bool false, .bool false, .bool false, .bool false, .bool false, .bool false, .bool false, .bool false, .bool false, .bool false, .bool false, .bool false, .bool false, .bool false, .bool false, .bool false, .bool false, .bool false, .bool false, .bool false, .bool false, .bool false, .bool false, .bool false, .bool false, .bool false, .bool false, .bool false, .bool false, .bool false, .bool false, .bool false, .bool false, .bool false, .bool false, .bool false, .bool false, .bool false, .bool false, .bool false, .bool false, .bool false, .bool false, .bool false, .bool false, .bool false, .bool false, .bool false, .bool false, .bool false, .bool false, .bool false, .bool false, .bool false, .bool false, .bool false, .bool false, .bool false, .bool false, .bool false, .bool false, .bool false, .bool false, .bool false, .bool false, .bool false, .bool false, .bool false, .bool false, .bool false, .bool false, .bool false, .bool false, .bool false, .bool false, .bool false, .bool false, .bool false, .bool false, .bool false, .bool false, .bool false, .bool false, .bool false, .bool false, .bool false, .bool false, .bool false, .bool false, .bool false, .bool false, .bool false, .bool false, .bool false, .bool false, .bool false, .bool false, .bool false, .bool false, .bool false, .bool false, .bool false, .bool false, .bool false, .bool false, .bool false, .bool false, .bool false, .bool false, .bool false, .bool false, .bool false, .bool false, .bool false, .bool false, .bool false, .bool false, .bool false, .bool false, .bool false, .bool false, .bool false, .bool false, .bool false, .bool false, .bool false, .bool false, .bool false, .bool false, .bool false, .bool false, .bool false, .bool false, .bool false, .bool false, .bool false, .bool false, .bool false, .bool false, .bool false, .bool false, .bool false, .bool false, .bool false, .bool false, .bool false, .bool false, .bool false, .bool false, .bool false, .bool false, .bool false, .bool false, .bool false, .bool false, .bool false, .bool false, .bool false, .bool false, .bool false, .bool false, .bool false, .bool false, .bool false, .bool false, .bool false, .bool false, .bool false, .bool false, .bool false, .bool false, .bool false, .bool false, .bool false, .bool false, .bool false, .bool false, .bool false, .bool false, .bool false, .bool false, .bool false, .bool false, .bool false, .bool false, .bool false, .bool false, .bool false, .bool false] := by kernel_rfl
@[go_sem] theorem i116 : (Tryz.prog.info? 116).isSome = true := by kernel_rfl
attribute [go_sem] Tryz.underlying127
@[go_sem] theorem z127 : tsize Tryz.prog 127 = 5 := by kernel_rfl
@[go_sem] theorem k127 : ttag Tryz.prog 127 = some true := by kernel_rfl
@[go_sem] theorem y127 : Tryz.prog.bytesOf 127 = 48 := by kernel_rfl
@[go_sem] theorem s127 : isStr Tryz.prog 127 = false := by kernel_rfl
@[go_sem] theorem j127 : isI32 Tryz.prog 127 = false := by kernel_rfl
@[go_sem] theorem w127 : isU8 Tryz.prog 127 = false := by kernel_rfl
@[go_sem] theorem o127 : tzero Tryz.prog 127 = some [.bool false, .string ByteArray.empty, .int .i64 0, .int .i64 0, .bool false] := by kernel_rfl
@[go_sem] theorem i127 : (Tryz.prog.info? 127).isSome = true := by kernel_rfl
@[go_sem] theorem x127 : structOk Tryz.prog 127 = true := by kernel_rfl
@[go_sem] theorem g127x0 : fieldOff Tryz.prog 127 0 = some (0, 4) := by kernel_rfl
@[go_sem] theorem g127x1 : fieldOff Tryz.prog 127 1 = some (1, 9) := by kernel_rfl
@[go_sem] theorem g127x2 : fieldOff Tryz.prog 127 2 = some (2, 2) := by kernel_rfl
@[go_sem] theorem g127x3 : fieldOff Tryz.prog 127 3 = some (3, 2) := by kernel_rfl
@[go_sem] theorem g127x4 : fieldOff Tryz.prog 127 4 = some (4, 4) := by kernel_rfl
attribute [go_sem] Tryz.underlying153
@[go_sem] theorem z153 : tsize Tryz.prog 153 = 1 := by kernel_rfl
@[go_sem] theorem k153 : ttag Tryz.prog 153 = some false := by kernel_rfl
@[go_sem] theorem y153 : Tryz.prog.bytesOf 153 = 24 := by kernel_rfl
@[go_sem] theorem s153 : isStr Tryz.prog 153 = false := by kernel_rfl
@[go_sem] theorem j153 : isI32 Tryz.prog 153 = false := by kernel_rfl
@[go_sem] theorem w153 : isU8 Tryz.prog 153 = false := by kernel_rfl
@[go_sem] theorem o153 : tzero Tryz.prog 153 = some [.slice none 0 0] := by kernel_rfl
@[go_sem] theorem i153 : (Tryz.prog.info? 153).isSome = true := by kernel_rfl

def h3 : Hint := ⟨(fun id => match id with | 0 => some [0] | 1 => some [2] | _ => none), (fun _ => none), (fun _ => none), [], false, (fun _ => none)⟩
@[go_sem] theorem h3x : h3.mix = (fun _ => none) := rfl
@[go_sem] theorem h3l : h3.live = (fun id => match id with | 0 => some [0] | 1 => some [2] | _ => none) := rfl
@[go_sem] theorem h3k : h3.keep = (fun _ => none) := rfl
@[go_sem] theorem h3t : h3.tail = (fun _ => none) := rfl
@[go_sem] theorem h3v : h3.vars = [] := rfl
@[go_sem] theorem h3m : h3.mutc = false := rfl
def h4 : Hint := ⟨(fun id => match id with | 0 => some [0] | 1 => some [2] | _ => none), (fun _ => none), (fun _ => none), [], false, (fun _ => none)⟩
@[go_sem] theorem h4x : h4.mix = (fun _ => none) := rfl
@[go_sem] theorem h4l : h4.live = (fun id => match id with | 0 => some [0] | 1 => some [2] | _ => none) := rfl
@[go_sem] theorem h4k : h4.keep = (fun _ => none) := rfl
@[go_sem] theorem h4t : h4.tail = (fun _ => none) := rfl
@[go_sem] theorem h4v : h4.vars = [] := rfl
@[go_sem] theorem h4m : h4.mutc = false := rfl
def h11 : Hint := ⟨(fun id => match id with | 0 => some [0, 1] | 1 => some [0, 1, 10] | 2 => some [4] | 3 => some [0, 1, 12, 13] | 4 => some [0, 1, 12, 13, 14] | 5 => some [0, 1, 5, 12, 13] | 6 => some [0, 1, 12, 13, 24] | 7 => some [4] | 8 => some [0, 1, 12, 13] | 9 => some [4] | _ => none), (fun _ => none), (fun id => match id with | 6 => some 9 | _ => none), [], false, (fun _ => none)⟩
@[go_sem] theorem h11x : h11.mix = (fun _ => none) := rfl
@[go_sem] theorem h11l : h11.live = (fun id => match id with | 0 => some [0, 1] | 1 => some [0, 1, 10] | 2 => some [4] | 3 => some [0, 1, 12, 13] | 4 => some [0, 1, 12, 13, 14] | 5 => some [0, 1, 5, 12, 13] | 6 => some [0, 1, 12, 13, 24] | 7 => some [4] | 8 => some [0, 1, 12, 13] | 9 => some [4] | _ => none) := rfl
@[go_sem] theorem h11k : h11.keep = (fun _ => none) := rfl
@[go_sem] theorem h11t : h11.tail = (fun id => match id with | 6 => some 9 | _ => none) := rfl
@[go_sem] theorem h11v : h11.vars = [] := rfl
@[go_sem] theorem h11m : h11.mutc = false := rfl
def h12 : Hint := ⟨(fun id => match id with | 0 => some [0] | 1 => some [3] | 2 => some [3, 4] | 3 => some [3, 4] | 4 => some [3, 4, 12] | 5 => some [2] | 6 => some [3, 4] | _ => none), (fun _ => none), (fun _ => none), [4], false, (fun _ => none)⟩
@[go_sem] theorem h12x : h12.mix = (fun _ => none) := rfl
@[go_sem] theorem h12l : h12.live = (fun id => match id with | 0 => some [0] | 1 => some [3] | 2 => some [3, 4] | 3 => some [3, 4] | 4 => some [3, 4, 12] | 5 => some [2] | 6 => some [3, 4] | _ => none) := rfl
@[go_sem] theorem h12k : h12.keep = (fun _ => none) := rfl
@[go_sem] theorem h12t : h12.tail = (fun _ => none) := rfl
@[go_sem] theorem h12v : h12.vars = [4] := rfl
@[go_sem] theorem h12m : h12.mutc = false := rfl
def h13 : Hint := ⟨(fun id => match id with | 0 => some [0] | 1 => some [0, 3] | 2 => some [3, 4] | 3 => some [3, 4] | 4 => some [3, 4, 12] | 5 => some [2] | 6 => some [3, 4] | _ => none), (fun _ => none), (fun _ => none), [3], false, (fun _ => none)⟩
@[go_sem] theorem h13x : h13.mix = (fun _ => none) := rfl
@[go_sem] theorem h13l : h13.live = (fun id => match id with | 0 => some [0] | 1 => some [0, 3] | 2 => some [3, 4] | 3 => some [3, 4] | 4 => some [3, 4, 12] | 5 => some [2] | 6 => some [3, 4] | _ => none) := rfl
@[go_sem] theorem h13k : h13.keep = (fun _ => none) := rfl
@[go_sem] theorem h13t : h13.tail = (fun _ => none) := rfl
@[go_sem] theorem h13v : h13.vars = [3] := rfl
@[go_sem] theorem h13m : h13.mutc = false := rfl
def h14 : Hint := ⟨(fun id => match id with | 0 => some [] | 1 => some [1] | 2 => some [0] | _ => none), (fun _ => none), (fun _ => none), [], false, (fun _ => none)⟩
@[go_sem] theorem h14x : h14.mix = (fun _ => none) := rfl
@[go_sem] theorem h14l : h14.live = (fun id => match id with | 0 => some [] | 1 => some [1] | 2 => some [0] | _ => none) := rfl
@[go_sem] theorem h14k : h14.keep = (fun _ => none) := rfl
@[go_sem] theorem h14t : h14.tail = (fun _ => none) := rfl
@[go_sem] theorem h14v : h14.vars = [] := rfl
@[go_sem] theorem h14m : h14.mutc = false := rfl
def h15 : Hint := ⟨(fun id => match id with | 0 => some [0] | 1 => some [2] | _ => none), (fun _ => none), (fun _ => none), [], false, (fun _ => none)⟩
@[go_sem] theorem h15x : h15.mix = (fun _ => none) := rfl
@[go_sem] theorem h15l : h15.live = (fun id => match id with | 0 => some [0] | 1 => some [2] | _ => none) := rfl
@[go_sem] theorem h15k : h15.keep = (fun _ => none) := rfl
@[go_sem] theorem h15t : h15.tail = (fun _ => none) := rfl
@[go_sem] theorem h15v : h15.vars = [] := rfl
@[go_sem] theorem h15m : h15.mutc = false := rfl
def h16 : Hint := ⟨(fun id => match id with | 0 => some [0] | 1 => some [2] | _ => none), (fun _ => none), (fun _ => none), [], false, (fun _ => none)⟩
@[go_sem] theorem h16x : h16.mix = (fun _ => none) := rfl
@[go_sem] theorem h16l : h16.live = (fun id => match id with | 0 => some [0] | 1 => some [2] | _ => none) := rfl
@[go_sem] theorem h16k : h16.keep = (fun _ => none) := rfl
@[go_sem] theorem h16t : h16.tail = (fun _ => none) := rfl
@[go_sem] theorem h16v : h16.vars = [] := rfl
@[go_sem] theorem h16m : h16.mutc = false := rfl
def h24 : Hint := ⟨(fun id => match id with | 0 => some [0, 1] | 1 => some [4] | _ => none), (fun _ => none), (fun _ => none), [], false, (fun _ => none)⟩
@[go_sem] theorem h24x : h24.mix = (fun _ => none) := rfl
@[go_sem] theorem h24l : h24.live = (fun id => match id with | 0 => some [0, 1] | 1 => some [4] | _ => none) := rfl
@[go_sem] theorem h24k : h24.keep = (fun _ => none) := rfl
@[go_sem] theorem h24t : h24.tail = (fun _ => none) := rfl
@[go_sem] theorem h24v : h24.vars = [] := rfl
@[go_sem] theorem h24m : h24.mutc = false := rfl
def h25 : Hint := ⟨(fun id => match id with | 0 => some [0, 4] | 1 => some [0] | 2 => some [0, 20] | 3 => some [0] | 4 => some [0, 30] | 5 => some [0] | _ => none), (fun _ => none), (fun _ => none), [], false, (fun _ => none)⟩
@[go_sem] theorem h25x : h25.mix = (fun _ => none) := rfl
@[go_sem] theorem h25l : h25.live = (fun id => match id with | 0 => some [0, 4] | 1 => some [0] | 2 => some [0, 20] | 3 => some [0] | 4 => some [0, 30] | 5 => some [0] | _ => none) := rfl
@[go_sem] theorem h25k : h25.keep = (fun _ => none) := rfl
@[go_sem] theorem h25t : h25.tail = (fun _ => none) := rfl
@[go_sem] theorem h25v : h25.vars = [] := rfl
@[go_sem] theorem h25m : h25.mutc = false := rfl
def h26 : Hint := ⟨(fun id => match id with | 0 => some [0, 1] | 1 => some [0, 1, 17] | 2 => some [4] | 3 => some [5] | 4 => some [5, 43] | 5 => some [4] | 6 => some [4] | _ => none), (fun _ => none), (fun id => match id with | 1 => some 12 | 3 => some 12 | _ => none), [], false, (fun _ => none)⟩
@[go_sem] theorem h26x : h26.mix = (fun _ => none) := rfl
@[go_sem] theorem h26l : h26.live = (fun id => match id with | 0 => some [0, 1] | 1 => some [0, 1, 17] | 2 => some [4] | 3 => some [5] | 4 => some [5, 43] | 5 => some [4] | 6 => some [4] | _ => none) := rfl
@[go_sem] theorem h26k : h26.keep = (fun _ => none) := rfl
@[go_sem] theorem h26t : h26.tail = (fun id => match id with | 1 => some 12 | 3 => some 12 | _ => none) := rfl
@[go_sem] theorem h26v : h26.vars = [] := rfl
@[go_sem] theorem h26m : h26.mutc = false := rfl
def h27 : Hint := ⟨(fun id => match id with | 0 => some [0, 2] | 1 => some [0, 2, 3] | 2 => some [0, 2, 3, 9] | 3 => some [2] | 4 => some [2] | 5 => some [0, 2, 3, 17] | 6 => some [2] | 7 => some [0, 2, 3, 26] | 8 => some [2, 3] | 9 => some [2] | 10 => some [0, 2, 3, 42] | 11 => some [2] | 12 => some [0, 2, 3, 65] | 13 => some [2] | 14 => some [2] | 15 => some [0, 2, 3, 81] | 16 => some [2] | 17 => some [2] | 18 => some [0, 2, 3, 97] | 19 => some [0, 2, 4] | 20 => some [0, 2, 4] | 21 => some [2] | 22 => some [0, 2, 132] | 23 => some [0, 2] | 24 => some [2] | 25 => some [0, 2, 155] | 26 => some [2] | 27 => some [2] | _ => none), (fun _ => none), (fun _ => none), [], false, (fun _ => none)⟩
@[go_sem] theorem h27x : h27.mix = (fun _ => none) := rfl
@[go_sem] theorem h27l : h27.live = (fun id => match id with | 0 => some [0, 2] | 1 => some [0, 2, 3] | 2 => some [0, 2, 3, 9] | 3 => some [2] | 4 => some [2] | 5 => some [0, 2, 3, 17] | 6 => some [2] | 7 => some [0, 2, 3, 26] | 8 => some [2, 3] | 9 => some [2] | 10 => some [0, 2, 3, 42] | 11 => some [2] | 12 => some [0, 2, 3, 65] | 13 => some [2] | 14 => some [2] | 15 => some [0, 2, 3, 81] | 16 => some [2] | 17 => some [2] | 18 => some [0, 2, 3, 97] | 19 => some [0, 2, 4] | 20 => some [0, 2, 4] | 21 => some [2] | 22 => some [0, 2, 132] | 23 => some [0, 2] | 24 => some [2] | 25 => some [0, 2, 155] | 26 => some [2] | 27 => some [2] | _ => none) := rfl
@[go_sem] theorem h27k : h27.keep = (fun _ => none) := rfl
@[go_sem] theorem h27t : h27.tail = (fun _ => none) := rfl
@[go_sem] theorem h27v : h27.vars = [] := rfl
@[go_sem] theorem h27m : h27.mutc = false := rfl
def h28 : Hint := ⟨(fun id => match id with | 0 => some [0, 9] | 1 => some [0] | 2 => some [0, 29] | 3 => some [0] | 4 => some [0] | _ => none), (fun _ => none), (fun _ => none), [], false, (fun _ => none)⟩
@[go_sem] theorem h28x : h28.mix = (fun _ => none) := rfl
@[go_sem] theorem h28l : h28.live = (fun id => match id with | 0 => some [0, 9] | 1 => some [0] | 2 => some [0, 29] | 3 => some [0] | 4 => some [0] | _ => none) := rfl
@[go_sem] theorem h28k : h28.keep = (fun _ => none) := rfl
@[go_sem] theorem h28t : h28.tail = (fun _ => none) := rfl
@[go_sem] theorem h28v : h28.vars = [] := rfl
@[go_sem] theorem h28m : h28.mutc = false := rfl
def h29 : Hint := ⟨(fun id => match id with | 0 => some [0, 1] | 1 => some [0, 1, 17] | 2 => some [4] | 3 => some [5] | 4 => some [5, 31] | 5 => some [4] | 6 => some [4] | _ => none), (fun _ => none), (fun id => match id with | 1 => some 12 | 3 => some 12 | _ => none), [], false, (fun _ => none)⟩
@[go_sem] theorem h29x : h29.mix = (fun _ => none) := rfl
@[go_sem] theorem h29l : h29.live = (fun id => match id with | 0 => some [0, 1] | 1 => some [0, 1, 17] | 2 => some [4] | 3 => some [5] | 4 => some [5, 31] | 5 => some [4] | 6 => some [4] | _ => none) := rfl
@[go_sem] theorem h29k : h29.keep = (fun _ => none) := rfl
@[go_sem] theorem h29t : h29.tail = (fun id => match id with | 1 => some 12 | 3 => some 12 | _ => none) := rfl
@[go_sem] theorem h29v : h29.vars = [] := rfl
@[go_sem] theorem h29m : h29.mutc = false := rfl
def h30 : Hint := ⟨(fun id => match id with | 0 => some [0, 2] | 1 => some [0, 2, 3, 4, 5] | 2 => some [0, 2, 3, 4, 5, 14] | 3 => some [0, 2, 3, 4, 5, 14, 15] | 4 => some [0, 2, 3, 4, 5, 6, 14] | 5 => some [0, 2, 3, 4, 5, 6, 14, 21] | 6 => some [2, 6] | 7 => some [2] | 8 => some [0, 2, 3, 4, 5, 14] | 9 => some [0, 2, 3, 4, 5, 34] | 10 => some [2] | 11 => some [2] | 12 => some [0, 2, 3, 4, 5, 40] | 13 => some [0, 2, 3] | 14 => some [2] | 15 => some [0, 2, 3, 4, 5, 57] | 16 => some [0, 2, 4, 5] | 17 => some [0, 2, 7] | 18 => some [2] | 19 => some [0, 2, 3, 4, 5, 89] | 20 => some [2] | 21 => some [0, 2, 3, 4, 5, 96] | 22 => some [2] | 23 => some [2] | 24 => some [0, 2, 3, 4, 5, 115] | 25 => some [2] | 26 => some [2] | 27 => some [0, 2, 3, 4, 5, 139] | 28 => some [0, 2] | 29 => some [2] | 30 => some [0, 2, 3, 159] | 31 => some [2] | 32 => some [2, 3] | 33 => some [2] | _ => none), (fun _ => none), (fun _ => none), [], false, (fun _ => none)⟩
@[go_sem] theorem h30x : h30.mix = (fun _ => none) := rfl
@[go_sem] theorem h30l : h30.live = (fun id => match id with | 0 => some [0, 2] | 1 => some [0, 2, 3, 4, 5] | 2 => some [0, 2, 3, 4, 5, 14] | 3 => some [0, 2, 3, 4, 5, 14, 15] | 4 => some [0, 2, 3, 4, 5, 6, 14] | 5 => some [0, 2, 3, 4, 5, 6, 14, 21] | 6 => some [2, 6] | 7 => some [2] | 8 => some [0, 2, 3, 4, 5, 14] | 9 => some [0, 2, 3, 4, 5, 34] | 10 => some [2] | 11 => some [2] | 12 => some [0, 2, 3, 4, 5, 40] | 13 => some [0, 2, 3] | 14 => some [2] | 15 => some [0, 2, 3, 4, 5, 57] | 16 => some [0, 2, 4, 5] | 17 => some [0, 2, 7] | 18 => some [2] | 19 => some [0, 2, 3, 4, 5, 89] | 20 => some [2] | 21 => some [0, 2, 3, 4, 5, 96] | 22 => some [2] | 23 => some [2] | 24 => some [0, 2, 3, 4, 5, 115] | 25 => some [2] | 26 => some [2] | 27 => some [0, 2, 3, 4, 5, 139] | 28 => some [0, 2] | 29 => some [2] | 30 => some [0, 2, 3, 159] | 31 => some [2] | 32 => some [2, 3] | 33 => some [2] | _ => none) := rfl
@[go_sem] theorem h30k : h30.keep = (fun _ => none) := rfl
@[go_sem] theorem h30t : h30.tail = (fun _ => none) := rfl
@[go_sem] theorem h30v : h30.vars = [] := rfl
@[go_sem] theorem h30m : h30.mutc = false := rfl
def h31 : Hint := ⟨(fun id => match id with | 0 => some [0] | 1 => some [0, 28] | 2 => some [0, 28] | 3 => some [0, 3] | 4 => some [0, 3, 4] | 5 => some [3, 4, 32, 33, 34] | 6 => some [3, 4, 32, 33, 34, 35] | 7 => some [3, 4, 6, 32, 33, 34] | 8 => some [3, 6, 7, 32, 33, 34] | 9 => some [3, 4, 6, 7, 32, 33, 34] | 10 => some [3, 4, 6, 7, 32, 33, 34, 41] | 11 => some [3, 4, 6, 7, 32, 33, 34, 41, 42] | 12 => some [3, 4, 6, 32, 33, 34, 44] | 13 => some [3, 4, 6, 32, 33, 34, 41, 45] | 14 => some [3, 4, 6, 32, 33, 34, 41, 45] | 15 => some [3, 4, 6, 7, 32, 33, 34, 41, 42] | 16 => some [3, 4, 6, 32, 33, 34, 48] | 17 => some [3, 4, 6, 7, 32, 33, 34, 41, 42] | 18 => some [3, 4, 32, 33, 34] | 19 => some [3, 4, 32, 33, 34] | 20 => some [2] | _ => none), (fun _ => none), (fun _ => none), [3], false, (fun _ => none)⟩
@[go_sem] theorem h31x : h31.mix = (fun _ => none) := rfl
@[go_sem] theorem h31l : h31.live = (fun id => match id with | 0 => some [0] | 1 => some [0, 28] | 2 => some [0, 28] | 3 => some [0, 3] | 4 => some [0, 3, 4] | 5 => some [3, 4, 32, 33, 34] | 6 => some [3, 4, 32, 33, 34, 35] | 7 => some [3, 4, 6, 32, 33, 34] | 8 => some [3, 6, 7, 32, 33, 34] | 9 => some [3, 4, 6, 7, 32, 33, 34] | 10 => some [3, 4, 6, 7, 32, 33, 34, 41] | 11 => some [3, 4, 6, 7, 32, 33, 34, 41, 42] | 12 => some [3, 4, 6, 32, 33, 34, 44] | 13 => some [3, 4, 6, 32, 33, 34, 41, 45] | 14 => some [3, 4, 6, 32, 33, 34, 41, 45] | 15 => some [3, 4, 6, 7, 32, 33, 34, 41, 42] | 16 => some [3, 4, 6, 32, 33, 34, 48] | 17 => some [3, 4, 6, 7, 32, 33, 34, 41, 42] | 18 => some [3, 4, 32, 33, 34] | 19 => some [3, 4, 32, 33, 34] | 20 => some [2] | _ => none) := rfl
@[go_sem] theorem h31k : h31.keep = (fun _ => none) := rfl
@[go_sem] theorem h31t : h31.tail = (fun _ => none) := rfl
@[go_sem] theorem h31v : h31.vars = [3] := rfl
@[go_sem] theorem h31m : h31.mutc = false := rfl
def h32 : Hint := ⟨(fun id => match id with | 0 => some [0] | 1 => some [0, 28] | 2 => some [0, 28] | 3 => some [0, 3] | 4 => some [0, 3, 4] | 5 => some [3, 4, 32, 33, 34] | 6 => some [3, 4, 32, 33, 34, 35] | 7 => some [3, 4, 6, 32, 33, 34] | 8 => some [3, 4, 6, 7, 32, 33, 34] | 9 => some [3, 4, 6, 7, 32, 33, 34, 39] | 10 => some [3, 4, 6, 7, 32, 33, 34, 39, 40] | 11 => some [3, 4, 6, 7, 32, 33, 34, 39, 40] | 12 => some [3, 4, 6, 7, 32, 33, 34, 39, 40] | 13 => some [3, 4, 6, 7, 32, 33, 34, 43] | 14 => some [3, 4, 6, 7, 32, 33, 34, 39, 40] | 15 => some [3, 6, 7, 32, 33, 34, 50] | 16 => some [3, 6, 7, 32, 33, 34, 50] | 17 => some [3, 4, 32, 33, 34] | 18 => some [3, 4, 32, 33, 34] | 19 => some [2] | _ => none), (fun _ => none), (fun _ => none), [3], false, (fun _ => none)⟩
@[go_sem] theorem h32x : h32.mix = (fun _ => none) := rfl
@[go_sem] theorem h32l : h32.live = (fun id => match id with | 0 => some [0] | 1 => some [0, 28] | 2 => some [0, 28] | 3 => some [0, 3] | 4 => some [0, 3, 4] | 5 => some [3, 4, 32, 33, 34] | 6 => some [3, 4, 32, 33, 34, 35] | 7 => some [3, 4, 6, 32, 33, 34] | 8 => some [3, 4, 6, 7, 32, 33, 34] | 9 => some [3, 4, 6, 7, 32, 33, 34, 39] | 10 => some [3, 4, 6, 7, 32, 33, 34, 39, 40] | 11 => some [3, 4, 6, 7, 32, 33, 34, 39, 40] | 12 => some [3, 4, 6, 7, 32, 33, 34, 39, 40] | 13 => some [3, 4, 6, 7, 32, 33, 34, 43] | 14 => some [3, 4, 6, 7, 32, 33, 34, 39, 40] | 15 => some [3, 6, 7, 32, 33, 34, 50] | 16 => some [3, 6, 7, 32, 33, 34, 50] | 17 => some [3, 4, 32, 33, 34] | 18 => some [3, 4, 32, 33, 34] | 19 => some [2] | _ => none) := rfl
@[go_sem] theorem h32k : h32.keep = (fun _ => none) := rfl
@[go_sem] theorem h32t : h32.tail = (fun _ => none) := rfl
@[go_sem] theorem h32v : h32.vars = [3] := rfl
@[go_sem] theorem h32m : h32.mutc = false := rfl
def h55 : Hint := ⟨(fun id => match id with | 0 => some [0] | 1 => some [3] | 2 => some [3, 8, 9, 10] | 3 => some [3, 8, 9, 10, 11] | 4 => some [3, 4, 5, 8, 9, 10] | 5 => some [3, 4, 5, 8, 9, 10, 20] | 6 => some [3, 4, 5, 8, 9, 10, 20] | 7 => some [3, 8, 9, 10] | 8 => some [2] | _ => none), (fun _ => none), (fun _ => none), [], true, (fun _ => none)⟩
@[go_sem] theorem h55x : h55.mix = (fun _ => none) := rfl
@[go_sem] theorem h55l : h55.live = (fun id => match id with | 0 => some [0] | 1 => some [3] | 2 => some [3, 8, 9, 10] | 3 => some [3, 8, 9, 10, 11] | 4 => some [3, 4, 5, 8, 9, 10] | 5 => some [3, 4, 5, 8, 9, 10, 20] | 6 => some [3, 4, 5, 8, 9, 10, 20] | 7 => some [3, 8, 9, 10] | 8 => some [2] | _ => none) := rfl
@[go_sem] theorem h55k : h55.keep = (fun _ => none) := rfl
@[go_sem] theorem h55t : h55.tail = (fun _ => none) := rfl
@[go_sem] theorem h55v : h55.vars = [] := rfl
@[go_sem] theorem h55m : h55.mutc = true := rfl
def h56 : Hint := ⟨(fun id => match id with | 0 => some [0, 1] | 1 => some [0, 7, 8, 9] | 2 => some [0, 7, 8, 9, 10] | 3 => some [0, 5, 6, 7, 8, 9] | 4 => some [0, 7, 8, 9, 18] | 5 => some [4] | 6 => some [0, 7, 8, 9] | 7 => some [4] | _ => none), (fun _ => none), (fun _ => none), [], false, (fun _ => none)⟩
@[go_sem] theorem h56x : h56.mix = (fun _ => none) := rfl
@[go_sem] theorem h56l : h56.live = (fun id => match id with | 0 => some [0, 1] | 1 => some [0, 7, 8, 9] | 2 => some [0, 7, 8, 9, 10] | 3 => some [0, 5, 6, 7, 8, 9] | 4 => some [0, 7, 8, 9, 18] | 5 => some [4] | 6 => some [0, 7, 8, 9] | 7 => some [4] | _ => none) := rfl
@[go_sem] theorem h56k : h56.keep = (fun _ => none) := rfl
@[go_sem] theorem h56t : h56.tail = (fun _ => none) := rfl
@[go_sem] theorem h56v : h56.vars = [] := rfl
@[go_sem] theorem h56m : h56.mutc = false := rfl
def h57 : Hint := ⟨(fun id => match id with | 0 => some [0] | 1 => some [2] | _ => none), (fun _ => none), (fun _ => none), [], false, (fun _ => none)⟩
@[go_sem] theorem h57x : h57.mix = (fun _ => none) := rfl
@[go_sem] theorem h57l : h57.live = (fun id => match id with | 0 => some [0] | 1 => some [2] | _ => none) := rfl
@[go_sem] theorem h57k : h57.keep = (fun _ => none) := rfl
@[go_sem] theorem h57t : h57.tail = (fun _ => none) := rfl
@[go_sem] theorem h57v : h57.vars = [] := rfl
@[go_sem] theorem h57m : h57.mutc = false := rfl
def h58 : Hint := ⟨(fun id => match id with | 0 => some [0, 4] | 1 => some [0] | _ => none), (fun _ => none), (fun _ => none), [], false, (fun _ => none)⟩
@[go_sem] theorem h58x : h58.mix = (fun _ => none) := rfl
@[go_sem] theorem h58l : h58.live = (fun id => match id with | 0 => some [0, 4] | 1 => some [0] | _ => none) := rfl
@[go_sem] theorem h58k : h58.keep = (fun _ => none) := rfl
@[go_sem] theorem h58t : h58.tail = (fun _ => none) := rfl
@[go_sem] theorem h58v : h58.vars = [] := rfl
@[go_sem] theorem h58m : h58.mutc = false := rfl
def h59 : Hint := ⟨(fun id => match id with | 0 => some [0, 2] | 1 => some [0, 2, 3] | 2 => some [0, 2, 3, 4] | 3 => some [0, 2, 3, 4, 5] | 4 => some [0, 2, 3, 4] | 5 => some [0, 2, 3, 4, 5, 21] | 6 => some [2] | 7 => some [0, 2, 3, 4, 5, 25] | 8 => some [2] | 9 => some [0, 2, 3, 4, 5, 32] | 10 => some [2, 4] | 11 => some [2] | 12 => some [0, 2, 3, 4, 5, 49] | 13 => some [0, 2, 3, 4] | 14 => some [0, 2, 3, 4, 83] | 15 => some [0, 2, 3, 4] | 16 => some [0, 2, 3, 4] | _ => none), (fun _ => none), (fun id => match id with | 13 => some 17 | _ => none), [4], false, (fun _ => none)⟩
@[go_sem] theorem h59x : h59.mix = (fun _ => none) := rfl
@[go_sem] theorem h59l : h59.live = (fun id => match id with | 0 => some [0, 2] | 1 => some [0, 2, 3] | 2 => some [0, 2, 3, 4] | 3 => some [0, 2, 3, 4, 5] | 4 => some [0, 2, 3, 4] | 5 => some [0, 2, 3, 4, 5, 21] | 6 => some [2] | 7 => some [0, 2, 3, 4, 5, 25] | 8 => some [2] | 9 => some [0, 2, 3, 4, 5, 32] | 10 => some [2, 4] | 11 => some [2] | 12 => some [0, 2, 3, 4, 5, 49] | 13 => some [0, 2, 3, 4] | 14 => some [0, 2, 3, 4, 83] | 15 => some [0, 2, 3, 4] | 16 => some [0, 2, 3, 4] | _ => none) := rfl
@[go_sem] theorem h59k : h59.keep = (fun _ => none) := rfl
@[go_sem] theorem h59t : h59.tail = (fun id => match id with | 13 => some 17 | _ => none) := rfl
@[go_sem] theorem h59v : h59.vars = [4] := rfl
@[go_sem] theorem h59m : h59.mutc = false := rfl
def h60 : Hint := ⟨(fun id => match id with | 0 => some [0] | 1 => some [3] | 2 => some [3, 4] | 3 => some [2] | 4 => some [3, 6] | 5 => some [2] | 6 => some [3, 8] | 7 => some [2] | 8 => some [3, 10] | 9 => some [2] | 10 => some [3, 12] | 11 => some [2] | 12 => some [3, 14] | 13 => some [2] | 14 => some [3, 16] | 15 => some [2] | 16 => some [3, 18] | 17 => some [2] | 18 => some [20] | 19 => some [2] | 20 => some [2] | _ => none), (fun _ => none), (fun _ => none), [], false, (fun _ => none)⟩
@[go_sem] theorem h60x : h60.mix = (fun _ => none) := rfl
@[go_sem] theorem h60l : h60.live = (fun id => match id with | 0 => some [0] | 1 => some [3] | 2 => some [3, 4] | 3 => some [2] | 4 => some [3, 6] | 5 => some [2] | 6 => some [3, 8] | 7 => some [2] | 8 => some [3, 10] | 9 => some [2] | 10 => some [3, 12] | 11 => some [2] | 12 => some [3, 14] | 13 => some [2] | 14 => some [3, 16] | 15 => some [2] | 16 => some [3, 18] | 17 => some [2] | 18 => some [20] | 19 => some [2] | 20 => some [2] | _ => none) := rfl
@[go_sem] theorem h60k : h60.keep = (fun _ => none) := rfl
@[go_sem] theorem h60t : h60.tail = (fun _ => none) := rfl
@[go_sem] theorem h60v : h60.vars = [] := rfl
@[go_sem] theorem h60m : h60.mutc = false := rfl
def h61 : Hint := ⟨(fun id => match id with | 0 => some [0] | 1 => some [2] | _ => none), (fun _ => none), (fun _ => none), [], false, (fun _ => none)⟩
@[go_sem] theorem h61x : h61.mix = (fun _ => none) := rfl
@[go_sem] theorem h61l : h61.live = (fun id => match id with | 0 => some [0] | 1 => some [2] | _ => none) := rfl
@[go_sem] theorem h61k : h61.keep = (fun _ => none) := rfl
@[go_sem] theorem h61t : h61.tail = (fun _ => none) := rfl
@[go_sem] theorem h61v : h61.vars = [] := rfl
@[go_sem] theorem h61m : h61.mutc = false := rfl
def h62 : Hint := ⟨(fun id => match id with | 0 => some [0, 1] | 1 => some [0, 1, 5] | 2 => some [0, 1, 14] | 3 => some [0, 1, 14] | 4 => some [4] | _ => none), (fun _ => none), (fun _ => none), [], false, (fun _ => none)⟩
@[go_sem] theorem h62x : h62.mix = (fun _ => none) := rfl
@[go_sem] theorem h62l : h62.live = (fun id => match id with | 0 => some [0, 1] | 1 => some [0, 1, 5] | 2 => some [0, 1, 14] | 3 => some [0, 1, 14] | 4 => some [4] | _ => none) := rfl
@[go_sem] theorem h62k : h62.keep = (fun _ => none) := rfl
@[go_sem] theorem h62t : h62.tail = (fun _ => none) := rfl
@[go_sem] theorem h62v : h62.vars = [] := rfl
@[go_sem] theorem h62m : h62.mutc = false := rfl
def h63 : Hint := ⟨(fun id => match id with | 0 => some [1, 2] | 1 => some [1, 2, 3] | 2 => some [1, 2, 3, 4] | 3 => some [1, 2, 3, 23] | 4 => some [1, 2, 3, 23] | 5 => some [1, 2, 3, 5] | 6 => some [1, 2, 3, 5] | 7 => some [1, 2, 3, 5, 47] | 8 => some [1, 2, 3, 5] | 9 => some [1, 2, 3, 5, 47] | 10 => some [1, 2, 3, 5, 6] | 11 => some [1, 2, 3, 5, 68] | 12 => some [1, 2, 3, 5, 7] | 13 => some [1, 2, 3, 5, 6, 7] | 14 => some [1, 2, 3, 5, 7, 78] | 15 => some [1, 2, 3, 5, 7, 78] | 16 => some [1, 2, 3, 5, 7, 84] | 17 => some [1, 2, 3, 5] | 18 => some [1, 2, 3, 5, 68] | 19 => some [1, 2, 3, 8] | 20 => some [1, 2, 8] | 21 => some [2, 8] | 22 => some [1, 2, 8, 118] | 23 => some [2, 8] | 24 => some [1, 2, 8, 129] | 25 => some [2, 8] | 26 => some [2, 8] | 27 => some [2] | _ => none), (fun _ => none), (fun id => match id with | 20 => some 19 | _ => none), [], false, (fun id => match id with | 20 => some ⟨[0, 1, 2, 3, 4, 5, 6, 7, 8, 9, 10, 11, 12, 13, 14, 15, 16, 17, 18, 20], [], .head 0 (.head 1 (.head 2 (.head 3 (.head 4 (.head 5 (.head 6 (.head 7 (.head 8 (.head 9 (.head 10 (.head 11 (.head 12 (.head 13 (.head 14 (.head 15 (.head 18 (.alt (.one 16 (.alt (.one 17 (.one 19 (.head 20 (.one 21 (.fin))))) (.one 19 (.head 20 (.alt (.one 17 (.one 21 (.fin))) (.one 21 (.head 17 (.fin)))))))) (.alt (.one 17 (.alt (.one 16 (.one 19 (.head 20 (.one 21 (.fin))))) (.one 19 (.head 16 (.head 20 (.one 21 (.fin))))))) (.one 19 (.head 16 (.head 20 (.alt (.one 17 (.one 21 (.fin))) (.one 21 (.head 17 (.fin)))))))))))))))))))))))))⟩ | _ => none)⟩
@[go_sem] theorem h63x : h63.mix = (fun id => match id with | 20 => some ⟨[0, 1, 2, 3, 4, 5, 6, 7, 8, 9, 10, 11, 12, 13, 14, 15, 16, 17, 18, 20], [], .head 0 (.head 1 (.head 2 (.head 3 (.head 4 (.head 5 (.head 6 (.head 7 (.head 8 (.head 9 (.head 10 (.head 11 (.head 12 (.head 13 (.head 14 (.head 15 (.head 18 (.alt (.one 16 (.alt (.one 17 (.one 19 (.head 20 (.one 21 (.fin))))) (.one 19 (.head 20 (.alt (.one 17 (.one 21 (.fin))) (.one 21 (.head 17 (.fin)))))))) (.alt (.one 17 (.alt (.one 16 (.one 19 (.head 20 (.one 21 (.fin))))) (.one 19 (.head 16 (.head 20 (.one 21 (.fin))))))) (.one 19 (.head 16 (.head 20 (.alt (.one 17 (.one 21 (.fin))) (.one 21 (.head 17 (.fin)))))))))))))))))))))))))⟩ | _ => none) := rfl
@[go_sem] theorem h63l : h63.live = (fun id => match id with | 0 => some [1, 2] | 1 => some [1, 2, 3] | 2 => some [1, 2, 3, 4] | 3 => some [1, 2, 3, 23] | 4 => some [1, 2, 3, 23] | 5 => some [1, 2, 3, 5] | 6 => some [1, 2, 3, 5] | 7 => some [1, 2, 3, 5, 47] | 8 => some [1, 2, 3, 5] | 9 => some [1, 2, 3, 5, 47] | 10 => some [1, 2, 3, 5, 6] | 11 => some [1, 2, 3, 5, 68] | 12 => some [1, 2, 3, 5, 7] | 13 => some [1, 2, 3, 5, 6, 7] | 14 => some [1, 2, 3, 5, 7, 78] | 15 => some [1, 2, 3, 5, 7, 78] | 16 => some [1, 2, 3, 5, 7, 84] | 17 => some [1, 2, 3, 5] | 18 => some [1, 2, 3, 5, 68] | 19 => some [1, 2, 3, 8] | 20 => some [1, 2, 8] | 21 => some [2, 8] | 22 => some [1, 2, 8, 118] | 23 => some [2, 8] | 24 => some [1, 2, 8, 129] | 25 => some [2, 8] | 26 => some [2, 8] | 27 => some [2] | _ => none) := rfl
@[go_sem] theorem h63k : h63.keep = (fun _ => none) := rfl
@[go_sem] theorem h63t : h63.tail = (fun id => match id with | 20 => some 19 | _ => none) := rfl
@[go_sem] theorem h63v : h63.vars = [] := rfl
@[go_sem] theorem h63m : h63.mutc = false := rfl
def h64 : Hint := ⟨(fun id => match id with | 0 => some [0] | 1 => some [2] | _ => none), (fun _ => none), (fun _ => none), [], false, (fun _ => none)⟩
@[go_sem] theorem h64x : h64.mix = (fun _ => none) := rfl
@[go_sem] theorem h64l : h64.live = (fun id => match id with | 0 => some [0] | 1 => some [2] | _ => none) := rfl
@[go_sem] theorem h64k : h64.keep = (fun _ => none) := rfl
@[go_sem] theorem h64t : h64.tail = (fun _ => none) := rfl
@[go_sem] theorem h64v : h64.vars = [] := rfl
@[go_sem] theorem h64m : h64.mutc = false := rfl
def h65 : Hint := ⟨(fun id => match id with | 0 => some [0, 1] | 1 => some [4] | _ => none), (fun _ => none), (fun _ => none), [], false, (fun _ => none)⟩
@[go_sem] theorem h65x : h65.mix = (fun _ => none) := rfl
@[go_sem] theorem h65l : h65.live = (fun id => match id with | 0 => some [0, 1] | 1 => some [4] | _ => none) := rfl
@[go_sem] theorem h65k : h65.keep = (fun _ => none) := rfl
@[go_sem] theorem h65t : h65.tail = (fun _ => none) := rfl
@[go_sem] theorem h65v : h65.vars = [] := rfl
@[go_sem] theorem h65m : h65.mutc = false := rfl
def h66 : Hint := ⟨(fun id => match id with | 0 => some [0, 1] | 1 => some [0, 1, 5] | 2 => some [0, 1, 5, 10] | 3 => some [4] | 4 => some [4] | _ => none), (fun _ => none), (fun _ => none), [], false, (fun _ => none)⟩
@[go_sem] theorem h66x : h66.mix = (fun _ => none) := rfl
@[go_sem] theorem h66l : h66.live = (fun id => match id with | 0 => some [0, 1] | 1 => some [0, 1, 5] | 2 => some [0, 1, 5, 10] | 3 => some [4] | 4 => some [4] | _ => none) := rfl
@[go_sem] theorem h66k : h66.keep = (fun _ => none) := rfl
@[go_sem] theorem h66t : h66.tail = (fun _ => none) := rfl
@[go_sem] theorem h66v : h66.vars = [] := rfl
@[go_sem] theorem h66m : h66.mutc = false := rfl
def h67 : Hint := ⟨(fun id => match id with | 0 => some [0] | 1 => some [0, 3] | 2 => some [2] | 3 => some [0, 3, 7] | 4 => some [0, 3] | 5 => some [0, 3, 16] | 6 => some [0, 3] | 7 => some [0, 3] | _ => none), (fun _ => none), (fun _ => none), [3], false, (fun _ => none)⟩
@[go_sem] theorem h67x : h67.mix = (fun _ => none) := rfl
@[go_sem] theorem h67l : h67.live = (fun id => match id with | 0 => some [0] | 1 => some [0, 3] | 2 => some [2] | 3 => some [0, 3, 7] | 4 => some [0, 3] | 5 => some [0, 3, 16] | 6 => some [0, 3] | 7 => some [0, 3] | _ => none) := rfl
@[go_sem] theorem h67k : h67.keep = (fun _ => none) := rfl
@[go_sem] theorem h67t : h67.tail = (fun _ => none) := rfl
@[go_sem] theorem h67v : h67.vars = [3] := rfl
@[go_sem] theorem h67m : h67.mutc = false := rfl
def h68 : Hint := ⟨(fun id => match id with | 0 => some [0, 2] | 1 => some [0, 2, 3] | 2 => some [0, 2, 3, 15] | 3 => some [2] | 4 => some [0, 2, 3] | 5 => some [0, 2, 3, 29] | 6 => some [2] | 7 => some [0, 2, 3, 43] | 8 => some [0, 2, 3, 29] | 9 => some [0, 2, 3, 4] | 10 => some [0, 2, 3, 4, 57] | 11 => some [0, 2, 3, 4, 57] | 12 => some [0, 2, 3, 5] | 13 => some [0, 2, 3, 68] | 14 => some [2] | 15 => some [2] | _ => none), (fun _ => none), (fun _ => none), [], false, (fun _ => none)⟩
@[go_sem] theorem h68x : h68.mix = (fun _ => none) := rfl
@[go_sem] theorem h68l : h68.live = (fun id => match id with | 0 => some [0, 2] | 1 => some [0, 2, 3] | 2 => some [0, 2, 3, 15] | 3 => some [2] | 4 => some [0, 2, 3] | 5 => some [0, 2, 3, 29] | 6 => some [2] | 7 => some [0, 2, 3, 43] | 8 => some [0, 2, 3, 29] | 9 => some [0, 2, 3, 4] | 10 => some [0, 2, 3, 4, 57] | 11 => some [0, 2, 3, 4, 57] | 12 => some [0, 2, 3, 5] | 13 => some [0, 2, 3, 68] | 14 => some [2] | 15 => some [2] | _ => none) := rfl
@[go_sem] theorem h68k : h68.keep = (fun _ => none) := rfl
@[go_sem] theorem h68t : h68.tail = (fun _ => none) := rfl
@[go_sem] theorem h68v : h68.vars = [] := rfl
@[go_sem] theorem h68m : h68.mutc = false := rfl
def h69 : Hint := ⟨(fun id => match id with | 0 => some [0] | 1 => some [0, 3] | 2 => some [3, 6, 7, 8] | 3 => some [3, 6, 7, 8, 9] | 4 => some [3, 5, 6, 7, 8] | 5 => some [3, 5, 6, 7, 8, 25] | 6 => some [3, 5, 6, 7, 8, 25] | 7 => some [3, 6, 7, 8] | 8 => some [3, 5, 6, 7, 8, 47] | 9 => some [3, 6, 7, 8] | 10 => some [3, 5, 6, 7, 8, 55] | 11 => some [3, 6, 7, 8] | 12 => some [3, 5, 6, 7, 8, 69] | 13 => some [3, 6, 7, 8] | 14 => some [3, 6, 7, 8] | 15 => some [2] | _ => none), (fun _ => none), (fun _ => none), [3], false, (fun _ => none)⟩
@[go_sem] theorem h69x : h69.mix = (fun _ => none) := rfl
@[go_sem] theorem h69l : h69.live = (fun id => match id with | 0 => some [0] | 1 => some [0, 3] | 2 => some [3, 6, 7, 8] | 3 => some [3, 6, 7, 8, 9] | 4 => some [3, 5, 6, 7, 8] | 5 => some [3, 5, 6, 7, 8, 25] | 6 => some [3, 5, 6, 7, 8, 25] | 7 => some [3, 6, 7, 8] | 8 => some [3, 5, 6, 7, 8, 47] | 9 => some [3, 6, 7, 8] | 10 => some [3, 5, 6, 7, 8, 55] | 11 => some [3, 6, 7, 8] | 12 => some [3, 5, 6, 7, 8, 69] | 13 => some [3, 6, 7, 8] | 14 => some [3, 6, 7, 8] | 15 => some [2] | _ => none) := rfl
@[go_sem] theorem h69k : h69.keep = (fun _ => none) := rfl
@[go_sem] theorem h69t : h69.tail = (fun _ => none) := rfl
@[go_sem] theorem h69v : h69.vars = [3] := rfl
@[go_sem] theorem h69m : h69.mutc = false := rfl
def h70 : Hint := ⟨(fun id => match id with | 0 => some [0] | 1 => some [0, 3] | 2 => some [3] | 3 => some [2] | _ => none), (fun _ => none), (fun _ => none), [], false, (fun _ => none)⟩
@[go_sem] theorem h70x : h70.mix = (fun _ => none) := rfl
@[go_sem] theorem h70l : h70.live = (fun id => match id with | 0 => some [0] | 1 => some [0, 3] | 2 => some [3] | 3 => some [2] | _ => none) := rfl
@[go_sem] theorem h70k : h70.keep = (fun _ => none) := rfl
@[go_sem] theorem h70t : h70.tail = (fun _ => none) := rfl
@[go_sem] theorem h70v : h70.vars = [] := rfl
@[go_sem] theorem h70m : h70.mutc = false := rfl
def h71 : Hint := ⟨(fun id => match id with | 0 => some [0] | 1 => some [2] | _ => none), (fun _ => none), (fun _ => none), [], false, (fun _ => none)⟩
@[go_sem] theorem h71x : h71.mix = (fun _ => none) := rfl
@[go_sem] theorem h71l : h71.live = (fun id => match id with | 0 => some [0] | 1 => some [2] | _ => none) := rfl
@[go_sem] theorem h71k : h71.keep = (fun _ => none) := rfl
@[go_sem] theorem h71t : h71.tail = (fun _ => none) := rfl
@[go_sem] theorem h71v : h71.vars = [] := rfl
@[go_sem] theorem h71m : h71.mutc = false := rfl
def h72 : Hint := ⟨(fun id => match id with | 0 => some [0] | 1 => some [2] | _ => none), (fun _ => none), (fun _ => none), [], false, (fun _ => none)⟩
@[go_sem] theorem h72x : h72.mix = (fun _ => none) := rfl
@[go_sem] theorem h72l : h72.live = (fun id => match id with | 0 => some [0] | 1 => some [2] | _ => none) := rfl
@[go_sem] theorem h72k : h72.keep = (fun _ => none) := rfl
@[go_sem] theorem h72t : h72.tail = (fun _ => none) := rfl
@[go_sem] theorem h72v : h72.vars = [] := rfl
@[go_sem] theorem h72m : h72.mutc = false := rfl
def h73 : Hint := ⟨(fun id => match id with | 0 => some [0, 4] | 1 => some [0] | _ => none), (fun _ => none), (fun _ => none), [], false, (fun _ => none)⟩
@[go_sem] theorem h73x : h73.mix = (fun _ => none) := rfl
@[go_sem] theorem h73l : h73.live = (fun id => match id with | 0 => some [0, 4] | 1 => some [0] | _ => none) := rfl
@[go_sem] theorem h73k : h73.keep = (fun _ => none) := rfl
@[go_sem] theorem h73t : h73.tail = (fun _ => none) := rfl
@[go_sem] theorem h73v : h73.vars = [] := rfl
@[go_sem] theorem h73m : h73.mutc = false := rfl
def h74 : Hint := ⟨(fun id => match id with | 0 => some [0, 1, 4] | 1 => some [0, 1, 4, 5] | 2 => some [0, 1, 4, 5, 6] | 3 => some [0, 1, 4, 5, 6] | 4 => some [0, 1, 4, 5, 6, 22] | 5 => some [4] | 6 => some [0, 1, 4, 5] | 7 => some [0, 1, 4, 5, 6, 30] | 8 => some [4] | 9 => some [0, 1, 4, 5, 6, 34] | 10 => some [0, 1, 4, 5] | 11 => some [0, 1, 4, 5, 6, 49] | 12 => some [0, 1, 4, 5] | 13 => some [0, 1, 4, 5, 6, 64] | 14 => some [0, 1, 4, 5] | 15 => some [0, 1, 4, 5] | _ => none), (fun _ => none), (fun _ => none), [5], false, (fun _ => none)⟩
@[go_sem] theorem h74x : h74.mix = (fun _ => none) := rfl
@[go_sem] theorem h74l : h74.live = (fun id => match id with | 0 => some [0, 1, 4] | 1 => some [0, 1, 4, 5] | 2 => some [0, 1, 4, 5, 6] | 3 => some [0, 1, 4, 5, 6] | 4 => some [0, 1, 4, 5, 6, 22] | 5 => some [4] | 6 => some [0, 1, 4, 5] | 7 => some [0, 1, 4, 5, 6, 30] | 8 => some [4] | 9 => some [0, 1, 4, 5, 6, 34] | 10 => some [0, 1, 4, 5] | 11 => some [0, 1, 4, 5, 6, 49] | 12 => some [0, 1, 4, 5] | 13 => some [0, 1, 4, 5, 6, 64] | 14 => some [0, 1, 4, 5] | 15 => some [0, 1, 4, 5] | _ => none) := rfl
@[go_sem] theorem h74k : h74.keep = (fun _ => none) := rfl
@[go_sem] theorem h74t : h74.tail = (fun _ => none) := rfl
@[go_sem] theorem h74v : h74.vars = [5] := rfl
@[go_sem] theorem h74m : h74.mutc = false := rfl
def h75 : Hint := ⟨(fun id => match id with | 0 => some [0] | 1 => some [2] | _ => none), (fun _ => none), (fun _ => none), [], false, (fun _ => none)⟩
@[go_sem] theorem h75x : h75.mix = (fun _ => none) := rfl
@[go_sem] theorem h75l : h75.live = (fun id => match id with | 0 => some [0] | 1 => some [2] | _ => none) := rfl
@[go_sem] theorem h75k : h75.keep = (fun _ => none) := rfl
@[go_sem] theorem h75t : h75.tail = (fun _ => none) := rfl
@[go_sem] theorem h75v : h75.vars = [] := rfl
@[go_sem] theorem h75m : h75.mutc = false := rfl
def h76 : Hint := ⟨(fun id => match id with | 0 => some [0, 1] | 1 => some [4] | _ => none), (fun _ => none), (fun _ => none), [], false, (fun _ => none)⟩
@[go_sem] theorem h76x : h76.mix = (fun _ => none) := rfl
@[go_sem] theorem h76l : h76.live = (fun id => match id with | 0 => some [0, 1] | 1 => some [4] | _ => none) := rfl
@[go_sem] theorem h76k : h76.keep = (fun _ => none) := rfl
@[go_sem] theorem h76t : h76.tail = (fun _ => none) := rfl
@[go_sem] theorem h76v : h76.vars = [] := rfl
@[go_sem] theorem h76m : h76.mutc = false := rfl
def h77 : Hint := ⟨(fun id => match id with | 0 => some [0, 1, 2] | 1 => some [0, 1, 2, 8] | 2 => some [6] | 3 => some [6] | _ => none), (fun _ => none), (fun _ => none), [], false, (fun _ => none)⟩
@[go_sem] theorem h77x : h77.mix = (fun _ => none) := rfl
@[go_sem] theorem h77l : h77.live = (fun id => match id with | 0 => some [0, 1, 2] | 1 => some [0, 1, 2, 8] | 2 => some [6] | 3 => some [6] | _ => none) := rfl
@[go_sem] theorem h77k : h77.keep = (fun _ => none) := rfl
@[go_sem] theorem h77t : h77.tail = (fun _ => none) := rfl
@[go_sem] theorem h77v : h77.vars = [] := rfl
@[go_sem] theorem h77m : h77.mutc = false := rfl
def h78 : Hint := ⟨(fun id => match id with | 0 => some [0] | 1 => some [0, 3] | 2 => some [0, 3, 4] | 3 => some [2] | 4 => some [0, 3, 4, 9] | 5 => some [0, 3] | 6 => some [0, 3] | 7 => some [0, 3, 27] | 8 => some [0, 3] | 9 => some [0, 3] | _ => none), (fun _ => none), (fun _ => none), [3], false, (fun _ => none)⟩
@[go_sem] theorem h78x : h78.mix = (fun _ => none) := rfl
@[go_sem] theorem h78l : h78.live = (fun id => match id with | 0 => some [0] | 1 => some [0, 3] | 2 => some [0, 3, 4] | 3 => some [2] | 4 => some [0, 3, 4, 9] | 5 => some [0, 3] | 6 => some [0, 3] | 7 => some [0, 3, 27] | 8 => some [0, 3] | 9 => some [0, 3] | _ => none) := rfl
@[go_sem] theorem h78k : h78.keep = (fun _ => none) := rfl
@[go_sem] theorem h78t : h78.tail = (fun _ => none) := rfl
@[go_sem] theorem h78v : h78.vars = [3] := rfl
@[go_sem] theorem h78m : h78.mutc = false := rfl
def h79 : Hint := ⟨(fun id => match id with | 0 => some [0, 1, 2] | 1 => some [0, 1, 2, 12] | 2 => some [0, 1, 2, 12] | 3 => some [6] | _ => none), (fun _ => none), (fun _ => none), [], false, (fun _ => none)⟩
@[go_sem] theorem h79x : h79.mix = (fun _ => none) := rfl
@[go_sem] theorem h79l : h79.live = (fun id => match id with | 0 => some [0, 1, 2] | 1 => some [0, 1, 2, 12] | 2 => some [0, 1, 2, 12] | 3 => some [6] | _ => none) := rfl
@[go_sem] theorem h79k : h79.keep = (fun _ => none) := rfl
@[go_sem] theorem h79t : h79.tail = (fun _ => none) := rfl
@[go_sem] theorem h79v : h79.vars = [] := rfl
@[go_sem] theorem h79m : h79.mutc = false := rfl
def h80 : Hint := ⟨(fun id => match id with | 0 => some [0, 2] | 1 => some [0, 2, 3] | 2 => some [0, 2, 3, 4] | 3 => some [0, 2, 3, 23] | 4 => some [0, 2, 3, 23] | 5 => some [0, 2, 3] | 6 => some [0, 2, 3, 40] | 7 => some [0, 2, 3] | 8 => some [0, 2, 3, 40] | 9 => some [0, 2, 3, 5] | 10 => some [0, 2, 3, 57] | 11 => some [0, 2, 3, 6] | 12 => some [0, 2, 3, 6, 7] | 13 => some [0, 2, 3, 6, 65] | 14 => some [0, 2, 3, 6, 65] | 15 => some [0, 2, 3, 6, 69] | 16 => some [0, 2, 3] | 17 => some [0, 2, 3, 57] | 18 => some [0, 2, 8, 9] | 19 => some [0, 2, 11] | 20 => some [0, 2, 11, 105] | 21 => some [0, 2, 11, 105] | 22 => some [0, 2, 11, 112] | 23 => some [0, 2, 11] | 24 => some [0, 2, 11, 105] | 25 => some [2] | _ => none), (fun _ => none), (fun id => match id with | 18 => some 16 | _ => none), [], false, (fun id => match id with | 18 => some ⟨[0, 1, 2, 3, 4, 5, 6, 7, 8, 9, 10, 11, 12, 13, 14, 15], [], .head 0 (.head 1 (.head 2 (.head 3 (.head 4 (.head 5 (.head 6 (.head 7 (.head 8 (.head 9 (.alt (.one 10 (.alt (.one 11 (.head 12 (.head 13 (.alt (.one 14 (.alt (.one 15 (.one 16 (.one 17 (.one 18 (.one 19 (.fin)))))) (.one 16 (.alt (.one 15 (.one 17 (.one 18 (.one 19 (.fin))))) (.one 17 (.alt (.one 15 (.one 18 (.one 19 (.fin)))) (.one 18 (.head 15 (.one 19 (.fin)))))))))) (.alt (.one 15 (.alt (.one 14 (.one 16 (.one 17 (.one 18 (.one 19 (.fin)))))) (.one 16 (.alt (.one 14 (.one 17 (.one 18 (.one 19 (.fin))))) (.one 17 (.head 14 (.one 18 (.one 19 (.fin))))))))) (.one 16 (.alt (.one 14 (.alt (.one 15 (.one 17 (.one 18 (.one 19 (.fin))))) (.one 17 (.alt (.one 15 (.one 18 (.one 19 (.fin)))) (.one 18 (.head 15 (.one 19 (.fin)))))))) (.alt (.one 15 (.alt (.one 14 (.one 17 (.one 18 (.one 19 (.fin))))) (.one 17 (.head 14 (.one 18 (.one 19 (.fin))))))) (.one 17 (.head 14 (.alt (.one 15 (.one 18 (.one 19 (.fin)))) (.one 18 (.head 15 (.one 19 (.fin))))))))))))))) (.one 16 (.head 11 (.head 12 (.head 13 (.alt (.one 14 (.alt (.one 15 (.one 17 (.one 18 (.one 19 (.fin))))) (.one 17 (.alt (.one 15 (.one 18 (.one 19 (.fin)))) (.one 18 (.head 15 (.one 19 (.fin)))))))) (.alt (.one 15 (.alt (.one 14 (.one 17 (.one 18 (.one 19 (.fin))))) (.one 17 (.head 14 (.one 18 (.one 19 (.fin))))))) (.one 17 (.head 14 (.alt (.one 15 (.one 18 (.one 19 (.fin)))) (.one 18 (.head 15 (.one 19 (.fin))))))))))))))) (.one 16 (.head 10 (.head 11 (.head 12 (.head 13 (.alt (.one 14 (.alt (.one 15 (.one 17 (.one 18 (.one 19 (.fin))))) (.one 17 (.alt (.one 15 (.one 18 (.one 19 (.fin)))) (.one 18 (.head 15 (.one 19 (.fin)))))))) (.alt (.one 15 (.alt (.one 14 (.one 17 (.one 18 (.one 19 (.fin))))) (.one 17 (.head 14 (.one 18 (.one 19 (.fin))))))) (.one 17 (.head 14 (.alt (.one 15 (.one 18 (.one 19 (.fin)))) (.one 18 (.head 15 (.one 19 (.fin))))))))))))))))))))))))⟩ | _ => none)⟩
@[go_sem] theorem h80x : h80.mix = (fun id => match id with | 18 => some ⟨[0, 1, 2, 3, 4, 5, 6, 7, 8, 9, 10, 11, 12, 13, 14, 15], [], .head 0 (.head 1 (.head 2 (.head 3 (.head 4 (.head 5 (.head 6 (.head 7 (.head 8 (.head 9 (.alt (.one 10 (.alt (.one 11 (.head 12 (.head 13 (.alt (.one 14 (.alt (.one 15 (.one 16 (.one 17 (.one 18 (.one 19 (.fin)))))) (.one 16 (.alt (.one 15 (.one 17 (.one 18 (.one 19 (.fin))))) (.one 17 (.alt (.one 15 (.one 18 (.one 19 (.fin)))) (.one 18 (.head 15 (.one 19 (.fin)))))))))) (.alt (.one 15 (.alt (.one 14 (.one 16 (.one 17 (.one 18 (.one 19 (.fin)))))) (.one 16 (.alt (.one 14 (.one 17 (.one 18 (.one 19 (.fin))))) (.one 17 (.head 14 (.one 18 (.one 19 (.fin))))))))) (.one 16 (.alt (.one 14 (.alt (.one 15 (.one 17 (.one 18 (.one 19 (.fin))))) (.one 17 (.alt (.one 15 (.one 18 (.one 19 (.fin)))) (.one 18 (.head 15 (.one 19 (.fin)))))))) (.alt (.one 15 (.alt (.one 14 (.one 17 (.one 18 (.one 19 (.fin))))) (.one 17 (.head 14 (.one 18 (.one 19 (.fin))))))) (.one 17 (.head 14 (.alt (.one 15 (.one 18 (.one 19 (.fin)))) (.one 18 (.head 15 (.one 19 (.fin))))))))))))))) (.one 16 (.head 11 (.head 12 (.head 13 (.alt (.one 14 (.alt (.one 15 (.one 17 (.one 18 (.one 19 (.fin))))) (.one 17 (.alt (.one 15 (.one 18 (.one 19 (.fin)))) (.one 18 (.head 15 (.one 19 (.fin)))))))) (.alt (.one 15 (.alt (.one 14 (.one 17 (.one 18 (.one 19 (.fin))))) (.one 17 (.head 14 (.one 18 (.one 19 (.fin))))))) (.one 17 (.head 14 (.alt (.one 15 (.one 18 (.one 19 (.fin)))) (.one 18 (.head 15 (.one 19 (.fin))))))))))))))) (.one 16 (.head 10 (.head 11 (.head 12 (.head 13 (.alt (.one 14 (.alt (.one 15 (.one 17 (.one 18 (.one 19 (.fin))))) (.one 17 (.alt (.one 15 (.one 18 (.one 19 (.fin)))) (.one 18 (.head 15 (.one 19 (.fin)))))))) (.alt (.one 15 (.alt (.one 14 (.one 17 (.one 18 (.one 19 (.fin))))) (.one 17 (.head 14 (.one 18 (.one 19 (.fin))))))) (.one 17 (.head 14 (.alt (.one 15 (.one 18 (.one 19 (.fin)))) (.one 18 (.head 15 (.one 19 (.fin))))))))))))))))))))))))⟩ | _ => none) := rfl
@[go_sem] theorem h80l : h80.live = (fun id => match id with | 0 => some [0, 2] | 1 => some [0, 2, 3] | 2 => some [0, 2, 3, 4] | 3 => some [0, 2, 3, 23] | 4 => some [0, 2, 3, 23] | 5 => some [0, 2, 3] | 6 => some [0, 2, 3, 40] | 7 => some [0, 2, 3] | 8 => some [0, 2, 3, 40] | 9 => some [0, 2, 3, 5] | 10 => some [0, 2, 3, 57] | 11 => some [0, 2, 3, 6] | 12 => some [0, 2, 3, 6, 7] | 13 => some [0, 2, 3, 6, 65] | 14 => some [0, 2, 3, 6, 65] | 15 => some [0, 2, 3, 6, 69] | 16 => some [0, 2, 3] | 17 => some [0, 2, 3, 57] | 18 => some [0, 2, 8, 9] | 19 => some [0, 2, 11] | 20 => some [0, 2, 11, 105] | 21 => some [0, 2, 11, 105] | 22 => some [0, 2, 11, 112] | 23 => some [0, 2, 11] | 24 => some [0, 2, 11, 105] | 25 => some [2] | _ => none) := rfl
@[go_sem] theorem h80k : h80.keep = (fun _ => none) := rfl
@[go_sem] theorem h80t : h80.tail = (fun id => match id with | 18 => some 16 | _ => none) := rfl
@[go_sem] theorem h80v : h80.vars = [] := rfl
@[go_sem] theorem h80m : h80.mutc = false := rfl
def h81 : Hint := ⟨(fun id => match id with | 0 => some [0, 2] | 1 => some [0, 2, 3] | 2 => some [0, 2, 3, 9] | 3 => some [2] | 4 => some [0, 2, 3] | 5 => some [0, 2, 3, 21] | 6 => some [2] | 7 => some [0, 2, 3, 31] | 8 => some [0, 2, 3, 21] | 9 => some [0, 2, 3, 4] | 10 => some [0, 2, 3, 4, 42] | 11 => some [0, 2, 3, 4, 42] | 12 => some [0, 2, 3, 50] | 13 => some [2] | 14 => some [2] | _ => none), (fun _ => none), (fun _ => none), [], false, (fun _ => none)⟩
@[go_sem] theorem h81x : h81.mix = (fun _ => none) := rfl
@[go_sem] theorem h81l : h81.live = (fun id => match id with | 0 => some [0, 2] | 1 => some [0, 2, 3] | 2 => some [0, 2, 3, 9] | 3 => some [2] | 4 => some [0, 2, 3] | 5 => some [0, 2, 3, 21] | 6 => some [2] | 7 => some [0, 2, 3, 31] | 8 => some [0, 2, 3, 21] | 9 => some [0, 2, 3, 4] | 10 => some [0, 2, 3, 4, 42] | 11 => some [0, 2, 3, 4, 42] | 12 => some [0, 2, 3, 50] | 13 => some [2] | 14 => some [2] | _ => none) := rfl
@[go_sem] theorem h81k : h81.keep = (fun _ => none) := rfl
@[go_sem] theorem h81t : h81.tail = (fun _ => none) := rfl
@[go_sem] theorem h81v : h81.vars = [] := rfl
@[go_sem] theorem h81m : h81.mutc = false := rfl
def h82 : Hint := ⟨(fun id => match id with | 0 => some [0] | 1 => some [2] | _ => none), (fun _ => none), (fun _ => none), [], false, (fun _ => none)⟩
@[go_sem] theorem h82x : h82.mix = (fun _ => none) := rfl
@[go_sem] theorem h82l : h82.live = (fun id => match id with | 0 => some [0] | 1 => some [2] | _ => none) := rfl
@[go_sem] theorem h82k : h82.keep = (fun _ => none) := rfl
@[go_sem] theorem h82t : h82.tail = (fun _ => none) := rfl
@[go_sem] theorem h82v : h82.vars = [] := rfl
@[go_sem] theorem h82m : h82.mutc = false := rfl
def h83 : Hint := ⟨(fun id => match id with | 0 => some [0] | 1 => some [0, 3] | 2 => some [0, 3, 8] | 3 => some [0, 3, 4, 5] | 4 => some [0, 3, 5] | 5 => some [0, 3] | 6 => some [2] | _ => none), (fun _ => none), (fun _ => none), [3], false, (fun _ => none)⟩
@[go_sem] theorem h83x : h83.mix = (fun _ => none) := rfl
@[go_sem] theorem h83l : h83.live = (fun id => match id with | 0 => some [0] | 1 => some [0, 3] | 2 => some [0, 3, 8] | 3 => some [0, 3, 4, 5] | 4 => some [0, 3, 5] | 5 => some [0, 3] | 6 => some [2] | _ => none) := rfl
@[go_sem] theorem h83k : h83.keep = (fun _ => none) := rfl
@[go_sem] theorem h83t : h83.tail = (fun _ => none) := rfl
@[go_sem] theorem h83v : h83.vars = [3] := rfl
@[go_sem] theorem h83m : h83.mutc = false := rfl
def h84 : Hint := ⟨(fun id => match id with | 0 => some [0] | 1 => some [0, 3] | 2 => some [0, 3, 4] | 3 => some [0, 3, 4, 11] | 4 => some [0, 3, 4, 5, 6] | 5 => some [0, 3, 4, 6] | 6 => some [0, 3, 4] | 7 => some [2] | _ => none), (fun _ => none), (fun _ => none), [3], false, (fun _ => none)⟩
@[go_sem] theorem h84x : h84.mix = (fun _ => none) := rfl
@[go_sem] theorem h84l : h84.live = (fun id => match id with | 0 => some [0] | 1 => some [0, 3] | 2 => some [0, 3, 4] | 3 => some [0, 3, 4, 11] | 4 => some [0, 3, 4, 5, 6] | 5 => some [0, 3, 4, 6] | 6 => some [0, 3, 4] | 7 => some [2] | _ => none) := rfl
@[go_sem] theorem h84k : h84.keep = (fun _ => none) := rfl
@[go_sem] theorem h84t : h84.tail = (fun _ => none) := rfl
@[go_sem] theorem h84v : h84.vars = [3] := rfl
@[go_sem] theorem h84m : h84.mutc = false := rfl
def h98 : Hint := ⟨(fun id => match id with | 0 => some [0, 1] | 1 => some [0, 1, 12] | 2 => some [4] | 3 => some [0, 1, 21] | 4 => some [4] | 5 => some [0, 1, 5, 6] | 6 => some [0, 1, 5, 31] | 7 => some [4] | 8 => some [4] | _ => none), (fun _ => none), (fun _ => none), [], false, (fun _ => none)⟩
@[go_sem] theorem h98x : h98.mix = (fun _ => none) := rfl
@[go_sem] theorem h98l : h98.live = (fun id => match id with | 0 => some [0, 1] | 1 => some [0, 1, 12] | 2 => some [4] | 3 => some [0, 1, 21] | 4 => some [4] | 5 => some [0, 1, 5, 6] | 6 => some [0, 1, 5, 31] | 7 => some [4] | 8 => some [4] | _ => none) := rfl
@[go_sem] theorem h98k : h98.keep = (fun _ => none) := rfl
@[go_sem] theorem h98t : h98.tail = (fun _ => none) := rfl
@[go_sem] theorem h98v : h98.vars = [] := rfl
@[go_sem] theorem h98m : h98.mutc = false := rfl
def h110 : Hint := ⟨(fun id => match id with | 0 => some [0] | 1 => some [0, 8] | 2 => some [0, 11] | 3 => some [2] | 4 => some [2] | 5 => some [0, 3] | 6 => some [0, 3, 4] | 7 => some [0, 3, 4, 21] | 8 => some [0, 3, 4] | 9 => some [0, 3, 4] | 10 => some [0, 3, 32] | 11 => some [0, 3, 32] | 12 => some [3, 48] | 13 => some [2] | 14 => some [2] | _ => none), (fun _ => none), (fun _ => none), [], false, (fun _ => none)⟩
@[go_sem] theorem h110x : h110.mix = (fun _ => none) := rfl
@[go_sem] theorem h110l : h110.live = (fun id => match id with | 0 => some [0] | 1 => some [0, 8] | 2 => some [0, 11] | 3 => some [2] | 4 => some [2] | 5 => some [0, 3] | 6 => some [0, 3, 4] | 7 => some [0, 3, 4, 21] | 8 => some [0, 3, 4] | 9 => some [0, 3, 4] | 10 => some [0, 3, 32] | 11 => some [0, 3, 32] | 12 => some [3, 48] | 13 => some [2] | 14 => some [2] | _ => none) := rfl
@[go_sem] theorem h110k : h110.keep = (fun _ => none) := rfl
@[go_sem] theorem h110t : h110.tail = (fun _ => none) := rfl
@[go_sem] theorem h110v : h110.vars = [] := rfl
@[go_sem] theorem h110m : h110.mutc = false := rfl
def h111 : Hint := ⟨(fun id => match id with | 0 => some [0, 5] | 1 => some [0] | _ => none), (fun _ => none), (fun _ => none), [], false, (fun _ => none)⟩
@[go_sem] theorem h111x : h111.mix = (fun _ => none) := rfl
@[go_sem] theorem h111l : h111.live = (fun id => match id with | 0 => some [0, 5] | 1 => some [0] | _ => none) := rfl
@[go_sem] theorem h111k : h111.keep = (fun _ => none) := rfl
@[go_sem] theorem h111t : h111.tail = (fun _ => none) := rfl
@[go_sem] theorem h111v : h111.vars = [] := rfl
@[go_sem] theorem h111m : h111.mutc = false := rfl
def h112 : Hint := ⟨(fun id => match id with | 0 => some [0, 2] | 1 => some [2, 5, 6] | 2 => some [2, 5, 18] | 3 => some [2, 3, 4] | 4 => some [2, 5, 7] | 5 => some [2, 5, 7, 24] | 6 => some [2, 3, 4] | 7 => some [2, 5, 7, 8] | 8 => some [2, 5, 7, 8, 32] | 9 => some [2, 3, 4] | 10 => some [2, 5, 7, 8, 9] | 11 => some [2, 5, 7, 8, 9, 37, 38, 39] | 12 => some [2, 5, 7, 8, 9, 37, 38, 39, 40] | 13 => some [2, 5, 7, 8, 9, 11, 37, 38, 39] | 14 => some [2, 5, 7, 8, 9, 37, 38, 39] | 15 => some [2, 5, 7, 8, 9, 37, 38, 39] | 16 => some [2, 3, 4] | _ => none), (fun _ => none), (fun id => match id with | 6 => some 3 | 9 => some 3 | 16 => some 17 | _ => none), [], false, (fun id => match id with | 6 => some ⟨[0, 1, 2], [], .head 0 (.alt (.one 1 (.alt (.one 2 (.one 3 (.one 4 (.one 5 (.fin))))) (.one 3 (.head 2 (.one 4 (.one 5 (.fin))))))) (.one 3 (.head 1 (.head 2 (.one 4 (.one 5 (.fin)))))))⟩ | 9 => some ⟨[0, 1, 2], [], .head 0 (.alt (.one 1 (.alt (.one 2 (.one 3 (.one 4 (.one 5 (.fin))))) (.one 3 (.head 2 (.one 4 (.one 5 (.fin))))))) (.one 3 (.head 1 (.head 2 (.one 4 (.one 5 (.fin)))))))⟩ | 16 => some ⟨[0, 1, 2, 3, 4, 5, 6, 7, 8, 9, 10, 11, 12, 13, 14, 15, 16], [], .head 0 (.head 1 (.head 2 (.head 3 (.head 4 (.head 5 (.head 6 (.head 7 (.head 8 (.head 9 (.head 10 (.head 11 (.head 12 (.head 13 (.head 14 (.alt (.one 15 (.alt (.one 16 (.one 17 (.one 18 (.one 19 (.fin))))) (.one 17 (.head 16 (.one 18 (.one 19 (.fin))))))) (.one 17 (.head 15 (.head 16 (.one 18 (.one 19 (.fin)))))))))))))))))))))⟩ | _ => none)⟩
@[go_sem] theorem h112x : h112.mix = (fun id => match id with | 6 => some ⟨[0, 1, 2], [], .head 0 (.alt (.one 1 (.alt (.one 2 (.one 3 (.one 4 (.one 5 (.fin))))) (.one 3 (.head 2 (.one 4 (.one 5 (.fin))))))) (.one 3 (.head 1 (.head 2 (.one 4 (.one 5 (.fin)))))))⟩ | 9 => some ⟨[0, 1, 2], [], .head 0 (.alt (.one 1 (.alt (.one 2 (.one 3 (.one 4 (.one 5 (.fin))))) (.one 3 (.head 2 (.one 4 (.one 5 (.fin))))))) (.one 3 (.head 1 (.head 2 (.one 4 (.one 5 (.fin)))))))⟩ | 16 => some ⟨[0, 1, 2, 3, 4, 5, 6, 7, 8, 9, 10, 11, 12, 13, 14, 15, 16], [], .head 0 (.head 1 (.head 2 (.head 3 (.head 4 (.head 5 (.head 6 (.head 7 (.head 8 (.head 9 (.head 10 (.head 11 (.head 12 (.head 13 (.head 14 (.alt (.one 15 (.alt (.one 16 (.one 17 (.one 18 (.one 19 (.fin))))) (.one 17 (.head 16 (.one 18 (.one 19 (.fin))))))) (.one 17 (.head 15 (.head 16 (.one 18 (.one 19 (.fin)))))))))))))))))))))⟩ | _ => none) := rfl
@[go_sem] theorem h112l : h112.live = (fun id => match id with | 0 => some [0, 2] | 1 => some [2, 5, 6] | 2 => some [2, 5, 18] | 3 => some [2, 3, 4] | 4 => some [2, 5, 7] | 5 => some [2, 5, 7, 24] | 6 => some [2, 3, 4] | 7 => some [2, 5, 7, 8] | 8 => some [2, 5, 7, 8, 32] | 9 => some [2, 3, 4] | 10 => some [2, 5, 7, 8, 9] | 11 => some [2, 5, 7, 8, 9, 37, 38, 39] | 12 => some [2, 5, 7, 8, 9, 37, 38, 39, 40] | 13 => some [2, 5, 7, 8, 9, 11, 37, 38, 39] | 14 => some [2, 5, 7, 8, 9, 37, 38, 39] | 15 => some [2, 5, 7, 8, 9, 37, 38, 39] | 16 => some [2, 3, 4] | _ => none) := rfl
@[go_sem] theorem h112k : h112.keep = (fun _ => none) := rfl
@[go_sem] theorem h112t : h112.tail = (fun id => match id with | 6 => some 3 | 9 => some 3 | 16 => some 17 | _ => none) := rfl
@[go_sem] theorem h112v : h112.vars = [] := rfl
@[go_sem] theorem h112m : h112.mutc = false := rfl
def h113 : Hint := ⟨(fun id => match id with | 0 => some [0] | 1 => some [2] | _ => none), (fun _ => none), (fun _ => none), [], false, (fun _ => none)⟩
@[go_sem] theorem h113x : h113.mix = (fun _ => none) := rfl
@[go_sem] theorem h113l : h113.live = (fun id => match id with | 0 => some [0] | 1 => some [2] | _ => none) := rfl
@[go_sem] theorem h113k : h113.keep = (fun _ => none) := rfl
@[go_sem] theorem h113t : h113.tail = (fun _ => none) := rfl
@[go_sem] theorem h113v : h113.vars = [] := rfl
@[go_sem] theorem h113m : h113.mutc = false := rfl
def h114 : Hint := ⟨(fun id => match id with | 0 => some [0, 1] | 1 => some [4] | _ => none), (fun _ => none), (fun _ => none), [], false, (fun _ => none)⟩
@[go_sem] theorem h114x : h114.mix = (fun _ => none) := rfl
@[go_sem] theorem h114l : h114.live = (fun id => match id with | 0 => some [0, 1] | 1 => some [4] | _ => none) := rfl
@[go_sem] theorem h114k : h114.keep = (fun _ => none) := rfl
@[go_sem] theorem h114t : h114.tail = (fun _ => none) := rfl
@[go_sem] theorem h114v : h114.vars = [] := rfl
@[go_sem] theorem h114m : h114.mutc = false := rfl
def h115 : Hint := ⟨(fun id => match id with | 0 => some [1, 2] | 1 => some [1, 2, 3] | 2 => some [1, 2, 3, 4] | 3 => some [1, 2, 3, 4] | 4 => some [1, 2, 3, 4, 5] | 5 => some [1, 2, 3, 4] | 6 => some [1, 2, 3, 4, 5, 22] | 7 => some [2] | 8 => some [1, 2, 3, 4, 5, 31] | 9 => some [1, 2, 4] | 10 => some [1, 2, 4, 5] | 11 => some [1, 2, 4, 47] | 12 => some [2] | 13 => some [2] | 14 => some [1, 2, 3, 4, 5, 52] | 15 => some [2] | 16 => some [1, 2, 3, 4, 69] | 17 => some [1, 2, 3, 4, 76] | 18 => some [2] | 19 => some [1, 2, 3, 4] | 20 => some [1, 2, 3, 4] | _ => none), (fun _ => none), (fun id => match id with | 5 => some 5 | 20 => some 5 | _ => none), [], false, (fun id => match id with | 5 => some ⟨[1, 2, 3], [0], .alt (.one 0 (.head 1 (.head 2 (.head 3 (.one 4 (.one 5 (.one 6 (.one 7 (.fin))))))))) (.one 1 (.alt (.one 0 (.head 2 (.head 3 (.one 4 (.one 5 (.one 6 (.one 7 (.fin)))))))) (.one 2 (.alt (.one 0 (.head 3 (.one 4 (.one 5 (.one 6 (.one 7 (.fin))))))) (.one 3 (.alt (.one 0 (.one 4 (.one 5 (.one 6 (.one 7 (.fin)))))) (.one 4 (.alt (.one 0 (.one 5 (.one 6 (.one 7 (.fin))))) (.one 5 (.one 0 (.one 6 (.one 7 (.fin)))))))))))))⟩ | 20 => some ⟨[1, 2, 3], [0], .alt (.one 0 (.head 1 (.head 2 (.head 3 (.one 4 (.one 5 (.one 6 (.one 7 (.fin))))))))) (.one 1 (.alt (.one 0 (.head 2 (.head 3 (.one 4 (.one 5 (.one 6 (.one 7 (.fin)))))))) (.one 2 (.alt (.one 0 (.head 3 (.one 4 (.one 5 (.one 6 (.one 7 (.fin))))))) (.one 3 (.alt (.one 0 (.one 4 (.one 5 (.one 6 (.one 7 (.fin)))))) (.one 4 (.alt (.one 0 (.one 5 (.one 6 (.one 7 (.fin))))) (.one 5 (.one 0 (.one 6 (.one 7 (.fin)))))))))))))⟩ | _ => none)⟩
@[go_sem] theorem h115x : h115.mix = (fun id => match id with | 5 => some ⟨[1, 2, 3], [0], .alt (.one 0 (.head 1 (.head 2 (.head 3 (.one 4 (.one 5 (.one 6 (.one 7 (.fin))))))))) (.one 1 (.alt (.one 0 (.head 2 (.head 3 (.one 4 (.one 5 (.one 6 (.one 7 (.fin)))))))) (.one 2 (.alt (.one 0 (.head 3 (.one 4 (.one 5 (.one 6 (.one 7 (.fin))))))) (.one 3 (.alt (.one 0 (.one 4 (.one 5 (.one 6 (.one 7 (.fin)))))) (.one 4 (.alt (.one 0 (.one 5 (.one 6 (.one 7 (.fin))))) (.one 5 (.one 0 (.one 6 (.one 7 (.fin)))))))))))))⟩ | 20 => some ⟨[1, 2, 3], [0], .alt (.one 0 (.head 1 (.head 2 (.head 3 (.one 4 (.one 5 (.one 6 (.one 7 (.fin))))))))) (.one 1 (.alt (.one 0 (.head 2 (.head 3 (.one 4 (.one 5 (.one 6 (.one 7 (.fin)))))))) (.one 2 (.alt (.one 0 (.head 3 (.one 4 (.one 5 (.one 6 (.one 7 (.fin))))))) (.one 3 (.alt (.one 0 (.one 4 (.one 5 (.one 6 (.one 7 (.fin)))))) (.one 4 (.alt (.one 0 (.one 5 (.one 6 (.one 7 (.fin))))) (.one 5 (.one 0 (.one 6 (.one 7 (.fin)))))))))))))⟩ | _ => none) := rfl
@[go_sem] theorem h115l : h115.live = (fun id => match id with | 0 => some [1, 2] | 1 => some [1, 2, 3] | 2 => some [1, 2, 3, 4] | 3 => some [1, 2, 3, 4] | 4 => some [1, 2, 3, 4, 5] | 5 => some [1, 2, 3, 4] | 6 => some [1, 2, 3, 4, 5, 22] | 7 => some [2] | 8 => some [1, 2, 3, 4, 5, 31] | 9 => some [1, 2, 4] | 10 => some [1, 2, 4, 5] | 11 => some [1, 2, 4, 47] | 12 => some [2] | 13 => some [2] | 14 => some [1, 2, 3, 4, 5, 52] | 15 => some [2] | 16 => some [1, 2, 3, 4, 69] | 17 => some [1, 2, 3, 4, 76] | 18 => some [2] | 19 => some [1, 2, 3, 4] | 20 => some [1, 2, 3, 4] | _ => none) := rfl
@[go_sem] theorem h115k : h115.keep = (fun _ => none) := rfl
@[go_sem] theorem h115t : h115.tail = (fun id => match id with | 5 => some 5 | 20 => some 5 | _ => none) := rfl
@[go_sem] theorem h115v : h115.vars = [] := rfl
@[go_sem] theorem h115m : h115.mutc = false := rfl
def h116 : Hint := ⟨(fun id => match id with | 0 => some [0] | 1 => some [0, 3, 4] | 2 => some [0, 3, 4, 15] | 3 => some [0, 5] | 4 => some [0, 5, 19] | 5 => some [2] | 6 => some [5] | 7 => some [2] | 8 => some [0, 3, 4, 6] | 9 => some [0, 3, 4, 6, 7] | 10 => some [0, 3, 6, 7, 32] | 11 => some [0, 3, 4, 6, 7] | 12 => some [0, 6, 7] | 13 => some [0, 6, 7] | 14 => some [0, 3, 4, 6, 7] | 15 => some [0, 6, 54] | 16 => some [0, 6, 54] | 17 => some [6, 68] | 18 => some [2] | 19 => some [2] | _ => none), (fun _ => none), (fun _ => none), [], false, (fun _ => none)⟩
@[go_sem] theorem h116x : h116.mix = (fun _ => none) := rfl
@[go_sem] theorem h116l : h116.live = (fun id => match id with | 0 => some [0] | 1 => some [0, 3, 4] | 2 => some [0, 3, 4, 15] | 3 => some [0, 5] | 4 => some [0, 5, 19] | 5 => some [2] | 6 => some [5] | 7 => some [2] | 8 => some [0, 3, 4, 6] | 9 => some [0, 3, 4, 6, 7] | 10 => some [0, 3, 6, 7, 32] | 11 => some [0, 3, 4, 6, 7] | 12 => some [0, 6, 7] | 13 => some [0, 6, 7] | 14 => some [0, 3, 4, 6, 7] | 15 => some [0, 6, 54] | 16 => some [0, 6, 54] | 17 => some [6, 68] | 18 => some [2] | 19 => some [2] | _ => none) := rfl
@[go_sem] theorem h116k : h116.keep = (fun _ => none) := rfl
@[go_sem] theorem h116t : h116.tail = (fun _ => none) := rfl
@[go_sem] theorem h116v : h116.vars = [] := rfl
@[go_sem] theorem h116m : h116.mutc = false := rfl
def h117 : Hint := ⟨(fun id => match id with | 0 => some [0] | 1 => some [2] | _ => none), (fun _ => none), (fun _ => none), [], false, (fun _ => none)⟩
@[go_sem] theorem h117x : h117.mix = (fun _ => none) := rfl
@[go_sem] theorem h117l : h117.live = (fun id => match id with | 0 => some [0] | 1 => some [2] | _ => none) := rfl
@[go_sem] theorem h117k : h117.keep = (fun _ => none) := rfl
@[go_sem] theorem h117t : h117.tail = (fun _ => none) := rfl
@[go_sem] theorem h117v : h117.vars = [] := rfl
@[go_sem] theorem h117m : h117.mutc = false := rfl
def h118 : Hint := ⟨(fun id => match id with | 0 => some [0] | 1 => some [2] | _ => none), (fun _ => none), (fun _ => none), [], false, (fun _ => none)⟩
@[go_sem] theorem h118x : h118.mix = (fun _ => none) := rfl
@[go_sem] theorem h118l : h118.live = (fun id => match id with | 0 => some [0] | 1 => some [2] | _ => none) := rfl
@[go_sem] theorem h118k : h118.keep = (fun _ => none) := rfl
@[go_sem] theorem h118t : h118.tail = (fun _ => none) := rfl
@[go_sem] theorem h118v : h118.vars = [] := rfl
@[go_sem] theorem h118m : h118.mutc = false := rfl
def h119 : Hint := ⟨(fun id => match id with | 0 => some [0, 4] | 1 => some [0] | _ => none), (fun _ => none), (fun _ => none), [], false, (fun _ => none)⟩
@[go_sem] theorem h119x : h119.mix = (fun _ => none) := rfl
@[go_sem] theorem h119l : h119.live = (fun id => match id with | 0 => some [0, 4] | 1 => some [0] | _ => none) := rfl
@[go_sem] theorem h119k : h119.keep = (fun _ => none) := rfl
@[go_sem] theorem h119t : h119.tail = (fun _ => none) := rfl
@[go_sem] theorem h119v : h119.vars = [] := rfl
@[go_sem] theorem h119m : h119.mutc = false := rfl
def h120 : Hint := ⟨(fun id => match id with | 0 => some [0, 2] | 1 => some [0, 2, 5, 6] | 2 => some [0, 2, 5, 6, 28] | 3 => some [0, 2, 5, 6] | 4 => some [0, 2, 5, 6, 28] | 5 => some [0, 2, 5, 6, 7] | 6 => some [0, 2, 6, 7, 8, 9, 10] | 7 => some [0, 2, 5, 6, 8, 9, 10] | 8 => some [0, 2, 5, 6, 8, 9, 10, 52] | 9 => some [0, 2, 5, 6, 7, 8] | 10 => some [0, 2, 5, 6, 7, 8, 60] | 11 => some [2, 3, 4] | 12 => some [0, 2, 5, 6, 7, 8] | 13 => some [0, 2, 6, 7, 8, 9, 10] | 14 => some [0, 2, 5, 6, 8, 9, 10, 52] | 15 => some [0, 2, 5, 6, 8, 9, 10, 75] | 16 => some [2, 3, 4] | 17 => some [0, 2, 5, 6, 8, 9, 10, 11] | 18 => some [0, 2, 5, 6, 8, 9, 10, 11, 80] | 19 => some [0, 2, 5, 6, 8, 9, 11, 90] | 20 => some [2, 3, 4] | 21 => some [0, 2, 5, 6, 8, 9, 10, 11] | 22 => some [0, 2, 5, 6, 8, 9, 10, 11] | 23 => some [0, 2, 5, 6, 8, 9, 10, 11, 12] | 24 => some [0, 2, 5, 6, 8, 9, 10, 11, 12, 109] | 25 => some [0, 2, 5, 6, 8, 9, 10, 11, 12] | 26 => some [0, 2, 5, 6, 8, 9, 10, 11, 12, 109] | 27 => some [0, 2, 5, 6, 7, 8, 9, 10, 11, 12] | 28 => some [0, 2, 5, 6, 7, 8, 9, 10, 11, 12, 127] | 29 => some [2, 3, 4] | 30 => some [0, 2, 5, 6, 7, 8, 9, 10, 11, 12, 131] | 31 => some [0, 2, 5, 6, 7, 8, 9, 10, 11, 12, 127] | 32 => some [0, 2, 5, 6, 7, 8, 9, 10, 11, 12] | 33 => some [2, 6, 8, 9, 10, 11, 143] | 34 => some [0, 2, 5, 6, 8, 9, 10, 11, 80] | 35 => some [2, 3, 4] | _ => none), (fun _ => none), (fun _ => none), [], false, (fun _ => none)⟩
@[go_sem] theorem h120x : h120.mix = (fun _ => none) := rfl
@[go_sem] theorem h120l : h120.live = (fun id => match id with | 0 => some [0, 2] | 1 => some [0, 2, 5, 6] | 2 => some [0, 2, 5, 6, 28] | 3 => some [0, 2, 5, 6] | 4 => some [0, 2, 5, 6, 28] | 5 => some [0, 2, 5, 6, 7] | 6 => some [0, 2, 6, 7, 8, 9, 10] | 7 => some [0, 2, 5, 6, 8, 9, 10] | 8 => some [0, 2, 5, 6, 8, 9, 10, 52] | 9 => some [0, 2, 5, 6, 7, 8] | 10 => some [0, 2, 5, 6, 7, 8, 60] | 11 => some [2, 3, 4] | 12 => some [0, 2, 5, 6, 7, 8] | 13 => some [0, 2, 6, 7, 8, 9, 10] | 14 => some [0, 2, 5, 6, 8, 9, 10, 52] | 15 => some [0, 2, 5, 6, 8, 9, 10, 75] | 16 => some [2, 3, 4] | 17 => some [0, 2, 5, 6, 8, 9, 10, 11] | 18 => some [0, 2, 5, 6, 8, 9, 10, 11, 80] | 19 => some [0, 2, 5, 6, 8, 9, 11, 90] | 20 => some [2, 3, 4] | 21 => some [0, 2, 5, 6, 8, 9, 10, 11] | 22 => some [0, 2, 5, 6, 8, 9, 10, 11] | 23 => some [0, 2, 5, 6, 8, 9, 10, 11, 12] | 24 => some [0, 2, 5, 6, 8, 9, 10, 11, 12, 109] | 25 => some [0, 2, 5, 6, 8, 9, 10, 11, 12] | 26 => some [0, 2, 5, 6, 8, 9, 10, 11, 12, 109] | 27 => some [0, 2, 5, 6, 7, 8, 9, 10, 11, 12] | 28 => some [0, 2, 5, 6, 7, 8, 9, 10, 11, 12, 127] | 29 => some [2, 3, 4] | 30 => some [0, 2, 5, 6, 7, 8, 9, 10, 11, 12, 131] | 31 => some [0, 2, 5, 6, 7, 8, 9, 10, 11, 12, 127] | 32 => some [0, 2, 5, 6, 7, 8, 9, 10, 11, 12] | 33 => some [2, 6, 8, 9, 10, 11, 143] | 34 => some [0, 2, 5, 6, 8, 9, 10, 11, 80] | 35 => some [2, 3, 4] | _ => none) := rfl
@[go_sem] theorem h120k : h120.keep = (fun _ => none) := rfl
@[go_sem] theorem h120t : h120.tail = (fun _ => none) := rfl
@[go_sem] theorem h120v : h120.vars = [] := rfl
@[go_sem] theorem h120m : h120.mutc = false := rfl
def h121 : Hint := ⟨(fun id => match id with | 0 => some [0, 2] | 1 => some [0, 2] | 2 => some [0, 2, 3] | 3 => some [0, 2, 3, 4] | 4 => some [0, 2, 3] | 5 => some [0, 2, 3] | 6 => some [0, 2, 3, 4, 20] | 7 => some [2, 3] | 8 => some [2] | 9 => some [0, 2, 3, 4, 37] | 10 => some [0, 2, 3] | 11 => some [0, 2, 3, 4] | 12 => some [0, 2, 3, 49] | 13 => some [2] | 14 => some [0, 2, 3, 4, 52] | 15 => some [2] | 16 => some [0, 2, 3, 4, 69] | 17 => some [0, 2, 3, 76] | 18 => some [2] | 19 => some [0, 2, 3] | 20 => some [0, 2, 3] | _ => none), (fun _ => none), (fun _ => none), [3], false, (fun _ => none)⟩
@[go_sem] theorem h121x : h121.mix = (fun _ => none) := rfl
@[go_sem] theorem h121l : h121.live = (fun id => match id with | 0 => some [0, 2] | 1 => some [0, 2] | 2 => some [0, 2, 3] | 3 => some [0, 2, 3, 4] | 4 => some [0, 2, 3] | 5 => some [0, 2, 3] | 6 => some [0, 2, 3, 4, 20] | 7 => some [2, 3] | 8 => some [2] | 9 => some [0, 2, 3, 4, 37] | 10 => some [0, 2, 3] | 11 => some [0, 2, 3, 4] | 12 => some [0, 2, 3, 49] | 13 => some [2] | 14 => some [0, 2, 3, 4, 52] | 15 => some [2] | 16 => some [0, 2, 3, 4, 69] | 17 => some [0, 2, 3, 76] | 18 => some [2] | 19 => some [0, 2, 3] | 20 => some [0, 2, 3] | _ => none) := rfl
@[go_sem] theorem h121k : h121.keep = (fun _ => none) := rfl
@[go_sem] theorem h121t : h121.tail = (fun _ => none) := rfl
@[go_sem] theorem h121v : h121.vars = [3] := rfl
@[go_sem] theorem h121m : h121.mutc = false := rfl
def h122 : Hint := ⟨(fun id => match id with | 0 => some [0] | 1 => some [0, 3] | 2 => some [3, 6, 7, 8] | 3 => some [3, 6, 7, 8, 9] | 4 => some [3, 5, 6, 7, 8] | 5 => some [3, 5, 6, 7, 8, 14] | 6 => some [3, 5, 6, 7, 8, 14] | 7 => some [3, 6, 7, 8] | 8 => some [3, 5, 6, 7, 8, 36] | 9 => some [3, 6, 7, 8] | 10 => some [3, 5, 6, 7, 8, 44] | 11 => some [3, 6, 7, 8] | 12 => some [3, 5, 6, 7, 8, 58] | 13 => some [3, 6, 7, 8] | 14 => some [3, 6, 7, 8] | 15 => some [2] | _ => none), (fun _ => none), (fun _ => none), [3], false, (fun _ => none)⟩
@[go_sem] theorem h122x : h122.mix = (fun _ => none) := rfl
@[go_sem] theorem h122l : h122.live = (fun id => match id with | 0 => some [0] | 1 => some [0, 3] | 2 => some [3, 6, 7, 8] | 3 => some [3, 6, 7, 8, 9] | 4 => some [3, 5, 6, 7, 8] | 5 => some [3, 5, 6, 7, 8, 14] | 6 => some [3, 5, 6, 7, 8, 14] | 7 => some [3, 6, 7, 8] | 8 => some [3, 5, 6, 7, 8, 36] | 9 => some [3, 6, 7, 8] | 10 => some [3, 5, 6, 7, 8, 44] | 11 => some [3, 6, 7, 8] | 12 => some [3, 5, 6, 7, 8, 58] | 13 => some [3, 6, 7, 8] | 14 => some [3, 6, 7, 8] | 15 => some [2] | _ => none) := rfl
@[go_sem] theorem h122k : h122.keep = (fun _ => none) := rfl
@[go_sem] theorem h122t : h122.tail = (fun _ => none) := rfl
@[go_sem] theorem h122v : h122.vars = [3] := rfl
@[go_sem] theorem h122m : h122.mutc = false := rfl
def h123 : Hint := ⟨(fun id => match id with | 0 => some [0] | 1 => some [0, 4] | 2 => some [0, 4, 5, 6] | 3 => some [0, 4, 5, 6] | 4 => some [2, 3] | 5 => some [0, 4, 5, 6, 13] | 6 => some [2, 3] | 7 => some [0, 4, 5, 6, 18] | 8 => some [0, 5, 6, 7, 8] | 9 => some [0, 4, 5, 6, 28] | 10 => some [0, 4, 5, 6, 7, 8] | 11 => some [0, 5, 6, 7, 8, 38] | 12 => some [0, 5, 6, 7, 8, 38, 39] | 13 => some [0, 5, 6, 7, 8, 38, 39] | 14 => some [0, 5, 6, 7, 8, 41] | 15 => some [0, 5, 6, 7, 8, 38, 39] | 16 => some [0, 4, 5, 6, 43] | 17 => some [0, 4, 5, 6, 7, 8] | 18 => some [0, 5, 6, 7, 8, 53] | 19 => some [0, 5, 6, 7, 8, 53, 54] | 20 => some [0, 5, 6, 7, 8, 53, 54] | 21 => some [0, 5, 6, 7, 8, 56] | 22 => some [0, 5, 6, 7, 8, 53, 54] | 23 => some [0, 5, 6, 7, 8, 58, 59] | 24 => some [0, 5, 6, 7, 8, 58, 59, 60] | 25 => some [0, 5, 6, 7, 8, 9, 58, 59] | 26 => some [0, 7, 8, 9, 58, 59, 84] | 27 => some [2, 3] | 28 => some [0, 7, 8, 58, 59] | 29 => some [0, 5, 6, 7, 8, 58, 59] | 30 => some [0, 5, 6, 7, 8, 58, 59] | 31 => some [2, 3] | _ => none), (fun _ => none), (fun _ => none), [], false, (fun _ => none)⟩
@[go_sem] theorem h123x : h123.mix = (fun _ => none) := rfl
@[go_sem] theorem h123l : h123.live = (fun id => match id with | 0 => some [0] | 1 => some [0, 4] | 2 => some [0, 4, 5, 6] | 3 => some [0, 4, 5, 6] | 4 => some [2, 3] | 5 => some [0, 4, 5, 6, 13] | 6 => some [2, 3] | 7 => some [0, 4, 5, 6, 18] | 8 => some [0, 5, 6, 7, 8] | 9 => some [0, 4, 5, 6, 28] | 10 => some [0, 4, 5, 6, 7, 8] | 11 => some [0, 5, 6, 7, 8, 38] | 12 => some [0, 5, 6, 7, 8, 38, 39] | 13 => some [0, 5, 6, 7, 8, 38, 39] | 14 => some [0, 5, 6, 7, 8, 41] | 15 => some [0, 5, 6, 7, 8, 38, 39] | 16 => some [0, 4, 5, 6, 43] | 17 => some [0, 4, 5, 6, 7, 8] | 18 => some [0, 5, 6, 7, 8, 53] | 19 => some [0, 5, 6, 7, 8, 53, 54] | 20 => some [0, 5, 6, 7, 8, 53, 54] | 21 => some [0, 5, 6, 7, 8, 56] | 22 => some [0, 5, 6, 7, 8, 53, 54] | 23 => some [0, 5, 6, 7, 8, 58, 59] | 24 => some [0, 5, 6, 7, 8, 58, 59, 60] | 25 => some [0, 5, 6, 7, 8, 9, 58, 59] | 26 => some [0, 7, 8, 9, 58, 59, 84] | 27 => some [2, 3] | 28 => some [0, 7, 8, 58, 59] | 29 => some [0, 5, 6, 7, 8, 58, 59] | 30 => some [0, 5, 6, 7, 8, 58, 59] | 31 => some [2, 3] | _ => none) := rfl
@[go_sem] theorem h123k : h123.keep = (fun _ => none) := rfl
@[go_sem] theorem h123t : h123.tail = (fun _ => none) := rfl
@[go_sem] theorem h123v : h123.vars = [] := rfl
@[go_sem] theorem h123m : h123.mutc = false := rfl
def h124 : Hint := ⟨(fun id => match id with | 0 => some [0, 1] | 1 => some [0, 1, 7] | 2 => some [0, 1, 7, 18] | 3 => some [4, 5, 6] | 4 => some [0, 1, 7, 8, 9, 10] | 5 => some [0, 1, 7, 8, 9, 10, 28] | 6 => some [4, 5, 6] | 7 => some [0, 1, 8, 9, 10, 11] | 8 => some [0, 1, 8, 9, 10, 11, 12] | 9 => some [0, 1, 8, 9, 10, 11, 12, 37] | 10 => some [0, 1, 8, 9, 10, 11, 12] | 11 => some [0, 1, 8, 11, 12, 65] | 12 => some [4, 5, 6] | 13 => some [0, 1, 8, 11, 12] | 14 => some [0, 1, 8, 9, 10, 11, 12] | 15 => some [4, 5, 6] | _ => none), (fun _ => none), (fun _ => none), [], false, (fun _ => none)⟩
@[go_sem] theorem h124x : h124.mix = (fun _ => none) := rfl
@[go_sem] theorem h124l : h124.live = (fun id => match id with | 0 => some [0, 1] | 1 => some [0, 1, 7] | 2 => some [0, 1, 7, 18] | 3 => some [4, 5, 6] | 4 => some [0, 1, 7, 8, 9, 10] | 5 => some [0, 1, 7, 8, 9, 10, 28] | 6 => some [4, 5, 6] | 7 => some [0, 1, 8, 9, 10, 11] | 8 => some [0, 1, 8, 9, 10, 11, 12] | 9 => some [0, 1, 8, 9, 10, 11, 12, 37] | 10 => some [0, 1, 8, 9, 10, 11, 12] | 11 => some [0, 1, 8, 11, 12, 65] | 12 => some [4, 5, 6] | 13 => some [0, 1, 8, 11, 12] | 14 => some [0, 1, 8, 9, 10, 11, 12] | 15 => some [4, 5, 6] | _ => none) := rfl
@[go_sem] theorem h124k : h124.keep = (fun _ => none) := rfl
@[go_sem] theorem h124t : h124.tail = (fun _ => none) := rfl
@[go_sem] theorem h124v : h124.vars = [] := rfl
@[go_sem] theorem h124m : h124.mutc = false := rfl
def h133 : Hint := ⟨(fun id => match id with | 0 => some [0, 1] | 1 => some [0, 1, 16] | 2 => some [0, 1] | 3 => some [4] | _ => none), (fun _ => none), (fun _ => none), [], false, (fun _ => none)⟩
@[go_sem] theorem h133x : h133.mix = (fun _ => none) := rfl
@[go_sem] theorem h133l : h133.live = (fun id => match id with | 0 => some [0, 1] | 1 => some [0, 1, 16] | 2 => some [0, 1] | 3 => some [4] | _ => none) := rfl
@[go_sem] theorem h133k : h133.keep = (fun _ => none) := rfl
@[go_sem] theorem h133t : h133.tail = (fun _ => none) := rfl
@[go_sem] theorem h133v : h133.vars = [] := rfl
@[go_sem] theorem h133m : h133.mutc = false := rfl
def h142 : Hint := ⟨(fun id => match id with | 0 => some [0] | 1 => some [0, 3] | 2 => some [2] | 3 => some [0, 8] | 4 => some [2] | 5 => some [0, 18] | 6 => some [2] | 7 => some [2] | _ => none), (fun _ => none), (fun _ => none), [], false, (fun _ => none)⟩
@[go_sem] theorem h142x : h142.mix = (fun _ => none) := rfl
@[go_sem] theorem h142l : h142.live = (fun id => match id with | 0 => some [0] | 1 => some [0, 3] | 2 => some [2] | 3 => some [0, 8] | 4 => some [2] | 5 => some [0, 18] | 6 => some [2] | 7 => some [2] | _ => none) := rfl
@[go_sem] theorem h142k : h142.keep = (fun _ => none) := rfl
@[go_sem] theorem h142t : h142.tail = (fun _ => none) := rfl
@[go_sem] theorem h142v : h142.vars = [] := rfl
@[go_sem] theorem h142m : h142.mutc = false := rfl
def h143 : Hint := ⟨(fun id => match id with | 0 => some [0, 2] | 1 => some [0, 2, 4] | 2 => some [0, 2, 4, 21] | 3 => some [0, 2, 4, 21] | 4 => some [0, 2, 4, 5] | 5 => some [0, 2, 4] | 6 => some [0, 2, 4, 44] | 7 => some [0, 2, 4, 6] | 8 => some [0, 2, 4, 6, 49] | 9 => some [2, 3] | 10 => some [0, 2, 4, 6] | 11 => some [0, 2, 4, 44] | 12 => some [0, 2, 4, 68] | 13 => some [2, 3] | 14 => some [0, 2, 4, 71] | 15 => some [2, 3] | 16 => some [0, 2, 4, 80] | 17 => some [2, 3] | 18 => some [0, 2, 4] | 19 => some [0, 2, 4, 7] | 20 => some [0, 2, 4, 7, 96] | 21 => some [0, 2, 4, 7, 96] | 22 => some [0, 2, 4, 7, 110] | 23 => some [2, 3] | 24 => some [2, 4, 7, 113, 114, 115] | 25 => some [2, 4, 7, 113, 114, 115, 116] | 26 => some [2, 4, 7, 9, 113, 114, 115] | 27 => some [2, 4, 7, 113, 114, 115] | 28 => some [2, 4, 7, 113, 114, 115] | 29 => some [2, 4, 129] | 30 => some [2, 4, 129] | 31 => some [2, 3] | _ => none), (fun _ => none), (fun id => match id with | 3 => some 6 | 5 => some 7 | 10 => some 9 | 21 => some 5 | _ => none), [], false, (fun id => match id with | 3 => some ⟨[0, 1, 2, 3, 4, 5], [], .head 0 (.head 1 (.head 2 (.head 5 (.alt (.one 3 (.alt (.one 4 (.one 6 (.one 7 (.fin)))) (.one 6 (.head 4 (.one 7 (.fin)))))) (.one 6 (.head 3 (.head 4 (.one 7 (.fin)))))))))⟩ | 5 => some ⟨[0, 1, 2, 3, 4, 5, 6, 9], [], .head 0 (.head 1 (.head 2 (.head 6 (.alt (.one 3 (.alt (.one 4 (.alt (.one 5 (.one 7 (.one 8 (.head 9 (.one 10 (.fin)))))) (.one 7 (.head 5 (.one 8 (.head 9 (.one 10 (.fin)))))))) (.one 7 (.head 4 (.head 5 (.one 8 (.head 9 (.one 10 (.fin))))))))) (.alt (.one 4 (.alt (.one 3 (.alt (.one 5 (.one 7 (.one 8 (.head 9 (.one 10 (.fin)))))) (.one 7 (.head 5 (.one 8 (.head 9 (.one 10 (.fin)))))))) (.one 7 (.head 3 (.head 5 (.one 8 (.head 9 (.one 10 (.fin))))))))) (.one 7 (.head 3 (.head 4 (.head 5 (.one 8 (.head 9 (.one 10 (.fin)))))))))))))⟩ | 10 => some ⟨[0, 1, 2, 3, 4, 5, 6, 7, 8, 10, 12], [], .head 0 (.head 1 (.head 2 (.head 3 (.head 4 (.head 5 (.head 6 (.head 8 (.alt (.one 7 (.one 9 (.head 10 (.one 11 (.head 12 (.one 13 (.fin))))))) (.one 9 (.head 7 (.head 10 (.one 11 (.head 12 (.one 13 (.fin)))))))))))))))⟩ | 21 => some ⟨[0, 1, 2, 3, 4], [], .head 0 (.head 1 (.head 2 (.alt (.one 3 (.alt (.one 4 (.one 5 (.one 6 (.fin)))) (.one 5 (.head 4 (.one 6 (.fin)))))) (.one 5 (.head 3 (.head 4 (.one 6 (.fin))))))))⟩ | _ => none)⟩
@[go_sem] theorem h143x : h143.mix = (fun id => match id with | 3 => some ⟨[0, 1, 2, 3, 4, 5], [], .head 0 (.head 1 (.head 2 (.head 5 (.alt (.one 3 (.alt (.one 4 (.one 6 (.one 7 (.fin)))) (.one 6 (.head 4 (.one 7 (.fin)))))) (.one 6 (.head 3 (.head 4 (.one 7 (.fin)))))))))⟩ | 5 => some ⟨[0, 1, 2, 3, 4, 5, 6, 9], [], .head 0 (.head 1 (.head 2 (.head 6 (.alt (.one 3 (.alt (.one 4 (.alt (.one 5 (.one 7 (.one 8 (.head 9 (.one 10 (.fin)))))) (.one 7 (.head 5 (.one 8 (.head 9 (.one 10 (.fin)))))))) (.one 7 (.head 4 (.head 5 (.one 8 (.head 9 (.one 10 (.fin))))))))) (.alt (.one 4 (.alt (.one 3 (.alt (.one 5 (.one 7 (.one 8 (.head 9 (.one 10 (.fin)))))) (.one 7 (.head 5 (.one 8 (.head 9 (.one 10 (.fin)))))))) (.one 7 (.head 3 (.head 5 (.one 8 (.head 9 (.one 10 (.fin))))))))) (.one 7 (.head 3 (.head 4 (.head 5 (.one 8 (.head 9 (.one 10 (.fin)))))))))))))⟩ | 10 => some ⟨[0, 1, 2, 3, 4, 5, 6, 7, 8, 10, 12], [], .head 0 (.head 1 (.head 2 (.head 3 (.head 4 (.head 5 (.head 6 (.head 8 (.alt (.one 7 (.one 9 (.head 10 (.one 11 (.head 12 (.one 13 (.fin))))))) (.one 9 (.head 7 (.head 10 (.one 11 (.head 12 (.one 13 (.fin)))))))))))))))⟩ | 21 => some ⟨[0, 1, 2, 3, 4], [], .head 0 (.head 1 (.head 2 (.alt (.one 3 (.alt (.one 4 (.one 5 (.one 6 (.fin)))) (.one 5 (.head 4 (.one 6 (.fin)))))) (.one 5 (.head 3 (.head 4 (.one 6 (.fin))))))))⟩ | _ => none) := rfl
@[go_sem] theorem h143l : h143.live = (fun id => match id with | 0 => some [0, 2] | 1 => some [0, 2, 4] | 2 => some [0, 2, 4, 21] | 3 => some [0, 2, 4, 21] | 4 => some [0, 2, 4, 5] | 5 => some [0, 2, 4] | 6 => some [0, 2, 4, 44] | 7 => some [0, 2, 4, 6] | 8 => some [0, 2, 4, 6, 49] | 9 => some [2, 3] | 10 => some [0, 2, 4, 6] | 11 => some [0, 2, 4, 44] | 12 => some [0, 2, 4, 68] | 13 => some [2, 3] | 14 => some [0, 2, 4, 71] | 15 => some [2, 3] | 16 => some [0, 2, 4, 80] | 17 => some [2, 3] | 18 => some [0, 2, 4] | 19 => some [0, 2, 4, 7] | 20 => some [0, 2, 4, 7, 96] | 21 => some [0, 2, 4, 7, 96] | 22 => some [0, 2, 4, 7, 110] | 23 => some [2, 3] | 24 => some [2, 4, 7, 113, 114, 115] | 25 => some [2, 4, 7, 113, 114, 115, 116] | 26 => some [2, 4, 7, 9, 113, 114, 115] | 27 => some [2, 4, 7, 113, 114, 115] | 28 => some [2, 4, 7, 113, 114, 115] | 29 => some [2, 4, 129] | 30 => some [2, 4, 129] | 31 => some [2, 3] | _ => none) := rfl
@[go_sem] theorem h143k : h143.keep = (fun _ => none) := rfl
@[go_sem] theorem h143t : h143.tail = (fun id => match id with | 3 => some 6 | 5 => some 7 | 10 => some 9 | 21 => some 5 | _ => none) := rfl
@[go_sem] theorem h143v : h143.vars = [] := rfl
@[go_sem] theorem h143m : h143.mutc = false := rfl
def h144 : Hint := ⟨(fun id => match id with | 0 => some [0, 1] | 1 => some [0, 1, 12] | 2 => some [4] | 3 => some [0, 1, 21] | 4 => some [4] | 5 => some [0, 1, 5, 6] | 6 => some [0, 1, 5, 31] | 7 => some [4] | 8 => some [4] | _ => none), (fun _ => none), (fun _ => none), [], false, (fun _ => none)⟩
@[go_sem] theorem h144x : h144.mix = (fun _ => none) := rfl
@[go_sem] theorem h144l : h144.live = (fun id => match id with | 0 => some [0, 1] | 1 => some [0, 1, 12] | 2 => some [4] | 3 => some [0, 1, 21] | 4 => some [4] | 5 => some [0, 1, 5, 6] | 6 => some [0, 1, 5, 31] | 7 => some [4] | 8 => some [4] | _ => none) := rfl
@[go_sem] theorem h144k : h144.keep = (fun _ => none) := rfl
@[go_sem] theorem h144t : h144.tail = (fun _ => none) := rfl
@[go_sem] theorem h144v : h144.vars = [] := rfl
@[go_sem] theorem h144m : h144.mutc = false := rfl
def h145 : Hint := ⟨(fun id => match id with | 0 => some [0, 1, 2, 6] | 1 => some [0, 1, 2, 6, 16] | 2 => some [6] | 3 => some [0, 1, 2, 6, 19] | 4 => some [0, 1, 2, 6, 16] | 5 => some [0, 1, 2, 6, 23] | 6 => some [6] | 7 => some [0, 1, 2, 6] | 8 => some [0, 1, 2, 6, 7] | 9 => some [0, 1, 2, 6, 7, 27, 28, 29] | 10 => some [0, 1, 2, 6, 7, 27, 28, 29, 30] | 11 => some [0, 1, 2, 6, 7, 9, 27, 28, 29] | 12 => some [0, 1, 2, 6, 7, 9, 10, 27, 28, 29] | 13 => some [0, 1, 2, 6, 7, 9, 10, 27, 28, 29, 35] | 14 => some [0, 1, 2, 6, 7, 9, 10, 27, 28, 29] | 15 => some [0, 1, 2, 6, 7, 9, 10, 27, 28, 29, 41] | 16 => some [0, 1, 2, 6, 7, 9, 10, 27, 28, 29] | 17 => some [0, 1, 2, 6, 7, 9, 10, 27, 28, 29, 48] | 18 => some [6] | 19 => some [0, 1, 2, 6, 7, 9, 10, 27, 28, 29] | 20 => some [0, 1, 2, 6, 7, 27, 28, 29] | 21 => some [6] | _ => none), (fun _ => none), (fun _ => none), [], false, (fun _ => none)⟩
@[go_sem] theorem h145x : h145.mix = (fun _ => none) := rfl
@[go_sem] theorem h145l : h145.live = (fun id => match id with | 0 => some [0, 1, 2, 6] | 1 => some [0, 1, 2, 6, 16] | 2 => some [6] | 3 => some [0, 1, 2, 6, 19] | 4 => some [0, 1, 2, 6, 16] | 5 => some [0, 1, 2, 6, 23] | 6 => some [6] | 7 => some [0, 1, 2, 6] | 8 => some [0, 1, 2, 6, 7] | 9 => some [0, 1, 2, 6, 7, 27, 28, 29] | 10 => some [0, 1, 2, 6, 7, 27, 28, 29, 30] | 11 => some [0, 1, 2, 6, 7, 9, 27, 28, 29] | 12 => some [0, 1, 2, 6, 7, 9, 10, 27, 28, 29] | 13 => some [0, 1, 2, 6, 7, 9, 10, 27, 28, 29, 35] | 14 => some [0, 1, 2, 6, 7, 9, 10, 27, 28, 29] | 15 => some [0, 1, 2, 6, 7, 9, 10, 27, 28, 29, 41] | 16 => some [0, 1, 2, 6, 7, 9, 10, 27, 28, 29] | 17 => some [0, 1, 2, 6, 7, 9, 10, 27, 28, 29, 48] | 18 => some [6] | 19 => some [0, 1, 2, 6, 7, 9, 10, 27, 28, 29] | 20 => some [0, 1, 2, 6, 7, 27, 28, 29] | 21 => some [6] | _ => none) := rfl
@[go_sem] theorem h145k : h145.keep = (fun _ => none) := rfl
@[go_sem] theorem h145t : h145.tail = (fun _ => none) := rfl
@[go_sem] theorem h145v : h145.vars = [] := rfl
@[go_sem] theorem h145m : h145.mutc = false := rfl
def h147 : Hint := ⟨(fun id => match id with | 0 => some [0] | 1 => some [0, 8] | 2 => some [2] | 3 => some [2] | _ => none), (fun _ => none), (fun _ => none), [], false, (fun _ => none)⟩
@[go_sem] theorem h147x : h147.mix = (fun _ => none) := rfl
@[go_sem] theorem h147l : h147.live = (fun id => match id with | 0 => some [0] | 1 => some [0, 8] | 2 => some [2] | 3 => some [2] | _ => none) := rfl
@[go_sem] theorem h147k : h147.keep = (fun _ => none) := rfl
@[go_sem] theorem h147t : h147.tail = (fun _ => none) := rfl
@[go_sem] theorem h147v : h147.vars = [] := rfl
@[go_sem] theorem h147m : h147.mutc = false := rfl
def h148 : Hint := ⟨(fun id => match id with | 0 => some [0, 1, 2] | 1 => some [0, 1, 2, 7] | 2 => some [0, 1, 2, 7] | 3 => some [2] | _ => none), (fun _ => none), (fun _ => none), [], false, (fun _ => none)⟩
@[go_sem] theorem h148x : h148.mix = (fun _ => none) := rfl
@[go_sem] theorem h148l : h148.live = (fun id => match id with | 0 => some [0, 1, 2] | 1 => some [0, 1, 2, 7] | 2 => some [0, 1, 2, 7] | 3 => some [2] | _ => none) := rfl
@[go_sem] theorem h148k : h148.keep = (fun _ => none) := rfl
@[go_sem] theorem h148t : h148.tail = (fun _ => none) := rfl
@[go_sem] theorem h148v : h148.vars = [] := rfl
@[go_sem] theorem h148m : h148.mutc = false := rfl
def h149 : Hint := ⟨(fun id => match id with | 0 => some [0, 2] | 1 => some [0, 2] | 2 => some [0, 2, 12] | 3 => some [2] | 4 => some [0, 2, 19] | 5 => some [2] | 6 => some [2] | 7 => some [0, 2, 35] | 8 => some [0, 2] | 9 => some [0, 2] | _ => none), (fun _ => none), (fun _ => none), [], false, (fun _ => none)⟩
@[go_sem] theorem h149x : h149.mix = (fun _ => none) := rfl
@[go_sem] theorem h149l : h149.live = (fun id => match id with | 0 => some [0, 2] | 1 => some [0, 2] | 2 => some [0, 2, 12] | 3 => some [2] | 4 => some [0, 2, 19] | 5 => some [2] | 6 => some [2] | 7 => some [0, 2, 35] | 8 => some [0, 2] | 9 => some [0, 2] | _ => none) := rfl
@[go_sem] theorem h149k : h149.keep = (fun _ => none) := rfl
@[go_sem] theorem h149t : h149.tail = (fun _ => none) := rfl
@[go_sem] theorem h149v : h149.vars = [] := rfl
@[go_sem] theorem h149m : h149.mutc = false := rfl
def h150 : Hint := ⟨(fun id => match id with | 0 => some [0] | 1 => some [2] | _ => none), (fun _ => none), (fun _ => none), [], false, (fun _ => none)⟩
@[go_sem] theorem h150x : h150.mix = (fun _ => none) := rfl
@[go_sem] theorem h150l : h150.live = (fun id => match id with | 0 => some [0] | 1 => some [2] | _ => none) := rfl
@[go_sem] theorem h150k : h150.keep = (fun _ => none) := rfl
@[go_sem] theorem h150t : h150.tail = (fun _ => none) := rfl
@[go_sem] theorem h150v : h150.vars = [] := rfl
@[go_sem] theorem h150m : h150.mutc = false := rfl
def h151 : Hint := ⟨(fun id => match id with | 0 => some [0] | 1 => some [0, 4] | 2 => some [2, 3] | 3 => some [0, 9] | 4 => some [2, 3] | 5 => some [0, 19] | 6 => some [2, 3] | 7 => some [2, 3] | _ => none), (fun _ => none), (fun _ => none), [], false, (fun _ => none)⟩
@[go_sem] theorem h151x : h151.mix = (fun _ => none) := rfl
@[go_sem] theorem h151l : h151.live = (fun id => match id with | 0 => some [0] | 1 => some [0, 4] | 2 => some [2, 3] | 3 => some [0, 9] | 4 => some [2, 3] | 5 => some [0, 19] | 6 => some [2, 3] | 7 => some [2, 3] | _ => none) := rfl
@[go_sem] theorem h151k : h151.keep = (fun _ => none) := rfl
@[go_sem] theorem h151t : h151.tail = (fun _ => none) := rfl
@[go_sem] theorem h151v : h151.vars = [] := rfl
@[go_sem] theorem h151m : h151.mutc = false := rfl
def h152 : Hint := ⟨(fun id => match id with | 0 => some [0, 1] | 1 => some [0, 1, 14] | 2 => some [0, 1] | 3 => some [4] | _ => none), (fun _ => none), (fun _ => none), [], false, (fun _ => none)⟩
@[go_sem] theorem h152x : h152.mix = (fun _ => none) := rfl
@[go_sem] theorem h152l : h152.live = (fun id => match id with | 0 => some [0, 1] | 1 => some [0, 1, 14] | 2 => some [0, 1] | 3 => some [4] | _ => none) := rfl
@[go_sem] theorem h152k : h152.keep = (fun _ => none) := rfl
@[go_sem] theorem h152t : h152.tail = (fun _ => none) := rfl
@[go_sem] theorem h152v : h152.vars = [] := rfl
@[go_sem] theorem h152m : h152.mutc = false := rfl
def h153 : Hint := ⟨(fun id => match id with | 0 => some [0] | 1 => some [0] | _ => none), (fun _ => none), (fun _ => none), [], false, (fun _ => none)⟩
@[go_sem] theorem h153x : h153.mix = (fun _ => none) := rfl
@[go_sem] theorem h153l : h153.live = (fun id => match id with | 0 => some [0] | 1 => some [0] | _ => none) := rfl
@[go_sem] theorem h153k : h153.keep = (fun _ => none) := rfl
@[go_sem] theorem h153t : h153.tail = (fun _ => none) := rfl
@[go_sem] theorem h153v : h153.vars = [] := rfl
@[go_sem] theorem h153m : h153.mutc = false := rfl
def h154 : Hint := ⟨(fun id => match id with | 0 => some [0, 1, 2, 6] | 1 => some [0, 1, 2, 6, 7, 8] | 2 => some [0, 1, 2, 6, 7, 8, 25] | 3 => some [0, 1, 2, 6, 7, 8] | 4 => some [0, 1, 2, 6, 7, 8, 30] | 5 => some [6] | 6 => some [0, 1, 2, 6, 7, 8, 36] | 7 => some [0, 1, 2, 6, 7, 8] | 8 => some [0, 1, 2, 6, 7, 8, 30] | 9 => some [0, 1, 2, 6, 7, 8, 44] | 10 => some [6] | 11 => some [0, 1, 2, 6, 7, 8, 9] | 12 => some [0, 2, 6, 9, 50, 51, 52] | 13 => some [0, 2, 6, 9, 50, 51, 52, 53] | 14 => some [0, 2, 6, 9, 11, 50, 51, 52] | 15 => some [0, 2, 6, 9, 50, 51, 52] | 16 => some [0, 2, 6, 9, 50, 51, 52] | 17 => some [0, 2, 6, 9, 12] | 18 => some [0, 2, 6, 9, 12, 64] | 19 => some [0, 2, 6, 9, 12] | 20 => some [0, 2, 6, 9, 12, 68] | 21 => some [6] | 22 => some [0, 2, 6, 9, 12] | 23 => some [0, 6, 9, 12, 13, 14] | 24 => some [0, 6, 9, 12, 13, 14, 82] | 25 => some [0, 6, 9, 12, 13, 14] | 26 => some [0, 6, 9, 12, 13, 14, 93] | 27 => some [0, 6, 9, 12, 13, 14] | 28 => some [0, 6, 9, 12, 13, 14, 103] | 29 => some [6] | 30 => some [0, 6, 9, 12, 13, 14, 106] | 31 => some [0, 6, 9, 12, 13, 14, 103] | 32 => some [0, 6, 9, 12, 13, 14] | 33 => some [0, 6, 9, 12, 14, 112] | 34 => some [0, 6, 9, 12, 13, 14, 103] | 35 => some [0, 6, 9, 12, 14, 116] | 36 => some [6] | 37 => some [0, 6, 9, 12, 14] | 38 => some [6, 9, 12, 120] | 39 => some [6] | 40 => some [6] | _ => none), (fun _ => none), (fun _ => none), [], false, (fun _ => none)⟩
@[go_sem] theorem h154x : h154.mix = (fun _ => none) := rfl
@[go_sem] theorem h154l : h154.live = (fun id => match id with | 0 => some [0, 1, 2, 6] | 1 => some [0, 1, 2, 6, 7, 8] | 2 => some [0, 1, 2, 6, 7, 8, 25] | 3 => some [0, 1, 2, 6, 7, 8] | 4 => some [0, 1, 2, 6, 7, 8, 30] | 5 => some [6] | 6 => some [0, 1, 2, 6, 7, 8, 36] | 7 => some [0, 1, 2, 6, 7, 8] | 8 => some [0, 1, 2, 6, 7, 8, 30] | 9 => some [0, 1, 2, 6, 7, 8, 44] | 10 => some [6] | 11 => some [0, 1, 2, 6, 7, 8, 9] | 12 => some [0, 2, 6, 9, 50, 51, 52] | 13 => some [0, 2, 6, 9, 50, 51, 52, 53] | 14 => some [0, 2, 6, 9, 11, 50, 51, 52] | 15 => some [0, 2, 6, 9, 50, 51, 52] | 16 => some [0, 2, 6, 9, 50, 51, 52] | 17 => some [0, 2, 6, 9, 12] | 18 => some [0, 2, 6, 9, 12, 64] | 19 => some [0, 2, 6, 9, 12] | 20 => some [0, 2, 6, 9, 12, 68] | 21 => some [6] | 22 => some [0, 2, 6, 9, 12] | 23 => some [0, 6, 9, 12, 13, 14] | 24 => some [0, 6, 9, 12, 13, 14, 82] | 25 => some [0, 6, 9, 12, 13, 14] | 26 => some [0, 6, 9, 12, 13, 14, 93] | 27 => some [0, 6, 9, 12, 13, 14] | 28 => some [0, 6, 9, 12, 13, 14, 103] | 29 => some [6] | 30 => some [0, 6, 9, 12, 13, 14, 106] | 31 => some [0, 6, 9, 12, 13, 14, 103] | 32 => some [0, 6, 9, 12, 13, 14] | 33 => some [0, 6, 9, 12, 14, 112] | 34 => some [0, 6, 9, 12, 13, 14, 103] | 35 => some [0, 6, 9, 12, 14, 116] | 36 => some [6] | 37 => some [0, 6, 9, 12, 14] | 38 => some [6, 9, 12, 120] | 39 => some [6] | 40 => some [6] | _ => none) := rfl
@[go_sem] theorem h154k : h154.keep = (fun _ => none) := rfl
@[go_sem] theorem h154t : h154.tail = (fun _ => none) := rfl
@[go_sem] theorem h154v : h154.vars = [] := rfl
@[go_sem] theorem h154m : h154.mutc = false := rfl
def h155 : Hint := ⟨(fun id => match id with | 0 => some [0, 2] | 1 => some [0, 2, 3] | 2 => some [0, 2, 3] | 3 => some [0, 2, 3, 18] | 4 => some [2] | 5 => some [0, 2, 23] | 6 => some [0, 2] | _ => none), (fun _ => none), (fun _ => none), [], false, (fun _ => none)⟩
@[go_sem] theorem h155x : h155.mix = (fun _ => none) := rfl
@[go_sem] theorem h155l : h155.live = (fun id => match id with | 0 => some [0, 2] | 1 => some [0, 2, 3] | 2 => some [0, 2, 3] | 3 => some [0, 2, 3, 18] | 4 => some [2] | 5 => some [0, 2, 23] | 6 => some [0, 2] | _ => none) := rfl
@[go_sem] theorem h155k : h155.keep = (fun _ => none) := rfl
@[go_sem] theorem h155t : h155.tail = (fun _ => none) := rfl
@[go_sem] theorem h155v : h155.vars = [] := rfl
@[go_sem] theorem h155m : h155.mutc = false := rfl
def h156 : Hint := ⟨(fun id => match id with | 0 => some [0] | 1 => some [2] | _ => none), (fun _ => none), (fun _ => none), [], false, (fun _ => none)⟩
@[go_sem] theorem h156x : h156.mix = (fun _ => none) := rfl
@[go_sem] theorem h156l : h156.live = (fun id => match id with | 0 => some [0] | 1 => some [2] | _ => none) := rfl
@[go_sem] theorem h156k : h156.keep = (fun _ => none) := rfl
@[go_sem] theorem h156t : h156.tail = (fun _ => none) := rfl
@[go_sem] theorem h156v : h156.vars = [] := rfl
@[go_sem] theorem h156m : h156.mutc = false := rfl
def h157 : Hint := ⟨(fun id => match id with | 0 => some [0] | 1 => some [0, 5] | 2 => some [2, 3, 4] | 3 => some [0, 12] | 4 => some [2, 3, 4] | 5 => some [0, 15] | 6 => some [2, 3, 4] | 7 => some [0, 18] | 8 => some [2, 3, 4] | 9 => some [0, 25] | 10 => some [2, 3, 4] | 11 => some [0, 28] | 12 => some [2, 3, 4] | 13 => some [35] | 14 => some [2, 3, 4] | 15 => some [2, 3, 4] | _ => none), (fun _ => none), (fun _ => none), [], false, (fun _ => none)⟩
@[go_sem] theorem h157x : h157.mix = (fun _ => none) := rfl
@[go_sem] theorem h157l : h157.live = (fun id => match id with | 0 => some [0] | 1 => some [0, 5] | 2 => some [2, 3, 4] | 3 => some [0, 12] | 4 => some [2, 3, 4] | 5 => some [0, 15] | 6 => some [2, 3, 4] | 7 => some [0, 18] | 8 => some [2, 3, 4] | 9 => some [0, 25] | 10 => some [2, 3, 4] | 11 => some [0, 28] | 12 => some [2, 3, 4] | 13 => some [35] | 14 => some [2, 3, 4] | 15 => some [2, 3, 4] | _ => none) := rfl
@[go_sem] theorem h157k : h157.keep = (fun _ => none) := rfl
@[go_sem] theorem h157t : h157.tail = (fun _ => none) := rfl
@[go_sem] theorem h157v : h157.vars = [] := rfl
@[go_sem] theorem h157m : h157.mutc = false := rfl
def h172 : Hint := ⟨(fun id => match id with | 0 => some [0] | 1 => some [0, 3] | 2 => some [0, 3, 19] | 3 => some [0, 3] | 4 => some [2] | _ => none), (fun _ => none), (fun _ => none), [], false, (fun _ => none)⟩
@[go_sem] theorem h172x : h172.mix = (fun _ => none) := rfl
@[go_sem] theorem h172l : h172.live = (fun id => match id with | 0 => some [0] | 1 => some [0, 3] | 2 => some [0, 3, 19] | 3 => some [0, 3] | 4 => some [2] | _ => none) := rfl
@[go_sem] theorem h172k : h172.keep = (fun _ => none) := rfl
@[go_sem] theorem h172t : h172.tail = (fun _ => none) := rfl
@[go_sem] theorem h172v : h172.vars = [] := rfl
@[go_sem] theorem h172m : h172.mutc = false := rfl
def h173 : Hint := ⟨(fun id => match id with | 0 => some [0, 1] | 1 => some [0, 1, 13] | 2 => some [0, 1] | 3 => some [4] | _ => none), (fun _ => none), (fun _ => none), [], false, (fun _ => none)⟩
@[go_sem] theorem h173x : h173.mix = (fun _ => none) := rfl
@[go_sem] theorem h173l : h173.live = (fun id => match id with | 0 => some [0, 1] | 1 => some [0, 1, 13] | 2 => some [0, 1] | 3 => some [4] | _ => none) := rfl
@[go_sem] theorem h173k : h173.keep = (fun _ => none) := rfl
@[go_sem] theorem h173t : h173.tail = (fun _ => none) := rfl
@[go_sem] theorem h173v : h173.vars = [] := rfl
@[go_sem] theorem h173m : h173.mutc = false := rfl
def h176 : Hint := ⟨(fun id => match id with | 0 => some [0, 1, 2, 6] | 1 => some [0, 1, 2, 6, 16] | 2 => some [6] | 3 => some [1, 2, 6, 18] | 4 => some [6] | 5 => some [6] | _ => none), (fun _ => none), (fun _ => none), [], false, (fun _ => none)⟩
@[go_sem] theorem h176x : h176.mix = (fun _ => none) := rfl
@[go_sem] theorem h176l : h176.live = (fun id => match id with | 0 => some [0, 1, 2, 6] | 1 => some [0, 1, 2, 6, 16] | 2 => some [6] | 3 => some [1, 2, 6, 18] | 4 => some [6] | 5 => some [6] | _ => none) := rfl
@[go_sem] theorem h176k : h176.keep = (fun _ => none) := rfl
@[go_sem] theorem h176t : h176.tail = (fun _ => none) := rfl
@[go_sem] theorem h176v : h176.vars = [] := rfl
@[go_sem] theorem h176m : h176.mutc = false := rfl
def h180 : Hint := ⟨(fun id => match id with | 0 => some [0] | 1 => some [2] | _ => none), (fun _ => none), (fun _ => none), [], false, (fun _ => none)⟩
@[go_sem] theorem h180x : h180.mix = (fun _ => none) := rfl
@[go_sem] theorem h180l : h180.live = (fun id => match id with | 0 => some [0] | 1 => some [2] | _ => none) := rfl
@[go_sem] theorem h180k : h180.keep = (fun _ => none) := rfl
@[go_sem] theorem h180t : h180.tail = (fun _ => none) := rfl
@[go_sem] theorem h180v : h180.vars = [] := rfl
@[go_sem] theorem h180m : h180.mutc = false := rfl
def h181 : Hint := ⟨(fun id => match id with | 0 => some [0, 2] | 1 => some [2] | _ => none), (fun _ => none), (fun _ => none), [], false, (fun _ => none)⟩
@[go_sem] theorem h181x : h181.mix = (fun _ => none) := rfl
@[go_sem] theorem h181l : h181.live = (fun id => match id with | 0 => some [0, 2] | 1 => some [2] | _ => none) := rfl
@[go_sem] theorem h181k : h181.keep = (fun _ => none) := rfl
@[go_sem] theorem h181t : h181.tail = (fun _ => none) := rfl
@[go_sem] theorem h181v : h181.vars = [] := rfl
@[go_sem] theorem h181m : h181.mutc = false := rfl
def hints (f : Nat) : Hint := match f with
  | 3 => h3
  | 4 => h4
  | 11 => h11
  | 12 => h12
  | 13 => h13
  | 14 => h14
  | 15 => h15
  | 16 => h16
  | 24 => h24
  | 25 => h25
  | 26 => h26
  | 27 => h27
  | 28 => h28
  | 29 => h29
  | 30 => h30
  | 31 => h31
  | 32 => h32
  | 55 => h55
  | 56 => h56
  | 57 => h57
  | 58 => h58
  | 59 => h59
  | 60 => h60
  | 61 => h61
  | 62 => h62
  | 63 => h63
  | 64 => h64
  | 65 => h65
  | 66 => h66
  | 67 => h67
  | 68 => h68
  | 69 => h69
  | 70 => h70
  | 71 => h71
  | 72 => h72
  | 73 => h73
  | 74 => h74
  | 75 => h75
  | 76 => h76
  | 77 => h77
  | 78 => h78
  | 79 => h79
  | 80 => h80
  | 81 => h81
  | 82 => h82
  | 83 => h83
  | 84 => h84
  | 98 => h98
  | 110 => h110
  | 111 => h111
  | 112 => h112
  | 113 => h113
  | 114 => h114
  | 115 => h115
  | 116 => h116
  | 117 => h117
  | 118 => h118
  | 119 => h119
  | 120 => h120
  | 121 => h121
  | 122 => h122
  | 123 => h123
  | 124 => h124
  | 133 => h133
  | 142 => h142
  | 143 => h143
  | 144 => h144
  | 145 => h145
  | 147 => h147
  | 148 => h148
  | 149 => h149
  | 150 => h150
  | 151 => h151
  | 152 => h152
  | 153 => h153
  | 154 => h154
  | 155 => h155
  | 156 => h156
  | 157 => h157
  | 172 => h172
  | 173 => h173
  | 176 => h176
  | 180 => h180
  | 181 => h181
  | _ => ⟨fun _ => none, fun _ => none, fun _ => none, [], false, fun _ => none⟩
noncomputable def E : CallF := ev Tryz.prog hints primz
noncomputable def b3 : Code := bodyOf Tryz.f3
theorem c3 : codeOk Tryz.prog h3 11 b3 = true := by kernel_rfl
/-- jalousie/jalousielaw3.TokTokens -/
theorem e3 {lo : Nat} {args : List V} {h : Heap} (ha : args.length ≤ 11) (hb : args.all bare = true) :
    E lo 3 args h = fin Tryz.prog [.tmp 2] h.length (evCode ⟨Tryz.prog, E, lo, h.length, h3⟩ loopW b3 (args0 args, h)) :=
  ev_body rfl Tryz.func3 rfl Tryz.ntmps3 (by kernel_rfl) rfl c3 rfl ha hb
noncomputable def b4 : Code := bodyOf Tryz.f4
theorem c4 : codeOk Tryz.prog h4 11 b4 = true := by kernel_rfl
/-- jalousie/jalousielaw3.TokBytes -/
theorem e4 {lo : Nat} {args : List V} {h : Heap} (ha : args.length ≤ 11) (hb : args.all bare = true) :
    E lo 4 args h = fin Tryz.prog [.tmp 2] h.length (evCode ⟨Tryz.prog, E, lo, h.length, h4⟩ loopW b4 (args0 args, h)) :=
  ev_body rfl Tryz.func4 rfl Tryz.ntmps4 (by kernel_rfl) rfl c4 rfl ha hb
noncomputable def b11 : Code := bodyOf Tryz.f11
noncomputable def l11x0 : Code := loopAt b11 0
theorem c11 : codeOk Tryz.prog h11 26 b11 = true := by kernel_rfl
/-- jalousie/jalousieref3.Same -/
theorem e11 {lo : Nat} {args : List V} {h : Heap} (ha : args.length ≤ 26) (hb : args.all bare = true) :
    E lo 11 args h = fin Tryz.prog [.tmp 4] h.length (evCode ⟨Tryz.prog, E, lo, h.length, h11⟩ loopW b11 (args0 args, h)) :=
  ev_body rfl Tryz.func11 rfl Tryz.ntmps11 (by kernel_rfl) rfl c11 rfl ha hb
noncomputable def b12 : Code := bodyOf Tryz.f12
noncomputable def l12x0 : Code := loopAt b12 0
theorem c12 : codeOk Tryz.prog h12 18 b12 = true := by kernel_rfl
/-- jalousie/tok.Tokens -/
theorem e12 {lo : Nat} {args : List V} {h : Heap} (ha : args.length ≤ 18) (hb : args.all bare = true) :
    E lo 12 args h = fin Tryz.prog [.tmp 2] h.length (evCode ⟨Tryz.prog, E, lo, h.length, h12⟩ loopW b12 (args0 args, h)) :=
  ev_body rfl Tryz.func12 rfl Tryz.ntmps12 (by kernel_rfl) rfl c12 rfl ha hb
noncomputable def b13 : Code := bodyOf Tryz.f13
noncomputable def l13x0 : Code := loopAt b13 0
theorem c13 : codeOk Tryz.prog h13 19 b13 = true := by kernel_rfl
/-- jalousie/jalousieref3.Tokens -/
theorem e13 {lo : Nat} {args : List V} {h : Heap} (ha : args.length ≤ 19) (hb : args.all bare = true) :
    E lo 13 args h = fin Tryz.prog [.tmp 2] h.length (evCode ⟨Tryz.prog, E, lo, h.length, h13⟩ loopW b13 (args0 args, h)) :=
  ev_body rfl Tryz.func13 rfl Tryz.ntmps13 (by kernel_rfl) rfl c13 rfl ha hb
noncomputable def b14 : Code := bodyOf Tryz.f14
theorem c14 : codeOk Tryz.prog h14 30 b14 = true := by kernel_rfl
/-- jalousie/jalousielaw3.awake -/
theorem e14 {lo : Nat} {args : List V} {h : Heap} (ha : args.length ≤ 30) (hb : args.all bare = true) :
    E lo 14 args h = fin Tryz.prog [.tmp 0] h.length (evCode ⟨Tryz.prog, E, lo, h.length, h14⟩ loopW b14 (args0 args, h)) :=
  ev_body rfl Tryz.func14 rfl Tryz.ntmps14 (by kernel_rfl) rfl c14 rfl ha hb
noncomputable def b15 : Code := bodyOf Tryz.f15
theorem c15 : codeOk Tryz.prog h15 6 b15 = true := by kernel_rfl
/-- jalousie/tok.Bytes -/
theorem e15 {lo : Nat} {args : List V} {h : Heap} (ha : args.length ≤ 6) (hb : args.all bare = true) :
    E lo 15 args h = fin Tryz.prog [.tmp 2] h.length (evCode ⟨Tryz.prog, E, lo, h.length, h15⟩ loopW b15 (args0 args, h)) :=
  ev_body rfl Tryz.func15 rfl Tryz.ntmps15 (by kernel_rfl) rfl c15 rfl ha hb
noncomputable def b16 : Code := bodyOf Tryz.f16
theorem c16 : codeOk Tryz.prog h16 6 b16 = true := by kernel_rfl
/-- jalousie/jalousieref3.Bytes -/
theorem e16 {lo : Nat} {args : List V} {h : Heap} (ha : args.length ≤ 6) (hb : args.all bare = true) :
    E lo 16 args h = fin Tryz.prog [.tmp 2] h.length (evCode ⟨Tryz.prog, E, lo, h.length, h16⟩ loopW b16 (args0 args, h)) :=
  ev_body rfl Tryz.func16 rfl Tryz.ntmps16 (by kernel_rfl) rfl c16 rfl ha hb
noncomputable def b24 : Code := bodyOf Tryz.f24
theorem c24 : codeOk Tryz.prog h24 10 b24 = true := by kernel_rfl
/-- jalousie/jalousieref3.Like -/
theorem e24 {lo : Nat} {args : List V} {h : Heap} (ha : args.length ≤ 10) (hb : args.all bare = true) :
    E lo 24 args h = fin Tryz.prog [.tmp 4] h.length (evCode ⟨Tryz.prog, E, lo, h.length, h24⟩ loopW b24 (args0 args, h)) :=
  ev_body rfl Tryz.func24 rfl Tryz.ntmps24 (by kernel_rfl) rfl c24 rfl ha hb
noncomputable def b25 : Code := bodyOf Tryz.f25
noncomputable def l25x0 : Code := loopAt b25 0
noncomputable def l25x1 : Code := loopAt b25 1
theorem c25 : codeOk Tryz.prog h25 38 b25 = true := by kernel_rfl
/- a method -/
theorem e25 {lo : Nat} {args : List V} {h : Heap} (ha : args.length ≤ 38) (hb : args.all bare = true) :
    E lo 25 args h = fin Tryz.prog [] h.length (evCode ⟨Tryz.prog, E, lo, h.length, h25⟩ loopW b25 (args0 args, h)) :=
  ev_body rfl Tryz.func25 rfl Tryz.ntmps25 (by kernel_rfl) rfl c25 rfl ha hb
noncomputable def b26 : Code := bodyOf Tryz.f26
theorem c26 : codeOk Tryz.prog h26 45 b26 = true := by kernel_rfl
/- a method -/
theorem e26 {lo : Nat} {args : List V} {h : Heap} (ha : args.length ≤ 45) (hb : args.all bare = true) :
    E lo 26 args h = fin Tryz.prog [.tmp 4] h.length (evCode ⟨Tryz.prog, E, lo, h.length, h26⟩ loopW b26 (args0 args, h)) :=
  ev_body rfl Tryz.func26 rfl Tryz.ntmps26 (by kernel_rfl) rfl c26 rfl ha hb
noncomputable def b27 : Code := bodyOf Tryz.f27
theorem c27 : codeOk Tryz.prog h27 170 b27 = true := by kernel_rfl
/- a method -/
theorem e27 {lo : Nat} {args : List V} {h : Heap} (ha : args.length ≤ 170) (hb : args.all bare = true) :
    E lo 27 args h = fin Tryz.prog [.cell 2 34] h.length (evCode ⟨Tryz.prog, E, lo, h.length, h27⟩ loopW b27 (args0 args, h)) :=
  ev_body rfl Tryz.func27 rfl Tryz.ntmps27 (by kernel_rfl) rfl c27 rfl ha hb
noncomputable def b28 : Code := bodyOf Tryz.f28
noncomputable def l28x0 : Code := loopAt b28 0
noncomputable def l28x1 : Code := loopAt b28 1
theorem c28 : codeOk Tryz.prog h28 44 b28 = true := by kernel_rfl
/- a method -/
theorem e28 {lo : Nat} {args : List V} {h : Heap} (ha : args.length ≤ 44) (hb : args.all bare = true) :
    E lo 28 args h = fin Tryz.prog [] h.length (evCode ⟨Tryz.prog, E, lo, h.length, h28⟩ loopW b28 (args0 args, h)) :=
  ev_body rfl Tryz.func28 rfl Tryz.ntmps28 (by kernel_rfl) rfl c28 rfl ha hb
noncomputable def b29 : Code := bodyOf Tryz.f29
theorem c29 : codeOk Tryz.prog h29 33 b29 = true := by kernel_rfl
/- a method -/
theorem e29 {lo : Nat} {args : List V} {h : Heap} (ha : args.length ≤ 33) (hb : args.all bare = true) :
    E lo 29 args h = fin Tryz.prog [.tmp 4] h.length (evCode ⟨Tryz.prog, E, lo, h.length, h29⟩ loopW b29 (args0 args, h)) :=
  ev_body rfl Tryz.func29 rfl Tryz.ntmps29 (by kernel_rfl) rfl c29 rfl ha hb
noncomputable def b30 : Code := bodyOf Tryz.f30
noncomputable def l30x0 : Code := loopAt b30 0
theorem c30 : codeOk Tryz.prog h30 177 b30 = true := by kernel_rfl
/- a method -/
theorem e30 {lo : Nat} {args : List V} {h : Heap} (ha : args.length ≤ 177) (hb : args.all bare = true) :
    E lo 30 args h = fin Tryz.prog [.cell 2 34] h.length (evCode ⟨Tryz.prog, E, lo, h.length, h30⟩ loopW b30 (args0 args, h)) :=
  ev_body rfl Tryz.func30 rfl Tryz.ntmps30 (by kernel_rfl) rfl c30 rfl ha hb
noncomputable def b31 : Code := bodyOf Tryz.f31
noncomputable def l31x0 : Code := loopAt b31 0
theorem c31 : codeOk Tryz.prog h31 56 b31 = true := by kernel_rfl
/-- jalousie/utf.Decode -/
theorem e31 {lo : Nat} {args : List V} {h : Heap} (ha : args.length ≤ 56) (hb : args.all bare = true) :
    E lo 31 args h = fin Tryz.prog [.tmp 2] h.length (evCode ⟨Tryz.prog, E, lo, h.length, h31⟩ loopW b31 (args0 args, h)) :=
  ev_body rfl Tryz.func31 rfl Tryz.ntmps31 (by kernel_rfl) rfl c31 rfl ha hb
noncomputable def b32 : Code := bodyOf Tryz.f32
noncomputable def l32x0 : Code := loopAt b32 0
theorem c32 : codeOk Tryz.prog h32 58 b32 = true := by kernel_rfl
/-- jalousie/jalousieref2.Decode -/
theorem e32 {lo : Nat} {args : List V} {h : Heap} (ha : args.length ≤ 58) (hb : args.all bare = true) :
    E lo 32 args h = fin Tryz.prog [.tmp 2] h.length (evCode ⟨Tryz.prog, E, lo, h.length, h32⟩ loopW b32 (args0 args, h)) :=
  ev_body rfl Tryz.func32 rfl Tryz.ntmps32 (by kernel_rfl) rfl c32 rfl ha hb
noncomputable def b55 : Code := bodyOf Tryz.f55
noncomputable def l55x0 : Code := loopAt b55 0
theorem c55 : codeOk Tryz.prog h55 29 b55 = true := by kernel_rfl
/-- jalousie/jalousieref3.Lower -/
theorem e55 {lo : Nat} {args : List V} {h : Heap} (ha : args.length ≤ 29) (hb : args.all bare = true) :
    E lo 55 args h = fin Tryz.prog [.tmp 2] h.length (evCode ⟨Tryz.prog, E, lo, h.length, h55⟩ loopW b55 (args0 args, h)) :=
  ev_body rfl Tryz.func55 rfl Tryz.ntmps55 (by kernel_rfl) rfl c55 rfl ha hb
noncomputable def b56 : Code := bodyOf Tryz.f56
noncomputable def l56x0 : Code := loopAt b56 0
theorem c56 : codeOk Tryz.prog h56 20 b56 = true := by kernel_rfl
/- a method -/
theorem e56 {lo : Nat} {args : List V} {h : Heap} (ha : args.length ≤ 20) (hb : args.all bare = true) :
    E lo 56 args h = fin Tryz.prog [.tmp 4] h.length (evCode ⟨Tryz.prog, E, lo, h.length, h56⟩ loopW b56 (args0 args, h)) :=
  ev_body rfl Tryz.func56 rfl Tryz.ntmps56 (by kernel_rfl) rfl c56 rfl ha hb
noncomputable def b57 : Code := bodyOf Tryz.f57
theorem c57 : codeOk Tryz.prog h57 13 b57 = true := by kernel_rfl
/-- jalousie/tok.blank -/
theorem e57 {lo : Nat} {args : List V} {h : Heap} (ha : args.length ≤ 13) (hb : args.all bare = true) :
    E lo 57 args h = fin Tryz.prog [.tmp 2] h.length (evCode ⟨Tryz.prog, E, lo, h.length, h57⟩ loopW b57 (args0 args, h)) :=
  ev_body rfl Tryz.func57 rfl Tryz.ntmps57 (by kernel_rfl) rfl c57 rfl ha hb
noncomputable def b58 : Code := bodyOf Tryz.f58
noncomputable def l58x0 : Code := loopAt b58 0
theorem c58 : codeOk Tryz.prog h58 12 b58 = true := by kernel_rfl
/- a method -/
theorem e58 {lo : Nat} {args : List V} {h : Heap} (ha : args.length ≤ 12) (hb : args.all bare = true) :
    E lo 58 args h = fin Tryz.prog [] h.length (evCode ⟨Tryz.prog, E, lo, h.length, h58⟩ loopW b58 (args0 args, h)) :=
  ev_body rfl Tryz.func58 rfl Tryz.ntmps58 (by kernel_rfl) rfl c58 rfl ha hb
noncomputable def b59 : Code := bodyOf Tryz.f59
noncomputable def l59x0 : Code := loopAt b59 0
theorem c59 : codeOk Tryz.prog h59 102 b59 = true := by kernel_rfl
/- a method -/
theorem e59 {lo : Nat} {args : List V} {h : Heap} (ha : args.length ≤ 102) (hb : args.all bare = true) :
    E lo 59 args h = fin Tryz.prog [.cell 2 34] h.length (evCode ⟨Tryz.prog, E, lo, h.length, h59⟩ loopW b59 (args0 args, h)) :=
  ev_body rfl Tryz.func59 rfl Tryz.ntmps59 (by kernel_rfl) rfl c59 rfl ha hb
noncomputable def b60 : Code := bodyOf Tryz.f60
theorem c60 : codeOk Tryz.prog h60 22 b60 = true := by kernel_rfl
/-- jalousie/tok.plain -/
theorem e60 {lo : Nat} {args : List V} {h : Heap} (ha : args.length ≤ 22) (hb : args.all bare = true) :
    E lo 60 args h = fin Tryz.prog [.tmp 2] h.length (evCode ⟨Tryz.prog, E, lo, h.length, h60⟩ loopW b60 (args0 args, h)) :=
  ev_body rfl Tryz.func60 rfl Tryz.ntmps60 (by kernel_rfl) rfl c60 rfl ha hb
noncomputable def b61 : Code := bodyOf Tryz.f61
theorem c61 : codeOk Tryz.prog h61 9 b61 = true := by kernel_rfl
/-- jalousie/tok.digit -/
theorem e61 {lo : Nat} {args : List V} {h : Heap} (ha : args.length ≤ 9) (hb : args.all bare = true) :
    E lo 61 args h = fin Tryz.prog [.tmp 2] h.length (evCode ⟨Tryz.prog, E, lo, h.length, h61⟩ loopW b61 (args0 args, h)) :=
  ev_body rfl Tryz.func61 rfl Tryz.ntmps61 (by kernel_rfl) rfl c61 rfl ha hb
noncomputable def b62 : Code := bodyOf Tryz.f62
theorem c62 : codeOk Tryz.prog h62 34 b62 = true := by kernel_rfl
/- a method -/
theorem e62 {lo : Nat} {args : List V} {h : Heap} (ha : args.length ≤ 34) (hb : args.all bare = true) :
    E lo 62 args h = fin Tryz.prog [.tmp 4] h.length (evCode ⟨Tryz.prog, E, lo, h.length, h62⟩ loopW b62 (args0 args, h)) :=
  ev_body rfl Tryz.func62 rfl Tryz.ntmps62 (by kernel_rfl) rfl c62 rfl ha hb
noncomputable def b63 : Code := bodyOf Tryz.f63
theorem c63 : codeOk Tryz.prog h63 146 b63 = true := by kernel_rfl
/- a method -/
theorem e63 {lo : Nat} {args : List V} {h : Heap} (ha : args.length ≤ 146) (hb : args.all bare = true) :
    E lo 63 args h = fin Tryz.prog [.cell 2 34] h.length (evCode ⟨Tryz.prog, E, lo, h.length, h63⟩ loopW b63 (args0 args, h)) :=
  ev_body rfl Tryz.func63 rfl Tryz.ntmps63 (by kernel_rfl) rfl c63 rfl ha hb
noncomputable def b64 : Code := bodyOf Tryz.f64
theorem c64 : codeOk Tryz.prog h64 13 b64 = true := by kernel_rfl
/-- jalousie/tok.letter -/
theorem e64 {lo : Nat} {args : List V} {h : Heap} (ha : args.length ≤ 13) (hb : args.all bare = true) :
    E lo 64 args h = fin Tryz.prog [.tmp 2] h.length (evCode ⟨Tryz.prog, E, lo, h.length, h64⟩ loopW b64 (args0 args, h)) :=
  ev_body rfl Tryz.func64 rfl Tryz.ntmps64 (by kernel_rfl) rfl c64 rfl ha hb
noncomputable def b65 : Code := bodyOf Tryz.f65
theorem c65 : codeOk Tryz.prog h65 16 b65 = true := by kernel_rfl
/- a method -/
theorem e65 {lo : Nat} {args : List V} {h : Heap} (ha : args.length ≤ 16) (hb : args.all bare = true) :
    E lo 65 args h = fin Tryz.prog [.tmp 4] h.length (evCode ⟨Tryz.prog, E, lo, h.length, h65⟩ loopW b65 (args0 args, h)) :=
  ev_body rfl Tryz.func65 rfl Tryz.ntmps65 (by kernel_rfl) rfl c65 rfl ha hb
noncomputable def b66 : Code := bodyOf Tryz.f66
theorem c66 : codeOk Tryz.prog h66 36 b66 = true := by kernel_rfl
/- a method -/
theorem e66 {lo : Nat} {args : List V} {h : Heap} (ha : args.length ≤ 36) (hb : args.all bare = true) :
    E lo 66 args h = fin Tryz.prog [.tmp 4] h.length (evCode ⟨Tryz.prog, E, lo, h.length, h66⟩ loopW b66 (args0 args, h)) :=
  ev_body rfl Tryz.func66 rfl Tryz.ntmps66 (by kernel_rfl) rfl c66 rfl ha hb
noncomputable def b67 : Code := bodyOf Tryz.f67
noncomputable def l67x0 : Code := loopAt b67 0
theorem c67 : codeOk Tryz.prog h67 26 b67 = true := by kernel_rfl
/- a method -/
theorem e67 {lo : Nat} {args : List V} {h : Heap} (ha : args.length ≤ 26) (hb : args.all bare = true) :
    E lo 67 args h = fin Tryz.prog [.tmp 2] h.length (evCode ⟨Tryz.prog, E, lo, h.length, h67⟩ loopW b67 (args0 args, h)) :=
  ev_body rfl Tryz.func67 rfl Tryz.ntmps67 (by kernel_rfl) rfl c67 rfl ha hb
noncomputable def b68 : Code := bodyOf Tryz.f68
noncomputable def l68x0 : Code := loopAt b68 0
theorem c68 : codeOk Tryz.prog h68 73 b68 = true := by kernel_rfl
/- a method -/
theorem e68 {lo : Nat} {args : List V} {h : Heap} (ha : args.length ≤ 73) (hb : args.all bare = true) :
    E lo 68 args h = fin Tryz.prog [.cell 2 34] h.length (evCode ⟨Tryz.prog, E, lo, h.length, h68⟩ loopW b68 (args0 args, h)) :=
  ev_body rfl Tryz.func68 rfl Tryz.ntmps68 (by kernel_rfl) rfl c68 rfl ha hb
noncomputable def b69 : Code := bodyOf Tryz.f69
noncomputable def l69x0 : Code := loopAt b69 0
theorem c69 : codeOk Tryz.prog h69 90 b69 = true := by kernel_rfl
/-- jalousie/utf.Encode -/
theorem e69 {lo : Nat} {args : List V} {h : Heap} (ha : args.length ≤ 90) (hb : args.all bare = true) :
    E lo 69 args h = fin Tryz.prog [.tmp 2] h.length (evCode ⟨Tryz.prog, E, lo, h.length, h69⟩ loopW b69 (args0 args, h)) :=
  ev_body rfl Tryz.func69 rfl Tryz.ntmps69 (by kernel_rfl) rfl c69 rfl ha hb
noncomputable def b70 : Code := bodyOf Tryz.f70
theorem c70 : codeOk Tryz.prog h70 14 b70 = true := by kernel_rfl
/- a method -/
theorem e70 {lo : Nat} {args : List V} {h : Heap} (ha : args.length ≤ 14) (hb : args.all bare = true) :
    E lo 70 args h = fin Tryz.prog [.tmp 2] h.length (evCode ⟨Tryz.prog, E, lo, h.length, h70⟩ loopW b70 (args0 args, h)) :=
  ev_body rfl Tryz.func70 rfl Tryz.ntmps70 (by kernel_rfl) rfl c70 rfl ha hb
noncomputable def b71 : Code := bodyOf Tryz.f71
theorem c71 : codeOk Tryz.prog h71 17 b71 = true := by kernel_rfl
/-- jalousie/jalousieref2.Is -/
theorem e71 {lo : Nat} {args : List V} {h : Heap} (ha : args.length ≤ 17) (hb : args.all bare = true) :
    E lo 71 args h = fin Tryz.prog [.tmp 2] h.length (evCode ⟨Tryz.prog, E, lo, h.length, h71⟩ loopW b71 (args0 args, h)) :=
  ev_body rfl Tryz.func71 rfl Tryz.ntmps71 (by kernel_rfl) rfl c71 rfl ha hb
noncomputable def b72 : Code := bodyOf Tryz.f72
theorem c72 : codeOk Tryz.prog h72 13 b72 = true := by kernel_rfl
/-- jalousie/jalousieref3.blank -/
theorem e72 {lo : Nat} {args : List V} {h : Heap} (ha : args.length ≤ 13) (hb : args.all bare = true) :
    E lo 72 args h = fin Tryz.prog [.tmp 2] h.length (evCode ⟨Tryz.prog, E, lo, h.length, h72⟩ loopW b72 (args0 args, h)) :=
  ev_body rfl Tryz.func72 rfl Tryz.ntmps72 (by kernel_rfl) rfl c72 rfl ha hb
noncomputable def b73 : Code := bodyOf Tryz.f73
noncomputable def l73x0 : Code := loopAt b73 0
theorem c73 : codeOk Tryz.prog h73 12 b73 = true := by kernel_rfl
/- a method -/
theorem e73 {lo : Nat} {args : List V} {h : Heap} (ha : args.length ≤ 12) (hb : args.all bare = true) :
    E lo 73 args h = fin Tryz.prog [] h.length (evCode ⟨Tryz.prog, E, lo, h.length, h73⟩ loopW b73 (args0 args, h)) :=
  ev_body rfl Tryz.func73 rfl Tryz.ntmps73 (by kernel_rfl) rfl c73 rfl ha hb
noncomputable def b74 : Code := bodyOf Tryz.f74
noncomputable def l74x0 : Code := loopAt b74 0
theorem c74 : codeOk Tryz.prog h74 79 b74 = true := by kernel_rfl
/- a method -/
theorem e74 {lo : Nat} {args : List V} {h : Heap} (ha : args.length ≤ 79) (hb : args.all bare = true) :
    E lo 74 args h = fin Tryz.prog [.cell 4 34] h.length (evCode ⟨Tryz.prog, E, lo, h.length, h74⟩ loopW b74 (args0 args, h)) :=
  ev_body rfl Tryz.func74 rfl Tryz.ntmps74 (by kernel_rfl) rfl c74 rfl ha hb
noncomputable def b75 : Code := bodyOf Tryz.f75
theorem c75 : codeOk Tryz.prog h75 13 b75 = true := by kernel_rfl
/-- jalousie/jalousieref3.Letter -/
theorem e75 {lo : Nat} {args : List V} {h : Heap} (ha : args.length ≤ 13) (hb : args.all bare = true) :
    E lo 75 args h = fin Tryz.prog [.tmp 2] h.length (evCode ⟨Tryz.prog, E, lo, h.length, h75⟩ loopW b75 (args0 args, h)) :=
  ev_body rfl Tryz.func75 rfl Tryz.ntmps75 (by kernel_rfl) rfl c75 rfl ha hb
noncomputable def b76 : Code := bodyOf Tryz.f76
theorem c76 : codeOk Tryz.prog h76 11 b76 = true := by kernel_rfl
/-- jalousie/jalousieref3.escape -/
theorem e76 {lo : Nat} {args : List V} {h : Heap} (ha : args.length ≤ 11) (hb : args.all bare = true) :
    E lo 76 args h = fin Tryz.prog [.tmp 4] h.length (evCode ⟨Tryz.prog, E, lo, h.length, h76⟩ loopW b76 (args0 args, h)) :=
  ev_body rfl Tryz.func76 rfl Tryz.ntmps76 (by kernel_rfl) rfl c76 rfl ha hb
noncomputable def b77 : Code := bodyOf Tryz.f77
theorem c77 : codeOk Tryz.prog h77 27 b77 = true := by kernel_rfl
/-- jalousie/jalousieref3.begins -/
theorem e77 {lo : Nat} {args : List V} {h : Heap} (ha : args.length ≤ 27) (hb : args.all bare = true) :
    E lo 77 args h = fin Tryz.prog [.tmp 6] h.length (evCode ⟨Tryz.prog, E, lo, h.length, h77⟩ loopW b77 (args0 args, h)) :=
  ev_body rfl Tryz.func77 rfl Tryz.ntmps77 (by kernel_rfl) rfl c77 rfl ha hb
noncomputable def b78 : Code := bodyOf Tryz.f78
noncomputable def l78x0 : Code := loopAt b78 0
theorem c78 : codeOk Tryz.prog h78 44 b78 = true := by kernel_rfl
/- a method -/
theorem e78 {lo : Nat} {args : List V} {h : Heap} (ha : args.length ≤ 44) (hb : args.all bare = true) :
    E lo 78 args h = fin Tryz.prog [.tmp 2] h.length (evCode ⟨Tryz.prog, E, lo, h.length, h78⟩ loopW b78 (args0 args, h)) :=
  ev_body rfl Tryz.func78 rfl Tryz.ntmps78 (by kernel_rfl) rfl c78 rfl ha hb
noncomputable def b79 : Code := bodyOf Tryz.f79
theorem c79 : codeOk Tryz.prog h79 25 b79 = true := by kernel_rfl
/-- jalousie/jalousieref3.number -/
theorem e79 {lo : Nat} {args : List V} {h : Heap} (ha : args.length ≤ 25) (hb : args.all bare = true) :
    E lo 79 args h = fin Tryz.prog [.tmp 6] h.length (evCode ⟨Tryz.prog, E, lo, h.length, h79⟩ loopW b79 (args0 args, h)) :=
  ev_body rfl Tryz.func79 rfl Tryz.ntmps79 (by kernel_rfl) rfl c79 rfl ha hb
noncomputable def b80 : Code := bodyOf Tryz.f80
theorem c80 : codeOk Tryz.prog h80 122 b80 = true := by kernel_rfl
/- a method -/
theorem e80 {lo : Nat} {args : List V} {h : Heap} (ha : args.length ≤ 122) (hb : args.all bare = true) :
    E lo 80 args h = fin Tryz.prog [.cell 2 34] h.length (evCode ⟨Tryz.prog, E, lo, h.length, h80⟩ loopW b80 (args0 args, h)) :=
  ev_body rfl Tryz.func80 rfl Tryz.ntmps80 (by kernel_rfl) rfl c80 rfl ha hb
noncomputable def b81 : Code := bodyOf Tryz.f81
noncomputable def l81x0 : Code := loopAt b81 0
theorem c81 : codeOk Tryz.prog h81 55 b81 = true := by kernel_rfl
/- a method -/
theorem e81 {lo : Nat} {args : List V} {h : Heap} (ha : args.length ≤ 55) (hb : args.all bare = true) :
    E lo 81 args h = fin Tryz.prog [.cell 2 34] h.length (evCode ⟨Tryz.prog, E, lo, h.length, h81⟩ loopW b81 (args0 args, h)) :=
  ev_body rfl Tryz.func81 rfl Tryz.ntmps81 (by kernel_rfl) rfl c81 rfl ha hb
noncomputable def b82 : Code := bodyOf Tryz.f82
theorem c82 : codeOk Tryz.prog h82 6 b82 = true := by kernel_rfl
/-- jalousie/jalousieref2.Text -/
theorem e82 {lo : Nat} {args : List V} {h : Heap} (ha : args.length ≤ 6) (hb : args.all bare = true) :
    E lo 82 args h = fin Tryz.prog [.tmp 2] h.length (evCode ⟨Tryz.prog, E, lo, h.length, h82⟩ loopW b82 (args0 args, h)) :=
  ev_body rfl Tryz.func82 rfl Tryz.ntmps82 (by kernel_rfl) rfl c82 rfl ha hb
noncomputable def b83 : Code := bodyOf Tryz.f83
noncomputable def l83x0 : Code := loopAt b83 0
theorem c83 : codeOk Tryz.prog h83 22 b83 = true := by kernel_rfl
/-- jalousie/utf.Raw -/
theorem e83 {lo : Nat} {args : List V} {h : Heap} (ha : args.length ≤ 22) (hb : args.all bare = true) :
    E lo 83 args h = fin Tryz.prog [.tmp 2] h.length (evCode ⟨Tryz.prog, E, lo, h.length, h83⟩ loopW b83 (args0 args, h)) :=
  ev_body rfl Tryz.func83 rfl Tryz.ntmps83 (by kernel_rfl) rfl c83 rfl ha hb
noncomputable def b84 : Code := bodyOf Tryz.f84
noncomputable def l84x0 : Code := loopAt b84 0
theorem c84 : codeOk Tryz.prog h84 27 b84 = true := by kernel_rfl
/-- jalousie/jalousieref2.Raw -/
theorem e84 {lo : Nat} {args : List V} {h : Heap} (ha : args.length ≤ 27) (hb : args.all bare = true) :
    E lo 84 args h = fin Tryz.prog [.tmp 2] h.length (evCode ⟨Tryz.prog, E, lo, h.length, h84⟩ loopW b84 (args0 args, h)) :=
  ev_body rfl Tryz.func84 rfl Tryz.ntmps84 (by kernel_rfl) rfl c84 rfl ha hb
noncomputable def b98 : Code := bodyOf Tryz.f98
theorem c98 : codeOk Tryz.prog h98 37 b98 = true := by kernel_rfl
/-- strings.TrimRight -/
theorem e98 {lo : Nat} {args : List V} {h : Heap} (ha : args.length ≤ 37) (hb : args.all bare = true) :
    E lo 98 args h = fin Tryz.prog [.tmp 4] h.length (evCode ⟨Tryz.prog, E, lo, h.length, h98⟩ loopW b98 (args0 args, h)) :=
  ev_body rfl Tryz.func98 rfl Tryz.ntmps98 (by kernel_rfl) rfl c98 rfl ha hb
noncomputable def b110 : Code := bodyOf Tryz.f110
noncomputable def l110x0 : Code := loopAt b110 0
theorem c110 : codeOk Tryz.prog h110 50 b110 = true := by kernel_rfl
/- a method -/
theorem e110 {lo : Nat} {args : List V} {h : Heap} (ha : args.length ≤ 50) (hb : args.all bare = true) :
    E lo 110 args h = fin Tryz.prog [.tmp 2] h.length (evCode ⟨Tryz.prog, E, lo, h.length, h110⟩ loopW b110 (args0 args, h)) :=
  ev_body rfl Tryz.func110 rfl Tryz.ntmps110 (by kernel_rfl) rfl c110 rfl ha hb
noncomputable def b111 : Code := bodyOf Tryz.f111
noncomputable def l111x0 : Code := loopAt b111 0
theorem c111 : codeOk Tryz.prog h111 15 b111 = true := by kernel_rfl
/- a method -/
theorem e111 {lo : Nat} {args : List V} {h : Heap} (ha : args.length ≤ 15) (hb : args.all bare = true) :
    E lo 111 args h = fin Tryz.prog [] h.length (evCode ⟨Tryz.prog, E, lo, h.length, h111⟩ loopW b111 (args0 args, h)) :=
  ev_body rfl Tryz.func111 rfl Tryz.ntmps111 (by kernel_rfl) rfl c111 rfl ha hb
noncomputable def b112 : Code := bodyOf Tryz.f112
noncomputable def l112x0 : Code := loopAt b112 0
theorem c112 : codeOk Tryz.prog h112 67 b112 = true := by kernel_rfl
/-- jalousie/rat.Decimal -/
theorem e112 {lo : Nat} {args : List V} {h : Heap} (ha : args.length ≤ 67) (hb : args.all bare = true) :
    E lo 112 args h = fin Tryz.prog [.cell 2 32, .tmp 3, .tmp 4] h.length (evCode ⟨Tryz.prog, E, lo, h.length, h112⟩ loopW b112 (args0 args, h)) :=
  ev_body rfl Tryz.func112 rfl Tryz.ntmps112 (by kernel_rfl) rfl c112 rfl ha hb
noncomputable def b113 : Code := bodyOf Tryz.f113
theorem c113 : codeOk Tryz.prog h113 25 b113 = true := by kernel_rfl
/-- jalousie/tok.first -/
theorem e113 {lo : Nat} {args : List V} {h : Heap} (ha : args.length ≤ 25) (hb : args.all bare = true) :
    E lo 113 args h = fin Tryz.prog [.tmp 2] h.length (evCode ⟨Tryz.prog, E, lo, h.length, h113⟩ loopW b113 (args0 args, h)) :=
  ev_body rfl Tryz.func113 rfl Tryz.ntmps113 (by kernel_rfl) rfl c113 rfl ha hb
noncomputable def b114 : Code := bodyOf Tryz.f114
theorem c114 : codeOk Tryz.prog h114 9 b114 = true := by kernel_rfl
/-- jalousie/tok.alike -/
theorem e114 {lo : Nat} {args : List V} {h : Heap} (ha : args.length ≤ 9) (hb : args.all bare = true) :
    E lo 114 args h = fin Tryz.prog [.tmp 4] h.length (evCode ⟨Tryz.prog, E, lo, h.length, h114⟩ loopW b114 (args0 args, h)) :=
  ev_body rfl Tryz.func114 rfl Tryz.ntmps114 (by kernel_rfl) rfl c114 rfl ha hb
noncomputable def b115 : Code := bodyOf Tryz.f115
noncomputable def l115x0 : Code := loopAt b115 0
theorem c115 : codeOk Tryz.prog h115 95 b115 = true := by kernel_rfl
/- a method -/
theorem e115 {lo : Nat} {args : List V} {h : Heap} (ha : args.length ≤ 95) (hb : args.all bare = true) :
    E lo 115 args h = fin Tryz.prog [.cell 2 34] h.length (evCode ⟨Tryz.prog, E, lo, h.length, h115⟩ loopW b115 (args0 args, h)) :=
  ev_body rfl Tryz.func115 rfl Tryz.ntmps115 (by kernel_rfl) rfl c115 rfl ha hb
noncomputable def b116 : Code := bodyOf Tryz.f116
noncomputable def l116x0 : Code := loopAt b116 0
theorem c116 : codeOk Tryz.prog h116 70 b116 = true := by kernel_rfl
/- a method -/
theorem e116 {lo : Nat} {args : List V} {h : Heap} (ha : args.length ≤ 70) (hb : args.all bare = true) :
    E lo 116 args h = fin Tryz.prog [.tmp 2] h.length (evCode ⟨Tryz.prog, E, lo, h.length, h116⟩ loopW b116 (args0 args, h)) :=
  ev_body rfl Tryz.func116 rfl Tryz.ntmps116 (by kernel_rfl) rfl c116 rfl ha hb
noncomputable def b117 : Code := bodyOf Tryz.f117
theorem c117 : codeOk Tryz.prog h117 25 b117 = true := by kernel_rfl
/-- jalousie/jalousieref3.first -/
theorem e117 {lo : Nat} {args : List V} {h : Heap} (ha : args.length ≤ 25) (hb : args.all bare = true) :
    E lo 117 args h = fin Tryz.prog [.tmp 2] h.length (evCode ⟨Tryz.prog, E, lo, h.length, h117⟩ loopW b117 (args0 args, h)) :=
  ev_body rfl Tryz.func117 rfl Tryz.ntmps117 (by kernel_rfl) rfl c117 rfl ha hb
noncomputable def b118 : Code := bodyOf Tryz.f118
theorem c118 : codeOk Tryz.prog h118 9 b118 = true := by kernel_rfl
/-- jalousie/jalousieref3.digit -/
theorem e118 {lo : Nat} {args : List V} {h : Heap} (ha : args.length ≤ 9) (hb : args.all bare = true) :
    E lo 118 args h = fin Tryz.prog [.tmp 2] h.length (evCode ⟨Tryz.prog, E, lo, h.length, h118⟩ loopW b118 (args0 args, h)) :=
  ev_body rfl Tryz.func118 rfl Tryz.ntmps118 (by kernel_rfl) rfl c118 rfl ha hb
noncomputable def b119 : Code := bodyOf Tryz.f119
noncomputable def l119x0 : Code := loopAt b119 0
theorem c119 : codeOk Tryz.prog h119 12 b119 = true := by kernel_rfl
/- a method -/
theorem e119 {lo : Nat} {args : List V} {h : Heap} (ha : args.length ≤ 12) (hb : args.all bare = true) :
    E lo 119 args h = fin Tryz.prog [] h.length (evCode ⟨Tryz.prog, E, lo, h.length, h119⟩ loopW b119 (args0 args, h)) :=
  ev_body rfl Tryz.func119 rfl Tryz.ntmps119 (by kernel_rfl) rfl c119 rfl ha hb
noncomputable def b120 : Code := bodyOf Tryz.f120
noncomputable def l120x0 : Code := loopAt b120 0
theorem c120 : codeOk Tryz.prog h120 153 b120 = true := by kernel_rfl
/-- jalousie/jalousieref1.Decimal -/
theorem e120 {lo : Nat} {args : List V} {h : Heap} (ha : args.length ≤ 153) (hb : args.all bare = true) :
    E lo 120 args h = fin Tryz.prog [.cell 2 32, .tmp 3, .tmp 4] h.length (evCode ⟨Tryz.prog, E, lo, h.length, h120⟩ loopW b120 (args0 args, h)) :=
  ev_body rfl Tryz.func120 rfl Tryz.ntmps120 (by kernel_rfl) rfl c120 rfl ha hb
noncomputable def b121 : Code := bodyOf Tryz.f121
noncomputable def l121x0 : Code := loopAt b121 0
theorem c121 : codeOk Tryz.prog h121 91 b121 = true := by kernel_rfl
/- a method -/
theorem e121 {lo : Nat} {args : List V} {h : Heap} (ha : args.length ≤ 91) (hb : args.all bare = true) :
    E lo 121 args h = fin Tryz.prog [.cell 2 34] h.length (evCode ⟨Tryz.prog, E, lo, h.length, h121⟩ loopW b121 (args0 args, h)) :=
  ev_body rfl Tryz.func121 rfl Tryz.ntmps121 (by kernel_rfl) rfl c121 rfl ha hb
noncomputable def b122 : Code := bodyOf Tryz.f122
noncomputable def l122x0 : Code := loopAt b122 0
theorem c122 : codeOk Tryz.prog h122 79 b122 = true := by kernel_rfl
/-- jalousie/jalousieref2.Encode -/
theorem e122 {lo : Nat} {args : List V} {h : Heap} (ha : args.length ≤ 79) (hb : args.all bare = true) :
    E lo 122 args h = fin Tryz.prog [.tmp 2] h.length (evCode ⟨Tryz.prog, E, lo, h.length, h122⟩ loopW b122 (args0 args, h)) :=
  ev_body rfl Tryz.func122 rfl Tryz.ntmps122 (by kernel_rfl) rfl c122 rfl ha hb
noncomputable def b123 : Code := bodyOf Tryz.f123
noncomputable def l123x0 : Code := loopAt b123 0
theorem c123 : codeOk Tryz.prog h123 101 b123 = true := by kernel_rfl
/-- jalousie/utf.step -/
theorem e123 {lo : Nat} {args : List V} {h : Heap} (ha : args.length ≤ 101) (hb : args.all bare = true) :
    E lo 123 args h = fin Tryz.prog [.tmp 2, .tmp 3] h.length (evCode ⟨Tryz.prog, E, lo, h.length, h123⟩ loopW b123 (args0 args, h)) :=
  ev_body rfl Tryz.func123 rfl Tryz.ntmps123 (by kernel_rfl) rfl c123 rfl ha hb
noncomputable def b124 : Code := bodyOf Tryz.f124
noncomputable def l124x0 : Code := loopAt b124 0
theorem c124 : codeOk Tryz.prog h124 81 b124 = true := by kernel_rfl
/-- jalousie/jalousieref2.one -/
theorem e124 {lo : Nat} {args : List V} {h : Heap} (ha : args.length ≤ 81) (hb : args.all bare = true) :
    E lo 124 args h = fin Tryz.prog [.tmp 4, .tmp 5, .tmp 6] h.length (evCode ⟨Tryz.prog, E, lo, h.length, h124⟩ loopW b124 (args0 args, h)) :=
  ev_body rfl Tryz.func124 rfl Tryz.ntmps124 (by kernel_rfl) rfl c124 rfl ha hb
noncomputable def b133 : Code := bodyOf Tryz.f133
noncomputable def l133x0 : Code := loopAt b133 0
theorem c133 : codeOk Tryz.prog h133 23 b133 = true := by kernel_rfl
/-- strings.trimRightByte -/
theorem e133 {lo : Nat} {args : List V} {h : Heap} (ha : args.length ≤ 23) (hb : args.all bare = true) :
    E lo 133 args h = fin Tryz.prog [.tmp 4] h.length (evCode ⟨Tryz.prog, E, lo, h.length, h133⟩ loopW b133 (args0 args, h)) :=
  ev_body rfl Tryz.func133 rfl Tryz.ntmps133 (by kernel_rfl) rfl c133 rfl ha hb
noncomputable def b142 : Code := bodyOf Tryz.f142
theorem c142 : codeOk Tryz.prog h142 28 b142 = true := by kernel_rfl
/-- jalousie/tok.hex -/
theorem e142 {lo : Nat} {args : List V} {h : Heap} (ha : args.length ≤ 28) (hb : args.all bare = true) :
    E lo 142 args h = fin Tryz.prog [.tmp 2] h.length (evCode ⟨Tryz.prog, E, lo, h.length, h142⟩ loopW b142 (args0 args, h)) :=
  ev_body rfl Tryz.func142 rfl Tryz.ntmps142 (by kernel_rfl) rfl c142 rfl ha hb
noncomputable def b143 : Code := bodyOf Tryz.f143
noncomputable def l143x0 : Code := loopAt b143 0
theorem c143 : codeOk Tryz.prog h143 135 b143 = true := by kernel_rfl
/-- jalousie/rat.cut -/
theorem e143 {lo : Nat} {args : List V} {h : Heap} (ha : args.length ≤ 135) (hb : args.all bare = true) :
    E lo 143 args h = fin Tryz.prog [.cell 2 127, .tmp 3] h.length (evCode ⟨Tryz.prog, E, lo, h.length, h143⟩ loopW b143 (args0 args, h)) :=
  ev_body rfl Tryz.func143 rfl Tryz.ntmps143 (by kernel_rfl) rfl c143 rfl ha hb
noncomputable def b144 : Code := bodyOf Tryz.f144
theorem c144 : codeOk Tryz.prog h144 37 b144 = true := by kernel_rfl
/-- strings.TrimLeft -/
theorem e144 {lo : Nat} {args : List V} {h : Heap} (ha : args.length ≤ 37) (hb : args.all bare = true) :
    E lo 144 args h = fin Tryz.prog [.tmp 4] h.length (evCode ⟨Tryz.prog, E, lo, h.length, h144⟩ loopW b144 (args0 args, h)) :=
  ev_body rfl Tryz.func144 rfl Tryz.ntmps144 (by kernel_rfl) rfl c144 rfl ha hb
noncomputable def b145 : Code := bodyOf Tryz.f145
noncomputable def l145x0 : Code := loopAt b145 0
noncomputable def l145x1 : Code := loopAt b145 1
noncomputable def l145x2 : Code := loopAt b145 2
theorem c145 : codeOk Tryz.prog h145 58 b145 = true := by kernel_rfl
/-- jalousie/rat.scaled -/
theorem e145 {lo : Nat} {args : List V} {h : Heap} (ha : args.length ≤ 58) (hb : args.all bare = true) :
    E lo 145 args h = fin Tryz.prog [.cell 6 32] h.length (evCode ⟨Tryz.prog, E, lo, h.length, h145⟩ loopW b145 (args0 args, h)) :=
  ev_body rfl Tryz.func145 rfl Tryz.ntmps145 (by kernel_rfl) rfl c145 rfl ha hb
noncomputable def b147 : Code := bodyOf Tryz.f147
theorem c147 : codeOk Tryz.prog h147 13 b147 = true := by kernel_rfl
/- a method -/
theorem e147 {lo : Nat} {args : List V} {h : Heap} (ha : args.length ≤ 13) (hb : args.all bare = true) :
    E lo 147 args h = fin Tryz.prog [.tmp 2] h.length (evCode ⟨Tryz.prog, E, lo, h.length, h147⟩ loopW b147 (args0 args, h)) :=
  ev_body rfl Tryz.func147 rfl Tryz.ntmps147 (by kernel_rfl) rfl c147 rfl ha hb
noncomputable def b148 : Code := bodyOf Tryz.f148
theorem c148 : codeOk Tryz.prog h148 21 b148 = true := by kernel_rfl
/- a method -/
theorem e148 {lo : Nat} {args : List V} {h : Heap} (ha : args.length ≤ 21) (hb : args.all bare = true) :
    E lo 148 args h = fin Tryz.prog [.cell 2 34] h.length (evCode ⟨Tryz.prog, E, lo, h.length, h148⟩ loopW b148 (args0 args, h)) :=
  ev_body rfl Tryz.func148 rfl Tryz.ntmps148 (by kernel_rfl) rfl c148 rfl ha hb
noncomputable def b149 : Code := bodyOf Tryz.f149
noncomputable def l149x0 : Code := loopAt b149 0
theorem c149 : codeOk Tryz.prog h149 53 b149 = true := by kernel_rfl
/- a method -/
theorem e149 {lo : Nat} {args : List V} {h : Heap} (ha : args.length ≤ 53) (hb : args.all bare = true) :
    E lo 149 args h = fin Tryz.prog [.cell 2 34] h.length (evCode ⟨Tryz.prog, E, lo, h.length, h149⟩ loopW b149 (args0 args, h)) :=
  ev_body rfl Tryz.func149 rfl Tryz.ntmps149 (by kernel_rfl) rfl c149 rfl ha hb
noncomputable def b150 : Code := bodyOf Tryz.f150
theorem c150 : codeOk Tryz.prog h150 25 b150 = true := by kernel_rfl
/-- jalousie/tok.unprintable -/
theorem e150 {lo : Nat} {args : List V} {h : Heap} (ha : args.length ≤ 25) (hb : args.all bare = true) :
    E lo 150 args h = fin Tryz.prog [.tmp 2] h.length (evCode ⟨Tryz.prog, E, lo, h.length, h150⟩ loopW b150 (args0 args, h)) :=
  ev_body rfl Tryz.func150 rfl Tryz.ntmps150 (by kernel_rfl) rfl c150 rfl ha hb
noncomputable def b151 : Code := bodyOf Tryz.f151
theorem c151 : codeOk Tryz.prog h151 29 b151 = true := by kernel_rfl
/-- jalousie/jalousieref3.hex -/
theorem e151 {lo : Nat} {args : List V} {h : Heap} (ha : args.length ≤ 29) (hb : args.all bare = true) :
    E lo 151 args h = fin Tryz.prog [.tmp 2, .tmp 3] h.length (evCode ⟨Tryz.prog, E, lo, h.length, h151⟩ loopW b151 (args0 args, h)) :=
  ev_body rfl Tryz.func151 rfl Tryz.ntmps151 (by kernel_rfl) rfl c151 rfl ha hb
noncomputable def b152 : Code := bodyOf Tryz.f152
noncomputable def l152x0 : Code := loopAt b152 0
theorem c152 : codeOk Tryz.prog h152 18 b152 = true := by kernel_rfl
/-- jalousie/jalousieref1.run -/
theorem e152 {lo : Nat} {args : List V} {h : Heap} (ha : args.length ≤ 18) (hb : args.all bare = true) :
    E lo 152 args h = fin Tryz.prog [.tmp 4] h.length (evCode ⟨Tryz.prog, E, lo, h.length, h152⟩ loopW b152 (args0 args, h)) :=
  ev_body rfl Tryz.func152 rfl Tryz.ntmps152 (by kernel_rfl) rfl c152 rfl ha hb
noncomputable def b153 : Code := bodyOf Tryz.f153
theorem c153 : codeOk Tryz.prog h153 2 b153 = true := by kernel_rfl
/-- jalousie/jalousieref1.Over -/
theorem e153 {lo : Nat} {args : List V} {h : Heap} (ha : args.length ≤ 2) (hb : args.all bare = true) :
    E lo 153 args h = fin Tryz.prog [.cell 0 32] h.length (evCode ⟨Tryz.prog, E, lo, h.length, h153⟩ loopW b153 (args0 args, h)) :=
  ev_body rfl Tryz.func153 rfl Tryz.ntmps153 (by kernel_rfl) rfl c153 rfl ha hb
noncomputable def b154 : Code := bodyOf Tryz.f154
noncomputable def l154x0 : Code := loopAt b154 0
noncomputable def l154x1 : Code := loopAt b154 1
noncomputable def l154x2 : Code := loopAt b154 2
noncomputable def l154x3 : Code := loopAt b154 3
noncomputable def l154x4 : Code := loopAt b154 4
noncomputable def l154x5 : Code := loopAt b154 5
noncomputable def l154x6 : Code := loopAt b154 6
noncomputable def l154x7 : Code := loopAt b154 7
theorem c154 : codeOk Tryz.prog h154 132 b154 = true := by kernel_rfl
/-- jalousie/jalousieref1.value -/
theorem e154 {lo : Nat} {args : List V} {h : Heap} (ha : args.length ≤ 132) (hb : args.all bare = true) :
    E lo 154 args h = fin Tryz.prog [.cell 6 32] h.length (evCode ⟨Tryz.prog, E, lo, h.length, h154⟩ loopW b154 (args0 args, h)) :=
  ev_body rfl Tryz.func154 rfl Tryz.ntmps154 (by kernel_rfl) rfl c154 rfl ha hb
noncomputable def b155 : Code := bodyOf Tryz.f155
noncomputable def l155x0 : Code := loopAt b155 0
theorem c155 : codeOk Tryz.prog h155 26 b155 = true := by kernel_rfl
/- a method -/
theorem e155 {lo : Nat} {args : List V} {h : Heap} (ha : args.length ≤ 26) (hb : args.all bare = true) :
    E lo 155 args h = fin Tryz.prog [.cell 2 34] h.length (evCode ⟨Tryz.prog, E, lo, h.length, h155⟩ loopW b155 (args0 args, h)) :=
  ev_body rfl Tryz.func155 rfl Tryz.ntmps155 (by kernel_rfl) rfl c155 rfl ha hb
noncomputable def b156 : Code := bodyOf Tryz.f156
theorem c156 : codeOk Tryz.prog h156 25 b156 = true := by kernel_rfl
/-- jalousie/jalousieref3.unprintable -/
theorem e156 {lo : Nat} {args : List V} {h : Heap} (ha : args.length ≤ 25) (hb : args.all bare = true) :
    E lo 156 args h = fin Tryz.prog [.tmp 2] h.length (evCode ⟨Tryz.prog, E, lo, h.length, h156⟩ loopW b156 (args0 args, h)) :=
  ev_body rfl Tryz.func156 rfl Tryz.ntmps156 (by kernel_rfl) rfl c156 rfl ha hb
noncomputable def b157 : Code := bodyOf Tryz.f157
theorem c157 : codeOk Tryz.prog h157 38 b157 = true := by kernel_rfl
/-- jalousie/jalousieref2.need -/
theorem e157 {lo : Nat} {args : List V} {h : Heap} (ha : args.length ≤ 38) (hb : args.all bare = true) :
    E lo 157 args h = fin Tryz.prog [.tmp 2, .tmp 3, .tmp 4] h.length (evCode ⟨Tryz.prog, E, lo, h.length, h157⟩ loopW b157 (args0 args, h)) :=
  ev_body rfl Tryz.func157 rfl Tryz.ntmps157 (by kernel_rfl) rfl c157 rfl ha hb
noncomputable def b172 : Code := bodyOf Tryz.f172
noncomputable def l172x0 : Code := loopAt b172 0
theorem c172 : codeOk Tryz.prog h172 23 b172 = true := by kernel_rfl
/-- jalousie/rat.digits -/
theorem e172 {lo : Nat} {args : List V} {h : Heap} (ha : args.length ≤ 23) (hb : args.all bare = true) :
    E lo 172 args h = fin Tryz.prog [.tmp 2] h.length (evCode ⟨Tryz.prog, E, lo, h.length, h172⟩ loopW b172 (args0 args, h)) :=
  ev_body rfl Tryz.func172 rfl Tryz.ntmps172 (by kernel_rfl) rfl c172 rfl ha hb
noncomputable def b173 : Code := bodyOf Tryz.f173
noncomputable def l173x0 : Code := loopAt b173 0
theorem c173 : codeOk Tryz.prog h173 17 b173 = true := by kernel_rfl
/-- strings.trimLeftByte -/
theorem e173 {lo : Nat} {args : List V} {h : Heap} (ha : args.length ≤ 17) (hb : args.all bare = true) :
    E lo 173 args h = fin Tryz.prog [.tmp 4] h.length (evCode ⟨Tryz.prog, E, lo, h.length, h173⟩ loopW b173 (args0 args, h)) :=
  ev_body rfl Tryz.func173 rfl Tryz.ntmps173 (by kernel_rfl) rfl c173 rfl ha hb
noncomputable def b176 : Code := bodyOf Tryz.f176
theorem c176 : codeOk Tryz.prog h176 30 b176 = true := by kernel_rfl
/-- jalousie/rat.made -/
theorem e176 {lo : Nat} {args : List V} {h : Heap} (ha : args.length ≤ 30) (hb : args.all bare = true) :
    E lo 176 args h = fin Tryz.prog [.cell 6 32] h.length (evCode ⟨Tryz.prog, E, lo, h.length, h176⟩ loopW b176 (args0 args, h)) :=
  ev_body rfl Tryz.func176 rfl Tryz.ntmps176 (by kernel_rfl) rfl c176 rfl ha hb
noncomputable def b180 : Code := bodyOf Tryz.f180
theorem c180 : codeOk Tryz.prog h180 9 b180 = true := by kernel_rfl
/-- jalousie/jalousieref1.digit -/
theorem e180 {lo : Nat} {args : List V} {h : Heap} (ha : args.length ≤ 9) (hb : args.all bare = true) :
    E lo 180 args h = fin Tryz.prog [.tmp 2] h.length (evCode ⟨Tryz.prog, E, lo, h.length, h180⟩ loopW b180 (args0 args, h)) :=
  ev_body rfl Tryz.func180 rfl Tryz.ntmps180 (by kernel_rfl) rfl c180 rfl ha hb
noncomputable def b181 : Code := bodyOf Tryz.f181
theorem c181 : codeOk Tryz.prog h181 5 b181 = true := by kernel_rfl
/-- jalousie/jalousieref1.Int -/
theorem e181 {lo : Nat} {args : List V} {h : Heap} (ha : args.length ≤ 5) (hb : args.all bare = true) :
    E lo 181 args h = fin Tryz.prog [.cell 2 32] h.length (evCode ⟨Tryz.prog, E, lo, h.length, h181⟩ loopW b181 (args0 args, h)) :=
  ev_body rfl Tryz.func181 rfl Tryz.ntmps181 (by kernel_rfl) rfl c181 rfl ha hb
end Go.Lift.R3
