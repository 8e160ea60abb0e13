/- Facts of the program that the evaluation asks for: the live slots of each function, its types. Written by a program (gen.py). -/
import Derived.Test.YtnlekmkfgaolbaaGreatDoorRows
import Derived.Lib.MapLaws
import Derived.Lib.DecodeN
import Derived.Lib.TrailingZeros
import Derived.Lib.ItoaNum
import Derived.Lib.Repeat
import Derived.Lib.Bytealg
import Derived.Lib.Index
import Derived.Test.YtnlekmkfgaolbaaGreatDoorGKa
set_option linter.unusedVariables false
set_option linter.unusedSimpArgs false
set_option linter.unusedSectionVars false
set_option maxRecDepth 20000
namespace Go.Lift.P8
open Go.Proofs
class MX where
 m : Int
 k : Bool
 d : Bool
 n : Bool
class HasK [MX] : Prop where
 h : MX.k = true
class HasD [MX] : Prop where
 h : MX.d = true
class HasN [MX] : Prop where
 h : MX.n = true
instance gtab [MX] : GTab := ⟨fun n => match n with | 0 => if MX.k = true then some [.v (.int .i64 21), .v (.int .i64 22), .v (.int .i64 19), .v (.int .i64 20), .v (.int .i64 23), .v (.int .i64 24), .v (.int .i64 18), .v (.int .i64 16), .v (.int .i64 17)] else none | 1 => some [.v (.int .i64 MX.m)] | 2 => if MX.d = true then some (Go.Lib.deBruijn64tab.map fun c : Nat => .v (.int .u8 (c : Int))) else none | 3 => if MX.n = true then some (Go.Lib.pow10Tab.map fun c => .v (.int .u64 c)) else none | 4 => some ((List.range 256).map fun c => .v (.int .u8 (Go.Lib.firstT c))) | 5 => some ((List.range 16).flatMap fun i => [.v (.int .u8 (Go.Lib.accLo i)), .v (.int .u8 (Go.Lib.accHi i))]) | _ => none⟩
def lowU (c : Int) : Int := if (decide (65 <= c) && decide (c <= 90)) = true then c + 32 else c
noncomputable def mapP (lo : Nat) (args : List V) (h : Heap) : Option (V × Heap) := match args with
 | [.fn g [], .v (.string s)] => if g = 191 /\ s.size < 35184372088832 then some (.v (.string ⟨(Go.Lib.mapD lowU s.data.toList).toArray⟩), h) else none
 | _ => none
noncomputable def primz [MX] : Nat -> Option (Nat -> List V -> Heap -> Option (V × Heap)) := fun n => match n with | 190 => some mapP | _ => none
instance bty : BTy := ⟨[(2, 85), (3, 87)], some 5⟩
@[go_sem] theorem bt_eq : BTy.bt = [(2, 85), (3, 87)] := rfl
@[go_sem] theorem bt_2 : btOf 2 = some 85 := rfl
@[go_sem] theorem bt_3 : btOf 3 = some 87 := rfl
@[go_sem] theorem bt_n (n : Nat) : btOf (n + 4) = none := rfl
@[go_sem] theorem bt_1 : btOf 1 = none := rfl
@[go_sem] theorem bb_eq : BTy.bb = some 5 := rfl
variable [MX]
attribute [go_sem] Tryz.underlying2
@[go_sem] theorem z2 : tsize Tryz.prog 2 = 1 := by kernel_rfl
@[go_sem] theorem k2 : ttag Tryz.prog 2 = some false := by kernel_rfl
@[go_sem] theorem s2 : isStr Tryz.prog 2 = false := by kernel_rfl
@[go_sem] theorem j2 : isI32 Tryz.prog 2 = false := by kernel_rfl
@[go_sem] theorem w2 : isU8 Tryz.prog 2 = false := by kernel_rfl
@[go_sem] theorem o2 : tzero Tryz.prog 2 = some [.int .i64 0] := by kernel_rfl
@[go_sem] theorem i2 : (Tryz.prog.info? 2).isSome = true := by kernel_rfl
attribute [go_sem] Tryz.underlying3
@[go_sem] theorem z3 : tsize Tryz.prog 3 = 1 := by kernel_rfl
@[go_sem] theorem k3 : ttag Tryz.prog 3 = some false := by kernel_rfl
@[go_sem] theorem y3 : Tryz.prog.bytesOf 3 = 8 := by kernel_rfl
@[go_sem] theorem s3 : isStr Tryz.prog 3 = false := by kernel_rfl
@[go_sem] theorem j3 : isI32 Tryz.prog 3 = false := by kernel_rfl
@[go_sem] theorem w3 : isU8 Tryz.prog 3 = false := by kernel_rfl
@[go_sem] theorem o3 : tzero Tryz.prog 3 = some [.int .i64 0] := by kernel_rfl
@[go_sem] theorem i3 : (Tryz.prog.info? 3).isSome = true := by kernel_rfl
attribute [go_sem] Tryz.underlying4
@[go_sem] theorem z4 : tsize Tryz.prog 4 = 1 := by kernel_rfl
@[go_sem] theorem k4 : ttag Tryz.prog 4 = some false := by kernel_rfl
@[go_sem] theorem s4 : isStr Tryz.prog 4 = false := by kernel_rfl
@[go_sem] theorem j4 : isI32 Tryz.prog 4 = false := by kernel_rfl
@[go_sem] theorem w4 : isU8 Tryz.prog 4 = false := by kernel_rfl
@[go_sem] theorem o4 : tzero Tryz.prog 4 = some [.bool false] := by kernel_rfl
@[go_sem] theorem i4 : (Tryz.prog.info? 4).isSome = true := by kernel_rfl
attribute [go_sem] Tryz.underlying5
@[go_sem] theorem z5 : tsize Tryz.prog 5 = 1 := by kernel_rfl
@[go_sem] theorem k5 : ttag Tryz.prog 5 = some false := by kernel_rfl
@[go_sem] theorem y5 : Tryz.prog.bytesOf 5 = 1 := by kernel_rfl
@[go_sem] theorem s5 : isStr Tryz.prog 5 = false := by kernel_rfl
@[go_sem] theorem j5 : isI32 Tryz.prog 5 = false := by kernel_rfl
@[go_sem] theorem w5 : isU8 Tryz.prog 5 = true := by kernel_rfl
@[go_sem] theorem o5 : tzero Tryz.prog 5 = some [.int .u8 0] := by kernel_rfl
@[go_sem] theorem i5 : (Tryz.prog.info? 5).isSome = true := by kernel_rfl
attribute [go_sem] Tryz.underlying9
@[go_sem] theorem z9 : tsize Tryz.prog 9 = 1 := by kernel_rfl
@[go_sem] theorem k9 : ttag Tryz.prog 9 = some false := by kernel_rfl
@[go_sem] theorem s9 : isStr Tryz.prog 9 = true := by kernel_rfl
@[go_sem] theorem i9 : (Tryz.prog.info? 9).isSome = true := by kernel_rfl
attribute [go_sem] Tryz.underlying21
@[go_sem] theorem z21 : tsize Tryz.prog 21 = 1 := by kernel_rfl
@[go_sem] theorem k21 : ttag Tryz.prog 21 = some false := by kernel_rfl
@[go_sem] theorem y21 : Tryz.prog.bytesOf 21 = 4 := by kernel_rfl
@[go_sem] theorem s21 : isStr Tryz.prog 21 = false := by kernel_rfl
@[go_sem] theorem j21 : isI32 Tryz.prog 21 = true := by kernel_rfl
@[go_sem] theorem w21 : isU8 Tryz.prog 21 = false := by kernel_rfl
@[go_sem] theorem o21 : tzero Tryz.prog 21 = some [.int .i32 0] := by kernel_rfl
attribute [go_sem] Tryz.underlying22
@[go_sem] theorem z22 : tsize Tryz.prog 22 = 1 := by kernel_rfl
@[go_sem] theorem k22 : ttag Tryz.prog 22 = some false := by kernel_rfl
@[go_sem] theorem o22 : tzero Tryz.prog 22 = some [.slice none 0 0] := by kernel_rfl
@[go_sem] theorem i22 : (Tryz.prog.info? 22).isSome = true := by kernel_rfl
attribute [go_sem] Tryz.underlying24
@[go_sem] theorem z24 : tsize Tryz.prog 24 = 1 := by kernel_rfl
@[go_sem] theorem k24 : ttag Tryz.prog 24 = some false := by kernel_rfl
@[go_sem] theorem i24 : (Tryz.prog.info? 24).isSome = true := by kernel_rfl
attribute [go_sem] Tryz.underlying28
@[go_sem] theorem s28 : isStr Tryz.prog 28 = false := by kernel_rfl
attribute [go_sem] Tryz.underlying29
attribute [go_sem] Tryz.underlying35
@[go_sem] theorem z35 : tsize Tryz.prog 35 = 2 := by kernel_rfl
@[go_sem] theorem k35 : ttag Tryz.prog 35 = some true := by kernel_rfl
@[go_sem] theorem o35 : tzero Tryz.prog 35 = some [.int .i64 0, .int .i64 0] := by kernel_rfl
@[go_sem] theorem i35 : (Tryz.prog.info? 35).isSome = true := by kernel_rfl
@[go_sem] theorem x35 : structOk Tryz.prog 35 = true := by kernel_rfl
@[go_sem] theorem g35x0 : fieldOff Tryz.prog 35 0 = some (0, 2) := by kernel_rfl
@[go_sem] theorem g35x1 : fieldOff Tryz.prog 35 1 = some (1, 2) := by kernel_rfl
attribute [go_sem] Tryz.underlying37
@[go_sem] theorem z37 : tsize Tryz.prog 37 = 6 := by kernel_rfl
@[go_sem] theorem k37 : ttag Tryz.prog 37 = some true := by kernel_rfl
@[go_sem] theorem y37 : Tryz.prog.bytesOf 37 = 48 := by kernel_rfl
@[go_sem] theorem o37 : tzero Tryz.prog 37 = some [.int .i64 0, .string ByteArray.empty, .int .i64 0, .int .i64 0, .bool false, .bool false] := by kernel_rfl
@[go_sem] theorem i37 : (Tryz.prog.info? 37).isSome = true := by kernel_rfl
@[go_sem] theorem x37 : structOk Tryz.prog 37 = true := by kernel_rfl
@[go_sem] theorem g37x0 : fieldOff Tryz.prog 37 0 = some (0, 3) := by kernel_rfl
@[go_sem] theorem g37x1 : fieldOff Tryz.prog 37 1 = some (1, 9) := by kernel_rfl
@[go_sem] theorem g37x2 : fieldOff Tryz.prog 37 2 = some (2, 35) := by kernel_rfl
@[go_sem] theorem g37x3 : fieldOff Tryz.prog 37 3 = some (4, 4) := by kernel_rfl
@[go_sem] theorem g37x4 : fieldOff Tryz.prog 37 4 = some (5, 4) := by kernel_rfl
attribute [go_sem] Tryz.underlying41
@[go_sem] theorem z41 : tsize Tryz.prog 41 = 1 := by kernel_rfl
@[go_sem] theorem k41 : ttag Tryz.prog 41 = some false := by kernel_rfl
attribute [go_sem] Tryz.underlying44
@[go_sem] theorem z44 : tsize Tryz.prog 44 = 1 := by kernel_rfl
@[go_sem] theorem k44 : ttag Tryz.prog 44 = some false := by kernel_rfl
@[go_sem] theorem y44 : Tryz.prog.bytesOf 44 = 24 := by kernel_rfl
@[go_sem] theorem o44 : tzero Tryz.prog 44 = some [.slice none 0 0] := by kernel_rfl
@[go_sem] theorem i44 : (Tryz.prog.info? 44).isSome = true := by kernel_rfl
attribute [go_sem] Tryz.underlying50
@[go_sem] theorem z50 : tsize Tryz.prog 50 = 1 := by kernel_rfl
@[go_sem] theorem k50 : ttag Tryz.prog 50 = some false := by kernel_rfl
@[go_sem] theorem o50 : tzero Tryz.prog 50 = some [.slice none 0 0] := by kernel_rfl
@[go_sem] theorem i50 : (Tryz.prog.info? 50).isSome = true := by kernel_rfl
attribute [go_sem] Tryz.underlying55
@[go_sem] theorem z55 : tsize Tryz.prog 55 = 5 := by kernel_rfl
@[go_sem] theorem k55 : ttag Tryz.prog 55 = some true := by kernel_rfl
@[go_sem] theorem y55 : Tryz.prog.bytesOf 55 = 96 := by kernel_rfl
@[go_sem] theorem o55 : tzero Tryz.prog 55 = some [.int .i64 0, .string ByteArray.empty, .slice none 0 0, .slice none 0 0, .slice none 0 0] := by kernel_rfl
@[go_sem] theorem i55 : (Tryz.prog.info? 55).isSome = true := by kernel_rfl
@[go_sem] theorem x55 : structOk Tryz.prog 55 = true := by kernel_rfl
@[go_sem] theorem g55x0 : fieldOff Tryz.prog 55 0 = some (0, 3) := by kernel_rfl
@[go_sem] theorem g55x1 : fieldOff Tryz.prog 55 1 = some (1, 9) := by kernel_rfl
@[go_sem] theorem g55x2 : fieldOff Tryz.prog 55 2 = some (2, 44) := by kernel_rfl
@[go_sem] theorem g55x3 : fieldOff Tryz.prog 55 3 = some (3, 41) := by kernel_rfl
@[go_sem] theorem g55x4 : fieldOff Tryz.prog 55 4 = some (4, 24) := by kernel_rfl
attribute [go_sem] Tryz.underlying56
@[go_sem] theorem z56 : tsize Tryz.prog 56 = 1 := by kernel_rfl
@[go_sem] theorem k56 : ttag Tryz.prog 56 = some false := by kernel_rfl
@[go_sem] theorem i56 : (Tryz.prog.info? 56).isSome = true := by kernel_rfl
attribute [go_sem] Tryz.underlying59
@[go_sem] theorem z59 : tsize Tryz.prog 59 = 8 := by kernel_rfl
@[go_sem] theorem k59 : ttag Tryz.prog 59 = some true := by kernel_rfl
@[go_sem] theorem y59 : Tryz.prog.bytesOf 59 = 136 := by kernel_rfl
@[go_sem] theorem o59 : tzero Tryz.prog 59 = some [.int .i64 0, .int .i64 0, .slice none 0 0, .int .i64 0, .string ByteArray.empty, .slice none 0 0, .slice none 0 0, .slice none 0 0] := by kernel_rfl
@[go_sem] theorem i59 : (Tryz.prog.info? 59).isSome = true := by kernel_rfl
@[go_sem] theorem x59 : structOk Tryz.prog 59 = true := by kernel_rfl
@[go_sem] theorem g59x0 : fieldOff Tryz.prog 59 0 = some (0, 3) := by kernel_rfl
@[go_sem] theorem g59x1 : fieldOff Tryz.prog 59 1 = some (1, 3) := by kernel_rfl
@[go_sem] theorem g59x2 : fieldOff Tryz.prog 59 2 = some (2, 24) := by kernel_rfl
@[go_sem] theorem g59x3 : fieldOff Tryz.prog 59 3 = some (3, 55) := by kernel_rfl
attribute [go_sem] Tryz.underlying60
attribute [go_sem] Tryz.underlying61
attribute [go_sem] Tryz.underlying67
@[go_sem] theorem z67 : tsize Tryz.prog 67 = 3 := by kernel_rfl
@[go_sem] theorem k67 : ttag Tryz.prog 67 = some true := by kernel_rfl
@[go_sem] theorem y67 : Tryz.prog.bytesOf 67 = 48 := by kernel_rfl
@[go_sem] theorem o67 : tzero Tryz.prog 67 = some [.string ByteArray.empty, .slice none 0 0, .bool false] := by kernel_rfl
@[go_sem] theorem i67 : (Tryz.prog.info? 67).isSome = true := by kernel_rfl
@[go_sem] theorem x67 : structOk Tryz.prog 67 = true := by kernel_rfl
@[go_sem] theorem g67x0 : fieldOff Tryz.prog 67 0 = some (0, 9) := by kernel_rfl
@[go_sem] theorem g67x1 : fieldOff Tryz.prog 67 1 = some (1, 44) := by kernel_rfl
@[go_sem] theorem g67x2 : fieldOff Tryz.prog 67 2 = some (2, 4) := by kernel_rfl
attribute [go_sem] Tryz.underlying69
@[go_sem] theorem z69 : tsize Tryz.prog 69 = 1 := by kernel_rfl
@[go_sem] theorem k69 : ttag Tryz.prog 69 = some false := by kernel_rfl
@[go_sem] theorem o69 : tzero Tryz.prog 69 = some [.slice none 0 0] := by kernel_rfl
@[go_sem] theorem i69 : (Tryz.prog.info? 69).isSome = true := by kernel_rfl
attribute [go_sem] Tryz.underlying74
@[go_sem] theorem z74 : tsize Tryz.prog 74 = 7 := by kernel_rfl
@[go_sem] theorem k74 : ttag Tryz.prog 74 = some true := by kernel_rfl
@[go_sem] theorem y74 : Tryz.prog.bytesOf 74 = 72 := by kernel_rfl
@[go_sem] theorem o74 : tzero Tryz.prog 74 = some [.int .i64 0, .string ByteArray.empty, .int .i64 0, .int .i64 0, .bool false, .bool false, .slice none 0 0] := by kernel_rfl
@[go_sem] theorem i74 : (Tryz.prog.info? 74).isSome = true := by kernel_rfl
@[go_sem] theorem x74 : structOk Tryz.prog 74 = true := by kernel_rfl
@[go_sem] theorem g74x0 : fieldOff Tryz.prog 74 0 = some (0, 37) := by kernel_rfl
@[go_sem] theorem g74x1 : fieldOff Tryz.prog 74 1 = some (6, 44) := by kernel_rfl
attribute [go_sem] Tryz.underlying93
@[go_sem] theorem o93 : tzero Tryz.prog 93 = some [.slice none 0 0, .slice none 0 0, .slice none 0 0] := by kernel_rfl
@[go_sem] theorem x93 : structOk Tryz.prog 93 = true := by kernel_rfl
@[go_sem] theorem g93x0 : fieldOff Tryz.prog 93 0 = some (0, 22) := by kernel_rfl
@[go_sem] theorem g93x1 : fieldOff Tryz.prog 93 1 = some (1, 69) := by kernel_rfl
@[go_sem] theorem g93x2 : fieldOff Tryz.prog 93 2 = some (2, 69) := by kernel_rfl
attribute [go_sem] Tryz.underlying108
@[go_sem] theorem z108 : tsize Tryz.prog 108 = 1 := by kernel_rfl
@[go_sem] theorem k108 : ttag Tryz.prog 108 = some false := by kernel_rfl
@[go_sem] theorem s108 : isStr Tryz.prog 108 = false := by kernel_rfl
@[go_sem] theorem o108 : tzero Tryz.prog 108 = some [.slice none 0 0] := by kernel_rfl
@[go_sem] theorem i108 : (Tryz.prog.info? 108).isSome = true := by kernel_rfl
attribute [go_sem] Tryz.underlying123
@[go_sem] theorem z123 : tsize Tryz.prog 123 = 2 := by kernel_rfl
@[go_sem] theorem o123 : tzero Tryz.prog 123 = some [.slice none 0 0, .int .i64 0] := by kernel_rfl
@[go_sem] theorem x123 : structOk Tryz.prog 123 = true := by kernel_rfl
@[go_sem] theorem g123x0 : fieldOff Tryz.prog 123 0 = some (0, 108) := by kernel_rfl
@[go_sem] theorem g123x1 : fieldOff Tryz.prog 123 1 = some (1, 3) := by kernel_rfl
attribute [go_sem] Tryz.underlying125
@[go_sem] theorem z125 : tsize Tryz.prog 125 = 2 := by kernel_rfl
@[go_sem] theorem o125 : tzero Tryz.prog 125 = some [.slice none 0 0, .int .i64 0] := by kernel_rfl
@[go_sem] theorem i125 : (Tryz.prog.info? 125).isSome = true := by kernel_rfl
@[go_sem] theorem x125 : structOk Tryz.prog 125 = true := by kernel_rfl
@[go_sem] theorem g125x0 : fieldOff Tryz.prog 125 0 = some (0, 123) := by kernel_rfl
attribute [go_sem] Tryz.underlying138
@[go_sem] theorem z138 : tsize Tryz.prog 138 = 1 := by kernel_rfl
attribute [go_sem] Tryz.underlying140
@[go_sem] theorem k140 : ttag Tryz.prog 140 = some false := by kernel_rfl
attribute [go_sem] Tryz.underlying164
@[go_sem] theorem z164 : tsize Tryz.prog 164 = 1 := by kernel_rfl
attribute [go_sem] Tryz.underlying171
@[go_sem] theorem z171 : tsize Tryz.prog 171 = 1 := by kernel_rfl
@[go_sem] theorem k171 : ttag Tryz.prog 171 = some false := by kernel_rfl
@[go_sem] theorem s171 : isStr Tryz.prog 171 = false := by kernel_rfl
@[go_sem] theorem o171 : tzero Tryz.prog 171 = some [.int .u64 0] := by kernel_rfl
attribute [go_sem] Tryz.underlying177
@[go_sem] theorem z177 : tsize Tryz.prog 177 = 5 := by kernel_rfl
@[go_sem] theorem k177 : ttag Tryz.prog 177 = some true := by kernel_rfl
@[go_sem] theorem o177 : tzero Tryz.prog 177 = some [.bool false, .string ByteArray.empty, .int .i64 0, .int .i64 0, .bool false] := by kernel_rfl
@[go_sem] theorem i177 : (Tryz.prog.info? 177).isSome = true := by kernel_rfl
@[go_sem] theorem g177x0 : fieldOff Tryz.prog 177 0 = some (0, 4) := by kernel_rfl
@[go_sem] theorem g177x1 : fieldOff Tryz.prog 177 1 = some (1, 9) := by kernel_rfl
@[go_sem] theorem g177x2 : fieldOff Tryz.prog 177 2 = some (2, 2) := by kernel_rfl
@[go_sem] theorem g177x3 : fieldOff Tryz.prog 177 3 = some (3, 2) := by kernel_rfl
@[go_sem] theorem g177x4 : fieldOff Tryz.prog 177 4 = some (4, 4) := by kernel_rfl
attribute [go_sem] Tryz.underlying202
@[go_sem] theorem o202 : tzero Tryz.prog 202 = some [.bool false, .bool false, .bool false, .bool false, .bool false, .bool false, .bool false, .bool false, .bool false, .bool false, .bool false, .bool false, .bool false, .bool false, .bool false, .bool false, .bool false, .bool false, .bool false, .bool false, .bool false, .bool false, .bool false, .bool false, .bool false, .bool false, .bool false, .bool false, .bool false, .bool false, .bool false, .bool false, .bool false, .bool false, .bool false, .bool false, .bool false, .bool false, .bool false, .bool false, .bool false, .bool false, .bool false, .bool false, .bool false, .bool false, .bool false, .bool false, .bool false, .bool false, .bool false, .bool false, .bool false, .bool false, .bool false, .bool false, .bool false, .bool false, .bool false, .bool false, .bool false, .bool false, .bool false, .bool false, .bool false, .bool false, .bool false, .bool false, .bool false, .bool false, .bool false, .bool false, .bool false, .bool false, .bool false, .bool false, .bool false, .bool false, .bool false, .bool false, .bool false, .bool false, .bool false, .bool false, .bool false, .bool false, .bool false, .bool false, .bool false, .bool false, .bool false, .bool false, .bool false, .bool false, .bool false, .bool false, .bool false, .bool false, .bool false, .bool false, .bool false, .bool false, .bool false, .bool false, .bool false, .bool false, .bool false, .bool false, .bool false, .bool false, .bool false, .bool false, .bool false, .bool false, .bool false, .bool false, .bool false, .bool false, .bool false, .bool false, .bool false, .bool false, .bool false, .bool false, .bool false, .bool false, .bool false, .bool false, .bool false, .bool false, .bool false, .bool false, .bool false, .bool false, .bool false, .bool false, .bool false, .bool false, .bool false, .bool false, .bool false, .bool false, .bool false, .bool false, .bool false, .bool false, .bool false, .bool false, .bool false, .bool false, .bool false, .bool false, .bool false, .bool false, .bool false, .bool false, .bool false, .bool false, .bool false, .bool false, .bool false, .bool false, .bool false, .bool false, .bool false, .bool false, .bool false, .bool false, .bool false, .bool false, .bool false, .bool false, .bool false, .bool false, .bool false, .bool false, .bool false, .bool false, .bool false, .bool false, .bool false, .bool false, .bool false, .bool false, .bool false, .bool false, .bool false, .bool false, .bool false, .bool false, .bool false, .bool false, .bool false, .bool false, .bool false, .bool false, .bool false, .bool false, .bool false, .bool false, .bool false, .bool false, .bool false, .bool false, .bool false, .bool false, .bool false, .bool false, .bool false, .bool false, .bool false, .bool false, .bool false, .bool false, .bool false, .bool false, .bool false, .bool false, .bool false, .bool false, .bool false, .bool false, .bool false, .bool false, .bool false, .bool false, .bool false, .bool false, .bool false, .bool false, .bool false, .bool false, .bool false, .bool false, .bool false, .bool false, .bool false, .bool false, .bool false, .bool false, .bool false, .bool false, .bool false, .bool false, .bool false, .bool false, .bool false, .bool false, .bool false, .bool false, .bool false, .bool false, .bool false, .bool false, .bool false, .bool false] := by kernel_rfl
attribute [go_sem] Tryz.underlying207
def HQ (a : Nat -> Option (List Nat)) : Hint := ⟨a, (fun _ => none), (fun _ => none), [], false, (fun _ => none), fun _ => 0, 0, false, (fun _ => none)⟩
@[go_sem] theorem HQe (a : Nat -> Option (List Nat)) : (HQ a).late = (fun _ => none) := rfl
@[go_sem] theorem HQx (a : Nat -> Option (List Nat)) : (HQ a).mix = (fun _ => none) := rfl
@[go_sem] theorem HQl (a : Nat -> Option (List Nat)) : (HQ a).live = a := rfl
@[go_sem] theorem HQo (a : Nat -> Option (List Nat)) : (HQ a).mode = fun _ => 0 := rfl
@[go_sem] theorem HQk (a : Nat -> Option (List Nat)) : (HQ a).keep = (fun _ => none) := rfl
@[go_sem] theorem HQt (a : Nat -> Option (List Nat)) : (HQ a).tail = (fun _ => none) := rfl
@[go_sem] theorem HQv (a : Nat -> Option (List Nat)) : (HQ a).vars = [] := rfl
@[go_sem] theorem HQm (a : Nat -> Option (List Nat)) : (HQ a).mutc = false := rfl
@[go_sem] def h7a : Nat -> Option (List Nat) := (fun id => match id with | 0 => some [0] | 1 => some [0, 3, 4] | 2 => some [3, 29] | 3 => some [2] | 4 => some [5] | 5 => some [2] | _ => none)
abbrev h7 : Hint := HQ h7a
@[go_sem] def h16a : Nat -> Option (List Nat) := (fun id => match id with | 0 => some [0] | 1 => some [0, 3] | 2 => some [0, 3, 4] | 3 => some [0, 3, 4, 5] | 4 => some [0, 3, 4, 5, 6] | 5 => some [0, 3, 4, 5, 6, 31] | 6 => some [0, 3, 4, 5, 6, 33] | 7 => some [2] | 8 => some [0, 3, 4, 5, 6, 7] | 9 => some [0, 3, 4, 5, 7] | 10 => some [0, 3, 4, 5, 7] | 11 => some [0, 3, 4, 5, 7, 52] | 12 => some [0, 3, 4, 62, 63, 65] | 13 => some [0, 3, 4] | 14 => some [0, 3, 4] | 15 => some [0, 3, 4, 5, 6, 8] | 16 => some [0, 3, 4] | 17 => some [0, 3, 4, 5, 6, 8, 95] | 18 => some [0, 3, 4, 5, 6, 8, 95] | 19 => some [0, 3, 4] | 20 => some [0, 3, 4, 5, 6, 115] | 21 => some [0, 3, 4, 9, 10] | 22 => some [0, 3, 4, 9, 125] | 23 => some [0, 3, 4] | _ => none)
@[go_sem] def h16M : Nat -> Option Mix := (fun id => match id with | 11 => some ⟨[3], [], .one 0 (.alt (.one 1 (.one 2 (.head 3 (.fin)))) (.one 2 (.one 1 (.head 3 (.fin)))))⟩ | 14 => some ⟨[0, 1, 2, 3, 4, 5, 6, 7, 8, 9, 10, 12, 13], [], .head 3 (.head 4 (.head 5 (.head 6 (.head 7 (.head 8 (.head 9 (.head 10 (.alt (.one 0 (.alt (.one 1 (.alt (.one 2 (.one 11 (.head 12 (.head 13 (.one 14 (.fin)))))) (.one 11 (.head 2 (.head 12 (.head 13 (.one 14 (.fin)))))))) (.one 11 (.head 1 (.head 2 (.head 12 (.head 13 (.one 14 (.fin))))))))) (.alt (.one 1 (.alt (.one 0 (.alt (.one 2 (.one 11 (.head 12 (.head 13 (.one 14 (.fin)))))) (.one 11 (.head 2 (.head 12 (.head 13 (.one 14 (.fin)))))))) (.alt (.one 2 (.alt (.one 0 (.one 11 (.head 12 (.head 13 (.one 14 (.fin)))))) (.one 11 (.head 0 (.head 12 (.head 13 (.one 14 (.fin)))))))) (.one 11 (.head 0 (.head 2 (.head 12 (.head 13 (.one 14 (.fin)))))))))) (.one 11 (.head 0 (.head 1 (.head 2 (.head 12 (.head 13 (.one 14 (.fin)))))))))))))))))⟩ | _ => none)
def h16 : Hint := ⟨h16a, (fun id => match id with | 3 => some 4 | 11 => some 5 | 13 => some 4 | 14 => some 4 | 23 => some 4 | _ => none), (fun id => match id with | 5 => some 9 | 11 => some 0 | 12 => some 12 | 14 => some 10 | _ => none), [4], false, h16M, (fun d => match d with | some 9 => 4 | some 16 => 1 | some 128 => 2 | some 129 => 1 | none => 4 | _ => 0), 0, false, (fun id => match id with | 12 => some 0 | _ => none)⟩
@[go_sem] theorem h16e : h16.late = (fun id => match id with | 12 => some 0 | _ => none) := rfl
@[go_sem] theorem h16x : h16.mix = h16M := rfl
@[go_sem] theorem h16l : h16.live = h16a := rfl
@[go_sem] theorem h16o : h16.mode = (fun d => match d with | some 9 => 4 | some 16 => 1 | some 128 => 2 | some 129 => 1 | none => 4 | _ => 0) := rfl
@[go_sem] theorem h16k : h16.keep = (fun id => match id with | 3 => some 4 | 11 => some 5 | 13 => some 4 | 14 => some 4 | 23 => some 4 | _ => none) := rfl
@[go_sem] theorem h16t : h16.tail = (fun id => match id with | 5 => some 9 | 11 => some 0 | 12 => some 12 | 14 => some 10 | _ => none) := rfl
@[go_sem] theorem h16v : h16.vars = [4] := rfl
@[go_sem] def h18a : Nat -> Option (List Nat) := (fun id => match id with | 0 => some [] | 1 => some [1, 2] | 2 => some [0] | _ => none)
abbrev h18 : Hint := HQ h18a
@[go_sem] def h19a : Nat -> Option (List Nat) := (fun id => match id with | 0 => some [0] | 1 => some [0, 6] | 2 => some [2, 3] | 3 => some [2, 3] | _ => none)
abbrev h19 : Hint := HQ h19a
@[go_sem] def h22a : Nat -> Option (List Nat) := (fun id => match id with | 0 => some [0] | 1 => some [0, 3] | 2 => some [3, 9, 10, 11] | 3 => some [3, 9, 10, 11, 12] | 4 => some [3, 5, 9, 10, 11] | 5 => some [3, 5, 9, 10, 11, 18] | 6 => some [2] | 7 => some [3, 5, 9, 10, 11, 20, 21, 22] | 8 => some [3, 5, 9, 10, 11, 20, 21, 22, 23] | 9 => some [3, 5, 7, 9, 10, 11, 20, 21, 22] | 10 => some [3, 5, 9, 10, 11, 20, 21, 22, 29] | 11 => some [2] | 12 => some [3, 5, 9, 10, 11, 20, 21, 22] | 13 => some [3, 8, 9, 10, 11] | 14 => some [3, 8, 9, 10, 11, 35] | 15 => some [2] | 16 => some [3, 9, 10, 11] | 17 => some [3, 9, 10, 11] | 18 => some [2] | _ => none)
def h22 : Hint := ⟨h22a, (fun id => match id with | 12 => some 1 | 17 => some 0 | _ => none), (fun _ => none), [], false, (fun _ => none), fun _ => 0, 0, false, (fun _ => none)⟩
@[go_sem] theorem h22l : h22.live = h22a := rfl
@[go_sem] theorem h22o : h22.mode = fun _ => 0 := rfl
@[go_sem] theorem h22k : h22.keep = (fun id => match id with | 12 => some 1 | 17 => some 0 | _ => none) := rfl
@[go_sem] theorem h22v : h22.vars = [] := rfl
@[go_sem] def h26a : Nat -> Option (List Nat) := (fun id => match id with | 0 => some [0] | 1 => some [0, 3] | 2 => some [0, 3, 4] | 3 => some [0, 3, 4, 5] | 4 => some [3, 4, 5, 11, 12, 13] | 5 => some [3, 4, 5, 11, 12, 13, 14] | 6 => some [3, 4, 5, 7, 11, 12, 13] | 7 => some [3, 4, 5, 7, 8, 11, 12, 13] | 8 => some [3, 4, 5, 7, 8, 11, 12, 13, 20] | 9 => some [3, 4, 5, 11, 12, 13, 26, 27, 29] | 10 => some [3, 4, 5, 11, 12, 13] | 11 => some [3, 4, 5, 11, 12, 13] | 12 => some [3, 4, 5, 7, 8, 11, 12, 13, 43] | 13 => some [3, 4, 5, 7, 11, 12, 13] | 14 => some [3, 4, 5, 11, 12, 13] | 15 => some [3, 4, 5, 7, 8, 11, 12, 13, 55] | 16 => some [3, 4, 5, 11, 12, 13] | 17 => some [3, 4, 5, 11, 12, 13] | 18 => some [3, 4, 5, 75] | 19 => some [3, 4, 5, 11, 12, 13] | 20 => some [2] | _ => none)
@[go_sem] def h26M : Nat -> Option Mix := (fun id => match id with | 8 => some ⟨[3], [], .one 0 (.alt (.one 1 (.one 2 (.head 3 (.fin)))) (.one 2 (.one 1 (.head 3 (.fin)))))⟩ | 11 => some ⟨[0, 1, 2, 3, 4, 5, 6, 7, 8, 10], [], .head 2 (.head 3 (.head 4 (.head 5 (.head 6 (.head 7 (.head 8 (.alt (.one 0 (.alt (.one 1 (.one 9 (.head 10 (.one 11 (.fin))))) (.one 9 (.head 1 (.head 10 (.one 11 (.fin))))))) (.alt (.one 1 (.alt (.one 0 (.one 9 (.head 10 (.one 11 (.fin))))) (.one 9 (.head 0 (.head 10 (.one 11 (.fin))))))) (.one 9 (.head 0 (.head 1 (.head 10 (.one 11 (.fin))))))))))))))⟩ | _ => none)
def h26 : Hint := ⟨h26a, (fun id => match id with | 8 => some 1001 | 13 => some 2007 | 17 => some 1001 | _ => none), (fun id => match id with | 8 => some 0 | 9 => some 8 | 11 => some 8 | 15 => some 14 | _ => none), [], false, h26M, (fun d => match d with | some 9 => 1 | some 51 => 1 | some 53 => 2 | some 54 => 1 | none => 3 | _ => 0), 0, false, (fun id => match id with | 9 => some 0 | _ => none)⟩
@[go_sem] theorem h26e : h26.late = (fun id => match id with | 9 => some 0 | _ => none) := rfl
@[go_sem] theorem h26x : h26.mix = h26M := rfl
@[go_sem] theorem h26l : h26.live = h26a := rfl
@[go_sem] theorem h26o : h26.mode = (fun d => match d with | some 9 => 1 | some 51 => 1 | some 53 => 2 | some 54 => 1 | none => 3 | _ => 0) := rfl
@[go_sem] theorem h26k : h26.keep = (fun id => match id with | 8 => some 1001 | 13 => some 2007 | 17 => some 1001 | _ => none) := rfl
@[go_sem] theorem h26t : h26.tail = (fun id => match id with | 8 => some 0 | 9 => some 8 | 11 => some 8 | 15 => some 14 | _ => none) := rfl
@[go_sem] theorem h26v : h26.vars = [] := rfl
@[go_sem] def h32a : Nat -> Option (List Nat) := (fun id => match id with | 0 => some [0] | 1 => some [2] | _ => none)
abbrev h32 : Hint := HQ h32a
@[go_sem] def h41a : Nat -> Option (List Nat) := (fun id => match id with | 0 => some [0] | 1 => some [0, 3] | 2 => some [0, 3, 4] | 3 => some [0, 3, 4, 5] | 4 => some [0, 3, 4, 5, 19, 20, 21] | 5 => some [0, 3, 4, 5, 19, 20, 21, 22] | 6 => some [0, 3, 4, 5, 6, 7, 19, 20, 21] | 7 => some [0, 3, 4, 5, 6, 7, 8, 19, 20, 21] | 8 => some [0, 3, 4, 5, 6, 7, 8, 19, 20, 21, 28] | 9 => some [0, 3, 4, 5, 6, 7, 8, 19, 20, 21, 28] | 10 => some [0, 3, 4, 5, 6, 19, 20, 21, 37] | 11 => some [0, 3, 4, 5, 6, 7, 8, 19, 20, 21, 28] | 12 => some [0, 3, 4, 5, 19, 20, 21] | 13 => some [0, 3, 4, 5, 61] | 14 => some [0, 3, 4, 5, 19, 20, 21] | 15 => some [2] | _ => none)
@[go_sem] def h41M : Nat -> Option Mix := (fun id => match id with | 1 => some ⟨[0, 1, 2, 4, 5, 7], [], .head 0 (.head 1 (.head 2 (.head 4 (.head 5 (.alt (.one 3 (.alt (.one 6 (.head 7 (.alt (.one 8 (.one 9 (.one 10 (.fin)))) (.one 9 (.one 8 (.one 10 (.finS 2))))))) (.one 9 (.one 6 (.head 7 (.one 8 (.one 10 (.finL [1, 2])))))))) (.alt (.one 6 (.alt (.one 3 (.head 7 (.alt (.one 8 (.one 9 (.one 10 (.finS 0)))) (.one 9 (.one 8 (.one 10 (.finL [0, 2]))))))) (.one 9 (.one 3 (.head 7 (.one 8 (.one 10 (.finL [1, 2, 0])))))))) (.one 9 (.alt (.one 3 (.one 6 (.head 7 (.one 8 (.one 10 (.finL [0, 1, 2])))))) (.one 6 (.one 3 (.head 7 (.one 8 (.one 10 (.finL [0, 1, 2, 0]))))))))))))))⟩ | _ => none)
def h41 : Hint := ⟨h41a, (fun id => match id with | 9 => some 2007 | 12 => some 1001 | _ => none), (fun id => match id with | 1 => some 3 | 10 => some 17 | _ => none), [], false, h41M, (fun d => match d with | some 36 => 1 | none => 3 | _ => 0), 3, false, (fun _ => none)⟩
@[go_sem] theorem h41x : h41.mix = h41M := rfl
@[go_sem] theorem h41l : h41.live = h41a := rfl
@[go_sem] theorem h41o : h41.mode = (fun d => match d with | some 36 => 1 | none => 3 | _ => 0) := rfl
@[go_sem] theorem h41k : h41.keep = (fun id => match id with | 9 => some 2007 | 12 => some 1001 | _ => none) := rfl
@[go_sem] theorem h41t : h41.tail = (fun id => match id with | 1 => some 3 | 10 => some 17 | _ => none) := rfl
@[go_sem] theorem h41v : h41.vars = [] := rfl
@[go_sem] def h42a : Nat -> Option (List Nat) := (fun id => match id with | 0 => some [0, 1, 2, 6] | 1 => some [0, 1, 2, 6, 8] | 2 => some [0, 1, 2, 6, 8, 9, 10] | 3 => some [0, 1, 2, 6, 8, 9, 10, 45] | 4 => some [6] | 5 => some [6, 7] | 6 => some [0, 1, 2, 6, 8, 9, 10, 11] | 7 => some [0, 1, 2, 6, 8, 9, 10, 11] | 8 => some [0, 1, 6, 8, 9, 11, 88] | 9 => some [6, 7] | 10 => some [0, 1, 6, 9, 12] | 11 => some [6, 7] | _ => none)
def h42 : Hint := ⟨h42a, (fun _ => none), (fun id => match id with | 11 => some 16 | _ => none), [], false, (fun _ => none), (fun d => match d with | some 6 => 4 | none => 4 | _ => 0), 0, true, (fun _ => none)⟩
@[go_sem] theorem h42x : h42.mix = (fun _ => none) := rfl
@[go_sem] theorem h42l : h42.live = h42a := rfl
@[go_sem] theorem h42o : h42.mode = (fun d => match d with | some 6 => 4 | none => 4 | _ => 0) := rfl
@[go_sem] theorem h42k : h42.keep = (fun _ => none) := rfl
@[go_sem] theorem h42t : h42.tail = (fun id => match id with | 11 => some 16 | _ => none) := rfl
@[go_sem] theorem h42v : h42.vars = [] := rfl
@[go_sem] def h43a : Nat -> Option (List Nat) := (fun id => match id with | 0 => some [0, 1, 2, 6] | 1 => some [0, 1, 2, 6, 7, 8] | 2 => some [0, 1, 2, 6, 7, 8] | 3 => some [0, 1, 2, 6, 7, 8, 34] | 4 => some [0, 1, 2, 6, 7, 8] | 5 => some [0, 1, 6, 7, 50] | 6 => some [] | _ => none)
@[go_sem] def h43M : Nat -> Option Mix := (fun id => match id with | 6 => some ⟨[0, 1, 2, 3, 4, 5, 6, 7, 8, 9, 10, 11, 12, 13, 14, 15, 16, 17, 18, 19, 20, 21, 22, 23, 24, 25, 26], [], .head 0 (.head 1 (.head 2 (.head 3 (.head 4 (.head 5 (.head 6 (.head 7 (.head 8 (.head 9 (.head 10 (.head 11 (.head 12 (.head 13 (.head 14 (.head 15 (.head 16 (.head 17 (.head 18 (.head 19 (.head 20 (.head 21 (.head 22 (.head 23 (.head 24 (.head 25 (.head 26 (.two 27)))))))))))))))))))))))))))⟩ | _ => none)
def h43 : Hint := ⟨h43a, (fun _ => none), (fun id => match id with | 6 => some 26 | _ => none), [], false, h43M, fun _ => 0, 0, false, (fun _ => none)⟩
@[go_sem] theorem h43x : h43.mix = h43M := rfl
@[go_sem] theorem h43l : h43.live = h43a := rfl
@[go_sem] theorem h43o : h43.mode = fun _ => 0 := rfl
@[go_sem] theorem h43k : h43.keep = (fun _ => none) := rfl
@[go_sem] theorem h43v : h43.vars = [] := rfl
@[go_sem] def h46a : Nat -> Option (List Nat) := (fun id => match id with | 0 => some [0] | 1 => some [2] | _ => none)
abbrev h46 : Hint := HQ h46a
@[go_sem] def h48a : Nat -> Option (List Nat) := (fun id => match id with | 0 => some [0] | 1 => some [3] | 2 => some [3, 4] | 3 => some [3, 4] | 4 => some [2] | 5 => some [3, 7] | 6 => some [2] | 7 => some [9] | 8 => some [2] | 9 => some [2] | _ => none)
abbrev h48 : Hint := HQ h48a
@[go_sem] def h49a : Nat -> Option (List Nat) := (fun id => match id with | 0 => some [0, 1, 2] | 1 => some [0, 1, 2, 7] | 2 => some [0, 1, 2, 7, 13] | 3 => some [0, 1, 2, 7, 8] | 4 => some [0, 1, 2, 7, 8, 22] | 5 => some [0, 1, 2, 7, 8, 22, 23] | 6 => some [0, 1, 2, 7, 8, 22, 23] | 7 => some [0, 1, 2, 7] | 8 => some [0, 1, 2, 7, 8, 28] | 9 => some [0, 1, 2, 7] | 10 => some [0, 1, 2, 7, 41] | 11 => some [0, 1, 2, 7, 41] | 12 => some [0, 1, 2, 7, 8] | 13 => some [0, 1, 2, 7, 8, 62] | 14 => some [0, 1, 2, 7, 9, 10] | 15 => some [0, 1, 2, 7, 9, 70] | 16 => some [0, 1, 2, 7] | 17 => some [6] | _ => none)
def h49 : Hint := ⟨h49a, (fun id => match id with | 2 => some 0 | _ => none), (fun _ => none), [7], false, (fun _ => none), fun _ => 0, 0, false, (fun _ => none)⟩
@[go_sem] theorem h49l : h49.live = h49a := rfl
@[go_sem] theorem h49o : h49.mode = fun _ => 0 := rfl
@[go_sem] theorem h49k : h49.keep = (fun id => match id with | 2 => some 0 | _ => none) := rfl
@[go_sem] theorem h49v : h49.vars = [7] := rfl
@[go_sem] def h51a : Nat -> Option (List Nat) := (fun id => match id with | 0 => some [0, 1, 2] | 1 => some [0, 1, 2, 3] | 2 => some [0, 2, 3] | 3 => some [0, 2, 3, 25] | 4 => some [34, 35, 37] | 5 => some [] | 6 => some [] | _ => none)
@[go_sem] def h51M : Nat -> Option Mix := (fun id => match id with | 1 => some ⟨[0, 1, 2, 3, 4, 5, 6, 7, 8, 9], [], .head 0 (.head 1 (.head 2 (.head 3 (.head 4 (.head 5 (.head 6 (.head 7 (.head 8 (.head 9 (.one 10 (.one 11 (.fin))))))))))))⟩ | 2 => some ⟨[0, 1, 2, 3, 4, 5, 6], [], .head 0 (.head 1 (.head 2 (.alt (.one 3 (.alt (.one 4 (.alt (.one 5 (.alt (.one 6 (.one 7 (.one 8 (.fin)))) (.one 7 (.head 6 (.one 8 (.fin)))))) (.one 7 (.head 5 (.head 6 (.one 8 (.fin))))))) (.one 7 (.head 4 (.head 5 (.head 6 (.one 8 (.fin)))))))) (.alt (.one 4 (.alt (.one 3 (.alt (.one 5 (.alt (.one 6 (.one 7 (.one 8 (.fin)))) (.one 7 (.head 6 (.one 8 (.fin)))))) (.one 7 (.head 5 (.head 6 (.one 8 (.fin))))))) (.alt (.one 5 (.alt (.one 3 (.alt (.one 6 (.one 7 (.one 8 (.fin)))) (.one 7 (.head 6 (.one 8 (.fin)))))) (.one 7 (.head 3 (.head 6 (.one 8 (.fin))))))) (.one 7 (.head 3 (.head 5 (.head 6 (.one 8 (.fin))))))))) (.one 7 (.head 3 (.head 4 (.head 5 (.head 6 (.one 8 (.fin)))))))))))⟩ | 3 => some ⟨[3], [], .one 0 (.alt (.one 1 (.one 2 (.head 3 (.fin)))) (.one 2 (.one 1 (.head 3 (.fin)))))⟩ | 6 => some ⟨[0, 1, 2, 3, 4, 5, 6, 7, 8, 9, 11], [], .head 3 (.head 4 (.head 5 (.head 6 (.head 7 (.head 8 (.head 9 (.alt (.one 0 (.alt (.one 1 (.alt (.one 2 (.one 10 (.head 11 (.one 12 (.fin))))) (.one 10 (.head 2 (.head 11 (.one 12 (.fin))))))) (.one 10 (.head 1 (.head 2 (.head 11 (.one 12 (.fin)))))))) (.alt (.one 1 (.alt (.one 0 (.alt (.one 2 (.one 10 (.head 11 (.one 12 (.fin))))) (.one 10 (.head 2 (.head 11 (.one 12 (.fin))))))) (.alt (.one 2 (.alt (.one 0 (.one 10 (.head 11 (.one 12 (.fin))))) (.one 10 (.head 0 (.head 11 (.one 12 (.fin))))))) (.one 10 (.head 0 (.head 2 (.head 11 (.one 12 (.fin))))))))) (.one 10 (.head 0 (.head 1 (.head 2 (.head 11 (.one 12 (.fin)))))))))))))))⟩ | _ => none)
def h51 : Hint := ⟨h51a, (fun id => match id with | 3 => some 1001 | _ => none), (fun id => match id with | 1 => some 10 | 2 => some 7 | 3 => some 0 | 4 => some 11 | 6 => some 9 | _ => none), [], false, h51M, fun _ => 0, 0, false, (fun id => match id with | 4 => some 0 | _ => none)⟩
@[go_sem] theorem h51e : h51.late = (fun id => match id with | 4 => some 0 | _ => none) := rfl
@[go_sem] theorem h51x : h51.mix = h51M := rfl
@[go_sem] theorem h51l : h51.live = h51a := rfl
@[go_sem] theorem h51o : h51.mode = fun _ => 0 := rfl
@[go_sem] theorem h51k : h51.keep = (fun id => match id with | 3 => some 1001 | _ => none) := rfl
@[go_sem] theorem h51t : h51.tail = (fun id => match id with | 1 => some 10 | 2 => some 7 | 3 => some 0 | 4 => some 11 | 6 => some 9 | _ => none) := rfl
@[go_sem] theorem h51v : h51.vars = [] := rfl
@[go_sem] def h52a : Nat -> Option (List Nat) := (fun id => match id with | 0 => some [0] | 1 => some [3] | 2 => some [3, 4] | 3 => some [3, 6] | 4 => some [3, 8] | 5 => some [10] | 6 => some [2] | 7 => some [2] | 8 => some [2] | 9 => some [2] | _ => none)
abbrev h52 : Hint := HQ h52a
@[go_sem] def h54a : Nat -> Option (List Nat) := (fun id => match id with | 0 => some [0, 1] | 1 => some [1, 7, 8, 9] | 2 => some [1, 7, 8, 9, 10] | 3 => some [1, 6, 7, 8, 9] | 4 => some [1, 6, 7, 8, 9, 22] | 5 => some [4] | 6 => some [1, 6, 7, 8, 9, 27] | 7 => some [1, 7, 8, 9, 31] | 8 => some [4] | 9 => some [1, 7, 8, 9, 41] | 10 => some [4] | 11 => some [1, 7, 8, 9] | 12 => some [4] | _ => none)
def h54 : Hint := ⟨h54a, (fun id => match id with | 11 => some 0 | _ => none), (fun _ => none), [], false, (fun _ => none), fun _ => 0, 0, false, (fun _ => none)⟩
@[go_sem] theorem h54l : h54.live = h54a := rfl
@[go_sem] theorem h54o : h54.mode = fun _ => 0 := rfl
@[go_sem] theorem h54k : h54.keep = (fun id => match id with | 11 => some 0 | _ => none) := rfl
@[go_sem] theorem h54v : h54.vars = [] := rfl
@[go_sem] def h55a : Nat -> Option (List Nat) := (fun id => match id with | 0 => some [0] | 1 => some [0, 3] | 2 => some [3, 6, 7, 8] | 3 => some [3, 6, 7, 8, 9] | 4 => some [3, 5, 6, 7, 8] | 5 => some [3, 6, 7, 8] | 6 => some [3, 6, 7, 8] | 7 => some [2] | _ => none)
@[go_sem] def h55M : Nat -> Option Mix := (fun id => match id with | 5 => some ⟨[0, 1, 2, 3, 4, 5, 6, 7], [], .head 0 (.head 1 (.head 2 (.head 3 (.head 4 (.head 5 (.head 6 (.head 7 (.one 8 (.one 9 (.fin))))))))))⟩ | _ => none)
def h55 : Hint := ⟨h55a, (fun id => match id with | 6 => some 0 | _ => none), (fun id => match id with | 5 => some 7 | _ => none), [3], false, h55M, fun _ => 0, 0, false, (fun _ => none)⟩
@[go_sem] theorem h55x : h55.mix = h55M := rfl
@[go_sem] theorem h55l : h55.live = h55a := rfl
@[go_sem] theorem h55o : h55.mode = fun _ => 0 := rfl
@[go_sem] theorem h55k : h55.keep = (fun id => match id with | 6 => some 0 | _ => none) := rfl
@[go_sem] theorem h55v : h55.vars = [3] := rfl
@[go_sem] def h56a : Nat -> Option (List Nat) := (fun id => match id with | 0 => some [0] | 1 => some [0, 11] | 2 => some [0] | 3 => some [0, 25] | 4 => some [0] | 5 => some [2] | _ => none)
abbrev h56 : Hint := HQ h56a
@[go_sem] def h63a : Nat -> Option (List Nat) := (fun id => match id with | 0 => some [0, 1, 2, 4] | 1 => some [0, 1, 2, 4, 5] | 2 => some [0, 1, 2, 4, 5] | 3 => some [1, 2, 4, 5] | 4 => some [1, 2, 4, 5] | 5 => some [1, 2, 4, 5, 33] | 6 => some [1, 2, 4, 5, 33] | _ => none)
def h63 : Hint := ⟨h63a, (fun _ => none), (fun id => match id with | 6 => some 29 | _ => none), [], false, (fun _ => none), fun _ => 0, 0, false, (fun _ => none)⟩
@[go_sem] theorem h63x : h63.mix = (fun _ => none) := rfl
@[go_sem] theorem h63l : h63.live = h63a := rfl
@[go_sem] theorem h63o : h63.mode = fun _ => 0 := rfl
@[go_sem] theorem h63k : h63.keep = (fun _ => none) := rfl
@[go_sem] theorem h63t : h63.tail = (fun id => match id with | 6 => some 29 | _ => none) := rfl
@[go_sem] theorem h63v : h63.vars = [] := rfl
@[go_sem] def h64a : Nat -> Option (List Nat) := (fun id => match id with | 0 => some [0, 1, 2, 3] | 1 => some [0, 1, 2, 3, 10] | 2 => some [0, 1, 2, 3, 10, 15] | 3 => some [0, 1, 2, 3, 10, 16, 17, 18] | 4 => some [0, 1, 2, 3, 10, 16, 17, 18, 19] | 5 => some [0, 1, 2, 3, 10, 12, 16, 17, 18] | 6 => some [0, 1, 2, 3, 10, 16, 17, 18, 31] | 7 => some [8, 9] | 8 => some [0, 1, 2, 3, 10, 16, 17, 18] | 9 => some [0, 1, 2, 3, 10] | 10 => some [0, 1, 2, 3, 10] | 11 => some [8, 9] | _ => none)
abbrev h64 : Hint := HQ h64a
@[go_sem] def h65a : Nat -> Option (List Nat) := (fun id => match id with | 0 => some [0] | 1 => some [3] | 2 => some [3, 8, 9, 10] | 3 => some [3, 8, 9, 10, 11] | 4 => some [3, 4, 5, 8, 9, 10] | 5 => some [3, 4, 5, 8, 9, 10, 20] | 6 => some [3, 4, 5, 8, 9, 10, 20] | 7 => some [3, 8, 9, 10] | 8 => some [2] | _ => none)
def h65 : Hint := ⟨h65a, (fun _ => none), (fun _ => none), [], true, (fun _ => none), fun _ => 0, 0, false, (fun _ => none)⟩
@[go_sem] theorem h65l : h65.live = h65a := rfl
@[go_sem] theorem h65o : h65.mode = fun _ => 0 := rfl
@[go_sem] theorem h65k : h65.keep = (fun _ => none) := rfl
@[go_sem] theorem h65v : h65.vars = [] := rfl
@[go_sem] theorem h65m : h65.mutc = true := rfl
@[go_sem] def h66a : Nat -> Option (List Nat) := (fun id => match id with | 0 => some [0, 1, 2] | 1 => some [0, 1, 2, 16] | 2 => some [6] | 3 => some [6] | _ => none)
abbrev h66 : Hint := HQ h66a
@[go_sem] def h67a : Nat -> Option (List Nat) := (fun id => match id with | 0 => some [0, 1, 2] | 1 => some [6] | _ => none)
abbrev h67 : Hint := HQ h67a
@[go_sem] def h72a : Nat -> Option (List Nat) := (fun id => match id with | 0 => some [0] | 1 => some [3] | 2 => some [3, 4] | 3 => some [3, 4] | 4 => some [3, 4, 12] | 5 => some [2] | 6 => some [3, 4] | _ => none)
def h72 : Hint := ⟨h72a, (fun _ => none), (fun _ => none), [4], false, (fun _ => none), fun _ => 0, 0, false, (fun _ => none)⟩
@[go_sem] theorem h72l : h72.live = h72a := rfl
@[go_sem] theorem h72o : h72.mode = fun _ => 0 := rfl
@[go_sem] theorem h72k : h72.keep = (fun _ => none) := rfl
@[go_sem] theorem h72v : h72.vars = [4] := rfl
@[go_sem] def h73a : Nat -> Option (List Nat) := (fun id => match id with | 0 => some [0] | 1 => some [0, 28] | 2 => some [0, 28] | 3 => some [0, 3] | 4 => some [0, 3, 4] | 5 => some [3, 4, 32, 33, 34] | 6 => some [3, 4, 32, 33, 34, 35] | 7 => some [3, 4, 6, 32, 33, 34] | 8 => some [3, 6, 7, 32, 33, 34] | 9 => some [3, 4, 6, 7, 32, 33, 34] | 10 => some [3, 4, 6, 7, 32, 33, 34, 41] | 11 => some [3, 4, 6, 7, 32, 33, 34, 41, 42] | 12 => some [3, 4, 6, 32, 33, 34, 44] | 13 => some [3, 4, 6, 32, 33, 34, 41, 45] | 14 => some [3, 4, 6, 32, 33, 34, 41, 45] | 15 => some [3, 4, 6, 7, 32, 33, 34, 41, 42] | 16 => some [3, 4, 6, 32, 33, 34, 48] | 17 => some [3, 4, 6, 7, 32, 33, 34, 41, 42] | 18 => some [3, 4, 32, 33, 34] | 19 => some [3, 4, 32, 33, 34] | 20 => some [2] | _ => none)
def h73 : Hint := ⟨h73a, (fun _ => none), (fun _ => none), [3], false, (fun _ => none), fun _ => 0, 0, false, (fun _ => none)⟩
@[go_sem] theorem h73l : h73.live = h73a := rfl
@[go_sem] theorem h73o : h73.mode = fun _ => 0 := rfl
@[go_sem] theorem h73k : h73.keep = (fun _ => none) := rfl
@[go_sem] theorem h73v : h73.vars = [3] := rfl
@[go_sem] def h76a : Nat -> Option (List Nat) := (fun id => match id with | 0 => some [0, 1, 2, 6] | 1 => some [0, 1, 2, 6, 8] | 2 => some [0, 1, 2, 6, 8, 26] | 3 => some [0, 1, 2, 6, 8, 26] | 4 => some [0, 2, 6, 8, 9] | 5 => some [0, 2, 6, 8, 9, 46] | 6 => some [0, 2, 6, 8, 9] | 7 => some [0, 2, 6, 8, 9, 62] | 8 => some [6, 7] | 9 => some [0, 2, 6, 8, 9, 11] | 10 => some [0, 2, 6, 8, 9, 73] | 11 => some [6, 7] | 12 => some [6, 8] | 13 => some [6, 8, 12] | 14 => some [6, 8, 12, 107] | 15 => some [6, 8, 13] | 16 => some [6, 8, 13, 119] | 17 => some [6, 8, 13] | 18 => some [6, 8, 13, 139] | 19 => some [6, 8, 12, 107] | 20 => some [6, 8] | 21 => some [6, 7] | _ => none)
abbrev h76 : Hint := HQ h76a
@[go_sem] def h78a : Nat -> Option (List Nat) := (fun id => match id with | 0 => some [1] | 1 => some [2] | _ => none)
abbrev h78 : Hint := HQ h78a
@[go_sem] def h89a : Nat -> Option (List Nat) := (fun id => match id with | 0 => some [0, 4] | 1 => some [0] | 2 => some [0, 20] | 3 => some [0] | 4 => some [0, 30] | 5 => some [0] | _ => none)
abbrev h89 : Hint := HQ h89a
@[go_sem] def h90a : Nat -> Option (List Nat) := (fun id => match id with | 0 => some [0, 1] | 1 => some [0, 1, 17] | 2 => some [4] | 3 => some [5] | 4 => some [5, 43] | 5 => some [4] | 6 => some [4] | _ => none)
def h90 : Hint := ⟨h90a, (fun _ => none), (fun id => match id with | 1 => some 12 | 3 => some 12 | _ => none), [], false, (fun _ => none), fun _ => 0, 0, false, (fun _ => none)⟩
@[go_sem] theorem h90x : h90.mix = (fun _ => none) := rfl
@[go_sem] theorem h90l : h90.live = h90a := rfl
@[go_sem] theorem h90k : h90.keep = (fun _ => none) := rfl
@[go_sem] theorem h90t : h90.tail = (fun id => match id with | 1 => some 12 | 3 => some 12 | _ => none) := rfl
@[go_sem] theorem h90v : h90.vars = [] := rfl
@[go_sem] def h91a : Nat -> Option (List Nat) := (fun id => match id with | 0 => some [0, 2] | 1 => some [0, 2, 3] | 2 => some [0, 2, 3, 9] | 3 => some [2] | 4 => some [2] | 5 => some [0, 2, 3, 17] | 6 => some [2] | 7 => some [0, 2, 3, 26] | 8 => some [2, 3] | 9 => some [2] | 10 => some [0, 2, 3, 42] | 11 => some [2] | 12 => some [0, 2, 3, 65] | 13 => some [2] | 14 => some [2] | 15 => some [0, 2, 3, 81] | 16 => some [2] | 17 => some [2] | 18 => some [0, 2, 3, 97] | 19 => some [0, 2, 4] | 20 => some [0, 2, 4] | 21 => some [2] | 22 => some [0, 2, 132] | 23 => some [0, 2] | 24 => some [2] | 25 => some [0, 2, 155] | 26 => some [2] | 27 => some [2] | _ => none)
abbrev h91 : Hint := HQ h91a
@[go_sem] def h92a : Nat -> Option (List Nat) := (fun id => match id with | 0 => some [0] | 1 => some [0, 3] | 2 => some [0, 3, 8] | 3 => some [0, 3, 4, 5] | 4 => some [0, 3, 5] | 5 => some [0, 3] | 6 => some [2] | _ => none)
def h92 : Hint := ⟨h92a, (fun _ => none), (fun _ => none), [3], false, (fun _ => none), fun _ => 0, 0, false, (fun _ => none)⟩
@[go_sem] theorem h92l : h92.live = h92a := rfl
@[go_sem] theorem h92o : h92.mode = fun _ => 0 := rfl
@[go_sem] theorem h92k : h92.keep = (fun _ => none) := rfl
@[go_sem] theorem h92v : h92.vars = [3] := rfl
@[go_sem] def h97a : Nat -> Option (List Nat) := (fun id => match id with | 0 => some [0, 1] | 1 => some [4] | _ => none)
abbrev h97 : Hint := HQ h97a
@[go_sem] def h106a : Nat -> Option (List Nat) := (fun id => match id with | 0 => some [0, 1] | 1 => some [0, 7, 8, 9] | 2 => some [0, 7, 8, 9, 10] | 3 => some [0, 5, 6, 7, 8, 9] | 4 => some [0, 7, 8, 9, 18] | 5 => some [4] | 6 => some [0, 7, 8, 9] | 7 => some [4] | _ => none)
abbrev h106 : Hint := HQ h106a
@[go_sem] def h107a : Nat -> Option (List Nat) := (fun id => match id with | 0 => some [0] | 1 => some [2] | _ => none)
abbrev h107 : Hint := HQ h107a
@[go_sem] def h108a : Nat -> Option (List Nat) := (fun id => match id with | 0 => some [0, 4] | 1 => some [0] | _ => none)
abbrev h108 : Hint := HQ h108a
@[go_sem] def h109a : Nat -> Option (List Nat) := (fun id => match id with | 0 => some [0, 2] | 1 => some [0, 2, 3] | 2 => some [0, 2, 3, 4] | 3 => some [0, 2, 3, 4, 5] | 4 => some [0, 2, 3, 4] | 5 => some [0, 2, 3, 4, 5, 21] | 6 => some [2] | 7 => some [0, 2, 3, 4, 5, 25] | 8 => some [2] | 9 => some [0, 2, 3, 4, 5, 32] | 10 => some [2, 4] | 11 => some [2] | 12 => some [0, 2, 3, 4, 5, 49] | 13 => some [0, 2, 3, 4] | 14 => some [0, 2, 3, 4, 83] | 15 => some [0, 2, 3, 4] | 16 => some [0, 2, 3, 4] | _ => none)
def h109 : Hint := ⟨h109a, (fun _ => none), (fun id => match id with | 13 => some 17 | _ => none), [4], false, (fun _ => none), fun _ => 0, 0, false, (fun _ => none)⟩
@[go_sem] theorem h109x : h109.mix = (fun _ => none) := rfl
@[go_sem] theorem h109l : h109.live = h109a := rfl
@[go_sem] theorem h109o : h109.mode = fun _ => 0 := rfl
@[go_sem] theorem h109k : h109.keep = (fun _ => none) := rfl
@[go_sem] theorem h109t : h109.tail = (fun id => match id with | 13 => some 17 | _ => none) := rfl
@[go_sem] theorem h109v : h109.vars = [4] := rfl
@[go_sem] def h110a : Nat -> Option (List Nat) := (fun id => match id with | 0 => some [0] | 1 => some [3] | 2 => some [3, 4] | 3 => some [2] | 4 => some [3, 6] | 5 => some [2] | 6 => some [3, 8] | 7 => some [2] | 8 => some [3, 10] | 9 => some [2] | 10 => some [3, 12] | 11 => some [2] | 12 => some [3, 14] | 13 => some [2] | 14 => some [3, 16] | 15 => some [2] | 16 => some [3, 18] | 17 => some [2] | 18 => some [20] | 19 => some [2] | 20 => some [2] | _ => none)
abbrev h110 : Hint := HQ h110a
@[go_sem] def h111a : Nat -> Option (List Nat) := (fun id => match id with | 0 => some [0] | 1 => some [2] | _ => none)
abbrev h111 : Hint := HQ h111a
@[go_sem] def h112a : Nat -> Option (List Nat) := (fun id => match id with | 0 => some [0, 1] | 1 => some [0, 1, 5] | 2 => some [0, 1, 14] | 3 => some [0, 1, 14] | 4 => some [4] | _ => none)
abbrev h112 : Hint := HQ h112a
@[go_sem] def h113a : Nat -> Option (List Nat) := (fun id => match id with | 0 => some [1, 2] | 1 => some [1, 2, 3] | 2 => some [1, 2, 3, 4] | 3 => some [1, 2, 3, 23] | 4 => some [1, 2, 3, 23] | 5 => some [1, 2, 3, 5] | 6 => some [1, 2, 3, 5] | 7 => some [1, 2, 3, 5, 47] | 8 => some [1, 2, 3, 5] | 9 => some [1, 2, 3, 5, 47] | 10 => some [1, 2, 3, 5, 6] | 11 => some [1, 2, 3, 5, 68] | 12 => some [1, 2, 3, 5, 7] | 13 => some [1, 2, 3, 5, 6, 7] | 14 => some [1, 2, 3, 5, 7, 78] | 15 => some [1, 2, 3, 5, 7, 78] | 16 => some [1, 2, 3, 5, 7, 84] | 17 => some [1, 2, 3, 5] | 18 => some [1, 2, 3, 5, 68] | 19 => some [1, 2, 3, 8] | 20 => some [1, 2, 8] | 21 => some [2, 8] | 22 => some [1, 2, 8, 118] | 23 => some [2, 8] | 24 => some [1, 2, 8, 129] | 25 => some [2, 8] | 26 => some [2, 8] | 27 => some [2] | _ => none)
@[go_sem] def h113M : Nat -> Option Mix := (fun id => match id with | 20 => some ⟨[0, 1, 2, 3, 4, 5, 6, 7, 8, 9, 10, 11, 12, 13, 14, 15, 16, 17, 18, 20], [], .head 0 (.head 1 (.head 2 (.head 3 (.head 4 (.head 5 (.head 6 (.head 7 (.head 8 (.head 9 (.head 10 (.head 11 (.head 12 (.head 13 (.head 14 (.head 15 (.head 18 (.alt (.one 16 (.alt (.one 17 (.one 19 (.head 20 (.one 21 (.fin))))) (.one 19 (.head 20 (.alt (.one 17 (.one 21 (.fin))) (.one 21 (.head 17 (.fin)))))))) (.alt (.one 17 (.alt (.one 16 (.one 19 (.head 20 (.one 21 (.fin))))) (.one 19 (.head 16 (.head 20 (.one 21 (.fin))))))) (.one 19 (.head 16 (.head 20 (.alt (.one 17 (.one 21 (.fin))) (.one 21 (.head 17 (.fin)))))))))))))))))))))))))⟩ | _ => none)
def h113 : Hint := ⟨h113a, (fun _ => none), (fun id => match id with | 20 => some 19 | _ => none), [], false, h113M, fun _ => 0, 0, false, (fun _ => none)⟩
@[go_sem] theorem h113x : h113.mix = h113M := rfl
@[go_sem] theorem h113l : h113.live = h113a := rfl
@[go_sem] theorem h113o : h113.mode = fun _ => 0 := rfl
@[go_sem] theorem h113k : h113.keep = (fun _ => none) := rfl
@[go_sem] theorem h113v : h113.vars = [] := rfl
@[go_sem] def h114a : Nat -> Option (List Nat) := (fun id => match id with | 0 => some [0] | 1 => some [2] | _ => none)
abbrev h114 : Hint := HQ h114a
@[go_sem] def h115a : Nat -> Option (List Nat) := (fun id => match id with | 0 => some [0, 1] | 1 => some [4] | _ => none)
abbrev h115 : Hint := HQ h115a
@[go_sem] def h116a : Nat -> Option (List Nat) := (fun id => match id with | 0 => some [0, 1] | 1 => some [0, 1, 5] | 2 => some [0, 1, 5, 10] | 3 => some [4] | 4 => some [4] | _ => none)
abbrev h116 : Hint := HQ h116a
@[go_sem] def h117a : Nat -> Option (List Nat) := (fun id => match id with | 0 => some [0] | 1 => some [0, 3] | 2 => some [2] | 3 => some [0, 3, 7] | 4 => some [0, 3] | 5 => some [0, 3, 16] | 6 => some [0, 3] | 7 => some [0, 3] | _ => none)
def h117 : Hint := ⟨h117a, (fun _ => none), (fun _ => none), [3], false, (fun _ => none), fun _ => 0, 0, false, (fun _ => none)⟩
@[go_sem] theorem h117l : h117.live = h117a := rfl
@[go_sem] theorem h117o : h117.mode = fun _ => 0 := rfl
@[go_sem] theorem h117k : h117.keep = (fun _ => none) := rfl
@[go_sem] theorem h117v : h117.vars = [3] := rfl
@[go_sem] def h118a : Nat -> Option (List Nat) := (fun id => match id with | 0 => some [0, 2] | 1 => some [0, 2, 3] | 2 => some [0, 2, 3, 15] | 3 => some [2] | 4 => some [0, 2, 3] | 5 => some [0, 2, 3, 29] | 6 => some [2] | 7 => some [0, 2, 3, 43] | 8 => some [0, 2, 3, 29] | 9 => some [0, 2, 3, 4] | 10 => some [0, 2, 3, 4, 57] | 11 => some [0, 2, 3, 4, 57] | 12 => some [0, 2, 3, 5] | 13 => some [0, 2, 3, 68] | 14 => some [2] | 15 => some [2] | _ => none)
abbrev h118 : Hint := HQ h118a
@[go_sem] def h119a : Nat -> Option (List Nat) := (fun id => match id with | 0 => some [0] | 1 => some [0, 3] | 2 => some [3, 6, 7, 8] | 3 => some [3, 6, 7, 8, 9] | 4 => some [3, 5, 6, 7, 8] | 5 => some [3, 5, 6, 7, 8, 25] | 6 => some [3, 5, 6, 7, 8, 25] | 7 => some [3, 6, 7, 8] | 8 => some [3, 5, 6, 7, 8, 47] | 9 => some [3, 6, 7, 8] | 10 => some [3, 5, 6, 7, 8, 55] | 11 => some [3, 6, 7, 8] | 12 => some [3, 5, 6, 7, 8, 69] | 13 => some [3, 6, 7, 8] | 14 => some [3, 6, 7, 8] | 15 => some [2] | _ => none)
def h119 : Hint := ⟨h119a, (fun _ => none), (fun _ => none), [3], false, (fun _ => none), fun _ => 0, 0, false, (fun _ => none)⟩
@[go_sem] theorem h119l : h119.live = h119a := rfl
@[go_sem] theorem h119o : h119.mode = fun _ => 0 := rfl
@[go_sem] theorem h119k : h119.keep = (fun _ => none) := rfl
@[go_sem] theorem h119v : h119.vars = [3] := rfl
@[go_sem] def h120a : Nat -> Option (List Nat) := (fun id => match id with | 0 => some [0] | 1 => some [0, 3] | 2 => some [3] | 3 => some [2] | _ => none)
abbrev h120 : Hint := HQ h120a
@[go_sem] def h121a : Nat -> Option (List Nat) := (fun id => match id with | 0 => some [0] | 1 => some [0, 4] | 2 => some [0, 4, 5, 6] | 3 => some [0, 4, 5, 6] | 4 => some [2, 3] | 5 => some [0, 4, 5, 6, 13] | 6 => some [2, 3] | 7 => some [0, 4, 5, 6, 18] | 8 => some [0, 5, 6, 7, 8] | 9 => some [0, 4, 5, 6, 28] | 10 => some [0, 4, 5, 6, 7, 8] | 11 => some [0, 5, 6, 7, 8, 38] | 12 => some [0, 5, 6, 7, 8, 38, 39] | 13 => some [0, 5, 6, 7, 8, 38, 39] | 14 => some [0, 5, 6, 7, 8, 41] | 15 => some [0, 5, 6, 7, 8, 38, 39] | 16 => some [0, 4, 5, 6, 43] | 17 => some [0, 4, 5, 6, 7, 8] | 18 => some [0, 5, 6, 7, 8, 53] | 19 => some [0, 5, 6, 7, 8, 53, 54] | 20 => some [0, 5, 6, 7, 8, 53, 54] | 21 => some [0, 5, 6, 7, 8, 56] | 22 => some [0, 5, 6, 7, 8, 53, 54] | 23 => some [0, 5, 6, 7, 8, 58, 59] | 24 => some [0, 5, 6, 7, 8, 58, 59, 60] | 25 => some [0, 5, 6, 7, 8, 9, 58, 59] | 26 => some [0, 7, 8, 9, 58, 59, 84] | 27 => some [2, 3] | 28 => some [0, 7, 8, 58, 59] | 29 => some [0, 5, 6, 7, 8, 58, 59] | 30 => some [0, 5, 6, 7, 8, 58, 59] | 31 => some [2, 3] | _ => none)
abbrev h121 : Hint := HQ h121a
@[go_sem] def h135a : Nat -> Option (List Nat) := (fun id => match id with | 0 => some [0, 1] | 1 => some [4] | _ => none)
abbrev h135 : Hint := HQ h135a
@[go_sem] def h154a : Nat -> Option (List Nat) := (fun id => match id with | 0 => some [0] | 1 => some [0, 8] | 2 => some [0, 11] | 3 => some [2] | 4 => some [2] | 5 => some [0, 3] | 6 => some [0, 3, 4] | 7 => some [0, 3, 4, 21] | 8 => some [0, 3, 4] | 9 => some [0, 3, 4] | 10 => some [0, 3, 32] | 11 => some [0, 3, 32] | 12 => some [3, 48] | 13 => some [2] | 14 => some [2] | _ => none)
abbrev h154 : Hint := HQ h154a
@[go_sem] def h155a : Nat -> Option (List Nat) := (fun id => match id with | 0 => some [0, 5] | 1 => some [0] | _ => none)
abbrev h155 : Hint := HQ h155a
@[go_sem] def h156a : Nat -> Option (List Nat) := (fun id => match id with | 0 => some [0, 2] | 1 => some [2, 5, 6] | 2 => some [2, 5, 18] | 3 => some [2, 3, 4] | 4 => some [2, 5, 7] | 5 => some [2, 5, 7, 24] | 6 => some [2, 3, 4] | 7 => some [2, 5, 7, 8] | 8 => some [2, 5, 7, 8, 32] | 9 => some [2, 3, 4] | 10 => some [2, 5, 7, 8, 9] | 11 => some [2, 5, 7, 8, 9, 37, 38, 39] | 12 => some [2, 5, 7, 8, 9, 37, 38, 39, 40] | 13 => some [2, 5, 7, 8, 9, 11, 37, 38, 39] | 14 => some [2, 5, 7, 8, 9, 37, 38, 39] | 15 => some [2, 5, 7, 8, 9, 37, 38, 39] | 16 => some [2, 3, 4] | _ => none)
@[go_sem] def h156M : Nat -> Option Mix := (fun id => match id with | 6 => some ⟨[0, 1, 2], [], .head 0 (.alt (.one 1 (.alt (.one 2 (.one 3 (.one 4 (.one 5 (.fin))))) (.one 3 (.head 2 (.one 4 (.one 5 (.fin))))))) (.one 3 (.head 1 (.head 2 (.one 4 (.one 5 (.fin)))))))⟩ | 9 => some ⟨[0, 1, 2], [], .head 0 (.alt (.one 1 (.alt (.one 2 (.one 3 (.one 4 (.one 5 (.fin))))) (.one 3 (.head 2 (.one 4 (.one 5 (.fin))))))) (.one 3 (.head 1 (.head 2 (.one 4 (.one 5 (.fin)))))))⟩ | 16 => some ⟨[0, 1, 2, 3, 4, 5, 6, 7, 8, 9, 10, 11, 12, 13, 14, 15, 16], [], .head 0 (.head 1 (.head 2 (.head 3 (.head 4 (.head 5 (.head 6 (.head 7 (.head 8 (.head 9 (.head 10 (.head 11 (.head 12 (.head 13 (.head 14 (.alt (.one 15 (.alt (.one 16 (.one 17 (.one 18 (.one 19 (.fin))))) (.one 17 (.head 16 (.one 18 (.one 19 (.fin))))))) (.one 17 (.head 15 (.head 16 (.one 18 (.one 19 (.fin)))))))))))))))))))))⟩ | _ => none)
def h156 : Hint := ⟨h156a, (fun _ => none), (fun id => match id with | 6 => some 3 | 9 => some 3 | 16 => some 17 | _ => none), [], false, h156M, fun _ => 0, 0, false, (fun _ => none)⟩
@[go_sem] theorem h156x : h156.mix = h156M := rfl
@[go_sem] theorem h156l : h156.live = h156a := rfl
@[go_sem] theorem h156o : h156.mode = fun _ => 0 := rfl
@[go_sem] theorem h156k : h156.keep = (fun _ => none) := rfl
@[go_sem] theorem h156v : h156.vars = [] := rfl
@[go_sem] theorem h156m : h156.mutc = false := rfl
@[go_sem] def h157a : Nat -> Option (List Nat) := (fun id => match id with | 0 => some [0] | 1 => some [2] | _ => none)
abbrev h157 : Hint := HQ h157a
@[go_sem] def h158a : Nat -> Option (List Nat) := (fun id => match id with | 0 => some [0, 1] | 1 => some [4] | _ => none)
abbrev h158 : Hint := HQ h158a
@[go_sem] def h159a : Nat -> Option (List Nat) := (fun id => match id with | 0 => some [1, 2] | 1 => some [1, 2, 3] | 2 => some [1, 2, 3, 4] | 3 => some [1, 2, 3, 4] | 4 => some [1, 2, 3, 4, 5] | 5 => some [1, 2, 3, 4] | 6 => some [1, 2, 3, 4, 5, 22] | 7 => some [2] | 8 => some [1, 2, 3, 4, 5, 31] | 9 => some [1, 2, 4] | 10 => some [1, 2, 4, 5] | 11 => some [1, 2, 4, 47] | 12 => some [2] | 13 => some [2] | 14 => some [1, 2, 3, 4, 5, 52] | 15 => some [2] | 16 => some [1, 2, 3, 4, 69] | 17 => some [1, 2, 3, 4, 76] | 18 => some [2] | 19 => some [1, 2, 3, 4] | 20 => some [1, 2, 3, 4] | _ => none)
@[go_sem] def h159M : Nat -> Option Mix := (fun id => match id with | 5 => some ⟨[1, 2, 3, 5], [0], .alt (.one 0 (.head 1 (.head 2 (.head 3 (.one 4 (.head 5 (.one 6 (.one 7 (.fin))))))))) (.one 1 (.alt (.one 0 (.head 2 (.head 3 (.one 4 (.head 5 (.one 6 (.one 7 (.fin)))))))) (.one 2 (.alt (.one 0 (.head 3 (.one 4 (.head 5 (.one 6 (.one 7 (.fin))))))) (.one 3 (.alt (.one 0 (.one 4 (.head 5 (.one 6 (.one 7 (.fin)))))) (.one 4 (.alt (.one 0 (.head 5 (.one 6 (.one 7 (.fin))))) (.one 5 (.one 0 (.one 6 (.one 7 (.fin)))))))))))))⟩ | 20 => some ⟨[1, 2, 3, 5], [0], .alt (.one 0 (.head 1 (.head 2 (.head 3 (.one 4 (.head 5 (.one 6 (.one 7 (.fin))))))))) (.one 1 (.alt (.one 0 (.head 2 (.head 3 (.one 4 (.head 5 (.one 6 (.one 7 (.fin)))))))) (.one 2 (.alt (.one 0 (.head 3 (.one 4 (.head 5 (.one 6 (.one 7 (.fin))))))) (.one 3 (.alt (.one 0 (.one 4 (.head 5 (.one 6 (.one 7 (.fin)))))) (.one 4 (.alt (.one 0 (.head 5 (.one 6 (.one 7 (.fin))))) (.one 5 (.one 0 (.one 6 (.one 7 (.fin)))))))))))))⟩ | _ => none)
def h159 : Hint := ⟨h159a, (fun _ => none), (fun id => match id with | 5 => some 5 | 20 => some 5 | _ => none), [], false, h159M, fun _ => 0, 0, false, (fun _ => none)⟩
@[go_sem] theorem h159x : h159.mix = h159M := rfl
@[go_sem] theorem h159l : h159.live = h159a := rfl
@[go_sem] theorem h159o : h159.mode = fun _ => 0 := rfl
@[go_sem] theorem h159k : h159.keep = (fun _ => none) := rfl
@[go_sem] theorem h159v : h159.vars = [] := rfl
@[go_sem] def h185a : Nat -> Option (List Nat) := (fun id => match id with | 0 => some [0] | 1 => some [0, 3] | 2 => some [2] | 3 => some [0, 8] | 4 => some [2] | 5 => some [0, 18] | 6 => some [2] | 7 => some [2] | _ => none)
abbrev h185 : Hint := HQ h185a
@[go_sem] def h186a : Nat -> Option (List Nat) := (fun id => match id with | 0 => some [0, 2] | 1 => some [0, 2, 4] | 2 => some [0, 2, 4, 21] | 3 => some [0, 2, 4, 21] | 4 => some [0, 2, 4, 5] | 5 => some [0, 2, 4] | 6 => some [0, 2, 4, 44] | 7 => some [0, 2, 4, 6] | 8 => some [0, 2, 4, 6, 49] | 9 => some [2, 3] | 10 => some [0, 2, 4, 6] | 11 => some [0, 2, 4, 44] | 12 => some [0, 2, 4, 68] | 13 => some [2, 3] | 14 => some [0, 2, 4, 71] | 15 => some [2, 3] | 16 => some [0, 2, 4, 80] | 17 => some [2, 3] | 18 => some [0, 2, 4] | 19 => some [0, 2, 4, 7] | 20 => some [0, 2, 4, 7, 96] | 21 => some [0, 2, 4, 7, 96] | 22 => some [0, 2, 4, 7, 110] | 23 => some [2, 3] | 24 => some [2, 4, 7, 113, 114, 115] | 25 => some [2, 4, 7, 113, 114, 115, 116] | 26 => some [2, 4, 7, 9, 113, 114, 115] | 27 => some [2, 4, 7, 113, 114, 115] | 28 => some [2, 4, 7, 113, 114, 115] | 29 => some [2, 4, 129] | 30 => some [2, 4, 129] | 31 => some [2, 3] | _ => none)
@[go_sem] def h186M : Nat -> Option Mix := (fun id => match id with | 3 => some ⟨[0, 1, 2, 3, 4, 5], [], .head 0 (.head 1 (.head 2 (.head 5 (.alt (.one 3 (.alt (.one 4 (.one 6 (.one 7 (.fin)))) (.one 6 (.head 4 (.one 7 (.fin)))))) (.one 6 (.head 3 (.head 4 (.one 7 (.fin)))))))))⟩ | 5 => some ⟨[0, 1, 2, 3, 4, 5, 6, 9], [], .head 0 (.head 1 (.head 2 (.head 6 (.alt (.one 3 (.alt (.one 4 (.alt (.one 5 (.one 7 (.one 8 (.head 9 (.one 10 (.fin)))))) (.one 7 (.head 5 (.one 8 (.head 9 (.one 10 (.fin)))))))) (.one 7 (.head 4 (.head 5 (.one 8 (.head 9 (.one 10 (.fin))))))))) (.alt (.one 4 (.alt (.one 3 (.alt (.one 5 (.one 7 (.one 8 (.head 9 (.one 10 (.fin)))))) (.one 7 (.head 5 (.one 8 (.head 9 (.one 10 (.fin)))))))) (.one 7 (.head 3 (.head 5 (.one 8 (.head 9 (.one 10 (.fin))))))))) (.one 7 (.head 3 (.head 4 (.head 5 (.one 8 (.head 9 (.one 10 (.fin)))))))))))))⟩ | 10 => some ⟨[0, 1, 2, 3, 4, 5, 6, 7, 8, 10, 12], [], .head 0 (.head 1 (.head 2 (.head 3 (.head 4 (.head 5 (.head 6 (.head 8 (.alt (.one 7 (.one 9 (.head 10 (.one 11 (.head 12 (.one 13 (.fin))))))) (.one 9 (.head 7 (.head 10 (.one 11 (.head 12 (.one 13 (.fin)))))))))))))))⟩ | 21 => some ⟨[0, 1, 2, 3, 4], [], .head 0 (.head 1 (.head 2 (.alt (.one 3 (.alt (.one 4 (.one 5 (.one 6 (.fin)))) (.one 5 (.head 4 (.one 6 (.fin)))))) (.one 5 (.head 3 (.head 4 (.one 6 (.fin))))))))⟩ | _ => none)
def h186 : Hint := ⟨h186a, (fun _ => none), (fun id => match id with | 3 => some 6 | 5 => some 7 | 10 => some 9 | 21 => some 5 | _ => none), [], false, h186M, fun _ => 0, 0, false, (fun _ => none)⟩
@[go_sem] theorem h186x : h186.mix = h186M := rfl
@[go_sem] theorem h186l : h186.live = h186a := rfl
@[go_sem] theorem h186o : h186.mode = fun _ => 0 := rfl
@[go_sem] theorem h186k : h186.keep = (fun _ => none) := rfl
@[go_sem] theorem h186v : h186.vars = [] := rfl
@[go_sem] theorem h186m : h186.mutc = false := rfl
@[go_sem] def h187a : Nat -> Option (List Nat) := (fun id => match id with | 0 => some [0, 1] | 1 => some [0, 1, 12] | 2 => some [4] | 3 => some [0, 1, 21] | 4 => some [4] | 5 => some [0, 1, 5, 6] | 6 => some [0, 1, 5, 31] | 7 => some [4] | 8 => some [4] | _ => none)
abbrev h187 : Hint := HQ h187a
@[go_sem] def h188a : Nat -> Option (List Nat) := (fun id => match id with | 0 => some [0, 1] | 1 => some [0, 1, 12] | 2 => some [4] | 3 => some [0, 1, 21] | 4 => some [4] | 5 => some [0, 1, 5, 6] | 6 => some [0, 1, 5, 31] | 7 => some [4] | 8 => some [4] | _ => none)
abbrev h188 : Hint := HQ h188a
@[go_sem] def h189a : Nat -> Option (List Nat) := (fun id => match id with | 0 => some [0, 1, 2, 6] | 1 => some [0, 1, 2, 6, 16] | 2 => some [6] | 3 => some [0, 1, 2, 6, 19] | 4 => some [0, 1, 2, 6, 16] | 5 => some [0, 1, 2, 6, 23] | 6 => some [6] | 7 => some [0, 1, 2, 6] | 8 => some [0, 1, 2, 6, 7] | 9 => some [0, 1, 2, 6, 7, 27, 28, 29] | 10 => some [0, 1, 2, 6, 7, 27, 28, 29, 30] | 11 => some [0, 1, 2, 6, 7, 9, 27, 28, 29] | 12 => some [0, 1, 2, 6, 7, 9, 10, 27, 28, 29] | 13 => some [0, 1, 2, 6, 7, 9, 10, 27, 28, 29, 35] | 14 => some [0, 1, 2, 6, 7, 9, 10, 27, 28, 29] | 15 => some [0, 1, 2, 6, 7, 9, 10, 27, 28, 29, 41] | 16 => some [0, 1, 2, 6, 7, 9, 10, 27, 28, 29] | 17 => some [0, 1, 2, 6, 7, 9, 10, 27, 28, 29, 48] | 18 => some [6] | 19 => some [0, 1, 2, 6, 7, 9, 10, 27, 28, 29] | 20 => some [0, 1, 2, 6, 7, 27, 28, 29] | 21 => some [6] | _ => none)
abbrev h189 : Hint := HQ h189a
@[go_sem] def h191a : Nat -> Option (List Nat) := (fun id => match id with | 0 => some [0] | 1 => some [0, 8] | 2 => some [2] | 3 => some [2] | _ => none)
abbrev h191 : Hint := HQ h191a
@[go_sem] def h192a : Nat -> Option (List Nat) := (fun id => match id with | 0 => some [0, 1, 2] | 1 => some [0, 1, 2, 7] | 2 => some [0, 1, 2, 7] | 3 => some [2] | _ => none)
abbrev h192 : Hint := HQ h192a
@[go_sem] def h193a : Nat -> Option (List Nat) := (fun id => match id with | 0 => some [0, 2] | 1 => some [0, 2] | 2 => some [0, 2, 12] | 3 => some [2] | 4 => some [0, 2, 19] | 5 => some [2] | 6 => some [2] | 7 => some [0, 2, 35] | 8 => some [0, 2] | 9 => some [0, 2] | _ => none)
abbrev h193 : Hint := HQ h193a
@[go_sem] def h194a : Nat -> Option (List Nat) := (fun id => match id with | 0 => some [0] | 1 => some [2] | _ => none)
abbrev h194 : Hint := HQ h194a
@[go_sem] def h216a : Nat -> Option (List Nat) := (fun id => match id with | 0 => some [0] | 1 => some [0, 3] | 2 => some [0, 3, 19] | 3 => some [0, 3] | 4 => some [2] | _ => none)
abbrev h216 : Hint := HQ h216a
@[go_sem] def h217a : Nat -> Option (List Nat) := (fun id => match id with | 0 => some [0, 1] | 1 => some [0, 1, 13] | 2 => some [0, 1] | 3 => some [4] | _ => none)
abbrev h217 : Hint := HQ h217a
@[go_sem] def h221a : Nat -> Option (List Nat) := (fun id => match id with | 0 => some [0, 1] | 1 => some [0, 1, 16] | 2 => some [0, 1] | 3 => some [4] | _ => none)
abbrev h221 : Hint := HQ h221a
@[go_sem] def h224a : Nat -> Option (List Nat) := (fun id => match id with | 0 => some [0, 1, 2, 6] | 1 => some [0, 1, 2, 6, 16] | 2 => some [6] | 3 => some [1, 2, 6, 18] | 4 => some [6] | 5 => some [6] | _ => none)
abbrev h224 : Hint := HQ h224a
def hints (f : Nat) : Hint := match f with
 | 7 => h7
 | 16 => h16
 | 18 => h18
 | 19 => h19
 | 22 => h22
 | 26 => h26
 | 32 => h32
 | 41 => h41
 | 42 => h42
 | 43 => h43
 | 46 => h46
 | 48 => h48
 | 49 => h49
 | 51 => h51
 | 52 => h52
 | 54 => h54
 | 55 => h55
 | 56 => h56
 | 63 => h63
 | 64 => h64
 | 65 => h65
 | 66 => h66
 | 67 => h67
 | 72 => h72
 | 73 => h73
 | 76 => h76
 | 78 => h78
 | 89 => h89
 | 90 => h90
 | 91 => h91
 | 92 => h92
 | 97 => h97
 | 106 => h106
 | 107 => h107
 | 108 => h108
 | 109 => h109
 | 110 => h110
 | 111 => h111
 | 112 => h112
 | 113 => h113
 | 114 => h114
 | 115 => h115
 | 116 => h116
 | 117 => h117
 | 118 => h118
 | 119 => h119
 | 120 => h120
 | 121 => h121
 | 135 => h135
 | 154 => h154
 | 155 => h155
 | 156 => h156
 | 157 => h157
 | 158 => h158
 | 159 => h159
 | 185 => h185
 | 186 => h186
 | 187 => h187
 | 188 => h188
 | 189 => h189
 | 191 => h191
 | 192 => h192
 | 193 => h193
 | 194 => h194
 | 216 => h216
 | 217 => h217
 | 221 => h221
 | 224 => h224
 | _ => ⟨fun _ => none, fun _ => none, fun _ => none, [], false, fun _ => none, fun _ => 0, 0, false, fun _ => none⟩
variable [MX]
noncomputable def E : CallF := ev Tryz.prog hints primz
noncomputable def b7 : Code := bodyOf Tryz.f7
abbrev EQ (f n : Nat) (rs : List ResultVar) (hi : Hint) (b : Code) : Prop := ∀ {lo : Nat} {args : List V} {h : Heap}, args.length <= n -> args.all bare = true -> E lo f args h = fin Tryz.prog rs h.length (evCode ⟨Tryz.prog, E, lo, h.length, hi⟩ loopW b (args0 args, h))
theorem e7 : EQ 7 41 [.tmp 2] h7 b7 := fun ha hb => ev_body rfl Tryz.func7 rfl Tryz.ntmps7 (by kernel_rfl) rfl (by kernel_rfl) rfl rfl rfl ha hb
noncomputable def b16 : Code := bodyOf Tryz.f16
noncomputable def l16x0 : Code := loopAt b16 0
theorem e16 : EQ 16 130 [.tmp 2] h16 b16 := fun ha hb => ev_body rfl Tryz.func16 rfl Tryz.ntmps16 (by kernel_rfl) rfl (by kernel_rfl) rfl rfl rfl ha hb
noncomputable def b18 : Code := bodyOf Tryz.f18
theorem e18 : EQ 18 49 [.tmp 0] h18 b18 := fun ha hb => ev_body rfl Tryz.func18 rfl Tryz.ntmps18 (by kernel_rfl) rfl (by kernel_rfl) rfl rfl rfl ha hb
noncomputable def b19 : Code := bodyOf Tryz.f19
theorem e19 : EQ 19 10 [.tmp 2, .tmp 3] h19 b19 := fun ha hb => ev_body rfl Tryz.func19 rfl Tryz.ntmps19 (by kernel_rfl) rfl (by kernel_rfl) rfl rfl rfl ha hb
noncomputable def b22 : Code := bodyOf Tryz.f22
noncomputable def l22x0 : Code := loopAt b22 0
noncomputable def l22x1 : Code := loopAt b22 1
theorem e22 : EQ 22 42 [.tmp 2] h22 b22 := fun ha hb => ev_body rfl Tryz.func22 rfl Tryz.ntmps22 (by kernel_rfl) rfl (by kernel_rfl) rfl rfl rfl ha hb
noncomputable def b26 : Code := bodyOf Tryz.f26
noncomputable def l26x0 : Code := loopAt b26 0
noncomputable def l26x1 : Code := loopAt b26 1
theorem e26 : EQ 26 81 [.tmp 2] h26 b26 := fun ha hb => ev_body rfl Tryz.func26 rfl Tryz.ntmps26 (by kernel_rfl) rfl (by kernel_rfl) rfl rfl rfl ha hb
noncomputable def b32 : Code := bodyOf Tryz.f32
theorem e32 : EQ 32 5 [.tmp 2] h32 b32 := fun ha hb => ev_body rfl Tryz.func32 rfl Tryz.ntmps32 (by kernel_rfl) rfl (by kernel_rfl) rfl rfl rfl ha hb
noncomputable def b41 : Code := bodyOf Tryz.f41
noncomputable def l41x0 : Code := loopAt b41 0
noncomputable def l41x1 : Code := loopAt b41 1
theorem c41 : codeOk Tryz.prog h41 67 b41 = true := by kernel_rfl
theorem e41 {lo : Nat} {args : List V} {h : Heap} (ha : args.length <= 67) (hb : args.all bare = true) :
  E lo 41 args h = finR Tryz.prog [.tmp 2] h.length 3 false (evCode ⟨Tryz.prog, E, lo, h.length, h41⟩ loopW b41 (args0 args, h)) :=
 ev_bodyR rfl Tryz.func41 rfl Tryz.ntmps41 (by kernel_rfl) rfl c41 rfl rfl rfl ha hb
noncomputable def b42 : Code := bodyOf Tryz.f42
theorem c42 : codeOk Tryz.prog h42 113 b42 = true := by kernel_rfl
/- a method -/
theorem e42 {lo : Nat} {args : List V} {h : Heap} (ha : args.length <= 113) (hb : args.all bare = true) :
  E lo 42 args h = finR Tryz.prog [.cell 6 59, .tmp 7] h.length 0 true (evCode ⟨Tryz.prog, E, lo, h.length, h42⟩ loopW b42 (args0 args, h)) :=
 ev_bodyR rfl Tryz.func42 rfl Tryz.ntmps42 (by kernel_rfl) rfl c42 rfl rfl rfl ha hb
noncomputable def b43 : Code := bodyOf Tryz.f43
theorem c43 : codeOk Tryz.prog h43 82 b43 = true := by kernel_rfl
/- a method -/
theorem e43 {lo : Nat} {args : List V} {h : Heap} (ha : args.length <= 82) (hb : args.all bare = true) :
  E lo 43 args h = fin Tryz.prog [] h.length (evCode ⟨Tryz.prog, E, lo, h.length, h43⟩ loopW b43 (args0 args, h)) :=
 ev_body rfl Tryz.func43 rfl Tryz.ntmps43 (by kernel_rfl) rfl c43 rfl rfl rfl ha hb
noncomputable def b46 : Code := bodyOf Tryz.f46
theorem e46 : EQ 46 6 [.tmp 2] h46 b46 := fun ha hb => ev_body rfl Tryz.func46 rfl Tryz.ntmps46 (by kernel_rfl) rfl (by kernel_rfl) rfl rfl rfl ha hb
noncomputable def b48 : Code := bodyOf Tryz.f48
theorem e48 : EQ 48 11 [.tmp 2] h48 b48 := fun ha hb => ev_body rfl Tryz.func48 rfl Tryz.ntmps48 (by kernel_rfl) rfl (by kernel_rfl) rfl rfl rfl ha hb
noncomputable def b49 : Code := bodyOf Tryz.f49
noncomputable def l49x0 : Code := loopAt b49 0
theorem c49 : codeOk Tryz.prog h49 76 b49 = true := by kernel_rfl
/- a method -/
theorem e49 {lo : Nat} {args : List V} {h : Heap} (ha : args.length <= 76) (hb : args.all bare = true) :
  E lo 49 args h = fin Tryz.prog [.tmp 6] h.length (evCode ⟨Tryz.prog, E, lo, h.length, h49⟩ loopW b49 (args0 args, h)) :=
 ev_body rfl Tryz.func49 rfl Tryz.ntmps49 (by kernel_rfl) rfl c49 rfl rfl rfl ha hb
noncomputable def b51 : Code := bodyOf Tryz.f51
theorem c51 : codeOk Tryz.prog h51 52 b51 = true := by kernel_rfl
/- a method -/
theorem e51 {lo : Nat} {args : List V} {h : Heap} (ha : args.length <= 52) (hb : args.all bare = true) :
  E lo 51 args h = fin Tryz.prog [] h.length (evCode ⟨Tryz.prog, E, lo, h.length, h51⟩ loopW b51 (args0 args, h)) :=
 ev_body rfl Tryz.func51 rfl Tryz.ntmps51 (by kernel_rfl) rfl c51 rfl rfl rfl ha hb
noncomputable def b52 : Code := bodyOf Tryz.f52
theorem e52 : EQ 52 12 [.tmp 2] h52 b52 := fun ha hb => ev_body rfl Tryz.func52 rfl Tryz.ntmps52 (by kernel_rfl) rfl (by kernel_rfl) rfl rfl rfl ha hb
noncomputable def b54 : Code := bodyOf Tryz.f54
noncomputable def l54x0 : Code := loopAt b54 0
theorem e54 : EQ 54 43 [.tmp 4] h54 b54 := fun ha hb => ev_body rfl Tryz.func54 rfl Tryz.ntmps54 (by kernel_rfl) rfl (by kernel_rfl) rfl rfl rfl ha hb
noncomputable def b55 : Code := bodyOf Tryz.f55
noncomputable def l55x0 : Code := loopAt b55 0
theorem e55 : EQ 55 23 [.tmp 2] h55 b55 := fun ha hb => ev_body rfl Tryz.func55 rfl Tryz.ntmps55 (by kernel_rfl) rfl (by kernel_rfl) rfl rfl rfl ha hb
noncomputable def b56 : Code := bodyOf Tryz.f56
noncomputable def l56x0 : Code := loopAt b56 0
noncomputable def l56x1 : Code := loopAt b56 1
theorem e56 : EQ 56 32 [.tmp 2] h56 b56 := fun ha hb => ev_body rfl Tryz.func56 rfl Tryz.ntmps56 (by kernel_rfl) rfl (by kernel_rfl) rfl rfl rfl ha hb
noncomputable def b63 : Code := bodyOf Tryz.f63
theorem c63 : codeOk Tryz.prog h63 63 b63 = true := by kernel_rfl
/- a method -/
theorem e63 {lo : Nat} {args : List V} {h : Heap} (ha : args.length <= 63) (hb : args.all bare = true) :
  E lo 63 args h = fin Tryz.prog [] h.length (evCode ⟨Tryz.prog, E, lo, h.length, h63⟩ loopW b63 (args0 args, h)) :=
 ev_body rfl Tryz.func63 rfl Tryz.ntmps63 (by kernel_rfl) rfl c63 rfl rfl rfl ha hb
noncomputable def b64 : Code := bodyOf Tryz.f64
noncomputable def l64x0 : Code := loopAt b64 0
noncomputable def l64x1 : Code := loopAt b64 1
theorem c64 : codeOk Tryz.prog h64 52 b64 = true := by kernel_rfl
/- a method -/
theorem e64 {lo : Nat} {args : List V} {h : Heap} (ha : args.length <= 52) (hb : args.all bare = true) :
  E lo 64 args h = fin Tryz.prog [.tmp 8, .tmp 9] h.length (evCode ⟨Tryz.prog, E, lo, h.length, h64⟩ loopW b64 (args0 args, h)) :=
 ev_body rfl Tryz.func64 rfl Tryz.ntmps64 (by kernel_rfl) rfl c64 rfl rfl rfl ha hb
noncomputable def b65 : Code := bodyOf Tryz.f65
noncomputable def l65x0 : Code := loopAt b65 0
theorem e65 : EQ 65 30 [.tmp 2] h65 b65 := fun ha hb => ev_body rfl Tryz.func65 rfl Tryz.ntmps65 (by kernel_rfl) rfl (by kernel_rfl) rfl rfl rfl ha hb
noncomputable def b66 : Code := bodyOf Tryz.f66
theorem c66 : codeOk Tryz.prog h66 29 b66 = true := by kernel_rfl
/- a method -/
theorem e66 {lo : Nat} {args : List V} {h : Heap} (ha : args.length <= 29) (hb : args.all bare = true) :
  E lo 66 args h = fin Tryz.prog [.tmp 6] h.length (evCode ⟨Tryz.prog, E, lo, h.length, h66⟩ loopW b66 (args0 args, h)) :=
 ev_body rfl Tryz.func66 rfl Tryz.ntmps66 (by kernel_rfl) rfl c66 rfl rfl rfl ha hb
noncomputable def b67 : Code := bodyOf Tryz.f67
theorem c67 : codeOk Tryz.prog h67 16 b67 = true := by kernel_rfl
/- a method -/
theorem e67 {lo : Nat} {args : List V} {h : Heap} (ha : args.length <= 16) (hb : args.all bare = true) :
  E lo 67 args h = fin Tryz.prog [.tmp 6] h.length (evCode ⟨Tryz.prog, E, lo, h.length, h67⟩ loopW b67 (args0 args, h)) :=
 ev_body rfl Tryz.func67 rfl Tryz.ntmps67 (by kernel_rfl) rfl c67 rfl rfl rfl ha hb
noncomputable def b72 : Code := bodyOf Tryz.f72
noncomputable def l72x0 : Code := loopAt b72 0
theorem e72 : EQ 72 18 [.tmp 2] h72 b72 := fun ha hb => ev_body rfl Tryz.func72 rfl Tryz.ntmps72 (by kernel_rfl) rfl (by kernel_rfl) rfl rfl rfl ha hb
noncomputable def b73 : Code := bodyOf Tryz.f73
noncomputable def l73x0 : Code := loopAt b73 0
theorem e73 : EQ 73 56 [.tmp 2] h73 b73 := fun ha hb => ev_body rfl Tryz.func73 rfl Tryz.ntmps73 (by kernel_rfl) rfl (by kernel_rfl) rfl rfl rfl ha hb
noncomputable def b76 : Code := bodyOf Tryz.f76
noncomputable def l76x0 : Code := loopAt b76 0
noncomputable def l76x1 : Code := loopAt b76 1
theorem c76 : codeOk Tryz.prog h76 152 b76 = true := by kernel_rfl
/- a method -/
theorem e76 {lo : Nat} {args : List V} {h : Heap} (ha : args.length <= 152) (hb : args.all bare = true) :
  E lo 76 args h = fin Tryz.prog [.cell 6 67, .tmp 7] h.length (evCode ⟨Tryz.prog, E, lo, h.length, h76⟩ loopW b76 (args0 args, h)) :=
 ev_body rfl Tryz.func76 rfl Tryz.ntmps76 (by kernel_rfl) rfl c76 rfl rfl rfl ha hb
noncomputable def b78 : Code := bodyOf Tryz.f78
theorem e78 : EQ 78 7 [.tmp 2] h78 b78 := fun ha hb => ev_body rfl Tryz.func78 rfl Tryz.ntmps78 (by kernel_rfl) rfl (by kernel_rfl) rfl rfl rfl ha hb
noncomputable def b89 : Code := bodyOf Tryz.f89
noncomputable def l89x0 : Code := loopAt b89 0
noncomputable def l89x1 : Code := loopAt b89 1
theorem c89 : codeOk Tryz.prog h89 38 b89 = true := by kernel_rfl
/- a method -/
theorem e89 {lo : Nat} {args : List V} {h : Heap} (ha : args.length <= 38) (hb : args.all bare = true) :
  E lo 89 args h = fin Tryz.prog [] h.length (evCode ⟨Tryz.prog, E, lo, h.length, h89⟩ loopW b89 (args0 args, h)) :=
 ev_body rfl Tryz.func89 rfl Tryz.ntmps89 (by kernel_rfl) rfl c89 rfl rfl rfl ha hb
noncomputable def b90 : Code := bodyOf Tryz.f90
theorem c90 : codeOk Tryz.prog h90 45 b90 = true := by kernel_rfl
/- a method -/
theorem e90 {lo : Nat} {args : List V} {h : Heap} (ha : args.length <= 45) (hb : args.all bare = true) :
  E lo 90 args h = fin Tryz.prog [.tmp 4] h.length (evCode ⟨Tryz.prog, E, lo, h.length, h90⟩ loopW b90 (args0 args, h)) :=
 ev_body rfl Tryz.func90 rfl Tryz.ntmps90 (by kernel_rfl) rfl c90 rfl rfl rfl ha hb
noncomputable def b91 : Code := bodyOf Tryz.f91
theorem c91 : codeOk Tryz.prog h91 170 b91 = true := by kernel_rfl
/- a method -/
theorem e91 {lo : Nat} {args : List V} {h : Heap} (ha : args.length <= 170) (hb : args.all bare = true) :
  E lo 91 args h = fin Tryz.prog [.cell 2 37] h.length (evCode ⟨Tryz.prog, E, lo, h.length, h91⟩ loopW b91 (args0 args, h)) :=
 ev_body rfl Tryz.func91 rfl Tryz.ntmps91 (by kernel_rfl) rfl c91 rfl rfl rfl ha hb
noncomputable def b92 : Code := bodyOf Tryz.f92
noncomputable def l92x0 : Code := loopAt b92 0
theorem e92 : EQ 92 22 [.tmp 2] h92 b92 := fun ha hb => ev_body rfl Tryz.func92 rfl Tryz.ntmps92 (by kernel_rfl) rfl (by kernel_rfl) rfl rfl rfl ha hb
noncomputable def b97 : Code := bodyOf Tryz.f97
theorem e97 : EQ 97 8 [.tmp 4] h97 b97 := fun ha hb => ev_body rfl Tryz.func97 rfl Tryz.ntmps97 (by kernel_rfl) rfl (by kernel_rfl) rfl rfl rfl ha hb
noncomputable def b106 : Code := bodyOf Tryz.f106
noncomputable def l106x0 : Code := loopAt b106 0
theorem c106 : codeOk Tryz.prog h106 20 b106 = true := by kernel_rfl
/- a method -/
theorem e106 {lo : Nat} {args : List V} {h : Heap} (ha : args.length <= 20) (hb : args.all bare = true) :
  E lo 106 args h = fin Tryz.prog [.tmp 4] h.length (evCode ⟨Tryz.prog, E, lo, h.length, h106⟩ loopW b106 (args0 args, h)) :=
 ev_body rfl Tryz.func106 rfl Tryz.ntmps106 (by kernel_rfl) rfl c106 rfl rfl rfl ha hb
noncomputable def b107 : Code := bodyOf Tryz.f107
theorem e107 : EQ 107 13 [.tmp 2] h107 b107 := fun ha hb => ev_body rfl Tryz.func107 rfl Tryz.ntmps107 (by kernel_rfl) rfl (by kernel_rfl) rfl rfl rfl ha hb
noncomputable def b108 : Code := bodyOf Tryz.f108
noncomputable def l108x0 : Code := loopAt b108 0
theorem c108 : codeOk Tryz.prog h108 12 b108 = true := by kernel_rfl
/- a method -/
theorem e108 {lo : Nat} {args : List V} {h : Heap} (ha : args.length <= 12) (hb : args.all bare = true) :
  E lo 108 args h = fin Tryz.prog [] h.length (evCode ⟨Tryz.prog, E, lo, h.length, h108⟩ loopW b108 (args0 args, h)) :=
 ev_body rfl Tryz.func108 rfl Tryz.ntmps108 (by kernel_rfl) rfl c108 rfl rfl rfl ha hb
noncomputable def b109 : Code := bodyOf Tryz.f109
noncomputable def l109x0 : Code := loopAt b109 0
theorem c109 : codeOk Tryz.prog h109 102 b109 = true := by kernel_rfl
/- a method -/
theorem e109 {lo : Nat} {args : List V} {h : Heap} (ha : args.length <= 102) (hb : args.all bare = true) :
  E lo 109 args h = fin Tryz.prog [.cell 2 37] h.length (evCode ⟨Tryz.prog, E, lo, h.length, h109⟩ loopW b109 (args0 args, h)) :=
 ev_body rfl Tryz.func109 rfl Tryz.ntmps109 (by kernel_rfl) rfl c109 rfl rfl rfl ha hb
noncomputable def b110 : Code := bodyOf Tryz.f110
theorem e110 : EQ 110 22 [.tmp 2] h110 b110 := fun ha hb => ev_body rfl Tryz.func110 rfl Tryz.ntmps110 (by kernel_rfl) rfl (by kernel_rfl) rfl rfl rfl ha hb
noncomputable def b111 : Code := bodyOf Tryz.f111
theorem e111 : EQ 111 9 [.tmp 2] h111 b111 := fun ha hb => ev_body rfl Tryz.func111 rfl Tryz.ntmps111 (by kernel_rfl) rfl (by kernel_rfl) rfl rfl rfl ha hb
noncomputable def b112 : Code := bodyOf Tryz.f112
theorem c112 : codeOk Tryz.prog h112 34 b112 = true := by kernel_rfl
/- a method -/
theorem e112 {lo : Nat} {args : List V} {h : Heap} (ha : args.length <= 34) (hb : args.all bare = true) :
  E lo 112 args h = fin Tryz.prog [.tmp 4] h.length (evCode ⟨Tryz.prog, E, lo, h.length, h112⟩ loopW b112 (args0 args, h)) :=
 ev_body rfl Tryz.func112 rfl Tryz.ntmps112 (by kernel_rfl) rfl c112 rfl rfl rfl ha hb
noncomputable def b113 : Code := bodyOf Tryz.f113
theorem c113 : codeOk Tryz.prog h113 146 b113 = true := by kernel_rfl
/- a method -/
theorem e113 {lo : Nat} {args : List V} {h : Heap} (ha : args.length <= 146) (hb : args.all bare = true) :
  E lo 113 args h = fin Tryz.prog [.cell 2 37] h.length (evCode ⟨Tryz.prog, E, lo, h.length, h113⟩ loopW b113 (args0 args, h)) :=
 ev_body rfl Tryz.func113 rfl Tryz.ntmps113 (by kernel_rfl) rfl c113 rfl rfl rfl ha hb
noncomputable def b114 : Code := bodyOf Tryz.f114
theorem e114 : EQ 114 13 [.tmp 2] h114 b114 := fun ha hb => ev_body rfl Tryz.func114 rfl Tryz.ntmps114 (by kernel_rfl) rfl (by kernel_rfl) rfl rfl rfl ha hb
noncomputable def b115 : Code := bodyOf Tryz.f115
theorem c115 : codeOk Tryz.prog h115 16 b115 = true := by kernel_rfl
/- a method -/
theorem e115 {lo : Nat} {args : List V} {h : Heap} (ha : args.length <= 16) (hb : args.all bare = true) :
  E lo 115 args h = fin Tryz.prog [.tmp 4] h.length (evCode ⟨Tryz.prog, E, lo, h.length, h115⟩ loopW b115 (args0 args, h)) :=
 ev_body rfl Tryz.func115 rfl Tryz.ntmps115 (by kernel_rfl) rfl c115 rfl rfl rfl ha hb
noncomputable def b116 : Code := bodyOf Tryz.f116
theorem c116 : codeOk Tryz.prog h116 36 b116 = true := by kernel_rfl
/- a method -/
theorem e116 {lo : Nat} {args : List V} {h : Heap} (ha : args.length <= 36) (hb : args.all bare = true) :
  E lo 116 args h = fin Tryz.prog [.tmp 4] h.length (evCode ⟨Tryz.prog, E, lo, h.length, h116⟩ loopW b116 (args0 args, h)) :=
 ev_body rfl Tryz.func116 rfl Tryz.ntmps116 (by kernel_rfl) rfl c116 rfl rfl rfl ha hb
noncomputable def b117 : Code := bodyOf Tryz.f117
noncomputable def l117x0 : Code := loopAt b117 0
theorem c117 : codeOk Tryz.prog h117 26 b117 = true := by kernel_rfl
/- a method -/
theorem e117 {lo : Nat} {args : List V} {h : Heap} (ha : args.length <= 26) (hb : args.all bare = true) :
  E lo 117 args h = fin Tryz.prog [.tmp 2] h.length (evCode ⟨Tryz.prog, E, lo, h.length, h117⟩ loopW b117 (args0 args, h)) :=
 ev_body rfl Tryz.func117 rfl Tryz.ntmps117 (by kernel_rfl) rfl c117 rfl rfl rfl ha hb
noncomputable def b118 : Code := bodyOf Tryz.f118
noncomputable def l118x0 : Code := loopAt b118 0
theorem c118 : codeOk Tryz.prog h118 73 b118 = true := by kernel_rfl
/- a method -/
theorem e118 {lo : Nat} {args : List V} {h : Heap} (ha : args.length <= 73) (hb : args.all bare = true) :
  E lo 118 args h = fin Tryz.prog [.cell 2 37] h.length (evCode ⟨Tryz.prog, E, lo, h.length, h118⟩ loopW b118 (args0 args, h)) :=
 ev_body rfl Tryz.func118 rfl Tryz.ntmps118 (by kernel_rfl) rfl c118 rfl rfl rfl ha hb
noncomputable def b119 : Code := bodyOf Tryz.f119
noncomputable def l119x0 : Code := loopAt b119 0
theorem e119 : EQ 119 90 [.tmp 2] h119 b119 := fun ha hb => ev_body rfl Tryz.func119 rfl Tryz.ntmps119 (by kernel_rfl) rfl (by kernel_rfl) rfl rfl rfl ha hb
noncomputable def b120 : Code := bodyOf Tryz.f120
theorem c120 : codeOk Tryz.prog h120 14 b120 = true := by kernel_rfl
/- a method -/
theorem e120 {lo : Nat} {args : List V} {h : Heap} (ha : args.length <= 14) (hb : args.all bare = true) :
  E lo 120 args h = fin Tryz.prog [.tmp 2] h.length (evCode ⟨Tryz.prog, E, lo, h.length, h120⟩ loopW b120 (args0 args, h)) :=
 ev_body rfl Tryz.func120 rfl Tryz.ntmps120 (by kernel_rfl) rfl c120 rfl rfl rfl ha hb
noncomputable def b121 : Code := bodyOf Tryz.f121
noncomputable def l121x0 : Code := loopAt b121 0
theorem e121 : EQ 121 101 [.tmp 2, .tmp 3] h121 b121 := fun ha hb => ev_body rfl Tryz.func121 rfl Tryz.ntmps121 (by kernel_rfl) rfl (by kernel_rfl) rfl rfl rfl ha hb
noncomputable def b135 : Code := bodyOf Tryz.f135
theorem e135 : EQ 135 18 [.tmp 4] h135 b135 := fun ha hb => ev_body rfl Tryz.func135 rfl Tryz.ntmps135 (by kernel_rfl) rfl (by kernel_rfl) rfl rfl rfl ha hb
noncomputable def b154 : Code := bodyOf Tryz.f154
noncomputable def l154x0 : Code := loopAt b154 0
theorem c154 : codeOk Tryz.prog h154 50 b154 = true := by kernel_rfl
/- a method -/
theorem e154 {lo : Nat} {args : List V} {h : Heap} (ha : args.length <= 50) (hb : args.all bare = true) :
  E lo 154 args h = fin Tryz.prog [.tmp 2] h.length (evCode ⟨Tryz.prog, E, lo, h.length, h154⟩ loopW b154 (args0 args, h)) :=
 ev_body rfl Tryz.func154 rfl Tryz.ntmps154 (by kernel_rfl) rfl c154 rfl rfl rfl ha hb
noncomputable def b155 : Code := bodyOf Tryz.f155
noncomputable def l155x0 : Code := loopAt b155 0
theorem c155 : codeOk Tryz.prog h155 15 b155 = true := by kernel_rfl
/- a method -/
theorem e155 {lo : Nat} {args : List V} {h : Heap} (ha : args.length <= 15) (hb : args.all bare = true) :
  E lo 155 args h = fin Tryz.prog [] h.length (evCode ⟨Tryz.prog, E, lo, h.length, h155⟩ loopW b155 (args0 args, h)) :=
 ev_body rfl Tryz.func155 rfl Tryz.ntmps155 (by kernel_rfl) rfl c155 rfl rfl rfl ha hb
noncomputable def b156 : Code := bodyOf Tryz.f156
noncomputable def l156x0 : Code := loopAt b156 0
theorem e156 : EQ 156 67 [.cell 2 35, .tmp 3, .tmp 4] h156 b156 := fun ha hb => ev_body rfl Tryz.func156 rfl Tryz.ntmps156 (by kernel_rfl) rfl (by kernel_rfl) rfl rfl rfl ha hb
noncomputable def b157 : Code := bodyOf Tryz.f157
theorem e157 : EQ 157 25 [.tmp 2] h157 b157 := fun ha hb => ev_body rfl Tryz.func157 rfl Tryz.ntmps157 (by kernel_rfl) rfl (by kernel_rfl) rfl rfl rfl ha hb
noncomputable def b158 : Code := bodyOf Tryz.f158
theorem e158 : EQ 158 9 [.tmp 4] h158 b158 := fun ha hb => ev_body rfl Tryz.func158 rfl Tryz.ntmps158 (by kernel_rfl) rfl (by kernel_rfl) rfl rfl rfl ha hb
noncomputable def b159 : Code := bodyOf Tryz.f159
noncomputable def l159x0 : Code := loopAt b159 0
theorem c159 : codeOk Tryz.prog h159 95 b159 = true := by kernel_rfl
/- a method -/
theorem e159 {lo : Nat} {args : List V} {h : Heap} (ha : args.length <= 95) (hb : args.all bare = true) :
  E lo 159 args h = fin Tryz.prog [.cell 2 37] h.length (evCode ⟨Tryz.prog, E, lo, h.length, h159⟩ loopW b159 (args0 args, h)) :=
 ev_body rfl Tryz.func159 rfl Tryz.ntmps159 (by kernel_rfl) rfl c159 rfl rfl rfl ha hb
noncomputable def b185 : Code := bodyOf Tryz.f185
theorem e185 : EQ 185 28 [.tmp 2] h185 b185 := fun ha hb => ev_body rfl Tryz.func185 rfl Tryz.ntmps185 (by kernel_rfl) rfl (by kernel_rfl) rfl rfl rfl ha hb
noncomputable def b186 : Code := bodyOf Tryz.f186
noncomputable def l186x0 : Code := loopAt b186 0
theorem e186 : EQ 186 135 [.cell 2 177, .tmp 3] h186 b186 := fun ha hb => ev_body rfl Tryz.func186 rfl Tryz.ntmps186 (by kernel_rfl) rfl (by kernel_rfl) rfl rfl rfl ha hb
noncomputable def b187 : Code := bodyOf Tryz.f187
theorem e187 : EQ 187 37 [.tmp 4] h187 b187 := fun ha hb => ev_body rfl Tryz.func187 rfl Tryz.ntmps187 (by kernel_rfl) rfl (by kernel_rfl) rfl rfl rfl ha hb
noncomputable def b188 : Code := bodyOf Tryz.f188
theorem e188 : EQ 188 37 [.tmp 4] h188 b188 := fun ha hb => ev_body rfl Tryz.func188 rfl Tryz.ntmps188 (by kernel_rfl) rfl (by kernel_rfl) rfl rfl rfl ha hb
noncomputable def b189 : Code := bodyOf Tryz.f189
noncomputable def l189x0 : Code := loopAt b189 0
noncomputable def l189x1 : Code := loopAt b189 1
noncomputable def l189x2 : Code := loopAt b189 2
theorem e189 : EQ 189 58 [.cell 6 35] h189 b189 := fun ha hb => ev_body rfl Tryz.func189 rfl Tryz.ntmps189 (by kernel_rfl) rfl (by kernel_rfl) rfl rfl rfl ha hb
noncomputable def b191 : Code := bodyOf Tryz.f191
theorem c191 : codeOk Tryz.prog h191 13 b191 = true := by kernel_rfl
/- a method -/
noncomputable def b192 : Code := bodyOf Tryz.f192
theorem c192 : codeOk Tryz.prog h192 21 b192 = true := by kernel_rfl
/- a method -/
theorem e192 {lo : Nat} {args : List V} {h : Heap} (ha : args.length <= 21) (hb : args.all bare = true) :
  E lo 192 args h = fin Tryz.prog [.cell 2 37] h.length (evCode ⟨Tryz.prog, E, lo, h.length, h192⟩ loopW b192 (args0 args, h)) :=
 ev_body rfl Tryz.func192 rfl Tryz.ntmps192 (by kernel_rfl) rfl c192 rfl rfl rfl ha hb
noncomputable def b193 : Code := bodyOf Tryz.f193
noncomputable def l193x0 : Code := loopAt b193 0
theorem c193 : codeOk Tryz.prog h193 53 b193 = true := by kernel_rfl
/- a method -/
theorem e193 {lo : Nat} {args : List V} {h : Heap} (ha : args.length <= 53) (hb : args.all bare = true) :
  E lo 193 args h = fin Tryz.prog [.cell 2 37] h.length (evCode ⟨Tryz.prog, E, lo, h.length, h193⟩ loopW b193 (args0 args, h)) :=
 ev_body rfl Tryz.func193 rfl Tryz.ntmps193 (by kernel_rfl) rfl c193 rfl rfl rfl ha hb
noncomputable def b194 : Code := bodyOf Tryz.f194
theorem e194 : EQ 194 25 [.tmp 2] h194 b194 := fun ha hb => ev_body rfl Tryz.func194 rfl Tryz.ntmps194 (by kernel_rfl) rfl (by kernel_rfl) rfl rfl rfl ha hb
noncomputable def b216 : Code := bodyOf Tryz.f216
noncomputable def l216x0 : Code := loopAt b216 0
theorem e216 : EQ 216 23 [.tmp 2] h216 b216 := fun ha hb => ev_body rfl Tryz.func216 rfl Tryz.ntmps216 (by kernel_rfl) rfl (by kernel_rfl) rfl rfl rfl ha hb
noncomputable def b217 : Code := bodyOf Tryz.f217
noncomputable def l217x0 : Code := loopAt b217 0
theorem e217 : EQ 217 17 [.tmp 4] h217 b217 := fun ha hb => ev_body rfl Tryz.func217 rfl Tryz.ntmps217 (by kernel_rfl) rfl (by kernel_rfl) rfl rfl rfl ha hb
noncomputable def b221 : Code := bodyOf Tryz.f221
noncomputable def l221x0 : Code := loopAt b221 0
theorem e221 : EQ 221 23 [.tmp 4] h221 b221 := fun ha hb => ev_body rfl Tryz.func221 rfl Tryz.ntmps221 (by kernel_rfl) rfl (by kernel_rfl) rfl rfl rfl ha hb
noncomputable def b224 : Code := bodyOf Tryz.f224
theorem e224 : EQ 224 30 [.cell 6 35] h224 b224 := fun ha hb => ev_body rfl Tryz.func224 rfl Tryz.ntmps224 (by kernel_rfl) rfl (by kernel_rfl) rfl rfl rfl ha hb
end Go.Lift.P8
