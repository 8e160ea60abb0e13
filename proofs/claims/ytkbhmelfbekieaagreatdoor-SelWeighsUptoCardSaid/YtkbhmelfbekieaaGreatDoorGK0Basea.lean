/- Facts of the program that the evaluation asks for: the live slots of each function, its types. Written by a program (gen.py). -/
import Derived.Test.YtkbhmelfbekieaaGreatDoorRows
import Derived.Lib.DecodeN
import Derived.Lib.Index
import Derived.Test.YtkbhmelfbekieaaGreatDoorGKa
set_option linter.unusedVariables false
set_option linter.unusedSimpArgs false
set_option linter.unusedSectionVars false
set_option maxRecDepth 20000
namespace Go.Lift.Z9
open Go.Proofs
class MX where
 m : Int
instance gtab [MX] : GTab := ⟨fun n => match n with | 0 => some [.v (.int .i64 21), .v (.int .i64 22), .v (.int .i64 19), .v (.int .i64 20), .v (.int .i64 23), .v (.int .i64 24), .v (.int .i64 18), .v (.int .i64 16), .v (.int .i64 17)] | 1 => some [.v (.int .i64 MX.m)] | _ => none⟩
noncomputable def idxP (lo : Nat) (args : List V) (h : Heap) : Option (V × Heap) := match args with
 | [.v (.string s), .v (.int .u8 c)] => some (.v (.int .i64 (Go.Lib.indexByte s.data.toList c.toNat.toUInt8)), h)
 | _ => none
noncomputable def ixP (lo : Nat) (args : List V) (h : Heap) : Option (V × Heap) := match args with
 | [.v (.string s), .v (.string t)] => match t.data.toList with
  | [c] => some (.v (.int .i64 (Go.Lib.indexByte s.data.toList c)), h)
  | _ => if s.size < 4294967281 then some (.v (.int .i64 (Go.Lib.index s.data.toList t.data.toList)), h) else none
 | _ => none
noncomputable def primz0 [MX] : Nat -> Option (Nat -> List V -> Heap -> Option (V × Heap)) := fun n => match n with | 121 => some idxP | 112 => some ixP | _ => none
noncomputable def awkP (lo : Nat) (args : List V) (h : Heap) : Option (V × Heap) := match args with
 | [] => some (.v (.bool true), h)
 | _ => none
noncomputable def primz [MX] : Nat -> Option (Nat -> List V -> Heap -> Option (V × Heap)) := fun n => match n with | 12 => some awkP | 121 => some idxP | 112 => some ixP | _ => none
instance bty : BTy := ⟨[], some 5⟩
@[go_sem] theorem bt_eq : BTy.bt = [] := rfl
@[go_sem] theorem bt_is : (BTy.bt.isEmpty) = true := rfl
@[go_sem] theorem bt_n (n : Nat) : btOf n = none := rfl
@[go_sem] theorem bb_eq : BTy.bb = some 5 := rfl
@[go_sem] theorem bb_self : ((5 : TypeId) == 5) = true := rfl
attribute [go_sem] Tryz.underlying2
@[go_sem] theorem z2 : tsize Tryz.prog 2 = 1 := by kernel_rfl
@[go_sem] theorem k2 : ttag Tryz.prog 2 = some false := by kernel_rfl
@[go_sem] theorem y2 : Tryz.prog.bytesOf 2 = 8 := by kernel_rfl
@[go_sem] theorem s2 : isStr Tryz.prog 2 = false := by kernel_rfl
@[go_sem] theorem j2 : isI32 Tryz.prog 2 = false := by kernel_rfl
@[go_sem] theorem w2 : isU8 Tryz.prog 2 = false := by kernel_rfl
@[go_sem] theorem o2 : tzero Tryz.prog 2 = some [.int .i64 0] := by kernel_rfl
@[go_sem] theorem i2 : (Tryz.prog.info? 2).isSome = true := by kernel_rfl
attribute [go_sem] Tryz.underlying3
@[go_sem] theorem z3 : tsize Tryz.prog 3 = 1 := by kernel_rfl
@[go_sem] theorem k3 : ttag Tryz.prog 3 = some false := by kernel_rfl
@[go_sem] theorem y3 : Tryz.prog.bytesOf 3 = 8 := by kernel_rfl
@[go_sem] theorem s3 : isStr Tryz.prog 3 = false := by kernel_rfl
@[go_sem] theorem j3 : isI32 Tryz.prog 3 = false := by kernel_rfl
@[go_sem] theorem w3 : isU8 Tryz.prog 3 = false := by kernel_rfl
@[go_sem] theorem o3 : tzero Tryz.prog 3 = some [.int .i64 0] := by kernel_rfl
@[go_sem] theorem i3 : (Tryz.prog.info? 3).isSome = true := by kernel_rfl
attribute [go_sem] Tryz.underlying4
@[go_sem] theorem z4 : tsize Tryz.prog 4 = 1 := by kernel_rfl
@[go_sem] theorem k4 : ttag Tryz.prog 4 = some false := by kernel_rfl
@[go_sem] theorem y4 : Tryz.prog.bytesOf 4 = 1 := by kernel_rfl
@[go_sem] theorem s4 : isStr Tryz.prog 4 = false := by kernel_rfl
@[go_sem] theorem j4 : isI32 Tryz.prog 4 = false := by kernel_rfl
@[go_sem] theorem w4 : isU8 Tryz.prog 4 = false := by kernel_rfl
@[go_sem] theorem o4 : tzero Tryz.prog 4 = some [.bool false] := by kernel_rfl
@[go_sem] theorem i4 : (Tryz.prog.info? 4).isSome = true := by kernel_rfl
attribute [go_sem] Tryz.underlying5
@[go_sem] theorem z5 : tsize Tryz.prog 5 = 1 := by kernel_rfl
@[go_sem] theorem k5 : ttag Tryz.prog 5 = some false := by kernel_rfl
@[go_sem] theorem y5 : Tryz.prog.bytesOf 5 = 1 := by kernel_rfl
@[go_sem] theorem s5 : isStr Tryz.prog 5 = false := by kernel_rfl
@[go_sem] theorem j5 : isI32 Tryz.prog 5 = false := by kernel_rfl
@[go_sem] theorem w5 : isU8 Tryz.prog 5 = true := by kernel_rfl
@[go_sem] theorem o5 : tzero Tryz.prog 5 = some [.int .u8 0] := by kernel_rfl
@[go_sem] theorem i5 : (Tryz.prog.info? 5).isSome = true := by kernel_rfl
attribute [go_sem] Tryz.underlying9
@[go_sem] theorem z9 : tsize Tryz.prog 9 = 1 := by kernel_rfl
@[go_sem] theorem k9 : ttag Tryz.prog 9 = some false := by kernel_rfl
@[go_sem] theorem y9 : Tryz.prog.bytesOf 9 = 16 := by kernel_rfl
@[go_sem] theorem s9 : isStr Tryz.prog 9 = true := by kernel_rfl
@[go_sem] theorem j9 : isI32 Tryz.prog 9 = false := by kernel_rfl
@[go_sem] theorem w9 : isU8 Tryz.prog 9 = false := by kernel_rfl
@[go_sem] theorem o9 : tzero Tryz.prog 9 = some [.string ByteArray.empty] := by kernel_rfl
@[go_sem] theorem i9 : (Tryz.prog.info? 9).isSome = true := by kernel_rfl
attribute [go_sem] Tryz.underlying21
@[go_sem] theorem z21 : tsize Tryz.prog 21 = 1 := by kernel_rfl
@[go_sem] theorem k21 : ttag Tryz.prog 21 = some false := by kernel_rfl
@[go_sem] theorem y21 : Tryz.prog.bytesOf 21 = 4 := by kernel_rfl
@[go_sem] theorem s21 : isStr Tryz.prog 21 = false := by kernel_rfl
@[go_sem] theorem j21 : isI32 Tryz.prog 21 = true := by kernel_rfl
@[go_sem] theorem w21 : isU8 Tryz.prog 21 = false := by kernel_rfl
@[go_sem] theorem o21 : tzero Tryz.prog 21 = some [.int .i32 0] := by kernel_rfl
@[go_sem] theorem i21 : (Tryz.prog.info? 21).isSome = true := by kernel_rfl
attribute [go_sem] Tryz.underlying22
@[go_sem] theorem z22 : tsize Tryz.prog 22 = 1 := by kernel_rfl
@[go_sem] theorem k22 : ttag Tryz.prog 22 = some false := by kernel_rfl
@[go_sem] theorem y22 : Tryz.prog.bytesOf 22 = 24 := by kernel_rfl
@[go_sem] theorem s22 : isStr Tryz.prog 22 = false := by kernel_rfl
@[go_sem] theorem j22 : isI32 Tryz.prog 22 = false := by kernel_rfl
@[go_sem] theorem w22 : isU8 Tryz.prog 22 = false := by kernel_rfl
@[go_sem] theorem o22 : tzero Tryz.prog 22 = some [.slice none 0 0] := by kernel_rfl
@[go_sem] theorem i22 : (Tryz.prog.info? 22).isSome = true := by kernel_rfl
attribute [go_sem] Tryz.underlying24
@[go_sem] theorem z24 : tsize Tryz.prog 24 = 1 := by kernel_rfl
@[go_sem] theorem k24 : ttag Tryz.prog 24 = some true := by kernel_rfl
@[go_sem] theorem y24 : Tryz.prog.bytesOf 24 = 24 := by kernel_rfl
@[go_sem] theorem s24 : isStr Tryz.prog 24 = false := by kernel_rfl
@[go_sem] theorem j24 : isI32 Tryz.prog 24 = false := by kernel_rfl
@[go_sem] theorem w24 : isU8 Tryz.prog 24 = false := by kernel_rfl
@[go_sem] theorem o24 : tzero Tryz.prog 24 = some [.slice none 0 0] := by kernel_rfl
@[go_sem] theorem i24 : (Tryz.prog.info? 24).isSome = true := by kernel_rfl
@[go_sem] theorem x24 : structOk Tryz.prog 24 = true := by kernel_rfl
@[go_sem] theorem g24x0 : fieldOff Tryz.prog 24 0 = some (0, 22) := by kernel_rfl
attribute [go_sem] Tryz.underlying26
@[go_sem] theorem z26 : tsize Tryz.prog 26 = 3 := by kernel_rfl
@[go_sem] theorem k26 : ttag Tryz.prog 26 = some true := by kernel_rfl
@[go_sem] theorem y26 : Tryz.prog.bytesOf 26 = 24 := by kernel_rfl
@[go_sem] theorem s26 : isStr Tryz.prog 26 = false := by kernel_rfl
@[go_sem] theorem j26 : isI32 Tryz.prog 26 = false := by kernel_rfl
@[go_sem] theorem w26 : isU8 Tryz.prog 26 = false := by kernel_rfl
@[go_sem] theorem o26 : tzero Tryz.prog 26 = some [.int .i64 0, .int .i64 0, .int .i64 0] := by kernel_rfl
@[go_sem] theorem i26 : (Tryz.prog.info? 26).isSome = true := by kernel_rfl
attribute [go_sem] Tryz.underlying27
@[go_sem] theorem z27 : tsize Tryz.prog 27 = 1 := by kernel_rfl
@[go_sem] theorem k27 : ttag Tryz.prog 27 = some false := by kernel_rfl
@[go_sem] theorem y27 : Tryz.prog.bytesOf 27 = 24 := by kernel_rfl
@[go_sem] theorem s27 : isStr Tryz.prog 27 = false := by kernel_rfl
@[go_sem] theorem j27 : isI32 Tryz.prog 27 = false := by kernel_rfl
@[go_sem] theorem w27 : isU8 Tryz.prog 27 = false := by kernel_rfl
@[go_sem] theorem o27 : tzero Tryz.prog 27 = some [.slice none 0 0] := by kernel_rfl
@[go_sem] theorem i27 : (Tryz.prog.info? 27).isSome = true := by kernel_rfl
attribute [go_sem] Tryz.underlying28
@[go_sem] theorem z28 : tsize Tryz.prog 28 = 1 := by kernel_rfl
@[go_sem] theorem k28 : ttag Tryz.prog 28 = some false := by kernel_rfl
@[go_sem] theorem y28 : Tryz.prog.bytesOf 28 = 8 := by kernel_rfl
@[go_sem] theorem s28 : isStr Tryz.prog 28 = false := by kernel_rfl
@[go_sem] theorem j28 : isI32 Tryz.prog 28 = false := by kernel_rfl
@[go_sem] theorem w28 : isU8 Tryz.prog 28 = false := by kernel_rfl
@[go_sem] theorem o28 : tzero Tryz.prog 28 = some [.int .i64 0] := by kernel_rfl
@[go_sem] theorem i28 : (Tryz.prog.info? 28).isSome = true := by kernel_rfl
attribute [go_sem] Tryz.underlying32
@[go_sem] theorem z32 : tsize Tryz.prog 32 = 1 := by kernel_rfl
@[go_sem] theorem k32 : ttag Tryz.prog 32 = some false := by kernel_rfl
@[go_sem] theorem y32 : Tryz.prog.bytesOf 32 = 24 := by kernel_rfl
@[go_sem] theorem s32 : isStr Tryz.prog 32 = false := by kernel_rfl
@[go_sem] theorem j32 : isI32 Tryz.prog 32 = false := by kernel_rfl
@[go_sem] theorem w32 : isU8 Tryz.prog 32 = false := by kernel_rfl
@[go_sem] theorem o32 : tzero Tryz.prog 32 = some [.slice none 0 0] := by kernel_rfl
@[go_sem] theorem i32 : (Tryz.prog.info? 32).isSome = true := by kernel_rfl
attribute [go_sem] Tryz.underlying38
@[go_sem] theorem z38 : tsize Tryz.prog 38 = 1 := by kernel_rfl
@[go_sem] theorem k38 : ttag Tryz.prog 38 = some false := by kernel_rfl
@[go_sem] theorem y38 : Tryz.prog.bytesOf 38 = 24 := by kernel_rfl
@[go_sem] theorem s38 : isStr Tryz.prog 38 = false := by kernel_rfl
@[go_sem] theorem j38 : isI32 Tryz.prog 38 = false := by kernel_rfl
@[go_sem] theorem w38 : isU8 Tryz.prog 38 = false := by kernel_rfl
@[go_sem] theorem o38 : tzero Tryz.prog 38 = some [.slice none 0 0] := by kernel_rfl
@[go_sem] theorem i38 : (Tryz.prog.info? 38).isSome = true := by kernel_rfl
attribute [go_sem] Tryz.underlying43
@[go_sem] theorem z43 : tsize Tryz.prog 43 = 1 := by kernel_rfl
@[go_sem] theorem k43 : ttag Tryz.prog 43 = some false := by kernel_rfl
@[go_sem] theorem y43 : Tryz.prog.bytesOf 43 = 24 := by kernel_rfl
@[go_sem] theorem s43 : isStr Tryz.prog 43 = false := by kernel_rfl
@[go_sem] theorem j43 : isI32 Tryz.prog 43 = false := by kernel_rfl
@[go_sem] theorem w43 : isU8 Tryz.prog 43 = false := by kernel_rfl
@[go_sem] theorem o43 : tzero Tryz.prog 43 = some [.slice none 0 0] := by kernel_rfl
@[go_sem] theorem i43 : (Tryz.prog.info? 43).isSome = true := by kernel_rfl
attribute [go_sem] Tryz.underlying45
@[go_sem] theorem z45 : tsize Tryz.prog 45 = 1 := by kernel_rfl
@[go_sem] theorem k45 : ttag Tryz.prog 45 = some false := by kernel_rfl
@[go_sem] theorem y45 : Tryz.prog.bytesOf 45 = 24 := by kernel_rfl
@[go_sem] theorem s45 : isStr Tryz.prog 45 = false := by kernel_rfl
@[go_sem] theorem j45 : isI32 Tryz.prog 45 = false := by kernel_rfl
@[go_sem] theorem w45 : isU8 Tryz.prog 45 = false := by kernel_rfl
@[go_sem] theorem o45 : tzero Tryz.prog 45 = some [.slice none 0 0] := by kernel_rfl
@[go_sem] theorem i45 : (Tryz.prog.info? 45).isSome = true := by kernel_rfl
attribute [go_sem] Tryz.underlying49
@[go_sem] theorem z49 : tsize Tryz.prog 49 = 1 := by kernel_rfl
@[go_sem] theorem k49 : ttag Tryz.prog 49 = some false := by kernel_rfl
@[go_sem] theorem y49 : Tryz.prog.bytesOf 49 = 24 := by kernel_rfl
@[go_sem] theorem s49 : isStr Tryz.prog 49 = false := by kernel_rfl
@[go_sem] theorem j49 : isI32 Tryz.prog 49 = false := by kernel_rfl
@[go_sem] theorem w49 : isU8 Tryz.prog 49 = false := by kernel_rfl
@[go_sem] theorem o49 : tzero Tryz.prog 49 = some [.slice none 0 0] := by kernel_rfl
@[go_sem] theorem i49 : (Tryz.prog.info? 49).isSome = true := by kernel_rfl
attribute [go_sem] Tryz.underlying51
@[go_sem] theorem z51 : tsize Tryz.prog 51 = 2 := by kernel_rfl
@[go_sem] theorem k51 : ttag Tryz.prog 51 = some true := by kernel_rfl
@[go_sem] theorem y51 : Tryz.prog.bytesOf 51 = 32 := by kernel_rfl
@[go_sem] theorem s51 : isStr Tryz.prog 51 = false := by kernel_rfl
@[go_sem] theorem j51 : isI32 Tryz.prog 51 = false := by kernel_rfl
@[go_sem] theorem w51 : isU8 Tryz.prog 51 = false := by kernel_rfl
@[go_sem] theorem o51 : tzero Tryz.prog 51 = some [.int .i64 0, .slice none 0 0] := by kernel_rfl
@[go_sem] theorem i51 : (Tryz.prog.info? 51).isSome = true := by kernel_rfl
@[go_sem] theorem x51 : structOk Tryz.prog 51 = true := by kernel_rfl
@[go_sem] theorem g51x0 : fieldOff Tryz.prog 51 0 = some (0, 3) := by kernel_rfl
@[go_sem] theorem g51x1 : fieldOff Tryz.prog 51 1 = some (1, 49) := by kernel_rfl
attribute [go_sem] Tryz.underlying53
@[go_sem] theorem z53 : tsize Tryz.prog 53 = 8 := by kernel_rfl
@[go_sem] theorem k53 : ttag Tryz.prog 53 = some true := by kernel_rfl
@[go_sem] theorem y53 : Tryz.prog.bytesOf 53 = 96 := by kernel_rfl
@[go_sem] theorem s53 : isStr Tryz.prog 53 = false := by kernel_rfl
@[go_sem] theorem j53 : isI32 Tryz.prog 53 = false := by kernel_rfl
@[go_sem] theorem w53 : isU8 Tryz.prog 53 = false := by kernel_rfl
@[go_sem] theorem o53 : tzero Tryz.prog 53 = some [.int .i64 0, .string ByteArray.empty, .int .i64 0, .string ByteArray.empty, .bool false, .slice none 0 0, .int .i64 0, .int .i64 0] := by kernel_rfl
@[go_sem] theorem i53 : (Tryz.prog.info? 53).isSome = true := by kernel_rfl
@[go_sem] theorem x53 : structOk Tryz.prog 53 = true := by kernel_rfl
@[go_sem] theorem g53x0 : fieldOff Tryz.prog 53 0 = some (0, 3) := by kernel_rfl
@[go_sem] theorem g53x1 : fieldOff Tryz.prog 53 1 = some (1, 9) := by kernel_rfl
@[go_sem] theorem g53x2 : fieldOff Tryz.prog 53 2 = some (2, 3) := by kernel_rfl
@[go_sem] theorem g53x3 : fieldOff Tryz.prog 53 3 = some (3, 9) := by kernel_rfl
@[go_sem] theorem g53x4 : fieldOff Tryz.prog 53 4 = some (4, 4) := by kernel_rfl
@[go_sem] theorem g53x5 : fieldOff Tryz.prog 53 5 = some (5, 32) := by kernel_rfl
@[go_sem] theorem g53x6 : fieldOff Tryz.prog 53 6 = some (6, 3) := by kernel_rfl
@[go_sem] theorem g53x7 : fieldOff Tryz.prog 53 7 = some (7, 3) := by kernel_rfl
attribute [go_sem] Tryz.underlying62
@[go_sem] theorem z62 : tsize Tryz.prog 62 = 2 := by kernel_rfl
@[go_sem] theorem k62 : ttag Tryz.prog 62 = some true := by kernel_rfl
@[go_sem] theorem y62 : Tryz.prog.bytesOf 62 = 16 := by kernel_rfl
@[go_sem] theorem s62 : isStr Tryz.prog 62 = false := by kernel_rfl
@[go_sem] theorem j62 : isI32 Tryz.prog 62 = false := by kernel_rfl
@[go_sem] theorem w62 : isU8 Tryz.prog 62 = false := by kernel_rfl
@[go_sem] theorem o62 : tzero Tryz.prog 62 = some [.int .i64 0, .int .i64 0] := by kernel_rfl
@[go_sem] theorem i62 : (Tryz.prog.info? 62).isSome = true := by kernel_rfl
@[go_sem] theorem x62 : structOk Tryz.prog 62 = true := by kernel_rfl
@[go_sem] theorem g62x0 : fieldOff Tryz.prog 62 0 = some (0, 2) := by kernel_rfl
@[go_sem] theorem g62x1 : fieldOff Tryz.prog 62 1 = some (1, 2) := by kernel_rfl
attribute [go_sem] Tryz.underlying64
@[go_sem] theorem z64 : tsize Tryz.prog 64 = 6 := by kernel_rfl
@[go_sem] theorem k64 : ttag Tryz.prog 64 = some true := by kernel_rfl
@[go_sem] theorem y64 : Tryz.prog.bytesOf 64 = 48 := by kernel_rfl
@[go_sem] theorem s64 : isStr Tryz.prog 64 = false := by kernel_rfl
@[go_sem] theorem j64 : isI32 Tryz.prog 64 = false := by kernel_rfl
@[go_sem] theorem w64 : isU8 Tryz.prog 64 = false := by kernel_rfl
@[go_sem] theorem o64 : tzero Tryz.prog 64 = some [.int .i64 0, .string ByteArray.empty, .int .i64 0, .int .i64 0, .bool false, .bool false] := by kernel_rfl
@[go_sem] theorem i64 : (Tryz.prog.info? 64).isSome = true := by kernel_rfl
@[go_sem] theorem x64 : structOk Tryz.prog 64 = true := by kernel_rfl
@[go_sem] theorem g64x0 : fieldOff Tryz.prog 64 0 = some (0, 3) := by kernel_rfl
@[go_sem] theorem g64x1 : fieldOff Tryz.prog 64 1 = some (1, 9) := by kernel_rfl
@[go_sem] theorem g64x2 : fieldOff Tryz.prog 64 2 = some (2, 62) := by kernel_rfl
@[go_sem] theorem g64x3 : fieldOff Tryz.prog 64 3 = some (4, 4) := by kernel_rfl
@[go_sem] theorem g64x4 : fieldOff Tryz.prog 64 4 = some (5, 4) := by kernel_rfl
attribute [go_sem] Tryz.underlying66
@[go_sem] theorem z66 : tsize Tryz.prog 66 = 7 := by kernel_rfl
@[go_sem] theorem k66 : ttag Tryz.prog 66 = some true := by kernel_rfl
@[go_sem] theorem y66 : Tryz.prog.bytesOf 66 = 72 := by kernel_rfl
@[go_sem] theorem s66 : isStr Tryz.prog 66 = false := by kernel_rfl
@[go_sem] theorem j66 : isI32 Tryz.prog 66 = false := by kernel_rfl
@[go_sem] theorem w66 : isU8 Tryz.prog 66 = false := by kernel_rfl
@[go_sem] theorem o66 : tzero Tryz.prog 66 = some [.int .i64 0, .string ByteArray.empty, .int .i64 0, .int .i64 0, .bool false, .bool false, .slice none 0 0] := by kernel_rfl
@[go_sem] theorem i66 : (Tryz.prog.info? 66).isSome = true := by kernel_rfl
@[go_sem] theorem x66 : structOk Tryz.prog 66 = true := by kernel_rfl
@[go_sem] theorem g66x0 : fieldOff Tryz.prog 66 0 = some (0, 64) := by kernel_rfl
@[go_sem] theorem g66x1 : fieldOff Tryz.prog 66 1 = some (6, 38) := by kernel_rfl
attribute [go_sem] Tryz.underlying67
@[go_sem] theorem z67 : tsize Tryz.prog 67 = 1 := by kernel_rfl
@[go_sem] theorem k67 : ttag Tryz.prog 67 = some false := by kernel_rfl
@[go_sem] theorem y67 : Tryz.prog.bytesOf 67 = 24 := by kernel_rfl
@[go_sem] theorem s67 : isStr Tryz.prog 67 = false := by kernel_rfl
@[go_sem] theorem j67 : isI32 Tryz.prog 67 = false := by kernel_rfl
@[go_sem] theorem w67 : isU8 Tryz.prog 67 = false := by kernel_rfl
@[go_sem] theorem o67 : tzero Tryz.prog 67 = some [.slice none 0 0] := by kernel_rfl
@[go_sem] theorem i67 : (Tryz.prog.info? 67).isSome = true := by kernel_rfl
attribute [go_sem] Tryz.underlying71
@[go_sem] theorem z71 : tsize Tryz.prog 71 = 7 := by kernel_rfl
@[go_sem] theorem k71 : ttag Tryz.prog 71 = some true := by kernel_rfl
@[go_sem] theorem y71 : Tryz.prog.bytesOf 71 = 72 := by kernel_rfl
@[go_sem] theorem s71 : isStr Tryz.prog 71 = false := by kernel_rfl
@[go_sem] theorem j71 : isI32 Tryz.prog 71 = false := by kernel_rfl
@[go_sem] theorem w71 : isU8 Tryz.prog 71 = false := by kernel_rfl
@[go_sem] theorem o71 : tzero Tryz.prog 71 = some [.int .i64 0, .string ByteArray.empty, .int .i64 0, .int .i64 0, .bool false, .bool false, .slice none 0 0] := by kernel_rfl
@[go_sem] theorem i71 : (Tryz.prog.info? 71).isSome = true := by kernel_rfl
@[go_sem] theorem x71 : structOk Tryz.prog 71 = true := by kernel_rfl
@[go_sem] theorem g71x0 : fieldOff Tryz.prog 71 0 = some (0, 64) := by kernel_rfl
@[go_sem] theorem g71x1 : fieldOff Tryz.prog 71 1 = some (6, 38) := by kernel_rfl
attribute [go_sem] Tryz.underlying73
@[go_sem] theorem z73 : tsize Tryz.prog 73 = 1 := by kernel_rfl
@[go_sem] theorem k73 : ttag Tryz.prog 73 = some false := by kernel_rfl
@[go_sem] theorem y73 : Tryz.prog.bytesOf 73 = 24 := by kernel_rfl
@[go_sem] theorem s73 : isStr Tryz.prog 73 = false := by kernel_rfl
@[go_sem] theorem j73 : isI32 Tryz.prog 73 = false := by kernel_rfl
@[go_sem] theorem w73 : isU8 Tryz.prog 73 = false := by kernel_rfl
@[go_sem] theorem o73 : tzero Tryz.prog 73 = some [.slice none 0 0] := by kernel_rfl
@[go_sem] theorem i73 : (Tryz.prog.info? 73).isSome = true := by kernel_rfl
attribute [go_sem] Tryz.underlying78
@[go_sem] theorem z78 : tsize Tryz.prog 78 = 1 := by kernel_rfl
@[go_sem] theorem k78 : ttag Tryz.prog 78 = some false := by kernel_rfl
@[go_sem] theorem y78 : Tryz.prog.bytesOf 78 = 24 := by kernel_rfl
@[go_sem] theorem s78 : isStr Tryz.prog 78 = false := by kernel_rfl
@[go_sem] theorem j78 : isI32 Tryz.prog 78 = false := by kernel_rfl
@[go_sem] theorem w78 : isU8 Tryz.prog 78 = false := by kernel_rfl
@[go_sem] theorem o78 : tzero Tryz.prog 78 = some [.slice none 0 0] := by kernel_rfl
@[go_sem] theorem i78 : (Tryz.prog.info? 78).isSome = true := by kernel_rfl
attribute [go_sem] Tryz.underlying81
@[go_sem] theorem z81 : tsize Tryz.prog 81 = 2 := by kernel_rfl
@[go_sem] theorem k81 : ttag Tryz.prog 81 = some true := by kernel_rfl
@[go_sem] theorem y81 : Tryz.prog.bytesOf 81 = 32 := by kernel_rfl
@[go_sem] theorem s81 : isStr Tryz.prog 81 = false := by kernel_rfl
@[go_sem] theorem j81 : isI32 Tryz.prog 81 = false := by kernel_rfl
@[go_sem] theorem w81 : isU8 Tryz.prog 81 = false := by kernel_rfl
@[go_sem] theorem o81 : tzero Tryz.prog 81 = some [.slice none 0 0, .int .i64 0] := by kernel_rfl
@[go_sem] theorem i81 : (Tryz.prog.info? 81).isSome = true := by kernel_rfl
@[go_sem] theorem x81 : structOk Tryz.prog 81 = true := by kernel_rfl
@[go_sem] theorem g81x0 : fieldOff Tryz.prog 81 0 = some (0, 38) := by kernel_rfl
@[go_sem] theorem g81x1 : fieldOff Tryz.prog 81 1 = some (1, 3) := by kernel_rfl
attribute [go_sem] Tryz.underlying85
@[go_sem] theorem z85 : tsize Tryz.prog 85 = 1 := by kernel_rfl
@[go_sem] theorem k85 : ttag Tryz.prog 85 = some false := by kernel_rfl
@[go_sem] theorem y85 : Tryz.prog.bytesOf 85 = 8 := by kernel_rfl
@[go_sem] theorem s85 : isStr Tryz.prog 85 = false := by kernel_rfl
@[go_sem] theorem j85 : isI32 Tryz.prog 85 = false := by kernel_rfl
@[go_sem] theorem w85 : isU8 Tryz.prog 85 = false := by kernel_rfl
@[go_sem] theorem i85 : (Tryz.prog.info? 85).isSome = true := by kernel_rfl
attribute [go_sem] Tryz.underlying87
@[go_sem] theorem z87 : tsize Tryz.prog 87 = 2 := by kernel_rfl
@[go_sem] theorem k87 : ttag Tryz.prog 87 = some true := by kernel_rfl
@[go_sem] theorem y87 : Tryz.prog.bytesOf 87 = 32 := by kernel_rfl
@[go_sem] theorem s87 : isStr Tryz.prog 87 = false := by kernel_rfl
@[go_sem] theorem j87 : isI32 Tryz.prog 87 = false := by kernel_rfl
@[go_sem] theorem w87 : isU8 Tryz.prog 87 = false := by kernel_rfl
@[go_sem] theorem o87 : tzero Tryz.prog 87 = some [.slice none 0 0, .int .i64 0] := by kernel_rfl
@[go_sem] theorem i87 : (Tryz.prog.info? 87).isSome = true := by kernel_rfl
@[go_sem] theorem x87 : structOk Tryz.prog 87 = true := by kernel_rfl
@[go_sem] theorem g87x0 : fieldOff Tryz.prog 87 0 = some (0, 73) := by kernel_rfl
@[go_sem] theorem g87x1 : fieldOff Tryz.prog 87 1 = some (1, 3) := by kernel_rfl
attribute [go_sem] Tryz.underlying92
@[go_sem] theorem z92 : tsize Tryz.prog 92 = 1 := by kernel_rfl
@[go_sem] theorem k92 : ttag Tryz.prog 92 = some false := by kernel_rfl
@[go_sem] theorem y92 : Tryz.prog.bytesOf 92 = 8 := by kernel_rfl
@[go_sem] theorem s92 : isStr Tryz.prog 92 = false := by kernel_rfl
@[go_sem] theorem j92 : isI32 Tryz.prog 92 = false := by kernel_rfl
@[go_sem] theorem w92 : isU8 Tryz.prog 92 = false := by kernel_rfl
@[go_sem] theorem i92 : (Tryz.prog.info? 92).isSome = true := by kernel_rfl
attribute [go_sem] Tryz.underlying94
@[go_sem] theorem z94 : tsize Tryz.prog 94 = 1 := by kernel_rfl
@[go_sem] theorem k94 : ttag Tryz.prog 94 = some false := by kernel_rfl
@[go_sem] theorem y94 : Tryz.prog.bytesOf 94 = 8 := by kernel_rfl
@[go_sem] theorem s94 : isStr Tryz.prog 94 = false := by kernel_rfl
@[go_sem] theorem j94 : isI32 Tryz.prog 94 = false := by kernel_rfl
@[go_sem] theorem w94 : isU8 Tryz.prog 94 = false := by kernel_rfl
@[go_sem] theorem i94 : (Tryz.prog.info? 94).isSome = true := by kernel_rfl
attribute [go_sem] Tryz.underlying99
@[go_sem] theorem z99 : tsize Tryz.prog 99 = 9 := by kernel_rfl
@[go_sem] theorem k99 : ttag Tryz.prog 99 = some true := by kernel_rfl
@[go_sem] theorem y99 : Tryz.prog.bytesOf 99 = 72 := by kernel_rfl
@[go_sem] theorem s99 : isStr Tryz.prog 99 = false := by kernel_rfl
@[go_sem] theorem j99 : isI32 Tryz.prog 99 = false := by kernel_rfl
@[go_sem] theorem w99 : isU8 Tryz.prog 99 = false := by kernel_rfl
@[go_sem] theorem o99 : tzero Tryz.prog 99 = some [.int .i64 0, .int .i64 0, .int .i64 0, .int .i64 0, .int .i64 0, .int .i64 0, .int .i64 0, .int .i64 0, .int .i64 0] := by kernel_rfl
@[go_sem] theorem i99 : (Tryz.prog.info? 99).isSome = true := by kernel_rfl
attribute [go_sem] Tryz.underlying124
@[go_sem] theorem z124 : tsize Tryz.prog 124 = 1 := by kernel_rfl
@[go_sem] theorem k124 : ttag Tryz.prog 124 = some false := by kernel_rfl
@[go_sem] theorem y124 : Tryz.prog.bytesOf 124 = 8 := by kernel_rfl
@[go_sem] theorem s124 : isStr Tryz.prog 124 = false := by kernel_rfl
@[go_sem] theorem j124 : isI32 Tryz.prog 124 = false := by kernel_rfl
@[go_sem] theorem w124 : isU8 Tryz.prog 124 = false := by kernel_rfl
@[go_sem] theorem o124 : tzero Tryz.prog 124 = some [.int .u64 0] := by kernel_rfl
@[go_sem] theorem i124 : (Tryz.prog.info? 124).isSome = true := by kernel_rfl
attribute [go_sem] Tryz.underlying137
@[go_sem] theorem z137 : tsize Tryz.prog 137 = 1 := by kernel_rfl
@[go_sem] theorem k137 : ttag Tryz.prog 137 = some false := by kernel_rfl
@[go_sem] theorem y137 : Tryz.prog.bytesOf 137 = 8 := by kernel_rfl
@[go_sem] theorem s137 : isStr Tryz.prog 137 = false := by kernel_rfl
@[go_sem] theorem j137 : isI32 Tryz.prog 137 = false := by kernel_rfl
@[go_sem] theorem w137 : isU8 Tryz.prog 137 = false := by kernel_rfl
@[go_sem] theorem i137 : (Tryz.prog.info? 137).isSome = true := by kernel_rfl
attribute [go_sem] Tryz.underlying145
@[go_sem] theorem z145 : tsize Tryz.prog 145 = 1 := by kernel_rfl
@[go_sem] theorem k145 : ttag Tryz.prog 145 = some false := by kernel_rfl
@[go_sem] theorem y145 : Tryz.prog.bytesOf 145 = 8 := by kernel_rfl
@[go_sem] theorem s145 : isStr Tryz.prog 145 = false := by kernel_rfl
@[go_sem] theorem j145 : isI32 Tryz.prog 145 = false := by kernel_rfl
@[go_sem] theorem w145 : isU8 Tryz.prog 145 = false := by kernel_rfl
@[go_sem] theorem o145 : tzero Tryz.prog 145 = some [.int .u64 0] := by kernel_rfl
@[go_sem] theorem i145 : (Tryz.prog.info? 145).isSome = true := by kernel_rfl
@[go_sem] def h3a : Nat -> Option (List Nat) := (fun id => match id with | 0 => some [3, 4, 5, 6] | 1 => some [3, 4, 5, 6, 9, 10] | 2 => some [3, 4, 5, 6, 9, 10, 22] | 3 => some [3, 5, 6, 29] | 4 => some [8] | 5 => some [3, 5, 6, 37] | 6 => some [8] | 7 => some [3, 5, 6, 11] | 8 => some [3, 5, 6, 11, 39, 40, 41] | 9 => some [3, 5, 6, 11, 39, 40, 41, 42] | 10 => some [3, 5, 6, 11, 12, 13, 39, 40, 41] | 11 => some [3, 5, 6, 11, 13, 39, 40, 41, 52] | 12 => some [3, 5, 6, 11, 13, 39, 40, 41, 52] | 13 => some [3, 5, 6, 11, 39, 40, 41] | 14 => some [8] | _ => none)
def h3 : Hint := ⟨h3a, (fun id => match id with | 13 => some 5 | _ => none), (fun id => match id with | 5 => some 8 | 14 => some 16 | _ => none), [], false, (fun _ => none), fun _ => 0, 0, false, (fun _ => none)⟩
@[go_sem] theorem h3e : h3.late = (fun _ => none) := rfl
@[go_sem] theorem h3x : h3.mix = (fun _ => none) := rfl
@[go_sem] theorem h3l : h3.live = h3a := rfl
@[go_sem] theorem h3o : h3.mode = fun _ => 0 := rfl
@[go_sem] theorem h3k : h3.keep = (fun id => match id with | 13 => some 5 | _ => none) := rfl
@[go_sem] theorem h3t : h3.tail = (fun id => match id with | 5 => some 8 | 14 => some 16 | _ => none) := rfl
@[go_sem] theorem h3v : h3.vars = [] := rfl
@[go_sem] theorem h3m : h3.mutc = false := rfl
def HQ (a : Nat -> Option (List Nat)) : Hint := ⟨a, (fun _ => none), (fun _ => none), [], false, (fun _ => none), fun _ => 0, 0, false, (fun _ => none)⟩
@[go_sem] theorem HQe (a : Nat -> Option (List Nat)) : (HQ a).late = (fun _ => none) := rfl
@[go_sem] theorem HQx (a : Nat -> Option (List Nat)) : (HQ a).mix = (fun _ => none) := rfl
@[go_sem] theorem HQl (a : Nat -> Option (List Nat)) : (HQ a).live = a := rfl
@[go_sem] theorem HQo (a : Nat -> Option (List Nat)) : (HQ a).mode = fun _ => 0 := rfl
@[go_sem] theorem HQk (a : Nat -> Option (List Nat)) : (HQ a).keep = (fun _ => none) := rfl
@[go_sem] theorem HQt (a : Nat -> Option (List Nat)) : (HQ a).tail = (fun _ => none) := rfl
@[go_sem] theorem HQv (a : Nat -> Option (List Nat)) : (HQ a).vars = [] := rfl
@[go_sem] theorem HQm (a : Nat -> Option (List Nat)) : (HQ a).mutc = false := rfl
@[go_sem] def h6a : Nat -> Option (List Nat) := (fun id => match id with | 0 => some [1, 2] | 1 => some [1, 2, 7] | 2 => some [2, 3] | 3 => some [2, 3] | _ => none)
abbrev h6 : Hint := HQ h6a
@[go_sem] def h7a : Nat -> Option (List Nat) := (fun id => match id with | 0 => some [0] | 1 => some [2] | _ => none)
abbrev h7 : Hint := HQ h7a
@[go_sem] def h8a : Nat -> Option (List Nat) := (fun id => match id with | 0 => some [1, 2] | 1 => some [1, 2, 3] | 2 => some [2, 3, 15, 16, 17] | 3 => some [2, 3, 15, 16, 17, 18] | 4 => some [2, 3, 5, 15, 16, 17] | 5 => some [2, 3, 15, 16, 17, 22, 23, 24] | 6 => some [2, 3, 15, 16, 17, 22, 23, 24, 25] | 7 => some [2, 3, 7, 15, 16, 17, 22, 23, 24] | 8 => some [2, 3, 7, 8, 15, 16, 17, 22, 23, 24] | 9 => some [2, 3, 7, 8, 15, 16, 17, 22, 23, 24, 30] | 10 => some [2, 3, 7, 8, 15, 16, 17, 22, 23, 24, 30, 32] | 11 => some [2, 3, 7, 8, 15, 16, 17, 22, 23, 24, 30, 32] | 12 => some [2, 3, 7, 8, 15, 16, 17, 22, 23, 24, 30, 32] | 13 => some [2, 3, 7, 8, 15, 16, 17, 22, 23, 24, 30, 35] | 14 => some [2, 3, 7, 8, 15, 16, 17, 22, 23, 24, 30, 32] | 15 => some [2, 3, 7, 8, 15, 16, 17, 22, 23, 24, 30, 38] | 16 => some [2, 3, 7, 8, 15, 16, 17, 22, 23, 24, 30, 38] | 17 => some [2, 3, 7, 8, 15, 16, 17, 22, 23, 24, 30, 41] | 18 => some [2, 3, 7, 8, 15, 16, 17, 22, 23, 24, 30, 41] | 19 => some [2, 3, 8, 15, 16, 17, 22, 23, 24, 45, 46, 47] | 20 => some [2, 3, 8, 15, 16, 17, 22, 23, 24, 45, 46, 47, 48] | 21 => some [2, 3, 8, 10, 15, 16, 17, 22, 23, 24, 45, 46, 47] | 22 => some [2, 3, 8, 11, 15, 16, 17, 22, 23, 24, 45, 46, 47] | 23 => some [2, 3, 8, 11, 15, 16, 17, 22, 23, 24, 45, 46, 47, 55] | 24 => some [2, 3, 8, 11, 15, 16, 17, 22, 23, 24, 45, 46, 47, 55] | 25 => some [2, 3, 8, 15, 16, 17, 22, 23, 24, 45, 46, 47] | 26 => some [2, 3, 8, 15, 16, 17, 22, 23, 24, 58] | 27 => some [2, 3, 8, 15, 16, 17, 22, 23, 24, 58, 59] | 28 => some [2, 3, 8, 12, 15, 16, 17, 22, 23, 24, 58] | 29 => some [2, 3, 8, 15, 16, 17, 22, 23, 24, 58] | 30 => some [2, 3, 8, 15, 16, 17, 22, 23, 24, 58] | 31 => some [2, 3, 15, 16, 17, 22, 23, 24] | 32 => some [2, 3, 15, 16, 17] | 33 => some [2] | _ => none)
def h8 : Hint := ⟨h8a, (fun id => match id with | 5 => some 3 | 25 => some 5 | 31 => some 3 | _ => none), (fun id => match id with | 29 => some 8 | _ => none), [], false, (fun _ => none), fun _ => 0, 0, false, (fun _ => none)⟩
@[go_sem] theorem h8e : h8.late = (fun _ => none) := rfl
@[go_sem] theorem h8x : h8.mix = (fun _ => none) := rfl
@[go_sem] theorem h8l : h8.live = h8a := rfl
@[go_sem] theorem h8o : h8.mode = fun _ => 0 := rfl
@[go_sem] theorem h8k : h8.keep = (fun id => match id with | 5 => some 3 | 25 => some 5 | 31 => some 3 | _ => none) := rfl
@[go_sem] theorem h8t : h8.tail = (fun id => match id with | 29 => some 8 | _ => none) := rfl
@[go_sem] theorem h8v : h8.vars = [] := rfl
@[go_sem] theorem h8m : h8.mutc = false := rfl
@[go_sem] def h9a : Nat -> Option (List Nat) := (fun id => match id with | 0 => some [2, 3] | 1 => some [2, 3, 6] | 2 => some [2, 3, 6, 7] | 3 => some [2, 3, 5, 6] | 4 => some [2, 3, 5, 6, 15] | 5 => some [4] | 6 => some [2, 3, 6] | 7 => some [4] | _ => none)
def h9 : Hint := ⟨h9a, (fun _ => none), (fun id => match id with | 4 => some 7 | 5 => some 7 | _ => none), [], false, (fun _ => none), fun _ => 0, 0, false, (fun _ => none)⟩
@[go_sem] theorem h9e : h9.late = (fun _ => none) := rfl
@[go_sem] theorem h9x : h9.mix = (fun _ => none) := rfl
@[go_sem] theorem h9l : h9.live = h9a := rfl
@[go_sem] theorem h9o : h9.mode = fun _ => 0 := rfl
@[go_sem] theorem h9k : h9.keep = (fun _ => none) := rfl
@[go_sem] theorem h9t : h9.tail = (fun id => match id with | 4 => some 7 | 5 => some 7 | _ => none) := rfl
@[go_sem] theorem h9v : h9.vars = [] := rfl
@[go_sem] theorem h9m : h9.mutc = false := rfl
@[go_sem] def h10a : Nat -> Option (List Nat) := (fun id => match id with | 0 => some [2, 3] | 1 => some [2, 3, 8] | 2 => some [4] | 3 => some [2, 3, 9] | 4 => some [2, 3, 9, 10] | 5 => some [2, 3, 5, 9] | 6 => some [2, 3, 5, 9, 18] | 7 => some [4] | 8 => some [2, 3, 9] | 9 => some [4] | _ => none)
def h10 : Hint := ⟨h10a, (fun _ => none), (fun id => match id with | 6 => some 7 | 7 => some 7 | _ => none), [], false, (fun _ => none), fun _ => 0, 0, false, (fun _ => none)⟩
@[go_sem] theorem h10e : h10.late = (fun _ => none) := rfl
@[go_sem] theorem h10x : h10.mix = (fun _ => none) := rfl
@[go_sem] theorem h10l : h10.live = h10a := rfl
@[go_sem] theorem h10o : h10.mode = fun _ => 0 := rfl
@[go_sem] theorem h10k : h10.keep = (fun _ => none) := rfl
@[go_sem] theorem h10t : h10.tail = (fun id => match id with | 6 => some 7 | 7 => some 7 | _ => none) := rfl
@[go_sem] theorem h10v : h10.vars = [] := rfl
@[go_sem] theorem h10m : h10.mutc = false := rfl
@[go_sem] def h11a : Nat -> Option (List Nat) := (fun id => match id with | 0 => some [0, 2] | 1 => some [0, 2, 3] | 2 => some [2, 3, 6, 7, 8] | 3 => some [2, 3, 6, 7, 8, 9] | 4 => some [2, 3, 4, 5, 6, 7, 8] | 5 => some [2, 3, 5, 6, 7, 8, 19] | 6 => some [2, 3, 5, 6, 7, 8, 19] | 7 => some [2, 3, 6, 7, 8] | 8 => some [2] | _ => none)
def h11 : Hint := ⟨h11a, (fun id => match id with | 7 => some 2 | _ => none), (fun _ => none), [], false, (fun _ => none), fun _ => 0, 0, false, (fun _ => none)⟩
@[go_sem] theorem h11x : h11.mix = (fun _ => none) := rfl
@[go_sem] theorem h11l : h11.live = h11a := rfl
@[go_sem] theorem h11o : h11.mode = fun _ => 0 := rfl
@[go_sem] theorem h11k : h11.keep = (fun id => match id with | 7 => some 2 | _ => none) := rfl
@[go_sem] theorem h11t : h11.tail = (fun _ => none) := rfl
@[go_sem] theorem h11v : h11.vars = [] := rfl
@[go_sem] theorem h11m : h11.mutc = false := rfl
@[go_sem] def h12a : Nat -> Option (List Nat) := (fun id => match id with | 0 => some [] | 1 => some [1, 2] | 2 => some [0] | _ => none)
abbrev h12 : Hint := HQ h12a
@[go_sem] def h13a : Nat -> Option (List Nat) := (fun id => match id with | 0 => some [0] | 1 => some [0, 8] | 2 => some [2, 3] | 3 => some [4, 5] | 4 => some [4, 20] | 5 => some [2, 3] | 6 => some [2, 3] | _ => none)
abbrev h13 : Hint := HQ h13a
@[go_sem] def h16a : Nat -> Option (List Nat) := (fun id => match id with | 0 => some [0] | 1 => some [0, 3] | 2 => some [3, 9, 10, 11] | 3 => some [3, 9, 10, 11, 12] | 4 => some [3, 5, 9, 10, 11] | 5 => some [3, 5, 6, 9, 10, 11] | 6 => some [3, 5, 6, 9, 10, 11, 31] | 7 => some [3, 9, 10, 11] | 8 => some [3, 5, 6, 9, 10, 11, 37] | 9 => some [3, 9, 10, 11] | 10 => some [3, 9, 10, 11] | 11 => some [3, 9, 10, 11] | 12 => some [3, 59] | 13 => some [3, 9, 10, 11] | 14 => some [2] | _ => none)
@[go_sem] def h16M : Nat -> Option Mix := (fun id => match id with | 10 => some ⟨[0, 1, 2, 3, 4, 5, 6, 7, 8], [], .head 0 (.head 1 (.head 2 (.head 3 (.head 4 (.head 5 (.head 6 (.head 7 (.head 8 (.two 9)))))))))⟩ | _ => none)
def h16 : Hint := ⟨h16a, (fun id => match id with | 11 => some 1 | _ => none), (fun id => match id with | 6 => some 14 | 10 => some 8 | _ => none), [3], false, h16M, (fun d => match d with | some 8 => 1 | some 41 => 2 | some 42 => 1 | _ => 0), 0, false, (fun _ => none)⟩
@[go_sem] theorem h16e : h16.late = (fun _ => none) := rfl
@[go_sem] theorem h16x : h16.mix = h16M := rfl
@[go_sem] theorem h16l : h16.live = h16a := rfl
@[go_sem] theorem h16o : h16.mode = (fun d => match d with | some 8 => 1 | some 41 => 2 | some 42 => 1 | _ => 0) := rfl
@[go_sem] theorem h16k : h16.keep = (fun id => match id with | 11 => some 1 | _ => none) := rfl
@[go_sem] theorem h16t : h16.tail = (fun id => match id with | 6 => some 14 | 10 => some 8 | _ => none) := rfl
@[go_sem] theorem h16v : h16.vars = [3] := rfl
@[go_sem] theorem h16m : h16.mutc = false := rfl
@[go_sem] def h17a : Nat -> Option (List Nat) := (fun id => match id with | 0 => some [0] | 1 => some [2] | _ => none)
abbrev h17 : Hint := HQ h17a
@[go_sem] def h18a : Nat -> Option (List Nat) := (fun id => match id with | 0 => some [0] | 1 => some [2] | _ => none)
abbrev h18 : Hint := HQ h18a
@[go_sem] def h19a : Nat -> Option (List Nat) := (fun id => match id with | 0 => some [1, 2] | 1 => some [1, 2, 3] | 2 => some [2, 3, 11, 12, 13] | 3 => some [2, 3, 11, 12, 13, 14] | 4 => some [2, 3, 5, 11, 12, 13] | 5 => some [2, 3, 11, 12, 13, 18, 19, 20] | 6 => some [2, 3, 11, 12, 13, 18, 19, 20, 21] | 7 => some [2, 3, 7, 11, 12, 13, 18, 19, 20] | 8 => some [2, 3, 8, 11, 12, 13, 18, 19, 20] | 9 => some [2, 3, 8, 11, 12, 13, 18, 19, 20, 26] | 10 => some [2, 3, 8, 11, 12, 13, 18, 19, 20, 26, 27] | 11 => some [2, 3, 8, 9, 11, 12, 13, 18, 19, 20, 26] | 12 => some [2, 3, 8, 11, 12, 13, 18, 19, 20, 26] | 13 => some [2, 3, 8, 11, 12, 13, 18, 19, 20, 26] | 14 => some [2, 3, 11, 12, 13, 18, 19, 20] | 15 => some [2, 3, 11, 12, 13] | 16 => some [2] | _ => none)
def h19 : Hint := ⟨h19a, (fun id => match id with | 5 => some 3 | 14 => some 3 | _ => none), (fun id => match id with | 12 => some 8 | _ => none), [], false, (fun _ => none), fun _ => 0, 0, false, (fun _ => none)⟩
@[go_sem] theorem h19e : h19.late = (fun _ => none) := rfl
@[go_sem] theorem h19x : h19.mix = (fun _ => none) := rfl
@[go_sem] theorem h19l : h19.live = h19a := rfl
@[go_sem] theorem h19o : h19.mode = fun _ => 0 := rfl
@[go_sem] theorem h19k : h19.keep = (fun id => match id with | 5 => some 3 | 14 => some 3 | _ => none) := rfl
@[go_sem] theorem h19t : h19.tail = (fun id => match id with | 12 => some 8 | _ => none) := rfl
@[go_sem] theorem h19v : h19.vars = [] := rfl
@[go_sem] theorem h19m : h19.mutc = false := rfl
@[go_sem] def h20a : Nat -> Option (List Nat) := (fun id => match id with | 0 => some [0, 1] | 1 => some [0, 1, 17] | 2 => some [4] | 3 => some [1, 18, 19, 20] | 4 => some [1, 18, 19, 20, 21] | 5 => some [1, 6, 18, 19, 20] | 6 => some [1, 6, 18, 19, 20, 27] | 7 => some [4] | 8 => some [1, 18, 19, 20, 29, 30, 31] | 9 => some [1, 18, 19, 20, 29, 30, 31, 32] | 10 => some [1, 7, 8, 18, 19, 20, 29, 30, 31] | 11 => some [1, 8, 18, 19, 20, 29, 30, 31, 62] | 12 => some [4] | 13 => some [1, 18, 19, 20, 29, 30, 31, 64, 65, 66] | 14 => some [1, 18, 19, 20, 29, 30, 31, 64, 65, 66, 67] | 15 => some [1, 9, 10, 18, 19, 20, 29, 30, 31, 64, 65, 66] | 16 => some [1, 18, 19, 20, 29, 30, 31, 64, 65, 66, 88] | 17 => some [4] | 18 => some [1, 18, 19, 20, 29, 30, 31, 64, 65, 66] | 19 => some [1, 18, 19, 20, 29, 30, 31] | 20 => some [1, 18, 19, 20] | 21 => some [4] | _ => none)
def h20 : Hint := ⟨h20a, (fun id => match id with | 7 => some 0 | 8 => some 0 | 12 => some 0 | 13 => some 0 | 16 => some 0 | _ => none), (fun _ => none), [], false, (fun _ => none), fun _ => 0, 0, false, (fun _ => none)⟩
@[go_sem] theorem h20x : h20.mix = (fun _ => none) := rfl
@[go_sem] theorem h20l : h20.live = h20a := rfl
@[go_sem] theorem h20o : h20.mode = fun _ => 0 := rfl
@[go_sem] theorem h20k : h20.keep = (fun id => match id with | 7 => some 0 | 8 => some 0 | 12 => some 0 | 13 => some 0 | 16 => some 0 | _ => none) := rfl
@[go_sem] theorem h20t : h20.tail = (fun _ => none) := rfl
@[go_sem] theorem h20v : h20.vars = [] := rfl
@[go_sem] theorem h20m : h20.mutc = false := rfl
@[go_sem] def h21a : Nat -> Option (List Nat) := (fun id => match id with | 0 => some [0] | 1 => some [2] | _ => none)
abbrev h21 : Hint := HQ h21a
@[go_sem] def h22a : Nat -> Option (List Nat) := (fun id => match id with | 0 => some [0] | 1 => some [2] | _ => none)
abbrev h22 : Hint := HQ h22a
@[go_sem] def h23a : Nat -> Option (List Nat) := (fun id => match id with | 0 => some [0] | 1 => some [0, 4] | 2 => some [4, 11, 12, 13] | 3 => some [4, 11, 12, 13, 14] | 4 => some [4, 6, 11, 12, 13] | 5 => some [4, 7, 11, 12, 13] | 6 => some [4, 8, 9, 11, 12, 13] | 7 => some [4, 8, 11, 12, 13, 24] | 8 => some [2, 3] | 9 => some [4, 11, 12, 13] | 10 => some [4, 11, 12, 13] | 11 => some [2, 3] | _ => none)
def h23 : Hint := ⟨h23a, (fun _ => none), (fun _ => none), [4], false, (fun _ => none), fun _ => 0, 0, false, (fun _ => none)⟩
@[go_sem] theorem h23x : h23.mix = (fun _ => none) := rfl
@[go_sem] theorem h23l : h23.live = h23a := rfl
@[go_sem] theorem h23o : h23.mode = fun _ => 0 := rfl
@[go_sem] theorem h23k : h23.keep = (fun _ => none) := rfl
@[go_sem] theorem h23t : h23.tail = (fun _ => none) := rfl
@[go_sem] theorem h23v : h23.vars = [4] := rfl
@[go_sem] theorem h23m : h23.mutc = false := rfl
@[go_sem] def h26a : Nat -> Option (List Nat) := (fun id => match id with | 0 => some [0] | 1 => some [3] | 2 => some [3, 4] | 3 => some [3, 4] | 4 => some [2] | 5 => some [3, 7] | 6 => some [2] | 7 => some [9] | 8 => some [2] | 9 => some [2] | _ => none)
abbrev h26 : Hint := HQ h26a
@[go_sem] def h27a : Nat -> Option (List Nat) := (fun id => match id with | 0 => some [0] | 1 => some [0, 3] | 2 => some [0, 3, 4] | 3 => some [0, 3, 4] | 4 => some [0, 3, 4, 16] | 5 => some [0, 30, 31, 33] | 6 => some [0] | 7 => some [0] | 8 => some [2] | _ => none)
@[go_sem] def h27M : Nat -> Option Mix := (fun id => match id with | 4 => some ⟨[3], [], .one 0 (.alt (.one 1 (.one 2 (.head 3 (.fin)))) (.one 2 (.one 1 (.head 3 (.fin)))))⟩ | 7 => some ⟨[0, 1, 2, 3, 4, 5, 6, 7, 8, 9, 10, 11, 12, 13, 14, 16, 17], [], .head 3 (.head 4 (.head 5 (.head 6 (.head 7 (.head 8 (.head 9 (.head 10 (.head 11 (.head 12 (.head 13 (.head 14 (.alt (.one 0 (.alt (.one 1 (.alt (.one 2 (.one 15 (.head 16 (.head 17 (.one 18 (.fin)))))) (.one 15 (.head 2 (.head 16 (.head 17 (.one 18 (.fin)))))))) (.one 15 (.head 1 (.head 2 (.head 16 (.head 17 (.one 18 (.fin))))))))) (.alt (.one 1 (.alt (.one 0 (.alt (.one 2 (.one 15 (.head 16 (.head 17 (.one 18 (.fin)))))) (.one 15 (.head 2 (.head 16 (.head 17 (.one 18 (.fin)))))))) (.alt (.one 2 (.alt (.one 0 (.one 15 (.head 16 (.head 17 (.one 18 (.fin)))))) (.one 15 (.head 0 (.head 16 (.head 17 (.one 18 (.fin)))))))) (.one 15 (.head 0 (.head 2 (.head 16 (.head 17 (.one 18 (.fin)))))))))) (.one 15 (.head 0 (.head 1 (.head 2 (.head 16 (.head 17 (.one 18 (.fin)))))))))))))))))))))⟩ | _ => none)
def h27 : Hint := ⟨h27a, (fun id => match id with | 4 => some 1001 | _ => none), (fun id => match id with | 4 => some 0 | 5 => some 16 | 7 => some 14 | _ => none), [], false, h27M, fun _ => 0, 0, false, (fun id => match id with | 5 => some 0 | _ => none)⟩
@[go_sem] theorem h27e : h27.late = (fun id => match id with | 5 => some 0 | _ => none) := rfl
@[go_sem] theorem h27x : h27.mix = h27M := rfl
@[go_sem] theorem h27l : h27.live = h27a := rfl
@[go_sem] theorem h27o : h27.mode = fun _ => 0 := rfl
@[go_sem] theorem h27k : h27.keep = (fun id => match id with | 4 => some 1001 | _ => none) := rfl
@[go_sem] theorem h27t : h27.tail = (fun id => match id with | 4 => some 0 | 5 => some 16 | 7 => some 14 | _ => none) := rfl
@[go_sem] theorem h27v : h27.vars = [] := rfl
@[go_sem] theorem h27m : h27.mutc = false := rfl
@[go_sem] def h28a : Nat -> Option (List Nat) := (fun id => match id with | 0 => some [0] | 1 => some [0, 3] | 2 => some [3, 4] | 3 => some [3, 4] | 4 => some [3, 4, 12] | 5 => some [2] | 6 => some [3, 4] | _ => none)
def h28 : Hint := ⟨h28a, (fun _ => none), (fun _ => none), [3], false, (fun _ => none), fun _ => 0, 0, false, (fun _ => none)⟩
@[go_sem] theorem h28x : h28.mix = (fun _ => none) := rfl
@[go_sem] theorem h28l : h28.live = h28a := rfl
@[go_sem] theorem h28o : h28.mode = fun _ => 0 := rfl
@[go_sem] theorem h28k : h28.keep = (fun _ => none) := rfl
@[go_sem] theorem h28t : h28.tail = (fun _ => none) := rfl
@[go_sem] theorem h28v : h28.vars = [3] := rfl
@[go_sem] theorem h28m : h28.mutc = false := rfl
@[go_sem] def h29a : Nat -> Option (List Nat) := (fun id => match id with | 0 => some [0] | 1 => some [0, 28] | 2 => some [0, 28] | 3 => some [0, 3] | 4 => some [0, 3, 4] | 5 => some [3, 4, 32, 33, 34] | 6 => some [3, 4, 32, 33, 34, 35] | 7 => some [3, 4, 6, 32, 33, 34] | 8 => some [3, 4, 6, 7, 32, 33, 34] | 9 => some [3, 4, 6, 7, 32, 33, 34, 39] | 10 => some [3, 4, 6, 7, 32, 33, 34, 39, 40] | 11 => some [3, 4, 6, 7, 32, 33, 34, 39, 40] | 12 => some [3, 4, 6, 7, 32, 33, 34, 39, 40] | 13 => some [3, 4, 6, 7, 32, 33, 34, 43] | 14 => some [3, 4, 6, 7, 32, 33, 34, 39, 40] | 15 => some [3, 6, 7, 32, 33, 34, 50] | 16 => some [3, 6, 7, 32, 33, 34, 50] | 17 => some [3, 4, 32, 33, 34] | 18 => some [3, 4, 32, 33, 34] | 19 => some [2] | _ => none)
def h29 : Hint := ⟨h29a, (fun _ => none), (fun _ => none), [3], false, (fun _ => none), fun _ => 0, 0, false, (fun _ => none)⟩
@[go_sem] theorem h29x : h29.mix = (fun _ => none) := rfl
@[go_sem] theorem h29l : h29.live = h29a := rfl
@[go_sem] theorem h29o : h29.mode = fun _ => 0 := rfl
@[go_sem] theorem h29k : h29.keep = (fun _ => none) := rfl
@[go_sem] theorem h29t : h29.tail = (fun _ => none) := rfl
@[go_sem] theorem h29v : h29.vars = [3] := rfl
@[go_sem] theorem h29m : h29.mutc = false := rfl
@[go_sem] def h30a : Nat -> Option (List Nat) := (fun id => match id with | 0 => some [0, 1] | 1 => some [0, 1, 17] | 2 => some [4] | 3 => some [1, 18, 19, 20] | 4 => some [1, 18, 19, 20, 21] | 5 => some [1, 6, 18, 19, 20] | 6 => some [1, 6, 18, 19, 20, 27] | 7 => some [4] | 8 => some [1, 18, 19, 20, 29, 30, 31] | 9 => some [1, 18, 19, 20, 29, 30, 31, 32] | 10 => some [1, 7, 8, 18, 19, 20, 29, 30, 31] | 11 => some [1, 8, 18, 19, 20, 29, 30, 31, 57] | 12 => some [4] | 13 => some [1, 18, 19, 20, 29, 30, 31, 59, 60, 61] | 14 => some [1, 18, 19, 20, 29, 30, 31, 59, 60, 61, 62] | 15 => some [1, 9, 10, 18, 19, 20, 29, 30, 31, 59, 60, 61] | 16 => some [1, 18, 19, 20, 29, 30, 31, 59, 60, 61, 78] | 17 => some [4] | 18 => some [1, 18, 19, 20, 29, 30, 31, 59, 60, 61] | 19 => some [1, 18, 19, 20, 29, 30, 31] | 20 => some [1, 18, 19, 20] | 21 => some [4] | _ => none)
def h30 : Hint := ⟨h30a, (fun id => match id with | 7 => some 0 | 8 => some 0 | 12 => some 0 | 13 => some 0 | 16 => some 0 | _ => none), (fun _ => none), [], false, (fun _ => none), fun _ => 0, 0, false, (fun _ => none)⟩
@[go_sem] theorem h30x : h30.mix = (fun _ => none) := rfl
@[go_sem] theorem h30l : h30.live = h30a := rfl
@[go_sem] theorem h30o : h30.mode = fun _ => 0 := rfl
@[go_sem] theorem h30k : h30.keep = (fun id => match id with | 7 => some 0 | 8 => some 0 | 12 => some 0 | 13 => some 0 | 16 => some 0 | _ => none) := rfl
@[go_sem] theorem h30t : h30.tail = (fun _ => none) := rfl
@[go_sem] theorem h30v : h30.vars = [] := rfl
@[go_sem] theorem h30m : h30.mutc = false := rfl
@[go_sem] def h31a : Nat -> Option (List Nat) := (fun id => match id with | 0 => some [1, 2] | 1 => some [1, 2, 7] | 2 => some [1, 2, 7, 8] | 3 => some [1, 2, 7, 8] | 4 => some [2] | 5 => some [1, 2, 7, 12] | 6 => some [2] | 7 => some [1, 2, 7, 15] | 8 => some [2] | 9 => some [1, 2, 7, 18] | 10 => some [1, 2, 7, 18] | 11 => some [1, 2, 3] | 12 => some [2, 3, 22, 23, 24] | 13 => some [2, 3, 22, 23, 24, 25] | 14 => some [2, 3, 5, 22, 23, 24] | 15 => some [2, 3, 22, 23, 24] | 16 => some [2, 3, 22, 23, 24] | 17 => some [2] | 18 => some [2] | _ => none)
def h31 : Hint := ⟨h31a, (fun id => match id with | 15 => some 2 | _ => none), (fun _ => none), [3], false, (fun _ => none), fun _ => 0, 0, false, (fun _ => none)⟩
@[go_sem] theorem h31x : h31.mix = (fun _ => none) := rfl
@[go_sem] theorem h31l : h31.live = h31a := rfl
@[go_sem] theorem h31o : h31.mode = fun _ => 0 := rfl
@[go_sem] theorem h31k : h31.keep = (fun id => match id with | 15 => some 2 | _ => none) := rfl
@[go_sem] theorem h31t : h31.tail = (fun _ => none) := rfl
@[go_sem] theorem h31v : h31.vars = [3] := rfl
@[go_sem] theorem h31m : h31.mutc = false := rfl
@[go_sem] def h32a : Nat -> Option (List Nat) := (fun id => match id with | 0 => some [1, 2] | 1 => some [1, 2, 5] | 2 => some [1, 2, 5, 6] | 3 => some [1, 2, 5, 6, 7] | 4 => some [1, 2, 5, 6, 7, 41] | 5 => some [4] | 6 => some [2, 7, 93] | 7 => some [4] | 8 => some [2, 7, 96] | 9 => some [2, 7, 124] | 10 => some [4] | 11 => some [2, 7, 136] | 12 => some [4] | 13 => some [2, 138] | 14 => some [4] | 15 => some [4] | _ => none)
abbrev h32 : Hint := HQ h32a
@[go_sem] def h33a : Nat -> Option (List Nat) := (fun id => match id with | 0 => some [0, 1] | 1 => some [1, 7, 8, 9] | 2 => some [1, 7, 8, 9, 10] | 3 => some [1, 6, 7, 8, 9] | 4 => some [1, 6, 7, 8, 9, 22] | 5 => some [4] | 6 => some [1, 6, 7, 8, 9, 27] | 7 => some [1, 7, 8, 9, 31] | 8 => some [4] | 9 => some [1, 7, 8, 9, 41] | 10 => some [4] | 11 => some [1, 7, 8, 9] | 12 => some [4] | _ => none)
def h33 : Hint := ⟨h33a, (fun id => match id with | 11 => some 0 | _ => none), (fun _ => none), [], false, (fun _ => none), fun _ => 0, 0, false, (fun _ => none)⟩
@[go_sem] theorem h33x : h33.mix = (fun _ => none) := rfl
@[go_sem] theorem h33l : h33.live = h33a := rfl
@[go_sem] theorem h33o : h33.mode = fun _ => 0 := rfl
@[go_sem] theorem h33k : h33.keep = (fun id => match id with | 11 => some 0 | _ => none) := rfl
@[go_sem] theorem h33t : h33.tail = (fun _ => none) := rfl
@[go_sem] theorem h33v : h33.vars = [] := rfl
@[go_sem] theorem h33m : h33.mutc = false := rfl
@[go_sem] def h34a : Nat -> Option (List Nat) := (fun id => match id with | 0 => some [0] | 1 => some [0, 3] | 2 => some [0, 3, 4] | 3 => some [0, 3, 4, 7, 8, 9] | 4 => some [0, 3, 4, 7, 8, 9, 10] | 5 => some [0, 3, 4, 5, 6, 7, 8, 9] | 6 => some [0, 3, 4, 5, 7, 8, 9, 17] | 7 => some [0, 3, 5, 7, 8, 9] | 8 => some [0, 3, 4, 5, 7, 8, 9, 17] | 9 => some [0, 3, 4, 7, 8, 9] | 10 => some [2] | _ => none)
def h34 : Hint := ⟨h34a, (fun id => match id with | 9 => some 0 | _ => none), (fun _ => none), [3], false, (fun _ => none), fun _ => 0, 0, false, (fun _ => none)⟩
@[go_sem] theorem h34x : h34.mix = (fun _ => none) := rfl
@[go_sem] theorem h34l : h34.live = h34a := rfl
@[go_sem] theorem h34o : h34.mode = fun _ => 0 := rfl
@[go_sem] theorem h34k : h34.keep = (fun id => match id with | 9 => some 0 | _ => none) := rfl
@[go_sem] theorem h34t : h34.tail = (fun _ => none) := rfl
@[go_sem] theorem h34v : h34.vars = [3] := rfl
@[go_sem] theorem h34m : h34.mutc = false := rfl
@[go_sem] def h35a : Nat -> Option (List Nat) := (fun id => match id with | 0 => some [0, 2] | 1 => some [0, 2, 4] | 2 => some [0, 2, 4, 5] | 3 => some [0, 2, 4, 6] | 4 => some [0, 2, 4, 6, 12] | 5 => some [2, 3] | 6 => some [0, 2, 4] | 7 => some [0, 2, 4, 21] | 8 => some [2, 3] | 9 => some [0, 2, 4, 7] | 10 => some [2, 3] | 11 => some [0, 2, 4, 7, 26] | 12 => some [0, 2, 4, 5] | 13 => some [0, 2, 4, 7, 29] | 14 => some [0, 2, 4, 5] | 15 => some [0, 2, 4, 7, 32] | 16 => some [0, 2, 4, 5] | 17 => some [0, 2, 4, 35] | 18 => some [0, 2, 4, 5] | 19 => some [0, 2, 4, 5] | 20 => some [0, 2, 4, 5] | _ => none)
abbrev h35 : Hint := HQ h35a
@[go_sem] def h39a : Nat -> Option (List Nat) := (fun id => match id with | 0 => some [0, 9] | 1 => some [0] | 2 => some [0, 29] | 3 => some [0] | 4 => some [0] | _ => none)
abbrev h39 : Hint := HQ h39a
@[go_sem] def h40a : Nat -> Option (List Nat) := (fun id => match id with | 0 => some [0, 1] | 1 => some [0, 1, 17] | 2 => some [4] | 3 => some [5] | 4 => some [5, 31] | 5 => some [4] | 6 => some [4] | _ => none)
def h40 : Hint := ⟨h40a, (fun _ => none), (fun id => match id with | 1 => some 12 | 3 => some 12 | _ => none), [], false, (fun _ => none), fun _ => 0, 0, false, (fun _ => none)⟩
@[go_sem] theorem h40e : h40.late = (fun _ => none) := rfl
@[go_sem] theorem h40x : h40.mix = (fun _ => none) := rfl
@[go_sem] theorem h40l : h40.live = h40a := rfl
@[go_sem] theorem h40o : h40.mode = fun _ => 0 := rfl
@[go_sem] theorem h40k : h40.keep = (fun _ => none) := rfl
@[go_sem] theorem h40t : h40.tail = (fun id => match id with | 1 => some 12 | 3 => some 12 | _ => none) := rfl
@[go_sem] theorem h40v : h40.vars = [] := rfl
@[go_sem] theorem h40m : h40.mutc = false := rfl
@[go_sem] def h41a : Nat -> Option (List Nat) := (fun id => match id with | 0 => some [0, 2] | 1 => some [0, 2, 3, 4, 5] | 2 => some [0, 2, 3, 4, 5, 14] | 3 => some [0, 2, 3, 4, 5, 14, 15] | 4 => some [0, 2, 3, 4, 5, 6, 14] | 5 => some [0, 2, 3, 4, 5, 6, 14, 21] | 6 => some [2, 6] | 7 => some [2] | 8 => some [0, 2, 3, 4, 5, 14] | 9 => some [0, 2, 3, 4, 5, 34] | 10 => some [2] | 11 => some [2] | 12 => some [0, 2, 3, 4, 5, 40] | 13 => some [0, 2, 3] | 14 => some [2] | 15 => some [0, 2, 3, 4, 5, 57] | 16 => some [0, 2, 4, 5] | 17 => some [0, 2, 7] | 18 => some [2] | 19 => some [0, 2, 3, 4, 5, 89] | 20 => some [2] | 21 => some [0, 2, 3, 4, 5, 96] | 22 => some [2] | 23 => some [2] | 24 => some [0, 2, 3, 4, 5, 115] | 25 => some [2] | 26 => some [2] | 27 => some [0, 2, 3, 4, 5, 139] | 28 => some [0, 2] | 29 => some [2] | 30 => some [0, 2, 3, 159] | 31 => some [2] | 32 => some [2, 3] | 33 => some [2] | _ => none)
abbrev h41 : Hint := HQ h41a
@[go_sem] def h42a : Nat -> Option (List Nat) := (fun id => match id with | 0 => some [0] | 1 => some [0, 3] | 2 => some [0, 3, 4] | 3 => some [0, 3, 4, 11] | 4 => some [0, 3, 4, 5, 6] | 5 => some [0, 3, 4, 6] | 6 => some [0, 3, 4] | 7 => some [2] | _ => none)
def h42 : Hint := ⟨h42a, (fun _ => none), (fun _ => none), [3], false, (fun _ => none), fun _ => 0, 0, false, (fun _ => none)⟩
@[go_sem] theorem h42x : h42.mix = (fun _ => none) := rfl
@[go_sem] theorem h42l : h42.live = h42a := rfl
@[go_sem] theorem h42o : h42.mode = fun _ => 0 := rfl
@[go_sem] theorem h42k : h42.keep = (fun _ => none) := rfl
@[go_sem] theorem h42t : h42.tail = (fun _ => none) := rfl
@[go_sem] theorem h42v : h42.vars = [3] := rfl
@[go_sem] theorem h42m : h42.mutc = false := rfl
@[go_sem] def h43a : Nat -> Option (List Nat) := (fun id => match id with | 0 => some [1, 2] | 1 => some [1, 2, 5] | 2 => some [1, 2, 5, 6, 7] | 3 => some [1, 2, 5, 6, 7] | 4 => some [1, 2, 5, 6, 7, 14] | 5 => some [1, 2, 5, 6, 7, 14, 15] | 6 => some [1, 2, 5, 6, 7, 14, 15] | 7 => some [1, 2, 5, 6, 7, 14, 15] | 8 => some [1, 2, 5, 6, 7, 14, 15] | 9 => some [1, 2, 5, 6, 7, 14, 15] | 10 => some [1, 2, 5, 6, 7, 14, 23] | 11 => some [2, 5, 6, 7] | 12 => some [5, 6, 7] | 13 => some [1, 2, 5, 6, 7, 14, 15] | 14 => some [1, 2, 5, 6, 7, 14, 67] | 15 => some [1, 2, 5, 6, 7, 14, 67] | 16 => some [1, 2, 5, 6, 7, 14, 67] | 17 => some [1, 2, 5, 6, 7, 14, 15] | 18 => some [1, 2, 5, 6, 7, 14, 75] | 19 => some [1, 2, 5, 6, 7, 14, 75] | 20 => some [5, 6, 7] | 21 => some [1, 2, 5, 6, 7, 14, 15] | 22 => some [5, 6, 7, 14, 92] | 23 => some [5, 6, 7, 14, 92] | 24 => some [5, 6, 7, 14, 92] | 25 => some [5, 6, 7, 14, 92] | 26 => some [5, 6, 7, 14, 92] | 27 => some [5, 6, 7, 14, 92] | 28 => some [4] | _ => none)
@[go_sem] def h43M : Nat -> Option Mix := (fun id => match id with | 2 => some ⟨[0, 1, 2], [], .head 0 (.head 1 (.alt (.one 2 (.one 3 (.one 4 (.one 5 (.fin))))) (.one 3 (.alt (.one 2 (.one 4 (.one 5 (.fin)))) (.one 4 (.head 2 (.one 5 (.fin))))))))⟩ | _ => none)
def h43 : Hint := ⟨h43a, (fun _ => none), (fun id => match id with | 2 => some 3 | _ => none), [], false, h43M, fun _ => 0, 0, false, (fun _ => none)⟩
@[go_sem] theorem h43e : h43.late = (fun _ => none) := rfl
@[go_sem] theorem h43x : h43.mix = h43M := rfl
@[go_sem] theorem h43l : h43.live = h43a := rfl
@[go_sem] theorem h43o : h43.mode = fun _ => 0 := rfl
@[go_sem] theorem h43k : h43.keep = (fun _ => none) := rfl
@[go_sem] theorem h43t : h43.tail = (fun id => match id with | 2 => some 3 | _ => none) := rfl
@[go_sem] theorem h43v : h43.vars = [] := rfl
@[go_sem] theorem h43m : h43.mutc = false := rfl
@[go_sem] def h44a : Nat -> Option (List Nat) := (fun id => match id with | 0 => some [0] | 1 => some [4] | 2 => some [2] | _ => none)
abbrev h44 : Hint := HQ h44a
@[go_sem] def h45a : Nat -> Option (List Nat) := (fun id => match id with | 0 => some [0] | 1 => some [3] | 2 => some [3, 4] | 3 => some [3, 6] | 4 => some [3, 8] | 5 => some [10] | 6 => some [2] | 7 => some [2] | 8 => some [2] | 9 => some [2] | _ => none)
abbrev h45 : Hint := HQ h45a
@[go_sem] def h46a : Nat -> Option (List Nat) := (fun id => match id with | 0 => some [0] | 1 => some [2] | _ => none)
abbrev h46 : Hint := HQ h46a
@[go_sem] def h47a : Nat -> Option (List Nat) := (fun id => match id with | 0 => some [0, 1] | 1 => some [0, 1, 8] | 2 => some [0, 1] | 3 => some [0, 1, 8] | 4 => some [0, 1, 33] | 5 => some [0, 1] | 6 => some [0, 1, 8] | 7 => some [0, 1, 5, 6, 7] | 8 => some [0, 1, 5, 6, 60] | 9 => some [4] | 10 => some [0, 1, 5, 62] | 11 => some [4] | 12 => some [0, 1, 8] | _ => none)
@[go_sem] def h47M : Nat -> Option Mix := (fun id => match id with | 2 => some ⟨[0, 1, 2, 3, 4, 5, 6, 7, 8, 9, 11, 12], [], .head 1 (.head 2 (.head 3 (.head 4 (.head 5 (.head 6 (.head 7 (.head 8 (.head 9 (.alt (.one 0 (.one 10 (.head 11 (.head 12 (.one 13 (.fin)))))) (.one 10 (.head 0 (.head 11 (.head 12 (.one 13 (.fin)))))))))))))))⟩ | 12 => some ⟨[0, 1, 2, 3, 4, 5, 6, 8, 9], [], .head 1 (.head 2 (.head 3 (.head 4 (.head 5 (.head 6 (.alt (.one 0 (.one 7 (.head 8 (.head 9 (.one 10 (.fin)))))) (.one 7 (.head 0 (.head 8 (.head 9 (.one 10 (.fin))))))))))))⟩ | _ => none)
def h47 : Hint := ⟨h47a, (fun _ => none), (fun id => match id with | 2 => some 9 | 12 => some 6 | _ => none), [], false, h47M, fun _ => 0, 0, false, (fun _ => none)⟩
@[go_sem] theorem h47e : h47.late = (fun _ => none) := rfl
@[go_sem] theorem h47x : h47.mix = h47M := rfl
@[go_sem] theorem h47l : h47.live = h47a := rfl
@[go_sem] theorem h47o : h47.mode = fun _ => 0 := rfl
@[go_sem] theorem h47k : h47.keep = (fun _ => none) := rfl
@[go_sem] theorem h47t : h47.tail = (fun id => match id with | 2 => some 9 | 12 => some 6 | _ => none) := rfl
@[go_sem] theorem h47v : h47.vars = [] := rfl
@[go_sem] theorem h47m : h47.mutc = false := rfl
@[go_sem] def h48a : Nat -> Option (List Nat) := (fun id => match id with | 0 => some [0] | 1 => some [2] | _ => none)
def h48 : Hint := ⟨h48a, (fun _ => none), (fun id => match id with | 1 => some 10 | _ => none), [], false, (fun _ => none), fun _ => 0, 0, false, (fun _ => none)⟩
@[go_sem] theorem h48e : h48.late = (fun _ => none) := rfl
@[go_sem] theorem h48x : h48.mix = (fun _ => none) := rfl
@[go_sem] theorem h48l : h48.live = h48a := rfl
@[go_sem] theorem h48o : h48.mode = fun _ => 0 := rfl
@[go_sem] theorem h48k : h48.keep = (fun _ => none) := rfl
@[go_sem] theorem h48t : h48.tail = (fun id => match id with | 1 => some 10 | _ => none) := rfl
@[go_sem] theorem h48v : h48.vars = [] := rfl
@[go_sem] theorem h48m : h48.mutc = false := rfl
@[go_sem] def h49a : Nat -> Option (List Nat) := (fun id => match id with | 0 => some [0] | 1 => some [0, 3] | 2 => some [0, 3, 11] | 3 => some [0, 3] | 4 => some [2] | _ => none)
abbrev h49 : Hint := HQ h49a
@[go_sem] def h50a : Nat -> Option (List Nat) := (fun id => match id with | 0 => some [0, 1, 2] | 1 => some [2, 7] | 2 => some [6] | _ => none)
abbrev h50 : Hint := HQ h50a
@[go_sem] def h56a : Nat -> Option (List Nat) := (fun id => match id with | 0 => some [0] | 1 => some [2] | _ => none)
abbrev h56 : Hint := HQ h56a
@[go_sem] def h57a : Nat -> Option (List Nat) := (fun id => match id with | 0 => some [0] | 1 => some [2] | _ => none)
abbrev h57 : Hint := HQ h57a
@[go_sem] def h58a : Nat -> Option (List Nat) := (fun id => match id with | 0 => some [0, 4] | 1 => some [0] | _ => none)
abbrev h58 : Hint := HQ h58a
@[go_sem] def h59a : Nat -> Option (List Nat) := (fun id => match id with | 0 => some [0, 1, 4] | 1 => some [0, 1, 4, 5] | 2 => some [0, 1, 4, 5, 6] | 3 => some [0, 1, 4, 5, 6] | 4 => some [0, 1, 4, 5, 6, 22] | 5 => some [4] | 6 => some [0, 1, 4, 5] | 7 => some [0, 1, 4, 5, 6, 30] | 8 => some [4] | 9 => some [0, 1, 4, 5, 6, 34] | 10 => some [0, 1, 4, 5] | 11 => some [0, 1, 4, 5, 6, 49] | 12 => some [0, 1, 4, 5] | 13 => some [0, 1, 4, 5, 6, 64] | 14 => some [0, 1, 4, 5] | 15 => some [0, 1, 4, 5] | _ => none)
def h59 : Hint := ⟨h59a, (fun _ => none), (fun _ => none), [5], false, (fun _ => none), fun _ => 0, 0, false, (fun _ => none)⟩
@[go_sem] theorem h59x : h59.mix = (fun _ => none) := rfl
@[go_sem] theorem h59l : h59.live = h59a := rfl
@[go_sem] theorem h59o : h59.mode = fun _ => 0 := rfl
@[go_sem] theorem h59k : h59.keep = (fun _ => none) := rfl
@[go_sem] theorem h59t : h59.tail = (fun _ => none) := rfl
@[go_sem] theorem h59v : h59.vars = [5] := rfl
@[go_sem] theorem h59m : h59.mutc = false := rfl
@[go_sem] def h60a : Nat -> Option (List Nat) := (fun id => match id with | 0 => some [0] | 1 => some [2] | _ => none)
abbrev h60 : Hint := HQ h60a
@[go_sem] def h61a : Nat -> Option (List Nat) := (fun id => match id with | 0 => some [0, 1] | 1 => some [4] | _ => none)
abbrev h61 : Hint := HQ h61a
@[go_sem] def h62a : Nat -> Option (List Nat) := (fun id => match id with | 0 => some [0, 1, 2] | 1 => some [0, 1, 2, 8] | 2 => some [6] | 3 => some [6] | _ => none)
abbrev h62 : Hint := HQ h62a
@[go_sem] def h63a : Nat -> Option (List Nat) := (fun id => match id with | 0 => some [0] | 1 => some [0, 3] | 2 => some [0, 3, 4] | 3 => some [2] | 4 => some [0, 3, 4, 9] | 5 => some [0, 3] | 6 => some [0, 3] | 7 => some [0, 3, 27] | 8 => some [0, 3] | 9 => some [0, 3] | _ => none)
def h63 : Hint := ⟨h63a, (fun _ => none), (fun _ => none), [3], false, (fun _ => none), fun _ => 0, 0, false, (fun _ => none)⟩
@[go_sem] theorem h63x : h63.mix = (fun _ => none) := rfl
@[go_sem] theorem h63l : h63.live = h63a := rfl
@[go_sem] theorem h63o : h63.mode = fun _ => 0 := rfl
@[go_sem] theorem h63k : h63.keep = (fun _ => none) := rfl
@[go_sem] theorem h63t : h63.tail = (fun _ => none) := rfl
@[go_sem] theorem h63v : h63.vars = [3] := rfl
@[go_sem] theorem h63m : h63.mutc = false := rfl
@[go_sem] def h64a : Nat -> Option (List Nat) := (fun id => match id with | 0 => some [0, 1, 2] | 1 => some [0, 1, 2, 12] | 2 => some [0, 1, 2, 12] | 3 => some [6] | _ => none)
abbrev h64 : Hint := HQ h64a
@[go_sem] def h65a : Nat -> Option (List Nat) := (fun id => match id with | 0 => some [0, 2] | 1 => some [0, 2, 3] | 2 => some [0, 2, 3, 4] | 3 => some [0, 2, 3, 23] | 4 => some [0, 2, 3, 23] | 5 => some [0, 2, 3] | 6 => some [0, 2, 3, 40] | 7 => some [0, 2, 3] | 8 => some [0, 2, 3, 40] | 9 => some [0, 2, 3, 5] | 10 => some [0, 2, 3, 57] | 11 => some [0, 2, 3, 6] | 12 => some [0, 2, 3, 6, 7] | 13 => some [0, 2, 3, 6, 65] | 14 => some [0, 2, 3, 6, 65] | 15 => some [0, 2, 3, 6, 69] | 16 => some [0, 2, 3] | 17 => some [0, 2, 3, 57] | 18 => some [0, 2, 8, 9] | 19 => some [0, 2, 11] | 20 => some [0, 2, 11, 105] | 21 => some [0, 2, 11, 105] | 22 => some [0, 2, 11, 112] | 23 => some [0, 2, 11] | 24 => some [0, 2, 11, 105] | 25 => some [2] | _ => none)
@[go_sem] def h65M : Nat -> Option Mix := (fun id => match id with | 18 => some ⟨[0, 1, 2, 3, 4, 5, 6, 7, 8, 9, 10, 11, 12, 13, 14, 15], [], .head 0 (.head 1 (.head 2 (.head 3 (.head 4 (.head 5 (.head 6 (.head 7 (.head 8 (.head 9 (.alt (.one 10 (.alt (.one 11 (.head 12 (.head 13 (.alt (.one 14 (.alt (.one 15 (.one 16 (.one 17 (.one 18 (.one 19 (.fin)))))) (.one 16 (.alt (.one 15 (.one 17 (.one 18 (.one 19 (.fin))))) (.one 17 (.alt (.one 15 (.one 18 (.one 19 (.fin)))) (.one 18 (.head 15 (.one 19 (.fin)))))))))) (.alt (.one 15 (.alt (.one 14 (.one 16 (.one 17 (.one 18 (.one 19 (.fin)))))) (.one 16 (.alt (.one 14 (.one 17 (.one 18 (.one 19 (.fin))))) (.one 17 (.head 14 (.one 18 (.one 19 (.fin))))))))) (.one 16 (.alt (.one 14 (.alt (.one 15 (.one 17 (.one 18 (.one 19 (.fin))))) (.one 17 (.alt (.one 15 (.one 18 (.one 19 (.fin)))) (.one 18 (.head 15 (.one 19 (.fin)))))))) (.alt (.one 15 (.alt (.one 14 (.one 17 (.one 18 (.one 19 (.fin))))) (.one 17 (.head 14 (.one 18 (.one 19 (.fin))))))) (.one 17 (.head 14 (.alt (.one 15 (.one 18 (.one 19 (.fin)))) (.one 18 (.head 15 (.one 19 (.fin))))))))))))))) (.one 16 (.head 11 (.head 12 (.head 13 (.alt (.one 14 (.alt (.one 15 (.one 17 (.one 18 (.one 19 (.fin))))) (.one 17 (.alt (.one 15 (.one 18 (.one 19 (.fin)))) (.one 18 (.head 15 (.one 19 (.fin)))))))) (.alt (.one 15 (.alt (.one 14 (.one 17 (.one 18 (.one 19 (.fin))))) (.one 17 (.head 14 (.one 18 (.one 19 (.fin))))))) (.one 17 (.head 14 (.alt (.one 15 (.one 18 (.one 19 (.fin)))) (.one 18 (.head 15 (.one 19 (.fin))))))))))))))) (.one 16 (.head 10 (.head 11 (.head 12 (.head 13 (.alt (.one 14 (.alt (.one 15 (.one 17 (.one 18 (.one 19 (.fin))))) (.one 17 (.alt (.one 15 (.one 18 (.one 19 (.fin)))) (.one 18 (.head 15 (.one 19 (.fin)))))))) (.alt (.one 15 (.alt (.one 14 (.one 17 (.one 18 (.one 19 (.fin))))) (.one 17 (.head 14 (.one 18 (.one 19 (.fin))))))) (.one 17 (.head 14 (.alt (.one 15 (.one 18 (.one 19 (.fin)))) (.one 18 (.head 15 (.one 19 (.fin))))))))))))))))))))))))⟩ | _ => none)
def h65 : Hint := ⟨h65a, (fun _ => none), (fun id => match id with | 18 => some 16 | _ => none), [], false, h65M, fun _ => 0, 0, false, (fun _ => none)⟩
@[go_sem] theorem h65e : h65.late = (fun _ => none) := rfl
@[go_sem] theorem h65x : h65.mix = h65M := rfl
@[go_sem] theorem h65l : h65.live = h65a := rfl
@[go_sem] theorem h65o : h65.mode = fun _ => 0 := rfl
@[go_sem] theorem h65k : h65.keep = (fun _ => none) := rfl
@[go_sem] theorem h65t : h65.tail = (fun id => match id with | 18 => some 16 | _ => none) := rfl
@[go_sem] theorem h65v : h65.vars = [] := rfl
@[go_sem] theorem h65m : h65.mutc = false := rfl
@[go_sem] def h66a : Nat -> Option (List Nat) := (fun id => match id with | 0 => some [0, 2] | 1 => some [0, 2, 3] | 2 => some [0, 2, 3, 9] | 3 => some [2] | 4 => some [0, 2, 3] | 5 => some [0, 2, 3, 21] | 6 => some [2] | 7 => some [0, 2, 3, 31] | 8 => some [0, 2, 3, 21] | 9 => some [0, 2, 3, 4] | 10 => some [0, 2, 3, 4, 42] | 11 => some [0, 2, 3, 4, 42] | 12 => some [0, 2, 3, 50] | 13 => some [2] | 14 => some [2] | _ => none)
abbrev h66 : Hint := HQ h66a
@[go_sem] def h67a : Nat -> Option (List Nat) := (fun id => match id with | 0 => some [0] | 1 => some [2] | _ => none)
abbrev h67 : Hint := HQ h67a
@[go_sem] def h68a : Nat -> Option (List Nat) := (fun id => match id with | 0 => some [0, 1] | 1 => some [0, 1, 7] | 2 => some [0, 1, 7, 18] | 3 => some [4, 5, 6] | 4 => some [0, 1, 7, 8, 9, 10] | 5 => some [0, 1, 7, 8, 9, 10, 28] | 6 => some [4, 5, 6] | 7 => some [0, 1, 8, 9, 10, 11] | 8 => some [0, 1, 8, 9, 10, 11, 12] | 9 => some [0, 1, 8, 9, 10, 11, 12, 37] | 10 => some [0, 1, 8, 9, 10, 11, 12] | 11 => some [0, 1, 8, 11, 12, 65] | 12 => some [4, 5, 6] | 13 => some [0, 1, 8, 11, 12] | 14 => some [0, 1, 8, 9, 10, 11, 12] | 15 => some [4, 5, 6] | _ => none)
abbrev h68 : Hint := HQ h68a
@[go_sem] def h69a : Nat -> Option (List Nat) := (fun id => match id with | 0 => some [0] | 1 => some [2] | _ => none)
abbrev h69 : Hint := HQ h69a
@[go_sem] def h70a : Nat -> Option (List Nat) := (fun id => match id with | 0 => some [0] | 1 => some [2] | _ => none)
abbrev h70 : Hint := HQ h70a
@[go_sem] def h71a : Nat -> Option (List Nat) := (fun id => match id with | 0 => some [0] | 1 => some [2] | _ => none)
abbrev h71 : Hint := HQ h71a
@[go_sem] def h72a : Nat -> Option (List Nat) := (fun id => match id with | 0 => some [0] | 1 => some [0, 4] | 2 => some [0, 4, 10, 11, 12] | 3 => some [0, 4, 10, 11, 12, 13] | 4 => some [0, 4, 6, 10, 11, 12] | 5 => some [0, 4, 10, 11, 12, 17] | 6 => some [2, 3] | 7 => some [0, 4, 10, 11, 12] | 8 => some [2, 3] | _ => none)
abbrev h72 : Hint := HQ h72a
@[go_sem] def h73a : Nat -> Option (List Nat) := (fun id => match id with | 0 => some [0] | 1 => some [0, 3] | 2 => some [3, 6, 7, 8] | 3 => some [3, 6, 7, 8, 9] | 4 => some [3, 5, 6, 7, 8] | 5 => some [3, 6, 7, 8] | 6 => some [3, 6, 7, 8] | 7 => some [2] | _ => none)
@[go_sem] def h73M : Nat -> Option Mix := (fun id => match id with | 5 => some ⟨[0, 1, 2, 3, 4, 5, 6, 7], [], .head 0 (.head 1 (.head 2 (.head 3 (.head 4 (.head 5 (.head 6 (.head 7 (.one 8 (.one 9 (.fin))))))))))⟩ | _ => none)
def h73 : Hint := ⟨h73a, (fun id => match id with | 6 => some 0 | _ => none), (fun id => match id with | 5 => some 7 | _ => none), [3], false, h73M, fun _ => 0, 0, false, (fun _ => none)⟩
@[go_sem] theorem h73e : h73.late = (fun _ => none) := rfl
@[go_sem] theorem h73x : h73.mix = h73M := rfl
@[go_sem] theorem h73l : h73.live = h73a := rfl
@[go_sem] theorem h73o : h73.mode = fun _ => 0 := rfl
@[go_sem] theorem h73k : h73.keep = (fun id => match id with | 6 => some 0 | _ => none) := rfl
@[go_sem] theorem h73t : h73.tail = (fun id => match id with | 5 => some 7 | _ => none) := rfl
@[go_sem] theorem h73v : h73.vars = [3] := rfl
@[go_sem] theorem h73m : h73.mutc = false := rfl
@[go_sem] def h74a : Nat -> Option (List Nat) := (fun id => match id with | 0 => some [0] | 1 => some [0, 11] | 2 => some [0] | 3 => some [0, 25] | 4 => some [0] | 5 => some [2] | _ => none)
abbrev h74 : Hint := HQ h74a
@[go_sem] def h75a : Nat -> Option (List Nat) := (fun id => match id with | 0 => some [0, 1, 4] | 1 => some [0, 1, 4, 16] | 2 => some [4] | 3 => some [4] | _ => none)
def h75 : Hint := ⟨h75a, (fun _ => none), (fun id => match id with | 1 => some 12 | 3 => some 13 | _ => none), [], false, (fun _ => none), fun _ => 0, 0, false, (fun _ => none)⟩
@[go_sem] theorem h75e : h75.late = (fun _ => none) := rfl
@[go_sem] theorem h75x : h75.mix = (fun _ => none) := rfl
@[go_sem] theorem h75l : h75.live = h75a := rfl
@[go_sem] theorem h75o : h75.mode = fun _ => 0 := rfl
@[go_sem] theorem h75k : h75.keep = (fun _ => none) := rfl
@[go_sem] theorem h75t : h75.tail = (fun id => match id with | 1 => some 12 | 3 => some 13 | _ => none) := rfl
@[go_sem] theorem h75v : h75.vars = [] := rfl
@[go_sem] theorem h75m : h75.mutc = false := rfl
@[go_sem] def h76a : Nat -> Option (List Nat) := (fun id => match id with | 0 => some [0, 2] | 1 => some [0, 2, 5] | 2 => some [0, 2, 5, 6] | 3 => some [2, 3, 4] | 4 => some [0, 2, 5, 6, 18] | 5 => some [0, 2, 6] | 6 => some [2, 6] | 7 => some [0, 2, 5, 6, 34] | 8 => some [0, 2, 6] | 9 => some [2, 6] | 10 => some [0, 2, 5, 6, 55] | 11 => some [0, 2, 7] | 12 => some [2, 7] | 13 => some [2, 8, 9] | 14 => some [2, 3, 4] | 15 => some [0, 2, 6, 85] | 16 => some [0, 2, 6, 99] | 17 => some [2, 3, 4] | 18 => some [0, 2, 10, 11] | 19 => some [2, 10, 11] | 20 => some [2, 3, 4] | 21 => some [2, 3, 4] | _ => none)
@[go_sem] def h76M : Nat -> Option Mix := (fun id => match id with | 11 => some ⟨[0, 1, 2, 3, 4, 5, 6, 7, 8, 9, 10, 11, 12], [], .head 0 (.head 1 (.head 2 (.head 3 (.head 4 (.head 5 (.head 6 (.head 7 (.head 8 (.head 9 (.head 10 (.alt (.one 11 (.head 12 (.one 13 (.one 14 (.fin))))) (.one 13 (.head 11 (.head 12 (.one 14 (.fin))))))))))))))))⟩ | 18 => some ⟨[0, 1, 2, 3, 4, 5, 6, 7, 8, 9, 10, 11, 12, 13, 14], [], .head 0 (.head 1 (.head 2 (.head 3 (.head 4 (.head 5 (.head 6 (.head 7 (.head 8 (.head 9 (.head 10 (.alt (.one 11 (.head 12 (.head 13 (.alt (.one 14 (.one 15 (.one 16 (.one 17 (.fin))))) (.one 15 (.alt (.one 14 (.one 16 (.one 17 (.fin)))) (.one 16 (.head 14 (.one 17 (.fin)))))))))) (.one 15 (.head 11 (.head 12 (.head 13 (.alt (.one 14 (.one 16 (.one 17 (.fin)))) (.one 16 (.head 14 (.one 17 (.fin))))))))))))))))))))⟩ | _ => none)
def h76 : Hint := ⟨h76a, (fun _ => none), (fun id => match id with | 11 => some 13 | 16 => some 11 | 18 => some 15 | _ => none), [], false, h76M, fun _ => 0, 0, false, (fun _ => none)⟩
@[go_sem] theorem h76e : h76.late = (fun _ => none) := rfl
@[go_sem] theorem h76x : h76.mix = h76M := rfl
@[go_sem] theorem h76l : h76.live = h76a := rfl
@[go_sem] theorem h76o : h76.mode = fun _ => 0 := rfl
@[go_sem] theorem h76k : h76.keep = (fun _ => none) := rfl
@[go_sem] theorem h76t : h76.tail = (fun id => match id with | 11 => some 13 | 16 => some 11 | 18 => some 15 | _ => none) := rfl
@[go_sem] theorem h76v : h76.vars = [] := rfl
@[go_sem] theorem h76m : h76.mutc = false := rfl
@[go_sem] def h77a : Nat -> Option (List Nat) := (fun id => match id with | 0 => some [0, 1] | 1 => some [4] | _ => none)
abbrev h77 : Hint := HQ h77a
@[go_sem] def h83a : Nat -> Option (List Nat) := (fun id => match id with | 0 => some [0] | 1 => some [0, 3, 4] | 2 => some [0, 3, 4, 15] | 3 => some [0, 5] | 4 => some [0, 5, 19] | 5 => some [2] | 6 => some [5] | 7 => some [2] | 8 => some [0, 3, 4, 6] | 9 => some [0, 3, 4, 6, 7] | 10 => some [0, 3, 6, 7, 32] | 11 => some [0, 3, 4, 6, 7] | 12 => some [0, 6, 7] | 13 => some [0, 6, 7] | 14 => some [0, 3, 4, 6, 7] | 15 => some [0, 6, 54] | 16 => some [0, 6, 54] | 17 => some [6, 68] | 18 => some [2] | 19 => some [2] | _ => none)
abbrev h83 : Hint := HQ h83a
@[go_sem] def h84a : Nat -> Option (List Nat) := (fun id => match id with | 0 => some [0] | 1 => some [2] | _ => none)
abbrev h84 : Hint := HQ h84a
@[go_sem] def h85a : Nat -> Option (List Nat) := (fun id => match id with | 0 => some [0] | 1 => some [2] | _ => none)
abbrev h85 : Hint := HQ h85a
@[go_sem] def h86a : Nat -> Option (List Nat) := (fun id => match id with | 0 => some [0, 4] | 1 => some [0] | _ => none)
abbrev h86 : Hint := HQ h86a
@[go_sem] def h87a : Nat -> Option (List Nat) := (fun id => match id with | 0 => some [0, 2] | 1 => some [0, 2, 5, 6] | 2 => some [0, 2, 5, 6, 28] | 3 => some [0, 2, 5, 6] | 4 => some [0, 2, 5, 6, 28] | 5 => some [0, 2, 5, 6, 7] | 6 => some [0, 2, 6, 7, 8, 9, 10] | 7 => some [0, 2, 5, 6, 8, 9, 10] | 8 => some [0, 2, 5, 6, 8, 9, 10, 52] | 9 => some [0, 2, 5, 6, 7, 8] | 10 => some [0, 2, 5, 6, 7, 8, 60] | 11 => some [2, 3, 4] | 12 => some [0, 2, 5, 6, 7, 8] | 13 => some [0, 2, 6, 7, 8, 9, 10] | 14 => some [0, 2, 5, 6, 8, 9, 10, 52] | 15 => some [0, 2, 5, 6, 8, 9, 10, 75] | 16 => some [2, 3, 4] | 17 => some [0, 2, 5, 6, 8, 9, 10, 11] | 18 => some [0, 2, 5, 6, 8, 9, 10, 11, 80] | 19 => some [0, 2, 5, 6, 8, 9, 11, 90] | 20 => some [2, 3, 4] | 21 => some [0, 2, 5, 6, 8, 9, 10, 11] | 22 => some [0, 2, 5, 6, 8, 9, 10, 11] | 23 => some [0, 2, 5, 6, 8, 9, 10, 11, 12] | 24 => some [0, 2, 5, 6, 8, 9, 10, 11, 12, 109] | 25 => some [0, 2, 5, 6, 8, 9, 10, 11, 12] | 26 => some [0, 2, 5, 6, 8, 9, 10, 11, 12, 109] | 27 => some [0, 2, 5, 6, 7, 8, 9, 10, 11, 12] | 28 => some [0, 2, 5, 6, 7, 8, 9, 10, 11, 12, 127] | 29 => some [2, 3, 4] | 30 => some [0, 2, 5, 6, 7, 8, 9, 10, 11, 12, 131] | 31 => some [0, 2, 5, 6, 7, 8, 9, 10, 11, 12, 127] | 32 => some [0, 2, 5, 6, 7, 8, 9, 10, 11, 12] | 33 => some [2, 6, 8, 9, 10, 11, 143] | 34 => some [0, 2, 5, 6, 8, 9, 10, 11, 80] | 35 => some [2, 3, 4] | _ => none)
abbrev h87 : Hint := HQ h87a
@[go_sem] def h88a : Nat -> Option (List Nat) := (fun id => match id with | 0 => some [0, 1] | 1 => some [4] | _ => none)
abbrev h88 : Hint := HQ h88a
@[go_sem] def h89a : Nat -> Option (List Nat) := (fun id => match id with | 0 => some [0, 2] | 1 => some [0, 2] | 2 => some [0, 2, 3] | 3 => some [0, 2, 3, 4] | 4 => some [0, 2, 3] | 5 => some [0, 2, 3] | 6 => some [0, 2, 3, 4, 20] | 7 => some [2, 3] | 8 => some [2] | 9 => some [0, 2, 3, 4, 37] | 10 => some [0, 2, 3] | 11 => some [0, 2, 3, 4] | 12 => some [0, 2, 3, 49] | 13 => some [2] | 14 => some [0, 2, 3, 4, 52] | 15 => some [2] | 16 => some [0, 2, 3, 4, 69] | 17 => some [0, 2, 3, 76] | 18 => some [2] | 19 => some [0, 2, 3] | 20 => some [0, 2, 3] | _ => none)
def h89 : Hint := ⟨h89a, (fun _ => none), (fun _ => none), [3], false, (fun _ => none), fun _ => 0, 0, false, (fun _ => none)⟩
@[go_sem] theorem h89x : h89.mix = (fun _ => none) := rfl
@[go_sem] theorem h89l : h89.live = h89a := rfl
@[go_sem] theorem h89o : h89.mode = fun _ => 0 := rfl
@[go_sem] theorem h89k : h89.keep = (fun _ => none) := rfl
@[go_sem] theorem h89t : h89.tail = (fun _ => none) := rfl
@[go_sem] theorem h89v : h89.vars = [3] := rfl
@[go_sem] theorem h89m : h89.mutc = false := rfl
@[go_sem] def h90a : Nat -> Option (List Nat) := (fun id => match id with | 0 => some [0] | 1 => some [0, 3] | 2 => some [3, 6, 7, 8] | 3 => some [3, 6, 7, 8, 9] | 4 => some [3, 5, 6, 7, 8] | 5 => some [3, 5, 6, 7, 8, 14] | 6 => some [3, 5, 6, 7, 8, 14] | 7 => some [3, 6, 7, 8] | 8 => some [3, 5, 6, 7, 8, 36] | 9 => some [3, 6, 7, 8] | 10 => some [3, 5, 6, 7, 8, 44] | 11 => some [3, 6, 7, 8] | 12 => some [3, 5, 6, 7, 8, 58] | 13 => some [3, 6, 7, 8] | 14 => some [3, 6, 7, 8] | 15 => some [2] | _ => none)
def h90 : Hint := ⟨h90a, (fun _ => none), (fun _ => none), [3], false, (fun _ => none), fun _ => 0, 0, false, (fun _ => none)⟩
@[go_sem] theorem h90x : h90.mix = (fun _ => none) := rfl
@[go_sem] theorem h90l : h90.live = h90a := rfl
@[go_sem] theorem h90o : h90.mode = fun _ => 0 := rfl
@[go_sem] theorem h90k : h90.keep = (fun _ => none) := rfl
@[go_sem] theorem h90t : h90.tail = (fun _ => none) := rfl
@[go_sem] theorem h90v : h90.vars = [3] := rfl
@[go_sem] theorem h90m : h90.mutc = false := rfl
@[go_sem] def h91a : Nat -> Option (List Nat) := (fun id => match id with | 0 => some [0] | 1 => some [0, 5] | 2 => some [2, 3, 4] | 3 => some [0, 12] | 4 => some [2, 3, 4] | 5 => some [0, 15] | 6 => some [2, 3, 4] | 7 => some [0, 18] | 8 => some [2, 3, 4] | 9 => some [0, 25] | 10 => some [2, 3, 4] | 11 => some [0, 28] | 12 => some [2, 3, 4] | 13 => some [35] | 14 => some [2, 3, 4] | 15 => some [2, 3, 4] | _ => none)
abbrev h91 : Hint := HQ h91a
@[go_sem] def h92a : Nat -> Option (List Nat) := (fun id => match id with | 0 => some [0] | 1 => some [0, 7] | 2 => some [0, 3, 4] | 3 => some [0, 4, 36] | 4 => some [2] | 5 => some [0] | 6 => some [2] | _ => none)
abbrev h92 : Hint := HQ h92a
@[go_sem] def h93a : Nat -> Option (List Nat) := (fun id => match id with | 0 => some [0] | 1 => some [0, 3] | 2 => some [0, 3, 10] | 3 => some [0, 3, 5, 6] | 4 => some [0, 3, 5, 19] | 5 => some [2] | 6 => some [0, 3] | 7 => some [2] | _ => none)
abbrev h93 : Hint := HQ h93a
@[go_sem] def h94a : Nat -> Option (List Nat) := (fun id => match id with | 0 => some [1] | 1 => some [2] | _ => none)
abbrev h94 : Hint := HQ h94a
@[go_sem] def h95a : Nat -> Option (List Nat) := (fun id => match id with | 0 => some [0, 2] | 1 => some [0, 2, 4] | 2 => some [0, 2, 4, 16] | 3 => some [2, 3] | 4 => some [0, 2, 4] | 5 => some [0, 2, 4, 26] | 6 => some [2, 3] | 7 => some [0, 2, 4] | 8 => some [0, 2, 4, 30] | 9 => some [0, 2, 4, 30, 31] | 10 => some [0, 2, 4, 5, 30] | 11 => some [0, 2, 4, 5, 6, 30] | 12 => some [0, 2, 4, 5, 30, 47] | 13 => some [0, 2, 4, 5] | 14 => some [0, 2, 4] | 15 => some [0, 2, 4, 30] | 16 => some [0, 2, 4, 64] | 17 => some [2, 3] | 18 => some [0, 2, 4] | 19 => some [0, 2, 4, 7] | 20 => some [0, 2, 4, 7, 77] | 21 => some [2, 3] | 22 => some [0, 2, 4, 7] | 23 => some [0, 2, 4, 7] | 24 => some [0, 2, 4, 7, 90] | 25 => some [2, 3] | 26 => some [0, 2, 4, 7] | 27 => some [0, 2, 4, 7] | 28 => some [0, 2, 4, 7, 8] | 29 => some [0, 2, 4, 7, 8] | 30 => some [0, 2, 4, 7, 8] | 31 => some [2, 3] | _ => none)
@[go_sem] def h95M : Nat -> Option Mix := (fun id => match id with | 31 => some ⟨[0, 1, 2, 3, 4, 5, 6, 7, 8, 9, 10, 11, 12, 13, 14, 15], [], .head 0 (.head 1 (.head 2 (.head 3 (.head 4 (.head 5 (.head 6 (.head 7 (.head 8 (.head 9 (.head 10 (.head 11 (.head 12 (.head 13 (.head 14 (.alt (.one 15 (.one 16 (.one 17 (.fin)))) (.one 16 (.head 15 (.one 17 (.fin)))))))))))))))))))⟩ | _ => none)
def h95 : Hint := ⟨h95a, (fun _ => none), (fun id => match id with | 31 => some 16 | _ => none), [], false, h95M, fun _ => 0, 0, false, (fun _ => none)⟩
@[go_sem] theorem h95e : h95.late = (fun _ => none) := rfl
@[go_sem] theorem h95x : h95.mix = h95M := rfl
@[go_sem] theorem h95l : h95.live = h95a := rfl
@[go_sem] theorem h95o : h95.mode = fun _ => 0 := rfl
@[go_sem] theorem h95k : h95.keep = (fun _ => none) := rfl
@[go_sem] theorem h95t : h95.tail = (fun id => match id with | 31 => some 16 | _ => none) := rfl
@[go_sem] theorem h95v : h95.vars = [] := rfl
@[go_sem] theorem h95m : h95.mutc = false := rfl
@[go_sem] def h96a : Nat -> Option (List Nat) := (fun id => match id with | 0 => some [1, 2] | 1 => some [1, 2, 4] | 2 => some [1, 2, 4, 5] | 3 => some [1, 2, 4, 5, 19] | 4 => some [1, 2, 4, 5, 19, 20] | 5 => some [2, 3] | 6 => some [1, 2, 4, 5, 41] | 7 => some [1, 2, 5, 43] | 8 => some [1, 2, 5, 43, 44] | 9 => some [1, 2, 5, 43, 44] | 10 => some [1, 2, 5, 43, 44] | 11 => some [1, 2, 5] | 12 => some [2, 5, 6] | 13 => some [2, 3] | 14 => some [1, 2, 5, 43, 57] | 15 => some [1, 2, 5, 43, 57] | 16 => some [2, 5, 7] | 17 => some [2, 5, 7] | 18 => some [2, 5, 7, 8] | 19 => some [2, 3] | 20 => some [2, 3] | _ => none)
@[go_sem] def h96M : Nat -> Option Mix := (fun id => match id with | 19 => some ⟨[0, 1, 2, 3, 4], [], .head 0 (.head 1 (.head 2 (.head 3 (.alt (.one 4 (.one 5 (.one 6 (.fin)))) (.one 5 (.head 4 (.one 6 (.fin))))))))⟩ | _ => none)
def h96 : Hint := ⟨h96a, (fun _ => none), (fun id => match id with | 1 => some 6 | 19 => some 5 | _ => none), [], false, h96M, fun _ => 0, 0, false, (fun _ => none)⟩
@[go_sem] theorem h96e : h96.late = (fun _ => none) := rfl
@[go_sem] theorem h96x : h96.mix = h96M := rfl
@[go_sem] theorem h96l : h96.live = h96a := rfl
@[go_sem] theorem h96o : h96.mode = fun _ => 0 := rfl
@[go_sem] theorem h96k : h96.keep = (fun _ => none) := rfl
@[go_sem] theorem h96t : h96.tail = (fun id => match id with | 1 => some 6 | 19 => some 5 | _ => none) := rfl
@[go_sem] theorem h96v : h96.vars = [] := rfl
@[go_sem] theorem h96m : h96.mutc = false := rfl
@[go_sem] def h97a : Nat -> Option (List Nat) := (fun id => match id with | 0 => some [0, 1] | 1 => some [4] | _ => none)
abbrev h97 : Hint := HQ h97a
@[go_sem] def h100a : Nat -> Option (List Nat) := (fun id => match id with | 0 => some [0] | 1 => some [3] | 2 => some [3, 8, 9, 10] | 3 => some [3, 8, 9, 10, 11] | 4 => some [3, 4, 5, 8, 9, 10] | 5 => some [3, 4, 5, 8, 9, 10, 20] | 6 => some [3, 4, 5, 8, 9, 10, 20] | 7 => some [3, 8, 9, 10] | 8 => some [2] | _ => none)
def h100 : Hint := ⟨h100a, (fun _ => none), (fun _ => none), [], true, (fun _ => none), fun _ => 0, 0, false, (fun _ => none)⟩
@[go_sem] theorem h100x : h100.mix = (fun _ => none) := rfl
@[go_sem] theorem h100l : h100.live = h100a := rfl
@[go_sem] theorem h100o : h100.mode = fun _ => 0 := rfl
@[go_sem] theorem h100k : h100.keep = (fun _ => none) := rfl
@[go_sem] theorem h100t : h100.tail = (fun _ => none) := rfl
@[go_sem] theorem h100v : h100.vars = [] := rfl
@[go_sem] theorem h100m : h100.mutc = true := rfl
@[go_sem] def h102a : Nat -> Option (List Nat) := (fun id => match id with | 0 => some [0] | 1 => some [0, 4] | 2 => some [2, 3] | 3 => some [0, 9] | 4 => some [2, 3] | 5 => some [0, 19] | 6 => some [2, 3] | 7 => some [2, 3] | _ => none)
abbrev h102 : Hint := HQ h102a
@[go_sem] def h103a : Nat -> Option (List Nat) := (fun id => match id with | 0 => some [0, 1] | 1 => some [0, 1, 14] | 2 => some [0, 1] | 3 => some [4] | _ => none)
abbrev h103 : Hint := HQ h103a
@[go_sem] def h104a : Nat -> Option (List Nat) := (fun id => match id with | 0 => some [0] | 1 => some [0] | _ => none)
abbrev h104 : Hint := HQ h104a
@[go_sem] def h105a : Nat -> Option (List Nat) := (fun id => match id with | 0 => some [0, 1, 2, 6] | 1 => some [0, 1, 2, 6, 7, 8] | 2 => some [0, 1, 2, 6, 7, 8, 25] | 3 => some [0, 1, 2, 6, 7, 8] | 4 => some [0, 1, 2, 6, 7, 8, 30] | 5 => some [6] | 6 => some [0, 1, 2, 6, 7, 8, 36] | 7 => some [0, 1, 2, 6, 7, 8] | 8 => some [0, 1, 2, 6, 7, 8, 30] | 9 => some [0, 1, 2, 6, 7, 8, 44] | 10 => some [6] | 11 => some [0, 1, 2, 6, 7, 8, 9] | 12 => some [0, 2, 6, 9, 50, 51, 52] | 13 => some [0, 2, 6, 9, 50, 51, 52, 53] | 14 => some [0, 2, 6, 9, 11, 50, 51, 52] | 15 => some [0, 2, 6, 9, 50, 51, 52] | 16 => some [0, 2, 6, 9, 50, 51, 52] | 17 => some [0, 2, 6, 9, 12] | 18 => some [0, 2, 6, 9, 12, 64] | 19 => some [0, 2, 6, 9, 12] | 20 => some [0, 2, 6, 9, 12, 68] | 21 => some [6] | 22 => some [0, 2, 6, 9, 12] | 23 => some [0, 6, 9, 12, 13, 14] | 24 => some [0, 6, 9, 12, 13, 14, 82] | 25 => some [0, 6, 9, 12, 13, 14] | 26 => some [0, 6, 9, 12, 13, 14, 93] | 27 => some [0, 6, 9, 12, 13, 14] | 28 => some [0, 6, 9, 12, 13, 14, 103] | 29 => some [6] | 30 => some [0, 6, 9, 12, 13, 14, 106] | 31 => some [0, 6, 9, 12, 13, 14, 103] | 32 => some [0, 6, 9, 12, 13, 14] | 33 => some [0, 6, 9, 12, 14, 112] | 34 => some [0, 6, 9, 12, 13, 14, 103] | 35 => some [0, 6, 9, 12, 14, 116] | 36 => some [6] | 37 => some [0, 6, 9, 12, 14] | 38 => some [6, 9, 12, 120] | 39 => some [6] | 40 => some [6] | _ => none)
abbrev h105 : Hint := HQ h105a
@[go_sem] def h106a : Nat -> Option (List Nat) := (fun id => match id with | 0 => some [0, 2] | 1 => some [0, 2, 3] | 2 => some [0, 2, 3] | 3 => some [0, 2, 3, 18] | 4 => some [2] | 5 => some [0, 2, 23] | 6 => some [0, 2] | _ => none)
abbrev h106 : Hint := HQ h106a
@[go_sem] def h107a : Nat -> Option (List Nat) := (fun id => match id with | 0 => some [0] | 1 => some [2] | _ => none)
abbrev h107 : Hint := HQ h107a
@[go_sem] def h108a : Nat -> Option (List Nat) := (fun id => match id with | 0 => some [0] | 1 => some [0, 4] | 2 => some [0, 4, 5, 6] | 3 => some [0, 4, 5, 6] | 4 => some [2, 3] | 5 => some [0, 4, 5, 6, 13] | 6 => some [2, 3] | 7 => some [0, 4, 5, 6, 18] | 8 => some [0, 5, 6, 7, 8] | 9 => some [0, 4, 5, 6, 28] | 10 => some [0, 4, 5, 6, 7, 8] | 11 => some [0, 5, 6, 7, 8, 38] | 12 => some [0, 5, 6, 7, 8, 38, 39] | 13 => some [0, 5, 6, 7, 8, 38, 39] | 14 => some [0, 5, 6, 7, 8, 41] | 15 => some [0, 5, 6, 7, 8, 38, 39] | 16 => some [0, 4, 5, 6, 43] | 17 => some [0, 4, 5, 6, 7, 8] | 18 => some [0, 5, 6, 7, 8, 53] | 19 => some [0, 5, 6, 7, 8, 53, 54] | 20 => some [0, 5, 6, 7, 8, 53, 54] | 21 => some [0, 5, 6, 7, 8, 56] | 22 => some [0, 5, 6, 7, 8, 53, 54] | 23 => some [0, 5, 6, 7, 8, 58, 59] | 24 => some [0, 5, 6, 7, 8, 58, 59, 60] | 25 => some [0, 5, 6, 7, 8, 9, 58, 59] | 26 => some [0, 7, 8, 9, 58, 59, 84] | 27 => some [2, 3] | 28 => some [0, 7, 8, 58, 59] | 29 => some [0, 5, 6, 7, 8, 58, 59] | 30 => some [0, 5, 6, 7, 8, 58, 59] | 31 => some [2, 3] | _ => none)
abbrev h108 : Hint := HQ h108a
@[go_sem] def h109a : Nat -> Option (List Nat) := (fun id => match id with | 0 => some [0] | 1 => some [3] | 2 => some [3, 8, 9, 10] | 3 => some [3, 8, 9, 10, 11] | 4 => some [3, 4, 5, 8, 9, 10] | 5 => some [3, 4, 5, 8, 9, 10, 20] | 6 => some [3, 4, 5, 8, 9, 10, 20] | 7 => some [3, 8, 9, 10] | 8 => some [2] | _ => none)
abbrev h109 : Hint := HQ h109a
@[go_sem] def h110a : Nat -> Option (List Nat) := (fun id => match id with | 0 => some [] | 1 => some [0] | _ => none)
abbrev h110 : Hint := HQ h110a
@[go_sem] def h111a : Nat -> Option (List Nat) := (fun id => match id with | 0 => some [0] | 1 => some [0, 5] | 2 => some [0, 5, 6] | 3 => some [0, 5, 6] | 4 => some [0, 5, 6, 7, 8] | 5 => some [0, 5, 6, 7, 8, 57] | 6 => some [0, 5, 6, 7, 8, 30] | 7 => some [9, 10] | 8 => some [2, 3, 4] | 9 => some [0, 5, 6, 7, 8, 41] | 10 => some [2, 3, 4] | 11 => some [0, 5, 6, 7, 8, 49] | 12 => some [2, 3, 4] | 13 => some [0, 5, 6, 7, 8, 57] | 14 => some [0, 5, 6, 7, 8, 57] | 15 => some [0, 6, 7, 8, 66] | 16 => some [0, 6, 7, 8, 11, 12] | 17 => some [0, 6, 7, 8, 11, 75] | 18 => some [0, 5, 6, 7, 8, 57] | 19 => some [0, 6, 7, 83] | 20 => some [2, 3, 4] | 21 => some [0, 6, 7, 13, 14] | 22 => some [0, 6, 7, 13, 89] | 23 => some [7, 15, 16] | 24 => some [2, 3, 4] | 25 => some [0, 7, 99] | 26 => some [2, 3, 4] | 27 => some [0, 7, 101] | 28 => some [2, 3, 4] | 29 => some [7, 8, 17] | 30 => some [2, 3, 4] | _ => none)
abbrev h111 : Hint := HQ h111a
@[go_sem] def h114a : Nat -> Option (List Nat) := (fun id => match id with | 0 => some [0] | 1 => some [2] | _ => none)
abbrev h114 : Hint := HQ h114a
@[go_sem] def h115a : Nat -> Option (List Nat) := (fun id => match id with | 0 => some [0, 2] | 1 => some [2] | _ => none)
abbrev h115 : Hint := HQ h115a
@[go_sem] def h116a : Nat -> Option (List Nat) := (fun id => match id with | 0 => some [1] | 1 => some [1, 30] | 2 => some [2, 3] | 3 => some [2, 3] | _ => none)
abbrev h116 : Hint := HQ h116a
@[go_sem] def h117a : Nat -> Option (List Nat) := (fun id => match id with | 0 => some [0, 1] | 1 => some [4, 5] | _ => none)
abbrev h117 : Hint := HQ h117a
@[go_sem] def h118a : Nat -> Option (List Nat) := (fun id => match id with | 0 => some [0, 1] | 1 => some [4] | _ => none)
abbrev h118 : Hint := HQ h118a
@[go_sem] def h119a : Nat -> Option (List Nat) := (fun id => match id with | 0 => some [0] | 1 => some [0, 14] | 2 => some [2, 3] | 3 => some [0, 4] | 4 => some [4, 16, 17, 18] | 5 => some [4, 16, 17, 18, 19] | 6 => some [4, 6, 16, 17, 18] | 7 => some [4, 6, 16, 17, 18, 27] | 8 => some [2, 3] | 9 => some [4, 16, 17, 18] | 10 => some [4, 16, 17, 18] | 11 => some [2, 3] | _ => none)
abbrev h119 : Hint := HQ h119a
@[go_sem] def h120a : Nat -> Option (List Nat) := (fun id => match id with | 0 => some [0] | 1 => some [0] | 2 => some [0, 13] | 3 => some [0] | 4 => some [2, 3] | 5 => some [0, 38] | 6 => some [2, 3] | 7 => some [0, 4] | 8 => some [0, 4] | 9 => some [0, 4] | 10 => some [0, 4, 5] | 11 => some [4, 5] | 12 => some [4, 5, 6, 7] | 13 => some [5, 6, 7, 64] | 14 => some [5, 6, 7, 64] | 15 => some [2, 3] | _ => none)
@[go_sem] def h120M : Nat -> Option Mix := (fun id => match id with | 15 => some ⟨[0, 1, 2, 3, 4, 5, 6, 7, 8, 9, 10, 11, 12], [], .head 0 (.head 1 (.head 2 (.head 3 (.head 4 (.head 5 (.head 6 (.head 7 (.alt (.one 8 (.alt (.one 9 (.alt (.one 10 (.alt (.one 11 (.alt (.one 12 (.one 13 (.one 14 (.fin)))) (.one 13 (.head 12 (.one 14 (.fin)))))) (.one 13 (.head 11 (.head 12 (.one 14 (.fin))))))) (.one 13 (.head 10 (.head 11 (.head 12 (.one 14 (.fin)))))))) (.one 13 (.head 9 (.head 10 (.head 11 (.head 12 (.one 14 (.fin))))))))) (.one 13 (.head 8 (.head 9 (.head 10 (.head 11 (.head 12 (.one 14 (.fin))))))))))))))))⟩ | _ => none)
def h120 : Hint := ⟨h120a, (fun _ => none), (fun id => match id with | 4 => some 15 | 15 => some 13 | _ => none), [], false, h120M, fun _ => 0, 0, false, (fun _ => none)⟩
@[go_sem] theorem h120e : h120.late = (fun _ => none) := rfl
@[go_sem] theorem h120x : h120.mix = h120M := rfl
@[go_sem] theorem h120l : h120.live = h120a := rfl
@[go_sem] theorem h120o : h120.mode = fun _ => 0 := rfl
@[go_sem] theorem h120k : h120.keep = (fun _ => none) := rfl
@[go_sem] theorem h120t : h120.tail = (fun id => match id with | 4 => some 15 | 15 => some 13 | _ => none) := rfl
@[go_sem] theorem h120v : h120.vars = [] := rfl
@[go_sem] theorem h120m : h120.mutc = false := rfl
@[go_sem] def h128a : Nat -> Option (List Nat) := (fun id => match id with | 0 => some [1] | 1 => some [2] | _ => none)
abbrev h128 : Hint := HQ h128a
@[go_sem] def h129a : Nat -> Option (List Nat) := (fun id => match id with | 0 => some [0, 1] | 1 => some [0, 1, 9] | 2 => some [4, 5] | 3 => some [4, 5] | _ => none)
abbrev h129 : Hint := HQ h129a
@[go_sem] def h130a : Nat -> Option (List Nat) := (fun id => match id with | 0 => some [0, 1] | 1 => some [4] | _ => none)
abbrev h130 : Hint := HQ h130a
@[go_sem] def h134a : Nat -> Option (List Nat) := (fun id => match id with | 0 => some [1] | 1 => some [2] | _ => none)
def h134 : Hint := ⟨h134a, (fun _ => none), (fun id => match id with | 1 => some 18 | _ => none), [], false, (fun _ => none), fun _ => 0, 0, false, (fun _ => none)⟩
@[go_sem] theorem h134e : h134.late = (fun _ => none) := rfl
@[go_sem] theorem h134x : h134.mix = (fun _ => none) := rfl
@[go_sem] theorem h134l : h134.live = h134a := rfl
@[go_sem] theorem h134o : h134.mode = fun _ => 0 := rfl
@[go_sem] theorem h134k : h134.keep = (fun _ => none) := rfl
@[go_sem] theorem h134t : h134.tail = (fun id => match id with | 1 => some 18 | _ => none) := rfl
@[go_sem] theorem h134v : h134.vars = [] := rfl
@[go_sem] theorem h134m : h134.mutc = false := rfl
@[go_sem] def h136a : Nat -> Option (List Nat) := (fun id => match id with | 0 => some [0, 1] | 1 => some [0, 1, 6] | 2 => some [0, 1] | 3 => some [4] | _ => none)
abbrev h136 : Hint := HQ h136a
@[go_sem] def h137a : Nat -> Option (List Nat) := (fun id => match id with | 0 => some [0] | 1 => some [0, 4] | 2 => some [2] | 3 => some [2] | _ => none)
abbrev h137 : Hint := HQ h137a
def hints (f : Nat) : Hint := match f with
 | 3 => h3
 | 6 => h6
 | 7 => h7
 | 8 => h8
 | 9 => h9
 | 10 => h10
 | 11 => h11
 | 12 => h12
 | 13 => h13
 | 16 => h16
 | 17 => h17
 | 18 => h18
 | 19 => h19
 | 20 => h20
 | 21 => h21
 | 22 => h22
 | 23 => h23
 | 26 => h26
 | 27 => h27
 | 28 => h28
 | 29 => h29
 | 30 => h30
 | 31 => h31
 | 32 => h32
 | 33 => h33
 | 34 => h34
 | 35 => h35
 | 39 => h39
 | 40 => h40
 | 41 => h41
 | 42 => h42
 | 43 => h43
 | 44 => h44
 | 45 => h45
 | 46 => h46
 | 47 => h47
 | 48 => h48
 | 49 => h49
 | 50 => h50
 | 56 => h56
 | 57 => h57
 | 58 => h58
 | 59 => h59
 | 60 => h60
 | 61 => h61
 | 62 => h62
 | 63 => h63
 | 64 => h64
 | 65 => h65
 | 66 => h66
 | 67 => h67
 | 68 => h68
 | 69 => h69
 | 70 => h70
 | 71 => h71
 | 72 => h72
 | 73 => h73
 | 74 => h74
 | 75 => h75
 | 76 => h76
 | 77 => h77
 | 83 => h83
 | 84 => h84
 | 85 => h85
 | 86 => h86
 | 87 => h87
 | 88 => h88
 | 89 => h89
 | 90 => h90
 | 91 => h91
 | 92 => h92
 | 93 => h93
 | 94 => h94
 | 95 => h95
 | 96 => h96
 | 97 => h97
 | 100 => h100
 | 102 => h102
 | 103 => h103
 | 104 => h104
 | 105 => h105
 | 106 => h106
 | 107 => h107
 | 108 => h108
 | 109 => h109
 | 110 => h110
 | 111 => h111
 | 114 => h114
 | 115 => h115
 | 116 => h116
 | 117 => h117
 | 118 => h118
 | 119 => h119
 | 120 => h120
 | 128 => h128
 | 129 => h129
 | 130 => h130
 | 134 => h134
 | 136 => h136
 | 137 => h137
 | _ => ⟨fun _ => none, fun _ => none, fun _ => none, [], false, fun _ => none, fun _ => 0, 0, false, fun _ => none⟩
variable [MX]
noncomputable def E : CallF := ev Tryz.prog hints primz
noncomputable def b3 : Code := bodyOf Tryz.f3
noncomputable def l3x0 : Code := loopAt b3 0
abbrev EQ (f n : Nat) (rs : List ResultVar) (hi : Hint) (b : Code) : Prop := ∀ {lo : Nat} {args : List V} {h : Heap}, args.length <= n -> args.all bare = true -> E lo f args h = fin Tryz.prog rs h.length (evCode ⟨Tryz.prog, E, lo, h.length, hi⟩ loopW b (args0 args, h))
theorem e3 : EQ 3 71 [.tmp 8] h3 b3 := fun ha hb => ev_body rfl Tryz.func3 rfl Tryz.ntmps3 (by kernel_rfl) rfl (by kernel_rfl) rfl rfl rfl ha hb
noncomputable def b6 : Code := bodyOf Tryz.f6
theorem e6 : EQ 6 11 [.cell 2 26, .tmp 3] h6 b6 := fun ha hb => ev_body rfl Tryz.func6 rfl Tryz.ntmps6 (by kernel_rfl) rfl (by kernel_rfl) rfl rfl rfl ha hb
noncomputable def b7 : Code := bodyOf Tryz.f7
theorem e7 : EQ 7 5 [.tmp 2] h7 b7 := fun ha hb => ev_body rfl Tryz.func7 rfl Tryz.ntmps7 (by kernel_rfl) rfl (by kernel_rfl) rfl rfl rfl ha hb
noncomputable def b8 : Code := bodyOf Tryz.f8
noncomputable def l8x0 : Code := loopAt b8 0
noncomputable def l8x1 : Code := loopAt b8 1
noncomputable def l8x2 : Code := loopAt b8 2
noncomputable def l8x3 : Code := loopAt b8 3
theorem e8 : EQ 8 73 [.cell 2 26] h8 b8 := fun ha hb => ev_body rfl Tryz.func8 rfl Tryz.ntmps8 (by kernel_rfl) rfl (by kernel_rfl) rfl rfl rfl ha hb
noncomputable def b9 : Code := bodyOf Tryz.f9
noncomputable def l9x0 : Code := loopAt b9 0
theorem e9 : EQ 9 24 [.tmp 4] h9 b9 := fun ha hb => ev_body rfl Tryz.func9 rfl Tryz.ntmps9 (by kernel_rfl) rfl (by kernel_rfl) rfl rfl rfl ha hb
noncomputable def b10 : Code := bodyOf Tryz.f10
noncomputable def l10x0 : Code := loopAt b10 0
theorem e10 : EQ 10 27 [.tmp 4] h10 b10 := fun ha hb => ev_body rfl Tryz.func10 rfl Tryz.ntmps10 (by kernel_rfl) rfl (by kernel_rfl) rfl rfl rfl ha hb
noncomputable def b11 : Code := bodyOf Tryz.f11
noncomputable def l11x0 : Code := loopAt b11 0
theorem e11 : EQ 11 23 [.cell 2 26] h11 b11 := fun ha hb => ev_body rfl Tryz.func11 rfl Tryz.ntmps11 (by kernel_rfl) rfl (by kernel_rfl) rfl rfl rfl ha hb
noncomputable def b12 : Code := bodyOf Tryz.f12
noncomputable def b13 : Code := bodyOf Tryz.f13
theorem e13 : EQ 13 22 [.tmp 2, .tmp 3] h13 b13 := fun ha hb => ev_body rfl Tryz.func13 rfl Tryz.ntmps13 (by kernel_rfl) rfl (by kernel_rfl) rfl rfl rfl ha hb
noncomputable def b16 : Code := bodyOf Tryz.f16
noncomputable def l16x0 : Code := loopAt b16 0
noncomputable def l16x1 : Code := loopAt b16 1
theorem e16 : EQ 16 66 [.tmp 2] h16 b16 := fun ha hb => ev_body rfl Tryz.func16 rfl Tryz.ntmps16 (by kernel_rfl) rfl (by kernel_rfl) rfl rfl rfl ha hb
noncomputable def b17 : Code := bodyOf Tryz.f17
theorem e17 : EQ 17 6 [.tmp 2] h17 b17 := fun ha hb => ev_body rfl Tryz.func17 rfl Tryz.ntmps17 (by kernel_rfl) rfl (by kernel_rfl) rfl rfl rfl ha hb
noncomputable def b18 : Code := bodyOf Tryz.f18
theorem e18 : EQ 18 5 [.tmp 2] h18 b18 := fun ha hb => ev_body rfl Tryz.func18 rfl Tryz.ntmps18 (by kernel_rfl) rfl (by kernel_rfl) rfl rfl rfl ha hb
noncomputable def b19 : Code := bodyOf Tryz.f19
noncomputable def l19x0 : Code := loopAt b19 0
noncomputable def l19x1 : Code := loopAt b19 1
noncomputable def l19x2 : Code := loopAt b19 2
theorem e19 : EQ 19 41 [.cell 2 26] h19 b19 := fun ha hb => ev_body rfl Tryz.func19 rfl Tryz.ntmps19 (by kernel_rfl) rfl (by kernel_rfl) rfl rfl rfl ha hb
noncomputable def b20 : Code := bodyOf Tryz.f20
noncomputable def l20x0 : Code := loopAt b20 0
noncomputable def l20x1 : Code := loopAt b20 1
noncomputable def l20x2 : Code := loopAt b20 2
theorem e20 : EQ 20 92 [.tmp 4] h20 b20 := fun ha hb => ev_body rfl Tryz.func20 rfl Tryz.ntmps20 (by kernel_rfl) rfl (by kernel_rfl) rfl rfl rfl ha hb
noncomputable def b21 : Code := bodyOf Tryz.f21
theorem e21 : EQ 21 7 [.tmp 2] h21 b21 := fun ha hb => ev_body rfl Tryz.func21 rfl Tryz.ntmps21 (by kernel_rfl) rfl (by kernel_rfl) rfl rfl rfl ha hb
noncomputable def b22 : Code := bodyOf Tryz.f22
theorem e22 : EQ 22 5 [.tmp 2] h22 b22 := fun ha hb => ev_body rfl Tryz.func22 rfl Tryz.ntmps22 (by kernel_rfl) rfl (by kernel_rfl) rfl rfl rfl ha hb
noncomputable def b23 : Code := bodyOf Tryz.f23
noncomputable def l23x0 : Code := loopAt b23 0
theorem e23 : EQ 23 31 [.tmp 2, .tmp 3] h23 b23 := fun ha hb => ev_body rfl Tryz.func23 rfl Tryz.ntmps23 (by kernel_rfl) rfl (by kernel_rfl) rfl rfl rfl ha hb
noncomputable def b26 : Code := bodyOf Tryz.f26
theorem e26 : EQ 26 11 [.tmp 2] h26 b26 := fun ha hb => ev_body rfl Tryz.func26 rfl Tryz.ntmps26 (by kernel_rfl) rfl (by kernel_rfl) rfl rfl rfl ha hb
noncomputable def b27 : Code := bodyOf Tryz.f27
theorem e27 : EQ 27 56 [.tmp 2] h27 b27 := fun ha hb => ev_body rfl Tryz.func27 rfl Tryz.ntmps27 (by kernel_rfl) rfl (by kernel_rfl) rfl rfl rfl ha hb
noncomputable def b28 : Code := bodyOf Tryz.f28
noncomputable def l28x0 : Code := loopAt b28 0
theorem e28 : EQ 28 19 [.tmp 2] h28 b28 := fun ha hb => ev_body rfl Tryz.func28 rfl Tryz.ntmps28 (by kernel_rfl) rfl (by kernel_rfl) rfl rfl rfl ha hb
noncomputable def b29 : Code := bodyOf Tryz.f29
noncomputable def l29x0 : Code := loopAt b29 0
theorem e29 : EQ 29 58 [.tmp 2] h29 b29 := fun ha hb => ev_body rfl Tryz.func29 rfl Tryz.ntmps29 (by kernel_rfl) rfl (by kernel_rfl) rfl rfl rfl ha hb
noncomputable def b30 : Code := bodyOf Tryz.f30
noncomputable def l30x0 : Code := loopAt b30 0
noncomputable def l30x1 : Code := loopAt b30 1
noncomputable def l30x2 : Code := loopAt b30 2
theorem e30 : EQ 30 82 [.tmp 4] h30 b30 := fun ha hb => ev_body rfl Tryz.func30 rfl Tryz.ntmps30 (by kernel_rfl) rfl (by kernel_rfl) rfl rfl rfl ha hb
noncomputable def b31 : Code := bodyOf Tryz.f31
noncomputable def l31x0 : Code := loopAt b31 0
theorem e31 : EQ 31 37 [.cell 2 26] h31 b31 := fun ha hb => ev_body rfl Tryz.func31 rfl Tryz.ntmps31 (by kernel_rfl) rfl (by kernel_rfl) rfl rfl rfl ha hb
noncomputable def b32 : Code := bodyOf Tryz.f32
theorem e32 : EQ 32 165 [.tmp 4] h32 b32 := fun ha hb => ev_body rfl Tryz.func32 rfl Tryz.ntmps32 (by kernel_rfl) rfl (by kernel_rfl) rfl rfl rfl ha hb
noncomputable def b33 : Code := bodyOf Tryz.f33
noncomputable def l33x0 : Code := loopAt b33 0
theorem e33 : EQ 33 43 [.tmp 4] h33 b33 := fun ha hb => ev_body rfl Tryz.func33 rfl Tryz.ntmps33 (by kernel_rfl) rfl (by kernel_rfl) rfl rfl rfl ha hb
noncomputable def b34 : Code := bodyOf Tryz.f34
noncomputable def l34x0 : Code := loopAt b34 0
theorem e34 : EQ 34 36 [.tmp 2] h34 b34 := fun ha hb => ev_body rfl Tryz.func34 rfl Tryz.ntmps34 (by kernel_rfl) rfl (by kernel_rfl) rfl rfl rfl ha hb
noncomputable def b35 : Code := bodyOf Tryz.f35
noncomputable def l35x0 : Code := loopAt b35 0
theorem c35 : codeOk Tryz.prog h35 46 b35 = true := by kernel_rfl
/- a method -/
theorem e35 {lo : Nat} {args : List V} {h : Heap} (ha : args.length <= 46) (hb : args.all bare = true) :
  E lo 35 args h = fin Tryz.prog [.cell 2 24, .tmp 3] h.length (evCode ⟨Tryz.prog, E, lo, h.length, h35⟩ loopW b35 (args0 args, h)) :=
 ev_body rfl Tryz.func35 rfl Tryz.ntmps35 (by kernel_rfl) rfl c35 rfl rfl rfl ha hb
noncomputable def b39 : Code := bodyOf Tryz.f39
noncomputable def l39x0 : Code := loopAt b39 0
noncomputable def l39x1 : Code := loopAt b39 1
theorem c39 : codeOk Tryz.prog h39 44 b39 = true := by kernel_rfl
/- a method -/
theorem e39 {lo : Nat} {args : List V} {h : Heap} (ha : args.length <= 44) (hb : args.all bare = true) :
  E lo 39 args h = fin Tryz.prog [] h.length (evCode ⟨Tryz.prog, E, lo, h.length, h39⟩ loopW b39 (args0 args, h)) :=
 ev_body rfl Tryz.func39 rfl Tryz.ntmps39 (by kernel_rfl) rfl c39 rfl rfl rfl ha hb
noncomputable def b40 : Code := bodyOf Tryz.f40
theorem c40 : codeOk Tryz.prog h40 33 b40 = true := by kernel_rfl
/- a method -/
theorem e40 {lo : Nat} {args : List V} {h : Heap} (ha : args.length <= 33) (hb : args.all bare = true) :
  E lo 40 args h = fin Tryz.prog [.tmp 4] h.length (evCode ⟨Tryz.prog, E, lo, h.length, h40⟩ loopW b40 (args0 args, h)) :=
 ev_body rfl Tryz.func40 rfl Tryz.ntmps40 (by kernel_rfl) rfl c40 rfl rfl rfl ha hb
noncomputable def b41 : Code := bodyOf Tryz.f41
noncomputable def l41x0 : Code := loopAt b41 0
theorem c41 : codeOk Tryz.prog h41 177 b41 = true := by kernel_rfl
/- a method -/
theorem e41 {lo : Nat} {args : List V} {h : Heap} (ha : args.length <= 177) (hb : args.all bare = true) :
  E lo 41 args h = fin Tryz.prog [.cell 2 64] h.length (evCode ⟨Tryz.prog, E, lo, h.length, h41⟩ loopW b41 (args0 args, h)) :=
 ev_body rfl Tryz.func41 rfl Tryz.ntmps41 (by kernel_rfl) rfl c41 rfl rfl rfl ha hb
noncomputable def b42 : Code := bodyOf Tryz.f42
noncomputable def l42x0 : Code := loopAt b42 0
theorem e42 : EQ 42 27 [.tmp 2] h42 b42 := fun ha hb => ev_body rfl Tryz.func42 rfl Tryz.ntmps42 (by kernel_rfl) rfl (by kernel_rfl) rfl rfl rfl ha hb
noncomputable def b43 : Code := bodyOf Tryz.f43
theorem e43 : EQ 43 135 [.tmp 4] h43 b43 := fun ha hb => ev_body rfl Tryz.func43 rfl Tryz.ntmps43 (by kernel_rfl) rfl (by kernel_rfl) rfl rfl rfl ha hb
noncomputable def b44 : Code := bodyOf Tryz.f44
theorem e44 : EQ 44 11 [.tmp 2] h44 b44 := fun ha hb => ev_body rfl Tryz.func44 rfl Tryz.ntmps44 (by kernel_rfl) rfl (by kernel_rfl) rfl rfl rfl ha hb
noncomputable def b45 : Code := bodyOf Tryz.f45
theorem e45 : EQ 45 12 [.tmp 2] h45 b45 := fun ha hb => ev_body rfl Tryz.func45 rfl Tryz.ntmps45 (by kernel_rfl) rfl (by kernel_rfl) rfl rfl rfl ha hb
noncomputable def b46 : Code := bodyOf Tryz.f46
theorem e46 : EQ 46 6 [.tmp 2] h46 b46 := fun ha hb => ev_body rfl Tryz.func46 rfl Tryz.ntmps46 (by kernel_rfl) rfl (by kernel_rfl) rfl rfl rfl ha hb
noncomputable def b47 : Code := bodyOf Tryz.f47
noncomputable def l47x0 : Code := loopAt b47 0
theorem c47 : codeOk Tryz.prog h47 79 b47 = true := by kernel_rfl
/- a method -/
theorem e47 {lo : Nat} {args : List V} {h : Heap} (ha : args.length <= 79) (hb : args.all bare = true) :
  E lo 47 args h = fin Tryz.prog [.tmp 4] h.length (evCode ⟨Tryz.prog, E, lo, h.length, h47⟩ loopW b47 (args0 args, h)) :=
 ev_body rfl Tryz.func47 rfl Tryz.ntmps47 (by kernel_rfl) rfl c47 rfl rfl rfl ha hb
noncomputable def b48 : Code := bodyOf Tryz.f48
theorem c48 : codeOk Tryz.prog h48 13 b48 = true := by kernel_rfl
/- a method -/
theorem e48 {lo : Nat} {args : List V} {h : Heap} (ha : args.length <= 13) (hb : args.all bare = true) :
  E lo 48 args h = fin Tryz.prog [.tmp 2] h.length (evCode ⟨Tryz.prog, E, lo, h.length, h48⟩ loopW b48 (args0 args, h)) :=
 ev_body rfl Tryz.func48 rfl Tryz.ntmps48 (by kernel_rfl) rfl c48 rfl rfl rfl ha hb
noncomputable def b49 : Code := bodyOf Tryz.f49
noncomputable def l49x0 : Code := loopAt b49 0
theorem c49 : codeOk Tryz.prog h49 25 b49 = true := by kernel_rfl
/- a method -/
theorem e49 {lo : Nat} {args : List V} {h : Heap} (ha : args.length <= 25) (hb : args.all bare = true) :
  E lo 49 args h = fin Tryz.prog [.tmp 2] h.length (evCode ⟨Tryz.prog, E, lo, h.length, h49⟩ loopW b49 (args0 args, h)) :=
 ev_body rfl Tryz.func49 rfl Tryz.ntmps49 (by kernel_rfl) rfl c49 rfl rfl rfl ha hb
noncomputable def b50 : Code := bodyOf Tryz.f50
theorem c50 : codeOk Tryz.prog h50 26 b50 = true := by kernel_rfl
/- a method -/
theorem e50 {lo : Nat} {args : List V} {h : Heap} (ha : args.length <= 26) (hb : args.all bare = true) :
  E lo 50 args h = fin Tryz.prog [.tmp 6] h.length (evCode ⟨Tryz.prog, E, lo, h.length, h50⟩ loopW b50 (args0 args, h)) :=
 ev_body rfl Tryz.func50 rfl Tryz.ntmps50 (by kernel_rfl) rfl c50 rfl rfl rfl ha hb
noncomputable def b56 : Code := bodyOf Tryz.f56
theorem e56 : EQ 56 17 [.tmp 2] h56 b56 := fun ha hb => ev_body rfl Tryz.func56 rfl Tryz.ntmps56 (by kernel_rfl) rfl (by kernel_rfl) rfl rfl rfl ha hb
noncomputable def b57 : Code := bodyOf Tryz.f57
theorem e57 : EQ 57 13 [.tmp 2] h57 b57 := fun ha hb => ev_body rfl Tryz.func57 rfl Tryz.ntmps57 (by kernel_rfl) rfl (by kernel_rfl) rfl rfl rfl ha hb
noncomputable def b58 : Code := bodyOf Tryz.f58
noncomputable def l58x0 : Code := loopAt b58 0
theorem c58 : codeOk Tryz.prog h58 12 b58 = true := by kernel_rfl
/- a method -/
theorem e58 {lo : Nat} {args : List V} {h : Heap} (ha : args.length <= 12) (hb : args.all bare = true) :
  E lo 58 args h = fin Tryz.prog [] h.length (evCode ⟨Tryz.prog, E, lo, h.length, h58⟩ loopW b58 (args0 args, h)) :=
 ev_body rfl Tryz.func58 rfl Tryz.ntmps58 (by kernel_rfl) rfl c58 rfl rfl rfl ha hb
noncomputable def b59 : Code := bodyOf Tryz.f59
noncomputable def l59x0 : Code := loopAt b59 0
theorem c59 : codeOk Tryz.prog h59 79 b59 = true := by kernel_rfl
/- a method -/
theorem e59 {lo : Nat} {args : List V} {h : Heap} (ha : args.length <= 79) (hb : args.all bare = true) :
  E lo 59 args h = fin Tryz.prog [.cell 4 64] h.length (evCode ⟨Tryz.prog, E, lo, h.length, h59⟩ loopW b59 (args0 args, h)) :=
 ev_body rfl Tryz.func59 rfl Tryz.ntmps59 (by kernel_rfl) rfl c59 rfl rfl rfl ha hb
noncomputable def b60 : Code := bodyOf Tryz.f60
theorem e60 : EQ 60 13 [.tmp 2] h60 b60 := fun ha hb => ev_body rfl Tryz.func60 rfl Tryz.ntmps60 (by kernel_rfl) rfl (by kernel_rfl) rfl rfl rfl ha hb
noncomputable def b61 : Code := bodyOf Tryz.f61
theorem e61 : EQ 61 11 [.tmp 4] h61 b61 := fun ha hb => ev_body rfl Tryz.func61 rfl Tryz.ntmps61 (by kernel_rfl) rfl (by kernel_rfl) rfl rfl rfl ha hb
noncomputable def b62 : Code := bodyOf Tryz.f62
theorem e62 : EQ 62 27 [.tmp 6] h62 b62 := fun ha hb => ev_body rfl Tryz.func62 rfl Tryz.ntmps62 (by kernel_rfl) rfl (by kernel_rfl) rfl rfl rfl ha hb
noncomputable def b63 : Code := bodyOf Tryz.f63
noncomputable def l63x0 : Code := loopAt b63 0
theorem c63 : codeOk Tryz.prog h63 44 b63 = true := by kernel_rfl
/- a method -/
theorem e63 {lo : Nat} {args : List V} {h : Heap} (ha : args.length <= 44) (hb : args.all bare = true) :
  E lo 63 args h = fin Tryz.prog [.tmp 2] h.length (evCode ⟨Tryz.prog, E, lo, h.length, h63⟩ loopW b63 (args0 args, h)) :=
 ev_body rfl Tryz.func63 rfl Tryz.ntmps63 (by kernel_rfl) rfl c63 rfl rfl rfl ha hb
noncomputable def b64 : Code := bodyOf Tryz.f64
theorem e64 : EQ 64 25 [.tmp 6] h64 b64 := fun ha hb => ev_body rfl Tryz.func64 rfl Tryz.ntmps64 (by kernel_rfl) rfl (by kernel_rfl) rfl rfl rfl ha hb
noncomputable def b65 : Code := bodyOf Tryz.f65
theorem c65 : codeOk Tryz.prog h65 122 b65 = true := by kernel_rfl
/- a method -/
theorem e65 {lo : Nat} {args : List V} {h : Heap} (ha : args.length <= 122) (hb : args.all bare = true) :
  E lo 65 args h = fin Tryz.prog [.cell 2 64] h.length (evCode ⟨Tryz.prog, E, lo, h.length, h65⟩ loopW b65 (args0 args, h)) :=
 ev_body rfl Tryz.func65 rfl Tryz.ntmps65 (by kernel_rfl) rfl c65 rfl rfl rfl ha hb
noncomputable def b66 : Code := bodyOf Tryz.f66
noncomputable def l66x0 : Code := loopAt b66 0
theorem c66 : codeOk Tryz.prog h66 55 b66 = true := by kernel_rfl
/- a method -/
theorem e66 {lo : Nat} {args : List V} {h : Heap} (ha : args.length <= 55) (hb : args.all bare = true) :
  E lo 66 args h = fin Tryz.prog [.cell 2 64] h.length (evCode ⟨Tryz.prog, E, lo, h.length, h66⟩ loopW b66 (args0 args, h)) :=
 ev_body rfl Tryz.func66 rfl Tryz.ntmps66 (by kernel_rfl) rfl c66 rfl rfl rfl ha hb
noncomputable def b67 : Code := bodyOf Tryz.f67
theorem e67 : EQ 67 6 [.tmp 2] h67 b67 := fun ha hb => ev_body rfl Tryz.func67 rfl Tryz.ntmps67 (by kernel_rfl) rfl (by kernel_rfl) rfl rfl rfl ha hb
noncomputable def b68 : Code := bodyOf Tryz.f68
noncomputable def l68x0 : Code := loopAt b68 0
theorem e68 : EQ 68 81 [.tmp 4, .tmp 5, .tmp 6] h68 b68 := fun ha hb => ev_body rfl Tryz.func68 rfl Tryz.ntmps68 (by kernel_rfl) rfl (by kernel_rfl) rfl rfl rfl ha hb
noncomputable def b69 : Code := bodyOf Tryz.f69
theorem e69 : EQ 69 9 [.tmp 2] h69 b69 := fun ha hb => ev_body rfl Tryz.func69 rfl Tryz.ntmps69 (by kernel_rfl) rfl (by kernel_rfl) rfl rfl rfl ha hb
noncomputable def b70 : Code := bodyOf Tryz.f70
theorem e70 : EQ 70 11 [.tmp 2] h70 b70 := fun ha hb => ev_body rfl Tryz.func70 rfl Tryz.ntmps70 (by kernel_rfl) rfl (by kernel_rfl) rfl rfl rfl ha hb
noncomputable def b71 : Code := bodyOf Tryz.f71
theorem e71 : EQ 71 9 [.tmp 2] h71 b71 := fun ha hb => ev_body rfl Tryz.func71 rfl Tryz.ntmps71 (by kernel_rfl) rfl (by kernel_rfl) rfl rfl rfl ha hb
noncomputable def b72 : Code := bodyOf Tryz.f72
noncomputable def l72x0 : Code := loopAt b72 0
theorem e72 : EQ 72 23 [.tmp 2, .tmp 3] h72 b72 := fun ha hb => ev_body rfl Tryz.func72 rfl Tryz.ntmps72 (by kernel_rfl) rfl (by kernel_rfl) rfl rfl rfl ha hb
noncomputable def b73 : Code := bodyOf Tryz.f73
noncomputable def l73x0 : Code := loopAt b73 0
theorem e73 : EQ 73 23 [.tmp 2] h73 b73 := fun ha hb => ev_body rfl Tryz.func73 rfl Tryz.ntmps73 (by kernel_rfl) rfl (by kernel_rfl) rfl rfl rfl ha hb
noncomputable def b74 : Code := bodyOf Tryz.f74
noncomputable def l74x0 : Code := loopAt b74 0
noncomputable def l74x1 : Code := loopAt b74 1
theorem e74 : EQ 74 32 [.tmp 2] h74 b74 := fun ha hb => ev_body rfl Tryz.func74 rfl Tryz.ntmps74 (by kernel_rfl) rfl (by kernel_rfl) rfl rfl rfl ha hb
noncomputable def b75 : Code := bodyOf Tryz.f75
theorem c75 : codeOk Tryz.prog h75 31 b75 = true := by kernel_rfl
/- a method -/
theorem e75 {lo : Nat} {args : List V} {h : Heap} (ha : args.length <= 31) (hb : args.all bare = true) :
  E lo 75 args h = fin Tryz.prog [.cell 4 64] h.length (evCode ⟨Tryz.prog, E, lo, h.length, h75⟩ loopW b75 (args0 args, h)) :=
 ev_body rfl Tryz.func75 rfl Tryz.ntmps75 (by kernel_rfl) rfl c75 rfl rfl rfl ha hb
noncomputable def b76 : Code := bodyOf Tryz.f76
theorem c76 : codeOk Tryz.prog h76 126 b76 = true := by kernel_rfl
/- a method -/
theorem e76 {lo : Nat} {args : List V} {h : Heap} (ha : args.length <= 126) (hb : args.all bare = true) :
  E lo 76 args h = fin Tryz.prog [.cell 2 53, .tmp 3, .tmp 4] h.length (evCode ⟨Tryz.prog, E, lo, h.length, h76⟩ loopW b76 (args0 args, h)) :=
 ev_body rfl Tryz.func76 rfl Tryz.ntmps76 (by kernel_rfl) rfl c76 rfl rfl rfl ha hb
noncomputable def b77 : Code := bodyOf Tryz.f77
theorem e77 : EQ 77 9 [.tmp 4] h77 b77 := fun ha hb => ev_body rfl Tryz.func77 rfl Tryz.ntmps77 (by kernel_rfl) rfl (by kernel_rfl) rfl rfl rfl ha hb
noncomputable def b83 : Code := bodyOf Tryz.f83
noncomputable def l83x0 : Code := loopAt b83 0
theorem c83 : codeOk Tryz.prog h83 70 b83 = true := by kernel_rfl
/- a method -/
theorem e83 {lo : Nat} {args : List V} {h : Heap} (ha : args.length <= 70) (hb : args.all bare = true) :
  E lo 83 args h = fin Tryz.prog [.tmp 2] h.length (evCode ⟨Tryz.prog, E, lo, h.length, h83⟩ loopW b83 (args0 args, h)) :=
 ev_body rfl Tryz.func83 rfl Tryz.ntmps83 (by kernel_rfl) rfl c83 rfl rfl rfl ha hb
noncomputable def b84 : Code := bodyOf Tryz.f84
theorem e84 : EQ 84 25 [.tmp 2] h84 b84 := fun ha hb => ev_body rfl Tryz.func84 rfl Tryz.ntmps84 (by kernel_rfl) rfl (by kernel_rfl) rfl rfl rfl ha hb
noncomputable def b85 : Code := bodyOf Tryz.f85
theorem e85 : EQ 85 9 [.tmp 2] h85 b85 := fun ha hb => ev_body rfl Tryz.func85 rfl Tryz.ntmps85 (by kernel_rfl) rfl (by kernel_rfl) rfl rfl rfl ha hb
noncomputable def b86 : Code := bodyOf Tryz.f86
noncomputable def l86x0 : Code := loopAt b86 0
theorem c86 : codeOk Tryz.prog h86 12 b86 = true := by kernel_rfl
/- a method -/
theorem e86 {lo : Nat} {args : List V} {h : Heap} (ha : args.length <= 12) (hb : args.all bare = true) :
  E lo 86 args h = fin Tryz.prog [] h.length (evCode ⟨Tryz.prog, E, lo, h.length, h86⟩ loopW b86 (args0 args, h)) :=
 ev_body rfl Tryz.func86 rfl Tryz.ntmps86 (by kernel_rfl) rfl c86 rfl rfl rfl ha hb
noncomputable def b87 : Code := bodyOf Tryz.f87
noncomputable def l87x0 : Code := loopAt b87 0
theorem e87 : EQ 87 153 [.cell 2 62, .tmp 3, .tmp 4] h87 b87 := fun ha hb => ev_body rfl Tryz.func87 rfl Tryz.ntmps87 (by kernel_rfl) rfl (by kernel_rfl) rfl rfl rfl ha hb
noncomputable def b88 : Code := bodyOf Tryz.f88
theorem e88 : EQ 88 10 [.tmp 4] h88 b88 := fun ha hb => ev_body rfl Tryz.func88 rfl Tryz.ntmps88 (by kernel_rfl) rfl (by kernel_rfl) rfl rfl rfl ha hb
noncomputable def b89 : Code := bodyOf Tryz.f89
noncomputable def l89x0 : Code := loopAt b89 0
theorem c89 : codeOk Tryz.prog h89 91 b89 = true := by kernel_rfl
/- a method -/
theorem e89 {lo : Nat} {args : List V} {h : Heap} (ha : args.length <= 91) (hb : args.all bare = true) :
  E lo 89 args h = fin Tryz.prog [.cell 2 64] h.length (evCode ⟨Tryz.prog, E, lo, h.length, h89⟩ loopW b89 (args0 args, h)) :=
 ev_body rfl Tryz.func89 rfl Tryz.ntmps89 (by kernel_rfl) rfl c89 rfl rfl rfl ha hb
noncomputable def b90 : Code := bodyOf Tryz.f90
noncomputable def l90x0 : Code := loopAt b90 0
theorem e90 : EQ 90 79 [.tmp 2] h90 b90 := fun ha hb => ev_body rfl Tryz.func90 rfl Tryz.ntmps90 (by kernel_rfl) rfl (by kernel_rfl) rfl rfl rfl ha hb
noncomputable def b91 : Code := bodyOf Tryz.f91
theorem e91 : EQ 91 38 [.tmp 2, .tmp 3, .tmp 4] h91 b91 := fun ha hb => ev_body rfl Tryz.func91 rfl Tryz.ntmps91 (by kernel_rfl) rfl (by kernel_rfl) rfl rfl rfl ha hb
noncomputable def b92 : Code := bodyOf Tryz.f92
noncomputable def l92x0 : Code := loopAt b92 0
theorem e92 : EQ 92 40 [.tmp 2] h92 b92 := fun ha hb => ev_body rfl Tryz.func92 rfl Tryz.ntmps92 (by kernel_rfl) rfl (by kernel_rfl) rfl rfl rfl ha hb
noncomputable def b93 : Code := bodyOf Tryz.f93
noncomputable def l93x0 : Code := loopAt b93 0
theorem e93 : EQ 93 23 [.tmp 2] h93 b93 := fun ha hb => ev_body rfl Tryz.func93 rfl Tryz.ntmps93 (by kernel_rfl) rfl (by kernel_rfl) rfl rfl rfl ha hb
noncomputable def b94 : Code := bodyOf Tryz.f94
theorem e94 : EQ 94 7 [.tmp 2] h94 b94 := fun ha hb => ev_body rfl Tryz.func94 rfl Tryz.ntmps94 (by kernel_rfl) rfl (by kernel_rfl) rfl rfl rfl ha hb
noncomputable def b95 : Code := bodyOf Tryz.f95
noncomputable def l95x0 : Code := loopAt b95 0
theorem c95 : codeOk Tryz.prog h95 125 b95 = true := by kernel_rfl
/- a method -/
theorem e95 {lo : Nat} {args : List V} {h : Heap} (ha : args.length <= 125) (hb : args.all bare = true) :
  E lo 95 args h = fin Tryz.prog [.cell 2 53, .tmp 3] h.length (evCode ⟨Tryz.prog, E, lo, h.length, h95⟩ loopW b95 (args0 args, h)) :=
 ev_body rfl Tryz.func95 rfl Tryz.ntmps95 (by kernel_rfl) rfl c95 rfl rfl rfl ha hb
noncomputable def b96 : Code := bodyOf Tryz.f96
theorem e96 : EQ 96 77 [.cell 2 53, .tmp 3] h96 b96 := fun ha hb => ev_body rfl Tryz.func96 rfl Tryz.ntmps96 (by kernel_rfl) rfl (by kernel_rfl) rfl rfl rfl ha hb
noncomputable def b97 : Code := bodyOf Tryz.f97
theorem e97 : EQ 97 8 [.tmp 4] h97 b97 := fun ha hb => ev_body rfl Tryz.func97 rfl Tryz.ntmps97 (by kernel_rfl) rfl (by kernel_rfl) rfl rfl rfl ha hb
noncomputable def b100 : Code := bodyOf Tryz.f100
noncomputable def l100x0 : Code := loopAt b100 0
theorem e100 : EQ 100 29 [.tmp 2] h100 b100 := fun ha hb => ev_body rfl Tryz.func100 rfl Tryz.ntmps100 (by kernel_rfl) rfl (by kernel_rfl) rfl rfl rfl ha hb
noncomputable def b102 : Code := bodyOf Tryz.f102
theorem e102 : EQ 102 29 [.tmp 2, .tmp 3] h102 b102 := fun ha hb => ev_body rfl Tryz.func102 rfl Tryz.ntmps102 (by kernel_rfl) rfl (by kernel_rfl) rfl rfl rfl ha hb
noncomputable def b103 : Code := bodyOf Tryz.f103
noncomputable def l103x0 : Code := loopAt b103 0
theorem e103 : EQ 103 18 [.tmp 4] h103 b103 := fun ha hb => ev_body rfl Tryz.func103 rfl Tryz.ntmps103 (by kernel_rfl) rfl (by kernel_rfl) rfl rfl rfl ha hb
noncomputable def b104 : Code := bodyOf Tryz.f104
theorem e104 : EQ 104 2 [.cell 0 62] h104 b104 := fun ha hb => ev_body rfl Tryz.func104 rfl Tryz.ntmps104 (by kernel_rfl) rfl (by kernel_rfl) rfl rfl rfl ha hb
noncomputable def b105 : Code := bodyOf Tryz.f105
noncomputable def l105x0 : Code := loopAt b105 0
noncomputable def l105x1 : Code := loopAt b105 1
noncomputable def l105x2 : Code := loopAt b105 2
noncomputable def l105x3 : Code := loopAt b105 3
noncomputable def l105x4 : Code := loopAt b105 4
noncomputable def l105x5 : Code := loopAt b105 5
noncomputable def l105x6 : Code := loopAt b105 6
noncomputable def l105x7 : Code := loopAt b105 7
theorem e105 : EQ 105 132 [.cell 6 62] h105 b105 := fun ha hb => ev_body rfl Tryz.func105 rfl Tryz.ntmps105 (by kernel_rfl) rfl (by kernel_rfl) rfl rfl rfl ha hb
noncomputable def b106 : Code := bodyOf Tryz.f106
noncomputable def l106x0 : Code := loopAt b106 0
theorem c106 : codeOk Tryz.prog h106 26 b106 = true := by kernel_rfl
/- a method -/
theorem e106 {lo : Nat} {args : List V} {h : Heap} (ha : args.length <= 26) (hb : args.all bare = true) :
  E lo 106 args h = fin Tryz.prog [.cell 2 64] h.length (evCode ⟨Tryz.prog, E, lo, h.length, h106⟩ loopW b106 (args0 args, h)) :=
 ev_body rfl Tryz.func106 rfl Tryz.ntmps106 (by kernel_rfl) rfl c106 rfl rfl rfl ha hb
noncomputable def b107 : Code := bodyOf Tryz.f107
theorem e107 : EQ 107 25 [.tmp 2] h107 b107 := fun ha hb => ev_body rfl Tryz.func107 rfl Tryz.ntmps107 (by kernel_rfl) rfl (by kernel_rfl) rfl rfl rfl ha hb
noncomputable def b108 : Code := bodyOf Tryz.f108
noncomputable def l108x0 : Code := loopAt b108 0
theorem e108 : EQ 108 101 [.tmp 2, .tmp 3] h108 b108 := fun ha hb => ev_body rfl Tryz.func108 rfl Tryz.ntmps108 (by kernel_rfl) rfl (by kernel_rfl) rfl rfl rfl ha hb
noncomputable def b109 : Code := bodyOf Tryz.f109
noncomputable def l109x0 : Code := loopAt b109 0
theorem e109 : EQ 109 30 [.tmp 2] h109 b109 := fun ha hb => ev_body rfl Tryz.func109 rfl Tryz.ntmps109 (by kernel_rfl) rfl (by kernel_rfl) rfl rfl rfl ha hb
noncomputable def b110 : Code := bodyOf Tryz.f110
theorem e110 : EQ 110 3 [.tmp 0] h110 b110 := fun ha hb => ev_body rfl Tryz.func110 rfl Tryz.ntmps110 (by kernel_rfl) rfl (by kernel_rfl) rfl rfl rfl ha hb
noncomputable def b111 : Code := bodyOf Tryz.f111
theorem c111 : codeOk Tryz.prog h111 111 b111 = true := by kernel_rfl
/- a method -/
theorem e111 {lo : Nat} {args : List V} {h : Heap} (ha : args.length <= 111) (hb : args.all bare = true) :
  E lo 111 args h = fin Tryz.prog [.tmp 2, .tmp 3, .tmp 4] h.length (evCode ⟨Tryz.prog, E, lo, h.length, h111⟩ loopW b111 (args0 args, h)) :=
 ev_body rfl Tryz.func111 rfl Tryz.ntmps111 (by kernel_rfl) rfl c111 rfl rfl rfl ha hb
noncomputable def b114 : Code := bodyOf Tryz.f114
theorem e114 : EQ 114 9 [.tmp 2] h114 b114 := fun ha hb => ev_body rfl Tryz.func114 rfl Tryz.ntmps114 (by kernel_rfl) rfl (by kernel_rfl) rfl rfl rfl ha hb
noncomputable def b115 : Code := bodyOf Tryz.f115
theorem e115 : EQ 115 5 [.cell 2 62] h115 b115 := fun ha hb => ev_body rfl Tryz.func115 rfl Tryz.ntmps115 (by kernel_rfl) rfl (by kernel_rfl) rfl rfl rfl ha hb
noncomputable def b116 : Code := bodyOf Tryz.f116
theorem e116 : EQ 116 34 [.tmp 2, .tmp 3] h116 b116 := fun ha hb => ev_body rfl Tryz.func116 rfl Tryz.ntmps116 (by kernel_rfl) rfl (by kernel_rfl) rfl rfl rfl ha hb
noncomputable def b117 : Code := bodyOf Tryz.f117
theorem e117 : EQ 117 11 [.tmp 4, .tmp 5] h117 b117 := fun ha hb => ev_body rfl Tryz.func117 rfl Tryz.ntmps117 (by kernel_rfl) rfl (by kernel_rfl) rfl rfl rfl ha hb
noncomputable def b118 : Code := bodyOf Tryz.f118
theorem e118 : EQ 118 8 [.tmp 4] h118 b118 := fun ha hb => ev_body rfl Tryz.func118 rfl Tryz.ntmps118 (by kernel_rfl) rfl (by kernel_rfl) rfl rfl rfl ha hb
noncomputable def b119 : Code := bodyOf Tryz.f119
noncomputable def l119x0 : Code := loopAt b119 0
theorem e119 : EQ 119 39 [.tmp 2, .tmp 3] h119 b119 := fun ha hb => ev_body rfl Tryz.func119 rfl Tryz.ntmps119 (by kernel_rfl) rfl (by kernel_rfl) rfl rfl rfl ha hb
noncomputable def b120 : Code := bodyOf Tryz.f120
theorem c120 : codeOk Tryz.prog h120 80 b120 = true := by kernel_rfl
/- a method -/
theorem e120 {lo : Nat} {args : List V} {h : Heap} (ha : args.length <= 80) (hb : args.all bare = true) :
  E lo 120 args h = fin Tryz.prog [.tmp 2, .tmp 3] h.length (evCode ⟨Tryz.prog, E, lo, h.length, h120⟩ loopW b120 (args0 args, h)) :=
 ev_body rfl Tryz.func120 rfl Tryz.ntmps120 (by kernel_rfl) rfl c120 rfl rfl rfl ha hb
noncomputable def b128 : Code := bodyOf Tryz.f128
theorem e128 : EQ 128 10 [.tmp 2] h128 b128 := fun ha hb => ev_body rfl Tryz.func128 rfl Tryz.ntmps128 (by kernel_rfl) rfl (by kernel_rfl) rfl rfl rfl ha hb
noncomputable def b129 : Code := bodyOf Tryz.f129
theorem e129 : EQ 129 15 [.tmp 4, .tmp 5] h129 b129 := fun ha hb => ev_body rfl Tryz.func129 rfl Tryz.ntmps129 (by kernel_rfl) rfl (by kernel_rfl) rfl rfl rfl ha hb
noncomputable def b130 : Code := bodyOf Tryz.f130
theorem e130 : EQ 130 18 [.tmp 4] h130 b130 := fun ha hb => ev_body rfl Tryz.func130 rfl Tryz.ntmps130 (by kernel_rfl) rfl (by kernel_rfl) rfl rfl rfl ha hb
noncomputable def b134 : Code := bodyOf Tryz.f134
theorem e134 : EQ 134 21 [.tmp 2] h134 b134 := fun ha hb => ev_body rfl Tryz.func134 rfl Tryz.ntmps134 (by kernel_rfl) rfl (by kernel_rfl) rfl rfl rfl ha hb
noncomputable def b136 : Code := bodyOf Tryz.f136
noncomputable def l136x0 : Code := loopAt b136 0
theorem e136 : EQ 136 12 [.tmp 4] h136 b136 := fun ha hb => ev_body rfl Tryz.func136 rfl Tryz.ntmps136 (by kernel_rfl) rfl (by kernel_rfl) rfl rfl rfl ha hb
noncomputable def b137 : Code := bodyOf Tryz.f137
theorem e137 : EQ 137 10 [.tmp 2] h137 b137 := fun ha hb => ev_body rfl Tryz.func137 rfl Tryz.ntmps137 (by kernel_rfl) rfl (by kernel_rfl) rfl rfl rfl ha hb
end Go.Lift.Z9
