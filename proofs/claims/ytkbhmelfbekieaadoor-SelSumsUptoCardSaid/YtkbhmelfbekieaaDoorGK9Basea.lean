/- Facts of the program that the evaluation asks for: the live slots of each function, its types. Written by a program (gen.py). -/
import Derived.Test.YtkbhmelfbekieaaDoorRows
import Derived.Lib.DecodeN
import Derived.Lib.Index
import Derived.Test.YtkbhmelfbekieaaDoorGKa
set_option linter.unusedVariables false
set_option linter.unusedSimpArgs false
set_option linter.unusedSectionVars false
set_option maxRecDepth 20000
namespace Go.Lift.S9
open Go.Proofs
class MX where
 m : Int
instance gtab [MX] : GTab := ⟨fun n => match n with | 0 => some [.v (.int .i64 21), .v (.int .i64 22), .v (.int .i64 19), .v (.int .i64 20), .v (.int .i64 23), .v (.int .i64 24), .v (.int .i64 18), .v (.int .i64 16), .v (.int .i64 17)] | 1 => some [.v (.int .i64 MX.m)] | _ => none⟩
noncomputable def idxP (lo : Nat) (args : List V) (h : Heap) : Option (V × Heap) := match args with
 | [.v (.string s), .v (.int .u8 c)] => some (.v (.int .i64 (Go.Lib.indexByte s.data.toList c.toNat.toUInt8)), h)
 | _ => none
noncomputable def ixP (lo : Nat) (args : List V) (h : Heap) : Option (V × Heap) := match args with
 | [.v (.string s), .v (.string t)] => match t.data.toList with
  | [c] => some (.v (.int .i64 (Go.Lib.indexByte s.data.toList c)), h)
  | _ => if s.size < 4294967281 then some (.v (.int .i64 (Go.Lib.index s.data.toList t.data.toList)), h) else none
 | _ => none
noncomputable def primz0 [MX] : Nat -> Option (Nat -> List V -> Heap -> Option (V × Heap)) := fun n => match n with | 90 => some idxP | 77 => some ixP | _ => none
noncomputable def awkP (lo : Nat) (args : List V) (h : Heap) : Option (V × Heap) := match args with
 | [] => some (.v (.bool true), h)
 | _ => none
noncomputable def primz [MX] : Nat -> Option (Nat -> List V -> Heap -> Option (V × Heap)) := fun n => match n with | 8 => some awkP | 90 => some idxP | 77 => some ixP | _ => none
instance bty : BTy := ⟨[], some 5⟩
@[go_sem] theorem bt_eq : BTy.bt = [] := rfl
@[go_sem] theorem bt_is : (BTy.bt.isEmpty) = true := rfl
@[go_sem] theorem bt_n (n : Nat) : btOf n = none := rfl
@[go_sem] theorem bb_eq : BTy.bb = some 5 := rfl
@[go_sem] theorem bb_self : ((5 : TypeId) == 5) = true := rfl
attribute [go_sem] Tryd.underlying2
@[go_sem] theorem z2 : tsize Tryd.prog 2 = 1 := by kernel_rfl
@[go_sem] theorem k2 : ttag Tryd.prog 2 = some false := by kernel_rfl
@[go_sem] theorem y2 : Tryd.prog.bytesOf 2 = 8 := by kernel_rfl
@[go_sem] theorem s2 : isStr Tryd.prog 2 = false := by kernel_rfl
@[go_sem] theorem j2 : isI32 Tryd.prog 2 = false := by kernel_rfl
@[go_sem] theorem w2 : isU8 Tryd.prog 2 = false := by kernel_rfl
@[go_sem] theorem o2 : tzero Tryd.prog 2 = some [.int .i64 0] := by kernel_rfl
@[go_sem] theorem i2 : (Tryd.prog.info? 2).isSome = true := by kernel_rfl
attribute [go_sem] Tryd.underlying3
@[go_sem] theorem z3 : tsize Tryd.prog 3 = 1 := by kernel_rfl
@[go_sem] theorem k3 : ttag Tryd.prog 3 = some false := by kernel_rfl
@[go_sem] theorem y3 : Tryd.prog.bytesOf 3 = 8 := by kernel_rfl
@[go_sem] theorem s3 : isStr Tryd.prog 3 = false := by kernel_rfl
@[go_sem] theorem j3 : isI32 Tryd.prog 3 = false := by kernel_rfl
@[go_sem] theorem w3 : isU8 Tryd.prog 3 = false := by kernel_rfl
@[go_sem] theorem o3 : tzero Tryd.prog 3 = some [.int .i64 0] := by kernel_rfl
@[go_sem] theorem i3 : (Tryd.prog.info? 3).isSome = true := by kernel_rfl
attribute [go_sem] Tryd.underlying4
@[go_sem] theorem z4 : tsize Tryd.prog 4 = 1 := by kernel_rfl
@[go_sem] theorem k4 : ttag Tryd.prog 4 = some false := by kernel_rfl
@[go_sem] theorem y4 : Tryd.prog.bytesOf 4 = 1 := by kernel_rfl
@[go_sem] theorem s4 : isStr Tryd.prog 4 = false := by kernel_rfl
@[go_sem] theorem j4 : isI32 Tryd.prog 4 = false := by kernel_rfl
@[go_sem] theorem w4 : isU8 Tryd.prog 4 = false := by kernel_rfl
@[go_sem] theorem o4 : tzero Tryd.prog 4 = some [.bool false] := by kernel_rfl
@[go_sem] theorem i4 : (Tryd.prog.info? 4).isSome = true := by kernel_rfl
attribute [go_sem] Tryd.underlying5
@[go_sem] theorem z5 : tsize Tryd.prog 5 = 1 := by kernel_rfl
@[go_sem] theorem k5 : ttag Tryd.prog 5 = some false := by kernel_rfl
@[go_sem] theorem y5 : Tryd.prog.bytesOf 5 = 1 := by kernel_rfl
@[go_sem] theorem s5 : isStr Tryd.prog 5 = false := by kernel_rfl
@[go_sem] theorem j5 : isI32 Tryd.prog 5 = false := by kernel_rfl
@[go_sem] theorem w5 : isU8 Tryd.prog 5 = true := by kernel_rfl
@[go_sem] theorem o5 : tzero Tryd.prog 5 = some [.int .u8 0] := by kernel_rfl
@[go_sem] theorem i5 : (Tryd.prog.info? 5).isSome = true := by kernel_rfl
attribute [go_sem] Tryd.underlying9
@[go_sem] theorem z9 : tsize Tryd.prog 9 = 1 := by kernel_rfl
@[go_sem] theorem k9 : ttag Tryd.prog 9 = some false := by kernel_rfl
@[go_sem] theorem y9 : Tryd.prog.bytesOf 9 = 16 := by kernel_rfl
@[go_sem] theorem s9 : isStr Tryd.prog 9 = true := by kernel_rfl
@[go_sem] theorem j9 : isI32 Tryd.prog 9 = false := by kernel_rfl
@[go_sem] theorem w9 : isU8 Tryd.prog 9 = false := by kernel_rfl
@[go_sem] theorem o9 : tzero Tryd.prog 9 = some [.string ByteArray.empty] := by kernel_rfl
@[go_sem] theorem i9 : (Tryd.prog.info? 9).isSome = true := by kernel_rfl
attribute [go_sem] Tryd.underlying21
@[go_sem] theorem z21 : tsize Tryd.prog 21 = 1 := by kernel_rfl
@[go_sem] theorem k21 : ttag Tryd.prog 21 = some false := by kernel_rfl
@[go_sem] theorem y21 : Tryd.prog.bytesOf 21 = 4 := by kernel_rfl
@[go_sem] theorem s21 : isStr Tryd.prog 21 = false := by kernel_rfl
@[go_sem] theorem j21 : isI32 Tryd.prog 21 = true := by kernel_rfl
@[go_sem] theorem w21 : isU8 Tryd.prog 21 = false := by kernel_rfl
@[go_sem] theorem o21 : tzero Tryd.prog 21 = some [.int .i32 0] := by kernel_rfl
@[go_sem] theorem i21 : (Tryd.prog.info? 21).isSome = true := by kernel_rfl
attribute [go_sem] Tryd.underlying22
@[go_sem] theorem z22 : tsize Tryd.prog 22 = 1 := by kernel_rfl
@[go_sem] theorem k22 : ttag Tryd.prog 22 = some false := by kernel_rfl
@[go_sem] theorem y22 : Tryd.prog.bytesOf 22 = 24 := by kernel_rfl
@[go_sem] theorem s22 : isStr Tryd.prog 22 = false := by kernel_rfl
@[go_sem] theorem j22 : isI32 Tryd.prog 22 = false := by kernel_rfl
@[go_sem] theorem w22 : isU8 Tryd.prog 22 = false := by kernel_rfl
@[go_sem] theorem o22 : tzero Tryd.prog 22 = some [.slice none 0 0] := by kernel_rfl
@[go_sem] theorem i22 : (Tryd.prog.info? 22).isSome = true := by kernel_rfl
attribute [go_sem] Tryd.underlying25
@[go_sem] theorem z25 : tsize Tryd.prog 25 = 1 := by kernel_rfl
@[go_sem] theorem k25 : ttag Tryd.prog 25 = some false := by kernel_rfl
@[go_sem] theorem y25 : Tryd.prog.bytesOf 25 = 24 := by kernel_rfl
@[go_sem] theorem s25 : isStr Tryd.prog 25 = false := by kernel_rfl
@[go_sem] theorem j25 : isI32 Tryd.prog 25 = false := by kernel_rfl
@[go_sem] theorem w25 : isU8 Tryd.prog 25 = false := by kernel_rfl
@[go_sem] theorem o25 : tzero Tryd.prog 25 = some [.slice none 0 0] := by kernel_rfl
@[go_sem] theorem i25 : (Tryd.prog.info? 25).isSome = true := by kernel_rfl
attribute [go_sem] Tryd.underlying27
@[go_sem] theorem z27 : tsize Tryd.prog 27 = 1 := by kernel_rfl
@[go_sem] theorem k27 : ttag Tryd.prog 27 = some true := by kernel_rfl
@[go_sem] theorem y27 : Tryd.prog.bytesOf 27 = 24 := by kernel_rfl
@[go_sem] theorem s27 : isStr Tryd.prog 27 = false := by kernel_rfl
@[go_sem] theorem j27 : isI32 Tryd.prog 27 = false := by kernel_rfl
@[go_sem] theorem w27 : isU8 Tryd.prog 27 = false := by kernel_rfl
@[go_sem] theorem o27 : tzero Tryd.prog 27 = some [.slice none 0 0] := by kernel_rfl
@[go_sem] theorem i27 : (Tryd.prog.info? 27).isSome = true := by kernel_rfl
@[go_sem] theorem x27 : structOk Tryd.prog 27 = true := by kernel_rfl
@[go_sem] theorem g27x0 : fieldOff Tryd.prog 27 0 = some (0, 25) := by kernel_rfl
attribute [go_sem] Tryd.underlying29
@[go_sem] theorem z29 : tsize Tryd.prog 29 = 3 := by kernel_rfl
@[go_sem] theorem k29 : ttag Tryd.prog 29 = some true := by kernel_rfl
@[go_sem] theorem y29 : Tryd.prog.bytesOf 29 = 24 := by kernel_rfl
@[go_sem] theorem s29 : isStr Tryd.prog 29 = false := by kernel_rfl
@[go_sem] theorem j29 : isI32 Tryd.prog 29 = false := by kernel_rfl
@[go_sem] theorem w29 : isU8 Tryd.prog 29 = false := by kernel_rfl
@[go_sem] theorem o29 : tzero Tryd.prog 29 = some [.int .i64 0, .int .i64 0, .int .i64 0] := by kernel_rfl
@[go_sem] theorem i29 : (Tryd.prog.info? 29).isSome = true := by kernel_rfl
attribute [go_sem] Tryd.underlying30
@[go_sem] theorem z30 : tsize Tryd.prog 30 = 1 := by kernel_rfl
@[go_sem] theorem k30 : ttag Tryd.prog 30 = some false := by kernel_rfl
@[go_sem] theorem y30 : Tryd.prog.bytesOf 30 = 8 := by kernel_rfl
@[go_sem] theorem s30 : isStr Tryd.prog 30 = false := by kernel_rfl
@[go_sem] theorem j30 : isI32 Tryd.prog 30 = false := by kernel_rfl
@[go_sem] theorem w30 : isU8 Tryd.prog 30 = false := by kernel_rfl
@[go_sem] theorem o30 : tzero Tryd.prog 30 = some [.int .i64 0] := by kernel_rfl
@[go_sem] theorem i30 : (Tryd.prog.info? 30).isSome = true := by kernel_rfl
attribute [go_sem] Tryd.underlying33
@[go_sem] theorem z33 : tsize Tryd.prog 33 = 1 := by kernel_rfl
@[go_sem] theorem k33 : ttag Tryd.prog 33 = some false := by kernel_rfl
@[go_sem] theorem y33 : Tryd.prog.bytesOf 33 = 24 := by kernel_rfl
@[go_sem] theorem s33 : isStr Tryd.prog 33 = false := by kernel_rfl
@[go_sem] theorem j33 : isI32 Tryd.prog 33 = false := by kernel_rfl
@[go_sem] theorem w33 : isU8 Tryd.prog 33 = false := by kernel_rfl
@[go_sem] theorem o33 : tzero Tryd.prog 33 = some [.slice none 0 0] := by kernel_rfl
@[go_sem] theorem i33 : (Tryd.prog.info? 33).isSome = true := by kernel_rfl
attribute [go_sem] Tryd.underlying35
@[go_sem] theorem z35 : tsize Tryd.prog 35 = 2 := by kernel_rfl
@[go_sem] theorem k35 : ttag Tryd.prog 35 = some true := by kernel_rfl
@[go_sem] theorem y35 : Tryd.prog.bytesOf 35 = 32 := by kernel_rfl
@[go_sem] theorem s35 : isStr Tryd.prog 35 = false := by kernel_rfl
@[go_sem] theorem j35 : isI32 Tryd.prog 35 = false := by kernel_rfl
@[go_sem] theorem w35 : isU8 Tryd.prog 35 = false := by kernel_rfl
@[go_sem] theorem o35 : tzero Tryd.prog 35 = some [.int .i64 0, .slice none 0 0] := by kernel_rfl
@[go_sem] theorem i35 : (Tryd.prog.info? 35).isSome = true := by kernel_rfl
@[go_sem] theorem x35 : structOk Tryd.prog 35 = true := by kernel_rfl
@[go_sem] theorem g35x0 : fieldOff Tryd.prog 35 0 = some (0, 3) := by kernel_rfl
@[go_sem] theorem g35x1 : fieldOff Tryd.prog 35 1 = some (1, 33) := by kernel_rfl
attribute [go_sem] Tryd.underlying36
@[go_sem] theorem z36 : tsize Tryd.prog 36 = 1 := by kernel_rfl
@[go_sem] theorem k36 : ttag Tryd.prog 36 = some false := by kernel_rfl
@[go_sem] theorem y36 : Tryd.prog.bytesOf 36 = 24 := by kernel_rfl
@[go_sem] theorem s36 : isStr Tryd.prog 36 = false := by kernel_rfl
@[go_sem] theorem j36 : isI32 Tryd.prog 36 = false := by kernel_rfl
@[go_sem] theorem w36 : isU8 Tryd.prog 36 = false := by kernel_rfl
@[go_sem] theorem o36 : tzero Tryd.prog 36 = some [.slice none 0 0] := by kernel_rfl
@[go_sem] theorem i36 : (Tryd.prog.info? 36).isSome = true := by kernel_rfl
attribute [go_sem] Tryd.underlying38
@[go_sem] theorem z38 : tsize Tryd.prog 38 = 8 := by kernel_rfl
@[go_sem] theorem k38 : ttag Tryd.prog 38 = some true := by kernel_rfl
@[go_sem] theorem y38 : Tryd.prog.bytesOf 38 = 96 := by kernel_rfl
@[go_sem] theorem s38 : isStr Tryd.prog 38 = false := by kernel_rfl
@[go_sem] theorem j38 : isI32 Tryd.prog 38 = false := by kernel_rfl
@[go_sem] theorem w38 : isU8 Tryd.prog 38 = false := by kernel_rfl
@[go_sem] theorem o38 : tzero Tryd.prog 38 = some [.int .i64 0, .string ByteArray.empty, .int .i64 0, .string ByteArray.empty, .bool false, .slice none 0 0, .int .i64 0, .int .i64 0] := by kernel_rfl
@[go_sem] theorem i38 : (Tryd.prog.info? 38).isSome = true := by kernel_rfl
@[go_sem] theorem x38 : structOk Tryd.prog 38 = true := by kernel_rfl
@[go_sem] theorem g38x0 : fieldOff Tryd.prog 38 0 = some (0, 3) := by kernel_rfl
@[go_sem] theorem g38x1 : fieldOff Tryd.prog 38 1 = some (1, 9) := by kernel_rfl
@[go_sem] theorem g38x2 : fieldOff Tryd.prog 38 2 = some (2, 3) := by kernel_rfl
@[go_sem] theorem g38x3 : fieldOff Tryd.prog 38 3 = some (3, 9) := by kernel_rfl
@[go_sem] theorem g38x4 : fieldOff Tryd.prog 38 4 = some (4, 4) := by kernel_rfl
@[go_sem] theorem g38x5 : fieldOff Tryd.prog 38 5 = some (5, 22) := by kernel_rfl
@[go_sem] theorem g38x6 : fieldOff Tryd.prog 38 6 = some (6, 3) := by kernel_rfl
@[go_sem] theorem g38x7 : fieldOff Tryd.prog 38 7 = some (7, 3) := by kernel_rfl
attribute [go_sem] Tryd.underlying40
@[go_sem] theorem z40 : tsize Tryd.prog 40 = 1 := by kernel_rfl
@[go_sem] theorem k40 : ttag Tryd.prog 40 = some false := by kernel_rfl
@[go_sem] theorem y40 : Tryd.prog.bytesOf 40 = 24 := by kernel_rfl
@[go_sem] theorem s40 : isStr Tryd.prog 40 = false := by kernel_rfl
@[go_sem] theorem j40 : isI32 Tryd.prog 40 = false := by kernel_rfl
@[go_sem] theorem w40 : isU8 Tryd.prog 40 = false := by kernel_rfl
@[go_sem] theorem o40 : tzero Tryd.prog 40 = some [.slice none 0 0] := by kernel_rfl
@[go_sem] theorem i40 : (Tryd.prog.info? 40).isSome = true := by kernel_rfl
attribute [go_sem] Tryd.underlying44
@[go_sem] theorem z44 : tsize Tryd.prog 44 = 1 := by kernel_rfl
@[go_sem] theorem k44 : ttag Tryd.prog 44 = some false := by kernel_rfl
@[go_sem] theorem y44 : Tryd.prog.bytesOf 44 = 24 := by kernel_rfl
@[go_sem] theorem s44 : isStr Tryd.prog 44 = false := by kernel_rfl
@[go_sem] theorem j44 : isI32 Tryd.prog 44 = false := by kernel_rfl
@[go_sem] theorem w44 : isU8 Tryd.prog 44 = false := by kernel_rfl
@[go_sem] theorem o44 : tzero Tryd.prog 44 = some [.slice none 0 0] := by kernel_rfl
@[go_sem] theorem i44 : (Tryd.prog.info? 44).isSome = true := by kernel_rfl
attribute [go_sem] Tryd.underlying54
@[go_sem] theorem z54 : tsize Tryd.prog 54 = 2 := by kernel_rfl
@[go_sem] theorem k54 : ttag Tryd.prog 54 = some true := by kernel_rfl
@[go_sem] theorem y54 : Tryd.prog.bytesOf 54 = 16 := by kernel_rfl
@[go_sem] theorem s54 : isStr Tryd.prog 54 = false := by kernel_rfl
@[go_sem] theorem j54 : isI32 Tryd.prog 54 = false := by kernel_rfl
@[go_sem] theorem w54 : isU8 Tryd.prog 54 = false := by kernel_rfl
@[go_sem] theorem o54 : tzero Tryd.prog 54 = some [.int .i64 0, .int .i64 0] := by kernel_rfl
@[go_sem] theorem i54 : (Tryd.prog.info? 54).isSome = true := by kernel_rfl
@[go_sem] theorem x54 : structOk Tryd.prog 54 = true := by kernel_rfl
@[go_sem] theorem g54x0 : fieldOff Tryd.prog 54 0 = some (0, 2) := by kernel_rfl
@[go_sem] theorem g54x1 : fieldOff Tryd.prog 54 1 = some (1, 2) := by kernel_rfl
attribute [go_sem] Tryd.underlying56
@[go_sem] theorem z56 : tsize Tryd.prog 56 = 6 := by kernel_rfl
@[go_sem] theorem k56 : ttag Tryd.prog 56 = some true := by kernel_rfl
@[go_sem] theorem y56 : Tryd.prog.bytesOf 56 = 48 := by kernel_rfl
@[go_sem] theorem s56 : isStr Tryd.prog 56 = false := by kernel_rfl
@[go_sem] theorem j56 : isI32 Tryd.prog 56 = false := by kernel_rfl
@[go_sem] theorem w56 : isU8 Tryd.prog 56 = false := by kernel_rfl
@[go_sem] theorem o56 : tzero Tryd.prog 56 = some [.int .i64 0, .string ByteArray.empty, .int .i64 0, .int .i64 0, .bool false, .bool false] := by kernel_rfl
@[go_sem] theorem i56 : (Tryd.prog.info? 56).isSome = true := by kernel_rfl
@[go_sem] theorem x56 : structOk Tryd.prog 56 = true := by kernel_rfl
@[go_sem] theorem g56x0 : fieldOff Tryd.prog 56 0 = some (0, 3) := by kernel_rfl
@[go_sem] theorem g56x1 : fieldOff Tryd.prog 56 1 = some (1, 9) := by kernel_rfl
@[go_sem] theorem g56x2 : fieldOff Tryd.prog 56 2 = some (2, 54) := by kernel_rfl
@[go_sem] theorem g56x3 : fieldOff Tryd.prog 56 3 = some (4, 4) := by kernel_rfl
@[go_sem] theorem g56x4 : fieldOff Tryd.prog 56 4 = some (5, 4) := by kernel_rfl
attribute [go_sem] Tryd.underlying58
@[go_sem] theorem z58 : tsize Tryd.prog 58 = 7 := by kernel_rfl
@[go_sem] theorem k58 : ttag Tryd.prog 58 = some true := by kernel_rfl
@[go_sem] theorem y58 : Tryd.prog.bytesOf 58 = 72 := by kernel_rfl
@[go_sem] theorem s58 : isStr Tryd.prog 58 = false := by kernel_rfl
@[go_sem] theorem j58 : isI32 Tryd.prog 58 = false := by kernel_rfl
@[go_sem] theorem w58 : isU8 Tryd.prog 58 = false := by kernel_rfl
@[go_sem] theorem o58 : tzero Tryd.prog 58 = some [.int .i64 0, .string ByteArray.empty, .int .i64 0, .int .i64 0, .bool false, .bool false, .slice none 0 0] := by kernel_rfl
@[go_sem] theorem i58 : (Tryd.prog.info? 58).isSome = true := by kernel_rfl
@[go_sem] theorem x58 : structOk Tryd.prog 58 = true := by kernel_rfl
@[go_sem] theorem g58x0 : fieldOff Tryd.prog 58 0 = some (0, 56) := by kernel_rfl
@[go_sem] theorem g58x1 : fieldOff Tryd.prog 58 1 = some (6, 40) := by kernel_rfl
attribute [go_sem] Tryd.underlying62
@[go_sem] theorem z62 : tsize Tryd.prog 62 = 1 := by kernel_rfl
@[go_sem] theorem k62 : ttag Tryd.prog 62 = some false := by kernel_rfl
@[go_sem] theorem y62 : Tryd.prog.bytesOf 62 = 24 := by kernel_rfl
@[go_sem] theorem s62 : isStr Tryd.prog 62 = false := by kernel_rfl
@[go_sem] theorem j62 : isI32 Tryd.prog 62 = false := by kernel_rfl
@[go_sem] theorem w62 : isU8 Tryd.prog 62 = false := by kernel_rfl
@[go_sem] theorem o62 : tzero Tryd.prog 62 = some [.slice none 0 0] := by kernel_rfl
@[go_sem] theorem i62 : (Tryd.prog.info? 62).isSome = true := by kernel_rfl
attribute [go_sem] Tryd.underlying64
@[go_sem] theorem z64 : tsize Tryd.prog 64 = 1 := by kernel_rfl
@[go_sem] theorem k64 : ttag Tryd.prog 64 = some false := by kernel_rfl
@[go_sem] theorem y64 : Tryd.prog.bytesOf 64 = 24 := by kernel_rfl
@[go_sem] theorem s64 : isStr Tryd.prog 64 = false := by kernel_rfl
@[go_sem] theorem j64 : isI32 Tryd.prog 64 = false := by kernel_rfl
@[go_sem] theorem w64 : isU8 Tryd.prog 64 = false := by kernel_rfl
@[go_sem] theorem o64 : tzero Tryd.prog 64 = some [.slice none 0 0] := by kernel_rfl
@[go_sem] theorem i64 : (Tryd.prog.info? 64).isSome = true := by kernel_rfl
attribute [go_sem] Tryd.underlying68
@[go_sem] theorem z68 : tsize Tryd.prog 68 = 2 := by kernel_rfl
@[go_sem] theorem k68 : ttag Tryd.prog 68 = some true := by kernel_rfl
@[go_sem] theorem y68 : Tryd.prog.bytesOf 68 = 32 := by kernel_rfl
@[go_sem] theorem s68 : isStr Tryd.prog 68 = false := by kernel_rfl
@[go_sem] theorem j68 : isI32 Tryd.prog 68 = false := by kernel_rfl
@[go_sem] theorem w68 : isU8 Tryd.prog 68 = false := by kernel_rfl
@[go_sem] theorem o68 : tzero Tryd.prog 68 = some [.slice none 0 0, .int .i64 0] := by kernel_rfl
@[go_sem] theorem i68 : (Tryd.prog.info? 68).isSome = true := by kernel_rfl
@[go_sem] theorem x68 : structOk Tryd.prog 68 = true := by kernel_rfl
@[go_sem] theorem g68x0 : fieldOff Tryd.prog 68 0 = some (0, 40) := by kernel_rfl
@[go_sem] theorem g68x1 : fieldOff Tryd.prog 68 1 = some (1, 3) := by kernel_rfl
attribute [go_sem] Tryd.underlying75
@[go_sem] theorem z75 : tsize Tryd.prog 75 = 7 := by kernel_rfl
@[go_sem] theorem k75 : ttag Tryd.prog 75 = some true := by kernel_rfl
@[go_sem] theorem y75 : Tryd.prog.bytesOf 75 = 72 := by kernel_rfl
@[go_sem] theorem s75 : isStr Tryd.prog 75 = false := by kernel_rfl
@[go_sem] theorem j75 : isI32 Tryd.prog 75 = false := by kernel_rfl
@[go_sem] theorem w75 : isU8 Tryd.prog 75 = false := by kernel_rfl
@[go_sem] theorem o75 : tzero Tryd.prog 75 = some [.int .i64 0, .string ByteArray.empty, .int .i64 0, .int .i64 0, .bool false, .bool false, .slice none 0 0] := by kernel_rfl
@[go_sem] theorem i75 : (Tryd.prog.info? 75).isSome = true := by kernel_rfl
@[go_sem] theorem x75 : structOk Tryd.prog 75 = true := by kernel_rfl
@[go_sem] theorem g75x0 : fieldOff Tryd.prog 75 0 = some (0, 56) := by kernel_rfl
@[go_sem] theorem g75x1 : fieldOff Tryd.prog 75 1 = some (6, 40) := by kernel_rfl
attribute [go_sem] Tryd.underlying76
@[go_sem] theorem z76 : tsize Tryd.prog 76 = 1 := by kernel_rfl
@[go_sem] theorem k76 : ttag Tryd.prog 76 = some false := by kernel_rfl
@[go_sem] theorem y76 : Tryd.prog.bytesOf 76 = 24 := by kernel_rfl
@[go_sem] theorem s76 : isStr Tryd.prog 76 = false := by kernel_rfl
@[go_sem] theorem j76 : isI32 Tryd.prog 76 = false := by kernel_rfl
@[go_sem] theorem w76 : isU8 Tryd.prog 76 = false := by kernel_rfl
@[go_sem] theorem o76 : tzero Tryd.prog 76 = some [.slice none 0 0] := by kernel_rfl
@[go_sem] theorem i76 : (Tryd.prog.info? 76).isSome = true := by kernel_rfl
attribute [go_sem] Tryd.underlying79
@[go_sem] theorem z79 : tsize Tryd.prog 79 = 1 := by kernel_rfl
@[go_sem] theorem k79 : ttag Tryd.prog 79 = some false := by kernel_rfl
@[go_sem] theorem y79 : Tryd.prog.bytesOf 79 = 24 := by kernel_rfl
@[go_sem] theorem s79 : isStr Tryd.prog 79 = false := by kernel_rfl
@[go_sem] theorem j79 : isI32 Tryd.prog 79 = false := by kernel_rfl
@[go_sem] theorem w79 : isU8 Tryd.prog 79 = false := by kernel_rfl
@[go_sem] theorem o79 : tzero Tryd.prog 79 = some [.slice none 0 0] := by kernel_rfl
@[go_sem] theorem i79 : (Tryd.prog.info? 79).isSome = true := by kernel_rfl
attribute [go_sem] Tryd.underlying81
@[go_sem] theorem z81 : tsize Tryd.prog 81 = 1 := by kernel_rfl
@[go_sem] theorem k81 : ttag Tryd.prog 81 = some false := by kernel_rfl
@[go_sem] theorem y81 : Tryd.prog.bytesOf 81 = 24 := by kernel_rfl
@[go_sem] theorem s81 : isStr Tryd.prog 81 = false := by kernel_rfl
@[go_sem] theorem j81 : isI32 Tryd.prog 81 = false := by kernel_rfl
@[go_sem] theorem w81 : isU8 Tryd.prog 81 = false := by kernel_rfl
@[go_sem] theorem o81 : tzero Tryd.prog 81 = some [.slice none 0 0] := by kernel_rfl
@[go_sem] theorem i81 : (Tryd.prog.info? 81).isSome = true := by kernel_rfl
attribute [go_sem] Tryd.underlying83
@[go_sem] theorem z83 : tsize Tryd.prog 83 = 1 := by kernel_rfl
@[go_sem] theorem k83 : ttag Tryd.prog 83 = some false := by kernel_rfl
@[go_sem] theorem y83 : Tryd.prog.bytesOf 83 = 8 := by kernel_rfl
@[go_sem] theorem s83 : isStr Tryd.prog 83 = false := by kernel_rfl
@[go_sem] theorem j83 : isI32 Tryd.prog 83 = false := by kernel_rfl
@[go_sem] theorem w83 : isU8 Tryd.prog 83 = false := by kernel_rfl
@[go_sem] theorem i83 : (Tryd.prog.info? 83).isSome = true := by kernel_rfl
attribute [go_sem] Tryd.underlying85
@[go_sem] theorem z85 : tsize Tryd.prog 85 = 1 := by kernel_rfl
@[go_sem] theorem k85 : ttag Tryd.prog 85 = some false := by kernel_rfl
@[go_sem] theorem y85 : Tryd.prog.bytesOf 85 = 8 := by kernel_rfl
@[go_sem] theorem s85 : isStr Tryd.prog 85 = false := by kernel_rfl
@[go_sem] theorem j85 : isI32 Tryd.prog 85 = false := by kernel_rfl
@[go_sem] theorem w85 : isU8 Tryd.prog 85 = false := by kernel_rfl
@[go_sem] theorem i85 : (Tryd.prog.info? 85).isSome = true := by kernel_rfl
attribute [go_sem] Tryd.underlying91
@[go_sem] theorem z91 : tsize Tryd.prog 91 = 1 := by kernel_rfl
@[go_sem] theorem k91 : ttag Tryd.prog 91 = some false := by kernel_rfl
@[go_sem] theorem y91 : Tryd.prog.bytesOf 91 = 8 := by kernel_rfl
@[go_sem] theorem s91 : isStr Tryd.prog 91 = false := by kernel_rfl
@[go_sem] theorem j91 : isI32 Tryd.prog 91 = false := by kernel_rfl
@[go_sem] theorem w91 : isU8 Tryd.prog 91 = false := by kernel_rfl
@[go_sem] theorem i91 : (Tryd.prog.info? 91).isSome = true := by kernel_rfl
attribute [go_sem] Tryd.underlying93
@[go_sem] theorem z93 : tsize Tryd.prog 93 = 2 := by kernel_rfl
@[go_sem] theorem k93 : ttag Tryd.prog 93 = some true := by kernel_rfl
@[go_sem] theorem y93 : Tryd.prog.bytesOf 93 = 32 := by kernel_rfl
@[go_sem] theorem s93 : isStr Tryd.prog 93 = false := by kernel_rfl
@[go_sem] theorem j93 : isI32 Tryd.prog 93 = false := by kernel_rfl
@[go_sem] theorem w93 : isU8 Tryd.prog 93 = false := by kernel_rfl
@[go_sem] theorem o93 : tzero Tryd.prog 93 = some [.slice none 0 0, .int .i64 0] := by kernel_rfl
@[go_sem] theorem i93 : (Tryd.prog.info? 93).isSome = true := by kernel_rfl
@[go_sem] theorem x93 : structOk Tryd.prog 93 = true := by kernel_rfl
@[go_sem] theorem g93x0 : fieldOff Tryd.prog 93 0 = some (0, 79) := by kernel_rfl
@[go_sem] theorem g93x1 : fieldOff Tryd.prog 93 1 = some (1, 3) := by kernel_rfl
attribute [go_sem] Tryd.underlying104
@[go_sem] theorem z104 : tsize Tryd.prog 104 = 9 := by kernel_rfl
@[go_sem] theorem k104 : ttag Tryd.prog 104 = some true := by kernel_rfl
@[go_sem] theorem y104 : Tryd.prog.bytesOf 104 = 72 := by kernel_rfl
@[go_sem] theorem s104 : isStr Tryd.prog 104 = false := by kernel_rfl
@[go_sem] theorem j104 : isI32 Tryd.prog 104 = false := by kernel_rfl
@[go_sem] theorem w104 : isU8 Tryd.prog 104 = false := by kernel_rfl
@[go_sem] theorem o104 : tzero Tryd.prog 104 = some [.int .i64 0, .int .i64 0, .int .i64 0, .int .i64 0, .int .i64 0, .int .i64 0, .int .i64 0, .int .i64 0, .int .i64 0] := by kernel_rfl
@[go_sem] theorem i104 : (Tryd.prog.info? 104).isSome = true := by kernel_rfl
attribute [go_sem] Tryd.underlying115
@[go_sem] theorem z115 : tsize Tryd.prog 115 = 1 := by kernel_rfl
@[go_sem] theorem k115 : ttag Tryd.prog 115 = some false := by kernel_rfl
@[go_sem] theorem y115 : Tryd.prog.bytesOf 115 = 8 := by kernel_rfl
@[go_sem] theorem s115 : isStr Tryd.prog 115 = false := by kernel_rfl
@[go_sem] theorem j115 : isI32 Tryd.prog 115 = false := by kernel_rfl
@[go_sem] theorem w115 : isU8 Tryd.prog 115 = false := by kernel_rfl
@[go_sem] theorem o115 : tzero Tryd.prog 115 = some [.int .u64 0] := by kernel_rfl
@[go_sem] theorem i115 : (Tryd.prog.info? 115).isSome = true := by kernel_rfl
attribute [go_sem] Tryd.underlying123
@[go_sem] theorem z123 : tsize Tryd.prog 123 = 1 := by kernel_rfl
@[go_sem] theorem k123 : ttag Tryd.prog 123 = some false := by kernel_rfl
@[go_sem] theorem y123 : Tryd.prog.bytesOf 123 = 8 := by kernel_rfl
@[go_sem] theorem s123 : isStr Tryd.prog 123 = false := by kernel_rfl
@[go_sem] theorem j123 : isI32 Tryd.prog 123 = false := by kernel_rfl
@[go_sem] theorem w123 : isU8 Tryd.prog 123 = false := by kernel_rfl
@[go_sem] theorem i123 : (Tryd.prog.info? 123).isSome = true := by kernel_rfl
attribute [go_sem] Tryd.underlying144
@[go_sem] theorem z144 : tsize Tryd.prog 144 = 1 := by kernel_rfl
@[go_sem] theorem k144 : ttag Tryd.prog 144 = some false := by kernel_rfl
@[go_sem] theorem y144 : Tryd.prog.bytesOf 144 = 8 := by kernel_rfl
@[go_sem] theorem s144 : isStr Tryd.prog 144 = false := by kernel_rfl
@[go_sem] theorem j144 : isI32 Tryd.prog 144 = false := by kernel_rfl
@[go_sem] theorem w144 : isU8 Tryd.prog 144 = false := by kernel_rfl
@[go_sem] theorem o144 : tzero Tryd.prog 144 = some [.int .u64 0] := by kernel_rfl
@[go_sem] theorem i144 : (Tryd.prog.info? 144).isSome = true := by kernel_rfl
def HQ (a : Nat -> Option (List Nat)) : Hint := ⟨a, (fun _ => none), (fun _ => none), [], false, (fun _ => none), fun _ => 0, 0, false, (fun _ => none)⟩
@[go_sem] theorem HQe (a : Nat -> Option (List Nat)) : (HQ a).late = (fun _ => none) := rfl
@[go_sem] theorem HQx (a : Nat -> Option (List Nat)) : (HQ a).mix = (fun _ => none) := rfl
@[go_sem] theorem HQl (a : Nat -> Option (List Nat)) : (HQ a).live = a := rfl
@[go_sem] theorem HQo (a : Nat -> Option (List Nat)) : (HQ a).mode = fun _ => 0 := rfl
@[go_sem] theorem HQk (a : Nat -> Option (List Nat)) : (HQ a).keep = (fun _ => none) := rfl
@[go_sem] theorem HQt (a : Nat -> Option (List Nat)) : (HQ a).tail = (fun _ => none) := rfl
@[go_sem] theorem HQv (a : Nat -> Option (List Nat)) : (HQ a).vars = [] := rfl
@[go_sem] theorem HQm (a : Nat -> Option (List Nat)) : (HQ a).mutc = false := rfl
@[go_sem] def h3a : Nat -> Option (List Nat) := (fun id => match id with | 0 => some [0] | 1 => some [2] | _ => none)
abbrev h3 : Hint := HQ h3a
@[go_sem] def h4a : Nat -> Option (List Nat) := (fun id => match id with | 0 => some [1] | 1 => some [1, 3, 4] | 2 => some [1, 3, 21] | 3 => some [2] | 4 => some [1, 3, 5] | 5 => some [1, 3, 5, 30, 31, 32] | 6 => some [1, 3, 5, 30, 31, 32, 33] | 7 => some [1, 3, 5, 7, 30, 31, 32] | 8 => some [1, 3, 5, 8, 9, 30, 31, 32] | 9 => some [1, 3, 5, 8, 30, 31, 32, 46] | 10 => some [2] | 11 => some [1, 3, 5, 8, 30, 31, 32, 47] | 12 => some [1, 3, 5, 8, 30, 31, 32, 47, 48] | 13 => some [1, 3, 5, 8, 10, 30, 31, 32, 47] | 14 => some [1, 3, 5, 8, 30, 31, 32, 47] | 15 => some [1, 3, 5, 8, 30, 31, 32, 47] | 16 => some [1, 3, 5, 30, 31, 32] | 17 => some [1, 3, 62] | 18 => some [2] | 19 => some [1, 3, 63, 64, 65] | 20 => some [1, 3, 63, 64, 65, 66] | 21 => some [1, 3, 12, 63, 64, 65] | 22 => some [1, 3, 12, 13, 14, 63, 64, 65] | 23 => some [1, 3, 63, 64, 65, 105] | 24 => some [2] | 25 => some [1, 3, 63, 64, 65] | 26 => some [2] | _ => none)
def h4 : Hint := ⟨h4a, (fun id => match id with | 10 => some 3 | 16 => some 3 | 24 => some 3 | 25 => some 3 | _ => none), (fun id => match id with | 14 => some 8 | _ => none), [], false, (fun _ => none), fun _ => 0, 0, false, (fun _ => none)⟩
@[go_sem] theorem h4e : h4.late = (fun _ => none) := rfl
@[go_sem] theorem h4x : h4.mix = (fun _ => none) := rfl
@[go_sem] theorem h4l : h4.live = h4a := rfl
@[go_sem] theorem h4o : h4.mode = fun _ => 0 := rfl
@[go_sem] theorem h4k : h4.keep = (fun id => match id with | 10 => some 3 | 16 => some 3 | 24 => some 3 | 25 => some 3 | _ => none) := rfl
@[go_sem] theorem h4t : h4.tail = (fun id => match id with | 14 => some 8 | _ => none) := rfl
@[go_sem] theorem h4v : h4.vars = [] := rfl
@[go_sem] theorem h4m : h4.mutc = false := rfl
@[go_sem] def h5a : Nat -> Option (List Nat) := (fun id => match id with | 0 => some [0] | 1 => some [0, 15] | 2 => some [4] | 3 => some [2] | 4 => some [0, 5, 6] | 5 => some [0, 5, 6, 7] | 6 => some [0, 5, 6, 7, 8] | 7 => some [5, 6, 7, 8, 32, 33, 34] | 8 => some [5, 6, 7, 8, 32, 33, 34, 35] | 9 => some [5, 6, 7, 8, 10, 32, 33, 34] | 10 => some [5, 6, 7, 8, 11, 12, 32, 33, 34] | 11 => some [5, 6, 7, 8, 11, 32, 33, 34, 49] | 12 => some [5, 6, 7, 8, 11, 32, 33, 34, 49] | 13 => some [5, 6, 7, 8, 32, 33, 34] | 14 => some [5, 6, 7, 8, 32, 33, 34] | 15 => some [5, 7, 8, 57] | 16 => some [2] | 17 => some [2] | _ => none)
def h5 : Hint := ⟨h5a, (fun _ => none), (fun _ => none), [7], false, (fun _ => none), fun _ => 0, 0, false, (fun _ => none)⟩
@[go_sem] theorem h5x : h5.mix = (fun _ => none) := rfl
@[go_sem] theorem h5l : h5.live = h5a := rfl
@[go_sem] theorem h5o : h5.mode = fun _ => 0 := rfl
@[go_sem] theorem h5k : h5.keep = (fun _ => none) := rfl
@[go_sem] theorem h5t : h5.tail = (fun _ => none) := rfl
@[go_sem] theorem h5v : h5.vars = [7] := rfl
@[go_sem] theorem h5m : h5.mutc = false := rfl
@[go_sem] def h6a : Nat -> Option (List Nat) := (fun id => match id with | 0 => some [0] | 1 => some [2] | _ => none)
abbrev h6 : Hint := HQ h6a
@[go_sem] def h7a : Nat -> Option (List Nat) := (fun id => match id with | 0 => some [0] | 1 => some [2] | _ => none)
abbrev h7 : Hint := HQ h7a
@[go_sem] def h8a : Nat -> Option (List Nat) := (fun id => match id with | 0 => some [] | 1 => some [1, 2] | 2 => some [0] | _ => none)
abbrev h8 : Hint := HQ h8a
@[go_sem] def h9a : Nat -> Option (List Nat) := (fun id => match id with | 0 => some [1, 2] | 1 => some [1, 2, 7] | 2 => some [2, 3] | 3 => some [2, 3] | _ => none)
abbrev h9 : Hint := HQ h9a
@[go_sem] def h10a : Nat -> Option (List Nat) := (fun id => match id with | 0 => some [0] | 1 => some [2] | _ => none)
abbrev h10 : Hint := HQ h10a
@[go_sem] def h11a : Nat -> Option (List Nat) := (fun id => match id with | 0 => some [0] | 1 => some [0, 8] | 2 => some [2, 3] | 3 => some [4, 5] | 4 => some [4, 20] | 5 => some [2, 3] | 6 => some [2, 3] | _ => none)
abbrev h11 : Hint := HQ h11a
@[go_sem] def h12a : Nat -> Option (List Nat) := (fun id => match id with | 0 => some [0] | 1 => some [0, 3] | 2 => some [0, 3, 4] | 3 => some [0, 3, 4, 7, 8, 9] | 4 => some [0, 3, 4, 7, 8, 9, 10] | 5 => some [0, 3, 4, 5, 6, 7, 8, 9] | 6 => some [0, 3, 4, 5, 7, 8, 9, 17] | 7 => some [0, 3, 5, 7, 8, 9] | 8 => some [0, 3, 4, 5, 7, 8, 9, 17] | 9 => some [0, 3, 4, 7, 8, 9] | 10 => some [2] | _ => none)
def h12 : Hint := ⟨h12a, (fun id => match id with | 9 => some 0 | _ => none), (fun _ => none), [3], false, (fun _ => none), fun _ => 0, 0, false, (fun _ => none)⟩
@[go_sem] theorem h12x : h12.mix = (fun _ => none) := rfl
@[go_sem] theorem h12l : h12.live = h12a := rfl
@[go_sem] theorem h12o : h12.mode = fun _ => 0 := rfl
@[go_sem] theorem h12k : h12.keep = (fun id => match id with | 9 => some 0 | _ => none) := rfl
@[go_sem] theorem h12t : h12.tail = (fun _ => none) := rfl
@[go_sem] theorem h12v : h12.vars = [3] := rfl
@[go_sem] theorem h12m : h12.mutc = false := rfl
@[go_sem] def h13a : Nat -> Option (List Nat) := (fun id => match id with | 0 => some [0, 1] | 1 => some [0, 1, 16] | 2 => some [4] | 3 => some [0, 1, 18, 19] | 4 => some [0, 1, 18, 19, 20] | 5 => some [0, 1, 5, 18, 19] | 6 => some [0, 1, 5, 18, 19, 34] | 7 => some [4] | 8 => some [0, 1, 5, 18, 19, 39, 40, 41] | 9 => some [0, 1, 5, 18, 19, 39, 40, 41, 42] | 10 => some [0, 1, 5, 6, 7, 18, 19, 39, 40, 41] | 11 => some [0, 1, 5, 7, 8, 18, 19, 39, 40, 41] | 12 => some [0, 1, 5, 7, 8, 18, 19, 39, 40, 41, 67] | 13 => some [4] | 14 => some [0, 1, 5, 8, 18, 19, 39, 40, 41, 69, 70, 71] | 15 => some [0, 1, 5, 8, 18, 19, 39, 40, 41, 69, 70, 71, 72] | 16 => some [0, 1, 5, 8, 9, 10, 18, 19, 39, 40, 41, 69, 70, 71] | 17 => some [0, 1, 5, 8, 10, 11, 18, 19, 39, 40, 41, 69, 70, 71] | 18 => some [0, 1, 5, 8, 18, 19, 39, 40, 41, 69, 70, 71, 135] | 19 => some [4] | 20 => some [0, 1, 5, 8, 18, 19, 39, 40, 41, 69, 70, 71] | 21 => some [0, 1, 5, 18, 19, 39, 40, 41] | 22 => some [0, 1, 18, 19] | 23 => some [4] | _ => none)
def h13 : Hint := ⟨h13a, (fun id => match id with | 7 => some 0 | 13 => some 0 | 18 => some 2 | 19 => some 0 | 21 => some 0 | _ => none), (fun id => match id with | 6 => some 13 | _ => none), [], false, (fun _ => none), fun _ => 0, 0, false, (fun _ => none)⟩
@[go_sem] theorem h13e : h13.late = (fun _ => none) := rfl
@[go_sem] theorem h13x : h13.mix = (fun _ => none) := rfl
@[go_sem] theorem h13l : h13.live = h13a := rfl
@[go_sem] theorem h13o : h13.mode = fun _ => 0 := rfl
@[go_sem] theorem h13k : h13.keep = (fun id => match id with | 7 => some 0 | 13 => some 0 | 18 => some 2 | 19 => some 0 | 21 => some 0 | _ => none) := rfl
@[go_sem] theorem h13t : h13.tail = (fun id => match id with | 6 => some 13 | _ => none) := rfl
@[go_sem] theorem h13v : h13.vars = [] := rfl
@[go_sem] theorem h13m : h13.mutc = false := rfl
@[go_sem] def h14a : Nat -> Option (List Nat) := (fun id => match id with | 0 => some [0, 1] | 1 => some [0, 1, 17] | 2 => some [4] | 3 => some [1, 18, 19, 20] | 4 => some [1, 18, 19, 20, 21] | 5 => some [1, 6, 18, 19, 20] | 6 => some [1, 6, 18, 19, 20, 27] | 7 => some [4] | 8 => some [1, 18, 19, 20, 29, 30, 31] | 9 => some [1, 18, 19, 20, 29, 30, 31, 32] | 10 => some [1, 7, 8, 18, 19, 20, 29, 30, 31] | 11 => some [1, 8, 18, 19, 20, 29, 30, 31, 57] | 12 => some [4] | 13 => some [1, 18, 19, 20, 29, 30, 31, 59, 60, 61] | 14 => some [1, 18, 19, 20, 29, 30, 31, 59, 60, 61, 62] | 15 => some [1, 9, 10, 18, 19, 20, 29, 30, 31, 59, 60, 61] | 16 => some [1, 18, 19, 20, 29, 30, 31, 59, 60, 61, 78] | 17 => some [4] | 18 => some [1, 18, 19, 20, 29, 30, 31, 59, 60, 61] | 19 => some [1, 18, 19, 20, 29, 30, 31] | 20 => some [1, 18, 19, 20] | 21 => some [4] | _ => none)
def h14 : Hint := ⟨h14a, (fun id => match id with | 7 => some 0 | 8 => some 0 | 12 => some 0 | 13 => some 0 | 16 => some 0 | _ => none), (fun _ => none), [], false, (fun _ => none), fun _ => 0, 0, false, (fun _ => none)⟩
@[go_sem] theorem h14x : h14.mix = (fun _ => none) := rfl
@[go_sem] theorem h14l : h14.live = h14a := rfl
@[go_sem] theorem h14o : h14.mode = fun _ => 0 := rfl
@[go_sem] theorem h14k : h14.keep = (fun id => match id with | 7 => some 0 | 8 => some 0 | 12 => some 0 | 13 => some 0 | 16 => some 0 | _ => none) := rfl
@[go_sem] theorem h14t : h14.tail = (fun _ => none) := rfl
@[go_sem] theorem h14v : h14.vars = [] := rfl
@[go_sem] theorem h14m : h14.mutc = false := rfl
@[go_sem] def h15a : Nat -> Option (List Nat) := (fun id => match id with | 0 => some [0, 1] | 1 => some [0, 1, 17] | 2 => some [4] | 3 => some [1, 18, 19, 20] | 4 => some [1, 18, 19, 20, 21] | 5 => some [1, 6, 18, 19, 20] | 6 => some [1, 6, 18, 19, 20, 27] | 7 => some [4] | 8 => some [1, 18, 19, 20, 29, 30, 31] | 9 => some [1, 18, 19, 20, 29, 30, 31, 32] | 10 => some [1, 7, 8, 18, 19, 20, 29, 30, 31] | 11 => some [1, 8, 18, 19, 20, 29, 30, 31, 62] | 12 => some [4] | 13 => some [1, 18, 19, 20, 29, 30, 31, 64, 65, 66] | 14 => some [1, 18, 19, 20, 29, 30, 31, 64, 65, 66, 67] | 15 => some [1, 9, 10, 18, 19, 20, 29, 30, 31, 64, 65, 66] | 16 => some [1, 18, 19, 20, 29, 30, 31, 64, 65, 66, 88] | 17 => some [4] | 18 => some [1, 18, 19, 20, 29, 30, 31, 64, 65, 66] | 19 => some [1, 18, 19, 20, 29, 30, 31] | 20 => some [1, 18, 19, 20] | 21 => some [4] | _ => none)
def h15 : Hint := ⟨h15a, (fun id => match id with | 7 => some 0 | 8 => some 0 | 12 => some 0 | 13 => some 0 | 16 => some 0 | _ => none), (fun _ => none), [], false, (fun _ => none), fun _ => 0, 0, false, (fun _ => none)⟩
@[go_sem] theorem h15x : h15.mix = (fun _ => none) := rfl
@[go_sem] theorem h15l : h15.live = h15a := rfl
@[go_sem] theorem h15o : h15.mode = fun _ => 0 := rfl
@[go_sem] theorem h15k : h15.keep = (fun id => match id with | 7 => some 0 | 8 => some 0 | 12 => some 0 | 13 => some 0 | 16 => some 0 | _ => none) := rfl
@[go_sem] theorem h15t : h15.tail = (fun _ => none) := rfl
@[go_sem] theorem h15v : h15.vars = [] := rfl
@[go_sem] theorem h15m : h15.mutc = false := rfl
@[go_sem] def h16a : Nat -> Option (List Nat) := (fun id => match id with | 0 => some [0] | 1 => some [2] | _ => none)
abbrev h16 : Hint := HQ h16a
@[go_sem] def h17a : Nat -> Option (List Nat) := (fun id => match id with | 0 => some [1, 2] | 1 => some [1, 2, 3] | 2 => some [2, 3, 11, 12, 13] | 3 => some [2, 3, 11, 12, 13, 14] | 4 => some [2, 3, 5, 11, 12, 13] | 5 => some [2, 3, 11, 12, 13, 18, 19, 20] | 6 => some [2, 3, 11, 12, 13, 18, 19, 20, 21] | 7 => some [2, 3, 7, 11, 12, 13, 18, 19, 20] | 8 => some [2, 3, 8, 11, 12, 13, 18, 19, 20] | 9 => some [2, 3, 8, 11, 12, 13, 18, 19, 20, 26] | 10 => some [2, 3, 8, 11, 12, 13, 18, 19, 20, 26, 27] | 11 => some [2, 3, 8, 9, 11, 12, 13, 18, 19, 20, 26] | 12 => some [2, 3, 8, 11, 12, 13, 18, 19, 20, 26] | 13 => some [2, 3, 8, 11, 12, 13, 18, 19, 20, 26] | 14 => some [2, 3, 11, 12, 13, 18, 19, 20] | 15 => some [2, 3, 11, 12, 13] | 16 => some [2] | _ => none)
def h17 : Hint := ⟨h17a, (fun id => match id with | 5 => some 3 | 14 => some 3 | _ => none), (fun id => match id with | 12 => some 8 | _ => none), [], false, (fun _ => none), fun _ => 0, 0, false, (fun _ => none)⟩
@[go_sem] theorem h17e : h17.late = (fun _ => none) := rfl
@[go_sem] theorem h17x : h17.mix = (fun _ => none) := rfl
@[go_sem] theorem h17l : h17.live = h17a := rfl
@[go_sem] theorem h17o : h17.mode = fun _ => 0 := rfl
@[go_sem] theorem h17k : h17.keep = (fun id => match id with | 5 => some 3 | 14 => some 3 | _ => none) := rfl
@[go_sem] theorem h17t : h17.tail = (fun id => match id with | 12 => some 8 | _ => none) := rfl
@[go_sem] theorem h17v : h17.vars = [] := rfl
@[go_sem] theorem h17m : h17.mutc = false := rfl
@[go_sem] def h18a : Nat -> Option (List Nat) := (fun id => match id with | 0 => some [0, 1] | 1 => some [1, 7, 8, 9] | 2 => some [1, 7, 8, 9, 10] | 3 => some [1, 6, 7, 8, 9] | 4 => some [1, 6, 7, 8, 9, 22] | 5 => some [4] | 6 => some [1, 6, 7, 8, 9, 27] | 7 => some [1, 7, 8, 9, 31] | 8 => some [4] | 9 => some [1, 7, 8, 9, 41] | 10 => some [4] | 11 => some [1, 7, 8, 9] | 12 => some [4] | _ => none)
def h18 : Hint := ⟨h18a, (fun id => match id with | 11 => some 0 | _ => none), (fun _ => none), [], false, (fun _ => none), fun _ => 0, 0, false, (fun _ => none)⟩
@[go_sem] theorem h18x : h18.mix = (fun _ => none) := rfl
@[go_sem] theorem h18l : h18.live = h18a := rfl
@[go_sem] theorem h18o : h18.mode = fun _ => 0 := rfl
@[go_sem] theorem h18k : h18.keep = (fun id => match id with | 11 => some 0 | _ => none) := rfl
@[go_sem] theorem h18t : h18.tail = (fun _ => none) := rfl
@[go_sem] theorem h18v : h18.vars = [] := rfl
@[go_sem] theorem h18m : h18.mutc = false := rfl
@[go_sem] def h19a : Nat -> Option (List Nat) := (fun id => match id with | 0 => some [0] | 1 => some [2] | _ => none)
abbrev h19 : Hint := HQ h19a
@[go_sem] def h20a : Nat -> Option (List Nat) := (fun id => match id with | 0 => some [0] | 1 => some [0, 4] | 2 => some [4, 11, 12, 13] | 3 => some [4, 11, 12, 13, 14] | 4 => some [4, 6, 11, 12, 13] | 5 => some [4, 7, 11, 12, 13] | 6 => some [4, 8, 9, 11, 12, 13] | 7 => some [4, 8, 11, 12, 13, 24] | 8 => some [2, 3] | 9 => some [4, 11, 12, 13] | 10 => some [4, 11, 12, 13] | 11 => some [2, 3] | _ => none)
def h20 : Hint := ⟨h20a, (fun _ => none), (fun _ => none), [4], false, (fun _ => none), fun _ => 0, 0, false, (fun _ => none)⟩
@[go_sem] theorem h20x : h20.mix = (fun _ => none) := rfl
@[go_sem] theorem h20l : h20.live = h20a := rfl
@[go_sem] theorem h20o : h20.mode = fun _ => 0 := rfl
@[go_sem] theorem h20k : h20.keep = (fun _ => none) := rfl
@[go_sem] theorem h20t : h20.tail = (fun _ => none) := rfl
@[go_sem] theorem h20v : h20.vars = [4] := rfl
@[go_sem] theorem h20m : h20.mutc = false := rfl
@[go_sem] def h21a : Nat -> Option (List Nat) := (fun id => match id with | 0 => some [0] | 1 => some [0, 3, 4] | 2 => some [0, 3, 4, 16] | 3 => some [0, 3, 4] | 4 => some [0, 3, 4, 29] | 5 => some [0, 3, 4] | 6 => some [2] | _ => none)
abbrev h21 : Hint := HQ h21a
@[go_sem] def h22a : Nat -> Option (List Nat) := (fun id => match id with | 0 => some [1, 2] | 1 => some [1, 2, 5] | 2 => some [1, 2, 5, 6, 7] | 3 => some [1, 2, 5, 6, 7] | 4 => some [1, 2, 5, 6, 7, 14] | 5 => some [1, 2, 5, 6, 7, 14, 15] | 6 => some [1, 2, 5, 6, 7, 14, 15] | 7 => some [1, 2, 5, 6, 7, 14, 15] | 8 => some [1, 2, 5, 6, 7, 14, 15] | 9 => some [1, 2, 5, 6, 7, 14, 15] | 10 => some [1, 2, 5, 6, 7, 14, 23] | 11 => some [2, 5, 6, 7] | 12 => some [5, 6, 7] | 13 => some [1, 2, 5, 6, 7, 14, 15] | 14 => some [1, 2, 5, 6, 7, 14, 67] | 15 => some [1, 2, 5, 6, 7, 14, 67] | 16 => some [1, 2, 5, 6, 7, 14, 67] | 17 => some [1, 2, 5, 6, 7, 14, 15] | 18 => some [1, 2, 5, 6, 7, 14, 75] | 19 => some [1, 2, 5, 6, 7, 14, 75] | 20 => some [5, 6, 7] | 21 => some [1, 2, 5, 6, 7, 14, 15] | 22 => some [5, 6, 7, 14, 92] | 23 => some [5, 6, 7, 14, 92] | 24 => some [5, 6, 7, 14, 92] | 25 => some [5, 6, 7, 14, 92] | 26 => some [5, 6, 7, 14, 92] | 27 => some [5, 6, 7, 14, 92] | 28 => some [4] | _ => none)
@[go_sem] def h22M : Nat -> Option Mix := (fun id => match id with | 2 => some ⟨[0, 1, 2], [], .head 0 (.head 1 (.alt (.one 2 (.one 3 (.one 4 (.one 5 (.fin))))) (.one 3 (.alt (.one 2 (.one 4 (.one 5 (.fin)))) (.one 4 (.head 2 (.one 5 (.fin))))))))⟩ | _ => none)
def h22 : Hint := ⟨h22a, (fun _ => none), (fun id => match id with | 2 => some 3 | _ => none), [], false, h22M, fun _ => 0, 0, false, (fun _ => none)⟩
@[go_sem] theorem h22e : h22.late = (fun _ => none) := rfl
@[go_sem] theorem h22x : h22.mix = h22M := rfl
@[go_sem] theorem h22l : h22.live = h22a := rfl
@[go_sem] theorem h22o : h22.mode = fun _ => 0 := rfl
@[go_sem] theorem h22k : h22.keep = (fun _ => none) := rfl
@[go_sem] theorem h22t : h22.tail = (fun id => match id with | 2 => some 3 | _ => none) := rfl
@[go_sem] theorem h22v : h22.vars = [] := rfl
@[go_sem] theorem h22m : h22.mutc = false := rfl
@[go_sem] def h23a : Nat -> Option (List Nat) := (fun id => match id with | 0 => some [1, 2] | 1 => some [1, 2, 5] | 2 => some [1, 2, 5, 6] | 3 => some [1, 2, 5, 6, 7] | 4 => some [1, 2, 5, 6, 7, 41] | 5 => some [4] | 6 => some [2, 7, 93] | 7 => some [4] | 8 => some [2, 7, 96] | 9 => some [2, 7, 124] | 10 => some [4] | 11 => some [2, 7, 136] | 12 => some [4] | 13 => some [2, 138] | 14 => some [4] | 15 => some [4] | _ => none)
abbrev h23 : Hint := HQ h23a
@[go_sem] def h24a : Nat -> Option (List Nat) := (fun id => match id with | 0 => some [0] | 1 => some [0, 3] | 2 => some [3, 9, 10, 11] | 3 => some [3, 9, 10, 11, 12] | 4 => some [3, 5, 9, 10, 11] | 5 => some [3, 5, 6, 9, 10, 11] | 6 => some [3, 5, 6, 9, 10, 11, 31] | 7 => some [3, 9, 10, 11] | 8 => some [3, 5, 6, 9, 10, 11, 37] | 9 => some [3, 9, 10, 11] | 10 => some [3, 9, 10, 11] | 11 => some [3, 9, 10, 11] | 12 => some [3, 59] | 13 => some [3, 9, 10, 11] | 14 => some [2] | _ => none)
@[go_sem] def h24M : Nat -> Option Mix := (fun id => match id with | 10 => some ⟨[0, 1, 2, 3, 4, 5, 6, 7, 8], [], .head 0 (.head 1 (.head 2 (.head 3 (.head 4 (.head 5 (.head 6 (.head 7 (.head 8 (.two 9)))))))))⟩ | _ => none)
def h24 : Hint := ⟨h24a, (fun id => match id with | 11 => some 1 | _ => none), (fun id => match id with | 6 => some 14 | 10 => some 8 | _ => none), [3], false, h24M, (fun d => match d with | some 8 => 1 | some 41 => 2 | some 42 => 1 | _ => 0), 0, false, (fun _ => none)⟩
@[go_sem] theorem h24e : h24.late = (fun _ => none) := rfl
@[go_sem] theorem h24x : h24.mix = h24M := rfl
@[go_sem] theorem h24l : h24.live = h24a := rfl
@[go_sem] theorem h24o : h24.mode = (fun d => match d with | some 8 => 1 | some 41 => 2 | some 42 => 1 | _ => 0) := rfl
@[go_sem] theorem h24k : h24.keep = (fun id => match id with | 11 => some 1 | _ => none) := rfl
@[go_sem] theorem h24t : h24.tail = (fun id => match id with | 6 => some 14 | 10 => some 8 | _ => none) := rfl
@[go_sem] theorem h24v : h24.vars = [3] := rfl
@[go_sem] theorem h24m : h24.mutc = false := rfl
@[go_sem] def h25a : Nat -> Option (List Nat) := (fun id => match id with | 0 => some [0] | 1 => some [2] | _ => none)
abbrev h25 : Hint := HQ h25a
@[go_sem] def h26a : Nat -> Option (List Nat) := (fun id => match id with | 0 => some [1, 2] | 1 => some [1, 2, 7] | 2 => some [1, 2, 7, 8] | 3 => some [1, 2, 7, 8] | 4 => some [2] | 5 => some [1, 2, 7, 12] | 6 => some [2] | 7 => some [1, 2, 7, 15] | 8 => some [2] | 9 => some [1, 2, 7, 18] | 10 => some [1, 2, 7, 18] | 11 => some [1, 2, 3] | 12 => some [2, 3, 22, 23, 24] | 13 => some [2, 3, 22, 23, 24, 25] | 14 => some [2, 3, 5, 22, 23, 24] | 15 => some [2, 3, 22, 23, 24] | 16 => some [2, 3, 22, 23, 24] | 17 => some [2] | 18 => some [2] | _ => none)
def h26 : Hint := ⟨h26a, (fun id => match id with | 15 => some 2 | _ => none), (fun _ => none), [3], false, (fun _ => none), fun _ => 0, 0, false, (fun _ => none)⟩
@[go_sem] theorem h26x : h26.mix = (fun _ => none) := rfl
@[go_sem] theorem h26l : h26.live = h26a := rfl
@[go_sem] theorem h26o : h26.mode = fun _ => 0 := rfl
@[go_sem] theorem h26k : h26.keep = (fun id => match id with | 15 => some 2 | _ => none) := rfl
@[go_sem] theorem h26t : h26.tail = (fun _ => none) := rfl
@[go_sem] theorem h26v : h26.vars = [3] := rfl
@[go_sem] theorem h26m : h26.mutc = false := rfl
@[go_sem] def h27a : Nat -> Option (List Nat) := (fun id => match id with | 0 => some [0] | 1 => some [3] | 2 => some [3, 4] | 3 => some [3, 4] | 4 => some [2] | 5 => some [3, 7] | 6 => some [2] | 7 => some [9] | 8 => some [2] | 9 => some [2] | _ => none)
abbrev h27 : Hint := HQ h27a
@[go_sem] def h28a : Nat -> Option (List Nat) := (fun id => match id with | 0 => some [0, 1] | 1 => some [1, 7, 8, 9] | 2 => some [1, 7, 8, 9, 10] | 3 => some [1, 6, 7, 8, 9] | 4 => some [1, 6, 7, 8, 9, 22] | 5 => some [4] | 6 => some [1, 6, 7, 8, 9, 27] | 7 => some [1, 7, 8, 9, 31] | 8 => some [4] | 9 => some [1, 7, 8, 9, 41] | 10 => some [4] | 11 => some [1, 7, 8, 9] | 12 => some [4] | _ => none)
def h28 : Hint := ⟨h28a, (fun id => match id with | 11 => some 0 | _ => none), (fun _ => none), [], false, (fun _ => none), fun _ => 0, 0, false, (fun _ => none)⟩
@[go_sem] theorem h28x : h28.mix = (fun _ => none) := rfl
@[go_sem] theorem h28l : h28.live = h28a := rfl
@[go_sem] theorem h28o : h28.mode = fun _ => 0 := rfl
@[go_sem] theorem h28k : h28.keep = (fun id => match id with | 11 => some 0 | _ => none) := rfl
@[go_sem] theorem h28t : h28.tail = (fun _ => none) := rfl
@[go_sem] theorem h28v : h28.vars = [] := rfl
@[go_sem] theorem h28m : h28.mutc = false := rfl
@[go_sem] def h29a : Nat -> Option (List Nat) := (fun id => match id with | 0 => some [0] | 1 => some [0, 3] | 2 => some [0, 3, 4] | 3 => some [0, 3, 4, 7, 8, 9] | 4 => some [0, 3, 4, 7, 8, 9, 10] | 5 => some [0, 3, 4, 5, 6, 7, 8, 9] | 6 => some [0, 3, 4, 5, 7, 8, 9, 17] | 7 => some [0, 3, 5, 7, 8, 9] | 8 => some [0, 3, 4, 5, 7, 8, 9, 17] | 9 => some [0, 3, 4, 7, 8, 9] | 10 => some [2] | _ => none)
def h29 : Hint := ⟨h29a, (fun id => match id with | 9 => some 0 | _ => none), (fun _ => none), [3], false, (fun _ => none), fun _ => 0, 0, false, (fun _ => none)⟩
@[go_sem] theorem h29x : h29.mix = (fun _ => none) := rfl
@[go_sem] theorem h29l : h29.live = h29a := rfl
@[go_sem] theorem h29o : h29.mode = fun _ => 0 := rfl
@[go_sem] theorem h29k : h29.keep = (fun id => match id with | 9 => some 0 | _ => none) := rfl
@[go_sem] theorem h29t : h29.tail = (fun _ => none) := rfl
@[go_sem] theorem h29v : h29.vars = [3] := rfl
@[go_sem] theorem h29m : h29.mutc = false := rfl
@[go_sem] def h30a : Nat -> Option (List Nat) := (fun id => match id with | 0 => some [0, 2] | 1 => some [0, 2, 4] | 2 => some [0, 2, 4, 5] | 3 => some [0, 2, 4, 6] | 4 => some [0, 2, 4, 6, 12] | 5 => some [2, 3] | 6 => some [0, 2, 4] | 7 => some [0, 2, 4, 21] | 8 => some [2, 3] | 9 => some [0, 2, 4, 7] | 10 => some [2, 3] | 11 => some [0, 2, 4, 7, 26] | 12 => some [0, 2, 4, 5] | 13 => some [0, 2, 4, 7, 29] | 14 => some [0, 2, 4, 5] | 15 => some [0, 2, 4, 7, 32] | 16 => some [0, 2, 4, 5] | 17 => some [0, 2, 4, 35] | 18 => some [0, 2, 4, 5] | 19 => some [0, 2, 4, 5] | 20 => some [0, 2, 4, 5] | _ => none)
abbrev h30 : Hint := HQ h30a
@[go_sem] def h31a : Nat -> Option (List Nat) := (fun id => match id with | 0 => some [1] | 1 => some [2] | _ => none)
abbrev h31 : Hint := HQ h31a
@[go_sem] def h32a : Nat -> Option (List Nat) := (fun id => match id with | 0 => some [0] | 1 => some [2] | _ => none)
abbrev h32 : Hint := HQ h32a
@[go_sem] def h33a : Nat -> Option (List Nat) := (fun id => match id with | 0 => some [0] | 1 => some [2] | _ => none)
abbrev h33 : Hint := HQ h33a
@[go_sem] def h34a : Nat -> Option (List Nat) := (fun id => match id with | 0 => some [0] | 1 => some [2] | _ => none)
abbrev h34 : Hint := HQ h34a
@[go_sem] def h35a : Nat -> Option (List Nat) := (fun id => match id with | 0 => some [0] | 1 => some [4] | 2 => some [2] | _ => none)
abbrev h35 : Hint := HQ h35a
@[go_sem] def h36a : Nat -> Option (List Nat) := (fun id => match id with | 0 => some [0] | 1 => some [0, 3] | 2 => some [0, 3, 4] | 3 => some [0, 3, 4] | 4 => some [0, 3, 4, 16] | 5 => some [0, 30, 31, 33] | 6 => some [0] | 7 => some [0] | 8 => some [2] | _ => none)
@[go_sem] def h36M : Nat -> Option Mix := (fun id => match id with | 4 => some ⟨[3], [], .one 0 (.alt (.one 1 (.one 2 (.head 3 (.fin)))) (.one 2 (.one 1 (.head 3 (.fin)))))⟩ | 7 => some ⟨[0, 1, 2, 3, 4, 5, 6, 7, 8, 9, 10, 11, 12, 13, 14, 16, 17], [], .head 3 (.head 4 (.head 5 (.head 6 (.head 7 (.head 8 (.head 9 (.head 10 (.head 11 (.head 12 (.head 13 (.head 14 (.alt (.one 0 (.alt (.one 1 (.alt (.one 2 (.one 15 (.head 16 (.head 17 (.one 18 (.fin)))))) (.one 15 (.head 2 (.head 16 (.head 17 (.one 18 (.fin)))))))) (.one 15 (.head 1 (.head 2 (.head 16 (.head 17 (.one 18 (.fin))))))))) (.alt (.one 1 (.alt (.one 0 (.alt (.one 2 (.one 15 (.head 16 (.head 17 (.one 18 (.fin)))))) (.one 15 (.head 2 (.head 16 (.head 17 (.one 18 (.fin)))))))) (.alt (.one 2 (.alt (.one 0 (.one 15 (.head 16 (.head 17 (.one 18 (.fin)))))) (.one 15 (.head 0 (.head 16 (.head 17 (.one 18 (.fin)))))))) (.one 15 (.head 0 (.head 2 (.head 16 (.head 17 (.one 18 (.fin)))))))))) (.one 15 (.head 0 (.head 1 (.head 2 (.head 16 (.head 17 (.one 18 (.fin)))))))))))))))))))))⟩ | _ => none)
def h36 : Hint := ⟨h36a, (fun id => match id with | 4 => some 1001 | _ => none), (fun id => match id with | 4 => some 0 | 5 => some 16 | 7 => some 14 | _ => none), [], false, h36M, fun _ => 0, 0, false, (fun id => match id with | 5 => some 0 | _ => none)⟩
@[go_sem] theorem h36e : h36.late = (fun id => match id with | 5 => some 0 | _ => none) := rfl
@[go_sem] theorem h36x : h36.mix = h36M := rfl
@[go_sem] theorem h36l : h36.live = h36a := rfl
@[go_sem] theorem h36o : h36.mode = fun _ => 0 := rfl
@[go_sem] theorem h36k : h36.keep = (fun id => match id with | 4 => some 1001 | _ => none) := rfl
@[go_sem] theorem h36t : h36.tail = (fun id => match id with | 4 => some 0 | 5 => some 16 | 7 => some 14 | _ => none) := rfl
@[go_sem] theorem h36v : h36.vars = [] := rfl
@[go_sem] theorem h36m : h36.mutc = false := rfl
@[go_sem] def h37a : Nat -> Option (List Nat) := (fun id => match id with | 0 => some [0] | 1 => some [0, 3] | 2 => some [3, 4] | 3 => some [3, 4] | 4 => some [3, 4, 12] | 5 => some [2] | 6 => some [3, 4] | _ => none)
def h37 : Hint := ⟨h37a, (fun _ => none), (fun _ => none), [3], false, (fun _ => none), fun _ => 0, 0, false, (fun _ => none)⟩
@[go_sem] theorem h37x : h37.mix = (fun _ => none) := rfl
@[go_sem] theorem h37l : h37.live = h37a := rfl
@[go_sem] theorem h37o : h37.mode = fun _ => 0 := rfl
@[go_sem] theorem h37k : h37.keep = (fun _ => none) := rfl
@[go_sem] theorem h37t : h37.tail = (fun _ => none) := rfl
@[go_sem] theorem h37v : h37.vars = [3] := rfl
@[go_sem] theorem h37m : h37.mutc = false := rfl
@[go_sem] def h38a : Nat -> Option (List Nat) := (fun id => match id with | 0 => some [0] | 1 => some [0, 28] | 2 => some [0, 28] | 3 => some [0, 3] | 4 => some [0, 3, 4] | 5 => some [3, 4, 32, 33, 34] | 6 => some [3, 4, 32, 33, 34, 35] | 7 => some [3, 4, 6, 32, 33, 34] | 8 => some [3, 4, 6, 7, 32, 33, 34] | 9 => some [3, 4, 6, 7, 32, 33, 34, 39] | 10 => some [3, 4, 6, 7, 32, 33, 34, 39, 40] | 11 => some [3, 4, 6, 7, 32, 33, 34, 39, 40] | 12 => some [3, 4, 6, 7, 32, 33, 34, 39, 40] | 13 => some [3, 4, 6, 7, 32, 33, 34, 43] | 14 => some [3, 4, 6, 7, 32, 33, 34, 39, 40] | 15 => some [3, 6, 7, 32, 33, 34, 50] | 16 => some [3, 6, 7, 32, 33, 34, 50] | 17 => some [3, 4, 32, 33, 34] | 18 => some [3, 4, 32, 33, 34] | 19 => some [2] | _ => none)
def h38 : Hint := ⟨h38a, (fun _ => none), (fun _ => none), [3], false, (fun _ => none), fun _ => 0, 0, false, (fun _ => none)⟩
@[go_sem] theorem h38x : h38.mix = (fun _ => none) := rfl
@[go_sem] theorem h38l : h38.live = h38a := rfl
@[go_sem] theorem h38o : h38.mode = fun _ => 0 := rfl
@[go_sem] theorem h38k : h38.keep = (fun _ => none) := rfl
@[go_sem] theorem h38t : h38.tail = (fun _ => none) := rfl
@[go_sem] theorem h38v : h38.vars = [3] := rfl
@[go_sem] theorem h38m : h38.mutc = false := rfl
@[go_sem] def h39a : Nat -> Option (List Nat) := (fun id => match id with | 0 => some [0, 2] | 1 => some [0, 2, 3] | 2 => some [2, 3, 6, 7, 8] | 3 => some [2, 3, 6, 7, 8, 9] | 4 => some [2, 3, 4, 5, 6, 7, 8] | 5 => some [2, 3, 5, 6, 7, 8, 19] | 6 => some [2, 3, 5, 6, 7, 8, 19] | 7 => some [2, 3, 6, 7, 8] | 8 => some [2] | _ => none)
def h39 : Hint := ⟨h39a, (fun id => match id with | 7 => some 2 | _ => none), (fun _ => none), [], false, (fun _ => none), fun _ => 0, 0, false, (fun _ => none)⟩
@[go_sem] theorem h39x : h39.mix = (fun _ => none) := rfl
@[go_sem] theorem h39l : h39.live = h39a := rfl
@[go_sem] theorem h39o : h39.mode = fun _ => 0 := rfl
@[go_sem] theorem h39k : h39.keep = (fun id => match id with | 7 => some 2 | _ => none) := rfl
@[go_sem] theorem h39t : h39.tail = (fun _ => none) := rfl
@[go_sem] theorem h39v : h39.vars = [] := rfl
@[go_sem] theorem h39m : h39.mutc = false := rfl
@[go_sem] def h40a : Nat -> Option (List Nat) := (fun id => match id with | 0 => some [0] | 1 => some [3] | 2 => some [3, 4] | 3 => some [3, 6] | 4 => some [3, 8] | 5 => some [10] | 6 => some [2] | 7 => some [2] | 8 => some [2] | 9 => some [2] | _ => none)
abbrev h40 : Hint := HQ h40a
@[go_sem] def h41a : Nat -> Option (List Nat) := (fun id => match id with | 0 => some [0] | 1 => some [2] | _ => none)
abbrev h41 : Hint := HQ h41a
@[go_sem] def h42a : Nat -> Option (List Nat) := (fun id => match id with | 0 => some [0, 1] | 1 => some [0, 1, 8] | 2 => some [0, 1] | 3 => some [0, 1, 8] | 4 => some [0, 1, 33] | 5 => some [0, 1] | 6 => some [0, 1, 8] | 7 => some [0, 1, 5, 6, 7] | 8 => some [0, 1, 5, 6, 60] | 9 => some [4] | 10 => some [0, 1, 5, 62] | 11 => some [4] | 12 => some [0, 1, 8] | _ => none)
@[go_sem] def h42M : Nat -> Option Mix := (fun id => match id with | 2 => some ⟨[0, 1, 2, 3, 4, 5, 6, 7, 8, 9, 11, 12], [], .head 1 (.head 2 (.head 3 (.head 4 (.head 5 (.head 6 (.head 7 (.head 8 (.head 9 (.alt (.one 0 (.one 10 (.head 11 (.head 12 (.one 13 (.fin)))))) (.one 10 (.head 0 (.head 11 (.head 12 (.one 13 (.fin)))))))))))))))⟩ | 12 => some ⟨[0, 1, 2, 3, 4, 5, 6, 8, 9], [], .head 1 (.head 2 (.head 3 (.head 4 (.head 5 (.head 6 (.alt (.one 0 (.one 7 (.head 8 (.head 9 (.one 10 (.fin)))))) (.one 7 (.head 0 (.head 8 (.head 9 (.one 10 (.fin))))))))))))⟩ | _ => none)
def h42 : Hint := ⟨h42a, (fun _ => none), (fun id => match id with | 2 => some 9 | 12 => some 6 | _ => none), [], false, h42M, fun _ => 0, 0, false, (fun _ => none)⟩
@[go_sem] theorem h42e : h42.late = (fun _ => none) := rfl
@[go_sem] theorem h42x : h42.mix = h42M := rfl
@[go_sem] theorem h42l : h42.live = h42a := rfl
@[go_sem] theorem h42o : h42.mode = fun _ => 0 := rfl
@[go_sem] theorem h42k : h42.keep = (fun _ => none) := rfl
@[go_sem] theorem h42t : h42.tail = (fun id => match id with | 2 => some 9 | 12 => some 6 | _ => none) := rfl
@[go_sem] theorem h42v : h42.vars = [] := rfl
@[go_sem] theorem h42m : h42.mutc = false := rfl
@[go_sem] def h43a : Nat -> Option (List Nat) := (fun id => match id with | 0 => some [0] | 1 => some [2] | _ => none)
def h43 : Hint := ⟨h43a, (fun _ => none), (fun id => match id with | 1 => some 10 | _ => none), [], false, (fun _ => none), fun _ => 0, 0, false, (fun _ => none)⟩
@[go_sem] theorem h43e : h43.late = (fun _ => none) := rfl
@[go_sem] theorem h43x : h43.mix = (fun _ => none) := rfl
@[go_sem] theorem h43l : h43.live = h43a := rfl
@[go_sem] theorem h43o : h43.mode = fun _ => 0 := rfl
@[go_sem] theorem h43k : h43.keep = (fun _ => none) := rfl
@[go_sem] theorem h43t : h43.tail = (fun id => match id with | 1 => some 10 | _ => none) := rfl
@[go_sem] theorem h43v : h43.vars = [] := rfl
@[go_sem] theorem h43m : h43.mutc = false := rfl
@[go_sem] def h44a : Nat -> Option (List Nat) := (fun id => match id with | 0 => some [0] | 1 => some [0, 3] | 2 => some [0, 3, 11] | 3 => some [0, 3] | 4 => some [2] | _ => none)
abbrev h44 : Hint := HQ h44a
@[go_sem] def h45a : Nat -> Option (List Nat) := (fun id => match id with | 0 => some [0, 1, 2] | 1 => some [2, 7] | 2 => some [6] | _ => none)
abbrev h45 : Hint := HQ h45a
@[go_sem] def h46a : Nat -> Option (List Nat) := (fun id => match id with | 0 => some [0] | 1 => some [0, 7] | 2 => some [0, 3, 4] | 3 => some [0, 4, 36] | 4 => some [2] | 5 => some [0] | 6 => some [2] | _ => none)
abbrev h46 : Hint := HQ h46a
@[go_sem] def h47a : Nat -> Option (List Nat) := (fun id => match id with | 0 => some [0, 1] | 1 => some [4] | _ => none)
abbrev h47 : Hint := HQ h47a
@[go_sem] def h48a : Nat -> Option (List Nat) := (fun id => match id with | 0 => some [0] | 1 => some [0, 4] | 2 => some [0, 4, 10, 11, 12] | 3 => some [0, 4, 10, 11, 12, 13] | 4 => some [0, 4, 6, 10, 11, 12] | 5 => some [0, 4, 10, 11, 12, 17] | 6 => some [2, 3] | 7 => some [0, 4, 10, 11, 12] | 8 => some [2, 3] | _ => none)
abbrev h48 : Hint := HQ h48a
@[go_sem] def h49a : Nat -> Option (List Nat) := (fun id => match id with | 0 => some [0, 9] | 1 => some [0] | 2 => some [0, 29] | 3 => some [0] | 4 => some [0] | _ => none)
abbrev h49 : Hint := HQ h49a
@[go_sem] def h50a : Nat -> Option (List Nat) := (fun id => match id with | 0 => some [0, 1] | 1 => some [0, 1, 17] | 2 => some [4] | 3 => some [5] | 4 => some [5, 31] | 5 => some [4] | 6 => some [4] | _ => none)
def h50 : Hint := ⟨h50a, (fun _ => none), (fun id => match id with | 1 => some 12 | 3 => some 12 | _ => none), [], false, (fun _ => none), fun _ => 0, 0, false, (fun _ => none)⟩
@[go_sem] theorem h50e : h50.late = (fun _ => none) := rfl
@[go_sem] theorem h50x : h50.mix = (fun _ => none) := rfl
@[go_sem] theorem h50l : h50.live = h50a := rfl
@[go_sem] theorem h50o : h50.mode = fun _ => 0 := rfl
@[go_sem] theorem h50k : h50.keep = (fun _ => none) := rfl
@[go_sem] theorem h50t : h50.tail = (fun id => match id with | 1 => some 12 | 3 => some 12 | _ => none) := rfl
@[go_sem] theorem h50v : h50.vars = [] := rfl
@[go_sem] theorem h50m : h50.mutc = false := rfl
@[go_sem] def h51a : Nat -> Option (List Nat) := (fun id => match id with | 0 => some [0, 2] | 1 => some [0, 2, 3, 4, 5] | 2 => some [0, 2, 3, 4, 5, 14] | 3 => some [0, 2, 3, 4, 5, 14, 15] | 4 => some [0, 2, 3, 4, 5, 6, 14] | 5 => some [0, 2, 3, 4, 5, 6, 14, 21] | 6 => some [2, 6] | 7 => some [2] | 8 => some [0, 2, 3, 4, 5, 14] | 9 => some [0, 2, 3, 4, 5, 34] | 10 => some [2] | 11 => some [2] | 12 => some [0, 2, 3, 4, 5, 40] | 13 => some [0, 2, 3] | 14 => some [2] | 15 => some [0, 2, 3, 4, 5, 57] | 16 => some [0, 2, 4, 5] | 17 => some [0, 2, 7] | 18 => some [2] | 19 => some [0, 2, 3, 4, 5, 89] | 20 => some [2] | 21 => some [0, 2, 3, 4, 5, 96] | 22 => some [2] | 23 => some [2] | 24 => some [0, 2, 3, 4, 5, 115] | 25 => some [2] | 26 => some [2] | 27 => some [0, 2, 3, 4, 5, 139] | 28 => some [0, 2] | 29 => some [2] | 30 => some [0, 2, 3, 159] | 31 => some [2] | 32 => some [2, 3] | 33 => some [2] | _ => none)
abbrev h51 : Hint := HQ h51a
@[go_sem] def h52a : Nat -> Option (List Nat) := (fun id => match id with | 0 => some [0] | 1 => some [0, 3] | 2 => some [0, 3, 4] | 3 => some [0, 3, 4, 11] | 4 => some [0, 3, 4, 5, 6] | 5 => some [0, 3, 4, 6] | 6 => some [0, 3, 4] | 7 => some [2] | _ => none)
def h52 : Hint := ⟨h52a, (fun _ => none), (fun _ => none), [3], false, (fun _ => none), fun _ => 0, 0, false, (fun _ => none)⟩
@[go_sem] theorem h52x : h52.mix = (fun _ => none) := rfl
@[go_sem] theorem h52l : h52.live = h52a := rfl
@[go_sem] theorem h52o : h52.mode = fun _ => 0 := rfl
@[go_sem] theorem h52k : h52.keep = (fun _ => none) := rfl
@[go_sem] theorem h52t : h52.tail = (fun _ => none) := rfl
@[go_sem] theorem h52v : h52.vars = [3] := rfl
@[go_sem] theorem h52m : h52.mutc = false := rfl
@[go_sem] def h53a : Nat -> Option (List Nat) := (fun id => match id with | 0 => some [2, 3] | 1 => some [2, 3, 8] | 2 => some [4] | 3 => some [2, 3, 9] | 4 => some [2, 3, 9, 10] | 5 => some [2, 3, 5, 9] | 6 => some [2, 3, 5, 9, 18] | 7 => some [4] | 8 => some [2, 3, 9] | 9 => some [4] | _ => none)
def h53 : Hint := ⟨h53a, (fun _ => none), (fun id => match id with | 6 => some 7 | 7 => some 7 | _ => none), [], false, (fun _ => none), fun _ => 0, 0, false, (fun _ => none)⟩
@[go_sem] theorem h53e : h53.late = (fun _ => none) := rfl
@[go_sem] theorem h53x : h53.mix = (fun _ => none) := rfl
@[go_sem] theorem h53l : h53.live = h53a := rfl
@[go_sem] theorem h53o : h53.mode = fun _ => 0 := rfl
@[go_sem] theorem h53k : h53.keep = (fun _ => none) := rfl
@[go_sem] theorem h53t : h53.tail = (fun id => match id with | 6 => some 7 | 7 => some 7 | _ => none) := rfl
@[go_sem] theorem h53v : h53.vars = [] := rfl
@[go_sem] theorem h53m : h53.mutc = false := rfl
@[go_sem] def h54a : Nat -> Option (List Nat) := (fun id => match id with | 0 => some [0] | 1 => some [0, 3] | 2 => some [3, 6, 7, 8] | 3 => some [3, 6, 7, 8, 9] | 4 => some [3, 5, 6, 7, 8] | 5 => some [3, 6, 7, 8] | 6 => some [3, 6, 7, 8] | 7 => some [2] | _ => none)
@[go_sem] def h54M : Nat -> Option Mix := (fun id => match id with | 5 => some ⟨[0, 1, 2, 3, 4, 5, 6, 7], [], .head 0 (.head 1 (.head 2 (.head 3 (.head 4 (.head 5 (.head 6 (.head 7 (.one 8 (.one 9 (.fin))))))))))⟩ | _ => none)
def h54 : Hint := ⟨h54a, (fun id => match id with | 6 => some 0 | _ => none), (fun id => match id with | 5 => some 7 | _ => none), [3], false, h54M, fun _ => 0, 0, false, (fun _ => none)⟩
@[go_sem] theorem h54e : h54.late = (fun _ => none) := rfl
@[go_sem] theorem h54x : h54.mix = h54M := rfl
@[go_sem] theorem h54l : h54.live = h54a := rfl
@[go_sem] theorem h54o : h54.mode = fun _ => 0 := rfl
@[go_sem] theorem h54k : h54.keep = (fun id => match id with | 6 => some 0 | _ => none) := rfl
@[go_sem] theorem h54t : h54.tail = (fun id => match id with | 5 => some 7 | _ => none) := rfl
@[go_sem] theorem h54v : h54.vars = [3] := rfl
@[go_sem] theorem h54m : h54.mutc = false := rfl
@[go_sem] def h55a : Nat -> Option (List Nat) := (fun id => match id with | 0 => some [0] | 1 => some [0, 11] | 2 => some [0] | 3 => some [0, 25] | 4 => some [0] | 5 => some [2] | _ => none)
abbrev h55 : Hint := HQ h55a
@[go_sem] def h56a : Nat -> Option (List Nat) := (fun id => match id with | 0 => some [0, 1, 4] | 1 => some [0, 1, 4, 16] | 2 => some [4] | 3 => some [4] | _ => none)
def h56 : Hint := ⟨h56a, (fun _ => none), (fun id => match id with | 1 => some 12 | 3 => some 13 | _ => none), [], false, (fun _ => none), fun _ => 0, 0, false, (fun _ => none)⟩
@[go_sem] theorem h56e : h56.late = (fun _ => none) := rfl
@[go_sem] theorem h56x : h56.mix = (fun _ => none) := rfl
@[go_sem] theorem h56l : h56.live = h56a := rfl
@[go_sem] theorem h56o : h56.mode = fun _ => 0 := rfl
@[go_sem] theorem h56k : h56.keep = (fun _ => none) := rfl
@[go_sem] theorem h56t : h56.tail = (fun id => match id with | 1 => some 12 | 3 => some 13 | _ => none) := rfl
@[go_sem] theorem h56v : h56.vars = [] := rfl
@[go_sem] theorem h56m : h56.mutc = false := rfl
@[go_sem] def h57a : Nat -> Option (List Nat) := (fun id => match id with | 0 => some [0, 2] | 1 => some [0, 2, 5] | 2 => some [0, 2, 5, 6] | 3 => some [2, 3, 4] | 4 => some [0, 2, 5, 6, 18] | 5 => some [0, 2, 6] | 6 => some [2, 6] | 7 => some [0, 2, 5, 6, 34] | 8 => some [0, 2, 6] | 9 => some [2, 6] | 10 => some [0, 2, 5, 6, 55] | 11 => some [0, 2, 7] | 12 => some [2, 7] | 13 => some [2, 8, 9] | 14 => some [2, 3, 4] | 15 => some [0, 2, 6, 85] | 16 => some [0, 2, 6, 99] | 17 => some [2, 3, 4] | 18 => some [0, 2, 10, 11] | 19 => some [2, 10, 11] | 20 => some [2, 3, 4] | 21 => some [2, 3, 4] | _ => none)
@[go_sem] def h57M : Nat -> Option Mix := (fun id => match id with | 11 => some ⟨[0, 1, 2, 3, 4, 5, 6, 7, 8, 9, 10, 11, 12], [], .head 0 (.head 1 (.head 2 (.head 3 (.head 4 (.head 5 (.head 6 (.head 7 (.head 8 (.head 9 (.head 10 (.alt (.one 11 (.head 12 (.one 13 (.one 14 (.fin))))) (.one 13 (.head 11 (.head 12 (.one 14 (.fin))))))))))))))))⟩ | 18 => some ⟨[0, 1, 2, 3, 4, 5, 6, 7, 8, 9, 10, 11, 12, 13, 14], [], .head 0 (.head 1 (.head 2 (.head 3 (.head 4 (.head 5 (.head 6 (.head 7 (.head 8 (.head 9 (.head 10 (.alt (.one 11 (.head 12 (.head 13 (.alt (.one 14 (.one 15 (.one 16 (.one 17 (.fin))))) (.one 15 (.alt (.one 14 (.one 16 (.one 17 (.fin)))) (.one 16 (.head 14 (.one 17 (.fin)))))))))) (.one 15 (.head 11 (.head 12 (.head 13 (.alt (.one 14 (.one 16 (.one 17 (.fin)))) (.one 16 (.head 14 (.one 17 (.fin))))))))))))))))))))⟩ | _ => none)
def h57 : Hint := ⟨h57a, (fun _ => none), (fun id => match id with | 11 => some 13 | 16 => some 11 | 18 => some 15 | _ => none), [], false, h57M, fun _ => 0, 0, false, (fun _ => none)⟩
@[go_sem] theorem h57e : h57.late = (fun _ => none) := rfl
@[go_sem] theorem h57x : h57.mix = h57M := rfl
@[go_sem] theorem h57l : h57.live = h57a := rfl
@[go_sem] theorem h57o : h57.mode = fun _ => 0 := rfl
@[go_sem] theorem h57k : h57.keep = (fun _ => none) := rfl
@[go_sem] theorem h57t : h57.tail = (fun id => match id with | 11 => some 13 | 16 => some 11 | 18 => some 15 | _ => none) := rfl
@[go_sem] theorem h57v : h57.vars = [] := rfl
@[go_sem] theorem h57m : h57.mutc = false := rfl
@[go_sem] def h58a : Nat -> Option (List Nat) := (fun id => match id with | 0 => some [0] | 1 => some [0, 4] | 2 => some [0, 4, 5, 6] | 3 => some [0, 4, 5, 6] | 4 => some [2, 3] | 5 => some [0, 4, 5, 6, 13] | 6 => some [2, 3] | 7 => some [0, 4, 5, 6, 18] | 8 => some [0, 5, 6, 7, 8] | 9 => some [0, 4, 5, 6, 28] | 10 => some [0, 4, 5, 6, 7, 8] | 11 => some [0, 5, 6, 7, 8, 38] | 12 => some [0, 5, 6, 7, 8, 38, 39] | 13 => some [0, 5, 6, 7, 8, 38, 39] | 14 => some [0, 5, 6, 7, 8, 41] | 15 => some [0, 5, 6, 7, 8, 38, 39] | 16 => some [0, 4, 5, 6, 43] | 17 => some [0, 4, 5, 6, 7, 8] | 18 => some [0, 5, 6, 7, 8, 53] | 19 => some [0, 5, 6, 7, 8, 53, 54] | 20 => some [0, 5, 6, 7, 8, 53, 54] | 21 => some [0, 5, 6, 7, 8, 56] | 22 => some [0, 5, 6, 7, 8, 53, 54] | 23 => some [0, 5, 6, 7, 8, 58, 59] | 24 => some [0, 5, 6, 7, 8, 58, 59, 60] | 25 => some [0, 5, 6, 7, 8, 9, 58, 59] | 26 => some [0, 7, 8, 9, 58, 59, 84] | 27 => some [2, 3] | 28 => some [0, 7, 8, 58, 59] | 29 => some [0, 5, 6, 7, 8, 58, 59] | 30 => some [0, 5, 6, 7, 8, 58, 59] | 31 => some [2, 3] | _ => none)
abbrev h58 : Hint := HQ h58a
@[go_sem] def h59a : Nat -> Option (List Nat) := (fun id => match id with | 0 => some [0, 1] | 1 => some [4] | _ => none)
abbrev h59 : Hint := HQ h59a
@[go_sem] def h60a : Nat -> Option (List Nat) := (fun id => match id with | 0 => some [0] | 1 => some [0, 3] | 2 => some [0, 3, 10] | 3 => some [0, 3, 5, 6] | 4 => some [0, 3, 5, 19] | 5 => some [2] | 6 => some [0, 3] | 7 => some [2] | _ => none)
abbrev h60 : Hint := HQ h60a
@[go_sem] def h61a : Nat -> Option (List Nat) := (fun id => match id with | 0 => some [0] | 1 => some [2] | _ => none)
abbrev h61 : Hint := HQ h61a
@[go_sem] def h62a : Nat -> Option (List Nat) := (fun id => match id with | 0 => some [0] | 1 => some [2] | _ => none)
abbrev h62 : Hint := HQ h62a
@[go_sem] def h63a : Nat -> Option (List Nat) := (fun id => match id with | 0 => some [0, 4] | 1 => some [0] | _ => none)
abbrev h63 : Hint := HQ h63a
@[go_sem] def h64a : Nat -> Option (List Nat) := (fun id => match id with | 0 => some [0, 1, 4] | 1 => some [0, 1, 4, 5] | 2 => some [0, 1, 4, 5, 6] | 3 => some [0, 1, 4, 5, 6] | 4 => some [0, 1, 4, 5, 6, 22] | 5 => some [4] | 6 => some [0, 1, 4, 5] | 7 => some [0, 1, 4, 5, 6, 30] | 8 => some [4] | 9 => some [0, 1, 4, 5, 6, 34] | 10 => some [0, 1, 4, 5] | 11 => some [0, 1, 4, 5, 6, 49] | 12 => some [0, 1, 4, 5] | 13 => some [0, 1, 4, 5, 6, 64] | 14 => some [0, 1, 4, 5] | 15 => some [0, 1, 4, 5] | _ => none)
def h64 : Hint := ⟨h64a, (fun _ => none), (fun _ => none), [5], false, (fun _ => none), fun _ => 0, 0, false, (fun _ => none)⟩
@[go_sem] theorem h64x : h64.mix = (fun _ => none) := rfl
@[go_sem] theorem h64l : h64.live = h64a := rfl
@[go_sem] theorem h64o : h64.mode = fun _ => 0 := rfl
@[go_sem] theorem h64k : h64.keep = (fun _ => none) := rfl
@[go_sem] theorem h64t : h64.tail = (fun _ => none) := rfl
@[go_sem] theorem h64v : h64.vars = [5] := rfl
@[go_sem] theorem h64m : h64.mutc = false := rfl
@[go_sem] def h65a : Nat -> Option (List Nat) := (fun id => match id with | 0 => some [0] | 1 => some [2] | _ => none)
abbrev h65 : Hint := HQ h65a
@[go_sem] def h66a : Nat -> Option (List Nat) := (fun id => match id with | 0 => some [0, 1] | 1 => some [4] | _ => none)
abbrev h66 : Hint := HQ h66a
@[go_sem] def h67a : Nat -> Option (List Nat) := (fun id => match id with | 0 => some [0, 1, 2] | 1 => some [0, 1, 2, 8] | 2 => some [6] | 3 => some [6] | _ => none)
abbrev h67 : Hint := HQ h67a
@[go_sem] def h68a : Nat -> Option (List Nat) := (fun id => match id with | 0 => some [0] | 1 => some [0, 3] | 2 => some [0, 3, 4] | 3 => some [2] | 4 => some [0, 3, 4, 9] | 5 => some [0, 3] | 6 => some [0, 3] | 7 => some [0, 3, 27] | 8 => some [0, 3] | 9 => some [0, 3] | _ => none)
def h68 : Hint := ⟨h68a, (fun _ => none), (fun _ => none), [3], false, (fun _ => none), fun _ => 0, 0, false, (fun _ => none)⟩
@[go_sem] theorem h68x : h68.mix = (fun _ => none) := rfl
@[go_sem] theorem h68l : h68.live = h68a := rfl
@[go_sem] theorem h68o : h68.mode = fun _ => 0 := rfl
@[go_sem] theorem h68k : h68.keep = (fun _ => none) := rfl
@[go_sem] theorem h68t : h68.tail = (fun _ => none) := rfl
@[go_sem] theorem h68v : h68.vars = [3] := rfl
@[go_sem] theorem h68m : h68.mutc = false := rfl
@[go_sem] def h69a : Nat -> Option (List Nat) := (fun id => match id with | 0 => some [0, 1, 2] | 1 => some [0, 1, 2, 12] | 2 => some [0, 1, 2, 12] | 3 => some [6] | _ => none)
abbrev h69 : Hint := HQ h69a
@[go_sem] def h70a : Nat -> Option (List Nat) := (fun id => match id with | 0 => some [0, 2] | 1 => some [0, 2, 3] | 2 => some [0, 2, 3, 4] | 3 => some [0, 2, 3, 23] | 4 => some [0, 2, 3, 23] | 5 => some [0, 2, 3] | 6 => some [0, 2, 3, 40] | 7 => some [0, 2, 3] | 8 => some [0, 2, 3, 40] | 9 => some [0, 2, 3, 5] | 10 => some [0, 2, 3, 57] | 11 => some [0, 2, 3, 6] | 12 => some [0, 2, 3, 6, 7] | 13 => some [0, 2, 3, 6, 65] | 14 => some [0, 2, 3, 6, 65] | 15 => some [0, 2, 3, 6, 69] | 16 => some [0, 2, 3] | 17 => some [0, 2, 3, 57] | 18 => some [0, 2, 8, 9] | 19 => some [0, 2, 11] | 20 => some [0, 2, 11, 105] | 21 => some [0, 2, 11, 105] | 22 => some [0, 2, 11, 112] | 23 => some [0, 2, 11] | 24 => some [0, 2, 11, 105] | 25 => some [2] | _ => none)
@[go_sem] def h70M : Nat -> Option Mix := (fun id => match id with | 18 => some ⟨[0, 1, 2, 3, 4, 5, 6, 7, 8, 9, 10, 11, 12, 13, 14, 15], [], .head 0 (.head 1 (.head 2 (.head 3 (.head 4 (.head 5 (.head 6 (.head 7 (.head 8 (.head 9 (.alt (.one 10 (.alt (.one 11 (.head 12 (.head 13 (.alt (.one 14 (.alt (.one 15 (.one 16 (.one 17 (.one 18 (.one 19 (.fin)))))) (.one 16 (.alt (.one 15 (.one 17 (.one 18 (.one 19 (.fin))))) (.one 17 (.alt (.one 15 (.one 18 (.one 19 (.fin)))) (.one 18 (.head 15 (.one 19 (.fin)))))))))) (.alt (.one 15 (.alt (.one 14 (.one 16 (.one 17 (.one 18 (.one 19 (.fin)))))) (.one 16 (.alt (.one 14 (.one 17 (.one 18 (.one 19 (.fin))))) (.one 17 (.head 14 (.one 18 (.one 19 (.fin))))))))) (.one 16 (.alt (.one 14 (.alt (.one 15 (.one 17 (.one 18 (.one 19 (.fin))))) (.one 17 (.alt (.one 15 (.one 18 (.one 19 (.fin)))) (.one 18 (.head 15 (.one 19 (.fin)))))))) (.alt (.one 15 (.alt (.one 14 (.one 17 (.one 18 (.one 19 (.fin))))) (.one 17 (.head 14 (.one 18 (.one 19 (.fin))))))) (.one 17 (.head 14 (.alt (.one 15 (.one 18 (.one 19 (.fin)))) (.one 18 (.head 15 (.one 19 (.fin))))))))))))))) (.one 16 (.head 11 (.head 12 (.head 13 (.alt (.one 14 (.alt (.one 15 (.one 17 (.one 18 (.one 19 (.fin))))) (.one 17 (.alt (.one 15 (.one 18 (.one 19 (.fin)))) (.one 18 (.head 15 (.one 19 (.fin)))))))) (.alt (.one 15 (.alt (.one 14 (.one 17 (.one 18 (.one 19 (.fin))))) (.one 17 (.head 14 (.one 18 (.one 19 (.fin))))))) (.one 17 (.head 14 (.alt (.one 15 (.one 18 (.one 19 (.fin)))) (.one 18 (.head 15 (.one 19 (.fin))))))))))))))) (.one 16 (.head 10 (.head 11 (.head 12 (.head 13 (.alt (.one 14 (.alt (.one 15 (.one 17 (.one 18 (.one 19 (.fin))))) (.one 17 (.alt (.one 15 (.one 18 (.one 19 (.fin)))) (.one 18 (.head 15 (.one 19 (.fin)))))))) (.alt (.one 15 (.alt (.one 14 (.one 17 (.one 18 (.one 19 (.fin))))) (.one 17 (.head 14 (.one 18 (.one 19 (.fin))))))) (.one 17 (.head 14 (.alt (.one 15 (.one 18 (.one 19 (.fin)))) (.one 18 (.head 15 (.one 19 (.fin))))))))))))))))))))))))⟩ | _ => none)
def h70 : Hint := ⟨h70a, (fun _ => none), (fun id => match id with | 18 => some 16 | _ => none), [], false, h70M, fun _ => 0, 0, false, (fun _ => none)⟩
@[go_sem] theorem h70e : h70.late = (fun _ => none) := rfl
@[go_sem] theorem h70x : h70.mix = h70M := rfl
@[go_sem] theorem h70l : h70.live = h70a := rfl
@[go_sem] theorem h70o : h70.mode = fun _ => 0 := rfl
@[go_sem] theorem h70k : h70.keep = (fun _ => none) := rfl
@[go_sem] theorem h70t : h70.tail = (fun id => match id with | 18 => some 16 | _ => none) := rfl
@[go_sem] theorem h70v : h70.vars = [] := rfl
@[go_sem] theorem h70m : h70.mutc = false := rfl
@[go_sem] def h71a : Nat -> Option (List Nat) := (fun id => match id with | 0 => some [0, 2] | 1 => some [0, 2, 3] | 2 => some [0, 2, 3, 9] | 3 => some [2] | 4 => some [0, 2, 3] | 5 => some [0, 2, 3, 21] | 6 => some [2] | 7 => some [0, 2, 3, 31] | 8 => some [0, 2, 3, 21] | 9 => some [0, 2, 3, 4] | 10 => some [0, 2, 3, 4, 42] | 11 => some [0, 2, 3, 4, 42] | 12 => some [0, 2, 3, 50] | 13 => some [2] | 14 => some [2] | _ => none)
abbrev h71 : Hint := HQ h71a
@[go_sem] def h72a : Nat -> Option (List Nat) := (fun id => match id with | 0 => some [0] | 1 => some [2] | _ => none)
abbrev h72 : Hint := HQ h72a
@[go_sem] def h73a : Nat -> Option (List Nat) := (fun id => match id with | 0 => some [0, 1] | 1 => some [0, 1, 7] | 2 => some [0, 1, 7, 18] | 3 => some [4, 5, 6] | 4 => some [0, 1, 7, 8, 9, 10] | 5 => some [0, 1, 7, 8, 9, 10, 28] | 6 => some [4, 5, 6] | 7 => some [0, 1, 8, 9, 10, 11] | 8 => some [0, 1, 8, 9, 10, 11, 12] | 9 => some [0, 1, 8, 9, 10, 11, 12, 37] | 10 => some [0, 1, 8, 9, 10, 11, 12] | 11 => some [0, 1, 8, 11, 12, 65] | 12 => some [4, 5, 6] | 13 => some [0, 1, 8, 11, 12] | 14 => some [0, 1, 8, 9, 10, 11, 12] | 15 => some [4, 5, 6] | _ => none)
abbrev h73 : Hint := HQ h73a
@[go_sem] def h74a : Nat -> Option (List Nat) := (fun id => match id with | 0 => some [1] | 1 => some [2] | _ => none)
abbrev h74 : Hint := HQ h74a
@[go_sem] def h75a : Nat -> Option (List Nat) := (fun id => match id with | 0 => some [0, 2] | 1 => some [0, 2, 4] | 2 => some [0, 2, 4, 16] | 3 => some [2, 3] | 4 => some [0, 2, 4] | 5 => some [0, 2, 4, 26] | 6 => some [2, 3] | 7 => some [0, 2, 4] | 8 => some [0, 2, 4, 30] | 9 => some [0, 2, 4, 30, 31] | 10 => some [0, 2, 4, 5, 30] | 11 => some [0, 2, 4, 5, 6, 30] | 12 => some [0, 2, 4, 5, 30, 47] | 13 => some [0, 2, 4, 5] | 14 => some [0, 2, 4] | 15 => some [0, 2, 4, 30] | 16 => some [0, 2, 4, 64] | 17 => some [2, 3] | 18 => some [0, 2, 4] | 19 => some [0, 2, 4, 7] | 20 => some [0, 2, 4, 7, 77] | 21 => some [2, 3] | 22 => some [0, 2, 4, 7] | 23 => some [0, 2, 4, 7] | 24 => some [0, 2, 4, 7, 90] | 25 => some [2, 3] | 26 => some [0, 2, 4, 7] | 27 => some [0, 2, 4, 7] | 28 => some [0, 2, 4, 7, 8] | 29 => some [0, 2, 4, 7, 8] | 30 => some [0, 2, 4, 7, 8] | 31 => some [2, 3] | _ => none)
@[go_sem] def h75M : Nat -> Option Mix := (fun id => match id with | 31 => some ⟨[0, 1, 2, 3, 4, 5, 6, 7, 8, 9, 10, 11, 12, 13, 14, 15], [], .head 0 (.head 1 (.head 2 (.head 3 (.head 4 (.head 5 (.head 6 (.head 7 (.head 8 (.head 9 (.head 10 (.head 11 (.head 12 (.head 13 (.head 14 (.alt (.one 15 (.one 16 (.one 17 (.fin)))) (.one 16 (.head 15 (.one 17 (.fin)))))))))))))))))))⟩ | _ => none)
def h75 : Hint := ⟨h75a, (fun _ => none), (fun id => match id with | 31 => some 16 | _ => none), [], false, h75M, fun _ => 0, 0, false, (fun _ => none)⟩
@[go_sem] theorem h75e : h75.late = (fun _ => none) := rfl
@[go_sem] theorem h75x : h75.mix = h75M := rfl
@[go_sem] theorem h75l : h75.live = h75a := rfl
@[go_sem] theorem h75o : h75.mode = fun _ => 0 := rfl
@[go_sem] theorem h75k : h75.keep = (fun _ => none) := rfl
@[go_sem] theorem h75t : h75.tail = (fun id => match id with | 31 => some 16 | _ => none) := rfl
@[go_sem] theorem h75v : h75.vars = [] := rfl
@[go_sem] theorem h75m : h75.mutc = false := rfl
@[go_sem] def h76a : Nat -> Option (List Nat) := (fun id => match id with | 0 => some [1, 2] | 1 => some [1, 2, 4] | 2 => some [1, 2, 4, 5] | 3 => some [1, 2, 4, 5, 19] | 4 => some [1, 2, 4, 5, 19, 20] | 5 => some [2, 3] | 6 => some [1, 2, 4, 5, 41] | 7 => some [1, 2, 5, 43] | 8 => some [1, 2, 5, 43, 44] | 9 => some [1, 2, 5, 43, 44] | 10 => some [1, 2, 5, 43, 44] | 11 => some [1, 2, 5] | 12 => some [2, 5, 6] | 13 => some [2, 3] | 14 => some [1, 2, 5, 43, 57] | 15 => some [1, 2, 5, 43, 57] | 16 => some [2, 5, 7] | 17 => some [2, 5, 7] | 18 => some [2, 5, 7, 8] | 19 => some [2, 3] | 20 => some [2, 3] | _ => none)
@[go_sem] def h76M : Nat -> Option Mix := (fun id => match id with | 19 => some ⟨[0, 1, 2, 3, 4], [], .head 0 (.head 1 (.head 2 (.head 3 (.alt (.one 4 (.one 5 (.one 6 (.fin)))) (.one 5 (.head 4 (.one 6 (.fin))))))))⟩ | _ => none)
def h76 : Hint := ⟨h76a, (fun _ => none), (fun id => match id with | 1 => some 6 | 19 => some 5 | _ => none), [], false, h76M, fun _ => 0, 0, false, (fun _ => none)⟩
@[go_sem] theorem h76e : h76.late = (fun _ => none) := rfl
@[go_sem] theorem h76x : h76.mix = h76M := rfl
@[go_sem] theorem h76l : h76.live = h76a := rfl
@[go_sem] theorem h76o : h76.mode = fun _ => 0 := rfl
@[go_sem] theorem h76k : h76.keep = (fun _ => none) := rfl
@[go_sem] theorem h76t : h76.tail = (fun id => match id with | 1 => some 6 | 19 => some 5 | _ => none) := rfl
@[go_sem] theorem h76v : h76.vars = [] := rfl
@[go_sem] theorem h76m : h76.mutc = false := rfl
@[go_sem] def h78a : Nat -> Option (List Nat) := (fun id => match id with | 0 => some [0] | 1 => some [0, 3, 4] | 2 => some [0, 3, 4, 15] | 3 => some [0, 5] | 4 => some [0, 5, 19] | 5 => some [2] | 6 => some [5] | 7 => some [2] | 8 => some [0, 3, 4, 6] | 9 => some [0, 3, 4, 6, 7] | 10 => some [0, 3, 6, 7, 32] | 11 => some [0, 3, 4, 6, 7] | 12 => some [0, 6, 7] | 13 => some [0, 6, 7] | 14 => some [0, 3, 4, 6, 7] | 15 => some [0, 6, 54] | 16 => some [0, 6, 54] | 17 => some [6, 68] | 18 => some [2] | 19 => some [2] | _ => none)
abbrev h78 : Hint := HQ h78a
@[go_sem] def h79a : Nat -> Option (List Nat) := (fun id => match id with | 0 => some [0] | 1 => some [2] | _ => none)
abbrev h79 : Hint := HQ h79a
@[go_sem] def h80a : Nat -> Option (List Nat) := (fun id => match id with | 0 => some [0] | 1 => some [2] | _ => none)
abbrev h80 : Hint := HQ h80a
@[go_sem] def h81a : Nat -> Option (List Nat) := (fun id => match id with | 0 => some [0, 4] | 1 => some [0] | _ => none)
abbrev h81 : Hint := HQ h81a
@[go_sem] def h82a : Nat -> Option (List Nat) := (fun id => match id with | 0 => some [0, 2] | 1 => some [0, 2, 5, 6] | 2 => some [0, 2, 5, 6, 28] | 3 => some [0, 2, 5, 6] | 4 => some [0, 2, 5, 6, 28] | 5 => some [0, 2, 5, 6, 7] | 6 => some [0, 2, 6, 7, 8, 9, 10] | 7 => some [0, 2, 5, 6, 8, 9, 10] | 8 => some [0, 2, 5, 6, 8, 9, 10, 52] | 9 => some [0, 2, 5, 6, 7, 8] | 10 => some [0, 2, 5, 6, 7, 8, 60] | 11 => some [2, 3, 4] | 12 => some [0, 2, 5, 6, 7, 8] | 13 => some [0, 2, 6, 7, 8, 9, 10] | 14 => some [0, 2, 5, 6, 8, 9, 10, 52] | 15 => some [0, 2, 5, 6, 8, 9, 10, 75] | 16 => some [2, 3, 4] | 17 => some [0, 2, 5, 6, 8, 9, 10, 11] | 18 => some [0, 2, 5, 6, 8, 9, 10, 11, 80] | 19 => some [0, 2, 5, 6, 8, 9, 11, 90] | 20 => some [2, 3, 4] | 21 => some [0, 2, 5, 6, 8, 9, 10, 11] | 22 => some [0, 2, 5, 6, 8, 9, 10, 11] | 23 => some [0, 2, 5, 6, 8, 9, 10, 11, 12] | 24 => some [0, 2, 5, 6, 8, 9, 10, 11, 12, 109] | 25 => some [0, 2, 5, 6, 8, 9, 10, 11, 12] | 26 => some [0, 2, 5, 6, 8, 9, 10, 11, 12, 109] | 27 => some [0, 2, 5, 6, 7, 8, 9, 10, 11, 12] | 28 => some [0, 2, 5, 6, 7, 8, 9, 10, 11, 12, 127] | 29 => some [2, 3, 4] | 30 => some [0, 2, 5, 6, 7, 8, 9, 10, 11, 12, 131] | 31 => some [0, 2, 5, 6, 7, 8, 9, 10, 11, 12, 127] | 32 => some [0, 2, 5, 6, 7, 8, 9, 10, 11, 12] | 33 => some [2, 6, 8, 9, 10, 11, 143] | 34 => some [0, 2, 5, 6, 8, 9, 10, 11, 80] | 35 => some [2, 3, 4] | _ => none)
abbrev h82 : Hint := HQ h82a
@[go_sem] def h83a : Nat -> Option (List Nat) := (fun id => match id with | 0 => some [0, 1] | 1 => some [4] | _ => none)
abbrev h83 : Hint := HQ h83a
@[go_sem] def h84a : Nat -> Option (List Nat) := (fun id => match id with | 0 => some [0, 2] | 1 => some [0, 2] | 2 => some [0, 2, 3] | 3 => some [0, 2, 3, 4] | 4 => some [0, 2, 3] | 5 => some [0, 2, 3] | 6 => some [0, 2, 3, 4, 20] | 7 => some [2, 3] | 8 => some [2] | 9 => some [0, 2, 3, 4, 37] | 10 => some [0, 2, 3] | 11 => some [0, 2, 3, 4] | 12 => some [0, 2, 3, 49] | 13 => some [2] | 14 => some [0, 2, 3, 4, 52] | 15 => some [2] | 16 => some [0, 2, 3, 4, 69] | 17 => some [0, 2, 3, 76] | 18 => some [2] | 19 => some [0, 2, 3] | 20 => some [0, 2, 3] | _ => none)
def h84 : Hint := ⟨h84a, (fun _ => none), (fun _ => none), [3], false, (fun _ => none), fun _ => 0, 0, false, (fun _ => none)⟩
@[go_sem] theorem h84x : h84.mix = (fun _ => none) := rfl
@[go_sem] theorem h84l : h84.live = h84a := rfl
@[go_sem] theorem h84o : h84.mode = fun _ => 0 := rfl
@[go_sem] theorem h84k : h84.keep = (fun _ => none) := rfl
@[go_sem] theorem h84t : h84.tail = (fun _ => none) := rfl
@[go_sem] theorem h84v : h84.vars = [3] := rfl
@[go_sem] theorem h84m : h84.mutc = false := rfl
@[go_sem] def h85a : Nat -> Option (List Nat) := (fun id => match id with | 0 => some [0] | 1 => some [0, 3] | 2 => some [3, 6, 7, 8] | 3 => some [3, 6, 7, 8, 9] | 4 => some [3, 5, 6, 7, 8] | 5 => some [3, 5, 6, 7, 8, 14] | 6 => some [3, 5, 6, 7, 8, 14] | 7 => some [3, 6, 7, 8] | 8 => some [3, 5, 6, 7, 8, 36] | 9 => some [3, 6, 7, 8] | 10 => some [3, 5, 6, 7, 8, 44] | 11 => some [3, 6, 7, 8] | 12 => some [3, 5, 6, 7, 8, 58] | 13 => some [3, 6, 7, 8] | 14 => some [3, 6, 7, 8] | 15 => some [2] | _ => none)
def h85 : Hint := ⟨h85a, (fun _ => none), (fun _ => none), [3], false, (fun _ => none), fun _ => 0, 0, false, (fun _ => none)⟩
@[go_sem] theorem h85x : h85.mix = (fun _ => none) := rfl
@[go_sem] theorem h85l : h85.live = h85a := rfl
@[go_sem] theorem h85o : h85.mode = fun _ => 0 := rfl
@[go_sem] theorem h85k : h85.keep = (fun _ => none) := rfl
@[go_sem] theorem h85t : h85.tail = (fun _ => none) := rfl
@[go_sem] theorem h85v : h85.vars = [3] := rfl
@[go_sem] theorem h85m : h85.mutc = false := rfl
@[go_sem] def h86a : Nat -> Option (List Nat) := (fun id => match id with | 0 => some [0] | 1 => some [0, 5] | 2 => some [2, 3, 4] | 3 => some [0, 12] | 4 => some [2, 3, 4] | 5 => some [0, 15] | 6 => some [2, 3, 4] | 7 => some [0, 18] | 8 => some [2, 3, 4] | 9 => some [0, 25] | 10 => some [2, 3, 4] | 11 => some [0, 28] | 12 => some [2, 3, 4] | 13 => some [35] | 14 => some [2, 3, 4] | 15 => some [2, 3, 4] | _ => none)
abbrev h86 : Hint := HQ h86a
@[go_sem] def h87a : Nat -> Option (List Nat) := (fun id => match id with | 0 => some [0] | 1 => some [3] | 2 => some [3, 8, 9, 10] | 3 => some [3, 8, 9, 10, 11] | 4 => some [3, 4, 5, 8, 9, 10] | 5 => some [3, 4, 5, 8, 9, 10, 20] | 6 => some [3, 4, 5, 8, 9, 10, 20] | 7 => some [3, 8, 9, 10] | 8 => some [2] | _ => none)
abbrev h87 : Hint := HQ h87a
@[go_sem] def h88a : Nat -> Option (List Nat) := (fun id => match id with | 0 => some [] | 1 => some [0] | _ => none)
abbrev h88 : Hint := HQ h88a
@[go_sem] def h89a : Nat -> Option (List Nat) := (fun id => match id with | 0 => some [0] | 1 => some [0, 5] | 2 => some [0, 5, 6] | 3 => some [0, 5, 6] | 4 => some [0, 5, 6, 7, 8] | 5 => some [0, 5, 6, 7, 8, 57] | 6 => some [0, 5, 6, 7, 8, 30] | 7 => some [9, 10] | 8 => some [2, 3, 4] | 9 => some [0, 5, 6, 7, 8, 41] | 10 => some [2, 3, 4] | 11 => some [0, 5, 6, 7, 8, 49] | 12 => some [2, 3, 4] | 13 => some [0, 5, 6, 7, 8, 57] | 14 => some [0, 5, 6, 7, 8, 57] | 15 => some [0, 6, 7, 8, 66] | 16 => some [0, 6, 7, 8, 11, 12] | 17 => some [0, 6, 7, 8, 11, 75] | 18 => some [0, 5, 6, 7, 8, 57] | 19 => some [0, 6, 7, 83] | 20 => some [2, 3, 4] | 21 => some [0, 6, 7, 13, 14] | 22 => some [0, 6, 7, 13, 89] | 23 => some [7, 15, 16] | 24 => some [2, 3, 4] | 25 => some [0, 7, 99] | 26 => some [2, 3, 4] | 27 => some [0, 7, 101] | 28 => some [2, 3, 4] | 29 => some [7, 8, 17] | 30 => some [2, 3, 4] | _ => none)
abbrev h89 : Hint := HQ h89a
@[go_sem] def h94a : Nat -> Option (List Nat) := (fun id => match id with | 0 => some [0] | 1 => some [0, 4] | 2 => some [2, 3] | 3 => some [0, 9] | 4 => some [2, 3] | 5 => some [0, 19] | 6 => some [2, 3] | 7 => some [2, 3] | _ => none)
abbrev h94 : Hint := HQ h94a
@[go_sem] def h95a : Nat -> Option (List Nat) := (fun id => match id with | 0 => some [0, 1] | 1 => some [0, 1, 14] | 2 => some [0, 1] | 3 => some [4] | _ => none)
abbrev h95 : Hint := HQ h95a
@[go_sem] def h96a : Nat -> Option (List Nat) := (fun id => match id with | 0 => some [0] | 1 => some [0] | _ => none)
abbrev h96 : Hint := HQ h96a
@[go_sem] def h97a : Nat -> Option (List Nat) := (fun id => match id with | 0 => some [0, 1, 2, 6] | 1 => some [0, 1, 2, 6, 7, 8] | 2 => some [0, 1, 2, 6, 7, 8, 25] | 3 => some [0, 1, 2, 6, 7, 8] | 4 => some [0, 1, 2, 6, 7, 8, 30] | 5 => some [6] | 6 => some [0, 1, 2, 6, 7, 8, 36] | 7 => some [0, 1, 2, 6, 7, 8] | 8 => some [0, 1, 2, 6, 7, 8, 30] | 9 => some [0, 1, 2, 6, 7, 8, 44] | 10 => some [6] | 11 => some [0, 1, 2, 6, 7, 8, 9] | 12 => some [0, 2, 6, 9, 50, 51, 52] | 13 => some [0, 2, 6, 9, 50, 51, 52, 53] | 14 => some [0, 2, 6, 9, 11, 50, 51, 52] | 15 => some [0, 2, 6, 9, 50, 51, 52] | 16 => some [0, 2, 6, 9, 50, 51, 52] | 17 => some [0, 2, 6, 9, 12] | 18 => some [0, 2, 6, 9, 12, 64] | 19 => some [0, 2, 6, 9, 12] | 20 => some [0, 2, 6, 9, 12, 68] | 21 => some [6] | 22 => some [0, 2, 6, 9, 12] | 23 => some [0, 6, 9, 12, 13, 14] | 24 => some [0, 6, 9, 12, 13, 14, 82] | 25 => some [0, 6, 9, 12, 13, 14] | 26 => some [0, 6, 9, 12, 13, 14, 93] | 27 => some [0, 6, 9, 12, 13, 14] | 28 => some [0, 6, 9, 12, 13, 14, 103] | 29 => some [6] | 30 => some [0, 6, 9, 12, 13, 14, 106] | 31 => some [0, 6, 9, 12, 13, 14, 103] | 32 => some [0, 6, 9, 12, 13, 14] | 33 => some [0, 6, 9, 12, 14, 112] | 34 => some [0, 6, 9, 12, 13, 14, 103] | 35 => some [0, 6, 9, 12, 14, 116] | 36 => some [6] | 37 => some [0, 6, 9, 12, 14] | 38 => some [6, 9, 12, 120] | 39 => some [6] | 40 => some [6] | _ => none)
abbrev h97 : Hint := HQ h97a
@[go_sem] def h98a : Nat -> Option (List Nat) := (fun id => match id with | 0 => some [0] | 1 => some [3] | 2 => some [3, 8, 9, 10] | 3 => some [3, 8, 9, 10, 11] | 4 => some [3, 4, 5, 8, 9, 10] | 5 => some [3, 4, 5, 8, 9, 10, 20] | 6 => some [3, 4, 5, 8, 9, 10, 20] | 7 => some [3, 8, 9, 10] | 8 => some [2] | _ => none)
def h98 : Hint := ⟨h98a, (fun _ => none), (fun _ => none), [], true, (fun _ => none), fun _ => 0, 0, false, (fun _ => none)⟩
@[go_sem] theorem h98x : h98.mix = (fun _ => none) := rfl
@[go_sem] theorem h98l : h98.live = h98a := rfl
@[go_sem] theorem h98o : h98.mode = fun _ => 0 := rfl
@[go_sem] theorem h98k : h98.keep = (fun _ => none) := rfl
@[go_sem] theorem h98t : h98.tail = (fun _ => none) := rfl
@[go_sem] theorem h98v : h98.vars = [] := rfl
@[go_sem] theorem h98m : h98.mutc = true := rfl
@[go_sem] def h99a : Nat -> Option (List Nat) := (fun id => match id with | 0 => some [0, 2] | 1 => some [0, 2, 3] | 2 => some [0, 2, 3] | 3 => some [0, 2, 3, 18] | 4 => some [2] | 5 => some [0, 2, 23] | 6 => some [0, 2] | _ => none)
abbrev h99 : Hint := HQ h99a
@[go_sem] def h100a : Nat -> Option (List Nat) := (fun id => match id with | 0 => some [0] | 1 => some [2] | _ => none)
abbrev h100 : Hint := HQ h100a
@[go_sem] def h101a : Nat -> Option (List Nat) := (fun id => match id with | 0 => some [1] | 1 => some [1, 30] | 2 => some [2, 3] | 3 => some [2, 3] | _ => none)
abbrev h101 : Hint := HQ h101a
@[go_sem] def h102a : Nat -> Option (List Nat) := (fun id => match id with | 0 => some [0, 1] | 1 => some [4, 5] | _ => none)
abbrev h102 : Hint := HQ h102a
@[go_sem] def h103a : Nat -> Option (List Nat) := (fun id => match id with | 0 => some [0, 1] | 1 => some [4] | _ => none)
abbrev h103 : Hint := HQ h103a
@[go_sem] def h104a : Nat -> Option (List Nat) := (fun id => match id with | 0 => some [0] | 1 => some [0, 14] | 2 => some [2, 3] | 3 => some [0, 4] | 4 => some [4, 16, 17, 18] | 5 => some [4, 16, 17, 18, 19] | 6 => some [4, 6, 16, 17, 18] | 7 => some [4, 6, 16, 17, 18, 27] | 8 => some [2, 3] | 9 => some [4, 16, 17, 18] | 10 => some [4, 16, 17, 18] | 11 => some [2, 3] | _ => none)
abbrev h104 : Hint := HQ h104a
@[go_sem] def h105a : Nat -> Option (List Nat) := (fun id => match id with | 0 => some [0] | 1 => some [0] | 2 => some [0, 13] | 3 => some [0] | 4 => some [2, 3] | 5 => some [0, 38] | 6 => some [2, 3] | 7 => some [0, 4] | 8 => some [0, 4] | 9 => some [0, 4] | 10 => some [0, 4, 5] | 11 => some [4, 5] | 12 => some [4, 5, 6, 7] | 13 => some [5, 6, 7, 64] | 14 => some [5, 6, 7, 64] | 15 => some [2, 3] | _ => none)
@[go_sem] def h105M : Nat -> Option Mix := (fun id => match id with | 15 => some ⟨[0, 1, 2, 3, 4, 5, 6, 7, 8, 9, 10, 11, 12], [], .head 0 (.head 1 (.head 2 (.head 3 (.head 4 (.head 5 (.head 6 (.head 7 (.alt (.one 8 (.alt (.one 9 (.alt (.one 10 (.alt (.one 11 (.alt (.one 12 (.one 13 (.one 14 (.fin)))) (.one 13 (.head 12 (.one 14 (.fin)))))) (.one 13 (.head 11 (.head 12 (.one 14 (.fin))))))) (.one 13 (.head 10 (.head 11 (.head 12 (.one 14 (.fin)))))))) (.one 13 (.head 9 (.head 10 (.head 11 (.head 12 (.one 14 (.fin))))))))) (.one 13 (.head 8 (.head 9 (.head 10 (.head 11 (.head 12 (.one 14 (.fin))))))))))))))))⟩ | _ => none)
def h105 : Hint := ⟨h105a, (fun _ => none), (fun id => match id with | 4 => some 15 | 15 => some 13 | _ => none), [], false, h105M, fun _ => 0, 0, false, (fun _ => none)⟩
@[go_sem] theorem h105e : h105.late = (fun _ => none) := rfl
@[go_sem] theorem h105x : h105.mix = h105M := rfl
@[go_sem] theorem h105l : h105.live = h105a := rfl
@[go_sem] theorem h105o : h105.mode = fun _ => 0 := rfl
@[go_sem] theorem h105k : h105.keep = (fun _ => none) := rfl
@[go_sem] theorem h105t : h105.tail = (fun id => match id with | 4 => some 15 | 15 => some 13 | _ => none) := rfl
@[go_sem] theorem h105v : h105.vars = [] := rfl
@[go_sem] theorem h105m : h105.mutc = false := rfl
@[go_sem] def h108a : Nat -> Option (List Nat) := (fun id => match id with | 0 => some [0] | 1 => some [2] | _ => none)
abbrev h108 : Hint := HQ h108a
@[go_sem] def h109a : Nat -> Option (List Nat) := (fun id => match id with | 0 => some [0, 2] | 1 => some [2] | _ => none)
abbrev h109 : Hint := HQ h109a
@[go_sem] def h110a : Nat -> Option (List Nat) := (fun id => match id with | 0 => some [1] | 1 => some [2] | _ => none)
abbrev h110 : Hint := HQ h110a
@[go_sem] def h111a : Nat -> Option (List Nat) := (fun id => match id with | 0 => some [0, 1] | 1 => some [0, 1, 9] | 2 => some [4, 5] | 3 => some [4, 5] | _ => none)
abbrev h111 : Hint := HQ h111a
@[go_sem] def h112a : Nat -> Option (List Nat) := (fun id => match id with | 0 => some [0, 1] | 1 => some [4] | _ => none)
abbrev h112 : Hint := HQ h112a
@[go_sem] def h113a : Nat -> Option (List Nat) := (fun id => match id with | 0 => some [1] | 1 => some [2] | _ => none)
def h113 : Hint := ⟨h113a, (fun _ => none), (fun id => match id with | 1 => some 18 | _ => none), [], false, (fun _ => none), fun _ => 0, 0, false, (fun _ => none)⟩
@[go_sem] theorem h113e : h113.late = (fun _ => none) := rfl
@[go_sem] theorem h113x : h113.mix = (fun _ => none) := rfl
@[go_sem] theorem h113l : h113.live = h113a := rfl
@[go_sem] theorem h113o : h113.mode = fun _ => 0 := rfl
@[go_sem] theorem h113k : h113.keep = (fun _ => none) := rfl
@[go_sem] theorem h113t : h113.tail = (fun id => match id with | 1 => some 18 | _ => none) := rfl
@[go_sem] theorem h113v : h113.vars = [] := rfl
@[go_sem] theorem h113m : h113.mutc = false := rfl
@[go_sem] def h114a : Nat -> Option (List Nat) := (fun id => match id with | 0 => some [0, 1] | 1 => some [0, 1, 6] | 2 => some [0, 1] | 3 => some [4] | _ => none)
abbrev h114 : Hint := HQ h114a
@[go_sem] def h115a : Nat -> Option (List Nat) := (fun id => match id with | 0 => some [0] | 1 => some [0, 4] | 2 => some [2] | 3 => some [2] | _ => none)
abbrev h115 : Hint := HQ h115a
def hints (f : Nat) : Hint := match f with
 | 3 => h3
 | 4 => h4
 | 5 => h5
 | 6 => h6
 | 7 => h7
 | 8 => h8
 | 9 => h9
 | 10 => h10
 | 11 => h11
 | 12 => h12
 | 13 => h13
 | 14 => h14
 | 15 => h15
 | 16 => h16
 | 17 => h17
 | 18 => h18
 | 19 => h19
 | 20 => h20
 | 21 => h21
 | 22 => h22
 | 23 => h23
 | 24 => h24
 | 25 => h25
 | 26 => h26
 | 27 => h27
 | 28 => h28
 | 29 => h29
 | 30 => h30
 | 31 => h31
 | 32 => h32
 | 33 => h33
 | 34 => h34
 | 35 => h35
 | 36 => h36
 | 37 => h37
 | 38 => h38
 | 39 => h39
 | 40 => h40
 | 41 => h41
 | 42 => h42
 | 43 => h43
 | 44 => h44
 | 45 => h45
 | 46 => h46
 | 47 => h47
 | 48 => h48
 | 49 => h49
 | 50 => h50
 | 51 => h51
 | 52 => h52
 | 53 => h53
 | 54 => h54
 | 55 => h55
 | 56 => h56
 | 57 => h57
 | 58 => h58
 | 59 => h59
 | 60 => h60
 | 61 => h61
 | 62 => h62
 | 63 => h63
 | 64 => h64
 | 65 => h65
 | 66 => h66
 | 67 => h67
 | 68 => h68
 | 69 => h69
 | 70 => h70
 | 71 => h71
 | 72 => h72
 | 73 => h73
 | 74 => h74
 | 75 => h75
 | 76 => h76
 | 78 => h78
 | 79 => h79
 | 80 => h80
 | 81 => h81
 | 82 => h82
 | 83 => h83
 | 84 => h84
 | 85 => h85
 | 86 => h86
 | 87 => h87
 | 88 => h88
 | 89 => h89
 | 94 => h94
 | 95 => h95
 | 96 => h96
 | 97 => h97
 | 98 => h98
 | 99 => h99
 | 100 => h100
 | 101 => h101
 | 102 => h102
 | 103 => h103
 | 104 => h104
 | 105 => h105
 | 108 => h108
 | 109 => h109
 | 110 => h110
 | 111 => h111
 | 112 => h112
 | 113 => h113
 | 114 => h114
 | 115 => h115
 | _ => ⟨fun _ => none, fun _ => none, fun _ => none, [], false, fun _ => none, fun _ => 0, 0, false, fun _ => none⟩
variable [MX]
noncomputable def E : CallF := ev Tryd.prog hints primz
noncomputable def b3 : Code := bodyOf Tryd.f3
theorem c3 : codeOk Tryd.prog h3 15 b3 = true := by kernel_rfl
theorem e3 {lo : Nat} {args : List V} {h : Heap} (ha : args.length <= 15) (hb : args.all bare = true) :
  E lo 3 args h = fin Tryd.prog [.tmp 2] h.length (evCode ⟨Tryd.prog, E, lo, h.length, h3⟩ loopW b3 (args0 args, h)) :=
 ev_body rfl Tryd.func3 rfl Tryd.ntmps3 (by kernel_rfl) rfl c3 rfl rfl rfl ha hb
noncomputable def b4 : Code := bodyOf Tryd.f4
noncomputable def l4x0 : Code := loopAt b4 0
noncomputable def l4x1 : Code := loopAt b4 1
noncomputable def l4x2 : Code := loopAt b4 2
theorem c4 : codeOk Tryd.prog h4 108 b4 = true := by kernel_rfl
theorem e4 {lo : Nat} {args : List V} {h : Heap} (ha : args.length <= 108) (hb : args.all bare = true) :
  E lo 4 args h = fin Tryd.prog [.tmp 2] h.length (evCode ⟨Tryd.prog, E, lo, h.length, h4⟩ loopW b4 (args0 args, h)) :=
 ev_body rfl Tryd.func4 rfl Tryd.ntmps4 (by kernel_rfl) rfl c4 rfl rfl rfl ha hb
noncomputable def b5 : Code := bodyOf Tryd.f5
noncomputable def l5x0 : Code := loopAt b5 0
theorem c5 : codeOk Tryd.prog h5 67 b5 = true := by kernel_rfl
theorem e5 {lo : Nat} {args : List V} {h : Heap} (ha : args.length <= 67) (hb : args.all bare = true) :
  E lo 5 args h = fin Tryd.prog [.tmp 2] h.length (evCode ⟨Tryd.prog, E, lo, h.length, h5⟩ loopW b5 (args0 args, h)) :=
 ev_body rfl Tryd.func5 rfl Tryd.ntmps5 (by kernel_rfl) rfl c5 rfl rfl rfl ha hb
noncomputable def b6 : Code := bodyOf Tryd.f6
theorem c6 : codeOk Tryd.prog h6 5 b6 = true := by kernel_rfl
theorem e6 {lo : Nat} {args : List V} {h : Heap} (ha : args.length <= 5) (hb : args.all bare = true) :
  E lo 6 args h = fin Tryd.prog [.tmp 2] h.length (evCode ⟨Tryd.prog, E, lo, h.length, h6⟩ loopW b6 (args0 args, h)) :=
 ev_body rfl Tryd.func6 rfl Tryd.ntmps6 (by kernel_rfl) rfl c6 rfl rfl rfl ha hb
noncomputable def b7 : Code := bodyOf Tryd.f7
theorem c7 : codeOk Tryd.prog h7 5 b7 = true := by kernel_rfl
theorem e7 {lo : Nat} {args : List V} {h : Heap} (ha : args.length <= 5) (hb : args.all bare = true) :
  E lo 7 args h = fin Tryd.prog [.tmp 2] h.length (evCode ⟨Tryd.prog, E, lo, h.length, h7⟩ loopW b7 (args0 args, h)) :=
 ev_body rfl Tryd.func7 rfl Tryd.ntmps7 (by kernel_rfl) rfl c7 rfl rfl rfl ha hb
noncomputable def b8 : Code := bodyOf Tryd.f8
noncomputable def b9 : Code := bodyOf Tryd.f9
theorem c9 : codeOk Tryd.prog h9 11 b9 = true := by kernel_rfl
theorem e9 {lo : Nat} {args : List V} {h : Heap} (ha : args.length <= 11) (hb : args.all bare = true) :
  E lo 9 args h = fin Tryd.prog [.cell 2 29, .tmp 3] h.length (evCode ⟨Tryd.prog, E, lo, h.length, h9⟩ loopW b9 (args0 args, h)) :=
 ev_body rfl Tryd.func9 rfl Tryd.ntmps9 (by kernel_rfl) rfl c9 rfl rfl rfl ha hb
noncomputable def b10 : Code := bodyOf Tryd.f10
theorem c10 : codeOk Tryd.prog h10 5 b10 = true := by kernel_rfl
theorem e10 {lo : Nat} {args : List V} {h : Heap} (ha : args.length <= 5) (hb : args.all bare = true) :
  E lo 10 args h = fin Tryd.prog [.tmp 2] h.length (evCode ⟨Tryd.prog, E, lo, h.length, h10⟩ loopW b10 (args0 args, h)) :=
 ev_body rfl Tryd.func10 rfl Tryd.ntmps10 (by kernel_rfl) rfl c10 rfl rfl rfl ha hb
noncomputable def b11 : Code := bodyOf Tryd.f11
theorem c11 : codeOk Tryd.prog h11 22 b11 = true := by kernel_rfl
theorem e11 {lo : Nat} {args : List V} {h : Heap} (ha : args.length <= 22) (hb : args.all bare = true) :
  E lo 11 args h = fin Tryd.prog [.tmp 2, .tmp 3] h.length (evCode ⟨Tryd.prog, E, lo, h.length, h11⟩ loopW b11 (args0 args, h)) :=
 ev_body rfl Tryd.func11 rfl Tryd.ntmps11 (by kernel_rfl) rfl c11 rfl rfl rfl ha hb
noncomputable def b12 : Code := bodyOf Tryd.f12
noncomputable def l12x0 : Code := loopAt b12 0
theorem c12 : codeOk Tryd.prog h12 36 b12 = true := by kernel_rfl
theorem e12 {lo : Nat} {args : List V} {h : Heap} (ha : args.length <= 36) (hb : args.all bare = true) :
  E lo 12 args h = fin Tryd.prog [.tmp 2] h.length (evCode ⟨Tryd.prog, E, lo, h.length, h12⟩ loopW b12 (args0 args, h)) :=
 ev_body rfl Tryd.func12 rfl Tryd.ntmps12 (by kernel_rfl) rfl c12 rfl rfl rfl ha hb
noncomputable def b13 : Code := bodyOf Tryd.f13
noncomputable def l13x0 : Code := loopAt b13 0
noncomputable def l13x1 : Code := loopAt b13 1
noncomputable def l13x2 : Code := loopAt b13 2
theorem c13 : codeOk Tryd.prog h13 139 b13 = true := by kernel_rfl
theorem e13 {lo : Nat} {args : List V} {h : Heap} (ha : args.length <= 139) (hb : args.all bare = true) :
  E lo 13 args h = fin Tryd.prog [.tmp 4] h.length (evCode ⟨Tryd.prog, E, lo, h.length, h13⟩ loopW b13 (args0 args, h)) :=
 ev_body rfl Tryd.func13 rfl Tryd.ntmps13 (by kernel_rfl) rfl c13 rfl rfl rfl ha hb
noncomputable def b14 : Code := bodyOf Tryd.f14
noncomputable def l14x0 : Code := loopAt b14 0
noncomputable def l14x1 : Code := loopAt b14 1
noncomputable def l14x2 : Code := loopAt b14 2
theorem c14 : codeOk Tryd.prog h14 82 b14 = true := by kernel_rfl
theorem e14 {lo : Nat} {args : List V} {h : Heap} (ha : args.length <= 82) (hb : args.all bare = true) :
  E lo 14 args h = fin Tryd.prog [.tmp 4] h.length (evCode ⟨Tryd.prog, E, lo, h.length, h14⟩ loopW b14 (args0 args, h)) :=
 ev_body rfl Tryd.func14 rfl Tryd.ntmps14 (by kernel_rfl) rfl c14 rfl rfl rfl ha hb
noncomputable def b15 : Code := bodyOf Tryd.f15
noncomputable def l15x0 : Code := loopAt b15 0
noncomputable def l15x1 : Code := loopAt b15 1
noncomputable def l15x2 : Code := loopAt b15 2
theorem c15 : codeOk Tryd.prog h15 92 b15 = true := by kernel_rfl
theorem e15 {lo : Nat} {args : List V} {h : Heap} (ha : args.length <= 92) (hb : args.all bare = true) :
  E lo 15 args h = fin Tryd.prog [.tmp 4] h.length (evCode ⟨Tryd.prog, E, lo, h.length, h15⟩ loopW b15 (args0 args, h)) :=
 ev_body rfl Tryd.func15 rfl Tryd.ntmps15 (by kernel_rfl) rfl c15 rfl rfl rfl ha hb
noncomputable def b16 : Code := bodyOf Tryd.f16
theorem c16 : codeOk Tryd.prog h16 7 b16 = true := by kernel_rfl
theorem e16 {lo : Nat} {args : List V} {h : Heap} (ha : args.length <= 7) (hb : args.all bare = true) :
  E lo 16 args h = fin Tryd.prog [.tmp 2] h.length (evCode ⟨Tryd.prog, E, lo, h.length, h16⟩ loopW b16 (args0 args, h)) :=
 ev_body rfl Tryd.func16 rfl Tryd.ntmps16 (by kernel_rfl) rfl c16 rfl rfl rfl ha hb
noncomputable def b17 : Code := bodyOf Tryd.f17
noncomputable def l17x0 : Code := loopAt b17 0
noncomputable def l17x1 : Code := loopAt b17 1
noncomputable def l17x2 : Code := loopAt b17 2
theorem c17 : codeOk Tryd.prog h17 41 b17 = true := by kernel_rfl
theorem e17 {lo : Nat} {args : List V} {h : Heap} (ha : args.length <= 41) (hb : args.all bare = true) :
  E lo 17 args h = fin Tryd.prog [.cell 2 29] h.length (evCode ⟨Tryd.prog, E, lo, h.length, h17⟩ loopW b17 (args0 args, h)) :=
 ev_body rfl Tryd.func17 rfl Tryd.ntmps17 (by kernel_rfl) rfl c17 rfl rfl rfl ha hb
noncomputable def b18 : Code := bodyOf Tryd.f18
noncomputable def l18x0 : Code := loopAt b18 0
theorem c18 : codeOk Tryd.prog h18 43 b18 = true := by kernel_rfl
theorem e18 {lo : Nat} {args : List V} {h : Heap} (ha : args.length <= 43) (hb : args.all bare = true) :
  E lo 18 args h = fin Tryd.prog [.tmp 4] h.length (evCode ⟨Tryd.prog, E, lo, h.length, h18⟩ loopW b18 (args0 args, h)) :=
 ev_body rfl Tryd.func18 rfl Tryd.ntmps18 (by kernel_rfl) rfl c18 rfl rfl rfl ha hb
noncomputable def b19 : Code := bodyOf Tryd.f19
theorem c19 : codeOk Tryd.prog h19 5 b19 = true := by kernel_rfl
theorem e19 {lo : Nat} {args : List V} {h : Heap} (ha : args.length <= 5) (hb : args.all bare = true) :
  E lo 19 args h = fin Tryd.prog [.tmp 2] h.length (evCode ⟨Tryd.prog, E, lo, h.length, h19⟩ loopW b19 (args0 args, h)) :=
 ev_body rfl Tryd.func19 rfl Tryd.ntmps19 (by kernel_rfl) rfl c19 rfl rfl rfl ha hb
noncomputable def b20 : Code := bodyOf Tryd.f20
noncomputable def l20x0 : Code := loopAt b20 0
theorem c20 : codeOk Tryd.prog h20 31 b20 = true := by kernel_rfl
theorem e20 {lo : Nat} {args : List V} {h : Heap} (ha : args.length <= 31) (hb : args.all bare = true) :
  E lo 20 args h = fin Tryd.prog [.tmp 2, .tmp 3] h.length (evCode ⟨Tryd.prog, E, lo, h.length, h20⟩ loopW b20 (args0 args, h)) :=
 ev_body rfl Tryd.func20 rfl Tryd.ntmps20 (by kernel_rfl) rfl c20 rfl rfl rfl ha hb
noncomputable def b21 : Code := bodyOf Tryd.f21
noncomputable def l21x0 : Code := loopAt b21 0
noncomputable def l21x1 : Code := loopAt b21 1
theorem c21 : codeOk Tryd.prog h21 36 b21 = true := by kernel_rfl
theorem e21 {lo : Nat} {args : List V} {h : Heap} (ha : args.length <= 36) (hb : args.all bare = true) :
  E lo 21 args h = fin Tryd.prog [.tmp 2] h.length (evCode ⟨Tryd.prog, E, lo, h.length, h21⟩ loopW b21 (args0 args, h)) :=
 ev_body rfl Tryd.func21 rfl Tryd.ntmps21 (by kernel_rfl) rfl c21 rfl rfl rfl ha hb
noncomputable def b22 : Code := bodyOf Tryd.f22
theorem c22 : codeOk Tryd.prog h22 135 b22 = true := by kernel_rfl
theorem e22 {lo : Nat} {args : List V} {h : Heap} (ha : args.length <= 135) (hb : args.all bare = true) :
  E lo 22 args h = fin Tryd.prog [.tmp 4] h.length (evCode ⟨Tryd.prog, E, lo, h.length, h22⟩ loopW b22 (args0 args, h)) :=
 ev_body rfl Tryd.func22 rfl Tryd.ntmps22 (by kernel_rfl) rfl c22 rfl rfl rfl ha hb
noncomputable def b23 : Code := bodyOf Tryd.f23
theorem c23 : codeOk Tryd.prog h23 165 b23 = true := by kernel_rfl
theorem e23 {lo : Nat} {args : List V} {h : Heap} (ha : args.length <= 165) (hb : args.all bare = true) :
  E lo 23 args h = fin Tryd.prog [.tmp 4] h.length (evCode ⟨Tryd.prog, E, lo, h.length, h23⟩ loopW b23 (args0 args, h)) :=
 ev_body rfl Tryd.func23 rfl Tryd.ntmps23 (by kernel_rfl) rfl c23 rfl rfl rfl ha hb
noncomputable def b24 : Code := bodyOf Tryd.f24
noncomputable def l24x0 : Code := loopAt b24 0
noncomputable def l24x1 : Code := loopAt b24 1
theorem c24 : codeOk Tryd.prog h24 66 b24 = true := by kernel_rfl
theorem e24 {lo : Nat} {args : List V} {h : Heap} (ha : args.length <= 66) (hb : args.all bare = true) :
  E lo 24 args h = fin Tryd.prog [.tmp 2] h.length (evCode ⟨Tryd.prog, E, lo, h.length, h24⟩ loopW b24 (args0 args, h)) :=
 ev_body rfl Tryd.func24 rfl Tryd.ntmps24 (by kernel_rfl) rfl c24 rfl rfl rfl ha hb
noncomputable def b25 : Code := bodyOf Tryd.f25
theorem c25 : codeOk Tryd.prog h25 6 b25 = true := by kernel_rfl
theorem e25 {lo : Nat} {args : List V} {h : Heap} (ha : args.length <= 6) (hb : args.all bare = true) :
  E lo 25 args h = fin Tryd.prog [.tmp 2] h.length (evCode ⟨Tryd.prog, E, lo, h.length, h25⟩ loopW b25 (args0 args, h)) :=
 ev_body rfl Tryd.func25 rfl Tryd.ntmps25 (by kernel_rfl) rfl c25 rfl rfl rfl ha hb
noncomputable def b26 : Code := bodyOf Tryd.f26
noncomputable def l26x0 : Code := loopAt b26 0
theorem c26 : codeOk Tryd.prog h26 37 b26 = true := by kernel_rfl
theorem e26 {lo : Nat} {args : List V} {h : Heap} (ha : args.length <= 37) (hb : args.all bare = true) :
  E lo 26 args h = fin Tryd.prog [.cell 2 29] h.length (evCode ⟨Tryd.prog, E, lo, h.length, h26⟩ loopW b26 (args0 args, h)) :=
 ev_body rfl Tryd.func26 rfl Tryd.ntmps26 (by kernel_rfl) rfl c26 rfl rfl rfl ha hb
noncomputable def b27 : Code := bodyOf Tryd.f27
theorem c27 : codeOk Tryd.prog h27 11 b27 = true := by kernel_rfl
theorem e27 {lo : Nat} {args : List V} {h : Heap} (ha : args.length <= 11) (hb : args.all bare = true) :
  E lo 27 args h = fin Tryd.prog [.tmp 2] h.length (evCode ⟨Tryd.prog, E, lo, h.length, h27⟩ loopW b27 (args0 args, h)) :=
 ev_body rfl Tryd.func27 rfl Tryd.ntmps27 (by kernel_rfl) rfl c27 rfl rfl rfl ha hb
noncomputable def b28 : Code := bodyOf Tryd.f28
noncomputable def l28x0 : Code := loopAt b28 0
theorem c28 : codeOk Tryd.prog h28 43 b28 = true := by kernel_rfl
theorem e28 {lo : Nat} {args : List V} {h : Heap} (ha : args.length <= 43) (hb : args.all bare = true) :
  E lo 28 args h = fin Tryd.prog [.tmp 4] h.length (evCode ⟨Tryd.prog, E, lo, h.length, h28⟩ loopW b28 (args0 args, h)) :=
 ev_body rfl Tryd.func28 rfl Tryd.ntmps28 (by kernel_rfl) rfl c28 rfl rfl rfl ha hb
noncomputable def b29 : Code := bodyOf Tryd.f29
noncomputable def l29x0 : Code := loopAt b29 0
theorem c29 : codeOk Tryd.prog h29 36 b29 = true := by kernel_rfl
theorem e29 {lo : Nat} {args : List V} {h : Heap} (ha : args.length <= 36) (hb : args.all bare = true) :
  E lo 29 args h = fin Tryd.prog [.tmp 2] h.length (evCode ⟨Tryd.prog, E, lo, h.length, h29⟩ loopW b29 (args0 args, h)) :=
 ev_body rfl Tryd.func29 rfl Tryd.ntmps29 (by kernel_rfl) rfl c29 rfl rfl rfl ha hb
noncomputable def b30 : Code := bodyOf Tryd.f30
noncomputable def l30x0 : Code := loopAt b30 0
theorem c30 : codeOk Tryd.prog h30 46 b30 = true := by kernel_rfl
/- a method -/
theorem e30 {lo : Nat} {args : List V} {h : Heap} (ha : args.length <= 46) (hb : args.all bare = true) :
  E lo 30 args h = fin Tryd.prog [.cell 2 27, .tmp 3] h.length (evCode ⟨Tryd.prog, E, lo, h.length, h30⟩ loopW b30 (args0 args, h)) :=
 ev_body rfl Tryd.func30 rfl Tryd.ntmps30 (by kernel_rfl) rfl c30 rfl rfl rfl ha hb
noncomputable def b31 : Code := bodyOf Tryd.f31
theorem c31 : codeOk Tryd.prog h31 7 b31 = true := by kernel_rfl
theorem e31 {lo : Nat} {args : List V} {h : Heap} (ha : args.length <= 7) (hb : args.all bare = true) :
  E lo 31 args h = fin Tryd.prog [.tmp 2] h.length (evCode ⟨Tryd.prog, E, lo, h.length, h31⟩ loopW b31 (args0 args, h)) :=
 ev_body rfl Tryd.func31 rfl Tryd.ntmps31 (by kernel_rfl) rfl c31 rfl rfl rfl ha hb
noncomputable def b32 : Code := bodyOf Tryd.f32
theorem c32 : codeOk Tryd.prog h32 9 b32 = true := by kernel_rfl
theorem e32 {lo : Nat} {args : List V} {h : Heap} (ha : args.length <= 9) (hb : args.all bare = true) :
  E lo 32 args h = fin Tryd.prog [.tmp 2] h.length (evCode ⟨Tryd.prog, E, lo, h.length, h32⟩ loopW b32 (args0 args, h)) :=
 ev_body rfl Tryd.func32 rfl Tryd.ntmps32 (by kernel_rfl) rfl c32 rfl rfl rfl ha hb
noncomputable def b33 : Code := bodyOf Tryd.f33
theorem c33 : codeOk Tryd.prog h33 11 b33 = true := by kernel_rfl
theorem e33 {lo : Nat} {args : List V} {h : Heap} (ha : args.length <= 11) (hb : args.all bare = true) :
  E lo 33 args h = fin Tryd.prog [.tmp 2] h.length (evCode ⟨Tryd.prog, E, lo, h.length, h33⟩ loopW b33 (args0 args, h)) :=
 ev_body rfl Tryd.func33 rfl Tryd.ntmps33 (by kernel_rfl) rfl c33 rfl rfl rfl ha hb
noncomputable def b34 : Code := bodyOf Tryd.f34
theorem c34 : codeOk Tryd.prog h34 9 b34 = true := by kernel_rfl
theorem e34 {lo : Nat} {args : List V} {h : Heap} (ha : args.length <= 9) (hb : args.all bare = true) :
  E lo 34 args h = fin Tryd.prog [.tmp 2] h.length (evCode ⟨Tryd.prog, E, lo, h.length, h34⟩ loopW b34 (args0 args, h)) :=
 ev_body rfl Tryd.func34 rfl Tryd.ntmps34 (by kernel_rfl) rfl c34 rfl rfl rfl ha hb
noncomputable def b35 : Code := bodyOf Tryd.f35
theorem c35 : codeOk Tryd.prog h35 11 b35 = true := by kernel_rfl
theorem e35 {lo : Nat} {args : List V} {h : Heap} (ha : args.length <= 11) (hb : args.all bare = true) :
  E lo 35 args h = fin Tryd.prog [.tmp 2] h.length (evCode ⟨Tryd.prog, E, lo, h.length, h35⟩ loopW b35 (args0 args, h)) :=
 ev_body rfl Tryd.func35 rfl Tryd.ntmps35 (by kernel_rfl) rfl c35 rfl rfl rfl ha hb
noncomputable def b36 : Code := bodyOf Tryd.f36
theorem c36 : codeOk Tryd.prog h36 56 b36 = true := by kernel_rfl
theorem e36 {lo : Nat} {args : List V} {h : Heap} (ha : args.length <= 56) (hb : args.all bare = true) :
  E lo 36 args h = fin Tryd.prog [.tmp 2] h.length (evCode ⟨Tryd.prog, E, lo, h.length, h36⟩ loopW b36 (args0 args, h)) :=
 ev_body rfl Tryd.func36 rfl Tryd.ntmps36 (by kernel_rfl) rfl c36 rfl rfl rfl ha hb
noncomputable def b37 : Code := bodyOf Tryd.f37
noncomputable def l37x0 : Code := loopAt b37 0
theorem c37 : codeOk Tryd.prog h37 19 b37 = true := by kernel_rfl
theorem e37 {lo : Nat} {args : List V} {h : Heap} (ha : args.length <= 19) (hb : args.all bare = true) :
  E lo 37 args h = fin Tryd.prog [.tmp 2] h.length (evCode ⟨Tryd.prog, E, lo, h.length, h37⟩ loopW b37 (args0 args, h)) :=
 ev_body rfl Tryd.func37 rfl Tryd.ntmps37 (by kernel_rfl) rfl c37 rfl rfl rfl ha hb
noncomputable def b38 : Code := bodyOf Tryd.f38
noncomputable def l38x0 : Code := loopAt b38 0
theorem c38 : codeOk Tryd.prog h38 58 b38 = true := by kernel_rfl
theorem e38 {lo : Nat} {args : List V} {h : Heap} (ha : args.length <= 58) (hb : args.all bare = true) :
  E lo 38 args h = fin Tryd.prog [.tmp 2] h.length (evCode ⟨Tryd.prog, E, lo, h.length, h38⟩ loopW b38 (args0 args, h)) :=
 ev_body rfl Tryd.func38 rfl Tryd.ntmps38 (by kernel_rfl) rfl c38 rfl rfl rfl ha hb
noncomputable def b39 : Code := bodyOf Tryd.f39
noncomputable def l39x0 : Code := loopAt b39 0
theorem c39 : codeOk Tryd.prog h39 23 b39 = true := by kernel_rfl
theorem e39 {lo : Nat} {args : List V} {h : Heap} (ha : args.length <= 23) (hb : args.all bare = true) :
  E lo 39 args h = fin Tryd.prog [.cell 2 29] h.length (evCode ⟨Tryd.prog, E, lo, h.length, h39⟩ loopW b39 (args0 args, h)) :=
 ev_body rfl Tryd.func39 rfl Tryd.ntmps39 (by kernel_rfl) rfl c39 rfl rfl rfl ha hb
noncomputable def b40 : Code := bodyOf Tryd.f40
theorem c40 : codeOk Tryd.prog h40 12 b40 = true := by kernel_rfl
theorem e40 {lo : Nat} {args : List V} {h : Heap} (ha : args.length <= 12) (hb : args.all bare = true) :
  E lo 40 args h = fin Tryd.prog [.tmp 2] h.length (evCode ⟨Tryd.prog, E, lo, h.length, h40⟩ loopW b40 (args0 args, h)) :=
 ev_body rfl Tryd.func40 rfl Tryd.ntmps40 (by kernel_rfl) rfl c40 rfl rfl rfl ha hb
noncomputable def b41 : Code := bodyOf Tryd.f41
theorem c41 : codeOk Tryd.prog h41 6 b41 = true := by kernel_rfl
theorem e41 {lo : Nat} {args : List V} {h : Heap} (ha : args.length <= 6) (hb : args.all bare = true) :
  E lo 41 args h = fin Tryd.prog [.tmp 2] h.length (evCode ⟨Tryd.prog, E, lo, h.length, h41⟩ loopW b41 (args0 args, h)) :=
 ev_body rfl Tryd.func41 rfl Tryd.ntmps41 (by kernel_rfl) rfl c41 rfl rfl rfl ha hb
noncomputable def b42 : Code := bodyOf Tryd.f42
noncomputable def l42x0 : Code := loopAt b42 0
theorem c42 : codeOk Tryd.prog h42 79 b42 = true := by kernel_rfl
/- a method -/
theorem e42 {lo : Nat} {args : List V} {h : Heap} (ha : args.length <= 79) (hb : args.all bare = true) :
  E lo 42 args h = fin Tryd.prog [.tmp 4] h.length (evCode ⟨Tryd.prog, E, lo, h.length, h42⟩ loopW b42 (args0 args, h)) :=
 ev_body rfl Tryd.func42 rfl Tryd.ntmps42 (by kernel_rfl) rfl c42 rfl rfl rfl ha hb
noncomputable def b43 : Code := bodyOf Tryd.f43
theorem c43 : codeOk Tryd.prog h43 13 b43 = true := by kernel_rfl
/- a method -/
theorem e43 {lo : Nat} {args : List V} {h : Heap} (ha : args.length <= 13) (hb : args.all bare = true) :
  E lo 43 args h = fin Tryd.prog [.tmp 2] h.length (evCode ⟨Tryd.prog, E, lo, h.length, h43⟩ loopW b43 (args0 args, h)) :=
 ev_body rfl Tryd.func43 rfl Tryd.ntmps43 (by kernel_rfl) rfl c43 rfl rfl rfl ha hb
noncomputable def b44 : Code := bodyOf Tryd.f44
noncomputable def l44x0 : Code := loopAt b44 0
theorem c44 : codeOk Tryd.prog h44 25 b44 = true := by kernel_rfl
/- a method -/
theorem e44 {lo : Nat} {args : List V} {h : Heap} (ha : args.length <= 25) (hb : args.all bare = true) :
  E lo 44 args h = fin Tryd.prog [.tmp 2] h.length (evCode ⟨Tryd.prog, E, lo, h.length, h44⟩ loopW b44 (args0 args, h)) :=
 ev_body rfl Tryd.func44 rfl Tryd.ntmps44 (by kernel_rfl) rfl c44 rfl rfl rfl ha hb
noncomputable def b45 : Code := bodyOf Tryd.f45
theorem c45 : codeOk Tryd.prog h45 26 b45 = true := by kernel_rfl
/- a method -/
theorem e45 {lo : Nat} {args : List V} {h : Heap} (ha : args.length <= 26) (hb : args.all bare = true) :
  E lo 45 args h = fin Tryd.prog [.tmp 6] h.length (evCode ⟨Tryd.prog, E, lo, h.length, h45⟩ loopW b45 (args0 args, h)) :=
 ev_body rfl Tryd.func45 rfl Tryd.ntmps45 (by kernel_rfl) rfl c45 rfl rfl rfl ha hb
noncomputable def b46 : Code := bodyOf Tryd.f46
noncomputable def l46x0 : Code := loopAt b46 0
theorem c46 : codeOk Tryd.prog h46 40 b46 = true := by kernel_rfl
theorem e46 {lo : Nat} {args : List V} {h : Heap} (ha : args.length <= 40) (hb : args.all bare = true) :
  E lo 46 args h = fin Tryd.prog [.tmp 2] h.length (evCode ⟨Tryd.prog, E, lo, h.length, h46⟩ loopW b46 (args0 args, h)) :=
 ev_body rfl Tryd.func46 rfl Tryd.ntmps46 (by kernel_rfl) rfl c46 rfl rfl rfl ha hb
noncomputable def b47 : Code := bodyOf Tryd.f47
theorem c47 : codeOk Tryd.prog h47 9 b47 = true := by kernel_rfl
theorem e47 {lo : Nat} {args : List V} {h : Heap} (ha : args.length <= 9) (hb : args.all bare = true) :
  E lo 47 args h = fin Tryd.prog [.tmp 4] h.length (evCode ⟨Tryd.prog, E, lo, h.length, h47⟩ loopW b47 (args0 args, h)) :=
 ev_body rfl Tryd.func47 rfl Tryd.ntmps47 (by kernel_rfl) rfl c47 rfl rfl rfl ha hb
noncomputable def b48 : Code := bodyOf Tryd.f48
noncomputable def l48x0 : Code := loopAt b48 0
theorem c48 : codeOk Tryd.prog h48 23 b48 = true := by kernel_rfl
theorem e48 {lo : Nat} {args : List V} {h : Heap} (ha : args.length <= 23) (hb : args.all bare = true) :
  E lo 48 args h = fin Tryd.prog [.tmp 2, .tmp 3] h.length (evCode ⟨Tryd.prog, E, lo, h.length, h48⟩ loopW b48 (args0 args, h)) :=
 ev_body rfl Tryd.func48 rfl Tryd.ntmps48 (by kernel_rfl) rfl c48 rfl rfl rfl ha hb
noncomputable def b49 : Code := bodyOf Tryd.f49
noncomputable def l49x0 : Code := loopAt b49 0
noncomputable def l49x1 : Code := loopAt b49 1
theorem c49 : codeOk Tryd.prog h49 44 b49 = true := by kernel_rfl
/- a method -/
theorem e49 {lo : Nat} {args : List V} {h : Heap} (ha : args.length <= 44) (hb : args.all bare = true) :
  E lo 49 args h = fin Tryd.prog [] h.length (evCode ⟨Tryd.prog, E, lo, h.length, h49⟩ loopW b49 (args0 args, h)) :=
 ev_body rfl Tryd.func49 rfl Tryd.ntmps49 (by kernel_rfl) rfl c49 rfl rfl rfl ha hb
noncomputable def b50 : Code := bodyOf Tryd.f50
theorem c50 : codeOk Tryd.prog h50 33 b50 = true := by kernel_rfl
/- a method -/
theorem e50 {lo : Nat} {args : List V} {h : Heap} (ha : args.length <= 33) (hb : args.all bare = true) :
  E lo 50 args h = fin Tryd.prog [.tmp 4] h.length (evCode ⟨Tryd.prog, E, lo, h.length, h50⟩ loopW b50 (args0 args, h)) :=
 ev_body rfl Tryd.func50 rfl Tryd.ntmps50 (by kernel_rfl) rfl c50 rfl rfl rfl ha hb
noncomputable def b51 : Code := bodyOf Tryd.f51
noncomputable def l51x0 : Code := loopAt b51 0
theorem c51 : codeOk Tryd.prog h51 177 b51 = true := by kernel_rfl
/- a method -/
theorem e51 {lo : Nat} {args : List V} {h : Heap} (ha : args.length <= 177) (hb : args.all bare = true) :
  E lo 51 args h = fin Tryd.prog [.cell 2 56] h.length (evCode ⟨Tryd.prog, E, lo, h.length, h51⟩ loopW b51 (args0 args, h)) :=
 ev_body rfl Tryd.func51 rfl Tryd.ntmps51 (by kernel_rfl) rfl c51 rfl rfl rfl ha hb
noncomputable def b52 : Code := bodyOf Tryd.f52
noncomputable def l52x0 : Code := loopAt b52 0
theorem c52 : codeOk Tryd.prog h52 27 b52 = true := by kernel_rfl
theorem e52 {lo : Nat} {args : List V} {h : Heap} (ha : args.length <= 27) (hb : args.all bare = true) :
  E lo 52 args h = fin Tryd.prog [.tmp 2] h.length (evCode ⟨Tryd.prog, E, lo, h.length, h52⟩ loopW b52 (args0 args, h)) :=
 ev_body rfl Tryd.func52 rfl Tryd.ntmps52 (by kernel_rfl) rfl c52 rfl rfl rfl ha hb
noncomputable def b53 : Code := bodyOf Tryd.f53
noncomputable def l53x0 : Code := loopAt b53 0
theorem c53 : codeOk Tryd.prog h53 27 b53 = true := by kernel_rfl
theorem e53 {lo : Nat} {args : List V} {h : Heap} (ha : args.length <= 27) (hb : args.all bare = true) :
  E lo 53 args h = fin Tryd.prog [.tmp 4] h.length (evCode ⟨Tryd.prog, E, lo, h.length, h53⟩ loopW b53 (args0 args, h)) :=
 ev_body rfl Tryd.func53 rfl Tryd.ntmps53 (by kernel_rfl) rfl c53 rfl rfl rfl ha hb
noncomputable def b54 : Code := bodyOf Tryd.f54
noncomputable def l54x0 : Code := loopAt b54 0
theorem c54 : codeOk Tryd.prog h54 23 b54 = true := by kernel_rfl
theorem e54 {lo : Nat} {args : List V} {h : Heap} (ha : args.length <= 23) (hb : args.all bare = true) :
  E lo 54 args h = fin Tryd.prog [.tmp 2] h.length (evCode ⟨Tryd.prog, E, lo, h.length, h54⟩ loopW b54 (args0 args, h)) :=
 ev_body rfl Tryd.func54 rfl Tryd.ntmps54 (by kernel_rfl) rfl c54 rfl rfl rfl ha hb
noncomputable def b55 : Code := bodyOf Tryd.f55
noncomputable def l55x0 : Code := loopAt b55 0
noncomputable def l55x1 : Code := loopAt b55 1
theorem c55 : codeOk Tryd.prog h55 32 b55 = true := by kernel_rfl
theorem e55 {lo : Nat} {args : List V} {h : Heap} (ha : args.length <= 32) (hb : args.all bare = true) :
  E lo 55 args h = fin Tryd.prog [.tmp 2] h.length (evCode ⟨Tryd.prog, E, lo, h.length, h55⟩ loopW b55 (args0 args, h)) :=
 ev_body rfl Tryd.func55 rfl Tryd.ntmps55 (by kernel_rfl) rfl c55 rfl rfl rfl ha hb
noncomputable def b56 : Code := bodyOf Tryd.f56
theorem c56 : codeOk Tryd.prog h56 31 b56 = true := by kernel_rfl
/- a method -/
theorem e56 {lo : Nat} {args : List V} {h : Heap} (ha : args.length <= 31) (hb : args.all bare = true) :
  E lo 56 args h = fin Tryd.prog [.cell 4 56] h.length (evCode ⟨Tryd.prog, E, lo, h.length, h56⟩ loopW b56 (args0 args, h)) :=
 ev_body rfl Tryd.func56 rfl Tryd.ntmps56 (by kernel_rfl) rfl c56 rfl rfl rfl ha hb
noncomputable def b57 : Code := bodyOf Tryd.f57
theorem c57 : codeOk Tryd.prog h57 126 b57 = true := by kernel_rfl
/- a method -/
theorem e57 {lo : Nat} {args : List V} {h : Heap} (ha : args.length <= 126) (hb : args.all bare = true) :
  E lo 57 args h = fin Tryd.prog [.cell 2 38, .tmp 3, .tmp 4] h.length (evCode ⟨Tryd.prog, E, lo, h.length, h57⟩ loopW b57 (args0 args, h)) :=
 ev_body rfl Tryd.func57 rfl Tryd.ntmps57 (by kernel_rfl) rfl c57 rfl rfl rfl ha hb
noncomputable def b58 : Code := bodyOf Tryd.f58
noncomputable def l58x0 : Code := loopAt b58 0
theorem c58 : codeOk Tryd.prog h58 101 b58 = true := by kernel_rfl
theorem e58 {lo : Nat} {args : List V} {h : Heap} (ha : args.length <= 101) (hb : args.all bare = true) :
  E lo 58 args h = fin Tryd.prog [.tmp 2, .tmp 3] h.length (evCode ⟨Tryd.prog, E, lo, h.length, h58⟩ loopW b58 (args0 args, h)) :=
 ev_body rfl Tryd.func58 rfl Tryd.ntmps58 (by kernel_rfl) rfl c58 rfl rfl rfl ha hb
noncomputable def b59 : Code := bodyOf Tryd.f59
theorem c59 : codeOk Tryd.prog h59 8 b59 = true := by kernel_rfl
theorem e59 {lo : Nat} {args : List V} {h : Heap} (ha : args.length <= 8) (hb : args.all bare = true) :
  E lo 59 args h = fin Tryd.prog [.tmp 4] h.length (evCode ⟨Tryd.prog, E, lo, h.length, h59⟩ loopW b59 (args0 args, h)) :=
 ev_body rfl Tryd.func59 rfl Tryd.ntmps59 (by kernel_rfl) rfl c59 rfl rfl rfl ha hb
noncomputable def b60 : Code := bodyOf Tryd.f60
noncomputable def l60x0 : Code := loopAt b60 0
theorem c60 : codeOk Tryd.prog h60 23 b60 = true := by kernel_rfl
theorem e60 {lo : Nat} {args : List V} {h : Heap} (ha : args.length <= 23) (hb : args.all bare = true) :
  E lo 60 args h = fin Tryd.prog [.tmp 2] h.length (evCode ⟨Tryd.prog, E, lo, h.length, h60⟩ loopW b60 (args0 args, h)) :=
 ev_body rfl Tryd.func60 rfl Tryd.ntmps60 (by kernel_rfl) rfl c60 rfl rfl rfl ha hb
noncomputable def b61 : Code := bodyOf Tryd.f61
theorem c61 : codeOk Tryd.prog h61 17 b61 = true := by kernel_rfl
theorem e61 {lo : Nat} {args : List V} {h : Heap} (ha : args.length <= 17) (hb : args.all bare = true) :
  E lo 61 args h = fin Tryd.prog [.tmp 2] h.length (evCode ⟨Tryd.prog, E, lo, h.length, h61⟩ loopW b61 (args0 args, h)) :=
 ev_body rfl Tryd.func61 rfl Tryd.ntmps61 (by kernel_rfl) rfl c61 rfl rfl rfl ha hb
noncomputable def b62 : Code := bodyOf Tryd.f62
theorem c62 : codeOk Tryd.prog h62 13 b62 = true := by kernel_rfl
theorem e62 {lo : Nat} {args : List V} {h : Heap} (ha : args.length <= 13) (hb : args.all bare = true) :
  E lo 62 args h = fin Tryd.prog [.tmp 2] h.length (evCode ⟨Tryd.prog, E, lo, h.length, h62⟩ loopW b62 (args0 args, h)) :=
 ev_body rfl Tryd.func62 rfl Tryd.ntmps62 (by kernel_rfl) rfl c62 rfl rfl rfl ha hb
noncomputable def b63 : Code := bodyOf Tryd.f63
noncomputable def l63x0 : Code := loopAt b63 0
theorem c63 : codeOk Tryd.prog h63 12 b63 = true := by kernel_rfl
/- a method -/
theorem e63 {lo : Nat} {args : List V} {h : Heap} (ha : args.length <= 12) (hb : args.all bare = true) :
  E lo 63 args h = fin Tryd.prog [] h.length (evCode ⟨Tryd.prog, E, lo, h.length, h63⟩ loopW b63 (args0 args, h)) :=
 ev_body rfl Tryd.func63 rfl Tryd.ntmps63 (by kernel_rfl) rfl c63 rfl rfl rfl ha hb
noncomputable def b64 : Code := bodyOf Tryd.f64
noncomputable def l64x0 : Code := loopAt b64 0
theorem c64 : codeOk Tryd.prog h64 79 b64 = true := by kernel_rfl
/- a method -/
theorem e64 {lo : Nat} {args : List V} {h : Heap} (ha : args.length <= 79) (hb : args.all bare = true) :
  E lo 64 args h = fin Tryd.prog [.cell 4 56] h.length (evCode ⟨Tryd.prog, E, lo, h.length, h64⟩ loopW b64 (args0 args, h)) :=
 ev_body rfl Tryd.func64 rfl Tryd.ntmps64 (by kernel_rfl) rfl c64 rfl rfl rfl ha hb
noncomputable def b65 : Code := bodyOf Tryd.f65
theorem c65 : codeOk Tryd.prog h65 13 b65 = true := by kernel_rfl
theorem e65 {lo : Nat} {args : List V} {h : Heap} (ha : args.length <= 13) (hb : args.all bare = true) :
  E lo 65 args h = fin Tryd.prog [.tmp 2] h.length (evCode ⟨Tryd.prog, E, lo, h.length, h65⟩ loopW b65 (args0 args, h)) :=
 ev_body rfl Tryd.func65 rfl Tryd.ntmps65 (by kernel_rfl) rfl c65 rfl rfl rfl ha hb
noncomputable def b66 : Code := bodyOf Tryd.f66
theorem c66 : codeOk Tryd.prog h66 11 b66 = true := by kernel_rfl
theorem e66 {lo : Nat} {args : List V} {h : Heap} (ha : args.length <= 11) (hb : args.all bare = true) :
  E lo 66 args h = fin Tryd.prog [.tmp 4] h.length (evCode ⟨Tryd.prog, E, lo, h.length, h66⟩ loopW b66 (args0 args, h)) :=
 ev_body rfl Tryd.func66 rfl Tryd.ntmps66 (by kernel_rfl) rfl c66 rfl rfl rfl ha hb
noncomputable def b67 : Code := bodyOf Tryd.f67
theorem c67 : codeOk Tryd.prog h67 27 b67 = true := by kernel_rfl
theorem e67 {lo : Nat} {args : List V} {h : Heap} (ha : args.length <= 27) (hb : args.all bare = true) :
  E lo 67 args h = fin Tryd.prog [.tmp 6] h.length (evCode ⟨Tryd.prog, E, lo, h.length, h67⟩ loopW b67 (args0 args, h)) :=
 ev_body rfl Tryd.func67 rfl Tryd.ntmps67 (by kernel_rfl) rfl c67 rfl rfl rfl ha hb
noncomputable def b68 : Code := bodyOf Tryd.f68
noncomputable def l68x0 : Code := loopAt b68 0
theorem c68 : codeOk Tryd.prog h68 44 b68 = true := by kernel_rfl
/- a method -/
theorem e68 {lo : Nat} {args : List V} {h : Heap} (ha : args.length <= 44) (hb : args.all bare = true) :
  E lo 68 args h = fin Tryd.prog [.tmp 2] h.length (evCode ⟨Tryd.prog, E, lo, h.length, h68⟩ loopW b68 (args0 args, h)) :=
 ev_body rfl Tryd.func68 rfl Tryd.ntmps68 (by kernel_rfl) rfl c68 rfl rfl rfl ha hb
noncomputable def b69 : Code := bodyOf Tryd.f69
theorem c69 : codeOk Tryd.prog h69 25 b69 = true := by kernel_rfl
theorem e69 {lo : Nat} {args : List V} {h : Heap} (ha : args.length <= 25) (hb : args.all bare = true) :
  E lo 69 args h = fin Tryd.prog [.tmp 6] h.length (evCode ⟨Tryd.prog, E, lo, h.length, h69⟩ loopW b69 (args0 args, h)) :=
 ev_body rfl Tryd.func69 rfl Tryd.ntmps69 (by kernel_rfl) rfl c69 rfl rfl rfl ha hb
noncomputable def b70 : Code := bodyOf Tryd.f70
theorem c70 : codeOk Tryd.prog h70 122 b70 = true := by kernel_rfl
/- a method -/
theorem e70 {lo : Nat} {args : List V} {h : Heap} (ha : args.length <= 122) (hb : args.all bare = true) :
  E lo 70 args h = fin Tryd.prog [.cell 2 56] h.length (evCode ⟨Tryd.prog, E, lo, h.length, h70⟩ loopW b70 (args0 args, h)) :=
 ev_body rfl Tryd.func70 rfl Tryd.ntmps70 (by kernel_rfl) rfl c70 rfl rfl rfl ha hb
noncomputable def b71 : Code := bodyOf Tryd.f71
noncomputable def l71x0 : Code := loopAt b71 0
theorem c71 : codeOk Tryd.prog h71 55 b71 = true := by kernel_rfl
/- a method -/
theorem e71 {lo : Nat} {args : List V} {h : Heap} (ha : args.length <= 55) (hb : args.all bare = true) :
  E lo 71 args h = fin Tryd.prog [.cell 2 56] h.length (evCode ⟨Tryd.prog, E, lo, h.length, h71⟩ loopW b71 (args0 args, h)) :=
 ev_body rfl Tryd.func71 rfl Tryd.ntmps71 (by kernel_rfl) rfl c71 rfl rfl rfl ha hb
noncomputable def b72 : Code := bodyOf Tryd.f72
theorem c72 : codeOk Tryd.prog h72 6 b72 = true := by kernel_rfl
theorem e72 {lo : Nat} {args : List V} {h : Heap} (ha : args.length <= 6) (hb : args.all bare = true) :
  E lo 72 args h = fin Tryd.prog [.tmp 2] h.length (evCode ⟨Tryd.prog, E, lo, h.length, h72⟩ loopW b72 (args0 args, h)) :=
 ev_body rfl Tryd.func72 rfl Tryd.ntmps72 (by kernel_rfl) rfl c72 rfl rfl rfl ha hb
noncomputable def b73 : Code := bodyOf Tryd.f73
noncomputable def l73x0 : Code := loopAt b73 0
theorem c73 : codeOk Tryd.prog h73 81 b73 = true := by kernel_rfl
theorem e73 {lo : Nat} {args : List V} {h : Heap} (ha : args.length <= 81) (hb : args.all bare = true) :
  E lo 73 args h = fin Tryd.prog [.tmp 4, .tmp 5, .tmp 6] h.length (evCode ⟨Tryd.prog, E, lo, h.length, h73⟩ loopW b73 (args0 args, h)) :=
 ev_body rfl Tryd.func73 rfl Tryd.ntmps73 (by kernel_rfl) rfl c73 rfl rfl rfl ha hb
noncomputable def b74 : Code := bodyOf Tryd.f74
theorem c74 : codeOk Tryd.prog h74 7 b74 = true := by kernel_rfl
theorem e74 {lo : Nat} {args : List V} {h : Heap} (ha : args.length <= 7) (hb : args.all bare = true) :
  E lo 74 args h = fin Tryd.prog [.tmp 2] h.length (evCode ⟨Tryd.prog, E, lo, h.length, h74⟩ loopW b74 (args0 args, h)) :=
 ev_body rfl Tryd.func74 rfl Tryd.ntmps74 (by kernel_rfl) rfl c74 rfl rfl rfl ha hb
noncomputable def b75 : Code := bodyOf Tryd.f75
noncomputable def l75x0 : Code := loopAt b75 0
theorem c75 : codeOk Tryd.prog h75 125 b75 = true := by kernel_rfl
/- a method -/
theorem e75 {lo : Nat} {args : List V} {h : Heap} (ha : args.length <= 125) (hb : args.all bare = true) :
  E lo 75 args h = fin Tryd.prog [.cell 2 38, .tmp 3] h.length (evCode ⟨Tryd.prog, E, lo, h.length, h75⟩ loopW b75 (args0 args, h)) :=
 ev_body rfl Tryd.func75 rfl Tryd.ntmps75 (by kernel_rfl) rfl c75 rfl rfl rfl ha hb
noncomputable def b76 : Code := bodyOf Tryd.f76
theorem c76 : codeOk Tryd.prog h76 77 b76 = true := by kernel_rfl
theorem e76 {lo : Nat} {args : List V} {h : Heap} (ha : args.length <= 77) (hb : args.all bare = true) :
  E lo 76 args h = fin Tryd.prog [.cell 2 38, .tmp 3] h.length (evCode ⟨Tryd.prog, E, lo, h.length, h76⟩ loopW b76 (args0 args, h)) :=
 ev_body rfl Tryd.func76 rfl Tryd.ntmps76 (by kernel_rfl) rfl c76 rfl rfl rfl ha hb
noncomputable def b78 : Code := bodyOf Tryd.f78
noncomputable def l78x0 : Code := loopAt b78 0
theorem c78 : codeOk Tryd.prog h78 70 b78 = true := by kernel_rfl
/- a method -/
theorem e78 {lo : Nat} {args : List V} {h : Heap} (ha : args.length <= 70) (hb : args.all bare = true) :
  E lo 78 args h = fin Tryd.prog [.tmp 2] h.length (evCode ⟨Tryd.prog, E, lo, h.length, h78⟩ loopW b78 (args0 args, h)) :=
 ev_body rfl Tryd.func78 rfl Tryd.ntmps78 (by kernel_rfl) rfl c78 rfl rfl rfl ha hb
noncomputable def b79 : Code := bodyOf Tryd.f79
theorem c79 : codeOk Tryd.prog h79 25 b79 = true := by kernel_rfl
theorem e79 {lo : Nat} {args : List V} {h : Heap} (ha : args.length <= 25) (hb : args.all bare = true) :
  E lo 79 args h = fin Tryd.prog [.tmp 2] h.length (evCode ⟨Tryd.prog, E, lo, h.length, h79⟩ loopW b79 (args0 args, h)) :=
 ev_body rfl Tryd.func79 rfl Tryd.ntmps79 (by kernel_rfl) rfl c79 rfl rfl rfl ha hb
noncomputable def b80 : Code := bodyOf Tryd.f80
theorem c80 : codeOk Tryd.prog h80 9 b80 = true := by kernel_rfl
theorem e80 {lo : Nat} {args : List V} {h : Heap} (ha : args.length <= 9) (hb : args.all bare = true) :
  E lo 80 args h = fin Tryd.prog [.tmp 2] h.length (evCode ⟨Tryd.prog, E, lo, h.length, h80⟩ loopW b80 (args0 args, h)) :=
 ev_body rfl Tryd.func80 rfl Tryd.ntmps80 (by kernel_rfl) rfl c80 rfl rfl rfl ha hb
noncomputable def b81 : Code := bodyOf Tryd.f81
noncomputable def l81x0 : Code := loopAt b81 0
theorem c81 : codeOk Tryd.prog h81 12 b81 = true := by kernel_rfl
/- a method -/
theorem e81 {lo : Nat} {args : List V} {h : Heap} (ha : args.length <= 12) (hb : args.all bare = true) :
  E lo 81 args h = fin Tryd.prog [] h.length (evCode ⟨Tryd.prog, E, lo, h.length, h81⟩ loopW b81 (args0 args, h)) :=
 ev_body rfl Tryd.func81 rfl Tryd.ntmps81 (by kernel_rfl) rfl c81 rfl rfl rfl ha hb
noncomputable def b82 : Code := bodyOf Tryd.f82
noncomputable def l82x0 : Code := loopAt b82 0
theorem c82 : codeOk Tryd.prog h82 153 b82 = true := by kernel_rfl
theorem e82 {lo : Nat} {args : List V} {h : Heap} (ha : args.length <= 153) (hb : args.all bare = true) :
  E lo 82 args h = fin Tryd.prog [.cell 2 54, .tmp 3, .tmp 4] h.length (evCode ⟨Tryd.prog, E, lo, h.length, h82⟩ loopW b82 (args0 args, h)) :=
 ev_body rfl Tryd.func82 rfl Tryd.ntmps82 (by kernel_rfl) rfl c82 rfl rfl rfl ha hb
noncomputable def b83 : Code := bodyOf Tryd.f83
theorem c83 : codeOk Tryd.prog h83 10 b83 = true := by kernel_rfl
theorem e83 {lo : Nat} {args : List V} {h : Heap} (ha : args.length <= 10) (hb : args.all bare = true) :
  E lo 83 args h = fin Tryd.prog [.tmp 4] h.length (evCode ⟨Tryd.prog, E, lo, h.length, h83⟩ loopW b83 (args0 args, h)) :=
 ev_body rfl Tryd.func83 rfl Tryd.ntmps83 (by kernel_rfl) rfl c83 rfl rfl rfl ha hb
noncomputable def b84 : Code := bodyOf Tryd.f84
noncomputable def l84x0 : Code := loopAt b84 0
theorem c84 : codeOk Tryd.prog h84 91 b84 = true := by kernel_rfl
/- a method -/
theorem e84 {lo : Nat} {args : List V} {h : Heap} (ha : args.length <= 91) (hb : args.all bare = true) :
  E lo 84 args h = fin Tryd.prog [.cell 2 56] h.length (evCode ⟨Tryd.prog, E, lo, h.length, h84⟩ loopW b84 (args0 args, h)) :=
 ev_body rfl Tryd.func84 rfl Tryd.ntmps84 (by kernel_rfl) rfl c84 rfl rfl rfl ha hb
noncomputable def b85 : Code := bodyOf Tryd.f85
noncomputable def l85x0 : Code := loopAt b85 0
theorem c85 : codeOk Tryd.prog h85 79 b85 = true := by kernel_rfl
theorem e85 {lo : Nat} {args : List V} {h : Heap} (ha : args.length <= 79) (hb : args.all bare = true) :
  E lo 85 args h = fin Tryd.prog [.tmp 2] h.length (evCode ⟨Tryd.prog, E, lo, h.length, h85⟩ loopW b85 (args0 args, h)) :=
 ev_body rfl Tryd.func85 rfl Tryd.ntmps85 (by kernel_rfl) rfl c85 rfl rfl rfl ha hb
noncomputable def b86 : Code := bodyOf Tryd.f86
theorem c86 : codeOk Tryd.prog h86 38 b86 = true := by kernel_rfl
theorem e86 {lo : Nat} {args : List V} {h : Heap} (ha : args.length <= 38) (hb : args.all bare = true) :
  E lo 86 args h = fin Tryd.prog [.tmp 2, .tmp 3, .tmp 4] h.length (evCode ⟨Tryd.prog, E, lo, h.length, h86⟩ loopW b86 (args0 args, h)) :=
 ev_body rfl Tryd.func86 rfl Tryd.ntmps86 (by kernel_rfl) rfl c86 rfl rfl rfl ha hb
noncomputable def b87 : Code := bodyOf Tryd.f87
noncomputable def l87x0 : Code := loopAt b87 0
theorem c87 : codeOk Tryd.prog h87 30 b87 = true := by kernel_rfl
theorem e87 {lo : Nat} {args : List V} {h : Heap} (ha : args.length <= 30) (hb : args.all bare = true) :
  E lo 87 args h = fin Tryd.prog [.tmp 2] h.length (evCode ⟨Tryd.prog, E, lo, h.length, h87⟩ loopW b87 (args0 args, h)) :=
 ev_body rfl Tryd.func87 rfl Tryd.ntmps87 (by kernel_rfl) rfl c87 rfl rfl rfl ha hb
noncomputable def b88 : Code := bodyOf Tryd.f88
theorem c88 : codeOk Tryd.prog h88 3 b88 = true := by kernel_rfl
theorem e88 {lo : Nat} {args : List V} {h : Heap} (ha : args.length <= 3) (hb : args.all bare = true) :
  E lo 88 args h = fin Tryd.prog [.tmp 0] h.length (evCode ⟨Tryd.prog, E, lo, h.length, h88⟩ loopW b88 (args0 args, h)) :=
 ev_body rfl Tryd.func88 rfl Tryd.ntmps88 (by kernel_rfl) rfl c88 rfl rfl rfl ha hb
noncomputable def b89 : Code := bodyOf Tryd.f89
theorem c89 : codeOk Tryd.prog h89 111 b89 = true := by kernel_rfl
/- a method -/
theorem e89 {lo : Nat} {args : List V} {h : Heap} (ha : args.length <= 111) (hb : args.all bare = true) :
  E lo 89 args h = fin Tryd.prog [.tmp 2, .tmp 3, .tmp 4] h.length (evCode ⟨Tryd.prog, E, lo, h.length, h89⟩ loopW b89 (args0 args, h)) :=
 ev_body rfl Tryd.func89 rfl Tryd.ntmps89 (by kernel_rfl) rfl c89 rfl rfl rfl ha hb
noncomputable def b94 : Code := bodyOf Tryd.f94
theorem c94 : codeOk Tryd.prog h94 29 b94 = true := by kernel_rfl
theorem e94 {lo : Nat} {args : List V} {h : Heap} (ha : args.length <= 29) (hb : args.all bare = true) :
  E lo 94 args h = fin Tryd.prog [.tmp 2, .tmp 3] h.length (evCode ⟨Tryd.prog, E, lo, h.length, h94⟩ loopW b94 (args0 args, h)) :=
 ev_body rfl Tryd.func94 rfl Tryd.ntmps94 (by kernel_rfl) rfl c94 rfl rfl rfl ha hb
noncomputable def b95 : Code := bodyOf Tryd.f95
noncomputable def l95x0 : Code := loopAt b95 0
theorem c95 : codeOk Tryd.prog h95 18 b95 = true := by kernel_rfl
theorem e95 {lo : Nat} {args : List V} {h : Heap} (ha : args.length <= 18) (hb : args.all bare = true) :
  E lo 95 args h = fin Tryd.prog [.tmp 4] h.length (evCode ⟨Tryd.prog, E, lo, h.length, h95⟩ loopW b95 (args0 args, h)) :=
 ev_body rfl Tryd.func95 rfl Tryd.ntmps95 (by kernel_rfl) rfl c95 rfl rfl rfl ha hb
noncomputable def b96 : Code := bodyOf Tryd.f96
theorem c96 : codeOk Tryd.prog h96 2 b96 = true := by kernel_rfl
theorem e96 {lo : Nat} {args : List V} {h : Heap} (ha : args.length <= 2) (hb : args.all bare = true) :
  E lo 96 args h = fin Tryd.prog [.cell 0 54] h.length (evCode ⟨Tryd.prog, E, lo, h.length, h96⟩ loopW b96 (args0 args, h)) :=
 ev_body rfl Tryd.func96 rfl Tryd.ntmps96 (by kernel_rfl) rfl c96 rfl rfl rfl ha hb
noncomputable def b97 : Code := bodyOf Tryd.f97
noncomputable def l97x0 : Code := loopAt b97 0
noncomputable def l97x1 : Code := loopAt b97 1
noncomputable def l97x2 : Code := loopAt b97 2
noncomputable def l97x3 : Code := loopAt b97 3
noncomputable def l97x4 : Code := loopAt b97 4
noncomputable def l97x5 : Code := loopAt b97 5
noncomputable def l97x6 : Code := loopAt b97 6
noncomputable def l97x7 : Code := loopAt b97 7
theorem c97 : codeOk Tryd.prog h97 132 b97 = true := by kernel_rfl
theorem e97 {lo : Nat} {args : List V} {h : Heap} (ha : args.length <= 132) (hb : args.all bare = true) :
  E lo 97 args h = fin Tryd.prog [.cell 6 54] h.length (evCode ⟨Tryd.prog, E, lo, h.length, h97⟩ loopW b97 (args0 args, h)) :=
 ev_body rfl Tryd.func97 rfl Tryd.ntmps97 (by kernel_rfl) rfl c97 rfl rfl rfl ha hb
noncomputable def b98 : Code := bodyOf Tryd.f98
noncomputable def l98x0 : Code := loopAt b98 0
theorem c98 : codeOk Tryd.prog h98 29 b98 = true := by kernel_rfl
theorem e98 {lo : Nat} {args : List V} {h : Heap} (ha : args.length <= 29) (hb : args.all bare = true) :
  E lo 98 args h = fin Tryd.prog [.tmp 2] h.length (evCode ⟨Tryd.prog, E, lo, h.length, h98⟩ loopW b98 (args0 args, h)) :=
 ev_body rfl Tryd.func98 rfl Tryd.ntmps98 (by kernel_rfl) rfl c98 rfl rfl rfl ha hb
noncomputable def b99 : Code := bodyOf Tryd.f99
noncomputable def l99x0 : Code := loopAt b99 0
theorem c99 : codeOk Tryd.prog h99 26 b99 = true := by kernel_rfl
/- a method -/
theorem e99 {lo : Nat} {args : List V} {h : Heap} (ha : args.length <= 26) (hb : args.all bare = true) :
  E lo 99 args h = fin Tryd.prog [.cell 2 56] h.length (evCode ⟨Tryd.prog, E, lo, h.length, h99⟩ loopW b99 (args0 args, h)) :=
 ev_body rfl Tryd.func99 rfl Tryd.ntmps99 (by kernel_rfl) rfl c99 rfl rfl rfl ha hb
noncomputable def b100 : Code := bodyOf Tryd.f100
theorem c100 : codeOk Tryd.prog h100 25 b100 = true := by kernel_rfl
theorem e100 {lo : Nat} {args : List V} {h : Heap} (ha : args.length <= 25) (hb : args.all bare = true) :
  E lo 100 args h = fin Tryd.prog [.tmp 2] h.length (evCode ⟨Tryd.prog, E, lo, h.length, h100⟩ loopW b100 (args0 args, h)) :=
 ev_body rfl Tryd.func100 rfl Tryd.ntmps100 (by kernel_rfl) rfl c100 rfl rfl rfl ha hb
noncomputable def b101 : Code := bodyOf Tryd.f101
theorem c101 : codeOk Tryd.prog h101 34 b101 = true := by kernel_rfl
theorem e101 {lo : Nat} {args : List V} {h : Heap} (ha : args.length <= 34) (hb : args.all bare = true) :
  E lo 101 args h = fin Tryd.prog [.tmp 2, .tmp 3] h.length (evCode ⟨Tryd.prog, E, lo, h.length, h101⟩ loopW b101 (args0 args, h)) :=
 ev_body rfl Tryd.func101 rfl Tryd.ntmps101 (by kernel_rfl) rfl c101 rfl rfl rfl ha hb
noncomputable def b102 : Code := bodyOf Tryd.f102
theorem c102 : codeOk Tryd.prog h102 11 b102 = true := by kernel_rfl
theorem e102 {lo : Nat} {args : List V} {h : Heap} (ha : args.length <= 11) (hb : args.all bare = true) :
  E lo 102 args h = fin Tryd.prog [.tmp 4, .tmp 5] h.length (evCode ⟨Tryd.prog, E, lo, h.length, h102⟩ loopW b102 (args0 args, h)) :=
 ev_body rfl Tryd.func102 rfl Tryd.ntmps102 (by kernel_rfl) rfl c102 rfl rfl rfl ha hb
noncomputable def b103 : Code := bodyOf Tryd.f103
theorem c103 : codeOk Tryd.prog h103 8 b103 = true := by kernel_rfl
theorem e103 {lo : Nat} {args : List V} {h : Heap} (ha : args.length <= 8) (hb : args.all bare = true) :
  E lo 103 args h = fin Tryd.prog [.tmp 4] h.length (evCode ⟨Tryd.prog, E, lo, h.length, h103⟩ loopW b103 (args0 args, h)) :=
 ev_body rfl Tryd.func103 rfl Tryd.ntmps103 (by kernel_rfl) rfl c103 rfl rfl rfl ha hb
noncomputable def b104 : Code := bodyOf Tryd.f104
noncomputable def l104x0 : Code := loopAt b104 0
theorem c104 : codeOk Tryd.prog h104 39 b104 = true := by kernel_rfl
theorem e104 {lo : Nat} {args : List V} {h : Heap} (ha : args.length <= 39) (hb : args.all bare = true) :
  E lo 104 args h = fin Tryd.prog [.tmp 2, .tmp 3] h.length (evCode ⟨Tryd.prog, E, lo, h.length, h104⟩ loopW b104 (args0 args, h)) :=
 ev_body rfl Tryd.func104 rfl Tryd.ntmps104 (by kernel_rfl) rfl c104 rfl rfl rfl ha hb
noncomputable def b105 : Code := bodyOf Tryd.f105
theorem c105 : codeOk Tryd.prog h105 80 b105 = true := by kernel_rfl
/- a method -/
theorem e105 {lo : Nat} {args : List V} {h : Heap} (ha : args.length <= 80) (hb : args.all bare = true) :
  E lo 105 args h = fin Tryd.prog [.tmp 2, .tmp 3] h.length (evCode ⟨Tryd.prog, E, lo, h.length, h105⟩ loopW b105 (args0 args, h)) :=
 ev_body rfl Tryd.func105 rfl Tryd.ntmps105 (by kernel_rfl) rfl c105 rfl rfl rfl ha hb
noncomputable def b108 : Code := bodyOf Tryd.f108
theorem c108 : codeOk Tryd.prog h108 9 b108 = true := by kernel_rfl
theorem e108 {lo : Nat} {args : List V} {h : Heap} (ha : args.length <= 9) (hb : args.all bare = true) :
  E lo 108 args h = fin Tryd.prog [.tmp 2] h.length (evCode ⟨Tryd.prog, E, lo, h.length, h108⟩ loopW b108 (args0 args, h)) :=
 ev_body rfl Tryd.func108 rfl Tryd.ntmps108 (by kernel_rfl) rfl c108 rfl rfl rfl ha hb
noncomputable def b109 : Code := bodyOf Tryd.f109
theorem c109 : codeOk Tryd.prog h109 5 b109 = true := by kernel_rfl
theorem e109 {lo : Nat} {args : List V} {h : Heap} (ha : args.length <= 5) (hb : args.all bare = true) :
  E lo 109 args h = fin Tryd.prog [.cell 2 54] h.length (evCode ⟨Tryd.prog, E, lo, h.length, h109⟩ loopW b109 (args0 args, h)) :=
 ev_body rfl Tryd.func109 rfl Tryd.ntmps109 (by kernel_rfl) rfl c109 rfl rfl rfl ha hb
noncomputable def b110 : Code := bodyOf Tryd.f110
theorem c110 : codeOk Tryd.prog h110 10 b110 = true := by kernel_rfl
theorem e110 {lo : Nat} {args : List V} {h : Heap} (ha : args.length <= 10) (hb : args.all bare = true) :
  E lo 110 args h = fin Tryd.prog [.tmp 2] h.length (evCode ⟨Tryd.prog, E, lo, h.length, h110⟩ loopW b110 (args0 args, h)) :=
 ev_body rfl Tryd.func110 rfl Tryd.ntmps110 (by kernel_rfl) rfl c110 rfl rfl rfl ha hb
noncomputable def b111 : Code := bodyOf Tryd.f111
theorem c111 : codeOk Tryd.prog h111 15 b111 = true := by kernel_rfl
theorem e111 {lo : Nat} {args : List V} {h : Heap} (ha : args.length <= 15) (hb : args.all bare = true) :
  E lo 111 args h = fin Tryd.prog [.tmp 4, .tmp 5] h.length (evCode ⟨Tryd.prog, E, lo, h.length, h111⟩ loopW b111 (args0 args, h)) :=
 ev_body rfl Tryd.func111 rfl Tryd.ntmps111 (by kernel_rfl) rfl c111 rfl rfl rfl ha hb
noncomputable def b112 : Code := bodyOf Tryd.f112
theorem c112 : codeOk Tryd.prog h112 18 b112 = true := by kernel_rfl
theorem e112 {lo : Nat} {args : List V} {h : Heap} (ha : args.length <= 18) (hb : args.all bare = true) :
  E lo 112 args h = fin Tryd.prog [.tmp 4] h.length (evCode ⟨Tryd.prog, E, lo, h.length, h112⟩ loopW b112 (args0 args, h)) :=
 ev_body rfl Tryd.func112 rfl Tryd.ntmps112 (by kernel_rfl) rfl c112 rfl rfl rfl ha hb
noncomputable def b113 : Code := bodyOf Tryd.f113
theorem c113 : codeOk Tryd.prog h113 21 b113 = true := by kernel_rfl
theorem e113 {lo : Nat} {args : List V} {h : Heap} (ha : args.length <= 21) (hb : args.all bare = true) :
  E lo 113 args h = fin Tryd.prog [.tmp 2] h.length (evCode ⟨Tryd.prog, E, lo, h.length, h113⟩ loopW b113 (args0 args, h)) :=
 ev_body rfl Tryd.func113 rfl Tryd.ntmps113 (by kernel_rfl) rfl c113 rfl rfl rfl ha hb
noncomputable def b114 : Code := bodyOf Tryd.f114
noncomputable def l114x0 : Code := loopAt b114 0
theorem c114 : codeOk Tryd.prog h114 12 b114 = true := by kernel_rfl
theorem e114 {lo : Nat} {args : List V} {h : Heap} (ha : args.length <= 12) (hb : args.all bare = true) :
  E lo 114 args h = fin Tryd.prog [.tmp 4] h.length (evCode ⟨Tryd.prog, E, lo, h.length, h114⟩ loopW b114 (args0 args, h)) :=
 ev_body rfl Tryd.func114 rfl Tryd.ntmps114 (by kernel_rfl) rfl c114 rfl rfl rfl ha hb
noncomputable def b115 : Code := bodyOf Tryd.f115
theorem c115 : codeOk Tryd.prog h115 10 b115 = true := by kernel_rfl
theorem e115 {lo : Nat} {args : List V} {h : Heap} (ha : args.length <= 10) (hb : args.all bare = true) :
  E lo 115 args h = fin Tryd.prog [.tmp 2] h.length (evCode ⟨Tryd.prog, E, lo, h.length, h115⟩ loopW b115 (args0 args, h)) :=
 ev_body rfl Tryd.func115 rfl Tryd.ntmps115 (by kernel_rfl) rfl c115 rfl rfl rfl ha hb
end Go.Lift.S9
