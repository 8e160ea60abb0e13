/- Facts of the program that the evaluation asks for: the live slots of each function, its types. Written by a program (gen.py). -/
import Derived.Test.YthjkocamddljiaaDoorRows
import Derived.Lib.DecodeN
import Derived.Lib.Index
import Derived.Test.YthjkocamddljiaaDoorGLd
import Derived.Test.YthjkocamddljiaaDoorGKa
set_option linter.unusedVariables false
set_option linter.unusedSimpArgs false
set_option linter.unusedSectionVars false
set_option maxRecDepth 20000
namespace Go.Lift.Q1
open Go.Proofs
class MX where
 m : Int
instance gtab [MX] : GTab := ⟨fun n => match n with | 0 => some [.v (.int .i64 21), .v (.int .i64 22), .v (.int .i64 19), .v (.int .i64 20), .v (.int .i64 23), .v (.int .i64 24), .v (.int .i64 18), .v (.int .i64 16), .v (.int .i64 17)] | 1 => some [.v (.int .i64 MX.m)] | _ => none⟩
noncomputable def idxP (lo : Nat) (args : List V) (h : Heap) : Option (V × Heap) := match args with
 | [.v (.string s), .v (.int .u8 c)] => some (.v (.int .i64 (Go.Lib.indexByte s.data.toList c.toNat.toUInt8)), h)
 | _ => none
noncomputable def ixP (lo : Nat) (args : List V) (h : Heap) : Option (V × Heap) := match args with
 | [.v (.string s), .v (.string t)] => match t.data.toList with
  | [c] => some (.v (.int .i64 (Go.Lib.indexByte s.data.toList c)), h)
  | _ => if s.size < 4294967281 then some (.v (.int .i64 (Go.Lib.index s.data.toList t.data.toList)), h) else none
 | _ => none
noncomputable def primz0 [MX] : Nat -> Option (Nat -> List V -> Heap -> Option (V × Heap)) := fun n => match n with | 82 => some idxP | 66 => some ixP | _ => none
noncomputable def awkP (lo : Nat) (args : List V) (h : Heap) : Option (V × Heap) := match args with
 | [] => some (.v (.bool true), h)
 | _ => none
noncomputable def primz [MX] : Nat -> Option (Nat -> List V -> Heap -> Option (V × Heap)) := fun n => match n with | 6 => some awkP | 82 => some idxP | 66 => some ixP | _ => none
instance bty : BTy := ⟨[], some 5⟩
@[go_sem] theorem bt_eq : BTy.bt = [] := rfl
@[go_sem] theorem bt_is : (BTy.bt.isEmpty) = true := rfl
@[go_sem] theorem bt_n (n : Nat) : btOf n = none := rfl
@[go_sem] theorem bb_eq : BTy.bb = some 5 := rfl
@[go_sem] theorem bb_self : ((5 : TypeId) == 5) = true := rfl
attribute [go_sem] Tryd.underlying2
@[go_sem] theorem z2 : tsize Tryd.prog 2 = 1 := by kernel_rfl
@[go_sem] theorem k2 : ttag Tryd.prog 2 = some false := by kernel_rfl
@[go_sem] theorem y2 : Tryd.prog.bytesOf 2 = 8 := by kernel_rfl
@[go_sem] theorem s2 : isStr Tryd.prog 2 = false := by kernel_rfl
@[go_sem] theorem j2 : isI32 Tryd.prog 2 = false := by kernel_rfl
@[go_sem] theorem w2 : isU8 Tryd.prog 2 = false := by kernel_rfl
@[go_sem] theorem o2 : tzero Tryd.prog 2 = some [.int .i64 0] := by kernel_rfl
@[go_sem] theorem i2 : (Tryd.prog.info? 2).isSome = true := by kernel_rfl
attribute [go_sem] Tryd.underlying3
@[go_sem] theorem z3 : tsize Tryd.prog 3 = 1 := by kernel_rfl
@[go_sem] theorem k3 : ttag Tryd.prog 3 = some false := by kernel_rfl
@[go_sem] theorem y3 : Tryd.prog.bytesOf 3 = 8 := by kernel_rfl
@[go_sem] theorem s3 : isStr Tryd.prog 3 = false := by kernel_rfl
@[go_sem] theorem j3 : isI32 Tryd.prog 3 = false := by kernel_rfl
@[go_sem] theorem w3 : isU8 Tryd.prog 3 = false := by kernel_rfl
@[go_sem] theorem o3 : tzero Tryd.prog 3 = some [.int .i64 0] := by kernel_rfl
@[go_sem] theorem i3 : (Tryd.prog.info? 3).isSome = true := by kernel_rfl
attribute [go_sem] Tryd.underlying4
@[go_sem] theorem z4 : tsize Tryd.prog 4 = 1 := by kernel_rfl
@[go_sem] theorem k4 : ttag Tryd.prog 4 = some false := by kernel_rfl
@[go_sem] theorem y4 : Tryd.prog.bytesOf 4 = 1 := by kernel_rfl
@[go_sem] theorem s4 : isStr Tryd.prog 4 = false := by kernel_rfl
@[go_sem] theorem j4 : isI32 Tryd.prog 4 = false := by kernel_rfl
@[go_sem] theorem w4 : isU8 Tryd.prog 4 = false := by kernel_rfl
@[go_sem] theorem o4 : tzero Tryd.prog 4 = some [.bool false] := by kernel_rfl
@[go_sem] theorem i4 : (Tryd.prog.info? 4).isSome = true := by kernel_rfl
attribute [go_sem] Tryd.underlying5
@[go_sem] theorem z5 : tsize Tryd.prog 5 = 1 := by kernel_rfl
@[go_sem] theorem k5 : ttag Tryd.prog 5 = some false := by kernel_rfl
@[go_sem] theorem y5 : Tryd.prog.bytesOf 5 = 1 := by kernel_rfl
@[go_sem] theorem s5 : isStr Tryd.prog 5 = false := by kernel_rfl
@[go_sem] theorem j5 : isI32 Tryd.prog 5 = false := by kernel_rfl
@[go_sem] theorem w5 : isU8 Tryd.prog 5 = true := by kernel_rfl
@[go_sem] theorem o5 : tzero Tryd.prog 5 = some [.int .u8 0] := by kernel_rfl
@[go_sem] theorem i5 : (Tryd.prog.info? 5).isSome = true := by kernel_rfl
attribute [go_sem] Tryd.underlying9
@[go_sem] theorem z9 : tsize Tryd.prog 9 = 1 := by kernel_rfl
@[go_sem] theorem k9 : ttag Tryd.prog 9 = some false := by kernel_rfl
@[go_sem] theorem y9 : Tryd.prog.bytesOf 9 = 16 := by kernel_rfl
@[go_sem] theorem s9 : isStr Tryd.prog 9 = true := by kernel_rfl
@[go_sem] theorem j9 : isI32 Tryd.prog 9 = false := by kernel_rfl
@[go_sem] theorem w9 : isU8 Tryd.prog 9 = false := by kernel_rfl
@[go_sem] theorem o9 : tzero Tryd.prog 9 = some [.string ByteArray.empty] := by kernel_rfl
@[go_sem] theorem i9 : (Tryd.prog.info? 9).isSome = true := by kernel_rfl
attribute [go_sem] Tryd.underlying21
@[go_sem] theorem z21 : tsize Tryd.prog 21 = 1 := by kernel_rfl
@[go_sem] theorem k21 : ttag Tryd.prog 21 = some false := by kernel_rfl
@[go_sem] theorem y21 : Tryd.prog.bytesOf 21 = 4 := by kernel_rfl
@[go_sem] theorem s21 : isStr Tryd.prog 21 = false := by kernel_rfl
@[go_sem] theorem j21 : isI32 Tryd.prog 21 = true := by kernel_rfl
@[go_sem] theorem w21 : isU8 Tryd.prog 21 = false := by kernel_rfl
@[go_sem] theorem o21 : tzero Tryd.prog 21 = some [.int .i32 0] := by kernel_rfl
@[go_sem] theorem i21 : (Tryd.prog.info? 21).isSome = true := by kernel_rfl
attribute [go_sem] Tryd.underlying22
@[go_sem] theorem z22 : tsize Tryd.prog 22 = 1 := by kernel_rfl
@[go_sem] theorem k22 : ttag Tryd.prog 22 = some false := by kernel_rfl
@[go_sem] theorem y22 : Tryd.prog.bytesOf 22 = 24 := by kernel_rfl
@[go_sem] theorem s22 : isStr Tryd.prog 22 = false := by kernel_rfl
@[go_sem] theorem j22 : isI32 Tryd.prog 22 = false := by kernel_rfl
@[go_sem] theorem w22 : isU8 Tryd.prog 22 = false := by kernel_rfl
@[go_sem] theorem o22 : tzero Tryd.prog 22 = some [.slice none 0 0] := by kernel_rfl
@[go_sem] theorem i22 : (Tryd.prog.info? 22).isSome = true := by kernel_rfl
attribute [go_sem] Tryd.underlying24
@[go_sem] theorem z24 : tsize Tryd.prog 24 = 1 := by kernel_rfl
@[go_sem] theorem k24 : ttag Tryd.prog 24 = some false := by kernel_rfl
@[go_sem] theorem y24 : Tryd.prog.bytesOf 24 = 24 := by kernel_rfl
@[go_sem] theorem s24 : isStr Tryd.prog 24 = false := by kernel_rfl
@[go_sem] theorem j24 : isI32 Tryd.prog 24 = false := by kernel_rfl
@[go_sem] theorem w24 : isU8 Tryd.prog 24 = false := by kernel_rfl
@[go_sem] theorem o24 : tzero Tryd.prog 24 = some [.slice none 0 0] := by kernel_rfl
@[go_sem] theorem i24 : (Tryd.prog.info? 24).isSome = true := by kernel_rfl
attribute [go_sem] Tryd.underlying25
@[go_sem] theorem z25 : tsize Tryd.prog 25 = 1 := by kernel_rfl
@[go_sem] theorem k25 : ttag Tryd.prog 25 = some false := by kernel_rfl
@[go_sem] theorem y25 : Tryd.prog.bytesOf 25 = 8 := by kernel_rfl
@[go_sem] theorem s25 : isStr Tryd.prog 25 = false := by kernel_rfl
@[go_sem] theorem j25 : isI32 Tryd.prog 25 = false := by kernel_rfl
@[go_sem] theorem w25 : isU8 Tryd.prog 25 = false := by kernel_rfl
@[go_sem] theorem o25 : tzero Tryd.prog 25 = some [.int .i64 0] := by kernel_rfl
@[go_sem] theorem i25 : (Tryd.prog.info? 25).isSome = true := by kernel_rfl
attribute [go_sem] Tryd.underlying29
@[go_sem] theorem z29 : tsize Tryd.prog 29 = 1 := by kernel_rfl
@[go_sem] theorem k29 : ttag Tryd.prog 29 = some false := by kernel_rfl
@[go_sem] theorem y29 : Tryd.prog.bytesOf 29 = 24 := by kernel_rfl
@[go_sem] theorem s29 : isStr Tryd.prog 29 = false := by kernel_rfl
@[go_sem] theorem j29 : isI32 Tryd.prog 29 = false := by kernel_rfl
@[go_sem] theorem w29 : isU8 Tryd.prog 29 = false := by kernel_rfl
@[go_sem] theorem o29 : tzero Tryd.prog 29 = some [.slice none 0 0] := by kernel_rfl
@[go_sem] theorem i29 : (Tryd.prog.info? 29).isSome = true := by kernel_rfl
attribute [go_sem] Tryd.underlying37
@[go_sem] theorem z37 : tsize Tryd.prog 37 = 1 := by kernel_rfl
@[go_sem] theorem k37 : ttag Tryd.prog 37 = some false := by kernel_rfl
@[go_sem] theorem y37 : Tryd.prog.bytesOf 37 = 24 := by kernel_rfl
@[go_sem] theorem s37 : isStr Tryd.prog 37 = false := by kernel_rfl
@[go_sem] theorem j37 : isI32 Tryd.prog 37 = false := by kernel_rfl
@[go_sem] theorem w37 : isU8 Tryd.prog 37 = false := by kernel_rfl
@[go_sem] theorem o37 : tzero Tryd.prog 37 = some [.slice none 0 0] := by kernel_rfl
@[go_sem] theorem i37 : (Tryd.prog.info? 37).isSome = true := by kernel_rfl
attribute [go_sem] Tryd.underlying39
@[go_sem] theorem z39 : tsize Tryd.prog 39 = 1 := by kernel_rfl
@[go_sem] theorem k39 : ttag Tryd.prog 39 = some true := by kernel_rfl
@[go_sem] theorem y39 : Tryd.prog.bytesOf 39 = 24 := by kernel_rfl
@[go_sem] theorem s39 : isStr Tryd.prog 39 = false := by kernel_rfl
@[go_sem] theorem j39 : isI32 Tryd.prog 39 = false := by kernel_rfl
@[go_sem] theorem w39 : isU8 Tryd.prog 39 = false := by kernel_rfl
@[go_sem] theorem o39 : tzero Tryd.prog 39 = some [.slice none 0 0] := by kernel_rfl
@[go_sem] theorem i39 : (Tryd.prog.info? 39).isSome = true := by kernel_rfl
@[go_sem] theorem x39 : structOk Tryd.prog 39 = true := by kernel_rfl
@[go_sem] theorem g39x0 : fieldOff Tryd.prog 39 0 = some (0, 37) := by kernel_rfl
attribute [go_sem] Tryd.underlying40
@[go_sem] theorem z40 : tsize Tryd.prog 40 = 1 := by kernel_rfl
@[go_sem] theorem k40 : ttag Tryd.prog 40 = some false := by kernel_rfl
@[go_sem] theorem y40 : Tryd.prog.bytesOf 40 = 24 := by kernel_rfl
@[go_sem] theorem s40 : isStr Tryd.prog 40 = false := by kernel_rfl
@[go_sem] theorem j40 : isI32 Tryd.prog 40 = false := by kernel_rfl
@[go_sem] theorem w40 : isU8 Tryd.prog 40 = false := by kernel_rfl
@[go_sem] theorem o40 : tzero Tryd.prog 40 = some [.slice none 0 0] := by kernel_rfl
@[go_sem] theorem i40 : (Tryd.prog.info? 40).isSome = true := by kernel_rfl
attribute [go_sem] Tryd.underlying42
@[go_sem] theorem z42 : tsize Tryd.prog 42 = 2 := by kernel_rfl
@[go_sem] theorem k42 : ttag Tryd.prog 42 = some true := by kernel_rfl
@[go_sem] theorem y42 : Tryd.prog.bytesOf 42 = 32 := by kernel_rfl
@[go_sem] theorem s42 : isStr Tryd.prog 42 = false := by kernel_rfl
@[go_sem] theorem j42 : isI32 Tryd.prog 42 = false := by kernel_rfl
@[go_sem] theorem w42 : isU8 Tryd.prog 42 = false := by kernel_rfl
@[go_sem] theorem o42 : tzero Tryd.prog 42 = some [.int .i64 0, .slice none 0 0] := by kernel_rfl
@[go_sem] theorem i42 : (Tryd.prog.info? 42).isSome = true := by kernel_rfl
@[go_sem] theorem x42 : structOk Tryd.prog 42 = true := by kernel_rfl
@[go_sem] theorem g42x0 : fieldOff Tryd.prog 42 0 = some (0, 3) := by kernel_rfl
@[go_sem] theorem g42x1 : fieldOff Tryd.prog 42 1 = some (1, 40) := by kernel_rfl
attribute [go_sem] Tryd.underlying44
@[go_sem] theorem z44 : tsize Tryd.prog 44 = 2 := by kernel_rfl
@[go_sem] theorem k44 : ttag Tryd.prog 44 = some true := by kernel_rfl
@[go_sem] theorem y44 : Tryd.prog.bytesOf 44 = 16 := by kernel_rfl
@[go_sem] theorem s44 : isStr Tryd.prog 44 = false := by kernel_rfl
@[go_sem] theorem j44 : isI32 Tryd.prog 44 = false := by kernel_rfl
@[go_sem] theorem w44 : isU8 Tryd.prog 44 = false := by kernel_rfl
@[go_sem] theorem o44 : tzero Tryd.prog 44 = some [.int .i64 0, .int .i64 0] := by kernel_rfl
@[go_sem] theorem i44 : (Tryd.prog.info? 44).isSome = true := by kernel_rfl
@[go_sem] theorem x44 : structOk Tryd.prog 44 = true := by kernel_rfl
@[go_sem] theorem g44x0 : fieldOff Tryd.prog 44 0 = some (0, 2) := by kernel_rfl
@[go_sem] theorem g44x1 : fieldOff Tryd.prog 44 1 = some (1, 2) := by kernel_rfl
attribute [go_sem] Tryd.underlying46
@[go_sem] theorem z46 : tsize Tryd.prog 46 = 6 := by kernel_rfl
@[go_sem] theorem k46 : ttag Tryd.prog 46 = some true := by kernel_rfl
@[go_sem] theorem y46 : Tryd.prog.bytesOf 46 = 48 := by kernel_rfl
@[go_sem] theorem s46 : isStr Tryd.prog 46 = false := by kernel_rfl
@[go_sem] theorem j46 : isI32 Tryd.prog 46 = false := by kernel_rfl
@[go_sem] theorem w46 : isU8 Tryd.prog 46 = false := by kernel_rfl
@[go_sem] theorem o46 : tzero Tryd.prog 46 = some [.int .i64 0, .string ByteArray.empty, .int .i64 0, .int .i64 0, .bool false, .bool false] := by kernel_rfl
@[go_sem] theorem i46 : (Tryd.prog.info? 46).isSome = true := by kernel_rfl
@[go_sem] theorem x46 : structOk Tryd.prog 46 = true := by kernel_rfl
@[go_sem] theorem g46x0 : fieldOff Tryd.prog 46 0 = some (0, 3) := by kernel_rfl
@[go_sem] theorem g46x1 : fieldOff Tryd.prog 46 1 = some (1, 9) := by kernel_rfl
@[go_sem] theorem g46x2 : fieldOff Tryd.prog 46 2 = some (2, 44) := by kernel_rfl
@[go_sem] theorem g46x3 : fieldOff Tryd.prog 46 3 = some (4, 4) := by kernel_rfl
@[go_sem] theorem g46x4 : fieldOff Tryd.prog 46 4 = some (5, 4) := by kernel_rfl
attribute [go_sem] Tryd.underlying48
@[go_sem] theorem z48 : tsize Tryd.prog 48 = 7 := by kernel_rfl
@[go_sem] theorem k48 : ttag Tryd.prog 48 = some true := by kernel_rfl
@[go_sem] theorem y48 : Tryd.prog.bytesOf 48 = 72 := by kernel_rfl
@[go_sem] theorem s48 : isStr Tryd.prog 48 = false := by kernel_rfl
@[go_sem] theorem j48 : isI32 Tryd.prog 48 = false := by kernel_rfl
@[go_sem] theorem w48 : isU8 Tryd.prog 48 = false := by kernel_rfl
@[go_sem] theorem o48 : tzero Tryd.prog 48 = some [.int .i64 0, .string ByteArray.empty, .int .i64 0, .int .i64 0, .bool false, .bool false, .slice none 0 0] := by kernel_rfl
@[go_sem] theorem i48 : (Tryd.prog.info? 48).isSome = true := by kernel_rfl
@[go_sem] theorem x48 : structOk Tryd.prog 48 = true := by kernel_rfl
@[go_sem] theorem g48x0 : fieldOff Tryd.prog 48 0 = some (0, 46) := by kernel_rfl
@[go_sem] theorem g48x1 : fieldOff Tryd.prog 48 1 = some (6, 22) := by kernel_rfl
attribute [go_sem] Tryd.underlying51
@[go_sem] theorem z51 : tsize Tryd.prog 51 = 8 := by kernel_rfl
@[go_sem] theorem k51 : ttag Tryd.prog 51 = some true := by kernel_rfl
@[go_sem] theorem y51 : Tryd.prog.bytesOf 51 = 96 := by kernel_rfl
@[go_sem] theorem s51 : isStr Tryd.prog 51 = false := by kernel_rfl
@[go_sem] theorem j51 : isI32 Tryd.prog 51 = false := by kernel_rfl
@[go_sem] theorem w51 : isU8 Tryd.prog 51 = false := by kernel_rfl
@[go_sem] theorem o51 : tzero Tryd.prog 51 = some [.int .i64 0, .string ByteArray.empty, .int .i64 0, .string ByteArray.empty, .bool false, .slice none 0 0, .int .i64 0, .int .i64 0] := by kernel_rfl
@[go_sem] theorem i51 : (Tryd.prog.info? 51).isSome = true := by kernel_rfl
@[go_sem] theorem x51 : structOk Tryd.prog 51 = true := by kernel_rfl
@[go_sem] theorem g51x0 : fieldOff Tryd.prog 51 0 = some (0, 3) := by kernel_rfl
@[go_sem] theorem g51x1 : fieldOff Tryd.prog 51 1 = some (1, 9) := by kernel_rfl
@[go_sem] theorem g51x2 : fieldOff Tryd.prog 51 2 = some (2, 3) := by kernel_rfl
@[go_sem] theorem g51x3 : fieldOff Tryd.prog 51 3 = some (3, 9) := by kernel_rfl
@[go_sem] theorem g51x4 : fieldOff Tryd.prog 51 4 = some (4, 4) := by kernel_rfl
@[go_sem] theorem g51x5 : fieldOff Tryd.prog 51 5 = some (5, 24) := by kernel_rfl
@[go_sem] theorem g51x6 : fieldOff Tryd.prog 51 6 = some (6, 3) := by kernel_rfl
@[go_sem] theorem g51x7 : fieldOff Tryd.prog 51 7 = some (7, 3) := by kernel_rfl
attribute [go_sem] Tryd.underlying54
@[go_sem] theorem z54 : tsize Tryd.prog 54 = 2 := by kernel_rfl
@[go_sem] theorem k54 : ttag Tryd.prog 54 = some true := by kernel_rfl
@[go_sem] theorem y54 : Tryd.prog.bytesOf 54 = 32 := by kernel_rfl
@[go_sem] theorem s54 : isStr Tryd.prog 54 = false := by kernel_rfl
@[go_sem] theorem j54 : isI32 Tryd.prog 54 = false := by kernel_rfl
@[go_sem] theorem w54 : isU8 Tryd.prog 54 = false := by kernel_rfl
@[go_sem] theorem o54 : tzero Tryd.prog 54 = some [.slice none 0 0, .int .i64 0] := by kernel_rfl
@[go_sem] theorem i54 : (Tryd.prog.info? 54).isSome = true := by kernel_rfl
@[go_sem] theorem x54 : structOk Tryd.prog 54 = true := by kernel_rfl
@[go_sem] theorem g54x0 : fieldOff Tryd.prog 54 0 = some (0, 22) := by kernel_rfl
@[go_sem] theorem g54x1 : fieldOff Tryd.prog 54 1 = some (1, 3) := by kernel_rfl
attribute [go_sem] Tryd.underlying59
@[go_sem] theorem z59 : tsize Tryd.prog 59 = 1 := by kernel_rfl
@[go_sem] theorem k59 : ttag Tryd.prog 59 = some false := by kernel_rfl
@[go_sem] theorem y59 : Tryd.prog.bytesOf 59 = 24 := by kernel_rfl
@[go_sem] theorem s59 : isStr Tryd.prog 59 = false := by kernel_rfl
@[go_sem] theorem j59 : isI32 Tryd.prog 59 = false := by kernel_rfl
@[go_sem] theorem w59 : isU8 Tryd.prog 59 = false := by kernel_rfl
@[go_sem] theorem o59 : tzero Tryd.prog 59 = some [.slice none 0 0] := by kernel_rfl
@[go_sem] theorem i59 : (Tryd.prog.info? 59).isSome = true := by kernel_rfl
attribute [go_sem] Tryd.underlying61
@[go_sem] theorem z61 : tsize Tryd.prog 61 = 1 := by kernel_rfl
@[go_sem] theorem k61 : ttag Tryd.prog 61 = some false := by kernel_rfl
@[go_sem] theorem y61 : Tryd.prog.bytesOf 61 = 24 := by kernel_rfl
@[go_sem] theorem s61 : isStr Tryd.prog 61 = false := by kernel_rfl
@[go_sem] theorem j61 : isI32 Tryd.prog 61 = false := by kernel_rfl
@[go_sem] theorem w61 : isU8 Tryd.prog 61 = false := by kernel_rfl
@[go_sem] theorem o61 : tzero Tryd.prog 61 = some [.slice none 0 0] := by kernel_rfl
@[go_sem] theorem i61 : (Tryd.prog.info? 61).isSome = true := by kernel_rfl
attribute [go_sem] Tryd.underlying63
@[go_sem] theorem z63 : tsize Tryd.prog 63 = 1 := by kernel_rfl
@[go_sem] theorem k63 : ttag Tryd.prog 63 = some false := by kernel_rfl
@[go_sem] theorem y63 : Tryd.prog.bytesOf 63 = 8 := by kernel_rfl
@[go_sem] theorem s63 : isStr Tryd.prog 63 = false := by kernel_rfl
@[go_sem] theorem j63 : isI32 Tryd.prog 63 = false := by kernel_rfl
@[go_sem] theorem w63 : isU8 Tryd.prog 63 = false := by kernel_rfl
@[go_sem] theorem i63 : (Tryd.prog.info? 63).isSome = true := by kernel_rfl
attribute [go_sem] Tryd.underlying65
@[go_sem] theorem z65 : tsize Tryd.prog 65 = 1 := by kernel_rfl
@[go_sem] theorem k65 : ttag Tryd.prog 65 = some false := by kernel_rfl
@[go_sem] theorem y65 : Tryd.prog.bytesOf 65 = 8 := by kernel_rfl
@[go_sem] theorem s65 : isStr Tryd.prog 65 = false := by kernel_rfl
@[go_sem] theorem j65 : isI32 Tryd.prog 65 = false := by kernel_rfl
@[go_sem] theorem w65 : isU8 Tryd.prog 65 = false := by kernel_rfl
@[go_sem] theorem i65 : (Tryd.prog.info? 65).isSome = true := by kernel_rfl
attribute [go_sem] Tryd.underlying69
@[go_sem] theorem z69 : tsize Tryd.prog 69 = 7 := by kernel_rfl
@[go_sem] theorem k69 : ttag Tryd.prog 69 = some true := by kernel_rfl
@[go_sem] theorem y69 : Tryd.prog.bytesOf 69 = 72 := by kernel_rfl
@[go_sem] theorem s69 : isStr Tryd.prog 69 = false := by kernel_rfl
@[go_sem] theorem j69 : isI32 Tryd.prog 69 = false := by kernel_rfl
@[go_sem] theorem w69 : isU8 Tryd.prog 69 = false := by kernel_rfl
@[go_sem] theorem o69 : tzero Tryd.prog 69 = some [.int .i64 0, .string ByteArray.empty, .int .i64 0, .int .i64 0, .bool false, .bool false, .slice none 0 0] := by kernel_rfl
@[go_sem] theorem i69 : (Tryd.prog.info? 69).isSome = true := by kernel_rfl
@[go_sem] theorem x69 : structOk Tryd.prog 69 = true := by kernel_rfl
@[go_sem] theorem g69x0 : fieldOff Tryd.prog 69 0 = some (0, 46) := by kernel_rfl
@[go_sem] theorem g69x1 : fieldOff Tryd.prog 69 1 = some (6, 22) := by kernel_rfl
attribute [go_sem] Tryd.underlying70
@[go_sem] theorem z70 : tsize Tryd.prog 70 = 1 := by kernel_rfl
@[go_sem] theorem k70 : ttag Tryd.prog 70 = some false := by kernel_rfl
@[go_sem] theorem y70 : Tryd.prog.bytesOf 70 = 24 := by kernel_rfl
@[go_sem] theorem s70 : isStr Tryd.prog 70 = false := by kernel_rfl
@[go_sem] theorem j70 : isI32 Tryd.prog 70 = false := by kernel_rfl
@[go_sem] theorem w70 : isU8 Tryd.prog 70 = false := by kernel_rfl
@[go_sem] theorem o70 : tzero Tryd.prog 70 = some [.slice none 0 0] := by kernel_rfl
@[go_sem] theorem i70 : (Tryd.prog.info? 70).isSome = true := by kernel_rfl
attribute [go_sem] Tryd.underlying73
@[go_sem] theorem z73 : tsize Tryd.prog 73 = 1 := by kernel_rfl
@[go_sem] theorem k73 : ttag Tryd.prog 73 = some false := by kernel_rfl
@[go_sem] theorem y73 : Tryd.prog.bytesOf 73 = 24 := by kernel_rfl
@[go_sem] theorem s73 : isStr Tryd.prog 73 = false := by kernel_rfl
@[go_sem] theorem j73 : isI32 Tryd.prog 73 = false := by kernel_rfl
@[go_sem] theorem w73 : isU8 Tryd.prog 73 = false := by kernel_rfl
@[go_sem] theorem o73 : tzero Tryd.prog 73 = some [.slice none 0 0] := by kernel_rfl
@[go_sem] theorem i73 : (Tryd.prog.info? 73).isSome = true := by kernel_rfl
attribute [go_sem] Tryd.underlying81
@[go_sem] theorem z81 : tsize Tryd.prog 81 = 1 := by kernel_rfl
@[go_sem] theorem k81 : ttag Tryd.prog 81 = some false := by kernel_rfl
@[go_sem] theorem y81 : Tryd.prog.bytesOf 81 = 8 := by kernel_rfl
@[go_sem] theorem s81 : isStr Tryd.prog 81 = false := by kernel_rfl
@[go_sem] theorem j81 : isI32 Tryd.prog 81 = false := by kernel_rfl
@[go_sem] theorem w81 : isU8 Tryd.prog 81 = false := by kernel_rfl
@[go_sem] theorem i81 : (Tryd.prog.info? 81).isSome = true := by kernel_rfl
attribute [go_sem] Tryd.underlying83
@[go_sem] theorem z83 : tsize Tryd.prog 83 = 2 := by kernel_rfl
@[go_sem] theorem k83 : ttag Tryd.prog 83 = some true := by kernel_rfl
@[go_sem] theorem y83 : Tryd.prog.bytesOf 83 = 32 := by kernel_rfl
@[go_sem] theorem s83 : isStr Tryd.prog 83 = false := by kernel_rfl
@[go_sem] theorem j83 : isI32 Tryd.prog 83 = false := by kernel_rfl
@[go_sem] theorem w83 : isU8 Tryd.prog 83 = false := by kernel_rfl
@[go_sem] theorem o83 : tzero Tryd.prog 83 = some [.slice none 0 0, .int .i64 0] := by kernel_rfl
@[go_sem] theorem i83 : (Tryd.prog.info? 83).isSome = true := by kernel_rfl
@[go_sem] theorem x83 : structOk Tryd.prog 83 = true := by kernel_rfl
@[go_sem] theorem g83x0 : fieldOff Tryd.prog 83 0 = some (0, 73) := by kernel_rfl
@[go_sem] theorem g83x1 : fieldOff Tryd.prog 83 1 = some (1, 3) := by kernel_rfl
attribute [go_sem] Tryd.underlying92
@[go_sem] theorem z92 : tsize Tryd.prog 92 = 9 := by kernel_rfl
@[go_sem] theorem k92 : ttag Tryd.prog 92 = some true := by kernel_rfl
@[go_sem] theorem y92 : Tryd.prog.bytesOf 92 = 72 := by kernel_rfl
@[go_sem] theorem s92 : isStr Tryd.prog 92 = false := by kernel_rfl
@[go_sem] theorem j92 : isI32 Tryd.prog 92 = false := by kernel_rfl
@[go_sem] theorem w92 : isU8 Tryd.prog 92 = false := by kernel_rfl
@[go_sem] theorem o92 : tzero Tryd.prog 92 = some [.int .i64 0, .int .i64 0, .int .i64 0, .int .i64 0, .int .i64 0, .int .i64 0, .int .i64 0, .int .i64 0, .int .i64 0] := by kernel_rfl
@[go_sem] theorem i92 : (Tryd.prog.info? 92).isSome = true := by kernel_rfl
attribute [go_sem] Tryd.underlying101
@[go_sem] theorem z101 : tsize Tryd.prog 101 = 1 := by kernel_rfl
@[go_sem] theorem k101 : ttag Tryd.prog 101 = some false := by kernel_rfl
@[go_sem] theorem y101 : Tryd.prog.bytesOf 101 = 8 := by kernel_rfl
@[go_sem] theorem s101 : isStr Tryd.prog 101 = false := by kernel_rfl
@[go_sem] theorem j101 : isI32 Tryd.prog 101 = false := by kernel_rfl
@[go_sem] theorem w101 : isU8 Tryd.prog 101 = false := by kernel_rfl
@[go_sem] theorem i101 : (Tryd.prog.info? 101).isSome = true := by kernel_rfl
attribute [go_sem] Tryd.underlying113
@[go_sem] theorem z113 : tsize Tryd.prog 113 = 1 := by kernel_rfl
@[go_sem] theorem k113 : ttag Tryd.prog 113 = some false := by kernel_rfl
@[go_sem] theorem y113 : Tryd.prog.bytesOf 113 = 8 := by kernel_rfl
@[go_sem] theorem s113 : isStr Tryd.prog 113 = false := by kernel_rfl
@[go_sem] theorem j113 : isI32 Tryd.prog 113 = false := by kernel_rfl
@[go_sem] theorem w113 : isU8 Tryd.prog 113 = false := by kernel_rfl
@[go_sem] theorem o113 : tzero Tryd.prog 113 = some [.int .u64 0] := by kernel_rfl
@[go_sem] theorem i113 : (Tryd.prog.info? 113).isSome = true := by kernel_rfl
attribute [go_sem] Tryd.underlying132
@[go_sem] theorem z132 : tsize Tryd.prog 132 = 1 := by kernel_rfl
@[go_sem] theorem k132 : ttag Tryd.prog 132 = some false := by kernel_rfl
@[go_sem] theorem y132 : Tryd.prog.bytesOf 132 = 8 := by kernel_rfl
@[go_sem] theorem s132 : isStr Tryd.prog 132 = false := by kernel_rfl
@[go_sem] theorem j132 : isI32 Tryd.prog 132 = false := by kernel_rfl
@[go_sem] theorem w132 : isU8 Tryd.prog 132 = false := by kernel_rfl
@[go_sem] theorem o132 : tzero Tryd.prog 132 = some [.int .u64 0] := by kernel_rfl
@[go_sem] theorem i132 : (Tryd.prog.info? 132).isSome = true := by kernel_rfl
@[go_sem] def h3a : Nat -> Option (List Nat) := (fun id => match id with | 0 => some [0] | 1 => some [0, 15] | 2 => some [4] | 3 => some [2] | 4 => some [0, 5, 6] | 5 => some [0, 5, 6, 7] | 6 => some [0, 5, 6, 7, 8] | 7 => some [5, 6, 7, 8, 32, 33, 34] | 8 => some [5, 6, 7, 8, 32, 33, 34, 35] | 9 => some [5, 6, 7, 8, 10, 32, 33, 34] | 10 => some [5, 6, 7, 8, 11, 12, 32, 33, 34] | 11 => some [5, 6, 7, 8, 11, 32, 33, 34, 49] | 12 => some [5, 6, 7, 8, 11, 32, 33, 34, 49] | 13 => some [5, 6, 7, 8, 32, 33, 34] | 14 => some [5, 6, 7, 8, 32, 33, 34] | 15 => some [5, 7, 8, 57] | 16 => some [2] | 17 => some [2] | _ => none)
def h3 : Hint := ⟨h3a, (fun _ => none), (fun _ => none), [7], false, (fun _ => none), fun _ => 0, 0, false, (fun _ => none)⟩
@[go_sem] theorem h3x : h3.mix = (fun _ => none) := rfl
@[go_sem] theorem h3l : h3.live = h3a := rfl
@[go_sem] theorem h3o : h3.mode = fun _ => 0 := rfl
@[go_sem] theorem h3k : h3.keep = (fun _ => none) := rfl
@[go_sem] theorem h3t : h3.tail = (fun _ => none) := rfl
@[go_sem] theorem h3v : h3.vars = [7] := rfl
@[go_sem] theorem h3m : h3.mutc = false := rfl
def HQ (a : Nat -> Option (List Nat)) : Hint := ⟨a, (fun _ => none), (fun _ => none), [], false, (fun _ => none), fun _ => 0, 0, false, (fun _ => none)⟩
@[go_sem] theorem HQe (a : Nat -> Option (List Nat)) : (HQ a).late = (fun _ => none) := rfl
@[go_sem] theorem HQx (a : Nat -> Option (List Nat)) : (HQ a).mix = (fun _ => none) := rfl
@[go_sem] theorem HQl (a : Nat -> Option (List Nat)) : (HQ a).live = a := rfl
@[go_sem] theorem HQo (a : Nat -> Option (List Nat)) : (HQ a).mode = fun _ => 0 := rfl
@[go_sem] theorem HQk (a : Nat -> Option (List Nat)) : (HQ a).keep = (fun _ => none) := rfl
@[go_sem] theorem HQt (a : Nat -> Option (List Nat)) : (HQ a).tail = (fun _ => none) := rfl
@[go_sem] theorem HQv (a : Nat -> Option (List Nat)) : (HQ a).vars = [] := rfl
@[go_sem] theorem HQm (a : Nat -> Option (List Nat)) : (HQ a).mutc = false := rfl
@[go_sem] def h4a : Nat -> Option (List Nat) := (fun id => match id with | 0 => some [0] | 1 => some [2] | _ => none)
abbrev h4 : Hint := HQ h4a
@[go_sem] def h5a : Nat -> Option (List Nat) := (fun id => match id with | 0 => some [0] | 1 => some [0, 8] | 2 => some [2, 3] | 3 => some [4, 5] | 4 => some [4, 20] | 5 => some [2, 3] | 6 => some [2, 3] | _ => none)
abbrev h5 : Hint := HQ h5a
@[go_sem] def h6a : Nat -> Option (List Nat) := (fun id => match id with | 0 => some [] | 1 => some [1, 2] | 2 => some [0] | _ => none)
abbrev h6 : Hint := HQ h6a
@[go_sem] def h7a : Nat -> Option (List Nat) := (fun id => match id with | 0 => some [0] | 1 => some [0, 3] | 2 => some [0, 3, 4] | 3 => some [0, 3, 4, 7, 8, 9] | 4 => some [0, 3, 4, 7, 8, 9, 10] | 5 => some [0, 3, 4, 5, 6, 7, 8, 9] | 6 => some [0, 3, 4, 5, 7, 8, 9, 17] | 7 => some [0, 3, 5, 7, 8, 9] | 8 => some [0, 3, 4, 5, 7, 8, 9, 17] | 9 => some [0, 3, 4, 7, 8, 9] | 10 => some [2] | _ => none)
def h7 : Hint := ⟨h7a, (fun id => match id with | 9 => some 0 | _ => none), (fun _ => none), [3], false, (fun _ => none), fun _ => 0, 0, false, (fun _ => none)⟩
@[go_sem] theorem h7x : h7.mix = (fun _ => none) := rfl
@[go_sem] theorem h7l : h7.live = h7a := rfl
@[go_sem] theorem h7o : h7.mode = fun _ => 0 := rfl
@[go_sem] theorem h7k : h7.keep = (fun id => match id with | 9 => some 0 | _ => none) := rfl
@[go_sem] theorem h7t : h7.tail = (fun _ => none) := rfl
@[go_sem] theorem h7v : h7.vars = [3] := rfl
@[go_sem] theorem h7m : h7.mutc = false := rfl
@[go_sem] def h8a : Nat -> Option (List Nat) := (fun id => match id with | 0 => some [0, 1] | 1 => some [0, 1, 16] | 2 => some [4] | 3 => some [0, 1, 18, 19] | 4 => some [0, 1, 18, 19, 20] | 5 => some [0, 1, 5, 18, 19] | 6 => some [0, 1, 5, 18, 19, 34] | 7 => some [4] | 8 => some [0, 1, 5, 18, 19, 39, 40, 41] | 9 => some [0, 1, 5, 18, 19, 39, 40, 41, 42] | 10 => some [0, 1, 5, 6, 7, 18, 19, 39, 40, 41] | 11 => some [0, 1, 5, 7, 8, 18, 19, 39, 40, 41] | 12 => some [0, 1, 5, 7, 8, 18, 19, 39, 40, 41, 67] | 13 => some [4] | 14 => some [0, 1, 5, 8, 18, 19, 39, 40, 41, 69, 70, 71] | 15 => some [0, 1, 5, 8, 18, 19, 39, 40, 41, 69, 70, 71, 72] | 16 => some [0, 1, 5, 8, 9, 10, 18, 19, 39, 40, 41, 69, 70, 71] | 17 => some [0, 1, 5, 8, 10, 11, 18, 19, 39, 40, 41, 69, 70, 71] | 18 => some [0, 1, 5, 8, 18, 19, 39, 40, 41, 69, 70, 71, 135] | 19 => some [4] | 20 => some [0, 1, 5, 8, 18, 19, 39, 40, 41, 69, 70, 71] | 21 => some [0, 1, 5, 18, 19, 39, 40, 41] | 22 => some [0, 1, 18, 19] | 23 => some [4] | _ => none)
def h8 : Hint := ⟨h8a, (fun id => match id with | 7 => some 0 | 13 => some 0 | 18 => some 2 | 19 => some 0 | 21 => some 0 | _ => none), (fun id => match id with | 6 => some 13 | _ => none), [], false, (fun _ => none), fun _ => 0, 0, false, (fun _ => none)⟩
@[go_sem] theorem h8e : h8.late = (fun _ => none) := rfl
@[go_sem] theorem h8x : h8.mix = (fun _ => none) := rfl
@[go_sem] theorem h8l : h8.live = h8a := rfl
@[go_sem] theorem h8o : h8.mode = fun _ => 0 := rfl
@[go_sem] theorem h8k : h8.keep = (fun id => match id with | 7 => some 0 | 13 => some 0 | 18 => some 2 | 19 => some 0 | 21 => some 0 | _ => none) := rfl
@[go_sem] theorem h8t : h8.tail = (fun id => match id with | 6 => some 13 | _ => none) := rfl
@[go_sem] theorem h8v : h8.vars = [] := rfl
@[go_sem] theorem h8m : h8.mutc = false := rfl
@[go_sem] def h9a : Nat -> Option (List Nat) := (fun id => match id with | 0 => some [0, 1] | 1 => some [1, 7, 8, 9] | 2 => some [1, 7, 8, 9, 10] | 3 => some [1, 6, 7, 8, 9] | 4 => some [1, 6, 7, 8, 9, 22] | 5 => some [4] | 6 => some [1, 6, 7, 8, 9, 27] | 7 => some [1, 7, 8, 9, 31] | 8 => some [4] | 9 => some [1, 7, 8, 9, 41] | 10 => some [4] | 11 => some [1, 7, 8, 9] | 12 => some [4] | _ => none)
def h9 : Hint := ⟨h9a, (fun id => match id with | 11 => some 0 | _ => none), (fun _ => none), [], false, (fun _ => none), fun _ => 0, 0, false, (fun _ => none)⟩
@[go_sem] theorem h9x : h9.mix = (fun _ => none) := rfl
@[go_sem] theorem h9l : h9.live = h9a := rfl
@[go_sem] theorem h9o : h9.mode = fun _ => 0 := rfl
@[go_sem] theorem h9k : h9.keep = (fun id => match id with | 11 => some 0 | _ => none) := rfl
@[go_sem] theorem h9t : h9.tail = (fun _ => none) := rfl
@[go_sem] theorem h9v : h9.vars = [] := rfl
@[go_sem] theorem h9m : h9.mutc = false := rfl
@[go_sem] def h10a : Nat -> Option (List Nat) := (fun id => match id with | 0 => some [0] | 1 => some [2] | _ => none)
abbrev h10 : Hint := HQ h10a
@[go_sem] def h11a : Nat -> Option (List Nat) := (fun id => match id with | 0 => some [0] | 1 => some [0, 4] | 2 => some [4, 11, 12, 13] | 3 => some [4, 11, 12, 13, 14] | 4 => some [4, 6, 11, 12, 13] | 5 => some [4, 7, 11, 12, 13] | 6 => some [4, 8, 9, 11, 12, 13] | 7 => some [4, 8, 11, 12, 13, 24] | 8 => some [2, 3] | 9 => some [4, 11, 12, 13] | 10 => some [4, 11, 12, 13] | 11 => some [2, 3] | _ => none)
def h11 : Hint := ⟨h11a, (fun id => match id with | 8 => some 0 | 10 => some 0 | _ => none), (fun _ => none), [4], false, (fun _ => none), fun _ => 0, 0, false, (fun _ => none)⟩
@[go_sem] theorem h11x : h11.mix = (fun _ => none) := rfl
@[go_sem] theorem h11l : h11.live = h11a := rfl
@[go_sem] theorem h11o : h11.mode = fun _ => 0 := rfl
@[go_sem] theorem h11k : h11.keep = (fun id => match id with | 8 => some 0 | 10 => some 0 | _ => none) := rfl
@[go_sem] theorem h11t : h11.tail = (fun _ => none) := rfl
@[go_sem] theorem h11v : h11.vars = [4] := rfl
@[go_sem] theorem h11m : h11.mutc = false := rfl
@[go_sem] def h12a : Nat -> Option (List Nat) := (fun id => match id with | 0 => some [0] | 1 => some [2] | _ => none)
abbrev h12 : Hint := HQ h12a
@[go_sem] def h13a : Nat -> Option (List Nat) := (fun id => match id with | 0 => some [0] | 1 => some [2] | _ => none)
abbrev h13 : Hint := HQ h13a
@[go_sem] def h14a : Nat -> Option (List Nat) := (fun id => match id with | 0 => some [0] | 1 => some [0, 3, 4] | 2 => some [0, 3, 4, 16] | 3 => some [0, 3, 4] | 4 => some [0, 3, 4, 29] | 5 => some [0, 3, 4] | 6 => some [2] | _ => none)
abbrev h14 : Hint := HQ h14a
@[go_sem] def h15a : Nat -> Option (List Nat) := (fun id => match id with | 0 => some [0] | 1 => some [3] | 2 => some [3, 4] | 3 => some [3, 4] | 4 => some [2] | 5 => some [3, 7] | 6 => some [2] | 7 => some [9] | 8 => some [2] | 9 => some [2] | _ => none)
abbrev h15 : Hint := HQ h15a
@[go_sem] def h16a : Nat -> Option (List Nat) := (fun id => match id with | 0 => some [0, 1] | 1 => some [1, 7, 8, 9] | 2 => some [1, 7, 8, 9, 10] | 3 => some [1, 6, 7, 8, 9] | 4 => some [1, 6, 7, 8, 9, 22] | 5 => some [4] | 6 => some [1, 6, 7, 8, 9, 27] | 7 => some [1, 7, 8, 9, 31] | 8 => some [4] | 9 => some [1, 7, 8, 9, 41] | 10 => some [4] | 11 => some [1, 7, 8, 9] | 12 => some [4] | _ => none)
def h16 : Hint := ⟨h16a, (fun id => match id with | 11 => some 0 | _ => none), (fun _ => none), [], false, (fun _ => none), fun _ => 0, 0, false, (fun _ => none)⟩
@[go_sem] theorem h16x : h16.mix = (fun _ => none) := rfl
@[go_sem] theorem h16l : h16.live = h16a := rfl
@[go_sem] theorem h16o : h16.mode = fun _ => 0 := rfl
@[go_sem] theorem h16k : h16.keep = (fun id => match id with | 11 => some 0 | _ => none) := rfl
@[go_sem] theorem h16t : h16.tail = (fun _ => none) := rfl
@[go_sem] theorem h16v : h16.vars = [] := rfl
@[go_sem] theorem h16m : h16.mutc = false := rfl
@[go_sem] def h17a : Nat -> Option (List Nat) := (fun id => match id with | 0 => some [0] | 1 => some [0, 3] | 2 => some [0, 3, 4] | 3 => some [0, 3, 4, 7, 8, 9] | 4 => some [0, 3, 4, 7, 8, 9, 10] | 5 => some [0, 3, 4, 5, 6, 7, 8, 9] | 6 => some [0, 3, 4, 5, 7, 8, 9, 17] | 7 => some [0, 3, 5, 7, 8, 9] | 8 => some [0, 3, 4, 5, 7, 8, 9, 17] | 9 => some [0, 3, 4, 7, 8, 9] | 10 => some [2] | _ => none)
def h17 : Hint := ⟨h17a, (fun id => match id with | 9 => some 0 | _ => none), (fun _ => none), [3], false, (fun _ => none), fun _ => 0, 0, false, (fun _ => none)⟩
@[go_sem] theorem h17x : h17.mix = (fun _ => none) := rfl
@[go_sem] theorem h17l : h17.live = h17a := rfl
@[go_sem] theorem h17o : h17.mode = fun _ => 0 := rfl
@[go_sem] theorem h17k : h17.keep = (fun id => match id with | 9 => some 0 | _ => none) := rfl
@[go_sem] theorem h17t : h17.tail = (fun _ => none) := rfl
@[go_sem] theorem h17v : h17.vars = [3] := rfl
@[go_sem] theorem h17m : h17.mutc = false := rfl
@[go_sem] def h18a : Nat -> Option (List Nat) := (fun id => match id with | 0 => some [0, 2] | 1 => some [0, 2, 4] | 2 => some [0, 2, 4, 5] | 3 => some [0, 2, 4, 6] | 4 => some [0, 2, 4, 6, 12] | 5 => some [2, 3] | 6 => some [0, 2, 4] | 7 => some [0, 2, 4, 21] | 8 => some [2, 3] | 9 => some [0, 2, 4, 7] | 10 => some [2, 3] | 11 => some [0, 2, 4, 7, 26] | 12 => some [0, 2, 4, 5] | 13 => some [0, 2, 4, 7, 29] | 14 => some [0, 2, 4, 5] | 15 => some [0, 2, 4, 7, 32] | 16 => some [0, 2, 4, 5] | 17 => some [0, 2, 4, 35] | 18 => some [0, 2, 4, 5] | 19 => some [0, 2, 4, 5] | 20 => some [0, 2, 4, 5] | _ => none)
def h18 : Hint := ⟨h18a, (fun id => match id with | 5 => some 2 | 8 => some 2 | 10 => some 2 | 18 => some 2 | 20 => some 2 | _ => none), (fun _ => none), [], false, (fun _ => none), fun _ => 0, 0, false, (fun _ => none)⟩
@[go_sem] theorem h18x : h18.mix = (fun _ => none) := rfl
@[go_sem] theorem h18l : h18.live = h18a := rfl
@[go_sem] theorem h18o : h18.mode = fun _ => 0 := rfl
@[go_sem] theorem h18k : h18.keep = (fun id => match id with | 5 => some 2 | 8 => some 2 | 10 => some 2 | 18 => some 2 | 20 => some 2 | _ => none) := rfl
@[go_sem] theorem h18t : h18.tail = (fun _ => none) := rfl
@[go_sem] theorem h18v : h18.vars = [] := rfl
@[go_sem] theorem h18m : h18.mutc = false := rfl
@[go_sem] def h19a : Nat -> Option (List Nat) := (fun id => match id with | 0 => some [0, 1] | 1 => some [0, 1, 17] | 2 => some [4] | 3 => some [1, 18, 19, 20] | 4 => some [1, 18, 19, 20, 21] | 5 => some [1, 6, 18, 19, 20] | 6 => some [1, 6, 18, 19, 20, 27] | 7 => some [4] | 8 => some [1, 18, 19, 20, 29, 30, 31] | 9 => some [1, 18, 19, 20, 29, 30, 31, 32] | 10 => some [1, 7, 8, 18, 19, 20, 29, 30, 31] | 11 => some [1, 8, 18, 19, 20, 29, 30, 31, 57] | 12 => some [4] | 13 => some [1, 18, 19, 20, 29, 30, 31, 59, 60, 61] | 14 => some [1, 18, 19, 20, 29, 30, 31, 59, 60, 61, 62] | 15 => some [1, 9, 10, 18, 19, 20, 29, 30, 31, 59, 60, 61] | 16 => some [1, 18, 19, 20, 29, 30, 31, 59, 60, 61, 78] | 17 => some [4] | 18 => some [1, 18, 19, 20, 29, 30, 31, 59, 60, 61] | 19 => some [1, 18, 19, 20, 29, 30, 31] | 20 => some [1, 18, 19, 20] | 21 => some [4] | _ => none)
def h19 : Hint := ⟨h19a, (fun id => match id with | 7 => some 0 | 8 => some 0 | 12 => some 0 | 13 => some 0 | 16 => some 0 | _ => none), (fun _ => none), [], false, (fun _ => none), fun _ => 0, 0, false, (fun _ => none)⟩
@[go_sem] theorem h19x : h19.mix = (fun _ => none) := rfl
@[go_sem] theorem h19l : h19.live = h19a := rfl
@[go_sem] theorem h19o : h19.mode = fun _ => 0 := rfl
@[go_sem] theorem h19k : h19.keep = (fun id => match id with | 7 => some 0 | 8 => some 0 | 12 => some 0 | 13 => some 0 | 16 => some 0 | _ => none) := rfl
@[go_sem] theorem h19t : h19.tail = (fun _ => none) := rfl
@[go_sem] theorem h19v : h19.vars = [] := rfl
@[go_sem] theorem h19m : h19.mutc = false := rfl
@[go_sem] def h20a : Nat -> Option (List Nat) := (fun id => match id with | 0 => some [0] | 1 => some [0, 3] | 2 => some [3, 9, 10, 11] | 3 => some [3, 9, 10, 11, 12] | 4 => some [3, 5, 9, 10, 11] | 5 => some [3, 5, 6, 9, 10, 11] | 6 => some [3, 5, 6, 9, 10, 11, 31] | 7 => some [3, 9, 10, 11] | 8 => some [3, 5, 6, 9, 10, 11, 37] | 9 => some [3, 9, 10, 11] | 10 => some [3, 9, 10, 11] | 11 => some [3, 9, 10, 11] | 12 => some [3, 59] | 13 => some [3, 9, 10, 11] | 14 => some [2] | _ => none)
@[go_sem] def h20M : Nat -> Option Mix := (fun id => match id with | 10 => some ⟨[0, 1, 2, 3, 4, 5, 6, 7, 8], [], .head 0 (.head 1 (.head 2 (.head 3 (.head 4 (.head 5 (.head 6 (.head 7 (.head 8 (.two 9)))))))))⟩ | _ => none)
def h20 : Hint := ⟨h20a, (fun id => match id with | 11 => some 1 | _ => none), (fun id => match id with | 6 => some 14 | 10 => some 8 | _ => none), [3], false, h20M, (fun d => match d with | some 8 => 1 | some 41 => 2 | some 42 => 1 | _ => 0), 0, false, (fun _ => none)⟩
@[go_sem] theorem h20e : h20.late = (fun _ => none) := rfl
@[go_sem] theorem h20x : h20.mix = h20M := rfl
@[go_sem] theorem h20l : h20.live = h20a := rfl
@[go_sem] theorem h20o : h20.mode = (fun d => match d with | some 8 => 1 | some 41 => 2 | some 42 => 1 | _ => 0) := rfl
@[go_sem] theorem h20k : h20.keep = (fun id => match id with | 11 => some 1 | _ => none) := rfl
@[go_sem] theorem h20t : h20.tail = (fun id => match id with | 6 => some 14 | 10 => some 8 | _ => none) := rfl
@[go_sem] theorem h20v : h20.vars = [3] := rfl
@[go_sem] theorem h20m : h20.mutc = false := rfl
@[go_sem] def h21a : Nat -> Option (List Nat) := (fun id => match id with | 0 => some [0] | 1 => some [2] | _ => none)
abbrev h21 : Hint := HQ h21a
@[go_sem] def h22a : Nat -> Option (List Nat) := (fun id => match id with | 0 => some [1] | 1 => some [2] | _ => none)
abbrev h22 : Hint := HQ h22a
@[go_sem] def h23a : Nat -> Option (List Nat) := (fun id => match id with | 0 => some [0] | 1 => some [3] | 2 => some [3, 4] | 3 => some [3, 6] | 4 => some [3, 8] | 5 => some [10] | 6 => some [2] | 7 => some [2] | 8 => some [2] | 9 => some [2] | _ => none)
abbrev h23 : Hint := HQ h23a
@[go_sem] def h24a : Nat -> Option (List Nat) := (fun id => match id with | 0 => some [0] | 1 => some [2] | _ => none)
abbrev h24 : Hint := HQ h24a
@[go_sem] def h25a : Nat -> Option (List Nat) := (fun id => match id with | 0 => some [0, 1] | 1 => some [0, 1, 8] | 2 => some [0, 1] | 3 => some [0, 1, 8] | 4 => some [0, 1, 33] | 5 => some [0, 1] | 6 => some [0, 1, 8] | 7 => some [0, 1, 5, 6, 7] | 8 => some [0, 1, 5, 6, 60] | 9 => some [4] | 10 => some [0, 1, 5, 62] | 11 => some [4] | 12 => some [0, 1, 8] | _ => none)
@[go_sem] def h25M : Nat -> Option Mix := (fun id => match id with | 2 => some ⟨[0, 1, 2, 3, 4, 5, 6, 7, 8, 9, 11, 12], [], .head 1 (.head 2 (.head 3 (.head 4 (.head 5 (.head 6 (.head 7 (.head 8 (.head 9 (.alt (.one 0 (.one 10 (.head 11 (.head 12 (.one 13 (.fin)))))) (.one 10 (.head 0 (.head 11 (.head 12 (.one 13 (.fin)))))))))))))))⟩ | 12 => some ⟨[0, 1, 2, 3, 4, 5, 6, 8, 9], [], .head 1 (.head 2 (.head 3 (.head 4 (.head 5 (.head 6 (.alt (.one 0 (.one 7 (.head 8 (.head 9 (.one 10 (.fin)))))) (.one 7 (.head 0 (.head 8 (.head 9 (.one 10 (.fin))))))))))))⟩ | _ => none)
def h25 : Hint := ⟨h25a, (fun id => match id with | 9 => some 0 | 11 => some 0 | 12 => some 0 | _ => none), (fun id => match id with | 2 => some 9 | 12 => some 6 | _ => none), [], false, h25M, fun _ => 0, 0, false, (fun _ => none)⟩
@[go_sem] theorem h25e : h25.late = (fun _ => none) := rfl
@[go_sem] theorem h25x : h25.mix = h25M := rfl
@[go_sem] theorem h25l : h25.live = h25a := rfl
@[go_sem] theorem h25o : h25.mode = fun _ => 0 := rfl
@[go_sem] theorem h25k : h25.keep = (fun id => match id with | 9 => some 0 | 11 => some 0 | 12 => some 0 | _ => none) := rfl
@[go_sem] theorem h25t : h25.tail = (fun id => match id with | 2 => some 9 | 12 => some 6 | _ => none) := rfl
@[go_sem] theorem h25v : h25.vars = [] := rfl
@[go_sem] theorem h25m : h25.mutc = false := rfl
@[go_sem] def h26a : Nat -> Option (List Nat) := (fun id => match id with | 0 => some [0] | 1 => some [2] | _ => none)
def h26 : Hint := ⟨h26a, (fun _ => none), (fun id => match id with | 1 => some 10 | _ => none), [], false, (fun _ => none), fun _ => 0, 0, false, (fun _ => none)⟩
@[go_sem] theorem h26e : h26.late = (fun _ => none) := rfl
@[go_sem] theorem h26x : h26.mix = (fun _ => none) := rfl
@[go_sem] theorem h26l : h26.live = h26a := rfl
@[go_sem] theorem h26o : h26.mode = fun _ => 0 := rfl
@[go_sem] theorem h26k : h26.keep = (fun _ => none) := rfl
@[go_sem] theorem h26t : h26.tail = (fun id => match id with | 1 => some 10 | _ => none) := rfl
@[go_sem] theorem h26v : h26.vars = [] := rfl
@[go_sem] theorem h26m : h26.mutc = false := rfl
@[go_sem] def h27a : Nat -> Option (List Nat) := (fun id => match id with | 0 => some [0] | 1 => some [0, 3] | 2 => some [0, 3, 11] | 3 => some [0, 3] | 4 => some [2] | _ => none)
abbrev h27 : Hint := HQ h27a
@[go_sem] def h28a : Nat -> Option (List Nat) := (fun id => match id with | 0 => some [0, 1, 2] | 1 => some [2, 7] | 2 => some [6] | _ => none)
abbrev h28 : Hint := HQ h28a
@[go_sem] def h29a : Nat -> Option (List Nat) := (fun id => match id with | 0 => some [1, 2] | 1 => some [1, 2, 5] | 2 => some [1, 2, 5, 6, 7] | 3 => some [1, 2, 5, 6, 7] | 4 => some [1, 2, 5, 6, 7, 14] | 5 => some [1, 2, 5, 6, 7, 14, 15] | 6 => some [1, 2, 5, 6, 7, 14, 15] | 7 => some [1, 2, 5, 6, 7, 14, 15] | 8 => some [1, 2, 5, 6, 7, 14, 15] | 9 => some [1, 2, 5, 6, 7, 14, 15] | 10 => some [1, 2, 5, 6, 7, 14, 23] | 11 => some [2, 5, 6, 7] | 12 => some [5, 6, 7] | 13 => some [1, 2, 5, 6, 7, 14, 15] | 14 => some [1, 2, 5, 6, 7, 14, 67] | 15 => some [1, 2, 5, 6, 7, 14, 67] | 16 => some [1, 2, 5, 6, 7, 14, 67] | 17 => some [1, 2, 5, 6, 7, 14, 15] | 18 => some [1, 2, 5, 6, 7, 14, 75] | 19 => some [1, 2, 5, 6, 7, 14, 75] | 20 => some [5, 6, 7] | 21 => some [1, 2, 5, 6, 7, 14, 15] | 22 => some [5, 6, 7, 14, 92] | 23 => some [5, 6, 7, 14, 92] | 24 => some [5, 6, 7, 14, 92] | 25 => some [5, 6, 7, 14, 92] | 26 => some [5, 6, 7, 14, 92] | 27 => some [5, 6, 7, 14, 92] | 28 => some [4] | _ => none)
@[go_sem] def h29M : Nat -> Option Mix := (fun id => match id with | 2 => some ⟨[0, 1, 2], [], .head 0 (.head 1 (.alt (.one 2 (.one 3 (.one 4 (.one 5 (.fin))))) (.one 3 (.alt (.one 2 (.one 4 (.one 5 (.fin)))) (.one 4 (.head 2 (.one 5 (.fin))))))))⟩ | _ => none)
def h29 : Hint := ⟨h29a, (fun _ => none), (fun id => match id with | 2 => some 3 | _ => none), [], false, h29M, fun _ => 0, 0, false, (fun _ => none)⟩
@[go_sem] theorem h29e : h29.late = (fun _ => none) := rfl
@[go_sem] theorem h29x : h29.mix = h29M := rfl
@[go_sem] theorem h29l : h29.live = h29a := rfl
@[go_sem] theorem h29o : h29.mode = fun _ => 0 := rfl
@[go_sem] theorem h29k : h29.keep = (fun _ => none) := rfl
@[go_sem] theorem h29t : h29.tail = (fun id => match id with | 2 => some 3 | _ => none) := rfl
@[go_sem] theorem h29v : h29.vars = [] := rfl
@[go_sem] theorem h29m : h29.mutc = false := rfl
@[go_sem] def h30a : Nat -> Option (List Nat) := (fun id => match id with | 0 => some [0] | 1 => some [0, 3] | 2 => some [0, 3, 4] | 3 => some [0, 3, 4] | 4 => some [0, 3, 4, 16] | 5 => some [0, 30, 31, 33] | 6 => some [0] | 7 => some [0] | 8 => some [2] | _ => none)
@[go_sem] def h30M : Nat -> Option Mix := (fun id => match id with | 4 => some ⟨[3], [], .one 0 (.alt (.one 1 (.one 2 (.head 3 (.fin)))) (.one 2 (.one 1 (.head 3 (.fin)))))⟩ | 7 => some ⟨[0, 1, 2, 3, 4, 5, 6, 7, 8, 9, 10, 11, 12, 13, 14, 16, 17], [], .head 3 (.head 4 (.head 5 (.head 6 (.head 7 (.head 8 (.head 9 (.head 10 (.head 11 (.head 12 (.head 13 (.head 14 (.alt (.one 0 (.alt (.one 1 (.alt (.one 2 (.one 15 (.head 16 (.head 17 (.one 18 (.fin)))))) (.one 15 (.head 2 (.head 16 (.head 17 (.one 18 (.fin)))))))) (.one 15 (.head 1 (.head 2 (.head 16 (.head 17 (.one 18 (.fin))))))))) (.alt (.one 1 (.alt (.one 0 (.alt (.one 2 (.one 15 (.head 16 (.head 17 (.one 18 (.fin)))))) (.one 15 (.head 2 (.head 16 (.head 17 (.one 18 (.fin)))))))) (.alt (.one 2 (.alt (.one 0 (.one 15 (.head 16 (.head 17 (.one 18 (.fin)))))) (.one 15 (.head 0 (.head 16 (.head 17 (.one 18 (.fin)))))))) (.one 15 (.head 0 (.head 2 (.head 16 (.head 17 (.one 18 (.fin)))))))))) (.one 15 (.head 0 (.head 1 (.head 2 (.head 16 (.head 17 (.one 18 (.fin)))))))))))))))))))))⟩ | _ => none)
def h30 : Hint := ⟨h30a, (fun id => match id with | 4 => some 1001 | _ => none), (fun id => match id with | 4 => some 0 | 5 => some 16 | 7 => some 14 | _ => none), [], false, h30M, fun _ => 0, 0, false, (fun id => match id with | 5 => some 0 | _ => none)⟩
@[go_sem] theorem h30e : h30.late = (fun id => match id with | 5 => some 0 | _ => none) := rfl
@[go_sem] theorem h30x : h30.mix = h30M := rfl
@[go_sem] theorem h30l : h30.live = h30a := rfl
@[go_sem] theorem h30o : h30.mode = fun _ => 0 := rfl
@[go_sem] theorem h30k : h30.keep = (fun id => match id with | 4 => some 1001 | _ => none) := rfl
@[go_sem] theorem h30t : h30.tail = (fun id => match id with | 4 => some 0 | 5 => some 16 | 7 => some 14 | _ => none) := rfl
@[go_sem] theorem h30v : h30.vars = [] := rfl
@[go_sem] theorem h30m : h30.mutc = false := rfl
@[go_sem] def h31a : Nat -> Option (List Nat) := (fun id => match id with | 0 => some [0] | 1 => some [0, 3] | 2 => some [3, 4] | 3 => some [3, 4] | 4 => some [3, 4, 12] | 5 => some [2] | 6 => some [3, 4] | _ => none)
def h31 : Hint := ⟨h31a, (fun _ => none), (fun _ => none), [3], false, (fun _ => none), fun _ => 0, 0, false, (fun _ => none)⟩
@[go_sem] theorem h31x : h31.mix = (fun _ => none) := rfl
@[go_sem] theorem h31l : h31.live = h31a := rfl
@[go_sem] theorem h31o : h31.mode = fun _ => 0 := rfl
@[go_sem] theorem h31k : h31.keep = (fun _ => none) := rfl
@[go_sem] theorem h31t : h31.tail = (fun _ => none) := rfl
@[go_sem] theorem h31v : h31.vars = [3] := rfl
@[go_sem] theorem h31m : h31.mutc = false := rfl
@[go_sem] def h32a : Nat -> Option (List Nat) := (fun id => match id with | 0 => some [0] | 1 => some [0, 28] | 2 => some [0, 28] | 3 => some [0, 3] | 4 => some [0, 3, 4] | 5 => some [3, 4, 32, 33, 34] | 6 => some [3, 4, 32, 33, 34, 35] | 7 => some [3, 4, 6, 32, 33, 34] | 8 => some [3, 4, 6, 7, 32, 33, 34] | 9 => some [3, 4, 6, 7, 32, 33, 34, 39] | 10 => some [3, 4, 6, 7, 32, 33, 34, 39, 40] | 11 => some [3, 4, 6, 7, 32, 33, 34, 39, 40] | 12 => some [3, 4, 6, 7, 32, 33, 34, 39, 40] | 13 => some [3, 4, 6, 7, 32, 33, 34, 43] | 14 => some [3, 4, 6, 7, 32, 33, 34, 39, 40] | 15 => some [3, 6, 7, 32, 33, 34, 50] | 16 => some [3, 6, 7, 32, 33, 34, 50] | 17 => some [3, 4, 32, 33, 34] | 18 => some [3, 4, 32, 33, 34] | 19 => some [2] | _ => none)
def h32 : Hint := ⟨h32a, (fun _ => none), (fun _ => none), [3], false, (fun _ => none), fun _ => 0, 0, false, (fun _ => none)⟩
@[go_sem] theorem h32x : h32.mix = (fun _ => none) := rfl
@[go_sem] theorem h32l : h32.live = h32a := rfl
@[go_sem] theorem h32o : h32.mode = fun _ => 0 := rfl
@[go_sem] theorem h32k : h32.keep = (fun _ => none) := rfl
@[go_sem] theorem h32t : h32.tail = (fun _ => none) := rfl
@[go_sem] theorem h32v : h32.vars = [3] := rfl
@[go_sem] theorem h32m : h32.mutc = false := rfl
@[go_sem] def h33a : Nat -> Option (List Nat) := (fun id => match id with | 0 => some [0] | 1 => some [0, 3] | 2 => some [3, 6, 7, 8] | 3 => some [3, 6, 7, 8, 9] | 4 => some [3, 5, 6, 7, 8] | 5 => some [3, 6, 7, 8] | 6 => some [3, 6, 7, 8] | 7 => some [2] | _ => none)
@[go_sem] def h33M : Nat -> Option Mix := (fun id => match id with | 5 => some ⟨[0, 1, 2, 3, 4, 5, 6, 7], [], .head 0 (.head 1 (.head 2 (.head 3 (.head 4 (.head 5 (.head 6 (.head 7 (.one 8 (.one 9 (.fin))))))))))⟩ | _ => none)
def h33 : Hint := ⟨h33a, (fun id => match id with | 6 => some 0 | _ => none), (fun id => match id with | 5 => some 7 | _ => none), [3], false, h33M, fun _ => 0, 0, false, (fun _ => none)⟩
@[go_sem] theorem h33e : h33.late = (fun _ => none) := rfl
@[go_sem] theorem h33x : h33.mix = h33M := rfl
@[go_sem] theorem h33l : h33.live = h33a := rfl
@[go_sem] theorem h33o : h33.mode = fun _ => 0 := rfl
@[go_sem] theorem h33k : h33.keep = (fun id => match id with | 6 => some 0 | _ => none) := rfl
@[go_sem] theorem h33t : h33.tail = (fun id => match id with | 5 => some 7 | _ => none) := rfl
@[go_sem] theorem h33v : h33.vars = [3] := rfl
@[go_sem] theorem h33m : h33.mutc = false := rfl
@[go_sem] def h34a : Nat -> Option (List Nat) := (fun id => match id with | 0 => some [0] | 1 => some [0, 11] | 2 => some [0] | 3 => some [0, 25] | 4 => some [0] | 5 => some [2] | _ => none)
abbrev h34 : Hint := HQ h34a
@[go_sem] def h35a : Nat -> Option (List Nat) := (fun id => match id with | 0 => some [0, 1, 4] | 1 => some [0, 1, 4, 16] | 2 => some [4] | 3 => some [4] | _ => none)
def h35 : Hint := ⟨h35a, (fun _ => none), (fun id => match id with | 1 => some 12 | 3 => some 13 | _ => none), [], false, (fun _ => none), fun _ => 0, 0, false, (fun _ => none)⟩
@[go_sem] theorem h35e : h35.late = (fun _ => none) := rfl
@[go_sem] theorem h35x : h35.mix = (fun _ => none) := rfl
@[go_sem] theorem h35l : h35.live = h35a := rfl
@[go_sem] theorem h35o : h35.mode = fun _ => 0 := rfl
@[go_sem] theorem h35k : h35.keep = (fun _ => none) := rfl
@[go_sem] theorem h35t : h35.tail = (fun id => match id with | 1 => some 12 | 3 => some 13 | _ => none) := rfl
@[go_sem] theorem h35v : h35.vars = [] := rfl
@[go_sem] theorem h35m : h35.mutc = false := rfl
@[go_sem] def h36a : Nat -> Option (List Nat) := (fun id => match id with | 0 => some [0, 2] | 1 => some [0, 2, 5] | 2 => some [0, 2, 5, 6] | 3 => some [2, 3, 4] | 4 => some [0, 2, 5, 6, 18] | 5 => some [0, 2, 6] | 6 => some [2, 6] | 7 => some [0, 2, 5, 6, 34] | 8 => some [0, 2, 6] | 9 => some [2, 6] | 10 => some [0, 2, 5, 6, 55] | 11 => some [0, 2, 7] | 12 => some [2, 7] | 13 => some [2, 8, 9] | 14 => some [2, 3, 4] | 15 => some [0, 2, 6, 85] | 16 => some [0, 2, 6, 99] | 17 => some [2, 3, 4] | 18 => some [0, 2, 10, 11] | 19 => some [2, 10, 11] | 20 => some [2, 3, 4] | 21 => some [2, 3, 4] | _ => none)
@[go_sem] def h36M : Nat -> Option Mix := (fun id => match id with | 11 => some ⟨[0, 1, 2, 3, 4, 5, 6, 7, 8, 9, 10, 11, 12], [], .head 0 (.head 1 (.head 2 (.head 3 (.head 4 (.head 5 (.head 6 (.head 7 (.head 8 (.head 9 (.head 10 (.alt (.one 11 (.head 12 (.one 13 (.one 14 (.fin))))) (.one 13 (.head 11 (.head 12 (.one 14 (.fin))))))))))))))))⟩ | 18 => some ⟨[0, 1, 2, 3, 4, 5, 6, 7, 8, 9, 10, 11, 12, 13, 14], [], .head 0 (.head 1 (.head 2 (.head 3 (.head 4 (.head 5 (.head 6 (.head 7 (.head 8 (.head 9 (.head 10 (.alt (.one 11 (.head 12 (.head 13 (.alt (.one 14 (.one 15 (.one 16 (.one 17 (.fin))))) (.one 15 (.alt (.one 14 (.one 16 (.one 17 (.fin)))) (.one 16 (.head 14 (.one 17 (.fin)))))))))) (.one 15 (.head 11 (.head 12 (.head 13 (.alt (.one 14 (.one 16 (.one 17 (.fin)))) (.one 16 (.head 14 (.one 17 (.fin))))))))))))))))))))⟩ | _ => none)
def h36 : Hint := ⟨h36a, (fun _ => none), (fun id => match id with | 11 => some 13 | 16 => some 11 | 18 => some 15 | _ => none), [], false, h36M, fun _ => 0, 0, false, (fun _ => none)⟩
@[go_sem] theorem h36e : h36.late = (fun _ => none) := rfl
@[go_sem] theorem h36x : h36.mix = h36M := rfl
@[go_sem] theorem h36l : h36.live = h36a := rfl
@[go_sem] theorem h36o : h36.mode = fun _ => 0 := rfl
@[go_sem] theorem h36k : h36.keep = (fun _ => none) := rfl
@[go_sem] theorem h36t : h36.tail = (fun id => match id with | 11 => some 13 | 16 => some 11 | 18 => some 15 | _ => none) := rfl
@[go_sem] theorem h36v : h36.vars = [] := rfl
@[go_sem] theorem h36m : h36.mutc = false := rfl
@[go_sem] def h37a : Nat -> Option (List Nat) := (fun id => match id with | 0 => some [0, 1] | 1 => some [4] | _ => none)
abbrev h37 : Hint := HQ h37a
@[go_sem] def h38a : Nat -> Option (List Nat) := (fun id => match id with | 0 => some [0] | 1 => some [2] | _ => none)
abbrev h38 : Hint := HQ h38a
@[go_sem] def h39a : Nat -> Option (List Nat) := (fun id => match id with | 0 => some [0] | 1 => some [2] | _ => none)
abbrev h39 : Hint := HQ h39a
@[go_sem] def h40a : Nat -> Option (List Nat) := (fun id => match id with | 0 => some [0] | 1 => some [2] | _ => none)
abbrev h40 : Hint := HQ h40a
@[go_sem] def h41a : Nat -> Option (List Nat) := (fun id => match id with | 0 => some [0, 9] | 1 => some [0] | 2 => some [0, 29] | 3 => some [0] | 4 => some [0] | _ => none)
abbrev h41 : Hint := HQ h41a
@[go_sem] def h42a : Nat -> Option (List Nat) := (fun id => match id with | 0 => some [0, 1] | 1 => some [0, 1, 17] | 2 => some [4] | 3 => some [5] | 4 => some [5, 31] | 5 => some [4] | 6 => some [4] | _ => none)
def h42 : Hint := ⟨h42a, (fun _ => none), (fun id => match id with | 1 => some 12 | 3 => some 12 | _ => none), [], false, (fun _ => none), fun _ => 0, 0, false, (fun _ => none)⟩
@[go_sem] theorem h42e : h42.late = (fun _ => none) := rfl
@[go_sem] theorem h42x : h42.mix = (fun _ => none) := rfl
@[go_sem] theorem h42l : h42.live = h42a := rfl
@[go_sem] theorem h42o : h42.mode = fun _ => 0 := rfl
@[go_sem] theorem h42k : h42.keep = (fun _ => none) := rfl
@[go_sem] theorem h42t : h42.tail = (fun id => match id with | 1 => some 12 | 3 => some 12 | _ => none) := rfl
@[go_sem] theorem h42v : h42.vars = [] := rfl
@[go_sem] theorem h42m : h42.mutc = false := rfl
@[go_sem] def h43a : Nat -> Option (List Nat) := (fun id => match id with | 0 => some [0, 2] | 1 => some [0, 2, 3, 4, 5] | 2 => some [0, 2, 3, 4, 5, 14] | 3 => some [0, 2, 3, 4, 5, 14, 15] | 4 => some [0, 2, 3, 4, 5, 6, 14] | 5 => some [0, 2, 3, 4, 5, 6, 14, 21] | 6 => some [2, 6] | 7 => some [2] | 8 => some [0, 2, 3, 4, 5, 14] | 9 => some [0, 2, 3, 4, 5, 34] | 10 => some [2] | 11 => some [2] | 12 => some [0, 2, 3, 4, 5, 40] | 13 => some [0, 2, 3] | 14 => some [2] | 15 => some [0, 2, 3, 4, 5, 57] | 16 => some [0, 2, 4, 5] | 17 => some [0, 2, 7] | 18 => some [2] | 19 => some [0, 2, 3, 4, 5, 89] | 20 => some [2] | 21 => some [0, 2, 3, 4, 5, 96] | 22 => some [2] | 23 => some [2] | 24 => some [0, 2, 3, 4, 5, 115] | 25 => some [2] | 26 => some [2] | 27 => some [0, 2, 3, 4, 5, 139] | 28 => some [0, 2] | 29 => some [2] | 30 => some [0, 2, 3, 159] | 31 => some [2] | 32 => some [2, 3] | 33 => some [2] | _ => none)
abbrev h43 : Hint := HQ h43a
@[go_sem] def h44a : Nat -> Option (List Nat) := (fun id => match id with | 0 => some [0] | 1 => some [0, 3] | 2 => some [0, 3, 4] | 3 => some [0, 3, 4, 11] | 4 => some [0, 3, 4, 5, 6] | 5 => some [0, 3, 4, 6] | 6 => some [0, 3, 4] | 7 => some [2] | _ => none)
def h44 : Hint := ⟨h44a, (fun _ => none), (fun _ => none), [3], false, (fun _ => none), fun _ => 0, 0, false, (fun _ => none)⟩
@[go_sem] theorem h44x : h44.mix = (fun _ => none) := rfl
@[go_sem] theorem h44l : h44.live = h44a := rfl
@[go_sem] theorem h44o : h44.mode = fun _ => 0 := rfl
@[go_sem] theorem h44k : h44.keep = (fun _ => none) := rfl
@[go_sem] theorem h44t : h44.tail = (fun _ => none) := rfl
@[go_sem] theorem h44v : h44.vars = [3] := rfl
@[go_sem] theorem h44m : h44.mutc = false := rfl
@[go_sem] def h45a : Nat -> Option (List Nat) := (fun id => match id with | 0 => some [1] | 1 => some [2] | _ => none)
abbrev h45 : Hint := HQ h45a
@[go_sem] def h46a : Nat -> Option (List Nat) := (fun id => match id with | 0 => some [0, 2] | 1 => some [0, 2, 4] | 2 => some [0, 2, 4, 16] | 3 => some [2, 3] | 4 => some [0, 2, 4] | 5 => some [0, 2, 4, 26] | 6 => some [2, 3] | 7 => some [0, 2, 4] | 8 => some [0, 2, 4, 30] | 9 => some [0, 2, 4, 30, 31] | 10 => some [0, 2, 4, 5, 30] | 11 => some [0, 2, 4, 5, 6, 30] | 12 => some [0, 2, 4, 5, 30, 47] | 13 => some [0, 2, 4, 5] | 14 => some [0, 2, 4] | 15 => some [0, 2, 4, 30] | 16 => some [0, 2, 4, 64] | 17 => some [2, 3] | 18 => some [0, 2, 4] | 19 => some [0, 2, 4, 7] | 20 => some [0, 2, 4, 7, 77] | 21 => some [2, 3] | 22 => some [0, 2, 4, 7] | 23 => some [0, 2, 4, 7] | 24 => some [0, 2, 4, 7, 90] | 25 => some [2, 3] | 26 => some [0, 2, 4, 7] | 27 => some [0, 2, 4, 7] | 28 => some [0, 2, 4, 7, 8] | 29 => some [0, 2, 4, 7, 8] | 30 => some [0, 2, 4, 7, 8] | 31 => some [2, 3] | _ => none)
@[go_sem] def h46M : Nat -> Option Mix := (fun id => match id with | 31 => some ⟨[0, 1, 2, 3, 4, 5, 6, 7, 8, 9, 10, 11, 12, 13, 14, 15], [], .head 0 (.head 1 (.head 2 (.head 3 (.head 4 (.head 5 (.head 6 (.head 7 (.head 8 (.head 9 (.head 10 (.head 11 (.head 12 (.head 13 (.head 14 (.alt (.one 15 (.one 16 (.one 17 (.fin)))) (.one 16 (.head 15 (.one 17 (.fin)))))))))))))))))))⟩ | _ => none)
def h46 : Hint := ⟨h46a, (fun _ => none), (fun id => match id with | 31 => some 16 | _ => none), [], false, h46M, fun _ => 0, 0, false, (fun _ => none)⟩
@[go_sem] theorem h46e : h46.late = (fun _ => none) := rfl
@[go_sem] theorem h46x : h46.mix = h46M := rfl
@[go_sem] theorem h46l : h46.live = h46a := rfl
@[go_sem] theorem h46o : h46.mode = fun _ => 0 := rfl
@[go_sem] theorem h46k : h46.keep = (fun _ => none) := rfl
@[go_sem] theorem h46t : h46.tail = (fun id => match id with | 31 => some 16 | _ => none) := rfl
@[go_sem] theorem h46v : h46.vars = [] := rfl
@[go_sem] theorem h46m : h46.mutc = false := rfl
@[go_sem] def h47a : Nat -> Option (List Nat) := (fun id => match id with | 0 => some [1, 2] | 1 => some [1, 2, 4] | 2 => some [1, 2, 4, 5] | 3 => some [1, 2, 4, 5, 19] | 4 => some [1, 2, 4, 5, 19, 20] | 5 => some [2, 3] | 6 => some [1, 2, 4, 5, 41] | 7 => some [1, 2, 5, 43] | 8 => some [1, 2, 5, 43, 44] | 9 => some [1, 2, 5, 43, 44] | 10 => some [1, 2, 5, 43, 44] | 11 => some [1, 2, 5] | 12 => some [2, 5, 6] | 13 => some [2, 3] | 14 => some [1, 2, 5, 43, 57] | 15 => some [1, 2, 5, 43, 57] | 16 => some [2, 5, 7] | 17 => some [2, 5, 7] | 18 => some [2, 5, 7, 8] | 19 => some [2, 3] | 20 => some [2, 3] | _ => none)
@[go_sem] def h47M : Nat -> Option Mix := (fun id => match id with | 1 => some ⟨[1, 2, 3, 4], [], .alt (.one 0 (.head 1 (.head 2 (.head 3 (.head 4 (.one 5 (.one 6 (.fin)))))))) (.one 1 (.alt (.one 0 (.head 2 (.head 3 (.head 4 (.one 5 (.one 6 (.fin))))))) (.one 2 (.alt (.one 0 (.head 3 (.head 4 (.one 5 (.one 6 (.fin)))))) (.one 3 (.one 0 (.head 4 (.one 5 (.one 6 (.fin))))))))))⟩ | 19 => some ⟨[0, 1, 2, 3, 4], [], .head 0 (.head 1 (.head 2 (.head 3 (.alt (.one 4 (.one 5 (.one 6 (.fin)))) (.one 5 (.head 4 (.one 6 (.fin))))))))⟩ | _ => none)
def h47 : Hint := ⟨h47a, (fun _ => none), (fun id => match id with | 1 => some 6 | 19 => some 5 | _ => none), [], false, h47M, fun _ => 0, 0, false, (fun _ => none)⟩
@[go_sem] theorem h47e : h47.late = (fun _ => none) := rfl
@[go_sem] theorem h47x : h47.mix = h47M := rfl
@[go_sem] theorem h47l : h47.live = h47a := rfl
@[go_sem] theorem h47o : h47.mode = fun _ => 0 := rfl
@[go_sem] theorem h47k : h47.keep = (fun _ => none) := rfl
@[go_sem] theorem h47t : h47.tail = (fun id => match id with | 1 => some 6 | 19 => some 5 | _ => none) := rfl
@[go_sem] theorem h47v : h47.vars = [] := rfl
@[go_sem] theorem h47m : h47.mutc = false := rfl
@[go_sem] def h48a : Nat -> Option (List Nat) := (fun id => match id with | 0 => some [0, 1] | 1 => some [4] | _ => none)
abbrev h48 : Hint := HQ h48a
@[go_sem] def h49a : Nat -> Option (List Nat) := (fun id => match id with | 0 => some [0] | 1 => some [0, 7] | 2 => some [0, 3, 4] | 3 => some [0, 4, 36] | 4 => some [2] | 5 => some [0] | 6 => some [2] | _ => none)
abbrev h49 : Hint := HQ h49a
@[go_sem] def h50a : Nat -> Option (List Nat) := (fun id => match id with | 0 => some [0] | 1 => some [2] | _ => none)
abbrev h50 : Hint := HQ h50a
@[go_sem] def h51a : Nat -> Option (List Nat) := (fun id => match id with | 0 => some [0] | 1 => some [2] | _ => none)
abbrev h51 : Hint := HQ h51a
@[go_sem] def h52a : Nat -> Option (List Nat) := (fun id => match id with | 0 => some [0, 4] | 1 => some [0] | _ => none)
abbrev h52 : Hint := HQ h52a
@[go_sem] def h53a : Nat -> Option (List Nat) := (fun id => match id with | 0 => some [0, 1, 4] | 1 => some [0, 1, 4, 5] | 2 => some [0, 1, 4, 5, 6] | 3 => some [0, 1, 4, 5, 6] | 4 => some [0, 1, 4, 5, 6, 22] | 5 => some [4] | 6 => some [0, 1, 4, 5] | 7 => some [0, 1, 4, 5, 6, 30] | 8 => some [4] | 9 => some [0, 1, 4, 5, 6, 34] | 10 => some [0, 1, 4, 5] | 11 => some [0, 1, 4, 5, 6, 49] | 12 => some [0, 1, 4, 5] | 13 => some [0, 1, 4, 5, 6, 64] | 14 => some [0, 1, 4, 5] | 15 => some [0, 1, 4, 5] | _ => none)
def h53 : Hint := ⟨h53a, (fun _ => none), (fun _ => none), [5], false, (fun _ => none), fun _ => 0, 0, false, (fun _ => none)⟩
@[go_sem] theorem h53x : h53.mix = (fun _ => none) := rfl
@[go_sem] theorem h53l : h53.live = h53a := rfl
@[go_sem] theorem h53o : h53.mode = fun _ => 0 := rfl
@[go_sem] theorem h53k : h53.keep = (fun _ => none) := rfl
@[go_sem] theorem h53t : h53.tail = (fun _ => none) := rfl
@[go_sem] theorem h53v : h53.vars = [5] := rfl
@[go_sem] theorem h53m : h53.mutc = false := rfl
@[go_sem] def h54a : Nat -> Option (List Nat) := (fun id => match id with | 0 => some [0] | 1 => some [2] | _ => none)
abbrev h54 : Hint := HQ h54a
@[go_sem] def h55a : Nat -> Option (List Nat) := (fun id => match id with | 0 => some [0, 1] | 1 => some [4] | _ => none)
abbrev h55 : Hint := HQ h55a
@[go_sem] def h56a : Nat -> Option (List Nat) := (fun id => match id with | 0 => some [0, 1, 2] | 1 => some [0, 1, 2, 8] | 2 => some [6] | 3 => some [6] | _ => none)
abbrev h56 : Hint := HQ h56a
@[go_sem] def h57a : Nat -> Option (List Nat) := (fun id => match id with | 0 => some [0] | 1 => some [0, 3] | 2 => some [0, 3, 4] | 3 => some [2] | 4 => some [0, 3, 4, 9] | 5 => some [0, 3] | 6 => some [0, 3] | 7 => some [0, 3, 27] | 8 => some [0, 3] | 9 => some [0, 3] | _ => none)
def h57 : Hint := ⟨h57a, (fun _ => none), (fun _ => none), [3], false, (fun _ => none), fun _ => 0, 0, false, (fun _ => none)⟩
@[go_sem] theorem h57x : h57.mix = (fun _ => none) := rfl
@[go_sem] theorem h57l : h57.live = h57a := rfl
@[go_sem] theorem h57o : h57.mode = fun _ => 0 := rfl
@[go_sem] theorem h57k : h57.keep = (fun _ => none) := rfl
@[go_sem] theorem h57t : h57.tail = (fun _ => none) := rfl
@[go_sem] theorem h57v : h57.vars = [3] := rfl
@[go_sem] theorem h57m : h57.mutc = false := rfl
@[go_sem] def h58a : Nat -> Option (List Nat) := (fun id => match id with | 0 => some [0, 1, 2] | 1 => some [0, 1, 2, 12] | 2 => some [0, 1, 2, 12] | 3 => some [6] | _ => none)
abbrev h58 : Hint := HQ h58a
@[go_sem] def h59a : Nat -> Option (List Nat) := (fun id => match id with | 0 => some [0, 2] | 1 => some [0, 2, 3] | 2 => some [0, 2, 3, 4] | 3 => some [0, 2, 3, 23] | 4 => some [0, 2, 3, 23] | 5 => some [0, 2, 3] | 6 => some [0, 2, 3, 40] | 7 => some [0, 2, 3] | 8 => some [0, 2, 3, 40] | 9 => some [0, 2, 3, 5] | 10 => some [0, 2, 3, 57] | 11 => some [0, 2, 3, 6] | 12 => some [0, 2, 3, 6, 7] | 13 => some [0, 2, 3, 6, 65] | 14 => some [0, 2, 3, 6, 65] | 15 => some [0, 2, 3, 6, 69] | 16 => some [0, 2, 3] | 17 => some [0, 2, 3, 57] | 18 => some [0, 2, 8, 9] | 19 => some [0, 2, 11] | 20 => some [0, 2, 11, 105] | 21 => some [0, 2, 11, 105] | 22 => some [0, 2, 11, 112] | 23 => some [0, 2, 11] | 24 => some [0, 2, 11, 105] | 25 => some [2] | _ => none)
@[go_sem] def h59M : Nat -> Option Mix := (fun id => match id with | 18 => some ⟨[0, 1, 2, 3, 4, 5, 6, 7, 8, 9, 10, 11, 12, 13, 14, 15], [], .head 0 (.head 1 (.head 2 (.head 3 (.head 4 (.head 5 (.head 6 (.head 7 (.head 8 (.head 9 (.alt (.one 10 (.alt (.one 11 (.head 12 (.head 13 (.alt (.one 14 (.alt (.one 15 (.one 16 (.one 17 (.one 18 (.one 19 (.fin)))))) (.one 16 (.alt (.one 15 (.one 17 (.one 18 (.one 19 (.fin))))) (.one 17 (.alt (.one 15 (.one 18 (.one 19 (.fin)))) (.one 18 (.head 15 (.one 19 (.fin)))))))))) (.alt (.one 15 (.alt (.one 14 (.one 16 (.one 17 (.one 18 (.one 19 (.fin)))))) (.one 16 (.alt (.one 14 (.one 17 (.one 18 (.one 19 (.fin))))) (.one 17 (.head 14 (.one 18 (.one 19 (.fin))))))))) (.one 16 (.alt (.one 14 (.alt (.one 15 (.one 17 (.one 18 (.one 19 (.fin))))) (.one 17 (.alt (.one 15 (.one 18 (.one 19 (.fin)))) (.one 18 (.head 15 (.one 19 (.fin)))))))) (.alt (.one 15 (.alt (.one 14 (.one 17 (.one 18 (.one 19 (.fin))))) (.one 17 (.head 14 (.one 18 (.one 19 (.fin))))))) (.one 17 (.head 14 (.alt (.one 15 (.one 18 (.one 19 (.fin)))) (.one 18 (.head 15 (.one 19 (.fin))))))))))))))) (.one 16 (.head 11 (.head 12 (.head 13 (.alt (.one 14 (.alt (.one 15 (.one 17 (.one 18 (.one 19 (.fin))))) (.one 17 (.alt (.one 15 (.one 18 (.one 19 (.fin)))) (.one 18 (.head 15 (.one 19 (.fin)))))))) (.alt (.one 15 (.alt (.one 14 (.one 17 (.one 18 (.one 19 (.fin))))) (.one 17 (.head 14 (.one 18 (.one 19 (.fin))))))) (.one 17 (.head 14 (.alt (.one 15 (.one 18 (.one 19 (.fin)))) (.one 18 (.head 15 (.one 19 (.fin))))))))))))))) (.one 16 (.head 10 (.head 11 (.head 12 (.head 13 (.alt (.one 14 (.alt (.one 15 (.one 17 (.one 18 (.one 19 (.fin))))) (.one 17 (.alt (.one 15 (.one 18 (.one 19 (.fin)))) (.one 18 (.head 15 (.one 19 (.fin)))))))) (.alt (.one 15 (.alt (.one 14 (.one 17 (.one 18 (.one 19 (.fin))))) (.one 17 (.head 14 (.one 18 (.one 19 (.fin))))))) (.one 17 (.head 14 (.alt (.one 15 (.one 18 (.one 19 (.fin)))) (.one 18 (.head 15 (.one 19 (.fin))))))))))))))))))))))))⟩ | _ => none)
def h59 : Hint := ⟨h59a, (fun _ => none), (fun id => match id with | 18 => some 16 | _ => none), [], false, h59M, fun _ => 0, 0, false, (fun _ => none)⟩
@[go_sem] theorem h59e : h59.late = (fun _ => none) := rfl
@[go_sem] theorem h59x : h59.mix = h59M := rfl
@[go_sem] theorem h59l : h59.live = h59a := rfl
@[go_sem] theorem h59o : h59.mode = fun _ => 0 := rfl
@[go_sem] theorem h59k : h59.keep = (fun _ => none) := rfl
@[go_sem] theorem h59t : h59.tail = (fun id => match id with | 18 => some 16 | _ => none) := rfl
@[go_sem] theorem h59v : h59.vars = [] := rfl
@[go_sem] theorem h59m : h59.mutc = false := rfl
@[go_sem] def h60a : Nat -> Option (List Nat) := (fun id => match id with | 0 => some [0, 2] | 1 => some [0, 2, 3] | 2 => some [0, 2, 3, 9] | 3 => some [2] | 4 => some [0, 2, 3] | 5 => some [0, 2, 3, 21] | 6 => some [2] | 7 => some [0, 2, 3, 31] | 8 => some [0, 2, 3, 21] | 9 => some [0, 2, 3, 4] | 10 => some [0, 2, 3, 4, 42] | 11 => some [0, 2, 3, 4, 42] | 12 => some [0, 2, 3, 50] | 13 => some [2] | 14 => some [2] | _ => none)
abbrev h60 : Hint := HQ h60a
@[go_sem] def h61a : Nat -> Option (List Nat) := (fun id => match id with | 0 => some [0] | 1 => some [2] | _ => none)
abbrev h61 : Hint := HQ h61a
@[go_sem] def h62a : Nat -> Option (List Nat) := (fun id => match id with | 0 => some [0, 1] | 1 => some [0, 1, 7] | 2 => some [0, 1, 7, 18] | 3 => some [4, 5, 6] | 4 => some [0, 1, 7, 8, 9, 10] | 5 => some [0, 1, 7, 8, 9, 10, 28] | 6 => some [4, 5, 6] | 7 => some [0, 1, 8, 9, 10, 11] | 8 => some [0, 1, 8, 9, 10, 11, 12] | 9 => some [0, 1, 8, 9, 10, 11, 12, 37] | 10 => some [0, 1, 8, 9, 10, 11, 12] | 11 => some [0, 1, 8, 11, 12, 65] | 12 => some [4, 5, 6] | 13 => some [0, 1, 8, 11, 12] | 14 => some [0, 1, 8, 9, 10, 11, 12] | 15 => some [4, 5, 6] | _ => none)
abbrev h62 : Hint := HQ h62a
@[go_sem] def h63a : Nat -> Option (List Nat) := (fun id => match id with | 0 => some [0] | 1 => some [3] | 2 => some [3, 8, 9, 10] | 3 => some [3, 8, 9, 10, 11] | 4 => some [3, 4, 5, 8, 9, 10] | 5 => some [3, 4, 5, 8, 9, 10, 20] | 6 => some [3, 4, 5, 8, 9, 10, 20] | 7 => some [3, 8, 9, 10] | 8 => some [2] | _ => none)
def h63 : Hint := ⟨h63a, (fun _ => none), (fun _ => none), [], true, (fun _ => none), fun _ => 0, 0, false, (fun _ => none)⟩
@[go_sem] theorem h63x : h63.mix = (fun _ => none) := rfl
@[go_sem] theorem h63l : h63.live = h63a := rfl
@[go_sem] theorem h63o : h63.mode = fun _ => 0 := rfl
@[go_sem] theorem h63k : h63.keep = (fun _ => none) := rfl
@[go_sem] theorem h63t : h63.tail = (fun _ => none) := rfl
@[go_sem] theorem h63v : h63.vars = [] := rfl
@[go_sem] theorem h63m : h63.mutc = true := rfl
@[go_sem] def h64a : Nat -> Option (List Nat) := (fun id => match id with | 0 => some [] | 1 => some [0] | _ => none)
def h64 : Hint := ⟨h64a, (fun _ => none), (fun _ => none), [], false, (fun _ => none), fun _ => 0, 1, false, (fun _ => none)⟩
@[go_sem] theorem h64x : h64.mix = (fun _ => none) := rfl
@[go_sem] theorem h64l : h64.live = h64a := rfl
@[go_sem] theorem h64o : h64.mode = fun _ => 0 := rfl
@[go_sem] theorem h64k : h64.keep = (fun _ => none) := rfl
@[go_sem] theorem h64t : h64.tail = (fun _ => none) := rfl
@[go_sem] theorem h64v : h64.vars = [] := rfl
@[go_sem] theorem h64m : h64.mutc = false := rfl
@[go_sem] def h65a : Nat -> Option (List Nat) := (fun id => match id with | 0 => some [0] | 1 => some [0, 5] | 2 => some [0, 5, 6] | 3 => some [0, 5, 6] | 4 => some [0, 5, 6, 7, 8] | 5 => some [0, 5, 6, 7, 8, 57] | 6 => some [0, 5, 6, 7, 8, 30] | 7 => some [9, 10] | 8 => some [2, 3, 4] | 9 => some [0, 5, 6, 7, 8, 41] | 10 => some [2, 3, 4] | 11 => some [0, 5, 6, 7, 8, 49] | 12 => some [2, 3, 4] | 13 => some [0, 5, 6, 7, 8, 57] | 14 => some [0, 5, 6, 7, 8, 57] | 15 => some [0, 6, 7, 8, 66] | 16 => some [0, 6, 7, 8, 11, 12] | 17 => some [0, 6, 7, 8, 11, 75] | 18 => some [0, 5, 6, 7, 8, 57] | 19 => some [0, 6, 7, 83] | 20 => some [2, 3, 4] | 21 => some [0, 6, 7, 13, 14] | 22 => some [0, 6, 7, 13, 89] | 23 => some [7, 15, 16] | 24 => some [2, 3, 4] | 25 => some [0, 7, 99] | 26 => some [2, 3, 4] | 27 => some [0, 7, 101] | 28 => some [2, 3, 4] | 29 => some [7, 8, 17] | 30 => some [2, 3, 4] | _ => none)
abbrev h65 : Hint := HQ h65a
@[go_sem] def h67a : Nat -> Option (List Nat) := (fun id => match id with | 0 => some [0] | 1 => some [0, 4] | 2 => some [0, 4, 5, 6] | 3 => some [0, 4, 5, 6] | 4 => some [2, 3] | 5 => some [0, 4, 5, 6, 13] | 6 => some [2, 3] | 7 => some [0, 4, 5, 6, 18] | 8 => some [0, 5, 6, 7, 8] | 9 => some [0, 4, 5, 6, 28] | 10 => some [0, 4, 5, 6, 7, 8] | 11 => some [0, 5, 6, 7, 8, 38] | 12 => some [0, 5, 6, 7, 8, 38, 39] | 13 => some [0, 5, 6, 7, 8, 38, 39] | 14 => some [0, 5, 6, 7, 8, 41] | 15 => some [0, 5, 6, 7, 8, 38, 39] | 16 => some [0, 4, 5, 6, 43] | 17 => some [0, 4, 5, 6, 7, 8] | 18 => some [0, 5, 6, 7, 8, 53] | 19 => some [0, 5, 6, 7, 8, 53, 54] | 20 => some [0, 5, 6, 7, 8, 53, 54] | 21 => some [0, 5, 6, 7, 8, 56] | 22 => some [0, 5, 6, 7, 8, 53, 54] | 23 => some [0, 5, 6, 7, 8, 58, 59] | 24 => some [0, 5, 6, 7, 8, 58, 59, 60] | 25 => some [0, 5, 6, 7, 8, 9, 58, 59] | 26 => some [0, 7, 8, 9, 58, 59, 84] | 27 => some [2, 3] | 28 => some [0, 7, 8, 58, 59] | 29 => some [0, 5, 6, 7, 8, 58, 59] | 30 => some [0, 5, 6, 7, 8, 58, 59] | 31 => some [2, 3] | _ => none)
abbrev h67 : Hint := HQ h67a
@[go_sem] def h68a : Nat -> Option (List Nat) := (fun id => match id with | 0 => some [0] | 1 => some [0, 3, 4] | 2 => some [0, 3, 4, 15] | 3 => some [0, 5] | 4 => some [0, 5, 19] | 5 => some [2] | 6 => some [5] | 7 => some [2] | 8 => some [0, 3, 4, 6] | 9 => some [0, 3, 4, 6, 7] | 10 => some [0, 3, 6, 7, 32] | 11 => some [0, 3, 4, 6, 7] | 12 => some [0, 6, 7] | 13 => some [0, 6, 7] | 14 => some [0, 3, 4, 6, 7] | 15 => some [0, 6, 54] | 16 => some [0, 6, 54] | 17 => some [6, 68] | 18 => some [2] | 19 => some [2] | _ => none)
abbrev h68 : Hint := HQ h68a
@[go_sem] def h69a : Nat -> Option (List Nat) := (fun id => match id with | 0 => some [0] | 1 => some [2] | _ => none)
abbrev h69 : Hint := HQ h69a
@[go_sem] def h70a : Nat -> Option (List Nat) := (fun id => match id with | 0 => some [0] | 1 => some [2] | _ => none)
abbrev h70 : Hint := HQ h70a
@[go_sem] def h71a : Nat -> Option (List Nat) := (fun id => match id with | 0 => some [0, 4] | 1 => some [0] | _ => none)
abbrev h71 : Hint := HQ h71a
@[go_sem] def h72a : Nat -> Option (List Nat) := (fun id => match id with | 0 => some [0, 2] | 1 => some [0, 2, 5, 6] | 2 => some [0, 2, 5, 6, 28] | 3 => some [0, 2, 5, 6] | 4 => some [0, 2, 5, 6, 28] | 5 => some [0, 2, 5, 6, 7] | 6 => some [0, 2, 6, 7, 8, 9, 10] | 7 => some [0, 2, 5, 6, 8, 9, 10] | 8 => some [0, 2, 5, 6, 8, 9, 10, 52] | 9 => some [0, 2, 5, 6, 7, 8] | 10 => some [0, 2, 5, 6, 7, 8, 60] | 11 => some [2, 3, 4] | 12 => some [0, 2, 5, 6, 7, 8] | 13 => some [0, 2, 6, 7, 8, 9, 10] | 14 => some [0, 2, 5, 6, 8, 9, 10, 52] | 15 => some [0, 2, 5, 6, 8, 9, 10, 75] | 16 => some [2, 3, 4] | 17 => some [0, 2, 5, 6, 8, 9, 10, 11] | 18 => some [0, 2, 5, 6, 8, 9, 10, 11, 80] | 19 => some [0, 2, 5, 6, 8, 9, 11, 90] | 20 => some [2, 3, 4] | 21 => some [0, 2, 5, 6, 8, 9, 10, 11] | 22 => some [0, 2, 5, 6, 8, 9, 10, 11] | 23 => some [0, 2, 5, 6, 8, 9, 10, 11, 12] | 24 => some [0, 2, 5, 6, 8, 9, 10, 11, 12, 109] | 25 => some [0, 2, 5, 6, 8, 9, 10, 11, 12] | 26 => some [0, 2, 5, 6, 8, 9, 10, 11, 12, 109] | 27 => some [0, 2, 5, 6, 7, 8, 9, 10, 11, 12] | 28 => some [0, 2, 5, 6, 7, 8, 9, 10, 11, 12, 127] | 29 => some [2, 3, 4] | 30 => some [0, 2, 5, 6, 7, 8, 9, 10, 11, 12, 131] | 31 => some [0, 2, 5, 6, 7, 8, 9, 10, 11, 12, 127] | 32 => some [0, 2, 5, 6, 7, 8, 9, 10, 11, 12] | 33 => some [2, 6, 8, 9, 10, 11, 143] | 34 => some [0, 2, 5, 6, 8, 9, 10, 11, 80] | 35 => some [2, 3, 4] | _ => none)
abbrev h72 : Hint := HQ h72a
@[go_sem] def h73a : Nat -> Option (List Nat) := (fun id => match id with | 0 => some [0, 1] | 1 => some [4] | _ => none)
abbrev h73 : Hint := HQ h73a
@[go_sem] def h74a : Nat -> Option (List Nat) := (fun id => match id with | 0 => some [0, 2] | 1 => some [0, 2] | 2 => some [0, 2, 3] | 3 => some [0, 2, 3, 4] | 4 => some [0, 2, 3] | 5 => some [0, 2, 3] | 6 => some [0, 2, 3, 4, 20] | 7 => some [2, 3] | 8 => some [2] | 9 => some [0, 2, 3, 4, 37] | 10 => some [0, 2, 3] | 11 => some [0, 2, 3, 4] | 12 => some [0, 2, 3, 49] | 13 => some [2] | 14 => some [0, 2, 3, 4, 52] | 15 => some [2] | 16 => some [0, 2, 3, 4, 69] | 17 => some [0, 2, 3, 76] | 18 => some [2] | 19 => some [0, 2, 3] | 20 => some [0, 2, 3] | _ => none)
def h74 : Hint := ⟨h74a, (fun _ => none), (fun _ => none), [3], false, (fun _ => none), fun _ => 0, 0, false, (fun _ => none)⟩
@[go_sem] theorem h74x : h74.mix = (fun _ => none) := rfl
@[go_sem] theorem h74l : h74.live = h74a := rfl
@[go_sem] theorem h74o : h74.mode = fun _ => 0 := rfl
@[go_sem] theorem h74k : h74.keep = (fun _ => none) := rfl
@[go_sem] theorem h74t : h74.tail = (fun _ => none) := rfl
@[go_sem] theorem h74v : h74.vars = [3] := rfl
@[go_sem] theorem h74m : h74.mutc = false := rfl
@[go_sem] def h75a : Nat -> Option (List Nat) := (fun id => match id with | 0 => some [0] | 1 => some [0, 3] | 2 => some [3, 6, 7, 8] | 3 => some [3, 6, 7, 8, 9] | 4 => some [3, 5, 6, 7, 8] | 5 => some [3, 5, 6, 7, 8, 14] | 6 => some [3, 5, 6, 7, 8, 14] | 7 => some [3, 6, 7, 8] | 8 => some [3, 5, 6, 7, 8, 36] | 9 => some [3, 6, 7, 8] | 10 => some [3, 5, 6, 7, 8, 44] | 11 => some [3, 6, 7, 8] | 12 => some [3, 5, 6, 7, 8, 58] | 13 => some [3, 6, 7, 8] | 14 => some [3, 6, 7, 8] | 15 => some [2] | _ => none)
def h75 : Hint := ⟨h75a, (fun _ => none), (fun _ => none), [3], false, (fun _ => none), fun _ => 0, 0, false, (fun _ => none)⟩
@[go_sem] theorem h75x : h75.mix = (fun _ => none) := rfl
@[go_sem] theorem h75l : h75.live = h75a := rfl
@[go_sem] theorem h75o : h75.mode = fun _ => 0 := rfl
@[go_sem] theorem h75k : h75.keep = (fun _ => none) := rfl
@[go_sem] theorem h75t : h75.tail = (fun _ => none) := rfl
@[go_sem] theorem h75v : h75.vars = [3] := rfl
@[go_sem] theorem h75m : h75.mutc = false := rfl
@[go_sem] def h76a : Nat -> Option (List Nat) := (fun id => match id with | 0 => some [0] | 1 => some [0, 5] | 2 => some [2, 3, 4] | 3 => some [0, 12] | 4 => some [2, 3, 4] | 5 => some [0, 15] | 6 => some [2, 3, 4] | 7 => some [0, 18] | 8 => some [2, 3, 4] | 9 => some [0, 25] | 10 => some [2, 3, 4] | 11 => some [0, 28] | 12 => some [2, 3, 4] | 13 => some [35] | 14 => some [2, 3, 4] | 15 => some [2, 3, 4] | _ => none)
abbrev h76 : Hint := HQ h76a
@[go_sem] def h77a : Nat -> Option (List Nat) := (fun id => match id with | 0 => some [1] | 1 => some [1, 30] | 2 => some [2, 3] | 3 => some [2, 3] | _ => none)
abbrev h77 : Hint := HQ h77a
@[go_sem] def h78a : Nat -> Option (List Nat) := (fun id => match id with | 0 => some [0, 1] | 1 => some [4, 5] | _ => none)
abbrev h78 : Hint := HQ h78a
@[go_sem] def h79a : Nat -> Option (List Nat) := (fun id => match id with | 0 => some [0, 1] | 1 => some [4] | _ => none)
abbrev h79 : Hint := HQ h79a
@[go_sem] def h80a : Nat -> Option (List Nat) := (fun id => match id with | 0 => some [0] | 1 => some [0, 14] | 2 => some [2, 3] | 3 => some [0, 4] | 4 => some [4, 16, 17, 18] | 5 => some [4, 16, 17, 18, 19] | 6 => some [4, 6, 16, 17, 18] | 7 => some [4, 6, 16, 17, 18, 27] | 8 => some [2, 3] | 9 => some [4, 16, 17, 18] | 10 => some [4, 16, 17, 18] | 11 => some [2, 3] | _ => none)
abbrev h80 : Hint := HQ h80a
@[go_sem] def h81a : Nat -> Option (List Nat) := (fun id => match id with | 0 => some [0] | 1 => some [0] | 2 => some [0, 13] | 3 => some [0] | 4 => some [2, 3] | 5 => some [0, 38] | 6 => some [2, 3] | 7 => some [0, 4] | 8 => some [0, 4] | 9 => some [0, 4] | 10 => some [0, 4, 5] | 11 => some [4, 5] | 12 => some [4, 5, 6, 7] | 13 => some [5, 6, 7, 64] | 14 => some [5, 6, 7, 64] | 15 => some [2, 3] | _ => none)
@[go_sem] def h81M : Nat -> Option Mix := (fun id => match id with | 15 => some ⟨[0, 1, 2, 3, 4, 5, 6, 7, 8, 9, 10, 11, 12], [], .head 0 (.head 1 (.head 2 (.head 3 (.head 4 (.head 5 (.head 6 (.head 7 (.alt (.one 8 (.alt (.one 9 (.alt (.one 10 (.alt (.one 11 (.alt (.one 12 (.one 13 (.one 14 (.fin)))) (.one 13 (.head 12 (.one 14 (.fin)))))) (.one 13 (.head 11 (.head 12 (.one 14 (.fin))))))) (.one 13 (.head 10 (.head 11 (.head 12 (.one 14 (.fin)))))))) (.one 13 (.head 9 (.head 10 (.head 11 (.head 12 (.one 14 (.fin))))))))) (.one 13 (.head 8 (.head 9 (.head 10 (.head 11 (.head 12 (.one 14 (.fin))))))))))))))))⟩ | _ => none)
def h81 : Hint := ⟨h81a, (fun _ => none), (fun id => match id with | 4 => some 15 | 15 => some 13 | _ => none), [], false, h81M, fun _ => 0, 0, false, (fun _ => none)⟩
@[go_sem] theorem h81e : h81.late = (fun _ => none) := rfl
@[go_sem] theorem h81x : h81.mix = h81M := rfl
@[go_sem] theorem h81l : h81.live = h81a := rfl
@[go_sem] theorem h81o : h81.mode = fun _ => 0 := rfl
@[go_sem] theorem h81k : h81.keep = (fun _ => none) := rfl
@[go_sem] theorem h81t : h81.tail = (fun id => match id with | 4 => some 15 | 15 => some 13 | _ => none) := rfl
@[go_sem] theorem h81v : h81.vars = [] := rfl
@[go_sem] theorem h81m : h81.mutc = false := rfl
@[go_sem] def h86a : Nat -> Option (List Nat) := (fun id => match id with | 0 => some [0] | 1 => some [0, 4] | 2 => some [2, 3] | 3 => some [0, 9] | 4 => some [2, 3] | 5 => some [0, 19] | 6 => some [2, 3] | 7 => some [2, 3] | _ => none)
abbrev h86 : Hint := HQ h86a
@[go_sem] def h87a : Nat -> Option (List Nat) := (fun id => match id with | 0 => some [0, 1] | 1 => some [0, 1, 14] | 2 => some [0, 1] | 3 => some [4] | _ => none)
abbrev h87 : Hint := HQ h87a
@[go_sem] def h88a : Nat -> Option (List Nat) := (fun id => match id with | 0 => some [0] | 1 => some [0] | _ => none)
abbrev h88 : Hint := HQ h88a
@[go_sem] def h89a : Nat -> Option (List Nat) := (fun id => match id with | 0 => some [0, 1, 2, 6] | 1 => some [0, 1, 2, 6, 7, 8] | 2 => some [0, 1, 2, 6, 7, 8, 25] | 3 => some [0, 1, 2, 6, 7, 8] | 4 => some [0, 1, 2, 6, 7, 8, 30] | 5 => some [6] | 6 => some [0, 1, 2, 6, 7, 8, 36] | 7 => some [0, 1, 2, 6, 7, 8] | 8 => some [0, 1, 2, 6, 7, 8, 30] | 9 => some [0, 1, 2, 6, 7, 8, 44] | 10 => some [6] | 11 => some [0, 1, 2, 6, 7, 8, 9] | 12 => some [0, 2, 6, 9, 50, 51, 52] | 13 => some [0, 2, 6, 9, 50, 51, 52, 53] | 14 => some [0, 2, 6, 9, 11, 50, 51, 52] | 15 => some [0, 2, 6, 9, 50, 51, 52] | 16 => some [0, 2, 6, 9, 50, 51, 52] | 17 => some [0, 2, 6, 9, 12] | 18 => some [0, 2, 6, 9, 12, 64] | 19 => some [0, 2, 6, 9, 12] | 20 => some [0, 2, 6, 9, 12, 68] | 21 => some [6] | 22 => some [0, 2, 6, 9, 12] | 23 => some [0, 6, 9, 12, 13, 14] | 24 => some [0, 6, 9, 12, 13, 14, 82] | 25 => some [0, 6, 9, 12, 13, 14] | 26 => some [0, 6, 9, 12, 13, 14, 93] | 27 => some [0, 6, 9, 12, 13, 14] | 28 => some [0, 6, 9, 12, 13, 14, 103] | 29 => some [6] | 30 => some [0, 6, 9, 12, 13, 14, 106] | 31 => some [0, 6, 9, 12, 13, 14, 103] | 32 => some [0, 6, 9, 12, 13, 14] | 33 => some [0, 6, 9, 12, 14, 112] | 34 => some [0, 6, 9, 12, 13, 14, 103] | 35 => some [0, 6, 9, 12, 14, 116] | 36 => some [6] | 37 => some [0, 6, 9, 12, 14] | 38 => some [6, 9, 12, 120] | 39 => some [6] | 40 => some [6] | _ => none)
abbrev h89 : Hint := HQ h89a
@[go_sem] def h90a : Nat -> Option (List Nat) := (fun id => match id with | 0 => some [0] | 1 => some [3] | 2 => some [3, 8, 9, 10] | 3 => some [3, 8, 9, 10, 11] | 4 => some [3, 4, 5, 8, 9, 10] | 5 => some [3, 4, 5, 8, 9, 10, 20] | 6 => some [3, 4, 5, 8, 9, 10, 20] | 7 => some [3, 8, 9, 10] | 8 => some [2] | _ => none)
def h90 : Hint := ⟨h90a, (fun _ => none), (fun _ => none), [], true, (fun _ => none), fun _ => 0, 0, false, (fun _ => none)⟩
@[go_sem] theorem h90x : h90.mix = (fun _ => none) := rfl
@[go_sem] theorem h90l : h90.live = h90a := rfl
@[go_sem] theorem h90o : h90.mode = fun _ => 0 := rfl
@[go_sem] theorem h90k : h90.keep = (fun _ => none) := rfl
@[go_sem] theorem h90t : h90.tail = (fun _ => none) := rfl
@[go_sem] theorem h90v : h90.vars = [] := rfl
@[go_sem] theorem h90m : h90.mutc = true := rfl
@[go_sem] def h91a : Nat -> Option (List Nat) := (fun id => match id with | 0 => some [0, 2] | 1 => some [0, 2, 3] | 2 => some [0, 2, 3] | 3 => some [0, 2, 3, 18] | 4 => some [2] | 5 => some [0, 2, 23] | 6 => some [0, 2] | _ => none)
abbrev h91 : Hint := HQ h91a
@[go_sem] def h92a : Nat -> Option (List Nat) := (fun id => match id with | 0 => some [0] | 1 => some [2] | _ => none)
abbrev h92 : Hint := HQ h92a
@[go_sem] def h93a : Nat -> Option (List Nat) := (fun id => match id with | 0 => some [1] | 1 => some [2] | _ => none)
abbrev h93 : Hint := HQ h93a
@[go_sem] def h94a : Nat -> Option (List Nat) := (fun id => match id with | 0 => some [0, 1] | 1 => some [0, 1, 9] | 2 => some [4, 5] | 3 => some [4, 5] | _ => none)
abbrev h94 : Hint := HQ h94a
@[go_sem] def h95a : Nat -> Option (List Nat) := (fun id => match id with | 0 => some [0, 1] | 1 => some [4] | _ => none)
abbrev h95 : Hint := HQ h95a
@[go_sem] def h98a : Nat -> Option (List Nat) := (fun id => match id with | 0 => some [0] | 1 => some [2] | _ => none)
abbrev h98 : Hint := HQ h98a
@[go_sem] def h99a : Nat -> Option (List Nat) := (fun id => match id with | 0 => some [0, 2] | 1 => some [2] | _ => none)
abbrev h99 : Hint := HQ h99a
@[go_sem] def h100a : Nat -> Option (List Nat) := (fun id => match id with | 0 => some [1] | 1 => some [2] | _ => none)
def h100 : Hint := ⟨h100a, (fun _ => none), (fun id => match id with | 1 => some 18 | _ => none), [], false, (fun _ => none), fun _ => 0, 0, false, (fun _ => none)⟩
@[go_sem] theorem h100e : h100.late = (fun _ => none) := rfl
@[go_sem] theorem h100x : h100.mix = (fun _ => none) := rfl
@[go_sem] theorem h100l : h100.live = h100a := rfl
@[go_sem] theorem h100o : h100.mode = fun _ => 0 := rfl
@[go_sem] theorem h100k : h100.keep = (fun _ => none) := rfl
@[go_sem] theorem h100t : h100.tail = (fun id => match id with | 1 => some 18 | _ => none) := rfl
@[go_sem] theorem h100v : h100.vars = [] := rfl
@[go_sem] theorem h100m : h100.mutc = false := rfl
@[go_sem] def h101a : Nat -> Option (List Nat) := (fun id => match id with | 0 => some [0, 1] | 1 => some [0, 1, 6] | 2 => some [0, 1] | 3 => some [4] | _ => none)
abbrev h101 : Hint := HQ h101a
@[go_sem] def h102a : Nat -> Option (List Nat) := (fun id => match id with | 0 => some [0] | 1 => some [0, 4] | 2 => some [2] | 3 => some [2] | _ => none)
abbrev h102 : Hint := HQ h102a
def hints (f : Nat) : Hint := match f with
 | 3 => h3
 | 4 => h4
 | 5 => h5
 | 6 => h6
 | 7 => h7
 | 8 => h8
 | 9 => h9
 | 10 => h10
 | 11 => h11
 | 12 => h12
 | 13 => h13
 | 14 => h14
 | 15 => h15
 | 16 => h16
 | 17 => h17
 | 18 => h18
 | 19 => h19
 | 20 => h20
 | 21 => h21
 | 22 => h22
 | 23 => h23
 | 24 => h24
 | 25 => h25
 | 26 => h26
 | 27 => h27
 | 28 => h28
 | 29 => h29
 | 30 => h30
 | 31 => h31
 | 32 => h32
 | 33 => h33
 | 34 => h34
 | 35 => h35
 | 36 => h36
 | 37 => h37
 | 38 => h38
 | 39 => h39
 | 40 => h40
 | 41 => h41
 | 42 => h42
 | 43 => h43
 | 44 => h44
 | 45 => h45
 | 46 => h46
 | 47 => h47
 | 48 => h48
 | 49 => h49
 | 50 => h50
 | 51 => h51
 | 52 => h52
 | 53 => h53
 | 54 => h54
 | 55 => h55
 | 56 => h56
 | 57 => h57
 | 58 => h58
 | 59 => h59
 | 60 => h60
 | 61 => h61
 | 62 => h62
 | 63 => h63
 | 64 => h64
 | 65 => h65
 | 67 => h67
 | 68 => h68
 | 69 => h69
 | 70 => h70
 | 71 => h71
 | 72 => h72
 | 73 => h73
 | 74 => h74
 | 75 => h75
 | 76 => h76
 | 77 => h77
 | 78 => h78
 | 79 => h79
 | 80 => h80
 | 81 => h81
 | 86 => h86
 | 87 => h87
 | 88 => h88
 | 89 => h89
 | 90 => h90
 | 91 => h91
 | 92 => h92
 | 93 => h93
 | 94 => h94
 | 95 => h95
 | 98 => h98
 | 99 => h99
 | 100 => h100
 | 101 => h101
 | 102 => h102
 | _ => ⟨fun _ => none, fun _ => none, fun _ => none, [], false, fun _ => none, fun _ => 0, 0, false, fun _ => none⟩
variable [MX]
noncomputable def E : CallF := ev Tryd.prog hints primz
noncomputable def b3 : Code := bodyOf Tryd.f3
noncomputable def l3x0 : Code := loopAt b3 0
theorem c3 : codeOk Tryd.prog h3 67 b3 = true := by kernel_rfl
theorem e3 {lo : Nat} {args : List V} {h : Heap} (ha : args.length <= 67) (hb : args.all bare = true) :
  E lo 3 args h = fin Tryd.prog [.tmp 2] h.length (evCode ⟨Tryd.prog, E, lo, h.length, h3⟩ loopW b3 (args0 args, h)) :=
 ev_body rfl Tryd.func3 rfl Tryd.ntmps3 (by kernel_rfl) rfl c3 rfl rfl rfl ha hb
noncomputable def b4 : Code := bodyOf Tryd.f4
theorem c4 : codeOk Tryd.prog h4 5 b4 = true := by kernel_rfl
theorem e4 {lo : Nat} {args : List V} {h : Heap} (ha : args.length <= 5) (hb : args.all bare = true) :
  E lo 4 args h = fin Tryd.prog [.tmp 2] h.length (evCode ⟨Tryd.prog, E, lo, h.length, h4⟩ loopW b4 (args0 args, h)) :=
 ev_body rfl Tryd.func4 rfl Tryd.ntmps4 (by kernel_rfl) rfl c4 rfl rfl rfl ha hb
noncomputable def b5 : Code := bodyOf Tryd.f5
theorem c5 : codeOk Tryd.prog h5 22 b5 = true := by kernel_rfl
theorem e5 {lo : Nat} {args : List V} {h : Heap} (ha : args.length <= 22) (hb : args.all bare = true) :
  E lo 5 args h = fin Tryd.prog [.tmp 2, .tmp 3] h.length (evCode ⟨Tryd.prog, E, lo, h.length, h5⟩ loopW b5 (args0 args, h)) :=
 ev_body rfl Tryd.func5 rfl Tryd.ntmps5 (by kernel_rfl) rfl c5 rfl rfl rfl ha hb
noncomputable def b6 : Code := bodyOf Tryd.f6
noncomputable def b7 : Code := bodyOf Tryd.f7
noncomputable def l7x0 : Code := loopAt b7 0
theorem c7 : codeOk Tryd.prog h7 36 b7 = true := by kernel_rfl
theorem e7 {lo : Nat} {args : List V} {h : Heap} (ha : args.length <= 36) (hb : args.all bare = true) :
  E lo 7 args h = fin Tryd.prog [.tmp 2] h.length (evCode ⟨Tryd.prog, E, lo, h.length, h7⟩ loopW b7 (args0 args, h)) :=
 ev_body rfl Tryd.func7 rfl Tryd.ntmps7 (by kernel_rfl) rfl c7 rfl rfl rfl ha hb
noncomputable def b8 : Code := bodyOf Tryd.f8
noncomputable def l8x0 : Code := loopAt b8 0
noncomputable def l8x1 : Code := loopAt b8 1
noncomputable def l8x2 : Code := loopAt b8 2
theorem c8 : codeOk Tryd.prog h8 139 b8 = true := by kernel_rfl
theorem e8 {lo : Nat} {args : List V} {h : Heap} (ha : args.length <= 139) (hb : args.all bare = true) :
  E lo 8 args h = fin Tryd.prog [.tmp 4] h.length (evCode ⟨Tryd.prog, E, lo, h.length, h8⟩ loopW b8 (args0 args, h)) :=
 ev_body rfl Tryd.func8 rfl Tryd.ntmps8 (by kernel_rfl) rfl c8 rfl rfl rfl ha hb
noncomputable def b9 : Code := bodyOf Tryd.f9
noncomputable def l9x0 : Code := loopAt b9 0
theorem c9 : codeOk Tryd.prog h9 43 b9 = true := by kernel_rfl
theorem e9 {lo : Nat} {args : List V} {h : Heap} (ha : args.length <= 43) (hb : args.all bare = true) :
  E lo 9 args h = fin Tryd.prog [.tmp 4] h.length (evCode ⟨Tryd.prog, E, lo, h.length, h9⟩ loopW b9 (args0 args, h)) :=
 ev_body rfl Tryd.func9 rfl Tryd.ntmps9 (by kernel_rfl) rfl c9 rfl rfl rfl ha hb
noncomputable def b10 : Code := bodyOf Tryd.f10
theorem c10 : codeOk Tryd.prog h10 5 b10 = true := by kernel_rfl
theorem e10 {lo : Nat} {args : List V} {h : Heap} (ha : args.length <= 5) (hb : args.all bare = true) :
  E lo 10 args h = fin Tryd.prog [.tmp 2] h.length (evCode ⟨Tryd.prog, E, lo, h.length, h10⟩ loopW b10 (args0 args, h)) :=
 ev_body rfl Tryd.func10 rfl Tryd.ntmps10 (by kernel_rfl) rfl c10 rfl rfl rfl ha hb
noncomputable def b11 : Code := bodyOf Tryd.f11
noncomputable def l11x0 : Code := loopAt b11 0
theorem c11 : codeOk Tryd.prog h11 31 b11 = true := by kernel_rfl
theorem e11 {lo : Nat} {args : List V} {h : Heap} (ha : args.length <= 31) (hb : args.all bare = true) :
  E lo 11 args h = fin Tryd.prog [.tmp 2, .tmp 3] h.length (evCode ⟨Tryd.prog, E, lo, h.length, h11⟩ loopW b11 (args0 args, h)) :=
 ev_body rfl Tryd.func11 rfl Tryd.ntmps11 (by kernel_rfl) rfl c11 rfl rfl rfl ha hb
noncomputable def b12 : Code := bodyOf Tryd.f12
theorem c12 : codeOk Tryd.prog h12 5 b12 = true := by kernel_rfl
theorem e12 {lo : Nat} {args : List V} {h : Heap} (ha : args.length <= 5) (hb : args.all bare = true) :
  E lo 12 args h = fin Tryd.prog [.tmp 2] h.length (evCode ⟨Tryd.prog, E, lo, h.length, h12⟩ loopW b12 (args0 args, h)) :=
 ev_body rfl Tryd.func12 rfl Tryd.ntmps12 (by kernel_rfl) rfl c12 rfl rfl rfl ha hb
noncomputable def b13 : Code := bodyOf Tryd.f13
theorem c13 : codeOk Tryd.prog h13 7 b13 = true := by kernel_rfl
theorem e13 {lo : Nat} {args : List V} {h : Heap} (ha : args.length <= 7) (hb : args.all bare = true) :
  E lo 13 args h = fin Tryd.prog [.tmp 2] h.length (evCode ⟨Tryd.prog, E, lo, h.length, h13⟩ loopW b13 (args0 args, h)) :=
 ev_body rfl Tryd.func13 rfl Tryd.ntmps13 (by kernel_rfl) rfl c13 rfl rfl rfl ha hb
noncomputable def b14 : Code := bodyOf Tryd.f14
noncomputable def l14x0 : Code := loopAt b14 0
noncomputable def l14x1 : Code := loopAt b14 1
theorem c14 : codeOk Tryd.prog h14 36 b14 = true := by kernel_rfl
theorem e14 {lo : Nat} {args : List V} {h : Heap} (ha : args.length <= 36) (hb : args.all bare = true) :
  E lo 14 args h = fin Tryd.prog [.tmp 2] h.length (evCode ⟨Tryd.prog, E, lo, h.length, h14⟩ loopW b14 (args0 args, h)) :=
 ev_body rfl Tryd.func14 rfl Tryd.ntmps14 (by kernel_rfl) rfl c14 rfl rfl rfl ha hb
noncomputable def b15 : Code := bodyOf Tryd.f15
theorem c15 : codeOk Tryd.prog h15 11 b15 = true := by kernel_rfl
theorem e15 {lo : Nat} {args : List V} {h : Heap} (ha : args.length <= 11) (hb : args.all bare = true) :
  E lo 15 args h = fin Tryd.prog [.tmp 2] h.length (evCode ⟨Tryd.prog, E, lo, h.length, h15⟩ loopW b15 (args0 args, h)) :=
 ev_body rfl Tryd.func15 rfl Tryd.ntmps15 (by kernel_rfl) rfl c15 rfl rfl rfl ha hb
noncomputable def b16 : Code := bodyOf Tryd.f16
noncomputable def l16x0 : Code := loopAt b16 0
theorem c16 : codeOk Tryd.prog h16 43 b16 = true := by kernel_rfl
theorem e16 {lo : Nat} {args : List V} {h : Heap} (ha : args.length <= 43) (hb : args.all bare = true) :
  E lo 16 args h = fin Tryd.prog [.tmp 4] h.length (evCode ⟨Tryd.prog, E, lo, h.length, h16⟩ loopW b16 (args0 args, h)) :=
 ev_body rfl Tryd.func16 rfl Tryd.ntmps16 (by kernel_rfl) rfl c16 rfl rfl rfl ha hb
noncomputable def b17 : Code := bodyOf Tryd.f17
noncomputable def l17x0 : Code := loopAt b17 0
theorem c17 : codeOk Tryd.prog h17 36 b17 = true := by kernel_rfl
theorem e17 {lo : Nat} {args : List V} {h : Heap} (ha : args.length <= 36) (hb : args.all bare = true) :
  E lo 17 args h = fin Tryd.prog [.tmp 2] h.length (evCode ⟨Tryd.prog, E, lo, h.length, h17⟩ loopW b17 (args0 args, h)) :=
 ev_body rfl Tryd.func17 rfl Tryd.ntmps17 (by kernel_rfl) rfl c17 rfl rfl rfl ha hb
noncomputable def b18 : Code := bodyOf Tryd.f18
noncomputable def l18x0 : Code := loopAt b18 0
theorem c18 : codeOk Tryd.prog h18 46 b18 = true := by kernel_rfl
/- a method -/
theorem e18 {lo : Nat} {args : List V} {h : Heap} (ha : args.length <= 46) (hb : args.all bare = true) :
  E lo 18 args h = fin Tryd.prog [.cell 2 39, .tmp 3] h.length (evCode ⟨Tryd.prog, E, lo, h.length, h18⟩ loopW b18 (args0 args, h)) :=
 ev_body rfl Tryd.func18 rfl Tryd.ntmps18 (by kernel_rfl) rfl c18 rfl rfl rfl ha hb
noncomputable def b19 : Code := bodyOf Tryd.f19
noncomputable def l19x0 : Code := loopAt b19 0
noncomputable def l19x1 : Code := loopAt b19 1
noncomputable def l19x2 : Code := loopAt b19 2
theorem c19 : codeOk Tryd.prog h19 82 b19 = true := by kernel_rfl
theorem e19 {lo : Nat} {args : List V} {h : Heap} (ha : args.length <= 82) (hb : args.all bare = true) :
  E lo 19 args h = fin Tryd.prog [.tmp 4] h.length (evCode ⟨Tryd.prog, E, lo, h.length, h19⟩ loopW b19 (args0 args, h)) :=
 ev_body rfl Tryd.func19 rfl Tryd.ntmps19 (by kernel_rfl) rfl c19 rfl rfl rfl ha hb
noncomputable def b20 : Code := bodyOf Tryd.f20
noncomputable def l20x0 : Code := loopAt b20 0
noncomputable def l20x1 : Code := loopAt b20 1
theorem c20 : codeOk Tryd.prog h20 66 b20 = true := by kernel_rfl
theorem e20 {lo : Nat} {args : List V} {h : Heap} (ha : args.length <= 66) (hb : args.all bare = true) :
  E lo 20 args h = fin Tryd.prog [.tmp 2] h.length (evCode ⟨Tryd.prog, E, lo, h.length, h20⟩ loopW b20 (args0 args, h)) :=
 ev_body rfl Tryd.func20 rfl Tryd.ntmps20 (by kernel_rfl) rfl c20 rfl rfl rfl ha hb
noncomputable def b21 : Code := bodyOf Tryd.f21
theorem c21 : codeOk Tryd.prog h21 6 b21 = true := by kernel_rfl
theorem e21 {lo : Nat} {args : List V} {h : Heap} (ha : args.length <= 6) (hb : args.all bare = true) :
  E lo 21 args h = fin Tryd.prog [.tmp 2] h.length (evCode ⟨Tryd.prog, E, lo, h.length, h21⟩ loopW b21 (args0 args, h)) :=
 ev_body rfl Tryd.func21 rfl Tryd.ntmps21 (by kernel_rfl) rfl c21 rfl rfl rfl ha hb
noncomputable def b22 : Code := bodyOf Tryd.f22
theorem c22 : codeOk Tryd.prog h22 7 b22 = true := by kernel_rfl
theorem e22 {lo : Nat} {args : List V} {h : Heap} (ha : args.length <= 7) (hb : args.all bare = true) :
  E lo 22 args h = fin Tryd.prog [.tmp 2] h.length (evCode ⟨Tryd.prog, E, lo, h.length, h22⟩ loopW b22 (args0 args, h)) :=
 ev_body rfl Tryd.func22 rfl Tryd.ntmps22 (by kernel_rfl) rfl c22 rfl rfl rfl ha hb
noncomputable def b23 : Code := bodyOf Tryd.f23
theorem c23 : codeOk Tryd.prog h23 12 b23 = true := by kernel_rfl
theorem e23 {lo : Nat} {args : List V} {h : Heap} (ha : args.length <= 12) (hb : args.all bare = true) :
  E lo 23 args h = fin Tryd.prog [.tmp 2] h.length (evCode ⟨Tryd.prog, E, lo, h.length, h23⟩ loopW b23 (args0 args, h)) :=
 ev_body rfl Tryd.func23 rfl Tryd.ntmps23 (by kernel_rfl) rfl c23 rfl rfl rfl ha hb
noncomputable def b24 : Code := bodyOf Tryd.f24
theorem c24 : codeOk Tryd.prog h24 6 b24 = true := by kernel_rfl
theorem e24 {lo : Nat} {args : List V} {h : Heap} (ha : args.length <= 6) (hb : args.all bare = true) :
  E lo 24 args h = fin Tryd.prog [.tmp 2] h.length (evCode ⟨Tryd.prog, E, lo, h.length, h24⟩ loopW b24 (args0 args, h)) :=
 ev_body rfl Tryd.func24 rfl Tryd.ntmps24 (by kernel_rfl) rfl c24 rfl rfl rfl ha hb
noncomputable def b25 : Code := bodyOf Tryd.f25
noncomputable def l25x0 : Code := loopAt b25 0
theorem c25 : codeOk Tryd.prog h25 79 b25 = true := by kernel_rfl
/- a method -/
theorem e25 {lo : Nat} {args : List V} {h : Heap} (ha : args.length <= 79) (hb : args.all bare = true) :
  E lo 25 args h = fin Tryd.prog [.tmp 4] h.length (evCode ⟨Tryd.prog, E, lo, h.length, h25⟩ loopW b25 (args0 args, h)) :=
 ev_body rfl Tryd.func25 rfl Tryd.ntmps25 (by kernel_rfl) rfl c25 rfl rfl rfl ha hb
noncomputable def b26 : Code := bodyOf Tryd.f26
theorem c26 : codeOk Tryd.prog h26 13 b26 = true := by kernel_rfl
/- a method -/
theorem e26 {lo : Nat} {args : List V} {h : Heap} (ha : args.length <= 13) (hb : args.all bare = true) :
  E lo 26 args h = fin Tryd.prog [.tmp 2] h.length (evCode ⟨Tryd.prog, E, lo, h.length, h26⟩ loopW b26 (args0 args, h)) :=
 ev_body rfl Tryd.func26 rfl Tryd.ntmps26 (by kernel_rfl) rfl c26 rfl rfl rfl ha hb
noncomputable def b27 : Code := bodyOf Tryd.f27
noncomputable def l27x0 : Code := loopAt b27 0
theorem c27 : codeOk Tryd.prog h27 25 b27 = true := by kernel_rfl
/- a method -/
theorem e27 {lo : Nat} {args : List V} {h : Heap} (ha : args.length <= 25) (hb : args.all bare = true) :
  E lo 27 args h = fin Tryd.prog [.tmp 2] h.length (evCode ⟨Tryd.prog, E, lo, h.length, h27⟩ loopW b27 (args0 args, h)) :=
 ev_body rfl Tryd.func27 rfl Tryd.ntmps27 (by kernel_rfl) rfl c27 rfl rfl rfl ha hb
noncomputable def b28 : Code := bodyOf Tryd.f28
theorem c28 : codeOk Tryd.prog h28 26 b28 = true := by kernel_rfl
/- a method -/
theorem e28 {lo : Nat} {args : List V} {h : Heap} (ha : args.length <= 26) (hb : args.all bare = true) :
  E lo 28 args h = fin Tryd.prog [.tmp 6] h.length (evCode ⟨Tryd.prog, E, lo, h.length, h28⟩ loopW b28 (args0 args, h)) :=
 ev_body rfl Tryd.func28 rfl Tryd.ntmps28 (by kernel_rfl) rfl c28 rfl rfl rfl ha hb
noncomputable def b29 : Code := bodyOf Tryd.f29
theorem c29 : codeOk Tryd.prog h29 135 b29 = true := by kernel_rfl
theorem e29 {lo : Nat} {args : List V} {h : Heap} (ha : args.length <= 135) (hb : args.all bare = true) :
  E lo 29 args h = fin Tryd.prog [.tmp 4] h.length (evCode ⟨Tryd.prog, E, lo, h.length, h29⟩ loopW b29 (args0 args, h)) :=
 ev_body rfl Tryd.func29 rfl Tryd.ntmps29 (by kernel_rfl) rfl c29 rfl rfl rfl ha hb
noncomputable def b30 : Code := bodyOf Tryd.f30
theorem c30 : codeOk Tryd.prog h30 56 b30 = true := by kernel_rfl
theorem e30 {lo : Nat} {args : List V} {h : Heap} (ha : args.length <= 56) (hb : args.all bare = true) :
  E lo 30 args h = fin Tryd.prog [.tmp 2] h.length (evCode ⟨Tryd.prog, E, lo, h.length, h30⟩ loopW b30 (args0 args, h)) :=
 ev_body rfl Tryd.func30 rfl Tryd.ntmps30 (by kernel_rfl) rfl c30 rfl rfl rfl ha hb
noncomputable def b31 : Code := bodyOf Tryd.f31
noncomputable def l31x0 : Code := loopAt b31 0
theorem c31 : codeOk Tryd.prog h31 19 b31 = true := by kernel_rfl
theorem e31 {lo : Nat} {args : List V} {h : Heap} (ha : args.length <= 19) (hb : args.all bare = true) :
  E lo 31 args h = fin Tryd.prog [.tmp 2] h.length (evCode ⟨Tryd.prog, E, lo, h.length, h31⟩ loopW b31 (args0 args, h)) :=
 ev_body rfl Tryd.func31 rfl Tryd.ntmps31 (by kernel_rfl) rfl c31 rfl rfl rfl ha hb
noncomputable def b32 : Code := bodyOf Tryd.f32
noncomputable def l32x0 : Code := loopAt b32 0
theorem c32 : codeOk Tryd.prog h32 58 b32 = true := by kernel_rfl
theorem e32 {lo : Nat} {args : List V} {h : Heap} (ha : args.length <= 58) (hb : args.all bare = true) :
  E lo 32 args h = fin Tryd.prog [.tmp 2] h.length (evCode ⟨Tryd.prog, E, lo, h.length, h32⟩ loopW b32 (args0 args, h)) :=
 ev_body rfl Tryd.func32 rfl Tryd.ntmps32 (by kernel_rfl) rfl c32 rfl rfl rfl ha hb
noncomputable def b33 : Code := bodyOf Tryd.f33
noncomputable def l33x0 : Code := loopAt b33 0
theorem c33 : codeOk Tryd.prog h33 23 b33 = true := by kernel_rfl
theorem e33 {lo : Nat} {args : List V} {h : Heap} (ha : args.length <= 23) (hb : args.all bare = true) :
  E lo 33 args h = fin Tryd.prog [.tmp 2] h.length (evCode ⟨Tryd.prog, E, lo, h.length, h33⟩ loopW b33 (args0 args, h)) :=
 ev_body rfl Tryd.func33 rfl Tryd.ntmps33 (by kernel_rfl) rfl c33 rfl rfl rfl ha hb
noncomputable def b34 : Code := bodyOf Tryd.f34
noncomputable def l34x0 : Code := loopAt b34 0
noncomputable def l34x1 : Code := loopAt b34 1
theorem c34 : codeOk Tryd.prog h34 32 b34 = true := by kernel_rfl
theorem e34 {lo : Nat} {args : List V} {h : Heap} (ha : args.length <= 32) (hb : args.all bare = true) :
  E lo 34 args h = fin Tryd.prog [.tmp 2] h.length (evCode ⟨Tryd.prog, E, lo, h.length, h34⟩ loopW b34 (args0 args, h)) :=
 ev_body rfl Tryd.func34 rfl Tryd.ntmps34 (by kernel_rfl) rfl c34 rfl rfl rfl ha hb
noncomputable def b35 : Code := bodyOf Tryd.f35
theorem c35 : codeOk Tryd.prog h35 31 b35 = true := by kernel_rfl
/- a method -/
theorem e35 {lo : Nat} {args : List V} {h : Heap} (ha : args.length <= 31) (hb : args.all bare = true) :
  E lo 35 args h = fin Tryd.prog [.cell 4 46] h.length (evCode ⟨Tryd.prog, E, lo, h.length, h35⟩ loopW b35 (args0 args, h)) :=
 ev_body rfl Tryd.func35 rfl Tryd.ntmps35 (by kernel_rfl) rfl c35 rfl rfl rfl ha hb
noncomputable def b36 : Code := bodyOf Tryd.f36
theorem c36 : codeOk Tryd.prog h36 126 b36 = true := by kernel_rfl
/- a method -/
theorem e36 {lo : Nat} {args : List V} {h : Heap} (ha : args.length <= 126) (hb : args.all bare = true) :
  E lo 36 args h = fin Tryd.prog [.cell 2 51, .tmp 3, .tmp 4] h.length (evCode ⟨Tryd.prog, E, lo, h.length, h36⟩ loopW b36 (args0 args, h)) :=
 ev_body rfl Tryd.func36 rfl Tryd.ntmps36 (by kernel_rfl) rfl c36 rfl rfl rfl ha hb
noncomputable def b37 : Code := bodyOf Tryd.f37
theorem c37 : codeOk Tryd.prog h37 9 b37 = true := by kernel_rfl
theorem e37 {lo : Nat} {args : List V} {h : Heap} (ha : args.length <= 9) (hb : args.all bare = true) :
  E lo 37 args h = fin Tryd.prog [.tmp 4] h.length (evCode ⟨Tryd.prog, E, lo, h.length, h37⟩ loopW b37 (args0 args, h)) :=
 ev_body rfl Tryd.func37 rfl Tryd.ntmps37 (by kernel_rfl) rfl c37 rfl rfl rfl ha hb
noncomputable def b38 : Code := bodyOf Tryd.f38
theorem c38 : codeOk Tryd.prog h38 9 b38 = true := by kernel_rfl
theorem e38 {lo : Nat} {args : List V} {h : Heap} (ha : args.length <= 9) (hb : args.all bare = true) :
  E lo 38 args h = fin Tryd.prog [.tmp 2] h.length (evCode ⟨Tryd.prog, E, lo, h.length, h38⟩ loopW b38 (args0 args, h)) :=
 ev_body rfl Tryd.func38 rfl Tryd.ntmps38 (by kernel_rfl) rfl c38 rfl rfl rfl ha hb
noncomputable def b39 : Code := bodyOf Tryd.f39
theorem c39 : codeOk Tryd.prog h39 11 b39 = true := by kernel_rfl
theorem e39 {lo : Nat} {args : List V} {h : Heap} (ha : args.length <= 11) (hb : args.all bare = true) :
  E lo 39 args h = fin Tryd.prog [.tmp 2] h.length (evCode ⟨Tryd.prog, E, lo, h.length, h39⟩ loopW b39 (args0 args, h)) :=
 ev_body rfl Tryd.func39 rfl Tryd.ntmps39 (by kernel_rfl) rfl c39 rfl rfl rfl ha hb
noncomputable def b40 : Code := bodyOf Tryd.f40
theorem c40 : codeOk Tryd.prog h40 9 b40 = true := by kernel_rfl
theorem e40 {lo : Nat} {args : List V} {h : Heap} (ha : args.length <= 9) (hb : args.all bare = true) :
  E lo 40 args h = fin Tryd.prog [.tmp 2] h.length (evCode ⟨Tryd.prog, E, lo, h.length, h40⟩ loopW b40 (args0 args, h)) :=
 ev_body rfl Tryd.func40 rfl Tryd.ntmps40 (by kernel_rfl) rfl c40 rfl rfl rfl ha hb
noncomputable def b41 : Code := bodyOf Tryd.f41
noncomputable def l41x0 : Code := loopAt b41 0
noncomputable def l41x1 : Code := loopAt b41 1
theorem c41 : codeOk Tryd.prog h41 44 b41 = true := by kernel_rfl
/- a method -/
theorem e41 {lo : Nat} {args : List V} {h : Heap} (ha : args.length <= 44) (hb : args.all bare = true) :
  E lo 41 args h = fin Tryd.prog [] h.length (evCode ⟨Tryd.prog, E, lo, h.length, h41⟩ loopW b41 (args0 args, h)) :=
 ev_body rfl Tryd.func41 rfl Tryd.ntmps41 (by kernel_rfl) rfl c41 rfl rfl rfl ha hb
noncomputable def b42 : Code := bodyOf Tryd.f42
theorem c42 : codeOk Tryd.prog h42 33 b42 = true := by kernel_rfl
/- a method -/
theorem e42 {lo : Nat} {args : List V} {h : Heap} (ha : args.length <= 33) (hb : args.all bare = true) :
  E lo 42 args h = fin Tryd.prog [.tmp 4] h.length (evCode ⟨Tryd.prog, E, lo, h.length, h42⟩ loopW b42 (args0 args, h)) :=
 ev_body rfl Tryd.func42 rfl Tryd.ntmps42 (by kernel_rfl) rfl c42 rfl rfl rfl ha hb
noncomputable def b43 : Code := bodyOf Tryd.f43
noncomputable def l43x0 : Code := loopAt b43 0
theorem c43 : codeOk Tryd.prog h43 177 b43 = true := by kernel_rfl
/- a method -/
theorem e43 {lo : Nat} {args : List V} {h : Heap} (ha : args.length <= 177) (hb : args.all bare = true) :
  E lo 43 args h = fin Tryd.prog [.cell 2 46] h.length (evCode ⟨Tryd.prog, E, lo, h.length, h43⟩ loopW b43 (args0 args, h)) :=
 ev_body rfl Tryd.func43 rfl Tryd.ntmps43 (by kernel_rfl) rfl c43 rfl rfl rfl ha hb
noncomputable def b44 : Code := bodyOf Tryd.f44
noncomputable def l44x0 : Code := loopAt b44 0
theorem c44 : codeOk Tryd.prog h44 27 b44 = true := by kernel_rfl
theorem e44 {lo : Nat} {args : List V} {h : Heap} (ha : args.length <= 27) (hb : args.all bare = true) :
  E lo 44 args h = fin Tryd.prog [.tmp 2] h.length (evCode ⟨Tryd.prog, E, lo, h.length, h44⟩ loopW b44 (args0 args, h)) :=
 ev_body rfl Tryd.func44 rfl Tryd.ntmps44 (by kernel_rfl) rfl c44 rfl rfl rfl ha hb
noncomputable def b45 : Code := bodyOf Tryd.f45
theorem c45 : codeOk Tryd.prog h45 7 b45 = true := by kernel_rfl
theorem e45 {lo : Nat} {args : List V} {h : Heap} (ha : args.length <= 7) (hb : args.all bare = true) :
  E lo 45 args h = fin Tryd.prog [.tmp 2] h.length (evCode ⟨Tryd.prog, E, lo, h.length, h45⟩ loopW b45 (args0 args, h)) :=
 ev_body rfl Tryd.func45 rfl Tryd.ntmps45 (by kernel_rfl) rfl c45 rfl rfl rfl ha hb
noncomputable def b46 : Code := bodyOf Tryd.f46
noncomputable def l46x0 : Code := loopAt b46 0
theorem c46 : codeOk Tryd.prog h46 125 b46 = true := by kernel_rfl
/- a method -/
theorem e46 {lo : Nat} {args : List V} {h : Heap} (ha : args.length <= 125) (hb : args.all bare = true) :
  E lo 46 args h = fin Tryd.prog [.cell 2 51, .tmp 3] h.length (evCode ⟨Tryd.prog, E, lo, h.length, h46⟩ loopW b46 (args0 args, h)) :=
 ev_body rfl Tryd.func46 rfl Tryd.ntmps46 (by kernel_rfl) rfl c46 rfl rfl rfl ha hb
noncomputable def b47 : Code := bodyOf Tryd.f47
theorem c47 : codeOk Tryd.prog h47 77 b47 = true := by kernel_rfl
theorem e47 {lo : Nat} {args : List V} {h : Heap} (ha : args.length <= 77) (hb : args.all bare = true) :
  E lo 47 args h = fin Tryd.prog [.cell 2 51, .tmp 3] h.length (evCode ⟨Tryd.prog, E, lo, h.length, h47⟩ loopW b47 (args0 args, h)) :=
 ev_body rfl Tryd.func47 rfl Tryd.ntmps47 (by kernel_rfl) rfl c47 rfl rfl rfl ha hb
noncomputable def b48 : Code := bodyOf Tryd.f48
theorem c48 : codeOk Tryd.prog h48 8 b48 = true := by kernel_rfl
theorem e48 {lo : Nat} {args : List V} {h : Heap} (ha : args.length <= 8) (hb : args.all bare = true) :
  E lo 48 args h = fin Tryd.prog [.tmp 4] h.length (evCode ⟨Tryd.prog, E, lo, h.length, h48⟩ loopW b48 (args0 args, h)) :=
 ev_body rfl Tryd.func48 rfl Tryd.ntmps48 (by kernel_rfl) rfl c48 rfl rfl rfl ha hb
noncomputable def b49 : Code := bodyOf Tryd.f49
noncomputable def l49x0 : Code := loopAt b49 0
theorem c49 : codeOk Tryd.prog h49 40 b49 = true := by kernel_rfl
theorem e49 {lo : Nat} {args : List V} {h : Heap} (ha : args.length <= 40) (hb : args.all bare = true) :
  E lo 49 args h = fin Tryd.prog [.tmp 2] h.length (evCode ⟨Tryd.prog, E, lo, h.length, h49⟩ loopW b49 (args0 args, h)) :=
 ev_body rfl Tryd.func49 rfl Tryd.ntmps49 (by kernel_rfl) rfl c49 rfl rfl rfl ha hb
noncomputable def b50 : Code := bodyOf Tryd.f50
theorem c50 : codeOk Tryd.prog h50 17 b50 = true := by kernel_rfl
theorem e50 {lo : Nat} {args : List V} {h : Heap} (ha : args.length <= 17) (hb : args.all bare = true) :
  E lo 50 args h = fin Tryd.prog [.tmp 2] h.length (evCode ⟨Tryd.prog, E, lo, h.length, h50⟩ loopW b50 (args0 args, h)) :=
 ev_body rfl Tryd.func50 rfl Tryd.ntmps50 (by kernel_rfl) rfl c50 rfl rfl rfl ha hb
noncomputable def b51 : Code := bodyOf Tryd.f51
theorem c51 : codeOk Tryd.prog h51 13 b51 = true := by kernel_rfl
theorem e51 {lo : Nat} {args : List V} {h : Heap} (ha : args.length <= 13) (hb : args.all bare = true) :
  E lo 51 args h = fin Tryd.prog [.tmp 2] h.length (evCode ⟨Tryd.prog, E, lo, h.length, h51⟩ loopW b51 (args0 args, h)) :=
 ev_body rfl Tryd.func51 rfl Tryd.ntmps51 (by kernel_rfl) rfl c51 rfl rfl rfl ha hb
noncomputable def b52 : Code := bodyOf Tryd.f52
noncomputable def l52x0 : Code := loopAt b52 0
theorem c52 : codeOk Tryd.prog h52 12 b52 = true := by kernel_rfl
/- a method -/
theorem e52 {lo : Nat} {args : List V} {h : Heap} (ha : args.length <= 12) (hb : args.all bare = true) :
  E lo 52 args h = fin Tryd.prog [] h.length (evCode ⟨Tryd.prog, E, lo, h.length, h52⟩ loopW b52 (args0 args, h)) :=
 ev_body rfl Tryd.func52 rfl Tryd.ntmps52 (by kernel_rfl) rfl c52 rfl rfl rfl ha hb
noncomputable def b53 : Code := bodyOf Tryd.f53
noncomputable def l53x0 : Code := loopAt b53 0
theorem c53 : codeOk Tryd.prog h53 79 b53 = true := by kernel_rfl
/- a method -/
theorem e53 {lo : Nat} {args : List V} {h : Heap} (ha : args.length <= 79) (hb : args.all bare = true) :
  E lo 53 args h = fin Tryd.prog [.cell 4 46] h.length (evCode ⟨Tryd.prog, E, lo, h.length, h53⟩ loopW b53 (args0 args, h)) :=
 ev_body rfl Tryd.func53 rfl Tryd.ntmps53 (by kernel_rfl) rfl c53 rfl rfl rfl ha hb
noncomputable def b54 : Code := bodyOf Tryd.f54
theorem c54 : codeOk Tryd.prog h54 13 b54 = true := by kernel_rfl
theorem e54 {lo : Nat} {args : List V} {h : Heap} (ha : args.length <= 13) (hb : args.all bare = true) :
  E lo 54 args h = fin Tryd.prog [.tmp 2] h.length (evCode ⟨Tryd.prog, E, lo, h.length, h54⟩ loopW b54 (args0 args, h)) :=
 ev_body rfl Tryd.func54 rfl Tryd.ntmps54 (by kernel_rfl) rfl c54 rfl rfl rfl ha hb
noncomputable def b55 : Code := bodyOf Tryd.f55
theorem c55 : codeOk Tryd.prog h55 11 b55 = true := by kernel_rfl
theorem e55 {lo : Nat} {args : List V} {h : Heap} (ha : args.length <= 11) (hb : args.all bare = true) :
  E lo 55 args h = fin Tryd.prog [.tmp 4] h.length (evCode ⟨Tryd.prog, E, lo, h.length, h55⟩ loopW b55 (args0 args, h)) :=
 ev_body rfl Tryd.func55 rfl Tryd.ntmps55 (by kernel_rfl) rfl c55 rfl rfl rfl ha hb
noncomputable def b56 : Code := bodyOf Tryd.f56
theorem c56 : codeOk Tryd.prog h56 27 b56 = true := by kernel_rfl
theorem e56 {lo : Nat} {args : List V} {h : Heap} (ha : args.length <= 27) (hb : args.all bare = true) :
  E lo 56 args h = fin Tryd.prog [.tmp 6] h.length (evCode ⟨Tryd.prog, E, lo, h.length, h56⟩ loopW b56 (args0 args, h)) :=
 ev_body rfl Tryd.func56 rfl Tryd.ntmps56 (by kernel_rfl) rfl c56 rfl rfl rfl ha hb
noncomputable def b57 : Code := bodyOf Tryd.f57
noncomputable def l57x0 : Code := loopAt b57 0
theorem c57 : codeOk Tryd.prog h57 44 b57 = true := by kernel_rfl
/- a method -/
theorem e57 {lo : Nat} {args : List V} {h : Heap} (ha : args.length <= 44) (hb : args.all bare = true) :
  E lo 57 args h = fin Tryd.prog [.tmp 2] h.length (evCode ⟨Tryd.prog, E, lo, h.length, h57⟩ loopW b57 (args0 args, h)) :=
 ev_body rfl Tryd.func57 rfl Tryd.ntmps57 (by kernel_rfl) rfl c57 rfl rfl rfl ha hb
noncomputable def b58 : Code := bodyOf Tryd.f58
theorem c58 : codeOk Tryd.prog h58 25 b58 = true := by kernel_rfl
theorem e58 {lo : Nat} {args : List V} {h : Heap} (ha : args.length <= 25) (hb : args.all bare = true) :
  E lo 58 args h = fin Tryd.prog [.tmp 6] h.length (evCode ⟨Tryd.prog, E, lo, h.length, h58⟩ loopW b58 (args0 args, h)) :=
 ev_body rfl Tryd.func58 rfl Tryd.ntmps58 (by kernel_rfl) rfl c58 rfl rfl rfl ha hb
noncomputable def b59 : Code := bodyOf Tryd.f59
theorem c59 : codeOk Tryd.prog h59 122 b59 = true := by kernel_rfl
/- a method -/
theorem e59 {lo : Nat} {args : List V} {h : Heap} (ha : args.length <= 122) (hb : args.all bare = true) :
  E lo 59 args h = fin Tryd.prog [.cell 2 46] h.length (evCode ⟨Tryd.prog, E, lo, h.length, h59⟩ loopW b59 (args0 args, h)) :=
 ev_body rfl Tryd.func59 rfl Tryd.ntmps59 (by kernel_rfl) rfl c59 rfl rfl rfl ha hb
noncomputable def b60 : Code := bodyOf Tryd.f60
noncomputable def l60x0 : Code := loopAt b60 0
theorem c60 : codeOk Tryd.prog h60 55 b60 = true := by kernel_rfl
/- a method -/
theorem e60 {lo : Nat} {args : List V} {h : Heap} (ha : args.length <= 55) (hb : args.all bare = true) :
  E lo 60 args h = fin Tryd.prog [.cell 2 46] h.length (evCode ⟨Tryd.prog, E, lo, h.length, h60⟩ loopW b60 (args0 args, h)) :=
 ev_body rfl Tryd.func60 rfl Tryd.ntmps60 (by kernel_rfl) rfl c60 rfl rfl rfl ha hb
noncomputable def b61 : Code := bodyOf Tryd.f61
theorem c61 : codeOk Tryd.prog h61 6 b61 = true := by kernel_rfl
theorem e61 {lo : Nat} {args : List V} {h : Heap} (ha : args.length <= 6) (hb : args.all bare = true) :
  E lo 61 args h = fin Tryd.prog [.tmp 2] h.length (evCode ⟨Tryd.prog, E, lo, h.length, h61⟩ loopW b61 (args0 args, h)) :=
 ev_body rfl Tryd.func61 rfl Tryd.ntmps61 (by kernel_rfl) rfl c61 rfl rfl rfl ha hb
noncomputable def b62 : Code := bodyOf Tryd.f62
noncomputable def l62x0 : Code := loopAt b62 0
theorem c62 : codeOk Tryd.prog h62 81 b62 = true := by kernel_rfl
theorem e62 {lo : Nat} {args : List V} {h : Heap} (ha : args.length <= 81) (hb : args.all bare = true) :
  E lo 62 args h = fin Tryd.prog [.tmp 4, .tmp 5, .tmp 6] h.length (evCode ⟨Tryd.prog, E, lo, h.length, h62⟩ loopW b62 (args0 args, h)) :=
 ev_body rfl Tryd.func62 rfl Tryd.ntmps62 (by kernel_rfl) rfl c62 rfl rfl rfl ha hb
noncomputable def b63 : Code := bodyOf Tryd.f63
noncomputable def l63x0 : Code := loopAt b63 0
theorem c63 : codeOk Tryd.prog h63 30 b63 = true := by kernel_rfl
theorem e63 {lo : Nat} {args : List V} {h : Heap} (ha : args.length <= 30) (hb : args.all bare = true) :
  E lo 63 args h = fin Tryd.prog [.tmp 2] h.length (evCode ⟨Tryd.prog, E, lo, h.length, h63⟩ loopW b63 (args0 args, h)) :=
 ev_body rfl Tryd.func63 rfl Tryd.ntmps63 (by kernel_rfl) rfl c63 rfl rfl rfl ha hb
noncomputable def b64 : Code := bodyOf Tryd.f64
theorem c64 : codeOk Tryd.prog h64 3 b64 = true := by kernel_rfl
theorem e64 {lo : Nat} {args : List V} {h : Heap} (ha : args.length <= 3) (hb : args.all bare = true) :
  E lo 64 args h = finR Tryd.prog [.tmp 0] h.length 1 false (evCode ⟨Tryd.prog, E, lo, h.length, h64⟩ loopW b64 (args0 args, h)) :=
 ev_bodyR rfl Tryd.func64 rfl Tryd.ntmps64 (by kernel_rfl) rfl c64 rfl rfl rfl ha hb
noncomputable def b65 : Code := bodyOf Tryd.f65
theorem c65 : codeOk Tryd.prog h65 111 b65 = true := by kernel_rfl
/- a method -/
theorem e65 {lo : Nat} {args : List V} {h : Heap} (ha : args.length <= 111) (hb : args.all bare = true) :
  E lo 65 args h = fin Tryd.prog [.tmp 2, .tmp 3, .tmp 4] h.length (evCode ⟨Tryd.prog, E, lo, h.length, h65⟩ loopW b65 (args0 args, h)) :=
 ev_body rfl Tryd.func65 rfl Tryd.ntmps65 (by kernel_rfl) rfl c65 rfl rfl rfl ha hb
noncomputable def b67 : Code := bodyOf Tryd.f67
noncomputable def l67x0 : Code := loopAt b67 0
theorem c67 : codeOk Tryd.prog h67 101 b67 = true := by kernel_rfl
theorem e67 {lo : Nat} {args : List V} {h : Heap} (ha : args.length <= 101) (hb : args.all bare = true) :
  E lo 67 args h = fin Tryd.prog [.tmp 2, .tmp 3] h.length (evCode ⟨Tryd.prog, E, lo, h.length, h67⟩ loopW b67 (args0 args, h)) :=
 ev_body rfl Tryd.func67 rfl Tryd.ntmps67 (by kernel_rfl) rfl c67 rfl rfl rfl ha hb
noncomputable def b68 : Code := bodyOf Tryd.f68
noncomputable def l68x0 : Code := loopAt b68 0
theorem c68 : codeOk Tryd.prog h68 70 b68 = true := by kernel_rfl
/- a method -/
theorem e68 {lo : Nat} {args : List V} {h : Heap} (ha : args.length <= 70) (hb : args.all bare = true) :
  E lo 68 args h = fin Tryd.prog [.tmp 2] h.length (evCode ⟨Tryd.prog, E, lo, h.length, h68⟩ loopW b68 (args0 args, h)) :=
 ev_body rfl Tryd.func68 rfl Tryd.ntmps68 (by kernel_rfl) rfl c68 rfl rfl rfl ha hb
noncomputable def b69 : Code := bodyOf Tryd.f69
theorem c69 : codeOk Tryd.prog h69 25 b69 = true := by kernel_rfl
theorem e69 {lo : Nat} {args : List V} {h : Heap} (ha : args.length <= 25) (hb : args.all bare = true) :
  E lo 69 args h = fin Tryd.prog [.tmp 2] h.length (evCode ⟨Tryd.prog, E, lo, h.length, h69⟩ loopW b69 (args0 args, h)) :=
 ev_body rfl Tryd.func69 rfl Tryd.ntmps69 (by kernel_rfl) rfl c69 rfl rfl rfl ha hb
noncomputable def b70 : Code := bodyOf Tryd.f70
theorem c70 : codeOk Tryd.prog h70 9 b70 = true := by kernel_rfl
theorem e70 {lo : Nat} {args : List V} {h : Heap} (ha : args.length <= 9) (hb : args.all bare = true) :
  E lo 70 args h = fin Tryd.prog [.tmp 2] h.length (evCode ⟨Tryd.prog, E, lo, h.length, h70⟩ loopW b70 (args0 args, h)) :=
 ev_body rfl Tryd.func70 rfl Tryd.ntmps70 (by kernel_rfl) rfl c70 rfl rfl rfl ha hb
noncomputable def b71 : Code := bodyOf Tryd.f71
noncomputable def l71x0 : Code := loopAt b71 0
theorem c71 : codeOk Tryd.prog h71 12 b71 = true := by kernel_rfl
/- a method -/
theorem e71 {lo : Nat} {args : List V} {h : Heap} (ha : args.length <= 12) (hb : args.all bare = true) :
  E lo 71 args h = fin Tryd.prog [] h.length (evCode ⟨Tryd.prog, E, lo, h.length, h71⟩ loopW b71 (args0 args, h)) :=
 ev_body rfl Tryd.func71 rfl Tryd.ntmps71 (by kernel_rfl) rfl c71 rfl rfl rfl ha hb
noncomputable def b72 : Code := bodyOf Tryd.f72
noncomputable def l72x0 : Code := loopAt b72 0
theorem c72 : codeOk Tryd.prog h72 153 b72 = true := by kernel_rfl
theorem e72 {lo : Nat} {args : List V} {h : Heap} (ha : args.length <= 153) (hb : args.all bare = true) :
  E lo 72 args h = fin Tryd.prog [.cell 2 44, .tmp 3, .tmp 4] h.length (evCode ⟨Tryd.prog, E, lo, h.length, h72⟩ loopW b72 (args0 args, h)) :=
 ev_body rfl Tryd.func72 rfl Tryd.ntmps72 (by kernel_rfl) rfl c72 rfl rfl rfl ha hb
noncomputable def b73 : Code := bodyOf Tryd.f73
theorem c73 : codeOk Tryd.prog h73 10 b73 = true := by kernel_rfl
theorem e73 {lo : Nat} {args : List V} {h : Heap} (ha : args.length <= 10) (hb : args.all bare = true) :
  E lo 73 args h = fin Tryd.prog [.tmp 4] h.length (evCode ⟨Tryd.prog, E, lo, h.length, h73⟩ loopW b73 (args0 args, h)) :=
 ev_body rfl Tryd.func73 rfl Tryd.ntmps73 (by kernel_rfl) rfl c73 rfl rfl rfl ha hb
noncomputable def b74 : Code := bodyOf Tryd.f74
noncomputable def l74x0 : Code := loopAt b74 0
theorem c74 : codeOk Tryd.prog h74 91 b74 = true := by kernel_rfl
/- a method -/
theorem e74 {lo : Nat} {args : List V} {h : Heap} (ha : args.length <= 91) (hb : args.all bare = true) :
  E lo 74 args h = fin Tryd.prog [.cell 2 46] h.length (evCode ⟨Tryd.prog, E, lo, h.length, h74⟩ loopW b74 (args0 args, h)) :=
 ev_body rfl Tryd.func74 rfl Tryd.ntmps74 (by kernel_rfl) rfl c74 rfl rfl rfl ha hb
noncomputable def b75 : Code := bodyOf Tryd.f75
noncomputable def l75x0 : Code := loopAt b75 0
theorem c75 : codeOk Tryd.prog h75 79 b75 = true := by kernel_rfl
theorem e75 {lo : Nat} {args : List V} {h : Heap} (ha : args.length <= 79) (hb : args.all bare = true) :
  E lo 75 args h = fin Tryd.prog [.tmp 2] h.length (evCode ⟨Tryd.prog, E, lo, h.length, h75⟩ loopW b75 (args0 args, h)) :=
 ev_body rfl Tryd.func75 rfl Tryd.ntmps75 (by kernel_rfl) rfl c75 rfl rfl rfl ha hb
noncomputable def b76 : Code := bodyOf Tryd.f76
theorem c76 : codeOk Tryd.prog h76 38 b76 = true := by kernel_rfl
theorem e76 {lo : Nat} {args : List V} {h : Heap} (ha : args.length <= 38) (hb : args.all bare = true) :
  E lo 76 args h = fin Tryd.prog [.tmp 2, .tmp 3, .tmp 4] h.length (evCode ⟨Tryd.prog, E, lo, h.length, h76⟩ loopW b76 (args0 args, h)) :=
 ev_body rfl Tryd.func76 rfl Tryd.ntmps76 (by kernel_rfl) rfl c76 rfl rfl rfl ha hb
noncomputable def b77 : Code := bodyOf Tryd.f77
theorem c77 : codeOk Tryd.prog h77 34 b77 = true := by kernel_rfl
theorem e77 {lo : Nat} {args : List V} {h : Heap} (ha : args.length <= 34) (hb : args.all bare = true) :
  E lo 77 args h = fin Tryd.prog [.tmp 2, .tmp 3] h.length (evCode ⟨Tryd.prog, E, lo, h.length, h77⟩ loopW b77 (args0 args, h)) :=
 ev_body rfl Tryd.func77 rfl Tryd.ntmps77 (by kernel_rfl) rfl c77 rfl rfl rfl ha hb
noncomputable def b78 : Code := bodyOf Tryd.f78
theorem c78 : codeOk Tryd.prog h78 11 b78 = true := by kernel_rfl
theorem e78 {lo : Nat} {args : List V} {h : Heap} (ha : args.length <= 11) (hb : args.all bare = true) :
  E lo 78 args h = fin Tryd.prog [.tmp 4, .tmp 5] h.length (evCode ⟨Tryd.prog, E, lo, h.length, h78⟩ loopW b78 (args0 args, h)) :=
 ev_body rfl Tryd.func78 rfl Tryd.ntmps78 (by kernel_rfl) rfl c78 rfl rfl rfl ha hb
noncomputable def b79 : Code := bodyOf Tryd.f79
theorem c79 : codeOk Tryd.prog h79 8 b79 = true := by kernel_rfl
theorem e79 {lo : Nat} {args : List V} {h : Heap} (ha : args.length <= 8) (hb : args.all bare = true) :
  E lo 79 args h = fin Tryd.prog [.tmp 4] h.length (evCode ⟨Tryd.prog, E, lo, h.length, h79⟩ loopW b79 (args0 args, h)) :=
 ev_body rfl Tryd.func79 rfl Tryd.ntmps79 (by kernel_rfl) rfl c79 rfl rfl rfl ha hb
noncomputable def b80 : Code := bodyOf Tryd.f80
noncomputable def l80x0 : Code := loopAt b80 0
theorem c80 : codeOk Tryd.prog h80 39 b80 = true := by kernel_rfl
theorem e80 {lo : Nat} {args : List V} {h : Heap} (ha : args.length <= 39) (hb : args.all bare = true) :
  E lo 80 args h = fin Tryd.prog [.tmp 2, .tmp 3] h.length (evCode ⟨Tryd.prog, E, lo, h.length, h80⟩ loopW b80 (args0 args, h)) :=
 ev_body rfl Tryd.func80 rfl Tryd.ntmps80 (by kernel_rfl) rfl c80 rfl rfl rfl ha hb
noncomputable def b81 : Code := bodyOf Tryd.f81
theorem c81 : codeOk Tryd.prog h81 80 b81 = true := by kernel_rfl
/- a method -/
theorem e81 {lo : Nat} {args : List V} {h : Heap} (ha : args.length <= 80) (hb : args.all bare = true) :
  E lo 81 args h = fin Tryd.prog [.tmp 2, .tmp 3] h.length (evCode ⟨Tryd.prog, E, lo, h.length, h81⟩ loopW b81 (args0 args, h)) :=
 ev_body rfl Tryd.func81 rfl Tryd.ntmps81 (by kernel_rfl) rfl c81 rfl rfl rfl ha hb
noncomputable def b86 : Code := bodyOf Tryd.f86
theorem c86 : codeOk Tryd.prog h86 29 b86 = true := by kernel_rfl
theorem e86 {lo : Nat} {args : List V} {h : Heap} (ha : args.length <= 29) (hb : args.all bare = true) :
  E lo 86 args h = fin Tryd.prog [.tmp 2, .tmp 3] h.length (evCode ⟨Tryd.prog, E, lo, h.length, h86⟩ loopW b86 (args0 args, h)) :=
 ev_body rfl Tryd.func86 rfl Tryd.ntmps86 (by kernel_rfl) rfl c86 rfl rfl rfl ha hb
noncomputable def b87 : Code := bodyOf Tryd.f87
noncomputable def l87x0 : Code := loopAt b87 0
theorem c87 : codeOk Tryd.prog h87 18 b87 = true := by kernel_rfl
theorem e87 {lo : Nat} {args : List V} {h : Heap} (ha : args.length <= 18) (hb : args.all bare = true) :
  E lo 87 args h = fin Tryd.prog [.tmp 4] h.length (evCode ⟨Tryd.prog, E, lo, h.length, h87⟩ loopW b87 (args0 args, h)) :=
 ev_body rfl Tryd.func87 rfl Tryd.ntmps87 (by kernel_rfl) rfl c87 rfl rfl rfl ha hb
noncomputable def b88 : Code := bodyOf Tryd.f88
theorem c88 : codeOk Tryd.prog h88 2 b88 = true := by kernel_rfl
theorem e88 {lo : Nat} {args : List V} {h : Heap} (ha : args.length <= 2) (hb : args.all bare = true) :
  E lo 88 args h = fin Tryd.prog [.cell 0 44] h.length (evCode ⟨Tryd.prog, E, lo, h.length, h88⟩ loopW b88 (args0 args, h)) :=
 ev_body rfl Tryd.func88 rfl Tryd.ntmps88 (by kernel_rfl) rfl c88 rfl rfl rfl ha hb
noncomputable def b89 : Code := bodyOf Tryd.f89
noncomputable def l89x0 : Code := loopAt b89 0
noncomputable def l89x1 : Code := loopAt b89 1
noncomputable def l89x2 : Code := loopAt b89 2
noncomputable def l89x3 : Code := loopAt b89 3
noncomputable def l89x4 : Code := loopAt b89 4
noncomputable def l89x5 : Code := loopAt b89 5
noncomputable def l89x6 : Code := loopAt b89 6
noncomputable def l89x7 : Code := loopAt b89 7
theorem c89 : codeOk Tryd.prog h89 132 b89 = true := by kernel_rfl
theorem e89 {lo : Nat} {args : List V} {h : Heap} (ha : args.length <= 132) (hb : args.all bare = true) :
  E lo 89 args h = fin Tryd.prog [.cell 6 44] h.length (evCode ⟨Tryd.prog, E, lo, h.length, h89⟩ loopW b89 (args0 args, h)) :=
 ev_body rfl Tryd.func89 rfl Tryd.ntmps89 (by kernel_rfl) rfl c89 rfl rfl rfl ha hb
noncomputable def b90 : Code := bodyOf Tryd.f90
noncomputable def l90x0 : Code := loopAt b90 0
theorem c90 : codeOk Tryd.prog h90 29 b90 = true := by kernel_rfl
theorem e90 {lo : Nat} {args : List V} {h : Heap} (ha : args.length <= 29) (hb : args.all bare = true) :
  E lo 90 args h = fin Tryd.prog [.tmp 2] h.length (evCode ⟨Tryd.prog, E, lo, h.length, h90⟩ loopW b90 (args0 args, h)) :=
 ev_body rfl Tryd.func90 rfl Tryd.ntmps90 (by kernel_rfl) rfl c90 rfl rfl rfl ha hb
noncomputable def b91 : Code := bodyOf Tryd.f91
noncomputable def l91x0 : Code := loopAt b91 0
theorem c91 : codeOk Tryd.prog h91 26 b91 = true := by kernel_rfl
/- a method -/
theorem e91 {lo : Nat} {args : List V} {h : Heap} (ha : args.length <= 26) (hb : args.all bare = true) :
  E lo 91 args h = fin Tryd.prog [.cell 2 46] h.length (evCode ⟨Tryd.prog, E, lo, h.length, h91⟩ loopW b91 (args0 args, h)) :=
 ev_body rfl Tryd.func91 rfl Tryd.ntmps91 (by kernel_rfl) rfl c91 rfl rfl rfl ha hb
noncomputable def b92 : Code := bodyOf Tryd.f92
theorem c92 : codeOk Tryd.prog h92 25 b92 = true := by kernel_rfl
theorem e92 {lo : Nat} {args : List V} {h : Heap} (ha : args.length <= 25) (hb : args.all bare = true) :
  E lo 92 args h = fin Tryd.prog [.tmp 2] h.length (evCode ⟨Tryd.prog, E, lo, h.length, h92⟩ loopW b92 (args0 args, h)) :=
 ev_body rfl Tryd.func92 rfl Tryd.ntmps92 (by kernel_rfl) rfl c92 rfl rfl rfl ha hb
noncomputable def b93 : Code := bodyOf Tryd.f93
theorem c93 : codeOk Tryd.prog h93 10 b93 = true := by kernel_rfl
theorem e93 {lo : Nat} {args : List V} {h : Heap} (ha : args.length <= 10) (hb : args.all bare = true) :
  E lo 93 args h = fin Tryd.prog [.tmp 2] h.length (evCode ⟨Tryd.prog, E, lo, h.length, h93⟩ loopW b93 (args0 args, h)) :=
 ev_body rfl Tryd.func93 rfl Tryd.ntmps93 (by kernel_rfl) rfl c93 rfl rfl rfl ha hb
noncomputable def b94 : Code := bodyOf Tryd.f94
theorem c94 : codeOk Tryd.prog h94 15 b94 = true := by kernel_rfl
theorem e94 {lo : Nat} {args : List V} {h : Heap} (ha : args.length <= 15) (hb : args.all bare = true) :
  E lo 94 args h = fin Tryd.prog [.tmp 4, .tmp 5] h.length (evCode ⟨Tryd.prog, E, lo, h.length, h94⟩ loopW b94 (args0 args, h)) :=
 ev_body rfl Tryd.func94 rfl Tryd.ntmps94 (by kernel_rfl) rfl c94 rfl rfl rfl ha hb
noncomputable def b95 : Code := bodyOf Tryd.f95
theorem c95 : codeOk Tryd.prog h95 18 b95 = true := by kernel_rfl
theorem e95 {lo : Nat} {args : List V} {h : Heap} (ha : args.length <= 18) (hb : args.all bare = true) :
  E lo 95 args h = fin Tryd.prog [.tmp 4] h.length (evCode ⟨Tryd.prog, E, lo, h.length, h95⟩ loopW b95 (args0 args, h)) :=
 ev_body rfl Tryd.func95 rfl Tryd.ntmps95 (by kernel_rfl) rfl c95 rfl rfl rfl ha hb
noncomputable def b98 : Code := bodyOf Tryd.f98
theorem c98 : codeOk Tryd.prog h98 9 b98 = true := by kernel_rfl
theorem e98 {lo : Nat} {args : List V} {h : Heap} (ha : args.length <= 9) (hb : args.all bare = true) :
  E lo 98 args h = fin Tryd.prog [.tmp 2] h.length (evCode ⟨Tryd.prog, E, lo, h.length, h98⟩ loopW b98 (args0 args, h)) :=
 ev_body rfl Tryd.func98 rfl Tryd.ntmps98 (by kernel_rfl) rfl c98 rfl rfl rfl ha hb
noncomputable def b99 : Code := bodyOf Tryd.f99
theorem c99 : codeOk Tryd.prog h99 5 b99 = true := by kernel_rfl
theorem e99 {lo : Nat} {args : List V} {h : Heap} (ha : args.length <= 5) (hb : args.all bare = true) :
  E lo 99 args h = fin Tryd.prog [.cell 2 44] h.length (evCode ⟨Tryd.prog, E, lo, h.length, h99⟩ loopW b99 (args0 args, h)) :=
 ev_body rfl Tryd.func99 rfl Tryd.ntmps99 (by kernel_rfl) rfl c99 rfl rfl rfl ha hb
noncomputable def b100 : Code := bodyOf Tryd.f100
theorem c100 : codeOk Tryd.prog h100 21 b100 = true := by kernel_rfl
theorem e100 {lo : Nat} {args : List V} {h : Heap} (ha : args.length <= 21) (hb : args.all bare = true) :
  E lo 100 args h = fin Tryd.prog [.tmp 2] h.length (evCode ⟨Tryd.prog, E, lo, h.length, h100⟩ loopW b100 (args0 args, h)) :=
 ev_body rfl Tryd.func100 rfl Tryd.ntmps100 (by kernel_rfl) rfl c100 rfl rfl rfl ha hb
noncomputable def b101 : Code := bodyOf Tryd.f101
noncomputable def l101x0 : Code := loopAt b101 0
theorem c101 : codeOk Tryd.prog h101 12 b101 = true := by kernel_rfl
theorem e101 {lo : Nat} {args : List V} {h : Heap} (ha : args.length <= 12) (hb : args.all bare = true) :
  E lo 101 args h = fin Tryd.prog [.tmp 4] h.length (evCode ⟨Tryd.prog, E, lo, h.length, h101⟩ loopW b101 (args0 args, h)) :=
 ev_body rfl Tryd.func101 rfl Tryd.ntmps101 (by kernel_rfl) rfl c101 rfl rfl rfl ha hb
noncomputable def b102 : Code := bodyOf Tryd.f102
theorem c102 : codeOk Tryd.prog h102 10 b102 = true := by kernel_rfl
theorem e102 {lo : Nat} {args : List V} {h : Heap} (ha : args.length <= 10) (hb : args.all bare = true) :
  E lo 102 args h = fin Tryd.prog [.tmp 2] h.length (evCode ⟨Tryd.prog, E, lo, h.length, h102⟩ loopW b102 (args0 args, h)) :=
 ev_body rfl Tryd.func102 rfl Tryd.ntmps102 (by kernel_rfl) rfl c102 rfl rfl rfl ha hb
end Go.Lift.Q1
