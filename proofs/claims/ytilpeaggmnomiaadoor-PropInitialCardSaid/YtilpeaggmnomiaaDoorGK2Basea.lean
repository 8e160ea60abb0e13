/- Facts of the program that the evaluation asks for: the live slots of each function, its types. Written by a program (gen.py). -/
import Derived.Test.YtilpeaggmnomiaaDoorRows
import Derived.Lib.TrimAscii
import Derived.Shelf.Strings.Fields
import Derived.Test.YtilpeaggmnomiaaDoorGLd
set_option linter.unusedVariables false
set_option linter.unusedSimpArgs false
set_option linter.unusedSectionVars false
set_option maxRecDepth 20000
namespace Go.Lift.T2
open Go.Proofs
instance gtab : GTab := ⟨fun n => match n with | 0 => some ((List.range 256).map fun c => V.v (.int .u8 (if Go.Lib.isSp (UInt8.ofNat c) then 1 else 0))) | 2 => some [.v (.int .i64 21), .v (.int .i64 22), .v (.int .i64 19), .v (.int .i64 20), .v (.int .i64 23), .v (.int .i64 24), .v (.int .i64 18), .v (.int .i64 16), .v (.int .i64 17)] | _ => none⟩
noncomputable def fieldsP (lo : Nat) (args : List V) (h : Heap) : Option (V × Heap) := match args with
 | [.v (.string s)] => if s.size < 4294967281 /\ (s.data.toList.all fun b => decide (b.toNat < 128)) = true then some (.list .no ((Go.Lib.fields s.data.toList).map fun l => [.v (.string ⟨l.toArray⟩)]), h) else none
 | _ => none
noncomputable def primz : Nat -> Option (Nat -> List V -> Heap -> Option (V × Heap)) := fun n => match n with | 16 => some fieldsP | _ => none
instance bty : BTy := ⟨[], some 5⟩
@[go_sem] theorem bt_eq : BTy.bt = [] := rfl
@[go_sem] theorem bt_is : (BTy.bt.isEmpty) = true := rfl
@[go_sem] theorem bt_n (n : Nat) : btOf n = none := rfl
@[go_sem] theorem bb_eq : BTy.bb = some 5 := rfl
@[go_sem] theorem bb_self : ((5 : TypeId) == 5) = true := rfl
attribute [go_sem] Tryd.underlying2
@[go_sem] theorem z2 : tsize Tryd.prog 2 = 1 := by kernel_rfl
@[go_sem] theorem k2 : ttag Tryd.prog 2 = some false := by kernel_rfl
@[go_sem] theorem y2 : Tryd.prog.bytesOf 2 = 8 := by kernel_rfl
@[go_sem] theorem s2 : isStr Tryd.prog 2 = false := by kernel_rfl
@[go_sem] theorem j2 : isI32 Tryd.prog 2 = false := by kernel_rfl
@[go_sem] theorem w2 : isU8 Tryd.prog 2 = false := by kernel_rfl
@[go_sem] theorem o2 : tzero Tryd.prog 2 = some [.int .i64 0] := by kernel_rfl
@[go_sem] theorem i2 : (Tryd.prog.info? 2).isSome = true := by kernel_rfl
attribute [go_sem] Tryd.underlying3
@[go_sem] theorem z3 : tsize Tryd.prog 3 = 1 := by kernel_rfl
@[go_sem] theorem k3 : ttag Tryd.prog 3 = some false := by kernel_rfl
@[go_sem] theorem y3 : Tryd.prog.bytesOf 3 = 8 := by kernel_rfl
@[go_sem] theorem s3 : isStr Tryd.prog 3 = false := by kernel_rfl
@[go_sem] theorem j3 : isI32 Tryd.prog 3 = false := by kernel_rfl
@[go_sem] theorem w3 : isU8 Tryd.prog 3 = false := by kernel_rfl
@[go_sem] theorem o3 : tzero Tryd.prog 3 = some [.int .i64 0] := by kernel_rfl
@[go_sem] theorem i3 : (Tryd.prog.info? 3).isSome = true := by kernel_rfl
attribute [go_sem] Tryd.underlying4
@[go_sem] theorem z4 : tsize Tryd.prog 4 = 1 := by kernel_rfl
@[go_sem] theorem k4 : ttag Tryd.prog 4 = some false := by kernel_rfl
@[go_sem] theorem y4 : Tryd.prog.bytesOf 4 = 1 := by kernel_rfl
@[go_sem] theorem s4 : isStr Tryd.prog 4 = false := by kernel_rfl
@[go_sem] theorem j4 : isI32 Tryd.prog 4 = false := by kernel_rfl
@[go_sem] theorem w4 : isU8 Tryd.prog 4 = false := by kernel_rfl
@[go_sem] theorem o4 : tzero Tryd.prog 4 = some [.bool false] := by kernel_rfl
@[go_sem] theorem i4 : (Tryd.prog.info? 4).isSome = true := by kernel_rfl
attribute [go_sem] Tryd.underlying5
@[go_sem] theorem z5 : tsize Tryd.prog 5 = 1 := by kernel_rfl
@[go_sem] theorem k5 : ttag Tryd.prog 5 = some false := by kernel_rfl
@[go_sem] theorem y5 : Tryd.prog.bytesOf 5 = 1 := by kernel_rfl
@[go_sem] theorem s5 : isStr Tryd.prog 5 = false := by kernel_rfl
@[go_sem] theorem j5 : isI32 Tryd.prog 5 = false := by kernel_rfl
@[go_sem] theorem w5 : isU8 Tryd.prog 5 = true := by kernel_rfl
@[go_sem] theorem o5 : tzero Tryd.prog 5 = some [.int .u8 0] := by kernel_rfl
@[go_sem] theorem i5 : (Tryd.prog.info? 5).isSome = true := by kernel_rfl
attribute [go_sem] Tryd.underlying9
@[go_sem] theorem z9 : tsize Tryd.prog 9 = 1 := by kernel_rfl
@[go_sem] theorem k9 : ttag Tryd.prog 9 = some false := by kernel_rfl
@[go_sem] theorem y9 : Tryd.prog.bytesOf 9 = 16 := by kernel_rfl
@[go_sem] theorem s9 : isStr Tryd.prog 9 = true := by kernel_rfl
@[go_sem] theorem j9 : isI32 Tryd.prog 9 = false := by kernel_rfl
@[go_sem] theorem w9 : isU8 Tryd.prog 9 = false := by kernel_rfl
@[go_sem] theorem o9 : tzero Tryd.prog 9 = some [.string ByteArray.empty] := by kernel_rfl
@[go_sem] theorem i9 : (Tryd.prog.info? 9).isSome = true := by kernel_rfl
attribute [go_sem] Tryd.underlying21
@[go_sem] theorem z21 : tsize Tryd.prog 21 = 1 := by kernel_rfl
@[go_sem] theorem k21 : ttag Tryd.prog 21 = some false := by kernel_rfl
@[go_sem] theorem y21 : Tryd.prog.bytesOf 21 = 4 := by kernel_rfl
@[go_sem] theorem s21 : isStr Tryd.prog 21 = false := by kernel_rfl
@[go_sem] theorem j21 : isI32 Tryd.prog 21 = true := by kernel_rfl
@[go_sem] theorem w21 : isU8 Tryd.prog 21 = false := by kernel_rfl
@[go_sem] theorem o21 : tzero Tryd.prog 21 = some [.int .i32 0] := by kernel_rfl
@[go_sem] theorem i21 : (Tryd.prog.info? 21).isSome = true := by kernel_rfl
attribute [go_sem] Tryd.underlying22
@[go_sem] theorem z22 : tsize Tryd.prog 22 = 1 := by kernel_rfl
@[go_sem] theorem k22 : ttag Tryd.prog 22 = some false := by kernel_rfl
@[go_sem] theorem y22 : Tryd.prog.bytesOf 22 = 24 := by kernel_rfl
@[go_sem] theorem s22 : isStr Tryd.prog 22 = false := by kernel_rfl
@[go_sem] theorem j22 : isI32 Tryd.prog 22 = false := by kernel_rfl
@[go_sem] theorem w22 : isU8 Tryd.prog 22 = false := by kernel_rfl
@[go_sem] theorem o22 : tzero Tryd.prog 22 = some [.slice none 0 0] := by kernel_rfl
@[go_sem] theorem i22 : (Tryd.prog.info? 22).isSome = true := by kernel_rfl
attribute [go_sem] Tryd.underlying27
@[go_sem] theorem z27 : tsize Tryd.prog 27 = 2 := by kernel_rfl
@[go_sem] theorem k27 : ttag Tryd.prog 27 = some true := by kernel_rfl
@[go_sem] theorem y27 : Tryd.prog.bytesOf 27 = 16 := by kernel_rfl
@[go_sem] theorem s27 : isStr Tryd.prog 27 = false := by kernel_rfl
@[go_sem] theorem j27 : isI32 Tryd.prog 27 = false := by kernel_rfl
@[go_sem] theorem w27 : isU8 Tryd.prog 27 = false := by kernel_rfl
@[go_sem] theorem o27 : tzero Tryd.prog 27 = some [.int .i64 0, .int .i64 0] := by kernel_rfl
@[go_sem] theorem i27 : (Tryd.prog.info? 27).isSome = true := by kernel_rfl
@[go_sem] theorem x27 : structOk Tryd.prog 27 = true := by kernel_rfl
@[go_sem] theorem g27x0 : fieldOff Tryd.prog 27 0 = some (0, 2) := by kernel_rfl
@[go_sem] theorem g27x1 : fieldOff Tryd.prog 27 1 = some (1, 2) := by kernel_rfl
attribute [go_sem] Tryd.underlying29
@[go_sem] theorem z29 : tsize Tryd.prog 29 = 4 := by kernel_rfl
@[go_sem] theorem k29 : ttag Tryd.prog 29 = some true := by kernel_rfl
@[go_sem] theorem y29 : Tryd.prog.bytesOf 29 = 40 := by kernel_rfl
@[go_sem] theorem s29 : isStr Tryd.prog 29 = false := by kernel_rfl
@[go_sem] theorem j29 : isI32 Tryd.prog 29 = false := by kernel_rfl
@[go_sem] theorem w29 : isU8 Tryd.prog 29 = false := by kernel_rfl
@[go_sem] theorem o29 : tzero Tryd.prog 29 = some [.int .i64 0, .int .i64 0, .int .i64 0, .string ByteArray.empty] := by kernel_rfl
@[go_sem] theorem i29 : (Tryd.prog.info? 29).isSome = true := by kernel_rfl
@[go_sem] theorem x29 : structOk Tryd.prog 29 = true := by kernel_rfl
@[go_sem] theorem g29x0 : fieldOff Tryd.prog 29 0 = some (0, 3) := by kernel_rfl
@[go_sem] theorem g29x1 : fieldOff Tryd.prog 29 1 = some (1, 27) := by kernel_rfl
@[go_sem] theorem g29x2 : fieldOff Tryd.prog 29 2 = some (3, 9) := by kernel_rfl
attribute [go_sem] Tryd.underlying31
@[go_sem] theorem z31 : tsize Tryd.prog 31 = 9 := by kernel_rfl
@[go_sem] theorem k31 : ttag Tryd.prog 31 = some true := by kernel_rfl
@[go_sem] theorem y31 : Tryd.prog.bytesOf 31 = 96 := by kernel_rfl
@[go_sem] theorem s31 : isStr Tryd.prog 31 = false := by kernel_rfl
@[go_sem] theorem j31 : isI32 Tryd.prog 31 = false := by kernel_rfl
@[go_sem] theorem w31 : isU8 Tryd.prog 31 = false := by kernel_rfl
@[go_sem] theorem o31 : tzero Tryd.prog 31 = some [.string ByteArray.empty, .int .i64 0, .bool false, .bool false, .slice none 0 0, .int .i64 0, .int .i64 0, .int .i64 0, .string ByteArray.empty] := by kernel_rfl
@[go_sem] theorem i31 : (Tryd.prog.info? 31).isSome = true := by kernel_rfl
@[go_sem] theorem x31 : structOk Tryd.prog 31 = true := by kernel_rfl
@[go_sem] theorem g31x0 : fieldOff Tryd.prog 31 0 = some (0, 9) := by kernel_rfl
@[go_sem] theorem g31x1 : fieldOff Tryd.prog 31 1 = some (1, 3) := by kernel_rfl
@[go_sem] theorem g31x2 : fieldOff Tryd.prog 31 2 = some (2, 4) := by kernel_rfl
@[go_sem] theorem g31x3 : fieldOff Tryd.prog 31 3 = some (3, 4) := by kernel_rfl
@[go_sem] theorem g31x4 : fieldOff Tryd.prog 31 4 = some (4, 22) := by kernel_rfl
@[go_sem] theorem g31x5 : fieldOff Tryd.prog 31 5 = some (5, 29) := by kernel_rfl
attribute [go_sem] Tryd.underlying37
@[go_sem] theorem z37 : tsize Tryd.prog 37 = 1 := by kernel_rfl
@[go_sem] theorem k37 : ttag Tryd.prog 37 = some false := by kernel_rfl
@[go_sem] theorem y37 : Tryd.prog.bytesOf 37 = 24 := by kernel_rfl
@[go_sem] theorem s37 : isStr Tryd.prog 37 = false := by kernel_rfl
@[go_sem] theorem j37 : isI32 Tryd.prog 37 = false := by kernel_rfl
@[go_sem] theorem w37 : isU8 Tryd.prog 37 = false := by kernel_rfl
@[go_sem] theorem o37 : tzero Tryd.prog 37 = some [.slice none 0 0] := by kernel_rfl
@[go_sem] theorem i37 : (Tryd.prog.info? 37).isSome = true := by kernel_rfl
attribute [go_sem] Tryd.underlying39
@[go_sem] theorem z39 : tsize Tryd.prog 39 = 5 := by kernel_rfl
@[go_sem] theorem k39 : ttag Tryd.prog 39 = some true := by kernel_rfl
@[go_sem] theorem y39 : Tryd.prog.bytesOf 39 = 56 := by kernel_rfl
@[go_sem] theorem s39 : isStr Tryd.prog 39 = false := by kernel_rfl
@[go_sem] theorem j39 : isI32 Tryd.prog 39 = false := by kernel_rfl
@[go_sem] theorem w39 : isU8 Tryd.prog 39 = false := by kernel_rfl
@[go_sem] theorem o39 : tzero Tryd.prog 39 = some [.int .i64 0, .int .i64 0, .int .i64 0, .int .i64 0, .slice none 0 0] := by kernel_rfl
@[go_sem] theorem i39 : (Tryd.prog.info? 39).isSome = true := by kernel_rfl
@[go_sem] theorem x39 : structOk Tryd.prog 39 = true := by kernel_rfl
@[go_sem] theorem g39x0 : fieldOff Tryd.prog 39 0 = some (0, 3) := by kernel_rfl
@[go_sem] theorem g39x1 : fieldOff Tryd.prog 39 1 = some (1, 27) := by kernel_rfl
@[go_sem] theorem g39x2 : fieldOff Tryd.prog 39 2 = some (3, 3) := by kernel_rfl
@[go_sem] theorem g39x3 : fieldOff Tryd.prog 39 3 = some (4, 37) := by kernel_rfl
attribute [go_sem] Tryd.underlying40
@[go_sem] theorem z40 : tsize Tryd.prog 40 = 1 := by kernel_rfl
@[go_sem] theorem k40 : ttag Tryd.prog 40 = some false := by kernel_rfl
@[go_sem] theorem y40 : Tryd.prog.bytesOf 40 = 24 := by kernel_rfl
@[go_sem] theorem s40 : isStr Tryd.prog 40 = false := by kernel_rfl
@[go_sem] theorem j40 : isI32 Tryd.prog 40 = false := by kernel_rfl
@[go_sem] theorem w40 : isU8 Tryd.prog 40 = false := by kernel_rfl
@[go_sem] theorem o40 : tzero Tryd.prog 40 = some [.slice none 0 0] := by kernel_rfl
@[go_sem] theorem i40 : (Tryd.prog.info? 40).isSome = true := by kernel_rfl
attribute [go_sem] Tryd.underlying42
@[go_sem] theorem z42 : tsize Tryd.prog 42 = 8 := by kernel_rfl
@[go_sem] theorem k42 : ttag Tryd.prog 42 = some true := by kernel_rfl
@[go_sem] theorem y42 : Tryd.prog.bytesOf 42 = 104 := by kernel_rfl
@[go_sem] theorem s42 : isStr Tryd.prog 42 = false := by kernel_rfl
@[go_sem] theorem j42 : isI32 Tryd.prog 42 = false := by kernel_rfl
@[go_sem] theorem w42 : isU8 Tryd.prog 42 = false := by kernel_rfl
@[go_sem] theorem o42 : tzero Tryd.prog 42 = some [.int .i64 0, .int .i64 0, .int .i64 0, .int .i64 0, .int .i64 0, .slice none 0 0, .string ByteArray.empty, .slice none 0 0] := by kernel_rfl
@[go_sem] theorem i42 : (Tryd.prog.info? 42).isSome = true := by kernel_rfl
@[go_sem] theorem x42 : structOk Tryd.prog 42 = true := by kernel_rfl
@[go_sem] theorem g42x0 : fieldOff Tryd.prog 42 0 = some (0, 3) := by kernel_rfl
@[go_sem] theorem g42x1 : fieldOff Tryd.prog 42 1 = some (1, 39) := by kernel_rfl
@[go_sem] theorem g42x2 : fieldOff Tryd.prog 42 2 = some (6, 9) := by kernel_rfl
@[go_sem] theorem g42x3 : fieldOff Tryd.prog 42 3 = some (7, 40) := by kernel_rfl
attribute [go_sem] Tryd.underlying43
@[go_sem] theorem z43 : tsize Tryd.prog 43 = 1 := by kernel_rfl
@[go_sem] theorem k43 : ttag Tryd.prog 43 = some false := by kernel_rfl
@[go_sem] theorem y43 : Tryd.prog.bytesOf 43 = 8 := by kernel_rfl
@[go_sem] theorem s43 : isStr Tryd.prog 43 = false := by kernel_rfl
@[go_sem] theorem j43 : isI32 Tryd.prog 43 = false := by kernel_rfl
@[go_sem] theorem w43 : isU8 Tryd.prog 43 = false := by kernel_rfl
@[go_sem] theorem o43 : tzero Tryd.prog 43 = some [.int .i64 0] := by kernel_rfl
@[go_sem] theorem i43 : (Tryd.prog.info? 43).isSome = true := by kernel_rfl
attribute [go_sem] Tryd.underlying46
@[go_sem] theorem z46 : tsize Tryd.prog 46 = 1 := by kernel_rfl
@[go_sem] theorem k46 : ttag Tryd.prog 46 = some false := by kernel_rfl
@[go_sem] theorem y46 : Tryd.prog.bytesOf 46 = 24 := by kernel_rfl
@[go_sem] theorem s46 : isStr Tryd.prog 46 = false := by kernel_rfl
@[go_sem] theorem j46 : isI32 Tryd.prog 46 = false := by kernel_rfl
@[go_sem] theorem w46 : isU8 Tryd.prog 46 = false := by kernel_rfl
@[go_sem] theorem o46 : tzero Tryd.prog 46 = some [.slice none 0 0] := by kernel_rfl
@[go_sem] theorem i46 : (Tryd.prog.info? 46).isSome = true := by kernel_rfl
attribute [go_sem] Tryd.underlying49
@[go_sem] theorem z49 : tsize Tryd.prog 49 = 6 := by kernel_rfl
@[go_sem] theorem k49 : ttag Tryd.prog 49 = some true := by kernel_rfl
@[go_sem] theorem y49 : Tryd.prog.bytesOf 49 = 48 := by kernel_rfl
@[go_sem] theorem s49 : isStr Tryd.prog 49 = false := by kernel_rfl
@[go_sem] theorem j49 : isI32 Tryd.prog 49 = false := by kernel_rfl
@[go_sem] theorem w49 : isU8 Tryd.prog 49 = false := by kernel_rfl
@[go_sem] theorem o49 : tzero Tryd.prog 49 = some [.int .i64 0, .string ByteArray.empty, .int .i64 0, .int .i64 0, .bool false, .bool false] := by kernel_rfl
@[go_sem] theorem i49 : (Tryd.prog.info? 49).isSome = true := by kernel_rfl
@[go_sem] theorem x49 : structOk Tryd.prog 49 = true := by kernel_rfl
@[go_sem] theorem g49x0 : fieldOff Tryd.prog 49 0 = some (0, 3) := by kernel_rfl
@[go_sem] theorem g49x1 : fieldOff Tryd.prog 49 1 = some (1, 9) := by kernel_rfl
@[go_sem] theorem g49x2 : fieldOff Tryd.prog 49 2 = some (2, 27) := by kernel_rfl
@[go_sem] theorem g49x3 : fieldOff Tryd.prog 49 3 = some (4, 4) := by kernel_rfl
@[go_sem] theorem g49x4 : fieldOff Tryd.prog 49 4 = some (5, 4) := by kernel_rfl
attribute [go_sem] Tryd.underlying51
@[go_sem] theorem z51 : tsize Tryd.prog 51 = 7 := by kernel_rfl
@[go_sem] theorem k51 : ttag Tryd.prog 51 = some true := by kernel_rfl
@[go_sem] theorem y51 : Tryd.prog.bytesOf 51 = 72 := by kernel_rfl
@[go_sem] theorem s51 : isStr Tryd.prog 51 = false := by kernel_rfl
@[go_sem] theorem j51 : isI32 Tryd.prog 51 = false := by kernel_rfl
@[go_sem] theorem w51 : isU8 Tryd.prog 51 = false := by kernel_rfl
@[go_sem] theorem o51 : tzero Tryd.prog 51 = some [.int .i64 0, .string ByteArray.empty, .int .i64 0, .int .i64 0, .bool false, .bool false, .slice none 0 0] := by kernel_rfl
@[go_sem] theorem i51 : (Tryd.prog.info? 51).isSome = true := by kernel_rfl
@[go_sem] theorem x51 : structOk Tryd.prog 51 = true := by kernel_rfl
@[go_sem] theorem g51x0 : fieldOff Tryd.prog 51 0 = some (0, 49) := by kernel_rfl
@[go_sem] theorem g51x1 : fieldOff Tryd.prog 51 1 = some (6, 46) := by kernel_rfl
attribute [go_sem] Tryd.underlying52
@[go_sem] theorem z52 : tsize Tryd.prog 52 = 1 := by kernel_rfl
@[go_sem] theorem k52 : ttag Tryd.prog 52 = some false := by kernel_rfl
@[go_sem] theorem y52 : Tryd.prog.bytesOf 52 = 24 := by kernel_rfl
@[go_sem] theorem s52 : isStr Tryd.prog 52 = false := by kernel_rfl
@[go_sem] theorem j52 : isI32 Tryd.prog 52 = false := by kernel_rfl
@[go_sem] theorem w52 : isU8 Tryd.prog 52 = false := by kernel_rfl
@[go_sem] theorem o52 : tzero Tryd.prog 52 = some [.slice none 0 0] := by kernel_rfl
@[go_sem] theorem i52 : (Tryd.prog.info? 52).isSome = true := by kernel_rfl
attribute [go_sem] Tryd.underlying55
@[go_sem] theorem z55 : tsize Tryd.prog 55 = 8 := by kernel_rfl
@[go_sem] theorem k55 : ttag Tryd.prog 55 = some true := by kernel_rfl
@[go_sem] theorem y55 : Tryd.prog.bytesOf 55 = 80 := by kernel_rfl
@[go_sem] theorem s55 : isStr Tryd.prog 55 = false := by kernel_rfl
@[go_sem] theorem j55 : isI32 Tryd.prog 55 = false := by kernel_rfl
@[go_sem] theorem w55 : isU8 Tryd.prog 55 = false := by kernel_rfl
@[go_sem] theorem o55 : tzero Tryd.prog 55 = some [.string ByteArray.empty, .int .i64 0, .bool false, .bool false, .string ByteArray.empty, .string ByteArray.empty, .int .i64 0, .int .i64 0] := by kernel_rfl
@[go_sem] theorem i55 : (Tryd.prog.info? 55).isSome = true := by kernel_rfl
@[go_sem] theorem x55 : structOk Tryd.prog 55 = true := by kernel_rfl
@[go_sem] theorem g55x0 : fieldOff Tryd.prog 55 0 = some (0, 9) := by kernel_rfl
@[go_sem] theorem g55x1 : fieldOff Tryd.prog 55 1 = some (1, 3) := by kernel_rfl
@[go_sem] theorem g55x2 : fieldOff Tryd.prog 55 2 = some (2, 4) := by kernel_rfl
@[go_sem] theorem g55x3 : fieldOff Tryd.prog 55 3 = some (3, 4) := by kernel_rfl
@[go_sem] theorem g55x4 : fieldOff Tryd.prog 55 4 = some (4, 9) := by kernel_rfl
@[go_sem] theorem g55x5 : fieldOff Tryd.prog 55 5 = some (5, 9) := by kernel_rfl
@[go_sem] theorem g55x6 : fieldOff Tryd.prog 55 6 = some (6, 2) := by kernel_rfl
@[go_sem] theorem g55x7 : fieldOff Tryd.prog 55 7 = some (7, 2) := by kernel_rfl
attribute [go_sem] Tryd.underlying61
@[go_sem] theorem z61 : tsize Tryd.prog 61 = 1 := by kernel_rfl
@[go_sem] theorem k61 : ttag Tryd.prog 61 = some false := by kernel_rfl
@[go_sem] theorem y61 : Tryd.prog.bytesOf 61 = 8 := by kernel_rfl
@[go_sem] theorem s61 : isStr Tryd.prog 61 = false := by kernel_rfl
@[go_sem] theorem j61 : isI32 Tryd.prog 61 = false := by kernel_rfl
@[go_sem] theorem w61 : isU8 Tryd.prog 61 = false := by kernel_rfl
@[go_sem] theorem i61 : (Tryd.prog.info? 61).isSome = true := by kernel_rfl
attribute [go_sem] Tryd.underlying73
@[go_sem] theorem z73 : tsize Tryd.prog 73 = 1 := by kernel_rfl
@[go_sem] theorem k73 : ttag Tryd.prog 73 = some false := by kernel_rfl
@[go_sem] theorem y73 : Tryd.prog.bytesOf 73 = 24 := by kernel_rfl
@[go_sem] theorem s73 : isStr Tryd.prog 73 = false := by kernel_rfl
@[go_sem] theorem j73 : isI32 Tryd.prog 73 = false := by kernel_rfl
@[go_sem] theorem w73 : isU8 Tryd.prog 73 = false := by kernel_rfl
@[go_sem] theorem o73 : tzero Tryd.prog 73 = some [.slice none 0 0] := by kernel_rfl
@[go_sem] theorem i73 : (Tryd.prog.info? 73).isSome = true := by kernel_rfl
attribute [go_sem] Tryd.underlying81
@[go_sem] theorem z81 : tsize Tryd.prog 81 = 1 := by kernel_rfl
@[go_sem] theorem k81 : ttag Tryd.prog 81 = some false := by kernel_rfl
@[go_sem] theorem y81 : Tryd.prog.bytesOf 81 = 8 := by kernel_rfl
@[go_sem] theorem s81 : isStr Tryd.prog 81 = false := by kernel_rfl
@[go_sem] theorem j81 : isI32 Tryd.prog 81 = false := by kernel_rfl
@[go_sem] theorem w81 : isU8 Tryd.prog 81 = false := by kernel_rfl
@[go_sem] theorem i81 : (Tryd.prog.info? 81).isSome = true := by kernel_rfl
attribute [go_sem] Tryd.underlying84
@[go_sem] theorem z84 : tsize Tryd.prog 84 = 2 := by kernel_rfl
@[go_sem] theorem k84 : ttag Tryd.prog 84 = some true := by kernel_rfl
@[go_sem] theorem y84 : Tryd.prog.bytesOf 84 = 32 := by kernel_rfl
@[go_sem] theorem s84 : isStr Tryd.prog 84 = false := by kernel_rfl
@[go_sem] theorem j84 : isI32 Tryd.prog 84 = false := by kernel_rfl
@[go_sem] theorem w84 : isU8 Tryd.prog 84 = false := by kernel_rfl
@[go_sem] theorem o84 : tzero Tryd.prog 84 = some [.slice none 0 0, .int .i64 0] := by kernel_rfl
@[go_sem] theorem i84 : (Tryd.prog.info? 84).isSome = true := by kernel_rfl
@[go_sem] theorem x84 : structOk Tryd.prog 84 = true := by kernel_rfl
@[go_sem] theorem g84x0 : fieldOff Tryd.prog 84 0 = some (0, 46) := by kernel_rfl
@[go_sem] theorem g84x1 : fieldOff Tryd.prog 84 1 = some (1, 3) := by kernel_rfl
attribute [go_sem] Tryd.underlying85
@[go_sem] theorem z85 : tsize Tryd.prog 85 = 1 := by kernel_rfl
@[go_sem] theorem k85 : ttag Tryd.prog 85 = some false := by kernel_rfl
@[go_sem] theorem y85 : Tryd.prog.bytesOf 85 = 24 := by kernel_rfl
@[go_sem] theorem s85 : isStr Tryd.prog 85 = false := by kernel_rfl
@[go_sem] theorem j85 : isI32 Tryd.prog 85 = false := by kernel_rfl
@[go_sem] theorem w85 : isU8 Tryd.prog 85 = false := by kernel_rfl
@[go_sem] theorem o85 : tzero Tryd.prog 85 = some [.slice none 0 0] := by kernel_rfl
@[go_sem] theorem i85 : (Tryd.prog.info? 85).isSome = true := by kernel_rfl
attribute [go_sem] Tryd.underlying94
@[go_sem] theorem z94 : tsize Tryd.prog 94 = 7 := by kernel_rfl
@[go_sem] theorem k94 : ttag Tryd.prog 94 = some true := by kernel_rfl
@[go_sem] theorem y94 : Tryd.prog.bytesOf 94 = 72 := by kernel_rfl
@[go_sem] theorem s94 : isStr Tryd.prog 94 = false := by kernel_rfl
@[go_sem] theorem j94 : isI32 Tryd.prog 94 = false := by kernel_rfl
@[go_sem] theorem w94 : isU8 Tryd.prog 94 = false := by kernel_rfl
@[go_sem] theorem o94 : tzero Tryd.prog 94 = some [.int .i64 0, .string ByteArray.empty, .int .i64 0, .int .i64 0, .bool false, .bool false, .slice none 0 0] := by kernel_rfl
@[go_sem] theorem i94 : (Tryd.prog.info? 94).isSome = true := by kernel_rfl
@[go_sem] theorem x94 : structOk Tryd.prog 94 = true := by kernel_rfl
@[go_sem] theorem g94x0 : fieldOff Tryd.prog 94 0 = some (0, 49) := by kernel_rfl
@[go_sem] theorem g94x1 : fieldOff Tryd.prog 94 1 = some (6, 46) := by kernel_rfl
attribute [go_sem] Tryd.underlying95
@[go_sem] theorem z95 : tsize Tryd.prog 95 = 1 := by kernel_rfl
@[go_sem] theorem k95 : ttag Tryd.prog 95 = some false := by kernel_rfl
@[go_sem] theorem y95 : Tryd.prog.bytesOf 95 = 24 := by kernel_rfl
@[go_sem] theorem s95 : isStr Tryd.prog 95 = false := by kernel_rfl
@[go_sem] theorem j95 : isI32 Tryd.prog 95 = false := by kernel_rfl
@[go_sem] theorem w95 : isU8 Tryd.prog 95 = false := by kernel_rfl
@[go_sem] theorem o95 : tzero Tryd.prog 95 = some [.slice none 0 0] := by kernel_rfl
@[go_sem] theorem i95 : (Tryd.prog.info? 95).isSome = true := by kernel_rfl
attribute [go_sem] Tryd.underlying98
@[go_sem] theorem z98 : tsize Tryd.prog 98 = 1 := by kernel_rfl
@[go_sem] theorem k98 : ttag Tryd.prog 98 = some false := by kernel_rfl
@[go_sem] theorem y98 : Tryd.prog.bytesOf 98 = 24 := by kernel_rfl
@[go_sem] theorem s98 : isStr Tryd.prog 98 = false := by kernel_rfl
@[go_sem] theorem j98 : isI32 Tryd.prog 98 = false := by kernel_rfl
@[go_sem] theorem w98 : isU8 Tryd.prog 98 = false := by kernel_rfl
@[go_sem] theorem o98 : tzero Tryd.prog 98 = some [.slice none 0 0] := by kernel_rfl
@[go_sem] theorem i98 : (Tryd.prog.info? 98).isSome = true := by kernel_rfl
attribute [go_sem] Tryd.underlying101
@[go_sem] theorem z101 : tsize Tryd.prog 101 = 1 := by kernel_rfl
@[go_sem] theorem k101 : ttag Tryd.prog 101 = some false := by kernel_rfl
@[go_sem] theorem y101 : Tryd.prog.bytesOf 101 = 8 := by kernel_rfl
@[go_sem] theorem s101 : isStr Tryd.prog 101 = false := by kernel_rfl
@[go_sem] theorem j101 : isI32 Tryd.prog 101 = false := by kernel_rfl
@[go_sem] theorem w101 : isU8 Tryd.prog 101 = false := by kernel_rfl
@[go_sem] theorem o101 : tzero Tryd.prog 101 = some [.int .u64 0] := by kernel_rfl
@[go_sem] theorem i101 : (Tryd.prog.info? 101).isSome = true := by kernel_rfl
attribute [go_sem] Tryd.underlying116
@[go_sem] theorem z116 : tsize Tryd.prog 116 = 1 := by kernel_rfl
@[go_sem] theorem k116 : ttag Tryd.prog 116 = some false := by kernel_rfl
@[go_sem] theorem y116 : Tryd.prog.bytesOf 116 = 8 := by kernel_rfl
@[go_sem] theorem s116 : isStr Tryd.prog 116 = false := by kernel_rfl
@[go_sem] theorem j116 : isI32 Tryd.prog 116 = false := by kernel_rfl
@[go_sem] theorem w116 : isU8 Tryd.prog 116 = false := by kernel_rfl
@[go_sem] theorem i116 : (Tryd.prog.info? 116).isSome = true := by kernel_rfl
attribute [go_sem] Tryd.underlying118
@[go_sem] theorem z118 : tsize Tryd.prog 118 = 2 := by kernel_rfl
@[go_sem] theorem k118 : ttag Tryd.prog 118 = some true := by kernel_rfl
@[go_sem] theorem y118 : Tryd.prog.bytesOf 118 = 32 := by kernel_rfl
@[go_sem] theorem s118 : isStr Tryd.prog 118 = false := by kernel_rfl
@[go_sem] theorem j118 : isI32 Tryd.prog 118 = false := by kernel_rfl
@[go_sem] theorem w118 : isU8 Tryd.prog 118 = false := by kernel_rfl
@[go_sem] theorem o118 : tzero Tryd.prog 118 = some [.slice none 0 0, .int .i64 0] := by kernel_rfl
@[go_sem] theorem i118 : (Tryd.prog.info? 118).isSome = true := by kernel_rfl
@[go_sem] theorem x118 : structOk Tryd.prog 118 = true := by kernel_rfl
@[go_sem] theorem g118x0 : fieldOff Tryd.prog 118 0 = some (0, 98) := by kernel_rfl
@[go_sem] theorem g118x1 : fieldOff Tryd.prog 118 1 = some (1, 3) := by kernel_rfl
attribute [go_sem] Tryd.underlying137
@[go_sem] theorem z137 : tsize Tryd.prog 137 = 1 := by kernel_rfl
@[go_sem] theorem k137 : ttag Tryd.prog 137 = some false := by kernel_rfl
@[go_sem] theorem y137 : Tryd.prog.bytesOf 137 = 24 := by kernel_rfl
@[go_sem] theorem s137 : isStr Tryd.prog 137 = false := by kernel_rfl
@[go_sem] theorem j137 : isI32 Tryd.prog 137 = false := by kernel_rfl
@[go_sem] theorem w137 : isU8 Tryd.prog 137 = false := by kernel_rfl
@[go_sem] theorem o137 : tzero Tryd.prog 137 = some [.slice none 0 0] := by kernel_rfl
@[go_sem] theorem i137 : (Tryd.prog.info? 137).isSome = true := by kernel_rfl
attribute [go_sem] Tryd.underlying140
@[go_sem] theorem z140 : tsize Tryd.prog 140 = 9 := by kernel_rfl
@[go_sem] theorem k140 : ttag Tryd.prog 140 = some true := by kernel_rfl
@[go_sem] theorem y140 : Tryd.prog.bytesOf 140 = 72 := by kernel_rfl
@[go_sem] theorem s140 : isStr Tryd.prog 140 = false := by kernel_rfl
@[go_sem] theorem j140 : isI32 Tryd.prog 140 = false := by kernel_rfl
@[go_sem] theorem w140 : isU8 Tryd.prog 140 = false := by kernel_rfl
@[go_sem] theorem o140 : tzero Tryd.prog 140 = some [.int .i64 0, .int .i64 0, .int .i64 0, .int .i64 0, .int .i64 0, .int .i64 0, .int .i64 0, .int .i64 0, .int .i64 0] := by kernel_rfl
@[go_sem] theorem i140 : (Tryd.prog.info? 140).isSome = true := by kernel_rfl
attribute [go_sem] Tryd.underlying150
@[go_sem] theorem z150 : tsize Tryd.prog 150 = 1 := by kernel_rfl
@[go_sem] theorem k150 : ttag Tryd.prog 150 = some false := by kernel_rfl
@[go_sem] theorem y150 : Tryd.prog.bytesOf 150 = 8 := by kernel_rfl
@[go_sem] theorem s150 : isStr Tryd.prog 150 = false := by kernel_rfl
@[go_sem] theorem j150 : isI32 Tryd.prog 150 = false := by kernel_rfl
@[go_sem] theorem w150 : isU8 Tryd.prog 150 = false := by kernel_rfl
@[go_sem] theorem o150 : tzero Tryd.prog 150 = some [.int .u64 0] := by kernel_rfl
@[go_sem] theorem i150 : (Tryd.prog.info? 150).isSome = true := by kernel_rfl
attribute [go_sem] Tryd.underlying154
@[go_sem] theorem z154 : tsize Tryd.prog 154 = 1 := by kernel_rfl
@[go_sem] theorem k154 : ttag Tryd.prog 154 = some false := by kernel_rfl
@[go_sem] theorem y154 : Tryd.prog.bytesOf 154 = 8 := by kernel_rfl
@[go_sem] theorem s154 : isStr Tryd.prog 154 = false := by kernel_rfl
@[go_sem] theorem j154 : isI32 Tryd.prog 154 = false := by kernel_rfl
@[go_sem] theorem w154 : isU8 Tryd.prog 154 = false := by kernel_rfl
@[go_sem] theorem i154 : (Tryd.prog.info? 154).isSome = true := by kernel_rfl
attribute [go_sem] Tryd.underlying156
@[go_sem] theorem z156 : tsize Tryd.prog 156 = 2 := by kernel_rfl
@[go_sem] theorem k156 : ttag Tryd.prog 156 = some true := by kernel_rfl
@[go_sem] theorem y156 : Tryd.prog.bytesOf 156 = 32 := by kernel_rfl
@[go_sem] theorem s156 : isStr Tryd.prog 156 = false := by kernel_rfl
@[go_sem] theorem j156 : isI32 Tryd.prog 156 = false := by kernel_rfl
@[go_sem] theorem w156 : isU8 Tryd.prog 156 = false := by kernel_rfl
@[go_sem] theorem o156 : tzero Tryd.prog 156 = some [.slice none 0 0, .int .i64 0] := by kernel_rfl
@[go_sem] theorem i156 : (Tryd.prog.info? 156).isSome = true := by kernel_rfl
@[go_sem] theorem x156 : structOk Tryd.prog 156 = true := by kernel_rfl
@[go_sem] theorem g156x0 : fieldOff Tryd.prog 156 0 = some (0, 46) := by kernel_rfl
@[go_sem] theorem g156x1 : fieldOff Tryd.prog 156 1 = some (1, 3) := by kernel_rfl
@[go_sem] def h4a : Nat -> Option (List Nat) := (fun id => match id with | 0 => some [] | 1 => some [11, 12, 13] | 2 => some [11, 12, 13, 14] | 3 => some [2, 11, 12, 13] | 4 => some [2, 3, 4, 11, 12, 13] | 5 => some [2, 3, 11, 12, 13, 23] | 6 => some [0] | 7 => some [2, 5, 11, 12, 13] | 8 => some [2, 5, 11, 12, 13, 27] | 9 => some [0] | 10 => some [2, 5, 11, 12, 13, 27, 28] | 11 => some [5, 6, 7, 11, 12, 13] | 12 => some [11, 12, 13, 51] | 13 => some [0] | 14 => some [2, 5, 11, 12, 13, 27, 52] | 15 => some [2, 5, 11, 12, 13, 27, 52] | 16 => some [2, 5, 8, 11, 12, 13] | 17 => some [2, 5, 8, 11, 12, 13, 60] | 18 => some [2, 5, 8, 11, 12, 13, 60] | 19 => some [5, 9, 10, 11, 12, 13] | 20 => some [11, 12, 13, 85] | 21 => some [0] | 22 => some [11, 12, 13] | 23 => some [0] | _ => none)
def h4 : Hint := ⟨h4a, (fun id => match id with | 22 => some 0 | _ => none), (fun _ => none), [], false, (fun _ => none), fun _ => 0, 0, false, (fun _ => none)⟩
@[go_sem] theorem h4x : h4.mix = (fun _ => none) := rfl
@[go_sem] theorem h4l : h4.live = h4a := rfl
@[go_sem] theorem h4o : h4.mode = fun _ => 0 := rfl
@[go_sem] theorem h4k : h4.keep = (fun id => match id with | 22 => some 0 | _ => none) := rfl
@[go_sem] theorem h4t : h4.tail = (fun _ => none) := rfl
@[go_sem] theorem h4v : h4.vars = [] := rfl
@[go_sem] theorem h4m : h4.mutc = false := rfl
@[go_sem] def h5a : Nat -> Option (List Nat) := (fun id => match id with | 0 => some [] | 1 => some [1] | 2 => some [1, 4, 5, 6] | 3 => some [1, 4, 5, 6, 7] | 4 => some [1, 3, 4, 5, 6] | 5 => some [1, 4, 5, 6] | 6 => some [1, 4, 5, 6] | 7 => some [0] | _ => none)
def h5 : Hint := ⟨h5a, (fun id => match id with | 6 => some 0 | _ => none), (fun _ => none), [1], false, (fun _ => none), fun _ => 0, 0, false, (fun _ => none)⟩
@[go_sem] theorem h5x : h5.mix = (fun _ => none) := rfl
@[go_sem] theorem h5l : h5.live = h5a := rfl
@[go_sem] theorem h5o : h5.mode = fun _ => 0 := rfl
@[go_sem] theorem h5k : h5.keep = (fun id => match id with | 6 => some 0 | _ => none) := rfl
@[go_sem] theorem h5t : h5.tail = (fun _ => none) := rfl
@[go_sem] theorem h5v : h5.vars = [1] := rfl
@[go_sem] theorem h5m : h5.mutc = false := rfl
@[go_sem] def h7a : Nat -> Option (List Nat) := (fun id => match id with | 0 => some [0, 2] | 1 => some [2, 4] | 2 => some [2, 4, 10] | 3 => some [2, 3] | 4 => some [2, 5] | 5 => some [2, 5, 6] | 6 => some [2, 6] | 7 => some [2, 5, 6, 35] | 8 => some [2, 6] | 9 => some [2, 5, 6, 43] | 10 => some [2, 6] | 11 => some [2, 3] | _ => none)
@[go_sem] def h7M : Nat -> Option Mix := (fun id => match id with | 5 => some ⟨[0, 1, 2, 3, 4, 5, 6, 7, 8, 9, 10, 11], [], .head 0 (.head 1 (.head 2 (.head 3 (.head 4 (.head 5 (.head 6 (.head 7 (.head 8 (.head 9 (.alt (.one 10 (.head 11 (.one 12 (.one 13 (.fin))))) (.one 12 (.head 10 (.head 11 (.one 13 (.fin)))))))))))))))⟩ | _ => none)
def h7 : Hint := ⟨h7a, (fun _ => none), (fun id => match id with | 5 => some 12 | _ => none), [], false, h7M, fun _ => 0, 0, false, (fun _ => none)⟩
@[go_sem] theorem h7e : h7.late = (fun _ => none) := rfl
@[go_sem] theorem h7x : h7.mix = h7M := rfl
@[go_sem] theorem h7l : h7.live = h7a := rfl
@[go_sem] theorem h7o : h7.mode = fun _ => 0 := rfl
@[go_sem] theorem h7k : h7.keep = (fun _ => none) := rfl
@[go_sem] theorem h7t : h7.tail = (fun id => match id with | 5 => some 12 | _ => none) := rfl
@[go_sem] theorem h7v : h7.vars = [] := rfl
@[go_sem] theorem h7m : h7.mutc = false := rfl
def HQ (a : Nat -> Option (List Nat)) : Hint := ⟨a, (fun _ => none), (fun _ => none), [], false, (fun _ => none), fun _ => 0, 0, false, (fun _ => none)⟩
@[go_sem] theorem HQe (a : Nat -> Option (List Nat)) : (HQ a).late = (fun _ => none) := rfl
@[go_sem] theorem HQx (a : Nat -> Option (List Nat)) : (HQ a).mix = (fun _ => none) := rfl
@[go_sem] theorem HQl (a : Nat -> Option (List Nat)) : (HQ a).live = a := rfl
@[go_sem] theorem HQo (a : Nat -> Option (List Nat)) : (HQ a).mode = fun _ => 0 := rfl
@[go_sem] theorem HQk (a : Nat -> Option (List Nat)) : (HQ a).keep = (fun _ => none) := rfl
@[go_sem] theorem HQt (a : Nat -> Option (List Nat)) : (HQ a).tail = (fun _ => none) := rfl
@[go_sem] theorem HQv (a : Nat -> Option (List Nat)) : (HQ a).vars = [] := rfl
@[go_sem] theorem HQm (a : Nat -> Option (List Nat)) : (HQ a).mutc = false := rfl
@[go_sem] def h9a : Nat -> Option (List Nat) := (fun id => match id with | 0 => some [0] | 1 => some [3, 4] | 2 => some [3, 12] | 3 => some [2] | 4 => some [2] | _ => none)
abbrev h9 : Hint := HQ h9a
@[go_sem] def h10a : Nat -> Option (List Nat) := (fun id => match id with | 0 => some [0, 1, 4] | 1 => some [0, 1, 4, 6, 7] | 2 => some [1, 4, 6, 7, 14] | 3 => some [4, 5] | 4 => some [1, 4, 6, 7, 23] | 5 => some [4, 5] | 6 => some [1, 4, 6, 7, 28] | 7 => some [4, 5] | 8 => some [1, 4, 6, 7] | 9 => some [1, 4, 6, 7, 8] | 10 => some [1, 4, 6, 7, 8, 45] | 11 => some [1, 4, 6, 7, 8, 45] | 12 => some [1, 4, 6, 7, 8, 52] | 13 => some [4, 5] | 14 => some [1, 4, 6, 8, 65] | 15 => some [4, 5] | 16 => some [1, 4, 6, 8, 75] | 17 => some [4, 5] | 18 => some [4, 5] | _ => none)
abbrev h10 : Hint := HQ h10a
@[go_sem] def h11a : Nat -> Option (List Nat) := (fun id => match id with | 0 => some [0] | 1 => some [2] | _ => none)
abbrev h11 : Hint := HQ h11a
@[go_sem] def h12a : Nat -> Option (List Nat) := (fun id => match id with | 0 => some [] | 1 => some [0] | _ => none)
abbrev h12 : Hint := HQ h12a
@[go_sem] def h17a : Nat -> Option (List Nat) := (fun id => match id with | 0 => some [] | 1 => some [1] | 2 => some [1, 5, 6, 7] | 3 => some [1, 5, 6, 7, 8] | 4 => some [1, 2, 3, 5, 6, 7] | 5 => some [1, 5, 6, 7] | 6 => some [1, 5, 6, 7] | 7 => some [0] | _ => none)
def h17 : Hint := ⟨h17a, (fun id => match id with | 6 => some 1 | _ => none), (fun _ => none), [], false, (fun _ => none), fun _ => 0, 1, false, (fun _ => none)⟩
@[go_sem] theorem h17x : h17.mix = (fun _ => none) := rfl
@[go_sem] theorem h17l : h17.live = h17a := rfl
@[go_sem] theorem h17o : h17.mode = fun _ => 0 := rfl
@[go_sem] theorem h17k : h17.keep = (fun id => match id with | 6 => some 1 | _ => none) := rfl
@[go_sem] theorem h17t : h17.tail = (fun _ => none) := rfl
@[go_sem] theorem h17v : h17.vars = [] := rfl
@[go_sem] theorem h17m : h17.mutc = false := rfl
@[go_sem] def h18a : Nat -> Option (List Nat) := (fun id => match id with | 0 => some [0] | 1 => some [0, 5] | 2 => some [0, 5, 6, 7] | 3 => some [0, 3, 5] | 4 => some [0, 5, 10] | 5 => some [2] | 6 => some [2] | _ => none)
abbrev h18 : Hint := HQ h18a
@[go_sem] def h19a : Nat -> Option (List Nat) := (fun id => match id with | 0 => some [0] | 1 => some [2] | _ => none)
abbrev h19 : Hint := HQ h19a
@[go_sem] def h20a : Nat -> Option (List Nat) := (fun id => match id with | 0 => some [0, 1] | 1 => some [1, 7, 8, 9] | 2 => some [1, 7, 8, 9, 10] | 3 => some [1, 6, 7, 8, 9] | 4 => some [1, 6, 7, 8, 9, 15] | 5 => some [1, 6, 7, 8, 9, 15, 16] | 6 => some [1, 6, 7, 8, 9, 15, 16] | 7 => some [1, 6, 7, 8, 9, 15, 16] | 8 => some [1, 6, 7, 8, 9, 15, 16] | 9 => some [1, 6, 7, 8, 9, 15, 16] | 10 => some [4] | 11 => some [1, 6, 7, 8, 9, 22] | 12 => some [1, 6, 7, 8, 9, 24] | 13 => some [4] | 14 => some [1, 7, 8, 9, 39] | 15 => some [4] | 16 => some [1, 7, 8, 9] | 17 => some [4] | _ => none)
abbrev h20 : Hint := HQ h20a
@[go_sem] def h21a : Nat -> Option (List Nat) := (fun id => match id with | 0 => some [0] | 1 => some [2] | _ => none)
abbrev h21 : Hint := HQ h21a
@[go_sem] def h22a : Nat -> Option (List Nat) := (fun id => match id with | 0 => some [0] | 1 => some [3] | 2 => some [3, 8, 9, 10] | 3 => some [3, 8, 9, 10, 11] | 4 => some [3, 4, 5, 8, 9, 10] | 5 => some [3, 4, 5, 8, 9, 10, 20] | 6 => some [3, 4, 5, 8, 9, 10, 20] | 7 => some [3, 8, 9, 10] | 8 => some [2] | _ => none)
abbrev h22 : Hint := HQ h22a
@[go_sem] def h23a : Nat -> Option (List Nat) := (fun id => match id with | 0 => some [0] | 1 => some [2] | _ => none)
abbrev h23 : Hint := HQ h23a
@[go_sem] def h24a : Nat -> Option (List Nat) := (fun id => match id with | 0 => some [0] | 1 => some [0, 3] | 2 => some [3, 4] | 3 => some [3, 4, 13] | 4 => some [3, 4, 5] | 5 => some [3, 4, 5, 24] | 6 => some [3, 4, 5, 29] | 7 => some [3, 4, 5, 29] | 8 => some [3, 4] | 9 => some [3, 4, 5, 6] | 10 => some [3, 4, 6] | 11 => some [3, 4, 6] | 12 => some [3, 4, 6, 7] | 13 => some [3, 4, 6, 7, 73] | 14 => some [3, 4] | 15 => some [2] | _ => none)
def h24 : Hint := ⟨h24a, (fun _ => none), (fun _ => none), [3, 4], false, (fun _ => none), fun _ => 0, 0, false, (fun _ => none)⟩
@[go_sem] theorem h24x : h24.mix = (fun _ => none) := rfl
@[go_sem] theorem h24l : h24.live = h24a := rfl
@[go_sem] theorem h24o : h24.mode = fun _ => 0 := rfl
@[go_sem] theorem h24k : h24.keep = (fun _ => none) := rfl
@[go_sem] theorem h24t : h24.tail = (fun _ => none) := rfl
@[go_sem] theorem h24v : h24.vars = [3, 4] := rfl
@[go_sem] theorem h24m : h24.mutc = false := rfl
@[go_sem] def h25a : Nat -> Option (List Nat) := (fun id => match id with | 0 => some [0, 1] | 1 => some [4] | _ => none)
abbrev h25 : Hint := HQ h25a
@[go_sem] def h26a : Nat -> Option (List Nat) := (fun id => match id with | 0 => some [1, 2, 4] | 1 => some [1, 2, 4, 14] | 2 => some [4, 5] | 3 => some [1, 2, 4, 6] | 4 => some [1, 2, 4, 6, 41] | 5 => some [4, 5] | 6 => some [2, 4, 7, 8] | 7 => some [2, 4, 7, 51] | 8 => some [4, 5] | 9 => some [2, 4, 7, 9] | 10 => some [2, 4, 7, 9, 55] | 11 => some [2, 4, 7, 9, 55] | 12 => some [2, 4, 7, 9, 10] | 13 => some [2, 4, 7, 63] | 14 => some [4, 5] | 15 => some [4, 7, 78] | 16 => some [4, 5] | 17 => some [4, 5] | _ => none)
def h26 : Hint := ⟨h26a, (fun _ => none), (fun id => match id with | 4 => some 25 | _ => none), [], false, (fun _ => none), fun _ => 0, 0, false, (fun _ => none)⟩
@[go_sem] theorem h26e : h26.late = (fun _ => none) := rfl
@[go_sem] theorem h26x : h26.mix = (fun _ => none) := rfl
@[go_sem] theorem h26l : h26.live = h26a := rfl
@[go_sem] theorem h26o : h26.mode = fun _ => 0 := rfl
@[go_sem] theorem h26k : h26.keep = (fun _ => none) := rfl
@[go_sem] theorem h26t : h26.tail = (fun id => match id with | 4 => some 25 | _ => none) := rfl
@[go_sem] theorem h26v : h26.vars = [] := rfl
@[go_sem] theorem h26m : h26.mutc = false := rfl
@[go_sem] def h27a : Nat -> Option (List Nat) := (fun id => match id with | 0 => some [0] | 1 => some [0, 3] | 2 => some [3, 9, 10, 11] | 3 => some [3, 9, 10, 11, 12] | 4 => some [3, 5, 9, 10, 11] | 5 => some [3, 5, 6, 9, 10, 11] | 6 => some [3, 5, 6, 9, 10, 11, 31] | 7 => some [3, 9, 10, 11] | 8 => some [3, 5, 6, 9, 10, 11, 37] | 9 => some [3, 9, 10, 11] | 10 => some [3, 9, 10, 11] | 11 => some [3, 9, 10, 11] | 12 => some [3, 59] | 13 => some [3, 9, 10, 11] | 14 => some [2] | _ => none)
@[go_sem] def h27M : Nat -> Option Mix := (fun id => match id with | 10 => some ⟨[0, 1, 2, 3, 4, 5, 6, 7, 8], [], .head 0 (.head 1 (.head 2 (.head 3 (.head 4 (.head 5 (.head 6 (.head 7 (.head 8 (.two 9)))))))))⟩ | _ => none)
def h27 : Hint := ⟨h27a, (fun id => match id with | 11 => some 1 | _ => none), (fun id => match id with | 6 => some 14 | 10 => some 8 | _ => none), [3], false, h27M, (fun d => match d with | some 8 => 1 | some 41 => 2 | some 42 => 1 | _ => 0), 0, false, (fun _ => none)⟩
@[go_sem] theorem h27e : h27.late = (fun _ => none) := rfl
@[go_sem] theorem h27x : h27.mix = h27M := rfl
@[go_sem] theorem h27l : h27.live = h27a := rfl
@[go_sem] theorem h27o : h27.mode = (fun d => match d with | some 8 => 1 | some 41 => 2 | some 42 => 1 | _ => 0) := rfl
@[go_sem] theorem h27k : h27.keep = (fun id => match id with | 11 => some 1 | _ => none) := rfl
@[go_sem] theorem h27t : h27.tail = (fun id => match id with | 6 => some 14 | 10 => some 8 | _ => none) := rfl
@[go_sem] theorem h27v : h27.vars = [3] := rfl
@[go_sem] theorem h27m : h27.mutc = false := rfl
@[go_sem] def h28a : Nat -> Option (List Nat) := (fun id => match id with | 0 => some [0] | 1 => some [2] | _ => none)
abbrev h28 : Hint := HQ h28a
@[go_sem] def h29a : Nat -> Option (List Nat) := (fun id => match id with | 0 => some [0, 2] | 1 => some [2] | _ => none)
abbrev h29 : Hint := HQ h29a
@[go_sem] def h33a : Nat -> Option (List Nat) := (fun id => match id with | 0 => some [0, 1] | 1 => some [4] | _ => none)
abbrev h33 : Hint := HQ h33a
@[go_sem] def h34a : Nat -> Option (List Nat) := (fun id => match id with | 0 => some [0, 1] | 1 => some [1, 7, 8, 9] | 2 => some [1, 7, 8, 9, 10] | 3 => some [1, 6, 7, 8, 9] | 4 => some [1, 6, 7, 8, 9, 22] | 5 => some [4] | 6 => some [1, 6, 7, 8, 9, 27] | 7 => some [1, 7, 8, 9, 31] | 8 => some [4] | 9 => some [1, 7, 8, 9, 41] | 10 => some [4] | 11 => some [1, 7, 8, 9] | 12 => some [4] | _ => none)
def h34 : Hint := ⟨h34a, (fun id => match id with | 11 => some 0 | _ => none), (fun _ => none), [], false, (fun _ => none), fun _ => 0, 0, false, (fun _ => none)⟩
@[go_sem] theorem h34x : h34.mix = (fun _ => none) := rfl
@[go_sem] theorem h34l : h34.live = h34a := rfl
@[go_sem] theorem h34o : h34.mode = fun _ => 0 := rfl
@[go_sem] theorem h34k : h34.keep = (fun id => match id with | 11 => some 0 | _ => none) := rfl
@[go_sem] theorem h34t : h34.tail = (fun _ => none) := rfl
@[go_sem] theorem h34v : h34.vars = [] := rfl
@[go_sem] theorem h34m : h34.mutc = false := rfl
@[go_sem] def h35a : Nat -> Option (List Nat) := (fun id => match id with | 0 => some [1] | 1 => some [2] | _ => none)
abbrev h35 : Hint := HQ h35a
@[go_sem] def h36a : Nat -> Option (List Nat) := (fun id => match id with | 0 => some [0] | 1 => some [0, 22] | 2 => some [2] | 3 => some [0] | 4 => some [2] | _ => none)
abbrev h36 : Hint := HQ h36a
@[go_sem] def h37a : Nat -> Option (List Nat) := (fun id => match id with | 0 => some [0] | 1 => some [0, 3] | 2 => some [3, 6, 7, 8] | 3 => some [3, 6, 7, 8, 9] | 4 => some [3, 5, 6, 7, 8] | 5 => some [3, 6, 7, 8] | 6 => some [3, 6, 7, 8] | 7 => some [2] | _ => none)
@[go_sem] def h37M : Nat -> Option Mix := (fun id => match id with | 5 => some ⟨[0, 1, 2, 3, 4, 5, 6, 7], [], .head 0 (.head 1 (.head 2 (.head 3 (.head 4 (.head 5 (.head 6 (.head 7 (.one 8 (.one 9 (.fin))))))))))⟩ | _ => none)
def h37 : Hint := ⟨h37a, (fun id => match id with | 6 => some 0 | _ => none), (fun id => match id with | 5 => some 7 | _ => none), [3], false, h37M, fun _ => 0, 0, false, (fun _ => none)⟩
@[go_sem] theorem h37e : h37.late = (fun _ => none) := rfl
@[go_sem] theorem h37x : h37.mix = h37M := rfl
@[go_sem] theorem h37l : h37.live = h37a := rfl
@[go_sem] theorem h37o : h37.mode = fun _ => 0 := rfl
@[go_sem] theorem h37k : h37.keep = (fun id => match id with | 6 => some 0 | _ => none) := rfl
@[go_sem] theorem h37t : h37.tail = (fun id => match id with | 5 => some 7 | _ => none) := rfl
@[go_sem] theorem h37v : h37.vars = [3] := rfl
@[go_sem] theorem h37m : h37.mutc = false := rfl
@[go_sem] def h38a : Nat -> Option (List Nat) := (fun id => match id with | 0 => some [0] | 1 => some [0, 11] | 2 => some [0] | 3 => some [0, 25] | 4 => some [0] | 5 => some [2] | _ => none)
abbrev h38 : Hint := HQ h38a
@[go_sem] def h39a : Nat -> Option (List Nat) := (fun id => match id with | 0 => some [0, 1] | 1 => some [4] | _ => none)
abbrev h39 : Hint := HQ h39a
@[go_sem] def h40a : Nat -> Option (List Nat) := (fun id => match id with | 0 => some [1] | 1 => some [2] | _ => none)
abbrev h40 : Hint := HQ h40a
@[go_sem] def h41a : Nat -> Option (List Nat) := (fun id => match id with | 0 => some [0] | 1 => some [3] | 2 => some [3, 4] | 3 => some [3, 6] | 4 => some [3, 8] | 5 => some [10] | 6 => some [2] | 7 => some [2] | 8 => some [2] | 9 => some [2] | _ => none)
abbrev h41 : Hint := HQ h41a
@[go_sem] def h42a : Nat -> Option (List Nat) := (fun id => match id with | 0 => some [0, 1] | 1 => some [0, 1, 7, 8] | 2 => some [0, 1, 7, 8, 9] | 3 => some [0, 1, 5, 7, 8] | 4 => some [0, 1, 5, 7, 8, 16] | 5 => some [4] | 6 => some [0, 1, 7, 8] | 7 => some [4] | _ => none)
abbrev h42 : Hint := HQ h42a
@[go_sem] def h43a : Nat -> Option (List Nat) := (fun id => match id with | 0 => some [0, 2] | 1 => some [0, 2, 8] | 2 => some [2, 3] | 3 => some [0, 2] | 4 => some [0, 2, 14] | 5 => some [2, 3] | 6 => some [2, 4, 5] | 7 => some [2, 4, 24] | 8 => some [2, 3] | 9 => some [2, 3] | _ => none)
abbrev h43 : Hint := HQ h43a
@[go_sem] def h44a : Nat -> Option (List Nat) := (fun id => match id with | 0 => some [1] | 1 => some [1, 7] | 2 => some [2, 3] | 3 => some [4] | 4 => some [4, 11] | 5 => some [2, 3] | 6 => some [2, 3] | _ => none)
abbrev h44 : Hint := HQ h44a
@[go_sem] def h45a : Nat -> Option (List Nat) := (fun id => match id with | 0 => some [0] | 1 => some [3] | 2 => some [3, 4] | 3 => some [3, 4] | 4 => some [2] | 5 => some [3, 7] | 6 => some [2] | 7 => some [9] | 8 => some [2] | 9 => some [2] | _ => none)
abbrev h45 : Hint := HQ h45a
@[go_sem] def h46a : Nat -> Option (List Nat) := (fun id => match id with | 0 => some [0] | 1 => some [0, 3] | 2 => some [0, 3, 4] | 3 => some [0, 3, 4] | 4 => some [0, 3, 4, 16] | 5 => some [0, 30, 31, 33] | 6 => some [0] | 7 => some [0] | 8 => some [2] | _ => none)
@[go_sem] def h46M : Nat -> Option Mix := (fun id => match id with | 4 => some ⟨[3], [], .one 0 (.alt (.one 1 (.one 2 (.head 3 (.fin)))) (.one 2 (.one 1 (.head 3 (.fin)))))⟩ | 7 => some ⟨[0, 1, 2, 3, 4, 5, 6, 7, 8, 9, 10, 11, 12, 13, 14, 16, 17], [], .head 3 (.head 4 (.head 5 (.head 6 (.head 7 (.head 8 (.head 9 (.head 10 (.head 11 (.head 12 (.head 13 (.head 14 (.alt (.one 0 (.alt (.one 1 (.alt (.one 2 (.one 15 (.head 16 (.head 17 (.one 18 (.fin)))))) (.one 15 (.head 2 (.head 16 (.head 17 (.one 18 (.fin)))))))) (.one 15 (.head 1 (.head 2 (.head 16 (.head 17 (.one 18 (.fin))))))))) (.alt (.one 1 (.alt (.one 0 (.alt (.one 2 (.one 15 (.head 16 (.head 17 (.one 18 (.fin)))))) (.one 15 (.head 2 (.head 16 (.head 17 (.one 18 (.fin)))))))) (.alt (.one 2 (.alt (.one 0 (.one 15 (.head 16 (.head 17 (.one 18 (.fin)))))) (.one 15 (.head 0 (.head 16 (.head 17 (.one 18 (.fin)))))))) (.one 15 (.head 0 (.head 2 (.head 16 (.head 17 (.one 18 (.fin)))))))))) (.one 15 (.head 0 (.head 1 (.head 2 (.head 16 (.head 17 (.one 18 (.fin)))))))))))))))))))))⟩ | _ => none)
def h46 : Hint := ⟨h46a, (fun id => match id with | 4 => some 1001 | _ => none), (fun id => match id with | 4 => some 0 | 5 => some 16 | 7 => some 14 | _ => none), [], false, h46M, fun _ => 0, 0, false, (fun id => match id with | 5 => some 0 | _ => none)⟩
@[go_sem] theorem h46e : h46.late = (fun id => match id with | 5 => some 0 | _ => none) := rfl
@[go_sem] theorem h46x : h46.mix = h46M := rfl
@[go_sem] theorem h46l : h46.live = h46a := rfl
@[go_sem] theorem h46o : h46.mode = fun _ => 0 := rfl
@[go_sem] theorem h46k : h46.keep = (fun id => match id with | 4 => some 1001 | _ => none) := rfl
@[go_sem] theorem h46t : h46.tail = (fun id => match id with | 4 => some 0 | 5 => some 16 | 7 => some 14 | _ => none) := rfl
@[go_sem] theorem h46v : h46.vars = [] := rfl
@[go_sem] theorem h46m : h46.mutc = false := rfl
@[go_sem] def h47a : Nat -> Option (List Nat) := (fun id => match id with | 0 => some [0] | 1 => some [0, 3] | 2 => some [3, 4] | 3 => some [3, 4] | 4 => some [3, 4, 12] | 5 => some [2] | 6 => some [3, 4] | _ => none)
def h47 : Hint := ⟨h47a, (fun _ => none), (fun _ => none), [3], false, (fun _ => none), fun _ => 0, 0, false, (fun _ => none)⟩
@[go_sem] theorem h47x : h47.mix = (fun _ => none) := rfl
@[go_sem] theorem h47l : h47.live = h47a := rfl
@[go_sem] theorem h47o : h47.mode = fun _ => 0 := rfl
@[go_sem] theorem h47k : h47.keep = (fun _ => none) := rfl
@[go_sem] theorem h47t : h47.tail = (fun _ => none) := rfl
@[go_sem] theorem h47v : h47.vars = [3] := rfl
@[go_sem] theorem h47m : h47.mutc = false := rfl
@[go_sem] def h48a : Nat -> Option (List Nat) := (fun id => match id with | 0 => some [0] | 1 => some [0, 28] | 2 => some [0, 28] | 3 => some [0, 3] | 4 => some [0, 3, 4] | 5 => some [3, 4, 32, 33, 34] | 6 => some [3, 4, 32, 33, 34, 35] | 7 => some [3, 4, 6, 32, 33, 34] | 8 => some [3, 4, 6, 7, 32, 33, 34] | 9 => some [3, 4, 6, 7, 32, 33, 34, 39] | 10 => some [3, 4, 6, 7, 32, 33, 34, 39, 40] | 11 => some [3, 4, 6, 7, 32, 33, 34, 39, 40] | 12 => some [3, 4, 6, 7, 32, 33, 34, 39, 40] | 13 => some [3, 4, 6, 7, 32, 33, 34, 43] | 14 => some [3, 4, 6, 7, 32, 33, 34, 39, 40] | 15 => some [3, 6, 7, 32, 33, 34, 50] | 16 => some [3, 6, 7, 32, 33, 34, 50] | 17 => some [3, 4, 32, 33, 34] | 18 => some [3, 4, 32, 33, 34] | 19 => some [2] | _ => none)
def h48 : Hint := ⟨h48a, (fun _ => none), (fun _ => none), [3], false, (fun _ => none), fun _ => 0, 0, false, (fun _ => none)⟩
@[go_sem] theorem h48x : h48.mix = (fun _ => none) := rfl
@[go_sem] theorem h48l : h48.live = h48a := rfl
@[go_sem] theorem h48o : h48.mode = fun _ => 0 := rfl
@[go_sem] theorem h48k : h48.keep = (fun _ => none) := rfl
@[go_sem] theorem h48t : h48.tail = (fun _ => none) := rfl
@[go_sem] theorem h48v : h48.vars = [3] := rfl
@[go_sem] theorem h48m : h48.mutc = false := rfl
@[go_sem] def h52a : Nat -> Option (List Nat) := (fun id => match id with | 0 => some [0, 1] | 1 => some [4] | _ => none)
abbrev h52 : Hint := HQ h52a
@[go_sem] def h53a : Nat -> Option (List Nat) := (fun id => match id with | 0 => some [1] | 1 => some [2] | _ => none)
abbrev h53 : Hint := HQ h53a
@[go_sem] def h54a : Nat -> Option (List Nat) := (fun id => match id with | 0 => some [0, 1] | 1 => some [0, 1, 7, 8] | 2 => some [0, 1, 7, 8, 9] | 3 => some [0, 1, 5, 7, 8] | 4 => some [0, 1, 5, 7, 8, 16] | 5 => some [4] | 6 => some [0, 1, 7, 8] | 7 => some [4] | _ => none)
abbrev h54 : Hint := HQ h54a
@[go_sem] def h55a : Nat -> Option (List Nat) := (fun id => match id with | 0 => some [1, 2] | 1 => some [1, 2, 4] | 2 => some [1, 2, 4, 14] | 3 => some [2, 3] | 4 => some [1, 2, 4, 14, 16] | 5 => some [2, 3] | 6 => some [1, 2, 4, 14, 21] | 7 => some [2, 3] | 8 => some [1, 2, 4, 33] | 9 => some [1, 2, 4] | 10 => some [1, 2, 37] | 11 => some [2, 3] | 12 => some [1, 2, 37, 39] | 13 => some [2, 3] | 14 => some [1, 2, 37, 46] | 15 => some [1, 2, 5] | 16 => some [1, 2, 37, 48] | 17 => some [1, 2, 5] | 18 => some [1, 2, 50] | 19 => some [1, 2, 5] | 20 => some [1, 2, 5, 6] | 21 => some [2, 5, 6, 56, 57, 58] | 22 => some [2, 5, 6, 56, 57, 58, 59] | 23 => some [2, 5, 6, 8, 56, 57, 58] | 24 => some [2, 5, 6, 9, 10, 56, 57, 58] | 25 => some [2, 5, 6, 9, 56, 57, 58, 68] | 26 => some [2, 3] | 27 => some [2, 5, 6, 56, 57, 58] | 28 => some [2, 5, 6, 56, 57, 58] | 29 => some [2, 3] | _ => none)
@[go_sem] def h55M : Nat -> Option Mix := (fun id => match id with | 7 => some ⟨[0, 1, 2, 3, 4, 5, 6, 7, 8, 9], [], .head 0 (.head 1 (.head 2 (.head 3 (.head 4 (.head 5 (.head 6 (.head 7 (.head 8 (.alt (.one 9 (.one 10 (.one 11 (.fin)))) (.one 10 (.head 9 (.one 11 (.fin)))))))))))))⟩ | 29 => some ⟨[0, 1, 2, 3, 4, 5, 6, 7, 8], [], .head 0 (.head 1 (.head 2 (.head 3 (.alt (.one 4 (.alt (.one 5 (.alt (.one 6 (.alt (.one 7 (.alt (.one 8 (.one 9 (.one 10 (.fin)))) (.one 9 (.head 8 (.one 10 (.fin)))))) (.one 9 (.head 7 (.head 8 (.one 10 (.fin))))))) (.one 9 (.head 6 (.head 7 (.head 8 (.one 10 (.fin)))))))) (.one 9 (.head 5 (.head 6 (.head 7 (.head 8 (.one 10 (.fin))))))))) (.one 9 (.head 4 (.head 5 (.head 6 (.head 7 (.head 8 (.one 10 (.fin))))))))))))⟩ | _ => none)
def h55 : Hint := ⟨h55a, (fun _ => none), (fun id => match id with | 7 => some 10 | 29 => some 9 | _ => none), [], false, h55M, fun _ => 0, 0, false, (fun _ => none)⟩
@[go_sem] theorem h55e : h55.late = (fun _ => none) := rfl
@[go_sem] theorem h55x : h55.mix = h55M := rfl
@[go_sem] theorem h55l : h55.live = h55a := rfl
@[go_sem] theorem h55o : h55.mode = fun _ => 0 := rfl
@[go_sem] theorem h55k : h55.keep = (fun _ => none) := rfl
@[go_sem] theorem h55t : h55.tail = (fun id => match id with | 7 => some 10 | 29 => some 9 | _ => none) := rfl
@[go_sem] theorem h55v : h55.vars = [] := rfl
@[go_sem] theorem h55m : h55.mutc = false := rfl
@[go_sem] def h56a : Nat -> Option (List Nat) := (fun id => match id with | 0 => some [1] | 1 => some [2] | _ => none)
abbrev h56 : Hint := HQ h56a
@[go_sem] def h57a : Nat -> Option (List Nat) := (fun id => match id with | 0 => some [1] | 1 => some [1, 8] | 2 => some [11] | 3 => some [2] | 4 => some [2] | 5 => some [1, 3] | 6 => some [1, 3, 13, 14, 15] | 7 => some [1, 3, 13, 14, 15, 16] | 8 => some [1, 3, 5, 13, 14, 15] | 9 => some [1, 3, 13, 14, 15, 20] | 10 => some [1, 3, 13, 14, 15, 20, 21] | 11 => some [2] | 12 => some [1, 3, 13, 14, 15, 23] | 13 => some [1, 3, 13, 14, 15, 23] | 14 => some [1, 3, 13, 14, 15] | 15 => some [1, 3, 28] | 16 => some [2] | 17 => some [1, 3, 31] | 18 => some [1, 3, 31] | 19 => some [2] | 20 => some [2] | _ => none)
abbrev h57 : Hint := HQ h57a
@[go_sem] def h58a : Nat -> Option (List Nat) := (fun id => match id with | 0 => some [0, 9] | 1 => some [0] | 2 => some [0, 29] | 3 => some [0] | 4 => some [0] | _ => none)
abbrev h58 : Hint := HQ h58a
@[go_sem] def h59a : Nat -> Option (List Nat) := (fun id => match id with | 0 => some [0, 1] | 1 => some [0, 1, 17] | 2 => some [4] | 3 => some [5] | 4 => some [5, 31] | 5 => some [4] | 6 => some [4] | _ => none)
def h59 : Hint := ⟨h59a, (fun _ => none), (fun id => match id with | 1 => some 12 | 3 => some 12 | _ => none), [], false, (fun _ => none), fun _ => 0, 0, false, (fun _ => none)⟩
@[go_sem] theorem h59e : h59.late = (fun _ => none) := rfl
@[go_sem] theorem h59x : h59.mix = (fun _ => none) := rfl
@[go_sem] theorem h59l : h59.live = h59a := rfl
@[go_sem] theorem h59o : h59.mode = fun _ => 0 := rfl
@[go_sem] theorem h59k : h59.keep = (fun _ => none) := rfl
@[go_sem] theorem h59t : h59.tail = (fun id => match id with | 1 => some 12 | 3 => some 12 | _ => none) := rfl
@[go_sem] theorem h59v : h59.vars = [] := rfl
@[go_sem] theorem h59m : h59.mutc = false := rfl
@[go_sem] def h60a : Nat -> Option (List Nat) := (fun id => match id with | 0 => some [0, 2] | 1 => some [0, 2, 3, 4, 5] | 2 => some [0, 2, 3, 4, 5, 14] | 3 => some [0, 2, 3, 4, 5, 14, 15] | 4 => some [0, 2, 3, 4, 5, 6, 14] | 5 => some [0, 2, 3, 4, 5, 6, 14, 21] | 6 => some [2, 6] | 7 => some [2] | 8 => some [0, 2, 3, 4, 5, 14] | 9 => some [0, 2, 3, 4, 5, 34] | 10 => some [2] | 11 => some [2] | 12 => some [0, 2, 3, 4, 5, 40] | 13 => some [0, 2, 3] | 14 => some [2] | 15 => some [0, 2, 3, 4, 5, 57] | 16 => some [0, 2, 4, 5] | 17 => some [0, 2, 7] | 18 => some [2] | 19 => some [0, 2, 3, 4, 5, 89] | 20 => some [2] | 21 => some [0, 2, 3, 4, 5, 96] | 22 => some [2] | 23 => some [2] | 24 => some [0, 2, 3, 4, 5, 115] | 25 => some [2] | 26 => some [2] | 27 => some [0, 2, 3, 4, 5, 139] | 28 => some [0, 2] | 29 => some [2] | 30 => some [0, 2, 3, 159] | 31 => some [2] | 32 => some [2, 3] | 33 => some [2] | _ => none)
abbrev h60 : Hint := HQ h60a
@[go_sem] def h61a : Nat -> Option (List Nat) := (fun id => match id with | 0 => some [0] | 1 => some [0, 3] | 2 => some [0, 3, 4] | 3 => some [0, 3, 4, 11] | 4 => some [0, 3, 4, 5, 6] | 5 => some [0, 3, 4, 6] | 6 => some [0, 3, 4] | 7 => some [2] | _ => none)
def h61 : Hint := ⟨h61a, (fun _ => none), (fun _ => none), [3], false, (fun _ => none), fun _ => 0, 0, false, (fun _ => none)⟩
@[go_sem] theorem h61x : h61.mix = (fun _ => none) := rfl
@[go_sem] theorem h61l : h61.live = h61a := rfl
@[go_sem] theorem h61o : h61.mode = fun _ => 0 := rfl
@[go_sem] theorem h61k : h61.keep = (fun _ => none) := rfl
@[go_sem] theorem h61t : h61.tail = (fun _ => none) := rfl
@[go_sem] theorem h61v : h61.vars = [3] := rfl
@[go_sem] theorem h61m : h61.mutc = false := rfl
@[go_sem] def h63a : Nat -> Option (List Nat) := (fun id => match id with | 0 => some [0] | 1 => some [0] | _ => none)
abbrev h63 : Hint := HQ h63a
@[go_sem] def h68a : Nat -> Option (List Nat) := (fun id => match id with | 0 => some [1, 2, 4] | 1 => some [1, 2, 4, 7] | 2 => some [1, 2, 4, 7] | 3 => some [4] | _ => none)
abbrev h68 : Hint := HQ h68a
@[go_sem] def h69a : Nat -> Option (List Nat) := (fun id => match id with | 0 => some [0] | 1 => some [0, 5, 6, 7] | 2 => some [0, 5, 6, 7, 8] | 3 => some [0, 3, 4, 5, 6, 7] | 4 => some [0, 3, 5, 6, 7, 15] | 5 => some [2] | 6 => some [0, 5, 6, 7] | 7 => some [2] | _ => none)
abbrev h69 : Hint := HQ h69a
@[go_sem] def h70a : Nat -> Option (List Nat) := (fun id => match id with | 0 => some [0] | 1 => some [3] | 2 => some [3, 8, 9, 10] | 3 => some [3, 8, 9, 10, 11] | 4 => some [3, 4, 5, 8, 9, 10] | 5 => some [3, 4, 5, 8, 9, 10, 20] | 6 => some [3, 4, 5, 8, 9, 10, 20] | 7 => some [3, 8, 9, 10] | 8 => some [2] | _ => none)
abbrev h70 : Hint := HQ h70a
@[go_sem] def h71a : Nat -> Option (List Nat) := (fun id => match id with | 0 => some [0, 2] | 1 => some [2, 4] | 2 => some [2, 4, 5, 6] | 3 => some [2, 3] | _ => none)
def h71 : Hint := ⟨h71a, (fun _ => none), (fun id => match id with | 3 => some 14 | _ => none), [], false, (fun _ => none), fun _ => 0, 0, false, (fun _ => none)⟩
@[go_sem] theorem h71e : h71.late = (fun _ => none) := rfl
@[go_sem] theorem h71x : h71.mix = (fun _ => none) := rfl
@[go_sem] theorem h71l : h71.live = h71a := rfl
@[go_sem] theorem h71o : h71.mode = fun _ => 0 := rfl
@[go_sem] theorem h71k : h71.keep = (fun _ => none) := rfl
@[go_sem] theorem h71t : h71.tail = (fun id => match id with | 3 => some 14 | _ => none) := rfl
@[go_sem] theorem h71v : h71.vars = [] := rfl
@[go_sem] theorem h71m : h71.mutc = false := rfl
@[go_sem] def h72a : Nat -> Option (List Nat) := (fun id => match id with | 0 => some [0] | 1 => some [0, 3] | 2 => some [0, 3, 4] | 3 => some [0, 3, 4, 7, 8, 9] | 4 => some [0, 3, 4, 7, 8, 9, 10] | 5 => some [0, 3, 4, 5, 6, 7, 8, 9] | 6 => some [0, 3, 4, 5, 7, 8, 9, 17] | 7 => some [0, 3, 5, 7, 8, 9] | 8 => some [0, 3, 4, 5, 7, 8, 9, 17] | 9 => some [0, 3, 4, 7, 8, 9] | 10 => some [2] | _ => none)
def h72 : Hint := ⟨h72a, (fun id => match id with | 9 => some 0 | _ => none), (fun _ => none), [3], false, (fun _ => none), fun _ => 0, 0, false, (fun _ => none)⟩
@[go_sem] theorem h72x : h72.mix = (fun _ => none) := rfl
@[go_sem] theorem h72l : h72.live = h72a := rfl
@[go_sem] theorem h72o : h72.mode = fun _ => 0 := rfl
@[go_sem] theorem h72k : h72.keep = (fun id => match id with | 9 => some 0 | _ => none) := rfl
@[go_sem] theorem h72t : h72.tail = (fun _ => none) := rfl
@[go_sem] theorem h72v : h72.vars = [3] := rfl
@[go_sem] theorem h72m : h72.mutc = false := rfl
@[go_sem] def h73a : Nat -> Option (List Nat) := (fun id => match id with | 0 => some [1, 2] | 1 => some [1, 2, 9] | 2 => some [4] | 3 => some [1, 2, 5] | 4 => some [1, 2, 5, 15] | 5 => some [4] | 6 => some [1, 2, 5, 41] | 7 => some [4] | 8 => some [1, 2, 5, 6] | 9 => some [1, 2, 5, 6, 43] | 10 => some [1, 2, 5, 6, 43, 44] | 11 => some [1, 2, 5, 6, 43, 44] | 12 => some [1, 2, 5, 6, 43, 44] | 13 => some [1, 2, 5, 6, 43, 44] | 14 => some [1, 2, 5, 6, 43, 44] | 15 => some [1, 2, 5, 6, 43, 51] | 16 => some [1, 2, 5, 6, 43, 51] | 17 => some [1, 2, 5, 6, 43, 44] | 18 => some [1, 2, 5, 6, 56] | 19 => some [1, 2, 5, 6, 43, 44] | 20 => some [1, 2, 5, 6, 7] | 21 => some [1, 2, 5, 6, 7, 65] | 22 => some [1, 2, 5, 6, 7] | 23 => some [1, 2, 5, 6, 7] | 24 => some [4] | _ => none)
abbrev h73 : Hint := HQ h73a
@[go_sem] def h74a : Nat -> Option (List Nat) := (fun id => match id with | 0 => some [0] | 1 => some [2] | _ => none)
abbrev h74 : Hint := HQ h74a
@[go_sem] def h75a : Nat -> Option (List Nat) := (fun id => match id with | 0 => some [0] | 1 => some [2] | _ => none)
abbrev h75 : Hint := HQ h75a
@[go_sem] def h76a : Nat -> Option (List Nat) := (fun id => match id with | 0 => some [0, 4] | 1 => some [0] | _ => none)
abbrev h76 : Hint := HQ h76a
@[go_sem] def h77a : Nat -> Option (List Nat) := (fun id => match id with | 0 => some [0, 1, 4] | 1 => some [0, 1, 4, 5] | 2 => some [0, 1, 4, 5, 6] | 3 => some [0, 1, 4, 5, 6] | 4 => some [0, 1, 4, 5, 6, 22] | 5 => some [4] | 6 => some [0, 1, 4, 5] | 7 => some [0, 1, 4, 5, 6, 30] | 8 => some [4] | 9 => some [0, 1, 4, 5, 6, 34] | 10 => some [0, 1, 4, 5] | 11 => some [0, 1, 4, 5, 6, 49] | 12 => some [0, 1, 4, 5] | 13 => some [0, 1, 4, 5, 6, 64] | 14 => some [0, 1, 4, 5] | 15 => some [0, 1, 4, 5] | _ => none)
def h77 : Hint := ⟨h77a, (fun _ => none), (fun _ => none), [5], false, (fun _ => none), fun _ => 0, 0, false, (fun _ => none)⟩
@[go_sem] theorem h77x : h77.mix = (fun _ => none) := rfl
@[go_sem] theorem h77l : h77.live = h77a := rfl
@[go_sem] theorem h77o : h77.mode = fun _ => 0 := rfl
@[go_sem] theorem h77k : h77.keep = (fun _ => none) := rfl
@[go_sem] theorem h77t : h77.tail = (fun _ => none) := rfl
@[go_sem] theorem h77v : h77.vars = [5] := rfl
@[go_sem] theorem h77m : h77.mutc = false := rfl
@[go_sem] def h78a : Nat -> Option (List Nat) := (fun id => match id with | 0 => some [0] | 1 => some [2] | _ => none)
abbrev h78 : Hint := HQ h78a
@[go_sem] def h79a : Nat -> Option (List Nat) := (fun id => match id with | 0 => some [0, 1] | 1 => some [4] | _ => none)
abbrev h79 : Hint := HQ h79a
@[go_sem] def h80a : Nat -> Option (List Nat) := (fun id => match id with | 0 => some [0, 1, 2] | 1 => some [0, 1, 2, 8] | 2 => some [6] | 3 => some [6] | _ => none)
abbrev h80 : Hint := HQ h80a
@[go_sem] def h81a : Nat -> Option (List Nat) := (fun id => match id with | 0 => some [0] | 1 => some [0, 3] | 2 => some [0, 3, 4] | 3 => some [2] | 4 => some [0, 3, 4, 9] | 5 => some [0, 3] | 6 => some [0, 3] | 7 => some [0, 3, 27] | 8 => some [0, 3] | 9 => some [0, 3] | _ => none)
def h81 : Hint := ⟨h81a, (fun _ => none), (fun _ => none), [3], false, (fun _ => none), fun _ => 0, 0, false, (fun _ => none)⟩
@[go_sem] theorem h81x : h81.mix = (fun _ => none) := rfl
@[go_sem] theorem h81l : h81.live = h81a := rfl
@[go_sem] theorem h81o : h81.mode = fun _ => 0 := rfl
@[go_sem] theorem h81k : h81.keep = (fun _ => none) := rfl
@[go_sem] theorem h81t : h81.tail = (fun _ => none) := rfl
@[go_sem] theorem h81v : h81.vars = [3] := rfl
@[go_sem] theorem h81m : h81.mutc = false := rfl
@[go_sem] def h82a : Nat -> Option (List Nat) := (fun id => match id with | 0 => some [0, 1, 2] | 1 => some [0, 1, 2, 12] | 2 => some [0, 1, 2, 12] | 3 => some [6] | _ => none)
abbrev h82 : Hint := HQ h82a
@[go_sem] def h83a : Nat -> Option (List Nat) := (fun id => match id with | 0 => some [0, 2] | 1 => some [0, 2, 3] | 2 => some [0, 2, 3, 4] | 3 => some [0, 2, 3, 23] | 4 => some [0, 2, 3, 23] | 5 => some [0, 2, 3] | 6 => some [0, 2, 3, 40] | 7 => some [0, 2, 3] | 8 => some [0, 2, 3, 40] | 9 => some [0, 2, 3, 5] | 10 => some [0, 2, 3, 57] | 11 => some [0, 2, 3, 6] | 12 => some [0, 2, 3, 6, 7] | 13 => some [0, 2, 3, 6, 65] | 14 => some [0, 2, 3, 6, 65] | 15 => some [0, 2, 3, 6, 69] | 16 => some [0, 2, 3] | 17 => some [0, 2, 3, 57] | 18 => some [0, 2, 8, 9] | 19 => some [0, 2, 11] | 20 => some [0, 2, 11, 105] | 21 => some [0, 2, 11, 105] | 22 => some [0, 2, 11, 112] | 23 => some [0, 2, 11] | 24 => some [0, 2, 11, 105] | 25 => some [2] | _ => none)
@[go_sem] def h83M : Nat -> Option Mix := (fun id => match id with | 18 => some ⟨[0, 1, 2, 3, 4, 5, 6, 7, 8, 9, 10, 11, 12, 13, 14, 15], [], .head 0 (.head 1 (.head 2 (.head 3 (.head 4 (.head 5 (.head 6 (.head 7 (.head 8 (.head 9 (.alt (.one 10 (.alt (.one 11 (.head 12 (.head 13 (.alt (.one 14 (.alt (.one 15 (.one 16 (.one 17 (.one 18 (.one 19 (.fin)))))) (.one 16 (.alt (.one 15 (.one 17 (.one 18 (.one 19 (.fin))))) (.one 17 (.alt (.one 15 (.one 18 (.one 19 (.fin)))) (.one 18 (.head 15 (.one 19 (.fin)))))))))) (.alt (.one 15 (.alt (.one 14 (.one 16 (.one 17 (.one 18 (.one 19 (.fin)))))) (.one 16 (.alt (.one 14 (.one 17 (.one 18 (.one 19 (.fin))))) (.one 17 (.head 14 (.one 18 (.one 19 (.fin))))))))) (.one 16 (.alt (.one 14 (.alt (.one 15 (.one 17 (.one 18 (.one 19 (.fin))))) (.one 17 (.alt (.one 15 (.one 18 (.one 19 (.fin)))) (.one 18 (.head 15 (.one 19 (.fin)))))))) (.alt (.one 15 (.alt (.one 14 (.one 17 (.one 18 (.one 19 (.fin))))) (.one 17 (.head 14 (.one 18 (.one 19 (.fin))))))) (.one 17 (.head 14 (.alt (.one 15 (.one 18 (.one 19 (.fin)))) (.one 18 (.head 15 (.one 19 (.fin))))))))))))))) (.one 16 (.head 11 (.head 12 (.head 13 (.alt (.one 14 (.alt (.one 15 (.one 17 (.one 18 (.one 19 (.fin))))) (.one 17 (.alt (.one 15 (.one 18 (.one 19 (.fin)))) (.one 18 (.head 15 (.one 19 (.fin)))))))) (.alt (.one 15 (.alt (.one 14 (.one 17 (.one 18 (.one 19 (.fin))))) (.one 17 (.head 14 (.one 18 (.one 19 (.fin))))))) (.one 17 (.head 14 (.alt (.one 15 (.one 18 (.one 19 (.fin)))) (.one 18 (.head 15 (.one 19 (.fin))))))))))))))) (.one 16 (.head 10 (.head 11 (.head 12 (.head 13 (.alt (.one 14 (.alt (.one 15 (.one 17 (.one 18 (.one 19 (.fin))))) (.one 17 (.alt (.one 15 (.one 18 (.one 19 (.fin)))) (.one 18 (.head 15 (.one 19 (.fin)))))))) (.alt (.one 15 (.alt (.one 14 (.one 17 (.one 18 (.one 19 (.fin))))) (.one 17 (.head 14 (.one 18 (.one 19 (.fin))))))) (.one 17 (.head 14 (.alt (.one 15 (.one 18 (.one 19 (.fin)))) (.one 18 (.head 15 (.one 19 (.fin))))))))))))))))))))))))⟩ | _ => none)
def h83 : Hint := ⟨h83a, (fun _ => none), (fun id => match id with | 18 => some 16 | _ => none), [], false, h83M, fun _ => 0, 0, false, (fun _ => none)⟩
@[go_sem] theorem h83e : h83.late = (fun _ => none) := rfl
@[go_sem] theorem h83x : h83.mix = h83M := rfl
@[go_sem] theorem h83l : h83.live = h83a := rfl
@[go_sem] theorem h83o : h83.mode = fun _ => 0 := rfl
@[go_sem] theorem h83k : h83.keep = (fun _ => none) := rfl
@[go_sem] theorem h83t : h83.tail = (fun id => match id with | 18 => some 16 | _ => none) := rfl
@[go_sem] theorem h83v : h83.vars = [] := rfl
@[go_sem] theorem h83m : h83.mutc = false := rfl
@[go_sem] def h84a : Nat -> Option (List Nat) := (fun id => match id with | 0 => some [0, 2] | 1 => some [0, 2, 3] | 2 => some [0, 2, 3, 9] | 3 => some [2] | 4 => some [0, 2, 3] | 5 => some [0, 2, 3, 21] | 6 => some [2] | 7 => some [0, 2, 3, 31] | 8 => some [0, 2, 3, 21] | 9 => some [0, 2, 3, 4] | 10 => some [0, 2, 3, 4, 42] | 11 => some [0, 2, 3, 4, 42] | 12 => some [0, 2, 3, 50] | 13 => some [2] | 14 => some [2] | _ => none)
abbrev h84 : Hint := HQ h84a
@[go_sem] def h85a : Nat -> Option (List Nat) := (fun id => match id with | 0 => some [0] | 1 => some [2] | _ => none)
abbrev h85 : Hint := HQ h85a
@[go_sem] def h86a : Nat -> Option (List Nat) := (fun id => match id with | 0 => some [0, 1] | 1 => some [0, 1, 7] | 2 => some [0, 1, 7, 18] | 3 => some [4, 5, 6] | 4 => some [0, 1, 7, 8, 9, 10] | 5 => some [0, 1, 7, 8, 9, 10, 28] | 6 => some [4, 5, 6] | 7 => some [0, 1, 8, 9, 10, 11] | 8 => some [0, 1, 8, 9, 10, 11, 12] | 9 => some [0, 1, 8, 9, 10, 11, 12, 37] | 10 => some [0, 1, 8, 9, 10, 11, 12] | 11 => some [0, 1, 8, 11, 12, 65] | 12 => some [4, 5, 6] | 13 => some [0, 1, 8, 11, 12] | 14 => some [0, 1, 8, 9, 10, 11, 12] | 15 => some [4, 5, 6] | _ => none)
abbrev h86 : Hint := HQ h86a
@[go_sem] def h91a : Nat -> Option (List Nat) := (fun id => match id with | 0 => some [1] | 1 => some [2] | _ => none)
abbrev h91 : Hint := HQ h91a
@[go_sem] def h92a : Nat -> Option (List Nat) := (fun id => match id with | 0 => some [] | 1 => some [0] | _ => none)
abbrev h92 : Hint := HQ h92a
@[go_sem] def h93a : Nat -> Option (List Nat) := (fun id => match id with | 0 => some [0, 2] | 1 => some [0, 2, 4, 5] | 2 => some [0, 2, 4, 14] | 3 => some [2, 3] | 4 => some [0, 2, 4, 6] | 5 => some [0, 2, 4, 6, 7] | 6 => some [0, 2, 4, 6, 7, 22] | 7 => some [0, 2, 4, 5, 6, 7] | 8 => some [0, 2, 4, 6, 7, 29] | 9 => some [2, 3] | 10 => some [0, 2, 4, 6, 32] | 11 => some [0, 2, 4, 6, 32] | 12 => some [0, 2, 4, 6] | 13 => some [2, 3] | _ => none)
abbrev h93 : Hint := HQ h93a
@[go_sem] def h94a : Nat -> Option (List Nat) := (fun id => match id with | 0 => some [0] | 1 => some [0, 3, 4] | 2 => some [0, 3, 4, 15] | 3 => some [0, 5] | 4 => some [0, 5, 19] | 5 => some [2] | 6 => some [5] | 7 => some [2] | 8 => some [0, 3, 4, 6] | 9 => some [0, 3, 4, 6, 7] | 10 => some [0, 3, 6, 7, 32] | 11 => some [0, 3, 4, 6, 7] | 12 => some [0, 6, 7] | 13 => some [0, 6, 7] | 14 => some [0, 3, 4, 6, 7] | 15 => some [0, 6, 54] | 16 => some [0, 6, 54] | 17 => some [6, 68] | 18 => some [2] | 19 => some [2] | _ => none)
abbrev h94 : Hint := HQ h94a
@[go_sem] def h95a : Nat -> Option (List Nat) := (fun id => match id with | 0 => some [0] | 1 => some [2] | _ => none)
abbrev h95 : Hint := HQ h95a
@[go_sem] def h96a : Nat -> Option (List Nat) := (fun id => match id with | 0 => some [0] | 1 => some [2] | _ => none)
abbrev h96 : Hint := HQ h96a
@[go_sem] def h97a : Nat -> Option (List Nat) := (fun id => match id with | 0 => some [0, 4] | 1 => some [0] | _ => none)
abbrev h97 : Hint := HQ h97a
@[go_sem] def h98a : Nat -> Option (List Nat) := (fun id => match id with | 0 => some [0, 2] | 1 => some [0, 2, 5, 6] | 2 => some [0, 2, 5, 6, 28] | 3 => some [0, 2, 5, 6] | 4 => some [0, 2, 5, 6, 28] | 5 => some [0, 2, 5, 6, 7] | 6 => some [0, 2, 6, 7, 8, 9, 10] | 7 => some [0, 2, 5, 6, 8, 9, 10] | 8 => some [0, 2, 5, 6, 8, 9, 10, 52] | 9 => some [0, 2, 5, 6, 7, 8] | 10 => some [0, 2, 5, 6, 7, 8, 60] | 11 => some [2, 3, 4] | 12 => some [0, 2, 5, 6, 7, 8] | 13 => some [0, 2, 6, 7, 8, 9, 10] | 14 => some [0, 2, 5, 6, 8, 9, 10, 52] | 15 => some [0, 2, 5, 6, 8, 9, 10, 75] | 16 => some [2, 3, 4] | 17 => some [0, 2, 5, 6, 8, 9, 10, 11] | 18 => some [0, 2, 5, 6, 8, 9, 10, 11, 80] | 19 => some [0, 2, 5, 6, 8, 9, 11, 90] | 20 => some [2, 3, 4] | 21 => some [0, 2, 5, 6, 8, 9, 10, 11] | 22 => some [0, 2, 5, 6, 8, 9, 10, 11] | 23 => some [0, 2, 5, 6, 8, 9, 10, 11, 12] | 24 => some [0, 2, 5, 6, 8, 9, 10, 11, 12, 109] | 25 => some [0, 2, 5, 6, 8, 9, 10, 11, 12] | 26 => some [0, 2, 5, 6, 8, 9, 10, 11, 12, 109] | 27 => some [0, 2, 5, 6, 7, 8, 9, 10, 11, 12] | 28 => some [0, 2, 5, 6, 7, 8, 9, 10, 11, 12, 127] | 29 => some [2, 3, 4] | 30 => some [0, 2, 5, 6, 7, 8, 9, 10, 11, 12, 131] | 31 => some [0, 2, 5, 6, 7, 8, 9, 10, 11, 12, 127] | 32 => some [0, 2, 5, 6, 7, 8, 9, 10, 11, 12] | 33 => some [2, 6, 8, 9, 10, 11, 143] | 34 => some [0, 2, 5, 6, 8, 9, 10, 11, 80] | 35 => some [2, 3, 4] | _ => none)
abbrev h98 : Hint := HQ h98a
@[go_sem] def h99a : Nat -> Option (List Nat) := (fun id => match id with | 0 => some [0, 1] | 1 => some [4] | _ => none)
abbrev h99 : Hint := HQ h99a
@[go_sem] def h100a : Nat -> Option (List Nat) := (fun id => match id with | 0 => some [0, 2] | 1 => some [0, 2] | 2 => some [0, 2, 3] | 3 => some [0, 2, 3, 4] | 4 => some [0, 2, 3] | 5 => some [0, 2, 3] | 6 => some [0, 2, 3, 4, 20] | 7 => some [2, 3] | 8 => some [2] | 9 => some [0, 2, 3, 4, 37] | 10 => some [0, 2, 3] | 11 => some [0, 2, 3, 4] | 12 => some [0, 2, 3, 49] | 13 => some [2] | 14 => some [0, 2, 3, 4, 52] | 15 => some [2] | 16 => some [0, 2, 3, 4, 69] | 17 => some [0, 2, 3, 76] | 18 => some [2] | 19 => some [0, 2, 3] | 20 => some [0, 2, 3] | _ => none)
def h100 : Hint := ⟨h100a, (fun _ => none), (fun _ => none), [3], false, (fun _ => none), fun _ => 0, 0, false, (fun _ => none)⟩
@[go_sem] theorem h100x : h100.mix = (fun _ => none) := rfl
@[go_sem] theorem h100l : h100.live = h100a := rfl
@[go_sem] theorem h100o : h100.mode = fun _ => 0 := rfl
@[go_sem] theorem h100k : h100.keep = (fun _ => none) := rfl
@[go_sem] theorem h100t : h100.tail = (fun _ => none) := rfl
@[go_sem] theorem h100v : h100.vars = [3] := rfl
@[go_sem] theorem h100m : h100.mutc = false := rfl
@[go_sem] def h101a : Nat -> Option (List Nat) := (fun id => match id with | 0 => some [0] | 1 => some [0, 3] | 2 => some [3, 6, 7, 8] | 3 => some [3, 6, 7, 8, 9] | 4 => some [3, 5, 6, 7, 8] | 5 => some [3, 5, 6, 7, 8, 14] | 6 => some [3, 5, 6, 7, 8, 14] | 7 => some [3, 6, 7, 8] | 8 => some [3, 5, 6, 7, 8, 36] | 9 => some [3, 6, 7, 8] | 10 => some [3, 5, 6, 7, 8, 44] | 11 => some [3, 6, 7, 8] | 12 => some [3, 5, 6, 7, 8, 58] | 13 => some [3, 6, 7, 8] | 14 => some [3, 6, 7, 8] | 15 => some [2] | _ => none)
def h101 : Hint := ⟨h101a, (fun _ => none), (fun _ => none), [3], false, (fun _ => none), fun _ => 0, 0, false, (fun _ => none)⟩
@[go_sem] theorem h101x : h101.mix = (fun _ => none) := rfl
@[go_sem] theorem h101l : h101.live = h101a := rfl
@[go_sem] theorem h101o : h101.mode = fun _ => 0 := rfl
@[go_sem] theorem h101k : h101.keep = (fun _ => none) := rfl
@[go_sem] theorem h101t : h101.tail = (fun _ => none) := rfl
@[go_sem] theorem h101v : h101.vars = [3] := rfl
@[go_sem] theorem h101m : h101.mutc = false := rfl
@[go_sem] def h102a : Nat -> Option (List Nat) := (fun id => match id with | 0 => some [0] | 1 => some [0, 5] | 2 => some [2, 3, 4] | 3 => some [0, 12] | 4 => some [2, 3, 4] | 5 => some [0, 15] | 6 => some [2, 3, 4] | 7 => some [0, 18] | 8 => some [2, 3, 4] | 9 => some [0, 25] | 10 => some [2, 3, 4] | 11 => some [0, 28] | 12 => some [2, 3, 4] | 13 => some [35] | 14 => some [2, 3, 4] | 15 => some [2, 3, 4] | _ => none)
abbrev h102 : Hint := HQ h102a
@[go_sem] def h104a : Nat -> Option (List Nat) := (fun id => match id with | 0 => some [1] | 1 => some [2] | _ => none)
def h104 : Hint := ⟨h104a, (fun _ => none), (fun id => match id with | 1 => some 18 | _ => none), [], false, (fun _ => none), fun _ => 0, 0, false, (fun _ => none)⟩
@[go_sem] theorem h104e : h104.late = (fun _ => none) := rfl
@[go_sem] theorem h104x : h104.mix = (fun _ => none) := rfl
@[go_sem] theorem h104l : h104.live = h104a := rfl
@[go_sem] theorem h104o : h104.mode = fun _ => 0 := rfl
@[go_sem] theorem h104k : h104.keep = (fun _ => none) := rfl
@[go_sem] theorem h104t : h104.tail = (fun id => match id with | 1 => some 18 | _ => none) := rfl
@[go_sem] theorem h104v : h104.vars = [] := rfl
@[go_sem] theorem h104m : h104.mutc = false := rfl
@[go_sem] def h105a : Nat -> Option (List Nat) := (fun id => match id with | 0 => some [0, 2] | 1 => some [0, 2, 4, 5] | 2 => some [0, 2, 4, 14] | 3 => some [2, 3] | 4 => some [0, 2, 4, 6] | 5 => some [0, 2, 4, 6, 7] | 6 => some [0, 2, 4, 6, 7, 22] | 7 => some [0, 2, 4, 5, 6, 7] | 8 => some [0, 2, 4, 6, 7, 29] | 9 => some [2, 3] | 10 => some [0, 2, 4, 6, 32] | 11 => some [0, 2, 4, 6, 32] | 12 => some [0, 2, 4, 6] | 13 => some [2, 3] | _ => none)
abbrev h105 : Hint := HQ h105a
@[go_sem] def h106a : Nat -> Option (List Nat) := (fun id => match id with | 0 => some [1, 2, 3, 4] | 1 => some [1, 2, 3, 4, 9] | 2 => some [1, 2, 3, 4, 9, 10] | 3 => some [1, 2, 3, 4, 9, 10, 11] | 4 => some [1, 2, 3, 4, 9, 10, 11, 45] | 5 => some [1, 2, 3, 4, 9, 10, 11, 12] | 6 => some [1, 2, 3, 4, 9, 10, 11, 12] | 7 => some [1, 2, 3, 4, 9, 11, 12, 13] | 8 => some [4, 9, 12, 84] | 9 => some [8] | 10 => some [] | 11 => some [8] | _ => none)
def h106 : Hint := ⟨h106a, (fun _ => none), (fun id => match id with | 4 => some 25 | 5 => some 12 | _ => none), [], false, (fun _ => none), fun _ => 0, 0, false, (fun _ => none)⟩
@[go_sem] theorem h106e : h106.late = (fun _ => none) := rfl
@[go_sem] theorem h106x : h106.mix = (fun _ => none) := rfl
@[go_sem] theorem h106l : h106.live = h106a := rfl
@[go_sem] theorem h106o : h106.mode = fun _ => 0 := rfl
@[go_sem] theorem h106k : h106.keep = (fun _ => none) := rfl
@[go_sem] theorem h106t : h106.tail = (fun id => match id with | 4 => some 25 | 5 => some 12 | _ => none) := rfl
@[go_sem] theorem h106v : h106.vars = [] := rfl
@[go_sem] theorem h106m : h106.mutc = false := rfl
@[go_sem] def h107a : Nat -> Option (List Nat) := (fun id => match id with | 0 => some [1, 2] | 1 => some [1, 2, 6] | 2 => some [2] | 3 => some [2] | _ => none)
abbrev h107 : Hint := HQ h107a
@[go_sem] def h108a : Nat -> Option (List Nat) := (fun id => match id with | 0 => some [0] | 1 => some [0, 4] | 2 => some [2, 3] | 3 => some [0, 9] | 4 => some [2, 3] | 5 => some [0, 19] | 6 => some [2, 3] | 7 => some [2, 3] | _ => none)
abbrev h108 : Hint := HQ h108a
@[go_sem] def h109a : Nat -> Option (List Nat) := (fun id => match id with | 0 => some [0, 1] | 1 => some [0, 1, 14] | 2 => some [0, 1] | 3 => some [4] | _ => none)
abbrev h109 : Hint := HQ h109a
@[go_sem] def h110a : Nat -> Option (List Nat) := (fun id => match id with | 0 => some [0, 1, 2, 6] | 1 => some [0, 1, 2, 6, 7, 8] | 2 => some [0, 1, 2, 6, 7, 8, 25] | 3 => some [0, 1, 2, 6, 7, 8] | 4 => some [0, 1, 2, 6, 7, 8, 30] | 5 => some [6] | 6 => some [0, 1, 2, 6, 7, 8, 36] | 7 => some [0, 1, 2, 6, 7, 8] | 8 => some [0, 1, 2, 6, 7, 8, 30] | 9 => some [0, 1, 2, 6, 7, 8, 44] | 10 => some [6] | 11 => some [0, 1, 2, 6, 7, 8, 9] | 12 => some [0, 2, 6, 9, 50, 51, 52] | 13 => some [0, 2, 6, 9, 50, 51, 52, 53] | 14 => some [0, 2, 6, 9, 11, 50, 51, 52] | 15 => some [0, 2, 6, 9, 50, 51, 52] | 16 => some [0, 2, 6, 9, 50, 51, 52] | 17 => some [0, 2, 6, 9, 12] | 18 => some [0, 2, 6, 9, 12, 64] | 19 => some [0, 2, 6, 9, 12] | 20 => some [0, 2, 6, 9, 12, 68] | 21 => some [6] | 22 => some [0, 2, 6, 9, 12] | 23 => some [0, 6, 9, 12, 13, 14] | 24 => some [0, 6, 9, 12, 13, 14, 82] | 25 => some [0, 6, 9, 12, 13, 14] | 26 => some [0, 6, 9, 12, 13, 14, 93] | 27 => some [0, 6, 9, 12, 13, 14] | 28 => some [0, 6, 9, 12, 13, 14, 103] | 29 => some [6] | 30 => some [0, 6, 9, 12, 13, 14, 106] | 31 => some [0, 6, 9, 12, 13, 14, 103] | 32 => some [0, 6, 9, 12, 13, 14] | 33 => some [0, 6, 9, 12, 14, 112] | 34 => some [0, 6, 9, 12, 13, 14, 103] | 35 => some [0, 6, 9, 12, 14, 116] | 36 => some [6] | 37 => some [0, 6, 9, 12, 14] | 38 => some [6, 9, 12, 120] | 39 => some [6] | 40 => some [6] | _ => none)
abbrev h110 : Hint := HQ h110a
@[go_sem] def h111a : Nat -> Option (List Nat) := (fun id => match id with | 0 => some [0] | 1 => some [3] | 2 => some [3, 8, 9, 10] | 3 => some [3, 8, 9, 10, 11] | 4 => some [3, 4, 5, 8, 9, 10] | 5 => some [3, 4, 5, 8, 9, 10, 20] | 6 => some [3, 4, 5, 8, 9, 10, 20] | 7 => some [3, 8, 9, 10] | 8 => some [2] | _ => none)
def h111 : Hint := ⟨h111a, (fun _ => none), (fun _ => none), [], true, (fun _ => none), fun _ => 0, 0, false, (fun _ => none)⟩
@[go_sem] theorem h111x : h111.mix = (fun _ => none) := rfl
@[go_sem] theorem h111l : h111.live = h111a := rfl
@[go_sem] theorem h111o : h111.mode = fun _ => 0 := rfl
@[go_sem] theorem h111k : h111.keep = (fun _ => none) := rfl
@[go_sem] theorem h111t : h111.tail = (fun _ => none) := rfl
@[go_sem] theorem h111v : h111.vars = [] := rfl
@[go_sem] theorem h111m : h111.mutc = true := rfl
@[go_sem] def h112a : Nat -> Option (List Nat) := (fun id => match id with | 0 => some [0, 2] | 1 => some [0, 2, 3] | 2 => some [0, 2, 3] | 3 => some [0, 2, 3, 18] | 4 => some [2] | 5 => some [0, 2, 23] | 6 => some [0, 2] | _ => none)
abbrev h112 : Hint := HQ h112a
@[go_sem] def h113a : Nat -> Option (List Nat) := (fun id => match id with | 0 => some [0] | 1 => some [2] | _ => none)
abbrev h113 : Hint := HQ h113a
@[go_sem] def h114a : Nat -> Option (List Nat) := (fun id => match id with | 0 => some [0, 1] | 1 => some [0, 1, 6] | 2 => some [0, 1] | 3 => some [4] | _ => none)
abbrev h114 : Hint := HQ h114a
@[go_sem] def h115a : Nat -> Option (List Nat) := (fun id => match id with | 0 => some [0] | 1 => some [0, 4] | 2 => some [2] | 3 => some [2] | _ => none)
abbrev h115 : Hint := HQ h115a
@[go_sem] def h116a : Nat -> Option (List Nat) := (fun id => match id with | 0 => some [0, 2] | 1 => some [0, 2, 14] | 2 => some [2, 3] | 3 => some [0, 2, 4] | 4 => some [2, 4] | 5 => some [2, 4, 36] | 6 => some [2, 3] | 7 => some [2, 3] | _ => none)
@[go_sem] def h116M : Nat -> Option Mix := (fun id => match id with | 3 => some ⟨[0, 1, 2, 3, 4, 5, 6, 7, 8, 9], [], .head 0 (.head 1 (.head 2 (.head 3 (.head 4 (.head 5 (.head 6 (.head 7 (.head 8 (.head 9 (.one 10 (.one 11 (.fin))))))))))))⟩ | _ => none)
def h116 : Hint := ⟨h116a, (fun _ => none), (fun id => match id with | 1 => some 10 | 3 => some 10 | _ => none), [], false, h116M, fun _ => 0, 0, false, (fun _ => none)⟩
@[go_sem] theorem h116e : h116.late = (fun _ => none) := rfl
@[go_sem] theorem h116x : h116.mix = h116M := rfl
@[go_sem] theorem h116l : h116.live = h116a := rfl
@[go_sem] theorem h116o : h116.mode = fun _ => 0 := rfl
@[go_sem] theorem h116k : h116.keep = (fun _ => none) := rfl
@[go_sem] theorem h116t : h116.tail = (fun id => match id with | 1 => some 10 | 3 => some 10 | _ => none) := rfl
@[go_sem] theorem h116v : h116.vars = [] := rfl
@[go_sem] theorem h116m : h116.mutc = false := rfl
@[go_sem] def h117a : Nat -> Option (List Nat) := (fun id => match id with | 0 => some [0] | 1 => some [0, 2] | 2 => some [0, 2, 31] | 3 => some [0, 2] | 4 => some [1] | _ => none)
def h117 : Hint := ⟨h117a, (fun _ => none), (fun id => match id with | 2 => some 25 | _ => none), [], false, (fun _ => none), fun _ => 0, 0, false, (fun _ => none)⟩
@[go_sem] theorem h117e : h117.late = (fun _ => none) := rfl
@[go_sem] theorem h117x : h117.mix = (fun _ => none) := rfl
@[go_sem] theorem h117l : h117.live = h117a := rfl
@[go_sem] theorem h117o : h117.mode = fun _ => 0 := rfl
@[go_sem] theorem h117k : h117.keep = (fun _ => none) := rfl
@[go_sem] theorem h117t : h117.tail = (fun id => match id with | 2 => some 25 | _ => none) := rfl
@[go_sem] theorem h117v : h117.vars = [] := rfl
@[go_sem] theorem h117m : h117.mutc = false := rfl
@[go_sem] def h118a : Nat -> Option (List Nat) := (fun id => match id with | 0 => some [0] | 1 => some [2] | _ => none)
abbrev h118 : Hint := HQ h118a
def hints (f : Nat) : Hint := match f with
 | 4 => h4
 | 5 => h5
 | 7 => h7
 | 9 => h9
 | 10 => h10
 | 11 => h11
 | 12 => h12
 | 17 => h17
 | 18 => h18
 | 19 => h19
 | 20 => h20
 | 21 => h21
 | 22 => h22
 | 23 => h23
 | 24 => h24
 | 25 => h25
 | 26 => h26
 | 27 => h27
 | 28 => h28
 | 29 => h29
 | 33 => h33
 | 34 => h34
 | 35 => h35
 | 36 => h36
 | 37 => h37
 | 38 => h38
 | 39 => h39
 | 40 => h40
 | 41 => h41
 | 42 => h42
 | 43 => h43
 | 44 => h44
 | 45 => h45
 | 46 => h46
 | 47 => h47
 | 48 => h48
 | 52 => h52
 | 53 => h53
 | 54 => h54
 | 55 => h55
 | 56 => h56
 | 57 => h57
 | 58 => h58
 | 59 => h59
 | 60 => h60
 | 61 => h61
 | 63 => h63
 | 68 => h68
 | 69 => h69
 | 70 => h70
 | 71 => h71
 | 72 => h72
 | 73 => h73
 | 74 => h74
 | 75 => h75
 | 76 => h76
 | 77 => h77
 | 78 => h78
 | 79 => h79
 | 80 => h80
 | 81 => h81
 | 82 => h82
 | 83 => h83
 | 84 => h84
 | 85 => h85
 | 86 => h86
 | 91 => h91
 | 92 => h92
 | 93 => h93
 | 94 => h94
 | 95 => h95
 | 96 => h96
 | 97 => h97
 | 98 => h98
 | 99 => h99
 | 100 => h100
 | 101 => h101
 | 102 => h102
 | 104 => h104
 | 105 => h105
 | 106 => h106
 | 107 => h107
 | 108 => h108
 | 109 => h109
 | 110 => h110
 | 111 => h111
 | 112 => h112
 | 113 => h113
 | 114 => h114
 | 115 => h115
 | 116 => h116
 | 117 => h117
 | 118 => h118
 | _ => ⟨fun _ => none, fun _ => none, fun _ => none, [], false, fun _ => none, fun _ => 0, 0, false, fun _ => none⟩
noncomputable def E : CallF := ev Tryd.prog hints primz
noncomputable def b4 : Code := bodyOf Tryd.f4
noncomputable def l4x0 : Code := loopAt b4 0
theorem c4 : codeOk Tryd.prog h4 90 b4 = true := by kernel_rfl
theorem e4 {lo : Nat} {args : List V} {h : Heap} (ha : args.length <= 90) (hb : args.all bare = true) :
  E lo 4 args h = fin Tryd.prog [.tmp 0] h.length (evCode ⟨Tryd.prog, E, lo, h.length, h4⟩ loopW b4 (args0 args, h)) :=
 ev_body rfl Tryd.func4 rfl Tryd.ntmps4 (by kernel_rfl) rfl c4 rfl rfl rfl ha hb
noncomputable def b5 : Code := bodyOf Tryd.f5
noncomputable def l5x0 : Code := loopAt b5 0
theorem c5 : codeOk Tryd.prog h5 17 b5 = true := by kernel_rfl
theorem e5 {lo : Nat} {args : List V} {h : Heap} (ha : args.length <= 17) (hb : args.all bare = true) :
  E lo 5 args h = fin Tryd.prog [.tmp 0] h.length (evCode ⟨Tryd.prog, E, lo, h.length, h5⟩ loopW b5 (args0 args, h)) :=
 ev_body rfl Tryd.func5 rfl Tryd.ntmps5 (by kernel_rfl) rfl c5 rfl rfl rfl ha hb
noncomputable def b7 : Code := bodyOf Tryd.f7
theorem c7 : codeOk Tryd.prog h7 55 b7 = true := by kernel_rfl
theorem e7 {lo : Nat} {args : List V} {h : Heap} (ha : args.length <= 55) (hb : args.all bare = true) :
  E lo 7 args h = fin Tryd.prog [.cell 2 31, .tmp 3] h.length (evCode ⟨Tryd.prog, E, lo, h.length, h7⟩ loopW b7 (args0 args, h)) :=
 ev_body rfl Tryd.func7 rfl Tryd.ntmps7 (by kernel_rfl) rfl c7 rfl rfl rfl ha hb
noncomputable def b9 : Code := bodyOf Tryd.f9
theorem c9 : codeOk Tryd.prog h9 14 b9 = true := by kernel_rfl
theorem e9 {lo : Nat} {args : List V} {h : Heap} (ha : args.length <= 14) (hb : args.all bare = true) :
  E lo 9 args h = fin Tryd.prog [.tmp 2] h.length (evCode ⟨Tryd.prog, E, lo, h.length, h9⟩ loopW b9 (args0 args, h)) :=
 ev_body rfl Tryd.func9 rfl Tryd.ntmps9 (by kernel_rfl) rfl c9 rfl rfl rfl ha hb
noncomputable def b10 : Code := bodyOf Tryd.f10
theorem c10 : codeOk Tryd.prog h10 91 b10 = true := by kernel_rfl
theorem e10 {lo : Nat} {args : List V} {h : Heap} (ha : args.length <= 91) (hb : args.all bare = true) :
  E lo 10 args h = fin Tryd.prog [.cell 4 42, .tmp 5] h.length (evCode ⟨Tryd.prog, E, lo, h.length, h10⟩ loopW b10 (args0 args, h)) :=
 ev_body rfl Tryd.func10 rfl Tryd.ntmps10 (by kernel_rfl) rfl c10 rfl rfl rfl ha hb
noncomputable def b11 : Code := bodyOf Tryd.f11
theorem c11 : codeOk Tryd.prog h11 7 b11 = true := by kernel_rfl
theorem e11 {lo : Nat} {args : List V} {h : Heap} (ha : args.length <= 7) (hb : args.all bare = true) :
  E lo 11 args h = fin Tryd.prog [.tmp 2] h.length (evCode ⟨Tryd.prog, E, lo, h.length, h11⟩ loopW b11 (args0 args, h)) :=
 ev_body rfl Tryd.func11 rfl Tryd.ntmps11 (by kernel_rfl) rfl c11 rfl rfl rfl ha hb
noncomputable def b12 : Code := bodyOf Tryd.f12
theorem c12 : codeOk Tryd.prog h12 16 b12 = true := by kernel_rfl
theorem e12 {lo : Nat} {args : List V} {h : Heap} (ha : args.length <= 16) (hb : args.all bare = true) :
  E lo 12 args h = fin Tryd.prog [.tmp 0] h.length (evCode ⟨Tryd.prog, E, lo, h.length, h12⟩ loopW b12 (args0 args, h)) :=
 ev_body rfl Tryd.func12 rfl Tryd.ntmps12 (by kernel_rfl) rfl c12 rfl rfl rfl ha hb
noncomputable def b17 : Code := bodyOf Tryd.f17
noncomputable def l17x0 : Code := loopAt b17 0
theorem c17 : codeOk Tryd.prog h17 18 b17 = true := by kernel_rfl
theorem e17 {lo : Nat} {args : List V} {h : Heap} (ha : args.length <= 18) (hb : args.all bare = true) :
  E lo 17 args h = finR Tryd.prog [.tmp 0] h.length 1 false (evCode ⟨Tryd.prog, E, lo, h.length, h17⟩ loopW b17 (args0 args, h)) :=
 ev_bodyR rfl Tryd.func17 rfl Tryd.ntmps17 (by kernel_rfl) rfl c17 rfl rfl rfl ha hb
noncomputable def b18 : Code := bodyOf Tryd.f18
noncomputable def l18x0 : Code := loopAt b18 0
theorem c18 : codeOk Tryd.prog h18 13 b18 = true := by kernel_rfl
theorem e18 {lo : Nat} {args : List V} {h : Heap} (ha : args.length <= 13) (hb : args.all bare = true) :
  E lo 18 args h = fin Tryd.prog [.tmp 2] h.length (evCode ⟨Tryd.prog, E, lo, h.length, h18⟩ loopW b18 (args0 args, h)) :=
 ev_body rfl Tryd.func18 rfl Tryd.ntmps18 (by kernel_rfl) rfl c18 rfl rfl rfl ha hb
noncomputable def b19 : Code := bodyOf Tryd.f19
theorem c19 : codeOk Tryd.prog h19 5 b19 = true := by kernel_rfl
theorem e19 {lo : Nat} {args : List V} {h : Heap} (ha : args.length <= 5) (hb : args.all bare = true) :
  E lo 19 args h = fin Tryd.prog [.tmp 2] h.length (evCode ⟨Tryd.prog, E, lo, h.length, h19⟩ loopW b19 (args0 args, h)) :=
 ev_body rfl Tryd.func19 rfl Tryd.ntmps19 (by kernel_rfl) rfl c19 rfl rfl rfl ha hb
noncomputable def b20 : Code := bodyOf Tryd.f20
noncomputable def l20x0 : Code := loopAt b20 0
theorem c20 : codeOk Tryd.prog h20 41 b20 = true := by kernel_rfl
theorem e20 {lo : Nat} {args : List V} {h : Heap} (ha : args.length <= 41) (hb : args.all bare = true) :
  E lo 20 args h = fin Tryd.prog [.tmp 4] h.length (evCode ⟨Tryd.prog, E, lo, h.length, h20⟩ loopW b20 (args0 args, h)) :=
 ev_body rfl Tryd.func20 rfl Tryd.ntmps20 (by kernel_rfl) rfl c20 rfl rfl rfl ha hb
noncomputable def b21 : Code := bodyOf Tryd.f21
theorem c21 : codeOk Tryd.prog h21 6 b21 = true := by kernel_rfl
theorem e21 {lo : Nat} {args : List V} {h : Heap} (ha : args.length <= 6) (hb : args.all bare = true) :
  E lo 21 args h = fin Tryd.prog [.tmp 2] h.length (evCode ⟨Tryd.prog, E, lo, h.length, h21⟩ loopW b21 (args0 args, h)) :=
 ev_body rfl Tryd.func21 rfl Tryd.ntmps21 (by kernel_rfl) rfl c21 rfl rfl rfl ha hb
noncomputable def b22 : Code := bodyOf Tryd.f22
noncomputable def l22x0 : Code := loopAt b22 0
theorem c22 : codeOk Tryd.prog h22 30 b22 = true := by kernel_rfl
theorem e22 {lo : Nat} {args : List V} {h : Heap} (ha : args.length <= 30) (hb : args.all bare = true) :
  E lo 22 args h = fin Tryd.prog [.tmp 2] h.length (evCode ⟨Tryd.prog, E, lo, h.length, h22⟩ loopW b22 (args0 args, h)) :=
 ev_body rfl Tryd.func22 rfl Tryd.ntmps22 (by kernel_rfl) rfl c22 rfl rfl rfl ha hb
noncomputable def b23 : Code := bodyOf Tryd.f23
theorem c23 : codeOk Tryd.prog h23 5 b23 = true := by kernel_rfl
theorem e23 {lo : Nat} {args : List V} {h : Heap} (ha : args.length <= 5) (hb : args.all bare = true) :
  E lo 23 args h = fin Tryd.prog [.tmp 2] h.length (evCode ⟨Tryd.prog, E, lo, h.length, h23⟩ loopW b23 (args0 args, h)) :=
 ev_body rfl Tryd.func23 rfl Tryd.ntmps23 (by kernel_rfl) rfl c23 rfl rfl rfl ha hb
noncomputable def b24 : Code := bodyOf Tryd.f24
noncomputable def l24x0 : Code := loopAt b24 0
theorem c24 : codeOk Tryd.prog h24 82 b24 = true := by kernel_rfl
theorem e24 {lo : Nat} {args : List V} {h : Heap} (ha : args.length <= 82) (hb : args.all bare = true) :
  E lo 24 args h = fin Tryd.prog [.tmp 2] h.length (evCode ⟨Tryd.prog, E, lo, h.length, h24⟩ loopW b24 (args0 args, h)) :=
 ev_body rfl Tryd.func24 rfl Tryd.ntmps24 (by kernel_rfl) rfl c24 rfl rfl rfl ha hb
noncomputable def b25 : Code := bodyOf Tryd.f25
theorem c25 : codeOk Tryd.prog h25 9 b25 = true := by kernel_rfl
/- a method -/
theorem e25 {lo : Nat} {args : List V} {h : Heap} (ha : args.length <= 9) (hb : args.all bare = true) :
  E lo 25 args h = fin Tryd.prog [.tmp 4] h.length (evCode ⟨Tryd.prog, E, lo, h.length, h25⟩ loopW b25 (args0 args, h)) :=
 ev_body rfl Tryd.func25 rfl Tryd.ntmps25 (by kernel_rfl) rfl c25 rfl rfl rfl ha hb
noncomputable def b26 : Code := bodyOf Tryd.f26
theorem c26 : codeOk Tryd.prog h26 82 b26 = true := by kernel_rfl
theorem e26 {lo : Nat} {args : List V} {h : Heap} (ha : args.length <= 82) (hb : args.all bare = true) :
  E lo 26 args h = fin Tryd.prog [.cell 4 42, .tmp 5] h.length (evCode ⟨Tryd.prog, E, lo, h.length, h26⟩ loopW b26 (args0 args, h)) :=
 ev_body rfl Tryd.func26 rfl Tryd.ntmps26 (by kernel_rfl) rfl c26 rfl rfl rfl ha hb
noncomputable def b27 : Code := bodyOf Tryd.f27
noncomputable def l27x0 : Code := loopAt b27 0
noncomputable def l27x1 : Code := loopAt b27 1
theorem c27 : codeOk Tryd.prog h27 66 b27 = true := by kernel_rfl
theorem e27 {lo : Nat} {args : List V} {h : Heap} (ha : args.length <= 66) (hb : args.all bare = true) :
  E lo 27 args h = fin Tryd.prog [.tmp 2] h.length (evCode ⟨Tryd.prog, E, lo, h.length, h27⟩ loopW b27 (args0 args, h)) :=
 ev_body rfl Tryd.func27 rfl Tryd.ntmps27 (by kernel_rfl) rfl c27 rfl rfl rfl ha hb
noncomputable def b28 : Code := bodyOf Tryd.f28
theorem c28 : codeOk Tryd.prog h28 6 b28 = true := by kernel_rfl
theorem e28 {lo : Nat} {args : List V} {h : Heap} (ha : args.length <= 6) (hb : args.all bare = true) :
  E lo 28 args h = fin Tryd.prog [.tmp 2] h.length (evCode ⟨Tryd.prog, E, lo, h.length, h28⟩ loopW b28 (args0 args, h)) :=
 ev_body rfl Tryd.func28 rfl Tryd.ntmps28 (by kernel_rfl) rfl c28 rfl rfl rfl ha hb
noncomputable def b29 : Code := bodyOf Tryd.f29
theorem c29 : codeOk Tryd.prog h29 5 b29 = true := by kernel_rfl
theorem e29 {lo : Nat} {args : List V} {h : Heap} (ha : args.length <= 5) (hb : args.all bare = true) :
  E lo 29 args h = fin Tryd.prog [.cell 2 27] h.length (evCode ⟨Tryd.prog, E, lo, h.length, h29⟩ loopW b29 (args0 args, h)) :=
 ev_body rfl Tryd.func29 rfl Tryd.ntmps29 (by kernel_rfl) rfl c29 rfl rfl rfl ha hb
noncomputable def b33 : Code := bodyOf Tryd.f33
theorem c33 : codeOk Tryd.prog h33 8 b33 = true := by kernel_rfl
theorem e33 {lo : Nat} {args : List V} {h : Heap} (ha : args.length <= 8) (hb : args.all bare = true) :
  E lo 33 args h = fin Tryd.prog [.tmp 4] h.length (evCode ⟨Tryd.prog, E, lo, h.length, h33⟩ loopW b33 (args0 args, h)) :=
 ev_body rfl Tryd.func33 rfl Tryd.ntmps33 (by kernel_rfl) rfl c33 rfl rfl rfl ha hb
noncomputable def b34 : Code := bodyOf Tryd.f34
noncomputable def l34x0 : Code := loopAt b34 0
theorem c34 : codeOk Tryd.prog h34 43 b34 = true := by kernel_rfl
theorem e34 {lo : Nat} {args : List V} {h : Heap} (ha : args.length <= 43) (hb : args.all bare = true) :
  E lo 34 args h = fin Tryd.prog [.tmp 4] h.length (evCode ⟨Tryd.prog, E, lo, h.length, h34⟩ loopW b34 (args0 args, h)) :=
 ev_body rfl Tryd.func34 rfl Tryd.ntmps34 (by kernel_rfl) rfl c34 rfl rfl rfl ha hb
noncomputable def b35 : Code := bodyOf Tryd.f35
theorem c35 : codeOk Tryd.prog h35 14 b35 = true := by kernel_rfl
theorem e35 {lo : Nat} {args : List V} {h : Heap} (ha : args.length <= 14) (hb : args.all bare = true) :
  E lo 35 args h = fin Tryd.prog [.tmp 2] h.length (evCode ⟨Tryd.prog, E, lo, h.length, h35⟩ loopW b35 (args0 args, h)) :=
 ev_body rfl Tryd.func35 rfl Tryd.ntmps35 (by kernel_rfl) rfl c35 rfl rfl rfl ha hb
noncomputable def b36 : Code := bodyOf Tryd.f36
theorem c36 : codeOk Tryd.prog h36 37 b36 = true := by kernel_rfl
theorem e36 {lo : Nat} {args : List V} {h : Heap} (ha : args.length <= 37) (hb : args.all bare = true) :
  E lo 36 args h = fin Tryd.prog [.tmp 2] h.length (evCode ⟨Tryd.prog, E, lo, h.length, h36⟩ loopW b36 (args0 args, h)) :=
 ev_body rfl Tryd.func36 rfl Tryd.ntmps36 (by kernel_rfl) rfl c36 rfl rfl rfl ha hb
noncomputable def b37 : Code := bodyOf Tryd.f37
noncomputable def l37x0 : Code := loopAt b37 0
theorem c37 : codeOk Tryd.prog h37 23 b37 = true := by kernel_rfl
theorem e37 {lo : Nat} {args : List V} {h : Heap} (ha : args.length <= 23) (hb : args.all bare = true) :
  E lo 37 args h = fin Tryd.prog [.tmp 2] h.length (evCode ⟨Tryd.prog, E, lo, h.length, h37⟩ loopW b37 (args0 args, h)) :=
 ev_body rfl Tryd.func37 rfl Tryd.ntmps37 (by kernel_rfl) rfl c37 rfl rfl rfl ha hb
noncomputable def b38 : Code := bodyOf Tryd.f38
noncomputable def l38x0 : Code := loopAt b38 0
noncomputable def l38x1 : Code := loopAt b38 1
theorem c38 : codeOk Tryd.prog h38 32 b38 = true := by kernel_rfl
theorem e38 {lo : Nat} {args : List V} {h : Heap} (ha : args.length <= 32) (hb : args.all bare = true) :
  E lo 38 args h = fin Tryd.prog [.tmp 2] h.length (evCode ⟨Tryd.prog, E, lo, h.length, h38⟩ loopW b38 (args0 args, h)) :=
 ev_body rfl Tryd.func38 rfl Tryd.ntmps38 (by kernel_rfl) rfl c38 rfl rfl rfl ha hb
noncomputable def b39 : Code := bodyOf Tryd.f39
theorem c39 : codeOk Tryd.prog h39 9 b39 = true := by kernel_rfl
/- a method -/
theorem e39 {lo : Nat} {args : List V} {h : Heap} (ha : args.length <= 9) (hb : args.all bare = true) :
  E lo 39 args h = fin Tryd.prog [.tmp 4] h.length (evCode ⟨Tryd.prog, E, lo, h.length, h39⟩ loopW b39 (args0 args, h)) :=
 ev_body rfl Tryd.func39 rfl Tryd.ntmps39 (by kernel_rfl) rfl c39 rfl rfl rfl ha hb
noncomputable def b40 : Code := bodyOf Tryd.f40
theorem c40 : codeOk Tryd.prog h40 10 b40 = true := by kernel_rfl
/- a method -/
theorem e40 {lo : Nat} {args : List V} {h : Heap} (ha : args.length <= 10) (hb : args.all bare = true) :
  E lo 40 args h = fin Tryd.prog [.tmp 2] h.length (evCode ⟨Tryd.prog, E, lo, h.length, h40⟩ loopW b40 (args0 args, h)) :=
 ev_body rfl Tryd.func40 rfl Tryd.ntmps40 (by kernel_rfl) rfl c40 rfl rfl rfl ha hb
noncomputable def b41 : Code := bodyOf Tryd.f41
theorem c41 : codeOk Tryd.prog h41 12 b41 = true := by kernel_rfl
theorem e41 {lo : Nat} {args : List V} {h : Heap} (ha : args.length <= 12) (hb : args.all bare = true) :
  E lo 41 args h = fin Tryd.prog [.tmp 2] h.length (evCode ⟨Tryd.prog, E, lo, h.length, h41⟩ loopW b41 (args0 args, h)) :=
 ev_body rfl Tryd.func41 rfl Tryd.ntmps41 (by kernel_rfl) rfl c41 rfl rfl rfl ha hb
noncomputable def b42 : Code := bodyOf Tryd.f42
noncomputable def l42x0 : Code := loopAt b42 0
theorem c42 : codeOk Tryd.prog h42 19 b42 = true := by kernel_rfl
/- a method -/
theorem e42 {lo : Nat} {args : List V} {h : Heap} (ha : args.length <= 19) (hb : args.all bare = true) :
  E lo 42 args h = fin Tryd.prog [.tmp 4] h.length (evCode ⟨Tryd.prog, E, lo, h.length, h42⟩ loopW b42 (args0 args, h)) :=
 ev_body rfl Tryd.func42 rfl Tryd.ntmps42 (by kernel_rfl) rfl c42 rfl rfl rfl ha hb
noncomputable def b43 : Code := bodyOf Tryd.f43
theorem c43 : codeOk Tryd.prog h43 27 b43 = true := by kernel_rfl
theorem e43 {lo : Nat} {args : List V} {h : Heap} (ha : args.length <= 27) (hb : args.all bare = true) :
  E lo 43 args h = fin Tryd.prog [.cell 2 39, .tmp 3] h.length (evCode ⟨Tryd.prog, E, lo, h.length, h43⟩ loopW b43 (args0 args, h)) :=
 ev_body rfl Tryd.func43 rfl Tryd.ntmps43 (by kernel_rfl) rfl c43 rfl rfl rfl ha hb
noncomputable def b44 : Code := bodyOf Tryd.f44
theorem c44 : codeOk Tryd.prog h44 13 b44 = true := by kernel_rfl
theorem e44 {lo : Nat} {args : List V} {h : Heap} (ha : args.length <= 13) (hb : args.all bare = true) :
  E lo 44 args h = fin Tryd.prog [.tmp 2, .tmp 3] h.length (evCode ⟨Tryd.prog, E, lo, h.length, h44⟩ loopW b44 (args0 args, h)) :=
 ev_body rfl Tryd.func44 rfl Tryd.ntmps44 (by kernel_rfl) rfl c44 rfl rfl rfl ha hb
noncomputable def b45 : Code := bodyOf Tryd.f45
theorem c45 : codeOk Tryd.prog h45 11 b45 = true := by kernel_rfl
theorem e45 {lo : Nat} {args : List V} {h : Heap} (ha : args.length <= 11) (hb : args.all bare = true) :
  E lo 45 args h = fin Tryd.prog [.tmp 2] h.length (evCode ⟨Tryd.prog, E, lo, h.length, h45⟩ loopW b45 (args0 args, h)) :=
 ev_body rfl Tryd.func45 rfl Tryd.ntmps45 (by kernel_rfl) rfl c45 rfl rfl rfl ha hb
noncomputable def b46 : Code := bodyOf Tryd.f46
theorem c46 : codeOk Tryd.prog h46 56 b46 = true := by kernel_rfl
theorem e46 {lo : Nat} {args : List V} {h : Heap} (ha : args.length <= 56) (hb : args.all bare = true) :
  E lo 46 args h = fin Tryd.prog [.tmp 2] h.length (evCode ⟨Tryd.prog, E, lo, h.length, h46⟩ loopW b46 (args0 args, h)) :=
 ev_body rfl Tryd.func46 rfl Tryd.ntmps46 (by kernel_rfl) rfl c46 rfl rfl rfl ha hb
noncomputable def b47 : Code := bodyOf Tryd.f47
noncomputable def l47x0 : Code := loopAt b47 0
theorem c47 : codeOk Tryd.prog h47 19 b47 = true := by kernel_rfl
theorem e47 {lo : Nat} {args : List V} {h : Heap} (ha : args.length <= 19) (hb : args.all bare = true) :
  E lo 47 args h = fin Tryd.prog [.tmp 2] h.length (evCode ⟨Tryd.prog, E, lo, h.length, h47⟩ loopW b47 (args0 args, h)) :=
 ev_body rfl Tryd.func47 rfl Tryd.ntmps47 (by kernel_rfl) rfl c47 rfl rfl rfl ha hb
noncomputable def b48 : Code := bodyOf Tryd.f48
noncomputable def l48x0 : Code := loopAt b48 0
theorem c48 : codeOk Tryd.prog h48 58 b48 = true := by kernel_rfl
theorem e48 {lo : Nat} {args : List V} {h : Heap} (ha : args.length <= 58) (hb : args.all bare = true) :
  E lo 48 args h = fin Tryd.prog [.tmp 2] h.length (evCode ⟨Tryd.prog, E, lo, h.length, h48⟩ loopW b48 (args0 args, h)) :=
 ev_body rfl Tryd.func48 rfl Tryd.ntmps48 (by kernel_rfl) rfl c48 rfl rfl rfl ha hb
noncomputable def b52 : Code := bodyOf Tryd.f52
theorem c52 : codeOk Tryd.prog h52 18 b52 = true := by kernel_rfl
theorem e52 {lo : Nat} {args : List V} {h : Heap} (ha : args.length <= 18) (hb : args.all bare = true) :
  E lo 52 args h = fin Tryd.prog [.tmp 4] h.length (evCode ⟨Tryd.prog, E, lo, h.length, h52⟩ loopW b52 (args0 args, h)) :=
 ev_body rfl Tryd.func52 rfl Tryd.ntmps52 (by kernel_rfl) rfl c52 rfl rfl rfl ha hb
noncomputable def b53 : Code := bodyOf Tryd.f53
theorem c53 : codeOk Tryd.prog h53 7 b53 = true := by kernel_rfl
theorem e53 {lo : Nat} {args : List V} {h : Heap} (ha : args.length <= 7) (hb : args.all bare = true) :
  E lo 53 args h = fin Tryd.prog [.tmp 2] h.length (evCode ⟨Tryd.prog, E, lo, h.length, h53⟩ loopW b53 (args0 args, h)) :=
 ev_body rfl Tryd.func53 rfl Tryd.ntmps53 (by kernel_rfl) rfl c53 rfl rfl rfl ha hb
noncomputable def b54 : Code := bodyOf Tryd.f54
noncomputable def l54x0 : Code := loopAt b54 0
theorem c54 : codeOk Tryd.prog h54 19 b54 = true := by kernel_rfl
/- a method -/
theorem e54 {lo : Nat} {args : List V} {h : Heap} (ha : args.length <= 19) (hb : args.all bare = true) :
  E lo 54 args h = fin Tryd.prog [.tmp 4] h.length (evCode ⟨Tryd.prog, E, lo, h.length, h54⟩ loopW b54 (args0 args, h)) :=
 ev_body rfl Tryd.func54 rfl Tryd.ntmps54 (by kernel_rfl) rfl c54 rfl rfl rfl ha hb
noncomputable def b55 : Code := bodyOf Tryd.f55
noncomputable def l55x0 : Code := loopAt b55 0
theorem c55 : codeOk Tryd.prog h55 86 b55 = true := by kernel_rfl
theorem e55 {lo : Nat} {args : List V} {h : Heap} (ha : args.length <= 86) (hb : args.all bare = true) :
  E lo 55 args h = fin Tryd.prog [.cell 2 39, .tmp 3] h.length (evCode ⟨Tryd.prog, E, lo, h.length, h55⟩ loopW b55 (args0 args, h)) :=
 ev_body rfl Tryd.func55 rfl Tryd.ntmps55 (by kernel_rfl) rfl c55 rfl rfl rfl ha hb
noncomputable def b56 : Code := bodyOf Tryd.f56
theorem c56 : codeOk Tryd.prog h56 5 b56 = true := by kernel_rfl
theorem e56 {lo : Nat} {args : List V} {h : Heap} (ha : args.length <= 5) (hb : args.all bare = true) :
  E lo 56 args h = fin Tryd.prog [.tmp 2] h.length (evCode ⟨Tryd.prog, E, lo, h.length, h56⟩ loopW b56 (args0 args, h)) :=
 ev_body rfl Tryd.func56 rfl Tryd.ntmps56 (by kernel_rfl) rfl c56 rfl rfl rfl ha hb
noncomputable def b57 : Code := bodyOf Tryd.f57
noncomputable def l57x0 : Code := loopAt b57 0
theorem c57 : codeOk Tryd.prog h57 54 b57 = true := by kernel_rfl
theorem e57 {lo : Nat} {args : List V} {h : Heap} (ha : args.length <= 54) (hb : args.all bare = true) :
  E lo 57 args h = fin Tryd.prog [.tmp 2] h.length (evCode ⟨Tryd.prog, E, lo, h.length, h57⟩ loopW b57 (args0 args, h)) :=
 ev_body rfl Tryd.func57 rfl Tryd.ntmps57 (by kernel_rfl) rfl c57 rfl rfl rfl ha hb
noncomputable def b58 : Code := bodyOf Tryd.f58
noncomputable def l58x0 : Code := loopAt b58 0
noncomputable def l58x1 : Code := loopAt b58 1
theorem c58 : codeOk Tryd.prog h58 44 b58 = true := by kernel_rfl
/- a method -/
theorem e58 {lo : Nat} {args : List V} {h : Heap} (ha : args.length <= 44) (hb : args.all bare = true) :
  E lo 58 args h = fin Tryd.prog [] h.length (evCode ⟨Tryd.prog, E, lo, h.length, h58⟩ loopW b58 (args0 args, h)) :=
 ev_body rfl Tryd.func58 rfl Tryd.ntmps58 (by kernel_rfl) rfl c58 rfl rfl rfl ha hb
noncomputable def b59 : Code := bodyOf Tryd.f59
theorem c59 : codeOk Tryd.prog h59 33 b59 = true := by kernel_rfl
/- a method -/
theorem e59 {lo : Nat} {args : List V} {h : Heap} (ha : args.length <= 33) (hb : args.all bare = true) :
  E lo 59 args h = fin Tryd.prog [.tmp 4] h.length (evCode ⟨Tryd.prog, E, lo, h.length, h59⟩ loopW b59 (args0 args, h)) :=
 ev_body rfl Tryd.func59 rfl Tryd.ntmps59 (by kernel_rfl) rfl c59 rfl rfl rfl ha hb
noncomputable def b60 : Code := bodyOf Tryd.f60
noncomputable def l60x0 : Code := loopAt b60 0
theorem c60 : codeOk Tryd.prog h60 177 b60 = true := by kernel_rfl
/- a method -/
theorem e60 {lo : Nat} {args : List V} {h : Heap} (ha : args.length <= 177) (hb : args.all bare = true) :
  E lo 60 args h = fin Tryd.prog [.cell 2 49] h.length (evCode ⟨Tryd.prog, E, lo, h.length, h60⟩ loopW b60 (args0 args, h)) :=
 ev_body rfl Tryd.func60 rfl Tryd.ntmps60 (by kernel_rfl) rfl c60 rfl rfl rfl ha hb
noncomputable def b61 : Code := bodyOf Tryd.f61
noncomputable def l61x0 : Code := loopAt b61 0
theorem c61 : codeOk Tryd.prog h61 27 b61 = true := by kernel_rfl
theorem e61 {lo : Nat} {args : List V} {h : Heap} (ha : args.length <= 27) (hb : args.all bare = true) :
  E lo 61 args h = fin Tryd.prog [.tmp 2] h.length (evCode ⟨Tryd.prog, E, lo, h.length, h61⟩ loopW b61 (args0 args, h)) :=
 ev_body rfl Tryd.func61 rfl Tryd.ntmps61 (by kernel_rfl) rfl c61 rfl rfl rfl ha hb
noncomputable def b63 : Code := bodyOf Tryd.f63
theorem c63 : codeOk Tryd.prog h63 2 b63 = true := by kernel_rfl
theorem e63 {lo : Nat} {args : List V} {h : Heap} (ha : args.length <= 2) (hb : args.all bare = true) :
  E lo 63 args h = fin Tryd.prog [.cell 0 27] h.length (evCode ⟨Tryd.prog, E, lo, h.length, h63⟩ loopW b63 (args0 args, h)) :=
 ev_body rfl Tryd.func63 rfl Tryd.ntmps63 (by kernel_rfl) rfl c63 rfl rfl rfl ha hb
noncomputable def b68 : Code := bodyOf Tryd.f68
theorem c68 : codeOk Tryd.prog h68 12 b68 = true := by kernel_rfl
theorem e68 {lo : Nat} {args : List V} {h : Heap} (ha : args.length <= 12) (hb : args.all bare = true) :
  E lo 68 args h = fin Tryd.prog [.cell 4 39] h.length (evCode ⟨Tryd.prog, E, lo, h.length, h68⟩ loopW b68 (args0 args, h)) :=
 ev_body rfl Tryd.func68 rfl Tryd.ntmps68 (by kernel_rfl) rfl c68 rfl rfl rfl ha hb
noncomputable def b69 : Code := bodyOf Tryd.f69
noncomputable def l69x0 : Code := loopAt b69 0
theorem c69 : codeOk Tryd.prog h69 19 b69 = true := by kernel_rfl
theorem e69 {lo : Nat} {args : List V} {h : Heap} (ha : args.length <= 19) (hb : args.all bare = true) :
  E lo 69 args h = fin Tryd.prog [.tmp 2] h.length (evCode ⟨Tryd.prog, E, lo, h.length, h69⟩ loopW b69 (args0 args, h)) :=
 ev_body rfl Tryd.func69 rfl Tryd.ntmps69 (by kernel_rfl) rfl c69 rfl rfl rfl ha hb
noncomputable def b70 : Code := bodyOf Tryd.f70
noncomputable def l70x0 : Code := loopAt b70 0
theorem c70 : codeOk Tryd.prog h70 30 b70 = true := by kernel_rfl
theorem e70 {lo : Nat} {args : List V} {h : Heap} (ha : args.length <= 30) (hb : args.all bare = true) :
  E lo 70 args h = fin Tryd.prog [.tmp 2] h.length (evCode ⟨Tryd.prog, E, lo, h.length, h70⟩ loopW b70 (args0 args, h)) :=
 ev_body rfl Tryd.func70 rfl Tryd.ntmps70 (by kernel_rfl) rfl c70 rfl rfl rfl ha hb
noncomputable def b71 : Code := bodyOf Tryd.f71
noncomputable def b72 : Code := bodyOf Tryd.f72
noncomputable def l72x0 : Code := loopAt b72 0
theorem c72 : codeOk Tryd.prog h72 36 b72 = true := by kernel_rfl
theorem e72 {lo : Nat} {args : List V} {h : Heap} (ha : args.length <= 36) (hb : args.all bare = true) :
  E lo 72 args h = fin Tryd.prog [.tmp 2] h.length (evCode ⟨Tryd.prog, E, lo, h.length, h72⟩ loopW b72 (args0 args, h)) :=
 ev_body rfl Tryd.func72 rfl Tryd.ntmps72 (by kernel_rfl) rfl c72 rfl rfl rfl ha hb
noncomputable def b73 : Code := bodyOf Tryd.f73
noncomputable def l73x0 : Code := loopAt b73 0
theorem c73 : codeOk Tryd.prog h73 77 b73 = true := by kernel_rfl
theorem e73 {lo : Nat} {args : List V} {h : Heap} (ha : args.length <= 77) (hb : args.all bare = true) :
  E lo 73 args h = fin Tryd.prog [.tmp 4] h.length (evCode ⟨Tryd.prog, E, lo, h.length, h73⟩ loopW b73 (args0 args, h)) :=
 ev_body rfl Tryd.func73 rfl Tryd.ntmps73 (by kernel_rfl) rfl c73 rfl rfl rfl ha hb
noncomputable def b74 : Code := bodyOf Tryd.f74
theorem c74 : codeOk Tryd.prog h74 17 b74 = true := by kernel_rfl
theorem e74 {lo : Nat} {args : List V} {h : Heap} (ha : args.length <= 17) (hb : args.all bare = true) :
  E lo 74 args h = fin Tryd.prog [.tmp 2] h.length (evCode ⟨Tryd.prog, E, lo, h.length, h74⟩ loopW b74 (args0 args, h)) :=
 ev_body rfl Tryd.func74 rfl Tryd.ntmps74 (by kernel_rfl) rfl c74 rfl rfl rfl ha hb
noncomputable def b75 : Code := bodyOf Tryd.f75
theorem c75 : codeOk Tryd.prog h75 13 b75 = true := by kernel_rfl
theorem e75 {lo : Nat} {args : List V} {h : Heap} (ha : args.length <= 13) (hb : args.all bare = true) :
  E lo 75 args h = fin Tryd.prog [.tmp 2] h.length (evCode ⟨Tryd.prog, E, lo, h.length, h75⟩ loopW b75 (args0 args, h)) :=
 ev_body rfl Tryd.func75 rfl Tryd.ntmps75 (by kernel_rfl) rfl c75 rfl rfl rfl ha hb
noncomputable def b76 : Code := bodyOf Tryd.f76
noncomputable def l76x0 : Code := loopAt b76 0
theorem c76 : codeOk Tryd.prog h76 12 b76 = true := by kernel_rfl
/- a method -/
theorem e76 {lo : Nat} {args : List V} {h : Heap} (ha : args.length <= 12) (hb : args.all bare = true) :
  E lo 76 args h = fin Tryd.prog [] h.length (evCode ⟨Tryd.prog, E, lo, h.length, h76⟩ loopW b76 (args0 args, h)) :=
 ev_body rfl Tryd.func76 rfl Tryd.ntmps76 (by kernel_rfl) rfl c76 rfl rfl rfl ha hb
noncomputable def b77 : Code := bodyOf Tryd.f77
noncomputable def l77x0 : Code := loopAt b77 0
theorem c77 : codeOk Tryd.prog h77 79 b77 = true := by kernel_rfl
/- a method -/
theorem e77 {lo : Nat} {args : List V} {h : Heap} (ha : args.length <= 79) (hb : args.all bare = true) :
  E lo 77 args h = fin Tryd.prog [.cell 4 49] h.length (evCode ⟨Tryd.prog, E, lo, h.length, h77⟩ loopW b77 (args0 args, h)) :=
 ev_body rfl Tryd.func77 rfl Tryd.ntmps77 (by kernel_rfl) rfl c77 rfl rfl rfl ha hb
noncomputable def b78 : Code := bodyOf Tryd.f78
theorem c78 : codeOk Tryd.prog h78 13 b78 = true := by kernel_rfl
theorem e78 {lo : Nat} {args : List V} {h : Heap} (ha : args.length <= 13) (hb : args.all bare = true) :
  E lo 78 args h = fin Tryd.prog [.tmp 2] h.length (evCode ⟨Tryd.prog, E, lo, h.length, h78⟩ loopW b78 (args0 args, h)) :=
 ev_body rfl Tryd.func78 rfl Tryd.ntmps78 (by kernel_rfl) rfl c78 rfl rfl rfl ha hb
noncomputable def b79 : Code := bodyOf Tryd.f79
theorem c79 : codeOk Tryd.prog h79 11 b79 = true := by kernel_rfl
theorem e79 {lo : Nat} {args : List V} {h : Heap} (ha : args.length <= 11) (hb : args.all bare = true) :
  E lo 79 args h = fin Tryd.prog [.tmp 4] h.length (evCode ⟨Tryd.prog, E, lo, h.length, h79⟩ loopW b79 (args0 args, h)) :=
 ev_body rfl Tryd.func79 rfl Tryd.ntmps79 (by kernel_rfl) rfl c79 rfl rfl rfl ha hb
noncomputable def b80 : Code := bodyOf Tryd.f80
theorem c80 : codeOk Tryd.prog h80 27 b80 = true := by kernel_rfl
theorem e80 {lo : Nat} {args : List V} {h : Heap} (ha : args.length <= 27) (hb : args.all bare = true) :
  E lo 80 args h = fin Tryd.prog [.tmp 6] h.length (evCode ⟨Tryd.prog, E, lo, h.length, h80⟩ loopW b80 (args0 args, h)) :=
 ev_body rfl Tryd.func80 rfl Tryd.ntmps80 (by kernel_rfl) rfl c80 rfl rfl rfl ha hb
noncomputable def b81 : Code := bodyOf Tryd.f81
noncomputable def l81x0 : Code := loopAt b81 0
theorem c81 : codeOk Tryd.prog h81 44 b81 = true := by kernel_rfl
/- a method -/
theorem e81 {lo : Nat} {args : List V} {h : Heap} (ha : args.length <= 44) (hb : args.all bare = true) :
  E lo 81 args h = fin Tryd.prog [.tmp 2] h.length (evCode ⟨Tryd.prog, E, lo, h.length, h81⟩ loopW b81 (args0 args, h)) :=
 ev_body rfl Tryd.func81 rfl Tryd.ntmps81 (by kernel_rfl) rfl c81 rfl rfl rfl ha hb
noncomputable def b82 : Code := bodyOf Tryd.f82
theorem c82 : codeOk Tryd.prog h82 25 b82 = true := by kernel_rfl
theorem e82 {lo : Nat} {args : List V} {h : Heap} (ha : args.length <= 25) (hb : args.all bare = true) :
  E lo 82 args h = fin Tryd.prog [.tmp 6] h.length (evCode ⟨Tryd.prog, E, lo, h.length, h82⟩ loopW b82 (args0 args, h)) :=
 ev_body rfl Tryd.func82 rfl Tryd.ntmps82 (by kernel_rfl) rfl c82 rfl rfl rfl ha hb
noncomputable def b83 : Code := bodyOf Tryd.f83
theorem c83 : codeOk Tryd.prog h83 122 b83 = true := by kernel_rfl
/- a method -/
theorem e83 {lo : Nat} {args : List V} {h : Heap} (ha : args.length <= 122) (hb : args.all bare = true) :
  E lo 83 args h = fin Tryd.prog [.cell 2 49] h.length (evCode ⟨Tryd.prog, E, lo, h.length, h83⟩ loopW b83 (args0 args, h)) :=
 ev_body rfl Tryd.func83 rfl Tryd.ntmps83 (by kernel_rfl) rfl c83 rfl rfl rfl ha hb
noncomputable def b84 : Code := bodyOf Tryd.f84
noncomputable def l84x0 : Code := loopAt b84 0
theorem c84 : codeOk Tryd.prog h84 55 b84 = true := by kernel_rfl
/- a method -/
theorem e84 {lo : Nat} {args : List V} {h : Heap} (ha : args.length <= 55) (hb : args.all bare = true) :
  E lo 84 args h = fin Tryd.prog [.cell 2 49] h.length (evCode ⟨Tryd.prog, E, lo, h.length, h84⟩ loopW b84 (args0 args, h)) :=
 ev_body rfl Tryd.func84 rfl Tryd.ntmps84 (by kernel_rfl) rfl c84 rfl rfl rfl ha hb
noncomputable def b85 : Code := bodyOf Tryd.f85
theorem c85 : codeOk Tryd.prog h85 6 b85 = true := by kernel_rfl
theorem e85 {lo : Nat} {args : List V} {h : Heap} (ha : args.length <= 6) (hb : args.all bare = true) :
  E lo 85 args h = fin Tryd.prog [.tmp 2] h.length (evCode ⟨Tryd.prog, E, lo, h.length, h85⟩ loopW b85 (args0 args, h)) :=
 ev_body rfl Tryd.func85 rfl Tryd.ntmps85 (by kernel_rfl) rfl c85 rfl rfl rfl ha hb
noncomputable def b86 : Code := bodyOf Tryd.f86
noncomputable def l86x0 : Code := loopAt b86 0
theorem c86 : codeOk Tryd.prog h86 81 b86 = true := by kernel_rfl
theorem e86 {lo : Nat} {args : List V} {h : Heap} (ha : args.length <= 81) (hb : args.all bare = true) :
  E lo 86 args h = fin Tryd.prog [.tmp 4, .tmp 5, .tmp 6] h.length (evCode ⟨Tryd.prog, E, lo, h.length, h86⟩ loopW b86 (args0 args, h)) :=
 ev_body rfl Tryd.func86 rfl Tryd.ntmps86 (by kernel_rfl) rfl c86 rfl rfl rfl ha hb
noncomputable def b91 : Code := bodyOf Tryd.f91
theorem c91 : codeOk Tryd.prog h91 10 b91 = true := by kernel_rfl
theorem e91 {lo : Nat} {args : List V} {h : Heap} (ha : args.length <= 10) (hb : args.all bare = true) :
  E lo 91 args h = fin Tryd.prog [.tmp 2] h.length (evCode ⟨Tryd.prog, E, lo, h.length, h91⟩ loopW b91 (args0 args, h)) :=
 ev_body rfl Tryd.func91 rfl Tryd.ntmps91 (by kernel_rfl) rfl c91 rfl rfl rfl ha hb
noncomputable def b92 : Code := bodyOf Tryd.f92
theorem c92 : codeOk Tryd.prog h92 2 b92 = true := by kernel_rfl
theorem e92 {lo : Nat} {args : List V} {h : Heap} (ha : args.length <= 2) (hb : args.all bare = true) :
  E lo 92 args h = fin Tryd.prog [.tmp 0] h.length (evCode ⟨Tryd.prog, E, lo, h.length, h92⟩ loopW b92 (args0 args, h)) :=
 ev_body rfl Tryd.func92 rfl Tryd.ntmps92 (by kernel_rfl) rfl c92 rfl rfl rfl ha hb
noncomputable def b93 : Code := bodyOf Tryd.f93
noncomputable def l93x0 : Code := loopAt b93 0
theorem c93 : codeOk Tryd.prog h93 44 b93 = true := by kernel_rfl
/- a method -/
theorem e93 {lo : Nat} {args : List V} {h : Heap} (ha : args.length <= 44) (hb : args.all bare = true) :
  E lo 93 args h = fin Tryd.prog [.cell 2 39, .tmp 3] h.length (evCode ⟨Tryd.prog, E, lo, h.length, h93⟩ loopW b93 (args0 args, h)) :=
 ev_body rfl Tryd.func93 rfl Tryd.ntmps93 (by kernel_rfl) rfl c93 rfl rfl rfl ha hb
noncomputable def b94 : Code := bodyOf Tryd.f94
noncomputable def l94x0 : Code := loopAt b94 0
theorem c94 : codeOk Tryd.prog h94 70 b94 = true := by kernel_rfl
/- a method -/
theorem e94 {lo : Nat} {args : List V} {h : Heap} (ha : args.length <= 70) (hb : args.all bare = true) :
  E lo 94 args h = fin Tryd.prog [.tmp 2] h.length (evCode ⟨Tryd.prog, E, lo, h.length, h94⟩ loopW b94 (args0 args, h)) :=
 ev_body rfl Tryd.func94 rfl Tryd.ntmps94 (by kernel_rfl) rfl c94 rfl rfl rfl ha hb
noncomputable def b95 : Code := bodyOf Tryd.f95
theorem c95 : codeOk Tryd.prog h95 25 b95 = true := by kernel_rfl
theorem e95 {lo : Nat} {args : List V} {h : Heap} (ha : args.length <= 25) (hb : args.all bare = true) :
  E lo 95 args h = fin Tryd.prog [.tmp 2] h.length (evCode ⟨Tryd.prog, E, lo, h.length, h95⟩ loopW b95 (args0 args, h)) :=
 ev_body rfl Tryd.func95 rfl Tryd.ntmps95 (by kernel_rfl) rfl c95 rfl rfl rfl ha hb
noncomputable def b96 : Code := bodyOf Tryd.f96
theorem c96 : codeOk Tryd.prog h96 9 b96 = true := by kernel_rfl
theorem e96 {lo : Nat} {args : List V} {h : Heap} (ha : args.length <= 9) (hb : args.all bare = true) :
  E lo 96 args h = fin Tryd.prog [.tmp 2] h.length (evCode ⟨Tryd.prog, E, lo, h.length, h96⟩ loopW b96 (args0 args, h)) :=
 ev_body rfl Tryd.func96 rfl Tryd.ntmps96 (by kernel_rfl) rfl c96 rfl rfl rfl ha hb
noncomputable def b97 : Code := bodyOf Tryd.f97
noncomputable def l97x0 : Code := loopAt b97 0
theorem c97 : codeOk Tryd.prog h97 12 b97 = true := by kernel_rfl
/- a method -/
theorem e97 {lo : Nat} {args : List V} {h : Heap} (ha : args.length <= 12) (hb : args.all bare = true) :
  E lo 97 args h = fin Tryd.prog [] h.length (evCode ⟨Tryd.prog, E, lo, h.length, h97⟩ loopW b97 (args0 args, h)) :=
 ev_body rfl Tryd.func97 rfl Tryd.ntmps97 (by kernel_rfl) rfl c97 rfl rfl rfl ha hb
noncomputable def b98 : Code := bodyOf Tryd.f98
noncomputable def l98x0 : Code := loopAt b98 0
theorem c98 : codeOk Tryd.prog h98 153 b98 = true := by kernel_rfl
theorem e98 {lo : Nat} {args : List V} {h : Heap} (ha : args.length <= 153) (hb : args.all bare = true) :
  E lo 98 args h = fin Tryd.prog [.cell 2 27, .tmp 3, .tmp 4] h.length (evCode ⟨Tryd.prog, E, lo, h.length, h98⟩ loopW b98 (args0 args, h)) :=
 ev_body rfl Tryd.func98 rfl Tryd.ntmps98 (by kernel_rfl) rfl c98 rfl rfl rfl ha hb
noncomputable def b99 : Code := bodyOf Tryd.f99
theorem c99 : codeOk Tryd.prog h99 10 b99 = true := by kernel_rfl
theorem e99 {lo : Nat} {args : List V} {h : Heap} (ha : args.length <= 10) (hb : args.all bare = true) :
  E lo 99 args h = fin Tryd.prog [.tmp 4] h.length (evCode ⟨Tryd.prog, E, lo, h.length, h99⟩ loopW b99 (args0 args, h)) :=
 ev_body rfl Tryd.func99 rfl Tryd.ntmps99 (by kernel_rfl) rfl c99 rfl rfl rfl ha hb
noncomputable def b100 : Code := bodyOf Tryd.f100
noncomputable def l100x0 : Code := loopAt b100 0
theorem c100 : codeOk Tryd.prog h100 91 b100 = true := by kernel_rfl
/- a method -/
theorem e100 {lo : Nat} {args : List V} {h : Heap} (ha : args.length <= 91) (hb : args.all bare = true) :
  E lo 100 args h = fin Tryd.prog [.cell 2 49] h.length (evCode ⟨Tryd.prog, E, lo, h.length, h100⟩ loopW b100 (args0 args, h)) :=
 ev_body rfl Tryd.func100 rfl Tryd.ntmps100 (by kernel_rfl) rfl c100 rfl rfl rfl ha hb
noncomputable def b101 : Code := bodyOf Tryd.f101
noncomputable def l101x0 : Code := loopAt b101 0
theorem c101 : codeOk Tryd.prog h101 79 b101 = true := by kernel_rfl
theorem e101 {lo : Nat} {args : List V} {h : Heap} (ha : args.length <= 79) (hb : args.all bare = true) :
  E lo 101 args h = fin Tryd.prog [.tmp 2] h.length (evCode ⟨Tryd.prog, E, lo, h.length, h101⟩ loopW b101 (args0 args, h)) :=
 ev_body rfl Tryd.func101 rfl Tryd.ntmps101 (by kernel_rfl) rfl c101 rfl rfl rfl ha hb
noncomputable def b102 : Code := bodyOf Tryd.f102
theorem c102 : codeOk Tryd.prog h102 38 b102 = true := by kernel_rfl
theorem e102 {lo : Nat} {args : List V} {h : Heap} (ha : args.length <= 38) (hb : args.all bare = true) :
  E lo 102 args h = fin Tryd.prog [.tmp 2, .tmp 3, .tmp 4] h.length (evCode ⟨Tryd.prog, E, lo, h.length, h102⟩ loopW b102 (args0 args, h)) :=
 ev_body rfl Tryd.func102 rfl Tryd.ntmps102 (by kernel_rfl) rfl c102 rfl rfl rfl ha hb
noncomputable def b104 : Code := bodyOf Tryd.f104
theorem c104 : codeOk Tryd.prog h104 21 b104 = true := by kernel_rfl
theorem e104 {lo : Nat} {args : List V} {h : Heap} (ha : args.length <= 21) (hb : args.all bare = true) :
  E lo 104 args h = fin Tryd.prog [.tmp 2] h.length (evCode ⟨Tryd.prog, E, lo, h.length, h104⟩ loopW b104 (args0 args, h)) :=
 ev_body rfl Tryd.func104 rfl Tryd.ntmps104 (by kernel_rfl) rfl c104 rfl rfl rfl ha hb
noncomputable def b105 : Code := bodyOf Tryd.f105
noncomputable def l105x0 : Code := loopAt b105 0
theorem c105 : codeOk Tryd.prog h105 44 b105 = true := by kernel_rfl
/- a method -/
theorem e105 {lo : Nat} {args : List V} {h : Heap} (ha : args.length <= 44) (hb : args.all bare = true) :
  E lo 105 args h = fin Tryd.prog [.cell 2 39, .tmp 3] h.length (evCode ⟨Tryd.prog, E, lo, h.length, h105⟩ loopW b105 (args0 args, h)) :=
 ev_body rfl Tryd.func105 rfl Tryd.ntmps105 (by kernel_rfl) rfl c105 rfl rfl rfl ha hb
noncomputable def b106 : Code := bodyOf Tryd.f106
theorem c106 : codeOk Tryd.prog h106 90 b106 = true := by kernel_rfl
/- a method -/
theorem e106 {lo : Nat} {args : List V} {h : Heap} (ha : args.length <= 90) (hb : args.all bare = true) :
  E lo 106 args h = fin Tryd.prog [.tmp 8] h.length (evCode ⟨Tryd.prog, E, lo, h.length, h106⟩ loopW b106 (args0 args, h)) :=
 ev_body rfl Tryd.func106 rfl Tryd.ntmps106 (by kernel_rfl) rfl c106 rfl rfl rfl ha hb
noncomputable def b107 : Code := bodyOf Tryd.f107
theorem c107 : codeOk Tryd.prog h107 12 b107 = true := by kernel_rfl
theorem e107 {lo : Nat} {args : List V} {h : Heap} (ha : args.length <= 12) (hb : args.all bare = true) :
  E lo 107 args h = fin Tryd.prog [.cell 2 39] h.length (evCode ⟨Tryd.prog, E, lo, h.length, h107⟩ loopW b107 (args0 args, h)) :=
 ev_body rfl Tryd.func107 rfl Tryd.ntmps107 (by kernel_rfl) rfl c107 rfl rfl rfl ha hb
noncomputable def b108 : Code := bodyOf Tryd.f108
theorem c108 : codeOk Tryd.prog h108 29 b108 = true := by kernel_rfl
theorem e108 {lo : Nat} {args : List V} {h : Heap} (ha : args.length <= 29) (hb : args.all bare = true) :
  E lo 108 args h = fin Tryd.prog [.tmp 2, .tmp 3] h.length (evCode ⟨Tryd.prog, E, lo, h.length, h108⟩ loopW b108 (args0 args, h)) :=
 ev_body rfl Tryd.func108 rfl Tryd.ntmps108 (by kernel_rfl) rfl c108 rfl rfl rfl ha hb
noncomputable def b109 : Code := bodyOf Tryd.f109
noncomputable def l109x0 : Code := loopAt b109 0
theorem c109 : codeOk Tryd.prog h109 18 b109 = true := by kernel_rfl
theorem e109 {lo : Nat} {args : List V} {h : Heap} (ha : args.length <= 18) (hb : args.all bare = true) :
  E lo 109 args h = fin Tryd.prog [.tmp 4] h.length (evCode ⟨Tryd.prog, E, lo, h.length, h109⟩ loopW b109 (args0 args, h)) :=
 ev_body rfl Tryd.func109 rfl Tryd.ntmps109 (by kernel_rfl) rfl c109 rfl rfl rfl ha hb
noncomputable def b110 : Code := bodyOf Tryd.f110
noncomputable def l110x0 : Code := loopAt b110 0
noncomputable def l110x1 : Code := loopAt b110 1
noncomputable def l110x2 : Code := loopAt b110 2
noncomputable def l110x3 : Code := loopAt b110 3
noncomputable def l110x4 : Code := loopAt b110 4
noncomputable def l110x5 : Code := loopAt b110 5
noncomputable def l110x6 : Code := loopAt b110 6
noncomputable def l110x7 : Code := loopAt b110 7
theorem c110 : codeOk Tryd.prog h110 132 b110 = true := by kernel_rfl
theorem e110 {lo : Nat} {args : List V} {h : Heap} (ha : args.length <= 132) (hb : args.all bare = true) :
  E lo 110 args h = fin Tryd.prog [.cell 6 27] h.length (evCode ⟨Tryd.prog, E, lo, h.length, h110⟩ loopW b110 (args0 args, h)) :=
 ev_body rfl Tryd.func110 rfl Tryd.ntmps110 (by kernel_rfl) rfl c110 rfl rfl rfl ha hb
noncomputable def b111 : Code := bodyOf Tryd.f111
noncomputable def l111x0 : Code := loopAt b111 0
theorem c111 : codeOk Tryd.prog h111 29 b111 = true := by kernel_rfl
theorem e111 {lo : Nat} {args : List V} {h : Heap} (ha : args.length <= 29) (hb : args.all bare = true) :
  E lo 111 args h = fin Tryd.prog [.tmp 2] h.length (evCode ⟨Tryd.prog, E, lo, h.length, h111⟩ loopW b111 (args0 args, h)) :=
 ev_body rfl Tryd.func111 rfl Tryd.ntmps111 (by kernel_rfl) rfl c111 rfl rfl rfl ha hb
noncomputable def b112 : Code := bodyOf Tryd.f112
noncomputable def l112x0 : Code := loopAt b112 0
theorem c112 : codeOk Tryd.prog h112 26 b112 = true := by kernel_rfl
/- a method -/
theorem e112 {lo : Nat} {args : List V} {h : Heap} (ha : args.length <= 26) (hb : args.all bare = true) :
  E lo 112 args h = fin Tryd.prog [.cell 2 49] h.length (evCode ⟨Tryd.prog, E, lo, h.length, h112⟩ loopW b112 (args0 args, h)) :=
 ev_body rfl Tryd.func112 rfl Tryd.ntmps112 (by kernel_rfl) rfl c112 rfl rfl rfl ha hb
noncomputable def b113 : Code := bodyOf Tryd.f113
theorem c113 : codeOk Tryd.prog h113 25 b113 = true := by kernel_rfl
theorem e113 {lo : Nat} {args : List V} {h : Heap} (ha : args.length <= 25) (hb : args.all bare = true) :
  E lo 113 args h = fin Tryd.prog [.tmp 2] h.length (evCode ⟨Tryd.prog, E, lo, h.length, h113⟩ loopW b113 (args0 args, h)) :=
 ev_body rfl Tryd.func113 rfl Tryd.ntmps113 (by kernel_rfl) rfl c113 rfl rfl rfl ha hb
noncomputable def b114 : Code := bodyOf Tryd.f114
noncomputable def l114x0 : Code := loopAt b114 0
theorem c114 : codeOk Tryd.prog h114 12 b114 = true := by kernel_rfl
theorem e114 {lo : Nat} {args : List V} {h : Heap} (ha : args.length <= 12) (hb : args.all bare = true) :
  E lo 114 args h = fin Tryd.prog [.tmp 4] h.length (evCode ⟨Tryd.prog, E, lo, h.length, h114⟩ loopW b114 (args0 args, h)) :=
 ev_body rfl Tryd.func114 rfl Tryd.ntmps114 (by kernel_rfl) rfl c114 rfl rfl rfl ha hb
noncomputable def b115 : Code := bodyOf Tryd.f115
theorem c115 : codeOk Tryd.prog h115 10 b115 = true := by kernel_rfl
theorem e115 {lo : Nat} {args : List V} {h : Heap} (ha : args.length <= 10) (hb : args.all bare = true) :
  E lo 115 args h = fin Tryd.prog [.tmp 2] h.length (evCode ⟨Tryd.prog, E, lo, h.length, h115⟩ loopW b115 (args0 args, h)) :=
 ev_body rfl Tryd.func115 rfl Tryd.ntmps115 (by kernel_rfl) rfl c115 rfl rfl rfl ha hb
noncomputable def b116 : Code := bodyOf Tryd.f116
theorem c116 : codeOk Tryd.prog h116 46 b116 = true := by kernel_rfl
/- a method -/
theorem e116 {lo : Nat} {args : List V} {h : Heap} (ha : args.length <= 46) (hb : args.all bare = true) :
  E lo 116 args h = fin Tryd.prog [.cell 2 39, .tmp 3] h.length (evCode ⟨Tryd.prog, E, lo, h.length, h116⟩ loopW b116 (args0 args, h)) :=
 ev_body rfl Tryd.func116 rfl Tryd.ntmps116 (by kernel_rfl) rfl c116 rfl rfl rfl ha hb
noncomputable def b117 : Code := bodyOf Tryd.f117
noncomputable def l117x0 : Code := loopAt b117 0
theorem c117 : codeOk Tryd.prog h117 45 b117 = true := by kernel_rfl
/- a method -/
theorem e117 {lo : Nat} {args : List V} {h : Heap} (ha : args.length <= 45) (hb : args.all bare = true) :
  E lo 117 args h = fin Tryd.prog [.tmp 1] h.length (evCode ⟨Tryd.prog, E, lo, h.length, h117⟩ loopW b117 (args0 args, h)) :=
 ev_body rfl Tryd.func117 rfl Tryd.ntmps117 (by kernel_rfl) rfl c117 rfl rfl rfl ha hb
noncomputable def b118 : Code := bodyOf Tryd.f118
theorem c118 : codeOk Tryd.prog h118 9 b118 = true := by kernel_rfl
theorem e118 {lo : Nat} {args : List V} {h : Heap} (ha : args.length <= 9) (hb : args.all bare = true) :
  E lo 118 args h = fin Tryd.prog [.tmp 2] h.length (evCode ⟨Tryd.prog, E, lo, h.length, h118⟩ loopW b118 (args0 args, h)) :=
 ev_body rfl Tryd.func118 rfl Tryd.ntmps118 (by kernel_rfl) rfl c118 rfl rfl rfl ha hb
end Go.Lift.T2
