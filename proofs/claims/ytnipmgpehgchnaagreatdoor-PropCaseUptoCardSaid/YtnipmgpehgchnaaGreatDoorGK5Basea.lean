/- Facts of the program that the evaluation asks for: the live slots of each function, its types. Written by a program (gen.py). -/
import Derived.Test.YtnipmgpehgchnaaGreatDoorRows
import Derived.Lib.TrimAscii
import Derived.Shelf.Strings.Fields
import Derived.Test.YtnipmgpehgchnaaGreatDoorGLd
import Derived.Test.YtnipmgpehgchnaaGreatDoorGKa
set_option linter.unusedVariables false
set_option linter.unusedSimpArgs false
set_option linter.unusedSectionVars false
set_option maxRecDepth 20000
namespace Go.Lift.V1
open Go.Proofs
instance gtab : GTab := ⟨fun n => match n with | 0 => some ((List.range 256).map fun c => V.v (.int .u8 (if Go.Lib.isSp (UInt8.ofNat c) then 1 else 0))) | 2 => some [.v (.int .i64 21), .v (.int .i64 22), .v (.int .i64 19), .v (.int .i64 20), .v (.int .i64 23), .v (.int .i64 24), .v (.int .i64 18), .v (.int .i64 16), .v (.int .i64 17)] | _ => none⟩
noncomputable def fieldsP (lo : Nat) (args : List V) (h : Heap) : Option (V × Heap) := match args with
 | [.v (.string s)] => if s.size < 4294967281 /\ (s.data.toList.all fun b => decide (b.toNat < 128)) = true then some (.list .no ((Go.Lib.fields s.data.toList).map fun l => [.v (.string ⟨l.toArray⟩)]), h) else none
 | _ => none
noncomputable def primz0 : Nat -> Option (Nat -> List V -> Heap -> Option (V × Heap)) := fun n => match n with | 29 => some fieldsP | _ => none
def awkM : List (List V × V) := [([], .v (.bool true))]
def useT : V := .v (.string ⟨#[102, 40, 86, 65, 82, 40, 45, 45, 97, 41, 41]⟩)
def useV : V := .list .no [[.v (.int .i64 2), .v (.string ⟨#[102]⟩), .v (.int .i64 0), .v (.int .i64 0), .v (.bool false), .v (.bool false), .list .no [[.v (.int .i64 2), .v (.string ⟨#[86, 65, 82]⟩), .v (.int .i64 0), .v (.int .i64 0), .v (.bool false), .v (.bool false), .list .no [[.v (.int .i64 1), .v (.string ⟨#[45, 45, 97]⟩), .v (.int .i64 0), .v (.int .i64 0), .v (.bool false), .v (.bool false), .list .no []]]]]]]
def ofM : List (List V × V) := [([useT], useV)]
noncomputable def primz : Nat -> Option (Nat -> List V -> Heap -> Option (V × Heap)) := fun n => match n with | 9 => some (memo ofM) | 10 => some (memo awkM) | 29 => some fieldsP | _ => none
instance bty : BTy := ⟨[], some 5⟩
@[go_sem] theorem bt_eq : BTy.bt = [] := rfl
@[go_sem] theorem bt_is : (BTy.bt.isEmpty) = true := rfl
@[go_sem] theorem bt_n (n : Nat) : btOf n = none := rfl
@[go_sem] theorem bb_eq : BTy.bb = some 5 := rfl
@[go_sem] theorem bb_self : ((5 : TypeId) == 5) = true := rfl
attribute [go_sem] Tryz.underlying2
@[go_sem] theorem z2 : tsize Tryz.prog 2 = 1 := by kernel_rfl
@[go_sem] theorem k2 : ttag Tryz.prog 2 = some false := by kernel_rfl
@[go_sem] theorem y2 : Tryz.prog.bytesOf 2 = 8 := by kernel_rfl
@[go_sem] theorem s2 : isStr Tryz.prog 2 = false := by kernel_rfl
@[go_sem] theorem j2 : isI32 Tryz.prog 2 = false := by kernel_rfl
@[go_sem] theorem w2 : isU8 Tryz.prog 2 = false := by kernel_rfl
@[go_sem] theorem o2 : tzero Tryz.prog 2 = some [.int .i64 0] := by kernel_rfl
@[go_sem] theorem i2 : (Tryz.prog.info? 2).isSome = true := by kernel_rfl
attribute [go_sem] Tryz.underlying3
@[go_sem] theorem z3 : tsize Tryz.prog 3 = 1 := by kernel_rfl
@[go_sem] theorem k3 : ttag Tryz.prog 3 = some false := by kernel_rfl
@[go_sem] theorem y3 : Tryz.prog.bytesOf 3 = 8 := by kernel_rfl
@[go_sem] theorem s3 : isStr Tryz.prog 3 = false := by kernel_rfl
@[go_sem] theorem j3 : isI32 Tryz.prog 3 = false := by kernel_rfl
@[go_sem] theorem w3 : isU8 Tryz.prog 3 = false := by kernel_rfl
@[go_sem] theorem o3 : tzero Tryz.prog 3 = some [.int .i64 0] := by kernel_rfl
@[go_sem] theorem i3 : (Tryz.prog.info? 3).isSome = true := by kernel_rfl
attribute [go_sem] Tryz.underlying4
@[go_sem] theorem z4 : tsize Tryz.prog 4 = 1 := by kernel_rfl
@[go_sem] theorem k4 : ttag Tryz.prog 4 = some false := by kernel_rfl
@[go_sem] theorem y4 : Tryz.prog.bytesOf 4 = 1 := by kernel_rfl
@[go_sem] theorem s4 : isStr Tryz.prog 4 = false := by kernel_rfl
@[go_sem] theorem j4 : isI32 Tryz.prog 4 = false := by kernel_rfl
@[go_sem] theorem w4 : isU8 Tryz.prog 4 = false := by kernel_rfl
@[go_sem] theorem o4 : tzero Tryz.prog 4 = some [.bool false] := by kernel_rfl
@[go_sem] theorem i4 : (Tryz.prog.info? 4).isSome = true := by kernel_rfl
attribute [go_sem] Tryz.underlying5
@[go_sem] theorem z5 : tsize Tryz.prog 5 = 1 := by kernel_rfl
@[go_sem] theorem k5 : ttag Tryz.prog 5 = some false := by kernel_rfl
@[go_sem] theorem y5 : Tryz.prog.bytesOf 5 = 1 := by kernel_rfl
@[go_sem] theorem s5 : isStr Tryz.prog 5 = false := by kernel_rfl
@[go_sem] theorem j5 : isI32 Tryz.prog 5 = false := by kernel_rfl
@[go_sem] theorem w5 : isU8 Tryz.prog 5 = true := by kernel_rfl
@[go_sem] theorem o5 : tzero Tryz.prog 5 = some [.int .u8 0] := by kernel_rfl
@[go_sem] theorem i5 : (Tryz.prog.info? 5).isSome = true := by kernel_rfl
attribute [go_sem] Tryz.underlying9
@[go_sem] theorem z9 : tsize Tryz.prog 9 = 1 := by kernel_rfl
@[go_sem] theorem k9 : ttag Tryz.prog 9 = some false := by kernel_rfl
@[go_sem] theorem y9 : Tryz.prog.bytesOf 9 = 16 := by kernel_rfl
@[go_sem] theorem s9 : isStr Tryz.prog 9 = true := by kernel_rfl
@[go_sem] theorem j9 : isI32 Tryz.prog 9 = false := by kernel_rfl
@[go_sem] theorem w9 : isU8 Tryz.prog 9 = false := by kernel_rfl
@[go_sem] theorem o9 : tzero Tryz.prog 9 = some [.string ByteArray.empty] := by kernel_rfl
@[go_sem] theorem i9 : (Tryz.prog.info? 9).isSome = true := by kernel_rfl
attribute [go_sem] Tryz.underlying21
@[go_sem] theorem z21 : tsize Tryz.prog 21 = 1 := by kernel_rfl
@[go_sem] theorem k21 : ttag Tryz.prog 21 = some false := by kernel_rfl
@[go_sem] theorem y21 : Tryz.prog.bytesOf 21 = 4 := by kernel_rfl
@[go_sem] theorem s21 : isStr Tryz.prog 21 = false := by kernel_rfl
@[go_sem] theorem j21 : isI32 Tryz.prog 21 = true := by kernel_rfl
@[go_sem] theorem w21 : isU8 Tryz.prog 21 = false := by kernel_rfl
@[go_sem] theorem o21 : tzero Tryz.prog 21 = some [.int .i32 0] := by kernel_rfl
@[go_sem] theorem i21 : (Tryz.prog.info? 21).isSome = true := by kernel_rfl
attribute [go_sem] Tryz.underlying22
@[go_sem] theorem z22 : tsize Tryz.prog 22 = 1 := by kernel_rfl
@[go_sem] theorem k22 : ttag Tryz.prog 22 = some false := by kernel_rfl
@[go_sem] theorem y22 : Tryz.prog.bytesOf 22 = 24 := by kernel_rfl
@[go_sem] theorem s22 : isStr Tryz.prog 22 = false := by kernel_rfl
@[go_sem] theorem j22 : isI32 Tryz.prog 22 = false := by kernel_rfl
@[go_sem] theorem w22 : isU8 Tryz.prog 22 = false := by kernel_rfl
@[go_sem] theorem o22 : tzero Tryz.prog 22 = some [.slice none 0 0] := by kernel_rfl
@[go_sem] theorem i22 : (Tryz.prog.info? 22).isSome = true := by kernel_rfl
attribute [go_sem] Tryz.underlying26
@[go_sem] theorem z26 : tsize Tryz.prog 26 = 1 := by kernel_rfl
@[go_sem] theorem k26 : ttag Tryz.prog 26 = some false := by kernel_rfl
@[go_sem] theorem y26 : Tryz.prog.bytesOf 26 = 24 := by kernel_rfl
@[go_sem] theorem s26 : isStr Tryz.prog 26 = false := by kernel_rfl
@[go_sem] theorem j26 : isI32 Tryz.prog 26 = false := by kernel_rfl
@[go_sem] theorem w26 : isU8 Tryz.prog 26 = false := by kernel_rfl
@[go_sem] theorem o26 : tzero Tryz.prog 26 = some [.slice none 0 0] := by kernel_rfl
@[go_sem] theorem i26 : (Tryz.prog.info? 26).isSome = true := by kernel_rfl
attribute [go_sem] Tryz.underlying28
@[go_sem] theorem z28 : tsize Tryz.prog 28 = 2 := by kernel_rfl
@[go_sem] theorem k28 : ttag Tryz.prog 28 = some true := by kernel_rfl
@[go_sem] theorem y28 : Tryz.prog.bytesOf 28 = 16 := by kernel_rfl
@[go_sem] theorem s28 : isStr Tryz.prog 28 = false := by kernel_rfl
@[go_sem] theorem j28 : isI32 Tryz.prog 28 = false := by kernel_rfl
@[go_sem] theorem w28 : isU8 Tryz.prog 28 = false := by kernel_rfl
@[go_sem] theorem o28 : tzero Tryz.prog 28 = some [.int .i64 0, .int .i64 0] := by kernel_rfl
@[go_sem] theorem i28 : (Tryz.prog.info? 28).isSome = true := by kernel_rfl
@[go_sem] theorem x28 : structOk Tryz.prog 28 = true := by kernel_rfl
@[go_sem] theorem g28x0 : fieldOff Tryz.prog 28 0 = some (0, 2) := by kernel_rfl
@[go_sem] theorem g28x1 : fieldOff Tryz.prog 28 1 = some (1, 2) := by kernel_rfl
attribute [go_sem] Tryz.underlying30
@[go_sem] theorem z30 : tsize Tryz.prog 30 = 4 := by kernel_rfl
@[go_sem] theorem k30 : ttag Tryz.prog 30 = some true := by kernel_rfl
@[go_sem] theorem y30 : Tryz.prog.bytesOf 30 = 40 := by kernel_rfl
@[go_sem] theorem s30 : isStr Tryz.prog 30 = false := by kernel_rfl
@[go_sem] theorem j30 : isI32 Tryz.prog 30 = false := by kernel_rfl
@[go_sem] theorem w30 : isU8 Tryz.prog 30 = false := by kernel_rfl
@[go_sem] theorem o30 : tzero Tryz.prog 30 = some [.int .i64 0, .int .i64 0, .int .i64 0, .string ByteArray.empty] := by kernel_rfl
@[go_sem] theorem i30 : (Tryz.prog.info? 30).isSome = true := by kernel_rfl
@[go_sem] theorem x30 : structOk Tryz.prog 30 = true := by kernel_rfl
@[go_sem] theorem g30x0 : fieldOff Tryz.prog 30 0 = some (0, 3) := by kernel_rfl
@[go_sem] theorem g30x1 : fieldOff Tryz.prog 30 1 = some (1, 28) := by kernel_rfl
@[go_sem] theorem g30x2 : fieldOff Tryz.prog 30 2 = some (3, 9) := by kernel_rfl
attribute [go_sem] Tryz.underlying32
@[go_sem] theorem z32 : tsize Tryz.prog 32 = 9 := by kernel_rfl
@[go_sem] theorem k32 : ttag Tryz.prog 32 = some true := by kernel_rfl
@[go_sem] theorem y32 : Tryz.prog.bytesOf 32 = 96 := by kernel_rfl
@[go_sem] theorem s32 : isStr Tryz.prog 32 = false := by kernel_rfl
@[go_sem] theorem j32 : isI32 Tryz.prog 32 = false := by kernel_rfl
@[go_sem] theorem w32 : isU8 Tryz.prog 32 = false := by kernel_rfl
@[go_sem] theorem o32 : tzero Tryz.prog 32 = some [.string ByteArray.empty, .int .i64 0, .bool false, .bool false, .slice none 0 0, .int .i64 0, .int .i64 0, .int .i64 0, .string ByteArray.empty] := by kernel_rfl
@[go_sem] theorem i32 : (Tryz.prog.info? 32).isSome = true := by kernel_rfl
@[go_sem] theorem x32 : structOk Tryz.prog 32 = true := by kernel_rfl
@[go_sem] theorem g32x0 : fieldOff Tryz.prog 32 0 = some (0, 9) := by kernel_rfl
@[go_sem] theorem g32x1 : fieldOff Tryz.prog 32 1 = some (1, 3) := by kernel_rfl
@[go_sem] theorem g32x2 : fieldOff Tryz.prog 32 2 = some (2, 4) := by kernel_rfl
@[go_sem] theorem g32x3 : fieldOff Tryz.prog 32 3 = some (3, 4) := by kernel_rfl
@[go_sem] theorem g32x4 : fieldOff Tryz.prog 32 4 = some (4, 26) := by kernel_rfl
@[go_sem] theorem g32x5 : fieldOff Tryz.prog 32 5 = some (5, 30) := by kernel_rfl
attribute [go_sem] Tryz.underlying40
@[go_sem] theorem z40 : tsize Tryz.prog 40 = 1 := by kernel_rfl
@[go_sem] theorem k40 : ttag Tryz.prog 40 = some false := by kernel_rfl
@[go_sem] theorem y40 : Tryz.prog.bytesOf 40 = 24 := by kernel_rfl
@[go_sem] theorem s40 : isStr Tryz.prog 40 = false := by kernel_rfl
@[go_sem] theorem j40 : isI32 Tryz.prog 40 = false := by kernel_rfl
@[go_sem] theorem w40 : isU8 Tryz.prog 40 = false := by kernel_rfl
@[go_sem] theorem o40 : tzero Tryz.prog 40 = some [.slice none 0 0] := by kernel_rfl
@[go_sem] theorem i40 : (Tryz.prog.info? 40).isSome = true := by kernel_rfl
attribute [go_sem] Tryz.underlying42
@[go_sem] theorem z42 : tsize Tryz.prog 42 = 5 := by kernel_rfl
@[go_sem] theorem k42 : ttag Tryz.prog 42 = some true := by kernel_rfl
@[go_sem] theorem y42 : Tryz.prog.bytesOf 42 = 56 := by kernel_rfl
@[go_sem] theorem s42 : isStr Tryz.prog 42 = false := by kernel_rfl
@[go_sem] theorem j42 : isI32 Tryz.prog 42 = false := by kernel_rfl
@[go_sem] theorem w42 : isU8 Tryz.prog 42 = false := by kernel_rfl
@[go_sem] theorem o42 : tzero Tryz.prog 42 = some [.int .i64 0, .int .i64 0, .int .i64 0, .int .i64 0, .slice none 0 0] := by kernel_rfl
@[go_sem] theorem i42 : (Tryz.prog.info? 42).isSome = true := by kernel_rfl
@[go_sem] theorem x42 : structOk Tryz.prog 42 = true := by kernel_rfl
@[go_sem] theorem g42x0 : fieldOff Tryz.prog 42 0 = some (0, 3) := by kernel_rfl
@[go_sem] theorem g42x1 : fieldOff Tryz.prog 42 1 = some (1, 28) := by kernel_rfl
@[go_sem] theorem g42x2 : fieldOff Tryz.prog 42 2 = some (3, 3) := by kernel_rfl
@[go_sem] theorem g42x3 : fieldOff Tryz.prog 42 3 = some (4, 40) := by kernel_rfl
attribute [go_sem] Tryz.underlying43
@[go_sem] theorem z43 : tsize Tryz.prog 43 = 1 := by kernel_rfl
@[go_sem] theorem k43 : ttag Tryz.prog 43 = some false := by kernel_rfl
@[go_sem] theorem y43 : Tryz.prog.bytesOf 43 = 24 := by kernel_rfl
@[go_sem] theorem s43 : isStr Tryz.prog 43 = false := by kernel_rfl
@[go_sem] theorem j43 : isI32 Tryz.prog 43 = false := by kernel_rfl
@[go_sem] theorem w43 : isU8 Tryz.prog 43 = false := by kernel_rfl
@[go_sem] theorem o43 : tzero Tryz.prog 43 = some [.slice none 0 0] := by kernel_rfl
@[go_sem] theorem i43 : (Tryz.prog.info? 43).isSome = true := by kernel_rfl
attribute [go_sem] Tryz.underlying45
@[go_sem] theorem z45 : tsize Tryz.prog 45 = 8 := by kernel_rfl
@[go_sem] theorem k45 : ttag Tryz.prog 45 = some true := by kernel_rfl
@[go_sem] theorem y45 : Tryz.prog.bytesOf 45 = 104 := by kernel_rfl
@[go_sem] theorem s45 : isStr Tryz.prog 45 = false := by kernel_rfl
@[go_sem] theorem j45 : isI32 Tryz.prog 45 = false := by kernel_rfl
@[go_sem] theorem w45 : isU8 Tryz.prog 45 = false := by kernel_rfl
@[go_sem] theorem o45 : tzero Tryz.prog 45 = some [.int .i64 0, .int .i64 0, .int .i64 0, .int .i64 0, .int .i64 0, .slice none 0 0, .string ByteArray.empty, .slice none 0 0] := by kernel_rfl
@[go_sem] theorem i45 : (Tryz.prog.info? 45).isSome = true := by kernel_rfl
@[go_sem] theorem x45 : structOk Tryz.prog 45 = true := by kernel_rfl
@[go_sem] theorem g45x0 : fieldOff Tryz.prog 45 0 = some (0, 3) := by kernel_rfl
@[go_sem] theorem g45x1 : fieldOff Tryz.prog 45 1 = some (1, 42) := by kernel_rfl
@[go_sem] theorem g45x2 : fieldOff Tryz.prog 45 2 = some (6, 9) := by kernel_rfl
@[go_sem] theorem g45x3 : fieldOff Tryz.prog 45 3 = some (7, 43) := by kernel_rfl
attribute [go_sem] Tryz.underlying46
@[go_sem] theorem z46 : tsize Tryz.prog 46 = 1 := by kernel_rfl
@[go_sem] theorem k46 : ttag Tryz.prog 46 = some false := by kernel_rfl
@[go_sem] theorem y46 : Tryz.prog.bytesOf 46 = 8 := by kernel_rfl
@[go_sem] theorem s46 : isStr Tryz.prog 46 = false := by kernel_rfl
@[go_sem] theorem j46 : isI32 Tryz.prog 46 = false := by kernel_rfl
@[go_sem] theorem w46 : isU8 Tryz.prog 46 = false := by kernel_rfl
@[go_sem] theorem o46 : tzero Tryz.prog 46 = some [.int .i64 0] := by kernel_rfl
@[go_sem] theorem i46 : (Tryz.prog.info? 46).isSome = true := by kernel_rfl
attribute [go_sem] Tryz.underlying55
@[go_sem] theorem z55 : tsize Tryz.prog 55 = 6 := by kernel_rfl
@[go_sem] theorem k55 : ttag Tryz.prog 55 = some true := by kernel_rfl
@[go_sem] theorem y55 : Tryz.prog.bytesOf 55 = 48 := by kernel_rfl
@[go_sem] theorem s55 : isStr Tryz.prog 55 = false := by kernel_rfl
@[go_sem] theorem j55 : isI32 Tryz.prog 55 = false := by kernel_rfl
@[go_sem] theorem w55 : isU8 Tryz.prog 55 = false := by kernel_rfl
@[go_sem] theorem o55 : tzero Tryz.prog 55 = some [.int .i64 0, .string ByteArray.empty, .int .i64 0, .int .i64 0, .bool false, .bool false] := by kernel_rfl
@[go_sem] theorem i55 : (Tryz.prog.info? 55).isSome = true := by kernel_rfl
@[go_sem] theorem x55 : structOk Tryz.prog 55 = true := by kernel_rfl
@[go_sem] theorem g55x0 : fieldOff Tryz.prog 55 0 = some (0, 3) := by kernel_rfl
@[go_sem] theorem g55x1 : fieldOff Tryz.prog 55 1 = some (1, 9) := by kernel_rfl
@[go_sem] theorem g55x2 : fieldOff Tryz.prog 55 2 = some (2, 28) := by kernel_rfl
@[go_sem] theorem g55x3 : fieldOff Tryz.prog 55 3 = some (4, 4) := by kernel_rfl
@[go_sem] theorem g55x4 : fieldOff Tryz.prog 55 4 = some (5, 4) := by kernel_rfl
attribute [go_sem] Tryz.underlying57
@[go_sem] theorem z57 : tsize Tryz.prog 57 = 7 := by kernel_rfl
@[go_sem] theorem k57 : ttag Tryz.prog 57 = some true := by kernel_rfl
@[go_sem] theorem y57 : Tryz.prog.bytesOf 57 = 72 := by kernel_rfl
@[go_sem] theorem s57 : isStr Tryz.prog 57 = false := by kernel_rfl
@[go_sem] theorem j57 : isI32 Tryz.prog 57 = false := by kernel_rfl
@[go_sem] theorem w57 : isU8 Tryz.prog 57 = false := by kernel_rfl
@[go_sem] theorem o57 : tzero Tryz.prog 57 = some [.int .i64 0, .string ByteArray.empty, .int .i64 0, .int .i64 0, .bool false, .bool false, .slice none 0 0] := by kernel_rfl
@[go_sem] theorem i57 : (Tryz.prog.info? 57).isSome = true := by kernel_rfl
@[go_sem] theorem x57 : structOk Tryz.prog 57 = true := by kernel_rfl
@[go_sem] theorem g57x0 : fieldOff Tryz.prog 57 0 = some (0, 55) := by kernel_rfl
@[go_sem] theorem g57x1 : fieldOff Tryz.prog 57 1 = some (6, 22) := by kernel_rfl
attribute [go_sem] Tryz.underlying58
@[go_sem] theorem z58 : tsize Tryz.prog 58 = 1 := by kernel_rfl
@[go_sem] theorem k58 : ttag Tryz.prog 58 = some false := by kernel_rfl
@[go_sem] theorem y58 : Tryz.prog.bytesOf 58 = 8 := by kernel_rfl
@[go_sem] theorem s58 : isStr Tryz.prog 58 = false := by kernel_rfl
@[go_sem] theorem j58 : isI32 Tryz.prog 58 = false := by kernel_rfl
@[go_sem] theorem w58 : isU8 Tryz.prog 58 = false := by kernel_rfl
@[go_sem] theorem i58 : (Tryz.prog.info? 58).isSome = true := by kernel_rfl
attribute [go_sem] Tryz.underlying63
@[go_sem] theorem z63 : tsize Tryz.prog 63 = 1 := by kernel_rfl
@[go_sem] theorem k63 : ttag Tryz.prog 63 = some false := by kernel_rfl
@[go_sem] theorem y63 : Tryz.prog.bytesOf 63 = 24 := by kernel_rfl
@[go_sem] theorem s63 : isStr Tryz.prog 63 = false := by kernel_rfl
@[go_sem] theorem j63 : isI32 Tryz.prog 63 = false := by kernel_rfl
@[go_sem] theorem w63 : isU8 Tryz.prog 63 = false := by kernel_rfl
@[go_sem] theorem o63 : tzero Tryz.prog 63 = some [.slice none 0 0] := by kernel_rfl
@[go_sem] theorem i63 : (Tryz.prog.info? 63).isSome = true := by kernel_rfl
attribute [go_sem] Tryz.underlying67
@[go_sem] theorem z67 : tsize Tryz.prog 67 = 8 := by kernel_rfl
@[go_sem] theorem k67 : ttag Tryz.prog 67 = some true := by kernel_rfl
@[go_sem] theorem y67 : Tryz.prog.bytesOf 67 = 80 := by kernel_rfl
@[go_sem] theorem s67 : isStr Tryz.prog 67 = false := by kernel_rfl
@[go_sem] theorem j67 : isI32 Tryz.prog 67 = false := by kernel_rfl
@[go_sem] theorem w67 : isU8 Tryz.prog 67 = false := by kernel_rfl
@[go_sem] theorem o67 : tzero Tryz.prog 67 = some [.string ByteArray.empty, .int .i64 0, .bool false, .bool false, .string ByteArray.empty, .string ByteArray.empty, .int .i64 0, .int .i64 0] := by kernel_rfl
@[go_sem] theorem i67 : (Tryz.prog.info? 67).isSome = true := by kernel_rfl
@[go_sem] theorem x67 : structOk Tryz.prog 67 = true := by kernel_rfl
@[go_sem] theorem g67x0 : fieldOff Tryz.prog 67 0 = some (0, 9) := by kernel_rfl
@[go_sem] theorem g67x1 : fieldOff Tryz.prog 67 1 = some (1, 3) := by kernel_rfl
@[go_sem] theorem g67x2 : fieldOff Tryz.prog 67 2 = some (2, 4) := by kernel_rfl
@[go_sem] theorem g67x3 : fieldOff Tryz.prog 67 3 = some (3, 4) := by kernel_rfl
@[go_sem] theorem g67x4 : fieldOff Tryz.prog 67 4 = some (4, 9) := by kernel_rfl
@[go_sem] theorem g67x5 : fieldOff Tryz.prog 67 5 = some (5, 9) := by kernel_rfl
@[go_sem] theorem g67x6 : fieldOff Tryz.prog 67 6 = some (6, 2) := by kernel_rfl
@[go_sem] theorem g67x7 : fieldOff Tryz.prog 67 7 = some (7, 2) := by kernel_rfl
attribute [go_sem] Tryz.underlying68
@[go_sem] theorem z68 : tsize Tryz.prog 68 = 1 := by kernel_rfl
@[go_sem] theorem k68 : ttag Tryz.prog 68 = some false := by kernel_rfl
@[go_sem] theorem y68 : Tryz.prog.bytesOf 68 = 24 := by kernel_rfl
@[go_sem] theorem s68 : isStr Tryz.prog 68 = false := by kernel_rfl
@[go_sem] theorem j68 : isI32 Tryz.prog 68 = false := by kernel_rfl
@[go_sem] theorem w68 : isU8 Tryz.prog 68 = false := by kernel_rfl
@[go_sem] theorem o68 : tzero Tryz.prog 68 = some [.slice none 0 0] := by kernel_rfl
@[go_sem] theorem i68 : (Tryz.prog.info? 68).isSome = true := by kernel_rfl
attribute [go_sem] Tryz.underlying72
@[go_sem] theorem z72 : tsize Tryz.prog 72 = 1 := by kernel_rfl
@[go_sem] theorem k72 : ttag Tryz.prog 72 = some false := by kernel_rfl
@[go_sem] theorem y72 : Tryz.prog.bytesOf 72 = 8 := by kernel_rfl
@[go_sem] theorem s72 : isStr Tryz.prog 72 = false := by kernel_rfl
@[go_sem] theorem j72 : isI32 Tryz.prog 72 = false := by kernel_rfl
@[go_sem] theorem w72 : isU8 Tryz.prog 72 = false := by kernel_rfl
@[go_sem] theorem i72 : (Tryz.prog.info? 72).isSome = true := by kernel_rfl
attribute [go_sem] Tryz.underlying88
@[go_sem] theorem z88 : tsize Tryz.prog 88 = 7 := by kernel_rfl
@[go_sem] theorem k88 : ttag Tryz.prog 88 = some true := by kernel_rfl
@[go_sem] theorem y88 : Tryz.prog.bytesOf 88 = 72 := by kernel_rfl
@[go_sem] theorem s88 : isStr Tryz.prog 88 = false := by kernel_rfl
@[go_sem] theorem j88 : isI32 Tryz.prog 88 = false := by kernel_rfl
@[go_sem] theorem w88 : isU8 Tryz.prog 88 = false := by kernel_rfl
@[go_sem] theorem o88 : tzero Tryz.prog 88 = some [.int .i64 0, .string ByteArray.empty, .int .i64 0, .int .i64 0, .bool false, .bool false, .slice none 0 0] := by kernel_rfl
@[go_sem] theorem i88 : (Tryz.prog.info? 88).isSome = true := by kernel_rfl
@[go_sem] theorem x88 : structOk Tryz.prog 88 = true := by kernel_rfl
@[go_sem] theorem g88x0 : fieldOff Tryz.prog 88 0 = some (0, 55) := by kernel_rfl
@[go_sem] theorem g88x1 : fieldOff Tryz.prog 88 1 = some (6, 22) := by kernel_rfl
attribute [go_sem] Tryz.underlying89
@[go_sem] theorem z89 : tsize Tryz.prog 89 = 1 := by kernel_rfl
@[go_sem] theorem k89 : ttag Tryz.prog 89 = some false := by kernel_rfl
@[go_sem] theorem y89 : Tryz.prog.bytesOf 89 = 24 := by kernel_rfl
@[go_sem] theorem s89 : isStr Tryz.prog 89 = false := by kernel_rfl
@[go_sem] theorem j89 : isI32 Tryz.prog 89 = false := by kernel_rfl
@[go_sem] theorem w89 : isU8 Tryz.prog 89 = false := by kernel_rfl
@[go_sem] theorem o89 : tzero Tryz.prog 89 = some [.slice none 0 0] := by kernel_rfl
@[go_sem] theorem i89 : (Tryz.prog.info? 89).isSome = true := by kernel_rfl
attribute [go_sem] Tryz.underlying93
@[go_sem] theorem z93 : tsize Tryz.prog 93 = 1 := by kernel_rfl
@[go_sem] theorem k93 : ttag Tryz.prog 93 = some false := by kernel_rfl
@[go_sem] theorem y93 : Tryz.prog.bytesOf 93 = 24 := by kernel_rfl
@[go_sem] theorem s93 : isStr Tryz.prog 93 = false := by kernel_rfl
@[go_sem] theorem j93 : isI32 Tryz.prog 93 = false := by kernel_rfl
@[go_sem] theorem w93 : isU8 Tryz.prog 93 = false := by kernel_rfl
@[go_sem] theorem o93 : tzero Tryz.prog 93 = some [.slice none 0 0] := by kernel_rfl
@[go_sem] theorem i93 : (Tryz.prog.info? 93).isSome = true := by kernel_rfl
attribute [go_sem] Tryz.underlying103
@[go_sem] theorem z103 : tsize Tryz.prog 103 = 2 := by kernel_rfl
@[go_sem] theorem k103 : ttag Tryz.prog 103 = some true := by kernel_rfl
@[go_sem] theorem y103 : Tryz.prog.bytesOf 103 = 32 := by kernel_rfl
@[go_sem] theorem s103 : isStr Tryz.prog 103 = false := by kernel_rfl
@[go_sem] theorem j103 : isI32 Tryz.prog 103 = false := by kernel_rfl
@[go_sem] theorem w103 : isU8 Tryz.prog 103 = false := by kernel_rfl
@[go_sem] theorem o103 : tzero Tryz.prog 103 = some [.slice none 0 0, .int .i64 0] := by kernel_rfl
@[go_sem] theorem i103 : (Tryz.prog.info? 103).isSome = true := by kernel_rfl
@[go_sem] theorem x103 : structOk Tryz.prog 103 = true := by kernel_rfl
@[go_sem] theorem g103x0 : fieldOff Tryz.prog 103 0 = some (0, 22) := by kernel_rfl
@[go_sem] theorem g103x1 : fieldOff Tryz.prog 103 1 = some (1, 3) := by kernel_rfl
attribute [go_sem] Tryz.underlying104
@[go_sem] theorem z104 : tsize Tryz.prog 104 = 1 := by kernel_rfl
@[go_sem] theorem k104 : ttag Tryz.prog 104 = some false := by kernel_rfl
@[go_sem] theorem y104 : Tryz.prog.bytesOf 104 = 24 := by kernel_rfl
@[go_sem] theorem s104 : isStr Tryz.prog 104 = false := by kernel_rfl
@[go_sem] theorem j104 : isI32 Tryz.prog 104 = false := by kernel_rfl
@[go_sem] theorem w104 : isU8 Tryz.prog 104 = false := by kernel_rfl
@[go_sem] theorem o104 : tzero Tryz.prog 104 = some [.slice none 0 0] := by kernel_rfl
@[go_sem] theorem i104 : (Tryz.prog.info? 104).isSome = true := by kernel_rfl
attribute [go_sem] Tryz.underlying111
@[go_sem] theorem z111 : tsize Tryz.prog 111 = 1 := by kernel_rfl
@[go_sem] theorem k111 : ttag Tryz.prog 111 = some false := by kernel_rfl
@[go_sem] theorem y111 : Tryz.prog.bytesOf 111 = 8 := by kernel_rfl
@[go_sem] theorem s111 : isStr Tryz.prog 111 = false := by kernel_rfl
@[go_sem] theorem j111 : isI32 Tryz.prog 111 = false := by kernel_rfl
@[go_sem] theorem w111 : isU8 Tryz.prog 111 = false := by kernel_rfl
@[go_sem] theorem i111 : (Tryz.prog.info? 111).isSome = true := by kernel_rfl
attribute [go_sem] Tryz.underlying113
@[go_sem] theorem z113 : tsize Tryz.prog 113 = 2 := by kernel_rfl
@[go_sem] theorem k113 : ttag Tryz.prog 113 = some true := by kernel_rfl
@[go_sem] theorem y113 : Tryz.prog.bytesOf 113 = 32 := by kernel_rfl
@[go_sem] theorem s113 : isStr Tryz.prog 113 = false := by kernel_rfl
@[go_sem] theorem j113 : isI32 Tryz.prog 113 = false := by kernel_rfl
@[go_sem] theorem w113 : isU8 Tryz.prog 113 = false := by kernel_rfl
@[go_sem] theorem o113 : tzero Tryz.prog 113 = some [.slice none 0 0, .int .i64 0] := by kernel_rfl
@[go_sem] theorem i113 : (Tryz.prog.info? 113).isSome = true := by kernel_rfl
@[go_sem] theorem x113 : structOk Tryz.prog 113 = true := by kernel_rfl
@[go_sem] theorem g113x0 : fieldOff Tryz.prog 113 0 = some (0, 93) := by kernel_rfl
@[go_sem] theorem g113x1 : fieldOff Tryz.prog 113 1 = some (1, 3) := by kernel_rfl
attribute [go_sem] Tryz.underlying127
@[go_sem] theorem z127 : tsize Tryz.prog 127 = 9 := by kernel_rfl
@[go_sem] theorem k127 : ttag Tryz.prog 127 = some true := by kernel_rfl
@[go_sem] theorem y127 : Tryz.prog.bytesOf 127 = 72 := by kernel_rfl
@[go_sem] theorem s127 : isStr Tryz.prog 127 = false := by kernel_rfl
@[go_sem] theorem j127 : isI32 Tryz.prog 127 = false := by kernel_rfl
@[go_sem] theorem w127 : isU8 Tryz.prog 127 = false := by kernel_rfl
@[go_sem] theorem o127 : tzero Tryz.prog 127 = some [.int .i64 0, .int .i64 0, .int .i64 0, .int .i64 0, .int .i64 0, .int .i64 0, .int .i64 0, .int .i64 0, .int .i64 0] := by kernel_rfl
@[go_sem] theorem i127 : (Tryz.prog.info? 127).isSome = true := by kernel_rfl
attribute [go_sem] Tryz.underlying136
@[go_sem] theorem z136 : tsize Tryz.prog 136 = 1 := by kernel_rfl
@[go_sem] theorem k136 : ttag Tryz.prog 136 = some false := by kernel_rfl
@[go_sem] theorem y136 : Tryz.prog.bytesOf 136 = 8 := by kernel_rfl
@[go_sem] theorem s136 : isStr Tryz.prog 136 = false := by kernel_rfl
@[go_sem] theorem j136 : isI32 Tryz.prog 136 = false := by kernel_rfl
@[go_sem] theorem w136 : isU8 Tryz.prog 136 = false := by kernel_rfl
@[go_sem] theorem o136 : tzero Tryz.prog 136 = some [.int .u64 0] := by kernel_rfl
@[go_sem] theorem i136 : (Tryz.prog.info? 136).isSome = true := by kernel_rfl
attribute [go_sem] Tryz.underlying153
@[go_sem] theorem z153 : tsize Tryz.prog 153 = 1 := by kernel_rfl
@[go_sem] theorem k153 : ttag Tryz.prog 153 = some false := by kernel_rfl
@[go_sem] theorem y153 : Tryz.prog.bytesOf 153 = 24 := by kernel_rfl
@[go_sem] theorem s153 : isStr Tryz.prog 153 = false := by kernel_rfl
@[go_sem] theorem j153 : isI32 Tryz.prog 153 = false := by kernel_rfl
@[go_sem] theorem w153 : isU8 Tryz.prog 153 = false := by kernel_rfl
@[go_sem] theorem o153 : tzero Tryz.prog 153 = some [.slice none 0 0] := by kernel_rfl
@[go_sem] theorem i153 : (Tryz.prog.info? 153).isSome = true := by kernel_rfl
attribute [go_sem] Tryz.underlying162
@[go_sem] theorem z162 : tsize Tryz.prog 162 = 1 := by kernel_rfl
@[go_sem] theorem k162 : ttag Tryz.prog 162 = some false := by kernel_rfl
@[go_sem] theorem y162 : Tryz.prog.bytesOf 162 = 8 := by kernel_rfl
@[go_sem] theorem s162 : isStr Tryz.prog 162 = false := by kernel_rfl
@[go_sem] theorem j162 : isI32 Tryz.prog 162 = false := by kernel_rfl
@[go_sem] theorem w162 : isU8 Tryz.prog 162 = false := by kernel_rfl
@[go_sem] theorem o162 : tzero Tryz.prog 162 = some [.int .u64 0] := by kernel_rfl
@[go_sem] theorem i162 : (Tryz.prog.info? 162).isSome = true := by kernel_rfl
attribute [go_sem] Tryz.underlying170
@[go_sem] theorem z170 : tsize Tryz.prog 170 = 1 := by kernel_rfl
@[go_sem] theorem k170 : ttag Tryz.prog 170 = some false := by kernel_rfl
@[go_sem] theorem y170 : Tryz.prog.bytesOf 170 = 8 := by kernel_rfl
@[go_sem] theorem s170 : isStr Tryz.prog 170 = false := by kernel_rfl
@[go_sem] theorem j170 : isI32 Tryz.prog 170 = false := by kernel_rfl
@[go_sem] theorem w170 : isU8 Tryz.prog 170 = false := by kernel_rfl
@[go_sem] theorem i170 : (Tryz.prog.info? 170).isSome = true := by kernel_rfl
attribute [go_sem] Tryz.underlying172
@[go_sem] theorem z172 : tsize Tryz.prog 172 = 2 := by kernel_rfl
@[go_sem] theorem k172 : ttag Tryz.prog 172 = some true := by kernel_rfl
@[go_sem] theorem y172 : Tryz.prog.bytesOf 172 = 32 := by kernel_rfl
@[go_sem] theorem s172 : isStr Tryz.prog 172 = false := by kernel_rfl
@[go_sem] theorem j172 : isI32 Tryz.prog 172 = false := by kernel_rfl
@[go_sem] theorem w172 : isU8 Tryz.prog 172 = false := by kernel_rfl
@[go_sem] theorem o172 : tzero Tryz.prog 172 = some [.slice none 0 0, .int .i64 0] := by kernel_rfl
@[go_sem] theorem i172 : (Tryz.prog.info? 172).isSome = true := by kernel_rfl
@[go_sem] theorem x172 : structOk Tryz.prog 172 = true := by kernel_rfl
@[go_sem] theorem g172x0 : fieldOff Tryz.prog 172 0 = some (0, 22) := by kernel_rfl
@[go_sem] theorem g172x1 : fieldOff Tryz.prog 172 1 = some (1, 3) := by kernel_rfl
def HQ (a : Nat -> Option (List Nat)) : Hint := ⟨a, (fun _ => none), (fun _ => none), [], false, (fun _ => none), fun _ => 0, 0, false, (fun _ => none)⟩
@[go_sem] theorem HQe (a : Nat -> Option (List Nat)) : (HQ a).late = (fun _ => none) := rfl
@[go_sem] theorem HQx (a : Nat -> Option (List Nat)) : (HQ a).mix = (fun _ => none) := rfl
@[go_sem] theorem HQl (a : Nat -> Option (List Nat)) : (HQ a).live = a := rfl
@[go_sem] theorem HQo (a : Nat -> Option (List Nat)) : (HQ a).mode = fun _ => 0 := rfl
@[go_sem] theorem HQk (a : Nat -> Option (List Nat)) : (HQ a).keep = (fun _ => none) := rfl
@[go_sem] theorem HQt (a : Nat -> Option (List Nat)) : (HQ a).tail = (fun _ => none) := rfl
@[go_sem] theorem HQv (a : Nat -> Option (List Nat)) : (HQ a).vars = [] := rfl
@[go_sem] theorem HQm (a : Nat -> Option (List Nat)) : (HQ a).mutc = false := rfl
@[go_sem] def h5a : Nat -> Option (List Nat) := (fun id => match id with | 0 => some [0, 1] | 1 => some [0, 1, 14] | 2 => some [4] | 3 => some [0, 1, 5, 6] | 4 => some [5, 6, 7, 8] | 5 => some [4] | _ => none)
abbrev h5 : Hint := HQ h5a
@[go_sem] def h7a : Nat -> Option (List Nat) := (fun id => match id with | 0 => some [0] | 1 => some [2] | _ => none)
abbrev h7 : Hint := HQ h7a
@[go_sem] def h9a : Nat -> Option (List Nat) := (fun id => match id with | 0 => some [0] | 1 => some [2] | _ => none)
abbrev h9 : Hint := HQ h9a
@[go_sem] def h10a : Nat -> Option (List Nat) := (fun id => match id with | 0 => some [] | 1 => some [1, 2] | 2 => some [0] | _ => none)
abbrev h10 : Hint := HQ h10a
@[go_sem] def h12a : Nat -> Option (List Nat) := (fun id => match id with | 0 => some [0, 2] | 1 => some [2, 4] | 2 => some [2, 4, 10] | 3 => some [2, 3] | 4 => some [2, 5] | 5 => some [2, 5, 6] | 6 => some [2, 6] | 7 => some [2, 5, 6, 35] | 8 => some [2, 6] | 9 => some [2, 5, 6, 43] | 10 => some [2, 6] | 11 => some [2, 3] | _ => none)
@[go_sem] def h12M : Nat -> Option Mix := (fun id => match id with | 5 => some ⟨[0, 1, 2, 3, 4, 5, 6, 7, 8, 9, 10, 11], [], .head 0 (.head 1 (.head 2 (.head 3 (.head 4 (.head 5 (.head 6 (.head 7 (.head 8 (.head 9 (.alt (.one 10 (.head 11 (.one 12 (.one 13 (.fin))))) (.one 12 (.head 10 (.head 11 (.one 13 (.fin)))))))))))))))⟩ | _ => none)
def h12 : Hint := ⟨h12a, (fun _ => none), (fun id => match id with | 5 => some 12 | _ => none), [], false, h12M, fun _ => 0, 0, false, (fun _ => none)⟩
@[go_sem] theorem h12e : h12.late = (fun _ => none) := rfl
@[go_sem] theorem h12x : h12.mix = h12M := rfl
@[go_sem] theorem h12l : h12.live = h12a := rfl
@[go_sem] theorem h12o : h12.mode = fun _ => 0 := rfl
@[go_sem] theorem h12k : h12.keep = (fun _ => none) := rfl
@[go_sem] theorem h12t : h12.tail = (fun id => match id with | 5 => some 12 | _ => none) := rfl
@[go_sem] theorem h12v : h12.vars = [] := rfl
@[go_sem] theorem h12m : h12.mutc = false := rfl
@[go_sem] def h13a : Nat -> Option (List Nat) := (fun id => match id with | 0 => some [0] | 1 => some [3, 4] | 2 => some [3, 12] | 3 => some [2] | 4 => some [2] | _ => none)
abbrev h13 : Hint := HQ h13a
@[go_sem] def h15a : Nat -> Option (List Nat) := (fun id => match id with | 0 => some [0] | 1 => some [0, 5] | 2 => some [0, 5, 6, 7] | 3 => some [0, 3, 5] | 4 => some [0, 5, 10] | 5 => some [2] | 6 => some [2] | _ => none)
abbrev h15 : Hint := HQ h15a
@[go_sem] def h17a : Nat -> Option (List Nat) := (fun id => match id with | 0 => some [0, 1, 4] | 1 => some [0, 1, 4, 6, 7] | 2 => some [1, 4, 6, 7, 14] | 3 => some [4, 5] | 4 => some [1, 4, 6, 7, 23] | 5 => some [4, 5] | 6 => some [1, 4, 6, 7, 28] | 7 => some [4, 5] | 8 => some [1, 4, 6, 7] | 9 => some [1, 4, 6, 7, 8] | 10 => some [1, 4, 6, 7, 8, 45] | 11 => some [1, 4, 6, 7, 8, 45] | 12 => some [1, 4, 6, 7, 8, 52] | 13 => some [4, 5] | 14 => some [1, 4, 6, 8, 65] | 15 => some [4, 5] | 16 => some [1, 4, 6, 8, 75] | 17 => some [4, 5] | 18 => some [4, 5] | _ => none)
abbrev h17 : Hint := HQ h17a
@[go_sem] def h18a : Nat -> Option (List Nat) := (fun id => match id with | 0 => some [0, 1] | 1 => some [0, 1, 13] | 2 => some [4] | 3 => some [0, 1, 5] | 4 => some [1, 5, 15, 16, 17] | 5 => some [1, 5, 15, 16, 17, 18] | 6 => some [1, 5, 7, 15, 16, 17] | 7 => some [1, 5, 7, 8, 15, 16, 17] | 8 => some [1, 5, 7, 15, 16, 17, 33] | 9 => some [1, 5, 7, 9, 15, 16, 17] | 10 => some [1, 5, 7, 9, 15, 16, 17, 38, 39, 40] | 11 => some [1, 5, 7, 9, 15, 16, 17, 38, 39, 40, 41] | 12 => some [1, 5, 7, 9, 10, 11, 15, 16, 17, 38, 39, 40] | 13 => some [1, 5, 7, 9, 10, 11, 15, 16, 17, 38, 39, 40, 50] | 14 => some [1, 5, 7, 9, 10, 11, 15, 16, 17, 38, 39, 40, 50] | 15 => some [1, 5, 7, 9, 15, 16, 17, 38, 39, 40] | 16 => some [1, 5, 7, 15, 16, 17, 33] | 17 => some [1, 5, 7, 15, 16, 17] | 18 => some [1, 5, 15, 16, 17] | 19 => some [1, 5, 15, 16, 17] | 20 => some [4] | _ => none)
def h18 : Hint := ⟨h18a, (fun id => match id with | 19 => some 0 | _ => none), (fun _ => none), [5], true, (fun _ => none), fun _ => 0, 0, false, (fun _ => none)⟩
@[go_sem] theorem h18x : h18.mix = (fun _ => none) := rfl
@[go_sem] theorem h18l : h18.live = h18a := rfl
@[go_sem] theorem h18o : h18.mode = fun _ => 0 := rfl
@[go_sem] theorem h18k : h18.keep = (fun id => match id with | 19 => some 0 | _ => none) := rfl
@[go_sem] theorem h18t : h18.tail = (fun _ => none) := rfl
@[go_sem] theorem h18v : h18.vars = [5] := rfl
@[go_sem] theorem h18m : h18.mutc = true := rfl
@[go_sem] def h19a : Nat -> Option (List Nat) := (fun id => match id with | 0 => some [2, 3] | 1 => some [4] | _ => none)
abbrev h19 : Hint := HQ h19a
@[go_sem] def h21a : Nat -> Option (List Nat) := (fun id => match id with | 0 => some [0, 1] | 1 => some [4] | _ => none)
abbrev h21 : Hint := HQ h21a
@[go_sem] def h22a : Nat -> Option (List Nat) := (fun id => match id with | 0 => some [1] | 1 => some [2] | _ => none)
abbrev h22 : Hint := HQ h22a
@[go_sem] def h23a : Nat -> Option (List Nat) := (fun id => match id with | 0 => some [1] | 1 => some [2] | _ => none)
abbrev h23 : Hint := HQ h23a
@[go_sem] def h25a : Nat -> Option (List Nat) := (fun id => match id with | 0 => some [0] | 1 => some [0, 3] | 2 => some [3, 9, 10, 11] | 3 => some [3, 9, 10, 11, 12] | 4 => some [3, 5, 9, 10, 11] | 5 => some [3, 5, 6, 9, 10, 11] | 6 => some [3, 5, 6, 9, 10, 11, 31] | 7 => some [3, 9, 10, 11] | 8 => some [3, 5, 6, 9, 10, 11, 37] | 9 => some [3, 9, 10, 11] | 10 => some [3, 9, 10, 11] | 11 => some [3, 9, 10, 11] | 12 => some [3, 59] | 13 => some [3, 9, 10, 11] | 14 => some [2] | _ => none)
@[go_sem] def h25M : Nat -> Option Mix := (fun id => match id with | 10 => some ⟨[0, 1, 2, 3, 4, 5, 6, 7, 8], [], .head 0 (.head 1 (.head 2 (.head 3 (.head 4 (.head 5 (.head 6 (.head 7 (.head 8 (.two 9)))))))))⟩ | _ => none)
def h25 : Hint := ⟨h25a, (fun id => match id with | 11 => some 1 | _ => none), (fun id => match id with | 6 => some 14 | 10 => some 8 | _ => none), [3], false, h25M, (fun d => match d with | some 8 => 1 | some 41 => 2 | some 42 => 1 | _ => 0), 0, false, (fun _ => none)⟩
@[go_sem] theorem h25e : h25.late = (fun _ => none) := rfl
@[go_sem] theorem h25x : h25.mix = h25M := rfl
@[go_sem] theorem h25l : h25.live = h25a := rfl
@[go_sem] theorem h25o : h25.mode = (fun d => match d with | some 8 => 1 | some 41 => 2 | some 42 => 1 | _ => 0) := rfl
@[go_sem] theorem h25k : h25.keep = (fun id => match id with | 11 => some 1 | _ => none) := rfl
@[go_sem] theorem h25t : h25.tail = (fun id => match id with | 6 => some 14 | 10 => some 8 | _ => none) := rfl
@[go_sem] theorem h25v : h25.vars = [3] := rfl
@[go_sem] theorem h25m : h25.mutc = false := rfl
@[go_sem] def h26a : Nat -> Option (List Nat) := (fun id => match id with | 0 => some [0] | 1 => some [2] | _ => none)
abbrev h26 : Hint := HQ h26a
@[go_sem] def h28a : Nat -> Option (List Nat) := (fun id => match id with | 0 => some [] | 1 => some [0] | _ => none)
abbrev h28 : Hint := HQ h28a
@[go_sem] def h30a : Nat -> Option (List Nat) := (fun id => match id with | 0 => some [] | 1 => some [1] | 2 => some [1, 5, 6, 7] | 3 => some [1, 5, 6, 7, 8] | 4 => some [1, 2, 3, 5, 6, 7] | 5 => some [1, 5, 6, 7] | 6 => some [1, 5, 6, 7] | 7 => some [0] | _ => none)
def h30 : Hint := ⟨h30a, (fun id => match id with | 6 => some 1 | _ => none), (fun _ => none), [], false, (fun _ => none), fun _ => 0, 1, false, (fun _ => none)⟩
@[go_sem] theorem h30x : h30.mix = (fun _ => none) := rfl
@[go_sem] theorem h30l : h30.live = h30a := rfl
@[go_sem] theorem h30o : h30.mode = fun _ => 0 := rfl
@[go_sem] theorem h30k : h30.keep = (fun id => match id with | 6 => some 1 | _ => none) := rfl
@[go_sem] theorem h30t : h30.tail = (fun _ => none) := rfl
@[go_sem] theorem h30v : h30.vars = [] := rfl
@[go_sem] theorem h30m : h30.mutc = false := rfl
@[go_sem] def h31a : Nat -> Option (List Nat) := (fun id => match id with | 0 => some [0, 1] | 1 => some [4] | _ => none)
abbrev h31 : Hint := HQ h31a
@[go_sem] def h32a : Nat -> Option (List Nat) := (fun id => match id with | 0 => some [0] | 1 => some [2] | _ => none)
abbrev h32 : Hint := HQ h32a
@[go_sem] def h33a : Nat -> Option (List Nat) := (fun id => match id with | 0 => some [0, 1] | 1 => some [1, 7, 8, 9] | 2 => some [1, 7, 8, 9, 10] | 3 => some [1, 6, 7, 8, 9] | 4 => some [1, 6, 7, 8, 9, 15] | 5 => some [1, 6, 7, 8, 9, 15, 16] | 6 => some [1, 6, 7, 8, 9, 15, 16] | 7 => some [1, 6, 7, 8, 9, 15, 16] | 8 => some [1, 6, 7, 8, 9, 15, 16] | 9 => some [1, 6, 7, 8, 9, 15, 16] | 10 => some [4] | 11 => some [1, 6, 7, 8, 9, 22] | 12 => some [1, 6, 7, 8, 9, 24] | 13 => some [4] | 14 => some [1, 7, 8, 9, 39] | 15 => some [4] | 16 => some [1, 7, 8, 9] | 17 => some [4] | _ => none)
def h33 : Hint := ⟨h33a, (fun id => match id with | 16 => some 0 | _ => none), (fun _ => none), [], false, (fun _ => none), fun _ => 0, 0, false, (fun _ => none)⟩
@[go_sem] theorem h33x : h33.mix = (fun _ => none) := rfl
@[go_sem] theorem h33l : h33.live = h33a := rfl
@[go_sem] theorem h33o : h33.mode = fun _ => 0 := rfl
@[go_sem] theorem h33k : h33.keep = (fun id => match id with | 16 => some 0 | _ => none) := rfl
@[go_sem] theorem h33t : h33.tail = (fun _ => none) := rfl
@[go_sem] theorem h33v : h33.vars = [] := rfl
@[go_sem] theorem h33m : h33.mutc = false := rfl
@[go_sem] def h34a : Nat -> Option (List Nat) := (fun id => match id with | 0 => some [0] | 1 => some [2] | _ => none)
abbrev h34 : Hint := HQ h34a
@[go_sem] def h35a : Nat -> Option (List Nat) := (fun id => match id with | 0 => some [0] | 1 => some [3] | 2 => some [3, 8, 9, 10] | 3 => some [3, 8, 9, 10, 11] | 4 => some [3, 4, 5, 8, 9, 10] | 5 => some [3, 4, 5, 8, 9, 10, 20] | 6 => some [3, 4, 5, 8, 9, 10, 20] | 7 => some [3, 8, 9, 10] | 8 => some [2] | _ => none)
def h35 : Hint := ⟨h35a, (fun _ => none), (fun _ => none), [], true, (fun _ => none), fun _ => 0, 0, false, (fun _ => none)⟩
@[go_sem] theorem h35x : h35.mix = (fun _ => none) := rfl
@[go_sem] theorem h35l : h35.live = h35a := rfl
@[go_sem] theorem h35o : h35.mode = fun _ => 0 := rfl
@[go_sem] theorem h35k : h35.keep = (fun _ => none) := rfl
@[go_sem] theorem h35t : h35.tail = (fun _ => none) := rfl
@[go_sem] theorem h35v : h35.vars = [] := rfl
@[go_sem] theorem h35m : h35.mutc = true := rfl
@[go_sem] def h36a : Nat -> Option (List Nat) := (fun id => match id with | 0 => some [0] | 1 => some [0, 3] | 2 => some [3, 4] | 3 => some [3, 4, 13] | 4 => some [3, 4, 5] | 5 => some [3, 4, 5, 24] | 6 => some [3, 4, 5, 29] | 7 => some [3, 4, 5, 29] | 8 => some [3, 4] | 9 => some [3, 4, 5, 6] | 10 => some [3, 4, 6] | 11 => some [3, 4, 6] | 12 => some [3, 4, 6, 7] | 13 => some [3, 4, 6, 7, 73] | 14 => some [3, 4] | 15 => some [2] | _ => none)
def h36 : Hint := ⟨h36a, (fun id => match id with | 3 => some 1 | _ => none), (fun _ => none), [3, 4], false, (fun _ => none), (fun d => match d with | some 10 => 1 | some 80 => 1 | _ => 0), 0, false, (fun _ => none)⟩
@[go_sem] theorem h36x : h36.mix = (fun _ => none) := rfl
@[go_sem] theorem h36l : h36.live = h36a := rfl
@[go_sem] theorem h36o : h36.mode = (fun d => match d with | some 10 => 1 | some 80 => 1 | _ => 0) := rfl
@[go_sem] theorem h36k : h36.keep = (fun id => match id with | 3 => some 1 | _ => none) := rfl
@[go_sem] theorem h36t : h36.tail = (fun _ => none) := rfl
@[go_sem] theorem h36v : h36.vars = [3, 4] := rfl
@[go_sem] theorem h36m : h36.mutc = false := rfl
@[go_sem] def h37a : Nat -> Option (List Nat) := (fun id => match id with | 0 => some [0, 1] | 1 => some [4] | _ => none)
abbrev h37 : Hint := HQ h37a
@[go_sem] def h38a : Nat -> Option (List Nat) := (fun id => match id with | 0 => some [1, 2, 4] | 1 => some [1, 2, 4, 14] | 2 => some [4, 5] | 3 => some [1, 2, 4, 6] | 4 => some [1, 2, 4, 6, 41] | 5 => some [4, 5] | 6 => some [2, 4, 7, 8] | 7 => some [2, 4, 7, 51] | 8 => some [4, 5] | 9 => some [2, 4, 7, 9] | 10 => some [2, 4, 7, 9, 55] | 11 => some [2, 4, 7, 9, 55] | 12 => some [2, 4, 7, 9, 10] | 13 => some [2, 4, 7, 63] | 14 => some [4, 5] | 15 => some [4, 7, 78] | 16 => some [4, 5] | 17 => some [4, 5] | _ => none)
def h38 : Hint := ⟨h38a, (fun _ => none), (fun id => match id with | 4 => some 25 | _ => none), [], false, (fun _ => none), fun _ => 0, 0, false, (fun _ => none)⟩
@[go_sem] theorem h38e : h38.late = (fun _ => none) := rfl
@[go_sem] theorem h38x : h38.mix = (fun _ => none) := rfl
@[go_sem] theorem h38l : h38.live = h38a := rfl
@[go_sem] theorem h38o : h38.mode = fun _ => 0 := rfl
@[go_sem] theorem h38k : h38.keep = (fun _ => none) := rfl
@[go_sem] theorem h38t : h38.tail = (fun id => match id with | 4 => some 25 | _ => none) := rfl
@[go_sem] theorem h38v : h38.vars = [] := rfl
@[go_sem] theorem h38m : h38.mutc = false := rfl
@[go_sem] def h39a : Nat -> Option (List Nat) := (fun id => match id with | 0 => some [2, 3] | 1 => some [2, 3, 33] | 2 => some [4] | 3 => some [2, 3, 36, 37] | 4 => some [2, 3, 36, 37, 38] | 5 => some [2, 3, 5, 36, 37] | 6 => some [2, 3, 36, 37, 51] | 7 => some [4] | 8 => some [2, 3, 36, 37] | 9 => some [4] | _ => none)
def h39 : Hint := ⟨h39a, (fun _ => none), (fun id => match id with | 6 => some 12 | _ => none), [], false, (fun _ => none), fun _ => 0, 0, false, (fun _ => none)⟩
@[go_sem] theorem h39e : h39.late = (fun _ => none) := rfl
@[go_sem] theorem h39x : h39.mix = (fun _ => none) := rfl
@[go_sem] theorem h39l : h39.live = h39a := rfl
@[go_sem] theorem h39o : h39.mode = fun _ => 0 := rfl
@[go_sem] theorem h39k : h39.keep = (fun _ => none) := rfl
@[go_sem] theorem h39t : h39.tail = (fun id => match id with | 6 => some 12 | _ => none) := rfl
@[go_sem] theorem h39v : h39.vars = [] := rfl
@[go_sem] theorem h39m : h39.mutc = false := rfl
@[go_sem] def h40a : Nat -> Option (List Nat) := (fun id => match id with | 0 => some [0, 1] | 1 => some [0, 1, 10] | 2 => some [4] | 3 => some [0, 1, 12, 13] | 4 => some [0, 1, 12, 13, 14] | 5 => some [0, 1, 5, 12, 13] | 6 => some [0, 1, 12, 13, 24] | 7 => some [4] | 8 => some [0, 1, 12, 13] | 9 => some [4] | _ => none)
def h40 : Hint := ⟨h40a, (fun _ => none), (fun id => match id with | 6 => some 9 | _ => none), [], false, (fun _ => none), fun _ => 0, 0, false, (fun _ => none)⟩
@[go_sem] theorem h40e : h40.late = (fun _ => none) := rfl
@[go_sem] theorem h40x : h40.mix = (fun _ => none) := rfl
@[go_sem] theorem h40l : h40.live = h40a := rfl
@[go_sem] theorem h40o : h40.mode = fun _ => 0 := rfl
@[go_sem] theorem h40k : h40.keep = (fun _ => none) := rfl
@[go_sem] theorem h40t : h40.tail = (fun id => match id with | 6 => some 9 | _ => none) := rfl
@[go_sem] theorem h40v : h40.vars = [] := rfl
@[go_sem] theorem h40m : h40.mutc = false := rfl
@[go_sem] def h41a : Nat -> Option (List Nat) := (fun id => match id with | 0 => some [0, 1] | 1 => some [0, 1, 7, 8] | 2 => some [0, 1, 7, 8, 9] | 3 => some [0, 1, 5, 7, 8] | 4 => some [0, 1, 5, 7, 8, 16] | 5 => some [4] | 6 => some [0, 1, 7, 8] | 7 => some [4] | _ => none)
abbrev h41 : Hint := HQ h41a
@[go_sem] def h44a : Nat -> Option (List Nat) := (fun id => match id with | 0 => some [0] | 1 => some [3] | 2 => some [3, 4] | 3 => some [3, 4] | 4 => some [2] | 5 => some [3, 7] | 6 => some [2] | 7 => some [9] | 8 => some [2] | 9 => some [2] | _ => none)
abbrev h44 : Hint := HQ h44a
@[go_sem] def h45a : Nat -> Option (List Nat) := (fun id => match id with | 0 => some [0] | 1 => some [0, 3] | 2 => some [0, 3, 4] | 3 => some [0, 3, 4] | 4 => some [0, 3, 4, 16] | 5 => some [0, 30, 31, 33] | 6 => some [0] | 7 => some [0] | 8 => some [2] | _ => none)
@[go_sem] def h45M : Nat -> Option Mix := (fun id => match id with | 4 => some ⟨[3], [], .one 0 (.alt (.one 1 (.one 2 (.head 3 (.fin)))) (.one 2 (.one 1 (.head 3 (.fin)))))⟩ | 7 => some ⟨[0, 1, 2, 3, 4, 5, 6, 7, 8, 9, 10, 11, 12, 13, 14, 16, 17], [], .head 3 (.head 4 (.head 5 (.head 6 (.head 7 (.head 8 (.head 9 (.head 10 (.head 11 (.head 12 (.head 13 (.head 14 (.alt (.one 0 (.alt (.one 1 (.alt (.one 2 (.one 15 (.head 16 (.head 17 (.one 18 (.fin)))))) (.one 15 (.head 2 (.head 16 (.head 17 (.one 18 (.fin)))))))) (.one 15 (.head 1 (.head 2 (.head 16 (.head 17 (.one 18 (.fin))))))))) (.alt (.one 1 (.alt (.one 0 (.alt (.one 2 (.one 15 (.head 16 (.head 17 (.one 18 (.fin)))))) (.one 15 (.head 2 (.head 16 (.head 17 (.one 18 (.fin)))))))) (.alt (.one 2 (.alt (.one 0 (.one 15 (.head 16 (.head 17 (.one 18 (.fin)))))) (.one 15 (.head 0 (.head 16 (.head 17 (.one 18 (.fin)))))))) (.one 15 (.head 0 (.head 2 (.head 16 (.head 17 (.one 18 (.fin)))))))))) (.one 15 (.head 0 (.head 1 (.head 2 (.head 16 (.head 17 (.one 18 (.fin)))))))))))))))))))))⟩ | _ => none)
def h45 : Hint := ⟨h45a, (fun id => match id with | 4 => some 1001 | _ => none), (fun id => match id with | 4 => some 0 | 5 => some 16 | 7 => some 14 | _ => none), [], false, h45M, fun _ => 0, 0, false, (fun id => match id with | 5 => some 0 | _ => none)⟩
@[go_sem] theorem h45e : h45.late = (fun id => match id with | 5 => some 0 | _ => none) := rfl
@[go_sem] theorem h45x : h45.mix = h45M := rfl
@[go_sem] theorem h45l : h45.live = h45a := rfl
@[go_sem] theorem h45o : h45.mode = fun _ => 0 := rfl
@[go_sem] theorem h45k : h45.keep = (fun id => match id with | 4 => some 1001 | _ => none) := rfl
@[go_sem] theorem h45t : h45.tail = (fun id => match id with | 4 => some 0 | 5 => some 16 | 7 => some 14 | _ => none) := rfl
@[go_sem] theorem h45v : h45.vars = [] := rfl
@[go_sem] theorem h45m : h45.mutc = false := rfl
@[go_sem] def h46a : Nat -> Option (List Nat) := (fun id => match id with | 0 => some [0] | 1 => some [0, 3] | 2 => some [3, 4] | 3 => some [3, 4] | 4 => some [3, 4, 12] | 5 => some [2] | 6 => some [3, 4] | _ => none)
def h46 : Hint := ⟨h46a, (fun _ => none), (fun _ => none), [3], false, (fun _ => none), fun _ => 0, 0, false, (fun _ => none)⟩
@[go_sem] theorem h46x : h46.mix = (fun _ => none) := rfl
@[go_sem] theorem h46l : h46.live = h46a := rfl
@[go_sem] theorem h46o : h46.mode = fun _ => 0 := rfl
@[go_sem] theorem h46k : h46.keep = (fun _ => none) := rfl
@[go_sem] theorem h46t : h46.tail = (fun _ => none) := rfl
@[go_sem] theorem h46v : h46.vars = [3] := rfl
@[go_sem] theorem h46m : h46.mutc = false := rfl
@[go_sem] def h47a : Nat -> Option (List Nat) := (fun id => match id with | 0 => some [0] | 1 => some [0, 28] | 2 => some [0, 28] | 3 => some [0, 3] | 4 => some [0, 3, 4] | 5 => some [3, 4, 32, 33, 34] | 6 => some [3, 4, 32, 33, 34, 35] | 7 => some [3, 4, 6, 32, 33, 34] | 8 => some [3, 4, 6, 7, 32, 33, 34] | 9 => some [3, 4, 6, 7, 32, 33, 34, 39] | 10 => some [3, 4, 6, 7, 32, 33, 34, 39, 40] | 11 => some [3, 4, 6, 7, 32, 33, 34, 39, 40] | 12 => some [3, 4, 6, 7, 32, 33, 34, 39, 40] | 13 => some [3, 4, 6, 7, 32, 33, 34, 43] | 14 => some [3, 4, 6, 7, 32, 33, 34, 39, 40] | 15 => some [3, 6, 7, 32, 33, 34, 50] | 16 => some [3, 6, 7, 32, 33, 34, 50] | 17 => some [3, 4, 32, 33, 34] | 18 => some [3, 4, 32, 33, 34] | 19 => some [2] | _ => none)
def h47 : Hint := ⟨h47a, (fun _ => none), (fun _ => none), [3], false, (fun _ => none), fun _ => 0, 0, false, (fun _ => none)⟩
@[go_sem] theorem h47x : h47.mix = (fun _ => none) := rfl
@[go_sem] theorem h47l : h47.live = h47a := rfl
@[go_sem] theorem h47o : h47.mode = fun _ => 0 := rfl
@[go_sem] theorem h47k : h47.keep = (fun _ => none) := rfl
@[go_sem] theorem h47t : h47.tail = (fun _ => none) := rfl
@[go_sem] theorem h47v : h47.vars = [3] := rfl
@[go_sem] theorem h47m : h47.mutc = false := rfl
@[go_sem] def h53a : Nat -> Option (List Nat) := (fun id => match id with | 0 => some [0, 1] | 1 => some [4] | _ => none)
abbrev h53 : Hint := HQ h53a
@[go_sem] def h54a : Nat -> Option (List Nat) := (fun id => match id with | 0 => some [0, 1] | 1 => some [1, 7, 8, 9] | 2 => some [1, 7, 8, 9, 10] | 3 => some [1, 6, 7, 8, 9] | 4 => some [1, 6, 7, 8, 9, 22] | 5 => some [4] | 6 => some [1, 6, 7, 8, 9, 27] | 7 => some [1, 7, 8, 9, 31] | 8 => some [4] | 9 => some [1, 7, 8, 9, 41] | 10 => some [4] | 11 => some [1, 7, 8, 9] | 12 => some [4] | _ => none)
def h54 : Hint := ⟨h54a, (fun id => match id with | 11 => some 0 | _ => none), (fun _ => none), [], false, (fun _ => none), fun _ => 0, 0, false, (fun _ => none)⟩
@[go_sem] theorem h54x : h54.mix = (fun _ => none) := rfl
@[go_sem] theorem h54l : h54.live = h54a := rfl
@[go_sem] theorem h54o : h54.mode = fun _ => 0 := rfl
@[go_sem] theorem h54k : h54.keep = (fun id => match id with | 11 => some 0 | _ => none) := rfl
@[go_sem] theorem h54t : h54.tail = (fun _ => none) := rfl
@[go_sem] theorem h54v : h54.vars = [] := rfl
@[go_sem] theorem h54m : h54.mutc = false := rfl
@[go_sem] def h55a : Nat -> Option (List Nat) := (fun id => match id with | 0 => some [0] | 1 => some [0, 22] | 2 => some [2] | 3 => some [0] | 4 => some [2] | _ => none)
abbrev h55 : Hint := HQ h55a
@[go_sem] def h56a : Nat -> Option (List Nat) := (fun id => match id with | 0 => some [0] | 1 => some [0, 3] | 2 => some [3, 6, 7, 8] | 3 => some [3, 6, 7, 8, 9] | 4 => some [3, 5, 6, 7, 8] | 5 => some [3, 6, 7, 8] | 6 => some [3, 6, 7, 8] | 7 => some [2] | _ => none)
@[go_sem] def h56M : Nat -> Option Mix := (fun id => match id with | 5 => some ⟨[0, 1, 2, 3, 4, 5, 6, 7], [], .head 0 (.head 1 (.head 2 (.head 3 (.head 4 (.head 5 (.head 6 (.head 7 (.one 8 (.one 9 (.fin))))))))))⟩ | _ => none)
def h56 : Hint := ⟨h56a, (fun id => match id with | 6 => some 0 | _ => none), (fun id => match id with | 5 => some 7 | _ => none), [3], false, h56M, fun _ => 0, 0, false, (fun _ => none)⟩
@[go_sem] theorem h56e : h56.late = (fun _ => none) := rfl
@[go_sem] theorem h56x : h56.mix = h56M := rfl
@[go_sem] theorem h56l : h56.live = h56a := rfl
@[go_sem] theorem h56o : h56.mode = fun _ => 0 := rfl
@[go_sem] theorem h56k : h56.keep = (fun id => match id with | 6 => some 0 | _ => none) := rfl
@[go_sem] theorem h56t : h56.tail = (fun id => match id with | 5 => some 7 | _ => none) := rfl
@[go_sem] theorem h56v : h56.vars = [3] := rfl
@[go_sem] theorem h56m : h56.mutc = false := rfl
@[go_sem] def h57a : Nat -> Option (List Nat) := (fun id => match id with | 0 => some [0] | 1 => some [0, 11] | 2 => some [0] | 3 => some [0, 25] | 4 => some [0] | 5 => some [2] | _ => none)
abbrev h57 : Hint := HQ h57a
@[go_sem] def h58a : Nat -> Option (List Nat) := (fun id => match id with | 0 => some [0] | 1 => some [3] | 2 => some [3, 4] | 3 => some [3, 6] | 4 => some [3, 8] | 5 => some [10] | 6 => some [2] | 7 => some [2] | 8 => some [2] | 9 => some [2] | _ => none)
abbrev h58 : Hint := HQ h58a
@[go_sem] def h59a : Nat -> Option (List Nat) := (fun id => match id with | 0 => some [0, 1] | 1 => some [0, 1, 7, 8] | 2 => some [0, 1, 7, 8, 9] | 3 => some [0, 1, 5, 7, 8] | 4 => some [0, 1, 5, 7, 8, 16] | 5 => some [4] | 6 => some [0, 1, 7, 8] | 7 => some [4] | _ => none)
abbrev h59 : Hint := HQ h59a
@[go_sem] def h60a : Nat -> Option (List Nat) := (fun id => match id with | 0 => some [0, 2] | 1 => some [0, 2, 8] | 2 => some [2, 3] | 3 => some [0, 2] | 4 => some [0, 2, 14] | 5 => some [2, 3] | 6 => some [2, 4, 5] | 7 => some [2, 4, 24] | 8 => some [2, 3] | 9 => some [2, 3] | _ => none)
abbrev h60 : Hint := HQ h60a
@[go_sem] def h61a : Nat -> Option (List Nat) := (fun id => match id with | 0 => some [1] | 1 => some [1, 7] | 2 => some [2, 3] | 3 => some [4] | 4 => some [4, 11] | 5 => some [2, 3] | 6 => some [2, 3] | _ => none)
abbrev h61 : Hint := HQ h61a
@[go_sem] def h62a : Nat -> Option (List Nat) := (fun id => match id with | 0 => some [0, 1] | 1 => some [4] | _ => none)
abbrev h62 : Hint := HQ h62a
@[go_sem] def h64a : Nat -> Option (List Nat) := (fun id => match id with | 0 => some [0, 9] | 1 => some [0] | 2 => some [0, 29] | 3 => some [0] | 4 => some [0] | _ => none)
abbrev h64 : Hint := HQ h64a
@[go_sem] def h65a : Nat -> Option (List Nat) := (fun id => match id with | 0 => some [0, 1] | 1 => some [0, 1, 17] | 2 => some [4] | 3 => some [5] | 4 => some [5, 31] | 5 => some [4] | 6 => some [4] | _ => none)
def h65 : Hint := ⟨h65a, (fun _ => none), (fun id => match id with | 1 => some 12 | 3 => some 12 | _ => none), [], false, (fun _ => none), fun _ => 0, 0, false, (fun _ => none)⟩
@[go_sem] theorem h65e : h65.late = (fun _ => none) := rfl
@[go_sem] theorem h65x : h65.mix = (fun _ => none) := rfl
@[go_sem] theorem h65l : h65.live = h65a := rfl
@[go_sem] theorem h65o : h65.mode = fun _ => 0 := rfl
@[go_sem] theorem h65k : h65.keep = (fun _ => none) := rfl
@[go_sem] theorem h65t : h65.tail = (fun id => match id with | 1 => some 12 | 3 => some 12 | _ => none) := rfl
@[go_sem] theorem h65v : h65.vars = [] := rfl
@[go_sem] theorem h65m : h65.mutc = false := rfl
@[go_sem] def h66a : Nat -> Option (List Nat) := (fun id => match id with | 0 => some [0, 2] | 1 => some [0, 2, 3, 4, 5] | 2 => some [0, 2, 3, 4, 5, 14] | 3 => some [0, 2, 3, 4, 5, 14, 15] | 4 => some [0, 2, 3, 4, 5, 6, 14] | 5 => some [0, 2, 3, 4, 5, 6, 14, 21] | 6 => some [2, 6] | 7 => some [2] | 8 => some [0, 2, 3, 4, 5, 14] | 9 => some [0, 2, 3, 4, 5, 34] | 10 => some [2] | 11 => some [2] | 12 => some [0, 2, 3, 4, 5, 40] | 13 => some [0, 2, 3] | 14 => some [2] | 15 => some [0, 2, 3, 4, 5, 57] | 16 => some [0, 2, 4, 5] | 17 => some [0, 2, 7] | 18 => some [2] | 19 => some [0, 2, 3, 4, 5, 89] | 20 => some [2] | 21 => some [0, 2, 3, 4, 5, 96] | 22 => some [2] | 23 => some [2] | 24 => some [0, 2, 3, 4, 5, 115] | 25 => some [2] | 26 => some [2] | 27 => some [0, 2, 3, 4, 5, 139] | 28 => some [0, 2] | 29 => some [2] | 30 => some [0, 2, 3, 159] | 31 => some [2] | 32 => some [2, 3] | 33 => some [2] | _ => none)
abbrev h66 : Hint := HQ h66a
@[go_sem] def h67a : Nat -> Option (List Nat) := (fun id => match id with | 0 => some [0] | 1 => some [0, 3] | 2 => some [0, 3, 4] | 3 => some [0, 3, 4, 11] | 4 => some [0, 3, 4, 5, 6] | 5 => some [0, 3, 4, 6] | 6 => some [0, 3, 4] | 7 => some [2] | _ => none)
def h67 : Hint := ⟨h67a, (fun _ => none), (fun _ => none), [3], false, (fun _ => none), fun _ => 0, 0, false, (fun _ => none)⟩
@[go_sem] theorem h67x : h67.mix = (fun _ => none) := rfl
@[go_sem] theorem h67l : h67.live = h67a := rfl
@[go_sem] theorem h67o : h67.mode = fun _ => 0 := rfl
@[go_sem] theorem h67k : h67.keep = (fun _ => none) := rfl
@[go_sem] theorem h67t : h67.tail = (fun _ => none) := rfl
@[go_sem] theorem h67v : h67.vars = [3] := rfl
@[go_sem] theorem h67m : h67.mutc = false := rfl
@[go_sem] def h68a : Nat -> Option (List Nat) := (fun id => match id with | 0 => some [0, 2] | 1 => some [2] | _ => none)
abbrev h68 : Hint := HQ h68a
@[go_sem] def h71a : Nat -> Option (List Nat) := (fun id => match id with | 0 => some [1] | 1 => some [2] | _ => none)
abbrev h71 : Hint := HQ h71a
@[go_sem] def h72a : Nat -> Option (List Nat) := (fun id => match id with | 0 => some [1, 2] | 1 => some [1, 2, 4] | 2 => some [1, 2, 4, 14] | 3 => some [2, 3] | 4 => some [1, 2, 4, 14, 16] | 5 => some [2, 3] | 6 => some [1, 2, 4, 14, 21] | 7 => some [2, 3] | 8 => some [1, 2, 4, 33] | 9 => some [1, 2, 4] | 10 => some [1, 2, 37] | 11 => some [2, 3] | 12 => some [1, 2, 37, 39] | 13 => some [2, 3] | 14 => some [1, 2, 37, 46] | 15 => some [1, 2, 5] | 16 => some [1, 2, 37, 48] | 17 => some [1, 2, 5] | 18 => some [1, 2, 50] | 19 => some [1, 2, 5] | 20 => some [1, 2, 5, 6] | 21 => some [2, 5, 6, 56, 57, 58] | 22 => some [2, 5, 6, 56, 57, 58, 59] | 23 => some [2, 5, 6, 8, 56, 57, 58] | 24 => some [2, 5, 6, 9, 10, 56, 57, 58] | 25 => some [2, 5, 6, 9, 56, 57, 58, 68] | 26 => some [2, 3] | 27 => some [2, 5, 6, 56, 57, 58] | 28 => some [2, 5, 6, 56, 57, 58] | 29 => some [2, 3] | _ => none)
@[go_sem] def h72M : Nat -> Option Mix := (fun id => match id with | 7 => some ⟨[0, 1, 2, 3, 4, 5, 6, 7, 8, 9], [], .head 0 (.head 1 (.head 2 (.head 3 (.head 4 (.head 5 (.head 6 (.head 7 (.head 8 (.alt (.one 9 (.one 10 (.one 11 (.fin)))) (.one 10 (.head 9 (.one 11 (.fin)))))))))))))⟩ | 29 => some ⟨[0, 1, 2, 3, 4, 5, 6, 7, 8], [], .head 0 (.head 1 (.head 2 (.head 3 (.alt (.one 4 (.alt (.one 5 (.alt (.one 6 (.alt (.one 7 (.alt (.one 8 (.one 9 (.one 10 (.fin)))) (.one 9 (.head 8 (.one 10 (.fin)))))) (.one 9 (.head 7 (.head 8 (.one 10 (.fin))))))) (.one 9 (.head 6 (.head 7 (.head 8 (.one 10 (.fin)))))))) (.one 9 (.head 5 (.head 6 (.head 7 (.head 8 (.one 10 (.fin))))))))) (.one 9 (.head 4 (.head 5 (.head 6 (.head 7 (.head 8 (.one 10 (.fin))))))))))))⟩ | _ => none)
def h72 : Hint := ⟨h72a, (fun id => match id with | 28 => some 4 | _ => none), (fun id => match id with | 7 => some 10 | 29 => some 9 | _ => none), [], false, h72M, fun _ => 0, 0, false, (fun _ => none)⟩
@[go_sem] theorem h72e : h72.late = (fun _ => none) := rfl
@[go_sem] theorem h72x : h72.mix = h72M := rfl
@[go_sem] theorem h72l : h72.live = h72a := rfl
@[go_sem] theorem h72o : h72.mode = fun _ => 0 := rfl
@[go_sem] theorem h72k : h72.keep = (fun id => match id with | 28 => some 4 | _ => none) := rfl
@[go_sem] theorem h72t : h72.tail = (fun id => match id with | 7 => some 10 | 29 => some 9 | _ => none) := rfl
@[go_sem] theorem h72v : h72.vars = [] := rfl
@[go_sem] theorem h72m : h72.mutc = false := rfl
@[go_sem] def h73a : Nat -> Option (List Nat) := (fun id => match id with | 0 => some [1] | 1 => some [2] | _ => none)
abbrev h73 : Hint := HQ h73a
@[go_sem] def h74a : Nat -> Option (List Nat) := (fun id => match id with | 0 => some [1] | 1 => some [1, 8] | 2 => some [11] | 3 => some [2] | 4 => some [2] | 5 => some [1, 3] | 6 => some [1, 3, 13, 14, 15] | 7 => some [1, 3, 13, 14, 15, 16] | 8 => some [1, 3, 5, 13, 14, 15] | 9 => some [1, 3, 13, 14, 15, 20] | 10 => some [1, 3, 13, 14, 15, 20, 21] | 11 => some [2] | 12 => some [1, 3, 13, 14, 15, 23] | 13 => some [1, 3, 13, 14, 15, 23] | 14 => some [1, 3, 13, 14, 15] | 15 => some [1, 3, 28] | 16 => some [2] | 17 => some [1, 3, 31] | 18 => some [1, 3, 31] | 19 => some [2] | 20 => some [2] | _ => none)
def h74 : Hint := ⟨h74a, (fun id => match id with | 14 => some 1 | _ => none), (fun _ => none), [], false, (fun _ => none), fun _ => 0, 0, false, (fun _ => none)⟩
@[go_sem] theorem h74x : h74.mix = (fun _ => none) := rfl
@[go_sem] theorem h74l : h74.live = h74a := rfl
@[go_sem] theorem h74o : h74.mode = fun _ => 0 := rfl
@[go_sem] theorem h74k : h74.keep = (fun id => match id with | 14 => some 1 | _ => none) := rfl
@[go_sem] theorem h74t : h74.tail = (fun _ => none) := rfl
@[go_sem] theorem h74v : h74.vars = [] := rfl
@[go_sem] theorem h74m : h74.mutc = false := rfl
@[go_sem] def h75a : Nat -> Option (List Nat) := (fun id => match id with | 0 => some [0] | 1 => some [3] | 2 => some [3, 8, 9, 10] | 3 => some [3, 8, 9, 10, 11] | 4 => some [3, 4, 5, 8, 9, 10] | 5 => some [3, 4, 5, 8, 9, 10, 20] | 6 => some [3, 4, 5, 8, 9, 10, 20] | 7 => some [3, 8, 9, 10] | 8 => some [2] | _ => none)
def h75 : Hint := ⟨h75a, (fun _ => none), (fun _ => none), [], true, (fun _ => none), fun _ => 0, 0, false, (fun _ => none)⟩
@[go_sem] theorem h75x : h75.mix = (fun _ => none) := rfl
@[go_sem] theorem h75l : h75.live = h75a := rfl
@[go_sem] theorem h75o : h75.mode = fun _ => 0 := rfl
@[go_sem] theorem h75k : h75.keep = (fun _ => none) := rfl
@[go_sem] theorem h75t : h75.tail = (fun _ => none) := rfl
@[go_sem] theorem h75v : h75.vars = [] := rfl
@[go_sem] theorem h75m : h75.mutc = true := rfl
@[go_sem] def h77a : Nat -> Option (List Nat) := (fun id => match id with | 0 => some [0] | 1 => some [2] | _ => none)
abbrev h77 : Hint := HQ h77a
@[go_sem] def h78a : Nat -> Option (List Nat) := (fun id => match id with | 0 => some [0] | 1 => some [2] | _ => none)
abbrev h78 : Hint := HQ h78a
@[go_sem] def h79a : Nat -> Option (List Nat) := (fun id => match id with | 0 => some [0, 4] | 1 => some [0] | _ => none)
abbrev h79 : Hint := HQ h79a
@[go_sem] def h80a : Nat -> Option (List Nat) := (fun id => match id with | 0 => some [0, 1, 4] | 1 => some [0, 1, 4, 5] | 2 => some [0, 1, 4, 5, 6] | 3 => some [0, 1, 4, 5, 6] | 4 => some [0, 1, 4, 5, 6, 22] | 5 => some [4] | 6 => some [0, 1, 4, 5] | 7 => some [0, 1, 4, 5, 6, 30] | 8 => some [4] | 9 => some [0, 1, 4, 5, 6, 34] | 10 => some [0, 1, 4, 5] | 11 => some [0, 1, 4, 5, 6, 49] | 12 => some [0, 1, 4, 5] | 13 => some [0, 1, 4, 5, 6, 64] | 14 => some [0, 1, 4, 5] | 15 => some [0, 1, 4, 5] | _ => none)
def h80 : Hint := ⟨h80a, (fun _ => none), (fun _ => none), [5], false, (fun _ => none), fun _ => 0, 0, false, (fun _ => none)⟩
@[go_sem] theorem h80x : h80.mix = (fun _ => none) := rfl
@[go_sem] theorem h80l : h80.live = h80a := rfl
@[go_sem] theorem h80o : h80.mode = fun _ => 0 := rfl
@[go_sem] theorem h80k : h80.keep = (fun _ => none) := rfl
@[go_sem] theorem h80t : h80.tail = (fun _ => none) := rfl
@[go_sem] theorem h80v : h80.vars = [5] := rfl
@[go_sem] theorem h80m : h80.mutc = false := rfl
@[go_sem] def h81a : Nat -> Option (List Nat) := (fun id => match id with | 0 => some [0] | 1 => some [2] | _ => none)
abbrev h81 : Hint := HQ h81a
@[go_sem] def h82a : Nat -> Option (List Nat) := (fun id => match id with | 0 => some [0, 1] | 1 => some [4] | _ => none)
abbrev h82 : Hint := HQ h82a
@[go_sem] def h83a : Nat -> Option (List Nat) := (fun id => match id with | 0 => some [0, 1, 2] | 1 => some [0, 1, 2, 8] | 2 => some [6] | 3 => some [6] | _ => none)
abbrev h83 : Hint := HQ h83a
@[go_sem] def h84a : Nat -> Option (List Nat) := (fun id => match id with | 0 => some [0] | 1 => some [0, 3] | 2 => some [0, 3, 4] | 3 => some [2] | 4 => some [0, 3, 4, 9] | 5 => some [0, 3] | 6 => some [0, 3] | 7 => some [0, 3, 27] | 8 => some [0, 3] | 9 => some [0, 3] | _ => none)
def h84 : Hint := ⟨h84a, (fun _ => none), (fun _ => none), [3], false, (fun _ => none), fun _ => 0, 0, false, (fun _ => none)⟩
@[go_sem] theorem h84x : h84.mix = (fun _ => none) := rfl
@[go_sem] theorem h84l : h84.live = h84a := rfl
@[go_sem] theorem h84o : h84.mode = fun _ => 0 := rfl
@[go_sem] theorem h84k : h84.keep = (fun _ => none) := rfl
@[go_sem] theorem h84t : h84.tail = (fun _ => none) := rfl
@[go_sem] theorem h84v : h84.vars = [3] := rfl
@[go_sem] theorem h84m : h84.mutc = false := rfl
@[go_sem] def h85a : Nat -> Option (List Nat) := (fun id => match id with | 0 => some [0, 1, 2] | 1 => some [0, 1, 2, 12] | 2 => some [0, 1, 2, 12] | 3 => some [6] | _ => none)
abbrev h85 : Hint := HQ h85a
@[go_sem] def h86a : Nat -> Option (List Nat) := (fun id => match id with | 0 => some [0, 2] | 1 => some [0, 2, 3] | 2 => some [0, 2, 3, 4] | 3 => some [0, 2, 3, 23] | 4 => some [0, 2, 3, 23] | 5 => some [0, 2, 3] | 6 => some [0, 2, 3, 40] | 7 => some [0, 2, 3] | 8 => some [0, 2, 3, 40] | 9 => some [0, 2, 3, 5] | 10 => some [0, 2, 3, 57] | 11 => some [0, 2, 3, 6] | 12 => some [0, 2, 3, 6, 7] | 13 => some [0, 2, 3, 6, 65] | 14 => some [0, 2, 3, 6, 65] | 15 => some [0, 2, 3, 6, 69] | 16 => some [0, 2, 3] | 17 => some [0, 2, 3, 57] | 18 => some [0, 2, 8, 9] | 19 => some [0, 2, 11] | 20 => some [0, 2, 11, 105] | 21 => some [0, 2, 11, 105] | 22 => some [0, 2, 11, 112] | 23 => some [0, 2, 11] | 24 => some [0, 2, 11, 105] | 25 => some [2] | _ => none)
@[go_sem] def h86M : Nat -> Option Mix := (fun id => match id with | 18 => some ⟨[0, 1, 2, 3, 4, 5, 6, 7, 8, 9, 10, 11, 12, 13, 14, 15], [], .head 0 (.head 1 (.head 2 (.head 3 (.head 4 (.head 5 (.head 6 (.head 7 (.head 8 (.head 9 (.alt (.one 10 (.alt (.one 11 (.head 12 (.head 13 (.alt (.one 14 (.alt (.one 15 (.one 16 (.one 17 (.one 18 (.one 19 (.fin)))))) (.one 16 (.alt (.one 15 (.one 17 (.one 18 (.one 19 (.fin))))) (.one 17 (.alt (.one 15 (.one 18 (.one 19 (.fin)))) (.one 18 (.head 15 (.one 19 (.fin)))))))))) (.alt (.one 15 (.alt (.one 14 (.one 16 (.one 17 (.one 18 (.one 19 (.fin)))))) (.one 16 (.alt (.one 14 (.one 17 (.one 18 (.one 19 (.fin))))) (.one 17 (.head 14 (.one 18 (.one 19 (.fin))))))))) (.one 16 (.alt (.one 14 (.alt (.one 15 (.one 17 (.one 18 (.one 19 (.fin))))) (.one 17 (.alt (.one 15 (.one 18 (.one 19 (.fin)))) (.one 18 (.head 15 (.one 19 (.fin)))))))) (.alt (.one 15 (.alt (.one 14 (.one 17 (.one 18 (.one 19 (.fin))))) (.one 17 (.head 14 (.one 18 (.one 19 (.fin))))))) (.one 17 (.head 14 (.alt (.one 15 (.one 18 (.one 19 (.fin)))) (.one 18 (.head 15 (.one 19 (.fin))))))))))))))) (.one 16 (.head 11 (.head 12 (.head 13 (.alt (.one 14 (.alt (.one 15 (.one 17 (.one 18 (.one 19 (.fin))))) (.one 17 (.alt (.one 15 (.one 18 (.one 19 (.fin)))) (.one 18 (.head 15 (.one 19 (.fin)))))))) (.alt (.one 15 (.alt (.one 14 (.one 17 (.one 18 (.one 19 (.fin))))) (.one 17 (.head 14 (.one 18 (.one 19 (.fin))))))) (.one 17 (.head 14 (.alt (.one 15 (.one 18 (.one 19 (.fin)))) (.one 18 (.head 15 (.one 19 (.fin))))))))))))))) (.one 16 (.head 10 (.head 11 (.head 12 (.head 13 (.alt (.one 14 (.alt (.one 15 (.one 17 (.one 18 (.one 19 (.fin))))) (.one 17 (.alt (.one 15 (.one 18 (.one 19 (.fin)))) (.one 18 (.head 15 (.one 19 (.fin)))))))) (.alt (.one 15 (.alt (.one 14 (.one 17 (.one 18 (.one 19 (.fin))))) (.one 17 (.head 14 (.one 18 (.one 19 (.fin))))))) (.one 17 (.head 14 (.alt (.one 15 (.one 18 (.one 19 (.fin)))) (.one 18 (.head 15 (.one 19 (.fin))))))))))))))))))))))))⟩ | _ => none)
def h86 : Hint := ⟨h86a, (fun _ => none), (fun id => match id with | 18 => some 16 | _ => none), [], false, h86M, fun _ => 0, 0, false, (fun _ => none)⟩
@[go_sem] theorem h86e : h86.late = (fun _ => none) := rfl
@[go_sem] theorem h86x : h86.mix = h86M := rfl
@[go_sem] theorem h86l : h86.live = h86a := rfl
@[go_sem] theorem h86o : h86.mode = fun _ => 0 := rfl
@[go_sem] theorem h86k : h86.keep = (fun _ => none) := rfl
@[go_sem] theorem h86t : h86.tail = (fun id => match id with | 18 => some 16 | _ => none) := rfl
@[go_sem] theorem h86v : h86.vars = [] := rfl
@[go_sem] theorem h86m : h86.mutc = false := rfl
@[go_sem] def h87a : Nat -> Option (List Nat) := (fun id => match id with | 0 => some [0, 2] | 1 => some [0, 2, 3] | 2 => some [0, 2, 3, 9] | 3 => some [2] | 4 => some [0, 2, 3] | 5 => some [0, 2, 3, 21] | 6 => some [2] | 7 => some [0, 2, 3, 31] | 8 => some [0, 2, 3, 21] | 9 => some [0, 2, 3, 4] | 10 => some [0, 2, 3, 4, 42] | 11 => some [0, 2, 3, 4, 42] | 12 => some [0, 2, 3, 50] | 13 => some [2] | 14 => some [2] | _ => none)
abbrev h87 : Hint := HQ h87a
@[go_sem] def h88a : Nat -> Option (List Nat) := (fun id => match id with | 0 => some [0] | 1 => some [2] | _ => none)
abbrev h88 : Hint := HQ h88a
@[go_sem] def h89a : Nat -> Option (List Nat) := (fun id => match id with | 0 => some [0, 1] | 1 => some [0, 1, 7] | 2 => some [0, 1, 7, 18] | 3 => some [4, 5, 6] | 4 => some [0, 1, 7, 8, 9, 10] | 5 => some [0, 1, 7, 8, 9, 10, 28] | 6 => some [4, 5, 6] | 7 => some [0, 1, 8, 9, 10, 11] | 8 => some [0, 1, 8, 9, 10, 11, 12] | 9 => some [0, 1, 8, 9, 10, 11, 12, 37] | 10 => some [0, 1, 8, 9, 10, 11, 12] | 11 => some [0, 1, 8, 11, 12, 65] | 12 => some [4, 5, 6] | 13 => some [0, 1, 8, 11, 12] | 14 => some [0, 1, 8, 9, 10, 11, 12] | 15 => some [4, 5, 6] | _ => none)
abbrev h89 : Hint := HQ h89a
@[go_sem] def h94a : Nat -> Option (List Nat) := (fun id => match id with | 0 => some [1, 2, 4] | 1 => some [1, 2, 4, 7] | 2 => some [1, 2, 4, 7] | 3 => some [4] | _ => none)
abbrev h94 : Hint := HQ h94a
@[go_sem] def h95a : Nat -> Option (List Nat) := (fun id => match id with | 0 => some [0] | 1 => some [0, 5, 6, 7] | 2 => some [0, 5, 6, 7, 8] | 3 => some [0, 3, 4, 5, 6, 7] | 4 => some [0, 3, 5, 6, 7, 15] | 5 => some [2] | 6 => some [0, 5, 6, 7] | 7 => some [2] | _ => none)
abbrev h95 : Hint := HQ h95a
@[go_sem] def h96a : Nat -> Option (List Nat) := (fun id => match id with | 0 => some [0] | 1 => some [3] | 2 => some [3, 8, 9, 10] | 3 => some [3, 8, 9, 10, 11] | 4 => some [3, 4, 5, 8, 9, 10] | 5 => some [3, 4, 5, 8, 9, 10, 20] | 6 => some [3, 4, 5, 8, 9, 10, 20] | 7 => some [3, 8, 9, 10] | 8 => some [2] | _ => none)
def h96 : Hint := ⟨h96a, (fun _ => none), (fun _ => none), [], true, (fun _ => none), fun _ => 0, 0, false, (fun _ => none)⟩
@[go_sem] theorem h96x : h96.mix = (fun _ => none) := rfl
@[go_sem] theorem h96l : h96.live = h96a := rfl
@[go_sem] theorem h96o : h96.mode = fun _ => 0 := rfl
@[go_sem] theorem h96k : h96.keep = (fun _ => none) := rfl
@[go_sem] theorem h96t : h96.tail = (fun _ => none) := rfl
@[go_sem] theorem h96v : h96.vars = [] := rfl
@[go_sem] theorem h96m : h96.mutc = true := rfl
def u97x3x0 : Tr := .fin
@[go_sem] theorem u97x3x0e {c : Cx} {mx : Mix} {id : Nat} {ops : Array Oper} {s : St} : evT c mx id ops u97x3x0 s = evT c mx id ops (.fin) s := rfl
def u97x3x1 : Tr := .one 15 u97x3x0
@[go_sem] theorem u97x3x1e {c : Cx} {mx : Mix} {id : Nat} {ops : Array Oper} {s : St} : evT c mx id ops u97x3x1 s = evT c mx id ops (.one 15 u97x3x0) s := rfl
def u97x3x2 : Tr := .one 14 u97x3x1
@[go_sem] theorem u97x3x2e {c : Cx} {mx : Mix} {id : Nat} {ops : Array Oper} {s : St} : evT c mx id ops u97x3x2 s = evT c mx id ops (.one 14 u97x3x1) s := rfl
def u97x3x3 : Tr := .head 13 u97x3x1
@[go_sem] theorem u97x3x3e {c : Cx} {mx : Mix} {id : Nat} {ops : Array Oper} {s : St} : evT c mx id ops u97x3x3 s = evT c mx id ops (.head 13 u97x3x1) s := rfl
def u97x3x4 : Tr := .alt (.one 13 u97x3x2) (.one 14 u97x3x3)
@[go_sem] theorem u97x3x4e {c : Cx} {mx : Mix} {id : Nat} {ops : Array Oper} {s : St} : evT c mx id ops u97x3x4 s = evT c mx id ops (.alt (.one 13 u97x3x2) (.one 14 u97x3x3)) s := rfl
def u97x3x5 : Tr := .head 12 u97x3x3
@[go_sem] theorem u97x3x5e {c : Cx} {mx : Mix} {id : Nat} {ops : Array Oper} {s : St} : evT c mx id ops u97x3x5 s = evT c mx id ops (.head 12 u97x3x3) s := rfl
def u97x3x6 : Tr := .alt (.one 12 u97x3x4) (.one 14 u97x3x5)
@[go_sem] theorem u97x3x6e {c : Cx} {mx : Mix} {id : Nat} {ops : Array Oper} {s : St} : evT c mx id ops u97x3x6 s = evT c mx id ops (.alt (.one 12 u97x3x4) (.one 14 u97x3x5)) s := rfl
def u97x3x7 : Tr := .head 11 u97x3x5
@[go_sem] theorem u97x3x7e {c : Cx} {mx : Mix} {id : Nat} {ops : Array Oper} {s : St} : evT c mx id ops u97x3x7 s = evT c mx id ops (.head 11 u97x3x5) s := rfl
def u97x3x8 : Tr := .alt (.one 11 u97x3x6) (.one 14 u97x3x7)
@[go_sem] theorem u97x3x8e {c : Cx} {mx : Mix} {id : Nat} {ops : Array Oper} {s : St} : evT c mx id ops u97x3x8 s = evT c mx id ops (.alt (.one 11 u97x3x6) (.one 14 u97x3x7)) s := rfl
def u97x3x9 : Tr := .head 10 u97x3x7
@[go_sem] theorem u97x3x9e {c : Cx} {mx : Mix} {id : Nat} {ops : Array Oper} {s : St} : evT c mx id ops u97x3x9 s = evT c mx id ops (.head 10 u97x3x7) s := rfl
def u97x3x10 : Tr := .alt (.one 10 u97x3x8) (.one 14 u97x3x9)
@[go_sem] theorem u97x3x10e {c : Cx} {mx : Mix} {id : Nat} {ops : Array Oper} {s : St} : evT c mx id ops u97x3x10 s = evT c mx id ops (.alt (.one 10 u97x3x8) (.one 14 u97x3x9)) s := rfl
def u97x3x11 : Tr := .head 9 u97x3x9
@[go_sem] theorem u97x3x11e {c : Cx} {mx : Mix} {id : Nat} {ops : Array Oper} {s : St} : evT c mx id ops u97x3x11 s = evT c mx id ops (.head 9 u97x3x9) s := rfl
def u97x3x12 : Tr := .alt (.one 9 u97x3x10) (.one 14 u97x3x11)
@[go_sem] theorem u97x3x12e {c : Cx} {mx : Mix} {id : Nat} {ops : Array Oper} {s : St} : evT c mx id ops u97x3x12 s = evT c mx id ops (.alt (.one 9 u97x3x10) (.one 14 u97x3x11)) s := rfl
def u97x3x13 : Tr := .head 8 u97x3x11
@[go_sem] theorem u97x3x13e {c : Cx} {mx : Mix} {id : Nat} {ops : Array Oper} {s : St} : evT c mx id ops u97x3x13 s = evT c mx id ops (.head 8 u97x3x11) s := rfl
def u97x3x14 : Tr := .alt (.one 8 u97x3x12) (.one 14 u97x3x13)
@[go_sem] theorem u97x3x14e {c : Cx} {mx : Mix} {id : Nat} {ops : Array Oper} {s : St} : evT c mx id ops u97x3x14 s = evT c mx id ops (.alt (.one 8 u97x3x12) (.one 14 u97x3x13)) s := rfl
def u97x3x15 : Tr := .head 7 u97x3x13
@[go_sem] theorem u97x3x15e {c : Cx} {mx : Mix} {id : Nat} {ops : Array Oper} {s : St} : evT c mx id ops u97x3x15 s = evT c mx id ops (.head 7 u97x3x13) s := rfl
def u97x3x16 : Tr := .alt (.one 7 u97x3x14) (.one 14 u97x3x15)
@[go_sem] theorem u97x3x16e {c : Cx} {mx : Mix} {id : Nat} {ops : Array Oper} {s : St} : evT c mx id ops u97x3x16 s = evT c mx id ops (.alt (.one 7 u97x3x14) (.one 14 u97x3x15)) s := rfl
def u97x3x17 : Tr := .head 6 u97x3x5
@[go_sem] theorem u97x3x17e {c : Cx} {mx : Mix} {id : Nat} {ops : Array Oper} {s : St} : evT c mx id ops u97x3x17 s = evT c mx id ops (.head 6 u97x3x5) s := rfl
def u97x3x18 : Tr := .alt (.one 6 u97x3x6) (.one 14 u97x3x17)
@[go_sem] theorem u97x3x18e {c : Cx} {mx : Mix} {id : Nat} {ops : Array Oper} {s : St} : evT c mx id ops u97x3x18 s = evT c mx id ops (.alt (.one 6 u97x3x6) (.one 14 u97x3x17)) s := rfl
def u97x3x19 : Tr := .head 6 u97x3x7
@[go_sem] theorem u97x3x19e {c : Cx} {mx : Mix} {id : Nat} {ops : Array Oper} {s : St} : evT c mx id ops u97x3x19 s = evT c mx id ops (.head 6 u97x3x7) s := rfl
def u97x3x20 : Tr := .alt (.one 6 u97x3x8) (.alt (.one 11 u97x3x18) (.one 14 u97x3x19))
@[go_sem] theorem u97x3x20e {c : Cx} {mx : Mix} {id : Nat} {ops : Array Oper} {s : St} : evT c mx id ops u97x3x20 s = evT c mx id ops (.alt (.one 6 u97x3x8) (.alt (.one 11 u97x3x18) (.one 14 u97x3x19))) s := rfl
def u97x3x21 : Tr := .head 6 u97x3x9
@[go_sem] theorem u97x3x21e {c : Cx} {mx : Mix} {id : Nat} {ops : Array Oper} {s : St} : evT c mx id ops u97x3x21 s = evT c mx id ops (.head 6 u97x3x9) s := rfl
def u97x3x22 : Tr := .alt (.one 6 u97x3x10) (.alt (.one 10 u97x3x20) (.one 14 u97x3x21))
@[go_sem] theorem u97x3x22e {c : Cx} {mx : Mix} {id : Nat} {ops : Array Oper} {s : St} : evT c mx id ops u97x3x22 s = evT c mx id ops (.alt (.one 6 u97x3x10) (.alt (.one 10 u97x3x20) (.one 14 u97x3x21))) s := rfl
def u97x3x23 : Tr := .head 6 u97x3x11
@[go_sem] theorem u97x3x23e {c : Cx} {mx : Mix} {id : Nat} {ops : Array Oper} {s : St} : evT c mx id ops u97x3x23 s = evT c mx id ops (.head 6 u97x3x11) s := rfl
def u97x3x24 : Tr := .alt (.one 6 u97x3x12) (.alt (.one 9 u97x3x22) (.one 14 u97x3x23))
@[go_sem] theorem u97x3x24e {c : Cx} {mx : Mix} {id : Nat} {ops : Array Oper} {s : St} : evT c mx id ops u97x3x24 s = evT c mx id ops (.alt (.one 6 u97x3x12) (.alt (.one 9 u97x3x22) (.one 14 u97x3x23))) s := rfl
def u97x3x25 : Tr := .head 6 u97x3x13
@[go_sem] theorem u97x3x25e {c : Cx} {mx : Mix} {id : Nat} {ops : Array Oper} {s : St} : evT c mx id ops u97x3x25 s = evT c mx id ops (.head 6 u97x3x13) s := rfl
def u97x3x26 : Tr := .alt (.one 6 u97x3x14) (.alt (.one 8 u97x3x24) (.one 14 u97x3x25))
@[go_sem] theorem u97x3x26e {c : Cx} {mx : Mix} {id : Nat} {ops : Array Oper} {s : St} : evT c mx id ops u97x3x26 s = evT c mx id ops (.alt (.one 6 u97x3x14) (.alt (.one 8 u97x3x24) (.one 14 u97x3x25))) s := rfl
def u97x3x27 : Tr := .head 6 u97x3x15
@[go_sem] theorem u97x3x27e {c : Cx} {mx : Mix} {id : Nat} {ops : Array Oper} {s : St} : evT c mx id ops u97x3x27 s = evT c mx id ops (.head 6 u97x3x15) s := rfl
def u97x3x28 : Tr := .alt (.one 6 u97x3x16) (.alt (.one 7 u97x3x26) (.one 14 u97x3x27))
@[go_sem] theorem u97x3x28e {c : Cx} {mx : Mix} {id : Nat} {ops : Array Oper} {s : St} : evT c mx id ops u97x3x28 s = evT c mx id ops (.alt (.one 6 u97x3x16) (.alt (.one 7 u97x3x26) (.one 14 u97x3x27))) s := rfl
def u97x3x29 : Tr := .head 5 u97x3x17
@[go_sem] theorem u97x3x29e {c : Cx} {mx : Mix} {id : Nat} {ops : Array Oper} {s : St} : evT c mx id ops u97x3x29 s = evT c mx id ops (.head 5 u97x3x17) s := rfl
def u97x3x30 : Tr := .alt (.one 5 u97x3x18) (.one 14 u97x3x29)
@[go_sem] theorem u97x3x30e {c : Cx} {mx : Mix} {id : Nat} {ops : Array Oper} {s : St} : evT c mx id ops u97x3x30 s = evT c mx id ops (.alt (.one 5 u97x3x18) (.one 14 u97x3x29)) s := rfl
def u97x3x31 : Tr := .head 5 u97x3x19
@[go_sem] theorem u97x3x31e {c : Cx} {mx : Mix} {id : Nat} {ops : Array Oper} {s : St} : evT c mx id ops u97x3x31 s = evT c mx id ops (.head 5 u97x3x19) s := rfl
def u97x3x32 : Tr := .alt (.one 5 u97x3x20) (.alt (.one 11 u97x3x30) (.one 14 u97x3x31))
@[go_sem] theorem u97x3x32e {c : Cx} {mx : Mix} {id : Nat} {ops : Array Oper} {s : St} : evT c mx id ops u97x3x32 s = evT c mx id ops (.alt (.one 5 u97x3x20) (.alt (.one 11 u97x3x30) (.one 14 u97x3x31))) s := rfl
def u97x3x33 : Tr := .head 5 u97x3x21
@[go_sem] theorem u97x3x33e {c : Cx} {mx : Mix} {id : Nat} {ops : Array Oper} {s : St} : evT c mx id ops u97x3x33 s = evT c mx id ops (.head 5 u97x3x21) s := rfl
def u97x3x34 : Tr := .alt (.one 5 u97x3x22) (.alt (.one 10 u97x3x32) (.one 14 u97x3x33))
@[go_sem] theorem u97x3x34e {c : Cx} {mx : Mix} {id : Nat} {ops : Array Oper} {s : St} : evT c mx id ops u97x3x34 s = evT c mx id ops (.alt (.one 5 u97x3x22) (.alt (.one 10 u97x3x32) (.one 14 u97x3x33))) s := rfl
def u97x3x35 : Tr := .head 5 u97x3x23
@[go_sem] theorem u97x3x35e {c : Cx} {mx : Mix} {id : Nat} {ops : Array Oper} {s : St} : evT c mx id ops u97x3x35 s = evT c mx id ops (.head 5 u97x3x23) s := rfl
def u97x3x36 : Tr := .alt (.one 5 u97x3x24) (.alt (.one 9 u97x3x34) (.one 14 u97x3x35))
@[go_sem] theorem u97x3x36e {c : Cx} {mx : Mix} {id : Nat} {ops : Array Oper} {s : St} : evT c mx id ops u97x3x36 s = evT c mx id ops (.alt (.one 5 u97x3x24) (.alt (.one 9 u97x3x34) (.one 14 u97x3x35))) s := rfl
def u97x3x37 : Tr := .head 5 u97x3x25
@[go_sem] theorem u97x3x37e {c : Cx} {mx : Mix} {id : Nat} {ops : Array Oper} {s : St} : evT c mx id ops u97x3x37 s = evT c mx id ops (.head 5 u97x3x25) s := rfl
def u97x3x38 : Tr := .alt (.one 5 u97x3x26) (.alt (.one 8 u97x3x36) (.one 14 u97x3x37))
@[go_sem] theorem u97x3x38e {c : Cx} {mx : Mix} {id : Nat} {ops : Array Oper} {s : St} : evT c mx id ops u97x3x38 s = evT c mx id ops (.alt (.one 5 u97x3x26) (.alt (.one 8 u97x3x36) (.one 14 u97x3x37))) s := rfl
def u97x3x39 : Tr := .head 5 u97x3x27
@[go_sem] theorem u97x3x39e {c : Cx} {mx : Mix} {id : Nat} {ops : Array Oper} {s : St} : evT c mx id ops u97x3x39 s = evT c mx id ops (.head 5 u97x3x27) s := rfl
def u97x3x40 : Tr := .alt (.one 5 u97x3x28) (.alt (.one 7 u97x3x38) (.one 14 u97x3x39))
@[go_sem] theorem u97x3x40e {c : Cx} {mx : Mix} {id : Nat} {ops : Array Oper} {s : St} : evT c mx id ops u97x3x40 s = evT c mx id ops (.alt (.one 5 u97x3x28) (.alt (.one 7 u97x3x38) (.one 14 u97x3x39))) s := rfl
def u97x3x41 : Tr := .head 4 u97x3x29
@[go_sem] theorem u97x3x41e {c : Cx} {mx : Mix} {id : Nat} {ops : Array Oper} {s : St} : evT c mx id ops u97x3x41 s = evT c mx id ops (.head 4 u97x3x29) s := rfl
def u97x3x42 : Tr := .alt (.one 4 u97x3x30) (.one 14 u97x3x41)
@[go_sem] theorem u97x3x42e {c : Cx} {mx : Mix} {id : Nat} {ops : Array Oper} {s : St} : evT c mx id ops u97x3x42 s = evT c mx id ops (.alt (.one 4 u97x3x30) (.one 14 u97x3x41)) s := rfl
def u97x3x43 : Tr := .head 4 u97x3x31
@[go_sem] theorem u97x3x43e {c : Cx} {mx : Mix} {id : Nat} {ops : Array Oper} {s : St} : evT c mx id ops u97x3x43 s = evT c mx id ops (.head 4 u97x3x31) s := rfl
def u97x3x44 : Tr := .alt (.one 4 u97x3x32) (.alt (.one 11 u97x3x42) (.one 14 u97x3x43))
@[go_sem] theorem u97x3x44e {c : Cx} {mx : Mix} {id : Nat} {ops : Array Oper} {s : St} : evT c mx id ops u97x3x44 s = evT c mx id ops (.alt (.one 4 u97x3x32) (.alt (.one 11 u97x3x42) (.one 14 u97x3x43))) s := rfl
def u97x3x45 : Tr := .head 4 u97x3x33
@[go_sem] theorem u97x3x45e {c : Cx} {mx : Mix} {id : Nat} {ops : Array Oper} {s : St} : evT c mx id ops u97x3x45 s = evT c mx id ops (.head 4 u97x3x33) s := rfl
def u97x3x46 : Tr := .alt (.one 4 u97x3x34) (.alt (.one 10 u97x3x44) (.one 14 u97x3x45))
@[go_sem] theorem u97x3x46e {c : Cx} {mx : Mix} {id : Nat} {ops : Array Oper} {s : St} : evT c mx id ops u97x3x46 s = evT c mx id ops (.alt (.one 4 u97x3x34) (.alt (.one 10 u97x3x44) (.one 14 u97x3x45))) s := rfl
def u97x3x47 : Tr := .head 4 u97x3x35
@[go_sem] theorem u97x3x47e {c : Cx} {mx : Mix} {id : Nat} {ops : Array Oper} {s : St} : evT c mx id ops u97x3x47 s = evT c mx id ops (.head 4 u97x3x35) s := rfl
def u97x3x48 : Tr := .alt (.one 4 u97x3x36) (.alt (.one 9 u97x3x46) (.one 14 u97x3x47))
@[go_sem] theorem u97x3x48e {c : Cx} {mx : Mix} {id : Nat} {ops : Array Oper} {s : St} : evT c mx id ops u97x3x48 s = evT c mx id ops (.alt (.one 4 u97x3x36) (.alt (.one 9 u97x3x46) (.one 14 u97x3x47))) s := rfl
def u97x3x49 : Tr := .head 4 u97x3x37
@[go_sem] theorem u97x3x49e {c : Cx} {mx : Mix} {id : Nat} {ops : Array Oper} {s : St} : evT c mx id ops u97x3x49 s = evT c mx id ops (.head 4 u97x3x37) s := rfl
def u97x3x50 : Tr := .alt (.one 4 u97x3x38) (.alt (.one 8 u97x3x48) (.one 14 u97x3x49))
@[go_sem] theorem u97x3x50e {c : Cx} {mx : Mix} {id : Nat} {ops : Array Oper} {s : St} : evT c mx id ops u97x3x50 s = evT c mx id ops (.alt (.one 4 u97x3x38) (.alt (.one 8 u97x3x48) (.one 14 u97x3x49))) s := rfl
def u97x3x51 : Tr := .head 4 u97x3x39
@[go_sem] theorem u97x3x51e {c : Cx} {mx : Mix} {id : Nat} {ops : Array Oper} {s : St} : evT c mx id ops u97x3x51 s = evT c mx id ops (.head 4 u97x3x39) s := rfl
def u97x3x52 : Tr := .alt (.one 4 u97x3x40) (.alt (.one 7 u97x3x50) (.one 14 u97x3x51))
@[go_sem] theorem u97x3x52e {c : Cx} {mx : Mix} {id : Nat} {ops : Array Oper} {s : St} : evT c mx id ops u97x3x52 s = evT c mx id ops (.alt (.one 4 u97x3x40) (.alt (.one 7 u97x3x50) (.one 14 u97x3x51))) s := rfl
def u97x3x53 : Tr := .head 3 u97x3x41
@[go_sem] theorem u97x3x53e {c : Cx} {mx : Mix} {id : Nat} {ops : Array Oper} {s : St} : evT c mx id ops u97x3x53 s = evT c mx id ops (.head 3 u97x3x41) s := rfl
def u97x3x54 : Tr := .alt (.one 3 u97x3x42) (.one 14 u97x3x53)
@[go_sem] theorem u97x3x54e {c : Cx} {mx : Mix} {id : Nat} {ops : Array Oper} {s : St} : evT c mx id ops u97x3x54 s = evT c mx id ops (.alt (.one 3 u97x3x42) (.one 14 u97x3x53)) s := rfl
def u97x3x55 : Tr := .head 3 u97x3x43
@[go_sem] theorem u97x3x55e {c : Cx} {mx : Mix} {id : Nat} {ops : Array Oper} {s : St} : evT c mx id ops u97x3x55 s = evT c mx id ops (.head 3 u97x3x43) s := rfl
def u97x3x56 : Tr := .alt (.one 3 u97x3x44) (.alt (.one 11 u97x3x54) (.one 14 u97x3x55))
@[go_sem] theorem u97x3x56e {c : Cx} {mx : Mix} {id : Nat} {ops : Array Oper} {s : St} : evT c mx id ops u97x3x56 s = evT c mx id ops (.alt (.one 3 u97x3x44) (.alt (.one 11 u97x3x54) (.one 14 u97x3x55))) s := rfl
def u97x3x57 : Tr := .head 3 u97x3x45
@[go_sem] theorem u97x3x57e {c : Cx} {mx : Mix} {id : Nat} {ops : Array Oper} {s : St} : evT c mx id ops u97x3x57 s = evT c mx id ops (.head 3 u97x3x45) s := rfl
def u97x3x58 : Tr := .alt (.one 3 u97x3x46) (.alt (.one 10 u97x3x56) (.one 14 u97x3x57))
@[go_sem] theorem u97x3x58e {c : Cx} {mx : Mix} {id : Nat} {ops : Array Oper} {s : St} : evT c mx id ops u97x3x58 s = evT c mx id ops (.alt (.one 3 u97x3x46) (.alt (.one 10 u97x3x56) (.one 14 u97x3x57))) s := rfl
def u97x3x59 : Tr := .head 3 u97x3x47
@[go_sem] theorem u97x3x59e {c : Cx} {mx : Mix} {id : Nat} {ops : Array Oper} {s : St} : evT c mx id ops u97x3x59 s = evT c mx id ops (.head 3 u97x3x47) s := rfl
def u97x3x60 : Tr := .alt (.one 3 u97x3x48) (.alt (.one 9 u97x3x58) (.one 14 u97x3x59))
@[go_sem] theorem u97x3x60e {c : Cx} {mx : Mix} {id : Nat} {ops : Array Oper} {s : St} : evT c mx id ops u97x3x60 s = evT c mx id ops (.alt (.one 3 u97x3x48) (.alt (.one 9 u97x3x58) (.one 14 u97x3x59))) s := rfl
def u97x3x61 : Tr := .head 3 u97x3x49
@[go_sem] theorem u97x3x61e {c : Cx} {mx : Mix} {id : Nat} {ops : Array Oper} {s : St} : evT c mx id ops u97x3x61 s = evT c mx id ops (.head 3 u97x3x49) s := rfl
def u97x3x62 : Tr := .alt (.one 3 u97x3x50) (.alt (.one 8 u97x3x60) (.one 14 u97x3x61))
@[go_sem] theorem u97x3x62e {c : Cx} {mx : Mix} {id : Nat} {ops : Array Oper} {s : St} : evT c mx id ops u97x3x62 s = evT c mx id ops (.alt (.one 3 u97x3x50) (.alt (.one 8 u97x3x60) (.one 14 u97x3x61))) s := rfl
def u97x3x63 : Tr := .head 3 u97x3x51
@[go_sem] theorem u97x3x63e {c : Cx} {mx : Mix} {id : Nat} {ops : Array Oper} {s : St} : evT c mx id ops u97x3x63 s = evT c mx id ops (.head 3 u97x3x51) s := rfl
def u97x3x64 : Tr := .alt (.one 3 u97x3x52) (.alt (.one 7 u97x3x62) (.one 14 u97x3x63))
@[go_sem] theorem u97x3x64e {c : Cx} {mx : Mix} {id : Nat} {ops : Array Oper} {s : St} : evT c mx id ops u97x3x64 s = evT c mx id ops (.alt (.one 3 u97x3x52) (.alt (.one 7 u97x3x62) (.one 14 u97x3x63))) s := rfl
def u97x3x65 : Tr := .head 2 u97x3x64
@[go_sem] theorem u97x3x65e {c : Cx} {mx : Mix} {id : Nat} {ops : Array Oper} {s : St} : evT c mx id ops u97x3x65 s = evT c mx id ops (.head 2 u97x3x64) s := rfl
def u97x3x66 : Tr := .head 1 u97x3x65
@[go_sem] theorem u97x3x66e {c : Cx} {mx : Mix} {id : Nat} {ops : Array Oper} {s : St} : evT c mx id ops u97x3x66 s = evT c mx id ops (.head 1 u97x3x65) s := rfl
def u97x3x67 : Tr := .head 0 u97x3x66
@[go_sem] theorem u97x3x67e {c : Cx} {mx : Mix} {id : Nat} {ops : Array Oper} {s : St} : evT c mx id ops u97x3x67 s = evT c mx id ops (.head 0 u97x3x66) s := rfl
@[go_sem] def h97a : Nat -> Option (List Nat) := (fun id => match id with | 0 => some [0, 2] | 1 => some [2, 4] | 2 => some [2, 4, 5, 6] | 3 => some [2, 3] | _ => none)
@[go_sem] def h97M : Nat -> Option Mix := (fun id => match id with | 3 => some ⟨[0, 1, 2, 3, 4, 5, 6, 7, 8, 9, 10, 11, 12, 13], [], u97x3x67⟩ | _ => none)
def h97 : Hint := ⟨h97a, (fun _ => none), (fun id => match id with | 3 => some 14 | _ => none), [], false, h97M, fun _ => 0, 0, false, (fun _ => none)⟩
@[go_sem] theorem h97e : h97.late = (fun _ => none) := rfl
@[go_sem] theorem h97x : h97.mix = h97M := rfl
@[go_sem] theorem h97l : h97.live = h97a := rfl
@[go_sem] theorem h97o : h97.mode = fun _ => 0 := rfl
@[go_sem] theorem h97k : h97.keep = (fun _ => none) := rfl
@[go_sem] theorem h97t : h97.tail = (fun id => match id with | 3 => some 14 | _ => none) := rfl
@[go_sem] theorem h97v : h97.vars = [] := rfl
@[go_sem] theorem h97m : h97.mutc = false := rfl
@[go_sem] def h98a : Nat -> Option (List Nat) := (fun id => match id with | 0 => some [0] | 1 => some [0, 3] | 2 => some [0, 3, 4] | 3 => some [0, 3, 4, 7, 8, 9] | 4 => some [0, 3, 4, 7, 8, 9, 10] | 5 => some [0, 3, 4, 5, 6, 7, 8, 9] | 6 => some [0, 3, 4, 5, 7, 8, 9, 17] | 7 => some [0, 3, 5, 7, 8, 9] | 8 => some [0, 3, 4, 5, 7, 8, 9, 17] | 9 => some [0, 3, 4, 7, 8, 9] | 10 => some [2] | _ => none)
def h98 : Hint := ⟨h98a, (fun id => match id with | 9 => some 0 | _ => none), (fun _ => none), [3], false, (fun _ => none), fun _ => 0, 0, false, (fun _ => none)⟩
@[go_sem] theorem h98x : h98.mix = (fun _ => none) := rfl
@[go_sem] theorem h98l : h98.live = h98a := rfl
@[go_sem] theorem h98o : h98.mode = fun _ => 0 := rfl
@[go_sem] theorem h98k : h98.keep = (fun id => match id with | 9 => some 0 | _ => none) := rfl
@[go_sem] theorem h98t : h98.tail = (fun _ => none) := rfl
@[go_sem] theorem h98v : h98.vars = [3] := rfl
@[go_sem] theorem h98m : h98.mutc = false := rfl
@[go_sem] def h99a : Nat -> Option (List Nat) := (fun id => match id with | 0 => some [1, 2] | 1 => some [1, 2, 9] | 2 => some [4] | 3 => some [1, 2, 5] | 4 => some [1, 2, 5, 15] | 5 => some [4] | 6 => some [1, 2, 5, 41] | 7 => some [4] | 8 => some [1, 2, 5, 6] | 9 => some [1, 2, 5, 6, 43] | 10 => some [1, 2, 5, 6, 43, 44] | 11 => some [1, 2, 5, 6, 43, 44] | 12 => some [1, 2, 5, 6, 43, 44] | 13 => some [1, 2, 5, 6, 43, 44] | 14 => some [1, 2, 5, 6, 43, 44] | 15 => some [1, 2, 5, 6, 43, 51] | 16 => some [1, 2, 5, 6, 43, 51] | 17 => some [1, 2, 5, 6, 43, 44] | 18 => some [1, 2, 5, 6, 56] | 19 => some [1, 2, 5, 6, 43, 44] | 20 => some [1, 2, 5, 6, 7] | 21 => some [1, 2, 5, 6, 7, 65] | 22 => some [1, 2, 5, 6, 7] | 23 => some [1, 2, 5, 6, 7] | 24 => some [4] | _ => none)
abbrev h99 : Hint := HQ h99a
@[go_sem] def h100a : Nat -> Option (List Nat) := (fun id => match id with | 0 => some [0] | 1 => some [0, 3, 4] | 2 => some [0, 3, 4, 15] | 3 => some [0, 5] | 4 => some [0, 5, 19] | 5 => some [2] | 6 => some [5] | 7 => some [2] | 8 => some [0, 3, 4, 6] | 9 => some [0, 3, 4, 6, 7] | 10 => some [0, 3, 6, 7, 32] | 11 => some [0, 3, 4, 6, 7] | 12 => some [0, 6, 7] | 13 => some [0, 6, 7] | 14 => some [0, 3, 4, 6, 7] | 15 => some [0, 6, 54] | 16 => some [0, 6, 54] | 17 => some [6, 68] | 18 => some [2] | 19 => some [2] | _ => none)
abbrev h100 : Hint := HQ h100a
@[go_sem] def h101a : Nat -> Option (List Nat) := (fun id => match id with | 0 => some [0] | 1 => some [2] | _ => none)
abbrev h101 : Hint := HQ h101a
@[go_sem] def h102a : Nat -> Option (List Nat) := (fun id => match id with | 0 => some [0] | 1 => some [2] | _ => none)
abbrev h102 : Hint := HQ h102a
@[go_sem] def h103a : Nat -> Option (List Nat) := (fun id => match id with | 0 => some [0, 4] | 1 => some [0] | _ => none)
abbrev h103 : Hint := HQ h103a
@[go_sem] def h104a : Nat -> Option (List Nat) := (fun id => match id with | 0 => some [0, 2] | 1 => some [0, 2, 5, 6] | 2 => some [0, 2, 5, 6, 28] | 3 => some [0, 2, 5, 6] | 4 => some [0, 2, 5, 6, 28] | 5 => some [0, 2, 5, 6, 7] | 6 => some [0, 2, 6, 7, 8, 9, 10] | 7 => some [0, 2, 5, 6, 8, 9, 10] | 8 => some [0, 2, 5, 6, 8, 9, 10, 52] | 9 => some [0, 2, 5, 6, 7, 8] | 10 => some [0, 2, 5, 6, 7, 8, 60] | 11 => some [2, 3, 4] | 12 => some [0, 2, 5, 6, 7, 8] | 13 => some [0, 2, 6, 7, 8, 9, 10] | 14 => some [0, 2, 5, 6, 8, 9, 10, 52] | 15 => some [0, 2, 5, 6, 8, 9, 10, 75] | 16 => some [2, 3, 4] | 17 => some [0, 2, 5, 6, 8, 9, 10, 11] | 18 => some [0, 2, 5, 6, 8, 9, 10, 11, 80] | 19 => some [0, 2, 5, 6, 8, 9, 11, 90] | 20 => some [2, 3, 4] | 21 => some [0, 2, 5, 6, 8, 9, 10, 11] | 22 => some [0, 2, 5, 6, 8, 9, 10, 11] | 23 => some [0, 2, 5, 6, 8, 9, 10, 11, 12] | 24 => some [0, 2, 5, 6, 8, 9, 10, 11, 12, 109] | 25 => some [0, 2, 5, 6, 8, 9, 10, 11, 12] | 26 => some [0, 2, 5, 6, 8, 9, 10, 11, 12, 109] | 27 => some [0, 2, 5, 6, 7, 8, 9, 10, 11, 12] | 28 => some [0, 2, 5, 6, 7, 8, 9, 10, 11, 12, 127] | 29 => some [2, 3, 4] | 30 => some [0, 2, 5, 6, 7, 8, 9, 10, 11, 12, 131] | 31 => some [0, 2, 5, 6, 7, 8, 9, 10, 11, 12, 127] | 32 => some [0, 2, 5, 6, 7, 8, 9, 10, 11, 12] | 33 => some [2, 6, 8, 9, 10, 11, 143] | 34 => some [0, 2, 5, 6, 8, 9, 10, 11, 80] | 35 => some [2, 3, 4] | _ => none)
abbrev h104 : Hint := HQ h104a
@[go_sem] def h105a : Nat -> Option (List Nat) := (fun id => match id with | 0 => some [0, 2] | 1 => some [0, 2] | 2 => some [0, 2, 3] | 3 => some [0, 2, 3, 4] | 4 => some [0, 2, 3] | 5 => some [0, 2, 3] | 6 => some [0, 2, 3, 4, 20] | 7 => some [2, 3] | 8 => some [2] | 9 => some [0, 2, 3, 4, 37] | 10 => some [0, 2, 3] | 11 => some [0, 2, 3, 4] | 12 => some [0, 2, 3, 49] | 13 => some [2] | 14 => some [0, 2, 3, 4, 52] | 15 => some [2] | 16 => some [0, 2, 3, 4, 69] | 17 => some [0, 2, 3, 76] | 18 => some [2] | 19 => some [0, 2, 3] | 20 => some [0, 2, 3] | _ => none)
def h105 : Hint := ⟨h105a, (fun _ => none), (fun _ => none), [3], false, (fun _ => none), fun _ => 0, 0, false, (fun _ => none)⟩
@[go_sem] theorem h105x : h105.mix = (fun _ => none) := rfl
@[go_sem] theorem h105l : h105.live = h105a := rfl
@[go_sem] theorem h105o : h105.mode = fun _ => 0 := rfl
@[go_sem] theorem h105k : h105.keep = (fun _ => none) := rfl
@[go_sem] theorem h105t : h105.tail = (fun _ => none) := rfl
@[go_sem] theorem h105v : h105.vars = [3] := rfl
@[go_sem] theorem h105m : h105.mutc = false := rfl
@[go_sem] def h106a : Nat -> Option (List Nat) := (fun id => match id with | 0 => some [0] | 1 => some [0, 3] | 2 => some [3, 6, 7, 8] | 3 => some [3, 6, 7, 8, 9] | 4 => some [3, 5, 6, 7, 8] | 5 => some [3, 5, 6, 7, 8, 14] | 6 => some [3, 5, 6, 7, 8, 14] | 7 => some [3, 6, 7, 8] | 8 => some [3, 5, 6, 7, 8, 36] | 9 => some [3, 6, 7, 8] | 10 => some [3, 5, 6, 7, 8, 44] | 11 => some [3, 6, 7, 8] | 12 => some [3, 5, 6, 7, 8, 58] | 13 => some [3, 6, 7, 8] | 14 => some [3, 6, 7, 8] | 15 => some [2] | _ => none)
def h106 : Hint := ⟨h106a, (fun _ => none), (fun _ => none), [3], false, (fun _ => none), fun _ => 0, 0, false, (fun _ => none)⟩
@[go_sem] theorem h106x : h106.mix = (fun _ => none) := rfl
@[go_sem] theorem h106l : h106.live = h106a := rfl
@[go_sem] theorem h106o : h106.mode = fun _ => 0 := rfl
@[go_sem] theorem h106k : h106.keep = (fun _ => none) := rfl
@[go_sem] theorem h106t : h106.tail = (fun _ => none) := rfl
@[go_sem] theorem h106v : h106.vars = [3] := rfl
@[go_sem] theorem h106m : h106.mutc = false := rfl
@[go_sem] def h107a : Nat -> Option (List Nat) := (fun id => match id with | 0 => some [0] | 1 => some [0, 5] | 2 => some [2, 3, 4] | 3 => some [0, 12] | 4 => some [2, 3, 4] | 5 => some [0, 15] | 6 => some [2, 3, 4] | 7 => some [0, 18] | 8 => some [2, 3, 4] | 9 => some [0, 25] | 10 => some [2, 3, 4] | 11 => some [0, 28] | 12 => some [2, 3, 4] | 13 => some [35] | 14 => some [2, 3, 4] | 15 => some [2, 3, 4] | _ => none)
abbrev h107 : Hint := HQ h107a
@[go_sem] def h109a : Nat -> Option (List Nat) := (fun id => match id with | 0 => some [0] | 1 => some [0] | _ => none)
abbrev h109 : Hint := HQ h109a
@[go_sem] def h112a : Nat -> Option (List Nat) := (fun id => match id with | 0 => some [1] | 1 => some [2] | _ => none)
abbrev h112 : Hint := HQ h112a
@[go_sem] def h113a : Nat -> Option (List Nat) := (fun id => match id with | 0 => some [] | 1 => some [0] | _ => none)
abbrev h113 : Hint := HQ h113a
@[go_sem] def h114a : Nat -> Option (List Nat) := (fun id => match id with | 0 => some [0, 2] | 1 => some [0, 2, 4, 5] | 2 => some [0, 2, 4, 14] | 3 => some [2, 3] | 4 => some [0, 2, 4, 6] | 5 => some [0, 2, 4, 6, 7] | 6 => some [0, 2, 4, 6, 7, 22] | 7 => some [0, 2, 4, 5, 6, 7] | 8 => some [0, 2, 4, 6, 7, 29] | 9 => some [2, 3] | 10 => some [0, 2, 4, 6, 32] | 11 => some [0, 2, 4, 6, 32] | 12 => some [0, 2, 4, 6] | 13 => some [2, 3] | _ => none)
def h114 : Hint := ⟨h114a, (fun _ => none), (fun id => match id with | 4 => some 2 | _ => none), [], false, (fun _ => none), fun _ => 0, 0, false, (fun _ => none)⟩
@[go_sem] theorem h114x : h114.mix = (fun _ => none) := rfl
@[go_sem] theorem h114l : h114.live = h114a := rfl
@[go_sem] theorem h114o : h114.mode = fun _ => 0 := rfl
@[go_sem] theorem h114k : h114.keep = (fun _ => none) := rfl
@[go_sem] theorem h114t : h114.tail = (fun id => match id with | 4 => some 2 | _ => none) := rfl
@[go_sem] theorem h114v : h114.vars = [] := rfl
@[go_sem] theorem h114m : h114.mutc = false := rfl
@[go_sem] def h115a : Nat -> Option (List Nat) := (fun id => match id with | 0 => some [0] | 1 => some [0, 4] | 2 => some [2, 3] | 3 => some [0, 9] | 4 => some [2, 3] | 5 => some [0, 19] | 6 => some [2, 3] | 7 => some [2, 3] | _ => none)
abbrev h115 : Hint := HQ h115a
@[go_sem] def h116a : Nat -> Option (List Nat) := (fun id => match id with | 0 => some [0, 1] | 1 => some [0, 1, 14] | 2 => some [0, 1] | 3 => some [4] | _ => none)
abbrev h116 : Hint := HQ h116a
@[go_sem] def h117a : Nat -> Option (List Nat) := (fun id => match id with | 0 => some [0, 1, 2, 6] | 1 => some [0, 1, 2, 6, 7, 8] | 2 => some [0, 1, 2, 6, 7, 8, 25] | 3 => some [0, 1, 2, 6, 7, 8] | 4 => some [0, 1, 2, 6, 7, 8, 30] | 5 => some [6] | 6 => some [0, 1, 2, 6, 7, 8, 36] | 7 => some [0, 1, 2, 6, 7, 8] | 8 => some [0, 1, 2, 6, 7, 8, 30] | 9 => some [0, 1, 2, 6, 7, 8, 44] | 10 => some [6] | 11 => some [0, 1, 2, 6, 7, 8, 9] | 12 => some [0, 2, 6, 9, 50, 51, 52] | 13 => some [0, 2, 6, 9, 50, 51, 52, 53] | 14 => some [0, 2, 6, 9, 11, 50, 51, 52] | 15 => some [0, 2, 6, 9, 50, 51, 52] | 16 => some [0, 2, 6, 9, 50, 51, 52] | 17 => some [0, 2, 6, 9, 12] | 18 => some [0, 2, 6, 9, 12, 64] | 19 => some [0, 2, 6, 9, 12] | 20 => some [0, 2, 6, 9, 12, 68] | 21 => some [6] | 22 => some [0, 2, 6, 9, 12] | 23 => some [0, 6, 9, 12, 13, 14] | 24 => some [0, 6, 9, 12, 13, 14, 82] | 25 => some [0, 6, 9, 12, 13, 14] | 26 => some [0, 6, 9, 12, 13, 14, 93] | 27 => some [0, 6, 9, 12, 13, 14] | 28 => some [0, 6, 9, 12, 13, 14, 103] | 29 => some [6] | 30 => some [0, 6, 9, 12, 13, 14, 106] | 31 => some [0, 6, 9, 12, 13, 14, 103] | 32 => some [0, 6, 9, 12, 13, 14] | 33 => some [0, 6, 9, 12, 14, 112] | 34 => some [0, 6, 9, 12, 13, 14, 103] | 35 => some [0, 6, 9, 12, 14, 116] | 36 => some [6] | 37 => some [0, 6, 9, 12, 14] | 38 => some [6, 9, 12, 120] | 39 => some [6] | 40 => some [6] | _ => none)
abbrev h117 : Hint := HQ h117a
@[go_sem] def h118a : Nat -> Option (List Nat) := (fun id => match id with | 0 => some [0, 2] | 1 => some [0, 2, 3] | 2 => some [0, 2, 3] | 3 => some [0, 2, 3, 18] | 4 => some [2] | 5 => some [0, 2, 23] | 6 => some [0, 2] | _ => none)
abbrev h118 : Hint := HQ h118a
@[go_sem] def h119a : Nat -> Option (List Nat) := (fun id => match id with | 0 => some [0] | 1 => some [2] | _ => none)
abbrev h119 : Hint := HQ h119a
@[go_sem] def h124a : Nat -> Option (List Nat) := (fun id => match id with | 0 => some [1] | 1 => some [2] | _ => none)
def h124 : Hint := ⟨h124a, (fun _ => none), (fun id => match id with | 1 => some 18 | _ => none), [], false, (fun _ => none), fun _ => 0, 0, false, (fun _ => none)⟩
@[go_sem] theorem h124e : h124.late = (fun _ => none) := rfl
@[go_sem] theorem h124x : h124.mix = (fun _ => none) := rfl
@[go_sem] theorem h124l : h124.live = h124a := rfl
@[go_sem] theorem h124o : h124.mode = fun _ => 0 := rfl
@[go_sem] theorem h124k : h124.keep = (fun _ => none) := rfl
@[go_sem] theorem h124t : h124.tail = (fun id => match id with | 1 => some 18 | _ => none) := rfl
@[go_sem] theorem h124v : h124.vars = [] := rfl
@[go_sem] theorem h124m : h124.mutc = false := rfl
@[go_sem] def h125a : Nat -> Option (List Nat) := (fun id => match id with | 0 => some [0, 2] | 1 => some [0, 2, 4, 5] | 2 => some [0, 2, 4, 14] | 3 => some [2, 3] | 4 => some [0, 2, 4, 6] | 5 => some [0, 2, 4, 6, 7] | 6 => some [0, 2, 4, 6, 7, 22] | 7 => some [0, 2, 4, 5, 6, 7] | 8 => some [0, 2, 4, 6, 7, 29] | 9 => some [2, 3] | 10 => some [0, 2, 4, 6, 32] | 11 => some [0, 2, 4, 6, 32] | 12 => some [0, 2, 4, 6] | 13 => some [2, 3] | _ => none)
def h125 : Hint := ⟨h125a, (fun _ => none), (fun id => match id with | 4 => some 2 | _ => none), [], false, (fun _ => none), fun _ => 0, 0, false, (fun _ => none)⟩
@[go_sem] theorem h125x : h125.mix = (fun _ => none) := rfl
@[go_sem] theorem h125l : h125.live = h125a := rfl
@[go_sem] theorem h125o : h125.mode = fun _ => 0 := rfl
@[go_sem] theorem h125k : h125.keep = (fun _ => none) := rfl
@[go_sem] theorem h125t : h125.tail = (fun id => match id with | 4 => some 2 | _ => none) := rfl
@[go_sem] theorem h125v : h125.vars = [] := rfl
@[go_sem] theorem h125m : h125.mutc = false := rfl
@[go_sem] def h126a : Nat -> Option (List Nat) := (fun id => match id with | 0 => some [1, 2, 3, 4] | 1 => some [1, 2, 3, 4, 9] | 2 => some [1, 2, 3, 4, 9, 10] | 3 => some [1, 2, 3, 4, 9, 10, 11] | 4 => some [1, 2, 3, 4, 9, 10, 11, 45] | 5 => some [1, 2, 3, 4, 9, 10, 11, 12] | 6 => some [1, 2, 3, 4, 9, 10, 11, 12] | 7 => some [1, 2, 3, 4, 9, 11, 12, 13] | 8 => some [4, 9, 12, 84] | 9 => some [8] | 10 => some [] | 11 => some [8] | _ => none)
def h126 : Hint := ⟨h126a, (fun _ => none), (fun id => match id with | 4 => some 25 | 5 => some 12 | _ => none), [], false, (fun _ => none), fun _ => 0, 0, false, (fun _ => none)⟩
@[go_sem] theorem h126e : h126.late = (fun _ => none) := rfl
@[go_sem] theorem h126x : h126.mix = (fun _ => none) := rfl
@[go_sem] theorem h126l : h126.live = h126a := rfl
@[go_sem] theorem h126o : h126.mode = fun _ => 0 := rfl
@[go_sem] theorem h126k : h126.keep = (fun _ => none) := rfl
@[go_sem] theorem h126t : h126.tail = (fun id => match id with | 4 => some 25 | 5 => some 12 | _ => none) := rfl
@[go_sem] theorem h126v : h126.vars = [] := rfl
@[go_sem] theorem h126m : h126.mutc = false := rfl
@[go_sem] def h127a : Nat -> Option (List Nat) := (fun id => match id with | 0 => some [1, 2] | 1 => some [1, 2, 6] | 2 => some [2] | 3 => some [2] | _ => none)
abbrev h127 : Hint := HQ h127a
@[go_sem] def h128a : Nat -> Option (List Nat) := (fun id => match id with | 0 => some [0] | 1 => some [2] | _ => none)
abbrev h128 : Hint := HQ h128a
@[go_sem] def h130a : Nat -> Option (List Nat) := (fun id => match id with | 0 => some [0, 1] | 1 => some [0, 1, 6] | 2 => some [0, 1] | 3 => some [4] | _ => none)
abbrev h130 : Hint := HQ h130a
@[go_sem] def h131a : Nat -> Option (List Nat) := (fun id => match id with | 0 => some [0] | 1 => some [0, 4] | 2 => some [2] | 3 => some [2] | _ => none)
abbrev h131 : Hint := HQ h131a
@[go_sem] def h132a : Nat -> Option (List Nat) := (fun id => match id with | 0 => some [0, 2] | 1 => some [0, 2, 14] | 2 => some [2, 3] | 3 => some [0, 2, 4] | 4 => some [2, 4] | 5 => some [2, 4, 36] | 6 => some [2, 3] | 7 => some [2, 3] | _ => none)
@[go_sem] def h132M : Nat -> Option Mix := (fun id => match id with | 3 => some ⟨[0, 1, 2, 3, 4, 5, 6, 7, 8, 9], [], .head 0 (.head 1 (.head 2 (.head 3 (.head 4 (.head 5 (.head 6 (.head 7 (.head 8 (.head 9 (.one 10 (.one 11 (.fin))))))))))))⟩ | _ => none)
def h132 : Hint := ⟨h132a, (fun _ => none), (fun id => match id with | 1 => some 10 | 3 => some 10 | _ => none), [], false, h132M, fun _ => 0, 0, false, (fun _ => none)⟩
@[go_sem] theorem h132e : h132.late = (fun _ => none) := rfl
@[go_sem] theorem h132x : h132.mix = h132M := rfl
@[go_sem] theorem h132l : h132.live = h132a := rfl
@[go_sem] theorem h132o : h132.mode = fun _ => 0 := rfl
@[go_sem] theorem h132k : h132.keep = (fun _ => none) := rfl
@[go_sem] theorem h132t : h132.tail = (fun id => match id with | 1 => some 10 | 3 => some 10 | _ => none) := rfl
@[go_sem] theorem h132v : h132.vars = [] := rfl
@[go_sem] theorem h132m : h132.mutc = false := rfl
@[go_sem] def h133a : Nat -> Option (List Nat) := (fun id => match id with | 0 => some [0] | 1 => some [0, 2] | 2 => some [0, 2, 31] | 3 => some [0, 2] | 4 => some [1] | _ => none)
def h133 : Hint := ⟨h133a, (fun _ => none), (fun id => match id with | 2 => some 25 | _ => none), [], false, (fun _ => none), fun _ => 0, 0, false, (fun _ => none)⟩
@[go_sem] theorem h133e : h133.late = (fun _ => none) := rfl
@[go_sem] theorem h133x : h133.mix = (fun _ => none) := rfl
@[go_sem] theorem h133l : h133.live = h133a := rfl
@[go_sem] theorem h133o : h133.mode = fun _ => 0 := rfl
@[go_sem] theorem h133k : h133.keep = (fun _ => none) := rfl
@[go_sem] theorem h133t : h133.tail = (fun id => match id with | 2 => some 25 | _ => none) := rfl
@[go_sem] theorem h133v : h133.vars = [] := rfl
@[go_sem] theorem h133m : h133.mutc = false := rfl
def hints (f : Nat) : Hint := match f with
 | 5 => h5
 | 7 => h7
 | 9 => h9
 | 10 => h10
 | 12 => h12
 | 13 => h13
 | 15 => h15
 | 17 => h17
 | 18 => h18
 | 19 => h19
 | 21 => h21
 | 22 => h22
 | 23 => h23
 | 25 => h25
 | 26 => h26
 | 28 => h28
 | 30 => h30
 | 31 => h31
 | 32 => h32
 | 33 => h33
 | 34 => h34
 | 35 => h35
 | 36 => h36
 | 37 => h37
 | 38 => h38
 | 39 => h39
 | 40 => h40
 | 41 => h41
 | 44 => h44
 | 45 => h45
 | 46 => h46
 | 47 => h47
 | 53 => h53
 | 54 => h54
 | 55 => h55
 | 56 => h56
 | 57 => h57
 | 58 => h58
 | 59 => h59
 | 60 => h60
 | 61 => h61
 | 62 => h62
 | 64 => h64
 | 65 => h65
 | 66 => h66
 | 67 => h67
 | 68 => h68
 | 71 => h71
 | 72 => h72
 | 73 => h73
 | 74 => h74
 | 75 => h75
 | 77 => h77
 | 78 => h78
 | 79 => h79
 | 80 => h80
 | 81 => h81
 | 82 => h82
 | 83 => h83
 | 84 => h84
 | 85 => h85
 | 86 => h86
 | 87 => h87
 | 88 => h88
 | 89 => h89
 | 94 => h94
 | 95 => h95
 | 96 => h96
 | 97 => h97
 | 98 => h98
 | 99 => h99
 | 100 => h100
 | 101 => h101
 | 102 => h102
 | 103 => h103
 | 104 => h104
 | 105 => h105
 | 106 => h106
 | 107 => h107
 | 109 => h109
 | 112 => h112
 | 113 => h113
 | 114 => h114
 | 115 => h115
 | 116 => h116
 | 117 => h117
 | 118 => h118
 | 119 => h119
 | 124 => h124
 | 125 => h125
 | 126 => h126
 | 127 => h127
 | 128 => h128
 | 130 => h130
 | 131 => h131
 | 132 => h132
 | 133 => h133
 | _ => ⟨fun _ => none, fun _ => none, fun _ => none, [], false, fun _ => none, fun _ => 0, 0, false, fun _ => none⟩
noncomputable def E : CallF := ev Tryz.prog hints primz
noncomputable def b5 : Code := bodyOf Tryz.f5
abbrev EQ (f n : Nat) (rs : List ResultVar) (hi : Hint) (b : Code) : Prop := ∀ {lo : Nat} {args : List V} {h : Heap}, args.length <= n -> args.all bare = true -> E lo f args h = fin Tryz.prog rs h.length (evCode ⟨Tryz.prog, E, lo, h.length, hi⟩ loopW b (args0 args, h))
theorem e5 : EQ 5 40 [.tmp 4] h5 b5 := fun ha hb => ev_body rfl Tryz.func5 rfl Tryz.ntmps5 (by kernel_rfl) rfl (by kernel_rfl) rfl rfl rfl ha hb
noncomputable def b7 : Code := bodyOf Tryz.f7
theorem e7 : EQ 7 5 [.tmp 2] h7 b7 := fun ha hb => ev_body rfl Tryz.func7 rfl Tryz.ntmps7 (by kernel_rfl) rfl (by kernel_rfl) rfl rfl rfl ha hb
noncomputable def b9 : Code := bodyOf Tryz.f9
noncomputable def b10 : Code := bodyOf Tryz.f10
noncomputable def b12 : Code := bodyOf Tryz.f12
theorem e12 : EQ 12 55 [.cell 2 32, .tmp 3] h12 b12 := fun ha hb => ev_body rfl Tryz.func12 rfl Tryz.ntmps12 (by kernel_rfl) rfl (by kernel_rfl) rfl rfl rfl ha hb
noncomputable def b13 : Code := bodyOf Tryz.f13
theorem e13 : EQ 13 14 [.tmp 2] h13 b13 := fun ha hb => ev_body rfl Tryz.func13 rfl Tryz.ntmps13 (by kernel_rfl) rfl (by kernel_rfl) rfl rfl rfl ha hb
noncomputable def b15 : Code := bodyOf Tryz.f15
noncomputable def l15x0 : Code := loopAt b15 0
theorem e15 : EQ 15 13 [.tmp 2] h15 b15 := fun ha hb => ev_body rfl Tryz.func15 rfl Tryz.ntmps15 (by kernel_rfl) rfl (by kernel_rfl) rfl rfl rfl ha hb
noncomputable def b17 : Code := bodyOf Tryz.f17
theorem e17 : EQ 17 91 [.cell 4 45, .tmp 5] h17 b17 := fun ha hb => ev_body rfl Tryz.func17 rfl Tryz.ntmps17 (by kernel_rfl) rfl (by kernel_rfl) rfl rfl rfl ha hb
noncomputable def b18 : Code := bodyOf Tryz.f18
noncomputable def l18x0 : Code := loopAt b18 0
noncomputable def l18x1 : Code := loopAt b18 1
theorem e18 : EQ 18 73 [.tmp 4] h18 b18 := fun ha hb => ev_body rfl Tryz.func18 rfl Tryz.ntmps18 (by kernel_rfl) rfl (by kernel_rfl) rfl rfl rfl ha hb
noncomputable def b19 : Code := bodyOf Tryz.f19
theorem e19 : EQ 19 31 [.tmp 4] h19 b19 := fun ha hb => ev_body rfl Tryz.func19 rfl Tryz.ntmps19 (by kernel_rfl) rfl (by kernel_rfl) rfl rfl rfl ha hb
noncomputable def b21 : Code := bodyOf Tryz.f21
theorem c21 : codeOk Tryz.prog h21 9 b21 = true := by kernel_rfl
/- a method -/
theorem e21 {lo : Nat} {args : List V} {h : Heap} (ha : args.length <= 9) (hb : args.all bare = true) :
  E lo 21 args h = fin Tryz.prog [.tmp 4] h.length (evCode ⟨Tryz.prog, E, lo, h.length, h21⟩ loopW b21 (args0 args, h)) :=
 ev_body rfl Tryz.func21 rfl Tryz.ntmps21 (by kernel_rfl) rfl c21 rfl rfl rfl ha hb
noncomputable def b22 : Code := bodyOf Tryz.f22
theorem c22 : codeOk Tryz.prog h22 10 b22 = true := by kernel_rfl
/- a method -/
theorem e22 {lo : Nat} {args : List V} {h : Heap} (ha : args.length <= 10) (hb : args.all bare = true) :
  E lo 22 args h = fin Tryz.prog [.tmp 2] h.length (evCode ⟨Tryz.prog, E, lo, h.length, h22⟩ loopW b22 (args0 args, h)) :=
 ev_body rfl Tryz.func22 rfl Tryz.ntmps22 (by kernel_rfl) rfl c22 rfl rfl rfl ha hb
noncomputable def b23 : Code := bodyOf Tryz.f23
theorem e23 : EQ 23 14 [.tmp 2] h23 b23 := fun ha hb => ev_body rfl Tryz.func23 rfl Tryz.ntmps23 (by kernel_rfl) rfl (by kernel_rfl) rfl rfl rfl ha hb
noncomputable def b25 : Code := bodyOf Tryz.f25
noncomputable def l25x0 : Code := loopAt b25 0
noncomputable def l25x1 : Code := loopAt b25 1
theorem e25 : EQ 25 66 [.tmp 2] h25 b25 := fun ha hb => ev_body rfl Tryz.func25 rfl Tryz.ntmps25 (by kernel_rfl) rfl (by kernel_rfl) rfl rfl rfl ha hb
noncomputable def b26 : Code := bodyOf Tryz.f26
theorem e26 : EQ 26 6 [.tmp 2] h26 b26 := fun ha hb => ev_body rfl Tryz.func26 rfl Tryz.ntmps26 (by kernel_rfl) rfl (by kernel_rfl) rfl rfl rfl ha hb
noncomputable def b28 : Code := bodyOf Tryz.f28
theorem e28 : EQ 28 16 [.tmp 0] h28 b28 := fun ha hb => ev_body rfl Tryz.func28 rfl Tryz.ntmps28 (by kernel_rfl) rfl (by kernel_rfl) rfl rfl rfl ha hb
noncomputable def b30 : Code := bodyOf Tryz.f30
noncomputable def l30x0 : Code := loopAt b30 0
theorem c30 : codeOk Tryz.prog h30 18 b30 = true := by kernel_rfl
theorem e30 {lo : Nat} {args : List V} {h : Heap} (ha : args.length <= 18) (hb : args.all bare = true) :
  E lo 30 args h = finR Tryz.prog [.tmp 0] h.length 1 false (evCode ⟨Tryz.prog, E, lo, h.length, h30⟩ loopW b30 (args0 args, h)) :=
 ev_bodyR rfl Tryz.func30 rfl Tryz.ntmps30 (by kernel_rfl) rfl c30 rfl rfl rfl ha hb
noncomputable def b31 : Code := bodyOf Tryz.f31
theorem e31 : EQ 31 8 [.tmp 4] h31 b31 := fun ha hb => ev_body rfl Tryz.func31 rfl Tryz.ntmps31 (by kernel_rfl) rfl (by kernel_rfl) rfl rfl rfl ha hb
noncomputable def b32 : Code := bodyOf Tryz.f32
theorem e32 : EQ 32 5 [.tmp 2] h32 b32 := fun ha hb => ev_body rfl Tryz.func32 rfl Tryz.ntmps32 (by kernel_rfl) rfl (by kernel_rfl) rfl rfl rfl ha hb
noncomputable def b33 : Code := bodyOf Tryz.f33
noncomputable def l33x0 : Code := loopAt b33 0
theorem e33 : EQ 33 41 [.tmp 4] h33 b33 := fun ha hb => ev_body rfl Tryz.func33 rfl Tryz.ntmps33 (by kernel_rfl) rfl (by kernel_rfl) rfl rfl rfl ha hb
noncomputable def b34 : Code := bodyOf Tryz.f34
theorem e34 : EQ 34 6 [.tmp 2] h34 b34 := fun ha hb => ev_body rfl Tryz.func34 rfl Tryz.ntmps34 (by kernel_rfl) rfl (by kernel_rfl) rfl rfl rfl ha hb
noncomputable def b35 : Code := bodyOf Tryz.f35
noncomputable def l35x0 : Code := loopAt b35 0
theorem e35 : EQ 35 30 [.tmp 2] h35 b35 := fun ha hb => ev_body rfl Tryz.func35 rfl Tryz.ntmps35 (by kernel_rfl) rfl (by kernel_rfl) rfl rfl rfl ha hb
noncomputable def b36 : Code := bodyOf Tryz.f36
noncomputable def l36x0 : Code := loopAt b36 0
theorem e36 : EQ 36 82 [.tmp 2] h36 b36 := fun ha hb => ev_body rfl Tryz.func36 rfl Tryz.ntmps36 (by kernel_rfl) rfl (by kernel_rfl) rfl rfl rfl ha hb
noncomputable def b37 : Code := bodyOf Tryz.f37
theorem c37 : codeOk Tryz.prog h37 9 b37 = true := by kernel_rfl
/- a method -/
theorem e37 {lo : Nat} {args : List V} {h : Heap} (ha : args.length <= 9) (hb : args.all bare = true) :
  E lo 37 args h = fin Tryz.prog [.tmp 4] h.length (evCode ⟨Tryz.prog, E, lo, h.length, h37⟩ loopW b37 (args0 args, h)) :=
 ev_body rfl Tryz.func37 rfl Tryz.ntmps37 (by kernel_rfl) rfl c37 rfl rfl rfl ha hb
noncomputable def b38 : Code := bodyOf Tryz.f38
theorem e38 : EQ 38 82 [.cell 4 45, .tmp 5] h38 b38 := fun ha hb => ev_body rfl Tryz.func38 rfl Tryz.ntmps38 (by kernel_rfl) rfl (by kernel_rfl) rfl rfl rfl ha hb
noncomputable def b39 : Code := bodyOf Tryz.f39
noncomputable def l39x0 : Code := loopAt b39 0
theorem e39 : EQ 39 53 [.tmp 4] h39 b39 := fun ha hb => ev_body rfl Tryz.func39 rfl Tryz.ntmps39 (by kernel_rfl) rfl (by kernel_rfl) rfl rfl rfl ha hb
noncomputable def b40 : Code := bodyOf Tryz.f40
noncomputable def l40x0 : Code := loopAt b40 0
theorem e40 : EQ 40 26 [.tmp 4] h40 b40 := fun ha hb => ev_body rfl Tryz.func40 rfl Tryz.ntmps40 (by kernel_rfl) rfl (by kernel_rfl) rfl rfl rfl ha hb
noncomputable def b41 : Code := bodyOf Tryz.f41
noncomputable def l41x0 : Code := loopAt b41 0
theorem c41 : codeOk Tryz.prog h41 19 b41 = true := by kernel_rfl
/- a method -/
theorem e41 {lo : Nat} {args : List V} {h : Heap} (ha : args.length <= 19) (hb : args.all bare = true) :
  E lo 41 args h = fin Tryz.prog [.tmp 4] h.length (evCode ⟨Tryz.prog, E, lo, h.length, h41⟩ loopW b41 (args0 args, h)) :=
 ev_body rfl Tryz.func41 rfl Tryz.ntmps41 (by kernel_rfl) rfl c41 rfl rfl rfl ha hb
noncomputable def b44 : Code := bodyOf Tryz.f44
theorem e44 : EQ 44 11 [.tmp 2] h44 b44 := fun ha hb => ev_body rfl Tryz.func44 rfl Tryz.ntmps44 (by kernel_rfl) rfl (by kernel_rfl) rfl rfl rfl ha hb
noncomputable def b45 : Code := bodyOf Tryz.f45
theorem e45 : EQ 45 56 [.tmp 2] h45 b45 := fun ha hb => ev_body rfl Tryz.func45 rfl Tryz.ntmps45 (by kernel_rfl) rfl (by kernel_rfl) rfl rfl rfl ha hb
noncomputable def b46 : Code := bodyOf Tryz.f46
noncomputable def l46x0 : Code := loopAt b46 0
theorem e46 : EQ 46 19 [.tmp 2] h46 b46 := fun ha hb => ev_body rfl Tryz.func46 rfl Tryz.ntmps46 (by kernel_rfl) rfl (by kernel_rfl) rfl rfl rfl ha hb
noncomputable def b47 : Code := bodyOf Tryz.f47
noncomputable def l47x0 : Code := loopAt b47 0
theorem e47 : EQ 47 58 [.tmp 2] h47 b47 := fun ha hb => ev_body rfl Tryz.func47 rfl Tryz.ntmps47 (by kernel_rfl) rfl (by kernel_rfl) rfl rfl rfl ha hb
noncomputable def b53 : Code := bodyOf Tryz.f53
theorem e53 : EQ 53 18 [.tmp 4] h53 b53 := fun ha hb => ev_body rfl Tryz.func53 rfl Tryz.ntmps53 (by kernel_rfl) rfl (by kernel_rfl) rfl rfl rfl ha hb
noncomputable def b54 : Code := bodyOf Tryz.f54
noncomputable def l54x0 : Code := loopAt b54 0
theorem e54 : EQ 54 43 [.tmp 4] h54 b54 := fun ha hb => ev_body rfl Tryz.func54 rfl Tryz.ntmps54 (by kernel_rfl) rfl (by kernel_rfl) rfl rfl rfl ha hb
noncomputable def b55 : Code := bodyOf Tryz.f55
theorem e55 : EQ 55 37 [.tmp 2] h55 b55 := fun ha hb => ev_body rfl Tryz.func55 rfl Tryz.ntmps55 (by kernel_rfl) rfl (by kernel_rfl) rfl rfl rfl ha hb
noncomputable def b56 : Code := bodyOf Tryz.f56
noncomputable def l56x0 : Code := loopAt b56 0
theorem e56 : EQ 56 23 [.tmp 2] h56 b56 := fun ha hb => ev_body rfl Tryz.func56 rfl Tryz.ntmps56 (by kernel_rfl) rfl (by kernel_rfl) rfl rfl rfl ha hb
noncomputable def b57 : Code := bodyOf Tryz.f57
noncomputable def l57x0 : Code := loopAt b57 0
noncomputable def l57x1 : Code := loopAt b57 1
theorem e57 : EQ 57 32 [.tmp 2] h57 b57 := fun ha hb => ev_body rfl Tryz.func57 rfl Tryz.ntmps57 (by kernel_rfl) rfl (by kernel_rfl) rfl rfl rfl ha hb
noncomputable def b58 : Code := bodyOf Tryz.f58
theorem e58 : EQ 58 12 [.tmp 2] h58 b58 := fun ha hb => ev_body rfl Tryz.func58 rfl Tryz.ntmps58 (by kernel_rfl) rfl (by kernel_rfl) rfl rfl rfl ha hb
noncomputable def b59 : Code := bodyOf Tryz.f59
noncomputable def l59x0 : Code := loopAt b59 0
theorem c59 : codeOk Tryz.prog h59 19 b59 = true := by kernel_rfl
/- a method -/
theorem e59 {lo : Nat} {args : List V} {h : Heap} (ha : args.length <= 19) (hb : args.all bare = true) :
  E lo 59 args h = fin Tryz.prog [.tmp 4] h.length (evCode ⟨Tryz.prog, E, lo, h.length, h59⟩ loopW b59 (args0 args, h)) :=
 ev_body rfl Tryz.func59 rfl Tryz.ntmps59 (by kernel_rfl) rfl c59 rfl rfl rfl ha hb
noncomputable def b60 : Code := bodyOf Tryz.f60
theorem e60 : EQ 60 27 [.cell 2 42, .tmp 3] h60 b60 := fun ha hb => ev_body rfl Tryz.func60 rfl Tryz.ntmps60 (by kernel_rfl) rfl (by kernel_rfl) rfl rfl rfl ha hb
noncomputable def b61 : Code := bodyOf Tryz.f61
theorem e61 : EQ 61 13 [.tmp 2, .tmp 3] h61 b61 := fun ha hb => ev_body rfl Tryz.func61 rfl Tryz.ntmps61 (by kernel_rfl) rfl (by kernel_rfl) rfl rfl rfl ha hb
noncomputable def b62 : Code := bodyOf Tryz.f62
theorem e62 : EQ 62 10 [.tmp 4] h62 b62 := fun ha hb => ev_body rfl Tryz.func62 rfl Tryz.ntmps62 (by kernel_rfl) rfl (by kernel_rfl) rfl rfl rfl ha hb
noncomputable def b64 : Code := bodyOf Tryz.f64
noncomputable def l64x0 : Code := loopAt b64 0
noncomputable def l64x1 : Code := loopAt b64 1
theorem c64 : codeOk Tryz.prog h64 44 b64 = true := by kernel_rfl
/- a method -/
theorem e64 {lo : Nat} {args : List V} {h : Heap} (ha : args.length <= 44) (hb : args.all bare = true) :
  E lo 64 args h = fin Tryz.prog [] h.length (evCode ⟨Tryz.prog, E, lo, h.length, h64⟩ loopW b64 (args0 args, h)) :=
 ev_body rfl Tryz.func64 rfl Tryz.ntmps64 (by kernel_rfl) rfl c64 rfl rfl rfl ha hb
noncomputable def b65 : Code := bodyOf Tryz.f65
theorem c65 : codeOk Tryz.prog h65 33 b65 = true := by kernel_rfl
/- a method -/
theorem e65 {lo : Nat} {args : List V} {h : Heap} (ha : args.length <= 33) (hb : args.all bare = true) :
  E lo 65 args h = fin Tryz.prog [.tmp 4] h.length (evCode ⟨Tryz.prog, E, lo, h.length, h65⟩ loopW b65 (args0 args, h)) :=
 ev_body rfl Tryz.func65 rfl Tryz.ntmps65 (by kernel_rfl) rfl c65 rfl rfl rfl ha hb
noncomputable def b66 : Code := bodyOf Tryz.f66
noncomputable def l66x0 : Code := loopAt b66 0
theorem c66 : codeOk Tryz.prog h66 177 b66 = true := by kernel_rfl
/- a method -/
theorem e66 {lo : Nat} {args : List V} {h : Heap} (ha : args.length <= 177) (hb : args.all bare = true) :
  E lo 66 args h = fin Tryz.prog [.cell 2 55] h.length (evCode ⟨Tryz.prog, E, lo, h.length, h66⟩ loopW b66 (args0 args, h)) :=
 ev_body rfl Tryz.func66 rfl Tryz.ntmps66 (by kernel_rfl) rfl c66 rfl rfl rfl ha hb
noncomputable def b67 : Code := bodyOf Tryz.f67
noncomputable def l67x0 : Code := loopAt b67 0
theorem e67 : EQ 67 27 [.tmp 2] h67 b67 := fun ha hb => ev_body rfl Tryz.func67 rfl Tryz.ntmps67 (by kernel_rfl) rfl (by kernel_rfl) rfl rfl rfl ha hb
noncomputable def b68 : Code := bodyOf Tryz.f68
theorem e68 : EQ 68 5 [.cell 2 28] h68 b68 := fun ha hb => ev_body rfl Tryz.func68 rfl Tryz.ntmps68 (by kernel_rfl) rfl (by kernel_rfl) rfl rfl rfl ha hb
noncomputable def b71 : Code := bodyOf Tryz.f71
theorem e71 : EQ 71 7 [.tmp 2] h71 b71 := fun ha hb => ev_body rfl Tryz.func71 rfl Tryz.ntmps71 (by kernel_rfl) rfl (by kernel_rfl) rfl rfl rfl ha hb
noncomputable def b72 : Code := bodyOf Tryz.f72
noncomputable def l72x0 : Code := loopAt b72 0
theorem e72 : EQ 72 86 [.cell 2 42, .tmp 3] h72 b72 := fun ha hb => ev_body rfl Tryz.func72 rfl Tryz.ntmps72 (by kernel_rfl) rfl (by kernel_rfl) rfl rfl rfl ha hb
noncomputable def b73 : Code := bodyOf Tryz.f73
theorem e73 : EQ 73 5 [.tmp 2] h73 b73 := fun ha hb => ev_body rfl Tryz.func73 rfl Tryz.ntmps73 (by kernel_rfl) rfl (by kernel_rfl) rfl rfl rfl ha hb
noncomputable def b74 : Code := bodyOf Tryz.f74
noncomputable def l74x0 : Code := loopAt b74 0
theorem e74 : EQ 74 54 [.tmp 2] h74 b74 := fun ha hb => ev_body rfl Tryz.func74 rfl Tryz.ntmps74 (by kernel_rfl) rfl (by kernel_rfl) rfl rfl rfl ha hb
noncomputable def b75 : Code := bodyOf Tryz.f75
noncomputable def l75x0 : Code := loopAt b75 0
theorem e75 : EQ 75 29 [.tmp 2] h75 b75 := fun ha hb => ev_body rfl Tryz.func75 rfl Tryz.ntmps75 (by kernel_rfl) rfl (by kernel_rfl) rfl rfl rfl ha hb
noncomputable def b77 : Code := bodyOf Tryz.f77
theorem e77 : EQ 77 17 [.tmp 2] h77 b77 := fun ha hb => ev_body rfl Tryz.func77 rfl Tryz.ntmps77 (by kernel_rfl) rfl (by kernel_rfl) rfl rfl rfl ha hb
noncomputable def b78 : Code := bodyOf Tryz.f78
theorem e78 : EQ 78 13 [.tmp 2] h78 b78 := fun ha hb => ev_body rfl Tryz.func78 rfl Tryz.ntmps78 (by kernel_rfl) rfl (by kernel_rfl) rfl rfl rfl ha hb
noncomputable def b79 : Code := bodyOf Tryz.f79
noncomputable def l79x0 : Code := loopAt b79 0
theorem c79 : codeOk Tryz.prog h79 12 b79 = true := by kernel_rfl
/- a method -/
theorem e79 {lo : Nat} {args : List V} {h : Heap} (ha : args.length <= 12) (hb : args.all bare = true) :
  E lo 79 args h = fin Tryz.prog [] h.length (evCode ⟨Tryz.prog, E, lo, h.length, h79⟩ loopW b79 (args0 args, h)) :=
 ev_body rfl Tryz.func79 rfl Tryz.ntmps79 (by kernel_rfl) rfl c79 rfl rfl rfl ha hb
noncomputable def b80 : Code := bodyOf Tryz.f80
noncomputable def l80x0 : Code := loopAt b80 0
theorem c80 : codeOk Tryz.prog h80 79 b80 = true := by kernel_rfl
/- a method -/
theorem e80 {lo : Nat} {args : List V} {h : Heap} (ha : args.length <= 79) (hb : args.all bare = true) :
  E lo 80 args h = fin Tryz.prog [.cell 4 55] h.length (evCode ⟨Tryz.prog, E, lo, h.length, h80⟩ loopW b80 (args0 args, h)) :=
 ev_body rfl Tryz.func80 rfl Tryz.ntmps80 (by kernel_rfl) rfl c80 rfl rfl rfl ha hb
noncomputable def b81 : Code := bodyOf Tryz.f81
theorem e81 : EQ 81 13 [.tmp 2] h81 b81 := fun ha hb => ev_body rfl Tryz.func81 rfl Tryz.ntmps81 (by kernel_rfl) rfl (by kernel_rfl) rfl rfl rfl ha hb
noncomputable def b82 : Code := bodyOf Tryz.f82
theorem e82 : EQ 82 11 [.tmp 4] h82 b82 := fun ha hb => ev_body rfl Tryz.func82 rfl Tryz.ntmps82 (by kernel_rfl) rfl (by kernel_rfl) rfl rfl rfl ha hb
noncomputable def b83 : Code := bodyOf Tryz.f83
theorem e83 : EQ 83 27 [.tmp 6] h83 b83 := fun ha hb => ev_body rfl Tryz.func83 rfl Tryz.ntmps83 (by kernel_rfl) rfl (by kernel_rfl) rfl rfl rfl ha hb
noncomputable def b84 : Code := bodyOf Tryz.f84
noncomputable def l84x0 : Code := loopAt b84 0
theorem c84 : codeOk Tryz.prog h84 44 b84 = true := by kernel_rfl
/- a method -/
theorem e84 {lo : Nat} {args : List V} {h : Heap} (ha : args.length <= 44) (hb : args.all bare = true) :
  E lo 84 args h = fin Tryz.prog [.tmp 2] h.length (evCode ⟨Tryz.prog, E, lo, h.length, h84⟩ loopW b84 (args0 args, h)) :=
 ev_body rfl Tryz.func84 rfl Tryz.ntmps84 (by kernel_rfl) rfl c84 rfl rfl rfl ha hb
noncomputable def b85 : Code := bodyOf Tryz.f85
theorem e85 : EQ 85 25 [.tmp 6] h85 b85 := fun ha hb => ev_body rfl Tryz.func85 rfl Tryz.ntmps85 (by kernel_rfl) rfl (by kernel_rfl) rfl rfl rfl ha hb
noncomputable def b86 : Code := bodyOf Tryz.f86
theorem c86 : codeOk Tryz.prog h86 122 b86 = true := by kernel_rfl
/- a method -/
theorem e86 {lo : Nat} {args : List V} {h : Heap} (ha : args.length <= 122) (hb : args.all bare = true) :
  E lo 86 args h = fin Tryz.prog [.cell 2 55] h.length (evCode ⟨Tryz.prog, E, lo, h.length, h86⟩ loopW b86 (args0 args, h)) :=
 ev_body rfl Tryz.func86 rfl Tryz.ntmps86 (by kernel_rfl) rfl c86 rfl rfl rfl ha hb
noncomputable def b87 : Code := bodyOf Tryz.f87
noncomputable def l87x0 : Code := loopAt b87 0
theorem c87 : codeOk Tryz.prog h87 55 b87 = true := by kernel_rfl
/- a method -/
theorem e87 {lo : Nat} {args : List V} {h : Heap} (ha : args.length <= 55) (hb : args.all bare = true) :
  E lo 87 args h = fin Tryz.prog [.cell 2 55] h.length (evCode ⟨Tryz.prog, E, lo, h.length, h87⟩ loopW b87 (args0 args, h)) :=
 ev_body rfl Tryz.func87 rfl Tryz.ntmps87 (by kernel_rfl) rfl c87 rfl rfl rfl ha hb
noncomputable def b88 : Code := bodyOf Tryz.f88
theorem e88 : EQ 88 6 [.tmp 2] h88 b88 := fun ha hb => ev_body rfl Tryz.func88 rfl Tryz.ntmps88 (by kernel_rfl) rfl (by kernel_rfl) rfl rfl rfl ha hb
noncomputable def b89 : Code := bodyOf Tryz.f89
noncomputable def l89x0 : Code := loopAt b89 0
theorem e89 : EQ 89 81 [.tmp 4, .tmp 5, .tmp 6] h89 b89 := fun ha hb => ev_body rfl Tryz.func89 rfl Tryz.ntmps89 (by kernel_rfl) rfl (by kernel_rfl) rfl rfl rfl ha hb
noncomputable def b94 : Code := bodyOf Tryz.f94
theorem e94 : EQ 94 12 [.cell 4 42] h94 b94 := fun ha hb => ev_body rfl Tryz.func94 rfl Tryz.ntmps94 (by kernel_rfl) rfl (by kernel_rfl) rfl rfl rfl ha hb
noncomputable def b95 : Code := bodyOf Tryz.f95
noncomputable def l95x0 : Code := loopAt b95 0
theorem e95 : EQ 95 19 [.tmp 2] h95 b95 := fun ha hb => ev_body rfl Tryz.func95 rfl Tryz.ntmps95 (by kernel_rfl) rfl (by kernel_rfl) rfl rfl rfl ha hb
noncomputable def b96 : Code := bodyOf Tryz.f96
noncomputable def l96x0 : Code := loopAt b96 0
theorem e96 : EQ 96 30 [.tmp 2] h96 b96 := fun ha hb => ev_body rfl Tryz.func96 rfl Tryz.ntmps96 (by kernel_rfl) rfl (by kernel_rfl) rfl rfl rfl ha hb
noncomputable def b97 : Code := bodyOf Tryz.f97
noncomputable def o97x3 : Array Oper := (regsOf 3 b97).headD #[]
theorem v97x3x0 : trOk ⟨[0, 1, 2, 3, 4, 5, 6, 7, 8, 9, 10, 11, 12, 13], [], u97x3x67⟩ o97x3 u97x3x0 0 true #[true, true, true, true, true, true, true, true, true, true, true, true, true, true, true, true] = true := by
 exact tr_fin (by kernel_rfl)
theorem v97x3x1 : trOk ⟨[0, 1, 2, 3, 4, 5, 6, 7, 8, 9, 10, 11, 12, 13], [], u97x3x67⟩ o97x3 u97x3x1 1 true #[true, true, true, true, true, true, true, true, true, true, true, true, true, true, true, false] = true := by
 exact tr_one (by kernel_rfl) (by kernel_rfl) v97x3x0
theorem v97x3x2 : trOk ⟨[0, 1, 2, 3, 4, 5, 6, 7, 8, 9, 10, 11, 12, 13], [], u97x3x67⟩ o97x3 u97x3x2 2 true #[true, true, true, true, true, true, true, true, true, true, true, true, true, true, false, false] = true := by
 exact tr_one (by kernel_rfl) (by kernel_rfl) v97x3x1
theorem v97x3x3 : trOk ⟨[0, 1, 2, 3, 4, 5, 6, 7, 8, 9, 10, 11, 12, 13], [], u97x3x67⟩ o97x3 u97x3x3 2 true #[true, true, true, true, true, true, true, true, true, true, true, true, true, false, true, false] = true := by
 exact tr_head (by kernel_rfl) (by kernel_rfl) (by kernel_rfl) v97x3x1
theorem v97x3x4 : trOk ⟨[0, 1, 2, 3, 4, 5, 6, 7, 8, 9, 10, 11, 12, 13], [], u97x3x67⟩ o97x3 u97x3x4 3 true #[true, true, true, true, true, true, true, true, true, true, true, true, true, false, false, false] = true := by
 exact tr_alt (by kernel_rfl) (tr_one' (by kernel_rfl) v97x3x2) (tr_one' (by kernel_rfl) v97x3x3)
theorem v97x3x5 : trOk ⟨[0, 1, 2, 3, 4, 5, 6, 7, 8, 9, 10, 11, 12, 13], [], u97x3x67⟩ o97x3 u97x3x5 3 true #[true, true, true, true, true, true, true, true, true, true, true, true, false, false, true, false] = true := by
 exact tr_head (by kernel_rfl) (by kernel_rfl) (by kernel_rfl) v97x3x3
theorem v97x3x6 : trOk ⟨[0, 1, 2, 3, 4, 5, 6, 7, 8, 9, 10, 11, 12, 13], [], u97x3x67⟩ o97x3 u97x3x6 4 true #[true, true, true, true, true, true, true, true, true, true, true, true, false, false, false, false] = true := by
 exact tr_alt (by kernel_rfl) (tr_one' (by kernel_rfl) v97x3x4) (tr_one' (by kernel_rfl) v97x3x5)
theorem v97x3x7 : trOk ⟨[0, 1, 2, 3, 4, 5, 6, 7, 8, 9, 10, 11, 12, 13], [], u97x3x67⟩ o97x3 u97x3x7 4 true #[true, true, true, true, true, true, true, true, true, true, true, false, false, false, true, false] = true := by
 exact tr_head (by kernel_rfl) (by kernel_rfl) (by kernel_rfl) v97x3x5
theorem v97x3x8 : trOk ⟨[0, 1, 2, 3, 4, 5, 6, 7, 8, 9, 10, 11, 12, 13], [], u97x3x67⟩ o97x3 u97x3x8 5 true #[true, true, true, true, true, true, true, true, true, true, true, false, false, false, false, false] = true := by
 exact tr_alt (by kernel_rfl) (tr_one' (by kernel_rfl) v97x3x6) (tr_one' (by kernel_rfl) v97x3x7)
theorem v97x3x9 : trOk ⟨[0, 1, 2, 3, 4, 5, 6, 7, 8, 9, 10, 11, 12, 13], [], u97x3x67⟩ o97x3 u97x3x9 5 true #[true, true, true, true, true, true, true, true, true, true, false, false, false, false, true, false] = true := by
 exact tr_head (by kernel_rfl) (by kernel_rfl) (by kernel_rfl) v97x3x7
theorem v97x3x10 : trOk ⟨[0, 1, 2, 3, 4, 5, 6, 7, 8, 9, 10, 11, 12, 13], [], u97x3x67⟩ o97x3 u97x3x10 6 true #[true, true, true, true, true, true, true, true, true, true, false, false, false, false, false, false] = true := by
 exact tr_alt (by kernel_rfl) (tr_one' (by kernel_rfl) v97x3x8) (tr_one' (by kernel_rfl) v97x3x9)
theorem v97x3x11 : trOk ⟨[0, 1, 2, 3, 4, 5, 6, 7, 8, 9, 10, 11, 12, 13], [], u97x3x67⟩ o97x3 u97x3x11 6 true #[true, true, true, true, true, true, true, true, true, false, false, false, false, false, true, false] = true := by
 exact tr_head (by kernel_rfl) (by kernel_rfl) (by kernel_rfl) v97x3x9
theorem v97x3x12 : trOk ⟨[0, 1, 2, 3, 4, 5, 6, 7, 8, 9, 10, 11, 12, 13], [], u97x3x67⟩ o97x3 u97x3x12 7 true #[true, true, true, true, true, true, true, true, true, false, false, false, false, false, false, false] = true := by
 exact tr_alt (by kernel_rfl) (tr_one' (by kernel_rfl) v97x3x10) (tr_one' (by kernel_rfl) v97x3x11)
theorem v97x3x13 : trOk ⟨[0, 1, 2, 3, 4, 5, 6, 7, 8, 9, 10, 11, 12, 13], [], u97x3x67⟩ o97x3 u97x3x13 7 true #[true, true, true, true, true, true, true, true, false, false, false, false, false, false, true, false] = true := by
 exact tr_head (by kernel_rfl) (by kernel_rfl) (by kernel_rfl) v97x3x11
theorem v97x3x14 : trOk ⟨[0, 1, 2, 3, 4, 5, 6, 7, 8, 9, 10, 11, 12, 13], [], u97x3x67⟩ o97x3 u97x3x14 8 true #[true, true, true, true, true, true, true, true, false, false, false, false, false, false, false, false] = true := by
 exact tr_alt (by kernel_rfl) (tr_one' (by kernel_rfl) v97x3x12) (tr_one' (by kernel_rfl) v97x3x13)
theorem v97x3x15 : trOk ⟨[0, 1, 2, 3, 4, 5, 6, 7, 8, 9, 10, 11, 12, 13], [], u97x3x67⟩ o97x3 u97x3x15 8 true #[true, true, true, true, true, true, true, false, false, false, false, false, false, false, true, false] = true := by
 exact tr_head (by kernel_rfl) (by kernel_rfl) (by kernel_rfl) v97x3x13
theorem v97x3x16 : trOk ⟨[0, 1, 2, 3, 4, 5, 6, 7, 8, 9, 10, 11, 12, 13], [], u97x3x67⟩ o97x3 u97x3x16 9 true #[true, true, true, true, true, true, true, false, false, false, false, false, false, false, false, false] = true := by
 exact tr_alt (by kernel_rfl) (tr_one' (by kernel_rfl) v97x3x14) (tr_one' (by kernel_rfl) v97x3x15)
theorem v97x3x17 : trOk ⟨[0, 1, 2, 3, 4, 5, 6, 7, 8, 9, 10, 11, 12, 13], [], u97x3x67⟩ o97x3 u97x3x17 4 true #[true, true, true, true, true, true, false, true, true, true, true, true, false, false, true, false] = true := by
 exact tr_head (by kernel_rfl) (by kernel_rfl) (by kernel_rfl) v97x3x5
theorem v97x3x18 : trOk ⟨[0, 1, 2, 3, 4, 5, 6, 7, 8, 9, 10, 11, 12, 13], [], u97x3x67⟩ o97x3 u97x3x18 5 true #[true, true, true, true, true, true, false, true, true, true, true, true, false, false, false, false] = true := by
 exact tr_alt (by kernel_rfl) (tr_one' (by kernel_rfl) v97x3x6) (tr_one' (by kernel_rfl) v97x3x17)
theorem v97x3x19 : trOk ⟨[0, 1, 2, 3, 4, 5, 6, 7, 8, 9, 10, 11, 12, 13], [], u97x3x67⟩ o97x3 u97x3x19 5 true #[true, true, true, true, true, true, false, true, true, true, true, false, false, false, true, false] = true := by
 exact tr_head (by kernel_rfl) (by kernel_rfl) (by kernel_rfl) v97x3x7
theorem v97x3x20 : trOk ⟨[0, 1, 2, 3, 4, 5, 6, 7, 8, 9, 10, 11, 12, 13], [], u97x3x67⟩ o97x3 u97x3x20 6 true #[true, true, true, true, true, true, false, true, true, true, true, false, false, false, false, false] = true := by
 exact tr_alt (by kernel_rfl) (tr_one' (by kernel_rfl) v97x3x8) (tr_alt' (tr_one' (by kernel_rfl) v97x3x18) (tr_one' (by kernel_rfl) v97x3x19))
theorem v97x3x21 : trOk ⟨[0, 1, 2, 3, 4, 5, 6, 7, 8, 9, 10, 11, 12, 13], [], u97x3x67⟩ o97x3 u97x3x21 6 true #[true, true, true, true, true, true, false, true, true, true, false, false, false, false, true, false] = true := by
 exact tr_head (by kernel_rfl) (by kernel_rfl) (by kernel_rfl) v97x3x9
theorem v97x3x22 : trOk ⟨[0, 1, 2, 3, 4, 5, 6, 7, 8, 9, 10, 11, 12, 13], [], u97x3x67⟩ o97x3 u97x3x22 7 true #[true, true, true, true, true, true, false, true, true, true, false, false, false, false, false, false] = true := by
 exact tr_alt (by kernel_rfl) (tr_one' (by kernel_rfl) v97x3x10) (tr_alt' (tr_one' (by kernel_rfl) v97x3x20) (tr_one' (by kernel_rfl) v97x3x21))
theorem v97x3x23 : trOk ⟨[0, 1, 2, 3, 4, 5, 6, 7, 8, 9, 10, 11, 12, 13], [], u97x3x67⟩ o97x3 u97x3x23 7 true #[true, true, true, true, true, true, false, true, true, false, false, false, false, false, true, false] = true := by
 exact tr_head (by kernel_rfl) (by kernel_rfl) (by kernel_rfl) v97x3x11
theorem v97x3x24 : trOk ⟨[0, 1, 2, 3, 4, 5, 6, 7, 8, 9, 10, 11, 12, 13], [], u97x3x67⟩ o97x3 u97x3x24 8 true #[true, true, true, true, true, true, false, true, true, false, false, false, false, false, false, false] = true := by
 exact tr_alt (by kernel_rfl) (tr_one' (by kernel_rfl) v97x3x12) (tr_alt' (tr_one' (by kernel_rfl) v97x3x22) (tr_one' (by kernel_rfl) v97x3x23))
theorem v97x3x25 : trOk ⟨[0, 1, 2, 3, 4, 5, 6, 7, 8, 9, 10, 11, 12, 13], [], u97x3x67⟩ o97x3 u97x3x25 8 true #[true, true, true, true, true, true, false, true, false, false, false, false, false, false, true, false] = true := by
 exact tr_head (by kernel_rfl) (by kernel_rfl) (by kernel_rfl) v97x3x13
theorem v97x3x26 : trOk ⟨[0, 1, 2, 3, 4, 5, 6, 7, 8, 9, 10, 11, 12, 13], [], u97x3x67⟩ o97x3 u97x3x26 9 true #[true, true, true, true, true, true, false, true, false, false, false, false, false, false, false, false] = true := by
 exact tr_alt (by kernel_rfl) (tr_one' (by kernel_rfl) v97x3x14) (tr_alt' (tr_one' (by kernel_rfl) v97x3x24) (tr_one' (by kernel_rfl) v97x3x25))
theorem v97x3x27 : trOk ⟨[0, 1, 2, 3, 4, 5, 6, 7, 8, 9, 10, 11, 12, 13], [], u97x3x67⟩ o97x3 u97x3x27 9 true #[true, true, true, true, true, true, false, false, false, false, false, false, false, false, true, false] = true := by
 exact tr_head (by kernel_rfl) (by kernel_rfl) (by kernel_rfl) v97x3x15
theorem v97x3x28 : trOk ⟨[0, 1, 2, 3, 4, 5, 6, 7, 8, 9, 10, 11, 12, 13], [], u97x3x67⟩ o97x3 u97x3x28 10 true #[true, true, true, true, true, true, false, false, false, false, false, false, false, false, false, false] = true := by
 exact tr_alt (by kernel_rfl) (tr_one' (by kernel_rfl) v97x3x16) (tr_alt' (tr_one' (by kernel_rfl) v97x3x26) (tr_one' (by kernel_rfl) v97x3x27))
theorem v97x3x29 : trOk ⟨[0, 1, 2, 3, 4, 5, 6, 7, 8, 9, 10, 11, 12, 13], [], u97x3x67⟩ o97x3 u97x3x29 5 true #[true, true, true, true, true, false, false, true, true, true, true, true, false, false, true, false] = true := by
 exact tr_head (by kernel_rfl) (by kernel_rfl) (by kernel_rfl) v97x3x17
theorem v97x3x30 : trOk ⟨[0, 1, 2, 3, 4, 5, 6, 7, 8, 9, 10, 11, 12, 13], [], u97x3x67⟩ o97x3 u97x3x30 6 true #[true, true, true, true, true, false, false, true, true, true, true, true, false, false, false, false] = true := by
 exact tr_alt (by kernel_rfl) (tr_one' (by kernel_rfl) v97x3x18) (tr_one' (by kernel_rfl) v97x3x29)
theorem v97x3x31 : trOk ⟨[0, 1, 2, 3, 4, 5, 6, 7, 8, 9, 10, 11, 12, 13], [], u97x3x67⟩ o97x3 u97x3x31 6 true #[true, true, true, true, true, false, false, true, true, true, true, false, false, false, true, false] = true := by
 exact tr_head (by kernel_rfl) (by kernel_rfl) (by kernel_rfl) v97x3x19
theorem v97x3x32 : trOk ⟨[0, 1, 2, 3, 4, 5, 6, 7, 8, 9, 10, 11, 12, 13], [], u97x3x67⟩ o97x3 u97x3x32 7 true #[true, true, true, true, true, false, false, true, true, true, true, false, false, false, false, false] = true := by
 exact tr_alt (by kernel_rfl) (tr_one' (by kernel_rfl) v97x3x20) (tr_alt' (tr_one' (by kernel_rfl) v97x3x30) (tr_one' (by kernel_rfl) v97x3x31))
theorem v97x3x33 : trOk ⟨[0, 1, 2, 3, 4, 5, 6, 7, 8, 9, 10, 11, 12, 13], [], u97x3x67⟩ o97x3 u97x3x33 7 true #[true, true, true, true, true, false, false, true, true, true, false, false, false, false, true, false] = true := by
 exact tr_head (by kernel_rfl) (by kernel_rfl) (by kernel_rfl) v97x3x21
theorem v97x3x34 : trOk ⟨[0, 1, 2, 3, 4, 5, 6, 7, 8, 9, 10, 11, 12, 13], [], u97x3x67⟩ o97x3 u97x3x34 8 true #[true, true, true, true, true, false, false, true, true, true, false, false, false, false, false, false] = true := by
 exact tr_alt (by kernel_rfl) (tr_one' (by kernel_rfl) v97x3x22) (tr_alt' (tr_one' (by kernel_rfl) v97x3x32) (tr_one' (by kernel_rfl) v97x3x33))
theorem v97x3x35 : trOk ⟨[0, 1, 2, 3, 4, 5, 6, 7, 8, 9, 10, 11, 12, 13], [], u97x3x67⟩ o97x3 u97x3x35 8 true #[true, true, true, true, true, false, false, true, true, false, false, false, false, false, true, false] = true := by
 exact tr_head (by kernel_rfl) (by kernel_rfl) (by kernel_rfl) v97x3x23
theorem v97x3x36 : trOk ⟨[0, 1, 2, 3, 4, 5, 6, 7, 8, 9, 10, 11, 12, 13], [], u97x3x67⟩ o97x3 u97x3x36 9 true #[true, true, true, true, true, false, false, true, true, false, false, false, false, false, false, false] = true := by
 exact tr_alt (by kernel_rfl) (tr_one' (by kernel_rfl) v97x3x24) (tr_alt' (tr_one' (by kernel_rfl) v97x3x34) (tr_one' (by kernel_rfl) v97x3x35))
theorem v97x3x37 : trOk ⟨[0, 1, 2, 3, 4, 5, 6, 7, 8, 9, 10, 11, 12, 13], [], u97x3x67⟩ o97x3 u97x3x37 9 true #[true, true, true, true, true, false, false, true, false, false, false, false, false, false, true, false] = true := by
 exact tr_head (by kernel_rfl) (by kernel_rfl) (by kernel_rfl) v97x3x25
theorem v97x3x38 : trOk ⟨[0, 1, 2, 3, 4, 5, 6, 7, 8, 9, 10, 11, 12, 13], [], u97x3x67⟩ o97x3 u97x3x38 10 true #[true, true, true, true, true, false, false, true, false, false, false, false, false, false, false, false] = true := by
 exact tr_alt (by kernel_rfl) (tr_one' (by kernel_rfl) v97x3x26) (tr_alt' (tr_one' (by kernel_rfl) v97x3x36) (tr_one' (by kernel_rfl) v97x3x37))
theorem v97x3x39 : trOk ⟨[0, 1, 2, 3, 4, 5, 6, 7, 8, 9, 10, 11, 12, 13], [], u97x3x67⟩ o97x3 u97x3x39 10 true #[true, true, true, true, true, false, false, false, false, false, false, false, false, false, true, false] = true := by
 exact tr_head (by kernel_rfl) (by kernel_rfl) (by kernel_rfl) v97x3x27
theorem v97x3x40 : trOk ⟨[0, 1, 2, 3, 4, 5, 6, 7, 8, 9, 10, 11, 12, 13], [], u97x3x67⟩ o97x3 u97x3x40 11 true #[true, true, true, true, true, false, false, false, false, false, false, false, false, false, false, false] = true := by
 exact tr_alt (by kernel_rfl) (tr_one' (by kernel_rfl) v97x3x28) (tr_alt' (tr_one' (by kernel_rfl) v97x3x38) (tr_one' (by kernel_rfl) v97x3x39))
theorem v97x3x41 : trOk ⟨[0, 1, 2, 3, 4, 5, 6, 7, 8, 9, 10, 11, 12, 13], [], u97x3x67⟩ o97x3 u97x3x41 6 true #[true, true, true, true, false, false, false, true, true, true, true, true, false, false, true, false] = true := by
 exact tr_head (by kernel_rfl) (by kernel_rfl) (by kernel_rfl) v97x3x29
theorem v97x3x42 : trOk ⟨[0, 1, 2, 3, 4, 5, 6, 7, 8, 9, 10, 11, 12, 13], [], u97x3x67⟩ o97x3 u97x3x42 7 true #[true, true, true, true, false, false, false, true, true, true, true, true, false, false, false, false] = true := by
 exact tr_alt (by kernel_rfl) (tr_one' (by kernel_rfl) v97x3x30) (tr_one' (by kernel_rfl) v97x3x41)
theorem v97x3x43 : trOk ⟨[0, 1, 2, 3, 4, 5, 6, 7, 8, 9, 10, 11, 12, 13], [], u97x3x67⟩ o97x3 u97x3x43 7 true #[true, true, true, true, false, false, false, true, true, true, true, false, false, false, true, false] = true := by
 exact tr_head (by kernel_rfl) (by kernel_rfl) (by kernel_rfl) v97x3x31
theorem v97x3x44 : trOk ⟨[0, 1, 2, 3, 4, 5, 6, 7, 8, 9, 10, 11, 12, 13], [], u97x3x67⟩ o97x3 u97x3x44 8 true #[true, true, true, true, false, false, false, true, true, true, true, false, false, false, false, false] = true := by
 exact tr_alt (by kernel_rfl) (tr_one' (by kernel_rfl) v97x3x32) (tr_alt' (tr_one' (by kernel_rfl) v97x3x42) (tr_one' (by kernel_rfl) v97x3x43))
theorem v97x3x45 : trOk ⟨[0, 1, 2, 3, 4, 5, 6, 7, 8, 9, 10, 11, 12, 13], [], u97x3x67⟩ o97x3 u97x3x45 8 true #[true, true, true, true, false, false, false, true, true, true, false, false, false, false, true, false] = true := by
 exact tr_head (by kernel_rfl) (by kernel_rfl) (by kernel_rfl) v97x3x33
theorem v97x3x46 : trOk ⟨[0, 1, 2, 3, 4, 5, 6, 7, 8, 9, 10, 11, 12, 13], [], u97x3x67⟩ o97x3 u97x3x46 9 true #[true, true, true, true, false, false, false, true, true, true, false, false, false, false, false, false] = true := by
 exact tr_alt (by kernel_rfl) (tr_one' (by kernel_rfl) v97x3x34) (tr_alt' (tr_one' (by kernel_rfl) v97x3x44) (tr_one' (by kernel_rfl) v97x3x45))
theorem v97x3x47 : trOk ⟨[0, 1, 2, 3, 4, 5, 6, 7, 8, 9, 10, 11, 12, 13], [], u97x3x67⟩ o97x3 u97x3x47 9 true #[true, true, true, true, false, false, false, true, true, false, false, false, false, false, true, false] = true := by
 exact tr_head (by kernel_rfl) (by kernel_rfl) (by kernel_rfl) v97x3x35
theorem v97x3x48 : trOk ⟨[0, 1, 2, 3, 4, 5, 6, 7, 8, 9, 10, 11, 12, 13], [], u97x3x67⟩ o97x3 u97x3x48 10 true #[true, true, true, true, false, false, false, true, true, false, false, false, false, false, false, false] = true := by
 exact tr_alt (by kernel_rfl) (tr_one' (by kernel_rfl) v97x3x36) (tr_alt' (tr_one' (by kernel_rfl) v97x3x46) (tr_one' (by kernel_rfl) v97x3x47))
theorem v97x3x49 : trOk ⟨[0, 1, 2, 3, 4, 5, 6, 7, 8, 9, 10, 11, 12, 13], [], u97x3x67⟩ o97x3 u97x3x49 10 true #[true, true, true, true, false, false, false, true, false, false, false, false, false, false, true, false] = true := by
 exact tr_head (by kernel_rfl) (by kernel_rfl) (by kernel_rfl) v97x3x37
theorem v97x3x50 : trOk ⟨[0, 1, 2, 3, 4, 5, 6, 7, 8, 9, 10, 11, 12, 13], [], u97x3x67⟩ o97x3 u97x3x50 11 true #[true, true, true, true, false, false, false, true, false, false, false, false, false, false, false, false] = true := by
 exact tr_alt (by kernel_rfl) (tr_one' (by kernel_rfl) v97x3x38) (tr_alt' (tr_one' (by kernel_rfl) v97x3x48) (tr_one' (by kernel_rfl) v97x3x49))
theorem v97x3x51 : trOk ⟨[0, 1, 2, 3, 4, 5, 6, 7, 8, 9, 10, 11, 12, 13], [], u97x3x67⟩ o97x3 u97x3x51 11 true #[true, true, true, true, false, false, false, false, false, false, false, false, false, false, true, false] = true := by
 exact tr_head (by kernel_rfl) (by kernel_rfl) (by kernel_rfl) v97x3x39
theorem v97x3x52 : trOk ⟨[0, 1, 2, 3, 4, 5, 6, 7, 8, 9, 10, 11, 12, 13], [], u97x3x67⟩ o97x3 u97x3x52 12 true #[true, true, true, true, false, false, false, false, false, false, false, false, false, false, false, false] = true := by
 exact tr_alt (by kernel_rfl) (tr_one' (by kernel_rfl) v97x3x40) (tr_alt' (tr_one' (by kernel_rfl) v97x3x50) (tr_one' (by kernel_rfl) v97x3x51))
theorem v97x3x53 : trOk ⟨[0, 1, 2, 3, 4, 5, 6, 7, 8, 9, 10, 11, 12, 13], [], u97x3x67⟩ o97x3 u97x3x53 7 true #[true, true, true, false, false, false, false, true, true, true, true, true, false, false, true, false] = true := by
 exact tr_head (by kernel_rfl) (by kernel_rfl) (by kernel_rfl) v97x3x41
theorem v97x3x54 : trOk ⟨[0, 1, 2, 3, 4, 5, 6, 7, 8, 9, 10, 11, 12, 13], [], u97x3x67⟩ o97x3 u97x3x54 8 true #[true, true, true, false, false, false, false, true, true, true, true, true, false, false, false, false] = true := by
 exact tr_alt (by kernel_rfl) (tr_one' (by kernel_rfl) v97x3x42) (tr_one' (by kernel_rfl) v97x3x53)
theorem v97x3x55 : trOk ⟨[0, 1, 2, 3, 4, 5, 6, 7, 8, 9, 10, 11, 12, 13], [], u97x3x67⟩ o97x3 u97x3x55 8 true #[true, true, true, false, false, false, false, true, true, true, true, false, false, false, true, false] = true := by
 exact tr_head (by kernel_rfl) (by kernel_rfl) (by kernel_rfl) v97x3x43
theorem v97x3x56 : trOk ⟨[0, 1, 2, 3, 4, 5, 6, 7, 8, 9, 10, 11, 12, 13], [], u97x3x67⟩ o97x3 u97x3x56 9 true #[true, true, true, false, false, false, false, true, true, true, true, false, false, false, false, false] = true := by
 exact tr_alt (by kernel_rfl) (tr_one' (by kernel_rfl) v97x3x44) (tr_alt' (tr_one' (by kernel_rfl) v97x3x54) (tr_one' (by kernel_rfl) v97x3x55))
theorem v97x3x57 : trOk ⟨[0, 1, 2, 3, 4, 5, 6, 7, 8, 9, 10, 11, 12, 13], [], u97x3x67⟩ o97x3 u97x3x57 9 true #[true, true, true, false, false, false, false, true, true, true, false, false, false, false, true, false] = true := by
 exact tr_head (by kernel_rfl) (by kernel_rfl) (by kernel_rfl) v97x3x45
theorem v97x3x58 : trOk ⟨[0, 1, 2, 3, 4, 5, 6, 7, 8, 9, 10, 11, 12, 13], [], u97x3x67⟩ o97x3 u97x3x58 10 true #[true, true, true, false, false, false, false, true, true, true, false, false, false, false, false, false] = true := by
 exact tr_alt (by kernel_rfl) (tr_one' (by kernel_rfl) v97x3x46) (tr_alt' (tr_one' (by kernel_rfl) v97x3x56) (tr_one' (by kernel_rfl) v97x3x57))
theorem v97x3x59 : trOk ⟨[0, 1, 2, 3, 4, 5, 6, 7, 8, 9, 10, 11, 12, 13], [], u97x3x67⟩ o97x3 u97x3x59 10 true #[true, true, true, false, false, false, false, true, true, false, false, false, false, false, true, false] = true := by
 exact tr_head (by kernel_rfl) (by kernel_rfl) (by kernel_rfl) v97x3x47
theorem v97x3x60 : trOk ⟨[0, 1, 2, 3, 4, 5, 6, 7, 8, 9, 10, 11, 12, 13], [], u97x3x67⟩ o97x3 u97x3x60 11 true #[true, true, true, false, false, false, false, true, true, false, false, false, false, false, false, false] = true := by
 exact tr_alt (by kernel_rfl) (tr_one' (by kernel_rfl) v97x3x48) (tr_alt' (tr_one' (by kernel_rfl) v97x3x58) (tr_one' (by kernel_rfl) v97x3x59))
theorem v97x3x61 : trOk ⟨[0, 1, 2, 3, 4, 5, 6, 7, 8, 9, 10, 11, 12, 13], [], u97x3x67⟩ o97x3 u97x3x61 11 true #[true, true, true, false, false, false, false, true, false, false, false, false, false, false, true, false] = true := by
 exact tr_head (by kernel_rfl) (by kernel_rfl) (by kernel_rfl) v97x3x49
theorem v97x3x62 : trOk ⟨[0, 1, 2, 3, 4, 5, 6, 7, 8, 9, 10, 11, 12, 13], [], u97x3x67⟩ o97x3 u97x3x62 12 true #[true, true, true, false, false, false, false, true, false, false, false, false, false, false, false, false] = true := by
 exact tr_alt (by kernel_rfl) (tr_one' (by kernel_rfl) v97x3x50) (tr_alt' (tr_one' (by kernel_rfl) v97x3x60) (tr_one' (by kernel_rfl) v97x3x61))
theorem v97x3x63 : trOk ⟨[0, 1, 2, 3, 4, 5, 6, 7, 8, 9, 10, 11, 12, 13], [], u97x3x67⟩ o97x3 u97x3x63 12 true #[true, true, true, false, false, false, false, false, false, false, false, false, false, false, true, false] = true := by
 exact tr_head (by kernel_rfl) (by kernel_rfl) (by kernel_rfl) v97x3x51
theorem v97x3x64 : trOk ⟨[0, 1, 2, 3, 4, 5, 6, 7, 8, 9, 10, 11, 12, 13], [], u97x3x67⟩ o97x3 u97x3x64 13 true #[true, true, true, false, false, false, false, false, false, false, false, false, false, false, false, false] = true := by
 exact tr_alt (by kernel_rfl) (tr_one' (by kernel_rfl) v97x3x52) (tr_alt' (tr_one' (by kernel_rfl) v97x3x62) (tr_one' (by kernel_rfl) v97x3x63))
theorem v97x3x65 : trOk ⟨[0, 1, 2, 3, 4, 5, 6, 7, 8, 9, 10, 11, 12, 13], [], u97x3x67⟩ o97x3 u97x3x65 14 true #[true, true, false, false, false, false, false, false, false, false, false, false, false, false, false, false] = true := by
 exact tr_head (by kernel_rfl) (by kernel_rfl) (by kernel_rfl) v97x3x64
theorem v97x3x66 : trOk ⟨[0, 1, 2, 3, 4, 5, 6, 7, 8, 9, 10, 11, 12, 13], [], u97x3x67⟩ o97x3 u97x3x66 15 true #[true, false, false, false, false, false, false, false, false, false, false, false, false, false, false, false] = true := by
 exact tr_head (by kernel_rfl) (by kernel_rfl) (by kernel_rfl) v97x3x65
theorem v97x3x67 : trOk ⟨[0, 1, 2, 3, 4, 5, 6, 7, 8, 9, 10, 11, 12, 13], [], u97x3x67⟩ o97x3 u97x3x67 16 true #[false, false, false, false, false, false, false, false, false, false, false, false, false, false, false, false] = true := by
 exact tr_head (by kernel_rfl) (by kernel_rfl) (by kernel_rfl) v97x3x66
theorem c97 : codeOk Tryz.prog h97 30 b97 = true := by
 refine codeOk_but (r := 3) (by kernel_rfl) fun o ho => ?_
 rw [show regsOf 3 b97 = [o97x3] from by kernel_rfl] at ho
 obtain rfl : o = o97x3 := by simpa using ho
 exact drawOk_mix (mx := ⟨[0, 1, 2, 3, 4, 5, 6, 7, 8, 9, 10, 11, 12, 13], [], u97x3x67⟩) rfl (by kernel_rfl) ((show trOk ⟨[0, 1, 2, 3, 4, 5, 6, 7, 8, 9, 10, 11, 12, 13], [], u97x3x67⟩ o97x3 u97x3x67 (o97x3.size) true (Array.replicate (o97x3.size) false) = true from by rw [show o97x3.size = 16 from by kernel_rfl]; exact v97x3x67))
theorem e97 {lo : Nat} {args : List V} {h : Heap} (ha : args.length <= 30) (hb : args.all bare = true) :
  E lo 97 args h = fin Tryz.prog [.cell 2 42, .tmp 3] h.length (evCode ⟨Tryz.prog, E, lo, h.length, h97⟩ loopW b97 (args0 args, h)) :=
 ev_body rfl Tryz.func97 rfl Tryz.ntmps97 (by kernel_rfl) rfl c97 rfl rfl rfl ha hb
noncomputable def b98 : Code := bodyOf Tryz.f98
noncomputable def l98x0 : Code := loopAt b98 0
theorem e98 : EQ 98 36 [.tmp 2] h98 b98 := fun ha hb => ev_body rfl Tryz.func98 rfl Tryz.ntmps98 (by kernel_rfl) rfl (by kernel_rfl) rfl rfl rfl ha hb
noncomputable def b99 : Code := bodyOf Tryz.f99
noncomputable def l99x0 : Code := loopAt b99 0
theorem e99 : EQ 99 77 [.tmp 4] h99 b99 := fun ha hb => ev_body rfl Tryz.func99 rfl Tryz.ntmps99 (by kernel_rfl) rfl (by kernel_rfl) rfl rfl rfl ha hb
noncomputable def b100 : Code := bodyOf Tryz.f100
noncomputable def l100x0 : Code := loopAt b100 0
theorem c100 : codeOk Tryz.prog h100 70 b100 = true := by kernel_rfl
/- a method -/
theorem e100 {lo : Nat} {args : List V} {h : Heap} (ha : args.length <= 70) (hb : args.all bare = true) :
  E lo 100 args h = fin Tryz.prog [.tmp 2] h.length (evCode ⟨Tryz.prog, E, lo, h.length, h100⟩ loopW b100 (args0 args, h)) :=
 ev_body rfl Tryz.func100 rfl Tryz.ntmps100 (by kernel_rfl) rfl c100 rfl rfl rfl ha hb
noncomputable def b101 : Code := bodyOf Tryz.f101
theorem e101 : EQ 101 25 [.tmp 2] h101 b101 := fun ha hb => ev_body rfl Tryz.func101 rfl Tryz.ntmps101 (by kernel_rfl) rfl (by kernel_rfl) rfl rfl rfl ha hb
noncomputable def b102 : Code := bodyOf Tryz.f102
theorem e102 : EQ 102 9 [.tmp 2] h102 b102 := fun ha hb => ev_body rfl Tryz.func102 rfl Tryz.ntmps102 (by kernel_rfl) rfl (by kernel_rfl) rfl rfl rfl ha hb
noncomputable def b103 : Code := bodyOf Tryz.f103
noncomputable def l103x0 : Code := loopAt b103 0
theorem c103 : codeOk Tryz.prog h103 12 b103 = true := by kernel_rfl
/- a method -/
theorem e103 {lo : Nat} {args : List V} {h : Heap} (ha : args.length <= 12) (hb : args.all bare = true) :
  E lo 103 args h = fin Tryz.prog [] h.length (evCode ⟨Tryz.prog, E, lo, h.length, h103⟩ loopW b103 (args0 args, h)) :=
 ev_body rfl Tryz.func103 rfl Tryz.ntmps103 (by kernel_rfl) rfl c103 rfl rfl rfl ha hb
noncomputable def b104 : Code := bodyOf Tryz.f104
noncomputable def l104x0 : Code := loopAt b104 0
theorem e104 : EQ 104 153 [.cell 2 28, .tmp 3, .tmp 4] h104 b104 := fun ha hb => ev_body rfl Tryz.func104 rfl Tryz.ntmps104 (by kernel_rfl) rfl (by kernel_rfl) rfl rfl rfl ha hb
noncomputable def b105 : Code := bodyOf Tryz.f105
noncomputable def l105x0 : Code := loopAt b105 0
theorem c105 : codeOk Tryz.prog h105 91 b105 = true := by kernel_rfl
/- a method -/
theorem e105 {lo : Nat} {args : List V} {h : Heap} (ha : args.length <= 91) (hb : args.all bare = true) :
  E lo 105 args h = fin Tryz.prog [.cell 2 55] h.length (evCode ⟨Tryz.prog, E, lo, h.length, h105⟩ loopW b105 (args0 args, h)) :=
 ev_body rfl Tryz.func105 rfl Tryz.ntmps105 (by kernel_rfl) rfl c105 rfl rfl rfl ha hb
noncomputable def b106 : Code := bodyOf Tryz.f106
noncomputable def l106x0 : Code := loopAt b106 0
theorem e106 : EQ 106 79 [.tmp 2] h106 b106 := fun ha hb => ev_body rfl Tryz.func106 rfl Tryz.ntmps106 (by kernel_rfl) rfl (by kernel_rfl) rfl rfl rfl ha hb
noncomputable def b107 : Code := bodyOf Tryz.f107
theorem e107 : EQ 107 38 [.tmp 2, .tmp 3, .tmp 4] h107 b107 := fun ha hb => ev_body rfl Tryz.func107 rfl Tryz.ntmps107 (by kernel_rfl) rfl (by kernel_rfl) rfl rfl rfl ha hb
noncomputable def b109 : Code := bodyOf Tryz.f109
theorem e109 : EQ 109 2 [.cell 0 28] h109 b109 := fun ha hb => ev_body rfl Tryz.func109 rfl Tryz.ntmps109 (by kernel_rfl) rfl (by kernel_rfl) rfl rfl rfl ha hb
noncomputable def b112 : Code := bodyOf Tryz.f112
theorem e112 : EQ 112 10 [.tmp 2] h112 b112 := fun ha hb => ev_body rfl Tryz.func112 rfl Tryz.ntmps112 (by kernel_rfl) rfl (by kernel_rfl) rfl rfl rfl ha hb
noncomputable def b113 : Code := bodyOf Tryz.f113
theorem e113 : EQ 113 2 [.tmp 0] h113 b113 := fun ha hb => ev_body rfl Tryz.func113 rfl Tryz.ntmps113 (by kernel_rfl) rfl (by kernel_rfl) rfl rfl rfl ha hb
noncomputable def b114 : Code := bodyOf Tryz.f114
noncomputable def l114x0 : Code := loopAt b114 0
theorem c114 : codeOk Tryz.prog h114 44 b114 = true := by kernel_rfl
/- a method -/
theorem e114 {lo : Nat} {args : List V} {h : Heap} (ha : args.length <= 44) (hb : args.all bare = true) :
  E lo 114 args h = fin Tryz.prog [.cell 2 42, .tmp 3] h.length (evCode ⟨Tryz.prog, E, lo, h.length, h114⟩ loopW b114 (args0 args, h)) :=
 ev_body rfl Tryz.func114 rfl Tryz.ntmps114 (by kernel_rfl) rfl c114 rfl rfl rfl ha hb
noncomputable def b115 : Code := bodyOf Tryz.f115
theorem e115 : EQ 115 29 [.tmp 2, .tmp 3] h115 b115 := fun ha hb => ev_body rfl Tryz.func115 rfl Tryz.ntmps115 (by kernel_rfl) rfl (by kernel_rfl) rfl rfl rfl ha hb
noncomputable def b116 : Code := bodyOf Tryz.f116
noncomputable def l116x0 : Code := loopAt b116 0
theorem e116 : EQ 116 18 [.tmp 4] h116 b116 := fun ha hb => ev_body rfl Tryz.func116 rfl Tryz.ntmps116 (by kernel_rfl) rfl (by kernel_rfl) rfl rfl rfl ha hb
noncomputable def b117 : Code := bodyOf Tryz.f117
noncomputable def l117x0 : Code := loopAt b117 0
noncomputable def l117x1 : Code := loopAt b117 1
noncomputable def l117x2 : Code := loopAt b117 2
noncomputable def l117x3 : Code := loopAt b117 3
noncomputable def l117x4 : Code := loopAt b117 4
noncomputable def l117x5 : Code := loopAt b117 5
noncomputable def l117x6 : Code := loopAt b117 6
noncomputable def l117x7 : Code := loopAt b117 7
theorem e117 : EQ 117 132 [.cell 6 28] h117 b117 := fun ha hb => ev_body rfl Tryz.func117 rfl Tryz.ntmps117 (by kernel_rfl) rfl (by kernel_rfl) rfl rfl rfl ha hb
noncomputable def b118 : Code := bodyOf Tryz.f118
noncomputable def l118x0 : Code := loopAt b118 0
theorem c118 : codeOk Tryz.prog h118 26 b118 = true := by kernel_rfl
/- a method -/
theorem e118 {lo : Nat} {args : List V} {h : Heap} (ha : args.length <= 26) (hb : args.all bare = true) :
  E lo 118 args h = fin Tryz.prog [.cell 2 55] h.length (evCode ⟨Tryz.prog, E, lo, h.length, h118⟩ loopW b118 (args0 args, h)) :=
 ev_body rfl Tryz.func118 rfl Tryz.ntmps118 (by kernel_rfl) rfl c118 rfl rfl rfl ha hb
noncomputable def b119 : Code := bodyOf Tryz.f119
theorem e119 : EQ 119 25 [.tmp 2] h119 b119 := fun ha hb => ev_body rfl Tryz.func119 rfl Tryz.ntmps119 (by kernel_rfl) rfl (by kernel_rfl) rfl rfl rfl ha hb
noncomputable def b124 : Code := bodyOf Tryz.f124
theorem e124 : EQ 124 21 [.tmp 2] h124 b124 := fun ha hb => ev_body rfl Tryz.func124 rfl Tryz.ntmps124 (by kernel_rfl) rfl (by kernel_rfl) rfl rfl rfl ha hb
noncomputable def b125 : Code := bodyOf Tryz.f125
noncomputable def l125x0 : Code := loopAt b125 0
theorem c125 : codeOk Tryz.prog h125 44 b125 = true := by kernel_rfl
/- a method -/
theorem e125 {lo : Nat} {args : List V} {h : Heap} (ha : args.length <= 44) (hb : args.all bare = true) :
  E lo 125 args h = fin Tryz.prog [.cell 2 42, .tmp 3] h.length (evCode ⟨Tryz.prog, E, lo, h.length, h125⟩ loopW b125 (args0 args, h)) :=
 ev_body rfl Tryz.func125 rfl Tryz.ntmps125 (by kernel_rfl) rfl c125 rfl rfl rfl ha hb
noncomputable def b126 : Code := bodyOf Tryz.f126
theorem c126 : codeOk Tryz.prog h126 90 b126 = true := by kernel_rfl
/- a method -/
theorem e126 {lo : Nat} {args : List V} {h : Heap} (ha : args.length <= 90) (hb : args.all bare = true) :
  E lo 126 args h = fin Tryz.prog [.tmp 8] h.length (evCode ⟨Tryz.prog, E, lo, h.length, h126⟩ loopW b126 (args0 args, h)) :=
 ev_body rfl Tryz.func126 rfl Tryz.ntmps126 (by kernel_rfl) rfl c126 rfl rfl rfl ha hb
noncomputable def b127 : Code := bodyOf Tryz.f127
theorem e127 : EQ 127 12 [.cell 2 42] h127 b127 := fun ha hb => ev_body rfl Tryz.func127 rfl Tryz.ntmps127 (by kernel_rfl) rfl (by kernel_rfl) rfl rfl rfl ha hb
noncomputable def b128 : Code := bodyOf Tryz.f128
theorem e128 : EQ 128 9 [.tmp 2] h128 b128 := fun ha hb => ev_body rfl Tryz.func128 rfl Tryz.ntmps128 (by kernel_rfl) rfl (by kernel_rfl) rfl rfl rfl ha hb
noncomputable def b130 : Code := bodyOf Tryz.f130
noncomputable def l130x0 : Code := loopAt b130 0
theorem e130 : EQ 130 12 [.tmp 4] h130 b130 := fun ha hb => ev_body rfl Tryz.func130 rfl Tryz.ntmps130 (by kernel_rfl) rfl (by kernel_rfl) rfl rfl rfl ha hb
noncomputable def b131 : Code := bodyOf Tryz.f131
theorem e131 : EQ 131 10 [.tmp 2] h131 b131 := fun ha hb => ev_body rfl Tryz.func131 rfl Tryz.ntmps131 (by kernel_rfl) rfl (by kernel_rfl) rfl rfl rfl ha hb
noncomputable def b132 : Code := bodyOf Tryz.f132
theorem c132 : codeOk Tryz.prog h132 46 b132 = true := by kernel_rfl
/- a method -/
theorem e132 {lo : Nat} {args : List V} {h : Heap} (ha : args.length <= 46) (hb : args.all bare = true) :
  E lo 132 args h = fin Tryz.prog [.cell 2 42, .tmp 3] h.length (evCode ⟨Tryz.prog, E, lo, h.length, h132⟩ loopW b132 (args0 args, h)) :=
 ev_body rfl Tryz.func132 rfl Tryz.ntmps132 (by kernel_rfl) rfl c132 rfl rfl rfl ha hb
noncomputable def b133 : Code := bodyOf Tryz.f133
noncomputable def l133x0 : Code := loopAt b133 0
theorem c133 : codeOk Tryz.prog h133 45 b133 = true := by kernel_rfl
/- a method -/
theorem e133 {lo : Nat} {args : List V} {h : Heap} (ha : args.length <= 45) (hb : args.all bare = true) :
  E lo 133 args h = fin Tryz.prog [.tmp 1] h.length (evCode ⟨Tryz.prog, E, lo, h.length, h133⟩ loopW b133 (args0 args, h)) :=
 ev_body rfl Tryz.func133 rfl Tryz.ntmps133 (by kernel_rfl) rfl c133 rfl rfl rfl ha hb
end Go.Lift.V1
