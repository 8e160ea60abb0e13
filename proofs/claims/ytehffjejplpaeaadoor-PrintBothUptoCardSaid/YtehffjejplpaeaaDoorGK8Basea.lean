/- Facts of the program that the evaluation asks for: the live slots of each function, its types. Written by a program (gen.py). -/
import Derived.Test.YtehffjejplpaeaaDoorRows
import Derived.Lib.MapLaws
import Derived.Lib.DecodeN
import Derived.Lib.TrailingZeros
import Derived.Lib.ItoaNum
import Derived.Lib.Repeat
import Derived.Lib.Bytealg
import Derived.Lib.Index
import Derived.Test.YtehffjejplpaeaaDoorGKa
set_option linter.unusedVariables false
set_option linter.unusedSimpArgs false
set_option linter.unusedSectionVars false
namespace Go.Lift.D7
open Go.Proofs
set_option maxRecDepth 20000
class MX where
 m : Int
instance gtab [MX] : GTab := ⟨fun n => match n with | 0 => some [.v (.int .i64 MX.m)] | 1 => some (Go.Lib.deBruijn64tab.map fun c : Nat => .v (.int .u8 (c : Int))) | 2 => some ((List.range 256).map fun c => .v (.int .u8 (Go.Lib.firstT c))) | 3 => some ((List.range 16).flatMap fun i => [.v (.int .u8 (Go.Lib.accLo i)), .v (.int .u8 (Go.Lib.accHi i))]) | _ => none⟩
noncomputable def idxP (lo : Nat) (args : List V) (h : Heap) : Option (V × Heap) := match args with
 | [.v (.string s), .v (.int .u8 c)] => some (.v (.int .i64 (Go.Lib.indexByte s.data.toList c.toNat.toUInt8)), h)
 | _ => none
noncomputable def ixP (lo : Nat) (args : List V) (h : Heap) : Option (V × Heap) := match args with
 | [.v (.string s), .v (.string t)] => match t.data.toList with
  | [c] => some (.v (.int .i64 (Go.Lib.indexByte s.data.toList c)), h)
  | _ => if s.size < 4294967281 then some (.v (.int .i64 (Go.Lib.index s.data.toList t.data.toList)), h) else none
 | _ => none
noncomputable def ctzP (lo : Nat) (args : List V) (h : Heap) : Option (V × Heap) := match args with
 | [.v (.int .u64 x)] => if 0 ≤ x ∧ x < 18446744073709551616 then some (.v (.int .i64 (Go.Lib.ctz 64 x.toNat)), h) else none
 | _ => none
noncomputable def repP (lo : Nat) (args : List V) (h : Heap) : Option (V × Heap) := match args with
 | [.v (.string s), .v (.int .i64 n)] => if s.size = 1 ∧ 0 ≤ n ∧ n ≤ 1000000 then some (.v (.string ⟨(Go.Lib.repeatL s.data.toList n.toNat).toArray⟩), h) else none
 | _ => none
noncomputable def fmtP (lo : Nat) (args : List V) (h : Heap) : Option (V × Heap) := match args with
 | [.v (.int .u64 x), .v (.int .i64 b)] => if b = 10 ∧ 0 ≤ x ∧ x < 18446744073709551616 then some (.v (.string ⟨(Go.Lib.decDigits x.toNat).toArray⟩), h) else none
 | _ => none
def rowsInts : List (List V) → Option (List Int)
 | [] => some []
 | [.v (.int .u8 n)] :: l => (rowsInts l).map (n :: ·)
 | _ => none
def okP (i : Nat) : V → Bool
 | .v (.pointer none) => true
 | .ptr j 0 => j == i
 | _ => false
noncomputable def ccP (lo : Nat) (args : List V) (h : Heap) : Option (V × Heap) := match args with
 | [.ptr i 0] => match h[i]? with
  | some (.cells (p0 :: x :: r)) => if lo ≤ i ∧ okP i p0 = true ∧ r.length ≤ 1 then some (.tup [], Lift.setOb h i (.ptr i 0 :: x :: r)) else none
  | _ => none
 | _ => none
noncomputable def wrP (lo : Nat) (args : List V) (h : Heap) : Option (V × Heap) := match args with
 | [.ptr i 0, .v (.int .i32 r)] => match h[i]? with
  | some (.cells [p0, .list .yes rows]) => match rowsInts rows with
   | some out => if lo ≤ i ∧ okP i p0 = true ∧ -2147483648 ≤ r ∧ r ≤ 2147483647 ∧ out.length ≤ 1000000000 then
     some (.tup [.v (.int .i64 ((Utf.enc (Utf.scal r)).length : Nat)), .v .nilIface], Lift.setOb h i [.ptr i 0, .list .yes (ri .u8 (out ++ Utf.enc (Utf.scal r)))]) else none
   | none => none
  | _ => none
 | _ => none
noncomputable def stP (lo : Nat) (args : List V) (h : Heap) : Option (V × Heap) := match args with
 | [.ptr i 0] => match h[i]? with
  | some (.cells (p0 :: .list .yes rows :: r)) => match rowsInts rows with
   | some out => if lo ≤ i ∧ (out.all fun c => decide (0 ≤ c) && decide (c ≤ 255)) = true ∧ out.length ≤ 1000000000 then some (.v (.string ⟨(u8s out).toArray⟩), Lift.setOb h i (p0 :: .list .no rows :: r)) else none
   | none => none
  | _ => none
 | _ => none
noncomputable def primz : Nat → Option (Nat → List V → Heap → Option (V × Heap)) := fun n => match n with | 64 => some idxP | 74 => some ctzP | 58 => some repP | 27 => some ccP | 55 => some wrP | 21 => some stP | 50 => some ixP | _ => none
instance bty : BTy := ⟨[(2, 48), (3, 50)], some 5⟩
@[go_sem] theorem bt_eq : BTy.bt = [(2, 48), (3, 50)] := rfl
@[go_sem] theorem bt_is : (BTy.bt.isEmpty) = false := rfl
@[go_sem] theorem bt_2 : btOf 2 = some 48 := rfl
@[go_sem] theorem bt_3 : btOf 3 = some 50 := rfl
@[go_sem] theorem bt_n (n : Nat) : btOf (n + 4) = none := rfl
@[go_sem] theorem bt_0 : btOf 0 = none := rfl
@[go_sem] theorem bt_1 : btOf 1 = none := rfl
@[go_sem] theorem bt_self : ((48 : TypeId) == 48) = true := rfl
@[go_sem] theorem bt_self3 : ((50 : TypeId) == 50) = true := rfl
@[go_sem] theorem bb_eq : BTy.bb = some 5 := rfl
@[go_sem] theorem bb_self : ((5 : TypeId) == 5) = true := rfl
variable [MX]
attribute [go_sem] Tryd.underlying2
@[go_sem] theorem z2 : tsize Tryd.prog 2 = 1 := by kernel_rfl
@[go_sem] theorem k2 : ttag Tryd.prog 2 = some false := by kernel_rfl
@[go_sem] theorem y2 : Tryd.prog.bytesOf 2 = 8 := by kernel_rfl
@[go_sem] theorem s2 : isStr Tryd.prog 2 = false := by kernel_rfl
@[go_sem] theorem j2 : isI32 Tryd.prog 2 = false := by kernel_rfl
@[go_sem] theorem w2 : isU8 Tryd.prog 2 = false := by kernel_rfl
@[go_sem] theorem o2 : tzero Tryd.prog 2 = some [.int .i64 0] := by kernel_rfl
@[go_sem] theorem i2 : (Tryd.prog.info? 2).isSome = true := by kernel_rfl
attribute [go_sem] Tryd.underlying3
@[go_sem] theorem z3 : tsize Tryd.prog 3 = 1 := by kernel_rfl
@[go_sem] theorem k3 : ttag Tryd.prog 3 = some false := by kernel_rfl
@[go_sem] theorem y3 : Tryd.prog.bytesOf 3 = 8 := by kernel_rfl
@[go_sem] theorem s3 : isStr Tryd.prog 3 = false := by kernel_rfl
@[go_sem] theorem j3 : isI32 Tryd.prog 3 = false := by kernel_rfl
@[go_sem] theorem w3 : isU8 Tryd.prog 3 = false := by kernel_rfl
@[go_sem] theorem o3 : tzero Tryd.prog 3 = some [.int .i64 0] := by kernel_rfl
@[go_sem] theorem i3 : (Tryd.prog.info? 3).isSome = true := by kernel_rfl
attribute [go_sem] Tryd.underlying4
@[go_sem] theorem z4 : tsize Tryd.prog 4 = 1 := by kernel_rfl
@[go_sem] theorem k4 : ttag Tryd.prog 4 = some false := by kernel_rfl
@[go_sem] theorem y4 : Tryd.prog.bytesOf 4 = 1 := by kernel_rfl
@[go_sem] theorem s4 : isStr Tryd.prog 4 = false := by kernel_rfl
@[go_sem] theorem j4 : isI32 Tryd.prog 4 = false := by kernel_rfl
@[go_sem] theorem w4 : isU8 Tryd.prog 4 = false := by kernel_rfl
@[go_sem] theorem o4 : tzero Tryd.prog 4 = some [.bool false] := by kernel_rfl
@[go_sem] theorem i4 : (Tryd.prog.info? 4).isSome = true := by kernel_rfl
attribute [go_sem] Tryd.underlying5
@[go_sem] theorem z5 : tsize Tryd.prog 5 = 1 := by kernel_rfl
@[go_sem] theorem k5 : ttag Tryd.prog 5 = some false := by kernel_rfl
@[go_sem] theorem y5 : Tryd.prog.bytesOf 5 = 1 := by kernel_rfl
@[go_sem] theorem s5 : isStr Tryd.prog 5 = false := by kernel_rfl
@[go_sem] theorem j5 : isI32 Tryd.prog 5 = false := by kernel_rfl
@[go_sem] theorem w5 : isU8 Tryd.prog 5 = true := by kernel_rfl
@[go_sem] theorem o5 : tzero Tryd.prog 5 = some [.int .u8 0] := by kernel_rfl
@[go_sem] theorem i5 : (Tryd.prog.info? 5).isSome = true := by kernel_rfl
attribute [go_sem] Tryd.underlying9
@[go_sem] theorem z9 : tsize Tryd.prog 9 = 1 := by kernel_rfl
@[go_sem] theorem k9 : ttag Tryd.prog 9 = some false := by kernel_rfl
@[go_sem] theorem y9 : Tryd.prog.bytesOf 9 = 16 := by kernel_rfl
@[go_sem] theorem s9 : isStr Tryd.prog 9 = true := by kernel_rfl
@[go_sem] theorem j9 : isI32 Tryd.prog 9 = false := by kernel_rfl
@[go_sem] theorem w9 : isU8 Tryd.prog 9 = false := by kernel_rfl
@[go_sem] theorem o9 : tzero Tryd.prog 9 = some [.string ByteArray.empty] := by kernel_rfl
@[go_sem] theorem i9 : (Tryd.prog.info? 9).isSome = true := by kernel_rfl
attribute [go_sem] Tryd.underlying21
@[go_sem] theorem z21 : tsize Tryd.prog 21 = 1 := by kernel_rfl
@[go_sem] theorem k21 : ttag Tryd.prog 21 = some false := by kernel_rfl
@[go_sem] theorem y21 : Tryd.prog.bytesOf 21 = 4 := by kernel_rfl
@[go_sem] theorem s21 : isStr Tryd.prog 21 = false := by kernel_rfl
@[go_sem] theorem j21 : isI32 Tryd.prog 21 = true := by kernel_rfl
@[go_sem] theorem w21 : isU8 Tryd.prog 21 = false := by kernel_rfl
@[go_sem] theorem o21 : tzero Tryd.prog 21 = some [.int .i32 0] := by kernel_rfl
@[go_sem] theorem i21 : (Tryd.prog.info? 21).isSome = true := by kernel_rfl
attribute [go_sem] Tryd.underlying22
@[go_sem] theorem z22 : tsize Tryd.prog 22 = 1 := by kernel_rfl
@[go_sem] theorem k22 : ttag Tryd.prog 22 = some false := by kernel_rfl
@[go_sem] theorem y22 : Tryd.prog.bytesOf 22 = 24 := by kernel_rfl
@[go_sem] theorem s22 : isStr Tryd.prog 22 = false := by kernel_rfl
@[go_sem] theorem j22 : isI32 Tryd.prog 22 = false := by kernel_rfl
@[go_sem] theorem w22 : isU8 Tryd.prog 22 = false := by kernel_rfl
@[go_sem] theorem o22 : tzero Tryd.prog 22 = some [.slice none 0 0] := by kernel_rfl
@[go_sem] theorem i22 : (Tryd.prog.info? 22).isSome = true := by kernel_rfl
attribute [go_sem] Tryd.underlying25
@[go_sem] theorem z25 : tsize Tryd.prog 25 = 1 := by kernel_rfl
@[go_sem] theorem k25 : ttag Tryd.prog 25 = some false := by kernel_rfl
@[go_sem] theorem y25 : Tryd.prog.bytesOf 25 = 8 := by kernel_rfl
@[go_sem] theorem s25 : isStr Tryd.prog 25 = false := by kernel_rfl
@[go_sem] theorem j25 : isI32 Tryd.prog 25 = false := by kernel_rfl
@[go_sem] theorem w25 : isU8 Tryd.prog 25 = false := by kernel_rfl
@[go_sem] theorem o25 : tzero Tryd.prog 25 = some [.int .i64 0] := by kernel_rfl
@[go_sem] theorem i25 : (Tryd.prog.info? 25).isSome = true := by kernel_rfl
attribute [go_sem] Tryd.underlying28
@[go_sem] theorem z28 : tsize Tryd.prog 28 = 1 := by kernel_rfl
@[go_sem] theorem k28 : ttag Tryd.prog 28 = some false := by kernel_rfl
@[go_sem] theorem y28 : Tryd.prog.bytesOf 28 = 24 := by kernel_rfl
@[go_sem] theorem s28 : isStr Tryd.prog 28 = false := by kernel_rfl
@[go_sem] theorem j28 : isI32 Tryd.prog 28 = false := by kernel_rfl
@[go_sem] theorem w28 : isU8 Tryd.prog 28 = false := by kernel_rfl
@[go_sem] theorem o28 : tzero Tryd.prog 28 = some [.slice none 0 0] := by kernel_rfl
@[go_sem] theorem i28 : (Tryd.prog.info? 28).isSome = true := by kernel_rfl
attribute [go_sem] Tryd.underlying29
@[go_sem] theorem z29 : tsize Tryd.prog 29 = 1 := by kernel_rfl
@[go_sem] theorem k29 : ttag Tryd.prog 29 = some false := by kernel_rfl
@[go_sem] theorem y29 : Tryd.prog.bytesOf 29 = 24 := by kernel_rfl
@[go_sem] theorem s29 : isStr Tryd.prog 29 = false := by kernel_rfl
@[go_sem] theorem j29 : isI32 Tryd.prog 29 = false := by kernel_rfl
@[go_sem] theorem w29 : isU8 Tryd.prog 29 = false := by kernel_rfl
@[go_sem] theorem o29 : tzero Tryd.prog 29 = some [.slice none 0 0] := by kernel_rfl
@[go_sem] theorem i29 : (Tryd.prog.info? 29).isSome = true := by kernel_rfl
attribute [go_sem] Tryd.underlying31
@[go_sem] theorem z31 : tsize Tryd.prog 31 = 5 := by kernel_rfl
@[go_sem] theorem k31 : ttag Tryd.prog 31 = some true := by kernel_rfl
@[go_sem] theorem y31 : Tryd.prog.bytesOf 31 = 96 := by kernel_rfl
@[go_sem] theorem s31 : isStr Tryd.prog 31 = false := by kernel_rfl
@[go_sem] theorem j31 : isI32 Tryd.prog 31 = false := by kernel_rfl
@[go_sem] theorem w31 : isU8 Tryd.prog 31 = false := by kernel_rfl
@[go_sem] theorem o31 : tzero Tryd.prog 31 = some [.int .i64 0, .string ByteArray.empty, .slice none 0 0, .slice none 0 0, .slice none 0 0] := by kernel_rfl
@[go_sem] theorem i31 : (Tryd.prog.info? 31).isSome = true := by kernel_rfl
@[go_sem] theorem x31 : structOk Tryd.prog 31 = true := by kernel_rfl
@[go_sem] theorem g31x0 : fieldOff Tryd.prog 31 0 = some (0, 3) := by kernel_rfl
@[go_sem] theorem g31x1 : fieldOff Tryd.prog 31 1 = some (1, 9) := by kernel_rfl
@[go_sem] theorem g31x2 : fieldOff Tryd.prog 31 2 = some (2, 28) := by kernel_rfl
@[go_sem] theorem g31x3 : fieldOff Tryd.prog 31 3 = some (3, 29) := by kernel_rfl
@[go_sem] theorem g31x4 : fieldOff Tryd.prog 31 4 = some (4, 22) := by kernel_rfl
attribute [go_sem] Tryd.underlying34
@[go_sem] theorem z34 : tsize Tryd.prog 34 = 3 := by kernel_rfl
@[go_sem] theorem k34 : ttag Tryd.prog 34 = some true := by kernel_rfl
@[go_sem] theorem y34 : Tryd.prog.bytesOf 34 = 48 := by kernel_rfl
@[go_sem] theorem s34 : isStr Tryd.prog 34 = false := by kernel_rfl
@[go_sem] theorem j34 : isI32 Tryd.prog 34 = false := by kernel_rfl
@[go_sem] theorem w34 : isU8 Tryd.prog 34 = false := by kernel_rfl
@[go_sem] theorem o34 : tzero Tryd.prog 34 = some [.string ByteArray.empty, .slice none 0 0, .bool false] := by kernel_rfl
@[go_sem] theorem i34 : (Tryd.prog.info? 34).isSome = true := by kernel_rfl
@[go_sem] theorem x34 : structOk Tryd.prog 34 = true := by kernel_rfl
@[go_sem] theorem g34x0 : fieldOff Tryd.prog 34 0 = some (0, 9) := by kernel_rfl
@[go_sem] theorem g34x1 : fieldOff Tryd.prog 34 1 = some (1, 28) := by kernel_rfl
@[go_sem] theorem g34x2 : fieldOff Tryd.prog 34 2 = some (2, 4) := by kernel_rfl
attribute [go_sem] Tryd.underlying38
@[go_sem] theorem z38 : tsize Tryd.prog 38 = 2 := by kernel_rfl
@[go_sem] theorem k38 : ttag Tryd.prog 38 = some true := by kernel_rfl
@[go_sem] theorem y38 : Tryd.prog.bytesOf 38 = 16 := by kernel_rfl
@[go_sem] theorem s38 : isStr Tryd.prog 38 = false := by kernel_rfl
@[go_sem] theorem j38 : isI32 Tryd.prog 38 = false := by kernel_rfl
@[go_sem] theorem w38 : isU8 Tryd.prog 38 = false := by kernel_rfl
@[go_sem] theorem o38 : tzero Tryd.prog 38 = some [.int .i64 0, .int .i64 0] := by kernel_rfl
@[go_sem] theorem i38 : (Tryd.prog.info? 38).isSome = true := by kernel_rfl
@[go_sem] theorem x38 : structOk Tryd.prog 38 = true := by kernel_rfl
@[go_sem] theorem g38x0 : fieldOff Tryd.prog 38 0 = some (0, 2) := by kernel_rfl
@[go_sem] theorem g38x1 : fieldOff Tryd.prog 38 1 = some (1, 2) := by kernel_rfl
attribute [go_sem] Tryd.underlying40
@[go_sem] theorem z40 : tsize Tryd.prog 40 = 6 := by kernel_rfl
@[go_sem] theorem k40 : ttag Tryd.prog 40 = some true := by kernel_rfl
@[go_sem] theorem y40 : Tryd.prog.bytesOf 40 = 48 := by kernel_rfl
@[go_sem] theorem s40 : isStr Tryd.prog 40 = false := by kernel_rfl
@[go_sem] theorem j40 : isI32 Tryd.prog 40 = false := by kernel_rfl
@[go_sem] theorem w40 : isU8 Tryd.prog 40 = false := by kernel_rfl
@[go_sem] theorem o40 : tzero Tryd.prog 40 = some [.int .i64 0, .string ByteArray.empty, .int .i64 0, .int .i64 0, .bool false, .bool false] := by kernel_rfl
@[go_sem] theorem i40 : (Tryd.prog.info? 40).isSome = true := by kernel_rfl
@[go_sem] theorem x40 : structOk Tryd.prog 40 = true := by kernel_rfl
@[go_sem] theorem g40x0 : fieldOff Tryd.prog 40 0 = some (0, 3) := by kernel_rfl
@[go_sem] theorem g40x1 : fieldOff Tryd.prog 40 1 = some (1, 9) := by kernel_rfl
@[go_sem] theorem g40x2 : fieldOff Tryd.prog 40 2 = some (2, 38) := by kernel_rfl
@[go_sem] theorem g40x3 : fieldOff Tryd.prog 40 3 = some (4, 4) := by kernel_rfl
@[go_sem] theorem g40x4 : fieldOff Tryd.prog 40 4 = some (5, 4) := by kernel_rfl
attribute [go_sem] Tryd.underlying42
@[go_sem] theorem z42 : tsize Tryd.prog 42 = 7 := by kernel_rfl
@[go_sem] theorem k42 : ttag Tryd.prog 42 = some true := by kernel_rfl
@[go_sem] theorem y42 : Tryd.prog.bytesOf 42 = 72 := by kernel_rfl
@[go_sem] theorem s42 : isStr Tryd.prog 42 = false := by kernel_rfl
@[go_sem] theorem j42 : isI32 Tryd.prog 42 = false := by kernel_rfl
@[go_sem] theorem w42 : isU8 Tryd.prog 42 = false := by kernel_rfl
@[go_sem] theorem o42 : tzero Tryd.prog 42 = some [.int .i64 0, .string ByteArray.empty, .int .i64 0, .int .i64 0, .bool false, .bool false, .slice none 0 0] := by kernel_rfl
@[go_sem] theorem i42 : (Tryd.prog.info? 42).isSome = true := by kernel_rfl
@[go_sem] theorem x42 : structOk Tryd.prog 42 = true := by kernel_rfl
@[go_sem] theorem g42x0 : fieldOff Tryd.prog 42 0 = some (0, 40) := by kernel_rfl
@[go_sem] theorem g42x1 : fieldOff Tryd.prog 42 1 = some (6, 28) := by kernel_rfl
attribute [go_sem] Tryd.underlying44
@[go_sem] theorem z44 : tsize Tryd.prog 44 = 1 := by kernel_rfl
@[go_sem] theorem k44 : ttag Tryd.prog 44 = some false := by kernel_rfl
@[go_sem] theorem y44 : Tryd.prog.bytesOf 44 = 8 := by kernel_rfl
@[go_sem] theorem s44 : isStr Tryd.prog 44 = false := by kernel_rfl
@[go_sem] theorem j44 : isI32 Tryd.prog 44 = false := by kernel_rfl
@[go_sem] theorem w44 : isU8 Tryd.prog 44 = false := by kernel_rfl
@[go_sem] theorem i44 : (Tryd.prog.info? 44).isSome = true := by kernel_rfl
attribute [go_sem] Tryd.underlying45
@[go_sem] theorem z45 : tsize Tryd.prog 45 = 1 := by kernel_rfl
@[go_sem] theorem k45 : ttag Tryd.prog 45 = some false := by kernel_rfl
@[go_sem] theorem y45 : Tryd.prog.bytesOf 45 = 8 := by kernel_rfl
@[go_sem] theorem s45 : isStr Tryd.prog 45 = false := by kernel_rfl
@[go_sem] theorem j45 : isI32 Tryd.prog 45 = false := by kernel_rfl
@[go_sem] theorem w45 : isU8 Tryd.prog 45 = false := by kernel_rfl
@[go_sem] theorem i45 : (Tryd.prog.info? 45).isSome = true := by kernel_rfl
attribute [go_sem] Tryd.underlying46
@[go_sem] theorem z46 : tsize Tryd.prog 46 = 1 := by kernel_rfl
@[go_sem] theorem k46 : ttag Tryd.prog 46 = some false := by kernel_rfl
@[go_sem] theorem y46 : Tryd.prog.bytesOf 46 = 24 := by kernel_rfl
@[go_sem] theorem s46 : isStr Tryd.prog 46 = false := by kernel_rfl
@[go_sem] theorem j46 : isI32 Tryd.prog 46 = false := by kernel_rfl
@[go_sem] theorem w46 : isU8 Tryd.prog 46 = false := by kernel_rfl
@[go_sem] theorem o46 : tzero Tryd.prog 46 = some [.slice none 0 0] := by kernel_rfl
@[go_sem] theorem i46 : (Tryd.prog.info? 46).isSome = true := by kernel_rfl
attribute [go_sem] Tryd.underlying48
@[go_sem] theorem z48 : tsize Tryd.prog 48 = 2 := by kernel_rfl
@[go_sem] theorem k48 : ttag Tryd.prog 48 = some true := by kernel_rfl
@[go_sem] theorem y48 : Tryd.prog.bytesOf 48 = 32 := by kernel_rfl
@[go_sem] theorem s48 : isStr Tryd.prog 48 = false := by kernel_rfl
@[go_sem] theorem j48 : isI32 Tryd.prog 48 = false := by kernel_rfl
@[go_sem] theorem w48 : isU8 Tryd.prog 48 = false := by kernel_rfl
@[go_sem] theorem o48 : tzero Tryd.prog 48 = some [.pointer none, .slice none 0 0] := by kernel_rfl
@[go_sem] theorem i48 : (Tryd.prog.info? 48).isSome = true := by kernel_rfl
@[go_sem] theorem x48 : structOk Tryd.prog 48 = true := by kernel_rfl
@[go_sem] theorem g48x0 : fieldOff Tryd.prog 48 0 = some (0, 45) := by kernel_rfl
@[go_sem] theorem g48x1 : fieldOff Tryd.prog 48 1 = some (1, 46) := by kernel_rfl
attribute [go_sem] Tryd.underlying50
@[go_sem] theorem z50 : tsize Tryd.prog 50 = 3 := by kernel_rfl
@[go_sem] theorem k50 : ttag Tryd.prog 50 = some true := by kernel_rfl
@[go_sem] theorem y50 : Tryd.prog.bytesOf 50 = 40 := by kernel_rfl
@[go_sem] theorem s50 : isStr Tryd.prog 50 = false := by kernel_rfl
@[go_sem] theorem j50 : isI32 Tryd.prog 50 = false := by kernel_rfl
@[go_sem] theorem w50 : isU8 Tryd.prog 50 = false := by kernel_rfl
@[go_sem] theorem o50 : tzero Tryd.prog 50 = some [.pointer none, .slice none 0 0, .int .i64 0] := by kernel_rfl
@[go_sem] theorem i50 : (Tryd.prog.info? 50).isSome = true := by kernel_rfl
@[go_sem] theorem x50 : structOk Tryd.prog 50 = true := by kernel_rfl
@[go_sem] theorem g50x0 : fieldOff Tryd.prog 50 0 = some (0, 48) := by kernel_rfl
@[go_sem] theorem g50x1 : fieldOff Tryd.prog 50 1 = some (2, 25) := by kernel_rfl
attribute [go_sem] Tryd.underlying64
@[go_sem] theorem z64 : tsize Tryd.prog 64 = 1 := by kernel_rfl
@[go_sem] theorem k64 : ttag Tryd.prog 64 = some false := by kernel_rfl
@[go_sem] theorem y64 : Tryd.prog.bytesOf 64 = 24 := by kernel_rfl
@[go_sem] theorem s64 : isStr Tryd.prog 64 = false := by kernel_rfl
@[go_sem] theorem j64 : isI32 Tryd.prog 64 = false := by kernel_rfl
@[go_sem] theorem w64 : isU8 Tryd.prog 64 = false := by kernel_rfl
@[go_sem] theorem o64 : tzero Tryd.prog 64 = some [.slice none 0 0] := by kernel_rfl
@[go_sem] theorem i64 : (Tryd.prog.info? 64).isSome = true := by kernel_rfl
attribute [go_sem] Tryd.underlying74
@[go_sem] theorem z74 : tsize Tryd.prog 74 = 2 := by kernel_rfl
@[go_sem] theorem k74 : ttag Tryd.prog 74 = some true := by kernel_rfl
@[go_sem] theorem y74 : Tryd.prog.bytesOf 74 = 32 := by kernel_rfl
@[go_sem] theorem s74 : isStr Tryd.prog 74 = false := by kernel_rfl
@[go_sem] theorem j74 : isI32 Tryd.prog 74 = false := by kernel_rfl
@[go_sem] theorem w74 : isU8 Tryd.prog 74 = false := by kernel_rfl
@[go_sem] theorem o74 : tzero Tryd.prog 74 = some [.slice none 0 0, .int .i64 0] := by kernel_rfl
@[go_sem] theorem i74 : (Tryd.prog.info? 74).isSome = true := by kernel_rfl
@[go_sem] theorem x74 : structOk Tryd.prog 74 = true := by kernel_rfl
@[go_sem] theorem g74x0 : fieldOff Tryd.prog 74 0 = some (0, 28) := by kernel_rfl
@[go_sem] theorem g74x1 : fieldOff Tryd.prog 74 1 = some (1, 3) := by kernel_rfl
attribute [go_sem] Tryd.underlying75
@[go_sem] theorem z75 : tsize Tryd.prog 75 = 1 := by kernel_rfl
@[go_sem] theorem k75 : ttag Tryd.prog 75 = some false := by kernel_rfl
@[go_sem] theorem y75 : Tryd.prog.bytesOf 75 = 24 := by kernel_rfl
@[go_sem] theorem s75 : isStr Tryd.prog 75 = false := by kernel_rfl
@[go_sem] theorem j75 : isI32 Tryd.prog 75 = false := by kernel_rfl
@[go_sem] theorem w75 : isU8 Tryd.prog 75 = false := by kernel_rfl
@[go_sem] theorem o75 : tzero Tryd.prog 75 = some [.slice none 0 0] := by kernel_rfl
@[go_sem] theorem i75 : (Tryd.prog.info? 75).isSome = true := by kernel_rfl
attribute [go_sem] Tryd.underlying90
@[go_sem] theorem z90 : tsize Tryd.prog 90 = 1 := by kernel_rfl
@[go_sem] theorem k90 : ttag Tryd.prog 90 = some false := by kernel_rfl
@[go_sem] theorem y90 : Tryd.prog.bytesOf 90 = 8 := by kernel_rfl
@[go_sem] theorem s90 : isStr Tryd.prog 90 = false := by kernel_rfl
@[go_sem] theorem j90 : isI32 Tryd.prog 90 = false := by kernel_rfl
@[go_sem] theorem w90 : isU8 Tryd.prog 90 = false := by kernel_rfl
@[go_sem] theorem o90 : tzero Tryd.prog 90 = some [.int .u64 0] := by kernel_rfl
@[go_sem] theorem i90 : (Tryd.prog.info? 90).isSome = true := by kernel_rfl
attribute [go_sem] Tryd.underlying98
@[go_sem] theorem z98 : tsize Tryd.prog 98 = 1 := by kernel_rfl
@[go_sem] theorem k98 : ttag Tryd.prog 98 = some false := by kernel_rfl
@[go_sem] theorem y98 : Tryd.prog.bytesOf 98 = 8 := by kernel_rfl
@[go_sem] theorem s98 : isStr Tryd.prog 98 = false := by kernel_rfl
@[go_sem] theorem j98 : isI32 Tryd.prog 98 = false := by kernel_rfl
@[go_sem] theorem w98 : isU8 Tryd.prog 98 = false := by kernel_rfl
@[go_sem] theorem o98 : tzero Tryd.prog 98 = some [.int .u64 0] := by kernel_rfl
@[go_sem] theorem i98 : (Tryd.prog.info? 98).isSome = true := by kernel_rfl
attribute [go_sem] Tryd.underlying100
@[go_sem] theorem z100 : tsize Tryd.prog 100 = 2 := by kernel_rfl
@[go_sem] theorem k100 : ttag Tryd.prog 100 = some true := by kernel_rfl
@[go_sem] theorem y100 : Tryd.prog.bytesOf 100 = 16 := by kernel_rfl
@[go_sem] theorem s100 : isStr Tryd.prog 100 = false := by kernel_rfl
@[go_sem] theorem j100 : isI32 Tryd.prog 100 = false := by kernel_rfl
@[go_sem] theorem w100 : isU8 Tryd.prog 100 = false := by kernel_rfl
@[go_sem] theorem o100 : tzero Tryd.prog 100 = some [.int .u64 0, .int .u64 0] := by kernel_rfl
@[go_sem] theorem i100 : (Tryd.prog.info? 100).isSome = true := by kernel_rfl
attribute [go_sem] Tryd.underlying101
@[go_sem] theorem z101 : tsize Tryd.prog 101 = 4 := by kernel_rfl
@[go_sem] theorem k101 : ttag Tryd.prog 101 = some true := by kernel_rfl
@[go_sem] theorem y101 : Tryd.prog.bytesOf 101 = 32 := by kernel_rfl
@[go_sem] theorem s101 : isStr Tryd.prog 101 = false := by kernel_rfl
@[go_sem] theorem j101 : isI32 Tryd.prog 101 = false := by kernel_rfl
@[go_sem] theorem w101 : isU8 Tryd.prog 101 = false := by kernel_rfl
@[go_sem] theorem o101 : tzero Tryd.prog 101 = some [.int .u64 0, .int .u64 0, .int .u64 0, .int .u64 0] := by kernel_rfl
@[go_sem] theorem i101 : (Tryd.prog.info? 101).isSome = true := by kernel_rfl
attribute [go_sem] Tryd.underlying104
@[go_sem] theorem z104 : tsize Tryd.prog 104 = 10 := by kernel_rfl
@[go_sem] theorem k104 : ttag Tryd.prog 104 = some true := by kernel_rfl
@[go_sem] theorem y104 : Tryd.prog.bytesOf 104 = 80 := by kernel_rfl
@[go_sem] theorem s104 : isStr Tryd.prog 104 = false := by kernel_rfl
@[go_sem] theorem j104 : isI32 Tryd.prog 104 = false := by kernel_rfl
@[go_sem] theorem w104 : isU8 Tryd.prog 104 = false := by kernel_rfl
@[go_sem] theorem o104 : tzero Tryd.prog 104 = some [.int .i64 0, .int .i64 0, .int .i64 0, .int .i64 0, .int .i64 0, .int .i64 0, .int .i64 0, .int .i64 0, .int .i64 0, .int .i64 0] := by kernel_rfl
@[go_sem] theorem i104 : (Tryd.prog.info? 104).isSome = true := by kernel_rfl
attribute [go_sem] Tryd.underlying112
@[go_sem] theorem z112 : tsize Tryd.prog 112 = 20 := by kernel_rfl
@[go_sem] theorem k112 : ttag Tryd.prog 112 = some true := by kernel_rfl
@[go_sem] theorem y112 : Tryd.prog.bytesOf 112 = 20 := by kernel_rfl
@[go_sem] theorem s112 : isStr Tryd.prog 112 = false := by kernel_rfl
@[go_sem] theorem j112 : isI32 Tryd.prog 112 = false := by kernel_rfl
@[go_sem] theorem w112 : isU8 Tryd.prog 112 = false := by kernel_rfl
@[go_sem] theorem o112 : tzero Tryd.prog 112 = some [.int .u8 0, .int .u8 0, .int .u8 0, .int .u8 0, .int .u8 0, .int .u8 0, .int .u8 0, .int .u8 0, .int .u8 0, .int .u8 0, .int .u8 0, .int .u8 0, .int .u8 0, .int .u8 0, .int .u8 0, .int .u8 0, .int .u8 0, .int .u8 0, .int .u8 0, .int .u8 0] := by kernel_rfl
@[go_sem] theorem i112 : (Tryd.prog.info? 112).isSome = true := by kernel_rfl
attribute [go_sem] Tryd.underlying115
@[go_sem] theorem z115 : tsize Tryd.prog 115 = 256 := by kernel_rfl
@[go_sem] theorem k115 : ttag Tryd.prog 115 = some true := by kernel_rfl
@[go_sem] theorem y115 : Tryd.prog.bytesOf 115 = 256 := by kernel_rfl
@[go_sem] theorem s115 : isStr Tryd.prog 115 = false := by kernel_rfl
@[go_sem] theorem j115 : isI32 Tryd.prog 115 = false := by kernel_rfl
@[go_sem] theorem w115 : isU8 Tryd.prog 115 = false := by kernel_rfl
@[go_sem] theorem o115 : tzero Tryd.prog 115 = some [.bool false, .bool false, .bool false, .bool false, .bool false, .bool false, .bool false, .bool false, .bool false, .bool false, .bool false, .bool false, .bool false, .bool false, .bool false, .bool false, .bool false, .bool false, .bool false, .bool false, .bool false, .bool false, .bool false, .bool false, .bool false, .bool false, .bool false, .bool false, .bool false, .bool false, .bool false, .bool false, .bool false, .bool false, .bool false, .bool false, .bool false, .bool false, .bool false, .bool false, .bool false, .bool false, .bool false, .bool false, .bool false, .bool false, .bool false, .bool false, .bool false, .bool false, .bool false, .bool false, .bool false, .bool false, .bool false, .bool false, .bool false, .bool false, .bool false, .bool false, .bool false, .bool false, .bool false, .bool false, .bool false, .bool false, .bool false, .bool false, .bool false, .bool false, .bool false, .bool false, .bool false, .bool false, .bool false, .bool false, .bool false, .bool false, .bool false, .bool false, .bool false, .bool false, .bool false, .bool false, .bool false, .bool false, .bool false, .bool false, .bool false, .bool false, .bool false, .bool false, .bool false, .bool false, .bool false, .bool false, .bool false, .bool false, .bool false, .bool false, .bool false, .bool false, .bool false, .bool false, .bool false, .bool false, .bool false, .bool false, .bool false, .bool false, .bool false, .bool false, .bool false, .bool false, .bool false, .bool false, .bool false, .bool false, .bool false, .bool false, .bool false, .bool false, .bool false, .bool false, .bool false, .bool false, .bool false, .bool false, .bool false, .bool false, .bool false, .bool false, .bool false, .bool false, .bool false, .bool false, .bool false, .bool false, .bool false, .bool false, .bool false, .bool false, .bool false, .bool false, .bool false, .bool false, .bool false, .bool false, .bool false, .bool false, .bool false, .bool false, .bool false, .bool false, .bool false, .bool false, .bool false, .bool false, .bool false, .bool false, .bool false, .bool false, .bool false, .bool false, .bool false, .bool false, .bool false, .bool false, .bool false, .bool false, .bool false, .bool false, .bool false, .bool false, .bool false, .bool false, .bool false, .bool false, .bool false, .bool false, .bool false, .bool false, .bool false, .bool false, .bool false, .bool false, .bool false, .bool false, .bool false, .bool false, .bool false, .bool false, .bool false, .bool false, .bool false, .bool false, .bool false, .bool false, .bool false, .bool false, .bool false, .bool false, .bool false, .bool false, .bool false, .bool false, .bool false, .bool false, .bool false, .bool false, .bool false, .bool false, .bool false, .bool false, .bool false, .bool false, .bool false, .bool false, .bool false, .bool false, .bool false, .bool false, .bool false, .bool false, .bool false, .bool false, .bool false, .bool false, .bool false, .bool false, .bool false, .bool false, .bool false, .bool false, .bool false, .bool false, .bool false, .bool false, .bool false, .bool false, .bool false, .bool false, .bool false, .bool false, .bool false, .bool false, .bool false, .bool false, .bool false, .bool false, .bool false, .bool false, .bool false, .bool false, .bool false, .bool false] := by kernel_rfl
@[go_sem] theorem i115 : (Tryd.prog.info? 115).isSome = true := by kernel_rfl
attribute [go_sem] Tryd.underlying120
@[go_sem] theorem z120 : tsize Tryd.prog 120 = 1 := by kernel_rfl
@[go_sem] theorem k120 : ttag Tryd.prog 120 = some false := by kernel_rfl
@[go_sem] theorem y120 : Tryd.prog.bytesOf 120 = 4 := by kernel_rfl
@[go_sem] theorem s120 : isStr Tryd.prog 120 = false := by kernel_rfl
@[go_sem] theorem j120 : isI32 Tryd.prog 120 = false := by kernel_rfl
@[go_sem] theorem w120 : isU8 Tryd.prog 120 = false := by kernel_rfl
@[go_sem] theorem o120 : tzero Tryd.prog 120 = some [.int .u32 0] := by kernel_rfl
@[go_sem] theorem i120 : (Tryd.prog.info? 120).isSome = true := by kernel_rfl
def HQ (a : Nat → Option (List Nat)) : Hint := ⟨a, (fun _ => none), (fun _ => none), [], false, (fun _ => none), fun _ => 0, 0, false⟩
@[go_sem] theorem HQx (a : Nat → Option (List Nat)) : (HQ a).mix = (fun _ => none) := rfl
@[go_sem] theorem HQl (a : Nat → Option (List Nat)) : (HQ a).live = a := rfl
@[go_sem] theorem HQo (a : Nat → Option (List Nat)) : (HQ a).mode = fun _ => 0 := rfl
@[go_sem] theorem HQk (a : Nat → Option (List Nat)) : (HQ a).keep = (fun _ => none) := rfl
@[go_sem] theorem HQt (a : Nat → Option (List Nat)) : (HQ a).tail = (fun _ => none) := rfl
@[go_sem] theorem HQv (a : Nat → Option (List Nat)) : (HQ a).vars = [] := rfl
@[go_sem] theorem HQm (a : Nat → Option (List Nat)) : (HQ a).mutc = false := rfl
@[go_sem] def h3a : Nat → Option (List Nat) := (fun id => match id with | 0 => some [0, 1] | 1 => some [4] | _ => none)
abbrev h3 : Hint := HQ h3a
@[go_sem] def h4a : Nat → Option (List Nat) := (fun id => match id with | 0 => some [0, 1] | 1 => some [0, 1, 5, 6] | 2 => some [0, 1, 5, 6, 7, 8] | 3 => some [5, 6, 7, 8, 9, 10] | 4 => some [5, 7, 9, 10, 35] | 5 => some [4] | 6 => some [4] | _ => none)
abbrev h4 : Hint := HQ h4a
@[go_sem] def h5a : Nat → Option (List Nat) := (fun id => match id with | 0 => some [0, 1] | 1 => some [0, 1, 15] | 2 => some [4] | 3 => some [0, 1, 17, 18] | 4 => some [0, 1, 17, 18, 19] | 5 => some [0, 1, 5, 17, 18] | 6 => some [0, 1, 6, 7, 17, 18] | 7 => some [0, 1, 6, 7, 17, 18, 57] | 8 => some [4] | 9 => some [0, 1, 6, 7, 17, 18, 60, 61] | 10 => some [0, 1, 6, 7, 17, 18, 60, 61, 62] | 11 => some [0, 1, 6, 7, 8, 17, 18, 60, 61] | 12 => some [0, 1, 6, 7, 9, 10, 17, 18, 60, 61] | 13 => some [0, 1, 6, 7, 17, 18, 60, 61, 93] | 14 => some [4] | 15 => some [0, 1, 6, 7, 17, 18, 60, 61] | 16 => some [0, 1, 17, 18, 100] | 17 => some [4] | 18 => some [0, 1, 17, 18] | 19 => some [4] | _ => none)
def h5 : Hint := ⟨h5a, (fun id => match id with | 15 => some 2 | 18 => some 0 | _ => none), (fun id => match id with | 6 => some 8 | 12 => some 10 | _ => none), [], false, (fun id => match id with | 6 => some ⟨[0, 1, 2, 3, 4, 5, 6, 7], [], .head 0 (.head 1 (.head 2 (.head 3 (.alt (.one 4 (.alt (.one 5 (.alt (.one 6 (.alt (.one 7 (.alt (.one 8 (.one 9 (.one 10 (.one 11 (.fin))))) (.one 9 (.one 8 (.one 10 (.one 11 (.finS 0))))))) (.alt (.one 8 (.alt (.one 7 (.one 9 (.one 10 (.one 11 (.fin))))) (.one 9 (.alt (.one 7 (.one 10 (.one 11 (.fin)))) (.one 10 (.head 7 (.one 11 (.fin)))))))) (.one 9 (.alt (.one 7 (.one 8 (.one 10 (.one 11 (.finS 0))))) (.one 8 (.alt (.one 7 (.one 10 (.one 11 (.finS 0)))) (.one 10 (.head 7 (.one 11 (.finS 0))))))))))) (.alt (.one 8 (.alt (.one 6 (.alt (.one 7 (.one 9 (.one 10 (.one 11 (.fin))))) (.one 9 (.alt (.one 7 (.one 10 (.one 11 (.fin)))) (.one 10 (.head 7 (.one 11 (.fin)))))))) (.one 9 (.alt (.one 6 (.alt (.one 7 (.one 10 (.one 11 (.fin)))) (.one 10 (.head 7 (.one 11 (.fin)))))) (.one 10 (.head 6 (.head 7 (.one 11 (.fin))))))))) (.one 9 (.alt (.one 6 (.alt (.one 7 (.one 8 (.one 10 (.one 11 (.finS 0))))) (.one 8 (.alt (.one 7 (.one 10 (.one 11 (.finS 0)))) (.one 10 (.head 7 (.one 11 (.finS 0)))))))) (.one 8 (.alt (.one 6 (.alt (.one 7 (.one 10 (.one 11 (.finS 0)))) (.one 10 (.head 7 (.one 11 (.finS 0)))))) (.one 10 (.head 6 (.head 7 (.one 11 (.finS 0)))))))))))) (.alt (.one 8 (.alt (.one 5 (.alt (.one 6 (.alt (.one 7 (.one 9 (.one 10 (.one 11 (.fin))))) (.one 9 (.alt (.one 7 (.one 10 (.one 11 (.fin)))) (.one 10 (.head 7 (.one 11 (.fin)))))))) (.one 9 (.alt (.one 6 (.alt (.one 7 (.one 10 (.one 11 (.fin)))) (.one 10 (.head 7 (.one 11 (.fin)))))) (.one 10 (.head 6 (.head 7 (.one 11 (.fin))))))))) (.one 9 (.alt (.one 5 (.alt (.one 6 (.alt (.one 7 (.one 10 (.one 11 (.fin)))) (.one 10 (.head 7 (.one 11 (.fin)))))) (.one 10 (.head 6 (.head 7 (.one 11 (.fin))))))) (.one 10 (.head 5 (.head 6 (.head 7 (.one 11 (.fin)))))))))) (.one 9 (.alt (.one 5 (.alt (.one 6 (.alt (.one 7 (.one 8 (.one 10 (.one 11 (.finS 0))))) (.one 8 (.alt (.one 7 (.one 10 (.one 11 (.finS 0)))) (.one 10 (.head 7 (.one 11 (.finS 0)))))))) (.one 8 (.alt (.one 6 (.alt (.one 7 (.one 10 (.one 11 (.finS 0)))) (.one 10 (.head 7 (.one 11 (.finS 0)))))) (.one 10 (.head 6 (.head 7 (.one 11 (.finS 0))))))))) (.one 8 (.alt (.one 5 (.alt (.one 6 (.alt (.one 7 (.one 10 (.one 11 (.finS 0)))) (.one 10 (.head 7 (.one 11 (.finS 0)))))) (.one 10 (.head 6 (.head 7 (.one 11 (.finS 0))))))) (.one 10 (.head 5 (.head 6 (.head 7 (.one 11 (.finS 0))))))))))))) (.alt (.one 5 (.alt (.one 4 (.alt (.one 6 (.alt (.one 7 (.alt (.one 8 (.one 9 (.one 10 (.one 11 (.fin))))) (.one 9 (.one 8 (.one 10 (.one 11 (.finS 0))))))) (.alt (.one 8 (.alt (.one 7 (.one 9 (.one 10 (.one 11 (.fin))))) (.one 9 (.alt (.one 7 (.one 10 (.one 11 (.fin)))) (.one 10 (.head 7 (.one 11 (.fin)))))))) (.one 9 (.alt (.one 7 (.one 8 (.one 10 (.one 11 (.finS 0))))) (.one 8 (.alt (.one 7 (.one 10 (.one 11 (.finS 0)))) (.one 10 (.head 7 (.one 11 (.finS 0))))))))))) (.alt (.one 8 (.alt (.one 6 (.alt (.one 7 (.one 9 (.one 10 (.one 11 (.fin))))) (.one 9 (.alt (.one 7 (.one 10 (.one 11 (.fin)))) (.one 10 (.head 7 (.one 11 (.fin)))))))) (.one 9 (.alt (.one 6 (.alt (.one 7 (.one 10 (.one 11 (.fin)))) (.one 10 (.head 7 (.one 11 (.fin)))))) (.one 10 (.head 6 (.head 7 (.one 11 (.fin))))))))) (.one 9 (.alt (.one 6 (.alt (.one 7 (.one 8 (.one 10 (.one 11 (.finS 0))))) (.one 8 (.alt (.one 7 (.one 10 (.one 11 (.finS 0)))) (.one 10 (.head 7 (.one 11 (.finS 0)))))))) (.one 8 (.alt (.one 6 (.alt (.one 7 (.one 10 (.one 11 (.finS 0)))) (.one 10 (.head 7 (.one 11 (.finS 0)))))) (.one 10 (.head 6 (.head 7 (.one 11 (.finS 0)))))))))))) (.alt (.one 8 (.alt (.one 4 (.alt (.one 6 (.alt (.one 7 (.one 9 (.one 10 (.one 11 (.fin))))) (.one 9 (.alt (.one 7 (.one 10 (.one 11 (.fin)))) (.one 10 (.head 7 (.one 11 (.fin)))))))) (.one 9 (.alt (.one 6 (.alt (.one 7 (.one 10 (.one 11 (.fin)))) (.one 10 (.head 7 (.one 11 (.fin)))))) (.one 10 (.head 6 (.head 7 (.one 11 (.fin))))))))) (.one 9 (.alt (.one 4 (.alt (.one 6 (.alt (.one 7 (.one 10 (.one 11 (.fin)))) (.one 10 (.head 7 (.one 11 (.fin)))))) (.one 10 (.head 6 (.head 7 (.one 11 (.fin))))))) (.one 10 (.head 4 (.head 6 (.head 7 (.one 11 (.fin)))))))))) (.one 9 (.alt (.one 4 (.alt (.one 6 (.alt (.one 7 (.one 8 (.one 10 (.one 11 (.finS 0))))) (.one 8 (.alt (.one 7 (.one 10 (.one 11 (.finS 0)))) (.one 10 (.head 7 (.one 11 (.finS 0)))))))) (.one 8 (.alt (.one 6 (.alt (.one 7 (.one 10 (.one 11 (.finS 0)))) (.one 10 (.head 7 (.one 11 (.finS 0)))))) (.one 10 (.head 6 (.head 7 (.one 11 (.finS 0))))))))) (.one 8 (.alt (.one 4 (.alt (.one 6 (.alt (.one 7 (.one 10 (.one 11 (.finS 0)))) (.one 10 (.head 7 (.one 11 (.finS 0)))))) (.one 10 (.head 6 (.head 7 (.one 11 (.finS 0))))))) (.one 10 (.head 4 (.head 6 (.head 7 (.one 11 (.finS 0))))))))))))) (.alt (.one 8 (.alt (.one 4 (.alt (.one 5 (.alt (.one 6 (.alt (.one 7 (.one 9 (.one 10 (.one 11 (.fin))))) (.one 9 (.alt (.one 7 (.one 10 (.one 11 (.fin)))) (.one 10 (.head 7 (.one 11 (.fin)))))))) (.one 9 (.alt (.one 6 (.alt (.one 7 (.one 10 (.one 11 (.fin)))) (.one 10 (.head 7 (.one 11 (.fin)))))) (.one 10 (.head 6 (.head 7 (.one 11 (.fin))))))))) (.one 9 (.alt (.one 5 (.alt (.one 6 (.alt (.one 7 (.one 10 (.one 11 (.fin)))) (.one 10 (.head 7 (.one 11 (.fin)))))) (.one 10 (.head 6 (.head 7 (.one 11 (.fin))))))) (.one 10 (.head 5 (.head 6 (.head 7 (.one 11 (.fin)))))))))) (.alt (.one 5 (.alt (.one 4 (.alt (.one 6 (.alt (.one 7 (.one 9 (.one 10 (.one 11 (.fin))))) (.one 9 (.alt (.one 7 (.one 10 (.one 11 (.fin)))) (.one 10 (.head 7 (.one 11 (.fin)))))))) (.one 9 (.alt (.one 6 (.alt (.one 7 (.one 10 (.one 11 (.fin)))) (.one 10 (.head 7 (.one 11 (.fin)))))) (.one 10 (.head 6 (.head 7 (.one 11 (.fin))))))))) (.one 9 (.alt (.one 4 (.alt (.one 6 (.alt (.one 7 (.one 10 (.one 11 (.fin)))) (.one 10 (.head 7 (.one 11 (.fin)))))) (.one 10 (.head 6 (.head 7 (.one 11 (.fin))))))) (.one 10 (.head 4 (.head 6 (.head 7 (.one 11 (.fin)))))))))) (.one 9 (.alt (.one 4 (.alt (.one 5 (.alt (.one 6 (.alt (.one 7 (.one 10 (.one 11 (.fin)))) (.one 10 (.head 7 (.one 11 (.fin)))))) (.one 10 (.head 6 (.head 7 (.one 11 (.fin))))))) (.one 10 (.head 5 (.head 6 (.head 7 (.one 11 (.fin)))))))) (.alt (.one 5 (.alt (.one 4 (.alt (.one 6 (.alt (.one 7 (.one 10 (.one 11 (.fin)))) (.one 10 (.head 7 (.one 11 (.fin)))))) (.one 10 (.head 6 (.head 7 (.one 11 (.fin))))))) (.one 10 (.head 4 (.head 6 (.head 7 (.one 11 (.fin)))))))) (.one 10 (.head 4 (.head 5 (.head 6 (.head 7 (.one 11 (.fin))))))))))))) (.one 9 (.alt (.one 4 (.alt (.one 5 (.alt (.one 6 (.alt (.one 7 (.one 8 (.one 10 (.one 11 (.finS 0))))) (.one 8 (.alt (.one 7 (.one 10 (.one 11 (.finS 0)))) (.one 10 (.head 7 (.one 11 (.finS 0)))))))) (.one 8 (.alt (.one 6 (.alt (.one 7 (.one 10 (.one 11 (.finS 0)))) (.one 10 (.head 7 (.one 11 (.finS 0)))))) (.one 10 (.head 6 (.head 7 (.one 11 (.finS 0))))))))) (.one 8 (.alt (.one 5 (.alt (.one 6 (.alt (.one 7 (.one 10 (.one 11 (.finS 0)))) (.one 10 (.head 7 (.one 11 (.finS 0)))))) (.one 10 (.head 6 (.head 7 (.one 11 (.finS 0))))))) (.one 10 (.head 5 (.head 6 (.head 7 (.one 11 (.finS 0)))))))))) (.alt (.one 5 (.alt (.one 4 (.alt (.one 6 (.alt (.one 7 (.one 8 (.one 10 (.one 11 (.finS 0))))) (.one 8 (.alt (.one 7 (.one 10 (.one 11 (.finS 0)))) (.one 10 (.head 7 (.one 11 (.finS 0)))))))) (.one 8 (.alt (.one 6 (.alt (.one 7 (.one 10 (.one 11 (.finS 0)))) (.one 10 (.head 7 (.one 11 (.finS 0)))))) (.one 10 (.head 6 (.head 7 (.one 11 (.finS 0))))))))) (.one 8 (.alt (.one 4 (.alt (.one 6 (.alt (.one 7 (.one 10 (.one 11 (.finS 0)))) (.one 10 (.head 7 (.one 11 (.finS 0)))))) (.one 10 (.head 6 (.head 7 (.one 11 (.finS 0))))))) (.one 10 (.head 4 (.head 6 (.head 7 (.one 11 (.finS 0)))))))))) (.one 8 (.alt (.one 4 (.alt (.one 5 (.alt (.one 6 (.alt (.one 7 (.one 10 (.one 11 (.finS 0)))) (.one 10 (.head 7 (.one 11 (.finS 0)))))) (.one 10 (.head 6 (.head 7 (.one 11 (.finS 0))))))) (.one 10 (.head 5 (.head 6 (.head 7 (.one 11 (.finS 0)))))))) (.alt (.one 5 (.alt (.one 4 (.alt (.one 6 (.alt (.one 7 (.one 10 (.one 11 (.finS 0)))) (.one 10 (.head 7 (.one 11 (.finS 0)))))) (.one 10 (.head 6 (.head 7 (.one 11 (.finS 0))))))) (.one 10 (.head 4 (.head 6 (.head 7 (.one 11 (.finS 0)))))))) (.one 10 (.head 4 (.head 5 (.head 6 (.head 7 (.one 11 (.finS 0)))))))))))))))))))⟩ | 12 => some ⟨[0, 1, 2, 3, 4, 5, 6, 7, 8, 9], [], .head 0 (.head 1 (.head 2 (.head 3 (.head 4 (.alt (.one 5 (.alt (.one 6 (.alt (.one 7 (.alt (.one 8 (.alt (.one 9 (.alt (.one 10 (.one 11 (.one 12 (.one 13 (.fin))))) (.one 11 (.one 10 (.one 12 (.one 13 (.finS 2))))))) (.alt (.one 10 (.alt (.one 9 (.one 11 (.one 12 (.one 13 (.fin))))) (.one 11 (.alt (.one 9 (.one 12 (.one 13 (.fin)))) (.one 12 (.head 9 (.one 13 (.fin)))))))) (.one 11 (.alt (.one 9 (.one 10 (.one 12 (.one 13 (.finS 2))))) (.one 10 (.alt (.one 9 (.one 12 (.one 13 (.finS 2)))) (.one 12 (.head 9 (.one 13 (.finS 2))))))))))) (.alt (.one 10 (.alt (.one 8 (.alt (.one 9 (.one 11 (.one 12 (.one 13 (.fin))))) (.one 11 (.alt (.one 9 (.one 12 (.one 13 (.fin)))) (.one 12 (.head 9 (.one 13 (.fin)))))))) (.one 11 (.alt (.one 8 (.alt (.one 9 (.one 12 (.one 13 (.fin)))) (.one 12 (.head 9 (.one 13 (.fin)))))) (.one 12 (.head 8 (.head 9 (.one 13 (.fin))))))))) (.one 11 (.alt (.one 8 (.alt (.one 9 (.one 10 (.one 12 (.one 13 (.finS 2))))) (.one 10 (.alt (.one 9 (.one 12 (.one 13 (.finS 2)))) (.one 12 (.head 9 (.one 13 (.finS 2)))))))) (.one 10 (.alt (.one 8 (.alt (.one 9 (.one 12 (.one 13 (.finS 2)))) (.one 12 (.head 9 (.one 13 (.finS 2)))))) (.one 12 (.head 8 (.head 9 (.one 13 (.finS 2)))))))))))) (.alt (.one 10 (.alt (.one 7 (.alt (.one 8 (.alt (.one 9 (.one 11 (.one 12 (.one 13 (.fin))))) (.one 11 (.alt (.one 9 (.one 12 (.one 13 (.fin)))) (.one 12 (.head 9 (.one 13 (.fin)))))))) (.one 11 (.alt (.one 8 (.alt (.one 9 (.one 12 (.one 13 (.fin)))) (.one 12 (.head 9 (.one 13 (.fin)))))) (.one 12 (.head 8 (.head 9 (.one 13 (.fin))))))))) (.one 11 (.alt (.one 7 (.alt (.one 8 (.alt (.one 9 (.one 12 (.one 13 (.fin)))) (.one 12 (.head 9 (.one 13 (.fin)))))) (.one 12 (.head 8 (.head 9 (.one 13 (.fin))))))) (.one 12 (.head 7 (.head 8 (.head 9 (.one 13 (.fin)))))))))) (.one 11 (.alt (.one 7 (.alt (.one 8 (.alt (.one 9 (.one 10 (.one 12 (.one 13 (.finS 2))))) (.one 10 (.alt (.one 9 (.one 12 (.one 13 (.finS 2)))) (.one 12 (.head 9 (.one 13 (.finS 2)))))))) (.one 10 (.alt (.one 8 (.alt (.one 9 (.one 12 (.one 13 (.finS 2)))) (.one 12 (.head 9 (.one 13 (.finS 2)))))) (.one 12 (.head 8 (.head 9 (.one 13 (.finS 2))))))))) (.one 10 (.alt (.one 7 (.alt (.one 8 (.alt (.one 9 (.one 12 (.one 13 (.finS 2)))) (.one 12 (.head 9 (.one 13 (.finS 2)))))) (.one 12 (.head 8 (.head 9 (.one 13 (.finS 2))))))) (.one 12 (.head 7 (.head 8 (.head 9 (.one 13 (.finS 2))))))))))))) (.alt (.one 7 (.alt (.one 6 (.alt (.one 8 (.alt (.one 9 (.alt (.one 10 (.one 11 (.one 12 (.one 13 (.fin))))) (.one 11 (.one 10 (.one 12 (.one 13 (.finS 2))))))) (.alt (.one 10 (.alt (.one 9 (.one 11 (.one 12 (.one 13 (.fin))))) (.one 11 (.alt (.one 9 (.one 12 (.one 13 (.fin)))) (.one 12 (.head 9 (.one 13 (.fin)))))))) (.one 11 (.alt (.one 9 (.one 10 (.one 12 (.one 13 (.finS 2))))) (.one 10 (.alt (.one 9 (.one 12 (.one 13 (.finS 2)))) (.one 12 (.head 9 (.one 13 (.finS 2))))))))))) (.alt (.one 10 (.alt (.one 8 (.alt (.one 9 (.one 11 (.one 12 (.one 13 (.fin))))) (.one 11 (.alt (.one 9 (.one 12 (.one 13 (.fin)))) (.one 12 (.head 9 (.one 13 (.fin)))))))) (.one 11 (.alt (.one 8 (.alt (.one 9 (.one 12 (.one 13 (.fin)))) (.one 12 (.head 9 (.one 13 (.fin)))))) (.one 12 (.head 8 (.head 9 (.one 13 (.fin))))))))) (.one 11 (.alt (.one 8 (.alt (.one 9 (.one 10 (.one 12 (.one 13 (.finS 2))))) (.one 10 (.alt (.one 9 (.one 12 (.one 13 (.finS 2)))) (.one 12 (.head 9 (.one 13 (.finS 2)))))))) (.one 10 (.alt (.one 8 (.alt (.one 9 (.one 12 (.one 13 (.finS 2)))) (.one 12 (.head 9 (.one 13 (.finS 2)))))) (.one 12 (.head 8 (.head 9 (.one 13 (.finS 2)))))))))))) (.alt (.one 10 (.alt (.one 6 (.alt (.one 8 (.alt (.one 9 (.one 11 (.one 12 (.one 13 (.fin))))) (.one 11 (.alt (.one 9 (.one 12 (.one 13 (.fin)))) (.one 12 (.head 9 (.one 13 (.fin)))))))) (.one 11 (.alt (.one 8 (.alt (.one 9 (.one 12 (.one 13 (.fin)))) (.one 12 (.head 9 (.one 13 (.fin)))))) (.one 12 (.head 8 (.head 9 (.one 13 (.fin))))))))) (.one 11 (.alt (.one 6 (.alt (.one 8 (.alt (.one 9 (.one 12 (.one 13 (.fin)))) (.one 12 (.head 9 (.one 13 (.fin)))))) (.one 12 (.head 8 (.head 9 (.one 13 (.fin))))))) (.one 12 (.head 6 (.head 8 (.head 9 (.one 13 (.fin)))))))))) (.one 11 (.alt (.one 6 (.alt (.one 8 (.alt (.one 9 (.one 10 (.one 12 (.one 13 (.finS 2))))) (.one 10 (.alt (.one 9 (.one 12 (.one 13 (.finS 2)))) (.one 12 (.head 9 (.one 13 (.finS 2)))))))) (.one 10 (.alt (.one 8 (.alt (.one 9 (.one 12 (.one 13 (.finS 2)))) (.one 12 (.head 9 (.one 13 (.finS 2)))))) (.one 12 (.head 8 (.head 9 (.one 13 (.finS 2))))))))) (.one 10 (.alt (.one 6 (.alt (.one 8 (.alt (.one 9 (.one 12 (.one 13 (.finS 2)))) (.one 12 (.head 9 (.one 13 (.finS 2)))))) (.one 12 (.head 8 (.head 9 (.one 13 (.finS 2))))))) (.one 12 (.head 6 (.head 8 (.head 9 (.one 13 (.finS 2))))))))))))) (.alt (.one 10 (.alt (.one 6 (.alt (.one 7 (.alt (.one 8 (.alt (.one 9 (.one 11 (.one 12 (.one 13 (.fin))))) (.one 11 (.alt (.one 9 (.one 12 (.one 13 (.fin)))) (.one 12 (.head 9 (.one 13 (.fin)))))))) (.one 11 (.alt (.one 8 (.alt (.one 9 (.one 12 (.one 13 (.fin)))) (.one 12 (.head 9 (.one 13 (.fin)))))) (.one 12 (.head 8 (.head 9 (.one 13 (.fin))))))))) (.one 11 (.alt (.one 7 (.alt (.one 8 (.alt (.one 9 (.one 12 (.one 13 (.fin)))) (.one 12 (.head 9 (.one 13 (.fin)))))) (.one 12 (.head 8 (.head 9 (.one 13 (.fin))))))) (.one 12 (.head 7 (.head 8 (.head 9 (.one 13 (.fin)))))))))) (.alt (.one 7 (.alt (.one 6 (.alt (.one 8 (.alt (.one 9 (.one 11 (.one 12 (.one 13 (.fin))))) (.one 11 (.alt (.one 9 (.one 12 (.one 13 (.fin)))) (.one 12 (.head 9 (.one 13 (.fin)))))))) (.one 11 (.alt (.one 8 (.alt (.one 9 (.one 12 (.one 13 (.fin)))) (.one 12 (.head 9 (.one 13 (.fin)))))) (.one 12 (.head 8 (.head 9 (.one 13 (.fin))))))))) (.one 11 (.alt (.one 6 (.alt (.one 8 (.alt (.one 9 (.one 12 (.one 13 (.fin)))) (.one 12 (.head 9 (.one 13 (.fin)))))) (.one 12 (.head 8 (.head 9 (.one 13 (.fin))))))) (.one 12 (.head 6 (.head 8 (.head 9 (.one 13 (.fin)))))))))) (.one 11 (.alt (.one 6 (.alt (.one 7 (.alt (.one 8 (.alt (.one 9 (.one 12 (.one 13 (.fin)))) (.one 12 (.head 9 (.one 13 (.fin)))))) (.one 12 (.head 8 (.head 9 (.one 13 (.fin))))))) (.one 12 (.head 7 (.head 8 (.head 9 (.one 13 (.fin)))))))) (.alt (.one 7 (.alt (.one 6 (.alt (.one 8 (.alt (.one 9 (.one 12 (.one 13 (.fin)))) (.one 12 (.head 9 (.one 13 (.fin)))))) (.one 12 (.head 8 (.head 9 (.one 13 (.fin))))))) (.one 12 (.head 6 (.head 8 (.head 9 (.one 13 (.fin)))))))) (.one 12 (.head 6 (.head 7 (.head 8 (.head 9 (.one 13 (.fin))))))))))))) (.one 11 (.alt (.one 6 (.alt (.one 7 (.alt (.one 8 (.alt (.one 9 (.one 10 (.one 12 (.one 13 (.finS 2))))) (.one 10 (.alt (.one 9 (.one 12 (.one 13 (.finS 2)))) (.one 12 (.head 9 (.one 13 (.finS 2)))))))) (.one 10 (.alt (.one 8 (.alt (.one 9 (.one 12 (.one 13 (.finS 2)))) (.one 12 (.head 9 (.one 13 (.finS 2)))))) (.one 12 (.head 8 (.head 9 (.one 13 (.finS 2))))))))) (.one 10 (.alt (.one 7 (.alt (.one 8 (.alt (.one 9 (.one 12 (.one 13 (.finS 2)))) (.one 12 (.head 9 (.one 13 (.finS 2)))))) (.one 12 (.head 8 (.head 9 (.one 13 (.finS 2))))))) (.one 12 (.head 7 (.head 8 (.head 9 (.one 13 (.finS 2)))))))))) (.alt (.one 7 (.alt (.one 6 (.alt (.one 8 (.alt (.one 9 (.one 10 (.one 12 (.one 13 (.finS 2))))) (.one 10 (.alt (.one 9 (.one 12 (.one 13 (.finS 2)))) (.one 12 (.head 9 (.one 13 (.finS 2)))))))) (.one 10 (.alt (.one 8 (.alt (.one 9 (.one 12 (.one 13 (.finS 2)))) (.one 12 (.head 9 (.one 13 (.finS 2)))))) (.one 12 (.head 8 (.head 9 (.one 13 (.finS 2))))))))) (.one 10 (.alt (.one 6 (.alt (.one 8 (.alt (.one 9 (.one 12 (.one 13 (.finS 2)))) (.one 12 (.head 9 (.one 13 (.finS 2)))))) (.one 12 (.head 8 (.head 9 (.one 13 (.finS 2))))))) (.one 12 (.head 6 (.head 8 (.head 9 (.one 13 (.finS 2)))))))))) (.one 10 (.alt (.one 6 (.alt (.one 7 (.alt (.one 8 (.alt (.one 9 (.one 12 (.one 13 (.finS 2)))) (.one 12 (.head 9 (.one 13 (.finS 2)))))) (.one 12 (.head 8 (.head 9 (.one 13 (.finS 2))))))) (.one 12 (.head 7 (.head 8 (.head 9 (.one 13 (.finS 2)))))))) (.alt (.one 7 (.alt (.one 6 (.alt (.one 8 (.alt (.one 9 (.one 12 (.one 13 (.finS 2)))) (.one 12 (.head 9 (.one 13 (.finS 2)))))) (.one 12 (.head 8 (.head 9 (.one 13 (.finS 2))))))) (.one 12 (.head 6 (.head 8 (.head 9 (.one 13 (.finS 2)))))))) (.one 12 (.head 6 (.head 7 (.head 8 (.head 9 (.one 13 (.finS 2))))))))))))))))) (.alt (.one 7 (.alt (.one 5 (.alt (.one 6 (.alt (.one 8 (.alt (.one 9 (.alt (.one 10 (.one 11 (.one 12 (.one 13 (.fin))))) (.one 11 (.one 10 (.one 12 (.one 13 (.finS 2))))))) (.alt (.one 10 (.alt (.one 9 (.one 11 (.one 12 (.one 13 (.fin))))) (.one 11 (.alt (.one 9 (.one 12 (.one 13 (.fin)))) (.one 12 (.head 9 (.one 13 (.fin)))))))) (.one 11 (.alt (.one 9 (.one 10 (.one 12 (.one 13 (.finS 2))))) (.one 10 (.alt (.one 9 (.one 12 (.one 13 (.finS 2)))) (.one 12 (.head 9 (.one 13 (.finS 2))))))))))) (.alt (.one 10 (.alt (.one 8 (.alt (.one 9 (.one 11 (.one 12 (.one 13 (.fin))))) (.one 11 (.alt (.one 9 (.one 12 (.one 13 (.fin)))) (.one 12 (.head 9 (.one 13 (.fin)))))))) (.one 11 (.alt (.one 8 (.alt (.one 9 (.one 12 (.one 13 (.fin)))) (.one 12 (.head 9 (.one 13 (.fin)))))) (.one 12 (.head 8 (.head 9 (.one 13 (.fin))))))))) (.one 11 (.alt (.one 8 (.alt (.one 9 (.one 10 (.one 12 (.one 13 (.finS 2))))) (.one 10 (.alt (.one 9 (.one 12 (.one 13 (.finS 2)))) (.one 12 (.head 9 (.one 13 (.finS 2)))))))) (.one 10 (.alt (.one 8 (.alt (.one 9 (.one 12 (.one 13 (.finS 2)))) (.one 12 (.head 9 (.one 13 (.finS 2)))))) (.one 12 (.head 8 (.head 9 (.one 13 (.finS 2)))))))))))) (.alt (.one 10 (.alt (.one 6 (.alt (.one 8 (.alt (.one 9 (.one 11 (.one 12 (.one 13 (.fin))))) (.one 11 (.alt (.one 9 (.one 12 (.one 13 (.fin)))) (.one 12 (.head 9 (.one 13 (.fin)))))))) (.one 11 (.alt (.one 8 (.alt (.one 9 (.one 12 (.one 13 (.fin)))) (.one 12 (.head 9 (.one 13 (.fin)))))) (.one 12 (.head 8 (.head 9 (.one 13 (.fin))))))))) (.one 11 (.alt (.one 6 (.alt (.one 8 (.alt (.one 9 (.one 12 (.one 13 (.fin)))) (.one 12 (.head 9 (.one 13 (.fin)))))) (.one 12 (.head 8 (.head 9 (.one 13 (.fin))))))) (.one 12 (.head 6 (.head 8 (.head 9 (.one 13 (.fin)))))))))) (.one 11 (.alt (.one 6 (.alt (.one 8 (.alt (.one 9 (.one 10 (.one 12 (.one 13 (.finS 2))))) (.one 10 (.alt (.one 9 (.one 12 (.one 13 (.finS 2)))) (.one 12 (.head 9 (.one 13 (.finS 2)))))))) (.one 10 (.alt (.one 8 (.alt (.one 9 (.one 12 (.one 13 (.finS 2)))) (.one 12 (.head 9 (.one 13 (.finS 2)))))) (.one 12 (.head 8 (.head 9 (.one 13 (.finS 2))))))))) (.one 10 (.alt (.one 6 (.alt (.one 8 (.alt (.one 9 (.one 12 (.one 13 (.finS 2)))) (.one 12 (.head 9 (.one 13 (.finS 2)))))) (.one 12 (.head 8 (.head 9 (.one 13 (.finS 2))))))) (.one 12 (.head 6 (.head 8 (.head 9 (.one 13 (.finS 2))))))))))))) (.alt (.one 10 (.alt (.one 5 (.alt (.one 6 (.alt (.one 8 (.alt (.one 9 (.one 11 (.one 12 (.one 13 (.fin))))) (.one 11 (.alt (.one 9 (.one 12 (.one 13 (.fin)))) (.one 12 (.head 9 (.one 13 (.fin)))))))) (.one 11 (.alt (.one 8 (.alt (.one 9 (.one 12 (.one 13 (.fin)))) (.one 12 (.head 9 (.one 13 (.fin)))))) (.one 12 (.head 8 (.head 9 (.one 13 (.fin))))))))) (.one 11 (.alt (.one 6 (.alt (.one 8 (.alt (.one 9 (.one 12 (.one 13 (.fin)))) (.one 12 (.head 9 (.one 13 (.fin)))))) (.one 12 (.head 8 (.head 9 (.one 13 (.fin))))))) (.one 12 (.head 6 (.head 8 (.head 9 (.one 13 (.fin)))))))))) (.one 11 (.alt (.one 5 (.alt (.one 6 (.alt (.one 8 (.alt (.one 9 (.one 12 (.one 13 (.fin)))) (.one 12 (.head 9 (.one 13 (.fin)))))) (.one 12 (.head 8 (.head 9 (.one 13 (.fin))))))) (.one 12 (.head 6 (.head 8 (.head 9 (.one 13 (.fin)))))))) (.one 12 (.head 5 (.head 6 (.head 8 (.head 9 (.one 13 (.fin))))))))))) (.one 11 (.alt (.one 5 (.alt (.one 6 (.alt (.one 8 (.alt (.one 9 (.one 10 (.one 12 (.one 13 (.finS 2))))) (.one 10 (.alt (.one 9 (.one 12 (.one 13 (.finS 2)))) (.one 12 (.head 9 (.one 13 (.finS 2)))))))) (.one 10 (.alt (.one 8 (.alt (.one 9 (.one 12 (.one 13 (.finS 2)))) (.one 12 (.head 9 (.one 13 (.finS 2)))))) (.one 12 (.head 8 (.head 9 (.one 13 (.finS 2))))))))) (.one 10 (.alt (.one 6 (.alt (.one 8 (.alt (.one 9 (.one 12 (.one 13 (.finS 2)))) (.one 12 (.head 9 (.one 13 (.finS 2)))))) (.one 12 (.head 8 (.head 9 (.one 13 (.finS 2))))))) (.one 12 (.head 6 (.head 8 (.head 9 (.one 13 (.finS 2)))))))))) (.one 10 (.alt (.one 5 (.alt (.one 6 (.alt (.one 8 (.alt (.one 9 (.one 12 (.one 13 (.finS 2)))) (.one 12 (.head 9 (.one 13 (.finS 2)))))) (.one 12 (.head 8 (.head 9 (.one 13 (.finS 2))))))) (.one 12 (.head 6 (.head 8 (.head 9 (.one 13 (.finS 2)))))))) (.one 12 (.head 5 (.head 6 (.head 8 (.head 9 (.one 13 (.finS 2)))))))))))))) (.alt (.one 10 (.alt (.one 5 (.alt (.one 6 (.alt (.one 7 (.alt (.one 8 (.alt (.one 9 (.one 11 (.one 12 (.one 13 (.fin))))) (.one 11 (.alt (.one 9 (.one 12 (.one 13 (.fin)))) (.one 12 (.head 9 (.one 13 (.fin)))))))) (.one 11 (.alt (.one 8 (.alt (.one 9 (.one 12 (.one 13 (.fin)))) (.one 12 (.head 9 (.one 13 (.fin)))))) (.one 12 (.head 8 (.head 9 (.one 13 (.fin))))))))) (.one 11 (.alt (.one 7 (.alt (.one 8 (.alt (.one 9 (.one 12 (.one 13 (.fin)))) (.one 12 (.head 9 (.one 13 (.fin)))))) (.one 12 (.head 8 (.head 9 (.one 13 (.fin))))))) (.one 12 (.head 7 (.head 8 (.head 9 (.one 13 (.fin)))))))))) (.alt (.one 7 (.alt (.one 6 (.alt (.one 8 (.alt (.one 9 (.one 11 (.one 12 (.one 13 (.fin))))) (.one 11 (.alt (.one 9 (.one 12 (.one 13 (.fin)))) (.one 12 (.head 9 (.one 13 (.fin)))))))) (.one 11 (.alt (.one 8 (.alt (.one 9 (.one 12 (.one 13 (.fin)))) (.one 12 (.head 9 (.one 13 (.fin)))))) (.one 12 (.head 8 (.head 9 (.one 13 (.fin))))))))) (.one 11 (.alt (.one 6 (.alt (.one 8 (.alt (.one 9 (.one 12 (.one 13 (.fin)))) (.one 12 (.head 9 (.one 13 (.fin)))))) (.one 12 (.head 8 (.head 9 (.one 13 (.fin))))))) (.one 12 (.head 6 (.head 8 (.head 9 (.one 13 (.fin)))))))))) (.one 11 (.alt (.one 6 (.alt (.one 7 (.alt (.one 8 (.alt (.one 9 (.one 12 (.one 13 (.fin)))) (.one 12 (.head 9 (.one 13 (.fin)))))) (.one 12 (.head 8 (.head 9 (.one 13 (.fin))))))) (.one 12 (.head 7 (.head 8 (.head 9 (.one 13 (.fin)))))))) (.alt (.one 7 (.alt (.one 6 (.alt (.one 8 (.alt (.one 9 (.one 12 (.one 13 (.fin)))) (.one 12 (.head 9 (.one 13 (.fin)))))) (.one 12 (.head 8 (.head 9 (.one 13 (.fin))))))) (.one 12 (.head 6 (.head 8 (.head 9 (.one 13 (.fin)))))))) (.one 12 (.head 6 (.head 7 (.head 8 (.head 9 (.one 13 (.fin))))))))))))) (.alt (.one 7 (.alt (.one 5 (.alt (.one 6 (.alt (.one 8 (.alt (.one 9 (.one 11 (.one 12 (.one 13 (.fin))))) (.one 11 (.alt (.one 9 (.one 12 (.one 13 (.fin)))) (.one 12 (.head 9 (.one 13 (.fin)))))))) (.one 11 (.alt (.one 8 (.alt (.one 9 (.one 12 (.one 13 (.fin)))) (.one 12 (.head 9 (.one 13 (.fin)))))) (.one 12 (.head 8 (.head 9 (.one 13 (.fin))))))))) (.one 11 (.alt (.one 6 (.alt (.one 8 (.alt (.one 9 (.one 12 (.one 13 (.fin)))) (.one 12 (.head 9 (.one 13 (.fin)))))) (.one 12 (.head 8 (.head 9 (.one 13 (.fin))))))) (.one 12 (.head 6 (.head 8 (.head 9 (.one 13 (.fin)))))))))) (.one 11 (.alt (.one 5 (.alt (.one 6 (.alt (.one 8 (.alt (.one 9 (.one 12 (.one 13 (.fin)))) (.one 12 (.head 9 (.one 13 (.fin)))))) (.one 12 (.head 8 (.head 9 (.one 13 (.fin))))))) (.one 12 (.head 6 (.head 8 (.head 9 (.one 13 (.fin)))))))) (.one 12 (.head 5 (.head 6 (.head 8 (.head 9 (.one 13 (.fin))))))))))) (.one 11 (.alt (.one 5 (.alt (.one 6 (.alt (.one 7 (.alt (.one 8 (.alt (.one 9 (.one 12 (.one 13 (.fin)))) (.one 12 (.head 9 (.one 13 (.fin)))))) (.one 12 (.head 8 (.head 9 (.one 13 (.fin))))))) (.one 12 (.head 7 (.head 8 (.head 9 (.one 13 (.fin)))))))) (.alt (.one 7 (.alt (.one 6 (.alt (.one 8 (.alt (.one 9 (.one 12 (.one 13 (.fin)))) (.one 12 (.head 9 (.one 13 (.fin)))))) (.one 12 (.head 8 (.head 9 (.one 13 (.fin))))))) (.one 12 (.head 6 (.head 8 (.head 9 (.one 13 (.fin)))))))) (.one 12 (.head 6 (.head 7 (.head 8 (.head 9 (.one 13 (.fin)))))))))) (.alt (.one 7 (.alt (.one 5 (.alt (.one 6 (.alt (.one 8 (.alt (.one 9 (.one 12 (.one 13 (.fin)))) (.one 12 (.head 9 (.one 13 (.fin)))))) (.one 12 (.head 8 (.head 9 (.one 13 (.fin))))))) (.one 12 (.head 6 (.head 8 (.head 9 (.one 13 (.fin)))))))) (.one 12 (.head 5 (.head 6 (.head 8 (.head 9 (.one 13 (.fin))))))))) (.one 12 (.head 5 (.head 6 (.head 7 (.head 8 (.head 9 (.one 13 (.fin)))))))))))))) (.one 11 (.alt (.one 5 (.alt (.one 6 (.alt (.one 7 (.alt (.one 8 (.alt (.one 9 (.one 10 (.one 12 (.one 13 (.finS 2))))) (.one 10 (.alt (.one 9 (.one 12 (.one 13 (.finS 2)))) (.one 12 (.head 9 (.one 13 (.finS 2)))))))) (.one 10 (.alt (.one 8 (.alt (.one 9 (.one 12 (.one 13 (.finS 2)))) (.one 12 (.head 9 (.one 13 (.finS 2)))))) (.one 12 (.head 8 (.head 9 (.one 13 (.finS 2))))))))) (.one 10 (.alt (.one 7 (.alt (.one 8 (.alt (.one 9 (.one 12 (.one 13 (.finS 2)))) (.one 12 (.head 9 (.one 13 (.finS 2)))))) (.one 12 (.head 8 (.head 9 (.one 13 (.finS 2))))))) (.one 12 (.head 7 (.head 8 (.head 9 (.one 13 (.finS 2)))))))))) (.alt (.one 7 (.alt (.one 6 (.alt (.one 8 (.alt (.one 9 (.one 10 (.one 12 (.one 13 (.finS 2))))) (.one 10 (.alt (.one 9 (.one 12 (.one 13 (.finS 2)))) (.one 12 (.head 9 (.one 13 (.finS 2)))))))) (.one 10 (.alt (.one 8 (.alt (.one 9 (.one 12 (.one 13 (.finS 2)))) (.one 12 (.head 9 (.one 13 (.finS 2)))))) (.one 12 (.head 8 (.head 9 (.one 13 (.finS 2))))))))) (.one 10 (.alt (.one 6 (.alt (.one 8 (.alt (.one 9 (.one 12 (.one 13 (.finS 2)))) (.one 12 (.head 9 (.one 13 (.finS 2)))))) (.one 12 (.head 8 (.head 9 (.one 13 (.finS 2))))))) (.one 12 (.head 6 (.head 8 (.head 9 (.one 13 (.finS 2)))))))))) (.one 10 (.alt (.one 6 (.alt (.one 7 (.alt (.one 8 (.alt (.one 9 (.one 12 (.one 13 (.finS 2)))) (.one 12 (.head 9 (.one 13 (.finS 2)))))) (.one 12 (.head 8 (.head 9 (.one 13 (.finS 2))))))) (.one 12 (.head 7 (.head 8 (.head 9 (.one 13 (.finS 2)))))))) (.alt (.one 7 (.alt (.one 6 (.alt (.one 8 (.alt (.one 9 (.one 12 (.one 13 (.finS 2)))) (.one 12 (.head 9 (.one 13 (.finS 2)))))) (.one 12 (.head 8 (.head 9 (.one 13 (.finS 2))))))) (.one 12 (.head 6 (.head 8 (.head 9 (.one 13 (.finS 2)))))))) (.one 12 (.head 6 (.head 7 (.head 8 (.head 9 (.one 13 (.finS 2))))))))))))) (.alt (.one 7 (.alt (.one 5 (.alt (.one 6 (.alt (.one 8 (.alt (.one 9 (.one 10 (.one 12 (.one 13 (.finS 2))))) (.one 10 (.alt (.one 9 (.one 12 (.one 13 (.finS 2)))) (.one 12 (.head 9 (.one 13 (.finS 2)))))))) (.one 10 (.alt (.one 8 (.alt (.one 9 (.one 12 (.one 13 (.finS 2)))) (.one 12 (.head 9 (.one 13 (.finS 2)))))) (.one 12 (.head 8 (.head 9 (.one 13 (.finS 2))))))))) (.one 10 (.alt (.one 6 (.alt (.one 8 (.alt (.one 9 (.one 12 (.one 13 (.finS 2)))) (.one 12 (.head 9 (.one 13 (.finS 2)))))) (.one 12 (.head 8 (.head 9 (.one 13 (.finS 2))))))) (.one 12 (.head 6 (.head 8 (.head 9 (.one 13 (.finS 2)))))))))) (.one 10 (.alt (.one 5 (.alt (.one 6 (.alt (.one 8 (.alt (.one 9 (.one 12 (.one 13 (.finS 2)))) (.one 12 (.head 9 (.one 13 (.finS 2)))))) (.one 12 (.head 8 (.head 9 (.one 13 (.finS 2))))))) (.one 12 (.head 6 (.head 8 (.head 9 (.one 13 (.finS 2)))))))) (.one 12 (.head 5 (.head 6 (.head 8 (.head 9 (.one 13 (.finS 2))))))))))) (.one 10 (.alt (.one 5 (.alt (.one 6 (.alt (.one 7 (.alt (.one 8 (.alt (.one 9 (.one 12 (.one 13 (.finS 2)))) (.one 12 (.head 9 (.one 13 (.finS 2)))))) (.one 12 (.head 8 (.head 9 (.one 13 (.finS 2))))))) (.one 12 (.head 7 (.head 8 (.head 9 (.one 13 (.finS 2)))))))) (.alt (.one 7 (.alt (.one 6 (.alt (.one 8 (.alt (.one 9 (.one 12 (.one 13 (.finS 2)))) (.one 12 (.head 9 (.one 13 (.finS 2)))))) (.one 12 (.head 8 (.head 9 (.one 13 (.finS 2))))))) (.one 12 (.head 6 (.head 8 (.head 9 (.one 13 (.finS 2)))))))) (.one 12 (.head 6 (.head 7 (.head 8 (.head 9 (.one 13 (.finS 2)))))))))) (.alt (.one 7 (.alt (.one 5 (.alt (.one 6 (.alt (.one 8 (.alt (.one 9 (.one 12 (.one 13 (.finS 2)))) (.one 12 (.head 9 (.one 13 (.finS 2)))))) (.one 12 (.head 8 (.head 9 (.one 13 (.finS 2))))))) (.one 12 (.head 6 (.head 8 (.head 9 (.one 13 (.finS 2)))))))) (.one 12 (.head 5 (.head 6 (.head 8 (.head 9 (.one 13 (.finS 2))))))))) (.one 12 (.head 5 (.head 6 (.head 7 (.head 8 (.head 9 (.one 13 (.finS 2)))))))))))))))))))))⟩ | _ => none), fun _ => 0, 0, false⟩
@[go_sem] theorem h5x : h5.mix = (fun id => match id with | 6 => some ⟨[0, 1, 2, 3, 4, 5, 6, 7], [], .head 0 (.head 1 (.head 2 (.head 3 (.alt (.one 4 (.alt (.one 5 (.alt (.one 6 (.alt (.one 7 (.alt (.one 8 (.one 9 (.one 10 (.one 11 (.fin))))) (.one 9 (.one 8 (.one 10 (.one 11 (.finS 0))))))) (.alt (.one 8 (.alt (.one 7 (.one 9 (.one 10 (.one 11 (.fin))))) (.one 9 (.alt (.one 7 (.one 10 (.one 11 (.fin)))) (.one 10 (.head 7 (.one 11 (.fin)))))))) (.one 9 (.alt (.one 7 (.one 8 (.one 10 (.one 11 (.finS 0))))) (.one 8 (.alt (.one 7 (.one 10 (.one 11 (.finS 0)))) (.one 10 (.head 7 (.one 11 (.finS 0))))))))))) (.alt (.one 8 (.alt (.one 6 (.alt (.one 7 (.one 9 (.one 10 (.one 11 (.fin))))) (.one 9 (.alt (.one 7 (.one 10 (.one 11 (.fin)))) (.one 10 (.head 7 (.one 11 (.fin)))))))) (.one 9 (.alt (.one 6 (.alt (.one 7 (.one 10 (.one 11 (.fin)))) (.one 10 (.head 7 (.one 11 (.fin)))))) (.one 10 (.head 6 (.head 7 (.one 11 (.fin))))))))) (.one 9 (.alt (.one 6 (.alt (.one 7 (.one 8 (.one 10 (.one 11 (.finS 0))))) (.one 8 (.alt (.one 7 (.one 10 (.one 11 (.finS 0)))) (.one 10 (.head 7 (.one 11 (.finS 0)))))))) (.one 8 (.alt (.one 6 (.alt (.one 7 (.one 10 (.one 11 (.finS 0)))) (.one 10 (.head 7 (.one 11 (.finS 0)))))) (.one 10 (.head 6 (.head 7 (.one 11 (.finS 0)))))))))))) (.alt (.one 8 (.alt (.one 5 (.alt (.one 6 (.alt (.one 7 (.one 9 (.one 10 (.one 11 (.fin))))) (.one 9 (.alt (.one 7 (.one 10 (.one 11 (.fin)))) (.one 10 (.head 7 (.one 11 (.fin)))))))) (.one 9 (.alt (.one 6 (.alt (.one 7 (.one 10 (.one 11 (.fin)))) (.one 10 (.head 7 (.one 11 (.fin)))))) (.one 10 (.head 6 (.head 7 (.one 11 (.fin))))))))) (.one 9 (.alt (.one 5 (.alt (.one 6 (.alt (.one 7 (.one 10 (.one 11 (.fin)))) (.one 10 (.head 7 (.one 11 (.fin)))))) (.one 10 (.head 6 (.head 7 (.one 11 (.fin))))))) (.one 10 (.head 5 (.head 6 (.head 7 (.one 11 (.fin)))))))))) (.one 9 (.alt (.one 5 (.alt (.one 6 (.alt (.one 7 (.one 8 (.one 10 (.one 11 (.finS 0))))) (.one 8 (.alt (.one 7 (.one 10 (.one 11 (.finS 0)))) (.one 10 (.head 7 (.one 11 (.finS 0)))))))) (.one 8 (.alt (.one 6 (.alt (.one 7 (.one 10 (.one 11 (.finS 0)))) (.one 10 (.head 7 (.one 11 (.finS 0)))))) (.one 10 (.head 6 (.head 7 (.one 11 (.finS 0))))))))) (.one 8 (.alt (.one 5 (.alt (.one 6 (.alt (.one 7 (.one 10 (.one 11 (.finS 0)))) (.one 10 (.head 7 (.one 11 (.finS 0)))))) (.one 10 (.head 6 (.head 7 (.one 11 (.finS 0))))))) (.one 10 (.head 5 (.head 6 (.head 7 (.one 11 (.finS 0))))))))))))) (.alt (.one 5 (.alt (.one 4 (.alt (.one 6 (.alt (.one 7 (.alt (.one 8 (.one 9 (.one 10 (.one 11 (.fin))))) (.one 9 (.one 8 (.one 10 (.one 11 (.finS 0))))))) (.alt (.one 8 (.alt (.one 7 (.one 9 (.one 10 (.one 11 (.fin))))) (.one 9 (.alt (.one 7 (.one 10 (.one 11 (.fin)))) (.one 10 (.head 7 (.one 11 (.fin)))))))) (.one 9 (.alt (.one 7 (.one 8 (.one 10 (.one 11 (.finS 0))))) (.one 8 (.alt (.one 7 (.one 10 (.one 11 (.finS 0)))) (.one 10 (.head 7 (.one 11 (.finS 0))))))))))) (.alt (.one 8 (.alt (.one 6 (.alt (.one 7 (.one 9 (.one 10 (.one 11 (.fin))))) (.one 9 (.alt (.one 7 (.one 10 (.one 11 (.fin)))) (.one 10 (.head 7 (.one 11 (.fin)))))))) (.one 9 (.alt (.one 6 (.alt (.one 7 (.one 10 (.one 11 (.fin)))) (.one 10 (.head 7 (.one 11 (.fin)))))) (.one 10 (.head 6 (.head 7 (.one 11 (.fin))))))))) (.one 9 (.alt (.one 6 (.alt (.one 7 (.one 8 (.one 10 (.one 11 (.finS 0))))) (.one 8 (.alt (.one 7 (.one 10 (.one 11 (.finS 0)))) (.one 10 (.head 7 (.one 11 (.finS 0)))))))) (.one 8 (.alt (.one 6 (.alt (.one 7 (.one 10 (.one 11 (.finS 0)))) (.one 10 (.head 7 (.one 11 (.finS 0)))))) (.one 10 (.head 6 (.head 7 (.one 11 (.finS 0)))))))))))) (.alt (.one 8 (.alt (.one 4 (.alt (.one 6 (.alt (.one 7 (.one 9 (.one 10 (.one 11 (.fin))))) (.one 9 (.alt (.one 7 (.one 10 (.one 11 (.fin)))) (.one 10 (.head 7 (.one 11 (.fin)))))))) (.one 9 (.alt (.one 6 (.alt (.one 7 (.one 10 (.one 11 (.fin)))) (.one 10 (.head 7 (.one 11 (.fin)))))) (.one 10 (.head 6 (.head 7 (.one 11 (.fin))))))))) (.one 9 (.alt (.one 4 (.alt (.one 6 (.alt (.one 7 (.one 10 (.one 11 (.fin)))) (.one 10 (.head 7 (.one 11 (.fin)))))) (.one 10 (.head 6 (.head 7 (.one 11 (.fin))))))) (.one 10 (.head 4 (.head 6 (.head 7 (.one 11 (.fin)))))))))) (.one 9 (.alt (.one 4 (.alt (.one 6 (.alt (.one 7 (.one 8 (.one 10 (.one 11 (.finS 0))))) (.one 8 (.alt (.one 7 (.one 10 (.one 11 (.finS 0)))) (.one 10 (.head 7 (.one 11 (.finS 0)))))))) (.one 8 (.alt (.one 6 (.alt (.one 7 (.one 10 (.one 11 (.finS 0)))) (.one 10 (.head 7 (.one 11 (.finS 0)))))) (.one 10 (.head 6 (.head 7 (.one 11 (.finS 0))))))))) (.one 8 (.alt (.one 4 (.alt (.one 6 (.alt (.one 7 (.one 10 (.one 11 (.finS 0)))) (.one 10 (.head 7 (.one 11 (.finS 0)))))) (.one 10 (.head 6 (.head 7 (.one 11 (.finS 0))))))) (.one 10 (.head 4 (.head 6 (.head 7 (.one 11 (.finS 0))))))))))))) (.alt (.one 8 (.alt (.one 4 (.alt (.one 5 (.alt (.one 6 (.alt (.one 7 (.one 9 (.one 10 (.one 11 (.fin))))) (.one 9 (.alt (.one 7 (.one 10 (.one 11 (.fin)))) (.one 10 (.head 7 (.one 11 (.fin)))))))) (.one 9 (.alt (.one 6 (.alt (.one 7 (.one 10 (.one 11 (.fin)))) (.one 10 (.head 7 (.one 11 (.fin)))))) (.one 10 (.head 6 (.head 7 (.one 11 (.fin))))))))) (.one 9 (.alt (.one 5 (.alt (.one 6 (.alt (.one 7 (.one 10 (.one 11 (.fin)))) (.one 10 (.head 7 (.one 11 (.fin)))))) (.one 10 (.head 6 (.head 7 (.one 11 (.fin))))))) (.one 10 (.head 5 (.head 6 (.head 7 (.one 11 (.fin)))))))))) (.alt (.one 5 (.alt (.one 4 (.alt (.one 6 (.alt (.one 7 (.one 9 (.one 10 (.one 11 (.fin))))) (.one 9 (.alt (.one 7 (.one 10 (.one 11 (.fin)))) (.one 10 (.head 7 (.one 11 (.fin)))))))) (.one 9 (.alt (.one 6 (.alt (.one 7 (.one 10 (.one 11 (.fin)))) (.one 10 (.head 7 (.one 11 (.fin)))))) (.one 10 (.head 6 (.head 7 (.one 11 (.fin))))))))) (.one 9 (.alt (.one 4 (.alt (.one 6 (.alt (.one 7 (.one 10 (.one 11 (.fin)))) (.one 10 (.head 7 (.one 11 (.fin)))))) (.one 10 (.head 6 (.head 7 (.one 11 (.fin))))))) (.one 10 (.head 4 (.head 6 (.head 7 (.one 11 (.fin)))))))))) (.one 9 (.alt (.one 4 (.alt (.one 5 (.alt (.one 6 (.alt (.one 7 (.one 10 (.one 11 (.fin)))) (.one 10 (.head 7 (.one 11 (.fin)))))) (.one 10 (.head 6 (.head 7 (.one 11 (.fin))))))) (.one 10 (.head 5 (.head 6 (.head 7 (.one 11 (.fin)))))))) (.alt (.one 5 (.alt (.one 4 (.alt (.one 6 (.alt (.one 7 (.one 10 (.one 11 (.fin)))) (.one 10 (.head 7 (.one 11 (.fin)))))) (.one 10 (.head 6 (.head 7 (.one 11 (.fin))))))) (.one 10 (.head 4 (.head 6 (.head 7 (.one 11 (.fin)))))))) (.one 10 (.head 4 (.head 5 (.head 6 (.head 7 (.one 11 (.fin))))))))))))) (.one 9 (.alt (.one 4 (.alt (.one 5 (.alt (.one 6 (.alt (.one 7 (.one 8 (.one 10 (.one 11 (.finS 0))))) (.one 8 (.alt (.one 7 (.one 10 (.one 11 (.finS 0)))) (.one 10 (.head 7 (.one 11 (.finS 0)))))))) (.one 8 (.alt (.one 6 (.alt (.one 7 (.one 10 (.one 11 (.finS 0)))) (.one 10 (.head 7 (.one 11 (.finS 0)))))) (.one 10 (.head 6 (.head 7 (.one 11 (.finS 0))))))))) (.one 8 (.alt (.one 5 (.alt (.one 6 (.alt (.one 7 (.one 10 (.one 11 (.finS 0)))) (.one 10 (.head 7 (.one 11 (.finS 0)))))) (.one 10 (.head 6 (.head 7 (.one 11 (.finS 0))))))) (.one 10 (.head 5 (.head 6 (.head 7 (.one 11 (.finS 0)))))))))) (.alt (.one 5 (.alt (.one 4 (.alt (.one 6 (.alt (.one 7 (.one 8 (.one 10 (.one 11 (.finS 0))))) (.one 8 (.alt (.one 7 (.one 10 (.one 11 (.finS 0)))) (.one 10 (.head 7 (.one 11 (.finS 0)))))))) (.one 8 (.alt (.one 6 (.alt (.one 7 (.one 10 (.one 11 (.finS 0)))) (.one 10 (.head 7 (.one 11 (.finS 0)))))) (.one 10 (.head 6 (.head 7 (.one 11 (.finS 0))))))))) (.one 8 (.alt (.one 4 (.alt (.one 6 (.alt (.one 7 (.one 10 (.one 11 (.finS 0)))) (.one 10 (.head 7 (.one 11 (.finS 0)))))) (.one 10 (.head 6 (.head 7 (.one 11 (.finS 0))))))) (.one 10 (.head 4 (.head 6 (.head 7 (.one 11 (.finS 0)))))))))) (.one 8 (.alt (.one 4 (.alt (.one 5 (.alt (.one 6 (.alt (.one 7 (.one 10 (.one 11 (.finS 0)))) (.one 10 (.head 7 (.one 11 (.finS 0)))))) (.one 10 (.head 6 (.head 7 (.one 11 (.finS 0))))))) (.one 10 (.head 5 (.head 6 (.head 7 (.one 11 (.finS 0)))))))) (.alt (.one 5 (.alt (.one 4 (.alt (.one 6 (.alt (.one 7 (.one 10 (.one 11 (.finS 0)))) (.one 10 (.head 7 (.one 11 (.finS 0)))))) (.one 10 (.head 6 (.head 7 (.one 11 (.finS 0))))))) (.one 10 (.head 4 (.head 6 (.head 7 (.one 11 (.finS 0)))))))) (.one 10 (.head 4 (.head 5 (.head 6 (.head 7 (.one 11 (.finS 0)))))))))))))))))))⟩ | 12 => some ⟨[0, 1, 2, 3, 4, 5, 6, 7, 8, 9], [], .head 0 (.head 1 (.head 2 (.head 3 (.head 4 (.alt (.one 5 (.alt (.one 6 (.alt (.one 7 (.alt (.one 8 (.alt (.one 9 (.alt (.one 10 (.one 11 (.one 12 (.one 13 (.fin))))) (.one 11 (.one 10 (.one 12 (.one 13 (.finS 2))))))) (.alt (.one 10 (.alt (.one 9 (.one 11 (.one 12 (.one 13 (.fin))))) (.one 11 (.alt (.one 9 (.one 12 (.one 13 (.fin)))) (.one 12 (.head 9 (.one 13 (.fin)))))))) (.one 11 (.alt (.one 9 (.one 10 (.one 12 (.one 13 (.finS 2))))) (.one 10 (.alt (.one 9 (.one 12 (.one 13 (.finS 2)))) (.one 12 (.head 9 (.one 13 (.finS 2))))))))))) (.alt (.one 10 (.alt (.one 8 (.alt (.one 9 (.one 11 (.one 12 (.one 13 (.fin))))) (.one 11 (.alt (.one 9 (.one 12 (.one 13 (.fin)))) (.one 12 (.head 9 (.one 13 (.fin)))))))) (.one 11 (.alt (.one 8 (.alt (.one 9 (.one 12 (.one 13 (.fin)))) (.one 12 (.head 9 (.one 13 (.fin)))))) (.one 12 (.head 8 (.head 9 (.one 13 (.fin))))))))) (.one 11 (.alt (.one 8 (.alt (.one 9 (.one 10 (.one 12 (.one 13 (.finS 2))))) (.one 10 (.alt (.one 9 (.one 12 (.one 13 (.finS 2)))) (.one 12 (.head 9 (.one 13 (.finS 2)))))))) (.one 10 (.alt (.one 8 (.alt (.one 9 (.one 12 (.one 13 (.finS 2)))) (.one 12 (.head 9 (.one 13 (.finS 2)))))) (.one 12 (.head 8 (.head 9 (.one 13 (.finS 2)))))))))))) (.alt (.one 10 (.alt (.one 7 (.alt (.one 8 (.alt (.one 9 (.one 11 (.one 12 (.one 13 (.fin))))) (.one 11 (.alt (.one 9 (.one 12 (.one 13 (.fin)))) (.one 12 (.head 9 (.one 13 (.fin)))))))) (.one 11 (.alt (.one 8 (.alt (.one 9 (.one 12 (.one 13 (.fin)))) (.one 12 (.head 9 (.one 13 (.fin)))))) (.one 12 (.head 8 (.head 9 (.one 13 (.fin))))))))) (.one 11 (.alt (.one 7 (.alt (.one 8 (.alt (.one 9 (.one 12 (.one 13 (.fin)))) (.one 12 (.head 9 (.one 13 (.fin)))))) (.one 12 (.head 8 (.head 9 (.one 13 (.fin))))))) (.one 12 (.head 7 (.head 8 (.head 9 (.one 13 (.fin)))))))))) (.one 11 (.alt (.one 7 (.alt (.one 8 (.alt (.one 9 (.one 10 (.one 12 (.one 13 (.finS 2))))) (.one 10 (.alt (.one 9 (.one 12 (.one 13 (.finS 2)))) (.one 12 (.head 9 (.one 13 (.finS 2)))))))) (.one 10 (.alt (.one 8 (.alt (.one 9 (.one 12 (.one 13 (.finS 2)))) (.one 12 (.head 9 (.one 13 (.finS 2)))))) (.one 12 (.head 8 (.head 9 (.one 13 (.finS 2))))))))) (.one 10 (.alt (.one 7 (.alt (.one 8 (.alt (.one 9 (.one 12 (.one 13 (.finS 2)))) (.one 12 (.head 9 (.one 13 (.finS 2)))))) (.one 12 (.head 8 (.head 9 (.one 13 (.finS 2))))))) (.one 12 (.head 7 (.head 8 (.head 9 (.one 13 (.finS 2))))))))))))) (.alt (.one 7 (.alt (.one 6 (.alt (.one 8 (.alt (.one 9 (.alt (.one 10 (.one 11 (.one 12 (.one 13 (.fin))))) (.one 11 (.one 10 (.one 12 (.one 13 (.finS 2))))))) (.alt (.one 10 (.alt (.one 9 (.one 11 (.one 12 (.one 13 (.fin))))) (.one 11 (.alt (.one 9 (.one 12 (.one 13 (.fin)))) (.one 12 (.head 9 (.one 13 (.fin)))))))) (.one 11 (.alt (.one 9 (.one 10 (.one 12 (.one 13 (.finS 2))))) (.one 10 (.alt (.one 9 (.one 12 (.one 13 (.finS 2)))) (.one 12 (.head 9 (.one 13 (.finS 2))))))))))) (.alt (.one 10 (.alt (.one 8 (.alt (.one 9 (.one 11 (.one 12 (.one 13 (.fin))))) (.one 11 (.alt (.one 9 (.one 12 (.one 13 (.fin)))) (.one 12 (.head 9 (.one 13 (.fin)))))))) (.one 11 (.alt (.one 8 (.alt (.one 9 (.one 12 (.one 13 (.fin)))) (.one 12 (.head 9 (.one 13 (.fin)))))) (.one 12 (.head 8 (.head 9 (.one 13 (.fin))))))))) (.one 11 (.alt (.one 8 (.alt (.one 9 (.one 10 (.one 12 (.one 13 (.finS 2))))) (.one 10 (.alt (.one 9 (.one 12 (.one 13 (.finS 2)))) (.one 12 (.head 9 (.one 13 (.finS 2)))))))) (.one 10 (.alt (.one 8 (.alt (.one 9 (.one 12 (.one 13 (.finS 2)))) (.one 12 (.head 9 (.one 13 (.finS 2)))))) (.one 12 (.head 8 (.head 9 (.one 13 (.finS 2)))))))))))) (.alt (.one 10 (.alt (.one 6 (.alt (.one 8 (.alt (.one 9 (.one 11 (.one 12 (.one 13 (.fin))))) (.one 11 (.alt (.one 9 (.one 12 (.one 13 (.fin)))) (.one 12 (.head 9 (.one 13 (.fin)))))))) (.one 11 (.alt (.one 8 (.alt (.one 9 (.one 12 (.one 13 (.fin)))) (.one 12 (.head 9 (.one 13 (.fin)))))) (.one 12 (.head 8 (.head 9 (.one 13 (.fin))))))))) (.one 11 (.alt (.one 6 (.alt (.one 8 (.alt (.one 9 (.one 12 (.one 13 (.fin)))) (.one 12 (.head 9 (.one 13 (.fin)))))) (.one 12 (.head 8 (.head 9 (.one 13 (.fin))))))) (.one 12 (.head 6 (.head 8 (.head 9 (.one 13 (.fin)))))))))) (.one 11 (.alt (.one 6 (.alt (.one 8 (.alt (.one 9 (.one 10 (.one 12 (.one 13 (.finS 2))))) (.one 10 (.alt (.one 9 (.one 12 (.one 13 (.finS 2)))) (.one 12 (.head 9 (.one 13 (.finS 2)))))))) (.one 10 (.alt (.one 8 (.alt (.one 9 (.one 12 (.one 13 (.finS 2)))) (.one 12 (.head 9 (.one 13 (.finS 2)))))) (.one 12 (.head 8 (.head 9 (.one 13 (.finS 2))))))))) (.one 10 (.alt (.one 6 (.alt (.one 8 (.alt (.one 9 (.one 12 (.one 13 (.finS 2)))) (.one 12 (.head 9 (.one 13 (.finS 2)))))) (.one 12 (.head 8 (.head 9 (.one 13 (.finS 2))))))) (.one 12 (.head 6 (.head 8 (.head 9 (.one 13 (.finS 2))))))))))))) (.alt (.one 10 (.alt (.one 6 (.alt (.one 7 (.alt (.one 8 (.alt (.one 9 (.one 11 (.one 12 (.one 13 (.fin))))) (.one 11 (.alt (.one 9 (.one 12 (.one 13 (.fin)))) (.one 12 (.head 9 (.one 13 (.fin)))))))) (.one 11 (.alt (.one 8 (.alt (.one 9 (.one 12 (.one 13 (.fin)))) (.one 12 (.head 9 (.one 13 (.fin)))))) (.one 12 (.head 8 (.head 9 (.one 13 (.fin))))))))) (.one 11 (.alt (.one 7 (.alt (.one 8 (.alt (.one 9 (.one 12 (.one 13 (.fin)))) (.one 12 (.head 9 (.one 13 (.fin)))))) (.one 12 (.head 8 (.head 9 (.one 13 (.fin))))))) (.one 12 (.head 7 (.head 8 (.head 9 (.one 13 (.fin)))))))))) (.alt (.one 7 (.alt (.one 6 (.alt (.one 8 (.alt (.one 9 (.one 11 (.one 12 (.one 13 (.fin))))) (.one 11 (.alt (.one 9 (.one 12 (.one 13 (.fin)))) (.one 12 (.head 9 (.one 13 (.fin)))))))) (.one 11 (.alt (.one 8 (.alt (.one 9 (.one 12 (.one 13 (.fin)))) (.one 12 (.head 9 (.one 13 (.fin)))))) (.one 12 (.head 8 (.head 9 (.one 13 (.fin))))))))) (.one 11 (.alt (.one 6 (.alt (.one 8 (.alt (.one 9 (.one 12 (.one 13 (.fin)))) (.one 12 (.head 9 (.one 13 (.fin)))))) (.one 12 (.head 8 (.head 9 (.one 13 (.fin))))))) (.one 12 (.head 6 (.head 8 (.head 9 (.one 13 (.fin)))))))))) (.one 11 (.alt (.one 6 (.alt (.one 7 (.alt (.one 8 (.alt (.one 9 (.one 12 (.one 13 (.fin)))) (.one 12 (.head 9 (.one 13 (.fin)))))) (.one 12 (.head 8 (.head 9 (.one 13 (.fin))))))) (.one 12 (.head 7 (.head 8 (.head 9 (.one 13 (.fin)))))))) (.alt (.one 7 (.alt (.one 6 (.alt (.one 8 (.alt (.one 9 (.one 12 (.one 13 (.fin)))) (.one 12 (.head 9 (.one 13 (.fin)))))) (.one 12 (.head 8 (.head 9 (.one 13 (.fin))))))) (.one 12 (.head 6 (.head 8 (.head 9 (.one 13 (.fin)))))))) (.one 12 (.head 6 (.head 7 (.head 8 (.head 9 (.one 13 (.fin))))))))))))) (.one 11 (.alt (.one 6 (.alt (.one 7 (.alt (.one 8 (.alt (.one 9 (.one 10 (.one 12 (.one 13 (.finS 2))))) (.one 10 (.alt (.one 9 (.one 12 (.one 13 (.finS 2)))) (.one 12 (.head 9 (.one 13 (.finS 2)))))))) (.one 10 (.alt (.one 8 (.alt (.one 9 (.one 12 (.one 13 (.finS 2)))) (.one 12 (.head 9 (.one 13 (.finS 2)))))) (.one 12 (.head 8 (.head 9 (.one 13 (.finS 2))))))))) (.one 10 (.alt (.one 7 (.alt (.one 8 (.alt (.one 9 (.one 12 (.one 13 (.finS 2)))) (.one 12 (.head 9 (.one 13 (.finS 2)))))) (.one 12 (.head 8 (.head 9 (.one 13 (.finS 2))))))) (.one 12 (.head 7 (.head 8 (.head 9 (.one 13 (.finS 2)))))))))) (.alt (.one 7 (.alt (.one 6 (.alt (.one 8 (.alt (.one 9 (.one 10 (.one 12 (.one 13 (.finS 2))))) (.one 10 (.alt (.one 9 (.one 12 (.one 13 (.finS 2)))) (.one 12 (.head 9 (.one 13 (.finS 2)))))))) (.one 10 (.alt (.one 8 (.alt (.one 9 (.one 12 (.one 13 (.finS 2)))) (.one 12 (.head 9 (.one 13 (.finS 2)))))) (.one 12 (.head 8 (.head 9 (.one 13 (.finS 2))))))))) (.one 10 (.alt (.one 6 (.alt (.one 8 (.alt (.one 9 (.one 12 (.one 13 (.finS 2)))) (.one 12 (.head 9 (.one 13 (.finS 2)))))) (.one 12 (.head 8 (.head 9 (.one 13 (.finS 2))))))) (.one 12 (.head 6 (.head 8 (.head 9 (.one 13 (.finS 2)))))))))) (.one 10 (.alt (.one 6 (.alt (.one 7 (.alt (.one 8 (.alt (.one 9 (.one 12 (.one 13 (.finS 2)))) (.one 12 (.head 9 (.one 13 (.finS 2)))))) (.one 12 (.head 8 (.head 9 (.one 13 (.finS 2))))))) (.one 12 (.head 7 (.head 8 (.head 9 (.one 13 (.finS 2)))))))) (.alt (.one 7 (.alt (.one 6 (.alt (.one 8 (.alt (.one 9 (.one 12 (.one 13 (.finS 2)))) (.one 12 (.head 9 (.one 13 (.finS 2)))))) (.one 12 (.head 8 (.head 9 (.one 13 (.finS 2))))))) (.one 12 (.head 6 (.head 8 (.head 9 (.one 13 (.finS 2)))))))) (.one 12 (.head 6 (.head 7 (.head 8 (.head 9 (.one 13 (.finS 2))))))))))))))))) (.alt (.one 7 (.alt (.one 5 (.alt (.one 6 (.alt (.one 8 (.alt (.one 9 (.alt (.one 10 (.one 11 (.one 12 (.one 13 (.fin))))) (.one 11 (.one 10 (.one 12 (.one 13 (.finS 2))))))) (.alt (.one 10 (.alt (.one 9 (.one 11 (.one 12 (.one 13 (.fin))))) (.one 11 (.alt (.one 9 (.one 12 (.one 13 (.fin)))) (.one 12 (.head 9 (.one 13 (.fin)))))))) (.one 11 (.alt (.one 9 (.one 10 (.one 12 (.one 13 (.finS 2))))) (.one 10 (.alt (.one 9 (.one 12 (.one 13 (.finS 2)))) (.one 12 (.head 9 (.one 13 (.finS 2))))))))))) (.alt (.one 10 (.alt (.one 8 (.alt (.one 9 (.one 11 (.one 12 (.one 13 (.fin))))) (.one 11 (.alt (.one 9 (.one 12 (.one 13 (.fin)))) (.one 12 (.head 9 (.one 13 (.fin)))))))) (.one 11 (.alt (.one 8 (.alt (.one 9 (.one 12 (.one 13 (.fin)))) (.one 12 (.head 9 (.one 13 (.fin)))))) (.one 12 (.head 8 (.head 9 (.one 13 (.fin))))))))) (.one 11 (.alt (.one 8 (.alt (.one 9 (.one 10 (.one 12 (.one 13 (.finS 2))))) (.one 10 (.alt (.one 9 (.one 12 (.one 13 (.finS 2)))) (.one 12 (.head 9 (.one 13 (.finS 2)))))))) (.one 10 (.alt (.one 8 (.alt (.one 9 (.one 12 (.one 13 (.finS 2)))) (.one 12 (.head 9 (.one 13 (.finS 2)))))) (.one 12 (.head 8 (.head 9 (.one 13 (.finS 2)))))))))))) (.alt (.one 10 (.alt (.one 6 (.alt (.one 8 (.alt (.one 9 (.one 11 (.one 12 (.one 13 (.fin))))) (.one 11 (.alt (.one 9 (.one 12 (.one 13 (.fin)))) (.one 12 (.head 9 (.one 13 (.fin)))))))) (.one 11 (.alt (.one 8 (.alt (.one 9 (.one 12 (.one 13 (.fin)))) (.one 12 (.head 9 (.one 13 (.fin)))))) (.one 12 (.head 8 (.head 9 (.one 13 (.fin))))))))) (.one 11 (.alt (.one 6 (.alt (.one 8 (.alt (.one 9 (.one 12 (.one 13 (.fin)))) (.one 12 (.head 9 (.one 13 (.fin)))))) (.one 12 (.head 8 (.head 9 (.one 13 (.fin))))))) (.one 12 (.head 6 (.head 8 (.head 9 (.one 13 (.fin)))))))))) (.one 11 (.alt (.one 6 (.alt (.one 8 (.alt (.one 9 (.one 10 (.one 12 (.one 13 (.finS 2))))) (.one 10 (.alt (.one 9 (.one 12 (.one 13 (.finS 2)))) (.one 12 (.head 9 (.one 13 (.finS 2)))))))) (.one 10 (.alt (.one 8 (.alt (.one 9 (.one 12 (.one 13 (.finS 2)))) (.one 12 (.head 9 (.one 13 (.finS 2)))))) (.one 12 (.head 8 (.head 9 (.one 13 (.finS 2))))))))) (.one 10 (.alt (.one 6 (.alt (.one 8 (.alt (.one 9 (.one 12 (.one 13 (.finS 2)))) (.one 12 (.head 9 (.one 13 (.finS 2)))))) (.one 12 (.head 8 (.head 9 (.one 13 (.finS 2))))))) (.one 12 (.head 6 (.head 8 (.head 9 (.one 13 (.finS 2))))))))))))) (.alt (.one 10 (.alt (.one 5 (.alt (.one 6 (.alt (.one 8 (.alt (.one 9 (.one 11 (.one 12 (.one 13 (.fin))))) (.one 11 (.alt (.one 9 (.one 12 (.one 13 (.fin)))) (.one 12 (.head 9 (.one 13 (.fin)))))))) (.one 11 (.alt (.one 8 (.alt (.one 9 (.one 12 (.one 13 (.fin)))) (.one 12 (.head 9 (.one 13 (.fin)))))) (.one 12 (.head 8 (.head 9 (.one 13 (.fin))))))))) (.one 11 (.alt (.one 6 (.alt (.one 8 (.alt (.one 9 (.one 12 (.one 13 (.fin)))) (.one 12 (.head 9 (.one 13 (.fin)))))) (.one 12 (.head 8 (.head 9 (.one 13 (.fin))))))) (.one 12 (.head 6 (.head 8 (.head 9 (.one 13 (.fin)))))))))) (.one 11 (.alt (.one 5 (.alt (.one 6 (.alt (.one 8 (.alt (.one 9 (.one 12 (.one 13 (.fin)))) (.one 12 (.head 9 (.one 13 (.fin)))))) (.one 12 (.head 8 (.head 9 (.one 13 (.fin))))))) (.one 12 (.head 6 (.head 8 (.head 9 (.one 13 (.fin)))))))) (.one 12 (.head 5 (.head 6 (.head 8 (.head 9 (.one 13 (.fin))))))))))) (.one 11 (.alt (.one 5 (.alt (.one 6 (.alt (.one 8 (.alt (.one 9 (.one 10 (.one 12 (.one 13 (.finS 2))))) (.one 10 (.alt (.one 9 (.one 12 (.one 13 (.finS 2)))) (.one 12 (.head 9 (.one 13 (.finS 2)))))))) (.one 10 (.alt (.one 8 (.alt (.one 9 (.one 12 (.one 13 (.finS 2)))) (.one 12 (.head 9 (.one 13 (.finS 2)))))) (.one 12 (.head 8 (.head 9 (.one 13 (.finS 2))))))))) (.one 10 (.alt (.one 6 (.alt (.one 8 (.alt (.one 9 (.one 12 (.one 13 (.finS 2)))) (.one 12 (.head 9 (.one 13 (.finS 2)))))) (.one 12 (.head 8 (.head 9 (.one 13 (.finS 2))))))) (.one 12 (.head 6 (.head 8 (.head 9 (.one 13 (.finS 2)))))))))) (.one 10 (.alt (.one 5 (.alt (.one 6 (.alt (.one 8 (.alt (.one 9 (.one 12 (.one 13 (.finS 2)))) (.one 12 (.head 9 (.one 13 (.finS 2)))))) (.one 12 (.head 8 (.head 9 (.one 13 (.finS 2))))))) (.one 12 (.head 6 (.head 8 (.head 9 (.one 13 (.finS 2)))))))) (.one 12 (.head 5 (.head 6 (.head 8 (.head 9 (.one 13 (.finS 2)))))))))))))) (.alt (.one 10 (.alt (.one 5 (.alt (.one 6 (.alt (.one 7 (.alt (.one 8 (.alt (.one 9 (.one 11 (.one 12 (.one 13 (.fin))))) (.one 11 (.alt (.one 9 (.one 12 (.one 13 (.fin)))) (.one 12 (.head 9 (.one 13 (.fin)))))))) (.one 11 (.alt (.one 8 (.alt (.one 9 (.one 12 (.one 13 (.fin)))) (.one 12 (.head 9 (.one 13 (.fin)))))) (.one 12 (.head 8 (.head 9 (.one 13 (.fin))))))))) (.one 11 (.alt (.one 7 (.alt (.one 8 (.alt (.one 9 (.one 12 (.one 13 (.fin)))) (.one 12 (.head 9 (.one 13 (.fin)))))) (.one 12 (.head 8 (.head 9 (.one 13 (.fin))))))) (.one 12 (.head 7 (.head 8 (.head 9 (.one 13 (.fin)))))))))) (.alt (.one 7 (.alt (.one 6 (.alt (.one 8 (.alt (.one 9 (.one 11 (.one 12 (.one 13 (.fin))))) (.one 11 (.alt (.one 9 (.one 12 (.one 13 (.fin)))) (.one 12 (.head 9 (.one 13 (.fin)))))))) (.one 11 (.alt (.one 8 (.alt (.one 9 (.one 12 (.one 13 (.fin)))) (.one 12 (.head 9 (.one 13 (.fin)))))) (.one 12 (.head 8 (.head 9 (.one 13 (.fin))))))))) (.one 11 (.alt (.one 6 (.alt (.one 8 (.alt (.one 9 (.one 12 (.one 13 (.fin)))) (.one 12 (.head 9 (.one 13 (.fin)))))) (.one 12 (.head 8 (.head 9 (.one 13 (.fin))))))) (.one 12 (.head 6 (.head 8 (.head 9 (.one 13 (.fin)))))))))) (.one 11 (.alt (.one 6 (.alt (.one 7 (.alt (.one 8 (.alt (.one 9 (.one 12 (.one 13 (.fin)))) (.one 12 (.head 9 (.one 13 (.fin)))))) (.one 12 (.head 8 (.head 9 (.one 13 (.fin))))))) (.one 12 (.head 7 (.head 8 (.head 9 (.one 13 (.fin)))))))) (.alt (.one 7 (.alt (.one 6 (.alt (.one 8 (.alt (.one 9 (.one 12 (.one 13 (.fin)))) (.one 12 (.head 9 (.one 13 (.fin)))))) (.one 12 (.head 8 (.head 9 (.one 13 (.fin))))))) (.one 12 (.head 6 (.head 8 (.head 9 (.one 13 (.fin)))))))) (.one 12 (.head 6 (.head 7 (.head 8 (.head 9 (.one 13 (.fin))))))))))))) (.alt (.one 7 (.alt (.one 5 (.alt (.one 6 (.alt (.one 8 (.alt (.one 9 (.one 11 (.one 12 (.one 13 (.fin))))) (.one 11 (.alt (.one 9 (.one 12 (.one 13 (.fin)))) (.one 12 (.head 9 (.one 13 (.fin)))))))) (.one 11 (.alt (.one 8 (.alt (.one 9 (.one 12 (.one 13 (.fin)))) (.one 12 (.head 9 (.one 13 (.fin)))))) (.one 12 (.head 8 (.head 9 (.one 13 (.fin))))))))) (.one 11 (.alt (.one 6 (.alt (.one 8 (.alt (.one 9 (.one 12 (.one 13 (.fin)))) (.one 12 (.head 9 (.one 13 (.fin)))))) (.one 12 (.head 8 (.head 9 (.one 13 (.fin))))))) (.one 12 (.head 6 (.head 8 (.head 9 (.one 13 (.fin)))))))))) (.one 11 (.alt (.one 5 (.alt (.one 6 (.alt (.one 8 (.alt (.one 9 (.one 12 (.one 13 (.fin)))) (.one 12 (.head 9 (.one 13 (.fin)))))) (.one 12 (.head 8 (.head 9 (.one 13 (.fin))))))) (.one 12 (.head 6 (.head 8 (.head 9 (.one 13 (.fin)))))))) (.one 12 (.head 5 (.head 6 (.head 8 (.head 9 (.one 13 (.fin))))))))))) (.one 11 (.alt (.one 5 (.alt (.one 6 (.alt (.one 7 (.alt (.one 8 (.alt (.one 9 (.one 12 (.one 13 (.fin)))) (.one 12 (.head 9 (.one 13 (.fin)))))) (.one 12 (.head 8 (.head 9 (.one 13 (.fin))))))) (.one 12 (.head 7 (.head 8 (.head 9 (.one 13 (.fin)))))))) (.alt (.one 7 (.alt (.one 6 (.alt (.one 8 (.alt (.one 9 (.one 12 (.one 13 (.fin)))) (.one 12 (.head 9 (.one 13 (.fin)))))) (.one 12 (.head 8 (.head 9 (.one 13 (.fin))))))) (.one 12 (.head 6 (.head 8 (.head 9 (.one 13 (.fin)))))))) (.one 12 (.head 6 (.head 7 (.head 8 (.head 9 (.one 13 (.fin)))))))))) (.alt (.one 7 (.alt (.one 5 (.alt (.one 6 (.alt (.one 8 (.alt (.one 9 (.one 12 (.one 13 (.fin)))) (.one 12 (.head 9 (.one 13 (.fin)))))) (.one 12 (.head 8 (.head 9 (.one 13 (.fin))))))) (.one 12 (.head 6 (.head 8 (.head 9 (.one 13 (.fin)))))))) (.one 12 (.head 5 (.head 6 (.head 8 (.head 9 (.one 13 (.fin))))))))) (.one 12 (.head 5 (.head 6 (.head 7 (.head 8 (.head 9 (.one 13 (.fin)))))))))))))) (.one 11 (.alt (.one 5 (.alt (.one 6 (.alt (.one 7 (.alt (.one 8 (.alt (.one 9 (.one 10 (.one 12 (.one 13 (.finS 2))))) (.one 10 (.alt (.one 9 (.one 12 (.one 13 (.finS 2)))) (.one 12 (.head 9 (.one 13 (.finS 2)))))))) (.one 10 (.alt (.one 8 (.alt (.one 9 (.one 12 (.one 13 (.finS 2)))) (.one 12 (.head 9 (.one 13 (.finS 2)))))) (.one 12 (.head 8 (.head 9 (.one 13 (.finS 2))))))))) (.one 10 (.alt (.one 7 (.alt (.one 8 (.alt (.one 9 (.one 12 (.one 13 (.finS 2)))) (.one 12 (.head 9 (.one 13 (.finS 2)))))) (.one 12 (.head 8 (.head 9 (.one 13 (.finS 2))))))) (.one 12 (.head 7 (.head 8 (.head 9 (.one 13 (.finS 2)))))))))) (.alt (.one 7 (.alt (.one 6 (.alt (.one 8 (.alt (.one 9 (.one 10 (.one 12 (.one 13 (.finS 2))))) (.one 10 (.alt (.one 9 (.one 12 (.one 13 (.finS 2)))) (.one 12 (.head 9 (.one 13 (.finS 2)))))))) (.one 10 (.alt (.one 8 (.alt (.one 9 (.one 12 (.one 13 (.finS 2)))) (.one 12 (.head 9 (.one 13 (.finS 2)))))) (.one 12 (.head 8 (.head 9 (.one 13 (.finS 2))))))))) (.one 10 (.alt (.one 6 (.alt (.one 8 (.alt (.one 9 (.one 12 (.one 13 (.finS 2)))) (.one 12 (.head 9 (.one 13 (.finS 2)))))) (.one 12 (.head 8 (.head 9 (.one 13 (.finS 2))))))) (.one 12 (.head 6 (.head 8 (.head 9 (.one 13 (.finS 2)))))))))) (.one 10 (.alt (.one 6 (.alt (.one 7 (.alt (.one 8 (.alt (.one 9 (.one 12 (.one 13 (.finS 2)))) (.one 12 (.head 9 (.one 13 (.finS 2)))))) (.one 12 (.head 8 (.head 9 (.one 13 (.finS 2))))))) (.one 12 (.head 7 (.head 8 (.head 9 (.one 13 (.finS 2)))))))) (.alt (.one 7 (.alt (.one 6 (.alt (.one 8 (.alt (.one 9 (.one 12 (.one 13 (.finS 2)))) (.one 12 (.head 9 (.one 13 (.finS 2)))))) (.one 12 (.head 8 (.head 9 (.one 13 (.finS 2))))))) (.one 12 (.head 6 (.head 8 (.head 9 (.one 13 (.finS 2)))))))) (.one 12 (.head 6 (.head 7 (.head 8 (.head 9 (.one 13 (.finS 2))))))))))))) (.alt (.one 7 (.alt (.one 5 (.alt (.one 6 (.alt (.one 8 (.alt (.one 9 (.one 10 (.one 12 (.one 13 (.finS 2))))) (.one 10 (.alt (.one 9 (.one 12 (.one 13 (.finS 2)))) (.one 12 (.head 9 (.one 13 (.finS 2)))))))) (.one 10 (.alt (.one 8 (.alt (.one 9 (.one 12 (.one 13 (.finS 2)))) (.one 12 (.head 9 (.one 13 (.finS 2)))))) (.one 12 (.head 8 (.head 9 (.one 13 (.finS 2))))))))) (.one 10 (.alt (.one 6 (.alt (.one 8 (.alt (.one 9 (.one 12 (.one 13 (.finS 2)))) (.one 12 (.head 9 (.one 13 (.finS 2)))))) (.one 12 (.head 8 (.head 9 (.one 13 (.finS 2))))))) (.one 12 (.head 6 (.head 8 (.head 9 (.one 13 (.finS 2)))))))))) (.one 10 (.alt (.one 5 (.alt (.one 6 (.alt (.one 8 (.alt (.one 9 (.one 12 (.one 13 (.finS 2)))) (.one 12 (.head 9 (.one 13 (.finS 2)))))) (.one 12 (.head 8 (.head 9 (.one 13 (.finS 2))))))) (.one 12 (.head 6 (.head 8 (.head 9 (.one 13 (.finS 2)))))))) (.one 12 (.head 5 (.head 6 (.head 8 (.head 9 (.one 13 (.finS 2))))))))))) (.one 10 (.alt (.one 5 (.alt (.one 6 (.alt (.one 7 (.alt (.one 8 (.alt (.one 9 (.one 12 (.one 13 (.finS 2)))) (.one 12 (.head 9 (.one 13 (.finS 2)))))) (.one 12 (.head 8 (.head 9 (.one 13 (.finS 2))))))) (.one 12 (.head 7 (.head 8 (.head 9 (.one 13 (.finS 2)))))))) (.alt (.one 7 (.alt (.one 6 (.alt (.one 8 (.alt (.one 9 (.one 12 (.one 13 (.finS 2)))) (.one 12 (.head 9 (.one 13 (.finS 2)))))) (.one 12 (.head 8 (.head 9 (.one 13 (.finS 2))))))) (.one 12 (.head 6 (.head 8 (.head 9 (.one 13 (.finS 2)))))))) (.one 12 (.head 6 (.head 7 (.head 8 (.head 9 (.one 13 (.finS 2)))))))))) (.alt (.one 7 (.alt (.one 5 (.alt (.one 6 (.alt (.one 8 (.alt (.one 9 (.one 12 (.one 13 (.finS 2)))) (.one 12 (.head 9 (.one 13 (.finS 2)))))) (.one 12 (.head 8 (.head 9 (.one 13 (.finS 2))))))) (.one 12 (.head 6 (.head 8 (.head 9 (.one 13 (.finS 2)))))))) (.one 12 (.head 5 (.head 6 (.head 8 (.head 9 (.one 13 (.finS 2))))))))) (.one 12 (.head 5 (.head 6 (.head 7 (.head 8 (.head 9 (.one 13 (.finS 2)))))))))))))))))))))⟩ | _ => none) := rfl
@[go_sem] theorem h5l : h5.live = h5a := rfl
@[go_sem] theorem h5o : h5.mode = fun _ => 0 := rfl
@[go_sem] theorem h5k : h5.keep = (fun id => match id with | 15 => some 2 | 18 => some 0 | _ => none) := rfl
@[go_sem] theorem h5t : h5.tail = (fun id => match id with | 6 => some 8 | 12 => some 10 | _ => none) := rfl
@[go_sem] theorem h5v : h5.vars = [] := rfl
@[go_sem] theorem h5m : h5.mutc = false := rfl
@[go_sem] def h6a : Nat → Option (List Nat) := (fun id => match id with | 0 => some [0, 1] | 1 => some [0, 1, 12] | 2 => some [4] | 3 => some [0, 1, 14, 15] | 4 => some [0, 1, 14, 15, 16] | 5 => some [0, 1, 5, 14, 15] | 6 => some [0, 1, 6, 7, 14, 15] | 7 => some [0, 1, 14, 15, 61] | 8 => some [4] | 9 => some [0, 1, 14, 15] | 10 => some [4] | _ => none)
def h6 : Hint := ⟨h6a, (fun id => match id with | 9 => some 0 | _ => none), (fun id => match id with | 6 => some 8 | _ => none), [], false, (fun id => match id with | 6 => some ⟨[0, 1, 2, 3, 4, 5, 6, 7], [], .head 0 (.head 1 (.head 2 (.head 3 (.alt (.one 4 (.alt (.one 5 (.alt (.one 6 (.alt (.one 7 (.alt (.one 8 (.one 9 (.one 10 (.one 11 (.fin))))) (.one 9 (.one 8 (.one 10 (.one 11 (.finS 0))))))) (.alt (.one 8 (.alt (.one 7 (.one 9 (.one 10 (.one 11 (.fin))))) (.one 9 (.alt (.one 7 (.one 10 (.one 11 (.fin)))) (.one 10 (.head 7 (.one 11 (.fin)))))))) (.one 9 (.alt (.one 7 (.one 8 (.one 10 (.one 11 (.finS 0))))) (.one 8 (.alt (.one 7 (.one 10 (.one 11 (.finS 0)))) (.one 10 (.head 7 (.one 11 (.finS 0))))))))))) (.alt (.one 8 (.alt (.one 6 (.alt (.one 7 (.one 9 (.one 10 (.one 11 (.fin))))) (.one 9 (.alt (.one 7 (.one 10 (.one 11 (.fin)))) (.one 10 (.head 7 (.one 11 (.fin)))))))) (.one 9 (.alt (.one 6 (.alt (.one 7 (.one 10 (.one 11 (.fin)))) (.one 10 (.head 7 (.one 11 (.fin)))))) (.one 10 (.head 6 (.head 7 (.one 11 (.fin))))))))) (.one 9 (.alt (.one 6 (.alt (.one 7 (.one 8 (.one 10 (.one 11 (.finS 0))))) (.one 8 (.alt (.one 7 (.one 10 (.one 11 (.finS 0)))) (.one 10 (.head 7 (.one 11 (.finS 0)))))))) (.one 8 (.alt (.one 6 (.alt (.one 7 (.one 10 (.one 11 (.finS 0)))) (.one 10 (.head 7 (.one 11 (.finS 0)))))) (.one 10 (.head 6 (.head 7 (.one 11 (.finS 0)))))))))))) (.alt (.one 8 (.alt (.one 5 (.alt (.one 6 (.alt (.one 7 (.one 9 (.one 10 (.one 11 (.fin))))) (.one 9 (.alt (.one 7 (.one 10 (.one 11 (.fin)))) (.one 10 (.head 7 (.one 11 (.fin)))))))) (.one 9 (.alt (.one 6 (.alt (.one 7 (.one 10 (.one 11 (.fin)))) (.one 10 (.head 7 (.one 11 (.fin)))))) (.one 10 (.head 6 (.head 7 (.one 11 (.fin))))))))) (.one 9 (.alt (.one 5 (.alt (.one 6 (.alt (.one 7 (.one 10 (.one 11 (.fin)))) (.one 10 (.head 7 (.one 11 (.fin)))))) (.one 10 (.head 6 (.head 7 (.one 11 (.fin))))))) (.one 10 (.head 5 (.head 6 (.head 7 (.one 11 (.fin)))))))))) (.one 9 (.alt (.one 5 (.alt (.one 6 (.alt (.one 7 (.one 8 (.one 10 (.one 11 (.finS 0))))) (.one 8 (.alt (.one 7 (.one 10 (.one 11 (.finS 0)))) (.one 10 (.head 7 (.one 11 (.finS 0)))))))) (.one 8 (.alt (.one 6 (.alt (.one 7 (.one 10 (.one 11 (.finS 0)))) (.one 10 (.head 7 (.one 11 (.finS 0)))))) (.one 10 (.head 6 (.head 7 (.one 11 (.finS 0))))))))) (.one 8 (.alt (.one 5 (.alt (.one 6 (.alt (.one 7 (.one 10 (.one 11 (.finS 0)))) (.one 10 (.head 7 (.one 11 (.finS 0)))))) (.one 10 (.head 6 (.head 7 (.one 11 (.finS 0))))))) (.one 10 (.head 5 (.head 6 (.head 7 (.one 11 (.finS 0))))))))))))) (.alt (.one 5 (.alt (.one 4 (.alt (.one 6 (.alt (.one 7 (.alt (.one 8 (.one 9 (.one 10 (.one 11 (.fin))))) (.one 9 (.one 8 (.one 10 (.one 11 (.finS 0))))))) (.alt (.one 8 (.alt (.one 7 (.one 9 (.one 10 (.one 11 (.fin))))) (.one 9 (.alt (.one 7 (.one 10 (.one 11 (.fin)))) (.one 10 (.head 7 (.one 11 (.fin)))))))) (.one 9 (.alt (.one 7 (.one 8 (.one 10 (.one 11 (.finS 0))))) (.one 8 (.alt (.one 7 (.one 10 (.one 11 (.finS 0)))) (.one 10 (.head 7 (.one 11 (.finS 0))))))))))) (.alt (.one 8 (.alt (.one 6 (.alt (.one 7 (.one 9 (.one 10 (.one 11 (.fin))))) (.one 9 (.alt (.one 7 (.one 10 (.one 11 (.fin)))) (.one 10 (.head 7 (.one 11 (.fin)))))))) (.one 9 (.alt (.one 6 (.alt (.one 7 (.one 10 (.one 11 (.fin)))) (.one 10 (.head 7 (.one 11 (.fin)))))) (.one 10 (.head 6 (.head 7 (.one 11 (.fin))))))))) (.one 9 (.alt (.one 6 (.alt (.one 7 (.one 8 (.one 10 (.one 11 (.finS 0))))) (.one 8 (.alt (.one 7 (.one 10 (.one 11 (.finS 0)))) (.one 10 (.head 7 (.one 11 (.finS 0)))))))) (.one 8 (.alt (.one 6 (.alt (.one 7 (.one 10 (.one 11 (.finS 0)))) (.one 10 (.head 7 (.one 11 (.finS 0)))))) (.one 10 (.head 6 (.head 7 (.one 11 (.finS 0)))))))))))) (.alt (.one 8 (.alt (.one 4 (.alt (.one 6 (.alt (.one 7 (.one 9 (.one 10 (.one 11 (.fin))))) (.one 9 (.alt (.one 7 (.one 10 (.one 11 (.fin)))) (.one 10 (.head 7 (.one 11 (.fin)))))))) (.one 9 (.alt (.one 6 (.alt (.one 7 (.one 10 (.one 11 (.fin)))) (.one 10 (.head 7 (.one 11 (.fin)))))) (.one 10 (.head 6 (.head 7 (.one 11 (.fin))))))))) (.one 9 (.alt (.one 4 (.alt (.one 6 (.alt (.one 7 (.one 10 (.one 11 (.fin)))) (.one 10 (.head 7 (.one 11 (.fin)))))) (.one 10 (.head 6 (.head 7 (.one 11 (.fin))))))) (.one 10 (.head 4 (.head 6 (.head 7 (.one 11 (.fin)))))))))) (.one 9 (.alt (.one 4 (.alt (.one 6 (.alt (.one 7 (.one 8 (.one 10 (.one 11 (.finS 0))))) (.one 8 (.alt (.one 7 (.one 10 (.one 11 (.finS 0)))) (.one 10 (.head 7 (.one 11 (.finS 0)))))))) (.one 8 (.alt (.one 6 (.alt (.one 7 (.one 10 (.one 11 (.finS 0)))) (.one 10 (.head 7 (.one 11 (.finS 0)))))) (.one 10 (.head 6 (.head 7 (.one 11 (.finS 0))))))))) (.one 8 (.alt (.one 4 (.alt (.one 6 (.alt (.one 7 (.one 10 (.one 11 (.finS 0)))) (.one 10 (.head 7 (.one 11 (.finS 0)))))) (.one 10 (.head 6 (.head 7 (.one 11 (.finS 0))))))) (.one 10 (.head 4 (.head 6 (.head 7 (.one 11 (.finS 0))))))))))))) (.alt (.one 8 (.alt (.one 4 (.alt (.one 5 (.alt (.one 6 (.alt (.one 7 (.one 9 (.one 10 (.one 11 (.fin))))) (.one 9 (.alt (.one 7 (.one 10 (.one 11 (.fin)))) (.one 10 (.head 7 (.one 11 (.fin)))))))) (.one 9 (.alt (.one 6 (.alt (.one 7 (.one 10 (.one 11 (.fin)))) (.one 10 (.head 7 (.one 11 (.fin)))))) (.one 10 (.head 6 (.head 7 (.one 11 (.fin))))))))) (.one 9 (.alt (.one 5 (.alt (.one 6 (.alt (.one 7 (.one 10 (.one 11 (.fin)))) (.one 10 (.head 7 (.one 11 (.fin)))))) (.one 10 (.head 6 (.head 7 (.one 11 (.fin))))))) (.one 10 (.head 5 (.head 6 (.head 7 (.one 11 (.fin)))))))))) (.alt (.one 5 (.alt (.one 4 (.alt (.one 6 (.alt (.one 7 (.one 9 (.one 10 (.one 11 (.fin))))) (.one 9 (.alt (.one 7 (.one 10 (.one 11 (.fin)))) (.one 10 (.head 7 (.one 11 (.fin)))))))) (.one 9 (.alt (.one 6 (.alt (.one 7 (.one 10 (.one 11 (.fin)))) (.one 10 (.head 7 (.one 11 (.fin)))))) (.one 10 (.head 6 (.head 7 (.one 11 (.fin))))))))) (.one 9 (.alt (.one 4 (.alt (.one 6 (.alt (.one 7 (.one 10 (.one 11 (.fin)))) (.one 10 (.head 7 (.one 11 (.fin)))))) (.one 10 (.head 6 (.head 7 (.one 11 (.fin))))))) (.one 10 (.head 4 (.head 6 (.head 7 (.one 11 (.fin)))))))))) (.one 9 (.alt (.one 4 (.alt (.one 5 (.alt (.one 6 (.alt (.one 7 (.one 10 (.one 11 (.fin)))) (.one 10 (.head 7 (.one 11 (.fin)))))) (.one 10 (.head 6 (.head 7 (.one 11 (.fin))))))) (.one 10 (.head 5 (.head 6 (.head 7 (.one 11 (.fin)))))))) (.alt (.one 5 (.alt (.one 4 (.alt (.one 6 (.alt (.one 7 (.one 10 (.one 11 (.fin)))) (.one 10 (.head 7 (.one 11 (.fin)))))) (.one 10 (.head 6 (.head 7 (.one 11 (.fin))))))) (.one 10 (.head 4 (.head 6 (.head 7 (.one 11 (.fin)))))))) (.one 10 (.head 4 (.head 5 (.head 6 (.head 7 (.one 11 (.fin))))))))))))) (.one 9 (.alt (.one 4 (.alt (.one 5 (.alt (.one 6 (.alt (.one 7 (.one 8 (.one 10 (.one 11 (.finS 0))))) (.one 8 (.alt (.one 7 (.one 10 (.one 11 (.finS 0)))) (.one 10 (.head 7 (.one 11 (.finS 0)))))))) (.one 8 (.alt (.one 6 (.alt (.one 7 (.one 10 (.one 11 (.finS 0)))) (.one 10 (.head 7 (.one 11 (.finS 0)))))) (.one 10 (.head 6 (.head 7 (.one 11 (.finS 0))))))))) (.one 8 (.alt (.one 5 (.alt (.one 6 (.alt (.one 7 (.one 10 (.one 11 (.finS 0)))) (.one 10 (.head 7 (.one 11 (.finS 0)))))) (.one 10 (.head 6 (.head 7 (.one 11 (.finS 0))))))) (.one 10 (.head 5 (.head 6 (.head 7 (.one 11 (.finS 0)))))))))) (.alt (.one 5 (.alt (.one 4 (.alt (.one 6 (.alt (.one 7 (.one 8 (.one 10 (.one 11 (.finS 0))))) (.one 8 (.alt (.one 7 (.one 10 (.one 11 (.finS 0)))) (.one 10 (.head 7 (.one 11 (.finS 0)))))))) (.one 8 (.alt (.one 6 (.alt (.one 7 (.one 10 (.one 11 (.finS 0)))) (.one 10 (.head 7 (.one 11 (.finS 0)))))) (.one 10 (.head 6 (.head 7 (.one 11 (.finS 0))))))))) (.one 8 (.alt (.one 4 (.alt (.one 6 (.alt (.one 7 (.one 10 (.one 11 (.finS 0)))) (.one 10 (.head 7 (.one 11 (.finS 0)))))) (.one 10 (.head 6 (.head 7 (.one 11 (.finS 0))))))) (.one 10 (.head 4 (.head 6 (.head 7 (.one 11 (.finS 0)))))))))) (.one 8 (.alt (.one 4 (.alt (.one 5 (.alt (.one 6 (.alt (.one 7 (.one 10 (.one 11 (.finS 0)))) (.one 10 (.head 7 (.one 11 (.finS 0)))))) (.one 10 (.head 6 (.head 7 (.one 11 (.finS 0))))))) (.one 10 (.head 5 (.head 6 (.head 7 (.one 11 (.finS 0)))))))) (.alt (.one 5 (.alt (.one 4 (.alt (.one 6 (.alt (.one 7 (.one 10 (.one 11 (.finS 0)))) (.one 10 (.head 7 (.one 11 (.finS 0)))))) (.one 10 (.head 6 (.head 7 (.one 11 (.finS 0))))))) (.one 10 (.head 4 (.head 6 (.head 7 (.one 11 (.finS 0)))))))) (.one 10 (.head 4 (.head 5 (.head 6 (.head 7 (.one 11 (.finS 0)))))))))))))))))))⟩ | _ => none), fun _ => 0, 0, false⟩
@[go_sem] theorem h6x : h6.mix = (fun id => match id with | 6 => some ⟨[0, 1, 2, 3, 4, 5, 6, 7], [], .head 0 (.head 1 (.head 2 (.head 3 (.alt (.one 4 (.alt (.one 5 (.alt (.one 6 (.alt (.one 7 (.alt (.one 8 (.one 9 (.one 10 (.one 11 (.fin))))) (.one 9 (.one 8 (.one 10 (.one 11 (.finS 0))))))) (.alt (.one 8 (.alt (.one 7 (.one 9 (.one 10 (.one 11 (.fin))))) (.one 9 (.alt (.one 7 (.one 10 (.one 11 (.fin)))) (.one 10 (.head 7 (.one 11 (.fin)))))))) (.one 9 (.alt (.one 7 (.one 8 (.one 10 (.one 11 (.finS 0))))) (.one 8 (.alt (.one 7 (.one 10 (.one 11 (.finS 0)))) (.one 10 (.head 7 (.one 11 (.finS 0))))))))))) (.alt (.one 8 (.alt (.one 6 (.alt (.one 7 (.one 9 (.one 10 (.one 11 (.fin))))) (.one 9 (.alt (.one 7 (.one 10 (.one 11 (.fin)))) (.one 10 (.head 7 (.one 11 (.fin)))))))) (.one 9 (.alt (.one 6 (.alt (.one 7 (.one 10 (.one 11 (.fin)))) (.one 10 (.head 7 (.one 11 (.fin)))))) (.one 10 (.head 6 (.head 7 (.one 11 (.fin))))))))) (.one 9 (.alt (.one 6 (.alt (.one 7 (.one 8 (.one 10 (.one 11 (.finS 0))))) (.one 8 (.alt (.one 7 (.one 10 (.one 11 (.finS 0)))) (.one 10 (.head 7 (.one 11 (.finS 0)))))))) (.one 8 (.alt (.one 6 (.alt (.one 7 (.one 10 (.one 11 (.finS 0)))) (.one 10 (.head 7 (.one 11 (.finS 0)))))) (.one 10 (.head 6 (.head 7 (.one 11 (.finS 0)))))))))))) (.alt (.one 8 (.alt (.one 5 (.alt (.one 6 (.alt (.one 7 (.one 9 (.one 10 (.one 11 (.fin))))) (.one 9 (.alt (.one 7 (.one 10 (.one 11 (.fin)))) (.one 10 (.head 7 (.one 11 (.fin)))))))) (.one 9 (.alt (.one 6 (.alt (.one 7 (.one 10 (.one 11 (.fin)))) (.one 10 (.head 7 (.one 11 (.fin)))))) (.one 10 (.head 6 (.head 7 (.one 11 (.fin))))))))) (.one 9 (.alt (.one 5 (.alt (.one 6 (.alt (.one 7 (.one 10 (.one 11 (.fin)))) (.one 10 (.head 7 (.one 11 (.fin)))))) (.one 10 (.head 6 (.head 7 (.one 11 (.fin))))))) (.one 10 (.head 5 (.head 6 (.head 7 (.one 11 (.fin)))))))))) (.one 9 (.alt (.one 5 (.alt (.one 6 (.alt (.one 7 (.one 8 (.one 10 (.one 11 (.finS 0))))) (.one 8 (.alt (.one 7 (.one 10 (.one 11 (.finS 0)))) (.one 10 (.head 7 (.one 11 (.finS 0)))))))) (.one 8 (.alt (.one 6 (.alt (.one 7 (.one 10 (.one 11 (.finS 0)))) (.one 10 (.head 7 (.one 11 (.finS 0)))))) (.one 10 (.head 6 (.head 7 (.one 11 (.finS 0))))))))) (.one 8 (.alt (.one 5 (.alt (.one 6 (.alt (.one 7 (.one 10 (.one 11 (.finS 0)))) (.one 10 (.head 7 (.one 11 (.finS 0)))))) (.one 10 (.head 6 (.head 7 (.one 11 (.finS 0))))))) (.one 10 (.head 5 (.head 6 (.head 7 (.one 11 (.finS 0))))))))))))) (.alt (.one 5 (.alt (.one 4 (.alt (.one 6 (.alt (.one 7 (.alt (.one 8 (.one 9 (.one 10 (.one 11 (.fin))))) (.one 9 (.one 8 (.one 10 (.one 11 (.finS 0))))))) (.alt (.one 8 (.alt (.one 7 (.one 9 (.one 10 (.one 11 (.fin))))) (.one 9 (.alt (.one 7 (.one 10 (.one 11 (.fin)))) (.one 10 (.head 7 (.one 11 (.fin)))))))) (.one 9 (.alt (.one 7 (.one 8 (.one 10 (.one 11 (.finS 0))))) (.one 8 (.alt (.one 7 (.one 10 (.one 11 (.finS 0)))) (.one 10 (.head 7 (.one 11 (.finS 0))))))))))) (.alt (.one 8 (.alt (.one 6 (.alt (.one 7 (.one 9 (.one 10 (.one 11 (.fin))))) (.one 9 (.alt (.one 7 (.one 10 (.one 11 (.fin)))) (.one 10 (.head 7 (.one 11 (.fin)))))))) (.one 9 (.alt (.one 6 (.alt (.one 7 (.one 10 (.one 11 (.fin)))) (.one 10 (.head 7 (.one 11 (.fin)))))) (.one 10 (.head 6 (.head 7 (.one 11 (.fin))))))))) (.one 9 (.alt (.one 6 (.alt (.one 7 (.one 8 (.one 10 (.one 11 (.finS 0))))) (.one 8 (.alt (.one 7 (.one 10 (.one 11 (.finS 0)))) (.one 10 (.head 7 (.one 11 (.finS 0)))))))) (.one 8 (.alt (.one 6 (.alt (.one 7 (.one 10 (.one 11 (.finS 0)))) (.one 10 (.head 7 (.one 11 (.finS 0)))))) (.one 10 (.head 6 (.head 7 (.one 11 (.finS 0)))))))))))) (.alt (.one 8 (.alt (.one 4 (.alt (.one 6 (.alt (.one 7 (.one 9 (.one 10 (.one 11 (.fin))))) (.one 9 (.alt (.one 7 (.one 10 (.one 11 (.fin)))) (.one 10 (.head 7 (.one 11 (.fin)))))))) (.one 9 (.alt (.one 6 (.alt (.one 7 (.one 10 (.one 11 (.fin)))) (.one 10 (.head 7 (.one 11 (.fin)))))) (.one 10 (.head 6 (.head 7 (.one 11 (.fin))))))))) (.one 9 (.alt (.one 4 (.alt (.one 6 (.alt (.one 7 (.one 10 (.one 11 (.fin)))) (.one 10 (.head 7 (.one 11 (.fin)))))) (.one 10 (.head 6 (.head 7 (.one 11 (.fin))))))) (.one 10 (.head 4 (.head 6 (.head 7 (.one 11 (.fin)))))))))) (.one 9 (.alt (.one 4 (.alt (.one 6 (.alt (.one 7 (.one 8 (.one 10 (.one 11 (.finS 0))))) (.one 8 (.alt (.one 7 (.one 10 (.one 11 (.finS 0)))) (.one 10 (.head 7 (.one 11 (.finS 0)))))))) (.one 8 (.alt (.one 6 (.alt (.one 7 (.one 10 (.one 11 (.finS 0)))) (.one 10 (.head 7 (.one 11 (.finS 0)))))) (.one 10 (.head 6 (.head 7 (.one 11 (.finS 0))))))))) (.one 8 (.alt (.one 4 (.alt (.one 6 (.alt (.one 7 (.one 10 (.one 11 (.finS 0)))) (.one 10 (.head 7 (.one 11 (.finS 0)))))) (.one 10 (.head 6 (.head 7 (.one 11 (.finS 0))))))) (.one 10 (.head 4 (.head 6 (.head 7 (.one 11 (.finS 0))))))))))))) (.alt (.one 8 (.alt (.one 4 (.alt (.one 5 (.alt (.one 6 (.alt (.one 7 (.one 9 (.one 10 (.one 11 (.fin))))) (.one 9 (.alt (.one 7 (.one 10 (.one 11 (.fin)))) (.one 10 (.head 7 (.one 11 (.fin)))))))) (.one 9 (.alt (.one 6 (.alt (.one 7 (.one 10 (.one 11 (.fin)))) (.one 10 (.head 7 (.one 11 (.fin)))))) (.one 10 (.head 6 (.head 7 (.one 11 (.fin))))))))) (.one 9 (.alt (.one 5 (.alt (.one 6 (.alt (.one 7 (.one 10 (.one 11 (.fin)))) (.one 10 (.head 7 (.one 11 (.fin)))))) (.one 10 (.head 6 (.head 7 (.one 11 (.fin))))))) (.one 10 (.head 5 (.head 6 (.head 7 (.one 11 (.fin)))))))))) (.alt (.one 5 (.alt (.one 4 (.alt (.one 6 (.alt (.one 7 (.one 9 (.one 10 (.one 11 (.fin))))) (.one 9 (.alt (.one 7 (.one 10 (.one 11 (.fin)))) (.one 10 (.head 7 (.one 11 (.fin)))))))) (.one 9 (.alt (.one 6 (.alt (.one 7 (.one 10 (.one 11 (.fin)))) (.one 10 (.head 7 (.one 11 (.fin)))))) (.one 10 (.head 6 (.head 7 (.one 11 (.fin))))))))) (.one 9 (.alt (.one 4 (.alt (.one 6 (.alt (.one 7 (.one 10 (.one 11 (.fin)))) (.one 10 (.head 7 (.one 11 (.fin)))))) (.one 10 (.head 6 (.head 7 (.one 11 (.fin))))))) (.one 10 (.head 4 (.head 6 (.head 7 (.one 11 (.fin)))))))))) (.one 9 (.alt (.one 4 (.alt (.one 5 (.alt (.one 6 (.alt (.one 7 (.one 10 (.one 11 (.fin)))) (.one 10 (.head 7 (.one 11 (.fin)))))) (.one 10 (.head 6 (.head 7 (.one 11 (.fin))))))) (.one 10 (.head 5 (.head 6 (.head 7 (.one 11 (.fin)))))))) (.alt (.one 5 (.alt (.one 4 (.alt (.one 6 (.alt (.one 7 (.one 10 (.one 11 (.fin)))) (.one 10 (.head 7 (.one 11 (.fin)))))) (.one 10 (.head 6 (.head 7 (.one 11 (.fin))))))) (.one 10 (.head 4 (.head 6 (.head 7 (.one 11 (.fin)))))))) (.one 10 (.head 4 (.head 5 (.head 6 (.head 7 (.one 11 (.fin))))))))))))) (.one 9 (.alt (.one 4 (.alt (.one 5 (.alt (.one 6 (.alt (.one 7 (.one 8 (.one 10 (.one 11 (.finS 0))))) (.one 8 (.alt (.one 7 (.one 10 (.one 11 (.finS 0)))) (.one 10 (.head 7 (.one 11 (.finS 0)))))))) (.one 8 (.alt (.one 6 (.alt (.one 7 (.one 10 (.one 11 (.finS 0)))) (.one 10 (.head 7 (.one 11 (.finS 0)))))) (.one 10 (.head 6 (.head 7 (.one 11 (.finS 0))))))))) (.one 8 (.alt (.one 5 (.alt (.one 6 (.alt (.one 7 (.one 10 (.one 11 (.finS 0)))) (.one 10 (.head 7 (.one 11 (.finS 0)))))) (.one 10 (.head 6 (.head 7 (.one 11 (.finS 0))))))) (.one 10 (.head 5 (.head 6 (.head 7 (.one 11 (.finS 0)))))))))) (.alt (.one 5 (.alt (.one 4 (.alt (.one 6 (.alt (.one 7 (.one 8 (.one 10 (.one 11 (.finS 0))))) (.one 8 (.alt (.one 7 (.one 10 (.one 11 (.finS 0)))) (.one 10 (.head 7 (.one 11 (.finS 0)))))))) (.one 8 (.alt (.one 6 (.alt (.one 7 (.one 10 (.one 11 (.finS 0)))) (.one 10 (.head 7 (.one 11 (.finS 0)))))) (.one 10 (.head 6 (.head 7 (.one 11 (.finS 0))))))))) (.one 8 (.alt (.one 4 (.alt (.one 6 (.alt (.one 7 (.one 10 (.one 11 (.finS 0)))) (.one 10 (.head 7 (.one 11 (.finS 0)))))) (.one 10 (.head 6 (.head 7 (.one 11 (.finS 0))))))) (.one 10 (.head 4 (.head 6 (.head 7 (.one 11 (.finS 0)))))))))) (.one 8 (.alt (.one 4 (.alt (.one 5 (.alt (.one 6 (.alt (.one 7 (.one 10 (.one 11 (.finS 0)))) (.one 10 (.head 7 (.one 11 (.finS 0)))))) (.one 10 (.head 6 (.head 7 (.one 11 (.finS 0))))))) (.one 10 (.head 5 (.head 6 (.head 7 (.one 11 (.finS 0)))))))) (.alt (.one 5 (.alt (.one 4 (.alt (.one 6 (.alt (.one 7 (.one 10 (.one 11 (.finS 0)))) (.one 10 (.head 7 (.one 11 (.finS 0)))))) (.one 10 (.head 6 (.head 7 (.one 11 (.finS 0))))))) (.one 10 (.head 4 (.head 6 (.head 7 (.one 11 (.finS 0)))))))) (.one 10 (.head 4 (.head 5 (.head 6 (.head 7 (.one 11 (.finS 0)))))))))))))))))))⟩ | _ => none) := rfl
@[go_sem] theorem h6l : h6.live = h6a := rfl
@[go_sem] theorem h6o : h6.mode = fun _ => 0 := rfl
@[go_sem] theorem h6k : h6.keep = (fun id => match id with | 9 => some 0 | _ => none) := rfl
@[go_sem] theorem h6t : h6.tail = (fun id => match id with | 6 => some 8 | _ => none) := rfl
@[go_sem] theorem h6v : h6.vars = [] := rfl
@[go_sem] theorem h6m : h6.mutc = false := rfl
@[go_sem] def h7a : Nat → Option (List Nat) := (fun id => match id with | 0 => some [] | 1 => some [1, 2] | 2 => some [0] | _ => none)
abbrev h7 : Hint := HQ h7a
@[go_sem] def h8a : Nat → Option (List Nat) := (fun id => match id with | 0 => some [0] | 1 => some [0, 7] | 2 => some [2, 3] | 3 => some [0, 4] | 4 => some [4] | 5 => some [2, 3] | _ => none)
abbrev h8 : Hint := HQ h8a
@[go_sem] def h9a : Nat → Option (List Nat) := (fun id => match id with | 0 => some [0, 1] | 1 => some [0, 1, 10] | 2 => some [4] | 3 => some [0, 1, 12, 13] | 4 => some [0, 1, 12, 13, 14] | 5 => some [0, 1, 5, 12, 13] | 6 => some [0, 1, 12, 13, 40] | 7 => some [4] | 8 => some [0, 1, 12, 13] | 9 => some [4] | _ => none)
def h9 : Hint := ⟨h9a, (fun _ => none), (fun id => match id with | 6 => some 25 | _ => none), [], false, (fun _ => none), fun _ => 0, 0, false⟩
@[go_sem] theorem h9x : h9.mix = (fun _ => none) := rfl
@[go_sem] theorem h9l : h9.live = h9a := rfl
@[go_sem] theorem h9o : h9.mode = fun _ => 0 := rfl
@[go_sem] theorem h9k : h9.keep = (fun _ => none) := rfl
@[go_sem] theorem h9t : h9.tail = (fun id => match id with | 6 => some 25 | _ => none) := rfl
@[go_sem] theorem h9v : h9.vars = [] := rfl
@[go_sem] theorem h9m : h9.mutc = false := rfl
@[go_sem] def h10a : Nat → Option (List Nat) := (fun id => match id with | 0 => some [0, 1] | 1 => some [0, 1, 10] | 2 => some [4] | 3 => some [0, 1, 12, 13] | 4 => some [0, 1, 12, 13, 14] | 5 => some [0, 1, 5, 12, 13] | 6 => some [0, 1, 12, 13, 40] | 7 => some [4] | 8 => some [0, 1, 12, 13] | 9 => some [4] | _ => none)
def h10 : Hint := ⟨h10a, (fun _ => none), (fun id => match id with | 6 => some 25 | _ => none), [], false, (fun _ => none), fun _ => 0, 0, false⟩
@[go_sem] theorem h10x : h10.mix = (fun _ => none) := rfl
@[go_sem] theorem h10l : h10.live = h10a := rfl
@[go_sem] theorem h10o : h10.mode = fun _ => 0 := rfl
@[go_sem] theorem h10k : h10.keep = (fun _ => none) := rfl
@[go_sem] theorem h10t : h10.tail = (fun id => match id with | 6 => some 25 | _ => none) := rfl
@[go_sem] theorem h10v : h10.vars = [] := rfl
@[go_sem] theorem h10m : h10.mutc = false := rfl
@[go_sem] def h11a : Nat → Option (List Nat) := (fun id => match id with | 0 => some [0, 1] | 1 => some [0, 1, 10] | 2 => some [4] | 3 => some [0, 1, 12, 13] | 4 => some [0, 1, 12, 13, 14] | 5 => some [0, 1, 5, 12, 13] | 6 => some [0, 1, 12, 13, 53] | 7 => some [4] | 8 => some [0, 1, 12, 13] | 9 => some [4] | _ => none)
def h11 : Hint := ⟨h11a, (fun _ => none), (fun id => match id with | 6 => some 38 | _ => none), [], false, (fun _ => none), fun _ => 0, 0, false⟩
@[go_sem] theorem h11x : h11.mix = (fun _ => none) := rfl
@[go_sem] theorem h11l : h11.live = h11a := rfl
@[go_sem] theorem h11o : h11.mode = fun _ => 0 := rfl
@[go_sem] theorem h11k : h11.keep = (fun _ => none) := rfl
@[go_sem] theorem h11t : h11.tail = (fun id => match id with | 6 => some 38 | _ => none) := rfl
@[go_sem] theorem h11v : h11.vars = [] := rfl
@[go_sem] theorem h11m : h11.mutc = false := rfl
@[go_sem] def h12a : Nat → Option (List Nat) := (fun id => match id with | 0 => some [0] | 1 => some [0, 7] | 2 => some [2, 3] | 3 => some [0, 4] | 4 => some [4] | 5 => some [2, 3] | _ => none)
abbrev h12 : Hint := HQ h12a
@[go_sem] def h13a : Nat → Option (List Nat) := (fun id => match id with | 0 => some [0, 1] | 1 => some [1, 8, 9, 10] | 2 => some [1, 8, 9, 10, 11] | 3 => some [1, 6, 8, 9, 10] | 4 => some [1, 6, 8, 9, 10, 21] | 5 => some [4] | 6 => some [1, 6, 7, 8, 9, 10] | 7 => some [1, 6, 7, 8, 9, 10, 23] | 8 => some [1, 6, 7, 8, 9, 10, 23, 24] | 9 => some [1, 6, 7, 8, 9, 10, 23, 24] | 10 => some [1, 6, 7, 8, 9, 10, 40] | 11 => some [1, 6, 7, 8, 9, 10] | 12 => some [1, 6, 7, 8, 9, 10, 23, 24] | 13 => some [1, 8, 9, 10, 70] | 14 => some [4] | 15 => some [1, 8, 9, 10] | 16 => some [4] | _ => none)
def h13 : Hint := ⟨h13a, (fun id => match id with | 15 => some 0 | _ => none), (fun _ => none), [], false, (fun _ => none), fun _ => 0, 0, false⟩
@[go_sem] theorem h13x : h13.mix = (fun _ => none) := rfl
@[go_sem] theorem h13l : h13.live = h13a := rfl
@[go_sem] theorem h13o : h13.mode = fun _ => 0 := rfl
@[go_sem] theorem h13k : h13.keep = (fun id => match id with | 15 => some 0 | _ => none) := rfl
@[go_sem] theorem h13t : h13.tail = (fun _ => none) := rfl
@[go_sem] theorem h13v : h13.vars = [] := rfl
@[go_sem] theorem h13m : h13.mutc = false := rfl
@[go_sem] def h14a : Nat → Option (List Nat) := (fun id => match id with | 0 => some [0, 1, 4] | 1 => some [0, 4, 11, 12, 13] | 2 => some [0, 4, 11, 12, 13, 14] | 3 => some [0, 4, 6, 11, 12, 13] | 4 => some [0, 4, 6, 11, 12, 13, 19] | 5 => some [0, 4, 6, 11, 12, 13] | 6 => some [0, 4, 6, 11, 12, 13] | 7 => some [0, 4, 11, 12, 13] | 8 => some [0, 4, 11, 12, 13] | 9 => some [0, 4, 6, 11, 12, 13] | 10 => some [0, 4, 6, 11, 12, 13] | 11 => some [0, 4, 6, 11, 12, 13] | 12 => some [0, 4, 11, 12, 13] | 13 => some [0, 4, 11, 12, 13] | 14 => some [0, 4, 11, 12, 13] | _ => none)
def h14 : Hint := ⟨h14a, (fun id => match id with | 14 => some 0 | _ => none), (fun _ => none), [], false, (fun _ => none), fun _ => 0, 0, false⟩
@[go_sem] theorem h14x : h14.mix = (fun _ => none) := rfl
@[go_sem] theorem h14l : h14.live = h14a := rfl
@[go_sem] theorem h14o : h14.mode = fun _ => 0 := rfl
@[go_sem] theorem h14k : h14.keep = (fun id => match id with | 14 => some 0 | _ => none) := rfl
@[go_sem] theorem h14t : h14.tail = (fun _ => none) := rfl
@[go_sem] theorem h14v : h14.vars = [] := rfl
@[go_sem] theorem h14m : h14.mutc = false := rfl
@[go_sem] def h15a : Nat → Option (List Nat) := (fun id => match id with | 0 => some [0] | 1 => some [0, 8] | 2 => some [2, 3] | 3 => some [2, 3] | _ => none)
def h15 : Hint := ⟨h15a, (fun _ => none), (fun id => match id with | 2 => some 4 | _ => none), [], false, (fun id => match id with | 2 => some ⟨[0, 1, 2, 3], [], .alt (.one 0 (.alt (.one 1 (.alt (.one 2 (.alt (.one 3 (.one 4 (.one 5 (.fin)))) (.one 4 (.head 3 (.one 5 (.fin)))))) (.one 4 (.head 2 (.head 3 (.one 5 (.fin))))))) (.one 4 (.head 1 (.head 2 (.head 3 (.one 5 (.fin)))))))) (.one 4 (.head 0 (.head 1 (.head 2 (.head 3 (.one 5 (.fin)))))))⟩ | _ => none), fun _ => 0, 0, false⟩
@[go_sem] theorem h15x : h15.mix = (fun id => match id with | 2 => some ⟨[0, 1, 2, 3], [], .alt (.one 0 (.alt (.one 1 (.alt (.one 2 (.alt (.one 3 (.one 4 (.one 5 (.fin)))) (.one 4 (.head 3 (.one 5 (.fin)))))) (.one 4 (.head 2 (.head 3 (.one 5 (.fin))))))) (.one 4 (.head 1 (.head 2 (.head 3 (.one 5 (.fin)))))))) (.one 4 (.head 0 (.head 1 (.head 2 (.head 3 (.one 5 (.fin)))))))⟩ | _ => none) := rfl
@[go_sem] theorem h15l : h15.live = h15a := rfl
@[go_sem] theorem h15o : h15.mode = fun _ => 0 := rfl
@[go_sem] theorem h15k : h15.keep = (fun _ => none) := rfl
@[go_sem] theorem h15t : h15.tail = (fun id => match id with | 2 => some 4 | _ => none) := rfl
@[go_sem] theorem h15v : h15.vars = [] := rfl
@[go_sem] theorem h15m : h15.mutc = false := rfl
@[go_sem] def h16a : Nat → Option (List Nat) := (fun id => match id with | 0 => some [0] | 1 => some [5, 6, 7] | 2 => some [5, 6, 7, 8] | 3 => some [4, 5, 6, 7] | 4 => some [5, 6, 7, 20] | 5 => some [2] | 6 => some [5, 6, 7] | 7 => some [2] | _ => none)
def h16 : Hint := ⟨h16a, (fun id => match id with | 6 => some 0 | _ => none), (fun _ => none), [], false, (fun _ => none), fun _ => 0, 0, false⟩
@[go_sem] theorem h16x : h16.mix = (fun _ => none) := rfl
@[go_sem] theorem h16l : h16.live = h16a := rfl
@[go_sem] theorem h16o : h16.mode = fun _ => 0 := rfl
@[go_sem] theorem h16k : h16.keep = (fun id => match id with | 6 => some 0 | _ => none) := rfl
@[go_sem] theorem h16t : h16.tail = (fun _ => none) := rfl
@[go_sem] theorem h16v : h16.vars = [] := rfl
@[go_sem] theorem h16m : h16.mutc = false := rfl
@[go_sem] def h17a : Nat → Option (List Nat) := (fun id => match id with | 0 => some [0, 1, 4] | 1 => some [0, 4, 13, 14, 15] | 2 => some [0, 4, 13, 14, 15, 16] | 3 => some [0, 4, 6, 13, 14, 15] | 4 => some [0, 4, 6, 7, 8, 13, 14, 15] | 5 => some [0, 4, 6, 7, 8, 13, 14, 15, 29] | 6 => some [0, 4, 6, 7, 8, 13, 14, 15, 29] | 7 => some [0, 4, 6, 13, 14, 15] | 8 => some [0, 4, 6, 13, 14, 15] | 9 => some [0, 4, 6, 13, 14, 15] | 10 => some [0, 4, 13, 14, 15, 44] | 11 => some [0, 4, 13, 14, 15, 44] | 12 => some [0, 4, 13, 14, 15] | 13 => some [0, 4, 13, 14, 15] | _ => none)
def h17 : Hint := ⟨h17a, (fun id => match id with | 13 => some 0 | _ => none), (fun _ => none), [], false, (fun _ => none), fun _ => 0, 0, false⟩
@[go_sem] theorem h17x : h17.mix = (fun _ => none) := rfl
@[go_sem] theorem h17l : h17.live = h17a := rfl
@[go_sem] theorem h17o : h17.mode = fun _ => 0 := rfl
@[go_sem] theorem h17k : h17.keep = (fun id => match id with | 13 => some 0 | _ => none) := rfl
@[go_sem] theorem h17t : h17.tail = (fun _ => none) := rfl
@[go_sem] theorem h17v : h17.vars = [] := rfl
@[go_sem] theorem h17m : h17.mutc = false := rfl
@[go_sem] def h18a : Nat → Option (List Nat) := (fun id => match id with | 0 => some [0] | 1 => some [0, 7] | 2 => some [2] | 3 => some [9, 10, 11] | 4 => some [9, 10, 11, 12] | 5 => some [4, 9, 10, 11] | 6 => some [9, 10, 11, 17] | 7 => some [2] | 8 => some [9, 10, 11] | 9 => some [2] | _ => none)
def h18 : Hint := ⟨h18a, (fun id => match id with | 8 => some 0 | _ => none), (fun _ => none), [], false, (fun _ => none), fun _ => 0, 0, false⟩
@[go_sem] theorem h18x : h18.mix = (fun _ => none) := rfl
@[go_sem] theorem h18l : h18.live = h18a := rfl
@[go_sem] theorem h18o : h18.mode = fun _ => 0 := rfl
@[go_sem] theorem h18k : h18.keep = (fun id => match id with | 8 => some 0 | _ => none) := rfl
@[go_sem] theorem h18t : h18.tail = (fun _ => none) := rfl
@[go_sem] theorem h18v : h18.vars = [] := rfl
@[go_sem] theorem h18m : h18.mutc = false := rfl
@[go_sem] def h19a : Nat → Option (List Nat) := (fun id => match id with | 0 => some [0, 1] | 1 => some [0, 1] | 2 => some [1] | 3 => some [4, 5] | _ => none)
abbrev h19 : Hint := HQ h19a
@[go_sem] def h20a : Nat → Option (List Nat) := (fun id => match id with | 0 => some [0, 4, 5] | 1 => some [0, 4, 5, 15] | 2 => some [0, 4, 5, 15] | 3 => some [] | _ => none)
abbrev h20 : Hint := HQ h20a
@[go_sem] def h22a : Nat → Option (List Nat) := (fun id => match id with | 0 => some [0] | 1 => some [2] | _ => none)
abbrev h22 : Hint := HQ h22a
@[go_sem] def h23a : Nat → Option (List Nat) := (fun id => match id with | 0 => some [0] | 1 => some [2, 3] | _ => none)
abbrev h23 : Hint := HQ h23a
@[go_sem] def h24a : Nat → Option (List Nat) := (fun id => match id with | 0 => some [0] | 1 => some [2] | _ => none)
abbrev h24 : Hint := HQ h24a
@[go_sem] def h25a : Nat → Option (List Nat) := (fun id => match id with | 0 => some [0] | 1 => some [0, 3] | 2 => some [3, 4] | 3 => some [3, 4, 13] | 4 => some [3, 4, 5] | 5 => some [3, 4, 5, 24] | 6 => some [3, 4, 5, 29] | 7 => some [3, 4, 5, 29] | 8 => some [3, 4] | 9 => some [3, 4, 5, 6] | 10 => some [3, 4, 6] | 11 => some [3, 4, 6] | 12 => some [3, 4, 6, 7] | 13 => some [3, 4, 6, 7, 73] | 14 => some [3, 4] | 15 => some [2] | _ => none)
def h25 : Hint := ⟨h25a, (fun id => match id with | 3 => some 1 | _ => none), (fun _ => none), [3, 4], false, (fun _ => none), (fun d => match d with | some 10 => 1 | some 80 => 1 | _ => 0), 0, false⟩
@[go_sem] theorem h25x : h25.mix = (fun _ => none) := rfl
@[go_sem] theorem h25l : h25.live = h25a := rfl
@[go_sem] theorem h25o : h25.mode = (fun d => match d with | some 10 => 1 | some 80 => 1 | _ => 0) := rfl
@[go_sem] theorem h25k : h25.keep = (fun id => match id with | 3 => some 1 | _ => none) := rfl
@[go_sem] theorem h25t : h25.tail = (fun _ => none) := rfl
@[go_sem] theorem h25v : h25.vars = [3, 4] := rfl
@[go_sem] theorem h25m : h25.mutc = false := rfl
@[go_sem] def h26a : Nat → Option (List Nat) := (fun id => match id with | 0 => some [1] | 1 => some [1, 3] | 2 => some [1, 3] | 3 => some [1, 3, 4] | 4 => some [1, 3, 4, 8] | 5 => some [1, 3, 4, 8, 9] | 6 => some [1, 3, 4, 8, 9] | 7 => some [1, 3, 4, 8, 9] | 8 => some [1, 3, 4, 8, 9] | 9 => some [1, 3, 4, 8, 9] | 10 => some [1, 3, 4, 8, 22] | 11 => some [3, 4] | 12 => some [1, 3, 4, 8, 9] | 13 => some [1, 3, 4, 8, 43] | 14 => some [1, 3, 4, 8, 43] | 15 => some [1, 3, 4, 8, 9] | 16 => some [1, 3, 4, 8, 50] | 17 => some [1, 3, 4, 8, 9] | 18 => some [1, 3, 4, 8, 56] | 19 => some [3, 4] | 20 => some [1, 3, 4, 8, 9] | 21 => some [1, 3, 4, 8, 74] | 22 => some [1, 3, 4, 8, 74] | 23 => some [3, 4] | 24 => some [1, 3, 4, 8, 9] | 25 => some [3, 4, 8, 82] | 26 => some [3, 4, 8, 82] | 27 => some [3, 4, 8, 82] | 28 => some [3, 4, 8, 82] | 29 => some [3, 4, 8, 82] | 30 => some [3, 4, 8, 82] | 31 => some [3, 4, 8, 82] | 32 => some [3, 4, 8, 82] | 33 => some [3, 4, 8, 91] | 34 => some [3, 4, 8, 91] | 35 => some [3, 4, 8, 91] | 36 => some [3, 4, 8, 91] | 37 => some [3, 4, 8, 91] | 38 => some [3, 4, 8, 91] | 39 => some [2] | _ => none)
abbrev h26 : Hint := HQ h26a
@[go_sem] def h28a : Nat → Option (List Nat) := (fun id => match id with | 0 => some [0] | 1 => some [0, 6] | 2 => some [2, 3] | 3 => some [2, 3] | _ => none)
abbrev h28 : Hint := HQ h28a
@[go_sem] def h29a : Nat → Option (List Nat) := (fun id => match id with | 0 => some [0] | 1 => some [0, 7] | 2 => some [0, 3, 4] | 3 => some [0, 4, 36] | 4 => some [2] | 5 => some [0] | 6 => some [2] | _ => none)
abbrev h29 : Hint := HQ h29a
@[go_sem] def h30a : Nat → Option (List Nat) := (fun id => match id with | 0 => some [0, 1] | 1 => some [4] | _ => none)
abbrev h30 : Hint := HQ h30a
@[go_sem] def h31a : Nat → Option (List Nat) := (fun id => match id with | 0 => some [1] | 1 => some [1, 8] | 2 => some [2, 3] | 3 => some [1, 10] | 4 => some [1, 10, 11] | 5 => some [2, 3] | 6 => some [1, 10, 16] | 7 => some [2, 3] | 8 => some [1, 10, 22] | 9 => some [2, 3] | 10 => some [1, 10, 28] | 11 => some [1, 31] | 12 => some [2, 3] | 13 => some [2, 3] | 14 => some [1, 10, 40] | 15 => some [2, 3] | 16 => some [1, 10, 47] | 17 => some [2, 3] | 18 => some [1, 10, 54] | 19 => some [1, 58] | 20 => some [2, 3] | 21 => some [2, 3] | 22 => some [1, 10, 61] | 23 => some [1, 10, 61] | 24 => some [1, 10, 61] | 25 => some [1, 4] | 26 => some [1, 4, 74] | 27 => some [1, 4, 74, 75] | 28 => some [1, 4, 74, 75] | 29 => some [1, 4, 79] | 30 => some [1, 4, 74, 75] | 31 => some [2, 3] | 32 => some [2, 3] | _ => none)
abbrev h31 : Hint := HQ h31a
@[go_sem] def h32a : Nat → Option (List Nat) := (fun id => match id with | 0 => some [0, 1] | 1 => some [1, 7, 8, 9] | 2 => some [1, 7, 8, 9, 10] | 3 => some [1, 6, 7, 8, 9] | 4 => some [1, 6, 7, 8, 9, 22] | 5 => some [4] | 6 => some [1, 6, 7, 8, 9, 27] | 7 => some [1, 7, 8, 9, 31] | 8 => some [4] | 9 => some [1, 7, 8, 9, 41] | 10 => some [4] | 11 => some [1, 7, 8, 9] | 12 => some [4] | _ => none)
def h32 : Hint := ⟨h32a, (fun id => match id with | 11 => some 0 | _ => none), (fun _ => none), [], false, (fun _ => none), fun _ => 0, 0, false⟩
@[go_sem] theorem h32x : h32.mix = (fun _ => none) := rfl
@[go_sem] theorem h32l : h32.live = h32a := rfl
@[go_sem] theorem h32o : h32.mode = fun _ => 0 := rfl
@[go_sem] theorem h32k : h32.keep = (fun id => match id with | 11 => some 0 | _ => none) := rfl
@[go_sem] theorem h32t : h32.tail = (fun _ => none) := rfl
@[go_sem] theorem h32v : h32.vars = [] := rfl
@[go_sem] theorem h32m : h32.mutc = false := rfl
@[go_sem] def h33a : Nat → Option (List Nat) := (fun id => match id with | 0 => some [0] | 1 => some [3] | 2 => some [3, 4] | 3 => some [3, 6] | 4 => some [3, 8] | 5 => some [10] | 6 => some [2] | 7 => some [2] | 8 => some [2] | 9 => some [2] | _ => none)
abbrev h33 : Hint := HQ h33a
@[go_sem] def h34a : Nat → Option (List Nat) := (fun id => match id with | 0 => some [0] | 1 => some [2] | _ => none)
abbrev h34 : Hint := HQ h34a
@[go_sem] def h35a : Nat → Option (List Nat) := (fun id => match id with | 0 => some [0] | 1 => some [0, 14] | 2 => some [2] | 3 => some [2] | _ => none)
abbrev h35 : Hint := HQ h35a
@[go_sem] def h36a : Nat → Option (List Nat) := (fun id => match id with | 0 => some [0] | 1 => some [0, 6] | 2 => some [2] | 3 => some [0, 3] | 4 => some [2] | _ => none)
abbrev h36 : Hint := HQ h36a
@[go_sem] def h37a : Nat → Option (List Nat) := (fun id => match id with | 0 => some [1] | 1 => some [4] | 2 => some [2] | _ => none)
abbrev h37 : Hint := HQ h37a
@[go_sem] def h39a : Nat → Option (List Nat) := (fun id => match id with | 0 => some [0] | 1 => some [0, 4] | 2 => some [0, 4, 9, 10, 11] | 3 => some [0, 4, 9, 10, 11, 12] | 4 => some [0, 4, 5, 6, 9, 10, 11] | 5 => some [0, 4, 5, 6, 7, 8, 9, 10, 11] | 6 => some [0, 4, 5, 6, 7, 8, 9, 10, 11, 22] | 7 => some [2, 3] | 8 => some [0, 4, 7, 9, 10, 11, 34] | 9 => some [0, 4, 7, 9, 10, 11, 34] | 10 => some [0, 4, 9, 10, 11] | 11 => some [0, 4, 9, 10, 11] | 12 => some [2, 3] | _ => none)
def h39 : Hint := ⟨h39a, (fun _ => none), (fun id => match id with | 8 => some 11 | _ => none), [], false, (fun _ => none), fun _ => 0, 0, false⟩
@[go_sem] theorem h39x : h39.mix = (fun _ => none) := rfl
@[go_sem] theorem h39l : h39.live = h39a := rfl
@[go_sem] theorem h39o : h39.mode = fun _ => 0 := rfl
@[go_sem] theorem h39k : h39.keep = (fun _ => none) := rfl
@[go_sem] theorem h39t : h39.tail = (fun id => match id with | 8 => some 11 | _ => none) := rfl
@[go_sem] theorem h39v : h39.vars = [] := rfl
@[go_sem] theorem h39m : h39.mutc = false := rfl
@[go_sem] def h40a : Nat → Option (List Nat) := (fun id => match id with | 0 => some [0] | 1 => some [0, 4] | 2 => some [0, 4, 5, 6] | 3 => some [0, 4, 5, 6] | 4 => some [2, 3] | 5 => some [0, 4, 5, 6, 13] | 6 => some [2, 3] | 7 => some [0, 4, 5, 6, 18] | 8 => some [0, 5, 6, 7, 8] | 9 => some [0, 4, 5, 6, 28] | 10 => some [0, 4, 5, 6, 7, 8] | 11 => some [0, 5, 6, 7, 8, 38] | 12 => some [0, 5, 6, 7, 8, 38, 39] | 13 => some [0, 5, 6, 7, 8, 38, 39] | 14 => some [0, 5, 6, 7, 8, 41] | 15 => some [0, 5, 6, 7, 8, 38, 39] | 16 => some [0, 4, 5, 6, 43] | 17 => some [0, 4, 5, 6, 7, 8] | 18 => some [0, 5, 6, 7, 8, 53] | 19 => some [0, 5, 6, 7, 8, 53, 54] | 20 => some [0, 5, 6, 7, 8, 53, 54] | 21 => some [0, 5, 6, 7, 8, 56] | 22 => some [0, 5, 6, 7, 8, 53, 54] | 23 => some [0, 5, 6, 7, 8, 58, 59] | 24 => some [0, 5, 6, 7, 8, 58, 59, 60] | 25 => some [0, 5, 6, 7, 8, 9, 58, 59] | 26 => some [0, 7, 8, 9, 58, 59, 84] | 27 => some [2, 3] | 28 => some [0, 7, 8, 58, 59] | 29 => some [0, 5, 6, 7, 8, 58, 59] | 30 => some [0, 5, 6, 7, 8, 58, 59] | 31 => some [2, 3] | _ => none)
abbrev h40 : Hint := HQ h40a
@[go_sem] def h41a : Nat → Option (List Nat) := (fun id => match id with | 0 => some [0, 1] | 1 => some [4] | _ => none)
abbrev h41 : Hint := HQ h41a
@[go_sem] def h42a : Nat → Option (List Nat) := (fun id => match id with | 0 => some [0] | 1 => some [0, 5] | 2 => some [2] | 3 => some [0, 3] | 4 => some [0, 3, 7] | 5 => some [0, 3, 7] | 6 => some [0, 3, 18] | 7 => some [2] | 8 => some [2] | _ => none)
def h42 : Hint := ⟨h42a, (fun _ => none), (fun id => match id with | 7 => some 15 | _ => none), [], false, (fun _ => none), fun _ => 0, 0, false⟩
@[go_sem] theorem h42x : h42.mix = (fun _ => none) := rfl
@[go_sem] theorem h42l : h42.live = h42a := rfl
@[go_sem] theorem h42o : h42.mode = fun _ => 0 := rfl
@[go_sem] theorem h42k : h42.keep = (fun _ => none) := rfl
@[go_sem] theorem h42t : h42.tail = (fun id => match id with | 7 => some 15 | _ => none) := rfl
@[go_sem] theorem h42v : h42.vars = [] := rfl
@[go_sem] theorem h42m : h42.mutc = false := rfl
@[go_sem] def h43a : Nat → Option (List Nat) := (fun id => match id with | 0 => some [0] | 1 => some [0, 3] | 2 => some [3, 7] | 3 => some [3, 7, 8, 9] | 4 => some [3, 5, 7] | 5 => some [3, 5, 7] | 6 => some [3, 7] | 7 => some [3, 5, 7, 14] | 8 => some [3, 7] | 9 => some [3, 5, 7, 20] | 10 => some [3, 7] | 11 => some [2] | _ => none)
abbrev h43 : Hint := HQ h43a
@[go_sem] def h44a : Nat → Option (List Nat) := (fun id => match id with | 0 => some [0, 1, 2] | 1 => some [0, 1, 2, 7] | 2 => some [1, 2, 7, 11] | 3 => some [1, 2, 7, 11, 12, 13] | 4 => some [1, 2, 7, 9, 11] | 5 => some [1, 2, 7, 9, 11, 15] | 6 => some [1, 2, 7, 11] | 7 => some [1, 2, 7, 9, 11, 28] | 8 => some [1, 2, 7, 9, 11, 28] | 9 => some [1, 2, 7, 11] | 10 => some [6] | _ => none)
abbrev h44 : Hint := HQ h44a
@[go_sem] def h45a : Nat → Option (List Nat) := (fun id => match id with | 0 => some [1, 2] | 1 => some [1, 2, 15] | 2 => some [4, 5] | 3 => some [1, 2, 27] | 4 => some [4, 5] | 5 => some [1, 2, 35] | 6 => some [4, 5] | 7 => some [1, 2, 6, 7, 8] | 8 => some [1, 2, 6, 7, 48] | 9 => some [4, 5] | 10 => some [1, 2, 6, 7, 9] | 11 => some [1, 2, 6, 7, 9, 10] | 12 => some [1, 2, 9, 10, 65, 66] | 13 => some [1, 2, 9, 10, 65, 66, 67] | 14 => some [1, 2, 9, 10, 12, 65, 66] | 15 => some [1, 2, 9, 10, 12, 65, 66, 70, 71] | 16 => some [1, 2, 9, 10, 12, 65, 66, 70, 71, 72] | 17 => some [1, 2, 9, 10, 12, 65, 66, 70, 71, 74] | 18 => some [4, 5] | 19 => some [1, 2, 9, 10, 12, 65, 66, 70, 71] | 20 => some [1, 2, 9, 10, 12, 65, 66, 70, 71] | 21 => some [1, 2, 9, 10, 65, 66] | 22 => some [1, 2, 9, 13] | 23 => some [1, 2, 9, 13, 86] | 24 => some [4, 5] | 25 => some [1, 2, 9, 13, 90] | 26 => some [1, 2, 9, 13, 90] | 27 => some [2, 9, 13, 100] | 28 => some [2, 9, 13, 14] | 29 => some [2, 9, 13] | 30 => some [2, 13, 114] | 31 => some [2, 9, 13, 100] | 32 => some [13, 119] | 33 => some [13, 119] | 34 => some [4, 5] | _ => none)
def h45 : Hint := ⟨h45a, (fun _ => none), (fun id => match id with | 29 => some 8 | _ => none), [], false, (fun _ => none), fun _ => 0, 0, false⟩
@[go_sem] theorem h45x : h45.mix = (fun _ => none) := rfl
@[go_sem] theorem h45l : h45.live = h45a := rfl
@[go_sem] theorem h45o : h45.mode = fun _ => 0 := rfl
@[go_sem] theorem h45k : h45.keep = (fun _ => none) := rfl
@[go_sem] theorem h45t : h45.tail = (fun id => match id with | 29 => some 8 | _ => none) := rfl
@[go_sem] theorem h45v : h45.vars = [] := rfl
@[go_sem] theorem h45m : h45.mutc = false := rfl
@[go_sem] def h46a : Nat → Option (List Nat) := (fun id => match id with | 0 => some [0] | 1 => some [0, 11] | 2 => some [0, 3] | 3 => some [0, 22] | 4 => some [2] | 5 => some [2] | _ => none)
def h46 : Hint := ⟨h46a, (fun _ => none), (fun id => match id with | 4 => some 8 | _ => none), [], false, (fun _ => none), fun _ => 0, 0, false⟩
@[go_sem] theorem h46x : h46.mix = (fun _ => none) := rfl
@[go_sem] theorem h46l : h46.live = h46a := rfl
@[go_sem] theorem h46o : h46.mode = fun _ => 0 := rfl
@[go_sem] theorem h46k : h46.keep = (fun _ => none) := rfl
@[go_sem] theorem h46t : h46.tail = (fun id => match id with | 4 => some 8 | _ => none) := rfl
@[go_sem] theorem h46v : h46.vars = [] := rfl
@[go_sem] theorem h46m : h46.mutc = false := rfl
@[go_sem] def h47a : Nat → Option (List Nat) := (fun id => match id with | 0 => some [0] | 1 => some [0, 6] | 2 => some [0, 6, 7] | 3 => some [2] | 4 => some [0, 6, 9] | 5 => some [2] | 6 => some [0, 6, 11] | 7 => some [2] | 8 => some [0, 13] | 9 => some [2] | 10 => some [0, 3] | 11 => some [0, 16, 17] | 12 => some [0, 16, 17, 18] | 13 => some [0, 4, 5, 16, 17] | 14 => some [0, 4, 16, 17, 23] | 15 => some [2] | 16 => some [0, 16, 17] | 17 => some [2] | _ => none)
abbrev h47 : Hint := HQ h47a
@[go_sem] def h48a : Nat → Option (List Nat) := (fun id => match id with | 0 => some [0] | 1 => some [2] | _ => none)
abbrev h48 : Hint := HQ h48a
@[go_sem] def h49a : Nat → Option (List Nat) := (fun id => match id with | 0 => some [2, 3] | 1 => some [3, 6] | 2 => some [3, 6, 7] | 3 => some [4] | 4 => some [3, 6, 12] | 5 => some [3, 6, 12] | 6 => some [3, 6, 12] | 7 => some [3, 6, 12] | 8 => some [3, 6, 12] | 9 => some [3, 6, 12] | 10 => some [20] | 11 => some [20, 21] | 12 => some [20, 21] | 13 => some [20, 21] | 14 => some [20, 21] | 15 => some [20, 21] | 16 => some [20, 21] | 17 => some [20, 21] | 18 => some [20, 21] | 19 => some [20, 21] | 20 => some [20, 21] | 21 => some [4] | 22 => some [4] | _ => none)
abbrev h49 : Hint := HQ h49a
@[go_sem] def h51a : Nat → Option (List Nat) := (fun id => match id with | 0 => some [0, 1] | 1 => some [4] | _ => none)
abbrev h51 : Hint := HQ h51a
@[go_sem] def h52a : Nat → Option (List Nat) := (fun id => match id with | 0 => some [0] | 1 => some [0, 3] | 2 => some [0, 3, 7] | 3 => some [0, 3] | 4 => some [0, 3] | 5 => some [3, 4] | 6 => some [3, 4] | 7 => some [3, 4, 5] | 8 => some [3, 4, 5, 21] | 9 => some [3, 4, 5] | 10 => some [3, 4, 5] | 11 => some [4] | 12 => some [2] | _ => none)
def h52 : Hint := ⟨h52a, (fun _ => none), (fun _ => none), [3], false, (fun _ => none), fun _ => 0, 0, false⟩
@[go_sem] theorem h52x : h52.mix = (fun _ => none) := rfl
@[go_sem] theorem h52l : h52.live = h52a := rfl
@[go_sem] theorem h52o : h52.mode = fun _ => 0 := rfl
@[go_sem] theorem h52k : h52.keep = (fun _ => none) := rfl
@[go_sem] theorem h52t : h52.tail = (fun _ => none) := rfl
@[go_sem] theorem h52v : h52.vars = [3] := rfl
@[go_sem] theorem h52m : h52.mutc = false := rfl
@[go_sem] def h53a : Nat → Option (List Nat) := (fun id => match id with | 0 => some [0] | 1 => some [2] | _ => none)
abbrev h53 : Hint := HQ h53a
@[go_sem] def h54a : Nat → Option (List Nat) := (fun id => match id with | 0 => some [0] | 1 => some [2] | _ => none)
abbrev h54 : Hint := HQ h54a
@[go_sem] def h56a : Nat → Option (List Nat) := (fun id => match id with | 0 => some [0, 1] | 1 => some [0, 1] | 2 => some [] | 3 => some [4] | _ => none)
abbrev h56 : Hint := HQ h56a
@[go_sem] def h57a : Nat → Option (List Nat) := (fun id => match id with | 0 => some [1] | 1 => some [2] | _ => none)
abbrev h57 : Hint := HQ h57a
@[go_sem] def h59a : Nat → Option (List Nat) := (fun id => match id with | 0 => some [0] | 1 => some [0, 5] | 2 => some [0, 5] | 3 => some [0, 5, 6] | 4 => some [0, 5, 6, 14] | 5 => some [0, 5, 6] | 6 => some [0, 5, 6] | 7 => some [2, 3, 4] | _ => none)
abbrev h59 : Hint := HQ h59a
@[go_sem] def h60a : Nat → Option (List Nat) := (fun id => match id with | 0 => some [0] | 1 => some [0, 4] | 2 => some [2] | 3 => some [2] | _ => none)
abbrev h60 : Hint := HQ h60a
@[go_sem] def h61a : Nat → Option (List Nat) := (fun id => match id with | 0 => some [0] | 1 => some [0, 3] | 2 => some [0, 3, 4] | 3 => some [0, 3, 4] | 4 => some [0, 3, 4] | 5 => some [0, 3, 4] | 6 => some [0, 3, 4, 16] | 7 => some [2] | _ => none)
abbrev h61 : Hint := HQ h61a
@[go_sem] def h62a : Nat → Option (List Nat) := (fun id => match id with | 0 => some [0, 1] | 1 => some [0, 1, 12] | 2 => some [4] | 3 => some [0, 1, 21] | 4 => some [4] | 5 => some [0, 1, 5, 6] | 6 => some [0, 1, 5, 31] | 7 => some [4] | 8 => some [4] | _ => none)
abbrev h62 : Hint := HQ h62a
@[go_sem] def h63a : Nat → Option (List Nat) := (fun id => match id with | 0 => some [0, 1] | 1 => some [4] | _ => none)
abbrev h63 : Hint := HQ h63a
@[go_sem] def h68a : Nat → Option (List Nat) := (fun id => match id with | 0 => some [0, 1] | 1 => some [4] | _ => none)
abbrev h68 : Hint := HQ h68a
@[go_sem] def h69a : Nat → Option (List Nat) := (fun id => match id with | 0 => some [0, 1] | 1 => some [0, 1, 7] | 2 => some [4] | 3 => some [4] | _ => none)
def h69 : Hint := ⟨h69a, (fun _ => none), (fun _ => none), [0], false, (fun _ => none), fun _ => 0, 0, false⟩
@[go_sem] theorem h69x : h69.mix = (fun _ => none) := rfl
@[go_sem] theorem h69l : h69.live = h69a := rfl
@[go_sem] theorem h69o : h69.mode = fun _ => 0 := rfl
@[go_sem] theorem h69k : h69.keep = (fun _ => none) := rfl
@[go_sem] theorem h69t : h69.tail = (fun _ => none) := rfl
@[go_sem] theorem h69v : h69.vars = [0] := rfl
@[go_sem] theorem h69m : h69.mutc = false := rfl
@[go_sem] def h70a : Nat → Option (List Nat) := (fun id => match id with | 0 => some [1] | 1 => some [2] | _ => none)
def h70 : Hint := ⟨h70a, (fun _ => none), (fun id => match id with | 1 => some 18 | _ => none), [], false, (fun _ => none), fun _ => 0, 0, false⟩
@[go_sem] theorem h70x : h70.mix = (fun _ => none) := rfl
@[go_sem] theorem h70l : h70.live = h70a := rfl
@[go_sem] theorem h70o : h70.mode = fun _ => 0 := rfl
@[go_sem] theorem h70k : h70.keep = (fun _ => none) := rfl
@[go_sem] theorem h70t : h70.tail = (fun id => match id with | 1 => some 18 | _ => none) := rfl
@[go_sem] theorem h70v : h70.vars = [] := rfl
@[go_sem] theorem h70m : h70.mutc = false := rfl
@[go_sem] def h75a : Nat → Option (List Nat) := (fun id => match id with | 0 => some [0, 1] | 1 => some [0, 1, 16] | 2 => some [0, 1] | 3 => some [4] | _ => none)
abbrev h75 : Hint := HQ h75a
@[go_sem] def h79a : Nat → Option (List Nat) := (fun id => match id with | 0 => some [0, 1] | 1 => some [0, 1, 7] | 2 => some [4] | 3 => some [4] | _ => none)
abbrev h79 : Hint := HQ h79a
@[go_sem] def h82a : Nat → Option (List Nat) := (fun id => match id with | 0 => some [0, 1] | 1 => some [0, 1, 5] | 2 => some [4] | 3 => some [0, 1, 5, 11] | 4 => some [4] | 5 => some [0, 1, 5, 25] | 6 => some [0, 1, 5, 25] | 7 => some [4] | 8 => some [0, 1, 50] | 9 => some [4] | _ => none)
def h82 : Hint := ⟨h82a, (fun _ => none), (fun _ => none), [0], false, (fun _ => none), fun _ => 0, 0, false⟩
@[go_sem] theorem h82x : h82.mix = (fun _ => none) := rfl
@[go_sem] theorem h82l : h82.live = h82a := rfl
@[go_sem] theorem h82o : h82.mode = fun _ => 0 := rfl
@[go_sem] theorem h82k : h82.keep = (fun _ => none) := rfl
@[go_sem] theorem h82t : h82.tail = (fun _ => none) := rfl
@[go_sem] theorem h82v : h82.vars = [0] := rfl
@[go_sem] theorem h82m : h82.mutc = false := rfl
@[go_sem] def h83a : Nat → Option (List Nat) := (fun id => match id with | 0 => some [0, 1] | 1 => some [0, 1, 6] | 2 => some [0, 1] | 3 => some [4] | _ => none)
abbrev h83 : Hint := HQ h83a
def hints (f : Nat) : Hint := match f with
 | 3 => h3
 | 4 => h4
 | 5 => h5
 | 6 => h6
 | 7 => h7
 | 8 => h8
 | 9 => h9
 | 10 => h10
 | 11 => h11
 | 12 => h12
 | 13 => h13
 | 14 => h14
 | 15 => h15
 | 16 => h16
 | 17 => h17
 | 18 => h18
 | 19 => h19
 | 20 => h20
 | 22 => h22
 | 23 => h23
 | 24 => h24
 | 25 => h25
 | 26 => h26
 | 28 => h28
 | 29 => h29
 | 30 => h30
 | 31 => h31
 | 32 => h32
 | 33 => h33
 | 34 => h34
 | 35 => h35
 | 36 => h36
 | 37 => h37
 | 39 => h39
 | 40 => h40
 | 41 => h41
 | 42 => h42
 | 43 => h43
 | 44 => h44
 | 45 => h45
 | 46 => h46
 | 47 => h47
 | 48 => h48
 | 49 => h49
 | 51 => h51
 | 52 => h52
 | 53 => h53
 | 54 => h54
 | 56 => h56
 | 57 => h57
 | 59 => h59
 | 60 => h60
 | 61 => h61
 | 62 => h62
 | 63 => h63
 | 68 => h68
 | 69 => h69
 | 70 => h70
 | 75 => h75
 | 79 => h79
 | 82 => h82
 | 83 => h83
 | _ => ⟨fun _ => none, fun _ => none, fun _ => none, [], false, fun _ => none, fun _ => 0, 0, false⟩
variable [MX]
noncomputable def E : CallF := ev Tryd.prog hints primz
noncomputable def b3 : Code := bodyOf Tryd.f3
theorem c3 : codeOk Tryd.prog h3 20 b3 = true := by kernel_rfl
theorem e3 {lo : Nat} {args : List V} {h : Heap} (ha : args.length ≤ 20) (hb : args.all bare = true) :
  E lo 3 args h = fin Tryd.prog [.tmp 4] h.length (evCode ⟨Tryd.prog, E, lo, h.length, h3⟩ loopW b3 (args0 args, h)) :=
 ev_body rfl Tryd.func3 rfl Tryd.ntmps3 (by kernel_rfl) rfl c3 rfl rfl rfl ha hb
noncomputable def b4 : Code := bodyOf Tryd.f4
theorem c4 : codeOk Tryd.prog h4 57 b4 = true := by kernel_rfl
theorem e4 {lo : Nat} {args : List V} {h : Heap} (ha : args.length ≤ 57) (hb : args.all bare = true) :
  E lo 4 args h = fin Tryd.prog [.tmp 4] h.length (evCode ⟨Tryd.prog, E, lo, h.length, h4⟩ loopW b4 (args0 args, h)) :=
 ev_body rfl Tryd.func4 rfl Tryd.ntmps4 (by kernel_rfl) rfl c4 rfl rfl rfl ha hb
noncomputable def b5 : Code := bodyOf Tryd.f5
noncomputable def l5x0 : Code := loopAt b5 0
noncomputable def l5x1 : Code := loopAt b5 1
theorem c5 : codeOk Tryd.prog h5 102 b5 = true := by kernel_rfl
theorem e5 {lo : Nat} {args : List V} {h : Heap} (ha : args.length ≤ 102) (hb : args.all bare = true) :
  E lo 5 args h = fin Tryd.prog [.tmp 4] h.length (evCode ⟨Tryd.prog, E, lo, h.length, h5⟩ loopW b5 (args0 args, h)) :=
 ev_body rfl Tryd.func5 rfl Tryd.ntmps5 (by kernel_rfl) rfl c5 rfl rfl rfl ha hb
noncomputable def b6 : Code := bodyOf Tryd.f6
noncomputable def l6x0 : Code := loopAt b6 0
theorem c6 : codeOk Tryd.prog h6 63 b6 = true := by kernel_rfl
theorem e6 {lo : Nat} {args : List V} {h : Heap} (ha : args.length ≤ 63) (hb : args.all bare = true) :
  E lo 6 args h = fin Tryd.prog [.tmp 4] h.length (evCode ⟨Tryd.prog, E, lo, h.length, h6⟩ loopW b6 (args0 args, h)) :=
 ev_body rfl Tryd.func6 rfl Tryd.ntmps6 (by kernel_rfl) rfl c6 rfl rfl rfl ha hb
noncomputable def b7 : Code := bodyOf Tryd.f7
theorem c7 : codeOk Tryd.prog h7 18 b7 = true := by kernel_rfl
theorem e7 {lo : Nat} {args : List V} {h : Heap} (ha : args.length ≤ 18) (hb : args.all bare = true) :
  E lo 7 args h = fin Tryd.prog [.tmp 0] h.length (evCode ⟨Tryd.prog, E, lo, h.length, h7⟩ loopW b7 (args0 args, h)) :=
 ev_body rfl Tryd.func7 rfl Tryd.ntmps7 (by kernel_rfl) rfl c7 rfl rfl rfl ha hb
noncomputable def b8 : Code := bodyOf Tryd.f8
theorem c8 : codeOk Tryd.prog h8 17 b8 = true := by kernel_rfl
theorem e8 {lo : Nat} {args : List V} {h : Heap} (ha : args.length ≤ 17) (hb : args.all bare = true) :
  E lo 8 args h = fin Tryd.prog [.tmp 2, .tmp 3] h.length (evCode ⟨Tryd.prog, E, lo, h.length, h8⟩ loopW b8 (args0 args, h)) :=
 ev_body rfl Tryd.func8 rfl Tryd.ntmps8 (by kernel_rfl) rfl c8 rfl rfl rfl ha hb
noncomputable def b9 : Code := bodyOf Tryd.f9
noncomputable def l9x0 : Code := loopAt b9 0
theorem c9 : codeOk Tryd.prog h9 42 b9 = true := by kernel_rfl
theorem e9 {lo : Nat} {args : List V} {h : Heap} (ha : args.length ≤ 42) (hb : args.all bare = true) :
  E lo 9 args h = fin Tryd.prog [.tmp 4] h.length (evCode ⟨Tryd.prog, E, lo, h.length, h9⟩ loopW b9 (args0 args, h)) :=
 ev_body rfl Tryd.func9 rfl Tryd.ntmps9 (by kernel_rfl) rfl c9 rfl rfl rfl ha hb
noncomputable def b10 : Code := bodyOf Tryd.f10
noncomputable def l10x0 : Code := loopAt b10 0
theorem c10 : codeOk Tryd.prog h10 42 b10 = true := by kernel_rfl
theorem e10 {lo : Nat} {args : List V} {h : Heap} (ha : args.length ≤ 42) (hb : args.all bare = true) :
  E lo 10 args h = fin Tryd.prog [.tmp 4] h.length (evCode ⟨Tryd.prog, E, lo, h.length, h10⟩ loopW b10 (args0 args, h)) :=
 ev_body rfl Tryd.func10 rfl Tryd.ntmps10 (by kernel_rfl) rfl c10 rfl rfl rfl ha hb
noncomputable def b11 : Code := bodyOf Tryd.f11
noncomputable def l11x0 : Code := loopAt b11 0
theorem c11 : codeOk Tryd.prog h11 55 b11 = true := by kernel_rfl
theorem e11 {lo : Nat} {args : List V} {h : Heap} (ha : args.length ≤ 55) (hb : args.all bare = true) :
  E lo 11 args h = fin Tryd.prog [.tmp 4] h.length (evCode ⟨Tryd.prog, E, lo, h.length, h11⟩ loopW b11 (args0 args, h)) :=
 ev_body rfl Tryd.func11 rfl Tryd.ntmps11 (by kernel_rfl) rfl c11 rfl rfl rfl ha hb
noncomputable def b12 : Code := bodyOf Tryd.f12
theorem c12 : codeOk Tryd.prog h12 17 b12 = true := by kernel_rfl
theorem e12 {lo : Nat} {args : List V} {h : Heap} (ha : args.length ≤ 17) (hb : args.all bare = true) :
  E lo 12 args h = fin Tryd.prog [.tmp 2, .tmp 3] h.length (evCode ⟨Tryd.prog, E, lo, h.length, h12⟩ loopW b12 (args0 args, h)) :=
 ev_body rfl Tryd.func12 rfl Tryd.ntmps12 (by kernel_rfl) rfl c12 rfl rfl rfl ha hb
noncomputable def b13 : Code := bodyOf Tryd.f13
noncomputable def l13x0 : Code := loopAt b13 0
theorem c13 : codeOk Tryd.prog h13 72 b13 = true := by kernel_rfl
theorem e13 {lo : Nat} {args : List V} {h : Heap} (ha : args.length ≤ 72) (hb : args.all bare = true) :
  E lo 13 args h = fin Tryd.prog [.tmp 4] h.length (evCode ⟨Tryd.prog, E, lo, h.length, h13⟩ loopW b13 (args0 args, h)) :=
 ev_body rfl Tryd.func13 rfl Tryd.ntmps13 (by kernel_rfl) rfl c13 rfl rfl rfl ha hb
noncomputable def b14 : Code := bodyOf Tryd.f14
noncomputable def l14x0 : Code := loopAt b14 0
theorem c14 : codeOk Tryd.prog h14 51 b14 = true := by kernel_rfl
/- a method -/
theorem e14 {lo : Nat} {args : List V} {h : Heap} (ha : args.length ≤ 51) (hb : args.all bare = true) :
  E lo 14 args h = fin Tryd.prog [] h.length (evCode ⟨Tryd.prog, E, lo, h.length, h14⟩ loopW b14 (args0 args, h)) :=
 ev_body rfl Tryd.func14 rfl Tryd.ntmps14 (by kernel_rfl) rfl c14 rfl rfl rfl ha hb
noncomputable def b15 : Code := bodyOf Tryd.f15
theorem c15 : codeOk Tryd.prog h15 17 b15 = true := by kernel_rfl
/- a method -/
theorem e15 {lo : Nat} {args : List V} {h : Heap} (ha : args.length ≤ 17) (hb : args.all bare = true) :
  E lo 15 args h = fin Tryd.prog [.tmp 2, .tmp 3] h.length (evCode ⟨Tryd.prog, E, lo, h.length, h15⟩ loopW b15 (args0 args, h)) :=
 ev_body rfl Tryd.func15 rfl Tryd.ntmps15 (by kernel_rfl) rfl c15 rfl rfl rfl ha hb
noncomputable def b16 : Code := bodyOf Tryd.f16
noncomputable def l16x0 : Code := loopAt b16 0
theorem c16 : codeOk Tryd.prog h16 22 b16 = true := by kernel_rfl
theorem e16 {lo : Nat} {args : List V} {h : Heap} (ha : args.length ≤ 22) (hb : args.all bare = true) :
  E lo 16 args h = fin Tryd.prog [.tmp 2] h.length (evCode ⟨Tryd.prog, E, lo, h.length, h16⟩ loopW b16 (args0 args, h)) :=
 ev_body rfl Tryd.func16 rfl Tryd.ntmps16 (by kernel_rfl) rfl c16 rfl rfl rfl ha hb
noncomputable def b17 : Code := bodyOf Tryd.f17
noncomputable def l17x0 : Code := loopAt b17 0
theorem c17 : codeOk Tryd.prog h17 50 b17 = true := by kernel_rfl
/- a method -/
theorem e17 {lo : Nat} {args : List V} {h : Heap} (ha : args.length ≤ 50) (hb : args.all bare = true) :
  E lo 17 args h = fin Tryd.prog [] h.length (evCode ⟨Tryd.prog, E, lo, h.length, h17⟩ loopW b17 (args0 args, h)) :=
 ev_body rfl Tryd.func17 rfl Tryd.ntmps17 (by kernel_rfl) rfl c17 rfl rfl rfl ha hb
noncomputable def b18 : Code := bodyOf Tryd.f18
noncomputable def l18x0 : Code := loopAt b18 0
theorem c18 : codeOk Tryd.prog h18 19 b18 = true := by kernel_rfl
theorem e18 {lo : Nat} {args : List V} {h : Heap} (ha : args.length ≤ 19) (hb : args.all bare = true) :
  E lo 18 args h = fin Tryd.prog [.tmp 2] h.length (evCode ⟨Tryd.prog, E, lo, h.length, h18⟩ loopW b18 (args0 args, h)) :=
 ev_body rfl Tryd.func18 rfl Tryd.ntmps18 (by kernel_rfl) rfl c18 rfl rfl rfl ha hb
noncomputable def b19 : Code := bodyOf Tryd.f19
theorem c19 : codeOk Tryd.prog h19 19 b19 = true := by kernel_rfl
/- a method -/
theorem e19 {lo : Nat} {args : List V} {h : Heap} (ha : args.length ≤ 19) (hb : args.all bare = true) :
  E lo 19 args h = fin Tryd.prog [.tmp 4, .tmp 5] h.length (evCode ⟨Tryd.prog, E, lo, h.length, h19⟩ loopW b19 (args0 args, h)) :=
 ev_body rfl Tryd.func19 rfl Tryd.ntmps19 (by kernel_rfl) rfl c19 rfl rfl rfl ha hb
noncomputable def b20 : Code := bodyOf Tryd.f20
theorem c20 : codeOk Tryd.prog h20 25 b20 = true := by kernel_rfl
/- a method -/
theorem e20 {lo : Nat} {args : List V} {h : Heap} (ha : args.length ≤ 25) (hb : args.all bare = true) :
  E lo 20 args h = fin Tryd.prog [] h.length (evCode ⟨Tryd.prog, E, lo, h.length, h20⟩ loopW b20 (args0 args, h)) :=
 ev_body rfl Tryd.func20 rfl Tryd.ntmps20 (by kernel_rfl) rfl c20 rfl rfl rfl ha hb
noncomputable def b22 : Code := bodyOf Tryd.f22
theorem c22 : codeOk Tryd.prog h22 15 b22 = true := by kernel_rfl
theorem e22 {lo : Nat} {args : List V} {h : Heap} (ha : args.length ≤ 15) (hb : args.all bare = true) :
  E lo 22 args h = fin Tryd.prog [.tmp 2] h.length (evCode ⟨Tryd.prog, E, lo, h.length, h22⟩ loopW b22 (args0 args, h)) :=
 ev_body rfl Tryd.func22 rfl Tryd.ntmps22 (by kernel_rfl) rfl c22 rfl rfl rfl ha hb
noncomputable def b23 : Code := bodyOf Tryd.f23
theorem c23 : codeOk Tryd.prog h23 9 b23 = true := by kernel_rfl
theorem e23 {lo : Nat} {args : List V} {h : Heap} (ha : args.length ≤ 9) (hb : args.all bare = true) :
  E lo 23 args h = fin Tryd.prog [.tmp 2, .tmp 3] h.length (evCode ⟨Tryd.prog, E, lo, h.length, h23⟩ loopW b23 (args0 args, h)) :=
 ev_body rfl Tryd.func23 rfl Tryd.ntmps23 (by kernel_rfl) rfl c23 rfl rfl rfl ha hb
noncomputable def b24 : Code := bodyOf Tryd.f24
theorem c24 : codeOk Tryd.prog h24 5 b24 = true := by kernel_rfl
theorem e24 {lo : Nat} {args : List V} {h : Heap} (ha : args.length ≤ 5) (hb : args.all bare = true) :
  E lo 24 args h = fin Tryd.prog [.tmp 2] h.length (evCode ⟨Tryd.prog, E, lo, h.length, h24⟩ loopW b24 (args0 args, h)) :=
 ev_body rfl Tryd.func24 rfl Tryd.ntmps24 (by kernel_rfl) rfl c24 rfl rfl rfl ha hb
noncomputable def b25 : Code := bodyOf Tryd.f25
noncomputable def l25x0 : Code := loopAt b25 0
theorem c25 : codeOk Tryd.prog h25 82 b25 = true := by kernel_rfl
theorem e25 {lo : Nat} {args : List V} {h : Heap} (ha : args.length ≤ 82) (hb : args.all bare = true) :
  E lo 25 args h = fin Tryd.prog [.tmp 2] h.length (evCode ⟨Tryd.prog, E, lo, h.length, h25⟩ loopW b25 (args0 args, h)) :=
 ev_body rfl Tryd.func25 rfl Tryd.ntmps25 (by kernel_rfl) rfl c25 rfl rfl rfl ha hb
noncomputable def b26 : Code := bodyOf Tryd.f26
theorem c26 : codeOk Tryd.prog h26 104 b26 = true := by kernel_rfl
theorem e26 {lo : Nat} {args : List V} {h : Heap} (ha : args.length ≤ 104) (hb : args.all bare = true) :
  E lo 26 args h = fin Tryd.prog [.tmp 2] h.length (evCode ⟨Tryd.prog, E, lo, h.length, h26⟩ loopW b26 (args0 args, h)) :=
 ev_body rfl Tryd.func26 rfl Tryd.ntmps26 (by kernel_rfl) rfl c26 rfl rfl rfl ha hb
noncomputable def b28 : Code := bodyOf Tryd.f28
theorem c28 : codeOk Tryd.prog h28 12 b28 = true := by kernel_rfl
theorem e28 {lo : Nat} {args : List V} {h : Heap} (ha : args.length ≤ 12) (hb : args.all bare = true) :
  E lo 28 args h = fin Tryd.prog [.tmp 2, .tmp 3] h.length (evCode ⟨Tryd.prog, E, lo, h.length, h28⟩ loopW b28 (args0 args, h)) :=
 ev_body rfl Tryd.func28 rfl Tryd.ntmps28 (by kernel_rfl) rfl c28 rfl rfl rfl ha hb
noncomputable def b29 : Code := bodyOf Tryd.f29
noncomputable def l29x0 : Code := loopAt b29 0
theorem c29 : codeOk Tryd.prog h29 40 b29 = true := by kernel_rfl
theorem e29 {lo : Nat} {args : List V} {h : Heap} (ha : args.length ≤ 40) (hb : args.all bare = true) :
  E lo 29 args h = fin Tryd.prog [.tmp 2] h.length (evCode ⟨Tryd.prog, E, lo, h.length, h29⟩ loopW b29 (args0 args, h)) :=
 ev_body rfl Tryd.func29 rfl Tryd.ntmps29 (by kernel_rfl) rfl c29 rfl rfl rfl ha hb
noncomputable def b30 : Code := bodyOf Tryd.f30
theorem c30 : codeOk Tryd.prog h30 9 b30 = true := by kernel_rfl
theorem e30 {lo : Nat} {args : List V} {h : Heap} (ha : args.length ≤ 9) (hb : args.all bare = true) :
  E lo 30 args h = fin Tryd.prog [.tmp 4] h.length (evCode ⟨Tryd.prog, E, lo, h.length, h30⟩ loopW b30 (args0 args, h)) :=
 ev_body rfl Tryd.func30 rfl Tryd.ntmps30 (by kernel_rfl) rfl c30 rfl rfl rfl ha hb
noncomputable def b31 : Code := bodyOf Tryd.f31
theorem c31 : codeOk Tryd.prog h31 90 b31 = true := by kernel_rfl
theorem e31 {lo : Nat} {args : List V} {h : Heap} (ha : args.length ≤ 90) (hb : args.all bare = true) :
  E lo 31 args h = fin Tryd.prog [.tmp 2, .tmp 3] h.length (evCode ⟨Tryd.prog, E, lo, h.length, h31⟩ loopW b31 (args0 args, h)) :=
 ev_body rfl Tryd.func31 rfl Tryd.ntmps31 (by kernel_rfl) rfl c31 rfl rfl rfl ha hb
noncomputable def b32 : Code := bodyOf Tryd.f32
noncomputable def l32x0 : Code := loopAt b32 0
theorem c32 : codeOk Tryd.prog h32 43 b32 = true := by kernel_rfl
theorem e32 {lo : Nat} {args : List V} {h : Heap} (ha : args.length ≤ 43) (hb : args.all bare = true) :
  E lo 32 args h = fin Tryd.prog [.tmp 4] h.length (evCode ⟨Tryd.prog, E, lo, h.length, h32⟩ loopW b32 (args0 args, h)) :=
 ev_body rfl Tryd.func32 rfl Tryd.ntmps32 (by kernel_rfl) rfl c32 rfl rfl rfl ha hb
noncomputable def b33 : Code := bodyOf Tryd.f33
theorem c33 : codeOk Tryd.prog h33 12 b33 = true := by kernel_rfl
theorem e33 {lo : Nat} {args : List V} {h : Heap} (ha : args.length ≤ 12) (hb : args.all bare = true) :
  E lo 33 args h = fin Tryd.prog [.tmp 2] h.length (evCode ⟨Tryd.prog, E, lo, h.length, h33⟩ loopW b33 (args0 args, h)) :=
 ev_body rfl Tryd.func33 rfl Tryd.ntmps33 (by kernel_rfl) rfl c33 rfl rfl rfl ha hb
noncomputable def b34 : Code := bodyOf Tryd.f34
theorem c34 : codeOk Tryd.prog h34 11 b34 = true := by kernel_rfl
theorem e34 {lo : Nat} {args : List V} {h : Heap} (ha : args.length ≤ 11) (hb : args.all bare = true) :
  E lo 34 args h = fin Tryd.prog [.tmp 2] h.length (evCode ⟨Tryd.prog, E, lo, h.length, h34⟩ loopW b34 (args0 args, h)) :=
 ev_body rfl Tryd.func34 rfl Tryd.ntmps34 (by kernel_rfl) rfl c34 rfl rfl rfl ha hb
noncomputable def b35 : Code := bodyOf Tryd.f35
theorem c35 : codeOk Tryd.prog h35 29 b35 = true := by kernel_rfl
theorem e35 {lo : Nat} {args : List V} {h : Heap} (ha : args.length ≤ 29) (hb : args.all bare = true) :
  E lo 35 args h = fin Tryd.prog [.tmp 2] h.length (evCode ⟨Tryd.prog, E, lo, h.length, h35⟩ loopW b35 (args0 args, h)) :=
 ev_body rfl Tryd.func35 rfl Tryd.ntmps35 (by kernel_rfl) rfl c35 rfl rfl rfl ha hb
noncomputable def b36 : Code := bodyOf Tryd.f36
theorem c36 : codeOk Tryd.prog h36 35 b36 = true := by kernel_rfl
theorem e36 {lo : Nat} {args : List V} {h : Heap} (ha : args.length ≤ 35) (hb : args.all bare = true) :
  E lo 36 args h = fin Tryd.prog [.tmp 2] h.length (evCode ⟨Tryd.prog, E, lo, h.length, h36⟩ loopW b36 (args0 args, h)) :=
 ev_body rfl Tryd.func36 rfl Tryd.ntmps36 (by kernel_rfl) rfl c36 rfl rfl rfl ha hb
noncomputable def b37 : Code := bodyOf Tryd.f37
theorem c37 : codeOk Tryd.prog h37 15 b37 = true := by kernel_rfl
theorem e37 {lo : Nat} {args : List V} {h : Heap} (ha : args.length ≤ 15) (hb : args.all bare = true) :
  E lo 37 args h = fin Tryd.prog [.tmp 2] h.length (evCode ⟨Tryd.prog, E, lo, h.length, h37⟩ loopW b37 (args0 args, h)) :=
 ev_body rfl Tryd.func37 rfl Tryd.ntmps37 (by kernel_rfl) rfl c37 rfl rfl rfl ha hb
noncomputable def b39 : Code := bodyOf Tryd.f39
noncomputable def l39x0 : Code := loopAt b39 0
theorem c39 : codeOk Tryd.prog h39 40 b39 = true := by kernel_rfl
theorem e39 {lo : Nat} {args : List V} {h : Heap} (ha : args.length ≤ 40) (hb : args.all bare = true) :
  E lo 39 args h = fin Tryd.prog [.tmp 2, .tmp 3] h.length (evCode ⟨Tryd.prog, E, lo, h.length, h39⟩ loopW b39 (args0 args, h)) :=
 ev_body rfl Tryd.func39 rfl Tryd.ntmps39 (by kernel_rfl) rfl c39 rfl rfl rfl ha hb
noncomputable def b40 : Code := bodyOf Tryd.f40
noncomputable def l40x0 : Code := loopAt b40 0
theorem c40 : codeOk Tryd.prog h40 101 b40 = true := by kernel_rfl
theorem e40 {lo : Nat} {args : List V} {h : Heap} (ha : args.length ≤ 101) (hb : args.all bare = true) :
  E lo 40 args h = fin Tryd.prog [.tmp 2, .tmp 3] h.length (evCode ⟨Tryd.prog, E, lo, h.length, h40⟩ loopW b40 (args0 args, h)) :=
 ev_body rfl Tryd.func40 rfl Tryd.ntmps40 (by kernel_rfl) rfl c40 rfl rfl rfl ha hb
noncomputable def b41 : Code := bodyOf Tryd.f41
theorem c41 : codeOk Tryd.prog h41 8 b41 = true := by kernel_rfl
theorem e41 {lo : Nat} {args : List V} {h : Heap} (ha : args.length ≤ 8) (hb : args.all bare = true) :
  E lo 41 args h = fin Tryd.prog [.tmp 4] h.length (evCode ⟨Tryd.prog, E, lo, h.length, h41⟩ loopW b41 (args0 args, h)) :=
 ev_body rfl Tryd.func41 rfl Tryd.ntmps41 (by kernel_rfl) rfl c41 rfl rfl rfl ha hb
noncomputable def b42 : Code := bodyOf Tryd.f42
theorem c42 : codeOk Tryd.prog h42 36 b42 = true := by kernel_rfl
theorem e42 {lo : Nat} {args : List V} {h : Heap} (ha : args.length ≤ 36) (hb : args.all bare = true) :
  E lo 42 args h = fin Tryd.prog [.tmp 2] h.length (evCode ⟨Tryd.prog, E, lo, h.length, h42⟩ loopW b42 (args0 args, h)) :=
 ev_body rfl Tryd.func42 rfl Tryd.ntmps42 (by kernel_rfl) rfl c42 rfl rfl rfl ha hb
noncomputable def b43 : Code := bodyOf Tryd.f43
noncomputable def l43x0 : Code := loopAt b43 0
theorem c43 : codeOk Tryd.prog h43 26 b43 = true := by kernel_rfl
theorem e43 {lo : Nat} {args : List V} {h : Heap} (ha : args.length ≤ 26) (hb : args.all bare = true) :
  E lo 43 args h = fin Tryd.prog [.tmp 2] h.length (evCode ⟨Tryd.prog, E, lo, h.length, h43⟩ loopW b43 (args0 args, h)) :=
 ev_body rfl Tryd.func43 rfl Tryd.ntmps43 (by kernel_rfl) rfl c43 rfl rfl rfl ha hb
noncomputable def b44 : Code := bodyOf Tryd.f44
noncomputable def l44x0 : Code := loopAt b44 0
theorem c44 : codeOk Tryd.prog h44 37 b44 = true := by kernel_rfl
theorem e44 {lo : Nat} {args : List V} {h : Heap} (ha : args.length ≤ 37) (hb : args.all bare = true) :
  E lo 44 args h = fin Tryd.prog [.tmp 6] h.length (evCode ⟨Tryd.prog, E, lo, h.length, h44⟩ loopW b44 (args0 args, h)) :=
 ev_body rfl Tryd.func44 rfl Tryd.ntmps44 (by kernel_rfl) rfl c44 rfl rfl rfl ha hb
noncomputable def b45 : Code := bodyOf Tryd.f45
noncomputable def l45x0 : Code := loopAt b45 0
noncomputable def l45x1 : Code := loopAt b45 1
theorem c45 : codeOk Tryd.prog h45 123 b45 = true := by kernel_rfl
theorem e45 {lo : Nat} {args : List V} {h : Heap} (ha : args.length ≤ 123) (hb : args.all bare = true) :
  E lo 45 args h = fin Tryd.prog [.tmp 4, .tmp 5] h.length (evCode ⟨Tryd.prog, E, lo, h.length, h45⟩ loopW b45 (args0 args, h)) :=
 ev_body rfl Tryd.func45 rfl Tryd.ntmps45 (by kernel_rfl) rfl c45 rfl rfl rfl ha hb
noncomputable def b46 : Code := bodyOf Tryd.f46
theorem c46 : codeOk Tryd.prog h46 33 b46 = true := by kernel_rfl
theorem e46 {lo : Nat} {args : List V} {h : Heap} (ha : args.length ≤ 33) (hb : args.all bare = true) :
  E lo 46 args h = fin Tryd.prog [.tmp 2] h.length (evCode ⟨Tryd.prog, E, lo, h.length, h46⟩ loopW b46 (args0 args, h)) :=
 ev_body rfl Tryd.func46 rfl Tryd.ntmps46 (by kernel_rfl) rfl c46 rfl rfl rfl ha hb
noncomputable def b47 : Code := bodyOf Tryd.f47
noncomputable def l47x0 : Code := loopAt b47 0
theorem c47 : codeOk Tryd.prog h47 29 b47 = true := by kernel_rfl
theorem e47 {lo : Nat} {args : List V} {h : Heap} (ha : args.length ≤ 29) (hb : args.all bare = true) :
  E lo 47 args h = fin Tryd.prog [.tmp 2] h.length (evCode ⟨Tryd.prog, E, lo, h.length, h47⟩ loopW b47 (args0 args, h)) :=
 ev_body rfl Tryd.func47 rfl Tryd.ntmps47 (by kernel_rfl) rfl c47 rfl rfl rfl ha hb
noncomputable def b48 : Code := bodyOf Tryd.f48
theorem c48 : codeOk Tryd.prog h48 9 b48 = true := by kernel_rfl
theorem e48 {lo : Nat} {args : List V} {h : Heap} (ha : args.length ≤ 9) (hb : args.all bare = true) :
  E lo 48 args h = fin Tryd.prog [.tmp 2] h.length (evCode ⟨Tryd.prog, E, lo, h.length, h48⟩ loopW b48 (args0 args, h)) :=
 ev_body rfl Tryd.func48 rfl Tryd.ntmps48 (by kernel_rfl) rfl c48 rfl rfl rfl ha hb
noncomputable def b49 : Code := bodyOf Tryd.f49
theorem c49 : codeOk Tryd.prog h49 32 b49 = true := by kernel_rfl
theorem e49 {lo : Nat} {args : List V} {h : Heap} (ha : args.length ≤ 32) (hb : args.all bare = true) :
  E lo 49 args h = fin Tryd.prog [.tmp 4] h.length (evCode ⟨Tryd.prog, E, lo, h.length, h49⟩ loopW b49 (args0 args, h)) :=
 ev_body rfl Tryd.func49 rfl Tryd.ntmps49 (by kernel_rfl) rfl c49 rfl rfl rfl ha hb
noncomputable def b51 : Code := bodyOf Tryd.f51
theorem c51 : codeOk Tryd.prog h51 8 b51 = true := by kernel_rfl
theorem e51 {lo : Nat} {args : List V} {h : Heap} (ha : args.length ≤ 8) (hb : args.all bare = true) :
  E lo 51 args h = fin Tryd.prog [.tmp 4] h.length (evCode ⟨Tryd.prog, E, lo, h.length, h51⟩ loopW b51 (args0 args, h)) :=
 ev_body rfl Tryd.func51 rfl Tryd.ntmps51 (by kernel_rfl) rfl c51 rfl rfl rfl ha hb
noncomputable def b52 : Code := bodyOf Tryd.f52
noncomputable def l52x0 : Code := loopAt b52 0
noncomputable def l52x1 : Code := loopAt b52 1
theorem c52 : codeOk Tryd.prog h52 31 b52 = true := by kernel_rfl
theorem e52 {lo : Nat} {args : List V} {h : Heap} (ha : args.length ≤ 31) (hb : args.all bare = true) :
  E lo 52 args h = fin Tryd.prog [.tmp 2] h.length (evCode ⟨Tryd.prog, E, lo, h.length, h52⟩ loopW b52 (args0 args, h)) :=
 ev_body rfl Tryd.func52 rfl Tryd.ntmps52 (by kernel_rfl) rfl c52 rfl rfl rfl ha hb
noncomputable def b53 : Code := bodyOf Tryd.f53
theorem c53 : codeOk Tryd.prog h53 17 b53 = true := by kernel_rfl
theorem e53 {lo : Nat} {args : List V} {h : Heap} (ha : args.length ≤ 17) (hb : args.all bare = true) :
  E lo 53 args h = fin Tryd.prog [.tmp 2] h.length (evCode ⟨Tryd.prog, E, lo, h.length, h53⟩ loopW b53 (args0 args, h)) :=
 ev_body rfl Tryd.func53 rfl Tryd.ntmps53 (by kernel_rfl) rfl c53 rfl rfl rfl ha hb
noncomputable def b54 : Code := bodyOf Tryd.f54
theorem c54 : codeOk Tryd.prog h54 33 b54 = true := by kernel_rfl
theorem e54 {lo : Nat} {args : List V} {h : Heap} (ha : args.length ≤ 33) (hb : args.all bare = true) :
  E lo 54 args h = fin Tryd.prog [.tmp 2] h.length (evCode ⟨Tryd.prog, E, lo, h.length, h54⟩ loopW b54 (args0 args, h)) :=
 ev_body rfl Tryd.func54 rfl Tryd.ntmps54 (by kernel_rfl) rfl c54 rfl rfl rfl ha hb
noncomputable def b56 : Code := bodyOf Tryd.f56
theorem c56 : codeOk Tryd.prog h56 17 b56 = true := by kernel_rfl
/- a method -/
theorem e56 {lo : Nat} {args : List V} {h : Heap} (ha : args.length ≤ 17) (hb : args.all bare = true) :
  E lo 56 args h = fin Tryd.prog [.tmp 4] h.length (evCode ⟨Tryd.prog, E, lo, h.length, h56⟩ loopW b56 (args0 args, h)) :=
 ev_body rfl Tryd.func56 rfl Tryd.ntmps56 (by kernel_rfl) rfl c56 rfl rfl rfl ha hb
noncomputable def b57 : Code := bodyOf Tryd.f57
theorem c57 : codeOk Tryd.prog h57 10 b57 = true := by kernel_rfl
theorem e57 {lo : Nat} {args : List V} {h : Heap} (ha : args.length ≤ 10) (hb : args.all bare = true) :
  E lo 57 args h = fin Tryd.prog [.tmp 2] h.length (evCode ⟨Tryd.prog, E, lo, h.length, h57⟩ loopW b57 (args0 args, h)) :=
 ev_body rfl Tryd.func57 rfl Tryd.ntmps57 (by kernel_rfl) rfl c57 rfl rfl rfl ha hb
noncomputable def b59 : Code := bodyOf Tryd.f59
noncomputable def l59x0 : Code := loopAt b59 0
theorem c59 : codeOk Tryd.prog h59 23 b59 = true := by kernel_rfl
theorem e59 {lo : Nat} {args : List V} {h : Heap} (ha : args.length ≤ 23) (hb : args.all bare = true) :
  E lo 59 args h = fin Tryd.prog [.tmp 2, .tmp 3, .tmp 4] h.length (evCode ⟨Tryd.prog, E, lo, h.length, h59⟩ loopW b59 (args0 args, h)) :=
 ev_body rfl Tryd.func59 rfl Tryd.ntmps59 (by kernel_rfl) rfl c59 rfl rfl rfl ha hb
noncomputable def b60 : Code := bodyOf Tryd.f60
theorem c60 : codeOk Tryd.prog h60 10 b60 = true := by kernel_rfl
theorem e60 {lo : Nat} {args : List V} {h : Heap} (ha : args.length ≤ 10) (hb : args.all bare = true) :
  E lo 60 args h = fin Tryd.prog [.tmp 2] h.length (evCode ⟨Tryd.prog, E, lo, h.length, h60⟩ loopW b60 (args0 args, h)) :=
 ev_body rfl Tryd.func60 rfl Tryd.ntmps60 (by kernel_rfl) rfl c60 rfl rfl rfl ha hb
noncomputable def b61 : Code := bodyOf Tryd.f61
noncomputable def l61x0 : Code := loopAt b61 0
theorem c61 : codeOk Tryd.prog h61 20 b61 = true := by kernel_rfl
theorem e61 {lo : Nat} {args : List V} {h : Heap} (ha : args.length ≤ 20) (hb : args.all bare = true) :
  E lo 61 args h = fin Tryd.prog [.tmp 2] h.length (evCode ⟨Tryd.prog, E, lo, h.length, h61⟩ loopW b61 (args0 args, h)) :=
 ev_body rfl Tryd.func61 rfl Tryd.ntmps61 (by kernel_rfl) rfl c61 rfl rfl rfl ha hb
noncomputable def b62 : Code := bodyOf Tryd.f62
theorem c62 : codeOk Tryd.prog h62 37 b62 = true := by kernel_rfl
theorem e62 {lo : Nat} {args : List V} {h : Heap} (ha : args.length ≤ 37) (hb : args.all bare = true) :
  E lo 62 args h = fin Tryd.prog [.tmp 4] h.length (evCode ⟨Tryd.prog, E, lo, h.length, h62⟩ loopW b62 (args0 args, h)) :=
 ev_body rfl Tryd.func62 rfl Tryd.ntmps62 (by kernel_rfl) rfl c62 rfl rfl rfl ha hb
noncomputable def b63 : Code := bodyOf Tryd.f63
theorem c63 : codeOk Tryd.prog h63 8 b63 = true := by kernel_rfl
theorem e63 {lo : Nat} {args : List V} {h : Heap} (ha : args.length ≤ 8) (hb : args.all bare = true) :
  E lo 63 args h = fin Tryd.prog [.tmp 4] h.length (evCode ⟨Tryd.prog, E, lo, h.length, h63⟩ loopW b63 (args0 args, h)) :=
 ev_body rfl Tryd.func63 rfl Tryd.ntmps63 (by kernel_rfl) rfl c63 rfl rfl rfl ha hb
noncomputable def b68 : Code := bodyOf Tryd.f68
theorem c68 : codeOk Tryd.prog h68 18 b68 = true := by kernel_rfl
theorem e68 {lo : Nat} {args : List V} {h : Heap} (ha : args.length ≤ 18) (hb : args.all bare = true) :
  E lo 68 args h = fin Tryd.prog [.tmp 4] h.length (evCode ⟨Tryd.prog, E, lo, h.length, h68⟩ loopW b68 (args0 args, h)) :=
 ev_body rfl Tryd.func68 rfl Tryd.ntmps68 (by kernel_rfl) rfl c68 rfl rfl rfl ha hb
noncomputable def b69 : Code := bodyOf Tryd.f69
theorem c69 : codeOk Tryd.prog h69 16 b69 = true := by kernel_rfl
theorem e69 {lo : Nat} {args : List V} {h : Heap} (ha : args.length ≤ 16) (hb : args.all bare = true) :
  E lo 69 args h = fin Tryd.prog [.tmp 4] h.length (evCode ⟨Tryd.prog, E, lo, h.length, h69⟩ loopW b69 (args0 args, h)) :=
 ev_body rfl Tryd.func69 rfl Tryd.ntmps69 (by kernel_rfl) rfl c69 rfl rfl rfl ha hb
noncomputable def b70 : Code := bodyOf Tryd.f70
theorem c70 : codeOk Tryd.prog h70 21 b70 = true := by kernel_rfl
theorem e70 {lo : Nat} {args : List V} {h : Heap} (ha : args.length ≤ 21) (hb : args.all bare = true) :
  E lo 70 args h = fin Tryd.prog [.tmp 2] h.length (evCode ⟨Tryd.prog, E, lo, h.length, h70⟩ loopW b70 (args0 args, h)) :=
 ev_body rfl Tryd.func70 rfl Tryd.ntmps70 (by kernel_rfl) rfl c70 rfl rfl rfl ha hb
noncomputable def b75 : Code := bodyOf Tryd.f75
noncomputable def l75x0 : Code := loopAt b75 0
theorem c75 : codeOk Tryd.prog h75 23 b75 = true := by kernel_rfl
theorem e75 {lo : Nat} {args : List V} {h : Heap} (ha : args.length ≤ 23) (hb : args.all bare = true) :
  E lo 75 args h = fin Tryd.prog [.tmp 4] h.length (evCode ⟨Tryd.prog, E, lo, h.length, h75⟩ loopW b75 (args0 args, h)) :=
 ev_body rfl Tryd.func75 rfl Tryd.ntmps75 (by kernel_rfl) rfl c75 rfl rfl rfl ha hb
noncomputable def b79 : Code := bodyOf Tryd.f79
theorem c79 : codeOk Tryd.prog h79 13 b79 = true := by kernel_rfl
theorem e79 {lo : Nat} {args : List V} {h : Heap} (ha : args.length ≤ 13) (hb : args.all bare = true) :
  E lo 79 args h = fin Tryd.prog [.tmp 4] h.length (evCode ⟨Tryd.prog, E, lo, h.length, h79⟩ loopW b79 (args0 args, h)) :=
 ev_body rfl Tryd.func79 rfl Tryd.ntmps79 (by kernel_rfl) rfl c79 rfl rfl rfl ha hb
noncomputable def b82 : Code := bodyOf Tryd.f82
theorem c82 : codeOk Tryd.prog h82 78 b82 = true := by kernel_rfl
theorem e82 {lo : Nat} {args : List V} {h : Heap} (ha : args.length ≤ 78) (hb : args.all bare = true) :
  E lo 82 args h = fin Tryd.prog [.tmp 4] h.length (evCode ⟨Tryd.prog, E, lo, h.length, h82⟩ loopW b82 (args0 args, h)) :=
 ev_body rfl Tryd.func82 rfl Tryd.ntmps82 (by kernel_rfl) rfl c82 rfl rfl rfl ha hb
noncomputable def b83 : Code := bodyOf Tryd.f83
noncomputable def l83x0 : Code := loopAt b83 0
theorem c83 : codeOk Tryd.prog h83 12 b83 = true := by kernel_rfl
theorem e83 {lo : Nat} {args : List V} {h : Heap} (ha : args.length ≤ 12) (hb : args.all bare = true) :
  E lo 83 args h = fin Tryd.prog [.tmp 4] h.length (evCode ⟨Tryd.prog, E, lo, h.length, h83⟩ loopW b83 (args0 args, h)) :=
 ev_body rfl Tryd.func83 rfl Tryd.ntmps83 (by kernel_rfl) rfl c83 rfl rfl rfl ha hb
end Go.Lift.D7
