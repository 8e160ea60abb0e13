/- Facts of the program that the evaluation asks for: the live slots of each function, its types. Written by a program (gen.py). -/
import Derived.Test.YtehffjejplpaeaaGreatDoorRows
import Derived.Lib.MapLaws
import Derived.Lib.DecodeN
import Derived.Lib.TrailingZeros
import Derived.Lib.ItoaNum
import Derived.Lib.Repeat
import Derived.Lib.Bytealg
import Derived.Lib.Index
import Derived.Test.YtehffjejplpaeaaGreatDoorGKa
set_option linter.unusedVariables false
set_option linter.unusedSimpArgs false
set_option linter.unusedSectionVars false
namespace Go.Lift.P7
open Go.Proofs
set_option maxRecDepth 20000
class MX where
 m : Int
instance gtab [MX] : GTab := ⟨fun n => match n with | 0 => some (Go.Lib.deBruijn64tab.map fun c : Nat => .v (.int .u8 (c : Int))) | 1 => some [.v (.int .i64 MX.m)] | 2 => some (Go.Lib.pow10Tab.map fun c => .v (.int .u64 c)) | 4 => some ((List.range 256).map fun c => .v (.int .u8 (Go.Lib.firstT c))) | 5 => some ((List.range 16).flatMap fun i => [.v (.int .u8 (Go.Lib.accLo i)), .v (.int .u8 (Go.Lib.accHi i))]) | _ => none⟩
noncomputable def idxP (lo : Nat) (args : List V) (h : Heap) : Option (V × Heap) := match args with
 | [.v (.string s), .v (.int .u8 c)] => some (.v (.int .i64 (Go.Lib.indexByte s.data.toList c.toNat.toUInt8)), h)
 | _ => none
noncomputable def ixP (lo : Nat) (args : List V) (h : Heap) : Option (V × Heap) := match args with
 | [.v (.string s), .v (.string t)] => match t.data.toList with
  | [c] => some (.v (.int .i64 (Go.Lib.indexByte s.data.toList c)), h)
  | _ => if s.size < 4294967281 then some (.v (.int .i64 (Go.Lib.index s.data.toList t.data.toList)), h) else none
 | _ => none
noncomputable def ctzP (lo : Nat) (args : List V) (h : Heap) : Option (V × Heap) := match args with
 | [.v (.int .u64 x)] => if 0 ≤ x ∧ x < 18446744073709551616 then some (.v (.int .i64 (Go.Lib.ctz 64 x.toNat)), h) else none
 | _ => none
noncomputable def repP (lo : Nat) (args : List V) (h : Heap) : Option (V × Heap) := match args with
 | [.v (.string s), .v (.int .i64 n)] => if s.size = 1 ∧ 0 ≤ n ∧ n ≤ 1000000 then some (.v (.string ⟨(Go.Lib.repeatL s.data.toList n.toNat).toArray⟩), h) else none
 | _ => none
noncomputable def fmtP (lo : Nat) (args : List V) (h : Heap) : Option (V × Heap) := match args with
 | [.v (.int .u64 x), .v (.int .i64 b)] => if b = 10 ∧ 0 ≤ x ∧ x < 18446744073709551616 then some (.v (.string ⟨(Go.Lib.decDigits x.toNat).toArray⟩), h) else none
 | _ => none
def rowsInts : List (List V) → Option (List Int)
 | [] => some []
 | [.v (.int .u8 n)] :: l => (rowsInts l).map (n :: ·)
 | _ => none
def okP (i : Nat) : V → Bool
 | .v (.pointer none) => true
 | .ptr j 0 => j == i
 | _ => false
noncomputable def ccP (lo : Nat) (args : List V) (h : Heap) : Option (V × Heap) := match args with
 | [.ptr i 0] => match h[i]? with
  | some (.cells (p0 :: x :: r)) => if lo ≤ i ∧ okP i p0 = true ∧ r.length ≤ 1 then some (.tup [], Lift.setOb h i (.ptr i 0 :: x :: r)) else none
  | _ => none
 | _ => none
noncomputable def wrP (lo : Nat) (args : List V) (h : Heap) : Option (V × Heap) := match args with
 | [.ptr i 0, .v (.int .i32 r)] => match h[i]? with
  | some (.cells [p0, .list .yes rows]) => match rowsInts rows with
   | some out => if lo ≤ i ∧ okP i p0 = true ∧ -2147483648 ≤ r ∧ r ≤ 2147483647 ∧ out.length ≤ 1000000000 then
     some (.tup [.v (.int .i64 ((Utf.enc (Utf.scal r)).length : Nat)), .v .nilIface], Lift.setOb h i [.ptr i 0, .list .yes (ri .u8 (out ++ Utf.enc (Utf.scal r)))]) else none
   | none => none
  | _ => none
 | _ => none
noncomputable def stP (lo : Nat) (args : List V) (h : Heap) : Option (V × Heap) := match args with
 | [.ptr i 0] => match h[i]? with
  | some (.cells (p0 :: .list .yes rows :: r)) => match rowsInts rows with
   | some out => if lo ≤ i ∧ (out.all fun c => decide (0 ≤ c) && decide (c ≤ 255)) = true ∧ out.length ≤ 1000000000 then some (.v (.string ⟨(u8s out).toArray⟩), Lift.setOb h i (p0 :: .list .no rows :: r)) else none
   | none => none
  | _ => none
 | _ => none
noncomputable def primz : Nat → Option (Nat → List V → Heap → Option (V × Heap)) := fun n => match n with | 124 => some idxP | 102 => some ctzP | 80 => some repP | 65 => some fmtP | 58 => some ccP | 77 => some wrP | 31 => some stP | 108 => some ixP | _ => none
instance bty : BTy := ⟨[(2, 49), (3, 51)], some 5⟩
@[go_sem] theorem bt_eq : BTy.bt = [(2, 49), (3, 51)] := rfl
@[go_sem] theorem bt_is : (BTy.bt.isEmpty) = false := rfl
@[go_sem] theorem bt_2 : btOf 2 = some 49 := rfl
@[go_sem] theorem bt_3 : btOf 3 = some 51 := rfl
@[go_sem] theorem bt_n (n : Nat) : btOf (n + 4) = none := rfl
@[go_sem] theorem bt_0 : btOf 0 = none := rfl
@[go_sem] theorem bt_1 : btOf 1 = none := rfl
@[go_sem] theorem bt_self : ((49 : TypeId) == 49) = true := rfl
@[go_sem] theorem bt_self3 : ((51 : TypeId) == 51) = true := rfl
@[go_sem] theorem bb_eq : BTy.bb = some 5 := rfl
@[go_sem] theorem bb_self : ((5 : TypeId) == 5) = true := rfl
variable [MX]
attribute [go_sem] Tryz.underlying2
@[go_sem] theorem z2 : tsize Tryz.prog 2 = 1 := by kernel_rfl
@[go_sem] theorem k2 : ttag Tryz.prog 2 = some false := by kernel_rfl
@[go_sem] theorem y2 : Tryz.prog.bytesOf 2 = 8 := by kernel_rfl
@[go_sem] theorem s2 : isStr Tryz.prog 2 = false := by kernel_rfl
@[go_sem] theorem j2 : isI32 Tryz.prog 2 = false := by kernel_rfl
@[go_sem] theorem w2 : isU8 Tryz.prog 2 = false := by kernel_rfl
@[go_sem] theorem o2 : tzero Tryz.prog 2 = some [.int .i64 0] := by kernel_rfl
@[go_sem] theorem i2 : (Tryz.prog.info? 2).isSome = true := by kernel_rfl
attribute [go_sem] Tryz.underlying3
@[go_sem] theorem z3 : tsize Tryz.prog 3 = 1 := by kernel_rfl
@[go_sem] theorem k3 : ttag Tryz.prog 3 = some false := by kernel_rfl
@[go_sem] theorem y3 : Tryz.prog.bytesOf 3 = 8 := by kernel_rfl
@[go_sem] theorem s3 : isStr Tryz.prog 3 = false := by kernel_rfl
@[go_sem] theorem j3 : isI32 Tryz.prog 3 = false := by kernel_rfl
@[go_sem] theorem w3 : isU8 Tryz.prog 3 = false := by kernel_rfl
@[go_sem] theorem o3 : tzero Tryz.prog 3 = some [.int .i64 0] := by kernel_rfl
@[go_sem] theorem i3 : (Tryz.prog.info? 3).isSome = true := by kernel_rfl
attribute [go_sem] Tryz.underlying4
@[go_sem] theorem z4 : tsize Tryz.prog 4 = 1 := by kernel_rfl
@[go_sem] theorem k4 : ttag Tryz.prog 4 = some false := by kernel_rfl
@[go_sem] theorem y4 : Tryz.prog.bytesOf 4 = 1 := by kernel_rfl
@[go_sem] theorem s4 : isStr Tryz.prog 4 = false := by kernel_rfl
@[go_sem] theorem j4 : isI32 Tryz.prog 4 = false := by kernel_rfl
@[go_sem] theorem w4 : isU8 Tryz.prog 4 = false := by kernel_rfl
@[go_sem] theorem o4 : tzero Tryz.prog 4 = some [.bool false] := by kernel_rfl
@[go_sem] theorem i4 : (Tryz.prog.info? 4).isSome = true := by kernel_rfl
attribute [go_sem] Tryz.underlying5
@[go_sem] theorem z5 : tsize Tryz.prog 5 = 1 := by kernel_rfl
@[go_sem] theorem k5 : ttag Tryz.prog 5 = some false := by kernel_rfl
@[go_sem] theorem y5 : Tryz.prog.bytesOf 5 = 1 := by kernel_rfl
@[go_sem] theorem s5 : isStr Tryz.prog 5 = false := by kernel_rfl
@[go_sem] theorem j5 : isI32 Tryz.prog 5 = false := by kernel_rfl
@[go_sem] theorem w5 : isU8 Tryz.prog 5 = true := by kernel_rfl
@[go_sem] theorem o5 : tzero Tryz.prog 5 = some [.int .u8 0] := by kernel_rfl
@[go_sem] theorem i5 : (Tryz.prog.info? 5).isSome = true := by kernel_rfl
attribute [go_sem] Tryz.underlying9
@[go_sem] theorem z9 : tsize Tryz.prog 9 = 1 := by kernel_rfl
@[go_sem] theorem k9 : ttag Tryz.prog 9 = some false := by kernel_rfl
@[go_sem] theorem y9 : Tryz.prog.bytesOf 9 = 16 := by kernel_rfl
@[go_sem] theorem s9 : isStr Tryz.prog 9 = true := by kernel_rfl
@[go_sem] theorem j9 : isI32 Tryz.prog 9 = false := by kernel_rfl
@[go_sem] theorem w9 : isU8 Tryz.prog 9 = false := by kernel_rfl
@[go_sem] theorem o9 : tzero Tryz.prog 9 = some [.string ByteArray.empty] := by kernel_rfl
@[go_sem] theorem i9 : (Tryz.prog.info? 9).isSome = true := by kernel_rfl
attribute [go_sem] Tryz.underlying21
@[go_sem] theorem z21 : tsize Tryz.prog 21 = 1 := by kernel_rfl
@[go_sem] theorem k21 : ttag Tryz.prog 21 = some false := by kernel_rfl
@[go_sem] theorem y21 : Tryz.prog.bytesOf 21 = 4 := by kernel_rfl
@[go_sem] theorem s21 : isStr Tryz.prog 21 = false := by kernel_rfl
@[go_sem] theorem j21 : isI32 Tryz.prog 21 = true := by kernel_rfl
@[go_sem] theorem w21 : isU8 Tryz.prog 21 = false := by kernel_rfl
@[go_sem] theorem o21 : tzero Tryz.prog 21 = some [.int .i32 0] := by kernel_rfl
@[go_sem] theorem i21 : (Tryz.prog.info? 21).isSome = true := by kernel_rfl
attribute [go_sem] Tryz.underlying22
@[go_sem] theorem z22 : tsize Tryz.prog 22 = 1 := by kernel_rfl
@[go_sem] theorem k22 : ttag Tryz.prog 22 = some false := by kernel_rfl
@[go_sem] theorem y22 : Tryz.prog.bytesOf 22 = 24 := by kernel_rfl
@[go_sem] theorem s22 : isStr Tryz.prog 22 = false := by kernel_rfl
@[go_sem] theorem j22 : isI32 Tryz.prog 22 = false := by kernel_rfl
@[go_sem] theorem w22 : isU8 Tryz.prog 22 = false := by kernel_rfl
@[go_sem] theorem o22 : tzero Tryz.prog 22 = some [.slice none 0 0] := by kernel_rfl
@[go_sem] theorem i22 : (Tryz.prog.info? 22).isSome = true := by kernel_rfl
attribute [go_sem] Tryz.underlying23
@[go_sem] theorem z23 : tsize Tryz.prog 23 = 1 := by kernel_rfl
@[go_sem] theorem k23 : ttag Tryz.prog 23 = some false := by kernel_rfl
@[go_sem] theorem y23 : Tryz.prog.bytesOf 23 = 8 := by kernel_rfl
@[go_sem] theorem s23 : isStr Tryz.prog 23 = false := by kernel_rfl
@[go_sem] theorem j23 : isI32 Tryz.prog 23 = false := by kernel_rfl
@[go_sem] theorem w23 : isU8 Tryz.prog 23 = false := by kernel_rfl
@[go_sem] theorem o23 : tzero Tryz.prog 23 = some [.int .i64 0] := by kernel_rfl
@[go_sem] theorem i23 : (Tryz.prog.info? 23).isSome = true := by kernel_rfl
attribute [go_sem] Tryz.underlying28
@[go_sem] theorem z28 : tsize Tryz.prog 28 = 1 := by kernel_rfl
@[go_sem] theorem k28 : ttag Tryz.prog 28 = some false := by kernel_rfl
@[go_sem] theorem y28 : Tryz.prog.bytesOf 28 = 24 := by kernel_rfl
@[go_sem] theorem s28 : isStr Tryz.prog 28 = false := by kernel_rfl
@[go_sem] theorem j28 : isI32 Tryz.prog 28 = false := by kernel_rfl
@[go_sem] theorem w28 : isU8 Tryz.prog 28 = false := by kernel_rfl
@[go_sem] theorem o28 : tzero Tryz.prog 28 = some [.slice none 0 0] := by kernel_rfl
@[go_sem] theorem i28 : (Tryz.prog.info? 28).isSome = true := by kernel_rfl
attribute [go_sem] Tryz.underlying31
@[go_sem] theorem z31 : tsize Tryz.prog 31 = 1 := by kernel_rfl
@[go_sem] theorem k31 : ttag Tryz.prog 31 = some false := by kernel_rfl
@[go_sem] theorem y31 : Tryz.prog.bytesOf 31 = 24 := by kernel_rfl
@[go_sem] theorem s31 : isStr Tryz.prog 31 = false := by kernel_rfl
@[go_sem] theorem j31 : isI32 Tryz.prog 31 = false := by kernel_rfl
@[go_sem] theorem w31 : isU8 Tryz.prog 31 = false := by kernel_rfl
@[go_sem] theorem o31 : tzero Tryz.prog 31 = some [.slice none 0 0] := by kernel_rfl
@[go_sem] theorem i31 : (Tryz.prog.info? 31).isSome = true := by kernel_rfl
attribute [go_sem] Tryz.underlying35
@[go_sem] theorem z35 : tsize Tryz.prog 35 = 1 := by kernel_rfl
@[go_sem] theorem k35 : ttag Tryz.prog 35 = some false := by kernel_rfl
@[go_sem] theorem y35 : Tryz.prog.bytesOf 35 = 24 := by kernel_rfl
@[go_sem] theorem s35 : isStr Tryz.prog 35 = false := by kernel_rfl
@[go_sem] theorem j35 : isI32 Tryz.prog 35 = false := by kernel_rfl
@[go_sem] theorem w35 : isU8 Tryz.prog 35 = false := by kernel_rfl
@[go_sem] theorem o35 : tzero Tryz.prog 35 = some [.slice none 0 0] := by kernel_rfl
@[go_sem] theorem i35 : (Tryz.prog.info? 35).isSome = true := by kernel_rfl
attribute [go_sem] Tryz.underlying38
@[go_sem] theorem z38 : tsize Tryz.prog 38 = 2 := by kernel_rfl
@[go_sem] theorem k38 : ttag Tryz.prog 38 = some true := by kernel_rfl
@[go_sem] theorem y38 : Tryz.prog.bytesOf 38 = 16 := by kernel_rfl
@[go_sem] theorem s38 : isStr Tryz.prog 38 = false := by kernel_rfl
@[go_sem] theorem j38 : isI32 Tryz.prog 38 = false := by kernel_rfl
@[go_sem] theorem w38 : isU8 Tryz.prog 38 = false := by kernel_rfl
@[go_sem] theorem o38 : tzero Tryz.prog 38 = some [.int .i64 0, .int .i64 0] := by kernel_rfl
@[go_sem] theorem i38 : (Tryz.prog.info? 38).isSome = true := by kernel_rfl
@[go_sem] theorem x38 : structOk Tryz.prog 38 = true := by kernel_rfl
@[go_sem] theorem g38x0 : fieldOff Tryz.prog 38 0 = some (0, 2) := by kernel_rfl
@[go_sem] theorem g38x1 : fieldOff Tryz.prog 38 1 = some (1, 2) := by kernel_rfl
attribute [go_sem] Tryz.underlying40
@[go_sem] theorem z40 : tsize Tryz.prog 40 = 6 := by kernel_rfl
@[go_sem] theorem k40 : ttag Tryz.prog 40 = some true := by kernel_rfl
@[go_sem] theorem y40 : Tryz.prog.bytesOf 40 = 48 := by kernel_rfl
@[go_sem] theorem s40 : isStr Tryz.prog 40 = false := by kernel_rfl
@[go_sem] theorem j40 : isI32 Tryz.prog 40 = false := by kernel_rfl
@[go_sem] theorem w40 : isU8 Tryz.prog 40 = false := by kernel_rfl
@[go_sem] theorem o40 : tzero Tryz.prog 40 = some [.int .i64 0, .string ByteArray.empty, .int .i64 0, .int .i64 0, .bool false, .bool false] := by kernel_rfl
@[go_sem] theorem i40 : (Tryz.prog.info? 40).isSome = true := by kernel_rfl
@[go_sem] theorem x40 : structOk Tryz.prog 40 = true := by kernel_rfl
@[go_sem] theorem g40x0 : fieldOff Tryz.prog 40 0 = some (0, 3) := by kernel_rfl
@[go_sem] theorem g40x1 : fieldOff Tryz.prog 40 1 = some (1, 9) := by kernel_rfl
@[go_sem] theorem g40x2 : fieldOff Tryz.prog 40 2 = some (2, 38) := by kernel_rfl
@[go_sem] theorem g40x3 : fieldOff Tryz.prog 40 3 = some (4, 4) := by kernel_rfl
@[go_sem] theorem g40x4 : fieldOff Tryz.prog 40 4 = some (5, 4) := by kernel_rfl
attribute [go_sem] Tryz.underlying42
@[go_sem] theorem z42 : tsize Tryz.prog 42 = 7 := by kernel_rfl
@[go_sem] theorem k42 : ttag Tryz.prog 42 = some true := by kernel_rfl
@[go_sem] theorem y42 : Tryz.prog.bytesOf 42 = 72 := by kernel_rfl
@[go_sem] theorem s42 : isStr Tryz.prog 42 = false := by kernel_rfl
@[go_sem] theorem j42 : isI32 Tryz.prog 42 = false := by kernel_rfl
@[go_sem] theorem w42 : isU8 Tryz.prog 42 = false := by kernel_rfl
@[go_sem] theorem o42 : tzero Tryz.prog 42 = some [.int .i64 0, .string ByteArray.empty, .int .i64 0, .int .i64 0, .bool false, .bool false, .slice none 0 0] := by kernel_rfl
@[go_sem] theorem i42 : (Tryz.prog.info? 42).isSome = true := by kernel_rfl
@[go_sem] theorem x42 : structOk Tryz.prog 42 = true := by kernel_rfl
@[go_sem] theorem g42x0 : fieldOff Tryz.prog 42 0 = some (0, 40) := by kernel_rfl
@[go_sem] theorem g42x1 : fieldOff Tryz.prog 42 1 = some (6, 22) := by kernel_rfl
attribute [go_sem] Tryz.underlying44
@[go_sem] theorem z44 : tsize Tryz.prog 44 = 3 := by kernel_rfl
@[go_sem] theorem k44 : ttag Tryz.prog 44 = some true := by kernel_rfl
@[go_sem] theorem y44 : Tryz.prog.bytesOf 44 = 48 := by kernel_rfl
@[go_sem] theorem s44 : isStr Tryz.prog 44 = false := by kernel_rfl
@[go_sem] theorem j44 : isI32 Tryz.prog 44 = false := by kernel_rfl
@[go_sem] theorem w44 : isU8 Tryz.prog 44 = false := by kernel_rfl
@[go_sem] theorem o44 : tzero Tryz.prog 44 = some [.string ByteArray.empty, .slice none 0 0, .bool false] := by kernel_rfl
@[go_sem] theorem i44 : (Tryz.prog.info? 44).isSome = true := by kernel_rfl
@[go_sem] theorem x44 : structOk Tryz.prog 44 = true := by kernel_rfl
@[go_sem] theorem g44x0 : fieldOff Tryz.prog 44 0 = some (0, 9) := by kernel_rfl
@[go_sem] theorem g44x1 : fieldOff Tryz.prog 44 1 = some (1, 22) := by kernel_rfl
@[go_sem] theorem g44x2 : fieldOff Tryz.prog 44 2 = some (2, 4) := by kernel_rfl
attribute [go_sem] Tryz.underlying45
@[go_sem] theorem z45 : tsize Tryz.prog 45 = 1 := by kernel_rfl
@[go_sem] theorem k45 : ttag Tryz.prog 45 = some false := by kernel_rfl
@[go_sem] theorem y45 : Tryz.prog.bytesOf 45 = 8 := by kernel_rfl
@[go_sem] theorem s45 : isStr Tryz.prog 45 = false := by kernel_rfl
@[go_sem] theorem j45 : isI32 Tryz.prog 45 = false := by kernel_rfl
@[go_sem] theorem w45 : isU8 Tryz.prog 45 = false := by kernel_rfl
@[go_sem] theorem i45 : (Tryz.prog.info? 45).isSome = true := by kernel_rfl
attribute [go_sem] Tryz.underlying46
@[go_sem] theorem z46 : tsize Tryz.prog 46 = 1 := by kernel_rfl
@[go_sem] theorem k46 : ttag Tryz.prog 46 = some false := by kernel_rfl
@[go_sem] theorem y46 : Tryz.prog.bytesOf 46 = 8 := by kernel_rfl
@[go_sem] theorem s46 : isStr Tryz.prog 46 = false := by kernel_rfl
@[go_sem] theorem j46 : isI32 Tryz.prog 46 = false := by kernel_rfl
@[go_sem] theorem w46 : isU8 Tryz.prog 46 = false := by kernel_rfl
@[go_sem] theorem i46 : (Tryz.prog.info? 46).isSome = true := by kernel_rfl
attribute [go_sem] Tryz.underlying47
@[go_sem] theorem z47 : tsize Tryz.prog 47 = 1 := by kernel_rfl
@[go_sem] theorem k47 : ttag Tryz.prog 47 = some false := by kernel_rfl
@[go_sem] theorem y47 : Tryz.prog.bytesOf 47 = 24 := by kernel_rfl
@[go_sem] theorem s47 : isStr Tryz.prog 47 = false := by kernel_rfl
@[go_sem] theorem j47 : isI32 Tryz.prog 47 = false := by kernel_rfl
@[go_sem] theorem w47 : isU8 Tryz.prog 47 = false := by kernel_rfl
@[go_sem] theorem o47 : tzero Tryz.prog 47 = some [.slice none 0 0] := by kernel_rfl
@[go_sem] theorem i47 : (Tryz.prog.info? 47).isSome = true := by kernel_rfl
attribute [go_sem] Tryz.underlying49
@[go_sem] theorem z49 : tsize Tryz.prog 49 = 2 := by kernel_rfl
@[go_sem] theorem k49 : ttag Tryz.prog 49 = some true := by kernel_rfl
@[go_sem] theorem y49 : Tryz.prog.bytesOf 49 = 32 := by kernel_rfl
@[go_sem] theorem s49 : isStr Tryz.prog 49 = false := by kernel_rfl
@[go_sem] theorem j49 : isI32 Tryz.prog 49 = false := by kernel_rfl
@[go_sem] theorem w49 : isU8 Tryz.prog 49 = false := by kernel_rfl
@[go_sem] theorem o49 : tzero Tryz.prog 49 = some [.pointer none, .slice none 0 0] := by kernel_rfl
@[go_sem] theorem i49 : (Tryz.prog.info? 49).isSome = true := by kernel_rfl
@[go_sem] theorem x49 : structOk Tryz.prog 49 = true := by kernel_rfl
@[go_sem] theorem g49x0 : fieldOff Tryz.prog 49 0 = some (0, 46) := by kernel_rfl
@[go_sem] theorem g49x1 : fieldOff Tryz.prog 49 1 = some (1, 47) := by kernel_rfl
attribute [go_sem] Tryz.underlying51
@[go_sem] theorem z51 : tsize Tryz.prog 51 = 3 := by kernel_rfl
@[go_sem] theorem k51 : ttag Tryz.prog 51 = some true := by kernel_rfl
@[go_sem] theorem y51 : Tryz.prog.bytesOf 51 = 40 := by kernel_rfl
@[go_sem] theorem s51 : isStr Tryz.prog 51 = false := by kernel_rfl
@[go_sem] theorem j51 : isI32 Tryz.prog 51 = false := by kernel_rfl
@[go_sem] theorem w51 : isU8 Tryz.prog 51 = false := by kernel_rfl
@[go_sem] theorem o51 : tzero Tryz.prog 51 = some [.pointer none, .slice none 0 0, .int .i64 0] := by kernel_rfl
@[go_sem] theorem i51 : (Tryz.prog.info? 51).isSome = true := by kernel_rfl
@[go_sem] theorem x51 : structOk Tryz.prog 51 = true := by kernel_rfl
@[go_sem] theorem g51x0 : fieldOff Tryz.prog 51 0 = some (0, 49) := by kernel_rfl
@[go_sem] theorem g51x1 : fieldOff Tryz.prog 51 1 = some (2, 23) := by kernel_rfl
attribute [go_sem] Tryz.underlying66
@[go_sem] theorem z66 : tsize Tryz.prog 66 = 2 := by kernel_rfl
@[go_sem] theorem k66 : ttag Tryz.prog 66 = some true := by kernel_rfl
@[go_sem] theorem y66 : Tryz.prog.bytesOf 66 = 32 := by kernel_rfl
@[go_sem] theorem s66 : isStr Tryz.prog 66 = false := by kernel_rfl
@[go_sem] theorem j66 : isI32 Tryz.prog 66 = false := by kernel_rfl
@[go_sem] theorem w66 : isU8 Tryz.prog 66 = false := by kernel_rfl
@[go_sem] theorem o66 : tzero Tryz.prog 66 = some [.slice none 0 0, .int .i64 0] := by kernel_rfl
@[go_sem] theorem i66 : (Tryz.prog.info? 66).isSome = true := by kernel_rfl
@[go_sem] theorem x66 : structOk Tryz.prog 66 = true := by kernel_rfl
@[go_sem] theorem g66x0 : fieldOff Tryz.prog 66 0 = some (0, 22) := by kernel_rfl
@[go_sem] theorem g66x1 : fieldOff Tryz.prog 66 1 = some (1, 3) := by kernel_rfl
attribute [go_sem] Tryz.underlying67
@[go_sem] theorem z67 : tsize Tryz.prog 67 = 1 := by kernel_rfl
@[go_sem] theorem k67 : ttag Tryz.prog 67 = some false := by kernel_rfl
@[go_sem] theorem y67 : Tryz.prog.bytesOf 67 = 24 := by kernel_rfl
@[go_sem] theorem s67 : isStr Tryz.prog 67 = false := by kernel_rfl
@[go_sem] theorem j67 : isI32 Tryz.prog 67 = false := by kernel_rfl
@[go_sem] theorem w67 : isU8 Tryz.prog 67 = false := by kernel_rfl
@[go_sem] theorem o67 : tzero Tryz.prog 67 = some [.slice none 0 0] := by kernel_rfl
@[go_sem] theorem i67 : (Tryz.prog.info? 67).isSome = true := by kernel_rfl
attribute [go_sem] Tryz.underlying76
@[go_sem] theorem z76 : tsize Tryz.prog 76 = 1 := by kernel_rfl
@[go_sem] theorem k76 : ttag Tryz.prog 76 = some false := by kernel_rfl
@[go_sem] theorem y76 : Tryz.prog.bytesOf 76 = 24 := by kernel_rfl
@[go_sem] theorem s76 : isStr Tryz.prog 76 = false := by kernel_rfl
@[go_sem] theorem j76 : isI32 Tryz.prog 76 = false := by kernel_rfl
@[go_sem] theorem w76 : isU8 Tryz.prog 76 = false := by kernel_rfl
@[go_sem] theorem o76 : tzero Tryz.prog 76 = some [.slice none 0 0] := by kernel_rfl
@[go_sem] theorem i76 : (Tryz.prog.info? 76).isSome = true := by kernel_rfl
attribute [go_sem] Tryz.underlying80
@[go_sem] theorem z80 : tsize Tryz.prog 80 = 25 := by kernel_rfl
@[go_sem] theorem k80 : ttag Tryz.prog 80 = some true := by kernel_rfl
@[go_sem] theorem y80 : Tryz.prog.bytesOf 80 = 400 := by kernel_rfl
@[go_sem] theorem s80 : isStr Tryz.prog 80 = false := by kernel_rfl
@[go_sem] theorem j80 : isI32 Tryz.prog 80 = false := by kernel_rfl
@[go_sem] theorem w80 : isU8 Tryz.prog 80 = false := by kernel_rfl
@[go_sem] theorem o80 : tzero Tryz.prog 80 = some [.string ByteArray.empty, .string ByteArray.empty, .string ByteArray.empty, .string ByteArray.empty, .string ByteArray.empty, .string ByteArray.empty, .string ByteArray.empty, .string ByteArray.empty, .string ByteArray.empty, .string ByteArray.empty, .string ByteArray.empty, .string ByteArray.empty, .string ByteArray.empty, .string ByteArray.empty, .string ByteArray.empty, .string ByteArray.empty, .string ByteArray.empty, .string ByteArray.empty, .string ByteArray.empty, .string ByteArray.empty, .string ByteArray.empty, .string ByteArray.empty, .string ByteArray.empty, .string ByteArray.empty, .string ByteArray.empty] := by kernel_rfl
@[go_sem] theorem i80 : (Tryz.prog.info? 80).isSome = true := by kernel_rfl
attribute [go_sem] Tryz.underlying82
@[go_sem] theorem z82 : tsize Tryz.prog 82 = 5 := by kernel_rfl
@[go_sem] theorem k82 : ttag Tryz.prog 82 = some true := by kernel_rfl
@[go_sem] theorem y82 : Tryz.prog.bytesOf 82 = 96 := by kernel_rfl
@[go_sem] theorem s82 : isStr Tryz.prog 82 = false := by kernel_rfl
@[go_sem] theorem j82 : isI32 Tryz.prog 82 = false := by kernel_rfl
@[go_sem] theorem w82 : isU8 Tryz.prog 82 = false := by kernel_rfl
@[go_sem] theorem o82 : tzero Tryz.prog 82 = some [.int .i64 0, .string ByteArray.empty, .slice none 0 0, .slice none 0 0, .slice none 0 0] := by kernel_rfl
@[go_sem] theorem i82 : (Tryz.prog.info? 82).isSome = true := by kernel_rfl
@[go_sem] theorem x82 : structOk Tryz.prog 82 = true := by kernel_rfl
@[go_sem] theorem g82x0 : fieldOff Tryz.prog 82 0 = some (0, 3) := by kernel_rfl
@[go_sem] theorem g82x1 : fieldOff Tryz.prog 82 1 = some (1, 9) := by kernel_rfl
@[go_sem] theorem g82x2 : fieldOff Tryz.prog 82 2 = some (2, 22) := by kernel_rfl
@[go_sem] theorem g82x3 : fieldOff Tryz.prog 82 3 = some (3, 28) := by kernel_rfl
@[go_sem] theorem g82x4 : fieldOff Tryz.prog 82 4 = some (4, 31) := by kernel_rfl
attribute [go_sem] Tryz.underlying90
@[go_sem] theorem z90 : tsize Tryz.prog 90 = 1 := by kernel_rfl
@[go_sem] theorem k90 : ttag Tryz.prog 90 = some false := by kernel_rfl
@[go_sem] theorem y90 : Tryz.prog.bytesOf 90 = 8 := by kernel_rfl
@[go_sem] theorem s90 : isStr Tryz.prog 90 = false := by kernel_rfl
@[go_sem] theorem j90 : isI32 Tryz.prog 90 = false := by kernel_rfl
@[go_sem] theorem w90 : isU8 Tryz.prog 90 = false := by kernel_rfl
@[go_sem] theorem o90 : tzero Tryz.prog 90 = some [.int .u64 0] := by kernel_rfl
@[go_sem] theorem i90 : (Tryz.prog.info? 90).isSome = true := by kernel_rfl
attribute [go_sem] Tryz.underlying100
@[go_sem] theorem z100 : tsize Tryz.prog 100 = 2 := by kernel_rfl
@[go_sem] theorem k100 : ttag Tryz.prog 100 = some true := by kernel_rfl
@[go_sem] theorem y100 : Tryz.prog.bytesOf 100 = 16 := by kernel_rfl
@[go_sem] theorem s100 : isStr Tryz.prog 100 = false := by kernel_rfl
@[go_sem] theorem j100 : isI32 Tryz.prog 100 = false := by kernel_rfl
@[go_sem] theorem w100 : isU8 Tryz.prog 100 = false := by kernel_rfl
@[go_sem] theorem o100 : tzero Tryz.prog 100 = some [.int .u64 0, .int .u64 0] := by kernel_rfl
@[go_sem] theorem i100 : (Tryz.prog.info? 100).isSome = true := by kernel_rfl
attribute [go_sem] Tryz.underlying101
@[go_sem] theorem z101 : tsize Tryz.prog 101 = 4 := by kernel_rfl
@[go_sem] theorem k101 : ttag Tryz.prog 101 = some true := by kernel_rfl
@[go_sem] theorem y101 : Tryz.prog.bytesOf 101 = 32 := by kernel_rfl
@[go_sem] theorem s101 : isStr Tryz.prog 101 = false := by kernel_rfl
@[go_sem] theorem j101 : isI32 Tryz.prog 101 = false := by kernel_rfl
@[go_sem] theorem w101 : isU8 Tryz.prog 101 = false := by kernel_rfl
@[go_sem] theorem o101 : tzero Tryz.prog 101 = some [.int .u64 0, .int .u64 0, .int .u64 0, .int .u64 0] := by kernel_rfl
@[go_sem] theorem i101 : (Tryz.prog.info? 101).isSome = true := by kernel_rfl
attribute [go_sem] Tryz.underlying104
@[go_sem] theorem z104 : tsize Tryz.prog 104 = 10 := by kernel_rfl
@[go_sem] theorem k104 : ttag Tryz.prog 104 = some true := by kernel_rfl
@[go_sem] theorem y104 : Tryz.prog.bytesOf 104 = 80 := by kernel_rfl
@[go_sem] theorem s104 : isStr Tryz.prog 104 = false := by kernel_rfl
@[go_sem] theorem j104 : isI32 Tryz.prog 104 = false := by kernel_rfl
@[go_sem] theorem w104 : isU8 Tryz.prog 104 = false := by kernel_rfl
@[go_sem] theorem o104 : tzero Tryz.prog 104 = some [.int .i64 0, .int .i64 0, .int .i64 0, .int .i64 0, .int .i64 0, .int .i64 0, .int .i64 0, .int .i64 0, .int .i64 0, .int .i64 0] := by kernel_rfl
@[go_sem] theorem i104 : (Tryz.prog.info? 104).isSome = true := by kernel_rfl
attribute [go_sem] Tryz.underlying116
@[go_sem] theorem z116 : tsize Tryz.prog 116 = 1 := by kernel_rfl
@[go_sem] theorem k116 : ttag Tryz.prog 116 = some false := by kernel_rfl
@[go_sem] theorem y116 : Tryz.prog.bytesOf 116 = 8 := by kernel_rfl
@[go_sem] theorem s116 : isStr Tryz.prog 116 = false := by kernel_rfl
@[go_sem] theorem j116 : isI32 Tryz.prog 116 = false := by kernel_rfl
@[go_sem] theorem w116 : isU8 Tryz.prog 116 = false := by kernel_rfl
@[go_sem] theorem o116 : tzero Tryz.prog 116 = some [.int .u64 0] := by kernel_rfl
@[go_sem] theorem i116 : (Tryz.prog.info? 116).isSome = true := by kernel_rfl
attribute [go_sem] Tryz.underlying122
@[go_sem] theorem z122 : tsize Tryz.prog 122 = 20 := by kernel_rfl
@[go_sem] theorem k122 : ttag Tryz.prog 122 = some true := by kernel_rfl
@[go_sem] theorem y122 : Tryz.prog.bytesOf 122 = 20 := by kernel_rfl
@[go_sem] theorem s122 : isStr Tryz.prog 122 = false := by kernel_rfl
@[go_sem] theorem j122 : isI32 Tryz.prog 122 = false := by kernel_rfl
@[go_sem] theorem w122 : isU8 Tryz.prog 122 = false := by kernel_rfl
@[go_sem] theorem o122 : tzero Tryz.prog 122 = some [.int .u8 0, .int .u8 0, .int .u8 0, .int .u8 0, .int .u8 0, .int .u8 0, .int .u8 0, .int .u8 0, .int .u8 0, .int .u8 0, .int .u8 0, .int .u8 0, .int .u8 0, .int .u8 0, .int .u8 0, .int .u8 0, .int .u8 0, .int .u8 0, .int .u8 0, .int .u8 0] := by kernel_rfl
@[go_sem] theorem i122 : (Tryz.prog.info? 122).isSome = true := by kernel_rfl
attribute [go_sem] Tryz.underlying125
@[go_sem] theorem z125 : tsize Tryz.prog 125 = 256 := by kernel_rfl
@[go_sem] theorem k125 : ttag Tryz.prog 125 = some true := by kernel_rfl
@[go_sem] theorem y125 : Tryz.prog.bytesOf 125 = 256 := by kernel_rfl
@[go_sem] theorem s125 : isStr Tryz.prog 125 = false := by kernel_rfl
@[go_sem] theorem j125 : isI32 Tryz.prog 125 = false := by kernel_rfl
@[go_sem] theorem w125 : isU8 Tryz.prog 125 = false := by kernel_rfl
@[go_sem] theorem o125 : tzero Tryz.prog 125 = some [.bool false, .bool false, .bool false, .bool false, .bool false, .bool false, .bool false, .bool false, .bool false, .bool false, .bool false, .bool false, .bool false, .bool false, .bool false, .bool false, .bool false, .bool false, .bool false, .bool false, .bool false, .bool false, .bool false, .bool false, .bool false, .bool false, .bool false, .bool false, .bool false, .bool false, .bool false, .bool false, .bool false, .bool false, .bool false, .bool false, .bool false, .bool false, .bool false, .bool false, .bool false, .bool false, .bool false, .bool false, .bool false, .bool false, .bool false, .bool false, .bool false, .bool false, .bool false, .bool false, .bool false, .bool false, .bool false, .bool false, .bool false, .bool false, .bool false, .bool false, .bool false, .bool false, .bool false, .bool false, .bool false, .bool false, .bool false, .bool false, .bool false, .bool false, .bool false, .bool false, .bool false, .bool false, .bool false, .bool false, .bool false, .bool false, .bool false, .bool false, .bool false, .bool false, .bool false, .bool false, .bool false, .bool false, .bool false, .bool false, .bool false, .bool false, .bool false, .bool false, .bool false, .bool false, .bool false, .bool false, .bool false, .bool false, .bool false, .bool false, .bool false, .bool false, .bool false, .bool false, .bool false, .bool false, .bool false, .bool false, .bool false, .bool false, .bool false, .bool false, .bool false, .bool false, .bool false, .bool false, .bool false, .bool false, .bool false, .bool false, .bool false, .bool false, .bool false, .bool false, .bool false, .bool false, .bool false, .bool false, .bool false, .bool false, .bool false, .bool false, .bool false, .bool false, .bool false, .bool false, .bool false, .bool false, .bool false, .bool false, .bool false, .bool false, .bool false, .bool false, .bool false, .bool false, .bool false, .bool false, .bool false, .bool false, .bool false, .bool false, .bool false, .bool false, .bool false, .bool false, .bool false, .bool false, .bool false, .bool false, .bool false, .bool false, .bool false, .bool false, .bool false, .bool false, .bool false, .bool false, .bool false, .bool false, .bool false, .bool false, .bool false, .bool false, .bool false, .bool false, .bool false, .bool false, .bool false, .bool false, .bool false, .bool false, .bool false, .bool false, .bool false, .bool false, .bool false, .bool false, .bool false, .bool false, .bool false, .bool false, .bool false, .bool false, .bool false, .bool false, .bool false, .bool false, .bool false, .bool false, .bool false, .bool false, .bool false, .bool false, .bool false, .bool false, .bool false, .bool false, .bool false, .bool false, .bool false, .bool false, .bool false, .bool false, .bool false, .bool false, .bool false, .bool false, .bool false, .bool false, .bool false, .bool false, .bool false, .bool false, .bool false, .bool false, .bool false, .bool false, .bool false, .bool false, .bool false, .bool false, .bool false, .bool false, .bool false, .bool false, .bool false, .bool false, .bool false, .bool false, .bool false, .bool false, .bool false, .bool false, .bool false, .bool false, .bool false, .bool false, .bool false, .bool false, .bool false, .bool false, .bool false, .bool false, .bool false, .bool false] := by kernel_rfl
@[go_sem] theorem i125 : (Tryz.prog.info? 125).isSome = true := by kernel_rfl
attribute [go_sem] Tryz.underlying130
@[go_sem] theorem z130 : tsize Tryz.prog 130 = 24 := by kernel_rfl
@[go_sem] theorem k130 : ttag Tryz.prog 130 = some true := by kernel_rfl
@[go_sem] theorem y130 : Tryz.prog.bytesOf 130 = 24 := by kernel_rfl
@[go_sem] theorem s130 : isStr Tryz.prog 130 = false := by kernel_rfl
@[go_sem] theorem j130 : isI32 Tryz.prog 130 = false := by kernel_rfl
@[go_sem] theorem w130 : isU8 Tryz.prog 130 = false := by kernel_rfl
@[go_sem] theorem o130 : tzero Tryz.prog 130 = some [.int .u8 0, .int .u8 0, .int .u8 0, .int .u8 0, .int .u8 0, .int .u8 0, .int .u8 0, .int .u8 0, .int .u8 0, .int .u8 0, .int .u8 0, .int .u8 0, .int .u8 0, .int .u8 0, .int .u8 0, .int .u8 0, .int .u8 0, .int .u8 0, .int .u8 0, .int .u8 0, .int .u8 0, .int .u8 0, .int .u8 0, .int .u8 0] := by kernel_rfl
@[go_sem] theorem i130 : (Tryz.prog.info? 130).isSome = true := by kernel_rfl
attribute [go_sem] Tryz.underlying136
@[go_sem] theorem z136 : tsize Tryz.prog 136 = 1 := by kernel_rfl
@[go_sem] theorem k136 : ttag Tryz.prog 136 = some false := by kernel_rfl
@[go_sem] theorem y136 : Tryz.prog.bytesOf 136 = 4 := by kernel_rfl
@[go_sem] theorem s136 : isStr Tryz.prog 136 = false := by kernel_rfl
@[go_sem] theorem j136 : isI32 Tryz.prog 136 = false := by kernel_rfl
@[go_sem] theorem w136 : isU8 Tryz.prog 136 = false := by kernel_rfl
@[go_sem] theorem o136 : tzero Tryz.prog 136 = some [.int .u32 0] := by kernel_rfl
@[go_sem] theorem i136 : (Tryz.prog.info? 136).isSome = true := by kernel_rfl
attribute [go_sem] Tryz.underlying147
@[go_sem] theorem z147 : tsize Tryz.prog 147 = 20 := by kernel_rfl
@[go_sem] theorem k147 : ttag Tryz.prog 147 = some true := by kernel_rfl
@[go_sem] theorem y147 : Tryz.prog.bytesOf 147 = 160 := by kernel_rfl
@[go_sem] theorem s147 : isStr Tryz.prog 147 = false := by kernel_rfl
@[go_sem] theorem j147 : isI32 Tryz.prog 147 = false := by kernel_rfl
@[go_sem] theorem w147 : isU8 Tryz.prog 147 = false := by kernel_rfl
@[go_sem] theorem o147 : tzero Tryz.prog 147 = some [.int .u64 0, .int .u64 0, .int .u64 0, .int .u64 0, .int .u64 0, .int .u64 0, .int .u64 0, .int .u64 0, .int .u64 0, .int .u64 0, .int .u64 0, .int .u64 0, .int .u64 0, .int .u64 0, .int .u64 0, .int .u64 0, .int .u64 0, .int .u64 0, .int .u64 0, .int .u64 0] := by kernel_rfl
@[go_sem] theorem i147 : (Tryz.prog.info? 147).isSome = true := by kernel_rfl
attribute [go_sem] Tryz.underlying148
@[go_sem] theorem z148 : tsize Tryz.prog 148 = 65 := by kernel_rfl
@[go_sem] theorem k148 : ttag Tryz.prog 148 = some true := by kernel_rfl
@[go_sem] theorem y148 : Tryz.prog.bytesOf 148 = 65 := by kernel_rfl
@[go_sem] theorem s148 : isStr Tryz.prog 148 = false := by kernel_rfl
@[go_sem] theorem j148 : isI32 Tryz.prog 148 = false := by kernel_rfl
@[go_sem] theorem w148 : isU8 Tryz.prog 148 = false := by kernel_rfl
@[go_sem] theorem o148 : tzero Tryz.prog 148 = some [.int .u8 0, .int .u8 0, .int .u8 0, .int .u8 0, .int .u8 0, .int .u8 0, .int .u8 0, .int .u8 0, .int .u8 0, .int .u8 0, .int .u8 0, .int .u8 0, .int .u8 0, .int .u8 0, .int .u8 0, .int .u8 0, .int .u8 0, .int .u8 0, .int .u8 0, .int .u8 0, .int .u8 0, .int .u8 0, .int .u8 0, .int .u8 0, .int .u8 0, .int .u8 0, .int .u8 0, .int .u8 0, .int .u8 0, .int .u8 0, .int .u8 0, .int .u8 0, .int .u8 0, .int .u8 0, .int .u8 0, .int .u8 0, .int .u8 0, .int .u8 0, .int .u8 0, .int .u8 0, .int .u8 0, .int .u8 0, .int .u8 0, .int .u8 0, .int .u8 0, .int .u8 0, .int .u8 0, .int .u8 0, .int .u8 0, .int .u8 0, .int .u8 0, .int .u8 0, .int .u8 0, .int .u8 0, .int .u8 0, .int .u8 0, .int .u8 0, .int .u8 0, .int .u8 0, .int .u8 0, .int .u8 0, .int .u8 0, .int .u8 0, .int .u8 0, .int .u8 0] := by kernel_rfl
@[go_sem] theorem i148 : (Tryz.prog.info? 148).isSome = true := by kernel_rfl
attribute [go_sem] Tryz.underlying155
@[go_sem] theorem z155 : tsize Tryz.prog 155 = 32 := by kernel_rfl
@[go_sem] theorem k155 : ttag Tryz.prog 155 = some true := by kernel_rfl
@[go_sem] theorem y155 : Tryz.prog.bytesOf 155 = 32 := by kernel_rfl
@[go_sem] theorem s155 : isStr Tryz.prog 155 = false := by kernel_rfl
@[go_sem] theorem j155 : isI32 Tryz.prog 155 = false := by kernel_rfl
@[go_sem] theorem w155 : isU8 Tryz.prog 155 = false := by kernel_rfl
@[go_sem] theorem o155 : tzero Tryz.prog 155 = some [.int .u8 0, .int .u8 0, .int .u8 0, .int .u8 0, .int .u8 0, .int .u8 0, .int .u8 0, .int .u8 0, .int .u8 0, .int .u8 0, .int .u8 0, .int .u8 0, .int .u8 0, .int .u8 0, .int .u8 0, .int .u8 0, .int .u8 0, .int .u8 0, .int .u8 0, .int .u8 0, .int .u8 0, .int .u8 0, .int .u8 0, .int .u8 0, .int .u8 0, .int .u8 0, .int .u8 0, .int .u8 0, .int .u8 0, .int .u8 0, .int .u8 0, .int .u8 0] := by kernel_rfl
@[go_sem] theorem i155 : (Tryz.prog.info? 155).isSome = true := by kernel_rfl
def HQ (a : Nat → Option (List Nat)) : Hint := ⟨a, (fun _ => none), (fun _ => none), [], false, (fun _ => none), fun _ => 0, 0, false⟩
@[go_sem] theorem HQx (a : Nat → Option (List Nat)) : (HQ a).mix = (fun _ => none) := rfl
@[go_sem] theorem HQl (a : Nat → Option (List Nat)) : (HQ a).live = a := rfl
@[go_sem] theorem HQo (a : Nat → Option (List Nat)) : (HQ a).mode = fun _ => 0 := rfl
@[go_sem] theorem HQk (a : Nat → Option (List Nat)) : (HQ a).keep = (fun _ => none) := rfl
@[go_sem] theorem HQt (a : Nat → Option (List Nat)) : (HQ a).tail = (fun _ => none) := rfl
@[go_sem] theorem HQv (a : Nat → Option (List Nat)) : (HQ a).vars = [] := rfl
@[go_sem] theorem HQm (a : Nat → Option (List Nat)) : (HQ a).mutc = false := rfl
@[go_sem] def h3a : Nat → Option (List Nat) := (fun id => match id with | 0 => some [0] | 1 => some [0, 3, 4] | 2 => some [3, 4, 5, 6] | 3 => some [2] | _ => none)
abbrev h3 : Hint := HQ h3a
@[go_sem] def h4a : Nat → Option (List Nat) := (fun id => match id with | 0 => some [0] | 1 => some [0, 3, 4] | 2 => some [3, 4, 5, 6] | 3 => some [2] | _ => none)
abbrev h4 : Hint := HQ h4a
@[go_sem] def h5a : Nat → Option (List Nat) := (fun id => match id with | 0 => some [0] | 1 => some [0, 3, 4] | 2 => some [3, 4, 5, 6] | 3 => some [2] | _ => none)
abbrev h5 : Hint := HQ h5a
@[go_sem] def h6a : Nat → Option (List Nat) := (fun id => match id with | 0 => some [0] | 1 => some [0, 6] | 2 => some [2, 3] | 3 => some [2, 3] | _ => none)
abbrev h6 : Hint := HQ h6a
@[go_sem] def h7a : Nat → Option (List Nat) := (fun id => match id with | 0 => some [0] | 1 => some [0, 6] | 2 => some [2, 3] | 3 => some [2, 3] | _ => none)
abbrev h7 : Hint := HQ h7a
@[go_sem] def h8a : Nat → Option (List Nat) := (fun id => match id with | 0 => some [] | 1 => some [1, 2] | 2 => some [0] | _ => none)
abbrev h8 : Hint := HQ h8a
@[go_sem] def h9a : Nat → Option (List Nat) := (fun id => match id with | 0 => some [0] | 1 => some [0, 7] | 2 => some [2, 3] | 3 => some [0, 4] | 4 => some [4] | 5 => some [2, 3] | _ => none)
abbrev h9 : Hint := HQ h9a
@[go_sem] def h10a : Nat → Option (List Nat) := (fun id => match id with | 0 => some [0] | 1 => some [0, 4] | 2 => some [4, 11, 12, 13] | 3 => some [4, 11, 12, 13, 14] | 4 => some [4, 6, 11, 12, 13] | 5 => some [4, 6, 7, 8, 11, 12, 13] | 6 => some [4, 6, 7, 8, 9, 10, 11, 12, 13] | 7 => some [4, 6, 7, 9, 11, 12, 13, 35] | 8 => some [2, 3] | 9 => some [4, 6, 11, 12, 13] | 10 => some [4, 11, 12, 13, 43] | 11 => some [4, 11, 12, 13, 43] | 12 => some [4, 11, 12, 13] | 13 => some [4, 11, 12, 13] | 14 => some [2, 3] | _ => none)
def h10 : Hint := ⟨h10a, (fun id => match id with | 13 => some 0 | _ => none), (fun _ => none), [], false, (fun _ => none), fun _ => 0, 0, false⟩
@[go_sem] theorem h10x : h10.mix = (fun _ => none) := rfl
@[go_sem] theorem h10l : h10.live = h10a := rfl
@[go_sem] theorem h10o : h10.mode = fun _ => 0 := rfl
@[go_sem] theorem h10k : h10.keep = (fun id => match id with | 13 => some 0 | _ => none) := rfl
@[go_sem] theorem h10t : h10.tail = (fun _ => none) := rfl
@[go_sem] theorem h10v : h10.vars = [] := rfl
@[go_sem] theorem h10m : h10.mutc = false := rfl
@[go_sem] def h11a : Nat → Option (List Nat) := (fun id => match id with | 0 => some [0] | 1 => some [0, 7] | 2 => some [2, 3] | 3 => some [0, 4] | 4 => some [4] | 5 => some [2, 3] | _ => none)
abbrev h11 : Hint := HQ h11a
@[go_sem] def h12a : Nat → Option (List Nat) := (fun id => match id with | 0 => some [0] | 1 => some [2, 3] | _ => none)
abbrev h12 : Hint := HQ h12a
@[go_sem] def h13a : Nat → Option (List Nat) := (fun id => match id with | 0 => some [0] | 1 => some [0, 7] | 2 => some [2] | 3 => some [9, 10, 11] | 4 => some [9, 10, 11, 12] | 5 => some [4, 9, 10, 11] | 6 => some [9, 10, 11, 17] | 7 => some [2] | 8 => some [9, 10, 11] | 9 => some [2] | _ => none)
def h13 : Hint := ⟨h13a, (fun id => match id with | 8 => some 0 | _ => none), (fun _ => none), [], false, (fun _ => none), fun _ => 0, 0, false⟩
@[go_sem] theorem h13x : h13.mix = (fun _ => none) := rfl
@[go_sem] theorem h13l : h13.live = h13a := rfl
@[go_sem] theorem h13o : h13.mode = fun _ => 0 := rfl
@[go_sem] theorem h13k : h13.keep = (fun id => match id with | 8 => some 0 | _ => none) := rfl
@[go_sem] theorem h13t : h13.tail = (fun _ => none) := rfl
@[go_sem] theorem h13v : h13.vars = [] := rfl
@[go_sem] theorem h13m : h13.mutc = false := rfl
@[go_sem] def h14a : Nat → Option (List Nat) := (fun id => match id with | 0 => some [0] | 1 => some [0, 4] | 2 => some [0, 4, 9, 10, 11] | 3 => some [0, 4, 9, 10, 11, 12] | 4 => some [0, 4, 5, 6, 9, 10, 11] | 5 => some [0, 4, 5, 6, 7, 8, 9, 10, 11] | 6 => some [0, 4, 5, 6, 7, 8, 9, 10, 11, 22] | 7 => some [2, 3] | 8 => some [0, 4, 7, 9, 10, 11, 34] | 9 => some [0, 4, 7, 9, 10, 11, 34] | 10 => some [0, 4, 9, 10, 11] | 11 => some [0, 4, 9, 10, 11] | 12 => some [2, 3] | _ => none)
def h14 : Hint := ⟨h14a, (fun _ => none), (fun id => match id with | 8 => some 11 | _ => none), [], false, (fun _ => none), fun _ => 0, 0, false⟩
@[go_sem] theorem h14x : h14.mix = (fun _ => none) := rfl
@[go_sem] theorem h14l : h14.live = h14a := rfl
@[go_sem] theorem h14o : h14.mode = fun _ => 0 := rfl
@[go_sem] theorem h14k : h14.keep = (fun _ => none) := rfl
@[go_sem] theorem h14t : h14.tail = (fun id => match id with | 8 => some 11 | _ => none) := rfl
@[go_sem] theorem h14v : h14.vars = [] := rfl
@[go_sem] theorem h14m : h14.mutc = false := rfl
@[go_sem] def h15a : Nat → Option (List Nat) := (fun id => match id with | 0 => some [0] | 1 => some [0, 3] | 2 => some [3, 4] | 3 => some [3, 4, 13] | 4 => some [3, 4, 5] | 5 => some [3, 4, 5, 24] | 6 => some [3, 4, 5, 29] | 7 => some [3, 4, 5, 29] | 8 => some [3, 4] | 9 => some [3, 4, 5, 6] | 10 => some [3, 4, 6] | 11 => some [3, 4, 6] | 12 => some [3, 4, 6, 7] | 13 => some [3, 4, 6, 7, 73] | 14 => some [3, 4] | 15 => some [2] | _ => none)
def h15 : Hint := ⟨h15a, (fun id => match id with | 3 => some 1 | _ => none), (fun _ => none), [3, 4], false, (fun _ => none), (fun d => match d with | some 10 => 1 | some 80 => 1 | _ => 0), 0, false⟩
@[go_sem] theorem h15x : h15.mix = (fun _ => none) := rfl
@[go_sem] theorem h15l : h15.live = h15a := rfl
@[go_sem] theorem h15o : h15.mode = (fun d => match d with | some 10 => 1 | some 80 => 1 | _ => 0) := rfl
@[go_sem] theorem h15k : h15.keep = (fun id => match id with | 3 => some 1 | _ => none) := rfl
@[go_sem] theorem h15t : h15.tail = (fun _ => none) := rfl
@[go_sem] theorem h15v : h15.vars = [3, 4] := rfl
@[go_sem] theorem h15m : h15.mutc = false := rfl
@[go_sem] def h16a : Nat → Option (List Nat) := (fun id => match id with | 0 => some [0] | 1 => some [2] | _ => none)
abbrev h16 : Hint := HQ h16a
@[go_sem] def h17a : Nat → Option (List Nat) := (fun id => match id with | 0 => some [0] | 1 => some [0, 4] | 2 => some [0, 4, 9, 10, 11] | 3 => some [0, 4, 9, 10, 11, 12] | 4 => some [0, 4, 5, 6, 9, 10, 11] | 5 => some [0, 4, 5, 6, 7, 8, 9, 10, 11] | 6 => some [0, 4, 5, 6, 7, 8, 9, 10, 11, 22] | 7 => some [2, 3] | 8 => some [0, 4, 7, 9, 10, 11, 34] | 9 => some [0, 4, 7, 9, 10, 11, 34] | 10 => some [0, 4, 9, 10, 11] | 11 => some [0, 4, 9, 10, 11] | 12 => some [2, 3] | _ => none)
def h17 : Hint := ⟨h17a, (fun _ => none), (fun id => match id with | 8 => some 11 | _ => none), [4], false, (fun _ => none), fun _ => 0, 0, false⟩
@[go_sem] theorem h17x : h17.mix = (fun _ => none) := rfl
@[go_sem] theorem h17l : h17.live = h17a := rfl
@[go_sem] theorem h17o : h17.mode = fun _ => 0 := rfl
@[go_sem] theorem h17k : h17.keep = (fun _ => none) := rfl
@[go_sem] theorem h17t : h17.tail = (fun id => match id with | 8 => some 11 | _ => none) := rfl
@[go_sem] theorem h17v : h17.vars = [4] := rfl
@[go_sem] theorem h17m : h17.mutc = false := rfl
@[go_sem] def h18a : Nat → Option (List Nat) := (fun id => match id with | 0 => some [0] | 1 => some [0, 3] | 2 => some [3, 7, 8, 9] | 3 => some [3, 7, 8, 9, 10] | 4 => some [3, 5, 7, 8, 9] | 5 => some [3, 5, 7, 8, 9] | 6 => some [3, 5, 7, 8, 9] | 7 => some [3, 6, 7, 8, 9] | 8 => some [3, 6, 7, 8, 9, 28] | 9 => some [3, 6, 7, 8, 9, 28] | 10 => some [3, 7, 8, 9] | 11 => some [2] | _ => none)
def h18 : Hint := ⟨h18a, (fun id => match id with | 10 => some 0 | _ => none), (fun _ => none), [3], false, (fun _ => none), fun _ => 0, 0, false⟩
@[go_sem] theorem h18x : h18.mix = (fun _ => none) := rfl
@[go_sem] theorem h18l : h18.live = h18a := rfl
@[go_sem] theorem h18o : h18.mode = fun _ => 0 := rfl
@[go_sem] theorem h18k : h18.keep = (fun id => match id with | 10 => some 0 | _ => none) := rfl
@[go_sem] theorem h18t : h18.tail = (fun _ => none) := rfl
@[go_sem] theorem h18v : h18.vars = [3] := rfl
@[go_sem] theorem h18m : h18.mutc = false := rfl
@[go_sem] def h19a : Nat → Option (List Nat) := (fun id => match id with | 0 => some [0] | 1 => some [5, 6, 7] | 2 => some [5, 6, 7, 8] | 3 => some [4, 5, 6, 7] | 4 => some [5, 6, 7, 20] | 5 => some [2] | 6 => some [5, 6, 7] | 7 => some [2] | _ => none)
def h19 : Hint := ⟨h19a, (fun id => match id with | 6 => some 0 | _ => none), (fun _ => none), [], false, (fun _ => none), fun _ => 0, 0, false⟩
@[go_sem] theorem h19x : h19.mix = (fun _ => none) := rfl
@[go_sem] theorem h19l : h19.live = h19a := rfl
@[go_sem] theorem h19o : h19.mode = fun _ => 0 := rfl
@[go_sem] theorem h19k : h19.keep = (fun id => match id with | 6 => some 0 | _ => none) := rfl
@[go_sem] theorem h19t : h19.tail = (fun _ => none) := rfl
@[go_sem] theorem h19v : h19.vars = [] := rfl
@[go_sem] theorem h19m : h19.mutc = false := rfl
@[go_sem] def h20a : Nat → Option (List Nat) := (fun id => match id with | 0 => some [0, 1, 4] | 1 => some [0, 4, 13, 14, 15] | 2 => some [0, 4, 13, 14, 15, 16] | 3 => some [0, 4, 6, 13, 14, 15] | 4 => some [0, 4, 6, 7, 8, 13, 14, 15] | 5 => some [0, 4, 6, 7, 8, 13, 14, 15, 29] | 6 => some [0, 4, 6, 7, 8, 13, 14, 15, 29] | 7 => some [0, 4, 6, 13, 14, 15] | 8 => some [0, 4, 6, 13, 14, 15] | 9 => some [0, 4, 6, 13, 14, 15] | 10 => some [0, 4, 13, 14, 15, 44] | 11 => some [0, 4, 13, 14, 15, 44] | 12 => some [0, 4, 13, 14, 15] | 13 => some [0, 4, 13, 14, 15] | _ => none)
def h20 : Hint := ⟨h20a, (fun id => match id with | 13 => some 0 | _ => none), (fun _ => none), [], false, (fun _ => none), fun _ => 0, 0, false⟩
@[go_sem] theorem h20x : h20.mix = (fun _ => none) := rfl
@[go_sem] theorem h20l : h20.live = h20a := rfl
@[go_sem] theorem h20o : h20.mode = fun _ => 0 := rfl
@[go_sem] theorem h20k : h20.keep = (fun id => match id with | 13 => some 0 | _ => none) := rfl
@[go_sem] theorem h20t : h20.tail = (fun _ => none) := rfl
@[go_sem] theorem h20v : h20.vars = [] := rfl
@[go_sem] theorem h20m : h20.mutc = false := rfl
@[go_sem] def h21a : Nat → Option (List Nat) := (fun id => match id with | 0 => some [0] | 1 => some [0, 8] | 2 => some [2, 3] | 3 => some [2, 3] | _ => none)
def h21 : Hint := ⟨h21a, (fun _ => none), (fun id => match id with | 2 => some 4 | _ => none), [], false, (fun id => match id with | 2 => some ⟨[0, 1, 2, 3], [], .alt (.one 0 (.alt (.one 1 (.alt (.one 2 (.alt (.one 3 (.one 4 (.one 5 (.fin)))) (.one 4 (.head 3 (.one 5 (.fin)))))) (.one 4 (.head 2 (.head 3 (.one 5 (.fin))))))) (.one 4 (.head 1 (.head 2 (.head 3 (.one 5 (.fin)))))))) (.one 4 (.head 0 (.head 1 (.head 2 (.head 3 (.one 5 (.fin)))))))⟩ | _ => none), fun _ => 0, 0, false⟩
@[go_sem] theorem h21x : h21.mix = (fun id => match id with | 2 => some ⟨[0, 1, 2, 3], [], .alt (.one 0 (.alt (.one 1 (.alt (.one 2 (.alt (.one 3 (.one 4 (.one 5 (.fin)))) (.one 4 (.head 3 (.one 5 (.fin)))))) (.one 4 (.head 2 (.head 3 (.one 5 (.fin))))))) (.one 4 (.head 1 (.head 2 (.head 3 (.one 5 (.fin)))))))) (.one 4 (.head 0 (.head 1 (.head 2 (.head 3 (.one 5 (.fin)))))))⟩ | _ => none) := rfl
@[go_sem] theorem h21l : h21.live = h21a := rfl
@[go_sem] theorem h21o : h21.mode = fun _ => 0 := rfl
@[go_sem] theorem h21k : h21.keep = (fun _ => none) := rfl
@[go_sem] theorem h21t : h21.tail = (fun id => match id with | 2 => some 4 | _ => none) := rfl
@[go_sem] theorem h21v : h21.vars = [] := rfl
@[go_sem] theorem h21m : h21.mutc = false := rfl
@[go_sem] def h22a : Nat → Option (List Nat) := (fun id => match id with | 0 => some [1] | 1 => some [1, 9] | 2 => some [2, 3] | 3 => some [1, 4] | 4 => some [1, 4, 22] | 5 => some [1, 4, 22] | 6 => some [1, 4, 32] | 7 => some [1, 4, 32, 33] | 8 => some [2, 3] | 9 => some [1, 4, 32, 38] | 10 => some [2, 3] | 11 => some [1, 4, 32, 44] | 12 => some [2, 3] | 13 => some [1, 4, 32, 50] | 14 => some [1, 53] | 15 => some [2, 3] | 16 => some [5] | 17 => some [2, 3] | 18 => some [1, 4, 32, 67] | 19 => some [2, 3] | 20 => some [1, 4, 32, 72] | 21 => some [2, 3] | 22 => some [1, 4, 32, 77] | 23 => some [1, 81] | 24 => some [2, 3] | 25 => some [2, 3] | 26 => some [1, 4, 32, 84] | 27 => some [2, 3] | 28 => some [1, 4, 32, 87] | 29 => some [2, 3] | 30 => some [1, 4, 91] | 31 => some [2, 3] | 32 => some [2, 3] | _ => none)
abbrev h22 : Hint := HQ h22a
@[go_sem] def h23a : Nat → Option (List Nat) := (fun id => match id with | 0 => some [0, 1] | 1 => some [1, 8, 9, 10] | 2 => some [1, 8, 9, 10, 11] | 3 => some [1, 6, 8, 9, 10] | 4 => some [1, 6, 8, 9, 10, 21] | 5 => some [4] | 6 => some [1, 6, 7, 8, 9, 10] | 7 => some [1, 6, 7, 8, 9, 10, 23] | 8 => some [1, 6, 7, 8, 9, 10, 23, 24] | 9 => some [1, 6, 7, 8, 9, 10, 23, 24] | 10 => some [1, 6, 7, 8, 9, 10, 40] | 11 => some [1, 6, 7, 8, 9, 10] | 12 => some [1, 6, 7, 8, 9, 10, 23, 24] | 13 => some [1, 8, 9, 10, 70] | 14 => some [4] | 15 => some [1, 8, 9, 10] | 16 => some [4] | _ => none)
def h23 : Hint := ⟨h23a, (fun id => match id with | 15 => some 0 | _ => none), (fun _ => none), [], false, (fun _ => none), fun _ => 0, 0, false⟩
@[go_sem] theorem h23x : h23.mix = (fun _ => none) := rfl
@[go_sem] theorem h23l : h23.live = h23a := rfl
@[go_sem] theorem h23o : h23.mode = fun _ => 0 := rfl
@[go_sem] theorem h23k : h23.keep = (fun id => match id with | 15 => some 0 | _ => none) := rfl
@[go_sem] theorem h23t : h23.tail = (fun _ => none) := rfl
@[go_sem] theorem h23v : h23.vars = [] := rfl
@[go_sem] theorem h23m : h23.mutc = false := rfl
@[go_sem] def h24a : Nat → Option (List Nat) := (fun id => match id with | 0 => some [0, 1, 4] | 1 => some [0, 4, 11, 12, 13] | 2 => some [0, 4, 11, 12, 13, 14] | 3 => some [0, 4, 6, 11, 12, 13] | 4 => some [0, 4, 6, 11, 12, 13, 19] | 5 => some [0, 4, 6, 11, 12, 13] | 6 => some [0, 4, 6, 11, 12, 13] | 7 => some [0, 4, 11, 12, 13] | 8 => some [0, 4, 11, 12, 13] | 9 => some [0, 4, 6, 11, 12, 13] | 10 => some [0, 4, 6, 11, 12, 13] | 11 => some [0, 4, 6, 11, 12, 13] | 12 => some [0, 4, 11, 12, 13] | 13 => some [0, 4, 11, 12, 13] | 14 => some [0, 4, 11, 12, 13] | _ => none)
def h24 : Hint := ⟨h24a, (fun id => match id with | 14 => some 0 | _ => none), (fun _ => none), [], false, (fun _ => none), fun _ => 0, 0, false⟩
@[go_sem] theorem h24x : h24.mix = (fun _ => none) := rfl
@[go_sem] theorem h24l : h24.live = h24a := rfl
@[go_sem] theorem h24o : h24.mode = fun _ => 0 := rfl
@[go_sem] theorem h24k : h24.keep = (fun id => match id with | 14 => some 0 | _ => none) := rfl
@[go_sem] theorem h24t : h24.tail = (fun _ => none) := rfl
@[go_sem] theorem h24v : h24.vars = [] := rfl
@[go_sem] theorem h24m : h24.mutc = false := rfl
@[go_sem] def h25a : Nat → Option (List Nat) := (fun id => match id with | 0 => some [0, 1] | 1 => some [0, 1, 6] | 2 => some [1, 6, 12, 13, 14] | 3 => some [1, 6, 12, 13, 14, 15] | 4 => some [1, 6, 8, 12, 13, 14] | 5 => some [1, 6, 8, 9, 10, 12, 13, 14] | 6 => some [1, 6, 8, 9, 12, 13, 14, 29] | 7 => some [4, 5] | 8 => some [1, 6, 8, 9, 11, 12, 13, 14] | 9 => some [1, 6, 8, 9, 11, 12, 13, 14, 31] | 10 => some [1, 6, 9, 10, 11, 12, 13, 14] | 11 => some [1, 6, 8, 9, 11, 12, 13, 14, 31, 32] | 12 => some [1, 6, 8, 9, 12, 13, 14, 42] | 13 => some [4, 5] | 14 => some [1, 6, 9, 10, 11, 12, 13, 14] | 15 => some [1, 6, 8, 9, 11, 12, 13, 14, 49] | 16 => some [1, 6, 8, 9, 12, 13, 14, 69] | 17 => some [4, 5] | 18 => some [1, 6, 8, 9, 12, 13, 14] | 19 => some [1, 6, 9, 10, 11, 12, 13, 14] | 20 => some [1, 6, 9, 11, 12, 13, 14, 85] | 21 => some [4, 5] | 22 => some [1, 6, 12, 13, 14] | 23 => some [1, 6, 12, 13, 14] | 24 => some [4, 5] | _ => none)
def h25 : Hint := ⟨h25a, (fun id => match id with | 23 => some 0 | _ => none), (fun _ => none), [], false, (fun _ => none), fun _ => 0, 0, false⟩
@[go_sem] theorem h25x : h25.mix = (fun _ => none) := rfl
@[go_sem] theorem h25l : h25.live = h25a := rfl
@[go_sem] theorem h25o : h25.mode = fun _ => 0 := rfl
@[go_sem] theorem h25k : h25.keep = (fun id => match id with | 23 => some 0 | _ => none) := rfl
@[go_sem] theorem h25t : h25.tail = (fun _ => none) := rfl
@[go_sem] theorem h25v : h25.vars = [] := rfl
@[go_sem] theorem h25m : h25.mutc = false := rfl
@[go_sem] def h26a : Nat → Option (List Nat) := (fun id => match id with | 0 => some [0] | 1 => some [2] | _ => none)
abbrev h26 : Hint := HQ h26a
@[go_sem] def h27a : Nat → Option (List Nat) := (fun id => match id with | 0 => some [1] | 1 => some [1, 3] | 2 => some [1, 3] | 3 => some [1, 3, 4] | 4 => some [1, 3, 4, 8] | 5 => some [1, 3, 4, 8, 9] | 6 => some [1, 3, 4, 8, 9] | 7 => some [1, 3, 4, 8, 9] | 8 => some [1, 3, 4, 8, 9] | 9 => some [1, 3, 4, 8, 9] | 10 => some [1, 3, 4, 8, 22] | 11 => some [3, 4] | 12 => some [1, 3, 4, 8, 9] | 13 => some [1, 3, 4, 8, 43] | 14 => some [1, 3, 4, 8, 43] | 15 => some [1, 3, 4, 8, 9] | 16 => some [1, 3, 4, 8, 50] | 17 => some [1, 3, 4, 8, 9] | 18 => some [1, 3, 4, 8, 56] | 19 => some [3, 4] | 20 => some [1, 3, 4, 8, 9] | 21 => some [1, 3, 4, 8, 74] | 22 => some [1, 3, 4, 8, 74] | 23 => some [3, 4] | 24 => some [1, 3, 4, 8, 9] | 25 => some [3, 4, 8, 82] | 26 => some [3, 4, 8, 82] | 27 => some [3, 4, 8, 82] | 28 => some [3, 4, 8, 82] | 29 => some [3, 4, 8, 82] | 30 => some [3, 4, 8, 82] | 31 => some [3, 4, 8, 82] | 32 => some [3, 4, 8, 82] | 33 => some [3, 4, 8, 91] | 34 => some [3, 4, 8, 91] | 35 => some [3, 4, 8, 91] | 36 => some [3, 4, 8, 91] | 37 => some [3, 4, 8, 91] | 38 => some [3, 4, 8, 91] | 39 => some [2] | _ => none)
abbrev h27 : Hint := HQ h27a
@[go_sem] def h28a : Nat → Option (List Nat) := (fun id => match id with | 0 => some [1] | 1 => some [1, 8] | 2 => some [2, 3] | 3 => some [1, 10] | 4 => some [1, 10, 11] | 5 => some [2, 3] | 6 => some [1, 10, 16] | 7 => some [2, 3] | 8 => some [1, 10, 22] | 9 => some [2, 3] | 10 => some [1, 10, 28] | 11 => some [1, 31] | 12 => some [2, 3] | 13 => some [2, 3] | 14 => some [1, 10, 40] | 15 => some [2, 3] | 16 => some [1, 10, 47] | 17 => some [2, 3] | 18 => some [1, 10, 54] | 19 => some [1, 58] | 20 => some [2, 3] | 21 => some [2, 3] | 22 => some [1, 10, 61] | 23 => some [1, 10, 61] | 24 => some [1, 10, 61] | 25 => some [1, 4] | 26 => some [1, 4, 74] | 27 => some [1, 4, 74, 75] | 28 => some [1, 4, 74, 75] | 29 => some [1, 4, 79] | 30 => some [1, 4, 74, 75] | 31 => some [2, 3] | 32 => some [2, 3] | _ => none)
abbrev h28 : Hint := HQ h28a
@[go_sem] def h29a : Nat → Option (List Nat) := (fun id => match id with | 0 => some [2, 3] | 1 => some [3, 6] | 2 => some [3, 6, 7] | 3 => some [4] | 4 => some [3, 6, 12] | 5 => some [3, 6, 12] | 6 => some [3, 6, 12] | 7 => some [3, 6, 12] | 8 => some [3, 6, 12] | 9 => some [3, 6, 12] | 10 => some [20] | 11 => some [20, 21] | 12 => some [20, 21] | 13 => some [20, 21] | 14 => some [20, 21] | 15 => some [20, 21] | 16 => some [20, 21] | 17 => some [20, 21] | 18 => some [20, 21] | 19 => some [20, 21] | 20 => some [20, 21] | 21 => some [4] | 22 => some [4] | _ => none)
abbrev h29 : Hint := HQ h29a
@[go_sem] def h30a : Nat → Option (List Nat) := (fun id => match id with | 0 => some [0, 1] | 1 => some [0, 1] | 2 => some [1] | 3 => some [4, 5] | _ => none)
abbrev h30 : Hint := HQ h30a
@[go_sem] def h32a : Nat → Option (List Nat) := (fun id => match id with | 0 => some [0] | 1 => some [3] | 2 => some [3, 4] | 3 => some [3, 6] | 4 => some [3, 8] | 5 => some [10] | 6 => some [2] | 7 => some [2] | 8 => some [2] | 9 => some [2] | _ => none)
abbrev h32 : Hint := HQ h32a
@[go_sem] def h33a : Nat → Option (List Nat) := (fun id => match id with | 0 => some [0, 1] | 1 => some [1, 7, 8, 9] | 2 => some [1, 7, 8, 9, 10] | 3 => some [1, 6, 7, 8, 9] | 4 => some [1, 6, 7, 8, 9, 22] | 5 => some [4] | 6 => some [1, 6, 7, 8, 9, 27] | 7 => some [1, 7, 8, 9, 31] | 8 => some [4] | 9 => some [1, 7, 8, 9, 41] | 10 => some [4] | 11 => some [1, 7, 8, 9] | 12 => some [4] | _ => none)
def h33 : Hint := ⟨h33a, (fun id => match id with | 11 => some 0 | _ => none), (fun _ => none), [], false, (fun _ => none), fun _ => 0, 0, false⟩
@[go_sem] theorem h33x : h33.mix = (fun _ => none) := rfl
@[go_sem] theorem h33l : h33.live = h33a := rfl
@[go_sem] theorem h33o : h33.mode = fun _ => 0 := rfl
@[go_sem] theorem h33k : h33.keep = (fun id => match id with | 11 => some 0 | _ => none) := rfl
@[go_sem] theorem h33t : h33.tail = (fun _ => none) := rfl
@[go_sem] theorem h33v : h33.vars = [] := rfl
@[go_sem] theorem h33m : h33.mutc = false := rfl
@[go_sem] def h34a : Nat → Option (List Nat) := (fun id => match id with | 0 => some [2, 3] | 1 => some [2, 3, 12] | 2 => some [4] | 3 => some [3, 14] | 4 => some [4] | 5 => some [3, 14, 15] | 6 => some [3, 14, 15] | 7 => some [3, 14, 15] | 8 => some [3, 14, 15] | 9 => some [3, 14, 15] | 10 => some [3, 14, 15] | 11 => some [23] | 12 => some [23, 24] | 13 => some [23, 24] | 14 => some [23, 24] | 15 => some [23, 24] | 16 => some [23, 24] | 17 => some [23, 24] | 18 => some [23, 24] | 19 => some [23, 24] | 20 => some [23, 24] | 21 => some [23, 24] | 22 => some [4] | 23 => some [4] | _ => none)
abbrev h34 : Hint := HQ h34a
@[go_sem] def h35a : Nat → Option (List Nat) := (fun id => match id with | 0 => some [0] | 1 => some [3] | 2 => some [3, 4] | 3 => some [3, 4] | 4 => some [2] | 5 => some [3, 7] | 6 => some [2] | 7 => some [9] | 8 => some [2] | 9 => some [2] | _ => none)
abbrev h35 : Hint := HQ h35a
@[go_sem] def h36a : Nat → Option (List Nat) := (fun id => match id with | 0 => some [0] | 1 => some [2] | _ => none)
abbrev h36 : Hint := HQ h36a
@[go_sem] def h37a : Nat → Option (List Nat) := (fun id => match id with | 0 => some [0] | 1 => some [2, 3] | _ => none)
abbrev h37 : Hint := HQ h37a
@[go_sem] def h38a : Nat → Option (List Nat) := (fun id => match id with | 0 => some [0, 4, 5] | 1 => some [0, 4, 5, 15] | 2 => some [0, 4, 5, 15] | 3 => some [] | _ => none)
abbrev h38 : Hint := HQ h38a
@[go_sem] def h39a : Nat → Option (List Nat) := (fun id => match id with | 0 => some [1] | 1 => some [1, 3] | 2 => some [1, 3, 4, 5] | 3 => some [1, 3, 4, 5, 18] | 4 => some [1, 3, 4, 5, 18, 19] | 5 => some [1, 3, 4, 5, 18, 19] | 6 => some [1, 3, 4, 5, 18, 19] | 7 => some [1, 3, 4, 5] | 8 => some [2] | 9 => some [1, 3, 4, 5, 18, 37] | 10 => some [1, 3, 4, 5] | 11 => some [1, 4, 56] | 12 => some [2] | 13 => some [2] | 14 => some [1, 3, 4, 5, 18, 82] | 15 => some [1, 3, 4, 5, 18, 82] | 16 => some [1, 3, 5] | 17 => some [2] | 18 => some [1, 3, 4, 5, 18, 94] | 19 => some [1, 3] | 20 => some [2] | 21 => some [1, 3, 4, 5, 18, 107] | 22 => some [1, 3, 4, 5, 18, 107] | 23 => some [1, 3, 4, 5, 18, 107] | 24 => some [1, 3, 4, 5] | 25 => some [1, 3, 4, 5, 119] | 26 => some [1, 3, 4, 5] | 27 => some [1, 3, 129] | 28 => some [2] | 29 => some [1, 3, 7] | 30 => some [2] | 31 => some [2] | _ => none)
def h39 : Hint := ⟨h39a, (fun _ => none), (fun id => match id with | 10 => some 5 | 24 => some 5 | _ => none), [], false, (fun id => match id with | 10 => some ⟨[0, 1, 2, 3, 4, 6], [], .head 0 (.head 1 (.head 4 (.alt (.one 2 (.alt (.one 3 (.one 5 (.head 6 (.one 7 (.fin))))) (.one 5 (.head 3 (.head 6 (.one 7 (.fin))))))) (.one 5 (.head 2 (.head 3 (.head 6 (.one 7 (.fin)))))))))⟩ | 24 => some ⟨[0, 1, 2, 3, 4, 6], [], .head 0 (.head 1 (.head 4 (.alt (.one 2 (.alt (.one 3 (.one 5 (.head 6 (.one 7 (.fin))))) (.one 5 (.head 3 (.head 6 (.one 7 (.fin))))))) (.one 5 (.head 2 (.head 3 (.head 6 (.one 7 (.fin)))))))))⟩ | _ => none), fun _ => 0, 0, false⟩
@[go_sem] theorem h39x : h39.mix = (fun id => match id with | 10 => some ⟨[0, 1, 2, 3, 4, 6], [], .head 0 (.head 1 (.head 4 (.alt (.one 2 (.alt (.one 3 (.one 5 (.head 6 (.one 7 (.fin))))) (.one 5 (.head 3 (.head 6 (.one 7 (.fin))))))) (.one 5 (.head 2 (.head 3 (.head 6 (.one 7 (.fin)))))))))⟩ | 24 => some ⟨[0, 1, 2, 3, 4, 6], [], .head 0 (.head 1 (.head 4 (.alt (.one 2 (.alt (.one 3 (.one 5 (.head 6 (.one 7 (.fin))))) (.one 5 (.head 3 (.head 6 (.one 7 (.fin))))))) (.one 5 (.head 2 (.head 3 (.head 6 (.one 7 (.fin)))))))))⟩ | _ => none) := rfl
@[go_sem] theorem h39l : h39.live = h39a := rfl
@[go_sem] theorem h39o : h39.mode = fun _ => 0 := rfl
@[go_sem] theorem h39k : h39.keep = (fun _ => none) := rfl
@[go_sem] theorem h39t : h39.tail = (fun id => match id with | 10 => some 5 | 24 => some 5 | _ => none) := rfl
@[go_sem] theorem h39v : h39.vars = [] := rfl
@[go_sem] theorem h39m : h39.mutc = false := rfl
@[go_sem] def h40a : Nat → Option (List Nat) := (fun id => match id with | 0 => some [1, 2] | 1 => some [1, 2, 23] | 2 => some [4, 5] | 3 => some [1, 2, 26] | 4 => some [27] | 5 => some [4, 5] | 6 => some [4, 5] | 7 => some [1, 2, 6, 7, 8] | 8 => some [1, 2, 6, 7, 8, 35] | 9 => some [1, 2, 6, 7, 8, 43] | 10 => some [4, 5] | 11 => some [1, 2, 6, 7, 8] | 12 => some [1, 2, 6, 7, 8, 48] | 13 => some [1, 2, 6, 7, 8] | 14 => some [1, 2, 6, 7, 8, 9] | 15 => some [1, 2, 6, 7, 8, 9, 53] | 16 => some [1, 2, 6, 7, 8, 9] | 17 => some [1, 2, 6, 7, 8, 9] | 18 => some [1, 2, 6, 7, 8, 9] | 19 => some [1, 2, 6, 7, 8, 9, 59] | 20 => some [4, 5] | 21 => some [1, 2, 6, 7, 8] | 22 => some [1, 2, 8, 10] | 23 => some [1, 2, 8, 10, 11] | 24 => some [1, 2, 8, 10, 11, 75] | 25 => some [1, 2, 8, 10, 11] | 26 => some [1, 2, 8, 10, 79] | 27 => some [4, 5] | 28 => some [1, 2, 8, 10, 83] | 29 => some [1, 2, 8, 10, 79] | 30 => some [1, 2, 8, 10, 12] | 31 => some [2, 8, 10, 12, 93] | 32 => some [2, 8, 10, 12] | 33 => some [2, 8, 10, 12, 97] | 34 => some [2, 8, 10, 12, 97] | 35 => some [2, 8, 10, 12, 93] | 36 => some [12, 110] | 37 => some [12, 110] | 38 => some [4, 5] | _ => none)
def h40 : Hint := ⟨h40a, (fun _ => none), (fun id => match id with | 7 => some 6 | _ => none), [], false, (fun id => match id with | 7 => some ⟨[0, 1, 2, 3, 4, 5], [], .head 0 (.head 1 (.head 2 (.alt (.one 3 (.alt (.one 4 (.alt (.one 5 (.one 6 (.one 7 (.one 8 (.fin))))) (.one 6 (.head 5 (.one 7 (.one 8 (.fin))))))) (.one 6 (.head 4 (.head 5 (.one 7 (.one 8 (.fin)))))))) (.one 6 (.head 3 (.head 4 (.head 5 (.one 7 (.one 8 (.fin))))))))))⟩ | _ => none), fun _ => 0, 0, false⟩
@[go_sem] theorem h40x : h40.mix = (fun id => match id with | 7 => some ⟨[0, 1, 2, 3, 4, 5], [], .head 0 (.head 1 (.head 2 (.alt (.one 3 (.alt (.one 4 (.alt (.one 5 (.one 6 (.one 7 (.one 8 (.fin))))) (.one 6 (.head 5 (.one 7 (.one 8 (.fin))))))) (.one 6 (.head 4 (.head 5 (.one 7 (.one 8 (.fin)))))))) (.one 6 (.head 3 (.head 4 (.head 5 (.one 7 (.one 8 (.fin))))))))))⟩ | _ => none) := rfl
@[go_sem] theorem h40l : h40.live = h40a := rfl
@[go_sem] theorem h40o : h40.mode = fun _ => 0 := rfl
@[go_sem] theorem h40k : h40.keep = (fun _ => none) := rfl
@[go_sem] theorem h40t : h40.tail = (fun id => match id with | 7 => some 6 | _ => none) := rfl
@[go_sem] theorem h40v : h40.vars = [] := rfl
@[go_sem] theorem h40m : h40.mutc = false := rfl
@[go_sem] def h41a : Nat → Option (List Nat) := (fun id => match id with | 0 => some [0] | 1 => some [0, 3] | 2 => some [3, 11] | 3 => some [2] | 4 => some [3, 20] | 5 => some [2] | 6 => some [3, 43] | 7 => some [2] | 8 => some [2] | _ => none)
def h41 : Hint := ⟨h41a, (fun _ => none), (fun id => match id with | 5 => some 8 | 7 => some 9 | _ => none), [], false, (fun _ => none), fun _ => 0, 0, false⟩
@[go_sem] theorem h41x : h41.mix = (fun _ => none) := rfl
@[go_sem] theorem h41l : h41.live = h41a := rfl
@[go_sem] theorem h41o : h41.mode = fun _ => 0 := rfl
@[go_sem] theorem h41k : h41.keep = (fun _ => none) := rfl
@[go_sem] theorem h41t : h41.tail = (fun id => match id with | 5 => some 8 | 7 => some 9 | _ => none) := rfl
@[go_sem] theorem h41v : h41.vars = [] := rfl
@[go_sem] theorem h41m : h41.mutc = false := rfl
@[go_sem] def h42a : Nat → Option (List Nat) := (fun id => match id with | 0 => some [0] | 1 => some [0, 4] | 2 => some [0, 4, 10, 11, 12] | 3 => some [0, 4, 10, 11, 12, 13] | 4 => some [0, 4, 6, 10, 11, 12] | 5 => some [0, 4, 10, 11, 12, 17] | 6 => some [2, 3] | 7 => some [0, 4, 10, 11, 12] | 8 => some [2, 3] | _ => none)
abbrev h42 : Hint := HQ h42a
@[go_sem] def h43a : Nat → Option (List Nat) := (fun id => match id with | 0 => some [0] | 1 => some [0, 3] | 2 => some [3, 6, 7, 8] | 3 => some [3, 6, 7, 8, 9] | 4 => some [3, 5, 6, 7, 8] | 5 => some [3, 6, 7, 8] | 6 => some [3, 5, 6, 7, 8, 18] | 7 => some [3, 6, 7, 8] | 8 => some [3, 5, 6, 7, 8, 25] | 9 => some [3, 6, 7, 8] | 10 => some [3, 6, 7, 8] | 11 => some [2] | _ => none)
abbrev h43 : Hint := HQ h43a
@[go_sem] def h44a : Nat → Option (List Nat) := (fun id => match id with | 0 => some [0] | 1 => some [3] | 2 => some [3, 5] | 3 => some [5, 13, 14, 15] | 4 => some [5, 13, 14, 15, 16] | 5 => some [5, 7, 13, 14, 15] | 6 => some [5, 13, 14, 15] | 7 => some [5, 7, 13, 14, 15, 24] | 8 => some [5, 13, 14, 15] | 9 => some [5, 7, 13, 14, 15, 31] | 10 => some [5, 13, 14, 15] | 11 => some [5, 13, 14, 15] | 12 => some [2] | _ => none)
abbrev h44 : Hint := HQ h44a
@[go_sem] def h45a : Nat → Option (List Nat) := (fun id => match id with | 0 => some [0] | 1 => some [3] | 2 => some [3, 5] | 3 => some [5, 13, 14, 15] | 4 => some [5, 13, 14, 15, 16] | 5 => some [5, 7, 13, 14, 15] | 6 => some [5, 13, 14, 15] | 7 => some [5, 7, 13, 14, 15, 24] | 8 => some [5, 13, 14, 15] | 9 => some [5, 7, 13, 14, 15, 35] | 10 => some [5, 13, 14, 15] | 11 => some [5, 13, 14, 15] | 12 => some [2] | _ => none)
abbrev h45 : Hint := HQ h45a
@[go_sem] def h46a : Nat → Option (List Nat) := (fun id => match id with | 0 => some [0] | 1 => some [0, 3] | 2 => some [0, 3, 19] | 3 => some [0, 3, 45] | 4 => some [2] | 5 => some [2] | _ => none)
def h46 : Hint := ⟨h46a, (fun _ => none), (fun id => match id with | 4 => some 8 | _ => none), [], false, (fun _ => none), fun _ => 0, 0, false⟩
@[go_sem] theorem h46x : h46.mix = (fun _ => none) := rfl
@[go_sem] theorem h46l : h46.live = h46a := rfl
@[go_sem] theorem h46o : h46.mode = fun _ => 0 := rfl
@[go_sem] theorem h46k : h46.keep = (fun _ => none) := rfl
@[go_sem] theorem h46t : h46.tail = (fun id => match id with | 4 => some 8 | _ => none) := rfl
@[go_sem] theorem h46v : h46.vars = [] := rfl
@[go_sem] theorem h46m : h46.mutc = false := rfl
@[go_sem] def h47a : Nat → Option (List Nat) := (fun id => match id with | 0 => some [0, 1] | 1 => some [1, 7, 8, 9] | 2 => some [1, 7, 8, 9, 10] | 3 => some [1, 6, 7, 8, 9] | 4 => some [1, 6, 7, 8, 9, 22] | 5 => some [4] | 6 => some [1, 6, 7, 8, 9, 27] | 7 => some [1, 7, 8, 9, 31] | 8 => some [4] | 9 => some [1, 7, 8, 9, 41] | 10 => some [4] | 11 => some [1, 7, 8, 9] | 12 => some [4] | _ => none)
def h47 : Hint := ⟨h47a, (fun id => match id with | 11 => some 0 | _ => none), (fun _ => none), [], false, (fun _ => none), fun _ => 0, 0, false⟩
@[go_sem] theorem h47x : h47.mix = (fun _ => none) := rfl
@[go_sem] theorem h47l : h47.live = h47a := rfl
@[go_sem] theorem h47o : h47.mode = fun _ => 0 := rfl
@[go_sem] theorem h47k : h47.keep = (fun id => match id with | 11 => some 0 | _ => none) := rfl
@[go_sem] theorem h47t : h47.tail = (fun _ => none) := rfl
@[go_sem] theorem h47v : h47.vars = [] := rfl
@[go_sem] theorem h47m : h47.mutc = false := rfl
@[go_sem] def h48a : Nat → Option (List Nat) := (fun id => match id with | 0 => some [0] | 1 => some [2] | _ => none)
abbrev h48 : Hint := HQ h48a
@[go_sem] def h49a : Nat → Option (List Nat) := (fun id => match id with | 0 => some [0] | 1 => some [0, 14] | 2 => some [2] | 3 => some [2] | _ => none)
abbrev h49 : Hint := HQ h49a
@[go_sem] def h50a : Nat → Option (List Nat) := (fun id => match id with | 0 => some [0] | 1 => some [0, 6] | 2 => some [2] | 3 => some [0, 3] | 4 => some [2] | _ => none)
abbrev h50 : Hint := HQ h50a
@[go_sem] def h51a : Nat → Option (List Nat) := (fun id => match id with | 0 => some [1] | 1 => some [4] | 2 => some [2] | _ => none)
abbrev h51 : Hint := HQ h51a
@[go_sem] def h52a : Nat → Option (List Nat) := (fun id => match id with | 0 => some [0] | 1 => some [0, 5] | 2 => some [2] | 3 => some [0, 3] | 4 => some [0, 3, 7] | 5 => some [0, 3, 7] | 6 => some [0, 3, 18] | 7 => some [2] | 8 => some [2] | _ => none)
def h52 : Hint := ⟨h52a, (fun _ => none), (fun id => match id with | 7 => some 15 | _ => none), [], false, (fun _ => none), fun _ => 0, 0, false⟩
@[go_sem] theorem h52x : h52.mix = (fun _ => none) := rfl
@[go_sem] theorem h52l : h52.live = h52a := rfl
@[go_sem] theorem h52o : h52.mode = fun _ => 0 := rfl
@[go_sem] theorem h52k : h52.keep = (fun _ => none) := rfl
@[go_sem] theorem h52t : h52.tail = (fun id => match id with | 7 => some 15 | _ => none) := rfl
@[go_sem] theorem h52v : h52.vars = [] := rfl
@[go_sem] theorem h52m : h52.mutc = false := rfl
@[go_sem] def h53a : Nat → Option (List Nat) := (fun id => match id with | 0 => some [0] | 1 => some [0, 3] | 2 => some [3, 7] | 3 => some [3, 7, 8, 9] | 4 => some [3, 5, 7] | 5 => some [3, 5, 7] | 6 => some [3, 7] | 7 => some [3, 5, 7, 14] | 8 => some [3, 7] | 9 => some [3, 5, 7, 20] | 10 => some [3, 7] | 11 => some [2] | _ => none)
abbrev h53 : Hint := HQ h53a
@[go_sem] def h54a : Nat → Option (List Nat) := (fun id => match id with | 0 => some [0, 1, 2] | 1 => some [0, 1, 2, 7] | 2 => some [1, 2, 7, 11] | 3 => some [1, 2, 7, 11, 12, 13] | 4 => some [1, 2, 7, 9, 11] | 5 => some [1, 2, 7, 9, 11, 15] | 6 => some [1, 2, 7, 11] | 7 => some [1, 2, 7, 9, 11, 28] | 8 => some [1, 2, 7, 9, 11, 28] | 9 => some [1, 2, 7, 11] | 10 => some [6] | _ => none)
abbrev h54 : Hint := HQ h54a
@[go_sem] def h55a : Nat → Option (List Nat) := (fun id => match id with | 0 => some [1, 2] | 1 => some [1, 2, 15] | 2 => some [4, 5] | 3 => some [1, 2, 27] | 4 => some [4, 5] | 5 => some [1, 2, 35] | 6 => some [4, 5] | 7 => some [1, 2, 6, 7, 8] | 8 => some [1, 2, 6, 7, 48] | 9 => some [4, 5] | 10 => some [1, 2, 6, 7, 9] | 11 => some [1, 2, 6, 7, 9, 10] | 12 => some [1, 2, 9, 10, 65, 66] | 13 => some [1, 2, 9, 10, 65, 66, 67] | 14 => some [1, 2, 9, 10, 12, 65, 66] | 15 => some [1, 2, 9, 10, 12, 65, 66, 70, 71] | 16 => some [1, 2, 9, 10, 12, 65, 66, 70, 71, 72] | 17 => some [1, 2, 9, 10, 12, 65, 66, 70, 71, 74] | 18 => some [4, 5] | 19 => some [1, 2, 9, 10, 12, 65, 66, 70, 71] | 20 => some [1, 2, 9, 10, 12, 65, 66, 70, 71] | 21 => some [1, 2, 9, 10, 65, 66] | 22 => some [1, 2, 9, 13] | 23 => some [1, 2, 9, 13, 86] | 24 => some [4, 5] | 25 => some [1, 2, 9, 13, 90] | 26 => some [1, 2, 9, 13, 90] | 27 => some [2, 9, 13, 100] | 28 => some [2, 9, 13, 14] | 29 => some [2, 9, 13] | 30 => some [2, 13, 114] | 31 => some [2, 9, 13, 100] | 32 => some [13, 119] | 33 => some [13, 119] | 34 => some [4, 5] | _ => none)
def h55 : Hint := ⟨h55a, (fun _ => none), (fun id => match id with | 29 => some 8 | _ => none), [], false, (fun _ => none), fun _ => 0, 0, false⟩
@[go_sem] theorem h55x : h55.mix = (fun _ => none) := rfl
@[go_sem] theorem h55l : h55.live = h55a := rfl
@[go_sem] theorem h55o : h55.mode = fun _ => 0 := rfl
@[go_sem] theorem h55k : h55.keep = (fun _ => none) := rfl
@[go_sem] theorem h55t : h55.tail = (fun id => match id with | 29 => some 8 | _ => none) := rfl
@[go_sem] theorem h55v : h55.vars = [] := rfl
@[go_sem] theorem h55m : h55.mutc = false := rfl
@[go_sem] def h56a : Nat → Option (List Nat) := (fun id => match id with | 0 => some [0] | 1 => some [0, 11] | 2 => some [0, 3] | 3 => some [0, 22] | 4 => some [2] | 5 => some [2] | _ => none)
def h56 : Hint := ⟨h56a, (fun _ => none), (fun id => match id with | 4 => some 8 | _ => none), [], false, (fun _ => none), fun _ => 0, 0, false⟩
@[go_sem] theorem h56x : h56.mix = (fun _ => none) := rfl
@[go_sem] theorem h56l : h56.live = h56a := rfl
@[go_sem] theorem h56o : h56.mode = fun _ => 0 := rfl
@[go_sem] theorem h56k : h56.keep = (fun _ => none) := rfl
@[go_sem] theorem h56t : h56.tail = (fun id => match id with | 4 => some 8 | _ => none) := rfl
@[go_sem] theorem h56v : h56.vars = [] := rfl
@[go_sem] theorem h56m : h56.mutc = false := rfl
@[go_sem] def h57a : Nat → Option (List Nat) := (fun id => match id with | 0 => some [0] | 1 => some [0, 6] | 2 => some [0, 6, 7] | 3 => some [2] | 4 => some [0, 6, 9] | 5 => some [2] | 6 => some [0, 6, 11] | 7 => some [2] | 8 => some [0, 13] | 9 => some [2] | 10 => some [0, 3] | 11 => some [0, 16, 17] | 12 => some [0, 16, 17, 18] | 13 => some [0, 4, 5, 16, 17] | 14 => some [0, 4, 16, 17, 23] | 15 => some [2] | 16 => some [0, 16, 17] | 17 => some [2] | _ => none)
abbrev h57 : Hint := HQ h57a
@[go_sem] def h59a : Nat → Option (List Nat) := (fun id => match id with | 0 => some [0] | 1 => some [0, 7] | 2 => some [0, 3, 4] | 3 => some [0, 4, 36] | 4 => some [2] | 5 => some [0] | 6 => some [2] | _ => none)
abbrev h59 : Hint := HQ h59a
@[go_sem] def h60a : Nat → Option (List Nat) := (fun id => match id with | 0 => some [0, 1] | 1 => some [4] | _ => none)
abbrev h60 : Hint := HQ h60a
@[go_sem] def h61a : Nat → Option (List Nat) := (fun id => match id with | 0 => some [0] | 1 => some [2] | _ => none)
abbrev h61 : Hint := HQ h61a
@[go_sem] def h62a : Nat → Option (List Nat) := (fun id => match id with | 0 => some [0] | 1 => some [0, 7] | 2 => some [2] | 3 => some [3] | 4 => some [3, 10] | 5 => some [3, 10, 11] | 6 => some [3, 4, 10] | 7 => some [3, 10, 16] | 8 => some [2] | 9 => some [3, 10] | 10 => some [2] | _ => none)
abbrev h62 : Hint := HQ h62a
@[go_sem] def h63a : Nat → Option (List Nat) := (fun id => match id with | 0 => some [1] | 1 => some [1, 10] | 2 => some [2] | 3 => some [2] | _ => none)
def h63 : Hint := ⟨h63a, (fun _ => none), (fun id => match id with | 3 => some 18 | _ => none), [], false, (fun _ => none), fun _ => 0, 0, false⟩
@[go_sem] theorem h63x : h63.mix = (fun _ => none) := rfl
@[go_sem] theorem h63l : h63.live = h63a := rfl
@[go_sem] theorem h63o : h63.mode = fun _ => 0 := rfl
@[go_sem] theorem h63k : h63.keep = (fun _ => none) := rfl
@[go_sem] theorem h63t : h63.tail = (fun id => match id with | 3 => some 18 | _ => none) := rfl
@[go_sem] theorem h63v : h63.vars = [] := rfl
@[go_sem] theorem h63m : h63.mutc = false := rfl
@[go_sem] def h64a : Nat → Option (List Nat) := (fun id => match id with | 0 => some [0] | 1 => some [0, 4] | 2 => some [2] | 3 => some [2] | _ => none)
abbrev h64 : Hint := HQ h64a
@[go_sem] def h66a : Nat → Option (List Nat) := (fun id => match id with | 0 => some [0] | 1 => some [2] | _ => none)
abbrev h66 : Hint := HQ h66a
@[go_sem] def h67a : Nat → Option (List Nat) := (fun id => match id with | 0 => some [0] | 1 => some [0, 3] | 2 => some [0, 3, 4] | 3 => some [0, 3, 4, 11] | 4 => some [0, 3, 4, 5, 6] | 5 => some [0, 3, 4, 6] | 6 => some [0, 3, 4] | 7 => some [2] | _ => none)
def h67 : Hint := ⟨h67a, (fun _ => none), (fun _ => none), [3], false, (fun _ => none), fun _ => 0, 0, false⟩
@[go_sem] theorem h67x : h67.mix = (fun _ => none) := rfl
@[go_sem] theorem h67l : h67.live = h67a := rfl
@[go_sem] theorem h67o : h67.mode = fun _ => 0 := rfl
@[go_sem] theorem h67k : h67.keep = (fun _ => none) := rfl
@[go_sem] theorem h67t : h67.tail = (fun _ => none) := rfl
@[go_sem] theorem h67v : h67.vars = [3] := rfl
@[go_sem] theorem h67m : h67.mutc = false := rfl
@[go_sem] def h68a : Nat → Option (List Nat) := (fun id => match id with | 0 => some [0] | 1 => some [0, 3] | 2 => some [0, 3, 10] | 3 => some [0, 3, 5, 6] | 4 => some [0, 3, 5, 19] | 5 => some [2] | 6 => some [0, 3] | 7 => some [2] | _ => none)
abbrev h68 : Hint := HQ h68a
@[go_sem] def h69a : Nat → Option (List Nat) := (fun id => match id with | 0 => some [0] | 1 => some [2] | _ => none)
abbrev h69 : Hint := HQ h69a
@[go_sem] def h70a : Nat → Option (List Nat) := (fun id => match id with | 0 => some [0] | 1 => some [2] | _ => none)
abbrev h70 : Hint := HQ h70a
@[go_sem] def h71a : Nat → Option (List Nat) := (fun id => match id with | 0 => some [0] | 1 => some [2] | _ => none)
abbrev h71 : Hint := HQ h71a
@[go_sem] def h72a : Nat → Option (List Nat) := (fun id => match id with | 0 => some [0] | 1 => some [2] | _ => none)
abbrev h72 : Hint := HQ h72a
@[go_sem] def h73a : Nat → Option (List Nat) := (fun id => match id with | 0 => some [0, 1] | 1 => some [4] | _ => none)
abbrev h73 : Hint := HQ h73a
@[go_sem] def h74a : Nat → Option (List Nat) := (fun id => match id with | 0 => some [0] | 1 => some [0, 3] | 2 => some [0, 3, 7] | 3 => some [0, 3] | 4 => some [0, 3] | 5 => some [3, 4] | 6 => some [3, 4] | 7 => some [3, 4, 5] | 8 => some [3, 4, 5, 21] | 9 => some [3, 4, 5] | 10 => some [3, 4, 5] | 11 => some [4] | 12 => some [2] | _ => none)
def h74 : Hint := ⟨h74a, (fun _ => none), (fun _ => none), [3], false, (fun _ => none), fun _ => 0, 0, false⟩
@[go_sem] theorem h74x : h74.mix = (fun _ => none) := rfl
@[go_sem] theorem h74l : h74.live = h74a := rfl
@[go_sem] theorem h74o : h74.mode = fun _ => 0 := rfl
@[go_sem] theorem h74k : h74.keep = (fun _ => none) := rfl
@[go_sem] theorem h74t : h74.tail = (fun _ => none) := rfl
@[go_sem] theorem h74v : h74.vars = [3] := rfl
@[go_sem] theorem h74m : h74.mutc = false := rfl
@[go_sem] def h75a : Nat → Option (List Nat) := (fun id => match id with | 0 => some [0] | 1 => some [2] | _ => none)
abbrev h75 : Hint := HQ h75a
@[go_sem] def h76a : Nat → Option (List Nat) := (fun id => match id with | 0 => some [0] | 1 => some [2] | _ => none)
abbrev h76 : Hint := HQ h76a
@[go_sem] def h78a : Nat → Option (List Nat) := (fun id => match id with | 0 => some [0, 1] | 1 => some [0, 1] | 2 => some [] | 3 => some [4] | _ => none)
abbrev h78 : Hint := HQ h78a
@[go_sem] def h79a : Nat → Option (List Nat) := (fun id => match id with | 0 => some [1] | 1 => some [2] | _ => none)
abbrev h79 : Hint := HQ h79a
@[go_sem] def h81a : Nat → Option (List Nat) := (fun id => match id with | 0 => some [0] | 1 => some [0, 5] | 2 => some [0, 5] | 3 => some [0, 5, 6] | 4 => some [0, 5, 6, 14] | 5 => some [0, 5, 6] | 6 => some [0, 5, 6] | 7 => some [2, 3, 4] | _ => none)
abbrev h81 : Hint := HQ h81a
@[go_sem] def h82a : Nat → Option (List Nat) := (fun id => match id with | 0 => some [0] | 1 => some [0, 4] | 2 => some [2] | 3 => some [2] | _ => none)
abbrev h82 : Hint := HQ h82a
@[go_sem] def h83a : Nat → Option (List Nat) := (fun id => match id with | 0 => some [0] | 1 => some [0, 3] | 2 => some [0, 3, 4] | 3 => some [0, 3, 4] | 4 => some [0, 3, 4] | 5 => some [0, 3, 4] | 6 => some [0, 3, 4, 16] | 7 => some [2] | _ => none)
abbrev h83 : Hint := HQ h83a
@[go_sem] def h84a : Nat → Option (List Nat) := (fun id => match id with | 0 => some [0, 1] | 1 => some [0, 1, 12] | 2 => some [4] | 3 => some [0, 1, 21] | 4 => some [4] | 5 => some [0, 1, 5, 6] | 6 => some [0, 1, 5, 31] | 7 => some [4] | 8 => some [4] | _ => none)
abbrev h84 : Hint := HQ h84a
@[go_sem] def h85a : Nat → Option (List Nat) := (fun id => match id with | 0 => some [0, 1] | 1 => some [4] | _ => none)
abbrev h85 : Hint := HQ h85a
@[go_sem] def h87a : Nat → Option (List Nat) := (fun id => match id with | 0 => some [0] | 1 => some [0, 4] | 2 => some [0, 4, 5, 6] | 3 => some [0, 4, 5, 6] | 4 => some [2, 3] | 5 => some [0, 4, 5, 6, 13] | 6 => some [2, 3] | 7 => some [0, 4, 5, 6, 18] | 8 => some [0, 5, 6, 7, 8] | 9 => some [0, 4, 5, 6, 28] | 10 => some [0, 4, 5, 6, 7, 8] | 11 => some [0, 5, 6, 7, 8, 38] | 12 => some [0, 5, 6, 7, 8, 38, 39] | 13 => some [0, 5, 6, 7, 8, 38, 39] | 14 => some [0, 5, 6, 7, 8, 41] | 15 => some [0, 5, 6, 7, 8, 38, 39] | 16 => some [0, 4, 5, 6, 43] | 17 => some [0, 4, 5, 6, 7, 8] | 18 => some [0, 5, 6, 7, 8, 53] | 19 => some [0, 5, 6, 7, 8, 53, 54] | 20 => some [0, 5, 6, 7, 8, 53, 54] | 21 => some [0, 5, 6, 7, 8, 56] | 22 => some [0, 5, 6, 7, 8, 53, 54] | 23 => some [0, 5, 6, 7, 8, 58, 59] | 24 => some [0, 5, 6, 7, 8, 58, 59, 60] | 25 => some [0, 5, 6, 7, 8, 9, 58, 59] | 26 => some [0, 7, 8, 9, 58, 59, 84] | 27 => some [2, 3] | 28 => some [0, 7, 8, 58, 59] | 29 => some [0, 5, 6, 7, 8, 58, 59] | 30 => some [0, 5, 6, 7, 8, 58, 59] | 31 => some [2, 3] | _ => none)
abbrev h87 : Hint := HQ h87a
@[go_sem] def h88a : Nat → Option (List Nat) := (fun id => match id with | 0 => some [0, 1] | 1 => some [4] | _ => none)
abbrev h88 : Hint := HQ h88a
@[go_sem] def h89a : Nat → Option (List Nat) := (fun id => match id with | 0 => some [0, 1] | 1 => some [0, 1, 6] | 2 => some [0, 1] | 3 => some [4] | _ => none)
def h89 : Hint := ⟨h89a, (fun _ => none), (fun id => match id with | 2 => some 4 | _ => none), [], false, (fun id => match id with | 2 => some ⟨[0, 1, 2, 3], [], .head 0 (.head 1 (.alt (.one 2 (.alt (.one 3 (.one 4 (.one 5 (.fin)))) (.one 4 (.head 3 (.one 5 (.fin)))))) (.one 4 (.head 2 (.head 3 (.one 5 (.fin)))))))⟩ | _ => none), fun _ => 0, 0, false⟩
@[go_sem] theorem h89x : h89.mix = (fun id => match id with | 2 => some ⟨[0, 1, 2, 3], [], .head 0 (.head 1 (.alt (.one 2 (.alt (.one 3 (.one 4 (.one 5 (.fin)))) (.one 4 (.head 3 (.one 5 (.fin)))))) (.one 4 (.head 2 (.head 3 (.one 5 (.fin)))))))⟩ | _ => none) := rfl
@[go_sem] theorem h89l : h89.live = h89a := rfl
@[go_sem] theorem h89o : h89.mode = fun _ => 0 := rfl
@[go_sem] theorem h89k : h89.keep = (fun _ => none) := rfl
@[go_sem] theorem h89t : h89.tail = (fun id => match id with | 2 => some 4 | _ => none) := rfl
@[go_sem] theorem h89v : h89.vars = [] := rfl
@[go_sem] theorem h89m : h89.mutc = false := rfl
@[go_sem] def h91a : Nat → Option (List Nat) := (fun id => match id with | 0 => some [0, 1] | 1 => some [4] | _ => none)
abbrev h91 : Hint := HQ h91a
@[go_sem] def h92a : Nat → Option (List Nat) := (fun id => match id with | 0 => some [0, 1] | 1 => some [0, 1, 7] | 2 => some [0, 1, 7, 18] | 3 => some [4, 5, 6] | 4 => some [0, 1, 7, 8, 9, 10] | 5 => some [0, 1, 7, 8, 9, 10, 28] | 6 => some [4, 5, 6] | 7 => some [0, 1, 8, 9, 10, 11] | 8 => some [0, 1, 8, 9, 10, 11, 12] | 9 => some [0, 1, 8, 9, 10, 11, 12, 37] | 10 => some [0, 1, 8, 9, 10, 11, 12] | 11 => some [0, 1, 8, 11, 12, 65] | 12 => some [4, 5, 6] | 13 => some [0, 1, 8, 11, 12] | 14 => some [0, 1, 8, 9, 10, 11, 12] | 15 => some [4, 5, 6] | _ => none)
abbrev h92 : Hint := HQ h92a
@[go_sem] def h93a : Nat → Option (List Nat) := (fun id => match id with | 0 => some [0] | 1 => some [2] | _ => none)
abbrev h93 : Hint := HQ h93a
@[go_sem] def h94a : Nat → Option (List Nat) := (fun id => match id with | 0 => some [0] | 1 => some [2] | _ => none)
abbrev h94 : Hint := HQ h94a
@[go_sem] def h95a : Nat → Option (List Nat) := (fun id => match id with | 0 => some [0] | 1 => some [0, 3] | 2 => some [3, 6, 7, 8] | 3 => some [3, 6, 7, 8, 9] | 4 => some [3, 5, 6, 7, 8] | 5 => some [3, 5, 6, 7, 8, 14] | 6 => some [3, 5, 6, 7, 8, 14] | 7 => some [3, 6, 7, 8] | 8 => some [3, 5, 6, 7, 8, 36] | 9 => some [3, 6, 7, 8] | 10 => some [3, 5, 6, 7, 8, 44] | 11 => some [3, 6, 7, 8] | 12 => some [3, 5, 6, 7, 8, 58] | 13 => some [3, 6, 7, 8] | 14 => some [3, 6, 7, 8] | 15 => some [2] | _ => none)
def h95 : Hint := ⟨h95a, (fun _ => none), (fun _ => none), [3], false, (fun _ => none), fun _ => 0, 0, false⟩
@[go_sem] theorem h95x : h95.mix = (fun _ => none) := rfl
@[go_sem] theorem h95l : h95.live = h95a := rfl
@[go_sem] theorem h95o : h95.mode = fun _ => 0 := rfl
@[go_sem] theorem h95k : h95.keep = (fun _ => none) := rfl
@[go_sem] theorem h95t : h95.tail = (fun _ => none) := rfl
@[go_sem] theorem h95v : h95.vars = [3] := rfl
@[go_sem] theorem h95m : h95.mutc = false := rfl
@[go_sem] def h96a : Nat → Option (List Nat) := (fun id => match id with | 0 => some [0, 1] | 1 => some [4] | _ => none)
abbrev h96 : Hint := HQ h96a
@[go_sem] def h97a : Nat → Option (List Nat) := (fun id => match id with | 0 => some [0, 1] | 1 => some [0, 1, 7] | 2 => some [4] | 3 => some [4] | _ => none)
def h97 : Hint := ⟨h97a, (fun _ => none), (fun _ => none), [0], false, (fun _ => none), fun _ => 0, 0, false⟩
@[go_sem] theorem h97x : h97.mix = (fun _ => none) := rfl
@[go_sem] theorem h97l : h97.live = h97a := rfl
@[go_sem] theorem h97o : h97.mode = fun _ => 0 := rfl
@[go_sem] theorem h97k : h97.keep = (fun _ => none) := rfl
@[go_sem] theorem h97t : h97.tail = (fun _ => none) := rfl
@[go_sem] theorem h97v : h97.vars = [0] := rfl
@[go_sem] theorem h97m : h97.mutc = false := rfl
@[go_sem] def h98a : Nat → Option (List Nat) := (fun id => match id with | 0 => some [1] | 1 => some [2] | _ => none)
def h98 : Hint := ⟨h98a, (fun _ => none), (fun id => match id with | 1 => some 18 | _ => none), [], false, (fun _ => none), fun _ => 0, 0, false⟩
@[go_sem] theorem h98x : h98.mix = (fun _ => none) := rfl
@[go_sem] theorem h98l : h98.live = h98a := rfl
@[go_sem] theorem h98o : h98.mode = fun _ => 0 := rfl
@[go_sem] theorem h98k : h98.keep = (fun _ => none) := rfl
@[go_sem] theorem h98t : h98.tail = (fun id => match id with | 1 => some 18 | _ => none) := rfl
@[go_sem] theorem h98v : h98.vars = [] := rfl
@[go_sem] theorem h98m : h98.mutc = false := rfl
@[go_sem] def h103a : Nat → Option (List Nat) := (fun id => match id with | 0 => some [0, 1] | 1 => some [0, 1, 16] | 2 => some [0, 1] | 3 => some [4] | _ => none)
abbrev h103 : Hint := HQ h103a
@[go_sem] def h107a : Nat → Option (List Nat) := (fun id => match id with | 0 => some [0, 1] | 1 => some [0, 1, 7] | 2 => some [4] | 3 => some [4] | _ => none)
abbrev h107 : Hint := HQ h107a
@[go_sem] def h109a : Nat → Option (List Nat) := (fun id => match id with | 0 => some [0] | 1 => some [0, 4] | 2 => some [2] | 3 => some [2] | _ => none)
abbrev h109 : Hint := HQ h109a
@[go_sem] def h110a : Nat → Option (List Nat) := (fun id => match id with | 0 => some [0] | 1 => some [0, 3] | 2 => some [2] | _ => none)
abbrev h110 : Hint := HQ h110a
@[go_sem] def h111a : Nat → Option (List Nat) := (fun id => match id with | 0 => some [0, 1, 4] | 1 => some [0, 1, 4, 20] | 2 => some [0, 1, 4, 5] | 3 => some [0, 1, 4, 5] | 4 => some [0, 1, 4, 6, 7] | 5 => some [0, 1, 4, 6, 8, 9] | 6 => some [0, 1, 4, 8, 9, 10, 11] | 7 => some [0, 1, 4, 8, 10, 11] | 8 => some [0, 1, 4, 10, 11] | 9 => some [0, 1, 4, 10] | 10 => some [0, 1, 4] | 11 => some [0, 1, 4] | 12 => some [0, 4, 12] | 13 => some [0, 4, 12, 99] | 14 => some [0, 4, 12, 13] | 15 => some [0, 4, 12, 13] | 16 => some [0, 4, 12, 14, 15] | 17 => some [0, 4, 12, 14] | 18 => some [0, 4, 12] | 19 => some [0, 4, 12, 99] | 20 => some [0, 4, 12, 139] | 21 => some [0, 4, 12, 16] | 22 => some [0, 4, 12, 16] | 23 => some [0, 4, 12] | 24 => some [0, 4, 12, 139] | 25 => some [0, 12, 161] | 26 => some [0, 12, 161] | _ => none)
def h111 : Hint := ⟨h111a, (fun _ => none), (fun id => match id with | 7 => some 12 | 8 => some 12 | 9 => some 12 | 10 => some 12 | 17 => some 12 | 18 => some 12 | 23 => some 12 | _ => none), [], false, (fun _ => none), fun _ => 0, 0, false⟩
@[go_sem] theorem h111x : h111.mix = (fun _ => none) := rfl
@[go_sem] theorem h111l : h111.live = h111a := rfl
@[go_sem] theorem h111o : h111.mode = fun _ => 0 := rfl
@[go_sem] theorem h111k : h111.keep = (fun _ => none) := rfl
@[go_sem] theorem h111t : h111.tail = (fun id => match id with | 7 => some 12 | 8 => some 12 | 9 => some 12 | 10 => some 12 | 17 => some 12 | 18 => some 12 | 23 => some 12 | _ => none) := rfl
@[go_sem] theorem h111v : h111.vars = [] := rfl
@[go_sem] theorem h111m : h111.mutc = false := rfl
@[go_sem] def h112a : Nat → Option (List Nat) := (fun id => match id with | 0 => some [0, 1, 2, 3, 4, 10, 11] | 1 => some [0, 1, 2, 3, 4, 10, 11, 28] | 2 => some [0, 1, 2, 3, 4, 10, 11, 28] | 3 => some [0, 1, 2, 3, 4, 10, 11, 12] | 4 => some [0, 1, 2, 3, 4, 10, 11, 12, 13] | 5 => some [0, 1, 2, 3, 4, 10, 11, 12, 13, 30] | 6 => some [0, 1, 2, 3, 4, 10, 11, 12, 13, 30] | 7 => some [0, 1, 2, 3, 4, 10, 11, 12, 13, 34] | 8 => some [0, 1, 2, 3, 4, 10, 11, 12, 13, 14] | 9 => some [0, 1, 2, 3, 4, 10, 11, 12, 13, 14, 15] | 10 => some [0, 1, 3, 4, 10, 11, 12, 13, 14, 15, 16] | 11 => some [0, 1, 3, 4, 10, 11, 12, 13, 14, 15, 16, 46] | 12 => some [0, 1, 3, 4, 10, 11, 12, 13, 14, 15, 16] | 13 => some [0, 1, 3, 4, 10, 11, 12, 13, 14, 15, 16] | 14 => some [0, 1, 3, 4, 10, 11, 12, 13, 14, 15, 16] | 15 => some [0, 1, 3, 4, 10, 11, 12, 13] | 16 => some [0, 3, 4, 10, 11, 12, 13] | 17 => some [0, 1, 3, 4, 10, 11, 12, 13, 17] | 18 => some [0, 1, 3, 4, 10, 11, 12, 13, 17, 68] | 19 => some [0, 1, 3, 4, 10, 11, 12, 13, 17] | 20 => some [0, 1, 3, 4, 10, 11, 12, 13, 17, 18] | 21 => some [0, 3, 4, 10, 11, 12, 13, 17, 18] | 22 => some [0, 1, 3, 4, 10, 11, 12, 13, 17] | 23 => some [0, 1, 3, 4, 10, 11, 12, 13] | 24 => some [0, 3, 4, 10, 11, 12, 13] | 25 => some [0, 4, 10, 11, 12, 13, 89] | 26 => some [0, 4, 10, 11, 12, 13] | 27 => some [0, 4, 10, 11, 12, 13, 89] | 28 => some [0, 10, 11, 12, 13, 94] | 29 => some [10, 11] | 30 => some [10, 11] | _ => none)
def h112 : Hint := ⟨h112a, (fun _ => none), (fun _ => none), [0], false, (fun _ => none), fun _ => 0, 0, false⟩
@[go_sem] theorem h112x : h112.mix = (fun _ => none) := rfl
@[go_sem] theorem h112l : h112.live = h112a := rfl
@[go_sem] theorem h112o : h112.mode = fun _ => 0 := rfl
@[go_sem] theorem h112k : h112.keep = (fun _ => none) := rfl
@[go_sem] theorem h112t : h112.tail = (fun _ => none) := rfl
@[go_sem] theorem h112v : h112.vars = [0] := rfl
@[go_sem] theorem h112m : h112.mutc = false := rfl
@[go_sem] def h113a : Nat → Option (List Nat) := (fun id => match id with | 0 => some [0, 1] | 1 => some [0, 1, 11] | 2 => some [0, 17] | 3 => some [4] | 4 => some [0, 5] | 5 => some [0, 5, 6] | 6 => some [0, 5, 6, 23] | 7 => some [0, 5, 6, 23] | 8 => some [0, 5, 6, 7] | 9 => some [0, 5, 7] | 10 => some [5, 7, 34] | 11 => some [5, 7] | 12 => some [4] | 13 => some [4] | 14 => some [9] | 15 => some [4] | _ => none)
abbrev h113 : Hint := HQ h113a
@[go_sem] def h114a : Nat → Option (List Nat) := (fun id => match id with | 0 => some [0] | 1 => some [0, 5] | 2 => some [2, 3, 4] | 3 => some [0, 12] | 4 => some [2, 3, 4] | 5 => some [0, 15] | 6 => some [2, 3, 4] | 7 => some [0, 18] | 8 => some [2, 3, 4] | 9 => some [0, 25] | 10 => some [2, 3, 4] | 11 => some [0, 28] | 12 => some [2, 3, 4] | 13 => some [35] | 14 => some [2, 3, 4] | 15 => some [2, 3, 4] | _ => none)
abbrev h114 : Hint := HQ h114a
@[go_sem] def h115a : Nat → Option (List Nat) := (fun id => match id with | 0 => some [0] | 1 => some [2] | _ => none)
abbrev h115 : Hint := HQ h115a
@[go_sem] def h116a : Nat → Option (List Nat) := (fun id => match id with | 0 => some [0, 1] | 1 => some [0, 1, 5] | 2 => some [4] | 3 => some [0, 1, 5, 11] | 4 => some [4] | 5 => some [0, 1, 5, 25] | 6 => some [0, 1, 5, 25] | 7 => some [4] | 8 => some [0, 1, 50] | 9 => some [4] | _ => none)
def h116 : Hint := ⟨h116a, (fun _ => none), (fun _ => none), [0], false, (fun _ => none), fun _ => 0, 0, false⟩
@[go_sem] theorem h116x : h116.mix = (fun _ => none) := rfl
@[go_sem] theorem h116l : h116.live = h116a := rfl
@[go_sem] theorem h116o : h116.mode = fun _ => 0 := rfl
@[go_sem] theorem h116k : h116.keep = (fun _ => none) := rfl
@[go_sem] theorem h116t : h116.tail = (fun _ => none) := rfl
@[go_sem] theorem h116v : h116.vars = [0] := rfl
@[go_sem] theorem h116m : h116.mutc = false := rfl
@[go_sem] def h117a : Nat → Option (List Nat) := (fun id => match id with | 0 => some [0, 1] | 1 => some [0, 1, 6] | 2 => some [0, 1] | 3 => some [4] | _ => none)
abbrev h117 : Hint := HQ h117a
@[go_sem] def h128a : Nat → Option (List Nat) := (fun id => match id with | 0 => some [0] | 1 => some [2] | _ => none)
abbrev h128 : Hint := HQ h128a
@[go_sem] def h129a : Nat → Option (List Nat) := (fun id => match id with | 0 => some [0, 2] | 1 => some [0, 2, 4] | 2 => some [0] | 3 => some [0, 2, 4] | 4 => some [0, 2, 8] | 5 => some [0, 2] | 6 => some [0, 2, 8] | 7 => some [0, 2, 14] | 8 => some [0, 2] | 9 => some [0, 2, 14] | 10 => some [2] | _ => none)
abbrev h129 : Hint := HQ h129a
@[go_sem] def h130a : Nat → Option (List Nat) := (fun id => match id with | 0 => some [0] | 1 => some [3] | 2 => some [2] | 3 => some [2] | _ => none)
abbrev h130 : Hint := HQ h130a
@[go_sem] def h131a : Nat → Option (List Nat) := (fun id => match id with | 0 => some [0] | 1 => some [2] | _ => none)
abbrev h131 : Hint := HQ h131a
@[go_sem] def h132a : Nat → Option (List Nat) := (fun id => match id with | 0 => some [0] | 1 => some [2] | 2 => some [2] | _ => none)
abbrev h132 : Hint := HQ h132a
@[go_sem] def h139a : Nat → Option (List Nat) := (fun id => match id with | 0 => some [0] | 1 => some [0, 4] | 2 => some [2] | 3 => some [2] | _ => none)
abbrev h139 : Hint := HQ h139a
def hints (f : Nat) : Hint := match f with
 | 3 => h3
 | 4 => h4
 | 5 => h5
 | 6 => h6
 | 7 => h7
 | 8 => h8
 | 9 => h9
 | 10 => h10
 | 11 => h11
 | 12 => h12
 | 13 => h13
 | 14 => h14
 | 15 => h15
 | 16 => h16
 | 17 => h17
 | 18 => h18
 | 19 => h19
 | 20 => h20
 | 21 => h21
 | 22 => h22
 | 23 => h23
 | 24 => h24
 | 25 => h25
 | 26 => h26
 | 27 => h27
 | 28 => h28
 | 29 => h29
 | 30 => h30
 | 32 => h32
 | 33 => h33
 | 34 => h34
 | 35 => h35
 | 36 => h36
 | 37 => h37
 | 38 => h38
 | 39 => h39
 | 40 => h40
 | 41 => h41
 | 42 => h42
 | 43 => h43
 | 44 => h44
 | 45 => h45
 | 46 => h46
 | 47 => h47
 | 48 => h48
 | 49 => h49
 | 50 => h50
 | 51 => h51
 | 52 => h52
 | 53 => h53
 | 54 => h54
 | 55 => h55
 | 56 => h56
 | 57 => h57
 | 59 => h59
 | 60 => h60
 | 61 => h61
 | 62 => h62
 | 63 => h63
 | 64 => h64
 | 66 => h66
 | 67 => h67
 | 68 => h68
 | 69 => h69
 | 70 => h70
 | 71 => h71
 | 72 => h72
 | 73 => h73
 | 74 => h74
 | 75 => h75
 | 76 => h76
 | 78 => h78
 | 79 => h79
 | 81 => h81
 | 82 => h82
 | 83 => h83
 | 84 => h84
 | 85 => h85
 | 87 => h87
 | 88 => h88
 | 89 => h89
 | 91 => h91
 | 92 => h92
 | 93 => h93
 | 94 => h94
 | 95 => h95
 | 96 => h96
 | 97 => h97
 | 98 => h98
 | 103 => h103
 | 107 => h107
 | 109 => h109
 | 110 => h110
 | 111 => h111
 | 112 => h112
 | 113 => h113
 | 114 => h114
 | 115 => h115
 | 116 => h116
 | 117 => h117
 | 128 => h128
 | 129 => h129
 | 130 => h130
 | 131 => h131
 | 132 => h132
 | 139 => h139
 | _ => ⟨fun _ => none, fun _ => none, fun _ => none, [], false, fun _ => none, fun _ => 0, 0, false⟩
variable [MX]
noncomputable def E : CallF := ev Tryz.prog hints primz
noncomputable def b3 : Code := bodyOf Tryz.f3
theorem c3 : codeOk Tryz.prog h3 28 b3 = true := by kernel_rfl
theorem e3 {lo : Nat} {args : List V} {h : Heap} (ha : args.length ≤ 28) (hb : args.all bare = true) :
  E lo 3 args h = fin Tryz.prog [.tmp 2] h.length (evCode ⟨Tryz.prog, E, lo, h.length, h3⟩ loopW b3 (args0 args, h)) :=
 ev_body rfl Tryz.func3 rfl Tryz.ntmps3 (by kernel_rfl) rfl c3 rfl rfl rfl ha hb
noncomputable def b4 : Code := bodyOf Tryz.f4
theorem c4 : codeOk Tryz.prog h4 28 b4 = true := by kernel_rfl
theorem e4 {lo : Nat} {args : List V} {h : Heap} (ha : args.length ≤ 28) (hb : args.all bare = true) :
  E lo 4 args h = fin Tryz.prog [.tmp 2] h.length (evCode ⟨Tryz.prog, E, lo, h.length, h4⟩ loopW b4 (args0 args, h)) :=
 ev_body rfl Tryz.func4 rfl Tryz.ntmps4 (by kernel_rfl) rfl c4 rfl rfl rfl ha hb
noncomputable def b5 : Code := bodyOf Tryz.f5
theorem c5 : codeOk Tryz.prog h5 28 b5 = true := by kernel_rfl
theorem e5 {lo : Nat} {args : List V} {h : Heap} (ha : args.length ≤ 28) (hb : args.all bare = true) :
  E lo 5 args h = fin Tryz.prog [.tmp 2] h.length (evCode ⟨Tryz.prog, E, lo, h.length, h5⟩ loopW b5 (args0 args, h)) :=
 ev_body rfl Tryz.func5 rfl Tryz.ntmps5 (by kernel_rfl) rfl c5 rfl rfl rfl ha hb
noncomputable def b6 : Code := bodyOf Tryz.f6
theorem c6 : codeOk Tryz.prog h6 12 b6 = true := by kernel_rfl
theorem e6 {lo : Nat} {args : List V} {h : Heap} (ha : args.length ≤ 12) (hb : args.all bare = true) :
  E lo 6 args h = fin Tryz.prog [.tmp 2, .tmp 3] h.length (evCode ⟨Tryz.prog, E, lo, h.length, h6⟩ loopW b6 (args0 args, h)) :=
 ev_body rfl Tryz.func6 rfl Tryz.ntmps6 (by kernel_rfl) rfl c6 rfl rfl rfl ha hb
noncomputable def b7 : Code := bodyOf Tryz.f7
theorem c7 : codeOk Tryz.prog h7 12 b7 = true := by kernel_rfl
theorem e7 {lo : Nat} {args : List V} {h : Heap} (ha : args.length ≤ 12) (hb : args.all bare = true) :
  E lo 7 args h = fin Tryz.prog [.tmp 2, .tmp 3] h.length (evCode ⟨Tryz.prog, E, lo, h.length, h7⟩ loopW b7 (args0 args, h)) :=
 ev_body rfl Tryz.func7 rfl Tryz.ntmps7 (by kernel_rfl) rfl c7 rfl rfl rfl ha hb
noncomputable def b8 : Code := bodyOf Tryz.f8
theorem c8 : codeOk Tryz.prog h8 18 b8 = true := by kernel_rfl
theorem e8 {lo : Nat} {args : List V} {h : Heap} (ha : args.length ≤ 18) (hb : args.all bare = true) :
  E lo 8 args h = fin Tryz.prog [.tmp 0] h.length (evCode ⟨Tryz.prog, E, lo, h.length, h8⟩ loopW b8 (args0 args, h)) :=
 ev_body rfl Tryz.func8 rfl Tryz.ntmps8 (by kernel_rfl) rfl c8 rfl rfl rfl ha hb
noncomputable def b9 : Code := bodyOf Tryz.f9
theorem c9 : codeOk Tryz.prog h9 17 b9 = true := by kernel_rfl
theorem e9 {lo : Nat} {args : List V} {h : Heap} (ha : args.length ≤ 17) (hb : args.all bare = true) :
  E lo 9 args h = fin Tryz.prog [.tmp 2, .tmp 3] h.length (evCode ⟨Tryz.prog, E, lo, h.length, h9⟩ loopW b9 (args0 args, h)) :=
 ev_body rfl Tryz.func9 rfl Tryz.ntmps9 (by kernel_rfl) rfl c9 rfl rfl rfl ha hb
noncomputable def b10 : Code := bodyOf Tryz.f10
noncomputable def l10x0 : Code := loopAt b10 0
theorem c10 : codeOk Tryz.prog h10 50 b10 = true := by kernel_rfl
theorem e10 {lo : Nat} {args : List V} {h : Heap} (ha : args.length ≤ 50) (hb : args.all bare = true) :
  E lo 10 args h = fin Tryz.prog [.tmp 2, .tmp 3] h.length (evCode ⟨Tryz.prog, E, lo, h.length, h10⟩ loopW b10 (args0 args, h)) :=
 ev_body rfl Tryz.func10 rfl Tryz.ntmps10 (by kernel_rfl) rfl c10 rfl rfl rfl ha hb
noncomputable def b11 : Code := bodyOf Tryz.f11
theorem c11 : codeOk Tryz.prog h11 17 b11 = true := by kernel_rfl
theorem e11 {lo : Nat} {args : List V} {h : Heap} (ha : args.length ≤ 17) (hb : args.all bare = true) :
  E lo 11 args h = fin Tryz.prog [.tmp 2, .tmp 3] h.length (evCode ⟨Tryz.prog, E, lo, h.length, h11⟩ loopW b11 (args0 args, h)) :=
 ev_body rfl Tryz.func11 rfl Tryz.ntmps11 (by kernel_rfl) rfl c11 rfl rfl rfl ha hb
noncomputable def b12 : Code := bodyOf Tryz.f12
theorem c12 : codeOk Tryz.prog h12 8 b12 = true := by kernel_rfl
theorem e12 {lo : Nat} {args : List V} {h : Heap} (ha : args.length ≤ 8) (hb : args.all bare = true) :
  E lo 12 args h = fin Tryz.prog [.tmp 2, .tmp 3] h.length (evCode ⟨Tryz.prog, E, lo, h.length, h12⟩ loopW b12 (args0 args, h)) :=
 ev_body rfl Tryz.func12 rfl Tryz.ntmps12 (by kernel_rfl) rfl c12 rfl rfl rfl ha hb
noncomputable def b13 : Code := bodyOf Tryz.f13
noncomputable def l13x0 : Code := loopAt b13 0
theorem c13 : codeOk Tryz.prog h13 19 b13 = true := by kernel_rfl
theorem e13 {lo : Nat} {args : List V} {h : Heap} (ha : args.length ≤ 19) (hb : args.all bare = true) :
  E lo 13 args h = fin Tryz.prog [.tmp 2] h.length (evCode ⟨Tryz.prog, E, lo, h.length, h13⟩ loopW b13 (args0 args, h)) :=
 ev_body rfl Tryz.func13 rfl Tryz.ntmps13 (by kernel_rfl) rfl c13 rfl rfl rfl ha hb
noncomputable def b14 : Code := bodyOf Tryz.f14
noncomputable def l14x0 : Code := loopAt b14 0
theorem c14 : codeOk Tryz.prog h14 40 b14 = true := by kernel_rfl
theorem e14 {lo : Nat} {args : List V} {h : Heap} (ha : args.length ≤ 40) (hb : args.all bare = true) :
  E lo 14 args h = fin Tryz.prog [.tmp 2, .tmp 3] h.length (evCode ⟨Tryz.prog, E, lo, h.length, h14⟩ loopW b14 (args0 args, h)) :=
 ev_body rfl Tryz.func14 rfl Tryz.ntmps14 (by kernel_rfl) rfl c14 rfl rfl rfl ha hb
noncomputable def b15 : Code := bodyOf Tryz.f15
noncomputable def l15x0 : Code := loopAt b15 0
theorem c15 : codeOk Tryz.prog h15 82 b15 = true := by kernel_rfl
theorem e15 {lo : Nat} {args : List V} {h : Heap} (ha : args.length ≤ 82) (hb : args.all bare = true) :
  E lo 15 args h = fin Tryz.prog [.tmp 2] h.length (evCode ⟨Tryz.prog, E, lo, h.length, h15⟩ loopW b15 (args0 args, h)) :=
 ev_body rfl Tryz.func15 rfl Tryz.ntmps15 (by kernel_rfl) rfl c15 rfl rfl rfl ha hb
noncomputable def b16 : Code := bodyOf Tryz.f16
theorem c16 : codeOk Tryz.prog h16 5 b16 = true := by kernel_rfl
theorem e16 {lo : Nat} {args : List V} {h : Heap} (ha : args.length ≤ 5) (hb : args.all bare = true) :
  E lo 16 args h = fin Tryz.prog [.tmp 2] h.length (evCode ⟨Tryz.prog, E, lo, h.length, h16⟩ loopW b16 (args0 args, h)) :=
 ev_body rfl Tryz.func16 rfl Tryz.ntmps16 (by kernel_rfl) rfl c16 rfl rfl rfl ha hb
noncomputable def b17 : Code := bodyOf Tryz.f17
noncomputable def l17x0 : Code := loopAt b17 0
theorem c17 : codeOk Tryz.prog h17 43 b17 = true := by kernel_rfl
theorem e17 {lo : Nat} {args : List V} {h : Heap} (ha : args.length ≤ 43) (hb : args.all bare = true) :
  E lo 17 args h = fin Tryz.prog [.tmp 2, .tmp 3] h.length (evCode ⟨Tryz.prog, E, lo, h.length, h17⟩ loopW b17 (args0 args, h)) :=
 ev_body rfl Tryz.func17 rfl Tryz.ntmps17 (by kernel_rfl) rfl c17 rfl rfl rfl ha hb
noncomputable def b18 : Code := bodyOf Tryz.f18
noncomputable def l18x0 : Code := loopAt b18 0
theorem c18 : codeOk Tryz.prog h18 36 b18 = true := by kernel_rfl
theorem e18 {lo : Nat} {args : List V} {h : Heap} (ha : args.length ≤ 36) (hb : args.all bare = true) :
  E lo 18 args h = fin Tryz.prog [.tmp 2] h.length (evCode ⟨Tryz.prog, E, lo, h.length, h18⟩ loopW b18 (args0 args, h)) :=
 ev_body rfl Tryz.func18 rfl Tryz.ntmps18 (by kernel_rfl) rfl c18 rfl rfl rfl ha hb
noncomputable def b19 : Code := bodyOf Tryz.f19
noncomputable def l19x0 : Code := loopAt b19 0
theorem c19 : codeOk Tryz.prog h19 22 b19 = true := by kernel_rfl
theorem e19 {lo : Nat} {args : List V} {h : Heap} (ha : args.length ≤ 22) (hb : args.all bare = true) :
  E lo 19 args h = fin Tryz.prog [.tmp 2] h.length (evCode ⟨Tryz.prog, E, lo, h.length, h19⟩ loopW b19 (args0 args, h)) :=
 ev_body rfl Tryz.func19 rfl Tryz.ntmps19 (by kernel_rfl) rfl c19 rfl rfl rfl ha hb
noncomputable def b20 : Code := bodyOf Tryz.f20
noncomputable def l20x0 : Code := loopAt b20 0
theorem c20 : codeOk Tryz.prog h20 50 b20 = true := by kernel_rfl
/- a method -/
theorem e20 {lo : Nat} {args : List V} {h : Heap} (ha : args.length ≤ 50) (hb : args.all bare = true) :
  E lo 20 args h = fin Tryz.prog [] h.length (evCode ⟨Tryz.prog, E, lo, h.length, h20⟩ loopW b20 (args0 args, h)) :=
 ev_body rfl Tryz.func20 rfl Tryz.ntmps20 (by kernel_rfl) rfl c20 rfl rfl rfl ha hb
noncomputable def b21 : Code := bodyOf Tryz.f21
theorem c21 : codeOk Tryz.prog h21 17 b21 = true := by kernel_rfl
/- a method -/
theorem e21 {lo : Nat} {args : List V} {h : Heap} (ha : args.length ≤ 17) (hb : args.all bare = true) :
  E lo 21 args h = fin Tryz.prog [.tmp 2, .tmp 3] h.length (evCode ⟨Tryz.prog, E, lo, h.length, h21⟩ loopW b21 (args0 args, h)) :=
 ev_body rfl Tryz.func21 rfl Tryz.ntmps21 (by kernel_rfl) rfl c21 rfl rfl rfl ha hb
noncomputable def b22 : Code := bodyOf Tryz.f22
theorem c22 : codeOk Tryz.prog h22 102 b22 = true := by kernel_rfl
theorem e22 {lo : Nat} {args : List V} {h : Heap} (ha : args.length ≤ 102) (hb : args.all bare = true) :
  E lo 22 args h = fin Tryz.prog [.tmp 2, .tmp 3] h.length (evCode ⟨Tryz.prog, E, lo, h.length, h22⟩ loopW b22 (args0 args, h)) :=
 ev_body rfl Tryz.func22 rfl Tryz.ntmps22 (by kernel_rfl) rfl c22 rfl rfl rfl ha hb
noncomputable def b23 : Code := bodyOf Tryz.f23
noncomputable def l23x0 : Code := loopAt b23 0
theorem c23 : codeOk Tryz.prog h23 72 b23 = true := by kernel_rfl
theorem e23 {lo : Nat} {args : List V} {h : Heap} (ha : args.length ≤ 72) (hb : args.all bare = true) :
  E lo 23 args h = fin Tryz.prog [.tmp 4] h.length (evCode ⟨Tryz.prog, E, lo, h.length, h23⟩ loopW b23 (args0 args, h)) :=
 ev_body rfl Tryz.func23 rfl Tryz.ntmps23 (by kernel_rfl) rfl c23 rfl rfl rfl ha hb
noncomputable def b24 : Code := bodyOf Tryz.f24
noncomputable def l24x0 : Code := loopAt b24 0
theorem c24 : codeOk Tryz.prog h24 51 b24 = true := by kernel_rfl
/- a method -/
theorem e24 {lo : Nat} {args : List V} {h : Heap} (ha : args.length ≤ 51) (hb : args.all bare = true) :
  E lo 24 args h = fin Tryz.prog [] h.length (evCode ⟨Tryz.prog, E, lo, h.length, h24⟩ loopW b24 (args0 args, h)) :=
 ev_body rfl Tryz.func24 rfl Tryz.ntmps24 (by kernel_rfl) rfl c24 rfl rfl rfl ha hb
noncomputable def b25 : Code := bodyOf Tryz.f25
noncomputable def l25x0 : Code := loopAt b25 0
theorem c25 : codeOk Tryz.prog h25 95 b25 = true := by kernel_rfl
theorem e25 {lo : Nat} {args : List V} {h : Heap} (ha : args.length ≤ 95) (hb : args.all bare = true) :
  E lo 25 args h = fin Tryz.prog [.tmp 4, .tmp 5] h.length (evCode ⟨Tryz.prog, E, lo, h.length, h25⟩ loopW b25 (args0 args, h)) :=
 ev_body rfl Tryz.func25 rfl Tryz.ntmps25 (by kernel_rfl) rfl c25 rfl rfl rfl ha hb
noncomputable def b26 : Code := bodyOf Tryz.f26
theorem c26 : codeOk Tryz.prog h26 5 b26 = true := by kernel_rfl
theorem e26 {lo : Nat} {args : List V} {h : Heap} (ha : args.length ≤ 5) (hb : args.all bare = true) :
  E lo 26 args h = fin Tryz.prog [.tmp 2] h.length (evCode ⟨Tryz.prog, E, lo, h.length, h26⟩ loopW b26 (args0 args, h)) :=
 ev_body rfl Tryz.func26 rfl Tryz.ntmps26 (by kernel_rfl) rfl c26 rfl rfl rfl ha hb
noncomputable def b27 : Code := bodyOf Tryz.f27
theorem c27 : codeOk Tryz.prog h27 104 b27 = true := by kernel_rfl
theorem e27 {lo : Nat} {args : List V} {h : Heap} (ha : args.length ≤ 104) (hb : args.all bare = true) :
  E lo 27 args h = fin Tryz.prog [.tmp 2] h.length (evCode ⟨Tryz.prog, E, lo, h.length, h27⟩ loopW b27 (args0 args, h)) :=
 ev_body rfl Tryz.func27 rfl Tryz.ntmps27 (by kernel_rfl) rfl c27 rfl rfl rfl ha hb
noncomputable def b28 : Code := bodyOf Tryz.f28
theorem c28 : codeOk Tryz.prog h28 90 b28 = true := by kernel_rfl
theorem e28 {lo : Nat} {args : List V} {h : Heap} (ha : args.length ≤ 90) (hb : args.all bare = true) :
  E lo 28 args h = fin Tryz.prog [.tmp 2, .tmp 3] h.length (evCode ⟨Tryz.prog, E, lo, h.length, h28⟩ loopW b28 (args0 args, h)) :=
 ev_body rfl Tryz.func28 rfl Tryz.ntmps28 (by kernel_rfl) rfl c28 rfl rfl rfl ha hb
noncomputable def b29 : Code := bodyOf Tryz.f29
theorem c29 : codeOk Tryz.prog h29 32 b29 = true := by kernel_rfl
theorem e29 {lo : Nat} {args : List V} {h : Heap} (ha : args.length ≤ 32) (hb : args.all bare = true) :
  E lo 29 args h = fin Tryz.prog [.tmp 4] h.length (evCode ⟨Tryz.prog, E, lo, h.length, h29⟩ loopW b29 (args0 args, h)) :=
 ev_body rfl Tryz.func29 rfl Tryz.ntmps29 (by kernel_rfl) rfl c29 rfl rfl rfl ha hb
noncomputable def b30 : Code := bodyOf Tryz.f30
theorem c30 : codeOk Tryz.prog h30 19 b30 = true := by kernel_rfl
/- a method -/
theorem e30 {lo : Nat} {args : List V} {h : Heap} (ha : args.length ≤ 19) (hb : args.all bare = true) :
  E lo 30 args h = fin Tryz.prog [.tmp 4, .tmp 5] h.length (evCode ⟨Tryz.prog, E, lo, h.length, h30⟩ loopW b30 (args0 args, h)) :=
 ev_body rfl Tryz.func30 rfl Tryz.ntmps30 (by kernel_rfl) rfl c30 rfl rfl rfl ha hb
noncomputable def b32 : Code := bodyOf Tryz.f32
theorem c32 : codeOk Tryz.prog h32 12 b32 = true := by kernel_rfl
theorem e32 {lo : Nat} {args : List V} {h : Heap} (ha : args.length ≤ 12) (hb : args.all bare = true) :
  E lo 32 args h = fin Tryz.prog [.tmp 2] h.length (evCode ⟨Tryz.prog, E, lo, h.length, h32⟩ loopW b32 (args0 args, h)) :=
 ev_body rfl Tryz.func32 rfl Tryz.ntmps32 (by kernel_rfl) rfl c32 rfl rfl rfl ha hb
noncomputable def b33 : Code := bodyOf Tryz.f33
noncomputable def l33x0 : Code := loopAt b33 0
theorem c33 : codeOk Tryz.prog h33 43 b33 = true := by kernel_rfl
theorem e33 {lo : Nat} {args : List V} {h : Heap} (ha : args.length ≤ 43) (hb : args.all bare = true) :
  E lo 33 args h = fin Tryz.prog [.tmp 4] h.length (evCode ⟨Tryz.prog, E, lo, h.length, h33⟩ loopW b33 (args0 args, h)) :=
 ev_body rfl Tryz.func33 rfl Tryz.ntmps33 (by kernel_rfl) rfl c33 rfl rfl rfl ha hb
noncomputable def b34 : Code := bodyOf Tryz.f34
theorem c34 : codeOk Tryz.prog h34 35 b34 = true := by kernel_rfl
theorem e34 {lo : Nat} {args : List V} {h : Heap} (ha : args.length ≤ 35) (hb : args.all bare = true) :
  E lo 34 args h = fin Tryz.prog [.tmp 4] h.length (evCode ⟨Tryz.prog, E, lo, h.length, h34⟩ loopW b34 (args0 args, h)) :=
 ev_body rfl Tryz.func34 rfl Tryz.ntmps34 (by kernel_rfl) rfl c34 rfl rfl rfl ha hb
noncomputable def b35 : Code := bodyOf Tryz.f35
theorem c35 : codeOk Tryz.prog h35 11 b35 = true := by kernel_rfl
theorem e35 {lo : Nat} {args : List V} {h : Heap} (ha : args.length ≤ 11) (hb : args.all bare = true) :
  E lo 35 args h = fin Tryz.prog [.tmp 2] h.length (evCode ⟨Tryz.prog, E, lo, h.length, h35⟩ loopW b35 (args0 args, h)) :=
 ev_body rfl Tryz.func35 rfl Tryz.ntmps35 (by kernel_rfl) rfl c35 rfl rfl rfl ha hb
noncomputable def b36 : Code := bodyOf Tryz.f36
theorem c36 : codeOk Tryz.prog h36 15 b36 = true := by kernel_rfl
theorem e36 {lo : Nat} {args : List V} {h : Heap} (ha : args.length ≤ 15) (hb : args.all bare = true) :
  E lo 36 args h = fin Tryz.prog [.tmp 2] h.length (evCode ⟨Tryz.prog, E, lo, h.length, h36⟩ loopW b36 (args0 args, h)) :=
 ev_body rfl Tryz.func36 rfl Tryz.ntmps36 (by kernel_rfl) rfl c36 rfl rfl rfl ha hb
noncomputable def b37 : Code := bodyOf Tryz.f37
theorem c37 : codeOk Tryz.prog h37 9 b37 = true := by kernel_rfl
theorem e37 {lo : Nat} {args : List V} {h : Heap} (ha : args.length ≤ 9) (hb : args.all bare = true) :
  E lo 37 args h = fin Tryz.prog [.tmp 2, .tmp 3] h.length (evCode ⟨Tryz.prog, E, lo, h.length, h37⟩ loopW b37 (args0 args, h)) :=
 ev_body rfl Tryz.func37 rfl Tryz.ntmps37 (by kernel_rfl) rfl c37 rfl rfl rfl ha hb
noncomputable def b38 : Code := bodyOf Tryz.f38
theorem c38 : codeOk Tryz.prog h38 25 b38 = true := by kernel_rfl
/- a method -/
theorem e38 {lo : Nat} {args : List V} {h : Heap} (ha : args.length ≤ 25) (hb : args.all bare = true) :
  E lo 38 args h = fin Tryz.prog [] h.length (evCode ⟨Tryz.prog, E, lo, h.length, h38⟩ loopW b38 (args0 args, h)) :=
 ev_body rfl Tryz.func38 rfl Tryz.ntmps38 (by kernel_rfl) rfl c38 rfl rfl rfl ha hb
noncomputable def b39 : Code := bodyOf Tryz.f39
theorem c39 : codeOk Tryz.prog h39 158 b39 = true := by kernel_rfl
theorem e39 {lo : Nat} {args : List V} {h : Heap} (ha : args.length ≤ 158) (hb : args.all bare = true) :
  E lo 39 args h = fin Tryz.prog [.tmp 2] h.length (evCode ⟨Tryz.prog, E, lo, h.length, h39⟩ loopW b39 (args0 args, h)) :=
 ev_body rfl Tryz.func39 rfl Tryz.ntmps39 (by kernel_rfl) rfl c39 rfl rfl rfl ha hb
noncomputable def b40 : Code := bodyOf Tryz.f40
noncomputable def l40x0 : Code := loopAt b40 0
noncomputable def l40x1 : Code := loopAt b40 1
noncomputable def l40x2 : Code := loopAt b40 2
theorem c40 : codeOk Tryz.prog h40 114 b40 = true := by kernel_rfl
theorem e40 {lo : Nat} {args : List V} {h : Heap} (ha : args.length ≤ 114) (hb : args.all bare = true) :
  E lo 40 args h = fin Tryz.prog [.tmp 4, .tmp 5] h.length (evCode ⟨Tryz.prog, E, lo, h.length, h40⟩ loopW b40 (args0 args, h)) :=
 ev_body rfl Tryz.func40 rfl Tryz.ntmps40 (by kernel_rfl) rfl c40 rfl rfl rfl ha hb
noncomputable def b41 : Code := bodyOf Tryz.f41
theorem c41 : codeOk Tryz.prog h41 55 b41 = true := by kernel_rfl
theorem e41 {lo : Nat} {args : List V} {h : Heap} (ha : args.length ≤ 55) (hb : args.all bare = true) :
  E lo 41 args h = fin Tryz.prog [.tmp 2] h.length (evCode ⟨Tryz.prog, E, lo, h.length, h41⟩ loopW b41 (args0 args, h)) :=
 ev_body rfl Tryz.func41 rfl Tryz.ntmps41 (by kernel_rfl) rfl c41 rfl rfl rfl ha hb
noncomputable def b42 : Code := bodyOf Tryz.f42
noncomputable def l42x0 : Code := loopAt b42 0
theorem c42 : codeOk Tryz.prog h42 23 b42 = true := by kernel_rfl
theorem e42 {lo : Nat} {args : List V} {h : Heap} (ha : args.length ≤ 23) (hb : args.all bare = true) :
  E lo 42 args h = fin Tryz.prog [.tmp 2, .tmp 3] h.length (evCode ⟨Tryz.prog, E, lo, h.length, h42⟩ loopW b42 (args0 args, h)) :=
 ev_body rfl Tryz.func42 rfl Tryz.ntmps42 (by kernel_rfl) rfl c42 rfl rfl rfl ha hb
noncomputable def b43 : Code := bodyOf Tryz.f43
noncomputable def l43x0 : Code := loopAt b43 0
theorem c43 : codeOk Tryz.prog h43 35 b43 = true := by kernel_rfl
theorem e43 {lo : Nat} {args : List V} {h : Heap} (ha : args.length ≤ 35) (hb : args.all bare = true) :
  E lo 43 args h = fin Tryz.prog [.tmp 2] h.length (evCode ⟨Tryz.prog, E, lo, h.length, h43⟩ loopW b43 (args0 args, h)) :=
 ev_body rfl Tryz.func43 rfl Tryz.ntmps43 (by kernel_rfl) rfl c43 rfl rfl rfl ha hb
noncomputable def b44 : Code := bodyOf Tryz.f44
noncomputable def l44x0 : Code := loopAt b44 0
theorem c44 : codeOk Tryz.prog h44 47 b44 = true := by kernel_rfl
theorem e44 {lo : Nat} {args : List V} {h : Heap} (ha : args.length ≤ 47) (hb : args.all bare = true) :
  E lo 44 args h = fin Tryz.prog [.tmp 2] h.length (evCode ⟨Tryz.prog, E, lo, h.length, h44⟩ loopW b44 (args0 args, h)) :=
 ev_body rfl Tryz.func44 rfl Tryz.ntmps44 (by kernel_rfl) rfl c44 rfl rfl rfl ha hb
noncomputable def b45 : Code := bodyOf Tryz.f45
noncomputable def l45x0 : Code := loopAt b45 0
theorem c45 : codeOk Tryz.prog h45 63 b45 = true := by kernel_rfl
theorem e45 {lo : Nat} {args : List V} {h : Heap} (ha : args.length ≤ 63) (hb : args.all bare = true) :
  E lo 45 args h = fin Tryz.prog [.tmp 2] h.length (evCode ⟨Tryz.prog, E, lo, h.length, h45⟩ loopW b45 (args0 args, h)) :=
 ev_body rfl Tryz.func45 rfl Tryz.ntmps45 (by kernel_rfl) rfl c45 rfl rfl rfl ha hb
noncomputable def b46 : Code := bodyOf Tryz.f46
theorem c46 : codeOk Tryz.prog h46 56 b46 = true := by kernel_rfl
theorem e46 {lo : Nat} {args : List V} {h : Heap} (ha : args.length ≤ 56) (hb : args.all bare = true) :
  E lo 46 args h = fin Tryz.prog [.tmp 2] h.length (evCode ⟨Tryz.prog, E, lo, h.length, h46⟩ loopW b46 (args0 args, h)) :=
 ev_body rfl Tryz.func46 rfl Tryz.ntmps46 (by kernel_rfl) rfl c46 rfl rfl rfl ha hb
noncomputable def b47 : Code := bodyOf Tryz.f47
noncomputable def l47x0 : Code := loopAt b47 0
theorem c47 : codeOk Tryz.prog h47 43 b47 = true := by kernel_rfl
theorem e47 {lo : Nat} {args : List V} {h : Heap} (ha : args.length ≤ 43) (hb : args.all bare = true) :
  E lo 47 args h = fin Tryz.prog [.tmp 4] h.length (evCode ⟨Tryz.prog, E, lo, h.length, h47⟩ loopW b47 (args0 args, h)) :=
 ev_body rfl Tryz.func47 rfl Tryz.ntmps47 (by kernel_rfl) rfl c47 rfl rfl rfl ha hb
noncomputable def b48 : Code := bodyOf Tryz.f48
theorem c48 : codeOk Tryz.prog h48 11 b48 = true := by kernel_rfl
theorem e48 {lo : Nat} {args : List V} {h : Heap} (ha : args.length ≤ 11) (hb : args.all bare = true) :
  E lo 48 args h = fin Tryz.prog [.tmp 2] h.length (evCode ⟨Tryz.prog, E, lo, h.length, h48⟩ loopW b48 (args0 args, h)) :=
 ev_body rfl Tryz.func48 rfl Tryz.ntmps48 (by kernel_rfl) rfl c48 rfl rfl rfl ha hb
noncomputable def b49 : Code := bodyOf Tryz.f49
theorem c49 : codeOk Tryz.prog h49 29 b49 = true := by kernel_rfl
theorem e49 {lo : Nat} {args : List V} {h : Heap} (ha : args.length ≤ 29) (hb : args.all bare = true) :
  E lo 49 args h = fin Tryz.prog [.tmp 2] h.length (evCode ⟨Tryz.prog, E, lo, h.length, h49⟩ loopW b49 (args0 args, h)) :=
 ev_body rfl Tryz.func49 rfl Tryz.ntmps49 (by kernel_rfl) rfl c49 rfl rfl rfl ha hb
noncomputable def b50 : Code := bodyOf Tryz.f50
theorem c50 : codeOk Tryz.prog h50 35 b50 = true := by kernel_rfl
theorem e50 {lo : Nat} {args : List V} {h : Heap} (ha : args.length ≤ 35) (hb : args.all bare = true) :
  E lo 50 args h = fin Tryz.prog [.tmp 2] h.length (evCode ⟨Tryz.prog, E, lo, h.length, h50⟩ loopW b50 (args0 args, h)) :=
 ev_body rfl Tryz.func50 rfl Tryz.ntmps50 (by kernel_rfl) rfl c50 rfl rfl rfl ha hb
noncomputable def b51 : Code := bodyOf Tryz.f51
theorem c51 : codeOk Tryz.prog h51 15 b51 = true := by kernel_rfl
theorem e51 {lo : Nat} {args : List V} {h : Heap} (ha : args.length ≤ 15) (hb : args.all bare = true) :
  E lo 51 args h = fin Tryz.prog [.tmp 2] h.length (evCode ⟨Tryz.prog, E, lo, h.length, h51⟩ loopW b51 (args0 args, h)) :=
 ev_body rfl Tryz.func51 rfl Tryz.ntmps51 (by kernel_rfl) rfl c51 rfl rfl rfl ha hb
noncomputable def b52 : Code := bodyOf Tryz.f52
theorem c52 : codeOk Tryz.prog h52 36 b52 = true := by kernel_rfl
theorem e52 {lo : Nat} {args : List V} {h : Heap} (ha : args.length ≤ 36) (hb : args.all bare = true) :
  E lo 52 args h = fin Tryz.prog [.tmp 2] h.length (evCode ⟨Tryz.prog, E, lo, h.length, h52⟩ loopW b52 (args0 args, h)) :=
 ev_body rfl Tryz.func52 rfl Tryz.ntmps52 (by kernel_rfl) rfl c52 rfl rfl rfl ha hb
noncomputable def b53 : Code := bodyOf Tryz.f53
noncomputable def l53x0 : Code := loopAt b53 0
theorem c53 : codeOk Tryz.prog h53 26 b53 = true := by kernel_rfl
theorem e53 {lo : Nat} {args : List V} {h : Heap} (ha : args.length ≤ 26) (hb : args.all bare = true) :
  E lo 53 args h = fin Tryz.prog [.tmp 2] h.length (evCode ⟨Tryz.prog, E, lo, h.length, h53⟩ loopW b53 (args0 args, h)) :=
 ev_body rfl Tryz.func53 rfl Tryz.ntmps53 (by kernel_rfl) rfl c53 rfl rfl rfl ha hb
noncomputable def b54 : Code := bodyOf Tryz.f54
noncomputable def l54x0 : Code := loopAt b54 0
theorem c54 : codeOk Tryz.prog h54 37 b54 = true := by kernel_rfl
theorem e54 {lo : Nat} {args : List V} {h : Heap} (ha : args.length ≤ 37) (hb : args.all bare = true) :
  E lo 54 args h = fin Tryz.prog [.tmp 6] h.length (evCode ⟨Tryz.prog, E, lo, h.length, h54⟩ loopW b54 (args0 args, h)) :=
 ev_body rfl Tryz.func54 rfl Tryz.ntmps54 (by kernel_rfl) rfl c54 rfl rfl rfl ha hb
noncomputable def b55 : Code := bodyOf Tryz.f55
noncomputable def l55x0 : Code := loopAt b55 0
noncomputable def l55x1 : Code := loopAt b55 1
theorem c55 : codeOk Tryz.prog h55 123 b55 = true := by kernel_rfl
theorem e55 {lo : Nat} {args : List V} {h : Heap} (ha : args.length ≤ 123) (hb : args.all bare = true) :
  E lo 55 args h = fin Tryz.prog [.tmp 4, .tmp 5] h.length (evCode ⟨Tryz.prog, E, lo, h.length, h55⟩ loopW b55 (args0 args, h)) :=
 ev_body rfl Tryz.func55 rfl Tryz.ntmps55 (by kernel_rfl) rfl c55 rfl rfl rfl ha hb
noncomputable def b56 : Code := bodyOf Tryz.f56
theorem c56 : codeOk Tryz.prog h56 33 b56 = true := by kernel_rfl
theorem e56 {lo : Nat} {args : List V} {h : Heap} (ha : args.length ≤ 33) (hb : args.all bare = true) :
  E lo 56 args h = fin Tryz.prog [.tmp 2] h.length (evCode ⟨Tryz.prog, E, lo, h.length, h56⟩ loopW b56 (args0 args, h)) :=
 ev_body rfl Tryz.func56 rfl Tryz.ntmps56 (by kernel_rfl) rfl c56 rfl rfl rfl ha hb
noncomputable def b57 : Code := bodyOf Tryz.f57
noncomputable def l57x0 : Code := loopAt b57 0
theorem c57 : codeOk Tryz.prog h57 29 b57 = true := by kernel_rfl
theorem e57 {lo : Nat} {args : List V} {h : Heap} (ha : args.length ≤ 29) (hb : args.all bare = true) :
  E lo 57 args h = fin Tryz.prog [.tmp 2] h.length (evCode ⟨Tryz.prog, E, lo, h.length, h57⟩ loopW b57 (args0 args, h)) :=
 ev_body rfl Tryz.func57 rfl Tryz.ntmps57 (by kernel_rfl) rfl c57 rfl rfl rfl ha hb
noncomputable def b59 : Code := bodyOf Tryz.f59
noncomputable def l59x0 : Code := loopAt b59 0
theorem c59 : codeOk Tryz.prog h59 40 b59 = true := by kernel_rfl
theorem e59 {lo : Nat} {args : List V} {h : Heap} (ha : args.length ≤ 40) (hb : args.all bare = true) :
  E lo 59 args h = fin Tryz.prog [.tmp 2] h.length (evCode ⟨Tryz.prog, E, lo, h.length, h59⟩ loopW b59 (args0 args, h)) :=
 ev_body rfl Tryz.func59 rfl Tryz.ntmps59 (by kernel_rfl) rfl c59 rfl rfl rfl ha hb
noncomputable def b60 : Code := bodyOf Tryz.f60
theorem c60 : codeOk Tryz.prog h60 9 b60 = true := by kernel_rfl
theorem e60 {lo : Nat} {args : List V} {h : Heap} (ha : args.length ≤ 9) (hb : args.all bare = true) :
  E lo 60 args h = fin Tryz.prog [.tmp 4] h.length (evCode ⟨Tryz.prog, E, lo, h.length, h60⟩ loopW b60 (args0 args, h)) :=
 ev_body rfl Tryz.func60 rfl Tryz.ntmps60 (by kernel_rfl) rfl c60 rfl rfl rfl ha hb
noncomputable def b61 : Code := bodyOf Tryz.f61
theorem c61 : codeOk Tryz.prog h61 9 b61 = true := by kernel_rfl
theorem e61 {lo : Nat} {args : List V} {h : Heap} (ha : args.length ≤ 9) (hb : args.all bare = true) :
  E lo 61 args h = fin Tryz.prog [.tmp 2] h.length (evCode ⟨Tryz.prog, E, lo, h.length, h61⟩ loopW b61 (args0 args, h)) :=
 ev_body rfl Tryz.func61 rfl Tryz.ntmps61 (by kernel_rfl) rfl c61 rfl rfl rfl ha hb
noncomputable def b62 : Code := bodyOf Tryz.f62
noncomputable def l62x0 : Code := loopAt b62 0
theorem c62 : codeOk Tryz.prog h62 40 b62 = true := by kernel_rfl
theorem e62 {lo : Nat} {args : List V} {h : Heap} (ha : args.length ≤ 40) (hb : args.all bare = true) :
  E lo 62 args h = fin Tryz.prog [.tmp 2] h.length (evCode ⟨Tryz.prog, E, lo, h.length, h62⟩ loopW b62 (args0 args, h)) :=
 ev_body rfl Tryz.func62 rfl Tryz.ntmps62 (by kernel_rfl) rfl c62 rfl rfl rfl ha hb
noncomputable def b63 : Code := bodyOf Tryz.f63
theorem c63 : codeOk Tryz.prog h63 29 b63 = true := by kernel_rfl
theorem e63 {lo : Nat} {args : List V} {h : Heap} (ha : args.length ≤ 29) (hb : args.all bare = true) :
  E lo 63 args h = fin Tryz.prog [.tmp 2] h.length (evCode ⟨Tryz.prog, E, lo, h.length, h63⟩ loopW b63 (args0 args, h)) :=
 ev_body rfl Tryz.func63 rfl Tryz.ntmps63 (by kernel_rfl) rfl c63 rfl rfl rfl ha hb
noncomputable def b64 : Code := bodyOf Tryz.f64
theorem c64 : codeOk Tryz.prog h64 12 b64 = true := by kernel_rfl
theorem e64 {lo : Nat} {args : List V} {h : Heap} (ha : args.length ≤ 12) (hb : args.all bare = true) :
  E lo 64 args h = fin Tryz.prog [.tmp 2] h.length (evCode ⟨Tryz.prog, E, lo, h.length, h64⟩ loopW b64 (args0 args, h)) :=
 ev_body rfl Tryz.func64 rfl Tryz.ntmps64 (by kernel_rfl) rfl c64 rfl rfl rfl ha hb
noncomputable def b66 : Code := bodyOf Tryz.f66
theorem c66 : codeOk Tryz.prog h66 8 b66 = true := by kernel_rfl
theorem e66 {lo : Nat} {args : List V} {h : Heap} (ha : args.length ≤ 8) (hb : args.all bare = true) :
  E lo 66 args h = fin Tryz.prog [.tmp 2] h.length (evCode ⟨Tryz.prog, E, lo, h.length, h66⟩ loopW b66 (args0 args, h)) :=
 ev_body rfl Tryz.func66 rfl Tryz.ntmps66 (by kernel_rfl) rfl c66 rfl rfl rfl ha hb
noncomputable def b67 : Code := bodyOf Tryz.f67
noncomputable def l67x0 : Code := loopAt b67 0
theorem c67 : codeOk Tryz.prog h67 27 b67 = true := by kernel_rfl
theorem e67 {lo : Nat} {args : List V} {h : Heap} (ha : args.length ≤ 27) (hb : args.all bare = true) :
  E lo 67 args h = fin Tryz.prog [.tmp 2] h.length (evCode ⟨Tryz.prog, E, lo, h.length, h67⟩ loopW b67 (args0 args, h)) :=
 ev_body rfl Tryz.func67 rfl Tryz.ntmps67 (by kernel_rfl) rfl c67 rfl rfl rfl ha hb
noncomputable def b68 : Code := bodyOf Tryz.f68
noncomputable def l68x0 : Code := loopAt b68 0
theorem c68 : codeOk Tryz.prog h68 23 b68 = true := by kernel_rfl
theorem e68 {lo : Nat} {args : List V} {h : Heap} (ha : args.length ≤ 23) (hb : args.all bare = true) :
  E lo 68 args h = fin Tryz.prog [.tmp 2] h.length (evCode ⟨Tryz.prog, E, lo, h.length, h68⟩ loopW b68 (args0 args, h)) :=
 ev_body rfl Tryz.func68 rfl Tryz.ntmps68 (by kernel_rfl) rfl c68 rfl rfl rfl ha hb
noncomputable def b69 : Code := bodyOf Tryz.f69
theorem c69 : codeOk Tryz.prog h69 17 b69 = true := by kernel_rfl
theorem e69 {lo : Nat} {args : List V} {h : Heap} (ha : args.length ≤ 17) (hb : args.all bare = true) :
  E lo 69 args h = fin Tryz.prog [.tmp 2] h.length (evCode ⟨Tryz.prog, E, lo, h.length, h69⟩ loopW b69 (args0 args, h)) :=
 ev_body rfl Tryz.func69 rfl Tryz.ntmps69 (by kernel_rfl) rfl c69 rfl rfl rfl ha hb
noncomputable def b70 : Code := bodyOf Tryz.f70
theorem c70 : codeOk Tryz.prog h70 13 b70 = true := by kernel_rfl
theorem e70 {lo : Nat} {args : List V} {h : Heap} (ha : args.length ≤ 13) (hb : args.all bare = true) :
  E lo 70 args h = fin Tryz.prog [.tmp 2] h.length (evCode ⟨Tryz.prog, E, lo, h.length, h70⟩ loopW b70 (args0 args, h)) :=
 ev_body rfl Tryz.func70 rfl Tryz.ntmps70 (by kernel_rfl) rfl c70 rfl rfl rfl ha hb
noncomputable def b71 : Code := bodyOf Tryz.f71
theorem c71 : codeOk Tryz.prog h71 6 b71 = true := by kernel_rfl
theorem e71 {lo : Nat} {args : List V} {h : Heap} (ha : args.length ≤ 6) (hb : args.all bare = true) :
  E lo 71 args h = fin Tryz.prog [.tmp 2] h.length (evCode ⟨Tryz.prog, E, lo, h.length, h71⟩ loopW b71 (args0 args, h)) :=
 ev_body rfl Tryz.func71 rfl Tryz.ntmps71 (by kernel_rfl) rfl c71 rfl rfl rfl ha hb
noncomputable def b72 : Code := bodyOf Tryz.f72
theorem c72 : codeOk Tryz.prog h72 9 b72 = true := by kernel_rfl
theorem e72 {lo : Nat} {args : List V} {h : Heap} (ha : args.length ≤ 9) (hb : args.all bare = true) :
  E lo 72 args h = fin Tryz.prog [.tmp 2] h.length (evCode ⟨Tryz.prog, E, lo, h.length, h72⟩ loopW b72 (args0 args, h)) :=
 ev_body rfl Tryz.func72 rfl Tryz.ntmps72 (by kernel_rfl) rfl c72 rfl rfl rfl ha hb
noncomputable def b73 : Code := bodyOf Tryz.f73
theorem c73 : codeOk Tryz.prog h73 8 b73 = true := by kernel_rfl
theorem e73 {lo : Nat} {args : List V} {h : Heap} (ha : args.length ≤ 8) (hb : args.all bare = true) :
  E lo 73 args h = fin Tryz.prog [.tmp 4] h.length (evCode ⟨Tryz.prog, E, lo, h.length, h73⟩ loopW b73 (args0 args, h)) :=
 ev_body rfl Tryz.func73 rfl Tryz.ntmps73 (by kernel_rfl) rfl c73 rfl rfl rfl ha hb
noncomputable def b74 : Code := bodyOf Tryz.f74
noncomputable def l74x0 : Code := loopAt b74 0
noncomputable def l74x1 : Code := loopAt b74 1
theorem c74 : codeOk Tryz.prog h74 31 b74 = true := by kernel_rfl
theorem e74 {lo : Nat} {args : List V} {h : Heap} (ha : args.length ≤ 31) (hb : args.all bare = true) :
  E lo 74 args h = fin Tryz.prog [.tmp 2] h.length (evCode ⟨Tryz.prog, E, lo, h.length, h74⟩ loopW b74 (args0 args, h)) :=
 ev_body rfl Tryz.func74 rfl Tryz.ntmps74 (by kernel_rfl) rfl c74 rfl rfl rfl ha hb
noncomputable def b75 : Code := bodyOf Tryz.f75
theorem c75 : codeOk Tryz.prog h75 17 b75 = true := by kernel_rfl
theorem e75 {lo : Nat} {args : List V} {h : Heap} (ha : args.length ≤ 17) (hb : args.all bare = true) :
  E lo 75 args h = fin Tryz.prog [.tmp 2] h.length (evCode ⟨Tryz.prog, E, lo, h.length, h75⟩ loopW b75 (args0 args, h)) :=
 ev_body rfl Tryz.func75 rfl Tryz.ntmps75 (by kernel_rfl) rfl c75 rfl rfl rfl ha hb
noncomputable def b76 : Code := bodyOf Tryz.f76
theorem c76 : codeOk Tryz.prog h76 33 b76 = true := by kernel_rfl
theorem e76 {lo : Nat} {args : List V} {h : Heap} (ha : args.length ≤ 33) (hb : args.all bare = true) :
  E lo 76 args h = fin Tryz.prog [.tmp 2] h.length (evCode ⟨Tryz.prog, E, lo, h.length, h76⟩ loopW b76 (args0 args, h)) :=
 ev_body rfl Tryz.func76 rfl Tryz.ntmps76 (by kernel_rfl) rfl c76 rfl rfl rfl ha hb
noncomputable def b78 : Code := bodyOf Tryz.f78
theorem c78 : codeOk Tryz.prog h78 17 b78 = true := by kernel_rfl
/- a method -/
theorem e78 {lo : Nat} {args : List V} {h : Heap} (ha : args.length ≤ 17) (hb : args.all bare = true) :
  E lo 78 args h = fin Tryz.prog [.tmp 4] h.length (evCode ⟨Tryz.prog, E, lo, h.length, h78⟩ loopW b78 (args0 args, h)) :=
 ev_body rfl Tryz.func78 rfl Tryz.ntmps78 (by kernel_rfl) rfl c78 rfl rfl rfl ha hb
noncomputable def b79 : Code := bodyOf Tryz.f79
theorem c79 : codeOk Tryz.prog h79 10 b79 = true := by kernel_rfl
theorem e79 {lo : Nat} {args : List V} {h : Heap} (ha : args.length ≤ 10) (hb : args.all bare = true) :
  E lo 79 args h = fin Tryz.prog [.tmp 2] h.length (evCode ⟨Tryz.prog, E, lo, h.length, h79⟩ loopW b79 (args0 args, h)) :=
 ev_body rfl Tryz.func79 rfl Tryz.ntmps79 (by kernel_rfl) rfl c79 rfl rfl rfl ha hb
noncomputable def b81 : Code := bodyOf Tryz.f81
noncomputable def l81x0 : Code := loopAt b81 0
theorem c81 : codeOk Tryz.prog h81 23 b81 = true := by kernel_rfl
theorem e81 {lo : Nat} {args : List V} {h : Heap} (ha : args.length ≤ 23) (hb : args.all bare = true) :
  E lo 81 args h = fin Tryz.prog [.tmp 2, .tmp 3, .tmp 4] h.length (evCode ⟨Tryz.prog, E, lo, h.length, h81⟩ loopW b81 (args0 args, h)) :=
 ev_body rfl Tryz.func81 rfl Tryz.ntmps81 (by kernel_rfl) rfl c81 rfl rfl rfl ha hb
noncomputable def b82 : Code := bodyOf Tryz.f82
theorem c82 : codeOk Tryz.prog h82 10 b82 = true := by kernel_rfl
theorem e82 {lo : Nat} {args : List V} {h : Heap} (ha : args.length ≤ 10) (hb : args.all bare = true) :
  E lo 82 args h = fin Tryz.prog [.tmp 2] h.length (evCode ⟨Tryz.prog, E, lo, h.length, h82⟩ loopW b82 (args0 args, h)) :=
 ev_body rfl Tryz.func82 rfl Tryz.ntmps82 (by kernel_rfl) rfl c82 rfl rfl rfl ha hb
noncomputable def b83 : Code := bodyOf Tryz.f83
noncomputable def l83x0 : Code := loopAt b83 0
theorem c83 : codeOk Tryz.prog h83 20 b83 = true := by kernel_rfl
theorem e83 {lo : Nat} {args : List V} {h : Heap} (ha : args.length ≤ 20) (hb : args.all bare = true) :
  E lo 83 args h = fin Tryz.prog [.tmp 2] h.length (evCode ⟨Tryz.prog, E, lo, h.length, h83⟩ loopW b83 (args0 args, h)) :=
 ev_body rfl Tryz.func83 rfl Tryz.ntmps83 (by kernel_rfl) rfl c83 rfl rfl rfl ha hb
noncomputable def b84 : Code := bodyOf Tryz.f84
theorem c84 : codeOk Tryz.prog h84 37 b84 = true := by kernel_rfl
theorem e84 {lo : Nat} {args : List V} {h : Heap} (ha : args.length ≤ 37) (hb : args.all bare = true) :
  E lo 84 args h = fin Tryz.prog [.tmp 4] h.length (evCode ⟨Tryz.prog, E, lo, h.length, h84⟩ loopW b84 (args0 args, h)) :=
 ev_body rfl Tryz.func84 rfl Tryz.ntmps84 (by kernel_rfl) rfl c84 rfl rfl rfl ha hb
noncomputable def b85 : Code := bodyOf Tryz.f85
theorem c85 : codeOk Tryz.prog h85 8 b85 = true := by kernel_rfl
theorem e85 {lo : Nat} {args : List V} {h : Heap} (ha : args.length ≤ 8) (hb : args.all bare = true) :
  E lo 85 args h = fin Tryz.prog [.tmp 4] h.length (evCode ⟨Tryz.prog, E, lo, h.length, h85⟩ loopW b85 (args0 args, h)) :=
 ev_body rfl Tryz.func85 rfl Tryz.ntmps85 (by kernel_rfl) rfl c85 rfl rfl rfl ha hb
noncomputable def b87 : Code := bodyOf Tryz.f87
noncomputable def l87x0 : Code := loopAt b87 0
theorem c87 : codeOk Tryz.prog h87 101 b87 = true := by kernel_rfl
theorem e87 {lo : Nat} {args : List V} {h : Heap} (ha : args.length ≤ 101) (hb : args.all bare = true) :
  E lo 87 args h = fin Tryz.prog [.tmp 2, .tmp 3] h.length (evCode ⟨Tryz.prog, E, lo, h.length, h87⟩ loopW b87 (args0 args, h)) :=
 ev_body rfl Tryz.func87 rfl Tryz.ntmps87 (by kernel_rfl) rfl c87 rfl rfl rfl ha hb
noncomputable def b88 : Code := bodyOf Tryz.f88
theorem c88 : codeOk Tryz.prog h88 8 b88 = true := by kernel_rfl
theorem e88 {lo : Nat} {args : List V} {h : Heap} (ha : args.length ≤ 8) (hb : args.all bare = true) :
  E lo 88 args h = fin Tryz.prog [.tmp 4] h.length (evCode ⟨Tryz.prog, E, lo, h.length, h88⟩ loopW b88 (args0 args, h)) :=
 ev_body rfl Tryz.func88 rfl Tryz.ntmps88 (by kernel_rfl) rfl c88 rfl rfl rfl ha hb
noncomputable def b89 : Code := bodyOf Tryz.f89
noncomputable def l89x0 : Code := loopAt b89 0
theorem c89 : codeOk Tryz.prog h89 12 b89 = true := by kernel_rfl
theorem e89 {lo : Nat} {args : List V} {h : Heap} (ha : args.length ≤ 12) (hb : args.all bare = true) :
  E lo 89 args h = fin Tryz.prog [.tmp 4] h.length (evCode ⟨Tryz.prog, E, lo, h.length, h89⟩ loopW b89 (args0 args, h)) :=
 ev_body rfl Tryz.func89 rfl Tryz.ntmps89 (by kernel_rfl) rfl c89 rfl rfl rfl ha hb
noncomputable def b91 : Code := bodyOf Tryz.f91
theorem c91 : codeOk Tryz.prog h91 8 b91 = true := by kernel_rfl
theorem e91 {lo : Nat} {args : List V} {h : Heap} (ha : args.length ≤ 8) (hb : args.all bare = true) :
  E lo 91 args h = fin Tryz.prog [.tmp 4] h.length (evCode ⟨Tryz.prog, E, lo, h.length, h91⟩ loopW b91 (args0 args, h)) :=
 ev_body rfl Tryz.func91 rfl Tryz.ntmps91 (by kernel_rfl) rfl c91 rfl rfl rfl ha hb
noncomputable def b92 : Code := bodyOf Tryz.f92
noncomputable def l92x0 : Code := loopAt b92 0
theorem c92 : codeOk Tryz.prog h92 81 b92 = true := by kernel_rfl
theorem e92 {lo : Nat} {args : List V} {h : Heap} (ha : args.length ≤ 81) (hb : args.all bare = true) :
  E lo 92 args h = fin Tryz.prog [.tmp 4, .tmp 5, .tmp 6] h.length (evCode ⟨Tryz.prog, E, lo, h.length, h92⟩ loopW b92 (args0 args, h)) :=
 ev_body rfl Tryz.func92 rfl Tryz.ntmps92 (by kernel_rfl) rfl c92 rfl rfl rfl ha hb
noncomputable def b93 : Code := bodyOf Tryz.f93
theorem c93 : codeOk Tryz.prog h93 25 b93 = true := by kernel_rfl
theorem e93 {lo : Nat} {args : List V} {h : Heap} (ha : args.length ≤ 25) (hb : args.all bare = true) :
  E lo 93 args h = fin Tryz.prog [.tmp 2] h.length (evCode ⟨Tryz.prog, E, lo, h.length, h93⟩ loopW b93 (args0 args, h)) :=
 ev_body rfl Tryz.func93 rfl Tryz.ntmps93 (by kernel_rfl) rfl c93 rfl rfl rfl ha hb
noncomputable def b94 : Code := bodyOf Tryz.f94
theorem c94 : codeOk Tryz.prog h94 9 b94 = true := by kernel_rfl
theorem e94 {lo : Nat} {args : List V} {h : Heap} (ha : args.length ≤ 9) (hb : args.all bare = true) :
  E lo 94 args h = fin Tryz.prog [.tmp 2] h.length (evCode ⟨Tryz.prog, E, lo, h.length, h94⟩ loopW b94 (args0 args, h)) :=
 ev_body rfl Tryz.func94 rfl Tryz.ntmps94 (by kernel_rfl) rfl c94 rfl rfl rfl ha hb
noncomputable def b95 : Code := bodyOf Tryz.f95
noncomputable def l95x0 : Code := loopAt b95 0
theorem c95 : codeOk Tryz.prog h95 79 b95 = true := by kernel_rfl
theorem e95 {lo : Nat} {args : List V} {h : Heap} (ha : args.length ≤ 79) (hb : args.all bare = true) :
  E lo 95 args h = fin Tryz.prog [.tmp 2] h.length (evCode ⟨Tryz.prog, E, lo, h.length, h95⟩ loopW b95 (args0 args, h)) :=
 ev_body rfl Tryz.func95 rfl Tryz.ntmps95 (by kernel_rfl) rfl c95 rfl rfl rfl ha hb
noncomputable def b96 : Code := bodyOf Tryz.f96
theorem c96 : codeOk Tryz.prog h96 18 b96 = true := by kernel_rfl
theorem e96 {lo : Nat} {args : List V} {h : Heap} (ha : args.length ≤ 18) (hb : args.all bare = true) :
  E lo 96 args h = fin Tryz.prog [.tmp 4] h.length (evCode ⟨Tryz.prog, E, lo, h.length, h96⟩ loopW b96 (args0 args, h)) :=
 ev_body rfl Tryz.func96 rfl Tryz.ntmps96 (by kernel_rfl) rfl c96 rfl rfl rfl ha hb
noncomputable def b97 : Code := bodyOf Tryz.f97
theorem c97 : codeOk Tryz.prog h97 16 b97 = true := by kernel_rfl
theorem e97 {lo : Nat} {args : List V} {h : Heap} (ha : args.length ≤ 16) (hb : args.all bare = true) :
  E lo 97 args h = fin Tryz.prog [.tmp 4] h.length (evCode ⟨Tryz.prog, E, lo, h.length, h97⟩ loopW b97 (args0 args, h)) :=
 ev_body rfl Tryz.func97 rfl Tryz.ntmps97 (by kernel_rfl) rfl c97 rfl rfl rfl ha hb
noncomputable def b98 : Code := bodyOf Tryz.f98
theorem c98 : codeOk Tryz.prog h98 21 b98 = true := by kernel_rfl
theorem e98 {lo : Nat} {args : List V} {h : Heap} (ha : args.length ≤ 21) (hb : args.all bare = true) :
  E lo 98 args h = fin Tryz.prog [.tmp 2] h.length (evCode ⟨Tryz.prog, E, lo, h.length, h98⟩ loopW b98 (args0 args, h)) :=
 ev_body rfl Tryz.func98 rfl Tryz.ntmps98 (by kernel_rfl) rfl c98 rfl rfl rfl ha hb
noncomputable def b103 : Code := bodyOf Tryz.f103
noncomputable def l103x0 : Code := loopAt b103 0
theorem c103 : codeOk Tryz.prog h103 23 b103 = true := by kernel_rfl
theorem e103 {lo : Nat} {args : List V} {h : Heap} (ha : args.length ≤ 23) (hb : args.all bare = true) :
  E lo 103 args h = fin Tryz.prog [.tmp 4] h.length (evCode ⟨Tryz.prog, E, lo, h.length, h103⟩ loopW b103 (args0 args, h)) :=
 ev_body rfl Tryz.func103 rfl Tryz.ntmps103 (by kernel_rfl) rfl c103 rfl rfl rfl ha hb
noncomputable def b107 : Code := bodyOf Tryz.f107
theorem c107 : codeOk Tryz.prog h107 13 b107 = true := by kernel_rfl
theorem e107 {lo : Nat} {args : List V} {h : Heap} (ha : args.length ≤ 13) (hb : args.all bare = true) :
  E lo 107 args h = fin Tryz.prog [.tmp 4] h.length (evCode ⟨Tryz.prog, E, lo, h.length, h107⟩ loopW b107 (args0 args, h)) :=
 ev_body rfl Tryz.func107 rfl Tryz.ntmps107 (by kernel_rfl) rfl c107 rfl rfl rfl ha hb
noncomputable def b109 : Code := bodyOf Tryz.f109
theorem c109 : codeOk Tryz.prog h109 15 b109 = true := by kernel_rfl
theorem e109 {lo : Nat} {args : List V} {h : Heap} (ha : args.length ≤ 15) (hb : args.all bare = true) :
  E lo 109 args h = fin Tryz.prog [.tmp 2] h.length (evCode ⟨Tryz.prog, E, lo, h.length, h109⟩ loopW b109 (args0 args, h)) :=
 ev_body rfl Tryz.func109 rfl Tryz.ntmps109 (by kernel_rfl) rfl c109 rfl rfl rfl ha hb
noncomputable def b110 : Code := bodyOf Tryz.f110
theorem c110 : codeOk Tryz.prog h110 15 b110 = true := by kernel_rfl
theorem e110 {lo : Nat} {args : List V} {h : Heap} (ha : args.length ≤ 15) (hb : args.all bare = true) :
  E lo 110 args h = fin Tryz.prog [.tmp 2] h.length (evCode ⟨Tryz.prog, E, lo, h.length, h110⟩ loopW b110 (args0 args, h)) :=
 ev_body rfl Tryz.func110 rfl Tryz.ntmps110 (by kernel_rfl) rfl c110 rfl rfl rfl ha hb
noncomputable def b111 : Code := bodyOf Tryz.f111
noncomputable def l111x0 : Code := loopAt b111 0
noncomputable def b112 : Code := bodyOf Tryz.f112
noncomputable def l112x0 : Code := loopAt b112 0
noncomputable def l112x1 : Code := loopAt b112 1
theorem c112 : codeOk Tryz.prog h112 102 b112 = true := by kernel_rfl
theorem e112 {lo : Nat} {args : List V} {h : Heap} (ha : args.length ≤ 102) (hb : args.all bare = true) :
  E lo 112 args h = fin Tryz.prog [.tmp 10, .tmp 11] h.length (evCode ⟨Tryz.prog, E, lo, h.length, h112⟩ loopW b112 (args0 args, h)) :=
 ev_body rfl Tryz.func112 rfl Tryz.ntmps112 (by kernel_rfl) rfl c112 rfl rfl rfl ha hb
noncomputable def b113 : Code := bodyOf Tryz.f113
theorem c113 : codeOk Tryz.prog h113 54 b113 = true := by kernel_rfl
theorem e113 {lo : Nat} {args : List V} {h : Heap} (ha : args.length ≤ 54) (hb : args.all bare = true) :
  E lo 113 args h = fin Tryz.prog [.tmp 4] h.length (evCode ⟨Tryz.prog, E, lo, h.length, h113⟩ loopW b113 (args0 args, h)) :=
 ev_body rfl Tryz.func113 rfl Tryz.ntmps113 (by kernel_rfl) rfl c113 rfl rfl rfl ha hb
noncomputable def b114 : Code := bodyOf Tryz.f114
theorem c114 : codeOk Tryz.prog h114 38 b114 = true := by kernel_rfl
theorem e114 {lo : Nat} {args : List V} {h : Heap} (ha : args.length ≤ 38) (hb : args.all bare = true) :
  E lo 114 args h = fin Tryz.prog [.tmp 2, .tmp 3, .tmp 4] h.length (evCode ⟨Tryz.prog, E, lo, h.length, h114⟩ loopW b114 (args0 args, h)) :=
 ev_body rfl Tryz.func114 rfl Tryz.ntmps114 (by kernel_rfl) rfl c114 rfl rfl rfl ha hb
noncomputable def b115 : Code := bodyOf Tryz.f115
theorem c115 : codeOk Tryz.prog h115 17 b115 = true := by kernel_rfl
theorem e115 {lo : Nat} {args : List V} {h : Heap} (ha : args.length ≤ 17) (hb : args.all bare = true) :
  E lo 115 args h = fin Tryz.prog [.tmp 2] h.length (evCode ⟨Tryz.prog, E, lo, h.length, h115⟩ loopW b115 (args0 args, h)) :=
 ev_body rfl Tryz.func115 rfl Tryz.ntmps115 (by kernel_rfl) rfl c115 rfl rfl rfl ha hb
noncomputable def b116 : Code := bodyOf Tryz.f116
theorem c116 : codeOk Tryz.prog h116 78 b116 = true := by kernel_rfl
theorem e116 {lo : Nat} {args : List V} {h : Heap} (ha : args.length ≤ 78) (hb : args.all bare = true) :
  E lo 116 args h = fin Tryz.prog [.tmp 4] h.length (evCode ⟨Tryz.prog, E, lo, h.length, h116⟩ loopW b116 (args0 args, h)) :=
 ev_body rfl Tryz.func116 rfl Tryz.ntmps116 (by kernel_rfl) rfl c116 rfl rfl rfl ha hb
noncomputable def b117 : Code := bodyOf Tryz.f117
noncomputable def l117x0 : Code := loopAt b117 0
theorem c117 : codeOk Tryz.prog h117 12 b117 = true := by kernel_rfl
theorem e117 {lo : Nat} {args : List V} {h : Heap} (ha : args.length ≤ 12) (hb : args.all bare = true) :
  E lo 117 args h = fin Tryz.prog [.tmp 4] h.length (evCode ⟨Tryz.prog, E, lo, h.length, h117⟩ loopW b117 (args0 args, h)) :=
 ev_body rfl Tryz.func117 rfl Tryz.ntmps117 (by kernel_rfl) rfl c117 rfl rfl rfl ha hb
noncomputable def b128 : Code := bodyOf Tryz.f128
theorem c128 : codeOk Tryz.prog h128 6 b128 = true := by kernel_rfl
theorem e128 {lo : Nat} {args : List V} {h : Heap} (ha : args.length ≤ 6) (hb : args.all bare = true) :
  E lo 128 args h = fin Tryz.prog [.tmp 2] h.length (evCode ⟨Tryz.prog, E, lo, h.length, h128⟩ loopW b128 (args0 args, h)) :=
 ev_body rfl Tryz.func128 rfl Tryz.ntmps128 (by kernel_rfl) rfl c128 rfl rfl rfl ha hb
noncomputable def b129 : Code := bodyOf Tryz.f129
theorem c129 : codeOk Tryz.prog h129 25 b129 = true := by kernel_rfl
theorem e129 {lo : Nat} {args : List V} {h : Heap} (ha : args.length ≤ 25) (hb : args.all bare = true) :
  E lo 129 args h = fin Tryz.prog [.tmp 2] h.length (evCode ⟨Tryz.prog, E, lo, h.length, h129⟩ loopW b129 (args0 args, h)) :=
 ev_body rfl Tryz.func129 rfl Tryz.ntmps129 (by kernel_rfl) rfl c129 rfl rfl rfl ha hb
noncomputable def b130 : Code := bodyOf Tryz.f130
theorem c130 : codeOk Tryz.prog h130 4 b130 = true := by kernel_rfl
/- a method -/
theorem e130 {lo : Nat} {args : List V} {h : Heap} (ha : args.length ≤ 4) (hb : args.all bare = true) :
  E lo 130 args h = fin Tryz.prog [.tmp 2] h.length (evCode ⟨Tryz.prog, E, lo, h.length, h130⟩ loopW b130 (args0 args, h)) :=
 ev_body rfl Tryz.func130 rfl Tryz.ntmps130 (by kernel_rfl) rfl c130 rfl rfl rfl ha hb
noncomputable def b131 : Code := bodyOf Tryz.f131
theorem c131 : codeOk Tryz.prog h131 8 b131 = true := by kernel_rfl
theorem e131 {lo : Nat} {args : List V} {h : Heap} (ha : args.length ≤ 8) (hb : args.all bare = true) :
  E lo 131 args h = fin Tryz.prog [.tmp 2] h.length (evCode ⟨Tryz.prog, E, lo, h.length, h131⟩ loopW b131 (args0 args, h)) :=
 ev_body rfl Tryz.func131 rfl Tryz.ntmps131 (by kernel_rfl) rfl c131 rfl rfl rfl ha hb
noncomputable def b132 : Code := bodyOf Tryz.f132
theorem c132 : codeOk Tryz.prog h132 8 b132 = true := by kernel_rfl
theorem e132 {lo : Nat} {args : List V} {h : Heap} (ha : args.length ≤ 8) (hb : args.all bare = true) :
  E lo 132 args h = fin Tryz.prog [.tmp 2] h.length (evCode ⟨Tryz.prog, E, lo, h.length, h132⟩ loopW b132 (args0 args, h)) :=
 ev_body rfl Tryz.func132 rfl Tryz.ntmps132 (by kernel_rfl) rfl c132 rfl rfl rfl ha hb
noncomputable def b139 : Code := bodyOf Tryz.f139
theorem c139 : codeOk Tryz.prog h139 14 b139 = true := by kernel_rfl
theorem e139 {lo : Nat} {args : List V} {h : Heap} (ha : args.length ≤ 14) (hb : args.all bare = true) :
  E lo 139 args h = fin Tryz.prog [.tmp 2] h.length (evCode ⟨Tryz.prog, E, lo, h.length, h139⟩ loopW b139 (args0 args, h)) :=
 ev_body rfl Tryz.func139 rfl Tryz.ntmps139 (by kernel_rfl) rfl c139 rfl rfl rfl ha hb
end Go.Lift.P7
