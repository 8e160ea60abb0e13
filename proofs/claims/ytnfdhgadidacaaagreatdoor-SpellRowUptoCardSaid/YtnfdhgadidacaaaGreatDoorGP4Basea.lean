/- Facts of the program that the evaluation asks for: the live slots of each function, its types. Written by a program (gen.py). -/
import Derived.Test.YtnfdhgadidacaaaGreatDoorRows
import Derived.Lib.MapLaws
import Derived.Lib.DecodeN
import Derived.Lib.TrailingZeros
import Derived.Lib.ItoaNum
import Derived.Lib.Repeat
import Derived.Lib.Bytealg
import Derived.Lib.Index
import Derived.Test.YtnfdhgadidacaaaGreatDoorGZa
namespace Go.Lift.R4
set_option linter.unusedVariables false
set_option linter.unusedSimpArgs false
set_option linter.unusedSectionVars false
open Go.Proofs
set_option maxRecDepth 20000
class MX where
 m : Int
instance gtab [MX] : GTab := ⟨fun n => match n with | 1 => some (Go.Lib.deBruijn64tab.map fun c : Nat => .v (.int .u8 (c : Int))) | 2 => some [.v (.int .i64 MX.m)] | 4 => some ((List.range 256).map fun c => .v (.int .u8 (Go.Lib.firstT c))) | 5 => some ((List.range 16).flatMap fun i => [.v (.int .u8 (Go.Lib.accLo i)), .v (.int .u8 (Go.Lib.accHi i))]) | _ => none⟩
noncomputable def idxP (lo : Nat) (args : List V) (h : Heap) : Option (V × Heap) := match args with
 | [.v (.string s), .v (.int .u8 c)] => some (.v (.int .i64 (Go.Lib.indexByte s.data.toList c.toNat.toUInt8)), h)
 | _ => none
noncomputable def ixP (lo : Nat) (args : List V) (h : Heap) : Option (V × Heap) := match args with
 | [.v (.string s), .v (.string t)] => match t.data.toList with
  | [c] => some (.v (.int .i64 (Go.Lib.indexByte s.data.toList c)), h)
  | _ => if s.size < 4294967281 then some (.v (.int .i64 (Go.Lib.index s.data.toList t.data.toList)), h) else none
 | _ => none
noncomputable def ctzP (lo : Nat) (args : List V) (h : Heap) : Option (V × Heap) := match args with
 | [.v (.int .u64 x)] => if 0 ≤ x ∧ x < 18446744073709551616 then some (.v (.int .i64 (Go.Lib.ctz 64 x.toNat)), h) else none
 | _ => none
noncomputable def repP (lo : Nat) (args : List V) (h : Heap) : Option (V × Heap) := match args with
 | [.v (.string s), .v (.int .i64 n)] => if s.size = 1 ∧ 0 ≤ n ∧ n ≤ 1000000 then some (.v (.string ⟨(Go.Lib.repeatL s.data.toList n.toNat).toArray⟩), h) else none
 | _ => none
def rowsInts : List (List V) → Option (List Int)
 | [] => some []
 | [.v (.int .u8 n)] :: l => (rowsInts l).map (n :: ·)
 | _ => none
def okP (i : Nat) : V → Bool
 | .v (.pointer none) => true
 | .ptr j 0 => j == i
 | _ => false
noncomputable def ccP (lo : Nat) (args : List V) (h : Heap) : Option (V × Heap) := match args with
 | [.ptr i 0] => match h[i]? with
  | some (.cells [p0, x]) => if lo ≤ i ∧ okP i p0 = true then some (.tup [], Lift.setOb h i [.ptr i 0, x]) else none
  | _ => none
 | _ => none
noncomputable def wrP (lo : Nat) (args : List V) (h : Heap) : Option (V × Heap) := match args with
 | [.ptr i 0, .v (.int .i32 r)] => match h[i]? with
  | some (.cells [p0, .list .yes rows]) => match rowsInts rows with
   | some out => if lo ≤ i ∧ okP i p0 = true ∧ -2147483648 ≤ r ∧ r ≤ 2147483647 ∧ out.length ≤ 1000000000 then
     some (.tup [.v (.int .i64 ((Utf.enc (Utf.scal r)).length : Nat)), .v .nilIface], Lift.setOb h i [.ptr i 0, .list .yes (ri .u8 (out ++ Utf.enc (Utf.scal r)))]) else none
   | none => none
  | _ => none
 | _ => none
noncomputable def stP (lo : Nat) (args : List V) (h : Heap) : Option (V × Heap) := match args with
 | [.ptr i 0] => match h[i]? with
  | some (.cells [p0, .list .yes rows]) => match rowsInts rows with
   | some out => if lo ≤ i ∧ (out.all fun c => decide (0 ≤ c) && decide (c ≤ 255)) = true ∧ out.length ≤ 1000000000 then some (.v (.string ⟨(u8s out).toArray⟩), Lift.setOb h i [p0, .list .no rows]) else none
   | none => none
  | _ => none
 | _ => none
def lowU (c : Int) : Int := if (decide (65 ≤ c) && decide (c ≤ 90)) = true then c + 32 else c
noncomputable def mapP (lo : Nat) (args : List V) (h : Heap) : Option (V × Heap) := match args with
 | [.fn g [], .v (.string s)] => if g = 147 ∧ s.size < 35184372088832 then some (.v (.string ⟨(Go.Lib.mapD lowU s.data.toList).toArray⟩), h) else none
 | _ => none
noncomputable def primz : Nat → Option (Nat → List V → Heap → Option (V × Heap)) := fun n => match n with | 182 => some idxP | 132 => some ctzP | 94 => some repP | 146 => some mapP | 108 => some ccP | 90 => some wrP | 49 => some stP | 159 => some ixP | _ => none
instance bty : BTy := ⟨some 64, some 5⟩
@[go_sem] theorem bt_eq : BTy.bt = some 64 := rfl
@[go_sem] theorem bt_self : ((64 : TypeId) == 64) = true := rfl
@[go_sem] theorem bb_eq : BTy.bb = some 5 := rfl
@[go_sem] theorem bb_self : ((5 : TypeId) == 5) = true := rfl
attribute [go_sem] Tryz.underlying2
@[go_sem] theorem z2 : tsize Tryz.prog 2 = 1 := by kernel_rfl
@[go_sem] theorem k2 : ttag Tryz.prog 2 = some false := by kernel_rfl
@[go_sem] theorem y2 : Tryz.prog.bytesOf 2 = 8 := by kernel_rfl
@[go_sem] theorem s2 : isStr Tryz.prog 2 = false := by kernel_rfl
@[go_sem] theorem j2 : isI32 Tryz.prog 2 = false := by kernel_rfl
@[go_sem] theorem w2 : isU8 Tryz.prog 2 = false := by kernel_rfl
@[go_sem] theorem o2 : tzero Tryz.prog 2 = some [.int .i64 0] := by kernel_rfl
@[go_sem] theorem i2 : (Tryz.prog.info? 2).isSome = true := by kernel_rfl
attribute [go_sem] Tryz.underlying3
@[go_sem] theorem z3 : tsize Tryz.prog 3 = 1 := by kernel_rfl
@[go_sem] theorem k3 : ttag Tryz.prog 3 = some false := by kernel_rfl
@[go_sem] theorem y3 : Tryz.prog.bytesOf 3 = 8 := by kernel_rfl
@[go_sem] theorem s3 : isStr Tryz.prog 3 = false := by kernel_rfl
@[go_sem] theorem j3 : isI32 Tryz.prog 3 = false := by kernel_rfl
@[go_sem] theorem w3 : isU8 Tryz.prog 3 = false := by kernel_rfl
@[go_sem] theorem o3 : tzero Tryz.prog 3 = some [.int .i64 0] := by kernel_rfl
@[go_sem] theorem i3 : (Tryz.prog.info? 3).isSome = true := by kernel_rfl
attribute [go_sem] Tryz.underlying4
@[go_sem] theorem z4 : tsize Tryz.prog 4 = 1 := by kernel_rfl
@[go_sem] theorem k4 : ttag Tryz.prog 4 = some false := by kernel_rfl
@[go_sem] theorem y4 : Tryz.prog.bytesOf 4 = 1 := by kernel_rfl
@[go_sem] theorem s4 : isStr Tryz.prog 4 = false := by kernel_rfl
@[go_sem] theorem j4 : isI32 Tryz.prog 4 = false := by kernel_rfl
@[go_sem] theorem w4 : isU8 Tryz.prog 4 = false := by kernel_rfl
@[go_sem] theorem o4 : tzero Tryz.prog 4 = some [.bool false] := by kernel_rfl
@[go_sem] theorem i4 : (Tryz.prog.info? 4).isSome = true := by kernel_rfl
attribute [go_sem] Tryz.underlying5
@[go_sem] theorem z5 : tsize Tryz.prog 5 = 1 := by kernel_rfl
@[go_sem] theorem k5 : ttag Tryz.prog 5 = some false := by kernel_rfl
@[go_sem] theorem y5 : Tryz.prog.bytesOf 5 = 1 := by kernel_rfl
@[go_sem] theorem s5 : isStr Tryz.prog 5 = false := by kernel_rfl
@[go_sem] theorem j5 : isI32 Tryz.prog 5 = false := by kernel_rfl
@[go_sem] theorem w5 : isU8 Tryz.prog 5 = true := by kernel_rfl
@[go_sem] theorem o5 : tzero Tryz.prog 5 = some [.int .u8 0] := by kernel_rfl
@[go_sem] theorem i5 : (Tryz.prog.info? 5).isSome = true := by kernel_rfl
attribute [go_sem] Tryz.underlying9
@[go_sem] theorem z9 : tsize Tryz.prog 9 = 1 := by kernel_rfl
@[go_sem] theorem k9 : ttag Tryz.prog 9 = some false := by kernel_rfl
@[go_sem] theorem y9 : Tryz.prog.bytesOf 9 = 16 := by kernel_rfl
@[go_sem] theorem s9 : isStr Tryz.prog 9 = true := by kernel_rfl
@[go_sem] theorem j9 : isI32 Tryz.prog 9 = false := by kernel_rfl
@[go_sem] theorem w9 : isU8 Tryz.prog 9 = false := by kernel_rfl
@[go_sem] theorem o9 : tzero Tryz.prog 9 = some [.string ByteArray.empty] := by kernel_rfl
@[go_sem] theorem i9 : (Tryz.prog.info? 9).isSome = true := by kernel_rfl
attribute [go_sem] Tryz.underlying21
@[go_sem] theorem z21 : tsize Tryz.prog 21 = 1 := by kernel_rfl
@[go_sem] theorem k21 : ttag Tryz.prog 21 = some false := by kernel_rfl
@[go_sem] theorem y21 : Tryz.prog.bytesOf 21 = 4 := by kernel_rfl
@[go_sem] theorem s21 : isStr Tryz.prog 21 = false := by kernel_rfl
@[go_sem] theorem j21 : isI32 Tryz.prog 21 = true := by kernel_rfl
@[go_sem] theorem w21 : isU8 Tryz.prog 21 = false := by kernel_rfl
@[go_sem] theorem o21 : tzero Tryz.prog 21 = some [.int .i32 0] := by kernel_rfl
@[go_sem] theorem i21 : (Tryz.prog.info? 21).isSome = true := by kernel_rfl
attribute [go_sem] Tryz.underlying22
@[go_sem] theorem z22 : tsize Tryz.prog 22 = 1 := by kernel_rfl
@[go_sem] theorem k22 : ttag Tryz.prog 22 = some false := by kernel_rfl
@[go_sem] theorem y22 : Tryz.prog.bytesOf 22 = 24 := by kernel_rfl
@[go_sem] theorem s22 : isStr Tryz.prog 22 = false := by kernel_rfl
@[go_sem] theorem j22 : isI32 Tryz.prog 22 = false := by kernel_rfl
@[go_sem] theorem w22 : isU8 Tryz.prog 22 = false := by kernel_rfl
@[go_sem] theorem o22 : tzero Tryz.prog 22 = some [.slice none 0 0] := by kernel_rfl
@[go_sem] theorem i22 : (Tryz.prog.info? 22).isSome = true := by kernel_rfl
attribute [go_sem] Tryz.underlying24
@[go_sem] theorem z24 : tsize Tryz.prog 24 = 1 := by kernel_rfl
@[go_sem] theorem k24 : ttag Tryz.prog 24 = some false := by kernel_rfl
@[go_sem] theorem y24 : Tryz.prog.bytesOf 24 = 24 := by kernel_rfl
@[go_sem] theorem s24 : isStr Tryz.prog 24 = false := by kernel_rfl
@[go_sem] theorem j24 : isI32 Tryz.prog 24 = false := by kernel_rfl
@[go_sem] theorem w24 : isU8 Tryz.prog 24 = false := by kernel_rfl
@[go_sem] theorem o24 : tzero Tryz.prog 24 = some [.slice none 0 0] := by kernel_rfl
@[go_sem] theorem i24 : (Tryz.prog.info? 24).isSome = true := by kernel_rfl
attribute [go_sem] Tryz.underlying28
@[go_sem] theorem z28 : tsize Tryz.prog 28 = 1 := by kernel_rfl
@[go_sem] theorem k28 : ttag Tryz.prog 28 = some false := by kernel_rfl
@[go_sem] theorem y28 : Tryz.prog.bytesOf 28 = 24 := by kernel_rfl
@[go_sem] theorem s28 : isStr Tryz.prog 28 = false := by kernel_rfl
@[go_sem] theorem j28 : isI32 Tryz.prog 28 = false := by kernel_rfl
@[go_sem] theorem w28 : isU8 Tryz.prog 28 = false := by kernel_rfl
@[go_sem] theorem o28 : tzero Tryz.prog 28 = some [.slice none 0 0] := by kernel_rfl
@[go_sem] theorem i28 : (Tryz.prog.info? 28).isSome = true := by kernel_rfl
attribute [go_sem] Tryz.underlying32
@[go_sem] theorem z32 : tsize Tryz.prog 32 = 2 := by kernel_rfl
@[go_sem] theorem k32 : ttag Tryz.prog 32 = some true := by kernel_rfl
@[go_sem] theorem y32 : Tryz.prog.bytesOf 32 = 16 := by kernel_rfl
@[go_sem] theorem s32 : isStr Tryz.prog 32 = false := by kernel_rfl
@[go_sem] theorem j32 : isI32 Tryz.prog 32 = false := by kernel_rfl
@[go_sem] theorem w32 : isU8 Tryz.prog 32 = false := by kernel_rfl
@[go_sem] theorem o32 : tzero Tryz.prog 32 = some [.int .i64 0, .int .i64 0] := by kernel_rfl
@[go_sem] theorem i32 : (Tryz.prog.info? 32).isSome = true := by kernel_rfl
@[go_sem] theorem x32 : structOk Tryz.prog 32 = true := by kernel_rfl
@[go_sem] theorem g32x0 : fieldOff Tryz.prog 32 0 = some (0, 2) := by kernel_rfl
@[go_sem] theorem g32x1 : fieldOff Tryz.prog 32 1 = some (1, 2) := by kernel_rfl
attribute [go_sem] Tryz.underlying34
@[go_sem] theorem z34 : tsize Tryz.prog 34 = 6 := by kernel_rfl
@[go_sem] theorem k34 : ttag Tryz.prog 34 = some true := by kernel_rfl
@[go_sem] theorem y34 : Tryz.prog.bytesOf 34 = 48 := by kernel_rfl
@[go_sem] theorem s34 : isStr Tryz.prog 34 = false := by kernel_rfl
@[go_sem] theorem j34 : isI32 Tryz.prog 34 = false := by kernel_rfl
@[go_sem] theorem w34 : isU8 Tryz.prog 34 = false := by kernel_rfl
@[go_sem] theorem o34 : tzero Tryz.prog 34 = some [.int .i64 0, .string ByteArray.empty, .int .i64 0, .int .i64 0, .bool false, .bool false] := by kernel_rfl
@[go_sem] theorem i34 : (Tryz.prog.info? 34).isSome = true := by kernel_rfl
@[go_sem] theorem x34 : structOk Tryz.prog 34 = true := by kernel_rfl
@[go_sem] theorem g34x0 : fieldOff Tryz.prog 34 0 = some (0, 3) := by kernel_rfl
@[go_sem] theorem g34x1 : fieldOff Tryz.prog 34 1 = some (1, 9) := by kernel_rfl
@[go_sem] theorem g34x2 : fieldOff Tryz.prog 34 2 = some (2, 32) := by kernel_rfl
@[go_sem] theorem g34x3 : fieldOff Tryz.prog 34 3 = some (4, 4) := by kernel_rfl
@[go_sem] theorem g34x4 : fieldOff Tryz.prog 34 4 = some (5, 4) := by kernel_rfl
attribute [go_sem] Tryz.underlying35
@[go_sem] theorem z35 : tsize Tryz.prog 35 = 1 := by kernel_rfl
@[go_sem] theorem k35 : ttag Tryz.prog 35 = some false := by kernel_rfl
@[go_sem] theorem y35 : Tryz.prog.bytesOf 35 = 8 := by kernel_rfl
@[go_sem] theorem s35 : isStr Tryz.prog 35 = false := by kernel_rfl
@[go_sem] theorem j35 : isI32 Tryz.prog 35 = false := by kernel_rfl
@[go_sem] theorem w35 : isU8 Tryz.prog 35 = false := by kernel_rfl
@[go_sem] theorem o35 : tzero Tryz.prog 35 = some [.int .i64 0] := by kernel_rfl
@[go_sem] theorem i35 : (Tryz.prog.info? 35).isSome = true := by kernel_rfl
attribute [go_sem] Tryz.underlying45
@[go_sem] theorem z45 : tsize Tryz.prog 45 = 2 := by kernel_rfl
@[go_sem] theorem k45 : ttag Tryz.prog 45 = some true := by kernel_rfl
@[go_sem] theorem y45 : Tryz.prog.bytesOf 45 = 32 := by kernel_rfl
@[go_sem] theorem s45 : isStr Tryz.prog 45 = false := by kernel_rfl
@[go_sem] theorem j45 : isI32 Tryz.prog 45 = false := by kernel_rfl
@[go_sem] theorem w45 : isU8 Tryz.prog 45 = false := by kernel_rfl
@[go_sem] theorem o45 : tzero Tryz.prog 45 = some [.slice none 0 0, .int .i64 0] := by kernel_rfl
@[go_sem] theorem i45 : (Tryz.prog.info? 45).isSome = true := by kernel_rfl
@[go_sem] theorem x45 : structOk Tryz.prog 45 = true := by kernel_rfl
@[go_sem] theorem g45x0 : fieldOff Tryz.prog 45 0 = some (0, 22) := by kernel_rfl
@[go_sem] theorem g45x1 : fieldOff Tryz.prog 45 1 = some (1, 3) := by kernel_rfl
attribute [go_sem] Tryz.underlying47
@[go_sem] theorem z47 : tsize Tryz.prog 47 = 2 := by kernel_rfl
@[go_sem] theorem k47 : ttag Tryz.prog 47 = some true := by kernel_rfl
@[go_sem] theorem y47 : Tryz.prog.bytesOf 47 = 32 := by kernel_rfl
@[go_sem] theorem s47 : isStr Tryz.prog 47 = false := by kernel_rfl
@[go_sem] theorem j47 : isI32 Tryz.prog 47 = false := by kernel_rfl
@[go_sem] theorem w47 : isU8 Tryz.prog 47 = false := by kernel_rfl
@[go_sem] theorem o47 : tzero Tryz.prog 47 = some [.slice none 0 0, .int .i64 0] := by kernel_rfl
@[go_sem] theorem i47 : (Tryz.prog.info? 47).isSome = true := by kernel_rfl
@[go_sem] theorem x47 : structOk Tryz.prog 47 = true := by kernel_rfl
@[go_sem] theorem g47x0 : fieldOff Tryz.prog 47 0 = some (0, 45) := by kernel_rfl
attribute [go_sem] Tryz.underlying62
@[go_sem] theorem z62 : tsize Tryz.prog 62 = 1 := by kernel_rfl
@[go_sem] theorem k62 : ttag Tryz.prog 62 = some false := by kernel_rfl
@[go_sem] theorem y62 : Tryz.prog.bytesOf 62 = 8 := by kernel_rfl
@[go_sem] theorem s62 : isStr Tryz.prog 62 = false := by kernel_rfl
@[go_sem] theorem j62 : isI32 Tryz.prog 62 = false := by kernel_rfl
@[go_sem] theorem w62 : isU8 Tryz.prog 62 = false := by kernel_rfl
@[go_sem] theorem i62 : (Tryz.prog.info? 62).isSome = true := by kernel_rfl
attribute [go_sem] Tryz.underlying64
@[go_sem] theorem z64 : tsize Tryz.prog 64 = 2 := by kernel_rfl
@[go_sem] theorem k64 : ttag Tryz.prog 64 = some true := by kernel_rfl
@[go_sem] theorem y64 : Tryz.prog.bytesOf 64 = 32 := by kernel_rfl
@[go_sem] theorem s64 : isStr Tryz.prog 64 = false := by kernel_rfl
@[go_sem] theorem j64 : isI32 Tryz.prog 64 = false := by kernel_rfl
@[go_sem] theorem w64 : isU8 Tryz.prog 64 = false := by kernel_rfl
@[go_sem] theorem o64 : tzero Tryz.prog 64 = some [.pointer none, .slice none 0 0] := by kernel_rfl
@[go_sem] theorem i64 : (Tryz.prog.info? 64).isSome = true := by kernel_rfl
@[go_sem] theorem x64 : structOk Tryz.prog 64 = true := by kernel_rfl
@[go_sem] theorem g64x0 : fieldOff Tryz.prog 64 0 = some (0, 62) := by kernel_rfl
@[go_sem] theorem g64x1 : fieldOff Tryz.prog 64 1 = some (1, 28) := by kernel_rfl
attribute [go_sem] Tryz.underlying71
@[go_sem] theorem z71 : tsize Tryz.prog 71 = 1 := by kernel_rfl
@[go_sem] theorem k71 : ttag Tryz.prog 71 = some false := by kernel_rfl
@[go_sem] theorem y71 : Tryz.prog.bytesOf 71 = 8 := by kernel_rfl
@[go_sem] theorem s71 : isStr Tryz.prog 71 = false := by kernel_rfl
@[go_sem] theorem j71 : isI32 Tryz.prog 71 = false := by kernel_rfl
@[go_sem] theorem w71 : isU8 Tryz.prog 71 = false := by kernel_rfl
@[go_sem] theorem i71 : (Tryz.prog.info? 71).isSome = true := by kernel_rfl
attribute [go_sem] Tryz.underlying73
@[go_sem] theorem z73 : tsize Tryz.prog 73 = 1 := by kernel_rfl
@[go_sem] theorem k73 : ttag Tryz.prog 73 = some false := by kernel_rfl
@[go_sem] theorem y73 : Tryz.prog.bytesOf 73 = 8 := by kernel_rfl
@[go_sem] theorem s73 : isStr Tryz.prog 73 = false := by kernel_rfl
@[go_sem] theorem j73 : isI32 Tryz.prog 73 = false := by kernel_rfl
@[go_sem] theorem w73 : isU8 Tryz.prog 73 = false := by kernel_rfl
@[go_sem] theorem i73 : (Tryz.prog.info? 73).isSome = true := by kernel_rfl
attribute [go_sem] Tryz.underlying90
@[go_sem] theorem z90 : tsize Tryz.prog 90 = 1 := by kernel_rfl
@[go_sem] theorem k90 : ttag Tryz.prog 90 = some false := by kernel_rfl
@[go_sem] theorem y90 : Tryz.prog.bytesOf 90 = 8 := by kernel_rfl
@[go_sem] theorem s90 : isStr Tryz.prog 90 = false := by kernel_rfl
@[go_sem] theorem j90 : isI32 Tryz.prog 90 = false := by kernel_rfl
@[go_sem] theorem w90 : isU8 Tryz.prog 90 = false := by kernel_rfl
@[go_sem] theorem o90 : tzero Tryz.prog 90 = some [.int .u64 0] := by kernel_rfl
@[go_sem] theorem i90 : (Tryz.prog.info? 90).isSome = true := by kernel_rfl
attribute [go_sem] Tryz.underlying92
@[go_sem] theorem z92 : tsize Tryz.prog 92 = 2 := by kernel_rfl
@[go_sem] theorem k92 : ttag Tryz.prog 92 = some true := by kernel_rfl
@[go_sem] theorem y92 : Tryz.prog.bytesOf 92 = 16 := by kernel_rfl
@[go_sem] theorem s92 : isStr Tryz.prog 92 = false := by kernel_rfl
@[go_sem] theorem j92 : isI32 Tryz.prog 92 = false := by kernel_rfl
@[go_sem] theorem w92 : isU8 Tryz.prog 92 = false := by kernel_rfl
@[go_sem] theorem o92 : tzero Tryz.prog 92 = some [.int .u64 0, .int .u64 0] := by kernel_rfl
@[go_sem] theorem i92 : (Tryz.prog.info? 92).isSome = true := by kernel_rfl
attribute [go_sem] Tryz.underlying93
@[go_sem] theorem z93 : tsize Tryz.prog 93 = 4 := by kernel_rfl
@[go_sem] theorem k93 : ttag Tryz.prog 93 = some true := by kernel_rfl
@[go_sem] theorem y93 : Tryz.prog.bytesOf 93 = 32 := by kernel_rfl
@[go_sem] theorem s93 : isStr Tryz.prog 93 = false := by kernel_rfl
@[go_sem] theorem j93 : isI32 Tryz.prog 93 = false := by kernel_rfl
@[go_sem] theorem w93 : isU8 Tryz.prog 93 = false := by kernel_rfl
@[go_sem] theorem o93 : tzero Tryz.prog 93 = some [.int .u64 0, .int .u64 0, .int .u64 0, .int .u64 0] := by kernel_rfl
@[go_sem] theorem i93 : (Tryz.prog.info? 93).isSome = true := by kernel_rfl
attribute [go_sem] Tryz.underlying96
@[go_sem] theorem z96 : tsize Tryz.prog 96 = 10 := by kernel_rfl
@[go_sem] theorem k96 : ttag Tryz.prog 96 = some true := by kernel_rfl
@[go_sem] theorem y96 : Tryz.prog.bytesOf 96 = 80 := by kernel_rfl
@[go_sem] theorem s96 : isStr Tryz.prog 96 = false := by kernel_rfl
@[go_sem] theorem j96 : isI32 Tryz.prog 96 = false := by kernel_rfl
@[go_sem] theorem w96 : isU8 Tryz.prog 96 = false := by kernel_rfl
@[go_sem] theorem o96 : tzero Tryz.prog 96 = some [.int .i64 0, .int .i64 0, .int .i64 0, .int .i64 0, .int .i64 0, .int .i64 0, .int .i64 0, .int .i64 0, .int .i64 0, .int .i64 0] := by kernel_rfl
@[go_sem] theorem i96 : (Tryz.prog.info? 96).isSome = true := by kernel_rfl
attribute [go_sem] Tryz.underlying101
@[go_sem] theorem z101 : tsize Tryz.prog 101 = 1 := by kernel_rfl
@[go_sem] theorem k101 : ttag Tryz.prog 101 = some false := by kernel_rfl
@[go_sem] theorem y101 : Tryz.prog.bytesOf 101 = 8 := by kernel_rfl
@[go_sem] theorem s101 : isStr Tryz.prog 101 = false := by kernel_rfl
@[go_sem] theorem j101 : isI32 Tryz.prog 101 = false := by kernel_rfl
@[go_sem] theorem w101 : isU8 Tryz.prog 101 = false := by kernel_rfl
@[go_sem] theorem o101 : tzero Tryz.prog 101 = some [.int .u64 0] := by kernel_rfl
@[go_sem] theorem i101 : (Tryz.prog.info? 101).isSome = true := by kernel_rfl
attribute [go_sem] Tryz.underlying113
@[go_sem] theorem z113 : tsize Tryz.prog 113 = 20 := by kernel_rfl
@[go_sem] theorem k113 : ttag Tryz.prog 113 = some true := by kernel_rfl
@[go_sem] theorem y113 : Tryz.prog.bytesOf 113 = 20 := by kernel_rfl
@[go_sem] theorem s113 : isStr Tryz.prog 113 = false := by kernel_rfl
@[go_sem] theorem j113 : isI32 Tryz.prog 113 = false := by kernel_rfl
@[go_sem] theorem w113 : isU8 Tryz.prog 113 = false := by kernel_rfl
@[go_sem] theorem o113 : tzero Tryz.prog 113 = some [.int .u8 0, .int .u8 0, .int .u8 0, .int .u8 0, .int .u8 0, .int .u8 0, .int .u8 0, .int .u8 0, .int .u8 0, .int .u8 0, .int .u8 0, .int .u8 0, .int .u8 0, .int .u8 0, .int .u8 0, .int .u8 0, .int .u8 0, .int .u8 0, .int .u8 0, .int .u8 0] := by kernel_rfl
@[go_sem] theorem i113 : (Tryz.prog.info? 113).isSome = true := by kernel_rfl
attribute [go_sem] Tryz.underlying116
@[go_sem] theorem z116 : tsize Tryz.prog 116 = 256 := by kernel_rfl
@[go_sem] theorem k116 : ttag Tryz.prog 116 = some true := by kernel_rfl
@[go_sem] theorem y116 : Tryz.prog.bytesOf 116 = 256 := by kernel_rfl
@[go_sem] theorem s116 : isStr Tryz.prog 116 = false := by kernel_rfl
@[go_sem] theorem j116 : isI32 Tryz.prog 116 = false := by kernel_rfl
@[go_sem] theorem w116 : isU8 Tryz.prog 116 = false := by kernel_rfl
@[go_sem] theorem o116 : tzero Tryz.prog 116 = some [.bool false, .bool false, .bool false, .bool false, .bool false, .bool false, .bool false, .bool false, .bool false, .bool false, .bool false, .bool false, .bool false, .bool false, .bool false, .bool false, .bool false, .bool false, .bool false, .bool false, .bool false, .bool false, .bool false, .bool false, .bool false, .bool false, .bool false, .bool false, .bool false, .bool false, .bool false, .bool false, .bool false, .bool false, .bool false, .bool false, .bool false, .bool false, .bool false, .bool false, .bool false, .bool false, .bool false, .bool false, .bool false, .bool false, .bool false, .bool false, .bool false, .bool false, .bool false, .bool false, .bool false, .bool false, .bool false, .bool false, .bool false, .bool false, .bool false, .bool false, .bool false, .bool false, .bool false, .bool false, .bool false, .bool false, .bool false, .bool false, .bool false, .bool false, .bool false, .bool false, .bool false, .bool false, .bool false, .bool false, .bool false, .bool false, .bool false, .bool false, .bool false, .bool false, .bool false, .bool false, .bool false, .bool false, .bool false, .bool false, .bool false, .bool false, .bool false, .bool false, .bool false, .bool false, .bool false, .bool false, .bool false, .bool false, .bool false, .bool false, .bool false, .bool false, .bool false, .bool false, .bool false, .bool false, .bool false, .bool false, .bool false, .bool false, .bool false, .bool false, .bool false, .bool false, .bool false, .bool false, .bool false, .bool false, .bool false, .bool false, .bool false, .bool false, .bool false, .bool false, .bool false, .bool false, .bool false, .bool false, .bool false, .bool false, .bool false, .bool false, .bool false, .bool false, .bool false, .bool false, .bool false, .bool false, .bool false, .bool false, .bool false, .bool false, .bool false, .bool false, .bool false, .bool false, .bool false, .bool false, .bool false, .bool false, .bool false, .bool false, .bool false, .bool false, .bool false, .bool false, .bool false, .bool false, .bool false, .bool false, .bool false, .bool false, .bool false, .bool false, .bool false, .bool false, .bool false, .bool false, .bool false, .bool false, .bool false, .bool false, .bool false, .bool false, .bool false, .bool false, .bool false, .bool false, .bool false, .bool false, .bool false, .bool false, .bool false, .bool false, .bool false, .bool false, .bool false, .bool false, .bool false, .bool false, .bool false, .bool false, .bool false, .bool false, .bool false, .bool false, .bool false, .bool false, .bool false, .bool false, .bool false, .bool false, .bool false, .bool false, .bool false, .bool false, .bool false, .bool false, .bool false, .bool false, .bool false, .bool false, .bool false, .bool false, .bool false, .bool false, .bool false, .bool false, .bool false, .bool false, .bool false, .bool false, .bool false, .bool false, .bool false, .bool false, .bool false, .bool false, .bool false, .bool false, .bool false, .bool false, .bool false, .bool false, .bool false, .bool false, .bool false, .bool false, .bool false, .bool false, .bool false, .bool false, .bool false, .bool false, .bool false, .bool false, .bool false, .bool false, .bool false, .bool false, .bool false, .bool false, .bool false, .bool false, .bool false, .bool false] := by kernel_rfl
@[go_sem] theorem i116 : (Tryz.prog.info? 116).isSome = true := by kernel_rfl
attribute [go_sem] Tryz.underlying127
@[go_sem] theorem z127 : tsize Tryz.prog 127 = 5 := by kernel_rfl
@[go_sem] theorem k127 : ttag Tryz.prog 127 = some true := by kernel_rfl
@[go_sem] theorem y127 : Tryz.prog.bytesOf 127 = 48 := by kernel_rfl
@[go_sem] theorem s127 : isStr Tryz.prog 127 = false := by kernel_rfl
@[go_sem] theorem j127 : isI32 Tryz.prog 127 = false := by kernel_rfl
@[go_sem] theorem w127 : isU8 Tryz.prog 127 = false := by kernel_rfl
@[go_sem] theorem o127 : tzero Tryz.prog 127 = some [.bool false, .string ByteArray.empty, .int .i64 0, .int .i64 0, .bool false] := by kernel_rfl
@[go_sem] theorem i127 : (Tryz.prog.info? 127).isSome = true := by kernel_rfl
@[go_sem] theorem x127 : structOk Tryz.prog 127 = true := by kernel_rfl
@[go_sem] theorem g127x0 : fieldOff Tryz.prog 127 0 = some (0, 4) := by kernel_rfl
@[go_sem] theorem g127x1 : fieldOff Tryz.prog 127 1 = some (1, 9) := by kernel_rfl
@[go_sem] theorem g127x2 : fieldOff Tryz.prog 127 2 = some (2, 2) := by kernel_rfl
@[go_sem] theorem g127x3 : fieldOff Tryz.prog 127 3 = some (3, 2) := by kernel_rfl
@[go_sem] theorem g127x4 : fieldOff Tryz.prog 127 4 = some (4, 4) := by kernel_rfl
attribute [go_sem] Tryz.underlying139
@[go_sem] theorem z139 : tsize Tryz.prog 139 = 1 := by kernel_rfl
@[go_sem] theorem k139 : ttag Tryz.prog 139 = some false := by kernel_rfl
@[go_sem] theorem y139 : Tryz.prog.bytesOf 139 = 4 := by kernel_rfl
@[go_sem] theorem s139 : isStr Tryz.prog 139 = false := by kernel_rfl
@[go_sem] theorem j139 : isI32 Tryz.prog 139 = false := by kernel_rfl
@[go_sem] theorem w139 : isU8 Tryz.prog 139 = false := by kernel_rfl
@[go_sem] theorem o139 : tzero Tryz.prog 139 = some [.int .u32 0] := by kernel_rfl
@[go_sem] theorem i139 : (Tryz.prog.info? 139).isSome = true := by kernel_rfl
attribute [go_sem] Tryz.underlying153
@[go_sem] theorem z153 : tsize Tryz.prog 153 = 1 := by kernel_rfl
@[go_sem] theorem k153 : ttag Tryz.prog 153 = some false := by kernel_rfl
@[go_sem] theorem y153 : Tryz.prog.bytesOf 153 = 24 := by kernel_rfl
@[go_sem] theorem s153 : isStr Tryz.prog 153 = false := by kernel_rfl
@[go_sem] theorem j153 : isI32 Tryz.prog 153 = false := by kernel_rfl
@[go_sem] theorem w153 : isU8 Tryz.prog 153 = false := by kernel_rfl
@[go_sem] theorem o153 : tzero Tryz.prog 153 = some [.slice none 0 0] := by kernel_rfl
@[go_sem] theorem i153 : (Tryz.prog.info? 153).isSome = true := by kernel_rfl
@[go_sem] def h8a : Nat → Option (List Nat) := (fun id => match id with | 0 => some [0] | 1 => some [3] | 2 => some [3, 4, 5] | 3 => some [2] | _ => none)
def h8 : Hint := ⟨h8a, (fun _ => none), (fun _ => none), [], false, (fun _ => none)⟩
@[go_sem] theorem h8x : h8.mix = (fun _ => none) := rfl
@[go_sem] theorem h8l : h8.live = h8a := rfl
@[go_sem] theorem h8k : h8.keep = (fun _ => none) := rfl
@[go_sem] theorem h8t : h8.tail = (fun _ => none) := rfl
@[go_sem] theorem h8v : h8.vars = [] := rfl
@[go_sem] theorem h8m : h8.mutc = false := rfl
@[go_sem] def h9a : Nat → Option (List Nat) := (fun id => match id with | 0 => some [1] | 1 => some [1, 3, 4] | 2 => some [1, 3, 4, 23] | 3 => some [2] | 4 => some [1, 3, 50] | 5 => some [2] | 6 => some [1, 5] | 7 => some [2] | _ => none)
def h9 : Hint := ⟨h9a, (fun _ => none), (fun id => match id with | 7 => some 13 | _ => none), [], false, (fun _ => none)⟩
@[go_sem] theorem h9x : h9.mix = (fun _ => none) := rfl
@[go_sem] theorem h9l : h9.live = h9a := rfl
@[go_sem] theorem h9k : h9.keep = (fun _ => none) := rfl
@[go_sem] theorem h9t : h9.tail = (fun id => match id with | 7 => some 13 | _ => none) := rfl
@[go_sem] theorem h9v : h9.vars = [] := rfl
@[go_sem] theorem h9m : h9.mutc = false := rfl
@[go_sem] def h10a : Nat → Option (List Nat) := (fun id => match id with | 0 => some [0] | 1 => some [0, 3] | 2 => some [3, 8, 9, 10] | 3 => some [3, 8, 9, 10, 11] | 4 => some [3, 5, 8, 9, 10] | 5 => some [3, 5, 8, 9, 10, 61] | 6 => some [3, 5, 8, 9, 10, 61] | 7 => some [3, 8, 9, 10] | 8 => some [3, 6, 7] | 9 => some [3, 6, 73] | 10 => some [2] | 11 => some [2] | _ => none)
def h10 : Hint := ⟨h10a, (fun id => match id with | 7 => some 0 | _ => none), (fun _ => none), [3], false, (fun _ => none)⟩
@[go_sem] theorem h10x : h10.mix = (fun _ => none) := rfl
@[go_sem] theorem h10l : h10.live = h10a := rfl
@[go_sem] theorem h10k : h10.keep = (fun id => match id with | 7 => some 0 | _ => none) := rfl
@[go_sem] theorem h10t : h10.tail = (fun _ => none) := rfl
@[go_sem] theorem h10v : h10.vars = [3] := rfl
@[go_sem] theorem h10m : h10.mutc = false := rfl
@[go_sem] def h11a : Nat → Option (List Nat) := (fun id => match id with | 0 => some [0, 1] | 1 => some [0, 1, 10] | 2 => some [4] | 3 => some [0, 1, 12, 13] | 4 => some [0, 1, 12, 13, 14] | 5 => some [0, 1, 5, 12, 13] | 6 => some [0, 1, 12, 13, 24] | 7 => some [4] | 8 => some [0, 1, 12, 13] | 9 => some [4] | _ => none)
def h11 : Hint := ⟨h11a, (fun _ => none), (fun id => match id with | 6 => some 9 | _ => none), [], false, (fun _ => none)⟩
@[go_sem] theorem h11x : h11.mix = (fun _ => none) := rfl
@[go_sem] theorem h11l : h11.live = h11a := rfl
@[go_sem] theorem h11k : h11.keep = (fun _ => none) := rfl
@[go_sem] theorem h11t : h11.tail = (fun id => match id with | 6 => some 9 | _ => none) := rfl
@[go_sem] theorem h11v : h11.vars = [] := rfl
@[go_sem] theorem h11m : h11.mutc = false := rfl
@[go_sem] def h12a : Nat → Option (List Nat) := (fun id => match id with | 0 => some [0] | 1 => some [3] | 2 => some [3, 4] | 3 => some [3, 4] | 4 => some [3, 4, 12] | 5 => some [2] | 6 => some [3, 4] | _ => none)
def h12 : Hint := ⟨h12a, (fun _ => none), (fun _ => none), [4], false, (fun _ => none)⟩
@[go_sem] theorem h12x : h12.mix = (fun _ => none) := rfl
@[go_sem] theorem h12l : h12.live = h12a := rfl
@[go_sem] theorem h12k : h12.keep = (fun _ => none) := rfl
@[go_sem] theorem h12t : h12.tail = (fun _ => none) := rfl
@[go_sem] theorem h12v : h12.vars = [4] := rfl
@[go_sem] theorem h12m : h12.mutc = false := rfl
@[go_sem] def h15a : Nat → Option (List Nat) := (fun id => match id with | 0 => some [0] | 1 => some [2] | _ => none)
def h15 : Hint := ⟨h15a, (fun _ => none), (fun _ => none), [], false, (fun _ => none)⟩
@[go_sem] theorem h15x : h15.mix = (fun _ => none) := rfl
@[go_sem] theorem h15l : h15.live = h15a := rfl
@[go_sem] theorem h15k : h15.keep = (fun _ => none) := rfl
@[go_sem] theorem h15t : h15.tail = (fun _ => none) := rfl
@[go_sem] theorem h15v : h15.vars = [] := rfl
@[go_sem] theorem h15m : h15.mutc = false := rfl
@[go_sem] def h17a : Nat → Option (List Nat) := (fun id => match id with | 0 => some [1] | 1 => some [1, 8] | 2 => some [2, 3] | 3 => some [1, 10] | 4 => some [1, 10, 11] | 5 => some [2, 3] | 6 => some [1, 10, 16] | 7 => some [2, 3] | 8 => some [1, 10, 22] | 9 => some [2, 3] | 10 => some [1, 10, 28] | 11 => some [1, 31] | 12 => some [2, 3] | 13 => some [2, 3] | 14 => some [1, 10, 40] | 15 => some [2, 3] | 16 => some [1, 10, 47] | 17 => some [2, 3] | 18 => some [1, 10, 54] | 19 => some [1, 58] | 20 => some [2, 3] | 21 => some [2, 3] | 22 => some [1, 10, 61] | 23 => some [1, 10, 61] | 24 => some [1, 10, 61] | 25 => some [1, 4] | 26 => some [1, 4, 74] | 27 => some [1, 4, 74, 75] | 28 => some [1, 4, 74, 75] | 29 => some [1, 4, 79] | 30 => some [1, 4, 74, 75] | 31 => some [2, 3] | 32 => some [2, 3] | _ => none)
def h17 : Hint := ⟨h17a, (fun _ => none), (fun _ => none), [], false, (fun _ => none)⟩
@[go_sem] theorem h17x : h17.mix = (fun _ => none) := rfl
@[go_sem] theorem h17l : h17.live = h17a := rfl
@[go_sem] theorem h17k : h17.keep = (fun _ => none) := rfl
@[go_sem] theorem h17t : h17.tail = (fun _ => none) := rfl
@[go_sem] theorem h17v : h17.vars = [] := rfl
@[go_sem] theorem h17m : h17.mutc = false := rfl
@[go_sem] def h19a : Nat → Option (List Nat) := (fun id => match id with | 0 => some [] | 1 => some [1, 2] | 2 => some [0] | _ => none)
def h19 : Hint := ⟨h19a, (fun _ => none), (fun _ => none), [], false, (fun _ => none)⟩
@[go_sem] theorem h19x : h19.mix = (fun _ => none) := rfl
@[go_sem] theorem h19l : h19.live = h19a := rfl
@[go_sem] theorem h19k : h19.keep = (fun _ => none) := rfl
@[go_sem] theorem h19t : h19.tail = (fun _ => none) := rfl
@[go_sem] theorem h19v : h19.vars = [] := rfl
@[go_sem] theorem h19m : h19.mutc = false := rfl
@[go_sem] def h20a : Nat → Option (List Nat) := (fun id => match id with | 0 => some [0] | 1 => some [0, 4] | 2 => some [0, 4, 9, 10, 11] | 3 => some [0, 4, 9, 10, 11, 12] | 4 => some [0, 4, 5, 6, 9, 10, 11] | 5 => some [0, 4, 5, 6, 7, 8, 9, 10, 11] | 6 => some [0, 4, 5, 6, 7, 8, 9, 10, 11, 22] | 7 => some [2, 3] | 8 => some [0, 4, 7, 9, 10, 11, 34] | 9 => some [0, 4, 7, 9, 10, 11, 34] | 10 => some [0, 4, 9, 10, 11] | 11 => some [0, 4, 9, 10, 11] | 12 => some [2, 3] | _ => none)
def h20 : Hint := ⟨h20a, (fun _ => none), (fun id => match id with | 8 => some 11 | _ => none), [], false, (fun _ => none)⟩
@[go_sem] theorem h20x : h20.mix = (fun _ => none) := rfl
@[go_sem] theorem h20l : h20.live = h20a := rfl
@[go_sem] theorem h20k : h20.keep = (fun _ => none) := rfl
@[go_sem] theorem h20t : h20.tail = (fun id => match id with | 8 => some 11 | _ => none) := rfl
@[go_sem] theorem h20v : h20.vars = [] := rfl
@[go_sem] theorem h20m : h20.mutc = false := rfl
@[go_sem] def h23a : Nat → Option (List Nat) := (fun id => match id with | 0 => some [1] | 1 => some [1, 3] | 2 => some [1, 3] | 3 => some [1, 3, 4] | 4 => some [1, 3, 4, 8] | 5 => some [1, 3, 4, 8, 9] | 6 => some [1, 3, 4, 8, 9] | 7 => some [1, 3, 4, 8, 9] | 8 => some [1, 3, 4, 8, 9] | 9 => some [1, 3, 4, 8, 9] | 10 => some [1, 3, 4, 8, 22] | 11 => some [3, 4] | 12 => some [1, 3, 4, 8, 9] | 13 => some [1, 3, 4, 8, 43] | 14 => some [1, 3, 4, 8, 43] | 15 => some [1, 3, 4, 8, 9] | 16 => some [1, 3, 4, 8, 50] | 17 => some [1, 3, 4, 8, 9] | 18 => some [1, 3, 4, 8, 56] | 19 => some [3, 4] | 20 => some [1, 3, 4, 8, 9] | 21 => some [1, 3, 4, 8, 74] | 22 => some [1, 3, 4, 8, 74] | 23 => some [3, 4] | 24 => some [1, 3, 4, 8, 9] | 25 => some [3, 4, 8, 82] | 26 => some [3, 4, 8, 82] | 27 => some [3, 4, 8, 82] | 28 => some [3, 4, 8, 82] | 29 => some [3, 4, 8, 82] | 30 => some [3, 4, 8, 82] | 31 => some [3, 4, 8, 82] | 32 => some [3, 4, 8, 82] | 33 => some [3, 4, 8, 91] | 34 => some [3, 4, 8, 91] | 35 => some [3, 4, 8, 91] | 36 => some [3, 4, 8, 91] | 37 => some [3, 4, 8, 91] | 38 => some [3, 4, 8, 91] | 39 => some [2] | _ => none)
def h23 : Hint := ⟨h23a, (fun _ => none), (fun _ => none), [], false, (fun _ => none)⟩
@[go_sem] theorem h23x : h23.mix = (fun _ => none) := rfl
@[go_sem] theorem h23l : h23.live = h23a := rfl
@[go_sem] theorem h23k : h23.keep = (fun _ => none) := rfl
@[go_sem] theorem h23t : h23.tail = (fun _ => none) := rfl
@[go_sem] theorem h23v : h23.vars = [] := rfl
@[go_sem] theorem h23m : h23.mutc = false := rfl
@[go_sem] def h24a : Nat → Option (List Nat) := (fun id => match id with | 0 => some [0, 1] | 1 => some [4] | _ => none)
def h24 : Hint := ⟨h24a, (fun _ => none), (fun _ => none), [], false, (fun _ => none)⟩
@[go_sem] theorem h24x : h24.mix = (fun _ => none) := rfl
@[go_sem] theorem h24l : h24.live = h24a := rfl
@[go_sem] theorem h24k : h24.keep = (fun _ => none) := rfl
@[go_sem] theorem h24t : h24.tail = (fun _ => none) := rfl
@[go_sem] theorem h24v : h24.vars = [] := rfl
@[go_sem] theorem h24m : h24.mutc = false := rfl
@[go_sem] def h25a : Nat → Option (List Nat) := (fun id => match id with | 0 => some [0, 4] | 1 => some [0] | 2 => some [0, 20] | 3 => some [0] | 4 => some [0, 30] | 5 => some [0] | _ => none)
def h25 : Hint := ⟨h25a, (fun _ => none), (fun _ => none), [], false, (fun _ => none)⟩
@[go_sem] theorem h25x : h25.mix = (fun _ => none) := rfl
@[go_sem] theorem h25l : h25.live = h25a := rfl
@[go_sem] theorem h25k : h25.keep = (fun _ => none) := rfl
@[go_sem] theorem h25t : h25.tail = (fun _ => none) := rfl
@[go_sem] theorem h25v : h25.vars = [] := rfl
@[go_sem] theorem h25m : h25.mutc = false := rfl
@[go_sem] def h26a : Nat → Option (List Nat) := (fun id => match id with | 0 => some [0, 1] | 1 => some [0, 1, 17] | 2 => some [4] | 3 => some [5] | 4 => some [5, 43] | 5 => some [4] | 6 => some [4] | _ => none)
def h26 : Hint := ⟨h26a, (fun _ => none), (fun id => match id with | 1 => some 12 | 3 => some 12 | _ => none), [], false, (fun _ => none)⟩
@[go_sem] theorem h26x : h26.mix = (fun _ => none) := rfl
@[go_sem] theorem h26l : h26.live = h26a := rfl
@[go_sem] theorem h26k : h26.keep = (fun _ => none) := rfl
@[go_sem] theorem h26t : h26.tail = (fun id => match id with | 1 => some 12 | 3 => some 12 | _ => none) := rfl
@[go_sem] theorem h26v : h26.vars = [] := rfl
@[go_sem] theorem h26m : h26.mutc = false := rfl
@[go_sem] def h27a : Nat → Option (List Nat) := (fun id => match id with | 0 => some [0, 2] | 1 => some [0, 2, 3] | 2 => some [0, 2, 3, 9] | 3 => some [2] | 4 => some [2] | 5 => some [0, 2, 3, 17] | 6 => some [2] | 7 => some [0, 2, 3, 26] | 8 => some [2, 3] | 9 => some [2] | 10 => some [0, 2, 3, 42] | 11 => some [2] | 12 => some [0, 2, 3, 65] | 13 => some [2] | 14 => some [2] | 15 => some [0, 2, 3, 81] | 16 => some [2] | 17 => some [2] | 18 => some [0, 2, 3, 97] | 19 => some [0, 2, 4] | 20 => some [0, 2, 4] | 21 => some [2] | 22 => some [0, 2, 132] | 23 => some [0, 2] | 24 => some [2] | 25 => some [0, 2, 155] | 26 => some [2] | 27 => some [2] | _ => none)
def h27 : Hint := ⟨h27a, (fun _ => none), (fun _ => none), [], false, (fun _ => none)⟩
@[go_sem] theorem h27x : h27.mix = (fun _ => none) := rfl
@[go_sem] theorem h27l : h27.live = h27a := rfl
@[go_sem] theorem h27k : h27.keep = (fun _ => none) := rfl
@[go_sem] theorem h27t : h27.tail = (fun _ => none) := rfl
@[go_sem] theorem h27v : h27.vars = [] := rfl
@[go_sem] theorem h27m : h27.mutc = false := rfl
@[go_sem] def h31a : Nat → Option (List Nat) := (fun id => match id with | 0 => some [0] | 1 => some [0, 28] | 2 => some [0, 28] | 3 => some [0, 3] | 4 => some [0, 3, 4] | 5 => some [3, 4, 32, 33, 34] | 6 => some [3, 4, 32, 33, 34, 35] | 7 => some [3, 4, 6, 32, 33, 34] | 8 => some [3, 6, 7, 32, 33, 34] | 9 => some [3, 4, 6, 7, 32, 33, 34] | 10 => some [3, 4, 6, 7, 32, 33, 34, 41] | 11 => some [3, 4, 6, 7, 32, 33, 34, 41, 42] | 12 => some [3, 4, 6, 32, 33, 34, 44] | 13 => some [3, 4, 6, 32, 33, 34, 41, 45] | 14 => some [3, 4, 6, 32, 33, 34, 41, 45] | 15 => some [3, 4, 6, 7, 32, 33, 34, 41, 42] | 16 => some [3, 4, 6, 32, 33, 34, 48] | 17 => some [3, 4, 6, 7, 32, 33, 34, 41, 42] | 18 => some [3, 4, 32, 33, 34] | 19 => some [3, 4, 32, 33, 34] | 20 => some [2] | _ => none)
def h31 : Hint := ⟨h31a, (fun _ => none), (fun _ => none), [3], false, (fun _ => none)⟩
@[go_sem] theorem h31x : h31.mix = (fun _ => none) := rfl
@[go_sem] theorem h31l : h31.live = h31a := rfl
@[go_sem] theorem h31k : h31.keep = (fun _ => none) := rfl
@[go_sem] theorem h31t : h31.tail = (fun _ => none) := rfl
@[go_sem] theorem h31v : h31.vars = [3] := rfl
@[go_sem] theorem h31m : h31.mutc = false := rfl
@[go_sem] def h33a : Nat → Option (List Nat) := (fun id => match id with | 0 => some [0] | 1 => some [0, 5] | 2 => some [2] | 3 => some [0, 3] | 4 => some [0, 3, 7] | 5 => some [0, 3, 7] | 6 => some [0, 3, 18] | 7 => some [2] | 8 => some [2] | _ => none)
def h33 : Hint := ⟨h33a, (fun _ => none), (fun id => match id with | 7 => some 15 | _ => none), [], false, (fun _ => none)⟩
@[go_sem] theorem h33x : h33.mix = (fun _ => none) := rfl
@[go_sem] theorem h33l : h33.live = h33a := rfl
@[go_sem] theorem h33k : h33.keep = (fun _ => none) := rfl
@[go_sem] theorem h33t : h33.tail = (fun id => match id with | 7 => some 15 | _ => none) := rfl
@[go_sem] theorem h33v : h33.vars = [] := rfl
@[go_sem] theorem h33m : h33.mutc = false := rfl
@[go_sem] def h34a : Nat → Option (List Nat) := (fun id => match id with | 0 => some [0] | 1 => some [0, 3] | 2 => some [3, 7] | 3 => some [3, 7, 8, 9] | 4 => some [3, 5, 7] | 5 => some [3, 5, 7] | 6 => some [3, 7] | 7 => some [3, 5, 7, 14] | 8 => some [3, 7] | 9 => some [3, 5, 7, 20] | 10 => some [3, 7] | 11 => some [2] | _ => none)
def h34 : Hint := ⟨h34a, (fun _ => none), (fun _ => none), [], false, (fun _ => none)⟩
@[go_sem] theorem h34x : h34.mix = (fun _ => none) := rfl
@[go_sem] theorem h34l : h34.live = h34a := rfl
@[go_sem] theorem h34k : h34.keep = (fun _ => none) := rfl
@[go_sem] theorem h34t : h34.tail = (fun _ => none) := rfl
@[go_sem] theorem h34v : h34.vars = [] := rfl
@[go_sem] theorem h34m : h34.mutc = false := rfl
@[go_sem] def h35a : Nat → Option (List Nat) := (fun id => match id with | 0 => some [0, 1, 2] | 1 => some [0, 1, 2, 7] | 2 => some [1, 2, 7, 11] | 3 => some [1, 2, 7, 11, 12, 13] | 4 => some [1, 2, 7, 9, 11] | 5 => some [1, 2, 7, 9, 11, 15] | 6 => some [1, 2, 7, 11] | 7 => some [1, 2, 7, 9, 11, 28] | 8 => some [1, 2, 7, 9, 11, 28] | 9 => some [1, 2, 7, 11] | 10 => some [6] | _ => none)
def h35 : Hint := ⟨h35a, (fun _ => none), (fun _ => none), [], false, (fun _ => none)⟩
@[go_sem] theorem h35x : h35.mix = (fun _ => none) := rfl
@[go_sem] theorem h35l : h35.live = h35a := rfl
@[go_sem] theorem h35k : h35.keep = (fun _ => none) := rfl
@[go_sem] theorem h35t : h35.tail = (fun _ => none) := rfl
@[go_sem] theorem h35v : h35.vars = [] := rfl
@[go_sem] theorem h35m : h35.mutc = false := rfl
@[go_sem] def h36a : Nat → Option (List Nat) := (fun id => match id with | 0 => some [1, 2] | 1 => some [1, 2, 15] | 2 => some [4, 5] | 3 => some [1, 2, 27] | 4 => some [4, 5] | 5 => some [1, 2, 35] | 6 => some [4, 5] | 7 => some [1, 2, 6, 7, 8] | 8 => some [1, 2, 6, 7, 48] | 9 => some [4, 5] | 10 => some [1, 2, 6, 7, 9] | 11 => some [1, 2, 6, 7, 9, 10] | 12 => some [1, 2, 9, 10, 65, 66] | 13 => some [1, 2, 9, 10, 65, 66, 67] | 14 => some [1, 2, 9, 10, 12, 65, 66] | 15 => some [1, 2, 9, 10, 12, 65, 66, 70, 71] | 16 => some [1, 2, 9, 10, 12, 65, 66, 70, 71, 72] | 17 => some [1, 2, 9, 10, 12, 65, 66, 70, 71, 74] | 18 => some [4, 5] | 19 => some [1, 2, 9, 10, 12, 65, 66, 70, 71] | 20 => some [1, 2, 9, 10, 12, 65, 66, 70, 71] | 21 => some [1, 2, 9, 10, 65, 66] | 22 => some [1, 2, 9, 13] | 23 => some [1, 2, 9, 13, 86] | 24 => some [4, 5] | 25 => some [1, 2, 9, 13, 90] | 26 => some [1, 2, 9, 13, 90] | 27 => some [2, 9, 13, 100] | 28 => some [2, 9, 13, 14] | 29 => some [2, 9, 13] | 30 => some [2, 13, 114] | 31 => some [2, 9, 13, 100] | 32 => some [13, 119] | 33 => some [13, 119] | 34 => some [4, 5] | _ => none)
def h36 : Hint := ⟨h36a, (fun _ => none), (fun id => match id with | 29 => some 8 | _ => none), [], false, (fun _ => none)⟩
@[go_sem] theorem h36x : h36.mix = (fun _ => none) := rfl
@[go_sem] theorem h36l : h36.live = h36a := rfl
@[go_sem] theorem h36k : h36.keep = (fun _ => none) := rfl
@[go_sem] theorem h36t : h36.tail = (fun id => match id with | 29 => some 8 | _ => none) := rfl
@[go_sem] theorem h36v : h36.vars = [] := rfl
@[go_sem] theorem h36m : h36.mutc = false := rfl
@[go_sem] def h37a : Nat → Option (List Nat) := (fun id => match id with | 0 => some [0] | 1 => some [0, 11] | 2 => some [0, 3] | 3 => some [0, 22] | 4 => some [2] | 5 => some [2] | _ => none)
def h37 : Hint := ⟨h37a, (fun _ => none), (fun id => match id with | 4 => some 8 | _ => none), [], false, (fun _ => none)⟩
@[go_sem] theorem h37x : h37.mix = (fun _ => none) := rfl
@[go_sem] theorem h37l : h37.live = h37a := rfl
@[go_sem] theorem h37k : h37.keep = (fun _ => none) := rfl
@[go_sem] theorem h37t : h37.tail = (fun id => match id with | 4 => some 8 | _ => none) := rfl
@[go_sem] theorem h37v : h37.vars = [] := rfl
@[go_sem] theorem h37m : h37.mutc = false := rfl
@[go_sem] def h38a : Nat → Option (List Nat) := (fun id => match id with | 0 => some [0] | 1 => some [0, 6] | 2 => some [0, 6, 7] | 3 => some [2] | 4 => some [0, 6, 9] | 5 => some [2] | 6 => some [0, 6, 11] | 7 => some [2] | 8 => some [0, 13] | 9 => some [2] | 10 => some [0, 3] | 11 => some [0, 16, 17] | 12 => some [0, 16, 17, 18] | 13 => some [0, 4, 5, 16, 17] | 14 => some [0, 4, 16, 17, 23] | 15 => some [2] | 16 => some [0, 16, 17] | 17 => some [2] | _ => none)
def h38 : Hint := ⟨h38a, (fun _ => none), (fun _ => none), [], false, (fun _ => none)⟩
@[go_sem] theorem h38x : h38.mix = (fun _ => none) := rfl
@[go_sem] theorem h38l : h38.live = h38a := rfl
@[go_sem] theorem h38k : h38.keep = (fun _ => none) := rfl
@[go_sem] theorem h38t : h38.tail = (fun _ => none) := rfl
@[go_sem] theorem h38v : h38.vars = [] := rfl
@[go_sem] theorem h38m : h38.mutc = false := rfl
@[go_sem] def h47a : Nat → Option (List Nat) := (fun id => match id with | 0 => some [2, 3] | 1 => some [3, 6] | 2 => some [3, 6, 7] | 3 => some [4] | 4 => some [3, 6, 12] | 5 => some [3, 6, 12] | 6 => some [3, 6, 12] | 7 => some [3, 6, 12] | 8 => some [3, 6, 12] | 9 => some [3, 6, 12] | 10 => some [20] | 11 => some [20, 21] | 12 => some [20, 21] | 13 => some [20, 21] | 14 => some [20, 21] | 15 => some [20, 21] | 16 => some [20, 21] | 17 => some [20, 21] | 18 => some [20, 21] | 19 => some [20, 21] | 20 => some [20, 21] | 21 => some [4] | 22 => some [4] | _ => none)
def h47 : Hint := ⟨h47a, (fun _ => none), (fun _ => none), [], false, (fun _ => none)⟩
@[go_sem] theorem h47x : h47.mix = (fun _ => none) := rfl
@[go_sem] theorem h47l : h47.live = h47a := rfl
@[go_sem] theorem h47k : h47.keep = (fun _ => none) := rfl
@[go_sem] theorem h47t : h47.tail = (fun _ => none) := rfl
@[go_sem] theorem h47v : h47.vars = [] := rfl
@[go_sem] theorem h47m : h47.mutc = false := rfl
@[go_sem] def h48a : Nat → Option (List Nat) := (fun id => match id with | 0 => some [0, 1] | 1 => some [0, 1] | 2 => some [1] | 3 => some [4, 5] | _ => none)
def h48 : Hint := ⟨h48a, (fun _ => none), (fun _ => none), [], false, (fun _ => none)⟩
@[go_sem] theorem h48x : h48.mix = (fun _ => none) := rfl
@[go_sem] theorem h48l : h48.live = h48a := rfl
@[go_sem] theorem h48k : h48.keep = (fun _ => none) := rfl
@[go_sem] theorem h48t : h48.tail = (fun _ => none) := rfl
@[go_sem] theorem h48v : h48.vars = [] := rfl
@[go_sem] theorem h48m : h48.mutc = false := rfl
@[go_sem] def h51a : Nat → Option (List Nat) := (fun id => match id with | 0 => some [0] | 1 => some [2] | _ => none)
def h51 : Hint := ⟨h51a, (fun _ => none), (fun _ => none), [], false, (fun _ => none)⟩
@[go_sem] theorem h51x : h51.mix = (fun _ => none) := rfl
@[go_sem] theorem h51l : h51.live = h51a := rfl
@[go_sem] theorem h51k : h51.keep = (fun _ => none) := rfl
@[go_sem] theorem h51t : h51.tail = (fun _ => none) := rfl
@[go_sem] theorem h51v : h51.vars = [] := rfl
@[go_sem] theorem h51m : h51.mutc = false := rfl
@[go_sem] def h52a : Nat → Option (List Nat) := (fun id => match id with | 0 => some [0] | 1 => some [0, 14] | 2 => some [2] | 3 => some [2] | _ => none)
def h52 : Hint := ⟨h52a, (fun _ => none), (fun _ => none), [], false, (fun _ => none)⟩
@[go_sem] theorem h52x : h52.mix = (fun _ => none) := rfl
@[go_sem] theorem h52l : h52.live = h52a := rfl
@[go_sem] theorem h52k : h52.keep = (fun _ => none) := rfl
@[go_sem] theorem h52t : h52.tail = (fun _ => none) := rfl
@[go_sem] theorem h52v : h52.vars = [] := rfl
@[go_sem] theorem h52m : h52.mutc = false := rfl
@[go_sem] def h53a : Nat → Option (List Nat) := (fun id => match id with | 0 => some [0] | 1 => some [0, 6] | 2 => some [2] | 3 => some [0, 3] | 4 => some [2] | _ => none)
def h53 : Hint := ⟨h53a, (fun _ => none), (fun _ => none), [], false, (fun _ => none)⟩
@[go_sem] theorem h53x : h53.mix = (fun _ => none) := rfl
@[go_sem] theorem h53l : h53.live = h53a := rfl
@[go_sem] theorem h53k : h53.keep = (fun _ => none) := rfl
@[go_sem] theorem h53t : h53.tail = (fun _ => none) := rfl
@[go_sem] theorem h53v : h53.vars = [] := rfl
@[go_sem] theorem h53m : h53.mutc = false := rfl
@[go_sem] def h54a : Nat → Option (List Nat) := (fun id => match id with | 0 => some [1] | 1 => some [4] | 2 => some [2] | _ => none)
def h54 : Hint := ⟨h54a, (fun _ => none), (fun _ => none), [], false, (fun _ => none)⟩
@[go_sem] theorem h54x : h54.mix = (fun _ => none) := rfl
@[go_sem] theorem h54l : h54.live = h54a := rfl
@[go_sem] theorem h54k : h54.keep = (fun _ => none) := rfl
@[go_sem] theorem h54t : h54.tail = (fun _ => none) := rfl
@[go_sem] theorem h54v : h54.vars = [] := rfl
@[go_sem] theorem h54m : h54.mutc = false := rfl
@[go_sem] def h55a : Nat → Option (List Nat) := (fun id => match id with | 0 => some [0] | 1 => some [3] | 2 => some [3, 8, 9, 10] | 3 => some [3, 8, 9, 10, 11] | 4 => some [3, 4, 5, 8, 9, 10] | 5 => some [3, 4, 5, 8, 9, 10, 20] | 6 => some [3, 4, 5, 8, 9, 10, 20] | 7 => some [3, 8, 9, 10] | 8 => some [2] | _ => none)
def h55 : Hint := ⟨h55a, (fun _ => none), (fun _ => none), [], true, (fun _ => none)⟩
@[go_sem] theorem h55x : h55.mix = (fun _ => none) := rfl
@[go_sem] theorem h55l : h55.live = h55a := rfl
@[go_sem] theorem h55k : h55.keep = (fun _ => none) := rfl
@[go_sem] theorem h55t : h55.tail = (fun _ => none) := rfl
@[go_sem] theorem h55v : h55.vars = [] := rfl
@[go_sem] theorem h55m : h55.mutc = true := rfl
@[go_sem] def h56a : Nat → Option (List Nat) := (fun id => match id with | 0 => some [0, 1] | 1 => some [0, 7, 8, 9] | 2 => some [0, 7, 8, 9, 10] | 3 => some [0, 5, 6, 7, 8, 9] | 4 => some [0, 7, 8, 9, 18] | 5 => some [4] | 6 => some [0, 7, 8, 9] | 7 => some [4] | _ => none)
def h56 : Hint := ⟨h56a, (fun _ => none), (fun _ => none), [], false, (fun _ => none)⟩
@[go_sem] theorem h56x : h56.mix = (fun _ => none) := rfl
@[go_sem] theorem h56l : h56.live = h56a := rfl
@[go_sem] theorem h56k : h56.keep = (fun _ => none) := rfl
@[go_sem] theorem h56t : h56.tail = (fun _ => none) := rfl
@[go_sem] theorem h56v : h56.vars = [] := rfl
@[go_sem] theorem h56m : h56.mutc = false := rfl
@[go_sem] def h57a : Nat → Option (List Nat) := (fun id => match id with | 0 => some [0] | 1 => some [2] | _ => none)
def h57 : Hint := ⟨h57a, (fun _ => none), (fun _ => none), [], false, (fun _ => none)⟩
@[go_sem] theorem h57x : h57.mix = (fun _ => none) := rfl
@[go_sem] theorem h57l : h57.live = h57a := rfl
@[go_sem] theorem h57k : h57.keep = (fun _ => none) := rfl
@[go_sem] theorem h57t : h57.tail = (fun _ => none) := rfl
@[go_sem] theorem h57v : h57.vars = [] := rfl
@[go_sem] theorem h57m : h57.mutc = false := rfl
@[go_sem] def h58a : Nat → Option (List Nat) := (fun id => match id with | 0 => some [0, 4] | 1 => some [0] | _ => none)
def h58 : Hint := ⟨h58a, (fun _ => none), (fun _ => none), [], false, (fun _ => none)⟩
@[go_sem] theorem h58x : h58.mix = (fun _ => none) := rfl
@[go_sem] theorem h58l : h58.live = h58a := rfl
@[go_sem] theorem h58k : h58.keep = (fun _ => none) := rfl
@[go_sem] theorem h58t : h58.tail = (fun _ => none) := rfl
@[go_sem] theorem h58v : h58.vars = [] := rfl
@[go_sem] theorem h58m : h58.mutc = false := rfl
@[go_sem] def h59a : Nat → Option (List Nat) := (fun id => match id with | 0 => some [0, 2] | 1 => some [0, 2, 3] | 2 => some [0, 2, 3, 4] | 3 => some [0, 2, 3, 4, 5] | 4 => some [0, 2, 3, 4] | 5 => some [0, 2, 3, 4, 5, 21] | 6 => some [2] | 7 => some [0, 2, 3, 4, 5, 25] | 8 => some [2] | 9 => some [0, 2, 3, 4, 5, 32] | 10 => some [2, 4] | 11 => some [2] | 12 => some [0, 2, 3, 4, 5, 49] | 13 => some [0, 2, 3, 4] | 14 => some [0, 2, 3, 4, 83] | 15 => some [0, 2, 3, 4] | 16 => some [0, 2, 3, 4] | _ => none)
def h59 : Hint := ⟨h59a, (fun _ => none), (fun id => match id with | 13 => some 17 | _ => none), [4], false, (fun _ => none)⟩
@[go_sem] theorem h59x : h59.mix = (fun _ => none) := rfl
@[go_sem] theorem h59l : h59.live = h59a := rfl
@[go_sem] theorem h59k : h59.keep = (fun _ => none) := rfl
@[go_sem] theorem h59t : h59.tail = (fun id => match id with | 13 => some 17 | _ => none) := rfl
@[go_sem] theorem h59v : h59.vars = [4] := rfl
@[go_sem] theorem h59m : h59.mutc = false := rfl
@[go_sem] def h60a : Nat → Option (List Nat) := (fun id => match id with | 0 => some [0] | 1 => some [3] | 2 => some [3, 4] | 3 => some [2] | 4 => some [3, 6] | 5 => some [2] | 6 => some [3, 8] | 7 => some [2] | 8 => some [3, 10] | 9 => some [2] | 10 => some [3, 12] | 11 => some [2] | 12 => some [3, 14] | 13 => some [2] | 14 => some [3, 16] | 15 => some [2] | 16 => some [3, 18] | 17 => some [2] | 18 => some [20] | 19 => some [2] | 20 => some [2] | _ => none)
def h60 : Hint := ⟨h60a, (fun _ => none), (fun _ => none), [], false, (fun _ => none)⟩
@[go_sem] theorem h60x : h60.mix = (fun _ => none) := rfl
@[go_sem] theorem h60l : h60.live = h60a := rfl
@[go_sem] theorem h60k : h60.keep = (fun _ => none) := rfl
@[go_sem] theorem h60t : h60.tail = (fun _ => none) := rfl
@[go_sem] theorem h60v : h60.vars = [] := rfl
@[go_sem] theorem h60m : h60.mutc = false := rfl
@[go_sem] def h61a : Nat → Option (List Nat) := (fun id => match id with | 0 => some [0] | 1 => some [2] | _ => none)
def h61 : Hint := ⟨h61a, (fun _ => none), (fun _ => none), [], false, (fun _ => none)⟩
@[go_sem] theorem h61x : h61.mix = (fun _ => none) := rfl
@[go_sem] theorem h61l : h61.live = h61a := rfl
@[go_sem] theorem h61k : h61.keep = (fun _ => none) := rfl
@[go_sem] theorem h61t : h61.tail = (fun _ => none) := rfl
@[go_sem] theorem h61v : h61.vars = [] := rfl
@[go_sem] theorem h61m : h61.mutc = false := rfl
@[go_sem] def h62a : Nat → Option (List Nat) := (fun id => match id with | 0 => some [0, 1] | 1 => some [0, 1, 5] | 2 => some [0, 1, 14] | 3 => some [0, 1, 14] | 4 => some [4] | _ => none)
def h62 : Hint := ⟨h62a, (fun _ => none), (fun _ => none), [], false, (fun _ => none)⟩
@[go_sem] theorem h62x : h62.mix = (fun _ => none) := rfl
@[go_sem] theorem h62l : h62.live = h62a := rfl
@[go_sem] theorem h62k : h62.keep = (fun _ => none) := rfl
@[go_sem] theorem h62t : h62.tail = (fun _ => none) := rfl
@[go_sem] theorem h62v : h62.vars = [] := rfl
@[go_sem] theorem h62m : h62.mutc = false := rfl
@[go_sem] def h63a : Nat → Option (List Nat) := (fun id => match id with | 0 => some [1, 2] | 1 => some [1, 2, 3] | 2 => some [1, 2, 3, 4] | 3 => some [1, 2, 3, 23] | 4 => some [1, 2, 3, 23] | 5 => some [1, 2, 3, 5] | 6 => some [1, 2, 3, 5] | 7 => some [1, 2, 3, 5, 47] | 8 => some [1, 2, 3, 5] | 9 => some [1, 2, 3, 5, 47] | 10 => some [1, 2, 3, 5, 6] | 11 => some [1, 2, 3, 5, 68] | 12 => some [1, 2, 3, 5, 7] | 13 => some [1, 2, 3, 5, 6, 7] | 14 => some [1, 2, 3, 5, 7, 78] | 15 => some [1, 2, 3, 5, 7, 78] | 16 => some [1, 2, 3, 5, 7, 84] | 17 => some [1, 2, 3, 5] | 18 => some [1, 2, 3, 5, 68] | 19 => some [1, 2, 3, 8] | 20 => some [1, 2, 8] | 21 => some [2, 8] | 22 => some [1, 2, 8, 118] | 23 => some [2, 8] | 24 => some [1, 2, 8, 129] | 25 => some [2, 8] | 26 => some [2, 8] | 27 => some [2] | _ => none)
def h63 : Hint := ⟨h63a, (fun _ => none), (fun id => match id with | 20 => some 19 | _ => none), [], false, (fun id => match id with | 20 => some ⟨[0, 1, 2, 3, 4, 5, 6, 7, 8, 9, 10, 11, 12, 13, 14, 15, 16, 17, 18, 20], [], .head 0 (.head 1 (.head 2 (.head 3 (.head 4 (.head 5 (.head 6 (.head 7 (.head 8 (.head 9 (.head 10 (.head 11 (.head 12 (.head 13 (.head 14 (.head 15 (.head 18 (.alt (.one 16 (.alt (.one 17 (.one 19 (.head 20 (.one 21 (.fin))))) (.one 19 (.head 20 (.alt (.one 17 (.one 21 (.fin))) (.one 21 (.head 17 (.fin)))))))) (.alt (.one 17 (.alt (.one 16 (.one 19 (.head 20 (.one 21 (.fin))))) (.one 19 (.head 16 (.head 20 (.one 21 (.fin))))))) (.one 19 (.head 16 (.head 20 (.alt (.one 17 (.one 21 (.fin))) (.one 21 (.head 17 (.fin)))))))))))))))))))))))))⟩ | _ => none)⟩
@[go_sem] theorem h63x : h63.mix = (fun id => match id with | 20 => some ⟨[0, 1, 2, 3, 4, 5, 6, 7, 8, 9, 10, 11, 12, 13, 14, 15, 16, 17, 18, 20], [], .head 0 (.head 1 (.head 2 (.head 3 (.head 4 (.head 5 (.head 6 (.head 7 (.head 8 (.head 9 (.head 10 (.head 11 (.head 12 (.head 13 (.head 14 (.head 15 (.head 18 (.alt (.one 16 (.alt (.one 17 (.one 19 (.head 20 (.one 21 (.fin))))) (.one 19 (.head 20 (.alt (.one 17 (.one 21 (.fin))) (.one 21 (.head 17 (.fin)))))))) (.alt (.one 17 (.alt (.one 16 (.one 19 (.head 20 (.one 21 (.fin))))) (.one 19 (.head 16 (.head 20 (.one 21 (.fin))))))) (.one 19 (.head 16 (.head 20 (.alt (.one 17 (.one 21 (.fin))) (.one 21 (.head 17 (.fin)))))))))))))))))))))))))⟩ | _ => none) := rfl
@[go_sem] theorem h63l : h63.live = h63a := rfl
@[go_sem] theorem h63k : h63.keep = (fun _ => none) := rfl
@[go_sem] theorem h63t : h63.tail = (fun id => match id with | 20 => some 19 | _ => none) := rfl
@[go_sem] theorem h63v : h63.vars = [] := rfl
@[go_sem] theorem h63m : h63.mutc = false := rfl
@[go_sem] def h64a : Nat → Option (List Nat) := (fun id => match id with | 0 => some [0] | 1 => some [2] | _ => none)
def h64 : Hint := ⟨h64a, (fun _ => none), (fun _ => none), [], false, (fun _ => none)⟩
@[go_sem] theorem h64x : h64.mix = (fun _ => none) := rfl
@[go_sem] theorem h64l : h64.live = h64a := rfl
@[go_sem] theorem h64k : h64.keep = (fun _ => none) := rfl
@[go_sem] theorem h64t : h64.tail = (fun _ => none) := rfl
@[go_sem] theorem h64v : h64.vars = [] := rfl
@[go_sem] theorem h64m : h64.mutc = false := rfl
@[go_sem] def h65a : Nat → Option (List Nat) := (fun id => match id with | 0 => some [0, 1] | 1 => some [4] | _ => none)
def h65 : Hint := ⟨h65a, (fun _ => none), (fun _ => none), [], false, (fun _ => none)⟩
@[go_sem] theorem h65x : h65.mix = (fun _ => none) := rfl
@[go_sem] theorem h65l : h65.live = h65a := rfl
@[go_sem] theorem h65k : h65.keep = (fun _ => none) := rfl
@[go_sem] theorem h65t : h65.tail = (fun _ => none) := rfl
@[go_sem] theorem h65v : h65.vars = [] := rfl
@[go_sem] theorem h65m : h65.mutc = false := rfl
@[go_sem] def h66a : Nat → Option (List Nat) := (fun id => match id with | 0 => some [0, 1] | 1 => some [0, 1, 5] | 2 => some [0, 1, 5, 10] | 3 => some [4] | 4 => some [4] | _ => none)
def h66 : Hint := ⟨h66a, (fun _ => none), (fun _ => none), [], false, (fun _ => none)⟩
@[go_sem] theorem h66x : h66.mix = (fun _ => none) := rfl
@[go_sem] theorem h66l : h66.live = h66a := rfl
@[go_sem] theorem h66k : h66.keep = (fun _ => none) := rfl
@[go_sem] theorem h66t : h66.tail = (fun _ => none) := rfl
@[go_sem] theorem h66v : h66.vars = [] := rfl
@[go_sem] theorem h66m : h66.mutc = false := rfl
@[go_sem] def h67a : Nat → Option (List Nat) := (fun id => match id with | 0 => some [0] | 1 => some [0, 3] | 2 => some [2] | 3 => some [0, 3, 7] | 4 => some [0, 3] | 5 => some [0, 3, 16] | 6 => some [0, 3] | 7 => some [0, 3] | _ => none)
def h67 : Hint := ⟨h67a, (fun _ => none), (fun _ => none), [3], false, (fun _ => none)⟩
@[go_sem] theorem h67x : h67.mix = (fun _ => none) := rfl
@[go_sem] theorem h67l : h67.live = h67a := rfl
@[go_sem] theorem h67k : h67.keep = (fun _ => none) := rfl
@[go_sem] theorem h67t : h67.tail = (fun _ => none) := rfl
@[go_sem] theorem h67v : h67.vars = [3] := rfl
@[go_sem] theorem h67m : h67.mutc = false := rfl
@[go_sem] def h68a : Nat → Option (List Nat) := (fun id => match id with | 0 => some [0, 2] | 1 => some [0, 2, 3] | 2 => some [0, 2, 3, 15] | 3 => some [2] | 4 => some [0, 2, 3] | 5 => some [0, 2, 3, 29] | 6 => some [2] | 7 => some [0, 2, 3, 43] | 8 => some [0, 2, 3, 29] | 9 => some [0, 2, 3, 4] | 10 => some [0, 2, 3, 4, 57] | 11 => some [0, 2, 3, 4, 57] | 12 => some [0, 2, 3, 5] | 13 => some [0, 2, 3, 68] | 14 => some [2] | 15 => some [2] | _ => none)
def h68 : Hint := ⟨h68a, (fun _ => none), (fun _ => none), [], false, (fun _ => none)⟩
@[go_sem] theorem h68x : h68.mix = (fun _ => none) := rfl
@[go_sem] theorem h68l : h68.live = h68a := rfl
@[go_sem] theorem h68k : h68.keep = (fun _ => none) := rfl
@[go_sem] theorem h68t : h68.tail = (fun _ => none) := rfl
@[go_sem] theorem h68v : h68.vars = [] := rfl
@[go_sem] theorem h68m : h68.mutc = false := rfl
@[go_sem] def h69a : Nat → Option (List Nat) := (fun id => match id with | 0 => some [0] | 1 => some [0, 3] | 2 => some [3, 6, 7, 8] | 3 => some [3, 6, 7, 8, 9] | 4 => some [3, 5, 6, 7, 8] | 5 => some [3, 5, 6, 7, 8, 25] | 6 => some [3, 5, 6, 7, 8, 25] | 7 => some [3, 6, 7, 8] | 8 => some [3, 5, 6, 7, 8, 47] | 9 => some [3, 6, 7, 8] | 10 => some [3, 5, 6, 7, 8, 55] | 11 => some [3, 6, 7, 8] | 12 => some [3, 5, 6, 7, 8, 69] | 13 => some [3, 6, 7, 8] | 14 => some [3, 6, 7, 8] | 15 => some [2] | _ => none)
def h69 : Hint := ⟨h69a, (fun _ => none), (fun _ => none), [3], false, (fun _ => none)⟩
@[go_sem] theorem h69x : h69.mix = (fun _ => none) := rfl
@[go_sem] theorem h69l : h69.live = h69a := rfl
@[go_sem] theorem h69k : h69.keep = (fun _ => none) := rfl
@[go_sem] theorem h69t : h69.tail = (fun _ => none) := rfl
@[go_sem] theorem h69v : h69.vars = [3] := rfl
@[go_sem] theorem h69m : h69.mutc = false := rfl
@[go_sem] def h70a : Nat → Option (List Nat) := (fun id => match id with | 0 => some [0] | 1 => some [0, 3] | 2 => some [3] | 3 => some [2] | _ => none)
def h70 : Hint := ⟨h70a, (fun _ => none), (fun _ => none), [], false, (fun _ => none)⟩
@[go_sem] theorem h70x : h70.mix = (fun _ => none) := rfl
@[go_sem] theorem h70l : h70.live = h70a := rfl
@[go_sem] theorem h70k : h70.keep = (fun _ => none) := rfl
@[go_sem] theorem h70t : h70.tail = (fun _ => none) := rfl
@[go_sem] theorem h70v : h70.vars = [] := rfl
@[go_sem] theorem h70m : h70.mutc = false := rfl
@[go_sem] def h83a : Nat → Option (List Nat) := (fun id => match id with | 0 => some [0] | 1 => some [0, 3] | 2 => some [0, 3, 8] | 3 => some [0, 3, 4, 5] | 4 => some [0, 3, 5] | 5 => some [0, 3] | 6 => some [2] | _ => none)
def h83 : Hint := ⟨h83a, (fun _ => none), (fun _ => none), [3], false, (fun _ => none)⟩
@[go_sem] theorem h83x : h83.mix = (fun _ => none) := rfl
@[go_sem] theorem h83l : h83.live = h83a := rfl
@[go_sem] theorem h83k : h83.keep = (fun _ => none) := rfl
@[go_sem] theorem h83t : h83.tail = (fun _ => none) := rfl
@[go_sem] theorem h83v : h83.vars = [3] := rfl
@[go_sem] theorem h83m : h83.mutc = false := rfl
@[go_sem] def h85a : Nat → Option (List Nat) := (fun id => match id with | 0 => some [0, 1] | 1 => some [4] | _ => none)
def h85 : Hint := ⟨h85a, (fun _ => none), (fun _ => none), [], false, (fun _ => none)⟩
@[go_sem] theorem h85x : h85.mix = (fun _ => none) := rfl
@[go_sem] theorem h85l : h85.live = h85a := rfl
@[go_sem] theorem h85k : h85.keep = (fun _ => none) := rfl
@[go_sem] theorem h85t : h85.tail = (fun _ => none) := rfl
@[go_sem] theorem h85v : h85.vars = [] := rfl
@[go_sem] theorem h85m : h85.mutc = false := rfl
@[go_sem] def h86a : Nat → Option (List Nat) := (fun id => match id with | 0 => some [0] | 1 => some [2] | _ => none)
def h86 : Hint := ⟨h86a, (fun _ => none), (fun _ => none), [], false, (fun _ => none)⟩
@[go_sem] theorem h86x : h86.mix = (fun _ => none) := rfl
@[go_sem] theorem h86l : h86.live = h86a := rfl
@[go_sem] theorem h86k : h86.keep = (fun _ => none) := rfl
@[go_sem] theorem h86t : h86.tail = (fun _ => none) := rfl
@[go_sem] theorem h86v : h86.vars = [] := rfl
@[go_sem] theorem h86m : h86.mutc = false := rfl
@[go_sem] def h87a : Nat → Option (List Nat) := (fun id => match id with | 0 => some [0] | 1 => some [0, 3] | 2 => some [0, 3, 7] | 3 => some [0, 3] | 4 => some [0, 3] | 5 => some [3, 4] | 6 => some [3, 4] | 7 => some [3, 4, 5] | 8 => some [3, 4, 5, 21] | 9 => some [3, 4, 5] | 10 => some [3, 4, 5] | 11 => some [4] | 12 => some [2] | _ => none)
def h87 : Hint := ⟨h87a, (fun _ => none), (fun _ => none), [3], false, (fun _ => none)⟩
@[go_sem] theorem h87x : h87.mix = (fun _ => none) := rfl
@[go_sem] theorem h87l : h87.live = h87a := rfl
@[go_sem] theorem h87k : h87.keep = (fun _ => none) := rfl
@[go_sem] theorem h87t : h87.tail = (fun _ => none) := rfl
@[go_sem] theorem h87v : h87.vars = [3] := rfl
@[go_sem] theorem h87m : h87.mutc = false := rfl
@[go_sem] def h88a : Nat → Option (List Nat) := (fun id => match id with | 0 => some [0] | 1 => some [2] | _ => none)
def h88 : Hint := ⟨h88a, (fun _ => none), (fun _ => none), [], false, (fun _ => none)⟩
@[go_sem] theorem h88x : h88.mix = (fun _ => none) := rfl
@[go_sem] theorem h88l : h88.live = h88a := rfl
@[go_sem] theorem h88k : h88.keep = (fun _ => none) := rfl
@[go_sem] theorem h88t : h88.tail = (fun _ => none) := rfl
@[go_sem] theorem h88v : h88.vars = [] := rfl
@[go_sem] theorem h88m : h88.mutc = false := rfl
@[go_sem] def h89a : Nat → Option (List Nat) := (fun id => match id with | 0 => some [0] | 1 => some [2] | _ => none)
def h89 : Hint := ⟨h89a, (fun _ => none), (fun _ => none), [], false, (fun _ => none)⟩
@[go_sem] theorem h89x : h89.mix = (fun _ => none) := rfl
@[go_sem] theorem h89l : h89.live = h89a := rfl
@[go_sem] theorem h89k : h89.keep = (fun _ => none) := rfl
@[go_sem] theorem h89t : h89.tail = (fun _ => none) := rfl
@[go_sem] theorem h89v : h89.vars = [] := rfl
@[go_sem] theorem h89m : h89.mutc = false := rfl
@[go_sem] def h91a : Nat → Option (List Nat) := (fun id => match id with | 0 => some [0, 1] | 1 => some [0, 1] | 2 => some [] | 3 => some [4] | _ => none)
def h91 : Hint := ⟨h91a, (fun _ => none), (fun _ => none), [], false, (fun _ => none)⟩
@[go_sem] theorem h91x : h91.mix = (fun _ => none) := rfl
@[go_sem] theorem h91l : h91.live = h91a := rfl
@[go_sem] theorem h91k : h91.keep = (fun _ => none) := rfl
@[go_sem] theorem h91t : h91.tail = (fun _ => none) := rfl
@[go_sem] theorem h91v : h91.vars = [] := rfl
@[go_sem] theorem h91m : h91.mutc = false := rfl
@[go_sem] def h92a : Nat → Option (List Nat) := (fun id => match id with | 0 => some [0, 1] | 1 => some [4] | _ => none)
def h92 : Hint := ⟨h92a, (fun _ => none), (fun _ => none), [], false, (fun _ => none)⟩
@[go_sem] theorem h92x : h92.mix = (fun _ => none) := rfl
@[go_sem] theorem h92l : h92.live = h92a := rfl
@[go_sem] theorem h92k : h92.keep = (fun _ => none) := rfl
@[go_sem] theorem h92t : h92.tail = (fun _ => none) := rfl
@[go_sem] theorem h92v : h92.vars = [] := rfl
@[go_sem] theorem h92m : h92.mutc = false := rfl
@[go_sem] def h93a : Nat → Option (List Nat) := (fun id => match id with | 0 => some [1] | 1 => some [2] | _ => none)
def h93 : Hint := ⟨h93a, (fun _ => none), (fun _ => none), [], false, (fun _ => none)⟩
@[go_sem] theorem h93x : h93.mix = (fun _ => none) := rfl
@[go_sem] theorem h93l : h93.live = h93a := rfl
@[go_sem] theorem h93k : h93.keep = (fun _ => none) := rfl
@[go_sem] theorem h93t : h93.tail = (fun _ => none) := rfl
@[go_sem] theorem h93v : h93.vars = [] := rfl
@[go_sem] theorem h93m : h93.mutc = false := rfl
@[go_sem] def h95a : Nat → Option (List Nat) := (fun id => match id with | 0 => some [0] | 1 => some [0, 5] | 2 => some [0, 5] | 3 => some [0, 5, 6] | 4 => some [0, 5, 6, 14] | 5 => some [0, 5, 6] | 6 => some [0, 5, 6] | 7 => some [2, 3, 4] | _ => none)
def h95 : Hint := ⟨h95a, (fun _ => none), (fun _ => none), [], false, (fun _ => none)⟩
@[go_sem] theorem h95x : h95.mix = (fun _ => none) := rfl
@[go_sem] theorem h95l : h95.live = h95a := rfl
@[go_sem] theorem h95k : h95.keep = (fun _ => none) := rfl
@[go_sem] theorem h95t : h95.tail = (fun _ => none) := rfl
@[go_sem] theorem h95v : h95.vars = [] := rfl
@[go_sem] theorem h95m : h95.mutc = false := rfl
@[go_sem] def h96a : Nat → Option (List Nat) := (fun id => match id with | 0 => some [0] | 1 => some [0, 4] | 2 => some [2] | 3 => some [2] | _ => none)
def h96 : Hint := ⟨h96a, (fun _ => none), (fun _ => none), [], false, (fun _ => none)⟩
@[go_sem] theorem h96x : h96.mix = (fun _ => none) := rfl
@[go_sem] theorem h96l : h96.live = h96a := rfl
@[go_sem] theorem h96k : h96.keep = (fun _ => none) := rfl
@[go_sem] theorem h96t : h96.tail = (fun _ => none) := rfl
@[go_sem] theorem h96v : h96.vars = [] := rfl
@[go_sem] theorem h96m : h96.mutc = false := rfl
@[go_sem] def h97a : Nat → Option (List Nat) := (fun id => match id with | 0 => some [0] | 1 => some [0, 3] | 2 => some [0, 3, 4] | 3 => some [0, 3, 4] | 4 => some [0, 3, 4] | 5 => some [0, 3, 4] | 6 => some [0, 3, 4, 16] | 7 => some [2] | _ => none)
def h97 : Hint := ⟨h97a, (fun _ => none), (fun _ => none), [], false, (fun _ => none)⟩
@[go_sem] theorem h97x : h97.mix = (fun _ => none) := rfl
@[go_sem] theorem h97l : h97.live = h97a := rfl
@[go_sem] theorem h97k : h97.keep = (fun _ => none) := rfl
@[go_sem] theorem h97t : h97.tail = (fun _ => none) := rfl
@[go_sem] theorem h97v : h97.vars = [] := rfl
@[go_sem] theorem h97m : h97.mutc = false := rfl
@[go_sem] def h98a : Nat → Option (List Nat) := (fun id => match id with | 0 => some [0, 1] | 1 => some [0, 1, 12] | 2 => some [4] | 3 => some [0, 1, 21] | 4 => some [4] | 5 => some [0, 1, 5, 6] | 6 => some [0, 1, 5, 31] | 7 => some [4] | 8 => some [4] | _ => none)
def h98 : Hint := ⟨h98a, (fun _ => none), (fun _ => none), [], false, (fun _ => none)⟩
@[go_sem] theorem h98x : h98.mix = (fun _ => none) := rfl
@[go_sem] theorem h98l : h98.live = h98a := rfl
@[go_sem] theorem h98k : h98.keep = (fun _ => none) := rfl
@[go_sem] theorem h98t : h98.tail = (fun _ => none) := rfl
@[go_sem] theorem h98v : h98.vars = [] := rfl
@[go_sem] theorem h98m : h98.mutc = false := rfl
@[go_sem] def h99a : Nat → Option (List Nat) := (fun id => match id with | 0 => some [0, 1] | 1 => some [4] | _ => none)
def h99 : Hint := ⟨h99a, (fun _ => none), (fun _ => none), [], false, (fun _ => none)⟩
@[go_sem] theorem h99x : h99.mix = (fun _ => none) := rfl
@[go_sem] theorem h99l : h99.live = h99a := rfl
@[go_sem] theorem h99k : h99.keep = (fun _ => none) := rfl
@[go_sem] theorem h99t : h99.tail = (fun _ => none) := rfl
@[go_sem] theorem h99v : h99.vars = [] := rfl
@[go_sem] theorem h99m : h99.mutc = false := rfl
@[go_sem] def h109a : Nat → Option (List Nat) := (fun id => match id with | 0 => some [0] | 1 => some [0, 7] | 2 => some [0, 3, 4] | 3 => some [0, 4, 36] | 4 => some [2] | 5 => some [0] | 6 => some [2] | _ => none)
def h109 : Hint := ⟨h109a, (fun _ => none), (fun _ => none), [], false, (fun _ => none)⟩
@[go_sem] theorem h109x : h109.mix = (fun _ => none) := rfl
@[go_sem] theorem h109l : h109.live = h109a := rfl
@[go_sem] theorem h109k : h109.keep = (fun _ => none) := rfl
@[go_sem] theorem h109t : h109.tail = (fun _ => none) := rfl
@[go_sem] theorem h109v : h109.vars = [] := rfl
@[go_sem] theorem h109m : h109.mutc = false := rfl
@[go_sem] def h110a : Nat → Option (List Nat) := (fun id => match id with | 0 => some [0] | 1 => some [0, 8] | 2 => some [0, 11] | 3 => some [2] | 4 => some [2] | 5 => some [0, 3] | 6 => some [0, 3, 4] | 7 => some [0, 3, 4, 21] | 8 => some [0, 3, 4] | 9 => some [0, 3, 4] | 10 => some [0, 3, 32] | 11 => some [0, 3, 32] | 12 => some [3, 48] | 13 => some [2] | 14 => some [2] | _ => none)
def h110 : Hint := ⟨h110a, (fun _ => none), (fun _ => none), [], false, (fun _ => none)⟩
@[go_sem] theorem h110x : h110.mix = (fun _ => none) := rfl
@[go_sem] theorem h110l : h110.live = h110a := rfl
@[go_sem] theorem h110k : h110.keep = (fun _ => none) := rfl
@[go_sem] theorem h110t : h110.tail = (fun _ => none) := rfl
@[go_sem] theorem h110v : h110.vars = [] := rfl
@[go_sem] theorem h110m : h110.mutc = false := rfl
@[go_sem] def h111a : Nat → Option (List Nat) := (fun id => match id with | 0 => some [0, 5] | 1 => some [0] | _ => none)
def h111 : Hint := ⟨h111a, (fun _ => none), (fun _ => none), [], false, (fun _ => none)⟩
@[go_sem] theorem h111x : h111.mix = (fun _ => none) := rfl
@[go_sem] theorem h111l : h111.live = h111a := rfl
@[go_sem] theorem h111k : h111.keep = (fun _ => none) := rfl
@[go_sem] theorem h111t : h111.tail = (fun _ => none) := rfl
@[go_sem] theorem h111v : h111.vars = [] := rfl
@[go_sem] theorem h111m : h111.mutc = false := rfl
@[go_sem] def h112a : Nat → Option (List Nat) := (fun id => match id with | 0 => some [0, 2] | 1 => some [2, 5, 6] | 2 => some [2, 5, 18] | 3 => some [2, 3, 4] | 4 => some [2, 5, 7] | 5 => some [2, 5, 7, 24] | 6 => some [2, 3, 4] | 7 => some [2, 5, 7, 8] | 8 => some [2, 5, 7, 8, 32] | 9 => some [2, 3, 4] | 10 => some [2, 5, 7, 8, 9] | 11 => some [2, 5, 7, 8, 9, 37, 38, 39] | 12 => some [2, 5, 7, 8, 9, 37, 38, 39, 40] | 13 => some [2, 5, 7, 8, 9, 11, 37, 38, 39] | 14 => some [2, 5, 7, 8, 9, 37, 38, 39] | 15 => some [2, 5, 7, 8, 9, 37, 38, 39] | 16 => some [2, 3, 4] | _ => none)
def h112 : Hint := ⟨h112a, (fun _ => none), (fun id => match id with | 6 => some 3 | 9 => some 3 | 16 => some 17 | _ => none), [], false, (fun id => match id with | 6 => some ⟨[0, 1, 2], [], .head 0 (.alt (.one 1 (.alt (.one 2 (.one 3 (.one 4 (.one 5 (.fin))))) (.one 3 (.head 2 (.one 4 (.one 5 (.fin))))))) (.one 3 (.head 1 (.head 2 (.one 4 (.one 5 (.fin)))))))⟩ | 9 => some ⟨[0, 1, 2], [], .head 0 (.alt (.one 1 (.alt (.one 2 (.one 3 (.one 4 (.one 5 (.fin))))) (.one 3 (.head 2 (.one 4 (.one 5 (.fin))))))) (.one 3 (.head 1 (.head 2 (.one 4 (.one 5 (.fin)))))))⟩ | 16 => some ⟨[0, 1, 2, 3, 4, 5, 6, 7, 8, 9, 10, 11, 12, 13, 14, 15, 16], [], .head 0 (.head 1 (.head 2 (.head 3 (.head 4 (.head 5 (.head 6 (.head 7 (.head 8 (.head 9 (.head 10 (.head 11 (.head 12 (.head 13 (.head 14 (.alt (.one 15 (.alt (.one 16 (.one 17 (.one 18 (.one 19 (.fin))))) (.one 17 (.head 16 (.one 18 (.one 19 (.fin))))))) (.one 17 (.head 15 (.head 16 (.one 18 (.one 19 (.fin)))))))))))))))))))))⟩ | _ => none)⟩
@[go_sem] theorem h112x : h112.mix = (fun id => match id with | 6 => some ⟨[0, 1, 2], [], .head 0 (.alt (.one 1 (.alt (.one 2 (.one 3 (.one 4 (.one 5 (.fin))))) (.one 3 (.head 2 (.one 4 (.one 5 (.fin))))))) (.one 3 (.head 1 (.head 2 (.one 4 (.one 5 (.fin)))))))⟩ | 9 => some ⟨[0, 1, 2], [], .head 0 (.alt (.one 1 (.alt (.one 2 (.one 3 (.one 4 (.one 5 (.fin))))) (.one 3 (.head 2 (.one 4 (.one 5 (.fin))))))) (.one 3 (.head 1 (.head 2 (.one 4 (.one 5 (.fin)))))))⟩ | 16 => some ⟨[0, 1, 2, 3, 4, 5, 6, 7, 8, 9, 10, 11, 12, 13, 14, 15, 16], [], .head 0 (.head 1 (.head 2 (.head 3 (.head 4 (.head 5 (.head 6 (.head 7 (.head 8 (.head 9 (.head 10 (.head 11 (.head 12 (.head 13 (.head 14 (.alt (.one 15 (.alt (.one 16 (.one 17 (.one 18 (.one 19 (.fin))))) (.one 17 (.head 16 (.one 18 (.one 19 (.fin))))))) (.one 17 (.head 15 (.head 16 (.one 18 (.one 19 (.fin)))))))))))))))))))))⟩ | _ => none) := rfl
@[go_sem] theorem h112l : h112.live = h112a := rfl
@[go_sem] theorem h112k : h112.keep = (fun _ => none) := rfl
@[go_sem] theorem h112t : h112.tail = (fun id => match id with | 6 => some 3 | 9 => some 3 | 16 => some 17 | _ => none) := rfl
@[go_sem] theorem h112v : h112.vars = [] := rfl
@[go_sem] theorem h112m : h112.mutc = false := rfl
@[go_sem] def h113a : Nat → Option (List Nat) := (fun id => match id with | 0 => some [0] | 1 => some [2] | _ => none)
def h113 : Hint := ⟨h113a, (fun _ => none), (fun _ => none), [], false, (fun _ => none)⟩
@[go_sem] theorem h113x : h113.mix = (fun _ => none) := rfl
@[go_sem] theorem h113l : h113.live = h113a := rfl
@[go_sem] theorem h113k : h113.keep = (fun _ => none) := rfl
@[go_sem] theorem h113t : h113.tail = (fun _ => none) := rfl
@[go_sem] theorem h113v : h113.vars = [] := rfl
@[go_sem] theorem h113m : h113.mutc = false := rfl
@[go_sem] def h114a : Nat → Option (List Nat) := (fun id => match id with | 0 => some [0, 1] | 1 => some [4] | _ => none)
def h114 : Hint := ⟨h114a, (fun _ => none), (fun _ => none), [], false, (fun _ => none)⟩
@[go_sem] theorem h114x : h114.mix = (fun _ => none) := rfl
@[go_sem] theorem h114l : h114.live = h114a := rfl
@[go_sem] theorem h114k : h114.keep = (fun _ => none) := rfl
@[go_sem] theorem h114t : h114.tail = (fun _ => none) := rfl
@[go_sem] theorem h114v : h114.vars = [] := rfl
@[go_sem] theorem h114m : h114.mutc = false := rfl
@[go_sem] def h115a : Nat → Option (List Nat) := (fun id => match id with | 0 => some [1, 2] | 1 => some [1, 2, 3] | 2 => some [1, 2, 3, 4] | 3 => some [1, 2, 3, 4] | 4 => some [1, 2, 3, 4, 5] | 5 => some [1, 2, 3, 4] | 6 => some [1, 2, 3, 4, 5, 22] | 7 => some [2] | 8 => some [1, 2, 3, 4, 5, 31] | 9 => some [1, 2, 4] | 10 => some [1, 2, 4, 5] | 11 => some [1, 2, 4, 47] | 12 => some [2] | 13 => some [2] | 14 => some [1, 2, 3, 4, 5, 52] | 15 => some [2] | 16 => some [1, 2, 3, 4, 69] | 17 => some [1, 2, 3, 4, 76] | 18 => some [2] | 19 => some [1, 2, 3, 4] | 20 => some [1, 2, 3, 4] | _ => none)
def h115 : Hint := ⟨h115a, (fun _ => none), (fun id => match id with | 5 => some 5 | 20 => some 5 | _ => none), [], false, (fun id => match id with | 5 => some ⟨[1, 2, 3], [0], .alt (.one 0 (.head 1 (.head 2 (.head 3 (.one 4 (.one 5 (.one 6 (.one 7 (.fin))))))))) (.one 1 (.alt (.one 0 (.head 2 (.head 3 (.one 4 (.one 5 (.one 6 (.one 7 (.fin)))))))) (.one 2 (.alt (.one 0 (.head 3 (.one 4 (.one 5 (.one 6 (.one 7 (.fin))))))) (.one 3 (.alt (.one 0 (.one 4 (.one 5 (.one 6 (.one 7 (.fin)))))) (.one 4 (.alt (.one 0 (.one 5 (.one 6 (.one 7 (.fin))))) (.one 5 (.one 0 (.one 6 (.one 7 (.fin)))))))))))))⟩ | 20 => some ⟨[1, 2, 3], [0], .alt (.one 0 (.head 1 (.head 2 (.head 3 (.one 4 (.one 5 (.one 6 (.one 7 (.fin))))))))) (.one 1 (.alt (.one 0 (.head 2 (.head 3 (.one 4 (.one 5 (.one 6 (.one 7 (.fin)))))))) (.one 2 (.alt (.one 0 (.head 3 (.one 4 (.one 5 (.one 6 (.one 7 (.fin))))))) (.one 3 (.alt (.one 0 (.one 4 (.one 5 (.one 6 (.one 7 (.fin)))))) (.one 4 (.alt (.one 0 (.one 5 (.one 6 (.one 7 (.fin))))) (.one 5 (.one 0 (.one 6 (.one 7 (.fin)))))))))))))⟩ | _ => none)⟩
@[go_sem] theorem h115x : h115.mix = (fun id => match id with | 5 => some ⟨[1, 2, 3], [0], .alt (.one 0 (.head 1 (.head 2 (.head 3 (.one 4 (.one 5 (.one 6 (.one 7 (.fin))))))))) (.one 1 (.alt (.one 0 (.head 2 (.head 3 (.one 4 (.one 5 (.one 6 (.one 7 (.fin)))))))) (.one 2 (.alt (.one 0 (.head 3 (.one 4 (.one 5 (.one 6 (.one 7 (.fin))))))) (.one 3 (.alt (.one 0 (.one 4 (.one 5 (.one 6 (.one 7 (.fin)))))) (.one 4 (.alt (.one 0 (.one 5 (.one 6 (.one 7 (.fin))))) (.one 5 (.one 0 (.one 6 (.one 7 (.fin)))))))))))))⟩ | 20 => some ⟨[1, 2, 3], [0], .alt (.one 0 (.head 1 (.head 2 (.head 3 (.one 4 (.one 5 (.one 6 (.one 7 (.fin))))))))) (.one 1 (.alt (.one 0 (.head 2 (.head 3 (.one 4 (.one 5 (.one 6 (.one 7 (.fin)))))))) (.one 2 (.alt (.one 0 (.head 3 (.one 4 (.one 5 (.one 6 (.one 7 (.fin))))))) (.one 3 (.alt (.one 0 (.one 4 (.one 5 (.one 6 (.one 7 (.fin)))))) (.one 4 (.alt (.one 0 (.one 5 (.one 6 (.one 7 (.fin))))) (.one 5 (.one 0 (.one 6 (.one 7 (.fin)))))))))))))⟩ | _ => none) := rfl
@[go_sem] theorem h115l : h115.live = h115a := rfl
@[go_sem] theorem h115k : h115.keep = (fun _ => none) := rfl
@[go_sem] theorem h115t : h115.tail = (fun id => match id with | 5 => some 5 | 20 => some 5 | _ => none) := rfl
@[go_sem] theorem h115v : h115.vars = [] := rfl
@[go_sem] theorem h115m : h115.mutc = false := rfl
@[go_sem] def h123a : Nat → Option (List Nat) := (fun id => match id with | 0 => some [0] | 1 => some [0, 4] | 2 => some [0, 4, 5, 6] | 3 => some [0, 4, 5, 6] | 4 => some [2, 3] | 5 => some [0, 4, 5, 6, 13] | 6 => some [2, 3] | 7 => some [0, 4, 5, 6, 18] | 8 => some [0, 5, 6, 7, 8] | 9 => some [0, 4, 5, 6, 28] | 10 => some [0, 4, 5, 6, 7, 8] | 11 => some [0, 5, 6, 7, 8, 38] | 12 => some [0, 5, 6, 7, 8, 38, 39] | 13 => some [0, 5, 6, 7, 8, 38, 39] | 14 => some [0, 5, 6, 7, 8, 41] | 15 => some [0, 5, 6, 7, 8, 38, 39] | 16 => some [0, 4, 5, 6, 43] | 17 => some [0, 4, 5, 6, 7, 8] | 18 => some [0, 5, 6, 7, 8, 53] | 19 => some [0, 5, 6, 7, 8, 53, 54] | 20 => some [0, 5, 6, 7, 8, 53, 54] | 21 => some [0, 5, 6, 7, 8, 56] | 22 => some [0, 5, 6, 7, 8, 53, 54] | 23 => some [0, 5, 6, 7, 8, 58, 59] | 24 => some [0, 5, 6, 7, 8, 58, 59, 60] | 25 => some [0, 5, 6, 7, 8, 9, 58, 59] | 26 => some [0, 7, 8, 9, 58, 59, 84] | 27 => some [2, 3] | 28 => some [0, 7, 8, 58, 59] | 29 => some [0, 5, 6, 7, 8, 58, 59] | 30 => some [0, 5, 6, 7, 8, 58, 59] | 31 => some [2, 3] | _ => none)
def h123 : Hint := ⟨h123a, (fun _ => none), (fun _ => none), [], false, (fun _ => none)⟩
@[go_sem] theorem h123x : h123.mix = (fun _ => none) := rfl
@[go_sem] theorem h123l : h123.live = h123a := rfl
@[go_sem] theorem h123k : h123.keep = (fun _ => none) := rfl
@[go_sem] theorem h123t : h123.tail = (fun _ => none) := rfl
@[go_sem] theorem h123v : h123.vars = [] := rfl
@[go_sem] theorem h123m : h123.mutc = false := rfl
@[go_sem] def h125a : Nat → Option (List Nat) := (fun id => match id with | 0 => some [0, 1] | 1 => some [4] | _ => none)
def h125 : Hint := ⟨h125a, (fun _ => none), (fun _ => none), [], false, (fun _ => none)⟩
@[go_sem] theorem h125x : h125.mix = (fun _ => none) := rfl
@[go_sem] theorem h125l : h125.live = h125a := rfl
@[go_sem] theorem h125k : h125.keep = (fun _ => none) := rfl
@[go_sem] theorem h125t : h125.tail = (fun _ => none) := rfl
@[go_sem] theorem h125v : h125.vars = [] := rfl
@[go_sem] theorem h125m : h125.mutc = false := rfl
@[go_sem] def h126a : Nat → Option (List Nat) := (fun id => match id with | 0 => some [0, 1] | 1 => some [0, 1, 7] | 2 => some [4] | 3 => some [4] | _ => none)
def h126 : Hint := ⟨h126a, (fun _ => none), (fun _ => none), [0], false, (fun _ => none)⟩
@[go_sem] theorem h126x : h126.mix = (fun _ => none) := rfl
@[go_sem] theorem h126l : h126.live = h126a := rfl
@[go_sem] theorem h126k : h126.keep = (fun _ => none) := rfl
@[go_sem] theorem h126t : h126.tail = (fun _ => none) := rfl
@[go_sem] theorem h126v : h126.vars = [0] := rfl
@[go_sem] theorem h126m : h126.mutc = false := rfl
@[go_sem] def h127a : Nat → Option (List Nat) := (fun id => match id with | 0 => some [0, 1] | 1 => some [4] | _ => none)
def h127 : Hint := ⟨h127a, (fun _ => none), (fun _ => none), [], false, (fun _ => none)⟩
@[go_sem] theorem h127x : h127.mix = (fun _ => none) := rfl
@[go_sem] theorem h127l : h127.live = h127a := rfl
@[go_sem] theorem h127k : h127.keep = (fun _ => none) := rfl
@[go_sem] theorem h127t : h127.tail = (fun _ => none) := rfl
@[go_sem] theorem h127v : h127.vars = [] := rfl
@[go_sem] theorem h127m : h127.mutc = false := rfl
@[go_sem] def h128a : Nat → Option (List Nat) := (fun id => match id with | 0 => some [1] | 1 => some [2] | _ => none)
def h128 : Hint := ⟨h128a, (fun _ => none), (fun id => match id with | 1 => some 18 | _ => none), [], false, (fun _ => none)⟩
@[go_sem] theorem h128x : h128.mix = (fun _ => none) := rfl
@[go_sem] theorem h128l : h128.live = h128a := rfl
@[go_sem] theorem h128k : h128.keep = (fun _ => none) := rfl
@[go_sem] theorem h128t : h128.tail = (fun id => match id with | 1 => some 18 | _ => none) := rfl
@[go_sem] theorem h128v : h128.vars = [] := rfl
@[go_sem] theorem h128m : h128.mutc = false := rfl
@[go_sem] def h133a : Nat → Option (List Nat) := (fun id => match id with | 0 => some [0, 1] | 1 => some [0, 1, 16] | 2 => some [0, 1] | 3 => some [4] | _ => none)
def h133 : Hint := ⟨h133a, (fun _ => none), (fun _ => none), [], false, (fun _ => none)⟩
@[go_sem] theorem h133x : h133.mix = (fun _ => none) := rfl
@[go_sem] theorem h133l : h133.live = h133a := rfl
@[go_sem] theorem h133k : h133.keep = (fun _ => none) := rfl
@[go_sem] theorem h133t : h133.tail = (fun _ => none) := rfl
@[go_sem] theorem h133v : h133.vars = [] := rfl
@[go_sem] theorem h133m : h133.mutc = false := rfl
@[go_sem] def h137a : Nat → Option (List Nat) := (fun id => match id with | 0 => some [0, 1] | 1 => some [0, 1, 7] | 2 => some [4] | 3 => some [4] | _ => none)
def h137 : Hint := ⟨h137a, (fun _ => none), (fun _ => none), [], false, (fun _ => none)⟩
@[go_sem] theorem h137x : h137.mix = (fun _ => none) := rfl
@[go_sem] theorem h137l : h137.live = h137a := rfl
@[go_sem] theorem h137k : h137.keep = (fun _ => none) := rfl
@[go_sem] theorem h137t : h137.tail = (fun _ => none) := rfl
@[go_sem] theorem h137v : h137.vars = [] := rfl
@[go_sem] theorem h137m : h137.mutc = false := rfl
@[go_sem] def h142a : Nat → Option (List Nat) := (fun id => match id with | 0 => some [0] | 1 => some [0, 3] | 2 => some [2] | 3 => some [0, 8] | 4 => some [2] | 5 => some [0, 18] | 6 => some [2] | 7 => some [2] | _ => none)
def h142 : Hint := ⟨h142a, (fun _ => none), (fun _ => none), [], false, (fun _ => none)⟩
@[go_sem] theorem h142x : h142.mix = (fun _ => none) := rfl
@[go_sem] theorem h142l : h142.live = h142a := rfl
@[go_sem] theorem h142k : h142.keep = (fun _ => none) := rfl
@[go_sem] theorem h142t : h142.tail = (fun _ => none) := rfl
@[go_sem] theorem h142v : h142.vars = [] := rfl
@[go_sem] theorem h142m : h142.mutc = false := rfl
@[go_sem] def h143a : Nat → Option (List Nat) := (fun id => match id with | 0 => some [0, 2] | 1 => some [0, 2, 4] | 2 => some [0, 2, 4, 21] | 3 => some [0, 2, 4, 21] | 4 => some [0, 2, 4, 5] | 5 => some [0, 2, 4] | 6 => some [0, 2, 4, 44] | 7 => some [0, 2, 4, 6] | 8 => some [0, 2, 4, 6, 49] | 9 => some [2, 3] | 10 => some [0, 2, 4, 6] | 11 => some [0, 2, 4, 44] | 12 => some [0, 2, 4, 68] | 13 => some [2, 3] | 14 => some [0, 2, 4, 71] | 15 => some [2, 3] | 16 => some [0, 2, 4, 80] | 17 => some [2, 3] | 18 => some [0, 2, 4] | 19 => some [0, 2, 4, 7] | 20 => some [0, 2, 4, 7, 96] | 21 => some [0, 2, 4, 7, 96] | 22 => some [0, 2, 4, 7, 110] | 23 => some [2, 3] | 24 => some [2, 4, 7, 113, 114, 115] | 25 => some [2, 4, 7, 113, 114, 115, 116] | 26 => some [2, 4, 7, 9, 113, 114, 115] | 27 => some [2, 4, 7, 113, 114, 115] | 28 => some [2, 4, 7, 113, 114, 115] | 29 => some [2, 4, 129] | 30 => some [2, 4, 129] | 31 => some [2, 3] | _ => none)
def h143 : Hint := ⟨h143a, (fun _ => none), (fun id => match id with | 3 => some 6 | 5 => some 7 | 10 => some 9 | 21 => some 5 | _ => none), [], false, (fun id => match id with | 3 => some ⟨[0, 1, 2, 3, 4, 5], [], .head 0 (.head 1 (.head 2 (.head 5 (.alt (.one 3 (.alt (.one 4 (.one 6 (.one 7 (.fin)))) (.one 6 (.head 4 (.one 7 (.fin)))))) (.one 6 (.head 3 (.head 4 (.one 7 (.fin)))))))))⟩ | 5 => some ⟨[0, 1, 2, 3, 4, 5, 6, 9], [], .head 0 (.head 1 (.head 2 (.head 6 (.alt (.one 3 (.alt (.one 4 (.alt (.one 5 (.one 7 (.one 8 (.head 9 (.one 10 (.fin)))))) (.one 7 (.head 5 (.one 8 (.head 9 (.one 10 (.fin)))))))) (.one 7 (.head 4 (.head 5 (.one 8 (.head 9 (.one 10 (.fin))))))))) (.alt (.one 4 (.alt (.one 3 (.alt (.one 5 (.one 7 (.one 8 (.head 9 (.one 10 (.fin)))))) (.one 7 (.head 5 (.one 8 (.head 9 (.one 10 (.fin)))))))) (.one 7 (.head 3 (.head 5 (.one 8 (.head 9 (.one 10 (.fin))))))))) (.one 7 (.head 3 (.head 4 (.head 5 (.one 8 (.head 9 (.one 10 (.fin)))))))))))))⟩ | 10 => some ⟨[0, 1, 2, 3, 4, 5, 6, 7, 8, 10, 12], [], .head 0 (.head 1 (.head 2 (.head 3 (.head 4 (.head 5 (.head 6 (.head 8 (.alt (.one 7 (.one 9 (.head 10 (.one 11 (.head 12 (.one 13 (.fin))))))) (.one 9 (.head 7 (.head 10 (.one 11 (.head 12 (.one 13 (.fin)))))))))))))))⟩ | 21 => some ⟨[0, 1, 2, 3, 4], [], .head 0 (.head 1 (.head 2 (.alt (.one 3 (.alt (.one 4 (.one 5 (.one 6 (.fin)))) (.one 5 (.head 4 (.one 6 (.fin)))))) (.one 5 (.head 3 (.head 4 (.one 6 (.fin))))))))⟩ | _ => none)⟩
@[go_sem] theorem h143x : h143.mix = (fun id => match id with | 3 => some ⟨[0, 1, 2, 3, 4, 5], [], .head 0 (.head 1 (.head 2 (.head 5 (.alt (.one 3 (.alt (.one 4 (.one 6 (.one 7 (.fin)))) (.one 6 (.head 4 (.one 7 (.fin)))))) (.one 6 (.head 3 (.head 4 (.one 7 (.fin)))))))))⟩ | 5 => some ⟨[0, 1, 2, 3, 4, 5, 6, 9], [], .head 0 (.head 1 (.head 2 (.head 6 (.alt (.one 3 (.alt (.one 4 (.alt (.one 5 (.one 7 (.one 8 (.head 9 (.one 10 (.fin)))))) (.one 7 (.head 5 (.one 8 (.head 9 (.one 10 (.fin)))))))) (.one 7 (.head 4 (.head 5 (.one 8 (.head 9 (.one 10 (.fin))))))))) (.alt (.one 4 (.alt (.one 3 (.alt (.one 5 (.one 7 (.one 8 (.head 9 (.one 10 (.fin)))))) (.one 7 (.head 5 (.one 8 (.head 9 (.one 10 (.fin)))))))) (.one 7 (.head 3 (.head 5 (.one 8 (.head 9 (.one 10 (.fin))))))))) (.one 7 (.head 3 (.head 4 (.head 5 (.one 8 (.head 9 (.one 10 (.fin)))))))))))))⟩ | 10 => some ⟨[0, 1, 2, 3, 4, 5, 6, 7, 8, 10, 12], [], .head 0 (.head 1 (.head 2 (.head 3 (.head 4 (.head 5 (.head 6 (.head 8 (.alt (.one 7 (.one 9 (.head 10 (.one 11 (.head 12 (.one 13 (.fin))))))) (.one 9 (.head 7 (.head 10 (.one 11 (.head 12 (.one 13 (.fin)))))))))))))))⟩ | 21 => some ⟨[0, 1, 2, 3, 4], [], .head 0 (.head 1 (.head 2 (.alt (.one 3 (.alt (.one 4 (.one 5 (.one 6 (.fin)))) (.one 5 (.head 4 (.one 6 (.fin)))))) (.one 5 (.head 3 (.head 4 (.one 6 (.fin))))))))⟩ | _ => none) := rfl
@[go_sem] theorem h143l : h143.live = h143a := rfl
@[go_sem] theorem h143k : h143.keep = (fun _ => none) := rfl
@[go_sem] theorem h143t : h143.tail = (fun id => match id with | 3 => some 6 | 5 => some 7 | 10 => some 9 | 21 => some 5 | _ => none) := rfl
@[go_sem] theorem h143v : h143.vars = [] := rfl
@[go_sem] theorem h143m : h143.mutc = false := rfl
@[go_sem] def h144a : Nat → Option (List Nat) := (fun id => match id with | 0 => some [0, 1] | 1 => some [0, 1, 12] | 2 => some [4] | 3 => some [0, 1, 21] | 4 => some [4] | 5 => some [0, 1, 5, 6] | 6 => some [0, 1, 5, 31] | 7 => some [4] | 8 => some [4] | _ => none)
def h144 : Hint := ⟨h144a, (fun _ => none), (fun _ => none), [], false, (fun _ => none)⟩
@[go_sem] theorem h144x : h144.mix = (fun _ => none) := rfl
@[go_sem] theorem h144l : h144.live = h144a := rfl
@[go_sem] theorem h144k : h144.keep = (fun _ => none) := rfl
@[go_sem] theorem h144t : h144.tail = (fun _ => none) := rfl
@[go_sem] theorem h144v : h144.vars = [] := rfl
@[go_sem] theorem h144m : h144.mutc = false := rfl
@[go_sem] def h145a : Nat → Option (List Nat) := (fun id => match id with | 0 => some [0, 1, 2, 6] | 1 => some [0, 1, 2, 6, 16] | 2 => some [6] | 3 => some [0, 1, 2, 6, 19] | 4 => some [0, 1, 2, 6, 16] | 5 => some [0, 1, 2, 6, 23] | 6 => some [6] | 7 => some [0, 1, 2, 6] | 8 => some [0, 1, 2, 6, 7] | 9 => some [0, 1, 2, 6, 7, 27, 28, 29] | 10 => some [0, 1, 2, 6, 7, 27, 28, 29, 30] | 11 => some [0, 1, 2, 6, 7, 9, 27, 28, 29] | 12 => some [0, 1, 2, 6, 7, 9, 10, 27, 28, 29] | 13 => some [0, 1, 2, 6, 7, 9, 10, 27, 28, 29, 35] | 14 => some [0, 1, 2, 6, 7, 9, 10, 27, 28, 29] | 15 => some [0, 1, 2, 6, 7, 9, 10, 27, 28, 29, 41] | 16 => some [0, 1, 2, 6, 7, 9, 10, 27, 28, 29] | 17 => some [0, 1, 2, 6, 7, 9, 10, 27, 28, 29, 48] | 18 => some [6] | 19 => some [0, 1, 2, 6, 7, 9, 10, 27, 28, 29] | 20 => some [0, 1, 2, 6, 7, 27, 28, 29] | 21 => some [6] | _ => none)
def h145 : Hint := ⟨h145a, (fun _ => none), (fun _ => none), [], false, (fun _ => none)⟩
@[go_sem] theorem h145x : h145.mix = (fun _ => none) := rfl
@[go_sem] theorem h145l : h145.live = h145a := rfl
@[go_sem] theorem h145k : h145.keep = (fun _ => none) := rfl
@[go_sem] theorem h145t : h145.tail = (fun _ => none) := rfl
@[go_sem] theorem h145v : h145.vars = [] := rfl
@[go_sem] theorem h145m : h145.mutc = false := rfl
@[go_sem] def h147a : Nat → Option (List Nat) := (fun id => match id with | 0 => some [0] | 1 => some [0, 8] | 2 => some [2] | 3 => some [2] | _ => none)
def h147 : Hint := ⟨h147a, (fun _ => none), (fun _ => none), [], false, (fun _ => none)⟩
@[go_sem] theorem h147x : h147.mix = (fun _ => none) := rfl
@[go_sem] theorem h147l : h147.live = h147a := rfl
@[go_sem] theorem h147k : h147.keep = (fun _ => none) := rfl
@[go_sem] theorem h147t : h147.tail = (fun _ => none) := rfl
@[go_sem] theorem h147v : h147.vars = [] := rfl
@[go_sem] theorem h147m : h147.mutc = false := rfl
@[go_sem] def h148a : Nat → Option (List Nat) := (fun id => match id with | 0 => some [0, 1, 2] | 1 => some [0, 1, 2, 7] | 2 => some [0, 1, 2, 7] | 3 => some [2] | _ => none)
def h148 : Hint := ⟨h148a, (fun _ => none), (fun _ => none), [], false, (fun _ => none)⟩
@[go_sem] theorem h148x : h148.mix = (fun _ => none) := rfl
@[go_sem] theorem h148l : h148.live = h148a := rfl
@[go_sem] theorem h148k : h148.keep = (fun _ => none) := rfl
@[go_sem] theorem h148t : h148.tail = (fun _ => none) := rfl
@[go_sem] theorem h148v : h148.vars = [] := rfl
@[go_sem] theorem h148m : h148.mutc = false := rfl
@[go_sem] def h149a : Nat → Option (List Nat) := (fun id => match id with | 0 => some [0, 2] | 1 => some [0, 2] | 2 => some [0, 2, 12] | 3 => some [2] | 4 => some [0, 2, 19] | 5 => some [2] | 6 => some [2] | 7 => some [0, 2, 35] | 8 => some [0, 2] | 9 => some [0, 2] | _ => none)
def h149 : Hint := ⟨h149a, (fun _ => none), (fun _ => none), [], false, (fun _ => none)⟩
@[go_sem] theorem h149x : h149.mix = (fun _ => none) := rfl
@[go_sem] theorem h149l : h149.live = h149a := rfl
@[go_sem] theorem h149k : h149.keep = (fun _ => none) := rfl
@[go_sem] theorem h149t : h149.tail = (fun _ => none) := rfl
@[go_sem] theorem h149v : h149.vars = [] := rfl
@[go_sem] theorem h149m : h149.mutc = false := rfl
@[go_sem] def h150a : Nat → Option (List Nat) := (fun id => match id with | 0 => some [0] | 1 => some [2] | _ => none)
def h150 : Hint := ⟨h150a, (fun _ => none), (fun _ => none), [], false, (fun _ => none)⟩
@[go_sem] theorem h150x : h150.mix = (fun _ => none) := rfl
@[go_sem] theorem h150l : h150.live = h150a := rfl
@[go_sem] theorem h150k : h150.keep = (fun _ => none) := rfl
@[go_sem] theorem h150t : h150.tail = (fun _ => none) := rfl
@[go_sem] theorem h150v : h150.vars = [] := rfl
@[go_sem] theorem h150m : h150.mutc = false := rfl
@[go_sem] def h158a : Nat → Option (List Nat) := (fun id => match id with | 0 => some [0, 1] | 1 => some [0, 1, 5] | 2 => some [4] | 3 => some [0, 1, 5, 11] | 4 => some [4] | 5 => some [0, 1, 5, 25] | 6 => some [0, 1, 5, 25] | 7 => some [4] | 8 => some [0, 1, 50] | 9 => some [4] | _ => none)
def h158 : Hint := ⟨h158a, (fun _ => none), (fun _ => none), [0], false, (fun _ => none)⟩
@[go_sem] theorem h158x : h158.mix = (fun _ => none) := rfl
@[go_sem] theorem h158l : h158.live = h158a := rfl
@[go_sem] theorem h158k : h158.keep = (fun _ => none) := rfl
@[go_sem] theorem h158t : h158.tail = (fun _ => none) := rfl
@[go_sem] theorem h158v : h158.vars = [0] := rfl
@[go_sem] theorem h158m : h158.mutc = false := rfl
@[go_sem] def h160a : Nat → Option (List Nat) := (fun id => match id with | 0 => some [0, 1] | 1 => some [0, 1, 6] | 2 => some [0, 1] | 3 => some [4] | _ => none)
def h160 : Hint := ⟨h160a, (fun _ => none), (fun _ => none), [], false, (fun _ => none)⟩
@[go_sem] theorem h160x : h160.mix = (fun _ => none) := rfl
@[go_sem] theorem h160l : h160.live = h160a := rfl
@[go_sem] theorem h160k : h160.keep = (fun _ => none) := rfl
@[go_sem] theorem h160t : h160.tail = (fun _ => none) := rfl
@[go_sem] theorem h160v : h160.vars = [] := rfl
@[go_sem] theorem h160m : h160.mutc = false := rfl
@[go_sem] def h172a : Nat → Option (List Nat) := (fun id => match id with | 0 => some [0] | 1 => some [0, 3] | 2 => some [0, 3, 19] | 3 => some [0, 3] | 4 => some [2] | _ => none)
def h172 : Hint := ⟨h172a, (fun _ => none), (fun _ => none), [], false, (fun _ => none)⟩
@[go_sem] theorem h172x : h172.mix = (fun _ => none) := rfl
@[go_sem] theorem h172l : h172.live = h172a := rfl
@[go_sem] theorem h172k : h172.keep = (fun _ => none) := rfl
@[go_sem] theorem h172t : h172.tail = (fun _ => none) := rfl
@[go_sem] theorem h172v : h172.vars = [] := rfl
@[go_sem] theorem h172m : h172.mutc = false := rfl
@[go_sem] def h173a : Nat → Option (List Nat) := (fun id => match id with | 0 => some [0, 1] | 1 => some [0, 1, 13] | 2 => some [0, 1] | 3 => some [4] | _ => none)
def h173 : Hint := ⟨h173a, (fun _ => none), (fun _ => none), [], false, (fun _ => none)⟩
@[go_sem] theorem h173x : h173.mix = (fun _ => none) := rfl
@[go_sem] theorem h173l : h173.live = h173a := rfl
@[go_sem] theorem h173k : h173.keep = (fun _ => none) := rfl
@[go_sem] theorem h173t : h173.tail = (fun _ => none) := rfl
@[go_sem] theorem h173v : h173.vars = [] := rfl
@[go_sem] theorem h173m : h173.mutc = false := rfl
@[go_sem] def h176a : Nat → Option (List Nat) := (fun id => match id with | 0 => some [0, 1, 2, 6] | 1 => some [0, 1, 2, 6, 16] | 2 => some [6] | 3 => some [1, 2, 6, 18] | 4 => some [6] | 5 => some [6] | _ => none)
def h176 : Hint := ⟨h176a, (fun _ => none), (fun _ => none), [], false, (fun _ => none)⟩
@[go_sem] theorem h176x : h176.mix = (fun _ => none) := rfl
@[go_sem] theorem h176l : h176.live = h176a := rfl
@[go_sem] theorem h176k : h176.keep = (fun _ => none) := rfl
@[go_sem] theorem h176t : h176.tail = (fun _ => none) := rfl
@[go_sem] theorem h176v : h176.vars = [] := rfl
@[go_sem] theorem h176m : h176.mutc = false := rfl
def hints (f : Nat) : Hint := match f with
 | 8 => h8
 | 9 => h9
 | 10 => h10
 | 11 => h11
 | 12 => h12
 | 15 => h15
 | 17 => h17
 | 19 => h19
 | 20 => h20
 | 23 => h23
 | 24 => h24
 | 25 => h25
 | 26 => h26
 | 27 => h27
 | 31 => h31
 | 33 => h33
 | 34 => h34
 | 35 => h35
 | 36 => h36
 | 37 => h37
 | 38 => h38
 | 47 => h47
 | 48 => h48
 | 51 => h51
 | 52 => h52
 | 53 => h53
 | 54 => h54
 | 55 => h55
 | 56 => h56
 | 57 => h57
 | 58 => h58
 | 59 => h59
 | 60 => h60
 | 61 => h61
 | 62 => h62
 | 63 => h63
 | 64 => h64
 | 65 => h65
 | 66 => h66
 | 67 => h67
 | 68 => h68
 | 69 => h69
 | 70 => h70
 | 83 => h83
 | 85 => h85
 | 86 => h86
 | 87 => h87
 | 88 => h88
 | 89 => h89
 | 91 => h91
 | 92 => h92
 | 93 => h93
 | 95 => h95
 | 96 => h96
 | 97 => h97
 | 98 => h98
 | 99 => h99
 | 109 => h109
 | 110 => h110
 | 111 => h111
 | 112 => h112
 | 113 => h113
 | 114 => h114
 | 115 => h115
 | 123 => h123
 | 125 => h125
 | 126 => h126
 | 127 => h127
 | 128 => h128
 | 133 => h133
 | 137 => h137
 | 142 => h142
 | 143 => h143
 | 144 => h144
 | 145 => h145
 | 147 => h147
 | 148 => h148
 | 149 => h149
 | 150 => h150
 | 158 => h158
 | 160 => h160
 | 172 => h172
 | 173 => h173
 | 176 => h176
 | _ => ⟨fun _ => none, fun _ => none, fun _ => none, [], false, fun _ => none⟩
variable [MX]
noncomputable def E : CallF := ev Tryz.prog hints primz
noncomputable def b8 : Code := bodyOf Tryz.f8
theorem c8 : codeOk Tryz.prog h8 25 b8 = true := by kernel_rfl
theorem e8 {lo : Nat} {args : List V} {h : Heap} (ha : args.length ≤ 25) (hb : args.all bare = true) :
  E lo 8 args h = fin Tryz.prog [.tmp 2] h.length (evCode ⟨Tryz.prog, E, lo, h.length, h8⟩ loopW b8 (args0 args, h)) :=
 ev_body rfl Tryz.func8 rfl Tryz.ntmps8 (by kernel_rfl) rfl c8 rfl ha hb
noncomputable def b9 : Code := bodyOf Tryz.f9
theorem c9 : codeOk Tryz.prog h9 68 b9 = true := by kernel_rfl
theorem e9 {lo : Nat} {args : List V} {h : Heap} (ha : args.length ≤ 68) (hb : args.all bare = true) :
  E lo 9 args h = fin Tryz.prog [.tmp 2] h.length (evCode ⟨Tryz.prog, E, lo, h.length, h9⟩ loopW b9 (args0 args, h)) :=
 ev_body rfl Tryz.func9 rfl Tryz.ntmps9 (by kernel_rfl) rfl c9 rfl ha hb
noncomputable def b10 : Code := bodyOf Tryz.f10
noncomputable def l10x0 : Code := loopAt b10 0
theorem c10 : codeOk Tryz.prog h10 87 b10 = true := by kernel_rfl
theorem e10 {lo : Nat} {args : List V} {h : Heap} (ha : args.length ≤ 87) (hb : args.all bare = true) :
  E lo 10 args h = fin Tryz.prog [.tmp 2] h.length (evCode ⟨Tryz.prog, E, lo, h.length, h10⟩ loopW b10 (args0 args, h)) :=
 ev_body rfl Tryz.func10 rfl Tryz.ntmps10 (by kernel_rfl) rfl c10 rfl ha hb
noncomputable def b11 : Code := bodyOf Tryz.f11
noncomputable def l11x0 : Code := loopAt b11 0
theorem c11 : codeOk Tryz.prog h11 26 b11 = true := by kernel_rfl
theorem e11 {lo : Nat} {args : List V} {h : Heap} (ha : args.length ≤ 26) (hb : args.all bare = true) :
  E lo 11 args h = fin Tryz.prog [.tmp 4] h.length (evCode ⟨Tryz.prog, E, lo, h.length, h11⟩ loopW b11 (args0 args, h)) :=
 ev_body rfl Tryz.func11 rfl Tryz.ntmps11 (by kernel_rfl) rfl c11 rfl ha hb
noncomputable def b12 : Code := bodyOf Tryz.f12
noncomputable def l12x0 : Code := loopAt b12 0
theorem c12 : codeOk Tryz.prog h12 18 b12 = true := by kernel_rfl
theorem e12 {lo : Nat} {args : List V} {h : Heap} (ha : args.length ≤ 18) (hb : args.all bare = true) :
  E lo 12 args h = fin Tryz.prog [.tmp 2] h.length (evCode ⟨Tryz.prog, E, lo, h.length, h12⟩ loopW b12 (args0 args, h)) :=
 ev_body rfl Tryz.func12 rfl Tryz.ntmps12 (by kernel_rfl) rfl c12 rfl ha hb
noncomputable def b15 : Code := bodyOf Tryz.f15
theorem c15 : codeOk Tryz.prog h15 6 b15 = true := by kernel_rfl
theorem e15 {lo : Nat} {args : List V} {h : Heap} (ha : args.length ≤ 6) (hb : args.all bare = true) :
  E lo 15 args h = fin Tryz.prog [.tmp 2] h.length (evCode ⟨Tryz.prog, E, lo, h.length, h15⟩ loopW b15 (args0 args, h)) :=
 ev_body rfl Tryz.func15 rfl Tryz.ntmps15 (by kernel_rfl) rfl c15 rfl ha hb
noncomputable def b17 : Code := bodyOf Tryz.f17
theorem c17 : codeOk Tryz.prog h17 90 b17 = true := by kernel_rfl
theorem e17 {lo : Nat} {args : List V} {h : Heap} (ha : args.length ≤ 90) (hb : args.all bare = true) :
  E lo 17 args h = fin Tryz.prog [.tmp 2, .tmp 3] h.length (evCode ⟨Tryz.prog, E, lo, h.length, h17⟩ loopW b17 (args0 args, h)) :=
 ev_body rfl Tryz.func17 rfl Tryz.ntmps17 (by kernel_rfl) rfl c17 rfl ha hb
noncomputable def b19 : Code := bodyOf Tryz.f19
theorem c19 : codeOk Tryz.prog h19 16 b19 = true := by kernel_rfl
theorem e19 {lo : Nat} {args : List V} {h : Heap} (ha : args.length ≤ 16) (hb : args.all bare = true) :
  E lo 19 args h = fin Tryz.prog [.tmp 0] h.length (evCode ⟨Tryz.prog, E, lo, h.length, h19⟩ loopW b19 (args0 args, h)) :=
 ev_body rfl Tryz.func19 rfl Tryz.ntmps19 (by kernel_rfl) rfl c19 rfl ha hb
noncomputable def b20 : Code := bodyOf Tryz.f20
noncomputable def l20x0 : Code := loopAt b20 0
theorem c20 : codeOk Tryz.prog h20 40 b20 = true := by kernel_rfl
theorem e20 {lo : Nat} {args : List V} {h : Heap} (ha : args.length ≤ 40) (hb : args.all bare = true) :
  E lo 20 args h = fin Tryz.prog [.tmp 2, .tmp 3] h.length (evCode ⟨Tryz.prog, E, lo, h.length, h20⟩ loopW b20 (args0 args, h)) :=
 ev_body rfl Tryz.func20 rfl Tryz.ntmps20 (by kernel_rfl) rfl c20 rfl ha hb
noncomputable def b23 : Code := bodyOf Tryz.f23
theorem c23 : codeOk Tryz.prog h23 104 b23 = true := by kernel_rfl
theorem e23 {lo : Nat} {args : List V} {h : Heap} (ha : args.length ≤ 104) (hb : args.all bare = true) :
  E lo 23 args h = fin Tryz.prog [.tmp 2] h.length (evCode ⟨Tryz.prog, E, lo, h.length, h23⟩ loopW b23 (args0 args, h)) :=
 ev_body rfl Tryz.func23 rfl Tryz.ntmps23 (by kernel_rfl) rfl c23 rfl ha hb
noncomputable def b24 : Code := bodyOf Tryz.f24
theorem c24 : codeOk Tryz.prog h24 10 b24 = true := by kernel_rfl
theorem e24 {lo : Nat} {args : List V} {h : Heap} (ha : args.length ≤ 10) (hb : args.all bare = true) :
  E lo 24 args h = fin Tryz.prog [.tmp 4] h.length (evCode ⟨Tryz.prog, E, lo, h.length, h24⟩ loopW b24 (args0 args, h)) :=
 ev_body rfl Tryz.func24 rfl Tryz.ntmps24 (by kernel_rfl) rfl c24 rfl ha hb
noncomputable def b25 : Code := bodyOf Tryz.f25
noncomputable def l25x0 : Code := loopAt b25 0
noncomputable def l25x1 : Code := loopAt b25 1
theorem c25 : codeOk Tryz.prog h25 38 b25 = true := by kernel_rfl
/- a method -/
theorem e25 {lo : Nat} {args : List V} {h : Heap} (ha : args.length ≤ 38) (hb : args.all bare = true) :
  E lo 25 args h = fin Tryz.prog [] h.length (evCode ⟨Tryz.prog, E, lo, h.length, h25⟩ loopW b25 (args0 args, h)) :=
 ev_body rfl Tryz.func25 rfl Tryz.ntmps25 (by kernel_rfl) rfl c25 rfl ha hb
noncomputable def b26 : Code := bodyOf Tryz.f26
theorem c26 : codeOk Tryz.prog h26 45 b26 = true := by kernel_rfl
/- a method -/
theorem e26 {lo : Nat} {args : List V} {h : Heap} (ha : args.length ≤ 45) (hb : args.all bare = true) :
  E lo 26 args h = fin Tryz.prog [.tmp 4] h.length (evCode ⟨Tryz.prog, E, lo, h.length, h26⟩ loopW b26 (args0 args, h)) :=
 ev_body rfl Tryz.func26 rfl Tryz.ntmps26 (by kernel_rfl) rfl c26 rfl ha hb
noncomputable def b27 : Code := bodyOf Tryz.f27
theorem c27 : codeOk Tryz.prog h27 170 b27 = true := by kernel_rfl
/- a method -/
theorem e27 {lo : Nat} {args : List V} {h : Heap} (ha : args.length ≤ 170) (hb : args.all bare = true) :
  E lo 27 args h = fin Tryz.prog [.cell 2 34] h.length (evCode ⟨Tryz.prog, E, lo, h.length, h27⟩ loopW b27 (args0 args, h)) :=
 ev_body rfl Tryz.func27 rfl Tryz.ntmps27 (by kernel_rfl) rfl c27 rfl ha hb
noncomputable def b31 : Code := bodyOf Tryz.f31
noncomputable def l31x0 : Code := loopAt b31 0
theorem c31 : codeOk Tryz.prog h31 56 b31 = true := by kernel_rfl
theorem e31 {lo : Nat} {args : List V} {h : Heap} (ha : args.length ≤ 56) (hb : args.all bare = true) :
  E lo 31 args h = fin Tryz.prog [.tmp 2] h.length (evCode ⟨Tryz.prog, E, lo, h.length, h31⟩ loopW b31 (args0 args, h)) :=
 ev_body rfl Tryz.func31 rfl Tryz.ntmps31 (by kernel_rfl) rfl c31 rfl ha hb
noncomputable def b33 : Code := bodyOf Tryz.f33
theorem c33 : codeOk Tryz.prog h33 36 b33 = true := by kernel_rfl
theorem e33 {lo : Nat} {args : List V} {h : Heap} (ha : args.length ≤ 36) (hb : args.all bare = true) :
  E lo 33 args h = fin Tryz.prog [.tmp 2] h.length (evCode ⟨Tryz.prog, E, lo, h.length, h33⟩ loopW b33 (args0 args, h)) :=
 ev_body rfl Tryz.func33 rfl Tryz.ntmps33 (by kernel_rfl) rfl c33 rfl ha hb
noncomputable def b34 : Code := bodyOf Tryz.f34
noncomputable def l34x0 : Code := loopAt b34 0
theorem c34 : codeOk Tryz.prog h34 26 b34 = true := by kernel_rfl
theorem e34 {lo : Nat} {args : List V} {h : Heap} (ha : args.length ≤ 26) (hb : args.all bare = true) :
  E lo 34 args h = fin Tryz.prog [.tmp 2] h.length (evCode ⟨Tryz.prog, E, lo, h.length, h34⟩ loopW b34 (args0 args, h)) :=
 ev_body rfl Tryz.func34 rfl Tryz.ntmps34 (by kernel_rfl) rfl c34 rfl ha hb
noncomputable def b35 : Code := bodyOf Tryz.f35
noncomputable def l35x0 : Code := loopAt b35 0
theorem c35 : codeOk Tryz.prog h35 37 b35 = true := by kernel_rfl
theorem e35 {lo : Nat} {args : List V} {h : Heap} (ha : args.length ≤ 37) (hb : args.all bare = true) :
  E lo 35 args h = fin Tryz.prog [.tmp 6] h.length (evCode ⟨Tryz.prog, E, lo, h.length, h35⟩ loopW b35 (args0 args, h)) :=
 ev_body rfl Tryz.func35 rfl Tryz.ntmps35 (by kernel_rfl) rfl c35 rfl ha hb
noncomputable def b36 : Code := bodyOf Tryz.f36
noncomputable def l36x0 : Code := loopAt b36 0
noncomputable def l36x1 : Code := loopAt b36 1
theorem c36 : codeOk Tryz.prog h36 123 b36 = true := by kernel_rfl
theorem e36 {lo : Nat} {args : List V} {h : Heap} (ha : args.length ≤ 123) (hb : args.all bare = true) :
  E lo 36 args h = fin Tryz.prog [.tmp 4, .tmp 5] h.length (evCode ⟨Tryz.prog, E, lo, h.length, h36⟩ loopW b36 (args0 args, h)) :=
 ev_body rfl Tryz.func36 rfl Tryz.ntmps36 (by kernel_rfl) rfl c36 rfl ha hb
noncomputable def b37 : Code := bodyOf Tryz.f37
theorem c37 : codeOk Tryz.prog h37 33 b37 = true := by kernel_rfl
theorem e37 {lo : Nat} {args : List V} {h : Heap} (ha : args.length ≤ 33) (hb : args.all bare = true) :
  E lo 37 args h = fin Tryz.prog [.tmp 2] h.length (evCode ⟨Tryz.prog, E, lo, h.length, h37⟩ loopW b37 (args0 args, h)) :=
 ev_body rfl Tryz.func37 rfl Tryz.ntmps37 (by kernel_rfl) rfl c37 rfl ha hb
noncomputable def b38 : Code := bodyOf Tryz.f38
noncomputable def l38x0 : Code := loopAt b38 0
theorem c38 : codeOk Tryz.prog h38 29 b38 = true := by kernel_rfl
theorem e38 {lo : Nat} {args : List V} {h : Heap} (ha : args.length ≤ 29) (hb : args.all bare = true) :
  E lo 38 args h = fin Tryz.prog [.tmp 2] h.length (evCode ⟨Tryz.prog, E, lo, h.length, h38⟩ loopW b38 (args0 args, h)) :=
 ev_body rfl Tryz.func38 rfl Tryz.ntmps38 (by kernel_rfl) rfl c38 rfl ha hb
noncomputable def b47 : Code := bodyOf Tryz.f47
theorem c47 : codeOk Tryz.prog h47 32 b47 = true := by kernel_rfl
theorem e47 {lo : Nat} {args : List V} {h : Heap} (ha : args.length ≤ 32) (hb : args.all bare = true) :
  E lo 47 args h = fin Tryz.prog [.tmp 4] h.length (evCode ⟨Tryz.prog, E, lo, h.length, h47⟩ loopW b47 (args0 args, h)) :=
 ev_body rfl Tryz.func47 rfl Tryz.ntmps47 (by kernel_rfl) rfl c47 rfl ha hb
noncomputable def b48 : Code := bodyOf Tryz.f48
theorem c48 : codeOk Tryz.prog h48 19 b48 = true := by kernel_rfl
/- a method -/
theorem e48 {lo : Nat} {args : List V} {h : Heap} (ha : args.length ≤ 19) (hb : args.all bare = true) :
  E lo 48 args h = fin Tryz.prog [.tmp 4, .tmp 5] h.length (evCode ⟨Tryz.prog, E, lo, h.length, h48⟩ loopW b48 (args0 args, h)) :=
 ev_body rfl Tryz.func48 rfl Tryz.ntmps48 (by kernel_rfl) rfl c48 rfl ha hb
noncomputable def b51 : Code := bodyOf Tryz.f51
theorem c51 : codeOk Tryz.prog h51 11 b51 = true := by kernel_rfl
theorem e51 {lo : Nat} {args : List V} {h : Heap} (ha : args.length ≤ 11) (hb : args.all bare = true) :
  E lo 51 args h = fin Tryz.prog [.tmp 2] h.length (evCode ⟨Tryz.prog, E, lo, h.length, h51⟩ loopW b51 (args0 args, h)) :=
 ev_body rfl Tryz.func51 rfl Tryz.ntmps51 (by kernel_rfl) rfl c51 rfl ha hb
noncomputable def b52 : Code := bodyOf Tryz.f52
theorem c52 : codeOk Tryz.prog h52 29 b52 = true := by kernel_rfl
theorem e52 {lo : Nat} {args : List V} {h : Heap} (ha : args.length ≤ 29) (hb : args.all bare = true) :
  E lo 52 args h = fin Tryz.prog [.tmp 2] h.length (evCode ⟨Tryz.prog, E, lo, h.length, h52⟩ loopW b52 (args0 args, h)) :=
 ev_body rfl Tryz.func52 rfl Tryz.ntmps52 (by kernel_rfl) rfl c52 rfl ha hb
noncomputable def b53 : Code := bodyOf Tryz.f53
theorem c53 : codeOk Tryz.prog h53 35 b53 = true := by kernel_rfl
theorem e53 {lo : Nat} {args : List V} {h : Heap} (ha : args.length ≤ 35) (hb : args.all bare = true) :
  E lo 53 args h = fin Tryz.prog [.tmp 2] h.length (evCode ⟨Tryz.prog, E, lo, h.length, h53⟩ loopW b53 (args0 args, h)) :=
 ev_body rfl Tryz.func53 rfl Tryz.ntmps53 (by kernel_rfl) rfl c53 rfl ha hb
noncomputable def b54 : Code := bodyOf Tryz.f54
theorem c54 : codeOk Tryz.prog h54 15 b54 = true := by kernel_rfl
theorem e54 {lo : Nat} {args : List V} {h : Heap} (ha : args.length ≤ 15) (hb : args.all bare = true) :
  E lo 54 args h = fin Tryz.prog [.tmp 2] h.length (evCode ⟨Tryz.prog, E, lo, h.length, h54⟩ loopW b54 (args0 args, h)) :=
 ev_body rfl Tryz.func54 rfl Tryz.ntmps54 (by kernel_rfl) rfl c54 rfl ha hb
noncomputable def b55 : Code := bodyOf Tryz.f55
noncomputable def l55x0 : Code := loopAt b55 0
theorem c55 : codeOk Tryz.prog h55 29 b55 = true := by kernel_rfl
theorem e55 {lo : Nat} {args : List V} {h : Heap} (ha : args.length ≤ 29) (hb : args.all bare = true) :
  E lo 55 args h = fin Tryz.prog [.tmp 2] h.length (evCode ⟨Tryz.prog, E, lo, h.length, h55⟩ loopW b55 (args0 args, h)) :=
 ev_body rfl Tryz.func55 rfl Tryz.ntmps55 (by kernel_rfl) rfl c55 rfl ha hb
noncomputable def b56 : Code := bodyOf Tryz.f56
noncomputable def l56x0 : Code := loopAt b56 0
theorem c56 : codeOk Tryz.prog h56 20 b56 = true := by kernel_rfl
/- a method -/
theorem e56 {lo : Nat} {args : List V} {h : Heap} (ha : args.length ≤ 20) (hb : args.all bare = true) :
  E lo 56 args h = fin Tryz.prog [.tmp 4] h.length (evCode ⟨Tryz.prog, E, lo, h.length, h56⟩ loopW b56 (args0 args, h)) :=
 ev_body rfl Tryz.func56 rfl Tryz.ntmps56 (by kernel_rfl) rfl c56 rfl ha hb
noncomputable def b57 : Code := bodyOf Tryz.f57
theorem c57 : codeOk Tryz.prog h57 13 b57 = true := by kernel_rfl
theorem e57 {lo : Nat} {args : List V} {h : Heap} (ha : args.length ≤ 13) (hb : args.all bare = true) :
  E lo 57 args h = fin Tryz.prog [.tmp 2] h.length (evCode ⟨Tryz.prog, E, lo, h.length, h57⟩ loopW b57 (args0 args, h)) :=
 ev_body rfl Tryz.func57 rfl Tryz.ntmps57 (by kernel_rfl) rfl c57 rfl ha hb
noncomputable def b58 : Code := bodyOf Tryz.f58
noncomputable def l58x0 : Code := loopAt b58 0
theorem c58 : codeOk Tryz.prog h58 12 b58 = true := by kernel_rfl
/- a method -/
theorem e58 {lo : Nat} {args : List V} {h : Heap} (ha : args.length ≤ 12) (hb : args.all bare = true) :
  E lo 58 args h = fin Tryz.prog [] h.length (evCode ⟨Tryz.prog, E, lo, h.length, h58⟩ loopW b58 (args0 args, h)) :=
 ev_body rfl Tryz.func58 rfl Tryz.ntmps58 (by kernel_rfl) rfl c58 rfl ha hb
noncomputable def b59 : Code := bodyOf Tryz.f59
noncomputable def l59x0 : Code := loopAt b59 0
theorem c59 : codeOk Tryz.prog h59 102 b59 = true := by kernel_rfl
/- a method -/
theorem e59 {lo : Nat} {args : List V} {h : Heap} (ha : args.length ≤ 102) (hb : args.all bare = true) :
  E lo 59 args h = fin Tryz.prog [.cell 2 34] h.length (evCode ⟨Tryz.prog, E, lo, h.length, h59⟩ loopW b59 (args0 args, h)) :=
 ev_body rfl Tryz.func59 rfl Tryz.ntmps59 (by kernel_rfl) rfl c59 rfl ha hb
noncomputable def b60 : Code := bodyOf Tryz.f60
theorem c60 : codeOk Tryz.prog h60 22 b60 = true := by kernel_rfl
theorem e60 {lo : Nat} {args : List V} {h : Heap} (ha : args.length ≤ 22) (hb : args.all bare = true) :
  E lo 60 args h = fin Tryz.prog [.tmp 2] h.length (evCode ⟨Tryz.prog, E, lo, h.length, h60⟩ loopW b60 (args0 args, h)) :=
 ev_body rfl Tryz.func60 rfl Tryz.ntmps60 (by kernel_rfl) rfl c60 rfl ha hb
noncomputable def b61 : Code := bodyOf Tryz.f61
theorem c61 : codeOk Tryz.prog h61 9 b61 = true := by kernel_rfl
theorem e61 {lo : Nat} {args : List V} {h : Heap} (ha : args.length ≤ 9) (hb : args.all bare = true) :
  E lo 61 args h = fin Tryz.prog [.tmp 2] h.length (evCode ⟨Tryz.prog, E, lo, h.length, h61⟩ loopW b61 (args0 args, h)) :=
 ev_body rfl Tryz.func61 rfl Tryz.ntmps61 (by kernel_rfl) rfl c61 rfl ha hb
noncomputable def b62 : Code := bodyOf Tryz.f62
theorem c62 : codeOk Tryz.prog h62 34 b62 = true := by kernel_rfl
/- a method -/
theorem e62 {lo : Nat} {args : List V} {h : Heap} (ha : args.length ≤ 34) (hb : args.all bare = true) :
  E lo 62 args h = fin Tryz.prog [.tmp 4] h.length (evCode ⟨Tryz.prog, E, lo, h.length, h62⟩ loopW b62 (args0 args, h)) :=
 ev_body rfl Tryz.func62 rfl Tryz.ntmps62 (by kernel_rfl) rfl c62 rfl ha hb
noncomputable def b63 : Code := bodyOf Tryz.f63
theorem c63 : codeOk Tryz.prog h63 146 b63 = true := by kernel_rfl
/- a method -/
theorem e63 {lo : Nat} {args : List V} {h : Heap} (ha : args.length ≤ 146) (hb : args.all bare = true) :
  E lo 63 args h = fin Tryz.prog [.cell 2 34] h.length (evCode ⟨Tryz.prog, E, lo, h.length, h63⟩ loopW b63 (args0 args, h)) :=
 ev_body rfl Tryz.func63 rfl Tryz.ntmps63 (by kernel_rfl) rfl c63 rfl ha hb
noncomputable def b64 : Code := bodyOf Tryz.f64
theorem c64 : codeOk Tryz.prog h64 13 b64 = true := by kernel_rfl
theorem e64 {lo : Nat} {args : List V} {h : Heap} (ha : args.length ≤ 13) (hb : args.all bare = true) :
  E lo 64 args h = fin Tryz.prog [.tmp 2] h.length (evCode ⟨Tryz.prog, E, lo, h.length, h64⟩ loopW b64 (args0 args, h)) :=
 ev_body rfl Tryz.func64 rfl Tryz.ntmps64 (by kernel_rfl) rfl c64 rfl ha hb
noncomputable def b65 : Code := bodyOf Tryz.f65
theorem c65 : codeOk Tryz.prog h65 16 b65 = true := by kernel_rfl
/- a method -/
theorem e65 {lo : Nat} {args : List V} {h : Heap} (ha : args.length ≤ 16) (hb : args.all bare = true) :
  E lo 65 args h = fin Tryz.prog [.tmp 4] h.length (evCode ⟨Tryz.prog, E, lo, h.length, h65⟩ loopW b65 (args0 args, h)) :=
 ev_body rfl Tryz.func65 rfl Tryz.ntmps65 (by kernel_rfl) rfl c65 rfl ha hb
noncomputable def b66 : Code := bodyOf Tryz.f66
theorem c66 : codeOk Tryz.prog h66 36 b66 = true := by kernel_rfl
/- a method -/
theorem e66 {lo : Nat} {args : List V} {h : Heap} (ha : args.length ≤ 36) (hb : args.all bare = true) :
  E lo 66 args h = fin Tryz.prog [.tmp 4] h.length (evCode ⟨Tryz.prog, E, lo, h.length, h66⟩ loopW b66 (args0 args, h)) :=
 ev_body rfl Tryz.func66 rfl Tryz.ntmps66 (by kernel_rfl) rfl c66 rfl ha hb
noncomputable def b67 : Code := bodyOf Tryz.f67
noncomputable def l67x0 : Code := loopAt b67 0
theorem c67 : codeOk Tryz.prog h67 26 b67 = true := by kernel_rfl
/- a method -/
theorem e67 {lo : Nat} {args : List V} {h : Heap} (ha : args.length ≤ 26) (hb : args.all bare = true) :
  E lo 67 args h = fin Tryz.prog [.tmp 2] h.length (evCode ⟨Tryz.prog, E, lo, h.length, h67⟩ loopW b67 (args0 args, h)) :=
 ev_body rfl Tryz.func67 rfl Tryz.ntmps67 (by kernel_rfl) rfl c67 rfl ha hb
noncomputable def b68 : Code := bodyOf Tryz.f68
noncomputable def l68x0 : Code := loopAt b68 0
theorem c68 : codeOk Tryz.prog h68 73 b68 = true := by kernel_rfl
/- a method -/
theorem e68 {lo : Nat} {args : List V} {h : Heap} (ha : args.length ≤ 73) (hb : args.all bare = true) :
  E lo 68 args h = fin Tryz.prog [.cell 2 34] h.length (evCode ⟨Tryz.prog, E, lo, h.length, h68⟩ loopW b68 (args0 args, h)) :=
 ev_body rfl Tryz.func68 rfl Tryz.ntmps68 (by kernel_rfl) rfl c68 rfl ha hb
noncomputable def b69 : Code := bodyOf Tryz.f69
noncomputable def l69x0 : Code := loopAt b69 0
theorem c69 : codeOk Tryz.prog h69 90 b69 = true := by kernel_rfl
theorem e69 {lo : Nat} {args : List V} {h : Heap} (ha : args.length ≤ 90) (hb : args.all bare = true) :
  E lo 69 args h = fin Tryz.prog [.tmp 2] h.length (evCode ⟨Tryz.prog, E, lo, h.length, h69⟩ loopW b69 (args0 args, h)) :=
 ev_body rfl Tryz.func69 rfl Tryz.ntmps69 (by kernel_rfl) rfl c69 rfl ha hb
noncomputable def b70 : Code := bodyOf Tryz.f70
theorem c70 : codeOk Tryz.prog h70 14 b70 = true := by kernel_rfl
/- a method -/
theorem e70 {lo : Nat} {args : List V} {h : Heap} (ha : args.length ≤ 14) (hb : args.all bare = true) :
  E lo 70 args h = fin Tryz.prog [.tmp 2] h.length (evCode ⟨Tryz.prog, E, lo, h.length, h70⟩ loopW b70 (args0 args, h)) :=
 ev_body rfl Tryz.func70 rfl Tryz.ntmps70 (by kernel_rfl) rfl c70 rfl ha hb
noncomputable def b83 : Code := bodyOf Tryz.f83
noncomputable def l83x0 : Code := loopAt b83 0
theorem c83 : codeOk Tryz.prog h83 22 b83 = true := by kernel_rfl
theorem e83 {lo : Nat} {args : List V} {h : Heap} (ha : args.length ≤ 22) (hb : args.all bare = true) :
  E lo 83 args h = fin Tryz.prog [.tmp 2] h.length (evCode ⟨Tryz.prog, E, lo, h.length, h83⟩ loopW b83 (args0 args, h)) :=
 ev_body rfl Tryz.func83 rfl Tryz.ntmps83 (by kernel_rfl) rfl c83 rfl ha hb
noncomputable def b85 : Code := bodyOf Tryz.f85
theorem c85 : codeOk Tryz.prog h85 8 b85 = true := by kernel_rfl
theorem e85 {lo : Nat} {args : List V} {h : Heap} (ha : args.length ≤ 8) (hb : args.all bare = true) :
  E lo 85 args h = fin Tryz.prog [.tmp 4] h.length (evCode ⟨Tryz.prog, E, lo, h.length, h85⟩ loopW b85 (args0 args, h)) :=
 ev_body rfl Tryz.func85 rfl Tryz.ntmps85 (by kernel_rfl) rfl c85 rfl ha hb
noncomputable def b86 : Code := bodyOf Tryz.f86
theorem c86 : codeOk Tryz.prog h86 9 b86 = true := by kernel_rfl
theorem e86 {lo : Nat} {args : List V} {h : Heap} (ha : args.length ≤ 9) (hb : args.all bare = true) :
  E lo 86 args h = fin Tryz.prog [.tmp 2] h.length (evCode ⟨Tryz.prog, E, lo, h.length, h86⟩ loopW b86 (args0 args, h)) :=
 ev_body rfl Tryz.func86 rfl Tryz.ntmps86 (by kernel_rfl) rfl c86 rfl ha hb
noncomputable def b87 : Code := bodyOf Tryz.f87
noncomputable def l87x0 : Code := loopAt b87 0
noncomputable def l87x1 : Code := loopAt b87 1
theorem c87 : codeOk Tryz.prog h87 31 b87 = true := by kernel_rfl
theorem e87 {lo : Nat} {args : List V} {h : Heap} (ha : args.length ≤ 31) (hb : args.all bare = true) :
  E lo 87 args h = fin Tryz.prog [.tmp 2] h.length (evCode ⟨Tryz.prog, E, lo, h.length, h87⟩ loopW b87 (args0 args, h)) :=
 ev_body rfl Tryz.func87 rfl Tryz.ntmps87 (by kernel_rfl) rfl c87 rfl ha hb
noncomputable def b88 : Code := bodyOf Tryz.f88
theorem c88 : codeOk Tryz.prog h88 17 b88 = true := by kernel_rfl
theorem e88 {lo : Nat} {args : List V} {h : Heap} (ha : args.length ≤ 17) (hb : args.all bare = true) :
  E lo 88 args h = fin Tryz.prog [.tmp 2] h.length (evCode ⟨Tryz.prog, E, lo, h.length, h88⟩ loopW b88 (args0 args, h)) :=
 ev_body rfl Tryz.func88 rfl Tryz.ntmps88 (by kernel_rfl) rfl c88 rfl ha hb
noncomputable def b89 : Code := bodyOf Tryz.f89
theorem c89 : codeOk Tryz.prog h89 33 b89 = true := by kernel_rfl
theorem e89 {lo : Nat} {args : List V} {h : Heap} (ha : args.length ≤ 33) (hb : args.all bare = true) :
  E lo 89 args h = fin Tryz.prog [.tmp 2] h.length (evCode ⟨Tryz.prog, E, lo, h.length, h89⟩ loopW b89 (args0 args, h)) :=
 ev_body rfl Tryz.func89 rfl Tryz.ntmps89 (by kernel_rfl) rfl c89 rfl ha hb
noncomputable def b91 : Code := bodyOf Tryz.f91
theorem c91 : codeOk Tryz.prog h91 17 b91 = true := by kernel_rfl
/- a method -/
theorem e91 {lo : Nat} {args : List V} {h : Heap} (ha : args.length ≤ 17) (hb : args.all bare = true) :
  E lo 91 args h = fin Tryz.prog [.tmp 4] h.length (evCode ⟨Tryz.prog, E, lo, h.length, h91⟩ loopW b91 (args0 args, h)) :=
 ev_body rfl Tryz.func91 rfl Tryz.ntmps91 (by kernel_rfl) rfl c91 rfl ha hb
noncomputable def b92 : Code := bodyOf Tryz.f92
theorem c92 : codeOk Tryz.prog h92 9 b92 = true := by kernel_rfl
theorem e92 {lo : Nat} {args : List V} {h : Heap} (ha : args.length ≤ 9) (hb : args.all bare = true) :
  E lo 92 args h = fin Tryz.prog [.tmp 4] h.length (evCode ⟨Tryz.prog, E, lo, h.length, h92⟩ loopW b92 (args0 args, h)) :=
 ev_body rfl Tryz.func92 rfl Tryz.ntmps92 (by kernel_rfl) rfl c92 rfl ha hb
noncomputable def b93 : Code := bodyOf Tryz.f93
theorem c93 : codeOk Tryz.prog h93 10 b93 = true := by kernel_rfl
theorem e93 {lo : Nat} {args : List V} {h : Heap} (ha : args.length ≤ 10) (hb : args.all bare = true) :
  E lo 93 args h = fin Tryz.prog [.tmp 2] h.length (evCode ⟨Tryz.prog, E, lo, h.length, h93⟩ loopW b93 (args0 args, h)) :=
 ev_body rfl Tryz.func93 rfl Tryz.ntmps93 (by kernel_rfl) rfl c93 rfl ha hb
noncomputable def b95 : Code := bodyOf Tryz.f95
noncomputable def l95x0 : Code := loopAt b95 0
theorem c95 : codeOk Tryz.prog h95 23 b95 = true := by kernel_rfl
theorem e95 {lo : Nat} {args : List V} {h : Heap} (ha : args.length ≤ 23) (hb : args.all bare = true) :
  E lo 95 args h = fin Tryz.prog [.tmp 2, .tmp 3, .tmp 4] h.length (evCode ⟨Tryz.prog, E, lo, h.length, h95⟩ loopW b95 (args0 args, h)) :=
 ev_body rfl Tryz.func95 rfl Tryz.ntmps95 (by kernel_rfl) rfl c95 rfl ha hb
noncomputable def b96 : Code := bodyOf Tryz.f96
theorem c96 : codeOk Tryz.prog h96 10 b96 = true := by kernel_rfl
theorem e96 {lo : Nat} {args : List V} {h : Heap} (ha : args.length ≤ 10) (hb : args.all bare = true) :
  E lo 96 args h = fin Tryz.prog [.tmp 2] h.length (evCode ⟨Tryz.prog, E, lo, h.length, h96⟩ loopW b96 (args0 args, h)) :=
 ev_body rfl Tryz.func96 rfl Tryz.ntmps96 (by kernel_rfl) rfl c96 rfl ha hb
noncomputable def b97 : Code := bodyOf Tryz.f97
noncomputable def l97x0 : Code := loopAt b97 0
theorem c97 : codeOk Tryz.prog h97 20 b97 = true := by kernel_rfl
theorem e97 {lo : Nat} {args : List V} {h : Heap} (ha : args.length ≤ 20) (hb : args.all bare = true) :
  E lo 97 args h = fin Tryz.prog [.tmp 2] h.length (evCode ⟨Tryz.prog, E, lo, h.length, h97⟩ loopW b97 (args0 args, h)) :=
 ev_body rfl Tryz.func97 rfl Tryz.ntmps97 (by kernel_rfl) rfl c97 rfl ha hb
noncomputable def b98 : Code := bodyOf Tryz.f98
theorem c98 : codeOk Tryz.prog h98 37 b98 = true := by kernel_rfl
theorem e98 {lo : Nat} {args : List V} {h : Heap} (ha : args.length ≤ 37) (hb : args.all bare = true) :
  E lo 98 args h = fin Tryz.prog [.tmp 4] h.length (evCode ⟨Tryz.prog, E, lo, h.length, h98⟩ loopW b98 (args0 args, h)) :=
 ev_body rfl Tryz.func98 rfl Tryz.ntmps98 (by kernel_rfl) rfl c98 rfl ha hb
noncomputable def b99 : Code := bodyOf Tryz.f99
theorem c99 : codeOk Tryz.prog h99 8 b99 = true := by kernel_rfl
theorem e99 {lo : Nat} {args : List V} {h : Heap} (ha : args.length ≤ 8) (hb : args.all bare = true) :
  E lo 99 args h = fin Tryz.prog [.tmp 4] h.length (evCode ⟨Tryz.prog, E, lo, h.length, h99⟩ loopW b99 (args0 args, h)) :=
 ev_body rfl Tryz.func99 rfl Tryz.ntmps99 (by kernel_rfl) rfl c99 rfl ha hb
noncomputable def b109 : Code := bodyOf Tryz.f109
noncomputable def l109x0 : Code := loopAt b109 0
theorem c109 : codeOk Tryz.prog h109 40 b109 = true := by kernel_rfl
theorem e109 {lo : Nat} {args : List V} {h : Heap} (ha : args.length ≤ 40) (hb : args.all bare = true) :
  E lo 109 args h = fin Tryz.prog [.tmp 2] h.length (evCode ⟨Tryz.prog, E, lo, h.length, h109⟩ loopW b109 (args0 args, h)) :=
 ev_body rfl Tryz.func109 rfl Tryz.ntmps109 (by kernel_rfl) rfl c109 rfl ha hb
noncomputable def b110 : Code := bodyOf Tryz.f110
noncomputable def l110x0 : Code := loopAt b110 0
theorem c110 : codeOk Tryz.prog h110 50 b110 = true := by kernel_rfl
/- a method -/
theorem e110 {lo : Nat} {args : List V} {h : Heap} (ha : args.length ≤ 50) (hb : args.all bare = true) :
  E lo 110 args h = fin Tryz.prog [.tmp 2] h.length (evCode ⟨Tryz.prog, E, lo, h.length, h110⟩ loopW b110 (args0 args, h)) :=
 ev_body rfl Tryz.func110 rfl Tryz.ntmps110 (by kernel_rfl) rfl c110 rfl ha hb
noncomputable def b111 : Code := bodyOf Tryz.f111
noncomputable def l111x0 : Code := loopAt b111 0
theorem c111 : codeOk Tryz.prog h111 15 b111 = true := by kernel_rfl
/- a method -/
theorem e111 {lo : Nat} {args : List V} {h : Heap} (ha : args.length ≤ 15) (hb : args.all bare = true) :
  E lo 111 args h = fin Tryz.prog [] h.length (evCode ⟨Tryz.prog, E, lo, h.length, h111⟩ loopW b111 (args0 args, h)) :=
 ev_body rfl Tryz.func111 rfl Tryz.ntmps111 (by kernel_rfl) rfl c111 rfl ha hb
noncomputable def b112 : Code := bodyOf Tryz.f112
noncomputable def l112x0 : Code := loopAt b112 0
theorem c112 : codeOk Tryz.prog h112 67 b112 = true := by kernel_rfl
theorem e112 {lo : Nat} {args : List V} {h : Heap} (ha : args.length ≤ 67) (hb : args.all bare = true) :
  E lo 112 args h = fin Tryz.prog [.cell 2 32, .tmp 3, .tmp 4] h.length (evCode ⟨Tryz.prog, E, lo, h.length, h112⟩ loopW b112 (args0 args, h)) :=
 ev_body rfl Tryz.func112 rfl Tryz.ntmps112 (by kernel_rfl) rfl c112 rfl ha hb
noncomputable def b113 : Code := bodyOf Tryz.f113
theorem c113 : codeOk Tryz.prog h113 25 b113 = true := by kernel_rfl
theorem e113 {lo : Nat} {args : List V} {h : Heap} (ha : args.length ≤ 25) (hb : args.all bare = true) :
  E lo 113 args h = fin Tryz.prog [.tmp 2] h.length (evCode ⟨Tryz.prog, E, lo, h.length, h113⟩ loopW b113 (args0 args, h)) :=
 ev_body rfl Tryz.func113 rfl Tryz.ntmps113 (by kernel_rfl) rfl c113 rfl ha hb
noncomputable def b114 : Code := bodyOf Tryz.f114
theorem c114 : codeOk Tryz.prog h114 9 b114 = true := by kernel_rfl
theorem e114 {lo : Nat} {args : List V} {h : Heap} (ha : args.length ≤ 9) (hb : args.all bare = true) :
  E lo 114 args h = fin Tryz.prog [.tmp 4] h.length (evCode ⟨Tryz.prog, E, lo, h.length, h114⟩ loopW b114 (args0 args, h)) :=
 ev_body rfl Tryz.func114 rfl Tryz.ntmps114 (by kernel_rfl) rfl c114 rfl ha hb
noncomputable def b115 : Code := bodyOf Tryz.f115
noncomputable def l115x0 : Code := loopAt b115 0
theorem c115 : codeOk Tryz.prog h115 95 b115 = true := by kernel_rfl
/- a method -/
theorem e115 {lo : Nat} {args : List V} {h : Heap} (ha : args.length ≤ 95) (hb : args.all bare = true) :
  E lo 115 args h = fin Tryz.prog [.cell 2 34] h.length (evCode ⟨Tryz.prog, E, lo, h.length, h115⟩ loopW b115 (args0 args, h)) :=
 ev_body rfl Tryz.func115 rfl Tryz.ntmps115 (by kernel_rfl) rfl c115 rfl ha hb
noncomputable def b123 : Code := bodyOf Tryz.f123
noncomputable def l123x0 : Code := loopAt b123 0
theorem c123 : codeOk Tryz.prog h123 101 b123 = true := by kernel_rfl
theorem e123 {lo : Nat} {args : List V} {h : Heap} (ha : args.length ≤ 101) (hb : args.all bare = true) :
  E lo 123 args h = fin Tryz.prog [.tmp 2, .tmp 3] h.length (evCode ⟨Tryz.prog, E, lo, h.length, h123⟩ loopW b123 (args0 args, h)) :=
 ev_body rfl Tryz.func123 rfl Tryz.ntmps123 (by kernel_rfl) rfl c123 rfl ha hb
noncomputable def b125 : Code := bodyOf Tryz.f125
theorem c125 : codeOk Tryz.prog h125 18 b125 = true := by kernel_rfl
theorem e125 {lo : Nat} {args : List V} {h : Heap} (ha : args.length ≤ 18) (hb : args.all bare = true) :
  E lo 125 args h = fin Tryz.prog [.tmp 4] h.length (evCode ⟨Tryz.prog, E, lo, h.length, h125⟩ loopW b125 (args0 args, h)) :=
 ev_body rfl Tryz.func125 rfl Tryz.ntmps125 (by kernel_rfl) rfl c125 rfl ha hb
noncomputable def b126 : Code := bodyOf Tryz.f126
theorem c126 : codeOk Tryz.prog h126 16 b126 = true := by kernel_rfl
theorem e126 {lo : Nat} {args : List V} {h : Heap} (ha : args.length ≤ 16) (hb : args.all bare = true) :
  E lo 126 args h = fin Tryz.prog [.tmp 4] h.length (evCode ⟨Tryz.prog, E, lo, h.length, h126⟩ loopW b126 (args0 args, h)) :=
 ev_body rfl Tryz.func126 rfl Tryz.ntmps126 (by kernel_rfl) rfl c126 rfl ha hb
noncomputable def b127 : Code := bodyOf Tryz.f127
theorem c127 : codeOk Tryz.prog h127 8 b127 = true := by kernel_rfl
theorem e127 {lo : Nat} {args : List V} {h : Heap} (ha : args.length ≤ 8) (hb : args.all bare = true) :
  E lo 127 args h = fin Tryz.prog [.tmp 4] h.length (evCode ⟨Tryz.prog, E, lo, h.length, h127⟩ loopW b127 (args0 args, h)) :=
 ev_body rfl Tryz.func127 rfl Tryz.ntmps127 (by kernel_rfl) rfl c127 rfl ha hb
noncomputable def b128 : Code := bodyOf Tryz.f128
theorem c128 : codeOk Tryz.prog h128 21 b128 = true := by kernel_rfl
theorem e128 {lo : Nat} {args : List V} {h : Heap} (ha : args.length ≤ 21) (hb : args.all bare = true) :
  E lo 128 args h = fin Tryz.prog [.tmp 2] h.length (evCode ⟨Tryz.prog, E, lo, h.length, h128⟩ loopW b128 (args0 args, h)) :=
 ev_body rfl Tryz.func128 rfl Tryz.ntmps128 (by kernel_rfl) rfl c128 rfl ha hb
noncomputable def b133 : Code := bodyOf Tryz.f133
noncomputable def l133x0 : Code := loopAt b133 0
theorem c133 : codeOk Tryz.prog h133 23 b133 = true := by kernel_rfl
theorem e133 {lo : Nat} {args : List V} {h : Heap} (ha : args.length ≤ 23) (hb : args.all bare = true) :
  E lo 133 args h = fin Tryz.prog [.tmp 4] h.length (evCode ⟨Tryz.prog, E, lo, h.length, h133⟩ loopW b133 (args0 args, h)) :=
 ev_body rfl Tryz.func133 rfl Tryz.ntmps133 (by kernel_rfl) rfl c133 rfl ha hb
noncomputable def b137 : Code := bodyOf Tryz.f137
theorem c137 : codeOk Tryz.prog h137 13 b137 = true := by kernel_rfl
theorem e137 {lo : Nat} {args : List V} {h : Heap} (ha : args.length ≤ 13) (hb : args.all bare = true) :
  E lo 137 args h = fin Tryz.prog [.tmp 4] h.length (evCode ⟨Tryz.prog, E, lo, h.length, h137⟩ loopW b137 (args0 args, h)) :=
 ev_body rfl Tryz.func137 rfl Tryz.ntmps137 (by kernel_rfl) rfl c137 rfl ha hb
noncomputable def b142 : Code := bodyOf Tryz.f142
theorem c142 : codeOk Tryz.prog h142 28 b142 = true := by kernel_rfl
theorem e142 {lo : Nat} {args : List V} {h : Heap} (ha : args.length ≤ 28) (hb : args.all bare = true) :
  E lo 142 args h = fin Tryz.prog [.tmp 2] h.length (evCode ⟨Tryz.prog, E, lo, h.length, h142⟩ loopW b142 (args0 args, h)) :=
 ev_body rfl Tryz.func142 rfl Tryz.ntmps142 (by kernel_rfl) rfl c142 rfl ha hb
noncomputable def b143 : Code := bodyOf Tryz.f143
noncomputable def l143x0 : Code := loopAt b143 0
theorem c143 : codeOk Tryz.prog h143 135 b143 = true := by kernel_rfl
theorem e143 {lo : Nat} {args : List V} {h : Heap} (ha : args.length ≤ 135) (hb : args.all bare = true) :
  E lo 143 args h = fin Tryz.prog [.cell 2 127, .tmp 3] h.length (evCode ⟨Tryz.prog, E, lo, h.length, h143⟩ loopW b143 (args0 args, h)) :=
 ev_body rfl Tryz.func143 rfl Tryz.ntmps143 (by kernel_rfl) rfl c143 rfl ha hb
noncomputable def b144 : Code := bodyOf Tryz.f144
theorem c144 : codeOk Tryz.prog h144 37 b144 = true := by kernel_rfl
theorem e144 {lo : Nat} {args : List V} {h : Heap} (ha : args.length ≤ 37) (hb : args.all bare = true) :
  E lo 144 args h = fin Tryz.prog [.tmp 4] h.length (evCode ⟨Tryz.prog, E, lo, h.length, h144⟩ loopW b144 (args0 args, h)) :=
 ev_body rfl Tryz.func144 rfl Tryz.ntmps144 (by kernel_rfl) rfl c144 rfl ha hb
noncomputable def b145 : Code := bodyOf Tryz.f145
noncomputable def l145x0 : Code := loopAt b145 0
noncomputable def l145x1 : Code := loopAt b145 1
noncomputable def l145x2 : Code := loopAt b145 2
theorem c145 : codeOk Tryz.prog h145 58 b145 = true := by kernel_rfl
theorem e145 {lo : Nat} {args : List V} {h : Heap} (ha : args.length ≤ 58) (hb : args.all bare = true) :
  E lo 145 args h = fin Tryz.prog [.cell 6 32] h.length (evCode ⟨Tryz.prog, E, lo, h.length, h145⟩ loopW b145 (args0 args, h)) :=
 ev_body rfl Tryz.func145 rfl Tryz.ntmps145 (by kernel_rfl) rfl c145 rfl ha hb
noncomputable def b147 : Code := bodyOf Tryz.f147
theorem c147 : codeOk Tryz.prog h147 13 b147 = true := by kernel_rfl
/- a method -/
theorem e147 {lo : Nat} {args : List V} {h : Heap} (ha : args.length ≤ 13) (hb : args.all bare = true) :
  E lo 147 args h = fin Tryz.prog [.tmp 2] h.length (evCode ⟨Tryz.prog, E, lo, h.length, h147⟩ loopW b147 (args0 args, h)) :=
 ev_body rfl Tryz.func147 rfl Tryz.ntmps147 (by kernel_rfl) rfl c147 rfl ha hb
noncomputable def b148 : Code := bodyOf Tryz.f148
theorem c148 : codeOk Tryz.prog h148 21 b148 = true := by kernel_rfl
/- a method -/
theorem e148 {lo : Nat} {args : List V} {h : Heap} (ha : args.length ≤ 21) (hb : args.all bare = true) :
  E lo 148 args h = fin Tryz.prog [.cell 2 34] h.length (evCode ⟨Tryz.prog, E, lo, h.length, h148⟩ loopW b148 (args0 args, h)) :=
 ev_body rfl Tryz.func148 rfl Tryz.ntmps148 (by kernel_rfl) rfl c148 rfl ha hb
noncomputable def b149 : Code := bodyOf Tryz.f149
noncomputable def l149x0 : Code := loopAt b149 0
theorem c149 : codeOk Tryz.prog h149 53 b149 = true := by kernel_rfl
/- a method -/
theorem e149 {lo : Nat} {args : List V} {h : Heap} (ha : args.length ≤ 53) (hb : args.all bare = true) :
  E lo 149 args h = fin Tryz.prog [.cell 2 34] h.length (evCode ⟨Tryz.prog, E, lo, h.length, h149⟩ loopW b149 (args0 args, h)) :=
 ev_body rfl Tryz.func149 rfl Tryz.ntmps149 (by kernel_rfl) rfl c149 rfl ha hb
noncomputable def b150 : Code := bodyOf Tryz.f150
theorem c150 : codeOk Tryz.prog h150 25 b150 = true := by kernel_rfl
theorem e150 {lo : Nat} {args : List V} {h : Heap} (ha : args.length ≤ 25) (hb : args.all bare = true) :
  E lo 150 args h = fin Tryz.prog [.tmp 2] h.length (evCode ⟨Tryz.prog, E, lo, h.length, h150⟩ loopW b150 (args0 args, h)) :=
 ev_body rfl Tryz.func150 rfl Tryz.ntmps150 (by kernel_rfl) rfl c150 rfl ha hb
noncomputable def b158 : Code := bodyOf Tryz.f158
theorem c158 : codeOk Tryz.prog h158 78 b158 = true := by kernel_rfl
theorem e158 {lo : Nat} {args : List V} {h : Heap} (ha : args.length ≤ 78) (hb : args.all bare = true) :
  E lo 158 args h = fin Tryz.prog [.tmp 4] h.length (evCode ⟨Tryz.prog, E, lo, h.length, h158⟩ loopW b158 (args0 args, h)) :=
 ev_body rfl Tryz.func158 rfl Tryz.ntmps158 (by kernel_rfl) rfl c158 rfl ha hb
noncomputable def b160 : Code := bodyOf Tryz.f160
noncomputable def l160x0 : Code := loopAt b160 0
theorem c160 : codeOk Tryz.prog h160 12 b160 = true := by kernel_rfl
theorem e160 {lo : Nat} {args : List V} {h : Heap} (ha : args.length ≤ 12) (hb : args.all bare = true) :
  E lo 160 args h = fin Tryz.prog [.tmp 4] h.length (evCode ⟨Tryz.prog, E, lo, h.length, h160⟩ loopW b160 (args0 args, h)) :=
 ev_body rfl Tryz.func160 rfl Tryz.ntmps160 (by kernel_rfl) rfl c160 rfl ha hb
noncomputable def b172 : Code := bodyOf Tryz.f172
noncomputable def l172x0 : Code := loopAt b172 0
theorem c172 : codeOk Tryz.prog h172 23 b172 = true := by kernel_rfl
theorem e172 {lo : Nat} {args : List V} {h : Heap} (ha : args.length ≤ 23) (hb : args.all bare = true) :
  E lo 172 args h = fin Tryz.prog [.tmp 2] h.length (evCode ⟨Tryz.prog, E, lo, h.length, h172⟩ loopW b172 (args0 args, h)) :=
 ev_body rfl Tryz.func172 rfl Tryz.ntmps172 (by kernel_rfl) rfl c172 rfl ha hb
noncomputable def b173 : Code := bodyOf Tryz.f173
noncomputable def l173x0 : Code := loopAt b173 0
theorem c173 : codeOk Tryz.prog h173 17 b173 = true := by kernel_rfl
theorem e173 {lo : Nat} {args : List V} {h : Heap} (ha : args.length ≤ 17) (hb : args.all bare = true) :
  E lo 173 args h = fin Tryz.prog [.tmp 4] h.length (evCode ⟨Tryz.prog, E, lo, h.length, h173⟩ loopW b173 (args0 args, h)) :=
 ev_body rfl Tryz.func173 rfl Tryz.ntmps173 (by kernel_rfl) rfl c173 rfl ha hb
noncomputable def b176 : Code := bodyOf Tryz.f176
theorem c176 : codeOk Tryz.prog h176 30 b176 = true := by kernel_rfl
theorem e176 {lo : Nat} {args : List V} {h : Heap} (ha : args.length ≤ 30) (hb : args.all bare = true) :
  E lo 176 args h = fin Tryz.prog [.cell 6 32] h.length (evCode ⟨Tryz.prog, E, lo, h.length, h176⟩ loopW b176 (args0 args, h)) :=
 ev_body rfl Tryz.func176 rfl Tryz.ntmps176 (by kernel_rfl) rfl c176 rfl ha hb
end Go.Lift.R4
