/- Facts of the program that the evaluation asks for, written by a program. -/
import Derived.Test.YtnfdhgadidacaaaGreatDoorRows
import Derived.Lib.MapLaws
import Derived.Lib.DecodeN
import Derived.Lib.TrailingZeros
import Derived.Lib.ItoaNum
import Derived.Lib.Repeat
import Derived.Lib.Bytealg
import Derived.Lib.Index
import Derived.Test.YtnfdhgadidacaaaGreatDoorTa
/- Facts of the program that the evaluation asks for: the live slots of each function, its types. Written by a program (gen.py). -/
namespace Go.Lift.R4
set_option linter.unusedVariables false
set_option linter.unusedSimpArgs false
set_option linter.unusedSectionVars false
open Go.Proofs
set_option maxRecDepth 20000

/-- what internal/bytealg.MaxLen holds -/
class MX where
  m : Int
/-- what the package-level variables hold: math/bits.deBruijn64tab, internal/bytealg.MaxLen (whatever number it is), internal/strconv.uint64pow10, unicode/utf8.first, unicode/utf8.acceptRanges -/
instance gtab [MX] : GTab := ⟨fun n => match n with | 1 => some (Go.Lib.deBruijn64tab.map fun c : Nat => .v (.int .u8 (c : Int))) | 2 => some [.v (.int .i64 MX.m)] | 3 => some (Go.Lib.pow10Tab.map fun c => .v (.int .u64 c)) | 4 => some ((List.range 256).map fun c => .v (.int .u8 (Go.Lib.firstT c))) | 5 => some ((List.range 16).flatMap fun i => [.v (.int .u8 (Go.Lib.accLo i)), .v (.int .u8 (Go.Lib.accHi i))]) | _ => none⟩
/-- where a byte stands in a text -/
noncomputable def idxP (lo : Nat) (args : List V) (h : Heap) : Option (V × Heap) := match args with
  | [.v (.string s), .v (.int .u8 c)] => some (.v (.int .i64 (Go.Lib.indexByte s.data.toList c.toNat.toUInt8)), h)
  | _ => none
/-- where a text stands in a text -/
noncomputable def ixP (lo : Nat) (args : List V) (h : Heap) : Option (V × Heap) := match args with
  | [.v (.string s), .v (.string t)] => match t.data.toList with
    | [c] => some (.v (.int .i64 (Go.Lib.indexByte s.data.toList c)), h)
    | _ => if s.size < 4294967281 then some (.v (.int .i64 (Go.Lib.index s.data.toList t.data.toList)), h) else none
  | _ => none
/-- how many zeros end a number's bits -/
noncomputable def ctzP (lo : Nat) (args : List V) (h : Heap) : Option (V × Heap) := match args with
  | [.v (.int .u64 x)] => if 0 ≤ x ∧ x < 18446744073709551616 then some (.v (.int .i64 (Go.Lib.ctz 64 x.toNat)), h) else none
  | _ => none
/-- a byte, so many times -/
noncomputable def repP (lo : Nat) (args : List V) (h : Heap) : Option (V × Heap) := match args with
  | [.v (.string s), .v (.int .i64 n)] => if s.size = 1 ∧ 0 ≤ n ∧ n ≤ 1000000 then some (.v (.string ⟨(Go.Lib.repeatL s.data.toList n.toNat).toArray⟩), h) else none
  | _ => none
/-- a number in decimal digits -/
noncomputable def fmtP (lo : Nat) (args : List V) (h : Heap) : Option (V × Heap) := match args with
  | [.v (.int .u64 x), .v (.int .i64 b)] => if b = 10 ∧ 0 ≤ x ∧ x < 18446744073709551616 then some (.v (.string ⟨(Go.Lib.decDigits x.toNat).toArray⟩), h) else none
  | _ => none
/-- the numbers of a row of bytes -/
def rowsInts : List (List V) → Option (List Int)
  | [] => some []
  | [.v (.int .u8 n)] :: l => (rowsInts l).map (n :: ·)
  | _ => none
/-- a builder's first cell: never written, or its own address -/
def okP (i : Nat) : V → Bool
  | .v (.pointer none) => true
  | .ptr j 0 => j == i
  | _ => false
/-- (*strings.Builder).copyCheck -/
noncomputable def ccP (lo : Nat) (args : List V) (h : Heap) : Option (V × Heap) := match args with
  | [.ptr i 0] => match h[i]? with
    | some (.cells [p0, x]) => if lo ≤ i ∧ okP i p0 = true then some (.tup [], Lift.setOb h i [.ptr i 0, x]) else none
    | _ => none
  | _ => none
/-- (*strings.Builder).WriteRune -/
noncomputable def wrP (lo : Nat) (args : List V) (h : Heap) : Option (V × Heap) := match args with
  | [.ptr i 0, .v (.int .i32 r)] => match h[i]? with
    | some (.cells [p0, .list .yes rows]) => match rowsInts rows with
      | some out => if lo ≤ i ∧ okP i p0 = true ∧ -2147483648 ≤ r ∧ r ≤ 2147483647 ∧ out.length ≤ 1000000000 then
          some (.tup [.v (.int .i64 ((Utf.enc (Utf.scal r)).length : Nat)), .v .nilIface], Lift.setOb h i [.ptr i 0, .list .yes (ri .u8 (out ++ Utf.enc (Utf.scal r)))]) else none
      | none => none
    | _ => none
  | _ => none
/-- (*strings.Builder).String -/
noncomputable def stP (lo : Nat) (args : List V) (h : Heap) : Option (V × Heap) := match args with
  | [.ptr i 0] => match h[i]? with
    | some (.cells [p0, .list .yes rows]) => match rowsInts rows with
      | some out => if lo ≤ i ∧ (out.all fun c => decide (0 ≤ c) && decide (c ≤ 255)) = true ∧ out.length ≤ 1000000000 then some (.v (.string ⟨(u8s out).toArray⟩), Lift.setOb h i [p0, .list .no rows]) else none
      | none => none
    | _ => none
  | _ => none
noncomputable def primz : Nat → Option (Nat → List V → Heap → Option (V × Heap)) := fun n => match n with | 182 => some idxP | 132 => some ctzP | 94 => some repP | 104 => some fmtP | 108 => some ccP | 90 => some wrP | 49 => some stP | 159 => some ixP | _ => none
/-- a strings.Builder -/
instance bty : BTy := ⟨some 64, some 5⟩
@[go_sem] theorem bt_eq : BTy.bt = some 64 := rfl
@[go_sem] theorem bt_self : ((64 : TypeId) == 64) = true := rfl
@[go_sem] theorem bb_eq : BTy.bb = some 5 := rfl
@[go_sem] theorem bb_self : ((5 : TypeId) == 5) = true := rfl
attribute [go_sem] Tryz.underlying2
@[go_sem] theorem z2 : tsize Tryz.prog 2 = 1 := by kernel_rfl
@[go_sem] theorem k2 : ttag Tryz.prog 2 = some false := by kernel_rfl
@[go_sem] theorem y2 : Tryz.prog.bytesOf 2 = 8 := by kernel_rfl
@[go_sem] theorem s2 : isStr Tryz.prog 2 = false := by kernel_rfl
@[go_sem] theorem j2 : isI32 Tryz.prog 2 = false := by kernel_rfl
@[go_sem] theorem w2 : isU8 Tryz.prog 2 = false := by kernel_rfl
@[go_sem] theorem o2 : tzero Tryz.prog 2 = some [.int .i64 0] := by kernel_rfl
@[go_sem] theorem i2 : (Tryz.prog.info? 2).isSome = true := by kernel_rfl
attribute [go_sem] Tryz.underlying3
@[go_sem] theorem z3 : tsize Tryz.prog 3 = 1 := by kernel_rfl
@[go_sem] theorem k3 : ttag Tryz.prog 3 = some false := by kernel_rfl
@[go_sem] theorem y3 : Tryz.prog.bytesOf 3 = 8 := by kernel_rfl
@[go_sem] theorem s3 : isStr Tryz.prog 3 = false := by kernel_rfl
@[go_sem] theorem j3 : isI32 Tryz.prog 3 = false := by kernel_rfl
@[go_sem] theorem w3 : isU8 Tryz.prog 3 = false := by kernel_rfl
@[go_sem] theorem o3 : tzero Tryz.prog 3 = some [.int .i64 0] := by kernel_rfl
@[go_sem] theorem i3 : (Tryz.prog.info? 3).isSome = true := by kernel_rfl
attribute [go_sem] Tryz.underlying4
@[go_sem] theorem z4 : tsize Tryz.prog 4 = 1 := by kernel_rfl
@[go_sem] theorem k4 : ttag Tryz.prog 4 = some false := by kernel_rfl
@[go_sem] theorem y4 : Tryz.prog.bytesOf 4 = 1 := by kernel_rfl
@[go_sem] theorem s4 : isStr Tryz.prog 4 = false := by kernel_rfl
@[go_sem] theorem j4 : isI32 Tryz.prog 4 = false := by kernel_rfl
@[go_sem] theorem w4 : isU8 Tryz.prog 4 = false := by kernel_rfl
@[go_sem] theorem o4 : tzero Tryz.prog 4 = some [.bool false] := by kernel_rfl
@[go_sem] theorem i4 : (Tryz.prog.info? 4).isSome = true := by kernel_rfl
attribute [go_sem] Tryz.underlying5
@[go_sem] theorem z5 : tsize Tryz.prog 5 = 1 := by kernel_rfl
@[go_sem] theorem k5 : ttag Tryz.prog 5 = some false := by kernel_rfl
@[go_sem] theorem y5 : Tryz.prog.bytesOf 5 = 1 := by kernel_rfl
@[go_sem] theorem s5 : isStr Tryz.prog 5 = false := by kernel_rfl
@[go_sem] theorem j5 : isI32 Tryz.prog 5 = false := by kernel_rfl
@[go_sem] theorem w5 : isU8 Tryz.prog 5 = true := by kernel_rfl
@[go_sem] theorem o5 : tzero Tryz.prog 5 = some [.int .u8 0] := by kernel_rfl
@[go_sem] theorem i5 : (Tryz.prog.info? 5).isSome = true := by kernel_rfl
attribute [go_sem] Tryz.underlying9
@[go_sem] theorem z9 : tsize Tryz.prog 9 = 1 := by kernel_rfl
@[go_sem] theorem k9 : ttag Tryz.prog 9 = some false := by kernel_rfl
@[go_sem] theorem y9 : Tryz.prog.bytesOf 9 = 16 := by kernel_rfl
@[go_sem] theorem s9 : isStr Tryz.prog 9 = true := by kernel_rfl
@[go_sem] theorem j9 : isI32 Tryz.prog 9 = false := by kernel_rfl
@[go_sem] theorem w9 : isU8 Tryz.prog 9 = false := by kernel_rfl
@[go_sem] theorem o9 : tzero Tryz.prog 9 = some [.string ByteArray.empty] := by kernel_rfl
@[go_sem] theorem i9 : (Tryz.prog.info? 9).isSome = true := by kernel_rfl
attribute [go_sem] Tryz.underlying21
@[go_sem] theorem z21 : tsize Tryz.prog 21 = 1 := by kernel_rfl
@[go_sem] theorem k21 : ttag Tryz.prog 21 = some false := by kernel_rfl
@[go_sem] theorem y21 : Tryz.prog.bytesOf 21 = 4 := by kernel_rfl
@[go_sem] theorem s21 : isStr Tryz.prog 21 = false := by kernel_rfl
@[go_sem] theorem j21 : isI32 Tryz.prog 21 = true := by kernel_rfl
@[go_sem] theorem w21 : isU8 Tryz.prog 21 = false := by kernel_rfl
@[go_sem] theorem o21 : tzero Tryz.prog 21 = some [.int .i32 0] := by kernel_rfl
@[go_sem] theorem i21 : (Tryz.prog.info? 21).isSome = true := by kernel_rfl
attribute [go_sem] Tryz.underlying22
@[go_sem] theorem z22 : tsize Tryz.prog 22 = 1 := by kernel_rfl
@[go_sem] theorem k22 : ttag Tryz.prog 22 = some false := by kernel_rfl
@[go_sem] theorem y22 : Tryz.prog.bytesOf 22 = 24 := by kernel_rfl
@[go_sem] theorem s22 : isStr Tryz.prog 22 = false := by kernel_rfl
@[go_sem] theorem j22 : isI32 Tryz.prog 22 = false := by kernel_rfl
@[go_sem] theorem w22 : isU8 Tryz.prog 22 = false := by kernel_rfl
@[go_sem] theorem o22 : tzero Tryz.prog 22 = some [.slice none 0 0] := by kernel_rfl
@[go_sem] theorem i22 : (Tryz.prog.info? 22).isSome = true := by kernel_rfl
attribute [go_sem] Tryz.underlying24
@[go_sem] theorem z24 : tsize Tryz.prog 24 = 1 := by kernel_rfl
@[go_sem] theorem k24 : ttag Tryz.prog 24 = some false := by kernel_rfl
@[go_sem] theorem y24 : Tryz.prog.bytesOf 24 = 24 := by kernel_rfl
@[go_sem] theorem s24 : isStr Tryz.prog 24 = false := by kernel_rfl
@[go_sem] theorem j24 : isI32 Tryz.prog 24 = false := by kernel_rfl
@[go_sem] theorem w24 : isU8 Tryz.prog 24 = false := by kernel_rfl
@[go_sem] theorem o24 : tzero Tryz.prog 24 = some [.slice none 0 0] := by kernel_rfl
@[go_sem] theorem i24 : (Tryz.prog.info? 24).isSome = true := by kernel_rfl
attribute [go_sem] Tryz.underlying28
@[go_sem] theorem z28 : tsize Tryz.prog 28 = 1 := by kernel_rfl
@[go_sem] theorem k28 : ttag Tryz.prog 28 = some false := by kernel_rfl
@[go_sem] theorem y28 : Tryz.prog.bytesOf 28 = 24 := by kernel_rfl
@[go_sem] theorem s28 : isStr Tryz.prog 28 = false := by kernel_rfl
@[go_sem] theorem j28 : isI32 Tryz.prog 28 = false := by kernel_rfl
@[go_sem] theorem w28 : isU8 Tryz.prog 28 = false := by kernel_rfl
@[go_sem] theorem o28 : tzero Tryz.prog 28 = some [.slice none 0 0] := by kernel_rfl
@[go_sem] theorem i28 : (Tryz.prog.info? 28).isSome = true := by kernel_rfl
attribute [go_sem] Tryz.underlying32
@[go_sem] theorem z32 : tsize Tryz.prog 32 = 2 := by kernel_rfl
@[go_sem] theorem k32 : ttag Tryz.prog 32 = some true := by kernel_rfl
@[go_sem] theorem y32 : Tryz.prog.bytesOf 32 = 16 := by kernel_rfl
@[go_sem] theorem s32 : isStr Tryz.prog 32 = false := by kernel_rfl
@[go_sem] theorem j32 : isI32 Tryz.prog 32 = false := by kernel_rfl
@[go_sem] theorem w32 : isU8 Tryz.prog 32 = false := by kernel_rfl
@[go_sem] theorem o32 : tzero Tryz.prog 32 = some [.int .i64 0, .int .i64 0] := by kernel_rfl
@[go_sem] theorem i32 : (Tryz.prog.info? 32).isSome = true := by kernel_rfl
@[go_sem] theorem x32 : structOk Tryz.prog 32 = true := by kernel_rfl
@[go_sem] theorem g32x0 : fieldOff Tryz.prog 32 0 = some (0, 2) := by kernel_rfl
@[go_sem] theorem g32x1 : fieldOff Tryz.prog 32 1 = some (1, 2) := by kernel_rfl
attribute [go_sem] Tryz.underlying34
@[go_sem] theorem z34 : tsize Tryz.prog 34 = 6 := by kernel_rfl
@[go_sem] theorem k34 : ttag Tryz.prog 34 = some true := by kernel_rfl
@[go_sem] theorem y34 : Tryz.prog.bytesOf 34 = 48 := by kernel_rfl
@[go_sem] theorem s34 : isStr Tryz.prog 34 = false := by kernel_rfl
@[go_sem] theorem j34 : isI32 Tryz.prog 34 = false := by kernel_rfl
@[go_sem] theorem w34 : isU8 Tryz.prog 34 = false := by kernel_rfl
@[go_sem] theorem o34 : tzero Tryz.prog 34 = some [.int .i64 0, .string ByteArray.empty, .int .i64 0, .int .i64 0, .bool false, .bool false] := by kernel_rfl
@[go_sem] theorem i34 : (Tryz.prog.info? 34).isSome = true := by kernel_rfl
@[go_sem] theorem x34 : structOk Tryz.prog 34 = true := by kernel_rfl
@[go_sem] theorem g34x0 : fieldOff Tryz.prog 34 0 = some (0, 3) := by kernel_rfl
@[go_sem] theorem g34x1 : fieldOff Tryz.prog 34 1 = some (1, 9) := by kernel_rfl
@[go_sem] theorem g34x2 : fieldOff Tryz.prog 34 2 = some (2, 32) := by kernel_rfl
@[go_sem] theorem g34x3 : fieldOff Tryz.prog 34 3 = some (4, 4) := by kernel_rfl
@[go_sem] theorem g34x4 : fieldOff Tryz.prog 34 4 = some (5, 4) := by kernel_rfl
attribute [go_sem] Tryz.underlying35
@[go_sem] theorem z35 : tsize Tryz.prog 35 = 1 := by kernel_rfl
@[go_sem] theorem k35 : ttag Tryz.prog 35 = some false := by kernel_rfl
@[go_sem] theorem y35 : Tryz.prog.bytesOf 35 = 8 := by kernel_rfl
@[go_sem] theorem s35 : isStr Tryz.prog 35 = false := by kernel_rfl
@[go_sem] theorem j35 : isI32 Tryz.prog 35 = false := by kernel_rfl
@[go_sem] theorem w35 : isU8 Tryz.prog 35 = false := by kernel_rfl
@[go_sem] theorem o35 : tzero Tryz.prog 35 = some [.int .i64 0] := by kernel_rfl
@[go_sem] theorem i35 : (Tryz.prog.info? 35).isSome = true := by kernel_rfl
attribute [go_sem] Tryz.underlying61
@[go_sem] theorem z61 : tsize Tryz.prog 61 = 25 := by kernel_rfl
@[go_sem] theorem k61 : ttag Tryz.prog 61 = some true := by kernel_rfl
@[go_sem] theorem y61 : Tryz.prog.bytesOf 61 = 400 := by kernel_rfl
@[go_sem] theorem s61 : isStr Tryz.prog 61 = false := by kernel_rfl
@[go_sem] theorem j61 : isI32 Tryz.prog 61 = false := by kernel_rfl
@[go_sem] theorem w61 : isU8 Tryz.prog 61 = false := by kernel_rfl
@[go_sem] theorem o61 : tzero Tryz.prog 61 = some [.string ByteArray.empty, .string ByteArray.empty, .string ByteArray.empty, .string ByteArray.empty, .string ByteArray.empty, .string ByteArray.empty, .string ByteArray.empty, .string ByteArray.empty, .string ByteArray.empty, .string ByteArray.empty, .string ByteArray.empty, .string ByteArray.empty, .string ByteArray.empty, .string ByteArray.empty, .string ByteArray.empty, .string ByteArray.empty, .string ByteArray.empty, .string ByteArray.empty, .string ByteArray.empty, .string ByteArray.empty, .string ByteArray.empty, .string ByteArray.empty, .string ByteArray.empty, .string ByteArray.empty, .string ByteArray.empty] := by kernel_rfl
@[go_sem] theorem i61 : (Tryz.prog.info? 61).isSome = true := by kernel_rfl
attribute [go_sem] Tryz.underlying62
@[go_sem] theorem z62 : tsize Tryz.prog 62 = 1 := by kernel_rfl
@[go_sem] theorem k62 : ttag Tryz.prog 62 = some false := by kernel_rfl
@[go_sem] theorem y62 : Tryz.prog.bytesOf 62 = 8 := by kernel_rfl
@[go_sem] theorem s62 : isStr Tryz.prog 62 = false := by kernel_rfl
@[go_sem] theorem j62 : isI32 Tryz.prog 62 = false := by kernel_rfl
@[go_sem] theorem w62 : isU8 Tryz.prog 62 = false := by kernel_rfl
@[go_sem] theorem i62 : (Tryz.prog.info? 62).isSome = true := by kernel_rfl
attribute [go_sem] Tryz.underlying64
@[go_sem] theorem z64 : tsize Tryz.prog 64 = 2 := by kernel_rfl
@[go_sem] theorem k64 : ttag Tryz.prog 64 = some true := by kernel_rfl
@[go_sem] theorem y64 : Tryz.prog.bytesOf 64 = 32 := by kernel_rfl
@[go_sem] theorem s64 : isStr Tryz.prog 64 = false := by kernel_rfl
@[go_sem] theorem j64 : isI32 Tryz.prog 64 = false := by kernel_rfl
@[go_sem] theorem w64 : isU8 Tryz.prog 64 = false := by kernel_rfl
@[go_sem] theorem o64 : tzero Tryz.prog 64 = some [.pointer none, .slice none 0 0] := by kernel_rfl
@[go_sem] theorem i64 : (Tryz.prog.info? 64).isSome = true := by kernel_rfl
@[go_sem] theorem x64 : structOk Tryz.prog 64 = true := by kernel_rfl
@[go_sem] theorem g64x0 : fieldOff Tryz.prog 64 0 = some (0, 62) := by kernel_rfl
@[go_sem] theorem g64x1 : fieldOff Tryz.prog 64 1 = some (1, 28) := by kernel_rfl
attribute [go_sem] Tryz.underlying90
@[go_sem] theorem z90 : tsize Tryz.prog 90 = 1 := by kernel_rfl
@[go_sem] theorem k90 : ttag Tryz.prog 90 = some false := by kernel_rfl
@[go_sem] theorem y90 : Tryz.prog.bytesOf 90 = 8 := by kernel_rfl
@[go_sem] theorem s90 : isStr Tryz.prog 90 = false := by kernel_rfl
@[go_sem] theorem j90 : isI32 Tryz.prog 90 = false := by kernel_rfl
@[go_sem] theorem w90 : isU8 Tryz.prog 90 = false := by kernel_rfl
@[go_sem] theorem o90 : tzero Tryz.prog 90 = some [.int .u64 0] := by kernel_rfl
@[go_sem] theorem i90 : (Tryz.prog.info? 90).isSome = true := by kernel_rfl
attribute [go_sem] Tryz.underlying92
@[go_sem] theorem z92 : tsize Tryz.prog 92 = 2 := by kernel_rfl
@[go_sem] theorem k92 : ttag Tryz.prog 92 = some true := by kernel_rfl
@[go_sem] theorem y92 : Tryz.prog.bytesOf 92 = 16 := by kernel_rfl
@[go_sem] theorem s92 : isStr Tryz.prog 92 = false := by kernel_rfl
@[go_sem] theorem j92 : isI32 Tryz.prog 92 = false := by kernel_rfl
@[go_sem] theorem w92 : isU8 Tryz.prog 92 = false := by kernel_rfl
@[go_sem] theorem o92 : tzero Tryz.prog 92 = some [.int .u64 0, .int .u64 0] := by kernel_rfl
@[go_sem] theorem i92 : (Tryz.prog.info? 92).isSome = true := by kernel_rfl
attribute [go_sem] Tryz.underlying93
@[go_sem] theorem z93 : tsize Tryz.prog 93 = 4 := by kernel_rfl
@[go_sem] theorem k93 : ttag Tryz.prog 93 = some true := by kernel_rfl
@[go_sem] theorem y93 : Tryz.prog.bytesOf 93 = 32 := by kernel_rfl
@[go_sem] theorem s93 : isStr Tryz.prog 93 = false := by kernel_rfl
@[go_sem] theorem j93 : isI32 Tryz.prog 93 = false := by kernel_rfl
@[go_sem] theorem w93 : isU8 Tryz.prog 93 = false := by kernel_rfl
@[go_sem] theorem o93 : tzero Tryz.prog 93 = some [.int .u64 0, .int .u64 0, .int .u64 0, .int .u64 0] := by kernel_rfl
@[go_sem] theorem i93 : (Tryz.prog.info? 93).isSome = true := by kernel_rfl
attribute [go_sem] Tryz.underlying96
@[go_sem] theorem z96 : tsize Tryz.prog 96 = 10 := by kernel_rfl
@[go_sem] theorem k96 : ttag Tryz.prog 96 = some true := by kernel_rfl
@[go_sem] theorem y96 : Tryz.prog.bytesOf 96 = 80 := by kernel_rfl
@[go_sem] theorem s96 : isStr Tryz.prog 96 = false := by kernel_rfl
@[go_sem] theorem j96 : isI32 Tryz.prog 96 = false := by kernel_rfl
@[go_sem] theorem w96 : isU8 Tryz.prog 96 = false := by kernel_rfl
@[go_sem] theorem o96 : tzero Tryz.prog 96 = some [.int .i64 0, .int .i64 0, .int .i64 0, .int .i64 0, .int .i64 0, .int .i64 0, .int .i64 0, .int .i64 0, .int .i64 0, .int .i64 0] := by kernel_rfl
@[go_sem] theorem i96 : (Tryz.prog.info? 96).isSome = true := by kernel_rfl
attribute [go_sem] Tryz.underlying101
@[go_sem] theorem z101 : tsize Tryz.prog 101 = 1 := by kernel_rfl
@[go_sem] theorem k101 : ttag Tryz.prog 101 = some false := by kernel_rfl
@[go_sem] theorem y101 : Tryz.prog.bytesOf 101 = 8 := by kernel_rfl
@[go_sem] theorem s101 : isStr Tryz.prog 101 = false := by kernel_rfl
@[go_sem] theorem j101 : isI32 Tryz.prog 101 = false := by kernel_rfl
@[go_sem] theorem w101 : isU8 Tryz.prog 101 = false := by kernel_rfl
@[go_sem] theorem o101 : tzero Tryz.prog 101 = some [.int .u64 0] := by kernel_rfl
@[go_sem] theorem i101 : (Tryz.prog.info? 101).isSome = true := by kernel_rfl
attribute [go_sem] Tryz.underlying113
@[go_sem] theorem z113 : tsize Tryz.prog 113 = 20 := by kernel_rfl
@[go_sem] theorem k113 : ttag Tryz.prog 113 = some true := by kernel_rfl
@[go_sem] theorem y113 : Tryz.prog.bytesOf 113 = 20 := by kernel_rfl
@[go_sem] theorem s113 : isStr Tryz.prog 113 = false := by kernel_rfl
@[go_sem] theorem j113 : isI32 Tryz.prog 113 = false := by kernel_rfl
@[go_sem] theorem w113 : isU8 Tryz.prog 113 = false := by kernel_rfl
@[go_sem] theorem o113 : tzero Tryz.prog 113 = some [.int .u8 0, .int .u8 0, .int .u8 0, .int .u8 0, .int .u8 0, .int .u8 0, .int .u8 0, .int .u8 0, .int .u8 0, .int .u8 0, .int .u8 0, .int .u8 0, .int .u8 0, .int .u8 0, .int .u8 0, .int .u8 0, .int .u8 0, .int .u8 0, .int .u8 0, .int .u8 0] := by kernel_rfl
@[go_sem] theorem i113 : (Tryz.prog.info? 113).isSome = true := by kernel_rfl
attribute [go_sem] Tryz.underlying116
@[go_sem] theorem z116 : tsize Tryz.prog 116 = 256 := by kernel_rfl
@[go_sem] theorem k116 : ttag Tryz.prog 116 = some true := by kernel_rfl
@[go_sem] theorem y116 : Tryz.prog.bytesOf 116 = 256 := by kernel_rfl
@[go_sem] theorem s116 : isStr Tryz.prog 116 = false := by kernel_rfl
@[go_sem] theorem j116 : isI32 Tryz.prog 116 = false := by kernel_rfl
@[go_sem] theorem w116 : isU8 Tryz.prog 116 = false := by kernel_rfl
@[go_sem] theorem o116 : tzero Tryz.prog 116 = some [.bool false, .bool false, .bool false, .bool false, .bool false, .bool false, .bool false, .bool false, .bool false, .bool false, .bool false, .bool false, .bool false, .bool false, .bool false, .bool false, .bool false, .bool false, .bool false, .bool false, .bool false, .bool false, .bool false, .bool false, .bool false, .bool false, .bool false, .bool false, .bool false, .bool false, .bool false, .bool false, .bool false, .bool false, .bool false, .bool false, .bool false, .bool false, .bool false, .bool false, .bool false, .bool false, .bool false, .bool false, .bool false, .bool false, .bool false, .bool false, .bool false, .bool false, .bool false, .bool false, .bool false, .bool false, .bool false, .bool false, .bool false, .bool false, .bool false, .bool false, .bool false, .bool false, .bool false, .bool false, .bool false, .bool false, .bool false, .bool false, .bool false, .bool false, .bool false, .bool false, .bool false, .bool false, .bool false, .bool false, .bool false, .bool false, .bool false, .bool false, .bool false, .bool false, .bool false, .bool false, .bool false, .bool false, .bool false, .bool false, .bool false, .bool false, .bool false, .bool false, .bool false, .bool false, .bool false, .bool false, .bool false, .bool false, .bool false, .bool false, .bool false, .bool false, .bool false, .bool false, .bool false, .bool false, .bool false, .bool false, .bool false, .bool false, .bool false, .bool false, .bool false, .bool false, .bool false, .bool false, .bool false, .bool false, .bool false, .bool false, .bool false, .bool false, .bool false, .bool false, .bool false, .bool false, .bool false, .bool false, .bool false, .bool false, .bool false, .bool false, .bool false, .bool false, .bool false, .bool false, .bool false, .bool false, .bool false, .bool false, .bool false, .bool false, .bool false, .bool false, .bool false, .bool false, .bool false, .bool false, .bool false, .bool false, .bool false, .bool false, .bool false, .bool false, .bool false, .bool false, .bool false, .bool false, .bool false, .bool false, .bool false, .bool false, .bool false, .bool false, .bool false, .bool false, .bool false, .bool false, .bool false, .bool false, .bool false, .bool false, .bool false, .bool false, .bool false, .bool false, .bool false, .bool false, .bool false, .bool false, .bool false, .bool false, .bool false, .bool false, .bool false, .bool false, .bool false, .bool false, .bool false, .bool false, .bool false, .bool false, .bool false, .bool false, .bool false, .bool false, .bool false, .bool false, .bool false, .bool false, .bool false, .bool false, .bool false, .bool false, .bool false, .bool false, .bool false, .bool false, .bool false, .bool false, .bool false, .bool false, .bool false, .bool false, .bool false, .bool false, .bool false, .bool false, .bool false, .bool false, .bool false, .bool false, .bool false, .bool false, .bool false, .bool false, .bool false, .bool false, .bool false, .bool false, .bool false, .bool false, .bool false, .bool false, .bool false, .bool false, .bool false, .bool false, .bool false, .bool false, .bool false, .bool false, .bool false, .bool false, .bool false, .bool false, .bool false, .bool false, .bool false, .bool false, .bool false, .bool false, .bool false, .bool false, .bool false, .bool false] := by kernel_rfl
@[go_sem] theorem i116 : (Tryz.prog.info? 116).isSome = true := by kernel_rfl
attribute [go_sem] Tryz.underlying139
@[go_sem] theorem z139 : tsize Tryz.prog 139 = 1 := by kernel_rfl
@[go_sem] theorem k139 : ttag Tryz.prog 139 = some false := by kernel_rfl
@[go_sem] theorem y139 : Tryz.prog.bytesOf 139 = 4 := by kernel_rfl
@[go_sem] theorem s139 : isStr Tryz.prog 139 = false := by kernel_rfl
@[go_sem] theorem j139 : isI32 Tryz.prog 139 = false := by kernel_rfl
@[go_sem] theorem w139 : isU8 Tryz.prog 139 = false := by kernel_rfl
@[go_sem] theorem o139 : tzero Tryz.prog 139 = some [.int .u32 0] := by kernel_rfl
@[go_sem] theorem i139 : (Tryz.prog.info? 139).isSome = true := by kernel_rfl
attribute [go_sem] Tryz.underlying148
@[go_sem] theorem z148 : tsize Tryz.prog 148 = 24 := by kernel_rfl
@[go_sem] theorem k148 : ttag Tryz.prog 148 = some true := by kernel_rfl
@[go_sem] theorem y148 : Tryz.prog.bytesOf 148 = 24 := by kernel_rfl
@[go_sem] theorem s148 : isStr Tryz.prog 148 = false := by kernel_rfl
@[go_sem] theorem j148 : isI32 Tryz.prog 148 = false := by kernel_rfl
@[go_sem] theorem w148 : isU8 Tryz.prog 148 = false := by kernel_rfl
@[go_sem] theorem o148 : tzero Tryz.prog 148 = some [.int .u8 0, .int .u8 0, .int .u8 0, .int .u8 0, .int .u8 0, .int .u8 0, .int .u8 0, .int .u8 0, .int .u8 0, .int .u8 0, .int .u8 0, .int .u8 0, .int .u8 0, .int .u8 0, .int .u8 0, .int .u8 0, .int .u8 0, .int .u8 0, .int .u8 0, .int .u8 0, .int .u8 0, .int .u8 0, .int .u8 0, .int .u8 0] := by kernel_rfl
@[go_sem] theorem i148 : (Tryz.prog.info? 148).isSome = true := by kernel_rfl
attribute [go_sem] Tryz.underlying161
@[go_sem] theorem z161 : tsize Tryz.prog 161 = 20 := by kernel_rfl
@[go_sem] theorem k161 : ttag Tryz.prog 161 = some true := by kernel_rfl
@[go_sem] theorem y161 : Tryz.prog.bytesOf 161 = 160 := by kernel_rfl
@[go_sem] theorem s161 : isStr Tryz.prog 161 = false := by kernel_rfl
@[go_sem] theorem j161 : isI32 Tryz.prog 161 = false := by kernel_rfl
@[go_sem] theorem w161 : isU8 Tryz.prog 161 = false := by kernel_rfl
@[go_sem] theorem o161 : tzero Tryz.prog 161 = some [.int .u64 0, .int .u64 0, .int .u64 0, .int .u64 0, .int .u64 0, .int .u64 0, .int .u64 0, .int .u64 0, .int .u64 0, .int .u64 0, .int .u64 0, .int .u64 0, .int .u64 0, .int .u64 0, .int .u64 0, .int .u64 0, .int .u64 0, .int .u64 0, .int .u64 0, .int .u64 0] := by kernel_rfl
@[go_sem] theorem i161 : (Tryz.prog.info? 161).isSome = true := by kernel_rfl
attribute [go_sem] Tryz.underlying162
@[go_sem] theorem z162 : tsize Tryz.prog 162 = 65 := by kernel_rfl
@[go_sem] theorem k162 : ttag Tryz.prog 162 = some true := by kernel_rfl
@[go_sem] theorem y162 : Tryz.prog.bytesOf 162 = 65 := by kernel_rfl
@[go_sem] theorem s162 : isStr Tryz.prog 162 = false := by kernel_rfl
@[go_sem] theorem j162 : isI32 Tryz.prog 162 = false := by kernel_rfl
@[go_sem] theorem w162 : isU8 Tryz.prog 162 = false := by kernel_rfl
@[go_sem] theorem o162 : tzero Tryz.prog 162 = some [.int .u8 0, .int .u8 0, .int .u8 0, .int .u8 0, .int .u8 0, .int .u8 0, .int .u8 0, .int .u8 0, .int .u8 0, .int .u8 0, .int .u8 0, .int .u8 0, .int .u8 0, .int .u8 0, .int .u8 0, .int .u8 0, .int .u8 0, .int .u8 0, .int .u8 0, .int .u8 0, .int .u8 0, .int .u8 0, .int .u8 0, .int .u8 0, .int .u8 0, .int .u8 0, .int .u8 0, .int .u8 0, .int .u8 0, .int .u8 0, .int .u8 0, .int .u8 0, .int .u8 0, .int .u8 0, .int .u8 0, .int .u8 0, .int .u8 0, .int .u8 0, .int .u8 0, .int .u8 0, .int .u8 0, .int .u8 0, .int .u8 0, .int .u8 0, .int .u8 0, .int .u8 0, .int .u8 0, .int .u8 0, .int .u8 0, .int .u8 0, .int .u8 0, .int .u8 0, .int .u8 0, .int .u8 0, .int .u8 0, .int .u8 0, .int .u8 0, .int .u8 0, .int .u8 0, .int .u8 0, .int .u8 0, .int .u8 0, .int .u8 0, .int .u8 0, .int .u8 0] := by kernel_rfl
@[go_sem] theorem i162 : (Tryz.prog.info? 162).isSome = true := by kernel_rfl
attribute [go_sem] Tryz.underlying170
@[go_sem] theorem z170 : tsize Tryz.prog 170 = 32 := by kernel_rfl
@[go_sem] theorem k170 : ttag Tryz.prog 170 = some true := by kernel_rfl
@[go_sem] theorem y170 : Tryz.prog.bytesOf 170 = 32 := by kernel_rfl
@[go_sem] theorem s170 : isStr Tryz.prog 170 = false := by kernel_rfl
@[go_sem] theorem j170 : isI32 Tryz.prog 170 = false := by kernel_rfl
@[go_sem] theorem w170 : isU8 Tryz.prog 170 = false := by kernel_rfl
@[go_sem] theorem o170 : tzero Tryz.prog 170 = some [.int .u8 0, .int .u8 0, .int .u8 0, .int .u8 0, .int .u8 0, .int .u8 0, .int .u8 0, .int .u8 0, .int .u8 0, .int .u8 0, .int .u8 0, .int .u8 0, .int .u8 0, .int .u8 0, .int .u8 0, .int .u8 0, .int .u8 0, .int .u8 0, .int .u8 0, .int .u8 0, .int .u8 0, .int .u8 0, .int .u8 0, .int .u8 0, .int .u8 0, .int .u8 0, .int .u8 0, .int .u8 0, .int .u8 0, .int .u8 0, .int .u8 0, .int .u8 0] := by kernel_rfl
@[go_sem] theorem i170 : (Tryz.prog.info? 170).isSome = true := by kernel_rfl

def h5 : Hint := ⟨(fun id => match id with | 0 => some [1] | 1 => some [1, 3, 4] | 2 => some [3, 4, 5, 6] | 3 => some [2] | _ => none), (fun _ => none), (fun _ => none), [], false, (fun _ => none)⟩
@[go_sem] theorem h5x : h5.mix = (fun _ => none) := rfl
@[go_sem] theorem h5l : h5.live = (fun id => match id with | 0 => some [1] | 1 => some [1, 3, 4] | 2 => some [3, 4, 5, 6] | 3 => some [2] | _ => none) := rfl
@[go_sem] theorem h5k : h5.keep = (fun _ => none) := rfl
@[go_sem] theorem h5t : h5.tail = (fun _ => none) := rfl
@[go_sem] theorem h5v : h5.vars = [] := rfl
@[go_sem] theorem h5m : h5.mutc = false := rfl
def h6 : Hint := ⟨(fun id => match id with | 0 => some [0] | 1 => some [0, 3, 4] | 2 => some [3, 4, 5, 6] | 3 => some [2] | _ => none), (fun _ => none), (fun _ => none), [], false, (fun _ => none)⟩
@[go_sem] theorem h6x : h6.mix = (fun _ => none) := rfl
@[go_sem] theorem h6l : h6.live = (fun id => match id with | 0 => some [0] | 1 => some [0, 3, 4] | 2 => some [3, 4, 5, 6] | 3 => some [2] | _ => none) := rfl
@[go_sem] theorem h6k : h6.keep = (fun _ => none) := rfl
@[go_sem] theorem h6t : h6.tail = (fun _ => none) := rfl
@[go_sem] theorem h6v : h6.vars = [] := rfl
@[go_sem] theorem h6m : h6.mutc = false := rfl
def h7 : Hint := ⟨(fun id => match id with | 0 => some [0] | 1 => some [0, 3, 4] | 2 => some [3, 4, 5, 6] | 3 => some [2] | _ => none), (fun _ => none), (fun _ => none), [], false, (fun _ => none)⟩
@[go_sem] theorem h7x : h7.mix = (fun _ => none) := rfl
@[go_sem] theorem h7l : h7.live = (fun id => match id with | 0 => some [0] | 1 => some [0, 3, 4] | 2 => some [3, 4, 5, 6] | 3 => some [2] | _ => none) := rfl
@[go_sem] theorem h7k : h7.keep = (fun _ => none) := rfl
@[go_sem] theorem h7t : h7.tail = (fun _ => none) := rfl
@[go_sem] theorem h7v : h7.vars = [] := rfl
@[go_sem] theorem h7m : h7.mutc = false := rfl
def h17 : Hint := ⟨(fun id => match id with | 0 => some [1] | 1 => some [1, 8] | 2 => some [2, 3] | 3 => some [1, 10] | 4 => some [1, 10, 11] | 5 => some [2, 3] | 6 => some [1, 10, 16] | 7 => some [2, 3] | 8 => some [1, 10, 22] | 9 => some [2, 3] | 10 => some [1, 10, 28] | 11 => some [1, 31] | 12 => some [2, 3] | 13 => some [2, 3] | 14 => some [1, 10, 40] | 15 => some [2, 3] | 16 => some [1, 10, 47] | 17 => some [2, 3] | 18 => some [1, 10, 54] | 19 => some [1, 58] | 20 => some [2, 3] | 21 => some [2, 3] | 22 => some [1, 10, 61] | 23 => some [1, 10, 61] | 24 => some [1, 10, 61] | 25 => some [1, 4] | 26 => some [1, 4, 74] | 27 => some [1, 4, 74, 75] | 28 => some [1, 4, 74, 75] | 29 => some [1, 4, 79] | 30 => some [1, 4, 74, 75] | 31 => some [2, 3] | 32 => some [2, 3] | _ => none), (fun _ => none), (fun _ => none), [], false, (fun _ => none)⟩
@[go_sem] theorem h17x : h17.mix = (fun _ => none) := rfl
@[go_sem] theorem h17l : h17.live = (fun id => match id with | 0 => some [1] | 1 => some [1, 8] | 2 => some [2, 3] | 3 => some [1, 10] | 4 => some [1, 10, 11] | 5 => some [2, 3] | 6 => some [1, 10, 16] | 7 => some [2, 3] | 8 => some [1, 10, 22] | 9 => some [2, 3] | 10 => some [1, 10, 28] | 11 => some [1, 31] | 12 => some [2, 3] | 13 => some [2, 3] | 14 => some [1, 10, 40] | 15 => some [2, 3] | 16 => some [1, 10, 47] | 17 => some [2, 3] | 18 => some [1, 10, 54] | 19 => some [1, 58] | 20 => some [2, 3] | 21 => some [2, 3] | 22 => some [1, 10, 61] | 23 => some [1, 10, 61] | 24 => some [1, 10, 61] | 25 => some [1, 4] | 26 => some [1, 4, 74] | 27 => some [1, 4, 74, 75] | 28 => some [1, 4, 74, 75] | 29 => some [1, 4, 79] | 30 => some [1, 4, 74, 75] | 31 => some [2, 3] | 32 => some [2, 3] | _ => none) := rfl
@[go_sem] theorem h17k : h17.keep = (fun _ => none) := rfl
@[go_sem] theorem h17t : h17.tail = (fun _ => none) := rfl
@[go_sem] theorem h17v : h17.vars = [] := rfl
@[go_sem] theorem h17m : h17.mutc = false := rfl
def h18 : Hint := ⟨(fun id => match id with | 0 => some [1] | 1 => some [1, 9] | 2 => some [2, 3] | 3 => some [1, 4] | 4 => some [1, 4, 22] | 5 => some [1, 4, 22] | 6 => some [1, 4, 32] | 7 => some [1, 4, 32, 33] | 8 => some [2, 3] | 9 => some [1, 4, 32, 38] | 10 => some [2, 3] | 11 => some [1, 4, 32, 44] | 12 => some [2, 3] | 13 => some [1, 4, 32, 50] | 14 => some [1, 53] | 15 => some [2, 3] | 16 => some [5] | 17 => some [2, 3] | 18 => some [1, 4, 32, 67] | 19 => some [2, 3] | 20 => some [1, 4, 32, 72] | 21 => some [2, 3] | 22 => some [1, 4, 32, 77] | 23 => some [1, 81] | 24 => some [2, 3] | 25 => some [2, 3] | 26 => some [1, 4, 32, 84] | 27 => some [2, 3] | 28 => some [1, 4, 32, 87] | 29 => some [2, 3] | 30 => some [1, 4, 91] | 31 => some [2, 3] | 32 => some [2, 3] | _ => none), (fun _ => none), (fun _ => none), [], false, (fun _ => none)⟩
@[go_sem] theorem h18x : h18.mix = (fun _ => none) := rfl
@[go_sem] theorem h18l : h18.live = (fun id => match id with | 0 => some [1] | 1 => some [1, 9] | 2 => some [2, 3] | 3 => some [1, 4] | 4 => some [1, 4, 22] | 5 => some [1, 4, 22] | 6 => some [1, 4, 32] | 7 => some [1, 4, 32, 33] | 8 => some [2, 3] | 9 => some [1, 4, 32, 38] | 10 => some [2, 3] | 11 => some [1, 4, 32, 44] | 12 => some [2, 3] | 13 => some [1, 4, 32, 50] | 14 => some [1, 53] | 15 => some [2, 3] | 16 => some [5] | 17 => some [2, 3] | 18 => some [1, 4, 32, 67] | 19 => some [2, 3] | 20 => some [1, 4, 32, 72] | 21 => some [2, 3] | 22 => some [1, 4, 32, 77] | 23 => some [1, 81] | 24 => some [2, 3] | 25 => some [2, 3] | 26 => some [1, 4, 32, 84] | 27 => some [2, 3] | 28 => some [1, 4, 32, 87] | 29 => some [2, 3] | 30 => some [1, 4, 91] | 31 => some [2, 3] | 32 => some [2, 3] | _ => none) := rfl
@[go_sem] theorem h18k : h18.keep = (fun _ => none) := rfl
@[go_sem] theorem h18t : h18.tail = (fun _ => none) := rfl
@[go_sem] theorem h18v : h18.vars = [] := rfl
@[go_sem] theorem h18m : h18.mutc = false := rfl
def h19 : Hint := ⟨(fun id => match id with | 0 => some [] | 1 => some [1, 2] | 2 => some [0] | _ => none), (fun _ => none), (fun _ => none), [], false, (fun _ => none)⟩
@[go_sem] theorem h19x : h19.mix = (fun _ => none) := rfl
@[go_sem] theorem h19l : h19.live = (fun id => match id with | 0 => some [] | 1 => some [1, 2] | 2 => some [0] | _ => none) := rfl
@[go_sem] theorem h19k : h19.keep = (fun _ => none) := rfl
@[go_sem] theorem h19t : h19.tail = (fun _ => none) := rfl
@[go_sem] theorem h19v : h19.vars = [] := rfl
@[go_sem] theorem h19m : h19.mutc = false := rfl
def h20 : Hint := ⟨(fun id => match id with | 0 => some [0] | 1 => some [0, 4] | 2 => some [0, 4, 9, 10, 11] | 3 => some [0, 4, 9, 10, 11, 12] | 4 => some [0, 4, 5, 6, 9, 10, 11] | 5 => some [0, 4, 5, 6, 7, 8, 9, 10, 11] | 6 => some [0, 4, 5, 6, 7, 8, 9, 10, 11, 22] | 7 => some [2, 3] | 8 => some [0, 4, 7, 9, 10, 11, 34] | 9 => some [0, 4, 7, 9, 10, 11, 34] | 10 => some [0, 4, 9, 10, 11] | 11 => some [0, 4, 9, 10, 11] | 12 => some [2, 3] | _ => none), (fun _ => none), (fun id => match id with | 8 => some 11 | _ => none), [], false, (fun _ => none)⟩
@[go_sem] theorem h20x : h20.mix = (fun _ => none) := rfl
@[go_sem] theorem h20l : h20.live = (fun id => match id with | 0 => some [0] | 1 => some [0, 4] | 2 => some [0, 4, 9, 10, 11] | 3 => some [0, 4, 9, 10, 11, 12] | 4 => some [0, 4, 5, 6, 9, 10, 11] | 5 => some [0, 4, 5, 6, 7, 8, 9, 10, 11] | 6 => some [0, 4, 5, 6, 7, 8, 9, 10, 11, 22] | 7 => some [2, 3] | 8 => some [0, 4, 7, 9, 10, 11, 34] | 9 => some [0, 4, 7, 9, 10, 11, 34] | 10 => some [0, 4, 9, 10, 11] | 11 => some [0, 4, 9, 10, 11] | 12 => some [2, 3] | _ => none) := rfl
@[go_sem] theorem h20k : h20.keep = (fun _ => none) := rfl
@[go_sem] theorem h20t : h20.tail = (fun id => match id with | 8 => some 11 | _ => none) := rfl
@[go_sem] theorem h20v : h20.vars = [] := rfl
@[go_sem] theorem h20m : h20.mutc = false := rfl
def h21 : Hint := ⟨(fun id => match id with | 0 => some [0] | 1 => some [0, 4] | 2 => some [0, 4, 9, 10, 11] | 3 => some [0, 4, 9, 10, 11, 12] | 4 => some [0, 4, 5, 6, 9, 10, 11] | 5 => some [0, 4, 5, 6, 7, 8, 9, 10, 11] | 6 => some [0, 4, 5, 6, 7, 8, 9, 10, 11, 22] | 7 => some [2, 3] | 8 => some [0, 4, 7, 9, 10, 11, 34] | 9 => some [0, 4, 7, 9, 10, 11, 34] | 10 => some [0, 4, 9, 10, 11] | 11 => some [0, 4, 9, 10, 11] | 12 => some [2, 3] | _ => none), (fun _ => none), (fun id => match id with | 8 => some 11 | _ => none), [4], false, (fun _ => none)⟩
@[go_sem] theorem h21x : h21.mix = (fun _ => none) := rfl
@[go_sem] theorem h21l : h21.live = (fun id => match id with | 0 => some [0] | 1 => some [0, 4] | 2 => some [0, 4, 9, 10, 11] | 3 => some [0, 4, 9, 10, 11, 12] | 4 => some [0, 4, 5, 6, 9, 10, 11] | 5 => some [0, 4, 5, 6, 7, 8, 9, 10, 11] | 6 => some [0, 4, 5, 6, 7, 8, 9, 10, 11, 22] | 7 => some [2, 3] | 8 => some [0, 4, 7, 9, 10, 11, 34] | 9 => some [0, 4, 7, 9, 10, 11, 34] | 10 => some [0, 4, 9, 10, 11] | 11 => some [0, 4, 9, 10, 11] | 12 => some [2, 3] | _ => none) := rfl
@[go_sem] theorem h21k : h21.keep = (fun _ => none) := rfl
@[go_sem] theorem h21t : h21.tail = (fun id => match id with | 8 => some 11 | _ => none) := rfl
@[go_sem] theorem h21v : h21.vars = [4] := rfl
@[go_sem] theorem h21m : h21.mutc = false := rfl
def h22 : Hint := ⟨(fun id => match id with | 0 => some [0] | 1 => some [2, 3] | _ => none), (fun _ => none), (fun _ => none), [], false, (fun _ => none)⟩
@[go_sem] theorem h22x : h22.mix = (fun _ => none) := rfl
@[go_sem] theorem h22l : h22.live = (fun id => match id with | 0 => some [0] | 1 => some [2, 3] | _ => none) := rfl
@[go_sem] theorem h22k : h22.keep = (fun _ => none) := rfl
@[go_sem] theorem h22t : h22.tail = (fun _ => none) := rfl
@[go_sem] theorem h22v : h22.vars = [] := rfl
@[go_sem] theorem h22m : h22.mutc = false := rfl
def h23 : Hint := ⟨(fun id => match id with | 0 => some [1] | 1 => some [1, 3] | 2 => some [1, 3] | 3 => some [1, 3, 4] | 4 => some [1, 3, 4, 8] | 5 => some [1, 3, 4, 8, 9] | 6 => some [1, 3, 4, 8, 9] | 7 => some [1, 3, 4, 8, 9] | 8 => some [1, 3, 4, 8, 9] | 9 => some [1, 3, 4, 8, 9] | 10 => some [1, 3, 4, 8, 22] | 11 => some [3, 4] | 12 => some [1, 3, 4, 8, 9] | 13 => some [1, 3, 4, 8, 43] | 14 => some [1, 3, 4, 8, 43] | 15 => some [1, 3, 4, 8, 9] | 16 => some [1, 3, 4, 8, 50] | 17 => some [1, 3, 4, 8, 9] | 18 => some [1, 3, 4, 8, 56] | 19 => some [3, 4] | 20 => some [1, 3, 4, 8, 9] | 21 => some [1, 3, 4, 8, 74] | 22 => some [1, 3, 4, 8, 74] | 23 => some [3, 4] | 24 => some [1, 3, 4, 8, 9] | 25 => some [3, 4, 8, 82] | 26 => some [3, 4, 8, 82] | 27 => some [3, 4, 8, 82] | 28 => some [3, 4, 8, 82] | 29 => some [3, 4, 8, 82] | 30 => some [3, 4, 8, 82] | 31 => some [3, 4, 8, 82] | 32 => some [3, 4, 8, 82] | 33 => some [3, 4, 8, 91] | 34 => some [3, 4, 8, 91] | 35 => some [3, 4, 8, 91] | 36 => some [3, 4, 8, 91] | 37 => some [3, 4, 8, 91] | 38 => some [3, 4, 8, 91] | 39 => some [2] | _ => none), (fun _ => none), (fun _ => none), [], false, (fun _ => none)⟩
@[go_sem] theorem h23x : h23.mix = (fun _ => none) := rfl
@[go_sem] theorem h23l : h23.live = (fun id => match id with | 0 => some [1] | 1 => some [1, 3] | 2 => some [1, 3] | 3 => some [1, 3, 4] | 4 => some [1, 3, 4, 8] | 5 => some [1, 3, 4, 8, 9] | 6 => some [1, 3, 4, 8, 9] | 7 => some [1, 3, 4, 8, 9] | 8 => some [1, 3, 4, 8, 9] | 9 => some [1, 3, 4, 8, 9] | 10 => some [1, 3, 4, 8, 22] | 11 => some [3, 4] | 12 => some [1, 3, 4, 8, 9] | 13 => some [1, 3, 4, 8, 43] | 14 => some [1, 3, 4, 8, 43] | 15 => some [1, 3, 4, 8, 9] | 16 => some [1, 3, 4, 8, 50] | 17 => some [1, 3, 4, 8, 9] | 18 => some [1, 3, 4, 8, 56] | 19 => some [3, 4] | 20 => some [1, 3, 4, 8, 9] | 21 => some [1, 3, 4, 8, 74] | 22 => some [1, 3, 4, 8, 74] | 23 => some [3, 4] | 24 => some [1, 3, 4, 8, 9] | 25 => some [3, 4, 8, 82] | 26 => some [3, 4, 8, 82] | 27 => some [3, 4, 8, 82] | 28 => some [3, 4, 8, 82] | 29 => some [3, 4, 8, 82] | 30 => some [3, 4, 8, 82] | 31 => some [3, 4, 8, 82] | 32 => some [3, 4, 8, 82] | 33 => some [3, 4, 8, 91] | 34 => some [3, 4, 8, 91] | 35 => some [3, 4, 8, 91] | 36 => some [3, 4, 8, 91] | 37 => some [3, 4, 8, 91] | 38 => some [3, 4, 8, 91] | 39 => some [2] | _ => none) := rfl
@[go_sem] theorem h23k : h23.keep = (fun _ => none) := rfl
@[go_sem] theorem h23t : h23.tail = (fun _ => none) := rfl
@[go_sem] theorem h23v : h23.vars = [] := rfl
@[go_sem] theorem h23m : h23.mutc = false := rfl
def h33 : Hint := ⟨(fun id => match id with | 0 => some [0] | 1 => some [0, 5] | 2 => some [2] | 3 => some [0, 3] | 4 => some [0, 3, 7] | 5 => some [0, 3, 7] | 6 => some [0, 3, 18] | 7 => some [2] | 8 => some [2] | _ => none), (fun _ => none), (fun id => match id with | 7 => some 15 | _ => none), [], false, (fun _ => none)⟩
@[go_sem] theorem h33x : h33.mix = (fun _ => none) := rfl
@[go_sem] theorem h33l : h33.live = (fun id => match id with | 0 => some [0] | 1 => some [0, 5] | 2 => some [2] | 3 => some [0, 3] | 4 => some [0, 3, 7] | 5 => some [0, 3, 7] | 6 => some [0, 3, 18] | 7 => some [2] | 8 => some [2] | _ => none) := rfl
@[go_sem] theorem h33k : h33.keep = (fun _ => none) := rfl
@[go_sem] theorem h33t : h33.tail = (fun id => match id with | 7 => some 15 | _ => none) := rfl
@[go_sem] theorem h33v : h33.vars = [] := rfl
@[go_sem] theorem h33m : h33.mutc = false := rfl
def h34 : Hint := ⟨(fun id => match id with | 0 => some [0] | 1 => some [0, 3] | 2 => some [3, 7] | 3 => some [3, 7, 8, 9] | 4 => some [3, 5, 7] | 5 => some [3, 5, 7] | 6 => some [3, 7] | 7 => some [3, 5, 7, 14] | 8 => some [3, 7] | 9 => some [3, 5, 7, 20] | 10 => some [3, 7] | 11 => some [2] | _ => none), (fun _ => none), (fun _ => none), [], false, (fun _ => none)⟩
@[go_sem] theorem h34x : h34.mix = (fun _ => none) := rfl
@[go_sem] theorem h34l : h34.live = (fun id => match id with | 0 => some [0] | 1 => some [0, 3] | 2 => some [3, 7] | 3 => some [3, 7, 8, 9] | 4 => some [3, 5, 7] | 5 => some [3, 5, 7] | 6 => some [3, 7] | 7 => some [3, 5, 7, 14] | 8 => some [3, 7] | 9 => some [3, 5, 7, 20] | 10 => some [3, 7] | 11 => some [2] | _ => none) := rfl
@[go_sem] theorem h34k : h34.keep = (fun _ => none) := rfl
@[go_sem] theorem h34t : h34.tail = (fun _ => none) := rfl
@[go_sem] theorem h34v : h34.vars = [] := rfl
@[go_sem] theorem h34m : h34.mutc = false := rfl
def h35 : Hint := ⟨(fun id => match id with | 0 => some [0, 1, 2] | 1 => some [0, 1, 2, 7] | 2 => some [1, 2, 7, 11] | 3 => some [1, 2, 7, 11, 12, 13] | 4 => some [1, 2, 7, 9, 11] | 5 => some [1, 2, 7, 9, 11, 15] | 6 => some [1, 2, 7, 11] | 7 => some [1, 2, 7, 9, 11, 28] | 8 => some [1, 2, 7, 9, 11, 28] | 9 => some [1, 2, 7, 11] | 10 => some [6] | _ => none), (fun _ => none), (fun _ => none), [], false, (fun _ => none)⟩
@[go_sem] theorem h35x : h35.mix = (fun _ => none) := rfl
@[go_sem] theorem h35l : h35.live = (fun id => match id with | 0 => some [0, 1, 2] | 1 => some [0, 1, 2, 7] | 2 => some [1, 2, 7, 11] | 3 => some [1, 2, 7, 11, 12, 13] | 4 => some [1, 2, 7, 9, 11] | 5 => some [1, 2, 7, 9, 11, 15] | 6 => some [1, 2, 7, 11] | 7 => some [1, 2, 7, 9, 11, 28] | 8 => some [1, 2, 7, 9, 11, 28] | 9 => some [1, 2, 7, 11] | 10 => some [6] | _ => none) := rfl
@[go_sem] theorem h35k : h35.keep = (fun _ => none) := rfl
@[go_sem] theorem h35t : h35.tail = (fun _ => none) := rfl
@[go_sem] theorem h35v : h35.vars = [] := rfl
@[go_sem] theorem h35m : h35.mutc = false := rfl
def h36 : Hint := ⟨(fun id => match id with | 0 => some [1, 2] | 1 => some [1, 2, 15] | 2 => some [4, 5] | 3 => some [1, 2, 27] | 4 => some [4, 5] | 5 => some [1, 2, 35] | 6 => some [4, 5] | 7 => some [1, 2, 6, 7, 8] | 8 => some [1, 2, 6, 7, 48] | 9 => some [4, 5] | 10 => some [1, 2, 6, 7, 9] | 11 => some [1, 2, 6, 7, 9, 10] | 12 => some [1, 2, 9, 10, 65, 66] | 13 => some [1, 2, 9, 10, 65, 66, 67] | 14 => some [1, 2, 9, 10, 12, 65, 66] | 15 => some [1, 2, 9, 10, 12, 65, 66, 70, 71] | 16 => some [1, 2, 9, 10, 12, 65, 66, 70, 71, 72] | 17 => some [1, 2, 9, 10, 12, 65, 66, 70, 71, 74] | 18 => some [4, 5] | 19 => some [1, 2, 9, 10, 12, 65, 66, 70, 71] | 20 => some [1, 2, 9, 10, 12, 65, 66, 70, 71] | 21 => some [1, 2, 9, 10, 65, 66] | 22 => some [1, 2, 9, 13] | 23 => some [1, 2, 9, 13, 86] | 24 => some [4, 5] | 25 => some [1, 2, 9, 13, 90] | 26 => some [1, 2, 9, 13, 90] | 27 => some [2, 9, 13, 100] | 28 => some [2, 9, 13, 14] | 29 => some [2, 9, 13] | 30 => some [2, 13, 114] | 31 => some [2, 9, 13, 100] | 32 => some [13, 119] | 33 => some [13, 119] | 34 => some [4, 5] | _ => none), (fun _ => none), (fun id => match id with | 29 => some 8 | _ => none), [], false, (fun _ => none)⟩
@[go_sem] theorem h36x : h36.mix = (fun _ => none) := rfl
@[go_sem] theorem h36l : h36.live = (fun id => match id with | 0 => some [1, 2] | 1 => some [1, 2, 15] | 2 => some [4, 5] | 3 => some [1, 2, 27] | 4 => some [4, 5] | 5 => some [1, 2, 35] | 6 => some [4, 5] | 7 => some [1, 2, 6, 7, 8] | 8 => some [1, 2, 6, 7, 48] | 9 => some [4, 5] | 10 => some [1, 2, 6, 7, 9] | 11 => some [1, 2, 6, 7, 9, 10] | 12 => some [1, 2, 9, 10, 65, 66] | 13 => some [1, 2, 9, 10, 65, 66, 67] | 14 => some [1, 2, 9, 10, 12, 65, 66] | 15 => some [1, 2, 9, 10, 12, 65, 66, 70, 71] | 16 => some [1, 2, 9, 10, 12, 65, 66, 70, 71, 72] | 17 => some [1, 2, 9, 10, 12, 65, 66, 70, 71, 74] | 18 => some [4, 5] | 19 => some [1, 2, 9, 10, 12, 65, 66, 70, 71] | 20 => some [1, 2, 9, 10, 12, 65, 66, 70, 71] | 21 => some [1, 2, 9, 10, 65, 66] | 22 => some [1, 2, 9, 13] | 23 => some [1, 2, 9, 13, 86] | 24 => some [4, 5] | 25 => some [1, 2, 9, 13, 90] | 26 => some [1, 2, 9, 13, 90] | 27 => some [2, 9, 13, 100] | 28 => some [2, 9, 13, 14] | 29 => some [2, 9, 13] | 30 => some [2, 13, 114] | 31 => some [2, 9, 13, 100] | 32 => some [13, 119] | 33 => some [13, 119] | 34 => some [4, 5] | _ => none) := rfl
@[go_sem] theorem h36k : h36.keep = (fun _ => none) := rfl
@[go_sem] theorem h36t : h36.tail = (fun id => match id with | 29 => some 8 | _ => none) := rfl
@[go_sem] theorem h36v : h36.vars = [] := rfl
@[go_sem] theorem h36m : h36.mutc = false := rfl
def h37 : Hint := ⟨(fun id => match id with | 0 => some [0] | 1 => some [0, 11] | 2 => some [0, 3] | 3 => some [0, 22] | 4 => some [2] | 5 => some [2] | _ => none), (fun _ => none), (fun id => match id with | 4 => some 8 | _ => none), [], false, (fun _ => none)⟩
@[go_sem] theorem h37x : h37.mix = (fun _ => none) := rfl
@[go_sem] theorem h37l : h37.live = (fun id => match id with | 0 => some [0] | 1 => some [0, 11] | 2 => some [0, 3] | 3 => some [0, 22] | 4 => some [2] | 5 => some [2] | _ => none) := rfl
@[go_sem] theorem h37k : h37.keep = (fun _ => none) := rfl
@[go_sem] theorem h37t : h37.tail = (fun id => match id with | 4 => some 8 | _ => none) := rfl
@[go_sem] theorem h37v : h37.vars = [] := rfl
@[go_sem] theorem h37m : h37.mutc = false := rfl
def h38 : Hint := ⟨(fun id => match id with | 0 => some [0] | 1 => some [0, 6] | 2 => some [0, 6, 7] | 3 => some [2] | 4 => some [0, 6, 9] | 5 => some [2] | 6 => some [0, 6, 11] | 7 => some [2] | 8 => some [0, 13] | 9 => some [2] | 10 => some [0, 3] | 11 => some [0, 16, 17] | 12 => some [0, 16, 17, 18] | 13 => some [0, 4, 5, 16, 17] | 14 => some [0, 4, 16, 17, 23] | 15 => some [2] | 16 => some [0, 16, 17] | 17 => some [2] | _ => none), (fun _ => none), (fun _ => none), [], false, (fun _ => none)⟩
@[go_sem] theorem h38x : h38.mix = (fun _ => none) := rfl
@[go_sem] theorem h38l : h38.live = (fun id => match id with | 0 => some [0] | 1 => some [0, 6] | 2 => some [0, 6, 7] | 3 => some [2] | 4 => some [0, 6, 9] | 5 => some [2] | 6 => some [0, 6, 11] | 7 => some [2] | 8 => some [0, 13] | 9 => some [2] | 10 => some [0, 3] | 11 => some [0, 16, 17] | 12 => some [0, 16, 17, 18] | 13 => some [0, 4, 5, 16, 17] | 14 => some [0, 4, 16, 17, 23] | 15 => some [2] | 16 => some [0, 16, 17] | 17 => some [2] | _ => none) := rfl
@[go_sem] theorem h38k : h38.keep = (fun _ => none) := rfl
@[go_sem] theorem h38t : h38.tail = (fun _ => none) := rfl
@[go_sem] theorem h38v : h38.vars = [] := rfl
@[go_sem] theorem h38m : h38.mutc = false := rfl
def h39 : Hint := ⟨(fun id => match id with | 0 => some [1] | 1 => some [1, 3] | 2 => some [1, 3, 4, 5] | 3 => some [1, 3, 4, 5, 18] | 4 => some [1, 3, 4, 5, 18, 19] | 5 => some [1, 3, 4, 5, 18, 19] | 6 => some [1, 3, 4, 5, 18, 19] | 7 => some [1, 3, 4, 5] | 8 => some [2] | 9 => some [1, 3, 4, 5, 18, 37] | 10 => some [1, 3, 4, 5] | 11 => some [1, 4, 56] | 12 => some [2] | 13 => some [2] | 14 => some [1, 3, 4, 5, 18, 82] | 15 => some [1, 3, 4, 5, 18, 82] | 16 => some [1, 3, 5] | 17 => some [2] | 18 => some [1, 3, 4, 5, 18, 94] | 19 => some [1, 3] | 20 => some [2] | 21 => some [1, 3, 4, 5, 18, 107] | 22 => some [1, 3, 4, 5, 18, 107] | 23 => some [1, 3, 4, 5, 18, 107] | 24 => some [1, 3, 4, 5] | 25 => some [1, 3, 4, 5, 119] | 26 => some [1, 3, 4, 5] | 27 => some [1, 3, 129] | 28 => some [2] | 29 => some [1, 3, 7] | 30 => some [2] | 31 => some [2] | _ => none), (fun _ => none), (fun id => match id with | 10 => some 5 | 24 => some 5 | _ => none), [], false, (fun id => match id with | 10 => some ⟨[0, 1, 2, 3, 4, 6], [], .head 0 (.head 1 (.head 4 (.alt (.one 2 (.alt (.one 3 (.one 5 (.head 6 (.one 7 (.fin))))) (.one 5 (.head 3 (.head 6 (.one 7 (.fin))))))) (.one 5 (.head 2 (.head 3 (.head 6 (.one 7 (.fin)))))))))⟩ | 24 => some ⟨[0, 1, 2, 3, 4, 6], [], .head 0 (.head 1 (.head 4 (.alt (.one 2 (.alt (.one 3 (.one 5 (.head 6 (.one 7 (.fin))))) (.one 5 (.head 3 (.head 6 (.one 7 (.fin))))))) (.one 5 (.head 2 (.head 3 (.head 6 (.one 7 (.fin)))))))))⟩ | _ => none)⟩
@[go_sem] theorem h39x : h39.mix = (fun id => match id with | 10 => some ⟨[0, 1, 2, 3, 4, 6], [], .head 0 (.head 1 (.head 4 (.alt (.one 2 (.alt (.one 3 (.one 5 (.head 6 (.one 7 (.fin))))) (.one 5 (.head 3 (.head 6 (.one 7 (.fin))))))) (.one 5 (.head 2 (.head 3 (.head 6 (.one 7 (.fin)))))))))⟩ | 24 => some ⟨[0, 1, 2, 3, 4, 6], [], .head 0 (.head 1 (.head 4 (.alt (.one 2 (.alt (.one 3 (.one 5 (.head 6 (.one 7 (.fin))))) (.one 5 (.head 3 (.head 6 (.one 7 (.fin))))))) (.one 5 (.head 2 (.head 3 (.head 6 (.one 7 (.fin)))))))))⟩ | _ => none) := rfl
@[go_sem] theorem h39l : h39.live = (fun id => match id with | 0 => some [1] | 1 => some [1, 3] | 2 => some [1, 3, 4, 5] | 3 => some [1, 3, 4, 5, 18] | 4 => some [1, 3, 4, 5, 18, 19] | 5 => some [1, 3, 4, 5, 18, 19] | 6 => some [1, 3, 4, 5, 18, 19] | 7 => some [1, 3, 4, 5] | 8 => some [2] | 9 => some [1, 3, 4, 5, 18, 37] | 10 => some [1, 3, 4, 5] | 11 => some [1, 4, 56] | 12 => some [2] | 13 => some [2] | 14 => some [1, 3, 4, 5, 18, 82] | 15 => some [1, 3, 4, 5, 18, 82] | 16 => some [1, 3, 5] | 17 => some [2] | 18 => some [1, 3, 4, 5, 18, 94] | 19 => some [1, 3] | 20 => some [2] | 21 => some [1, 3, 4, 5, 18, 107] | 22 => some [1, 3, 4, 5, 18, 107] | 23 => some [1, 3, 4, 5, 18, 107] | 24 => some [1, 3, 4, 5] | 25 => some [1, 3, 4, 5, 119] | 26 => some [1, 3, 4, 5] | 27 => some [1, 3, 129] | 28 => some [2] | 29 => some [1, 3, 7] | 30 => some [2] | 31 => some [2] | _ => none) := rfl
@[go_sem] theorem h39k : h39.keep = (fun _ => none) := rfl
@[go_sem] theorem h39t : h39.tail = (fun id => match id with | 10 => some 5 | 24 => some 5 | _ => none) := rfl
@[go_sem] theorem h39v : h39.vars = [] := rfl
@[go_sem] theorem h39m : h39.mutc = false := rfl
def h40 : Hint := ⟨(fun id => match id with | 0 => some [1, 2] | 1 => some [1, 2, 23] | 2 => some [4, 5] | 3 => some [1, 2, 26] | 4 => some [27] | 5 => some [4, 5] | 6 => some [4, 5] | 7 => some [1, 2, 6, 7, 8] | 8 => some [1, 2, 6, 7, 8, 35] | 9 => some [1, 2, 6, 7, 8, 43] | 10 => some [4, 5] | 11 => some [1, 2, 6, 7, 8] | 12 => some [1, 2, 6, 7, 8, 48] | 13 => some [1, 2, 6, 7, 8] | 14 => some [1, 2, 6, 7, 8, 9] | 15 => some [1, 2, 6, 7, 8, 9, 53] | 16 => some [1, 2, 6, 7, 8, 9] | 17 => some [1, 2, 6, 7, 8, 9] | 18 => some [1, 2, 6, 7, 8, 9] | 19 => some [1, 2, 6, 7, 8, 9, 59] | 20 => some [4, 5] | 21 => some [1, 2, 6, 7, 8] | 22 => some [1, 2, 8, 10] | 23 => some [1, 2, 8, 10, 11] | 24 => some [1, 2, 8, 10, 11, 75] | 25 => some [1, 2, 8, 10, 11] | 26 => some [1, 2, 8, 10, 79] | 27 => some [4, 5] | 28 => some [1, 2, 8, 10, 83] | 29 => some [1, 2, 8, 10, 79] | 30 => some [1, 2, 8, 10, 12] | 31 => some [2, 8, 10, 12, 93] | 32 => some [2, 8, 10, 12] | 33 => some [2, 8, 10, 12, 97] | 34 => some [2, 8, 10, 12, 97] | 35 => some [2, 8, 10, 12, 93] | 36 => some [12, 110] | 37 => some [12, 110] | 38 => some [4, 5] | _ => none), (fun _ => none), (fun id => match id with | 7 => some 6 | _ => none), [], false, (fun id => match id with | 7 => some ⟨[0, 1, 2, 3, 4, 5], [], .head 0 (.head 1 (.head 2 (.alt (.one 3 (.alt (.one 4 (.alt (.one 5 (.one 6 (.one 7 (.one 8 (.fin))))) (.one 6 (.head 5 (.one 7 (.one 8 (.fin))))))) (.one 6 (.head 4 (.head 5 (.one 7 (.one 8 (.fin)))))))) (.one 6 (.head 3 (.head 4 (.head 5 (.one 7 (.one 8 (.fin))))))))))⟩ | _ => none)⟩
@[go_sem] theorem h40x : h40.mix = (fun id => match id with | 7 => some ⟨[0, 1, 2, 3, 4, 5], [], .head 0 (.head 1 (.head 2 (.alt (.one 3 (.alt (.one 4 (.alt (.one 5 (.one 6 (.one 7 (.one 8 (.fin))))) (.one 6 (.head 5 (.one 7 (.one 8 (.fin))))))) (.one 6 (.head 4 (.head 5 (.one 7 (.one 8 (.fin)))))))) (.one 6 (.head 3 (.head 4 (.head 5 (.one 7 (.one 8 (.fin))))))))))⟩ | _ => none) := rfl
@[go_sem] theorem h40l : h40.live = (fun id => match id with | 0 => some [1, 2] | 1 => some [1, 2, 23] | 2 => some [4, 5] | 3 => some [1, 2, 26] | 4 => some [27] | 5 => some [4, 5] | 6 => some [4, 5] | 7 => some [1, 2, 6, 7, 8] | 8 => some [1, 2, 6, 7, 8, 35] | 9 => some [1, 2, 6, 7, 8, 43] | 10 => some [4, 5] | 11 => some [1, 2, 6, 7, 8] | 12 => some [1, 2, 6, 7, 8, 48] | 13 => some [1, 2, 6, 7, 8] | 14 => some [1, 2, 6, 7, 8, 9] | 15 => some [1, 2, 6, 7, 8, 9, 53] | 16 => some [1, 2, 6, 7, 8, 9] | 17 => some [1, 2, 6, 7, 8, 9] | 18 => some [1, 2, 6, 7, 8, 9] | 19 => some [1, 2, 6, 7, 8, 9, 59] | 20 => some [4, 5] | 21 => some [1, 2, 6, 7, 8] | 22 => some [1, 2, 8, 10] | 23 => some [1, 2, 8, 10, 11] | 24 => some [1, 2, 8, 10, 11, 75] | 25 => some [1, 2, 8, 10, 11] | 26 => some [1, 2, 8, 10, 79] | 27 => some [4, 5] | 28 => some [1, 2, 8, 10, 83] | 29 => some [1, 2, 8, 10, 79] | 30 => some [1, 2, 8, 10, 12] | 31 => some [2, 8, 10, 12, 93] | 32 => some [2, 8, 10, 12] | 33 => some [2, 8, 10, 12, 97] | 34 => some [2, 8, 10, 12, 97] | 35 => some [2, 8, 10, 12, 93] | 36 => some [12, 110] | 37 => some [12, 110] | 38 => some [4, 5] | _ => none) := rfl
@[go_sem] theorem h40k : h40.keep = (fun _ => none) := rfl
@[go_sem] theorem h40t : h40.tail = (fun id => match id with | 7 => some 6 | _ => none) := rfl
@[go_sem] theorem h40v : h40.vars = [] := rfl
@[go_sem] theorem h40m : h40.mutc = false := rfl
def h41 : Hint := ⟨(fun id => match id with | 0 => some [0] | 1 => some [0, 3] | 2 => some [3, 11] | 3 => some [2] | 4 => some [3, 20] | 5 => some [2] | 6 => some [3, 43] | 7 => some [2] | 8 => some [2] | _ => none), (fun _ => none), (fun id => match id with | 5 => some 8 | 7 => some 9 | _ => none), [], false, (fun _ => none)⟩
@[go_sem] theorem h41x : h41.mix = (fun _ => none) := rfl
@[go_sem] theorem h41l : h41.live = (fun id => match id with | 0 => some [0] | 1 => some [0, 3] | 2 => some [3, 11] | 3 => some [2] | 4 => some [3, 20] | 5 => some [2] | 6 => some [3, 43] | 7 => some [2] | 8 => some [2] | _ => none) := rfl
@[go_sem] theorem h41k : h41.keep = (fun _ => none) := rfl
@[go_sem] theorem h41t : h41.tail = (fun id => match id with | 5 => some 8 | 7 => some 9 | _ => none) := rfl
@[go_sem] theorem h41v : h41.vars = [] := rfl
@[go_sem] theorem h41m : h41.mutc = false := rfl
def h42 : Hint := ⟨(fun id => match id with | 0 => some [0] | 1 => some [0, 4] | 2 => some [0, 4, 10, 11, 12] | 3 => some [0, 4, 10, 11, 12, 13] | 4 => some [0, 4, 6, 10, 11, 12] | 5 => some [0, 4, 10, 11, 12, 17] | 6 => some [2, 3] | 7 => some [0, 4, 10, 11, 12] | 8 => some [2, 3] | _ => none), (fun _ => none), (fun _ => none), [], false, (fun _ => none)⟩
@[go_sem] theorem h42x : h42.mix = (fun _ => none) := rfl
@[go_sem] theorem h42l : h42.live = (fun id => match id with | 0 => some [0] | 1 => some [0, 4] | 2 => some [0, 4, 10, 11, 12] | 3 => some [0, 4, 10, 11, 12, 13] | 4 => some [0, 4, 6, 10, 11, 12] | 5 => some [0, 4, 10, 11, 12, 17] | 6 => some [2, 3] | 7 => some [0, 4, 10, 11, 12] | 8 => some [2, 3] | _ => none) := rfl
@[go_sem] theorem h42k : h42.keep = (fun _ => none) := rfl
@[go_sem] theorem h42t : h42.tail = (fun _ => none) := rfl
@[go_sem] theorem h42v : h42.vars = [] := rfl
@[go_sem] theorem h42m : h42.mutc = false := rfl
def h43 : Hint := ⟨(fun id => match id with | 0 => some [0] | 1 => some [0, 3] | 2 => some [3, 6, 7, 8] | 3 => some [3, 6, 7, 8, 9] | 4 => some [3, 5, 6, 7, 8] | 5 => some [3, 6, 7, 8] | 6 => some [3, 5, 6, 7, 8, 18] | 7 => some [3, 6, 7, 8] | 8 => some [3, 5, 6, 7, 8, 25] | 9 => some [3, 6, 7, 8] | 10 => some [3, 6, 7, 8] | 11 => some [2] | _ => none), (fun _ => none), (fun _ => none), [], false, (fun _ => none)⟩
@[go_sem] theorem h43x : h43.mix = (fun _ => none) := rfl
@[go_sem] theorem h43l : h43.live = (fun id => match id with | 0 => some [0] | 1 => some [0, 3] | 2 => some [3, 6, 7, 8] | 3 => some [3, 6, 7, 8, 9] | 4 => some [3, 5, 6, 7, 8] | 5 => some [3, 6, 7, 8] | 6 => some [3, 5, 6, 7, 8, 18] | 7 => some [3, 6, 7, 8] | 8 => some [3, 5, 6, 7, 8, 25] | 9 => some [3, 6, 7, 8] | 10 => some [3, 6, 7, 8] | 11 => some [2] | _ => none) := rfl
@[go_sem] theorem h43k : h43.keep = (fun _ => none) := rfl
@[go_sem] theorem h43t : h43.tail = (fun _ => none) := rfl
@[go_sem] theorem h43v : h43.vars = [] := rfl
@[go_sem] theorem h43m : h43.mutc = false := rfl
def h44 : Hint := ⟨(fun id => match id with | 0 => some [0] | 1 => some [3] | 2 => some [3, 5] | 3 => some [5, 13, 14, 15] | 4 => some [5, 13, 14, 15, 16] | 5 => some [5, 7, 13, 14, 15] | 6 => some [5, 13, 14, 15] | 7 => some [5, 7, 13, 14, 15, 24] | 8 => some [5, 13, 14, 15] | 9 => some [5, 7, 13, 14, 15, 31] | 10 => some [5, 13, 14, 15] | 11 => some [5, 13, 14, 15] | 12 => some [2] | _ => none), (fun _ => none), (fun _ => none), [], false, (fun _ => none)⟩
@[go_sem] theorem h44x : h44.mix = (fun _ => none) := rfl
@[go_sem] theorem h44l : h44.live = (fun id => match id with | 0 => some [0] | 1 => some [3] | 2 => some [3, 5] | 3 => some [5, 13, 14, 15] | 4 => some [5, 13, 14, 15, 16] | 5 => some [5, 7, 13, 14, 15] | 6 => some [5, 13, 14, 15] | 7 => some [5, 7, 13, 14, 15, 24] | 8 => some [5, 13, 14, 15] | 9 => some [5, 7, 13, 14, 15, 31] | 10 => some [5, 13, 14, 15] | 11 => some [5, 13, 14, 15] | 12 => some [2] | _ => none) := rfl
@[go_sem] theorem h44k : h44.keep = (fun _ => none) := rfl
@[go_sem] theorem h44t : h44.tail = (fun _ => none) := rfl
@[go_sem] theorem h44v : h44.vars = [] := rfl
@[go_sem] theorem h44m : h44.mutc = false := rfl
def h45 : Hint := ⟨(fun id => match id with | 0 => some [0] | 1 => some [3] | 2 => some [3, 5] | 3 => some [5, 13, 14, 15] | 4 => some [5, 13, 14, 15, 16] | 5 => some [5, 7, 13, 14, 15] | 6 => some [5, 13, 14, 15] | 7 => some [5, 7, 13, 14, 15, 24] | 8 => some [5, 13, 14, 15] | 9 => some [5, 7, 13, 14, 15, 35] | 10 => some [5, 13, 14, 15] | 11 => some [5, 13, 14, 15] | 12 => some [2] | _ => none), (fun _ => none), (fun _ => none), [], false, (fun _ => none)⟩
@[go_sem] theorem h45x : h45.mix = (fun _ => none) := rfl
@[go_sem] theorem h45l : h45.live = (fun id => match id with | 0 => some [0] | 1 => some [3] | 2 => some [3, 5] | 3 => some [5, 13, 14, 15] | 4 => some [5, 13, 14, 15, 16] | 5 => some [5, 7, 13, 14, 15] | 6 => some [5, 13, 14, 15] | 7 => some [5, 7, 13, 14, 15, 24] | 8 => some [5, 13, 14, 15] | 9 => some [5, 7, 13, 14, 15, 35] | 10 => some [5, 13, 14, 15] | 11 => some [5, 13, 14, 15] | 12 => some [2] | _ => none) := rfl
@[go_sem] theorem h45k : h45.keep = (fun _ => none) := rfl
@[go_sem] theorem h45t : h45.tail = (fun _ => none) := rfl
@[go_sem] theorem h45v : h45.vars = [] := rfl
@[go_sem] theorem h45m : h45.mutc = false := rfl
def h46 : Hint := ⟨(fun id => match id with | 0 => some [0] | 1 => some [0, 3] | 2 => some [0, 3, 19] | 3 => some [0, 3, 45] | 4 => some [2] | 5 => some [2] | _ => none), (fun _ => none), (fun id => match id with | 4 => some 8 | _ => none), [], false, (fun _ => none)⟩
@[go_sem] theorem h46x : h46.mix = (fun _ => none) := rfl
@[go_sem] theorem h46l : h46.live = (fun id => match id with | 0 => some [0] | 1 => some [0, 3] | 2 => some [0, 3, 19] | 3 => some [0, 3, 45] | 4 => some [2] | 5 => some [2] | _ => none) := rfl
@[go_sem] theorem h46k : h46.keep = (fun _ => none) := rfl
@[go_sem] theorem h46t : h46.tail = (fun id => match id with | 4 => some 8 | _ => none) := rfl
@[go_sem] theorem h46v : h46.vars = [] := rfl
@[go_sem] theorem h46m : h46.mutc = false := rfl
def h47 : Hint := ⟨(fun id => match id with | 0 => some [2, 3] | 1 => some [3, 6] | 2 => some [3, 6, 7] | 3 => some [4] | 4 => some [3, 6, 12] | 5 => some [3, 6, 12] | 6 => some [3, 6, 12] | 7 => some [3, 6, 12] | 8 => some [3, 6, 12] | 9 => some [3, 6, 12] | 10 => some [20] | 11 => some [20, 21] | 12 => some [20, 21] | 13 => some [20, 21] | 14 => some [20, 21] | 15 => some [20, 21] | 16 => some [20, 21] | 17 => some [20, 21] | 18 => some [20, 21] | 19 => some [20, 21] | 20 => some [20, 21] | 21 => some [4] | 22 => some [4] | _ => none), (fun _ => none), (fun _ => none), [], false, (fun _ => none)⟩
@[go_sem] theorem h47x : h47.mix = (fun _ => none) := rfl
@[go_sem] theorem h47l : h47.live = (fun id => match id with | 0 => some [2, 3] | 1 => some [3, 6] | 2 => some [3, 6, 7] | 3 => some [4] | 4 => some [3, 6, 12] | 5 => some [3, 6, 12] | 6 => some [3, 6, 12] | 7 => some [3, 6, 12] | 8 => some [3, 6, 12] | 9 => some [3, 6, 12] | 10 => some [20] | 11 => some [20, 21] | 12 => some [20, 21] | 13 => some [20, 21] | 14 => some [20, 21] | 15 => some [20, 21] | 16 => some [20, 21] | 17 => some [20, 21] | 18 => some [20, 21] | 19 => some [20, 21] | 20 => some [20, 21] | 21 => some [4] | 22 => some [4] | _ => none) := rfl
@[go_sem] theorem h47k : h47.keep = (fun _ => none) := rfl
@[go_sem] theorem h47t : h47.tail = (fun _ => none) := rfl
@[go_sem] theorem h47v : h47.vars = [] := rfl
@[go_sem] theorem h47m : h47.mutc = false := rfl
def h48 : Hint := ⟨(fun id => match id with | 0 => some [0, 1] | 1 => some [0, 1] | 2 => some [1] | 3 => some [4, 5] | _ => none), (fun _ => none), (fun _ => none), [], false, (fun _ => none)⟩
@[go_sem] theorem h48x : h48.mix = (fun _ => none) := rfl
@[go_sem] theorem h48l : h48.live = (fun id => match id with | 0 => some [0, 1] | 1 => some [0, 1] | 2 => some [1] | 3 => some [4, 5] | _ => none) := rfl
@[go_sem] theorem h48k : h48.keep = (fun _ => none) := rfl
@[go_sem] theorem h48t : h48.tail = (fun _ => none) := rfl
@[go_sem] theorem h48v : h48.vars = [] := rfl
@[go_sem] theorem h48m : h48.mutc = false := rfl
def h50 : Hint := ⟨(fun id => match id with | 0 => some [2, 3] | 1 => some [2, 3, 12] | 2 => some [4] | 3 => some [3, 14] | 4 => some [4] | 5 => some [3, 14, 15] | 6 => some [3, 14, 15] | 7 => some [3, 14, 15] | 8 => some [3, 14, 15] | 9 => some [3, 14, 15] | 10 => some [3, 14, 15] | 11 => some [23] | 12 => some [23, 24] | 13 => some [23, 24] | 14 => some [23, 24] | 15 => some [23, 24] | 16 => some [23, 24] | 17 => some [23, 24] | 18 => some [23, 24] | 19 => some [23, 24] | 20 => some [23, 24] | 21 => some [23, 24] | 22 => some [4] | 23 => some [4] | _ => none), (fun _ => none), (fun _ => none), [], false, (fun _ => none)⟩
@[go_sem] theorem h50x : h50.mix = (fun _ => none) := rfl
@[go_sem] theorem h50l : h50.live = (fun id => match id with | 0 => some [2, 3] | 1 => some [2, 3, 12] | 2 => some [4] | 3 => some [3, 14] | 4 => some [4] | 5 => some [3, 14, 15] | 6 => some [3, 14, 15] | 7 => some [3, 14, 15] | 8 => some [3, 14, 15] | 9 => some [3, 14, 15] | 10 => some [3, 14, 15] | 11 => some [23] | 12 => some [23, 24] | 13 => some [23, 24] | 14 => some [23, 24] | 15 => some [23, 24] | 16 => some [23, 24] | 17 => some [23, 24] | 18 => some [23, 24] | 19 => some [23, 24] | 20 => some [23, 24] | 21 => some [23, 24] | 22 => some [4] | 23 => some [4] | _ => none) := rfl
@[go_sem] theorem h50k : h50.keep = (fun _ => none) := rfl
@[go_sem] theorem h50t : h50.tail = (fun _ => none) := rfl
@[go_sem] theorem h50v : h50.vars = [] := rfl
@[go_sem] theorem h50m : h50.mutc = false := rfl
def h51 : Hint := ⟨(fun id => match id with | 0 => some [0] | 1 => some [2] | _ => none), (fun _ => none), (fun _ => none), [], false, (fun _ => none)⟩
@[go_sem] theorem h51x : h51.mix = (fun _ => none) := rfl
@[go_sem] theorem h51l : h51.live = (fun id => match id with | 0 => some [0] | 1 => some [2] | _ => none) := rfl
@[go_sem] theorem h51k : h51.keep = (fun _ => none) := rfl
@[go_sem] theorem h51t : h51.tail = (fun _ => none) := rfl
@[go_sem] theorem h51v : h51.vars = [] := rfl
@[go_sem] theorem h51m : h51.mutc = false := rfl
def h52 : Hint := ⟨(fun id => match id with | 0 => some [0] | 1 => some [0, 14] | 2 => some [2] | 3 => some [2] | _ => none), (fun _ => none), (fun _ => none), [], false, (fun _ => none)⟩
@[go_sem] theorem h52x : h52.mix = (fun _ => none) := rfl
@[go_sem] theorem h52l : h52.live = (fun id => match id with | 0 => some [0] | 1 => some [0, 14] | 2 => some [2] | 3 => some [2] | _ => none) := rfl
@[go_sem] theorem h52k : h52.keep = (fun _ => none) := rfl
@[go_sem] theorem h52t : h52.tail = (fun _ => none) := rfl
@[go_sem] theorem h52v : h52.vars = [] := rfl
@[go_sem] theorem h52m : h52.mutc = false := rfl
def h53 : Hint := ⟨(fun id => match id with | 0 => some [0] | 1 => some [0, 6] | 2 => some [2] | 3 => some [0, 3] | 4 => some [2] | _ => none), (fun _ => none), (fun _ => none), [], false, (fun _ => none)⟩
@[go_sem] theorem h53x : h53.mix = (fun _ => none) := rfl
@[go_sem] theorem h53l : h53.live = (fun id => match id with | 0 => some [0] | 1 => some [0, 6] | 2 => some [2] | 3 => some [0, 3] | 4 => some [2] | _ => none) := rfl
@[go_sem] theorem h53k : h53.keep = (fun _ => none) := rfl
@[go_sem] theorem h53t : h53.tail = (fun _ => none) := rfl
@[go_sem] theorem h53v : h53.vars = [] := rfl
@[go_sem] theorem h53m : h53.mutc = false := rfl
def h54 : Hint := ⟨(fun id => match id with | 0 => some [1] | 1 => some [4] | 2 => some [2] | _ => none), (fun _ => none), (fun _ => none), [], false, (fun _ => none)⟩
@[go_sem] theorem h54x : h54.mix = (fun _ => none) := rfl
@[go_sem] theorem h54l : h54.live = (fun id => match id with | 0 => some [1] | 1 => some [4] | 2 => some [2] | _ => none) := rfl
@[go_sem] theorem h54k : h54.keep = (fun _ => none) := rfl
@[go_sem] theorem h54t : h54.tail = (fun _ => none) := rfl
@[go_sem] theorem h54v : h54.vars = [] := rfl
@[go_sem] theorem h54m : h54.mutc = false := rfl
def h71 : Hint := ⟨(fun id => match id with | 0 => some [0] | 1 => some [2] | _ => none), (fun _ => none), (fun _ => none), [], false, (fun _ => none)⟩
@[go_sem] theorem h71x : h71.mix = (fun _ => none) := rfl
@[go_sem] theorem h71l : h71.live = (fun id => match id with | 0 => some [0] | 1 => some [2] | _ => none) := rfl
@[go_sem] theorem h71k : h71.keep = (fun _ => none) := rfl
@[go_sem] theorem h71t : h71.tail = (fun _ => none) := rfl
@[go_sem] theorem h71v : h71.vars = [] := rfl
@[go_sem] theorem h71m : h71.mutc = false := rfl
def h75 : Hint := ⟨(fun id => match id with | 0 => some [0] | 1 => some [2] | _ => none), (fun _ => none), (fun _ => none), [], false, (fun _ => none)⟩
@[go_sem] theorem h75x : h75.mix = (fun _ => none) := rfl
@[go_sem] theorem h75l : h75.live = (fun id => match id with | 0 => some [0] | 1 => some [2] | _ => none) := rfl
@[go_sem] theorem h75k : h75.keep = (fun _ => none) := rfl
@[go_sem] theorem h75t : h75.tail = (fun _ => none) := rfl
@[go_sem] theorem h75v : h75.vars = [] := rfl
@[go_sem] theorem h75m : h75.mutc = false := rfl
def h82 : Hint := ⟨(fun id => match id with | 0 => some [0] | 1 => some [2] | _ => none), (fun _ => none), (fun _ => none), [], false, (fun _ => none)⟩
@[go_sem] theorem h82x : h82.mix = (fun _ => none) := rfl
@[go_sem] theorem h82l : h82.live = (fun id => match id with | 0 => some [0] | 1 => some [2] | _ => none) := rfl
@[go_sem] theorem h82k : h82.keep = (fun _ => none) := rfl
@[go_sem] theorem h82t : h82.tail = (fun _ => none) := rfl
@[go_sem] theorem h82v : h82.vars = [] := rfl
@[go_sem] theorem h82m : h82.mutc = false := rfl
def h84 : Hint := ⟨(fun id => match id with | 0 => some [0] | 1 => some [0, 3] | 2 => some [0, 3, 4] | 3 => some [0, 3, 4, 11] | 4 => some [0, 3, 4, 5, 6] | 5 => some [0, 3, 4, 6] | 6 => some [0, 3, 4] | 7 => some [2] | _ => none), (fun _ => none), (fun _ => none), [3], false, (fun _ => none)⟩
@[go_sem] theorem h84x : h84.mix = (fun _ => none) := rfl
@[go_sem] theorem h84l : h84.live = (fun id => match id with | 0 => some [0] | 1 => some [0, 3] | 2 => some [0, 3, 4] | 3 => some [0, 3, 4, 11] | 4 => some [0, 3, 4, 5, 6] | 5 => some [0, 3, 4, 6] | 6 => some [0, 3, 4] | 7 => some [2] | _ => none) := rfl
@[go_sem] theorem h84k : h84.keep = (fun _ => none) := rfl
@[go_sem] theorem h84t : h84.tail = (fun _ => none) := rfl
@[go_sem] theorem h84v : h84.vars = [3] := rfl
@[go_sem] theorem h84m : h84.mutc = false := rfl
def h85 : Hint := ⟨(fun id => match id with | 0 => some [0, 1] | 1 => some [4] | _ => none), (fun _ => none), (fun _ => none), [], false, (fun _ => none)⟩
@[go_sem] theorem h85x : h85.mix = (fun _ => none) := rfl
@[go_sem] theorem h85l : h85.live = (fun id => match id with | 0 => some [0, 1] | 1 => some [4] | _ => none) := rfl
@[go_sem] theorem h85k : h85.keep = (fun _ => none) := rfl
@[go_sem] theorem h85t : h85.tail = (fun _ => none) := rfl
@[go_sem] theorem h85v : h85.vars = [] := rfl
@[go_sem] theorem h85m : h85.mutc = false := rfl
def h86 : Hint := ⟨(fun id => match id with | 0 => some [0] | 1 => some [2] | _ => none), (fun _ => none), (fun _ => none), [], false, (fun _ => none)⟩
@[go_sem] theorem h86x : h86.mix = (fun _ => none) := rfl
@[go_sem] theorem h86l : h86.live = (fun id => match id with | 0 => some [0] | 1 => some [2] | _ => none) := rfl
@[go_sem] theorem h86k : h86.keep = (fun _ => none) := rfl
@[go_sem] theorem h86t : h86.tail = (fun _ => none) := rfl
@[go_sem] theorem h86v : h86.vars = [] := rfl
@[go_sem] theorem h86m : h86.mutc = false := rfl
def h87 : Hint := ⟨(fun id => match id with | 0 => some [0] | 1 => some [0, 3] | 2 => some [0, 3, 7] | 3 => some [0, 3] | 4 => some [0, 3] | 5 => some [3, 4] | 6 => some [3, 4] | 7 => some [3, 4, 5] | 8 => some [3, 4, 5, 21] | 9 => some [3, 4, 5] | 10 => some [3, 4, 5] | 11 => some [4] | 12 => some [2] | _ => none), (fun _ => none), (fun _ => none), [3], false, (fun _ => none)⟩
@[go_sem] theorem h87x : h87.mix = (fun _ => none) := rfl
@[go_sem] theorem h87l : h87.live = (fun id => match id with | 0 => some [0] | 1 => some [0, 3] | 2 => some [0, 3, 7] | 3 => some [0, 3] | 4 => some [0, 3] | 5 => some [3, 4] | 6 => some [3, 4] | 7 => some [3, 4, 5] | 8 => some [3, 4, 5, 21] | 9 => some [3, 4, 5] | 10 => some [3, 4, 5] | 11 => some [4] | 12 => some [2] | _ => none) := rfl
@[go_sem] theorem h87k : h87.keep = (fun _ => none) := rfl
@[go_sem] theorem h87t : h87.tail = (fun _ => none) := rfl
@[go_sem] theorem h87v : h87.vars = [3] := rfl
@[go_sem] theorem h87m : h87.mutc = false := rfl
def h88 : Hint := ⟨(fun id => match id with | 0 => some [0] | 1 => some [2] | _ => none), (fun _ => none), (fun _ => none), [], false, (fun _ => none)⟩
@[go_sem] theorem h88x : h88.mix = (fun _ => none) := rfl
@[go_sem] theorem h88l : h88.live = (fun id => match id with | 0 => some [0] | 1 => some [2] | _ => none) := rfl
@[go_sem] theorem h88k : h88.keep = (fun _ => none) := rfl
@[go_sem] theorem h88t : h88.tail = (fun _ => none) := rfl
@[go_sem] theorem h88v : h88.vars = [] := rfl
@[go_sem] theorem h88m : h88.mutc = false := rfl
def h89 : Hint := ⟨(fun id => match id with | 0 => some [0] | 1 => some [2] | _ => none), (fun _ => none), (fun _ => none), [], false, (fun _ => none)⟩
@[go_sem] theorem h89x : h89.mix = (fun _ => none) := rfl
@[go_sem] theorem h89l : h89.live = (fun id => match id with | 0 => some [0] | 1 => some [2] | _ => none) := rfl
@[go_sem] theorem h89k : h89.keep = (fun _ => none) := rfl
@[go_sem] theorem h89t : h89.tail = (fun _ => none) := rfl
@[go_sem] theorem h89v : h89.vars = [] := rfl
@[go_sem] theorem h89m : h89.mutc = false := rfl
def h91 : Hint := ⟨(fun id => match id with | 0 => some [0, 1] | 1 => some [0, 1] | 2 => some [] | 3 => some [4] | _ => none), (fun _ => none), (fun _ => none), [], false, (fun _ => none)⟩
@[go_sem] theorem h91x : h91.mix = (fun _ => none) := rfl
@[go_sem] theorem h91l : h91.live = (fun id => match id with | 0 => some [0, 1] | 1 => some [0, 1] | 2 => some [] | 3 => some [4] | _ => none) := rfl
@[go_sem] theorem h91k : h91.keep = (fun _ => none) := rfl
@[go_sem] theorem h91t : h91.tail = (fun _ => none) := rfl
@[go_sem] theorem h91v : h91.vars = [] := rfl
@[go_sem] theorem h91m : h91.mutc = false := rfl
def h92 : Hint := ⟨(fun id => match id with | 0 => some [0, 1] | 1 => some [4] | _ => none), (fun _ => none), (fun _ => none), [], false, (fun _ => none)⟩
@[go_sem] theorem h92x : h92.mix = (fun _ => none) := rfl
@[go_sem] theorem h92l : h92.live = (fun id => match id with | 0 => some [0, 1] | 1 => some [4] | _ => none) := rfl
@[go_sem] theorem h92k : h92.keep = (fun _ => none) := rfl
@[go_sem] theorem h92t : h92.tail = (fun _ => none) := rfl
@[go_sem] theorem h92v : h92.vars = [] := rfl
@[go_sem] theorem h92m : h92.mutc = false := rfl
def h93 : Hint := ⟨(fun id => match id with | 0 => some [1] | 1 => some [2] | _ => none), (fun _ => none), (fun _ => none), [], false, (fun _ => none)⟩
@[go_sem] theorem h93x : h93.mix = (fun _ => none) := rfl
@[go_sem] theorem h93l : h93.live = (fun id => match id with | 0 => some [1] | 1 => some [2] | _ => none) := rfl
@[go_sem] theorem h93k : h93.keep = (fun _ => none) := rfl
@[go_sem] theorem h93t : h93.tail = (fun _ => none) := rfl
@[go_sem] theorem h93v : h93.vars = [] := rfl
@[go_sem] theorem h93m : h93.mutc = false := rfl
def h95 : Hint := ⟨(fun id => match id with | 0 => some [0] | 1 => some [0, 5] | 2 => some [0, 5] | 3 => some [0, 5, 6] | 4 => some [0, 5, 6, 14] | 5 => some [0, 5, 6] | 6 => some [0, 5, 6] | 7 => some [2, 3, 4] | _ => none), (fun _ => none), (fun _ => none), [], false, (fun _ => none)⟩
@[go_sem] theorem h95x : h95.mix = (fun _ => none) := rfl
@[go_sem] theorem h95l : h95.live = (fun id => match id with | 0 => some [0] | 1 => some [0, 5] | 2 => some [0, 5] | 3 => some [0, 5, 6] | 4 => some [0, 5, 6, 14] | 5 => some [0, 5, 6] | 6 => some [0, 5, 6] | 7 => some [2, 3, 4] | _ => none) := rfl
@[go_sem] theorem h95k : h95.keep = (fun _ => none) := rfl
@[go_sem] theorem h95t : h95.tail = (fun _ => none) := rfl
@[go_sem] theorem h95v : h95.vars = [] := rfl
@[go_sem] theorem h95m : h95.mutc = false := rfl
def h96 : Hint := ⟨(fun id => match id with | 0 => some [0] | 1 => some [0, 4] | 2 => some [2] | 3 => some [2] | _ => none), (fun _ => none), (fun _ => none), [], false, (fun _ => none)⟩
@[go_sem] theorem h96x : h96.mix = (fun _ => none) := rfl
@[go_sem] theorem h96l : h96.live = (fun id => match id with | 0 => some [0] | 1 => some [0, 4] | 2 => some [2] | 3 => some [2] | _ => none) := rfl
@[go_sem] theorem h96k : h96.keep = (fun _ => none) := rfl
@[go_sem] theorem h96t : h96.tail = (fun _ => none) := rfl
@[go_sem] theorem h96v : h96.vars = [] := rfl
@[go_sem] theorem h96m : h96.mutc = false := rfl
def h97 : Hint := ⟨(fun id => match id with | 0 => some [0] | 1 => some [0, 3] | 2 => some [0, 3, 4] | 3 => some [0, 3, 4] | 4 => some [0, 3, 4] | 5 => some [0, 3, 4] | 6 => some [0, 3, 4, 16] | 7 => some [2] | _ => none), (fun _ => none), (fun _ => none), [], false, (fun _ => none)⟩
@[go_sem] theorem h97x : h97.mix = (fun _ => none) := rfl
@[go_sem] theorem h97l : h97.live = (fun id => match id with | 0 => some [0] | 1 => some [0, 3] | 2 => some [0, 3, 4] | 3 => some [0, 3, 4] | 4 => some [0, 3, 4] | 5 => some [0, 3, 4] | 6 => some [0, 3, 4, 16] | 7 => some [2] | _ => none) := rfl
@[go_sem] theorem h97k : h97.keep = (fun _ => none) := rfl
@[go_sem] theorem h97t : h97.tail = (fun _ => none) := rfl
@[go_sem] theorem h97v : h97.vars = [] := rfl
@[go_sem] theorem h97m : h97.mutc = false := rfl
def h98 : Hint := ⟨(fun id => match id with | 0 => some [0, 1] | 1 => some [0, 1, 12] | 2 => some [4] | 3 => some [0, 1, 21] | 4 => some [4] | 5 => some [0, 1, 5, 6] | 6 => some [0, 1, 5, 31] | 7 => some [4] | 8 => some [4] | _ => none), (fun _ => none), (fun _ => none), [], false, (fun _ => none)⟩
@[go_sem] theorem h98x : h98.mix = (fun _ => none) := rfl
@[go_sem] theorem h98l : h98.live = (fun id => match id with | 0 => some [0, 1] | 1 => some [0, 1, 12] | 2 => some [4] | 3 => some [0, 1, 21] | 4 => some [4] | 5 => some [0, 1, 5, 6] | 6 => some [0, 1, 5, 31] | 7 => some [4] | 8 => some [4] | _ => none) := rfl
@[go_sem] theorem h98k : h98.keep = (fun _ => none) := rfl
@[go_sem] theorem h98t : h98.tail = (fun _ => none) := rfl
@[go_sem] theorem h98v : h98.vars = [] := rfl
@[go_sem] theorem h98m : h98.mutc = false := rfl
def h99 : Hint := ⟨(fun id => match id with | 0 => some [0, 1] | 1 => some [4] | _ => none), (fun _ => none), (fun _ => none), [], false, (fun _ => none)⟩
@[go_sem] theorem h99x : h99.mix = (fun _ => none) := rfl
@[go_sem] theorem h99l : h99.live = (fun id => match id with | 0 => some [0, 1] | 1 => some [4] | _ => none) := rfl
@[go_sem] theorem h99k : h99.keep = (fun _ => none) := rfl
@[go_sem] theorem h99t : h99.tail = (fun _ => none) := rfl
@[go_sem] theorem h99v : h99.vars = [] := rfl
@[go_sem] theorem h99m : h99.mutc = false := rfl
def h100 : Hint := ⟨(fun id => match id with | 0 => some [0] | 1 => some [2] | _ => none), (fun _ => none), (fun _ => none), [], false, (fun _ => none)⟩
@[go_sem] theorem h100x : h100.mix = (fun _ => none) := rfl
@[go_sem] theorem h100l : h100.live = (fun id => match id with | 0 => some [0] | 1 => some [2] | _ => none) := rfl
@[go_sem] theorem h100k : h100.keep = (fun _ => none) := rfl
@[go_sem] theorem h100t : h100.tail = (fun _ => none) := rfl
@[go_sem] theorem h100v : h100.vars = [] := rfl
@[go_sem] theorem h100m : h100.mutc = false := rfl
def h101 : Hint := ⟨(fun id => match id with | 0 => some [0] | 1 => some [0, 7] | 2 => some [2] | 3 => some [3] | 4 => some [3, 10] | 5 => some [3, 10, 11] | 6 => some [3, 4, 10] | 7 => some [3, 10, 16] | 8 => some [2] | 9 => some [3, 10] | 10 => some [2] | _ => none), (fun _ => none), (fun _ => none), [], false, (fun _ => none)⟩
@[go_sem] theorem h101x : h101.mix = (fun _ => none) := rfl
@[go_sem] theorem h101l : h101.live = (fun id => match id with | 0 => some [0] | 1 => some [0, 7] | 2 => some [2] | 3 => some [3] | 4 => some [3, 10] | 5 => some [3, 10, 11] | 6 => some [3, 4, 10] | 7 => some [3, 10, 16] | 8 => some [2] | 9 => some [3, 10] | 10 => some [2] | _ => none) := rfl
@[go_sem] theorem h101k : h101.keep = (fun _ => none) := rfl
@[go_sem] theorem h101t : h101.tail = (fun _ => none) := rfl
@[go_sem] theorem h101v : h101.vars = [] := rfl
@[go_sem] theorem h101m : h101.mutc = false := rfl
def h102 : Hint := ⟨(fun id => match id with | 0 => some [1] | 1 => some [1, 10] | 2 => some [2] | 3 => some [2] | _ => none), (fun _ => none), (fun id => match id with | 3 => some 18 | _ => none), [], false, (fun _ => none)⟩
@[go_sem] theorem h102x : h102.mix = (fun _ => none) := rfl
@[go_sem] theorem h102l : h102.live = (fun id => match id with | 0 => some [1] | 1 => some [1, 10] | 2 => some [2] | 3 => some [2] | _ => none) := rfl
@[go_sem] theorem h102k : h102.keep = (fun _ => none) := rfl
@[go_sem] theorem h102t : h102.tail = (fun id => match id with | 3 => some 18 | _ => none) := rfl
@[go_sem] theorem h102v : h102.vars = [] := rfl
@[go_sem] theorem h102m : h102.mutc = false := rfl
def h103 : Hint := ⟨(fun id => match id with | 0 => some [0] | 1 => some [0, 4] | 2 => some [2] | 3 => some [2] | _ => none), (fun _ => none), (fun _ => none), [], false, (fun _ => none)⟩
@[go_sem] theorem h103x : h103.mix = (fun _ => none) := rfl
@[go_sem] theorem h103l : h103.live = (fun id => match id with | 0 => some [0] | 1 => some [0, 4] | 2 => some [2] | 3 => some [2] | _ => none) := rfl
@[go_sem] theorem h103k : h103.keep = (fun _ => none) := rfl
@[go_sem] theorem h103t : h103.tail = (fun _ => none) := rfl
@[go_sem] theorem h103v : h103.vars = [] := rfl
@[go_sem] theorem h103m : h103.mutc = false := rfl
def h105 : Hint := ⟨(fun id => match id with | 0 => some [0] | 1 => some [2] | _ => none), (fun _ => none), (fun _ => none), [], false, (fun _ => none)⟩
@[go_sem] theorem h105x : h105.mix = (fun _ => none) := rfl
@[go_sem] theorem h105l : h105.live = (fun id => match id with | 0 => some [0] | 1 => some [2] | _ => none) := rfl
@[go_sem] theorem h105k : h105.keep = (fun _ => none) := rfl
@[go_sem] theorem h105t : h105.tail = (fun _ => none) := rfl
@[go_sem] theorem h105v : h105.vars = [] := rfl
@[go_sem] theorem h105m : h105.mutc = false := rfl
def h106 : Hint := ⟨(fun id => match id with | 0 => some [0] | 1 => some [0, 3] | 2 => some [0, 3, 10] | 3 => some [0, 3, 5, 6] | 4 => some [0, 3, 5, 19] | 5 => some [2] | 6 => some [0, 3] | 7 => some [2] | _ => none), (fun _ => none), (fun _ => none), [], false, (fun _ => none)⟩
@[go_sem] theorem h106x : h106.mix = (fun _ => none) := rfl
@[go_sem] theorem h106l : h106.live = (fun id => match id with | 0 => some [0] | 1 => some [0, 3] | 2 => some [0, 3, 10] | 3 => some [0, 3, 5, 6] | 4 => some [0, 3, 5, 19] | 5 => some [2] | 6 => some [0, 3] | 7 => some [2] | _ => none) := rfl
@[go_sem] theorem h106k : h106.keep = (fun _ => none) := rfl
@[go_sem] theorem h106t : h106.tail = (fun _ => none) := rfl
@[go_sem] theorem h106v : h106.vars = [] := rfl
@[go_sem] theorem h106m : h106.mutc = false := rfl
def h107 : Hint := ⟨(fun id => match id with | 0 => some [0] | 1 => some [2] | _ => none), (fun _ => none), (fun _ => none), [], false, (fun _ => none)⟩
@[go_sem] theorem h107x : h107.mix = (fun _ => none) := rfl
@[go_sem] theorem h107l : h107.live = (fun id => match id with | 0 => some [0] | 1 => some [2] | _ => none) := rfl
@[go_sem] theorem h107k : h107.keep = (fun _ => none) := rfl
@[go_sem] theorem h107t : h107.tail = (fun _ => none) := rfl
@[go_sem] theorem h107v : h107.vars = [] := rfl
@[go_sem] theorem h107m : h107.mutc = false := rfl
def h109 : Hint := ⟨(fun id => match id with | 0 => some [0] | 1 => some [0, 7] | 2 => some [0, 3, 4] | 3 => some [0, 4, 36] | 4 => some [2] | 5 => some [0] | 6 => some [2] | _ => none), (fun _ => none), (fun _ => none), [], false, (fun _ => none)⟩
@[go_sem] theorem h109x : h109.mix = (fun _ => none) := rfl
@[go_sem] theorem h109l : h109.live = (fun id => match id with | 0 => some [0] | 1 => some [0, 7] | 2 => some [0, 3, 4] | 3 => some [0, 4, 36] | 4 => some [2] | 5 => some [0] | 6 => some [2] | _ => none) := rfl
@[go_sem] theorem h109k : h109.keep = (fun _ => none) := rfl
@[go_sem] theorem h109t : h109.tail = (fun _ => none) := rfl
@[go_sem] theorem h109v : h109.vars = [] := rfl
@[go_sem] theorem h109m : h109.mutc = false := rfl
def h117 : Hint := ⟨(fun id => match id with | 0 => some [0] | 1 => some [2] | _ => none), (fun _ => none), (fun _ => none), [], false, (fun _ => none)⟩
@[go_sem] theorem h117x : h117.mix = (fun _ => none) := rfl
@[go_sem] theorem h117l : h117.live = (fun id => match id with | 0 => some [0] | 1 => some [2] | _ => none) := rfl
@[go_sem] theorem h117k : h117.keep = (fun _ => none) := rfl
@[go_sem] theorem h117t : h117.tail = (fun _ => none) := rfl
@[go_sem] theorem h117v : h117.vars = [] := rfl
@[go_sem] theorem h117m : h117.mutc = false := rfl
def h118 : Hint := ⟨(fun id => match id with | 0 => some [0] | 1 => some [2] | _ => none), (fun _ => none), (fun _ => none), [], false, (fun _ => none)⟩
@[go_sem] theorem h118x : h118.mix = (fun _ => none) := rfl
@[go_sem] theorem h118l : h118.live = (fun id => match id with | 0 => some [0] | 1 => some [2] | _ => none) := rfl
@[go_sem] theorem h118k : h118.keep = (fun _ => none) := rfl
@[go_sem] theorem h118t : h118.tail = (fun _ => none) := rfl
@[go_sem] theorem h118v : h118.vars = [] := rfl
@[go_sem] theorem h118m : h118.mutc = false := rfl
def h122 : Hint := ⟨(fun id => match id with | 0 => some [0] | 1 => some [0, 3] | 2 => some [3, 6, 7, 8] | 3 => some [3, 6, 7, 8, 9] | 4 => some [3, 5, 6, 7, 8] | 5 => some [3, 5, 6, 7, 8, 14] | 6 => some [3, 5, 6, 7, 8, 14] | 7 => some [3, 6, 7, 8] | 8 => some [3, 5, 6, 7, 8, 36] | 9 => some [3, 6, 7, 8] | 10 => some [3, 5, 6, 7, 8, 44] | 11 => some [3, 6, 7, 8] | 12 => some [3, 5, 6, 7, 8, 58] | 13 => some [3, 6, 7, 8] | 14 => some [3, 6, 7, 8] | 15 => some [2] | _ => none), (fun _ => none), (fun _ => none), [3], false, (fun _ => none)⟩
@[go_sem] theorem h122x : h122.mix = (fun _ => none) := rfl
@[go_sem] theorem h122l : h122.live = (fun id => match id with | 0 => some [0] | 1 => some [0, 3] | 2 => some [3, 6, 7, 8] | 3 => some [3, 6, 7, 8, 9] | 4 => some [3, 5, 6, 7, 8] | 5 => some [3, 5, 6, 7, 8, 14] | 6 => some [3, 5, 6, 7, 8, 14] | 7 => some [3, 6, 7, 8] | 8 => some [3, 5, 6, 7, 8, 36] | 9 => some [3, 6, 7, 8] | 10 => some [3, 5, 6, 7, 8, 44] | 11 => some [3, 6, 7, 8] | 12 => some [3, 5, 6, 7, 8, 58] | 13 => some [3, 6, 7, 8] | 14 => some [3, 6, 7, 8] | 15 => some [2] | _ => none) := rfl
@[go_sem] theorem h122k : h122.keep = (fun _ => none) := rfl
@[go_sem] theorem h122t : h122.tail = (fun _ => none) := rfl
@[go_sem] theorem h122v : h122.vars = [3] := rfl
@[go_sem] theorem h122m : h122.mutc = false := rfl
def h123 : Hint := ⟨(fun id => match id with | 0 => some [0] | 1 => some [0, 4] | 2 => some [0, 4, 5, 6] | 3 => some [0, 4, 5, 6] | 4 => some [2, 3] | 5 => some [0, 4, 5, 6, 13] | 6 => some [2, 3] | 7 => some [0, 4, 5, 6, 18] | 8 => some [0, 5, 6, 7, 8] | 9 => some [0, 4, 5, 6, 28] | 10 => some [0, 4, 5, 6, 7, 8] | 11 => some [0, 5, 6, 7, 8, 38] | 12 => some [0, 5, 6, 7, 8, 38, 39] | 13 => some [0, 5, 6, 7, 8, 38, 39] | 14 => some [0, 5, 6, 7, 8, 41] | 15 => some [0, 5, 6, 7, 8, 38, 39] | 16 => some [0, 4, 5, 6, 43] | 17 => some [0, 4, 5, 6, 7, 8] | 18 => some [0, 5, 6, 7, 8, 53] | 19 => some [0, 5, 6, 7, 8, 53, 54] | 20 => some [0, 5, 6, 7, 8, 53, 54] | 21 => some [0, 5, 6, 7, 8, 56] | 22 => some [0, 5, 6, 7, 8, 53, 54] | 23 => some [0, 5, 6, 7, 8, 58, 59] | 24 => some [0, 5, 6, 7, 8, 58, 59, 60] | 25 => some [0, 5, 6, 7, 8, 9, 58, 59] | 26 => some [0, 7, 8, 9, 58, 59, 84] | 27 => some [2, 3] | 28 => some [0, 7, 8, 58, 59] | 29 => some [0, 5, 6, 7, 8, 58, 59] | 30 => some [0, 5, 6, 7, 8, 58, 59] | 31 => some [2, 3] | _ => none), (fun _ => none), (fun _ => none), [], false, (fun _ => none)⟩
@[go_sem] theorem h123x : h123.mix = (fun _ => none) := rfl
@[go_sem] theorem h123l : h123.live = (fun id => match id with | 0 => some [0] | 1 => some [0, 4] | 2 => some [0, 4, 5, 6] | 3 => some [0, 4, 5, 6] | 4 => some [2, 3] | 5 => some [0, 4, 5, 6, 13] | 6 => some [2, 3] | 7 => some [0, 4, 5, 6, 18] | 8 => some [0, 5, 6, 7, 8] | 9 => some [0, 4, 5, 6, 28] | 10 => some [0, 4, 5, 6, 7, 8] | 11 => some [0, 5, 6, 7, 8, 38] | 12 => some [0, 5, 6, 7, 8, 38, 39] | 13 => some [0, 5, 6, 7, 8, 38, 39] | 14 => some [0, 5, 6, 7, 8, 41] | 15 => some [0, 5, 6, 7, 8, 38, 39] | 16 => some [0, 4, 5, 6, 43] | 17 => some [0, 4, 5, 6, 7, 8] | 18 => some [0, 5, 6, 7, 8, 53] | 19 => some [0, 5, 6, 7, 8, 53, 54] | 20 => some [0, 5, 6, 7, 8, 53, 54] | 21 => some [0, 5, 6, 7, 8, 56] | 22 => some [0, 5, 6, 7, 8, 53, 54] | 23 => some [0, 5, 6, 7, 8, 58, 59] | 24 => some [0, 5, 6, 7, 8, 58, 59, 60] | 25 => some [0, 5, 6, 7, 8, 9, 58, 59] | 26 => some [0, 7, 8, 9, 58, 59, 84] | 27 => some [2, 3] | 28 => some [0, 7, 8, 58, 59] | 29 => some [0, 5, 6, 7, 8, 58, 59] | 30 => some [0, 5, 6, 7, 8, 58, 59] | 31 => some [2, 3] | _ => none) := rfl
@[go_sem] theorem h123k : h123.keep = (fun _ => none) := rfl
@[go_sem] theorem h123t : h123.tail = (fun _ => none) := rfl
@[go_sem] theorem h123v : h123.vars = [] := rfl
@[go_sem] theorem h123m : h123.mutc = false := rfl
def h124 : Hint := ⟨(fun id => match id with | 0 => some [0, 1] | 1 => some [0, 1, 7] | 2 => some [0, 1, 7, 18] | 3 => some [4, 5, 6] | 4 => some [0, 1, 7, 8, 9, 10] | 5 => some [0, 1, 7, 8, 9, 10, 28] | 6 => some [4, 5, 6] | 7 => some [0, 1, 8, 9, 10, 11] | 8 => some [0, 1, 8, 9, 10, 11, 12] | 9 => some [0, 1, 8, 9, 10, 11, 12, 37] | 10 => some [0, 1, 8, 9, 10, 11, 12] | 11 => some [0, 1, 8, 11, 12, 65] | 12 => some [4, 5, 6] | 13 => some [0, 1, 8, 11, 12] | 14 => some [0, 1, 8, 9, 10, 11, 12] | 15 => some [4, 5, 6] | _ => none), (fun _ => none), (fun _ => none), [], false, (fun _ => none)⟩
@[go_sem] theorem h124x : h124.mix = (fun _ => none) := rfl
@[go_sem] theorem h124l : h124.live = (fun id => match id with | 0 => some [0, 1] | 1 => some [0, 1, 7] | 2 => some [0, 1, 7, 18] | 3 => some [4, 5, 6] | 4 => some [0, 1, 7, 8, 9, 10] | 5 => some [0, 1, 7, 8, 9, 10, 28] | 6 => some [4, 5, 6] | 7 => some [0, 1, 8, 9, 10, 11] | 8 => some [0, 1, 8, 9, 10, 11, 12] | 9 => some [0, 1, 8, 9, 10, 11, 12, 37] | 10 => some [0, 1, 8, 9, 10, 11, 12] | 11 => some [0, 1, 8, 11, 12, 65] | 12 => some [4, 5, 6] | 13 => some [0, 1, 8, 11, 12] | 14 => some [0, 1, 8, 9, 10, 11, 12] | 15 => some [4, 5, 6] | _ => none) := rfl
@[go_sem] theorem h124k : h124.keep = (fun _ => none) := rfl
@[go_sem] theorem h124t : h124.tail = (fun _ => none) := rfl
@[go_sem] theorem h124v : h124.vars = [] := rfl
@[go_sem] theorem h124m : h124.mutc = false := rfl
def h125 : Hint := ⟨(fun id => match id with | 0 => some [0, 1] | 1 => some [4] | _ => none), (fun _ => none), (fun _ => none), [], false, (fun _ => none)⟩
@[go_sem] theorem h125x : h125.mix = (fun _ => none) := rfl
@[go_sem] theorem h125l : h125.live = (fun id => match id with | 0 => some [0, 1] | 1 => some [4] | _ => none) := rfl
@[go_sem] theorem h125k : h125.keep = (fun _ => none) := rfl
@[go_sem] theorem h125t : h125.tail = (fun _ => none) := rfl
@[go_sem] theorem h125v : h125.vars = [] := rfl
@[go_sem] theorem h125m : h125.mutc = false := rfl
def h126 : Hint := ⟨(fun id => match id with | 0 => some [0, 1] | 1 => some [0, 1, 7] | 2 => some [4] | 3 => some [4] | _ => none), (fun _ => none), (fun _ => none), [0], false, (fun _ => none)⟩
@[go_sem] theorem h126x : h126.mix = (fun _ => none) := rfl
@[go_sem] theorem h126l : h126.live = (fun id => match id with | 0 => some [0, 1] | 1 => some [0, 1, 7] | 2 => some [4] | 3 => some [4] | _ => none) := rfl
@[go_sem] theorem h126k : h126.keep = (fun _ => none) := rfl
@[go_sem] theorem h126t : h126.tail = (fun _ => none) := rfl
@[go_sem] theorem h126v : h126.vars = [0] := rfl
@[go_sem] theorem h126m : h126.mutc = false := rfl
def h127 : Hint := ⟨(fun id => match id with | 0 => some [0, 1] | 1 => some [4] | _ => none), (fun _ => none), (fun _ => none), [], false, (fun _ => none)⟩
@[go_sem] theorem h127x : h127.mix = (fun _ => none) := rfl
@[go_sem] theorem h127l : h127.live = (fun id => match id with | 0 => some [0, 1] | 1 => some [4] | _ => none) := rfl
@[go_sem] theorem h127k : h127.keep = (fun _ => none) := rfl
@[go_sem] theorem h127t : h127.tail = (fun _ => none) := rfl
@[go_sem] theorem h127v : h127.vars = [] := rfl
@[go_sem] theorem h127m : h127.mutc = false := rfl
def h128 : Hint := ⟨(fun id => match id with | 0 => some [1] | 1 => some [2] | _ => none), (fun _ => none), (fun id => match id with | 1 => some 18 | _ => none), [], false, (fun _ => none)⟩
@[go_sem] theorem h128x : h128.mix = (fun _ => none) := rfl
@[go_sem] theorem h128l : h128.live = (fun id => match id with | 0 => some [1] | 1 => some [2] | _ => none) := rfl
@[go_sem] theorem h128k : h128.keep = (fun _ => none) := rfl
@[go_sem] theorem h128t : h128.tail = (fun id => match id with | 1 => some 18 | _ => none) := rfl
@[go_sem] theorem h128v : h128.vars = [] := rfl
@[go_sem] theorem h128m : h128.mutc = false := rfl
def h133 : Hint := ⟨(fun id => match id with | 0 => some [0, 1] | 1 => some [0, 1, 16] | 2 => some [0, 1] | 3 => some [4] | _ => none), (fun _ => none), (fun _ => none), [], false, (fun _ => none)⟩
@[go_sem] theorem h133x : h133.mix = (fun _ => none) := rfl
@[go_sem] theorem h133l : h133.live = (fun id => match id with | 0 => some [0, 1] | 1 => some [0, 1, 16] | 2 => some [0, 1] | 3 => some [4] | _ => none) := rfl
@[go_sem] theorem h133k : h133.keep = (fun _ => none) := rfl
@[go_sem] theorem h133t : h133.tail = (fun _ => none) := rfl
@[go_sem] theorem h133v : h133.vars = [] := rfl
@[go_sem] theorem h133m : h133.mutc = false := rfl
def h137 : Hint := ⟨(fun id => match id with | 0 => some [0, 1] | 1 => some [0, 1, 7] | 2 => some [4] | 3 => some [4] | _ => none), (fun _ => none), (fun _ => none), [], false, (fun _ => none)⟩
@[go_sem] theorem h137x : h137.mix = (fun _ => none) := rfl
@[go_sem] theorem h137l : h137.live = (fun id => match id with | 0 => some [0, 1] | 1 => some [0, 1, 7] | 2 => some [4] | 3 => some [4] | _ => none) := rfl
@[go_sem] theorem h137k : h137.keep = (fun _ => none) := rfl
@[go_sem] theorem h137t : h137.tail = (fun _ => none) := rfl
@[go_sem] theorem h137v : h137.vars = [] := rfl
@[go_sem] theorem h137m : h137.mutc = false := rfl
def h138 : Hint := ⟨(fun id => match id with | 0 => some [0, 1] | 1 => some [0, 1, 6] | 2 => some [0, 1] | 3 => some [4] | _ => none), (fun _ => none), (fun id => match id with | 2 => some 4 | _ => none), [], false, (fun id => match id with | 2 => some ⟨[0, 1, 2, 3], [], .head 0 (.head 1 (.alt (.one 2 (.alt (.one 3 (.one 4 (.one 5 (.fin)))) (.one 4 (.head 3 (.one 5 (.fin)))))) (.one 4 (.head 2 (.head 3 (.one 5 (.fin)))))))⟩ | _ => none)⟩
@[go_sem] theorem h138x : h138.mix = (fun id => match id with | 2 => some ⟨[0, 1, 2, 3], [], .head 0 (.head 1 (.alt (.one 2 (.alt (.one 3 (.one 4 (.one 5 (.fin)))) (.one 4 (.head 3 (.one 5 (.fin)))))) (.one 4 (.head 2 (.head 3 (.one 5 (.fin)))))))⟩ | _ => none) := rfl
@[go_sem] theorem h138l : h138.live = (fun id => match id with | 0 => some [0, 1] | 1 => some [0, 1, 6] | 2 => some [0, 1] | 3 => some [4] | _ => none) := rfl
@[go_sem] theorem h138k : h138.keep = (fun _ => none) := rfl
@[go_sem] theorem h138t : h138.tail = (fun id => match id with | 2 => some 4 | _ => none) := rfl
@[go_sem] theorem h138v : h138.vars = [] := rfl
@[go_sem] theorem h138m : h138.mutc = false := rfl
def h140 : Hint := ⟨(fun id => match id with | 0 => some [0, 1] | 1 => some [4] | _ => none), (fun _ => none), (fun _ => none), [], false, (fun _ => none)⟩
@[go_sem] theorem h140x : h140.mix = (fun _ => none) := rfl
@[go_sem] theorem h140l : h140.live = (fun id => match id with | 0 => some [0, 1] | 1 => some [4] | _ => none) := rfl
@[go_sem] theorem h140k : h140.keep = (fun _ => none) := rfl
@[go_sem] theorem h140t : h140.tail = (fun _ => none) := rfl
@[go_sem] theorem h140v : h140.vars = [] := rfl
@[go_sem] theorem h140m : h140.mutc = false := rfl
def h157 : Hint := ⟨(fun id => match id with | 0 => some [0] | 1 => some [0, 5] | 2 => some [2, 3, 4] | 3 => some [0, 12] | 4 => some [2, 3, 4] | 5 => some [0, 15] | 6 => some [2, 3, 4] | 7 => some [0, 18] | 8 => some [2, 3, 4] | 9 => some [0, 25] | 10 => some [2, 3, 4] | 11 => some [0, 28] | 12 => some [2, 3, 4] | 13 => some [35] | 14 => some [2, 3, 4] | 15 => some [2, 3, 4] | _ => none), (fun _ => none), (fun _ => none), [], false, (fun _ => none)⟩
@[go_sem] theorem h157x : h157.mix = (fun _ => none) := rfl
@[go_sem] theorem h157l : h157.live = (fun id => match id with | 0 => some [0] | 1 => some [0, 5] | 2 => some [2, 3, 4] | 3 => some [0, 12] | 4 => some [2, 3, 4] | 5 => some [0, 15] | 6 => some [2, 3, 4] | 7 => some [0, 18] | 8 => some [2, 3, 4] | 9 => some [0, 25] | 10 => some [2, 3, 4] | 11 => some [0, 28] | 12 => some [2, 3, 4] | 13 => some [35] | 14 => some [2, 3, 4] | 15 => some [2, 3, 4] | _ => none) := rfl
@[go_sem] theorem h157k : h157.keep = (fun _ => none) := rfl
@[go_sem] theorem h157t : h157.tail = (fun _ => none) := rfl
@[go_sem] theorem h157v : h157.vars = [] := rfl
@[go_sem] theorem h157m : h157.mutc = false := rfl
def h158 : Hint := ⟨(fun id => match id with | 0 => some [0, 1] | 1 => some [0, 1, 5] | 2 => some [4] | 3 => some [0, 1, 5, 11] | 4 => some [4] | 5 => some [0, 1, 5, 25] | 6 => some [0, 1, 5, 25] | 7 => some [4] | 8 => some [0, 1, 50] | 9 => some [4] | _ => none), (fun _ => none), (fun _ => none), [0], false, (fun _ => none)⟩
@[go_sem] theorem h158x : h158.mix = (fun _ => none) := rfl
@[go_sem] theorem h158l : h158.live = (fun id => match id with | 0 => some [0, 1] | 1 => some [0, 1, 5] | 2 => some [4] | 3 => some [0, 1, 5, 11] | 4 => some [4] | 5 => some [0, 1, 5, 25] | 6 => some [0, 1, 5, 25] | 7 => some [4] | 8 => some [0, 1, 50] | 9 => some [4] | _ => none) := rfl
@[go_sem] theorem h158k : h158.keep = (fun _ => none) := rfl
@[go_sem] theorem h158t : h158.tail = (fun _ => none) := rfl
@[go_sem] theorem h158v : h158.vars = [0] := rfl
@[go_sem] theorem h158m : h158.mutc = false := rfl
def h160 : Hint := ⟨(fun id => match id with | 0 => some [0, 1] | 1 => some [0, 1, 6] | 2 => some [0, 1] | 3 => some [4] | _ => none), (fun _ => none), (fun _ => none), [], false, (fun _ => none)⟩
@[go_sem] theorem h160x : h160.mix = (fun _ => none) := rfl
@[go_sem] theorem h160l : h160.live = (fun id => match id with | 0 => some [0, 1] | 1 => some [0, 1, 6] | 2 => some [0, 1] | 3 => some [4] | _ => none) := rfl
@[go_sem] theorem h160k : h160.keep = (fun _ => none) := rfl
@[go_sem] theorem h160t : h160.tail = (fun _ => none) := rfl
@[go_sem] theorem h160v : h160.vars = [] := rfl
@[go_sem] theorem h160m : h160.mutc = false := rfl
def h167 : Hint := ⟨(fun id => match id with | 0 => some [0] | 1 => some [0, 4] | 2 => some [2] | 3 => some [2] | _ => none), (fun _ => none), (fun _ => none), [], false, (fun _ => none)⟩
@[go_sem] theorem h167x : h167.mix = (fun _ => none) := rfl
@[go_sem] theorem h167l : h167.live = (fun id => match id with | 0 => some [0] | 1 => some [0, 4] | 2 => some [2] | 3 => some [2] | _ => none) := rfl
@[go_sem] theorem h167k : h167.keep = (fun _ => none) := rfl
@[go_sem] theorem h167t : h167.tail = (fun _ => none) := rfl
@[go_sem] theorem h167v : h167.vars = [] := rfl
@[go_sem] theorem h167m : h167.mutc = false := rfl
def h168 : Hint := ⟨(fun id => match id with | 0 => some [0] | 1 => some [0, 3] | 2 => some [2] | _ => none), (fun _ => none), (fun _ => none), [], false, (fun _ => none)⟩
@[go_sem] theorem h168x : h168.mix = (fun _ => none) := rfl
@[go_sem] theorem h168l : h168.live = (fun id => match id with | 0 => some [0] | 1 => some [0, 3] | 2 => some [2] | _ => none) := rfl
@[go_sem] theorem h168k : h168.keep = (fun _ => none) := rfl
@[go_sem] theorem h168t : h168.tail = (fun _ => none) := rfl
@[go_sem] theorem h168v : h168.vars = [] := rfl
@[go_sem] theorem h168m : h168.mutc = false := rfl
def h169 : Hint := ⟨(fun id => match id with | 0 => some [0, 1, 4] | 1 => some [0, 1, 4, 20] | 2 => some [0, 1, 4, 5] | 3 => some [0, 1, 4, 5] | 4 => some [0, 1, 4, 6, 7] | 5 => some [0, 1, 4, 6, 8, 9] | 6 => some [0, 1, 4, 8, 9, 10, 11] | 7 => some [0, 1, 4, 8, 10, 11] | 8 => some [0, 1, 4, 10, 11] | 9 => some [0, 1, 4, 10] | 10 => some [0, 1, 4] | 11 => some [0, 1, 4] | 12 => some [0, 4, 12] | 13 => some [0, 4, 12, 99] | 14 => some [0, 4, 12, 13] | 15 => some [0, 4, 12, 13] | 16 => some [0, 4, 12, 14, 15] | 17 => some [0, 4, 12, 14] | 18 => some [0, 4, 12] | 19 => some [0, 4, 12, 99] | 20 => some [0, 4, 12, 139] | 21 => some [0, 4, 12, 16] | 22 => some [0, 4, 12, 16] | 23 => some [0, 4, 12] | 24 => some [0, 4, 12, 139] | 25 => some [0, 12, 161] | 26 => some [0, 12, 161] | _ => none), (fun _ => none), (fun id => match id with | 7 => some 12 | 8 => some 12 | 9 => some 12 | 10 => some 12 | 17 => some 12 | 18 => some 12 | 23 => some 12 | _ => none), [], false, (fun _ => none)⟩
@[go_sem] theorem h169x : h169.mix = (fun _ => none) := rfl
@[go_sem] theorem h169l : h169.live = (fun id => match id with | 0 => some [0, 1, 4] | 1 => some [0, 1, 4, 20] | 2 => some [0, 1, 4, 5] | 3 => some [0, 1, 4, 5] | 4 => some [0, 1, 4, 6, 7] | 5 => some [0, 1, 4, 6, 8, 9] | 6 => some [0, 1, 4, 8, 9, 10, 11] | 7 => some [0, 1, 4, 8, 10, 11] | 8 => some [0, 1, 4, 10, 11] | 9 => some [0, 1, 4, 10] | 10 => some [0, 1, 4] | 11 => some [0, 1, 4] | 12 => some [0, 4, 12] | 13 => some [0, 4, 12, 99] | 14 => some [0, 4, 12, 13] | 15 => some [0, 4, 12, 13] | 16 => some [0, 4, 12, 14, 15] | 17 => some [0, 4, 12, 14] | 18 => some [0, 4, 12] | 19 => some [0, 4, 12, 99] | 20 => some [0, 4, 12, 139] | 21 => some [0, 4, 12, 16] | 22 => some [0, 4, 12, 16] | 23 => some [0, 4, 12] | 24 => some [0, 4, 12, 139] | 25 => some [0, 12, 161] | 26 => some [0, 12, 161] | _ => none) := rfl
@[go_sem] theorem h169k : h169.keep = (fun _ => none) := rfl
@[go_sem] theorem h169t : h169.tail = (fun id => match id with | 7 => some 12 | 8 => some 12 | 9 => some 12 | 10 => some 12 | 17 => some 12 | 18 => some 12 | 23 => some 12 | _ => none) := rfl
@[go_sem] theorem h169v : h169.vars = [] := rfl
@[go_sem] theorem h169m : h169.mutc = false := rfl
def h170 : Hint := ⟨(fun id => match id with | 0 => some [0, 1, 2, 3, 4, 10, 11] | 1 => some [0, 1, 2, 3, 4, 10, 11, 28] | 2 => some [0, 1, 2, 3, 4, 10, 11, 28] | 3 => some [0, 1, 2, 3, 4, 10, 11, 12] | 4 => some [0, 1, 2, 3, 4, 10, 11, 12, 13] | 5 => some [0, 1, 2, 3, 4, 10, 11, 12, 13, 30] | 6 => some [0, 1, 2, 3, 4, 10, 11, 12, 13, 30] | 7 => some [0, 1, 2, 3, 4, 10, 11, 12, 13, 34] | 8 => some [0, 1, 2, 3, 4, 10, 11, 12, 13, 14] | 9 => some [0, 1, 2, 3, 4, 10, 11, 12, 13, 14, 15] | 10 => some [0, 1, 3, 4, 10, 11, 12, 13, 14, 15, 16] | 11 => some [0, 1, 3, 4, 10, 11, 12, 13, 14, 15, 16, 46] | 12 => some [0, 1, 3, 4, 10, 11, 12, 13, 14, 15, 16] | 13 => some [0, 1, 3, 4, 10, 11, 12, 13, 14, 15, 16] | 14 => some [0, 1, 3, 4, 10, 11, 12, 13, 14, 15, 16] | 15 => some [0, 1, 3, 4, 10, 11, 12, 13] | 16 => some [0, 3, 4, 10, 11, 12, 13] | 17 => some [0, 1, 3, 4, 10, 11, 12, 13, 17] | 18 => some [0, 1, 3, 4, 10, 11, 12, 13, 17, 68] | 19 => some [0, 1, 3, 4, 10, 11, 12, 13, 17] | 20 => some [0, 1, 3, 4, 10, 11, 12, 13, 17, 18] | 21 => some [0, 3, 4, 10, 11, 12, 13, 17, 18] | 22 => some [0, 1, 3, 4, 10, 11, 12, 13, 17] | 23 => some [0, 1, 3, 4, 10, 11, 12, 13] | 24 => some [0, 3, 4, 10, 11, 12, 13] | 25 => some [0, 4, 10, 11, 12, 13, 89] | 26 => some [0, 4, 10, 11, 12, 13] | 27 => some [0, 4, 10, 11, 12, 13, 89] | 28 => some [0, 10, 11, 12, 13, 94] | 29 => some [10, 11] | 30 => some [10, 11] | _ => none), (fun _ => none), (fun _ => none), [0], false, (fun _ => none)⟩
@[go_sem] theorem h170x : h170.mix = (fun _ => none) := rfl
@[go_sem] theorem h170l : h170.live = (fun id => match id with | 0 => some [0, 1, 2, 3, 4, 10, 11] | 1 => some [0, 1, 2, 3, 4, 10, 11, 28] | 2 => some [0, 1, 2, 3, 4, 10, 11, 28] | 3 => some [0, 1, 2, 3, 4, 10, 11, 12] | 4 => some [0, 1, 2, 3, 4, 10, 11, 12, 13] | 5 => some [0, 1, 2, 3, 4, 10, 11, 12, 13, 30] | 6 => some [0, 1, 2, 3, 4, 10, 11, 12, 13, 30] | 7 => some [0, 1, 2, 3, 4, 10, 11, 12, 13, 34] | 8 => some [0, 1, 2, 3, 4, 10, 11, 12, 13, 14] | 9 => some [0, 1, 2, 3, 4, 10, 11, 12, 13, 14, 15] | 10 => some [0, 1, 3, 4, 10, 11, 12, 13, 14, 15, 16] | 11 => some [0, 1, 3, 4, 10, 11, 12, 13, 14, 15, 16, 46] | 12 => some [0, 1, 3, 4, 10, 11, 12, 13, 14, 15, 16] | 13 => some [0, 1, 3, 4, 10, 11, 12, 13, 14, 15, 16] | 14 => some [0, 1, 3, 4, 10, 11, 12, 13, 14, 15, 16] | 15 => some [0, 1, 3, 4, 10, 11, 12, 13] | 16 => some [0, 3, 4, 10, 11, 12, 13] | 17 => some [0, 1, 3, 4, 10, 11, 12, 13, 17] | 18 => some [0, 1, 3, 4, 10, 11, 12, 13, 17, 68] | 19 => some [0, 1, 3, 4, 10, 11, 12, 13, 17] | 20 => some [0, 1, 3, 4, 10, 11, 12, 13, 17, 18] | 21 => some [0, 3, 4, 10, 11, 12, 13, 17, 18] | 22 => some [0, 1, 3, 4, 10, 11, 12, 13, 17] | 23 => some [0, 1, 3, 4, 10, 11, 12, 13] | 24 => some [0, 3, 4, 10, 11, 12, 13] | 25 => some [0, 4, 10, 11, 12, 13, 89] | 26 => some [0, 4, 10, 11, 12, 13] | 27 => some [0, 4, 10, 11, 12, 13, 89] | 28 => some [0, 10, 11, 12, 13, 94] | 29 => some [10, 11] | 30 => some [10, 11] | _ => none) := rfl
@[go_sem] theorem h170k : h170.keep = (fun _ => none) := rfl
@[go_sem] theorem h170t : h170.tail = (fun _ => none) := rfl
@[go_sem] theorem h170v : h170.vars = [0] := rfl
@[go_sem] theorem h170m : h170.mutc = false := rfl
def h171 : Hint := ⟨(fun id => match id with | 0 => some [0, 1] | 1 => some [0, 1, 11] | 2 => some [0, 17] | 3 => some [4] | 4 => some [0, 5] | 5 => some [0, 5, 6] | 6 => some [0, 5, 6, 23] | 7 => some [0, 5, 6, 23] | 8 => some [0, 5, 6, 7] | 9 => some [0, 5, 7] | 10 => some [5, 7, 34] | 11 => some [5, 7] | 12 => some [4] | 13 => some [4] | 14 => some [9] | 15 => some [4] | _ => none), (fun _ => none), (fun _ => none), [], false, (fun _ => none)⟩
@[go_sem] theorem h171x : h171.mix = (fun _ => none) := rfl
@[go_sem] theorem h171l : h171.live = (fun id => match id with | 0 => some [0, 1] | 1 => some [0, 1, 11] | 2 => some [0, 17] | 3 => some [4] | 4 => some [0, 5] | 5 => some [0, 5, 6] | 6 => some [0, 5, 6, 23] | 7 => some [0, 5, 6, 23] | 8 => some [0, 5, 6, 7] | 9 => some [0, 5, 7] | 10 => some [5, 7, 34] | 11 => some [5, 7] | 12 => some [4] | 13 => some [4] | 14 => some [9] | 15 => some [4] | _ => none) := rfl
@[go_sem] theorem h171k : h171.keep = (fun _ => none) := rfl
@[go_sem] theorem h171t : h171.tail = (fun _ => none) := rfl
@[go_sem] theorem h171v : h171.vars = [] := rfl
@[go_sem] theorem h171m : h171.mutc = false := rfl
def h189 : Hint := ⟨(fun id => match id with | 0 => some [0] | 1 => some [2] | _ => none), (fun _ => none), (fun _ => none), [], false, (fun _ => none)⟩
@[go_sem] theorem h189x : h189.mix = (fun _ => none) := rfl
@[go_sem] theorem h189l : h189.live = (fun id => match id with | 0 => some [0] | 1 => some [2] | _ => none) := rfl
@[go_sem] theorem h189k : h189.keep = (fun _ => none) := rfl
@[go_sem] theorem h189t : h189.tail = (fun _ => none) := rfl
@[go_sem] theorem h189v : h189.vars = [] := rfl
@[go_sem] theorem h189m : h189.mutc = false := rfl
def h190 : Hint := ⟨(fun id => match id with | 0 => some [0, 2] | 1 => some [0, 2, 4] | 2 => some [0] | 3 => some [0, 2, 4] | 4 => some [0, 2, 8] | 5 => some [0, 2] | 6 => some [0, 2, 8] | 7 => some [0, 2, 14] | 8 => some [0, 2] | 9 => some [0, 2, 14] | 10 => some [2] | _ => none), (fun _ => none), (fun _ => none), [], false, (fun _ => none)⟩
@[go_sem] theorem h190x : h190.mix = (fun _ => none) := rfl
@[go_sem] theorem h190l : h190.live = (fun id => match id with | 0 => some [0, 2] | 1 => some [0, 2, 4] | 2 => some [0] | 3 => some [0, 2, 4] | 4 => some [0, 2, 8] | 5 => some [0, 2] | 6 => some [0, 2, 8] | 7 => some [0, 2, 14] | 8 => some [0, 2] | 9 => some [0, 2, 14] | 10 => some [2] | _ => none) := rfl
@[go_sem] theorem h190k : h190.keep = (fun _ => none) := rfl
@[go_sem] theorem h190t : h190.tail = (fun _ => none) := rfl
@[go_sem] theorem h190v : h190.vars = [] := rfl
@[go_sem] theorem h190m : h190.mutc = false := rfl
def h191 : Hint := ⟨(fun id => match id with | 0 => some [0] | 1 => some [3] | 2 => some [2] | 3 => some [2] | _ => none), (fun _ => none), (fun _ => none), [], false, (fun _ => none)⟩
@[go_sem] theorem h191x : h191.mix = (fun _ => none) := rfl
@[go_sem] theorem h191l : h191.live = (fun id => match id with | 0 => some [0] | 1 => some [3] | 2 => some [2] | 3 => some [2] | _ => none) := rfl
@[go_sem] theorem h191k : h191.keep = (fun _ => none) := rfl
@[go_sem] theorem h191t : h191.tail = (fun _ => none) := rfl
@[go_sem] theorem h191v : h191.vars = [] := rfl
@[go_sem] theorem h191m : h191.mutc = false := rfl
def h192 : Hint := ⟨(fun id => match id with | 0 => some [0] | 1 => some [2] | _ => none), (fun _ => none), (fun _ => none), [], false, (fun _ => none)⟩
@[go_sem] theorem h192x : h192.mix = (fun _ => none) := rfl
@[go_sem] theorem h192l : h192.live = (fun id => match id with | 0 => some [0] | 1 => some [2] | _ => none) := rfl
@[go_sem] theorem h192k : h192.keep = (fun _ => none) := rfl
@[go_sem] theorem h192t : h192.tail = (fun _ => none) := rfl
@[go_sem] theorem h192v : h192.vars = [] := rfl
@[go_sem] theorem h192m : h192.mutc = false := rfl
def h193 : Hint := ⟨(fun id => match id with | 0 => some [0] | 1 => some [2] | 2 => some [2] | _ => none), (fun _ => none), (fun _ => none), [], false, (fun _ => none)⟩
@[go_sem] theorem h193x : h193.mix = (fun _ => none) := rfl
@[go_sem] theorem h193l : h193.live = (fun id => match id with | 0 => some [0] | 1 => some [2] | 2 => some [2] | _ => none) := rfl
@[go_sem] theorem h193k : h193.keep = (fun _ => none) := rfl
@[go_sem] theorem h193t : h193.tail = (fun _ => none) := rfl
@[go_sem] theorem h193v : h193.vars = [] := rfl
@[go_sem] theorem h193m : h193.mutc = false := rfl
def h199 : Hint := ⟨(fun id => match id with | 0 => some [0] | 1 => some [0, 4] | 2 => some [2] | 3 => some [2] | _ => none), (fun _ => none), (fun _ => none), [], false, (fun _ => none)⟩
@[go_sem] theorem h199x : h199.mix = (fun _ => none) := rfl
@[go_sem] theorem h199l : h199.live = (fun id => match id with | 0 => some [0] | 1 => some [0, 4] | 2 => some [2] | 3 => some [2] | _ => none) := rfl
@[go_sem] theorem h199k : h199.keep = (fun _ => none) := rfl
@[go_sem] theorem h199t : h199.tail = (fun _ => none) := rfl
@[go_sem] theorem h199v : h199.vars = [] := rfl
@[go_sem] theorem h199m : h199.mutc = false := rfl
def hints (f : Nat) : Hint := match f with
  | 5 => h5
  | 6 => h6
  | 7 => h7
  | 17 => h17
  | 18 => h18
  | 19 => h19
  | 20 => h20
  | 21 => h21
  | 22 => h22
  | 23 => h23
  | 33 => h33
  | 34 => h34
  | 35 => h35
  | 36 => h36
  | 37 => h37
  | 38 => h38
  | 39 => h39
  | 40 => h40
  | 41 => h41
  | 42 => h42
  | 43 => h43
  | 44 => h44
  | 45 => h45
  | 46 => h46
  | 47 => h47
  | 48 => h48
  | 50 => h50
  | 51 => h51
  | 52 => h52
  | 53 => h53
  | 54 => h54
  | 71 => h71
  | 75 => h75
  | 82 => h82
  | 84 => h84
  | 85 => h85
  | 86 => h86
  | 87 => h87
  | 88 => h88
  | 89 => h89
  | 91 => h91
  | 92 => h92
  | 93 => h93
  | 95 => h95
  | 96 => h96
  | 97 => h97
  | 98 => h98
  | 99 => h99
  | 100 => h100
  | 101 => h101
  | 102 => h102
  | 103 => h103
  | 105 => h105
  | 106 => h106
  | 107 => h107
  | 109 => h109
  | 117 => h117
  | 118 => h118
  | 122 => h122
  | 123 => h123
  | 124 => h124
  | 125 => h125
  | 126 => h126
  | 127 => h127
  | 128 => h128
  | 133 => h133
  | 137 => h137
  | 138 => h138
  | 140 => h140
  | 157 => h157
  | 158 => h158
  | 160 => h160
  | 167 => h167
  | 168 => h168
  | 169 => h169
  | 170 => h170
  | 171 => h171
  | 189 => h189
  | 190 => h190
  | 191 => h191
  | 192 => h192
  | 193 => h193
  | 199 => h199
  | _ => ⟨fun _ => none, fun _ => none, fun _ => none, [], false, fun _ => none⟩
variable [MX]
noncomputable def E : CallF := ev Tryz.prog hints primz
noncomputable def b5 : Code := bodyOf Tryz.f5
theorem c5 : codeOk Tryz.prog h5 28 b5 = true := by kernel_rfl
/-- jalousie/jalousielaw4.SpellToken -/
theorem e5 {lo : Nat} {args : List V} {h : Heap} (ha : args.length ≤ 28) (hb : args.all bare = true) :
    E lo 5 args h = fin Tryz.prog [.tmp 2] h.length (evCode ⟨Tryz.prog, E, lo, h.length, h5⟩ loopW b5 (args0 args, h)) :=
  ev_body rfl Tryz.func5 rfl Tryz.ntmps5 (by kernel_rfl) rfl c5 rfl ha hb
noncomputable def b6 : Code := bodyOf Tryz.f6
theorem c6 : codeOk Tryz.prog h6 28 b6 = true := by kernel_rfl
/-- jalousie/jalousielaw4.SpellTokens -/
theorem e6 {lo : Nat} {args : List V} {h : Heap} (ha : args.length ≤ 28) (hb : args.all bare = true) :
    E lo 6 args h = fin Tryz.prog [.tmp 2] h.length (evCode ⟨Tryz.prog, E, lo, h.length, h6⟩ loopW b6 (args0 args, h)) :=
  ev_body rfl Tryz.func6 rfl Tryz.ntmps6 (by kernel_rfl) rfl c6 rfl ha hb
noncomputable def b7 : Code := bodyOf Tryz.f7
theorem c7 : codeOk Tryz.prog h7 29 b7 = true := by kernel_rfl
/-- jalousie/jalousielaw4.SpellIdent -/
theorem e7 {lo : Nat} {args : List V} {h : Heap} (ha : args.length ≤ 29) (hb : args.all bare = true) :
    E lo 7 args h = fin Tryz.prog [.tmp 2] h.length (evCode ⟨Tryz.prog, E, lo, h.length, h7⟩ loopW b7 (args0 args, h)) :=
  ev_body rfl Tryz.func7 rfl Tryz.ntmps7 (by kernel_rfl) rfl c7 rfl ha hb
noncomputable def b17 : Code := bodyOf Tryz.f17
theorem c17 : codeOk Tryz.prog h17 90 b17 = true := by kernel_rfl
/-- jalousie/spell.Token -/
theorem e17 {lo : Nat} {args : List V} {h : Heap} (ha : args.length ≤ 90) (hb : args.all bare = true) :
    E lo 17 args h = fin Tryz.prog [.tmp 2, .tmp 3] h.length (evCode ⟨Tryz.prog, E, lo, h.length, h17⟩ loopW b17 (args0 args, h)) :=
  ev_body rfl Tryz.func17 rfl Tryz.ntmps17 (by kernel_rfl) rfl c17 rfl ha hb
noncomputable def b18 : Code := bodyOf Tryz.f18
theorem c18 : codeOk Tryz.prog h18 102 b18 = true := by kernel_rfl
/-- jalousie/jalousieref4.Token -/
theorem e18 {lo : Nat} {args : List V} {h : Heap} (ha : args.length ≤ 102) (hb : args.all bare = true) :
    E lo 18 args h = fin Tryz.prog [.tmp 2, .tmp 3] h.length (evCode ⟨Tryz.prog, E, lo, h.length, h18⟩ loopW b18 (args0 args, h)) :=
  ev_body rfl Tryz.func18 rfl Tryz.ntmps18 (by kernel_rfl) rfl c18 rfl ha hb
noncomputable def b19 : Code := bodyOf Tryz.f19
theorem c19 : codeOk Tryz.prog h19 16 b19 = true := by kernel_rfl
/-- jalousie/jalousielaw4.awake -/
theorem e19 {lo : Nat} {args : List V} {h : Heap} (ha : args.length ≤ 16) (hb : args.all bare = true) :
    E lo 19 args h = fin Tryz.prog [.tmp 0] h.length (evCode ⟨Tryz.prog, E, lo, h.length, h19⟩ loopW b19 (args0 args, h)) :=
  ev_body rfl Tryz.func19 rfl Tryz.ntmps19 (by kernel_rfl) rfl c19 rfl ha hb
noncomputable def b20 : Code := bodyOf Tryz.f20
noncomputable def l20x0 : Code := loopAt b20 0
theorem c20 : codeOk Tryz.prog h20 40 b20 = true := by kernel_rfl
/-- jalousie/spell.Tokens -/
theorem e20 {lo : Nat} {args : List V} {h : Heap} (ha : args.length ≤ 40) (hb : args.all bare = true) :
    E lo 20 args h = fin Tryz.prog [.tmp 2, .tmp 3] h.length (evCode ⟨Tryz.prog, E, lo, h.length, h20⟩ loopW b20 (args0 args, h)) :=
  ev_body rfl Tryz.func20 rfl Tryz.ntmps20 (by kernel_rfl) rfl c20 rfl ha hb
noncomputable def b21 : Code := bodyOf Tryz.f21
noncomputable def l21x0 : Code := loopAt b21 0
theorem c21 : codeOk Tryz.prog h21 43 b21 = true := by kernel_rfl
/-- jalousie/jalousieref4.Tokens -/
theorem e21 {lo : Nat} {args : List V} {h : Heap} (ha : args.length ≤ 43) (hb : args.all bare = true) :
    E lo 21 args h = fin Tryz.prog [.tmp 2, .tmp 3] h.length (evCode ⟨Tryz.prog, E, lo, h.length, h21⟩ loopW b21 (args0 args, h)) :=
  ev_body rfl Tryz.func21 rfl Tryz.ntmps21 (by kernel_rfl) rfl c21 rfl ha hb
noncomputable def b22 : Code := bodyOf Tryz.f22
theorem c22 : codeOk Tryz.prog h22 9 b22 = true := by kernel_rfl
/-- jalousie/spell.Ident -/
theorem e22 {lo : Nat} {args : List V} {h : Heap} (ha : args.length ≤ 9) (hb : args.all bare = true) :
    E lo 22 args h = fin Tryz.prog [.tmp 2, .tmp 3] h.length (evCode ⟨Tryz.prog, E, lo, h.length, h22⟩ loopW b22 (args0 args, h)) :=
  ev_body rfl Tryz.func22 rfl Tryz.ntmps22 (by kernel_rfl) rfl c22 rfl ha hb
noncomputable def b23 : Code := bodyOf Tryz.f23
theorem c23 : codeOk Tryz.prog h23 104 b23 = true := by kernel_rfl
/-- jalousie/spell.May -/
theorem e23 {lo : Nat} {args : List V} {h : Heap} (ha : args.length ≤ 104) (hb : args.all bare = true) :
    E lo 23 args h = fin Tryz.prog [.tmp 2] h.length (evCode ⟨Tryz.prog, E, lo, h.length, h23⟩ loopW b23 (args0 args, h)) :=
  ev_body rfl Tryz.func23 rfl Tryz.ntmps23 (by kernel_rfl) rfl c23 rfl ha hb
noncomputable def b33 : Code := bodyOf Tryz.f33
theorem c33 : codeOk Tryz.prog h33 36 b33 = true := by kernel_rfl
/-- jalousie/spell.ident -/
theorem e33 {lo : Nat} {args : List V} {h : Heap} (ha : args.length ≤ 36) (hb : args.all bare = true) :
    E lo 33 args h = fin Tryz.prog [.tmp 2] h.length (evCode ⟨Tryz.prog, E, lo, h.length, h33⟩ loopW b33 (args0 args, h)) :=
  ev_body rfl Tryz.func33 rfl Tryz.ntmps33 (by kernel_rfl) rfl c33 rfl ha hb
noncomputable def b34 : Code := bodyOf Tryz.f34
noncomputable def l34x0 : Code := loopAt b34 0
theorem c34 : codeOk Tryz.prog h34 26 b34 = true := by kernel_rfl
/-- jalousie/spell.name -/
theorem e34 {lo : Nat} {args : List V} {h : Heap} (ha : args.length ≤ 26) (hb : args.all bare = true) :
    E lo 34 args h = fin Tryz.prog [.tmp 2] h.length (evCode ⟨Tryz.prog, E, lo, h.length, h34⟩ loopW b34 (args0 args, h)) :=
  ev_body rfl Tryz.func34 rfl Tryz.ntmps34 (by kernel_rfl) rfl c34 rfl ha hb
noncomputable def b35 : Code := bodyOf Tryz.f35
noncomputable def l35x0 : Code := loopAt b35 0
theorem c35 : codeOk Tryz.prog h35 37 b35 = true := by kernel_rfl
/-- jalousie/spell.text -/
theorem e35 {lo : Nat} {args : List V} {h : Heap} (ha : args.length ≤ 37) (hb : args.all bare = true) :
    E lo 35 args h = fin Tryz.prog [.tmp 6] h.length (evCode ⟨Tryz.prog, E, lo, h.length, h35⟩ loopW b35 (args0 args, h)) :=
  ev_body rfl Tryz.func35 rfl Tryz.ntmps35 (by kernel_rfl) rfl c35 rfl ha hb
noncomputable def b36 : Code := bodyOf Tryz.f36
noncomputable def l36x0 : Code := loopAt b36 0
noncomputable def l36x1 : Code := loopAt b36 1
theorem c36 : codeOk Tryz.prog h36 123 b36 = true := by kernel_rfl
/-- jalousie/rat.Plain -/
theorem e36 {lo : Nat} {args : List V} {h : Heap} (ha : args.length ≤ 123) (hb : args.all bare = true) :
    E lo 36 args h = fin Tryz.prog [.tmp 4, .tmp 5] h.length (evCode ⟨Tryz.prog, E, lo, h.length, h36⟩ loopW b36 (args0 args, h)) :=
  ev_body rfl Tryz.func36 rfl Tryz.ntmps36 (by kernel_rfl) rfl c36 rfl ha hb
noncomputable def b37 : Code := bodyOf Tryz.f37
theorem c37 : codeOk Tryz.prog h37 33 b37 = true := by kernel_rfl
/-- jalousie/spell.unit -/
theorem e37 {lo : Nat} {args : List V} {h : Heap} (ha : args.length ≤ 33) (hb : args.all bare = true) :
    E lo 37 args h = fin Tryz.prog [.tmp 2] h.length (evCode ⟨Tryz.prog, E, lo, h.length, h37⟩ loopW b37 (args0 args, h)) :=
  ev_body rfl Tryz.func37 rfl Tryz.ntmps37 (by kernel_rfl) rfl c37 rfl ha hb
noncomputable def b38 : Code := bodyOf Tryz.f38
noncomputable def l38x0 : Code := loopAt b38 0
theorem c38 : codeOk Tryz.prog h38 29 b38 = true := by kernel_rfl
/-- jalousie/spell.fixed -/
theorem e38 {lo : Nat} {args : List V} {h : Heap} (ha : args.length ≤ 29) (hb : args.all bare = true) :
    E lo 38 args h = fin Tryz.prog [.tmp 2] h.length (evCode ⟨Tryz.prog, E, lo, h.length, h38⟩ loopW b38 (args0 args, h)) :=
  ev_body rfl Tryz.func38 rfl Tryz.ntmps38 (by kernel_rfl) rfl c38 rfl ha hb
noncomputable def b39 : Code := bodyOf Tryz.f39
theorem c39 : codeOk Tryz.prog h39 158 b39 = true := by kernel_rfl
/-- jalousie/jalousieref4.May -/
theorem e39 {lo : Nat} {args : List V} {h : Heap} (ha : args.length ≤ 158) (hb : args.all bare = true) :
    E lo 39 args h = fin Tryz.prog [.tmp 2] h.length (evCode ⟨Tryz.prog, E, lo, h.length, h39⟩ loopW b39 (args0 args, h)) :=
  ev_body rfl Tryz.func39 rfl Tryz.ntmps39 (by kernel_rfl) rfl c39 rfl ha hb
noncomputable def b40 : Code := bodyOf Tryz.f40
noncomputable def l40x0 : Code := loopAt b40 0
noncomputable def l40x1 : Code := loopAt b40 1
noncomputable def l40x2 : Code := loopAt b40 2
theorem c40 : codeOk Tryz.prog h40 114 b40 = true := by kernel_rfl
/-- jalousie/jalousieref1.Plain -/
theorem e40 {lo : Nat} {args : List V} {h : Heap} (ha : args.length ≤ 114) (hb : args.all bare = true) :
    E lo 40 args h = fin Tryz.prog [.tmp 4, .tmp 5] h.length (evCode ⟨Tryz.prog, E, lo, h.length, h40⟩ loopW b40 (args0 args, h)) :=
  ev_body rfl Tryz.func40 rfl Tryz.ntmps40 (by kernel_rfl) rfl c40 rfl ha hb
noncomputable def b41 : Code := bodyOf Tryz.f41
theorem c41 : codeOk Tryz.prog h41 55 b41 = true := by kernel_rfl
/-- jalousie/jalousieref4.ident -/
theorem e41 {lo : Nat} {args : List V} {h : Heap} (ha : args.length ≤ 55) (hb : args.all bare = true) :
    E lo 41 args h = fin Tryz.prog [.tmp 2] h.length (evCode ⟨Tryz.prog, E, lo, h.length, h41⟩ loopW b41 (args0 args, h)) :=
  ev_body rfl Tryz.func41 rfl Tryz.ntmps41 (by kernel_rfl) rfl c41 rfl ha hb
noncomputable def b42 : Code := bodyOf Tryz.f42
noncomputable def l42x0 : Code := loopAt b42 0
theorem c42 : codeOk Tryz.prog h42 23 b42 = true := by kernel_rfl
/-- jalousie/jalousieref4.Chars -/
theorem e42 {lo : Nat} {args : List V} {h : Heap} (ha : args.length ≤ 23) (hb : args.all bare = true) :
    E lo 42 args h = fin Tryz.prog [.tmp 2, .tmp 3] h.length (evCode ⟨Tryz.prog, E, lo, h.length, h42⟩ loopW b42 (args0 args, h)) :=
  ev_body rfl Tryz.func42 rfl Tryz.ntmps42 (by kernel_rfl) rfl c42 rfl ha hb
noncomputable def b43 : Code := bodyOf Tryz.f43
noncomputable def l43x0 : Code := loopAt b43 0
theorem c43 : codeOk Tryz.prog h43 35 b43 = true := by kernel_rfl
/-- jalousie/jalousieref4.letters -/
theorem e43 {lo : Nat} {args : List V} {h : Heap} (ha : args.length ≤ 35) (hb : args.all bare = true) :
    E lo 43 args h = fin Tryz.prog [.tmp 2] h.length (evCode ⟨Tryz.prog, E, lo, h.length, h43⟩ loopW b43 (args0 args, h)) :=
  ev_body rfl Tryz.func43 rfl Tryz.ntmps43 (by kernel_rfl) rfl c43 rfl ha hb
noncomputable def b44 : Code := bodyOf Tryz.f44
noncomputable def l44x0 : Code := loopAt b44 0
theorem c44 : codeOk Tryz.prog h44 47 b44 = true := by kernel_rfl
/-- jalousie/jalousieref4.quoted -/
theorem e44 {lo : Nat} {args : List V} {h : Heap} (ha : args.length ≤ 47) (hb : args.all bare = true) :
    E lo 44 args h = fin Tryz.prog [.tmp 2] h.length (evCode ⟨Tryz.prog, E, lo, h.length, h44⟩ loopW b44 (args0 args, h)) :=
  ev_body rfl Tryz.func44 rfl Tryz.ntmps44 (by kernel_rfl) rfl c44 rfl ha hb
noncomputable def b45 : Code := bodyOf Tryz.f45
noncomputable def l45x0 : Code := loopAt b45 0
theorem c45 : codeOk Tryz.prog h45 63 b45 = true := by kernel_rfl
/-- jalousie/jalousieref4.url -/
theorem e45 {lo : Nat} {args : List V} {h : Heap} (ha : args.length ≤ 63) (hb : args.all bare = true) :
    E lo 45 args h = fin Tryz.prog [.tmp 2] h.length (evCode ⟨Tryz.prog, E, lo, h.length, h45⟩ loopW b45 (args0 args, h)) :=
  ev_body rfl Tryz.func45 rfl Tryz.ntmps45 (by kernel_rfl) rfl c45 rfl ha hb
noncomputable def b46 : Code := bodyOf Tryz.f46
theorem c46 : codeOk Tryz.prog h46 56 b46 = true := by kernel_rfl
/-- jalousie/jalousieref4.unit -/
theorem e46 {lo : Nat} {args : List V} {h : Heap} (ha : args.length ≤ 56) (hb : args.all bare = true) :
    E lo 46 args h = fin Tryz.prog [.tmp 2] h.length (evCode ⟨Tryz.prog, E, lo, h.length, h46⟩ loopW b46 (args0 args, h)) :=
  ev_body rfl Tryz.func46 rfl Tryz.ntmps46 (by kernel_rfl) rfl c46 rfl ha hb
noncomputable def b47 : Code := bodyOf Tryz.f47
theorem c47 : codeOk Tryz.prog h47 32 b47 = true := by kernel_rfl
/-- jalousie/spell.Apart -/
theorem e47 {lo : Nat} {args : List V} {h : Heap} (ha : args.length ≤ 32) (hb : args.all bare = true) :
    E lo 47 args h = fin Tryz.prog [.tmp 4] h.length (evCode ⟨Tryz.prog, E, lo, h.length, h47⟩ loopW b47 (args0 args, h)) :=
  ev_body rfl Tryz.func47 rfl Tryz.ntmps47 (by kernel_rfl) rfl c47 rfl ha hb
noncomputable def b48 : Code := bodyOf Tryz.f48
theorem c48 : codeOk Tryz.prog h48 19 b48 = true := by kernel_rfl
/- a method -/
theorem e48 {lo : Nat} {args : List V} {h : Heap} (ha : args.length ≤ 19) (hb : args.all bare = true) :
    E lo 48 args h = fin Tryz.prog [.tmp 4, .tmp 5] h.length (evCode ⟨Tryz.prog, E, lo, h.length, h48⟩ loopW b48 (args0 args, h)) :=
  ev_body rfl Tryz.func48 rfl Tryz.ntmps48 (by kernel_rfl) rfl c48 rfl ha hb
noncomputable def b50 : Code := bodyOf Tryz.f50
theorem c50 : codeOk Tryz.prog h50 35 b50 = true := by kernel_rfl
/-- jalousie/jalousieref4.Apart -/
theorem e50 {lo : Nat} {args : List V} {h : Heap} (ha : args.length ≤ 35) (hb : args.all bare = true) :
    E lo 50 args h = fin Tryz.prog [.tmp 4] h.length (evCode ⟨Tryz.prog, E, lo, h.length, h50⟩ loopW b50 (args0 args, h)) :=
  ev_body rfl Tryz.func50 rfl Tryz.ntmps50 (by kernel_rfl) rfl c50 rfl ha hb
noncomputable def b51 : Code := bodyOf Tryz.f51
theorem c51 : codeOk Tryz.prog h51 11 b51 = true := by kernel_rfl
/-- jalousie/spell.stands -/
theorem e51 {lo : Nat} {args : List V} {h : Heap} (ha : args.length ≤ 11) (hb : args.all bare = true) :
    E lo 51 args h = fin Tryz.prog [.tmp 2] h.length (evCode ⟨Tryz.prog, E, lo, h.length, h51⟩ loopW b51 (args0 args, h)) :=
  ev_body rfl Tryz.func51 rfl Tryz.ntmps51 (by kernel_rfl) rfl c51 rfl ha hb
noncomputable def b52 : Code := bodyOf Tryz.f52
theorem c52 : codeOk Tryz.prog h52 29 b52 = true := by kernel_rfl
/-- jalousie/spell.loose -/
theorem e52 {lo : Nat} {args : List V} {h : Heap} (ha : args.length ≤ 29) (hb : args.all bare = true) :
    E lo 52 args h = fin Tryz.prog [.tmp 2] h.length (evCode ⟨Tryz.prog, E, lo, h.length, h52⟩ loopW b52 (args0 args, h)) :=
  ev_body rfl Tryz.func52 rfl Tryz.ntmps52 (by kernel_rfl) rfl c52 rfl ha hb
noncomputable def b53 : Code := bodyOf Tryz.f53
theorem c53 : codeOk Tryz.prog h53 35 b53 = true := by kernel_rfl
/-- jalousie/spell.sign -/
theorem e53 {lo : Nat} {args : List V} {h : Heap} (ha : args.length ≤ 35) (hb : args.all bare = true) :
    E lo 53 args h = fin Tryz.prog [.tmp 2] h.length (evCode ⟨Tryz.prog, E, lo, h.length, h53⟩ loopW b53 (args0 args, h)) :=
  ev_body rfl Tryz.func53 rfl Tryz.ntmps53 (by kernel_rfl) rfl c53 rfl ha hb
noncomputable def b54 : Code := bodyOf Tryz.f54
theorem c54 : codeOk Tryz.prog h54 15 b54 = true := by kernel_rfl
/-- jalousie/spell.plain -/
theorem e54 {lo : Nat} {args : List V} {h : Heap} (ha : args.length ≤ 15) (hb : args.all bare = true) :
    E lo 54 args h = fin Tryz.prog [.tmp 2] h.length (evCode ⟨Tryz.prog, E, lo, h.length, h54⟩ loopW b54 (args0 args, h)) :=
  ev_body rfl Tryz.func54 rfl Tryz.ntmps54 (by kernel_rfl) rfl c54 rfl ha hb
noncomputable def b71 : Code := bodyOf Tryz.f71
theorem c71 : codeOk Tryz.prog h71 17 b71 = true := by kernel_rfl
/-- jalousie/jalousieref2.Is -/
theorem e71 {lo : Nat} {args : List V} {h : Heap} (ha : args.length ≤ 17) (hb : args.all bare = true) :
    E lo 71 args h = fin Tryz.prog [.tmp 2] h.length (evCode ⟨Tryz.prog, E, lo, h.length, h71⟩ loopW b71 (args0 args, h)) :=
  ev_body rfl Tryz.func71 rfl Tryz.ntmps71 (by kernel_rfl) rfl c71 rfl ha hb
noncomputable def b75 : Code := bodyOf Tryz.f75
theorem c75 : codeOk Tryz.prog h75 13 b75 = true := by kernel_rfl
/-- jalousie/jalousieref3.Letter -/
theorem e75 {lo : Nat} {args : List V} {h : Heap} (ha : args.length ≤ 13) (hb : args.all bare = true) :
    E lo 75 args h = fin Tryz.prog [.tmp 2] h.length (evCode ⟨Tryz.prog, E, lo, h.length, h75⟩ loopW b75 (args0 args, h)) :=
  ev_body rfl Tryz.func75 rfl Tryz.ntmps75 (by kernel_rfl) rfl c75 rfl ha hb
noncomputable def b82 : Code := bodyOf Tryz.f82
theorem c82 : codeOk Tryz.prog h82 6 b82 = true := by kernel_rfl
/-- jalousie/jalousieref2.Text -/
theorem e82 {lo : Nat} {args : List V} {h : Heap} (ha : args.length ≤ 6) (hb : args.all bare = true) :
    E lo 82 args h = fin Tryz.prog [.tmp 2] h.length (evCode ⟨Tryz.prog, E, lo, h.length, h82⟩ loopW b82 (args0 args, h)) :=
  ev_body rfl Tryz.func82 rfl Tryz.ntmps82 (by kernel_rfl) rfl c82 rfl ha hb
noncomputable def b84 : Code := bodyOf Tryz.f84
noncomputable def l84x0 : Code := loopAt b84 0
theorem c84 : codeOk Tryz.prog h84 27 b84 = true := by kernel_rfl
/-- jalousie/jalousieref2.Raw -/
theorem e84 {lo : Nat} {args : List V} {h : Heap} (ha : args.length ≤ 27) (hb : args.all bare = true) :
    E lo 84 args h = fin Tryz.prog [.tmp 2] h.length (evCode ⟨Tryz.prog, E, lo, h.length, h84⟩ loopW b84 (args0 args, h)) :=
  ev_body rfl Tryz.func84 rfl Tryz.ntmps84 (by kernel_rfl) rfl c84 rfl ha hb
noncomputable def b85 : Code := bodyOf Tryz.f85
theorem c85 : codeOk Tryz.prog h85 8 b85 = true := by kernel_rfl
/-- strings.HasPrefix -/
theorem e85 {lo : Nat} {args : List V} {h : Heap} (ha : args.length ≤ 8) (hb : args.all bare = true) :
    E lo 85 args h = fin Tryz.prog [.tmp 4] h.length (evCode ⟨Tryz.prog, E, lo, h.length, h85⟩ loopW b85 (args0 args, h)) :=
  ev_body rfl Tryz.func85 rfl Tryz.ntmps85 (by kernel_rfl) rfl c85 rfl ha hb
noncomputable def b86 : Code := bodyOf Tryz.f86
theorem c86 : codeOk Tryz.prog h86 9 b86 = true := by kernel_rfl
/-- jalousie/spell.digit -/
theorem e86 {lo : Nat} {args : List V} {h : Heap} (ha : args.length ≤ 9) (hb : args.all bare = true) :
    E lo 86 args h = fin Tryz.prog [.tmp 2] h.length (evCode ⟨Tryz.prog, E, lo, h.length, h86⟩ loopW b86 (args0 args, h)) :=
  ev_body rfl Tryz.func86 rfl Tryz.ntmps86 (by kernel_rfl) rfl c86 rfl ha hb
noncomputable def b87 : Code := bodyOf Tryz.f87
noncomputable def l87x0 : Code := loopAt b87 0
noncomputable def l87x1 : Code := loopAt b87 1
theorem c87 : codeOk Tryz.prog h87 31 b87 = true := by kernel_rfl
/-- jalousie/spell.code -/
theorem e87 {lo : Nat} {args : List V} {h : Heap} (ha : args.length ≤ 31) (hb : args.all bare = true) :
    E lo 87 args h = fin Tryz.prog [.tmp 2] h.length (evCode ⟨Tryz.prog, E, lo, h.length, h87⟩ loopW b87 (args0 args, h)) :=
  ev_body rfl Tryz.func87 rfl Tryz.ntmps87 (by kernel_rfl) rfl c87 rfl ha hb
noncomputable def b88 : Code := bodyOf Tryz.f88
theorem c88 : codeOk Tryz.prog h88 17 b88 = true := by kernel_rfl
/-- jalousie/spell.hidden -/
theorem e88 {lo : Nat} {args : List V} {h : Heap} (ha : args.length ≤ 17) (hb : args.all bare = true) :
    E lo 88 args h = fin Tryz.prog [.tmp 2] h.length (evCode ⟨Tryz.prog, E, lo, h.length, h88⟩ loopW b88 (args0 args, h)) :=
  ev_body rfl Tryz.func88 rfl Tryz.ntmps88 (by kernel_rfl) rfl c88 rfl ha hb
noncomputable def b89 : Code := bodyOf Tryz.f89
theorem c89 : codeOk Tryz.prog h89 33 b89 = true := by kernel_rfl
/-- jalousie/spell.letter -/
theorem e89 {lo : Nat} {args : List V} {h : Heap} (ha : args.length ≤ 33) (hb : args.all bare = true) :
    E lo 89 args h = fin Tryz.prog [.tmp 2] h.length (evCode ⟨Tryz.prog, E, lo, h.length, h89⟩ loopW b89 (args0 args, h)) :=
  ev_body rfl Tryz.func89 rfl Tryz.ntmps89 (by kernel_rfl) rfl c89 rfl ha hb
noncomputable def b91 : Code := bodyOf Tryz.f91
theorem c91 : codeOk Tryz.prog h91 17 b91 = true := by kernel_rfl
/- a method -/
theorem e91 {lo : Nat} {args : List V} {h : Heap} (ha : args.length ≤ 17) (hb : args.all bare = true) :
    E lo 91 args h = fin Tryz.prog [.tmp 4] h.length (evCode ⟨Tryz.prog, E, lo, h.length, h91⟩ loopW b91 (args0 args, h)) :=
  ev_body rfl Tryz.func91 rfl Tryz.ntmps91 (by kernel_rfl) rfl c91 rfl ha hb
noncomputable def b92 : Code := bodyOf Tryz.f92
theorem c92 : codeOk Tryz.prog h92 9 b92 = true := by kernel_rfl
/-- strings.Contains -/
theorem e92 {lo : Nat} {args : List V} {h : Heap} (ha : args.length ≤ 9) (hb : args.all bare = true) :
    E lo 92 args h = fin Tryz.prog [.tmp 4] h.length (evCode ⟨Tryz.prog, E, lo, h.length, h92⟩ loopW b92 (args0 args, h)) :=
  ev_body rfl Tryz.func92 rfl Tryz.ntmps92 (by kernel_rfl) rfl c92 rfl ha hb
noncomputable def b93 : Code := bodyOf Tryz.f93
theorem c93 : codeOk Tryz.prog h93 10 b93 = true := by kernel_rfl
/-- jalousie/rat.May -/
theorem e93 {lo : Nat} {args : List V} {h : Heap} (ha : args.length ≤ 10) (hb : args.all bare = true) :
    E lo 93 args h = fin Tryz.prog [.tmp 2] h.length (evCode ⟨Tryz.prog, E, lo, h.length, h93⟩ loopW b93 (args0 args, h)) :=
  ev_body rfl Tryz.func93 rfl Tryz.ntmps93 (by kernel_rfl) rfl c93 rfl ha hb
noncomputable def b95 : Code := bodyOf Tryz.f95
noncomputable def l95x0 : Code := loopAt b95 0
theorem c95 : codeOk Tryz.prog h95 23 b95 = true := by kernel_rfl
/-- jalousie/rat.powers -/
theorem e95 {lo : Nat} {args : List V} {h : Heap} (ha : args.length ≤ 23) (hb : args.all bare = true) :
    E lo 95 args h = fin Tryz.prog [.tmp 2, .tmp 3, .tmp 4] h.length (evCode ⟨Tryz.prog, E, lo, h.length, h95⟩ loopW b95 (args0 args, h)) :=
  ev_body rfl Tryz.func95 rfl Tryz.ntmps95 (by kernel_rfl) rfl c95 rfl ha hb
noncomputable def b96 : Code := bodyOf Tryz.f96
theorem c96 : codeOk Tryz.prog h96 10 b96 = true := by kernel_rfl
/-- jalousie/rat.size -/
theorem e96 {lo : Nat} {args : List V} {h : Heap} (ha : args.length ≤ 10) (hb : args.all bare = true) :
    E lo 96 args h = fin Tryz.prog [.tmp 2] h.length (evCode ⟨Tryz.prog, E, lo, h.length, h96⟩ loopW b96 (args0 args, h)) :=
  ev_body rfl Tryz.func96 rfl Tryz.ntmps96 (by kernel_rfl) rfl c96 rfl ha hb
noncomputable def b97 : Code := bodyOf Tryz.f97
noncomputable def l97x0 : Code := loopAt b97 0
theorem c97 : codeOk Tryz.prog h97 20 b97 = true := by kernel_rfl
/-- jalousie/rat.number -/
theorem e97 {lo : Nat} {args : List V} {h : Heap} (ha : args.length ≤ 20) (hb : args.all bare = true) :
    E lo 97 args h = fin Tryz.prog [.tmp 2] h.length (evCode ⟨Tryz.prog, E, lo, h.length, h97⟩ loopW b97 (args0 args, h)) :=
  ev_body rfl Tryz.func97 rfl Tryz.ntmps97 (by kernel_rfl) rfl c97 rfl ha hb
noncomputable def b98 : Code := bodyOf Tryz.f98
theorem c98 : codeOk Tryz.prog h98 37 b98 = true := by kernel_rfl
/-- strings.TrimRight -/
theorem e98 {lo : Nat} {args : List V} {h : Heap} (ha : args.length ≤ 37) (hb : args.all bare = true) :
    E lo 98 args h = fin Tryz.prog [.tmp 4] h.length (evCode ⟨Tryz.prog, E, lo, h.length, h98⟩ loopW b98 (args0 args, h)) :=
  ev_body rfl Tryz.func98 rfl Tryz.ntmps98 (by kernel_rfl) rfl c98 rfl ha hb
noncomputable def b99 : Code := bodyOf Tryz.f99
theorem c99 : codeOk Tryz.prog h99 8 b99 = true := by kernel_rfl
/-- strings.TrimPrefix -/
theorem e99 {lo : Nat} {args : List V} {h : Heap} (ha : args.length ≤ 8) (hb : args.all bare = true) :
    E lo 99 args h = fin Tryz.prog [.tmp 4] h.length (evCode ⟨Tryz.prog, E, lo, h.length, h99⟩ loopW b99 (args0 args, h)) :=
  ev_body rfl Tryz.func99 rfl Tryz.ntmps99 (by kernel_rfl) rfl c99 rfl ha hb
noncomputable def b100 : Code := bodyOf Tryz.f100
theorem c100 : codeOk Tryz.prog h100 9 b100 = true := by kernel_rfl
/-- jalousie/jalousieref4.digit -/
theorem e100 {lo : Nat} {args : List V} {h : Heap} (ha : args.length ≤ 9) (hb : args.all bare = true) :
    E lo 100 args h = fin Tryz.prog [.tmp 2] h.length (evCode ⟨Tryz.prog, E, lo, h.length, h100⟩ loopW b100 (args0 args, h)) :=
  ev_body rfl Tryz.func100 rfl Tryz.ntmps100 (by kernel_rfl) rfl c100 rfl ha hb
noncomputable def b101 : Code := bodyOf Tryz.f101
noncomputable def l101x0 : Code := loopAt b101 0
theorem c101 : codeOk Tryz.prog h101 40 b101 = true := by kernel_rfl
/-- jalousie/jalousieref4.delim -/
theorem e101 {lo : Nat} {args : List V} {h : Heap} (ha : args.length ≤ 40) (hb : args.all bare = true) :
    E lo 101 args h = fin Tryz.prog [.tmp 2] h.length (evCode ⟨Tryz.prog, E, lo, h.length, h101⟩ loopW b101 (args0 args, h)) :=
  ev_body rfl Tryz.func101 rfl Tryz.ntmps101 (by kernel_rfl) rfl c101 rfl ha hb
noncomputable def b102 : Code := bodyOf Tryz.f102
theorem c102 : codeOk Tryz.prog h102 29 b102 = true := by kernel_rfl
/-- jalousie/jalousieref1.May -/
theorem e102 {lo : Nat} {args : List V} {h : Heap} (ha : args.length ≤ 29) (hb : args.all bare = true) :
    E lo 102 args h = fin Tryz.prog [.tmp 2] h.length (evCode ⟨Tryz.prog, E, lo, h.length, h102⟩ loopW b102 (args0 args, h)) :=
  ev_body rfl Tryz.func102 rfl Tryz.ntmps102 (by kernel_rfl) rfl c102 rfl ha hb
noncomputable def b103 : Code := bodyOf Tryz.f103
theorem c103 : codeOk Tryz.prog h103 12 b103 = true := by kernel_rfl
/-- jalousie/jalousieref1.mag -/
theorem e103 {lo : Nat} {args : List V} {h : Heap} (ha : args.length ≤ 12) (hb : args.all bare = true) :
    E lo 103 args h = fin Tryz.prog [.tmp 2] h.length (evCode ⟨Tryz.prog, E, lo, h.length, h103⟩ loopW b103 (args0 args, h)) :=
  ev_body rfl Tryz.func103 rfl Tryz.ntmps103 (by kernel_rfl) rfl c103 rfl ha hb
noncomputable def b105 : Code := bodyOf Tryz.f105
theorem c105 : codeOk Tryz.prog h105 8 b105 = true := by kernel_rfl
/-- jalousie/jalousieref4.escaped -/
theorem e105 {lo : Nat} {args : List V} {h : Heap} (ha : args.length ≤ 8) (hb : args.all bare = true) :
    E lo 105 args h = fin Tryz.prog [.tmp 2] h.length (evCode ⟨Tryz.prog, E, lo, h.length, h105⟩ loopW b105 (args0 args, h)) :=
  ev_body rfl Tryz.func105 rfl Tryz.ntmps105 (by kernel_rfl) rfl c105 rfl ha hb
noncomputable def b106 : Code := bodyOf Tryz.f106
noncomputable def l106x0 : Code := loopAt b106 0
theorem c106 : codeOk Tryz.prog h106 23 b106 = true := by kernel_rfl
/-- jalousie/jalousieref2.Whole -/
theorem e106 {lo : Nat} {args : List V} {h : Heap} (ha : args.length ≤ 23) (hb : args.all bare = true) :
    E lo 106 args h = fin Tryz.prog [.tmp 2] h.length (evCode ⟨Tryz.prog, E, lo, h.length, h106⟩ loopW b106 (args0 args, h)) :=
  ev_body rfl Tryz.func106 rfl Tryz.ntmps106 (by kernel_rfl) rfl c106 rfl ha hb
noncomputable def b107 : Code := bodyOf Tryz.f107
theorem c107 : codeOk Tryz.prog h107 17 b107 = true := by kernel_rfl
/-- jalousie/jalousieref4.hidden -/
theorem e107 {lo : Nat} {args : List V} {h : Heap} (ha : args.length ≤ 17) (hb : args.all bare = true) :
    E lo 107 args h = fin Tryz.prog [.tmp 2] h.length (evCode ⟨Tryz.prog, E, lo, h.length, h107⟩ loopW b107 (args0 args, h)) :=
  ev_body rfl Tryz.func107 rfl Tryz.ntmps107 (by kernel_rfl) rfl c107 rfl ha hb
noncomputable def b109 : Code := bodyOf Tryz.f109
noncomputable def l109x0 : Code := loopAt b109 0
theorem c109 : codeOk Tryz.prog h109 40 b109 = true := by kernel_rfl
/-- jalousie/utf.Whole -/
theorem e109 {lo : Nat} {args : List V} {h : Heap} (ha : args.length ≤ 40) (hb : args.all bare = true) :
    E lo 109 args h = fin Tryz.prog [.tmp 2] h.length (evCode ⟨Tryz.prog, E, lo, h.length, h109⟩ loopW b109 (args0 args, h)) :=
  ev_body rfl Tryz.func109 rfl Tryz.ntmps109 (by kernel_rfl) rfl c109 rfl ha hb
noncomputable def b117 : Code := bodyOf Tryz.f117
theorem c117 : codeOk Tryz.prog h117 25 b117 = true := by kernel_rfl
/-- jalousie/jalousieref3.first -/
theorem e117 {lo : Nat} {args : List V} {h : Heap} (ha : args.length ≤ 25) (hb : args.all bare = true) :
    E lo 117 args h = fin Tryz.prog [.tmp 2] h.length (evCode ⟨Tryz.prog, E, lo, h.length, h117⟩ loopW b117 (args0 args, h)) :=
  ev_body rfl Tryz.func117 rfl Tryz.ntmps117 (by kernel_rfl) rfl c117 rfl ha hb
noncomputable def b118 : Code := bodyOf Tryz.f118
theorem c118 : codeOk Tryz.prog h118 9 b118 = true := by kernel_rfl
/-- jalousie/jalousieref3.digit -/
theorem e118 {lo : Nat} {args : List V} {h : Heap} (ha : args.length ≤ 9) (hb : args.all bare = true) :
    E lo 118 args h = fin Tryz.prog [.tmp 2] h.length (evCode ⟨Tryz.prog, E, lo, h.length, h118⟩ loopW b118 (args0 args, h)) :=
  ev_body rfl Tryz.func118 rfl Tryz.ntmps118 (by kernel_rfl) rfl c118 rfl ha hb
noncomputable def b122 : Code := bodyOf Tryz.f122
noncomputable def l122x0 : Code := loopAt b122 0
theorem c122 : codeOk Tryz.prog h122 79 b122 = true := by kernel_rfl
/-- jalousie/jalousieref2.Encode -/
theorem e122 {lo : Nat} {args : List V} {h : Heap} (ha : args.length ≤ 79) (hb : args.all bare = true) :
    E lo 122 args h = fin Tryz.prog [.tmp 2] h.length (evCode ⟨Tryz.prog, E, lo, h.length, h122⟩ loopW b122 (args0 args, h)) :=
  ev_body rfl Tryz.func122 rfl Tryz.ntmps122 (by kernel_rfl) rfl c122 rfl ha hb
noncomputable def b123 : Code := bodyOf Tryz.f123
noncomputable def l123x0 : Code := loopAt b123 0
theorem c123 : codeOk Tryz.prog h123 101 b123 = true := by kernel_rfl
/-- jalousie/utf.step -/
theorem e123 {lo : Nat} {args : List V} {h : Heap} (ha : args.length ≤ 101) (hb : args.all bare = true) :
    E lo 123 args h = fin Tryz.prog [.tmp 2, .tmp 3] h.length (evCode ⟨Tryz.prog, E, lo, h.length, h123⟩ loopW b123 (args0 args, h)) :=
  ev_body rfl Tryz.func123 rfl Tryz.ntmps123 (by kernel_rfl) rfl c123 rfl ha hb
noncomputable def b124 : Code := bodyOf Tryz.f124
noncomputable def l124x0 : Code := loopAt b124 0
theorem c124 : codeOk Tryz.prog h124 81 b124 = true := by kernel_rfl
/-- jalousie/jalousieref2.one -/
theorem e124 {lo : Nat} {args : List V} {h : Heap} (ha : args.length ≤ 81) (hb : args.all bare = true) :
    E lo 124 args h = fin Tryz.prog [.tmp 4, .tmp 5, .tmp 6] h.length (evCode ⟨Tryz.prog, E, lo, h.length, h124⟩ loopW b124 (args0 args, h)) :=
  ev_body rfl Tryz.func124 rfl Tryz.ntmps124 (by kernel_rfl) rfl c124 rfl ha hb
noncomputable def b125 : Code := bodyOf Tryz.f125
theorem c125 : codeOk Tryz.prog h125 18 b125 = true := by kernel_rfl
/-- internal/stringslite.HasPrefix -/
theorem e125 {lo : Nat} {args : List V} {h : Heap} (ha : args.length ≤ 18) (hb : args.all bare = true) :
    E lo 125 args h = fin Tryz.prog [.tmp 4] h.length (evCode ⟨Tryz.prog, E, lo, h.length, h125⟩ loopW b125 (args0 args, h)) :=
  ev_body rfl Tryz.func125 rfl Tryz.ntmps125 (by kernel_rfl) rfl c125 rfl ha hb
noncomputable def b126 : Code := bodyOf Tryz.f126
theorem c126 : codeOk Tryz.prog h126 16 b126 = true := by kernel_rfl
/-- unicode/utf8.AppendRune -/
theorem e126 {lo : Nat} {args : List V} {h : Heap} (ha : args.length ≤ 16) (hb : args.all bare = true) :
    E lo 126 args h = fin Tryz.prog [.tmp 4] h.length (evCode ⟨Tryz.prog, E, lo, h.length, h126⟩ loopW b126 (args0 args, h)) :=
  ev_body rfl Tryz.func126 rfl Tryz.ntmps126 (by kernel_rfl) rfl c126 rfl ha hb
noncomputable def b127 : Code := bodyOf Tryz.f127
theorem c127 : codeOk Tryz.prog h127 8 b127 = true := by kernel_rfl
/-- strings.Index -/
theorem e127 {lo : Nat} {args : List V} {h : Heap} (ha : args.length ≤ 8) (hb : args.all bare = true) :
    E lo 127 args h = fin Tryz.prog [.tmp 4] h.length (evCode ⟨Tryz.prog, E, lo, h.length, h127⟩ loopW b127 (args0 args, h)) :=
  ev_body rfl Tryz.func127 rfl Tryz.ntmps127 (by kernel_rfl) rfl c127 rfl ha hb
noncomputable def b128 : Code := bodyOf Tryz.f128
theorem c128 : codeOk Tryz.prog h128 21 b128 = true := by kernel_rfl
/-- jalousie/rat.sure -/
theorem e128 {lo : Nat} {args : List V} {h : Heap} (ha : args.length ≤ 21) (hb : args.all bare = true) :
    E lo 128 args h = fin Tryz.prog [.tmp 2] h.length (evCode ⟨Tryz.prog, E, lo, h.length, h128⟩ loopW b128 (args0 args, h)) :=
  ev_body rfl Tryz.func128 rfl Tryz.ntmps128 (by kernel_rfl) rfl c128 rfl ha hb
noncomputable def b133 : Code := bodyOf Tryz.f133
noncomputable def l133x0 : Code := loopAt b133 0
theorem c133 : codeOk Tryz.prog h133 23 b133 = true := by kernel_rfl
/-- strings.trimRightByte -/
theorem e133 {lo : Nat} {args : List V} {h : Heap} (ha : args.length ≤ 23) (hb : args.all bare = true) :
    E lo 133 args h = fin Tryz.prog [.tmp 4] h.length (evCode ⟨Tryz.prog, E, lo, h.length, h133⟩ loopW b133 (args0 args, h)) :=
  ev_body rfl Tryz.func133 rfl Tryz.ntmps133 (by kernel_rfl) rfl c133 rfl ha hb
noncomputable def b137 : Code := bodyOf Tryz.f137
theorem c137 : codeOk Tryz.prog h137 13 b137 = true := by kernel_rfl
/-- internal/stringslite.TrimPrefix -/
theorem e137 {lo : Nat} {args : List V} {h : Heap} (ha : args.length ≤ 13) (hb : args.all bare = true) :
    E lo 137 args h = fin Tryz.prog [.tmp 4] h.length (evCode ⟨Tryz.prog, E, lo, h.length, h137⟩ loopW b137 (args0 args, h)) :=
  ev_body rfl Tryz.func137 rfl Tryz.ntmps137 (by kernel_rfl) rfl c137 rfl ha hb
noncomputable def b138 : Code := bodyOf Tryz.f138
noncomputable def l138x0 : Code := loopAt b138 0
theorem c138 : codeOk Tryz.prog h138 12 b138 = true := by kernel_rfl
/-- jalousie/jalousieref1.small -/
theorem e138 {lo : Nat} {args : List V} {h : Heap} (ha : args.length ≤ 12) (hb : args.all bare = true) :
    E lo 138 args h = fin Tryz.prog [.tmp 4] h.length (evCode ⟨Tryz.prog, E, lo, h.length, h138⟩ loopW b138 (args0 args, h)) :=
  ev_body rfl Tryz.func138 rfl Tryz.ntmps138 (by kernel_rfl) rfl c138 rfl ha hb
noncomputable def b140 : Code := bodyOf Tryz.f140
theorem c140 : codeOk Tryz.prog h140 8 b140 = true := by kernel_rfl
/-- strconv.FormatInt -/
theorem e140 {lo : Nat} {args : List V} {h : Heap} (ha : args.length ≤ 8) (hb : args.all bare = true) :
    E lo 140 args h = fin Tryz.prog [.tmp 4] h.length (evCode ⟨Tryz.prog, E, lo, h.length, h140⟩ loopW b140 (args0 args, h)) :=
  ev_body rfl Tryz.func140 rfl Tryz.ntmps140 (by kernel_rfl) rfl c140 rfl ha hb
noncomputable def b157 : Code := bodyOf Tryz.f157
theorem c157 : codeOk Tryz.prog h157 38 b157 = true := by kernel_rfl
/-- jalousie/jalousieref2.need -/
theorem e157 {lo : Nat} {args : List V} {h : Heap} (ha : args.length ≤ 38) (hb : args.all bare = true) :
    E lo 157 args h = fin Tryz.prog [.tmp 2, .tmp 3, .tmp 4] h.length (evCode ⟨Tryz.prog, E, lo, h.length, h157⟩ loopW b157 (args0 args, h)) :=
  ev_body rfl Tryz.func157 rfl Tryz.ntmps157 (by kernel_rfl) rfl c157 rfl ha hb
noncomputable def b158 : Code := bodyOf Tryz.f158
theorem c158 : codeOk Tryz.prog h158 78 b158 = true := by kernel_rfl
/-- unicode/utf8.appendRuneNonASCII -/
theorem e158 {lo : Nat} {args : List V} {h : Heap} (ha : args.length ≤ 78) (hb : args.all bare = true) :
    E lo 158 args h = fin Tryz.prog [.tmp 4] h.length (evCode ⟨Tryz.prog, E, lo, h.length, h158⟩ loopW b158 (args0 args, h)) :=
  ev_body rfl Tryz.func158 rfl Tryz.ntmps158 (by kernel_rfl) rfl c158 rfl ha hb
noncomputable def b160 : Code := bodyOf Tryz.f160
noncomputable def l160x0 : Code := loopAt b160 0
theorem c160 : codeOk Tryz.prog h160 12 b160 = true := by kernel_rfl
/-- jalousie/rat.gcd -/
theorem e160 {lo : Nat} {args : List V} {h : Heap} (ha : args.length ≤ 12) (hb : args.all bare = true) :
    E lo 160 args h = fin Tryz.prog [.tmp 4] h.length (evCode ⟨Tryz.prog, E, lo, h.length, h160⟩ loopW b160 (args0 args, h)) :=
  ev_body rfl Tryz.func160 rfl Tryz.ntmps160 (by kernel_rfl) rfl c160 rfl ha hb
noncomputable def b167 : Code := bodyOf Tryz.f167
theorem c167 : codeOk Tryz.prog h167 15 b167 = true := by kernel_rfl
/-- internal/strconv.small -/
theorem e167 {lo : Nat} {args : List V} {h : Heap} (ha : args.length ≤ 15) (hb : args.all bare = true) :
    E lo 167 args h = fin Tryz.prog [.tmp 2] h.length (evCode ⟨Tryz.prog, E, lo, h.length, h167⟩ loopW b167 (args0 args, h)) :=
  ev_body rfl Tryz.func167 rfl Tryz.ntmps167 (by kernel_rfl) rfl c167 rfl ha hb
noncomputable def b168 : Code := bodyOf Tryz.f168
theorem c168 : codeOk Tryz.prog h168 15 b168 = true := by kernel_rfl
/-- internal/strconv.numDigits -/
theorem e168 {lo : Nat} {args : List V} {h : Heap} (ha : args.length ≤ 15) (hb : args.all bare = true) :
    E lo 168 args h = fin Tryz.prog [.tmp 2] h.length (evCode ⟨Tryz.prog, E, lo, h.length, h168⟩ loopW b168 (args0 args, h)) :=
  ev_body rfl Tryz.func168 rfl Tryz.ntmps168 (by kernel_rfl) rfl c168 rfl ha hb
noncomputable def b169 : Code := bodyOf Tryz.f169
noncomputable def l169x0 : Code := loopAt b169 0
noncomputable def b170 : Code := bodyOf Tryz.f170
noncomputable def l170x0 : Code := loopAt b170 0
noncomputable def l170x1 : Code := loopAt b170 1
theorem c170 : codeOk Tryz.prog h170 102 b170 = true := by kernel_rfl
/-- internal/strconv.formatBits -/
theorem e170 {lo : Nat} {args : List V} {h : Heap} (ha : args.length ≤ 102) (hb : args.all bare = true) :
    E lo 170 args h = fin Tryz.prog [.tmp 10, .tmp 11] h.length (evCode ⟨Tryz.prog, E, lo, h.length, h170⟩ loopW b170 (args0 args, h)) :=
  ev_body rfl Tryz.func170 rfl Tryz.ntmps170 (by kernel_rfl) rfl c170 rfl ha hb
noncomputable def b171 : Code := bodyOf Tryz.f171
theorem c171 : codeOk Tryz.prog h171 54 b171 = true := by kernel_rfl
/-- internal/strconv.FormatInt -/
theorem e171 {lo : Nat} {args : List V} {h : Heap} (ha : args.length ≤ 54) (hb : args.all bare = true) :
    E lo 171 args h = fin Tryz.prog [.tmp 4] h.length (evCode ⟨Tryz.prog, E, lo, h.length, h171⟩ loopW b171 (args0 args, h)) :=
  ev_body rfl Tryz.func171 rfl Tryz.ntmps171 (by kernel_rfl) rfl c171 rfl ha hb
noncomputable def b189 : Code := bodyOf Tryz.f189
theorem c189 : codeOk Tryz.prog h189 6 b189 = true := by kernel_rfl
/-- internal/strconv.log10Pow2 -/
theorem e189 {lo : Nat} {args : List V} {h : Heap} (ha : args.length ≤ 6) (hb : args.all bare = true) :
    E lo 189 args h = fin Tryz.prog [.tmp 2] h.length (evCode ⟨Tryz.prog, E, lo, h.length, h189⟩ loopW b189 (args0 args, h)) :=
  ev_body rfl Tryz.func189 rfl Tryz.ntmps189 (by kernel_rfl) rfl c189 rfl ha hb
noncomputable def b190 : Code := bodyOf Tryz.f190
theorem c190 : codeOk Tryz.prog h190 25 b190 = true := by kernel_rfl
/-- math/bits.Len64 -/
theorem e190 {lo : Nat} {args : List V} {h : Heap} (ha : args.length ≤ 25) (hb : args.all bare = true) :
    E lo 190 args h = fin Tryz.prog [.tmp 2] h.length (evCode ⟨Tryz.prog, E, lo, h.length, h190⟩ loopW b190 (args0 args, h)) :=
  ev_body rfl Tryz.func190 rfl Tryz.ntmps190 (by kernel_rfl) rfl c190 rfl ha hb
noncomputable def b191 : Code := bodyOf Tryz.f191
theorem c191 : codeOk Tryz.prog h191 4 b191 = true := by kernel_rfl
/- a method -/
theorem e191 {lo : Nat} {args : List V} {h : Heap} (ha : args.length ≤ 4) (hb : args.all bare = true) :
    E lo 191 args h = fin Tryz.prog [.tmp 2] h.length (evCode ⟨Tryz.prog, E, lo, h.length, h191⟩ loopW b191 (args0 args, h)) :=
  ev_body rfl Tryz.func191 rfl Tryz.ntmps191 (by kernel_rfl) rfl c191 rfl ha hb
noncomputable def b192 : Code := bodyOf Tryz.f192
theorem c192 : codeOk Tryz.prog h192 8 b192 = true := by kernel_rfl
/-- internal/strconv.isPowerOfTwo -/
theorem e192 {lo : Nat} {args : List V} {h : Heap} (ha : args.length ≤ 8) (hb : args.all bare = true) :
    E lo 192 args h = fin Tryz.prog [.tmp 2] h.length (evCode ⟨Tryz.prog, E, lo, h.length, h192⟩ loopW b192 (args0 args, h)) :=
  ev_body rfl Tryz.func192 rfl Tryz.ntmps192 (by kernel_rfl) rfl c192 rfl ha hb
noncomputable def b193 : Code := bodyOf Tryz.f193
theorem c193 : codeOk Tryz.prog h193 8 b193 = true := by kernel_rfl
/-- math/bits.TrailingZeros -/
theorem e193 {lo : Nat} {args : List V} {h : Heap} (ha : args.length ≤ 8) (hb : args.all bare = true) :
    E lo 193 args h = fin Tryz.prog [.tmp 2] h.length (evCode ⟨Tryz.prog, E, lo, h.length, h193⟩ loopW b193 (args0 args, h)) :=
  ev_body rfl Tryz.func193 rfl Tryz.ntmps193 (by kernel_rfl) rfl c193 rfl ha hb
noncomputable def b199 : Code := bodyOf Tryz.f199
theorem c199 : codeOk Tryz.prog h199 14 b199 = true := by kernel_rfl
/-- math/bits.TrailingZeros32 -/
theorem e199 {lo : Nat} {args : List V} {h : Heap} (ha : args.length ≤ 14) (hb : args.all bare = true) :
    E lo 199 args h = fin Tryz.prog [.tmp 2] h.length (evCode ⟨Tryz.prog, E, lo, h.length, h199⟩ loopW b199 (args0 args, h)) :=
  ev_body rfl Tryz.func199 rfl Tryz.ntmps199 (by kernel_rfl) rfl c199 rfl ha hb
end Go.Lift.R4
