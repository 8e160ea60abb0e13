/- Facts of the program that the evaluation asks for: the live slots of each function, its types. Written by a program (gen.py). -/
import Derived.Test.YtilpeaggmnomiaaDoorRows
import Derived.Lib.TrimAscii
import Derived.Shelf.Strings.Fields
import Derived.Test.YtilpeaggmnomiaaDoorGLd
set_option linter.unusedVariables false
set_option linter.unusedSimpArgs false
set_option linter.unusedSectionVars false
set_option maxRecDepth 20000
namespace Go.Lift.T1
open Go.Proofs
instance gtab : GTab := ⟨fun n => match n with | 0 => some ((List.range 256).map fun c => V.v (.int .u8 (if Go.Lib.isSp (UInt8.ofNat c) then 1 else 0))) | _ => none⟩
noncomputable def fieldsP (lo : Nat) (args : List V) (h : Heap) : Option (V × Heap) := match args with
 | [.v (.string s)] => if s.size < 4294967281 /\ (s.data.toList.all fun b => decide (b.toNat < 128)) = true then some (.list .no ((Go.Lib.fields s.data.toList).map fun l => [.v (.string ⟨l.toArray⟩)]), h) else none
 | _ => none
noncomputable def subP (lo : Nat) (args : List V) (h : Heap) : Option (V × Heap) := match args with
 | [.agg [.v (.int .u64 a), .v (.int .u64 x)], .agg [.v (.int .u64 b), .v (.int .u64 y)]] => if a = 0 /\ b = 0 /\ 0 <= y /\ y <= x /\ x < 18446744073709551616 then some (.agg [.v (.int .u64 0), .v (.int .u64 (x - y))], h) else none
 | _ => none
noncomputable def primz : Nat -> Option (Nat -> List V -> Heap -> Option (V × Heap)) := fun n => match n with | 16 => some fieldsP | 89 => some subP | _ => none
instance bty : BTy := ⟨[], some 5⟩
@[go_sem] theorem bt_eq : BTy.bt = [] := rfl
@[go_sem] theorem bt_is : (BTy.bt.isEmpty) = true := rfl
@[go_sem] theorem bt_n (n : Nat) : btOf n = none := rfl
@[go_sem] theorem bb_eq : BTy.bb = some 5 := rfl
@[go_sem] theorem bb_self : ((5 : TypeId) == 5) = true := rfl
attribute [go_sem] Tryd.underlying2
@[go_sem] theorem z2 : tsize Tryd.prog 2 = 1 := by kernel_rfl
@[go_sem] theorem k2 : ttag Tryd.prog 2 = some false := by kernel_rfl
@[go_sem] theorem y2 : Tryd.prog.bytesOf 2 = 8 := by kernel_rfl
@[go_sem] theorem s2 : isStr Tryd.prog 2 = false := by kernel_rfl
@[go_sem] theorem j2 : isI32 Tryd.prog 2 = false := by kernel_rfl
@[go_sem] theorem w2 : isU8 Tryd.prog 2 = false := by kernel_rfl
@[go_sem] theorem o2 : tzero Tryd.prog 2 = some [.int .i64 0] := by kernel_rfl
@[go_sem] theorem i2 : (Tryd.prog.info? 2).isSome = true := by kernel_rfl
attribute [go_sem] Tryd.underlying3
@[go_sem] theorem z3 : tsize Tryd.prog 3 = 1 := by kernel_rfl
@[go_sem] theorem k3 : ttag Tryd.prog 3 = some false := by kernel_rfl
@[go_sem] theorem y3 : Tryd.prog.bytesOf 3 = 8 := by kernel_rfl
@[go_sem] theorem s3 : isStr Tryd.prog 3 = false := by kernel_rfl
@[go_sem] theorem j3 : isI32 Tryd.prog 3 = false := by kernel_rfl
@[go_sem] theorem w3 : isU8 Tryd.prog 3 = false := by kernel_rfl
@[go_sem] theorem o3 : tzero Tryd.prog 3 = some [.int .i64 0] := by kernel_rfl
@[go_sem] theorem i3 : (Tryd.prog.info? 3).isSome = true := by kernel_rfl
attribute [go_sem] Tryd.underlying4
@[go_sem] theorem z4 : tsize Tryd.prog 4 = 1 := by kernel_rfl
@[go_sem] theorem k4 : ttag Tryd.prog 4 = some false := by kernel_rfl
@[go_sem] theorem y4 : Tryd.prog.bytesOf 4 = 1 := by kernel_rfl
@[go_sem] theorem s4 : isStr Tryd.prog 4 = false := by kernel_rfl
@[go_sem] theorem j4 : isI32 Tryd.prog 4 = false := by kernel_rfl
@[go_sem] theorem w4 : isU8 Tryd.prog 4 = false := by kernel_rfl
@[go_sem] theorem o4 : tzero Tryd.prog 4 = some [.bool false] := by kernel_rfl
@[go_sem] theorem i4 : (Tryd.prog.info? 4).isSome = true := by kernel_rfl
attribute [go_sem] Tryd.underlying9
@[go_sem] theorem z9 : tsize Tryd.prog 9 = 1 := by kernel_rfl
@[go_sem] theorem k9 : ttag Tryd.prog 9 = some false := by kernel_rfl
@[go_sem] theorem y9 : Tryd.prog.bytesOf 9 = 16 := by kernel_rfl
@[go_sem] theorem s9 : isStr Tryd.prog 9 = true := by kernel_rfl
@[go_sem] theorem j9 : isI32 Tryd.prog 9 = false := by kernel_rfl
@[go_sem] theorem w9 : isU8 Tryd.prog 9 = false := by kernel_rfl
@[go_sem] theorem o9 : tzero Tryd.prog 9 = some [.string ByteArray.empty] := by kernel_rfl
@[go_sem] theorem i9 : (Tryd.prog.info? 9).isSome = true := by kernel_rfl
attribute [go_sem] Tryd.underlying22
@[go_sem] theorem z22 : tsize Tryd.prog 22 = 1 := by kernel_rfl
@[go_sem] theorem k22 : ttag Tryd.prog 22 = some false := by kernel_rfl
@[go_sem] theorem y22 : Tryd.prog.bytesOf 22 = 24 := by kernel_rfl
@[go_sem] theorem s22 : isStr Tryd.prog 22 = false := by kernel_rfl
@[go_sem] theorem j22 : isI32 Tryd.prog 22 = false := by kernel_rfl
@[go_sem] theorem w22 : isU8 Tryd.prog 22 = false := by kernel_rfl
@[go_sem] theorem o22 : tzero Tryd.prog 22 = some [.slice none 0 0] := by kernel_rfl
@[go_sem] theorem i22 : (Tryd.prog.info? 22).isSome = true := by kernel_rfl
attribute [go_sem] Tryd.underlying24
@[go_sem] theorem z24 : tsize Tryd.prog 24 = 1 := by kernel_rfl
@[go_sem] theorem k24 : ttag Tryd.prog 24 = some false := by kernel_rfl
@[go_sem] theorem y24 : Tryd.prog.bytesOf 24 = 24 := by kernel_rfl
@[go_sem] theorem s24 : isStr Tryd.prog 24 = false := by kernel_rfl
@[go_sem] theorem j24 : isI32 Tryd.prog 24 = false := by kernel_rfl
@[go_sem] theorem w24 : isU8 Tryd.prog 24 = false := by kernel_rfl
@[go_sem] theorem o24 : tzero Tryd.prog 24 = some [.slice none 0 0] := by kernel_rfl
@[go_sem] theorem i24 : (Tryd.prog.info? 24).isSome = true := by kernel_rfl
attribute [go_sem] Tryd.underlying27
@[go_sem] theorem z27 : tsize Tryd.prog 27 = 2 := by kernel_rfl
@[go_sem] theorem k27 : ttag Tryd.prog 27 = some true := by kernel_rfl
@[go_sem] theorem y27 : Tryd.prog.bytesOf 27 = 16 := by kernel_rfl
@[go_sem] theorem s27 : isStr Tryd.prog 27 = false := by kernel_rfl
@[go_sem] theorem j27 : isI32 Tryd.prog 27 = false := by kernel_rfl
@[go_sem] theorem w27 : isU8 Tryd.prog 27 = false := by kernel_rfl
@[go_sem] theorem o27 : tzero Tryd.prog 27 = some [.int .i64 0, .int .i64 0] := by kernel_rfl
@[go_sem] theorem i27 : (Tryd.prog.info? 27).isSome = true := by kernel_rfl
@[go_sem] theorem x27 : structOk Tryd.prog 27 = true := by kernel_rfl
@[go_sem] theorem g27x0 : fieldOff Tryd.prog 27 0 = some (0, 2) := by kernel_rfl
@[go_sem] theorem g27x1 : fieldOff Tryd.prog 27 1 = some (1, 2) := by kernel_rfl
attribute [go_sem] Tryd.underlying29
@[go_sem] theorem z29 : tsize Tryd.prog 29 = 4 := by kernel_rfl
@[go_sem] theorem k29 : ttag Tryd.prog 29 = some true := by kernel_rfl
@[go_sem] theorem y29 : Tryd.prog.bytesOf 29 = 40 := by kernel_rfl
@[go_sem] theorem s29 : isStr Tryd.prog 29 = false := by kernel_rfl
@[go_sem] theorem j29 : isI32 Tryd.prog 29 = false := by kernel_rfl
@[go_sem] theorem w29 : isU8 Tryd.prog 29 = false := by kernel_rfl
@[go_sem] theorem o29 : tzero Tryd.prog 29 = some [.int .i64 0, .int .i64 0, .int .i64 0, .string ByteArray.empty] := by kernel_rfl
@[go_sem] theorem i29 : (Tryd.prog.info? 29).isSome = true := by kernel_rfl
@[go_sem] theorem x29 : structOk Tryd.prog 29 = true := by kernel_rfl
@[go_sem] theorem g29x0 : fieldOff Tryd.prog 29 0 = some (0, 3) := by kernel_rfl
@[go_sem] theorem g29x1 : fieldOff Tryd.prog 29 1 = some (1, 27) := by kernel_rfl
@[go_sem] theorem g29x2 : fieldOff Tryd.prog 29 2 = some (3, 9) := by kernel_rfl
attribute [go_sem] Tryd.underlying31
@[go_sem] theorem z31 : tsize Tryd.prog 31 = 9 := by kernel_rfl
@[go_sem] theorem k31 : ttag Tryd.prog 31 = some true := by kernel_rfl
@[go_sem] theorem y31 : Tryd.prog.bytesOf 31 = 96 := by kernel_rfl
@[go_sem] theorem s31 : isStr Tryd.prog 31 = false := by kernel_rfl
@[go_sem] theorem j31 : isI32 Tryd.prog 31 = false := by kernel_rfl
@[go_sem] theorem w31 : isU8 Tryd.prog 31 = false := by kernel_rfl
@[go_sem] theorem o31 : tzero Tryd.prog 31 = some [.string ByteArray.empty, .int .i64 0, .bool false, .bool false, .slice none 0 0, .int .i64 0, .int .i64 0, .int .i64 0, .string ByteArray.empty] := by kernel_rfl
@[go_sem] theorem i31 : (Tryd.prog.info? 31).isSome = true := by kernel_rfl
@[go_sem] theorem x31 : structOk Tryd.prog 31 = true := by kernel_rfl
@[go_sem] theorem g31x0 : fieldOff Tryd.prog 31 0 = some (0, 9) := by kernel_rfl
@[go_sem] theorem g31x1 : fieldOff Tryd.prog 31 1 = some (1, 3) := by kernel_rfl
@[go_sem] theorem g31x2 : fieldOff Tryd.prog 31 2 = some (2, 4) := by kernel_rfl
@[go_sem] theorem g31x3 : fieldOff Tryd.prog 31 3 = some (3, 4) := by kernel_rfl
@[go_sem] theorem g31x4 : fieldOff Tryd.prog 31 4 = some (4, 22) := by kernel_rfl
@[go_sem] theorem g31x5 : fieldOff Tryd.prog 31 5 = some (5, 29) := by kernel_rfl
attribute [go_sem] Tryd.underlying52
@[go_sem] theorem z52 : tsize Tryd.prog 52 = 1 := by kernel_rfl
@[go_sem] theorem k52 : ttag Tryd.prog 52 = some false := by kernel_rfl
@[go_sem] theorem y52 : Tryd.prog.bytesOf 52 = 24 := by kernel_rfl
@[go_sem] theorem s52 : isStr Tryd.prog 52 = false := by kernel_rfl
@[go_sem] theorem j52 : isI32 Tryd.prog 52 = false := by kernel_rfl
@[go_sem] theorem w52 : isU8 Tryd.prog 52 = false := by kernel_rfl
@[go_sem] theorem o52 : tzero Tryd.prog 52 = some [.slice none 0 0] := by kernel_rfl
@[go_sem] theorem i52 : (Tryd.prog.info? 52).isSome = true := by kernel_rfl
attribute [go_sem] Tryd.underlying55
@[go_sem] theorem z55 : tsize Tryd.prog 55 = 8 := by kernel_rfl
@[go_sem] theorem k55 : ttag Tryd.prog 55 = some true := by kernel_rfl
@[go_sem] theorem y55 : Tryd.prog.bytesOf 55 = 80 := by kernel_rfl
@[go_sem] theorem s55 : isStr Tryd.prog 55 = false := by kernel_rfl
@[go_sem] theorem j55 : isI32 Tryd.prog 55 = false := by kernel_rfl
@[go_sem] theorem w55 : isU8 Tryd.prog 55 = false := by kernel_rfl
@[go_sem] theorem o55 : tzero Tryd.prog 55 = some [.string ByteArray.empty, .int .i64 0, .bool false, .bool false, .string ByteArray.empty, .string ByteArray.empty, .int .i64 0, .int .i64 0] := by kernel_rfl
@[go_sem] theorem i55 : (Tryd.prog.info? 55).isSome = true := by kernel_rfl
@[go_sem] theorem x55 : structOk Tryd.prog 55 = true := by kernel_rfl
@[go_sem] theorem g55x0 : fieldOff Tryd.prog 55 0 = some (0, 9) := by kernel_rfl
@[go_sem] theorem g55x1 : fieldOff Tryd.prog 55 1 = some (1, 3) := by kernel_rfl
@[go_sem] theorem g55x2 : fieldOff Tryd.prog 55 2 = some (2, 4) := by kernel_rfl
@[go_sem] theorem g55x3 : fieldOff Tryd.prog 55 3 = some (3, 4) := by kernel_rfl
@[go_sem] theorem g55x4 : fieldOff Tryd.prog 55 4 = some (4, 9) := by kernel_rfl
@[go_sem] theorem g55x5 : fieldOff Tryd.prog 55 5 = some (5, 9) := by kernel_rfl
@[go_sem] theorem g55x6 : fieldOff Tryd.prog 55 6 = some (6, 2) := by kernel_rfl
@[go_sem] theorem g55x7 : fieldOff Tryd.prog 55 7 = some (7, 2) := by kernel_rfl
attribute [go_sem] Tryd.underlying61
@[go_sem] theorem z61 : tsize Tryd.prog 61 = 1 := by kernel_rfl
@[go_sem] theorem k61 : ttag Tryd.prog 61 = some false := by kernel_rfl
@[go_sem] theorem y61 : Tryd.prog.bytesOf 61 = 8 := by kernel_rfl
@[go_sem] theorem s61 : isStr Tryd.prog 61 = false := by kernel_rfl
@[go_sem] theorem j61 : isI32 Tryd.prog 61 = false := by kernel_rfl
@[go_sem] theorem w61 : isU8 Tryd.prog 61 = false := by kernel_rfl
@[go_sem] theorem i61 : (Tryd.prog.info? 61).isSome = true := by kernel_rfl
attribute [go_sem] Tryd.underlying101
@[go_sem] theorem z101 : tsize Tryd.prog 101 = 1 := by kernel_rfl
@[go_sem] theorem k101 : ttag Tryd.prog 101 = some false := by kernel_rfl
@[go_sem] theorem y101 : Tryd.prog.bytesOf 101 = 8 := by kernel_rfl
@[go_sem] theorem s101 : isStr Tryd.prog 101 = false := by kernel_rfl
@[go_sem] theorem j101 : isI32 Tryd.prog 101 = false := by kernel_rfl
@[go_sem] theorem w101 : isU8 Tryd.prog 101 = false := by kernel_rfl
@[go_sem] theorem o101 : tzero Tryd.prog 101 = some [.int .u64 0] := by kernel_rfl
@[go_sem] theorem i101 : (Tryd.prog.info? 101).isSome = true := by kernel_rfl
attribute [go_sem] Tryd.underlying104
@[go_sem] theorem z104 : tsize Tryd.prog 104 = 2 := by kernel_rfl
@[go_sem] theorem k104 : ttag Tryd.prog 104 = some true := by kernel_rfl
@[go_sem] theorem y104 : Tryd.prog.bytesOf 104 = 16 := by kernel_rfl
@[go_sem] theorem s104 : isStr Tryd.prog 104 = false := by kernel_rfl
@[go_sem] theorem j104 : isI32 Tryd.prog 104 = false := by kernel_rfl
@[go_sem] theorem w104 : isU8 Tryd.prog 104 = false := by kernel_rfl
@[go_sem] theorem o104 : tzero Tryd.prog 104 = some [.int .u64 0, .int .u64 0] := by kernel_rfl
@[go_sem] theorem i104 : (Tryd.prog.info? 104).isSome = true := by kernel_rfl
@[go_sem] theorem x104 : structOk Tryd.prog 104 = true := by kernel_rfl
@[go_sem] theorem g104x0 : fieldOff Tryd.prog 104 0 = some (0, 101) := by kernel_rfl
@[go_sem] theorem g104x1 : fieldOff Tryd.prog 104 1 = some (1, 101) := by kernel_rfl
attribute [go_sem] Tryd.underlying150
@[go_sem] theorem z150 : tsize Tryd.prog 150 = 1 := by kernel_rfl
@[go_sem] theorem k150 : ttag Tryd.prog 150 = some false := by kernel_rfl
@[go_sem] theorem y150 : Tryd.prog.bytesOf 150 = 8 := by kernel_rfl
@[go_sem] theorem s150 : isStr Tryd.prog 150 = false := by kernel_rfl
@[go_sem] theorem j150 : isI32 Tryd.prog 150 = false := by kernel_rfl
@[go_sem] theorem w150 : isU8 Tryd.prog 150 = false := by kernel_rfl
@[go_sem] theorem o150 : tzero Tryd.prog 150 = some [.int .u64 0] := by kernel_rfl
@[go_sem] theorem i150 : (Tryd.prog.info? 150).isSome = true := by kernel_rfl
@[go_sem] def h3a : Nat -> Option (List Nat) := (fun id => match id with | 0 => some [] | 1 => some [1] | 2 => some [1, 2] | 3 => some [1, 2, 13] | 4 => some [0] | 5 => some [1, 14, 15, 16] | 6 => some [1, 14, 15, 16, 17] | 7 => some [1, 3, 4, 14, 15, 16] | 8 => some [1, 3, 4, 5, 6, 14, 15, 16] | 9 => some [1, 14, 15, 16, 50] | 10 => some [0] | 11 => some [1, 14, 15, 16] | 12 => some [0] | _ => none)
def h3 : Hint := ⟨h3a, (fun id => match id with | 11 => some 0 | _ => none), (fun id => match id with | 9 => some 24 | _ => none), [], false, (fun _ => none), fun _ => 0, 0, false, (fun _ => none)⟩
@[go_sem] theorem h3e : h3.late = (fun _ => none) := rfl
@[go_sem] theorem h3x : h3.mix = (fun _ => none) := rfl
@[go_sem] theorem h3l : h3.live = h3a := rfl
@[go_sem] theorem h3o : h3.mode = fun _ => 0 := rfl
@[go_sem] theorem h3k : h3.keep = (fun id => match id with | 11 => some 0 | _ => none) := rfl
@[go_sem] theorem h3t : h3.tail = (fun id => match id with | 9 => some 24 | _ => none) := rfl
@[go_sem] theorem h3v : h3.vars = [] := rfl
@[go_sem] theorem h3m : h3.mutc = false := rfl
@[go_sem] def h5a : Nat -> Option (List Nat) := (fun id => match id with | 0 => some [] | 1 => some [1] | 2 => some [1, 4, 5, 6] | 3 => some [1, 4, 5, 6, 7] | 4 => some [1, 3, 4, 5, 6] | 5 => some [1, 4, 5, 6] | 6 => some [1, 4, 5, 6] | 7 => some [0] | _ => none)
def h5 : Hint := ⟨h5a, (fun id => match id with | 6 => some 0 | _ => none), (fun _ => none), [1], false, (fun _ => none), fun _ => 0, 0, false, (fun _ => none)⟩
@[go_sem] theorem h5x : h5.mix = (fun _ => none) := rfl
@[go_sem] theorem h5l : h5.live = h5a := rfl
@[go_sem] theorem h5o : h5.mode = fun _ => 0 := rfl
@[go_sem] theorem h5k : h5.keep = (fun id => match id with | 6 => some 0 | _ => none) := rfl
@[go_sem] theorem h5t : h5.tail = (fun _ => none) := rfl
@[go_sem] theorem h5v : h5.vars = [1] := rfl
@[go_sem] theorem h5m : h5.mutc = false := rfl
def HQ (a : Nat -> Option (List Nat)) : Hint := ⟨a, (fun _ => none), (fun _ => none), [], false, (fun _ => none), fun _ => 0, 0, false, (fun _ => none)⟩
@[go_sem] theorem HQe (a : Nat -> Option (List Nat)) : (HQ a).late = (fun _ => none) := rfl
@[go_sem] theorem HQx (a : Nat -> Option (List Nat)) : (HQ a).mix = (fun _ => none) := rfl
@[go_sem] theorem HQl (a : Nat -> Option (List Nat)) : (HQ a).live = a := rfl
@[go_sem] theorem HQo (a : Nat -> Option (List Nat)) : (HQ a).mode = fun _ => 0 := rfl
@[go_sem] theorem HQk (a : Nat -> Option (List Nat)) : (HQ a).keep = (fun _ => none) := rfl
@[go_sem] theorem HQt (a : Nat -> Option (List Nat)) : (HQ a).tail = (fun _ => none) := rfl
@[go_sem] theorem HQv (a : Nat -> Option (List Nat)) : (HQ a).vars = [] := rfl
@[go_sem] theorem HQm (a : Nat -> Option (List Nat)) : (HQ a).mutc = false := rfl
@[go_sem] def h6a : Nat -> Option (List Nat) := (fun id => match id with | 0 => some [] | 1 => some [1] | 2 => some [0] | _ => none)
abbrev h6 : Hint := HQ h6a
@[go_sem] def h7a : Nat -> Option (List Nat) := (fun id => match id with | 0 => some [0, 2] | 1 => some [2, 4] | 2 => some [2, 4, 10] | 3 => some [2, 3] | 4 => some [2, 5] | 5 => some [2, 5, 6] | 6 => some [2, 6] | 7 => some [2, 5, 6, 35] | 8 => some [2, 6] | 9 => some [2, 5, 6, 43] | 10 => some [2, 6] | 11 => some [2, 3] | _ => none)
@[go_sem] def h7M : Nat -> Option Mix := (fun id => match id with | 5 => some ⟨[0, 1, 2, 3, 4, 5, 6, 7, 8, 9, 10, 11], [], .head 0 (.head 1 (.head 2 (.head 3 (.head 4 (.head 5 (.head 6 (.head 7 (.head 8 (.head 9 (.alt (.one 10 (.head 11 (.one 12 (.one 13 (.fin))))) (.one 12 (.head 10 (.head 11 (.one 13 (.fin)))))))))))))))⟩ | _ => none)
def h7 : Hint := ⟨h7a, (fun _ => none), (fun id => match id with | 5 => some 12 | _ => none), [], false, h7M, fun _ => 0, 0, false, (fun _ => none)⟩
@[go_sem] theorem h7e : h7.late = (fun _ => none) := rfl
@[go_sem] theorem h7x : h7.mix = h7M := rfl
@[go_sem] theorem h7l : h7.live = h7a := rfl
@[go_sem] theorem h7o : h7.mode = fun _ => 0 := rfl
@[go_sem] theorem h7k : h7.keep = (fun _ => none) := rfl
@[go_sem] theorem h7t : h7.tail = (fun id => match id with | 5 => some 12 | _ => none) := rfl
@[go_sem] theorem h7v : h7.vars = [] := rfl
@[go_sem] theorem h7m : h7.mutc = false := rfl
@[go_sem] def h8a : Nat -> Option (List Nat) := (fun id => match id with | 0 => some [2, 3] | 1 => some [2, 3, 47] | 2 => some [4] | 3 => some [2, 3, 50, 51] | 4 => some [2, 3, 50, 51, 52] | 5 => some [2, 3, 5, 50, 51] | 6 => some [2, 3, 50, 51, 64] | 7 => some [4] | 8 => some [2, 3, 50, 51] | 9 => some [4] | _ => none)
def h8 : Hint := ⟨h8a, (fun _ => none), (fun id => match id with | 6 => some 11 | _ => none), [], false, (fun _ => none), fun _ => 0, 0, false, (fun _ => none)⟩
@[go_sem] theorem h8e : h8.late = (fun _ => none) := rfl
@[go_sem] theorem h8x : h8.mix = (fun _ => none) := rfl
@[go_sem] theorem h8l : h8.live = h8a := rfl
@[go_sem] theorem h8o : h8.mode = fun _ => 0 := rfl
@[go_sem] theorem h8k : h8.keep = (fun _ => none) := rfl
@[go_sem] theorem h8t : h8.tail = (fun id => match id with | 6 => some 11 | _ => none) := rfl
@[go_sem] theorem h8v : h8.vars = [] := rfl
@[go_sem] theorem h8m : h8.mutc = false := rfl
@[go_sem] def h9a : Nat -> Option (List Nat) := (fun id => match id with | 0 => some [0] | 1 => some [3, 4] | 2 => some [3, 12] | 3 => some [2] | 4 => some [2] | _ => none)
abbrev h9 : Hint := HQ h9a
@[go_sem] def h12a : Nat -> Option (List Nat) := (fun id => match id with | 0 => some [] | 1 => some [0] | _ => none)
abbrev h12 : Hint := HQ h12a
@[go_sem] def h13a : Nat -> Option (List Nat) := (fun id => match id with | 0 => some [0, 2] | 1 => some [2] | _ => none)
abbrev h13 : Hint := HQ h13a
@[go_sem] def h14a : Nat -> Option (List Nat) := (fun id => match id with | 0 => some [0, 2] | 1 => some [2] | _ => none)
abbrev h14 : Hint := HQ h14a
@[go_sem] def h15a : Nat -> Option (List Nat) := (fun id => match id with | 0 => some [0, 1, 4] | 1 => some [4] | _ => none)
abbrev h15 : Hint := HQ h15a
@[go_sem] def h17a : Nat -> Option (List Nat) := (fun id => match id with | 0 => some [] | 1 => some [1] | 2 => some [1, 5, 6, 7] | 3 => some [1, 5, 6, 7, 8] | 4 => some [1, 2, 3, 5, 6, 7] | 5 => some [1, 5, 6, 7] | 6 => some [1, 5, 6, 7] | 7 => some [0] | _ => none)
def h17 : Hint := ⟨h17a, (fun id => match id with | 6 => some 1 | _ => none), (fun _ => none), [], false, (fun _ => none), fun _ => 0, 1, false, (fun _ => none)⟩
@[go_sem] theorem h17x : h17.mix = (fun _ => none) := rfl
@[go_sem] theorem h17l : h17.live = h17a := rfl
@[go_sem] theorem h17o : h17.mode = fun _ => 0 := rfl
@[go_sem] theorem h17k : h17.keep = (fun id => match id with | 6 => some 1 | _ => none) := rfl
@[go_sem] theorem h17t : h17.tail = (fun _ => none) := rfl
@[go_sem] theorem h17v : h17.vars = [] := rfl
@[go_sem] theorem h17m : h17.mutc = false := rfl
@[go_sem] def h29a : Nat -> Option (List Nat) := (fun id => match id with | 0 => some [0, 2] | 1 => some [2] | _ => none)
abbrev h29 : Hint := HQ h29a
@[go_sem] def h30a : Nat -> Option (List Nat) := (fun id => match id with | 0 => some [0, 1, 4] | 1 => some [4] | _ => none)
abbrev h30 : Hint := HQ h30a
@[go_sem] def h49a : Nat -> Option (List Nat) := (fun id => match id with | 0 => some [0, 4, 5, 6] | 1 => some [0, 4, 5, 6, 9] | 2 => some [6] | 3 => some [0, 4, 5, 6, 7] | 4 => some [0, 4, 5, 6] | 5 => some [0, 4, 5, 6, 37] | 6 => some [6] | 7 => some [4, 5, 6, 39] | 8 => some [6] | 9 => some [6] | _ => none)
def h49 : Hint := ⟨h49a, (fun _ => none), (fun id => match id with | 4 => some 6 | _ => none), [], false, (fun _ => none), fun _ => 0, 0, false, (fun _ => none)⟩
@[go_sem] theorem h49e : h49.late = (fun _ => none) := rfl
@[go_sem] theorem h49x : h49.mix = (fun _ => none) := rfl
@[go_sem] theorem h49l : h49.live = h49a := rfl
@[go_sem] theorem h49o : h49.mode = fun _ => 0 := rfl
@[go_sem] theorem h49k : h49.keep = (fun _ => none) := rfl
@[go_sem] theorem h49t : h49.tail = (fun id => match id with | 4 => some 6 | _ => none) := rfl
@[go_sem] theorem h49v : h49.vars = [] := rfl
@[go_sem] theorem h49m : h49.mutc = false := rfl
@[go_sem] def h50a : Nat -> Option (List Nat) := (fun id => match id with | 0 => some [0] | 1 => some [0, 4] | 2 => some [2] | 3 => some [2] | _ => none)
abbrev h50 : Hint := HQ h50a
@[go_sem] def h62a : Nat -> Option (List Nat) := (fun id => match id with | 0 => some [1] | 1 => some [2] | _ => none)
abbrev h62 : Hint := HQ h62a
@[go_sem] def h63a : Nat -> Option (List Nat) := (fun id => match id with | 0 => some [0] | 1 => some [0] | _ => none)
abbrev h63 : Hint := HQ h63a
@[go_sem] def h64a : Nat -> Option (List Nat) := (fun id => match id with | 0 => some [2, 3, 4] | 1 => some [2, 3, 4, 7] | 2 => some [4] | 3 => some [2, 3, 4, 5] | 4 => some [2, 3, 4, 5, 18] | 5 => some [2, 3, 4, 5] | 6 => some [2, 3, 4, 5] | 7 => some [2, 3, 4, 5, 28] | 8 => some [2, 3, 4, 5] | 9 => some [2, 3, 4, 5, 33] | 10 => some [2, 3, 4, 5, 37] | 11 => some [2, 3, 4, 5, 33] | 12 => some [2, 3, 4, 5, 42] | 13 => some [2, 3, 4, 5, 42] | 14 => some [2, 3, 4, 5] | 15 => some [2, 4, 48, 49] | 16 => some [2, 4, 48, 49, 50] | 17 => some [2, 4, 48, 49] | 18 => some [2, 4, 48, 49] | 19 => some [4] | _ => none)
def h64 : Hint := ⟨h64a, (fun _ => none), (fun id => match id with | 5 => some 4 | _ => none), [], false, (fun _ => none), fun _ => 0, 0, false, (fun _ => none)⟩
@[go_sem] theorem h64e : h64.late = (fun _ => none) := rfl
@[go_sem] theorem h64x : h64.mix = (fun _ => none) := rfl
@[go_sem] theorem h64l : h64.live = h64a := rfl
@[go_sem] theorem h64o : h64.mode = fun _ => 0 := rfl
@[go_sem] theorem h64k : h64.keep = (fun _ => none) := rfl
@[go_sem] theorem h64t : h64.tail = (fun id => match id with | 5 => some 4 | _ => none) := rfl
@[go_sem] theorem h64v : h64.vars = [] := rfl
@[go_sem] theorem h64m : h64.mutc = false := rfl
@[go_sem] def h65a : Nat -> Option (List Nat) := (fun id => match id with | 0 => some [2, 3, 4] | 1 => some [2, 3, 4, 5, 6] | 2 => some [2, 3, 4, 5, 6, 7] | 3 => some [2, 3, 4, 5, 6, 7, 11] | 4 => some [2, 3, 4, 5, 6, 7] | 5 => some [2, 3, 4, 5, 6, 7] | 6 => some [2, 3, 4, 5, 6, 7, 17] | 7 => some [2, 3, 4, 5, 6, 7] | 8 => some [2, 3, 4, 5, 6, 7] | 9 => some [2, 3, 4, 5, 6, 7] | 10 => some [2, 3, 4, 5, 6, 7, 44] | 11 => some [2, 3, 4, 5, 6, 7] | 12 => some [2, 3, 4, 5, 6, 7, 44] | 13 => some [4] | _ => none)
abbrev h65 : Hint := HQ h65a
@[go_sem] def h87a : Nat -> Option (List Nat) := (fun id => match id with | 0 => some [1, 2] | 1 => some [2] | _ => none)
abbrev h87 : Hint := HQ h87a
@[go_sem] def h88a : Nat -> Option (List Nat) := (fun id => match id with | 0 => some [2, 3] | 1 => some [4] | _ => none)
abbrev h88 : Hint := HQ h88a
@[go_sem] def h89a : Nat -> Option (List Nat) := (fun id => match id with | 0 => some [2, 3, 4] | 1 => some [2, 3, 4, 5, 6] | 2 => some [4, 5, 7] | 3 => some [4] | _ => none)
abbrev h89 : Hint := HQ h89a
@[go_sem] def h90a : Nat -> Option (List Nat) := (fun id => match id with | 0 => some [1, 2] | 1 => some [2] | _ => none)
abbrev h90 : Hint := HQ h90a
def hints (f : Nat) : Hint := match f with
 | 3 => h3
 | 5 => h5
 | 6 => h6
 | 7 => h7
 | 8 => h8
 | 9 => h9
 | 12 => h12
 | 13 => h13
 | 14 => h14
 | 15 => h15
 | 17 => h17
 | 29 => h29
 | 30 => h30
 | 49 => h49
 | 50 => h50
 | 62 => h62
 | 63 => h63
 | 64 => h64
 | 65 => h65
 | 87 => h87
 | 88 => h88
 | 89 => h89
 | 90 => h90
 | _ => ⟨fun _ => none, fun _ => none, fun _ => none, [], false, fun _ => none, fun _ => 0, 0, false, fun _ => none⟩
noncomputable def E : CallF := ev Tryd.prog hints primz
noncomputable def b3 : Code := bodyOf Tryd.f3
noncomputable def l3x0 : Code := loopAt b3 0
theorem c3 : codeOk Tryd.prog h3 52 b3 = true := by kernel_rfl
theorem e3 {lo : Nat} {args : List V} {h : Heap} (ha : args.length <= 52) (hb : args.all bare = true) :
  E lo 3 args h = fin Tryd.prog [.tmp 0] h.length (evCode ⟨Tryd.prog, E, lo, h.length, h3⟩ loopW b3 (args0 args, h)) :=
 ev_body rfl Tryd.func3 rfl Tryd.ntmps3 (by kernel_rfl) rfl c3 rfl rfl rfl ha hb
noncomputable def b5 : Code := bodyOf Tryd.f5
noncomputable def l5x0 : Code := loopAt b5 0
theorem c5 : codeOk Tryd.prog h5 17 b5 = true := by kernel_rfl
theorem e5 {lo : Nat} {args : List V} {h : Heap} (ha : args.length <= 17) (hb : args.all bare = true) :
  E lo 5 args h = fin Tryd.prog [.tmp 0] h.length (evCode ⟨Tryd.prog, E, lo, h.length, h5⟩ loopW b5 (args0 args, h)) :=
 ev_body rfl Tryd.func5 rfl Tryd.ntmps5 (by kernel_rfl) rfl c5 rfl rfl rfl ha hb
noncomputable def b6 : Code := bodyOf Tryd.f6
theorem c6 : codeOk Tryd.prog h6 40 b6 = true := by kernel_rfl
theorem e6 {lo : Nat} {args : List V} {h : Heap} (ha : args.length <= 40) (hb : args.all bare = true) :
  E lo 6 args h = fin Tryd.prog [.tmp 0] h.length (evCode ⟨Tryd.prog, E, lo, h.length, h6⟩ loopW b6 (args0 args, h)) :=
 ev_body rfl Tryd.func6 rfl Tryd.ntmps6 (by kernel_rfl) rfl c6 rfl rfl rfl ha hb
noncomputable def b7 : Code := bodyOf Tryd.f7
theorem c7 : codeOk Tryd.prog h7 55 b7 = true := by kernel_rfl
theorem e7 {lo : Nat} {args : List V} {h : Heap} (ha : args.length <= 55) (hb : args.all bare = true) :
  E lo 7 args h = fin Tryd.prog [.cell 2 31, .tmp 3] h.length (evCode ⟨Tryd.prog, E, lo, h.length, h7⟩ loopW b7 (args0 args, h)) :=
 ev_body rfl Tryd.func7 rfl Tryd.ntmps7 (by kernel_rfl) rfl c7 rfl rfl rfl ha hb
noncomputable def b8 : Code := bodyOf Tryd.f8
noncomputable def l8x0 : Code := loopAt b8 0
theorem c8 : codeOk Tryd.prog h8 66 b8 = true := by kernel_rfl
theorem e8 {lo : Nat} {args : List V} {h : Heap} (ha : args.length <= 66) (hb : args.all bare = true) :
  E lo 8 args h = fin Tryd.prog [.tmp 4] h.length (evCode ⟨Tryd.prog, E, lo, h.length, h8⟩ loopW b8 (args0 args, h)) :=
 ev_body rfl Tryd.func8 rfl Tryd.ntmps8 (by kernel_rfl) rfl c8 rfl rfl rfl ha hb
noncomputable def b9 : Code := bodyOf Tryd.f9
theorem c9 : codeOk Tryd.prog h9 14 b9 = true := by kernel_rfl
theorem e9 {lo : Nat} {args : List V} {h : Heap} (ha : args.length <= 14) (hb : args.all bare = true) :
  E lo 9 args h = fin Tryd.prog [.tmp 2] h.length (evCode ⟨Tryd.prog, E, lo, h.length, h9⟩ loopW b9 (args0 args, h)) :=
 ev_body rfl Tryd.func9 rfl Tryd.ntmps9 (by kernel_rfl) rfl c9 rfl rfl rfl ha hb
noncomputable def b12 : Code := bodyOf Tryd.f12
theorem c12 : codeOk Tryd.prog h12 16 b12 = true := by kernel_rfl
theorem e12 {lo : Nat} {args : List V} {h : Heap} (ha : args.length <= 16) (hb : args.all bare = true) :
  E lo 12 args h = fin Tryd.prog [.tmp 0] h.length (evCode ⟨Tryd.prog, E, lo, h.length, h12⟩ loopW b12 (args0 args, h)) :=
 ev_body rfl Tryd.func12 rfl Tryd.ntmps12 (by kernel_rfl) rfl c12 rfl rfl rfl ha hb
noncomputable def b13 : Code := bodyOf Tryd.f13
theorem c13 : codeOk Tryd.prog h13 5 b13 = true := by kernel_rfl
theorem e13 {lo : Nat} {args : List V} {h : Heap} (ha : args.length <= 5) (hb : args.all bare = true) :
  E lo 13 args h = fin Tryd.prog [.cell 2 29] h.length (evCode ⟨Tryd.prog, E, lo, h.length, h13⟩ loopW b13 (args0 args, h)) :=
 ev_body rfl Tryd.func13 rfl Tryd.ntmps13 (by kernel_rfl) rfl c13 rfl rfl rfl ha hb
noncomputable def b14 : Code := bodyOf Tryd.f14
theorem c14 : codeOk Tryd.prog h14 6 b14 = true := by kernel_rfl
theorem e14 {lo : Nat} {args : List V} {h : Heap} (ha : args.length <= 6) (hb : args.all bare = true) :
  E lo 14 args h = fin Tryd.prog [.cell 2 29] h.length (evCode ⟨Tryd.prog, E, lo, h.length, h14⟩ loopW b14 (args0 args, h)) :=
 ev_body rfl Tryd.func14 rfl Tryd.ntmps14 (by kernel_rfl) rfl c14 rfl rfl rfl ha hb
noncomputable def b15 : Code := bodyOf Tryd.f15
theorem c15 : codeOk Tryd.prog h15 9 b15 = true := by kernel_rfl
theorem e15 {lo : Nat} {args : List V} {h : Heap} (ha : args.length <= 9) (hb : args.all bare = true) :
  E lo 15 args h = fin Tryd.prog [.cell 4 29] h.length (evCode ⟨Tryd.prog, E, lo, h.length, h15⟩ loopW b15 (args0 args, h)) :=
 ev_body rfl Tryd.func15 rfl Tryd.ntmps15 (by kernel_rfl) rfl c15 rfl rfl rfl ha hb
noncomputable def b17 : Code := bodyOf Tryd.f17
noncomputable def l17x0 : Code := loopAt b17 0
theorem c17 : codeOk Tryd.prog h17 18 b17 = true := by kernel_rfl
theorem e17 {lo : Nat} {args : List V} {h : Heap} (ha : args.length <= 18) (hb : args.all bare = true) :
  E lo 17 args h = finR Tryd.prog [.tmp 0] h.length 1 false (evCode ⟨Tryd.prog, E, lo, h.length, h17⟩ loopW b17 (args0 args, h)) :=
 ev_bodyR rfl Tryd.func17 rfl Tryd.ntmps17 (by kernel_rfl) rfl c17 rfl rfl rfl ha hb
noncomputable def b29 : Code := bodyOf Tryd.f29
theorem c29 : codeOk Tryd.prog h29 5 b29 = true := by kernel_rfl
theorem e29 {lo : Nat} {args : List V} {h : Heap} (ha : args.length <= 5) (hb : args.all bare = true) :
  E lo 29 args h = fin Tryd.prog [.cell 2 27] h.length (evCode ⟨Tryd.prog, E, lo, h.length, h29⟩ loopW b29 (args0 args, h)) :=
 ev_body rfl Tryd.func29 rfl Tryd.ntmps29 (by kernel_rfl) rfl c29 rfl rfl rfl ha hb
noncomputable def b30 : Code := bodyOf Tryd.f30
theorem c30 : codeOk Tryd.prog h30 17 b30 = true := by kernel_rfl
theorem e30 {lo : Nat} {args : List V} {h : Heap} (ha : args.length <= 17) (hb : args.all bare = true) :
  E lo 30 args h = fin Tryd.prog [.cell 4 27] h.length (evCode ⟨Tryd.prog, E, lo, h.length, h30⟩ loopW b30 (args0 args, h)) :=
 ev_body rfl Tryd.func30 rfl Tryd.ntmps30 (by kernel_rfl) rfl c30 rfl rfl rfl ha hb
noncomputable def b49 : Code := bodyOf Tryd.f49
theorem c49 : codeOk Tryd.prog h49 55 b49 = true := by kernel_rfl
theorem e49 {lo : Nat} {args : List V} {h : Heap} (ha : args.length <= 55) (hb : args.all bare = true) :
  E lo 49 args h = fin Tryd.prog [.cell 6 27] h.length (evCode ⟨Tryd.prog, E, lo, h.length, h49⟩ loopW b49 (args0 args, h)) :=
 ev_body rfl Tryd.func49 rfl Tryd.ntmps49 (by kernel_rfl) rfl c49 rfl rfl rfl ha hb
noncomputable def b50 : Code := bodyOf Tryd.f50
theorem c50 : codeOk Tryd.prog h50 12 b50 = true := by kernel_rfl
theorem e50 {lo : Nat} {args : List V} {h : Heap} (ha : args.length <= 12) (hb : args.all bare = true) :
  E lo 50 args h = fin Tryd.prog [.tmp 2] h.length (evCode ⟨Tryd.prog, E, lo, h.length, h50⟩ loopW b50 (args0 args, h)) :=
 ev_body rfl Tryd.func50 rfl Tryd.ntmps50 (by kernel_rfl) rfl c50 rfl rfl rfl ha hb
noncomputable def b62 : Code := bodyOf Tryd.f62
theorem c62 : codeOk Tryd.prog h62 11 b62 = true := by kernel_rfl
theorem e62 {lo : Nat} {args : List V} {h : Heap} (ha : args.length <= 11) (hb : args.all bare = true) :
  E lo 62 args h = fin Tryd.prog [.tmp 2] h.length (evCode ⟨Tryd.prog, E, lo, h.length, h62⟩ loopW b62 (args0 args, h)) :=
 ev_body rfl Tryd.func62 rfl Tryd.ntmps62 (by kernel_rfl) rfl c62 rfl rfl rfl ha hb
noncomputable def b63 : Code := bodyOf Tryd.f63
theorem c63 : codeOk Tryd.prog h63 2 b63 = true := by kernel_rfl
theorem e63 {lo : Nat} {args : List V} {h : Heap} (ha : args.length <= 2) (hb : args.all bare = true) :
  E lo 63 args h = fin Tryd.prog [.cell 0 27] h.length (evCode ⟨Tryd.prog, E, lo, h.length, h63⟩ loopW b63 (args0 args, h)) :=
 ev_body rfl Tryd.func63 rfl Tryd.ntmps63 (by kernel_rfl) rfl c63 rfl rfl rfl ha hb
noncomputable def b64 : Code := bodyOf Tryd.f64
noncomputable def l64x0 : Code := loopAt b64 0
noncomputable def l64x1 : Code := loopAt b64 1
noncomputable def l64x2 : Code := loopAt b64 2
noncomputable def l64x3 : Code := loopAt b64 3
noncomputable def l64x4 : Code := loopAt b64 4
theorem c64 : codeOk Tryd.prog h64 55 b64 = true := by kernel_rfl
theorem e64 {lo : Nat} {args : List V} {h : Heap} (ha : args.length <= 55) (hb : args.all bare = true) :
  E lo 64 args h = fin Tryd.prog [.cell 4 104] h.length (evCode ⟨Tryd.prog, E, lo, h.length, h64⟩ loopW b64 (args0 args, h)) :=
 ev_body rfl Tryd.func64 rfl Tryd.ntmps64 (by kernel_rfl) rfl c64 rfl rfl rfl ha hb
noncomputable def b65 : Code := bodyOf Tryd.f65
noncomputable def l65x0 : Code := loopAt b65 0
theorem c65 : codeOk Tryd.prog h65 53 b65 = true := by kernel_rfl
theorem e65 {lo : Nat} {args : List V} {h : Heap} (ha : args.length <= 53) (hb : args.all bare = true) :
  E lo 65 args h = fin Tryd.prog [.cell 4 104] h.length (evCode ⟨Tryd.prog, E, lo, h.length, h65⟩ loopW b65 (args0 args, h)) :=
 ev_body rfl Tryd.func65 rfl Tryd.ntmps65 (by kernel_rfl) rfl c65 rfl rfl rfl ha hb
noncomputable def b87 : Code := bodyOf Tryd.f87
theorem c87 : codeOk Tryd.prog h87 14 b87 = true := by kernel_rfl
theorem e87 {lo : Nat} {args : List V} {h : Heap} (ha : args.length <= 14) (hb : args.all bare = true) :
  E lo 87 args h = fin Tryd.prog [.cell 2 104] h.length (evCode ⟨Tryd.prog, E, lo, h.length, h87⟩ loopW b87 (args0 args, h)) :=
 ev_body rfl Tryd.func87 rfl Tryd.ntmps87 (by kernel_rfl) rfl c87 rfl rfl rfl ha hb
noncomputable def b88 : Code := bodyOf Tryd.f88
theorem c88 : codeOk Tryd.prog h88 24 b88 = true := by kernel_rfl
theorem e88 {lo : Nat} {args : List V} {h : Heap} (ha : args.length <= 24) (hb : args.all bare = true) :
  E lo 88 args h = fin Tryd.prog [.tmp 4] h.length (evCode ⟨Tryd.prog, E, lo, h.length, h88⟩ loopW b88 (args0 args, h)) :=
 ev_body rfl Tryd.func88 rfl Tryd.ntmps88 (by kernel_rfl) rfl c88 rfl rfl rfl ha hb
noncomputable def b89 : Code := bodyOf Tryd.f89
noncomputable def b90 : Code := bodyOf Tryd.f90
theorem c90 : codeOk Tryd.prog h90 14 b90 = true := by kernel_rfl
theorem e90 {lo : Nat} {args : List V} {h : Heap} (ha : args.length <= 14) (hb : args.all bare = true) :
  E lo 90 args h = fin Tryd.prog [.cell 2 104] h.length (evCode ⟨Tryd.prog, E, lo, h.length, h90⟩ loopW b90 (args0 args, h)) :=
 ev_body rfl Tryd.func90 rfl Tryd.ntmps90 (by kernel_rfl) rfl c90 rfl rfl rfl ha hb
end Go.Lift.T1
