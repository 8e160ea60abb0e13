/- Facts of the program that the evaluation asks for: the live slots of each function, its types. Written by a program (gen.py). -/
import Derived.Test.YtedlleekcinbcaaRows
import Derived.Test.YtedlleekcinbcaaLiftW
namespace Go.Lift.R1
set_option linter.unusedVariables false
set_option linter.unusedSimpArgs false
open Go.Proofs
set_option maxRecDepth 20000

instance gtab : GTab := ⟨fun _ => none⟩
attribute [go_sem] Try.underlying3
@[go_sem] theorem z3 : tsize Try.prog 3 = 1 := by kernel_rfl
@[go_sem] theorem k3 : ttag Try.prog 3 = some false := by kernel_rfl
@[go_sem] theorem y3 : Try.prog.bytesOf 3 = 8 := by kernel_rfl
@[go_sem] theorem s3 : isStr Try.prog 3 = false := by kernel_rfl
@[go_sem] theorem j3 : isI32 Try.prog 3 = false := by kernel_rfl
@[go_sem] theorem w3 : isU8 Try.prog 3 = false := by kernel_rfl
@[go_sem] theorem o3 : tzero Try.prog 3 = some [.int .i64 0] := by kernel_rfl
@[go_sem] theorem i3 : (Try.prog.info? 3).isSome = true := by kernel_rfl
attribute [go_sem] Try.underlying4
@[go_sem] theorem z4 : tsize Try.prog 4 = 1 := by kernel_rfl
@[go_sem] theorem k4 : ttag Try.prog 4 = some false := by kernel_rfl
@[go_sem] theorem y4 : Try.prog.bytesOf 4 = 1 := by kernel_rfl
@[go_sem] theorem s4 : isStr Try.prog 4 = false := by kernel_rfl
@[go_sem] theorem j4 : isI32 Try.prog 4 = false := by kernel_rfl
@[go_sem] theorem w4 : isU8 Try.prog 4 = false := by kernel_rfl
@[go_sem] theorem o4 : tzero Try.prog 4 = some [.bool false] := by kernel_rfl
@[go_sem] theorem i4 : (Try.prog.info? 4).isSome = true := by kernel_rfl
attribute [go_sem] Try.underlying5
@[go_sem] theorem z5 : tsize Try.prog 5 = 1 := by kernel_rfl
@[go_sem] theorem k5 : ttag Try.prog 5 = some false := by kernel_rfl
@[go_sem] theorem y5 : Try.prog.bytesOf 5 = 1 := by kernel_rfl
@[go_sem] theorem s5 : isStr Try.prog 5 = false := by kernel_rfl
@[go_sem] theorem j5 : isI32 Try.prog 5 = false := by kernel_rfl
@[go_sem] theorem w5 : isU8 Try.prog 5 = true := by kernel_rfl
@[go_sem] theorem o5 : tzero Try.prog 5 = some [.int .u8 0] := by kernel_rfl
@[go_sem] theorem i5 : (Try.prog.info? 5).isSome = true := by kernel_rfl
attribute [go_sem] Try.underlying21
@[go_sem] theorem z21 : tsize Try.prog 21 = 1 := by kernel_rfl
@[go_sem] theorem k21 : ttag Try.prog 21 = some false := by kernel_rfl
@[go_sem] theorem y21 : Try.prog.bytesOf 21 = 4 := by kernel_rfl
@[go_sem] theorem s21 : isStr Try.prog 21 = false := by kernel_rfl
@[go_sem] theorem j21 : isI32 Try.prog 21 = true := by kernel_rfl
@[go_sem] theorem w21 : isU8 Try.prog 21 = false := by kernel_rfl
@[go_sem] theorem o21 : tzero Try.prog 21 = some [.int .i32 0] := by kernel_rfl
@[go_sem] theorem i21 : (Try.prog.info? 21).isSome = true := by kernel_rfl
attribute [go_sem] Try.underlying22
@[go_sem] theorem z22 : tsize Try.prog 22 = 1 := by kernel_rfl
@[go_sem] theorem k22 : ttag Try.prog 22 = some false := by kernel_rfl
@[go_sem] theorem y22 : Try.prog.bytesOf 22 = 24 := by kernel_rfl
@[go_sem] theorem s22 : isStr Try.prog 22 = false := by kernel_rfl
@[go_sem] theorem j22 : isI32 Try.prog 22 = false := by kernel_rfl
@[go_sem] theorem w22 : isU8 Try.prog 22 = false := by kernel_rfl
@[go_sem] theorem o22 : tzero Try.prog 22 = some [.slice none 0 0] := by kernel_rfl
@[go_sem] theorem i22 : (Try.prog.info? 22).isSome = true := by kernel_rfl
attribute [go_sem] Try.underlying24
@[go_sem] theorem z24 : tsize Try.prog 24 = 1 := by kernel_rfl
@[go_sem] theorem k24 : ttag Try.prog 24 = some false := by kernel_rfl
@[go_sem] theorem y24 : Try.prog.bytesOf 24 = 24 := by kernel_rfl
@[go_sem] theorem s24 : isStr Try.prog 24 = false := by kernel_rfl
@[go_sem] theorem j24 : isI32 Try.prog 24 = false := by kernel_rfl
@[go_sem] theorem w24 : isU8 Try.prog 24 = false := by kernel_rfl
@[go_sem] theorem o24 : tzero Try.prog 24 = some [.slice none 0 0] := by kernel_rfl
@[go_sem] theorem i24 : (Try.prog.info? 24).isSome = true := by kernel_rfl
attribute [go_sem] Try.underlying34
@[go_sem] theorem z34 : tsize Try.prog 34 = 1 := by kernel_rfl
@[go_sem] theorem k34 : ttag Try.prog 34 = some false := by kernel_rfl
@[go_sem] theorem y34 : Try.prog.bytesOf 34 = 8 := by kernel_rfl
@[go_sem] theorem s34 : isStr Try.prog 34 = false := by kernel_rfl
@[go_sem] theorem j34 : isI32 Try.prog 34 = false := by kernel_rfl
@[go_sem] theorem w34 : isU8 Try.prog 34 = false := by kernel_rfl
@[go_sem] theorem o34 : tzero Try.prog 34 = some [.int .u64 0] := by kernel_rfl
@[go_sem] theorem i34 : (Try.prog.info? 34).isSome = true := by kernel_rfl
attribute [go_sem] Try.underlying37
@[go_sem] theorem z37 : tsize Try.prog 37 = 2 := by kernel_rfl
@[go_sem] theorem k37 : ttag Try.prog 37 = some true := by kernel_rfl
@[go_sem] theorem y37 : Try.prog.bytesOf 37 = 32 := by kernel_rfl
@[go_sem] theorem s37 : isStr Try.prog 37 = false := by kernel_rfl
@[go_sem] theorem j37 : isI32 Try.prog 37 = false := by kernel_rfl
@[go_sem] theorem w37 : isU8 Try.prog 37 = false := by kernel_rfl
@[go_sem] theorem o37 : tzero Try.prog 37 = some [.slice none 0 0, .int .i64 0] := by kernel_rfl
@[go_sem] theorem i37 : (Try.prog.info? 37).isSome = true := by kernel_rfl
@[go_sem] theorem x37 : structOk Try.prog 37 = true := by kernel_rfl
@[go_sem] theorem g37x0 : fieldOff Try.prog 37 0 = some (0, 22) := by kernel_rfl
@[go_sem] theorem g37x1 : fieldOff Try.prog 37 1 = some (1, 3) := by kernel_rfl
attribute [go_sem] Try.underlying40
@[go_sem] theorem z40 : tsize Try.prog 40 = 2 := by kernel_rfl
@[go_sem] theorem k40 : ttag Try.prog 40 = some true := by kernel_rfl
@[go_sem] theorem y40 : Try.prog.bytesOf 40 = 32 := by kernel_rfl
@[go_sem] theorem s40 : isStr Try.prog 40 = false := by kernel_rfl
@[go_sem] theorem j40 : isI32 Try.prog 40 = false := by kernel_rfl
@[go_sem] theorem w40 : isU8 Try.prog 40 = false := by kernel_rfl
@[go_sem] theorem o40 : tzero Try.prog 40 = some [.slice none 0 0, .int .i64 0] := by kernel_rfl
@[go_sem] theorem i40 : (Try.prog.info? 40).isSome = true := by kernel_rfl
@[go_sem] theorem x40 : structOk Try.prog 40 = true := by kernel_rfl
@[go_sem] theorem g40x0 : fieldOff Try.prog 40 0 = some (0, 22) := by kernel_rfl
@[go_sem] theorem g40x1 : fieldOff Try.prog 40 1 = some (1, 3) := by kernel_rfl
attribute [go_sem] Try.underlying48
@[go_sem] theorem z48 : tsize Try.prog 48 = 1 := by kernel_rfl
@[go_sem] theorem k48 : ttag Try.prog 48 = some false := by kernel_rfl
@[go_sem] theorem y48 : Try.prog.bytesOf 48 = 8 := by kernel_rfl
@[go_sem] theorem s48 : isStr Try.prog 48 = false := by kernel_rfl
@[go_sem] theorem j48 : isI32 Try.prog 48 = false := by kernel_rfl
@[go_sem] theorem w48 : isU8 Try.prog 48 = false := by kernel_rfl
@[go_sem] theorem i48 : (Try.prog.info? 48).isSome = true := by kernel_rfl
attribute [go_sem] Try.underlying49
@[go_sem] theorem z49 : tsize Try.prog 49 = 1 := by kernel_rfl
@[go_sem] theorem k49 : ttag Try.prog 49 = some false := by kernel_rfl
@[go_sem] theorem y49 : Try.prog.bytesOf 49 = 8 := by kernel_rfl
@[go_sem] theorem s49 : isStr Try.prog 49 = false := by kernel_rfl
@[go_sem] theorem j49 : isI32 Try.prog 49 = false := by kernel_rfl
@[go_sem] theorem w49 : isU8 Try.prog 49 = false := by kernel_rfl
@[go_sem] theorem i49 : (Try.prog.info? 49).isSome = true := by kernel_rfl

def h3 : Hint := ⟨(fun id => match id with | 0 => some [0] | 1 => some [2] | _ => none), (fun _ => none), (fun _ => none), [], false⟩
@[go_sem] theorem h3l : h3.live = (fun id => match id with | 0 => some [0] | 1 => some [2] | _ => none) := rfl
@[go_sem] theorem h3k : h3.keep = (fun _ => none) := rfl
@[go_sem] theorem h3t : h3.tail = (fun _ => none) := rfl
@[go_sem] theorem h3v : h3.vars = [] := rfl
@[go_sem] theorem h3m : h3.mutc = false := rfl
def h4 : Hint := ⟨(fun id => match id with | 0 => some [0] | 1 => some [0, 3, 4, 5] | 2 => some [3, 4, 5, 6, 7, 8] | 3 => some [3, 4, 5, 6, 7, 8, 9, 10, 11] | 4 => some [2] | _ => none), (fun _ => none), (fun _ => none), [], false⟩
@[go_sem] theorem h4l : h4.live = (fun id => match id with | 0 => some [0] | 1 => some [0, 3, 4, 5] | 2 => some [3, 4, 5, 6, 7, 8] | 3 => some [3, 4, 5, 6, 7, 8, 9, 10, 11] | 4 => some [2] | _ => none) := rfl
@[go_sem] theorem h4k : h4.keep = (fun _ => none) := rfl
@[go_sem] theorem h4t : h4.tail = (fun _ => none) := rfl
@[go_sem] theorem h4v : h4.vars = [] := rfl
@[go_sem] theorem h4m : h4.mutc = false := rfl
def h5 : Hint := ⟨(fun id => match id with | 0 => some [0] | 1 => some [2] | _ => none), (fun _ => none), (fun _ => none), [], false⟩
@[go_sem] theorem h5l : h5.live = (fun id => match id with | 0 => some [0] | 1 => some [2] | _ => none) := rfl
@[go_sem] theorem h5k : h5.keep = (fun _ => none) := rfl
@[go_sem] theorem h5t : h5.tail = (fun _ => none) := rfl
@[go_sem] theorem h5v : h5.vars = [] := rfl
@[go_sem] theorem h5m : h5.mutc = false := rfl
def h6 : Hint := ⟨(fun id => match id with | 0 => some [0] | 1 => some [2] | _ => none), (fun _ => none), (fun _ => none), [], false⟩
@[go_sem] theorem h6l : h6.live = (fun id => match id with | 0 => some [0] | 1 => some [2] | _ => none) := rfl
@[go_sem] theorem h6k : h6.keep = (fun _ => none) := rfl
@[go_sem] theorem h6t : h6.tail = (fun _ => none) := rfl
@[go_sem] theorem h6v : h6.vars = [] := rfl
@[go_sem] theorem h6m : h6.mutc = false := rfl
def h7 : Hint := ⟨(fun id => match id with | 0 => some [0, 1] | 1 => some [0, 1, 5, 6] | 2 => some [0, 1, 5, 6, 24] | 3 => some [4] | 4 => some [0, 1, 5, 6, 27] | 5 => some [4] | 6 => some [5, 6, 7] | 7 => some [4] | _ => none), (fun _ => none), (fun _ => none), [], false⟩
@[go_sem] theorem h7l : h7.live = (fun id => match id with | 0 => some [0, 1] | 1 => some [0, 1, 5, 6] | 2 => some [0, 1, 5, 6, 24] | 3 => some [4] | 4 => some [0, 1, 5, 6, 27] | 5 => some [4] | 6 => some [5, 6, 7] | 7 => some [4] | _ => none) := rfl
@[go_sem] theorem h7k : h7.keep = (fun _ => none) := rfl
@[go_sem] theorem h7t : h7.tail = (fun _ => none) := rfl
@[go_sem] theorem h7v : h7.vars = [] := rfl
@[go_sem] theorem h7m : h7.mutc = false := rfl
def h8 : Hint := ⟨(fun id => match id with | 0 => some [0] | 1 => some [2] | _ => none), (fun _ => none), (fun _ => none), [], false⟩
@[go_sem] theorem h8l : h8.live = (fun id => match id with | 0 => some [0] | 1 => some [2] | _ => none) := rfl
@[go_sem] theorem h8k : h8.keep = (fun _ => none) := rfl
@[go_sem] theorem h8t : h8.tail = (fun _ => none) := rfl
@[go_sem] theorem h8v : h8.vars = [] := rfl
@[go_sem] theorem h8m : h8.mutc = false := rfl
def h9 : Hint := ⟨(fun id => match id with | 0 => some [0, 1] | 1 => some [0, 1, 5] | 2 => some [0, 1, 5, 9, 10, 11] | 3 => some [0, 1, 5, 9, 10, 11, 12] | 4 => some [0, 1, 5, 7, 9, 10, 11] | 5 => some [0, 1, 5, 9, 10, 11] | 6 => some [0, 1, 5, 9, 10, 11] | 7 => some [0, 1, 5, 8] | 8 => some [1, 45] | 9 => some [4] | 10 => some [4] | _ => none), (fun _ => none), (fun _ => none), [], false⟩
@[go_sem] theorem h9l : h9.live = (fun id => match id with | 0 => some [0, 1] | 1 => some [0, 1, 5] | 2 => some [0, 1, 5, 9, 10, 11] | 3 => some [0, 1, 5, 9, 10, 11, 12] | 4 => some [0, 1, 5, 7, 9, 10, 11] | 5 => some [0, 1, 5, 9, 10, 11] | 6 => some [0, 1, 5, 9, 10, 11] | 7 => some [0, 1, 5, 8] | 8 => some [1, 45] | 9 => some [4] | 10 => some [4] | _ => none) := rfl
@[go_sem] theorem h9k : h9.keep = (fun _ => none) := rfl
@[go_sem] theorem h9t : h9.tail = (fun _ => none) := rfl
@[go_sem] theorem h9v : h9.vars = [] := rfl
@[go_sem] theorem h9m : h9.mutc = false := rfl
def h10 : Hint := ⟨(fun id => match id with | 0 => some [0] | 1 => some [3] | 2 => some [3, 8, 9, 10] | 3 => some [3, 8, 9, 10, 11] | 4 => some [3, 5, 8, 9, 10] | 5 => some [3, 8, 9, 10, 31] | 6 => some [2] | 7 => some [3, 8, 9, 10] | 8 => some [3, 41] | 9 => some [2] | 10 => some [2] | _ => none), (fun _ => none), (fun _ => none), [], false⟩
@[go_sem] theorem h10l : h10.live = (fun id => match id with | 0 => some [0] | 1 => some [3] | 2 => some [3, 8, 9, 10] | 3 => some [3, 8, 9, 10, 11] | 4 => some [3, 5, 8, 9, 10] | 5 => some [3, 8, 9, 10, 31] | 6 => some [2] | 7 => some [3, 8, 9, 10] | 8 => some [3, 41] | 9 => some [2] | 10 => some [2] | _ => none) := rfl
@[go_sem] theorem h10k : h10.keep = (fun _ => none) := rfl
@[go_sem] theorem h10t : h10.tail = (fun _ => none) := rfl
@[go_sem] theorem h10v : h10.vars = [] := rfl
@[go_sem] theorem h10m : h10.mutc = false := rfl
def h11 : Hint := ⟨(fun id => match id with | 0 => some [0, 1] | 1 => some [0, 1, 10] | 2 => some [4] | 3 => some [0, 1, 12, 13] | 4 => some [0, 1, 12, 13, 14] | 5 => some [0, 1, 5, 12, 13] | 6 => some [0, 1, 12, 13, 24] | 7 => some [4] | 8 => some [0, 1, 12, 13] | 9 => some [4] | _ => none), (fun _ => none), (fun id => match id with | 6 => some 9 | _ => none), [], false⟩
@[go_sem] theorem h11l : h11.live = (fun id => match id with | 0 => some [0, 1] | 1 => some [0, 1, 10] | 2 => some [4] | 3 => some [0, 1, 12, 13] | 4 => some [0, 1, 12, 13, 14] | 5 => some [0, 1, 5, 12, 13] | 6 => some [0, 1, 12, 13, 24] | 7 => some [4] | 8 => some [0, 1, 12, 13] | 9 => some [4] | _ => none) := rfl
@[go_sem] theorem h11k : h11.keep = (fun _ => none) := rfl
@[go_sem] theorem h11t : h11.tail = (fun id => match id with | 6 => some 9 | _ => none) := rfl
@[go_sem] theorem h11v : h11.vars = [] := rfl
@[go_sem] theorem h11m : h11.mutc = false := rfl
def h12 : Hint := ⟨(fun id => match id with | 0 => some [0] | 1 => some [0, 3] | 2 => some [3, 6, 7, 8] | 3 => some [3, 6, 7, 8, 9] | 4 => some [3, 5, 6, 7, 8] | 5 => some [3, 5, 6, 7, 8, 25] | 6 => some [3, 5, 6, 7, 8, 25] | 7 => some [3, 6, 7, 8] | 8 => some [3, 5, 6, 7, 8, 47] | 9 => some [3, 6, 7, 8] | 10 => some [3, 5, 6, 7, 8, 55] | 11 => some [3, 6, 7, 8] | 12 => some [3, 5, 6, 7, 8, 69] | 13 => some [3, 6, 7, 8] | 14 => some [3, 6, 7, 8] | 15 => some [2] | _ => none), (fun _ => none), (fun _ => none), [3], false⟩
@[go_sem] theorem h12l : h12.live = (fun id => match id with | 0 => some [0] | 1 => some [0, 3] | 2 => some [3, 6, 7, 8] | 3 => some [3, 6, 7, 8, 9] | 4 => some [3, 5, 6, 7, 8] | 5 => some [3, 5, 6, 7, 8, 25] | 6 => some [3, 5, 6, 7, 8, 25] | 7 => some [3, 6, 7, 8] | 8 => some [3, 5, 6, 7, 8, 47] | 9 => some [3, 6, 7, 8] | 10 => some [3, 5, 6, 7, 8, 55] | 11 => some [3, 6, 7, 8] | 12 => some [3, 5, 6, 7, 8, 69] | 13 => some [3, 6, 7, 8] | 14 => some [3, 6, 7, 8] | 15 => some [2] | _ => none) := rfl
@[go_sem] theorem h12k : h12.keep = (fun _ => none) := rfl
@[go_sem] theorem h12t : h12.tail = (fun _ => none) := rfl
@[go_sem] theorem h12v : h12.vars = [3] := rfl
@[go_sem] theorem h12m : h12.mutc = false := rfl
def h13 : Hint := ⟨(fun id => match id with | 0 => some [0] | 1 => some [0, 3] | 2 => some [3, 6, 7, 8] | 3 => some [3, 6, 7, 8, 9] | 4 => some [3, 5, 6, 7, 8] | 5 => some [3, 5, 6, 7, 8, 14] | 6 => some [3, 5, 6, 7, 8, 14] | 7 => some [3, 6, 7, 8] | 8 => some [3, 5, 6, 7, 8, 36] | 9 => some [3, 6, 7, 8] | 10 => some [3, 5, 6, 7, 8, 44] | 11 => some [3, 6, 7, 8] | 12 => some [3, 5, 6, 7, 8, 58] | 13 => some [3, 6, 7, 8] | 14 => some [3, 6, 7, 8] | 15 => some [2] | _ => none), (fun _ => none), (fun _ => none), [3], false⟩
@[go_sem] theorem h13l : h13.live = (fun id => match id with | 0 => some [0] | 1 => some [0, 3] | 2 => some [3, 6, 7, 8] | 3 => some [3, 6, 7, 8, 9] | 4 => some [3, 5, 6, 7, 8] | 5 => some [3, 5, 6, 7, 8, 14] | 6 => some [3, 5, 6, 7, 8, 14] | 7 => some [3, 6, 7, 8] | 8 => some [3, 5, 6, 7, 8, 36] | 9 => some [3, 6, 7, 8] | 10 => some [3, 5, 6, 7, 8, 44] | 11 => some [3, 6, 7, 8] | 12 => some [3, 5, 6, 7, 8, 58] | 13 => some [3, 6, 7, 8] | 14 => some [3, 6, 7, 8] | 15 => some [2] | _ => none) := rfl
@[go_sem] theorem h13k : h13.keep = (fun _ => none) := rfl
@[go_sem] theorem h13t : h13.tail = (fun _ => none) := rfl
@[go_sem] theorem h13v : h13.vars = [3] := rfl
@[go_sem] theorem h13m : h13.mutc = false := rfl
def h14 : Hint := ⟨(fun id => match id with | 0 => some [0] | 1 => some [5] | 2 => some [2, 3, 4] | _ => none), (fun _ => none), (fun _ => none), [], false⟩
@[go_sem] theorem h14l : h14.live = (fun id => match id with | 0 => some [0] | 1 => some [5] | 2 => some [2, 3, 4] | _ => none) := rfl
@[go_sem] theorem h14k : h14.keep = (fun _ => none) := rfl
@[go_sem] theorem h14t : h14.tail = (fun _ => none) := rfl
@[go_sem] theorem h14v : h14.vars = [] := rfl
@[go_sem] theorem h14m : h14.mutc = false := rfl
def h15 : Hint := ⟨(fun id => match id with | 0 => some [0] | 1 => some [5] | 2 => some [6, 7, 8] | 3 => some [2, 3, 4] | _ => none), (fun _ => none), (fun _ => none), [], false⟩
@[go_sem] theorem h15l : h15.live = (fun id => match id with | 0 => some [0] | 1 => some [5] | 2 => some [6, 7, 8] | 3 => some [2, 3, 4] | _ => none) := rfl
@[go_sem] theorem h15k : h15.keep = (fun _ => none) := rfl
@[go_sem] theorem h15t : h15.tail = (fun _ => none) := rfl
@[go_sem] theorem h15v : h15.vars = [] := rfl
@[go_sem] theorem h15m : h15.mutc = false := rfl
def h16 : Hint := ⟨(fun id => match id with | 0 => some [0, 1] | 1 => some [0, 1, 10] | 2 => some [4] | 3 => some [0, 1, 12, 13] | 4 => some [0, 1, 12, 13, 14] | 5 => some [0, 1, 5, 12, 13] | 6 => some [0, 1, 12, 13, 24] | 7 => some [4] | 8 => some [0, 1, 12, 13] | 9 => some [4] | _ => none), (fun _ => none), (fun id => match id with | 6 => some 9 | _ => none), [], false⟩
@[go_sem] theorem h16l : h16.live = (fun id => match id with | 0 => some [0, 1] | 1 => some [0, 1, 10] | 2 => some [4] | 3 => some [0, 1, 12, 13] | 4 => some [0, 1, 12, 13, 14] | 5 => some [0, 1, 5, 12, 13] | 6 => some [0, 1, 12, 13, 24] | 7 => some [4] | 8 => some [0, 1, 12, 13] | 9 => some [4] | _ => none) := rfl
@[go_sem] theorem h16k : h16.keep = (fun _ => none) := rfl
@[go_sem] theorem h16t : h16.tail = (fun id => match id with | 6 => some 9 | _ => none) := rfl
@[go_sem] theorem h16v : h16.vars = [] := rfl
@[go_sem] theorem h16m : h16.mutc = false := rfl
def h17 : Hint := ⟨(fun id => match id with | 0 => some [0] | 1 => some [0, 3] | 2 => some [0, 3, 8] | 3 => some [0, 3, 4, 5] | 4 => some [0, 3, 5] | 5 => some [0, 3] | 6 => some [2] | _ => none), (fun _ => none), (fun _ => none), [3], false⟩
@[go_sem] theorem h17l : h17.live = (fun id => match id with | 0 => some [0] | 1 => some [0, 3] | 2 => some [0, 3, 8] | 3 => some [0, 3, 4, 5] | 4 => some [0, 3, 5] | 5 => some [0, 3] | 6 => some [2] | _ => none) := rfl
@[go_sem] theorem h17k : h17.keep = (fun _ => none) := rfl
@[go_sem] theorem h17t : h17.tail = (fun _ => none) := rfl
@[go_sem] theorem h17v : h17.vars = [3] := rfl
@[go_sem] theorem h17m : h17.mutc = false := rfl
def h18 : Hint := ⟨(fun id => match id with | 0 => some [0] | 1 => some [0, 3] | 2 => some [0, 3, 4] | 3 => some [0, 3, 4, 11] | 4 => some [0, 3, 4, 5, 6] | 5 => some [0, 3, 4, 6] | 6 => some [0, 3, 4] | 7 => some [2] | _ => none), (fun _ => none), (fun _ => none), [3], false⟩
@[go_sem] theorem h18l : h18.live = (fun id => match id with | 0 => some [0] | 1 => some [0, 3] | 2 => some [0, 3, 4] | 3 => some [0, 3, 4, 11] | 4 => some [0, 3, 4, 5, 6] | 5 => some [0, 3, 4, 6] | 6 => some [0, 3, 4] | 7 => some [2] | _ => none) := rfl
@[go_sem] theorem h18k : h18.keep = (fun _ => none) := rfl
@[go_sem] theorem h18t : h18.tail = (fun _ => none) := rfl
@[go_sem] theorem h18v : h18.vars = [3] := rfl
@[go_sem] theorem h18m : h18.mutc = false := rfl
def h19 : Hint := ⟨(fun id => match id with | 0 => some [] | 1 => some [1] | 2 => some [0] | _ => none), (fun _ => none), (fun _ => none), [], false⟩
@[go_sem] theorem h19l : h19.live = (fun id => match id with | 0 => some [] | 1 => some [1] | 2 => some [0] | _ => none) := rfl
@[go_sem] theorem h19k : h19.keep = (fun _ => none) := rfl
@[go_sem] theorem h19t : h19.tail = (fun _ => none) := rfl
@[go_sem] theorem h19v : h19.vars = [] := rfl
@[go_sem] theorem h19m : h19.mutc = false := rfl
def h20 : Hint := ⟨(fun id => match id with | 0 => some [0] | 1 => some [0, 7] | 2 => some [0, 3, 4] | 3 => some [0, 4, 36] | 4 => some [2] | 5 => some [0] | 6 => some [2] | _ => none), (fun _ => none), (fun _ => none), [], false⟩
@[go_sem] theorem h20l : h20.live = (fun id => match id with | 0 => some [0] | 1 => some [0, 7] | 2 => some [0, 3, 4] | 3 => some [0, 4, 36] | 4 => some [2] | 5 => some [0] | 6 => some [2] | _ => none) := rfl
@[go_sem] theorem h20k : h20.keep = (fun _ => none) := rfl
@[go_sem] theorem h20t : h20.tail = (fun _ => none) := rfl
@[go_sem] theorem h20v : h20.vars = [] := rfl
@[go_sem] theorem h20m : h20.mutc = false := rfl
def h21 : Hint := ⟨(fun id => match id with | 0 => some [0] | 1 => some [0, 3] | 2 => some [0, 3, 10] | 3 => some [0, 3, 5, 6] | 4 => some [0, 3, 5, 19] | 5 => some [2] | 6 => some [0, 3] | 7 => some [2] | _ => none), (fun _ => none), (fun _ => none), [], false⟩
@[go_sem] theorem h21l : h21.live = (fun id => match id with | 0 => some [0] | 1 => some [0, 3] | 2 => some [0, 3, 10] | 3 => some [0, 3, 5, 6] | 4 => some [0, 3, 5, 19] | 5 => some [2] | 6 => some [0, 3] | 7 => some [2] | _ => none) := rfl
@[go_sem] theorem h21k : h21.keep = (fun _ => none) := rfl
@[go_sem] theorem h21t : h21.tail = (fun _ => none) := rfl
@[go_sem] theorem h21v : h21.vars = [] := rfl
@[go_sem] theorem h21m : h21.mutc = false := rfl
def h22 : Hint := ⟨(fun id => match id with | 0 => some [0] | 1 => some [0, 28] | 2 => some [0, 28] | 3 => some [0, 3] | 4 => some [0, 3, 4] | 5 => some [3, 4, 32, 33, 34] | 6 => some [3, 4, 32, 33, 34, 35] | 7 => some [3, 4, 6, 32, 33, 34] | 8 => some [3, 6, 7, 32, 33, 34] | 9 => some [3, 4, 6, 7, 32, 33, 34] | 10 => some [3, 4, 6, 7, 32, 33, 34, 41] | 11 => some [3, 4, 6, 7, 32, 33, 34, 41, 42] | 12 => some [3, 4, 6, 32, 33, 34, 44] | 13 => some [3, 4, 6, 32, 33, 34, 41, 45] | 14 => some [3, 4, 6, 32, 33, 34, 41, 45] | 15 => some [3, 4, 6, 7, 32, 33, 34, 41, 42] | 16 => some [3, 4, 6, 32, 33, 34, 48] | 17 => some [3, 4, 6, 7, 32, 33, 34, 41, 42] | 18 => some [3, 4, 32, 33, 34] | 19 => some [3, 4, 32, 33, 34] | 20 => some [2] | _ => none), (fun _ => none), (fun _ => none), [3], false⟩
@[go_sem] theorem h22l : h22.live = (fun id => match id with | 0 => some [0] | 1 => some [0, 28] | 2 => some [0, 28] | 3 => some [0, 3] | 4 => some [0, 3, 4] | 5 => some [3, 4, 32, 33, 34] | 6 => some [3, 4, 32, 33, 34, 35] | 7 => some [3, 4, 6, 32, 33, 34] | 8 => some [3, 6, 7, 32, 33, 34] | 9 => some [3, 4, 6, 7, 32, 33, 34] | 10 => some [3, 4, 6, 7, 32, 33, 34, 41] | 11 => some [3, 4, 6, 7, 32, 33, 34, 41, 42] | 12 => some [3, 4, 6, 32, 33, 34, 44] | 13 => some [3, 4, 6, 32, 33, 34, 41, 45] | 14 => some [3, 4, 6, 32, 33, 34, 41, 45] | 15 => some [3, 4, 6, 7, 32, 33, 34, 41, 42] | 16 => some [3, 4, 6, 32, 33, 34, 48] | 17 => some [3, 4, 6, 7, 32, 33, 34, 41, 42] | 18 => some [3, 4, 32, 33, 34] | 19 => some [3, 4, 32, 33, 34] | 20 => some [2] | _ => none) := rfl
@[go_sem] theorem h22k : h22.keep = (fun _ => none) := rfl
@[go_sem] theorem h22t : h22.tail = (fun _ => none) := rfl
@[go_sem] theorem h22v : h22.vars = [3] := rfl
@[go_sem] theorem h22m : h22.mutc = false := rfl
def h23 : Hint := ⟨(fun id => match id with | 0 => some [0] | 1 => some [0, 28] | 2 => some [0, 28] | 3 => some [0, 3] | 4 => some [0, 3, 4] | 5 => some [3, 4, 32, 33, 34] | 6 => some [3, 4, 32, 33, 34, 35] | 7 => some [3, 4, 6, 32, 33, 34] | 8 => some [3, 4, 6, 7, 32, 33, 34] | 9 => some [3, 4, 6, 7, 32, 33, 34, 39] | 10 => some [3, 4, 6, 7, 32, 33, 34, 39, 40] | 11 => some [3, 4, 6, 7, 32, 33, 34, 39, 40] | 12 => some [3, 4, 6, 7, 32, 33, 34, 39, 40] | 13 => some [3, 4, 6, 7, 32, 33, 34, 43] | 14 => some [3, 4, 6, 7, 32, 33, 34, 39, 40] | 15 => some [3, 6, 7, 32, 33, 34, 50] | 16 => some [3, 6, 7, 32, 33, 34, 50] | 17 => some [3, 4, 32, 33, 34] | 18 => some [3, 4, 32, 33, 34] | 19 => some [2] | _ => none), (fun _ => none), (fun _ => none), [3], false⟩
@[go_sem] theorem h23l : h23.live = (fun id => match id with | 0 => some [0] | 1 => some [0, 28] | 2 => some [0, 28] | 3 => some [0, 3] | 4 => some [0, 3, 4] | 5 => some [3, 4, 32, 33, 34] | 6 => some [3, 4, 32, 33, 34, 35] | 7 => some [3, 4, 6, 32, 33, 34] | 8 => some [3, 4, 6, 7, 32, 33, 34] | 9 => some [3, 4, 6, 7, 32, 33, 34, 39] | 10 => some [3, 4, 6, 7, 32, 33, 34, 39, 40] | 11 => some [3, 4, 6, 7, 32, 33, 34, 39, 40] | 12 => some [3, 4, 6, 7, 32, 33, 34, 39, 40] | 13 => some [3, 4, 6, 7, 32, 33, 34, 43] | 14 => some [3, 4, 6, 7, 32, 33, 34, 39, 40] | 15 => some [3, 6, 7, 32, 33, 34, 50] | 16 => some [3, 6, 7, 32, 33, 34, 50] | 17 => some [3, 4, 32, 33, 34] | 18 => some [3, 4, 32, 33, 34] | 19 => some [2] | _ => none) := rfl
@[go_sem] theorem h23k : h23.keep = (fun _ => none) := rfl
@[go_sem] theorem h23t : h23.tail = (fun _ => none) := rfl
@[go_sem] theorem h23v : h23.vars = [3] := rfl
@[go_sem] theorem h23m : h23.mutc = false := rfl
def h24 : Hint := ⟨(fun id => match id with | 0 => some [0] | 1 => some [2] | _ => none), (fun _ => none), (fun _ => none), [], false⟩
@[go_sem] theorem h24l : h24.live = (fun id => match id with | 0 => some [0] | 1 => some [2] | _ => none) := rfl
@[go_sem] theorem h24k : h24.keep = (fun _ => none) := rfl
@[go_sem] theorem h24t : h24.tail = (fun _ => none) := rfl
@[go_sem] theorem h24v : h24.vars = [] := rfl
@[go_sem] theorem h24m : h24.mutc = false := rfl
def h25 : Hint := ⟨(fun id => match id with | 0 => some [0, 1] | 1 => some [0, 1, 5] | 2 => some [0, 1, 5, 10] | 3 => some [4] | 4 => some [4] | _ => none), (fun _ => none), (fun _ => none), [], false⟩
@[go_sem] theorem h25l : h25.live = (fun id => match id with | 0 => some [0, 1] | 1 => some [0, 1, 5] | 2 => some [0, 1, 5, 10] | 3 => some [4] | 4 => some [4] | _ => none) := rfl
@[go_sem] theorem h25k : h25.keep = (fun _ => none) := rfl
@[go_sem] theorem h25t : h25.tail = (fun _ => none) := rfl
@[go_sem] theorem h25v : h25.vars = [] := rfl
@[go_sem] theorem h25m : h25.mutc = false := rfl
def h26 : Hint := ⟨(fun id => match id with | 0 => some [0, 1] | 1 => some [0, 1, 5] | 2 => some [0, 1, 14] | 3 => some [0, 1, 14] | 4 => some [4] | _ => none), (fun _ => none), (fun _ => none), [], false⟩
@[go_sem] theorem h26l : h26.live = (fun id => match id with | 0 => some [0, 1] | 1 => some [0, 1, 5] | 2 => some [0, 1, 14] | 3 => some [0, 1, 14] | 4 => some [4] | _ => none) := rfl
@[go_sem] theorem h26k : h26.keep = (fun _ => none) := rfl
@[go_sem] theorem h26t : h26.tail = (fun _ => none) := rfl
@[go_sem] theorem h26v : h26.vars = [] := rfl
@[go_sem] theorem h26m : h26.mutc = false := rfl
def h27 : Hint := ⟨(fun id => match id with | 0 => some [0, 1] | 1 => some [4] | _ => none), (fun _ => none), (fun _ => none), [], false⟩
@[go_sem] theorem h27l : h27.live = (fun id => match id with | 0 => some [0, 1] | 1 => some [4] | _ => none) := rfl
@[go_sem] theorem h27k : h27.keep = (fun _ => none) := rfl
@[go_sem] theorem h27t : h27.tail = (fun _ => none) := rfl
@[go_sem] theorem h27v : h27.vars = [] := rfl
@[go_sem] theorem h27m : h27.mutc = false := rfl
def h28 : Hint := ⟨(fun id => match id with | 0 => some [0, 1] | 1 => some [0, 1, 17] | 2 => some [4] | 3 => some [5] | 4 => some [5, 31] | 5 => some [4] | 6 => some [4] | _ => none), (fun _ => none), (fun id => match id with | 1 => some 12 | 3 => some 12 | _ => none), [], false⟩
@[go_sem] theorem h28l : h28.live = (fun id => match id with | 0 => some [0, 1] | 1 => some [0, 1, 17] | 2 => some [4] | 3 => some [5] | 4 => some [5, 31] | 5 => some [4] | 6 => some [4] | _ => none) := rfl
@[go_sem] theorem h28k : h28.keep = (fun _ => none) := rfl
@[go_sem] theorem h28t : h28.tail = (fun id => match id with | 1 => some 12 | 3 => some 12 | _ => none) := rfl
@[go_sem] theorem h28v : h28.vars = [] := rfl
@[go_sem] theorem h28m : h28.mutc = false := rfl
def h29 : Hint := ⟨(fun id => match id with | 0 => some [0, 1, 2] | 1 => some [0, 1, 2, 8] | 2 => some [6] | 3 => some [6] | _ => none), (fun _ => none), (fun _ => none), [], false⟩
@[go_sem] theorem h29l : h29.live = (fun id => match id with | 0 => some [0, 1, 2] | 1 => some [0, 1, 2, 8] | 2 => some [6] | 3 => some [6] | _ => none) := rfl
@[go_sem] theorem h29k : h29.keep = (fun _ => none) := rfl
@[go_sem] theorem h29t : h29.tail = (fun _ => none) := rfl
@[go_sem] theorem h29v : h29.vars = [] := rfl
@[go_sem] theorem h29m : h29.mutc = false := rfl
def h30 : Hint := ⟨(fun id => match id with | 0 => some [0, 1, 2] | 1 => some [0, 1, 2, 12] | 2 => some [0, 1, 2, 12] | 3 => some [6] | _ => none), (fun _ => none), (fun _ => none), [], false⟩
@[go_sem] theorem h30l : h30.live = (fun id => match id with | 0 => some [0, 1, 2] | 1 => some [0, 1, 2, 12] | 2 => some [0, 1, 2, 12] | 3 => some [6] | _ => none) := rfl
@[go_sem] theorem h30k : h30.keep = (fun _ => none) := rfl
@[go_sem] theorem h30t : h30.tail = (fun _ => none) := rfl
@[go_sem] theorem h30v : h30.vars = [] := rfl
@[go_sem] theorem h30m : h30.mutc = false := rfl
def h31 : Hint := ⟨(fun id => match id with | 0 => some [0, 1] | 1 => some [4] | _ => none), (fun _ => none), (fun _ => none), [], false⟩
@[go_sem] theorem h31l : h31.live = (fun id => match id with | 0 => some [0, 1] | 1 => some [4] | _ => none) := rfl
@[go_sem] theorem h31k : h31.keep = (fun _ => none) := rfl
@[go_sem] theorem h31t : h31.tail = (fun _ => none) := rfl
@[go_sem] theorem h31v : h31.vars = [] := rfl
@[go_sem] theorem h31m : h31.mutc = false := rfl
def h32 : Hint := ⟨(fun id => match id with | 0 => some [0] | 1 => some [0, 4] | 2 => some [0, 4, 5, 6] | 3 => some [0, 4, 5, 6] | 4 => some [2, 3] | 5 => some [0, 4, 5, 6, 13] | 6 => some [2, 3] | 7 => some [0, 4, 5, 6, 18] | 8 => some [0, 5, 6, 7, 8] | 9 => some [0, 4, 5, 6, 28] | 10 => some [0, 4, 5, 6, 7, 8] | 11 => some [0, 5, 6, 7, 8, 38] | 12 => some [0, 5, 6, 7, 8, 38, 39] | 13 => some [0, 5, 6, 7, 8, 38, 39] | 14 => some [0, 5, 6, 7, 8, 41] | 15 => some [0, 5, 6, 7, 8, 38, 39] | 16 => some [0, 4, 5, 6, 43] | 17 => some [0, 4, 5, 6, 7, 8] | 18 => some [0, 5, 6, 7, 8, 53] | 19 => some [0, 5, 6, 7, 8, 53, 54] | 20 => some [0, 5, 6, 7, 8, 53, 54] | 21 => some [0, 5, 6, 7, 8, 56] | 22 => some [0, 5, 6, 7, 8, 53, 54] | 23 => some [0, 5, 6, 7, 8, 58, 59] | 24 => some [0, 5, 6, 7, 8, 58, 59, 60] | 25 => some [0, 5, 6, 7, 8, 9, 58, 59] | 26 => some [0, 7, 8, 9, 58, 59, 84] | 27 => some [2, 3] | 28 => some [0, 7, 8, 58, 59] | 29 => some [0, 5, 6, 7, 8, 58, 59] | 30 => some [0, 5, 6, 7, 8, 58, 59] | 31 => some [2, 3] | _ => none), (fun _ => none), (fun _ => none), [], false⟩
@[go_sem] theorem h32l : h32.live = (fun id => match id with | 0 => some [0] | 1 => some [0, 4] | 2 => some [0, 4, 5, 6] | 3 => some [0, 4, 5, 6] | 4 => some [2, 3] | 5 => some [0, 4, 5, 6, 13] | 6 => some [2, 3] | 7 => some [0, 4, 5, 6, 18] | 8 => some [0, 5, 6, 7, 8] | 9 => some [0, 4, 5, 6, 28] | 10 => some [0, 4, 5, 6, 7, 8] | 11 => some [0, 5, 6, 7, 8, 38] | 12 => some [0, 5, 6, 7, 8, 38, 39] | 13 => some [0, 5, 6, 7, 8, 38, 39] | 14 => some [0, 5, 6, 7, 8, 41] | 15 => some [0, 5, 6, 7, 8, 38, 39] | 16 => some [0, 4, 5, 6, 43] | 17 => some [0, 4, 5, 6, 7, 8] | 18 => some [0, 5, 6, 7, 8, 53] | 19 => some [0, 5, 6, 7, 8, 53, 54] | 20 => some [0, 5, 6, 7, 8, 53, 54] | 21 => some [0, 5, 6, 7, 8, 56] | 22 => some [0, 5, 6, 7, 8, 53, 54] | 23 => some [0, 5, 6, 7, 8, 58, 59] | 24 => some [0, 5, 6, 7, 8, 58, 59, 60] | 25 => some [0, 5, 6, 7, 8, 9, 58, 59] | 26 => some [0, 7, 8, 9, 58, 59, 84] | 27 => some [2, 3] | 28 => some [0, 7, 8, 58, 59] | 29 => some [0, 5, 6, 7, 8, 58, 59] | 30 => some [0, 5, 6, 7, 8, 58, 59] | 31 => some [2, 3] | _ => none) := rfl
@[go_sem] theorem h32k : h32.keep = (fun _ => none) := rfl
@[go_sem] theorem h32t : h32.tail = (fun _ => none) := rfl
@[go_sem] theorem h32v : h32.vars = [] := rfl
@[go_sem] theorem h32m : h32.mutc = false := rfl
def h33 : Hint := ⟨(fun id => match id with | 0 => some [0, 1] | 1 => some [0, 1, 7] | 2 => some [0, 1, 7, 18] | 3 => some [4, 5, 6] | 4 => some [0, 1, 7, 8, 9, 10] | 5 => some [0, 1, 7, 8, 9, 10, 28] | 6 => some [4, 5, 6] | 7 => some [0, 1, 8, 9, 10, 11] | 8 => some [0, 1, 8, 9, 10, 11, 12] | 9 => some [0, 1, 8, 9, 10, 11, 12, 37] | 10 => some [0, 1, 8, 9, 10, 11, 12] | 11 => some [0, 1, 8, 11, 12, 65] | 12 => some [4, 5, 6] | 13 => some [0, 1, 8, 11, 12] | 14 => some [0, 1, 8, 9, 10, 11, 12] | 15 => some [4, 5, 6] | _ => none), (fun _ => none), (fun _ => none), [], false⟩
@[go_sem] theorem h33l : h33.live = (fun id => match id with | 0 => some [0, 1] | 1 => some [0, 1, 7] | 2 => some [0, 1, 7, 18] | 3 => some [4, 5, 6] | 4 => some [0, 1, 7, 8, 9, 10] | 5 => some [0, 1, 7, 8, 9, 10, 28] | 6 => some [4, 5, 6] | 7 => some [0, 1, 8, 9, 10, 11] | 8 => some [0, 1, 8, 9, 10, 11, 12] | 9 => some [0, 1, 8, 9, 10, 11, 12, 37] | 10 => some [0, 1, 8, 9, 10, 11, 12] | 11 => some [0, 1, 8, 11, 12, 65] | 12 => some [4, 5, 6] | 13 => some [0, 1, 8, 11, 12] | 14 => some [0, 1, 8, 9, 10, 11, 12] | 15 => some [4, 5, 6] | _ => none) := rfl
@[go_sem] theorem h33k : h33.keep = (fun _ => none) := rfl
@[go_sem] theorem h33t : h33.tail = (fun _ => none) := rfl
@[go_sem] theorem h33v : h33.vars = [] := rfl
@[go_sem] theorem h33m : h33.mutc = false := rfl
def h34 : Hint := ⟨(fun id => match id with | 0 => some [0, 1] | 1 => some [0, 1, 17] | 2 => some [4] | 3 => some [5] | 4 => some [5, 43] | 5 => some [4] | 6 => some [4] | _ => none), (fun _ => none), (fun id => match id with | 1 => some 12 | 3 => some 12 | _ => none), [], false⟩
@[go_sem] theorem h34l : h34.live = (fun id => match id with | 0 => some [0, 1] | 1 => some [0, 1, 17] | 2 => some [4] | 3 => some [5] | 4 => some [5, 43] | 5 => some [4] | 6 => some [4] | _ => none) := rfl
@[go_sem] theorem h34k : h34.keep = (fun _ => none) := rfl
@[go_sem] theorem h34t : h34.tail = (fun id => match id with | 1 => some 12 | 3 => some 12 | _ => none) := rfl
@[go_sem] theorem h34v : h34.vars = [] := rfl
@[go_sem] theorem h34m : h34.mutc = false := rfl
def h35 : Hint := ⟨(fun id => match id with | 0 => some [0] | 1 => some [2] | _ => none), (fun _ => none), (fun _ => none), [], false⟩
@[go_sem] theorem h35l : h35.live = (fun id => match id with | 0 => some [0] | 1 => some [2] | _ => none) := rfl
@[go_sem] theorem h35k : h35.keep = (fun _ => none) := rfl
@[go_sem] theorem h35t : h35.tail = (fun _ => none) := rfl
@[go_sem] theorem h35v : h35.vars = [] := rfl
@[go_sem] theorem h35m : h35.mutc = false := rfl
def h36 : Hint := ⟨(fun id => match id with | 0 => some [0] | 1 => some [2] | _ => none), (fun _ => none), (fun _ => none), [], false⟩
@[go_sem] theorem h36l : h36.live = (fun id => match id with | 0 => some [0] | 1 => some [2] | _ => none) := rfl
@[go_sem] theorem h36k : h36.keep = (fun _ => none) := rfl
@[go_sem] theorem h36t : h36.tail = (fun _ => none) := rfl
@[go_sem] theorem h36v : h36.vars = [] := rfl
@[go_sem] theorem h36m : h36.mutc = false := rfl
def h37 : Hint := ⟨(fun id => match id with | 0 => some [0] | 1 => some [2] | _ => none), (fun _ => none), (fun _ => none), [], false⟩
@[go_sem] theorem h37l : h37.live = (fun id => match id with | 0 => some [0] | 1 => some [2] | _ => none) := rfl
@[go_sem] theorem h37k : h37.keep = (fun _ => none) := rfl
@[go_sem] theorem h37t : h37.tail = (fun _ => none) := rfl
@[go_sem] theorem h37v : h37.vars = [] := rfl
@[go_sem] theorem h37m : h37.mutc = false := rfl
def h38 : Hint := ⟨(fun id => match id with | 0 => some [0] | 1 => some [2] | _ => none), (fun _ => none), (fun _ => none), [], false⟩
@[go_sem] theorem h38l : h38.live = (fun id => match id with | 0 => some [0] | 1 => some [2] | _ => none) := rfl
@[go_sem] theorem h38k : h38.keep = (fun _ => none) := rfl
@[go_sem] theorem h38t : h38.tail = (fun _ => none) := rfl
@[go_sem] theorem h38v : h38.vars = [] := rfl
@[go_sem] theorem h38m : h38.mutc = false := rfl
def h39 : Hint := ⟨(fun id => match id with | 0 => some [0] | 1 => some [0, 5] | 2 => some [2, 3, 4] | 3 => some [0, 12] | 4 => some [2, 3, 4] | 5 => some [0, 15] | 6 => some [2, 3, 4] | 7 => some [0, 18] | 8 => some [2, 3, 4] | 9 => some [0, 25] | 10 => some [2, 3, 4] | 11 => some [0, 28] | 12 => some [2, 3, 4] | 13 => some [35] | 14 => some [2, 3, 4] | 15 => some [2, 3, 4] | _ => none), (fun _ => none), (fun _ => none), [], false⟩
@[go_sem] theorem h39l : h39.live = (fun id => match id with | 0 => some [0] | 1 => some [0, 5] | 2 => some [2, 3, 4] | 3 => some [0, 12] | 4 => some [2, 3, 4] | 5 => some [0, 15] | 6 => some [2, 3, 4] | 7 => some [0, 18] | 8 => some [2, 3, 4] | 9 => some [0, 25] | 10 => some [2, 3, 4] | 11 => some [0, 28] | 12 => some [2, 3, 4] | 13 => some [35] | 14 => some [2, 3, 4] | 15 => some [2, 3, 4] | _ => none) := rfl
@[go_sem] theorem h39k : h39.keep = (fun _ => none) := rfl
@[go_sem] theorem h39t : h39.tail = (fun _ => none) := rfl
@[go_sem] theorem h39v : h39.vars = [] := rfl
@[go_sem] theorem h39m : h39.mutc = false := rfl
def hints (f : Nat) : Hint := match f with
  | 3 => h3
  | 4 => h4
  | 5 => h5
  | 6 => h6
  | 7 => h7
  | 8 => h8
  | 9 => h9
  | 10 => h10
  | 11 => h11
  | 12 => h12
  | 13 => h13
  | 14 => h14
  | 15 => h15
  | 16 => h16
  | 17 => h17
  | 18 => h18
  | 19 => h19
  | 20 => h20
  | 21 => h21
  | 22 => h22
  | 23 => h23
  | 24 => h24
  | 25 => h25
  | 26 => h26
  | 27 => h27
  | 28 => h28
  | 29 => h29
  | 30 => h30
  | 31 => h31
  | 32 => h32
  | 33 => h33
  | 34 => h34
  | 35 => h35
  | 36 => h36
  | 37 => h37
  | 38 => h38
  | 39 => h39
  | _ => ⟨fun _ => none, fun _ => none, fun _ => none, [], false⟩
noncomputable def E : CallF := ev Try.prog hints fun _ => none
noncomputable def b3 : Code := bodyOf Try.f3
theorem c3 : codeOk Try.prog h3 14 b3 = true := by kernel_rfl
/-- jalousie/jalousielaw2.UtfEncode -/
theorem e3 {lo : Nat} {args : List V} {h : Heap} (ha : args.length ≤ 14) (hb : args.all bare = true) :
    E lo 3 args h = fin Try.prog [.tmp 2] h.length (evCode ⟨Try.prog, E, lo, h.length, h3⟩ loopW b3 (args0 args, h)) :=
  ev_body rfl Try.func3 rfl Try.ntmps3 (by kernel_rfl) rfl c3 rfl ha hb
noncomputable def b4 : Code := bodyOf Try.f4
theorem c4 : codeOk Try.prog h4 54 b4 = true := by kernel_rfl
/-- jalousie/jalousielaw3.TokStarts -/
theorem e4 {lo : Nat} {args : List V} {h : Heap} (ha : args.length ≤ 54) (hb : args.all bare = true) :
    E lo 4 args h = fin Try.prog [.tmp 2] h.length (evCode ⟨Try.prog, E, lo, h.length, h4⟩ loopW b4 (args0 args, h)) :=
  ev_body rfl Try.func4 rfl Try.ntmps4 (by kernel_rfl) rfl c4 rfl ha hb
noncomputable def b5 : Code := bodyOf Try.f5
theorem c5 : codeOk Try.prog h5 11 b5 = true := by kernel_rfl
/-- jalousie/jalousielaw2.UtfRaw -/
theorem e5 {lo : Nat} {args : List V} {h : Heap} (ha : args.length ≤ 11) (hb : args.all bare = true) :
    E lo 5 args h = fin Try.prog [.tmp 2] h.length (evCode ⟨Try.prog, E, lo, h.length, h5⟩ loopW b5 (args0 args, h)) :=
  ev_body rfl Try.func5 rfl Try.ntmps5 (by kernel_rfl) rfl c5 rfl ha hb
noncomputable def b6 : Code := bodyOf Try.f6
theorem c6 : codeOk Try.prog h6 12 b6 = true := by kernel_rfl
/-- jalousie/jalousielaw2.UtfWhole -/
theorem e6 {lo : Nat} {args : List V} {h : Heap} (ha : args.length ≤ 12) (hb : args.all bare = true) :
    E lo 6 args h = fin Try.prog [.tmp 2] h.length (evCode ⟨Try.prog, E, lo, h.length, h6⟩ loopW b6 (args0 args, h)) :=
  ev_body rfl Try.func6 rfl Try.ntmps6 (by kernel_rfl) rfl c6 rfl ha hb
noncomputable def b7 : Code := bodyOf Try.f7
theorem c7 : codeOk Try.prog h7 45 b7 = true := by kernel_rfl
/-- jalousie/jalousielaw2.UtfCuts -/
theorem e7 {lo : Nat} {args : List V} {h : Heap} (ha : args.length ≤ 45) (hb : args.all bare = true) :
    E lo 7 args h = fin Try.prog [.tmp 4] h.length (evCode ⟨Try.prog, E, lo, h.length, h7⟩ loopW b7 (args0 args, h)) :=
  ev_body rfl Try.func7 rfl Try.ntmps7 (by kernel_rfl) rfl c7 rfl ha hb
noncomputable def b8 : Code := bodyOf Try.f8
theorem c8 : codeOk Try.prog h8 14 b8 = true := by kernel_rfl
/-- jalousie/jalousielaw2.UtfDecode -/
theorem e8 {lo : Nat} {args : List V} {h : Heap} (ha : args.length ≤ 14) (hb : args.all bare = true) :
    E lo 8 args h = fin Try.prog [.tmp 2] h.length (evCode ⟨Try.prog, E, lo, h.length, h8⟩ loopW b8 (args0 args, h)) :=
  ev_body rfl Try.func8 rfl Try.ntmps8 (by kernel_rfl) rfl c8 rfl ha hb
noncomputable def b9 : Code := bodyOf Try.f9
noncomputable def l9x0 : Code := loopAt b9 0
theorem c9 : codeOk Try.prog h9 57 b9 = true := by kernel_rfl
/-- jalousie/jalousielaw2.UtfBack -/
theorem e9 {lo : Nat} {args : List V} {h : Heap} (ha : args.length ≤ 57) (hb : args.all bare = true) :
    E lo 9 args h = fin Try.prog [.tmp 4] h.length (evCode ⟨Try.prog, E, lo, h.length, h9⟩ loopW b9 (args0 args, h)) :=
  ev_body rfl Try.func9 rfl Try.ntmps9 (by kernel_rfl) rfl c9 rfl ha hb
noncomputable def b10 : Code := bodyOf Try.f10
noncomputable def l10x0 : Code := loopAt b10 0
theorem c10 : codeOk Try.prog h10 51 b10 = true := by kernel_rfl
/-- jalousie/jalousielaw2.UtfOnce -/
theorem e10 {lo : Nat} {args : List V} {h : Heap} (ha : args.length ≤ 51) (hb : args.all bare = true) :
    E lo 10 args h = fin Try.prog [.tmp 2] h.length (evCode ⟨Try.prog, E, lo, h.length, h10⟩ loopW b10 (args0 args, h)) :=
  ev_body rfl Try.func10 rfl Try.ntmps10 (by kernel_rfl) rfl c10 rfl ha hb
noncomputable def b11 : Code := bodyOf Try.f11
noncomputable def l11x0 : Code := loopAt b11 0
theorem c11 : codeOk Try.prog h11 26 b11 = true := by kernel_rfl
/-- jalousie/jalousielaw2.bytes -/
theorem e11 {lo : Nat} {args : List V} {h : Heap} (ha : args.length ≤ 26) (hb : args.all bare = true) :
    E lo 11 args h = fin Try.prog [.tmp 4] h.length (evCode ⟨Try.prog, E, lo, h.length, h11⟩ loopW b11 (args0 args, h)) :=
  ev_body rfl Try.func11 rfl Try.ntmps11 (by kernel_rfl) rfl c11 rfl ha hb
noncomputable def b12 : Code := bodyOf Try.f12
noncomputable def l12x0 : Code := loopAt b12 0
theorem c12 : codeOk Try.prog h12 90 b12 = true := by kernel_rfl
/-- jalousie/utf.Encode -/
theorem e12 {lo : Nat} {args : List V} {h : Heap} (ha : args.length ≤ 90) (hb : args.all bare = true) :
    E lo 12 args h = fin Try.prog [.tmp 2] h.length (evCode ⟨Try.prog, E, lo, h.length, h12⟩ loopW b12 (args0 args, h)) :=
  ev_body rfl Try.func12 rfl Try.ntmps12 (by kernel_rfl) rfl c12 rfl ha hb
noncomputable def b13 : Code := bodyOf Try.f13
noncomputable def l13x0 : Code := loopAt b13 0
theorem c13 : codeOk Try.prog h13 79 b13 = true := by kernel_rfl
/-- jalousie/jalousieref2.Encode -/
theorem e13 {lo : Nat} {args : List V} {h : Heap} (ha : args.length ≤ 79) (hb : args.all bare = true) :
    E lo 13 args h = fin Try.prog [.tmp 2] h.length (evCode ⟨Try.prog, E, lo, h.length, h13⟩ loopW b13 (args0 args, h)) :=
  ev_body rfl Try.func13 rfl Try.ntmps13 (by kernel_rfl) rfl c13 rfl ha hb
noncomputable def b14 : Code := bodyOf Try.f14
theorem c14 : codeOk Try.prog h14 15 b14 = true := by kernel_rfl
/-- jalousie/tok.Starts -/
theorem e14 {lo : Nat} {args : List V} {h : Heap} (ha : args.length ≤ 15) (hb : args.all bare = true) :
    E lo 14 args h = fin Try.prog [.tmp 2, .tmp 3, .tmp 4] h.length (evCode ⟨Try.prog, E, lo, h.length, h14⟩ loopW b14 (args0 args, h)) :=
  ev_body rfl Try.func14 rfl Try.ntmps14 (by kernel_rfl) rfl c14 rfl ha hb
noncomputable def b15 : Code := bodyOf Try.f15
theorem c15 : codeOk Try.prog h15 25 b15 = true := by kernel_rfl
/-- jalousie/jalousieref3.Starts -/
theorem e15 {lo : Nat} {args : List V} {h : Heap} (ha : args.length ≤ 25) (hb : args.all bare = true) :
    E lo 15 args h = fin Try.prog [.tmp 2, .tmp 3, .tmp 4] h.length (evCode ⟨Try.prog, E, lo, h.length, h15⟩ loopW b15 (args0 args, h)) :=
  ev_body rfl Try.func15 rfl Try.ntmps15 (by kernel_rfl) rfl c15 rfl ha hb
noncomputable def b16 : Code := bodyOf Try.f16
noncomputable def l16x0 : Code := loopAt b16 0
theorem c16 : codeOk Try.prog h16 26 b16 = true := by kernel_rfl
/-- jalousie/jalousielaw2.same -/
theorem e16 {lo : Nat} {args : List V} {h : Heap} (ha : args.length ≤ 26) (hb : args.all bare = true) :
    E lo 16 args h = fin Try.prog [.tmp 4] h.length (evCode ⟨Try.prog, E, lo, h.length, h16⟩ loopW b16 (args0 args, h)) :=
  ev_body rfl Try.func16 rfl Try.ntmps16 (by kernel_rfl) rfl c16 rfl ha hb
noncomputable def b17 : Code := bodyOf Try.f17
noncomputable def l17x0 : Code := loopAt b17 0
theorem c17 : codeOk Try.prog h17 22 b17 = true := by kernel_rfl
/-- jalousie/utf.Raw -/
theorem e17 {lo : Nat} {args : List V} {h : Heap} (ha : args.length ≤ 22) (hb : args.all bare = true) :
    E lo 17 args h = fin Try.prog [.tmp 2] h.length (evCode ⟨Try.prog, E, lo, h.length, h17⟩ loopW b17 (args0 args, h)) :=
  ev_body rfl Try.func17 rfl Try.ntmps17 (by kernel_rfl) rfl c17 rfl ha hb
noncomputable def b18 : Code := bodyOf Try.f18
noncomputable def l18x0 : Code := loopAt b18 0
theorem c18 : codeOk Try.prog h18 27 b18 = true := by kernel_rfl
/-- jalousie/jalousieref2.Raw -/
theorem e18 {lo : Nat} {args : List V} {h : Heap} (ha : args.length ≤ 27) (hb : args.all bare = true) :
    E lo 18 args h = fin Try.prog [.tmp 2] h.length (evCode ⟨Try.prog, E, lo, h.length, h18⟩ loopW b18 (args0 args, h)) :=
  ev_body rfl Try.func18 rfl Try.ntmps18 (by kernel_rfl) rfl c18 rfl ha hb
noncomputable def b19 : Code := bodyOf Try.f19
theorem c19 : codeOk Try.prog h19 7 b19 = true := by kernel_rfl
/-- jalousie/jalousielaw2.awake -/
theorem e19 {lo : Nat} {args : List V} {h : Heap} (ha : args.length ≤ 7) (hb : args.all bare = true) :
    E lo 19 args h = fin Try.prog [.tmp 0] h.length (evCode ⟨Try.prog, E, lo, h.length, h19⟩ loopW b19 (args0 args, h)) :=
  ev_body rfl Try.func19 rfl Try.ntmps19 (by kernel_rfl) rfl c19 rfl ha hb
noncomputable def b20 : Code := bodyOf Try.f20
noncomputable def l20x0 : Code := loopAt b20 0
theorem c20 : codeOk Try.prog h20 40 b20 = true := by kernel_rfl
/-- jalousie/utf.Whole -/
theorem e20 {lo : Nat} {args : List V} {h : Heap} (ha : args.length ≤ 40) (hb : args.all bare = true) :
    E lo 20 args h = fin Try.prog [.tmp 2] h.length (evCode ⟨Try.prog, E, lo, h.length, h20⟩ loopW b20 (args0 args, h)) :=
  ev_body rfl Try.func20 rfl Try.ntmps20 (by kernel_rfl) rfl c20 rfl ha hb
noncomputable def b21 : Code := bodyOf Try.f21
noncomputable def l21x0 : Code := loopAt b21 0
theorem c21 : codeOk Try.prog h21 23 b21 = true := by kernel_rfl
/-- jalousie/jalousieref2.Whole -/
theorem e21 {lo : Nat} {args : List V} {h : Heap} (ha : args.length ≤ 23) (hb : args.all bare = true) :
    E lo 21 args h = fin Try.prog [.tmp 2] h.length (evCode ⟨Try.prog, E, lo, h.length, h21⟩ loopW b21 (args0 args, h)) :=
  ev_body rfl Try.func21 rfl Try.ntmps21 (by kernel_rfl) rfl c21 rfl ha hb
noncomputable def b22 : Code := bodyOf Try.f22
noncomputable def l22x0 : Code := loopAt b22 0
theorem c22 : codeOk Try.prog h22 56 b22 = true := by kernel_rfl
/-- jalousie/utf.Decode -/
theorem e22 {lo : Nat} {args : List V} {h : Heap} (ha : args.length ≤ 56) (hb : args.all bare = true) :
    E lo 22 args h = fin Try.prog [.tmp 2] h.length (evCode ⟨Try.prog, E, lo, h.length, h22⟩ loopW b22 (args0 args, h)) :=
  ev_body rfl Try.func22 rfl Try.ntmps22 (by kernel_rfl) rfl c22 rfl ha hb
noncomputable def b23 : Code := bodyOf Try.f23
noncomputable def l23x0 : Code := loopAt b23 0
theorem c23 : codeOk Try.prog h23 58 b23 = true := by kernel_rfl
/-- jalousie/jalousieref2.Decode -/
theorem e23 {lo : Nat} {args : List V} {h : Heap} (ha : args.length ≤ 58) (hb : args.all bare = true) :
    E lo 23 args h = fin Try.prog [.tmp 2] h.length (evCode ⟨Try.prog, E, lo, h.length, h23⟩ loopW b23 (args0 args, h)) :=
  ev_body rfl Try.func23 rfl Try.ntmps23 (by kernel_rfl) rfl c23 rfl ha hb
noncomputable def b24 : Code := bodyOf Try.f24
theorem c24 : codeOk Try.prog h24 17 b24 = true := by kernel_rfl
/-- jalousie/jalousieref2.Is -/
theorem e24 {lo : Nat} {args : List V} {h : Heap} (ha : args.length ≤ 17) (hb : args.all bare = true) :
    E lo 24 args h = fin Try.prog [.tmp 2] h.length (evCode ⟨Try.prog, E, lo, h.length, h24⟩ loopW b24 (args0 args, h)) :=
  ev_body rfl Try.func24 rfl Try.ntmps24 (by kernel_rfl) rfl c24 rfl ha hb
noncomputable def b25 : Code := bodyOf Try.f25
theorem c25 : codeOk Try.prog h25 36 b25 = true := by kernel_rfl
/- a method -/
theorem e25 {lo : Nat} {args : List V} {h : Heap} (ha : args.length ≤ 36) (hb : args.all bare = true) :
    E lo 25 args h = fin Try.prog [.tmp 4] h.length (evCode ⟨Try.prog, E, lo, h.length, h25⟩ loopW b25 (args0 args, h)) :=
  ev_body rfl Try.func25 rfl Try.ntmps25 (by kernel_rfl) rfl c25 rfl ha hb
noncomputable def b26 : Code := bodyOf Try.f26
theorem c26 : codeOk Try.prog h26 34 b26 = true := by kernel_rfl
/- a method -/
theorem e26 {lo : Nat} {args : List V} {h : Heap} (ha : args.length ≤ 34) (hb : args.all bare = true) :
    E lo 26 args h = fin Try.prog [.tmp 4] h.length (evCode ⟨Try.prog, E, lo, h.length, h26⟩ loopW b26 (args0 args, h)) :=
  ev_body rfl Try.func26 rfl Try.ntmps26 (by kernel_rfl) rfl c26 rfl ha hb
noncomputable def b27 : Code := bodyOf Try.f27
theorem c27 : codeOk Try.prog h27 16 b27 = true := by kernel_rfl
/- a method -/
theorem e27 {lo : Nat} {args : List V} {h : Heap} (ha : args.length ≤ 16) (hb : args.all bare = true) :
    E lo 27 args h = fin Try.prog [.tmp 4] h.length (evCode ⟨Try.prog, E, lo, h.length, h27⟩ loopW b27 (args0 args, h)) :=
  ev_body rfl Try.func27 rfl Try.ntmps27 (by kernel_rfl) rfl c27 rfl ha hb
noncomputable def b28 : Code := bodyOf Try.f28
theorem c28 : codeOk Try.prog h28 33 b28 = true := by kernel_rfl
/- a method -/
theorem e28 {lo : Nat} {args : List V} {h : Heap} (ha : args.length ≤ 33) (hb : args.all bare = true) :
    E lo 28 args h = fin Try.prog [.tmp 4] h.length (evCode ⟨Try.prog, E, lo, h.length, h28⟩ loopW b28 (args0 args, h)) :=
  ev_body rfl Try.func28 rfl Try.ntmps28 (by kernel_rfl) rfl c28 rfl ha hb
noncomputable def b29 : Code := bodyOf Try.f29
theorem c29 : codeOk Try.prog h29 27 b29 = true := by kernel_rfl
/-- jalousie/jalousieref3.begins -/
theorem e29 {lo : Nat} {args : List V} {h : Heap} (ha : args.length ≤ 27) (hb : args.all bare = true) :
    E lo 29 args h = fin Try.prog [.tmp 6] h.length (evCode ⟨Try.prog, E, lo, h.length, h29⟩ loopW b29 (args0 args, h)) :=
  ev_body rfl Try.func29 rfl Try.ntmps29 (by kernel_rfl) rfl c29 rfl ha hb
noncomputable def b30 : Code := bodyOf Try.f30
theorem c30 : codeOk Try.prog h30 25 b30 = true := by kernel_rfl
/-- jalousie/jalousieref3.number -/
theorem e30 {lo : Nat} {args : List V} {h : Heap} (ha : args.length ≤ 25) (hb : args.all bare = true) :
    E lo 30 args h = fin Try.prog [.tmp 6] h.length (evCode ⟨Try.prog, E, lo, h.length, h30⟩ loopW b30 (args0 args, h)) :=
  ev_body rfl Try.func30 rfl Try.ntmps30 (by kernel_rfl) rfl c30 rfl ha hb
noncomputable def b31 : Code := bodyOf Try.f31
theorem c31 : codeOk Try.prog h31 11 b31 = true := by kernel_rfl
/-- jalousie/jalousieref3.escape -/
theorem e31 {lo : Nat} {args : List V} {h : Heap} (ha : args.length ≤ 11) (hb : args.all bare = true) :
    E lo 31 args h = fin Try.prog [.tmp 4] h.length (evCode ⟨Try.prog, E, lo, h.length, h31⟩ loopW b31 (args0 args, h)) :=
  ev_body rfl Try.func31 rfl Try.ntmps31 (by kernel_rfl) rfl c31 rfl ha hb
noncomputable def b32 : Code := bodyOf Try.f32
noncomputable def l32x0 : Code := loopAt b32 0
theorem c32 : codeOk Try.prog h32 101 b32 = true := by kernel_rfl
/-- jalousie/utf.step -/
theorem e32 {lo : Nat} {args : List V} {h : Heap} (ha : args.length ≤ 101) (hb : args.all bare = true) :
    E lo 32 args h = fin Try.prog [.tmp 2, .tmp 3] h.length (evCode ⟨Try.prog, E, lo, h.length, h32⟩ loopW b32 (args0 args, h)) :=
  ev_body rfl Try.func32 rfl Try.ntmps32 (by kernel_rfl) rfl c32 rfl ha hb
noncomputable def b33 : Code := bodyOf Try.f33
noncomputable def l33x0 : Code := loopAt b33 0
theorem c33 : codeOk Try.prog h33 81 b33 = true := by kernel_rfl
/-- jalousie/jalousieref2.one -/
theorem e33 {lo : Nat} {args : List V} {h : Heap} (ha : args.length ≤ 81) (hb : args.all bare = true) :
    E lo 33 args h = fin Try.prog [.tmp 4, .tmp 5, .tmp 6] h.length (evCode ⟨Try.prog, E, lo, h.length, h33⟩ loopW b33 (args0 args, h)) :=
  ev_body rfl Try.func33 rfl Try.ntmps33 (by kernel_rfl) rfl c33 rfl ha hb
noncomputable def b34 : Code := bodyOf Try.f34
theorem c34 : codeOk Try.prog h34 45 b34 = true := by kernel_rfl
/- a method -/
theorem e34 {lo : Nat} {args : List V} {h : Heap} (ha : args.length ≤ 45) (hb : args.all bare = true) :
    E lo 34 args h = fin Try.prog [.tmp 4] h.length (evCode ⟨Try.prog, E, lo, h.length, h34⟩ loopW b34 (args0 args, h)) :=
  ev_body rfl Try.func34 rfl Try.ntmps34 (by kernel_rfl) rfl c34 rfl ha hb
noncomputable def b35 : Code := bodyOf Try.f35
theorem c35 : codeOk Try.prog h35 25 b35 = true := by kernel_rfl
/-- jalousie/tok.first -/
theorem e35 {lo : Nat} {args : List V} {h : Heap} (ha : args.length ≤ 25) (hb : args.all bare = true) :
    E lo 35 args h = fin Try.prog [.tmp 2] h.length (evCode ⟨Try.prog, E, lo, h.length, h35⟩ loopW b35 (args0 args, h)) :=
  ev_body rfl Try.func35 rfl Try.ntmps35 (by kernel_rfl) rfl c35 rfl ha hb
noncomputable def b36 : Code := bodyOf Try.f36
theorem c36 : codeOk Try.prog h36 9 b36 = true := by kernel_rfl
/-- jalousie/tok.digit -/
theorem e36 {lo : Nat} {args : List V} {h : Heap} (ha : args.length ≤ 9) (hb : args.all bare = true) :
    E lo 36 args h = fin Try.prog [.tmp 2] h.length (evCode ⟨Try.prog, E, lo, h.length, h36⟩ loopW b36 (args0 args, h)) :=
  ev_body rfl Try.func36 rfl Try.ntmps36 (by kernel_rfl) rfl c36 rfl ha hb
noncomputable def b37 : Code := bodyOf Try.f37
theorem c37 : codeOk Try.prog h37 25 b37 = true := by kernel_rfl
/-- jalousie/jalousieref3.first -/
theorem e37 {lo : Nat} {args : List V} {h : Heap} (ha : args.length ≤ 25) (hb : args.all bare = true) :
    E lo 37 args h = fin Try.prog [.tmp 2] h.length (evCode ⟨Try.prog, E, lo, h.length, h37⟩ loopW b37 (args0 args, h)) :=
  ev_body rfl Try.func37 rfl Try.ntmps37 (by kernel_rfl) rfl c37 rfl ha hb
noncomputable def b38 : Code := bodyOf Try.f38
theorem c38 : codeOk Try.prog h38 9 b38 = true := by kernel_rfl
/-- jalousie/jalousieref3.digit -/
theorem e38 {lo : Nat} {args : List V} {h : Heap} (ha : args.length ≤ 9) (hb : args.all bare = true) :
    E lo 38 args h = fin Try.prog [.tmp 2] h.length (evCode ⟨Try.prog, E, lo, h.length, h38⟩ loopW b38 (args0 args, h)) :=
  ev_body rfl Try.func38 rfl Try.ntmps38 (by kernel_rfl) rfl c38 rfl ha hb
noncomputable def b39 : Code := bodyOf Try.f39
theorem c39 : codeOk Try.prog h39 38 b39 = true := by kernel_rfl
/-- jalousie/jalousieref2.need -/
theorem e39 {lo : Nat} {args : List V} {h : Heap} (ha : args.length ≤ 38) (hb : args.all bare = true) :
    E lo 39 args h = fin Try.prog [.tmp 2, .tmp 3, .tmp 4] h.length (evCode ⟨Try.prog, E, lo, h.length, h39⟩ loopW b39 (args0 args, h)) :=
  ev_body rfl Try.func39 rfl Try.ntmps39 (by kernel_rfl) rfl c39 rfl ha hb
end Go.Lift.R1
