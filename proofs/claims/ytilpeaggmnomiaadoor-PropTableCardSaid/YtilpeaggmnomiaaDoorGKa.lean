/- The known answers of prop.Spec, of prop.Place, and of the arithmetic of the reference's table. -/
import Derived.ProofKit
import Derived.Shelf.Strings.Fields
import Derived.Test.YtilpeaggmnomiaaDoorProg
import Derived.Test.YtilpeaggmnomiaaDoorGK1Basea
set_option linter.unusedVariables false
set_option linter.unusedSimpArgs false
set_option linter.unusedSectionVars false
set_option maxRecDepth 100000
section
open Go.Proofs
namespace Go.Lift.T1
def nm0 : V := .v (.string ⟨#[99, 111, 108, 111, 114]⟩)
def sp0 : V := .tup [.agg [.v (.string ⟨#[99, 111, 108, 111, 114]⟩), .v (.int .i64 3), .v (.bool true), .v (.bool false), .list .no [[.v (.string ⟨#[98, 108, 97, 99, 107]⟩)], [.v (.string ⟨#[119, 104, 105, 116, 101]⟩)], [.v (.string ⟨#[114, 101, 100]⟩)], [.v (.string ⟨#[103, 114, 101, 101, 110]⟩)], [.v (.string ⟨#[98, 108, 117, 101]⟩)], [.v (.string ⟨#[116, 114, 97, 110, 115, 112, 97, 114, 101, 110, 116]⟩)]], .v (.int .i64 3), .v (.int .i64 0), .v (.int .i64 0), .v (.string ⟨#[98, 108, 97, 99, 107]⟩)], .v (.bool true)]
def nm1 : V := .v (.string ⟨#[100, 105, 115, 112, 108, 97, 121]⟩)
def sp1 : V := .tup [.agg [.v (.string ⟨#[100, 105, 115, 112, 108, 97, 121]⟩), .v (.int .i64 3), .v (.bool false), .v (.bool false), .list .no [[.v (.string ⟨#[105, 110, 108, 105, 110, 101]⟩)], [.v (.string ⟨#[98, 108, 111, 99, 107]⟩)], [.v (.string ⟨#[110, 111, 110, 101]⟩)], [.v (.string ⟨#[102, 108, 101, 120]⟩)], [.v (.string ⟨#[103, 114, 105, 100]⟩)]], .v (.int .i64 3), .v (.int .i64 0), .v (.int .i64 0), .v (.string ⟨#[105, 110, 108, 105, 110, 101]⟩)], .v (.bool true)]
def nm2 : V := .v (.string ⟨#[102, 111, 110, 116, 45, 115, 105, 122, 101]⟩)
def sp2 : V := .tup [.agg [.v (.string ⟨#[102, 111, 110, 116, 45, 115, 105, 122, 101]⟩), .v (.int .i64 1), .v (.bool true), .v (.bool false), .list .no [], .v (.int .i64 1), .v (.int .i64 16), .v (.int .i64 1), .v (.string ⟨#[]⟩)], .v (.bool true)]
def nm3 : V := .v (.string ⟨#[103, 97, 112]⟩)
def sp3 : V := .tup [.agg [.v (.string ⟨#[103, 97, 112]⟩), .v (.int .i64 1), .v (.bool false), .v (.bool false), .list .no [], .v (.int .i64 1), .v (.int .i64 0), .v (.int .i64 1), .v (.string ⟨#[]⟩)], .v (.bool true)]
def nm4 : V := .v (.string ⟨#[104, 101, 105, 103, 104, 116]⟩)
def sp4 : V := .tup [.agg [.v (.string ⟨#[104, 101, 105, 103, 104, 116]⟩), .v (.int .i64 1), .v (.bool false), .v (.bool false), .list .no [[.v (.string ⟨#[97, 117, 116, 111]⟩)]], .v (.int .i64 3), .v (.int .i64 0), .v (.int .i64 0), .v (.string ⟨#[97, 117, 116, 111]⟩)], .v (.bool true)]
def nm5 : V := .v (.string ⟨#[108, 101, 102, 116]⟩)
def sp5 : V := .tup [.agg [.v (.string ⟨#[108, 101, 102, 116]⟩), .v (.int .i64 1), .v (.bool false), .v (.bool true), .list .no [[.v (.string ⟨#[97, 117, 116, 111]⟩)]], .v (.int .i64 3), .v (.int .i64 0), .v (.int .i64 0), .v (.string ⟨#[97, 117, 116, 111]⟩)], .v (.bool true)]
def nm6 : V := .v (.string ⟨#[108, 105, 110, 101, 45, 104, 101, 105, 103, 104, 116]⟩)
def sp6 : V := .tup [.agg [.v (.string ⟨#[108, 105, 110, 101, 45, 104, 101, 105, 103, 104, 116]⟩), .v (.int .i64 2), .v (.bool true), .v (.bool false), .list .no [], .v (.int .i64 2), .v (.int .i64 6), .v (.int .i64 5), .v (.string ⟨#[]⟩)], .v (.bool true)]
def nm7 : V := .v (.string ⟨#[109, 97, 114, 103, 105, 110]⟩)
def sp7 : V := .tup [.agg [.v (.string ⟨#[109, 97, 114, 103, 105, 110]⟩), .v (.int .i64 1), .v (.bool false), .v (.bool true), .list .no [[.v (.string ⟨#[97, 117, 116, 111]⟩)]], .v (.int .i64 1), .v (.int .i64 0), .v (.int .i64 1), .v (.string ⟨#[]⟩)], .v (.bool true)]
def nm8 : V := .v (.string ⟨#[111, 112, 97, 99, 105, 116, 121]⟩)
def sp8 : V := .tup [.agg [.v (.string ⟨#[111, 112, 97, 99, 105, 116, 121]⟩), .v (.int .i64 2), .v (.bool false), .v (.bool false), .list .no [], .v (.int .i64 2), .v (.int .i64 1), .v (.int .i64 1), .v (.string ⟨#[]⟩)], .v (.bool true)]
def nm9 : V := .v (.string ⟨#[111, 114, 100, 101, 114]⟩)
def sp9 : V := .tup [.agg [.v (.string ⟨#[111, 114, 100, 101, 114]⟩), .v (.int .i64 2), .v (.bool false), .v (.bool true), .list .no [], .v (.int .i64 2), .v (.int .i64 0), .v (.int .i64 1), .v (.string ⟨#[]⟩)], .v (.bool true)]
def nm10 : V := .v (.string ⟨#[112, 97, 100, 100, 105, 110, 103]⟩)
def sp10 : V := .tup [.agg [.v (.string ⟨#[112, 97, 100, 100, 105, 110, 103]⟩), .v (.int .i64 1), .v (.bool false), .v (.bool false), .list .no [], .v (.int .i64 1), .v (.int .i64 0), .v (.int .i64 1), .v (.string ⟨#[]⟩)], .v (.bool true)]
def nm11 : V := .v (.string ⟨#[116, 101, 120, 116, 45, 97, 108, 105, 103, 110]⟩)
def sp11 : V := .tup [.agg [.v (.string ⟨#[116, 101, 120, 116, 45, 97, 108, 105, 103, 110]⟩), .v (.int .i64 3), .v (.bool true), .v (.bool false), .list .no [[.v (.string ⟨#[115, 116, 97, 114, 116]⟩)], [.v (.string ⟨#[101, 110, 100]⟩)], [.v (.string ⟨#[99, 101, 110, 116, 101, 114]⟩)]], .v (.int .i64 3), .v (.int .i64 0), .v (.int .i64 0), .v (.string ⟨#[115, 116, 97, 114, 116]⟩)], .v (.bool true)]
def nm12 : V := .v (.string ⟨#[118, 105, 115, 105, 98, 105, 108, 105, 116, 121]⟩)
def sp12 : V := .tup [.agg [.v (.string ⟨#[118, 105, 115, 105, 98, 105, 108, 105, 116, 121]⟩), .v (.int .i64 3), .v (.bool true), .v (.bool false), .list .no [[.v (.string ⟨#[118, 105, 115, 105, 98, 108, 101]⟩)], [.v (.string ⟨#[104, 105, 100, 100, 101, 110]⟩)], [.v (.string ⟨#[99, 111, 108, 108, 97, 112, 115, 101]⟩)]], .v (.int .i64 3), .v (.int .i64 0), .v (.int .i64 0), .v (.string ⟨#[118, 105, 115, 105, 98, 108, 101]⟩)], .v (.bool true)]
def nm13 : V := .v (.string ⟨#[119, 105, 100, 116, 104]⟩)
def sp13 : V := .tup [.agg [.v (.string ⟨#[119, 105, 100, 116, 104]⟩), .v (.int .i64 1), .v (.bool false), .v (.bool false), .list .no [[.v (.string ⟨#[97, 117, 116, 111]⟩)]], .v (.int .i64 3), .v (.int .i64 0), .v (.int .i64 0), .v (.string ⟨#[97, 117, 116, 111]⟩)], .v (.bool true)]
def specM : List (List V × V) := [([nm0], sp0), ([nm1], sp1), ([nm2], sp2), ([nm3], sp3), ([nm4], sp4), ([nm5], sp5), ([nm6], sp6), ([nm7], sp7), ([nm8], sp8), ([nm9], sp9), ([nm10], sp10), ([nm11], sp11), ([nm12], sp12), ([nm13], sp13)]
def placeM : List (List V × V) := [([nm0], .v (.int .i64 0)), ([nm1], .v (.int .i64 1)), ([nm2], .v (.int .i64 2)), ([nm3], .v (.int .i64 3)), ([nm4], .v (.int .i64 4)), ([nm5], .v (.int .i64 5)), ([nm6], .v (.int .i64 6)), ([nm7], .v (.int .i64 7)), ([nm8], .v (.int .i64 8)), ([nm9], .v (.int .i64 9)), ([nm10], .v (.int .i64 10)), ([nm11], .v (.int .i64 11)), ([nm12], .v (.int .i64 12)), ([nm13], .v (.int .i64 13))]
def wd (a b : Int) : V := .agg [.v (.int .u64 a), .v (.int .u64 b)]
def rt (a b : Int) : V := .agg [.v (.int .i64 a), .v (.int .i64 b)]
def twM : List (List V × V) := [([wd 0 0], wd 0 0), ([wd 0 1], wd 0 2), ([wd 0 2], wd 0 4), ([wd 0 3], wd 0 6)]
def lsM : List (List V × V) := [([wd 0 0, wd 0 1], .v (.bool true)), ([wd 0 1, wd 0 1], .v (.bool false))]
def gcM : List (List V × V) := [([wd 0 6, wd 0 5], wd 0 1), ([wd 0 1, wd 0 1], wd 0 1), ([wd 0 0, wd 0 1], wd 0 1)]
def dvM : List (List V × V) := [([wd 0 6, wd 0 1], wd 0 6), ([wd 0 5, wd 0 1], wd 0 5), ([wd 0 1, wd 0 1], wd 0 1), ([wd 0 0, wd 0 1], wd 0 0)]
def qM : List (List V × V) := [([.v (.int .i64 6), .v (.int .i64 5)], rt 6 5), ([.v (.int .i64 1), .v (.int .i64 1)], rt 1 1), ([.v (.int .i64 0), .v (.int .i64 1)], rt 0 1)]
noncomputable def primA : Nat -> Option (Nat -> List V -> Heap -> Option (V × Heap)) := fun n => match n with | 90 => some (memo twM) | 88 => some (memo lsM) | 16 => some fieldsP | 89 => some subP | _ => none
noncomputable def primB : Nat -> Option (Nat -> List V -> Heap -> Option (V × Heap)) := fun n => match n with | 64 => some (memo gcM) | 65 => some (memo dvM) | 16 => some fieldsP | 89 => some subP | _ => none
noncomputable def primC : Nat -> Option (Nat -> List V -> Heap -> Option (V × Heap)) := fun n => match n with | 7 => some (memo specM) | 9 => some (memo placeM) | 30 => some (memo qM) | 16 => some fieldsP | 89 => some subP | _ => none
end Go.Lift.T1
end

section
open Go.Proofs
namespace Go.Lift.T1
theorem spec0 : evFun Tryd.prog hints primz 200 0 7 [nm0] [] = some (sp0, []) := by kernel_rfl
theorem place0 : evFun Tryd.prog hints primz 200 0 9 [nm0] [] = some (.v (.int .i64 0), []) := by kernel_rfl
theorem spec1 : evFun Tryd.prog hints primz 200 0 7 [nm1] [] = some (sp1, []) := by kernel_rfl
theorem place1 : evFun Tryd.prog hints primz 200 0 9 [nm1] [] = some (.v (.int .i64 1), []) := by kernel_rfl
theorem spec2 : evFun Tryd.prog hints primz 200 0 7 [nm2] [] = some (sp2, []) := by kernel_rfl
theorem place2 : evFun Tryd.prog hints primz 200 0 9 [nm2] [] = some (.v (.int .i64 2), []) := by kernel_rfl
theorem spec3 : evFun Tryd.prog hints primz 200 0 7 [nm3] [] = some (sp3, []) := by kernel_rfl
theorem place3 : evFun Tryd.prog hints primz 200 0 9 [nm3] [] = some (.v (.int .i64 3), []) := by kernel_rfl
theorem spec4 : evFun Tryd.prog hints primz 200 0 7 [nm4] [] = some (sp4, []) := by kernel_rfl
theorem place4 : evFun Tryd.prog hints primz 200 0 9 [nm4] [] = some (.v (.int .i64 4), []) := by kernel_rfl
theorem spec5 : evFun Tryd.prog hints primz 200 0 7 [nm5] [] = some (sp5, []) := by kernel_rfl
theorem place5 : evFun Tryd.prog hints primz 200 0 9 [nm5] [] = some (.v (.int .i64 5), []) := by kernel_rfl
theorem spec6 : evFun Tryd.prog hints primz 200 0 7 [nm6] [] = some (sp6, []) := by kernel_rfl
theorem place6 : evFun Tryd.prog hints primz 200 0 9 [nm6] [] = some (.v (.int .i64 6), []) := by kernel_rfl
theorem spec7 : evFun Tryd.prog hints primz 200 0 7 [nm7] [] = some (sp7, []) := by kernel_rfl
theorem place7 : evFun Tryd.prog hints primz 200 0 9 [nm7] [] = some (.v (.int .i64 7), []) := by kernel_rfl
theorem spec8 : evFun Tryd.prog hints primz 200 0 7 [nm8] [] = some (sp8, []) := by kernel_rfl
theorem place8 : evFun Tryd.prog hints primz 200 0 9 [nm8] [] = some (.v (.int .i64 8), []) := by kernel_rfl
theorem spec9 : evFun Tryd.prog hints primz 200 0 7 [nm9] [] = some (sp9, []) := by kernel_rfl
theorem place9 : evFun Tryd.prog hints primz 200 0 9 [nm9] [] = some (.v (.int .i64 9), []) := by kernel_rfl
theorem spec10 : evFun Tryd.prog hints primz 200 0 7 [nm10] [] = some (sp10, []) := by kernel_rfl
theorem place10 : evFun Tryd.prog hints primz 200 0 9 [nm10] [] = some (.v (.int .i64 10), []) := by kernel_rfl
theorem spec11 : evFun Tryd.prog hints primz 200 0 7 [nm11] [] = some (sp11, []) := by kernel_rfl
theorem place11 : evFun Tryd.prog hints primz 200 0 9 [nm11] [] = some (.v (.int .i64 11), []) := by kernel_rfl
theorem spec12 : evFun Tryd.prog hints primz 200 0 7 [nm12] [] = some (sp12, []) := by kernel_rfl
theorem place12 : evFun Tryd.prog hints primz 200 0 9 [nm12] [] = some (.v (.int .i64 12), []) := by kernel_rfl
theorem spec13 : evFun Tryd.prog hints primz 200 0 7 [nm13] [] = some (sp13, []) := by kernel_rfl
theorem place13 : evFun Tryd.prog hints primz 200 0 9 [nm13] [] = some (.v (.int .i64 13), []) := by kernel_rfl
end Go.Lift.T1
end

section
open Go.Proofs
namespace Go.Lift.T1
theorem tw0 : evFun Tryd.prog hints primz 200 0 90 [wd 0 0] [] = some (wd 0 0, []) := by kernel_rfl
theorem tw1 : evFun Tryd.prog hints primz 200 0 90 [wd 0 1] [] = some (wd 0 2, []) := by kernel_rfl
theorem tw2 : evFun Tryd.prog hints primz 200 0 90 [wd 0 2] [] = some (wd 0 4, []) := by kernel_rfl
theorem tw3 : evFun Tryd.prog hints primz 200 0 90 [wd 0 3] [] = some (wd 0 6, []) := by kernel_rfl
theorem ls0 : evFun Tryd.prog hints primz 200 0 88 [wd 0 0, wd 0 1] [] = some (.v (.bool true), []) := by kernel_rfl
theorem ls1 : evFun Tryd.prog hints primz 200 0 88 [wd 0 1, wd 0 1] [] = some (.v (.bool false), []) := by kernel_rfl
theorem gc0 : evFun Tryd.prog hints primz 200 0 64 [wd 0 6, wd 0 5] [] = some (wd 0 1, []) := by kernel_rfl
theorem gc1 : evFun Tryd.prog hints primz 200 0 64 [wd 0 1, wd 0 1] [] = some (wd 0 1, []) := by kernel_rfl
theorem gc2 : evFun Tryd.prog hints primz 200 0 64 [wd 0 0, wd 0 1] [] = some (wd 0 1, []) := by kernel_rfl
theorem q0 : evFun Tryd.prog hints primB 200 0 30 [.v (.int .i64 6), .v (.int .i64 5)] [] = some (rt 6 5, []) := by kernel_rfl
theorem q1 : evFun Tryd.prog hints primB 200 0 30 [.v (.int .i64 1), .v (.int .i64 1)] [] = some (rt 1 1, []) := by kernel_rfl
theorem q2 : evFun Tryd.prog hints primB 200 0 30 [.v (.int .i64 0), .v (.int .i64 1)] [] = some (rt 0 1, []) := by kernel_rfl
end Go.Lift.T1
end

section
namespace Go.Proofs
open Go.Shelf
def Tryd.lays157_ren : Go.Shelf.Ren := ⟨fun | 157 => 16 | 229 => 31 | 199 => 32 | 261 => 51 | 311 => 66 | 312 => 67 | n => n, fun | 9 => 9 | 31 => 22 | 3 => 3 | 5 => 5 | 4 => 4 | 119 => 76 | 0 => 0 | 40 => 78 | 152 => 105 | 21 => 21 | 154 => 107 | 51 => 108 | 141 => 110 | 196 => 127 | 193 => 124 | 198 => 130 | 49 => 128 | 194 => 125 | 201 => 133 | 226 => 151 | 46 => 150 | 227 => 152 | n => n, fun | 0 => 0 | 6 => 1 | n => n⟩
theorem Tryd.lays157 : Go.Proofs.Lays.n157 Tryd.prog Tryd.lays157_ren := {
 mixed := by kernel_rfl
 f157 := Tryd.func16.trans (congrArg some (by kernel_rfl))
 f199 := Tryd.func32.trans (congrArg some (by kernel_rfl))
 f229 := Tryd.func31.trans (congrArg some (by kernel_rfl))
 f261 := Tryd.func51.trans (congrArg some (by kernel_rfl))
 f311 := Tryd.func66.trans (congrArg some (by kernel_rfl))
 f312 := Tryd.func67.trans (congrArg some (by kernel_rfl))
 t0 := Tryd.underlying0
 a0 := Tryd.isAgg0
 z0 := Tryd.sizeOf0
 v0 := Tryd.zeroValue0
 t3 := Tryd.underlying3
 a3 := Tryd.isAgg3
 z3 := Tryd.sizeOf3
 v3 := Tryd.zeroValue3
 t4 := Tryd.underlying4
 a4 := Tryd.isAgg4
 z4 := Tryd.sizeOf4
 v4 := Tryd.zeroValue4
 t5 := Tryd.underlying5
 a5 := Tryd.isAgg5
 z5 := Tryd.sizeOf5
 v5 := Tryd.zeroValue5
 t9 := Tryd.underlying9
 a9 := Tryd.isAgg9
 z9 := Tryd.sizeOf9
 v9 := Tryd.zeroValue9
 t21 := Tryd.underlying21
 a21 := Tryd.isAgg21
 z21 := Tryd.sizeOf21
 v21 := Tryd.zeroValue21
 t31 := Tryd.underlying22
 a31 := Tryd.isAgg22
 z31 := Tryd.sizeOf22
 v31 := Tryd.zeroValue22
 t40 := Tryd.underlying78
 a40 := Tryd.isAgg78
 z40 := Tryd.sizeOf78
 v40 := Tryd.zeroValue78
 t46 := Tryd.underlying150
 a46 := Tryd.isAgg150
 z46 := Tryd.sizeOf150
 v46 := Tryd.zeroValue150
 t49 := Tryd.underlying128
 a49 := Tryd.isAgg128
 z49 := Tryd.sizeOf128
 v49 := Tryd.zeroValue128
 t51 := Tryd.underlying108
 a51 := Tryd.isAgg108
 z51 := Tryd.sizeOf108
 v51 := Tryd.zeroValue108
 t119 := Tryd.underlying76
 a119 := Tryd.isAgg76
 z119 := Tryd.sizeOf76
 t141 := Tryd.underlying110
 a141 := Tryd.isAgg110
 z141 := Tryd.sizeOf110
 v141 := Tryd.zeroValue110
 t152 := Tryd.underlying105
 a152 := Tryd.isAgg105
 z152 := Tryd.sizeOf105
 v152 := Tryd.zeroValue105
 t154 := Tryd.underlying107
 a154 := Tryd.isAgg107
 z154 := Tryd.sizeOf107
 v154 := Tryd.zeroValue107
 t193 := Tryd.underlying124
 a193 := Tryd.isAgg124
 z193 := Tryd.sizeOf124
 v193 := Tryd.zeroValue124
 t194 := Tryd.underlying125
 a194 := Tryd.isAgg125
 z194 := Tryd.sizeOf125
 v194 := Tryd.zeroValue125
 t196 := Tryd.underlying127
 a196 := Tryd.isAgg127
 z196 := Tryd.sizeOf127
 v196 := Tryd.zeroValue127
 t198 := Tryd.underlying130
 a198 := Tryd.isAgg130
 z198 := Tryd.sizeOf130
 v198 := Tryd.zeroValue130
 t201 := Tryd.underlying133
 a201 := Tryd.isAgg133
 z201 := Tryd.sizeOf133
 v201 := Tryd.zeroValue133
 t226 := Tryd.underlying151
 a226 := Tryd.isAgg151
 z226 := Tryd.sizeOf151
 v226 := Tryd.zeroValue151
 t227 := Tryd.underlying152
 a227 := Tryd.isAgg152
 z227 := Tryd.sizeOf152
 v227 := Tryd.zeroValue152
 g0 := by kernel_rfl
 g6 := by kernel_rfl }
end Go.Proofs
end
