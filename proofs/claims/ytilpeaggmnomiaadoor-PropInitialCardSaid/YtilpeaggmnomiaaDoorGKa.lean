/- The known answers of prop.Spec, of jalousielaw14.of, of prop.Parse. -/
import Derived.ProofKit
import Derived.Shelf.Strings.Fields
import Derived.Test.YtilpeaggmnomiaaDoorProg
import Derived.WalkKit
import Derived.Lib.LaidTab
import Derived.Lib.LaidU8
import Derived.Lib.LaidIn
import Derived.Deep.DeepHandedRow
import Derived.Deep.DeepWitnessRowRef
import Derived.Test.YtilpeaggmnomiaaDoorRows
import Derived.JoinedOf
import Derived.Test.YtilpeaggmnomiaaDoorGLc
import Derived.Test.YtilpeaggmnomiaaDoorGK2Basea
set_option linter.unusedVariables false
set_option linter.unusedSimpArgs false
set_option linter.unusedSectionVars false
set_option maxRecDepth 100000
section
open Go.Proofs
namespace Go.Lift.T2
def nm0 : V := .v (.string ⟨#[99, 111, 108, 111, 114]⟩)
def sp0 : V := .tup [.agg [.v (.string ⟨#[99, 111, 108, 111, 114]⟩), .v (.int .i64 3), .v (.bool true), .v (.bool false), .list .no [[.v (.string ⟨#[98, 108, 97, 99, 107]⟩)], [.v (.string ⟨#[119, 104, 105, 116, 101]⟩)], [.v (.string ⟨#[114, 101, 100]⟩)], [.v (.string ⟨#[103, 114, 101, 101, 110]⟩)], [.v (.string ⟨#[98, 108, 117, 101]⟩)], [.v (.string ⟨#[116, 114, 97, 110, 115, 112, 97, 114, 101, 110, 116]⟩)]], .v (.int .i64 3), .v (.int .i64 0), .v (.int .i64 0), .v (.string ⟨#[98, 108, 97, 99, 107]⟩)], .v (.bool true)]
def vl0 : V := .list .no [[.v (.int .i64 1), .v (.string ⟨#[98, 108, 97, 99, 107]⟩), .v (.int .i64 0), .v (.int .i64 0), .v (.bool false), .v (.bool false), .list .no []]]
def ps0 : V := .tup [.agg [.v (.int .i64 2), .v (.int .i64 0), .v (.int .i64 0), .v (.int .i64 0), .v (.int .i64 0), .list .no [], .v (.string ⟨#[98, 108, 97, 99, 107]⟩), .list .no []], .v (.int .i64 0)]
def nm1 : V := .v (.string ⟨#[100, 105, 115, 112, 108, 97, 121]⟩)
def sp1 : V := .tup [.agg [.v (.string ⟨#[100, 105, 115, 112, 108, 97, 121]⟩), .v (.int .i64 3), .v (.bool false), .v (.bool false), .list .no [[.v (.string ⟨#[105, 110, 108, 105, 110, 101]⟩)], [.v (.string ⟨#[98, 108, 111, 99, 107]⟩)], [.v (.string ⟨#[110, 111, 110, 101]⟩)], [.v (.string ⟨#[102, 108, 101, 120]⟩)], [.v (.string ⟨#[103, 114, 105, 100]⟩)]], .v (.int .i64 3), .v (.int .i64 0), .v (.int .i64 0), .v (.string ⟨#[105, 110, 108, 105, 110, 101]⟩)], .v (.bool true)]
def vl1 : V := .list .no [[.v (.int .i64 1), .v (.string ⟨#[105, 110, 108, 105, 110, 101]⟩), .v (.int .i64 0), .v (.int .i64 0), .v (.bool false), .v (.bool false), .list .no []]]
def ps1 : V := .tup [.agg [.v (.int .i64 2), .v (.int .i64 0), .v (.int .i64 0), .v (.int .i64 0), .v (.int .i64 0), .list .no [], .v (.string ⟨#[105, 110, 108, 105, 110, 101]⟩), .list .no []], .v (.int .i64 0)]
def nm2 : V := .v (.string ⟨#[102, 111, 110, 116, 45, 115, 105, 122, 101]⟩)
def sp2 : V := .tup [.agg [.v (.string ⟨#[102, 111, 110, 116, 45, 115, 105, 122, 101]⟩), .v (.int .i64 1), .v (.bool true), .v (.bool false), .list .no [], .v (.int .i64 1), .v (.int .i64 16), .v (.int .i64 1), .v (.string ⟨#[]⟩)], .v (.bool true)]
def vl2 : V := .list .no [[.v (.int .i64 12), .v (.string ⟨#[112, 120]⟩), .v (.int .i64 16), .v (.int .i64 1), .v (.bool false), .v (.bool false), .list .no []]]
def ps2 : V := .tup [.agg [.v (.int .i64 1), .v (.int .i64 1), .v (.int .i64 16), .v (.int .i64 1), .v (.int .i64 1), .list .no [], .v (.string ⟨#[]⟩), .list .no []], .v (.int .i64 0)]
def nm3 : V := .v (.string ⟨#[103, 97, 112]⟩)
def sp3 : V := .tup [.agg [.v (.string ⟨#[103, 97, 112]⟩), .v (.int .i64 1), .v (.bool false), .v (.bool false), .list .no [], .v (.int .i64 1), .v (.int .i64 0), .v (.int .i64 1), .v (.string ⟨#[]⟩)], .v (.bool true)]
def vl3 : V := .list .no [[.v (.int .i64 12), .v (.string ⟨#[112, 120]⟩), .v (.int .i64 0), .v (.int .i64 1), .v (.bool false), .v (.bool false), .list .no []]]
def ps3 : V := .tup [.agg [.v (.int .i64 1), .v (.int .i64 1), .v (.int .i64 0), .v (.int .i64 1), .v (.int .i64 1), .list .no [], .v (.string ⟨#[]⟩), .list .no []], .v (.int .i64 0)]
def nm4 : V := .v (.string ⟨#[104, 101, 105, 103, 104, 116]⟩)
def sp4 : V := .tup [.agg [.v (.string ⟨#[104, 101, 105, 103, 104, 116]⟩), .v (.int .i64 1), .v (.bool false), .v (.bool false), .list .no [[.v (.string ⟨#[97, 117, 116, 111]⟩)]], .v (.int .i64 3), .v (.int .i64 0), .v (.int .i64 0), .v (.string ⟨#[97, 117, 116, 111]⟩)], .v (.bool true)]
def vl4 : V := .list .no [[.v (.int .i64 1), .v (.string ⟨#[97, 117, 116, 111]⟩), .v (.int .i64 0), .v (.int .i64 0), .v (.bool false), .v (.bool false), .list .no []]]
def ps4 : V := .tup [.agg [.v (.int .i64 2), .v (.int .i64 0), .v (.int .i64 0), .v (.int .i64 0), .v (.int .i64 0), .list .no [], .v (.string ⟨#[97, 117, 116, 111]⟩), .list .no []], .v (.int .i64 0)]
def nm5 : V := .v (.string ⟨#[108, 101, 102, 116]⟩)
def sp5 : V := .tup [.agg [.v (.string ⟨#[108, 101, 102, 116]⟩), .v (.int .i64 1), .v (.bool false), .v (.bool true), .list .no [[.v (.string ⟨#[97, 117, 116, 111]⟩)]], .v (.int .i64 3), .v (.int .i64 0), .v (.int .i64 0), .v (.string ⟨#[97, 117, 116, 111]⟩)], .v (.bool true)]
def vl5 : V := .list .no [[.v (.int .i64 1), .v (.string ⟨#[97, 117, 116, 111]⟩), .v (.int .i64 0), .v (.int .i64 0), .v (.bool false), .v (.bool false), .list .no []]]
def ps5 : V := .tup [.agg [.v (.int .i64 2), .v (.int .i64 0), .v (.int .i64 0), .v (.int .i64 0), .v (.int .i64 0), .list .no [], .v (.string ⟨#[97, 117, 116, 111]⟩), .list .no []], .v (.int .i64 0)]
def nm6 : V := .v (.string ⟨#[108, 105, 110, 101, 45, 104, 101, 105, 103, 104, 116]⟩)
def sp6 : V := .tup [.agg [.v (.string ⟨#[108, 105, 110, 101, 45, 104, 101, 105, 103, 104, 116]⟩), .v (.int .i64 2), .v (.bool true), .v (.bool false), .list .no [], .v (.int .i64 2), .v (.int .i64 6), .v (.int .i64 5), .v (.string ⟨#[]⟩)], .v (.bool true)]
def vl6 : V := .list .no [[.v (.int .i64 10), .v (.string ⟨#[]⟩), .v (.int .i64 6), .v (.int .i64 5), .v (.bool false), .v (.bool false), .list .no []]]
def ps6 : V := .tup [.agg [.v (.int .i64 1), .v (.int .i64 1), .v (.int .i64 6), .v (.int .i64 5), .v (.int .i64 0), .list .no [], .v (.string ⟨#[]⟩), .list .no []], .v (.int .i64 0)]
def nm7 : V := .v (.string ⟨#[109, 97, 114, 103, 105, 110]⟩)
def sp7 : V := .tup [.agg [.v (.string ⟨#[109, 97, 114, 103, 105, 110]⟩), .v (.int .i64 1), .v (.bool false), .v (.bool true), .list .no [[.v (.string ⟨#[97, 117, 116, 111]⟩)]], .v (.int .i64 1), .v (.int .i64 0), .v (.int .i64 1), .v (.string ⟨#[]⟩)], .v (.bool true)]
def vl7 : V := .list .no [[.v (.int .i64 12), .v (.string ⟨#[112, 120]⟩), .v (.int .i64 0), .v (.int .i64 1), .v (.bool false), .v (.bool false), .list .no []]]
def ps7 : V := .tup [.agg [.v (.int .i64 1), .v (.int .i64 1), .v (.int .i64 0), .v (.int .i64 1), .v (.int .i64 1), .list .no [], .v (.string ⟨#[]⟩), .list .no []], .v (.int .i64 0)]
def nm8 : V := .v (.string ⟨#[111, 112, 97, 99, 105, 116, 121]⟩)
def sp8 : V := .tup [.agg [.v (.string ⟨#[111, 112, 97, 99, 105, 116, 121]⟩), .v (.int .i64 2), .v (.bool false), .v (.bool false), .list .no [], .v (.int .i64 2), .v (.int .i64 1), .v (.int .i64 1), .v (.string ⟨#[]⟩)], .v (.bool true)]
def vl8 : V := .list .no [[.v (.int .i64 10), .v (.string ⟨#[]⟩), .v (.int .i64 1), .v (.int .i64 1), .v (.bool false), .v (.bool false), .list .no []]]
def ps8 : V := .tup [.agg [.v (.int .i64 1), .v (.int .i64 1), .v (.int .i64 1), .v (.int .i64 1), .v (.int .i64 0), .list .no [], .v (.string ⟨#[]⟩), .list .no []], .v (.int .i64 0)]
def nm9 : V := .v (.string ⟨#[111, 114, 100, 101, 114]⟩)
def sp9 : V := .tup [.agg [.v (.string ⟨#[111, 114, 100, 101, 114]⟩), .v (.int .i64 2), .v (.bool false), .v (.bool true), .list .no [], .v (.int .i64 2), .v (.int .i64 0), .v (.int .i64 1), .v (.string ⟨#[]⟩)], .v (.bool true)]
def vl9 : V := .list .no [[.v (.int .i64 10), .v (.string ⟨#[]⟩), .v (.int .i64 0), .v (.int .i64 1), .v (.bool false), .v (.bool false), .list .no []]]
def ps9 : V := .tup [.agg [.v (.int .i64 1), .v (.int .i64 1), .v (.int .i64 0), .v (.int .i64 1), .v (.int .i64 0), .list .no [], .v (.string ⟨#[]⟩), .list .no []], .v (.int .i64 0)]
def nm10 : V := .v (.string ⟨#[112, 97, 100, 100, 105, 110, 103]⟩)
def sp10 : V := .tup [.agg [.v (.string ⟨#[112, 97, 100, 100, 105, 110, 103]⟩), .v (.int .i64 1), .v (.bool false), .v (.bool false), .list .no [], .v (.int .i64 1), .v (.int .i64 0), .v (.int .i64 1), .v (.string ⟨#[]⟩)], .v (.bool true)]
def vl10 : V := .list .no [[.v (.int .i64 12), .v (.string ⟨#[112, 120]⟩), .v (.int .i64 0), .v (.int .i64 1), .v (.bool false), .v (.bool false), .list .no []]]
def ps10 : V := .tup [.agg [.v (.int .i64 1), .v (.int .i64 1), .v (.int .i64 0), .v (.int .i64 1), .v (.int .i64 1), .list .no [], .v (.string ⟨#[]⟩), .list .no []], .v (.int .i64 0)]
def nm11 : V := .v (.string ⟨#[116, 101, 120, 116, 45, 97, 108, 105, 103, 110]⟩)
def sp11 : V := .tup [.agg [.v (.string ⟨#[116, 101, 120, 116, 45, 97, 108, 105, 103, 110]⟩), .v (.int .i64 3), .v (.bool true), .v (.bool false), .list .no [[.v (.string ⟨#[115, 116, 97, 114, 116]⟩)], [.v (.string ⟨#[101, 110, 100]⟩)], [.v (.string ⟨#[99, 101, 110, 116, 101, 114]⟩)]], .v (.int .i64 3), .v (.int .i64 0), .v (.int .i64 0), .v (.string ⟨#[115, 116, 97, 114, 116]⟩)], .v (.bool true)]
def vl11 : V := .list .no [[.v (.int .i64 1), .v (.string ⟨#[115, 116, 97, 114, 116]⟩), .v (.int .i64 0), .v (.int .i64 0), .v (.bool false), .v (.bool false), .list .no []]]
def ps11 : V := .tup [.agg [.v (.int .i64 2), .v (.int .i64 0), .v (.int .i64 0), .v (.int .i64 0), .v (.int .i64 0), .list .no [], .v (.string ⟨#[115, 116, 97, 114, 116]⟩), .list .no []], .v (.int .i64 0)]
def nm12 : V := .v (.string ⟨#[118, 105, 115, 105, 98, 105, 108, 105, 116, 121]⟩)
def sp12 : V := .tup [.agg [.v (.string ⟨#[118, 105, 115, 105, 98, 105, 108, 105, 116, 121]⟩), .v (.int .i64 3), .v (.bool true), .v (.bool false), .list .no [[.v (.string ⟨#[118, 105, 115, 105, 98, 108, 101]⟩)], [.v (.string ⟨#[104, 105, 100, 100, 101, 110]⟩)], [.v (.string ⟨#[99, 111, 108, 108, 97, 112, 115, 101]⟩)]], .v (.int .i64 3), .v (.int .i64 0), .v (.int .i64 0), .v (.string ⟨#[118, 105, 115, 105, 98, 108, 101]⟩)], .v (.bool true)]
def vl12 : V := .list .no [[.v (.int .i64 1), .v (.string ⟨#[118, 105, 115, 105, 98, 108, 101]⟩), .v (.int .i64 0), .v (.int .i64 0), .v (.bool false), .v (.bool false), .list .no []]]
def ps12 : V := .tup [.agg [.v (.int .i64 2), .v (.int .i64 0), .v (.int .i64 0), .v (.int .i64 0), .v (.int .i64 0), .list .no [], .v (.string ⟨#[118, 105, 115, 105, 98, 108, 101]⟩), .list .no []], .v (.int .i64 0)]
def nm13 : V := .v (.string ⟨#[119, 105, 100, 116, 104]⟩)
def sp13 : V := .tup [.agg [.v (.string ⟨#[119, 105, 100, 116, 104]⟩), .v (.int .i64 1), .v (.bool false), .v (.bool false), .list .no [[.v (.string ⟨#[97, 117, 116, 111]⟩)]], .v (.int .i64 3), .v (.int .i64 0), .v (.int .i64 0), .v (.string ⟨#[97, 117, 116, 111]⟩)], .v (.bool true)]
def vl13 : V := .list .no [[.v (.int .i64 1), .v (.string ⟨#[97, 117, 116, 111]⟩), .v (.int .i64 0), .v (.int .i64 0), .v (.bool false), .v (.bool false), .list .no []]]
def ps13 : V := .tup [.agg [.v (.int .i64 2), .v (.int .i64 0), .v (.int .i64 0), .v (.int .i64 0), .v (.int .i64 0), .list .no [], .v (.string ⟨#[97, 117, 116, 111]⟩), .list .no []], .v (.int .i64 0)]
def wd0 : V := .v (.string ⟨#[98, 108, 97, 99, 107]⟩)
def of0 : V := .list .no [[.v (.int .i64 1), .v (.string ⟨#[98, 108, 97, 99, 107]⟩), .v (.int .i64 0), .v (.int .i64 0), .v (.bool false), .v (.bool false), .list .no []]]
def wd1 : V := .v (.string ⟨#[105, 110, 108, 105, 110, 101]⟩)
def of1 : V := .list .no [[.v (.int .i64 1), .v (.string ⟨#[105, 110, 108, 105, 110, 101]⟩), .v (.int .i64 0), .v (.int .i64 0), .v (.bool false), .v (.bool false), .list .no []]]
def wd2 : V := .v (.string ⟨#[97, 117, 116, 111]⟩)
def of2 : V := .list .no [[.v (.int .i64 1), .v (.string ⟨#[97, 117, 116, 111]⟩), .v (.int .i64 0), .v (.int .i64 0), .v (.bool false), .v (.bool false), .list .no []]]
def wd3 : V := .v (.string ⟨#[115, 116, 97, 114, 116]⟩)
def of3 : V := .list .no [[.v (.int .i64 1), .v (.string ⟨#[115, 116, 97, 114, 116]⟩), .v (.int .i64 0), .v (.int .i64 0), .v (.bool false), .v (.bool false), .list .no []]]
def wd4 : V := .v (.string ⟨#[118, 105, 115, 105, 98, 108, 101]⟩)
def of4 : V := .list .no [[.v (.int .i64 1), .v (.string ⟨#[118, 105, 115, 105, 98, 108, 101]⟩), .v (.int .i64 0), .v (.int .i64 0), .v (.bool false), .v (.bool false), .list .no []]]
def specM : List (List V × V) := [([nm0], sp0), ([nm1], sp1), ([nm2], sp2), ([nm3], sp3), ([nm4], sp4), ([nm5], sp5), ([nm6], sp6), ([nm7], sp7), ([nm8], sp8), ([nm9], sp9), ([nm10], sp10), ([nm11], sp11), ([nm12], sp12), ([nm13], sp13)]
def ofM : List (List V × V) := [([wd0], of0), ([wd1], of1), ([wd2], of2), ([wd3], of3), ([wd4], of4)]
def parseM : List (List V × V) := [([nm0, vl0], ps0), ([nm1, vl1], ps1), ([nm2, vl2], ps2), ([nm3, vl3], ps3), ([nm4, vl4], ps4), ([nm5, vl5], ps5), ([nm6, vl6], ps6), ([nm7, vl7], ps7), ([nm8, vl8], ps8), ([nm9, vl9], ps9), ([nm10, vl10], ps10), ([nm11, vl11], ps11), ([nm12, vl12], ps12), ([nm13, vl13], ps13)]
noncomputable def primA : Nat -> Option (Nat -> List V -> Heap -> Option (V × Heap)) := fun n => match n with | 7 => some (memo specM) | 16 => some fieldsP | _ => none
noncomputable def primB : Nat -> Option (Nat -> List V -> Heap -> Option (V × Heap)) := fun n => match n with | 7 => some (memo specM) | 10 => some (memo parseM) | 11 => some (memo ofM) | 16 => some fieldsP | _ => none
end Go.Lift.T2
end

section
open Go.Proofs
namespace Go.Lift.T2
theorem spec0 : evFun Tryd.prog hints primz 200 0 7 [nm0] [] = some (sp0, []) := by kernel_rfl
theorem spec1 : evFun Tryd.prog hints primz 200 0 7 [nm1] [] = some (sp1, []) := by kernel_rfl
theorem spec2 : evFun Tryd.prog hints primz 200 0 7 [nm2] [] = some (sp2, []) := by kernel_rfl
theorem spec3 : evFun Tryd.prog hints primz 200 0 7 [nm3] [] = some (sp3, []) := by kernel_rfl
theorem spec4 : evFun Tryd.prog hints primz 200 0 7 [nm4] [] = some (sp4, []) := by kernel_rfl
theorem spec5 : evFun Tryd.prog hints primz 200 0 7 [nm5] [] = some (sp5, []) := by kernel_rfl
theorem spec6 : evFun Tryd.prog hints primz 200 0 7 [nm6] [] = some (sp6, []) := by kernel_rfl
theorem spec7 : evFun Tryd.prog hints primz 200 0 7 [nm7] [] = some (sp7, []) := by kernel_rfl
theorem spec8 : evFun Tryd.prog hints primz 200 0 7 [nm8] [] = some (sp8, []) := by kernel_rfl
theorem spec9 : evFun Tryd.prog hints primz 200 0 7 [nm9] [] = some (sp9, []) := by kernel_rfl
theorem spec10 : evFun Tryd.prog hints primz 200 0 7 [nm10] [] = some (sp10, []) := by kernel_rfl
theorem spec11 : evFun Tryd.prog hints primz 200 0 7 [nm11] [] = some (sp11, []) := by kernel_rfl
theorem spec12 : evFun Tryd.prog hints primz 200 0 7 [nm12] [] = some (sp12, []) := by kernel_rfl
theorem spec13 : evFun Tryd.prog hints primz 200 0 7 [nm13] [] = some (sp13, []) := by kernel_rfl
end Go.Lift.T2
end

section
open Go.Proofs
namespace Go.Lift.T2
theorem ofw0 : evFun Tryd.prog hints primz 200 0 11 [wd0] [] = some (of0, []) := by kernel_rfl
theorem ofw1 : evFun Tryd.prog hints primz 200 0 11 [wd1] [] = some (of1, []) := by kernel_rfl
theorem ofw2 : evFun Tryd.prog hints primz 200 0 11 [wd2] [] = some (of2, []) := by kernel_rfl
theorem ofw3 : evFun Tryd.prog hints primz 200 0 11 [wd3] [] = some (of3, []) := by kernel_rfl
theorem ofw4 : evFun Tryd.prog hints primz 200 0 11 [wd4] [] = some (of4, []) := by kernel_rfl
end Go.Lift.T2
end

section
open Go.Proofs
namespace Go.Lift.T2
theorem parse0 : evFun Tryd.prog hints primA 200 0 10 [nm0, vl0] [] = some (ps0, []) := by kernel_rfl
theorem parse1 : evFun Tryd.prog hints primA 200 0 10 [nm1, vl1] [] = some (ps1, []) := by kernel_rfl
theorem parse2 : evFun Tryd.prog hints primA 200 0 10 [nm2, vl2] [] = some (ps2, []) := by kernel_rfl
theorem parse3 : evFun Tryd.prog hints primA 200 0 10 [nm3, vl3] [] = some (ps3, []) := by kernel_rfl
theorem parse4 : evFun Tryd.prog hints primA 200 0 10 [nm4, vl4] [] = some (ps4, []) := by kernel_rfl
theorem parse5 : evFun Tryd.prog hints primA 200 0 10 [nm5, vl5] [] = some (ps5, []) := by kernel_rfl
theorem parse6 : evFun Tryd.prog hints primA 200 0 10 [nm6, vl6] [] = some (ps6, []) := by kernel_rfl
end Go.Lift.T2
end

section
open Go.Proofs
namespace Go.Lift.T2
theorem parse7 : evFun Tryd.prog hints primA 200 0 10 [nm7, vl7] [] = some (ps7, []) := by kernel_rfl
theorem parse8 : evFun Tryd.prog hints primA 200 0 10 [nm8, vl8] [] = some (ps8, []) := by kernel_rfl
theorem parse9 : evFun Tryd.prog hints primA 200 0 10 [nm9, vl9] [] = some (ps9, []) := by kernel_rfl
theorem parse10 : evFun Tryd.prog hints primA 200 0 10 [nm10, vl10] [] = some (ps10, []) := by kernel_rfl
theorem parse11 : evFun Tryd.prog hints primA 200 0 10 [nm11, vl11] [] = some (ps11, []) := by kernel_rfl
theorem parse12 : evFun Tryd.prog hints primA 200 0 10 [nm12, vl12] [] = some (ps12, []) := by kernel_rfl
theorem parse13 : evFun Tryd.prog hints primA 200 0 10 [nm13, vl13] [] = some (ps13, []) := by kernel_rfl
end Go.Lift.T2
end

section
namespace Go.Proofs
open Go.Shelf
def Tryd.lays157_ren : Go.Shelf.Ren := ⟨fun | 157 => 16 | 229 => 31 | 199 => 32 | 261 => 51 | 311 => 66 | 312 => 67 | n => n, fun | 9 => 9 | 31 => 22 | 3 => 3 | 5 => 5 | 4 => 4 | 119 => 76 | 0 => 0 | 40 => 78 | 152 => 105 | 21 => 21 | 154 => 107 | 51 => 108 | 141 => 110 | 196 => 127 | 193 => 124 | 198 => 130 | 49 => 128 | 194 => 125 | 201 => 133 | 226 => 151 | 46 => 150 | 227 => 152 | n => n, fun | 0 => 0 | 6 => 1 | n => n⟩
theorem Tryd.lays157 : Go.Proofs.Lays.n157 Tryd.prog Tryd.lays157_ren := {
 mixed := by kernel_rfl
 f157 := Tryd.func16.trans (congrArg some (by kernel_rfl))
 f199 := Tryd.func32.trans (congrArg some (by kernel_rfl))
 f229 := Tryd.func31.trans (congrArg some (by kernel_rfl))
 f261 := Tryd.func51.trans (congrArg some (by kernel_rfl))
 f311 := Tryd.func66.trans (congrArg some (by kernel_rfl))
 f312 := Tryd.func67.trans (congrArg some (by kernel_rfl))
 t0 := Tryd.underlying0
 a0 := Tryd.isAgg0
 z0 := Tryd.sizeOf0
 v0 := Tryd.zeroValue0
 t3 := Tryd.underlying3
 a3 := Tryd.isAgg3
 z3 := Tryd.sizeOf3
 v3 := Tryd.zeroValue3
 t4 := Tryd.underlying4
 a4 := Tryd.isAgg4
 z4 := Tryd.sizeOf4
 v4 := Tryd.zeroValue4
 t5 := Tryd.underlying5
 a5 := Tryd.isAgg5
 z5 := Tryd.sizeOf5
 v5 := Tryd.zeroValue5
 t9 := Tryd.underlying9
 a9 := Tryd.isAgg9
 z9 := Tryd.sizeOf9
 v9 := Tryd.zeroValue9
 t21 := Tryd.underlying21
 a21 := Tryd.isAgg21
 z21 := Tryd.sizeOf21
 v21 := Tryd.zeroValue21
 t31 := Tryd.underlying22
 a31 := Tryd.isAgg22
 z31 := Tryd.sizeOf22
 v31 := Tryd.zeroValue22
 t40 := Tryd.underlying78
 a40 := Tryd.isAgg78
 z40 := Tryd.sizeOf78
 v40 := Tryd.zeroValue78
 t46 := Tryd.underlying150
 a46 := Tryd.isAgg150
 z46 := Tryd.sizeOf150
 v46 := Tryd.zeroValue150
 t49 := Tryd.underlying128
 a49 := Tryd.isAgg128
 z49 := Tryd.sizeOf128
 v49 := Tryd.zeroValue128
 t51 := Tryd.underlying108
 a51 := Tryd.isAgg108
 z51 := Tryd.sizeOf108
 v51 := Tryd.zeroValue108
 t119 := Tryd.underlying76
 a119 := Tryd.isAgg76
 z119 := Tryd.sizeOf76
 t141 := Tryd.underlying110
 a141 := Tryd.isAgg110
 z141 := Tryd.sizeOf110
 v141 := Tryd.zeroValue110
 t152 := Tryd.underlying105
 a152 := Tryd.isAgg105
 z152 := Tryd.sizeOf105
 v152 := Tryd.zeroValue105
 t154 := Tryd.underlying107
 a154 := Tryd.isAgg107
 z154 := Tryd.sizeOf107
 v154 := Tryd.zeroValue107
 t193 := Tryd.underlying124
 a193 := Tryd.isAgg124
 z193 := Tryd.sizeOf124
 v193 := Tryd.zeroValue124
 t194 := Tryd.underlying125
 a194 := Tryd.isAgg125
 z194 := Tryd.sizeOf125
 v194 := Tryd.zeroValue125
 t196 := Tryd.underlying127
 a196 := Tryd.isAgg127
 z196 := Tryd.sizeOf127
 v196 := Tryd.zeroValue127
 t198 := Tryd.underlying130
 a198 := Tryd.isAgg130
 z198 := Tryd.sizeOf130
 v198 := Tryd.zeroValue130
 t201 := Tryd.underlying133
 a201 := Tryd.isAgg133
 z201 := Tryd.sizeOf133
 v201 := Tryd.zeroValue133
 t226 := Tryd.underlying151
 a226 := Tryd.isAgg151
 z226 := Tryd.sizeOf151
 v226 := Tryd.zeroValue151
 t227 := Tryd.underlying152
 a227 := Tryd.isAgg152
 z227 := Tryd.sizeOf152
 v227 := Tryd.zeroValue152
 g0 := by kernel_rfl
 g6 := by kernel_rfl }
end Go.Proofs
end

section
namespace Go.Lift.T2
open Go.Proofs Go.RowKit
theorem one_arg {m : List Nat} {c : Cl} {w : World} {a : Value} {xs : Array Value} (h : R2 (VRr m c w) [.v a] xs.toList) : xs = #[a] := by
 obtain ⟨l⟩ := xs
 match l, h.1 with
 | [x], _ =>
  have h0 : x = a := h.2 0 _ _ rfl rfl
  rw [h0]
theorem cell_of {c : Cl} {w : World} {n : Nat} {cs : List V} (hg : ROs c w ⟨n, 0, none⟩ cs) {j : Nat} {x : Value} (hj : cs[j]? = some (.v x)) : w.cell? ⟨n, j, none⟩ = some x := by
 obtain ⟨_, h⟩ := hg
 obtain ⟨y, hy, hv⟩ := h j _ hj
 rw [Nat.zero_add] at hy
 rw [hy, VP.v_eq hv]
theorem space {m : List Nat} {c : Cl} {w : World} {h : Heap} (hH : HOK m c w h) : ∀ j, j < 256 -> w.cell? ⟨0, j, none⟩ = some (.int .u8 (if Go.Lib.isSp (UInt8.ofNat j) then 1 else 0)) := fun j hj => by
 have e : GTab.tab 0 = some ((List.range 256).map fun c => V.v (.int .u8 (if Go.Lib.isSp (UInt8.ofNat c) then 1 else 0))) := rfl
 exact cell_of (hH.1.gt 0 _ e) (by simp [hj])
theorem fields_ok {lo : Nat} {s : ByteArray} {h : Heap} (hlo : lo <= h.length) (hs : s.size < 4294967281) (ha : (s.data.toList.all fun b => decide (b.toNat < 128)) = true) :
  CallOK Tryd.prog lo 16 [.v (.string s)] h (.list .no ((Go.Lib.fields s.data.toList).map fun l => [.v (.string ⟨l.toArray⟩)])) h := by
 have k := prim_fresh (P := Tryd.prog) (f := 16) (args := [.v (.string s)]) (xs := (Go.Lib.fields s.data.toList).map fun l => Value.string ⟨l.toArray⟩) hlo (enters_of Tryd.func16 (by kernel_rfl) rfl)
  (fun x hx => by obtain ⟨l, _, rfl⟩ := List.mem_map.1 hx; rfl) fun m c w ys hH hy => by
  rw [one_arg hy]
  refine (Any.strings_Fields_core (P := Tryd.prog) (ρ := Tryd.lays157_ren) Tryd.lays157 (by kernel_rfl) s w hs (fun j b hb => by simpa using List.all_eq_true.1 ha b (List.mem_of_getElem? hb)) (space hH)).mono fun e w' ⟨h1, h2⟩ => ?_
  subst h2
  have ka := MapKept.heap_alloc w (.cells ((Go.Lib.fields s.data.toList).map fun l => Value.string ⟨l.toArray⟩).toArray (Tryd.lays157_ren.t 9))
  refine ⟨w.heap.size, _, _, _, _, by rw [List.length_map]; exact h1, Nat.le_refl _, by rw [List.length_map]; exact Nat.le_refl _, ka.1, fun i x hx => by simpa using hx, rfl, rfl, rfl, ?_, fun k hk => ka.2 k hk⟩
  show _ <= (w.heap.push _).size
  simp
 rw [List.map_map] at k
 exact k
theorem prim_ok0 : ∀ f p, primz f = some p -> ∀ lo args h r h', lo <= h.length -> p lo args h = some (r, h') -> CallOK Tryd.prog lo f args h r h' := by
 intro f p hp lo args h r h' hlo he
 unfold primz at hp
 split at hp
 ·cases hp
  unfold fieldsP at he
  split at he
  ·split at he
   ·rename_i hc
    cases he
    exact fields_ok hlo hc.1 hc.2
   ·cases he
  ·cases he
 ·cases hp
theorem follows : Tryd.prog.follows .mixedOrders = true := by kernel_rfl
theorem known {prim : Nat -> Option (Nat -> List V -> Heap -> Option (V × Heap))} (hp : ∀ f p, prim f = some p -> ∀ lo args h r h', lo <= h.length -> p lo args h = some (r, h') -> CallOK Tryd.prog lo f args h r h') {n f : Nat} {args : List V} {r : V}
  (he : evFun Tryd.prog hints prim n 0 f args [] = some (r, [])) : CallOK Tryd.prog 0 f args [] r [] := fun_ok follows hp n 0 f args [] r [] (Nat.le_refl _) he
theorem spec_all : ∀ p ∈ specM, CallOK Tryd.prog 0 7 p.1 [] p.2 [] := by
 unfold specM
 simp only [List.mem_cons, List.not_mem_nil, or_false, forall_eq_or_imp, forall_eq]
 exact ⟨known prim_ok0 spec0, known prim_ok0 spec1, known prim_ok0 spec2, known prim_ok0 spec3, known prim_ok0 spec4, known prim_ok0 spec5, known prim_ok0 spec6, known prim_ok0 spec7, known prim_ok0 spec8, known prim_ok0 spec9, known prim_ok0 spec10, known prim_ok0 spec11, known prim_ok0 spec12, known prim_ok0 spec13⟩
theorem of_all : ∀ p ∈ ofM, CallOK Tryd.prog 0 11 p.1 [] p.2 [] := by
 unfold ofM
 simp only [List.mem_cons, List.not_mem_nil, or_false, forall_eq_or_imp, forall_eq]
 exact ⟨known prim_ok0 ofw0, known prim_ok0 ofw1, known prim_ok0 ofw2, known prim_ok0 ofw3, known prim_ok0 ofw4⟩
theorem prim_okA : ∀ f p, primA f = some p -> ∀ lo args h r h', lo <= h.length -> p lo args h = some (r, h') -> CallOK Tryd.prog lo f args h r h' := by
 intro f p hp lo args h r h' hlo he
 unfold primA at hp
 split at hp
 ·cases hp
  exact memo_ok spec_all (by kernel_rfl) lo args h r h' hlo he
 ·cases hp
  exact prim_ok0 16 _ rfl lo args h r h' hlo he
 ·cases hp
theorem parse_all : ∀ p ∈ parseM, CallOK Tryd.prog 0 10 p.1 [] p.2 [] := by
 unfold parseM
 simp only [List.mem_cons, List.not_mem_nil, or_false, forall_eq_or_imp, forall_eq]
 exact ⟨known prim_okA parse0, known prim_okA parse1, known prim_okA parse2, known prim_okA parse3, known prim_okA parse4, known prim_okA parse5, known prim_okA parse6, known prim_okA parse7, known prim_okA parse8, known prim_okA parse9, known prim_okA parse10, known prim_okA parse11, known prim_okA parse12, known prim_okA parse13⟩
theorem prim_okB : ∀ f p, primB f = some p -> ∀ lo args h r h', lo <= h.length -> p lo args h = some (r, h') -> CallOK Tryd.prog lo f args h r h' := by
 intro f p hp lo args h r h' hlo he
 unfold primB at hp
 split at hp
 ·cases hp
  exact memo_ok spec_all (by kernel_rfl) lo args h r h' hlo he
 ·cases hp
  exact memo_ok parse_all (by kernel_rfl) lo args h r h' hlo he
 ·cases hp
  exact memo_ok of_all (by kernel_rfl) lo args h r h' hlo he
 ·cases hp
  exact prim_ok0 16 _ rfl lo args h r h' hlo he
 ·cases hp
end Go.Lift.T2
end

section
open Go.Proofs
namespace Go.Lift.T2
theorem law4 : evFun Tryd.prog hints primB 200 0 4 [] [] = some (.v (.bool true), []) := by kernel_rfl
end Go.Lift.T2
end

section
namespace Go.Proofs.YtilpeaggmnomiaaDoor
open Go.Lift Go.Lift.T2 Go.ChangeShapes Go.WideShapes Go.ChangeAt Go.RowKit
theorem isBulk (H : Type) : IsBulk (H := H) Rows.uptoBulk Rows.uptoBulkAll :=
 ⟨rfl, fun _ _ => rfl, fun _ => rfl, fun _ => rfl, fun _ _ => rfl, rfl, fun e s => by show Rows.uptoBulkAll e + 1 ≤ Rows.uptoBulkAll e + Rows.uptoBulkAll s + 1; omega, fun _ => rfl⟩
theorem own : ownKnob Tryd.prog.godebug = none := by kernel_rfl
theorem laidOut : laidOutB Tryd.prog = true := by kernel_rfl
theorem ros_of {w : World} {g : Nat} {cs : List V} (h : ∀ (j : Nat) v, cs[j]? = some v → ∃ x, w.cell? ⟨g, j, none⟩ = some x ∧ VP (wholeCl w) w v x) : ROs (wholeCl w) w ⟨g, 0, none⟩ cs := by
 refine ⟨?_, fun j v hj => by simpa using h j v hj⟩
 cases cs with
 | nil => exact Nat.zero_le _
 | cons c t =>
  have hl : (c :: t)[t.length]? = some ((c :: t)[t.length]'(by simp)) := List.getElem?_eq_getElem (by simp)
  obtain ⟨x, hx, _⟩ := h t.length _ hl
  unfold World.cell? at hx
  unfold wholeCl
  simp only at hx ⊢
  split at hx
  ·rename_i arr e f he
   rw [he]
   simp only [List.length_cons]
   have := (Array.getElem?_eq_some_iff.1 hx).1
   omega
  ·cases hx
theorem kinds_data : (Rows.laid_jalousie_jalousieref3_kinds : DataW Unit) = Lib.tabData .i64 [21, 22, 19, 20, 23, 24, 18, 16, 17] := rfl
theorem space_data : (Rows.laid_strings_asciiSpace : DataW Unit) = Lib.tabData .u8 Lib.asciiSpaceTab := by kernel_rfl
theorem tab_cells {w : World} {name : String} {k : IntKind} {zs : List Int} {g : Nat} {t e : TypeId} {n : Nat} (hn : Tryd.prog.globalNamed name = some g) (hy : (Tryd.prog.globals[g]?).map (·.type) = some t)
  (ht : Tryd.prog.underlying t = some (.array n e)) (he : Tryd.prog.underlying e = some (.int k)) (hce : Tryd.prog.cellsOf e = 1) (hct : Tryd.prog.cellsOf t = n) (h : Lib.VarReads Tryd.prog w name (Lib.tabData k zs)) :
  ∀ (j : Nat) (z : Int), zs[j]? = some z → w.cell? ⟨g, j, none⟩ = some (.int k z) := fun j z hz => by
 obtain ⟨g', t', cs, fuel, p, h1, h2, h3, h4⟩ := h
 obtain rfl := Option.some.inj (hn.symm.trans h1)
 obtain rfl := Option.some.inj (hy.symm.trans h2)
 have hcs := Lib.cells_of_tab ht he hce hct h4
 have := World.var?_cell hn h3 j
 rw [this, ← Array.getElem?_toList, hcs]
 simp [hz]
theorem gok {W : World} (hk : Lib.VarReads Tryd.prog W "jalousie/jalousieref3.kinds" Rows.laid_jalousie_jalousieref3_kinds) (hs : Lib.VarReads Tryd.prog W "strings.asciiSpace" Rows.laid_strings_asciiSpace) : GOK W := by
 rw [kinds_data] at hk
 rw [space_data] at hs
 intro n cs hc
 have e : GTab.tab n = gtab.1 n := rfl
 rw [e] at hc
 unfold gtab at hc
 simp only at hc
 split at hc
 ·have c0 := tab_cells (g := 0) (t := 76) (e := 5) (n := 256) (by kernel_rfl) (by kernel_rfl) (by kernel_rfl) (by kernel_rfl) (by kernel_rfl) (by kernel_rfl) hs
  cases hc
  refine ros_of fun j v hj => ?_
  simp only [List.getElem?_map, Option.map_eq_some_iff] at hj
  obtain ⟨k, hk2, rfl⟩ := hj
  obtain ⟨hj1, rfl⟩ := List.getElem?_eq_some_iff.1 hk2
  simp only [List.length_range] at hj1
  rw [List.getElem_range]
  exact ⟨_, c0 j _ (by unfold Lib.asciiSpaceTab; rw [List.getElem?_map, List.getElem?_range hj1]; rfl), .v _ rfl⟩
 ·have c0 := tab_cells (g := 2) (t := 140) (e := 3) (n := 9) (by kernel_rfl) (by kernel_rfl) (by kernel_rfl) (by kernel_rfl) (by kernel_rfl) (by kernel_rfl) hk
  cases hc
  refine ros_of fun j v hj => ?_
  have hj2 : (([21, 22, 19, 20, 23, 24, 18, 16, 17] : List Int).map fun z => V.v (.int .i64 z))[j]? = some v := hj
  simp only [List.getElem?_map, Option.map_eq_some_iff] at hj2
  obtain ⟨k, hk2, rfl⟩ := hj2
  exact ⟨_, c0 j k hk2, .v _ rfl⟩
 ·cases hc
noncomputable def laidWorld (os : Os) : World :=
 let N := (World.settled Tryd.prog os).heap.size
 let w0 := World.holding Tryd.prog os ⟨#[.cells ([9, 13, 1, 32, 133, 101, 160, 5760, 5600, 8192, 8202, 1, 8232, 8233, 1, 8239, 8287, 48, 12288, 12288, 1].map fun z => Value.int .u16 z).toArray 130, .cells #[.slice (some ⟨N, 0, none⟩) 7 7, .slice none 0 0, .int .i64 2] 127], #[], []⟩
 let put (h : Array Obj) (g : Nat) (cs : Array Value) : Array Obj := h.modify g fun
  | .cells _ t frozen => .cells cs t frozen
  | o => o
 let h1 := put w0.heap 0 (Lib.asciiSpaceTab.map fun z => Value.int .u8 z).toArray
 let h2 := put h1 2 ([21, 22, 19, 20, 23, 24, 18, 16, 17].map fun z => Value.int .i64 z).toArray
 let h3 := put h2 1 #[.pointer (some ⟨N + 1, 0, none⟩)]
 { w0 with heap := h3 }
theorem laid3 (os : Os) (args : Array Value) : LaidIn Tryd.prog ((laidWorld os).forCall (fun _ _ => 0) ⟨#[], args, []⟩).memory [("jalousie/jalousieref3.kinds", Rows.laid_jalousie_jalousieref3_kinds), ("unicode.White_Space", Rows.laid_unicode_White_Space), ("strings.asciiSpace", Rows.laid_strings_asciiSpace)] (List.range 200) :=
 LaidIn.of_run (List.range 200) 8 (by kernel_rfl) (by kernel_rfl) (by kernel_rfl) (by kernel_rfl)
end Go.Proofs.YtilpeaggmnomiaaDoor
end

section
namespace Go.Proofs.YtilpeaggmnomiaaDoor
theorem and_tt {a b : Bool} (ha : a = true) (hb : b = true) : (a && b) = true := by rw [ha, hb]; rfl
theorem fact2 : laidOutB Tryd.prog = true := by kernel_rfl
theorem fact3 : mapsRowed Tryd.prog = true := by kernel_rfl
theorem fact7 : (Tryd.prog.stops == []) = true := by kernel_rfl
theorem fact9 : (Tryd.prog.stopKnobs == []) = true := by kernel_rfl
theorem fact23 : (Rows.propInitialUptoRow.plainKeys == Tryd.prog.plainKeys) = true := by kernel_rfl
theorem fact25 : Tryd.prog.stopsHeard = true := by kernel_rfl
theorem fact26 : Tryd.prog.mayEnter = true := by kernel_rfl
theorem fact27 : (Rows.propInitialUptoRow.lifted == Tryd.prog.liftsFinal) = true := by kernel_rfl
theorem fact28 : (Tryd.prog.make == some Rows.propInitialUptoRow.make) = true := by kernel_rfl
end Go.Proofs.YtilpeaggmnomiaaDoor
end
