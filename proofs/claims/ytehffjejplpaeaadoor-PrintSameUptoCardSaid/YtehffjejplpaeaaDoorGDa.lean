/-
  DERIVED: THE SHELF's CONTRACTS AT THIS DUMP, IN PLAIN WORDS (tools/lay-plain.mjs out of 'P7LayH.lean', which tools/lay-shelf.mjs wrote): THE SAME DECLARATIONS UNDER THE SAME NAMES: 'import', 'namespace', 'open', 'def', 'theorem' AND NOTHING ELSE: no command of the shelf's: FOR A HAND-IN. Each laying: the table of numbers ('.._ren') and one theorem, a field a fact of the dump's own or the kernel's comparison; each contract: ONE APPLICATION.
-/
import Derived.Test.YtehffjejplpaeaaDoorProg
import Derived.Shelf.LaysM
import Derived.Shelf.Strings.Repeat
import Derived.Shelf.Strings.Search2
import Derived.Shelf.Strconv.Itoa3
set_option linter.unusedVariables false
set_option linter.unusedSimpArgs false
set_option linter.unusedSectionVars false
namespace Go.Proofs
open Go.Shelf
def Tryd.lays105_ren : Go.Shelf.Ren := ⟨fun | 105 => 58 | 212 => 71 | 99 => 51 | 165 => 72 | 166 => 19 | 170 => 73 | 169 => 21 | 263 => 84 | 264 => 85 | 206 => 68 | 240 => 27 | 241 => 86 | 276 => 38 | 277 => 90 | n => n, fun | 9 => 9 | 3 => 3 | 4 => 4 | 20 => 20 | 0 => 0 | 46 => 90 | 109 => 107 | 5 => 5 | 72 => 48 | 76 => 60 | 51 => 120 | 146 => 121 | 53 => 98 | 148 => 125 | 70 => 45 | 37 => 46 | 75 => 59 | 127 => 68 | 164 => 78 | 80 => 61 | n => n, fun n => n⟩
theorem Tryd.lays105 : Go.Proofs.Lays.n105 Tryd.prog Tryd.lays105_ren := {
 mixed := by kernel_rfl
 f99 := Tryd.func51.trans (congrArg some (by kernel_rfl))
 f105 := Tryd.func58.trans (congrArg some (by kernel_rfl))
 f165 := Tryd.func72.trans (congrArg some (by kernel_rfl))
 f166 := Tryd.func19.trans (congrArg some (by kernel_rfl))
 f169 := Tryd.func21.trans (congrArg some (by kernel_rfl))
 f170 := Tryd.func73.trans (congrArg some (by kernel_rfl))
 f206 := Tryd.func68.trans (congrArg some (by kernel_rfl))
 f212 := Tryd.func71.trans (congrArg some (by kernel_rfl))
 f240 := Tryd.func27.trans (congrArg some (by kernel_rfl))
 f241 := Tryd.func86.trans (congrArg some (by kernel_rfl))
 f263 := Tryd.func84.trans (congrArg some (by kernel_rfl))
 f264 := Tryd.func85.trans (congrArg some (by kernel_rfl))
 f276 := Tryd.func38.trans (congrArg some (by kernel_rfl))
 f277 := Tryd.func90.trans (congrArg some (by kernel_rfl))
 t0 := Tryd.underlying0
 a0 := Tryd.isAgg0
 z0 := Tryd.sizeOf0
 v0 := Tryd.zeroValue0
 t3 := Tryd.underlying3
 a3 := Tryd.isAgg3
 z3 := Tryd.sizeOf3
 v3 := Tryd.zeroValue3
 t4 := Tryd.underlying4
 a4 := Tryd.isAgg4
 z4 := Tryd.sizeOf4
 v4 := Tryd.zeroValue4
 t5 := Tryd.underlying5
 a5 := Tryd.isAgg5
 z5 := Tryd.sizeOf5
 v5 := Tryd.zeroValue5
 t9 := Tryd.underlying9
 a9 := Tryd.isAgg9
 z9 := Tryd.sizeOf9
 v9 := Tryd.zeroValue9
 t20 := Tryd.underlying20
 a20 := Tryd.isAgg20
 z20 := Tryd.sizeOf20
 v20 := Tryd.zeroValue20
 t37 := Tryd.underlying46
 a37 := Tryd.isAgg46
 z37 := Tryd.sizeOf46
 v37 := Tryd.zeroValue46
 t46 := Tryd.underlying90
 a46 := Tryd.isAgg90
 z46 := Tryd.sizeOf90
 v46 := Tryd.zeroValue90
 t51 := Tryd.underlying120
 a51 := Tryd.isAgg120
 z51 := Tryd.sizeOf120
 v51 := Tryd.zeroValue120
 t53 := Tryd.underlying98
 a53 := Tryd.isAgg98
 z53 := Tryd.sizeOf98
 v53 := Tryd.zeroValue98
 t70 := Tryd.underlying45
 a70 := Tryd.isAgg45
 z70 := Tryd.sizeOf45
 v70 := Tryd.zeroValue45
 t72 := Tryd.underlying48
 a72 := Tryd.isAgg48
 z72 := Tryd.sizeOf48
 v72 := Tryd.zeroValue48
 t75 := Tryd.underlying59
 a75 := Tryd.isAgg59
 z75 := Tryd.sizeOf59
 v75 := Tryd.zeroValue59
 t76 := Tryd.underlying60
 a76 := Tryd.isAgg60
 z76 := Tryd.sizeOf60
 v76 := Tryd.zeroValue60
 t109 := Tryd.underlying107
 a109 := Tryd.isAgg107
 z109 := Tryd.sizeOf107
 v109 := Tryd.zeroValue107
 t127 := Tryd.underlying68
 a127 := Tryd.isAgg68
 z127 := Tryd.sizeOf68
 v127 := Tryd.zeroValue68
 t146 := Tryd.underlying121
 a146 := Tryd.isAgg121
 z146 := Tryd.sizeOf121
 v146 := Tryd.zeroValue121
 t148 := Tryd.underlying125
 a148 := Tryd.isAgg125
 z148 := Tryd.sizeOf125
 v148 := Tryd.zeroValue125
 t164 := Tryd.underlying78
 a164 := Tryd.isAgg78
 z164 := Tryd.sizeOf78
 v164 := Tryd.zeroValue78 }
def Tryd.lays219_ren : Go.Shelf.Ren := ⟨fun | 219 => 50 | 217 => 64 | 225 => 65 | 224 => 66 | 267 => 67 | 266 => 80 | 314 => 81 | n => n, fun | 9 => 9 | 3 => 3 | 4 => 4 | 5 => 5 | 46 => 90 | 146 => 121 | 51 => 120 | n => n, fun | 1 => 0 | n => n⟩
theorem Tryd.lays219 : Go.Proofs.LaysM.n219 Tryd.prog Tryd.lays219_ren := {
 mixed := by kernel_rfl
 f217 := Tryd.func64.trans (congrArg some (by kernel_rfl))
 f219 := Tryd.func50.trans (congrArg some (by kernel_rfl))
 f224 := Tryd.func66.trans (congrArg some (by kernel_rfl))
 f225 := Tryd.func65.trans (congrArg some (by kernel_rfl))
 f266 := Tryd.func80.trans (congrArg some (by kernel_rfl))
 f267 := Tryd.func67.trans (congrArg some (by kernel_rfl))
 f314 := Tryd.func81.trans (congrArg some (by kernel_rfl))
 t3 := Tryd.underlying3
 a3 := Tryd.isAgg3
 z3 := Tryd.sizeOf3
 v3 := Tryd.zeroValue3
 t4 := Tryd.underlying4
 a4 := Tryd.isAgg4
 z4 := Tryd.sizeOf4
 v4 := Tryd.zeroValue4
 t5 := Tryd.underlying5
 a5 := Tryd.isAgg5
 z5 := Tryd.sizeOf5
 v5 := Tryd.zeroValue5
 t9 := Tryd.underlying9
 a9 := Tryd.isAgg9
 z9 := Tryd.sizeOf9
 v9 := Tryd.zeroValue9
 t46 := Tryd.underlying90
 a46 := Tryd.isAgg90
 z46 := Tryd.sizeOf90
 v46 := Tryd.zeroValue90
 t51 := Tryd.underlying120
 a51 := Tryd.isAgg120
 z51 := Tryd.sizeOf120
 v51 := Tryd.zeroValue120
 t146 := Tryd.underlying121
 a146 := Tryd.isAgg121
 z146 := Tryd.sizeOf121
 v146 := Tryd.zeroValue121
 g1 := by kernel_rfl
 i3 := by kernel_rfl
 i4 := by kernel_rfl
 i5 := by kernel_rfl
 i9 := by kernel_rfl
 i46 := by kernel_rfl
 i51 := by kernel_rfl
 i146 := by kernel_rfl
 m1 := by kernel_rfl
 s1_3 := fun w h => Go.Proofs.cell_of_shapedOpen_int (zero := #[.int .i64 0]) (t := 3) h (of_decide_eq_true (by kernel_rfl)) (by kernel_rfl) rfl (by kernel_rfl) (by kernel_rfl) Tryd.underlying3 }
end Go.Proofs
