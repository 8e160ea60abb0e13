/- What is taken from the shelf; what the package variables hold. -/
import Derived.Test.YtnfdhgadidacaaaDoorProg
import Derived.Shelf.Strings.MapAny
import Derived.Shelf.LaysM
import Derived.Shelf.Strings.Repeat
import Derived.Shelf.Strconv.Itoa3
import Derived.WalkKit
import Derived.Lib.Bytealg
import Derived.Laws.Bits64b
import Derived.Shelf.Spec.TrailingZeros
import Derived.Lib.AppendIntMem
import Derived.Lib.LaidU8
import Derived.Lib.LaidTab
import Derived.Lib.LaidIn
import Derived.Deep.DeepHandedRow
import Derived.Deep.DeepWitnessRowRef
import Derived.Test.YtnfdhgadidacaaaDoorSb
import Derived.Test.YtnfdhgadidacaaaDoorSj
section
/-
  DERIVED: THE SHELF's CONTRACTS AT THIS DUMP, IN PLAIN WORDS (tools/lay-plain.mjs out of 'D3LayH.lean', which tools/lay-shelf.mjs wrote): THE SAME DECLARATIONS UNDER THE SAME NAMES: 'import', 'namespace', 'open', 'def', 'theorem' AND NOTHING ELSE: no command of the shelf's: FOR A HAND-IN. Each laying: the table of numbers ('.._ren') and one theorem, a field a fact of the dump's own or the kernel's comparison; each contract: ONE APPLICATION.
-/
namespace Go.Proofs
open Go.Shelf
def Tryd.lays230_ren : Go.Shelf.Ren := ⟨fun | 230 => 73 | 197 => 101 | 118 => 102 | 165 => 82 | 166 => 83 | 168 => 103 | 270 => 104 | 167 => 105 | 169 => 85 | 260 => 124 | 240 => 114 | 241 => 115 | 242 => 125 | 276 => 128 | 277 => 129 | 278 => 133 | n => n, fun | 107 => 83 | 9 => 9 | 72 => 94 | 0 => 0 | 4 => 4 | 3 => 3 | 21 => 21 | 105 => 70 | 76 => 98 | 5 => 5 | 75 => 97 | 70 => 92 | 20 => 20 | 37 => 31 | 127 => 130 | 119 => 145 | 46 => 69 | 139 => 148 | 138 => 147 | 164 => 140 | 51 => 125 | 80 => 58 | n => n, fun | 3 => 3 | 4 => 4 | n => n⟩
theorem Tryd.lays230 : Go.Proofs.Lays.n230 Tryd.prog Tryd.lays230_ren := {
  mixed := by kernel_rfl
  f118 := Tryd.func102.trans (congrArg some (by kernel_rfl))
  f165 := Tryd.func82.trans (congrArg some (by kernel_rfl))
  f166 := Tryd.func83.trans (congrArg some (by kernel_rfl))
  f167 := Tryd.func105.trans (congrArg some (by kernel_rfl))
  f168 := Tryd.func103.trans (congrArg some (by kernel_rfl))
  f169 := Tryd.func85.trans (congrArg some (by kernel_rfl))
  f197 := Tryd.func101.trans (congrArg some (by kernel_rfl))
  f230 := Tryd.func73.trans (congrArg some (by kernel_rfl))
  f240 := Tryd.func114.trans (congrArg some (by kernel_rfl))
  f241 := Tryd.func115.trans (congrArg some (by kernel_rfl))
  f242 := Tryd.func125.trans (congrArg some (by kernel_rfl))
  f260 := Tryd.func124.trans (congrArg some (by kernel_rfl))
  f270 := Tryd.func104.trans (congrArg some (by kernel_rfl))
  f276 := Tryd.func128.trans (congrArg some (by kernel_rfl))
  f277 := Tryd.func129.trans (congrArg some (by kernel_rfl))
  f278 := Tryd.func133.trans (congrArg some (by kernel_rfl))
  t0 := Tryd.underlying0
  a0 := Tryd.isAgg0
  z0 := Tryd.sizeOf0
  v0 := Tryd.zeroValue0
  t3 := Tryd.underlying3
  a3 := Tryd.isAgg3
  z3 := Tryd.sizeOf3
  v3 := Tryd.zeroValue3
  t4 := Tryd.underlying4
  a4 := Tryd.isAgg4
  z4 := Tryd.sizeOf4
  v4 := Tryd.zeroValue4
  t5 := Tryd.underlying5
  a5 := Tryd.isAgg5
  z5 := Tryd.sizeOf5
  v5 := Tryd.zeroValue5
  t9 := Tryd.underlying9
  a9 := Tryd.isAgg9
  z9 := Tryd.sizeOf9
  v9 := Tryd.zeroValue9
  t20 := Tryd.underlying20
  a20 := Tryd.isAgg20
  z20 := Tryd.sizeOf20
  v20 := Tryd.zeroValue20
  t21 := Tryd.underlying21
  a21 := Tryd.isAgg21
  z21 := Tryd.sizeOf21
  v21 := Tryd.zeroValue21
  t37 := Tryd.underlying31
  a37 := Tryd.isAgg31
  z37 := Tryd.sizeOf31
  v37 := Tryd.zeroValue31
  t46 := Tryd.underlying69
  a46 := Tryd.isAgg69
  z46 := Tryd.sizeOf69
  v46 := Tryd.zeroValue69
  t51 := Tryd.underlying125
  a51 := Tryd.isAgg125
  z51 := Tryd.sizeOf125
  v51 := Tryd.zeroValue125
  t70 := Tryd.underlying92
  a70 := Tryd.isAgg92
  z70 := Tryd.sizeOf92
  v70 := Tryd.zeroValue92
  t72 := Tryd.underlying94
  a72 := Tryd.isAgg94
  z72 := Tryd.sizeOf94
  v72 := Tryd.zeroValue94
  t75 := Tryd.underlying97
  a75 := Tryd.isAgg97
  z75 := Tryd.sizeOf97
  v75 := Tryd.zeroValue97
  t76 := Tryd.underlying98
  a76 := Tryd.isAgg98
  z76 := Tryd.sizeOf98
  v76 := Tryd.zeroValue98
  t105 := Tryd.underlying70
  a105 := Tryd.isAgg70
  z105 := Tryd.sizeOf70
  v105 := Tryd.zeroValue70
  t107 := Tryd.underlying83
  a107 := Tryd.isAgg83
  z107 := Tryd.sizeOf83
  v107 := Tryd.zeroValue83
  t119 := Tryd.underlying145
  a119 := Tryd.isAgg145
  z119 := Tryd.sizeOf145
  t127 := Tryd.underlying130
  a127 := Tryd.isAgg130
  z127 := Tryd.sizeOf130
  v127 := Tryd.zeroValue130
  t138 := Tryd.underlying147
  a138 := Tryd.isAgg147
  z138 := Tryd.sizeOf147
  v138 := Tryd.zeroValue147
  t139 := Tryd.underlying148
  a139 := Tryd.isAgg148
  z139 := Tryd.sizeOf148
  v139 := Tryd.zeroValue148
  t164 := Tryd.underlying140
  a164 := Tryd.isAgg140
  z164 := Tryd.sizeOf140
  v164 := Tryd.zeroValue140
  g3 := by kernel_rfl
  g4 := by kernel_rfl }
end Go.Proofs
end

section
/-
  DERIVED: THE SHELF's CONTRACTS AT THIS DUMP, IN PLAIN WORDS (tools/lay-plain.mjs out of 'D4LayH.lean', which tools/lay-shelf.mjs wrote): THE SAME DECLARATIONS UNDER THE SAME NAMES: 'import', 'namespace', 'open', 'def', 'theorem' AND NOTHING ELSE: no command of the shelf's: FOR A HAND-IN. Each laying: the table of numbers ('.._ren') and one theorem, a field a fact of the dump's own or the kernel's comparison; each contract: ONE APPLICATION.
-/
namespace Go.Proofs
open Go.Shelf
def Tryd.lays105_ren : Go.Shelf.Ren := ⟨fun | 105 => 61 | 212 => 80 | 99 => 81 | 165 => 82 | 166 => 83 | 170 => 84 | 169 => 85 | 263 => 111 | 264 => 112 | 206 => 113 | 240 => 114 | 241 => 115 | 276 => 128 | 277 => 129 | n => n, fun | 9 => 9 | 3 => 3 | 4 => 4 | 20 => 20 | 0 => 0 | 46 => 69 | 109 => 90 | 5 => 5 | 72 => 94 | 76 => 98 | 51 => 125 | 146 => 126 | 53 => 64 | 148 => 128 | 70 => 92 | 37 => 31 | 75 => 97 | 127 => 130 | 164 => 140 | 80 => 58 | n => n, fun | n => n⟩
theorem Tryd.lays105 : Go.Proofs.Lays.n105 Tryd.prog Tryd.lays105_ren := {
  mixed := by kernel_rfl
  f99 := Tryd.func81.trans (congrArg some (by kernel_rfl))
  f105 := Tryd.func61.trans (congrArg some (by kernel_rfl))
  f165 := Tryd.func82.trans (congrArg some (by kernel_rfl))
  f166 := Tryd.func83.trans (congrArg some (by kernel_rfl))
  f169 := Tryd.func85.trans (congrArg some (by kernel_rfl))
  f170 := Tryd.func84.trans (congrArg some (by kernel_rfl))
  f206 := Tryd.func113.trans (congrArg some (by kernel_rfl))
  f212 := Tryd.func80.trans (congrArg some (by kernel_rfl))
  f240 := Tryd.func114.trans (congrArg some (by kernel_rfl))
  f241 := Tryd.func115.trans (congrArg some (by kernel_rfl))
  f263 := Tryd.func111.trans (congrArg some (by kernel_rfl))
  f264 := Tryd.func112.trans (congrArg some (by kernel_rfl))
  f276 := Tryd.func128.trans (congrArg some (by kernel_rfl))
  f277 := Tryd.func129.trans (congrArg some (by kernel_rfl))
  t0 := Tryd.underlying0
  a0 := Tryd.isAgg0
  z0 := Tryd.sizeOf0
  v0 := Tryd.zeroValue0
  t3 := Tryd.underlying3
  a3 := Tryd.isAgg3
  z3 := Tryd.sizeOf3
  v3 := Tryd.zeroValue3
  t4 := Tryd.underlying4
  a4 := Tryd.isAgg4
  z4 := Tryd.sizeOf4
  v4 := Tryd.zeroValue4
  t5 := Tryd.underlying5
  a5 := Tryd.isAgg5
  z5 := Tryd.sizeOf5
  v5 := Tryd.zeroValue5
  t9 := Tryd.underlying9
  a9 := Tryd.isAgg9
  z9 := Tryd.sizeOf9
  v9 := Tryd.zeroValue9
  t20 := Tryd.underlying20
  a20 := Tryd.isAgg20
  z20 := Tryd.sizeOf20
  v20 := Tryd.zeroValue20
  t37 := Tryd.underlying31
  a37 := Tryd.isAgg31
  z37 := Tryd.sizeOf31
  v37 := Tryd.zeroValue31
  t46 := Tryd.underlying69
  a46 := Tryd.isAgg69
  z46 := Tryd.sizeOf69
  v46 := Tryd.zeroValue69
  t51 := Tryd.underlying125
  a51 := Tryd.isAgg125
  z51 := Tryd.sizeOf125
  v51 := Tryd.zeroValue125
  t53 := Tryd.underlying64
  a53 := Tryd.isAgg64
  z53 := Tryd.sizeOf64
  v53 := Tryd.zeroValue64
  t70 := Tryd.underlying92
  a70 := Tryd.isAgg92
  z70 := Tryd.sizeOf92
  v70 := Tryd.zeroValue92
  t72 := Tryd.underlying94
  a72 := Tryd.isAgg94
  z72 := Tryd.sizeOf94
  v72 := Tryd.zeroValue94
  t75 := Tryd.underlying97
  a75 := Tryd.isAgg97
  z75 := Tryd.sizeOf97
  v75 := Tryd.zeroValue97
  t76 := Tryd.underlying98
  a76 := Tryd.isAgg98
  z76 := Tryd.sizeOf98
  v76 := Tryd.zeroValue98
  t109 := Tryd.underlying90
  a109 := Tryd.isAgg90
  z109 := Tryd.sizeOf90
  v109 := Tryd.zeroValue90
  t127 := Tryd.underlying130
  a127 := Tryd.isAgg130
  z127 := Tryd.sizeOf130
  v127 := Tryd.zeroValue130
  t146 := Tryd.underlying126
  a146 := Tryd.isAgg126
  z146 := Tryd.sizeOf126
  v146 := Tryd.zeroValue126
  t148 := Tryd.underlying128
  a148 := Tryd.isAgg128
  z148 := Tryd.sizeOf128
  v148 := Tryd.zeroValue128
  t164 := Tryd.underlying140
  a164 := Tryd.isAgg140
  z164 := Tryd.sizeOf140
  v164 := Tryd.zeroValue140 }
def Tryd.lays283_ren : Go.Shelf.Ren := ⟨fun | 283 => 92 | n => n, fun | 3 => 3 | 9 => 9 | 4 => 4 | n => n, fun | n => n⟩
theorem Tryd.lays283 : Go.Proofs.Lays.n283 Tryd.prog Tryd.lays283_ren := {
  mixed := by kernel_rfl
  f283 := Tryd.func92.trans (congrArg some (by kernel_rfl))
  t3 := Tryd.underlying3
  a3 := Tryd.isAgg3
  z3 := Tryd.sizeOf3
  v3 := Tryd.zeroValue3
  t4 := Tryd.underlying4
  a4 := Tryd.isAgg4
  z4 := Tryd.sizeOf4
  v4 := Tryd.zeroValue4
  t9 := Tryd.underlying9
  a9 := Tryd.isAgg9
  z9 := Tryd.sizeOf9
  v9 := Tryd.zeroValue9 }
def Tryd.lays284_ren : Go.Shelf.Ren := ⟨fun | 284 => 93 | 129 => 120 | 317 => 119 | 318 => 121 | n => n, fun | 53 => 64 | 3 => 3 | 212 => 135 | 0 => 0 | 4 => 4 | 46 => 69 | 5 => 5 | 9 => 9 | n => n, fun | 17 => 2 | n => n⟩
theorem Tryd.lays284 : Go.Proofs.LaysM.n284 Tryd.prog Tryd.lays284_ren := {
  mixed := by kernel_rfl
  f129 := Tryd.func120.trans (congrArg some (by kernel_rfl))
  f284 := Tryd.func93.trans (congrArg some (by kernel_rfl))
  f317 := Tryd.func119.trans (congrArg some (by kernel_rfl))
  f318 := Tryd.func121.trans (congrArg some (by kernel_rfl))
  t0 := Tryd.underlying0
  a0 := Tryd.isAgg0
  z0 := Tryd.sizeOf0
  v0 := Tryd.zeroValue0
  t3 := Tryd.underlying3
  a3 := Tryd.isAgg3
  z3 := Tryd.sizeOf3
  v3 := Tryd.zeroValue3
  t4 := Tryd.underlying4
  a4 := Tryd.isAgg4
  z4 := Tryd.sizeOf4
  v4 := Tryd.zeroValue4
  t5 := Tryd.underlying5
  a5 := Tryd.isAgg5
  z5 := Tryd.sizeOf5
  v5 := Tryd.zeroValue5
  t9 := Tryd.underlying9
  a9 := Tryd.isAgg9
  z9 := Tryd.sizeOf9
  v9 := Tryd.zeroValue9
  t46 := Tryd.underlying69
  a46 := Tryd.isAgg69
  z46 := Tryd.sizeOf69
  v46 := Tryd.zeroValue69
  t53 := Tryd.underlying64
  a53 := Tryd.isAgg64
  z53 := Tryd.sizeOf64
  v53 := Tryd.zeroValue64
  t212 := Tryd.underlying135
  a212 := Tryd.isAgg135
  z212 := Tryd.sizeOf135
  v212 := Tryd.zeroValue135
  g17 := by kernel_rfl
  i0 := by kernel_rfl
  i3 := by kernel_rfl
  i4 := by kernel_rfl
  i5 := by kernel_rfl
  i9 := by kernel_rfl
  i46 := by kernel_rfl
  i53 := by kernel_rfl
  i212 := by kernel_rfl
  m17 := by kernel_rfl }
def Tryd.lays285_ren : Go.Shelf.Ren := ⟨fun | 285 => 94 | n => n, fun | 37 => 31 | 53 => 64 | 3 => 3 | 4 => 4 | 51 => 125 | 9 => 9 | 5 => 5 | 0 => 0 | n => n, fun | n => n⟩
theorem Tryd.lays285 : Go.Proofs.Lays.n285 Tryd.prog Tryd.lays285_ren := {
  mixed := by kernel_rfl
  f285 := Tryd.func94.trans (congrArg some (by kernel_rfl))
  t0 := Tryd.underlying0
  a0 := Tryd.isAgg0
  z0 := Tryd.sizeOf0
  v0 := Tryd.zeroValue0
  t3 := Tryd.underlying3
  a3 := Tryd.isAgg3
  z3 := Tryd.sizeOf3
  v3 := Tryd.zeroValue3
  t4 := Tryd.underlying4
  a4 := Tryd.isAgg4
  z4 := Tryd.sizeOf4
  v4 := Tryd.zeroValue4
  t5 := Tryd.underlying5
  a5 := Tryd.isAgg5
  z5 := Tryd.sizeOf5
  v5 := Tryd.zeroValue5
  t9 := Tryd.underlying9
  a9 := Tryd.isAgg9
  z9 := Tryd.sizeOf9
  v9 := Tryd.zeroValue9
  t37 := Tryd.underlying31
  a37 := Tryd.isAgg31
  z37 := Tryd.sizeOf31
  v37 := Tryd.zeroValue31
  t51 := Tryd.underlying125
  a51 := Tryd.isAgg125
  z51 := Tryd.sizeOf125
  v51 := Tryd.zeroValue125
  t53 := Tryd.underlying64
  a53 := Tryd.isAgg64
  z53 := Tryd.sizeOf64
  v53 := Tryd.zeroValue64 }
end Go.Proofs
end

section
/- What is taken from the library's contracts: strings' search for a byte, TrailingZeros64, Repeat, FormatUint. -/
namespace Go.Lift.D4
open Go.Proofs Go.RowKit
set_option maxRecDepth 100000
set_option maxHeartbeats 4000000
set_option linter.unusedSimpArgs false
set_option linter.unusedVariables false

theorem walk106 (s : ByteArray) (c : Int) (w : World) :
    Calls Tryd.prog 106 #[.string s, .int .u8 c] w fun e w' => e = .returned (.int .i64 (Go.Lib.indexByte s.data.toList c.toNat.toUInt8)) ∧ w' = w := by
  go_enter Tryd.func106, Tryd.ntmps106
  go_wp2
  rw [run_callFunc_extern Tryd.func126 (by kernel_rfl) (by kernel_rfl) (by kernel_rfl) (e := Extern.BytealgIndexByte.indexByte) (by kernel_rfl), Go.Lib.run_indexByteString]
  simp only [Result.andThen]
  rw [Oper.upon_value]
  go_wp2
  go_ret
  exact ⟨rfl, rfl⟩
theorem walk86_core (x k idx : Nat) (w : World) (hx0 : ((x : Int) == 0) = false)
    (key : IntKind.u64.wrap (bits BinOp.and IntKind.u64 (x : Int) (IntKind.u64.wrap (-(x : Int))) * 285870213051353865) / 288230376151711744 = (idx : Int))
    (hi : idx < 64) (hk : k < 64) (hcell : w.cell? ⟨1, idx, none⟩ = some (.int .u8 k)) :
    Calls Tryd.prog 86 #[.int .u64 x] w fun e w' => e = .returned (.int .i64 k) ∧ w' = w := by
  go_enter Tryd.func86, Tryd.ntmps86
  go_wp2_with (simp only [key])
  go_ret
  exact ⟨rfl, rfl⟩
theorem walk86_zero (w : World) : Calls Tryd.prog 86 #[.int .u64 0] w fun e w' => e = .returned (.int .i64 64) ∧ w' = w := by
  go_enter Tryd.func86, Tryd.ntmps86
  go_wp2
  go_ret
  exact ⟨rfl, rfl⟩
theorem walk86 (x : Nat) (hx : x < 18446744073709551616) (w : World) (hT : ∀ j, j < 64 → w.cell? ⟨1, j, none⟩ = some (.int .u8 ((Go.Lib.deBruijn64tab.getD j 0 : Nat) : Int))) :
    Calls Tryd.prog 86 #[.int .u64 x] w fun e w' => e = .returned (.int .i64 (Go.Lib.ctz 64 x)) ∧ w' = w := by
  by_cases hx0 : x = 0
  · subst hx0
    exact walk86_zero w
  · obtain ⟨hlow, hk⟩ := Go.Lib.lowest_bit 64 x hx0 hx
    obtain ⟨hi, htab⟩ := Go.Lib.deBruijn64_at _ hk
    have hcell := hT _ hi
    rw [htab] at hcell
    exact walk86_core x _ _ w (by simp; omega) (tz64_key x _ hx hx0 hlow) hi hk hcell
theorem walk93 (u : Nat) (h1 : 1 ≤ u) (h2 : u < 18446744073709551616) (w : World) (hc : ∀ q : Nat, q < 20 → w.cell? ⟨2, q, none⟩ = some (.int .u64 ((10 ^ q : Nat) : Int))) :
    Calls Tryd.prog 93 #[.int .u64 u] w fun e w' => e = .returned (.int .i64 (Go.Lib.nDigits u)) ∧ w' = w := by
  obtain ⟨hnd, h19⟩ := Go.Lib.numDigits_eq u h1 h2
  have hL : Go.Lib.bitLen u ≤ 64 := Go.Lib.bitLen_le u 64 (Nat.le_refl _) h2
  have hcell := hc (Go.Lib.l10 (Go.Lib.bitLen u)) (by omega)
  have hto : ((u : Int)).toNat = u := by omega
  generalize hq : Go.Lib.l10 (Go.Lib.bitLen u) = q at hnd h19 hcell
  generalize hT : 10 ^ q = T at hnd hcell
  have h20 : q < 20 := by omega
  have Hnd := Go.Lib.hid hnd
  clear hnd hc
  go_enter Tryd.func93, Tryd.ntmps93
  go_wp2_with (first
    | (go_at_call 120; refine (Any.bits_Len64 (P := Tryd.prog) (ρ := Tryd.lays284_ren) { Tryd.lays284 with } _ _ (by omega) (by omega)).mono ?_; rintro e w' ⟨rfl, rfl⟩)
    | (go_at_call 119; refine (Any.internal_strconv_log10Pow2 (P := Tryd.prog) (ρ := Tryd.lays284_ren) { Tryd.lays284 with } _ (by first | exact hL | (rw [hto]; exact hL)) _).mono ?_; rintro e w' ⟨rfl, rfl⟩)
    | (go_at_call 121; refine (Any.internal_strconv_bool2_int (P := Tryd.prog) (ρ := Tryd.lays284_ren) { Tryd.lays284 with } _ _).mono ?_; rintro e w' ⟨rfl, rfl⟩))
  all_goals go_ret
  all_goals (
    refine ⟨?_, rfl⟩
    have hnd := Hnd.out
    congr 2
    split at hnd <;> simp_all <;> omega)
open Go.Sort Go.Lib in
theorem walk68 (u : Nat) (hu64 : u < 18446744073709551616) (w : World) (hc : ∀ q : Nat, q < 20 → w.cell? ⟨2, q, none⟩ = some (.int .u64 ((10 ^ q : Nat) : Int))) :
    Calls Tryd.prog 68 #[.int .u64 u, .int .i64 10] w fun e w' => e = .returned (.string ⟨(Go.Lib.decDigits u).toArray⟩) ∧ Below w.heap.size w w' := by
  by_cases hs : u < 100
  · go_enter Tryd.func68, Tryd.ntmps68
    go_wp2_with (go_at_call 92; refine (Any.internal_strconv_small (P := Tryd.prog) (ρ := Tryd.lays283_ren) { Tryd.lays283 with } u hs _).mono ?_; rintro e w' ⟨rfl, rfl⟩)
    go_ret
    exact ⟨rfl, Below.refl _ _⟩
  · have hu1 : 1 ≤ u := by omega
    have hnd20 : Go.Lib.nDigits u ≤ 20 := by have := Go.Lib.numDigits_eq u hu1 hu64; split at this <;> omega
    have hb3 : Go.Lib.nDigits u ≤ 23 := by omega
    have hal : Tryd.prog.arrayLen 113 = 24 := by simp [Program.arrayLen, Tryd.underlying113]
    have hsl : ∀ W, (Instr.sliceAt 113 (.pointer (some ⟨w.heap.size, 0, none⟩)) none (some (.int .i64 (Go.Lib.nDigits u : Int))) none).run Tryd.prog W = .ok (.slice (some ⟨w.heap.size, 0, none⟩) (Go.Lib.nDigits u) 24) W := fun W => by
      rw [run_sliceAt_array_h W 113 ⟨w.heap.size, 0, none⟩ (by simp [Program.arrayLen, Program.elem, Tryd.underlying113]) .i64 (Go.Lib.nDigits u : Int) (by omega) (by rw [hal]; omega)]
      go_simp
    have hH0 := Go.Lib.holds_zero0 w 113 (Go.Lib.nDigits u) (by omega)
    have hfmt := Any.internal_strconv_formatBase10 (P := Tryd.prog) (ρ := Tryd.lays285_ren) { Tryd.lays285 with } w.heap.size 0 24 u (Array.replicate (Go.Lib.nDigits u) 0) (w.alloc (.cells Go.Lib.zeros24 113)) hH0 (by rw [Array.size_replicate]; exact Go.Lib.lt_pow_nDigits u) hu64 (by rw [Array.size_replicate]; omega)
    rw [Array.size_replicate] at hfmt
    have HH0 := Go.Lib.hid hH0
    clear hH0 hal
    have hc1 : ∀ q : Nat, q < 20 → (w.alloc (.cells Go.Lib.zeros24 113)).cell? ⟨2, q, none⟩ = some (.int .u64 ((10 ^ q : Nat) : Int)) := fun q hq => by
      rw [World.cell?_alloc_old _ _ _ (Nat.ne_of_lt (World.block_lt_of_cell? _ _ (hc q hq)))]; exact hc q hq
    have HC := Go.Lib.hid hc1
    clear hc hc1
    go_enter Tryd.func68, Tryd.ntmps68
    go_wp2_with (first
      | (go_at_call 93; refine (walk93 u hu1 hu64 _ HC.out).mono ?_; rintro e w' ⟨rfl, rfl⟩))
    go_at_call 94
    refine hfmt.mono ?_
    rintro e w' ⟨rfl, k, v', dk, rfl, hF⟩
    have hcv : (convert 31 9 (.slice (some ⟨w.heap.size, 0, none⟩) (Go.Lib.nDigits u) 24)).run Tryd.prog ((putRow (fun (b : UInt8) => Value.int .u8 (b.toNat : Int)) (w.alloc (.cells Go.Lib.zeros24 113)) w.heap.size 0 dk).drewN k) = .ok (.string ⟨(Go.Lib.decDigits u).toArray⟩) ((putRow (fun (b : UInt8) => Value.int .u8 (b.toNat : Int)) (w.alloc (.cells Go.Lib.zeros24 113)) w.heap.size 0 dk).drewN k) := by
      have h := run_convert_bytes_back (P := Tryd.prog) ((putRow (fun (b : UInt8) => Value.int .u8 (b.toNat : Int)) (w.alloc (.cells Go.Lib.zeros24 113)) w.heap.size 0 dk).drewN k) 31 9 5 ⟨w.heap.size, 0, none⟩ 24 (Go.Lib.decDigits u) Tryd.underlying31 Tryd.underlying5 Tryd.underlying9 (fun j hj => by
        rw [Go.Lib.row_is_numeral hF j hj, Go.Lib.add_plain, World.cell?_drewN]
        exact cell?_putRow (fun (b : UInt8) => Value.int .u8 (b.toNat : Int)) _ w.heap.size 0 _ dk HH0.out (by rw [hF.size, Array.size_replicate]) j (by rw [hF.size]; rw [Go.Lib.decDigits_length] at hj; exact hj))
      rw [Go.Lib.decDigits_length] at h
      exact h
    go_wp2
    go_ret
    refine ⟨rfl, ?_⟩
    obtain ⟨os, eo⟩ := Go.Lib.fin_at w (.cells Go.Lib.zeros24 113) dk k 0
    rw [eo]
    exact Go.Lib.below_grow _ _ (Nat.le_refl _) _ _
/-- at most new blocks: all that was said stays -/
theorem quiet_ok {m : List Nat} {c : Cl} {w w' : World} {h : Heap} {lo : Nat} (hH : HOK m c w h) (hb : Below w.heap.size w w') :
    HOK m c w' h ∧ Fr lo (hoOf m w h lo) w m c w' m c ∧ Owned lo (hoOf m w h lo) w m w' [] h act0 := by
  obtain ⟨hC, hold⟩ := hH
  have hcell : ∀ b o, b < w.heap.size → w'.cell? ⟨b, o, none⟩ = w.cell? ⟨b, o, none⟩ := fun b o hl => cell_of_heap (hb.block b hl) o
  have hce : ∀ b, 0 < c b → b < w.heap.size := fun b h0 => by
    rcases Nat.lt_or_ge b w.heap.size with hl | hl
    · exact hl
    · rw [hC.c_zero hl] at h0; omega
  have he : Ext c w c w' := ⟨fun _ => Nat.le_refl _, fun b o ho => hcell b o (hce b (by omega))⟩
  have hm : ∀ {i b}, m[i]? = some b → w'.heap[b]? = w.heap[b]? ∧ c b = c b := fun {i b} hi => ⟨hb.block b (hC.m_lt hi), rfl⟩
  have hAt : ∀ {l r x}, At m w' [] h act0 l r x → At m w [] h act0 l r x := fun {l r x} hl => by
    cases l with
    | slot t => exact hl
    | cell i j =>
      obtain ⟨cs, b, h1, h2, h3, h4⟩ := hl
      exact ⟨cs, b, h1, h2, h3, by rw [← cell_of_heap (hm h3).1]; exact h4⟩
  have hAt' : ∀ {l r x}, At m w [] h act0 l r x → At m w' [] h act0 l r x := fun {l r x} hl => by
    cases l with
    | slot t => exact hl
    | cell i j =>
      obtain ⟨cs, b, h1, h2, h3, h4⟩ := hl
      exact ⟨cs, b, h1, h2, h3, by rw [cell_of_heap (hm h3).1]; exact h4⟩
  refine ⟨⟨⟨fun b h0 => ?_, hC.wf2, hC.nd, hC.len, fun t => (hC.env t).mono (Pre.refl m) he, fun i o b ho hbm => (hC.ob i o b ho hbm).keep (hm hbm).1 (Pre.refl m) he, fun l r x hl => ?_,
      fun l l' r r' x x' b h1 h2 => hC.uniq l l' r r' x x' b (hAt h1) (hAt h2), hC.tagS, fun t i j r ht => hAt' (hC.tagC t i j r ht), fun n cs hg => (hC.gt n cs hg).mono he⟩, hold⟩,
    ⟨hb.os, hb.tape, hb.output, hb.size, Pre.refl m, fun i b hi hbm => ?_, he, fun b hl _ _ => ⟨hb.block b hl, rfl⟩⟩, fun l r x b hl hu hbx => ?_⟩
  · rw [hb.block b (hce b h0)]
    exact hC.wf1 b h0
  · refine (hC.own l r x (hAt hl)).keep fun b hbx => ?_
    exact ⟨hb.block b ((hC.own l r x (hAt hl)).lt hbx).1, rfl, id⟩
  · have := (List.getElem?_eq_some_iff.1 hbm).1
    omega
  · right
    cases l with
    | slot t => exact absurd hl.1 (by simp [look])
    | cell i j => exact ⟨i, j, r, x, hu, hAt hl, hbx⟩

theorem extra105 : Builder.Extra Tryd.prog Tryd.lays105_ren where
  sizeBuilder := by kernel_rfl
  liesBuilder := by kernel_rfl
  t5 := by kernel_rfl
  a5 := Tryd.lays105.a5
  z5 := Tryd.lays105.z5
  v5 := Tryd.lays105.v5
  infoByte := by kernel_rfl
  cellsByte := by kernel_rfl
  sizeByte := by kernel_rfl
  neB5 := by decide
theorem walk51 (u : Nat) (hu64 : u < 18446744073709551616) (w : World) (hc : ∀ q : Nat, q < 20 → w.cell? ⟨2, q, none⟩ = some (.int .u64 ((10 ^ q : Nat) : Int))) :
    Calls Tryd.prog 51 #[.int .u64 u, .int .i64 10] w fun e w' => e = .returned (.string ⟨(Go.Lib.decDigits u).toArray⟩) ∧ Below w.heap.size w w' := by
  have h := walk68 u hu64 w hc
  clear hc
  go_enter Tryd.func51, Tryd.ntmps51
  go_wp2_with (go_at_call 68; refine h.mono ?_; rintro e w' ⟨rfl, hb⟩)
  go_ret
  exact ⟨rfl, hb⟩
/-- a call that makes at most new blocks, and answers plain data -/
theorem prim_quiet {f lo : Nat} {args : List V} {h : Heap} {x : Value} (he : ∀ xs w, (callFunc f xs).run Tryd.prog w = .ok (.enter f xs) w)
    (hx : ∀ m c w (xs : Array Value), HOK m c w h → R2 (VRr m c w) args xs.toList → Calls Tryd.prog f xs w fun e w' => e = .returned x ∧ Below w.heap.size w w') :
    CallOK Tryd.prog lo f args h (.v x) h :=
  ⟨rfl, he, fun m c w xs hH ha => ⟨⟨rfl, rfl⟩, (hx m c w xs hH ha).mono fun e w' ⟨h1, hb⟩ => by
    obtain ⟨q1, q2, q3⟩ := quiet_ok (lo := lo) hH hb
    exact ⟨_, c, h1, rfl, q1, q2, q3⟩⟩⟩
theorem one_arg {m : List Nat} {c : Cl} {w : World} {a : Value} {xs : Array Value} (h : R2 (VRr m c w) [.v a] xs.toList) : xs = #[a] := by
  obtain ⟨l⟩ := xs
  match l, h.1 with
  | [x], _ =>
    have h0 : x = a := h.2 0 _ _ rfl rfl
    rw [h0]
theorem two_args {m : List Nat} {c : Cl} {w : World} {a b : Value} {xs : Array Value} (h : R2 (VRr m c w) [.v a, .v b] xs.toList) : xs = #[a, b] := by
  obtain ⟨l⟩ := xs
  match l, h.1 with
  | [x, y], _ =>
    have h0 : x = a := h.2 0 _ _ rfl rfl
    have h1 : y = b := h.2 1 _ _ rfl rfl
    rw [h0, h1]
theorem tab1 : GTab.tab 1 = some (Go.Lib.deBruijn64tab.map fun c : Nat => V.v (.int .u8 (c : Int))) := rfl
theorem tab2 : GTab.tab 2 = some (Go.Lib.pow10Tab.map fun c => V.v (.int .u64 c)) := rfl
theorem cell_of {c : Cl} {w : World} {n : Nat} {cs : List V} (hg : ROs c w ⟨n, 0, none⟩ cs) {j : Nat} {x : Value} (hj : cs[j]? = some (.v x)) : w.cell? ⟨n, j, none⟩ = some x := by
  obtain ⟨_, h⟩ := hg
  obtain ⟨y, hy, hv⟩ := h j _ hj
  rw [Nat.zero_add] at hy
  rw [hy, VP.v_eq hv]
theorem bruijn {m : List Nat} {c : Cl} {w : World} {h : Heap} (hH : HOK m c w h) : ∀ j, j < 64 → w.cell? ⟨1, j, none⟩ = some (.int .u8 ((Go.Lib.deBruijn64tab.getD j 0 : Nat) : Int)) := fun j hj => by
  refine cell_of (hH.1.gt 1 _ tab1) ?_
  have hl : j < Go.Lib.deBruijn64tab.length := by simpa [Go.Lib.deBruijn64tab] using hj
  rw [List.getElem?_map, List.getElem?_eq_getElem hl]
  simp [List.getD, List.getElem?_eq_getElem hl]
theorem tens {m : List Nat} {c : Cl} {w : World} {h : Heap} (hH : HOK m c w h) : ∀ q : Nat, q < 20 → w.cell? ⟨2, q, none⟩ = some (.int .u64 ((10 ^ q : Nat) : Int)) := fun q hq => by
  refine cell_of (hH.1.gt 2 _ tab2) ?_
  have hl : q < Go.Lib.pow10Tab.length := by rw [Go.Lib.pow10Tab_length]; exact hq
  rw [List.getElem?_map, List.getElem?_eq_getElem hl]
  have := Go.Lib.pow10Tab_at q hq
  rw [List.getD, List.getElem?_eq_getElem hl] at this
  simp only [Option.getD_some] at this
  rw [this]; rfl

/-- WHAT IS TAKEN FROM THE LIBRARY'S CONTRACTS SAYS THE TRUTH -/
theorem prim_ok : ∀ f p, primz f = some p → ∀ lo args h r h', lo ≤ h.length → p lo args h = some (r, h') → CallOK Tryd.prog lo f args h r h' := by
  intro f p hp lo args h r h' hlo he
  unfold primz at hp
  split at hp
  · cases hp
    unfold idxP at he
    split at he
    · rename_i s c
      cases he
      exact prim_quiet (enters_of Tryd.func106 (by kernel_rfl) rfl) fun m c' w xs hH ha => by
        rw [two_args ha]
        exact (walk106 s c w).mono fun e w' ⟨h1, h2⟩ => ⟨h1, h2 ▸ Below.refl _ _⟩
    · cases he
  · cases hp
    unfold ctzP at he
    split at he
    · rename_i x
      split at he
      · rename_i hx
        cases he
        obtain ⟨u, rfl⟩ : ∃ u : Nat, x = u := ⟨x.toNat, by omega⟩
        exact prim_quiet (enters_of Tryd.func86 (by kernel_rfl) rfl) fun m c' w xs hH ha => by
          rw [one_arg ha]
          exact (walk86 u (by omega) w (bruijn hH)).mono fun e w' ⟨h1, h2⟩ => ⟨h1, h2 ▸ Below.refl _ _⟩
      · cases he
    · cases he
  · cases hp
    unfold repP at he
    split at he
    · rename_i s n
      split at he
      · rename_i hx
        cases he
        obtain ⟨u, rfl⟩ : ∃ u : Nat, n = u := ⟨n.toNat, by omega⟩
        exact prim_quiet (enters_of Tryd.func61 (by kernel_rfl) rfl) fun m c' w xs hH ha => by
          rw [two_args ha]
          exact Any.strings_Repeat Tryd.lays105 extra105 s u w (by omega) (by rw [hx.1]; omega)
      · cases he
    · cases he
  · cases hp
    unfold fmtP at he
    split at he
    · rename_i x b
      split at he
      · rename_i hx
        cases he
        obtain ⟨u, rfl⟩ : ∃ u : Nat, x = u := ⟨x.toNat, by omega⟩
        obtain rfl := hx.1
        exact prim_quiet (enters_of Tryd.func51 (by kernel_rfl) rfl) fun m c' w xs hH ha => by
          rw [two_args ha]
          exact walk51 u (by omega) w (tens hH)
      · cases he
    · cases he
  · cases hp
end Go.Lift.D4
end

section
/- What the claims of this seat share: the readings of their arguments. -/
namespace Go.Proofs.YtnfdhgadidacaaaDoor
set_option linter.unusedVariables false
set_option linter.unusedSimpArgs false
open Go.Lift Go.Lift.D4 Go.ChangeShapes Go.WideShapes Go.ChangeAt Go.RowKit
set_option maxRecDepth 100000

theorem isBulk (H : Type) : IsBulk (H := H) Rows.uptoBulk Rows.uptoBulkAll :=
  ⟨rfl, fun _ _ => rfl, fun _ => rfl, fun _ => rfl, fun _ _ => rfl, rfl, fun e s => by show Rows.uptoBulkAll e + 1 ≤ Rows.uptoBulkAll e + Rows.uptoBulkAll s + 1; omega, fun _ => rfl⟩
theorem own : ownKnob Tryd.prog.godebug = none := by kernel_rfl
theorem laidOut : laidOutB Tryd.prog = true := by kernel_rfl
theorem follows : Tryd.prog.follows .mixedOrders = true := by kernel_rfl

/-- a row of numbers -/
theorem tyRow {t e : TypeId} {k : IntKind} (ht : Tryd.prog.underlying t = some (.slice e)) (hk : Tryd.prog.underlying e = some (.int k)) {v : V} (h : TyV Tryd.prog t v) :
    ∃ l : List Int, v = .list .no (ri k l) ∧ ∀ c ∈ l, (Lit.int k c).wf = true := by
  unfold TyV at h
  rw [ht] at h
  simp only at h
  cases h with
  | slice rows hu hr =>
    rw [ht] at hu
    cases hu
    have each : ∀ rows : List (List V), (∀ row ∈ rows, Ty Tryd.prog e row) → ∃ l : List Int, rows = ri k l ∧ ∀ c ∈ l, (Lit.int k c).wf = true := by
      intro rows
      induction rows with
      | nil => intro _; exact ⟨[], rfl, fun _ hc => by cases hc⟩
      | cons r rs ih =>
        intro h
        obtain ⟨l, rfl, hl⟩ := ih fun row hm => h row (List.mem_cons_of_mem _ hm)
        have h0 := h r (List.mem_cons_self ..)
        cases h0 with
        | int k' n hk' hw =>
          rw [hk] at hk'
          cases hk'
          refine ⟨n :: l, rfl, fun c hc => ?_⟩
          rcases List.mem_cons.mp hc with rfl | hc
          · exact hw
          · exact hl c hc
        | bool b hk' => rw [hk] at hk'; cases hk'
        | string s hk' => rw [hk] at hk'; cases hk'
        | slice rows hk' _ => rw [hk] at hk'; cases hk'
        | struct fs cells hk' _ => rw [hk] at hk'; cases hk'
    obtain ⟨l, rfl, hl⟩ := each rows hr
    exact ⟨l, rfl, hl⟩
  | struct fs cells hu _ => rw [ht] at hu; cases hu
  | bool b hu => rw [ht] at hu; cases hu
  | int k n hu _ => rw [ht] at hu; cases hu
  | string s hu => rw [ht] at hu; cases hu

theorem ty22 {v : V} (h : TyV Tryd.prog 22 v) : ∃ l : List Int, v = .list .no (ri .i32 l) ∧ ∀ c ∈ l, -2147483648 ≤ c ∧ c ≤ 2147483647 := by
  obtain ⟨l, h1, h2⟩ := tyRow Tryd.underlying22 Tryd.underlying21 h
  refine ⟨l, h1, fun c hc => ?_⟩
  have := h2 c hc
  simp [Lit.wf, IntKind.min, IntKind.max, IntKind.signed, IntKind.bits] at this
  omega
theorem ty31 {v : V} (h : TyV Tryd.prog 31 v) : ∃ l : List Int, v = .list .no (ri .u8 l) ∧ ∀ c ∈ l, 0 ≤ c ∧ c ≤ 255 := by
  obtain ⟨l, h1, h2⟩ := tyRow Tryd.underlying31 Tryd.underlying5 h
  refine ⟨l, h1, fun c hc => ?_⟩
  have := h2 c hc
  simp [Lit.wf, IntKind.min, IntKind.max, IntKind.signed, IntKind.bits] at this
  omega

theorem rows_len (k : IntKind) (l : List Int) : l.length ≤ vsRows (ri k l) := by
  induction l with
  | nil => simp
  | cons n l ih => simp only [ri_cons, vsRows, vsRow, vsize, List.length_cons]; omega
theorem sizes1 {k : IntKind} {l : List Int} {vs : List V} {n : Nat} (h : asizes (.list .no (ri k l) :: vs) ≤ n) : l.length ≤ n ∧ asizes vs ≤ n := by
  have := rows_len k l
  simp only [asizes, asize, vsize] at h
  omega

/-! ### What the package variables hold -/
theorem ros_of {w : World} {g : Nat} {cs : List V} (h : ∀ (j : Nat) v, cs[j]? = some v → ∃ x, w.cell? ⟨g, j, none⟩ = some x ∧ VP (wholeCl w) w v x) : ROs (wholeCl w) w ⟨g, 0, none⟩ cs := by
  refine ⟨?_, fun j v hj => by simpa using h j v hj⟩
  cases cs with
  | nil => exact Nat.zero_le _
  | cons c t =>
    have hl : (c :: t)[t.length]? = some ((c :: t)[t.length]'(by simp)) := List.getElem?_eq_getElem (by simp)
    obtain ⟨x, hx, _⟩ := h t.length _ hl
    unfold World.cell? at hx
    unfold wholeCl
    simp only at hx ⊢
    split at hx
    · rename_i arr e f he
      rw [he]
      simp only [List.length_cons]
      have := (Array.getElem?_eq_some_iff.1 hx).1
      omega
    · cases hx
theorem first_data : Rows.laid_unicode_utf8_first = Lib.firstData := by kernel_rfl
theorem accept_data : (Rows.laid_unicode_utf8_acceptRanges : DataW Unit) = Lib.acceptData := by kernel_rfl
theorem g3 : Tryd.lays230_ren.g 3 = 3 := rfl
theorem g4 : Tryd.lays230_ren.g 4 = 4 := rfl
theorem tab3 : GTab.tab 3 = some ((List.range 256).map fun c => V.v (.int .u8 (Go.Lib.firstT c))) := rfl
theorem tab4 : GTab.tab 4 = some ((List.range 16).flatMap fun i => [V.v (.int .u8 (Go.Lib.accLo i)), V.v (.int .u8 (Go.Lib.accHi i))]) := rfl
theorem pairs_get {f g : Nat → V} : ∀ (n i : Nat), i < n → ((List.range n).flatMap fun i => [f i, g i])[2 * i]? = some (f i) ∧ ((List.range n).flatMap fun i => [f i, g i])[2 * i + 1]? = some (g i) := by
  intro n
  have hlen : ∀ n, ((List.range n).flatMap fun i => [f i, g i]).length = 2 * n := by
    intro n
    induction n with
    | zero => rfl
    | succ n ih => rw [List.range_succ, List.flatMap_append, List.length_append, ih]; simp; omega
  induction n with
  | zero => intro i hi; omega
  | succ n ih =>
    intro i hi
    rw [List.range_succ, List.flatMap_append]
    by_cases h : i < n
    · obtain ⟨a, b⟩ := ih i h
      rw [List.getElem?_append_left (by rw [hlen]; omega), List.getElem?_append_left (by rw [hlen]; omega)]
      exact ⟨a, b⟩
    · obtain rfl : i = n := by omega
      rw [List.getElem?_append_right (by rw [hlen]; omega), List.getElem?_append_right (by rw [hlen]; omega), hlen]
      have e1 : 2 * i - 2 * i = 0 := by omega
      have e2 : 2 * i + 1 - 2 * i = 1 := by omega
      rw [e1, e2]
      exact ⟨rfl, rfl⟩theorem bruijn_data : (Rows.laid_math_bits_deBruijn64tab : DataW Unit) = Lib.tabData .u8 (Lib.deBruijn64tab.map fun c : Nat => (c : Int)) := by kernel_rfl
theorem pow10_data : (Rows.laid_internal_strconv_uint64pow10 : DataW Unit) = Lib.tabData .u64 Lib.pow10Tab := by kernel_rfl
theorem tab_cells {w : World} {name : String} {k : IntKind} {zs : List Int} {g : Nat} {t e : TypeId} {n : Nat} (hn : Tryd.prog.globalNamed name = some g) (hy : (Tryd.prog.globals[g]?).map (·.type) = some t)
    (ht : Tryd.prog.underlying t = some (.array n e)) (he : Tryd.prog.underlying e = some (.int k)) (hce : Tryd.prog.cellsOf e = 1) (hct : Tryd.prog.cellsOf t = n) (h : Lib.VarReads Tryd.prog w name (Lib.tabData k zs)) :
    ∀ (j : Nat) (z : Int), zs[j]? = some z → w.cell? ⟨g, j, none⟩ = some (.int k z) := fun j z hz => by
  obtain ⟨g', t', cs, fuel, p, h1, h2, h3, h4⟩ := h
  obtain rfl := Option.some.inj (hn.symm.trans h1)
  obtain rfl := Option.some.inj (hy.symm.trans h2)
  have hcs := Lib.cells_of_tab ht he hce hct h4
  have := World.var?_cell hn h3 j
  rw [this, ← Array.getElem?_toList, hcs]
  simp [hz]
/-- from what a row lists to what the evaluation asks -/
theorem gok {W : World} (h0 : Lib.VarReads Tryd.prog W "math/bits.deBruijn64tab" Rows.laid_math_bits_deBruijn64tab) (h1 : Lib.VarReads Tryd.prog W "internal/strconv.uint64pow10" Rows.laid_internal_strconv_uint64pow10)
    (h2 : Lib.VarReads Tryd.prog W "unicode/utf8.first" Rows.laid_unicode_utf8_first)
    (h3 : Lib.VarReads Tryd.prog W "unicode/utf8.acceptRanges" Rows.laid_unicode_utf8_acceptRanges) : GOK W := by
  rw [first_data] at h2
  rw [accept_data] at h3
  rw [bruijn_data] at h0
  rw [pow10_data] at h1
  have c1 := tab_cells (g := 1) (t := 131) (e := 5) (n := 64) (by kernel_rfl) (by kernel_rfl) (by kernel_rfl) (by kernel_rfl) (by kernel_rfl) (by kernel_rfl) h0
  have c2 := tab_cells (g := 2) (t := 135) (e := 64) (n := 20) (by kernel_rfl) (by kernel_rfl) (by kernel_rfl) (by kernel_rfl) (by kernel_rfl) (by kernel_rfl) h1
  have hU : Lib.Utf8Tabs (Tryd.lays230_ren.g 3) (Tryd.lays230_ren.g 4) W :=
    utf8Tabs_of_reads (ρ := Tryd.lays230_ren) { Tryd.lays230 with } ⟨by kernel_rfl, by kernel_rfl, by kernel_rfl, by kernel_rfl, by kernel_rfl, by kernel_rfl, by kernel_rfl⟩ h2 h3
  rw [g3, g4] at hU
  intro n cs hn
  have hc : n = 1 ∨ n = 2 ∨ n = 3 ∨ n = 4 := by
    have : GTab.tab n = gtab.1 n := rfl
    rw [this] at hn
    unfold gtab at hn
    simp only at hn
    split at hn
    · exact .inl rfl
    · exact .inr (.inl rfl)
    · exact .inr (.inr (.inl rfl))
    · exact .inr (.inr (.inr rfl))
    · cases hn
  rcases hc with rfl | rfl | rfl | rfl
  · rw [tab1] at hn
    cases hn
    refine ros_of fun j v hj => ?_
    simp only [List.getElem?_map, Option.map_eq_some_iff] at hj
    obtain ⟨k, hk2, rfl⟩ := hj
    exact ⟨_, c1 j k (by simp [hk2]), .v _ rfl⟩
  · rw [tab2] at hn
    cases hn
    refine ros_of fun j v hj => ?_
    simp only [List.getElem?_map, Option.map_eq_some_iff] at hj
    obtain ⟨k, hk2, rfl⟩ := hj
    exact ⟨_, c2 j k hk2, .v _ rfl⟩
  · rw [tab3] at hn
    cases hn
    refine ros_of fun j v hj => ?_
    simp only [List.getElem?_map, Option.map_eq_some_iff] at hj
    obtain ⟨k, hk2, rfl⟩ := hj
    have hlt : j < 256 := by
      have := (List.getElem?_eq_some_iff.1 hk2).1
      simpa using this
    rw [List.getElem?_range hlt] at hk2
    cases hk2
    exact ⟨_, hU.1 j hlt, .v _ rfl⟩
  · rw [tab4] at hn
    cases hn
    refine ros_of fun j v hj => ?_
    have hjl : j < 32 := by
      rcases Nat.lt_or_ge j 32 with h | h
      · exact h
      · exfalso
        have hl : ((List.range 16).flatMap fun i => [V.v (.int .u8 (Go.Lib.accLo i)), V.v (.int .u8 (Go.Lib.accHi i))]).length = 32 := rfl
        rw [List.getElem?_eq_none (by rw [hl]; exact h)] at hj
        cases hj
    obtain ⟨i, hi, hj2⟩ : ∃ i, i < 16 ∧ (j = 2 * i ∨ j = 2 * i + 1) := ⟨j / 2, by omega, by omega⟩
    obtain ⟨p1, p2⟩ := pairs_get (f := fun i => V.v (.int .u8 (Go.Lib.accLo i))) (g := fun i => V.v (.int .u8 (Go.Lib.accHi i))) 16 i hi
    rcases hj2 with rfl | rfl
    · rw [p1] at hj
      cases hj
      exact ⟨_, (hU.2 i hi).1, .v _ rfl⟩
    · rw [p2] at hj
      cases hj
      exact ⟨_, (hU.2 i hi).2, .v _ rfl⟩

/-- a world for the witness: the variables hold what their initialisers lay -/
noncomputable def laidWorld (os : Os) : World :=
  let w0 := World.holding Tryd.prog os ⟨#[], #[], []⟩
  let put (h : Array Obj) (g : Nat) (cs : Array Value) : Array Obj := h.modify g fun
    | .cells _ t frozen => .cells cs t frozen
    | o => o
  let h1 := put w0.heap 3 (Lib.firstTab.map fun z => Value.int .u8 z).toArray
  let h2 := put h1 4 ((List.range 16).flatMap fun i => [Value.int .u8 (Lib.accLo i), Value.int .u8 (Lib.accHi i)]).toArray
  let h3 := put h2 1 (Lib.deBruijn64tab.map fun z : Nat => Value.int .u8 (z : Int)).toArray
  let h4 := put h3 5 (Lib.deBruijn32tab.map fun z : Nat => Value.int .u8 (z : Int)).toArray
  let h5 := put h4 2 (Lib.pow10Tab.map fun z => Value.int .u64 z).toArray
  { w0 with heap := h5 }
theorem laid5 (os : Os) (args : Array Value) : LaidIn Tryd.prog ((laidWorld os).forCall (fun _ _ => 0) ⟨#[], args, []⟩).memory [("math/bits.deBruijn32tab", Rows.laid_math_bits_deBruijn32tab), ("math/bits.deBruijn64tab", Rows.laid_math_bits_deBruijn64tab), ("internal/strconv.uint64pow10", Rows.laid_internal_strconv_uint64pow10), ("unicode/utf8.acceptRanges", Rows.laid_unicode_utf8_acceptRanges), ("unicode/utf8.first", Rows.laid_unicode_utf8_first)] [5, 1, 2, 4, 3] :=
  LaidIn.of_run [5, 1, 2, 4, 3] 8 (by kernel_rfl) (by kernel_rfl) (by kernel_rfl) (by kernel_rfl)

/-! ### a token, as an argument -/
theorem ty_int {t : TypeId} {k : IntKind} {p : List V} (ht : Tryd.prog.underlying t = some (.int k)) (h : Ty Tryd.prog t p) : ∃ n, p = [.v (.int k n)] ∧ (Lit.int k n).wf = true := by
  cases h with
  | int k' n hu hw => rw [ht] at hu; cases hu; exact ⟨n, rfl, hw⟩
  | bool b hu => rw [ht] at hu; cases hu
  | string s hu => rw [ht] at hu; cases hu
  | slice rows hu _ => rw [ht] at hu; cases hu
  | struct fs cells hu _ => rw [ht] at hu; cases hu
theorem ty_bool {t : TypeId} {p : List V} (ht : Tryd.prog.underlying t = some .bool) (h : Ty Tryd.prog t p) : ∃ b, p = [.v (.bool b)] := by
  cases h with
  | int k' n hu hw => rw [ht] at hu; cases hu
  | bool b hu => exact ⟨b, rfl⟩
  | string s hu => rw [ht] at hu; cases hu
  | slice rows hu _ => rw [ht] at hu; cases hu
  | struct fs cells hu _ => rw [ht] at hu; cases hu
theorem ty_str {t : TypeId} {p : List V} (ht : Tryd.prog.underlying t = some .string) (h : Ty Tryd.prog t p) : ∃ s, p = [.v (.string s)] := by
  cases h with
  | int k' n hu hw => rw [ht] at hu; cases hu
  | bool b hu => rw [ht] at hu; cases hu
  | string s hu => exact ⟨s, rfl⟩
  | slice rows hu _ => rw [ht] at hu; cases hu
  | struct fs cells hu _ => rw [ht] at hu; cases hu
theorem ty_fields {t : TypeId} {fs : Array Field} {p : List V} (ht : Tryd.prog.underlying t = some (.struct fs)) (h : Ty Tryd.prog t p) : TyFs Tryd.prog fs.toList p := by
  cases h with
  | int k' n hu hw => rw [ht] at hu; cases hu
  | bool b hu => rw [ht] at hu; cases hu
  | string s hu => rw [ht] at hu; cases hu
  | slice rows hu _ => rw [ht] at hu; cases hu
  | struct fs' cells hu hf => rw [ht] at hu; cases hu; exact hf
theorem fs_cons {f : Field} {fs : List Field} {p : List V} (h : TyFs Tryd.prog (f :: fs) p) : ∃ a b, p = a ++ b ∧ Ty Tryd.prog f.type a ∧ TyFs Tryd.prog fs b := by
  cases h with
  | cons h1 h2 => exact ⟨_, _, rfl, h1, h2⟩
theorem fs_nil {p : List V} (h : TyFs Tryd.prog [] p) : p = [] := by
  cases h; rfl
theorem wf_i64 {n : Int} (h : (Lit.int .i64 n).wf = true) : -9223372036854775808 ≤ n ∧ n ≤ 9223372036854775807 := by
  simp [Lit.wf, IntKind.min, IntKind.max, IntKind.signed, IntKind.bits] at h
  omega
theorem any_bs (s : ByteArray) : ∃ l : List Int, Utf.By l ∧ s = bs l ∧ l.length = s.size := by
  refine ⟨s.data.toList.map fun c => (c.toNat : Int), ?_, ?_, ?_⟩
  · intro c hc
    obtain ⟨x, _, rfl⟩ := List.mem_map.1 hc
    have := x.toNat_lt
    omega
  · apply ByteArray.ext
    unfold bs u8s
    simp only [List.map_map]
    apply Array.toList_inj.1
    conv => lhs; rw [← List.map_id s.data.toList]
    apply List.map_congr_left
    intro c _
    simp
  · rw [List.length_map, Array.length_toList]; rfl
theorem ty28 {v : V} (h : TyV Tryd.prog 28 v) : ∃ (k n d : Int) (b : List Int) (w i : Bool), v = .agg (tokV k b n d w i) ∧ Utf.By b ∧ (-9223372036854775808 ≤ n ∧ n ≤ 9223372036854775807) ∧ (-9223372036854775808 ≤ d ∧ d ≤ 9223372036854775807) ∧ asize v = b.length + 6 := by
  unfold TyV at h
  rw [Tryd.underlying28] at h
  obtain ⟨cs, rfl, hc⟩ := h
  have h1 := ty_fields Tryd.underlying28 hc
  obtain ⟨p1, q1, rfl, t1, h1⟩ := fs_cons h1
  obtain ⟨p2, q2, rfl, t2, h1⟩ := fs_cons h1
  obtain ⟨p3, q3, rfl, t3, h1⟩ := fs_cons h1
  obtain ⟨p4, q4, rfl, t4, h1⟩ := fs_cons h1
  obtain ⟨p5, q5, rfl, t5, h1⟩ := fs_cons h1
  obtain rfl := fs_nil h1
  obtain ⟨k, rfl, _⟩ := ty_int Tryd.underlying3 t1
  obtain ⟨s, rfl⟩ := ty_str Tryd.underlying9 t2
  have h2 := ty_fields Tryd.underlying26 t3
  obtain ⟨p6, q6, rfl, t6, h2⟩ := fs_cons h2
  obtain ⟨p7, q7, rfl, t7, h2⟩ := fs_cons h2
  obtain rfl := fs_nil h2
  obtain ⟨n, rfl, hn⟩ := ty_int Tryd.underlying2 t6
  obtain ⟨d, rfl, hd⟩ := ty_int Tryd.underlying2 t7
  obtain ⟨w, rfl⟩ := ty_bool Tryd.underlying4 t4
  obtain ⟨i, rfl⟩ := ty_bool Tryd.underlying4 t5
  obtain ⟨b, hb, rfl, hl⟩ := any_bs s
  refine ⟨k, n, d, b, w, i, rfl, hb, wf_i64 hn, wf_i64 hd, ?_⟩
  simp [asize, vsRow, vsize]
  omega
end Go.Proofs.YtnfdhgadidacaaaDoor
end
