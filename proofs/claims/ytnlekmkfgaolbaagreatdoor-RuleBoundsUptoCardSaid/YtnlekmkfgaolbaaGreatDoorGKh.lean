/- What is taken from the library's contracts: strings' search for a byte, TrailingZeros64, Repeat, FormatUint. -/
import Derived.WalkKit
import Derived.Lib.Bytealg
import Derived.Laws.Bits64b
import Derived.Shelf.Spec.TrailingZeros
import Derived.Lib.AppendIntMem
import Derived.Shelf.Strings.BuilderRune
import Derived.Lib.LaidU8
import Derived.Lib.LaidTab
import Derived.Lib.LaidIn
import Derived.Deep.DeepHandedRow
import Derived.Deep.DeepWitnessRowRef
import Derived.Test.YtnlekmkfgaolbaaGreatDoorRows
import Derived.JoinedOf
import Derived.ProofKit
import Derived.Test.YtnlekmkfgaolbaaGreatDoorGLc
import Derived.Test.YtnlekmkfgaolbaaGreatDoorGKa
import Derived.Test.YtnlekmkfgaolbaaGreatDoorGK8Basea
import Derived.Test.YtnlekmkfgaolbaaGreatDoorGKd
import Derived.Test.YtnlekmkfgaolbaaGreatDoorGKg
set_option linter.unusedVariables false
set_option linter.unusedSimpArgs false
set_option linter.unusedSectionVars false
set_option maxRecDepth 100000
set_option maxHeartbeats 4000000
section
namespace Go.Lift.P8
variable [MX]
open Go.Proofs Go.RowKit
open Go.Sort Go.Lib in
theorem quiet_ok {m : List Nat} {c : Cl} {w w' : World} {h : Heap} {lo : Nat} (hH : HOK m c w h) (hb : Below w.heap.size w w') :
  HOK m c w' h /\ Fr lo (hoOf m w h lo) w m c w' m c /\ Owned lo (hoOf m w h lo) w m w' [] h act0 := by
 obtain ⟨hC, hold⟩ := hH
 have hcell : ∀ b o, b < w.heap.size -> w'.cell? ⟨b, o, none⟩ = w.cell? ⟨b, o, none⟩ := fun b o hl => cell_of_heap (hb.block b hl) o
 have hce : ∀ b, 0 < c b -> b < w.heap.size := fun b h0 => by
  rcases Nat.lt_or_ge b w.heap.size with hl | hl
  ·exact hl
  ·rw [hC.c_zero hl] at h0; omega
 have he : Ext c w c w' := ⟨fun _ => Nat.le_refl _, fun b o ho => hcell b o (hce b (by omega)), fun b _ => by
  rcases Nat.lt_or_ge b w.heap.size with hl | hl
  ·exact Shp.same (hb.block b hl)
  ·exact Shp.none hl⟩
 have hm : ∀ {i b}, m[i]? = some b -> w'.heap[b]? = w.heap[b]? /\ c b = c b := fun {i b} hi => ⟨hb.block b (hC.m_lt hi), rfl⟩
 have hAt : ∀ {l r x}, At m w' [] h act0 l r x -> At m w [] h act0 l r x := fun {l r x} hl => by
  cases l with
  | slot t => exact hl
  | cell i j =>
   obtain ⟨cs, b, h1, h2, h3, h4⟩ := hl
   exact ⟨cs, b, h1, h2, h3, by rw [<- cell_of_heap (hm h3).1]; exact h4⟩
 have hAt' : ∀ {l r x}, At m w [] h act0 l r x -> At m w' [] h act0 l r x := fun {l r x} hl => by
  cases l with
  | slot t => exact hl
  | cell i j =>
   obtain ⟨cs, b, h1, h2, h3, h4⟩ := hl
   exact ⟨cs, b, h1, h2, h3, by rw [cell_of_heap (hm h3).1]; exact h4⟩
 refine ⟨⟨⟨fun b h0 => ?_, hC.wf2, hC.nd, hC.len, fun t => (hC.env t).mono (Pre.refl m) he, fun i o b ho hbm => (hC.ob i o b ho hbm).keep (hm hbm).1 (Pre.refl m) he, fun l r x hl => ?_,
   fun l l' r r' x x' b h1 h2 => hC.uniq l l' r r' x x' b (hAt h1) (hAt h2), hC.tagS, fun t i j r ht => hAt' (hC.tagC t i j r ht), fun n cs hg => (hC.gt n cs hg).mono he⟩, hold⟩,
  ⟨hb.os, hb.tape, hb.output, hb.size, Pre.refl m, fun i b hi hbm => ?_, he, fun b hl _ _ => ⟨hb.block b hl, rfl⟩⟩, fun l r x b hl hu hbx => ?_⟩
 ·rw [hb.block b (hce b h0)]
  exact hC.wf1 b h0
 ·refine (hC.own l r x (hAt hl)).keep fun b hbx => ?_
  exact ⟨hb.block b ((hC.own l r x (hAt hl)).lt hbx).1, rfl, id⟩
 ·have := (List.getElem?_eq_some_iff.1 hbm).1
  omega
 ·right
  cases l with
  | slot t => exact absurd hl.1 (by simp [look])
  | cell i j => exact ⟨i, j, r, x, hu, hAt hl, hbx⟩
theorem prim_quiet {f lo : Nat} {args : List V} {h : Heap} {x : Value} (he : ∀ xs w, (callFunc f xs).run Tryz.prog w = .ok (.enter f xs) w)
  (hx : ∀ m c w (xs : Array Value), HOK m c w h -> R2 (VRr m c w) args xs.toList -> Calls Tryz.prog f xs w fun e w' => e = .returned x /\ Below w.heap.size w w') :
  CallOK Tryz.prog lo f args h (.v x) h :=
 CallOK0.ok ⟨rfl, he, fun m c w xs hH ha => ⟨⟨rfl, rfl, Keeps.refl _ _⟩, (hx m c w xs hH ha).mono fun e w' ⟨h1, hb⟩ => by
  obtain ⟨q1, q2, q3⟩ := quiet_ok (lo := lo) hH hb
  exact ⟨_, c, h1, rfl, q1, q2, q3⟩⟩⟩
theorem map_ok {lo : Nat} {args : List V} {h : Heap} {r : V} {h' : Heap} (hlo : lo <= h.length) (he : mapP lo args h = some (r, h')) : CallOK Tryz.prog lo 190 args h r h' := by
 unfold mapP at he
 split at he
 ·rename_i g s
  split at he
  ·rename_i hc
   obtain ⟨rfl, hs⟩ := hc
   cases he
   exact prim_quiet (enters_of Tryz.func190 (by kernel_rfl) rfl) fun m c w xs hH ha => by
    obtain ⟨hlen, hall⟩ := ha
    have hx2 : ∃ x y, xs = #[x, y] := by
     obtain ⟨l⟩ := xs
     match l, hlen with
     | [x, y], _ => exact ⟨x, y, rfl⟩
    obtain ⟨x, y, rfl⟩ := hx2
    have h0 := hall 0 _ _ rfl rfl
    have h1 := hall 1 _ _ rfl rfl
    obtain ⟨cs, ds, rfl, hcs, hds⟩ := h0
    obtain rfl : y = .string s := h1
    have hcs0 : cs = #[] := by
     obtain ⟨l⟩ := cs
     match l, hcs.1 with
     | [], _ => rfl
    have hds0 : ds = #[] := by
     obtain ⟨l⟩ := ds
     match l, hds.1 with
     | [], _ => rfl
    subst hcs0
    subst hds0
    have hT : Go.Lib.Utf8Tabs (Tryz.lays230_ren.g 3) (Tryz.lays230_ren.g 4) w := by
     rw [g3, g4]
     exact tabs_of hH.1.gt
    have hM : MapAtRunes Tryz.prog 191 #[] lowU w := fun W k hk _ => walk191 k W
    exact Any.strings_Map_runes Tryz.lays230 extra 191 #[] (enters_of Tryz.func191 (by kernel_rfl) rfl) lowU s w hs hM (fun k hk => by unfold lowU; split <;> omega) hT
  ·cases he
 ·cases he
theorem prim_ok : ∀ f p, primz f = some p -> ∀ lo args h r h', lo <= h.length -> p lo args h = some (r, h') -> CallOK Tryz.prog lo f args h r h' := by
 intro f p hp lo args h r h' hlo he
 unfold primz at hp
 split at hp
 ·cases hp
  exact map_ok hlo he
 ·cases hp
end Go.Lift.P8
end

section
namespace Go.Proofs.YtnlekmkfgaolbaaGreatDoor
open Go.Lift Go.Lift.P8 Go.ChangeShapes Go.WideShapes Go.ChangeAt Go.RowKit
theorem isBulk (H : Type) : IsBulk (H := H) Rows.uptoBulk Rows.uptoBulkAll :=
 ⟨rfl, fun _ _ => rfl, fun _ => rfl, fun _ => rfl, fun _ _ => rfl, rfl, fun e s => by show Rows.uptoBulkAll e + 1 ≤ Rows.uptoBulkAll e + Rows.uptoBulkAll s + 1; omega, fun _ => rfl⟩
theorem own : ownKnob Tryz.prog.godebug = none := by kernel_rfl
theorem laidOut : laidOutB Tryz.prog = true := by kernel_rfl
theorem follows : Tryz.prog.follows .mixedOrders = true := by kernel_rfl
theorem ros_of {w : World} {g : Nat} {cs : List V} (h : ∀ (j : Nat) v, cs[j]? = some v → ∃ x, w.cell? ⟨g, j, none⟩ = some x ∧ VP (wholeCl w) w v x) : ROs (wholeCl w) w ⟨g, 0, none⟩ cs := by
 refine ⟨?_, fun j v hj => by simpa using h j v hj⟩
 cases cs with
 | nil => exact Nat.zero_le _
 | cons c t =>
  have hl : (c :: t)[t.length]? = some ((c :: t)[t.length]'(by simp)) := List.getElem?_eq_getElem (by simp)
  obtain ⟨x, hx, _⟩ := h t.length _ hl
  unfold World.cell? at hx
  unfold wholeCl
  simp only at hx ⊢
  split at hx
  ·rename_i arr e f he
   rw [he]
   simp only [List.length_cons]
   have := (Array.getElem?_eq_some_iff.1 hx).1
   omega
  ·cases hx
theorem kinds_data : (Rows.laid_jalousie_jalousieref3_kinds : DataW Unit) = Lib.tabData .i64 [21, 22, 19, 20, 23, 24, 18, 16, 17] := rfl
theorem first_data : Rows.laid_unicode_utf8_first = Lib.firstData := by kernel_rfl
theorem accept_data : (Rows.laid_unicode_utf8_acceptRanges : DataW Unit) = Lib.acceptData := by kernel_rfl
theorem bruijn_data : (Rows.laid_math_bits_deBruijn64tab : DataW Unit) = Lib.tabData .u8 (Lib.deBruijn64tab.map fun c : Nat => (c : Int)) := by kernel_rfl
theorem pow10_data : (Rows.laid_internal_strconv_uint64pow10 : DataW Unit) = Lib.tabData .u64 Lib.pow10Tab := by kernel_rfl
theorem tab_cells {w : World} {name : String} {k : IntKind} {zs : List Int} {g : Nat} {t e : TypeId} {n : Nat} (hn : Tryz.prog.globalNamed name = some g) (hy : (Tryz.prog.globals[g]?).map (·.type) = some t)
  (ht : Tryz.prog.underlying t = some (.array n e)) (he : Tryz.prog.underlying e = some (.int k)) (hce : Tryz.prog.cellsOf e = 1) (hct : Tryz.prog.cellsOf t = n) (h : Lib.VarReads Tryz.prog w name (Lib.tabData k zs)) :
  ∀ (j : Nat) (z : Int), zs[j]? = some z → w.cell? ⟨g, j, none⟩ = some (.int k z) := fun j z hz => by
 obtain ⟨g', t', cs, fuel, p, h1, h2, h3, h4⟩ := h
 obtain rfl := Option.some.inj (hn.symm.trans h1)
 obtain rfl := Option.some.inj (hy.symm.trans h2)
 have hcs := Lib.cells_of_tab ht he hce hct h4
 have := World.var?_cell hn h3 j
 rw [this, ← Array.getElem?_toList, hcs]
 simp [hz]
theorem gok [MX] {W : World} (hm : W.cell? ⟨1, 0, none⟩ = some (.int .i64 MX.m)) (hk : MX.k = true → Lib.VarReads Tryz.prog W "jalousie/jalousieref3.kinds" Rows.laid_jalousie_jalousieref3_kinds)
  (hd : MX.d = true → Lib.VarReads Tryz.prog W "math/bits.deBruijn64tab" Rows.laid_math_bits_deBruijn64tab) (hn : MX.n = true → Lib.VarReads Tryz.prog W "internal/strconv.uint64pow10" Rows.laid_internal_strconv_uint64pow10)
  (h2 : Lib.VarReads Tryz.prog W "unicode/utf8.first" Rows.laid_unicode_utf8_first) (h3 : Lib.VarReads Tryz.prog W "unicode/utf8.acceptRanges" Rows.laid_unicode_utf8_acceptRanges) : GOK W := by
 rw [kinds_data] at hk
 rw [first_data] at h2
 rw [accept_data] at h3
 rw [bruijn_data] at hd
 rw [pow10_data] at hn
 have hU : Lib.Utf8Tabs (Tryz.lays230_ren.g 3) (Tryz.lays230_ren.g 4) W :=
  utf8Tabs_of_reads (ρ := Tryz.lays230_ren) { Tryz.lays230 with } ⟨by kernel_rfl, by kernel_rfl, by kernel_rfl, by kernel_rfl, by kernel_rfl, by kernel_rfl, by kernel_rfl⟩ h2 h3
 rw [g3, g4] at hU
 intro n cs hc
 have e : GTab.tab n = gtab.1 n := rfl
 rw [e] at hc
 unfold gtab at hc
 simp only at hc
 split at hc
 ·split at hc
  ·rename_i hf
   have c0 := tab_cells (g := 0) (t := 148) (e := 3) (n := 9) (by kernel_rfl) (by kernel_rfl) (by kernel_rfl) (by kernel_rfl) (by kernel_rfl) (by kernel_rfl) (hk hf)
   cases hc
   refine ros_of fun j v hj => ?_
   have hj2 : (([21, 22, 19, 20, 23, 24, 18, 16, 17] : List Int).map fun z => V.v (.int .i64 z))[j]? = some v := hj
   simp only [List.getElem?_map, Option.map_eq_some_iff] at hj2
   obtain ⟨k, hk2, rfl⟩ := hj2
   exact ⟨_, c0 j k hk2, .v _ rfl⟩
  ·cases hc
 ·cases hc
  refine ros_of fun j v hj => ?_
  cases j with
  | zero =>
   cases hj
   exact ⟨_, hm, .v _ rfl⟩
  | succ j => simp at hj
 ·split at hc
  ·rename_i hf
   have c1 := tab_cells (g := 2) (t := 229) (e := 5) (n := 64) (by kernel_rfl) (by kernel_rfl) (by kernel_rfl) (by kernel_rfl) (by kernel_rfl) (by kernel_rfl) (hd hf)
   cases hc
   refine ros_of fun j v hj => ?_
   simp only [List.getElem?_map, Option.map_eq_some_iff] at hj
   obtain ⟨k, hk2, rfl⟩ := hj
   exact ⟨_, c1 j k (by simp [hk2]), .v _ rfl⟩
  ·cases hc
 ·split at hc
  ·rename_i hf
   have c2 := tab_cells (g := 3) (t := 232) (e := 171) (n := 20) (by kernel_rfl) (by kernel_rfl) (by kernel_rfl) (by kernel_rfl) (by kernel_rfl) (by kernel_rfl) (hn hf)
   cases hc
   refine ros_of fun j v hj => ?_
   simp only [List.getElem?_map, Option.map_eq_some_iff] at hj
   obtain ⟨k, hk2, rfl⟩ := hj
   exact ⟨_, c2 j k hk2, .v _ rfl⟩
  ·cases hc
 ·cases hc
  refine ros_of fun j v hj => ?_
  simp only [List.getElem?_map, Option.map_eq_some_iff] at hj
  obtain ⟨k, hk2, rfl⟩ := hj
  have hlt : j < 256 := by
   have := (List.getElem?_eq_some_iff.1 hk2).1
   simpa using this
  rw [List.getElem?_range hlt] at hk2
  cases hk2
  exact ⟨_, hU.1 j hlt, .v _ rfl⟩
 ·cases hc
  refine ros_of fun j v hj => ?_
  have hjl : j < 32 := by
   rcases Nat.lt_or_ge j 32 with h | h
   ·exact h
   ·exfalso
    have hl : ((List.range 16).flatMap fun i => [V.v (.int .u8 (Go.Lib.accLo i)), V.v (.int .u8 (Go.Lib.accHi i))]).length = 32 := rfl
    rw [List.getElem?_eq_none (by rw [hl]; exact h)] at hj
    cases hj
  obtain ⟨i, hi, hj2⟩ : ∃ i, i < 16 ∧ (j = 2 * i ∨ j = 2 * i + 1) := ⟨j / 2, by omega, by omega⟩
  obtain ⟨p1, p2⟩ := pairs_get (f := fun i => V.v (.int .u8 (Go.Lib.accLo i))) (g := fun i => V.v (.int .u8 (Go.Lib.accHi i))) 16 i hi
  rcases hj2 with rfl | rfl
  ·rw [p1] at hj
   cases hj
   exact ⟨_, (hU.2 i hi).1, .v _ rfl⟩
  ·rw [p2] at hj
   cases hj
   exact ⟨_, (hU.2 i hi).2, .v _ rfl⟩
 ·cases hc
noncomputable def laidWorld (os : Os) : World :=
 let w0 := World.holding Tryz.prog os ⟨#[], #[], []⟩
 let put (h : Array Obj) (g : Nat) (cs : Array Value) : Array Obj := h.modify g fun
  | .cells _ t frozen => .cells cs t frozen
  | o => o
 let h1 := put w0.heap 4 (Lib.firstTab.map fun z => Value.int .u8 z).toArray
 let h2 := put h1 5 ((List.range 16).flatMap fun i => [Value.int .u8 (Lib.accLo i), Value.int .u8 (Lib.accHi i)]).toArray
 let h3 := put h2 2 (Lib.deBruijn64tab.map fun z : Nat => Value.int .u8 (z : Int)).toArray
 let h4 := put h3 6 (Lib.deBruijn32tab.map fun z : Nat => Value.int .u8 (z : Int)).toArray
 let h5 := put h4 3 (Lib.pow10Tab.map fun z => Value.int .u64 z).toArray
 let h6 := put h5 0 ([21, 22, 19, 20, 23, 24, 18, 16, 17].map fun z => Value.int .i64 z).toArray
 { w0 with heap := h6 }
theorem laid2 (os : Os) (args : Array Value) : LaidIn Tryz.prog ((laidWorld os).forCall (fun _ _ => 0) ⟨#[], args, []⟩).memory [("unicode/utf8.acceptRanges", Rows.laid_unicode_utf8_acceptRanges), ("unicode/utf8.first", Rows.laid_unicode_utf8_first)] [5, 4] :=
 LaidIn.of_run [5, 4] 8 (by kernel_rfl) (by kernel_rfl) (by kernel_rfl) (by kernel_rfl)
end Go.Proofs.YtnlekmkfgaolbaaGreatDoor
end

section
namespace Go.Proofs.YtnlekmkfgaolbaaGreatDoor
open Go.Lift Go.Lift.P8 Go.ChangeShapes Go.WideShapes Go.ChangeAt Go.RowKit
theorem tyRow {t e : TypeId} {k : IntKind} (ht : Tryz.prog.underlying t = some (.slice e)) (hk : Tryz.prog.underlying e = some (.int k)) {v : V} (h : TyV Tryz.prog t v) :
  ∃ l : List Int, v = .list .no (ri k l) /\ ∀ c ∈ l, (Lit.int k c).wf = true := by
 unfold TyV at h
 rw [ht] at h
 simp only at h
 cases h with
 | slice rows hu hr =>
  rw [ht] at hu
  cases hu
  have each : ∀ rows : List (List V), (∀ row ∈ rows, Ty Tryz.prog e row) -> ∃ l : List Int, rows = ri k l /\ ∀ c ∈ l, (Lit.int k c).wf = true := by
   intro rows
   induction rows with
   | nil => intro _; exact ⟨[], rfl, fun _ hc => by cases hc⟩
   | cons r rs ih =>
    intro h
    obtain ⟨l, rfl, hl⟩ := ih fun row hm => h row (List.mem_cons_of_mem _ hm)
    have h0 := h r (List.mem_cons_self ..)
    cases h0 with
    | int k' n hk' hw =>
     rw [hk] at hk'
     cases hk'
     refine ⟨n :: l, rfl, fun c hc => ?_⟩
     rcases List.mem_cons.mp hc with rfl | hc
     ·exact hw
     ·exact hl c hc
    | bool b hk' => rw [hk] at hk'; cases hk'
    | string s hk' => rw [hk] at hk'; cases hk'
    | slice rows hk' _ => rw [hk] at hk'; cases hk'
    | struct fs cells hk' _ => rw [hk] at hk'; cases hk'
  obtain ⟨l, rfl, hl⟩ := each rows hr
  exact ⟨l, rfl, hl⟩
 | struct fs cells hu _ => rw [ht] at hu; cases hu
 | bool b hu => rw [ht] at hu; cases hu
 | int k n hu _ => rw [ht] at hu; cases hu
 | string s hu => rw [ht] at hu; cases hu
theorem ty28b {v : V} (h : TyV Tryz.prog 28 v) : ∃ l : List Int, v = .list .no (ri .u8 l) /\ ∀ c ∈ l, 0 <= c /\ c <= 255 := by
 obtain ⟨l, h1, h2⟩ := tyRow Tryz.underlying28 Tryz.underlying5 h
 refine ⟨l, h1, fun c hc => ?_⟩
 have := h2 c hc
 simp [Lit.wf, IntKind.min, IntKind.max, IntKind.signed, IntKind.bits] at this
 omega
theorem rows_len (k : IntKind) (l : List Int) : l.length <= vsRows (ri k l) := by
 induction l with
 | nil => simp
 | cons n l ih => simp only [ri_cons, vsRows, vsRow, vsize, List.length_cons]; omega
theorem ty28 {v : V} {n : Nat} (h : TyV Tryz.prog 28 v) (hs : asize v <= n) (hn : n <= 1048576) : ∃ l : List Int, v = .list .no (ri .u8 l) /\ Utf.By l /\ l.length <= n := by
 obtain ⟨l, rfl, hl⟩ := ty28b h
 have := rows_len .u8 l
 exact ⟨l, rfl, hl, by simp only [asize, vsize] at hs; omega⟩
end Go.Proofs.YtnlekmkfgaolbaaGreatDoor
end

section
namespace Go.Proofs.YtnlekmkfgaolbaaGreatDoor
theorem and_tt {a b : Bool} (ha : a = true) (hb : b = true) : (a && b) = true := by rw [ha, hb]; rfl
theorem fact2 : laidOutB Tryz.prog = true := by kernel_rfl
theorem fact3 : mapsRowed Tryz.prog = true := by kernel_rfl
theorem fact7 : (Tryz.prog.stops == []) = true := by kernel_rfl
theorem fact9 : (Tryz.prog.stopKnobs == []) = true := by kernel_rfl
theorem fact23 : (Rows.ruleRulesUptoRow.plainKeys == Tryz.prog.plainKeys) = true := by kernel_rfl
theorem fact25 : Tryz.prog.stopsHeard = true := by kernel_rfl
theorem fact26 : Tryz.prog.mayEnter = true := by kernel_rfl
theorem fact27 : (Rows.ruleRulesUptoRow.lifted == Tryz.prog.liftsFinal) = true := by kernel_rfl
theorem fact28 : (Tryz.prog.make == some Rows.ruleRulesUptoRow.make) = true := by kernel_rfl
end Go.Proofs.YtnlekmkfgaolbaaGreatDoor
end
