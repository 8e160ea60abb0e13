/- What the claims of this seat share: the readings of their arguments. -/
import Derived.Lib.LaidU8
import Derived.Lib.LaidTab
import Derived.Lib.LaidIn
import Derived.Deep.DeepHandedRow
import Derived.Deep.DeepWitnessRowRef
import Derived.Test.YtnlekmkfgaolbaaGreatDoorRows
import Derived.JoinedOf
import Derived.ProofKit
import Derived.Test.YtnlekmkfgaolbaaGreatDoorGKc
import Derived.Test.YtnlekmkfgaolbaaGreatDoorGKe
set_option linter.unusedVariables false
set_option linter.unusedSimpArgs false
set_option linter.unusedSectionVars false
section
namespace Go.Proofs.YtnlekmkfgaolbaaGreatDoor
open Go.Lift Go.Lift.P8 Go.ChangeShapes Go.WideShapes Go.ChangeAt Go.RowKit
set_option maxRecDepth 100000
theorem isBulk (H : Type) : IsBulk (H := H) Rows.uptoBulk Rows.uptoBulkAll :=
 ⟨rfl, fun _ _ => rfl, fun _ => rfl, fun _ => rfl, fun _ _ => rfl, rfl, fun e s => by show Rows.uptoBulkAll e + 1 ≤ Rows.uptoBulkAll e + Rows.uptoBulkAll s + 1; omega, fun _ => rfl⟩
theorem own : ownKnob Tryz.prog.godebug = none := by kernel_rfl
theorem laidOut : laidOutB Tryz.prog = true := by kernel_rfl
theorem follows : Tryz.prog.follows .mixedOrders = true := by kernel_rfl
theorem ros_of {w : World} {g : Nat} {cs : List V} (h : ∀ (j : Nat) v, cs[j]? = some v → ∃ x, w.cell? ⟨g, j, none⟩ = some x ∧ VP (wholeCl w) w v x) : ROs (wholeCl w) w ⟨g, 0, none⟩ cs := by
 refine ⟨?_, fun j v hj => by simpa using h j v hj⟩
 cases cs with
 | nil => exact Nat.zero_le _
 | cons c t =>
  have hl : (c :: t)[t.length]? = some ((c :: t)[t.length]'(by simp)) := List.getElem?_eq_getElem (by simp)
  obtain ⟨x, hx, _⟩ := h t.length _ hl
  unfold World.cell? at hx
  unfold wholeCl
  simp only at hx ⊢
  split at hx
  ·rename_i arr e f he
   rw [he]
   simp only [List.length_cons]
   have := (Array.getElem?_eq_some_iff.1 hx).1
   omega
  ·cases hx
theorem kinds_data : (Rows.laid_jalousie_jalousieref3_kinds : DataW Unit) = Lib.tabData .i64 [21, 22, 19, 20, 23, 24, 18, 16, 17] := rfl
theorem first_data : Rows.laid_unicode_utf8_first = Lib.firstData := by kernel_rfl
theorem accept_data : (Rows.laid_unicode_utf8_acceptRanges : DataW Unit) = Lib.acceptData := by kernel_rfl
theorem bruijn_data : (Rows.laid_math_bits_deBruijn64tab : DataW Unit) = Lib.tabData .u8 (Lib.deBruijn64tab.map fun c : Nat => (c : Int)) := by kernel_rfl
theorem pow10_data : (Rows.laid_internal_strconv_uint64pow10 : DataW Unit) = Lib.tabData .u64 Lib.pow10Tab := by kernel_rfl
theorem tab_cells {w : World} {name : String} {k : IntKind} {zs : List Int} {g : Nat} {t e : TypeId} {n : Nat} (hn : Tryz.prog.globalNamed name = some g) (hy : (Tryz.prog.globals[g]?).map (·.type) = some t)
  (ht : Tryz.prog.underlying t = some (.array n e)) (he : Tryz.prog.underlying e = some (.int k)) (hce : Tryz.prog.cellsOf e = 1) (hct : Tryz.prog.cellsOf t = n) (h : Lib.VarReads Tryz.prog w name (Lib.tabData k zs)) :
  ∀ (j : Nat) (z : Int), zs[j]? = some z → w.cell? ⟨g, j, none⟩ = some (.int k z) := fun j z hz => by
 obtain ⟨g', t', cs, fuel, p, h1, h2, h3, h4⟩ := h
 obtain rfl := Option.some.inj (hn.symm.trans h1)
 obtain rfl := Option.some.inj (hy.symm.trans h2)
 have hcs := Lib.cells_of_tab ht he hce hct h4
 have := World.var?_cell hn h3 j
 rw [this, ← Array.getElem?_toList, hcs]
 simp [hz]
theorem gok [MX] {W : World} (hm : W.cell? ⟨1, 0, none⟩ = some (.int .i64 MX.m)) (hk : MX.k = true → Lib.VarReads Tryz.prog W "jalousie/jalousieref3.kinds" Rows.laid_jalousie_jalousieref3_kinds)
  (hd : MX.d = true → Lib.VarReads Tryz.prog W "math/bits.deBruijn64tab" Rows.laid_math_bits_deBruijn64tab) (hn : MX.n = true → Lib.VarReads Tryz.prog W "internal/strconv.uint64pow10" Rows.laid_internal_strconv_uint64pow10)
  (h2 : Lib.VarReads Tryz.prog W "unicode/utf8.first" Rows.laid_unicode_utf8_first) (h3 : Lib.VarReads Tryz.prog W "unicode/utf8.acceptRanges" Rows.laid_unicode_utf8_acceptRanges) : GOK W := by
 rw [kinds_data] at hk
 rw [first_data] at h2
 rw [accept_data] at h3
 rw [bruijn_data] at hd
 rw [pow10_data] at hn
 have hU : Lib.Utf8Tabs (Tryz.lays230_ren.g 3) (Tryz.lays230_ren.g 4) W :=
  utf8Tabs_of_reads (ρ := Tryz.lays230_ren) { Tryz.lays230 with } ⟨by kernel_rfl, by kernel_rfl, by kernel_rfl, by kernel_rfl, by kernel_rfl, by kernel_rfl, by kernel_rfl⟩ h2 h3
 rw [g3, g4] at hU
 intro n cs hc
 have e : GTab.tab n = gtab.1 n := rfl
 rw [e] at hc
 unfold gtab at hc
 simp only at hc
 split at hc
 ·split at hc
  ·rename_i hf
   have c0 := tab_cells (g := 0) (t := 148) (e := 3) (n := 9) (by kernel_rfl) (by kernel_rfl) (by kernel_rfl) (by kernel_rfl) (by kernel_rfl) (by kernel_rfl) (hk hf)
   cases hc
   refine ros_of fun j v hj => ?_
   have hj2 : (([21, 22, 19, 20, 23, 24, 18, 16, 17] : List Int).map fun z => V.v (.int .i64 z))[j]? = some v := hj
   simp only [List.getElem?_map, Option.map_eq_some_iff] at hj2
   obtain ⟨k, hk2, rfl⟩ := hj2
   exact ⟨_, c0 j k hk2, .v _ rfl⟩
  ·cases hc
 ·cases hc
  refine ros_of fun j v hj => ?_
  cases j with
  | zero =>
   cases hj
   exact ⟨_, hm, .v _ rfl⟩
  | succ j => simp at hj
 ·split at hc
  ·rename_i hf
   have c1 := tab_cells (g := 2) (t := 229) (e := 5) (n := 64) (by kernel_rfl) (by kernel_rfl) (by kernel_rfl) (by kernel_rfl) (by kernel_rfl) (by kernel_rfl) (hd hf)
   cases hc
   refine ros_of fun j v hj => ?_
   simp only [List.getElem?_map, Option.map_eq_some_iff] at hj
   obtain ⟨k, hk2, rfl⟩ := hj
   exact ⟨_, c1 j k (by simp [hk2]), .v _ rfl⟩
  ·cases hc
 ·split at hc
  ·rename_i hf
   have c2 := tab_cells (g := 3) (t := 232) (e := 171) (n := 20) (by kernel_rfl) (by kernel_rfl) (by kernel_rfl) (by kernel_rfl) (by kernel_rfl) (by kernel_rfl) (hn hf)
   cases hc
   refine ros_of fun j v hj => ?_
   simp only [List.getElem?_map, Option.map_eq_some_iff] at hj
   obtain ⟨k, hk2, rfl⟩ := hj
   exact ⟨_, c2 j k hk2, .v _ rfl⟩
  ·cases hc
 ·cases hc
  refine ros_of fun j v hj => ?_
  simp only [List.getElem?_map, Option.map_eq_some_iff] at hj
  obtain ⟨k, hk2, rfl⟩ := hj
  have hlt : j < 256 := by
   have := (List.getElem?_eq_some_iff.1 hk2).1
   simpa using this
  rw [List.getElem?_range hlt] at hk2
  cases hk2
  exact ⟨_, hU.1 j hlt, .v _ rfl⟩
 ·cases hc
  refine ros_of fun j v hj => ?_
  have hjl : j < 32 := by
   rcases Nat.lt_or_ge j 32 with h | h
   ·exact h
   ·exfalso
    have hl : ((List.range 16).flatMap fun i => [V.v (.int .u8 (Go.Lib.accLo i)), V.v (.int .u8 (Go.Lib.accHi i))]).length = 32 := rfl
    rw [List.getElem?_eq_none (by rw [hl]; exact h)] at hj
    cases hj
  obtain ⟨i, hi, hj2⟩ : ∃ i, i < 16 ∧ (j = 2 * i ∨ j = 2 * i + 1) := ⟨j / 2, by omega, by omega⟩
  obtain ⟨p1, p2⟩ := pairs_get (f := fun i => V.v (.int .u8 (Go.Lib.accLo i))) (g := fun i => V.v (.int .u8 (Go.Lib.accHi i))) 16 i hi
  rcases hj2 with rfl | rfl
  ·rw [p1] at hj
   cases hj
   exact ⟨_, (hU.2 i hi).1, .v _ rfl⟩
  ·rw [p2] at hj
   cases hj
   exact ⟨_, (hU.2 i hi).2, .v _ rfl⟩
 ·cases hc
noncomputable def laidWorld (os : Os) : World :=
 let w0 := World.holding Tryz.prog os ⟨#[], #[], []⟩
 let put (h : Array Obj) (g : Nat) (cs : Array Value) : Array Obj := h.modify g fun
  | .cells _ t frozen => .cells cs t frozen
  | o => o
 let h1 := put w0.heap 4 (Lib.firstTab.map fun z => Value.int .u8 z).toArray
 let h2 := put h1 5 ((List.range 16).flatMap fun i => [Value.int .u8 (Lib.accLo i), Value.int .u8 (Lib.accHi i)]).toArray
 let h3 := put h2 2 (Lib.deBruijn64tab.map fun z : Nat => Value.int .u8 (z : Int)).toArray
 let h4 := put h3 6 (Lib.deBruijn32tab.map fun z : Nat => Value.int .u8 (z : Int)).toArray
 let h5 := put h4 3 (Lib.pow10Tab.map fun z => Value.int .u64 z).toArray
 let h6 := put h5 0 ([21, 22, 19, 20, 23, 24, 18, 16, 17].map fun z => Value.int .i64 z).toArray
 { w0 with heap := h6 }
theorem laid2 (os : Os) (args : Array Value) : LaidIn Tryz.prog ((laidWorld os).forCall (fun _ _ => 0) ⟨#[], args, []⟩).memory [("unicode/utf8.acceptRanges", Rows.laid_unicode_utf8_acceptRanges), ("unicode/utf8.first", Rows.laid_unicode_utf8_first)] [5, 4] :=
 LaidIn.of_run [5, 4] 8 (by kernel_rfl) (by kernel_rfl) (by kernel_rfl) (by kernel_rfl)
theorem ty_int {t : TypeId} {k : IntKind} {p : List V} (ht : Tryz.prog.underlying t = some (.int k)) (h : Ty Tryz.prog t p) : ∃ n, p = [.v (.int k n)] ∧ (Lit.int k n).wf = true := by
 cases h with
 | int k' n hu hw => rw [ht] at hu; cases hu; exact ⟨n, rfl, hw⟩
 | bool b hu => rw [ht] at hu; cases hu
 | string s hu => rw [ht] at hu; cases hu
 | slice rows hu _ => rw [ht] at hu; cases hu
 | struct fs cells hu _ => rw [ht] at hu; cases hu
theorem ty_bool {t : TypeId} {p : List V} (ht : Tryz.prog.underlying t = some .bool) (h : Ty Tryz.prog t p) : ∃ b, p = [.v (.bool b)] := by
 cases h with
 | int k' n hu hw => rw [ht] at hu; cases hu
 | bool b hu => exact ⟨b, rfl⟩
 | string s hu => rw [ht] at hu; cases hu
 | slice rows hu _ => rw [ht] at hu; cases hu
 | struct fs cells hu _ => rw [ht] at hu; cases hu
theorem ty_str {t : TypeId} {p : List V} (ht : Tryz.prog.underlying t = some .string) (h : Ty Tryz.prog t p) : ∃ s, p = [.v (.string s)] := by
 cases h with
 | int k' n hu hw => rw [ht] at hu; cases hu
 | bool b hu => rw [ht] at hu; cases hu
 | string s hu => exact ⟨s, rfl⟩
 | slice rows hu _ => rw [ht] at hu; cases hu
 | struct fs cells hu _ => rw [ht] at hu; cases hu
theorem ty_fields {t : TypeId} {fs : Array Field} {p : List V} (ht : Tryz.prog.underlying t = some (.struct fs)) (h : Ty Tryz.prog t p) : TyFs Tryz.prog fs.toList p := by
 cases h with
 | int k' n hu hw => rw [ht] at hu; cases hu
 | bool b hu => rw [ht] at hu; cases hu
 | string s hu => rw [ht] at hu; cases hu
 | slice rows hu _ => rw [ht] at hu; cases hu
 | struct fs' cells hu hf => rw [ht] at hu; cases hu; exact hf
theorem fs_cons {f : Field} {fs : List Field} {p : List V} (h : TyFs Tryz.prog (f :: fs) p) : ∃ a b, p = a ++ b ∧ Ty Tryz.prog f.type a ∧ TyFs Tryz.prog fs b := by
 cases h with
 | cons h1 h2 => exact ⟨_, _, rfl, h1, h2⟩
theorem fs_nil {p : List V} (h : TyFs Tryz.prog [] p) : p = [] := by
 cases h; rfl
theorem wf_i64 {n : Int} (h : (Lit.int .i64 n).wf = true) : -9223372036854775808 ≤ n ∧ n ≤ 9223372036854775807 := by
 simp [Lit.wf, IntKind.min, IntKind.max, IntKind.signed, IntKind.bits] at h
 omega
theorem any_bs (s : ByteArray) : ∃ l : List Int, Utf.By l ∧ s = Rul.bs l ∧ l.length = s.size := by
 refine ⟨s.data.toList.map fun c => (c.toNat : Int), ?_, ?_, ?_⟩
 ·intro c hc
  obtain ⟨x, _, rfl⟩ := List.mem_map.1 hc
  have := x.toNat_lt
  omega
 ·apply ByteArray.ext
  unfold Rul.bs u8s
  simp only [List.map_map]
  apply Array.toList_inj.1
  conv => lhs; rw [← List.map_id s.data.toList]
  apply List.map_congr_left
  intro c _
  simp
 ·rw [List.length_map, Array.length_toList]; rfl
theorem tyTk {p : List V} (hc : Ty Tryz.prog 37 p) : ∃ t : Rul.Tk4, p = Rul.row t ∧ Utf.By t.b ∧ (-9223372036854775808 ≤ t.n ∧ t.n ≤ 9223372036854775807) ∧ (-9223372036854775808 ≤ t.d ∧ t.d ≤ 9223372036854775807) ∧ vsRow p = t.b.length + 6 := by
 have h1 := ty_fields Tryz.underlying37 hc
 obtain ⟨p1, q1, rfl, t1, h1⟩ := fs_cons h1
 obtain ⟨p2, q2, rfl, t2, h1⟩ := fs_cons h1
 obtain ⟨p3, q3, rfl, t3, h1⟩ := fs_cons h1
 obtain ⟨p4, q4, rfl, t4, h1⟩ := fs_cons h1
 obtain ⟨p5, q5, rfl, t5, h1⟩ := fs_cons h1
 obtain rfl := fs_nil h1
 obtain ⟨k, rfl, _⟩ := ty_int Tryz.underlying3 t1
 obtain ⟨s, rfl⟩ := ty_str Tryz.underlying9 t2
 have h2 := ty_fields Tryz.underlying35 t3
 obtain ⟨p6, q6, rfl, t6, h2⟩ := fs_cons h2
 obtain ⟨p7, q7, rfl, t7, h2⟩ := fs_cons h2
 obtain rfl := fs_nil h2
 obtain ⟨n, rfl, hn⟩ := ty_int Tryz.underlying2 t6
 obtain ⟨d, rfl, hd⟩ := ty_int Tryz.underlying2 t7
 obtain ⟨w, rfl⟩ := ty_bool Tryz.underlying4 t4
 obtain ⟨i, rfl⟩ := ty_bool Tryz.underlying4 t5
 obtain ⟨b, hb, rfl, hl⟩ := any_bs s
 refine ⟨⟨k, b, n, d, w, i⟩, rfl, hb, wf_i64 hn, wf_i64 hd, ?_⟩
 simp [vsRow, vsize]
 omega
theorem ty_slice {t e : TypeId} {p : List V} (ht : Tryz.prog.underlying t = some (.slice e)) (h : Ty Tryz.prog t p) : ∃ rows, p = [.list .no rows] ∧ ∀ row ∈ rows, Ty Tryz.prog e row := by
 cases h with
 | int k' n hu hw => rw [ht] at hu; cases hu
 | bool b hu => rw [ht] at hu; cases hu
 | string s hu => rw [ht] at hu; cases hu
 | slice rows hu hr => rw [ht] at hu; cases hu; exact ⟨rows, rfl, hr⟩
 | struct fs cells hu _ => rw [ht] at hu; cases hu
theorem tv {t e : TypeId} {v : V} (ht : Tryz.prog.underlying t = some (.slice e)) (h : TyV Tryz.prog t v) : Ty Tryz.prog t [v] := by
 unfold TyV at h
 rw [ht] at h
 exact h
theorem tyTks {n : Nat} (hn : n ≤ 1048576) : ∀ (rows : List (List V)), vsRows rows ≤ n → (∀ row ∈ rows, Ty Tryz.prog 37 row) →
  ∃ l : List Rul.Tk4, rows = l.map Rul.row ∧ (∀ t ∈ l, BtT t) ∧ l.length ≤ vsRows rows
 | [], _, _ => ⟨[], rfl, by simp, by simp⟩
 | r :: rs, hs, h => by
  obtain ⟨t, rfl, a, b, c, e⟩ := tyTk (h r (List.mem_cons_self ..))
  simp only [vsRows, e] at hs ⊢
  obtain ⟨l, rfl, h1, h2⟩ := tyTks hn rs (by omega) fun row hm => h row (List.mem_cons_of_mem _ hm)
  refine ⟨t :: l, rfl, fun x hx => ?_, by rw [List.length_cons]; omega⟩
  rcases List.mem_cons.1 hx with rfl | hx
  ·exact ⟨a, by omega⟩
  ·exact h1 x hx
theorem ty22 {v : V} {n : Nat} (h : TyV Tryz.prog 22 v) (hs : asize v ≤ n) (hn : n ≤ 1048576) : ∃ l : List Rul.Tk4, v = .list .no (l.map Rul.row) ∧ (∀ t ∈ l, BtT t) ∧ l.length ≤ n := by
 obtain ⟨rows, hp, hr⟩ := ty_slice Tryz.underlying22 (tv Tryz.underlying22 h)
 obtain rfl : v = .list .no rows := by simpa using hp
 have hv : vsRows rows ≤ n := by simp only [asize, vsize] at hs; omega
 obtain ⟨l, rfl, a, b⟩ := tyTks hn rows hv hr
 exact ⟨l, rfl, a, by omega⟩
end Go.Proofs.YtnlekmkfgaolbaaGreatDoor
end

section
namespace Go.Proofs.YtnlekmkfgaolbaaGreatDoor
set_option maxRecDepth 100000
theorem and_tt {a b : Bool} (ha : a = true) (hb : b = true) : (a && b) = true := by rw [ha, hb]; rfl
theorem fact2 : laidOutB Tryz.prog = true := by kernel_rfl
theorem fact3 : mapsRowed Tryz.prog = true := by kernel_rfl
theorem fact7 : (Tryz.prog.stops == []) = true := by kernel_rfl
theorem fact9 : (Tryz.prog.stopKnobs == []) = true := by kernel_rfl
theorem fact23 : (Rows.ruleRulesUptoRow.plainKeys == Tryz.prog.plainKeys) = true := by kernel_rfl
theorem fact25 : Tryz.prog.stopsHeard = true := by kernel_rfl
theorem fact26 : Tryz.prog.mayEnter = true := by kernel_rfl
theorem fact27 : (Rows.ruleRulesUptoRow.lifted == Tryz.prog.liftsFinal) = true := by kernel_rfl
theorem fact28 : (Tryz.prog.make == some Rows.ruleRulesUptoRow.make) = true := by kernel_rfl
end Go.Proofs.YtnlekmkfgaolbaaGreatDoor
end

section
namespace Go.Lift.Rul
end Go.Lift.Rul
namespace Go.Proofs
end Go.Proofs
open Go.Proofs
namespace Go.Lift.P8
open Rul (rules vals rusC decls)
variable [MX]
set_option maxRecDepth 20000
set_option maxHeartbeats 4000000
theorem f8 {l : List Rul.Tk4} (hl : l.length ≤ 100000000) (hB : ∀ t ∈ l, BtT t) : E 0 8 [.list .no (l.map Rul.row)] [] = some (.v (.bool true), []) := by
 have c24 := f24 (lo := 0) (h := []) (l := l) (Nat.zero_le _) (by omega) hB
 have c25 := f25 (lo := 0) (h := []) (l := l) (Nat.zero_le _) (by omega) hB
 have hn := Rul.nodes_vals l
 have hw := decls_wel (Rul.allL_vals hB) (by omega)
 have c23 := f23 (lo := 0) (h := []) (l := decls (vals l)) (u := decls (vals l)) (Nat.zero_le _) hw.1 hw.1 hw.2 hw.2
 rw [eqDs_refl] at c23
 have c18 := f18
 rw [e8 (by simp) (by rfl)]
 simp only [go_sem, b8, Tryz.f8, c24, c25, c23, c18, List.length_nil, Nat.le_refl]
 all_goals rfl
end Go.Lift.P8
end
