/- PropVars: what is taken from the library's contracts, and the known answers. -/
import Derived.WalkKit
import Derived.Lib.LaidTab
import Derived.Lib.LaidU8
import Derived.Lib.LaidIn
import Derived.Deep.DeepHandedRow
import Derived.Deep.DeepWitnessRowRef
import Derived.ProofKit
import Derived.Test.YtnipmgpehgchnaaGreatDoorRows
import Derived.JoinedOf
import Derived.Test.YtnipmgpehgchnaaGreatDoorGLc
import Derived.Test.YtnipmgpehgchnaaGreatDoorGKb
import Derived.Test.YtnipmgpehgchnaaGreatDoorGKc
import Derived.Test.YtnipmgpehgchnaaGreatDoorGKd
set_option linter.unusedVariables false
set_option linter.unusedSimpArgs false
set_option linter.unusedSectionVars false
set_option maxRecDepth 100000
section
namespace Go.Lift.V1
open Go.Proofs Go.RowKit
theorem one_arg {m : List Nat} {c : Cl} {w : World} {a : Value} {xs : Array Value} (h : R2 (VRr m c w) [.v a] xs.toList) : xs = #[a] := by
 obtain ⟨l⟩ := xs
 match l, h.1 with
 | [x], _ =>
  have h0 : x = a := h.2 0 _ _ rfl rfl
  rw [h0]
theorem cell_of {c : Cl} {w : World} {n : Nat} {cs : List V} (hg : ROs c w ⟨n, 0, none⟩ cs) {j : Nat} {x : Value} (hj : cs[j]? = some (.v x)) : w.cell? ⟨n, j, none⟩ = some x := by
 obtain ⟨_, h⟩ := hg
 obtain ⟨y, hy, hv⟩ := h j _ hj
 rw [Nat.zero_add] at hy
 rw [hy, VP.v_eq hv]
theorem space {m : List Nat} {c : Cl} {w : World} {h : Heap} (hH : HOK m c w h) : ∀ j, j < 256 -> w.cell? ⟨0, j, none⟩ = some (.int .u8 (if Go.Lib.isSp (UInt8.ofNat j) then 1 else 0)) := fun j hj => by
 have e : GTab.tab 0 = some ((List.range 256).map fun c => V.v (.int .u8 (if Go.Lib.isSp (UInt8.ofNat c) then 1 else 0))) := rfl
 exact cell_of (hH.1.gt 0 _ e) (by simp [hj])
theorem fields_ok {lo : Nat} {s : ByteArray} {h : Heap} (hlo : lo <= h.length) (hs : s.size < 4294967281) (ha : (s.data.toList.all fun b => decide (b.toNat < 128)) = true) :
  CallOK Tryz.prog lo 29 [.v (.string s)] h (.list .no ((Go.Lib.fields s.data.toList).map fun l => [.v (.string ⟨l.toArray⟩)])) h := by
 have k := prim_fresh (P := Tryz.prog) (f := 29) (args := [.v (.string s)]) (xs := (Go.Lib.fields s.data.toList).map fun l => Value.string ⟨l.toArray⟩) hlo (enters_of Tryz.func29 (by kernel_rfl) rfl)
  (fun x hx => by obtain ⟨l, _, rfl⟩ := List.mem_map.1 hx; rfl) fun m c w ys hH hy => by
  rw [one_arg hy]
  refine (Any.strings_Fields_core (P := Tryz.prog) (ρ := Tryz.lays157_ren) Tryz.lays157 (by kernel_rfl) s w hs (fun j b hb => by simpa using List.all_eq_true.1 ha b (List.mem_of_getElem? hb)) (space hH)).mono fun e w' ⟨h1, h2⟩ => ?_
  subst h2
  have ka := MapKept.heap_alloc w (.cells ((Go.Lib.fields s.data.toList).map fun l => Value.string ⟨l.toArray⟩).toArray (Tryz.lays157_ren.t 9))
  refine ⟨w.heap.size, _, _, _, _, by rw [List.length_map]; exact h1, Nat.le_refl _, by rw [List.length_map]; exact Nat.le_refl _, ka.1, fun i x hx => by simpa using hx, rfl, rfl, rfl, ?_, fun k hk => ka.2 k hk⟩
  show _ <= (w.heap.push _).size
  simp
 rw [List.map_map] at k
 exact k
theorem prim_ok0 : ∀ f p, primz0 f = some p -> ∀ lo args h r h', lo <= h.length -> p lo args h = some (r, h') -> CallOK Tryz.prog lo f args h r h' := by
 intro f p hp lo args h r h' hlo he
 unfold primz0 at hp
 split at hp
 ·cases hp
  unfold fieldsP at he
  split at he
  ·split at he
   ·rename_i hc
    cases he
    exact fields_ok hlo hc.1 hc.2
   ·cases he
  ·cases he
 ·cases hp
theorem follows : Tryz.prog.follows .mixedOrders = true := by kernel_rfl
theorem known {prim : Nat -> Option (Nat -> List V -> Heap -> Option (V × Heap))} (hp : ∀ f p, prim f = some p -> ∀ lo args h r h', lo <= h.length -> p lo args h = some (r, h') -> CallOK Tryz.prog lo f args h r h') {n f : Nat} {args : List V} {r : V}
  (he : evFun Tryz.prog hints prim n 0 f args [] = some (r, [])) : CallOK Tryz.prog 0 f args [] r [] := fun_ok follows hp n 0 f args [] r [] (Nat.le_refl _) he
theorem awk_all : ∀ p ∈ awkM, CallOK Tryz.prog 0 10 p.1 [] p.2 [] := by
 unfold awkM
 simp only [List.mem_cons, List.not_mem_nil, or_false, forall_eq]
 exact known prim_ok0 awk0
theorem of_all : ∀ p ∈ ofM, CallOK Tryz.prog 0 9 p.1 [] p.2 [] := by
 unfold ofM
 simp only [List.mem_cons, List.not_mem_nil, or_false, forall_eq]
 exact known prim_ok0 of0
theorem prim_ok : ∀ f p, primz f = some p -> ∀ lo args h r h', lo <= h.length -> p lo args h = some (r, h') -> CallOK Tryz.prog lo f args h r h' := by
 intro f p hp lo args h r h' hlo he
 unfold primz at hp
 split at hp
 ·cases hp
  exact memo_ok of_all (by kernel_rfl) lo args h r h' hlo he
 ·cases hp
  exact memo_ok awk_all (by kernel_rfl) lo args h r h' hlo he
 ·cases hp
  exact prim_ok0 29 _ rfl lo args h r h' hlo he
 ·cases hp
end Go.Lift.V1
end

section
namespace Go.Proofs.YtnipmgpehgchnaaGreatDoor
open Go.Lift Go.Lift.V1 Go.ChangeShapes Go.WideShapes Go.ChangeAt Go.RowKit
theorem isBulk (H : Type) : IsBulk (H := H) Rows.uptoBulk Rows.uptoBulkAll :=
 ⟨rfl, fun _ _ => rfl, fun _ => rfl, fun _ => rfl, fun _ _ => rfl, rfl, fun e s => by show Rows.uptoBulkAll e + 1 ≤ Rows.uptoBulkAll e + Rows.uptoBulkAll s + 1; omega, fun _ => rfl⟩
theorem own : ownKnob Tryz.prog.godebug = none := by kernel_rfl
theorem laidOut : laidOutB Tryz.prog = true := by kernel_rfl
theorem ros_of {w : World} {g : Nat} {cs : List V} (h : ∀ (j : Nat) v, cs[j]? = some v → ∃ x, w.cell? ⟨g, j, none⟩ = some x ∧ VP (wholeCl w) w v x) : ROs (wholeCl w) w ⟨g, 0, none⟩ cs := by
 refine ⟨?_, fun j v hj => by simpa using h j v hj⟩
 cases cs with
 | nil => exact Nat.zero_le _
 | cons c t =>
  have hl : (c :: t)[t.length]? = some ((c :: t)[t.length]'(by simp)) := List.getElem?_eq_getElem (by simp)
  obtain ⟨x, hx, _⟩ := h t.length _ hl
  unfold World.cell? at hx
  unfold wholeCl
  simp only at hx ⊢
  split at hx
  ·rename_i arr e f he
   rw [he]
   simp only [List.length_cons]
   have := (Array.getElem?_eq_some_iff.1 hx).1
   omega
  ·cases hx
theorem kinds_data : (Rows.laid_jalousie_jalousieref3_kinds : DataW Unit) = Lib.tabData .i64 [21, 22, 19, 20, 23, 24, 18, 16, 17] := rfl
theorem space_data : (Rows.laid_strings_asciiSpace : DataW Unit) = Lib.tabData .u8 Lib.asciiSpaceTab := by kernel_rfl
theorem tab_cells {w : World} {name : String} {k : IntKind} {zs : List Int} {g : Nat} {t e : TypeId} {n : Nat} (hn : Tryz.prog.globalNamed name = some g) (hy : (Tryz.prog.globals[g]?).map (·.type) = some t)
  (ht : Tryz.prog.underlying t = some (.array n e)) (he : Tryz.prog.underlying e = some (.int k)) (hce : Tryz.prog.cellsOf e = 1) (hct : Tryz.prog.cellsOf t = n) (h : Lib.VarReads Tryz.prog w name (Lib.tabData k zs)) :
  ∀ (j : Nat) (z : Int), zs[j]? = some z → w.cell? ⟨g, j, none⟩ = some (.int k z) := fun j z hz => by
 obtain ⟨g', t', cs, fuel, p, h1, h2, h3, h4⟩ := h
 obtain rfl := Option.some.inj (hn.symm.trans h1)
 obtain rfl := Option.some.inj (hy.symm.trans h2)
 have hcs := Lib.cells_of_tab ht he hce hct h4
 have := World.var?_cell hn h3 j
 rw [this, ← Array.getElem?_toList, hcs]
 simp [hz]
theorem gok {W : World} (hk : Lib.VarReads Tryz.prog W "jalousie/jalousieref3.kinds" Rows.laid_jalousie_jalousieref3_kinds) (hs : Lib.VarReads Tryz.prog W "strings.asciiSpace" Rows.laid_strings_asciiSpace) : GOK W := by
 rw [kinds_data] at hk
 rw [space_data] at hs
 intro n cs hc
 have e : GTab.tab n = gtab.1 n := rfl
 rw [e] at hc
 unfold gtab at hc
 simp only at hc
 split at hc
 ·have c0 := tab_cells (g := 0) (t := 98) (e := 5) (n := 256) (by kernel_rfl) (by kernel_rfl) (by kernel_rfl) (by kernel_rfl) (by kernel_rfl) (by kernel_rfl) hs
  cases hc
  refine ros_of fun j v hj => ?_
  simp only [List.getElem?_map, Option.map_eq_some_iff] at hj
  obtain ⟨k, hk2, rfl⟩ := hj
  obtain ⟨hj1, rfl⟩ := List.getElem?_eq_some_iff.1 hk2
  simp only [List.length_range] at hj1
  rw [List.getElem_range]
  exact ⟨_, c0 j _ (by unfold Lib.asciiSpaceTab; rw [List.getElem?_map, List.getElem?_range hj1]; rfl), .v _ rfl⟩
 ·have c0 := tab_cells (g := 2) (t := 127) (e := 3) (n := 9) (by kernel_rfl) (by kernel_rfl) (by kernel_rfl) (by kernel_rfl) (by kernel_rfl) (by kernel_rfl) hk
  cases hc
  refine ros_of fun j v hj => ?_
  have hj2 : (([21, 22, 19, 20, 23, 24, 18, 16, 17] : List Int).map fun z => V.v (.int .i64 z))[j]? = some v := hj
  simp only [List.getElem?_map, Option.map_eq_some_iff] at hj2
  obtain ⟨k, hk2, rfl⟩ := hj2
  exact ⟨_, c0 j k hk2, .v _ rfl⟩
 ·cases hc
noncomputable def laidWorld (os : Os) : World :=
 let N := (World.settled Tryz.prog os).heap.size
 let w0 := World.holding Tryz.prog os ⟨#[.cells ([9, 13, 1, 32, 133, 101, 160, 5760, 5600, 8192, 8202, 1, 8232, 8233, 1, 8239, 8287, 48, 12288, 12288, 1].map fun z => Value.int .u16 z).toArray 146, .cells #[.slice (some ⟨N, 0, none⟩) 7 7, .slice none 0 0, .int .i64 2] 143], #[], []⟩
 let put (h : Array Obj) (g : Nat) (cs : Array Value) : Array Obj := h.modify g fun
  | .cells _ t frozen => .cells cs t frozen
  | o => o
 let h1 := put w0.heap 0 (Lib.asciiSpaceTab.map fun z => Value.int .u8 z).toArray
 let h2 := put h1 2 ([21, 22, 19, 20, 23, 24, 18, 16, 17].map fun z => Value.int .i64 z).toArray
 let h3 := put h2 1 #[.pointer (some ⟨N + 1, 0, none⟩)]
 { w0 with heap := h3 }
theorem laid3 (os : Os) (args : Array Value) : LaidIn Tryz.prog ((laidWorld os).forCall (fun _ _ => 0) ⟨#[], args, []⟩).memory [("jalousie/jalousieref3.kinds", Rows.laid_jalousie_jalousieref3_kinds), ("unicode.White_Space", Rows.laid_unicode_White_Space), ("strings.asciiSpace", Rows.laid_strings_asciiSpace)] (List.range 200) :=
 LaidIn.of_run (List.range 200) 8 (by kernel_rfl) (by kernel_rfl) (by kernel_rfl) (by kernel_rfl)
theorem ty_int {t : TypeId} {k : IntKind} {p : List V} (ht : Tryz.prog.underlying t = some (.int k)) (h : Ty Tryz.prog t p) : ∃ n, p = [.v (.int k n)] ∧ (Lit.int k n).wf = true := by
 cases h with
 | int k' n hu hw => rw [ht] at hu; cases hu; exact ⟨n, rfl, hw⟩
 | bool b hu => rw [ht] at hu; cases hu
 | string s hu => rw [ht] at hu; cases hu
 | slice rows hu _ => rw [ht] at hu; cases hu
 | struct fs cells hu _ => rw [ht] at hu; cases hu
theorem ty_bool {t : TypeId} {p : List V} (ht : Tryz.prog.underlying t = some .bool) (h : Ty Tryz.prog t p) : ∃ b, p = [.v (.bool b)] := by
 cases h with
 | int k' n hu hw => rw [ht] at hu; cases hu
 | bool b hu => exact ⟨b, rfl⟩
 | string s hu => rw [ht] at hu; cases hu
 | slice rows hu _ => rw [ht] at hu; cases hu
 | struct fs cells hu _ => rw [ht] at hu; cases hu
theorem ty_str {t : TypeId} {p : List V} (ht : Tryz.prog.underlying t = some .string) (h : Ty Tryz.prog t p) : ∃ s, p = [.v (.string s)] := by
 cases h with
 | int k' n hu hw => rw [ht] at hu; cases hu
 | bool b hu => rw [ht] at hu; cases hu
 | string s hu => exact ⟨s, rfl⟩
 | slice rows hu _ => rw [ht] at hu; cases hu
 | struct fs cells hu _ => rw [ht] at hu; cases hu
theorem ty_fields {t : TypeId} {fs : Array Field} {p : List V} (ht : Tryz.prog.underlying t = some (.struct fs)) (h : Ty Tryz.prog t p) : TyFs Tryz.prog fs.toList p := by
 cases h with
 | int k' n hu hw => rw [ht] at hu; cases hu
 | bool b hu => rw [ht] at hu; cases hu
 | string s hu => rw [ht] at hu; cases hu
 | slice rows hu _ => rw [ht] at hu; cases hu
 | struct fs' cells hu hf => rw [ht] at hu; cases hu; exact hf
theorem fs_cons {f : Field} {fs : List Field} {p : List V} (h : TyFs Tryz.prog (f :: fs) p) : ∃ a b, p = a ++ b ∧ Ty Tryz.prog f.type a ∧ TyFs Tryz.prog fs b := by
 cases h with
 | cons h1 h2 => exact ⟨_, _, rfl, h1, h2⟩
theorem fs_nil {p : List V} (h : TyFs Tryz.prog [] p) : p = [] := by
 cases h; rfl
theorem any_bs (s : ByteArray) : ∃ l : List Int, Utf.By l ∧ s = Rul.bs l ∧ l.length = s.size := by
 refine ⟨s.data.toList.map fun c => (c.toNat : Int), ?_, ?_, ?_⟩
 ·intro c hc
  obtain ⟨x, _, rfl⟩ := List.mem_map.1 hc
  have := x.toNat_lt
  omega
 ·apply ByteArray.ext
  unfold Rul.bs u8s
  simp only [List.map_map]
  apply Array.toList_inj.1
  conv => lhs; rw [← List.map_id s.data.toList]
  apply List.map_congr_left
  intro c _
  simp
 ·rw [List.length_map, Array.length_toList]; rfl
theorem ty_slice {t e : TypeId} {p : List V} (ht : Tryz.prog.underlying t = some (.slice e)) (h : Ty Tryz.prog t p) : ∃ rows, p = [.list .no rows] ∧ ∀ row ∈ rows, Ty Tryz.prog e row := by
 cases h with
 | int k' n hu hw => rw [ht] at hu; cases hu
 | bool b hu => rw [ht] at hu; cases hu
 | string s hu => rw [ht] at hu; cases hu
 | slice rows hu hr => rw [ht] at hu; cases hu; exact ⟨rows, rfl, hr⟩
 | struct fs cells hu _ => rw [ht] at hu; cases hu
theorem tv {t e : TypeId} {v : V} (ht : Tryz.prog.underlying t = some (.slice e)) (h : TyV Tryz.prog t v) : Ty Tryz.prog t [v] := by
 unfold TyV at h
 rw [ht] at h
 exact h
end Go.Proofs.YtnipmgpehgchnaaGreatDoor
end

section
namespace Go.Proofs.YtnipmgpehgchnaaGreatDoor
open Go.Lift Go.Lift.V1 Go.ChangeShapes Go.WideShapes Go.ChangeAt Go.RowKit
theorem wf_64 {n : Int} (h : (Lit.int .i64 n).wf = true) : -9223372036854775808 <= n /\ n <= 9223372036854775807 := by
 simp [Lit.wf, IntKind.min, IntKind.max, IntKind.signed, IntKind.bits] at h
 omega
theorem tyTkw {p : List V} (hc : Ty Tryz.prog 55 p) : ∃ t : Rul.Tk4, p = Rul.row t /\ Utf.By t.b /\ (-9223372036854775808 <= t.n /\ t.n <= 9223372036854775807) /\ (-9223372036854775808 <= t.d /\ t.d <= 9223372036854775807) /\ vsRow p = t.b.length + 6 := by
 have h1 := ty_fields Tryz.underlying55 hc
 obtain ⟨p1, q1, rfl, t1, h1⟩ := fs_cons h1
 obtain ⟨p2, q2, rfl, t2, h1⟩ := fs_cons h1
 obtain ⟨p3, q3, rfl, t3, h1⟩ := fs_cons h1
 obtain ⟨p4, q4, rfl, t4, h1⟩ := fs_cons h1
 obtain ⟨p5, q5, rfl, t5, h1⟩ := fs_cons h1
 obtain rfl := fs_nil h1
 obtain ⟨k, rfl, _⟩ := ty_int Tryz.underlying3 t1
 obtain ⟨s, rfl⟩ := ty_str Tryz.underlying9 t2
 have h2 := ty_fields Tryz.underlying28 t3
 obtain ⟨p6, q6, rfl, t6, h2⟩ := fs_cons h2
 obtain ⟨p7, q7, rfl, t7, h2⟩ := fs_cons h2
 obtain rfl := fs_nil h2
 obtain ⟨n, rfl, hn⟩ := ty_int Tryz.underlying2 t6
 obtain ⟨d, rfl, hd⟩ := ty_int Tryz.underlying2 t7
 obtain ⟨w, rfl⟩ := ty_bool Tryz.underlying4 t4
 obtain ⟨i, rfl⟩ := ty_bool Tryz.underlying4 t5
 obtain ⟨b, hb, rfl, hl⟩ := any_bs s
 refine ⟨⟨k, b, n, d, w, i⟩, rfl, hb, wf_64 hn, wf_64 hd, ?_⟩
 simp [vsRow, vsize]
 omega
theorem tyValw {p : List V} (hc : Ty Tryz.prog 57 p) : ∃ (t : Rul.Tk4) (rows : List (List V)), p = Rul.row t ++ [.list .no rows] /\ (∀ row ∈ rows, Ty Tryz.prog 57 row) /\ (Utf.By t.b /\ (-9223372036854775808 <= t.n /\ t.n <= 9223372036854775807) /\ (-9223372036854775808 <= t.d /\ t.d <= 9223372036854775807)) /\ vsRow p = t.b.length + 7 + vsRows rows := by
 have h1 := ty_fields Tryz.underlying57 hc
 obtain ⟨p1, q1, rfl, t1, h1⟩ := fs_cons h1
 obtain ⟨p2, q2, rfl, t2, h1⟩ := fs_cons h1
 obtain rfl := fs_nil h1
 obtain ⟨t, rfl, a, b, c, e⟩ := tyTkw t1
 obtain ⟨rows, rfl, hr⟩ := ty_slice Tryz.underlying22 t2
 refine ⟨t, rows, rfl, hr, ⟨a, b, c⟩, ?_⟩
 rw [vsRow_append, e, List.append_nil]
 simp [vsRow, vsize]
 omega
theorem tyValsw : ∀ (n : Nat) (rows : List (List V)), vsRows rows <= n -> n <= 1048576 -> (∀ row ∈ rows, Ty Tryz.prog 57 row) ->
  ∃ l : List Rul.CV, rows = Rul.rowsC l /\ okWL l /\ Rul.nodesL l <= vsRows rows := by
 intro n
 induction n with
 | zero =>
  intro rows hs hn h
  cases rows with
  | nil => exact ⟨[], by rw [Rul.rowsC_nil], by rw [okWL]; trivial, by rw [Rul.nodesL_nil]; omega⟩
  | cons r rs =>
   obtain ⟨t, ks, rfl, _, _, e⟩ := tyValw (h r (List.mem_cons_self ..))
   simp only [vsRows] at hs
   omega
 | succ n ih =>
  intro rows hs hn h
  cases rows with
  | nil => exact ⟨[], by rw [Rul.rowsC_nil], by rw [okWL]; trivial, by rw [Rul.nodesL_nil]; omega⟩
  | cons r rs =>
   obtain ⟨t, ks, rfl, hk, a, e⟩ := tyValw (h r (List.mem_cons_self ..))
   simp only [vsRows, e] at hs ⊢
   obtain ⟨kl, rfl, k1, k2⟩ := ih ks (by omega) (by omega) hk
   obtain ⟨l, rfl, l1, l2⟩ := ih rs (by omega) (by omega) fun row hm => h row (List.mem_cons_of_mem _ hm)
   refine ⟨.mk t kl :: l, ?_, ?_, ?_⟩
   ·rw [Rul.rowsC_cons, Rul.rowV]
   ·rw [okWL, okWV]
    exact ⟨⟨⟨a.1, by omega, a.2.1, a.2.2⟩, k1⟩, l1⟩
   ·rw [Rul.nodesL_cons, Rul.nodesV_eq, show (Rul.CV.mk t kl).ks = kl from rfl]
    omega
theorem ty22w {v : V} {n : Nat} (h : TyV Tryz.prog 22 v) (hs : asize v <= n) (hn : n <= 1048576) : ∃ l : List Rul.CV, v = .list .no (Rul.rowsC l) /\ okWL l /\ Rul.nodesL l <= n := by
 obtain ⟨rows, hp, hr⟩ := ty_slice Tryz.underlying22 (tv Tryz.underlying22 h)
 obtain rfl : v = .list .no rows := by simpa using hp
 have hv : vsRows rows <= n := by simp only [asize, vsize] at hs; omega
 obtain ⟨l, rfl, a, b⟩ := tyValsw n rows hv hn hr
 exact ⟨l, rfl, a, by omega⟩
end Go.Proofs.YtnipmgpehgchnaaGreatDoor
end

section
namespace Go.Proofs.YtnipmgpehgchnaaGreatDoor
theorem and_tt {a b : Bool} (ha : a = true) (hb : b = true) : (a && b) = true := by rw [ha, hb]; rfl
theorem fact2 : laidOutB Tryz.prog = true := by kernel_rfl
theorem fact3 : mapsRowed Tryz.prog = true := by kernel_rfl
theorem fact7 : (Tryz.prog.stops == []) = true := by kernel_rfl
theorem fact9 : (Tryz.prog.stopKnobs == []) = true := by kernel_rfl
theorem fact23 : (Rows.propCaseUptoRow.plainKeys == Tryz.prog.plainKeys) = true := by kernel_rfl
theorem fact25 : Tryz.prog.stopsHeard = true := by kernel_rfl
theorem fact26 : Tryz.prog.mayEnter = true := by kernel_rfl
theorem fact27 : (Rows.propCaseUptoRow.lifted == Tryz.prog.liftsFinal) = true := by kernel_rfl
theorem fact28 : (Tryz.prog.make == some Rows.propCaseUptoRow.make) = true := by kernel_rfl
end Go.Proofs.YtnipmgpehgchnaaGreatDoor
end
