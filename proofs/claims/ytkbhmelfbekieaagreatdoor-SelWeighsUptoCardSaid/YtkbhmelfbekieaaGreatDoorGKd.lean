/- What is taken from the library's contracts: strings' search for a byte. -/
import Derived.WalkKit
import Derived.Lib.Bytealg
import Derived.Lib.AppendIntMem
import Derived.Lib.LaidTab
import Derived.Lib.LaidU8
import Derived.Lib.LaidIn
import Derived.Deep.DeepHandedRow
import Derived.Deep.DeepWitnessRowRef
import Derived.Test.YtkbhmelfbekieaaGreatDoorRows
import Derived.JoinedOf
import Derived.ProofKit
import Derived.Test.YtkbhmelfbekieaaGreatDoorGLd
import Derived.Test.YtkbhmelfbekieaaGreatDoorGKb
import Derived.Test.YtkbhmelfbekieaaGreatDoorGKc
set_option linter.unusedVariables false
set_option linter.unusedSimpArgs false
set_option linter.unusedSectionVars false
set_option maxRecDepth 100000
set_option maxHeartbeats 4000000
section
namespace Go.Lift.Z9
variable [MX]
open Go.Proofs Go.RowKit
theorem walk235 (s : ByteArray) (c : Int) (w : World) :
  Calls Tryz.prog 121 #[.string s, .int .u8 c] w fun e w' => e = .returned (.int .i64 (Go.Lib.indexByte s.data.toList c.toNat.toUInt8)) /\ w' = w := by
 go_enter Tryz.func121, Tryz.ntmps121
 go_wp2
 rw [run_callFunc_extern Tryz.func131 (by kernel_rfl) (by kernel_rfl) (by kernel_rfl) (e := Extern.BytealgIndexByte.indexByte) (by kernel_rfl), Go.Lib.run_indexByteString]
 simp only [Result.andThen]
 rw [Oper.upon_value]
 go_wp2
 go_ret
 exact ⟨rfl, rfl⟩
theorem walk159one (s : ByteArray) (c : UInt8) (w : World) :
  Calls Tryz.prog 112 #[.string s, .string ⟨#[c]⟩] w fun e w' => e = .returned (.int .i64 (Go.Lib.indexByte s.data.toList c)) /\ w' = w :=
 Any.stringslite_Index_one (P := Tryz.prog) (ρ := Tryz.lays219_ren) { Tryz.lays219 with } s c w
theorem walk206 (s t : ByteArray) (m : Int) (w : World) (hs : s.size < 4294967281) (hm : w.cell? ⟨1, 0, none⟩ = some (.int .i64 m)) :
  Calls Tryz.prog 112 #[.string s, .string t] w fun e w' => e = .returned (.int .i64 (Go.Lib.index s.data.toList t.data.toList)) /\ w' = w :=
 Any.stringslite_Index (P := Tryz.prog) (ρ := Tryz.lays219_ren) { Tryz.lays219 with } s t m w hs hm
theorem quiet_ok {m : List Nat} {c : Cl} {w w' : World} {h : Heap} {lo : Nat} (hH : HOK m c w h) (hb : Below w.heap.size w w') :
  HOK m c w' h /\ Fr lo (hoOf m w h lo) w m c w' m c /\ Owned lo (hoOf m w h lo) w m w' [] h act0 := by
 obtain ⟨hC, hold⟩ := hH
 have hcell : ∀ b o, b < w.heap.size -> w'.cell? ⟨b, o, none⟩ = w.cell? ⟨b, o, none⟩ := fun b o hl => cell_of_heap (hb.block b hl) o
 have hce : ∀ b, 0 < c b -> b < w.heap.size := fun b h0 => by
  rcases Nat.lt_or_ge b w.heap.size with hl | hl
  ·exact hl
  ·rw [hC.c_zero hl] at h0; omega
 have he : Ext c w c w' := ⟨fun _ => Nat.le_refl _, fun b o ho => hcell b o (hce b (by omega)), fun b _ => by
  rcases Nat.lt_or_ge b w.heap.size with hl | hl
  ·exact Shp.same (hb.block b hl)
  ·exact Shp.none hl⟩
 have hm : ∀ {i b}, m[i]? = some b -> w'.heap[b]? = w.heap[b]? /\ c b = c b := fun {i b} hi => ⟨hb.block b (hC.m_lt hi), rfl⟩
 have hAt : ∀ {l r x}, At m w' [] h act0 l r x -> At m w [] h act0 l r x := fun {l r x} hl => by
  cases l with
  | slot t => exact hl
  | cell i j =>
   obtain ⟨cs, b, h1, h2, h3, h4⟩ := hl
   exact ⟨cs, b, h1, h2, h3, by rw [<- cell_of_heap (hm h3).1]; exact h4⟩
 have hAt' : ∀ {l r x}, At m w [] h act0 l r x -> At m w' [] h act0 l r x := fun {l r x} hl => by
  cases l with
  | slot t => exact hl
  | cell i j =>
   obtain ⟨cs, b, h1, h2, h3, h4⟩ := hl
   exact ⟨cs, b, h1, h2, h3, by rw [cell_of_heap (hm h3).1]; exact h4⟩
 refine ⟨⟨⟨fun b h0 => ?_, hC.wf2, hC.nd, hC.len, fun t => (hC.env t).mono (Pre.refl m) he, fun i o b ho hbm => (hC.ob i o b ho hbm).keep (hm hbm).1 (Pre.refl m) he, fun l r x hl => ?_,
   fun l l' r r' x x' b h1 h2 => hC.uniq l l' r r' x x' b (hAt h1) (hAt h2), hC.tagS, fun t i j r ht => hAt' (hC.tagC t i j r ht), fun n cs hg => (hC.gt n cs hg).mono he⟩, hold⟩,
  ⟨hb.os, hb.tape, hb.output, hb.size, Pre.refl m, fun i b hi hbm => ?_, he, fun b hl _ _ => ⟨hb.block b hl, rfl⟩⟩, fun l r x b hl hu hbx => ?_⟩
 ·rw [hb.block b (hce b h0)]
  exact hC.wf1 b h0
 ·refine (hC.own l r x (hAt hl)).keep fun b hbx => ?_
  exact ⟨hb.block b ((hC.own l r x (hAt hl)).lt hbx).1, rfl, id⟩
 ·have := (List.getElem?_eq_some_iff.1 hbm).1
  omega
 ·right
  cases l with
  | slot t => exact absurd hl.1 (by simp [look])
  | cell i j => exact ⟨i, j, r, x, hu, hAt hl, hbx⟩
theorem prim_quiet {f lo : Nat} {args : List V} {h : Heap} {x : Value} (he : ∀ xs w, (callFunc f xs).run Tryz.prog w = .ok (.enter f xs) w)
  (hx : ∀ m c w (xs : Array Value), HOK m c w h -> R2 (VRr m c w) args xs.toList -> Calls Tryz.prog f xs w fun e w' => e = .returned x /\ Below w.heap.size w w') :
  CallOK Tryz.prog lo f args h (.v x) h :=
 CallOK0.ok ⟨rfl, he, fun m c w xs hH ha => ⟨⟨rfl, rfl, Keeps.refl _ _⟩, (hx m c w xs hH ha).mono fun e w' ⟨h1, hb⟩ => by
  obtain ⟨q1, q2, q3⟩ := quiet_ok (lo := lo) hH hb
  exact ⟨_, c, h1, rfl, q1, q2, q3⟩⟩⟩
theorem two_args {m : List Nat} {c : Cl} {w : World} {a b : Value} {xs : Array Value} (h : R2 (VRr m c w) [.v a, .v b] xs.toList) : xs = #[a, b] := by
 obtain ⟨l⟩ := xs
 match l, h.1 with
 | [x, y], _ =>
  have h0 : x = a := h.2 0 _ _ rfl rfl
  have h1 : y = b := h.2 1 _ _ rfl rfl
  rw [h0, h1]
theorem tab2 : GTab.tab 1 = some [V.v (.int .i64 MX.m)] := rfl
theorem cell_of {c : Cl} {w : World} {n : Nat} {cs : List V} (hg : ROs c w ⟨n, 0, none⟩ cs) {j : Nat} {x : Value} (hj : cs[j]? = some (.v x)) : w.cell? ⟨n, j, none⟩ = some x := by
 obtain ⟨_, h⟩ := hg
 obtain ⟨y, hy, hv⟩ := h j _ hj
 rw [Nat.zero_add] at hy
 rw [hy, VP.v_eq hv]
theorem maxLen {m : List Nat} {c : Cl} {w : World} {h : Heap} (hH : HOK m c w h) : w.cell? ⟨1, 0, none⟩ = some (.int .i64 MX.m) :=
 cell_of (hH.1.gt 1 _ tab2) rfl
theorem prim_ok0 : ∀ f p, primz0 f = some p -> ∀ lo args h r h', lo <= h.length -> p lo args h = some (r, h') -> CallOK Tryz.prog lo f args h r h' := by
 intro f p hp lo args h r h' hlo he
 unfold primz0 at hp
 split at hp
 ·cases hp
  unfold idxP at he
  split at he
  ·rename_i s c
   cases he
   exact prim_quiet (enters_of Tryz.func121 (by kernel_rfl) rfl) fun m c' w xs hH ha => by
    rw [two_args ha]
    exact (walk235 s c w).mono fun e w' ⟨h1, h2⟩ => ⟨h1, h2 ▸ Below.refl _ _⟩
  ·cases he
 ·cases hp
  unfold ixP at he
  split at he
  ·rename_i s t
   split at he
   ·rename_i c0 hc
    cases he
    obtain rfl : t = ⟨#[c0]⟩ := by
     apply ByteArray.ext
     exact Array.toList_inj.1 hc
    exact prim_quiet (enters_of Tryz.func112 (by kernel_rfl) rfl) fun m c' w xs hH ha => by
     rw [two_args ha]
     exact (walk159one s c0 w).mono fun e w' ⟨h1, h2⟩ => ⟨h1, h2 ▸ Below.refl _ _⟩
   ·split at he
    ·rename_i hs
     cases he
     exact prim_quiet (enters_of Tryz.func112 (by kernel_rfl) rfl) fun m c' w xs hH ha => by
      rw [two_args ha]
      exact (walk206 s t MX.m w hs (maxLen hH)).mono fun e w' ⟨h1, h2⟩ => ⟨h1, h2 ▸ Below.refl _ _⟩
    ·cases he
  ·cases he
 ·cases hp
theorem hok_nil {m : List Nat} {c : Cl} {w : World} {h : Heap} (hH : HOK m c w h) : HOK [] c w [] := by
 have hn : ∀ {l r x}, ¬ At [] w [] [] act0 l r x := fun {l r x} hl => by
  cases l with
  | slot t => exact absurd hl.1 (by simp [look])
  | cell i j => obtain ⟨cs, b, k1, _⟩ := hl; unfold cellsOfOb at k1; simp at k1
 have hl0 : ∀ t : Nat, look [] t = V.undef := fun t => rfl
 refine ⟨⟨hH.1.wf1, fun b hb => (List.not_mem_nil hb).elim, List.nodup_nil, rfl, fun t => ?_, fun i o b hi => ?_, fun l r x hl => absurd hl hn, fun l l' r r' x x' b hl => absurd hl hn, fun t u r ht => ?_, fun t i j r ht => ?_, hH.1.gt⟩, fun i cs hi => ?_⟩
 ·rw [hl0]; trivial
 ·simp at hi
 ·rw [hl0] at ht; cases ht
 ·rw [hl0] at ht; cases ht
 ·unfold cellsOfOb at hi; simp at hi
theorem prim_alone {f : Nat} {x : Value} (hk : CallOK Tryz.prog 0 f [] [] (.v x) []) (lo : Nat) (h : Heap) : CallOK Tryz.prog lo f [] h (.v x) h :=
 prim_quiet hk.2.1 fun m c w xs hH ha => by
  have ha' : R2 (VRr [] c w) [] xs.toList := ⟨ha.1, fun i a b h1 => by simp at h1⟩
  refine (hk.2.2 [] c w xs (hok_nil hH) ha').2.mono fun e w' ⟨y, c', m', he, hv, hH', hF, _⟩ => ?_
  have hx : y = x := hv
  subst hx
  refine ⟨he, hF.os, hF.tape, hF.output, hF.size, fun b hb => (hF.fix b hb (fun i _ => by simp) fun ⟨i, j, r, z, _, hl, _⟩ => ?_).1⟩
  obtain ⟨cs, b', k1, _⟩ := hl
  unfold cellsOfOb at k1
  simp at k1
theorem prim_ok : ∀ f p, primz f = some p -> ∀ lo args h r h', lo <= h.length -> p lo args h = some (r, h') -> CallOK Tryz.prog lo f args h r h' := by
 intro f p hp lo args h r h' hlo he
 unfold primz at hp
 split at hp
 ·cases hp
  unfold awkP at he
  split at he
  ·cases he
   exact prim_alone (fun_ok (by kernel_rfl) prim_ok0 80 0 12 [] [] _ _ (Nat.le_refl _) f12z) lo h
  ·cases he
 ·exact prim_ok0 121 p hp lo args h r h' hlo he
 ·exact prim_ok0 112 p hp lo args h r h' hlo he
 ·cases hp
end Go.Lift.Z9
end

section
namespace Go.Proofs.YtkbhmelfbekieaaGreatDoor
open Go.Lift Go.Lift.Z9 Go.ChangeShapes Go.WideShapes Go.ChangeAt Go.RowKit
theorem isBulk (H : Type) : IsBulk (H := H) Rows.uptoBulk Rows.uptoBulkAll :=
 ⟨rfl, fun _ _ => rfl, fun _ => rfl, fun _ => rfl, fun _ _ => rfl, rfl, fun e s => by show Rows.uptoBulkAll e + 1 ≤ Rows.uptoBulkAll e + Rows.uptoBulkAll s + 1; omega, fun _ => rfl⟩
theorem own : ownKnob Tryz.prog.godebug = none := by kernel_rfl
theorem laidOut : laidOutB Tryz.prog = true := by kernel_rfl
theorem follows : Tryz.prog.follows .mixedOrders = true := by kernel_rfl
theorem ros_of {w : World} {g : Nat} {cs : List V} (h : ∀ (j : Nat) v, cs[j]? = some v → ∃ x, w.cell? ⟨g, j, none⟩ = some x ∧ VP (wholeCl w) w v x) : ROs (wholeCl w) w ⟨g, 0, none⟩ cs := by
 refine ⟨?_, fun j v hj => by simpa using h j v hj⟩
 cases cs with
 | nil => exact Nat.zero_le _
 | cons c t =>
  have hl : (c :: t)[t.length]? = some ((c :: t)[t.length]'(by simp)) := List.getElem?_eq_getElem (by simp)
  obtain ⟨x, hx, _⟩ := h t.length _ hl
  unfold World.cell? at hx
  unfold wholeCl
  simp only at hx ⊢
  split at hx
  ·rename_i arr e f he
   rw [he]
   simp only [List.length_cons]
   have := (Array.getElem?_eq_some_iff.1 hx).1
   omega
  ·cases hx
theorem kinds_data : (Rows.laid_jalousie_jalousieref3_kinds : DataW Unit) = Lib.tabData .i64 [21, 22, 19, 20, 23, 24, 18, 16, 17] := rfl
theorem tab_cells {w : World} {name : String} {k : IntKind} {zs : List Int} {g : Nat} {t e : TypeId} {n : Nat} (hn : Tryz.prog.globalNamed name = some g) (hy : (Tryz.prog.globals[g]?).map (·.type) = some t)
  (ht : Tryz.prog.underlying t = some (.array n e)) (he : Tryz.prog.underlying e = some (.int k)) (hce : Tryz.prog.cellsOf e = 1) (hct : Tryz.prog.cellsOf t = n) (h : Lib.VarReads Tryz.prog w name (Lib.tabData k zs)) :
  ∀ (j : Nat) (z : Int), zs[j]? = some z → w.cell? ⟨g, j, none⟩ = some (.int k z) := fun j z hz => by
 obtain ⟨g', t', cs, fuel, p, h1, h2, h3, h4⟩ := h
 obtain rfl := Option.some.inj (hn.symm.trans h1)
 obtain rfl := Option.some.inj (hy.symm.trans h2)
 have hcs := Lib.cells_of_tab ht he hce hct h4
 have := World.var?_cell hn h3 j
 rw [this, ← Array.getElem?_toList, hcs]
 simp [hz]
theorem gok [MX] {W : World} (hm : W.cell? ⟨1, 0, none⟩ = some (.int .i64 MX.m)) (hk : Lib.VarReads Tryz.prog W "jalousie/jalousieref3.kinds" Rows.laid_jalousie_jalousieref3_kinds) : GOK W := by
 rw [kinds_data] at hk
 intro n cs hc
 have e : GTab.tab n = gtab.1 n := rfl
 rw [e] at hc
 unfold gtab at hc
 simp only at hc
 split at hc
 ·have c0 := tab_cells (g := 0) (t := 99) (e := 3) (n := 9) (by kernel_rfl) (by kernel_rfl) (by kernel_rfl) (by kernel_rfl) (by kernel_rfl) (by kernel_rfl) hk
  cases hc
  refine ros_of fun j v hj => ?_
  have hj2 : (([21, 22, 19, 20, 23, 24, 18, 16, 17] : List Int).map fun z => V.v (.int .i64 z))[j]? = some v := hj
  simp only [List.getElem?_map, Option.map_eq_some_iff] at hj2
  obtain ⟨k, hk2, rfl⟩ := hj2
  exact ⟨_, c0 j k hk2, .v _ rfl⟩
 ·cases hc
  refine ros_of fun j v hj => ?_
  cases j with
  | zero =>
   cases hj
   exact ⟨_, hm, .v _ rfl⟩
  | succ j => simp at hj
 ·cases hc
noncomputable def laidWorld (os : Os) : World :=
 let w0 := World.holding Tryz.prog os ⟨#[], #[], []⟩
 let put (h : Array Obj) (g : Nat) (cs : Array Value) : Array Obj := h.modify g fun
  | .cells _ t frozen => .cells cs t frozen
  | o => o
 let h6 := put w0.heap 0 ([21, 22, 19, 20, 23, 24, 18, 16, 17].map fun z => Value.int .i64 z).toArray
 { w0 with heap := h6 }
theorem laid1 (os : Os) (args : Array Value) : LaidIn Tryz.prog ((laidWorld os).forCall (fun _ _ => 0) ⟨#[], args, []⟩).memory [("jalousie/jalousieref3.kinds", Rows.laid_jalousie_jalousieref3_kinds)] [0] :=
 LaidIn.of_run [0] 8 (by kernel_rfl) (by kernel_rfl) (by kernel_rfl) (by kernel_rfl)
theorem ty_int {t : TypeId} {k : IntKind} {p : List V} (ht : Tryz.prog.underlying t = some (.int k)) (h : Ar.Ty Tryz.prog t p) : ∃ n, p = [.v (.int k n)] ∧ (Lit.int k n).wf = true := by
 cases h with
 | int k' n hu hw => rw [ht] at hu; cases hu; exact ⟨n, rfl, hw⟩
 | bool b hu => rw [ht] at hu; cases hu
 | string s hu => rw [ht] at hu; cases hu
 | slice rows hu _ => rw [ht] at hu; cases hu
 | struct fs cells hu _ => rw [ht] at hu; cases hu
 | array n cells hu _ => rw [ht] at hu; cases hu
theorem ty_bool {t : TypeId} {p : List V} (ht : Tryz.prog.underlying t = some .bool) (h : Ar.Ty Tryz.prog t p) : ∃ b, p = [.v (.bool b)] := by
 cases h with
 | int k' n hu hw => rw [ht] at hu; cases hu
 | bool b hu => exact ⟨b, rfl⟩
 | string s hu => rw [ht] at hu; cases hu
 | slice rows hu _ => rw [ht] at hu; cases hu
 | struct fs cells hu _ => rw [ht] at hu; cases hu
 | array n cells hu _ => rw [ht] at hu; cases hu
theorem ty_str {t : TypeId} {p : List V} (ht : Tryz.prog.underlying t = some .string) (h : Ar.Ty Tryz.prog t p) : ∃ s, p = [.v (.string s)] := by
 cases h with
 | int k' n hu hw => rw [ht] at hu; cases hu
 | bool b hu => rw [ht] at hu; cases hu
 | string s hu => exact ⟨s, rfl⟩
 | slice rows hu _ => rw [ht] at hu; cases hu
 | struct fs cells hu _ => rw [ht] at hu; cases hu
 | array n cells hu _ => rw [ht] at hu; cases hu
theorem ty_fields {t : TypeId} {fs : Array Field} {p : List V} (ht : Tryz.prog.underlying t = some (.struct fs)) (h : Ar.Ty Tryz.prog t p) : Ar.TyFs Tryz.prog fs.toList p := by
 cases h with
 | int k' n hu hw => rw [ht] at hu; cases hu
 | bool b hu => rw [ht] at hu; cases hu
 | string s hu => rw [ht] at hu; cases hu
 | slice rows hu _ => rw [ht] at hu; cases hu
 | struct fs' cells hu hf => rw [ht] at hu; cases hu; exact hf
 | array n cells hu _ => rw [ht] at hu; cases hu
theorem fs_cons {f : Field} {fs : List Field} {p : List V} (h : Ar.TyFs Tryz.prog (f :: fs) p) : ∃ a b, p = a ++ b ∧ Ar.Ty Tryz.prog f.type a ∧ Ar.TyFs Tryz.prog fs b := by
 cases h with
 | cons h1 h2 => exact ⟨_, _, rfl, h1, h2⟩
theorem fs_nil {p : List V} (h : Ar.TyFs Tryz.prog [] p) : p = [] := by
 cases h; rfl
theorem any_bs (s : ByteArray) : ∃ l : List Int, Utf.By l ∧ s = Rul.bs l ∧ l.length = s.size := by
 refine ⟨s.data.toList.map fun c => (c.toNat : Int), ?_, ?_, ?_⟩
 ·intro c hc
  obtain ⟨x, _, rfl⟩ := List.mem_map.1 hc
  have := x.toNat_lt
  omega
 ·apply ByteArray.ext
  unfold Rul.bs u8s
  simp only [List.map_map]
  apply Array.toList_inj.1
  conv => lhs; rw [← List.map_id s.data.toList]
  apply List.map_congr_left
  intro c _
  simp
 ·rw [List.length_map, Array.length_toList]; rfl
theorem ty_slice {t e : TypeId} {p : List V} (ht : Tryz.prog.underlying t = some (.slice e)) (h : Ar.Ty Tryz.prog t p) : ∃ rows, p = [.list .no rows] ∧ ∀ row ∈ rows, Ar.Ty Tryz.prog e row := by
 cases h with
 | int k' n hu hw => rw [ht] at hu; cases hu
 | bool b hu => rw [ht] at hu; cases hu
 | string s hu => rw [ht] at hu; cases hu
 | slice rows hu hr => rw [ht] at hu; cases hu; exact ⟨rows, rfl, hr⟩
 | struct fs cells hu _ => rw [ht] at hu; cases hu
 | array n cells hu _ => rw [ht] at hu; cases hu
theorem tv {t e : TypeId} {v : V} (ht : Tryz.prog.underlying t = some (.slice e)) (h : Ar.TyV Tryz.prog t v) : Ar.Ty Tryz.prog t [v] := by
 unfold Ar.TyV at h
 rw [ht] at h
 exact h
open Go.Lift.Sel
theorem tySm {p : List V} (hc : Ar.Ty Tryz.prog 53 p) : ∃ (k : Int) (n : List Int) (o : Int) (v : List Int) (f : Bool) (rows : List (List V)) (a b : Int),
  p = [.v (.int .i64 k), .v (.string (Rul.bs n)), .v (.int .i64 o), .v (.string (Rul.bs v)), .v (.bool f), .list .no rows, .v (.int .i64 a), .v (.int .i64 b)] ∧ (∀ row ∈ rows, Ar.Ty Tryz.prog 24 row) ∧ Utf.By n ∧ Utf.By v ∧ vsRow p = n.length + v.length + vsRows rows + 8 := by
 have h1 := ty_fields Tryz.underlying53 hc
 obtain ⟨p1, q1, rfl, t1, h1⟩ := fs_cons h1
 obtain ⟨p2, q2, rfl, t2, h1⟩ := fs_cons h1
 obtain ⟨p3, q3, rfl, t3, h1⟩ := fs_cons h1
 obtain ⟨p4, q4, rfl, t4, h1⟩ := fs_cons h1
 obtain ⟨p5, q5, rfl, t5, h1⟩ := fs_cons h1
 obtain ⟨p6, q6, rfl, t6, h1⟩ := fs_cons h1
 obtain ⟨p7, q7, rfl, t7, h1⟩ := fs_cons h1
 obtain ⟨p8, q8, rfl, t8, h1⟩ := fs_cons h1
 obtain rfl := fs_nil h1
 obtain ⟨k, rfl, _⟩ := ty_int Tryz.underlying3 t1
 obtain ⟨s, rfl⟩ := ty_str Tryz.underlying9 t2
 obtain ⟨o, rfl, _⟩ := ty_int Tryz.underlying3 t3
 obtain ⟨s', rfl⟩ := ty_str Tryz.underlying9 t4
 obtain ⟨f, rfl⟩ := ty_bool Tryz.underlying4 t5
 obtain ⟨rows, rfl, hr⟩ := ty_slice Tryz.underlying32 t6
 obtain ⟨a, rfl, _⟩ := ty_int Tryz.underlying3 t7
 obtain ⟨b, rfl, _⟩ := ty_int Tryz.underlying3 t8
 obtain ⟨n, hn, rfl, hl⟩ := any_bs s
 obtain ⟨v, hv, rfl, hl'⟩ := any_bs s'
 refine ⟨k, n, o, v, f, rows, a, b, rfl, hr, hn, hv, ?_⟩
 simp [vsRow, vsize]
 omega
theorem tyCp {p : List V} (hc : Ar.Ty Tryz.prog 51 p) : ∃ (c : Int) (rows : List (List V)), p = [.v (.int .i64 c), .list .no rows] ∧ (∀ row ∈ rows, Ar.Ty Tryz.prog 53 row) ∧ vsRow p = vsRows rows + 2 := by
 have h1 := ty_fields Tryz.underlying51 hc
 obtain ⟨p1, q1, rfl, t1, h1⟩ := fs_cons h1
 obtain ⟨p2, q2, rfl, t2, h1⟩ := fs_cons h1
 obtain rfl := fs_nil h1
 obtain ⟨k, rfl, _⟩ := ty_int Tryz.underlying3 t1
 obtain ⟨rows, rfl, hr⟩ := ty_slice Tryz.underlying49 t2
 refine ⟨k, rows, rfl, hr, ?_⟩
 simp [vsRow, vsize]
 omega
theorem tyCx {p : List V} (hc : Ar.Ty Tryz.prog 24 p) : ∃ (rows : List (List V)), p = [.list .no rows] ∧ (∀ row ∈ rows, Ar.Ty Tryz.prog 51 row) ∧ vsRow p = vsRows rows + 1 := by
 have h1 := ty_fields Tryz.underlying24 hc
 obtain ⟨p1, q1, rfl, t1, h1⟩ := fs_cons h1
 obtain rfl := fs_nil h1
 obtain ⟨rows, rfl, hr⟩ := ty_slice Tryz.underlying22 t1
 refine ⟨rows, rfl, hr, ?_⟩
 simp [vsRow, vsize]
theorem tySel : ∀ (n : Nat), n ≤ 1048576 → (∀ (rows : List (List V)), vsRows rows ≤ n → (∀ row ∈ rows, Ar.Ty Tryz.prog 53 row) → ∃ l : List Sm, rows = smsC l ∧ okSms l ∧ l.length ≤ vsRows rows ∧ nSms l ≤ vsRows rows) ∧
  (∀ (rows : List (List V)), vsRows rows ≤ n → (∀ row ∈ rows, Ar.Ty Tryz.prog 51 row) → ∃ l : List Cp, rows = cpsC l ∧ okCps l ∧ l.length ≤ vsRows rows ∧ nCps l ≤ vsRows rows) ∧
  (∀ (rows : List (List V)), vsRows rows ≤ n → (∀ row ∈ rows, Ar.Ty Tryz.prog 24 row) → ∃ l : List Sel.Cx, rows = cxsC l ∧ okCxs l ∧ l.length ≤ vsRows rows ∧ nCxs l ≤ vsRows rows) := by
 intro n
 induction n with
 | zero =>
  intro hn
  refine ⟨fun rows hs h => ?_, fun rows hs h => ?_, fun rows hs h => ?_⟩
  ·cases rows with
   | nil => exact ⟨[], by rw [smsC], by rw [okSms]; trivial, by simp, by rw [nSms]; omega⟩
   | cons r rs =>
    obtain ⟨_, _, _, _, _, _, _, _, rfl, _, _, _, e⟩ := tySm (h r (List.mem_cons_self ..))
    simp only [vsRows] at hs
    omega
  ·cases rows with
   | nil => exact ⟨[], by rw [cpsC], by rw [okCps]; trivial, by simp, by rw [nCps]; omega⟩
   | cons r rs =>
    obtain ⟨_, _, rfl, _, e⟩ := tyCp (h r (List.mem_cons_self ..))
    simp only [vsRows] at hs
    omega
  ·cases rows with
   | nil => exact ⟨[], by rw [cxsC], by rw [okCxs]; trivial, by simp, by rw [nCxs]; omega⟩
   | cons r rs =>
    obtain ⟨_, rfl, _, e⟩ := tyCx (h r (List.mem_cons_self ..))
    simp only [vsRows] at hs
    omega
 | succ n ih =>
  intro hn
  obtain ⟨i1, i2, i3⟩ := ih (by omega)
  refine ⟨fun rows hs h => ?_, fun rows hs h => ?_, fun rows hs h => ?_⟩
  ·cases rows with
   | nil => exact ⟨[], by rw [smsC], by rw [okSms]; trivial, by simp, by rw [nSms]; omega⟩
   | cons r rs =>
    obtain ⟨k, nm, o, v, f, ks, a, b, rfl, hk, yn, yv, e⟩ := tySm (h r (List.mem_cons_self ..))
    simp only [vsRows, e] at hs ⊢
    obtain ⟨kl, rfl, k1, k2, k3⟩ := i3 ks (by omega) hk
    obtain ⟨l, rfl, l1, l2, l3⟩ := i1 rs (by omega) fun row hm => h row (List.mem_cons_of_mem _ hm)
    refine ⟨.mk k nm o v f kl a b :: l, ?_, ?_, ?_, by rw [nSms, nSm]; omega⟩
    ·rw [smsC, smV]
    ·rw [okSms, okSm]
     exact ⟨⟨⟨yn, by omega, yv, by omega, by omega⟩, k1⟩, l1⟩
    ·rw [List.length_cons]; omega
  ·cases rows with
   | nil => exact ⟨[], by rw [cpsC], by rw [okCps]; trivial, by simp, by rw [nCps]; omega⟩
   | cons r rs =>
    obtain ⟨c, ks, rfl, hk, e⟩ := tyCp (h r (List.mem_cons_self ..))
    simp only [vsRows, e] at hs ⊢
    obtain ⟨kl, rfl, k1, k2, k3⟩ := i1 ks (by omega) hk
    obtain ⟨l, rfl, l1, l2, l3⟩ := i2 rs (by omega) fun row hm => h row (List.mem_cons_of_mem _ hm)
    refine ⟨.mk c kl :: l, ?_, ?_, ?_, by rw [nCps]; omega⟩
    ·rw [cpsC, cpV]
    ·rw [okCps]
     exact ⟨⟨by omega, k1⟩, l1⟩
    ·rw [List.length_cons]; omega
  ·cases rows with
   | nil => exact ⟨[], by rw [cxsC], by rw [okCxs]; trivial, by simp, by rw [nCxs]; omega⟩
   | cons r rs =>
    obtain ⟨ks, rfl, hk, e⟩ := tyCx (h r (List.mem_cons_self ..))
    simp only [vsRows, e] at hs ⊢
    obtain ⟨kl, rfl, k1, k2, k3⟩ := i2 ks (by omega) hk
    obtain ⟨l, rfl, l1, l2, l3⟩ := i3 rs (by omega) fun row hm => h row (List.mem_cons_of_mem _ hm)
    refine ⟨.mk kl :: l, ?_, ?_, ?_, by rw [nCxs]; omega⟩
    ·rw [cxsC, cxV]
    ·rw [okCxs]
     exact ⟨⟨by omega, k1⟩, l1⟩
    ·rw [List.length_cons]; omega
theorem a_cons {e : TypeId} {n : Nat} {p : List V} (h : Ar.TyA Tryz.prog e (n + 1) p) : ∃ a b, p = a ++ b ∧ Ar.Ty Tryz.prog e a ∧ Ar.TyA Tryz.prog e n b := by
 cases h with
 | cons h1 h2 => exact ⟨_, _, rfl, h1, h2⟩
theorem a_nil {e : TypeId} {p : List V} (h : Ar.TyA Tryz.prog e 0 p) : p = [] := by
 cases h; rfl
theorem ty_array {t e : TypeId} {m : Nat} {p : List V} (ht : Tryz.prog.underlying t = some (.array m e)) (h : Ar.Ty Tryz.prog t p) : Ar.TyA Tryz.prog e m p := by
 cases h with
 | int k' n hu hw => rw [ht] at hu; cases hu
 | bool b hu => rw [ht] at hu; cases hu
 | string s hu => rw [ht] at hu; cases hu
 | slice rows hu hr => rw [ht] at hu; cases hu
 | struct fs cells hu _ => rw [ht] at hu; cases hu
 | array n cells hu ha => rw [ht] at hu; cases hu; exact ha
theorem tyWt {p : List V} (hc : Ar.Ty Tryz.prog 26 p) : ∃ w : Wt, p = Go.Lift.Z9.wV w := by
 obtain ⟨p1, q1, rfl, t1, h1⟩ := a_cons (ty_array Tryz.underlying26 hc)
 obtain ⟨p2, q2, rfl, t2, h1⟩ := a_cons h1
 obtain ⟨p3, q3, rfl, t3, h1⟩ := a_cons h1
 obtain rfl := a_nil h1
 obtain ⟨a, rfl, _⟩ := ty_int Tryz.underlying3 t1
 obtain ⟨b, rfl, _⟩ := ty_int Tryz.underlying3 t2
 obtain ⟨c, rfl, _⟩ := ty_int Tryz.underlying3 t3
 exact ⟨⟨a, b, c⟩, rfl⟩
theorem ty26 {v : V} {n : Nat} (h : Ar.TyV Tryz.prog 26 v) (hs : asize v ≤ n) (hn : n ≤ 1048576) : ∃ w : Wt, v = .agg (Go.Lift.Z9.wV w) := by
 unfold Ar.TyV at h
 rw [Tryz.underlying26] at h
 obtain ⟨cs, rfl, hc⟩ := h
 obtain ⟨w, rfl⟩ := tyWt hc
 exact ⟨w, rfl⟩
theorem tyWts : ∀ (rows : List (List V)), (∀ row ∈ rows, Ar.Ty Tryz.prog 26 row) → ∃ l : List Wt, rows = l.map Go.Lift.Z9.wV ∧ l.length ≤ vsRows rows
 | [], _ => ⟨[], rfl, by simp⟩
 | r :: rs, h => by
  obtain ⟨w, rfl⟩ := tyWt (h r (List.mem_cons_self ..))
  obtain ⟨l, rfl, hl⟩ := tyWts rs fun row hm => h row (List.mem_cons_of_mem _ hm)
  refine ⟨w :: l, rfl, ?_⟩
  simp only [vsRows, Go.Lift.Z9.wV, vsRow, vsize, List.length_cons]
  omega
theorem ty27 {v : V} {n : Nat} (h : Ar.TyV Tryz.prog 27 v) (hs : asize v ≤ n) (hn : n ≤ 1048576) : ∃ l : List Wt, v = .list .no (l.map Go.Lift.Z9.wV) ∧ l.length ≤ n := by
 obtain ⟨rows, hp, hr⟩ := ty_slice Tryz.underlying27 (tv Tryz.underlying27 h)
 obtain rfl : v = .list .no rows := by simpa using hp
 have hv : vsRows rows ≤ n := by simp only [asize, vsize] at hs; omega
 obtain ⟨l, rfl, hl⟩ := tyWts rows hr
 exact ⟨l, rfl, by omega⟩
theorem ty24 {v : V} {n : Nat} (h : Ar.TyV Tryz.prog 24 v) (hs : asize v ≤ n) (hn : n ≤ 1048576) : ∃ ps : List Cp, v = .agg [.list .no (cpsC ps)] ∧ okCps ps ∧ ps.length ≤ n ∧ nCps ps ≤ n := by
 unfold Ar.TyV at h
 rw [Tryz.underlying24] at h
 obtain ⟨cs, rfl, hc⟩ := h
 obtain ⟨rows, rfl, hr, e⟩ := tyCx hc
 have hv : vsRows rows ≤ n := by simp only [asize, vsize] at hs; omega
 obtain ⟨l, rfl, a, b, c⟩ := (tySel n hn).2.1 rows hv hr
 exact ⟨l, rfl, a, by omega, by omega⟩
end Go.Proofs.YtkbhmelfbekieaaGreatDoor
end

section
namespace Go.Proofs.YtkbhmelfbekieaaGreatDoor
theorem and_tt {a b : Bool} (ha : a = true) (hb : b = true) : (a && b) = true := by rw [ha, hb]; rfl
theorem fact2 : laidOutB Tryz.prog = true := by kernel_rfl
theorem fact3 : mapsRowed Tryz.prog = true := by kernel_rfl
theorem fact7 : (Tryz.prog.stops == []) = true := by kernel_rfl
theorem fact9 : (Tryz.prog.stopKnobs == []) = true := by kernel_rfl
theorem fact23 : (Rows.selWeighsUptoRow.plainKeys == Tryz.prog.plainKeys) = true := by kernel_rfl
theorem fact25 : Tryz.prog.stopsHeard = true := by kernel_rfl
theorem fact26 : Tryz.prog.mayEnter = true := by kernel_rfl
theorem fact27 : (Rows.selWeighsUptoRow.lifted == Tryz.prog.liftsFinal) = true := by kernel_rfl
theorem fact28 : (Tryz.prog.make == some Rows.selWeighsUptoRow.make) = true := by kernel_rfl
end Go.Proofs.YtkbhmelfbekieaaGreatDoor
end
