/- strings.Builder: String, as the lifting takes it. -/
import Derived.WalkKit
import Derived.Lib.Bytealg
import Derived.Laws.Bits64b
import Derived.Shelf.Spec.TrailingZeros
import Derived.Lib.LaidU8T
import Derived.Lib.LaidTab
import Derived.Lib.LaidIn
import Derived.Deep.DeepHandedRow
import Derived.Deep.DeepWitnessRowRef
import Derived.Test.YtehffjejplpaeaaDoorGK8Basea
import Derived.Test.YtehffjejplpaeaaDoorGKg
import Derived.Test.YtehffjejplpaeaaDoorGKj
import Derived.Test.YtehffjejplpaeaaDoorGDa
set_option linter.unusedVariables false
set_option linter.unusedSimpArgs false
set_option linter.unusedSectionVars false
section
open Go.Proofs
namespace Go.Lift.D7
variable [MX]
open Utf Go.RowKit
set_option maxRecDepth 100000
set_option maxHeartbeats 4000000
theorem cell_drew {w : World} {a : Addr} {x : Value} (h : w.cell? a = some x) : w.drew.cell? a = some x := h
theorem walk21a {b : Nat} {w : World} (c1 : w.cell? ⟨b, 1, none⟩ = some (.slice none 0 0)) :
  Calls Tryd.prog 21 #[.pointer (some ⟨b, 0, none⟩)] w fun e w' => e = .returned (.string ⟨#[]⟩) ∧ w' = w.drew := by
 have hUS : ∀ W q, (Builtin.unsafeString_ #[68, 3] 9 #[.pointer q, .int .i64 0]).run Tryd.prog W = .ok (.string .empty) W := fun W q => Any.unsafeString_none (P := Tryd.prog) (ρ := Tryd.lays105_ren) { Tryd.lays105 with } extra105 W q
 have mixed := follows4
 have c1 := cell_drew c1
 have hSD : (Builtin.unsafeSliceData_ #[46] 68 #[.slice none 0 0]).run Tryd.prog w.drew = .ok (.pointer none) w.drew := rfl
 go_enter Tryd.func21, Tryd.ntmps21
 go_wp2
 go_region_o
 all_goals (go_wp2; go_ret; exact ⟨rfl, rfl⟩)
theorem walk21c {b g cap : Nat} {l : List UInt8} {cur : Array Value} {w : World} (c1 : w.cell? ⟨b, 1, none⟩ = some (.slice (some ⟨g, 0, none⟩) l.length cap)) (hg : w.heap[g]? = some (.cells cur 5 (0, 0))) (h0 : l ≠ []) (hcap : cap ≠ 0) (hle : l.length ≤ cur.size)
  (h63 : l.length ≤ 9223372036854775807) (hcell : ∀ j x, l[j]? = some x → w.cell? ⟨g, j, none⟩ = some (.int .u8 x.toNat)) :
  Calls Tryd.prog 21 #[.pointer (some ⟨b, 0, none⟩)] w fun e w' => e = .returned (.string ⟨l.toArray⟩) ∧ w' = w.drew.freeze ⟨g, 0, none⟩ l.length := by
 have c1 := cell_drew c1
 have hSD : (Builtin.unsafeSliceData_ #[46] 68 #[.slice (some ⟨g, 0, none⟩) l.length cap]).run Tryd.prog w.drew = .ok (.pointer (some ⟨g, 0, none⟩)) w.drew :=
  Lib.run_unsafeSliceData_row _ _ _ _ _ _ hcap
 have mixed := follows4
 have hUS : (Builtin.unsafeString_ #[68, 3] 9 #[.pointer (some ⟨g, 0, none⟩), .int .i64 l.length]).run Tryd.prog w.drew = .ok (.string ⟨l.toArray⟩) (w.drew.freeze ⟨g, 0, none⟩ l.length) := by
  refine Lib.run_unsafeString_row w.drew 68 3 9 5 Tryd.underlying68 (by kernel_rfl) g cur.size (by have hg' : w.drew.heap[g]? = some (.cells cur 5 (0, 0)) := hg; simp [World.shape?, hg']) l h0 hle h63 ?_
  intro j x hx
  have := hcell j x hx
  rw [Lib.add_plain, Nat.zero_add]
  exact cell_drew this
 go_enter Tryd.func21, Tryd.ntmps21
 go_wp2
 go_region_o
 all_goals (go_wp2; go_ret; exact ⟨rfl, rfl⟩)
theorem walk21b {b g : Nat} {cur : Array Value} {e0 : TypeId} {f0 : Nat × Nat} {w : World} (hb : b < w.heap.size) (c1 : w.cell? ⟨b, 1, none⟩ = some (.slice (some ⟨g, 0, none⟩) 0 0)) (hg : w.heap[g]? = some (.cells cur e0 f0)) :
  Calls Tryd.prog 21 #[.pointer (some ⟨b, 0, none⟩)] w fun e w' => e = .returned (.string ⟨#[]⟩) ∧ Below w.heap.size w w' := by
 have hUS : ∀ W q, (Builtin.unsafeString_ #[68, 3] 9 #[.pointer q, .int .i64 0]).run Tryd.prog W = .ok (.string .empty) W := fun W q => Any.unsafeString_none (P := Tryd.prog) (ρ := Tryd.lays105_ren) { Tryd.lays105 with } extra105 W q
 have mixed := follows4
 have c2 : (w.drew.alloc (.view ⟨g, 0, none⟩ 5)).cell? ⟨b, 1, none⟩ = some (.slice (some ⟨g, 0, none⟩) 0 0) := by
  rw [cell_of_heap (w := w.drew) (Lib.alloc_old w.drew _ b hb)]
  exact cell_drew c1
 have c1 := cell_drew c1
 have hSD : (Builtin.unsafeSliceData_ #[46] 68 #[.slice (some ⟨g, 0, none⟩) 0 0]).run Tryd.prog w.drew = .ok (.pointer (some ⟨w.drew.heap.size, 0, none⟩)) (w.drew.alloc (.view ⟨g, 0, none⟩ 5)) :=
  Lib.run_unsafeSliceData_zero w.drew _ _ 5 Tryd.underlying68 ⟨g, 0, none⟩ 0 (e0, cur.size) (by have hg' : w.drew.heap[g]? = some (.cells cur e0 f0) := hg; simp [World.shape?, hg'])
 go_enter Tryd.func21, Tryd.ntmps21
 go_wp2
 go_region_o
 all_goals (go_wp2; go_ret; exact ⟨rfl, (Below.drew (Below.refl w.heap.size w)).alloc (Nat.le_refl _) _⟩)
theorem freeze_heap {w : World} {g n : Nat} {cur : Array Value} {e : TypeId} {f : Nat × Nat} (hg : w.heap[g]? = some (.cells cur e f)) :
  (w.freeze ⟨g, 0, none⟩ n).heap.size = w.heap.size ∧ (∀ k, k ≠ g → (w.freeze ⟨g, 0, none⟩ n).heap[k]? = w.heap[k]?) ∧ (∃ f', (w.freeze ⟨g, 0, none⟩ n).heap[g]? = some (.cells cur e f')) ∧
   (w.freeze ⟨g, 0, none⟩ n).os = w.os ∧ (w.freeze ⟨g, 0, none⟩ n).tape = w.tape ∧ (w.freeze ⟨g, 0, none⟩ n).output = w.output := by
 unfold World.freeze
 split
 ·exact ⟨rfl, fun _ _ => rfl, ⟨f, hg⟩, rfl, rfl, rfl⟩
 ·refine ⟨by simp, fun k hk => ?_, ?_, rfl, rfl, rfl⟩
  ·simp only [Array.getElem?_modify]
   rw [if_neg (Ne.symm hk)]
  ·simp only [Array.getElem?_modify, if_true, hg, Option.map_some]
   obtain ⟨f1, f2⟩ := f
   exact ⟨_, rfl⟩
theorem str_ok {lo i : Nat} {h : Heap} {p0 : V} {out : List Int} {r : List V} (hi : h[i]? = some (.cells (p0 :: .list .yes (ri .u8 out) :: r))) (hlo : lo ≤ i) (hlh : lo ≤ h.length) (hby : By out) (hl : out.length ≤ 1000000000) :
  CallOK0 Tryd.prog lo 21 [.ptr i 0] h (.v (.string ⟨(u8s out).toArray⟩)) (Lift.setOb h i (p0 :: .list .no (ri .u8 out) :: r)) := by
 refine ⟨rfl, enters_of Tryd.func21 (by kernel_rfl) rfl, fun m c w xs hH ha => ⟨set_take hlo hi (fun n hn hv v hm => by
  rcases List.mem_cons.1 hm with rfl | hm
  ·exact hv v (by simp)
  ·rcases List.mem_cons.1 hm with rfl | hm
   ·rfl
   ·exact hv v (by simp [hm])), ?_⟩⟩
 obtain ⟨b, hm, rfl⟩ := ptr_arg ha
 have hcs : cellsOfOb h i = some (p0 :: .list .yes (ri .u8 out) :: r) := by unfold cellsOfOb; rw [hi]
 obtain ⟨y, hat, hI2, hO⟩ := set_obj_flag (inv0 hH hlh) hcs (j := 1) rfl hlo
 have hc1 : w.cell? ⟨b, 1, none⟩ = some y := by
  obtain ⟨cs, b', k1, k2, k3, k4⟩ := hat
  rw [hm] at k3
  cases k3
  exact k4
 have hbs : b < w.heap.size := hH.1.m_lt hm
 have fin : ∀ w', InvP [] ⟨lo, h.length, w, m, c, hoOf m w h lo, h, 0⟩ m c w' (Lift.untag []) (Lift.setOb h i ((p0 :: .list .yes (ri .u8 out) :: r : List V).set 1 (.list .no (ri .u8 out)))) act0 → ∀ s : ByteArray, s = ⟨(u8s out).toArray⟩ →
   ∃ x c', Ending.returned (.string s) = .returned x ∧ VRr m c' w' (.v (.string ⟨(u8s out).toArray⟩)) x ∧ HOK m c' w' (Lift.setOb h i (p0 :: .list .no (ri .u8 out) :: r)) ∧ Fr lo (hoOf m w h lo) w m c w' m c' ∧ Owned lo (hoOf m w h lo) w m w' [] (Lift.setOb h i (p0 :: .list .no (ri .u8 out) :: r)) act0 := fun w' hI s hs => by
  obtain ⟨_, q1, q2, q3⟩ := done0 hH.1.len hI
  subst hs
  exact ⟨_, c, rfl, rfl, q1, q2, q3⟩
 rcases hO.2.1 with ⟨rfl, hr0⟩ | ⟨g, cap, cur, e, sz, rfl, k1, k2, k3, k4, k5, k6, k7, k8, k9, k10⟩
 ·have ho : out = [] := by cases out with
   | nil => rfl
   | cons x t => cases hr0
  subst ho
  refine (walk21a hc1).mono fun e w' ⟨he, hw⟩ => ?_
  subst he hw
  exact fin _ (hI2.grown (w' := w.drew) none (Nat.le_refl _) (fun _ _ _ => ⟨rfl, rfl⟩) (fun _ hb => by cases hb) (fun k hk _ h0 => absurd h0 (by rw [hI2.core.c_zero hk]; omega)) rfl rfl rfl) _ rfl
 ·by_cases ho : out = []
  ·subst ho
   obtain rfl := k9 rfl
   refine (walk21b hbs hc1 k1).mono fun e w' ⟨he, hw⟩ => ?_
   subst he
   exact fin _ (hI2.grown (w' := w') none hw.size (fun k hk _ => ⟨hw.block k hk, rfl⟩) (fun _ hb => by cases hb) (fun k hk _ h0 => absurd h0 (by rw [hI2.core.c_zero hk]; omega)) hw.os hw.tape hw.output) _ rfl
  ·have hlen : (ri .u8 out).length = out.length := by simp [ri]
   obtain rfl : e = 5 := k10 5 rfl (by cases out with
    | nil => exact absurd rfl ho
    | cons x t => rfl)
   have hsz : sz = 1 := by cases out with
    | nil => exact absurd rfl ho
    | cons x t => exact (k6 [.v (.int .u8 x)] (by simp [ri])).symm
   subst hsz
   have hul : (u8s out).length = out.length := by simp [u8s]
   have hc1' : w.cell? ⟨b, 1, none⟩ = some (.slice (some ⟨g, 0, none⟩) (u8s out).length cap) := by rw [hul, ← hlen]; exact hc1
   have hpos : 0 < out.length := List.length_pos_iff.2 ho
   refine (walk21c hc1' k1 (fun h0 => by rw [h0] at hul; simp at hul; omega) (by omega) (by rw [hul]; omega) (by omega) (fun j x hx => ?_)).mono fun e w' ⟨he, hw⟩ => ?_
   ·simp only [u8s, List.getElem?_map, Option.map_eq_some_iff] at hx
    obtain ⟨z, hz, rfl⟩ := hx
    have hrow : (ri .u8 out)[j]? = some [.v (.int .u8 z)] := by simp [ri, hz]
    obtain ⟨x', hx', hv⟩ := own_cells hO.1 rfl k1 k6 j 0 _ _ hrow rfl
    have hxz : x' = .int .u8 z := VP.v_eq hv
    subst hxz
    have hj : j < out.length := (List.getElem?_eq_some_iff.1 hz).1
    rw [cell_arr k1]
    have hz2 := hby z (List.mem_of_getElem? hz)
    have e1 : ((UInt8.ofNat z.toNat).toNat : Int) = z := by simp only [UInt8.toNat_ofNat']; omega
    rw [e1]
    simpa using hx'
   ·subst he hw
    obtain ⟨f1, f2, ⟨ff, f3⟩, f4, f5, f6⟩ := freeze_heap (w := w.drew) (g := g) (n := (u8s out).length) (show w.drew.heap[g]? = _ from k1)
    refine fin _ (hI2.grown (w' := w.drew.freeze ⟨g, 0, none⟩ (u8s out).length) (some g) (by rw [f1]; exact Nat.le_refl _) (fun k hk hne => ⟨f2 k (fun e => hne (by rw [e])), rfl⟩) (fun k hk => ?_) (fun k hk _ h0 => absurd h0 (by rw [hI2.core.c_zero hk]; omega)) f4 f5 f6) _ rfl
    cases hk
    refine ⟨k8, fun l r x hl => fun hx => hO.2.2.1 l r x g hl rfl hx, hO.2.2.2 g rfl, Nat.le_refl _, fun o ho => ?_, ⟨cur, 5, ff, f3, ?_⟩, fun h0 => ?_⟩
    ·rw [cell_arr f3, cell_arr k1]
    ·rw [k7, k4]; exact Nat.mul_le_mul_right _ k2
    ·exfalso
     rw [k7] at h0
     rw [hlen] at h0
     omega
end Go.Lift.D7
end

section
namespace Go.Lift.D7
variable [MX]
open Go.Proofs Go.RowKit
set_option maxRecDepth 100000
set_option maxHeartbeats 4000000
theorem walk64 (s : ByteArray) (c : Int) (w : World) :
  Calls Tryd.prog 64 #[.string s, .int .u8 c] w fun e w' => e = .returned (.int .i64 (Go.Lib.indexByte s.data.toList c.toNat.toUInt8)) ∧ w' = w := by
 go_enter Tryd.func64, Tryd.ntmps64
 go_wp2
 rw [run_callFunc_extern Tryd.func80 (by kernel_rfl) (by kernel_rfl) (by kernel_rfl) (e := Extern.BytealgIndexByte.indexByte) (by kernel_rfl), Go.Lib.run_indexByteString]
 simp only [Result.andThen]
 rw [Oper.upon_value]
 go_wp2
 go_ret
 exact ⟨rfl, rfl⟩
theorem walk159one (s : ByteArray) (c : UInt8) (w : World) :
  Calls Tryd.prog 50 #[.string s, .string ⟨#[c]⟩] w fun e w' => e = .returned (.int .i64 (Go.Lib.indexByte s.data.toList c)) ∧ w' = w :=
 Any.stringslite_Index_one (P := Tryd.prog) (ρ := Tryd.lays219_ren) { Tryd.lays219 with } s c w
theorem walk50 (s t : ByteArray) (m : Int) (w : World) (hs : s.size < 4294967281) (hm : w.cell? ⟨0, 0, none⟩ = some (.int .i64 m)) :
  Calls Tryd.prog 50 #[.string s, .string t] w fun e w' => e = .returned (.int .i64 (Go.Lib.index s.data.toList t.data.toList)) ∧ w' = w :=
 Any.stringslite_Index (P := Tryd.prog) (ρ := Tryd.lays219_ren) { Tryd.lays219 with } s t m w hs hm
theorem walk132_core (x k idx : Nat) (w : World) (hx0 : ((x : Int) == 0) = false)
  (key : IntKind.u64.wrap (bits BinOp.and IntKind.u64 (x : Int) (IntKind.u64.wrap (-(x : Int))) * 285870213051353865) / 288230376151711744 = (idx : Int))
  (hi : idx < 64) (hk : k < 64) (hcell : w.cell? ⟨1, idx, none⟩ = some (.int .u8 k)) :
  Calls Tryd.prog 74 #[.int .u64 x] w fun e w' => e = .returned (.int .i64 k) ∧ w' = w := by
 go_enter Tryd.func74, Tryd.ntmps74
 go_wp2_with (simp only [key])
 go_ret
 exact ⟨rfl, rfl⟩
theorem walk132_zero (w : World) : Calls Tryd.prog 74 #[.int .u64 0] w fun e w' => e = .returned (.int .i64 64) ∧ w' = w := by
 go_enter Tryd.func74, Tryd.ntmps74
 go_wp2
 go_ret
 exact ⟨rfl, rfl⟩
theorem walk74 (x : Nat) (hx : x < 18446744073709551616) (w : World) (hT : ∀ j, j < 64 → w.cell? ⟨1, j, none⟩ = some (.int .u8 ((Go.Lib.deBruijn64tab.getD j 0 : Nat) : Int))) :
  Calls Tryd.prog 74 #[.int .u64 x] w fun e w' => e = .returned (.int .i64 (Go.Lib.ctz 64 x)) ∧ w' = w := by
 by_cases hx0 : x = 0
 ·subst hx0
  exact walk132_zero w
 ·obtain ⟨hlow, hk⟩ := Go.Lib.lowest_bit 64 x hx0 hx
  obtain ⟨hi, htab⟩ := Go.Lib.deBruijn64_at _ hk
  have hcell := hT _ hi
  rw [htab] at hcell
  exact walk132_core x _ _ w (by simp; omega) (tz64_key x _ hx hx0 hlow) hi hk hcell
theorem quiet_ok {m : List Nat} {c : Cl} {w w' : World} {h : Heap} {lo : Nat} (hH : HOK m c w h) (hb : Below w.heap.size w w') :
  HOK m c w' h ∧ Fr lo (hoOf m w h lo) w m c w' m c ∧ Owned lo (hoOf m w h lo) w m w' [] h act0 := by
 obtain ⟨hC, hold⟩ := hH
 have hcell : ∀ b o, b < w.heap.size → w'.cell? ⟨b, o, none⟩ = w.cell? ⟨b, o, none⟩ := fun b o hl => cell_of_heap (hb.block b hl) o
 have hce : ∀ b, 0 < c b → b < w.heap.size := fun b h0 => by
  rcases Nat.lt_or_ge b w.heap.size with hl | hl
  ·exact hl
  ·rw [hC.c_zero hl] at h0; omega
 have he : Ext c w c w' := ⟨fun _ => Nat.le_refl _, fun b o ho => hcell b o (hce b (by omega)), fun b _ => by
  rcases Nat.lt_or_ge b w.heap.size with hl | hl
  ·exact Shp.same (hb.block b hl)
  ·exact Shp.none hl⟩
 have hm : ∀ {i b}, m[i]? = some b → w'.heap[b]? = w.heap[b]? ∧ c b = c b := fun {i b} hi => ⟨hb.block b (hC.m_lt hi), rfl⟩
 have hAt : ∀ {l r x}, At m w' [] h act0 l r x → At m w [] h act0 l r x := fun {l r x} hl => by
  cases l with
  | slot t => exact hl
  | cell i j =>
   obtain ⟨cs, b, h1, h2, h3, h4⟩ := hl
   exact ⟨cs, b, h1, h2, h3, by rw [← cell_of_heap (hm h3).1]; exact h4⟩
 have hAt' : ∀ {l r x}, At m w [] h act0 l r x → At m w' [] h act0 l r x := fun {l r x} hl => by
  cases l with
  | slot t => exact hl
  | cell i j =>
   obtain ⟨cs, b, h1, h2, h3, h4⟩ := hl
   exact ⟨cs, b, h1, h2, h3, by rw [cell_of_heap (hm h3).1]; exact h4⟩
 refine ⟨⟨⟨fun b h0 => ?_, hC.wf2, hC.nd, hC.len, fun t => (hC.env t).mono (Pre.refl m) he, fun i o b ho hbm => (hC.ob i o b ho hbm).keep (hm hbm).1 (Pre.refl m) he, fun l r x hl => ?_,
   fun l l' r r' x x' b h1 h2 => hC.uniq l l' r r' x x' b (hAt h1) (hAt h2), hC.tagS, fun t i j r ht => hAt' (hC.tagC t i j r ht), fun n cs hg => (hC.gt n cs hg).mono he⟩, hold⟩,
  ⟨hb.os, hb.tape, hb.output, hb.size, Pre.refl m, fun i b hi hbm => ?_, he, fun b hl _ _ => ⟨hb.block b hl, rfl⟩⟩, fun l r x b hl hu hbx => ?_⟩
 ·rw [hb.block b (hce b h0)]
  exact hC.wf1 b h0
 ·refine (hC.own l r x (hAt hl)).keep fun b hbx => ?_
  exact ⟨hb.block b ((hC.own l r x (hAt hl)).lt hbx).1, rfl, id⟩
 ·have := (List.getElem?_eq_some_iff.1 hbm).1
  omega
 ·right
  cases l with
  | slot t => exact absurd hl.1 (by simp [look])
  | cell i j => exact ⟨i, j, r, x, hu, hAt hl, hbx⟩
theorem prim_quiet {f lo : Nat} {args : List V} {h : Heap} {x : Value} (he : ∀ xs w, (callFunc f xs).run Tryd.prog w = .ok (.enter f xs) w)
  (hx : ∀ m c w (xs : Array Value), HOK m c w h → R2 (VRr m c w) args xs.toList → Calls Tryd.prog f xs w fun e w' => e = .returned x ∧ Below w.heap.size w w') :
  CallOK Tryd.prog lo f args h (.v x) h :=
 CallOK0.ok ⟨rfl, he, fun m c w xs hH ha => ⟨⟨rfl, rfl, Keeps.refl _ _⟩, (hx m c w xs hH ha).mono fun e w' ⟨h1, hb⟩ => by
  obtain ⟨q1, q2, q3⟩ := quiet_ok (lo := lo) hH hb
  exact ⟨_, c, h1, rfl, q1, q2, q3⟩⟩⟩
theorem one_arg {m : List Nat} {c : Cl} {w : World} {a : Value} {xs : Array Value} (h : R2 (VRr m c w) [.v a] xs.toList) : xs = #[a] := by
 obtain ⟨l⟩ := xs
 match l, h.1 with
 | [x], _ =>
  have h0 : x = a := h.2 0 _ _ rfl rfl
  rw [h0]
theorem two_args {m : List Nat} {c : Cl} {w : World} {a b : Value} {xs : Array Value} (h : R2 (VRr m c w) [.v a, .v b] xs.toList) : xs = #[a, b] := by
 obtain ⟨l⟩ := xs
 match l, h.1 with
 | [x, y], _ =>
  have h0 : x = a := h.2 0 _ _ rfl rfl
  have h1 : y = b := h.2 1 _ _ rfl rfl
  rw [h0, h1]
theorem tab1 : GTab.tab 1 = some (Go.Lib.deBruijn64tab.map fun c : Nat => V.v (.int .u8 (c : Int))) := rfl
theorem tab2 : GTab.tab 0 = some [V.v (.int .i64 MX.m)] := rfl
theorem cell_of {c : Cl} {w : World} {n : Nat} {cs : List V} (hg : ROs c w ⟨n, 0, none⟩ cs) {j : Nat} {x : Value} (hj : cs[j]? = some (.v x)) : w.cell? ⟨n, j, none⟩ = some x := by
 obtain ⟨_, h⟩ := hg
 obtain ⟨y, hy, hv⟩ := h j _ hj
 rw [Nat.zero_add] at hy
 rw [hy, VP.v_eq hv]
theorem bruijn {m : List Nat} {c : Cl} {w : World} {h : Heap} (hH : HOK m c w h) : ∀ j, j < 64 → w.cell? ⟨1, j, none⟩ = some (.int .u8 ((Go.Lib.deBruijn64tab.getD j 0 : Nat) : Int)) := fun j hj => by
 refine cell_of (hH.1.gt 1 _ tab1) ?_
 have hl : j < Go.Lib.deBruijn64tab.length := by simpa [Go.Lib.deBruijn64tab] using hj
 rw [List.getElem?_map, List.getElem?_eq_getElem hl]
 simp [List.getD, List.getElem?_eq_getElem hl]
theorem maxLen {m : List Nat} {c : Cl} {w : World} {h : Heap} (hH : HOK m c w h) : w.cell? ⟨0, 0, none⟩ = some (.int .i64 MX.m) :=
 cell_of (hH.1.gt 0 _ tab2) rfl
theorem rowsInts_of : ∀ {rows : List (List V)} {out : List Int}, rowsInts rows = some out → rows = ri .u8 out
 | [], out, h => by cases h; rfl
 | r :: l, out, h => by
  unfold rowsInts at h
  split at h
  ·rename_i h1; cases h1
  ·rename_i n l' h1
   injection h1 with h2 h3
   subst h2 h3
   rw [Option.map_eq_some_iff] at h
   obtain ⟨o, ho, rfl⟩ := h
   rw [rowsInts_of ho]; rfl
  ·cases h
theorem prim_ok : ∀ f p, primz f = some p → ∀ lo args h r h', lo ≤ h.length → p lo args h = some (r, h') → CallOK Tryd.prog lo f args h r h' := by
 intro f p hp lo args h r h' hlo he
 unfold primz at hp
 split at hp
 ·cases hp
  unfold idxP at he
  split at he
  ·rename_i s c
   cases he
   exact prim_quiet (enters_of Tryd.func64 (by kernel_rfl) rfl) fun m c' w xs hH ha => by
    rw [two_args ha]
    exact (walk64 s c w).mono fun e w' ⟨h1, h2⟩ => ⟨h1, h2 ▸ Below.refl _ _⟩
  ·cases he
 ·cases hp
  unfold ctzP at he
  split at he
  ·rename_i x
   split at he
   ·rename_i hx
    cases he
    obtain ⟨u, rfl⟩ : ∃ u : Nat, x = u := ⟨x.toNat, by omega⟩
    exact prim_quiet (enters_of Tryd.func74 (by kernel_rfl) rfl) fun m c' w xs hH ha => by
     rw [one_arg ha]
     exact (walk74 u (by omega) w (bruijn hH)).mono fun e w' ⟨h1, h2⟩ => ⟨h1, h2 ▸ Below.refl _ _⟩
   ·cases he
  ·cases he
 ·cases hp
  unfold repP at he
  split at he
  ·rename_i s n
   split at he
   ·rename_i hx
    cases he
    obtain ⟨u, rfl⟩ : ∃ u : Nat, n = u := ⟨n.toNat, by omega⟩
    exact prim_quiet (enters_of Tryd.func58 (by kernel_rfl) rfl) fun m c' w xs hH ha => by
     rw [two_args ha]
     exact Any.strings_Repeat Tryd.lays105 extra105 s u w (by omega) (by rw [hx.1]; omega)
   ·cases he
  ·cases he
 ·cases hp
  unfold ccP at he
  split at he
  ·rename_i i
   split at he
   ·rename_i p0 x r hi
    split at he
    ·rename_i hx
     cases he
     exact (cc_ok hx.2.2 hi hx.1 hlo hx.2.1).ok
    ·cases he
   ·cases he
  ·cases he
 ·cases hp
  unfold wrP at he
  split at he
  ·rename_i i r
   split at he
   ·rename_i p0 rows hi
    split at he
    ·rename_i out hout
     split at he
     ·rename_i hx
      cases he
      rw [rowsInts_of hout] at hi
      exact (wr_ok hi hx.1 hlo hx.2.1 hx.2.2.1 hx.2.2.2.1 hx.2.2.2.2).ok
     ·cases he
    ·cases he
   ·cases he
  ·cases he
 ·cases hp
  unfold stP at he
  split at he
  ·rename_i i
   split at he
   ·rename_i p0 rows r hi
    split at he
    ·rename_i out hout
     split at he
     ·rename_i hx
      cases he
      have e := rowsInts_of hout
      subst e
      refine (str_ok hi hx.1 hlo (fun c hc => ?_) hx.2.2).ok
      have := List.all_eq_true.1 hx.2.1 c hc
      simp only [Bool.and_eq_true, decide_eq_true_eq] at this
      exact this
     ·cases he
    ·cases he
   ·cases he
  ·cases he
 ·cases hp
  unfold ixP at he
  split at he
  ·rename_i s t
   split at he
   ·rename_i c0 hc
    cases he
    obtain rfl : t = ⟨#[c0]⟩ := by
     apply ByteArray.ext
     exact Array.toList_inj.1 hc
    exact prim_quiet (enters_of Tryd.func50 (by kernel_rfl) rfl) fun m c' w xs hH ha => by
     rw [two_args ha]
     exact (walk159one s c0 w).mono fun e w' ⟨h1, h2⟩ => ⟨h1, h2 ▸ Below.refl _ _⟩
   ·split at he
    ·rename_i hs
     cases he
     exact prim_quiet (enters_of Tryd.func50 (by kernel_rfl) rfl) fun m c' w xs hH ha => by
      rw [two_args ha]
      exact (walk50 s t MX.m w hs (maxLen hH)).mono fun e w' ⟨h1, h2⟩ => ⟨h1, h2 ▸ Below.refl _ _⟩
    ·cases he
  ·cases he
 ·cases hp
end Go.Lift.D7
end

section
namespace Go.Proofs.YtehffjejplpaeaaDoor
open Go.Lift Go.Lift.D7 Go.ChangeShapes Go.WideShapes Go.ChangeAt Go.RowKit
set_option maxRecDepth 100000
theorem isBulk (H : Type) : IsBulk (H := H) Rows.uptoBulk Rows.uptoBulkAll :=
 ⟨rfl, fun _ _ => rfl, fun _ => rfl, fun _ => rfl, fun _ _ => rfl, rfl, fun e s => by show Rows.uptoBulkAll e + 1 ≤ Rows.uptoBulkAll e + Rows.uptoBulkAll s + 1; omega, fun _ => rfl⟩
theorem own : ownKnob Tryd.prog.godebug = none := by kernel_rfl
theorem laidOut : laidOutB Tryd.prog = true := by kernel_rfl
theorem follows : Tryd.prog.follows .mixedOrders = true := by kernel_rfl
theorem ros_of {w : World} {g : Nat} {cs : List V} (h : ∀ (j : Nat) v, cs[j]? = some v → ∃ x, w.cell? ⟨g, j, none⟩ = some x ∧ VP (wholeCl w) w v x) : ROs (wholeCl w) w ⟨g, 0, none⟩ cs := by
 refine ⟨?_, fun j v hj => by simpa using h j v hj⟩
 cases cs with
 | nil => exact Nat.zero_le _
 | cons c t =>
  have hl : (c :: t)[t.length]? = some ((c :: t)[t.length]'(by simp)) := List.getElem?_eq_getElem (by simp)
  obtain ⟨x, hx, _⟩ := h t.length _ hl
  unfold World.cell? at hx
  unfold wholeCl
  simp only at hx ⊢
  split at hx
  ·rename_i arr e f he
   rw [he]
   simp only [List.length_cons]
   have := (Array.getElem?_eq_some_iff.1 hx).1
   omega
  ·cases hx
theorem first_data : Rows.laid_unicode_utf8_first = Lib.firstData := by kernel_rfl
theorem accept_data : (Rows.laid_unicode_utf8_acceptRanges : DataW Unit) = Lib.acceptData := by kernel_rfl
def u8ren : Go.Shelf.Ren := ⟨fun n => n, fun | 119 => 133 | 138 => 135 | 139 => 136 | n => n, fun | 3 => 2 | 4 => 3 | n => n⟩
theorem g3 : u8ren.g 3 = 2 := rfl
theorem g4 : u8ren.g 4 = 3 := rfl
section
variable [MX]
theorem tab1 : GTab.tab 1 = some (Go.Lib.deBruijn64tab.map fun c : Nat => V.v (.int .u8 (c : Int))) := rfl
theorem tab2 : GTab.tab 0 = some [V.v (.int .i64 MX.m)] := rfl
theorem tab4 : GTab.tab 2 = some ((List.range 256).map fun c => V.v (.int .u8 (Go.Lib.firstT c))) := rfl
theorem tab5 : GTab.tab 3 = some ((List.range 16).flatMap fun i => [V.v (.int .u8 (Go.Lib.accLo i)), V.v (.int .u8 (Go.Lib.accHi i))]) := rfl
end
theorem pairs_get {f g : Nat → V} : ∀ (n i : Nat), i < n → ((List.range n).flatMap fun i => [f i, g i])[2 * i]? = some (f i) ∧ ((List.range n).flatMap fun i => [f i, g i])[2 * i + 1]? = some (g i) := by
 intro n
 have hlen : ∀ n, ((List.range n).flatMap fun i => [f i, g i]).length = 2 * n := by
  intro n
  induction n with
  | zero => rfl
  | succ n ih => rw [List.range_succ, List.flatMap_append, List.length_append, ih]; simp; omega
 induction n with
 | zero => intro i hi; omega
 | succ n ih =>
  intro i hi
  rw [List.range_succ, List.flatMap_append]
  by_cases h : i < n
  ·obtain ⟨a, b⟩ := ih i h
   rw [List.getElem?_append_left (by rw [hlen]; omega), List.getElem?_append_left (by rw [hlen]; omega)]
   exact ⟨a, b⟩
  ·obtain rfl : i = n := by omega
   rw [List.getElem?_append_right (by rw [hlen]; omega), List.getElem?_append_right (by rw [hlen]; omega), hlen]
   have e1 : 2 * i - 2 * i = 0 := by omega
   have e2 : 2 * i + 1 - 2 * i = 1 := by omega
   rw [e1, e2]
   exact ⟨rfl, rfl⟩
theorem bruijn_data : (Rows.laid_math_bits_deBruijn64tab : DataW Unit) = Lib.tabData .u8 (Lib.deBruijn64tab.map fun c : Nat => (c : Int)) := by kernel_rfl
theorem tab_cells {w : World} {name : String} {k : IntKind} {zs : List Int} {g : Nat} {t e : TypeId} {n : Nat} (hn : Tryd.prog.globalNamed name = some g) (hy : (Tryd.prog.globals[g]?).map (·.type) = some t)
  (ht : Tryd.prog.underlying t = some (.array n e)) (he : Tryd.prog.underlying e = some (.int k)) (hce : Tryd.prog.cellsOf e = 1) (hct : Tryd.prog.cellsOf t = n) (h : Lib.VarReads Tryd.prog w name (Lib.tabData k zs)) :
  ∀ (j : Nat) (z : Int), zs[j]? = some z → w.cell? ⟨g, j, none⟩ = some (.int k z) := fun j z hz => by
 obtain ⟨g', t', cs, fuel, p, h1, h2, h3, h4⟩ := h
 obtain rfl := Option.some.inj (hn.symm.trans h1)
 obtain rfl := Option.some.inj (hy.symm.trans h2)
 have hcs := Lib.cells_of_tab ht he hce hct h4
 have := World.var?_cell hn h3 j
 rw [this, ← Array.getElem?_toList, hcs]
 simp [hz]
theorem gok [MX] {W : World} (hm : W.cell? ⟨0, 0, none⟩ = some (.int .i64 MX.m)) (h0 : Lib.VarReads Tryd.prog W "math/bits.deBruijn64tab" Rows.laid_math_bits_deBruijn64tab)
  (h2 : Lib.VarReads Tryd.prog W "unicode/utf8.first" Rows.laid_unicode_utf8_first)
  (h3 : Lib.VarReads Tryd.prog W "unicode/utf8.acceptRanges" Rows.laid_unicode_utf8_acceptRanges) : GOK W := by
 rw [first_data] at h2
 rw [accept_data] at h3
 rw [bruijn_data] at h0
 have c1 := tab_cells (g := 1) (t := 127) (e := 5) (n := 64) (by kernel_rfl) (by kernel_rfl) (by kernel_rfl) (by kernel_rfl) (by kernel_rfl) (by kernel_rfl) h0
 have hU : Lib.Utf8Tabs (u8ren.g 3) (u8ren.g 4) W :=
  utf8Tabs_of_readsT (ρ := u8ren) { t5 := Tryd.underlying5, t119 := Tryd.underlying133, t138 := Tryd.underlying135, t139 := Tryd.underlying136 } ⟨by kernel_rfl, by kernel_rfl, by kernel_rfl, by kernel_rfl, by kernel_rfl, by kernel_rfl, by kernel_rfl⟩ h2 h3
 rw [g3, g4] at hU
 intro n cs hn
 have hc : n = 0 ∨ n = 1 ∨ n = 2 ∨ n = 3 := by
  have : GTab.tab n = gtab.1 n := rfl
  rw [this] at hn
  unfold gtab at hn
  simp only at hn
  split at hn
  ·exact .inl rfl
  ·exact .inr (.inl rfl)
  ·exact .inr (.inr (.inl rfl))
  ·exact .inr (.inr (.inr rfl))
  ·cases hn
 rcases hc with rfl | rfl | rfl | rfl
 ·rw [tab2] at hn
  cases hn
  refine ros_of fun j v hj => ?_
  cases j with
  | zero =>
   cases hj
   exact ⟨_, hm, .v _ rfl⟩
  | succ j => simp at hj
 ·rw [tab1] at hn
  cases hn
  refine ros_of fun j v hj => ?_
  simp only [List.getElem?_map, Option.map_eq_some_iff] at hj
  obtain ⟨k, hk2, rfl⟩ := hj
  exact ⟨_, c1 j k (by simp [hk2]), .v _ rfl⟩
 ·rw [tab4] at hn
  cases hn
  refine ros_of fun j v hj => ?_
  simp only [List.getElem?_map, Option.map_eq_some_iff] at hj
  obtain ⟨k, hk2, rfl⟩ := hj
  have hlt : j < 256 := by
   have := (List.getElem?_eq_some_iff.1 hk2).1
   simpa using this
  rw [List.getElem?_range hlt] at hk2
  cases hk2
  exact ⟨_, hU.1 j hlt, .v _ rfl⟩
 ·rw [tab5] at hn
  cases hn
  refine ros_of fun j v hj => ?_
  have hjl : j < 32 := by
   rcases Nat.lt_or_ge j 32 with h | h
   ·exact h
   ·exfalso
    have hl : ((List.range 16).flatMap fun i => [V.v (.int .u8 (Go.Lib.accLo i)), V.v (.int .u8 (Go.Lib.accHi i))]).length = 32 := rfl
    rw [List.getElem?_eq_none (by rw [hl]; exact h)] at hj
    cases hj
  obtain ⟨i, hi, hj2⟩ : ∃ i, i < 16 ∧ (j = 2 * i ∨ j = 2 * i + 1) := ⟨j / 2, by omega, by omega⟩
  obtain ⟨p1, p2⟩ := pairs_get (f := fun i => V.v (.int .u8 (Go.Lib.accLo i))) (g := fun i => V.v (.int .u8 (Go.Lib.accHi i))) 16 i hi
  rcases hj2 with rfl | rfl
  ·rw [p1] at hj
   cases hj
   exact ⟨_, (hU.2 i hi).1, .v _ rfl⟩
  ·rw [p2] at hj
   cases hj
   exact ⟨_, (hU.2 i hi).2, .v _ rfl⟩
noncomputable def laidWorld (os : Os) : World :=
 let w0 := World.holding Tryd.prog os ⟨#[], #[], []⟩
 let put (h : Array Obj) (g : Nat) (cs : Array Value) : Array Obj := h.modify g fun
  | .cells _ t frozen => .cells cs t frozen
  | o => o
 let h1 := put w0.heap 2 (Lib.firstTab.map fun z => Value.int .u8 z).toArray
 let h2 := put h1 3 ((List.range 16).flatMap fun i => [Value.int .u8 (Lib.accLo i), Value.int .u8 (Lib.accHi i)]).toArray
 let h3 := put h2 1 (Lib.deBruijn64tab.map fun z : Nat => Value.int .u8 (z : Int)).toArray
 { w0 with heap := h3 }
theorem laid3 (os : Os) (args : Array Value) : LaidIn Tryd.prog ((laidWorld os).forCall (fun _ _ => 0) ⟨#[], args, []⟩).memory [("math/bits.deBruijn64tab", Rows.laid_math_bits_deBruijn64tab), ("unicode/utf8.acceptRanges", Rows.laid_unicode_utf8_acceptRanges), ("unicode/utf8.first", Rows.laid_unicode_utf8_first)] [1, 3, 2] :=
 LaidIn.of_run [1, 3, 2] 8 (by kernel_rfl) (by kernel_rfl) (by kernel_rfl) (by kernel_rfl)
theorem ty_int {t : TypeId} {k : IntKind} {p : List V} (ht : Tryd.prog.underlying t = some (.int k)) (h : Ty Tryd.prog t p) : ∃ n, p = [.v (.int k n)] ∧ (Lit.int k n).wf = true := by
 cases h with
 | int k' n hu hw => rw [ht] at hu; cases hu; exact ⟨n, rfl, hw⟩
 | bool b hu => rw [ht] at hu; cases hu
 | string s hu => rw [ht] at hu; cases hu
 | slice rows hu _ => rw [ht] at hu; cases hu
 | struct fs cells hu _ => rw [ht] at hu; cases hu
theorem ty_bool {t : TypeId} {p : List V} (ht : Tryd.prog.underlying t = some .bool) (h : Ty Tryd.prog t p) : ∃ b, p = [.v (.bool b)] := by
 cases h with
 | int k' n hu hw => rw [ht] at hu; cases hu
 | bool b hu => exact ⟨b, rfl⟩
 | string s hu => rw [ht] at hu; cases hu
 | slice rows hu _ => rw [ht] at hu; cases hu
 | struct fs cells hu _ => rw [ht] at hu; cases hu
theorem ty_str {t : TypeId} {p : List V} (ht : Tryd.prog.underlying t = some .string) (h : Ty Tryd.prog t p) : ∃ s, p = [.v (.string s)] := by
 cases h with
 | int k' n hu hw => rw [ht] at hu; cases hu
 | bool b hu => rw [ht] at hu; cases hu
 | string s hu => exact ⟨s, rfl⟩
 | slice rows hu _ => rw [ht] at hu; cases hu
 | struct fs cells hu _ => rw [ht] at hu; cases hu
theorem ty_fields {t : TypeId} {fs : Array Field} {p : List V} (ht : Tryd.prog.underlying t = some (.struct fs)) (h : Ty Tryd.prog t p) : TyFs Tryd.prog fs.toList p := by
 cases h with
 | int k' n hu hw => rw [ht] at hu; cases hu
 | bool b hu => rw [ht] at hu; cases hu
 | string s hu => rw [ht] at hu; cases hu
 | slice rows hu _ => rw [ht] at hu; cases hu
 | struct fs' cells hu hf => rw [ht] at hu; cases hu; exact hf
theorem fs_cons {f : Field} {fs : List Field} {p : List V} (h : TyFs Tryd.prog (f :: fs) p) : ∃ a b, p = a ++ b ∧ Ty Tryd.prog f.type a ∧ TyFs Tryd.prog fs b := by
 cases h with
 | cons h1 h2 => exact ⟨_, _, rfl, h1, h2⟩
theorem fs_nil {p : List V} (h : TyFs Tryd.prog [] p) : p = [] := by
 cases h; rfl
theorem wf_i64 {n : Int} (h : (Lit.int .i64 n).wf = true) : -9223372036854775808 ≤ n ∧ n ≤ 9223372036854775807 := by
 simp [Lit.wf, IntKind.min, IntKind.max, IntKind.signed, IntKind.bits] at h
 omega
theorem any_bs (s : ByteArray) : ∃ l : List Int, Utf.By l ∧ s = bs l ∧ l.length = s.size := by
 refine ⟨s.data.toList.map fun c => (c.toNat : Int), ?_, ?_, ?_⟩
 ·intro c hc
  obtain ⟨x, _, rfl⟩ := List.mem_map.1 hc
  have := x.toNat_lt
  omega
 ·apply ByteArray.ext
  unfold bs u8s
  simp only [List.map_map]
  apply Array.toList_inj.1
  conv => lhs; rw [← List.map_id s.data.toList]
  apply List.map_congr_left
  intro c _
  simp
 ·rw [List.length_map, Array.length_toList]; rfl
theorem tyTk {p : List V} (hc : Ty Tryd.prog 40 p) : ∃ t : Rul.Tk4, p = Rul.row t ∧ Utf.By t.b ∧ (-9223372036854775808 ≤ t.n ∧ t.n ≤ 9223372036854775807) ∧ (-9223372036854775808 ≤ t.d ∧ t.d ≤ 9223372036854775807) ∧ vsRow p = t.b.length + 6 := by
 have h1 := ty_fields Tryd.underlying40 hc
 obtain ⟨p1, q1, rfl, t1, h1⟩ := fs_cons h1
 obtain ⟨p2, q2, rfl, t2, h1⟩ := fs_cons h1
 obtain ⟨p3, q3, rfl, t3, h1⟩ := fs_cons h1
 obtain ⟨p4, q4, rfl, t4, h1⟩ := fs_cons h1
 obtain ⟨p5, q5, rfl, t5, h1⟩ := fs_cons h1
 obtain rfl := fs_nil h1
 obtain ⟨k, rfl, _⟩ := ty_int Tryd.underlying3 t1
 obtain ⟨s, rfl⟩ := ty_str Tryd.underlying9 t2
 have h2 := ty_fields Tryd.underlying38 t3
 obtain ⟨p6, q6, rfl, t6, h2⟩ := fs_cons h2
 obtain ⟨p7, q7, rfl, t7, h2⟩ := fs_cons h2
 obtain rfl := fs_nil h2
 obtain ⟨n, rfl, hn⟩ := ty_int Tryd.underlying2 t6
 obtain ⟨d, rfl, hd⟩ := ty_int Tryd.underlying2 t7
 obtain ⟨w, rfl⟩ := ty_bool Tryd.underlying4 t4
 obtain ⟨i, rfl⟩ := ty_bool Tryd.underlying4 t5
 obtain ⟨b, hb, rfl, hl⟩ := any_bs s
 refine ⟨⟨k, b, n, d, w, i⟩, rfl, hb, wf_i64 hn, wf_i64 hd, ?_⟩
 simp [vsRow, vsize]
 omega
theorem ty_slice {t e : TypeId} {p : List V} (ht : Tryd.prog.underlying t = some (.slice e)) (h : Ty Tryd.prog t p) : ∃ rows, p = [.list .no rows] ∧ ∀ row ∈ rows, Ty Tryd.prog e row := by
 cases h with
 | int k' n hu hw => rw [ht] at hu; cases hu
 | bool b hu => rw [ht] at hu; cases hu
 | string s hu => rw [ht] at hu; cases hu
 | slice rows hu hr => rw [ht] at hu; cases hu; exact ⟨rows, rfl, hr⟩
 | struct fs cells hu _ => rw [ht] at hu; cases hu
theorem tyVal {p : List V} (hc : Ty Tryd.prog 42 p) : ∃ (t : Rul.Tk4) (rows : List (List V)), p = Rul.row t ++ [.list .no rows] ∧ (∀ row ∈ rows, Ty Tryd.prog 42 row) ∧ Utf.By t.b ∧ (-9223372036854775808 ≤ t.n ∧ t.n ≤ 9223372036854775807) ∧ (-9223372036854775808 ≤ t.d ∧ t.d ≤ 9223372036854775807) ∧ vsRow p = t.b.length + 7 + vsRows rows := by
 have h1 := ty_fields Tryd.underlying42 hc
 obtain ⟨p1, q1, rfl, t1, h1⟩ := fs_cons h1
 obtain ⟨p2, q2, rfl, t2, h1⟩ := fs_cons h1
 obtain rfl := fs_nil h1
 obtain ⟨t, rfl, a, b, c, e⟩ := tyTk t1
 obtain ⟨rows, rfl, hr⟩ := ty_slice Tryd.underlying28 t2
 refine ⟨t, rows, rfl, hr, a, b, c, ?_⟩
 rw [vsRow_append, e, List.append_nil]
 simp [vsRow, vsize]
 omega
theorem cost_app : ∀ a b : List Tk4, cost (a ++ b) = cost a + cost b
 | [], b => by simp [cost]
 | t :: a, b => by rw [List.cons_append, cost, cost, cost_app a b]; omega
theorem bare_ok (k : Int) : OkT (Rul.bare k) := ⟨(fun c hc => by cases hc), by simp [Rul.bare], by simp [Rul.bare], by simp [Rul.bare], by simp [Rul.bare], by simp [Rul.bare]⟩
theorem tyVals : ∀ (n : Nat) (rows : List (List V)), vsRows rows ≤ n → n ≤ 1048576 → (∀ row ∈ rows, Ty Tryd.prog 42 row) →
  ∃ l : List Rul.CV, rows = Rul.rowsC l ∧ Rul.nodesL l ≤ vsRows rows ∧ (∀ t ∈ Rul.flatL l, OkT t) ∧ cost ((Rul.flatL l).map ofR) ≤ 608 * vsRows rows := by
 intro n
 induction n with
 | zero =>
  intro rows hs hn h
  cases rows with
  | nil => exact ⟨[], by rw [Rul.rowsC_nil], by rw [Rul.nodesL_nil]; omega, by rw [Rul.flatL]; simp, by rw [Rul.flatL]; simp [cost]⟩
  | cons r rs =>
   obtain ⟨t, ks, rfl, _, _, _, _, e⟩ := tyVal (h r (List.mem_cons_self ..))
   simp only [vsRows] at hs
   omega
 | succ n ih =>
  intro rows hs hn h
  cases rows with
  | nil => exact ⟨[], by rw [Rul.rowsC_nil], by rw [Rul.nodesL_nil]; omega, by rw [Rul.flatL]; simp, by rw [Rul.flatL]; simp [cost]⟩
  | cons r rs =>
   obtain ⟨t, ks, rfl, hk, a, b, c, e⟩ := tyVal (h r (List.mem_cons_self ..))
   simp only [vsRows, e] at hs ⊢
   obtain ⟨kl, rfl, k1, k2, k3⟩ := ih ks (by omega) (by omega) hk
   obtain ⟨l, rfl, l1, l2, l3⟩ := ih rs (by omega) (by omega) fun row hm => h row (List.mem_cons_of_mem _ hm)
   have ht : OkT t := ⟨a, by omega, b.1, b.2, c.1, c.2⟩
   have hf : Rul.flatL (.mk t kl :: l) = (t :: (Rul.flatL kl ++ (if Rul.closer t.k = 0 then [] else [Rul.bare (Rul.closer t.k)]))) ++ Rul.flatL l := by rw [Rul.flatL, Rul.flatV]
   have hcl : ∀ x ∈ (if Rul.closer t.k = 0 then [] else [Rul.bare (Rul.closer t.k)]), OkT x := by
    intro x hx
    split at hx
    ·cases hx
    ·simp only [List.mem_singleton] at hx
     subst hx
     exact bare_ok _
   have hcc : cost ((if Rul.closer t.k = 0 then [] else [Rul.bare (Rul.closer t.k)]).map ofR) ≤ 304 := by
    split
    ·simp [cost]
    ·simp [cost, ofR, Rul.bare]
   refine ⟨.mk t kl :: l, ?_, ?_, ?_, ?_⟩
   ·rw [Rul.rowsC_cons, Rul.rowV]
   ·rw [Rul.nodesL_cons, Rul.nodesV_eq]
    show 1 + Rul.nodesL kl + _ ≤ _
    omega
   ·rw [hf]
    intro x hx
    rcases List.mem_append.1 hx with hx | hx
    ·rcases List.mem_cons.1 hx with rfl | hx
     ·exact ht
     ·rcases List.mem_append.1 hx with hx | hx
      ·exact k2 x hx
      ·exact hcl x hx
    ·exact l2 x hx
   ·rw [hf, List.map_append, cost_app, List.map_cons, cost, List.map_append, cost_app]
    have : (ofR t).b = t.b := rfl
    rw [this]
    omega
theorem okL_of {rows : List (List V)} {n : Nat} (hs : vsRows rows ≤ n) (hn : n ≤ 1048576) (h : ∀ row ∈ rows, Ty Tryd.prog 42 row) : ∃ l : List Rul.CV, rows = Rul.rowsC l ∧ OkL l ∧ cost ((Rul.flatL l).map ofR) ≤ 608 * vsRows rows := by
 obtain ⟨l, rfl, a, b, c⟩ := tyVals n rows hs hn h
 exact ⟨l, rfl, ⟨by omega, b, by omega⟩, c⟩
theorem tyDecl {p : List V} {n : Nat} (hs : vsRow p ≤ n) (hn : n ≤ 1048576) (hc : Ty Tryd.prog 34 p) : ∃ d : Rul.Dc, p = Rul.declC d ∧ OkD d ∧ costD d ≤ 608 * vsRow p := by
 have h1 := ty_fields Tryd.underlying34 hc
 obtain ⟨p1, q1, rfl, t1, h1⟩ := fs_cons h1
 obtain ⟨p2, q2, rfl, t2, h1⟩ := fs_cons h1
 obtain ⟨p3, q3, rfl, t3, h1⟩ := fs_cons h1
 obtain rfl := fs_nil h1
 obtain ⟨s, rfl⟩ := ty_str Tryd.underlying9 t1
 obtain ⟨rows, rfl, hr⟩ := ty_slice Tryd.underlying28 t2
 obtain ⟨i, rfl⟩ := ty_bool Tryd.underlying4 t3
 obtain ⟨b, hb, rfl, hl⟩ := any_bs s
 have e : vsRow ([V.v (.string (bs b))] ++ ([V.list .no rows] ++ ([V.v (.bool i)] ++ []))) = b.length + 3 + vsRows rows := by
  simp [vsRow, vsize]
  omega
 rw [e] at hs ⊢
 obtain ⟨l, rfl, ho, hcst⟩ := okL_of (n := n) (by omega) hn hr
 refine ⟨⟨b, l, i⟩, rfl, ⟨hb, by show b.length ≤ _; omega, ho⟩, ?_⟩
 unfold costD
 show 10 * b.length + cost ((Rul.flatL l).map ofR) + 400 ≤ _
 omega
theorem vsRow_le {r : List V} {rs : List (List V)} : vsRow r ≤ vsRows (r :: rs) ∧ vsRows rs ≤ vsRows (r :: rs) := by
 simp only [vsRows]
 omega
theorem tyDecls {n : Nat} (hn : n ≤ 1048576) : ∀ (rows : List (List V)), vsRows rows ≤ n → (∀ row ∈ rows, Ty Tryd.prog 34 row) →
  ∃ l : List Rul.Dc, rows = l.map Rul.declC ∧ (∀ d ∈ l, OkD d) ∧ l.length ≤ vsRows rows ∧ costDs l ≤ 608 * vsRows rows
 | [], _, _ => ⟨[], rfl, by simp, by simp, by simp [costDs]⟩
 | r :: rs, hs, h => by
  have hle := vsRow_le (r := r) (rs := rs)
  obtain ⟨d, rfl, hd, hc⟩ := tyDecl (n := n) (by omega) hn (h r (List.mem_cons_self ..))
  obtain ⟨l, rfl, hl, h1, h2⟩ := tyDecls hn rs (by omega) fun row hm => h row (List.mem_cons_of_mem _ hm)
  have h3 : 1 ≤ vsRow (Rul.declC d) := by simp [Rul.declC, vsRow, vsize]; omega
  refine ⟨d :: l, rfl, fun x hx => ?_, ?_, ?_⟩
  ·rcases List.mem_cons.1 hx with rfl | hx
   ·exact hd
   ·exact hl x hx
  ·simp only [vsRows, List.length_cons]
   omega
  ·simp only [vsRows, costDs]
   omega
theorem tyRule {p : List V} (hc : Ty Tryd.prog 31 p) : ∃ (k : Int) (b : List Int) (r1 r2 r3 : List (List V)), p = [.v (.int .i64 k), .v (.string (bs b)), .list .no r1, .list .no r2, .list .no r3] ∧ Utf.By b ∧
  (∀ row ∈ r1, Ty Tryd.prog 42 row) ∧ (∀ row ∈ r2, Ty Tryd.prog 34 row) ∧ (∀ row ∈ r3, Ty Tryd.prog 31 row) ∧ vsRow p = b.length + 5 + vsRows r1 + vsRows r2 + vsRows r3 := by
 have h1 := ty_fields Tryd.underlying31 hc
 obtain ⟨p1, q1, rfl, t1, h1⟩ := fs_cons h1
 obtain ⟨p2, q2, rfl, t2, h1⟩ := fs_cons h1
 obtain ⟨p3, q3, rfl, t3, h1⟩ := fs_cons h1
 obtain ⟨p4, q4, rfl, t4, h1⟩ := fs_cons h1
 obtain ⟨p5, q5, rfl, t5, h1⟩ := fs_cons h1
 obtain rfl := fs_nil h1
 obtain ⟨k, rfl, _⟩ := ty_int Tryd.underlying3 t1
 obtain ⟨s, rfl⟩ := ty_str Tryd.underlying9 t2
 obtain ⟨r1, rfl, hr1⟩ := ty_slice Tryd.underlying28 t3
 obtain ⟨r2, rfl, hr2⟩ := ty_slice Tryd.underlying29 t4
 obtain ⟨r3, rfl, hr3⟩ := ty_slice Tryd.underlying22 t5
 obtain ⟨b, hb, rfl, hl⟩ := any_bs s
 refine ⟨k, b, r1, r2, r3, rfl, hb, hr1, hr2, hr3, ?_⟩
 simp [vsRow, vsize]
 omega
theorem tyRules [MX] : ∀ (n : Nat) (rows : List (List V)), vsRows rows ≤ n → n ≤ 1048576 → (∀ row ∈ rows, Ty Tryd.prog 31 row) →
  ∃ l : List Rul.Ru, rows = Rul.rusC l ∧ OkRs l ∧ l.length ≤ vsRows rows ∧ costRs l ≤ 608 * vsRows rows := by
 intro n
 induction n with
 | zero =>
  intro rows hs hn h
  cases rows with
  | nil => exact ⟨[], by rw [Rul.rusC], okRs_of (by simp), by simp, by rw [costRs_nil]; omega⟩
  | cons r rs =>
   obtain ⟨k, b, r1, r2, r3, rfl, _, _, _, _, e⟩ := tyRule (h r (List.mem_cons_self ..))
   simp only [vsRows, e] at hs
   omega
 | succ n ih =>
  intro rows hs hn h
  cases rows with
  | nil => exact ⟨[], by rw [Rul.rusC], okRs_of (by simp), by simp, by rw [costRs_nil]; omega⟩
  | cons r rs =>
   obtain ⟨k, b, r1, r2, r3, rfl, hb, h1, h2, h3, e⟩ := tyRule (h r (List.mem_cons_self ..))
   rw [vsRows, e] at hs ⊢
   obtain ⟨p, rfl, po, pc⟩ := okL_of (n := n) (by omega) (by omega) h1
   obtain ⟨ds, rfl, d1, d2, d3⟩ := tyDecls (n := n) (by omega) r2 (by omega) h2
   obtain ⟨kl, rfl, k1, k2, k3⟩ := ih r3 (by omega) (by omega) h3
   obtain ⟨l, rfl, l1, l2, l3⟩ := ih rs (by omega) (by omega) fun row hm => h row (List.mem_cons_of_mem _ hm)
   refine ⟨.mk k b p ds kl :: l, ?_, ?_, ?_, ?_⟩
   ·rw [Rul.rusC, Rul.ruV]; rfl
   ·rw [okRs_cons, okR_eq]
    exact ⟨⟨hb, by omega, po, by omega, d1, by omega, k1⟩, l1⟩
   ·rw [List.length_cons]
    omega
   ·rw [costRs_cons, costR_eq]
    omega
theorem tv {t e : TypeId} {v : V} (ht : Tryd.prog.underlying t = some (.slice e)) (h : TyV Tryd.prog t v) : Ty Tryd.prog t [v] := by
 unfold TyV at h
 rw [ht] at h
 exact h
theorem ty22 [MX] {v : V} {n : Nat} (h : TyV Tryd.prog 22 v) (hs : asize v ≤ n) (hn : n ≤ 1048576) : ∃ l : List Rul.Ru, v = .list .no (Rul.rusC l) ∧ l.length ≤ n ∧ OkRs l ∧ costRs l ≤ 608 * n := by
 obtain ⟨rows, hp, hr⟩ := ty_slice Tryd.underlying22 (tv Tryd.underlying22 h)
 obtain rfl : v = .list .no rows := by simpa using hp
 have hv : vsRows rows ≤ n := by simp only [asize, vsize] at hs; omega
 obtain ⟨l, rfl, a, b, c⟩ := tyRules n rows hv hn hr
 exact ⟨l, rfl, by omega, a, by omega⟩
end Go.Proofs.YtehffjejplpaeaaDoor
end
