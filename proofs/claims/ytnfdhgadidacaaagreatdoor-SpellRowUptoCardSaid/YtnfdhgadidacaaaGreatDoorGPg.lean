/- The program, evaluated. -/
import Derived.Shelf.Strings.BuilderRune
import Derived.WalkKit
import Derived.Lib.Bytealg
import Derived.Laws.Bits64b
import Derived.Shelf.Spec.TrailingZeros
import Derived.Lib.AppendIntMem
import Derived.Test.YtnfdhgadidacaaaGreatDoorGP4Basea
import Derived.Test.YtnfdhgadidacaaaGreatDoorGPf
import Derived.Test.YtnfdhgadidacaaaGreatDoorGRa
section
open Go.Proofs
namespace Go.Lift.R4
set_option linter.unusedSectionVars false
variable [MX]
open Utf Go.RowKit
set_option maxRecDepth 100000
set_option maxHeartbeats 4000000
set_option linter.unusedSimpArgs false
set_option linter.unusedVariables false
theorem extra105 : Builder.Extra Tryz.prog Tryz.lays105_ren where
 sizeBuilder := by kernel_rfl
 liesBuilder := by kernel_rfl
 t5 := by kernel_rfl
 a5 := Tryz.lays105.a5
 z5 := Tryz.lays105.z5
 v5 := Tryz.lays105.v5
 infoByte := by kernel_rfl
 cellsByte := by kernel_rfl
 sizeByte := by kernel_rfl
 neB5 := by decide
theorem follows4 : Tryz.prog.follows .mixedOrders = true := by kernel_rfl
section
variable {m : List Nat} {c : Cl} {w : World} {h : Heap} {out : List Int} {r : Int} {y : Value}
def Grown (m : List Nat) (c : Cl) (w : World) (h : Heap) (y : Value) (out' : List Int) (z : Value) (w' : World) : Prop :=
 ∃ c', HOK m c' w' h ∧ OwnsH m c' w' h (ri .u8 out') z ∧ FrY y w c w' c' ∧ ∀ b, ownBlk z = some b → w.heap.size ≤ b ∨ ownBlk y = some b
theorem args2 (hO : OwnsH m c w h (ri .u8 out) y) : R2 (VRr m c w) (V.list .yes (ri .u8 out) :: [.v (.int .i32 r)]) (#[y, .int .i32 r] : Array Value).toList := by
 refine ⟨rfl, fun i x z hx hz => ?_⟩
 match i with
 | 0 => cases hx; cases hz; exact hO.1
 | 1 => cases hx; cases hz; rfl
 | i + 2 => simp at hx
theorem ok158 (h0 : -2147483648 ≤ r) (h1 : r ≤ 2147483647) (hna : r < 0 ∨ 128 ≤ r) (hl : out.length ≤ 1000000000) (hH : HOK m c w h) (hO : OwnsH m c w h (ri .u8 out) y) :
  Calls Tryz.prog 158 #[y, .int .i32 r] w fun e w' => ∃ z, e = .returned z ∧ Grown m c w h y (out ++ enc (scal r)) z w' :=
 (own_ok (hints := hints) (prim := prim0) follows4 (fun _ _ hp => by cases hp) (f := 158) (t := 4) (hi := h158) (xs := #[y, .int .i32 r]) Tryz.func158 rfl Tryz.ntmps158 rfl c158 rfl rfl (by simp) (ev158 h0 h1 hna hl) (.inr rfl) rfl hH hO (args2 hO)).mono
  fun e w' ⟨z, c', he, k1, k2, k3, k4⟩ => ⟨z, he, c', k1, k2, k3, k4⟩
theorem rune_ok (h0 : -2147483648 ≤ r) (h1 : r ≤ 2147483647) (hl : out.length ≤ 1000000000) (hH : HOK m c w h) (hO : OwnsH m c w h (ri .u8 out) y) :
  Calls Tryz.prog 126 #[y, .int .i32 r] w fun e w' => ∃ z, e = .returned z ∧ Grown m c w h y (out ++ enc (scal r)) z w' := by
 by_cases hna : r < 0 ∨ 128 ≤ r
 ·have k := ok158 h0 h1 hna hl hH hO
  have hq : decide (IntKind.u32.wrap r ≤ 127) = false := by
   rcases hna with hn | hn
   ·rw [u32w_neg h0 hn]; simp; omega
   ·rw [u32w_pos (by omega) h1]; simp; omega
  clear hO hH
  go_enter Tryz.func126, Tryz.ntmps126
  go_wp2_with (go_at_call 158; refine k.mono ?_; rintro e w' ⟨z, rfl, hg⟩)
  go_ret
  exact ⟨z, rfl, hg⟩
 ·exact (own_ok (hints := hints) (prim := prim0) follows4 (fun _ _ hp => by cases hp) (f := 126) (t := 4) (hi := h126) (xs := #[y, .int .i32 r]) Tryz.func126 rfl Tryz.ntmps126 rfl c126 rfl rfl (by simp) (ev126 (by omega) (by omega) hl) (.inr rfl) rfl hH hO (args2 hO)).mono
   fun e w' ⟨z, c', he, k1, k2, k3, k4⟩ => ⟨z, he, c', k1, k2, k3, k4⟩
end
section
variable {m : List Nat} {c : Cl} {w : World} {h : Heap} {E : Entry}
theorem cc_inv (hI : InvP [] E m c w [] h act0) {i b : Nat} {p0 x : V} (hi : h[i]? = some (.cells [p0, x])) (hm : m[i]? = some b) (hlo : E.lo ≤ i) (hp : okP i p0 = true) :
  ∃ w1, (Calls Tryz.prog 108 #[.pointer (some ⟨b, 0, none⟩)] w fun e w' => e = .returned (.tuple #[]) ∧ w' = w1) ∧ InvP [] E m c w1 [] (Lift.setOb h i [.ptr i 0, x]) act0 := by
 obtain ⟨arr, e, f, hw, hle, hfr, hall, hbld⟩ := hok_cells hI.hok hi hm
 have hcs : cellsOfOb h i = some [p0, x] := by unfold cellsOfOb; rw [hi]
 have hsz0 : 0 < arr.size := by simp at hle; omega
 obtain ⟨a0, ha0⟩ : ∃ a0, arr[0]? = some a0 := ⟨_, Array.getElem?_eq_getElem hsz0⟩
 have hr0 := hall 0 p0 a0 rfl ha0
 have hc0 : w.cell? ⟨b, 0, none⟩ = some a0 := by rw [cell_arr hw]; exact ha0
 unfold okP at hp
 split at hp
 ·have hx : a0 = .pointer none := hr0.1
  rw [hx] at hc0
  obtain ⟨rfl, hsz⟩ := hbld 64 rfl rfl
  have hsh : w.shape? b = some (64, 2) := by simp [World.shape?, hw, hsz]
  have k := Any.Builder_copyCheck_fresh (P := Tryz.prog) (ρ := Tryz.lays105_ren) { Tryz.lays105 with } extra105.toX72 b w hc0 hsh (hfr 0 (by simp))
  obtain ⟨hI', _⟩ := store_cells (P := Tryz.prog) hI (off := 0) (vs := [.ptr i 0]) (ys := [.pointer (some ⟨b, 0, none⟩)]) 2 hcs hm hlo (by simp) ⟨rfl, fun j v y hv hy => by
    match j with
    | 0 => cases hv; cases hy; exact ⟨b, hm, rfl⟩
    | j + 1 => simp at hv⟩ (fun y hy => by simp at hy; subst hy; rfl) (fun j r y hv hy => by
    match j with
    | 0 => cases hv
    | j + 1 => simp at hv) (.inr (Nat.le_refl _)) (fun t i j r => by simp [look]) (fun v hv => by simp at hv; subst hv; simp [okv, okc]) rfl
  exact ⟨_, k, hI'⟩
 ·rename_i j
  rw [beq_iff_eq] at hp
  subst hp
  obtain ⟨g, hg, hx⟩ := hr0.1
  rw [hm] at hg
  cases hg
  rw [hx] at hc0
  have k := Any.Builder_copyCheck_used (P := Tryz.prog) (ρ := Tryz.lays105_ren) { Tryz.lays105 with } extra105.toX72 b w hc0
  refine ⟨w, k, ?_⟩
  have e1 : Lift.setOb h j [.ptr j 0, x] = h := by
   unfold Lift.setOb
   apply List.ext_getElem?
   intro n
   rw [List.getElem?_set]
   split
   ·rename_i hn
    subst hn
    rw [hi]
    simp
    exact (List.getElem?_eq_some_iff.1 hi).1
   ·rfl
  rw [e1]
  exact hI
 ·cases hp
end
theorem set_take {h : Heap} {i lo : Nat} {cs : List V} (hlo : lo ≤ i) : (Lift.setOb h i cs).length = h.length ∧ (Lift.setOb h i cs).take lo = h.take lo := by
 unfold Lift.setOb
 exact ⟨List.length_set, List.take_set_of_le hlo⟩
theorem ptr_arg {m : List Nat} {c : Cl} {w : World} {i : Nat} {xs : Array Value} (h : R2 (VRr m c w) [.ptr i 0] xs.toList) : ∃ b, m[i]? = some b ∧ xs = #[.pointer (some ⟨b, 0, none⟩)] := by
 obtain ⟨l⟩ := xs
 match l, h.1 with
 | [x], _ =>
  obtain ⟨b, hb, rfl⟩ : ∃ g, m[i]? = some g ∧ x = .pointer (some ⟨g, 0, none⟩) := h.2 0 _ _ rfl rfl
  exact ⟨b, hb, rfl⟩
theorem ptr_arg2 {m : List Nat} {c : Cl} {w : World} {i : Nat} {a : Value} {xs : Array Value} (h : R2 (VRr m c w) [.ptr i 0, .v a] xs.toList) : ∃ b, m[i]? = some b ∧ xs = #[.pointer (some ⟨b, 0, none⟩), a] := by
 obtain ⟨l⟩ := xs
 match l, h.1 with
 | [x, y], _ =>
  obtain ⟨b, hb, rfl⟩ : ∃ g, m[i]? = some g ∧ x = .pointer (some ⟨g, 0, none⟩) := h.2 0 _ _ rfl rfl
  have hy : y = a := h.2 1 _ _ rfl rfl
  subst hy
  exact ⟨b, hb, rfl⟩
theorem cc_ok {lo i : Nat} {h : Heap} {p0 x : V} (hi : h[i]? = some (.cells [p0, x])) (hlo : lo ≤ i) (hlh : lo ≤ h.length) (hp : okP i p0 = true) :
  CallOK Tryz.prog lo 108 [.ptr i 0] h (.tup []) (Lift.setOb h i [.ptr i 0, x]) := by
 refine ⟨rfl, enters_of Tryz.func108 (by kernel_rfl) rfl, fun m c w xs hH ha => ⟨set_take hlo, ?_⟩⟩
 obtain ⟨b, hm, rfl⟩ := ptr_arg ha
 obtain ⟨w1, hk, hI⟩ := cc_inv (inv0 hH hlh) hi hm hlo hp
 refine hk.mono fun e w' ⟨he, hw⟩ => ?_
 subst hw
 obtain ⟨_, k1, k2, k3⟩ := done0 hH.1.len hI
 exact ⟨_, c, he, ⟨#[], rfl, R2.nil⟩, k1, k2, k3⟩
theorem walk90 {b : Nat} {r : Int} {w w1 : World} {ao : Option Addr} {n cap : Nat} {Q : Value → World → Prop}
  (hcc : Calls Tryz.prog 108 #[.pointer (some ⟨b, 0, none⟩)] w fun e w' => e = .returned (.tuple #[]) ∧ w' = w1)
  (c1 : w1.cell? ⟨b, 1, none⟩ = some (.slice ao n cap))
  (hr : Calls Tryz.prog 126 #[.slice ao n cap, .int .i32 r] w1 fun e w' => ∃ z, e = .returned z ∧ Q z w')
  (hq : ∀ z w', Q z w' → w'.cell? ⟨b, 1, none⟩ = some (.slice ao n cap) ∧ w'.frozen? ⟨b, 1, none⟩ = false ∧ ∃ zo k zc, z = .slice zo k zc) :
  Calls Tryz.prog 90 #[.pointer (some ⟨b, 0, none⟩), .int .i32 r] w fun e w' => ∃ zo k zc w2, Q (.slice zo k zc) w2 ∧ e = .returned (.tuple #[.int .i64 (wrap64 ((k : Int) - (n : Int))), .nilIface]) ∧ w' = w2.setCell ⟨b, 1, none⟩ (.slice zo k zc) := by
 go_enter Tryz.func90, Tryz.ntmps90
 go_wp2_with (go_at_call 108; refine hcc.mono ?_; rintro e w' ⟨rfl, rfl⟩)
 go_wp2_with (go_at_call 126; refine hr.mono ?_; rintro e w2 ⟨z, rfl, hz⟩; obtain ⟨d1, f1, zo, k, zc, rfl⟩ := hq _ _ hz)
 go_ret2
 exact ⟨zo, k, zc, _, hz, rfl, rfl⟩
theorem vp_slice {c : Cl} {w : World} {k : Own} {rows : List (List V)} {x : Value} (h : VP c w (.list k rows) x) : ∃ ao cap, x = .slice ao rows.length cap := by
 cases h with
 | empty => exact ⟨_, _, rfl⟩
 | list => exact ⟨_, _, rfl⟩
theorem cells_setOb {h : Heap} {i : Nat} {cs : List V} (hi : i < h.length) : cellsOfOb (Lift.setOb h i cs) i = some cs := by
 unfold cellsOfOb Lift.setOb
 rw [List.getElem?_set_self hi]
theorem setOb_setOb {h : Heap} {i : Nat} {cs ds : List V} : Lift.setOb (Lift.setOb h i cs) i ds = Lift.setOb h i ds := by
 unfold Lift.setOb
 rw [List.set_set]
theorem wr_ok {lo i : Nat} {h : Heap} {p0 : V} {out : List Int} {r : Int} (hi : h[i]? = some (.cells [p0, .list .yes (ri .u8 out)])) (hlo : lo ≤ i) (hlh : lo ≤ h.length) (hp : okP i p0 = true)
  (h0 : -2147483648 ≤ r) (h1 : r ≤ 2147483647) (hl : out.length ≤ 1000000000) :
  CallOK Tryz.prog lo 90 [.ptr i 0, .v (.int .i32 r)] h (.tup [.v (.int .i64 ((enc (scal r)).length : Nat)), .v .nilIface]) (Lift.setOb h i [.ptr i 0, .list .yes (ri .u8 (out ++ enc (scal r)))]) := by
 refine ⟨rfl, enters_of Tryz.func90 (by kernel_rfl) rfl, fun m c w xs hH ha => ⟨set_take hlo, ?_⟩⟩
 obtain ⟨b, hm, rfl⟩ := ptr_arg2 ha
 have hil : i < h.length := (List.getElem?_eq_some_iff.1 hi).1
 obtain ⟨w1, hcc, hI1⟩ := cc_inv (inv0 hH hlh) hi hm hlo hp
 have hcs1 := cells_setOb (cs := [.ptr i 0, .list .yes (ri .u8 out)]) hil
 have hi1 : (Lift.setOb h i [.ptr i 0, .list .yes (ri .u8 out)])[i]? = some (.cells [.ptr i 0, .list .yes (ri .u8 out)]) := by
  unfold Lift.setOb
  rw [List.getElem?_set_self hil]
 obtain ⟨y, hat, hI2, hO⟩ := set_obj_flag hI1 hcs1 (j := 1) rfl hlo
 obtain ⟨arr, e0, f0, hw0, hle0, hfr0, _, _⟩ := hok_cells hI1.hok hi1 hm
 have hc1 : w1.cell? ⟨b, 1, none⟩ = some y := by
  obtain ⟨cs, b', k1, k2, k3, k4⟩ := hat
  rw [hm] at k3
  cases k3
  exact k4
 have hy := hO.1
 obtain ⟨ao, cap, rfl⟩ := vp_slice hy
 have hOH : OwnsH m c w1 (Lift.setOb (Lift.setOb h i [.ptr i 0, .list .yes (ri .u8 out)]) i (([.ptr i 0, .list .yes (ri .u8 out)] : List V).set 1 (.list .no (ri .u8 out)))) (ri .u8 out) (.slice ao (ri .u8 out).length cap) := ⟨hO.1, hO.2.1, hO.2.2.1⟩
 have hrune := rune_ok h0 h1 hl hI2.hok hOH
 have hbl : b < w1.heap.size := (Array.getElem?_eq_some_iff.1 hw0).1
 have hq : ∀ z w', Grown m c w1 (Lift.setOb (Lift.setOb h i [.ptr i 0, .list .yes (ri .u8 out)]) i (([.ptr i 0, .list .yes (ri .u8 out)] : List V).set 1 (.list .no (ri .u8 out)))) (.slice ao (ri .u8 out).length cap) (out ++ enc (scal r)) z w' →
   w'.cell? ⟨b, 1, none⟩ = some (.slice ao (ri .u8 out).length cap) ∧ w'.frozen? ⟨b, 1, none⟩ = false ∧ ∃ zo k zc, z = .slice zo k zc := fun z w' ⟨c', g1, g2, g3, g4⟩ => by
  have hbb := (g3.2.2.2.2.2 b hbl (fun e => (hO.2.1.lt e).2 (List.mem_of_getElem? hm))).1
  obtain ⟨zo, zc, rfl⟩ := vp_slice g2.1
  exact ⟨by rw [cell_of_heap hbb]; exact hc1, by rw [frozen_of_heap hbb]; exact hfr0 1 (by simp), _, _, _, rfl⟩
 refine (walk90 hcc hc1 hrune hq).mono fun e w' ⟨zo, k, zc, w2, ⟨c', g1, g2, g3, g4⟩, he, hw'⟩ => ?_
 subst hw'
 have hI3 := own_step hI2 hO.2.1 hO.2.2.2 g1 g3
 have hk : k = (ri .u8 (out ++ enc (scal r))).length := by
  obtain ⟨zo', zc', hz⟩ := vp_slice g2.1
  injection hz
 have hcs2 := cells_setOb (h := Lift.setOb h i [.ptr i 0, .list .yes (ri .u8 out)]) (cs := ([.ptr i 0, .list .yes (ri .u8 out)] : List V).set 1 (.list .no (ri .u8 out))) (i := i) (by unfold Lift.setOb; simpa using hil)
 have hsz1 : w.heap.size ≤ w1.heap.size := hI1.fr.size
 obtain ⟨hI4, _⟩ := store_cells (P := Tryz.prog) hI3 (off := 1) (vs := [.list .yes (ri .u8 (out ++ enc (scal r)))]) (ys := [.slice zo k zc]) 1 hcs2 hm hlo (by simp) ⟨rfl, fun j v y hv hy => by
   match j with
   | 0 => cases hv; cases hy; exact VR1_of_VP g2.1
   | j + 1 => simp at hv⟩ (fun y hy => by simp at hy; subst hy; rfl) (fun j r' y hv hy => by
   match j with
   | 0 =>
    cases hv; cases hy
    refine .inr ⟨rfl, g2.2.1, g2.2.2, fun bb hbb => ?_⟩
    rcases g4 bb hbb with h' | h'
    ·exact .inl (Nat.le_trans hsz1 h')
    ·exact hO.2.2.2 bb h'
   | j + 1 => simp at hv) (.inl ⟨Nat.le_refl _, by simp⟩) (fun t i j r => by simp [look]) (fun v hv => by simp at hv; subst hv; rfl) rfl
 obtain ⟨_, q1, q2, q3⟩ := done0 hH.1.len hI4
 have hheap : Lift.setOb (Lift.setOb (Lift.setOb h i [.ptr i 0, .list .yes (ri .u8 out)]) i (([.ptr i 0, .list .yes (ri .u8 out)] : List V).set 1 (.list .no (ri .u8 out)))) i (List.take 1 (([.ptr i 0, .list .yes (ri .u8 out)] : List V).set 1 (.list .no (ri .u8 out))) ++ [.list .yes (ri .u8 (out ++ enc (scal r)))] ++ List.drop (1 + ([.list .yes (ri .u8 (out ++ enc (scal r)))] : List V).length) (([.ptr i 0, .list .yes (ri .u8 out)] : List V).set 1 (.list .no (ri .u8 out)))) =
   Lift.setOb h i [.ptr i 0, .list .yes (ri .u8 (out ++ enc (scal r)))] := by
  rw [setOb_setOb, setOb_setOb]
  rfl
 rw [hheap] at q1 q3
 refine ⟨_, c', he, ⟨_, rfl, ?_⟩, q1, q2, q3⟩
 have hlen : wrap64 ((k : Int) - ((ri .u8 out).length : Int)) = ((enc (scal r)).length : Int) := by
  have he4 : (enc (scal r)).length ≤ 4 := by
   unfold enc
   split
   ·simp
   ·split
    ·simp
    ·split <;> simp
  have e1 : ∀ l : List Int, (ri .u8 l).length = l.length := fun l => by simp [ri]
  rw [hk, e1, e1, List.length_append]
  unfold wrap64
  omega
 rw [hlen]
 refine ⟨rfl, fun j v y hv hy => ?_⟩
 match j with
 | 0 => cases hv; cases hy; rfl
 | 1 => cases hv; cases hy; rfl
 | j + 2 => simp at hv
end Go.Lift.R4
end

section
open Go.Proofs
namespace Go.Lift.R4
set_option linter.unusedSectionVars false
variable [MX]
open Utf Go.RowKit
set_option maxRecDepth 100000
set_option maxHeartbeats 4000000
set_option linter.unusedSimpArgs false
set_option linter.unusedVariables false
theorem cell_drew {w : World} {a : Addr} {x : Value} (h : w.cell? a = some x) : w.drew.cell? a = some x := h
theorem walk49a {b : Nat} {w : World} (c1 : w.cell? ⟨b, 1, none⟩ = some (.slice none 0 0)) :
  Calls Tryz.prog 49 #[.pointer (some ⟨b, 0, none⟩)] w fun e w' => e = .returned (.string ⟨#[]⟩) ∧ w' = w.drew := by
 have hUS : ∀ W q, (Builtin.unsafeString_ #[98, 3] 9 #[.pointer q, .int .i64 0]).run Tryz.prog W = .ok (.string .empty) W := fun W q => Any.unsafeString_none (P := Tryz.prog) (ρ := Tryz.lays105_ren) { Tryz.lays105 with } extra105 W q
 have mixed := follows4
 have c1 := cell_drew c1
 have hSD : (Builtin.unsafeSliceData_ #[28] 98 #[.slice none 0 0]).run Tryz.prog w.drew = .ok (.pointer none) w.drew := rfl
 go_enter Tryz.func49, Tryz.ntmps49
 go_wp2
 go_region_o
 all_goals (go_wp2; go_ret; exact ⟨rfl, rfl⟩)
theorem walk49c {b g cap : Nat} {l : List UInt8} {cur : Array Value} {w : World} (c1 : w.cell? ⟨b, 1, none⟩ = some (.slice (some ⟨g, 0, none⟩) l.length cap)) (hg : w.heap[g]? = some (.cells cur 5 (0, 0))) (h0 : l ≠ []) (hcap : cap ≠ 0) (hle : l.length ≤ cur.size)
  (h63 : l.length ≤ 9223372036854775807) (hcell : ∀ j x, l[j]? = some x → w.cell? ⟨g, j, none⟩ = some (.int .u8 x.toNat)) :
  Calls Tryz.prog 49 #[.pointer (some ⟨b, 0, none⟩)] w fun e w' => e = .returned (.string ⟨l.toArray⟩) ∧ w' = w.drew.freeze ⟨g, 0, none⟩ l.length := by
 have c1 := cell_drew c1
 have hSD : (Builtin.unsafeSliceData_ #[28] 98 #[.slice (some ⟨g, 0, none⟩) l.length cap]).run Tryz.prog w.drew = .ok (.pointer (some ⟨g, 0, none⟩)) w.drew :=
  Lib.run_unsafeSliceData_row _ _ _ _ _ _ hcap
 have mixed := follows4
 have hUS : (Builtin.unsafeString_ #[98, 3] 9 #[.pointer (some ⟨g, 0, none⟩), .int .i64 l.length]).run Tryz.prog w.drew = .ok (.string ⟨l.toArray⟩) (w.drew.freeze ⟨g, 0, none⟩ l.length) := by
  refine Lib.run_unsafeString_row w.drew 98 3 9 5 Tryz.underlying98 (by kernel_rfl) g cur.size (by have hg' : w.drew.heap[g]? = some (.cells cur 5 (0, 0)) := hg; simp [World.shape?, hg']) l h0 hle h63 ?_
  intro j x hx
  have := hcell j x hx
  rw [Lib.add_plain, Nat.zero_add]
  exact cell_drew this
 go_enter Tryz.func49, Tryz.ntmps49
 go_wp2
 go_region_o
 all_goals (go_wp2; go_ret; exact ⟨rfl, rfl⟩)
theorem walk49b {b g : Nat} {cur : Array Value} {e0 : TypeId} {f0 : Nat × Nat} {w : World} (hb : b < w.heap.size) (c1 : w.cell? ⟨b, 1, none⟩ = some (.slice (some ⟨g, 0, none⟩) 0 0)) (hg : w.heap[g]? = some (.cells cur e0 f0)) :
  Calls Tryz.prog 49 #[.pointer (some ⟨b, 0, none⟩)] w fun e w' => e = .returned (.string ⟨#[]⟩) ∧ Below w.heap.size w w' := by
 have hUS : ∀ W q, (Builtin.unsafeString_ #[98, 3] 9 #[.pointer q, .int .i64 0]).run Tryz.prog W = .ok (.string .empty) W := fun W q => Any.unsafeString_none (P := Tryz.prog) (ρ := Tryz.lays105_ren) { Tryz.lays105 with } extra105 W q
 have mixed := follows4
 have c2 : (w.drew.alloc (.view ⟨g, 0, none⟩ 5)).cell? ⟨b, 1, none⟩ = some (.slice (some ⟨g, 0, none⟩) 0 0) := by
  rw [cell_of_heap (w := w.drew) (Lib.alloc_old w.drew _ b hb)]
  exact cell_drew c1
 have c1 := cell_drew c1
 have hSD : (Builtin.unsafeSliceData_ #[28] 98 #[.slice (some ⟨g, 0, none⟩) 0 0]).run Tryz.prog w.drew = .ok (.pointer (some ⟨w.drew.heap.size, 0, none⟩)) (w.drew.alloc (.view ⟨g, 0, none⟩ 5)) :=
  Lib.run_unsafeSliceData_zero w.drew _ _ 5 Tryz.underlying98 ⟨g, 0, none⟩ 0 (e0, cur.size) (by have hg' : w.drew.heap[g]? = some (.cells cur e0 f0) := hg; simp [World.shape?, hg'])
 go_enter Tryz.func49, Tryz.ntmps49
 go_wp2
 go_region_o
 all_goals (go_wp2; go_ret; exact ⟨rfl, (Below.drew (Below.refl w.heap.size w)).alloc (Nat.le_refl _) _⟩)
theorem freeze_heap {w : World} {g n : Nat} {cur : Array Value} {e : TypeId} {f : Nat × Nat} (hg : w.heap[g]? = some (.cells cur e f)) :
  (w.freeze ⟨g, 0, none⟩ n).heap.size = w.heap.size ∧ (∀ k, k ≠ g → (w.freeze ⟨g, 0, none⟩ n).heap[k]? = w.heap[k]?) ∧ (∃ f', (w.freeze ⟨g, 0, none⟩ n).heap[g]? = some (.cells cur e f')) ∧
   (w.freeze ⟨g, 0, none⟩ n).os = w.os ∧ (w.freeze ⟨g, 0, none⟩ n).tape = w.tape ∧ (w.freeze ⟨g, 0, none⟩ n).output = w.output := by
 unfold World.freeze
 split
 ·exact ⟨rfl, fun _ _ => rfl, ⟨f, hg⟩, rfl, rfl, rfl⟩
 ·refine ⟨by simp, fun k hk => ?_, ?_, rfl, rfl, rfl⟩
  ·simp only [Array.getElem?_modify]
   rw [if_neg (Ne.symm hk)]
  ·simp only [Array.getElem?_modify, if_true, hg, Option.map_some]
   obtain ⟨f1, f2⟩ := f
   exact ⟨_, rfl⟩
theorem str_ok {lo i : Nat} {h : Heap} {p0 : V} {out : List Int} (hi : h[i]? = some (.cells [p0, .list .yes (ri .u8 out)])) (hlo : lo ≤ i) (hlh : lo ≤ h.length) (hby : By out) (hl : out.length ≤ 1000000000) :
  CallOK Tryz.prog lo 49 [.ptr i 0] h (.v (.string ⟨(u8s out).toArray⟩)) (Lift.setOb h i [p0, .list .no (ri .u8 out)]) := by
 refine ⟨rfl, enters_of Tryz.func49 (by kernel_rfl) rfl, fun m c w xs hH ha => ⟨set_take hlo, ?_⟩⟩
 obtain ⟨b, hm, rfl⟩ := ptr_arg ha
 have hcs : cellsOfOb h i = some [p0, .list .yes (ri .u8 out)] := by unfold cellsOfOb; rw [hi]
 obtain ⟨y, hat, hI2, hO⟩ := set_obj_flag (inv0 hH hlh) hcs (j := 1) rfl hlo
 have hc1 : w.cell? ⟨b, 1, none⟩ = some y := by
  obtain ⟨cs, b', k1, k2, k3, k4⟩ := hat
  rw [hm] at k3
  cases k3
  exact k4
 have hbs : b < w.heap.size := hH.1.m_lt hm
 have fin : ∀ w', InvP [] ⟨lo, h.length, w, m, c, hoOf m w h lo, h, 0⟩ m c w' (Lift.untag []) (Lift.setOb h i (([p0, .list .yes (ri .u8 out)] : List V).set 1 (.list .no (ri .u8 out)))) act0 → ∀ s : ByteArray, s = ⟨(u8s out).toArray⟩ →
   ∃ x c', Ending.returned (.string s) = .returned x ∧ VRr m c' w' (.v (.string ⟨(u8s out).toArray⟩)) x ∧ HOK m c' w' (Lift.setOb h i [p0, .list .no (ri .u8 out)]) ∧ Fr lo (hoOf m w h lo) w m c w' m c' ∧ Owned lo (hoOf m w h lo) w m w' [] (Lift.setOb h i [p0, .list .no (ri .u8 out)]) act0 := fun w' hI s hs => by
  obtain ⟨_, q1, q2, q3⟩ := done0 hH.1.len hI
  subst hs
  exact ⟨_, c, rfl, rfl, q1, q2, q3⟩
 rcases hO.2.1 with ⟨rfl, hr⟩ | ⟨g, cap, cur, e, sz, rfl, k1, k2, k3, k4, k5, k6, k7, k8, k9, k10⟩
 ·have ho : out = [] := by cases out with
   | nil => rfl
   | cons x t => cases hr
  subst ho
  refine (walk49a hc1).mono fun e w' ⟨he, hw⟩ => ?_
  subst he hw
  exact fin _ (hI2.grown (w' := w.drew) none (Nat.le_refl _) (fun _ _ _ => ⟨rfl, rfl⟩) (fun _ hb => by cases hb) (fun k hk _ h0 => absurd h0 (by rw [hI2.core.c_zero hk]; omega)) rfl rfl rfl) _ rfl
 ·by_cases ho : out = []
  ·subst ho
   obtain rfl := k9 rfl
   refine (walk49b hbs hc1 k1).mono fun e w' ⟨he, hw⟩ => ?_
   subst he
   exact fin _ (hI2.grown (w' := w') none hw.size (fun k hk _ => ⟨hw.block k hk, rfl⟩) (fun _ hb => by cases hb) (fun k hk _ h0 => absurd h0 (by rw [hI2.core.c_zero hk]; omega)) hw.os hw.tape hw.output) _ rfl
  ·have hlen : (ri .u8 out).length = out.length := by simp [ri]
   obtain rfl : e = 5 := k10 5 rfl (by cases out with
    | nil => exact absurd rfl ho
    | cons x t => rfl)
   have hsz : sz = 1 := by cases out with
    | nil => exact absurd rfl ho
    | cons x t => exact (k6 [.v (.int .u8 x)] (by simp [ri])).symm
   subst hsz
   have hul : (u8s out).length = out.length := by simp [u8s]
   have hc1' : w.cell? ⟨b, 1, none⟩ = some (.slice (some ⟨g, 0, none⟩) (u8s out).length cap) := by rw [hul, ← hlen]; exact hc1
   have hpos : 0 < out.length := List.length_pos_iff.2 ho
   refine (walk49c hc1' k1 (fun h0 => by rw [h0] at hul; simp at hul; omega) (by omega) (by rw [hul]; omega) (by omega) (fun j x hx => ?_)).mono fun e w' ⟨he, hw⟩ => ?_
   ·simp only [u8s, List.getElem?_map, Option.map_eq_some_iff] at hx
    obtain ⟨z, hz, rfl⟩ := hx
    have hrow : (ri .u8 out)[j]? = some [.v (.int .u8 z)] := by simp [ri, hz]
    obtain ⟨x', hx', hv⟩ := own_cells hO.1 rfl k1 k6 j 0 _ _ hrow rfl
    have hxz : x' = .int .u8 z := VP.v_eq hv
    subst hxz
    have hj : j < out.length := (List.getElem?_eq_some_iff.1 hz).1
    rw [cell_arr k1]
    have hz2 := hby z (List.mem_of_getElem? hz)
    have e1 : ((UInt8.ofNat z.toNat).toNat : Int) = z := by simp only [UInt8.toNat_ofNat']; omega
    rw [e1]
    simpa using hx'
   ·subst he hw
    obtain ⟨f1, f2, ⟨ff, f3⟩, f4, f5, f6⟩ := freeze_heap (w := w.drew) (g := g) (n := (u8s out).length) (show w.drew.heap[g]? = _ from k1)
    refine fin _ (hI2.grown (w' := w.drew.freeze ⟨g, 0, none⟩ (u8s out).length) (some g) (by rw [f1]; exact Nat.le_refl _) (fun k hk hne => ⟨f2 k (fun e => hne (by rw [e])), rfl⟩) (fun k hk => ?_) (fun k hk _ h0 => absurd h0 (by rw [hI2.core.c_zero hk]; omega)) f4 f5 f6) _ rfl
    cases hk
    refine ⟨k8, fun l r x hl => fun hx => hO.2.2.1 l r x g hl rfl hx, hO.2.2.2 g rfl, Nat.le_refl _, fun o ho => ?_, cur, 5, ff, f3, ?_⟩
    ·rw [cell_arr f3, cell_arr k1]
    ·rw [k7, k4]; exact Nat.mul_le_mul_right _ k2
end Go.Lift.R4
end

section
namespace Go.Lift.R4
set_option linter.unusedSectionVars false
variable [MX]
open Go.Proofs Go.RowKit
set_option maxRecDepth 100000
set_option maxHeartbeats 4000000
set_option linter.unusedSimpArgs false
set_option linter.unusedVariables false
theorem walk182 (s : ByteArray) (c : Int) (w : World) :
  Calls Tryz.prog 182 #[.string s, .int .u8 c] w fun e w' => e = .returned (.int .i64 (Go.Lib.indexByte s.data.toList c.toNat.toUInt8)) ∧ w' = w := by
 go_enter Tryz.func182, Tryz.ntmps182
 go_wp2
 rw [run_callFunc_extern Tryz.func195 (by kernel_rfl) (by kernel_rfl) (by kernel_rfl) (e := Extern.BytealgIndexByte.indexByte) (by kernel_rfl), Go.Lib.run_indexByteString]
 simp only [Result.andThen]
 rw [Oper.upon_value]
 go_wp2
 go_ret
 exact ⟨rfl, rfl⟩
theorem walk159one (s : ByteArray) (c : UInt8) (w : World) :
  Calls Tryz.prog 159 #[.string s, .string ⟨#[c]⟩] w fun e w' => e = .returned (.int .i64 (Go.Lib.indexByte s.data.toList c)) ∧ w' = w :=
 Any.stringslite_Index_one (P := Tryz.prog) (ρ := Tryz.lays219_ren) { Tryz.lays219 with } s c w
theorem walk159 (s t : ByteArray) (m : Int) (w : World) (hs : s.size < 4294967281) (hm : w.cell? ⟨2, 0, none⟩ = some (.int .i64 m)) :
  Calls Tryz.prog 159 #[.string s, .string t] w fun e w' => e = .returned (.int .i64 (Go.Lib.index s.data.toList t.data.toList)) ∧ w' = w :=
 Any.stringslite_Index (P := Tryz.prog) (ρ := Tryz.lays219_ren) { Tryz.lays219 with } s t m w hs hm
theorem walk132_core (x k idx : Nat) (w : World) (hx0 : ((x : Int) == 0) = false)
  (key : IntKind.u64.wrap (bits BinOp.and IntKind.u64 (x : Int) (IntKind.u64.wrap (-(x : Int))) * 285870213051353865) / 288230376151711744 = (idx : Int))
  (hi : idx < 64) (hk : k < 64) (hcell : w.cell? ⟨1, idx, none⟩ = some (.int .u8 k)) :
  Calls Tryz.prog 132 #[.int .u64 x] w fun e w' => e = .returned (.int .i64 k) ∧ w' = w := by
 go_enter Tryz.func132, Tryz.ntmps132
 go_wp2_with (simp only [key])
 go_ret
 exact ⟨rfl, rfl⟩
theorem walk132_zero (w : World) : Calls Tryz.prog 132 #[.int .u64 0] w fun e w' => e = .returned (.int .i64 64) ∧ w' = w := by
 go_enter Tryz.func132, Tryz.ntmps132
 go_wp2
 go_ret
 exact ⟨rfl, rfl⟩
theorem walk132 (x : Nat) (hx : x < 18446744073709551616) (w : World) (hT : ∀ j, j < 64 → w.cell? ⟨1, j, none⟩ = some (.int .u8 ((Go.Lib.deBruijn64tab.getD j 0 : Nat) : Int))) :
  Calls Tryz.prog 132 #[.int .u64 x] w fun e w' => e = .returned (.int .i64 (Go.Lib.ctz 64 x)) ∧ w' = w := by
 by_cases hx0 : x = 0
 ·subst hx0
  exact walk132_zero w
 ·obtain ⟨hlow, hk⟩ := Go.Lib.lowest_bit 64 x hx0 hx
  obtain ⟨hi, htab⟩ := Go.Lib.deBruijn64_at _ hk
  have hcell := hT _ hi
  rw [htab] at hcell
  exact walk132_core x _ _ w (by simp; omega) (tz64_key x _ hx hx0 hlow) hi hk hcell
theorem quiet_ok {m : List Nat} {c : Cl} {w w' : World} {h : Heap} {lo : Nat} (hH : HOK m c w h) (hb : Below w.heap.size w w') :
  HOK m c w' h ∧ Fr lo (hoOf m w h lo) w m c w' m c ∧ Owned lo (hoOf m w h lo) w m w' [] h act0 := by
 obtain ⟨hC, hold⟩ := hH
 have hcell : ∀ b o, b < w.heap.size → w'.cell? ⟨b, o, none⟩ = w.cell? ⟨b, o, none⟩ := fun b o hl => cell_of_heap (hb.block b hl) o
 have hce : ∀ b, 0 < c b → b < w.heap.size := fun b h0 => by
  rcases Nat.lt_or_ge b w.heap.size with hl | hl
  ·exact hl
  ·rw [hC.c_zero hl] at h0; omega
 have he : Ext c w c w' := ⟨fun _ => Nat.le_refl _, fun b o ho => hcell b o (hce b (by omega))⟩
 have hm : ∀ {i b}, m[i]? = some b → w'.heap[b]? = w.heap[b]? ∧ c b = c b := fun {i b} hi => ⟨hb.block b (hC.m_lt hi), rfl⟩
 have hAt : ∀ {l r x}, At m w' [] h act0 l r x → At m w [] h act0 l r x := fun {l r x} hl => by
  cases l with
  | slot t => exact hl
  | cell i j =>
   obtain ⟨cs, b, h1, h2, h3, h4⟩ := hl
   exact ⟨cs, b, h1, h2, h3, by rw [← cell_of_heap (hm h3).1]; exact h4⟩
 have hAt' : ∀ {l r x}, At m w [] h act0 l r x → At m w' [] h act0 l r x := fun {l r x} hl => by
  cases l with
  | slot t => exact hl
  | cell i j =>
   obtain ⟨cs, b, h1, h2, h3, h4⟩ := hl
   exact ⟨cs, b, h1, h2, h3, by rw [cell_of_heap (hm h3).1]; exact h4⟩
 refine ⟨⟨⟨fun b h0 => ?_, hC.wf2, hC.nd, hC.len, fun t => (hC.env t).mono (Pre.refl m) he, fun i o b ho hbm => (hC.ob i o b ho hbm).keep (hm hbm).1 (Pre.refl m) he, fun l r x hl => ?_,
   fun l l' r r' x x' b h1 h2 => hC.uniq l l' r r' x x' b (hAt h1) (hAt h2), hC.tagS, fun t i j r ht => hAt' (hC.tagC t i j r ht), fun n cs hg => (hC.gt n cs hg).mono he⟩, hold⟩,
  ⟨hb.os, hb.tape, hb.output, hb.size, Pre.refl m, fun i b hi hbm => ?_, he, fun b hl _ _ => ⟨hb.block b hl, rfl⟩⟩, fun l r x b hl hu hbx => ?_⟩
 ·rw [hb.block b (hce b h0)]
  exact hC.wf1 b h0
 ·refine (hC.own l r x (hAt hl)).keep fun b hbx => ?_
  exact ⟨hb.block b ((hC.own l r x (hAt hl)).lt hbx).1, rfl, id⟩
 ·have := (List.getElem?_eq_some_iff.1 hbm).1
  omega
 ·right
  cases l with
  | slot t => exact absurd hl.1 (by simp [look])
  | cell i j => exact ⟨i, j, r, x, hu, hAt hl, hbx⟩
theorem extra : Builder.Extra Tryz.prog Tryz.lays230_ren where
 sizeBuilder := by kernel_rfl
 liesBuilder := by kernel_rfl
 t5 := by kernel_rfl
 a5 := Tryz.lays230.a5
 z5 := Tryz.lays230.z5
 v5 := Tryz.lays230.v5
 infoByte := by kernel_rfl
 cellsByte := by kernel_rfl
 sizeByte := by kernel_rfl
 neB5 := by decide
theorem walk147 (x : Int) (w : World) : Calls Tryz.prog 147 #[.int .i32 x] w fun e w' => e = .returned (.int .i32 (lowU x)) ∧ ∃ q, w' = w.drewN q := by
 by_cases h1 : 65 ≤ x
 ·by_cases h2 : x ≤ 90
  ·have e1 : IntKind.i32.wrap (x + 97) = x + 97 := wrap_i32 (by omega) (by omega)
   have e2 : IntKind.i32.wrap (x + 97 - 65) = x + 32 := by rw [wrap_i32 (by omega) (by omega)]; omega
   have e3 : lowU x = x + 32 := by unfold lowU; rw [if_pos (by simp [h1, h2])]
   rw [e3]
   go_enter Tryz.func147, Tryz.ntmps147
   go_wp2
   all_goals go_ret
   exact ⟨rfl, 0, rfl⟩
  ·have e3 : lowU x = x := by unfold lowU; rw [if_neg (by simp [h2])]
   rw [e3]
   go_enter Tryz.func147, Tryz.ntmps147
   go_wp2
   all_goals go_ret
   exact ⟨rfl, 0, rfl⟩
 ·have e3 : lowU x = x := by unfold lowU; rw [if_neg (by simp [h1])]
  rw [e3]
  go_enter Tryz.func147, Tryz.ntmps147
  go_wp2
  all_goals go_ret
  exact ⟨rfl, 0, rfl⟩
theorem g3 : Tryz.lays230_ren.g 3 = 4 := rfl
theorem g4 : Tryz.lays230_ren.g 4 = 5 := rfl
theorem tab4 : GTab.tab 4 = some ((List.range 256).map fun c => V.v (.int .u8 (Go.Lib.firstT c))) := rfl
theorem tab5 : GTab.tab 5 = some ((List.range 16).flatMap fun i => [V.v (.int .u8 (Go.Lib.accLo i)), V.v (.int .u8 (Go.Lib.accHi i))]) := rfl
theorem pairs_get {f g : Nat → V} : ∀ (n i : Nat), i < n → ((List.range n).flatMap fun i => [f i, g i])[2 * i]? = some (f i) ∧ ((List.range n).flatMap fun i => [f i, g i])[2 * i + 1]? = some (g i) := by
 intro n
 have hlen : ∀ n, ((List.range n).flatMap fun i => [f i, g i]).length = 2 * n := by
  intro n
  induction n with
  | zero => rfl
  | succ n ih => rw [List.range_succ, List.flatMap_append, List.length_append, ih]; simp; omega
 induction n with
 | zero => intro i hi; omega
 | succ n ih =>
  intro i hi
  rw [List.range_succ, List.flatMap_append]
  by_cases h : i < n
  ·obtain ⟨a, b⟩ := ih i h
   rw [List.getElem?_append_left (by rw [hlen]; omega), List.getElem?_append_left (by rw [hlen]; omega)]
   exact ⟨a, b⟩
  ·obtain rfl : i = n := by omega
   rw [List.getElem?_append_right (by rw [hlen]; omega), List.getElem?_append_right (by rw [hlen]; omega), hlen]
   have e1 : 2 * i - 2 * i = 0 := by omega
   have e2 : 2 * i + 1 - 2 * i = 1 := by omega
   rw [e1, e2]
   exact ⟨rfl, rfl⟩
theorem tabs_of {c : Cl} {w : World} (hg : ∀ n cs, GTab.tab n = some cs → ROs c w ⟨n, 0, none⟩ cs) : Go.Lib.Utf8Tabs 4 5 w := by
 refine ⟨fun k hk => ?_, fun i hi => ?_⟩
 ·obtain ⟨_, h⟩ := hg 4 _ tab4
  obtain ⟨x, hx, hv⟩ := h k (.v (.int .u8 (Go.Lib.firstT k))) (by simp [hk])
  rw [Nat.zero_add] at hx
  rw [hx, VP.v_eq hv]
 ·obtain ⟨_, h⟩ := hg 5 _ tab5
  obtain ⟨p1, p2⟩ := pairs_get (f := fun i => V.v (.int .u8 (Go.Lib.accLo i))) (g := fun i => V.v (.int .u8 (Go.Lib.accHi i))) 16 i hi
  obtain ⟨x, hx, hv⟩ := h _ _ p1
  obtain ⟨y, hy, hu⟩ := h _ _ p2
  rw [Nat.zero_add] at hx hy
  rw [hx, hy, VP.v_eq hv, VP.v_eq hu]
  exact ⟨rfl, rfl⟩
theorem prim_quiet {f lo : Nat} {args : List V} {h : Heap} {x : Value} (he : ∀ xs w, (callFunc f xs).run Tryz.prog w = .ok (.enter f xs) w)
  (hx : ∀ m c w (xs : Array Value), HOK m c w h → R2 (VRr m c w) args xs.toList → Calls Tryz.prog f xs w fun e w' => e = .returned x ∧ Below w.heap.size w w') :
  CallOK Tryz.prog lo f args h (.v x) h :=
 ⟨rfl, he, fun m c w xs hH ha => ⟨⟨rfl, rfl⟩, (hx m c w xs hH ha).mono fun e w' ⟨h1, hb⟩ => by
  obtain ⟨q1, q2, q3⟩ := quiet_ok (lo := lo) hH hb
  exact ⟨_, c, h1, rfl, q1, q2, q3⟩⟩⟩
theorem one_arg {m : List Nat} {c : Cl} {w : World} {a : Value} {xs : Array Value} (h : R2 (VRr m c w) [.v a] xs.toList) : xs = #[a] := by
 obtain ⟨l⟩ := xs
 match l, h.1 with
 | [x], _ =>
  have h0 : x = a := h.2 0 _ _ rfl rfl
  rw [h0]
theorem two_args {m : List Nat} {c : Cl} {w : World} {a b : Value} {xs : Array Value} (h : R2 (VRr m c w) [.v a, .v b] xs.toList) : xs = #[a, b] := by
 obtain ⟨l⟩ := xs
 match l, h.1 with
 | [x, y], _ =>
  have h0 : x = a := h.2 0 _ _ rfl rfl
  have h1 : y = b := h.2 1 _ _ rfl rfl
  rw [h0, h1]
theorem tab1 : GTab.tab 1 = some (Go.Lib.deBruijn64tab.map fun c : Nat => V.v (.int .u8 (c : Int))) := rfl
theorem tab2 : GTab.tab 2 = some [V.v (.int .i64 MX.m)] := rfl
theorem cell_of {c : Cl} {w : World} {n : Nat} {cs : List V} (hg : ROs c w ⟨n, 0, none⟩ cs) {j : Nat} {x : Value} (hj : cs[j]? = some (.v x)) : w.cell? ⟨n, j, none⟩ = some x := by
 obtain ⟨_, h⟩ := hg
 obtain ⟨y, hy, hv⟩ := h j _ hj
 rw [Nat.zero_add] at hy
 rw [hy, VP.v_eq hv]
theorem bruijn {m : List Nat} {c : Cl} {w : World} {h : Heap} (hH : HOK m c w h) : ∀ j, j < 64 → w.cell? ⟨1, j, none⟩ = some (.int .u8 ((Go.Lib.deBruijn64tab.getD j 0 : Nat) : Int)) := fun j hj => by
 refine cell_of (hH.1.gt 1 _ tab1) ?_
 have hl : j < Go.Lib.deBruijn64tab.length := by simpa [Go.Lib.deBruijn64tab] using hj
 rw [List.getElem?_map, List.getElem?_eq_getElem hl]
 simp [List.getD, List.getElem?_eq_getElem hl]
theorem maxLen {m : List Nat} {c : Cl} {w : World} {h : Heap} (hH : HOK m c w h) : w.cell? ⟨2, 0, none⟩ = some (.int .i64 MX.m) :=
 cell_of (hH.1.gt 2 _ tab2) rfl
theorem rowsInts_of : ∀ {rows : List (List V)} {out : List Int}, rowsInts rows = some out → rows = ri .u8 out
 | [], out, h => by cases h; rfl
 | r :: l, out, h => by
  unfold rowsInts at h
  split at h
  ·rename_i h1; cases h1
  ·rename_i n l' h1
   injection h1 with h2 h3
   subst h2 h3
   rw [Option.map_eq_some_iff] at h
   obtain ⟨o, ho, rfl⟩ := h
   rw [rowsInts_of ho]; rfl
  ·cases h
theorem prim_ok : ∀ f p, primz f = some p → ∀ lo args h r h', lo ≤ h.length → p lo args h = some (r, h') → CallOK Tryz.prog lo f args h r h' := by
 intro f p hp lo args h r h' hlo he
 unfold primz at hp
 split at hp
 ·cases hp
  unfold idxP at he
  split at he
  ·rename_i s c
   cases he
   exact prim_quiet (enters_of Tryz.func182 (by kernel_rfl) rfl) fun m c' w xs hH ha => by
    rw [two_args ha]
    exact (walk182 s c w).mono fun e w' ⟨h1, h2⟩ => ⟨h1, h2 ▸ Below.refl _ _⟩
  ·cases he
 ·cases hp
  unfold ctzP at he
  split at he
  ·rename_i x
   split at he
   ·rename_i hx
    cases he
    obtain ⟨u, rfl⟩ : ∃ u : Nat, x = u := ⟨x.toNat, by omega⟩
    exact prim_quiet (enters_of Tryz.func132 (by kernel_rfl) rfl) fun m c' w xs hH ha => by
     rw [one_arg ha]
     exact (walk132 u (by omega) w (bruijn hH)).mono fun e w' ⟨h1, h2⟩ => ⟨h1, h2 ▸ Below.refl _ _⟩
   ·cases he
  ·cases he
 ·cases hp
  unfold repP at he
  split at he
  ·rename_i s n
   split at he
   ·rename_i hx
    cases he
    obtain ⟨u, rfl⟩ : ∃ u : Nat, n = u := ⟨n.toNat, by omega⟩
    exact prim_quiet (enters_of Tryz.func94 (by kernel_rfl) rfl) fun m c' w xs hH ha => by
     rw [two_args ha]
     exact Any.strings_Repeat Tryz.lays105 extra105 s u w (by omega) (by rw [hx.1]; omega)
   ·cases he
  ·cases he
 ·cases hp
  unfold mapP at he
  split at he
  ·rename_i g s
   split at he
   ·rename_i hc
    obtain ⟨rfl, hs⟩ := hc
    cases he
    refine prim_quiet (enters_of Tryz.func146 (by kernel_rfl) rfl) fun m c w xs hH hargs => ?_
    obtain ⟨hlen, hall⟩ := hargs
    have hx2 : ∃ x y, xs = #[x, y] := by
     obtain ⟨l⟩ := xs
     match l, hlen with
     | [x, y], _ => exact ⟨x, y, rfl⟩
    obtain ⟨x, y, rfl⟩ := hx2
    have h0 := hall 0 _ _ rfl rfl
    have h1 := hall 1 _ _ rfl rfl
    obtain ⟨cs, rfl, hcs⟩ := h0
    obtain rfl : y = .string s := h1
    have hcs0 : cs = #[] := by
     obtain ⟨l⟩ := cs
     match l, hcs.1 with
     | [], _ => rfl
    subst hcs0
    have hT : Go.Lib.Utf8Tabs (Tryz.lays230_ren.g 3) (Tryz.lays230_ren.g 4) w := by
     rw [g3, g4]
     exact tabs_of hH.1.gt
    have hM : MapAtRunes Tryz.prog 147 #[] lowU w := fun W k hk _ => walk147 k W
    exact Any.strings_Map_runes Tryz.lays230 extra 147 #[] (enters_of Tryz.func147 (by kernel_rfl) rfl) lowU s w hs hM (fun k hk => by unfold lowU; split <;> omega) hT
   ·cases he
  ·cases he
 ·cases hp
  unfold ccP at he
  split at he
  ·rename_i i
   split at he
   ·rename_i p0 x hi
    split at he
    ·rename_i hx
     cases he
     exact cc_ok hi hx.1 hlo hx.2
    ·cases he
   ·cases he
  ·cases he
 ·cases hp
  unfold wrP at he
  split at he
  ·rename_i i r
   split at he
   ·rename_i p0 rows hi
    split at he
    ·rename_i out hout
     split at he
     ·rename_i hx
      cases he
      rw [rowsInts_of hout] at hi
      exact wr_ok hi hx.1 hlo hx.2.1 hx.2.2.1 hx.2.2.2.1 hx.2.2.2.2
     ·cases he
    ·cases he
   ·cases he
  ·cases he
 ·cases hp
  unfold stP at he
  split at he
  ·rename_i i
   split at he
   ·rename_i p0 rows hi
    split at he
    ·rename_i out hout
     split at he
     ·rename_i hx
      cases he
      have e := rowsInts_of hout
      subst e
      refine str_ok hi hx.1 hlo (fun c hc => ?_) hx.2.2
      have := List.all_eq_true.1 hx.2.1 c hc
      simp only [Bool.and_eq_true, decide_eq_true_eq] at this
      exact this
     ·cases he
    ·cases he
   ·cases he
  ·cases he
 ·cases hp
  unfold ixP at he
  split at he
  ·rename_i s t
   split at he
   ·rename_i c0 hc
    cases he
    obtain rfl : t = ⟨#[c0]⟩ := by
     apply ByteArray.ext
     exact Array.toList_inj.1 hc
    exact prim_quiet (enters_of Tryz.func159 (by kernel_rfl) rfl) fun m c' w xs hH ha => by
     rw [two_args ha]
     exact (walk159one s c0 w).mono fun e w' ⟨h1, h2⟩ => ⟨h1, h2 ▸ Below.refl _ _⟩
   ·split at he
    ·rename_i hs
     cases he
     exact prim_quiet (enters_of Tryz.func159 (by kernel_rfl) rfl) fun m c' w xs hH ha => by
      rw [two_args ha]
      exact (walk159 s t MX.m w hs (maxLen hH)).mono fun e w' ⟨h1, h2⟩ => ⟨h1, h2 ▸ Below.refl _ _⟩
    ·cases he
  ·cases he
 ·cases hp
end Go.Lift.R4
end
