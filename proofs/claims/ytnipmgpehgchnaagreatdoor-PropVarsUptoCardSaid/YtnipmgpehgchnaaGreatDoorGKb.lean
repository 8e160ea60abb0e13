/- Blanks at both ends of values: rule.space, rule.trimmed, jalousieref5.space, jalousieref5.Trim. -/
import Derived.ProofKit
import Derived.Shelf.Strings.Fields
import Derived.Test.YtnipmgpehgchnaaGreatDoorProg
import Derived.WalkKit
import Derived.Lib.LaidTab
import Derived.Lib.LaidU8
import Derived.Lib.LaidIn
import Derived.Deep.DeepHandedRow
import Derived.Deep.DeepWitnessRowRef
import Derived.Test.YtnipmgpehgchnaaGreatDoorRows
import Derived.JoinedOf
import Derived.Test.YtnipmgpehgchnaaGreatDoorGLc
import Derived.Test.YtnipmgpehgchnaaGreatDoorGKa
import Derived.Test.YtnipmgpehgchnaaGreatDoorGK3Basea
set_option linter.unusedVariables false
set_option linter.unusedSimpArgs false
set_option linter.unusedSectionVars false
set_option maxRecDepth 100000
set_option maxHeartbeats 4000000
section
open Go.Proofs
namespace Go.Lift.V1
open Rul
variable {lo : Nat} {h : Heap}
theorem f76 (hlo : lo <= h.length) (v : CV) : E lo 76 [.agg (rowV v)] h = some (.v (.bool (spaceC v)), h) := by
 obtain ⟨t, ks⟩ := v
 rw [rowV_eq, e76 (by simp) (by rfl)]
 simp only [go_sem, b76, Tryz.f76, hlo]
 all_goals rfl
theorem rowsC_takeL (r : List CV) : (rowsC r).take r.length = rowsC r := by rw [rowsC_take, List.take_length]
end Go.Lift.V1
end

section
open Go.Proofs
namespace Go.Lift.V1
open Rul
variable {lo : Nat} {h : Heap}
abbrev N35 (l : List CV) (a b : Nat) : Env := [(0, .list .no (rowsC l)), (3, .v (.int .i64 a)), (4, .v (.int .i64 b))]
theorem round63a {l : List CV} {v : CV} {a b : Nat} (hlo : lo <= h.length) (hl : l.length <= 1000000000) (hg : l[a]? = some v) (hab : a < b) :
  evCode ⟨Tryz.prog, E, lo, h.length, h63⟩ loopW l63x0 (N35 l a b, h) =
   if spaceC v = true then some (.normal, N35 l (a + 1) b, h) else some (.exit 0, N35 l a b ++ [(16, .v (.bool false))], h) := by
 obtain ⟨t, ks⟩ := v
 have hlt : a < l.length := (List.getElem?_eq_some_iff.1 hg).1
 have q : decide ((a : Int) < (b : Int)) = true := by simpa using hab
 have hw : IntKind.i64.wrap ((a : Int) + 1) = ((a + 1 : Nat) : Int) := wrap_succ (by omega)
 have hgr : (rowsC l)[a]? = some (rowV (.mk t ks)) := by rw [rowsC_get, hg]; rfl
 have c := fun lo hlo => f76 (lo := lo) (h := h) hlo (.mk t ks)
 rw [rowV_eq] at c hgr
 have ca := c lo hlo; have cb := c h.length (Nat.le_refl _)
 clear c
 cases hs : spaceC (.mk t ks) with
 | true =>
  rw [hs] at ca cb
  rw [if_pos rfl]
  simp only [N35, go_sem, l63x0, b63, Tryz.f63, hlo, q, ca, cb, hgr, hw]
  all_goals rfl
 | false =>
  rw [hs] at ca cb
  rw [if_neg (by simp)]
  simp only [N35, go_sem, l63x0, b63, Tryz.f63, hlo, q, ca, cb, hgr, hw]
  all_goals rfl
theorem stop63a {l : List CV} {b : Nat} (hlo : lo <= h.length) : evCode ⟨Tryz.prog, E, lo, h.length, h63⟩ loopW l63x0 (N35 l b b, h) = some (.exit 0, N35 l b b ++ [(16, .v (.bool false))], h) := by
 have q : decide ((b : Int) < (b : Int)) = false := by simp
 simp only [N35, go_sem, l63x0, b63, Tryz.f63, hlo, q]
 all_goals rfl
theorem loop63a {l : List CV} (hlo : lo <= h.length) (hl : l.length <= 1000000000) : ∀ (m a : Nat), a + m = l.length -> ∃ a', a <= a' /\ a' <= l.length /\ ltrim (l.drop a) = l.drop a' /\
   loopW (evCode ⟨Tryz.prog, E, lo, h.length, h63⟩ loopW l63x0) (N35 l a l.length, h) = some (.exit 0, N35 l a' l.length ++ [(16, .v (.bool false))], h)
 | 0, a, hm => by
  obtain rfl : a = l.length := by omega
  exact ⟨l.length, Nat.le_refl _, Nat.le_refl _, by rw [List.drop_length]; rfl, by rw [loop_eq, stop63a hlo, loop_e]⟩
 | m + 1, a, hm => by
  have hlt : a < l.length := by omega
  have hd : l.drop a = l[a] :: l.drop (a + 1) := List.drop_eq_getElem_cons hlt
  have hr := round63a (h := h) hlo hl (List.getElem?_eq_getElem hlt) hlt
  have he : ltrim (l.drop a) = if spaceC l[a] = true then ltrim (l.drop (a + 1)) else l.drop a := by
   rw [hd]
   unfold ltrim
   rw [List.dropWhile_cons]
  rw [he, loop_eq, hr]
  split
  ·rw [loop_n]
   obtain ⟨a', h1, h2, h3, h4⟩ := loop63a hlo hl m (a + 1) (by omega)
   exact ⟨a', by omega, h2, h3, h4⟩
  ·exact ⟨a, Nat.le_refl _, by omega, rfl, by rw [loop_e]⟩
theorem round63b {l : List CV} {v : CV} {a b : Nat} {ex : Env} (hex : ex = [] \/ ex = [(16, .v (.bool false))]) (hlo : lo <= h.length) (hl : l.length <= 1000000000) (hg : l[b]? = some v) (hab : a < b + 1) :
  evCode ⟨Tryz.prog, E, lo, h.length, h63⟩ loopW l63x1 (N35 l a (b + 1) ++ ex, h) =
   if spaceC v = true then some (.normal, N35 l a b, h) else some (.exit 2, N35 l a (b + 1) ++ [(29, .v (.bool false))], h) := by
 obtain ⟨t, ks⟩ := v
 have hlt : b < l.length := (List.getElem?_eq_some_iff.1 hg).1
 have q : decide ((a : Int) < ((b + 1 : Nat) : Int)) = true := by simp; omega
 have hw : IntKind.i64.wrap (((b + 1 : Nat) : Int) - 1) = (b : Int) := by rw [wrap_i64] <;> omega
 have hgr : (rowsC l)[b]? = some (rowV (.mk t ks)) := by rw [rowsC_get, hg]; rfl
 have c := fun lo hlo => f76 (lo := lo) (h := h) hlo (.mk t ks)
 rw [rowV_eq] at c hgr
 have ca := c lo hlo; have cb := c h.length (Nat.le_refl _)
 clear c
 cases hs : spaceC (.mk t ks) with
 | true =>
  rw [hs] at ca cb
  rw [if_pos rfl]
  rcases hex with rfl | rfl
  ·simp only [N35, go_sem, l63x1, b63, Tryz.f63, hlo, q, ca, cb, hgr, hw]
   all_goals rfl
  ·simp only [N35, go_sem, l63x1, b63, Tryz.f63, hlo, q, ca, cb, hgr, hw]
   all_goals rfl
 | false =>
  rw [hs] at ca cb
  rw [if_neg (by simp)]
  rcases hex with rfl | rfl
  ·simp only [N35, go_sem, l63x1, b63, Tryz.f63, hlo, q, ca, cb, hgr, hw]
   all_goals rfl
  ·simp only [N35, go_sem, l63x1, b63, Tryz.f63, hlo, q, ca, cb, hgr, hw]
   all_goals rfl
theorem stop63b {l : List CV} {b : Nat} {ex : Env} (hex : ex = [] \/ ex = [(16, .v (.bool false))]) (hlo : lo <= h.length) : evCode ⟨Tryz.prog, E, lo, h.length, h63⟩ loopW l63x1 (N35 l b b ++ ex, h) = some (.exit 2, N35 l b b ++ [(29, .v (.bool false))], h) := by
 have q : decide ((b : Int) < (b : Int)) = false := by simp
 rcases hex with rfl | rfl
 ·simp only [N35, go_sem, l63x1, b63, Tryz.f63, hlo, q]
  all_goals rfl
 ·simp only [N35, go_sem, l63x1, b63, Tryz.f63, hlo, q]
  all_goals rfl
theorem loop63b {l : List CV} {a : Nat} (hlo : lo <= h.length) (hl : l.length <= 1000000000) : ∀ (m b : Nat) (ex : Env), a + m = b -> b <= l.length -> (ex = [] \/ ex = [(16, .v (.bool false))]) -> ∃ b', a <= b' /\ b' <= l.length /\ rtrim ((l.take b).drop a) = (l.take b').drop a /\
   loopW (evCode ⟨Tryz.prog, E, lo, h.length, h63⟩ loopW l63x1) (N35 l a b ++ ex, h) = some (.exit 2, N35 l a b' ++ [(29, .v (.bool false))], h)
 | 0, b, ex, hm, hb, hex => by
  obtain rfl : a = b := by omega
  have e0 : (l.take a).drop a = [] := List.drop_eq_nil_of_le (by rw [List.length_take]; omega)
  exact ⟨a, Nat.le_refl _, hb, by rw [e0, rtrim_nil], by rw [loop_eq, stop63b hex hlo, loop_e]⟩
 | m + 1, b, ex, hm, hb, hex => by
  obtain ⟨c, rfl⟩ : ∃ c, b = c + 1 := ⟨b - 1, by omega⟩
  have hlt : c < l.length := by omega
  have hr := round63b (h := h) (a := a) hex hlo hl (List.getElem?_eq_getElem hlt) (by omega)
  have hd : (l.take (c + 1)).drop a = (l.take c).drop a ++ [l[c]] := by
   rw [List.take_succ_eq_append_getElem hlt, List.drop_append_of_le_length (by rw [List.length_take]; omega)]
  rw [hd, rtrim_snoc, loop_eq, hr]
  split
  ·rw [loop_n]
   obtain ⟨b', h1, h2, h3, h4⟩ := loop63b (a := a) hlo hl m c [] (by omega) (by omega) (.inl rfl)
   rw [List.append_nil] at h4
   exact ⟨b', h1, h2, h3, h4⟩
  ·exact ⟨c + 1, by omega, hb, by rw [hd], by rw [loop_e]⟩
theorem f63 {l : List CV} (hlo : lo <= h.length) (hl : l.length <= 1000000000) : E lo 63 [.list .no (rowsC l)] h = some (.list .no (rowsC (trim l)), h) := by
 obtain ⟨a, a1, a2, a3, h1⟩ := loop63a (lo := lo) (h := h) hlo hl l.length 0 (by omega)
 obtain ⟨b, b1, b2, b3, h2⟩ := loop63b (lo := lo) (h := h) (a := a) hlo hl (l.length - a) l.length _ (by omega) (Nat.le_refl _) (.inr rfl)
 rw [List.take_length, <- a3, List.drop_zero, <- trim_eq] at b3
 rw [b3]
 have n0 : ((0 : Nat) : Int) = 0 := rfl
 have q1 : a <= b := b1
 have q2 : b <= l.length := b2
 have hs : (rowsC l).drop a = rowsC (l.drop a) := rowsC_drop l a
 have ht : ((rowsC l).take b).drop a = rowsC ((l.take b).drop a) := by rw [rowsC_take, rowsC_drop]
 rw [e63 (by simp) (by rfl)]
 simp only [l63x0, l63x1, b63, Tryz.f63, loopAt, loops, bodyOf, go_sem, N35, n0] at h1 h2
 simp only [go_sem, b63, Tryz.f63, hlo, h1, h2, rowsC_len, rowsC_all, q1, q2, ht, n0]
 all_goals rfl
end Go.Lift.V1
end

section
open Go.Proofs
namespace Go.Lift.V1
open Utf Tok
def low (c : Int) : Int := if (decide (65 <= c) && decide (c <= 90)) = true then c + 32 else c
def bl (l : List Int) : List V := l.map fun n => .v (.int .u8 n)
theorem bl_len (l : List Int) : (bl l).length = l.length := by simp [bl]
theorem bl_get (l : List Int) (i : Nat) : (bl l)[i]? = (l[i]?).map fun n => V.v (.int .u8 n) := by simp [bl]
theorem bl_set (l : List Int) (i : Nat) (n : Int) : (bl l).set i (.v (.int .u8 n)) = bl (l.set i n) := by simp [bl, List.map_set]
theorem byteCells_u8s {l : List Int} (hy : By l) : byteCells ⟨(u8s l).toArray⟩ = bl l := by
 simp only [byteCells, u8s, bl, List.map_map]
 refine List.map_congr_left fun n hn => ?_
 have := hy n hn
 have e : ((UInt8.ofNat n.toNat).toNat : Int) = n := by
  rw [UInt8.toNat_ofNat']
  omega
 simp only [Function.comp, e]
theorem loop75 {lo : Nat} {h : Heap} (hlo : lo <= h.length) : ∀ (n : Nat) (a b : List Int), b.length <= n -> a.length + b.length <= 1000000000000 -> By b ->
  loopW (evCode ⟨Tryz.prog, E, lo, h.length, h75⟩ loopW l75x0) ([(3, .buf h.length 0 (a.length + b.length)), (8, .buf h.length 0 (a.length + b.length)), (9, .v (.int .i64 (a.length + b.length : Nat))), (10, .v (.int .i64 a.length))], h ++ [.cells (bl (a ++ b))]) =
   some (.exit 0, [(3, .buf h.length 0 (a.length + b.length)), (8, .buf h.length 0 (a.length + b.length)), (9, .v (.int .i64 (a.length + b.length : Nat))), (10, .v (.int .i64 (a.length + b.length : Nat))), (11, .v (.bool false))], h ++ [.cells (bl (a ++ b.map low))]) := by
 intro n
 induction n with
 | zero =>
  intro a b hb hab hy
  obtain rfl : b = [] := List.eq_nil_of_length_eq_zero (by omega)
  have hd : decide (((a.length : Nat) : Int) < ((a.length + ([] : List Int).length : Nat) : Int)) = false := by simp
  rw [loop_eq]
  simp only [List.length_nil, Nat.add_zero] at hd ⊢
  simp only [go_sem, l75x0, b75, Tryz.f75, hd, List.map_nil]
 | succ n ih =>
  intro a b hb hab hy
  cases b with
  | nil =>
   have hd : decide (((a.length : Nat) : Int) < ((a.length + ([] : List Int).length : Nat) : Int)) = false := by simp
   rw [loop_eq]
   simp only [List.length_nil, Nat.add_zero] at hd ⊢
   simp only [go_sem, l75x0, b75, Tryz.f75, hd, List.map_nil]
  | cons c b =>
   have hcy := hy c (List.mem_cons_self ..)
   have hd : decide ((a.length : Int) < ((a.length + (c :: b).length : Nat) : Int)) = true := by simp; omega
   have hx : (bl (a ++ c :: b))[a.length]? = some (.v (.int .u8 c)) := by simp [bl_get]
   have hw : IntKind.i64.wrap ((a.length : Int) + 1) = ((a.length + 1 : Nat) : Int) := wrap_succ (by omega)
   have hlt : a.length < a.length + (c :: b).length := by simp
   have hih := ih (a ++ [low c]) b (by simp at hb; omega) (by simp at hab ⊢; omega) (fun x hx => hy x (List.mem_cons_of_mem _ hx))
   have el : (a ++ [low c]).length + b.length = a.length + (c :: b).length := by simp; omega
   have el2 : (a ++ [low c]).length = a.length + 1 := by simp
   have el3 : a ++ [low c] ++ b.map low = a ++ (c :: b).map low := by simp
   rw [el, el2, el3] at hih
   by_cases hc : (decide (65 <= c) && decide (c <= 90)) = true
   ·have hs : (bl (a ++ c :: b)).set a.length (.v (.int .u8 (c + 32))) = bl (a ++ [low c] ++ b) := by
     rw [bl_set, low, if_pos hc]
     simp
    have hc' := hc
    simp only [Bool.and_eq_true, decide_eq_true_eq] at hc'
    have hwc : IntKind.u8.wrap (c + 32) = c + 32 := wrap_u8 (by omega) (by omega)
    have hbl : a.length + 1 <= (bl (a ++ c :: b)).length := by rw [bl_len]; simp
    generalize hcs : a.length + (c :: b).length = k at *
    have er : evCode ⟨Tryz.prog, E, lo, h.length, h75⟩ loopW l75x0 ([(3, .buf h.length 0 k), (8, .buf h.length 0 k), (9, .v (.int .i64 (k : Nat))), (10, .v (.int .i64 a.length))], h ++ [.cells (bl (a ++ c :: b))]) =
      some (.normal, [(3, .buf h.length 0 k), (8, .buf h.length 0 k), (9, .v (.int .i64 (k : Nat))), (10, .v (.int .i64 (a.length + 1 : Nat)))], h ++ [.cells (bl (a ++ [low c] ++ b))]) := by
     have hlt' : (a.length : Int) < k := by omega
     have h0' : (0 : Int) <= a.length := by omega
     simp only [go_sem, l75x0, b75, Tryz.f75, hd, hx, hw, hc, hwc, hs, hlo, hlt, hlt', h0', hbl, Nat.zero_add, Int.toNat_natCast, and_self]
    rw [loop_eq, er, loop_n]
    exact hih
   ·have hl2 : low c = c := by rw [low, if_neg hc]
    have hc2 : (decide (65 <= c) && decide (c <= 90)) = false := by simpa using hc
    rw [hl2] at hih
    generalize hcs : a.length + (c :: b).length = k at *
    have er : evCode ⟨Tryz.prog, E, lo, h.length, h75⟩ loopW l75x0 ([(3, .buf h.length 0 k), (8, .buf h.length 0 k), (9, .v (.int .i64 (k : Nat))), (10, .v (.int .i64 a.length))], h ++ [.cells (bl (a ++ c :: b))]) =
      some (.normal, [(3, .buf h.length 0 k), (8, .buf h.length 0 k), (9, .v (.int .i64 (k : Nat))), (10, .v (.int .i64 (a.length + 1 : Nat)))], h ++ [.cells (bl (a ++ c :: b))]) := by
     have hlt' : (a.length : Int) < k := by omega
     have h0' : (0 : Int) <= a.length := by omega
     simp only [go_sem, l75x0, b75, Tryz.f75, hd, hx, hw, hc2, hlo, hlt, hlt', h0', Nat.zero_add, Int.toNat_natCast, and_self]
    rw [loop_eq, er, loop_n]
    have e4 : a ++ c :: b = a ++ [c] ++ b := by simp
    rw [e4]
    exact hih
theorem f75 {lo : Nat} {l : List Int} {h : Heap} (hlo : lo <= h.length) (hl : l.length <= 1000000000000) (hy : By l) : E lo 75 [.v (.string ⟨(u8s l).toArray⟩)] h = some (.v (.string ⟨(u8s (l.map low)).toArray⟩), h) := by
 have hL := loop75 (lo := lo) (h := h) hlo l.length [] l (Nat.le_refl _) (by simpa using hl) hy
 have hz : (⟨(u8s l).toArray⟩ : ByteArray).size = l.length := by simp [ByteArray.size, u8s]
 rw [e75 (by simp) (by rfl)]
 simp only [l75x0, b75, Tryz.f75, loopAt, loops, bodyOf, go_sem, List.length_nil, Nat.zero_add] at hL
 have hb1 : decide (0 + l.length <= (bl (l.map low)).length) = true := by rw [bl_len]; simp
 have hb2 : ((bl (l.map low)).take l.length).map (fun x => [x]) = ri .u8 (l.map low) := by
  rw [List.take_of_length_le (by rw [bl_len]; simp)]
  simp [bl, ri]
 simp only [go_sem, b75, Tryz.f75, hz, byteCells_u8s hy, hL, hb1, hb2]
def like (a b : List Int) : Bool := (u8s (a.map low)) == (u8s (b.map low))
theorem f62 {lo : Nat} {a b : List Int} {h : Heap} (hlo : lo <= h.length) (ha : a.length <= 1000000000000) (hya : By a) (hb : b.length <= 1000000000000) (hyb : By b) :
  E lo 62 [.v (.string ⟨(u8s a).toArray⟩), .v (.string ⟨(u8s b).toArray⟩)] h = some (.v (.bool (like a b)), h) := by
 have k1 := f75 (lo := lo) (h := h) hlo ha hya
 have k2 := f75 (lo := lo) (h := h) hlo hb hyb
 rw [e62 (by simp) (by rfl)]
 simp only [go_sem, b62, Tryz.f62, k1, k2, ByteArray.toList_eq]
 rfl
end Go.Lift.V1
end

section
open Go.Proofs
namespace Go.Lift.V1
open Rul
open Utf (By)
variable {lo : Nat} {h : Heap}
theorem lowb_low (c : Int) : low c = lowb c := by
 unfold low lowb
 simp only [Bool.and_eq_true, decide_eq_true_eq]
theorem small_low (l : List Int) : l.map low = small l := List.map_congr_left fun c _ => lowb_low c
theorem loop35 (hlo : lo <= h.length) : ∀ (n : Nat) (a b : List Int), b.length <= n -> a.length + b.length <= 1000000000000 -> By b ->
  loopW (evCode ⟨Tryz.prog, E, lo, h.length, h35⟩ loopW l35x0) ([(3, .buf h.length 0 (a.length + b.length)), (8, .buf h.length 0 (a.length + b.length)), (9, .v (.int .i64 (a.length + b.length : Nat))), (10, .v (.int .i64 a.length))], h ++ [.cells (bl (a ++ b))]) =
   some (.exit 0, [(3, .buf h.length 0 (a.length + b.length)), (8, .buf h.length 0 (a.length + b.length)), (9, .v (.int .i64 (a.length + b.length : Nat))), (10, .v (.int .i64 (a.length + b.length : Nat))), (11, .v (.bool false))], h ++ [.cells (bl (a ++ small b))]) := by
 intro n
 induction n with
 | zero =>
  intro a b hb hab hy
  obtain rfl : b = [] := List.eq_nil_of_length_eq_zero (by omega)
  have hd : decide (((a.length : Nat) : Int) < ((a.length + ([] : List Int).length : Nat) : Int)) = false := by simp
  rw [loop_eq]
  simp only [List.length_nil, Nat.add_zero] at hd ⊢
  simp only [go_sem, l35x0, b35, Tryz.f35, hd, small, List.map_nil]
 | succ n ih =>
  intro a b hb hab hy
  cases b with
  | nil =>
   have hd : decide (((a.length : Nat) : Int) < ((a.length + ([] : List Int).length : Nat) : Int)) = false := by simp
   rw [loop_eq]
   simp only [List.length_nil, Nat.add_zero] at hd ⊢
   simp only [go_sem, l35x0, b35, Tryz.f35, hd, small, List.map_nil]
  | cons c b =>
   have hcy := hy c (List.mem_cons_self ..)
   have hd : decide ((a.length : Int) < ((a.length + (c :: b).length : Nat) : Int)) = true := by simp; omega
   have hx : (bl (a ++ c :: b))[a.length]? = some (.v (.int .u8 c)) := by simp [bl_get]
   have hw : IntKind.i64.wrap ((a.length : Int) + 1) = ((a.length + 1 : Nat) : Int) := wrap_succ (by omega)
   have hlt : a.length < a.length + (c :: b).length := by simp
   have hih := ih (a ++ [lowb c]) b (by simp at hb; omega) (by simp at hab ⊢; omega) (fun x hx => hy x (List.mem_cons_of_mem _ hx))
   have el : (a ++ [lowb c]).length + b.length = a.length + (c :: b).length := by simp; omega
   have el2 : (a ++ [lowb c]).length = a.length + 1 := by simp
   have el3 : a ++ [lowb c] ++ small b = a ++ small (c :: b) := by simp [small]
   rw [el, el2, el3] at hih
   by_cases h1 : 65 <= c
   ·have q1 : decide (65 <= c) = true := by simpa using h1
    by_cases h2 : c <= 90
    ·have q2 : decide (c <= 90) = true := by simpa using h2
     have hlc : lowb c = c + 32 := by unfold lowb; rw [if_pos ⟨h1, h2⟩]
     have hs : (bl (a ++ c :: b)).set a.length (.v (.int .u8 (c + 32))) = bl (a ++ [lowb c] ++ b) := by
      rw [bl_set, hlc]
      simp
     have hwa : IntKind.u8.wrap (c + 97) = c + 97 := wrap_u8 (by omega) (by omega)
     have hwc : IntKind.u8.wrap (c + 97 - 65) = c + 32 := by rw [wrap_u8 (by omega) (by omega)]; omega
     have hbl : a.length + 1 <= (bl (a ++ c :: b)).length := by rw [bl_len]; simp
     generalize hcs : a.length + (c :: b).length = k at *
     have er : evCode ⟨Tryz.prog, E, lo, h.length, h35⟩ loopW l35x0 ([(3, .buf h.length 0 k), (8, .buf h.length 0 k), (9, .v (.int .i64 (k : Nat))), (10, .v (.int .i64 a.length))], h ++ [.cells (bl (a ++ c :: b))]) =
       some (.normal, [(3, .buf h.length 0 k), (8, .buf h.length 0 k), (9, .v (.int .i64 (k : Nat))), (10, .v (.int .i64 (a.length + 1 : Nat)))], h ++ [.cells (bl (a ++ [lowb c] ++ b))]) := by
      have hlt' : (a.length : Int) < k := by omega
      have h0' : (0 : Int) <= a.length := by omega
      simp only [go_sem, l35x0, b35, Tryz.f35, hd, hx, hw, q1, q2, hwa, hwc, hs, hlo, hlt, hlt', h0', hbl, Nat.zero_add, Int.toNat_natCast, and_self]
      all_goals rfl
     rw [loop_eq, er, loop_n]
     exact hih
    ·have q2 : decide (c <= 90) = false := by simpa using h2
     have hlc : lowb c = c := by unfold lowb; rw [if_neg (by omega)]
     rw [hlc] at hih
     generalize hcs : a.length + (c :: b).length = k at *
     have er : evCode ⟨Tryz.prog, E, lo, h.length, h35⟩ loopW l35x0 ([(3, .buf h.length 0 k), (8, .buf h.length 0 k), (9, .v (.int .i64 (k : Nat))), (10, .v (.int .i64 a.length))], h ++ [.cells (bl (a ++ c :: b))]) =
       some (.normal, [(3, .buf h.length 0 k), (8, .buf h.length 0 k), (9, .v (.int .i64 (k : Nat))), (10, .v (.int .i64 (a.length + 1 : Nat)))], h ++ [.cells (bl (a ++ c :: b))]) := by
      have hlt' : (a.length : Int) < k := by omega
      have h0' : (0 : Int) <= a.length := by omega
      simp only [go_sem, l35x0, b35, Tryz.f35, hd, hx, hw, q1, q2, hlo, hlt, hlt', h0', Nat.zero_add, Int.toNat_natCast, and_self]
      all_goals rfl
     rw [loop_eq, er, loop_n]
     have e4 : a ++ c :: b = a ++ [c] ++ b := by simp
     rw [e4]
     exact hih
   ·have q1 : decide (65 <= c) = false := by simpa using h1
    have hlc : lowb c = c := by unfold lowb; rw [if_neg (by omega)]
    rw [hlc] at hih
    generalize hcs : a.length + (c :: b).length = k at *
    have er : evCode ⟨Tryz.prog, E, lo, h.length, h35⟩ loopW l35x0 ([(3, .buf h.length 0 k), (8, .buf h.length 0 k), (9, .v (.int .i64 (k : Nat))), (10, .v (.int .i64 a.length))], h ++ [.cells (bl (a ++ c :: b))]) =
      some (.normal, [(3, .buf h.length 0 k), (8, .buf h.length 0 k), (9, .v (.int .i64 (k : Nat))), (10, .v (.int .i64 (a.length + 1 : Nat)))], h ++ [.cells (bl (a ++ c :: b))]) := by
     have hlt' : (a.length : Int) < k := by omega
     have h0' : (0 : Int) <= a.length := by omega
     simp only [go_sem, l35x0, b35, Tryz.f35, hd, hx, hw, q1, hlo, hlt, hlt', h0', Nat.zero_add, Int.toNat_natCast, and_self]
     all_goals rfl
    rw [loop_eq, er, loop_n]
    have e4 : a ++ c :: b = a ++ [c] ++ b := by simp
    rw [e4]
    exact hih
theorem f35 {l : List Int} (hlo : lo <= h.length) (hl : l.length <= 1000000000000) (hy : By l) : E lo 35 [.v (.string (Rul.bs l))] h = some (.v (.string (Rul.bs (small l))), h) := by
 have hL := loop35 (lo := lo) (h := h) hlo l.length [] l (Nat.le_refl _) (by simpa using hl) hy
 have hz : (⟨(u8s l).toArray⟩ : ByteArray).size = l.length := by simp [ByteArray.size, u8s]
 have hsl : (small l).length = l.length := List.length_map _
 rw [e35 (by simp) (by rfl)]
 simp only [l35x0, b35, Tryz.f35, loopAt, loops, bodyOf, go_sem, List.length_nil, Nat.zero_add, List.nil_append] at hL
 have hb1 : decide (0 + l.length <= (bl (small l)).length) = true := by rw [bl_len, hsl]; simp
 have hb2 : ((bl (small l)).take l.length).map (fun x => [x]) = ri .u8 (small l) := by
  rw [List.take_of_length_le (by rw [bl_len, hsl]; exact Nat.le_refl _)]
  simp [bl, ri]
 simp only [go_sem, b35, Tryz.f35, hz, Rul.bs, byteCells_u8s hy, hL, hb1, hb2, List.nil_append]
 all_goals rfl
end Go.Lift.V1
end

section
namespace Go.Lift.Rul
def wVar : List Int := [118, 97, 114]
def useC (t : Tk4) : Bool := t.k == 2 && small t.b == wVar
mutual
def varV : CV -> Bool
 | .mk t kids => useC t || varL kids
def varL : List CV -> Bool
 | [] => false
 | v :: r => varV v || varL r
end
mutual
def okCV : CV -> Prop
 | .mk t kids => (Utf.By t.b /\ t.b.length <= 1000000000 /\ kids.length <= 1000000000) /\ okCL kids
def okCL : List CV -> Prop
 | [] => True
 | v :: r => okCV v /\ okCL r
end
end Go.Lift.Rul
end

section
open Go.Proofs
namespace Go.Lift.V1
open Rul
open Utf (By)
variable {lo : Nat} {h : Heap}
theorem rowV_eq (t : Tk4) (kids : List CV) : rowV (.mk t kids) = [.v (.int .i64 t.k), .v (.string (Rul.bs t.b)), .v (.int .i64 t.n), .v (.int .i64 t.d), .v (.bool t.w), .v (.bool t.i), .list .no (rowsC kids)] := by rw [rowV]; rfl
theorem by_small' {l : List Int} (h : By l) : By (small l) := fun c hc => by
 obtain ⟨x, hx, rfl⟩ := List.mem_map.1 hc
 have := h x hx
 unfold lowb
 split <;> omega
theorem u8s_inj : ∀ {a b : List Int}, By a -> By b -> u8s a = u8s b -> a = b
 | [], [], _, _, _ => rfl
 | [], y :: b, _, _, h => by cases h
 | x :: a, [], _, _, h => by cases h
 | x :: a, y :: b, ha, hb, h => by
  simp only [u8s, List.map_cons, List.cons.injEq] at h
  have hx := ha x (by simp)
  have hy := hb y (by simp)
  have e : x = y := by
   have := congrArg UInt8.toNat h.1
   simp only [UInt8.toNat_ofNat'] at this
   omega
  rw [e, u8s_inj (fun c hc => ha c (by simp [hc])) (fun c hc => hb c (by simp [hc])) h.2]
theorem rbs_list (b : List Int) : (Rul.bs b).toList = u8s b := by simp only [Rul.bs, ByteArray.toList_eq]
theorem bs_beq' {a b : List Int} (ha : By a) (hb : By b) : ((Rul.bs a).toList == (Rul.bs b).toList) = (a == b) := by
 rw [rbs_list, rbs_list, Bool.eq_iff_iff, beq_iff_eq, beq_iff_eq]
 exact ⟨u8s_inj ha hb, fun h => by rw [h]⟩
theorem k_var : (⟨#[118, 97, 114]⟩ : ByteArray) = Rul.bs wVar := rfl
theorem f23 {t : Tk4} {kids : List CV} (hy : By t.b) (hl : t.b.length <= 1000000000) (hlo : lo <= h.length) : E lo 23 [.agg (rowV (.mk t kids))] h = some (.v (.bool (useC t)), h) := by
 have l1 : lo <= h.length + 1 := by omega
 have c35 := fun lo h hlo => f35 (lo := lo) (h := h) (l := t.b) hlo (by omega) hy
 have q := bs_beq' (by_small' hy) (show By wVar by intro c hc; simp [wVar] at hc; omega)
 rw [e23 (by simp) (by rfl), rowV_eq]
 unfold useC
 cases hk : t.k == 2 with
 | false =>
  simp only [go_sem, b23, Tryz.f23, hlo, l1, hk, Bool.false_and]
  all_goals rfl
 | true =>
  rw [Bool.true_and]
  simp only [go_sem, b23, Tryz.f23, hlo, l1, hk, c35, k_var, q]
  all_goals rfl
def V7 (l : List CV) : Prop := ∀ lo h, lo <= h.length -> E lo 7 [.list .no (rowsC l)] h = some (.v (.bool (varL l)), h)
def V22 (v : CV) : Prop := ∀ lo h, lo <= h.length -> E lo 22 [.agg (rowV v)] h = some (.v (.bool (varV v)), h)
theorem f22 {t : Tk4} {kids : List CV} (hy : By t.b) (hl : t.b.length <= 1000000000) (hk : V7 kids) : V22 (.mk t kids) := by
 intro lo h hlo
 have l1 : lo <= h.length + 1 := by omega
 have c23 := fun lo h hlo => f23 (lo := lo) (h := h) (kids := kids) hy hl hlo
 have c7 := fun lo h hlo => hk lo h hlo
 rw [rowV_eq] at c23 ⊢
 rw [e22 (by simp) (by rfl), varV]
 cases hu : useC t with
 | true =>
  rw [hu] at c23
  simp only [go_sem, b22, Tryz.f22, hlo, l1, c23, Bool.true_or]
  all_goals rfl
 | false =>
  rw [hu] at c23
  rw [Bool.false_or]
  simp only [go_sem, b22, Tryz.f22, hlo, l1, c23, c7]
  all_goals rfl
noncomputable abbrev X41 (lo : Nat) (h : Heap) : Go.Lift.Cx := ⟨Tryz.prog, E, lo, h.length, h41⟩
abbrev N41 (l : List CV) (k : Int) : Env := [(0, .list .no (rowsC l)), (1, .fn 22 []), (7, .v (.int .i64 l.length)), (8, .v (.int .i64 k))]
theorem r41 {l : List CV} {v : CV} {k : Nat} (hlo : lo <= h.length) (hl : l.length <= 1000000000) (hg : l[k]? = some v) (hc : V22 v) :
  evCode (X41 lo h) loopW l41x0 (N41 l k, h) = if varV v = true then some (.ret, [(4, .v (.int .i64 k))], h) else some (.normal, N41 l (k + 1 : Nat), h) := by
 have hlt : k < l.length := (List.getElem?_eq_some_iff.1 hg).1
 have hgr : (rowsC l)[k]? = some (rowV v) := by simp [rowsC_map, hg]
 have c22 := fun lo h hlo => hc lo h hlo
 obtain ⟨t, kids⟩ := v
 rw [rowV_eq] at hgr c22
 have q1 : decide ((k : Int) < (l.length : Int)) = true := by simp; omega
 have hw : IntKind.i64.wrap ((k : Int) + 1) = ((k + 1 : Nat) : Int) := wrap_succ (by omega)
 cases hv : varV (.mk t kids) with
 | true =>
  rw [hv] at c22
  rw [if_pos rfl]
  simp only [go_sem, l41x0, b41, Tryz.f41, hlo, q1, hgr, hw, c22]
  all_goals rfl
 | false =>
  rw [hv] at c22
  rw [if_neg (by simp)]
  simp only [go_sem, l41x0, b41, Tryz.f41, hlo, q1, hgr, hw, c22]
  all_goals rfl
end Go.Lift.V1
end

section
open Go.Proofs
namespace Go.Lift.V1
open Rul
open Utf (By)
variable {lo : Nat} {h : Heap}
theorem like_small {a b : List Int} (ha : By a) (hb : By b) : like a b = (small a == small b) := by
 unfold like
 rw [small_low, small_low, Bool.eq_iff_iff, beq_iff_eq, beq_iff_eq]
 exact ⟨u8s_inj (by_small' ha) (by_small' hb), fun h => by rw [h]⟩
theorem by_wVar : By wVar := by intro c hc; simp [wVar] at hc; omega
theorem small_wVar : small wVar = wVar := by decide
theorem f42 {t : Tk4} {kids : List CV} (hy : By t.b) (hl : t.b.length <= 1000000000) (hlo : lo <= h.length) : E lo 42 [.agg (rowV (.mk t kids))] h = some (.v (.bool (useC t)), h) := by
 have l1 : lo <= h.length + 1 := by omega
 have c62 := fun lo h hlo => f62 (lo := lo) (h := h) (a := t.b) (b := wVar) hlo (by omega) hy (by simp [wVar]) by_wVar
 rw [like_small hy by_wVar, small_wVar] at c62
 have k : (⟨(u8s wVar).toArray⟩ : ByteArray) = ⟨#[118, 97, 114]⟩ := rfl
 rw [k] at c62
 rw [e42 (by simp) (by rfl), rowV_eq]
 unfold useC
 cases hk : t.k == 2 with
 | false =>
  simp only [go_sem, b42, Tryz.f42, hlo, l1, hk, Bool.false_and]
  all_goals rfl
 | true =>
  rw [Bool.true_and]
  simp only [go_sem, b42, Tryz.f42, hlo, l1, hk, c62, Rul.bs]
  all_goals rfl
theorem rbs_size (l : List Int) : (Rul.bs l).size = l.length := by simp [Rul.bs, ByteArray.size, u8s]
theorem rbs_ix {l : List Int} (hy : By l) (i : Nat) : ((Rul.bs l).data[i]?).map (fun c => V.v (.int .u8 c.toNat)) = (l[i]?).map fun c => V.v (.int .u8 c) := by
 simp only [Rul.bs, u8s, List.getElem?_toArray, List.getElem?_map, Option.map_map]
 rcases hg : l[i]? with _ | c
 ·rfl
 ·have := hy c (List.mem_of_getElem? hg)
  simp only [Option.map_some, Function.comp, UInt8.toNat_ofNat']
  have e : ((c.toNat % 2 ^ 8 : Nat) : Int) = c := by omega
  rw [e]
def custR : List Int -> Bool
 | a :: b :: _ :: _ => a == 45 && b == 45
 | _ => false
theorem f16a {L : List Int} (hb : decide ((L.length : Int) > 2) = false) : E lo 16 [.v (.string (Rul.bs L))] h = some (.v (.bool false), h) := by
 rw [e16 (by simp) (by rfl)]
 simp only [go_sem, b16, Tryz.f16, rbs_size, hb]
theorem f16b {L : List Int} {a b : Int} (hy : By L) (hb : decide ((L.length : Int) > 2) = true) (g0 : L[0]? = some a) (g1 : L[1]? = some b) : E lo 16 [.v (.string (Rul.bs L))] h = some (.v (.bool (a == 45 && b == 45)), h) := by
 have h0 := rbs_ix hy 0
 have h1 := rbs_ix hy 1
 rw [g0] at h0
 rw [g1] at h1
 have t0 : Int.toNat 0 = 0 := rfl
 have t1 : Int.toNat 1 = 1 := rfl
 rw [e16 (by simp) (by rfl)]
 cases ha : a == 45 with
 | true =>
  simp only [go_sem, b16, Tryz.f16, rbs_size, hb, h0, h1, t0, t1, ha, Option.map_some, Bool.true_and]
 | false =>
  simp only [go_sem, b16, Tryz.f16, rbs_size, hb, h0, h1, t0, t1, ha, Option.map_some, Bool.false_and]
theorem f16 {l : List Int} (hy : By l) : E lo 16 [.v (.string (Rul.bs l))] h = some (.v (.bool (custR l)), h) := by
 match l, hy with
 | [], hy => exact f16a (by simp)
 | [_], hy => exact f16a (by simp)
 | [_, _], hy => exact f16a (by simp)
 | a :: b :: c :: r, hy => exact f16b hy (by simp; omega) rfl rfl
theorem trim_sub {l : List CV} {v : CV} (h : v ∈ trim l) : v ∈ l := by
 unfold trim at h
 have h1 := (List.dropWhile_sublist _).subset (List.mem_reverse.1 h)
 exact (List.dropWhile_sublist _).subset (List.mem_reverse.1 h1)
theorem trim_len (l : List CV) : (trim l).length <= l.length := by
 unfold trim
 rw [List.length_reverse]
 have h1 := (List.dropWhile_sublist spaceC (l := (l.dropWhile spaceC).reverse)).length_le
 have h2 := (List.dropWhile_sublist spaceC (l := l)).length_le
 rw [List.length_reverse] at h1
 omega
theorem okCL_mem : ∀ {l : List CV}, okCL l -> ∀ v ∈ l, okCV v
 | [], _, _, h => nomatch h
 | x :: r, hs, v, h => by
  rw [okCL] at hs
  rcases List.mem_cons.1 h with rfl | h
  ·exact hs.1
  ·exact okCL_mem hs.2 v h
theorem rowsC_cons (v : CV) (l : List CV) : rowsC (v :: l) = rowV v :: rowsC l := by rw [rowsC]
theorem rowsC_nil : rowsC [] = [] := by rw [rowsC]
def okRest (l : List CV) : Bool := match trim l with
 | [] => true
 | .mk w _ :: _ => w.k == 18
def useOk (kids : List CV) : Bool := match trim kids with
 | [] => false
 | .mk u _ :: r => u.k == 1 && custR u.b && okRest r
theorem f43 {t : Tk4} {kids : List CV} (hk : okCL kids) (hl : kids.length <= 1000000000) : ∃ (a : ByteArray) (b : List (List V)) (c : Bool), ∀ lo h, lo <= h.length -> E lo 43 [.agg (rowV (.mk t kids))] h = some (.tup [.v (.string a), .list .no b, .v (.bool c), .v (.bool (useOk kids))], h) := by
 have c63 := fun lo h hlo => f63 (lo := lo) (h := h) hlo hl
 have hm : ∀ v ∈ trim kids, v ∈ kids := fun v h => trim_sub h
 have hln := trim_len kids
 unfold useOk
 generalize trim kids = T at c63 hm hln ⊢
 match T, c63, hm, hln with
 | [], c63, hm, hln =>
  rw [rowsC_nil] at c63
  refine ⟨⟨#[]⟩, [], false, fun lo h hlo => ?_⟩
  have l1 : lo <= h.length + 1 := by omega
  rw [e43 (by simp) (by rfl), rowV_eq]
  simp only [go_sem, b43, Tryz.f43, hlo, l1, c63, List.length_nil]
  all_goals rfl
 | .mk u ks :: r, c63, hm, hln =>
  have hv := okCL_mem hk _ (hm _ (List.mem_cons_self ..))
  rw [okCV] at hv
  have hr : r.length <= 1000000000 := by simp at hln; omega
  have c63b := fun lo h hlo => f63 (lo := lo) (h := h) (l := r) hlo hr
  have c16 := fun lo h => f16 (lo := lo) (h := h) hv.1.1
  rw [rowsC_cons, rowV_eq] at c63
  have hL : (List.length (rowsC r) + 1 : Nat) = r.length + 1 := by rw [rowsC_len]
  have q0 : ((((r.length + 1 : Nat) : Int)) == 0) = false := by rw [beq_eq_false_iff_ne]; omega
  have hd1 : 1 <= r.length + 1 := by omega
  cases hk1 : u.k == 1 with
  | false =>
   have hk2 : (u.k != 1) = true := by simp [bne, hk1]
   refine ⟨⟨#[]⟩, [], false, fun lo h hlo => ?_⟩
   have l1 : lo <= h.length + 1 := by omega
   rw [e43 (by simp) (by rfl), rowV_eq]
   simp only [go_sem, b43, Tryz.f43, hlo, l1, c63, List.length_cons, rowsC_len, q0, hk1, hk2, Bool.false_and]
   all_goals rfl
  | true =>
   have hk2 : (u.k != 1) = false := by simp [bne, hk1]
   cases hc : custR u.b with
   | false =>
    rw [hc] at c16
    refine ⟨⟨#[]⟩, [], false, fun lo h hlo => ?_⟩
    have l1 : lo <= h.length + 1 := by omega
    rw [e43 (by simp) (by rfl), rowV_eq]
    simp only [go_sem, b43, Tryz.f43, hlo, l1, c63, List.length_cons, rowsC_len, q0, hk1, hk2, hc, c16, Bool.false_and, Bool.true_and]
    all_goals rfl
   | true =>
    rw [hc] at c16
    have hT := trim_len r
    have hR : okRest r = match trim r with | [] => true | .mk w _ :: _ => w.k == 18 := rfl
    generalize trim r = S at c63b hT hR
    match S, c63b, hT, hR with
    | [], c63b, hT, hR =>
     have hR' : okRest r = true := hR
     rw [rowsC_nil] at c63b
     refine ⟨Rul.bs u.b, [], false, fun lo h hlo => ?_⟩
     have l1 : lo <= h.length + 1 := by omega
     rw [e43 (by simp) (by rfl), rowV_eq]
     simp only [go_sem, b43, Tryz.f43, hlo, l1, c63, c63b, List.length_cons, List.length_nil, rowsC_len, q0, hk1, hk2, hc, c16, hR', Bool.true_and, Bool.false_and, rowsC_all, rowsC_takeL, hd1]
     all_goals rfl
    | .mk w ws :: z, c63b, hT, hR =>
     have hR' : okRest r = (w.k == 18) := hR
     have hz : z.length <= 1000000000 := by simp at hT; omega
     have c63c := fun lo h hlo => f63 (lo := lo) (h := h) (l := z) hlo hz
     rw [rowsC_cons, rowV_eq] at c63b
     have q1 : ((((z.length + 1 : Nat) : Int)) == 0) = false := by rw [beq_eq_false_iff_ne]; omega
     have hd2 : 1 <= z.length + 1 := by omega
     cases hw1 : w.k == 18 with
     | false =>
      have hw2 : (w.k != 18) = true := by simp [bne, hw1]
      refine ⟨⟨#[]⟩, [], false, fun lo h hlo => ?_⟩
      have l1 : lo <= h.length + 1 := by omega
      rw [e43 (by simp) (by rfl), rowV_eq]
      simp only [go_sem, b43, Tryz.f43, hlo, l1, c63, c63b, List.length_cons, List.length_nil, rowsC_len, q0, q1, hk1, hk2, hc, c16, hR', Bool.true_and, Bool.false_and, rowsC_all, rowsC_takeL, hd1, hd2, hw1, hw2]
      all_goals rfl
     | true =>
      have hw2 : (w.k != 18) = false := by simp [bne, hw1]
      refine ⟨Rul.bs u.b, rowsC (trim z), true, fun lo h hlo => ?_⟩
      have l1 : lo <= h.length + 1 := by omega
      rw [e43 (by simp) (by rfl), rowV_eq]
      simp only [go_sem, b43, Tryz.f43, hlo, l1, c63, c63b, c63c, List.length_cons, List.length_nil, rowsC_len, q0, q1, hk1, hk2, hc, c16, hR', Bool.true_and, Bool.false_and, rowsC_all, rowsC_takeL, hd1, hd2, hw1, hw2]
      all_goals rfl
end Go.Lift.V1
end

section
open Go.Proofs
namespace Go.Lift.V1
open Rul
open Utf (By)
variable {lo : Nat} {h : Heap}
mutual
def wrongV : CV -> Bool
 | .mk t kids => (useC t && !useOk kids) || wrongL kids
def wrongL : List CV -> Bool
 | [] => false
 | v :: r => wrongV v || wrongL r
end
def V24 (l : List CV) : Prop := ∀ lo h, lo <= h.length -> E lo 24 [.list .no (rowsC l)] h = some (.tup [.v (.bool (varL l)), .v (.bool (wrongL l))], h)
noncomputable abbrev X24 (lo : Nat) (h : Heap) : Go.Lift.Cx := ⟨Tryz.prog, E, lo, h.length, h24⟩
abbrev N24 (s w : Bool) (l : List CV) (k : Int) : Env := [(4, .v (.bool s)), (5, .v (.bool w)), (14, .list .no (rowsC l)), (15, .v (.int .i64 l.length)), (16, .v (.int .i64 k))]
theorem r24 {l : List CV} {t : Tk4} {kids : List CV} {k : Nat} {s w : Bool} (hlo : lo <= h.length) (hl : l.length <= 1000000000) (hg : l[k]? = some (.mk t kids)) (hv : okCV (.mk t kids)) (hc : V24 kids) :
  evCode (X24 lo h) loopW l24x0 (N24 s w l k, h) = some (.normal, N24 (s || varV (.mk t kids)) (w || wrongV (.mk t kids)) l (k + 1 : Nat), h) := by
 have hlt : k < l.length := (List.getElem?_eq_some_iff.1 hg).1
 have hgr : (rowsC l)[k]? = some (rowV (.mk t kids)) := by simp [rowsC_map, hg]
 rw [okCV] at hv
 have l1 : lo <= h.length + 1 := by omega
 have c24 := fun lo h hlo => hc lo h hlo
 have c42 := fun lo h hlo => f42 (lo := lo) (h := h) (kids := kids) hv.1.1 hv.1.2.1 hlo
 obtain ⟨a, b, c, c43⟩ := f43 (t := t) hv.2 hv.1.2.2
 rw [rowV_eq] at hgr c42 c43
 have q1 : decide ((k : Int) < (l.length : Int)) = true := by simp; omega
 have hw : IntKind.i64.wrap ((k : Int) + 1) = ((k + 1 : Nat) : Int) := wrap_succ (by omega)
 rw [varV, wrongV]
 generalize varL kids = x1 at c24 ⊢
 generalize wrongL kids = x2 at c24 ⊢
 generalize useC t = x3 at c42 ⊢
 generalize useOk kids = x4 at c43 ⊢
 cases s <;> cases w <;> cases x3 <;> first
  | (
    simp only [go_sem, l24x0, b24, Tryz.f24, hlo, l1, q1, hgr, hw, c24, c42, Bool.true_and, Bool.false_and, Bool.or_true, Bool.true_or, Bool.false_or, Bool.or_false]
    done)
  | (
    cases x4 <;> simp only [go_sem, l24x0, b24, Tryz.f24, hlo, l1, q1, hgr, hw, c24, c42, c43, Bool.true_and, Bool.false_and, Bool.or_true, Bool.true_or, Bool.false_or, Bool.or_false, Bool.not_true, Bool.not_false]
    done)
end Go.Lift.V1
end

section
open Go.Proofs
namespace Go.Lift.V1
open Rul
open Utf (By)
variable {lo : Nat} {h : Heap}
theorem stop41 {l : List CV} : evCode (X41 lo h) loopW l41x0 (N41 l l.length, h) = some (.exit 0, N41 l l.length ++ [(9, .v (.bool false))], h) := by
 have q1 : decide ((l.length : Int) < (l.length : Int)) = false := by simp
 simp only [go_sem, l41x0, b41, Tryz.f41, q1]
 all_goals rfl
theorem loop41 {l : List CV} (hlo : lo <= h.length) (hl : l.length <= 1000000000) (hc : ∀ v ∈ l, V22 v) : ∀ (m k : Nat), k + m = l.length -> ∃ j : Nat,
  loopW (evCode (X41 lo h) loopW l41x0) (N41 l k, h) = if varL (l.drop k) = true then some (.ret, [(4, .v (.int .i64 j))], h) else some (.exit 0, N41 l l.length ++ [(9, .v (.bool false))], h)
 | 0, k, hk => by
  have e : k = l.length := by omega
  subst e
  refine ⟨0, ?_⟩
  rw [List.drop_length, varL, if_neg (by simp), loop_eq, stop41, loop_e]
 | m + 1, k, hk => by
  have hlt : k < l.length := by omega
  obtain ⟨v, hg⟩ : ∃ v, l[k]? = some v := ⟨l[k], List.getElem?_eq_getElem hlt⟩
  have hd : l.drop k = v :: l.drop (k + 1) := by
   rw [List.drop_eq_getElem_cons hlt]
   rw [List.getElem?_eq_getElem hlt] at hg
   rw [Option.some.inj hg]
  have hm : v ∈ l := List.mem_of_getElem? hg
  have hr := r41 (lo := lo) (h := h) hlo hl hg (hc v hm)
  obtain ⟨j, hj⟩ := loop41 hlo hl hc m (k + 1) (by omega)
  rw [hd, varL]
  cases hv : varV v with
  | true =>
   rw [if_pos hv] at hr
   refine ⟨k, ?_⟩
   rw [loop_eq, hr, loop_r, Bool.true_or, if_pos rfl]
  | false =>
   rw [if_neg (by simp [hv])] at hr
   refine ⟨j, ?_⟩
   rw [loop_eq, hr, loop_n, Bool.false_or]
   exact hj
theorem f41 {l : List CV} (hlo : lo <= h.length) (hl : l.length <= 1000000000) (hc : ∀ v ∈ l, V22 v) : ∃ j : Nat, E lo 41 [.list .no (rowsC l), .fn 22 []] h = some (.v (.int .i64 (if varL l = true then (j : Int) else -1)), h) := by
 obtain ⟨j, hj⟩ := loop41 (lo := lo) (h := h) hlo hl hc l.length 0 (by omega)
 refine ⟨j, ?_⟩
 rw [List.drop_zero] at hj
 have n0 : ((0 : Nat) : Int) = 0 := rfl
 rw [e41 (by simp) (by rfl)]
 cases hv : varL l with
 | true =>
  rw [hv, if_pos rfl] at hj
  simp only [l41x0, b41, Tryz.f41, loopAt, loops, bodyOf, go_sem, N41, X41, n0] at hj
  simp only [go_sem, b41, Tryz.f41, hlo, hj, rowsC_len, n0]
  all_goals rfl
 | false =>
  rw [hv, if_neg (by simp)] at hj
  simp only [l41x0, b41, Tryz.f41, loopAt, loops, bodyOf, go_sem, N41, X41, n0] at hj
  simp only [go_sem, b41, Tryz.f41, hlo, hj, rowsC_len, n0]
  all_goals rfl
theorem f21 {l : List CV} (hlo : lo <= h.length) (hl : l.length <= 1000000000) (hc : ∀ v ∈ l, V22 v) : E lo 21 [.list .no (rowsC l), .fn 22 []] h = some (.v (.bool (varL l)), h) := by
 obtain ⟨j, hj⟩ := f41 (lo := lo) (h := h) hlo hl hc
 obtain ⟨j2, hj2⟩ := f41 (lo := h.length) (h := h) (Nat.le_refl _) hl hc
 rw [e21 (by simp) (by rfl)]
 cases hv : varL l with
 | true =>
  rw [hv, if_pos rfl] at hj hj2
  have q : decide ((j : Int) >= 0) = true := by simp
  have q2 : decide ((j2 : Int) >= 0) = true := by simp
  have q' : decide ((0 : Int) <= j) = true := by simp
  have q2' : decide ((0 : Int) <= j2) = true := by simp
  simp only [go_sem, b21, Tryz.f21, hlo, hj, hj2, q, q2, q', q2']
  all_goals rfl
 | false =>
  rw [hv, if_neg (by simp)] at hj hj2
  simp only [go_sem, b21, Tryz.f21, hlo, hj, hj2]
  all_goals rfl
theorem f7_of {l : List CV} (hl : l.length <= 1000000000) (hc : ∀ v ∈ l, V22 v) : V7 l := by
 intro lo h hlo
 have k1 := f21 (lo := lo) (h := h) hlo hl hc
 have k2 := f21 (lo := h.length) (h := h) (Nat.le_refl _) hl hc
 rw [e7 (by simp) (by rfl)]
 simp only [go_sem, b7, Tryz.f7, hlo, k1, k2]
 all_goals rfl
mutual
theorem cv_ok : ∀ v : CV, okCV v -> V22 v
 | .mk t kids => by
  have ih := cl_ok kids
  intro hs
  rw [okCV] at hs
  exact f22 hs.1.1 hs.1.2.1 (f7_of hs.1.2.2 (ih hs.2))
theorem cl_ok : ∀ l : List CV, okCL l -> ∀ v ∈ l, V22 v
 | [] => fun _ _ h => nomatch h
 | x :: r => by
  have i1 := cv_ok x
  have i2 := cl_ok r
  intro hs v hm
  rw [okCL] at hs
  rcases List.mem_cons.1 hm with rfl | hm
  ·exact i1 hs.1
  ·exact i2 hs.2 v hm
end
theorem f7 {l : List CV} (hlo : lo <= h.length) (hl : l.length <= 1000000000) (hs : okCL l) : E lo 7 [.list .no (rowsC l)] h = some (.v (.bool (varL l)), h) := f7_of hl (cl_ok l hs) lo h hlo
end Go.Lift.V1
end

section
open Go.Proofs
namespace Go.Lift.V1
open Rul
open Utf (By)
variable {lo : Nat} {h : Heap}
theorem stop24 {s w : Bool} {l : List CV} : evCode (X24 lo h) loopW l24x0 (N24 s w l l.length, h) = some (.exit 0, N24 s w l l.length ++ [(17, .v (.bool false))], h) := by
 have q1 : decide ((l.length : Int) < (l.length : Int)) = false := by simp
 simp only [go_sem, l24x0, b24, Tryz.f24, q1]
 all_goals rfl
theorem loop24 {l : List CV} (hlo : lo <= h.length) (hl : l.length <= 1000000000) (hv : ∀ v ∈ l, okCV v) (hc : ∀ t kids, CV.mk t kids ∈ l -> V24 kids) : ∀ (m k : Nat) (s w : Bool), k + m = l.length ->
  loopW (evCode (X24 lo h) loopW l24x0) (N24 s w l k, h) = some (.exit 0, N24 (s || varL (l.drop k)) (w || wrongL (l.drop k)) l l.length ++ [(17, .v (.bool false))], h)
 | 0, k, s, w, hk => by
  have e : k = l.length := by omega
  subst e
  rw [List.drop_length, varL, wrongL, loop_eq, stop24, loop_e, Bool.or_false, Bool.or_false]
 | m + 1, k, s, w, hk => by
  have hlt : k < l.length := by omega
  obtain ⟨v, hg⟩ : ∃ v, l[k]? = some v := ⟨l[k], List.getElem?_eq_getElem hlt⟩
  have hd : l.drop k = v :: l.drop (k + 1) := by
   rw [List.drop_eq_getElem_cons hlt]
   rw [List.getElem?_eq_getElem hlt] at hg
   rw [Option.some.inj hg]
  have hm : v ∈ l := List.mem_of_getElem? hg
  have hj := loop24 hlo hl hv hc m (k + 1)
  obtain ⟨t, kids⟩ := v
  have hr := r24 (s := s) (w := w) (lo := lo) (h := h) hlo hl hg (hv _ hm) (hc t kids hm)
  rw [hd, varL, wrongL, loop_eq, hr, loop_n, hj _ _ (by omega), Bool.or_assoc, Bool.or_assoc]
theorem f24_of {l : List CV} (hl : l.length <= 1000000000) (hv : ∀ v ∈ l, okCV v) (hc : ∀ t kids, CV.mk t kids ∈ l -> V24 kids) : V24 l := by
 intro lo h hlo
 have hj := loop24 (lo := lo) (h := h) hlo hl hv hc l.length 0 false false (by omega)
 rw [List.drop_zero, Bool.false_or, Bool.false_or] at hj
 have n0 : ((0 : Nat) : Int) = 0 := rfl
 rw [e24 (by simp) (by rfl)]
 simp only [l24x0, b24, Tryz.f24, loopAt, loops, bodyOf, go_sem, N24, X24, n0] at hj
 simp only [go_sem, b24, Tryz.f24, hlo, hj, rowsC_len, n0]
 all_goals rfl
mutual
theorem lv_ok : ∀ v : CV, okCV v -> ∀ t kids, v = .mk t kids -> V24 kids
 | .mk t' kids' => by
  have ih := ll_ok kids'
  intro hs t kids he
  obtain ⟨rfl, rfl⟩ := CV.mk.inj he
  rw [okCV] at hs
  exact f24_of hs.1.2.2 (okCL_mem hs.2) (ih hs.2)
theorem ll_ok : ∀ l : List CV, okCL l -> ∀ t kids, CV.mk t kids ∈ l -> V24 kids
 | [] => fun _ _ _ h => nomatch h
 | x :: r => by
  have i1 := lv_ok x
  have i2 := ll_ok r
  intro hs t kids hm
  rw [okCL] at hs
  rcases List.mem_cons.1 hm with he | hm
  ·exact i1 hs.1 t kids he.symm
  ·exact i2 hs.2 t kids hm
end
theorem f24 {l : List CV} (hl : l.length <= 1000000000) (hs : okCL l) : V24 l := f24_of hl (okCL_mem hs) (ll_ok l hs)
theorem f8 {l : List CV} (hlo : lo <= h.length) (hl : l.length <= 1000000000) (hs : okCL l) : E lo 8 [.list .no (rowsC l)] h = some (.v (.bool (varL l)), h) := by
 have k1 := f24 hl hs lo h hlo
 have k2 := f24 hl hs h.length h (Nat.le_refl _)
 rw [e8 (by simp) (by rfl)]
 simp only [go_sem, b8, Tryz.f8, hlo, k1, k2]
 all_goals rfl
end Go.Lift.V1
end

section
open Go.Proofs
namespace Go.Lift.V1
theorem awk0 : evFun Tryz.prog hints primz0 200 0 10 [] [] = some (.v (.bool true), []) := by kernel_rfl
theorem of0 : evFun Tryz.prog hints primz0 200 0 9 [useT] [] = some (useV, []) := by kernel_rfl
end Go.Lift.V1
end

section
open Go.Proofs
namespace Go.Lift.V1
open Rul
open Utf (By)
variable {lo : Nat} {h : Heap}
def useL : List CV := [.mk ⟨2, [102], 0, 0, false, false⟩ [.mk ⟨2, [86, 65, 82], 0, 0, false, false⟩ [.mk ⟨1, [45, 45, 97], 0, 0, false, false⟩ []]]]
theorem useV_eq : useV = .list .no (rowsC useL) := by
 unfold useV useL
 simp only [rowsC_cons, rowV_eq, rowsC_nil]
 rfl
theorem by_of {l : List Int} (h : l.all (fun c => decide (0 <= c) && decide (c < 256)) = true) : By l := fun c hc => by
 have := List.all_eq_true.1 h c hc
 simp only [Bool.and_eq_true, decide_eq_true_eq] at this
 omega
theorem useL_ok : okCL useL := by
 unfold useL
 simp only [okCL, okCV, and_true]
 exact ⟨⟨by_of (by decide), by simp, by simp⟩, ⟨by_of (by decide), by simp, by simp⟩, by_of (by decide), by simp, by simp⟩
theorem useL_var : varL useL = true := by
 unfold useL
 simp only [varL, varV]
 rfl
theorem f9 (hlo : lo <= h.length) : E lo 9 [useT] h = some (.list .no (rowsC useL), h) := by
 refine (ev_prim (p := memo ofM) rfl).trans ?_
 rw [<- useV_eq]
 unfold ofM memo
 rw [if_pos (by kernel_rfl)]
theorem f10 (hlo : lo <= h.length) : E lo 10 [] h = some (.v (.bool true), h) := by
 refine (ev_prim (p := memo awkM) rfl).trans ?_
 unfold awkM memo
 rw [if_pos (by kernel_rfl)]
theorem f3 {l : List CV} (hlo : lo <= h.length) (hl : l.length <= 1000000000) (hs : okCL l) : E lo 3 [.list .no (rowsC l)] h = some (.v (.bool true), h) := by
 have c7 := fun lo hlo => f7 (lo := lo) (h := h) hlo hl hs
 have c8 := fun lo hlo => f8 (lo := lo) (h := h) hlo hl hs
 have c9 := fun lo hlo => f9 (lo := lo) (h := h) hlo
 have c10 := fun lo hlo => f10 (lo := lo) (h := h) hlo
 have c7u := fun lo hlo => f7 (lo := lo) (h := h) (l := useL) hlo (by simp [useL]) useL_ok
 rw [useL_var] at c7u
 unfold useT at c9
 have q : (varL l == varL l) = true := by simp
 rw [e3 (by simp) (by rfl)]
 simp only [go_sem, b3, Tryz.f3, hlo, c7, c8, c9, c10, c7u, q, Nat.le_refl]
 all_goals rfl
end Go.Lift.V1
end

section
namespace Go.Proofs
open Go.Shelf
def Tryz.lays157_ren : Go.Shelf.Ren := ⟨fun | 157 => 29 | 229 => 51 | 199 => 52 | 261 => 70 | 311 => 92 | 312 => 93 | n => n, fun | 9 => 9 | 31 => 26 | 3 => 3 | 5 => 5 | 4 => 4 | 119 => 98 | 0 => 0 | 40 => 100 | 152 => 118 | 21 => 21 | 154 => 120 | 51 => 121 | 141 => 123 | 196 => 143 | 193 => 140 | 198 => 146 | 49 => 144 | 194 => 141 | 201 => 149 | 226 => 166 | 46 => 162 | 227 => 167 | n => n, fun | 0 => 0 | 6 => 1 | n => n⟩
theorem Tryz.lays157 : Go.Proofs.Lays.n157 Tryz.prog Tryz.lays157_ren := {
 mixed := by kernel_rfl
 f157 := Tryz.func29.trans (congrArg some (by kernel_rfl))
 f199 := Tryz.func52.trans (congrArg some (by kernel_rfl))
 f229 := Tryz.func51.trans (congrArg some (by kernel_rfl))
 f261 := Tryz.func70.trans (congrArg some (by kernel_rfl))
 f311 := Tryz.func92.trans (congrArg some (by kernel_rfl))
 f312 := Tryz.func93.trans (congrArg some (by kernel_rfl))
 t0 := Tryz.underlying0
 a0 := Tryz.isAgg0
 z0 := Tryz.sizeOf0
 v0 := Tryz.zeroValue0
 t3 := Tryz.underlying3
 a3 := Tryz.isAgg3
 z3 := Tryz.sizeOf3
 v3 := Tryz.zeroValue3
 t4 := Tryz.underlying4
 a4 := Tryz.isAgg4
 z4 := Tryz.sizeOf4
 v4 := Tryz.zeroValue4
 t5 := Tryz.underlying5
 a5 := Tryz.isAgg5
 z5 := Tryz.sizeOf5
 v5 := Tryz.zeroValue5
 t9 := Tryz.underlying9
 a9 := Tryz.isAgg9
 z9 := Tryz.sizeOf9
 v9 := Tryz.zeroValue9
 t21 := Tryz.underlying21
 a21 := Tryz.isAgg21
 z21 := Tryz.sizeOf21
 v21 := Tryz.zeroValue21
 t31 := Tryz.underlying26
 a31 := Tryz.isAgg26
 z31 := Tryz.sizeOf26
 v31 := Tryz.zeroValue26
 t40 := Tryz.underlying100
 a40 := Tryz.isAgg100
 z40 := Tryz.sizeOf100
 v40 := Tryz.zeroValue100
 t46 := Tryz.underlying162
 a46 := Tryz.isAgg162
 z46 := Tryz.sizeOf162
 v46 := Tryz.zeroValue162
 t49 := Tryz.underlying144
 a49 := Tryz.isAgg144
 z49 := Tryz.sizeOf144
 v49 := Tryz.zeroValue144
 t51 := Tryz.underlying121
 a51 := Tryz.isAgg121
 z51 := Tryz.sizeOf121
 v51 := Tryz.zeroValue121
 t119 := Tryz.underlying98
 a119 := Tryz.isAgg98
 z119 := Tryz.sizeOf98
 t141 := Tryz.underlying123
 a141 := Tryz.isAgg123
 z141 := Tryz.sizeOf123
 v141 := Tryz.zeroValue123
 t152 := Tryz.underlying118
 a152 := Tryz.isAgg118
 z152 := Tryz.sizeOf118
 v152 := Tryz.zeroValue118
 t154 := Tryz.underlying120
 a154 := Tryz.isAgg120
 z154 := Tryz.sizeOf120
 v154 := Tryz.zeroValue120
 t193 := Tryz.underlying140
 a193 := Tryz.isAgg140
 z193 := Tryz.sizeOf140
 v193 := Tryz.zeroValue140
 t194 := Tryz.underlying141
 a194 := Tryz.isAgg141
 z194 := Tryz.sizeOf141
 v194 := Tryz.zeroValue141
 t196 := Tryz.underlying143
 a196 := Tryz.isAgg143
 z196 := Tryz.sizeOf143
 v196 := Tryz.zeroValue143
 t198 := Tryz.underlying146
 a198 := Tryz.isAgg146
 z198 := Tryz.sizeOf146
 v198 := Tryz.zeroValue146
 t201 := Tryz.underlying149
 a201 := Tryz.isAgg149
 z201 := Tryz.sizeOf149
 v201 := Tryz.zeroValue149
 t226 := Tryz.underlying166
 a226 := Tryz.isAgg166
 z226 := Tryz.sizeOf166
 v226 := Tryz.zeroValue166
 t227 := Tryz.underlying167
 a227 := Tryz.isAgg167
 z227 := Tryz.sizeOf167
 v227 := Tryz.zeroValue167
 g0 := by kernel_rfl
 g6 := by kernel_rfl }
end Go.Proofs
end

section
namespace Go.Lift.V1
open Go.Proofs Go.RowKit
theorem one_arg {m : List Nat} {c : Cl} {w : World} {a : Value} {xs : Array Value} (h : R2 (VRr m c w) [.v a] xs.toList) : xs = #[a] := by
 obtain ⟨l⟩ := xs
 match l, h.1 with
 | [x], _ =>
  have h0 : x = a := h.2 0 _ _ rfl rfl
  rw [h0]
theorem cell_of {c : Cl} {w : World} {n : Nat} {cs : List V} (hg : ROs c w ⟨n, 0, none⟩ cs) {j : Nat} {x : Value} (hj : cs[j]? = some (.v x)) : w.cell? ⟨n, j, none⟩ = some x := by
 obtain ⟨_, h⟩ := hg
 obtain ⟨y, hy, hv⟩ := h j _ hj
 rw [Nat.zero_add] at hy
 rw [hy, VP.v_eq hv]
theorem space {m : List Nat} {c : Cl} {w : World} {h : Heap} (hH : HOK m c w h) : ∀ j, j < 256 -> w.cell? ⟨0, j, none⟩ = some (.int .u8 (if Go.Lib.isSp (UInt8.ofNat j) then 1 else 0)) := fun j hj => by
 have e : GTab.tab 0 = some ((List.range 256).map fun c => V.v (.int .u8 (if Go.Lib.isSp (UInt8.ofNat c) then 1 else 0))) := rfl
 exact cell_of (hH.1.gt 0 _ e) (by simp [hj])
theorem fields_ok {lo : Nat} {s : ByteArray} {h : Heap} (hlo : lo <= h.length) (hs : s.size < 4294967281) (ha : (s.data.toList.all fun b => decide (b.toNat < 128)) = true) :
  CallOK Tryz.prog lo 29 [.v (.string s)] h (.list .no ((Go.Lib.fields s.data.toList).map fun l => [.v (.string ⟨l.toArray⟩)])) h := by
 have k := prim_fresh (P := Tryz.prog) (f := 29) (args := [.v (.string s)]) (xs := (Go.Lib.fields s.data.toList).map fun l => Value.string ⟨l.toArray⟩) hlo (enters_of Tryz.func29 (by kernel_rfl) rfl)
  (fun x hx => by obtain ⟨l, _, rfl⟩ := List.mem_map.1 hx; rfl) fun m c w ys hH hy => by
  rw [one_arg hy]
  refine (Any.strings_Fields_core (P := Tryz.prog) (ρ := Tryz.lays157_ren) Tryz.lays157 (by kernel_rfl) s w hs (fun j b hb => by simpa using List.all_eq_true.1 ha b (List.mem_of_getElem? hb)) (space hH)).mono fun e w' ⟨h1, h2⟩ => ?_
  subst h2
  have ka := MapKept.heap_alloc w (.cells ((Go.Lib.fields s.data.toList).map fun l => Value.string ⟨l.toArray⟩).toArray (Tryz.lays157_ren.t 9))
  refine ⟨w.heap.size, _, _, _, _, by rw [List.length_map]; exact h1, Nat.le_refl _, by rw [List.length_map]; exact Nat.le_refl _, ka.1, fun i x hx => by simpa using hx, rfl, rfl, rfl, ?_, fun k hk => ka.2 k hk⟩
  show _ <= (w.heap.push _).size
  simp
 rw [List.map_map] at k
 exact k
theorem prim_ok0 : ∀ f p, primz0 f = some p -> ∀ lo args h r h', lo <= h.length -> p lo args h = some (r, h') -> CallOK Tryz.prog lo f args h r h' := by
 intro f p hp lo args h r h' hlo he
 unfold primz0 at hp
 split at hp
 ·cases hp
  unfold fieldsP at he
  split at he
  ·split at he
   ·rename_i hc
    cases he
    exact fields_ok hlo hc.1 hc.2
   ·cases he
  ·cases he
 ·cases hp
theorem follows : Tryz.prog.follows .mixedOrders = true := by kernel_rfl
theorem known {prim : Nat -> Option (Nat -> List V -> Heap -> Option (V × Heap))} (hp : ∀ f p, prim f = some p -> ∀ lo args h r h', lo <= h.length -> p lo args h = some (r, h') -> CallOK Tryz.prog lo f args h r h') {n f : Nat} {args : List V} {r : V}
  (he : evFun Tryz.prog hints prim n 0 f args [] = some (r, [])) : CallOK Tryz.prog 0 f args [] r [] := fun_ok follows hp n 0 f args [] r [] (Nat.le_refl _) he
theorem awk_all : ∀ p ∈ awkM, CallOK Tryz.prog 0 10 p.1 [] p.2 [] := by
 unfold awkM
 simp only [List.mem_cons, List.not_mem_nil, or_false, forall_eq]
 exact known prim_ok0 awk0
theorem of_all : ∀ p ∈ ofM, CallOK Tryz.prog 0 9 p.1 [] p.2 [] := by
 unfold ofM
 simp only [List.mem_cons, List.not_mem_nil, or_false, forall_eq]
 exact known prim_ok0 of0
theorem prim_ok : ∀ f p, primz f = some p -> ∀ lo args h r h', lo <= h.length -> p lo args h = some (r, h') -> CallOK Tryz.prog lo f args h r h' := by
 intro f p hp lo args h r h' hlo he
 unfold primz at hp
 split at hp
 ·cases hp
  exact memo_ok of_all (by kernel_rfl) lo args h r h' hlo he
 ·cases hp
  exact memo_ok awk_all (by kernel_rfl) lo args h r h' hlo he
 ·cases hp
  exact prim_ok0 29 _ rfl lo args h r h' hlo he
 ·cases hp
end Go.Lift.V1
end

section
namespace Go.Proofs.YtnipmgpehgchnaaGreatDoor
open Go.Lift Go.Lift.V1 Go.ChangeShapes Go.WideShapes Go.ChangeAt Go.RowKit
theorem isBulk (H : Type) : IsBulk (H := H) Rows.uptoBulk Rows.uptoBulkAll :=
 ⟨rfl, fun _ _ => rfl, fun _ => rfl, fun _ => rfl, fun _ _ => rfl, rfl, fun e s => by show Rows.uptoBulkAll e + 1 ≤ Rows.uptoBulkAll e + Rows.uptoBulkAll s + 1; omega, fun _ => rfl⟩
theorem own : ownKnob Tryz.prog.godebug = none := by kernel_rfl
theorem laidOut : laidOutB Tryz.prog = true := by kernel_rfl
theorem ros_of {w : World} {g : Nat} {cs : List V} (h : ∀ (j : Nat) v, cs[j]? = some v → ∃ x, w.cell? ⟨g, j, none⟩ = some x ∧ VP (wholeCl w) w v x) : ROs (wholeCl w) w ⟨g, 0, none⟩ cs := by
 refine ⟨?_, fun j v hj => by simpa using h j v hj⟩
 cases cs with
 | nil => exact Nat.zero_le _
 | cons c t =>
  have hl : (c :: t)[t.length]? = some ((c :: t)[t.length]'(by simp)) := List.getElem?_eq_getElem (by simp)
  obtain ⟨x, hx, _⟩ := h t.length _ hl
  unfold World.cell? at hx
  unfold wholeCl
  simp only at hx ⊢
  split at hx
  ·rename_i arr e f he
   rw [he]
   simp only [List.length_cons]
   have := (Array.getElem?_eq_some_iff.1 hx).1
   omega
  ·cases hx
theorem kinds_data : (Rows.laid_jalousie_jalousieref3_kinds : DataW Unit) = Lib.tabData .i64 [21, 22, 19, 20, 23, 24, 18, 16, 17] := rfl
theorem space_data : (Rows.laid_strings_asciiSpace : DataW Unit) = Lib.tabData .u8 Lib.asciiSpaceTab := by kernel_rfl
theorem tab_cells {w : World} {name : String} {k : IntKind} {zs : List Int} {g : Nat} {t e : TypeId} {n : Nat} (hn : Tryz.prog.globalNamed name = some g) (hy : (Tryz.prog.globals[g]?).map (·.type) = some t)
  (ht : Tryz.prog.underlying t = some (.array n e)) (he : Tryz.prog.underlying e = some (.int k)) (hce : Tryz.prog.cellsOf e = 1) (hct : Tryz.prog.cellsOf t = n) (h : Lib.VarReads Tryz.prog w name (Lib.tabData k zs)) :
  ∀ (j : Nat) (z : Int), zs[j]? = some z → w.cell? ⟨g, j, none⟩ = some (.int k z) := fun j z hz => by
 obtain ⟨g', t', cs, fuel, p, h1, h2, h3, h4⟩ := h
 obtain rfl := Option.some.inj (hn.symm.trans h1)
 obtain rfl := Option.some.inj (hy.symm.trans h2)
 have hcs := Lib.cells_of_tab ht he hce hct h4
 have := World.var?_cell hn h3 j
 rw [this, ← Array.getElem?_toList, hcs]
 simp [hz]
theorem gok {W : World} (hk : Lib.VarReads Tryz.prog W "jalousie/jalousieref3.kinds" Rows.laid_jalousie_jalousieref3_kinds) (hs : Lib.VarReads Tryz.prog W "strings.asciiSpace" Rows.laid_strings_asciiSpace) : GOK W := by
 rw [kinds_data] at hk
 rw [space_data] at hs
 intro n cs hc
 have e : GTab.tab n = gtab.1 n := rfl
 rw [e] at hc
 unfold gtab at hc
 simp only at hc
 split at hc
 ·have c0 := tab_cells (g := 0) (t := 98) (e := 5) (n := 256) (by kernel_rfl) (by kernel_rfl) (by kernel_rfl) (by kernel_rfl) (by kernel_rfl) (by kernel_rfl) hs
  cases hc
  refine ros_of fun j v hj => ?_
  simp only [List.getElem?_map, Option.map_eq_some_iff] at hj
  obtain ⟨k, hk2, rfl⟩ := hj
  obtain ⟨hj1, rfl⟩ := List.getElem?_eq_some_iff.1 hk2
  simp only [List.length_range] at hj1
  rw [List.getElem_range]
  exact ⟨_, c0 j _ (by unfold Lib.asciiSpaceTab; rw [List.getElem?_map, List.getElem?_range hj1]; rfl), .v _ rfl⟩
 ·have c0 := tab_cells (g := 2) (t := 127) (e := 3) (n := 9) (by kernel_rfl) (by kernel_rfl) (by kernel_rfl) (by kernel_rfl) (by kernel_rfl) (by kernel_rfl) hk
  cases hc
  refine ros_of fun j v hj => ?_
  have hj2 : (([21, 22, 19, 20, 23, 24, 18, 16, 17] : List Int).map fun z => V.v (.int .i64 z))[j]? = some v := hj
  simp only [List.getElem?_map, Option.map_eq_some_iff] at hj2
  obtain ⟨k, hk2, rfl⟩ := hj2
  exact ⟨_, c0 j k hk2, .v _ rfl⟩
 ·cases hc
noncomputable def laidWorld (os : Os) : World :=
 let N := (World.settled Tryz.prog os).heap.size
 let w0 := World.holding Tryz.prog os ⟨#[.cells ([9, 13, 1, 32, 133, 101, 160, 5760, 5600, 8192, 8202, 1, 8232, 8233, 1, 8239, 8287, 48, 12288, 12288, 1].map fun z => Value.int .u16 z).toArray 146, .cells #[.slice (some ⟨N, 0, none⟩) 7 7, .slice none 0 0, .int .i64 2] 143], #[], []⟩
 let put (h : Array Obj) (g : Nat) (cs : Array Value) : Array Obj := h.modify g fun
  | .cells _ t frozen => .cells cs t frozen
  | o => o
 let h1 := put w0.heap 0 (Lib.asciiSpaceTab.map fun z => Value.int .u8 z).toArray
 let h2 := put h1 2 ([21, 22, 19, 20, 23, 24, 18, 16, 17].map fun z => Value.int .i64 z).toArray
 let h3 := put h2 1 #[.pointer (some ⟨N + 1, 0, none⟩)]
 { w0 with heap := h3 }
theorem laid3 (os : Os) (args : Array Value) : LaidIn Tryz.prog ((laidWorld os).forCall (fun _ _ => 0) ⟨#[], args, []⟩).memory [("jalousie/jalousieref3.kinds", Rows.laid_jalousie_jalousieref3_kinds), ("unicode.White_Space", Rows.laid_unicode_White_Space), ("strings.asciiSpace", Rows.laid_strings_asciiSpace)] (List.range 200) :=
 LaidIn.of_run (List.range 200) 8 (by kernel_rfl) (by kernel_rfl) (by kernel_rfl) (by kernel_rfl)
theorem ty_int {t : TypeId} {k : IntKind} {p : List V} (ht : Tryz.prog.underlying t = some (.int k)) (h : Ty Tryz.prog t p) : ∃ n, p = [.v (.int k n)] ∧ (Lit.int k n).wf = true := by
 cases h with
 | int k' n hu hw => rw [ht] at hu; cases hu; exact ⟨n, rfl, hw⟩
 | bool b hu => rw [ht] at hu; cases hu
 | string s hu => rw [ht] at hu; cases hu
 | slice rows hu _ => rw [ht] at hu; cases hu
 | struct fs cells hu _ => rw [ht] at hu; cases hu
theorem ty_bool {t : TypeId} {p : List V} (ht : Tryz.prog.underlying t = some .bool) (h : Ty Tryz.prog t p) : ∃ b, p = [.v (.bool b)] := by
 cases h with
 | int k' n hu hw => rw [ht] at hu; cases hu
 | bool b hu => exact ⟨b, rfl⟩
 | string s hu => rw [ht] at hu; cases hu
 | slice rows hu _ => rw [ht] at hu; cases hu
 | struct fs cells hu _ => rw [ht] at hu; cases hu
theorem ty_str {t : TypeId} {p : List V} (ht : Tryz.prog.underlying t = some .string) (h : Ty Tryz.prog t p) : ∃ s, p = [.v (.string s)] := by
 cases h with
 | int k' n hu hw => rw [ht] at hu; cases hu
 | bool b hu => rw [ht] at hu; cases hu
 | string s hu => exact ⟨s, rfl⟩
 | slice rows hu _ => rw [ht] at hu; cases hu
 | struct fs cells hu _ => rw [ht] at hu; cases hu
theorem ty_fields {t : TypeId} {fs : Array Field} {p : List V} (ht : Tryz.prog.underlying t = some (.struct fs)) (h : Ty Tryz.prog t p) : TyFs Tryz.prog fs.toList p := by
 cases h with
 | int k' n hu hw => rw [ht] at hu; cases hu
 | bool b hu => rw [ht] at hu; cases hu
 | string s hu => rw [ht] at hu; cases hu
 | slice rows hu _ => rw [ht] at hu; cases hu
 | struct fs' cells hu hf => rw [ht] at hu; cases hu; exact hf
theorem fs_cons {f : Field} {fs : List Field} {p : List V} (h : TyFs Tryz.prog (f :: fs) p) : ∃ a b, p = a ++ b ∧ Ty Tryz.prog f.type a ∧ TyFs Tryz.prog fs b := by
 cases h with
 | cons h1 h2 => exact ⟨_, _, rfl, h1, h2⟩
theorem fs_nil {p : List V} (h : TyFs Tryz.prog [] p) : p = [] := by
 cases h; rfl
theorem wf_i64 {n : Int} (h : (Lit.int .i64 n).wf = true) : -9223552036854775808 ≤ n ∧ n ≤ 9223552036854775807 := by
 simp [Lit.wf, IntKind.min, IntKind.max, IntKind.signed, IntKind.bits] at h
 omega
theorem any_bs (s : ByteArray) : ∃ l : List Int, Utf.By l ∧ s = Rul.bs l ∧ l.length = s.size := by
 refine ⟨s.data.toList.map fun c => (c.toNat : Int), ?_, ?_, ?_⟩
 ·intro c hc
  obtain ⟨x, _, rfl⟩ := List.mem_map.1 hc
  have := x.toNat_lt
  omega
 ·apply ByteArray.ext
  unfold Rul.bs u8s
  simp only [List.map_map]
  apply Array.toList_inj.1
  conv => lhs; rw [← List.map_id s.data.toList]
  apply List.map_congr_left
  intro c _
  simp
 ·rw [List.length_map, Array.length_toList]; rfl
theorem tyTk {p : List V} (hc : Ty Tryz.prog 55 p) : ∃ t : Rul.Tk4, p = Rul.row t ∧ Utf.By t.b ∧ (-9223552036854775808 ≤ t.n ∧ t.n ≤ 9223552036854775807) ∧ (-9223552036854775808 ≤ t.d ∧ t.d ≤ 9223552036854775807) ∧ vsRow p = t.b.length + 6 := by
 have h1 := ty_fields Tryz.underlying55 hc
 obtain ⟨p1, q1, rfl, t1, h1⟩ := fs_cons h1
 obtain ⟨p2, q2, rfl, t2, h1⟩ := fs_cons h1
 obtain ⟨p3, q3, rfl, t3, h1⟩ := fs_cons h1
 obtain ⟨p4, q4, rfl, t4, h1⟩ := fs_cons h1
 obtain ⟨p5, q5, rfl, t5, h1⟩ := fs_cons h1
 obtain rfl := fs_nil h1
 obtain ⟨k, rfl, _⟩ := ty_int Tryz.underlying3 t1
 obtain ⟨s, rfl⟩ := ty_str Tryz.underlying9 t2
 have h2 := ty_fields Tryz.underlying28 t3
 obtain ⟨p6, q6, rfl, t6, h2⟩ := fs_cons h2
 obtain ⟨p7, q7, rfl, t7, h2⟩ := fs_cons h2
 obtain rfl := fs_nil h2
 obtain ⟨n, rfl, hn⟩ := ty_int Tryz.underlying2 t6
 obtain ⟨d, rfl, hd⟩ := ty_int Tryz.underlying2 t7
 obtain ⟨w, rfl⟩ := ty_bool Tryz.underlying4 t4
 obtain ⟨i, rfl⟩ := ty_bool Tryz.underlying4 t5
 obtain ⟨b, hb, rfl, hl⟩ := any_bs s
 refine ⟨⟨k, b, n, d, w, i⟩, rfl, hb, wf_i64 hn, wf_i64 hd, ?_⟩
 simp [vsRow, vsize]
 omega
theorem ty_slice {t e : TypeId} {p : List V} (ht : Tryz.prog.underlying t = some (.slice e)) (h : Ty Tryz.prog t p) : ∃ rows, p = [.list .no rows] ∧ ∀ row ∈ rows, Ty Tryz.prog e row := by
 cases h with
 | int k' n hu hw => rw [ht] at hu; cases hu
 | bool b hu => rw [ht] at hu; cases hu
 | string s hu => rw [ht] at hu; cases hu
 | slice rows hu hr => rw [ht] at hu; cases hu; exact ⟨rows, rfl, hr⟩
 | struct fs cells hu _ => rw [ht] at hu; cases hu
theorem tv {t e : TypeId} {v : V} (ht : Tryz.prog.underlying t = some (.slice e)) (h : TyV Tryz.prog t v) : Ty Tryz.prog t [v] := by
 unfold TyV at h
 rw [ht] at h
 exact h
theorem tyVal {p : List V} (hc : Ty Tryz.prog 57 p) : ∃ (t : Rul.Tk4) (rows : List (List V)), p = Rul.row t ++ [.list .no rows] ∧ (∀ row ∈ rows, Ty Tryz.prog 57 row) ∧ Utf.By t.b ∧ vsRow p = t.b.length + 7 + vsRows rows := by
 have h1 := ty_fields Tryz.underlying57 hc
 obtain ⟨p1, q1, rfl, t1, h1⟩ := fs_cons h1
 obtain ⟨p2, q2, rfl, t2, h1⟩ := fs_cons h1
 obtain rfl := fs_nil h1
 obtain ⟨t, rfl, a, b, c, e⟩ := tyTk t1
 obtain ⟨rows, rfl, hr⟩ := ty_slice Tryz.underlying22 t2
 refine ⟨t, rows, rfl, hr, a, ?_⟩
 rw [vsRow_append, e, List.append_nil]
 simp [vsRow, vsize]
 omega
theorem tyVals : ∀ (n : Nat) (rows : List (List V)), vsRows rows ≤ n → n ≤ 1048576 → (∀ row ∈ rows, Ty Tryz.prog 57 row) →
  ∃ l : List Rul.CV, rows = Rul.rowsC l ∧ Rul.okCL l ∧ l.length ≤ vsRows rows := by
 intro n
 induction n with
 | zero =>
  intro rows hs hn h
  cases rows with
  | nil => exact ⟨[], by rw [Rul.rowsC_nil], by rw [Rul.okCL]; trivial, by simp⟩
  | cons r rs =>
   obtain ⟨t, ks, rfl, _, _, e⟩ := tyVal (h r (List.mem_cons_self ..))
   simp only [vsRows] at hs
   omega
 | succ n ih =>
  intro rows hs hn h
  cases rows with
  | nil => exact ⟨[], by rw [Rul.rowsC_nil], by rw [Rul.okCL]; trivial, by simp⟩
  | cons r rs =>
   obtain ⟨t, ks, rfl, hk, a, e⟩ := tyVal (h r (List.mem_cons_self ..))
   simp only [vsRows, e] at hs ⊢
   obtain ⟨kl, rfl, k1, k2⟩ := ih ks (by omega) (by omega) hk
   obtain ⟨l, rfl, l1, l2⟩ := ih rs (by omega) (by omega) fun row hm => h row (List.mem_cons_of_mem _ hm)
   refine ⟨.mk t kl :: l, ?_, ?_, ?_⟩
   ·rw [Rul.rowsC_cons, Rul.rowV]
   ·rw [Rul.okCL, Rul.okCV]
    exact ⟨⟨⟨a, by omega, by omega⟩, k1⟩, l1⟩
   ·rw [List.length_cons]
    omega
theorem ty22 {v : V} {n : Nat} (h : TyV Tryz.prog 22 v) (hs : asize v ≤ n) (hn : n ≤ 1048576) : ∃ l : List Rul.CV, v = .list .no (Rul.rowsC l) ∧ Rul.okCL l ∧ l.length ≤ n := by
 obtain ⟨rows, hp, hr⟩ := ty_slice Tryz.underlying22 (tv Tryz.underlying22 h)
 obtain rfl : v = .list .no rows := by simpa using hp
 have hv : vsRows rows ≤ n := by simp only [asize, vsize] at hs; omega
 obtain ⟨l, rfl, a, b⟩ := tyVals n rows hv hn hr
 exact ⟨l, rfl, a, by omega⟩
end Go.Proofs.YtnipmgpehgchnaaGreatDoor
end

section
namespace Go.Proofs.YtnipmgpehgchnaaGreatDoor
theorem and_tt {a b : Bool} (ha : a = true) (hb : b = true) : (a && b) = true := by rw [ha, hb]; rfl
theorem fact2 : laidOutB Tryz.prog = true := by kernel_rfl
theorem fact3 : mapsRowed Tryz.prog = true := by kernel_rfl
theorem fact7 : (Tryz.prog.stops == []) = true := by kernel_rfl
theorem fact9 : (Tryz.prog.stopKnobs == []) = true := by kernel_rfl
theorem fact23 : (Rows.propVarsUptoRow.plainKeys == Tryz.prog.plainKeys) = true := by kernel_rfl
theorem fact25 : Tryz.prog.stopsHeard = true := by kernel_rfl
theorem fact26 : Tryz.prog.mayEnter = true := by kernel_rfl
theorem fact27 : (Rows.propVarsUptoRow.lifted == Tryz.prog.liftsFinal) = true := by kernel_rfl
theorem fact28 : (Tryz.prog.make == some Rows.propVarsUptoRow.make) = true := by kernel_rfl
end Go.Proofs.YtnipmgpehgchnaaGreatDoor
end
