/- Which simple selectors may be: jalousieref9.fits, in pieces. -/
import Derived.ProofKit
import Derived.Test.YtkbhmelfbekieaaDoorProg
import Derived.Shelf.LaysM
import Derived.Shelf.Strings.Search2
import Derived.WalkKit
import Derived.Lib.Bytealg
import Derived.Lib.AppendIntMem
import Derived.Lib.LaidTab
import Derived.Lib.LaidU8
import Derived.Lib.LaidIn
import Derived.Deep.DeepHandedRow
import Derived.Deep.DeepWitnessRowRef
import Derived.Test.YtkbhmelfbekieaaDoorRows
import Derived.JoinedOf
import Derived.Test.YtkbhmelfbekieaaDoorGK9Basea
import Derived.Test.YtkbhmelfbekieaaDoorGKb
set_option linter.unusedVariables false
set_option linter.unusedSimpArgs false
set_option linter.unusedSectionVars false
set_option maxRecDepth 100000
set_option maxHeartbeats 4000000
section
open Go.Proofs
namespace Go.Lift.S9
variable [MX]
variable {lo : Nat} {h : Heap}
open Utf Spell Sel
noncomputable abbrev X23 (lo : Nat) (h : Heap) : Go.Lift.Cx := ⟨Tryd.prog, E, lo, h.length, h23⟩
abbrev cm23 (k o a b : Int) (n v : List Int) (f : Bool) (l : List (List V)) : Ob :=
 .cells [.v (.int .i64 k), .v (.string (bs n)), .v (.int .i64 o), .v (.string (bs v)), .v (.bool f), .list .no l, .v (.int .i64 a), .v (.int .i64 b)]
variable {k d o a b : Int} {n v : List Int} {f : Bool} {l : List (List V)}
abbrev EA23 (h : Heap) (k d : Int) : Env :=
 [(1, .v (.int .i64 d)), (2, .ptr h.length 0), (5, .v (.bool (decide (2 <= k) && decide (k <= 5)))), (6, .v (.bool (decide (6 <= k) && decide (k <= 8)))), (7, .v (.bool (k == 14 || k == 15))), (41, .v (.bool (d == 1 && (k == 14 || k == 15 || k == 5))))]
theorem f23a (hlo : lo <= h.length) :
  evL (X23 lo h) loopW (pc b23 0 5) (args0 [.agg [.v (.int .i64 k), .v (.string (bs n)), .v (.int .i64 o), .v (.string (bs v)), .v (.bool f), .list .no l, .v (.int .i64 a), .v (.int .i64 b)], .v (.int .i64 d)], h) =
   some (.normal, EA23 h k d, h ++ [cm23 k o a b n v f l]) := by
 have l1 : lo <= h.length + 1 := by omega
 simp only [go_sem, b23, Tryd.f23, hlo, l1]
theorem f23b {b5 b6 b7 b41 : Bool} {H : Heap} :
  evL (X23 lo h) loopW (pc b23 5 1) ([(1, .v (.int .i64 d)), (2, .ptr h.length 0), (5, .v (.bool b5)), (6, .v (.bool b6)), (7, .v (.bool b7)), (41, .v (.bool b41))], H) =
   if b41 = true then some (.ret, [(4, .v (.bool false))], H) else some (.normal, [(1, .v (.int .i64 d)), (2, .ptr h.length 0), (5, .v (.bool b5)), (6, .v (.bool b6)), (7, .v (.bool b7)), (41, .v (.bool b41))], H) := by
 cases b41
 all_goals simp only [go_sem, b23, Tryd.f23, Bool.false_eq_true, reduceIte]
theorem f23c (hy : By n) (hn : n.length <= 1000000000) (hlo : lo <= h.length) {b5 b6 b7 b41 m : Bool} (hx : b5 = true -> b6 = false) (hd : 1 <= d /\ d <= 100)
  (c15 : ∀ lo h, lo <= h.length -> E lo 15 [.list .no l, .v (.int .i64 (d - 1))] h = some (.v (.bool m), h)) :
  evL (X23 lo h) loopW (pc b23 6 2) ([(1, .v (.int .i64 d)), (2, .ptr h.length 0), (5, .v (.bool b5)), (6, .v (.bool b6)), (7, .v (.bool b7)), (41, .v (.bool b41))], h ++ [cm23 k o a b n v f l]) =
   if (decide (k < 1) || decide (15 < k) || b5 && (n.isEmpty || !sound n) || !b5 && !n.isEmpty || !b6 && !l.isEmpty || b6 && !m) = true then some (.ret, [(4, .v (.bool false))], h ++ [cm23 k o a b n v f l])
   else some (.normal, [(2, .ptr h.length 0), (7, .v (.bool b7)), (93, .v (.bool false))], h ++ [cm23 k o a b n v f l]) := by
 have l1 : lo <= h.length + 1 := by omega
 have c35 := fun (lo : Nat) (h : Heap) => f35 (lo := lo) (h := h) hy hn
 have qn : ((bs n).toList == (⟨#[]⟩ : ByteArray).toList) = n.isEmpty := (bs_nil_eq' n).trans (by cases n <;> simp)
 have gt : decide ((0 : Int) < (l.length : Int)) = !l.isEmpty := by cases l <;> simp
 have hw : IntKind.i64.wrap (d - 1) = d - 1 := wrap_i64 (by omega) (by omega)
 cases h1 : decide (k < 1) with
 | true =>
  simp only [Bool.true_or]
  rw [if_pos (by simp)]
  simp only [go_sem, b23, Tryd.f23, hlo, l1, h1]
 | false =>
 rw [Bool.false_or]
 cases h2 : decide (15 < k) with
 | true =>
  simp only [Bool.true_or]
  rw [if_pos (by simp)]
  simp only [go_sem, b23, Tryd.f23, hlo, l1, h1, h2]
 | false =>
 rw [Bool.false_or]
 cases b5 with
 | true =>
  obtain rfl := hx rfl
  simp only [Bool.true_and, Bool.not_true, Bool.not_false, Bool.false_and, Bool.or_false]
  cases h3 : n.isEmpty with
  | true =>
   rw [h3] at qn
   simp only [Bool.true_or]
   rw [if_pos (by simp)]
   simp only [go_sem, b23, Tryd.f23, hlo, l1, h1, h2, qn]
  | false =>
  rw [h3] at qn
  cases h4 : sound n with
  | false =>
   simp only [Bool.not_false, Bool.or_true, Bool.true_or]
   rw [if_pos (by simp)]
   simp only [go_sem, b23, Tryd.f23, hlo, l1, h1, h2, qn, c35, h4]
  | true =>
  simp only [Bool.not_true, Bool.false_or]
  cases h5 : l.isEmpty with
  | true =>
   rw [h5] at gt
   rw [if_neg (by simp)]
   simp only [go_sem, b23, Tryd.f23, hlo, l1, h1, h2, qn, c35, h4, gt, Bool.not_true]
  | false =>
   rw [h5] at gt
   rw [if_pos (by simp)]
   simp only [go_sem, b23, Tryd.f23, hlo, l1, h1, h2, qn, c35, h4, gt, Bool.not_false]
 | false =>
  simp only [Bool.false_and, Bool.not_false, Bool.true_and, Bool.false_or]
  cases h3 : n.isEmpty with
  | false =>
   rw [h3] at qn
   simp only [Bool.not_false, Bool.true_or]
   rw [if_pos (by simp)]
   simp only [go_sem, b23, Tryd.f23, hlo, l1, h1, h2, qn]
  | true =>
  rw [h3] at qn
  simp only [Bool.not_true, Bool.false_or]
  cases b6 with
  | false =>
   cases h5 : l.isEmpty with
   | true =>
    rw [h5] at gt
    rw [if_neg (by simp)]
    simp only [go_sem, b23, Tryd.f23, hlo, l1, h1, h2, qn, gt, Bool.not_true]
   | false =>
    rw [h5] at gt
    rw [if_pos (by simp)]
    simp only [go_sem, b23, Tryd.f23, hlo, l1, h1, h2, qn, gt, Bool.not_false]
  | true =>
   cases m with
   | true =>
    rw [if_neg (by simp)]
    simp only [go_sem, b23, Tryd.f23, hlo, l1, h1, h2, qn, gt, Bool.not_true, hw, c15]
   | false =>
    rw [if_pos (by simp)]
    simp only [go_sem, b23, Tryd.f23, hlo, l1, h1, h2, qn, gt, Bool.not_false, hw, c15]
theorem f23n (hlo : lo <= h.length) {b7 x : Bool} (h5 : (k == 5) = false) :
  evL (X23 lo h) loopW (pc b23 8 2) ([(2, .ptr h.length 0), (7, .v (.bool b7)), (93, .v (.bool x))], h ++ [cm23 k o a b n v f l]) =
   if (!(o != 0 || !v.isEmpty || f)) = true then some (.normal, [(2, .ptr h.length 0), (7, .v (.bool b7)), (136, .v (.bool false))], h ++ [cm23 k o a b n v f l])
   else some (.ret, [(4, .v (.bool false))], h ++ [cm23 k o a b n v f l]) := by
 have l1 : lo <= h.length + 1 := by omega
 have qv : ((bs v).toList == (⟨#[]⟩ : ByteArray).toList) = v.isEmpty := (bs_nil_eq' v).trans (by cases v <;> simp)
 cases hz : (o != 0 || !v.isEmpty || f) with
 | true =>
  rw [if_neg (by simp)]
  simp only [go_sem, b23, Tryd.f23, hlo, l1, h5, qv, hz]
 | false =>
  rw [if_pos (by simp)]
  simp only [go_sem, b23, Tryd.f23, hlo, l1, h5, qv, hz]
theorem f23d (hy : By v) (hv : v.length <= 1000000000) (hlo : lo <= h.length) {b7 x : Bool} (h5 : (k == 5) = true) :
  evL (X23 lo h) loopW (pc b23 8 2) ([(2, .ptr h.length 0), (7, .v (.bool b7)), (93, .v (.bool x))], h ++ [cm23 k o a b n v f l]) =
   if (!(decide (o < 0) || decide (6 < o) || !sound v || o == 0 && (!v.isEmpty || f))) = true then some (.normal, [(2, .ptr h.length 0), (7, .v (.bool b7)), (124, .v (.bool false))], h ++ [cm23 k o a b n v f l])
   else some (.ret, [(4, .v (.bool false))], h ++ [cm23 k o a b n v f l]) := by
 have l1 : lo <= h.length + 1 := by omega
 have c35 := fun (lo : Nat) (h : Heap) => f35 (lo := lo) (h := h) hy hv
 have qv : ((bs v).toList == (⟨#[]⟩ : ByteArray).toList) = v.isEmpty := (bs_nil_eq' v).trans (by cases v <;> simp)
 cases h1 : decide (o < 0) with
 | true =>
  simp only [Bool.true_or, Bool.not_true]
  rw [if_neg (by simp)]
  simp only [go_sem, b23, Tryd.f23, hlo, l1, h5, h1]
 | false =>
 rw [Bool.false_or]
 cases h2 : decide (6 < o) with
 | true =>
  simp only [Bool.true_or, Bool.not_true]
  rw [if_neg (by simp)]
  simp only [go_sem, b23, Tryd.f23, hlo, l1, h5, h1, h2]
 | false =>
 rw [Bool.false_or]
 cases h3 : sound v with
 | false =>
  simp only [Bool.not_false, Bool.true_or, Bool.not_true]
  rw [if_neg (by simp)]
  simp only [go_sem, b23, Tryd.f23, hlo, l1, h5, h1, h2, c35, h3]
 | true =>
 rw [Bool.not_true, Bool.false_or]
 cases h4 : o == 0 with
 | false =>
  rw [if_pos (by simp)]
  simp only [go_sem, b23, Tryd.f23, hlo, l1, h5, h1, h2, c35, h3, h4, qv]
 | true =>
 rw [Bool.true_and]
 cases h6 : v.isEmpty with
 | false =>
  rw [h6] at qv
  rw [if_neg (by simp)]
  simp only [go_sem, b23, Tryd.f23, hlo, l1, h5, h1, h2, c35, h3, h4, qv, Bool.not_false]
 | true =>
  rw [h6] at qv
  cases f
  ·rw [if_pos (by simp)]
   simp only [go_sem, b23, Tryd.f23, hlo, l1, h5, h1, h2, c35, h3, h4, qv, Bool.not_true]
  ·rw [if_neg (by simp)]
   simp only [go_sem, b23, Tryd.f23, hlo, l1, h5, h1, h2, c35, h3, h4, qv, Bool.not_true]
theorem f23e (hlo : lo <= h.length) {b7 y : Bool} {w : Nat} (hw : w = 124 \/ w = 136) :
  evL (X23 lo h) loopW (pc b23 10 4) ([(2, .ptr h.length 0), (7, .v (.bool b7)), (w, .v (.bool y))], h ++ [cm23 k o a b n v f l]) =
   some (.ret, [(4, .v (.bool (if !b7 then a == 0 && b == 0 else Sel.isStep a && Sel.isStep b)))], h ++ [cm23 k o a b n v f l]) := by
 have l1 : lo <= h.length + 1 := by omega
 rcases hw with rfl | rfl
 all_goals
  cases b7 with
  | false => simp only [go_sem, b23, Tryd.f23, hlo, l1]
  | true =>
   rw [if_neg (by simp), Sel.isStep, Sel.isStep, <- Bool.and_assoc]
   simp only [go_sem, b23, Tryd.f23, hlo, l1]
end Go.Lift.S9
end

section
open Go.Proofs
namespace Go.Lift.S9
variable [MX]
variable {lo : Nat} {h : Heap}
open Utf Spell Sel
theorem f23 {k o a b : Int} {n v : List Int} {f : Bool} {l : List Sel.Cx} {d : Nat}
  (hw : By n /\ n.length <= 1000000000 /\ By v /\ v.length <= 1000000000 /\ l.length <= 1000000000) (hd : 1 <= d /\ d <= 65)
  (c15 : ∀ lo h, lo <= h.length -> E lo 15 [.list .no (cxsC l), .v (.int .i64 ((d - 1 : Nat) : Int))] h = some (.v (.bool (Sel.mayR sound (d - 1) l)), h)) (hlo : lo <= h.length) :
  E lo 23 [.agg (smV (.mk k n o v f l a b)), .v (.int .i64 d)] h = some (.v (.bool (fitsR sound d (.mk k n o v f l a b))), h) := by
 obtain ⟨yn, ln, yv, lv, ll⟩ := hw
 have ce : (cxsC l).isEmpty = l.isEmpty := by cases l with | nil => rw [cxsC]; rfl | cons x r => rw [cxsC]; rfl
 have sv : smV (.mk k n o v f l a b) = [.v (.int .i64 k), .v (.string (bs n)), .v (.int .i64 o), .v (.string (bs v)), .v (.bool f), .list .no (cxsC l), .v (.int .i64 a), .v (.int .i64 b)] := by rw [smV]; rfl
 have hd1 : ((d - 1 : Nat) : Int) = (d : Int) - 1 := by omega
 rw [hd1] at c15
 have dk : ((d : Int) == 1) = (d == 1) := by rw [Bool.eq_iff_iff]; simp; omega
 have hx : (decide (2 <= k) && decide (k <= 5)) = true -> (decide (6 <= k) && decide (k <= 8)) = false := by
  intro h
  simp only [Bool.and_eq_true, decide_eq_true_eq] at h
  rw [Bool.and_eq_false_iff]
  left
  simp only [decide_eq_false_iff_not]
  omega
 have gC := f23c (lo := lo) (h := h) (k := k) (d := d) (o := o) (a := a) (b := b) (v := v) (f := f) (l := cxsC l) yn ln hlo (b7 := k == 14 || k == 15) (b41 := (d : Int) == 1 && (k == 14 || k == 15 || k == 5)) hx (by omega) c15
 rw [ce] at gC
 have gM : Sel.mayR sound (d - 1) l = (!l.isEmpty && !(d - 1 == 0) && Sel.cxsR sound (d - 1) l) := by rw [Sel.mayR]
 rw [gM] at gC
 rw [sv, fitsR, e23 (by simp) (by rfl)]
 show fin Tryd.prog [.tmp 4] h.length (evCode (X23 lo h) loopW b23 _) = _
 rw [pc_in, pc_go _ _ _ _ 0 5, f23a hlo, pc_go _ _ _ _ _ 1, f23b]
 rw [dk] at gC ⊢
 cases h1 : (d == 1 && (k == 14 || k == 15 || k == 5)) with
 | true =>
  rw [if_pos rfl, pc_r]
  simp only [go_sem, hlo, Bool.not_true, Bool.false_and]
 | false =>
 rw [h1] at gC
 rw [if_neg (by simp), pc_go _ _ _ _ _ 2, gC, Bool.not_false, Bool.true_and]
 cases h2 : (decide (k < 1) || decide (15 < k) || (decide (2 <= k) && decide (k <= 5)) && (n.isEmpty || !sound n) || !(decide (2 <= k) && decide (k <= 5)) && !n.isEmpty || !(decide (6 <= k) && decide (k <= 8)) && !l.isEmpty ||
   (decide (6 <= k) && decide (k <= 8)) && !(!l.isEmpty && !(d - 1 == 0) && Sel.cxsR sound (d - 1) l)) with
 | true =>
  rw [if_pos rfl, pc_r]
  simp only [go_sem, hlo, Bool.not_true, Bool.false_and]
 | false =>
 rw [if_neg (by simp), pc_go _ _ _ _ _ 2, Bool.not_false, Bool.true_and]
 cases h5 : k == 5 with
 | true =>
  rw [f23d yv lv hlo h5]
  have i1 : ∀ x y : Bool, (if true = true then x else y) = x := fun _ _ => rfl
  rw [i1]
  cases h3 : !(decide (o < 0) || decide (6 < o) || !sound v || o == 0 && (!v.isEmpty || f)) with
  | false =>
   rw [if_neg (by simp), pc_r, Bool.false_and]
   simp only [go_sem, hlo]
  | true =>
   rw [if_pos rfl, pc_go _ _ _ _ _ 4, f23e hlo (.inl rfl), pc_r, Bool.true_and]
   simp only [go_sem, hlo]
   all_goals rfl
 | false =>
  rw [f23n hlo h5]
  have i1 : ∀ x y : Bool, (if false = true then x else y) = y := fun _ _ => rfl
  rw [i1]
  cases h3 : !(o != 0 || !v.isEmpty || f) with
  | false =>
   rw [if_neg (by simp), pc_r, Bool.false_and]
   simp only [go_sem, hlo]
  | true =>
   rw [if_pos rfl, pc_go _ _ _ _ _ 4, f23e hlo (.inr rfl), pc_r, Bool.true_and]
   simp only [go_sem, hlo]
   all_goals rfl
end Go.Lift.S9
end

section
open Go.Proofs
namespace Go.Lift.S9
variable [MX]
variable {lo : Nat} {h : Heap}
open Utf Spell Sel
def C23 (d : Nat) (s : Sm) : Prop := ∀ lo h, lo <= h.length -> E lo 23 [.agg (smV s), .v (.int .i64 d)] h = some (.v (.bool (fitsR sound d s)), h)
abbrev NS15 (d : Nat) (X : List (List V)) (lx i : Int) (Y : List (List V)) (ly j : Int) (ss : List Sm) (k : Int) : Env :=
 [(1, .v (.int .i64 d)), (18, .list .no X), (19, .v (.int .i64 lx)), (20, .v (.int .i64 i)), (29, .list .no Y), (30, .v (.int .i64 ly)), (31, .v (.int .i64 j)), (64, .list .no (smsC ss)), (65, .v (.int .i64 ss.length)), (66, .v (.int .i64 k))]
noncomputable abbrev Y15 (lo : Nat) (h : Heap) : Go.Lift.Cx := ⟨Tryd.prog, E, lo, h.length, h15⟩
theorem rs15 {d : Nat} {X Y : List (List V)} {lx i ly j : Int} {ss : List Sm} {s : Sm} {k : Nat} (hlo : lo <= h.length) (hl : ss.length <= 1000000000) (hg : ss[k]? = some s) (hc : C23 d s) :
  evCode (Y15 lo h) loopW l15x2 (NS15 d X lx i Y ly j ss k, h) =
   if (!(!(k == 0) && (s.k == 1 || s.k == 2) || !fitsR sound d s)) = true then some (.normal, NS15 d X lx i Y ly j ss (k + 1 : Nat), h) else some (.ret, [(4, .v (.bool false))], h) := by
 have hlt : k < ss.length := (List.getElem?_eq_some_iff.1 hg).1
 obtain ⟨q, n, o, v, f, l, a, b⟩ := s
 have hgr : (smsC ss)[k]? = some (smV (.mk q n o v f l a b)) := by simp [smsC_map, hg]
 have hc1 := fun lo h hlo => hc lo h hlo
 rw [smV_eq] at hgr hc1
 have l1 : lo <= h.length + 1 := by omega
 have ih1 := hc1 (h.length + 1) (h ++ [.cells [.v (.int .i64 q), .v (.string (bs n)), .v (.int .i64 o), .v (.string (bs v)), .v (.bool f), .list .no (cxsC l), .v (.int .i64 a), .v (.int .i64 b)]]) (by simp)
 have q1 : decide ((k : Int) < (ss.length : Int)) = true := by simp; omega
 have hw : IntKind.i64.wrap ((k : Int) + 1) = ((k + 1 : Nat) : Int) := wrap_succ (by omega)
 have c1 : decide ((k : Int) > 0) = !(k == 0) := by rw [Bool.eq_iff_iff]; simp; omega
 have c1' : decide (0 < (k : Int)) = !(k == 0) := by rw [Bool.eq_iff_iff]; simp; omega
 have sk : (Sm.mk q n o v f l a b).k = q := rfl
 rw [sk]
 cases h0 : k == 0 with
 | true =>
  rw [h0] at c1 c1'
  rw [Bool.not_true, Bool.false_and, Bool.false_or, Bool.not_not]
  cases h1 : fitsR sound d (.mk q n o v f l a b) with
  | true =>
   rw [h1] at hc1 ih1
   rw [if_pos rfl]
   simp only [go_sem, l15x2, b15, Tryd.f15, hlo, l1, q1, hgr, hw, c1, c1', hc1, Bool.not_true]
   all_goals rfl
  | false =>
   rw [h1] at hc1 ih1
   rw [if_neg (by simp)]
   simp only [go_sem, l15x2, b15, Tryd.f15, hlo, l1, q1, hgr, hw, c1, c1', hc1, Bool.not_true]
   all_goals rfl
 | false =>
  rw [h0] at c1 c1'
  rw [Bool.not_false, Bool.true_and]
  cases h2 : q == 1 with
  | true =>
   rw [Bool.true_or, Bool.true_or, Bool.not_true, if_neg (by simp)]
   simp only [go_sem, l15x2, b15, Tryd.f15, hlo, l1, q1, hgr, hw, c1, c1', h2, hc1, Bool.not_false]
   all_goals rfl
  | false =>
   rw [Bool.false_or]
   cases h3 : q == 2 with
   | true =>
    rw [Bool.true_or, Bool.not_true, if_neg (by simp)]
    simp only [go_sem, l15x2, b15, Tryd.f15, hlo, l1, q1, hgr, hw, c1, c1', h2, h3, hc1, Bool.not_false]
    all_goals rfl
   | false =>
    rw [Bool.false_or, Bool.not_not]
    cases h1 : fitsR sound d (.mk q n o v f l a b) with
    | true =>
     rw [h1] at hc1 ih1
     rw [if_pos rfl]
     simp only [go_sem, l15x2, b15, Tryd.f15, hlo, l1, q1, hgr, hw, c1, c1', h2, h3, hc1, Bool.not_true, Bool.not_false]
     all_goals rfl
    | false =>
     rw [h1] at hc1 ih1
     rw [if_neg (by simp)]
     simp only [go_sem, l15x2, b15, Tryd.f15, hlo, l1, q1, hgr, hw, c1, c1', h2, h3, hc1, Bool.not_true, Bool.not_false]
     all_goals rfl
theorem es15 {d : Nat} {X Y : List (List V)} {lx i ly j : Int} {ss : List Sm} :
  evCode (Y15 lo h) loopW l15x2 (NS15 d X lx i Y ly j ss ss.length, h) = some (.exit 4, NS15 d X lx i Y ly j ss ss.length ++ [(67, .v (.bool false))], h) := by
 have q : decide ((ss.length : Int) < (ss.length : Int)) = false := by simp
 simp only [go_sem, l15x2, b15, Tryd.f15, q]
 all_goals rfl
theorem smsR_drop {d : Nat} {ss : List Sm} {k : Nat} (hk : k < ss.length) : smsR sound d (k == 0) (ss.drop k) = ((!(!(k == 0) && (ss[k].k == 1 || ss[k].k == 2) || !fitsR sound d ss[k])) && smsR sound d (k + 1 == 0) (ss.drop (k + 1))) := by
 rw [List.drop_eq_getElem_cons hk, smsR]
 rfl
theorem ls15 {d : Nat} {X Y : List (List V)} {lx i ly j : Int} {ss : List Sm} (hlo : lo <= h.length) (hl : ss.length <= 1000000000) (hc : ∀ s ∈ ss, C23 d s) : ∀ (m k : Nat), k + m = ss.length ->
  loopW (evCode (Y15 lo h) loopW l15x2) (NS15 d X lx i Y ly j ss k, h) =
   if smsR sound d (k == 0) (ss.drop k) = true then some (.exit 4, NS15 d X lx i Y ly j ss ss.length ++ [(67, .v (.bool false))], h) else some (.ret, [(4, .v (.bool false))], h) := by
 intro m
 induction m with
 | zero =>
  intro k hk
  obtain rfl : k = ss.length := by omega
  rw [List.drop_length, smsR, if_pos rfl, loop_eq, es15, loop_e]
 | succ m ih =>
  intro k hk
  have hlt : k < ss.length := by omega
  have hr := rs15 (lo := lo) (h := h) (X := X) (Y := Y) (lx := lx) (i := i) (ly := ly) (j := j) hlo hl (List.getElem?_eq_getElem hlt) (hc _ (List.getElem_mem hlt))
  rw [smsR_drop hlt, loop_eq, hr]
  cases hm : (!(!(k == 0) && (ss[k].k == 1 || ss[k].k == 2) || !fitsR sound d ss[k])) with
  | true => rw [if_pos rfl, loop_n, Bool.true_and, ih (k + 1) (by omega)]
  | false => rw [if_neg (by simp), loop_r, Bool.false_and, if_neg (by simp)]
def Cp15 (d : Nat) : Cp -> Prop
 | .mk c ss => ss.length <= 1000000000 /\ ∀ s ∈ ss, C23 d s
abbrev NP15 (d : Nat) (X : List (List V)) (lx i : Int) (ps : List Cp) (j : Int) : Env :=
 [(1, .v (.int .i64 d)), (18, .list .no X), (19, .v (.int .i64 lx)), (20, .v (.int .i64 i)), (29, .list .no (cpsC ps)), (30, .v (.int .i64 ps.length)), (31, .v (.int .i64 j))]
theorem rp15 {d : Nat} {X : List (List V)} {lx i : Int} {ps : List Cp} {c : Int} {ss : List Sm} {j : Nat} (hlo : lo <= h.length) (hl : ps.length <= 1000000000) (hg : ps[j]? = some (.mk c ss)) (hc : Cp15 d (.mk c ss)) :
  evCode (Y15 lo h) loopW l15x1 (NP15 d X lx i ps j, h) =
   if ((!(ss.isEmpty || (j == 0) && c != 0 || !(j == 0) && (decide (c < 1) || decide (4 < c)))) && smsR sound d true ss) = true then some (.normal, NP15 d X lx i ps (j + 1 : Nat), h) else some (.ret, [(4, .v (.bool false))], h) := by
 have hlt : j < ps.length := (List.getElem?_eq_some_iff.1 hg).1
 have hgr : (cpsC ps)[j]? = some (cpV (.mk c ss)) := by simp [cpsC_map, hg]
 rw [cpV_eq] at hgr
 have l1 : lo <= h.length + 1 := by omega
 have q1 : decide ((j : Int) < (ps.length : Int)) = true := by simp; omega
 have hw : IntKind.i64.wrap ((j : Int) + 1) = ((j + 1 : Nat) : Int) := wrap_succ (by omega)
 have ez : ((ss.length : Int) == 0) = ss.isEmpty := by cases ss with | nil => rfl | cons y r => simp; omega
 have dz : decide ((ss.length : Int) = 0) = ss.isEmpty := by rw [<- ez]; rw [Bool.eq_iff_iff]; simp
 have c0 : ((j : Int) == 0) = (j == 0) := by rw [Bool.eq_iff_iff]; simp
 have n0 : ((0 : Nat) : Int) = 0 := rfl
 have hL := ls15 (lo := lo) (h := h) (X := X) (lx := lx) (i := i) (Y := cpsC ps) (ly := ps.length) (j := j) (d := d) hlo hc.1 hc.2 ss.length 0 (by omega)
 have z0 : ((0 : Nat) == 0) = true := rfl
 rw [List.drop_zero, z0] at hL
 have jp : decide ((j : Int) > 0) = !(j == 0) := by rw [Bool.eq_iff_iff]; simp; omega
 have jp' : decide (0 < (j : Int)) = !(j == 0) := jp
 generalize (j == 0) = J at *
 cases h1 : ss.isEmpty with
 | true =>
  rw [h1] at ez
  rw [if_neg (by simp)]
  simp only [go_sem, l15x1, b15, Tryd.f15, hlo, l1, q1, hgr, hw, c0, jp, jp', smsC_len, ez]
  all_goals rfl
 | false =>
 rw [h1] at ez
 rw [Bool.false_or]
 cases J with
 | true =>
  have nc : (c != 0) = !(c == 0) := rfl
  cases h2 : c == 0 with
  | false =>
   rw [h2] at nc
   rw [if_neg (by simp [nc])]
   simp only [go_sem, l15x1, b15, Tryd.f15, hlo, l1, q1, hgr, hw, c0, jp, jp', smsC_len, ez, h2, nc, Bool.not_false, Bool.not_true]
   all_goals rfl
  | true =>
   rw [h2] at nc
   cases h5 : smsR sound d true ss with
   | true =>
    rw [h5, if_pos rfl] at hL
    simp only [l15x2, b15, Tryd.f15, loopAt, loops, bodyOf, go_sem, NS15, n0, List.cons_append, List.nil_append] at hL
    rw [if_pos (by simp [nc])]
    simp only [go_sem, l15x1, b15, Tryd.f15, hlo, l1, q1, hgr, hw, c0, jp, jp', smsC_len, ez, h2, nc, hL, Bool.not_false, Bool.not_true]
    all_goals rfl
   | false =>
    rw [h5, if_neg (by simp)] at hL
    simp only [l15x2, b15, Tryd.f15, loopAt, loops, bodyOf, go_sem, NS15, n0, List.cons_append, List.nil_append] at hL
    rw [if_neg (by simp)]
    simp only [go_sem, l15x1, b15, Tryd.f15, hlo, l1, q1, hgr, hw, c0, jp, jp', smsC_len, ez, h2, nc, hL, Bool.not_false, Bool.not_true]
    all_goals rfl
 | false =>
  cases h2 : decide (c < 1) with
  | true =>
   rw [if_neg (by simp)]
   simp only [go_sem, l15x1, b15, Tryd.f15, hlo, l1, q1, hgr, hw, c0, jp, jp', smsC_len, ez, h2, Bool.not_false, Bool.not_true]
   all_goals rfl
  | false =>
   cases h3 : decide (4 < c) with
   | true =>
    rw [if_neg (by simp)]
    simp only [go_sem, l15x1, b15, Tryd.f15, hlo, l1, q1, hgr, hw, c0, jp, jp', smsC_len, ez, h2, h3, Bool.not_false, Bool.not_true]
    all_goals rfl
   | false =>
    cases h5 : smsR sound d true ss with
    | true =>
     rw [h5, if_pos rfl] at hL
     simp only [l15x2, b15, Tryd.f15, loopAt, loops, bodyOf, go_sem, NS15, n0, List.cons_append, List.nil_append] at hL
     rw [if_pos (by simp)]
     simp only [go_sem, l15x1, b15, Tryd.f15, hlo, l1, q1, hgr, hw, c0, jp, jp', smsC_len, ez, h2, h3, hL, Bool.not_false, Bool.not_true]
     all_goals rfl
    | false =>
     rw [h5, if_neg (by simp)] at hL
     simp only [l15x2, b15, Tryd.f15, loopAt, loops, bodyOf, go_sem, NS15, n0, List.cons_append, List.nil_append] at hL
     rw [if_neg (by simp)]
     simp only [go_sem, l15x1, b15, Tryd.f15, hlo, l1, q1, hgr, hw, c0, jp, jp', smsC_len, ez, h2, h3, hL, Bool.not_false, Bool.not_true]
     all_goals rfl
theorem ep15 {d : Nat} {X : List (List V)} {lx i : Int} {ps : List Cp} :
  evCode (Y15 lo h) loopW l15x1 (NP15 d X lx i ps ps.length, h) = some (.exit 2, NP15 d X lx i ps ps.length ++ [(32, .v (.bool false))], h) := by
 have q : decide ((ps.length : Int) < (ps.length : Int)) = false := by simp
 simp only [go_sem, l15x1, b15, Tryd.f15, q]
 all_goals rfl
theorem lp15 {d : Nat} {X : List (List V)} {lx i : Int} {ps : List Cp} (hlo : lo <= h.length) (hl : ps.length <= 1000000000) (hc : ∀ p ∈ ps, Cp15 d p) : ∀ (m j : Nat), j + m = ps.length ->
  loopW (evCode (Y15 lo h) loopW l15x1) (NP15 d X lx i ps j, h) =
   if cpsR sound d (j == 0) (ps.drop j) = true then some (.exit 2, NP15 d X lx i ps ps.length ++ [(32, .v (.bool false))], h) else some (.ret, [(4, .v (.bool false))], h) := by
 intro m
 induction m with
 | zero =>
  intro j hj
  obtain rfl : j = ps.length := by omega
  rw [List.drop_length, cpsR, if_pos rfl, loop_eq, ep15, loop_e]
 | succ m ih =>
  intro j hj
  have hlt : j < ps.length := by omega
  have hm := hc _ (List.getElem_mem hlt)
  have hg := List.getElem?_eq_getElem hlt
  rw [List.drop_eq_getElem_cons hlt]
  generalize ps[j] = p at *
  obtain ⟨c, ss⟩ := p
  have hr := rp15 (lo := lo) (h := h) (X := X) (lx := lx) (i := i) hlo hl hg hm
  have z1 : (j + 1 == 0) = false := rfl
  rw [cpsR, loop_eq, hr]
  cases hw : ((!(ss.isEmpty || (j == 0) && c != 0 || !(j == 0) && (decide (c < 1) || decide (4 < c)))) && smsR sound d true ss) with
  | true => rw [if_pos rfl, loop_n, Bool.true_and, ih (j + 1) (by omega), z1]
  | false => rw [if_neg (by simp), loop_r, Bool.false_and, if_neg (by simp)]
def Cx15 (d : Nat) : Sel.Cx -> Prop
 | .mk ps => ps.length <= 1000000000 /\ ∀ p ∈ ps, Cp15 d p
abbrev NX15 (d : Nat) (l : List Sel.Cx) (i : Int) : Env := [(1, .v (.int .i64 d)), (18, .list .no (cxsC l)), (19, .v (.int .i64 l.length)), (20, .v (.int .i64 i))]
theorem rx15 {d : Nat} {l : List Sel.Cx} {ps : List Cp} {i : Nat} (hlo : lo <= h.length) (hl : l.length <= 1000000000) (hg : l[i]? = some (.mk ps)) (hc : Cx15 d (.mk ps)) :
  evCode (Y15 lo h) loopW l15x0 (NX15 d l i, h) =
   if (!ps.isEmpty && cpsR sound d true ps) = true then some (.normal, NX15 d l (i + 1 : Nat), h) else some (.ret, [(4, .v (.bool false))], h) := by
 have hlt : i < l.length := (List.getElem?_eq_some_iff.1 hg).1
 have hgr : (cxsC l)[i]? = some (cxV (.mk ps)) := by simp [cxsC_map, hg]
 rw [cxV_eq] at hgr
 have l1 : lo <= h.length + 1 := by omega
 have q1 : decide ((i : Int) < (l.length : Int)) = true := by simp; omega
 have hw : IntKind.i64.wrap ((i : Int) + 1) = ((i + 1 : Nat) : Int) := wrap_succ (by omega)
 have ez : ((ps.length : Int) == 0) = ps.isEmpty := by cases ps with | nil => rfl | cons y r => simp; omega
 have n0 : ((0 : Nat) : Int) = 0 := rfl
 have hL := lp15 (lo := lo) (h := h) (X := cxsC l) (lx := l.length) (i := i) (d := d) hlo hc.1 hc.2 ps.length 0 (by omega)
 have z0 : ((0 : Nat) == 0) = true := rfl
 rw [List.drop_zero, z0] at hL
 cases h1 : ps.isEmpty with
 | true =>
  rw [h1] at ez
  rw [Bool.not_true, Bool.false_and, if_neg (by simp)]
  simp only [go_sem, l15x0, b15, Tryd.f15, hlo, l1, q1, hgr, hw, ez, cpsC_len]
  all_goals rfl
 | false =>
  rw [h1] at ez
  rw [Bool.not_false, Bool.true_and]
  cases h5 : cpsR sound d true ps with
  | true =>
   rw [h5, if_pos rfl] at hL
   simp only [l15x1, b15, Tryd.f15, loopAt, loops, bodyOf, go_sem, NP15, n0, List.cons_append, List.nil_append] at hL
   rw [if_pos rfl]
   simp only [go_sem, l15x0, b15, Tryd.f15, hlo, l1, q1, hgr, hw, ez, hL, cpsC_len]
   all_goals rfl
  | false =>
   rw [h5, if_neg (by simp)] at hL
   simp only [l15x1, b15, Tryd.f15, loopAt, loops, bodyOf, go_sem, NP15, n0, List.cons_append, List.nil_append] at hL
   rw [if_neg (by simp)]
   simp only [go_sem, l15x0, b15, Tryd.f15, hlo, l1, q1, hgr, hw, ez, hL, cpsC_len]
   all_goals rfl
theorem ex15 {d : Nat} {l : List Sel.Cx} :
  evCode (Y15 lo h) loopW l15x0 (NX15 d l l.length, h) = some (.exit 0, NX15 d l l.length ++ [(21, .v (.bool false))], h) := by
 have q : decide ((l.length : Int) < (l.length : Int)) = false := by simp
 simp only [go_sem, l15x0, b15, Tryd.f15, q]
 all_goals rfl
theorem lx15 {d : Nat} {l : List Sel.Cx} (hlo : lo <= h.length) (hl : l.length <= 1000000000) (hc : ∀ c ∈ l, Cx15 d c) : ∀ (m i : Nat), i + m = l.length ->
  loopW (evCode (Y15 lo h) loopW l15x0) (NX15 d l i, h) =
   if Sel.cxsR sound d (l.drop i) = true then some (.exit 0, NX15 d l l.length ++ [(21, .v (.bool false))], h) else some (.ret, [(4, .v (.bool false))], h) := by
 intro m
 induction m with
 | zero =>
  intro i hi
  obtain rfl : i = l.length := by omega
  rw [List.drop_length, Sel.cxsR, if_pos rfl, loop_eq, ex15, loop_e]
 | succ m ih =>
  intro i hi
  have hlt : i < l.length := by omega
  have hm := hc _ (List.getElem_mem hlt)
  have hg := List.getElem?_eq_getElem hlt
  rw [List.drop_eq_getElem_cons hlt]
  generalize l[i] = p at *
  obtain ⟨ps⟩ := p
  have hr := rx15 (lo := lo) (h := h) hlo hl hg hm
  rw [Sel.cxsR, loop_eq, hr]
  cases hw : (!ps.isEmpty && cpsR sound d true ps) with
  | true => rw [if_pos rfl, loop_n, Bool.true_and, ih (i + 1) (by omega)]
  | false => rw [if_neg (by simp), loop_r, Bool.false_and, if_neg (by simp)]
theorem f15_of {d : Nat} {l : List Sel.Cx} (hlo : lo <= h.length) (hd : d <= 65) (hl : l.length <= 1000000000) (hc : 1 <= d -> ∀ c ∈ l, Cx15 d c) :
  E lo 15 [.list .no (cxsC l), .v (.int .i64 d)] h = some (.v (.bool (Sel.mayR sound d l)), h) := by
 have ez : ((l.length : Int) == 0) = l.isEmpty := by cases l with | nil => rfl | cons y r => simp; omega
 have n0 : ((0 : Nat) : Int) = 0 := rfl
 have e1 : ((d : Int) == 0) = (d == 0) := by rw [Bool.eq_iff_iff]; simp
 rw [e15 (by simp) (by rfl), Sel.mayR]
 cases h1 : l.isEmpty with
 | true =>
  rw [h1] at ez
  simp only [go_sem, b15, Tryd.f15, hlo, ez, cxsC_len, Bool.not_true, Bool.false_and]
  all_goals rfl
 | false =>
 rw [h1] at ez
 rw [Bool.not_false, Bool.true_and]
 cases h2 : d == 0 with
 | true =>
  rw [h2] at e1
  simp only [go_sem, b15, Tryd.f15, hlo, ez, e1, cxsC_len, Bool.not_true, Bool.false_and]
  all_goals rfl
 | false =>
 rw [h2] at e1
 have hL := lx15 (lo := lo) (h := h) (l := l) (d := d) hlo hl (hc (by rw [beq_eq_false_iff_ne] at h2; omega)) l.length 0 (by omega)
 rw [List.drop_zero] at hL
 rw [Bool.not_false, Bool.true_and]
 cases h5 : Sel.cxsR sound d l with
 | true =>
  rw [h5, if_pos rfl] at hL
  simp only [l15x0, b15, Tryd.f15, loopAt, loops, bodyOf, go_sem, NX15, n0, List.cons_append, List.nil_append] at hL
  simp only [go_sem, b15, Tryd.f15, hlo, ez, e1, hL, cxsC_len, Bool.not_true]
  all_goals rfl
 | false =>
  rw [h5, if_neg (by simp)] at hL
  simp only [l15x0, b15, Tryd.f15, loopAt, loops, bodyOf, go_sem, NX15, n0, List.cons_append, List.nil_append] at hL
  simp only [go_sem, b15, Tryd.f15, hlo, ez, e1, hL, cxsC_len, Bool.not_true]
  all_goals rfl
mutual
theorem smR_ok : ∀ (s : Sm), okSm s -> ∀ d : Nat, 1 <= d -> d <= 65 -> C23 d s
 | .mk k n o v f l a b => by
  have ih := cxsR_ok l
  intro hs d h1 hd lo h hlo
  rw [okSm] at hs
  exact f23 hs.1 ⟨h1, hd⟩ (fun lo h hlo => f15_of hlo (by omega) hs.1.2.2.2.2 fun h65 c hc => ih hs.2 (d - 1) h65 (by omega) c hc) hlo
theorem smsR_ok : ∀ (l : List Sm), okSms l -> ∀ d : Nat, 1 <= d -> d <= 65 -> ∀ s ∈ l, C23 d s
 | [] => fun _ _ _ _ _ h => nomatch h
 | x :: r => by
  have i1 := smR_ok x
  have i2 := smsR_ok r
  intro hs d h1 hd s hm
  rw [okSms] at hs
  rcases List.mem_cons.1 hm with rfl | hm
  ·exact i1 hs.1 d h1 hd
  ·exact i2 hs.2 d h1 hd s hm
theorem cpsR_ok : ∀ (l : List Cp), okCps l -> ∀ d : Nat, 1 <= d -> d <= 65 -> ∀ p ∈ l, Cp15 d p
 | [] => fun _ _ _ _ _ h => nomatch h
 | .mk c ss :: r => by
  have i1 := smsR_ok ss
  have i2 := cpsR_ok r
  intro hs d h1 hd p hm
  rw [okCps] at hs
  rcases List.mem_cons.1 hm with rfl | hm
  ·exact ⟨hs.1.1, i1 hs.1.2 d h1 hd⟩
  ·exact i2 hs.2 d h1 hd p hm
theorem cxsR_ok : ∀ (l : List Sel.Cx), okCxs l -> ∀ d : Nat, 1 <= d -> d <= 65 -> ∀ c ∈ l, Cx15 d c
 | [] => fun _ _ _ _ _ h => nomatch h
 | .mk ps :: r => by
  have i1 := cpsR_ok ps
  have i2 := cxsR_ok r
  intro hs d h1 hd p hm
  rw [okCxs] at hs
  rcases List.mem_cons.1 hm with rfl | hm
  ·exact ⟨hs.1.1, i1 hs.1.2 d h1 hd⟩
  ·exact i2 hs.2 d h1 hd p hm
end
theorem f7 {l : List Sel.Cx} (hlo : lo <= h.length) (hl : l.length <= 1000000000) (hs : okCxs l) :
  E lo 7 [.list .no (cxsC l)] h = some (.v (.bool (mayP sound 1 l)), h) := by
 have k0 := fun (lo : Nat) (hlo : lo <= h.length) => f15_of (lo := lo) (h := h) (d := 65) (l := l) hlo (by omega) hl (fun h1 c hc => cxsR_ok l hs 65 h1 (by omega) c hc)
 rw [may_same] at k0
 have k1 := k0 lo hlo
 have k2 := k0 h.length (Nat.le_refl _)
 have n1 : ((65 : Nat) : Int) = 65 := rfl
 rw [n1] at k1 k2
 rw [e7 (by simp) (by rfl)]
 simp only [go_sem, b7, Tryd.f7, k1, k2]
 all_goals rfl
end Go.Lift.S9
end

section
open Go.Proofs
namespace Go.Lift.S9
variable [MX]
theorem f8 : E 0 8 [] [] = some (.v (.bool true), []) := ev_of (n := 80) (by kernel_rfl)
end Go.Lift.S9
end

section
open Go.Proofs
namespace Go.Lift.S9
variable [MX]
open Utf Spell Sel
theorem f3 {l : List Sel.Cx} (hl : l.length <= 1000000000) (hs : okCxs l) : E 0 3 [.list .no (cxsC l)] [] = some (.v (.bool true), []) := by
 have k1 := f6 (lo := 0) (h := []) (Nat.le_refl _) hl hs
 have k2 := f7 (lo := 0) (h := []) (Nat.le_refl _) hl hs
 have k3 := f6n (lo := 0) (h := []) (Nat.le_refl _) .no (.inl rfl)
 have bb : ∀ b : Bool, (b == b) = true := fun b => by cases b <;> rfl
 rw [e3 (by simp) (by rfl)]
 simp only [go_sem, b3, Tryd.f3, k1, k2, k3, bb, f8]
 all_goals rfl
end Go.Lift.S9
end

section
namespace Go.Proofs
open Go.Shelf
def Tryd.lays219_ren : Go.Shelf.Ren := ⟨fun | 219 => 77 | 217 => 90 | 225 => 91 | 224 => 92 | 267 => 93 | 266 => 106 | 314 => 107 | n => n, fun | 9 => 9 | 3 => 3 | 4 => 4 | 5 => 5 | 46 => 115 | 146 => 140 | 51 => 139 | n => n, fun | 1 => 1 | n => n⟩
theorem Tryd.lays219 : Go.Proofs.LaysM.n219 Tryd.prog Tryd.lays219_ren := {
 mixed := by kernel_rfl
 f217 := Tryd.func90.trans (congrArg some (by kernel_rfl))
 f219 := Tryd.func77.trans (congrArg some (by kernel_rfl))
 f224 := Tryd.func92.trans (congrArg some (by kernel_rfl))
 f225 := Tryd.func91.trans (congrArg some (by kernel_rfl))
 f266 := Tryd.func106.trans (congrArg some (by kernel_rfl))
 f267 := Tryd.func93.trans (congrArg some (by kernel_rfl))
 f314 := Tryd.func107.trans (congrArg some (by kernel_rfl))
 t3 := Tryd.underlying3
 a3 := Tryd.isAgg3
 z3 := Tryd.sizeOf3
 v3 := Tryd.zeroValue3
 t4 := Tryd.underlying4
 a4 := Tryd.isAgg4
 z4 := Tryd.sizeOf4
 v4 := Tryd.zeroValue4
 t5 := Tryd.underlying5
 a5 := Tryd.isAgg5
 z5 := Tryd.sizeOf5
 v5 := Tryd.zeroValue5
 t9 := Tryd.underlying9
 a9 := Tryd.isAgg9
 z9 := Tryd.sizeOf9
 v9 := Tryd.zeroValue9
 t46 := Tryd.underlying115
 a46 := Tryd.isAgg115
 z46 := Tryd.sizeOf115
 v46 := Tryd.zeroValue115
 t51 := Tryd.underlying139
 a51 := Tryd.isAgg139
 z51 := Tryd.sizeOf139
 v51 := Tryd.zeroValue139
 t146 := Tryd.underlying140
 a146 := Tryd.isAgg140
 z146 := Tryd.sizeOf140
 v146 := Tryd.zeroValue140
 g1 := by kernel_rfl
 i3 := by kernel_rfl
 i4 := by kernel_rfl
 i5 := by kernel_rfl
 i9 := by kernel_rfl
 i46 := by kernel_rfl
 i51 := by kernel_rfl
 i146 := by kernel_rfl
 m1 := by kernel_rfl
 s1_3 := fun w h => Go.Proofs.cell_of_shapedOpen_int (zero := #[.int .i64 0]) (t := 3) h (of_decide_eq_true (by kernel_rfl)) (by kernel_rfl) rfl (by kernel_rfl) (by kernel_rfl) Tryd.underlying3 }
end Go.Proofs
end

section
namespace Go.Lift.S9
variable [MX]
open Go.Proofs Go.RowKit
theorem walk235 (s : ByteArray) (c : Int) (w : World) :
  Calls Tryd.prog 90 #[.string s, .int .u8 c] w fun e w' => e = .returned (.int .i64 (Go.Lib.indexByte s.data.toList c.toNat.toUInt8)) /\ w' = w := by
 go_enter Tryd.func90, Tryd.ntmps90
 go_wp2
 rw [run_callFunc_extern Tryd.func106 (by kernel_rfl) (by kernel_rfl) (by kernel_rfl) (e := Extern.BytealgIndexByte.indexByte) (by kernel_rfl), Go.Lib.run_indexByteString]
 simp only [Result.andThen]
 rw [Oper.upon_value]
 go_wp2
 go_ret
 exact ⟨rfl, rfl⟩
theorem walk159one (s : ByteArray) (c : UInt8) (w : World) :
  Calls Tryd.prog 77 #[.string s, .string ⟨#[c]⟩] w fun e w' => e = .returned (.int .i64 (Go.Lib.indexByte s.data.toList c)) /\ w' = w :=
 Any.stringslite_Index_one (P := Tryd.prog) (ρ := Tryd.lays219_ren) { Tryd.lays219 with } s c w
theorem walk206 (s t : ByteArray) (m : Int) (w : World) (hs : s.size < 4294967281) (hm : w.cell? ⟨1, 0, none⟩ = some (.int .i64 m)) :
  Calls Tryd.prog 77 #[.string s, .string t] w fun e w' => e = .returned (.int .i64 (Go.Lib.index s.data.toList t.data.toList)) /\ w' = w :=
 Any.stringslite_Index (P := Tryd.prog) (ρ := Tryd.lays219_ren) { Tryd.lays219 with } s t m w hs hm
theorem quiet_ok {m : List Nat} {c : Cl} {w w' : World} {h : Heap} {lo : Nat} (hH : HOK m c w h) (hb : Below w.heap.size w w') :
  HOK m c w' h /\ Fr lo (hoOf m w h lo) w m c w' m c /\ Owned lo (hoOf m w h lo) w m w' [] h act0 := by
 obtain ⟨hC, hold⟩ := hH
 have hcell : ∀ b o, b < w.heap.size -> w'.cell? ⟨b, o, none⟩ = w.cell? ⟨b, o, none⟩ := fun b o hl => cell_of_heap (hb.block b hl) o
 have hce : ∀ b, 0 < c b -> b < w.heap.size := fun b h0 => by
  rcases Nat.lt_or_ge b w.heap.size with hl | hl
  ·exact hl
  ·rw [hC.c_zero hl] at h0; omega
 have he : Ext c w c w' := ⟨fun _ => Nat.le_refl _, fun b o ho => hcell b o (hce b (by omega)), fun b _ => by
  rcases Nat.lt_or_ge b w.heap.size with hl | hl
  ·exact Shp.same (hb.block b hl)
  ·exact Shp.none hl⟩
 have hm : ∀ {i b}, m[i]? = some b -> w'.heap[b]? = w.heap[b]? /\ c b = c b := fun {i b} hi => ⟨hb.block b (hC.m_lt hi), rfl⟩
 have hAt : ∀ {l r x}, At m w' [] h act0 l r x -> At m w [] h act0 l r x := fun {l r x} hl => by
  cases l with
  | slot t => exact hl
  | cell i j =>
   obtain ⟨cs, b, h1, h2, h3, h4⟩ := hl
   exact ⟨cs, b, h1, h2, h3, by rw [<- cell_of_heap (hm h3).1]; exact h4⟩
 have hAt' : ∀ {l r x}, At m w [] h act0 l r x -> At m w' [] h act0 l r x := fun {l r x} hl => by
  cases l with
  | slot t => exact hl
  | cell i j =>
   obtain ⟨cs, b, h1, h2, h3, h4⟩ := hl
   exact ⟨cs, b, h1, h2, h3, by rw [cell_of_heap (hm h3).1]; exact h4⟩
 refine ⟨⟨⟨fun b h0 => ?_, hC.wf2, hC.nd, hC.len, fun t => (hC.env t).mono (Pre.refl m) he, fun i o b ho hbm => (hC.ob i o b ho hbm).keep (hm hbm).1 (Pre.refl m) he, fun l r x hl => ?_,
   fun l l' r r' x x' b h1 h2 => hC.uniq l l' r r' x x' b (hAt h1) (hAt h2), hC.tagS, fun t i j r ht => hAt' (hC.tagC t i j r ht), fun n cs hg => (hC.gt n cs hg).mono he⟩, hold⟩,
  ⟨hb.os, hb.tape, hb.output, hb.size, Pre.refl m, fun i b hi hbm => ?_, he, fun b hl _ _ => ⟨hb.block b hl, rfl⟩⟩, fun l r x b hl hu hbx => ?_⟩
 ·rw [hb.block b (hce b h0)]
  exact hC.wf1 b h0
 ·refine (hC.own l r x (hAt hl)).keep fun b hbx => ?_
  exact ⟨hb.block b ((hC.own l r x (hAt hl)).lt hbx).1, rfl, id⟩
 ·have := (List.getElem?_eq_some_iff.1 hbm).1
  omega
 ·right
  cases l with
  | slot t => exact absurd hl.1 (by simp [look])
  | cell i j => exact ⟨i, j, r, x, hu, hAt hl, hbx⟩
theorem prim_quiet {f lo : Nat} {args : List V} {h : Heap} {x : Value} (he : ∀ xs w, (callFunc f xs).run Tryd.prog w = .ok (.enter f xs) w)
  (hx : ∀ m c w (xs : Array Value), HOK m c w h -> R2 (VRr m c w) args xs.toList -> Calls Tryd.prog f xs w fun e w' => e = .returned x /\ Below w.heap.size w w') :
  CallOK Tryd.prog lo f args h (.v x) h :=
 CallOK0.ok ⟨rfl, he, fun m c w xs hH ha => ⟨⟨rfl, rfl, Keeps.refl _ _⟩, (hx m c w xs hH ha).mono fun e w' ⟨h1, hb⟩ => by
  obtain ⟨q1, q2, q3⟩ := quiet_ok (lo := lo) hH hb
  exact ⟨_, c, h1, rfl, q1, q2, q3⟩⟩⟩
theorem two_args {m : List Nat} {c : Cl} {w : World} {a b : Value} {xs : Array Value} (h : R2 (VRr m c w) [.v a, .v b] xs.toList) : xs = #[a, b] := by
 obtain ⟨l⟩ := xs
 match l, h.1 with
 | [x, y], _ =>
  have h0 : x = a := h.2 0 _ _ rfl rfl
  have h1 : y = b := h.2 1 _ _ rfl rfl
  rw [h0, h1]
theorem tab2 : GTab.tab 1 = some [V.v (.int .i64 MX.m)] := rfl
theorem cell_of {c : Cl} {w : World} {n : Nat} {cs : List V} (hg : ROs c w ⟨n, 0, none⟩ cs) {j : Nat} {x : Value} (hj : cs[j]? = some (.v x)) : w.cell? ⟨n, j, none⟩ = some x := by
 obtain ⟨_, h⟩ := hg
 obtain ⟨y, hy, hv⟩ := h j _ hj
 rw [Nat.zero_add] at hy
 rw [hy, VP.v_eq hv]
theorem maxLen {m : List Nat} {c : Cl} {w : World} {h : Heap} (hH : HOK m c w h) : w.cell? ⟨1, 0, none⟩ = some (.int .i64 MX.m) :=
 cell_of (hH.1.gt 1 _ tab2) rfl
theorem prim_ok : ∀ f p, primz f = some p -> ∀ lo args h r h', lo <= h.length -> p lo args h = some (r, h') -> CallOK Tryd.prog lo f args h r h' := by
 intro f p hp lo args h r h' hlo he
 unfold primz at hp
 split at hp
 ·cases hp
  unfold idxP at he
  split at he
  ·rename_i s c
   cases he
   exact prim_quiet (enters_of Tryd.func90 (by kernel_rfl) rfl) fun m c' w xs hH ha => by
    rw [two_args ha]
    exact (walk235 s c w).mono fun e w' ⟨h1, h2⟩ => ⟨h1, h2 ▸ Below.refl _ _⟩
  ·cases he
 ·cases hp
  unfold ixP at he
  split at he
  ·rename_i s t
   split at he
   ·rename_i c0 hc
    cases he
    obtain rfl : t = ⟨#[c0]⟩ := by
     apply ByteArray.ext
     exact Array.toList_inj.1 hc
    exact prim_quiet (enters_of Tryd.func77 (by kernel_rfl) rfl) fun m c' w xs hH ha => by
     rw [two_args ha]
     exact (walk159one s c0 w).mono fun e w' ⟨h1, h2⟩ => ⟨h1, h2 ▸ Below.refl _ _⟩
   ·split at he
    ·rename_i hs
     cases he
     exact prim_quiet (enters_of Tryd.func77 (by kernel_rfl) rfl) fun m c' w xs hH ha => by
      rw [two_args ha]
      exact (walk206 s t MX.m w hs (maxLen hH)).mono fun e w' ⟨h1, h2⟩ => ⟨h1, h2 ▸ Below.refl _ _⟩
    ·cases he
  ·cases he
 ·cases hp
end Go.Lift.S9
end

section
namespace Go.Proofs.YtkbhmelfbekieaaDoor
open Go.Lift Go.Lift.S9 Go.ChangeShapes Go.WideShapes Go.ChangeAt Go.RowKit
theorem isBulk (H : Type) : IsBulk (H := H) Rows.uptoBulk Rows.uptoBulkAll :=
 ⟨rfl, fun _ _ => rfl, fun _ => rfl, fun _ => rfl, fun _ _ => rfl, rfl, fun e s => by show Rows.uptoBulkAll e + 1 ≤ Rows.uptoBulkAll e + Rows.uptoBulkAll s + 1; omega, fun _ => rfl⟩
theorem own : ownKnob Tryd.prog.godebug = none := by kernel_rfl
theorem laidOut : laidOutB Tryd.prog = true := by kernel_rfl
theorem follows : Tryd.prog.follows .mixedOrders = true := by kernel_rfl
theorem ros_of {w : World} {g : Nat} {cs : List V} (h : ∀ (j : Nat) v, cs[j]? = some v → ∃ x, w.cell? ⟨g, j, none⟩ = some x ∧ VP (wholeCl w) w v x) : ROs (wholeCl w) w ⟨g, 0, none⟩ cs := by
 refine ⟨?_, fun j v hj => by simpa using h j v hj⟩
 cases cs with
 | nil => exact Nat.zero_le _
 | cons c t =>
  have hl : (c :: t)[t.length]? = some ((c :: t)[t.length]'(by simp)) := List.getElem?_eq_getElem (by simp)
  obtain ⟨x, hx, _⟩ := h t.length _ hl
  unfold World.cell? at hx
  unfold wholeCl
  simp only at hx ⊢
  split at hx
  ·rename_i arr e f he
   rw [he]
   simp only [List.length_cons]
   have := (Array.getElem?_eq_some_iff.1 hx).1
   omega
  ·cases hx
theorem kinds_data : (Rows.laid_jalousie_jalousieref3_kinds : DataW Unit) = Lib.tabData .i64 [21, 22, 19, 20, 23, 24, 18, 16, 17] := rfl
theorem tab_cells {w : World} {name : String} {k : IntKind} {zs : List Int} {g : Nat} {t e : TypeId} {n : Nat} (hn : Tryd.prog.globalNamed name = some g) (hy : (Tryd.prog.globals[g]?).map (·.type) = some t)
  (ht : Tryd.prog.underlying t = some (.array n e)) (he : Tryd.prog.underlying e = some (.int k)) (hce : Tryd.prog.cellsOf e = 1) (hct : Tryd.prog.cellsOf t = n) (h : Lib.VarReads Tryd.prog w name (Lib.tabData k zs)) :
  ∀ (j : Nat) (z : Int), zs[j]? = some z → w.cell? ⟨g, j, none⟩ = some (.int k z) := fun j z hz => by
 obtain ⟨g', t', cs, fuel, p, h1, h2, h3, h4⟩ := h
 obtain rfl := Option.some.inj (hn.symm.trans h1)
 obtain rfl := Option.some.inj (hy.symm.trans h2)
 have hcs := Lib.cells_of_tab ht he hce hct h4
 have := World.var?_cell hn h3 j
 rw [this, ← Array.getElem?_toList, hcs]
 simp [hz]
theorem gok [MX] {W : World} (hm : W.cell? ⟨1, 0, none⟩ = some (.int .i64 MX.m)) (hk : Lib.VarReads Tryd.prog W "jalousie/jalousieref3.kinds" Rows.laid_jalousie_jalousieref3_kinds) : GOK W := by
 rw [kinds_data] at hk
 intro n cs hc
 have e : GTab.tab n = gtab.1 n := rfl
 rw [e] at hc
 unfold gtab at hc
 simp only at hc
 split at hc
 ·have c0 := tab_cells (g := 0) (t := 104) (e := 3) (n := 9) (by kernel_rfl) (by kernel_rfl) (by kernel_rfl) (by kernel_rfl) (by kernel_rfl) (by kernel_rfl) hk
  cases hc
  refine ros_of fun j v hj => ?_
  have hj2 : (([21, 22, 19, 20, 23, 24, 18, 16, 17] : List Int).map fun z => V.v (.int .i64 z))[j]? = some v := hj
  simp only [List.getElem?_map, Option.map_eq_some_iff] at hj2
  obtain ⟨k, hk2, rfl⟩ := hj2
  exact ⟨_, c0 j k hk2, .v _ rfl⟩
 ·cases hc
  refine ros_of fun j v hj => ?_
  cases j with
  | zero =>
   cases hj
   exact ⟨_, hm, .v _ rfl⟩
  | succ j => simp at hj
 ·cases hc
noncomputable def laidWorld (os : Os) : World :=
 let w0 := World.holding Tryd.prog os ⟨#[], #[], []⟩
 let put (h : Array Obj) (g : Nat) (cs : Array Value) : Array Obj := h.modify g fun
  | .cells _ t frozen => .cells cs t frozen
  | o => o
 let h6 := put w0.heap 0 ([21, 22, 19, 20, 23, 24, 18, 16, 17].map fun z => Value.int .i64 z).toArray
 { w0 with heap := h6 }
theorem laid1 (os : Os) (args : Array Value) : LaidIn Tryd.prog ((laidWorld os).forCall (fun _ _ => 0) ⟨#[], args, []⟩).memory [("jalousie/jalousieref3.kinds", Rows.laid_jalousie_jalousieref3_kinds)] [0] :=
 LaidIn.of_run [0] 8 (by kernel_rfl) (by kernel_rfl) (by kernel_rfl) (by kernel_rfl)
theorem ty_int {t : TypeId} {k : IntKind} {p : List V} (ht : Tryd.prog.underlying t = some (.int k)) (h : Ty Tryd.prog t p) : ∃ n, p = [.v (.int k n)] ∧ (Lit.int k n).wf = true := by
 cases h with
 | int k' n hu hw => rw [ht] at hu; cases hu; exact ⟨n, rfl, hw⟩
 | bool b hu => rw [ht] at hu; cases hu
 | string s hu => rw [ht] at hu; cases hu
 | slice rows hu _ => rw [ht] at hu; cases hu
 | struct fs cells hu _ => rw [ht] at hu; cases hu
theorem ty_bool {t : TypeId} {p : List V} (ht : Tryd.prog.underlying t = some .bool) (h : Ty Tryd.prog t p) : ∃ b, p = [.v (.bool b)] := by
 cases h with
 | int k' n hu hw => rw [ht] at hu; cases hu
 | bool b hu => exact ⟨b, rfl⟩
 | string s hu => rw [ht] at hu; cases hu
 | slice rows hu _ => rw [ht] at hu; cases hu
 | struct fs cells hu _ => rw [ht] at hu; cases hu
theorem ty_str {t : TypeId} {p : List V} (ht : Tryd.prog.underlying t = some .string) (h : Ty Tryd.prog t p) : ∃ s, p = [.v (.string s)] := by
 cases h with
 | int k' n hu hw => rw [ht] at hu; cases hu
 | bool b hu => rw [ht] at hu; cases hu
 | string s hu => exact ⟨s, rfl⟩
 | slice rows hu _ => rw [ht] at hu; cases hu
 | struct fs cells hu _ => rw [ht] at hu; cases hu
theorem ty_fields {t : TypeId} {fs : Array Field} {p : List V} (ht : Tryd.prog.underlying t = some (.struct fs)) (h : Ty Tryd.prog t p) : TyFs Tryd.prog fs.toList p := by
 cases h with
 | int k' n hu hw => rw [ht] at hu; cases hu
 | bool b hu => rw [ht] at hu; cases hu
 | string s hu => rw [ht] at hu; cases hu
 | slice rows hu _ => rw [ht] at hu; cases hu
 | struct fs' cells hu hf => rw [ht] at hu; cases hu; exact hf
theorem fs_cons {f : Field} {fs : List Field} {p : List V} (h : TyFs Tryd.prog (f :: fs) p) : ∃ a b, p = a ++ b ∧ Ty Tryd.prog f.type a ∧ TyFs Tryd.prog fs b := by
 cases h with
 | cons h1 h2 => exact ⟨_, _, rfl, h1, h2⟩
theorem fs_nil {p : List V} (h : TyFs Tryd.prog [] p) : p = [] := by
 cases h; rfl
theorem any_bs (s : ByteArray) : ∃ l : List Int, Utf.By l ∧ s = Rul.bs l ∧ l.length = s.size := by
 refine ⟨s.data.toList.map fun c => (c.toNat : Int), ?_, ?_, ?_⟩
 ·intro c hc
  obtain ⟨x, _, rfl⟩ := List.mem_map.1 hc
  have := x.toNat_lt
  omega
 ·apply ByteArray.ext
  unfold Rul.bs u8s
  simp only [List.map_map]
  apply Array.toList_inj.1
  conv => lhs; rw [← List.map_id s.data.toList]
  apply List.map_congr_left
  intro c _
  simp
 ·rw [List.length_map, Array.length_toList]; rfl
theorem ty_slice {t e : TypeId} {p : List V} (ht : Tryd.prog.underlying t = some (.slice e)) (h : Ty Tryd.prog t p) : ∃ rows, p = [.list .no rows] ∧ ∀ row ∈ rows, Ty Tryd.prog e row := by
 cases h with
 | int k' n hu hw => rw [ht] at hu; cases hu
 | bool b hu => rw [ht] at hu; cases hu
 | string s hu => rw [ht] at hu; cases hu
 | slice rows hu hr => rw [ht] at hu; cases hu; exact ⟨rows, rfl, hr⟩
 | struct fs cells hu _ => rw [ht] at hu; cases hu
theorem tv {t e : TypeId} {v : V} (ht : Tryd.prog.underlying t = some (.slice e)) (h : TyV Tryd.prog t v) : Ty Tryd.prog t [v] := by
 unfold TyV at h
 rw [ht] at h
 exact h
open Go.Lift.Sel
theorem tySm {p : List V} (hc : Ty Tryd.prog 38 p) : ∃ (k : Int) (n : List Int) (o : Int) (v : List Int) (f : Bool) (rows : List (List V)) (a b : Int),
  p = [.v (.int .i64 k), .v (.string (Rul.bs n)), .v (.int .i64 o), .v (.string (Rul.bs v)), .v (.bool f), .list .no rows, .v (.int .i64 a), .v (.int .i64 b)] ∧ (∀ row ∈ rows, Ty Tryd.prog 27 row) ∧ Utf.By n ∧ Utf.By v ∧ vsRow p = n.length + v.length + vsRows rows + 8 := by
 have h1 := ty_fields Tryd.underlying38 hc
 obtain ⟨p1, q1, rfl, t1, h1⟩ := fs_cons h1
 obtain ⟨p2, q2, rfl, t2, h1⟩ := fs_cons h1
 obtain ⟨p3, q3, rfl, t3, h1⟩ := fs_cons h1
 obtain ⟨p4, q4, rfl, t4, h1⟩ := fs_cons h1
 obtain ⟨p5, q5, rfl, t5, h1⟩ := fs_cons h1
 obtain ⟨p6, q6, rfl, t6, h1⟩ := fs_cons h1
 obtain ⟨p7, q7, rfl, t7, h1⟩ := fs_cons h1
 obtain ⟨p8, q8, rfl, t8, h1⟩ := fs_cons h1
 obtain rfl := fs_nil h1
 obtain ⟨k, rfl, _⟩ := ty_int Tryd.underlying3 t1
 obtain ⟨s, rfl⟩ := ty_str Tryd.underlying9 t2
 obtain ⟨o, rfl, _⟩ := ty_int Tryd.underlying3 t3
 obtain ⟨s', rfl⟩ := ty_str Tryd.underlying9 t4
 obtain ⟨f, rfl⟩ := ty_bool Tryd.underlying4 t5
 obtain ⟨rows, rfl, hr⟩ := ty_slice Tryd.underlying22 t6
 obtain ⟨a, rfl, _⟩ := ty_int Tryd.underlying3 t7
 obtain ⟨b, rfl, _⟩ := ty_int Tryd.underlying3 t8
 obtain ⟨n, hn, rfl, hl⟩ := any_bs s
 obtain ⟨v, hv, rfl, hl'⟩ := any_bs s'
 refine ⟨k, n, o, v, f, rows, a, b, rfl, hr, hn, hv, ?_⟩
 simp [vsRow, vsize]
 omega
theorem tyCp {p : List V} (hc : Ty Tryd.prog 35 p) : ∃ (c : Int) (rows : List (List V)), p = [.v (.int .i64 c), .list .no rows] ∧ (∀ row ∈ rows, Ty Tryd.prog 38 row) ∧ vsRow p = vsRows rows + 2 := by
 have h1 := ty_fields Tryd.underlying35 hc
 obtain ⟨p1, q1, rfl, t1, h1⟩ := fs_cons h1
 obtain ⟨p2, q2, rfl, t2, h1⟩ := fs_cons h1
 obtain rfl := fs_nil h1
 obtain ⟨k, rfl, _⟩ := ty_int Tryd.underlying3 t1
 obtain ⟨rows, rfl, hr⟩ := ty_slice Tryd.underlying33 t2
 refine ⟨k, rows, rfl, hr, ?_⟩
 simp [vsRow, vsize]
 omega
theorem tyCx {p : List V} (hc : Ty Tryd.prog 27 p) : ∃ (rows : List (List V)), p = [.list .no rows] ∧ (∀ row ∈ rows, Ty Tryd.prog 35 row) ∧ vsRow p = vsRows rows + 1 := by
 have h1 := ty_fields Tryd.underlying27 hc
 obtain ⟨p1, q1, rfl, t1, h1⟩ := fs_cons h1
 obtain rfl := fs_nil h1
 obtain ⟨rows, rfl, hr⟩ := ty_slice Tryd.underlying25 t1
 refine ⟨rows, rfl, hr, ?_⟩
 simp [vsRow, vsize]
theorem tySel : ∀ (n : Nat), n ≤ 1048576 → (∀ (rows : List (List V)), vsRows rows ≤ n → (∀ row ∈ rows, Ty Tryd.prog 38 row) → ∃ l : List Sm, rows = smsC l ∧ okSms l ∧ l.length ≤ vsRows rows) ∧
  (∀ (rows : List (List V)), vsRows rows ≤ n → (∀ row ∈ rows, Ty Tryd.prog 35 row) → ∃ l : List Cp, rows = cpsC l ∧ okCps l ∧ l.length ≤ vsRows rows) ∧
  (∀ (rows : List (List V)), vsRows rows ≤ n → (∀ row ∈ rows, Ty Tryd.prog 27 row) → ∃ l : List Sel.Cx, rows = cxsC l ∧ okCxs l ∧ l.length ≤ vsRows rows) := by
 intro n
 induction n with
 | zero =>
  intro hn
  refine ⟨fun rows hs h => ?_, fun rows hs h => ?_, fun rows hs h => ?_⟩
  ·cases rows with
   | nil => exact ⟨[], by rw [smsC], by rw [okSms]; trivial, by simp⟩
   | cons r rs =>
    obtain ⟨_, _, _, _, _, _, _, _, rfl, _, _, _, e⟩ := tySm (h r (List.mem_cons_self ..))
    simp only [vsRows] at hs
    omega
  ·cases rows with
   | nil => exact ⟨[], by rw [cpsC], by rw [okCps]; trivial, by simp⟩
   | cons r rs =>
    obtain ⟨_, _, rfl, _, e⟩ := tyCp (h r (List.mem_cons_self ..))
    simp only [vsRows] at hs
    omega
  ·cases rows with
   | nil => exact ⟨[], by rw [cxsC], by rw [okCxs]; trivial, by simp⟩
   | cons r rs =>
    obtain ⟨_, rfl, _, e⟩ := tyCx (h r (List.mem_cons_self ..))
    simp only [vsRows] at hs
    omega
 | succ n ih =>
  intro hn
  obtain ⟨i1, i2, i3⟩ := ih (by omega)
  refine ⟨fun rows hs h => ?_, fun rows hs h => ?_, fun rows hs h => ?_⟩
  ·cases rows with
   | nil => exact ⟨[], by rw [smsC], by rw [okSms]; trivial, by simp⟩
   | cons r rs =>
    obtain ⟨k, nm, o, v, f, ks, a, b, rfl, hk, yn, yv, e⟩ := tySm (h r (List.mem_cons_self ..))
    simp only [vsRows, e] at hs ⊢
    obtain ⟨kl, rfl, k1, k2⟩ := i3 ks (by omega) hk
    obtain ⟨l, rfl, l1, l2⟩ := i1 rs (by omega) fun row hm => h row (List.mem_cons_of_mem _ hm)
    refine ⟨.mk k nm o v f kl a b :: l, ?_, ?_, ?_⟩
    ·rw [smsC, smV]
    ·rw [okSms, okSm]
     exact ⟨⟨⟨yn, by omega, yv, by omega, by omega⟩, k1⟩, l1⟩
    ·rw [List.length_cons]; omega
  ·cases rows with
   | nil => exact ⟨[], by rw [cpsC], by rw [okCps]; trivial, by simp⟩
   | cons r rs =>
    obtain ⟨c, ks, rfl, hk, e⟩ := tyCp (h r (List.mem_cons_self ..))
    simp only [vsRows, e] at hs ⊢
    obtain ⟨kl, rfl, k1, k2⟩ := i1 ks (by omega) hk
    obtain ⟨l, rfl, l1, l2⟩ := i2 rs (by omega) fun row hm => h row (List.mem_cons_of_mem _ hm)
    refine ⟨.mk c kl :: l, ?_, ?_, ?_⟩
    ·rw [cpsC, cpV]
    ·rw [okCps]
     exact ⟨⟨by omega, k1⟩, l1⟩
    ·rw [List.length_cons]; omega
  ·cases rows with
   | nil => exact ⟨[], by rw [cxsC], by rw [okCxs]; trivial, by simp⟩
   | cons r rs =>
    obtain ⟨ks, rfl, hk, e⟩ := tyCx (h r (List.mem_cons_self ..))
    simp only [vsRows, e] at hs ⊢
    obtain ⟨kl, rfl, k1, k2⟩ := i2 ks (by omega) hk
    obtain ⟨l, rfl, l1, l2⟩ := i3 rs (by omega) fun row hm => h row (List.mem_cons_of_mem _ hm)
    refine ⟨.mk kl :: l, ?_, ?_, ?_⟩
    ·rw [cxsC, cxV]
    ·rw [okCxs]
     exact ⟨⟨by omega, k1⟩, l1⟩
    ·rw [List.length_cons]; omega
theorem ty22 {v : V} {n : Nat} (h : TyV Tryd.prog 22 v) (hs : asize v ≤ n) (hn : n ≤ 1048576) : ∃ l : List Sel.Cx, v = .list .no (cxsC l) ∧ okCxs l ∧ l.length ≤ n := by
 obtain ⟨rows, hp, hr⟩ := ty_slice Tryd.underlying22 (tv Tryd.underlying22 h)
 obtain rfl : v = .list .no rows := by simpa using hp
 have hv : vsRows rows ≤ n := by simp only [asize, vsize] at hs; omega
 obtain ⟨l, rfl, a, b⟩ := (tySel n hn).2.2 rows hv hr
 exact ⟨l, rfl, a, by omega⟩
end Go.Proofs.YtkbhmelfbekieaaDoor
end

section
namespace Go.Proofs.YtkbhmelfbekieaaDoor
theorem and_tt {a b : Bool} (ha : a = true) (hb : b = true) : (a && b) = true := by rw [ha, hb]; rfl
theorem fact2 : laidOutB Tryd.prog = true := by kernel_rfl
theorem fact3 : mapsRowed Tryd.prog = true := by kernel_rfl
theorem fact7 : (Tryd.prog.stops == []) = true := by kernel_rfl
theorem fact9 : (Tryd.prog.stopKnobs == []) = true := by kernel_rfl
theorem fact23 : (Rows.selMayUptoRow.plainKeys == Tryd.prog.plainKeys) = true := by kernel_rfl
theorem fact25 : Tryd.prog.stopsHeard = true := by kernel_rfl
theorem fact26 : Tryd.prog.mayEnter = true := by kernel_rfl
theorem fact27 : (Rows.selMayUptoRow.lifted == Tryd.prog.liftsFinal) = true := by kernel_rfl
theorem fact28 : (Tryd.prog.make == some Rows.selMayUptoRow.make) = true := by kernel_rfl
end Go.Proofs.YtkbhmelfbekieaaDoor
end
