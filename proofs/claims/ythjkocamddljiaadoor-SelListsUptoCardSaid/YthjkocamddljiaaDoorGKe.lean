/- Which simple selectors may be: sel.simple. -/
import Derived.ProofKit
import Derived.Test.YthjkocamddljiaaDoorProg
import Derived.Shelf.LaysM
import Derived.Shelf.Strings.Search2
import Derived.WalkKit
import Derived.Lib.Bytealg
import Derived.Lib.AppendIntMem
import Derived.Lib.LaidTab
import Derived.Lib.LaidU8
import Derived.Lib.LaidIn
import Derived.Deep.DeepHandedRow
import Derived.Deep.DeepWitnessRowRef
import Derived.Test.YthjkocamddljiaaDoorRows
import Derived.JoinedOf
import Derived.Test.YthjkocamddljiaaDoorGK6Basea
import Derived.Test.YthjkocamddljiaaDoorGKb
import Derived.Test.YthjkocamddljiaaDoorGKd
set_option linter.unusedVariables false
set_option linter.unusedSimpArgs false
set_option linter.unusedSectionVars false
set_option maxRecDepth 100000
set_option maxHeartbeats 4000000
section
open Go.Proofs
namespace Go.Lift.Q1
variable [MX]
variable {lo : Nat} {h : Heap}
open Utf Spell Sel
theorem end22 {s : St} : thenP (X22 lo h) loopW b29 7 (some (.normal, s)) = some (.ret, s) := by
 show evL (X22 lo h) loopW ((flat b29).drop 7) s = _
 simp only [go_sem, b29, Tryd.f29]
theorem f22_of {k d o a b o' a' b' : Int} {n v n' v' : List Int} {f f' ok : Bool} {l l' : List (List V)} (hlo : lo <= h.length) (hl : l'.length <= 1000000000) (hk : To22 lo h k d o a b n v f l ok l' o' a' b' n' v' f') :
  E lo 29 [.agg [.v (.int .i64 k), .v (.string (bs n)), .v (.int .i64 o), .v (.string (bs v)), .v (.bool f), .list .no l, .v (.int .i64 a), .v (.int .i64 b)], .v (.int .i64 d)] h = some (.v (.bool (ok && fin22 l' o' a' b' n' v' f')), h) := by
 obtain ⟨g, ow, h1, h2, h3, h4, h5⟩ := hk
 rw [e29 (by simp) (by rfl)]
 show fin Tryd.prog [.tmp 4] h.length (evCode (X22 lo h) loopW b29 _) = _
 rw [pc_in, pc_go _ _ _ _ 0 5, f29a hlo, pc_go _ _ _ _ _ 1]
 have h1' := h1
 unfold en22 cm22 at h1'
 rw [h1', pc_go _ _ _ _ _ 1, f29z h2 h3 h4 h5 hl hlo, end22]
 simp only [go_sem, hlo]
def WfS (n v : List Int) (l : List Sel.Cx) : Prop := By n /\ n.length <= 1000000000 /\ By v /\ v.length <= 1000000000 /\ l.length <= 1000000000
theorem f29 {k o a b : Int} {n v : List Int} {f : Bool} {l : List Sel.Cx} {d : Nat} (hw : WfS n v l) (hd : d <= 65)
  (c19 : ∀ lo h, lo <= h.length -> E lo 19 [.list .no (cxsC l), .v (.int .i64 ((d + 1 : Nat) : Int))] h = some (.v (.bool (mayP sound (d + 1) l)), h)) (hlo : lo <= h.length) :
  E lo 29 [.agg (smV (.mk k n o v f l a b)), .v (.int .i64 d)] h = some (.v (.bool (simpleP sound d (.mk k n o v f l a b))), h) := by
 obtain ⟨yn, ln, yv, lv, ll⟩ := hw
 have cl : (cxsC l).length <= 1000000000 := by rw [cxsC_len]; exact ll
 have ce : (cxsC l).isEmpty = l.isEmpty := by cases l with | nil => rw [cxsC]; rfl | cons x r => rw [cxsC]; rfl
 have hc : decide ((d : Int) < 65) = decide (d < 65) := by rw [Bool.eq_iff_iff]; simp; omega
 have sv : smV (.mk k n o v f l a b) = [.v (.int .i64 k), .v (.string (bs n)), .v (.int .i64 o), .v (.string (bs v)), .v (.bool f), .list .no (cxsC l), .v (.int .i64 a), .v (.int .i64 b)] := by rw [smV]; rfl
 rw [sv, simpleP]
 by_cases k1 : k = 2 \/ k = 3 \/ k = 4
 ·rw [if_pos k1, f22_of hlo cl (k22b yn ln k1 hlo), fin22, ce]
  rfl
 rw [if_neg k1]
 by_cases k2 : k = 5
 ·subst k2
  rw [if_pos rfl, f22_of hlo cl (k22t yn ln yv lv hlo), fin22, ce, hc]
  rfl
 rw [if_neg k2]
 by_cases k3 : k = 6 \/ k = 7 \/ k = 8
 ·rw [if_pos k3, f22_of hlo (by simp) (k22m (m := mayP sound (d + 1) l) c19 (by omega) k3 hlo), fin22]
  rfl
 rw [if_neg k3]
 by_cases k4 : k = 14 \/ k = 15
 ·rw [if_pos k4, f22_of hlo cl (k22n k4 hlo), fin22, ce, hc]
  have z : ((0 : Int) == 0) = true := rfl
  rw [z]
  simp only [Bool.and_true]
 rw [if_neg k4]
 by_cases k5 : k = 1 \/ 9 <= k /\ k <= 13
 ·rw [if_pos k5, f22_of hlo cl (k22a k5 hlo), fin22, ce, Bool.true_and]
 rw [if_neg k5, f22_of hlo cl (k22o (by omega) hlo), Bool.false_and]
end Go.Lift.Q1
end

section
open Go.Proofs
namespace Go.Lift.Q1
variable [MX]
variable {lo : Nat} {h : Heap}
open Utf Spell Sel
theorem smV_eq (k : Int) (n : List Int) (o : Int) (v : List Int) (f : Bool) (l : List Sel.Cx) (a b : Int) :
  smV (.mk k n o v f l a b) = [.v (.int .i64 k), .v (.string (bs n)), .v (.int .i64 o), .v (.string (bs v)), .v (.bool f), .list .no (cxsC l), .v (.int .i64 a), .v (.int .i64 b)] := by rw [smV]; rfl
theorem cpV_eq (c : Int) (ss : List Sm) : cpV (.mk c ss) = [.v (.int .i64 c), .list .no (smsC ss)] := by rw [cpV]
theorem cxV_eq (ps : List Cp) : cxV (.mk ps) = [.list .no (cpsC ps)] := by rw [cxV]
def C22 (d : Nat) (s : Sm) : Prop := ∀ lo h, lo <= h.length -> E lo 29 [.agg (smV s), .v (.int .i64 d)] h = some (.v (.bool (simpleP sound d s)), h)
abbrev NS14 (d : Nat) (X : List (List V)) (lx i : Int) (Y : List (List V)) (ly j : Int) (ss : List Sm) (k : Int) : Env :=
 [(1, .v (.int .i64 d)), (18, .list .no X), (19, .v (.int .i64 lx)), (20, .v (.int .i64 i)), (29, .list .no Y), (30, .v (.int .i64 ly)), (31, .v (.int .i64 j)), (59, .list .no (smsC ss)), (60, .v (.int .i64 ss.length)), (61, .v (.int .i64 k))]
noncomputable abbrev Y14 (lo : Nat) (h : Heap) : Go.Lift.Cx := ⟨Tryd.prog, E, lo, h.length, h19⟩
theorem rs14 {d : Nat} {X Y : List (List V)} {lx i ly j : Int} {ss : List Sm} {s : Sm} {k : Nat} (hlo : lo <= h.length) (hl : ss.length <= 1000000000) (hg : ss[k]? = some s) (hc : C22 d s) :
  evCode (Y14 lo h) loopW l19x2 (NS14 d X lx i Y ly j ss k, h) =
   if ((k == 0 || decide (2 < s.k)) && simpleP sound d s) = true then some (.normal, NS14 d X lx i Y ly j ss (k + 1 : Nat), h) else some (.ret, [(4, .v (.bool false))], h) := by
 have hlt : k < ss.length := (List.getElem?_eq_some_iff.1 hg).1
 obtain ⟨q, n, o, v, f, l, a, b⟩ := s
 have hgr : (smsC ss)[k]? = some (smV (.mk q n o v f l a b)) := by simp [smsC_map, hg]
 have hc1 := fun lo h hlo => hc lo h hlo
 rw [smV_eq] at hgr hc1
 have l1 : lo <= h.length + 1 := by omega
 have ih1 := hc1 (h.length + 1) (h ++ [.cells [.v (.int .i64 q), .v (.string (bs n)), .v (.int .i64 o), .v (.string (bs v)), .v (.bool f), .list .no (cxsC l), .v (.int .i64 a), .v (.int .i64 b)]]) (by simp)
 have q1 : decide ((k : Int) < (ss.length : Int)) = true := by simp; omega
 have hw : IntKind.i64.wrap ((k : Int) + 1) = ((k + 1 : Nat) : Int) := wrap_succ (by omega)
 have c1 : decide ((k : Int) > 0) = !(k == 0) := by rw [Bool.eq_iff_iff]; simp; omega
 have c1' : decide (0 < (k : Int)) = !(k == 0) := by rw [Bool.eq_iff_iff]; simp; omega
 have c2 : decide (q <= 2) = !decide (2 < q) := by rw [Bool.eq_iff_iff]; simp
 have sk : (Sm.mk q n o v f l a b).k = q := rfl
 rw [sk]
 cases h0 : k == 0 with
 | true =>
  rw [h0] at c1 c1'
  rw [Bool.true_or, Bool.true_and]
  cases h1 : simpleP sound d (.mk q n o v f l a b) with
  | true =>
   rw [h1] at hc1 ih1
   rw [if_pos rfl]
   simp only [go_sem, l19x2, b19, Tryd.f19, hlo, l1, q1, hgr, hw, c1, c1', hc1, Bool.not_true]
   all_goals rfl
  | false =>
   rw [h1] at hc1 ih1
   rw [if_neg (by simp)]
   simp only [go_sem, l19x2, b19, Tryd.f19, hlo, l1, q1, hgr, hw, c1, c1', hc1, Bool.not_true]
   all_goals rfl
 | false =>
  rw [h0] at c1 c1'
  rw [Bool.false_or]
  cases h2 : decide (2 < q) with
  | false =>
   rw [h2] at c2
   rw [Bool.false_and, if_neg (by simp)]
   simp only [go_sem, l19x2, b19, Tryd.f19, hlo, l1, q1, hgr, hw, c1, c1', c2, hc1, Bool.not_false]
   all_goals rfl
  | true =>
   rw [h2] at c2
   rw [Bool.true_and]
   cases h1 : simpleP sound d (.mk q n o v f l a b) with
   | true =>
    rw [h1] at hc1 ih1
    rw [if_pos rfl]
    simp only [go_sem, l19x2, b19, Tryd.f19, hlo, l1, q1, hgr, hw, c1, c1', c2, hc1, Bool.not_true, Bool.not_false]
    all_goals rfl
   | false =>
    rw [h1] at hc1 ih1
    rw [if_neg (by simp)]
    simp only [go_sem, l19x2, b19, Tryd.f19, hlo, l1, q1, hgr, hw, c1, c1', c2, hc1, Bool.not_true, Bool.not_false]
    all_goals rfl
theorem es14 {d : Nat} {X Y : List (List V)} {lx i ly j : Int} {ss : List Sm} :
  evCode (Y14 lo h) loopW l19x2 (NS14 d X lx i Y ly j ss ss.length, h) = some (.exit 4, NS14 d X lx i Y ly j ss ss.length ++ [(62, .v (.bool false))], h) := by
 have q : decide ((ss.length : Int) < (ss.length : Int)) = false := by simp
 simp only [go_sem, l19x2, b19, Tryd.f19, q]
 all_goals rfl
theorem smsP_drop {d : Nat} {ss : List Sm} {k : Nat} (hk : k < ss.length) : smsP sound d (k == 0) (ss.drop k) = (((k == 0 || decide (2 < ss[k].k)) && simpleP sound d ss[k]) && smsP sound d (k + 1 == 0) (ss.drop (k + 1))) := by
 rw [List.drop_eq_getElem_cons hk, smsP]
 rfl
theorem ls14 {d : Nat} {X Y : List (List V)} {lx i ly j : Int} {ss : List Sm} (hlo : lo <= h.length) (hl : ss.length <= 1000000000) (hc : ∀ s ∈ ss, C22 d s) : ∀ (m k : Nat), k + m = ss.length ->
  loopW (evCode (Y14 lo h) loopW l19x2) (NS14 d X lx i Y ly j ss k, h) =
   if smsP sound d (k == 0) (ss.drop k) = true then some (.exit 4, NS14 d X lx i Y ly j ss ss.length ++ [(62, .v (.bool false))], h) else some (.ret, [(4, .v (.bool false))], h) := by
 intro m
 induction m with
 | zero =>
  intro k hk
  obtain rfl : k = ss.length := by omega
  rw [List.drop_length, smsP, if_pos rfl, loop_eq, es14, loop_e]
 | succ m ih =>
  intro k hk
  have hlt : k < ss.length := by omega
  have hr := rs14 (lo := lo) (h := h) (X := X) (Y := Y) (lx := lx) (i := i) (ly := ly) (j := j) hlo hl (List.getElem?_eq_getElem hlt) (hc _ (List.getElem_mem hlt))
  rw [smsP_drop hlt, loop_eq, hr]
  cases hm : ((k == 0 || decide (2 < ss[k].k)) && simpleP sound d ss[k]) with
  | true => rw [if_pos rfl, loop_n, Bool.true_and, ih (k + 1) (by omega)]
  | false => rw [if_neg (by simp), loop_r, Bool.false_and, if_neg (by simp)]
def Cp14 (d : Nat) : Cp -> Prop
 | .mk c ss => ss.length <= 1000000000 /\ ∀ s ∈ ss, C22 d s
abbrev NP14 (d : Nat) (X : List (List V)) (lx i : Int) (ps : List Cp) (j : Int) : Env :=
 [(1, .v (.int .i64 d)), (18, .list .no X), (19, .v (.int .i64 lx)), (20, .v (.int .i64 i)), (29, .list .no (cpsC ps)), (30, .v (.int .i64 ps.length)), (31, .v (.int .i64 j))]
theorem rp14 {d : Nat} {X : List (List V)} {lx i : Int} {ps : List Cp} {c : Int} {ss : List Sm} {j : Nat} (hlo : lo <= h.length) (hl : ps.length <= 1000000000) (hg : ps[j]? = some (.mk c ss)) (hc : Cp14 d (.mk c ss)) :
  evCode (Y14 lo h) loopW l19x1 (NP14 d X lx i ps j, h) =
   if ((((j == 0) == (c == 0)) && decide (0 <= c) && decide (c <= 4) && !ss.isEmpty) && smsP sound d true ss) = true then some (.normal, NP14 d X lx i ps (j + 1 : Nat), h) else some (.ret, [(4, .v (.bool false))], h) := by
 have hlt : j < ps.length := (List.getElem?_eq_some_iff.1 hg).1
 have hgr : (cpsC ps)[j]? = some (cpV (.mk c ss)) := by simp [cpsC_map, hg]
 rw [cpV_eq] at hgr
 have l1 : lo <= h.length + 1 := by omega
 have q1 : decide ((j : Int) < (ps.length : Int)) = true := by simp; omega
 have hw : IntKind.i64.wrap ((j : Int) + 1) = ((j + 1 : Nat) : Int) := wrap_succ (by omega)
 have ez : ((ss.length : Int) == 0) = ss.isEmpty := by cases ss with | nil => rfl | cons y r => simp; omega
 have dz : decide ((ss.length : Int) = 0) = ss.isEmpty := by rw [<- ez]; rw [Bool.eq_iff_iff]; simp
 have c0 : ((j : Int) == 0) = (j == 0) := by rw [Bool.eq_iff_iff]; simp
 have o2 : decide (c < 0) = !decide (0 <= c) := by rw [Bool.eq_iff_iff]; simp
 have o3 : decide (4 < c) = !decide (c <= 4) := by rw [Bool.eq_iff_iff]; simp
 have o3' : decide (c > 4) = !decide (c <= 4) := by rw [Bool.eq_iff_iff]; simp
 have n0 : ((0 : Nat) : Int) = 0 := rfl
 have hL := ls14 (lo := lo) (h := h) (X := X) (lx := lx) (i := i) (Y := cpsC ps) (ly := ps.length) (j := j) (d := d) hlo hc.1 hc.2 ss.length 0 (by omega)
 have z0 : ((0 : Nat) == 0) = true := rfl
 rw [List.drop_zero, z0] at hL
 generalize (j == 0) = J at *
 have hcd : (!(J == (c == 0)) || decide (c < 0) || decide (4 < c) || ((ss.length : Int) == 0)) = !((J == (c == 0)) && decide (0 <= c) && decide (c <= 4) && !ss.isEmpty) := by
  rw [ez, o2, o3]
  simp only [Bool.not_and, Bool.not_not]
 generalize ((J == (c == 0)) && decide (0 <= c) && decide (c <= 4) && !ss.isEmpty) = W at *
 cases W with
 | false =>
  rw [Bool.false_and, if_neg (by simp)]
  simp only [go_sem, l19x1, b19, Tryd.f19, hlo, l1, q1, hgr, hw, c0, smsC_len]
  rw [hcd]
  all_goals rfl
 | true =>
  rw [Bool.true_and]
  cases h5 : smsP sound d true ss with
  | true =>
   rw [h5, if_pos rfl] at hL
   simp only [l19x2, b19, Tryd.f19, loopAt, loops, bodyOf, go_sem, NS14, n0, List.cons_append, List.nil_append] at hL
   rw [if_pos rfl]
   simp only [go_sem, l19x1, b19, Tryd.f19, hlo, l1, q1, hgr, hw, c0, hL, smsC_len]
   try rw [hcd]
   all_goals rfl
  | false =>
   rw [h5, if_neg (by simp)] at hL
   simp only [l19x2, b19, Tryd.f19, loopAt, loops, bodyOf, go_sem, NS14, n0, List.cons_append, List.nil_append] at hL
   rw [if_neg (by simp)]
   simp only [go_sem, l19x1, b19, Tryd.f19, hlo, l1, q1, hgr, hw, c0, hL, smsC_len]
   try rw [hcd]
   all_goals rfl
theorem ep14 {d : Nat} {X : List (List V)} {lx i : Int} {ps : List Cp} :
  evCode (Y14 lo h) loopW l19x1 (NP14 d X lx i ps ps.length, h) = some (.exit 2, NP14 d X lx i ps ps.length ++ [(32, .v (.bool false))], h) := by
 have q : decide ((ps.length : Int) < (ps.length : Int)) = false := by simp
 simp only [go_sem, l19x1, b19, Tryd.f19, q]
 all_goals rfl
theorem lp14 {d : Nat} {X : List (List V)} {lx i : Int} {ps : List Cp} (hlo : lo <= h.length) (hl : ps.length <= 1000000000) (hc : ∀ p ∈ ps, Cp14 d p) : ∀ (m j : Nat), j + m = ps.length ->
  loopW (evCode (Y14 lo h) loopW l19x1) (NP14 d X lx i ps j, h) =
   if cpsP sound d (j == 0) (ps.drop j) = true then some (.exit 2, NP14 d X lx i ps ps.length ++ [(32, .v (.bool false))], h) else some (.ret, [(4, .v (.bool false))], h) := by
 intro m
 induction m with
 | zero =>
  intro j hj
  obtain rfl : j = ps.length := by omega
  rw [List.drop_length, cpsP, if_pos rfl, loop_eq, ep14, loop_e]
 | succ m ih =>
  intro j hj
  have hlt : j < ps.length := by omega
  have hm := hc _ (List.getElem_mem hlt)
  have hg := List.getElem?_eq_getElem hlt
  rw [List.drop_eq_getElem_cons hlt]
  generalize ps[j] = p at *
  obtain ⟨c, ss⟩ := p
  have hr := rp14 (lo := lo) (h := h) (X := X) (lx := lx) (i := i) hlo hl hg hm
  have z1 : (j + 1 == 0) = false := rfl
  rw [cpsP, loop_eq, hr]
  cases hw : ((((j == 0) == (c == 0)) && decide (0 <= c) && decide (c <= 4) && !ss.isEmpty) && smsP sound d true ss) with
  | true => rw [if_pos rfl, loop_n, Bool.true_and, ih (j + 1) (by omega), z1]
  | false => rw [if_neg (by simp), loop_r, Bool.false_and, if_neg (by simp)]
def Cx14 (d : Nat) : Sel.Cx -> Prop
 | .mk ps => ps.length <= 1000000000 /\ ∀ p ∈ ps, Cp14 d p
abbrev NX14 (d : Nat) (l : List Sel.Cx) (i : Int) : Env := [(1, .v (.int .i64 d)), (18, .list .no (cxsC l)), (19, .v (.int .i64 l.length)), (20, .v (.int .i64 i))]
theorem rx14 {d : Nat} {l : List Sel.Cx} {ps : List Cp} {i : Nat} (hlo : lo <= h.length) (hl : l.length <= 1000000000) (hg : l[i]? = some (.mk ps)) (hc : Cx14 d (.mk ps)) :
  evCode (Y14 lo h) loopW l19x0 (NX14 d l i, h) =
   if (!ps.isEmpty && cpsP sound d true ps) = true then some (.normal, NX14 d l (i + 1 : Nat), h) else some (.ret, [(4, .v (.bool false))], h) := by
 have hlt : i < l.length := (List.getElem?_eq_some_iff.1 hg).1
 have hgr : (cxsC l)[i]? = some (cxV (.mk ps)) := by simp [cxsC_map, hg]
 rw [cxV_eq] at hgr
 have l1 : lo <= h.length + 1 := by omega
 have q1 : decide ((i : Int) < (l.length : Int)) = true := by simp; omega
 have hw : IntKind.i64.wrap ((i : Int) + 1) = ((i + 1 : Nat) : Int) := wrap_succ (by omega)
 have ez : ((ps.length : Int) == 0) = ps.isEmpty := by cases ps with | nil => rfl | cons y r => simp; omega
 have n0 : ((0 : Nat) : Int) = 0 := rfl
 have hL := lp14 (lo := lo) (h := h) (X := cxsC l) (lx := l.length) (i := i) (d := d) hlo hc.1 hc.2 ps.length 0 (by omega)
 have z0 : ((0 : Nat) == 0) = true := rfl
 rw [List.drop_zero, z0] at hL
 cases h1 : ps.isEmpty with
 | true =>
  rw [h1] at ez
  rw [Bool.not_true, Bool.false_and, if_neg (by simp)]
  simp only [go_sem, l19x0, b19, Tryd.f19, hlo, l1, q1, hgr, hw, ez, cpsC_len]
  all_goals rfl
 | false =>
  rw [h1] at ez
  rw [Bool.not_false, Bool.true_and]
  cases h5 : cpsP sound d true ps with
  | true =>
   rw [h5, if_pos rfl] at hL
   simp only [l19x1, b19, Tryd.f19, loopAt, loops, bodyOf, go_sem, NP14, n0, List.cons_append, List.nil_append] at hL
   rw [if_pos rfl]
   simp only [go_sem, l19x0, b19, Tryd.f19, hlo, l1, q1, hgr, hw, ez, hL, cpsC_len]
   all_goals rfl
  | false =>
   rw [h5, if_neg (by simp)] at hL
   simp only [l19x1, b19, Tryd.f19, loopAt, loops, bodyOf, go_sem, NP14, n0, List.cons_append, List.nil_append] at hL
   rw [if_neg (by simp)]
   simp only [go_sem, l19x0, b19, Tryd.f19, hlo, l1, q1, hgr, hw, ez, hL, cpsC_len]
   all_goals rfl
theorem ex14 {d : Nat} {l : List Sel.Cx} :
  evCode (Y14 lo h) loopW l19x0 (NX14 d l l.length, h) = some (.exit 0, NX14 d l l.length ++ [(21, .v (.bool false))], h) := by
 have q : decide ((l.length : Int) < (l.length : Int)) = false := by simp
 simp only [go_sem, l19x0, b19, Tryd.f19, q]
 all_goals rfl
theorem lx14 {d : Nat} {l : List Sel.Cx} (hlo : lo <= h.length) (hl : l.length <= 1000000000) (hc : ∀ c ∈ l, Cx14 d c) : ∀ (m i : Nat), i + m = l.length ->
  loopW (evCode (Y14 lo h) loopW l19x0) (NX14 d l i, h) =
   if cxsP sound d (l.drop i) = true then some (.exit 0, NX14 d l l.length ++ [(21, .v (.bool false))], h) else some (.ret, [(4, .v (.bool false))], h) := by
 intro m
 induction m with
 | zero =>
  intro i hi
  obtain rfl : i = l.length := by omega
  rw [List.drop_length, cxsP, if_pos rfl, loop_eq, ex14, loop_e]
 | succ m ih =>
  intro i hi
  have hlt : i < l.length := by omega
  have hm := hc _ (List.getElem_mem hlt)
  have hg := List.getElem?_eq_getElem hlt
  rw [List.drop_eq_getElem_cons hlt]
  generalize l[i] = p at *
  obtain ⟨ps⟩ := p
  have hr := rx14 (lo := lo) (h := h) hlo hl hg hm
  rw [cxsP, loop_eq, hr]
  cases hw : (!ps.isEmpty && cpsP sound d true ps) with
  | true => rw [if_pos rfl, loop_n, Bool.true_and, ih (i + 1) (by omega)]
  | false => rw [if_neg (by simp), loop_r, Bool.false_and, if_neg (by simp)]
theorem f14_of {d : Nat} {l : List Sel.Cx} (hlo : lo <= h.length) (hd : d <= 100) (hl : l.length <= 1000000000) (hc : d <= 65 -> ∀ c ∈ l, Cx14 d c) :
  E lo 19 [.list .no (cxsC l), .v (.int .i64 d)] h = some (.v (.bool (mayP sound d l)), h) := by
 have ez : ((l.length : Int) == 0) = l.isEmpty := by cases l with | nil => rfl | cons y r => simp; omega
 have n0 : ((0 : Nat) : Int) = 0 := rfl
 have e1 : decide (65 < (d : Int)) = !decide (d <= 65) := by rw [Bool.eq_iff_iff]; simp; omega
 rw [e19 (by simp) (by rfl), mayP]
 cases h1 : l.isEmpty with
 | true =>
  rw [h1] at ez
  simp only [go_sem, b19, Tryd.f19, hlo, ez, cxsC_len, Bool.not_true, Bool.false_and]
  all_goals rfl
 | false =>
 rw [h1] at ez
 rw [Bool.not_false, Bool.true_and]
 cases h2 : decide (d <= 65) with
 | false =>
  rw [h2] at e1
  simp only [go_sem, b19, Tryd.f19, hlo, ez, e1, cxsC_len, Bool.not_false, Bool.false_and]
  all_goals rfl
 | true =>
 rw [h2] at e1
 have hL := lx14 (lo := lo) (h := h) (l := l) (d := d) hlo hl (hc (by simpa using h2)) l.length 0 (by omega)
 rw [List.drop_zero] at hL
 rw [Bool.true_and]
 cases h5 : cxsP sound d l with
 | true =>
  rw [h5, if_pos rfl] at hL
  simp only [l19x0, b19, Tryd.f19, loopAt, loops, bodyOf, go_sem, NX14, n0, List.cons_append, List.nil_append] at hL
  simp only [go_sem, b19, Tryd.f19, hlo, ez, e1, hL, cxsC_len, Bool.not_true]
  all_goals rfl
 | false =>
  rw [h5, if_neg (by simp)] at hL
  simp only [l19x0, b19, Tryd.f19, loopAt, loops, bodyOf, go_sem, NX14, n0, List.cons_append, List.nil_append] at hL
  simp only [go_sem, b19, Tryd.f19, hlo, ez, e1, hL, cxsC_len, Bool.not_true]
  all_goals rfl
end Go.Lift.Q1
end

section
open Go.Proofs
namespace Go.Lift.Q1
variable [MX]
variable {lo : Nat} {h : Heap}
open Utf Spell Sel
mutual
theorem sm_ok : ∀ (s : Sm), okSm s -> ∀ d : Nat, d <= 65 -> C22 d s
 | .mk k n o v f l a b => by
  have ih := cxs_ok l
  intro hs d hd lo h hlo
  rw [okSm] at hs
  exact f29 hs.1 hd (fun lo h hlo => f14_of hlo (by omega) hs.1.2.2.2.2 fun h65 c hc => ih hs.2 (d + 1) h65 c hc) hlo
theorem sms_ok : ∀ (l : List Sm), okSms l -> ∀ d : Nat, d <= 65 -> ∀ s ∈ l, C22 d s
 | [] => fun _ _ _ _ h => nomatch h
 | x :: r => by
  have i1 := sm_ok x
  have i2 := sms_ok r
  intro hs d hd s hm
  rw [okSms] at hs
  rcases List.mem_cons.1 hm with rfl | hm
  ·exact i1 hs.1 d hd
  ·exact i2 hs.2 d hd s hm
theorem cps_ok : ∀ (l : List Cp), okCps l -> ∀ d : Nat, d <= 65 -> ∀ p ∈ l, Cp14 d p
 | [] => fun _ _ _ _ h => nomatch h
 | .mk c ss :: r => by
  have i1 := sms_ok ss
  have i2 := cps_ok r
  intro hs d hd p hm
  rw [okCps] at hs
  rcases List.mem_cons.1 hm with rfl | hm
  ·exact ⟨hs.1.1, i1 hs.1.2 d hd⟩
  ·exact i2 hs.2 d hd p hm
theorem cxs_ok : ∀ (l : List Sel.Cx), okCxs l -> ∀ d : Nat, d <= 65 -> ∀ c ∈ l, Cx14 d c
 | [] => fun _ _ _ _ h => nomatch h
 | .mk ps :: r => by
  have i1 := cps_ok ps
  have i2 := cxs_ok r
  intro hs d hd p hm
  rw [okCxs] at hs
  rcases List.mem_cons.1 hm with rfl | hm
  ·exact ⟨hs.1.1, i1 hs.1.2 d hd⟩
  ·exact i2 hs.2 d hd p hm
end
theorem f19 {d : Nat} {l : List Sel.Cx} (hlo : lo <= h.length) (hd : d <= 100) (hl : l.length <= 1000000000) (hs : okCxs l) :
  E lo 19 [.list .no (cxsC l), .v (.int .i64 d)] h = some (.v (.bool (mayP sound d l)), h) := f14_of hlo hd hl fun hd c hc => cxs_ok l hs d hd c hc
theorem f12 {l : List Sel.Cx} (hlo : lo <= h.length) (hl : l.length <= 1000000000) (hs : okCxs l) :
  E lo 12 [.list .no (cxsC l)] h = some (.v (.bool (mayP sound 1 l)), h) := by
 have k1 := f19 (lo := lo) (d := 1) hlo (by omega) hl hs
 have k2 := f19 (lo := h.length) (h := h) (d := 1) (Nat.le_refl _) (by omega) hl hs
 have n1 : ((1 : Nat) : Int) = 1 := rfl
 rw [n1] at k1 k2
 rw [e12 (by simp) (by rfl)]
 simp only [go_sem, b12, Tryd.f12, k1, k2]
 all_goals rfl
end Go.Lift.Q1
end

section
open Go.Proofs
namespace Go.Lift.Q1
open Rul
variable [MX]
variable {lo : Nat} {h : Heap}
abbrev N48 (l : List CV) (d k : Int) : Env := [(1, .v (.int .i64 d)), (7, .list .no (rowsC l)), (8, .v (.int .i64 l.length)), (9, .v (.int .i64 k))]
theorem round9 {l : List CV} {v : CV} {n k : Nat} (hn : n <= 64) (hlo : lo <= h.length) (hl : nodesL l <= 1000000000000000000) (hg : l[k]? = some v)
  (ih : ∀ m, n = m + 1 -> ∀ lo ks h, lo <= h.length -> nodesL ks <= 1000000000000000000 -> E lo 9 [.list .no (rowsC ks), .v (.int .i64 ((m : Int)))] h = some (.v (.bool (mayL m ks)), h)) :
  evCode ⟨Tryd.prog, E, lo, h.length, h9⟩ loopW l9x0 (N48 l ((n : Int)) k, h) =
   if mayV n v = true then some (.normal, N48 l ((n : Int)) (k + 1 : Nat), h) else some (.ret, [(4, .v (.bool false))], h ++ [.cells (rowV v)]) := by
 obtain ⟨t, ks⟩ := v
 have hlt : k < l.length := (List.getElem?_eq_some_iff.1 hg).1
 have hgr : (rowsC l)[k]? = some (rowV (.mk t ks)) := by rw [rowsC_get, hg]; rfl
 have q : decide ((k : Int) < (l.length : Int)) = true := by simp; omega
 have hll := nodesL_len l
 have hkk : nodesL ks <= nodesL l := nodesL_get (v := .mk t ks) hg
 have hw : IntKind.i64.wrap ((k : Int) + 1) = ((k + 1 : Nat) : Int) := wrap_succ (by omega)
 have hlo' : lo <= h.length + 1 := by omega
 have c42 := fun lo hlo => f15 (lo := lo) (h := h ++ [.cells (rowV (.mk t ks))]) hlo t.k
 have c42a := c42 lo (by simp; omega); have c42b := c42 h.length (by simp); have c42c := c42 (h.length + 1) (by simp)
 clear c42
 rw [mayV_eq]
 rw [rowV_eq] at *
 by_cases a1 : t.k < 1
 ·have q1 : decide (t.k < 1) = true := by simpa using a1
  have : decide (1 <= t.k /\ t.k <= 24) = false := by rw [decide_eq_false_iff_not]; omega
  rw [this, Bool.false_and, if_neg (by simp)]
  simp only [go_sem, l9x0, b9, Tryd.f9, hlo, hlo', q, hgr, q1, rowsC_len]
  all_goals rfl
 have q1 : decide (t.k < 1) = false := by simpa using a1
 by_cases a2 : 24 < t.k
 ·have q2 : decide (24 < t.k) = true := by simpa using a2
  have : decide (1 <= t.k /\ t.k <= 24) = false := by rw [decide_eq_false_iff_not]; omega
  rw [this, Bool.false_and, if_neg (by simp)]
  simp only [go_sem, l9x0, b9, Tryd.f9, hlo, hlo', q, hgr, q1, q2, rowsC_len]
  all_goals rfl
 have q2 : decide (24 < t.k) = false := by simpa using a2
 have : decide (1 <= t.k /\ t.k <= 24) = true := by rw [decide_eq_true_iff]; omega
 rw [this, Bool.true_and]
 by_cases a3 : closer t.k = 0
 ·rw [if_pos a3]
  have q3 : (closer t.k == 0) = true := by simpa using a3
  cases ks with
  | nil =>
   have q4 : decide ((0 : Int) < ((0 : Nat) : Int)) = false := rfl
   rw [if_pos (show ([] : List CV).isEmpty = true from rfl)]
   simp only [go_sem, l9x0, b9, Tryd.f9, hlo, hlo', q, hgr, q1, q2, q3, q4, hw, c42a, c42b, c42c, rowsC_len, List.length_nil]
   all_goals rfl
  | cons x r =>
   have q4 : decide ((0 : Int) < ((r.length + 1 : Nat) : Int)) = true := by rw [decide_eq_true_iff]; omega
   rw [if_neg (show ¬ (x :: r).isEmpty = true by simp)]
   simp only [go_sem, l9x0, b9, Tryd.f9, hlo, hlo', q, hgr, q1, q2, q3, q4, hw, c42a, c42b, c42c, rowsC_len, List.length_cons]
   all_goals rfl
 ·rw [if_neg a3]
  have q3 : (closer t.k == 0) = false := by simpa using a3
  cases n with
  | zero =>
   have q5 : (((0 : Nat) : Int) == 0) = true := rfl
   rw [if_neg (show ¬ false = true by simp)]
   simp only [go_sem, l9x0, b9, Tryd.f9, hlo, hlo', q, hgr, q1, q2, q3, q5, hw, c42a, c42b, c42c, rowsC_len]
   all_goals rfl
  | succ m =>
   have q5 : (((m + 1 : Nat) : Int) == 0) = false := by rw [beq_eq_false_iff_ne]; omega
   have w2 : IntKind.i64.wrap (((m + 1 : Nat) : Int) - 1) = (m : Int) := by
    rw [wrap_i64 (by omega) (by omega)]; omega
   have c15 := fun lo hlo => ih m rfl lo ks (h ++ [.cells (rowV (.mk t ks))]) hlo (by omega)
   rw [rowV_eq] at c15
   have c15a := c15 lo (by simp; omega); have c15b := c15 h.length (by simp); have c15c := c15 (h.length + 1) (by simp)
   clear c15 ih
   show _ = if mayL m ks = true then _ else _
   cases hm : mayL m ks with
   | true =>
    rw [hm] at c15a c15b c15c
    rw [if_pos rfl]
    simp only [go_sem, l9x0, b9, Tryd.f9, hlo, hlo', q, hgr, q1, q2, q3, q5, hw, w2, c42a, c42b, c42c, c15a, c15b, c15c, rowsC_len]
    all_goals rfl
   | false =>
    rw [hm] at c15a c15b c15c
    rw [if_neg (by simp)]
    simp only [go_sem, l9x0, b9, Tryd.f9, hlo, hlo', q, hgr, q1, q2, q3, q5, hw, w2, c42a, c42b, c42c, c15a, c15b, c15c, rowsC_len]
    all_goals rfl
theorem stop9 {l : List CV} {d : Int} (hlo : lo <= h.length) : evCode ⟨Tryd.prog, E, lo, h.length, h9⟩ loopW l9x0 (N48 l d l.length, h) =
   some (.exit 0, N48 l d l.length ++ [(10, .v (.bool false))], h) := by
 have q : decide ((l.length : Int) < (l.length : Int)) = false := by simp
 simp only [go_sem, l9x0, b9, Tryd.f9, hlo, q]
 all_goals rfl
theorem loop9 {l : List CV} {n : Nat} (hn : n <= 64) (hlo : lo <= h.length) (hl : nodesL l <= 1000000000000000000)
  (ih : ∀ m, n = m + 1 -> ∀ lo ks h, lo <= h.length -> nodesL ks <= 1000000000000000000 -> E lo 9 [.list .no (rowsC ks), .v (.int .i64 ((m : Int)))] h = some (.v (.bool (mayL m ks)), h)) :
  ∀ (m k : Nat), k + m = l.length -> if mayL n (l.drop k) = true then
    loopW (evCode ⟨Tryd.prog, E, lo, h.length, h9⟩ loopW l9x0) (N48 l ((n : Int)) k, h) = some (.exit 0, N48 l ((n : Int)) l.length ++ [(10, .v (.bool false))], h)
   else ∃ X, loopW (evCode ⟨Tryd.prog, E, lo, h.length, h9⟩ loopW l9x0) (N48 l ((n : Int)) k, h) = some (.ret, [(4, .v (.bool false))], h ++ X) := by
 intro m
 induction m with
 | zero =>
  intro k hk
  obtain rfl : k = l.length := by omega
  rw [List.drop_length, if_pos (mayL_nil n), loop_eq, stop9 hlo, loop_e]
 | succ m ihm =>
  intro k hk
  have hlt : k < l.length := by omega
  have hg : l[k]? = some l[k] := List.getElem?_eq_getElem hlt
  have hd : l.drop k = l[k] :: l.drop (k + 1) := List.drop_eq_getElem_cons hlt
  rw [hd, mayL_cons]
  generalize l[k] = v at *
  have hr := round9 hn hlo hl hg ih
  cases hm : mayV n v with
  | false =>
   rw [hm, if_neg (by simp)] at hr
   rw [Bool.false_and, if_neg (by simp)]
   exact ⟨_, by rw [loop_eq, hr, loop_r]⟩
  | true =>
   rw [hm, if_pos rfl] at hr
   rw [Bool.true_and, loop_eq, hr, loop_n]
   exact ihm (k + 1) (by omega)
theorem f9 : ∀ (n : Nat), n <= 64 -> ∀ (lo : Nat) (l : List CV) (h : Heap), lo <= h.length -> nodesL l <= 1000000000000000000 -> E lo 9 [.list .no (rowsC l), .v (.int .i64 ((n : Int)))] h = some (.v (.bool (mayL n l)), h) := by
 intro n
 induction n with
 | zero =>
  intro hn lo l h hlo hl
  have hL := loop9 (lo := lo) (h := h) hn hlo hl (fun m hm => by omega) l.length 0 (by omega)
  have n0 : ((0 : Nat) : Int) = 0 := rfl
  rw [List.drop_zero] at hL
  rw [e9 (by simp) (by rfl)]
  cases hm : mayL 0 l with
  | false =>
   rw [hm, if_neg (by simp)] at hL
   obtain ⟨X, hL⟩ := hL
   simp only [l9x0, b9, Tryd.f9, loopAt, loops, bodyOf, go_sem, N48, n0] at hL
   simp only [go_sem, b9, Tryd.f9, hlo, hL, rowsC_len, n0]
   all_goals rfl
  | true =>
   rw [hm, if_pos rfl] at hL
   simp only [l9x0, b9, Tryd.f9, loopAt, loops, bodyOf, go_sem, N48, n0, List.cons_append, List.nil_append] at hL
   simp only [go_sem, b9, Tryd.f9, hlo, hL, rowsC_len, n0]
   all_goals rfl
 | succ n ih =>
  intro hn lo l h hlo hl
  have hL := loop9 (lo := lo) (h := h) hn hlo hl (fun m hm => by
   obtain rfl : n = m := by omega
   exact fun lo ks h hlo hk => ih (by omega) lo ks h hlo hk) l.length 0 (by omega)
  have n0 : ((0 : Nat) : Int) = 0 := rfl
  rw [List.drop_zero] at hL
  rw [e9 (by simp) (by rfl)]
  cases hm : mayL (n + 1) l with
  | false =>
   rw [hm, if_neg (by simp)] at hL
   obtain ⟨X, hL⟩ := hL
   simp only [l9x0, b9, Tryd.f9, loopAt, loops, bodyOf, go_sem, N48, n0] at hL
   simp only [go_sem, b9, Tryd.f9, hlo, hL, rowsC_len, n0]
   all_goals rfl
  | true =>
   rw [hm, if_pos rfl] at hL
   simp only [l9x0, b9, Tryd.f9, loopAt, loops, bodyOf, go_sem, N48, n0, List.cons_append, List.nil_append] at hL
   simp only [go_sem, b9, Tryd.f9, hlo, hL, rowsC_len, n0]
   all_goals rfl
theorem f10 {l : List CV} (hlo : lo <= h.length) (hl : nodesL l <= 1000000000000000000) : E lo 10 [.list .no (rowsC l)] h = some (.v (.bool (mayL 64 l)), h) := by
 have k := fun lo hlo => f16 64 (by omega) lo l h hlo hl
 rw [show (64 : Int) - ((64 : Nat) : Int) = 0 from rfl] at k
 have ka := k lo hlo; have kb := k h.length (Nat.le_refl _)
 rw [e10 (by simp) (by rfl)]
 simp only [go_sem, b10, Tryd.f10, hlo, ka, kb]
 all_goals rfl
theorem f4 {l : List CV} (hlo : lo <= h.length) (hl : nodesL l <= 1000000000000000000) : E lo 4 [.list .no (rowsC l)] h = some (.v (.bool (mayL 64 l)), h) := by
 have k := fun lo hlo => f9 64 (by omega) lo l h hlo hl
 rw [show ((64 : Nat) : Int) = 64 from rfl] at k
 have ka := k lo hlo; have kb := k h.length (Nat.le_refl _)
 rw [e4 (by simp) (by rfl)]
 simp only [go_sem, b4, Tryd.f4, hlo, ka, kb]
 all_goals rfl
end Go.Lift.Q1
end

section
namespace Go.Lift.Sel
open Rul (CV Tk4 small trim split pieces spaceC allL allL_iff allL_sub nodesL nodesL_len nodesL_mem nodesV_eq)
structure TB (t : Tk4) : Prop where
 hy : Utf.By t.b
 hl : t.b.length <= 1000000000
theorem tb_tz : TB tz := ⟨fun c hc => absurd hc (by simp [tz]), by simp [tz]⟩
theorem tb_tk {l : List CV} (h : allL TB l) : TB (tk l) := by
 cases l with
 | nil => exact tb_tz
 | cons v r => exact (allL_iff.1 h v (by simp)).1
theorem tb_suf {l m : List CV} (h : allL TB l) (hs : m <:+ l) : allL TB m := allL_sub h fun v hv => hs.subset hv
theorem by_nil : Utf.By [] := fun c hc => nomatch hc
theorem okc_nil : okCxs [] := by rw [okCxs]; trivial
theorem ok_of {k : Int} {n : List Int} {o : Int} {v : List Int} {f : Bool} {l : List Cx} {a b : Int} (h1 : Utf.By n) (h2 : n.length <= 1000000000) (h3 : Utf.By v) (h4 : v.length <= 1000000000) (h5 : l.length <= 1000000000) (h6 : okCxs l) : okSm (.mk k n o v f l a b) := by
 rw [okSm]; exact ⟨⟨h1, h2, h3, h4, h5⟩, h6⟩
theorem ok_nm {k : Int} {n : List Int} {o : Int} {v : List Int} {f : Bool} {a b : Int} (h1 : Utf.By n) (h2 : n.length <= 1000000000) (h3 : Utf.By v) (h4 : v.length <= 1000000000) : okSm (.mk k n o v f [] a b) :=
 ok_of h1 h2 h3 h4 (by simp) okc_nil
variable {cf : Cf} {sub : List CV -> Option (List Cx)}
theorem attr_ok {l : List CV} {s : Sm} (ht : allL TB l) (h : attrT cf l = some s) : okSm s := by
 have q := tb_tk ht
 unfold attrT at h
 split at h
 ·split at h
  ·cases h; exact ok_nm q.hy q.hl by_nil (by simp)
  ·split at h
   ·cases h
   ·rename_i o r ho
    have hr : allL TB r := by
     have hs : r <:+ l := by
      have e : r <:+ db l.tail := by
       unfold opT at ho
       repeat' split at ho
       all_goals first | (cases ho; done) | (cases ho; first | exact (suf_tail _).trans (suf_tail _) | exact suf_tail _)
      exact e.trans ((suf_db _).trans (suf_tail _))
     exact tb_suf ht hs
    have q2 := tb_tk (tb_suf hr (suf_db r))
    split at h
    ·rw [Option.map_eq_some_iff] at h
     obtain ⟨f, _, rfl⟩ := h
     exact ok_nm q.hy q.hl q2.hy q2.hl
    ·cases h
 ·cases h
theorem pseudo_ok {v : CV} {s : Sm} (hs : ∀ cs, v.k = 2 -> sub v.ks = some cs -> okCxs cs /\ cs.length <= 1000000000) (h : pseudoT sub v = some s) : okSm s := by
 unfold pseudoT at h
 split at h
 ·split at h
  ·cases h; exact ok_nm by_nil (by simp) by_nil (by simp)
  ·cases h
 ·split at h
  ·rename_i hk
   split at h
   ·rw [Option.map_eq_some_iff] at h
    obtain ⟨f, hf, rfl⟩ := h
    have := hs f (by simpa using hk) hf
    exact ok_of by_nil (by simp) by_nil (by simp) this.2 this.1
   ·split at h
    ·rw [Option.map_eq_some_iff] at h
     obtain ⟨f, _, rfl⟩ := h
     exact ok_nm by_nil (by simp) by_nil (by simp)
    ·cases h
  ·cases h
theorem simple_ok {l r : List CV} {s : Sm} (ht : allL TB l) (hs : ∀ v ∈ l, ∀ cs, v.k = 2 -> sub v.ks = some cs -> okCxs cs /\ cs.length <= 1000000000) (h : simpleT cf sub l = some (some (s, r))) : okSm s := by
 have q := tb_tk ht
 have q2 := tb_tk (tb_suf ht (suf_tail l))
 unfold simpleT at h
 split at h
 ·split at h
  ·cases h; exact ok_nm q.hy q.hl by_nil (by simp)
  ·cases h
 split at h
 ·split at h
  ·cases h; exact ok_nm q2.hy q2.hl by_nil (by simp)
  ·cases h
 split at h
 ·cases h
 rename_i v r0 _ _
 split at h
 ·rw [Option.map_eq_some_iff] at h
  obtain ⟨s0, h0, h⟩ := h
  cases h
  exact attr_ok (allL_sub (allL_iff.1 ht v (by simp)).2 fun u hu => trim_mem hu) h0
 split at h
 ·split at h
  ·split at h <;> cases h
  ·rename_i u r2 _ _
   split at h
   ·cases h
   ·rw [Option.map_eq_some_iff] at h
    obtain ⟨s0, h0, h⟩ := h
    cases h
    exact pseudo_ok (hs u (by simp)) h0
 ·cases h
theorem sms_okapp : ∀ {a b : List Sm}, okSms a -> okSms b -> okSms (a ++ b)
 | [], b, _, h => h
 | x :: a, b, h, h2 => by rw [okSms] at h; rw [List.cons_append, okSms]; exact ⟨h.1, sms_okapp h.2 h2⟩
theorem cps_okapp : ∀ {a b : List Cp}, okCps a -> okCps b -> okCps (a ++ b)
 | [], b, _, h => h
 | .mk c ss :: a, b, h, h2 => by rw [okCps] at h; rw [List.cons_append, okCps]; exact ⟨h.1, cps_okapp h.2 h2⟩
theorem sms_ok1 {s : Sm} (h : okSm s) : okSms [s] := by rw [okSms, okSms]; exact ⟨h, trivial⟩
theorem sms_ok0 : okSms [] := by rw [okSms]; trivial
theorem cps_ok0 : okCps [] := by rw [okCps]; trivial
theorem simples_ok : ∀ (n : Nat) (l : List CV) (acc ss : List Sm) (r : List CV), allL TB l -> (∀ v ∈ l, ∀ cs, v.k = 2 -> sub v.ks = some cs -> okCxs cs /\ cs.length <= 1000000000) -> okSms acc -> simplesT cf sub n l acc = some (ss, r) -> okSms ss
 | 0, l, acc, ss, r, _, _, _, h => by rw [simplesT] at h; cases h
 | n + 1, l, acc, ss, r, ht, hs, ha, h => by
  rw [simplesT] at h
  split at h
  ·cases h
  ·cases h; exact ha
  ·rename_i s r' he
   obtain ⟨_, h2, _⟩ := simple_some he
   exact simples_ok n r' _ ss r (tb_suf ht h2) (fun v hv => hs v (h2.subset hv)) (sms_okapp ha (sms_ok1 (simple_ok ht hs he))) h
theorem start_ok {l r : List CV} {a : List Sm} (ht : allL TB l) (h : startT cf l = some (a, r)) : okSms a := by
 have q := tb_tk ht
 unfold startT at h
 split at h
 ·split at h
  ·cases h; exact sms_ok1 (ok_nm q.hy q.hl by_nil (by simp))
  ·cases h
 ·split at h
  ·cases h; exact sms_ok1 (ok_nm by_nil (by simp) by_nil (by simp))
  ·cases h; exact sms_ok0
theorem compound_ok {l r : List CV} {ss : List Sm} (ht : allL TB l) (hs : ∀ v ∈ l, ∀ cs, v.k = 2 -> sub v.ks = some cs -> okCxs cs /\ cs.length <= 1000000000) (h : compoundT cf sub l = some (ss, r)) : okSms ss /\ ss.length <= l.length := by
 unfold compoundT at h
 split at h
 ·cases h
 ·rename_i a r0 he
  obtain ⟨h4, h5⟩ := start_some he
  split at h
  ·cases h
  ·rename_i ss' r' hx
   split at h
   ·cases h
   ·cases h
    obtain ⟨_, h2, h3⟩ := simples_pre _ _ _ _ _ hx
    exact ⟨simples_ok _ _ _ _ _ (tb_suf ht h4) (fun v hv => hs v (h4.subset hv)) (start_ok ht he) hx, by omega⟩
theorem complex_ok : ∀ (n : Nat) (c : Int) (l : List CV) (acc ps : List Cp), allL TB l -> (∀ v ∈ l, ∀ cs, v.k = 2 -> sub v.ks = some cs -> okCxs cs /\ cs.length <= 1000000000) -> okCps acc -> l.length <= 1000000000 ->
  complexF cf sub n c l acc = some (.mk ps) -> okCps ps /\ ps.length <= acc.length + l.length
 | 0, c, l, acc, ps, _, _, _, _, h => by rw [complexF] at h; cases h
 | n + 1, c, l, acc, ps, ht, hs, ha, hl, h => by
  rw [complexF] at h
  split at h
  ·cases h
  ·rename_i ss r he
   have h1 := compound_ok ht hs he
   obtain ⟨_, h2, h3⟩ := compound_some he
   have hc : okCps (acc ++ [.mk c ss]) := cps_okapp ha (by rw [okCps, okCps]; exact ⟨⟨by omega, h1.1⟩, trivial⟩)
   split at h
   ·cases h
    refine ⟨hc, ?_⟩
    rw [List.length_append, List.length_singleton]
    omega
   ·split at h
    ·cases h
    ·rename_i c' r' hb
     obtain ⟨_, _, h5⟩ := comb_some hb
     have := h5.length_le
     obtain ⟨k1, k2⟩ := complex_ok n c' r' _ ps (tb_suf ht (h5.trans h2)) (fun v hv => hs v ((h5.trans h2).subset hv)) hc (by omega) h
     refine ⟨k1, ?_⟩
     rw [List.length_append, List.length_singleton] at k2
     omega
theorem pieces_len : ∀ l : List CV, (pieces l).length <= l.length + 1
 | [] => by rw [pieces]; simp
 | v :: r => by
  have ih := pieces_len r
  rw [pieces]
  split
  ·rw [List.length_cons, List.length_cons]; omega
  ·split
   ·rename_i p q he
    rw [he] at ih
    rw [List.length_cons] at ih ⊢
    rw [List.length_cons]; omega
   ·simp
theorem pieces_lens : ∀ (l : List CV), ∀ p ∈ pieces l, p.length <= l.length
 | [], p, hp => by
  rw [pieces] at hp
  simp only [List.mem_singleton] at hp
  subst hp
  simp
 | v :: r, p, hp => by
  have ih := pieces_lens r
  rw [pieces] at hp
  split at hp
  ·rcases List.mem_cons.1 hp with rfl | hp
   ·simp
   ·have := ih p hp; rw [List.length_cons]; omega
  ·split at hp
   ·rename_i a q he
    rcases List.mem_cons.1 hp with rfl | hp
    ·have := ih a (by rw [he]; simp); rw [List.length_cons, List.length_cons]; omega
    ·have := ih p (by rw [he]; simp [hp]); rw [List.length_cons]; omega
   ·simp only [List.mem_singleton] at hp
    subst hp
    simp
theorem trim_le (l : List CV) : (trim l).length <= l.length := by
 unfold trim
 rw [List.length_reverse]
 have h1 := (List.dropWhile_suffix (p := spaceC) (l := (l.dropWhile spaceC).reverse)).length_le
 have h2 := (List.dropWhile_suffix (p := spaceC) (l := l)).length_le
 rw [List.length_reverse] at h1
 omega
theorem split_lens {l p : List CV} (h : p ∈ split l) : p.length <= l.length := by
 unfold split at h
 obtain ⟨q, hq, rfl⟩ := List.mem_map.1 h
 exact Nat.le_trans (trim_le q) (pieces_lens l q hq)
theorem list_ok : ∀ (ls : List (List CV)) (cs : List Cx), (∀ l ∈ ls, allL TB l /\ l.length <= 900000000 /\ ∀ v ∈ l, ∀ cs, v.k = 2 -> sub v.ks = some cs -> okCxs cs /\ cs.length <= 1000000000) -> listT cf sub ls = some cs -> okCxs cs
 | [], cs, _, h => by rw [listT] at h; cases h; exact okc_nil
 | l :: r, cs, hx, h => by
  have h0 := hx l (by simp)
  rw [listT] at h
  split at h
  ·cases h
  ·rename_i c hc
   split at h
   ·cases h
   ·rename_i cs' he
    cases h
    obtain ⟨ps⟩ := c
    have k := complex_ok _ _ _ _ _ h0.1 h0.2.2 cps_ok0 (by omega) hc
    rw [okCxs]
    refine ⟨⟨?_, k.1⟩, list_ok r cs' (fun m hm => hx m (by simp [hm])) he⟩
    have := k.2
    rw [List.length_nil] at this
    omega
theorem parse_ok : ∀ (n : Nat) (l : List CV) (cs : List Cx), allL TB l -> nodesL l <= 900000000 -> parseT cf n l = some cs -> okCxs cs /\ cs.length <= l.length + 1
 | 0, l, cs, _, _, h => by rw [parseT] at h; cases h
 | n + 1, l, cs, ht, hn, h => by
  have hl := nodesL_len l
  rw [parseT] at h
  have hlen := list_len _ _ h
  unfold split at hlen
  rw [List.length_map] at hlen
  have := pieces_len l
  refine ⟨list_ok _ _ (fun p hp => ⟨allL_sub ht fun v hv => split_mem hp hv, ?_, fun v hv cs hk hc => ?_⟩) h, by omega⟩
  ·have := split_lens hp; omega
  ·have hm := split_mem hp hv
   have hnm := nodesL_mem hm
   rw [nodesV_eq] at hnm
   have hk2 := nodesL_len v.ks
   have k := parse_ok n v.ks cs (allL_iff.1 ht v hm).2 (by omega) hc
   exact ⟨k.1, by omega⟩
end Go.Lift.Sel
end

section
open Go.Proofs
namespace Go.Lift.Q1
open Rul
open Utf (By)
open Sel (tk tz isD db Sm Cp cxV cxsC cxsC_map cxsC_len complexT listT parseT cd may_node okCxs)
variable [MX]
theorem nodesL_append (a b : List CV) : nodesL (a ++ b) = nodesL a + nodesL b := by
 induction a with
 | nil => rw [List.nil_append, nodesL_nil]; omega
 | cons x r ih => rw [List.cons_append, nodesL_cons, nodesL_cons, ih]; omega
theorem splitA_nodes : ∀ (acc l p : List CV), p ∈ splitA acc l -> nodesL p <= nodesL acc + nodesL l
 | acc, [], p, hp => by
  rw [splitA, List.mem_singleton] at hp
  subst hp
  have := nodesL_trim acc
  omega
 | acc, u :: r, p, hp => by
  rw [nodesL_cons]
  rw [splitA] at hp
  split at hp
  ·rcases List.mem_cons.1 hp with rfl | hp
   ·have := nodesL_trim acc; omega
   ·have := splitA_nodes [] r p hp
    rw [nodesL_nil] at this
    omega
  ·have := splitA_nodes (acc ++ [u]) r p hp
   rw [nodesL_append, nodesL_cons, nodesL_nil] at this
   omega
theorem split_nodes {l p : List CV} (hp : p ∈ splitB l) : nodesL p <= nodesL l := by
 have := splitA_nodes [] l p hp
 rw [nodesL_nil] at this
 omega
theorem split_sub {l p : List CV} (hp : p ∈ splitB l) : ∀ v ∈ p, v ∈ l := fun v hv => by
 rcases splitA_mem [] l p hp v hv with h | h
 ·cases h
 ·exact h
section
variable {lo : Nat} {h : Heap} {sub : List CV -> Option (List Sel.Cx)}
theorem cxsC_all (l : List Sel.Cx) : ((cxsC l).all fun x => x.length == 1) = true := by
 rw [cxsC_map, List.all_eq_true]
 intro x hx
 obtain ⟨⟨ps⟩, _, rfl⟩ := List.mem_map.1 hx
 rw [cxV]; rfl
theorem cxsC_ibr (l : List Sel.Cx) : isByteRow (cxsC l) = false := by
 cases l with
 | nil => rw [cxsC]; rfl
 | cons s r =>
  obtain ⟨ps⟩ := s
  rw [cxsC, cxV]; rfl
theorem cxsC_snoc (l : List Sel.Cx) (s : Sel.Cx) : cxsC (l ++ [s]) = cxsC l ++ [cxV s] := by
 rw [cxsC_map, cxsC_map]; simp
noncomputable abbrev X11 (lo : Nat) (h : Heap) : Lift.Cx := ⟨Tryd.prog, E, lo, h.length, h11⟩
abbrev NE11 (ps : List (List CV)) (out : List Sel.Cx) (i : Nat) : Env := [(4, .list .yes (cxsC out)), (11, .list .no (pcsC ps)), (12, .v (.int .i64 ps.length)), (13, .v (.int .i64 i))]
theorem r11 {ps : List (List CV)} {out : List Sel.Cx} {i : Nat} {piece : List CV} (hlo : lo <= h.length) (hg : ps[i]? = some piece) (hpl : ps.length <= 1000000001) (hol : out.length <= 1000000001)
  (c18 : match complexT cd sub piece with
   | none => ∃ b, E lo 18 [.ptr h.length 0] (h ++ Rd piece 0 :: []) = some (.tup [.agg [.list .no []], .v (.bool false)], h ++ Rd piece b :: [])
   | some c => ∃ b, E lo 18 [.ptr h.length 0] (h ++ Rd piece 0 :: []) = some (.tup [.agg (cxV c), .v (.bool true)], h ++ Rd piece b :: [])) :
  evCode (X11 lo h) loopW l11x0 (NE11 ps out i, h) = match complexT cd sub piece with
   | none => some (.ret, [(2, .list .yes []), (3, .v (.bool false))], h)
   | some c => some (.normal, NE11 ps (out ++ [c]) (i + 1), h) := by
 have hlo2 : lo <= h.length + 1 := by omega
 have hlo3 : lo <= h.length + 1 + 1 := by omega
 have hlo4 : lo <= h.length + 2 := by omega
 have hlt : i < ps.length := (List.getElem?_eq_some_iff.1 hg).1
 have q1 : decide ((i : Int) < (ps.length : Int)) = true := by rw [decide_eq_true_iff]; omega
 have hw : IntKind.i64.wrap ((i : Int) + 1) = ((i + 1 : Nat) : Int) := wrap_succ (by omega)
 have hgr : (pcsC ps)[i]? = some [.list .no (rowsC piece)] := by
  unfold pcsC
  rw [List.getElem?_map, hg]; rfl
 have pl := pcs_len ps
 have n0 : ((0 : Nat) : Int) = 0 := rfl
 cases hx : complexT cd sub piece with
 | none =>
  rw [hx] at c18
  obtain ⟨b, c18⟩ := c18
  simp only [Rd, n0] at c18
  generalize rowsC piece = PR at *
  simp only [go_sem, l11x0, b11, Tryd.f11, NE11, hlo, hlo2, hlo3, hlo4, q1, hgr, c18, pl]
  all_goals rfl
 | some c =>
  rw [hx] at c18
  obtain ⟨b, c18⟩ := c18
  have ra := cxsC_all out
  have rl := cxsC_len out
  have ri := cxsC_ibr out
  have o1 : (out.length + 1) * 24 <= 140737488355328 := by omega
  have o2 : out.length <= 9223372036854775806 := by omega
  obtain ⟨cps⟩ := c
  simp only [Rd, n0, cxV] at c18
  simp only [NE11, cxsC_snoc, cxV]
  generalize rowsC piece = PR at *
  generalize Sel.cpsC cps = CP at *
  generalize cxsC out = R at *
  simp only [go_sem, l11x0, b11, Tryd.f11, hlo, hlo2, hlo3, hlo4, q1, hw, hgr, c18, pl, ra, rl, ri, o1, o2]
  all_goals rfl
theorem stop11 {ps : List (List CV)} {out : List Sel.Cx} : evCode (X11 lo h) loopW l11x0 (NE11 ps out ps.length, h) = some (.exit 0, NE11 ps out ps.length ++ [(14, .v (.bool false))], h) := by
 have q1 : decide ((ps.length : Int) < (ps.length : Int)) = false := by simp
 simp only [go_sem, l11x0, b11, Tryd.f11, NE11, q1]
 all_goals rfl
theorem loop11 {ps : List (List CV)} (hlo : lo <= h.length) (hpl : ps.length <= 1000000001) (hp : ∀ p ∈ ps, p.length <= 900000000 /\ allL OkB p /\ nodesL p <= 900000000 /\ ∀ v ∈ p, v.k = 2 -> C11 sub v.ks) : ∀ (m i : Nat) (out : List Sel.Cx), i + m = ps.length -> out.length <= i ->
  loopW (evCode (X11 lo h) loopW l11x0) (NE11 ps out i, h) = match listT cd sub (ps.drop i) with
   | none => some (.ret, [(2, .list .yes []), (3, .v (.bool false))], h)
   | some cs => some (.exit 0, NE11 ps (out ++ cs) ps.length ++ [(14, .v (.bool false))], h) := by
 intro m
 induction m with
 | zero =>
  intro i out hi ho
  obtain rfl : i = ps.length := by omega
  rw [List.drop_length, listT]
  simp only [List.append_nil]
  rw [loop_eq, stop11, loop_e]
 | succ m ih =>
  intro i out hi ho
  have hlt : i < ps.length := by omega
  have hg := List.getElem?_eq_getElem hlt
  have hm := List.getElem_mem hlt
  rw [List.drop_eq_getElem_cons hlt, listT]
  generalize ps[i] = p at *
  obtain ⟨h1, h2, h3, h4⟩ := hp p hm
  have hr := r11 (sub := sub) (out := out) hlo hg hpl (by omega) (f18 (p := h) (q := []) h1 h2 h3 h4 hlo)
  rw [loop_eq, hr]
  cases hx : complexT cd sub p with
  | none => rfl
  | some c =>
   simp only
   rw [loop_n, ih (i + 1) (out ++ [c]) (by omega) (by rw [List.length_append, List.length_singleton]; omega)]
   cases listT cd sub (ps.drop (i + 1)) with
   | none => rfl
   | some cs => simp only [List.append_assoc, List.singleton_append]
theorem p11 {l : List CV} (hl : nodesL l <= 900000000) (ho : allL OkB l) (hs : ∀ v ∈ l, v.k = 2 -> C11 sub v.ks) (lo : Nat) (h : Heap) (hlo : lo <= h.length) :
  E lo 11 [.list .no (rowsC l)] h = some (.tup [.list .no (cxsC ((listT cd sub (split l)).getD [])), .v (.bool (listT cd sub (split l)).isSome)], h) := by
 have c17 := fun (lo : Nat) (h : Heap) (hlo : lo <= h.length) => f17 (lo := lo) (h := h) (l := l) hlo (by omega)
 have hpl : (splitB l).length <= 1000000001 := by
  have h1 := splitA_len [] l
  have h2 := nodesL_len l
  unfold splitB
  omega
 have hL := loop11 (h := h) (sub := sub) (ps := splitB l) hlo hpl (fun p hp => by
  have h1 := split_nodes hp
  have h2 := nodesL_len p
  exact ⟨by omega, ok_sub ho (split_sub hp), by omega, fun v hv => hs v (split_sub hp v hv)⟩) (splitB l).length 0 [] (by omega) (by simp)
 rw [List.drop_zero, Sel.splitB_eq] at hL
 rw [Sel.splitB_eq] at hpl
 simp only [Sel.splitB_eq] at c17
 have pl := pcs_len (split l)
 have n0 : ((0 : Nat) : Int) = 0 := rfl
 have e0 : cxsC [] = [] := by rw [cxsC]
 rw [e11 (by simp) (by rfl)]
 cases hx : listT cd sub (split l) with
 | none =>
  rw [hx] at hL
  simp only [NE11, e0, n0, l11x0, b11, Tryd.f11, loopAt, loops, bodyOf, go_sem] at hL
  simp only [Option.getD_none, Option.isSome_none, e0]
  generalize pcsC (split l) = PC at *
  simp only [go_sem, b11, Tryd.f11, hlo, c17, pl, hL]
  all_goals rfl
 | some cs =>
  rw [hx] at hL
  simp only [NE11, e0, n0, List.nil_append, l11x0, b11, Tryd.f11, loopAt, loops, bodyOf, go_sem] at hL
  simp only [Option.getD_some, Option.isSome_some]
  generalize pcsC (split l) = PC at *
  generalize cxsC cs = CS at *
  simp only [go_sem, b11, Tryd.f11, hlo, c17, pl, hL]
  all_goals rfl
theorem f11 : ∀ (n : Nat) (l : List CV), mayL n l = true -> nodesL l <= 900000000 -> allL OkB l -> C11 (parseT cd (n + 1)) l := by
 intro n
 induction n with
 | zero =>
  intro l hm hn ho lo h hlo
  rw [parseT]
  refine p11 hn ho (fun v hv hk => ?_) lo h hlo
  obtain ⟨t, ks⟩ := v
  have hk : t.k = 2 := hk
  obtain ⟨m, em, _⟩ := may_node (Sel.mayL_iff.1 hm _ hv) (by rw [hk]; decide)
  cases em
 | succ n ih =>
  intro l hm hn ho lo h hlo
  rw [parseT]
  refine p11 hn ho (fun v hv hk => ?_) lo h hlo
  have hnk := nodesL_mem hv
  rw [nodesV_eq] at hnk
  have hok := (allL_iff.1 ho v hv).2
  obtain ⟨t, ks⟩ := v
  have hk : t.k = 2 := hk
  obtain ⟨m, em, hmk⟩ := may_node (Sel.mayL_iff.1 hm _ hv) (by rw [hk]; decide)
  obtain rfl : m = n := by omega
  exact ih ks hmk (by
            have : nodesL ks = nodesL (CV.mk t ks).ks := rfl
            omega) hok
end
end Go.Lift.Q1
end

section
open Go.Proofs
namespace Go.Lift.Q1
open Rul
open Utf (By)
open Sel (Sm Cp smV smsC smsC_map smsC_len cpV cpsC cpsC_map cpsC_len cxV cxsC cxsC_map cxsC_len okSm okSms okCps okCxs)
variable [MX]
def smL : Sm -> List Sel.Cx
 | .mk _ _ _ _ _ l _ _ => l
def cpS : Cp -> List Sm
 | .mk _ ss => ss
def cxP : Sel.Cx -> List Cp
 | .mk ps => ps
def S8 (l : List Sel.Cx) : Prop := ∀ (lo : Nat) (h : Heap), lo <= h.length -> E lo 8 [.list .no (cxsC l), .list .no (cxsC l)] h = some (.v (.bool true), h)
section
variable {lo : Nat} {h : Heap}
noncomputable abbrev X8 (lo : Nat) (h : Heap) : Lift.Cx := ⟨Tryd.prog, E, lo, h.length, h8⟩
abbrev NE8 (l : List (List V)) (i : Nat) : Env := [(0, .list .no l), (1, .list .no l), (18, .v (.int .i64 l.length)), (19, .v (.int .i64 i))]
abbrev NE8k (l ps : List (List V)) (i k : Nat) : Env := [(0, .list .no l), (1, .list .no l), (5, .v (.int .i64 i)), (18, .v (.int .i64 l.length)), (19, .v (.int .i64 i)), (39, .list .no ps), (40, .v (.int .i64 ps.length)), (41, .v (.int .i64 k))]
abbrev NE8m (h : Heap) (l ps ss : List (List V)) (i k m : Nat) : Env := [(0, .list .no l), (1, .list .no l), (5, .v (.int .i64 i)), (8, .ptr (h.length + 1) 0), (18, .v (.int .i64 l.length)), (19, .v (.int .i64 i)), (39, .list .no ps), (40, .v (.int .i64 ps.length)), (41, .v (.int .i64 k)), (69, .list .no ss), (70, .v (.int .i64 ss.length)), (71, .v (.int .i64 m))]
abbrev H8m (h : Heap) (c : Int) (ss : List (List V)) : Heap := h ++ [.cells [.v (.int .i64 c), .list .no ss], .cells [.v (.int .i64 c), .list .no ss]]
theorem r8m {l ps ss : List (List V)} {c : Int} {i k m : Nat} {s : Sm} (hlo : lo <= h.length) (hg : ss[m]? = some (smV s)) (hl : ss.length <= 1000000001) (hs : S8 (smL s)) :
  evCode (X8 lo h) loopW l8x2 (NE8m h l ps ss i k m, H8m h c ss) = some (.normal, NE8m h l ps ss i k (m + 1), H8m h c ss) := by
 have l1 : lo <= h.length + 1 := by omega
 have l2 : lo <= h.length + 2 := by omega
 have l3 : lo <= h.length + 3 := by omega
 have l4 : lo <= h.length + 4 := by omega
 have hlt : m < ss.length := (List.getElem?_eq_some_iff.1 hg).1
 have q1 : decide ((m : Int) < (ss.length : Int)) = true := by rw [decide_eq_true_iff]; omega
 have hw : IntKind.i64.wrap ((m : Int) + 1) = ((m + 1 : Nat) : Int) := wrap_succ (by omega)
 obtain ⟨kd, n, o, v, f, li, x, y⟩ := s
 have hs := hs
 unfold S8 smL at hs
 simp only at hs
 rw [smV] at hg
 have b1 : (kd != kd) = false := by simp
 have b2 : (o != o) = false := by simp
 have b3 : (x != x) = false := by simp
 have b4 : (y != y) = false := by simp
 have b5 : (f != f) = false := by simp
 generalize Rul.bs n = N at *
 generalize Rul.bs v = W at *
 generalize cxsC li = CL at *
 have b6 : (N.toList != N.toList) = false := by simp
 have b7 : (W.toList != W.toList) = false := by simp
 simp only [go_sem, l8x2, b8, Tryd.f8, NE8m, H8m, hlo, l1, l2, l3, l4, q1, hg, hw, b1, b2, b3, b4, b5, b6, b7, hs, Nat.le_add_right]
 all_goals rfl
theorem stop8m {l ps ss : List (List V)} {c : Int} {i k : Nat} (hlo : lo <= h.length) :
  evCode (X8 lo h) loopW l8x2 (NE8m h l ps ss i k ss.length, H8m h c ss) = some (.exit 4, NE8m h l ps ss i k ss.length ++ [(72, .v (.bool false))], H8m h c ss) := by
 have q1 : decide ((ss.length : Int) < (ss.length : Int)) = false := by simp
 simp only [go_sem, l8x2, b8, Tryd.f8, NE8m, H8m, hlo, q1]
 all_goals rfl
theorem loop8m {l ps : List (List V)} {ss : List Sm} {c : Int} {i k : Nat} (hlo : lo <= h.length) (hl : ss.length <= 1000000001) (hs : ∀ s ∈ ss, S8 (smL s)) : ∀ (n m : Nat), m + n = ss.length ->
  loopW (evCode (X8 lo h) loopW l8x2) (NE8m h l ps (smsC ss) i k m, H8m h c (smsC ss)) = some (.exit 4, NE8m h l ps (smsC ss) i k (smsC ss).length ++ [(72, .v (.bool false))], H8m h c (smsC ss)) := by
 intro n
 induction n with
 | zero =>
  intro m hm
  obtain rfl : m = (smsC ss).length := by rw [smsC_len]; omega
  rw [loop_eq, stop8m hlo, loop_e]
 | succ n ih =>
  intro m hm
  have hlt : m < ss.length := by omega
  have hg : (smsC ss)[m]? = some (smV ss[m]) := by rw [smsC_map]; simp [hlt]
  rw [loop_eq, r8m hlo hg (by rw [smsC_len]; omega) (hs _ (List.getElem_mem hlt)), loop_n]
  exact ih (m + 1) (by omega)
theorem r8k {l : List (List V)} {ps : List (List V)} {ss : List Sm} {c : Int} {i k : Nat} (hlo : lo <= h.length) (hgl : l[i]? = some [.list .no ps]) (hgk : ps[k]? = some [.v (.int .i64 c), .list .no (smsC ss)]) (hpl : ps.length <= 1000000001) (hl : ss.length <= 1000000001) (hs : ∀ s ∈ ss, S8 (smL s)) :
  evCode (X8 lo h) loopW l8x1 (NE8k l ps i k, h) = some (.normal, NE8k l ps i (k + 1), h) := by
 have l1 : lo <= h.length + 1 := by omega
 have l2 : lo <= h.length + 2 := by omega
 have hlt : k < ps.length := (List.getElem?_eq_some_iff.1 hgk).1
 have q1 : decide ((k : Int) < (ps.length : Int)) = true := by rw [decide_eq_true_iff]; omega
 have hw : IntKind.i64.wrap ((k : Int) + 1) = ((k + 1 : Nat) : Int) := wrap_succ (by omega)
 have hL := loop8m (h := h) (l := l) (ps := ps) (c := c) (i := i) (k := k) hlo hl hs ss.length 0 (by omega)
 have n0 : ((0 : Nat) : Int) = 0 := rfl
 have b1 : (c != c) = false := by simp
 generalize smsC ss = SS at *
 have b2 : ((SS.length : Int) != (SS.length : Int)) = false := by simp
 simp only [NE8m, H8m, n0, l8x2, b8, Tryd.f8, loopAt, loops, bodyOf, go_sem] at hL
 simp only [go_sem, l8x1, b8, Tryd.f8, NE8k, hlo, l1, l2, q1, hgl, hgk, hw, b1, b2, hL]
 all_goals rfl
theorem stop8k {l ps : List (List V)} {i : Nat} (hlo : lo <= h.length) :
  evCode (X8 lo h) loopW l8x1 (NE8k l ps i ps.length, h) = some (.exit 2, NE8k l ps i ps.length ++ [(42, .v (.bool false))], h) := by
 have q1 : decide ((ps.length : Int) < (ps.length : Int)) = false := by simp
 simp only [go_sem, l8x1, b8, Tryd.f8, NE8k, hlo, q1]
 all_goals rfl
theorem loop8k {l : List (List V)} {ps : List Cp} {i : Nat} (hlo : lo <= h.length) (hgl : l[i]? = some [.list .no (cpsC ps)]) (hpl : ps.length <= 1000000001) (hs : ∀ p ∈ ps, (cpS p).length <= 1000000001 /\ ∀ s ∈ cpS p, S8 (smL s)) : ∀ (n k : Nat), k + n = ps.length ->
  loopW (evCode (X8 lo h) loopW l8x1) (NE8k l (cpsC ps) i k, h) = some (.exit 2, NE8k l (cpsC ps) i (cpsC ps).length ++ [(42, .v (.bool false))], h) := by
 intro n
 induction n with
 | zero =>
  intro k hm
  obtain rfl : k = (cpsC ps).length := by rw [cpsC_len]; omega
  rw [loop_eq, stop8k hlo, loop_e]
 | succ n ih =>
  intro k hm
  have hlt : k < ps.length := by omega
  have hm := hs _ (List.getElem_mem hlt)
  have hg : (cpsC ps)[k]? = some (cpV ps[k]) := by rw [cpsC_map]; simp [hlt]
  generalize ps[k] = p at *
  obtain ⟨c, ss⟩ := p
  rw [cpV] at hg
  rw [loop_eq, r8k hlo hgl hg (by rw [cpsC_len]; omega) hm.1 hm.2, loop_n]
  exact ih (k + 1) (by omega)
theorem r8i {l : List (List V)} {ps : List Cp} {i : Nat} (hlo : lo <= h.length) (hgl : l[i]? = some [.list .no (cpsC ps)]) (hll : l.length <= 1000000001) (hpl : ps.length <= 1000000001) (hs : ∀ p ∈ ps, (cpS p).length <= 1000000001 /\ ∀ s ∈ cpS p, S8 (smL s)) :
  evCode (X8 lo h) loopW l8x0 (NE8 l i, h) = some (.normal, NE8 l (i + 1), h) := by
 have hlt : i < l.length := (List.getElem?_eq_some_iff.1 hgl).1
 have q1 : decide ((i : Int) < (l.length : Int)) = true := by rw [decide_eq_true_iff]; omega
 have hw : IntKind.i64.wrap ((i : Int) + 1) = ((i + 1 : Nat) : Int) := wrap_succ (by omega)
 have hL := loop8k (h := h) (i := i) hlo hgl hpl hs ps.length 0 (by omega)
 have n0 : ((0 : Nat) : Int) = 0 := rfl
 generalize cpsC ps = PS at *
 have b2 : ((PS.length : Int) != (PS.length : Int)) = false := by simp
 simp only [NE8k, n0, l8x1, b8, Tryd.f8, loopAt, loops, bodyOf, go_sem] at hL
 simp only [go_sem, l8x0, b8, Tryd.f8, NE8, hlo, q1, hgl, hw, b2, hL]
 all_goals rfl
theorem stop8 {l : List (List V)} (hlo : lo <= h.length) :
  evCode (X8 lo h) loopW l8x0 (NE8 l l.length, h) = some (.exit 0, NE8 l l.length ++ [(20, .v (.bool false))], h) := by
 have q1 : decide ((l.length : Int) < (l.length : Int)) = false := by simp
 simp only [go_sem, l8x0, b8, Tryd.f8, NE8, hlo, q1]
 all_goals rfl
theorem loop8 {l : List Sel.Cx} (hlo : lo <= h.length) (hll : l.length <= 1000000001) (hs : ∀ c ∈ l, (cxP c).length <= 1000000001 /\ ∀ p ∈ cxP c, (cpS p).length <= 1000000001 /\ ∀ s ∈ cpS p, S8 (smL s)) : ∀ (n i : Nat), i + n = l.length ->
  loopW (evCode (X8 lo h) loopW l8x0) (NE8 (cxsC l) i, h) = some (.exit 0, NE8 (cxsC l) (cxsC l).length ++ [(20, .v (.bool false))], h) := by
 intro n
 induction n with
 | zero =>
  intro i hm
  obtain rfl : i = (cxsC l).length := by rw [cxsC_len]; omega
  rw [loop_eq, stop8 hlo, loop_e]
 | succ n ih =>
  intro i hm
  have hlt : i < l.length := by omega
  have hm := hs _ (List.getElem_mem hlt)
  have hg : (cxsC l)[i]? = some (cxV l[i]) := by rw [cxsC_map]; simp [hlt]
  generalize l[i] = p at *
  obtain ⟨ps⟩ := p
  rw [cxV] at hg
  rw [loop_eq, r8i hlo hg (by rw [cxsC_len]; omega) hm.1 hm.2, loop_n]
  exact ih (i + 1) (by omega)
theorem S8_of {l : List Sel.Cx} (hll : l.length <= 1000000001) (hs : ∀ c ∈ l, (cxP c).length <= 1000000001 /\ ∀ p ∈ cxP c, (cpS p).length <= 1000000001 /\ ∀ s ∈ cpS p, S8 (smL s)) : S8 l := by
 intro lo h hlo
 have hL := loop8 (h := h) hlo hll hs l.length 0 (by omega)
 have n0 : ((0 : Nat) : Int) = 0 := rfl
 generalize cxsC l = LC at *
 have b2 : ((LC.length : Int) != (LC.length : Int)) = false := by simp
 rw [e8 (by simp) (by rfl)]
 simp only [NE8, n0, l8x0, b8, Tryd.f8, loopAt, loops, bodyOf, go_sem] at hL
 simp only [go_sem, b8, Tryd.f8, hlo, b2, hL]
 all_goals rfl
end
mutual
theorem sm_s8 : ∀ s : Sm, okSm s -> S8 (smL s)
 | .mk k n o v f l a b => by
  have ih := cxs_s8 l
  intro h
  rw [okSm] at h
  exact S8_of (l := l) (by omega) (ih h.2)
theorem sms_s8 : ∀ l : List Sm, okSms l -> ∀ s ∈ l, S8 (smL s)
 | [] => fun _ _ h => nomatch h
 | x :: r => by
  have i1 := sm_s8 x
  have i2 := sms_s8 r
  intro h s hm
  rw [okSms] at h
  rcases List.mem_cons.1 hm with rfl | hm
  ·exact i1 h.1
  ·exact i2 h.2 s hm
theorem cps_s8 : ∀ l : List Cp, okCps l -> ∀ p ∈ l, (cpS p).length <= 1000000001 /\ ∀ s ∈ cpS p, S8 (smL s)
 | [] => fun _ _ h => nomatch h
 | .mk c ss :: r => by
  have i1 := sms_s8 ss
  have i2 := cps_s8 r
  intro h s hm
  rw [okCps] at h
  rcases List.mem_cons.1 hm with rfl | hm
  ·exact ⟨by show ss.length <= _; omega, i1 h.1.2⟩
  ·exact i2 h.2 s hm
theorem cxs_s8 : ∀ l : List Sel.Cx, okCxs l -> ∀ c ∈ l, (cxP c).length <= 1000000001 /\ ∀ p ∈ cxP c, (cpS p).length <= 1000000001 /\ ∀ s ∈ cpS p, S8 (smL s)
 | [] => fun _ _ h => nomatch h
 | .mk ps :: r => by
  have i1 := cps_s8 ps
  have i2 := cxs_s8 r
  intro h c hm
  rw [okCxs] at h
  rcases List.mem_cons.1 hm with rfl | hm
  ·exact ⟨by show ps.length <= _; omega, i1 h.1.2⟩
  ·exact i2 h.2 c hm
end
theorem f8 {l : List Sel.Cx} (hl : l.length <= 1000000001) (ho : okCxs l) : S8 l := S8_of hl (cxs_s8 l ho)
mutual
theorem tbV : ∀ v : CV, allV OkB v -> allV Sel.TB v
 | .mk t ks => by
  have ih := tbL ks
  intro h
  rw [allV] at h ⊢
  exact ⟨⟨h.1.hy, h.1.hl⟩, ih h.2⟩
theorem tbL : ∀ l : List CV, allL OkB l -> allL Sel.TB l
 | [] => fun _ => by rw [allL]; trivial
 | v :: r => by
  have i1 := tbV v
  have i2 := tbL r
  intro h
  rw [allL] at h ⊢
  exact ⟨i1 h.1, i2 h.2⟩
end
section
variable {lo : Nat} {h : Heap}
def errP (l : List CV) : Int := if mayL 64 l = true then (if (Sel.ans Spell.sound 64 l).isSome = true then 0 else 3) else 1
def outS (l : List CV) : List Sel.Cx := if mayL 64 l = true then (Sel.ans Spell.sound 64 l).getD [] else []
theorem f5 {l : List CV} (hlo : lo <= h.length) (hn : nodesL l <= 900000000) (ho : allL OkB l) :
  E lo 5 [.list .no (rowsC l)] h = some (.tup [.list .no (cxsC (outS l)), .v (.int .i64 (errP l))], h) := by
 have c10 := fun (lo : Nat) (h : Heap) (hlo : lo <= h.length) => f10 (lo := lo) (h := h) (l := l) hlo (by omega)
 have e0 : cxsC [] = [] := by rw [cxsC]
 unfold errP outS
 rw [e5 (by simp) (by rfl)]
 cases hm : mayL 64 l with
 | false =>
  simp only [hm] at c10
  rw [if_neg (by simp), if_neg (by simp), e0]
  simp only [go_sem, b5, Tryd.f5, hlo, c10]
  all_goals rfl
 | true =>
  simp only [hm] at c10
  rw [if_pos rfl, if_pos rfl]
  have c11 := f11 64 l hm hn ho
  have hok := fun cs (hcs : Sel.parseT Sel.cd 65 l = some cs) => Sel.parse_ok 65 l cs (tbL l ho) hn hcs
  unfold C11 at c11
  unfold Sel.ans
  have hnl := nodesL_len l
  cases hp : Sel.parseT Sel.cd (64 + 1) l with
  | none =>
   simp only [hp, Option.getD_none, Option.isSome_none, e0] at c11
   simp only [Sel.fltL, Option.getD_none, Option.isSome_none, e0, Bool.false_eq_true, if_false]
   simp only [go_sem, b5, Tryd.f5, hlo, c10, c11]
   all_goals rfl
  | some cs =>
   obtain ⟨k1, k2⟩ := hok cs hp
   have c12 := fun (lo : Nat) (h : Heap) (hlo : lo <= h.length) => f12 (lo := lo) (h := h) (l := cs) hlo (by omega) k1
   simp only [hp, Option.getD_some, Option.isSome_some] at c11
   have hmp : Sel.mayP Spell.sound 1 cs = (!cs.isEmpty && Sel.cxsP Spell.sound 1 cs) := by
    unfold Sel.mayP
    simp
   simp only [hmp] at c12
   simp only [Sel.fltL]
   by_cases hy : (!cs.isEmpty && Sel.cxsP Spell.sound 1 cs) = true
   ·simp only [hy] at c12
    simp only [hy, if_true]
    simp only [Option.getD_some, Option.isSome_some, if_true]
    generalize cxsC cs = CS at *
    simp only [go_sem, b5, Tryd.f5, hlo, c10, c11, c12]
    all_goals rfl
   ·have hy : (!cs.isEmpty && Sel.cxsP Spell.sound 1 cs) = false := by simpa using hy
    simp only [hy] at c12
    simp only [hy, Bool.false_eq_true, if_false]
    simp only [Option.getD_none, Option.isSome_none, e0, Bool.false_eq_true, if_false]
    generalize cxsC cs = CS at *
    simp only [go_sem, b5, Tryd.f5, hlo, c10, c11, c12]
    all_goals rfl
end
end Go.Lift.Q1
end

section
open Go.Proofs
namespace Go.Lift.Q1
variable [MX]
theorem f6z : evFun Tryd.prog hints primz0 80 0 6 [] [] = some (.v (.bool true), []) := by kernel_rfl
theorem f6 {lo : Nat} {h : Heap} : E lo 6 [] h = some (.v (.bool true), h) := by
 unfold E
 rw [ev_prim (p := awkP) rfl]
 rfl
end Go.Lift.Q1
end

section
open Go.Proofs
namespace Go.Lift.Q1
open Rul
open Sel (cxsC cxsC_map cxsC_len cxV ans badP outP)
variable [MX]
noncomputable abbrev X3 : Lift.Cx := ⟨Tryd.prog, E, 0, 0, h3⟩
abbrev NE3 (w : List Sel.Cx) (e : Int) (ps : List (List CV)) (out : List Sel.Cx) (bad : Bool) (i : Nat) : Env := [(5, .list .no (cxsC w)), (6, .v (.int .i64 e)), (7, .list .yes (cxsC out)), (8, .v (.bool bad)), (32, .list .no (pcsC ps)), (33, .v (.int .i64 ps.length)), (34, .v (.int .i64 i))]
theorem r3 {w : List Sel.Cx} {e : Int} {ps : List (List CV)} {out : List Sel.Cx} {bad : Bool} {i : Nat} {p : List CV} (hg : ps[i]? = some p) (hm : mayL 64 p = true) (hn : nodesL p <= 900000000) (ho : allL OkB p) (hp1 : ans Spell.sound 64 p = none \/ ∃ c, ans Spell.sound 64 p = some [c]) (hol : out.length <= 1000000001) (hpl : ps.length <= 1000000001) :
  evCode X3 loopW l3x0 (NE3 w e ps out bad i, []) = some (.normal, NE3 w e ps (out ++ outP Spell.sound 64 p) (bad || badP Spell.sound 64 p) (i + 1), []) := by
 have hlt : i < ps.length := (List.getElem?_eq_some_iff.1 hg).1
 have q1 : decide ((i : Int) < (ps.length : Int)) = true := by rw [decide_eq_true_iff]; omega
 have hw : IntKind.i64.wrap ((i : Int) + 1) = ((i + 1 : Nat) : Int) := wrap_succ (by omega)
 have hgr : (pcsC ps)[i]? = some [.list .no (rowsC p)] := by
  unfold pcsC
  rw [List.getElem?_map, hg]; rfl
 have pl := pcs_len ps
 have c5 := fun (lo : Nat) (h : Heap) (hlo : lo <= h.length) => f5 (l := p) hlo hn ho
 have e0 : cxsC [] = [] := by rw [cxsC]
 have ra := cxsC_all out
 have rl := cxsC_len out
 have ri := cxsC_ibr out
 have o0 : out.length * 24 <= 140737488355328 := by omega
 have o1 : (out.length + 1) * 24 <= 140737488355328 := by omega
 have o2 : out.length <= 9223372036854775806 := by omega
 have o3 : out.length <= 9223372036854775807 := by omega
 unfold errP outS at c5
 unfold badP outP
 simp only [hm, if_true] at c5
 rcases hp1 with hp | ⟨c, hp⟩
 ·simp only [hp, Option.getD_none, Option.isSome_none, Option.isNone_none, e0, Bool.false_eq_true, if_false, List.append_nil, Bool.or_true] at c5 ⊢
  have b30 : ((3 : Int) != 0) = true := rfl
  simp only [NE3]
  generalize cxsC out = R at *
  simp only [go_sem, l3x0, b3, Tryd.f3, b30, q1, hgr, hw, pl, c5, ra, rl, ri, o0, o1, o2, o3, List.length_nil, Nat.le_refl, Nat.zero_le, List.append_nil, Nat.add_zero, List.all_nil]
  all_goals rfl
 ·obtain ⟨cps⟩ := c
  have e1 : cxsC [.mk cps] = [[.list .no (Sel.cpsC cps)]] := by rw [cxsC, cxsC, cxV]
  have ea : cxsC (out ++ [.mk cps]) = cxsC out ++ [[.list .no (Sel.cpsC cps)]] := by rw [cxsC_snoc, cxV]
  simp only [hp, Option.getD_some, Option.isSome_some, Option.isNone_some, e1, if_true, Bool.or_false] at c5 ⊢
  have b00 : ((0 : Int) != 0) = false := rfl
  have b11 : (((1 : Nat) : Int) != 1) = false := rfl
  simp only [NE3, ea]
  generalize Sel.cpsC cps = CP at *
  generalize cxsC out = R at *
  simp only [go_sem, l3x0, b3, Tryd.f3, b00, b11, q1, hgr, hw, pl, c5, ra, rl, ri, o0, o1, o2, o3, List.length_cons, List.length_nil, Nat.le_refl, Nat.zero_le]
  all_goals rfl
theorem stop3 {w : List Sel.Cx} {e : Int} {ps : List (List CV)} {out : List Sel.Cx} {bad : Bool} :
  evCode X3 loopW l3x0 (NE3 w e ps out bad ps.length, []) = some (.exit 0, NE3 w e ps out bad ps.length ++ [(35, .v (.bool false))], []) := by
 have q1 : decide ((ps.length : Int) < (ps.length : Int)) = false := by simp
 simp only [go_sem, l3x0, b3, Tryd.f3, NE3, q1]
 all_goals rfl
theorem loop3 {w : List Sel.Cx} {e : Int} {ps : List (List CV)} (hpl : ps.length <= 1000000001) (hp : ∀ p ∈ ps, mayL 64 p = true /\ nodesL p <= 900000000 /\ allL OkB p /\ (ans Spell.sound 64 p = none \/ ∃ c, ans Spell.sound 64 p = some [c])) : ∀ (n i : Nat) (out : List Sel.Cx) (bad : Bool), i + n = ps.length -> out.length <= i ->
  loopW (evCode X3 loopW l3x0) (NE3 w e ps out bad i, []) = some (.exit 0, NE3 w e ps (out ++ (ps.drop i).flatMap (outP Spell.sound 64)) (bad || (ps.drop i).any (badP Spell.sound 64)) ps.length ++ [(35, .v (.bool false))], []) := by
 intro n
 induction n with
 | zero =>
  intro i out bad hi ho
  obtain rfl : i = ps.length := by omega
  rw [List.drop_length, List.flatMap_nil, List.any_nil, List.append_nil, Bool.or_false, loop_eq, stop3, loop_e]
 | succ n ih =>
  intro i out bad hi ho
  have hlt : i < ps.length := by omega
  have hg := List.getElem?_eq_getElem hlt
  have hm := List.getElem_mem hlt
  rw [List.drop_eq_getElem_cons hlt, List.flatMap_cons, List.any_cons]
  generalize ps[i] = p at *
  obtain ⟨h1, h2, h3, h4⟩ := hp p hm
  have hol : (outP Spell.sound 64 p).length <= 1 := by
   unfold outP
   rcases h4 with h | ⟨c, h⟩
   ·rw [h]; simp
   ·rw [h]; simp
  rw [loop_eq, r3 hg h1 h2 h3 h4 (by omega) hpl, loop_n, ih (i + 1) _ _ (by omega) (by rw [List.length_append]; omega), List.append_assoc, Bool.or_assoc]
theorem f3 {l : List CV} (hn : nodesL l <= 900000000) (ho : allL OkB l) : E 0 3 [.list .no (rowsC l)] [] = some (.v (.bool true), []) := by
 have c4 := fun (lo : Nat) (h : Heap) (hlo : lo <= h.length) => f4 (lo := lo) (h := h) (l := l) hlo (by omega)
 have c5 := fun (lo : Nat) (h : Heap) (hlo : lo <= h.length) => f5 (l := l) hlo hn ho
 have c6 := fun (lo : Nat) (h : Heap) => f6 (lo := lo) (h := h)
 have z0 : (0 : Nat) <= ([] : Heap).length := Nat.le_refl _
 unfold errP outS at c5
 cases hm : mayL 64 l with
 | false =>
  simp only [hm, Bool.false_eq_true, if_false] at c4 c5
  have b11 : ((1 : Int) == 1) = true := rfl
  rw [e3 (by simp) (by rfl)]
  simp only [go_sem, b3, Tryd.f3, z0, c4, c5, c6, b11]
  all_goals rfl
 | true =>
  simp only [hm, if_true] at c4 c5
  have hll := nodesL_len l
  have c7 := fun (lo : Nat) (h : Heap) (hlo : lo <= h.length) => f7 (lo := lo) (h := h) (l := l) hlo (by omega)
  have hpl : (splitB l).length <= 1000000001 := by
   have h1 := splitA_len [] l
   unfold splitB
   omega
  have hA := Sel.ans_list Spell.sound 64 l
  have hL := loop3 (w := (ans Spell.sound 64 l).getD []) (e := if (ans Spell.sound 64 l).isSome = true then 0 else 3) (ps := splitB l) hpl (fun p hp => by
   have h1 := split_nodes hp
   refine ⟨Sel.mayL_iff.2 fun v hv => Sel.mayL_iff.1 hm v (split_sub hp v hv), by omega, ok_sub ho (split_sub hp), ?_⟩
   rw [Sel.splitB_eq] at hp
   exact Sel.piece_one Spell.sound 64 hp) (splitB l).length 0 [] false (by omega) (by simp)
  rw [List.drop_zero, Sel.splitB_eq, List.nil_append, Bool.false_or] at hL
  simp only [Sel.splitB_eq] at c7 hpl
  have pl := pcs_len (split l)
  have n0 : ((0 : Nat) : Int) = 0 := rfl
  have e0 : cxsC [] = [] := by rw [cxsC]
  rw [e3 (by simp) (by rfl)]
  cases hb : (split l).any (badP Spell.sound 64) with
  | true =>
   rw [hb, if_pos rfl] at hA
   simp only [hA, hb, Option.getD_none, Option.isSome_none, e0, Bool.false_eq_true, if_false] at c5 hL
   have b30 : ((3 : Int) != 0) = true := rfl
   simp only [NE3, e0, n0, l3x0, b3, Tryd.f3, loopAt, loops, bodyOf, go_sem] at hL
   generalize cxsC ((split l).flatMap (outP Spell.sound 64)) = R at *
   generalize pcsC (split l) = PC at *
   simp only [go_sem, b3, Tryd.f3, z0, c4, c5, c6, c7, pl, hL, b30]
   all_goals rfl
  | false =>
   rw [hb, if_neg (by simp)] at hA
   have hS : S8 ((split l).flatMap (outP Spell.sound 64)) := by
    unfold ans at hA
    cases hp : Sel.parseT Sel.cd (64 + 1) l with
    | none => rw [hp] at hA; cases hA
    | some cs =>
     rw [hp] at hA
     simp only [Sel.fltL] at hA
     split at hA
     ·cases hA
      obtain ⟨k1, k2⟩ := Sel.parse_ok 65 l _ (tbL l ho) hn hp
      exact f8 (by omega) k1
     ·cases hA
   simp only [hA, hb, Option.getD_some, Option.isSome_some, if_true] at c5 hL
   have b00 : ((0 : Int) != 0) = false := rfl
   unfold S8 at hS
   simp only [NE3, e0, n0, l3x0, b3, Tryd.f3, loopAt, loops, bodyOf, go_sem] at hL
   generalize cxsC ((split l).flatMap (outP Spell.sound 64)) = R at *
   generalize pcsC (split l) = PC at *
   simp only [go_sem, b3, Tryd.f3, z0, c4, c5, c6, c7, pl, hL, b00, hS]
   all_goals rfl
end Go.Lift.Q1
end

section
namespace Go.Proofs
open Go.Shelf
def Tryd.lays219_ren : Go.Shelf.Ren := ⟨fun | 219 => 66 | 217 => 82 | 225 => 83 | 224 => 84 | 267 => 85 | 266 => 96 | 314 => 97 | n => n, fun | 9 => 9 | 3 => 3 | 4 => 4 | 5 => 5 | 46 => 113 | 146 => 128 | 51 => 127 | n => n, fun | 1 => 1 | n => n⟩
theorem Tryd.lays219 : Go.Proofs.LaysM.n219 Tryd.prog Tryd.lays219_ren := {
 mixed := by kernel_rfl
 f217 := Tryd.func82.trans (congrArg some (by kernel_rfl))
 f219 := Tryd.func66.trans (congrArg some (by kernel_rfl))
 f224 := Tryd.func84.trans (congrArg some (by kernel_rfl))
 f225 := Tryd.func83.trans (congrArg some (by kernel_rfl))
 f266 := Tryd.func96.trans (congrArg some (by kernel_rfl))
 f267 := Tryd.func85.trans (congrArg some (by kernel_rfl))
 f314 := Tryd.func97.trans (congrArg some (by kernel_rfl))
 t3 := Tryd.underlying3
 a3 := Tryd.isAgg3
 z3 := Tryd.sizeOf3
 v3 := Tryd.zeroValue3
 t4 := Tryd.underlying4
 a4 := Tryd.isAgg4
 z4 := Tryd.sizeOf4
 v4 := Tryd.zeroValue4
 t5 := Tryd.underlying5
 a5 := Tryd.isAgg5
 z5 := Tryd.sizeOf5
 v5 := Tryd.zeroValue5
 t9 := Tryd.underlying9
 a9 := Tryd.isAgg9
 z9 := Tryd.sizeOf9
 v9 := Tryd.zeroValue9
 t46 := Tryd.underlying113
 a46 := Tryd.isAgg113
 z46 := Tryd.sizeOf113
 v46 := Tryd.zeroValue113
 t51 := Tryd.underlying127
 a51 := Tryd.isAgg127
 z51 := Tryd.sizeOf127
 v51 := Tryd.zeroValue127
 t146 := Tryd.underlying128
 a146 := Tryd.isAgg128
 z146 := Tryd.sizeOf128
 v146 := Tryd.zeroValue128
 g1 := by kernel_rfl
 i3 := by kernel_rfl
 i4 := by kernel_rfl
 i5 := by kernel_rfl
 i9 := by kernel_rfl
 i46 := by kernel_rfl
 i51 := by kernel_rfl
 i146 := by kernel_rfl
 m1 := by kernel_rfl
 s1_3 := fun w h => Go.Proofs.cell_of_shapedOpen_int (zero := #[.int .i64 0]) (t := 3) h (of_decide_eq_true (by kernel_rfl)) (by kernel_rfl) rfl (by kernel_rfl) (by kernel_rfl) Tryd.underlying3 }
end Go.Proofs
end

section
namespace Go.Lift.Q1
variable [MX]
open Go.Proofs Go.RowKit
theorem walk235 (s : ByteArray) (c : Int) (w : World) :
  Calls Tryd.prog 82 #[.string s, .int .u8 c] w fun e w' => e = .returned (.int .i64 (Go.Lib.indexByte s.data.toList c.toNat.toUInt8)) /\ w' = w := by
 go_enter Tryd.func82, Tryd.ntmps82
 go_wp2
 rw [run_callFunc_extern Tryd.func96 (by kernel_rfl) (by kernel_rfl) (by kernel_rfl) (e := Extern.BytealgIndexByte.indexByte) (by kernel_rfl), Go.Lib.run_indexByteString]
 simp only [Result.andThen]
 rw [Oper.upon_value]
 go_wp2
 go_ret
 exact ⟨rfl, rfl⟩
theorem walk159one (s : ByteArray) (c : UInt8) (w : World) :
  Calls Tryd.prog 66 #[.string s, .string ⟨#[c]⟩] w fun e w' => e = .returned (.int .i64 (Go.Lib.indexByte s.data.toList c)) /\ w' = w :=
 Any.stringslite_Index_one (P := Tryd.prog) (ρ := Tryd.lays219_ren) { Tryd.lays219 with } s c w
theorem walk206 (s t : ByteArray) (m : Int) (w : World) (hs : s.size < 4294967281) (hm : w.cell? ⟨1, 0, none⟩ = some (.int .i64 m)) :
  Calls Tryd.prog 66 #[.string s, .string t] w fun e w' => e = .returned (.int .i64 (Go.Lib.index s.data.toList t.data.toList)) /\ w' = w :=
 Any.stringslite_Index (P := Tryd.prog) (ρ := Tryd.lays219_ren) { Tryd.lays219 with } s t m w hs hm
theorem quiet_ok {m : List Nat} {c : Cl} {w w' : World} {h : Heap} {lo : Nat} (hH : HOK m c w h) (hb : Below w.heap.size w w') :
  HOK m c w' h /\ Fr lo (hoOf m w h lo) w m c w' m c /\ Owned lo (hoOf m w h lo) w m w' [] h act0 := by
 obtain ⟨hC, hold⟩ := hH
 have hcell : ∀ b o, b < w.heap.size -> w'.cell? ⟨b, o, none⟩ = w.cell? ⟨b, o, none⟩ := fun b o hl => cell_of_heap (hb.block b hl) o
 have hce : ∀ b, 0 < c b -> b < w.heap.size := fun b h0 => by
  rcases Nat.lt_or_ge b w.heap.size with hl | hl
  ·exact hl
  ·rw [hC.c_zero hl] at h0; omega
 have he : Ext c w c w' := ⟨fun _ => Nat.le_refl _, fun b o ho => hcell b o (hce b (by omega)), fun b _ => by
  rcases Nat.lt_or_ge b w.heap.size with hl | hl
  ·exact Shp.same (hb.block b hl)
  ·exact Shp.none hl⟩
 have hm : ∀ {i b}, m[i]? = some b -> w'.heap[b]? = w.heap[b]? /\ c b = c b := fun {i b} hi => ⟨hb.block b (hC.m_lt hi), rfl⟩
 have hAt : ∀ {l r x}, At m w' [] h act0 l r x -> At m w [] h act0 l r x := fun {l r x} hl => by
  cases l with
  | slot t => exact hl
  | cell i j =>
   obtain ⟨cs, b, h1, h2, h3, h4⟩ := hl
   exact ⟨cs, b, h1, h2, h3, by rw [<- cell_of_heap (hm h3).1]; exact h4⟩
 have hAt' : ∀ {l r x}, At m w [] h act0 l r x -> At m w' [] h act0 l r x := fun {l r x} hl => by
  cases l with
  | slot t => exact hl
  | cell i j =>
   obtain ⟨cs, b, h1, h2, h3, h4⟩ := hl
   exact ⟨cs, b, h1, h2, h3, by rw [cell_of_heap (hm h3).1]; exact h4⟩
 refine ⟨⟨⟨fun b h0 => ?_, hC.wf2, hC.nd, hC.len, fun t => (hC.env t).mono (Pre.refl m) he, fun i o b ho hbm => (hC.ob i o b ho hbm).keep (hm hbm).1 (Pre.refl m) he, fun l r x hl => ?_,
   fun l l' r r' x x' b h1 h2 => hC.uniq l l' r r' x x' b (hAt h1) (hAt h2), hC.tagS, fun t i j r ht => hAt' (hC.tagC t i j r ht), fun n cs hg => (hC.gt n cs hg).mono he⟩, hold⟩,
  ⟨hb.os, hb.tape, hb.output, hb.size, Pre.refl m, fun i b hi hbm => ?_, he, fun b hl _ _ => ⟨hb.block b hl, rfl⟩⟩, fun l r x b hl hu hbx => ?_⟩
 ·rw [hb.block b (hce b h0)]
  exact hC.wf1 b h0
 ·refine (hC.own l r x (hAt hl)).keep fun b hbx => ?_
  exact ⟨hb.block b ((hC.own l r x (hAt hl)).lt hbx).1, rfl, id⟩
 ·have := (List.getElem?_eq_some_iff.1 hbm).1
  omega
 ·right
  cases l with
  | slot t => exact absurd hl.1 (by simp [look])
  | cell i j => exact ⟨i, j, r, x, hu, hAt hl, hbx⟩
theorem prim_quiet {f lo : Nat} {args : List V} {h : Heap} {x : Value} (he : ∀ xs w, (callFunc f xs).run Tryd.prog w = .ok (.enter f xs) w)
  (hx : ∀ m c w (xs : Array Value), HOK m c w h -> R2 (VRr m c w) args xs.toList -> Calls Tryd.prog f xs w fun e w' => e = .returned x /\ Below w.heap.size w w') :
  CallOK Tryd.prog lo f args h (.v x) h :=
 CallOK0.ok ⟨rfl, he, fun m c w xs hH ha => ⟨⟨rfl, rfl, Keeps.refl _ _⟩, (hx m c w xs hH ha).mono fun e w' ⟨h1, hb⟩ => by
  obtain ⟨q1, q2, q3⟩ := quiet_ok (lo := lo) hH hb
  exact ⟨_, c, h1, rfl, q1, q2, q3⟩⟩⟩
theorem two_args {m : List Nat} {c : Cl} {w : World} {a b : Value} {xs : Array Value} (h : R2 (VRr m c w) [.v a, .v b] xs.toList) : xs = #[a, b] := by
 obtain ⟨l⟩ := xs
 match l, h.1 with
 | [x, y], _ =>
  have h0 : x = a := h.2 0 _ _ rfl rfl
  have h1 : y = b := h.2 1 _ _ rfl rfl
  rw [h0, h1]
theorem tab2 : GTab.tab 1 = some [V.v (.int .i64 MX.m)] := rfl
theorem cell_of {c : Cl} {w : World} {n : Nat} {cs : List V} (hg : ROs c w ⟨n, 0, none⟩ cs) {j : Nat} {x : Value} (hj : cs[j]? = some (.v x)) : w.cell? ⟨n, j, none⟩ = some x := by
 obtain ⟨_, h⟩ := hg
 obtain ⟨y, hy, hv⟩ := h j _ hj
 rw [Nat.zero_add] at hy
 rw [hy, VP.v_eq hv]
theorem maxLenC {m : List Nat} {c : Cl} {w : World} {h : Heap} (hH : HOK m c w h) : w.cell? ⟨1, 0, none⟩ = some (.int .i64 MX.m) :=
 cell_of (hH.1.gt 1 _ tab2) rfl
theorem prim_ok0 : ∀ f p, primz0 f = some p -> ∀ lo args h r h', lo <= h.length -> p lo args h = some (r, h') -> CallOK Tryd.prog lo f args h r h' := by
 intro f p hp lo args h r h' hlo he
 unfold primz0 at hp
 split at hp
 ·cases hp
  unfold idxP at he
  split at he
  ·rename_i s c
   cases he
   exact prim_quiet (enters_of Tryd.func82 (by kernel_rfl) rfl) fun m c' w xs hH ha => by
    rw [two_args ha]
    exact (walk235 s c w).mono fun e w' ⟨h1, h2⟩ => ⟨h1, h2 ▸ Below.refl _ _⟩
  ·cases he
 ·cases hp
  unfold ixP at he
  split at he
  ·rename_i s t
   split at he
   ·rename_i c0 hc
    cases he
    obtain rfl : t = ⟨#[c0]⟩ := by
     apply ByteArray.ext
     exact Array.toList_inj.1 hc
    exact prim_quiet (enters_of Tryd.func66 (by kernel_rfl) rfl) fun m c' w xs hH ha => by
     rw [two_args ha]
     exact (walk159one s c0 w).mono fun e w' ⟨h1, h2⟩ => ⟨h1, h2 ▸ Below.refl _ _⟩
   ·split at he
    ·rename_i hs
     cases he
     exact prim_quiet (enters_of Tryd.func66 (by kernel_rfl) rfl) fun m c' w xs hH ha => by
      rw [two_args ha]
      exact (walk206 s t MX.m w hs (maxLenC hH)).mono fun e w' ⟨h1, h2⟩ => ⟨h1, h2 ▸ Below.refl _ _⟩
    ·cases he
  ·cases he
 ·cases hp
theorem hok_nil {m : List Nat} {c : Cl} {w : World} {h : Heap} (hH : HOK m c w h) : HOK [] c w [] := by
 have hn : ∀ {l r x}, ¬ At [] w [] [] act0 l r x := fun {l r x} hl => by
  cases l with
  | slot t => exact absurd hl.1 (by simp [look])
  | cell i j => obtain ⟨cs, b, k1, _⟩ := hl; unfold cellsOfOb at k1; simp at k1
 have hl0 : ∀ t : Nat, look [] t = V.undef := fun t => rfl
 refine ⟨⟨hH.1.wf1, fun b hb => (List.not_mem_nil hb).elim, List.nodup_nil, rfl, fun t => ?_, fun i o b hi => ?_, fun l r x hl => absurd hl hn, fun l l' r r' x x' b hl => absurd hl hn, fun t u r ht => ?_, fun t i j r ht => ?_, hH.1.gt⟩, fun i cs hi => ?_⟩
 ·rw [hl0]; trivial
 ·simp at hi
 ·rw [hl0] at ht; cases ht
 ·rw [hl0] at ht; cases ht
 ·unfold cellsOfOb at hi; simp at hi
theorem prim_alone {f : Nat} {x : Value} (hk : CallOK Tryd.prog 0 f [] [] (.v x) []) (lo : Nat) (h : Heap) : CallOK Tryd.prog lo f [] h (.v x) h :=
 prim_quiet hk.2.1 fun m c w xs hH ha => by
  have ha' : R2 (VRr [] c w) [] xs.toList := ⟨ha.1, fun i a b h1 => by simp at h1⟩
  refine (hk.2.2 [] c w xs (hok_nil hH) ha').2.mono fun e w' ⟨y, c', m', he, hv, hH', hF, _⟩ => ?_
  have hx : y = x := hv
  subst hx
  refine ⟨he, hF.os, hF.tape, hF.output, hF.size, fun b hb => (hF.fix b hb (fun i _ => by simp) fun ⟨i, j, r, z, _, hl, _⟩ => ?_).1⟩
  obtain ⟨cs, b', k1, _⟩ := hl
  unfold cellsOfOb at k1
  simp at k1
theorem prim_ok : ∀ f p, primz f = some p -> ∀ lo args h r h', lo <= h.length -> p lo args h = some (r, h') -> CallOK Tryd.prog lo f args h r h' := by
 intro f p hp lo args h r h' hlo he
 unfold primz at hp
 split at hp
 ·cases hp
  unfold awkP at he
  split at he
  ·cases he
   exact prim_alone (fun_ok (by kernel_rfl) prim_ok0 80 0 6 [] [] _ _ (Nat.le_refl _) f6z) lo h
  ·cases he
 ·exact prim_ok0 82 p hp lo args h r h' hlo he
 ·exact prim_ok0 66 p hp lo args h r h' hlo he
 ·cases hp
end Go.Lift.Q1
end

section
namespace Go.Proofs.YthjkocamddljiaaDoor
open Go.Lift Go.Lift.Q1 Go.ChangeShapes Go.WideShapes Go.ChangeAt Go.RowKit
theorem isBulk (H : Type) : IsBulk (H := H) Rows.uptoBulk Rows.uptoBulkAll :=
 ⟨rfl, fun _ _ => rfl, fun _ => rfl, fun _ => rfl, fun _ _ => rfl, rfl, fun e s => by show Rows.uptoBulkAll e + 1 ≤ Rows.uptoBulkAll e + Rows.uptoBulkAll s + 1; omega, fun _ => rfl⟩
theorem own : ownKnob Tryd.prog.godebug = none := by kernel_rfl
theorem laidOut : laidOutB Tryd.prog = true := by kernel_rfl
theorem follows : Tryd.prog.follows .mixedOrders = true := by kernel_rfl
theorem ros_of {w : World} {g : Nat} {cs : List V} (h : ∀ (j : Nat) v, cs[j]? = some v → ∃ x, w.cell? ⟨g, j, none⟩ = some x ∧ VP (wholeCl w) w v x) : ROs (wholeCl w) w ⟨g, 0, none⟩ cs := by
 refine ⟨?_, fun j v hj => by simpa using h j v hj⟩
 cases cs with
 | nil => exact Nat.zero_le _
 | cons c t =>
  have hl : (c :: t)[t.length]? = some ((c :: t)[t.length]'(by simp)) := List.getElem?_eq_getElem (by simp)
  obtain ⟨x, hx, _⟩ := h t.length _ hl
  unfold World.cell? at hx
  unfold wholeCl
  simp only at hx ⊢
  split at hx
  ·rename_i arr e f he
   rw [he]
   simp only [List.length_cons]
   have := (Array.getElem?_eq_some_iff.1 hx).1
   omega
  ·cases hx
theorem kinds_data : (Rows.laid_jalousie_jalousieref3_kinds : DataW Unit) = Lib.tabData .i64 [21, 22, 19, 20, 23, 24, 18, 16, 17] := rfl
theorem tab_cells {w : World} {name : String} {k : IntKind} {zs : List Int} {g : Nat} {t e : TypeId} {n : Nat} (hn : Tryd.prog.globalNamed name = some g) (hy : (Tryd.prog.globals[g]?).map (·.type) = some t)
  (ht : Tryd.prog.underlying t = some (.array n e)) (he : Tryd.prog.underlying e = some (.int k)) (hce : Tryd.prog.cellsOf e = 1) (hct : Tryd.prog.cellsOf t = n) (h : Lib.VarReads Tryd.prog w name (Lib.tabData k zs)) :
  ∀ (j : Nat) (z : Int), zs[j]? = some z → w.cell? ⟨g, j, none⟩ = some (.int k z) := fun j z hz => by
 obtain ⟨g', t', cs, fuel, p, h1, h2, h3, h4⟩ := h
 obtain rfl := Option.some.inj (hn.symm.trans h1)
 obtain rfl := Option.some.inj (hy.symm.trans h2)
 have hcs := Lib.cells_of_tab ht he hce hct h4
 have := World.var?_cell hn h3 j
 rw [this, ← Array.getElem?_toList, hcs]
 simp [hz]
theorem gok [MX] {W : World} (hm : W.cell? ⟨1, 0, none⟩ = some (.int .i64 MX.m)) (hk : Lib.VarReads Tryd.prog W "jalousie/jalousieref3.kinds" Rows.laid_jalousie_jalousieref3_kinds) : GOK W := by
 rw [kinds_data] at hk
 intro n cs hc
 have e : GTab.tab n = gtab.1 n := rfl
 rw [e] at hc
 unfold gtab at hc
 simp only at hc
 split at hc
 ·have c0 := tab_cells (g := 0) (t := 92) (e := 3) (n := 9) (by kernel_rfl) (by kernel_rfl) (by kernel_rfl) (by kernel_rfl) (by kernel_rfl) (by kernel_rfl) hk
  cases hc
  refine ros_of fun j v hj => ?_
  have hj2 : (([21, 22, 19, 20, 23, 24, 18, 16, 17] : List Int).map fun z => V.v (.int .i64 z))[j]? = some v := hj
  simp only [List.getElem?_map, Option.map_eq_some_iff] at hj2
  obtain ⟨k, hk2, rfl⟩ := hj2
  exact ⟨_, c0 j k hk2, .v _ rfl⟩
 ·cases hc
  refine ros_of fun j v hj => ?_
  cases j with
  | zero =>
   cases hj
   exact ⟨_, hm, .v _ rfl⟩
  | succ j => simp at hj
 ·cases hc
noncomputable def laidWorld (os : Os) : World :=
 let w0 := World.holding Tryd.prog os ⟨#[], #[], []⟩
 let put (h : Array Obj) (g : Nat) (cs : Array Value) : Array Obj := h.modify g fun
  | .cells _ t frozen => .cells cs t frozen
  | o => o
 let h6 := put w0.heap 0 ([21, 22, 19, 20, 23, 24, 18, 16, 17].map fun z => Value.int .i64 z).toArray
 { w0 with heap := h6 }
theorem laid1 (os : Os) (args : Array Value) : LaidIn Tryd.prog ((laidWorld os).forCall (fun _ _ => 0) ⟨#[], args, []⟩).memory [("jalousie/jalousieref3.kinds", Rows.laid_jalousie_jalousieref3_kinds)] [0] :=
 LaidIn.of_run [0] 8 (by kernel_rfl) (by kernel_rfl) (by kernel_rfl) (by kernel_rfl)
theorem ty_int {t : TypeId} {k : IntKind} {p : List V} (ht : Tryd.prog.underlying t = some (.int k)) (h : Ty Tryd.prog t p) : ∃ n, p = [.v (.int k n)] ∧ (Lit.int k n).wf = true := by
 cases h with
 | int k' n hu hw => rw [ht] at hu; cases hu; exact ⟨n, rfl, hw⟩
 | bool b hu => rw [ht] at hu; cases hu
 | string s hu => rw [ht] at hu; cases hu
 | slice rows hu _ => rw [ht] at hu; cases hu
 | struct fs cells hu _ => rw [ht] at hu; cases hu
theorem ty_bool {t : TypeId} {p : List V} (ht : Tryd.prog.underlying t = some .bool) (h : Ty Tryd.prog t p) : ∃ b, p = [.v (.bool b)] := by
 cases h with
 | int k' n hu hw => rw [ht] at hu; cases hu
 | bool b hu => exact ⟨b, rfl⟩
 | string s hu => rw [ht] at hu; cases hu
 | slice rows hu _ => rw [ht] at hu; cases hu
 | struct fs cells hu _ => rw [ht] at hu; cases hu
theorem ty_str {t : TypeId} {p : List V} (ht : Tryd.prog.underlying t = some .string) (h : Ty Tryd.prog t p) : ∃ s, p = [.v (.string s)] := by
 cases h with
 | int k' n hu hw => rw [ht] at hu; cases hu
 | bool b hu => rw [ht] at hu; cases hu
 | string s hu => exact ⟨s, rfl⟩
 | slice rows hu _ => rw [ht] at hu; cases hu
 | struct fs cells hu _ => rw [ht] at hu; cases hu
theorem ty_fields {t : TypeId} {fs : Array Field} {p : List V} (ht : Tryd.prog.underlying t = some (.struct fs)) (h : Ty Tryd.prog t p) : TyFs Tryd.prog fs.toList p := by
 cases h with
 | int k' n hu hw => rw [ht] at hu; cases hu
 | bool b hu => rw [ht] at hu; cases hu
 | string s hu => rw [ht] at hu; cases hu
 | slice rows hu _ => rw [ht] at hu; cases hu
 | struct fs' cells hu hf => rw [ht] at hu; cases hu; exact hf
theorem fs_cons {f : Field} {fs : List Field} {p : List V} (h : TyFs Tryd.prog (f :: fs) p) : ∃ a b, p = a ++ b ∧ Ty Tryd.prog f.type a ∧ TyFs Tryd.prog fs b := by
 cases h with
 | cons h1 h2 => exact ⟨_, _, rfl, h1, h2⟩
theorem fs_nil {p : List V} (h : TyFs Tryd.prog [] p) : p = [] := by
 cases h; rfl
theorem wf_i64 {n : Int} (h : (Lit.int .i64 n).wf = true) : -9223372036854775808 ≤ n ∧ n ≤ 9223372036854775807 := by
 simp [Lit.wf, IntKind.min, IntKind.max, IntKind.signed, IntKind.bits] at h
 omega
theorem any_bs (s : ByteArray) : ∃ l : List Int, Utf.By l ∧ s = Rul.bs l ∧ l.length = s.size := by
 refine ⟨s.data.toList.map fun c => (c.toNat : Int), ?_, ?_, ?_⟩
 ·intro c hc
  obtain ⟨x, _, rfl⟩ := List.mem_map.1 hc
  have := x.toNat_lt
  omega
 ·apply ByteArray.ext
  unfold Rul.bs u8s
  simp only [List.map_map]
  apply Array.toList_inj.1
  conv => lhs; rw [← List.map_id s.data.toList]
  apply List.map_congr_left
  intro c _
  simp
 ·rw [List.length_map, Array.length_toList]; rfl
theorem ty_slice {t e : TypeId} {p : List V} (ht : Tryd.prog.underlying t = some (.slice e)) (h : Ty Tryd.prog t p) : ∃ rows, p = [.list .no rows] ∧ ∀ row ∈ rows, Ty Tryd.prog e row := by
 cases h with
 | int k' n hu hw => rw [ht] at hu; cases hu
 | bool b hu => rw [ht] at hu; cases hu
 | string s hu => rw [ht] at hu; cases hu
 | slice rows hu hr => rw [ht] at hu; cases hu; exact ⟨rows, rfl, hr⟩
 | struct fs cells hu _ => rw [ht] at hu; cases hu
theorem tv {t e : TypeId} {v : V} (ht : Tryd.prog.underlying t = some (.slice e)) (h : TyV Tryd.prog t v) : Ty Tryd.prog t [v] := by
 unfold TyV at h
 rw [ht] at h
 exact h
theorem tyTkw {p : List V} (hc : Ty Tryd.prog 46 p) : ∃ t : Rul.Tk4, p = Rul.row t ∧ Utf.By t.b ∧ (-9223372036854775808 ≤ t.n ∧ t.n ≤ 9223372036854775807) ∧ (-9223372036854775808 ≤ t.d ∧ t.d ≤ 9223372036854775807) ∧ vsRow p = t.b.length + 6 := by
 have h1 := ty_fields Tryd.underlying46 hc
 obtain ⟨p1, q1, rfl, t1, h1⟩ := fs_cons h1
 obtain ⟨p2, q2, rfl, t2, h1⟩ := fs_cons h1
 obtain ⟨p3, q3, rfl, t3, h1⟩ := fs_cons h1
 obtain ⟨p4, q4, rfl, t4, h1⟩ := fs_cons h1
 obtain ⟨p5, q5, rfl, t5, h1⟩ := fs_cons h1
 obtain rfl := fs_nil h1
 obtain ⟨k, rfl, _⟩ := ty_int Tryd.underlying3 t1
 obtain ⟨s, rfl⟩ := ty_str Tryd.underlying9 t2
 have h2 := ty_fields Tryd.underlying44 t3
 obtain ⟨p6, q6, rfl, t6, h2⟩ := fs_cons h2
 obtain ⟨p7, q7, rfl, t7, h2⟩ := fs_cons h2
 obtain rfl := fs_nil h2
 obtain ⟨n, rfl, hn⟩ := ty_int Tryd.underlying2 t6
 obtain ⟨d, rfl, hd⟩ := ty_int Tryd.underlying2 t7
 obtain ⟨w, rfl⟩ := ty_bool Tryd.underlying4 t4
 obtain ⟨i, rfl⟩ := ty_bool Tryd.underlying4 t5
 obtain ⟨b, hb, rfl, hl⟩ := any_bs s
 refine ⟨⟨k, b, n, d, w, i⟩, rfl, hb, wf_i64 hn, wf_i64 hd, ?_⟩
 simp [vsRow, vsize]
 omega
theorem tyValw {p : List V} (hc : Ty Tryd.prog 48 p) : ∃ (t : Rul.Tk4) (rows : List (List V)), p = Rul.row t ++ [.list .no rows] ∧ (∀ row ∈ rows, Ty Tryd.prog 48 row) ∧ (Utf.By t.b ∧ (-9223372036854775808 ≤ t.n ∧ t.n ≤ 9223372036854775807) ∧ (-9223372036854775808 ≤ t.d ∧ t.d ≤ 9223372036854775807)) ∧ vsRow p = t.b.length + 7 + vsRows rows := by
 have h1 := ty_fields Tryd.underlying48 hc
 obtain ⟨p1, q1, rfl, t1, h1⟩ := fs_cons h1
 obtain ⟨p2, q2, rfl, t2, h1⟩ := fs_cons h1
 obtain rfl := fs_nil h1
 obtain ⟨t, rfl, a, b, c, e⟩ := tyTkw t1
 obtain ⟨rows, rfl, hr⟩ := ty_slice Tryd.underlying22 t2
 refine ⟨t, rows, rfl, hr, ⟨a, b, c⟩, ?_⟩
 rw [vsRow_append, e, List.append_nil]
 simp [vsRow, vsize]
 omega
theorem tyValsw : ∀ (n : Nat) (rows : List (List V)), vsRows rows ≤ n → n ≤ 1048576 → (∀ row ∈ rows, Ty Tryd.prog 48 row) →
  ∃ l : List Rul.CV, rows = Rul.rowsC l ∧ Rul.allL OkB l ∧ Rul.nodesL l ≤ vsRows rows := by
 intro n
 induction n with
 | zero =>
  intro rows hs hn h
  cases rows with
  | nil => exact ⟨[], by rw [Rul.rowsC_nil], by rw [Rul.allL]; trivial, by rw [Rul.nodesL_nil]; omega⟩
  | cons r rs =>
   obtain ⟨t, ks, rfl, _, _, e⟩ := tyValw (h r (List.mem_cons_self ..))
   simp only [vsRows] at hs
   omega
 | succ n ih =>
  intro rows hs hn h
  cases rows with
  | nil => exact ⟨[], by rw [Rul.rowsC_nil], by rw [Rul.allL]; trivial, by rw [Rul.nodesL_nil]; omega⟩
  | cons r rs =>
   obtain ⟨t, ks, rfl, hk, a, e⟩ := tyValw (h r (List.mem_cons_self ..))
   simp only [vsRows, e] at hs ⊢
   obtain ⟨kl, rfl, k1, k2⟩ := ih ks (by omega) (by omega) hk
   obtain ⟨l, rfl, l1, l2⟩ := ih rs (by omega) (by omega) fun row hm => h row (List.mem_cons_of_mem _ hm)
   refine ⟨.mk t kl :: l, ?_, ?_, ?_⟩
   ·rw [Rul.rowsC_cons, Rul.rowV]
   ·rw [Rul.allL, Rul.allV]
    exact ⟨⟨⟨a.1, by omega, a.2.1.1, a.2.1.2, a.2.2.2⟩, k1⟩, l1⟩
   ·rw [Rul.nodesL_cons, Rul.nodesV_eq, show (Rul.CV.mk t kl).ks = kl from rfl]
    omega
theorem ty22 {v : V} {n : Nat} (h : TyV Tryd.prog 22 v) (hs : asize v ≤ n) (hn : n ≤ 1048576) : ∃ l : List Rul.CV, v = .list .no (Rul.rowsC l) ∧ Rul.allL OkB l ∧ Rul.nodesL l ≤ n := by
 obtain ⟨rows, hp, hr⟩ := ty_slice Tryd.underlying22 (tv Tryd.underlying22 h)
 obtain rfl : v = .list .no rows := by simpa using hp
 have hv : vsRows rows ≤ n := by simp only [asize, vsize] at hs; omega
 obtain ⟨l, rfl, a, b⟩ := tyValsw n rows hv hn hr
 exact ⟨l, rfl, a, by omega⟩
end Go.Proofs.YthjkocamddljiaaDoor
end

section
namespace Go.Proofs.YthjkocamddljiaaDoor
theorem and_tt {a b : Bool} (ha : a = true) (hb : b = true) : (a && b) = true := by rw [ha, hb]; rfl
theorem fact2 : laidOutB Tryd.prog = true := by kernel_rfl
theorem fact3 : mapsRowed Tryd.prog = true := by kernel_rfl
theorem fact7 : (Tryd.prog.stops == []) = true := by kernel_rfl
theorem fact9 : (Tryd.prog.stopKnobs == []) = true := by kernel_rfl
theorem fact23 : (Rows.selListsUptoRow.plainKeys == Tryd.prog.plainKeys) = true := by kernel_rfl
theorem fact25 : Tryd.prog.stopsHeard = true := by kernel_rfl
theorem fact26 : Tryd.prog.mayEnter = true := by kernel_rfl
theorem fact27 : (Rows.selListsUptoRow.lifted == Tryd.prog.liftsFinal) = true := by kernel_rfl
theorem fact28 : (Tryd.prog.make == some Rows.selListsUptoRow.make) = true := by kernel_rfl
end Go.Proofs.YthjkocamddljiaaDoor
end
