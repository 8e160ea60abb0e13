/- Which selectors may be: sel.may, sel.May. -/
import Derived.ProofKit
import Derived.Test.YtkbhmelfbekieaaGreatDoorProg
import Derived.Shelf.LaysM
import Derived.Shelf.Strings.Search2
import Derived.Test.YtkbhmelfbekieaaGreatDoorGK0Basea
import Derived.Test.YtkbhmelfbekieaaGreatDoorGKb
set_option linter.unusedVariables false
set_option linter.unusedSimpArgs false
set_option linter.unusedSectionVars false
set_option maxRecDepth 100000
set_option maxHeartbeats 4000000
section
open Go.Proofs
namespace Go.Lift.Z9
variable [MX]
variable {lo : Nat} {h : Heap}
open Utf Spell Sel
theorem smV_eq (k : Int) (n : List Int) (o : Int) (v : List Int) (f : Bool) (l : List Sel.Cx) (a b : Int) :
  smV (.mk k n o v f l a b) = [.v (.int .i64 k), .v (.string (bs n)), .v (.int .i64 o), .v (.string (bs v)), .v (.bool f), .list .no (cxsC l), .v (.int .i64 a), .v (.int .i64 b)] := by rw [smV]; rfl
theorem cpV_eq (c : Int) (ss : List Sm) : cpV (.mk c ss) = [.v (.int .i64 c), .list .no (smsC ss)] := by rw [cpV]
theorem cxV_eq (ps : List Cp) : cxV (.mk ps) = [.list .no (cpsC ps)] := by rw [cxV]
def C22 (d : Nat) (s : Sm) : Prop := ∀ lo h, lo <= h.length -> E lo 43 [.agg (smV s), .v (.int .i64 d)] h = some (.v (.bool (simpleP sound d s)), h)
abbrev NS14 (d : Nat) (X : List (List V)) (lx i : Int) (Y : List (List V)) (ly j : Int) (ss : List Sm) (k : Int) : Env :=
 [(1, .v (.int .i64 d)), (18, .list .no X), (19, .v (.int .i64 lx)), (20, .v (.int .i64 i)), (29, .list .no Y), (30, .v (.int .i64 ly)), (31, .v (.int .i64 j)), (59, .list .no (smsC ss)), (60, .v (.int .i64 ss.length)), (61, .v (.int .i64 k))]
noncomputable abbrev Y14 (lo : Nat) (h : Heap) : Go.Lift.Cx := ⟨Tryz.prog, E, lo, h.length, h30⟩
theorem rs14 {d : Nat} {X Y : List (List V)} {lx i ly j : Int} {ss : List Sm} {s : Sm} {k : Nat} (hlo : lo <= h.length) (hl : ss.length <= 1000000000) (hg : ss[k]? = some s) (hc : C22 d s) :
  evCode (Y14 lo h) loopW l30x2 (NS14 d X lx i Y ly j ss k, h) =
   if ((k == 0 || decide (2 < s.k)) && simpleP sound d s) = true then some (.normal, NS14 d X lx i Y ly j ss (k + 1 : Nat), h) else some (.ret, [(4, .v (.bool false))], h) := by
 have hlt : k < ss.length := (List.getElem?_eq_some_iff.1 hg).1
 obtain ⟨q, n, o, v, f, l, a, b⟩ := s
 have hgr : (smsC ss)[k]? = some (smV (.mk q n o v f l a b)) := by simp [smsC_map, hg]
 have hc1 := fun lo h hlo => hc lo h hlo
 rw [smV_eq] at hgr hc1
 have l1 : lo <= h.length + 1 := by omega
 have ih1 := hc1 (h.length + 1) (h ++ [.cells [.v (.int .i64 q), .v (.string (bs n)), .v (.int .i64 o), .v (.string (bs v)), .v (.bool f), .list .no (cxsC l), .v (.int .i64 a), .v (.int .i64 b)]]) (by simp)
 have q1 : decide ((k : Int) < (ss.length : Int)) = true := by simp; omega
 have hw : IntKind.i64.wrap ((k : Int) + 1) = ((k + 1 : Nat) : Int) := wrap_succ (by omega)
 have c1 : decide ((k : Int) > 0) = !(k == 0) := by rw [Bool.eq_iff_iff]; simp; omega
 have c1' : decide (0 < (k : Int)) = !(k == 0) := by rw [Bool.eq_iff_iff]; simp; omega
 have c2 : decide (q <= 2) = !decide (2 < q) := by rw [Bool.eq_iff_iff]; simp
 have sk : (Sm.mk q n o v f l a b).k = q := rfl
 rw [sk]
 cases h0 : k == 0 with
 | true =>
  rw [h0] at c1 c1'
  rw [Bool.true_or, Bool.true_and]
  cases h1 : simpleP sound d (.mk q n o v f l a b) with
  | true =>
   rw [h1] at hc1 ih1
   rw [if_pos rfl]
   simp only [go_sem, l30x2, b30, Tryz.f30, hlo, l1, q1, hgr, hw, c1, c1', hc1, Bool.not_true]
   all_goals rfl
  | false =>
   rw [h1] at hc1 ih1
   rw [if_neg (by simp)]
   simp only [go_sem, l30x2, b30, Tryz.f30, hlo, l1, q1, hgr, hw, c1, c1', hc1, Bool.not_true]
   all_goals rfl
 | false =>
  rw [h0] at c1 c1'
  rw [Bool.false_or]
  cases h2 : decide (2 < q) with
  | false =>
   rw [h2] at c2
   rw [Bool.false_and, if_neg (by simp)]
   simp only [go_sem, l30x2, b30, Tryz.f30, hlo, l1, q1, hgr, hw, c1, c1', c2, hc1, Bool.not_false]
   all_goals rfl
  | true =>
   rw [h2] at c2
   rw [Bool.true_and]
   cases h1 : simpleP sound d (.mk q n o v f l a b) with
   | true =>
    rw [h1] at hc1 ih1
    rw [if_pos rfl]
    simp only [go_sem, l30x2, b30, Tryz.f30, hlo, l1, q1, hgr, hw, c1, c1', c2, hc1, Bool.not_true, Bool.not_false]
    all_goals rfl
   | false =>
    rw [h1] at hc1 ih1
    rw [if_neg (by simp)]
    simp only [go_sem, l30x2, b30, Tryz.f30, hlo, l1, q1, hgr, hw, c1, c1', c2, hc1, Bool.not_true, Bool.not_false]
    all_goals rfl
theorem es14 {d : Nat} {X Y : List (List V)} {lx i ly j : Int} {ss : List Sm} :
  evCode (Y14 lo h) loopW l30x2 (NS14 d X lx i Y ly j ss ss.length, h) = some (.exit 4, NS14 d X lx i Y ly j ss ss.length ++ [(62, .v (.bool false))], h) := by
 have q : decide ((ss.length : Int) < (ss.length : Int)) = false := by simp
 simp only [go_sem, l30x2, b30, Tryz.f30, q]
 all_goals rfl
theorem smsP_drop {d : Nat} {ss : List Sm} {k : Nat} (hk : k < ss.length) : smsP sound d (k == 0) (ss.drop k) = (((k == 0 || decide (2 < ss[k].k)) && simpleP sound d ss[k]) && smsP sound d (k + 1 == 0) (ss.drop (k + 1))) := by
 rw [List.drop_eq_getElem_cons hk, smsP]
 rfl
theorem ls14 {d : Nat} {X Y : List (List V)} {lx i ly j : Int} {ss : List Sm} (hlo : lo <= h.length) (hl : ss.length <= 1000000000) (hc : ∀ s ∈ ss, C22 d s) : ∀ (m k : Nat), k + m = ss.length ->
  loopW (evCode (Y14 lo h) loopW l30x2) (NS14 d X lx i Y ly j ss k, h) =
   if smsP sound d (k == 0) (ss.drop k) = true then some (.exit 4, NS14 d X lx i Y ly j ss ss.length ++ [(62, .v (.bool false))], h) else some (.ret, [(4, .v (.bool false))], h) := by
 intro m
 induction m with
 | zero =>
  intro k hk
  obtain rfl : k = ss.length := by omega
  rw [List.drop_length, smsP, if_pos rfl, loop_eq, es14, loop_e]
 | succ m ih =>
  intro k hk
  have hlt : k < ss.length := by omega
  have hr := rs14 (lo := lo) (h := h) (X := X) (Y := Y) (lx := lx) (i := i) (ly := ly) (j := j) hlo hl (List.getElem?_eq_getElem hlt) (hc _ (List.getElem_mem hlt))
  rw [smsP_drop hlt, loop_eq, hr]
  cases hm : ((k == 0 || decide (2 < ss[k].k)) && simpleP sound d ss[k]) with
  | true => rw [if_pos rfl, loop_n, Bool.true_and, ih (k + 1) (by omega)]
  | false => rw [if_neg (by simp), loop_r, Bool.false_and, if_neg (by simp)]
def Cp14 (d : Nat) : Cp -> Prop
 | .mk c ss => ss.length <= 1000000000 /\ ∀ s ∈ ss, C22 d s
abbrev NP14 (d : Nat) (X : List (List V)) (lx i : Int) (ps : List Cp) (j : Int) : Env :=
 [(1, .v (.int .i64 d)), (18, .list .no X), (19, .v (.int .i64 lx)), (20, .v (.int .i64 i)), (29, .list .no (cpsC ps)), (30, .v (.int .i64 ps.length)), (31, .v (.int .i64 j))]
theorem rp14 {d : Nat} {X : List (List V)} {lx i : Int} {ps : List Cp} {c : Int} {ss : List Sm} {j : Nat} (hlo : lo <= h.length) (hl : ps.length <= 1000000000) (hg : ps[j]? = some (.mk c ss)) (hc : Cp14 d (.mk c ss)) :
  evCode (Y14 lo h) loopW l30x1 (NP14 d X lx i ps j, h) =
   if ((((j == 0) == (c == 0)) && decide (0 <= c) && decide (c <= 4) && !ss.isEmpty) && smsP sound d true ss) = true then some (.normal, NP14 d X lx i ps (j + 1 : Nat), h) else some (.ret, [(4, .v (.bool false))], h) := by
 have hlt : j < ps.length := (List.getElem?_eq_some_iff.1 hg).1
 have hgr : (cpsC ps)[j]? = some (cpV (.mk c ss)) := by simp [cpsC_map, hg]
 rw [cpV_eq] at hgr
 have l1 : lo <= h.length + 1 := by omega
 have q1 : decide ((j : Int) < (ps.length : Int)) = true := by simp; omega
 have hw : IntKind.i64.wrap ((j : Int) + 1) = ((j + 1 : Nat) : Int) := wrap_succ (by omega)
 have ez : ((ss.length : Int) == 0) = ss.isEmpty := by cases ss with | nil => rfl | cons y r => simp; omega
 have dz : decide ((ss.length : Int) = 0) = ss.isEmpty := by rw [<- ez]; rw [Bool.eq_iff_iff]; simp
 have c0 : ((j : Int) == 0) = (j == 0) := by rw [Bool.eq_iff_iff]; simp
 have o2 : decide (c < 0) = !decide (0 <= c) := by rw [Bool.eq_iff_iff]; simp
 have o3 : decide (4 < c) = !decide (c <= 4) := by rw [Bool.eq_iff_iff]; simp
 have o3' : decide (c > 4) = !decide (c <= 4) := by rw [Bool.eq_iff_iff]; simp
 have n0 : ((0 : Nat) : Int) = 0 := rfl
 have hL := ls14 (lo := lo) (h := h) (X := X) (lx := lx) (i := i) (Y := cpsC ps) (ly := ps.length) (j := j) (d := d) hlo hc.1 hc.2 ss.length 0 (by omega)
 have z0 : ((0 : Nat) == 0) = true := rfl
 rw [List.drop_zero, z0] at hL
 generalize (j == 0) = J at *
 have hcd : (!(J == (c == 0)) || decide (c < 0) || decide (4 < c) || ((ss.length : Int) == 0)) = !((J == (c == 0)) && decide (0 <= c) && decide (c <= 4) && !ss.isEmpty) := by
  rw [ez, o2, o3]
  simp only [Bool.not_and, Bool.not_not]
 generalize ((J == (c == 0)) && decide (0 <= c) && decide (c <= 4) && !ss.isEmpty) = W at *
 cases W with
 | false =>
  rw [Bool.false_and, if_neg (by simp)]
  simp only [go_sem, l30x1, b30, Tryz.f30, hlo, l1, q1, hgr, hw, c0, smsC_len]
  rw [hcd]
  all_goals rfl
 | true =>
  rw [Bool.true_and]
  cases h5 : smsP sound d true ss with
  | true =>
   rw [h5, if_pos rfl] at hL
   simp only [l30x2, b30, Tryz.f30, loopAt, loops, bodyOf, go_sem, NS14, n0, List.cons_append, List.nil_append] at hL
   rw [if_pos rfl]
   simp only [go_sem, l30x1, b30, Tryz.f30, hlo, l1, q1, hgr, hw, c0, hL, smsC_len]
   try rw [hcd]
   all_goals rfl
  | false =>
   rw [h5, if_neg (by simp)] at hL
   simp only [l30x2, b30, Tryz.f30, loopAt, loops, bodyOf, go_sem, NS14, n0, List.cons_append, List.nil_append] at hL
   rw [if_neg (by simp)]
   simp only [go_sem, l30x1, b30, Tryz.f30, hlo, l1, q1, hgr, hw, c0, hL, smsC_len]
   try rw [hcd]
   all_goals rfl
theorem ep14 {d : Nat} {X : List (List V)} {lx i : Int} {ps : List Cp} :
  evCode (Y14 lo h) loopW l30x1 (NP14 d X lx i ps ps.length, h) = some (.exit 2, NP14 d X lx i ps ps.length ++ [(32, .v (.bool false))], h) := by
 have q : decide ((ps.length : Int) < (ps.length : Int)) = false := by simp
 simp only [go_sem, l30x1, b30, Tryz.f30, q]
 all_goals rfl
theorem lp14 {d : Nat} {X : List (List V)} {lx i : Int} {ps : List Cp} (hlo : lo <= h.length) (hl : ps.length <= 1000000000) (hc : ∀ p ∈ ps, Cp14 d p) : ∀ (m j : Nat), j + m = ps.length ->
  loopW (evCode (Y14 lo h) loopW l30x1) (NP14 d X lx i ps j, h) =
   if cpsP sound d (j == 0) (ps.drop j) = true then some (.exit 2, NP14 d X lx i ps ps.length ++ [(32, .v (.bool false))], h) else some (.ret, [(4, .v (.bool false))], h) := by
 intro m
 induction m with
 | zero =>
  intro j hj
  obtain rfl : j = ps.length := by omega
  rw [List.drop_length, cpsP, if_pos rfl, loop_eq, ep14, loop_e]
 | succ m ih =>
  intro j hj
  have hlt : j < ps.length := by omega
  have hm := hc _ (List.getElem_mem hlt)
  have hg := List.getElem?_eq_getElem hlt
  rw [List.drop_eq_getElem_cons hlt]
  generalize ps[j] = p at *
  obtain ⟨c, ss⟩ := p
  have hr := rp14 (lo := lo) (h := h) (X := X) (lx := lx) (i := i) hlo hl hg hm
  have z1 : (j + 1 == 0) = false := rfl
  rw [cpsP, loop_eq, hr]
  cases hw : ((((j == 0) == (c == 0)) && decide (0 <= c) && decide (c <= 4) && !ss.isEmpty) && smsP sound d true ss) with
  | true => rw [if_pos rfl, loop_n, Bool.true_and, ih (j + 1) (by omega), z1]
  | false => rw [if_neg (by simp), loop_r, Bool.false_and, if_neg (by simp)]
def Cx14 (d : Nat) : Sel.Cx -> Prop
 | .mk ps => ps.length <= 1000000000 /\ ∀ p ∈ ps, Cp14 d p
abbrev NX14 (d : Nat) (l : List Sel.Cx) (i : Int) : Env := [(1, .v (.int .i64 d)), (18, .list .no (cxsC l)), (19, .v (.int .i64 l.length)), (20, .v (.int .i64 i))]
theorem rx14 {d : Nat} {l : List Sel.Cx} {ps : List Cp} {i : Nat} (hlo : lo <= h.length) (hl : l.length <= 1000000000) (hg : l[i]? = some (.mk ps)) (hc : Cx14 d (.mk ps)) :
  evCode (Y14 lo h) loopW l30x0 (NX14 d l i, h) =
   if (!ps.isEmpty && cpsP sound d true ps) = true then some (.normal, NX14 d l (i + 1 : Nat), h) else some (.ret, [(4, .v (.bool false))], h) := by
 have hlt : i < l.length := (List.getElem?_eq_some_iff.1 hg).1
 have hgr : (cxsC l)[i]? = some (cxV (.mk ps)) := by simp [cxsC_map, hg]
 rw [cxV_eq] at hgr
 have l1 : lo <= h.length + 1 := by omega
 have q1 : decide ((i : Int) < (l.length : Int)) = true := by simp; omega
 have hw : IntKind.i64.wrap ((i : Int) + 1) = ((i + 1 : Nat) : Int) := wrap_succ (by omega)
 have ez : ((ps.length : Int) == 0) = ps.isEmpty := by cases ps with | nil => rfl | cons y r => simp; omega
 have n0 : ((0 : Nat) : Int) = 0 := rfl
 have hL := lp14 (lo := lo) (h := h) (X := cxsC l) (lx := l.length) (i := i) (d := d) hlo hc.1 hc.2 ps.length 0 (by omega)
 have z0 : ((0 : Nat) == 0) = true := rfl
 rw [List.drop_zero, z0] at hL
 cases h1 : ps.isEmpty with
 | true =>
  rw [h1] at ez
  rw [Bool.not_true, Bool.false_and, if_neg (by simp)]
  simp only [go_sem, l30x0, b30, Tryz.f30, hlo, l1, q1, hgr, hw, ez, cpsC_len]
  all_goals rfl
 | false =>
  rw [h1] at ez
  rw [Bool.not_false, Bool.true_and]
  cases h5 : cpsP sound d true ps with
  | true =>
   rw [h5, if_pos rfl] at hL
   simp only [l30x1, b30, Tryz.f30, loopAt, loops, bodyOf, go_sem, NP14, n0, List.cons_append, List.nil_append] at hL
   rw [if_pos rfl]
   simp only [go_sem, l30x0, b30, Tryz.f30, hlo, l1, q1, hgr, hw, ez, hL, cpsC_len]
   all_goals rfl
  | false =>
   rw [h5, if_neg (by simp)] at hL
   simp only [l30x1, b30, Tryz.f30, loopAt, loops, bodyOf, go_sem, NP14, n0, List.cons_append, List.nil_append] at hL
   rw [if_neg (by simp)]
   simp only [go_sem, l30x0, b30, Tryz.f30, hlo, l1, q1, hgr, hw, ez, hL, cpsC_len]
   all_goals rfl
theorem ex14 {d : Nat} {l : List Sel.Cx} :
  evCode (Y14 lo h) loopW l30x0 (NX14 d l l.length, h) = some (.exit 0, NX14 d l l.length ++ [(21, .v (.bool false))], h) := by
 have q : decide ((l.length : Int) < (l.length : Int)) = false := by simp
 simp only [go_sem, l30x0, b30, Tryz.f30, q]
 all_goals rfl
theorem lx14 {d : Nat} {l : List Sel.Cx} (hlo : lo <= h.length) (hl : l.length <= 1000000000) (hc : ∀ c ∈ l, Cx14 d c) : ∀ (m i : Nat), i + m = l.length ->
  loopW (evCode (Y14 lo h) loopW l30x0) (NX14 d l i, h) =
   if cxsP sound d (l.drop i) = true then some (.exit 0, NX14 d l l.length ++ [(21, .v (.bool false))], h) else some (.ret, [(4, .v (.bool false))], h) := by
 intro m
 induction m with
 | zero =>
  intro i hi
  obtain rfl : i = l.length := by omega
  rw [List.drop_length, cxsP, if_pos rfl, loop_eq, ex14, loop_e]
 | succ m ih =>
  intro i hi
  have hlt : i < l.length := by omega
  have hm := hc _ (List.getElem_mem hlt)
  have hg := List.getElem?_eq_getElem hlt
  rw [List.drop_eq_getElem_cons hlt]
  generalize l[i] = p at *
  obtain ⟨ps⟩ := p
  have hr := rx14 (lo := lo) (h := h) hlo hl hg hm
  rw [cxsP, loop_eq, hr]
  cases hw : (!ps.isEmpty && cpsP sound d true ps) with
  | true => rw [if_pos rfl, loop_n, Bool.true_and, ih (i + 1) (by omega)]
  | false => rw [if_neg (by simp), loop_r, Bool.false_and, if_neg (by simp)]
theorem f14_of {d : Nat} {l : List Sel.Cx} (hlo : lo <= h.length) (hd : d <= 100) (hl : l.length <= 1000000000) (hc : d <= 65 -> ∀ c ∈ l, Cx14 d c) :
  E lo 30 [.list .no (cxsC l), .v (.int .i64 d)] h = some (.v (.bool (mayP sound d l)), h) := by
 have ez : ((l.length : Int) == 0) = l.isEmpty := by cases l with | nil => rfl | cons y r => simp; omega
 have n0 : ((0 : Nat) : Int) = 0 := rfl
 have e1 : decide (65 < (d : Int)) = !decide (d <= 65) := by rw [Bool.eq_iff_iff]; simp; omega
 rw [e30 (by simp) (by rfl), mayP]
 cases h1 : l.isEmpty with
 | true =>
  rw [h1] at ez
  simp only [go_sem, b30, Tryz.f30, hlo, ez, cxsC_len, Bool.not_true, Bool.false_and]
  all_goals rfl
 | false =>
 rw [h1] at ez
 rw [Bool.not_false, Bool.true_and]
 cases h2 : decide (d <= 65) with
 | false =>
  rw [h2] at e1
  simp only [go_sem, b30, Tryz.f30, hlo, ez, e1, cxsC_len, Bool.not_false, Bool.false_and]
  all_goals rfl
 | true =>
 rw [h2] at e1
 have hL := lx14 (lo := lo) (h := h) (l := l) (d := d) hlo hl (hc (by simpa using h2)) l.length 0 (by omega)
 rw [List.drop_zero] at hL
 rw [Bool.true_and]
 cases h5 : cxsP sound d l with
 | true =>
  rw [h5, if_pos rfl] at hL
  simp only [l30x0, b30, Tryz.f30, loopAt, loops, bodyOf, go_sem, NX14, n0, List.cons_append, List.nil_append] at hL
  simp only [go_sem, b30, Tryz.f30, hlo, ez, e1, hL, cxsC_len, Bool.not_true]
  all_goals rfl
 | false =>
  rw [h5, if_neg (by simp)] at hL
  simp only [l30x0, b30, Tryz.f30, loopAt, loops, bodyOf, go_sem, NX14, n0, List.cons_append, List.nil_append] at hL
  simp only [go_sem, b30, Tryz.f30, hlo, ez, e1, hL, cxsC_len, Bool.not_true]
  all_goals rfl
end Go.Lift.Z9
end

section
open Go.Proofs
namespace Go.Lift.Z9
variable [MX]
variable {lo : Nat} {h : Heap}
open Utf Spell Sel
def wCx : Sel.Cx -> Wt
 | .mk ps => wCps wz ps
def W17 (c : Sel.Cx) : Prop := ∀ lo h, lo <= h.length -> E lo 19 [.agg (cxV c)] h = some (.agg (wV (wCx c)), h)
def W26 (s : Sm) : Prop := ∀ lo h, lo <= h.length -> E lo 31 [.agg (smV s)] h = some (.agg (wV (wSm s)), h)
abbrev LO (l : List (List V)) : Ob := .cells [.list .no l]
abbrev ZO : Ob := .cells [.v (.int .i64 0), .v (.int .i64 0), .v (.int .i64 0)]
abbrev WO (w : Wt) : Ob := .cells [.v (.int .i64 w.a), .v (.int .i64 w.b), .v (.int .i64 w.c)]
noncomputable abbrev X19 (lo : Nat) (h : Heap) : Go.Lift.Cx := ⟨Tryz.prog, E, lo, h.length, h19⟩
abbrev NS17 (h : Heap) (X : List (List V)) (lx j : Int) (ss : List Sm) (k : Int) : Env :=
 [(2, .ptr (h.length + 1) 0), (3, .ptr (h.length + 2) 0), (11, .list .no X), (12, .v (.int .i64 lx)), (13, .v (.int .i64 j)), (18, .list .no (smsC ss)), (19, .v (.int .i64 ss.length)), (20, .v (.int .i64 k))]
theorem rs17 {O : List (List V)} {X : List (List V)} {lx j : Int} {ss : List Sm} {s : Sm} {k : Nat} {w : Wt} (hlo : lo <= h.length) (hl : ss.length <= 1000000000) (hg : ss[k]? = some s) (hc : W26 s) :
  evCode (X19 lo h) loopW l19x1 (NS17 h X lx j ss k, h ++ [LO O, ZO, WO w]) = some (.normal, NS17 h X lx j ss (k + 1 : Nat), h ++ [LO O, ZO, WO (addW w (wSm s))]) := by
 have hlt : k < ss.length := (List.getElem?_eq_some_iff.1 hg).1
 have hc1 := fun lo h hlo => hc lo h hlo
 generalize wSm s = u at *
 obtain ⟨q, n, o, v, f, l, a, b⟩ := s
 have hgr : (smsC ss)[k]? = some (smV (.mk q n o v f l a b)) := by simp [smsC_map, hg]
 obtain ⟨x, y, z⟩ := w
 obtain ⟨x', y', z'⟩ := u
 rw [smV_eq] at hgr hc1
 rw [wV_eq] at hc1
 unfold addW
 have l1 : lo <= h.length + 1 := by omega
 have l2 : lo <= h.length + 2 := by omega
 have l3 : lo <= h.length + 3 := by omega
 have l4 : lo <= h.length + 4 := by omega
 have l5 : lo <= h.length + 5 := by omega
 have d1 : decide (h.length < h.length + 3) = true := by simp
 have d2 : decide (h.length + 1 < h.length + 3) = true := by simp
 have d3 : decide (h.length + 2 < h.length + 3) = true := by simp
 have q1 : decide ((k : Int) < (ss.length : Int)) = true := by simp; omega
 have hw : IntKind.i64.wrap ((k : Int) + 1) = ((k + 1 : Nat) : Int) := wrap_succ (by omega)
 simp only [go_sem, l19x1, b19, Tryz.f19, hlo, l1, l2, l3, l4, l5, d1, d2, d3, q1, hgr, hw, hc1, loop_eq, ix0, ix1, ix2, wr1, wr2, wr3, lt0, lt1, lt2, lt3]
 all_goals rfl
theorem es17 {H : Heap} {X : List (List V)} {lx j : Int} {ss : List Sm} :
  evCode (X19 lo h) loopW l19x1 (NS17 h X lx j ss ss.length, H) = some (.exit 2, NS17 h X lx j ss ss.length ++ [(21, .v (.bool false))], H) := by
 have q : decide ((ss.length : Int) < (ss.length : Int)) = false := by simp
 simp only [go_sem, l19x1, b19, Tryz.f19, q]
 all_goals rfl
theorem ls17 {O : List (List V)} {X : List (List V)} {lx j : Int} {ss : List Sm} (hlo : lo <= h.length) (hl : ss.length <= 1000000000) (hc : ∀ s ∈ ss, W26 s) : ∀ (m k : Nat) (w : Wt), k + m = ss.length ->
  loopW (evCode (X19 lo h) loopW l19x1) (NS17 h X lx j ss k, h ++ [LO O, ZO, WO w]) = some (.exit 2, NS17 h X lx j ss ss.length ++ [(21, .v (.bool false))], h ++ [LO O, ZO, WO (wSms w (ss.drop k))]) := by
 intro m
 induction m with
 | zero =>
  intro k w hk
  obtain rfl : k = ss.length := by omega
  rw [List.drop_length, wSms, loop_eq, es17, loop_e]
 | succ m ih =>
  intro k w hk
  have hlt : k < ss.length := by omega
  rw [List.drop_eq_getElem_cons hlt, wSms, loop_eq, rs17 hlo hl (List.getElem?_eq_getElem hlt) (hc _ (List.getElem_mem hlt)), loop_n, ih (k + 1) _ (by omega)]
def Cp17 : Cp -> Prop
 | .mk c ss => ss.length <= 1000000000 /\ ∀ s ∈ ss, W26 s
abbrev NP17 (h : Heap) (ps : List Cp) (j : Int) : Env := [(2, .ptr (h.length + 1) 0), (3, .ptr (h.length + 2) 0), (11, .list .no (cpsC ps)), (12, .v (.int .i64 ps.length)), (13, .v (.int .i64 j))]
theorem rp17 {O : List (List V)} {ps : List Cp} {c : Int} {ss : List Sm} {j : Nat} {w : Wt} (hlo : lo <= h.length) (hl : ps.length <= 1000000000) (hg : ps[j]? = some (.mk c ss)) (hc : Cp17 (.mk c ss)) :
  evCode (X19 lo h) loopW l19x0 (NP17 h ps j, h ++ [LO O, ZO, WO w]) = some (.normal, NP17 h ps (j + 1 : Nat), h ++ [LO O, ZO, WO (wSms w ss)]) := by
 have hlt : j < ps.length := (List.getElem?_eq_some_iff.1 hg).1
 have hgr : (cpsC ps)[j]? = some (cpV (.mk c ss)) := by simp [cpsC_map, hg]
 rw [cpV_eq] at hgr
 have l1 : lo <= h.length + 1 := by omega
 have l2 : lo <= h.length + 2 := by omega
 have l3 : lo <= h.length + 3 := by omega
 have d1 : decide (h.length < h.length + 3) = true := by simp
 have d2 : decide (h.length + 1 < h.length + 3) = true := by simp
 have d3 : decide (h.length + 2 < h.length + 3) = true := by simp
 have q1 : decide ((j : Int) < (ps.length : Int)) = true := by simp; omega
 have hw : IntKind.i64.wrap ((j : Int) + 1) = ((j + 1 : Nat) : Int) := wrap_succ (by omega)
 have n0 : ((0 : Nat) : Int) = 0 := rfl
 have hL := ls17 (lo := lo) (h := h) (O := O) (X := cpsC ps) (lx := ps.length) (j := j) hlo hc.1 hc.2 ss.length 0 w (by omega)
 rw [List.drop_zero] at hL
 simp only [l19x1, b19, Tryz.f19, loopAt, loops, bodyOf, go_sem, NS17, n0, List.cons_append, List.nil_append] at hL
 simp only [go_sem, l19x0, b19, Tryz.f19, hlo, l1, l2, l3, d1, d2, d3, q1, hgr, hw, hL, smsC_len]
 all_goals rfl
theorem ep17 {H : Heap} {ps : List Cp} : evCode (X19 lo h) loopW l19x0 (NP17 h ps ps.length, H) = some (.exit 0, NP17 h ps ps.length ++ [(14, .v (.bool false))], H) := by
 have q : decide ((ps.length : Int) < (ps.length : Int)) = false := by simp
 simp only [go_sem, l19x0, b19, Tryz.f19, q]
 all_goals rfl
theorem lp17 {O : List (List V)} {ps : List Cp} (hlo : lo <= h.length) (hl : ps.length <= 1000000000) (hc : ∀ p ∈ ps, Cp17 p) : ∀ (m j : Nat) (w : Wt), j + m = ps.length ->
  loopW (evCode (X19 lo h) loopW l19x0) (NP17 h ps j, h ++ [LO O, ZO, WO w]) = some (.exit 0, NP17 h ps ps.length ++ [(14, .v (.bool false))], h ++ [LO O, ZO, WO (wCps w (ps.drop j))]) := by
 intro m
 induction m with
 | zero =>
  intro j w hj
  obtain rfl : j = ps.length := by omega
  rw [List.drop_length, wCps, loop_eq, ep17, loop_e]
 | succ m ih =>
  intro j w hj
  have hlt : j < ps.length := by omega
  have hm := hc _ (List.getElem_mem hlt)
  have hg := List.getElem?_eq_getElem hlt
  rw [List.drop_eq_getElem_cons hlt]
  generalize ps[j] = p at *
  obtain ⟨c, ss⟩ := p
  rw [wCps, loop_eq, rp17 hlo hl hg hm, loop_n, ih (j + 1) _ (by omega)]
theorem f17_of {ps : List Cp} (hlo : lo <= h.length) (hl : ps.length <= 1000000000) (hc : ∀ p ∈ ps, Cp17 p) : E lo 19 [.agg (cxV (.mk ps))] h = some (.agg (wV (wCx (.mk ps))), h) := by
 have l1 : lo <= h.length + 1 := by omega
 have l2 : lo <= h.length + 2 := by omega
 have l3 : lo <= h.length + 3 := by omega
 have n0 : ((0 : Nat) : Int) = 0 := rfl
 have hL := lp17 (lo := lo) (h := h) (O := cpsC ps) hlo hl hc ps.length 0 wz (by omega)
 rw [List.drop_zero] at hL
 simp only [l19x0, b19, Tryz.f19, loopAt, loops, bodyOf, go_sem, NP17, n0, wz, List.cons_append, List.nil_append] at hL
 rw [e19 (by simp) (by rfl), cxV_eq, wCx]
 simp only [go_sem, b19, Tryz.f19, hlo, l1, l2, l3, hL, cpsC_len]
 all_goals rfl
end Go.Lift.Z9
end

section
namespace Go.Lift.Sel
mutual
def wSmR : Sm -> Wt
 | .mk k n o v f l a b => if k = 4 then ⟨1, 0, 0⟩ else if k = 2 then ⟨0, 0, 1⟩ else if k = 1 \/ k = 8 then wz else if k = 6 \/ k = 7 then mostF wz (wCxsR l) else ⟨0, 1, 0⟩
def wSmsR (acc : Wt) : List Sm -> Wt
 | [] => acc
 | s :: r => wSmsR (addW acc (wSmR s)) r
def wCpsR (acc : Wt) : List Cp -> Wt
 | [] => acc
 | .mk c ss :: r => wCpsR (wSmsR acc ss) r
def wCxsR : List Cx -> List Wt
 | [] => []
 | .mk ps :: r => wCpsR wz ps :: wCxsR r
end
mutual
def nSm : Sm -> Nat
 | .mk k n o v f l a b => 1 + nCxs l
def nSms : List Sm -> Nat
 | [] => 0
 | s :: r => nSm s + nSms r
def nCps : List Cp -> Nat
 | [] => 0
 | .mk c ss :: r => nSms ss + nCps r
def nCxs : List Cx -> Nat
 | [] => 0
 | .mk ps :: r => nCps ps + nCxs r
end
def InB (w : Wt) (n : Nat) : Prop := (0 <= w.a /\ w.a <= n) /\ (0 <= w.b /\ w.b <= n) /\ (0 <= w.c /\ w.c <= n)
theorem InB.mono {w : Wt} {n m : Nat} (h : InB w n) (hm : n <= m) : InB w m := by
 unfold InB at *
 omega
theorem inB_z (n : Nat) : InB wz n := by
 unfold InB wz
 simp
theorem addW_in {x y : Wt} {n m : Nat} (hx : InB x n) (hy : InB y m) (hb : n + m <= 1000000000000) : InB (addW x y) (n + m) := by
 unfold InB at *
 simp only [addW, wrap_i64']
 omega
theorem mostF_in {n : Nat} : ∀ (l : List Wt) (out : Wt), InB out n -> (∀ w ∈ l, InB w n) -> InB (mostF out l) n
 | [], out, h, _ => by rw [mostF]; exact h
 | w :: r, out, h, hl => by
  rw [mostF]
  refine mostF_in r _ ?_ fun x hx => hl x (List.mem_cons_of_mem _ hx)
  split
  ·exact hl w (List.mem_cons_self ..)
  ·exact h
theorem less_z {w : Wt} {n : Nat} (h : InB w n) (hl : lessW wz w = false) : w = wz := by
 obtain ⟨a, b, c⟩ := w
 unfold InB at h
 unfold lessW wz at hl
 unfold wz
 simp only at h hl
 split at hl
 ·rename_i q
  simp at q hl
  omega
 ·rename_i q
  simp at q
  subst q
  split at hl
  ·rename_i q
   simp at q hl
   omega
  ·rename_i q
   simp at q
   subst q
   split at hl
   ·rename_i q
    simp at q hl
    omega
   ·rename_i q
    simp at q
    subst q
    rfl
theorem most_z {n : Nat} {l : List Wt} (hl : ∀ w ∈ l, InB w n) : mostF wz l = mostW l := by
 cases l with
 | nil => rfl
 | cons w r =>
  rw [mostF, mostW]
  cases h : lessW wz w with
  | true => rw [if_pos rfl]
  | false => rw [if_neg (by simp), less_z (hl w (List.mem_cons_self ..)) h]
theorem mostW_in {n : Nat} {l : List Wt} (hl : ∀ w ∈ l, InB w n) : InB (mostW l) n := by
 rw [<- most_z hl]
 exact mostF_in l wz (inB_z n) hl
mutual
theorem sm_same : ∀ (s : Sm), nSm s <= 100000000000 -> wSmR s = wSm s /\ InB (wSm s) (nSm s)
 | .mk k n o v f l a b, h => by
  rw [nSm] at h ⊢
  obtain ⟨e, i⟩ := cxs_same l (by omega)
  have one : InB ⟨0, 1, 0⟩ (1 + nCxs l) := by unfold InB; simp; omega
  have one2 : InB ⟨1, 0, 0⟩ (1 + nCxs l) := by unfold InB; simp; omega
  have one3 : InB ⟨0, 0, 1⟩ (1 + nCxs l) := by unfold InB; simp; omega
  rw [wSmR, wSm, e, most_z i]
  by_cases k4 : k = 4
  ·subst k4
   simp [one2]
  by_cases k2 : k = 2
  ·subst k2
   simp [one3]
  rw [if_neg k4, if_neg k2, if_neg k4, if_neg k2]
  refine ⟨rfl, ?_⟩
  split
  ·exact inB_z _
  ·split
   ·exact (mostW_in i).mono (by omega)
   ·exact one
theorem sms_same : ∀ (l : List Sm) (acc : Wt) (m : Nat), InB acc m -> m + nSms l <= 100000000000 -> wSmsR acc l = wSms acc l /\ InB (wSms acc l) (m + nSms l)
 | [], acc, m, h, _ => by rw [wSmsR, wSms, nSms]; exact ⟨rfl, h⟩
 | s :: r, acc, m, h, hb => by
  rw [nSms] at hb ⊢
  obtain ⟨e, i⟩ := sm_same s (by omega)
  rw [wSmsR, wSms, e]
  have := sms_same r (addW acc (wSm s)) (m + nSm s) (addW_in h i (by omega)) (by omega)
  rw [show m + (nSm s + nSms r) = m + nSm s + nSms r by omega]
  exact this
theorem cps_same : ∀ (l : List Cp) (acc : Wt) (m : Nat), InB acc m -> m + nCps l <= 100000000000 -> wCpsR acc l = wCps acc l /\ InB (wCps acc l) (m + nCps l)
 | [], acc, m, h, _ => by rw [wCpsR, wCps, nCps]; exact ⟨rfl, h⟩
 | .mk c ss :: r, acc, m, h, hb => by
  rw [nCps] at hb ⊢
  obtain ⟨e, i⟩ := sms_same ss acc m h (by omega)
  rw [wCpsR, wCps, e]
  have := cps_same r (wSms acc ss) (m + nSms ss) i (by omega)
  rw [show m + (nSms ss + nCps r) = m + nSms ss + nCps r by omega]
  exact this
theorem cxs_same : ∀ (l : List Cx), nCxs l <= 100000000000 -> wCxsR l = wCxs l /\ ∀ w ∈ wCxs l, InB w (nCxs l)
 | [], _ => by rw [wCxsR, wCxs]; exact ⟨rfl, fun w h => nomatch h⟩
 | .mk ps :: r, hb => by
  rw [nCxs] at hb ⊢
  obtain ⟨e, i⟩ := cps_same ps wz 0 (inB_z 0) (by omega)
  obtain ⟨e2, i2⟩ := cxs_same r (by omega)
  rw [wCxsR, wCxs, e, e2]
  refine ⟨rfl, fun w hw => ?_⟩
  rcases List.mem_cons.1 hw with rfl | hw
  ·exact i.mono (by omega)
  ·exact (i2 w hw).mono (by omega)
end
end Go.Lift.Sel
end

section
open Go.Proofs
namespace Go.Lift.Z9
variable [MX]
variable {lo : Nat} {h : Heap}
open Utf Spell Sel
theorem f9 {x y : Wt} (hlo : lo <= h.length) : E lo 9 [.agg (wV x), .agg (wV y)] h = some (.v (.bool (lessW x y)), h) := by
 obtain ⟨a, b, c⟩ := x
 obtain ⟨a', b', c'⟩ := y
 have l1 : lo <= h.length + 1 := by omega
 have l2 : lo <= h.length + 2 := by omega
 rw [e9 (by simp) (by rfl), wV_eq, wV_eq]
 unfold lessW
 have na : (a != a') = !(a == a') := rfl
 have nb : (b != b') = !(b == b') := rfl
 have nc : (c != c') = !(c == c') := rfl
 cases h1 : a == a' with
 | false =>
  rw [h1] at na
  simp only [go_sem, b9, Tryz.f9, hlo, l1, l2, h1, na, loop_eq, fl29, eq_w, ix0, ix1, ix2, wr1, wr2, wr3, lt0, lt1, lt2, lt3, Bool.not_false, Bool.not_true, Bool.false_and, Bool.true_and, Bool.and_false]
  all_goals rfl
 | true =>
 rw [h1] at na
 cases h2 : b == b' with
 | false =>
  rw [h2] at nb
  simp only [go_sem, b9, Tryz.f9, hlo, l1, l2, h1, na, h2, nb, loop_eq, fl29, eq_w, ix0, ix1, ix2, wr1, wr2, wr3, lt0, lt1, lt2, lt3, Bool.not_false, Bool.not_true, Bool.false_and, Bool.true_and, Bool.and_false]
  all_goals rfl
 | true =>
 rw [h2] at nb
 cases h3 : c == c' with
 | false =>
  rw [h3] at nc
  simp only [go_sem, b9, Tryz.f9, hlo, l1, l2, h1, na, h2, nb, h3, nc, loop_eq, fl29, eq_w, ix0, ix1, ix2, wr1, wr2, wr3, lt0, lt1, lt2, lt3, Bool.not_false, Bool.not_true, Bool.false_and, Bool.true_and, Bool.and_false]
  all_goals rfl
 | true =>
  rw [h3] at nc
  simp only [go_sem, b9, Tryz.f9, hlo, l1, l2, h1, na, h2, nb, h3, nc, loop_eq, fl29, eq_w, ix0, ix1, ix2, wr1, wr2, wr3, lt0, lt1, lt2, lt3, Bool.not_false, Bool.not_true, Bool.false_and, Bool.true_and, Bool.and_false]
  all_goals rfl
def wCxr : Sel.Cx -> Wt
 | .mk ps => wCpsR wz ps
def W8 (c : Sel.Cx) : Prop := ∀ lo h, lo <= h.length -> E lo 8 [.agg (cxV c)] h = some (.agg (wV (wCxr c)), h)
noncomputable abbrev X8 (lo : Nat) (h : Heap) : Go.Lift.Cx := ⟨Tryz.prog, E, lo, h.length, h8⟩
abbrev SO (k : Int) (n : List Int) (o : Int) (v : List Int) (f : Bool) (L : List (List V)) (a b : Int) : Ob :=
 .cells [.v (.int .i64 k), .v (.string (bs n)), .v (.int .i64 o), .v (.string (bs v)), .v (.bool f), .list .no L, .v (.int .i64 a), .v (.int .i64 b)]
abbrev NL8 (h : Heap) (X : List (List V)) (lx j : Int) (Y : List (List V)) (ly k : Int) (l : List Sel.Cx) (i : Int) : Env :=
 [(2, .ptr (h.length + 1) 0), (3, .ptr (h.length + 2) 0), (8, .ptr (h.length + 4) 0), (15, .list .no X), (16, .v (.int .i64 lx)), (17, .v (.int .i64 j)), (22, .list .no Y), (23, .v (.int .i64 ly)), (24, .v (.int .i64 k)), (45, .list .no (cxsC l)), (46, .v (.int .i64 l.length)), (47, .v (.int .i64 i))]
theorem rl8 {O X Y : List (List V)} {lx j ly k q o a b : Int} {n v : List Int} {f : Bool} {l : List Sel.Cx} {ps : List Cp} {i : Nat} {w out : Wt} (hlo : lo <= h.length) (hl : l.length <= 1000000000) (hg : l[i]? = some (.mk ps)) (hc : W8 (.mk ps)) :
  evCode (X8 lo h) loopW l8x2 (NL8 h X lx j Y ly k l i, h ++ [LO O, ZO, WO w, SO q n o v f (cxsC l) a b, WO out]) =
   some (.normal, NL8 h X lx j Y ly k l (i + 1 : Nat), h ++ [LO O, ZO, WO w, SO q n o v f (cxsC l) a b, WO (if lessW out (wCxr (.mk ps)) = true then wCxr (.mk ps) else out)]) := by
 have hlt : i < l.length := (List.getElem?_eq_some_iff.1 hg).1
 have hgr : (cxsC l)[i]? = some (cxV (.mk ps)) := by simp [cxsC_map, hg]
 have hc1 := fun lo h hlo => hc lo h hlo
 generalize wCxr (.mk ps) = u at *
 have c9 := fun lo h hlo => f9 (lo := lo) (h := h) (x := out) (y := u) hlo
 rw [cxV_eq] at hgr hc1
 rw [wV_eq] at hc1
 rw [wV_eq, wV_eq] at c9
 have l1 : lo <= h.length + 1 := by omega
 have l2 : lo <= h.length + 2 := by omega
 have l3 : lo <= h.length + 3 := by omega
 have l4 : lo <= h.length + 4 := by omega
 have l5 : lo <= h.length + 5 := by omega
 have l6 : lo <= h.length + 6 := by omega
 have l7 : lo <= h.length + 7 := by omega
 have d1 : decide (h.length < h.length + 5) = true := by simp
 have d2 : decide (h.length + 1 < h.length + 5) = true := by simp
 have d3 : decide (h.length + 2 < h.length + 5) = true := by simp
 have d4 : decide (h.length + 3 < h.length + 5) = true := by simp
 have d5 : decide (h.length + 4 < h.length + 5) = true := by simp
 have q1 : decide ((i : Int) < (l.length : Int)) = true := by simp; omega
 have hw : IntKind.i64.wrap ((i : Int) + 1) = ((i + 1 : Nat) : Int) := wrap_succ (by omega)
 cases hb : lessW out u with
 | true =>
  rw [hb] at c9
  rw [if_pos rfl]
  simp only [go_sem, l8x2, b8, Tryz.f8, hlo, l1, l2, l3, l4, l5, l6, l7, d1, d2, d3, d4, d5, q1, hgr, hw, hc1, c9]
  all_goals rfl
 | false =>
  rw [hb] at c9
  rw [if_neg (by simp)]
  simp only [go_sem, l8x2, b8, Tryz.f8, hlo, l1, l2, l3, l4, l5, l6, l7, d1, d2, d3, d4, d5, q1, hgr, hw, hc1, c9]
  all_goals rfl
theorem el8 {H : Heap} {X Y : List (List V)} {lx j ly k : Int} {l : List Sel.Cx} :
  evCode (X8 lo h) loopW l8x2 (NL8 h X lx j Y ly k l l.length, H) = some (.exit 5, NL8 h X lx j Y ly k l l.length ++ [(48, .v (.bool false))], H) := by
 have q : decide ((l.length : Int) < (l.length : Int)) = false := by simp
 simp only [go_sem, l8x2, b8, Tryz.f8, q]
 all_goals rfl
theorem ll8 {O X Y : List (List V)} {lx j ly k q o a b : Int} {n v : List Int} {f : Bool} {l : List Sel.Cx} {w : Wt} (hlo : lo <= h.length) (hl : l.length <= 1000000000) (hc : ∀ c ∈ l, W8 c) : ∀ (m i : Nat) (out : Wt), i + m = l.length ->
  loopW (evCode (X8 lo h) loopW l8x2) (NL8 h X lx j Y ly k l i, h ++ [LO O, ZO, WO w, SO q n o v f (cxsC l) a b, WO out]) =
   some (.exit 5, NL8 h X lx j Y ly k l l.length ++ [(48, .v (.bool false))], h ++ [LO O, ZO, WO w, SO q n o v f (cxsC l) a b, WO (mostF out ((l.drop i).map wCxr))]) := by
 intro m
 induction m with
 | zero =>
  intro i out hi
  obtain rfl : i = l.length := by omega
  rw [List.drop_length, List.map_nil, mostF, loop_eq, el8, loop_e]
 | succ m ih =>
  intro i out hi
  have hlt : i < l.length := by omega
  have hm := hc _ (List.getElem_mem hlt)
  have hg := List.getElem?_eq_getElem hlt
  rw [List.drop_eq_getElem_cons hlt]
  generalize l[i] = p at *
  obtain ⟨ps⟩ := p
  rw [List.map_cons, mostF, loop_eq, rl8 hlo hl hg hm, loop_n, ih (i + 1) _ (by omega)]
end Go.Lift.Z9
end

section
namespace Go.Lift.Sel
mutual
def okSm : Sm -> Prop
 | .mk k n o v f l a b => (Utf.By n /\ n.length <= 1000000000 /\ Utf.By v /\ v.length <= 1000000000 /\ l.length <= 1000000000) /\ okCxs l
def okSms : List Sm -> Prop
 | [] => True
 | s :: r => okSm s /\ okSms r
def okCps : List Cp -> Prop
 | [] => True
 | .mk c ss :: r => (ss.length <= 1000000000 /\ okSms ss) /\ okCps r
def okCxs : List Cx -> Prop
 | [] => True
 | .mk ps :: r => (ps.length <= 1000000000 /\ okCps ps) /\ okCxs r
end
end Go.Lift.Sel
end

section
open Go.Proofs
namespace Go.Lift.Z9
variable [MX]
variable {lo : Nat} {h : Heap}
open Utf Spell Sel
abbrev NS8 (h : Heap) (X : List (List V)) (lx j : Int) (ss : List Sm) (k : Int) : Env :=
 [(2, .ptr (h.length + 1) 0), (3, .ptr (h.length + 2) 0), (15, .list .no X), (16, .v (.int .i64 lx)), (17, .v (.int .i64 j)), (22, .list .no (smsC ss)), (23, .v (.int .i64 ss.length)), (24, .v (.int .i64 k))]
theorem wCxsR_map : ∀ l : List Sel.Cx, wCxsR l = l.map wCxr
 | [] => by rw [wCxsR]; rfl
 | .mk ps :: r => by rw [wCxsR, wCxsR_map r]; rfl
def W8s : Sm -> Prop
 | .mk k n o v f l a b => l.length <= 1000000000 /\ ∀ c ∈ l, W8 c
theorem rs8 {O X : List (List V)} {lx j : Int} {ss : List Sm} {s : Sm} {k : Nat} {w : Wt} (hlo : lo <= h.length) (hl : ss.length <= 1000000000) (hg : ss[k]? = some s) (hc : W8s s) :
  evCode (X8 lo h) loopW l8x1 (NS8 h X lx j ss k, h ++ [LO O, ZO, WO w]) = some (.normal, NS8 h X lx j ss (k + 1 : Nat), h ++ [LO O, ZO, WO (addW w (wSmR s))]) := by
 have hlt : k < ss.length := (List.getElem?_eq_some_iff.1 hg).1
 obtain ⟨q, n, o, v, f, l, a, b⟩ := s
 have hgr : (smsC ss)[k]? = some (smV (.mk q n o v f l a b)) := by simp [smsC_map, hg]
 rw [smV_eq] at hgr
 have l1 : lo <= h.length + 1 := by omega
 have l2 : lo <= h.length + 2 := by omega
 have l3 : lo <= h.length + 3 := by omega
 have l4 : lo <= h.length + 4 := by omega
 have l5 : lo <= h.length + 5 := by omega
 have d1 : decide (h.length < h.length + 3) = true := by simp
 have d2 : decide (h.length + 1 < h.length + 3) = true := by simp
 have d3 : decide (h.length + 2 < h.length + 3) = true := by simp
 have q1 : decide ((k : Int) < (ss.length : Int)) = true := by simp; omega
 have hw : IntKind.i64.wrap ((k : Int) + 1) = ((k + 1 : Nat) : Int) := wrap_succ (by omega)
 obtain ⟨x, y, z⟩ := w
 rw [wSmR]
 by_cases k4 : q = 4
 ·subst k4
  rw [if_pos rfl]
  unfold addW
  simp only [go_sem, Int.reduceBEq, reduceIte, Bool.false_eq_true, l8x1, b8, Tryz.f8, hlo, l1, l2, l3, l4, l5, d1, d2, d3, q1, hgr, hw, loop_eq, ix0, ix1, ix2, wr1, wr2, wr3, lt0, lt1, lt2, lt3]
  all_goals rfl
 rw [if_neg k4]
 by_cases k2 : q = 2
 ·subst k2
  rw [if_pos rfl]
  unfold addW
  simp only [go_sem, Int.reduceBEq, reduceIte, Bool.false_eq_true, l8x1, b8, Tryz.f8, hlo, l1, l2, l3, l4, l5, d1, d2, d3, q1, hgr, hw, loop_eq, ix0, ix1, ix2, wr1, wr2, wr3, lt0, lt1, lt2, lt3]
  all_goals rfl
 rw [if_neg k2]
 by_cases k1 : q = 1 \/ q = 8
 ·rw [if_pos k1]
  unfold addW wz
  rcases k1 with rfl | rfl
  all_goals
   simp only [go_sem, Int.reduceBEq, reduceIte, Bool.false_eq_true, l8x1, b8, Tryz.f8, hlo, l1, l2, l3, l4, l5, d1, d2, d3, q1, hgr, hw, loop_eq, ix0, ix1, ix2, wr1, wr2, wr3, lt0, lt1, lt2, lt3]
   all_goals rfl
 rw [if_neg k1]
 by_cases k6 : q = 6 \/ q = 7
 ·rw [if_pos k6]
  have hL := ll8 (lo := lo) (h := h) (O := O) (X := X) (lx := lx) (j := j) (Y := smsC ss) (ly := ss.length) (k := k) (q := q) (o := o) (a := a) (b := b) (n := n) (v := v) (f := f) (w := ⟨x, y, z⟩) hlo hc.1 hc.2 l.length 0 wz (by omega)
  rw [List.drop_zero, <- wCxsR_map] at hL
  generalize mostF wz (wCxsR l) = u at *
  have n0 : ((0 : Nat) : Int) = 0 := rfl
  simp only [l8x2, b8, Tryz.f8, loopAt, loops, bodyOf, go_sem, NL8, n0, wz, List.cons_append, List.nil_append] at hL
  unfold addW
  rcases k6 with rfl | rfl
  all_goals
   simp only [go_sem, Int.reduceBEq, reduceIte, Bool.false_eq_true, l8x1, b8, Tryz.f8, hlo, l1, l2, l3, l4, l5, d1, d2, d3, q1, hgr, hw, hL, cxsC_len, ix0, ix1, ix2, wr1, wr2, wr3, lt0, lt1, lt2, lt3]
   simp only [go_sem, hlo, l1, l2, l3, l4, l5, d1, d2, d3, q1, hw, loop_eq, ix0, ix1, ix2, wr1, wr2, wr3, lt0, lt1, lt2, lt3]
   all_goals rfl
 rw [if_neg k6]
 have p1 : (q == 1) = false := by rw [beq_eq_false_iff_ne]; omega
 have p2 : (q == 2) = false := by rw [beq_eq_false_iff_ne]; omega
 have p4 : (q == 4) = false := by rw [beq_eq_false_iff_ne]; omega
 have p6 : (q == 6) = false := by rw [beq_eq_false_iff_ne]; omega
 have p7 : (q == 7) = false := by rw [beq_eq_false_iff_ne]; omega
 have p8 : (q == 8) = false := by rw [beq_eq_false_iff_ne]; omega
 unfold addW
 simp only [go_sem, l8x1, b8, Tryz.f8, hlo, l1, l2, l3, l4, l5, d1, d2, d3, q1, hgr, hw, p1, p2, p4, p6, p7, p8, loop_eq, ix0, ix1, ix2, wr1, wr2, wr3, lt0, lt1, lt2, lt3]
 all_goals rfl
theorem es8 {H : Heap} {X : List (List V)} {lx j : Int} {ss : List Sm} :
  evCode (X8 lo h) loopW l8x1 (NS8 h X lx j ss ss.length, H) = some (.exit 2, NS8 h X lx j ss ss.length ++ [(25, .v (.bool false))], H) := by
 have q : decide ((ss.length : Int) < (ss.length : Int)) = false := by simp
 simp only [go_sem, l8x1, b8, Tryz.f8, q]
 all_goals rfl
theorem ls8 {O X : List (List V)} {lx j : Int} {ss : List Sm} (hlo : lo <= h.length) (hl : ss.length <= 1000000000) (hc : ∀ s ∈ ss, W8s s) : ∀ (m k : Nat) (w : Wt), k + m = ss.length ->
  loopW (evCode (X8 lo h) loopW l8x1) (NS8 h X lx j ss k, h ++ [LO O, ZO, WO w]) = some (.exit 2, NS8 h X lx j ss ss.length ++ [(25, .v (.bool false))], h ++ [LO O, ZO, WO (wSmsR w (ss.drop k))]) := by
 intro m
 induction m with
 | zero =>
  intro k w hk
  obtain rfl : k = ss.length := by omega
  rw [List.drop_length, wSmsR, loop_eq, es8, loop_e]
 | succ m ih =>
  intro k w hk
  have hlt : k < ss.length := by omega
  rw [List.drop_eq_getElem_cons hlt, wSmsR, loop_eq, rs8 hlo hl (List.getElem?_eq_getElem hlt) (hc _ (List.getElem_mem hlt)), loop_n, ih (k + 1) _ (by omega)]
def Cp8 : Cp -> Prop
 | .mk c ss => ss.length <= 1000000000 /\ ∀ s ∈ ss, W8s s
abbrev NP8 (h : Heap) (ps : List Cp) (j : Int) : Env := [(2, .ptr (h.length + 1) 0), (3, .ptr (h.length + 2) 0), (15, .list .no (cpsC ps)), (16, .v (.int .i64 ps.length)), (17, .v (.int .i64 j))]
theorem rp8 {O : List (List V)} {ps : List Cp} {c : Int} {ss : List Sm} {j : Nat} {w : Wt} (hlo : lo <= h.length) (hl : ps.length <= 1000000000) (hg : ps[j]? = some (.mk c ss)) (hc : Cp8 (.mk c ss)) :
  evCode (X8 lo h) loopW l8x0 (NP8 h ps j, h ++ [LO O, ZO, WO w]) = some (.normal, NP8 h ps (j + 1 : Nat), h ++ [LO O, ZO, WO (wSmsR w ss)]) := by
 have hlt : j < ps.length := (List.getElem?_eq_some_iff.1 hg).1
 have hgr : (cpsC ps)[j]? = some (cpV (.mk c ss)) := by simp [cpsC_map, hg]
 rw [cpV_eq] at hgr
 have l1 : lo <= h.length + 1 := by omega
 have l2 : lo <= h.length + 2 := by omega
 have l3 : lo <= h.length + 3 := by omega
 have d1 : decide (h.length < h.length + 3) = true := by simp
 have d2 : decide (h.length + 1 < h.length + 3) = true := by simp
 have d3 : decide (h.length + 2 < h.length + 3) = true := by simp
 have q1 : decide ((j : Int) < (ps.length : Int)) = true := by simp; omega
 have hw : IntKind.i64.wrap ((j : Int) + 1) = ((j + 1 : Nat) : Int) := wrap_succ (by omega)
 have n0 : ((0 : Nat) : Int) = 0 := rfl
 have hL := ls8 (lo := lo) (h := h) (O := O) (X := cpsC ps) (lx := ps.length) (j := j) hlo hc.1 hc.2 ss.length 0 w (by omega)
 rw [List.drop_zero] at hL
 simp only [l8x1, b8, Tryz.f8, loopAt, loops, bodyOf, go_sem, NS8, n0, List.cons_append, List.nil_append] at hL
 simp only [go_sem, l8x0, b8, Tryz.f8, hlo, l1, l2, l3, d1, d2, d3, q1, hgr, hw, hL, smsC_len]
 all_goals rfl
theorem ep8 {H : Heap} {ps : List Cp} : evCode (X8 lo h) loopW l8x0 (NP8 h ps ps.length, H) = some (.exit 0, NP8 h ps ps.length ++ [(18, .v (.bool false))], H) := by
 have q : decide ((ps.length : Int) < (ps.length : Int)) = false := by simp
 simp only [go_sem, l8x0, b8, Tryz.f8, q]
 all_goals rfl
theorem lp8 {O : List (List V)} {ps : List Cp} (hlo : lo <= h.length) (hl : ps.length <= 1000000000) (hc : ∀ p ∈ ps, Cp8 p) : ∀ (m j : Nat) (w : Wt), j + m = ps.length ->
  loopW (evCode (X8 lo h) loopW l8x0) (NP8 h ps j, h ++ [LO O, ZO, WO w]) = some (.exit 0, NP8 h ps ps.length ++ [(18, .v (.bool false))], h ++ [LO O, ZO, WO (wCpsR w (ps.drop j))]) := by
 intro m
 induction m with
 | zero =>
  intro j w hj
  obtain rfl : j = ps.length := by omega
  rw [List.drop_length, wCpsR, loop_eq, ep8, loop_e]
 | succ m ih =>
  intro j w hj
  have hlt : j < ps.length := by omega
  have hm := hc _ (List.getElem_mem hlt)
  have hg := List.getElem?_eq_getElem hlt
  rw [List.drop_eq_getElem_cons hlt]
  generalize ps[j] = p at *
  obtain ⟨c, ss⟩ := p
  rw [wCpsR, loop_eq, rp8 hlo hl hg hm, loop_n, ih (j + 1) _ (by omega)]
theorem f8_of {ps : List Cp} (hlo : lo <= h.length) (hl : ps.length <= 1000000000) (hc : ∀ p ∈ ps, Cp8 p) : E lo 8 [.agg (cxV (.mk ps))] h = some (.agg (wV (wCxr (.mk ps))), h) := by
 have l1 : lo <= h.length + 1 := by omega
 have l2 : lo <= h.length + 2 := by omega
 have l3 : lo <= h.length + 3 := by omega
 have n0 : ((0 : Nat) : Int) = 0 := rfl
 have hL := lp8 (lo := lo) (h := h) (O := cpsC ps) hlo hl hc ps.length 0 wz (by omega)
 rw [List.drop_zero] at hL
 simp only [l8x0, b8, Tryz.f8, loopAt, loops, bodyOf, go_sem, NP8, n0, wz, List.cons_append, List.nil_append] at hL
 rw [e8 (by simp) (by rfl), cxV_eq, wCxr]
 simp only [go_sem, b8, Tryz.f8, hlo, l1, l2, l3, hL, cpsC_len]
 all_goals rfl
mutual
theorem rsm_ok : ∀ (s : Sm), okSm s -> W8s s
 | .mk k n o v f l a b => by
  have ih := rcxs_ok l
  intro hs
  rw [okSm] at hs
  exact ⟨hs.1.2.2.2.2, ih hs.2⟩
theorem rsms_ok : ∀ (l : List Sm), okSms l -> ∀ s ∈ l, W8s s
 | [] => fun _ _ h => nomatch h
 | x :: r => by
  have i1 := rsm_ok x
  have i2 := rsms_ok r
  intro hs s hm
  rw [okSms] at hs
  rcases List.mem_cons.1 hm with rfl | hm
  ·exact i1 hs.1
  ·exact i2 hs.2 s hm
theorem rcps_ok : ∀ (l : List Cp), okCps l -> ∀ p ∈ l, Cp8 p
 | [] => fun _ _ h => nomatch h
 | .mk c ss :: r => by
  have i1 := rsms_ok ss
  have i2 := rcps_ok r
  intro hs p hm
  rw [okCps] at hs
  rcases List.mem_cons.1 hm with rfl | hm
  ·exact ⟨hs.1.1, i1 hs.1.2⟩
  ·exact i2 hs.2 p hm
theorem rcxs_ok : ∀ (l : List Sel.Cx), okCxs l -> ∀ c ∈ l, W8 c
 | [] => fun _ _ h => nomatch h
 | .mk ps :: r => by
  have i1 := rcps_ok ps
  have i2 := rcxs_ok r
  intro hs p hm
  rw [okCxs] at hs
  rcases List.mem_cons.1 hm with rfl | hm
  ·exact fun lo h hlo => f8_of hlo hs.1.1 (i1 hs.1.2)
  ·exact i2 hs.2 p hm
end
theorem f8 {ps : List Cp} (hl : ps.length <= 1000000000) (hs : okCps ps) (hn : nCps ps <= 100000000000) (hlo : lo <= h.length) : E lo 8 [.agg (cxV (.mk ps))] h = some (.agg (wV (wCx (.mk ps))), h) := by
 have k := f8_of hlo hl (rcps_ok ps hs)
 have e : wCxr (.mk ps) = wCx (.mk ps) := (cps_same ps wz 0 (inB_z 0) (by omega)).1
 rw [e] at k
 exact k
end Go.Lift.Z9
end

section
open Go.Proofs
namespace Go.Lift.Z9
variable [MX]
variable {lo : Nat} {h : Heap}
open Utf Spell Sel
mutual
theorem sm_ok : ∀ (s : Sm), okSm s -> ∀ d : Nat, d <= 65 -> C22 d s
 | .mk k n o v f l a b => by
  have ih := cxs_ok l
  intro hs d hd lo h hlo
  rw [okSm] at hs
  exact f43 hs.1 hd (fun lo h hlo => f14_of hlo (by omega) hs.1.2.2.2.2 fun h65 c hc => ih hs.2 (d + 1) h65 c hc) hlo
theorem sms_ok : ∀ (l : List Sm), okSms l -> ∀ d : Nat, d <= 65 -> ∀ s ∈ l, C22 d s
 | [] => fun _ _ _ _ h => nomatch h
 | x :: r => by
  have i1 := sm_ok x
  have i2 := sms_ok r
  intro hs d hd s hm
  rw [okSms] at hs
  rcases List.mem_cons.1 hm with rfl | hm
  ·exact i1 hs.1 d hd
  ·exact i2 hs.2 d hd s hm
theorem cps_ok : ∀ (l : List Cp), okCps l -> ∀ d : Nat, d <= 65 -> ∀ p ∈ l, Cp14 d p
 | [] => fun _ _ _ _ h => nomatch h
 | .mk c ss :: r => by
  have i1 := sms_ok ss
  have i2 := cps_ok r
  intro hs d hd p hm
  rw [okCps] at hs
  rcases List.mem_cons.1 hm with rfl | hm
  ·exact ⟨hs.1.1, i1 hs.1.2 d hd⟩
  ·exact i2 hs.2 d hd p hm
theorem cxs_ok : ∀ (l : List Sel.Cx), okCxs l -> ∀ d : Nat, d <= 65 -> ∀ c ∈ l, Cx14 d c
 | [] => fun _ _ _ _ h => nomatch h
 | .mk ps :: r => by
  have i1 := cps_ok ps
  have i2 := cxs_ok r
  intro hs d hd p hm
  rw [okCxs] at hs
  rcases List.mem_cons.1 hm with rfl | hm
  ·exact ⟨hs.1.1, i1 hs.1.2 d hd⟩
  ·exact i2 hs.2 d hd p hm
end
theorem f30 {d : Nat} {l : List Sel.Cx} (hlo : lo <= h.length) (hd : d <= 100) (hl : l.length <= 1000000000) (hs : okCxs l) :
  E lo 30 [.list .no (cxsC l), .v (.int .i64 d)] h = some (.v (.bool (mayP sound d l)), h) := f14_of hlo hd hl fun hd c hc => cxs_ok l hs d hd c hc
theorem f18 {l : List Sel.Cx} (hlo : lo <= h.length) (hl : l.length <= 1000000000) (hs : okCxs l) :
  E lo 18 [.list .no (cxsC l)] h = some (.v (.bool (mayP sound 1 l)), h) := by
 have k1 := f30 (lo := lo) (d := 1) hlo (by omega) hl hs
 have k2 := f30 (lo := h.length) (h := h) (d := 1) (Nat.le_refl _) (by omega) hl hs
 have n1 : ((1 : Nat) : Int) = 1 := rfl
 rw [n1] at k1 k2
 rw [e18 (by simp) (by rfl)]
 simp only [go_sem, b18, Tryz.f18, k1, k2]
 all_goals rfl
end Go.Lift.Z9
end

section
open Go.Proofs
namespace Go.Lift.Z9
variable [MX]
variable {lo : Nat} {h : Heap}
open Utf Spell Sel
noncomputable abbrev X31 (lo : Nat) (h : Heap) : Go.Lift.Cx := ⟨Tryz.prog, E, lo, h.length, h31⟩
theorem wCxs_map : ∀ l : List Sel.Cx, wCxs l = l.map wCx
 | [] => by rw [wCxs]; rfl
 | .mk ps :: r => by rw [wCxs, wCxs_map r]; rfl
abbrev NX26 (h : Heap) (l : List Sel.Cx) (k : Nat) : Env := [(2, .ptr (h.length + 1) 0), (3, .list .yes ((l.take k).map fun c => wV (wCx c))), (22, .list .no (cxsC l)), (23, .v (.int .i64 l.length)), (24, .v (.int .i64 k))]
theorem noByte : ∀ L : List Wt, isByteRow (L.map wV) = false
 | [] => rfl
 | w :: r => rfl
theorem rx26 {O : Ob} {cs : List V} (hO : O = .cells cs) (hA : cs.all (okv (h.length + 2)) = true) {l : List Sel.Cx} {ps : List Cp} {k : Nat} (hlo : lo <= h.length) (hl : l.length <= 1000000000) (hg : l[k]? = some (.mk ps)) (hc : W17 (.mk ps)) :
  evCode (X31 lo h) loopW l31x0 (NX26 h l k, h ++ [O, ZO]) = some (.normal, NX26 h l (k + 1), h ++ [O, ZO]) := by
 subst hO
 have hlt : k < l.length := (List.getElem?_eq_some_iff.1 hg).1
 have hgr : (cxsC l)[k]? = some (cxV (.mk ps)) := by simp [cxsC_map, hg]
 have hc1 := fun lo h hlo => hc lo h hlo
 have ht : l.take (k + 1) = l.take k ++ [.mk ps] := by
  have := List.take_succ_eq_append_getElem hlt
  rw [this, (List.getElem?_eq_some_iff.1 hg).2]
 rw [cxV_eq] at hgr hc1
 obtain ⟨u, hu⟩ : ∃ u, wCx (.mk ps) = u := ⟨_, rfl⟩
 rw [hu] at hc1
 have hv : wV u = [.v (.int .i64 u.a), .v (.int .i64 u.b), .v (.int .i64 u.c)] := rfl
 rw [hv] at hc1
 have l1 : lo <= h.length + 1 := by omega
 have l2 : lo <= h.length + 2 := by omega
 have l3 : lo <= h.length + 3 := by omega
 have d1 : decide (h.length < h.length + 2) = true := by simp
 have d2 : decide (h.length + 1 < h.length + 2) = true := by simp
 have q1 : decide ((k : Int) < (l.length : Int)) = true := by simp; omega
 have hw : IntKind.i64.wrap ((k : Int) + 1) = ((k + 1 : Nat) : Int) := wrap_succ (by omega)
 have a1 : (((l.take k).map fun c => wV (wCx c)).all fun x => x.length == 3) = true := by
  rw [List.all_eq_true]
  intro x hx
  obtain ⟨c, _, rfl⟩ := List.mem_map.1 hx
  rfl
 have a0 : ((l.take k).map fun c => wV (wCx c)).length <= 1000000000 := by rw [List.length_map, List.length_take]; omega
 have a4 : isByteRow ((l.take k).map fun c => wV (wCx c)) = false := by
  have := noByte ((l.take k).map wCx)
  rw [List.map_map] at this
  exact this
 have a2 : (((l.take k).map fun c => wV (wCx c)).length + 1) * 24 <= 140737488355328 := by omega
 have a3 : ((l.take k).map fun c => wV (wCx c)).length <= 9223372036854775806 := by omega
 simp only [go_sem, l31x0, b31, Tryz.f31, hlo, l1, l2, l3, d1, d2, q1, hgr, hw, hc1, hA, ht, hu, hv, a1, a2, a3, a4, cxsC_len, List.map_append, List.map_cons, List.map_nil]
 unfold NX26
 rw [ht]
 simp only [List.map_append, List.map_cons, List.map_nil, hu, hv]
theorem ex26 {H : Heap} {l : List Sel.Cx} : evCode (X31 lo h) loopW l31x0 (NX26 h l l.length, H) = some (.exit 1, NX26 h l l.length ++ [(25, .v (.bool false))], H) := by
 have q : decide ((l.length : Int) < (l.length : Int)) = false := by simp
 simp only [go_sem, l31x0, b31, Tryz.f31, q]
 all_goals rfl
theorem lx26 {O : Ob} {cs : List V} (hO : O = .cells cs) (hA : cs.all (okv (h.length + 2)) = true) {l : List Sel.Cx} (hlo : lo <= h.length) (hl : l.length <= 1000000000) (hc : ∀ c ∈ l, W17 c) : ∀ (m k : Nat), k + m = l.length ->
  loopW (evCode (X31 lo h) loopW l31x0) (NX26 h l k, h ++ [O, ZO]) = some (.exit 1, NX26 h l l.length ++ [(25, .v (.bool false))], h ++ [O, ZO]) := by
 intro m
 induction m with
 | zero =>
  intro k hk
  obtain rfl : k = l.length := by omega
  rw [loop_eq, ex26, loop_e]
 | succ m ih =>
  intro k hk
  have hlt : k < l.length := by omega
  have hm := hc _ (List.getElem_mem hlt)
  have hg := List.getElem?_eq_getElem hlt
  generalize l[k] = p at *
  obtain ⟨ps⟩ := p
  rw [loop_eq, rx26 hO hA hlo hl hg hm, loop_n, ih (k + 1) (by omega)]
theorem f26_of {k o a b : Int} {n v : List Int} {f : Bool} {l : List Sel.Cx} (hl : l.length <= 1000000000) (hc : ∀ c ∈ l, W17 c) : W26 (.mk k n o v f l a b) := by
 intro lo h hlo
 have l1 : lo <= h.length + 1 := by omega
 have l2 : lo <= h.length + 2 := by omega
 rw [e31 (by simp) (by rfl), smV_eq, wSm]
 by_cases k1 : k = 1 \/ k = 8
 ·rw [if_pos k1]
  rcases k1 with rfl | rfl
  all_goals
   simp only [go_sem, Int.reduceBEq, reduceIte, Bool.false_eq_true, b31, Tryz.f31, hlo, l1, l2]
   rfl
 rw [if_neg k1]
 by_cases k2 : k = 4
 ·subst k2
  rw [if_pos rfl]
  simp only [go_sem, Int.reduceBEq, reduceIte, Bool.false_eq_true, b31, Tryz.f31, hlo, l1, l2]
  rfl
 rw [if_neg k2]
 by_cases k3 : k = 2
 ·subst k3
  rw [if_pos rfl]
  simp only [go_sem, Int.reduceBEq, reduceIte, Bool.false_eq_true, b31, Tryz.f31, hlo, l1, l2]
  rfl
 rw [if_neg k3]
 by_cases k4 : k = 6 \/ k = 7
 ·rw [if_pos k4]
  have hL := lx26 (lo := lo) (h := h) (O := .cells [.v (.int .i64 k), .v (.string (bs n)), .v (.int .i64 o), .v (.string (bs v)), .v (.bool f), .list .no (cxsC l), .v (.int .i64 a), .v (.int .i64 b)]) rfl (by rfl) hlo hl hc l.length 0 (by omega)
  have hm : (l.map fun c => wV (wCx c)) = (wCxs l).map wV := by rw [wCxs_map, List.map_map]; rfl
  have c39 := fun lo h hlo => f11 (lo := lo) (h := h) (l := wCxs l) hlo (by rw [wCxs_map, List.length_map]; exact hl)
  rw [<- hm] at c39
  generalize mostW (wCxs l) = u at *
  have hv : wV u = [.v (.int .i64 u.a), .v (.int .i64 u.b), .v (.int .i64 u.c)] := rfl
  rw [hv] at c39 ⊢
  have t0 : (l.take 0).map (fun c => wV (wCx c)) = [] := rfl
  have tl : l.take l.length = l := List.take_length
  have n0 : ((0 : Nat) : Int) = 0 := rfl
  simp only [l31x0, b31, Tryz.f31, loopAt, loops, bodyOf, go_sem, NX26, n0, tl, List.map_nil, List.cons_append, List.nil_append] at hL
  rcases k4 with rfl | rfl
  all_goals
   simp only [go_sem, Int.reduceBEq, reduceIte, Bool.false_eq_true, b31, Tryz.f31, hlo, l1, l2, hL, c39, cxsC_len]
   all_goals rfl
 rw [if_neg k4]
 have q1 : (k == 1) = false := by rw [beq_eq_false_iff_ne]; omega
 have q2 : (k == 2) = false := by rw [beq_eq_false_iff_ne]; omega
 have q4 : (k == 4) = false := by rw [beq_eq_false_iff_ne]; omega
 have q6 : (k == 6) = false := by rw [beq_eq_false_iff_ne]; omega
 have q7 : (k == 7) = false := by rw [beq_eq_false_iff_ne]; omega
 have q8 : (k == 8) = false := by rw [beq_eq_false_iff_ne]; omega
 simp only [go_sem, b31, Tryz.f31, hlo, l1, l2, q1, q2, q4, q6, q7, q8]
 rfl
mutual
theorem wsm_ok : ∀ (s : Sm), okSm s -> W26 s
 | .mk k n o v f l a b => by
  have ih := wcxs_ok l
  intro hs
  rw [okSm] at hs
  exact f26_of hs.1.2.2.2.2 (ih hs.2)
theorem wsms_ok : ∀ (l : List Sm), okSms l -> ∀ s ∈ l, W26 s
 | [] => fun _ _ h => nomatch h
 | x :: r => by
  have i1 := wsm_ok x
  have i2 := wsms_ok r
  intro hs s hm
  rw [okSms] at hs
  rcases List.mem_cons.1 hm with rfl | hm
  ·exact i1 hs.1
  ·exact i2 hs.2 s hm
theorem wcps_ok : ∀ (l : List Cp), okCps l -> ∀ p ∈ l, Cp17 p
 | [] => fun _ _ h => nomatch h
 | .mk c ss :: r => by
  have i1 := wsms_ok ss
  have i2 := wcps_ok r
  intro hs p hm
  rw [okCps] at hs
  rcases List.mem_cons.1 hm with rfl | hm
  ·exact ⟨hs.1.1, i1 hs.1.2⟩
  ·exact i2 hs.2 p hm
theorem wcxs_ok : ∀ (l : List Sel.Cx), okCxs l -> ∀ c ∈ l, W17 c
 | [] => fun _ _ h => nomatch h
 | .mk ps :: r => by
  have i1 := wcps_ok ps
  have i2 := wcxs_ok r
  intro hs p hm
  rw [okCxs] at hs
  rcases List.mem_cons.1 hm with rfl | hm
  ·exact fun lo h hlo => f17_of hlo hs.1.1 (i1 hs.1.2)
  ·exact i2 hs.2 p hm
end
theorem f19 {ps : List Cp} (hl : ps.length <= 1000000000) (hs : okCps ps) : W17 (.mk ps) := fun lo h hlo => f17_of hlo hl (wcps_ok ps hs)
end Go.Lift.Z9
end

section
open Go.Proofs
namespace Go.Lift.Z9
variable [MX]
variable {lo : Nat} {h : Heap}
open Utf Spell Sel
def weighW (c : Sel.Cx) : Wt := if mayP sound 1 [c] = true then wCx c else wz
def weighE (c : Sel.Cx) : Int := if mayP sound 1 [c] = true then 0 else 1
theorem f6 {ps : List Cp} (hlo : lo <= h.length) (hl : ps.length <= 1000000000) (hs : okCps ps) : E lo 6 [.agg (cxV (.mk ps))] h = some (.tup [.agg (wV (weighW (.mk ps))), .v (.int .i64 (weighE (.mk ps)))], h) := by
 have l1 : lo <= h.length + 1 := by omega
 have l2 : lo <= h.length + 2 := by omega
 have c17 := fun lo h hlo => f19 hl hs lo h hlo
 have c6 := fun lo h hlo => f18 (lo := lo) (h := h) (l := [.mk ps]) hlo (by simp) (by rw [okCxs, okCxs]; exact ⟨⟨hl, hs⟩, trivial⟩)
 have hcx : cxsC [.mk ps] = [[.list .no (cpsC ps)]] := by rw [cxsC, cxsC, cxV_eq]
 rw [hcx] at c6
 unfold weighW weighE
 generalize wCx (.mk ps) = u at *
 have hv : wV u = [.v (.int .i64 u.a), .v (.int .i64 u.b), .v (.int .i64 u.c)] := rfl
 rw [e6 (by simp) (by rfl), cxV_eq]
 rw [cxV_eq, hv] at c17
 cases hm : mayP sound 1 [.mk ps] with
 | true =>
  rw [hm] at c6
  rw [if_pos rfl, if_pos rfl, hv]
  simp only [go_sem, b6, Tryz.f6, hlo, l1, l2, c6, c17]
  all_goals rfl
 | false =>
  rw [hm] at c6
  rw [if_neg (by simp), if_neg (by simp)]
  simp only [go_sem, b6, Tryz.f6, hlo, l1, l2, c6, c17]
  all_goals rfl
end Go.Lift.Z9
end

section
open Go.Proofs
namespace Go.Lift.Z9
variable [MX]
open Utf Tok Spell
section
variable {lo : Nat} {h : Heap}
theorem loop72 {N : Nat} {s : List Int} {l : List Int} (hl : l.length <= 1000000000) : ∀ (m k : Nat), k + m = l.length ->
  loopW (evCode ⟨Tryz.prog, E, lo, N, h72⟩ loopW l72x0) ([(0, .v (.string (bs s))), (4, .list .no (ri .i32 l)), (10, .list .no (ri .i32 l)), (11, .v (.int .i64 l.length)), (12, .v (.int .i64 k))], h) =
   if (l.drop k).contains 0 = true then some (.ret, [(2, .list .yes []), (3, .v (.bool false))], h)
   else some (.exit 0, [(0, .v (.string (bs s))), (4, .list .no (ri .i32 l)), (10, .list .no (ri .i32 l)), (11, .v (.int .i64 l.length)), (12, .v (.int .i64 l.length)), (13, .v (.bool false))], h) := by
 intro m
 induction m with
 | zero =>
  intro k hk
  obtain rfl : k = l.length := by omega
  have q : decide ((l.length : Int) < (l.length : Int)) = false := by simp
  rw [loop_eq, List.drop_length, if_neg (by simp)]
  simp only [go_sem, l72x0, b72, Tryz.f72, q]
  all_goals rfl
 | succ m ih =>
  intro k hk
  have hlt : k < l.length := by omega
  have hg : l[k]? = some l[k] := List.getElem?_eq_getElem hlt
  have hd : l.drop k = l[k] :: l.drop (k + 1) := List.drop_eq_getElem_cons hlt
  have q : decide ((k : Int) < (l.length : Int)) = true := by simp; omega
  have w1 : IntKind.i64.wrap ((k : Int) + 1) = ((k + 1 : Nat) : Int) := wrap_succ (by omega)
  rw [loop_eq, hd, List.contains_cons]
  generalize l[k] = x at *
  cases qx : (x == 0) with
  | true =>
   have e : ((0 : Int) == x) = true := by rw [beq_iff_eq] at qx ⊢; exact qx.symm
   rw [e, if_pos (by simp)]
   simp only [go_sem, l72x0, b72, Tryz.f72, q, hg, qx]
   all_goals rfl
  | false =>
   have e : ((0 : Int) == x) = false := by rw [beq_eq_false_iff_ne] at qx ⊢; exact fun h => qx h.symm
   rw [e, Bool.false_or]
   have er : evCode ⟨Tryz.prog, E, lo, N, h72⟩ loopW l72x0 ([(0, .v (.string (bs s))), (4, .list .no (ri .i32 l)), (10, .list .no (ri .i32 l)), (11, .v (.int .i64 l.length)), (12, .v (.int .i64 k))], h) = some (.normal, [(0, .v (.string (bs s))), (4, .list .no (ri .i32 l)), (10, .list .no (ri .i32 l)), (11, .v (.int .i64 l.length)), (12, .v (.int .i64 (k + 1 : Nat)))], h) := by
    simp only [go_sem, l72x0, b72, Tryz.f72, q, hg, qx, w1]
    all_goals rfl
   rw [er, loop_n, ih (k + 1) (by omega)]
def charsL (l : List Int) : List Int := if (raw l).contains 0 = true then [] else raw l
theorem f72 {l : List Int} (hy : By l) (hl : l.length <= 1000000000) : E lo 72 [.v (.string (bs l))] h = some (.tup [.list .no (ri .i32 (charsL l)), .v (.bool (sound l))], h) := by
 have k1 := fun lo h => f42 (lo := lo) (h := h) hl hy
 have k2 := fun lo h => f93 (lo := lo) (h := h) (b := l) (by omega) hy
 have hc := (raw_count l).1
 have hL := loop72 (lo := lo) (h := h) (N := h.length) (s := l) (l := raw l) (by omega) (raw l).length 0 (by omega)
 have n0 : ((0 : Nat) : Int) = 0 := rfl
 have hs := sound_ref hy
 rw [List.drop_zero] at hL
 rw [e72 (by simp) (by rfl)]
 unfold charsL
 cases q : (raw l).contains 0 with
 | true =>
  rw [q, if_pos rfl] at hL hs
  simp only [l72x0, b72, Tryz.f72, loopAt, loops, bodyOf, go_sem, n0] at hL
  rw [<- hs]
  simp only [go_sem, b72, Tryz.f72, bytes_bs hy, k1, hL]
  all_goals rfl
 | false =>
  rw [q, if_neg (by simp)] at hL hs
  simp only [l72x0, b72, Tryz.f72, loopAt, loops, bodyOf, go_sem, n0] at hL
  rw [<- hs]
  simp only [go_sem, b72, Tryz.f72, bytes_bs hy, k1, hL, k2]
  all_goals rfl
theorem f44 {l : List Int} (hy : By l) (hl : l.length <= 1000000000) : E lo 44 [.v (.string (bs l))] h = some (.v (.bool (sound l)), h) := by
 have k := fun lo h => f72 (lo := lo) (h := h) hy hl
 rw [e44 (by simp) (by rfl)]
 simp only [go_sem, b44, Tryz.f44, k]
 all_goals rfl
end
end Go.Lift.Z9
end

section
open Go.Proofs
namespace Go.Lift.Z9
variable [MX]
variable {lo : Nat} {h : Heap}
open Utf Spell Sel
noncomputable abbrev X32 (lo : Nat) (h : Heap) : Go.Lift.Cx := ⟨Tryz.prog, E, lo, h.length, h32⟩
abbrev cm23 (k o a b : Int) (n v : List Int) (f : Bool) (l : List (List V)) : Ob :=
 .cells [.v (.int .i64 k), .v (.string (bs n)), .v (.int .i64 o), .v (.string (bs v)), .v (.bool f), .list .no l, .v (.int .i64 a), .v (.int .i64 b)]
variable {k d o a b : Int} {n v : List Int} {f : Bool} {l : List (List V)}
abbrev EA23 (h : Heap) (k d : Int) : Env :=
 [(1, .v (.int .i64 d)), (2, .ptr h.length 0), (5, .v (.bool (decide (2 <= k) && decide (k <= 5)))), (6, .v (.bool (decide (6 <= k) && decide (k <= 8)))), (7, .v (.bool (k == 14 || k == 15))), (41, .v (.bool (d == 1 && (k == 14 || k == 15 || k == 5))))]
theorem f32a (hlo : lo <= h.length) :
  evL (X32 lo h) loopW (pc b32 0 5) (args0 [.agg [.v (.int .i64 k), .v (.string (bs n)), .v (.int .i64 o), .v (.string (bs v)), .v (.bool f), .list .no l, .v (.int .i64 a), .v (.int .i64 b)], .v (.int .i64 d)], h) =
   some (.normal, EA23 h k d, h ++ [cm23 k o a b n v f l]) := by
 have l1 : lo <= h.length + 1 := by omega
 simp only [go_sem, b32, Tryz.f32, hlo, l1]
theorem f32b {b5 b6 b7 b41 : Bool} {H : Heap} :
  evL (X32 lo h) loopW (pc b32 5 1) ([(1, .v (.int .i64 d)), (2, .ptr h.length 0), (5, .v (.bool b5)), (6, .v (.bool b6)), (7, .v (.bool b7)), (41, .v (.bool b41))], H) =
   if b41 = true then some (.ret, [(4, .v (.bool false))], H) else some (.normal, [(1, .v (.int .i64 d)), (2, .ptr h.length 0), (5, .v (.bool b5)), (6, .v (.bool b6)), (7, .v (.bool b7)), (41, .v (.bool b41))], H) := by
 cases b41
 all_goals simp only [go_sem, b32, Tryz.f32, Bool.false_eq_true, reduceIte]
theorem f32c (hy : By n) (hn : n.length <= 1000000000) (hlo : lo <= h.length) {b5 b6 b7 b41 m : Bool} (hx : b5 = true -> b6 = false) (hd : 1 <= d /\ d <= 100)
  (c15 : ∀ lo h, lo <= h.length -> E lo 20 [.list .no l, .v (.int .i64 (d - 1))] h = some (.v (.bool m), h)) :
  evL (X32 lo h) loopW (pc b32 6 2) ([(1, .v (.int .i64 d)), (2, .ptr h.length 0), (5, .v (.bool b5)), (6, .v (.bool b6)), (7, .v (.bool b7)), (41, .v (.bool b41))], h ++ [cm23 k o a b n v f l]) =
   if (decide (k < 1) || decide (15 < k) || b5 && (n.isEmpty || !sound n) || !b5 && !n.isEmpty || !b6 && !l.isEmpty || b6 && !m) = true then some (.ret, [(4, .v (.bool false))], h ++ [cm23 k o a b n v f l])
   else some (.normal, [(2, .ptr h.length 0), (7, .v (.bool b7)), (93, .v (.bool false))], h ++ [cm23 k o a b n v f l]) := by
 have l1 : lo <= h.length + 1 := by omega
 have c35 := fun (lo : Nat) (h : Heap) => f44 (lo := lo) (h := h) hy hn
 have qn : ((bs n).toList == (⟨#[]⟩ : ByteArray).toList) = n.isEmpty := (bs_nil_eq' n).trans (by cases n <;> simp)
 have gt : decide ((0 : Int) < (l.length : Int)) = !l.isEmpty := by cases l <;> simp
 have hw : IntKind.i64.wrap (d - 1) = d - 1 := wrap_i64 (by omega) (by omega)
 cases h1 : decide (k < 1) with
 | true =>
  simp only [Bool.true_or]
  rw [if_pos (by simp)]
  simp only [go_sem, b32, Tryz.f32, hlo, l1, h1]
 | false =>
 rw [Bool.false_or]
 cases h2 : decide (15 < k) with
 | true =>
  simp only [Bool.true_or]
  rw [if_pos (by simp)]
  simp only [go_sem, b32, Tryz.f32, hlo, l1, h1, h2]
 | false =>
 rw [Bool.false_or]
 cases b5 with
 | true =>
  obtain rfl := hx rfl
  simp only [Bool.true_and, Bool.not_true, Bool.not_false, Bool.false_and, Bool.or_false]
  cases h3 : n.isEmpty with
  | true =>
   rw [h3] at qn
   simp only [Bool.true_or]
   rw [if_pos (by simp)]
   simp only [go_sem, b32, Tryz.f32, hlo, l1, h1, h2, qn]
  | false =>
  rw [h3] at qn
  cases h4 : sound n with
  | false =>
   simp only [Bool.not_false, Bool.or_true, Bool.true_or]
   rw [if_pos (by simp)]
   simp only [go_sem, b32, Tryz.f32, hlo, l1, h1, h2, qn, c35, h4]
  | true =>
  simp only [Bool.not_true, Bool.false_or]
  cases h5 : l.isEmpty with
  | true =>
   rw [h5] at gt
   rw [if_neg (by simp)]
   simp only [go_sem, b32, Tryz.f32, hlo, l1, h1, h2, qn, c35, h4, gt, Bool.not_true]
  | false =>
   rw [h5] at gt
   rw [if_pos (by simp)]
   simp only [go_sem, b32, Tryz.f32, hlo, l1, h1, h2, qn, c35, h4, gt, Bool.not_false]
 | false =>
  simp only [Bool.false_and, Bool.not_false, Bool.true_and, Bool.false_or]
  cases h3 : n.isEmpty with
  | false =>
   rw [h3] at qn
   simp only [Bool.not_false, Bool.true_or]
   rw [if_pos (by simp)]
   simp only [go_sem, b32, Tryz.f32, hlo, l1, h1, h2, qn]
  | true =>
  rw [h3] at qn
  simp only [Bool.not_true, Bool.false_or]
  cases b6 with
  | false =>
   cases h5 : l.isEmpty with
   | true =>
    rw [h5] at gt
    rw [if_neg (by simp)]
    simp only [go_sem, b32, Tryz.f32, hlo, l1, h1, h2, qn, gt, Bool.not_true]
   | false =>
    rw [h5] at gt
    rw [if_pos (by simp)]
    simp only [go_sem, b32, Tryz.f32, hlo, l1, h1, h2, qn, gt, Bool.not_false]
  | true =>
   cases m with
   | true =>
    rw [if_neg (by simp)]
    simp only [go_sem, b32, Tryz.f32, hlo, l1, h1, h2, qn, gt, Bool.not_true, hw, c15]
   | false =>
    rw [if_pos (by simp)]
    simp only [go_sem, b32, Tryz.f32, hlo, l1, h1, h2, qn, gt, Bool.not_false, hw, c15]
theorem f32n (hlo : lo <= h.length) {b7 x : Bool} (h5 : (k == 5) = false) :
  evL (X32 lo h) loopW (pc b32 8 2) ([(2, .ptr h.length 0), (7, .v (.bool b7)), (93, .v (.bool x))], h ++ [cm23 k o a b n v f l]) =
   if (!(o != 0 || !v.isEmpty || f)) = true then some (.normal, [(2, .ptr h.length 0), (7, .v (.bool b7)), (136, .v (.bool false))], h ++ [cm23 k o a b n v f l])
   else some (.ret, [(4, .v (.bool false))], h ++ [cm23 k o a b n v f l]) := by
 have l1 : lo <= h.length + 1 := by omega
 have qv : ((bs v).toList == (⟨#[]⟩ : ByteArray).toList) = v.isEmpty := (bs_nil_eq' v).trans (by cases v <;> simp)
 cases hz : (o != 0 || !v.isEmpty || f) with
 | true =>
  rw [if_neg (by simp)]
  simp only [go_sem, b32, Tryz.f32, hlo, l1, h5, qv, hz]
 | false =>
  rw [if_pos (by simp)]
  simp only [go_sem, b32, Tryz.f32, hlo, l1, h5, qv, hz]
theorem f32d (hy : By v) (hv : v.length <= 1000000000) (hlo : lo <= h.length) {b7 x : Bool} (h5 : (k == 5) = true) :
  evL (X32 lo h) loopW (pc b32 8 2) ([(2, .ptr h.length 0), (7, .v (.bool b7)), (93, .v (.bool x))], h ++ [cm23 k o a b n v f l]) =
   if (!(decide (o < 0) || decide (6 < o) || !sound v || o == 0 && (!v.isEmpty || f))) = true then some (.normal, [(2, .ptr h.length 0), (7, .v (.bool b7)), (124, .v (.bool false))], h ++ [cm23 k o a b n v f l])
   else some (.ret, [(4, .v (.bool false))], h ++ [cm23 k o a b n v f l]) := by
 have l1 : lo <= h.length + 1 := by omega
 have c35 := fun (lo : Nat) (h : Heap) => f44 (lo := lo) (h := h) hy hv
 have qv : ((bs v).toList == (⟨#[]⟩ : ByteArray).toList) = v.isEmpty := (bs_nil_eq' v).trans (by cases v <;> simp)
 cases h1 : decide (o < 0) with
 | true =>
  simp only [Bool.true_or, Bool.not_true]
  rw [if_neg (by simp)]
  simp only [go_sem, b32, Tryz.f32, hlo, l1, h5, h1]
 | false =>
 rw [Bool.false_or]
 cases h2 : decide (6 < o) with
 | true =>
  simp only [Bool.true_or, Bool.not_true]
  rw [if_neg (by simp)]
  simp only [go_sem, b32, Tryz.f32, hlo, l1, h5, h1, h2]
 | false =>
 rw [Bool.false_or]
 cases h3 : sound v with
 | false =>
  simp only [Bool.not_false, Bool.true_or, Bool.not_true]
  rw [if_neg (by simp)]
  simp only [go_sem, b32, Tryz.f32, hlo, l1, h5, h1, h2, c35, h3]
 | true =>
 rw [Bool.not_true, Bool.false_or]
 cases h4 : o == 0 with
 | false =>
  rw [if_pos (by simp)]
  simp only [go_sem, b32, Tryz.f32, hlo, l1, h5, h1, h2, c35, h3, h4, qv]
 | true =>
 rw [Bool.true_and]
 cases h6 : v.isEmpty with
 | false =>
  rw [h6] at qv
  rw [if_neg (by simp)]
  simp only [go_sem, b32, Tryz.f32, hlo, l1, h5, h1, h2, c35, h3, h4, qv, Bool.not_false]
 | true =>
  rw [h6] at qv
  cases f
  ·rw [if_pos (by simp)]
   simp only [go_sem, b32, Tryz.f32, hlo, l1, h5, h1, h2, c35, h3, h4, qv, Bool.not_true]
  ·rw [if_neg (by simp)]
   simp only [go_sem, b32, Tryz.f32, hlo, l1, h5, h1, h2, c35, h3, h4, qv, Bool.not_true]
theorem f32e (hlo : lo <= h.length) {b7 y : Bool} {w : Nat} (hw : w = 124 \/ w = 136) :
  evL (X32 lo h) loopW (pc b32 10 4) ([(2, .ptr h.length 0), (7, .v (.bool b7)), (w, .v (.bool y))], h ++ [cm23 k o a b n v f l]) =
   some (.ret, [(4, .v (.bool (if !b7 then a == 0 && b == 0 else Sel.isStep a && Sel.isStep b)))], h ++ [cm23 k o a b n v f l]) := by
 have l1 : lo <= h.length + 1 := by omega
 rcases hw with rfl | rfl
 all_goals
  cases b7 with
  | false => simp only [go_sem, b32, Tryz.f32, hlo, l1]
  | true =>
   rw [if_neg (by simp), Sel.isStep, Sel.isStep, <- Bool.and_assoc]
   simp only [go_sem, b32, Tryz.f32, hlo, l1]
end Go.Lift.Z9
end

section
open Go.Proofs
namespace Go.Lift.Z9
variable [MX]
variable {lo : Nat} {h : Heap}
open Utf Spell Sel
theorem f32 {k o a b : Int} {n v : List Int} {f : Bool} {l : List Sel.Cx} {d : Nat}
  (hw : By n /\ n.length <= 1000000000 /\ By v /\ v.length <= 1000000000 /\ l.length <= 1000000000) (hd : 1 <= d /\ d <= 65)
  (c15 : ∀ lo h, lo <= h.length -> E lo 20 [.list .no (cxsC l), .v (.int .i64 ((d - 1 : Nat) : Int))] h = some (.v (.bool (Sel.mayR sound (d - 1) l)), h)) (hlo : lo <= h.length) :
  E lo 32 [.agg (smV (.mk k n o v f l a b)), .v (.int .i64 d)] h = some (.v (.bool (fitsR sound d (.mk k n o v f l a b))), h) := by
 obtain ⟨yn, ln, yv, lv, ll⟩ := hw
 have ce : (cxsC l).isEmpty = l.isEmpty := by cases l with | nil => rw [cxsC]; rfl | cons x r => rw [cxsC]; rfl
 have sv : smV (.mk k n o v f l a b) = [.v (.int .i64 k), .v (.string (bs n)), .v (.int .i64 o), .v (.string (bs v)), .v (.bool f), .list .no (cxsC l), .v (.int .i64 a), .v (.int .i64 b)] := by rw [smV]; rfl
 have hd1 : ((d - 1 : Nat) : Int) = (d : Int) - 1 := by omega
 rw [hd1] at c15
 have dk : ((d : Int) == 1) = (d == 1) := by rw [Bool.eq_iff_iff]; simp; omega
 have hx : (decide (2 <= k) && decide (k <= 5)) = true -> (decide (6 <= k) && decide (k <= 8)) = false := by
  intro h
  simp only [Bool.and_eq_true, decide_eq_true_eq] at h
  rw [Bool.and_eq_false_iff]
  left
  simp only [decide_eq_false_iff_not]
  omega
 have gC := f32c (lo := lo) (h := h) (k := k) (d := d) (o := o) (a := a) (b := b) (v := v) (f := f) (l := cxsC l) yn ln hlo (b7 := k == 14 || k == 15) (b41 := (d : Int) == 1 && (k == 14 || k == 15 || k == 5)) hx (by omega) c15
 rw [ce] at gC
 have gM : Sel.mayR sound (d - 1) l = (!l.isEmpty && !(d - 1 == 0) && Sel.cxsR sound (d - 1) l) := by rw [Sel.mayR]
 rw [gM] at gC
 rw [sv, fitsR, e32 (by simp) (by rfl)]
 show fin Tryz.prog [.tmp 4] h.length (evCode (X32 lo h) loopW b32 _) = _
 rw [pc_in, pc_go _ _ _ _ 0 5, f32a hlo, pc_go _ _ _ _ _ 1, f32b]
 rw [dk] at gC ⊢
 cases h1 : (d == 1 && (k == 14 || k == 15 || k == 5)) with
 | true =>
  rw [if_pos rfl, pc_r]
  simp only [go_sem, hlo, Bool.not_true, Bool.false_and]
 | false =>
 rw [h1] at gC
 rw [if_neg (by simp), pc_go _ _ _ _ _ 2, gC, Bool.not_false, Bool.true_and]
 cases h2 : (decide (k < 1) || decide (15 < k) || (decide (2 <= k) && decide (k <= 5)) && (n.isEmpty || !sound n) || !(decide (2 <= k) && decide (k <= 5)) && !n.isEmpty || !(decide (6 <= k) && decide (k <= 8)) && !l.isEmpty ||
   (decide (6 <= k) && decide (k <= 8)) && !(!l.isEmpty && !(d - 1 == 0) && Sel.cxsR sound (d - 1) l)) with
 | true =>
  rw [if_pos rfl, pc_r]
  simp only [go_sem, hlo, Bool.not_true, Bool.false_and]
 | false =>
 rw [if_neg (by simp), pc_go _ _ _ _ _ 2, Bool.not_false, Bool.true_and]
 cases h5 : k == 5 with
 | true =>
  rw [f32d yv lv hlo h5]
  have i1 : ∀ x y : Bool, (if true = true then x else y) = x := fun _ _ => rfl
  rw [i1]
  cases h3 : !(decide (o < 0) || decide (6 < o) || !sound v || o == 0 && (!v.isEmpty || f)) with
  | false =>
   rw [if_neg (by simp), pc_r, Bool.false_and]
   simp only [go_sem, hlo]
  | true =>
   rw [if_pos rfl, pc_go _ _ _ _ _ 4, f32e hlo (.inl rfl), pc_r, Bool.true_and]
   simp only [go_sem, hlo]
   all_goals rfl
 | false =>
  rw [f32n hlo h5]
  have i1 : ∀ x y : Bool, (if false = true then x else y) = y := fun _ _ => rfl
  rw [i1]
  cases h3 : !(o != 0 || !v.isEmpty || f) with
  | false =>
   rw [if_neg (by simp), pc_r, Bool.false_and]
   simp only [go_sem, hlo]
  | true =>
   rw [if_pos rfl, pc_go _ _ _ _ _ 4, f32e hlo (.inr rfl), pc_r, Bool.true_and]
   simp only [go_sem, hlo]
   all_goals rfl
end Go.Lift.Z9
end

section
open Go.Proofs
namespace Go.Lift.Z9
variable [MX]
variable {lo : Nat} {h : Heap}
open Utf Spell Sel
def C23 (d : Nat) (s : Sm) : Prop := ∀ lo h, lo <= h.length -> E lo 32 [.agg (smV s), .v (.int .i64 d)] h = some (.v (.bool (fitsR sound d s)), h)
abbrev NS15 (d : Nat) (X : List (List V)) (lx i : Int) (Y : List (List V)) (ly j : Int) (ss : List Sm) (k : Int) : Env :=
 [(1, .v (.int .i64 d)), (18, .list .no X), (19, .v (.int .i64 lx)), (20, .v (.int .i64 i)), (29, .list .no Y), (30, .v (.int .i64 ly)), (31, .v (.int .i64 j)), (64, .list .no (smsC ss)), (65, .v (.int .i64 ss.length)), (66, .v (.int .i64 k))]
noncomputable abbrev Y15 (lo : Nat) (h : Heap) : Go.Lift.Cx := ⟨Tryz.prog, E, lo, h.length, h20⟩
theorem rs15 {d : Nat} {X Y : List (List V)} {lx i ly j : Int} {ss : List Sm} {s : Sm} {k : Nat} (hlo : lo <= h.length) (hl : ss.length <= 1000000000) (hg : ss[k]? = some s) (hc : C23 d s) :
  evCode (Y15 lo h) loopW l20x2 (NS15 d X lx i Y ly j ss k, h) =
   if (!(!(k == 0) && (s.k == 1 || s.k == 2) || !fitsR sound d s)) = true then some (.normal, NS15 d X lx i Y ly j ss (k + 1 : Nat), h) else some (.ret, [(4, .v (.bool false))], h) := by
 have hlt : k < ss.length := (List.getElem?_eq_some_iff.1 hg).1
 obtain ⟨q, n, o, v, f, l, a, b⟩ := s
 have hgr : (smsC ss)[k]? = some (smV (.mk q n o v f l a b)) := by simp [smsC_map, hg]
 have hc1 := fun lo h hlo => hc lo h hlo
 rw [smV_eq] at hgr hc1
 have l1 : lo <= h.length + 1 := by omega
 have ih1 := hc1 (h.length + 1) (h ++ [.cells [.v (.int .i64 q), .v (.string (bs n)), .v (.int .i64 o), .v (.string (bs v)), .v (.bool f), .list .no (cxsC l), .v (.int .i64 a), .v (.int .i64 b)]]) (by simp)
 have q1 : decide ((k : Int) < (ss.length : Int)) = true := by simp; omega
 have hw : IntKind.i64.wrap ((k : Int) + 1) = ((k + 1 : Nat) : Int) := wrap_succ (by omega)
 have c1 : decide ((k : Int) > 0) = !(k == 0) := by rw [Bool.eq_iff_iff]; simp; omega
 have c1' : decide (0 < (k : Int)) = !(k == 0) := by rw [Bool.eq_iff_iff]; simp; omega
 have sk : (Sm.mk q n o v f l a b).k = q := rfl
 rw [sk]
 cases h0 : k == 0 with
 | true =>
  rw [h0] at c1 c1'
  rw [Bool.not_true, Bool.false_and, Bool.false_or, Bool.not_not]
  cases h1 : fitsR sound d (.mk q n o v f l a b) with
  | true =>
   rw [h1] at hc1 ih1
   rw [if_pos rfl]
   simp only [go_sem, l20x2, b20, Tryz.f20, hlo, l1, q1, hgr, hw, c1, c1', hc1, Bool.not_true]
   all_goals rfl
  | false =>
   rw [h1] at hc1 ih1
   rw [if_neg (by simp)]
   simp only [go_sem, l20x2, b20, Tryz.f20, hlo, l1, q1, hgr, hw, c1, c1', hc1, Bool.not_true]
   all_goals rfl
 | false =>
  rw [h0] at c1 c1'
  rw [Bool.not_false, Bool.true_and]
  cases h2 : q == 1 with
  | true =>
   rw [Bool.true_or, Bool.true_or, Bool.not_true, if_neg (by simp)]
   simp only [go_sem, l20x2, b20, Tryz.f20, hlo, l1, q1, hgr, hw, c1, c1', h2, hc1, Bool.not_false]
   all_goals rfl
  | false =>
   rw [Bool.false_or]
   cases h3 : q == 2 with
   | true =>
    rw [Bool.true_or, Bool.not_true, if_neg (by simp)]
    simp only [go_sem, l20x2, b20, Tryz.f20, hlo, l1, q1, hgr, hw, c1, c1', h2, h3, hc1, Bool.not_false]
    all_goals rfl
   | false =>
    rw [Bool.false_or, Bool.not_not]
    cases h1 : fitsR sound d (.mk q n o v f l a b) with
    | true =>
     rw [h1] at hc1 ih1
     rw [if_pos rfl]
     simp only [go_sem, l20x2, b20, Tryz.f20, hlo, l1, q1, hgr, hw, c1, c1', h2, h3, hc1, Bool.not_true, Bool.not_false]
     all_goals rfl
    | false =>
     rw [h1] at hc1 ih1
     rw [if_neg (by simp)]
     simp only [go_sem, l20x2, b20, Tryz.f20, hlo, l1, q1, hgr, hw, c1, c1', h2, h3, hc1, Bool.not_true, Bool.not_false]
     all_goals rfl
theorem es15 {d : Nat} {X Y : List (List V)} {lx i ly j : Int} {ss : List Sm} :
  evCode (Y15 lo h) loopW l20x2 (NS15 d X lx i Y ly j ss ss.length, h) = some (.exit 4, NS15 d X lx i Y ly j ss ss.length ++ [(67, .v (.bool false))], h) := by
 have q : decide ((ss.length : Int) < (ss.length : Int)) = false := by simp
 simp only [go_sem, l20x2, b20, Tryz.f20, q]
 all_goals rfl
theorem smsR_drop {d : Nat} {ss : List Sm} {k : Nat} (hk : k < ss.length) : smsR sound d (k == 0) (ss.drop k) = ((!(!(k == 0) && (ss[k].k == 1 || ss[k].k == 2) || !fitsR sound d ss[k])) && smsR sound d (k + 1 == 0) (ss.drop (k + 1))) := by
 rw [List.drop_eq_getElem_cons hk, smsR]
 rfl
theorem ls15 {d : Nat} {X Y : List (List V)} {lx i ly j : Int} {ss : List Sm} (hlo : lo <= h.length) (hl : ss.length <= 1000000000) (hc : ∀ s ∈ ss, C23 d s) : ∀ (m k : Nat), k + m = ss.length ->
  loopW (evCode (Y15 lo h) loopW l20x2) (NS15 d X lx i Y ly j ss k, h) =
   if smsR sound d (k == 0) (ss.drop k) = true then some (.exit 4, NS15 d X lx i Y ly j ss ss.length ++ [(67, .v (.bool false))], h) else some (.ret, [(4, .v (.bool false))], h) := by
 intro m
 induction m with
 | zero =>
  intro k hk
  obtain rfl : k = ss.length := by omega
  rw [List.drop_length, smsR, if_pos rfl, loop_eq, es15, loop_e]
 | succ m ih =>
  intro k hk
  have hlt : k < ss.length := by omega
  have hr := rs15 (lo := lo) (h := h) (X := X) (Y := Y) (lx := lx) (i := i) (ly := ly) (j := j) hlo hl (List.getElem?_eq_getElem hlt) (hc _ (List.getElem_mem hlt))
  rw [smsR_drop hlt, loop_eq, hr]
  cases hm : (!(!(k == 0) && (ss[k].k == 1 || ss[k].k == 2) || !fitsR sound d ss[k])) with
  | true => rw [if_pos rfl, loop_n, Bool.true_and, ih (k + 1) (by omega)]
  | false => rw [if_neg (by simp), loop_r, Bool.false_and, if_neg (by simp)]
def Cp15 (d : Nat) : Cp -> Prop
 | .mk c ss => ss.length <= 1000000000 /\ ∀ s ∈ ss, C23 d s
abbrev NP15 (d : Nat) (X : List (List V)) (lx i : Int) (ps : List Cp) (j : Int) : Env :=
 [(1, .v (.int .i64 d)), (18, .list .no X), (19, .v (.int .i64 lx)), (20, .v (.int .i64 i)), (29, .list .no (cpsC ps)), (30, .v (.int .i64 ps.length)), (31, .v (.int .i64 j))]
theorem rp15 {d : Nat} {X : List (List V)} {lx i : Int} {ps : List Cp} {c : Int} {ss : List Sm} {j : Nat} (hlo : lo <= h.length) (hl : ps.length <= 1000000000) (hg : ps[j]? = some (.mk c ss)) (hc : Cp15 d (.mk c ss)) :
  evCode (Y15 lo h) loopW l20x1 (NP15 d X lx i ps j, h) =
   if ((!(ss.isEmpty || (j == 0) && c != 0 || !(j == 0) && (decide (c < 1) || decide (4 < c)))) && smsR sound d true ss) = true then some (.normal, NP15 d X lx i ps (j + 1 : Nat), h) else some (.ret, [(4, .v (.bool false))], h) := by
 have hlt : j < ps.length := (List.getElem?_eq_some_iff.1 hg).1
 have hgr : (cpsC ps)[j]? = some (cpV (.mk c ss)) := by simp [cpsC_map, hg]
 rw [cpV_eq] at hgr
 have l1 : lo <= h.length + 1 := by omega
 have q1 : decide ((j : Int) < (ps.length : Int)) = true := by simp; omega
 have hw : IntKind.i64.wrap ((j : Int) + 1) = ((j + 1 : Nat) : Int) := wrap_succ (by omega)
 have ez : ((ss.length : Int) == 0) = ss.isEmpty := by cases ss with | nil => rfl | cons y r => simp; omega
 have dz : decide ((ss.length : Int) = 0) = ss.isEmpty := by rw [<- ez]; rw [Bool.eq_iff_iff]; simp
 have c0 : ((j : Int) == 0) = (j == 0) := by rw [Bool.eq_iff_iff]; simp
 have n0 : ((0 : Nat) : Int) = 0 := rfl
 have hL := ls15 (lo := lo) (h := h) (X := X) (lx := lx) (i := i) (Y := cpsC ps) (ly := ps.length) (j := j) (d := d) hlo hc.1 hc.2 ss.length 0 (by omega)
 have z0 : ((0 : Nat) == 0) = true := rfl
 rw [List.drop_zero, z0] at hL
 have jp : decide ((j : Int) > 0) = !(j == 0) := by rw [Bool.eq_iff_iff]; simp; omega
 have jp' : decide (0 < (j : Int)) = !(j == 0) := jp
 generalize (j == 0) = J at *
 cases h1 : ss.isEmpty with
 | true =>
  rw [h1] at ez
  rw [if_neg (by simp)]
  simp only [go_sem, l20x1, b20, Tryz.f20, hlo, l1, q1, hgr, hw, c0, jp, jp', smsC_len, ez]
  all_goals rfl
 | false =>
 rw [h1] at ez
 rw [Bool.false_or]
 cases J with
 | true =>
  have nc : (c != 0) = !(c == 0) := rfl
  cases h2 : c == 0 with
  | false =>
   rw [h2] at nc
   rw [if_neg (by simp [nc])]
   simp only [go_sem, l20x1, b20, Tryz.f20, hlo, l1, q1, hgr, hw, c0, jp, jp', smsC_len, ez, h2, nc, Bool.not_false, Bool.not_true]
   all_goals rfl
  | true =>
   rw [h2] at nc
   cases h5 : smsR sound d true ss with
   | true =>
    rw [h5, if_pos rfl] at hL
    simp only [l20x2, b20, Tryz.f20, loopAt, loops, bodyOf, go_sem, NS15, n0, List.cons_append, List.nil_append] at hL
    rw [if_pos (by simp [nc])]
    simp only [go_sem, l20x1, b20, Tryz.f20, hlo, l1, q1, hgr, hw, c0, jp, jp', smsC_len, ez, h2, nc, hL, Bool.not_false, Bool.not_true]
    all_goals rfl
   | false =>
    rw [h5, if_neg (by simp)] at hL
    simp only [l20x2, b20, Tryz.f20, loopAt, loops, bodyOf, go_sem, NS15, n0, List.cons_append, List.nil_append] at hL
    rw [if_neg (by simp)]
    simp only [go_sem, l20x1, b20, Tryz.f20, hlo, l1, q1, hgr, hw, c0, jp, jp', smsC_len, ez, h2, nc, hL, Bool.not_false, Bool.not_true]
    all_goals rfl
 | false =>
  cases h2 : decide (c < 1) with
  | true =>
   rw [if_neg (by simp)]
   simp only [go_sem, l20x1, b20, Tryz.f20, hlo, l1, q1, hgr, hw, c0, jp, jp', smsC_len, ez, h2, Bool.not_false, Bool.not_true]
   all_goals rfl
  | false =>
   cases h3 : decide (4 < c) with
   | true =>
    rw [if_neg (by simp)]
    simp only [go_sem, l20x1, b20, Tryz.f20, hlo, l1, q1, hgr, hw, c0, jp, jp', smsC_len, ez, h2, h3, Bool.not_false, Bool.not_true]
    all_goals rfl
   | false =>
    cases h5 : smsR sound d true ss with
    | true =>
     rw [h5, if_pos rfl] at hL
     simp only [l20x2, b20, Tryz.f20, loopAt, loops, bodyOf, go_sem, NS15, n0, List.cons_append, List.nil_append] at hL
     rw [if_pos (by simp)]
     simp only [go_sem, l20x1, b20, Tryz.f20, hlo, l1, q1, hgr, hw, c0, jp, jp', smsC_len, ez, h2, h3, hL, Bool.not_false, Bool.not_true]
     all_goals rfl
    | false =>
     rw [h5, if_neg (by simp)] at hL
     simp only [l20x2, b20, Tryz.f20, loopAt, loops, bodyOf, go_sem, NS15, n0, List.cons_append, List.nil_append] at hL
     rw [if_neg (by simp)]
     simp only [go_sem, l20x1, b20, Tryz.f20, hlo, l1, q1, hgr, hw, c0, jp, jp', smsC_len, ez, h2, h3, hL, Bool.not_false, Bool.not_true]
     all_goals rfl
theorem ep15 {d : Nat} {X : List (List V)} {lx i : Int} {ps : List Cp} :
  evCode (Y15 lo h) loopW l20x1 (NP15 d X lx i ps ps.length, h) = some (.exit 2, NP15 d X lx i ps ps.length ++ [(32, .v (.bool false))], h) := by
 have q : decide ((ps.length : Int) < (ps.length : Int)) = false := by simp
 simp only [go_sem, l20x1, b20, Tryz.f20, q]
 all_goals rfl
theorem lp15 {d : Nat} {X : List (List V)} {lx i : Int} {ps : List Cp} (hlo : lo <= h.length) (hl : ps.length <= 1000000000) (hc : ∀ p ∈ ps, Cp15 d p) : ∀ (m j : Nat), j + m = ps.length ->
  loopW (evCode (Y15 lo h) loopW l20x1) (NP15 d X lx i ps j, h) =
   if cpsR sound d (j == 0) (ps.drop j) = true then some (.exit 2, NP15 d X lx i ps ps.length ++ [(32, .v (.bool false))], h) else some (.ret, [(4, .v (.bool false))], h) := by
 intro m
 induction m with
 | zero =>
  intro j hj
  obtain rfl : j = ps.length := by omega
  rw [List.drop_length, cpsR, if_pos rfl, loop_eq, ep15, loop_e]
 | succ m ih =>
  intro j hj
  have hlt : j < ps.length := by omega
  have hm := hc _ (List.getElem_mem hlt)
  have hg := List.getElem?_eq_getElem hlt
  rw [List.drop_eq_getElem_cons hlt]
  generalize ps[j] = p at *
  obtain ⟨c, ss⟩ := p
  have hr := rp15 (lo := lo) (h := h) (X := X) (lx := lx) (i := i) hlo hl hg hm
  have z1 : (j + 1 == 0) = false := rfl
  rw [cpsR, loop_eq, hr]
  cases hw : ((!(ss.isEmpty || (j == 0) && c != 0 || !(j == 0) && (decide (c < 1) || decide (4 < c)))) && smsR sound d true ss) with
  | true => rw [if_pos rfl, loop_n, Bool.true_and, ih (j + 1) (by omega), z1]
  | false => rw [if_neg (by simp), loop_r, Bool.false_and, if_neg (by simp)]
def Cx15 (d : Nat) : Sel.Cx -> Prop
 | .mk ps => ps.length <= 1000000000 /\ ∀ p ∈ ps, Cp15 d p
abbrev NX15 (d : Nat) (l : List Sel.Cx) (i : Int) : Env := [(1, .v (.int .i64 d)), (18, .list .no (cxsC l)), (19, .v (.int .i64 l.length)), (20, .v (.int .i64 i))]
theorem rx15 {d : Nat} {l : List Sel.Cx} {ps : List Cp} {i : Nat} (hlo : lo <= h.length) (hl : l.length <= 1000000000) (hg : l[i]? = some (.mk ps)) (hc : Cx15 d (.mk ps)) :
  evCode (Y15 lo h) loopW l20x0 (NX15 d l i, h) =
   if (!ps.isEmpty && cpsR sound d true ps) = true then some (.normal, NX15 d l (i + 1 : Nat), h) else some (.ret, [(4, .v (.bool false))], h) := by
 have hlt : i < l.length := (List.getElem?_eq_some_iff.1 hg).1
 have hgr : (cxsC l)[i]? = some (cxV (.mk ps)) := by simp [cxsC_map, hg]
 rw [cxV_eq] at hgr
 have l1 : lo <= h.length + 1 := by omega
 have q1 : decide ((i : Int) < (l.length : Int)) = true := by simp; omega
 have hw : IntKind.i64.wrap ((i : Int) + 1) = ((i + 1 : Nat) : Int) := wrap_succ (by omega)
 have ez : ((ps.length : Int) == 0) = ps.isEmpty := by cases ps with | nil => rfl | cons y r => simp; omega
 have n0 : ((0 : Nat) : Int) = 0 := rfl
 have hL := lp15 (lo := lo) (h := h) (X := cxsC l) (lx := l.length) (i := i) (d := d) hlo hc.1 hc.2 ps.length 0 (by omega)
 have z0 : ((0 : Nat) == 0) = true := rfl
 rw [List.drop_zero, z0] at hL
 cases h1 : ps.isEmpty with
 | true =>
  rw [h1] at ez
  rw [Bool.not_true, Bool.false_and, if_neg (by simp)]
  simp only [go_sem, l20x0, b20, Tryz.f20, hlo, l1, q1, hgr, hw, ez, cpsC_len]
  all_goals rfl
 | false =>
  rw [h1] at ez
  rw [Bool.not_false, Bool.true_and]
  cases h5 : cpsR sound d true ps with
  | true =>
   rw [h5, if_pos rfl] at hL
   simp only [l20x1, b20, Tryz.f20, loopAt, loops, bodyOf, go_sem, NP15, n0, List.cons_append, List.nil_append] at hL
   rw [if_pos rfl]
   simp only [go_sem, l20x0, b20, Tryz.f20, hlo, l1, q1, hgr, hw, ez, hL, cpsC_len]
   all_goals rfl
  | false =>
   rw [h5, if_neg (by simp)] at hL
   simp only [l20x1, b20, Tryz.f20, loopAt, loops, bodyOf, go_sem, NP15, n0, List.cons_append, List.nil_append] at hL
   rw [if_neg (by simp)]
   simp only [go_sem, l20x0, b20, Tryz.f20, hlo, l1, q1, hgr, hw, ez, hL, cpsC_len]
   all_goals rfl
theorem ex15 {d : Nat} {l : List Sel.Cx} :
  evCode (Y15 lo h) loopW l20x0 (NX15 d l l.length, h) = some (.exit 0, NX15 d l l.length ++ [(21, .v (.bool false))], h) := by
 have q : decide ((l.length : Int) < (l.length : Int)) = false := by simp
 simp only [go_sem, l20x0, b20, Tryz.f20, q]
 all_goals rfl
theorem lx15 {d : Nat} {l : List Sel.Cx} (hlo : lo <= h.length) (hl : l.length <= 1000000000) (hc : ∀ c ∈ l, Cx15 d c) : ∀ (m i : Nat), i + m = l.length ->
  loopW (evCode (Y15 lo h) loopW l20x0) (NX15 d l i, h) =
   if Sel.cxsR sound d (l.drop i) = true then some (.exit 0, NX15 d l l.length ++ [(21, .v (.bool false))], h) else some (.ret, [(4, .v (.bool false))], h) := by
 intro m
 induction m with
 | zero =>
  intro i hi
  obtain rfl : i = l.length := by omega
  rw [List.drop_length, Sel.cxsR, if_pos rfl, loop_eq, ex15, loop_e]
 | succ m ih =>
  intro i hi
  have hlt : i < l.length := by omega
  have hm := hc _ (List.getElem_mem hlt)
  have hg := List.getElem?_eq_getElem hlt
  rw [List.drop_eq_getElem_cons hlt]
  generalize l[i] = p at *
  obtain ⟨ps⟩ := p
  have hr := rx15 (lo := lo) (h := h) hlo hl hg hm
  rw [Sel.cxsR, loop_eq, hr]
  cases hw : (!ps.isEmpty && cpsR sound d true ps) with
  | true => rw [if_pos rfl, loop_n, Bool.true_and, ih (i + 1) (by omega)]
  | false => rw [if_neg (by simp), loop_r, Bool.false_and, if_neg (by simp)]
theorem f15_of {d : Nat} {l : List Sel.Cx} (hlo : lo <= h.length) (hd : d <= 65) (hl : l.length <= 1000000000) (hc : 1 <= d -> ∀ c ∈ l, Cx15 d c) :
  E lo 20 [.list .no (cxsC l), .v (.int .i64 d)] h = some (.v (.bool (Sel.mayR sound d l)), h) := by
 have ez : ((l.length : Int) == 0) = l.isEmpty := by cases l with | nil => rfl | cons y r => simp; omega
 have n0 : ((0 : Nat) : Int) = 0 := rfl
 have e1 : ((d : Int) == 0) = (d == 0) := by rw [Bool.eq_iff_iff]; simp
 rw [e20 (by simp) (by rfl), Sel.mayR]
 cases h1 : l.isEmpty with
 | true =>
  rw [h1] at ez
  simp only [go_sem, b20, Tryz.f20, hlo, ez, cxsC_len, Bool.not_true, Bool.false_and]
  all_goals rfl
 | false =>
 rw [h1] at ez
 rw [Bool.not_false, Bool.true_and]
 cases h2 : d == 0 with
 | true =>
  rw [h2] at e1
  simp only [go_sem, b20, Tryz.f20, hlo, ez, e1, cxsC_len, Bool.not_true, Bool.false_and]
  all_goals rfl
 | false =>
 rw [h2] at e1
 have hL := lx15 (lo := lo) (h := h) (l := l) (d := d) hlo hl (hc (by rw [beq_eq_false_iff_ne] at h2; omega)) l.length 0 (by omega)
 rw [List.drop_zero] at hL
 rw [Bool.not_false, Bool.true_and]
 cases h5 : Sel.cxsR sound d l with
 | true =>
  rw [h5, if_pos rfl] at hL
  simp only [l20x0, b20, Tryz.f20, loopAt, loops, bodyOf, go_sem, NX15, n0, List.cons_append, List.nil_append] at hL
  simp only [go_sem, b20, Tryz.f20, hlo, ez, e1, hL, cxsC_len, Bool.not_true]
  all_goals rfl
 | false =>
  rw [h5, if_neg (by simp)] at hL
  simp only [l20x0, b20, Tryz.f20, loopAt, loops, bodyOf, go_sem, NX15, n0, List.cons_append, List.nil_append] at hL
  simp only [go_sem, b20, Tryz.f20, hlo, ez, e1, hL, cxsC_len, Bool.not_true]
  all_goals rfl
mutual
theorem smR_ok : ∀ (s : Sm), okSm s -> ∀ d : Nat, 1 <= d -> d <= 65 -> C23 d s
 | .mk k n o v f l a b => by
  have ih := cxsR_ok l
  intro hs d h1 hd lo h hlo
  rw [okSm] at hs
  exact f32 hs.1 ⟨h1, hd⟩ (fun lo h hlo => f15_of hlo (by omega) hs.1.2.2.2.2 fun h65 c hc => ih hs.2 (d - 1) h65 (by omega) c hc) hlo
theorem smsR_ok : ∀ (l : List Sm), okSms l -> ∀ d : Nat, 1 <= d -> d <= 65 -> ∀ s ∈ l, C23 d s
 | [] => fun _ _ _ _ _ h => nomatch h
 | x :: r => by
  have i1 := smR_ok x
  have i2 := smsR_ok r
  intro hs d h1 hd s hm
  rw [okSms] at hs
  rcases List.mem_cons.1 hm with rfl | hm
  ·exact i1 hs.1 d h1 hd
  ·exact i2 hs.2 d h1 hd s hm
theorem cpsR_ok : ∀ (l : List Cp), okCps l -> ∀ d : Nat, 1 <= d -> d <= 65 -> ∀ p ∈ l, Cp15 d p
 | [] => fun _ _ _ _ _ h => nomatch h
 | .mk c ss :: r => by
  have i1 := smsR_ok ss
  have i2 := cpsR_ok r
  intro hs d h1 hd p hm
  rw [okCps] at hs
  rcases List.mem_cons.1 hm with rfl | hm
  ·exact ⟨hs.1.1, i1 hs.1.2 d h1 hd⟩
  ·exact i2 hs.2 d h1 hd p hm
theorem cxsR_ok : ∀ (l : List Sel.Cx), okCxs l -> ∀ d : Nat, 1 <= d -> d <= 65 -> ∀ c ∈ l, Cx15 d c
 | [] => fun _ _ _ _ _ h => nomatch h
 | .mk ps :: r => by
  have i1 := cpsR_ok ps
  have i2 := cxsR_ok r
  intro hs d h1 hd p hm
  rw [okCxs] at hs
  rcases List.mem_cons.1 hm with rfl | hm
  ·exact ⟨hs.1.1, i1 hs.1.2 d h1 hd⟩
  ·exact i2 hs.2 d h1 hd p hm
end
theorem f7 {l : List Sel.Cx} (hlo : lo <= h.length) (hl : l.length <= 1000000000) (hs : okCxs l) :
  E lo 7 [.list .no (cxsC l)] h = some (.v (.bool (mayP sound 1 l)), h) := by
 have k0 := fun (lo : Nat) (hlo : lo <= h.length) => f15_of (lo := lo) (h := h) (d := 65) (l := l) hlo (by omega) hl (fun h1 c hc => cxsR_ok l hs 65 h1 (by omega) c hc)
 rw [may_same] at k0
 have k1 := k0 lo hlo
 have k2 := k0 h.length (Nat.le_refl _)
 have n1 : ((65 : Nat) : Int) = 65 := rfl
 rw [n1] at k1 k2
 rw [e7 (by simp) (by rfl)]
 simp only [go_sem, b7, Tryz.f7, k1, k2]
 all_goals rfl
end Go.Lift.Z9
end

section
open Go.Proofs
namespace Go.Lift.Z9
variable [MX]
theorem f12z : evFun Tryz.prog hints primz0 80 0 12 [] [] = some (.v (.bool true), []) := by kernel_rfl
theorem f12 {lo : Nat} {h : Heap} : E lo 12 [] h = some (.v (.bool true), h) := by
 unfold E
 rw [ev_prim (p := awkP) rfl]
 rfl
end Go.Lift.Z9
end

section
open Go.Proofs
namespace Go.Lift.Z9
variable [MX]
open Utf Spell Sel
noncomputable abbrev X3 : Go.Lift.Cx := ⟨Tryz.prog, E, 0, 0, h3⟩
abbrev NM3 (l : List Wt) (k : Int) : Env := [(3, .list .no (l.map wV)), (5, .ptr 1 0), (6, .ptr 2 0), (11, .ptr 4 0), (39, .list .no (l.map wV)), (40, .v (.int .i64 l.length)), (41, .v (.int .i64 k))]
abbrev HM3 (P : List (List V)) (a b w out : Wt) : Heap := [LO P, WO a, WO b, WO w, WO out]
theorem r3 {P : List (List V)} {a b u : Wt} {l : List Wt} {w out : Wt} {k : Nat} (hl : l.length <= 1000000000) (hg : l[k]? = some w) :
  evCode X3 loopW l3x0 (NM3 l k, HM3 P a b u out) = some (.normal, NM3 l (k + 1 : Nat), HM3 P a b u (if (k == 0 || lessW out w) = true then w else out)) := by
 have hlt : k < l.length := (List.getElem?_eq_some_iff.1 hg).1
 have c9 := fun lo h hlo => f9 (lo := lo) (h := h) (x := out) (y := w) hlo
 rw [wV_eq, wV_eq] at c9
 have hgr : (l.map wV)[k]? = some [.v (.int .i64 w.a), .v (.int .i64 w.b), .v (.int .i64 w.c)] := by simp [hg, wV]
 have q1 : decide ((k : Int) < (l.length : Int)) = true := by simp; omega
 have hw : IntKind.i64.wrap ((k : Int) + 1) = ((k + 1 : Nat) : Int) := wrap_succ (by omega)
 have c0 : ((k : Int) == 0) = (k == 0) := by rw [Bool.eq_iff_iff]; simp
 cases h0 : k == 0 with
 | true =>
  rw [h0] at c0
  rw [if_pos (by simp)]
  simp only [go_sem, l3x0, b3, Tryz.f3, q1, hgr, hw, c0, List.length_map]
  all_goals rfl
 | false =>
  rw [h0] at c0
  rw [Bool.false_or]
  cases h1 : lessW out w with
  | true =>
   rw [h1] at c9
   rw [if_pos rfl]
   simp only [go_sem, l3x0, b3, Tryz.f3, q1, hgr, hw, c0, c9, List.length_map, List.length_cons, List.length_nil, Nat.zero_le]
   all_goals rfl
  | false =>
   rw [h1] at c9
   rw [if_neg (by simp)]
   simp only [go_sem, l3x0, b3, Tryz.f3, q1, hgr, hw, c0, c9, List.length_map, List.length_cons, List.length_nil, Nat.zero_le]
   all_goals rfl
theorem x3 {H : Heap} {l : List Wt} : evCode X3 loopW l3x0 (NM3 l l.length, H) = some (.exit 0, NM3 l l.length ++ [(42, .v (.bool false))], H) := by
 have q : decide ((l.length : Int) < (l.length : Int)) = false := by simp
 simp only [go_sem, l3x0, b3, Tryz.f3, q]
 all_goals rfl
theorem l3 {P : List (List V)} {a b u : Wt} {l : List Wt} (hl : l.length <= 1000000000) : ∀ (m k : Nat) (out : Wt), k + m = l.length -> 0 < k ->
  loopW (evCode X3 loopW l3x0) (NM3 l k, HM3 P a b u out) = some (.exit 0, NM3 l l.length ++ [(42, .v (.bool false))], HM3 P a b u (mostF out (l.drop k))) := by
 intro m
 induction m with
 | zero =>
  intro k out hk _
  obtain rfl : k = l.length := by omega
  rw [List.drop_length, mostF, loop_eq, x3, loop_e]
 | succ m ih =>
  intro k out hk h0
  have hlt : k < l.length := by omega
  have z : (k == 0) = false := by rw [beq_eq_false_iff_ne]; omega
  rw [List.drop_eq_getElem_cons hlt, mostF, loop_eq, r3 hl (List.getElem?_eq_getElem hlt), loop_n, ih (k + 1) _ (by omega) (by omega), z, Bool.false_or]
theorem l3z {P : List (List V)} {a b u : Wt} {l : List Wt} (hl : l.length <= 1000000000) :
  loopW (evCode X3 loopW l3x0) (NM3 l (0 : Nat), HM3 P a b u wz) = some (.exit 0, NM3 l l.length ++ [(42, .v (.bool false))], HM3 P a b u (mostW l)) := by
 cases l with
 | nil => rw [mostW, loop_eq]; exact congrArg (loopC loopW _) x3
 | cons w r =>
  have z : ((0 : Nat) == 0) = true := rfl
  rw [mostW, loop_eq, r3 (w := w) hl rfl, loop_n, z, Bool.true_or, if_pos rfl, l3 hl r.length 1 w (by simp; omega) (by omega)]
  rfl
theorem f3 {ps : List Cp} {a b : Wt} {l : List Wt} (hp : ps.length <= 1000000000) (hs : okCps ps) (hn : nCps ps <= 100000000000) (hl : l.length <= 1000000000) :
  E 0 3 [.agg [.list .no (cpsC ps)], .agg (wV a), .agg (wV b), .list .no (l.map wV)] [] = some (.v (.bool true), []) := by
 have c6 := fun lo h hlo => f6 (lo := lo) (h := h) hlo hp hs
 have c7 := fun lo h hlo => f7 (lo := lo) (h := h) (l := [.mk ps]) hlo (by simp) (by rw [okCxs, okCxs]; exact ⟨⟨hp, hs⟩, trivial⟩)
 have hcx : cxsC [.mk ps] = [[.list .no (cpsC ps)]] := by rw [cxsC, cxsC, cxV_eq]
 have c8 := fun lo h hlo => f8 (lo := lo) (h := h) hp hs hn hlo
 have c9 := fun lo h hlo => f9 (lo := lo) (h := h) (x := a) (y := b) hlo
 have c10 := fun lo h hlo => f10 (lo := lo) (h := h) (x := a) (y := b) hlo
 have c11 := fun lo h hlo => f11 (lo := lo) (h := h) (l := l) hlo hl
 rw [hcx] at c7
 rw [cxV_eq] at c6 c8
 unfold weighW weighE at c6
 generalize wCx (.mk ps) = w at *
 have hL := fun u => l3z (P := cpsC ps) (a := a) (b := b) (u := u) hl
 have n0 : ((0 : Nat) : Int) = 0 := rfl
 generalize mostW l = mw at *
 rw [wV_eq, wV_eq] at c9 c10
 rw [wV_eq] at c11 c8
 simp only [l3x0, b3, Tryz.f3, loopAt, loops, bodyOf, go_sem, NM3, HM3, n0, wz, List.cons_append, List.nil_append] at hL
 have bb : ∀ b : Bool, (b == b) = true := fun b => by cases b <;> rfl
 rw [e3 (by simp) (by rfl), wV_eq, wV_eq]
 cases hm : mayP sound 1 [.mk ps] with
 | false =>
  rw [hm] at c7
  simp only [hm, Bool.false_eq_true, reduceIte] at c6
  rw [wV_eq] at c6
  have hL0 := hL wz
  simp only [wz] at c6 hL0
  simp only [go_sem, b3, Tryz.f3, c6, c7, c8, c9, c10, c11, f12, hL0, bb, fl29, eq_w, Int.reduceBEq, beq_self_eq_true, List.length_map, List.length_nil, List.length_cons, Nat.zero_le, Bool.not_false, Bool.not_true]
  all_goals rfl
 | true =>
  rw [hm] at c7
  simp only [hm, reduceIte] at c6
  rw [wV_eq] at c6
  have hL0 := hL w
  simp only [go_sem, b3, Tryz.f3, c6, c7, c8, c9, c10, c11, f12, hL0, bb, fl29, eq_w, Int.reduceBEq, beq_self_eq_true, List.length_map, List.length_nil, List.length_cons, Nat.zero_le, Bool.not_false, Bool.not_true]
  all_goals rfl
end Go.Lift.Z9
end

section
namespace Go.Proofs
open Go.Shelf
def Tryz.lays219_ren : Go.Shelf.Ren := ⟨fun | 219 => 112 | 217 => 121 | 225 => 122 | 224 => 123 | 267 => 124 | 266 => 131 | 314 => 132 | n => n, fun | 9 => 9 | 3 => 3 | 4 => 4 | 5 => 5 | 46 => 124 | 146 => 156 | 51 => 155 | n => n, fun | 1 => 1 | n => n⟩
theorem Tryz.lays219 : Go.Proofs.LaysM.n219 Tryz.prog Tryz.lays219_ren := {
 mixed := by kernel_rfl
 f217 := Tryz.func121.trans (congrArg some (by kernel_rfl))
 f219 := Tryz.func112.trans (congrArg some (by kernel_rfl))
 f224 := Tryz.func123.trans (congrArg some (by kernel_rfl))
 f225 := Tryz.func122.trans (congrArg some (by kernel_rfl))
 f266 := Tryz.func131.trans (congrArg some (by kernel_rfl))
 f267 := Tryz.func124.trans (congrArg some (by kernel_rfl))
 f314 := Tryz.func132.trans (congrArg some (by kernel_rfl))
 t3 := Tryz.underlying3
 a3 := Tryz.isAgg3
 z3 := Tryz.sizeOf3
 v3 := Tryz.zeroValue3
 t4 := Tryz.underlying4
 a4 := Tryz.isAgg4
 z4 := Tryz.sizeOf4
 v4 := Tryz.zeroValue4
 t5 := Tryz.underlying5
 a5 := Tryz.isAgg5
 z5 := Tryz.sizeOf5
 v5 := Tryz.zeroValue5
 t9 := Tryz.underlying9
 a9 := Tryz.isAgg9
 z9 := Tryz.sizeOf9
 v9 := Tryz.zeroValue9
 t46 := Tryz.underlying124
 a46 := Tryz.isAgg124
 z46 := Tryz.sizeOf124
 v46 := Tryz.zeroValue124
 t51 := Tryz.underlying155
 a51 := Tryz.isAgg155
 z51 := Tryz.sizeOf155
 v51 := Tryz.zeroValue155
 t146 := Tryz.underlying156
 a146 := Tryz.isAgg156
 z146 := Tryz.sizeOf156
 v146 := Tryz.zeroValue156
 g1 := by kernel_rfl
 i3 := by kernel_rfl
 i4 := by kernel_rfl
 i5 := by kernel_rfl
 i9 := by kernel_rfl
 i46 := by kernel_rfl
 i51 := by kernel_rfl
 i146 := by kernel_rfl
 m1 := by kernel_rfl
 s1_3 := fun w h => Go.Proofs.cell_of_shapedOpen_int (zero := #[.int .i64 0]) (t := 3) h (of_decide_eq_true (by kernel_rfl)) (by kernel_rfl) rfl (by kernel_rfl) (by kernel_rfl) Tryz.underlying3 }
end Go.Proofs
end
