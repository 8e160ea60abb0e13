/- A simple selector: (*reader).simple. -/
import Derived.Test.YthjkocamddljiaaDoorGKa
import Derived.Test.YthjkocamddljiaaDoorGK6Basea
import Derived.Test.YthjkocamddljiaaDoorGKb
import Derived.Test.YthjkocamddljiaaDoorGKc
set_option linter.unusedVariables false
set_option linter.unusedSimpArgs false
set_option linter.unusedSectionVars false
set_option maxRecDepth 20000
set_option maxHeartbeats 4000000
section
open Go.Proofs
namespace Go.Lift.Q1
open Rul
open Utf (By)
open Sel (tk tz isD db Sm Cp smV cxsC kindT pseudoT attrT simpleT cd)
variable [MX]
section
variable {lo a : Nat} {l : List CV} {p q : List Ob}
noncomputable abbrev X36 (lo : Nat) (p q : List Ob) : Lift.Cx := ⟨Tryd.prog, E, lo, p.length + (q.length + 1), h36⟩
abbrev Q36 (q : List Ob) (t : Tk4) : List Ob := q ++ [sO 0 [] 0 [] false, .cells (row t), sO 0 t.b 0 [] false]
abbrev NE36 (p q : List Ob) : Env := [(0, .ptr p.length 0), (2, .ptr (p.length + (q.length + 1)) 0), (5, .ptr (p.length + (q.length + 1 + 1)) 0), (6, .ptr (p.length + (q.length + 1 + 1 + 1)) 0)]
theorem p36a (hlo : lo <= p.length) (hl : l.length <= 1000000000) (ha : a <= 1300000000) :
  evL (X36 lo p q) loopW (pc b36 0 3) (args0 [.ptr p.length 0], p ++ Rd l a :: q) = some (.normal, NE36 p q, p ++ Rd l a :: Q36 q (tk (l.drop a))) := by
 have hlo2 : lo <= p.length + (q.length + 1) := by omega
 have hlo3 : lo <= p.length + (q.length + 1 + 1) := by omega
 have hlo4 : lo <= p.length + (q.length + 1 + 1 + 1) := by omega
 have n0 : ((0 : Nat) : Int) = 0 := rfl
 have c35 := fun q => f35 (q := q) (k := 0) (a := a) hlo hl (by omega)
 simp only [n0, Nat.add_zero] at c35
 generalize tk (l.drop a) = t at *
 simp only [row] at c35 ⊢
 simp only [go_sem, b36, Tryd.f36, hlo, hlo2, hlo3, hlo4, c35]
 all_goals rfl
theorem p36i {t : Tk4} (hlo : lo <= p.length) (hl : l.length <= 1000000000) (ha : a <= 1300000000) (hk : t.k = 4) (hi : t.i = true) :
  ∃ Y, evL (X36 lo p q) loopW (pc b36 3 3) (NE36 p q, p ++ Rd l a :: Q36 q t) = some (.ret, [(2, .ptr (p.length + (q.length + 1)) 0), (3, .v (.bool true)), (4, .v (.bool true))], p ++ Rd l (a + 1) :: (q ++ rO 4 t.b 0 [] false :: Y)) := by
 have hlo2 : lo <= p.length + (q.length + 1) := by omega
 have hlo3 : lo <= p.length + (q.length + 1 + 1) := by omega
 have hlo4 : lo <= p.length + (q.length + 1 + 1 + 1) := by omega
 have hw1 : IntKind.i64.wrap ((a : Int) + 1) = ((a + 1 : Nat) : Int) := wrap_succ (by omega)
 have q1 : (t.k == 4) = true := by rw [hk]; rfl
 refine ⟨[.cells (row t), sO 4 t.b 0 [] false], ?_⟩
 simp only [go_sem, b36, Tryd.f36, hlo, hlo2, hlo3, hlo4, q1, hi, hw1, Q36, row]
 all_goals rfl
theorem p36c {t u : Tk4} (hlo : lo <= p.length) (hl : l.length <= 1000000000) (ha : a <= 1300000000) (ho : allL OkB l) (ht : tk (l.drop a) = t) (hu : tk (l.drop (a + 1)) = u) (hd : isD t 46 = true) (hk : u.k = 1) :
  ∃ Y, evL (X36 lo p q) loopW (pc b36 3 3) (NE36 p q, p ++ Rd l a :: Q36 q t) = some (.ret, [(2, .ptr (p.length + (q.length + 1)) 0), (3, .v (.bool true)), (4, .v (.bool true))], p ++ Rd l (a + 2) :: (q ++ rO 3 u.b 0 [] false :: Y)) := by
 have hlo2 : lo <= p.length + (q.length + 1) := by omega
 have hlo3 : lo <= p.length + (q.length + 1 + 1) := by omega
 have hlo4 : lo <= p.length + (q.length + 1 + 1 + 1) := by omega
 have hw1 : IntKind.i64.wrap ((a : Int) + 2) = ((a + 2 : Nat) : Int) := by rw [wrap_i64 (by omega) (by omega)]; omega
 have n0 : ((0 : Nat) : Int) = 0 := rfl
 have n1 : ((1 : Nat) : Int) = 1 := rfl
 have k9 : t.k = 9 := by
  unfold isD at hd
  simp only [Bool.and_eq_true, beq_iff_eq] at hd
  exact hd.1
 have q1 : (t.k == 4) = false := by rw [k9]; rfl
 have q2 : (u.k == 1) = true := by rw [hk]; rfl
 have c28 := fun q => f28 (q := q) (k := 0) (a := a) (s := [46]) hlo hl (by omega) ho (by_one (by omega) (by omega))
 have s1 : Rul.bs [46] = ⟨#[46]⟩ := rfl
 simp only [n0, Nat.add_zero, dl_one, ht, hd, s1] at c28
 have c35 := fun q => f35 (q := q) (k := 1) (a := a) hlo hl (by omega)
 simp only [n1, hu, row] at c35
 refine ⟨[.cells (row t), sO 3 u.b 0 [] false], ?_⟩
 simp only [go_sem, b36, Tryd.f36, hlo, hlo2, hlo3, hlo4, q1, q2, c28, c35, hw1, Q36, row]
 all_goals rfl
theorem p36q {t : Tk4} {ks : List CV} (hlo : lo <= p.length) (hl : l.length <= 1000000000) (ha : a <= 1300000000) (ho : allL OkB l) (hg : l[a]? = some (.mk t ks)) (hk : t.k = 19) (hn : nodesL ks <= 900000000) (hks : allL OkB ks) :
  ∃ (s : Sm) (ok : Bool) (Y : List Ob), evL (X36 lo p q) loopW (pc b36 3 3) (NE36 p q, p ++ Rd l a :: Q36 q t) = some (.ret, [(2, .ptr (p.length + (q.length + 1)) 0), (3, .v (.bool true)), (4, .v (.bool ok))], p ++ Rd l (a + 1) :: (q ++ .cells (smV s) :: Y)) /\
   attrT cd (trim ks) = if ok = true then some s else none := by
 have hlo2 : lo <= p.length + (q.length + 1) := by omega
 have hlo3 : lo <= p.length + (q.length + 1 + 1) := by omega
 have hlo4 : lo <= p.length + (q.length + 1 + 1 + 1) := by omega
 have hlo5 : lo <= p.length + (q.length + 3 + 1) := by omega
 have hlo6 : lo <= p.length + (q.length + 4 + 1) := by omega
 have hw1 : IntKind.i64.wrap ((a : Int) + 1) = ((a + 1 : Nat) : Int) := wrap_succ (by omega)
 have n0 : ((0 : Nat) : Int) = 0 := rfl
 have q1 : (t.k == 4) = false := by rw [hk]; rfl
 have q2 : (t.k == 19) = true := by rw [hk]; rfl
 have ht : tk (l.drop a) = t := tk_drop hg
 have hd : isD t 46 = false := by unfold isD; rw [hk]; rfl
 have c28 := fun q => f28 (q := q) (k := 0) (a := a) (s := [46]) hlo hl (by omega) ho (by_one (by omega) (by omega))
 have s1 : Rul.bs [46] = ⟨#[46]⟩ := rfl
 simp only [n0, Nat.add_zero, dl_one, ht, hd, s1] at c28
 have hgr : (rowsC l)[a]? = some (rowV (.mk t ks)) := by rw [rowsC_get, hg]; rfl
 simp only [rowV_eq, row, List.cons_append, List.nil_append] at hgr
 have c24 := fun (lo : Nat) (h : Heap) (hlo : lo <= h.length) => f24 (lo := lo) (h := h) (l := ks) hlo (by omega)
 have htl : (trim ks).length <= 900000000 := by
  have h1 := nodesL_len ks
  have h2 := nodesL_trim ks
  have h3 := nodesL_len (trim ks)
  omega
 have hlen : (p ++ Rd l (a + 1) :: Q36 q t).length = p.length + (q.length + 3 + 1) := by simp [Q36]
 obtain ⟨s, ok, b, hb, c46, hsp⟩ := f46 (lo := lo) (p := p ++ Rd l (a + 1) :: Q36 q t) (q := []) (l := trim ks) (a := 0) (by rw [hlen]; exact hlo5) (by omega) (by omega) (ok_sub hks fun v hv => Rul.trim_mem hv)
 rw [List.drop_zero] at hsp
 obtain ⟨k, n, o, v, f, li, x, y⟩ := s
 simp only [hlen] at c46
 simp only [smV, Q36, Rd, row, List.cons_append, List.nil_append, List.append_assoc, n0] at c46 ⊢
 generalize rowsC (trim ks) = TR at *
 generalize hV : Rul.bs n = N at *
 generalize hW : Rul.bs v = W at *
 generalize hT : Rul.bs t.b = B at *
 generalize hC : cxsC li = CL at *
 refine ⟨.mk k n o v f li x y, ok, [.cells [.v (.int .i64 t.k), .v (.string B), .v (.int .i64 t.n), .v (.int .i64 t.d), .v (.bool t.w), .v (.bool t.i)], sO 0 t.b 0 [] false, .cells [.list .no TR, .v (.int .i64 b)], .cells [.v (.int .i64 k), .v (.string N), .v (.int .i64 o), .v (.string W), .v (.bool f), .list .no CL, .v (.int .i64 x), .v (.int .i64 y)]], ?_, hsp⟩
 simp only [smV, hV, hW, hC]
 simp only [go_sem, b36, Tryd.f36, hlo, hlo2, hlo3, hlo4, hlo5, hlo6, q1, q2, c28, hgr, c24, c46, hw1, Nat.le_add_right]
 all_goals rfl
theorem p36p {t : Tk4} {v : CV} {s : Sm} {ok : Bool} (hlo : lo <= p.length) (hl : l.length <= 1000000000) (ha : a <= 1300000000) (ho : allL OkB l) (ht : tk (l.drop a) = t) (hg : l[a + 1]? = some v) (hk : t.k = 16)
  (c47 : ∀ (lo : Nat) (h : Heap), lo <= h.length -> E lo 47 [.agg (rowV v)] h = some (.tup [.agg (smV s), .v (.bool ok)], h)) :
  ∃ (Y : List Ob), evL (X36 lo p q) loopW (pc b36 3 3) (NE36 p q, p ++ Rd l a :: Q36 q t) = some (.ret, [(2, .ptr (p.length + (q.length + 1)) 0), (3, .v (.bool true)), (4, .v (.bool ok))], p ++ Rd l (a + 2) :: (q ++ .cells (smV s) :: Y)) := by
 have hlo2 : lo <= p.length + (q.length + 1) := by omega
 have hlo3 : lo <= p.length + (q.length + 1 + 1) := by omega
 have hlo4 : lo <= p.length + (q.length + 1 + 1 + 1) := by omega
 have hlo5 : lo <= p.length + (q.length + 3 + 1) := by omega
 have hlo6 : lo <= p.length + (q.length + 4 + 1) := by omega
 have hlt : a + 1 < l.length := (List.getElem?_eq_some_iff.1 hg).1
 have hw1 : IntKind.i64.wrap ((a : Int) + 1) = ((a + 1 : Nat) : Int) := wrap_succ (by omega)
 have hw2 : IntKind.i64.wrap ((a : Int) + 2) = ((a + 2 : Nat) : Int) := by rw [wrap_i64 (by omega) (by omega)]; omega
 have qb : decide ((l.length : Int) <= ((a + 1 : Nat) : Int)) = false := by rw [decide_eq_false_iff_not]; omega
 have n0 : ((0 : Nat) : Int) = 0 := rfl
 have q1 : (t.k == 4) = false := by rw [hk]; rfl
 have q2 : (t.k == 19) = false := by rw [hk]; rfl
 have q3 : (t.k == 16) = true := by rw [hk]; rfl
 have hd : isD t 46 = false := by unfold isD; rw [hk]; rfl
 have c28 := fun q => f28 (q := q) (k := 0) (a := a) (s := [46]) hlo hl (by omega) ho (by_one (by omega) (by omega))
 have s1 : Rul.bs [46] = ⟨#[46]⟩ := rfl
 simp only [n0, Nat.add_zero, dl_one, ht, hd, s1] at c28
 have hgr : (rowsC l)[a + 1]? = some (rowV v) := by rw [rowsC_get, hg]; rfl
 obtain ⟨⟨tk, tb, tn, td, tw, ti⟩, ks⟩ := v
 simp only [rowV_eq, row, List.cons_append, List.nil_append] at hgr c47
 obtain ⟨k, n, o, v, f, li, x, y⟩ := s
 simp only [smV] at c47
 generalize hV : Rul.bs n = N at *
 generalize hW : Rul.bs v = W at *
 generalize hC : cxsC li = CL at *
 generalize rowsC ks = KS at *
 generalize Rul.bs tb = TB at *
 refine ⟨[.cells (row t), sO 0 t.b 0 [] false, .cells [.v (.int .i64 k), .v (.string N), .v (.int .i64 o), .v (.string W), .v (.bool f), .list .no CL, .v (.int .i64 x), .v (.int .i64 y)]], ?_⟩
 simp only [smV, hV, hW, hC, row, Q36]
 simp only [go_sem, b36, Tryd.f36, hlo, hlo2, hlo3, hlo4, hlo5, hlo6, q1, q2, q3, qb, c28, hgr, c47, hw1, hw2, Nat.le_add_right, rowsC_len]
 all_goals rfl
theorem p36n {t : Tk4} (hlo : lo <= p.length) (hl : l.length <= 1000000000) (ha : a <= 1300000000) (ho : allL OkB l) (ht : tk (l.drop a) = t) (hg : l.length <= a + 1) (hk : t.k = 16) :
  ∃ (Y : List Ob), evL (X36 lo p q) loopW (pc b36 3 3) (NE36 p q, p ++ Rd l a :: Q36 q t) = some (.ret, [(2, .ptr (p.length + (q.length + 1)) 0), (3, .v (.bool false)), (4, .v (.bool false))], p ++ Rd l a :: (q ++ rO 0 t.b 0 [] false :: Y)) := by
 have hlo2 : lo <= p.length + (q.length + 1) := by omega
 have hlo3 : lo <= p.length + (q.length + 1 + 1) := by omega
 have hlo4 : lo <= p.length + (q.length + 1 + 1 + 1) := by omega
 have hw1 : IntKind.i64.wrap ((a : Int) + 1) = ((a + 1 : Nat) : Int) := wrap_succ (by omega)
 have qb : decide ((l.length : Int) <= ((a + 1 : Nat) : Int)) = true := by rw [decide_eq_true_iff]; omega
 have n0 : ((0 : Nat) : Int) = 0 := rfl
 have q1 : (t.k == 4) = false := by rw [hk]; rfl
 have q2 : (t.k == 19) = false := by rw [hk]; rfl
 have q3 : (t.k == 16) = true := by rw [hk]; rfl
 have hd : isD t 46 = false := by unfold isD; rw [hk]; rfl
 have c28 := fun q => f28 (q := q) (k := 0) (a := a) (s := [46]) hlo hl (by omega) ho (by_one (by omega) (by omega))
 have s1 : Rul.bs [46] = ⟨#[46]⟩ := rfl
 simp only [n0, Nat.add_zero, dl_one, ht, hd, s1] at c28
 refine ⟨[.cells (row t), sO 0 t.b 0 [] false], ?_⟩
 simp only [go_sem, b36, Tryd.f36, hlo, hlo2, hlo3, hlo4, q1, q2, q3, qb, c28, hw1, Q36, row, rowsC_len]
 all_goals rfl
theorem p36z {t u : Tk4} (hlo : lo <= p.length) (hl : l.length <= 1000000000) (ha : a <= 1300000000) (ho : allL OkB l) (ht : tk (l.drop a) = t) (hu : tk (l.drop (a + 1)) = u)
  (h4 : (t.k == 4 && t.i) = false) (h9 : (isD t 46 && u.k == 1) = false) (h19 : (t.k == 19) = false) (h16 : (t.k == 16) = false) :
  ∃ (Y : List Ob), evL (X36 lo p q) loopW (pc b36 3 3) (NE36 p q, p ++ Rd l a :: Q36 q t) = some (.ret, [(2, .ptr (p.length + (q.length + 1)) 0), (3, .v (.bool false)), (4, .v (.bool true))], p ++ Rd l a :: (q ++ rO 0 t.b 0 [] false :: Y)) := by
 have hlo2 : lo <= p.length + (q.length + 1) := by omega
 have hlo3 : lo <= p.length + (q.length + 1 + 1) := by omega
 have hlo4 : lo <= p.length + (q.length + 1 + 1 + 1) := by omega
 have n0 : ((0 : Nat) : Int) = 0 := rfl
 have n1 : ((1 : Nat) : Int) = 1 := rfl
 have c28 := fun q => f28 (q := q) (k := 0) (a := a) (s := [46]) hlo hl (by omega) ho (by_one (by omega) (by omega))
 have s1 : Rul.bs [46] = ⟨#[46]⟩ := rfl
 simp only [n0, Nat.add_zero, dl_one, ht, s1] at c28
 have c35 := fun q => f35 (q := q) (k := 1) (a := a) hlo hl (by omega)
 simp only [n1, hu, row] at c35
 refine ⟨[.cells (row t), sO 0 t.b 0 [] false], ?_⟩
 have ways : ((t.k == 4) = true /\ t.i = false /\ isD t 46 = false) \/ ((t.k == 4) = false /\ isD t 46 = false) \/ ((t.k == 4) = false /\ isD t 46 = true /\ (u.k == 1) = false) := by
  cases hk : t.k == 4 with
  | true =>
   rw [hk, Bool.true_and] at h4
   refine .inl ⟨rfl, h4, ?_⟩
   unfold isD
   have : t.k = 4 := by simpa using hk
   rw [this]; rfl
  | false =>
   cases hd : isD t 46 with
   | false => exact .inr (.inl ⟨rfl, rfl⟩)
   | true =>
    rw [hd, Bool.true_and] at h9
    exact .inr (.inr ⟨rfl, rfl, h9⟩)
 rcases ways with ⟨w1, w2, w3⟩ | ⟨w1, w3⟩ | ⟨w1, w3, w4⟩
 ·simp only [w3] at c28
  simp only [go_sem, b36, Tryd.f36, hlo, hlo2, hlo3, hlo4, w1, w2, c28, h19, h16, Q36, row]
  all_goals rfl
 ·simp only [w3] at c28
  simp only [go_sem, b36, Tryd.f36, hlo, hlo2, hlo3, hlo4, w1, c28, h19, h16, Q36, row]
  all_goals rfl
 ·simp only [w3] at c28
  simp only [go_sem, b36, Tryd.f36, hlo, hlo2, hlo3, hlo4, w1, w4, c28, c35, h19, h16, Q36, row]
  all_goals rfl
theorem fin36 {s : Sm} {is ok : Bool} {b : Nat} {Y : List Ob} : fin Tryd.prog [.cell 2 51, .tmp 3, .tmp 4] (p.length + (q.length + 1)) (some (.ret, [(2, .ptr (p.length + (q.length + 1)) 0), (3, .v (.bool is)), (4, .v (.bool ok))], p ++ Rd l b :: (q ++ .cells (smV s) :: Y))) =
  some (.tup [.agg (smV s), .v (.bool is), .v (.bool ok)], p ++ Rd l b :: q) := by
 obtain ⟨k, n, o, v, f, li, x, y⟩ := s
 rw [smV]
 simp only [go_sem]
 all_goals rfl
theorem rO_sm {k : Int} {n v : List Int} {o : Int} {f : Bool} : rO k n o v f = .cells (smV (.mk k n o v f [] 0 0)) := by
 rw [smV, cxsC]
theorem simple_cd (sub : List CV -> Option (List Sel.Cx)) (l : List CV) : simpleT cd sub l = if ((tk l).k == 4 && (tk l).i) = true then some (some (.mk 4 (tk l).b 0 [] false [] 0 0, l.tail))
  else if (isD (tk l) 46 && (tk l.tail).k == 1) = true then some (some (.mk 3 (tk l.tail).b 0 [] false [] 0 0, l.tail.tail))
  else match l with
   | [] => some none
   | v :: r => if (v.k == 19) = true then (attrT cd (trim v.ks)).map fun s => some (s, r)
    else if (v.k == 16) = true then (match r with
     | [] => none
     | u :: r2 => (pseudoT sub u).map fun s => some (s, r2))
    else some none := by
 unfold simpleT
 simp only [cd, if_true, Bool.false_and, Bool.false_eq_true, if_false]
 all_goals rfl
theorem f36 {sub : List CV -> Option (List Sel.Cx)} (hl : l.length <= 1000000000) (ha : a <= 1100000000) (ho : allL OkB l) (hn : nodesL l <= 900000000) (hs : ∀ v ∈ l, v.k = 2 -> C11 sub v.ks) (hlo : lo <= p.length) :
  ∃ (s : Sm) (is ok : Bool) (b : Nat), b <= max a l.length /\ E lo 36 [.ptr p.length 0] (p ++ Rd l a :: q) = some (.tup [.agg (smV s), .v (.bool is), .v (.bool ok)], p ++ Rd l b :: q) /\
   simpleT cd sub (l.drop a) = (if ok = true then (if is = true then some (some (s, l.drop b)) else some none) else none) /\ (is = false -> b = a) := by
 have hlen : (p ++ Rd l a :: q).length = p.length + (q.length + 1) := by simp
 have hA := p36a (q := q) (a := a) hlo hl (by omega)
 have run : ∀ {st : Option (Ex × St)}, evL (X36 lo p q) loopW (pc b36 3 3) (NE36 p q, p ++ Rd l a :: Q36 q (tk (l.drop a))) = st -> E lo 36 [.ptr p.length 0] (p ++ Rd l a :: q) = fin Tryd.prog [.cell 2 51, .tmp 3, .tmp 4] (p.length + (q.length + 1)) (thenP (X36 lo p q) loopW b36 6 st) := by
  intro st h
  rw [e36 (by simp) (by rfl), hlen, pc_in, pc_go _ _ _ _ 0 3, hA, pc_go _ _ _ _ _ 3, h]
 rw [simple_cd, drop_tail, drop_tail]
 cases h4 : (tk (l.drop a)).k == 4 && (tk (l.drop a)).i with
 | true =>
  rw [if_pos rfl]
  have k4 : (tk (l.drop a)).k = 4 /\ (tk (l.drop a)).i = true := by simpa using h4
  have hlt := tk_lt (l := l) (i := a) (by omega)
  obtain ⟨Y, hB⟩ := p36i (q := q) (a := a) hlo hl (by omega) k4.1 k4.2
  refine ⟨.mk 4 (tk (l.drop a)).b 0 [] false [] 0 0, true, true, a + 1, by omega, ?_, rfl, fun h => by cases h⟩
  rw [run hB, pc_r, rO_sm]
  exact fin36
 | false =>
 rw [if_neg (by simp)]
 cases h9 : isD (tk (l.drop a)) 46 && (tk (l.drop (a + 1))).k == 1 with
 | true =>
  rw [if_pos rfl]
  rw [Bool.and_eq_true] at h9
  have k1 : (tk (l.drop (a + 1))).k = 1 := by simpa using h9.2
  have hlt := tk_lt (l := l) (i := a + 1) (by omega)
  obtain ⟨Y, hB⟩ := p36c (q := q) (a := a) hlo hl (by omega) ho rfl rfl h9.1 k1
  refine ⟨.mk 3 (tk (l.drop (a + 1))).b 0 [] false [] 0 0, true, true, a + 2, by omega, ?_, rfl, fun h => by cases h⟩
  rw [run hB, pc_r, rO_sm]
  exact fin36
 | false =>
 rw [if_neg (by simp)]
 cases h19 : (tk (l.drop a)).k == 19 with
 | true =>
  have k19 : (tk (l.drop a)).k = 19 := by simpa using h19
  have hlt := tk_lt (l := l) (i := a) (by omega)
  have hg := List.getElem?_eq_getElem hlt
  have hm := List.getElem_mem hlt
  have hd := List.drop_eq_getElem_cons hlt
  rw [hd]
  have ht : tk (l.drop a) = l[a].t := by rw [hd]; rfl
  rw [ht] at k19 run
  generalize l[a] = v at *
  obtain ⟨t, ks⟩ := v
  have hks := (allL_iff.1 ho _ hm).2
  have hnk : nodesL ks <= 900000000 := by have := nodesL_get hg; exact Nat.le_trans this hn
  obtain ⟨s, ok, Y, hB, hsp⟩ := p36q (q := q) (a := a) hlo hl (by omega) ho hg k19 hnk hks
  have e19 : ((CV.mk t ks).k == 19) = true := by show (t.k == 19) = true; rw [show t.k = 19 from k19]; rfl
  simp only
  rw [if_pos e19]
  refine ⟨s, true, ok, a + 1, by omega, ?_, ?_, fun h => by cases h⟩
  ·rw [run hB, pc_r]
   exact fin36
  ·show (attrT cd (trim ks)).map _ = _
   rw [hsp]
   cases ok <;> rfl
 | false =>
 cases h16 : (tk (l.drop a)).k == 16 with
 | false =>
  obtain ⟨Y, hB⟩ := p36z (q := q) (a := a) hlo hl (by omega) ho rfl rfl h4 h9 h19 h16
  refine ⟨.mk 0 (tk (l.drop a)).b 0 [] false [] 0 0, false, true, a, by omega, ?_, ?_, fun _ => rfl⟩
  ·rw [run hB, pc_r, rO_sm]
   exact fin36
  ·rw [if_pos rfl, if_neg (by simp)]
   cases hd : l.drop a with
   | nil => rfl
   | cons v r =>
    rw [hd] at h19 h16
    have e1 : (v.k == 19) = false := h19
    have e2 : (v.k == 16) = false := h16
    simp only [e1, e2, Bool.false_eq_true, if_false]
 | true =>
  have k16 : (tk (l.drop a)).k = 16 := by simpa using h16
  have hlt := tk_lt (l := l) (i := a) (by omega)
  have hd := List.drop_eq_getElem_cons hlt
  have ht : tk (l.drop a) = l[a].t := by rw [hd]; rfl
  have e1 : (l[a].k == 19) = false := by rw [ht] at h19; exact h19
  have e2 : (l[a].k == 16) = true := by rw [ht] at h16; exact h16
  rcases Nat.lt_or_ge (a + 1) l.length with h1 | h1
  ·have hg := List.getElem?_eq_getElem h1
   have hm := List.getElem_mem h1
   have hd2 := List.drop_eq_getElem_cons h1
   rw [hd, hd2]
   simp only [e1, e2, Bool.false_eq_true, if_false, if_true]
   generalize l[a + 1] = v at *
   have hnk := nodesL_get hg
   obtain ⟨s, ok, c47, hsp⟩ := f47 (v := v) (sub := sub) (allL_iff.1 ho _ hm).1 (by omega) (allL_iff.1 ho _ hm).2 (hs v hm)
   obtain ⟨Y, hB⟩ := p36p (q := q) (a := a) hlo hl (by omega) ho rfl hg k16 c47
   refine ⟨s, true, ok, a + 2, by omega, ?_, ?_, fun h => by cases h⟩
   ·rw [run hB, pc_r]
    exact fin36
   ·rw [hsp]
    cases ok <;> rfl
  ·have hd2 : l.drop (a + 1) = [] := List.drop_eq_nil_of_le h1
   rw [hd, hd2]
   simp only [e1, e2, Bool.false_eq_true, if_false, if_true]
   obtain ⟨Y, hB⟩ := p36n (q := q) (a := a) hlo hl (by omega) ho rfl h1 k16
   refine ⟨.mk 0 (tk (l.drop a)).b 0 [] false [] 0 0, false, false, a, by omega, ?_, by rw [if_neg (by simp)], fun _ => rfl⟩
   rw [run hB, pc_r, rO_sm]
   exact fin36
end
end Go.Lift.Q1
end

section
namespace Go.Lift.Sel
open Rul (CV Tk4 small trim split spaceC mayV mayL closer pieces)
variable {txt : List Int -> Bool} {cf : Cf} {sub : List CV -> Option (List Cx)}
theorem suf_tail (l : List CV) : l.tail <:+ l := List.tail_suffix l
theorem suf_db (l : List CV) : db l <:+ l := List.dropWhile_suffix _
theorem kind_simple {s : Sm} {l : List CV} (h : attrT cf l = some s) : s.k = 5 := by
 unfold attrT at h
 split at h
 ·split at h
  ·cases h; rfl
  ·split at h
   ·cases h
   ·split at h
    ·rw [Option.map_eq_some_iff] at h
     obtain ⟨f, _, rfl⟩ := h
     rfl
    ·cases h
 ·cases h
theorem kind_pseudo {s : Sm} {v : CV} (h : pseudoT sub v = some s) : 2 < s.k := by
 unfold pseudoT at h
 split at h
 ·split at h
  ·cases h
   show 2 < kindT _
   omega
  ·cases h
 ·split at h
  ·split at h
   ·rw [Option.map_eq_some_iff] at h
    obtain ⟨f, _, rfl⟩ := h
    show 2 < kindT _
    omega
   ·split at h
    ·rw [Option.map_eq_some_iff] at h
     obtain ⟨f, _, rfl⟩ := h
     show 2 < kindT _
     omega
    ·cases h
  ·cases h
theorem simple_some {l r : List CV} {s : Sm} (h : simpleT cf sub l = some (some (s, r))) : 2 < s.k /\ r <:+ l /\ r.length < l.length := by
 have ht : ∀ l : List CV, (tk l).k ≠ 0 -> l.tail.length < l.length := by
  intro l hl
  cases l with
  | nil => exact absurd rfl hl
  | cons v r => simp
 unfold simpleT at h
 split at h
 ·rename_i c
  simp only [Bool.and_eq_true, beq_iff_eq] at c
  split at h
  ·cases h
   exact ⟨show (2 : Int) < 4 by decide, suf_tail l, ht l (by omega)⟩
  ·cases h
 split at h
 ·rename_i c
  unfold isD at c
  simp only [Bool.and_eq_true, beq_iff_eq] at c
  split at h
  ·cases h
   have h1 := ht l (by omega)
   have h2 := ht l.tail (by omega)
   exact ⟨show (2 : Int) < 3 by decide, (suf_tail _).trans (suf_tail l), by omega⟩
  ·cases h
 split at h
 ·cases h
 ·rename_i v r'
  split at h
  ·rw [Option.map_eq_some_iff] at h
   obtain ⟨x, hx, he⟩ := h
   cases he
   have := kind_simple hx
   exact ⟨by omega, List.suffix_cons _ _, by simp⟩
  ·split at h
   ·split at h
    ·split at h <;> cases h
    ·split at h
     ·cases h
     ·rw [Option.map_eq_some_iff] at h
      obtain ⟨x, hx, he⟩ := h
      cases he
      exact ⟨kind_pseudo hx, (List.suffix_cons _ _).trans (List.suffix_cons _ _), by simp only [List.length_cons]; omega⟩
   ·cases h
section
variable {d : Nat} {sr sd : List CV -> Option (List Cx)}
theorem simples_pre : ∀ (n : Nat) (l : List CV) (acc ss : List Sm) (r : List CV), simplesT cf sub n l acc = some (ss, r) -> (∃ m, ss = acc ++ m) /\ r <:+ l /\ ss.length + r.length <= acc.length + l.length
 | 0, l, acc, ss, r, h => by rw [simplesT] at h; cases h
 | n + 1, l, acc, ss, r, h => by
  rw [simplesT] at h
  split at h
  ·cases h
  ·cases h
   exact ⟨⟨[], by simp⟩, List.suffix_refl _, Nat.le_refl _⟩
  ·rename_i s r' he
   obtain ⟨h1, h2, h3⟩ := simple_some he
   obtain ⟨⟨m, hm⟩, hs, hl⟩ := simples_pre n r' (acc ++ [s]) ss r h
   refine ⟨⟨s :: m, by rw [hm, List.append_assoc]; rfl⟩, hs.trans h2, ?_⟩
   rw [List.length_append, List.length_singleton] at hl
   omega
theorem start_some {l r : List CV} {a : List Sm} (h : startT cf l = some (a, r)) : r <:+ l /\ a.length + r.length <= l.length := by
 have ht : ∀ l : List CV, (tk l).k ≠ 0 -> l.tail.length + 1 <= l.length := by
  intro l hl
  cases l with
  | nil => exact absurd rfl hl
  | cons v r => simp
 unfold startT at h
 split at h
 ·rename_i c
  simp only [beq_iff_eq] at c
  split at h
  ·cases h
   have := ht l (by omega)
   exact ⟨suf_tail l, by simp; simp at this; omega⟩
  ·cases h
 ·split at h
  ·rename_i c
   unfold isD at c
   simp only [Bool.and_eq_true, beq_iff_eq] at c
   cases h
   have := ht l (by omega)
   exact ⟨suf_tail l, by simp; simp at this; omega⟩
  ·cases h
   exact ⟨List.suffix_refl _, by simp⟩
theorem compound_some {l r : List CV} {ss : List Sm} (h : compoundT cf sub l = some (ss, r)) : ss.isEmpty = false /\ r <:+ l /\ r.length < l.length := by
 unfold compoundT at h
 split at h
 ·cases h
 ·rename_i a r0 he
  split at h
  ·cases h
  ·rename_i ss' r' hx
   split at h
   ·cases h
   ·rename_i hne
    cases h
    obtain ⟨_, h2, h3⟩ := simples_pre _ _ _ _ _ hx
    obtain ⟨h4, h5⟩ := start_some he
    have hne : ss.isEmpty = false := by simpa using hne
    have : ss.length ≠ 0 := by
     intro h0
     rw [List.length_eq_zero_iff] at h0
     rw [h0] at hne
     cases hne
    exact ⟨hne, h2.trans h4, by omega⟩
theorem comb_some {l r : List CV} {c : Int} (h : combT l = some (c, r)) : 1 <= c /\ c <= 4 /\ r <:+ l := by
 have h2 : db (db l).tail <:+ l := (suf_db _).trans ((suf_tail _).trans (suf_db l))
 unfold combT at h
 split at h
 ·cases h; exact ⟨by omega, by omega, h2⟩
 split at h
 ·cases h; exact ⟨by omega, by omega, h2⟩
 split at h
 ·cases h; exact ⟨by omega, by omega, h2⟩
 split at h
 ·cases h; exact ⟨by omega, by omega, suf_db l⟩
 ·cases h
end
theorem list_len : ∀ (ls : List (List CV)) (cs : List Cx), listT cf sub ls = some cs -> cs.length = ls.length
 | [], cs, h => by rw [listT] at h; cases h; rfl
 | l :: r, cs, h => by
  rw [listT] at h
  split at h
  ·cases h
  ·split at h
   ·cases h
   ·rename_i cs' hx
    cases h
    rw [List.length_cons, List.length_cons, list_len r cs' hx]
theorem pieces_ne (l : List CV) : pieces l ≠ [] := by
 cases l with
 | nil => rw [pieces]; simp
 | cons v r =>
  rw [pieces]
  split
  ·simp
  ·split <;> simp
theorem pieces_sub : ∀ (l : List CV), ∀ p ∈ pieces l, ∀ v ∈ p, v ∈ l
 | [], p, hp, v, hv => by
  rw [pieces] at hp
  simp only [List.mem_singleton] at hp
  subst hp
  cases hv
 | w :: r, p, hp, v, hv => by
  rw [pieces] at hp
  have ih := pieces_sub r
  split at hp
  ·rcases List.mem_cons.1 hp with rfl | hp
   ·cases hv
   ·exact List.mem_cons_of_mem _ (ih p hp v hv)
  ·split at hp
   ·rename_i a b he
    rcases List.mem_cons.1 hp with rfl | hp
    ·rcases List.mem_cons.1 hv with rfl | hv
     ·exact List.mem_cons_self ..
     ·exact List.mem_cons_of_mem _ (ih a (by rw [he]; simp) v hv)
    ·exact List.mem_cons_of_mem _ (ih p (by rw [he]; simp [hp]) v hv)
   ·simp only [List.mem_singleton] at hp
    subst hp
    simp only [List.mem_singleton] at hv
    subst hv
    exact List.mem_cons_self ..
theorem trim_mem {l : List CV} {v : CV} (h : v ∈ trim l) : v ∈ l := by
 unfold trim at h
 rw [List.mem_reverse] at h
 have := (List.dropWhile_suffix _).subset h
 rw [List.mem_reverse] at this
 exact (List.dropWhile_suffix _).subset this
theorem split_mem {l p : List CV} {v : CV} (hp : p ∈ split l) (hv : v ∈ p) : v ∈ l := by
 unfold split at hp
 obtain ⟨q, hq, rfl⟩ := List.mem_map.1 hp
 exact pieces_sub l q hq v (trim_mem hv)
theorem mayL_iff {n : Nat} : ∀ {l : List CV}, mayL n l = true ↔ ∀ v ∈ l, mayV n v = true
 | [] => by rw [mayL]; simp
 | v :: r => by rw [mayL, Bool.and_eq_true, mayL_iff (l := r)]; simp
end Go.Lift.Sel
end

section
namespace Go.Lift.Sel
mutual
def okSm : Sm -> Prop
 | .mk k n o v f l a b => (Utf.By n /\ n.length <= 1000000000 /\ Utf.By v /\ v.length <= 1000000000 /\ l.length <= 1000000000) /\ okCxs l
def okSms : List Sm -> Prop
 | [] => True
 | s :: r => okSm s /\ okSms r
def okCps : List Cp -> Prop
 | [] => True
 | .mk c ss :: r => (ss.length <= 1000000000 /\ okSms ss) /\ okCps r
def okCxs : List Cx -> Prop
 | [] => True
 | .mk ps :: r => (ps.length <= 1000000000 /\ okCps ps) /\ okCxs r
end
end Go.Lift.Sel
end

section
namespace Go.Lift.Sel
open Rul (CV Tk4 small trim split pieces splitA splitB spaceC mayL mayV)
theorem splitA_eq : ∀ (l acc : List CV), splitA acc l = match pieces l with
  | p :: q => trim (acc ++ p) :: q.map trim
  | [] => []
 | [], acc => by rw [splitA, pieces]; simp
 | v :: r, acc => by
  have hne := pieces_ne r
  rw [splitA, pieces]
  by_cases hk : v.k = 18
  ·rw [if_pos hk, if_pos (by simpa using hk), splitA_eq r []]
   cases hp : pieces r with
   | nil => exact absurd hp hne
   | cons p q => simp
  ·rw [if_neg hk, if_neg (by simpa using hk), splitA_eq r (acc ++ [v])]
   cases hp : pieces r with
   | nil => exact absurd hp hne
   | cons p q => simp
theorem splitB_eq (l : List CV) : splitB l = split l := by
 have hne := pieces_ne l
 unfold splitB split
 rw [splitA_eq]
 cases hp : pieces l with
 | nil => exact absurd hp hne
 | cons p q => simp
theorem pieces_free : ∀ (l : List CV), ∀ p ∈ pieces l, ∀ v ∈ p, (v.k == 18) = false
 | [], p, hp, v, hv => by
  rw [pieces] at hp
  simp only [List.mem_singleton] at hp
  subst hp
  cases hv
 | w :: r, p, hp, v, hv => by
  have ih := pieces_free r
  rw [pieces] at hp
  cases hk : w.k == 18 with
  | true =>
   rw [hk, if_pos rfl] at hp
   rcases List.mem_cons.1 hp with rfl | hp
   ·cases hv
   ·exact ih p hp v hv
  | false =>
   rw [hk, if_neg (by simp)] at hp
   split at hp
   ·rename_i a b he
    rcases List.mem_cons.1 hp with rfl | hp
    ·rcases List.mem_cons.1 hv with rfl | hv
     ·exact hk
     ·exact ih a (by rw [he]; simp) v hv
    ·exact ih p (by rw [he]; simp [hp]) v hv
   ·simp only [List.mem_singleton] at hp
    subst hp
    simp only [List.mem_singleton] at hv
    subst hv
    exact hk
theorem pieces_one : ∀ (l : List CV), (∀ v ∈ l, (v.k == 18) = false) -> pieces l = [l]
 | [], _ => by rw [pieces]
 | v :: r, h => by rw [pieces, h v (by simp), if_neg (by simp), pieces_one r fun u hu => h u (by simp [hu])]
theorem split_piece {l p : List CV} (h : p ∈ split l) : split p = [p] := by
 unfold split at h
 obtain ⟨q, hq, rfl⟩ := List.mem_map.1 h
 unfold split
 rw [pieces_one _ fun v hv => pieces_free l q hq v (trim_mem hv), List.map_singleton, Rul.trim_trim]
section
variable (txt : List Int -> Bool) (n : Nat)
def ans (l : List CV) : Option (List Cx) := fltL txt 1 (parseT cd (n + 1) l)
theorem ans_one {p : List CV} (h : split p = [p]) : ans txt n p = match complexT cd (parseT cd n) p with
  | none => none
  | some c => if cxsP txt 1 [c] = true then some [c] else none := by
 unfold ans
 rw [parseT, h, listT, listT]
 cases complexT cd (parseT cd n) p with
 | none => rfl
 | some c => rfl
theorem cxs_cons (d : Nat) (c : Cx) (cs : List Cx) : cxsP txt d (c :: cs) = (cxsP txt d [c] && cxsP txt d cs) := by
 obtain ⟨ps⟩ := c
 rw [cxsP, cxsP, cxsP, Bool.and_true]
def badP (p : List CV) : Bool := (ans txt n p).isNone
def outP (p : List CV) : List Cx := (ans txt n p).getD []
def fltX : Option (List Cx) -> Option (List Cx)
 | some c => if cxsP txt 1 c = true then some c else none
 | none => none
theorem list_ans : ∀ ls : List (List CV), (∀ p ∈ ls, split p = [p]) ->
  fltX txt (listT cd (parseT cd n) ls) = if ls.any (badP txt n) = true then none else some (ls.flatMap (outP txt n))
 | [], _ => by rw [listT]; simp [fltX, cxsP]
 | p :: r, h => by
  have ih := list_ans r fun q hq => h q (by simp [hq])
  have h1 := ans_one txt n (h p (by simp))
  rw [listT, List.any_cons, List.flatMap_cons]
  cases hc : complexT cd (parseT cd n) p with
  | none =>
   rw [hc] at h1
   have hb : badP txt n p = true := by unfold badP; rw [h1]; rfl
   rw [hb]; rfl
  | some c =>
   rw [hc] at h1
   simp only at h1
   cases hx : cxsP txt 1 [c] with
   | false =>
    rw [hx, if_neg (by simp)] at h1
    have hb : badP txt n p = true := by unfold badP; rw [h1]; rfl
    rw [hb, Bool.true_or, if_pos rfl]
    simp only
    cases listT cd (parseT cd n) r with
    | none => rfl
    | some cs =>
     simp only [fltX]
     rw [cxs_cons, hx, Bool.false_and, if_neg (by simp)]
   | true =>
    rw [hx, if_pos rfl] at h1
    have hb : badP txt n p = false := by unfold badP; rw [h1]; rfl
    have ho : outP txt n p = [c] := by unfold outP; rw [h1]; rfl
    rw [hb, ho, Bool.false_or]
    simp only
    cases hl : listT cd (parseT cd n) r with
    | none =>
     rw [hl] at ih
     simp only [fltX] at ih ⊢
     split at ih
     ·rename_i hh; rw [if_pos hh]
     ·cases ih
    | some cs =>
     rw [hl] at ih
     simp only [fltX] at ih ⊢
     rw [cxs_cons, hx, Bool.true_and]
     cases hy : cxsP txt 1 cs with
     | false =>
      rw [hy, if_neg (by simp)] at ih
      rw [if_neg (by simp)]
      split at ih
      ·rename_i hh; rw [if_pos hh]
      ·cases ih
     | true =>
      rw [hy, if_pos rfl] at ih
      rw [if_pos rfl]
      split at ih
      ·cases ih
      ·rename_i hh
       rw [if_neg hh]
       cases ih
       rfl
theorem ans_list (l : List CV) : ans txt n l = if (split l).any (badP txt n) = true then none else some ((split l).flatMap (outP txt n)) := by
 rw [<- list_ans txt n (split l) fun p hp => split_piece hp]
 unfold ans
 rw [parseT]
 cases hl : listT cd (parseT cd n) (split l) with
 | none => rfl
 | some cs =>
  have hlen := list_len _ _ hl
  have hne : cs.isEmpty = false := by
   cases cs with
   | nil =>
    exfalso
    unfold split at hlen
    rw [List.length_map, List.length_nil] at hlen
    exact pieces_ne l (List.length_eq_zero_iff.1 hlen.symm)
   | cons => rfl
  simp only [fltL, fltX, hne]
  rfl
theorem piece_one {l p : List CV} (h : p ∈ split l) : ans txt n p = none \/ ∃ c, ans txt n p = some [c] := by
 rw [ans_one txt n (split_piece h)]
 cases complexT cd (parseT cd n) p with
 | none => exact .inl rfl
 | some c =>
  simp only
  split
  ·exact .inr ⟨c, rfl⟩
  ·exact .inl rfl
end
end Go.Lift.Sel
end

section
open Go.Proofs
namespace Go.Lift.Q1
open Rul
open Utf (By)
open Sel (tk tz isD db Sm Cp smV smsC smsC_map smsC_len cpV cpsC cxsC simpleT simplesT startT compoundT cd simple_some)
variable [MX]
section
variable {lo a : Nat} {l : List CV} {p q : List Ob} {sub : List CV -> Option (List Sel.Cx)}
abbrev PO (c : Int) (ss : List Sm) : Ob := .cells [.v (.int .i64 c), .list .yes (smsC ss)]
noncomputable abbrev X25 (lo : Nat) (p q : List Ob) : Lift.Cx := ⟨Tryd.prog, E, lo, p.length + (q.length + 1 + 1), h25⟩
theorem f35u {k : Nat} (hlo2 : lo <= p.length + (q.length + 1)) (hl : l.length <= 1000000000) (ha : a + k <= 4000000000) :
  E lo 35 [.ptr p.length 0, .v (.int .i64 k)] (p ++ Rd l a :: q) = some (.agg (row (tk (l.drop (a + k)))), p ++ Rd l a :: q) := by
 have hw : IntKind.i64.wrap ((a : Int) + (k : Int)) = ((a + k : Nat) : Int) := by rw [wrap_i64 (by omega) (by omega)]; omega
 rcases Nat.lt_or_ge (a + k) l.length with hlt | hge
 ·obtain ⟨t, ks⟩ : ∃ t ks, l[a + k]? = some (.mk t ks) := by
   cases hv : l[a + k] with
   | mk t ks => exact ⟨t, ks, by rw [List.getElem?_eq_getElem hlt, hv]⟩
  obtain ⟨ks, hg⟩ := ks
  have q1 : decide ((l.length : Int) <= ((a + k : Nat) : Int)) = false := by rw [decide_eq_false_iff_not]; omega
  have hgr : (rowsC l)[a + k]? = some (rowV (.mk t ks)) := by rw [rowsC_get, hg]; rfl
  rw [tk_drop hg]
  simp only [rowV_eq, row, List.cons_append, List.nil_append] at hgr
  rw [e35 (by simp) (by rfl)]
  simp only [go_sem, b35, Tryd.f35, hlo2, hw, q1, hgr, row, rowsC_len]
  all_goals rfl
 ·have q1 : decide ((l.length : Int) <= ((a + k : Nat) : Int)) = true := by rw [decide_eq_true_iff]; omega
  rw [tk_end hge]
  rw [e35 (by simp) (by rfl)]
  simp only [go_sem, b35, Tryd.f35, hlo2, hw, q1, row, rowsC_len]
  all_goals rfl
theorem smsC_all (l : List Sm) : ((smsC l).all fun x => x.length == 8) = true := by
 rw [smsC_map, List.all_eq_true]
 intro x hx
 obtain ⟨⟨k, n, o, v, f, li, a, b⟩, _, rfl⟩ := List.mem_map.1 hx
 rw [smV]; rfl
theorem smsC_ibr (l : List Sm) : isByteRow (smsC l) = false := by
 cases l with
 | nil => rw [smsC]; rfl
 | cons s r =>
  obtain ⟨k, n, o, v, f, li, a, b⟩ := s
  rw [smsC, smV]; rfl
theorem smsC_snoc (l : List Sm) (s : Sm) : smsC (l ++ [s]) = smsC l ++ [smV s] := by
 rw [smsC_map, smsC_map]; simp
abbrev NE25 (p q : List Ob) (ex : Env) : Env := [(0, .ptr p.length 0), (1, .ptr (p.length + (q.length + 1)) 0)] ++ ex
abbrev H25 (p q : List Ob) (l : List CV) (a : Nat) (c : Int) (ss : List Sm) : Heap := p ++ Rd l a :: (q ++ [PO c ss])
theorem r25 {c : Int} {ss : List Sm} {ex : Env} {s : Sm} {is ok : Bool} {b : Nat} (hex : ex = [(8, .undef)] \/ ex = [(33, .v (.bool false))]) (hlo : lo <= p.length) (hss : ss.length <= 1000000001)
  (c36 : E lo 36 [.ptr p.length 0] (H25 p q l a c ss) = some (.tup [.agg (smV s), .v (.bool is), .v (.bool ok)], H25 p q l b c ss)) :
  evCode (X25 lo p q) loopW l25x0 (NE25 p q ex, H25 p q l a c ss) =
   if ok = true then (if is = true then some (.normal, NE25 p q [(8, .undef)], H25 p q l b c (ss ++ [s])) else some (.ret, [(4, .v (.bool (decide (0 < ss.length))))], H25 p q l b c ss))
   else some (.ret, [(4, .v (.bool false))], H25 p q l b c ss) := by
 have hlo2 : lo <= p.length + (q.length + 1) := by omega
 have hlo3 : lo <= p.length + (q.length + 1 + 1) := by omega
 have hlo4 : lo <= p.length + (q.length + 1 + 1 + 1) := by omega
 have ra := smsC_all ss
 have rl := smsC_len ss
 have ri := smsC_ibr ss
 have o1 : (ss.length + 1) * 96 <= 140737488355328 := by omega
 have o2 : ss.length <= 9223372036854775806 := by omega
 have qd : decide ((0 : Int) < (ss.length : Int)) = decide (0 < ss.length) := by
  cases h : decide (0 < ss.length) with
  | true => rw [decide_eq_true_iff] at h ⊢; omega
  | false => rw [decide_eq_false_iff_not] at h ⊢; omega
 obtain ⟨k, n, o, v, f, li, x, y⟩ := s
 simp only [H25, PO, smsC_snoc, smV] at c36 ⊢
 generalize Rul.bs n = N at *
 generalize Rul.bs v = W at *
 generalize cxsC li = CL at *
 generalize smsC ss = R at *
 cases ok with
 | false =>
  rw [if_neg (by simp)]
  rcases hex with rfl | rfl
  ·simp only [go_sem, l25x0, b25, Tryd.f25, NE25, hlo, hlo2, hlo3, hlo4, c36]
   all_goals rfl
  ·simp only [go_sem, l25x0, b25, Tryd.f25, NE25, hlo, hlo2, hlo3, hlo4, c36]
   all_goals rfl
 | true =>
  rw [if_pos rfl]
  cases is with
  | false =>
   rw [if_neg (by simp)]
   rcases hex with rfl | rfl
   ·simp only [go_sem, l25x0, b25, Tryd.f25, NE25, hlo, hlo2, hlo3, hlo4, c36, rl, qd]
    all_goals rfl
   ·simp only [go_sem, l25x0, b25, Tryd.f25, NE25, hlo, hlo2, hlo3, hlo4, c36, rl, qd]
    all_goals rfl
  | true =>
   rw [if_pos rfl]
   rcases hex with rfl | rfl
   ·simp only [go_sem, l25x0, b25, Tryd.f25, NE25, hlo, hlo2, hlo3, hlo4, c36, ra, rl, ri, o1, o2]
    all_goals rfl
   ·simp only [go_sem, l25x0, b25, Tryd.f25, NE25, hlo, hlo2, hlo3, hlo4, c36, ra, rl, ri, o1, o2]
    all_goals rfl
theorem loop25 {c : Int} (hl : l.length <= 1000000000) (ho : allL OkB l) (hn : nodesL l <= 900000000) (hs : ∀ v ∈ l, v.k = 2 -> C11 sub v.ks) (hlo : lo <= p.length) : ∀ (n a : Nat) (ss : List Sm) (ex : Env),
  (l.drop a).length < n -> ss.length + (l.drop a).length <= 1000000001 -> a <= 1000000000 -> ex = [(8, .undef)] \/ ex = [(33, .v (.bool false))] ->
  match simplesT cd sub n (l.drop a) ss with
  | none => ∃ b ss', b <= max a l.length /\ loopW (evCode (X25 lo p q) loopW l25x0) (NE25 p q ex, H25 p q l a c ss) = some (.ret, [(4, .v (.bool false))], H25 p q l b c ss')
  | some (ss', r) => ∃ b, b <= max a l.length /\ l.drop b = r /\ loopW (evCode (X25 lo p q) loopW l25x0) (NE25 p q ex, H25 p q l a c ss) = some (.ret, [(4, .v (.bool (decide (0 < ss'.length))))], H25 p q l b c ss') := by
 intro n
 induction n with
 | zero => intro a ss ex h; omega
 | succ n ih =>
  intro a ss ex h1 h2 h3 hex
  obtain ⟨s, is, ok, b, hb, c36, hsp, hba⟩ := f36 (lo := lo) (p := p) (q := q ++ [PO c ss]) (a := a) (sub := sub) hl (by omega) ho hn hs hlo
  have hr := r25 (p := p) (q := q) (l := l) (a := a) (c := c) (ss := ss) (s := s) (is := is) (ok := ok) (b := b) hex hlo (by omega) c36
  rw [simplesT, hsp]
  cases ok with
  | false =>
   rw [if_neg (by simp)] at hr ⊢
   exact ⟨b, ss, hb, by rw [loop_eq, hr]; rfl⟩
  | true =>
   rw [if_pos rfl] at hr ⊢
   rw [if_pos rfl] at hsp
   cases is with
   | false =>
    rw [if_neg (by simp)] at hr ⊢
    have hba := hba rfl
    subst hba
    exact ⟨b, hb, rfl, by rw [loop_eq, hr]; rfl⟩
   | true =>
    rw [if_pos rfl] at hr ⊢
    rw [if_pos rfl] at hsp
    obtain ⟨_, k2, k3⟩ := simple_some hsp
    have ih := ih b (ss ++ [s]) [(8, .undef)] (by omega) (by rw [List.length_append, List.length_singleton]; omega) (by omega) (.inl rfl)
    simp only
    cases hx : simplesT cd sub n (l.drop b) (ss ++ [s]) with
    | none =>
     rw [hx] at ih
     obtain ⟨b', ss', i1, i2⟩ := ih
     exact ⟨b', ss', by omega, by rw [loop_eq, hr, loop_n]; exact i2⟩
    | some y =>
     obtain ⟨ss', r⟩ := y
     rw [hx] at ih
     obtain ⟨b', i1, i2, i3⟩ := ih
     exact ⟨b', by omega, i2, by rw [loop_eq, hr, loop_n]; exact i3⟩
theorem p25a {c : Int} (hlo : lo <= p.length) (hl : l.length <= 1000000000) (ha : a <= 1000000000) (ho : allL OkB l) :
  ∃ (ss : List Sm) (b : Nat) (ex : Env), startT cd (l.drop a) = some (ss, l.drop b) /\ b <= max a l.length /\ ss.length <= 1 /\ (ex = [(8, .undef)] \/ ex = [(33, .v (.bool false))]) /\
   evL (X25 lo p q) loopW (pc b25 0 2) (args0 [.ptr p.length 0, .ptr (p.length + (q.length + 1)) 0], H25 p q l a c []) = some (.normal, NE25 p q ex, H25 p q l b c ss) := by
 have hlo2 : lo <= p.length + (q.length + 1) := by omega
 have hlo3 : lo <= p.length + (q.length + 1 + 1) := by omega
 have hlo4 : lo <= p.length + (q.length + 1 + 1 + 1) := by omega
 have n0 : ((0 : Nat) : Int) = 0 := rfl
 have c35 := fun (lo : Nat) q (hlo : lo <= p.length + (q.length + 1)) => f35u (lo := lo) (p := p) (q := q) (k := 0) (a := a) hlo hl (by omega)
 simp only [n0, Nat.add_zero] at c35
 have hql : ∀ c' : Ob, (q ++ [c']).length = q.length + 1 := fun c' => by simp
 have c28 := fun q => f28 (q := q) (k := 0) (a := a) (s := [42]) hlo hl (by omega) ho (by_one (by omega) (by omega))
 have s1 : Rul.bs [42] = ⟨#[42]⟩ := rfl
 simp only [n0, Nat.add_zero, dl_one, s1] at c28
 have hw1 : IntKind.i64.wrap ((a : Int) + 1) = ((a + 1 : Nat) : Int) := wrap_succ (by omega)
 have e0 : smsC [] = [] := by rw [smsC]
 have n8 : ((([] : List (List V)).all fun x => x.length == 8)) = true := rfl
 have hlt : ∀ k : Int, (tk (l.drop a)).k = k -> k ≠ 0 -> a + 1 <= max a l.length := fun k hk h0 => by
  have := tk_lt (l := l) (i := a) (by omega)
  omega
 unfold startT
 rw [drop_tail]
 cases hk : (tk (l.drop a)).k == 1 with
 | true =>
  have hle := hlt 1 (by simpa using hk) (by decide)
  generalize tk (l.drop a) = t at *
  rw [if_pos rfl, if_pos (show cd.nm t.b = true from rfl)]
  refine ⟨_, a + 1, [(8, .undef)], rfl, hle, Nat.le_refl _, .inl rfl, ?_⟩
  simp only [H25, PO, e0, smsC, smV, cxsC, row] at c35 ⊢
  simp only [go_sem, b25, Tryd.f25, NE25, hlo, hlo2, hlo3, hlo4, c35, hql, Nat.le_refl, hk, hw1, n8]
  all_goals rfl
 | false =>
  rw [if_neg (by simp)]
  cases hd : isD (tk (l.drop a)) 42 with
  | true =>
   have k9 : (tk (l.drop a)).k = 9 := by
    unfold isD at hd
    simp only [Bool.and_eq_true, beq_iff_eq] at hd
    exact hd.1
   have hle := hlt 9 k9 (by decide)
   simp only [hd] at c28
   generalize tk (l.drop a) = t at *
   rw [if_pos rfl]
   refine ⟨_, a + 1, [(8, .undef)], rfl, hle, Nat.le_refl _, .inl rfl, ?_⟩
   simp only [H25, PO, e0, smsC, smV, cxsC, row] at c35 ⊢
   simp only [go_sem, b25, Tryd.f25, NE25, hlo, hlo2, hlo3, hlo4, c35, hql, Nat.le_refl, c28, hk, hw1, n8]
   all_goals rfl
  | false =>
   simp only [hd] at c28
   generalize tk (l.drop a) = t at *
   rw [if_neg (by simp)]
   refine ⟨_, a, [(33, .v (.bool false))], rfl, by omega, by simp, .inr rfl, ?_⟩
   simp only [H25, PO, e0, row] at c35 ⊢
   simp only [go_sem, b25, Tryd.f25, NE25, hlo, hlo2, hlo3, hlo4, c35, hql, Nat.le_refl, c28, hk]
   all_goals rfl
theorem f25 {c : Int} (hl : l.length <= 1000000000) (ha : a <= 1000000000) (ho : allL OkB l) (hn : nodesL l <= 900000000) (hs : ∀ v ∈ l, v.k = 2 -> C11 sub v.ks) (hlo : lo <= p.length) :
  match compoundT cd sub (l.drop a) with
  | none => ∃ b ss, b <= max a l.length /\ E lo 25 [.ptr p.length 0, .ptr (p.length + (q.length + 1)) 0] (p ++ Rd l a :: (q ++ [PO c []])) = some (.v (.bool false), p ++ Rd l b :: (q ++ [PO c ss]))
  | some (ss, r) => ∃ b, b <= max a l.length /\ l.drop b = r /\ E lo 25 [.ptr p.length 0, .ptr (p.length + (q.length + 1)) 0] (p ++ Rd l a :: (q ++ [PO c []])) = some (.v (.bool true), p ++ Rd l b :: (q ++ [PO c ss])) := by
 have hlen : (p ++ Rd l a :: (q ++ [PO c []])).length = p.length + (q.length + 1 + 1) := by simp
 obtain ⟨ss, b, ex, h1, h2, h3, hex, hA⟩ := p25a (q := q) (c := c) hlo hl ha ho
 have hL := loop25 (q := q) (c := c) hl ho hn hs hlo ((l.drop b).length + 1) b ss ex (by omega) (by rw [List.length_drop]; omega) (by omega) hex
 unfold compoundT
 rw [h1]
 simp only
 have run : ∀ {ok : Bool} {b' : Nat} {ss' : List Sm}, loopW (evCode (X25 lo p q) loopW l25x0) (NE25 p q ex, H25 p q l b c ss) = some (.ret, [(4, .v (.bool ok))], H25 p q l b' c ss') ->
   E lo 25 [.ptr p.length 0, .ptr (p.length + (q.length + 1)) 0] (p ++ Rd l a :: (q ++ [PO c []])) = some (.v (.bool ok), p ++ Rd l b' :: (q ++ [PO c ss'])) := by
  intro ok b' ss' h
  have hB : evL (X25 lo p q) loopW (pc b25 2 1) (NE25 p q ex, H25 p q l b c ss) = some (.ret, [(4, .v (.bool ok))], H25 p q l b' c ss') := by
   simp only [l25x0, b25, Tryd.f25, loopAt, loops, bodyOf, go_sem] at h
   simp only [go_sem, b25, Tryd.f25, h]
   all_goals rfl
  rw [e25 (by simp) (by rfl), hlen, pc_in, pc_go _ _ _ _ 0 2, hA, pc_go _ _ _ _ _ 1, hB, pc_r]
  simp only [H25, go_sem]
  all_goals rfl
 cases hx : simplesT cd sub ((l.drop b).length + 1) (l.drop b) ss with
 | none =>
  rw [hx] at hL
  obtain ⟨b', ss', i1, i2⟩ := hL
  exact ⟨b', ss', by omega, run i2⟩
 | some y =>
  obtain ⟨ss', r⟩ := y
  rw [hx] at hL
  obtain ⟨b', i1, i2, i3⟩ := hL
  have hr := run i3
  simp only
  cases he : ss'.isEmpty with
  | true =>
   rw [if_pos rfl]
   have : decide (0 < ss'.length) = false := by rw [List.isEmpty_iff.1 he]; rfl
   rw [this] at hr
   exact ⟨b', ss', by omega, hr⟩
  | false =>
   rw [if_neg (by simp)]
   have : decide (0 < ss'.length) = true := by
    rw [decide_eq_true_iff]
    rcases Nat.eq_zero_or_pos ss'.length with h | h
    ·rw [List.length_eq_zero_iff.1 h] at he; cases he
    ·exact h
   rw [this] at hr
   exact ⟨b', by omega, i2, hr⟩
end
end Go.Lift.Q1
end

section
open Go.Proofs
namespace Go.Lift.Q1
open Rul
open Utf (By)
open Sel (tk tz isD db Sm Cp smV smsC cpV cpsC cpsC_map cpsC_len cxV cxsC compoundT compound_some combT comb_some complexF complexT cd)
variable [MX]
section
variable {lo a : Nat} {l : List CV} {p q : List Ob} {sub : List CV -> Option (List Sel.Cx)}
abbrev CO (ow : Own) (ps : List Cp) : Ob := .cells [.list ow (cpsC ps)]
noncomputable abbrev X18 (lo : Nat) (p q : List Ob) : Lift.Cx := ⟨Tryd.prog, E, lo, p.length + (q.length + 1), h18⟩
theorem cpsC_all (l : List Cp) : ((cpsC l).all fun x => x.length == 2) = true := by
 rw [cpsC_map, List.all_eq_true]
 intro x hx
 obtain ⟨⟨c, ss⟩, _, rfl⟩ := List.mem_map.1 hx
 rw [cpV]; rfl
theorem cpsC_ibr (l : List Cp) : isByteRow (cpsC l) = false := by
 cases l with
 | nil => rw [cpsC]; rfl
 | cons s r =>
  obtain ⟨c, ss⟩ := s
  rw [cpsC, cpV]; rfl
theorem cpsC_snoc (l : List Cp) (s : Cp) : cpsC (l ++ [s]) = cpsC l ++ [cpV s] := by
 rw [cpsC_map, cpsC_map]; simp
abbrev NE18 (p q : List Ob) (c : Int) : Env := [(0, .ptr p.length 0), (2, .ptr (p.length + (q.length + 1)) 0), (4, .ptr (p.length + (q.length + 1 + 1)) 0), (5, .v (.int .i64 c))]
abbrev H18 (p q : List Ob) (l : List CV) (a : Nat) (ps : List Cp) : Heap := p ++ Rd l a :: (q ++ [CO .yes [], CO .yes ps])
abbrev R18 (p q : List Ob) (l : List CV) (b : Nat) (ok : Bool) (ow : Own) (xs ps : List Cp) : Option (Ex × St) := some (.ret, [(2, .ptr (p.length + (q.length + 1)) 0), (3, .v (.bool ok))], p ++ Rd l b :: (q ++ [CO ow xs, CO .yes ps]))
theorem r18a {c : Int} {ps : List Cp} {ss : List Sm} {b : Nat} (hlo : lo <= p.length)
  (c25 : E lo 25 [.ptr p.length 0, .ptr (p.length + ((q ++ [CO .yes [], CO .yes ps]).length + 1)) 0] (p ++ Rd l a :: ((q ++ [CO .yes [], CO .yes ps]) ++ [PO c []])) = some (.v (.bool false), p ++ Rd l b :: ((q ++ [CO .yes [], CO .yes ps]) ++ [PO c ss]))) :
  evCode (X18 lo p q) loopW l18x0 (NE18 p q c, H18 p q l a ps) = R18 p q l b false .yes [] ps := by
 have hlo2 : lo <= p.length + (q.length + 1) := by omega
 have hlo3 : lo <= p.length + (q.length + 1 + 1) := by omega
 have hlo4 : lo <= p.length + (q.length + 1 + 1 + 1) := by omega
 have hlo5 : lo <= p.length + (q.length + 2 + 1) := by omega
 have e0 : cpsC [] = [] := by rw [cpsC]
 have e1 : smsC [] = [] := by rw [smsC]
 have hq : (q ++ [CO .yes [], CO .yes ps]).length = q.length + 2 := by simp
 have hkp : (decide (0 < q.length + 1 + 2) && decide (q.length + 1 + 1 < q.length + 1 + 2)) = true := by simp
 rw [hq, List.append_assoc, List.append_assoc] at c25
 simp only [H18, R18, CO, PO, e0, e1, List.cons_append, List.nil_append] at c25 ⊢
 generalize smsC ss = SS at *
 generalize cpsC ps = PS at *
 simp only [go_sem, l18x0, b18, Tryd.f18, NE18, hlo, hlo2, hlo3, hlo4, hlo5, hkp, c25]
 all_goals rfl
section
variable {c : Int} {ps : List Cp} {ss : List Sm} {b : Nat}
variable (hlo : lo <= p.length) (hl : l.length <= 1000000000) (hb : b <= 1000000000) (ho : allL OkB l) (hps : ps.length <= 1000000001)
  (c25 : E lo 25 [.ptr p.length 0, .ptr (p.length + ((q ++ [CO .yes [], CO .yes ps]).length + 1)) 0] (p ++ Rd l a :: ((q ++ [CO .yes [], CO .yes ps]) ++ [PO c []])) = some (.v (.bool true), p ++ Rd l b :: ((q ++ [CO .yes [], CO .yes ps]) ++ [PO c ss])))
include hlo hl hb ho hps c25
theorem r18b (he : (l.drop b).isEmpty = true) :
  evCode (X18 lo p q) loopW l18x0 (NE18 p q c, H18 p q l a ps) = R18 p q l b true .no (ps ++ [.mk c ss]) (ps ++ [.mk c ss]) := by
 have hlo2 : lo <= p.length + (q.length + 1) := by omega
 have hlo3 : lo <= p.length + (q.length + 1 + 1) := by omega
 have hlo4 : lo <= p.length + (q.length + 1 + 1 + 1) := by omega
 have hlo5 : lo <= p.length + (q.length + 2 + 1) := by omega
 have e0 : cpsC [] = [] := by rw [cpsC]
 have e1 : smsC [] = [] := by rw [smsC]
 have hq : (q ++ [CO .yes [], CO .yes ps]).length = q.length + 2 := by simp
 have hkp : (decide (0 < q.length + 1 + 2) && decide (q.length + 1 + 1 < q.length + 1 + 2)) = true := by simp
 have ra := cpsC_all ps
 have rl := cpsC_len ps
 have ri := cpsC_ibr ps
 have o1 : (ps.length + 1) * 32 <= 140737488355328 := by omega
 have o2 : ps.length <= 9223372036854775806 := by omega
 have c26 := fun q => f26 (a := b) (l := l) (q := q) hlo
 rw [hq, List.append_assoc, List.append_assoc] at c25
 simp only [H18, R18, CO, PO, e0, e1, cpsC_snoc, cpV, List.cons_append, List.nil_append] at c25 ⊢
 generalize smsC ss = SS at *
 generalize cpsC ps = PS at *
 simp only [go_sem, l18x0, b18, Tryd.f18, NE18, hlo, hlo2, hlo3, hlo4, hlo5, hkp, c25, ra, rl, ri, o1, o2, c26, he]
 all_goals rfl
theorem r18c (he : (l.drop b).isEmpty = false) :
  match combT (l.drop b) with
  | none => ∃ b', b' <= max b l.length /\ evCode (X18 lo p q) loopW l18x0 (NE18 p q c, H18 p q l a ps) = R18 p q l b' false .yes [] (ps ++ [.mk c ss])
  | some (c', r) => ∃ b', b' <= max b l.length /\ l.drop b' = r /\ evCode (X18 lo p q) loopW l18x0 (NE18 p q c, H18 p q l a ps) = some (.normal, NE18 p q c', H18 p q l b' (ps ++ [.mk c ss])) := by
 have hlo2 : lo <= p.length + (q.length + 1) := by omega
 have hlo3 : lo <= p.length + (q.length + 1 + 1) := by omega
 have hlo4 : lo <= p.length + (q.length + 1 + 1 + 1) := by omega
 have hlo5 : lo <= p.length + (q.length + 2 + 1) := by omega
 have e0 : cpsC [] = [] := by rw [cpsC]
 have e1 : smsC [] = [] := by rw [smsC]
 have hq : (q ++ [CO .yes [], CO .yes ps]).length = q.length + 2 := by simp
 have hkp : (decide (0 < q.length + 1 + 2) && decide (q.length + 1 + 1 < q.length + 1 + 2)) = true := by simp
 have ra := cpsC_all ps
 have rl := cpsC_len ps
 have ri := cpsC_ibr ps
 have o1 : (ps.length + 1) * 32 <= 140737488355328 := by omega
 have o2 : ps.length <= 9223372036854775806 := by omega
 have n0 : ((0 : Nat) : Int) = 0 := rfl
 have c26 := fun q => f26 (a := b) (l := l) (q := q) hlo
 obtain ⟨h1, h2, h3⟩ := bN_facts (a := b) hl (by omega)
 have c27 := fun q => f27u (a := b) (lo := lo) (p := p) (q := q) hl (by omega) hlo
 generalize bN l b = b1 at *
 have c28a := fun q => f28 (q := q) (k := 0) (a := b1) (s := [62]) hlo hl (by omega) ho (by_one (by omega) (by omega))
 have c28b := fun q => f28 (q := q) (k := 0) (a := b1) (s := [43]) hlo hl (by omega) ho (by_one (by omega) (by omega))
 have c28c := fun q => f28 (q := q) (k := 0) (a := b1) (s := [126]) hlo hl (by omega) ho (by_one (by omega) (by omega))
 have s1 : Rul.bs [62] = ⟨#[62]⟩ := rfl
 have s2 : Rul.bs [43] = ⟨#[43]⟩ := rfl
 have s3 : Rul.bs [126] = ⟨#[126]⟩ := rfl
 simp only [n0, Nat.add_zero, dl_one, s1] at c28a
 simp only [n0, Nat.add_zero, dl_one, s2] at c28b
 simp only [n0, Nat.add_zero, dl_one, s3] at c28c
 have hw1 : IntKind.i64.wrap ((b1 : Int) + 1) = ((b1 + 1 : Nat) : Int) := wrap_succ (by omega)
 obtain ⟨k1, k2, k3⟩ := bN_facts (a := b1 + 1) hl (by omega)
 have c27b := fun q => f27u (a := b1 + 1) (lo := lo) (p := p) (q := q) hl (by omega) hlo
 have hle : (∃ c, isD (tk (l.drop b1)) c = true) -> b1 + 1 <= max b l.length := by
  rintro ⟨c, hc⟩
  have k9 : (tk (l.drop b1)).k = 9 := by
   unfold isD at hc
   simp only [Bool.and_eq_true, beq_iff_eq] at hc
   exact hc.1
  have := tk_lt (l := l) (i := b1) (by omega)
  omega
 unfold combT
 rw [<- h3, drop_tail, <- k3]
 generalize bN l (b1 + 1) = b2 at *
 generalize tk (l.drop (b1 + 1)) = u at *
 generalize tk (l.drop b1) = t at *
 generalize tk (l.drop b) = t0 at *
 rw [hq, List.append_assoc, List.append_assoc] at c25
 simp only [H18, R18, CO, PO, e0, e1, cpsC_snoc, cpV, List.cons_append, List.nil_append] at c25 ⊢
 generalize smsC ss = SS at *
 generalize cpsC ps = PS at *
 cases ha : isD t 62 with
 | true =>
  have hle := hle ⟨_, ha⟩
  rw [if_pos rfl]
  refine ⟨b2, by omega, rfl, ?_⟩
  simp only [go_sem, l18x0, b18, Tryd.f18, NE18, hlo, hlo2, hlo3, hlo4, hlo5, hkp, c25, ra, rl, ri, o1, o2, c26, he, c27, c28a, ha, hw1, c27b]
  all_goals rfl
 | false =>
 rw [if_neg (by simp)]
 cases hb1 : isD t 43 with
 | true =>
  have hle := hle ⟨_, hb1⟩
  rw [if_pos rfl]
  refine ⟨b2, by omega, rfl, ?_⟩
  simp only [go_sem, l18x0, b18, Tryd.f18, NE18, hlo, hlo2, hlo3, hlo4, hlo5, hkp, c25, ra, rl, ri, o1, o2, c26, he, c27, c28a, c28b, ha, hb1, hw1, c27b]
  all_goals rfl
 | false =>
 rw [if_neg (by simp)]
 cases hc1 : isD t 126 with
 | true =>
  have hle := hle ⟨_, hc1⟩
  rw [if_pos rfl]
  refine ⟨b2, by omega, rfl, ?_⟩
  simp only [go_sem, l18x0, b18, Tryd.f18, NE18, hlo, hlo2, hlo3, hlo4, hlo5, hkp, c25, ra, rl, ri, o1, o2, c26, he, c27, c28a, c28b, c28c, ha, hb1, hc1, hw1, c27b]
  all_goals rfl
 | false =>
 rw [if_neg (by simp)]
 cases hf : t0.k == 13 with
 | true =>
  rw [if_pos rfl]
  refine ⟨b1, h1, rfl, ?_⟩
  simp only [go_sem, l18x0, b18, Tryd.f18, NE18, hlo, hlo2, hlo3, hlo4, hlo5, hkp, c25, ra, rl, ri, o1, o2, c26, he, c27, c28a, c28b, c28c, ha, hb1, hc1, hf]
  all_goals rfl
 | false =>
  rw [if_neg (by simp)]
  refine ⟨b1, h1, ?_⟩
  simp only [go_sem, l18x0, b18, Tryd.f18, NE18, hlo, hlo2, hlo3, hlo4, hlo5, hkp, c25, ra, rl, ri, o1, o2, c26, he, c27, c28a, c28b, c28c, ha, hb1, hc1, hf]
  all_goals rfl
end
theorem loop18 (hl : l.length <= 900000000) (ho : allL OkB l) (hn : nodesL l <= 900000000) (hs : ∀ v ∈ l, v.k = 2 -> C11 sub v.ks) (hlo : lo <= p.length) : ∀ (n a : Nat) (c : Int) (ps : List Cp),
  (l.drop a).length < n -> ps.length + (l.drop a).length <= 1000000001 -> a <= 900000000 ->
  match complexF cd sub n c (l.drop a) ps with
  | none => ∃ b ps', loopW (evCode (X18 lo p q) loopW l18x0) (NE18 p q c, H18 p q l a ps) = R18 p q l b false .yes [] ps'
  | some (.mk ps') => ∃ b, loopW (evCode (X18 lo p q) loopW l18x0) (NE18 p q c, H18 p q l a ps) = R18 p q l b true .no ps' ps' := by
 intro n
 induction n with
 | zero => intro a c ps h; omega
 | succ n ih =>
  intro a c ps h1 h2 h3
  have h25 := f25 (lo := lo) (p := p) (q := q ++ [CO .yes [], CO .yes ps]) (a := a) (c := c) (sub := sub) (by omega) (by omega) ho hn hs hlo
  rw [complexF]
  cases hx : compoundT cd sub (l.drop a) with
  | none =>
   rw [hx] at h25
   obtain ⟨b, ss, hb, c25⟩ := h25
   simp only
   exact ⟨b, ps, by rw [loop_eq, r18a hlo c25]; rfl⟩
  | some y =>
   obtain ⟨ss, r⟩ := y
   rw [hx] at h25
   obtain ⟨b, hb, hbr, c25⟩ := h25
   obtain ⟨_, _, k3⟩ := compound_some hx
   subst hbr
   simp only
   cases he : (l.drop b).isEmpty with
   | true =>
    rw [if_pos rfl]
    simp only
    exact ⟨b, by rw [loop_eq, r18b hlo (by omega) (by omega) ho (by omega) c25 he]; rfl⟩
   | false =>
    rw [if_neg (by simp)]
    have hc := r18c hlo (by omega) (by omega) ho (by omega) c25 he
    cases hy : combT (l.drop b) with
    | none =>
     rw [hy] at hc
     obtain ⟨b', _, hr⟩ := hc
     simp only
     exact ⟨b', _, by rw [loop_eq, hr]; rfl⟩
    | some z =>
     obtain ⟨c', r⟩ := z
     rw [hy] at hc
     obtain ⟨b', hb', hbr, hr⟩ := hc
     obtain ⟨_, _, m3⟩ := comb_some hy
     have m3 := m3.length_le
     subst hbr
     have ih := ih b' c' (ps ++ [.mk c ss]) (by omega) (by rw [List.length_append, List.length_singleton]; omega) (by omega)
     simp only
     cases hz : complexF cd sub n c' (l.drop b') (ps ++ [.mk c ss]) with
     | none =>
      rw [hz] at ih
      obtain ⟨b2, ps', i1⟩ := ih
      exact ⟨b2, ps', by rw [loop_eq, hr, loop_n]; exact i1⟩
     | some w =>
      obtain ⟨ps'⟩ := w
      rw [hz] at ih
      obtain ⟨b2, i1⟩ := ih
      exact ⟨b2, by rw [loop_eq, hr, loop_n]; exact i1⟩
theorem fin18 {xs ps : List Cp} {ow : Own} {ok : Bool} {b : Nat} (how : ow = .no \/ ow = .yes) : fin Tryd.prog [.cell 2 39, .tmp 3] (p.length + (q.length + 1)) (R18 p q l b ok ow xs ps) = some (.tup [.agg [.list .no (cpsC xs)], .v (.bool ok)], p ++ Rd l b :: q) := by
 rcases how with rfl | rfl
 ·simp only [R18, CO, go_sem]
  all_goals rfl
 ·simp only [R18, CO, go_sem]
  all_goals rfl
theorem f18 (hl : l.length <= 900000000) (ho : allL OkB l) (hn : nodesL l <= 900000000) (hs : ∀ v ∈ l, v.k = 2 -> C11 sub v.ks) (hlo : lo <= p.length) :
  match complexT cd sub l with
  | none => ∃ b, E lo 18 [.ptr p.length 0] (p ++ Rd l 0 :: q) = some (.tup [.agg [.list .no []], .v (.bool false)], p ++ Rd l b :: q)
  | some c => ∃ b, E lo 18 [.ptr p.length 0] (p ++ Rd l 0 :: q) = some (.tup [.agg (cxV c), .v (.bool true)], p ++ Rd l b :: q) := by
 have hlo2 : lo <= p.length + (q.length + 1) := by omega
 have hlo3 : lo <= p.length + (q.length + 1 + 1) := by omega
 have hlen : (p ++ Rd l 0 :: q).length = p.length + (q.length + 1) := by simp
 have e0 : cpsC [] = [] := by rw [cpsC]
 have hA : evL (X18 lo p q) loopW (pc b18 0 3) (args0 [.ptr p.length 0], p ++ Rd l 0 :: q) = some (.normal, NE18 p q 0, H18 p q l 0 []) := by
  simp only [H18, CO, e0]
  simp only [go_sem, b18, Tryd.f18, NE18, hlo, hlo2, hlo3]
  all_goals rfl
 have hL := loop18 (q := q) hl ho hn hs hlo (l.length + 1) 0 0 [] (by rw [List.drop_zero]; omega) (by rw [List.drop_zero]; simp; omega) (by omega)
 have run : ∀ {ok : Bool} {b : Nat} {ow : Own} {xs ps : List Cp}, (ow = .no \/ ow = .yes) -> loopW (evCode (X18 lo p q) loopW l18x0) (NE18 p q 0, H18 p q l 0 []) = R18 p q l b ok ow xs ps ->
   E lo 18 [.ptr p.length 0] (p ++ Rd l 0 :: q) = some (.tup [.agg [.list .no (cpsC xs)], .v (.bool ok)], p ++ Rd l b :: q) := by
  intro ok b ow xs ps how h
  have hB : evL (X18 lo p q) loopW (pc b18 3 1) (NE18 p q 0, H18 p q l 0 []) = R18 p q l b ok ow xs ps := by
   simp only [l18x0, b18, Tryd.f18, loopAt, loops, bodyOf, go_sem] at h
   simp only [go_sem, b18, Tryd.f18, h]
   all_goals rfl
  rw [e18 (by simp) (by rfl), hlen, pc_in, pc_go _ _ _ _ 0 3, hA, pc_go _ _ _ _ _ 1, hB, pc_r]
  exact fin18 how
 unfold complexT
 rw [List.drop_zero] at hL
 cases hx : complexF cd sub (l.length + 1) 0 l [] with
 | none =>
  rw [hx] at hL
  obtain ⟨b, ps', h⟩ := hL
  have := run (.inr rfl) h
  rw [e0] at this
  exact ⟨b, this⟩
 | some c =>
  obtain ⟨ps⟩ := c
  rw [hx] at hL
  obtain ⟨b, h⟩ := hL
  have := run (.inl rfl) h
  simp only
  rw [cxV]
  exact ⟨b, this⟩
end
end Go.Lift.Q1
end

section
open Go.Proofs
namespace Go.Lift.Q1
variable [MX]
open Utf
theorem round67 {lo : Nat} {b : List Int} {h : Heap} {i n : Nat} {r low high c : Int} (hc : b[i + 1]? = some c) (hi : i < n) (hn : n <= 3) (hb : b.length <= 140737488355328) (hl : i + 1 < b.length)
  (c0 : 0 <= c) (c1 : c <= 255) (r0 : 0 <= r) (r1 : r <= 1000000) (hx : (decide (c < low) || decide (high < c)) = false) :
  evCode ⟨Tryd.prog, E, lo, h.length, h67⟩ loopW l67x0 ([(0, .list .no (ri .u8 b)), (5, .v (.int .u8 low)), (6, .v (.int .u8 high)), (7, .v (.int .i64 n)), (8, .v (.int .i32 r)), (58, .v (.int .i64 n)), (59, .v (.int .i64 i))], h) =
   some (.normal, [(0, .list .no (ri .u8 b)), (5, .v (.int .u8 128)), (6, .v (.int .u8 191)), (7, .v (.int .i64 n)), (8, .v (.int .i32 (r * 64 + c % 64))), (58, .v (.int .i64 n)), (59, .v (.int .i64 (i + 1 : Nat)))], h) := by
 have hd : decide ((i : Int) < n) = true := by simpa using hi
 have hw : IntKind.i64.wrap ((i : Int) + 1) = ((i + 1 : Nat) : Int) := wrap_succ (by omega)
 have hg : decide ((b.length : Int) <= (i + 1 : Nat)) = false := by simp; omega
 have hx1 : decide (c < low) = false := by simp at hx; simp; omega
 have hx2 : decide (high < c) = false := by simp at hx; simp; omega
 simp only [go_sem, l67x0, b67, Tryd.f67, hd, hc, hw, hg, hx1, hx2]
 rw [shl6 r0 r1, a63 c0 c1, wrap_u8 (by omega) (by omega), wrap_i32 (n := c % 64) (by omega) (by omega), or64 r0 r1 (by omega) (by omega), wrap_i32 (by omega) (by omega)]
theorem stop67 {lo : Nat} {b : List Int} {h : Heap} {i n : Nat} {r low high : Int} (hi : i < n) (hn : n <= 3) (hb : b.length <= 140737488355328)
  (hs : b.length <= i + 1 \/ ∃ c, b[i + 1]? = some c /\ i + 1 < b.length /\ (c < low \/ high < c)) :
  evCode ⟨Tryd.prog, E, lo, h.length, h67⟩ loopW l67x0 ([(0, .list .no (ri .u8 b)), (5, .v (.int .u8 low)), (6, .v (.int .u8 high)), (7, .v (.int .i64 n)), (8, .v (.int .i32 r)), (58, .v (.int .i64 n)), (59, .v (.int .i64 i))], h) =
   some (.ret, [(2, .v (.int .i32 65533)), (3, .v (.int .i64 (i + 1 : Nat)))], h) := by
 have hd : decide ((i : Int) < n) = true := by simpa using hi
 have hw : IntKind.i64.wrap ((i : Int) + 1) = ((i + 1 : Nat) : Int) := wrap_succ (by omega)
 rcases hs with hs | ⟨c, hc, hl, hs⟩
 ·have hg : decide ((b.length : Int) <= (i + 1 : Nat)) = true := by simp; omega
  have hc : b[i + 1]? = none := List.getElem?_eq_none hs
  simp only [go_sem, l67x0, b67, Tryd.f67, hd, hw, hg, hc]
 ·have hg : decide ((b.length : Int) <= (i + 1 : Nat)) = false := by simp; omega
  by_cases h1 : c < low
  ·have hx1 : decide (c < low) = true := by simp; omega
   simp only [go_sem, l67x0, b67, Tryd.f67, hd, hc, hw, hg, hx1]
  ·have hx1 : decide (c < low) = false := by simp; omega
   have hx2 : decide (high < c) = true := by simp; omega
   simp only [go_sem, l67x0, b67, Tryd.f67, hd, hc, hw, hg, hx1, hx2]
def end58 (b : List Int) (n : Nat) (x : Int × Nat × Bool) (h : Heap) (z : Ex × St) : Prop :=
 if x.2.2 = true then ∃ low high, z = (.exit 3, [(0, .list .no (ri .u8 b)), (5, .v (.int .u8 low)), (6, .v (.int .u8 high)), (7, .v (.int .i64 n)), (8, .v (.int .i32 x.1)), (58, .v (.int .i64 n)), (59, .v (.int .i64 n)), (60, .v (.bool false))], h)
 else z = (.ret, [(2, .v (.int .i32 x.1)), (3, .v (.int .i64 x.2.1))], h)
theorem more_snd : ∀ (n : Nat) (r lo hi : Int) (k : Nat) (t : List Int), (more n r lo hi k t).2.2 = true -> (more n r lo hi k t).2.1 = k + n
 | 0, _, _, _, _, _, _ => rfl
 | n + 1, r, lo, hi, k, [], h => by simp [more] at h
 | n + 1, r, lo, hi, k, c :: t, h => by
  unfold more at h ⊢
  split at h
  ·simp at h
  ·rename_i hc
   rw [if_neg hc, more_snd n _ _ _ _ _ h]
   omega
theorem loop67 {lo : Nat} {b : List Int} {h : Heap} {n : Nat} (hn : n <= 3) (hb : b.length <= 140737488355328) (hy : By b) : ∀ (m i : Nat) (r low high : Int), m = n - i -> i <= n -> 0 <= r -> (r + 1) * 64 ^ m <= 64000000 ->
  ∃ z, loopW (evCode ⟨Tryd.prog, E, lo, h.length, h67⟩ loopW l67x0) ([(0, .list .no (ri .u8 b)), (5, .v (.int .u8 low)), (6, .v (.int .u8 high)), (7, .v (.int .i64 n)), (8, .v (.int .i32 r)), (58, .v (.int .i64 n)), (59, .v (.int .i64 i))], h) = some z
   /\ end58 b n (more m r low high (i + 1) (b.drop (i + 1))) h z := by
 intro m
 induction m with
 | zero =>
  intro i r low high hm hi h0 h1
  obtain rfl : i = n := by omega
  have hd : decide ((i : Int) < i) = false := by simp
  rw [loop_eq]
  simp only [go_sem, l67x0, b67, Tryd.f67, hd]
  exact ⟨_, rfl, low, high, rfl⟩
 | succ m ih =>
  intro i r low high hm hi h0 h1
  have hlt : i < n := by omega
  rw [loop_eq]
  by_cases hl : i + 1 < b.length
  ·have hc : b[i + 1]? = some b[i + 1] := List.getElem?_eq_getElem hl
   have hcy := hy b[i + 1] (List.getElem_mem hl)
   rw [List.drop_eq_getElem_cons hl]
   by_cases hx : b[i + 1] < low \/ high < b[i + 1]
   ·rw [stop67 hlt hn hb (.inr ⟨_, hc, hl, hx⟩), loop_r]
    exact ⟨_, rfl, by simp only [more, if_pos hx]; rfl⟩
   ·rw [Int.pow_succ] at h1
    have hp : (1 : Int) <= 64 ^ m := Int.pow_pos (by omega)
    have hr : (r + 1) * 64 * 64 ^ m = (r + 1) * (64 ^ m * 64) := by rw [Int.mul_assoc, Int.mul_comm 64]
    have h2 : (r + 1) * 64 * 1 <= (r + 1) * 64 * 64 ^ m := Int.mul_le_mul_of_nonneg_left hp (by omega)
    have h3 : (r * 64 + b[i + 1] % 64 + 1) * 64 ^ m <= (r + 1) * 64 * 64 ^ m := Int.mul_le_mul_of_nonneg_right (by omega) (by omega)
    rw [round67 hc hlt hn hb hl hcy.1 hcy.2 h0 (by omega) (by simp; omega), loop_n]
    have := ih (i + 1) (r * 64 + b[i + 1] % 64) 128 191 (by omega) (by omega) (by omega) (by omega)
    simpa only [more, if_neg hx] using this
  ·have hs : b.length <= i + 1 := by omega
   rw [stop67 hlt hn hb (.inl hs), loop_r, List.drop_eq_nil_of_le hs]
   exact ⟨_, rfl, rfl⟩
end Go.Lift.Q1
end

section
open Go.Proofs
namespace Go.Lift.Q1
variable [MX]
open Utf
def two (x : Int × Nat × Bool) : V := .tup [.v (.int .i32 x.1), .v (.int .i64 x.2.1)]
theorem f67a {lo : Nat} {c : Int} {t : List Int} {h : Heap} (hb : (c :: t).length <= 140737488355328) (hy : By (c :: t)) (hc : 194 <= c /\ c <= 223) :
  E lo 67 [.list .no (ri .u8 (c :: t))] h = some (two (more 1 (c % 32) 128 191 1 t), h) := by
 have hcy := hy c (List.mem_cons_self ..)
 have t0 : decide (c < 128) = false := by simp; omega
 have t1 : decide (194 <= c) = true := by simp; omega
 have t2 : decide (c <= 223) = true := by simp; omega
 have t3 : decide (224 <= c) = false := by simp; omega
 have t4 : decide (c <= 239) = true := by simp; omega
 have t5 : decide (240 <= c) = false := by simp; omega
 have t6 : decide (c <= 244) = true := by simp; omega
 have q0 : (c == 224) = false := by simp; omega
 have q1 : (c == 237) = false := by simp; omega
 have q2 : (c == 240) = false := by simp; omega
 have q3 : (c == 244) = false := by simp; omega
 have hx : (c :: t)[0]? = some c := rfl
 have hm : IntKind.i32.wrap (IntKind.u8.wrap (iand .u8 c 31)) = c % 32 := by rw [a31 hcy.1 hcy.2, wrap_u8 (by omega) (by omega), wrap_i32 (by omega) (by omega)]
 obtain ⟨z, hL, hz⟩ := loop67 (lo := lo) (b := c :: t) (h := h) (n := 1) (by omega) hb hy 1 0 (c % 32) 128 191 rfl (by omega) (by omega) (by omega)
 have hn : (c :: t).drop (0 + 1) = t := rfl
 rw [hn] at hz
 have n1 : ((1 : Nat) : Int) = 1 := rfl
 have n2 : ((2 : Nat) : Int) = 2 := rfl
 have n3 : ((3 : Nat) : Int) = 3 := rfl
 simp only [l67x0, b67, Tryd.f67, loopAt, loops, bodyOf, go_sem, n1, n2, n3] at hL
 rw [e67 (by simp) (by rfl)]
 unfold end58 at hz
 split at hz
 ·rename_i hk
  obtain ⟨low, high, rfl⟩ := hz
  simp only [n1, n2, n3] at hL
  simp only [go_sem, b67, Tryd.f67, hx, t0, t1, t2, t3, t4, t5, t6, q0, q1, q2, q3, hm, hL]
  rw [two, more_snd _ _ _ _ _ _ hk]
  rfl
 ·subst hz
  simp only [go_sem, b67, Tryd.f67, hx, t0, t1, t2, t3, t4, t5, t6, q0, q1, q2, q3, hm, hL]
  rfl
theorem f67b {lo : Nat} {c : Int} {t : List Int} {h : Heap} (hb : (c :: t).length <= 140737488355328) (hy : By (c :: t)) (hc : c = 224) :
  E lo 67 [.list .no (ri .u8 (c :: t))] h = some (two (more 2 (c % 16) 160 191 1 t), h) := by
 have hcy := hy c (List.mem_cons_self ..)
 have t0 : decide (c < 128) = false := by simp; omega
 have t1 : decide (194 <= c) = true := by simp; omega
 have t2 : decide (c <= 223) = false := by simp; omega
 have t3 : decide (224 <= c) = true := by simp; omega
 have t4 : decide (c <= 239) = true := by simp; omega
 have t5 : decide (240 <= c) = false := by simp; omega
 have t6 : decide (c <= 244) = true := by simp; omega
 have q0 : (c == 224) = true := by simp; omega
 have q1 : (c == 237) = false := by simp; omega
 have q2 : (c == 240) = false := by simp; omega
 have q3 : (c == 244) = false := by simp; omega
 have hx : (c :: t)[0]? = some c := rfl
 have hm : IntKind.i32.wrap (IntKind.u8.wrap (iand .u8 c 15)) = c % 16 := by rw [a15 hcy.1 hcy.2, wrap_u8 (by omega) (by omega), wrap_i32 (by omega) (by omega)]
 obtain ⟨z, hL, hz⟩ := loop67 (lo := lo) (b := c :: t) (h := h) (n := 2) (by omega) hb hy 2 0 (c % 16) 160 191 rfl (by omega) (by omega) (by omega)
 have hn : (c :: t).drop (0 + 1) = t := rfl
 rw [hn] at hz
 have n1 : ((1 : Nat) : Int) = 1 := rfl
 have n2 : ((2 : Nat) : Int) = 2 := rfl
 have n3 : ((3 : Nat) : Int) = 3 := rfl
 simp only [l67x0, b67, Tryd.f67, loopAt, loops, bodyOf, go_sem, n1, n2, n3] at hL
 rw [e67 (by simp) (by rfl)]
 unfold end58 at hz
 split at hz
 ·rename_i hk
  obtain ⟨low, high, rfl⟩ := hz
  simp only [n1, n2, n3] at hL
  simp only [go_sem, b67, Tryd.f67, hx, t0, t1, t2, t3, t4, t5, t6, q0, q1, q2, q3, hm, hL]
  rw [two, more_snd _ _ _ _ _ _ hk]
  rfl
 ·subst hz
  simp only [go_sem, b67, Tryd.f67, hx, t0, t1, t2, t3, t4, t5, t6, q0, q1, q2, q3, hm, hL]
  rfl
theorem f67c {lo : Nat} {c : Int} {t : List Int} {h : Heap} (hb : (c :: t).length <= 140737488355328) (hy : By (c :: t)) (hc : c = 237) :
  E lo 67 [.list .no (ri .u8 (c :: t))] h = some (two (more 2 (c % 16) 128 159 1 t), h) := by
 have hcy := hy c (List.mem_cons_self ..)
 have t0 : decide (c < 128) = false := by simp; omega
 have t1 : decide (194 <= c) = true := by simp; omega
 have t2 : decide (c <= 223) = false := by simp; omega
 have t3 : decide (224 <= c) = true := by simp; omega
 have t4 : decide (c <= 239) = true := by simp; omega
 have t5 : decide (240 <= c) = false := by simp; omega
 have t6 : decide (c <= 244) = true := by simp; omega
 have q0 : (c == 224) = false := by simp; omega
 have q1 : (c == 237) = true := by simp; omega
 have q2 : (c == 240) = false := by simp; omega
 have q3 : (c == 244) = false := by simp; omega
 have hx : (c :: t)[0]? = some c := rfl
 have hm : IntKind.i32.wrap (IntKind.u8.wrap (iand .u8 c 15)) = c % 16 := by rw [a15 hcy.1 hcy.2, wrap_u8 (by omega) (by omega), wrap_i32 (by omega) (by omega)]
 obtain ⟨z, hL, hz⟩ := loop67 (lo := lo) (b := c :: t) (h := h) (n := 2) (by omega) hb hy 2 0 (c % 16) 128 159 rfl (by omega) (by omega) (by omega)
 have hn : (c :: t).drop (0 + 1) = t := rfl
 rw [hn] at hz
 have n1 : ((1 : Nat) : Int) = 1 := rfl
 have n2 : ((2 : Nat) : Int) = 2 := rfl
 have n3 : ((3 : Nat) : Int) = 3 := rfl
 simp only [l67x0, b67, Tryd.f67, loopAt, loops, bodyOf, go_sem, n1, n2, n3] at hL
 rw [e67 (by simp) (by rfl)]
 unfold end58 at hz
 split at hz
 ·rename_i hk
  obtain ⟨low, high, rfl⟩ := hz
  simp only [n1, n2, n3] at hL
  simp only [go_sem, b67, Tryd.f67, hx, t0, t1, t2, t3, t4, t5, t6, q0, q1, q2, q3, hm, hL]
  rw [two, more_snd _ _ _ _ _ _ hk]
  rfl
 ·subst hz
  simp only [go_sem, b67, Tryd.f67, hx, t0, t1, t2, t3, t4, t5, t6, q0, q1, q2, q3, hm, hL]
  rfl
theorem f67d {lo : Nat} {c : Int} {t : List Int} {h : Heap} (hb : (c :: t).length <= 140737488355328) (hy : By (c :: t)) (hc : 225 <= c /\ c <= 239 /\ c ≠ 237) :
  E lo 67 [.list .no (ri .u8 (c :: t))] h = some (two (more 2 (c % 16) 128 191 1 t), h) := by
 have hcy := hy c (List.mem_cons_self ..)
 have t0 : decide (c < 128) = false := by simp; omega
 have t1 : decide (194 <= c) = true := by simp; omega
 have t2 : decide (c <= 223) = false := by simp; omega
 have t3 : decide (224 <= c) = true := by simp; omega
 have t4 : decide (c <= 239) = true := by simp; omega
 have t5 : decide (240 <= c) = false := by simp; omega
 have t6 : decide (c <= 244) = true := by simp; omega
 have q0 : (c == 224) = false := by simp; omega
 have q1 : (c == 237) = false := by simp; omega
 have q2 : (c == 240) = false := by simp; omega
 have q3 : (c == 244) = false := by simp; omega
 have hx : (c :: t)[0]? = some c := rfl
 have hm : IntKind.i32.wrap (IntKind.u8.wrap (iand .u8 c 15)) = c % 16 := by rw [a15 hcy.1 hcy.2, wrap_u8 (by omega) (by omega), wrap_i32 (by omega) (by omega)]
 obtain ⟨z, hL, hz⟩ := loop67 (lo := lo) (b := c :: t) (h := h) (n := 2) (by omega) hb hy 2 0 (c % 16) 128 191 rfl (by omega) (by omega) (by omega)
 have hn : (c :: t).drop (0 + 1) = t := rfl
 rw [hn] at hz
 have n1 : ((1 : Nat) : Int) = 1 := rfl
 have n2 : ((2 : Nat) : Int) = 2 := rfl
 have n3 : ((3 : Nat) : Int) = 3 := rfl
 simp only [l67x0, b67, Tryd.f67, loopAt, loops, bodyOf, go_sem, n1, n2, n3] at hL
 rw [e67 (by simp) (by rfl)]
 unfold end58 at hz
 split at hz
 ·rename_i hk
  obtain ⟨low, high, rfl⟩ := hz
  simp only [n1, n2, n3] at hL
  simp only [go_sem, b67, Tryd.f67, hx, t0, t1, t2, t3, t4, t5, t6, q0, q1, q2, q3, hm, hL]
  rw [two, more_snd _ _ _ _ _ _ hk]
  rfl
 ·subst hz
  simp only [go_sem, b67, Tryd.f67, hx, t0, t1, t2, t3, t4, t5, t6, q0, q1, q2, q3, hm, hL]
  rfl
theorem f67e {lo : Nat} {c : Int} {t : List Int} {h : Heap} (hb : (c :: t).length <= 140737488355328) (hy : By (c :: t)) (hc : c = 240) :
  E lo 67 [.list .no (ri .u8 (c :: t))] h = some (two (more 3 (c % 8) 144 191 1 t), h) := by
 have hcy := hy c (List.mem_cons_self ..)
 have t0 : decide (c < 128) = false := by simp; omega
 have t1 : decide (194 <= c) = true := by simp; omega
 have t2 : decide (c <= 223) = false := by simp; omega
 have t3 : decide (224 <= c) = true := by simp; omega
 have t4 : decide (c <= 239) = false := by simp; omega
 have t5 : decide (240 <= c) = true := by simp; omega
 have t6 : decide (c <= 244) = true := by simp; omega
 have q0 : (c == 224) = false := by simp; omega
 have q1 : (c == 237) = false := by simp; omega
 have q2 : (c == 240) = true := by simp; omega
 have q3 : (c == 244) = false := by simp; omega
 have hx : (c :: t)[0]? = some c := rfl
 have hm : IntKind.i32.wrap (IntKind.u8.wrap (iand .u8 c 7)) = c % 8 := by rw [a7 hcy.1 hcy.2, wrap_u8 (by omega) (by omega), wrap_i32 (by omega) (by omega)]
 obtain ⟨z, hL, hz⟩ := loop67 (lo := lo) (b := c :: t) (h := h) (n := 3) (by omega) hb hy 3 0 (c % 8) 144 191 rfl (by omega) (by omega) (by omega)
 have hn : (c :: t).drop (0 + 1) = t := rfl
 rw [hn] at hz
 have n1 : ((1 : Nat) : Int) = 1 := rfl
 have n2 : ((2 : Nat) : Int) = 2 := rfl
 have n3 : ((3 : Nat) : Int) = 3 := rfl
 simp only [l67x0, b67, Tryd.f67, loopAt, loops, bodyOf, go_sem, n1, n2, n3] at hL
 rw [e67 (by simp) (by rfl)]
 unfold end58 at hz
 split at hz
 ·rename_i hk
  obtain ⟨low, high, rfl⟩ := hz
  simp only [n1, n2, n3] at hL
  simp only [go_sem, b67, Tryd.f67, hx, t0, t1, t2, t3, t4, t5, t6, q0, q1, q2, q3, hm, hL]
  rw [two, more_snd _ _ _ _ _ _ hk]
  rfl
 ·subst hz
  simp only [go_sem, b67, Tryd.f67, hx, t0, t1, t2, t3, t4, t5, t6, q0, q1, q2, q3, hm, hL]
  rfl
theorem f67f {lo : Nat} {c : Int} {t : List Int} {h : Heap} (hb : (c :: t).length <= 140737488355328) (hy : By (c :: t)) (hc : 241 <= c /\ c <= 243) :
  E lo 67 [.list .no (ri .u8 (c :: t))] h = some (two (more 3 (c % 8) 128 191 1 t), h) := by
 have hcy := hy c (List.mem_cons_self ..)
 have t0 : decide (c < 128) = false := by simp; omega
 have t1 : decide (194 <= c) = true := by simp; omega
 have t2 : decide (c <= 223) = false := by simp; omega
 have t3 : decide (224 <= c) = true := by simp; omega
 have t4 : decide (c <= 239) = false := by simp; omega
 have t5 : decide (240 <= c) = true := by simp; omega
 have t6 : decide (c <= 244) = true := by simp; omega
 have q0 : (c == 224) = false := by simp; omega
 have q1 : (c == 237) = false := by simp; omega
 have q2 : (c == 240) = false := by simp; omega
 have q3 : (c == 244) = false := by simp; omega
 have hx : (c :: t)[0]? = some c := rfl
 have hm : IntKind.i32.wrap (IntKind.u8.wrap (iand .u8 c 7)) = c % 8 := by rw [a7 hcy.1 hcy.2, wrap_u8 (by omega) (by omega), wrap_i32 (by omega) (by omega)]
 obtain ⟨z, hL, hz⟩ := loop67 (lo := lo) (b := c :: t) (h := h) (n := 3) (by omega) hb hy 3 0 (c % 8) 128 191 rfl (by omega) (by omega) (by omega)
 have hn : (c :: t).drop (0 + 1) = t := rfl
 rw [hn] at hz
 have n1 : ((1 : Nat) : Int) = 1 := rfl
 have n2 : ((2 : Nat) : Int) = 2 := rfl
 have n3 : ((3 : Nat) : Int) = 3 := rfl
 simp only [l67x0, b67, Tryd.f67, loopAt, loops, bodyOf, go_sem, n1, n2, n3] at hL
 rw [e67 (by simp) (by rfl)]
 unfold end58 at hz
 split at hz
 ·rename_i hk
  obtain ⟨low, high, rfl⟩ := hz
  simp only [n1, n2, n3] at hL
  simp only [go_sem, b67, Tryd.f67, hx, t0, t1, t2, t3, t4, t5, t6, q0, q1, q2, q3, hm, hL]
  rw [two, more_snd _ _ _ _ _ _ hk]
  rfl
 ·subst hz
  simp only [go_sem, b67, Tryd.f67, hx, t0, t1, t2, t3, t4, t5, t6, q0, q1, q2, q3, hm, hL]
  rfl
theorem f67g {lo : Nat} {c : Int} {t : List Int} {h : Heap} (hb : (c :: t).length <= 140737488355328) (hy : By (c :: t)) (hc : c = 244) :
  E lo 67 [.list .no (ri .u8 (c :: t))] h = some (two (more 3 (c % 8) 128 143 1 t), h) := by
 have hcy := hy c (List.mem_cons_self ..)
 have t0 : decide (c < 128) = false := by simp; omega
 have t1 : decide (194 <= c) = true := by simp; omega
 have t2 : decide (c <= 223) = false := by simp; omega
 have t3 : decide (224 <= c) = true := by simp; omega
 have t4 : decide (c <= 239) = false := by simp; omega
 have t5 : decide (240 <= c) = true := by simp; omega
 have t6 : decide (c <= 244) = true := by simp; omega
 have q0 : (c == 224) = false := by simp; omega
 have q1 : (c == 237) = false := by simp; omega
 have q2 : (c == 240) = false := by simp; omega
 have q3 : (c == 244) = true := by simp; omega
 have hx : (c :: t)[0]? = some c := rfl
 have hm : IntKind.i32.wrap (IntKind.u8.wrap (iand .u8 c 7)) = c % 8 := by rw [a7 hcy.1 hcy.2, wrap_u8 (by omega) (by omega), wrap_i32 (by omega) (by omega)]
 obtain ⟨z, hL, hz⟩ := loop67 (lo := lo) (b := c :: t) (h := h) (n := 3) (by omega) hb hy 3 0 (c % 8) 128 143 rfl (by omega) (by omega) (by omega)
 have hn : (c :: t).drop (0 + 1) = t := rfl
 rw [hn] at hz
 have n1 : ((1 : Nat) : Int) = 1 := rfl
 have n2 : ((2 : Nat) : Int) = 2 := rfl
 have n3 : ((3 : Nat) : Int) = 3 := rfl
 simp only [l67x0, b67, Tryd.f67, loopAt, loops, bodyOf, go_sem, n1, n2, n3] at hL
 rw [e67 (by simp) (by rfl)]
 unfold end58 at hz
 split at hz
 ·rename_i hk
  obtain ⟨low, high, rfl⟩ := hz
  simp only [n1, n2, n3] at hL
  simp only [go_sem, b67, Tryd.f67, hx, t0, t1, t2, t3, t4, t5, t6, q0, q1, q2, q3, hm, hL]
  rw [two, more_snd _ _ _ _ _ _ hk]
  rfl
 ·subst hz
  simp only [go_sem, b67, Tryd.f67, hx, t0, t1, t2, t3, t4, t5, t6, q0, q1, q2, q3, hm, hL]
  rfl
end Go.Lift.Q1
end

section
open Go.Proofs
namespace Go.Lift.Q1
variable [MX]
open Utf
theorem f67 {lo : Nat} {c : Int} {t : List Int} {h : Heap} (hb : (c :: t).length <= 140737488355328) (hy : By (c :: t)) :
  E lo 67 [.list .no (ri .u8 (c :: t))] h = some (two (one (c :: t)), h) := by
 have hcy := hy c (List.mem_cons_self ..)
 have hx : (c :: t)[0]? = some c := rfl
 simp only [one]
 by_cases h0 : c < 128
 ·rw [if_pos h0]
  have t0 : decide (c < 128) = true := by simp; omega
  have hm : IntKind.i32.wrap c = c := wrap_i32 (by omega) (by omega)
  rw [e67 (by simp) (by rfl)]
  simp only [go_sem, b67, Tryd.f67, hx, t0, hm]
  rfl
 ·rw [if_neg h0]
  by_cases ha : 194 <= c /\ c <= 223
  ·have e : nd c = (1, 128, 191) := by unfold nd; rw [if_pos ha]
   rw [f67a hb hy ha, e]
   rfl
  by_cases hb1 : c = 224
  ·have e : nd c = (2, 160, 191) := by unfold nd; rw [if_neg ha, if_pos hb1]
   rw [f67b hb hy hb1, e]
   rfl
  by_cases hc1 : c = 237
  ·have e : nd c = (2, 128, 159) := by unfold nd; rw [if_neg ha, if_neg hb1, if_pos hc1]
   rw [f67c hb hy hc1, e]
   rfl
  by_cases hd1 : 225 <= c /\ c <= 239
  ·have e : nd c = (2, 128, 191) := by unfold nd; rw [if_neg ha, if_neg hb1, if_neg hc1, if_pos hd1]
   rw [f67d hb hy ⟨hd1.1, hd1.2, hc1⟩, e]
   rfl
  by_cases he1 : c = 240
  ·have e : nd c = (3, 144, 191) := by unfold nd; rw [if_neg ha, if_neg hb1, if_neg hc1, if_neg hd1, if_pos he1]
   rw [f67e hb hy he1, e]
   rfl
  by_cases hf1 : 241 <= c /\ c <= 243
  ·have e : nd c = (3, 128, 191) := by unfold nd; rw [if_neg ha, if_neg hb1, if_neg hc1, if_neg hd1, if_neg he1, if_pos hf1]
   rw [f67f hb hy hf1, e]
   rfl
  by_cases hg1 : c = 244
  ·have e : nd c = (3, 128, 143) := by unfold nd; rw [if_neg ha, if_neg hb1, if_neg hc1, if_neg hd1, if_neg he1, if_neg hf1, if_pos hg1]
   rw [f67g hb hy hg1, e]
   rfl
  have e : nd c = (0, 0, 0) := by unfold nd; rw [if_neg ha, if_neg hb1, if_neg hc1, if_neg hd1, if_neg he1, if_neg hf1, if_neg hg1]
  rw [e, if_pos rfl]
  have t0 : decide (c < 128) = false := by simp; omega
  have t1 : (decide (194 <= c) && decide (c <= 223)) = false := by simp; omega
  have t2 : (decide (224 <= c) && decide (c <= 239)) = false := by simp; omega
  have t3 : (decide (240 <= c) && decide (c <= 244)) = false := by simp; omega
  rw [e67 (by simp) (by rfl)]
  simp only [go_sem, b67, Tryd.f67, hx, t0, t1, t2, t3]
  rfl
end Go.Lift.Q1
end

section
open Go.Proofs
namespace Go.Lift.Q1
variable [MX]
open Utf
theorem f67n {lo : Nat} {b : List Int} {h : Heap} (hn : b ≠ []) (hb : b.length <= 140737488355328) (hy : By b) : E lo 67 [.list .no (ri .u8 b)] h = some (two (one b), h) := by
 cases b with
 | nil => exact absurd rfl hn
 | cons c t => exact f67 hb hy
end Go.Lift.Q1
end

section
open Go.Proofs
namespace Go.Lift.Q1
variable [MX]
open Utf
theorem round49 {lo : Nat} {b : List Int} {h : Heap} (hn : b ≠ []) (hb : b.length <= 140737488355328) (hy : By b) :
  evCode ⟨Tryd.prog, E, lo, h.length, h49⟩ loopW l49x0 ([(0, .list .no (ri .u8 b))], h) =
   if bad b = true then some (.ret, [(2, .v (.bool false))], h) else some (.normal, [(0, .list .no (ri .u8 (b.drop (one b).2.1)))], h) := by
 have hl : 0 < b.length := List.length_pos_iff.mpr hn
 have hd : decide ((0 : Int) < b.length) = true := by simpa using hl
 have hk := (one_b hn).2.2
 have hs : 0 <= ((one b).2.1 : Int) := by omega
 have fin : ∀ {v : Bool}, (bad b = v) -> (v = (bad b)) := fun h => h.symm
 cases h1 : (one b).1 == 65533 with
 | false =>
  have hv : bad b = false := by simp [bad, h1]
  simp only [go_sem, l49x0, b49, Tryd.f49, hd, f67n hn hb hy, two, hs, hk, Nat.le_refl, ri_drop, ri_take, Int.toNat_natCast, and_self, h1, hv, Bool.false_eq_true]
 | true =>
  by_cases h3 : (one b).2.1 < 3
  ·have hv : bad b = true := by simp [bad, h1, h3]
   have h4 : decide (((one b).2.1 : Int) < 3) = true := by simp; omega
   simp only [go_sem, l49x0, b49, Tryd.f49, hd, f67n hn hb hy, two, hs, hk, Nat.le_refl, ri_drop, ri_take, Int.toNat_natCast, and_self, h1, hv, h4]
  ·have h4 : decide (((one b).2.1 : Int) < 3) = false := by simp; omega
   obtain ⟨a1, a2, a3, t, he⟩ : ∃ a1 a2 a3 t, b = a1 :: a2 :: a3 :: t := by
    match b, hk with
    | [], hk => simp at hk; omega
    | [_], hk => simp at hk; omega
    | [_, _], hk => simp at hk; omega
    | a1 :: a2 :: a3 :: t, _ => exact ⟨_, _, _, _, rfl⟩
   have x1 : b[0]? = some a1 := by rw [he]; rfl
   have x2 : b[1]? = some a2 := by rw [he]; rfl
   have x3 : b[2]? = some a3 := by rw [he]; rfl
   have hv : bad b = (a1 != 239 || (a2 != 191 || a3 != 189)) := by
    have ht : isRep b = (a1 == 239 && (a2 == 191 && a3 == 189)) := by rw [he]; simp [isRep]
    simp only [bad, h1, h3, ht, decide_false, Bool.true_and, Bool.false_or, bne, Bool.not_and]
   clear he
   rw [hv]
   cases g1 : a1 != 239 with
   | true => simp only [go_sem, l49x0, b49, Tryd.f49, hd, f67n hn hb hy, two, hs, hk, Nat.le_refl, ri_drop, ri_take, Int.toNat_natCast, and_self, h1, h4, x1, x2, x3, g1]
   | false =>
    cases g2 : a2 != 191 with
    | true => simp only [go_sem, l49x0, b49, Tryd.f49, hd, f67n hn hb hy, two, hs, hk, Nat.le_refl, ri_drop, ri_take, Int.toNat_natCast, and_self, h1, h4, x1, x2, x3, g1, g2]
    | false =>
     cases g3 : a3 != 189 with
     | true => simp only [go_sem, l49x0, b49, Tryd.f49, hd, f67n hn hb hy, two, hs, hk, Nat.le_refl, ri_drop, ri_take, Int.toNat_natCast, and_self, h1, h4, x1, x2, x3, g1, g2, g3]
     | false => simp only [go_sem, l49x0, b49, Tryd.f49, hd, f67n hn hb hy, two, hs, hk, Nat.le_refl, ri_drop, ri_take, Int.toNat_natCast, and_self, h1, h4, x1, x2, x3, g1, g2, g3, Bool.false_eq_true]
theorem loop49 {lo : Nat} {h : Heap} : ∀ (n : Nat) (b : List Int), b.length <= n -> b.length <= 140737488355328 -> By b ->
  loopW (evCode ⟨Tryd.prog, E, lo, h.length, h49⟩ loopW l49x0) ([(0, .list .no (ri .u8 b))], h) =
   if whole b = true then some (.exit 0, [(0, .list .no []), (7, .v (.bool false))], h) else some (.ret, [(2, .v (.bool false))], h) := by
 have stop : loopW (evCode ⟨Tryd.prog, E, lo, h.length, h49⟩ loopW l49x0) ([(0, .list .no (ri .u8 []))], h) =
   if whole [] = true then some (.exit 0, [(0, .list .no []), (7, .v (.bool false))], h) else some (.ret, [(2, .v (.bool false))], h) := by
  rw [loop_eq]
  simp only [go_sem, l49x0, b49, Tryd.f49, whole_nil, ri_nil, List.length_nil]
  all_goals rfl
 intro n
 induction n with
 | zero =>
  intro b h1 h2 hy
  obtain rfl : b = [] := List.eq_nil_of_length_eq_zero (by omega)
  exact stop
 | succ n ih =>
  intro b h1 h2 hy
  by_cases hn : b = []
  ·subst hn; exact stop
  ·have hk := one_b hn
   have hlen : (b.drop (one b).2.1).length = b.length - (one b).2.1 := List.length_drop
   rw [loop_eq, round49 hn h2 hy, bad_eq hy hn, whole_b hn]
   cases hx : (one b).2.2 with
   | true => rw [if_neg (by simp), loop_n, ih _ (by omega) (by omega) (hy.drop _), Bool.true_and]
   | false => rw [if_pos (by simp), loop_r]; rfl
theorem f49 {lo : Nat} {b : List Int} {h : Heap} (hb : b.length <= 140737488355328) (hy : By b) : E lo 49 [.list .no (ri .u8 b)] h = some (.v (.bool (whole b)), h) := by
 rw [e49 (by simp) (by rfl)]
 have hL := loop49 (lo := lo) (h := h) b.length b (Nat.le_refl _) hb hy
 simp only [l49x0, b49, Tryd.f49, loopAt, loops, bodyOf, go_sem, ri_nil, List.drop_zero] at hL
 cases hx : whole b with
 | true =>
  rw [if_pos hx] at hL
  simp only [go_sem, b49, Tryd.f49, hL]
 | false =>
  rw [if_neg (by simp [hx])] at hL
  simp only [go_sem, b49, Tryd.f49, hL]
end Go.Lift.Q1
end

section
open Go.Proofs
namespace Go.Lift.Q1
variable [MX]
variable {lo : Nat} {h : Heap}
theorem f40 {n : Int} : E lo 40 [.v (.int .i64 n)] h = some (.v (.bool (Sel.isStep n)), h) := by
 rw [e40 (by simp) (by rfl)]
 unfold Sel.isStep
 cases h1 : decide (-1073741824 <= n) with
 | true =>
  simp only [go_sem, b40, Tryd.f40, h1]
  all_goals rfl
 | false =>
  simp only [go_sem, b40, Tryd.f40, h1]
  all_goals rfl
open Utf Spell
theorem bs_zero : (⟨#[0]⟩ : ByteArray) = bs [0] := rfl
theorem f39 {b : List Int} (hy : By b) (hl : b.length <= 1000000000) (hlo : lo <= h.length) : E lo 39 [.v (.string (bs b))] h = some (.v (.bool (sound b)), h) := by
 have c49 := f49 (lo := lo) (h := h) (b := b) (by omega) hy
 have c49b := f49 (lo := h.length) (h := h) (b := b) (by omega) hy
 have c37 := fun lo => f37 (lo := lo) (h := h) (l := b) hy (c := 0) (by omega) (by omega)
 have c37a := c37 lo; have c37b := c37 h.length
 have hb := bytes_bs hy
 rw [e39 (by simp) (by rfl)]
 unfold sound
 cases hw : whole b with
 | true =>
  rw [hw] at c49 c49b
  simp only [go_sem, b39, Tryd.f39, hlo, hb, c49, c49b, bs_zero, c37a, c37b]
  all_goals rfl
 | false =>
  rw [hw] at c49 c49b
  simp only [go_sem, b39, Tryd.f39, hlo, hb, c49, c49b, bs_zero, c37a, c37b]
  all_goals rfl
theorem f38 {b : List Int} (hy : By b) (hl : b.length <= 1000000000) (hlo : lo <= h.length) : E lo 38 [.v (.string (bs b))] h = some (.v (.bool (Sel.isName sound b)), h) := by
 have c39 := f39 (lo := lo) (h := h) hy hl hlo
 have c39b := f39 (lo := h.length) (h := h) hy hl (Nat.le_refl _)
 have qe := bs_nil_eq' b
 rw [e38 (by simp) (by rfl)]
 unfold Sel.isName
 cases b with
 | nil =>
  have q : ((bs []).toList == (⟨#[]⟩ : ByteArray).toList) = true := qe.trans (by simp)
  simp only [go_sem, b38, Tryd.f38, hlo, q, c39, c39b]
  all_goals rfl
 | cons x r =>
  have q : ((bs (x :: r)).toList == (⟨#[]⟩ : ByteArray).toList) = false := qe.trans (by simp)
  simp only [go_sem, b38, Tryd.f38, hlo, q, c39, c39b]
  all_goals rfl
end Go.Lift.Q1
end

section
open Go.Proofs
namespace Go.Lift.Q1
variable [MX]
variable {lo : Nat} {h : Heap}
open Utf Spell Sel
noncomputable abbrev X22 (lo : Nat) (h : Heap) : Go.Lift.Cx := ⟨Tryd.prog, E, lo, h.length, h29⟩
abbrev r29 (o a b : Int) (n v : List Int) (f : Bool) : Ob :=
 .cells [.v (.int .i64 0), .v (.string (bs n)), .v (.int .i64 o), .v (.string (bs v)), .v (.bool f), .list .yes [], .v (.int .i64 a), .v (.int .i64 b)]
theorem f29a {k o a b d : Int} {n v : List Int} {f : Bool} {l : List (List V)} (hlo : lo <= h.length) :
  evL (X22 lo h) loopW (pc b29 0 5) (args0 [.agg [.v (.int .i64 k), .v (.string (bs n)), .v (.int .i64 o), .v (.string (bs v)), .v (.bool f), .list .no l, .v (.int .i64 a), .v (.int .i64 b)], .v (.int .i64 d)], h) =
   some (.normal, [(1, .v (.int .i64 d)), (2, .ptr h.length 0), (5, .v (.bool true)), (6, .list .no l), (7, .ptr (h.length + 1) 0), (14, .v (.int .i64 k))],
    h ++ [.cells [.v (.int .i64 k), .v (.string (bs n)), .v (.int .i64 o), .v (.string (bs v)), .v (.bool f), .list .no l, .v (.int .i64 a), .v (.int .i64 b)], r29 o a b n v f]) := by
 have l1 : lo <= h.length + 1 := by omega
 have l2 : lo <= h.length + 2 := by omega
 simp only [go_sem, b29, Tryd.f29, hlo, l1, l2]
def fin22 (l : List (List V)) (o a b : Int) (n v : List Int) (f : Bool) : Bool := l.isEmpty && (n.isEmpty && (o == 0 && (v.isEmpty && (!f && (a == 0 && b == 0)))))
theorem f29z {g : Env} {ow : Own} {ok : Bool} {o a b : Int} {n v : List Int} {f : Bool} {l : List (List V)} {x : Ob} (ho : ow = .no \/ ow = .yes) (h5 : look g 5 = .v (.bool ok)) (h6 : look g 6 = .list ow l) (h7 : look g 7 = .ptr (h.length + 1) 0) (hll : l.length <= 1000000000) (hlo : lo <= h.length) :
  evL (X22 lo h) loopW (pc b29 6 1) (g, h ++ [x, r29 o a b n v f]) = some (.normal, [(4, .v (.bool (ok && fin22 l o a b n v f)))], h ++ [x, r29 o a b n v f]) := by
 have l1 : lo <= h.length + 1 := by omega
 have l2 : lo <= h.length + 2 := by omega
 unfold fin22
 cases ok with
 | false =>
  rw [Bool.false_and]
  rcases ho with rfl | rfl
  all_goals simp only [go_sem, b29, Tryd.f29, hlo, l1, l2, h5, h6, h7]
 | true =>
 rw [Bool.true_and]
 have ez : ((l.length : Int) == 0) = l.isEmpty := by cases l with | nil => rfl | cons y r => simp; omega
 have qn : ((bs n).toList == (⟨#[]⟩ : ByteArray).toList) = n.isEmpty := (bs_nil_eq' n).trans (by cases n <;> simp)
 have qv : ((bs v).toList == (⟨#[]⟩ : ByteArray).toList) = v.isEmpty := (bs_nil_eq' v).trans (by cases v <;> simp)
 have dz : decide ((l.length : Int) = 0) = l.isEmpty := by rw [<- ez]; rw [Bool.eq_iff_iff]; simp
 cases hz : l.isEmpty with
 | false =>
  rw [hz] at ez dz
  rw [Bool.false_and]
  rcases ho with rfl | rfl
  all_goals simp only [go_sem, b29, Tryd.f29, hlo, l1, l2, h5, h6, h7, ez, dz]
 | true =>
 rw [hz] at ez dz
 rw [Bool.true_and]
 cases hn : n.isEmpty with
 | false =>
  rw [hn] at qn
  rw [Bool.false_and]
  rcases ho with rfl | rfl
  all_goals simp only [go_sem, b29, Tryd.f29, hlo, l1, l2, h5, h6, h7, ez, dz, qn]
 | true =>
 rw [hn] at qn
 rw [Bool.true_and]
 cases h1 : o == 0 with
 | false =>
  rw [Bool.false_and]
  rcases ho with rfl | rfl
  all_goals simp only [go_sem, b29, Tryd.f29, hlo, l1, l2, h5, h6, h7, ez, dz, qn, h1]
 | true =>
 rw [Bool.true_and]
 cases hv : v.isEmpty with
 | false =>
  rw [hv] at qv
  rw [Bool.false_and]
  rcases ho with rfl | rfl
  all_goals simp only [go_sem, b29, Tryd.f29, hlo, l1, l2, h5, h6, h7, ez, dz, qn, h1, qv]
 | true =>
 rw [hv] at qv
 rw [Bool.true_and]
 cases f with
 | true =>
  rw [Bool.not_true, Bool.false_and]
  rcases ho with rfl | rfl
  all_goals simp only [go_sem, b29, Tryd.f29, hlo, l1, l2, h5, h6, h7, ez, dz, qn, h1, qv]
 | false =>
 rw [Bool.not_false, Bool.true_and]
 cases h2 : a == 0 with
 | false =>
  rw [Bool.false_and]
  rcases ho with rfl | rfl
  all_goals simp only [go_sem, b29, Tryd.f29, hlo, l1, l2, h5, h6, h7, ez, dz, qn, h1, qv, h2]
 | true =>
 rw [Bool.true_and]
 rcases ho with rfl | rfl
 all_goals simp only [go_sem, b29, Tryd.f29, hlo, l1, l2, h5, h6, h7, ez, dz, qn, h1, qv, h2]
abbrev cm22 (k o a b : Int) (n v : List Int) (f : Bool) (l : List (List V)) : Ob :=
 .cells [.v (.int .i64 k), .v (.string (bs n)), .v (.int .i64 o), .v (.string (bs v)), .v (.bool f), .list .no l, .v (.int .i64 a), .v (.int .i64 b)]
abbrev en22 (h : Heap) (k d : Int) (l : List (List V)) : Env :=
 [(1, .v (.int .i64 d)), (2, .ptr h.length 0), (5, .v (.bool true)), (6, .list .no l), (7, .ptr (h.length + 1) 0), (14, .v (.int .i64 k))]
def To22 (lo : Nat) (h : Heap) (k d o a b : Int) (n v : List Int) (f : Bool) (l : List (List V)) (ok : Bool) (l' : List (List V)) (o' a' b' : Int) (n' v' : List Int) (f' : Bool) : Prop :=
 ∃ (g : Env) (ow : Own), evL (X22 lo h) loopW (pc b29 5 1) (en22 h k d l, h ++ [cm22 k o a b n v f l, r29 o a b n v f]) = some (.normal, g, h ++ [cm22 k o a b n v f l, r29 o' a' b' n' v' f']) /\
  (ow = .no \/ ow = .yes) /\ look g 5 = .v (.bool ok) /\ look g 6 = .list ow l' /\ look g 7 = .ptr (h.length + 1) 0
variable {k d o a b : Int} {n v : List Int} {f : Bool} {l : List (List V)}
theorem k22a (hk : k = 1 \/ 9 <= k /\ k <= 13) (hlo : lo <= h.length) : To22 lo h k d o a b n v f l true l o a b n v f := by
 have l1 : lo <= h.length + 1 := by omega
 have l2 : lo <= h.length + 2 := by omega
 have hk' : k = 1 \/ k = 9 \/ k = 10 \/ k = 11 \/ k = 12 \/ k = 13 := by omega
 refine ⟨[(5, .v (.bool true)), (6, .list .no l), (7, .ptr (h.length + 1) 0), (14, .v (.int .i64 k)), (92, .v (.bool true))], .no, ?_, .inl rfl, ?_, ?_, ?_⟩
 ·rcases hk' with rfl | rfl | rfl | rfl | rfl | rfl
  all_goals
   simp only [go_sem, Int.reduceBEq, reduceIte, Bool.false_eq_true, b29, Tryd.f29, hlo, l1, l2]
 all_goals rfl
theorem k22b (hy : By n) (hl : n.length <= 1000000000) (hk : k = 2 \/ k = 3 \/ k = 4) (hlo : lo <= h.length) : To22 lo h k d o a b n v f l (Sel.isName sound n) l o a b [] v f := by
 have l1 : lo <= h.length + 1 := by omega
 have l2 : lo <= h.length + 2 := by omega
 have c38 := fun (lo : Nat) (h : Heap) (hlo : lo <= h.length) => f38 hy hl hlo
 refine ⟨[(1, .v (.int .i64 d)), (2, .ptr h.length 0), (5, .v (.bool (Sel.isName sound n))), (6, .list .no l), (7, .ptr (h.length + 1) 0), (14, .v (.int .i64 k)), (15, .v (.bool true))], .no, ?_, .inl rfl, ?_, ?_, ?_⟩
 ·rcases hk with rfl | rfl | rfl
  all_goals
   simp only [go_sem, Int.reduceBEq, reduceIte, Bool.false_eq_true, b29, Tryd.f29, hlo, l1, l2, c38]
   all_goals rfl
 all_goals rfl
theorem k22o (hk : k < 1 \/ 15 < k) (hlo : lo <= h.length) : To22 lo h k d o a b n v f l false l o a b n v f := by
 have l1 : lo <= h.length + 1 := by omega
 have l2 : lo <= h.length + 2 := by omega
 have hne : ∀ i : Int, 1 <= i -> i <= 15 -> (k == i) = false := fun i h1 h2 => by rw [beq_eq_false_iff_ne]; omega
 have q1 := hne 1 (by omega) (by omega)
 have q2 := hne 2 (by omega) (by omega)
 have q3 := hne 3 (by omega) (by omega)
 have q4 := hne 4 (by omega) (by omega)
 have q5 := hne 5 (by omega) (by omega)
 have q6 := hne 6 (by omega) (by omega)
 have q7 := hne 7 (by omega) (by omega)
 have q8 := hne 8 (by omega) (by omega)
 have q9 := hne 9 (by omega) (by omega)
 have q10 := hne 10 (by omega) (by omega)
 have q11 := hne 11 (by omega) (by omega)
 have q12 := hne 12 (by omega) (by omega)
 have q13 := hne 13 (by omega) (by omega)
 have q14 := hne 14 (by omega) (by omega)
 have q15 := hne 15 (by omega) (by omega)
 refine ⟨[(1, .undef), (2, .undef), (5, .v (.bool false)), (6, .list .no l), (7, .ptr (h.length + 1) 0), (14, .v (.int .i64 k)), (15, .undef)], .no, ?_, .inl rfl, ?_, ?_, ?_⟩
 ·simp only [go_sem, Int.reduceBEq, reduceIte, Bool.false_eq_true, b29, Tryd.f29, hlo, l1, l2, q1, q2, q3, q4, q5, q6, q7, q8, q9, q10, q11, q12, q13, q14, q15]
  all_goals rfl
 all_goals rfl
theorem k22n (hk : k = 14 \/ k = 15) (hlo : lo <= h.length) : To22 lo h k d o a b n v f l (decide (d < 65) && isStep a && isStep b) l o 0 0 n v f := by
 have l1 : lo <= h.length + 1 := by omega
 have l2 : lo <= h.length + 2 := by omega
 have c34 := fun (lo : Nat) (h : Heap) => @f40 _ lo h a
 have d34 := fun (lo : Nat) (h : Heap) => @f40 _ lo h b
 refine ⟨[(1, .undef), (2, .undef), (5, .v (.bool (decide (d < 65) && isStep a && isStep b))), (6, .list .no l), (7, .ptr (h.length + 1) 0), (14, .undef), (15, .undef)], .no, ?_, .inl rfl, ?_, ?_, ?_⟩
 ·rcases hk with rfl | rfl
  all_goals
   cases h1 : decide (d < 65) with
   | false => simp only [go_sem, Int.reduceBEq, reduceIte, Bool.false_eq_true, b29, Tryd.f29, hlo, l1, l2, c34, d34, h1, Bool.false_and] <;> rfl
   | true => 
    cases h2 : isStep a with
    | false => simp only [go_sem, Int.reduceBEq, reduceIte, Bool.false_eq_true, b29, Tryd.f29, hlo, l1, l2, c34, d34, h1, h2, Bool.true_and, Bool.false_and] <;> rfl
    | true => simp only [go_sem, Int.reduceBEq, reduceIte, Bool.false_eq_true, b29, Tryd.f29, hlo, l1, l2, c34, d34, h1, h2, Bool.true_and, Bool.false_and] <;> rfl
 all_goals rfl
theorem k22m {m : Bool} (c19 : ∀ lo h, lo <= h.length -> E lo 19 [.list .no l, .v (.int .i64 (d + 1))] h = some (.v (.bool m), h)) (hd : 0 <= d /\ d <= 100) (hk : k = 6 \/ k = 7 \/ k = 8) (hlo : lo <= h.length) : To22 lo h k d o a b n v f l m [] o a b n v f := by
 have hw : IntKind.i64.wrap (d + 1) = d + 1 := wrap_i64 (by omega) (by omega)
 have l1 : lo <= h.length + 1 := by omega
 have l2 : lo <= h.length + 2 := by omega
 refine ⟨[(1, .v (.int .i64 d)), (2, .ptr h.length 0), (5, .v (.bool m)), (6, .list .yes []), (7, .ptr (h.length + 1) 0), (14, .v (.int .i64 k)), (15, .undef)], .yes, ?_, .inr rfl, ?_, ?_, ?_⟩
 ·rcases hk with rfl | rfl | rfl
  all_goals
   simp only [go_sem, Int.reduceBEq, reduceIte, Bool.false_eq_true, b29, Tryd.f29, hlo, l1, l2, c19, hw]
   all_goals rfl
 all_goals rfl
theorem k22t (hy : By n) (hl : n.length <= 1000000000) (hy' : By v) (hl' : v.length <= 1000000000) (hlo : lo <= h.length) : To22 lo h 5 d o a b n v f l (decide (d < 65) && isName sound n && decide (0 <= o) && decide (o <= 6) && sound v && (o != 0 || v.isEmpty && !f)) l 0 a b [] [] false := by
 have l1 : lo <= h.length + 1 := by omega
 have l2 : lo <= h.length + 2 := by omega
 have c38 := fun (lo : Nat) (h : Heap) (hlo : lo <= h.length) => f38 hy hl hlo
 have c39 := fun (lo : Nat) (h : Heap) (hlo : lo <= h.length) => f39 hy' hl' hlo
 have qv : ((bs v).toList == (⟨#[]⟩ : ByteArray).toList) = v.isEmpty := (bs_nil_eq' v).trans (by cases v <;> simp)
 have no : (o != 0) = !(o == 0) := rfl
 refine ⟨[(1, .undef), (2, .undef), (5, .v (.bool (decide (d < 65) && isName sound n && decide (0 <= o) && decide (o <= 6) && sound v && (o != 0 || v.isEmpty && !f)))), (6, .list .no l), (7, .ptr (h.length + 1) 0), (14, .undef), (15, .undef)], .no, ?_, .inl rfl, ?_, ?_, ?_⟩
 ·cases h1 : decide (d < 65) with
  | false => simp only [go_sem, Int.reduceBEq, reduceIte, Bool.false_eq_true, b29, Tryd.f29, hlo, l1, l2, c38, c39, h1, Bool.false_and] <;> rfl
  | true =>
  cases h2 : isName sound n with
  | false => simp only [go_sem, Int.reduceBEq, reduceIte, Bool.false_eq_true, b29, Tryd.f29, hlo, l1, l2, c38, c39, h1, h2, Bool.false_and, Bool.true_and] <;> rfl
  | true =>
  cases h3 : decide (0 <= o) with
  | false => simp only [go_sem, Int.reduceBEq, reduceIte, Bool.false_eq_true, b29, Tryd.f29, hlo, l1, l2, c38, c39, h1, h2, h3, Bool.false_and, Bool.true_and] <;> rfl
  | true =>
  cases h4 : decide (o <= 6) with
  | false => simp only [go_sem, Int.reduceBEq, reduceIte, Bool.false_eq_true, b29, Tryd.f29, hlo, l1, l2, c38, c39, h1, h2, h3, h4, Bool.false_and, Bool.true_and] <;> rfl
  | true =>
  cases h5 : sound v with
  | false => simp only [go_sem, Int.reduceBEq, reduceIte, Bool.false_eq_true, b29, Tryd.f29, hlo, l1, l2, c38, c39, h1, h2, h3, h4, h5, Bool.false_and, Bool.true_and] <;> rfl
  | true =>
  cases h6 : o == 0 with
  | false => simp only [go_sem, Int.reduceBEq, reduceIte, Bool.false_eq_true, b29, Tryd.f29, hlo, l1, l2, c38, c39, h1, h2, h3, h4, h5, h6, no, Bool.false_and, Bool.true_and, Bool.not_false, Bool.true_or] <;> rfl
  | true =>
  cases h7 : v.isEmpty with
  | false =>
   rw [h7] at qv
   simp only [go_sem, Int.reduceBEq, reduceIte, Bool.false_eq_true, b29, Tryd.f29, hlo, l1, l2, c38, c39, h1, h2, h3, h4, h5, h6, h7, qv, no, Bool.false_and, Bool.true_and, Bool.not_true, Bool.false_or] <;> rfl
  | true =>
   rw [h7] at qv
   cases f
   all_goals simp only [go_sem, Int.reduceBEq, reduceIte, Bool.false_eq_true, b29, Tryd.f29, hlo, l1, l2, c38, c39, h1, h2, h3, h4, h5, h6, h7, qv, no, Bool.false_and, Bool.true_and, Bool.not_true, Bool.false_or] <;> rfl
 all_goals rfl
end Go.Lift.Q1
end
