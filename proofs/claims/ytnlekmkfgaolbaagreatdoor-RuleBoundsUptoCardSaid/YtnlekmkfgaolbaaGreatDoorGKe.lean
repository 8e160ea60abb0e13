/- Levels of rules that wait on a stack, and what they come to; in plain Lean. -/
import Derived.ProofKit
import Derived.Test.YtnlekmkfgaolbaaGreatDoorGKa
import Derived.Test.YtnlekmkfgaolbaaGreatDoorGKb
import Derived.Test.YtnlekmkfgaolbaaGreatDoorGKd
set_option linter.unusedVariables false
set_option linter.unusedSimpArgs false
set_option linter.unusedSectionVars false
set_option maxRecDepth 100000
set_option maxHeartbeats 4000000
section
namespace Go.Lift.Rul
def stepR (sub : List CV -> List Ru) (live top : Bool) (v : CV) (r : List CV) : List Ru × List CV :=
 if (v.k == 13 || (top && (v.k == 14 || v.k == 15))) = true then ([], r)
 else if (v.k == 3) = true then
  match (v :: r).dropWhile (nor 17 23) with
  | [] => ([], [])
  | x :: s => (if (x.k == 23 && isGroup (small v.t.b) && !deepL 64 (((v :: r).takeWhile (nor 17 23)).tail) && live) = true then [Ru.mk 2 (small v.t.b) (trim ((v :: r).takeWhile (nor 17 23)).tail) [] (sub x.ks)] else [], s)
 else
  match (v :: r).dropWhile (nor 23 23) with
  | [] => ([], [])
  | x :: s => (if (!deepL 64 ((v :: r).takeWhile (nor 23 23)) && live) = true then [Ru.mk 1 [] (trim ((v :: r).takeWhile (nor 23 23))) (decls x.ks) []] else [], s)
theorem rulesN_nil (sub : List CV -> List Ru) (live top : Bool) (n : Nat) : rulesN sub live top n [] = [] := by cases n <;> rw [rulesN]
theorem rulesN_step (sub : List CV -> List Ru) (live top : Bool) (n : Nat) (v : CV) (r : List CV) : rulesN sub live top (n + 1) (v :: r) = (stepR sub live top v r).1 ++ rulesN sub live top n (stepR sub live top v r).2 := by
 rw [rulesN]
 unfold stepR
 by_cases a : (v.k == 13 || (top && (v.k == 14 || v.k == 15))) = true
 ·rw [if_pos a, if_pos a]; rfl
 ·rw [if_neg a, if_neg a]
  by_cases b : (v.k == 3) = true
  ·rw [if_pos b, if_pos b]
   cases hx : (v :: r).dropWhile (nor 17 23) with
   | nil => simp only [rulesN_nil, List.append_nil]
   | cons x s => rfl
  ·rw [if_neg b, if_neg b]
   cases hx : (v :: r).dropWhile (nor 23 23) with
   | nil => simp only [rulesN_nil, List.append_nil]
   | cons x s => rfl
theorem nodesL_suf {l m : List CV} (h : m <:+ l) : nodesL m <= nodesL l := by
 obtain ⟨p, rfl⟩ := h
 rw [nodesL_app]; omega
theorem stepR_suf (sub : List CV -> List Ru) (live top : Bool) (v : CV) (r : List CV) : (stepR sub live top v r).2 <:+ r /\ (stepR sub live top v r).1.length <= 1 := by
 have key : ∀ (f : CV -> Bool) (x : CV) (s : List CV), (v :: r).dropWhile f = x :: s -> s <:+ r := fun f x s e => by
  rw [List.dropWhile_cons] at e
  split at e
  ·have h1 := List.dropWhile_suffix (p := f) (l := r)
   rw [e] at h1
   exact (List.suffix_cons x s).trans h1
  ·cases e; exact List.suffix_refl _
 unfold stepR
 split
 ·exact ⟨List.suffix_refl _, Nat.zero_le _⟩
 ·split
  ·split
   ·exact ⟨List.nil_suffix, Nat.zero_le _⟩
   ·rename_i x s e
    refine ⟨key _ x s e, ?_⟩
    split <;> simp
  ·split
   ·exact ⟨List.nil_suffix, Nat.zero_le _⟩
   ·rename_i x s e
    refine ⟨key _ x s e, ?_⟩
    split <;> simp
theorem stepR_dead (sub sub' : List CV -> List Ru) (top : Bool) (v : CV) (r : List CV) : stepR sub false top v r = stepR sub' false top v r := by
 unfold stepR
 simp only [Bool.and_false, Bool.false_eq_true, if_false]
def restC (n : Nat) (l : List CV) : List Ru := rulesF (65 - n) (n == 1) l
theorem restC_nil (n : Nat) : restC n [] = [] := by
 unfold restC
 cases 65 - n <;> rw [rulesF, rulesN_nil]
theorem restC_step {n : Nat} (h1 : 1 <= n) (hn : n <= 65) (v : CV) (r : List CV) : restC n (v :: r) = (stepR (restC (n + 1)) (decide (n <= 64)) (n == 1) v r).1 ++ restC n (stepR (restC (n + 1)) (decide (n <= 64)) (n == 1) v r).2 := by
 have hl := (stepR_suf (restC (n + 1)) (decide (n <= 64)) (n == 1) v r).1.length_le
 by_cases h : n <= 64
 ·have e1 : 65 - n = (64 - n) + 1 := by omega
  have e2 : restC (n + 1) = rulesF (64 - n) false := by
   funext l
   unfold restC
   rw [show 65 - (n + 1) = 64 - n by omega, show (n + 1 == 1) = false by simp; omega]
  have ed : decide (n <= 64) = true := by simpa using h
  rw [ed, e2] at hl ⊢
  have er : ∀ l, restC n l = rulesN (rulesF (64 - n) false) true (n == 1) (l.length + 1) l := fun l => by
   unfold restC; rw [e1, rulesF]
  rw [er, er, List.length_cons, rulesN_step]
  congr 1
  exact rulesN_more _ _ _ _ _ _ (by omega) (by omega)
 ·obtain rfl : n = 65 := by omega
  have ed : decide (65 <= 64) = false := rfl
  have e65 : ((65 : Nat) == 1) = false := rfl
  have hl2 := (stepR_suf (fun _ => []) false false v r).1.length_le
  rw [ed, e65, stepR_dead (restC (65 + 1)) (fun _ => [])]
  have er : ∀ l, restC 65 l = rulesN (fun _ => []) false false (l.length + 1) l := fun l => by
   unfold restC; rw [show 65 - 65 = 0 from rfl, rulesF]; rfl
  rw [er, er, List.length_cons, rulesN_step]
  congr 1
  exact rulesN_more _ _ _ _ _ _ (by omega) (by omega)
structure Fr where
 a : Nat
 q : Nat
 G : List PV
 out : List Ru
 nm : List Int
 pr : List CV
 hd : List V
def up : List Ru -> Fr -> List Fr -> List Ru
 | V, _, [] => V
 | V, f, g :: r => up (g.out ++ [Ru.mk 2 f.nm f.pr [] V] ++ restC (r.length + 1) (cvL g.G)) g r
def fin : List Fr -> List Ru
 | [] => []
 | f :: r => up (f.out ++ restC (r.length + 1) (cvL f.G)) f r
theorem up_head {f f' : Fr} (h1 : f'.nm = f.nm) (h2 : f'.pr = f.pr) (V : List Ru) : ∀ r, up V f' r = up V f r
 | [] => rfl
 | g :: r => by rw [up, up, h1, h2]
def cellsF (f : Fr) : List V := .v (.int .i64 f.a) :: .v (.int .i64 f.q) :: .list .yes (rusC f.out) :: f.hd
def lvC : List Fr -> List V
 | [] => []
 | f :: r => lvC r ++ cellsF f
def muF : List Fr -> Nat
 | [] => 0
 | f :: r => 2 * nodesL (cvL f.G) + 1 + muF r
def hdF (f : Fr) : List V := [.v (.int .i64 2), .v (.string (bs f.nm)), .list .no (rowsC f.pr), .list .yes [], .list .yes []]
def hd0 : List V := [.v (.int .i64 0), .v (.string ByteArray.empty), .list .yes [], .list .yes [], .list .yes []]
end Go.Lift.Rul
end

section
open Go.Proofs
namespace Go.Lift.P8
open Rul
open Utf (By)
variable [MX]
variable {lo : Nat} {h : Heap}
theorem lim96 {n : Nat} (h : n <= 1000000000) : (n + 1) * 96 <= 140737488355328 := by omega
theorem rusC_nil : rusC [] = [] := by rw [rusC]
theorem rusC_put (out : List Ru) (r : Ru) : rusC out ++ [ruV r] = rusC (out ++ [r]) := by rw [rusC_app, rusC, rusC_nil]
end Go.Lift.P8
end

section
open Go.Proofs
namespace Go.Lift.P8
open Rul
open Utf (By)
variable [MX]
variable {lo : Nat} {h : Heap}
abbrev N49 (t p q : Nat) (out : List Dc) : Env := [(0, .ptr t 0), (1, .v (.int .i64 p)), (2, .v (.int .i64 q)), (7, .list .yes (out.map declC))]
theorem nh2 (a b : Int) (v : PV) : noHit [a, b] v = nor a b (cvV v) := by
 unfold noHit nor
 rw [cv_k]
 simp only [List.contains_cons, List.contains_nil, Bool.or_false, Bool.not_or]
 rfl
theorem nh1 (a : Int) (v : PV) : noHit [a] v = nor a a (cvV v) := by
 unfold noHit nor
 rw [cv_k]
 simp only [List.contains_cons, List.contains_nil, Bool.or_false, Bool.and_self]
 rfl
theorem leaf_one {x : Option Int} {b : Bool} {v : PV} (hg : goodV x b v) (h : closer v.t.k = 0) : (toksV v).length = 1 := by
 cases v with
 | leaf t => rw [toksV]; rfl
 | node t ks c =>
  have hc : closer t.k ≠ 0 := by
   cases c with
   | none => exact (goodV_none.1 hg).1
   | some e => exact (goodV_some.1 hg).1
  exact absurd h hc
theorem ri2 (a b : Int) : ri .i64 [a, b] = [[.v (.int .i64 a)], [.v (.int .i64 b)]] := rfl
theorem ri1 (a : Int) : ri .i64 [a] = [[.v (.int .i64 a)]] := rfl
structure TOk (h : Heap) (l : List Tk4) (E D : List Nat) (t : Nat) : Prop where
 tx : TX h l E D t
 le : E.length = l.length
 ld : D.length = l.length
 ll : l.length <= 1000000000
 bd : ∀ p, E.getD p 0 <= l.length
theorem TX.lt {H : Heap} {l : List Tk4} {E' D : List Nat} {t : Nat} (h : TX H l E' D t) : decide (t < H.length) = true := by
 obtain ⟨e, d, _, _, h3⟩ := h
 rw [decide_eq_true_iff]
 exact (List.getElem?_eq_some_iff.1 h3).1
theorem round49 {l : List Tk4} {E' D : List Nat} {t p q : Nat} {out : List Dc} {v : PV} {r : List PV} {X : Heap} {ex : Env} (hT : TOk h l E' D t) (hlo : lo <= h.length) (hA : LaidAt l E' D p q (v :: r)) (ho : out.length <= 1000000000) (hB : ∀ y ∈ cvL (v :: r), BtV y) (hn : nodesL (cvL (v :: r)) <= 1000000000) :
  ∃ X' G' p' ex', evCode ⟨Tryz.prog, E, lo, h.length, h49⟩ loopW l49x0 (N49 t p q out ++ ex, h ++ X) = some (.normal,
   N49 t p' q (out ++ (if (v.t.k == 13 || v.t.k == 17) = true then [] else if (v.t.k == 3) = true then [] else (decl (cvL ((v :: r).takeWhile (noHit [17])))).toList)) ++ ex', h ++ X') /\ LaidAt l E' D p' q G' /\
   G' = (if (v.t.k == 13 || v.t.k == 17) = true then r else if (v.t.k == 3) = true then ((v :: r).dropWhile (noHit [17, 23])).tail else (v :: r).dropWhile (noHit [17])) := by
 obtain ⟨e, d, t1, t2, t3⟩ := hT.tx.look
 have t30 := t3 []
 rw [List.append_nil] at t30
 have tlt := hT.tx.lt
 have hl := hT.ll
 have hhd := hA.head
 have hp : p < l.length := (List.getElem?_eq_some_iff.1 hhd).1
 have hgr : (l.map row)[p]? = some (row v.t) := by rw [List.getElem?_map, hhd]; rfl
 have hpq := hA.lt
 have hql := hA.le
 have q1 : decide ((p : Int) < (q : Int)) = true := by simpa using hpq
 have hw : IntKind.i64.wrap ((p : Int) + 1) = ((p + 1 : Nat) : Int) := wrap_succ (by omega)
 obtain ⟨x0, b0, hg0⟩ := hA.good
 have hgv := (goodL_cons.1 hg0).1
 have htl := hA.tail
 simp only [row] at hgr
 by_cases h1 : (v.t.k == 13) = true
 ·have hone := leaf_one hgv (by rw [show v.t.k = 13 by simpa using h1]; rfl)
  rw [hone] at htl
  refine ⟨[], r, p + 1, [], ?_, htl, by rw [if_pos (by rw [h1]; rfl)]⟩
  rw [if_pos (by rw [h1]; rfl), List.append_nil]
  simp only [N49, List.cons_append, List.nil_append, go_sem, l49x0, b49, Tryz.f49, hlo, q1, tlt, t3, t30, hgr, hw, h1, List.append_nil]
  all_goals rfl
 have h1 : (v.t.k == 13) = false := by simpa using h1
 by_cases h2 : (v.t.k == 17) = true
 ·have hone := leaf_one hgv (by rw [show v.t.k = 17 by simpa using h2]; rfl)
  rw [hone] at htl
  refine ⟨[], r, p + 1, [], ?_, htl, by rw [if_pos (by rw [h2]; simp)]⟩
  rw [if_pos (by rw [h2]; simp), List.append_nil]
  simp only [N49, List.cons_append, List.nil_append, go_sem, l49x0, b49, Tryz.f49, hlo, q1, tlt, t3, t30, hgr, hw, h1, h2, List.append_nil]
  all_goals rfl
 have h2 : (v.t.k == 17) = false := by simpa using h2
 have h12 : ¬ (v.t.k == 13 || v.t.k == 17) = true := by rw [h1, h2]; simp
 by_cases h3 : (v.t.k == 3) = true
 ·have hk3 : v.t.k = 3 := by simpa using h3
  have hone := leaf_one hgv (by rw [hk3]; rfl)
  rw [hone] at htl
  have hnv : noHit [17, 23] v = true := by unfold noHit; rw [hk3]; rfl
  have c64 := f64 (lo := lo) (ks := [17, 23]) hT.tx hlo (by simp) hT.le hT.ld hl hT.bd htl
  have hC := htl.cut (noHit [17, 23])
  rw [ri2] at c64
  generalize hp' : p + 1 + (toksL (r.takeWhile (noHit [17, 23]))).length = p' at *
  generalize deepL 64 (cvL (r.takeWhile (noHit [17, 23]))) = fine at *
  have eG : (v :: r).dropWhile (noHit [17, 23]) = r.dropWhile (noHit [17, 23]) := by rw [List.dropWhile_cons, if_pos hnv]
  rw [eG]
  cases hG : r.dropWhile (noHit [17, 23]) with
  | nil =>
   rw [hG] at hC
   have hpq' := hC.nil
   have q2 : decide ((p' : Int) < (q : Int)) = false := by rw [decide_eq_false_iff_not]; omega
   refine ⟨[], [], p', [(41, .v (.bool false))], ?_, hC, by rw [if_neg h12, if_pos h3]; rfl⟩
   rw [if_neg h12, if_pos h3, List.append_nil]
   simp only [N49, List.cons_append, List.nil_append, go_sem, l49x0, b49, Tryz.f49, hlo, q1, q2, tlt, t3, t30, hgr, hw, h1, h2, h3, c64, List.append_nil]
   all_goals rfl
  | cons c R =>
   rw [hG] at hC
   have q2 : decide ((p' : Int) < (q : Int)) = true := by have := hC.lt; rw [decide_eq_true_iff]; omega
   have c66 := f66 (lo := lo) (q := q) hT.tx hlo hT.le hl (hT.bd p') hC.head
   rw [hC.over] at c66
   refine ⟨[], R, p' + (toksV c).length, [(41, .v (.bool true))], ?_, hC.tail, by rw [if_neg h12, if_pos h3]; rfl⟩
   rw [if_neg h12, if_pos h3, List.append_nil]
   simp only [N49, List.cons_append, List.nil_append, go_sem, l49x0, b49, Tryz.f49, hlo, q1, q2, tlt, t3, t30, hgr, hw, h1, h2, h3, c64, c66, List.append_nil]
   all_goals rfl
 have h3 : (v.t.k == 3) = false := by simpa using h3
 have h3n : ¬ (v.t.k == 3) = true := by rw [h3]; simp
 rw [if_neg h12, if_neg h3n]
 have c64 := f64 (lo := lo) (ks := [17]) hT.tx hlo (by simp) hT.le hT.ld hl hT.bd hA
 have hC := hA.cut (noHit [17])
 have hF := hA.front (noHit [17])
 rw [ri1] at c64
 have hnv : noHit [17] v = true := by
  rw [nh1]; unfold nor; rw [cv_k]; simp [bne, h2]
 have etw : (v :: r).takeWhile (noHit [17]) = v :: r.takeWhile (noHit [17]) := by rw [List.takeWhile_cons, if_pos hnv]
 have hsub : ∀ y ∈ cvL ((v :: r).takeWhile (noHit [17])), y ∈ cvL (v :: r) := fun y hy => by
  rw [cvL_take (noHit [17]) (nor 17 17) (nh1 17)] at hy
  exact (List.takeWhile_prefix _).subset hy
 have hnn : nodesL (cvL ((v :: r).takeWhile (noHit [17]))) <= nodesL (cvL (v :: r)) := by
  rw [cvL_take (noHit [17]) (nor 17 17) (nh1 17)]
  exact nodesL_prefix (List.takeWhile_prefix _)
 refine ⟨if (v.t.k == 1) = true then (match decl (cvL ((v :: r).takeWhile (noHit [17]))) with
   | some dd => [.cells (declC dd)]
   | none => [.cells (declC zd)]) else [], (v :: r).dropWhile (noHit [17]), p + (toksL ((v :: r).takeWhile (noHit [17]))).length, if (v.t.k == 1) = true then (match decl (cvL ((v :: r).takeWhile (noHit [17]))) with
   | some dd => []
   | none => [(9, .ptr h.length 0), (70, .v (.bool false))]) else [(8, .v (.int .i64 p)), (62, .v (.bool false))], ?_, hC, by rw [if_neg h12, if_neg h3n]⟩
 have hnn2 := hnn
 rw [etw] at hnn2
 generalize hfin : deepL 64 (cvL ((v :: r).takeWhile (noHit [17]))) = fine at *
 by_cases hk1 : (v.t.k == 1) = true
 ·rw [if_pos hk1, if_pos hk1]
  rw [etw] at hF
  have c76 := f76 (lo := lo) (h := h) hT.tx hlo hT.le hT.ld hl hT.bd hF (by simpa using hk1) (fun y hy => hB y (hsub y (by rw [etw]; exact hy))) (by omega)
  rw [<- etw] at c76
  generalize p + (toksL ((v :: r).takeWhile (noHit [17]))).length = p' at *
  generalize cvL ((v :: r).takeWhile (noHit [17])) = m at *
  have l1 : lo <= h.length + 1 := by omega
  cases hdc : decl m with
  | none =>
   rw [hdc] at c76
   simp only [dcR, declC, zd, rowsC_nil] at c76 ⊢
   rw [Option.toList_none, List.append_nil]
   simp only [N49, List.cons_append, List.nil_append, go_sem, l49x0, b49, Tryz.f49, hlo, l1, q1, tlt, t3, t30, hgr, h1, h2, h3, hk1, c64, c76, List.append_nil]
   all_goals rfl
  | some dd =>
   rw [hdc] at c76
   simp only [dcR, declC] at c76 ⊢
   have eo : out.map declC ++ [[.v (.string (Rul.bs dd.name)), .list .no (rowsC dd.val), .v (.bool dd.imp)]] = (out ++ [dd]).map declC := by rw [List.map_append]; rfl
   have o1 := lim48b ho
   have o2 := limC ho
   have rao := declC_all out
   have rbo := byteRow_decl out
   rw [Option.toList_some]
   simp only [N49]
   rw [<- eo]
   have rlo : (out.map declC).length = out.length := List.length_map _
   generalize out.map declC = O at *
   simp only [List.cons_append, List.nil_append, go_sem, l49x0, b49, Tryz.f49, hlo, l1, q1, tlt, t3, t30, hgr, h1, h2, h3, hk1, c64, c76, o1, o2, rao, rbo, rlo, List.append_nil]
   all_goals rfl
 ·have hk1 : (v.t.k == 1) = false := by simpa using hk1
  rw [if_neg (by rw [hk1]; simp), if_neg (by rw [hk1]; simp)]
  have hdn : decl (cvL ((v :: r).takeWhile (noHit [17]))) = none := by
   rw [etw, cvL, decl, if_pos (by rw [cv_k]; simp [bne, hk1])]
  rw [hdn, Option.toList_none, List.append_nil]
  generalize p + (toksL ((v :: r).takeWhile (noHit [17]))).length = p' at *
  simp only [N49, List.cons_append, List.nil_append, go_sem, l49x0, b49, Tryz.f49, hlo, q1, tlt, t3, t30, hgr, h1, h2, h3, hk1, c64, List.append_nil]
  all_goals rfl
theorem stop49 {t q : Nat} {out : List Dc} {X : Heap} {ex : Env} (hlo : lo <= h.length) (tlt : decide (t < h.length) = true) :
  evCode ⟨Tryz.prog, E, lo, h.length, h49⟩ loopW l49x0 (N49 t q q out ++ ex, h ++ X) = some (.exit 0, N49 t q q out ++ [(13, .v (.bool false))], h) := by
 have q1 : decide ((q : Int) < (q : Int)) = false := by simp
 simp only [N49, List.cons_append, List.nil_append, go_sem, l49x0, b49, Tryz.f49, hlo, q1, tlt]
 all_goals rfl
theorem loop49 {l : List Tk4} {E' D : List Nat} {t q : Nat} (hT : TOk h l E' D t) (hlo : lo <= h.length) : ∀ (n : Nat) (G : List PV) (p : Nat) (out : List Dc) (X : Heap) (ex : Env), G.length < n -> LaidAt l E' D p q G -> out.length + G.length <= 1000000000 -> (∀ y ∈ cvL G, BtV y) -> nodesL (cvL G) <= 1000000000 ->
  loopW (evCode ⟨Tryz.prog, E, lo, h.length, h49⟩ loopW l49x0) (N49 t p q out ++ ex, h ++ X) = some (.exit 0, N49 t q q (out ++ declsN n (cvL G)) ++ [(13, .v (.bool false))], h)
 | 0, G, p, out, X, ex, hn, _, _, _, _ => by omega
 | n + 1, [], p, out, X, ex, hn, hA, ho, hB, hnn => by
  obtain rfl := hA.nil
  rw [loop_eq, stop49 hlo hT.tx.lt, loop_e, cvL, declsN, List.append_nil]
 | n + 1, v :: r, p, out, X, ex, hn, hA, ho, hB, hnn => by
  simp only [List.length_cons] at hn ho
  obtain ⟨X', G', p', ex', hr, hA', hG'⟩ := round49 (X := X) (out := out) (ex := ex) hT hlo hA (by omega) hB hnn
  have hnv : ∀ {f : PV -> Bool}, ((v :: r).dropWhile f).length <= r.length + 1 := fun {f} => by
   have := (List.dropWhile_suffix (p := f) (l := v :: r)).length_le
   rwa [List.length_cons] at this
  have hsub : ∀ y ∈ cvL G', y ∈ cvL (v :: r) := by
   rw [hG']
   intro y hy
   split at hy
   ·rw [cvL]; simp [hy]
   ·split at hy
    ·rw [cvL_map] at hy ⊢
     obtain ⟨z, hz, rfl⟩ := List.mem_map.1 hy
     exact List.mem_map.2 ⟨z, (List.dropWhile_suffix _).subset (List.mem_of_mem_tail hz), rfl⟩
    ·rw [cvL_map] at hy ⊢
     obtain ⟨z, hz, rfl⟩ := List.mem_map.1 hy
     exact List.mem_map.2 ⟨z, (List.dropWhile_suffix _).subset hz, rfl⟩
  have hnodes : nodesL (cvL G') <= nodesL (cvL (v :: r)) := by
   have hs : cvL G' <:+ cvL (v :: r) := by
    rw [hG', cvL_map, cvL_map]
    have key : ∀ {a b : List PV}, a <:+ b -> a.map cvV <:+ b.map cvV := fun h => by
     obtain ⟨p, rfl⟩ := h
     exact ⟨p.map cvV, by rw [List.map_append]⟩
    apply key
    split
    ·exact List.suffix_cons _ _
    ·split
     ·exact (List.tail_suffix _).trans (List.dropWhile_suffix _)
     ·exact List.dropWhile_suffix _
   exact nodesL_suffix hs
  have hlen : G'.length <= r.length := by
   rw [hG']
   split
   ·exact Nat.le_refl _
   ·rename_i h12
    split
    ·rw [List.length_tail]; have := @hnv (noHit [17, 23]); omega
    ·have hh : noHit [17] v = true := by
      rw [nh1]; unfold nor; rw [cv_k]
      simp only [Bool.or_eq_true, beq_iff_eq, not_or] at h12
      simp [h12.2]
     rw [List.dropWhile_cons, if_pos hh]
     exact (List.dropWhile_suffix _).length_le
  rw [loop_eq, hr, loop_n]
  generalize hput : (if (v.t.k == 13 || v.t.k == 17) = true then [] else if (v.t.k == 3) = true then [] else (decl (cvL ((v :: r).takeWhile (noHit [17])))).toList) = put at *
  have hpl : put.length <= 1 := by
   rw [<- hput]
   repeat' split
   ·exact Nat.zero_le _
   ·exact Nat.zero_le _
   ·cases decl (cvL ((v :: r).takeWhile (noHit [17]))) <;> simp
  rw [loop49 hT hlo n G' p' (out ++ put) X' ex' (by omega) hA' (by rw [List.length_append]; omega) (fun y hy => hB y (hsub y hy)) (by omega)]
  have ed : declsN (n + 1) (cvL (v :: r)) = put ++ declsN n (cvL G') := by
   rw [cvL, declsN, cv_k, <- hput, hG']
   by_cases h1 : (v.t.k == 13 || v.t.k == 17) = true
   ·rw [if_pos h1, if_pos h1, if_pos h1]; rfl
   ·rw [if_neg h1, if_neg h1, if_neg h1]
    by_cases h3 : (v.t.k == 3) = true
    ·rw [if_pos h3, if_pos h3, if_pos h3, List.nil_append]
     congr 1
     have e2 : ∀ L : List PV, cvL L.tail = (cvL L).tail := fun L => by rw [cvL_map, cvL_map, List.map_tail]
     rw [e2, cvL_drop (noHit [17, 23]) (nor 17 23) (nh2 17 23), cvL]
    ·rw [if_neg h3, if_neg h3, if_neg h3, cvL_drop (noHit [17]) (nor 17 17) (nh1 17), cvL_take (noHit [17]) (nor 17 17) (nh1 17), cvL]
  rw [ed, List.append_assoc]
theorem f49 {l : List Tk4} {E' D : List Nat} {t p q : Nat} {G : List PV} (hT : TOk h l E' D t) (hlo : lo <= h.length) (hA : LaidAt l E' D p q G) (hB : ∀ y ∈ cvL G, BtV y) (hn : nodesL (cvL G) <= 1000000000) :
  E lo 49 [.ptr t 0, .v (.int .i64 p), .v (.int .i64 q)] h = some (.list .no ((decls (cvL G)).map declC), h) := by
 have hgl : G.length <= 1000000000 := by have := nodesL_len (cvL G); rw [cvL_len] at this; omega
 have hL := loop49 (lo := lo) (h := h) hT hlo (G.length + 1) G p [] [] [] (by omega) hA (by rw [List.length_nil]; omega) hB hn
 have ed : declsN (G.length + 1) (cvL G) = decls (cvL G) := by unfold decls; rw [cvL_len]
 rw [ed, List.nil_append] at hL
 rw [e49 (by simp) (by rfl)]
 simp only [l49x0, b49, Tryz.f49, loopAt, loops, bodyOf, go_sem, N49, List.map_nil, List.append_nil, List.cons_append, List.nil_append] at hL
 simp only [go_sem, b49, Tryz.f49, hlo, hL]
 all_goals rfl
end Go.Lift.P8
end

section
open Go.Proofs
namespace Go.Lift.P8
open Rul
open Utf (By)
variable [MX]
variable {lo : Nat} {h : Heap}
theorem laid_bd (l : List Tk4) : ∀ p, (laidM l).E.getD p 0 <= l.length := by
 have hs : ∀ (a : Nat) (s : LS), a <= l.length -> (∀ p, s.E.getD p 0 <= l.length) -> ∀ p, (shutL a s).E.getD p 0 <= l.length := fun a s ha hE => by
  obtain ⟨st, E', D⟩ := s
  match st with
  | [] => exact hE
  | [i] => exact getD_set_le hE ha
  | i :: j :: r => exact getD_set_le hE ha
 have hr : ∀ (m : List Tk4) (i : Nat) (s : LS), i + m.length <= l.length -> (∀ p, s.E.getD p 0 <= l.length) -> ∀ p, (runL l i m s).E.getD p 0 <= l.length := by
  intro m
  induction m with
  | nil => intro i s _ h; rw [runL]; exact h
  | cons x m ih =>
   intro i s hi h
   rw [List.length_cons] at hi
   rw [runL]
   refine ih (i + 1) _ (by omega) ?_
   unfold stepL
   split
   ·exact h
   ·split
    ·exact hs i s (by omega) h
    ·exact h
 have hk : ∀ (k : Nat) (s : LS), (∀ p, s.E.getD p 0 <= l.length) -> ∀ p, (shutK l.length k s).E.getD p 0 <= l.length := by
  intro k
  induction k with
  | zero => intro s h; rw [shutK]; exact h
  | succ k ih => intro s h; rw [shutK]; exact ih _ (hs _ s (Nat.le_refl _) h)
 exact hk _ _ (hr l 0 _ (by omega) fun p => by by_cases hq : p < l.length <;> simp [List.getD_eq_getElem?_getD, hq])
theorem tok_of {l : List Tk4} (p q : Heap) (hl : l.length <= 500000000) : TOk (p ++ (tx p l (laidM l).E (laidM l).D ++ q)) l (laidM l).E (laidM l).D (p.length + 2) := by
 obtain ⟨F, rfl, hg⟩ := tree_of l
 have h := laid_ok hg
 exact ⟨TX.of p _ _ _ q, h.2.1, h.2.2, by omega, laid_bd _⟩
theorem laid_at {F : List PV} {x : Option Int} {b : Bool} (hg : goodL x b F) : LaidAt (toksL F) (laidM (toksL F)).E (laidM (toksL F)).D 0 (toksL F).length F :=
 ⟨fun k hk => by rw [Nat.zero_add], (laid_ok hg).1, ⟨x, b, hg⟩, Nat.zero_add _, Nat.le_refl _⟩
def Lv (l : List Tk4) (E D : List Nat) (a q : Nat) (G : List PV) : Prop := LaidAt l E D a q G \/ (G = [] /\ q <= a)
theorem set_self {S : List V} {i j : Nat} {x y : V} (hij : i ≠ j) (h : S[j]? = some y) : (S.set i x).set j y = S.set i x := by
 apply List.ext_getElem?
 intro k
 rw [List.getElem?_set]
 split
 ·rename_i e
  subst e
  rw [List.getElem?_set_ne hij, h]
  have : j < S.length := (List.getElem?_eq_some_iff.1 h).1
  simp [this]
 ·rfl
theorem f43 {p : Heap} {l : List Tk4} {E' D : List Nat} {a q n d : Nat} {S : List V} {out : List Ru} {v : PV} {r : List PV} {top : Bool} (hlo : lo <= p.length)
  (hT : ∀ Q : Heap, TOk (p ++ (tx p l E' D ++ Q)) l E' D (p.length + 2)) (hA : LaidAt l E' D a q (v :: r))
  (g0 : S[n * 8]? = some (.v (.int .i64 a))) (g1 : S[n * 8 + 1]? = some (.v (.int .i64 q))) (g2 : S[n * 8 + 2]? = some (.list .yes (rusC out))) (hS : n * 8 + 8 <= S.length)
  (ho : out.length <= 1000000000) (hB : allL BtT (cvL (v :: r))) (hn : nodesL (cvL (v :: r)) <= 1000000000) (hd : d <= 1000)
  (k1 : (v.t.k == 13 || (top && (v.t.k == 14 || v.t.k == 15))) = false) (k3 : (v.t.k == 3) = false) (sub : List CV -> List Ru) :
  ∃ a' G', E lo 43 [.ptr (p.length + 2) 0, .ptr (p.length + 3) (n * 8), .v (.int .i64 d)] (p ++ (tx p l E' D ++ [.cells S])) =
   some (.tup [], p ++ (tx p l E' D ++ [.cells ((S.set (n * 8) (.v (.int .i64 (a' : Nat)))).set (n * 8 + 2) (.list .yes (rusC (out ++ (stepR sub (decide (d <= 64)) top (cvV v) (cvL r)).1))))])) /\
   Lv l E' D a' q G' /\ cvL G' = (stepR sub (decide (d <= 64)) top (cvV v) (cvL r)).2 := by
 have hll := (hT []).ll
 have hTQ := fun Q : List V => hT [.cells Q]
 have hlh : ∀ Q : List V, lo <= (p ++ (tx p l E' D ++ [Ob.cells Q])).length := fun Q => by simp; omega
 have hlh2 : ∀ Q : List V, p.length + 4 <= (p ++ (tx p l E' D ++ [Ob.cells Q])).length := fun Q => by simp
 have c64 := fun Q => f64 (ks := [23]) (hTQ Q).tx (hlh Q) (by simp) (hT []).le (hT []).ld hll (hT []).bd hA
 rw [ri1] at c64
 have hC := hA.cut (noHit [23])
 have hF := hA.front (noHit [23])
 have c67 := fun Q => f67 (hTQ Q).tx (hlh2 Q) hll hF
 have hql := hA.le
 have hlt := hA.lt
 have ek1 : ((cvV v).k == 13 || (top && ((cvV v).k == 14 || (cvV v).k == 15))) = false := by rw [cv_k]; exact k1
 have ek3 : ((cvV v).k == 3) = false := by rw [cv_k]; exact k3
 have e0 : cvV v :: cvL r = cvL (v :: r) := by rw [cvL]
 have es : stepR sub (decide (d <= 64)) top (cvV v) (cvL r) = match cvL ((v :: r).dropWhile (noHit [23])) with
   | [] => ([], [])
   | x :: s => (if (!deepL 64 (cvL ((v :: r).takeWhile (noHit [23]))) && decide (d <= 64)) = true then [Ru.mk 1 [] (trim (cvL ((v :: r).takeWhile (noHit [23])))) (decls x.ks) []] else [], s) := by
  unfold stepR
  rw [ek1, ek3, if_neg (by simp), if_neg (by simp), e0, cvL_drop (noHit [23]) (nor 23 23) (nh1 23), cvL_take (noHit [23]) (nor 23 23) (nh1 23)]
  all_goals rfl
 rw [es]
 have hsub : ∀ y ∈ (v :: r).dropWhile (noHit [23]), y ∈ v :: r := fun y hy => (List.dropWhile_suffix _).subset hy
 generalize hb : a + (toksL ((v :: r).takeWhile (noHit [23]))).length = b at *
 generalize (v :: r).takeWhile (noHit [23]) = P at *
 generalize hG : (v :: r).dropWhile (noHit [23]) = G at *
 have hbl : b <= l.length := by have := hC.len; omega
 have hw : IntKind.i64.wrap ((b : Int) + 1) = ((b + 1 : Nat) : Int) := wrap_succ (by omega)
 have l1 : lo <= p.length + 1 := by omega
 have l2 : lo <= p.length + 2 := by omega
 have l3 : lo <= p.length + 3 := by omega
 have s1 : ∀ x, (S.set (n * 8) x)[n * 8 + 1]? = some (.v (.int .i64 q)) := fun x => by rw [List.getElem?_set_ne (by omega)]; exact g1
 have s2 : ∀ x, (S.set (n * 8) x)[n * 8 + 2]? = some (.list .yes (rusC out)) := fun x => by rw [List.getElem?_set_ne (by omega)]; exact g2
 have m0 : n * 8 + 1 <= S.length := by omega
 have m1 : n * 8 + 2 + 1 <= S.length := by omega
 have m2 : n * 8 + 3 <= S.length := by omega
 have hkk : ∀ (x y z : V), ((S.set (n * 8) z).set (n * 8 + 2) y).take (n * 8 + 2) ++ x :: ((S.set (n * 8) z).set (n * 8 + 2) y).drop (n * 8 + 2 + 1) = (S.set (n * 8) z).set (n * 8 + 2) x := fun x y z => by
  rw [tk_set (by rw [List.length_set, List.length_set]; omega), List.set_set]
 have hkk3 : ∀ (x y z : V), ((S.set (n * 8) z).set (n * 8 + 2) y).take (n * 8 + 2) ++ x :: ((S.set (n * 8) z).set (n * 8 + 2) y).drop (n * 8 + 3) = (S.set (n * 8) z).set (n * 8 + 2) x := hkk
 have qd : decide (64 < (d : Int)) = !decide (d <= 64) := by
  rw [Bool.eq_iff_iff]; simp; omega
 simp only [tx, List.cons_append, List.nil_append] at c64 c67
 cases G with
 | nil =>
  have hbq := hC.nil
  have q2 : decide ((q : Int) <= (b : Int)) = true := by rw [decide_eq_true_iff]; omega
  refine ⟨b + 1, [], ?_, .inr ⟨rfl, by omega⟩, by rw [cvL]⟩
  rw [cvL]
  simp only [List.append_nil]
  rw [set_self (by omega) g2]
  rw [e43 (by simp) (by rfl)]
  simp only [tx, List.cons_append, List.nil_append, go_sem, b43, Tryz.f43, hlo, l1, l2, l3, g0, g1, s1, m0, c64, hw, q2, List.length_set]
  all_goals rfl
 | cons x s =>
  have hbq := hC.lt
  have q2 : decide ((q : Int) <= (b : Int)) = false := by rw [decide_eq_false_iff_not]; omega
  have c66 := fun Q => f66 (q := q) (hTQ Q).tx (hlh Q) (hT []).le hll ((hT []).bd b) hC.head
  rw [hC.over] at c66
  simp only [tx, List.cons_append, List.nil_append] at c66
  have hxk : x.t.k = 23 := by
   have := List.head?_dropWhile_not (noHit [23]) (v :: r)
   rw [hG] at this
   simp only [List.head?_cons] at this
   have h5 : noHit [23] x = false := by simpa using this
   unfold noHit at h5
   simp only [List.contains_cons, List.contains_nil, Bool.or_false, Bool.not_eq_false', beq_iff_eq] at h5
   exact h5
  rw [cvL]
  have hov := hC.tail
  refine ⟨b + (toksV x).length, s, ?_, .inl hov, rfl⟩
  generalize hbo : b + (toksV x).length = bo at *
  cases hdp : deepL 64 (cvL P) with
  | true =>
   rw [hdp] at c64
   simp only [Bool.not_true, Bool.false_and, Bool.false_eq_true, if_false, List.append_nil]
   rw [set_self (by omega) g2]
   rw [e43 (by simp) (by rfl)]
   simp only [tx, List.cons_append, List.nil_append, go_sem, b43, Tryz.f43, hlo, l1, l2, l3, g0, g1, s1, m0, c64, c66, hw, q2, Bool.not_true, Bool.not_false, List.length_set, List.set_set]
   all_goals rfl
  | false =>
   rw [hdp] at c64
   cases hlv : decide (d <= 64) with
   | false =>
    rw [hlv] at qd
    simp only [Bool.not_true, Bool.and_false, Bool.false_eq_true, if_false, List.append_nil]
    rw [set_self (by omega) g2]
    rw [e43 (by simp) (by rfl)]
    simp only [tx, List.cons_append, List.nil_append, go_sem, b43, Tryz.f43, hlo, l1, l2, l3, g0, g1, s1, m0, c64, c66, hw, q2, qd, Bool.not_true, Bool.not_false, List.length_set, List.set_set]
    all_goals rfl
   | true =>
    rw [hlv] at qd
    have hxm := hsub x (by simp)
    have hxc : cvV x ∈ cvL (v :: r) := by rw [cvL_map]; exact List.mem_map.2 ⟨x, hxm, rfl⟩
    obtain ⟨y0, b0, hg0⟩ := hC.good
    have hgx := (goodL_cons.1 hg0).1
    cases x with
    | leaf t =>
     exfalso
     have h5 := (goodV_leaf.1 hgx).1
     have h6 : t.k = 23 := hxk
     rw [h6] at h5
     exact absurd h5 (by decide)
    | node t ks c =>
     have hK := hC.kids
     have hxa := (allL_iff.1 hB _ hxc).2
     have hxn : nodesL (cvL ks) <= nodesL (cvL (v :: r)) := by
      have := nodesL_mem hxc
      rw [nodesV_eq] at this
      have e5 : (cvV (.node t ks c)).ks = cvL ks := by rw [cvV]; rfl
      rw [e5] at this
      omega
     have e5 : (cvV (.node t ks c)).ks = cvL ks := by rw [cvV]; rfl
     rw [e5] at hxa
     have c49 := fun Q => f49 (hTQ Q) (hlh2 Q) hK (fun y hy => (allL_iff.1 hxa y hy).1) (by omega)
     have hmin : (if (q : Int) < ((E'.getD b 0 : Nat) : Int) then (q : Int) else ((E'.getD b 0 : Nat) : Int)) = ((min (E'.getD b 0) q : Nat) : Int) := by split <;> omega
     have gE := nt_at (show b < E'.length by rw [(hT []).le]; omega)
     have qb : (b : Int) < (l.length : Int) := by omega
     simp only [tx, List.cons_append, List.nil_append] at c49
     have hrl := rusC_len out
     have o1 := lim96 ho
     have o2 := limC ho
     have rao := rusC_all out
     have rbo := byteRow_rus out
     have ez : Rul.bs [] = ByteArray.empty := rfl
     simp only [Bool.not_false, Bool.and_self, if_true]
     rw [e5]
     rw [<- rusC_put, ruV, rusC_nil, ez]
     generalize (decls (cvL ks)).map declC = Z at *
     generalize rowsC (trim (cvL P)) = W at *
     generalize rusC out = O at *
     rw [e43 (by simp) (by rfl)]
     simp only [tx, List.cons_append, List.nil_append, go_sem, b43, Tryz.f43, hlo, l1, l2, l3, g0, g1, s1, s2, m0, m1, m2, hkk, hkk3, c64, c66, c67, c49, hw, q2, qd, qb, gE, hmin, o1, o2, rao, rbo, hrl, Bool.not_true, Bool.not_false, List.length_set, List.set_set, Nat.mul_one]
     all_goals rfl
end Go.Lift.P8
end

section
open Go.Proofs
namespace Go.Lift.P8
open Rul
open Utf (By)
variable [MX]
variable {lo : Nat} {h : Heap}
def noLev : List V := [.v (.int .i64 0), .v (.int .i64 0), .nil, .v (.int .i64 0), .v (.string ByteArray.empty), .nil, .nil, .nil]
def newLev (a q : Nat) (nm : List Int) (pr : List CV) : List V := [.v (.int .i64 a), .v (.int .i64 q), .nil, .v (.int .i64 2), .v (.string (Rul.bs nm)), .list .no (rowsC pr), .nil, .nil]
theorem f42 {p : Heap} {l : List Tk4} {E' D : List Nat} {a q n d : Nat} {S : List V} {v : PV} {r : List PV} {top : Bool} (hlo : lo <= p.length)
  (hT : ∀ Q : Heap, TOk (p ++ (tx p l E' D ++ Q)) l E' D (p.length + 2)) (hA : LaidAt l E' D a q (v :: r))
  (g0 : S[n * 8]? = some (.v (.int .i64 a))) (g1 : S[n * 8 + 1]? = some (.v (.int .i64 q))) (hS : n * 8 + 8 <= S.length)
  (hB : allL BtT (cvL (v :: r))) (hn : nodesL (cvL (v :: r)) <= 1000000000) (hd : d <= 1000) (k3 : (v.t.k == 3) = true) :
  ∃ a' G', Lv l E' D a' q G' /\
   ((∃ nm pr K a1 q1, E lo 42 [.ptr (p.length + 2) 0, .ptr (p.length + 3) (n * 8), .v (.int .i64 d)] (p ++ (tx p l E' D ++ [.cells S])) =
     some (.tup [.agg (newLev a1 q1 nm pr), .v (.bool true)], p ++ (tx p l E' D ++ [.cells (S.set (n * 8) (.v (.int .i64 (a' : Nat))))])) /\ LaidAt l E' D a1 q1 K /\ d <= 64 /\ (∀ y ∈ cvL K, ∃ z ∈ cvL (v :: r), y ∈ z.ks) /\ nodesL (cvL K) + 1 + nodesL (cvL G') <= nodesL (cvL r) /\
     ∀ sub, stepR sub (decide (d <= 64)) top (cvV v) (cvL r) = ([Ru.mk 2 nm pr [] (sub (cvL K))], cvL G')) \/
    (E lo 42 [.ptr (p.length + 2) 0, .ptr (p.length + 3) (n * 8), .v (.int .i64 d)] (p ++ (tx p l E' D ++ [.cells S])) =
     some (.tup [.agg noLev, .v (.bool false)], p ++ (tx p l E' D ++ [.cells (S.set (n * 8) (.v (.int .i64 (a' : Nat))))])) /\
     ∀ sub, stepR sub (decide (d <= 64)) top (cvV v) (cvL r) = ([], cvL G'))) := by
 have hll := (hT []).ll
 have hTQ := fun (Q : List V) (X : Ob) => hT [.cells Q, X]
 have hlh : ∀ (Q : List V) (X : Ob), lo <= (p ++ (tx p l E' D ++ [Ob.cells Q, X])).length := fun Q X => by simp; omega
 have hk3 : v.t.k = 3 := by simpa using k3
 obtain ⟨y1, b1, hg1⟩ := hA.good
 have hone := leaf_one (goodL_cons.1 hg1).1 (by rw [hk3]; rfl)
 have hA1 := hA.tail
 rw [hone] at hA1
 have hhd := hA.head
 have hal : a < l.length := (List.getElem?_eq_some_iff.1 hhd).1
 have hgr : (l.map row)[a]? = some (row v.t) := by rw [List.getElem?_map, hhd]; rfl
 have hBv : BtT v.t := by
  have := (allL_iff.1 hB (cvV v) (by rw [cvL]; simp)).1
  rw [cv_t] at this
  exact this
 have hwa : IntKind.i64.wrap ((a : Int) + 1) = ((a + 1 : Nat) : Int) := wrap_succ (by omega)
 have c64 := fun Q X => f64 (ks := [17, 23]) (hTQ Q X).tx (hlh Q X) (by simp) (hT []).le (hT []).ld hll (hT []).bd hA1
 rw [ri2] at c64
 have hC := hA1.cut (noHit [17, 23])
 have hF := hA1.front (noHit [17, 23])
 have c67 := fun Q X => f67 (hTQ Q X).tx (hlh Q X) hll hF
 have c65 := fun (Q : List V) (X : Ob) => f65 (lo := lo) (h := p ++ (tx p l E' D ++ [Ob.cells Q, X])) (l := v.t.b) (hlh Q X) (by have := hBv.2; omega) hBv.1
 have c65 : ∀ (Q : List V) (X : Ob), E lo 65 [.v (.string (Rul.bs v.t.b))] (p ++ (tx p l E' D ++ [Ob.cells Q, X])) = some (.v (.string (Rul.bs (small v.t.b))), p ++ (tx p l E' D ++ [Ob.cells Q, X])) := c65
 have hql := hA.le
 have ek1 : ((cvV v).k == 13 || (top && ((cvV v).k == 14 || (cvV v).k == 15))) = false := by rw [cv_k, hk3]; simp
 have ek3 : ((cvV v).k == 3) = true := by rw [cv_k]; exact k3
 have hnv : nor 17 23 (cvV v) = true := by unfold nor; rw [cv_k, hk3]; rfl
 have es : ∀ sub, stepR sub (decide (d <= 64)) top (cvV v) (cvL r) = match cvL (r.dropWhile (noHit [17, 23])) with
   | [] => ([], [])
   | x :: s => (if (x.k == 23 && isGroup (small v.t.b) && !deepL 64 (cvL (r.takeWhile (noHit [17, 23]))) && decide (d <= 64)) = true then [Ru.mk 2 (small v.t.b) (trim (cvL (r.takeWhile (noHit [17, 23])))) [] (sub x.ks)] else [], s) := fun sub => by
  unfold stepR
  rw [ek1, ek3, if_neg (by simp), if_pos rfl, List.dropWhile_cons, if_pos hnv, List.takeWhile_cons, if_pos hnv, cvL_drop (noHit [17, 23]) (nor 17 23) (nh2 17 23), cvL_take (noHit [17, 23]) (nor 17 23) (nh2 17 23), cv_t]
  all_goals rfl
 have hrn : nodesL (cvL (r.takeWhile (noHit [17, 23]))) + nodesL (cvL (r.dropWhile (noHit [17, 23]))) = nodesL (cvL r) := by
  rw [<- nodesL_app, <- cvL_app, List.takeWhile_append_dropWhile]
 have hrm : ∀ y ∈ r.dropWhile (noHit [17, 23]), y ∈ r := fun y hy => (List.dropWhile_suffix _).subset hy
 have hhit : ∀ x s, r.dropWhile (noHit [17, 23]) = x :: s -> x.t.k = 17 \/ x.t.k = 23 := fun x s e => by
  have := List.head?_dropWhile_not (noHit [17, 23]) r
  rw [e] at this
  simp only [List.head?_cons] at this
  have h5 : noHit [17, 23] x = false := by simpa using this
  unfold noHit at h5
  have h6 : ¬ x.t.k = 17 -> x.t.k = 23 := by simpa using h5
  exact Decidable.or_iff_not_imp_left.2 h6
 generalize hb : a + 1 + (toksL (r.takeWhile (noHit [17, 23]))).length = b at *
 generalize r.takeWhile (noHit [17, 23]) = P at *
 generalize r.dropWhile (noHit [17, 23]) = G at *
 have hbl : b <= l.length := by have := hC.len; omega
 have hw : IntKind.i64.wrap ((b : Int) + 1) = ((b + 1 : Nat) : Int) := wrap_succ (by omega)
 have l1 : lo <= p.length + 1 := by omega
 have l2 : lo <= p.length + 2 := by omega
 have l3 : lo <= p.length + 3 := by omega
 have l4 : lo <= p.length + 4 := by omega
 have l5 : lo <= p.length + 5 := by omega
 have s1 : ∀ x, (S.set (n * 8) x)[n * 8 + 1]? = some (.v (.int .i64 q)) := fun x => by rw [List.getElem?_set_ne (by omega)]; exact g1
 have m0 : n * 8 + 1 <= S.length := by omega
 have hk1 : ∀ x : V, S.take (n * 8) ++ x :: S.drop (n * 8 + 1) = S.set (n * 8) x := fun x => tk_set (by omega)
 have qd : decide (64 < (d : Int)) = !decide (d <= 64) := by
  rw [Bool.eq_iff_iff]; simp; omega
 simp only [row] at hgr
 simp only [tx, List.cons_append, List.nil_append] at c64 c65 c67
 cases G with
 | nil =>
  have hbq := hC.nil
  have q2 : decide ((q : Int) <= (b : Int)) = true := by rw [decide_eq_true_iff]; omega
  refine ⟨b + 1, [], .inr ⟨rfl, by omega⟩, .inr ⟨?_, fun sub => by rw [es, cvL]⟩⟩
  rw [e42 (by simp) (by rfl)]
  simp only [noLev, tx, List.cons_append, List.nil_append, go_sem, b42, Tryz.f42, hlo, l1, l2, l3, l4, l5, g0, g1, s1, m0, hk1, c64, hw, hwa, q2, List.length_set]
  all_goals rfl
 | cons x s =>
  have hbq := hC.lt
  have q2 : decide ((q : Int) <= (b : Int)) = false := by rw [decide_eq_false_iff_not]; omega
  have hxr : (l.map row)[b]? = some (row x.t) := by rw [List.getElem?_map, hC.head]; rfl
  simp only [row] at hxr
  obtain ⟨y0, b0, hg0⟩ := hC.good
  have hgx := (goodL_cons.1 hg0).1
  rcases hhit x s rfl with hx17 | hx23
  ·have hx1 := leaf_one hgx (by rw [hx17]; rfl)
   have hov := hC.tail
   rw [hx1] at hov
   have k17 : (x.t.k == 17) = true := by rw [hx17]; rfl
   refine ⟨b + 1, s, .inl hov, .inr ⟨?_, fun sub => by
    rw [es, cvL]
    simp only [cv_k]
    rw [hx17]
    simp⟩⟩
   rw [e42 (by simp) (by rfl)]
   simp only [noLev, tx, List.cons_append, List.nil_append, go_sem, b42, Tryz.f42, hlo, l1, l2, l3, l4, l5, g0, g1, s1, m0, hk1, c64, hw, hwa, q2, hxr, k17, List.length_set]
   all_goals rfl
  ·have k17 : (x.t.k == 17) = false := by rw [hx23]; rfl
   have c66 := fun Q X => f66 (q := q) (hTQ Q X).tx (hlh Q X) (hT []).le hll ((hT []).bd b) hC.head
   rw [hC.over] at c66
   simp only [tx, List.cons_append, List.nil_append] at c66
   have hov := hC.tail
   have es2 : ∀ sub, stepR sub (decide (d <= 64)) top (cvV v) (cvL r) = (if (isGroup (small v.t.b) && !deepL 64 (cvL P) && decide (d <= 64)) = true then [Ru.mk 2 (small v.t.b) (trim (cvL P)) [] (sub (cvV x).ks)] else [], cvL s) := fun sub => by
    rw [es, cvL]
    simp only [cv_k]
    rw [hx23]
    simp only [beq_self_eq_true, Bool.true_and]
   have sm := by_small hBv.1
   have e1 := rbs_beq sm by_media
   have e2 := rbs_beq sm by_supports
   have e3 := rbs_beq sm by_container
   refine ⟨b + (toksV x).length, s, .inl hov, ?_⟩
   generalize hbo : b + (toksV x).length = bo at *
   generalize hsmall : small v.t.b = m at *
   cases hdp : deepL 64 (cvL P) with
   | true =>
    rw [hdp] at c64
    right
    refine ⟨?_, fun sub => by rw [es2, hdp]; simp⟩
    rw [e42 (by simp) (by rfl)]
    simp only [noLev, tx, List.cons_append, List.nil_append, go_sem, b42, Tryz.f42, hlo, l1, l2, l3, l4, l5, g0, g1, s1, m0, hk1, c64, c65, c66, hw, hwa, q2, hgr, hxr, k17, Bool.not_true, Bool.not_false, List.length_set]
    all_goals rfl
   | false =>
    rw [hdp] at c64
    cases hlv : decide (d <= 64) with
    | false =>
     rw [hlv] at qd
     right
     refine ⟨?_, fun sub => by have := es2 sub; rw [hlv] at this; rw [this]; simp⟩
     rw [e42 (by simp) (by rfl)]
     simp only [noLev, tx, List.cons_append, List.nil_append, go_sem, b42, Tryz.f42, hlo, l1, l2, l3, l4, l5, g0, g1, s1, m0, hk1, c64, c65, c66, hw, hwa, q2, qd, hgr, hxr, k17, Bool.not_true, Bool.not_false, List.length_set]
     all_goals rfl
    | true =>
     rw [hlv] at qd
     have eg := isGroup_eq m
     cases hgp : isGroup m with
     | false =>
      rw [hgp] at eg
      have h1 : (m == wMedia) = false := by cases hh : (m == wMedia) with | false => rfl | true => rw [hh] at eg; simp at eg
      have h2 : (m == wSupports) = false := by cases hh : (m == wSupports) with | false => rfl | true => rw [hh] at eg; simp at eg
      have h3 : (m == wContainer) = false := by cases hh : (m == wContainer) with | false => rfl | true => rw [hh] at eg; simp at eg
      rw [h1] at e1
      rw [h2] at e2
      rw [h3] at e3
      right
      refine ⟨?_, fun sub => by have := es2 sub; rw [hgp] at this; rw [hlv] at this; rw [this]; simp⟩
      rw [e42 (by simp) (by rfl)]
      simp only [noLev, tx, List.cons_append, List.nil_append, go_sem, b42, Tryz.f42, hlo, l1, l2, l3, l4, l5, g0, g1, s1, m0, hk1, c64, c65, c66, hw, hwa, q2, qd, hgr, hxr, k17, k_media, k_supports, k_container, e1, e2, e3, Bool.not_true, Bool.not_false, List.length_set]
      all_goals rfl
     | true =>
      left
      cases x with
      | leaf t =>
       exfalso
       have h5 := (goodV_leaf.1 hgx).1
       have h6 : t.k = 23 := hx23
       rw [h6] at h5
       exact absurd h5 (by decide)
      | node t ks c =>
       have hK := hC.kids
       have e5 : (cvV (.node t ks c)).ks = cvL ks := by rw [cvV]; rfl
       have hmin : (if (q : Int) < ((E'.getD b 0 : Nat) : Int) then (q : Int) else ((E'.getD b 0 : Nat) : Int)) = ((min (E'.getD b 0) q : Nat) : Int) := by split <;> omega
       have gE := nt_at (show b < E'.length by rw [(hT []).le]; omega)
       have qb : (b : Int) < (l.length : Int) := by omega
       refine ⟨m, trim (cvL P), ks, b + 1, min (E'.getD b 0) q, ?_, hK, by simpa using hlv, fun y hy => ⟨cvV (.node t ks c), by rw [cvL, cvL_map r]; exact List.mem_cons_of_mem _ (List.mem_map.2 ⟨_, hrm _ (by simp), rfl⟩), by rw [e5]; exact hy⟩, ?_, fun sub => by have := es2 sub; rw [hgp] at this; rw [hlv] at this; rw [hdp] at this; rw [this, e5]; simp⟩
       ·rw [e42 (by simp) (by rfl)]
        rw [hgp] at eg
        cases h1 : (m == wMedia) with
        | true =>
         rw [h1] at e1
         simp only [newLev, tx, List.cons_append, List.nil_append, go_sem, b42, Tryz.f42, hlo, l1, l2, l3, l4, l5, g0, g1, s1, m0, hk1, c64, c65, c66, c67, hw, hwa, q2, qd, qb, gE, hmin, hgr, hxr, k17, k_media, k_supports, k_container, e1, Bool.not_true, Bool.not_false, List.length_set, Nat.mul_one]
         all_goals rfl
        | false =>
         rw [h1] at e1
         cases h2 : (m == wSupports) with
         | true =>
          rw [h2] at e2
          simp only [newLev, tx, List.cons_append, List.nil_append, go_sem, b42, Tryz.f42, hlo, l1, l2, l3, l4, l5, g0, g1, s1, m0, hk1, c64, c65, c66, c67, hw, hwa, q2, qd, qb, gE, hmin, hgr, hxr, k17, k_media, k_supports, k_container, e1, e2, Bool.not_true, Bool.not_false, List.length_set, Nat.mul_one]
          all_goals rfl
         | false =>
          rw [h2] at e2
          have h3 : (m == wContainer) = true := by rw [h1, h2] at eg; simpa using eg.symm
          rw [h3] at e3
          simp only [newLev, tx, List.cons_append, List.nil_append, go_sem, b42, Tryz.f42, hlo, l1, l2, l3, l4, l5, g0, g1, s1, m0, hk1, c64, c65, c66, c67, hw, hwa, q2, qd, qb, gE, hmin, hgr, hxr, k17, k_media, k_supports, k_container, e1, e2, e3, Bool.not_true, Bool.not_false, List.length_set, Nat.mul_one]
          all_goals rfl
       ·rw [cvL, nodesL_cons, nodesV_eq, e5] at hrn
        omega
end Go.Lift.P8
end

section
open Go.Proofs
namespace Go.Lift.P8
open Rul
open Utf (By)
variable [MX]
variable {lo : Nat} {h : Heap}
abbrev N16 (h : Heap) (l : List Tk4) (n : Nat) (ex : Env) : Env := (0, .list .no (l.map row)) :: (3, .ptr (h.length + 2) 0) :: (4, .stk (h.length + 3) n 8) :: ex
abbrev H16 (h : Heap) (l : List Tk4) (E D : List Nat) (S : List V) (X : Heap) : Heap := h ++ (tx h l E D ++ (.cells S :: X))
theorem lim136 {n : Nat} (h : n <= 1000000000) : (n + 1) * 136 <= 140737488355328 := by omega
structure In16 (h : Heap) (l : List Tk4) (E' D : List Nat) (S : List V) (m a q : Nat) (out : List Ru) : Prop where
 tok : ∀ Q : Heap, TOk (h ++ (tx h l E' D ++ Q)) l E' D (h.length + 2)
 g0 : S[m * 8]? = some (.v (.int .i64 a))
 g1 : S[m * 8 + 1]? = some (.v (.int .i64 q))
 g2 : S[m * 8 + 2]? = some (.list .yes (rusC out))
 len : m * 8 + 8 <= S.length
 ok : Jnk S
 hm : m <= 1000
theorem last16 {l : List Tk4} {E' D : List Nat} {S : List V} {a q : Nat} {out : List Ru} {X : Heap} {ex : Env} (hlo : lo <= h.length) (hI : In16 h l E' D S 0 a q out) (haq : q <= a) :
  ∃ k s', evCode ⟨Tryz.prog, E, lo, h.length, h16⟩ loopW l16x0 (N16 h l 1 ex, H16 h l E' D S X) = some (.ret, [(2, .list k (rusC out))], s') /\ (∃ Y, s' = h ++ Y) := by
 generalize hm0 : 0 = m at hI
 obtain ⟨hT, g0, g1, g2, hS, hJ, hm⟩ := hI
 have w1 : IntKind.i64.wrap (((m + 1 : Nat) : Int) - 1) = (m : Int) := by rw [wrap_i64 (by omega) (by omega)]; omega
 have a1 : (m : Int) < ((m + 1 : Nat) : Int) := by omega
 have l1 : lo <= h.length + 1 := by omega
 have l2 : lo <= h.length + 2 := by omega
 have l3 : lo <= h.length + 3 := by omega
 have l4 : lo <= h.length + 4 := by omega
 have l5 : lo <= h.length + 5 := by omega
 have l6 : lo <= h.length + 6 := by omega
 have eE := nt_okv (h.length + 4) E'
 have eD := nt_okv (h.length + 4) D
 have eS := (hJ (h.length + 4)).2
 subst hm0
 have q1 : decide ((q : Int) <= (a : Int)) = true := by rw [decide_eq_true_iff]; omega
 have p1 : (0 : Int) < ((1 : Nat) : Int) := by decide
 have e11 : (((1 : Nat) : Int) == 1) = true := rfl
 simp only [Nat.zero_mul, Nat.zero_add] at g0 g1 g2 w1
 refine ⟨?k, h ++ ?Y, ?g, ⟨?Y, rfl⟩⟩
 case g =>
  simp only [N16, H16, tx, List.cons_append, List.nil_append, go_sem, l16x0, b16, Tryz.f16, hlo, l1, l2, l3, l4, l5, l6, w1, a1, eE, eD, eS, g0, g1, g2, q1, p1, e11, Nat.zero_mul, Nat.zero_add]
  rfl
theorem skip16 {l : List Tk4} {E' D : List Nat} {S : List V} {m a q : Nat} {out : List Ru} {X : Heap} {ex : Env} {t : Tk4} (hlo : lo <= h.length) (hI : In16 h l E' D S m a q out) (haq : a < q) (hl : l.length <= 1000000000) (hg : l[a]? = some t)
  (hk : (t.k == 13 || (m == 0 && (t.k == 14 || t.k == 15))) = true) :
  evCode ⟨Tryz.prog, E, lo, h.length, h16⟩ loopW l16x0 (N16 h l (m + 1) ex, H16 h l E' D S X) = some (.normal, N16 h l (m + 1) [], H16 h l E' D (S.set (m * 8) (.v (.int .i64 (a + 1 : Nat)))) []) := by
 obtain ⟨hT, g0, g1, g2, hS, hJ, hm⟩ := hI
 have w1 : IntKind.i64.wrap (((m + 1 : Nat) : Int) - 1) = (m : Int) := by rw [wrap_i64 (by omega) (by omega)]; omega
 have a1 : (m : Int) < ((m + 1 : Nat) : Int) := by omega
 have l1 : lo <= h.length + 1 := by omega
 have l2 : lo <= h.length + 2 := by omega
 have l3 : lo <= h.length + 3 := by omega
 have l4 : lo <= h.length + 4 := by omega
 have l5 : lo <= h.length + 5 := by omega
 have l6 : lo <= h.length + 6 := by omega
 have eE := nt_okv (h.length + 4) E'
 have eD := nt_okv (h.length + 4) D
 have eS := (hJ (h.length + 4)).2
 have q1 : decide ((q : Int) <= (a : Int)) = false := by rw [decide_eq_false_iff_not]; omega
 have hal : a < l.length := (List.getElem?_eq_some_iff.1 hg).1
 have hgr : (l.map row)[a]? = some (row t) := by rw [List.getElem?_map, hg]; rfl
 have hw : IntKind.i64.wrap ((a : Int) + 1) = ((a + 1 : Nat) : Int) := wrap_succ (by omega)
 have m0 : m * 8 + 1 <= S.length := by omega
 have hk1 : ∀ x : V, S.take (m * 8) ++ x :: S.drop (m * 8 + 1) = S.set (m * 8) x := fun x => tk_set (by omega)
 simp only [row] at hgr
 cases k13 : (t.k == 13) with
 | true =>
  simp only [N16, H16, tx, List.cons_append, List.nil_append, go_sem, l16x0, b16, Tryz.f16, hlo, l1, l2, l3, l4, l5, l6, w1, a1, eE, eD, eS, g0, g1, q1, hgr, hw, m0, hk1, k13]
  all_goals rfl
 | false =>
  rw [k13, Bool.false_or, Bool.and_eq_true] at hk
  obtain ⟨h0, hk⟩ := hk
  have em : m = 0 := by simpa using h0
  have e1 : (((m + 1 : Nat) : Int) == 1) = true := by rw [em]; rfl
  cases k14 : (t.k == 14) with
  | true =>
   simp only [N16, H16, tx, List.cons_append, List.nil_append, go_sem, l16x0, b16, Tryz.f16, hlo, l1, l2, l3, l4, l5, l6, w1, a1, eE, eD, eS, g0, g1, q1, hgr, hw, m0, hk1, k13, k14, e1]
   all_goals rfl
  | false =>
   rw [k14, Bool.false_or] at hk
   simp only [N16, H16, tx, List.cons_append, List.nil_append, go_sem, l16x0, b16, Tryz.f16, hlo, l1, l2, l3, l4, l5, l6, w1, a1, eE, eD, eS, g0, g1, q1, hgr, hw, m0, hk1, k13, k14, hk, e1]
   all_goals rfl
theorem not16 {t : Tk4} {m : Nat} (hk : (t.k == 13 || (m == 0 && (t.k == 14 || t.k == 15))) = false) : (t.k == 13) = false /\ ((((m + 1 : Nat) : Int) == 1) = false \/ ((((m + 1 : Nat) : Int) == 1) = true /\ (t.k == 14) = false /\ (t.k == 15) = false)) := by
 rw [Bool.or_eq_false_iff] at hk
 refine ⟨hk.1, ?_⟩
 cases m with
 | zero =>
  right
  have h2 := hk.2
  have e0 : ((0 : Nat) == 0) = true := rfl
  rw [e0, Bool.true_and, Bool.or_eq_false_iff] at h2
  exact ⟨rfl, h2⟩
 | succ m => left; rw [beq_eq_false_iff_ne]; omega
theorem style16 {l : List Tk4} {E' D : List Nat} {S S' : List V} {m a q : Nat} {out : List Ru} {X : Heap} {ex : Env} {t : Tk4} (hlo : lo <= h.length) (hI : In16 h l E' D S m a q out) (haq : a < q) (hl : l.length <= 1000000000) (hg : l[a]? = some t)
  (hk : (t.k == 13 || (m == 0 && (t.k == 14 || t.k == 15))) = false) (hk3 : (t.k == 3) = false)
  (c43 : E lo 43 [.ptr (h.length + 2) 0, .ptr (h.length + 3) (m * 8), .v (.int .i64 (m + 1 : Nat))] (h ++ (tx h l E' D ++ [.cells S])) = some (.tup [], h ++ (tx h l E' D ++ [.cells S']))) :
  evCode ⟨Tryz.prog, E, lo, h.length, h16⟩ loopW l16x0 (N16 h l (m + 1) ex, H16 h l E' D S X) = some (.normal, N16 h l (m + 1) [], H16 h l E' D S' []) := by
 obtain ⟨hT, g0, g1, g2, hS, hJ, hm⟩ := hI
 have w1 : IntKind.i64.wrap (((m + 1 : Nat) : Int) - 1) = (m : Int) := by rw [wrap_i64 (by omega) (by omega)]; omega
 have a1 : (m : Int) < ((m + 1 : Nat) : Int) := by omega
 have l1 : lo <= h.length + 1 := by omega
 have l2 : lo <= h.length + 2 := by omega
 have l3 : lo <= h.length + 3 := by omega
 have l4 : lo <= h.length + 4 := by omega
 have l5 : lo <= h.length + 5 := by omega
 have l6 : lo <= h.length + 6 := by omega
 have eE := nt_okv (h.length + 4) E'
 have eD := nt_okv (h.length + 4) D
 have eS := (hJ (h.length + 4)).2
 have q1 : decide ((q : Int) <= (a : Int)) = false := by rw [decide_eq_false_iff_not]; omega
 have hgr : (l.map row)[a]? = some (row t) := by rw [List.getElem?_map, hg]; rfl
 obtain ⟨k13, hk⟩ := not16 hk
 simp only [row] at hgr
 simp only [tx, List.cons_append, List.nil_append] at c43
 rcases hk with e1 | ⟨e1, k14, k15⟩
 ·simp only [N16, H16, tx, List.cons_append, List.nil_append, go_sem, l16x0, b16, Tryz.f16, hlo, l1, l2, l3, l4, l5, l6, w1, a1, eE, eD, eS, g0, g1, q1, hgr, k13, hk3, e1, c43]
  all_goals rfl
 ·simp only [N16, H16, tx, List.cons_append, List.nil_append, go_sem, l16x0, b16, Tryz.f16, hlo, l1, l2, l3, l4, l5, l6, w1, a1, eE, eD, eS, g0, g1, q1, hgr, k13, k14, k15, hk3, e1, c43]
  all_goals rfl
theorem none16 {l : List Tk4} {E' D : List Nat} {S S' : List V} {m a q : Nat} {out : List Ru} {X : Heap} {ex : Env} {t : Tk4} (hlo : lo <= h.length) (hI : In16 h l E' D S m a q out) (haq : a < q) (hl : l.length <= 1000000000) (hg : l[a]? = some t)
  (hk : (t.k == 13 || (m == 0 && (t.k == 14 || t.k == 15))) = false) (hk3 : (t.k == 3) = true)
  (c42 : E lo 42 [.ptr (h.length + 2) 0, .ptr (h.length + 3) (m * 8), .v (.int .i64 (m + 1 : Nat))] (h ++ (tx h l E' D ++ [.cells S])) = some (.tup [.agg noLev, .v (.bool false)], h ++ (tx h l E' D ++ [.cells S']))) :
  ∃ ex' X', evCode ⟨Tryz.prog, E, lo, h.length, h16⟩ loopW l16x0 (N16 h l (m + 1) ex, H16 h l E' D S X) = some (.normal, N16 h l (m + 1) ex', H16 h l E' D S' X') := by
 obtain ⟨hT, g0, g1, g2, hS, hJ, hm⟩ := hI
 have w1 : IntKind.i64.wrap (((m + 1 : Nat) : Int) - 1) = (m : Int) := by rw [wrap_i64 (by omega) (by omega)]; omega
 have a1 : (m : Int) < ((m + 1 : Nat) : Int) := by omega
 have l1 : lo <= h.length + 1 := by omega
 have l2 : lo <= h.length + 2 := by omega
 have l3 : lo <= h.length + 3 := by omega
 have l4 : lo <= h.length + 4 := by omega
 have l5 : lo <= h.length + 5 := by omega
 have l6 : lo <= h.length + 6 := by omega
 have eE := nt_okv (h.length + 4) E'
 have eD := nt_okv (h.length + 4) D
 have eS := (hJ (h.length + 4)).2
 have q1 : decide ((q : Int) <= (a : Int)) = false := by rw [decide_eq_false_iff_not]; omega
 have hgr : (l.map row)[a]? = some (row t) := by rw [List.getElem?_map, hg]; rfl
 obtain ⟨k13, hk⟩ := not16 hk
 simp only [row] at hgr
 simp only [noLev, tx, List.cons_append, List.nil_append] at c42
 refine ⟨[(9, .ptr (h.length + 4) 0), (125, .v (.bool false))], [.cells noLev], ?_⟩
 rcases hk with e1 | ⟨e1, k14, k15⟩
 ·simp only [N16, H16, tx, List.cons_append, List.nil_append, go_sem, l16x0, b16, Tryz.f16, hlo, l1, l2, l3, l4, l5, l6, w1, a1, eE, eD, eS, g0, g1, noLev, q1, hgr, k13, hk3, e1, c42]
  all_goals rfl
 ·simp only [N16, H16, tx, List.cons_append, List.nil_append, go_sem, l16x0, b16, Tryz.f16, hlo, l1, l2, l3, l4, l5, l6, w1, a1, eE, eD, eS, g0, g1, noLev, q1, hgr, k13, k14, k15, hk3, e1, c42]
  all_goals rfl
theorem push16 {l : List Tk4} {E' D : List Nat} {S S' : List V} {m a q a1 q1' : Nat} {nm : List Int} {pr : List CV} {out : List Ru} {X : Heap} {ex : Env} {t : Tk4} (hlo : lo <= h.length) (hI : In16 h l E' D S m a q out) (haq : a < q) (hl : l.length <= 1000000000) (hg : l[a]? = some t)
  (hk : (t.k == 13 || (m == 0 && (t.k == 14 || t.k == 15))) = false) (hk3 : (t.k == 3) = true)
  (c42 : E lo 42 [.ptr (h.length + 2) 0, .ptr (h.length + 3) (m * 8), .v (.int .i64 (m + 1 : Nat))] (h ++ (tx h l E' D ++ [.cells S])) = some (.tup [.agg (newLev a1 q1' nm pr), .v (.bool true)], h ++ (tx h l E' D ++ [.cells S'])))
  {T j : List V} (hS' : S' = T ++ j) (hTl : T.length = (m + 1) * 8) (hTs : T.all (stkC (h.length + 3)) = true) (hTk : T.all (okv (h.length + 4)) = true) :
  evCode ⟨Tryz.prog, E, lo, h.length, h16⟩ loopW l16x0 (N16 h l (m + 1) ex, H16 h l E' D S X) = some (.normal, N16 h l (m + 1 + 1) [], H16 h l E' D (T ++ [.v (.int .i64 a1), .v (.int .i64 q1'), .list .yes [], .v (.int .i64 2), .v (.string (Rul.bs nm)), .list .no (rowsC pr), .list .yes [], .list .yes []]) []) := by
 obtain ⟨hT, g0, g1, g2, hS, hJ, hm⟩ := hI
 have w1 : IntKind.i64.wrap (((m + 1 : Nat) : Int) - 1) = (m : Int) := by rw [wrap_i64 (by omega) (by omega)]; omega
 have a1 : (m : Int) < ((m + 1 : Nat) : Int) := by omega
 have l1 : lo <= h.length + 1 := by omega
 have l2 : lo <= h.length + 2 := by omega
 have l3 : lo <= h.length + 3 := by omega
 have l4 : lo <= h.length + 4 := by omega
 have l5 : lo <= h.length + 5 := by omega
 have l6 : lo <= h.length + 6 := by omega
 have eE := nt_okv (h.length + 4) E'
 have eD := nt_okv (h.length + 4) D
 have eS := (hJ (h.length + 4)).2
 have q1 : decide ((q : Int) <= (a : Int)) = false := by rw [decide_eq_false_iff_not]; omega
 have hgr : (l.map row)[a]? = some (row t) := by rw [List.getElem?_map, hg]; rfl
 obtain ⟨k13, hk⟩ := not16 hk
 have hS0 : S'.take ((m + 1) * 8) = T := by rw [hS', List.take_left' hTl]
 have hSl : (m + 1) * 8 <= S'.length := by rw [hS', List.length_append, hTl]; omega
 have o1 := lim136 (show m + 1 <= 1000000000 by omega)
 have o2 : m + 1 <= 9223372036854775806 := by omega
 have o3 : m <= 9223372036854775805 := by omega
 have aE := nt_avf (h.length + 3) E'
 have aD := nt_avf (h.length + 3) D
 simp only [row] at hgr
 simp only [newLev, tx, List.cons_append, List.nil_append] at c42
 rcases hk with e1 | ⟨e1, k14, k15⟩
 ·simp only [N16, H16, tx, List.cons_append, List.nil_append, go_sem, l16x0, b16, Tryz.f16, hlo, l1, l2, l3, l4, l5, l6, w1, a1, eE, eD, eS, g0, g1, newLev, q1, hgr, k13, hk3, e1, c42, hS0, hSl, hTs, hTk, o1, o2, o3, aE, aD]
  all_goals rfl
 ·simp only [N16, H16, tx, List.cons_append, List.nil_append, go_sem, l16x0, b16, Tryz.f16, hlo, l1, l2, l3, l4, l5, l6, w1, a1, eE, eD, eS, g0, g1, newLev, q1, hgr, k13, k14, k15, hk3, e1, c42, hS0, hSl, hTs, hTk, o1, o2, o3, aE, aD]
  all_goals rfl
theorem pop16 {l : List Tk4} {E' D : List Nat} {S : List V} {k a q : Nat} {out gout : List Ru} {nm : List Int} {pr : List CV} {X : Heap} {ex : Env} (hlo : lo <= h.length) (hI : In16 h l E' D S (k + 1) a q out) (haq : q <= a) (ho : gout.length <= 1000000000)
  (hh : (S.drop ((k + 1) * 8 + 3)).take 5 = [.v (.int .i64 2), .v (.string (Rul.bs nm)), .list .no (rowsC pr), .list .yes [], .list .yes []]) (hg : S[k * 8 + 2]? = some (.list .yes (rusC gout))) :
  evCode ⟨Tryz.prog, E, lo, h.length, h16⟩ loopW l16x0 (N16 h l (k + 1 + 1) ex, H16 h l E' D S X) = some (.normal, N16 h l (k + 1) [], H16 h l E' D (S.set (k * 8 + 2) (.list .yes (rusC (gout ++ [Ru.mk 2 nm pr [] out])))) []) := by
 generalize hmk : k + 1 = m at *
 obtain ⟨hT, g0, g1, g2, hS, hJ, hm⟩ := hI
 have w1 : IntKind.i64.wrap (((m + 1 : Nat) : Int) - 1) = (m : Int) := by rw [wrap_i64 (by omega) (by omega)]; omega
 have a1 : (m : Int) < ((m + 1 : Nat) : Int) := by omega
 have l1 : lo <= h.length + 1 := by omega
 have l2 : lo <= h.length + 2 := by omega
 have l3 : lo <= h.length + 3 := by omega
 have l4 : lo <= h.length + 4 := by omega
 have l5 : lo <= h.length + 5 := by omega
 have l6 : lo <= h.length + 6 := by omega
 have eE := nt_okv (h.length + 4) E'
 have eD := nt_okv (h.length + 4) D
 have eS := (hJ (h.length + 4)).2
 have q1 : decide ((q : Int) <= (a : Int)) = true := by rw [decide_eq_true_iff]; omega
 have e1 : (((m + 1 : Nat) : Int) == 1) = false := by rw [beq_eq_false_iff_ne]; omega
 have w2 : IntKind.i64.wrap (((m + 1 : Nat) : Int) - 2) = (k : Int) := by rw [wrap_i64 (by omega) (by omega)]; omega
 have a2 : (k : Int) < (m : Int) := by omega
 have hml : m <= m + 1 := by omega
 have d5 : 5 <= (S.drop (m * 8 + 3)).length := by rw [List.length_drop]; omega
 have m1 : k * 8 + 2 + 1 <= S.length := by omega
 have m2 : k * 8 + 3 <= S.length := by omega
 have hkk : ∀ (x y : V), (S.set (k * 8 + 2) y).take (k * 8 + 2) ++ x :: (S.set (k * 8 + 2) y).drop (k * 8 + 2 + 1) = S.set (k * 8 + 2) x := fun x y => by
  rw [tk_set (by rw [List.length_set]; omega), List.set_set]
 have hkk3 : ∀ (x y : V), (S.set (k * 8 + 2) y).take (k * 8 + 2) ++ x :: (S.set (k * 8 + 2) y).drop (k * 8 + 3) = S.set (k * 8 + 2) x := hkk
 have o1 := lim96 ho
 have o2 := limC ho
 have rao := rusC_all gout
 have rbo := byteRow_rus gout
 have rlo := rusC_len gout
 have eE5 := nt_okv (h.length + 5) E'
 have eD5 := nt_okv (h.length + 5) D
 have eS5 := (hJ (h.length + 5)).2
 have eF : (S.set (k * 8 + 2) (.list .yes (rusC gout ++ [ruV (Ru.mk 2 nm pr [] out)]))).all (okv (h.length + 4)) = true := by
  rw [List.all_eq_true]
  intro x hx
  rcases List.mem_or_eq_of_mem_set hx with hx | rfl
  ·exact List.all_eq_true.1 eS x hx
  ·rfl
 rw [<- rusC_put]
 rw [ruV, List.map_nil] at eF ⊢
 generalize rusC gout = O at *
 simp only [N16, H16, tx, List.cons_append, List.nil_append, go_sem, l16x0, b16, Tryz.f16, hlo, l1, l2, l3, l4, l5, l6, w1, a1, eE, eD, eS, g0, g1, g2, hh, hg, d5, q1, e1, w2, a2, hml, m1, m2, hkk, hkk3, o1, o2, rao, rbo, rlo, eE5, eD5, eS5, eF, List.length_set, List.set_set]
 all_goals rfl
end Go.Lift.P8
end

section
open Go.Proofs
namespace Go.Lift.P8
open Rul
open Utf (By)
variable [MX]
variable {lo : Nat} {h : Heap}
theorem set_at {L M : List V} {i : Nat} (k : Nat) (h : L.length = i) (x : V) : (L ++ M).set (i + k) x = L ++ M.set k x := by
 subst h
 rw [List.set_append_right _ _ (by omega)]
 congr 2
 omega
theorem get_at {L M : List V} {i : Nat} (k : Nat) (h : L.length = i) : (L ++ M)[i + k]? = M[k]? := by
 subst h
 rw [List.getElem?_append_right (by omega)]
 congr 1
 omega
theorem fin_step {a a' q : Nat} {v : PV} {G G' : List PV} {out o : List Ru} {nm : List Int} {pr : List CV} {hd : List V} {r : List Rul.Fr} (hn : r.length + 1 <= 65)
  (h : stepR (restC (r.length + 2)) (decide (r.length + 1 <= 64)) (r.length + 1 == 1) (cvV v) (cvL G) = (o, cvL G')) :
  Rul.fin (⟨a, q, v :: G, out, nm, pr, hd⟩ :: r) = Rul.fin (⟨a', q, G', out ++ o, nm, pr, hd⟩ :: r) := by
 rw [Rul.fin, Rul.fin]
 simp only [cvL]
 rw [restC_step (by omega) hn, h, List.append_assoc]
 exact up_head (by rfl) (by rfl) _ r
theorem fin_push {a a' q a1 q1 : Nat} {v : PV} {G G' K : List PV} {out : List Ru} {nm nm1 : List Int} {pr pr1 : List CV} {hd hd1 : List V} {r : List Rul.Fr} (hn : r.length + 1 <= 65)
  (h : stepR (restC (r.length + 2)) (decide (r.length + 1 <= 64)) (r.length + 1 == 1) (cvV v) (cvL G) = ([Ru.mk 2 nm1 pr1 [] (restC (r.length + 2) (cvL K))], cvL G')) :
  Rul.fin (⟨a, q, v :: G, out, nm, pr, hd⟩ :: r) = Rul.fin (⟨a1, q1, K, [], nm1, pr1, hd1⟩ :: ⟨a', q, G', out, nm, pr, hd⟩ :: r) := by
 rw [Rul.fin, Rul.fin, up]
 simp only [cvL, List.length_cons, List.nil_append]
 rw [restC_step (by omega) hn, h, List.append_assoc]
 exact up_head (by rfl) (by rfl) _ r
theorem fin_pop {a q : Nat} {out : List Ru} {nm : List Int} {pr : List CV} {hd : List V} {g : Rul.Fr} {r : List Rul.Fr} :
  Rul.fin (⟨a, q, [], out, nm, pr, hd⟩ :: g :: r) = Rul.fin (⟨g.a, g.q, g.G, g.out ++ [Ru.mk 2 nm pr [] out], g.nm, g.pr, g.hd⟩ :: r) := by
 rw [Rul.fin, Rul.fin, up]
 simp only [cvL, restC_nil, List.append_nil]
 exact up_head (by rfl) (by rfl) _ r
theorem fin_last {a q : Nat} {out : List Ru} {nm : List Int} {pr : List CV} {hd : List V} : Rul.fin [⟨a, q, [], out, nm, pr, hd⟩] = out := by
 rw [Rul.fin, up]
 simp only [cvL, restC_nil, List.append_nil]
def Ok16 (l : List Tk4) (E D : List Nat) (B : Nat) : Nat -> List Rul.Fr -> Prop
 | _, [] => True
 | d, f :: r => (Lv l E D f.a f.q f.G /\ allL BtT (cvL f.G) /\ f.out.length + nodesL (cvL f.G) + d <= B /\ f.hd = bif r.isEmpty then hd0 else hdF f) /\ Ok16 l E D B 1 r
theorem ok_len {l : List Tk4} {E D : List Nat} {B : Nat} : ∀ {d : Nat} {fs : List Rul.Fr}, Ok16 l E D B d fs -> (lvC fs).length = fs.length * 8
 | _, [], _ => rfl
 | d, f :: r, h => by
  obtain ⟨⟨_, _, _, h4⟩, h5⟩ := h
  rw [lvC, List.length_append, ok_len h5, List.length_cons, cellsF, h4]
  cases r <;> simp only [List.isEmpty_nil, List.isEmpty_cons, cond_true, cond_false, hd0, hdF, List.length_cons, List.length_nil] <;> omega
theorem ok_all (P : V -> Bool) (h1 : ∀ i : Int, P (.v (.int .i64 i)) = true) (h2 : ∀ o x, P (.list o x) = true) (h3 : ∀ s, P (.v (.string s)) = true) {l : List Tk4} {E D : List Nat} {B : Nat} : ∀ {d : Nat} {fs : List Rul.Fr}, Ok16 l E D B d fs -> (lvC fs).all P = true
 | _, [], _ => rfl
 | d, f :: r, h => by
  obtain ⟨⟨_, _, _, h4⟩, h5⟩ := h
  rw [lvC, List.all_append, ok_all P h1 h2 h3 h5, cellsF, h4]
  cases r <;> simp only [List.isEmpty_nil, List.isEmpty_cons, cond_true, cond_false, hd0, hdF, List.all_cons, List.all_nil, h1, h2, h3, Bool.and_self]
theorem ok_jnk {l : List Tk4} {E D : List Nat} {B d : Nat} {fs : List Rul.Fr} (hk : Ok16 l E D B d fs) : Jnk (lvC fs) := fun i =>
 ⟨ok_all _ (fun _ => rfl) (fun _ _ => rfl) (fun _ => rfl) hk, ok_all _ (fun _ => rfl) (fun _ _ => rfl) (fun _ => rfl) hk⟩
theorem lv_a {a q : Nat} {G : List PV} {out : List Ru} {nm : List Int} {pr : List CV} {hd : List V} {r : List Rul.Fr} {j : List V} (a' : Nat) (G' : List PV) (hl : (lvC r).length = r.length * 8) : (lvC (⟨a, q, G, out, nm, pr, hd⟩ :: r) ++ j).set (r.length * 8) (.v (.int .i64 a')) = lvC (⟨a', q, G', out, nm, pr, hd⟩ :: r) ++ j := by
 rw [lvC, lvC, List.append_assoc, List.append_assoc]
 exact set_at 0 hl _
theorem lv_o {a q : Nat} {G : List PV} {out : List Ru} {nm : List Int} {pr : List CV} {hd : List V} {r : List Rul.Fr} {j : List V} (o : List Ru) (hl : (lvC r).length = r.length * 8) : (lvC (⟨a, q, G, out, nm, pr, hd⟩ :: r) ++ j).set (r.length * 8 + 2) (.list .yes (rusC o)) = lvC (⟨a, q, G, o, nm, pr, hd⟩ :: r) ++ j := by
 rw [lvC, lvC, List.append_assoc, List.append_assoc]
 exact set_at 2 hl _
theorem lv_g (f : Rul.Fr) (r : List Rul.Fr) (j : List V) (k : Nat) (hl : (lvC r).length = r.length * 8) : (lvC (f :: r) ++ j)[r.length * 8 + k]? = (cellsF f ++ j)[k]? := by
 rw [lvC, List.append_assoc]
 exact get_at k hl
theorem lv_frame {l : List Tk4} {E D : List Nat} {B d : Nat} {f : Rul.Fr} {r : List Rul.Fr} (hk : Ok16 l E D B d (f :: r)) {G' : List PV} {out' : List Ru} {a' : Nat} (d' : Nat) (h1 : Lv l E D a' f.q G') (h2 : allL BtT (cvL G')) (h3 : out'.length + nodesL (cvL G') + d' <= B) :
  Ok16 l E D B d' (⟨a', f.q, G', out', f.nm, f.pr, f.hd⟩ :: r) := ⟨⟨h1, h2, h3, hk.1.2.2.2⟩, hk.2⟩
theorem in16 {l : List Tk4} {E' D : List Nat} {B d : Nat} {f : Rul.Fr} {r : List Rul.Fr} {j : List V} (hT : ∀ Q : Heap, TOk (h ++ (tx h l E' D ++ Q)) l E' D (h.length + 2)) (hk : Ok16 l E' D B d (f :: r)) (hj : Jnk j) (hm : r.length <= 1000) :
  In16 h l E' D (lvC (f :: r) ++ j) r.length f.a f.q f.out := by
 have hl := ok_len hk.2
 have hl1 := ok_len hk
 refine ⟨hT, ?_, ?_, ?_, ?_, jnk_app (ok_jnk hk) hj, hm⟩
 ·exact lv_g f r j 0 hl
 ·exact lv_g f r j 1 hl
 ·exact lv_g f r j 2 hl
 ·rw [List.length_append, hl1, List.length_cons]; omega
theorem top1 (n : Nat) : (n + 1 == 1) = (n == 0) := by cases n <;> rfl
theorem loop16 {l : List Tk4} {E' D : List Nat} {B : Nat} (hlo : lo <= h.length) (hT : ∀ Q : Heap, TOk (h ++ (tx h l E' D ++ Q)) l E' D (h.length + 2)) (hB : B <= 1000000000) :
  ∀ (m : Nat) (f : Rul.Fr) (r : List Rul.Fr) (j : List V) (X : Heap) (ex : Env), muF (f :: r) <= m -> r.length + 1 <= 65 -> Ok16 l E' D B 0 (f :: r) -> Jnk j ->
   ∃ k Y, loopW (evCode ⟨Tryz.prog, E, lo, h.length, h16⟩ loopW l16x0) (N16 h l (r.length + 1) ex, H16 h l E' D (lvC (f :: r) ++ j) X) = some (.ret, [(2, .list k (rusC (Rul.fin (f :: r))))], h ++ Y)
 | 0, f, r, j, X, ex, hm, hn, hk, hj => by rw [muF] at hm; omega
 | m + 1, f, r, j, X, ex, hm, hn, hk, hj => by
  have hll := (hT []).ll
  have hI := in16 hT hk hj (by omega)
  have hlr := ok_len hk.2
  obtain ⟨h1, h2, h3, h4⟩ := hk.1
  rw [muF] at hm
  rw [loop_eq]
  by_cases haq : f.q <= f.a
  ·have hG : f.G = [] := by
    rcases h1 with h1 | ⟨h1, _⟩
    ·cases hg : f.G with
     | nil => rfl
     | cons v G => rw [hg] at h1; have := h1.lt; omega
    ·exact h1
   cases r with
   | nil =>
    obtain ⟨k, s', hs, Y, hY⟩ := last16 (X := X) (ex := ex) hlo hI haq
    subst hY
    obtain ⟨a, q, G, out, nm, pr, hd⟩ := f
    cases hG
    refine ⟨k, Y, ?_⟩
    rw [fin_last]
    rw [List.length_nil, Nat.zero_add, hs, loop_r]
   | cons g r =>
    obtain ⟨a, q, G, out, nm, pr, hd⟩ := f
    obtain ⟨ga, gq, gG, gout, gnm, gpr, ghd⟩ := g
    cases hG
    have hkg := hk.2
    have hlg := ok_len hkg.2
    obtain ⟨g1, g2, g3, g4⟩ := hkg.1
    replace g3 : gout.length + nodesL (cvL gG) + 1 <= B := g3
    replace hm : 2 * nodesL (cvL []) + 1 + (2 * nodesL (cvL gG) + 1 + muF r) <= m + 1 := hm
    have eS : lvC (⟨a, q, [], out, nm, pr, hd⟩ :: ⟨ga, gq, gG, gout, gnm, gpr, ghd⟩ :: r) ++ j = lvC (⟨ga, gq, gG, gout, gnm, gpr, ghd⟩ :: r) ++ (cellsF ⟨a, q, [], out, nm, pr, hd⟩ ++ j) := by
     rw [lvC, List.append_assoc]
    have hp := pop16 (k := r.length) (gout := gout) (nm := nm) (pr := pr) (X := X) (ex := ex) hlo hI haq (by omega) (by
     have h4 : hd = hdF ⟨a, q, [], out, nm, pr, hd⟩ := h4
     rw [eS, show (r.length + 1) * 8 + 3 = (lvC (⟨ga, gq, gG, gout, gnm, gpr, ghd⟩ :: r)).length + 3 by rw [hlr, List.length_cons], <- List.drop_drop, List.drop_left, cellsF, h4]
     rfl) (by
     rw [eS]
     exact lv_g ⟨ga, gq, gG, gout, gnm, gpr, ghd⟩ r _ 2 hlg)
    rw [eS, lv_o _ hlg] at hp
    rw [List.length_cons, eS, hp, loop_n]
    have hk2 : Ok16 l E' D B 0 (⟨ga, gq, gG, gout ++ [Ru.mk 2 nm pr [] out], gnm, gpr, ghd⟩ :: r) := lv_frame hkg 0 g1 g2 (by rw [List.length_append, List.length_singleton]; omega)
    rw [fin_pop]
    refine loop16 hlo hT hB m _ r _ [] [] ?_ (by rw [List.length_cons] at hn; omega) hk2 (jnk_app ?_ hj)
    ·rw [muF]
     simp only
     omega
    ·have h4 : hd = hdF ⟨a, q, [], out, nm, pr, hd⟩ := h4
     rw [h4]
     exact fun i => ⟨rfl, rfl⟩
  ·replace haq : f.a < f.q := by omega
   obtain ⟨a, q, G, out, nm, pr, hd⟩ := f
   simp only at haq h1 h2 h3 h4 hm
   replace hI : In16 h l E' D (lvC (⟨a, q, G, out, nm, pr, hd⟩ :: r) ++ j) r.length a q out := hI
   have hA : LaidAt l E' D a q G := by
    rcases h1 with h1 | ⟨_, h1⟩
    ·exact h1
    ·omega
   cases G with
   | nil => have := hA.nil; omega
   | cons v G =>
    have hhd := hA.head
    obtain ⟨y1, b1, hg1⟩ := hA.good
    have e0 : cvL (v :: G) = cvV v :: cvL G := by rw [cvL]
    have en : nodesL (cvL (v :: G)) = nodesV (cvV v) + nodesL (cvL G) := by rw [e0, nodesL_cons]
    have en2 := nodesV_eq (cvV v)
    have et : (r.length + 1 == 1) = (r.length == 0) := top1 r.length
    have ho9 : out.length <= 1000000000 := by omega
    have hn9 : nodesL (cvL (v :: G)) <= 1000000000 := by omega
    have hd9 : r.length + 1 <= 1000 := by omega
    have hsubG : ∀ {W : List CV}, W <:+ cvL G -> allL BtT W := fun hw => allL_sub h2 fun y hy => by rw [e0]; exact List.mem_cons_of_mem _ (hw.subset hy)
    cases hk1 : (v.t.k == 13 || (r.length == 0 && (v.t.k == 14 || v.t.k == 15))) with
    | true =>
     have hp := skip16 (X := X) (ex := ex) hlo hI haq hll hhd hk1
     rw [lv_a _ G hlr] at hp
     rw [hp, loop_n]
     have hc : closer v.t.k = 0 := by
      have : v.t.k = 13 \/ v.t.k = 14 \/ v.t.k = 15 := by
       simp only [Bool.or_eq_true, Bool.and_eq_true, beq_iff_eq] at hk1
       omega
      rcases this with h | h | h <;> rw [h] <;> rfl
     have hone := leaf_one (goodL_cons.1 hg1).1 hc
     have hA1 := hA.tail
     rw [hone] at hA1
     have hst : stepR (restC (r.length + 2)) (decide (r.length + 1 <= 64)) (r.length + 1 == 1) (cvV v) (cvL G) = ([], cvL G) := by
      unfold stepR
      rw [cv_k, et, hk1, if_pos rfl]
     rw [fin_step (a' := a + 1) (G' := G) hn hst, List.append_nil]
     exact loop16 hlo hT hB m _ r j [] [] (by rw [muF]; simp only; omega) hn (lv_frame hk 0 (.inl hA1) (hsubG (List.suffix_refl _)) (by omega)) hj
    | false =>
     cases hk3 : (v.t.k == 3) with
     | false =>
      obtain ⟨a', G', c43, hv, he⟩ := f43 (lo := lo) (d := r.length + 1) (top := r.length + 1 == 1) hlo hT hA hI.g0 hI.g1 hI.g2 hI.len ho9 h2 hn9 hd9 (by rw [et]; exact hk1) hk3 (restC (r.length + 2))
      have hp := style16 (X := X) (ex := ex) hlo hI haq hll hhd hk1 hk3 c43
      rw [lv_a _ G' hlr, lv_o _ hlr] at hp
      rw [hp, loop_n]
      have hsf := stepR_suf (restC (r.length + 2)) (decide (r.length + 1 <= 64)) (r.length + 1 == 1) (cvV v) (cvL G)
      have hst : stepR (restC (r.length + 2)) (decide (r.length + 1 <= 64)) (r.length + 1 == 1) (cvV v) (cvL G) = ((stepR (restC (r.length + 2)) (decide (r.length + 1 <= 64)) (r.length + 1 == 1) (cvV v) (cvL G)).1, cvL G') := by rw [he]
      rw [fin_step (a' := a') hn hst]
      rw [<- he] at hsf
      have hns := nodesL_suf hsf.1
      exact loop16 hlo hT hB m _ r j [] [] (by rw [muF]; simp only; omega) hn (lv_frame hk 0 hv (hsubG hsf.1) (by rw [List.length_append]; have := hsf.2; omega)) hj
     | true =>
      obtain ⟨a', G', hv, hc | hc⟩ := f42 (lo := lo) (d := r.length + 1) (top := r.length + 1 == 1) hlo hT hA hI.g0 hI.g1 hI.len h2 hn9 hd9 hk3
      ·obtain ⟨nm1, pr1, K, a1, q1, c42, hK, hd64, hKm, hKn, hst⟩ := hc
       have hst := hst (restC (r.length + 2))
       have hsf := stepR_suf (restC (r.length + 2)) (decide (r.length + 1 <= 64)) (r.length + 1 == 1) (cvV v) (cvL G)
       rw [hst] at hsf
       replace hsf : cvL G' <:+ cvL G := hsf.1
       have hns := nodesL_suf hsf
       have hk2 : Ok16 l E' D B 1 (⟨a', q, G', out, nm, pr, hd⟩ :: r) := lv_frame hk 1 hv (hsubG hsf) (by omega)
       rw [lv_a _ G' hlr] at c42
       have hp := push16 (X := X) (ex := ex) hlo hI haq hll hhd hk1 hk3 c42 rfl (by rw [ok_len hk2, List.length_cons]) (ok_all _ (fun _ => rfl) (fun _ _ => rfl) (fun _ => rfl) hk2) (ok_all _ (fun _ => rfl) (fun _ _ => rfl) (fun _ => rfl) hk2)
       rw [hp, loop_n]
       have eS : ∀ hd' : List V, hd' = [.v (.int .i64 2), .v (.string (Rul.bs nm1)), .list .no (rowsC pr1), .list .yes [], .list .yes []] -> lvC (⟨a', q, G', out, nm, pr, hd⟩ :: r) ++ [.v (.int .i64 a1), .v (.int .i64 q1), .list .yes [], .v (.int .i64 2), .v (.string (Rul.bs nm1)), .list .no (rowsC pr1), .list .yes [], .list .yes []] =
         lvC (⟨a1, q1, K, [], nm1, pr1, hd'⟩ :: ⟨a', q, G', out, nm, pr, hd⟩ :: r) ++ [] := fun hd' e => by
        rw [e, List.append_nil]
        show _ = lvC (⟨a', q, G', out, nm, pr, hd⟩ :: r) ++ [.v (.int .i64 a1), .v (.int .i64 q1), .list .yes (rusC []), .v (.int .i64 2), .v (.string (Rul.bs nm1)), .list .no (rowsC pr1), .list .yes [], .list .yes []]
        rw [rusC_nil]
       rw [eS _ rfl]
       rw [fin_push (a' := a') (a1 := a1) (q1 := q1) (hd1 := [.v (.int .i64 2), .v (.string (Rul.bs nm1)), .list .no (rowsC pr1), .list .yes [], .list .yes []]) hn hst]
       have hKb : allL BtT (cvL K) := allL_iff.2 fun y hy => by
        obtain ⟨z, hz, hyz⟩ := hKm y hy
        exact allL_iff.1 (allL_iff.1 h2 z hz).2 y hyz
       exact loop16 hlo hT hB m _ (⟨a', q, G', out, nm, pr, hd⟩ :: r) [] [] [] (by rw [muF, muF]; simp only; omega) (by rw [List.length_cons]; omega) ⟨⟨.inl hK, hKb, by simp only [List.length_nil]; omega, rfl⟩, hk2⟩ jnk_nil
      ·obtain ⟨c42, hst⟩ := hc
       have hst := hst (restC (r.length + 2))
       have hsf := stepR_suf (restC (r.length + 2)) (decide (r.length + 1 <= 64)) (r.length + 1 == 1) (cvV v) (cvL G)
       rw [hst] at hsf
       replace hsf : cvL G' <:+ cvL G := hsf.1
       have hns := nodesL_suf hsf
       rw [lv_a _ G' hlr] at c42
       obtain ⟨ex', X', hp⟩ := none16 (X := X) (ex := ex) hlo hI haq hll hhd hk1 hk3 c42
       rw [hp, loop_n]
       rw [fin_step (a' := a') hn hst, List.append_nil]
       exact loop16 hlo hT hB m _ r j X' ex' (by rw [muF]; simp only; omega) hn (lv_frame hk 0 hv (hsubG hsf) (by omega)) hj
theorem f16 {l : List Tk4} (hlo : lo <= h.length) (hl : l.length <= 500000000) (hB : ∀ t ∈ l, BtT t) : E lo 16 [.list .no (l.map row)] h = some (.list .no (rusC (rules (vals l))), h) := by
 have hn := nodes_vals l
 have hBa := allL_vals hB
 obtain ⟨F, rfl, hg⟩ := tree_of l
 rw [vals_toks hg] at hn hBa ⊢
 have c41 := f41 (lo := lo) (h := h) (l := toksL F) hlo hl
 have hT := fun Q : Heap => tok_of (l := toksL F) h Q hl
 obtain ⟨k, Y, hL⟩ := loop16 (B := 500000000) hlo hT (by omega) (muF [⟨0, (toksL F).length, F, [], [], [], hd0⟩]) ⟨0, (toksL F).length, F, [], [], [], hd0⟩ [] [] [] [] (Nat.le_refl _) (by simp) ⟨⟨.inl (laid_at hg), hBa, by simp only [List.length_nil]; omega, rfl⟩, trivial⟩ jnk_nil
 have ef : Rul.fin [⟨0, (toksL F).length, F, [], [], [], hd0⟩] = rules (cvL F) := by
  rw [Rul.fin, up, List.nil_append]
  rfl
 rw [ef] at hL
 have n0 : ((0 : Nat) : Int) = 0 := rfl
 have l1 : lo <= h.length + 1 := by omega
 have l2 : lo <= h.length + 2 := by omega
 have l3 : lo <= h.length + 3 := by omega
 have l4 : lo <= h.length + 4 := by omega
 rw [e16 (by simp) (by rfl)]
 simp only [tx] at c41
 simp only [l16x0, b16, Tryz.f16, loopAt, loops, bodyOf, go_sem, N16, H16, tx, lvC, cellsF, hd0, n0, rusC_nil, List.cons_append, List.nil_append, List.append_nil, List.length_nil, Nat.zero_add] at hL
 simp only [go_sem, b16, Tryz.f16, hlo, l1, l2, l3, l4, c41, hL, tx, n0, List.length_map, List.cons_append, List.nil_append]
 all_goals rfl
end Go.Lift.P8
end

section
open Go.Proofs
namespace Go.Lift.P8
open Rul
open Utf (By)
variable [MX]
mutual
theorem byV_all : ∀ v : CV, allV BtT v -> ByV v
 | .mk t ks, h => by rw [allV] at h; exact byV_eq.2 ⟨h.1.1, byL_all ks h.2⟩
theorem byL_all : ∀ l : List CV, allL BtT l -> ByL l
 | [], _ => by rw [ByL]; trivial
 | v :: r, h => by rw [allL] at h; exact byL_cons.2 ⟨byV_all v h.1, byL_all r h.2⟩
end
theorem imp_sub {l : List CV} {v : CV} (h : v ∈ (impOf l).1) : v ∈ l := by
 revert h
 unfold impOf
 split
 ·rename_i x y r e
  split
  ·split
   ·rename_i z s e2
    split
    ·intro h
     have h1 := trim_sub h
     have h2 : v ∈ s := by simpa using h1
     have h3 : v ∈ y :: r := by
      have h4 : v ∈ (y :: r).dropWhile spaceC := by rw [e2]; exact List.mem_cons_of_mem _ h2
      exact (List.dropWhile_suffix _).subset h4
     have h5 : v ∈ l.reverse := by rw [e]; exact List.mem_cons_of_mem _ h3
     simpa using h5
    ·exact id
   ·exact id
  ·exact id
 ·exact id
theorem by_nameOf {b : List Int} (h : By b) : By (nameOf b) := by
 unfold nameOf
 split
 ·exact h
 ·exact by_small h
theorem decl_wel {l : List CV} {d : Dc} (hB : allL BtT l) (hn : nodesL l <= 100000000) (h : decl l = some d) : OkE d := by
 cases l with
 | nil => rw [decl] at h; cases h
 | cons x l =>
  rw [decl] at h
  split at h
  ·cases h
  ·split at h
   ·cases h
   ·rename_i c r e
    split at h
    ·cases h
    ·split at h
     ·cases h
     ·cases h
      have hm : ∀ v ∈ r, v ∈ x :: l := fun v hv => by
       have h4 : v ∈ l.dropWhile spaceC := by rw [e]; exact List.mem_cons_of_mem _ hv
       exact List.mem_cons_of_mem _ ((List.dropWhile_suffix _).subset h4)
      have h1 := nodesL_imp (trim r)
      have h2 := nodesL_trim r
      have h3 : nodesL (c :: r) <= nodesL l := by rw [<- e]; exact nodesL_suffix (List.dropWhile_suffix _)
      rw [nodesL_cons] at h3 hn
      exact ⟨by_nameOf (allL_iff.1 hB x (by simp)).1.1, byL_all _ (allL_sub hB fun v hv => hm v (trim_sub (imp_sub hv))), by show nodesL (impOf (trim r)).1 <= _; omega⟩
theorem declsN_wel : ∀ (n : Nat) (l : List CV), allL BtT l -> nodesL l <= 100000000 -> ∀ d ∈ declsN n l, OkE d
 | 0, l, _, _, d, hd => by rw [declsN] at hd; cases hd
 | n + 1, [], _, _, d, hd => by rw [declsN] at hd; cases hd
 | n + 1, v :: r, hB, hn, d, hd => by
  rw [declsN] at hd
  split at hd
  ·exact declsN_wel n r (allL_sub hB fun y hy => List.mem_cons_of_mem _ hy) (by rw [nodesL_cons] at hn; omega) d hd
  ·split at hd
   ·have hs : ((v :: r).dropWhile (nor 17 23)).tail <:+ v :: r := (List.tail_suffix _).trans (List.dropWhile_suffix _)
    exact declsN_wel n _ (allL_sub hB fun y hy => hs.subset hy) (Nat.le_trans (nodesL_suffix hs) hn) d hd
   ·rcases List.mem_append.1 hd with hd | hd
    ·have hd : decl ((v :: r).takeWhile (nor 17 17)) = some d := by
      cases hh : decl ((v :: r).takeWhile (nor 17 17)) with
      | none => rw [hh] at hd; cases hd
      | some y => rw [hh] at hd; simp only [Option.toList, List.mem_singleton] at hd; rw [hd]
     have hs := List.takeWhile_prefix (p := nor 17 17) (l := v :: r)
     exact decl_wel (allL_sub hB fun y hy => hs.subset hy) (Nat.le_trans (nodesL_prefix hs) hn) hd
    ·have hs := List.dropWhile_suffix (p := nor 17 17) (l := v :: r)
     exact declsN_wel n _ (allL_sub hB fun y hy => hs.subset hy) (Nat.le_trans (nodesL_suffix hs) hn) d hd
theorem decls_wel {l : List CV} (hB : allL BtT l) (hn : nodesL l <= 100000000) : (decls l).length <= 1000000000 /\ ∀ d ∈ decls l, OkE d := by
 have h1 := declsN_len (l.length + 1) l
 have h2 := nodesL_len l
 refine ⟨?_, declsN_wel _ l hB hn⟩
 unfold decls
 omega
theorem stepR_wel {sub : List CV -> List Ru} {live top : Bool} {v : CV} {r : List CV} (hB : allL BtT (v :: r)) (hn : nodesL (v :: r) <= 100000000)
  (hsub : live = true -> ∀ l, allL BtT l -> nodesL l <= 100000000 -> (sub l).length <= 1000000000 /\ ∀ x ∈ sub l, WkR x) : ∀ x ∈ (stepR sub live top v r).1, WkR x := by
 intro u hu
 have kid : ∀ (f : CV -> Bool) (x : CV) (s : List CV), (v :: r).dropWhile f = x :: s -> allL BtT x.ks /\ nodesL x.ks <= 100000000 := fun f x s e => by
  have hm : x ∈ v :: r := (List.dropWhile_suffix f).subset (by rw [e]; simp)
  have h1 := nodesL_mem hm
  rw [nodesV_eq] at h1
  exact ⟨(allL_iff.1 hB x hm).2, by omega⟩
 have pre : ∀ f : CV -> Bool, ByL (trim ((v :: r).takeWhile f)) /\ nodesL (trim ((v :: r).takeWhile f)) <= 100000000 := fun f => by
  have hs := List.takeWhile_prefix (p := f) (l := v :: r)
  have h1 := nodesL_trim ((v :: r).takeWhile f)
  have h2 := nodesL_prefix hs
  exact ⟨byL_all _ (allL_sub hB fun y hy => hs.subset (trim_sub hy)), by omega⟩
 have pre2 : ∀ f : CV -> Bool, ByL (trim ((v :: r).takeWhile f).tail) /\ nodesL (trim ((v :: r).takeWhile f).tail) <= 100000000 := fun f => by
  have hs := List.takeWhile_prefix (p := f) (l := v :: r)
  have h1 := nodesL_trim ((v :: r).takeWhile f).tail
  have h2 := nodesL_prefix hs
  have h3 := nodesL_suffix (List.tail_suffix ((v :: r).takeWhile f))
  exact ⟨byL_all _ (allL_sub hB fun y hy => hs.subset ((List.tail_suffix _).subset (trim_sub hy))), by omega⟩
 unfold stepR at hu
 split at hu
 ·cases hu
 ·split at hu
  ·split at hu
   ·cases hu
   ·rename_i x s e
    simp only at hu
    split at hu
    ·rename_i hc
     have hl : live = true := by simp only [Bool.and_eq_true] at hc; exact hc.2
     rw [List.mem_singleton] at hu
     subst hu
     have hk := kid _ x s e
     have hs := hsub hl x.ks hk.1 hk.2
     exact wkR_eq.2 ⟨by_small (allL_iff.1 hB v (by simp)).1.1, (pre2 _).1, (pre2 _).2, by simp, fun d hd => (List.not_mem_nil hd).elim, hs.1, wkRs_of hs.2⟩
    ·cases hu
  ·split at hu
   ·cases hu
   ·rename_i x s e
    simp only at hu
    split at hu
    ·rw [List.mem_singleton] at hu
     subst hu
     have hk := kid _ x s e
     have hd := decls_wel hk.1 hk.2
     exact wkR_eq.2 ⟨fun c hc => (List.not_mem_nil hc).elim, (pre _).1, (pre _).2, hd.1, hd.2, by simp, wkRs_of fun y hy => (List.not_mem_nil hy).elim⟩
    ·cases hu
theorem rulesN_wel {sub : List CV -> List Ru} {live top : Bool} (hsub : live = true -> ∀ l, allL BtT l -> nodesL l <= 100000000 -> (sub l).length <= 1000000000 /\ ∀ x ∈ sub l, WkR x) : ∀ (n : Nat) (l : List CV), allL BtT l -> nodesL l <= 100000000 ->
  (rulesN sub live top n l).length <= l.length /\ ∀ x ∈ rulesN sub live top n l, WkR x
 | 0, l, _, _ => by rw [rulesN]; exact ⟨Nat.zero_le _, fun x hx => (List.not_mem_nil hx).elim⟩
 | n + 1, [], _, _ => by rw [rulesN]; exact ⟨Nat.zero_le _, fun x hx => (List.not_mem_nil hx).elim⟩
 | n + 1, v :: r, hB, hn => by
  have hs := stepR_suf sub live top v r
  have hw := stepR_wel (top := top) hB hn hsub
  have h1 := hs.1.length_le
  have h2 := nodesL_suffix hs.1
  obtain ⟨h3, h4⟩ := rulesN_wel (top := top) hsub n (stepR sub live top v r).2 (allL_sub hB fun y hy => List.mem_cons_of_mem _ (hs.1.subset hy)) (by rw [nodesL_cons] at hn; omega)
  rw [rulesN_step]
  refine ⟨?_, fun x hx => ?_⟩
  ·rw [List.length_append, List.length_cons]
   have := hs.2
   omega
  ·rcases List.mem_append.1 hx with hx | hx
   ·exact hw x hx
   ·exact h4 x hx
theorem rulesF_wel : ∀ (f : Nat) (top : Bool) (l : List CV), allL BtT l -> nodesL l <= 100000000 -> (rulesF f top l).length <= 1000000000 /\ ∀ x ∈ rulesF f top l, WkR x
 | 0, top, l, hB, hn => by
  have h1 := nodesL_len l
  rw [rulesF]
  have := rulesN_wel (sub := fun _ => []) (live := false) (top := top) (fun h => by cases h) (l.length + 1) l hB hn
  exact ⟨by omega, this.2⟩
 | f + 1, top, l, hB, hn => by
  have h1 := nodesL_len l
  rw [rulesF]
  have := rulesN_wel (sub := rulesF f false) (live := true) (top := top) (fun _ => rulesF_wel f false) (l.length + 1) l hB hn
  exact ⟨by omega, this.2⟩
theorem rules_wel {l : List Rul.Tk4} (hl : l.length <= 100000000) (hB : ∀ t ∈ l, BtT t) : (rules (vals l)).length <= 1000000000 /\ WkRs (rules (vals l)) := by
 have hn := nodes_vals l
 have := rulesF_wel 64 true (vals l) (allL_vals hB) (by omega)
 exact ⟨this.1, wkRs_of this.2⟩
end Go.Lift.P8
end

section
open Go.Proofs
namespace Go.Lift.P8
open Rul (rules vals rusC row)
open Utf (By)
variable [MX]
variable {lo : Nat} {h : Heap}
def awk : List Rul.Tk4 := [⟨1, [97], 0, 0, false, false⟩, ⟨23, [], 0, 0, false, false⟩, ⟨1, [98], 0, 0, false, false⟩, ⟨16, [], 0, 0, false, false⟩, ⟨1, [99], 0, 0, false, false⟩, ⟨24, [], 0, 0, false, false⟩]
theorem awk_rules : rules (vals awk) = [.mk 1 [] [.mk ⟨1, [97], 0, 0, false, false⟩ []] [⟨[98], [.mk ⟨1, [99], 0, 0, false, false⟩ []], false⟩] []] := by rfl
theorem awk_rusC : rusC (rules (vals awk)) = [[.v (.int .i64 1), .v (.string (Rul.bs [])), .list .no [[.v (.int .i64 1), .v (.string (Rul.bs [97])), .v (.int .i64 0), .v (.int .i64 0), .v (.bool false), .v (.bool false), .list .no []]],
  .list .no [[.v (.string (Rul.bs [98])), .list .no (Rul.rowsC [.mk ⟨1, [99], 0, 0, false, false⟩ []]), .v (.bool false)]], .list .no []]] := by
 rw [awk_rules]
 simp only [Rul.rusC, Rul.ruV, Rul.rowsC, Rul.rowV, Rul.declC, Rul.row, List.map_cons, List.map_nil, List.cons_append, List.nil_append, List.append_nil]
theorem awk_bt : ∀ t ∈ awk, BtT t := by
 unfold awk
 intro t ht
 simp only [List.mem_cons, List.mem_nil_iff, or_false] at ht
 rcases ht with rfl | rfl | rfl | rfl | rfl | rfl <;> refine ⟨fun c hc => ?_, ?_⟩ <;> simp_all <;> omega
theorem toks_awk : E 0 46 [.list .no (ri .u8 [97, 123, 98, 58, 99, 125])] [] = some (.list .no (awk.map Rul.row), []) :=
 ev_of (n := 60) (by kernel_rfl)
theorem f19a : E 0 19 [.list .no (ri .u8 [97, 123, 98, 58, 99, 125])] [] = some (.tup [.list .no (rusC (rules (vals awk))), .v (.int .i64 0)], []) := by
 have c46 : E 0 46 [.list .no [[V.v (.int .u8 97)], [V.v (.int .u8 123)], [V.v (.int .u8 98)], [V.v (.int .u8 58)], [V.v (.int .u8 99)], [V.v (.int .u8 125)]]] [] = some (.list .no (awk.map Rul.row), []) := toks_awk
 have c16 := f16 (lo := 0) (h := []) (l := awk) (Nat.zero_le _) (by decide) awk_bt
 generalize rusC (rules (vals awk)) = R at *
 generalize awk.map Rul.row = K at *
 show E 0 19 [.list .no [[V.v (.int .u8 97)], [V.v (.int .u8 123)], [V.v (.int .u8 98)], [V.v (.int .u8 58)], [V.v (.int .u8 99)], [V.v (.int .u8 125)]]] [] = _
 have q : decide ((16384 : Int) < ((6 : Nat) : Int)) = false := by decide
 rw [e19 (by simp) (by rfl)]
 simp only [go_sem, b19, Tryz.f19, c46, c16, q, List.length_nil, List.length_cons, Nat.zero_add, Nat.reduceAdd, Nat.le_refl]
 all_goals rfl
theorem f18 : E 0 18 [] [] = some (.v (.bool true), []) := by
 have k := f19a
 rw [awk_rusC] at k
 generalize hZ : Rul.rowsC [.mk ⟨1, [99], 0, 0, false, false⟩ []] = Z at k
 generalize hW : [V.v (Value.int IntKind.i64 1), .v (.string (Rul.bs [97])), .v (.int .i64 0), .v (.int .i64 0), .v (.bool false), .v (.bool false), .list .no []] = W at k
 have k : E 0 19 [.list .no [[.v (.int .u8 97)], [.v (.int .u8 123)], [.v (.int .u8 98)], [.v (.int .u8 58)], [.v (.int .u8 99)], [.v (.int .u8 125)]]] [] =
   some (.tup [.list .no [[.v (.int .i64 1), .v (.string ⟨#[]⟩), .list .no [W], .list .no [[.v (.string ⟨#[98]⟩), .list .no Z, .v (.bool false)]], .list .no []]], .v (.int .i64 0)], []) := k
 have q : ((⟨#[98]⟩ : ByteArray).toList == (⟨#[98]⟩ : ByteArray).toList) = true := by simp
 have e11 : (((1 : Nat) : Int) == 1) = true := rfl
 rw [e18 (by simp) (by rfl)]
 simp only [go_sem, b18, Tryz.f18, k, q, e11, Int.reduceBEq, List.length_nil, Nat.le_refl]
 all_goals rfl
end Go.Lift.P8
end

section
open Go.Proofs
namespace Go.Lift.P8
open Rul
variable [MX]
variable {lo : Nat} {h : Heap}
abbrev N48 (l : List CV) (d k : Int) : Env := [(1, .v (.int .i64 d)), (7, .list .no (rowsC l)), (8, .v (.int .i64 l.length)), (9, .v (.int .i64 k))]
theorem round54 {l : List CV} {v : CV} {n k : Nat} (hn : n <= 64) (hlo : lo <= h.length) (hl : nodesL l <= 1000000000000000000) (hg : l[k]? = some v)
  (ih : ∀ m, n = m + 1 -> ∀ lo ks h, lo <= h.length -> nodesL ks <= 1000000000000000000 -> E lo 54 [.list .no (rowsC ks), .v (.int .i64 ((m : Int)))] h = some (.v (.bool (mayL m ks)), h)) :
  evCode ⟨Tryz.prog, E, lo, h.length, h54⟩ loopW l54x0 (N48 l ((n : Int)) k, h) =
   if mayV n v = true then some (.normal, N48 l ((n : Int)) (k + 1 : Nat), h) else some (.ret, [(4, .v (.bool false))], h ++ [.cells (rowV v)]) := by
 obtain ⟨t, ks⟩ := v
 have hlt : k < l.length := (List.getElem?_eq_some_iff.1 hg).1
 have hgr : (rowsC l)[k]? = some (rowV (.mk t ks)) := by rw [rowsC_get, hg]; rfl
 have q : decide ((k : Int) < (l.length : Int)) = true := by simp; omega
 have hll := nodesL_len l
 have hkk : nodesL ks <= nodesL l := nodesL_get (v := .mk t ks) hg
 have hw : IntKind.i64.wrap ((k : Int) + 1) = ((k + 1 : Nat) : Int) := wrap_succ (by omega)
 have hlo' : lo <= h.length + 1 := by omega
 have c42 := fun lo hlo => f48 (lo := lo) (h := h ++ [.cells (rowV (.mk t ks))]) hlo t.k
 have c42a := c42 lo (by simp; omega); have c42b := c42 h.length (by simp); have c42c := c42 (h.length + 1) (by simp)
 clear c42
 rw [mayV_eq]
 rw [rowV_eq] at *
 by_cases a1 : t.k < 1
 ·have q1 : decide (t.k < 1) = true := by simpa using a1
  have : decide (1 <= t.k /\ t.k <= 24) = false := by rw [decide_eq_false_iff_not]; omega
  rw [this, Bool.false_and, if_neg (by simp)]
  simp only [go_sem, l54x0, b54, Tryz.f54, hlo, hlo', q, hgr, q1, rowsC_len]
  all_goals rfl
 have q1 : decide (t.k < 1) = false := by simpa using a1
 by_cases a2 : 24 < t.k
 ·have q2 : decide (24 < t.k) = true := by simpa using a2
  have : decide (1 <= t.k /\ t.k <= 24) = false := by rw [decide_eq_false_iff_not]; omega
  rw [this, Bool.false_and, if_neg (by simp)]
  simp only [go_sem, l54x0, b54, Tryz.f54, hlo, hlo', q, hgr, q1, q2, rowsC_len]
  all_goals rfl
 have q2 : decide (24 < t.k) = false := by simpa using a2
 have : decide (1 <= t.k /\ t.k <= 24) = true := by rw [decide_eq_true_iff]; omega
 rw [this, Bool.true_and]
 by_cases a3 : closer t.k = 0
 ·rw [if_pos a3]
  have q3 : (closer t.k == 0) = true := by simpa using a3
  cases ks with
  | nil =>
   have q4 : decide ((0 : Int) < ((0 : Nat) : Int)) = false := rfl
   rw [if_pos (show ([] : List CV).isEmpty = true from rfl)]
   simp only [go_sem, l54x0, b54, Tryz.f54, hlo, hlo', q, hgr, q1, q2, q3, q4, hw, c42a, c42b, c42c, rowsC_len, List.length_nil]
   all_goals rfl
  | cons x r =>
   have q4 : decide ((0 : Int) < ((r.length + 1 : Nat) : Int)) = true := by rw [decide_eq_true_iff]; omega
   rw [if_neg (show ¬ (x :: r).isEmpty = true by simp)]
   simp only [go_sem, l54x0, b54, Tryz.f54, hlo, hlo', q, hgr, q1, q2, q3, q4, hw, c42a, c42b, c42c, rowsC_len, List.length_cons]
   all_goals rfl
 ·rw [if_neg a3]
  have q3 : (closer t.k == 0) = false := by simpa using a3
  cases n with
  | zero =>
   have q5 : (((0 : Nat) : Int) == 0) = true := rfl
   rw [if_neg (show ¬ false = true by simp)]
   simp only [go_sem, l54x0, b54, Tryz.f54, hlo, hlo', q, hgr, q1, q2, q3, q5, hw, c42a, c42b, c42c, rowsC_len]
   all_goals rfl
  | succ m =>
   have q5 : (((m + 1 : Nat) : Int) == 0) = false := by rw [beq_eq_false_iff_ne]; omega
   have w2 : IntKind.i64.wrap (((m + 1 : Nat) : Int) - 1) = (m : Int) := by
    rw [wrap_i64 (by omega) (by omega)]; omega
   have c48 := fun lo hlo => ih m rfl lo ks (h ++ [.cells (rowV (.mk t ks))]) hlo (by omega)
   rw [rowV_eq] at c48
   have c48a := c48 lo (by simp; omega); have c48b := c48 h.length (by simp); have c48c := c48 (h.length + 1) (by simp)
   clear c48 ih
   show _ = if mayL m ks = true then _ else _
   cases hm : mayL m ks with
   | true =>
    rw [hm] at c48a c48b c48c
    rw [if_pos rfl]
    simp only [go_sem, l54x0, b54, Tryz.f54, hlo, hlo', q, hgr, q1, q2, q3, q5, hw, w2, c42a, c42b, c42c, c48a, c48b, c48c, rowsC_len]
    all_goals rfl
   | false =>
    rw [hm] at c48a c48b c48c
    rw [if_neg (by simp)]
    simp only [go_sem, l54x0, b54, Tryz.f54, hlo, hlo', q, hgr, q1, q2, q3, q5, hw, w2, c42a, c42b, c42c, c48a, c48b, c48c, rowsC_len]
    all_goals rfl
theorem stop54 {l : List CV} {d : Int} (hlo : lo <= h.length) : evCode ⟨Tryz.prog, E, lo, h.length, h54⟩ loopW l54x0 (N48 l d l.length, h) =
   some (.exit 0, N48 l d l.length ++ [(10, .v (.bool false))], h) := by
 have q : decide ((l.length : Int) < (l.length : Int)) = false := by simp
 simp only [go_sem, l54x0, b54, Tryz.f54, hlo, q]
 all_goals rfl
theorem loop54 {l : List CV} {n : Nat} (hn : n <= 64) (hlo : lo <= h.length) (hl : nodesL l <= 1000000000000000000)
  (ih : ∀ m, n = m + 1 -> ∀ lo ks h, lo <= h.length -> nodesL ks <= 1000000000000000000 -> E lo 54 [.list .no (rowsC ks), .v (.int .i64 ((m : Int)))] h = some (.v (.bool (mayL m ks)), h)) :
  ∀ (m k : Nat), k + m = l.length -> if mayL n (l.drop k) = true then
    loopW (evCode ⟨Tryz.prog, E, lo, h.length, h54⟩ loopW l54x0) (N48 l ((n : Int)) k, h) = some (.exit 0, N48 l ((n : Int)) l.length ++ [(10, .v (.bool false))], h)
   else ∃ X, loopW (evCode ⟨Tryz.prog, E, lo, h.length, h54⟩ loopW l54x0) (N48 l ((n : Int)) k, h) = some (.ret, [(4, .v (.bool false))], h ++ X) := by
 intro m
 induction m with
 | zero =>
  intro k hk
  obtain rfl : k = l.length := by omega
  rw [List.drop_length, if_pos (mayL_nil n), loop_eq, stop54 hlo, loop_e]
 | succ m ihm =>
  intro k hk
  have hlt : k < l.length := by omega
  have hg : l[k]? = some l[k] := List.getElem?_eq_getElem hlt
  have hd : l.drop k = l[k] :: l.drop (k + 1) := List.drop_eq_getElem_cons hlt
  rw [hd, mayL_cons]
  generalize l[k] = v at *
  have hr := round54 hn hlo hl hg ih
  cases hm : mayV n v with
  | false =>
   rw [hm, if_neg (by simp)] at hr
   rw [Bool.false_and, if_neg (by simp)]
   exact ⟨_, by rw [loop_eq, hr, loop_r]⟩
  | true =>
   rw [hm, if_pos rfl] at hr
   rw [Bool.true_and, loop_eq, hr, loop_n]
   exact ihm (k + 1) (by omega)
theorem f54 : ∀ (n : Nat), n <= 64 -> ∀ (lo : Nat) (l : List CV) (h : Heap), lo <= h.length -> nodesL l <= 1000000000000000000 -> E lo 54 [.list .no (rowsC l), .v (.int .i64 ((n : Int)))] h = some (.v (.bool (mayL n l)), h) := by
 intro n
 induction n with
 | zero =>
  intro hn lo l h hlo hl
  have hL := loop54 (lo := lo) (h := h) hn hlo hl (fun m hm => by omega) l.length 0 (by omega)
  have n0 : ((0 : Nat) : Int) = 0 := rfl
  rw [List.drop_zero] at hL
  rw [e54 (by simp) (by rfl)]
  cases hm : mayL 0 l with
  | false =>
   rw [hm, if_neg (by simp)] at hL
   obtain ⟨X, hL⟩ := hL
   simp only [l54x0, b54, Tryz.f54, loopAt, loops, bodyOf, go_sem, N48, n0] at hL
   simp only [go_sem, b54, Tryz.f54, hlo, hL, rowsC_len, n0]
   all_goals rfl
  | true =>
   rw [hm, if_pos rfl] at hL
   simp only [l54x0, b54, Tryz.f54, loopAt, loops, bodyOf, go_sem, N48, n0, List.cons_append, List.nil_append] at hL
   simp only [go_sem, b54, Tryz.f54, hlo, hL, rowsC_len, n0]
   all_goals rfl
 | succ n ih =>
  intro hn lo l h hlo hl
  have hL := loop54 (lo := lo) (h := h) hn hlo hl (fun m hm => by
   obtain rfl : n = m := by omega
   exact fun lo ks h hlo hk => ih (by omega) lo ks h hlo hk) l.length 0 (by omega)
  have n0 : ((0 : Nat) : Int) = 0 := rfl
  rw [List.drop_zero] at hL
  rw [e54 (by simp) (by rfl)]
  cases hm : mayL (n + 1) l with
  | false =>
   rw [hm, if_neg (by simp)] at hL
   obtain ⟨X, hL⟩ := hL
   simp only [l54x0, b54, Tryz.f54, loopAt, loops, bodyOf, go_sem, N48, n0] at hL
   simp only [go_sem, b54, Tryz.f54, hlo, hL, rowsC_len, n0]
   all_goals rfl
  | true =>
   rw [hm, if_pos rfl] at hL
   simp only [l54x0, b54, Tryz.f54, loopAt, loops, bodyOf, go_sem, N48, n0, List.cons_append, List.nil_append] at hL
   simp only [go_sem, b54, Tryz.f54, hlo, hL, rowsC_len, n0]
   all_goals rfl
theorem f32 {l : List CV} (hlo : lo <= h.length) (hl : nodesL l <= 1000000000000000000) : E lo 32 [.list .no (rowsC l)] h = some (.v (.bool (mayL 64 l)), h) := by
 have k := fun lo hlo => f54 64 (by omega) lo l h hlo hl
 rw [show ((64 : Nat) : Int) = 64 from rfl] at k
 have ka := k lo hlo; have kb := k h.length (Nat.le_refl _)
 rw [e32 (by simp) (by rfl)]
 simp only [go_sem, b32, Tryz.f32, hlo, ka, kb]
 all_goals rfl
end Go.Lift.P8
end
