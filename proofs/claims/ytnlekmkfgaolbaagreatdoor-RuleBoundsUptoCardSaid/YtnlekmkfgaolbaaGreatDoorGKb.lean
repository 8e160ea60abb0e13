/- May component values be? -/
import Derived.Test.YtnlekmkfgaolbaaGreatDoorGLc
import Derived.Test.YtnlekmkfgaolbaaGreatDoorGKa
import Derived.Test.YtnlekmkfgaolbaaGreatDoorGK8Basea
set_option linter.unusedVariables false
set_option linter.unusedSimpArgs false
set_option linter.unusedSectionVars false
set_option maxRecDepth 20000
set_option maxHeartbeats 4000000
section
open Go.Proofs
namespace Go.Lift.P8
open Rul
variable [MX]
variable {lo : Nat} {h : Heap}
theorem f52 (hlo : lo <= h.length) (k : Int) : E lo 52 [.v (.int .i64 k)] h = some (.v (.int .i64 (closer k)), h) := by
 rw [e52 (by simp) (by rfl)]
 unfold closer
 by_cases a : k = 19
 ·subst a; simp only [go_sem, b52, Tryz.f52, hlo]; all_goals rfl
 ·by_cases b : k = 23
  ·subst b; simp only [go_sem, b52, Tryz.f52, hlo]; all_goals rfl
  ·by_cases c : k = 2
   ·subst c; simp only [go_sem, b52, Tryz.f52, hlo]; all_goals rfl
   ·by_cases d : k = 21
    ·subst d; simp only [go_sem, b52, Tryz.f52, hlo]; all_goals rfl
    ·have ha : (k == 19) = false := by simpa using a
     have hb : (k == 23) = false := by simpa using b
     have hc : (k == 2) = false := by simpa using c
     have hd : (k == 21) = false := by simpa using d
     simp only [go_sem, b52, Tryz.f52, hlo, ha, hb, hc, hd, a, b, c, d, or_self, if_false]
theorem f48 (hlo : lo <= h.length) (k : Int) : E lo 48 [.v (.int .i64 k)] h = some (.v (.int .i64 (closer k)), h) := by
 rw [e48 (by simp) (by rfl)]
 unfold closer
 by_cases a : k = 19
 ·subst a; simp only [go_sem, b48, Tryz.f48, hlo]; all_goals rfl
 ·by_cases b : k = 23
  ·subst b; simp only [go_sem, b48, Tryz.f48, hlo]; all_goals rfl
  ·by_cases c : k = 2
   ·subst c; simp only [go_sem, b48, Tryz.f48, hlo]; all_goals rfl
   ·by_cases d : k = 21
    ·subst d; simp only [go_sem, b48, Tryz.f48, hlo]; all_goals rfl
    ·have ha : (k == 19) = false := by simpa using a
     have hb : (k == 23) = false := by simpa using b
     have hc : (k == 2) = false := by simpa using c
     have hd : (k == 21) = false := by simpa using d
     simp only [go_sem, b48, Tryz.f48, hlo, ha, hb, hc, hd, a, b, c, d, or_self, if_false]
theorem mayV_eq (n : Nat) (t : Tk4) (ks : List CV) : mayV n (.mk t ks) = (decide (1 <= t.k /\ t.k <= 24) && (if closer t.k = 0 then ks.isEmpty else match n with
  | 0 => false
  | n + 1 => mayL n ks)) := by
 cases n <;> rw [mayV]
theorem mayL_cons (n : Nat) (v : CV) (r : List CV) : mayL n (v :: r) = (mayV n v && mayL n r) := by rw [mayL]
theorem mayL_nil (n : Nat) : mayL n [] = true := by rw [mayL]
end Go.Lift.P8
end

section
open Go.Proofs
namespace Go.Lift.P8
open Rul
variable [MX]
variable {lo : Nat} {h : Heap}
theorem f78 (hlo : lo <= h.length) (v : CV) : E lo 78 [.agg (rowV v)] h = some (.v (.bool (spaceC v)), h) := by
 obtain ⟨t, ks⟩ := v
 rw [rowV_eq, e78 (by simp) (by rfl)]
 simp only [go_sem, b78, Tryz.f78, hlo]
 all_goals rfl
theorem rowsC_takeL (r : List CV) : (rowsC r).take r.length = rowsC r := by rw [rowsC_take, List.take_length]
abbrev N56 (l : List CV) : Env := [(0, .list .no (rowsC l))]
theorem round56a {v : CV} {r : List CV} (hlo : lo <= h.length) :
  evCode ⟨Tryz.prog, E, lo, h.length, h56⟩ loopW l56x0 (N56 (v :: r), h) =
   if spaceC v = true then some (.normal, N56 r, h) else some (.exit 0, N56 (v :: r) ++ [(11, .v (.bool false))], h) := by
 obtain ⟨t, ks⟩ := v
 have q : decide ((0 : Int) < ((r.length + 1 : Nat) : Int)) = true := by rw [decide_eq_true_iff]; omega
 have c := fun lo hlo => f78 (lo := lo) (h := h) hlo (.mk t ks)
 rw [rowV_eq] at c
 have ca := c lo hlo; have cb := c h.length (Nat.le_refl _)
 clear c
 cases hs : spaceC (.mk t ks) with
 | true =>
  rw [hs] at ca cb
  rw [if_pos rfl]
  simp only [go_sem, l56x0, b56, Tryz.f56, hlo, q, ca, cb, rowsC_cons, rowV_eq, rowsC_len, rowsC_takeL, rowsC_all, Nat.le_refl]
  all_goals rfl
 | false =>
  rw [hs] at ca cb
  rw [if_neg (by simp)]
  simp only [N56, go_sem, l56x0, b56, Tryz.f56, hlo, q, ca, cb, rowsC_cons, rowV_eq, rowsC_len, rowsC_takeL, rowsC_all, Nat.le_refl]
  all_goals rfl
theorem stop56a (hlo : lo <= h.length) : evCode ⟨Tryz.prog, E, lo, h.length, h56⟩ loopW l56x0 (N56 [], h) = some (.exit 0, N56 [] ++ [(11, .v (.bool false))], h) := by
 have q : decide ((0 : Int) < ((0 : Nat) : Int)) = false := rfl
 simp only [N56, go_sem, l56x0, b56, Tryz.f56, hlo, q, rowsC_nil]
 all_goals rfl
theorem loop56a (hlo : lo <= h.length) : ∀ l : List CV, loopW (evCode ⟨Tryz.prog, E, lo, h.length, h56⟩ loopW l56x0) (N56 l, h) = some (.exit 0, N56 (ltrim l) ++ [(11, .v (.bool false))], h)
 | [] => by
  rw [loop_eq, stop56a hlo, loop_e]
  rfl
 | v :: r => by
  rw [loop_eq, round56a hlo]
  have hl : ltrim (v :: r) = if spaceC v = true then ltrim r else v :: r := by
   unfold ltrim
   rw [List.dropWhile_cons]
  rw [hl]
  split
  ·rw [loop_n]
   exact loop56a hlo r
  ·rw [loop_e]
theorem round56b {v : CV} {r : List CV} {ex : Env} (hex : ex = [] \/ ex = [(11, .v (.bool false))]) (hlo : lo <= h.length) (hl : r.length <= 1000000000000) :
  evCode ⟨Tryz.prog, E, lo, h.length, h56⟩ loopW l56x1 (N56 (r ++ [v]) ++ ex, h) =
   if spaceC v = true then some (.normal, N56 r, h) else some (.exit 2, N56 (r ++ [v]) ++ [(25, .v (.bool false))], h) := by
 obtain ⟨t, ks⟩ := v
 have q : decide ((0 : Int) < ((r.length + 1 : Nat) : Int)) = true := by rw [decide_eq_true_iff]; omega
 have hw : IntKind.i64.wrap (((r.length + 1 : Nat) : Int) - 1) = (r.length : Int) := by rw [wrap_i64] <;> omega
 have hg : (rowsC (r ++ [.mk t ks]))[r.length]? = some (rowV (.mk t ks)) := by rw [rowsC_get]; simp
 have ht : (rowsC (r ++ [.mk t ks])).take r.length = rowsC r := by rw [rowsC_take]; simp
 have hll : (rowsC (r ++ [.mk t ks])).length = r.length + 1 := by rw [rowsC_len]; simp
 have c := fun lo hlo => f78 (lo := lo) (h := h) hlo (.mk t ks)
 rw [rowV_eq] at c hg
 have ca := c lo hlo; have cb := c h.length (Nat.le_refl _)
 clear c
 have hra := rowsC_all (r ++ [.mk t ks])
 have hle : r.length <= r.length + 1 := by omega
 unfold N56
 generalize rowsC (r ++ [.mk t ks]) = R at *
 cases hs : spaceC (.mk t ks) with
 | true =>
  rw [hs] at ca cb
  rw [if_pos rfl]
  rcases hex with rfl | rfl
  ·simp only [go_sem, l56x1, b56, Tryz.f56, hlo, q, ca, cb, hg, ht, hll, hw, hra, hle]
   all_goals rfl
  ·simp only [go_sem, l56x1, b56, Tryz.f56, hlo, q, ca, cb, hg, ht, hll, hw, hra, hle]
   all_goals rfl
 | false =>
  rw [hs] at ca cb
  rw [if_neg (by simp)]
  rcases hex with rfl | rfl
  ·simp only [go_sem, l56x1, b56, Tryz.f56, hlo, q, ca, cb, hg, ht, hll, hw, hra, hle]
   all_goals rfl
  ·simp only [go_sem, l56x1, b56, Tryz.f56, hlo, q, ca, cb, hg, ht, hll, hw, hra, hle]
   all_goals rfl
theorem stop56b {ex : Env} (hex : ex = [] \/ ex = [(11, .v (.bool false))]) (hlo : lo <= h.length) : evCode ⟨Tryz.prog, E, lo, h.length, h56⟩ loopW l56x1 (N56 [] ++ ex, h) = some (.exit 2, N56 [] ++ [(25, .v (.bool false))], h) := by
 have q : decide ((0 : Int) < ((0 : Nat) : Int)) = false := rfl
 rcases hex with rfl | rfl
 ·simp only [N56, go_sem, l56x1, b56, Tryz.f56, hlo, q, rowsC_nil]
  all_goals rfl
 ·simp only [N56, go_sem, l56x1, b56, Tryz.f56, hlo, q, rowsC_nil]
  all_goals rfl
theorem loop56b (hlo : lo <= h.length) : ∀ (n : Nat) (l : List CV) (ex : Env), l.length = n -> n <= 1000000000000 -> (ex = [] \/ ex = [(11, .v (.bool false))]) -> loopW (evCode ⟨Tryz.prog, E, lo, h.length, h56⟩ loopW l56x1) (N56 l ++ ex, h) = some (.exit 2, N56 (rtrim l) ++ [(25, .v (.bool false))], h)
 | 0, l, ex, hn, _, hex => by
  obtain rfl := List.eq_nil_of_length_eq_zero hn
  rw [loop_eq, stop56b hex hlo, loop_e, rtrim_nil]
 | n + 1, l, ex, hn, hb, hex => by
  obtain ⟨r, v, rfl⟩ : ∃ r v, l = r ++ [v] := ⟨l.dropLast, l.getLast (by intro e; rw [e] at hn; cases hn), (List.dropLast_concat_getLast _).symm⟩
  have hr : r.length = n := by simpa using hn
  rw [loop_eq, round56b hex hlo (by omega), rtrim_snoc]
  split
  ·rw [loop_n]
   have := loop56b hlo n r [] hr (by omega) (.inl rfl)
   rwa [List.append_nil] at this
  ·rw [loop_e]
theorem f56 {l : List CV} (hlo : lo <= h.length) (hl : l.length <= 1000000000) : E lo 56 [.list .no (rowsC l)] h = some (.list .no (rowsC (trim l)), h) := by
 have h1 := loop56a (lo := lo) (h := h) hlo l
 have hl2 : (ltrim l).length <= l.length := (List.dropWhile_suffix _).length_le
 have h2 := loop56b (lo := lo) (h := h) hlo _ (ltrim l) _ rfl (by omega) (.inr rfl)
 rw [<- trim_eq] at h2
 rw [e56 (by simp) (by rfl)]
 simp only [l56x0, l56x1, b56, Tryz.f56, loopAt, loops, bodyOf, go_sem, N56] at h1 h2
 simp only [go_sem, b56, Tryz.f56, hlo, h1, h2]
 all_goals rfl
end Go.Lift.P8
end

section
namespace Go.Lift.Rul
def topL : Stk -> List CV -> List CV
 | [], b => b
 | (_, ks) :: _, _ => ks
def stC : Stk -> List CV -> List V
 | [], b => [.list .yes (rowsC b)]
 | (_, ks) :: r, b => stC r b ++ [.list .yes (rowsC ks)]
def opnC : Stk -> List V
 | [] => []
 | (o, _) :: r => opnC r ++ row o
theorem stC_len : ∀ (s : Stk) (b : List CV), (stC s b).length = s.length + 1
 | [], _ => rfl
 | (_, _) :: r, b => by simp [stC, stC_len r b]
theorem opnC_len : ∀ s : Stk, (opnC s).length = s.length * 6
 | [] => rfl
 | (_, _) :: r => by simp [opnC, opnC_len r, row]; omega
theorem stC_all (p : V -> Bool) (h : ∀ l, p (.list .yes (rowsC l)) = true) : ∀ (s : Stk) (b : List CV), (stC s b).all p = true
 | [], b => by simp [stC, h]
 | (_, ks) :: r, b => by rw [stC, List.all_append, stC_all p h r b]; simp [h]
theorem row_allp (p : V -> Bool) (h : ∀ z, (∀ q, z ≠ Value.pointer q) -> p (.v z) = true) (t : Tk4) : (row t).all p = true := by
 simp only [row, List.all_cons, List.all_nil]
 rw [h _ (by simp), h _ (by simp), h _ (by simp), h _ (by simp), h _ (by simp), h _ (by simp)]
 rfl
theorem opnC_all (p : V -> Bool) (h : ∀ z, (∀ q, z ≠ Value.pointer q) -> p (.v z) = true) : ∀ s : Stk, (opnC s).all p = true
 | [] => rfl
 | (o, _) :: r => by rw [opnC, List.all_append, opnC_all p h r, row_allp p h]; rfl
theorem nilP_v {z : Value} (h : ∀ q, z ≠ Value.pointer q) : isNilP (.v z) = false := by
 cases z with
 | pointer q => exact absurd rfl (h q)
 | _ => rfl
theorem stk_v (i : Nat) (z : Value) (h : ∀ q, z ≠ Value.pointer q) : stkC i (.v z) = true := by
 unfold stkC
 rw [nilP_v h]
 rfl
theorem stk_l (i : Nat) (l : List CV) : stkC i (.list .yes (rowsC l)) = true := rfl
theorem stC_stk (i : Nat) (s : Stk) (b : List CV) : (stC s b).all (stkC i) = true := stC_all _ (stk_l i) s b
theorem opnC_stk (i : Nat) (s : Stk) : (opnC s).all (stkC i) = true := opnC_all _ (stk_v i) s
theorem stC_top : ∀ (s : Stk) (b : List CV) (j : List V), (stC s b ++ j)[s.length]? = some (.list .yes (rowsC (topL s b)))
 | [], _, _ => rfl
 | (_, ks) :: r, b, j => by
  have e : ((stC r b) ++ [V.list .yes (rowsC ks)])[r.length + 1]? = some (V.list .yes (rowsC ks)) := by rw [<- stC_len r b]; exact List.getElem?_concat_length
  rw [List.getElem?_append_left (by rw [stC_len]; exact Nat.lt_succ_self _)]
  exact e
theorem stC_under (p : Tk4 × List CV) (r : Stk) (b : List CV) (j : List V) : (stC (p :: r) b ++ j)[r.length]? = some (.list .yes (rowsC (topL r b))) := by
 obtain ⟨o, ks⟩ := p
 rw [stC, List.append_assoc]
 exact stC_top r b _
theorem stC_set : ∀ (s : Stk) (b : List CV) (j : List V) (v : CV), (stC s b ++ j).set s.length (.list .yes (rowsC (topL s b ++ [v]))) = stC (addTop v s b).1 (addTop v s b).2 ++ j
 | [], _, _, _ => rfl
 | (o, ks) :: r, b, j, v => by
  have hl := stC_len r b
  simp only [stC, addTop, topL, List.length_cons, List.append_assoc, List.singleton_append]
  rw [List.set_append, if_neg (by omega), hl, Nat.sub_self]
  rfl
theorem stC_shut (o : Tk4) (ks : List CV) (r : Stk) (b : List CV) (j : List V) : (stC ((o, ks) :: r) b ++ j).set r.length (.list .yes (rowsC (topL r b ++ [.mk o ks]))) = stC (shutS ((o, ks) :: r) b).1 (shutS ((o, ks) :: r) b).2 ++ (.list .yes (rowsC ks) :: j) := by
 rw [stC, List.append_assoc, List.singleton_append, stC_set r b _ (.mk o ks)]
 rfl
theorem stC_take (s : Stk) (b : List CV) (j : List V) : (stC s b ++ j).take ((s.length + 1) * 1) = stC s b := by
 rw [Nat.mul_one, <- stC_len s b, List.take_left]
theorem opnC_take (s : Stk) (j : List V) : (opnC s ++ j).take (s.length * 6) = opnC s := by
 rw [<- opnC_len s, List.take_left]
theorem opnC_top (o : Tk4) (ks : List CV) (r : Stk) (j : List V) : ((opnC ((o, ks) :: r) ++ j).drop (r.length * 6)).take 6 = row o := by
 rw [opnC, List.append_assoc, <- opnC_len r, List.drop_left]
 rfl
theorem opnC_kind (o : Tk4) (ks : List CV) (r : Stk) (j : List V) : (opnC ((o, ks) :: r) ++ j)[r.length * 6]? = some (.v (.int .i64 o.k)) := by
 rw [opnC, List.append_assoc, <- opnC_len r, List.getElem?_append_right (Nat.le_refl _), Nat.sub_self]
 rfl
theorem opnC_addTop (v : CV) : ∀ (s : Stk) (b : List CV), opnC (addTop v s b).1 = opnC s
 | [], _ => rfl
 | (_, _) :: _, _ => rfl
def szS : Stk -> Nat
 | [] => 0
 | p :: r => 1 + p.2.length + szS r
theorem szS_len : ∀ s : Stk, s.length <= szS s
 | [] => Nat.le_refl _
 | p :: r => by have := szS_len r; simp only [szS, List.length_cons]; omega
theorem szS_top : ∀ (s : Stk) (b : List CV), (topL s b).length <= szS s + b.length
 | [], b => by simp [topL]
 | (o, ks) :: r, b => by simp only [topL, szS]; omega
theorem szS_add (v : CV) : ∀ (s : Stk) (b : List CV), szS (addTop v s b).1 + (addTop v s b).2.length = szS s + b.length + 1
 | [], b => by simp [addTop, szS]
 | (o, ks) :: r, b => by simp only [addTop, szS, List.length_append, List.length_cons, List.length_nil]; omega
theorem szS_shut (o : Tk4) (ks : List CV) (r : Stk) (b : List CV) : szS (shutS ((o, ks) :: r) b).1 + (shutS ((o, ks) :: r) b).2.length <= szS ((o, ks) :: r) + b.length := by
 have := szS_add (.mk o ks) r b
 simp only [shutS, szS] at *
 omega
def Opn (s : Stk) : Prop := ∀ p ∈ s, closer p.1.k ≠ 0
theorem opn_add {v : CV} : ∀ {s : Stk} {b : List CV}, Opn s -> Opn (addTop v s b).1
 | [], _, h => h
 | (o, ks) :: r, _, h => by
  intro p hp
  rcases List.mem_cons.1 hp with rfl | hp
  ·exact h (o, ks) (List.mem_cons_self ..)
  ·exact h _ (List.mem_cons_of_mem _ hp)
theorem opn_shut {o : Tk4} {ks : List CV} {r : Stk} {b : List CV} (h : Opn ((o, ks) :: r)) : Opn (shutS ((o, ks) :: r) b).1 :=
 opn_add fun p hp => h p (List.mem_cons_of_mem _ hp)
theorem opn_step {t : Tk4} {s : Stk} {b : List CV} (h : Opn s) : Opn (stepS t s b).1 := by
 unfold stepS
 split
 ·cases s with
  | nil => exact h
  | cons p r => obtain ⟨o, ks⟩ := p; exact opn_shut h
 ·split
  ·intro p hp
   rcases List.mem_cons.1 hp with rfl | hp
   ·assumption
   ·exact h p hp
  ·exact opn_add h
theorem szS_step (t : Tk4) (s : Stk) (b : List CV) : szS (stepS t s b).1 + (stepS t s b).2.length <= szS s + b.length + 1 := by
 unfold stepS
 split
 ·cases s with
  | nil => exact Nat.le_succ _
  | cons p r => obtain ⟨o, ks⟩ := p; have := szS_shut o ks r b; omega
 ·split
  ·simp only [szS, List.length_nil]; omega
  ·have := szS_add (.mk t []) s b; omega
end Go.Lift.Rul
end

section
open Go.Proofs
namespace Go.Lift.P8
open Rul
variable [MX]
variable {lo : Nat} {h : Heap}
theorem lim72 {n : Nat} (h : n <= 1000000000) : (n + 1) * 72 <= 140737488355328 := by omega
theorem limC {n : Nat} (h : n <= 1000000000) : n <= 9223372036854775806 := by omega
theorem f51a {p : List Ob} {sc oc : List V} {n : Nat} {t : Tk4} {r ks : List CV} (hlo : lo <= p.length) (hn : n <= 1000000000)
  (h1 : sc[n]? = some (.list .yes (rowsC r))) (h2 : sc[n + 1]? = some (.list .yes (rowsC ks))) (hr : r.length <= 1000000000)
  (hol : (n + 1) * 6 <= oc.length) (hoc : (oc.drop (n * 6)).take 6 = row t) :
  E lo 51 [.ptr (p.length + 1) 0, .ptr (p.length + 2) 0] (p ++ [.cells sc, .cells [.stk p.length (n + 2) 1], .cells [.stk (p.length + 3) (n + 1) 6], .cells oc]) =
   some (.tup [], p ++ [.cells (sc.set n (.list .yes (rowsC (r ++ [.mk t ks])))), .cells [.stk p.length (n + 1) 1], .cells [.stk (p.length + 3) n 6], .cells oc]) := by
 have w1 : IntKind.i64.wrap (((n + 2 : Nat) : Int) - 1) = ((n + 1 : Nat) : Int) := by rw [wrap_i64] <;> omega
 have w2 : IntKind.i64.wrap (((n + 1 : Nat) : Int) - 1) = (n : Int) := by rw [wrap_i64] <;> omega
 have q1 : (n : Int) < ((n + 1 : Nat) : Int) := by omega
 have q2 : ((n + 1 : Nat) : Int) < ((n + 2 : Nat) : Int) := by omega
 have q3 : (n : Int) < ((n + 2 : Nat) : Int) := by omega
 have hs0 : n + 1 < sc.length := (List.getElem?_eq_some_iff.1 h2).1
 have hs : n < sc.length := by omega
 have hs1 : n + 1 <= sc.length := hs
 have hk : ∀ (x y : V), (sc.set n y).take n ++ x :: (sc.set n y).drop (n + 1) = sc.set n x := fun x y => by rw [tk_set (by rw [List.length_set]; exact hs), List.set_set]
 have e1 : (n + 2) * 1 <= sc.length := by omega
 have e2 : 6 <= (oc.drop (n * 6)).length := by rw [List.length_drop]; omega
 have o1 : (r.length + 1) * 72 <= 140737488355328 := lim72 hr
 have o2 : r.length <= 9223372036854775806 := limC hr
 have ra := rowsC_all r
 have l1 : lo <= p.length + 1 := by omega
 have l2 : lo <= p.length + 2 := by omega
 have l3 : lo <= p.length + 3 := by omega
 have l4 : lo <= p.length + 4 := by omega
 have l5 : lo <= p.length + 5 := by omega
 have l6 : lo <= p.length + 6 := by omega
 rw [e51 (by simp) (by rfl)]
 simp only [go_sem, b51, Tryz.f51, hlo, w1, w2, q1, q2, q3, h1, h2, hol, hoc, row, e1, e2, hs, hs0, o1, o2, ra, hs1, hk, List.length_set, List.set_set, rowsC_len, rowsC_app, rowsC_cons, rowsC_nil, rowV_eq, l1, l2, l3, l4, l5, l6, Nat.mul_one, Nat.le_add_right, Nat.le_refl, Nat.add_le_add_iff_left]
 all_goals rfl
end Go.Lift.P8
end

section
open Go.Proofs
namespace Go.Lift.P8
open Rul
variable [MX]
variable {lo : Nat} {h : Heap}
def nt (l : List Nat) : List V := l.map fun n : Nat => V.v (.int .i64 (n : Int))
theorem nt_len (l : List Nat) : (nt l).length = l.length := List.length_map _
theorem nt_get (l : List Nat) (i : Nat) : (nt l)[i]? = (l[i]?).map fun n : Nat => V.v (.int .i64 (n : Int)) := List.getElem?_map ..
theorem nt_set (l : List Nat) (i n : Nat) : (nt l).set i (.v (.int .i64 n)) = nt (l.set i n) := by simp [nt, List.map_set]
theorem nt_at {l : List Nat} {i : Nat} (h : i < l.length) : (nt l)[i]? = some (.v (.int .i64 (l.getD i 0 : Nat))) := by
 rw [nt_get, List.getElem?_eq_getElem h]
 simp [List.getD_eq_getElem?_getD, h]
abbrev tx (p : Heap) (l : List Tk4) (E D : List Nat) : List Ob := [.cells (nt E), .cells (nt D), .cells [.list .no (l.map row), .stk p.length l.length 1, .stk (p.length + 1) l.length 1]]
theorem f63a {p : List Ob} {S : List V} {l : List Tk4} {E' D : List Nat} {i a : Nat} (hlo : lo <= p.length) (hN : l.length <= 1000000000) (hE : E'.length = l.length) (hD : D.length = l.length) (hb : ∀ q, D.getD q 0 <= 1000000000)
  (h1 : S[0]? = some (.v (.int .i64 (i : Nat)))) (hi : i < l.length) :
  E lo 63 [.v (.int .i64 (a : Nat)), .ptr (p.length + 4) 0, .ptr (p.length + 3) 0] (p ++ (tx p l E' D ++ [.cells [.ptr (p.length + 2) 0], .cells [.stk (p.length + 5) 1 1], .cells S])) =
   some (.tup [], p ++ (tx p l (E'.set i a) (D.set i (D.getD i 0 + 1)) ++ [.cells [.ptr (p.length + 2) 0], .cells [.stk (p.length + 5) 0 1], .cells S])) := by
 have w1 : IntKind.i64.wrap (((1 : Nat) : Int) - 1) = ((0 : Nat) : Int) := by rw [wrap_i64] <;> omega
 have w2 : IntKind.i64.wrap (((D.getD i 0 : Nat) : Int) + 1) = ((D.getD i 0 + 1 : Nat) : Int) := wrap_succ (by have := hb i; omega)
 have q1 : (0 : Int) < ((1 : Nat) : Int) := by decide
 have q2 : (i : Int) < (l.length : Int) := by omega
 have g0 : ∀ L : List Nat, L.length = l.length -> i + 1 <= (nt L).length := fun L hL => by rw [nt_len, hL]; exact hi
 have gE := g0 E' hE
 have gD := g0 D hD
 have dD := nt_at (show i < D.length by omega)
 have sE := nt_set E' i a
 have sD := nt_set D i (D.getD i 0 + 1)
 have q3 : decide ((0 : Int) < ((0 : Nat) : Int)) = false := rfl
 have l1 : lo <= p.length + 1 := by omega
 have l2 : lo <= p.length + 2 := by omega
 have l3 : lo <= p.length + 3 := by omega
 have l4 : lo <= p.length + 4 := by omega
 have l5 : lo <= p.length + 5 := by omega
 have l6 : lo <= p.length + 6 := by omega
 have l7 : lo <= p.length + 7 := by omega
 rw [e63 (by simp) (by rfl)]
 simp only [tx, List.cons_append, List.nil_append, go_sem, b63, Tryz.f63, hlo, w1, w2, q1, q2, h1, gE, gD, dD, sE, sD, q3, l1, l2, l3, l4, l5, l6, l7, Nat.mul_one]
 all_goals rfl
theorem f63b {p : List Ob} {S xs : List V} {l : List Tk4} {E' D : List Nat} {i a : Nat} (hlo : lo <= p.length) (hN : l.length <= 1000000000) (hE : E'.length = l.length) (hD : D.length = l.length) (hb : ∀ q, D.getD q 0 <= 1000000000)
  (h1 : S[0]? = some (.v (.int .i64 (i : Nat)))) (hi : i < l.length) :
  E lo 63 [.v (.int .i64 (a : Nat)), .ptr (p.length + 4) 0, .ptr (p.length + 3) 0] (p ++ (tx p l E' D ++ [.cells [.ptr (p.length + 2) 0], .cells [.stk (p.length + 5) 1 1], .cells S, .cells xs])) =
   some (.tup [], p ++ (tx p l (E'.set i a) (D.set i (D.getD i 0 + 1)) ++ [.cells [.ptr (p.length + 2) 0], .cells [.stk (p.length + 5) 0 1], .cells S, .cells xs])) := by
 have w1 : IntKind.i64.wrap (((1 : Nat) : Int) - 1) = ((0 : Nat) : Int) := by rw [wrap_i64] <;> omega
 have w2 : IntKind.i64.wrap (((D.getD i 0 : Nat) : Int) + 1) = ((D.getD i 0 + 1 : Nat) : Int) := wrap_succ (by have := hb i; omega)
 have q1 : (0 : Int) < ((1 : Nat) : Int) := by decide
 have q2 : (i : Int) < (l.length : Int) := by omega
 have g0 : ∀ L : List Nat, L.length = l.length -> i + 1 <= (nt L).length := fun L hL => by rw [nt_len, hL]; exact hi
 have gE := g0 E' hE
 have gD := g0 D hD
 have dD := nt_at (show i < D.length by omega)
 have sE := nt_set E' i a
 have sD := nt_set D i (D.getD i 0 + 1)
 have q3 : decide ((0 : Int) < ((0 : Nat) : Int)) = false := rfl
 have l1 : lo <= p.length + 1 := by omega
 have l2 : lo <= p.length + 2 := by omega
 have l3 : lo <= p.length + 3 := by omega
 have l4 : lo <= p.length + 4 := by omega
 have l5 : lo <= p.length + 5 := by omega
 have l6 : lo <= p.length + 6 := by omega
 have l7 : lo <= p.length + 7 := by omega
 rw [e63 (by simp) (by rfl)]
 simp only [tx, List.cons_append, List.nil_append, go_sem, b63, Tryz.f63, hlo, w1, w2, q1, q2, h1, gE, gD, dD, sE, sD, q3, l1, l2, l3, l4, l5, l6, l7, Nat.mul_one]
 all_goals rfl
theorem f63c {p : List Ob} {S : List V} {l : List Tk4} {E' D : List Nat} {i a : Nat} {m j : Nat} (hlo : lo <= p.length) (hN : l.length <= 1000000000) (hE : E'.length = l.length) (hD : D.length = l.length) (hb : ∀ q, D.getD q 0 <= 1000000000)
  (h1 : S[m + 1]? = some (.v (.int .i64 (i : Nat)))) (hi : i < l.length) (h2 : S[m]? = some (.v (.int .i64 (j : Nat)))) (hj : j < l.length) (hm : m <= 1000000000) :
  E lo 63 [.v (.int .i64 (a : Nat)), .ptr (p.length + 4) 0, .ptr (p.length + 3) 0] (p ++ (tx p l E' D ++ [.cells [.ptr (p.length + 2) 0], .cells [.stk (p.length + 5) ((m + 1) + 1) 1], .cells S])) =
   some (.tup [], p ++ (tx p l (E'.set i a) ((D.set i (D.getD i 0 + 1)).set j (max (D.getD j 0) (D.getD i 0 + 1))) ++ [.cells [.ptr (p.length + 2) 0], .cells [.stk (p.length + 5) (m + 1) 1], .cells S])) := by
 have w1 : IntKind.i64.wrap ((((m + 1) + 1 : Nat) : Int) - 1) = (((m + 1) : Nat) : Int) := by rw [wrap_i64] <;> omega
 have w2 : IntKind.i64.wrap (((D.getD i 0 : Nat) : Int) + 1) = ((D.getD i 0 + 1 : Nat) : Int) := wrap_succ (by have := hb i; omega)
 have q1 : (((m + 1) : Nat) : Int) < (((m + 1) + 1 : Nat) : Int) := by omega
 have q2 : (i : Int) < (l.length : Int) := by omega
 have g0 : ∀ L : List Nat, L.length = l.length -> i + 1 <= (nt L).length := fun L hL => by rw [nt_len, hL]; exact hi
 have gE := g0 E' hE
 have gD := g0 D hD
 have dD := nt_at (show i < D.length by omega)
 have sE := nt_set E' i a
 have sD := nt_set D i (D.getD i 0 + 1)
 have q3 : decide ((0 : Int) < ((m + 1 : Nat) : Int)) = true := by rw [decide_eq_true_iff]; omega
 have w3 : IntKind.i64.wrap (((m + 1 : Nat) : Int) - 1) = (m : Int) := by rw [wrap_i64] <;> omega
 have q4 : (m : Int) < ((m + 1 : Nat) : Int) := by omega
 have q5 : (j : Int) < (l.length : Int) := by omega
 have hD2 : (D.set i (D.getD i 0 + 1)).length = l.length := by rw [List.length_set]; exact hD
 have d2i : (nt (D.set i (D.getD i 0 + 1)))[i]? = some (.v (.int .i64 ((D.getD i 0 + 1 : Nat) : Int))) := by
  rw [nt_at (by rw [hD2]; exact hi), getD_set_eq (by omega)]
 have d2j := nt_at (show j < (D.set i (D.getD i 0 + 1)).length by rw [hD2]; exact hj)
 have gD2 : j + 1 <= (nt (D.set i (D.getD i 0 + 1))).length := by rw [nt_len, hD2]; exact hj
 have ex : (if (((D.set i (D.getD i 0 + 1)).getD j 0 : Nat) : Int) < ((D.getD i 0 + 1 : Nat) : Int) then ((D.getD i 0 + 1 : Nat) : Int) else (((D.set i (D.getD i 0 + 1)).getD j 0 : Nat) : Int)) = ((max (D.getD j 0) (D.getD i 0 + 1) : Nat) : Int) := by
  by_cases hij : j = i
  ·subst hij
   rw [getD_set_eq (by omega)]
   split <;> omega
  ·rw [getD_set_ne' hij]
   split <;> omega
 have sD2 := nt_set (D.set i (D.getD i 0 + 1)) j (max (D.getD j 0) (D.getD i 0 + 1))
 have l1 : lo <= p.length + 1 := by omega
 have l2 : lo <= p.length + 2 := by omega
 have l3 : lo <= p.length + 3 := by omega
 have l4 : lo <= p.length + 4 := by omega
 have l5 : lo <= p.length + 5 := by omega
 have l6 : lo <= p.length + 6 := by omega
 have l7 : lo <= p.length + 7 := by omega
 rw [e63 (by simp) (by rfl)]
 simp only [tx, List.cons_append, List.nil_append, go_sem, b63, Tryz.f63, hlo, w1, w2, q1, q2, h1, h2, gE, gD, dD, sE, sD, q3, w3, q4, q5, d2i, d2j, gD2, sD2, ex, GT.gt, l1, l2, l3, l4, l5, l6, l7, Nat.mul_one]
 all_goals rfl
theorem f63d {p : List Ob} {S xs : List V} {l : List Tk4} {E' D : List Nat} {i a : Nat} {m j : Nat} (hlo : lo <= p.length) (hN : l.length <= 1000000000) (hE : E'.length = l.length) (hD : D.length = l.length) (hb : ∀ q, D.getD q 0 <= 1000000000)
  (h1 : S[m + 1]? = some (.v (.int .i64 (i : Nat)))) (hi : i < l.length) (h2 : S[m]? = some (.v (.int .i64 (j : Nat)))) (hj : j < l.length) (hm : m <= 1000000000) :
  E lo 63 [.v (.int .i64 (a : Nat)), .ptr (p.length + 4) 0, .ptr (p.length + 3) 0] (p ++ (tx p l E' D ++ [.cells [.ptr (p.length + 2) 0], .cells [.stk (p.length + 5) ((m + 1) + 1) 1], .cells S, .cells xs])) =
   some (.tup [], p ++ (tx p l (E'.set i a) ((D.set i (D.getD i 0 + 1)).set j (max (D.getD j 0) (D.getD i 0 + 1))) ++ [.cells [.ptr (p.length + 2) 0], .cells [.stk (p.length + 5) (m + 1) 1], .cells S, .cells xs])) := by
 have w1 : IntKind.i64.wrap ((((m + 1) + 1 : Nat) : Int) - 1) = (((m + 1) : Nat) : Int) := by rw [wrap_i64] <;> omega
 have w2 : IntKind.i64.wrap (((D.getD i 0 : Nat) : Int) + 1) = ((D.getD i 0 + 1 : Nat) : Int) := wrap_succ (by have := hb i; omega)
 have q1 : (((m + 1) : Nat) : Int) < (((m + 1) + 1 : Nat) : Int) := by omega
 have q2 : (i : Int) < (l.length : Int) := by omega
 have g0 : ∀ L : List Nat, L.length = l.length -> i + 1 <= (nt L).length := fun L hL => by rw [nt_len, hL]; exact hi
 have gE := g0 E' hE
 have gD := g0 D hD
 have dD := nt_at (show i < D.length by omega)
 have sE := nt_set E' i a
 have sD := nt_set D i (D.getD i 0 + 1)
 have q3 : decide ((0 : Int) < ((m + 1 : Nat) : Int)) = true := by rw [decide_eq_true_iff]; omega
 have w3 : IntKind.i64.wrap (((m + 1 : Nat) : Int) - 1) = (m : Int) := by rw [wrap_i64] <;> omega
 have q4 : (m : Int) < ((m + 1 : Nat) : Int) := by omega
 have q5 : (j : Int) < (l.length : Int) := by omega
 have hD2 : (D.set i (D.getD i 0 + 1)).length = l.length := by rw [List.length_set]; exact hD
 have d2i : (nt (D.set i (D.getD i 0 + 1)))[i]? = some (.v (.int .i64 ((D.getD i 0 + 1 : Nat) : Int))) := by
  rw [nt_at (by rw [hD2]; exact hi), getD_set_eq (by omega)]
 have d2j := nt_at (show j < (D.set i (D.getD i 0 + 1)).length by rw [hD2]; exact hj)
 have gD2 : j + 1 <= (nt (D.set i (D.getD i 0 + 1))).length := by rw [nt_len, hD2]; exact hj
 have ex : (if (((D.set i (D.getD i 0 + 1)).getD j 0 : Nat) : Int) < ((D.getD i 0 + 1 : Nat) : Int) then ((D.getD i 0 + 1 : Nat) : Int) else (((D.set i (D.getD i 0 + 1)).getD j 0 : Nat) : Int)) = ((max (D.getD j 0) (D.getD i 0 + 1) : Nat) : Int) := by
  by_cases hij : j = i
  ·subst hij
   rw [getD_set_eq (by omega)]
   split <;> omega
  ·rw [getD_set_ne' hij]
   split <;> omega
 have sD2 := nt_set (D.set i (D.getD i 0 + 1)) j (max (D.getD j 0) (D.getD i 0 + 1))
 have l1 : lo <= p.length + 1 := by omega
 have l2 : lo <= p.length + 2 := by omega
 have l3 : lo <= p.length + 3 := by omega
 have l4 : lo <= p.length + 4 := by omega
 have l5 : lo <= p.length + 5 := by omega
 have l6 : lo <= p.length + 6 := by omega
 have l7 : lo <= p.length + 7 := by omega
 rw [e63 (by simp) (by rfl)]
 simp only [tx, List.cons_append, List.nil_append, go_sem, b63, Tryz.f63, hlo, w1, w2, q1, q2, h1, h2, gE, gD, dD, sE, sD, q3, w3, q4, q5, d2i, d2j, gD2, sD2, ex, GT.gt, l1, l2, l3, l4, l5, l6, l7, Nat.mul_one]
 all_goals rfl
end Go.Lift.P8
end

section
open Go.Proofs
namespace Go.Lift.P8
open Rul
variable [MX]
variable {lo : Nat} {h : Heap}
theorem f51b {p : List Ob} {sc oc xs : List V} {n : Nat} {t : Tk4} {r ks : List CV} (hlo : lo <= p.length) (hn : n <= 1000000000)
  (h1 : sc[n]? = some (.list .yes (rowsC r))) (h2 : sc[n + 1]? = some (.list .yes (rowsC ks))) (hr : r.length <= 1000000000)
  (hol : (n + 1) * 6 <= oc.length) (hoc : (oc.drop (n * 6)).take 6 = row t) :
  E lo 51 [.ptr (p.length + 1) 0, .ptr (p.length + 2) 0] (p ++ [.cells sc, .cells [.stk p.length (n + 2) 1], .cells [.stk (p.length + 3) (n + 1) 6], .cells oc, .cells xs]) =
   some (.tup [], p ++ [.cells (sc.set n (.list .yes (rowsC (r ++ [.mk t ks])))), .cells [.stk p.length (n + 1) 1], .cells [.stk (p.length + 3) n 6], .cells oc, .cells xs]) := by
 have w1 : IntKind.i64.wrap (((n + 2 : Nat) : Int) - 1) = ((n + 1 : Nat) : Int) := by rw [wrap_i64] <;> omega
 have w2 : IntKind.i64.wrap (((n + 1 : Nat) : Int) - 1) = (n : Int) := by rw [wrap_i64] <;> omega
 have q1 : (n : Int) < ((n + 1 : Nat) : Int) := by omega
 have q2 : ((n + 1 : Nat) : Int) < ((n + 2 : Nat) : Int) := by omega
 have q3 : (n : Int) < ((n + 2 : Nat) : Int) := by omega
 have hs0 : n + 1 < sc.length := (List.getElem?_eq_some_iff.1 h2).1
 have hs : n < sc.length := by omega
 have hs1 : n + 1 <= sc.length := hs
 have hk : ∀ (x y : V), (sc.set n y).take n ++ x :: (sc.set n y).drop (n + 1) = sc.set n x := fun x y => by rw [tk_set (by rw [List.length_set]; exact hs), List.set_set]
 have e1 : (n + 2) * 1 <= sc.length := by omega
 have e2 : 6 <= (oc.drop (n * 6)).length := by rw [List.length_drop]; omega
 have o1 : (r.length + 1) * 72 <= 140737488355328 := lim72 hr
 have o2 : r.length <= 9223372036854775806 := limC hr
 have ra := rowsC_all r
 have l1 : lo <= p.length + 1 := by omega
 have l2 : lo <= p.length + 2 := by omega
 have l3 : lo <= p.length + 3 := by omega
 have l4 : lo <= p.length + 5 := by omega
 have l5 : lo <= p.length + 6 := by omega
 have l6 : lo <= p.length + 7 := by omega
 rw [e51 (by simp) (by rfl)]
 simp only [go_sem, b51, Tryz.f51, hlo, w1, w2, q1, q2, q3, h1, h2, hol, hoc, row, e1, e2, hs, hs0, o1, o2, ra, hs1, hk, List.length_set, List.set_set, rowsC_len, rowsC_app, rowsC_cons, rowsC_nil, rowV_eq, l1, l2, l3, l4, l5, l6, Nat.mul_one, Nat.le_add_right, Nat.le_refl, Nat.add_le_add_iff_left]
 all_goals rfl
abbrev N26 (h : Heap) (l : List Tk4) (i : Nat) : Env := [(3, .ptr (h.length + 1) 0), (4, .ptr (h.length + 2) 0), (5, .fn 51 [.ptr (h.length + 1) 0, .ptr (h.length + 2) 0]), (11, .list .no (l.map row)), (12, .v (.int .i64 l.length)), (13, .v (.int .i64 i))]
abbrev HA (h : Heap) (b : List CV) : Heap := h ++ [.cells [.list .yes (rowsC b)], .cells [.stk h.length 1 1], .cells [.list .yes []]]
abbrev HB (h : Heap) (S O : List V) (n : Nat) : Heap := h ++ [.cells S, .cells [.stk h.length (n + 1) 1], .cells [.stk (h.length + 3) n 6], .cells O]
theorem openA {l : List Tk4} {t : Tk4} {i : Nat} {b : List CV} (hlo : lo <= h.length) (hg : l[i]? = some t) (hl : l.length <= 1000000000) (hc : 0 < closer t.k) :
  evCode ⟨Tryz.prog, E, lo, h.length, h26⟩ loopW l26x0 (N26 h l i, HA h b) = some (.normal, N26 h l (i + 1), HB h (stC [(t, [])] b) (opnC [(t, [])]) 1) := by
 have hlt : i < l.length := (List.getElem?_eq_some_iff.1 hg).1
 have q : decide ((i : Int) < (l.length : Int)) = true := by simpa using hlt
 have hgr : (l.map row)[i]? = some (row t) := by rw [List.getElem?_map, hg]; rfl
 have hw : IntKind.i64.wrap ((i : Int) + 1) = ((i + 1 : Nat) : Int) := wrap_succ (by omega)
 have qc : decide (0 < closer t.k) = true := by simpa using hc
 have c52 := f52 (lo := lo) (h := h ++ [.cells [.list .yes (rowsC b)], .cells [.stk h.length 1 1], .cells [.list .yes []], .cells (row t)]) (by simp; omega) t.k
 have l1 : lo <= h.length + 1 := by omega
 have l2 : lo <= h.length + 2 := by omega
 have l3 : lo <= h.length + 3 := by omega
 have l4 : lo <= h.length + 4 := by omega
 simp only [row] at hgr c52
 simp only [N26, HA, HB, stC, opnC, row, go_sem, l26x0, b26, Tryz.f26, hlo, l1, l2, l3, l4, q, hgr, hw, qc, c52, rowsC_nil, List.length_map, List.nil_append, List.append_nil, List.cons_append]
 all_goals rfl
def Jnk (j : List V) : Prop := ∀ i, j.all (avf i) = true /\ j.all (okv i) = true
theorem jnk_nil : Jnk [] := fun _ => ⟨rfl, rfl⟩
theorem jnk_app {a b : List V} (ha : Jnk a) (hb : Jnk b) : Jnk (a ++ b) := fun i => by rw [List.all_append, (ha i).1, (hb i).1, List.all_append, (ha i).2, (hb i).2]; exact ⟨rfl, rfl⟩
theorem jnk_l {l : List CV} {a : List V} (ha : Jnk a) : Jnk (.list .yes (rowsC l) :: a) := fun i => by rw [List.all_cons, List.all_cons, (ha i).1, (ha i).2]; exact ⟨rfl, rfl⟩
theorem jnk_st (s : Stk) (b : List CV) : Jnk (stC s b) := fun i => ⟨stC_all _ (fun _ => rfl) s b, stC_all _ (fun _ => rfl) s b⟩
theorem jnk_op (s : Stk) : Jnk (opnC s) := fun i => ⟨opnC_all _ (fun _ _ => rfl) s, opnC_all _ (fun _ _ => rfl) s⟩
theorem lim24 {n : Nat} (h : n <= 1000000000) : (n + 1 + 1) * 24 <= 140737488355328 := by omega
theorem lim6 {n : Nat} (h : n <= 1000000000) : (n + 1) * 48 <= 140737488355328 := by omega
theorem limD {n : Nat} (h : n <= 1000000000) : n <= 9223372036854775805 := by omega
theorem openB {l : List Tk4} {t : Tk4} {i : Nat} {s : Stk} {b : List CV} {j k : List V} (hlo : lo <= h.length) (hg : l[i]? = some t) (hl : l.length <= 1000000000) (hs : s.length <= 1000000000) (hj : Jnk j) (hk : Jnk k) (hc : 0 < closer t.k) :
  evCode ⟨Tryz.prog, E, lo, h.length, h26⟩ loopW l26x0 (N26 h l i, HB h (stC s b ++ j) (opnC s ++ k) s.length) = some (.normal, N26 h l (i + 1), HB h (stC ((t, []) :: s) b) (opnC ((t, []) :: s)) (s.length + 1)) := by
 have hlt : i < l.length := (List.getElem?_eq_some_iff.1 hg).1
 have q : decide ((i : Int) < (l.length : Int)) = true := by simpa using hlt
 have hgr : (l.map row)[i]? = some (row t) := by rw [List.getElem?_map, hg]; rfl
 have hw : IntKind.i64.wrap ((i : Int) + 1) = ((i + 1 : Nat) : Int) := wrap_succ (by omega)
 have l1 : lo <= h.length + 1 := by omega
 have l2 : lo <= h.length + 2 := by omega
 have l3 : lo <= h.length + 3 := by omega
 have l4 : lo <= h.length + 4 := by omega
 have l5 : lo <= h.length + 5 := by omega
 have qc : decide (0 < closer t.k) = true := by simpa using hc
 have hS0 := stC_take s b j
 have hT := stC_stk h.length s b
 have hSl : s.length + 1 <= (stC s b ++ j).length := by rw [List.length_append, stC_len]; omega
 have hSa := (jnk_app (jnk_st s b) hj (h.length + 3)).1
 have hTk := (jnk_st s b (h.length + 4)).2
 have hUk := (jnk_op s (h.length + 4)).2
 have hO0 := opnC_take s k
 have hU := opnC_stk (h.length + 3) s
 have hUa := (jnk_op s h.length).1
 have hOl : s.length * 6 <= (opnC s ++ k).length := by rw [List.length_append, opnC_len]; omega
 rw [Nat.mul_one] at hS0
 have o1 := lim24 hs
 have o2 := lim6 hs
 have o3 := limD hs
 have o4 := limC hs
 simp only [N26, HB, stC, opnC]
 generalize stC s b ++ j = S at *
 generalize opnC s ++ k = O at *
 generalize stC s b = T at *
 generalize opnC s = U at *
 have c52 := f52 (lo := lo) (h := h ++ [.cells S, .cells [.stk h.length (s.length + 1) 1], .cells [.stk (h.length + 3) s.length 6], .cells O, .cells (row t)]) (by simp; omega) t.k
 simp only [row] at hgr c52
 simp only [row, go_sem, l26x0, b26, Tryz.f26, hlo, l1, l2, l3, l4, l5, q, hgr, hw, qc, c52, hS0, hT, hSl, hSa, hTk, hUk, hO0, hU, hUa, hOl, o1, o2, o3, o4, rowsC_nil, Nat.mul_one, List.length_map]
 all_goals rfl
theorem shutB {l : List Tk4} {t o : Tk4} {i : Nat} {ks : List CV} {s : Stk} {b : List CV} {j k : List V} (hlo : lo <= h.length) (hg : l[i]? = some t) (hl : l.length <= 1000000000) (hs : s.length <= 1000000000) (hr : (topL s b).length <= 1000000000) (hj : Jnk j) (hk : Jnk k) (hc : ¬ 0 < closer t.k) (he : closer o.k = t.k) :
  evCode ⟨Tryz.prog, E, lo, h.length, h26⟩ loopW l26x0 (N26 h l i, HB h (stC ((o, ks) :: s) b ++ j) (opnC ((o, ks) :: s) ++ k) (s.length + 1)) =
   some (.normal, N26 h l (i + 1), HB h (stC (shutS ((o, ks) :: s) b).1 (shutS ((o, ks) :: s) b).2 ++ (.list .yes (rowsC ks) :: j)) (opnC ((o, ks) :: s) ++ k) s.length) := by
 have hlt : i < l.length := (List.getElem?_eq_some_iff.1 hg).1
 have q : decide ((i : Int) < (l.length : Int)) = true := by simpa using hlt
 have hgr : (l.map row)[i]? = some (row t) := by rw [List.getElem?_map, hg]; rfl
 have hw : IntKind.i64.wrap ((i : Int) + 1) = ((i + 1 : Nat) : Int) := wrap_succ (by omega)
 have l1 : lo <= h.length + 1 := by omega
 have l2 : lo <= h.length + 2 := by omega
 have l3 : lo <= h.length + 3 := by omega
 have l4 : lo <= h.length + 4 := by omega
 have l5 : lo <= h.length + 5 := by omega
 have qc : decide (0 < closer t.k) = false := by simpa using hc
 have hkd := opnC_kind o ks s k
 have hcl := stC_shut o ks s b j
 have hSk := (jnk_app (jnk_st (shutS ((o, ks) :: s) b).1 (shutS ((o, ks) :: s) b).2) (jnk_l (l := ks) hj) (h.length + 4)).2
 have hOk := (jnk_app (jnk_op ((o, ks) :: s)) hk (h.length + 4)).2
 have h5 := f51b (lo := lo) (p := h) (xs := row t) (t := o) (ks := ks) (sc := stC ((o, ks) :: s) b ++ j) (oc := opnC ((o, ks) :: s) ++ k) hlo hs (stC_under (o, ks) s b j) (stC_top ((o, ks) :: s) b j) hr (by rw [List.length_append, opnC_len, List.length_cons]; omega) (opnC_top o ks s k)
 rw [hcl] at h5
 have hql : decide ((0 : Int) < ((s.length + 1 : Nat) : Int)) = true := by rw [decide_eq_true_iff]; omega
 have w1 : IntKind.i64.wrap (((s.length + 1 : Nat) : Int) - 1) = (s.length : Int) := by rw [wrap_i64 (by omega) (by omega)]; omega
 have a1 : (0 : Int) <= (s.length : Int) /\ (s.length : Int) < ((s.length + 1 : Nat) : Int) := by omega
 have a2 : (s.length : Int) < ((s.length + 1 : Nat) : Int) := by omega
 have qe : (closer o.k == t.k) = true := by rw [he, beq_self_eq_true]
 simp only [N26, HB]
 generalize stC ((o, ks) :: s) b ++ j = S at *
 generalize opnC ((o, ks) :: s) ++ k = O at *
 generalize stC (shutS ((o, ks) :: s) b).1 (shutS ((o, ks) :: s) b).2 ++ (.list .yes (rowsC ks) :: j) = S2 at *
 have c52 := fun lo kd hlo => f52 (lo := lo) (h := h ++ [.cells S, .cells [.stk h.length (s.length + 2) 1], .cells [.stk (h.length + 3) (s.length + 1) 6], .cells O, .cells (row t)]) hlo kd
 have c52a := c52 lo t.k (by simp; omega); have c52b := c52 (h.length + 5) o.k (by simp)
 clear c52
 simp only [row] at hgr c52a c52b h5
 simp only [row, go_sem, l26x0, b26, Tryz.f26, hlo, l1, l2, l3, l4, l5, q, hgr, hw, qc, c52a, c52b, hkd, h5, hql, w1, a1, a2, qe, hSk, hOk, Nat.mul_one, List.length_map]
 all_goals rfl
end Go.Lift.P8
end

section
open Go.Proofs
namespace Go.Lift.P8
open Rul
variable [MX]
variable {lo : Nat} {h : Heap}
abbrev N41 (h : Heap) (l : List Tk4) (i : Nat) : Env := [(0, .list .no (l.map row)), (3, .ptr (h.length + 3) 0), (4, .ptr (h.length + 4) 0), (5, .fn 63 [.ptr (h.length + 4) 0, .ptr (h.length + 3) 0]), (19, .list .no (l.map row)), (20, .v (.int .i64 l.length)), (21, .v (.int .i64 i))]
abbrev HX (h : Heap) (l : List Tk4) (E D : List Nat) : Heap := h ++ (tx h l E D ++ [.cells [.ptr (h.length + 2) 0], .cells [.list .yes []]])
abbrev HY (h : Heap) (l : List Tk4) (E D : List Nat) (n : Nat) (S : List V) : Heap := h ++ (tx h l E D ++ [.cells [.ptr (h.length + 2) 0], .cells [.stk (h.length + 5) n 1], .cells S])
theorem nt_all (p : V -> Bool) (h : ∀ n : Int, p (.v (.int .i64 n)) = true) : ∀ l : List Nat, (nt l).all p = true
 | [] => rfl
 | n :: r => by
  have := nt_all p h r
  unfold nt at this ⊢
  rw [List.map_cons, List.all_cons, h, this]; rfl
theorem nt_avf (i : Nat) (l : List Nat) : (nt l).all (avf i) = true := nt_all _ (fun _ => rfl) l
theorem nt_okv (i : Nat) (l : List Nat) : (nt l).all (okv i) = true := nt_all _ (fun _ => rfl) l
theorem nt_stk (i : Nat) (l : List Nat) : (nt l).all (stkC i) = true := nt_all _ (fun _ => rfl) l
theorem jnk_nt (l : List Nat) : Jnk (nt l) := fun i => ⟨nt_avf i l, nt_okv i l⟩
theorem nt_app (l m : List Nat) : nt (l ++ m) = nt l ++ nt m := List.map_append
theorem nt_take (l : List Nat) (j : List V) : (nt l ++ j).take l.length = nt l := by rw [<- nt_len l, List.take_left]
theorem nt_top (i : Nat) (r : List Nat) (j : List V) : (nt (i :: r).reverse ++ j)[r.length]? = some (.v (.int .i64 (i : Nat))) := by
 rw [List.reverse_cons, nt_app, List.append_assoc, List.getElem?_append_right (by rw [nt_len, List.length_reverse]; exact Nat.le_refl _), nt_len, List.length_reverse, Nat.sub_self]
 rfl
theorem nt_under (i k : Nat) (r : List Nat) (j : List V) : (nt (i :: k :: r).reverse ++ j)[r.length]? = some (.v (.int .i64 (k : Nat))) := by
 rw [List.reverse_cons, nt_app, List.append_assoc]
 exact nt_top k r _
theorem nt_snoc (l : List Nat) (i : Nat) : nt l ++ [V.v (.int .i64 (i : Int))] = nt (l ++ [i]) := by rw [nt_app]; rfl
theorem nt_swf (j : Nat) : ∀ l : List Nat, (nt l).map (swf j) = nt l
 | [] => rfl
 | n :: r => by
  have := nt_swf j r
  unfold nt at this ⊢
  rw [List.map_cons, List.map_cons, this]; rfl
theorem lim8 {n : Nat} (h : n <= 1000000000) : (n + 1) * 8 <= 140737488355328 := by omega
theorem openX {l : List Tk4} {t : Tk4} {i : Nat} {E' D : List Nat} (hlo : lo <= h.length) (hg : l[i]? = some t) (hl : l.length <= 1000000000) (hc : 0 < closer t.k) :
  evCode ⟨Tryz.prog, E, lo, h.length, h41⟩ loopW l41x0 (N41 h l i, HX h l E' D) = some (.normal, N41 h l (i + 1), HY h l E' D 1 (nt [i])) := by
 have hlt : i < l.length := (List.getElem?_eq_some_iff.1 hg).1
 have q : decide ((i : Int) < (l.length : Int)) = true := by simpa using hlt
 have hgr : (l.map row)[i]? = some (row t) := by rw [List.getElem?_map, hg]; rfl
 have hw : IntKind.i64.wrap ((i : Int) + 1) = ((i + 1 : Nat) : Int) := wrap_succ (by omega)
 have l1 : lo <= h.length + 1 := by omega
 have l2 : lo <= h.length + 2 := by omega
 have l3 : lo <= h.length + 3 := by omega
 have l4 : lo <= h.length + 4 := by omega
 have l5 : lo <= h.length + 5 := by omega
 have l6 : lo <= h.length + 6 := by omega
 have l7 : lo <= h.length + 7 := by omega
 have eE := nt_okv (h.length + 5) E'
 have eD := nt_okv (h.length + 5) D
 have eE6 := nt_okv (h.length + 6) E'
 have eD6 := nt_okv (h.length + 6) D
 have qc : decide (0 < closer t.k) = true := by simpa using hc
 have c52 := f52 (lo := lo) (h := h ++ (tx h l E' D ++ [.cells [.ptr (h.length + 2) 0], .cells [.list .yes []], .cells (row t)])) (by simp; omega) t.k
 have en : nt [i] = [V.v (.int .i64 (i : Int))] := rfl
 simp only [row, tx, List.cons_append, List.nil_append] at hgr c52
 simp only [N41, HX, HY, en, tx, row, List.cons_append, List.nil_append, go_sem, l41x0, b41, Tryz.f41, hlo, l1, l2, l3, l4, l5, l6, l7, q, hgr, hw, eE, eD, eE6, eD6, nt_swf, List.length_map, qc, c52]
 all_goals rfl
theorem openY {l : List Tk4} {t : Tk4} {i : Nat} {E' D st : List Nat} {j : List V} (hlo : lo <= h.length) (hg : l[i]? = some t) (hl : l.length <= 1000000000) (hs : st.length <= 1000000000) (hj : Jnk j) (hc : 0 < closer t.k) :
  evCode ⟨Tryz.prog, E, lo, h.length, h41⟩ loopW l41x0 (N41 h l i, HY h l E' D st.length (nt st.reverse ++ j)) = some (.normal, N41 h l (i + 1), HY h l E' D (st.length + 1) (nt (i :: st).reverse)) := by
 have hlt : i < l.length := (List.getElem?_eq_some_iff.1 hg).1
 have q : decide ((i : Int) < (l.length : Int)) = true := by simpa using hlt
 have hgr : (l.map row)[i]? = some (row t) := by rw [List.getElem?_map, hg]; rfl
 have hw : IntKind.i64.wrap ((i : Int) + 1) = ((i + 1 : Nat) : Int) := wrap_succ (by omega)
 have l1 : lo <= h.length + 1 := by omega
 have l2 : lo <= h.length + 2 := by omega
 have l3 : lo <= h.length + 3 := by omega
 have l4 : lo <= h.length + 4 := by omega
 have l5 : lo <= h.length + 5 := by omega
 have l6 : lo <= h.length + 6 := by omega
 have l7 : lo <= h.length + 7 := by omega
 have eE := nt_okv (h.length + 5) E'
 have eD := nt_okv (h.length + 5) D
 have eE6 := nt_okv (h.length + 6) E'
 have eD6 := nt_okv (h.length + 6) D
 have qc : decide (0 < closer t.k) = true := by simpa using hc
 have hS0 := nt_take st.reverse j
 have hSl : st.length <= (nt st.reverse ++ j).length := by rw [List.length_append, nt_len, List.length_reverse]; omega
 have hT := nt_stk (h.length + 5) st.reverse
 have hTk := nt_okv (h.length + 6) st.reverse
 have aE := nt_avf (h.length + 5) E'
 have aD := nt_avf (h.length + 5) D
 have o1 := lim8 hs
 have o2 := limC hs
 rw [List.length_reverse] at hS0
 simp only [HY]
 rw [List.reverse_cons, <- nt_snoc]
 generalize nt st.reverse ++ j = S at *
 generalize nt st.reverse = T at *
 have c52 := f52 (lo := lo) (h := h ++ (tx h l E' D ++ [.cells [.ptr (h.length + 2) 0], .cells [.stk (h.length + 5) st.length 1], .cells S, .cells (row t)])) (by simp; omega) t.k
 simp only [row, tx, List.cons_append, List.nil_append] at hgr c52
 simp only [N41, tx, row, List.cons_append, List.nil_append, go_sem, l41x0, b41, Tryz.f41, hlo, l1, l2, l3, l4, l5, l6, l7, q, hgr, hw, eE, eD, eE6, eD6, nt_swf, List.length_map, qc, c52, hS0, hSl, hT, hTk, aE, aD, o1, o2, Nat.mul_one]
 all_goals rfl
theorem leaveX {l : List Tk4} {t : Tk4} {i : Nat} {E' D : List Nat} (hlo : lo <= h.length) (hg : l[i]? = some t) (hl : l.length <= 1000000000) (hc : ¬ 0 < closer t.k) :
  evCode ⟨Tryz.prog, E, lo, h.length, h41⟩ loopW l41x0 (N41 h l i, HX h l E' D) = some (.normal, N41 h l (i + 1), HX h l E' D) := by
 have hlt : i < l.length := (List.getElem?_eq_some_iff.1 hg).1
 have q : decide ((i : Int) < (l.length : Int)) = true := by simpa using hlt
 have hgr : (l.map row)[i]? = some (row t) := by rw [List.getElem?_map, hg]; rfl
 have hw : IntKind.i64.wrap ((i : Int) + 1) = ((i + 1 : Nat) : Int) := wrap_succ (by omega)
 have l1 : lo <= h.length + 1 := by omega
 have l2 : lo <= h.length + 2 := by omega
 have l3 : lo <= h.length + 3 := by omega
 have l4 : lo <= h.length + 4 := by omega
 have l5 : lo <= h.length + 5 := by omega
 have l6 : lo <= h.length + 6 := by omega
 have l7 : lo <= h.length + 7 := by omega
 have eE := nt_okv (h.length + 5) E'
 have eD := nt_okv (h.length + 5) D
 have eE6 := nt_okv (h.length + 6) E'
 have eD6 := nt_okv (h.length + 6) D
 have qc : decide (0 < closer t.k) = false := by simpa using hc
 have q0 : decide ((0 : Int) < ((0 : Nat) : Int)) = false := rfl
 have c52 := f52 (lo := lo) (h := h ++ (tx h l E' D ++ [.cells [.ptr (h.length + 2) 0], .cells [.list .yes []], .cells (row t)])) (by simp; omega) t.k
 simp only [row, tx, List.cons_append, List.nil_append] at hgr c52
 simp only [N41, HX, tx, row, List.cons_append, List.nil_append, go_sem, l41x0, b41, Tryz.f41, hlo, l1, l2, l3, l4, l5, l6, l7, q, hgr, hw, eE, eD, eE6, eD6, nt_swf, List.length_map, qc, q0, c52, List.length_nil]
 all_goals rfl
theorem leaveY0 {l : List Tk4} {t : Tk4} {i : Nat} {E' D : List Nat} {j : List V} (hlo : lo <= h.length) (hg : l[i]? = some t) (hl : l.length <= 1000000000) (hj : Jnk j) (hc : ¬ 0 < closer t.k) :
  evCode ⟨Tryz.prog, E, lo, h.length, h41⟩ loopW l41x0 (N41 h l i, HY h l E' D 0 j) = some (.normal, N41 h l (i + 1), HY h l E' D 0 j) := by
 have hlt : i < l.length := (List.getElem?_eq_some_iff.1 hg).1
 have q : decide ((i : Int) < (l.length : Int)) = true := by simpa using hlt
 have hgr : (l.map row)[i]? = some (row t) := by rw [List.getElem?_map, hg]; rfl
 have hw : IntKind.i64.wrap ((i : Int) + 1) = ((i + 1 : Nat) : Int) := wrap_succ (by omega)
 have l1 : lo <= h.length + 1 := by omega
 have l2 : lo <= h.length + 2 := by omega
 have l3 : lo <= h.length + 3 := by omega
 have l4 : lo <= h.length + 4 := by omega
 have l5 : lo <= h.length + 5 := by omega
 have l6 : lo <= h.length + 6 := by omega
 have l7 : lo <= h.length + 7 := by omega
 have eE := nt_okv (h.length + 5) E'
 have eD := nt_okv (h.length + 5) D
 have eE6 := nt_okv (h.length + 6) E'
 have eD6 := nt_okv (h.length + 6) D
 have qc : decide (0 < closer t.k) = false := by simpa using hc
 have q0 : decide ((0 : Int) < ((0 : Nat) : Int)) = false := rfl
 have hj6 := (hj (h.length + 6)).2
 have c52 := f52 (lo := lo) (h := h ++ (tx h l E' D ++ [.cells [.ptr (h.length + 2) 0], .cells [.stk (h.length + 5) 0 1], .cells j, .cells (row t)])) (by simp; omega) t.k
 simp only [row, tx, List.cons_append, List.nil_append] at hgr c52
 simp only [N41, HY, tx, row, List.cons_append, List.nil_append, go_sem, l41x0, b41, Tryz.f41, hlo, l1, l2, l3, l4, l5, l6, l7, q, hgr, hw, eE, eD, eE6, eD6, nt_swf, List.length_map, qc, q0, c52, hj6, List.length_nil]
 all_goals rfl
theorem leaveY {l : List Tk4} {t o : Tk4} {i k : Nat} {E' D st : List Nat} {j : List V} (hlo : lo <= h.length) (hg : l[i]? = some t) (hl : l.length <= 1000000000) (hs : st.length <= 1000000000) (hj : Jnk j) (hc : ¬ 0 < closer t.k) (hk : l[k]? = some o) (he : ¬ closer o.k = t.k) :
  evCode ⟨Tryz.prog, E, lo, h.length, h41⟩ loopW l41x0 (N41 h l i, HY h l E' D (st.length + 1) (nt (k :: st).reverse ++ j)) = some (.normal, N41 h l (i + 1), HY h l E' D (st.length + 1) (nt (k :: st).reverse ++ j)) := by
 have hlt : i < l.length := (List.getElem?_eq_some_iff.1 hg).1
 have q : decide ((i : Int) < (l.length : Int)) = true := by simpa using hlt
 have hgr : (l.map row)[i]? = some (row t) := by rw [List.getElem?_map, hg]; rfl
 have hw : IntKind.i64.wrap ((i : Int) + 1) = ((i + 1 : Nat) : Int) := wrap_succ (by omega)
 have l1 : lo <= h.length + 1 := by omega
 have l2 : lo <= h.length + 2 := by omega
 have l3 : lo <= h.length + 3 := by omega
 have l4 : lo <= h.length + 4 := by omega
 have l5 : lo <= h.length + 5 := by omega
 have l6 : lo <= h.length + 6 := by omega
 have l7 : lo <= h.length + 7 := by omega
 have eE := nt_okv (h.length + 5) E'
 have eD := nt_okv (h.length + 5) D
 have eE6 := nt_okv (h.length + 6) E'
 have eD6 := nt_okv (h.length + 6) D
 have qc : decide (0 < closer t.k) = false := by simpa using hc
 have hql : decide ((0 : Int) < ((st.length + 1 : Nat) : Int)) = true := by rw [decide_eq_true_iff]; omega
 have w1 : IntKind.i64.wrap (((st.length + 1 : Nat) : Int) - 1) = (st.length : Int) := by rw [wrap_i64 (by omega) (by omega)]; omega
 have a1 : (0 : Int) <= (st.length : Int) /\ (st.length : Int) < ((st.length + 1 : Nat) : Int) := by omega
 have a2 : (st.length : Int) < ((st.length + 1 : Nat) : Int) := by omega
 have hgk : (l.map row)[k]? = some (row o) := by rw [List.getElem?_map, hk]; rfl
 have hkt := nt_top k st j
 have qe : (closer o.k == t.k) = false := by rw [beq_eq_false_iff_ne]; exact he
 have hS6 := (jnk_app (jnk_nt (k :: st).reverse) hj (h.length + 6)).2
 simp only [HY]
 generalize nt (k :: st).reverse ++ j = S at *
 have c52 := fun lo kd hlo => f52 (lo := lo) (h := h ++ (tx h l E' D ++ [.cells [.ptr (h.length + 2) 0], .cells [.stk (h.length + 5) (st.length + 1) 1], .cells S, .cells (row t)])) hlo kd
 have c52a := c52 lo t.k (by simp; omega); have c52b := c52 (h.length + 7) o.k (by simp)
 clear c52
 simp only [row, tx, List.cons_append, List.nil_append] at hgr hgk c52a c52b
 simp only [N41, tx, row, List.cons_append, List.nil_append, go_sem, l41x0, b41, Tryz.f41, hlo, l1, l2, l3, l4, l5, l6, l7, q, hgr, hw, eE, eD, eE6, eD6, nt_swf, List.length_map, qc, hql, w1, a1, a2, hgk, hkt, qe, c52a, c52b, hS6, Nat.mul_one]
 all_goals rfl
theorem shutY1 {l : List Tk4} {t o : Tk4} {i k : Nat} {E' D : List Nat} {j : List V} (hlo : lo <= h.length) (hg : l[i]? = some t) (hl : l.length <= 1000000000) (hE : E'.length = l.length) (hD : D.length = l.length) (hb : ∀ q, D.getD q 0 <= 1000000000) (hj : Jnk j) (hc : ¬ 0 < closer t.k) (hk : l[k]? = some o) (he : closer o.k = t.k) :
  evCode ⟨Tryz.prog, E, lo, h.length, h41⟩ loopW l41x0 (N41 h l i, HY h l E' D 1 (nt [k].reverse ++ j)) = some (.normal, N41 h l (i + 1), HY h l (E'.set k i) (D.set k (D.getD k 0 + 1)) 0 (nt [k].reverse ++ j)) := by
 have hlt : i < l.length := (List.getElem?_eq_some_iff.1 hg).1
 have q : decide ((i : Int) < (l.length : Int)) = true := by simpa using hlt
 have hgr : (l.map row)[i]? = some (row t) := by rw [List.getElem?_map, hg]; rfl
 have hw : IntKind.i64.wrap ((i : Int) + 1) = ((i + 1 : Nat) : Int) := wrap_succ (by omega)
 have l1 : lo <= h.length + 1 := by omega
 have l2 : lo <= h.length + 2 := by omega
 have l3 : lo <= h.length + 3 := by omega
 have l4 : lo <= h.length + 4 := by omega
 have l5 : lo <= h.length + 5 := by omega
 have l6 : lo <= h.length + 6 := by omega
 have l7 : lo <= h.length + 7 := by omega
 have eE := nt_okv (h.length + 5) E'
 have eD := nt_okv (h.length + 5) D
 have eE6 := nt_okv (h.length + 6) E'
 have eD6 := nt_okv (h.length + 6) D
 have qc : decide (0 < closer t.k) = false := by simpa using hc
 have hql : decide ((0 : Int) < ((1 : Nat) : Int)) = true := rfl
 have w1 : IntKind.i64.wrap (((1 : Nat) : Int) - 1) = ((0 : Nat) : Int) := by rw [wrap_i64 (by omega) (by omega)]; omega
 have a2 : (0 : Int) < ((1 : Nat) : Int) := by decide
 have hkt := nt_top k [] j
 have hgk : (l.map row)[k]? = some (row o) := by rw [List.getElem?_map, hk]; rfl
 have hkl : k < l.length := (List.getElem?_eq_some_iff.1 hk).1
 have qe : (closer o.k == t.k) = true := by rw [he, beq_self_eq_true]
 have hS6 := (jnk_app (jnk_nt (k :: []).reverse) hj (h.length + 6)).2
 have eE7 := nt_okv (h.length + 6) (E'.set k i)
 have eD7 := nt_okv (h.length + 6) (D.set k (D.getD k 0 + 1))
 have h5 := f63b (lo := lo) (p := h) (xs := row t) (S := nt [k].reverse ++ j) (l := l) (E' := E') (D := D) (i := k) (a := i) hlo hl hE hD hb (nt_top k [] j) hkl
 simp only [HY]
 generalize nt (k :: []).reverse ++ j = S at *
 have c52 := fun lo kd hlo => f52 (lo := lo) (h := h ++ (tx h l E' D ++ [.cells [.ptr (h.length + 2) 0], .cells [.stk (h.length + 5) 1 1], .cells S, .cells (row t)])) hlo kd
 have c52a := c52 lo t.k (by simp; omega); have c52b := c52 (h.length + 7) o.k (by simp)
 clear c52
 simp only [row, tx, List.cons_append, List.nil_append, List.length_nil] at hgr hgk c52a c52b h5 hkt
 simp only [N41, tx, row, List.cons_append, List.nil_append, go_sem, l41x0, b41, Tryz.f41, hlo, l1, l2, l3, l4, l5, l6, l7, q, hgr, hw, eE, eD, eE6, eD6, nt_swf, List.length_map, qc, hql, w1, a2, hgk, hkt, qe, c52a, c52b, hS6, eE7, eD7, h5, List.length_cons, Nat.mul_one]
 all_goals rfl
theorem shutY2 {l : List Tk4} {t o : Tk4} {i k : Nat} {m : Nat} {E' D st : List Nat} {j : List V} (hlo : lo <= h.length) (hg : l[i]? = some t) (hl : l.length <= 1000000000) (hs : st.length <= 1000000000) (hE : E'.length = l.length) (hD : D.length = l.length) (hb : ∀ q, D.getD q 0 <= 1000000000) (hj : Jnk j) (hc : ¬ 0 < closer t.k) (hk : l[k]? = some o) (hm : m < l.length) (he : closer o.k = t.k) :
  evCode ⟨Tryz.prog, E, lo, h.length, h41⟩ loopW l41x0 (N41 h l i, HY h l E' D ((st.length + 1) + 1) (nt (k :: m :: st).reverse ++ j)) = some (.normal, N41 h l (i + 1), HY h l (E'.set k i) ((D.set k (D.getD k 0 + 1)).set m (max (D.getD m 0) (D.getD k 0 + 1))) (st.length + 1) (nt (k :: m :: st).reverse ++ j)) := by
 have hlt : i < l.length := (List.getElem?_eq_some_iff.1 hg).1
 have q : decide ((i : Int) < (l.length : Int)) = true := by simpa using hlt
 have hgr : (l.map row)[i]? = some (row t) := by rw [List.getElem?_map, hg]; rfl
 have hw : IntKind.i64.wrap ((i : Int) + 1) = ((i + 1 : Nat) : Int) := wrap_succ (by omega)
 have l1 : lo <= h.length + 1 := by omega
 have l2 : lo <= h.length + 2 := by omega
 have l3 : lo <= h.length + 3 := by omega
 have l4 : lo <= h.length + 4 := by omega
 have l5 : lo <= h.length + 5 := by omega
 have l6 : lo <= h.length + 6 := by omega
 have l7 : lo <= h.length + 7 := by omega
 have eE := nt_okv (h.length + 5) E'
 have eD := nt_okv (h.length + 5) D
 have eE6 := nt_okv (h.length + 6) E'
 have eD6 := nt_okv (h.length + 6) D
 have qc : decide (0 < closer t.k) = false := by simpa using hc
 have hql : decide ((0 : Int) < (((st.length + 1) + 1 : Nat) : Int)) = true := by rw [decide_eq_true_iff]; omega
 have w1 : IntKind.i64.wrap ((((st.length + 1) + 1 : Nat) : Int) - 1) = ((st.length + 1 : Nat) : Int) := by rw [wrap_i64 (by omega) (by omega)]; omega
 have a2 : ((st.length + 1 : Nat) : Int) < (((st.length + 1) + 1 : Nat) : Int) := by omega
 have hkt := nt_top k (m :: st) j
 have hgk : (l.map row)[k]? = some (row o) := by rw [List.getElem?_map, hk]; rfl
 have hkl : k < l.length := (List.getElem?_eq_some_iff.1 hk).1
 have qe : (closer o.k == t.k) = true := by rw [he, beq_self_eq_true]
 have hS6 := (jnk_app (jnk_nt (k :: m :: st).reverse) hj (h.length + 6)).2
 have eE7 := nt_okv (h.length + 6) (E'.set k i)
 have eD7 := nt_okv (h.length + 6) ((D.set k (D.getD k 0 + 1)).set m (max (D.getD m 0) (D.getD k 0 + 1)))
 have h5 := f63d (lo := lo) (p := h) (xs := row t) (S := nt (k :: m :: st).reverse ++ j) (l := l) (E' := E') (D := D) (i := k) (a := i) (m := st.length) (j := m) hlo hl hE hD hb (nt_top k (m :: st) j) hkl (nt_under k m st j) hm hs
 simp only [HY]
 generalize nt (k :: m :: st).reverse ++ j = S at *
 have c52 := fun lo kd hlo => f52 (lo := lo) (h := h ++ (tx h l E' D ++ [.cells [.ptr (h.length + 2) 0], .cells [.stk (h.length + 5) ((st.length + 1) + 1) 1], .cells S, .cells (row t)])) hlo kd
 have c52a := c52 lo t.k (by simp; omega); have c52b := c52 (h.length + 7) o.k (by simp)
 clear c52
 simp only [row, tx, List.cons_append, List.nil_append, List.length_cons] at hgr hgk c52a c52b h5 hkt
 simp only [N41, tx, row, List.cons_append, List.nil_append, go_sem, l41x0, b41, Tryz.f41, hlo, l1, l2, l3, l4, l5, l6, l7, q, hgr, hw, eE, eD, eE6, eD6, nt_swf, List.length_map, qc, hql, w1, a2, hgk, hkt, qe, c52a, c52b, hS6, eE7, eD7, h5, List.length_cons, Nat.mul_one]
 all_goals rfl
end Go.Lift.P8
end

section
open Go.Proofs
namespace Go.Lift.P8
open Rul
variable [MX]
variable {lo : Nat} {h : Heap}
def H41 (h : Heap) (l : List Tk4) (s : LS) (H : Heap) : Prop :=
 (s.st = [] /\ H = HX h l s.E s.D) \/ ∃ j, Jnk j /\ H = HY h l s.E s.D s.st.length (nt s.st.reverse ++ j)
structure W41 (l : List Tk4) (i : Nat) (s : LS) : Prop where
 le : s.E.length = l.length
 ld : s.D.length = l.length
 lt : ∀ k ∈ s.st, k < l.length
 sz : s.st.length <= i
 bd : ∀ q, s.D.getD q 0 <= i
theorem getD_set_le {D : List Nat} {i x B : Nat} (h : ∀ q, D.getD q 0 <= B) (hx : x <= B) : ∀ q, (D.set i x).getD q 0 <= B := fun q => by
 by_cases hq : q = i
 ·subst hq
  by_cases hl : q < D.length
  ·rw [getD_set_eq hl]; exact hx
  ·simp [List.getD_eq_getElem?_getD, hl]
 ·rw [getD_set_ne' hq]; exact h q
theorem shut_w41 {l : List Tk4} {i a : Nat} {s : LS} (h : W41 l i s) : W41 l (i + 1) (shutL a s) := by
 obtain ⟨st, E', D⟩ := s
 have h1 := h.le; have h2 := h.ld; have h3 := h.lt; have h4 := h.sz; have h5 := h.bd
 simp only at h1 h2 h3 h4 h5
 have h6 : ∀ q, D.getD q 0 <= i + 1 := fun q => by have := h5 q; omega
 match st, h3, h4 with
 | [], h3, h4 => exact ⟨h1, h2, h3, by simp [shutL], h6⟩
 | [k], h3, h4 => exact ⟨by simp [shutL, h1], by simp [shutL, h2], fun x hx => by simp [shutL] at hx, by simp [shutL], getD_set_le h6 (by have := h5 k; show D.getD k 0 + 1 <= i + 1; omega)⟩
 | k :: m :: r, h3, h4 =>
  refine ⟨by simp [shutL, h1], by simp [shutL, h2], fun x hx => h3 x (by simp [shutL] at hx; simp [hx]), by simp [shutL] at h4 ⊢; omega, ?_⟩
  have a1 := h5 k; have a2 := h5 m
  exact getD_set_le (getD_set_le h6 (by show D.getD k 0 + 1 <= _; omega)) (by show max (D.getD m 0) (D.getD k 0 + 1) <= _; omega)
theorem open_w41 {l : List Tk4} {i k : Nat} {s : LS} (h : W41 l i s) (hk : k < l.length) : W41 l (i + 1) ⟨k :: s.st, s.E, s.D⟩ :=
 ⟨h.le, h.ld, fun x hx => by
  rcases List.mem_cons.1 hx with rfl | hx
  ·exact hk
  ·exact h.lt x hx, by simp; exact h.sz, fun q => by have := h.bd q; show s.D.getD q 0 <= _; omega⟩
theorem W41.succ {l : List Tk4} {i : Nat} {s : LS} (h : W41 l i s) : W41 l (i + 1) s :=
 ⟨h.le, h.ld, h.lt, by have := h.sz; omega, fun q => by have := h.bd q; omega⟩
theorem step_w41 {l : List Tk4} {t : Tk4} {i : Nat} {s : LS} (h : W41 l i s) (hi : i < l.length) : W41 l (i + 1) (stepL l i t s) := by
 unfold stepL
 split
 ·exact open_w41 h hi
 ·split
  ·exact shut_w41 h
  ·exact h.succ
theorem round41 {l : List Tk4} {t : Tk4} {i : Nat} {s : LS} {H : Heap} (hlo : lo <= h.length) (hg : l[i]? = some t) (hl : l.length <= 1000000000) (hw : W41 l i s) (hH : H41 h l s H) :
  ∃ H', evCode ⟨Tryz.prog, E, lo, h.length, h41⟩ loopW l41x0 (N41 h l i, H) = some (.normal, N41 h l (i + 1), H') /\ H41 h l (stepL l i t s) H' := by
 obtain ⟨st, E', D⟩ := s
 have hE := hw.le; have hD := hw.ld; have hlt := hw.lt; have hsz := hw.sz; have hbd := hw.bd
 have hil : i < l.length := (List.getElem?_eq_some_iff.1 hg).1
 simp only at hE hD hlt hsz hbd
 have hnn := closer_nn t.k
 unfold stepL
 by_cases hc : 0 < closer t.k
 ·rw [if_pos (by omega)]
  rcases hH with ⟨h0, rfl⟩ | ⟨j, hj, rfl⟩
  ·simp only at h0
   subst h0
   exact ⟨_, openX hlo hg hl hc, .inr ⟨[], jnk_nil, by simp⟩⟩
  ·exact ⟨_, openY hlo hg hl (by simp only; omega) hj hc, .inr ⟨[], jnk_nil, by simp⟩⟩
 ·rw [if_neg (by omega)]
  match st, hlt, hsz, hH with
  | [], hlt, hsz, hH =>
   rw [if_neg (by simp [ctxL])]
   rcases hH with ⟨h0, rfl⟩ | ⟨j, hj, rfl⟩
   ·exact ⟨_, leaveX hlo hg hl hc, .inl ⟨rfl, rfl⟩⟩
   ·exact ⟨_, leaveY0 hlo hg hl (jnk_app (jnk_nt []) hj) hc, .inr ⟨j, hj, rfl⟩⟩
  | k :: st, hlt, hsz, hH =>
   have hkl := hlt k (List.mem_cons_self ..)
   obtain ⟨o, hk⟩ : ∃ o, l[k]? = some o := ⟨l[k], List.getElem?_eq_getElem hkl⟩
   have hcx : ctxL l (k :: st) = some (closer o.k) := by simp [ctxL, clAt, hk]
   rcases hH with ⟨h0, _⟩ | ⟨j, hj, rfl⟩
   ·cases h0
   simp only [List.length_cons] at hsz
   by_cases he : closer o.k = t.k
   ·rw [if_pos (by rw [hcx, he])]
    match st, hlt, hsz with
    | [], hlt, hsz =>
     refine ⟨_, shutY1 hlo hg hl hE hD (fun q => by have := hbd q; show D.getD q 0 <= _; omega) hj hc hk he, .inr ⟨nt [k] ++ j, jnk_app (jnk_nt _) hj, ?_⟩⟩
     simp [shutL, nt]
    | m :: st, hlt, hsz =>
     have hm := hlt m (by simp)
     simp only [List.length_cons] at hsz
     refine ⟨_, shutY2 hlo hg hl (by omega : st.length <= 1000000000) hE hD (fun q => by have := hbd q; show D.getD q 0 <= _; omega) hj hc hk hm he, .inr ⟨nt [k] ++ j, jnk_app (jnk_nt _) hj, ?_⟩⟩
     simp only [shutL, List.length_cons]
     rw [List.reverse_cons (a := k), nt_app, List.append_assoc]
   ·rw [if_neg (by rw [hcx]; intro e; exact he (Option.some.inj e))]
    exact ⟨_, leaveY hlo hg hl (by omega : st.length <= 1000000000) hj hc hk he, .inr ⟨j, hj, rfl⟩⟩
theorem stop41 {l : List Tk4} {s : LS} {H : Heap} (hlo : lo <= h.length) (hH : H41 h l s H) :
  evCode ⟨Tryz.prog, E, lo, h.length, h41⟩ loopW l41x0 (N41 h l l.length, H) = some (.exit 0, N41 h l l.length ++ [(22, .v (.bool false))], H) := by
 have q : decide ((l.length : Int) < (l.length : Int)) = false := by simp
 simp only [N41, go_sem, l41x0, b41, Tryz.f41, hlo, q]
 all_goals rfl
theorem loop41 {l : List Tk4} (hlo : lo <= h.length) (hl : l.length <= 1000000000) : ∀ (m i : Nat) (s : LS) (H : Heap), i + m = l.length -> W41 l i s -> H41 h l s H ->
  ∃ H', loopW (evCode ⟨Tryz.prog, E, lo, h.length, h41⟩ loopW l41x0) (N41 h l i, H) = some (.exit 0, N41 h l l.length ++ [(22, .v (.bool false))], H') /\ H41 h l (runL l i (l.drop i) s) H' /\ W41 l l.length (runL l i (l.drop i) s)
 | 0, i, s, H, hm, hw, hH => by
  obtain rfl : i = l.length := by omega
  rw [List.drop_length, runL]
  exact ⟨H, by rw [loop_eq, stop41 hlo hH, loop_e], hH, hw⟩
 | m + 1, i, s, H, hm, hw, hH => by
  have hlt : i < l.length := by omega
  have hd : l.drop i = l[i] :: l.drop (i + 1) := List.drop_eq_getElem_cons hlt
  obtain ⟨H1, hr, h1⟩ := round41 hlo (List.getElem?_eq_getElem hlt) hl hw hH
  obtain ⟨H2, h2, h3, h4⟩ := loop41 hlo hl m (i + 1) _ H1 (by omega) (step_w41 hw hlt) h1
  rw [hd, runL]
  exact ⟨H2, by rw [loop_eq, hr, loop_n, h2], h3, h4⟩
abbrev M41 (h : Heap) (l : List Tk4) (ex : Env) : Env := (0, .list .no (l.map row)) :: (3, .ptr (h.length + 3) 0) :: (4, .ptr (h.length + 4) 0) :: (5, .fn 63 [.ptr (h.length + 4) 0, .ptr (h.length + 3) 0]) :: ex
def Ex41 (ex : Env) : Prop := (∃ a b c, ex = [(19, a), (20, b), (21, c)]) \/ ∃ a b c d, ex = [(19, a), (20, b), (21, c), (22, d)]
theorem close41a {l : List Tk4} {E' D : List Nat} {k : Nat} {j : List V} {ex : Env} (he : Ex41 ex) (hlo : lo <= h.length) (hl : l.length <= 1000000000) (hE : E'.length = l.length) (hD : D.length = l.length) (hb : ∀ q, D.getD q 0 <= 1000000000) (hk : k < l.length) :
  evCode ⟨Tryz.prog, E, lo, h.length, h41⟩ loopW l41x1 (M41 h l ex, HY h l E' D 1 (nt [k].reverse ++ j)) = some (.normal, M41 h l [(19, .undef), (20, .undef), (21, .undef)], HY h l (E'.set k l.length) (D.set k (D.getD k 0 + 1)) 0 (nt [k].reverse ++ j)) := by
 have h5 := f63a (lo := lo) (p := h) (S := nt [k].reverse ++ j) (l := l) (E' := E') (D := D) (i := k) (a := l.length) hlo hl hE hD hb (nt_top k [] j) hk
 have q : decide ((0 : Int) < ((1 : Nat) : Int)) = true := rfl
 simp only [HY]
 generalize nt [k].reverse ++ j = S at *
 simp only [tx, List.cons_append, List.nil_append] at h5
 rcases he with ⟨x, y, z, rfl⟩ | ⟨x, y, z, w, rfl⟩
 ·simp only [M41, tx, List.cons_append, List.nil_append, go_sem, l41x1, b41, Tryz.f41, hlo, q, h5, List.length_map]
  all_goals rfl
 ·simp only [M41, tx, List.cons_append, List.nil_append, go_sem, l41x1, b41, Tryz.f41, hlo, q, h5, List.length_map]
  all_goals rfl
theorem close41b {l : List Tk4} {E' D st : List Nat} {k m : Nat} {j : List V} {ex : Env} (he : Ex41 ex) (hlo : lo <= h.length) (hl : l.length <= 1000000000) (hs : st.length <= 1000000000) (hE : E'.length = l.length) (hD : D.length = l.length) (hb : ∀ q, D.getD q 0 <= 1000000000) (hk : k < l.length) (hm : m < l.length) :
  evCode ⟨Tryz.prog, E, lo, h.length, h41⟩ loopW l41x1 (M41 h l ex, HY h l E' D (st.length + 1 + 1) (nt (k :: m :: st).reverse ++ j)) = some (.normal, M41 h l [(19, .undef), (20, .undef), (21, .undef)], HY h l (E'.set k l.length) ((D.set k (D.getD k 0 + 1)).set m (max (D.getD m 0) (D.getD k 0 + 1))) (st.length + 1) (nt (k :: m :: st).reverse ++ j)) := by
 have h5 := f63c (lo := lo) (p := h) (S := nt (k :: m :: st).reverse ++ j) (l := l) (E' := E') (D := D) (i := k) (a := l.length) (m := st.length) (j := m) hlo hl hE hD hb (nt_top k (m :: st) j) hk (nt_under k m st j) hm hs
 have q : decide ((0 : Int) < ((st.length + 1 + 1 : Nat) : Int)) = true := by rw [decide_eq_true_iff]; omega
 simp only [HY]
 generalize nt (k :: m :: st).reverse ++ j = S at *
 simp only [tx, List.cons_append, List.nil_append] at h5
 rcases he with ⟨x, y, z, rfl⟩ | ⟨x, y, z, w, rfl⟩
 ·simp only [M41, tx, List.cons_append, List.nil_append, go_sem, l41x1, b41, Tryz.f41, hlo, q, h5, List.length_map]
  all_goals rfl
 ·simp only [M41, tx, List.cons_append, List.nil_append, go_sem, l41x1, b41, Tryz.f41, hlo, q, h5, List.length_map]
  all_goals rfl
theorem end41 {l : List Tk4} {s : LS} {H : Heap} {ex : Env} (he : Ex41 ex) (hlo : lo <= h.length) (hs : s.st = []) (hH : H41 h l s H) :
  evCode ⟨Tryz.prog, E, lo, h.length, h41⟩ loopW l41x1 (M41 h l ex, H) = some (.exit 3, M41 h l [(61, .v (.bool false))], H) := by
 have q : decide ((0 : Int) < ((0 : Nat) : Int)) = false := rfl
 rcases hH with ⟨_, rfl⟩ | ⟨j, _, rfl⟩
 ·rcases he with ⟨x, y, z, rfl⟩ | ⟨x, y, z, w, rfl⟩
  ·simp only [M41, HX, tx, List.cons_append, List.nil_append, go_sem, l41x1, b41, Tryz.f41, hlo, q, List.length_nil]
   all_goals rfl
  ·simp only [M41, HX, tx, List.cons_append, List.nil_append, go_sem, l41x1, b41, Tryz.f41, hlo, q, List.length_nil]
   all_goals rfl
 ·rw [hs]
  rcases he with ⟨x, y, z, rfl⟩ | ⟨x, y, z, w, rfl⟩
  ·simp only [M41, HY, tx, List.cons_append, List.nil_append, go_sem, l41x1, b41, Tryz.f41, hlo, q, List.length_nil]
   all_goals rfl
  ·simp only [M41, HY, tx, List.cons_append, List.nil_append, go_sem, l41x1, b41, Tryz.f41, hlo, q, List.length_nil]
   all_goals rfl
theorem loop41b {l : List Tk4} (hlo : lo <= h.length) (hl : l.length <= 500000000) : ∀ (n : Nat) (s : LS) (H : Heap) (ex : Env) (B : Nat), s.st.length = n -> W41 l B s -> B + n <= 1000000000 -> Ex41 ex -> H41 h l s H ->
  ∃ H', loopW (evCode ⟨Tryz.prog, E, lo, h.length, h41⟩ loopW l41x1) (M41 h l ex, H) = some (.exit 3, M41 h l [(61, .v (.bool false))], H') /\ H41 h l (shutK l.length n s) H' /\ (shutK l.length n s).st = []
 | 0, s, H, ex, B, hn, hw, hB, he, hH => by
  have hs := List.eq_nil_of_length_eq_zero hn
  rw [shutK]
  exact ⟨H, by rw [loop_eq, end41 he hlo hs hH, loop_e], hH, hs⟩
 | n + 1, ⟨st, E', D⟩, H, ex, B, hn, hw, hB, he, hH => by
  have hE := hw.le; have hD := hw.ld; have hlt := hw.lt; have hbd := hw.bd
  simp only at hE hD hlt hbd hn
  match st, hn, hlt, hH, hw with
  | [], hn, _, _, _ => cases hn
  | [k], hn, hlt, hH, hw =>
   simp only [List.length_cons, List.length_nil] at hn
   obtain rfl : n = 0 := by omega
   rcases hH with ⟨h0, _⟩ | ⟨j, hj, rfl⟩
   ·cases h0
   have hc := close41a (lo := lo) (h := h) (j := j) he hlo (by omega : l.length <= 1000000000) hE hD (fun q => by have := hbd q; omega) (hlt k (by simp))
   obtain ⟨H2, h2, h3, h4⟩ := loop41b hlo hl 0 (shutL l.length ⟨[k], E', D⟩) _ [(19, .undef), (20, .undef), (21, .undef)] (B + 1) rfl (shut_w41 hw) (by omega) (.inl ⟨_, _, _, rfl⟩) (.inr ⟨nt [k] ++ j, jnk_app (jnk_nt _) hj, rfl⟩)
   rw [shutK]
   refine ⟨H2, ?_, h3, h4⟩
   rw [loop_eq]
   simp only [List.length_cons, List.length_nil, Nat.zero_add]
   rw [hc, loop_n]
   exact h2
  | k :: m :: st, hn, hlt, hH, hw =>
   simp only [List.length_cons] at hn
   rcases hH with ⟨h0, _⟩ | ⟨j, hj, rfl⟩
   ·cases h0
   have hc := close41b (lo := lo) (h := h) (j := j) he hlo (by omega : l.length <= 1000000000) (by omega : st.length <= 1000000000) hE hD (fun q => by have := hbd q; omega) (hlt k (by simp)) (hlt m (by simp))
   have eS : nt (m :: st).reverse ++ (nt [k] ++ j) = nt (k :: m :: st).reverse ++ j := by rw [List.reverse_cons (a := k), nt_app, List.append_assoc]
   obtain ⟨H2, h2, h3, h4⟩ := loop41b hlo hl n (shutL l.length ⟨k :: m :: st, E', D⟩) _ [(19, .undef), (20, .undef), (21, .undef)] (B + 1) (by simp only [shutL, List.length_cons]; omega) (shut_w41 hw) (by omega) (.inl ⟨_, _, _, rfl⟩) (.inr ⟨nt [k] ++ j, jnk_app (jnk_nt _) hj, rfl⟩)
   rw [shutK]
   refine ⟨H2, ?_, h3, h4⟩
   simp only [shutL, List.length_cons] at h2
   rw [eS] at h2
   rw [loop_eq]
   simp only [List.length_cons]
   rw [hc, loop_n]
   exact h2
theorem mkRows_nt (n : Nat) : mkRows n [V.v (.int .i64 0)] = nt (List.replicate n 0) := by
 induction n with
 | zero => rfl
 | succ n ih => rw [mkRows, ih, List.replicate_succ]; rfl
@[go_sem] theorem o56 : tzero Tryz.prog 56 = some [.pointer none] := by kernel_rfl
theorem f41 {l : List Tk4} (hlo : lo <= h.length) (hl : l.length <= 500000000) : E lo 41 [.list .no (l.map row)] h = some (.ptr (h.length + 2) 0, h ++ tx h l (laidM l).E (laidM l).D) := by
 obtain ⟨H1, h1, h2, h3⟩ := loop41 (lo := lo) (h := h) (l := l) hlo (by omega) l.length 0 ⟨[], List.replicate l.length 0, List.replicate l.length 0⟩ _ (by omega) ⟨by simp, by simp, fun k hk => (by cases hk), by simp, fun q => by by_cases hq : q < l.length <;> simp [List.getD_eq_getElem?_getD, hq]⟩ (.inl ⟨rfl, rfl⟩)
 rw [List.drop_zero] at h2 h3
 obtain ⟨H2, h4, h5, h6⟩ := loop41b (lo := lo) (h := h) hlo hl _ _ H1 [(19, .list .no (l.map row)), (20, .v (.int .i64 l.length)), (21, .v (.int .i64 l.length)), (22, .v (.bool false))] l.length rfl h3 (by have := h3.sz; omega) (.inr ⟨_, _, _, _, rfl⟩) h2
 have hv : shutK l.length (runL l 0 l ⟨[], List.replicate l.length 0, List.replicate l.length 0⟩).st.length (runL l 0 l ⟨[], List.replicate l.length 0, List.replicate l.length 0⟩) = laidM l := rfl
 rw [hv] at h5 h6
 have n0 : ((0 : Nat) : Int) = 0 := rfl
 have l1 : lo <= h.length + 1 := by omega
 have l2 : lo <= h.length + 2 := by omega
 have l3 : lo <= h.length + 3 := by omega
 have l4 : lo <= h.length + 4 := by omega
 have z1 : l.length * 8 <= 140737488355328 := by omega
 have z2 : (l.length : Int) <= 9223372036854775807 := by omega
 have z3 : (0 : Int) <= (l.length : Int) := by omega
 rw [e41 (by simp) (by rfl)]
 simp only [l41x0, l41x1, b41, Tryz.f41, loopAt, loops, bodyOf, go_sem, N41, M41, HX, tx, n0, List.cons_append, List.nil_append] at h1 h4
 generalize laidM l = L at *
 have eE := nt_okv (h.length + 3) L.E
 have eD := nt_okv (h.length + 3) L.D
 rcases h5 with ⟨_, rfl⟩ | ⟨j, _, rfl⟩
 ·simp only [HX, tx, List.cons_append, List.nil_append] at h4
  simp only [go_sem, b41, Tryz.f41, hlo, l1, l2, l3, l4, z1, z2, z3, h1, h4, n0, eE, eD, mkRows_nt, nt_swf, tx, List.cons_append, List.nil_append, List.length_map]
  all_goals rfl
 ·simp only [HY, tx, List.cons_append, List.nil_append] at h4
  simp only [go_sem, b41, Tryz.f41, hlo, l1, l2, l3, l4, z1, z2, z3, h1, h4, n0, eE, eD, mkRows_nt, nt_swf, tx, List.cons_append, List.nil_append, List.length_map]
  all_goals rfl
end Go.Lift.P8
end

section
open Go.Proofs
namespace Go.Lift.P8
open Rul
variable [MX]
variable {lo : Nat} {h : Heap}
theorem rows_add (b : List CV) (t : Tk4) : rowsC b ++ [[V.v (Value.int IntKind.i64 t.k), V.v (Value.string (Rul.bs t.b)), V.v (Value.int IntKind.i64 t.n), V.v (Value.int IntKind.i64 t.d), V.v (Value.bool t.w), V.v (Value.bool t.i), V.list .no []]] = rowsC (b ++ [.mk t []]) := by
 rw [rowsC_app, rowsC_cons, rowsC_nil, rowV_eq, rowsC_nil]
theorem addA {l : List Tk4} {t : Tk4} {i : Nat} {b : List CV} (hlo : lo <= h.length) (hg : l[i]? = some t) (hl : l.length <= 1000000000) (hb : b.length <= 1000000000) (hc : ¬ 0 < closer t.k) :
  evCode ⟨Tryz.prog, E, lo, h.length, h26⟩ loopW l26x0 (N26 h l i, HA h b) = some (.normal, N26 h l (i + 1), HA h (b ++ [.mk t []])) := by
 have hlt : i < l.length := (List.getElem?_eq_some_iff.1 hg).1
 have q : decide ((i : Int) < (l.length : Int)) = true := by simpa using hlt
 have hgr : (l.map row)[i]? = some (row t) := by rw [List.getElem?_map, hg]; rfl
 have hw : IntKind.i64.wrap ((i : Int) + 1) = ((i + 1 : Nat) : Int) := wrap_succ (by omega)
 have l1 : lo <= h.length + 1 := by omega
 have l2 : lo <= h.length + 2 := by omega
 have l3 : lo <= h.length + 3 := by omega
 have l4 : lo <= h.length + 4 := by omega
 have l5 : lo <= h.length + 5 := by omega
 have qc : decide (0 < closer t.k) = false := by simpa using hc
 have o1 := lim72 hb
 have o2 := limC hb
 have ra := rowsC_all b
 have rb := byteRow_rowsC b
 have rl := rowsC_len b
 have q01 : (0 : Int) < ((1 : Nat) : Int) := by decide
 have q0 : decide ((0 : Int) < ((0 : Nat) : Int)) = false := rfl
 have c52 := f52 (lo := lo) (h := h ++ [.cells [.list .yes (rowsC b)], .cells [.stk h.length 1 1], .cells [.list .yes []], .cells (row t)]) (by simp; omega) t.k
 simp only [HA]
 rw [<- rows_add]
 generalize rowsC b = R at *
 simp only [row] at hgr c52
 simp only [N26, row, go_sem, l26x0, b26, Tryz.f26, hlo, l1, l2, l3, l4, l5, q, q0, q01, hgr, hw, qc, c52, o1, o2, ra, rb, rl, List.length_map, List.length_nil]
 all_goals rfl
theorem addB0 {l : List Tk4} {t : Tk4} {i : Nat} {b : List CV} {j k : List V} (hlo : lo <= h.length) (hg : l[i]? = some t) (hl : l.length <= 1000000000) (hb : b.length <= 1000000000) (hj : Jnk j) (hk : Jnk k) (hc : ¬ 0 < closer t.k) :
  evCode ⟨Tryz.prog, E, lo, h.length, h26⟩ loopW l26x0 (N26 h l i, HB h (stC [] b ++ j) k 0) = some (.normal, N26 h l (i + 1), HB h (stC [] (b ++ [.mk t []]) ++ j) k 0) := by
 have hlt : i < l.length := (List.getElem?_eq_some_iff.1 hg).1
 have q : decide ((i : Int) < (l.length : Int)) = true := by simpa using hlt
 have hgr : (l.map row)[i]? = some (row t) := by rw [List.getElem?_map, hg]; rfl
 have hw : IntKind.i64.wrap ((i : Int) + 1) = ((i + 1 : Nat) : Int) := wrap_succ (by omega)
 have l1 : lo <= h.length + 1 := by omega
 have l2 : lo <= h.length + 2 := by omega
 have l3 : lo <= h.length + 3 := by omega
 have l4 : lo <= h.length + 4 := by omega
 have l5 : lo <= h.length + 5 := by omega
 have qc : decide (0 < closer t.k) = false := by simpa using hc
 have o1 := lim72 hb
 have o2 := limC hb
 have ra := rowsC_all b
 have rb := byteRow_rowsC b
 have rl := rowsC_len b
 have hjk := (hj (h.length + 4)).2
 have hkk := (hk (h.length + 4)).2
 have hj5 := (hj (h.length + 5)).2
 have hk5 := (hk (h.length + 5)).2
 have q01 : (0 : Int) < ((1 : Nat) : Int) := by decide
 have q0 : decide ((0 : Int) < ((0 : Nat) : Int)) = false := rfl
 have c52 := f52 (lo := lo) (h := h ++ [.cells (.list .yes (rowsC b) :: j), .cells [.stk h.length 1 1], .cells [.stk (h.length + 3) 0 6], .cells k, .cells (row t)]) (by simp; omega) t.k
 simp only [HB, stC, List.singleton_append]
 rw [<- rows_add]
 generalize rowsC b = R at *
 simp only [row] at hgr c52
 simp only [N26, row, go_sem, l26x0, b26, Tryz.f26, hlo, l1, l2, l3, l4, l5, q, q0, q01, hgr, hw, qc, c52, o1, o2, ra, rb, rl, hjk, hkk, hj5, hk5, List.length_map, List.length_nil]
 all_goals rfl
theorem addB1 {l : List Tk4} {t o : Tk4} {i : Nat} {ks : List CV} {s : Stk} {b : List CV} {j k : List V} (hlo : lo <= h.length) (hg : l[i]? = some t) (hl : l.length <= 1000000000) (hs : s.length <= 1000000000) (hb : ks.length <= 1000000000) (hj : Jnk j) (hk : Jnk k) (hc : ¬ 0 < closer t.k) (he : ¬ closer o.k = t.k) :
  evCode ⟨Tryz.prog, E, lo, h.length, h26⟩ loopW l26x0 (N26 h l i, HB h (stC ((o, ks) :: s) b ++ j) (opnC ((o, ks) :: s) ++ k) (s.length + 1)) =
   some (.normal, N26 h l (i + 1), HB h (stC ((o, ks ++ [.mk t []]) :: s) b ++ j) (opnC ((o, ks) :: s) ++ k) (s.length + 1)) := by
 have hlt : i < l.length := (List.getElem?_eq_some_iff.1 hg).1
 have q : decide ((i : Int) < (l.length : Int)) = true := by simpa using hlt
 have hgr : (l.map row)[i]? = some (row t) := by rw [List.getElem?_map, hg]; rfl
 have hw : IntKind.i64.wrap ((i : Int) + 1) = ((i + 1 : Nat) : Int) := wrap_succ (by omega)
 have l1 : lo <= h.length + 1 := by omega
 have l2 : lo <= h.length + 2 := by omega
 have l3 : lo <= h.length + 3 := by omega
 have l4 : lo <= h.length + 4 := by omega
 have l5 : lo <= h.length + 5 := by omega
 have qc : decide (0 < closer t.k) = false := by simpa using hc
 have o1 := lim72 hb
 have o2 := limC hb
 have ra := rowsC_all ks
 have rb := byteRow_rowsC ks
 have rl := rowsC_len ks
 have hkd := opnC_kind o ks s k
 have hTk := (jnk_app (jnk_st ((o, ks ++ [.mk t []]) :: s) b) hj (h.length + 4)).2
 have hOk := (jnk_app (jnk_op ((o, ks) :: s)) hk (h.length + 4)).2
 have hS5 := (jnk_app (jnk_st ((o, ks) :: s) b) hj (h.length + 5)).2
 have hO5 := (jnk_app (jnk_op ((o, ks) :: s)) hk (h.length + 5)).2
 have htop := stC_top ((o, ks) :: s) b j
 have hset := stC_set ((o, ks) :: s) b j (.mk t [])
 simp only [topL, addTop, List.length_cons] at htop hset
 have hSl : s.length + 1 < (stC ((o, ks) :: s) b ++ j).length := by rw [List.length_append, stC_len, List.length_cons]; omega
 have hS1 : s.length + 1 + 1 <= (stC ((o, ks) :: s) b ++ j).length := hSl
 have hkk : ∀ (x y : V), ((stC ((o, ks) :: s) b ++ j).set (s.length + 1) y).take (s.length + 1) ++ x :: ((stC ((o, ks) :: s) b ++ j).set (s.length + 1) y).drop (s.length + 1 + 1) = (stC ((o, ks) :: s) b ++ j).set (s.length + 1) x := fun x y => by rw [tk_set (by rw [List.length_set]; exact hSl), List.set_set]
 have hql : decide ((0 : Int) < ((s.length + 1 : Nat) : Int)) = true := by rw [decide_eq_true_iff]; omega
 have w1 : IntKind.i64.wrap (((s.length + 1 : Nat) : Int) - 1) = (s.length : Int) := by rw [wrap_i64 (by omega) (by omega)]; omega
 have a1 : (0 : Int) <= (s.length : Int) /\ (s.length : Int) < ((s.length + 1 : Nat) : Int) := by omega
 have a2 : (s.length : Int) < ((s.length + 1 : Nat) : Int) := by omega
 have a3 : ((s.length + 1 : Nat) : Int) < ((s.length + 1 + 1 : Nat) : Int) := by omega
 have qe : (closer o.k == t.k) = false := by rw [beq_eq_false_iff_ne]; exact he
 simp only [HB]
 rw [<- hset] at hTk ⊢
 rw [<- rows_add] at hTk ⊢
 generalize stC ((o, ks) :: s) b ++ j = S at *
 generalize opnC ((o, ks) :: s) ++ k = O at *
 generalize rowsC ks = R at *
 have c52 := fun lo kd hlo => f52 (lo := lo) (h := h ++ [.cells S, .cells [.stk h.length (s.length + 2) 1], .cells [.stk (h.length + 3) (s.length + 1) 6], .cells O, .cells (row t)]) hlo kd
 have c52a := c52 lo t.k (by simp; omega); have c52b := c52 (h.length + 5) o.k (by simp)
 clear c52
 simp only [row] at hgr c52a c52b
 simp only [N26, row, go_sem, l26x0, b26, Tryz.f26, hlo, l1, l2, l3, l4, l5, q, hgr, hw, qc, c52a, c52b, hkd, htop, hSl, hS1, hkk, hTk, hOk, hS5, hO5, hql, w1, a1, a2, a3, qe, o1, o2, ra, rb, rl, Nat.mul_one, List.length_set, List.set_set, List.length_map]
 all_goals rfl
end Go.Lift.P8
end

section
open Go.Proofs
namespace Go.Lift.P8
open Rul
variable [MX]
variable {lo : Nat} {h : Heap}
def H26 (h : Heap) (s : Stk) (b : List CV) (H : Heap) : Prop :=
 (s = [] /\ H = HA h b) \/ ∃ j k, Jnk j /\ Jnk k /\ H = HB h (stC s b ++ j) (opnC s ++ k) s.length
theorem step_open {t : Tk4} {s : Stk} {b : List CV} (hs : Opn s) (hc : 0 < closer t.k) : stepS t s b = ((t, []) :: s, b) := by
 unfold stepS
 rw [if_neg, if_pos (by omega)]
 intro he
 cases s with
 | nil => cases he
 | cons p r =>
  obtain ⟨o, ks⟩ := p
  have h1 : closer o.k = t.k := Option.some.inj he
  have := closer_closer o.k
  rw [h1] at this
  omega
theorem step_shut {t o : Tk4} {ks : List CV} {s : Stk} {b : List CV} (he : closer o.k = t.k) : stepS t ((o, ks) :: s) b = shutS ((o, ks) :: s) b := by
 unfold stepS
 rw [if_pos (by show some (closer o.k) = some t.k; rw [he])]
theorem step_add {t : Tk4} {s : Stk} {b : List CV} (hc : closer t.k = 0) (he : ctx s ≠ some t.k) : stepS t s b = addTop (.mk t []) s b := by
 unfold stepS
 rw [if_neg he, if_neg (by simp [hc])]
theorem round26 {l : List Tk4} {t : Tk4} {i : Nat} {s : Stk} {b : List CV} {H : Heap} (hlo : lo <= h.length) (hg : l[i]? = some t) (hl : l.length <= 1000000000) (hz : szS s + b.length <= 1000000000) (ho : Opn s) (hH : H26 h s b H) :
  ∃ H', evCode ⟨Tryz.prog, E, lo, h.length, h26⟩ loopW l26x0 (N26 h l i, H) = some (.normal, N26 h l (i + 1), H') /\ H26 h (stepS t s b).1 (stepS t s b).2 H' := by
 have hsl := szS_len s
 have hnn := closer_nn t.k
 by_cases hc : 0 < closer t.k
 ·rw [step_open ho hc]
  rcases hH with ⟨rfl, rfl⟩ | ⟨j, k, hj, hk, rfl⟩
  ·exact ⟨_, openA hlo hg hl hc, .inr ⟨[], [], jnk_nil, jnk_nil, by simp⟩⟩
  ·exact ⟨_, openB hlo hg hl (by omega) hj hk hc, .inr ⟨[], [], jnk_nil, jnk_nil, by simp⟩⟩
 ·have hc0 : closer t.k = 0 := by omega
  cases s with
  | nil =>
   rw [step_add hc0 (by simp [ctx])]
   have hb : b.length <= 1000000000 := by simp only [szS] at hz; omega
   rcases hH with ⟨_, rfl⟩ | ⟨j, k, hj, hk, rfl⟩
   ·exact ⟨_, addA hlo hg hl hb hc, .inl ⟨rfl, rfl⟩⟩
   ·refine ⟨_, addB0 hlo hg hl hb hj (jnk_app jnk_nil hk) hc, .inr ⟨j, k, hj, hk, rfl⟩⟩
  | cons p r =>
   obtain ⟨o, ks⟩ := p
   simp only [szS] at hz
   have hrl := szS_len r
   have hrt := szS_top r b
   rcases hH with ⟨h0, _⟩ | ⟨j, k, hj, hk, rfl⟩
   ·cases h0
   by_cases he : closer o.k = t.k
   ·rw [step_shut he]
    refine ⟨_, shutB hlo hg hl (by omega) (by omega) hj hk hc he, .inr ⟨.list .yes (rowsC ks) :: j, row o ++ k, jnk_l hj, jnk_app (fun i => ⟨rfl, rfl⟩) hk, ?_⟩⟩
    rw [shutS_len]
    congr 1
    rw [show (shutS ((o, ks) :: r) b).1 = (addTop (.mk o ks) r b).1 from rfl, opnC_addTop, opnC, List.append_assoc]
   ·rw [step_add hc0 (by show some (closer o.k) ≠ some t.k; intro e; exact he (Option.some.inj e))]
    refine ⟨_, addB1 hlo hg hl (by omega) (by omega) hj hk hc he, .inr ⟨j, k, hj, hk, rfl⟩⟩
theorem stop26 {l : List Tk4} {s : Stk} {b : List CV} {H : Heap} (hlo : lo <= h.length) (hH : H26 h s b H) :
  evCode ⟨Tryz.prog, E, lo, h.length, h26⟩ loopW l26x0 (N26 h l l.length, H) = some (.exit 0, N26 h l l.length ++ [(14, .v (.bool false))], H) := by
 have q : decide ((l.length : Int) < (l.length : Int)) = false := by simp
 have hl : h.length <= H.length := by
  rcases hH with ⟨_, rfl⟩ | ⟨j, k, _, _, rfl⟩ <;> simp
 have hlo' : lo <= H.length := by omega
 simp only [N26, go_sem, l26x0, b26, Tryz.f26, hlo, q]
 all_goals rfl
theorem loop26 {l : List Tk4} (hlo : lo <= h.length) (hl : l.length <= 1000000000) : ∀ (m i : Nat) (s : Stk) (b : List CV) (H : Heap), i + m = l.length -> szS s + b.length + m <= 1000000000 -> Opn s -> H26 h s b H ->
  ∃ H', loopW (evCode ⟨Tryz.prog, E, lo, h.length, h26⟩ loopW l26x0) (N26 h l i, H) = some (.exit 0, N26 h l l.length ++ [(14, .v (.bool false))], H') /\ H26 h (runS (l.drop i) s b).1 (runS (l.drop i) s b).2 H' /\ szS (runS (l.drop i) s b).1 + (runS (l.drop i) s b).2.length <= 1000000000
 | 0, i, s, b, H, hm, hz, ho, hH => by
  obtain rfl : i = l.length := by omega
  rw [List.drop_length, runS]
  exact ⟨H, by rw [loop_eq, stop26 hlo hH, loop_e], hH, by omega⟩
 | m + 1, i, s, b, H, hm, hz, ho, hH => by
  have hlt : i < l.length := by omega
  have hd : l.drop i = l[i] :: l.drop (i + 1) := List.drop_eq_getElem_cons hlt
  obtain ⟨H1, hr, h1⟩ := round26 hlo (List.getElem?_eq_getElem hlt) hl (by omega) ho hH
  have hz1 := szS_step l[i] s b
  obtain ⟨H2, h2, h3, h4⟩ := loop26 hlo hl m (i + 1) _ _ H1 (by omega) (by omega) (opn_step ho) h1
  rw [hd, runS]
  exact ⟨H2, by rw [loop_eq, hr, loop_n, h2], h3, h4⟩
abbrev M26 (h : Heap) (ex : Env) : Env := (3, .ptr (h.length + 1) 0) :: (4, .ptr (h.length + 2) 0) :: (5, .fn 51 [.ptr (h.length + 1) 0, .ptr (h.length + 2) 0]) :: ex
def Ex26 (ex : Env) : Prop := (∃ a b c, ex = [(11, a), (12, b), (13, c)]) \/ ∃ a b c d, ex = [(11, a), (12, b), (13, c), (14, d)]
theorem close26 {o : Tk4} {ks : List CV} {s : Stk} {b : List CV} {j k : List V} {ex : Env} (he : Ex26 ex) (hlo : lo <= h.length) (hs : s.length <= 1000000000) (hr : (topL s b).length <= 1000000000) (hj : Jnk j) (hk : Jnk k) :
  evCode ⟨Tryz.prog, E, lo, h.length, h26⟩ loopW l26x1 (M26 h ex, HB h (stC ((o, ks) :: s) b ++ j) (opnC ((o, ks) :: s) ++ k) (s.length + 1)) =
   some (.normal, M26 h [(11, .undef), (12, .undef), (13, .undef)], HB h (stC (shutS ((o, ks) :: s) b).1 (shutS ((o, ks) :: s) b).2 ++ (.list .yes (rowsC ks) :: j)) (opnC ((o, ks) :: s) ++ k) s.length) := by
 have hcl := stC_shut o ks s b j
 have h5 := f51a (lo := lo) (p := h) (t := o) (ks := ks) (sc := stC ((o, ks) :: s) b ++ j) (oc := opnC ((o, ks) :: s) ++ k) hlo hs (stC_under (o, ks) s b j) (stC_top ((o, ks) :: s) b j) hr (by rw [List.length_append, opnC_len, List.length_cons]; omega) (opnC_top o ks s k)
 rw [hcl] at h5
 have q : decide ((0 : Int) < ((s.length + 1 : Nat) : Int)) = true := by rw [decide_eq_true_iff]; omega
 simp only [HB]
 generalize stC ((o, ks) :: s) b ++ j = S at *
 generalize opnC ((o, ks) :: s) ++ k = O at *
 rcases he with ⟨x, y, z, rfl⟩ | ⟨x, y, z, w, rfl⟩
 ·simp only [M26, go_sem, l26x1, b26, Tryz.f26, hlo, q, h5]
  all_goals rfl
 ·simp only [M26, go_sem, l26x1, b26, Tryz.f26, hlo, q, h5]
  all_goals rfl
theorem end26 {b : List CV} {H : Heap} {ex : Env} (he : Ex26 ex) (hlo : lo <= h.length) (hH : H26 h [] b H) :
  evCode ⟨Tryz.prog, E, lo, h.length, h26⟩ loopW l26x1 (M26 h ex, H) = some (.exit 3, M26 h [(75, .v (.bool false))], H) := by
 have q : decide ((0 : Int) < ((0 : Nat) : Int)) = false := rfl
 rcases hH with ⟨_, rfl⟩ | ⟨j, k, _, _, rfl⟩
 ·rcases he with ⟨x, y, z, rfl⟩ | ⟨x, y, z, w, rfl⟩
  ·simp only [M26, HA, go_sem, l26x1, b26, Tryz.f26, hlo, q, List.length_nil]
   all_goals rfl
  ·simp only [M26, HA, go_sem, l26x1, b26, Tryz.f26, hlo, q, List.length_nil]
   all_goals rfl
 ·rcases he with ⟨x, y, z, rfl⟩ | ⟨x, y, z, w, rfl⟩
  ·simp only [M26, HB, go_sem, l26x1, b26, Tryz.f26, hlo, q, List.length_nil]
   all_goals rfl
  ·simp only [M26, HB, go_sem, l26x1, b26, Tryz.f26, hlo, q, List.length_nil]
   all_goals rfl
theorem loop26b (hlo : lo <= h.length) : ∀ (n : Nat) (s : Stk) (b : List CV) (H : Heap) (ex : Env), s.length = n -> szS s + b.length <= 1000000000 -> Ex26 ex -> H26 h s b H ->
  ∃ H', loopW (evCode ⟨Tryz.prog, E, lo, h.length, h26⟩ loopW l26x1) (M26 h ex, H) = some (.exit 3, M26 h [(75, .v (.bool false))], H') /\ H26 h [] (shutAll s b) H'
 | 0, s, b, H, ex, hn, hz, he, hH => by
  obtain rfl := List.eq_nil_of_length_eq_zero hn
  exact ⟨H, by rw [loop_eq, end26 he hlo hH, loop_e], hH⟩
 | n + 1, [], b, H, ex, hn, hz, he, hH => by cases hn
 | n + 1, (o, ks) :: r, b, H, ex, hn, hz, he, hH => by
  have hz1 := szS_shut o ks r b
  simp only [szS, List.length_cons] at hz hn
  have hrl := szS_len r
  have hrt := szS_top r b
  rcases hH with ⟨h0, _⟩ | ⟨j, k, hj, hk, rfl⟩
  ·cases h0
  have hc := close26 (o := o) (ks := ks) (s := r) (b := b) (j := j) (k := k) he hlo (by omega) (by omega) hj hk
  rw [shutAll_cons]
  have hlen := shutS_len (o, ks) r b
  obtain ⟨H2, h2, h3⟩ := loop26b hlo n (shutS ((o, ks) :: r) b).1 (shutS ((o, ks) :: r) b).2 _ [(11, .undef), (12, .undef), (13, .undef)] (by omega) (by simp only [szS] at hz1; omega) (.inl ⟨_, _, _, rfl⟩)
   (.inr ⟨.list .yes (rowsC ks) :: j, row o ++ k, jnk_l hj, jnk_app (fun i => ⟨rfl, rfl⟩) hk, rfl⟩)
  refine ⟨H2, ?_, h3⟩
  have e1 : opnC (shutS ((o, ks) :: r) b).1 ++ (row o ++ k) = opnC ((o, ks) :: r) ++ k := by
   rw [show (shutS ((o, ks) :: r) b).1 = (addTop (.mk o ks) r b).1 from rfl, opnC_addTop, opnC, List.append_assoc]
  rw [hlen, e1] at h2
  rw [loop_eq]
  simp only [List.length_cons]
  rw [hc, loop_n]
  exact h2
theorem opn_nil : Opn [] := fun p hp => by cases hp
theorem f26 {l : List Tk4} (hlo : lo <= h.length) (hl : l.length <= 1000000000) : E lo 26 [.list .no (l.map row)] h = some (.list .no (rowsC (vals l)), h) := by
 obtain ⟨H1, h1, h2, h3⟩ := loop26 (lo := lo) (h := h) hlo hl l.length 0 [] [] (HA h []) (by omega) (by simp only [szS, List.length_nil]; omega) opn_nil (.inl ⟨rfl, rfl⟩)
 rw [List.drop_zero] at h2 h3
 obtain ⟨H2, h4, h5⟩ := loop26b (lo := lo) (h := h) hlo _ _ _ H1 [(11, .list .no (l.map row)), (12, .v (.int .i64 l.length)), (13, .v (.int .i64 l.length)), (14, .v (.bool false))] rfl h3 (.inr ⟨_, _, _, _, rfl⟩) h2
 have hv : shutAll (runS l [] []).1 (runS l [] []).2 = vals l := rfl
 rw [hv] at h5
 have n0 : ((0 : Nat) : Int) = 0 := rfl
 rw [e26 (by simp) (by rfl)]
 simp only [l26x0, l26x1, b26, Tryz.f26, loopAt, loops, bodyOf, go_sem, N26, M26, HA, n0, rowsC_nil, List.cons_append, List.nil_append] at h1 h4
 have l1 : lo <= h.length + 1 := by omega
 have l2 : lo <= h.length + 2 := by omega
 have l3 : lo <= h.length + 3 := by omega
 have p1 : (0 : Int) < ((1 : Nat) : Int) := by decide
 rcases h5 with ⟨_, rfl⟩ | ⟨j, k, _, _, rfl⟩
 ·simp only [go_sem, b26, Tryz.f26, hlo, l1, l2, l3, h1, h4, n0, p1, HA, rowsC_nil, List.length_map]
  all_goals rfl
 ·simp only [go_sem, b26, Tryz.f26, hlo, l1, l2, l3, h1, h4, n0, p1, HB, stC, rowsC_nil, List.length_map, List.singleton_append, List.length_nil, Nat.zero_add]
  all_goals rfl
end Go.Lift.P8
end

section
namespace Go.Lift.Rul
def noHit (ks : List Int) (v : PV) : Bool := !ks.contains v.t.k
structure LaidAt (l : List Tk4) (E D : List Nat) (p q : Nat) (G : List PV) : Prop where
 lies : Lies l p (toksL G)
 laid : laidL l.length E D p G
 good : ∃ x b, goodL x b G
 len : p + (toksL G).length = q
 le : q <= l.length
theorem toksL_cons (v : PV) (r : List PV) : toksL (v :: r) = toksV v ++ toksL r := by rw [toksL]
theorem LaidAt.head {l : List Tk4} {E D : List Nat} {p q : Nat} {v : PV} {r : List PV} (h : LaidAt l E D p q (v :: r)) : l[p]? = some v.t := by
 have h1 := h.lies
 rw [toksL_cons] at h1
 have := h1.left 0 (toksV_pos v)
 rw [Nat.add_zero] at this
 rw [this, toks_head]
theorem LaidAt.tail {l : List Tk4} {E D : List Nat} {p q : Nat} {v : PV} {r : List PV} (h : LaidAt l E D p q (v :: r)) : LaidAt l E D (p + (toksV v).length) q r := by
 obtain ⟨h1, h2, ⟨x, b, h3⟩, h4, h5⟩ := h
 rw [toksL_cons] at h1 h4
 rw [laidL] at h2
 exact ⟨h1.right, h2.2, ⟨x, b, (goodL_cons.1 h3).2⟩, by rw [List.length_append] at h4; omega, h5⟩
theorem LaidAt.lt {l : List Tk4} {E D : List Nat} {p q : Nat} {v : PV} {r : List PV} (h : LaidAt l E D p q (v :: r)) : p < q := by
 have := h.len
 have := toksV_pos v
 rw [toksL_cons, List.length_append] at *
 omega
theorem LaidAt.nil {l : List Tk4} {E D : List Nat} {p q : Nat} (h : LaidAt l E D p q []) : p = q := by
 have := h.len
 rw [toksL] at this
 simpa using this
theorem LaidAt.over {l : List Tk4} {E D : List Nat} {p q : Nat} {v : PV} {r : List PV} (h : LaidAt l E D p q (v :: r)) : (if closer v.t.k = 0 then p + 1 else min (E.getD p 0 + 1) q) = p + (toksV v).length := by
 obtain ⟨h1, h2, ⟨x, b, h3⟩, h4, h5⟩ := h
 rw [laidL] at h2
 have hv := (goodL_cons.1 h3).1
 rw [toksL_cons, List.length_append] at h4
 cases v with
 | leaf t =>
  have := (goodV_leaf.1 hv).1
  rw [if_pos (by exact this), toksV]; rfl
 | node t ks c =>
  have hl := laidV_node.1 h2.1
  cases c with
  | none =>
   have hg := goodV_none.1 hv
   rw [if_neg (by exact hg.1), hl.1]
   have hr : r = [] := by
    have := hg.2.2.1
    simp only [Bool.and_eq_true, List.isEmpty_iff] at this
    exact this.2
   subst hr
   rw [toksL] at h4
   simp only [List.length_nil, Nat.add_zero] at h4
   show min (l.length + 1) q = _
   omega
  | some e =>
   have hg := goodV_some.1 hv
   rw [if_neg (by exact hg.1), hl.1]
   show min (p + 1 + (toksL ks).length + 1) q = _
   rw [toksV] at h4 ⊢
   simp only [List.length_cons, List.length_append, Option.toList, List.length_nil] at h4 ⊢
   omega
theorem LaidAt.deep {l : List Tk4} {E D : List Nat} {p q : Nat} {v : PV} {r : List PV} (h : LaidAt l E D p q (v :: r)) : D.getD p 0 = depV v := by
 have h2 := h.laid
 rw [laidL] at h2
 cases v with
 | leaf t => have := h2.1; rw [laidV] at this; rw [this, depV]
 | node t ks c => rw [(laidV_node.1 h2.1).2.1, depV]
theorem LaidAt.cut {l : List Tk4} {E D : List Nat} (f : PV -> Bool) : ∀ {G : List PV} {p q : Nat}, LaidAt l E D p q G -> LaidAt l E D (p + (toksL (G.takeWhile f)).length) q (G.dropWhile f)
 | [], p, q, h => by rw [List.takeWhile_nil, List.dropWhile_nil, toksL]; exact h
 | v :: r, p, q, h => by
  rw [List.takeWhile_cons, List.dropWhile_cons]
  split
  ·rw [toksL_cons, List.length_append, <- Nat.add_assoc]
   exact LaidAt.cut f h.tail
  ·rw [toksL]; exact h
theorem laidL_left {N : Nat} {E D : List Nat} : ∀ (F G : List PV) {p : Nat}, laidL N E D p (F ++ G) -> laidL N E D p F
 | [], G, p, _ => by rw [laidL]; trivial
 | v :: r, G, p, h => by
  rw [List.cons_append, laidL] at h
  rw [laidL]
  exact ⟨h.1, laidL_left r G h.2⟩
theorem LaidAt.front {l : List Tk4} {E D : List Nat} (f : PV -> Bool) {G : List PV} {p q : Nat} (h : LaidAt l E D p q G) : LaidAt l E D p (p + (toksL (G.takeWhile f)).length) (G.takeWhile f) := by
 obtain ⟨h1, h2, ⟨x, b, h3⟩, h4, h5⟩ := h
 have e : G.takeWhile f ++ G.dropWhile f = G := List.takeWhile_append_dropWhile
 rw [<- e] at h1 h2 h3 h4
 rw [toksL_app] at h1 h4
 rw [List.length_append] at h4
 exact ⟨h1.left, laidL_left _ _ h2, ⟨x, _, (goodL_app _ _ h3).1⟩, rfl, by omega⟩
theorem all_dep {n : Nat} : ∀ G : List PV, (G.all fun v => decide (depV v <= n)) = !decide (n < depL G)
 | [] => by rw [depL]; simp
 | v :: r => by
  rw [List.all_cons, all_dep r, depL]
  rw [Bool.eq_iff_iff]
  simp
  omega
theorem LaidAt.fine {l : List Tk4} {E D : List Nat} {G : List PV} {p q n : Nat} (h : LaidAt l E D p q G) : (G.all fun v => decide (depV v <= n)) = !deepL n (cvL G) := by
 obtain ⟨x, b, h3⟩ := h.good
 rw [all_dep, deep_depL G n h3]
theorem lies_slice {l m : List Tk4} {p q : Nat} (h : Lies l p m) (hq : p + m.length = q) (hl : q <= l.length) : (l.take q).drop p = m := by
 apply List.ext_getElem?
 intro k
 rw [List.getElem?_drop, List.getElem?_take]
 by_cases hk : k < m.length
 ·rw [if_pos (by omega), h k hk]
 ·rw [if_neg (by omega), List.getElem?_eq_none (by omega)]
theorem LaidAt.vals {l : List Tk4} {E D : List Nat} {G : List PV} {p q : Nat} (h : LaidAt l E D p q G) : Rul.vals ((l.take q).drop p) = cvL G := by
 obtain ⟨x, b, h3⟩ := h.good
 rw [lies_slice h.lies h.len h.le, vals_toks h3]
theorem LaidAt.kids {l : List Tk4} {E D : List Nat} {p q : Nat} {t : Tk4} {ks r : List PV} {c : Option Tk4} (h : LaidAt l E D p q (.node t ks c :: r)) : LaidAt l E D (p + 1) (min (E.getD p 0) q) ks := by
 have ho := h.lt
 obtain ⟨h1, h2, ⟨x, b, h3⟩, h4, h5⟩ := h
 rw [laidL] at h2
 have hl := laidV_node.1 h2.1
 have hv := (goodL_cons.1 h3).1
 rw [toksL_cons, toksV] at h1 h4
 simp only [List.length_cons, List.length_append] at h4
 have hly : Lies l (p + 1) (toksL ks) := fun k hk => by
  have := h1 (k + 1) (by simp; omega)
  rw [show p + (k + 1) = p + 1 + k by omega] at this
  rw [this, List.cons_append, List.getElem?_cons_succ, List.append_assoc, List.getElem?_append_left hk]
 cases c with
 | none =>
  have hg := goodV_none.1 hv
  have hr : r = [] := by
   have := hg.2.2.1
   simp only [Bool.and_eq_true, List.isEmpty_iff] at this
   exact this.2
  subst hr
  rw [toksL] at h4
  simp only [List.length_nil, Nat.add_zero, Option.toList] at h4
  have e : min (E.getD p 0) q = q := by rw [hl.1]; show min l.length q = q; omega
  rw [e]
  exact ⟨hly, hl.2.2, ⟨_, _, hg.2.2.2⟩, by omega, h5⟩
 | some e =>
  have hg := goodV_some.1 hv
  simp only [Option.toList, List.length_cons, List.length_nil] at h4
  have e2 : min (E.getD p 0) q = p + 1 + (toksL ks).length := by rw [hl.1]; show min (p + 1 + (toksL ks).length) q = _; omega
  rw [e2]
  exact ⟨hly, hl.2.2, ⟨_, _, hg.2.2.2⟩, rfl, by omega⟩
end Go.Lift.Rul
end
