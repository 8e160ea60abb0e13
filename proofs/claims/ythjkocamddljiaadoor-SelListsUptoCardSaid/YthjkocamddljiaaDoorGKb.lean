/- May component values be? -/
import Derived.Lib.TrailingZeros
import Derived.Lib.ItoaNum
import Derived.Lib.IndexLaws
import Derived.Lib.Repeat
import Derived.Lib.Bytealg
import Derived.Lib.Index
import Derived.Test.YthjkocamddljiaaDoorGLd
import Derived.Test.YthjkocamddljiaaDoorGKa
import Derived.Test.YthjkocamddljiaaDoorGK6Basea
set_option linter.unusedVariables false
set_option linter.unusedSimpArgs false
set_option linter.unusedSectionVars false
set_option maxRecDepth 20000
set_option maxHeartbeats 4000000
section
open Go.Proofs
namespace Go.Lift.Q1
open Rul
variable [MX]
variable {lo : Nat} {h : Heap}
theorem f23 (hlo : lo <= h.length) (k : Int) : E lo 23 [.v (.int .i64 k)] h = some (.v (.int .i64 (closer k)), h) := by
 rw [e23 (by simp) (by rfl)]
 unfold closer
 by_cases a : k = 19
 ·subst a; simp only [go_sem, b23, Tryd.f23, hlo]; all_goals rfl
 ·by_cases b : k = 23
  ·subst b; simp only [go_sem, b23, Tryd.f23, hlo]; all_goals rfl
  ·by_cases c : k = 2
   ·subst c; simp only [go_sem, b23, Tryd.f23, hlo]; all_goals rfl
   ·by_cases d : k = 21
    ·subst d; simp only [go_sem, b23, Tryd.f23, hlo]; all_goals rfl
    ·have ha : (k == 19) = false := by simpa using a
     have hb : (k == 23) = false := by simpa using b
     have hc : (k == 2) = false := by simpa using c
     have hd : (k == 21) = false := by simpa using d
     simp only [go_sem, b23, Tryd.f23, hlo, ha, hb, hc, hd, a, b, c, d, or_self, if_false]
theorem f15 (hlo : lo <= h.length) (k : Int) : E lo 15 [.v (.int .i64 k)] h = some (.v (.int .i64 (closer k)), h) := by
 rw [e15 (by simp) (by rfl)]
 unfold closer
 by_cases a : k = 19
 ·subst a; simp only [go_sem, b15, Tryd.f15, hlo]; all_goals rfl
 ·by_cases b : k = 23
  ·subst b; simp only [go_sem, b15, Tryd.f15, hlo]; all_goals rfl
  ·by_cases c : k = 2
   ·subst c; simp only [go_sem, b15, Tryd.f15, hlo]; all_goals rfl
   ·by_cases d : k = 21
    ·subst d; simp only [go_sem, b15, Tryd.f15, hlo]; all_goals rfl
    ·have ha : (k == 19) = false := by simpa using a
     have hb : (k == 23) = false := by simpa using b
     have hc : (k == 2) = false := by simpa using c
     have hd : (k == 21) = false := by simpa using d
     simp only [go_sem, b15, Tryd.f15, hlo, ha, hb, hc, hd, a, b, c, d, or_self, if_false]
abbrev N47 (l : List CV) (d k : Int) : Env := [(1, .v (.int .i64 d)), (7, .list .no (rowsC l)), (8, .v (.int .i64 l.length)), (9, .v (.int .i64 k))]
theorem mayV_eq (n : Nat) (t : Tk4) (ks : List CV) : mayV n (.mk t ks) = (decide (1 <= t.k /\ t.k <= 24) && (if closer t.k = 0 then ks.isEmpty else match n with
  | 0 => false
  | n + 1 => mayL n ks)) := by
 cases n <;> rw [mayV]
theorem round16 {l : List CV} {v : CV} {n k : Nat} (hn : n <= 64) (hlo : lo <= h.length) (hl : nodesL l <= 1000000000000000000) (hg : l[k]? = some v)
  (ih : ∀ m, n = m + 1 -> ∀ lo ks h, lo <= h.length -> nodesL ks <= 1000000000000000000 -> E lo 16 [.list .no (rowsC ks), .v (.int .i64 (64 - (m : Int)))] h = some (.v (.bool (mayL m ks)), h)) :
  evCode ⟨Tryd.prog, E, lo, h.length, h16⟩ loopW l16x0 (N47 l (64 - (n : Int)) k, h) =
   if mayV n v = true then some (.normal, N47 l (64 - (n : Int)) (k + 1 : Nat), h) else some (.ret, [(4, .v (.bool false))], h ++ [.cells (rowV v)]) := by
 obtain ⟨t, ks⟩ := v
 have hlt : k < l.length := (List.getElem?_eq_some_iff.1 hg).1
 have hgr : (rowsC l)[k]? = some (rowV (.mk t ks)) := by rw [rowsC_get, hg]; rfl
 have q : decide ((k : Int) < (l.length : Int)) = true := by simp; omega
 have hll := nodesL_len l
 have hkk : nodesL ks <= nodesL l := nodesL_get (v := .mk t ks) hg
 have hw : IntKind.i64.wrap ((k : Int) + 1) = ((k + 1 : Nat) : Int) := wrap_succ (by omega)
 have hlo' : lo <= h.length + 1 := by omega
 have c46 := fun lo hlo => f23 (lo := lo) (h := h ++ [.cells (rowV (.mk t ks))]) hlo t.k
 have c46a := c46 lo (by simp; omega); have c46b := c46 h.length (by simp); have c46c := c46 (h.length + 1) (by simp)
 clear c46
 rw [mayV_eq]
 rw [rowV_eq] at *
 by_cases a1 : t.k < 1
 ·have q1 : decide (t.k < 1) = true := by simpa using a1
  have : decide (1 <= t.k /\ t.k <= 24) = false := by rw [decide_eq_false_iff_not]; omega
  rw [this, Bool.false_and, if_neg (by simp)]
  simp only [go_sem, l16x0, b16, Tryd.f16, hlo, hlo', q, hgr, q1, rowsC_len]
  all_goals rfl
 have q1 : decide (t.k < 1) = false := by simpa using a1
 by_cases a2 : 24 < t.k
 ·have q2 : decide (24 < t.k) = true := by simpa using a2
  have : decide (1 <= t.k /\ t.k <= 24) = false := by rw [decide_eq_false_iff_not]; omega
  rw [this, Bool.false_and, if_neg (by simp)]
  simp only [go_sem, l16x0, b16, Tryd.f16, hlo, hlo', q, hgr, q1, q2, rowsC_len]
  all_goals rfl
 have q2 : decide (24 < t.k) = false := by simpa using a2
 have : decide (1 <= t.k /\ t.k <= 24) = true := by rw [decide_eq_true_iff]; omega
 rw [this, Bool.true_and]
 by_cases a3 : closer t.k = 0
 ·rw [if_pos a3]
  have q3 : (closer t.k == 0) = true := by simpa using a3
  cases ks with
  | nil =>
   have q4 : decide ((0 : Int) < ((0 : Nat) : Int)) = false := rfl
   rw [if_pos (show ([] : List CV).isEmpty = true from rfl)]
   simp only [go_sem, l16x0, b16, Tryd.f16, hlo, hlo', q, hgr, q1, q2, q3, q4, hw, c46a, c46b, c46c, rowsC_len, List.length_nil]
   all_goals rfl
  | cons x r =>
   have q4 : decide ((0 : Int) < ((r.length + 1 : Nat) : Int)) = true := by rw [decide_eq_true_iff]; omega
   rw [if_neg (show ¬ (x :: r).isEmpty = true by simp)]
   simp only [go_sem, l16x0, b16, Tryd.f16, hlo, hlo', q, hgr, q1, q2, q3, q4, hw, c46a, c46b, c46c, rowsC_len, List.length_cons]
   all_goals rfl
 ·rw [if_neg a3]
  have q3 : (closer t.k == 0) = false := by simpa using a3
  cases n with
  | zero =>
   have q5 : decide ((64 : Int) <= 64 - ((0 : Nat) : Int)) = true := rfl
   rw [if_neg (show ¬ false = true by simp)]
   simp only [go_sem, l16x0, b16, Tryd.f16, hlo, hlo', q, hgr, q1, q2, q3, q5, hw, c46a, c46b, c46c, rowsC_len]
   all_goals rfl
  | succ m =>
   have q5 : decide ((64 : Int) <= 64 - ((m + 1 : Nat) : Int)) = false := by rw [decide_eq_false_iff_not]; omega
   have w2 : IntKind.i64.wrap (64 - ((m + 1 : Nat) : Int) + 1) = 64 - (m : Int) := by
    rw [wrap_i64 (by omega) (by omega)]; omega
   have c47 := fun lo hlo => ih m rfl lo ks (h ++ [.cells (rowV (.mk t ks))]) hlo (by omega)
   rw [rowV_eq] at c47
   have c47a := c47 lo (by simp; omega); have c47b := c47 h.length (by simp); have c47c := c47 (h.length + 1) (by simp)
   clear c47 ih
   show _ = if mayL m ks = true then _ else _
   cases hm : mayL m ks with
   | true =>
    rw [hm] at c47a c47b c47c
    rw [if_pos rfl]
    simp only [go_sem, l16x0, b16, Tryd.f16, hlo, hlo', q, hgr, q1, q2, q3, q5, hw, w2, c46a, c46b, c46c, c47a, c47b, c47c, rowsC_len]
    all_goals rfl
   | false =>
    rw [hm] at c47a c47b c47c
    rw [if_neg (by simp)]
    simp only [go_sem, l16x0, b16, Tryd.f16, hlo, hlo', q, hgr, q1, q2, q3, q5, hw, w2, c46a, c46b, c46c, c47a, c47b, c47c, rowsC_len]
    all_goals rfl
theorem stop16 {l : List CV} {d : Int} (hlo : lo <= h.length) : evCode ⟨Tryd.prog, E, lo, h.length, h16⟩ loopW l16x0 (N47 l d l.length, h) =
   some (.exit 0, N47 l d l.length ++ [(10, .v (.bool false))], h) := by
 have q : decide ((l.length : Int) < (l.length : Int)) = false := by simp
 simp only [go_sem, l16x0, b16, Tryd.f16, hlo, q]
 all_goals rfl
theorem mayL_cons (n : Nat) (v : CV) (r : List CV) : mayL n (v :: r) = (mayV n v && mayL n r) := by rw [mayL]
theorem mayL_nil (n : Nat) : mayL n [] = true := by rw [mayL]
theorem loop16 {l : List CV} {n : Nat} (hn : n <= 64) (hlo : lo <= h.length) (hl : nodesL l <= 1000000000000000000)
  (ih : ∀ m, n = m + 1 -> ∀ lo ks h, lo <= h.length -> nodesL ks <= 1000000000000000000 -> E lo 16 [.list .no (rowsC ks), .v (.int .i64 (64 - (m : Int)))] h = some (.v (.bool (mayL m ks)), h)) :
  ∀ (m k : Nat), k + m = l.length -> if mayL n (l.drop k) = true then
    loopW (evCode ⟨Tryd.prog, E, lo, h.length, h16⟩ loopW l16x0) (N47 l (64 - (n : Int)) k, h) = some (.exit 0, N47 l (64 - (n : Int)) l.length ++ [(10, .v (.bool false))], h)
   else ∃ X, loopW (evCode ⟨Tryd.prog, E, lo, h.length, h16⟩ loopW l16x0) (N47 l (64 - (n : Int)) k, h) = some (.ret, [(4, .v (.bool false))], h ++ X) := by
 intro m
 induction m with
 | zero =>
  intro k hk
  obtain rfl : k = l.length := by omega
  rw [List.drop_length, if_pos (mayL_nil n), loop_eq, stop16 hlo, loop_e]
 | succ m ihm =>
  intro k hk
  have hlt : k < l.length := by omega
  have hg : l[k]? = some l[k] := List.getElem?_eq_getElem hlt
  have hd : l.drop k = l[k] :: l.drop (k + 1) := List.drop_eq_getElem_cons hlt
  rw [hd, mayL_cons]
  generalize l[k] = v at *
  have hr := round16 hn hlo hl hg ih
  cases hm : mayV n v with
  | false =>
   rw [hm, if_neg (by simp)] at hr
   rw [Bool.false_and, if_neg (by simp)]
   exact ⟨_, by rw [loop_eq, hr, loop_r]⟩
  | true =>
   rw [hm, if_pos rfl] at hr
   rw [Bool.true_and, loop_eq, hr, loop_n]
   exact ihm (k + 1) (by omega)
theorem f16 : ∀ (n : Nat), n <= 64 -> ∀ (lo : Nat) (l : List CV) (h : Heap), lo <= h.length -> nodesL l <= 1000000000000000000 -> E lo 16 [.list .no (rowsC l), .v (.int .i64 (64 - (n : Int)))] h = some (.v (.bool (mayL n l)), h) := by
 intro n
 induction n with
 | zero =>
  intro hn lo l h hlo hl
  have hL := loop16 (lo := lo) (h := h) hn hlo hl (fun m hm => by omega) l.length 0 (by omega)
  have n0 : ((0 : Nat) : Int) = 0 := rfl
  rw [List.drop_zero] at hL
  rw [e16 (by simp) (by rfl)]
  cases hm : mayL 0 l with
  | false =>
   rw [hm, if_neg (by simp)] at hL
   obtain ⟨X, hL⟩ := hL
   simp only [l16x0, b16, Tryd.f16, loopAt, loops, bodyOf, go_sem, N47, n0] at hL
   simp only [go_sem, b16, Tryd.f16, hlo, hL, rowsC_len, n0]
   all_goals rfl
  | true =>
   rw [hm, if_pos rfl] at hL
   simp only [l16x0, b16, Tryd.f16, loopAt, loops, bodyOf, go_sem, N47, n0, List.cons_append, List.nil_append] at hL
   simp only [go_sem, b16, Tryd.f16, hlo, hL, rowsC_len, n0]
   all_goals rfl
 | succ n ih =>
  intro hn lo l h hlo hl
  have hL := loop16 (lo := lo) (h := h) hn hlo hl (fun m hm => by
   obtain rfl : n = m := by omega
   exact fun lo ks h hlo hk => ih (by omega) lo ks h hlo hk) l.length 0 (by omega)
  have n0 : ((0 : Nat) : Int) = 0 := rfl
  rw [List.drop_zero] at hL
  rw [e16 (by simp) (by rfl)]
  cases hm : mayL (n + 1) l with
  | false =>
   rw [hm, if_neg (by simp)] at hL
   obtain ⟨X, hL⟩ := hL
   simp only [l16x0, b16, Tryd.f16, loopAt, loops, bodyOf, go_sem, N47, n0] at hL
   simp only [go_sem, b16, Tryd.f16, hlo, hL, rowsC_len, n0]
   all_goals rfl
  | true =>
   rw [hm, if_pos rfl] at hL
   simp only [l16x0, b16, Tryd.f16, loopAt, loops, bodyOf, go_sem, N47, n0, List.cons_append, List.nil_append] at hL
   simp only [go_sem, b16, Tryd.f16, hlo, hL, rowsC_len, n0]
   all_goals rfl
end Go.Lift.Q1
end

section
open Go.Proofs
namespace Go.Lift.Q1
open Rul
variable [MX]
variable {lo : Nat} {h : Heap}
theorem f45 (hlo : lo <= h.length) (v : CV) : E lo 45 [.agg (rowV v)] h = some (.v (.bool (spaceC v)), h) := by
 obtain ⟨t, ks⟩ := v
 rw [rowV_eq, e45 (by simp) (by rfl)]
 simp only [go_sem, b45, Tryd.f45, hlo]
 all_goals rfl
theorem f22 (hlo : lo <= h.length) (v : CV) : E lo 22 [.agg (rowV v)] h = some (.v (.bool (spaceC v)), h) := by
 obtain ⟨t, ks⟩ := v
 rw [rowV_eq, e22 (by simp) (by rfl)]
 simp only [go_sem, b22, Tryd.f22, hlo]
 all_goals rfl
theorem rowsC_takeL (r : List CV) : (rowsC r).take r.length = rowsC r := by rw [rowsC_take, List.take_length]
abbrev N56 (l : List CV) : Env := [(0, .list .no (rowsC l))]
theorem round34a {v : CV} {r : List CV} (hlo : lo <= h.length) :
  evCode ⟨Tryd.prog, E, lo, h.length, h34⟩ loopW l34x0 (N56 (v :: r), h) =
   if spaceC v = true then some (.normal, N56 r, h) else some (.exit 0, N56 (v :: r) ++ [(11, .v (.bool false))], h) := by
 obtain ⟨t, ks⟩ := v
 have q : decide ((0 : Int) < ((r.length + 1 : Nat) : Int)) = true := by rw [decide_eq_true_iff]; omega
 have c := fun lo hlo => f45 (lo := lo) (h := h) hlo (.mk t ks)
 rw [rowV_eq] at c
 have ca := c lo hlo; have cb := c h.length (Nat.le_refl _)
 clear c
 cases hs : spaceC (.mk t ks) with
 | true =>
  rw [hs] at ca cb
  rw [if_pos rfl]
  simp only [go_sem, l34x0, b34, Tryd.f34, hlo, q, ca, cb, rowsC_cons, rowV_eq, rowsC_len, rowsC_takeL, rowsC_all, Nat.le_refl]
  all_goals rfl
 | false =>
  rw [hs] at ca cb
  rw [if_neg (by simp)]
  simp only [N56, go_sem, l34x0, b34, Tryd.f34, hlo, q, ca, cb, rowsC_cons, rowV_eq, rowsC_len, rowsC_takeL, rowsC_all, Nat.le_refl]
  all_goals rfl
theorem stop34a (hlo : lo <= h.length) : evCode ⟨Tryd.prog, E, lo, h.length, h34⟩ loopW l34x0 (N56 [], h) = some (.exit 0, N56 [] ++ [(11, .v (.bool false))], h) := by
 have q : decide ((0 : Int) < ((0 : Nat) : Int)) = false := rfl
 simp only [N56, go_sem, l34x0, b34, Tryd.f34, hlo, q, rowsC_nil]
 all_goals rfl
theorem loop34a (hlo : lo <= h.length) : ∀ l : List CV, loopW (evCode ⟨Tryd.prog, E, lo, h.length, h34⟩ loopW l34x0) (N56 l, h) = some (.exit 0, N56 (ltrim l) ++ [(11, .v (.bool false))], h)
 | [] => by
  rw [loop_eq, stop34a hlo, loop_e]
  rfl
 | v :: r => by
  rw [loop_eq, round34a hlo]
  have hl : ltrim (v :: r) = if spaceC v = true then ltrim r else v :: r := by
   unfold ltrim
   rw [List.dropWhile_cons]
  rw [hl]
  split
  ·rw [loop_n]
   exact loop34a hlo r
  ·rw [loop_e]
theorem round34b {v : CV} {r : List CV} {ex : Env} (hex : ex = [] \/ ex = [(11, .v (.bool false))]) (hlo : lo <= h.length) (hl : r.length <= 1000000000000) :
  evCode ⟨Tryd.prog, E, lo, h.length, h34⟩ loopW l34x1 (N56 (r ++ [v]) ++ ex, h) =
   if spaceC v = true then some (.normal, N56 r, h) else some (.exit 2, N56 (r ++ [v]) ++ [(25, .v (.bool false))], h) := by
 obtain ⟨t, ks⟩ := v
 have q : decide ((0 : Int) < ((r.length + 1 : Nat) : Int)) = true := by rw [decide_eq_true_iff]; omega
 have hw : IntKind.i64.wrap (((r.length + 1 : Nat) : Int) - 1) = (r.length : Int) := by rw [wrap_i64] <;> omega
 have hg : (rowsC (r ++ [.mk t ks]))[r.length]? = some (rowV (.mk t ks)) := by rw [rowsC_get]; simp
 have ht : (rowsC (r ++ [.mk t ks])).take r.length = rowsC r := by rw [rowsC_take]; simp
 have hll : (rowsC (r ++ [.mk t ks])).length = r.length + 1 := by rw [rowsC_len]; simp
 have c := fun lo hlo => f45 (lo := lo) (h := h) hlo (.mk t ks)
 rw [rowV_eq] at c hg
 have ca := c lo hlo; have cb := c h.length (Nat.le_refl _)
 clear c
 have hra := rowsC_all (r ++ [.mk t ks])
 have hle : r.length <= r.length + 1 := by omega
 unfold N56
 generalize rowsC (r ++ [.mk t ks]) = R at *
 cases hs : spaceC (.mk t ks) with
 | true =>
  rw [hs] at ca cb
  rw [if_pos rfl]
  rcases hex with rfl | rfl
  ·simp only [go_sem, l34x1, b34, Tryd.f34, hlo, q, ca, cb, hg, ht, hll, hw, hra, hle]
   all_goals rfl
  ·simp only [go_sem, l34x1, b34, Tryd.f34, hlo, q, ca, cb, hg, ht, hll, hw, hra, hle]
   all_goals rfl
 | false =>
  rw [hs] at ca cb
  rw [if_neg (by simp)]
  rcases hex with rfl | rfl
  ·simp only [go_sem, l34x1, b34, Tryd.f34, hlo, q, ca, cb, hg, ht, hll, hw, hra, hle]
   all_goals rfl
  ·simp only [go_sem, l34x1, b34, Tryd.f34, hlo, q, ca, cb, hg, ht, hll, hw, hra, hle]
   all_goals rfl
theorem stop34b {ex : Env} (hex : ex = [] \/ ex = [(11, .v (.bool false))]) (hlo : lo <= h.length) : evCode ⟨Tryd.prog, E, lo, h.length, h34⟩ loopW l34x1 (N56 [] ++ ex, h) = some (.exit 2, N56 [] ++ [(25, .v (.bool false))], h) := by
 have q : decide ((0 : Int) < ((0 : Nat) : Int)) = false := rfl
 rcases hex with rfl | rfl
 ·simp only [N56, go_sem, l34x1, b34, Tryd.f34, hlo, q, rowsC_nil]
  all_goals rfl
 ·simp only [N56, go_sem, l34x1, b34, Tryd.f34, hlo, q, rowsC_nil]
  all_goals rfl
theorem loop34b (hlo : lo <= h.length) : ∀ (n : Nat) (l : List CV) (ex : Env), l.length = n -> n <= 1000000000000 -> (ex = [] \/ ex = [(11, .v (.bool false))]) -> loopW (evCode ⟨Tryd.prog, E, lo, h.length, h34⟩ loopW l34x1) (N56 l ++ ex, h) = some (.exit 2, N56 (rtrim l) ++ [(25, .v (.bool false))], h)
 | 0, l, ex, hn, _, hex => by
  obtain rfl := List.eq_nil_of_length_eq_zero hn
  rw [loop_eq, stop34b hex hlo, loop_e, rtrim_nil]
 | n + 1, l, ex, hn, hb, hex => by
  obtain ⟨r, v, rfl⟩ : ∃ r v, l = r ++ [v] := ⟨l.dropLast, l.getLast (by intro e; rw [e] at hn; cases hn), (List.dropLast_concat_getLast _).symm⟩
  have hr : r.length = n := by simpa using hn
  rw [loop_eq, round34b hex hlo (by omega), rtrim_snoc]
  split
  ·rw [loop_n]
   have := loop34b hlo n r [] hr (by omega) (.inl rfl)
   rwa [List.append_nil] at this
  ·rw [loop_e]
theorem f34 {l : List CV} (hlo : lo <= h.length) (hl : l.length <= 1000000000) : E lo 34 [.list .no (rowsC l)] h = some (.list .no (rowsC (trim l)), h) := by
 have h1 := loop34a (lo := lo) (h := h) hlo l
 have hl2 : (ltrim l).length <= l.length := (List.dropWhile_suffix _).length_le
 have h2 := loop34b (lo := lo) (h := h) hlo _ (ltrim l) _ rfl (by omega) (.inr rfl)
 rw [<- trim_eq] at h2
 rw [e34 (by simp) (by rfl)]
 simp only [l34x0, l34x1, b34, Tryd.f34, loopAt, loops, bodyOf, go_sem, N56] at h1 h2
 simp only [go_sem, b34, Tryd.f34, hlo, h1, h2]
 all_goals rfl
end Go.Lift.Q1
end

section
open Go.Proofs
namespace Go.Lift.Q1
open Rul
variable [MX]
variable {lo : Nat} {h : Heap}
abbrev N35 (l : List CV) (a b : Nat) : Env := [(0, .list .no (rowsC l)), (3, .v (.int .i64 a)), (4, .v (.int .i64 b))]
theorem round14a {l : List CV} {v : CV} {a b : Nat} (hlo : lo <= h.length) (hl : l.length <= 1000000000) (hg : l[a]? = some v) (hab : a < b) :
  evCode ⟨Tryd.prog, E, lo, h.length, h14⟩ loopW l14x0 (N35 l a b, h) =
   if spaceC v = true then some (.normal, N35 l (a + 1) b, h) else some (.exit 0, N35 l a b ++ [(16, .v (.bool false))], h) := by
 obtain ⟨t, ks⟩ := v
 have hlt : a < l.length := (List.getElem?_eq_some_iff.1 hg).1
 have q : decide ((a : Int) < (b : Int)) = true := by simpa using hab
 have hw : IntKind.i64.wrap ((a : Int) + 1) = ((a + 1 : Nat) : Int) := wrap_succ (by omega)
 have hgr : (rowsC l)[a]? = some (rowV (.mk t ks)) := by rw [rowsC_get, hg]; rfl
 have c := fun lo hlo => f22 (lo := lo) (h := h) hlo (.mk t ks)
 rw [rowV_eq] at c hgr
 have ca := c lo hlo; have cb := c h.length (Nat.le_refl _)
 clear c
 cases hs : spaceC (.mk t ks) with
 | true =>
  rw [hs] at ca cb
  rw [if_pos rfl]
  simp only [N35, go_sem, l14x0, b14, Tryd.f14, hlo, q, ca, cb, hgr, hw]
  all_goals rfl
 | false =>
  rw [hs] at ca cb
  rw [if_neg (by simp)]
  simp only [N35, go_sem, l14x0, b14, Tryd.f14, hlo, q, ca, cb, hgr, hw]
  all_goals rfl
theorem stop14a {l : List CV} {b : Nat} (hlo : lo <= h.length) : evCode ⟨Tryd.prog, E, lo, h.length, h14⟩ loopW l14x0 (N35 l b b, h) = some (.exit 0, N35 l b b ++ [(16, .v (.bool false))], h) := by
 have q : decide ((b : Int) < (b : Int)) = false := by simp
 simp only [N35, go_sem, l14x0, b14, Tryd.f14, hlo, q]
 all_goals rfl
theorem loop14a {l : List CV} (hlo : lo <= h.length) (hl : l.length <= 1000000000) : ∀ (m a : Nat), a + m = l.length -> ∃ a', a <= a' /\ a' <= l.length /\ ltrim (l.drop a) = l.drop a' /\
   loopW (evCode ⟨Tryd.prog, E, lo, h.length, h14⟩ loopW l14x0) (N35 l a l.length, h) = some (.exit 0, N35 l a' l.length ++ [(16, .v (.bool false))], h)
 | 0, a, hm => by
  obtain rfl : a = l.length := by omega
  exact ⟨l.length, Nat.le_refl _, Nat.le_refl _, by rw [List.drop_length]; rfl, by rw [loop_eq, stop14a hlo, loop_e]⟩
 | m + 1, a, hm => by
  have hlt : a < l.length := by omega
  have hd : l.drop a = l[a] :: l.drop (a + 1) := List.drop_eq_getElem_cons hlt
  have hr := round14a (h := h) hlo hl (List.getElem?_eq_getElem hlt) hlt
  have he : ltrim (l.drop a) = if spaceC l[a] = true then ltrim (l.drop (a + 1)) else l.drop a := by
   rw [hd]
   unfold ltrim
   rw [List.dropWhile_cons]
  rw [he, loop_eq, hr]
  split
  ·rw [loop_n]
   obtain ⟨a', h1, h2, h3, h4⟩ := loop14a hlo hl m (a + 1) (by omega)
   exact ⟨a', by omega, h2, h3, h4⟩
  ·exact ⟨a, Nat.le_refl _, by omega, rfl, by rw [loop_e]⟩
theorem round14b {l : List CV} {v : CV} {a b : Nat} {ex : Env} (hex : ex = [] \/ ex = [(16, .v (.bool false))]) (hlo : lo <= h.length) (hl : l.length <= 1000000000) (hg : l[b]? = some v) (hab : a < b + 1) :
  evCode ⟨Tryd.prog, E, lo, h.length, h14⟩ loopW l14x1 (N35 l a (b + 1) ++ ex, h) =
   if spaceC v = true then some (.normal, N35 l a b, h) else some (.exit 2, N35 l a (b + 1) ++ [(29, .v (.bool false))], h) := by
 obtain ⟨t, ks⟩ := v
 have hlt : b < l.length := (List.getElem?_eq_some_iff.1 hg).1
 have q : decide ((a : Int) < ((b + 1 : Nat) : Int)) = true := by simp; omega
 have hw : IntKind.i64.wrap (((b + 1 : Nat) : Int) - 1) = (b : Int) := by rw [wrap_i64] <;> omega
 have hgr : (rowsC l)[b]? = some (rowV (.mk t ks)) := by rw [rowsC_get, hg]; rfl
 have c := fun lo hlo => f22 (lo := lo) (h := h) hlo (.mk t ks)
 rw [rowV_eq] at c hgr
 have ca := c lo hlo; have cb := c h.length (Nat.le_refl _)
 clear c
 cases hs : spaceC (.mk t ks) with
 | true =>
  rw [hs] at ca cb
  rw [if_pos rfl]
  rcases hex with rfl | rfl
  ·simp only [N35, go_sem, l14x1, b14, Tryd.f14, hlo, q, ca, cb, hgr, hw]
   all_goals rfl
  ·simp only [N35, go_sem, l14x1, b14, Tryd.f14, hlo, q, ca, cb, hgr, hw]
   all_goals rfl
 | false =>
  rw [hs] at ca cb
  rw [if_neg (by simp)]
  rcases hex with rfl | rfl
  ·simp only [N35, go_sem, l14x1, b14, Tryd.f14, hlo, q, ca, cb, hgr, hw]
   all_goals rfl
  ·simp only [N35, go_sem, l14x1, b14, Tryd.f14, hlo, q, ca, cb, hgr, hw]
   all_goals rfl
theorem stop14b {l : List CV} {b : Nat} {ex : Env} (hex : ex = [] \/ ex = [(16, .v (.bool false))]) (hlo : lo <= h.length) : evCode ⟨Tryd.prog, E, lo, h.length, h14⟩ loopW l14x1 (N35 l b b ++ ex, h) = some (.exit 2, N35 l b b ++ [(29, .v (.bool false))], h) := by
 have q : decide ((b : Int) < (b : Int)) = false := by simp
 rcases hex with rfl | rfl
 ·simp only [N35, go_sem, l14x1, b14, Tryd.f14, hlo, q]
  all_goals rfl
 ·simp only [N35, go_sem, l14x1, b14, Tryd.f14, hlo, q]
  all_goals rfl
theorem loop14b {l : List CV} {a : Nat} (hlo : lo <= h.length) (hl : l.length <= 1000000000) : ∀ (m b : Nat) (ex : Env), a + m = b -> b <= l.length -> (ex = [] \/ ex = [(16, .v (.bool false))]) -> ∃ b', a <= b' /\ b' <= l.length /\ rtrim ((l.take b).drop a) = (l.take b').drop a /\
   loopW (evCode ⟨Tryd.prog, E, lo, h.length, h14⟩ loopW l14x1) (N35 l a b ++ ex, h) = some (.exit 2, N35 l a b' ++ [(29, .v (.bool false))], h)
 | 0, b, ex, hm, hb, hex => by
  obtain rfl : a = b := by omega
  have e0 : (l.take a).drop a = [] := List.drop_eq_nil_of_le (by rw [List.length_take]; omega)
  exact ⟨a, Nat.le_refl _, hb, by rw [e0, rtrim_nil], by rw [loop_eq, stop14b hex hlo, loop_e]⟩
 | m + 1, b, ex, hm, hb, hex => by
  obtain ⟨c, rfl⟩ : ∃ c, b = c + 1 := ⟨b - 1, by omega⟩
  have hlt : c < l.length := by omega
  have hr := round14b (h := h) (a := a) hex hlo hl (List.getElem?_eq_getElem hlt) (by omega)
  have hd : (l.take (c + 1)).drop a = (l.take c).drop a ++ [l[c]] := by
   rw [List.take_succ_eq_append_getElem hlt, List.drop_append_of_le_length (by rw [List.length_take]; omega)]
  rw [hd, rtrim_snoc, loop_eq, hr]
  split
  ·rw [loop_n]
   obtain ⟨b', h1, h2, h3, h4⟩ := loop14b (a := a) hlo hl m c [] (by omega) (by omega) (.inl rfl)
   rw [List.append_nil] at h4
   exact ⟨b', h1, h2, h3, h4⟩
  ·exact ⟨c + 1, by omega, hb, by rw [hd], by rw [loop_e]⟩
theorem f14 {l : List CV} (hlo : lo <= h.length) (hl : l.length <= 1000000000) : E lo 14 [.list .no (rowsC l)] h = some (.list .no (rowsC (trim l)), h) := by
 obtain ⟨a, a1, a2, a3, h1⟩ := loop14a (lo := lo) (h := h) hlo hl l.length 0 (by omega)
 obtain ⟨b, b1, b2, b3, h2⟩ := loop14b (lo := lo) (h := h) (a := a) hlo hl (l.length - a) l.length _ (by omega) (Nat.le_refl _) (.inr rfl)
 rw [List.take_length, <- a3, List.drop_zero, <- trim_eq] at b3
 rw [b3]
 have n0 : ((0 : Nat) : Int) = 0 := rfl
 have q1 : a <= b := b1
 have q2 : b <= l.length := b2
 have hs : (rowsC l).drop a = rowsC (l.drop a) := rowsC_drop l a
 have ht : ((rowsC l).take b).drop a = rowsC ((l.take b).drop a) := by rw [rowsC_take, rowsC_drop]
 rw [e14 (by simp) (by rfl)]
 simp only [l14x0, l14x1, b14, Tryd.f14, loopAt, loops, bodyOf, go_sem, N35, n0] at h1 h2
 simp only [go_sem, b14, Tryd.f14, hlo, h1, h2, rowsC_len, rowsC_all, q1, q2, ht, n0]
 all_goals rfl
end Go.Lift.Q1
end

section
open Go.Proofs
namespace Go.Lift.Q1
open Rul
variable [MX]
variable {lo : Nat} {h : Heap}
theorem lim72 {n : Nat} (h : n <= 1000000000) : (n + 1) * 72 <= 140737488355328 := by omega
theorem limC {n : Nat} (h : n <= 1000000000) : n <= 9223372036854775806 := by omega
end Go.Lift.Q1
end

section
open Go.Proofs
namespace Go.Lift.Q1
open Rul
variable [MX]
variable {lo : Nat} {h : Heap}
abbrev N55 (l out : List CV) (k : Int) : Env := [(3, .list .yes (rowsC out)), (6, .list .no (rowsC l)), (7, .v (.int .i64 l.length)), (8, .v (.int .i64 k))]
theorem row_put55 (out : List CV) (t : Tk4) (ks : List CV) : rowsC out ++ [[V.v (Value.int IntKind.i64 t.k), V.v (Value.string (Rul.bs t.b)), V.v (Value.int IntKind.i64 t.n), V.v (Value.int IntKind.i64 t.d), V.v (Value.bool t.w), V.v (Value.bool t.i), V.list .no (rowsC ks)]] = rowsC (out ++ [.mk t ks]) := by
 rw [rowsC_app, rowsC_cons, rowsC_nil, rowV_eq]
theorem round33 {l out : List CV} {v : CV} {k : Nat} (hlo : lo <= h.length) (hl : nodesL l <= 1000000000) (hg : l[k]? = some v) (ho : out.length <= 1000000000)
  (ih : ∀ lo h, lo <= h.length -> E lo 33 [.list .no (rowsC v.ks)] h = some (.list .no (rowsC v.ks), h)) :
  evCode ⟨Tryd.prog, E, lo, h.length, h33⟩ loopW l33x0 (N55 l out k, h) = some (.normal, N55 l (out ++ [v]) (k + 1 : Nat), h) := by
 obtain ⟨t, ks⟩ := v
 have hlt : k < l.length := (List.getElem?_eq_some_iff.1 hg).1
 have hgr : (rowsC l)[k]? = some (rowV (.mk t ks)) := by rw [rowsC_get, hg]; rfl
 have q : decide ((k : Int) < (l.length : Int)) = true := by simp; omega
 have hll := nodesL_len l
 have hw : IntKind.i64.wrap ((k : Int) + 1) = ((k + 1 : Nat) : Int) := wrap_succ (by omega)
 have hlo' : lo <= h.length + 1 := by omega
 have c33 := fun lo hlo => ih lo (h ++ [.cells (rowV (.mk t ks))]) hlo
 rw [rowV_eq] at *
 have c33a := c33 lo (by simp; omega); have c33b := c33 (h.length + 1) (by simp)
 clear c33 ih
 have o1 := lim72 ho
 have o2 := limC ho
 have ra := rowsC_all out
 have rl := rowsC_len out
 have rb := byteRow_rowsC out
 simp only [CV.ks] at c33a c33b
 simp only [N55]
 rw [<- row_put55]
 generalize rowsC out = R at *
 simp only [N55, go_sem, l33x0, b33, Tryd.f33, hlo, hlo', q, hgr, hw, c33a, c33b, o1, o2, ra, rl, rb, rowsC_len]
 all_goals rfl
theorem stop33 {l out : List CV} (hlo : lo <= h.length) : evCode ⟨Tryd.prog, E, lo, h.length, h33⟩ loopW l33x0 (N55 l out l.length, h) =
   some (.exit 0, N55 l out l.length ++ [(9, .v (.bool false))], h) := by
 have q : decide ((l.length : Int) < (l.length : Int)) = false := by simp
 simp only [N55, go_sem, l33x0, b33, Tryd.f33, hlo, q]
 all_goals rfl
theorem loop33 {l : List CV} (hlo : lo <= h.length) (hl : nodesL l <= 1000000000)
  (ih : ∀ v ∈ l, ∀ lo h, lo <= h.length -> E lo 33 [.list .no (rowsC v.ks)] h = some (.list .no (rowsC v.ks), h)) :
  ∀ (m k : Nat), k + m = l.length -> loopW (evCode ⟨Tryd.prog, E, lo, h.length, h33⟩ loopW l33x0) (N55 l (l.take k) k, h) = some (.exit 0, N55 l l l.length ++ [(9, .v (.bool false))], h)
 | 0, k, hk => by
  obtain rfl : k = l.length := by omega
  rw [List.take_length, loop_eq, stop33 hlo, loop_e]
 | m + 1, k, hk => by
  have hlt : k < l.length := by omega
  have hll := nodesL_len l
  have hr := round33 (h := h) (out := l.take k) hlo hl (List.getElem?_eq_getElem hlt) (by rw [List.length_take]; omega) (ih _ (List.getElem_mem hlt))
  rw [loop_eq, hr, loop_n, <- List.take_succ_eq_append_getElem hlt]
  exact loop33 hlo hl ih m (k + 1) (by omega)
theorem f33 : ∀ (n : Nat) (l : List CV), nodesL l <= n -> n <= 1000000000 -> ∀ (lo : Nat) (h : Heap), lo <= h.length -> E lo 33 [.list .no (rowsC l)] h = some (.list .no (rowsC l), h)
 | n, l, hl, hn, lo, h, hlo => by
  have hL := loop33 (lo := lo) (h := h) (l := l) hlo (by omega) (fun v hv lo' h' hlo' => by
   have h1 := nodesL_mem hv
   rw [nodesV_eq] at h1
   exact f33 (n - 1) v.ks (by omega) (by omega) lo' h' hlo') l.length 0 (by omega)
  have n0 : ((0 : Nat) : Int) = 0 := rfl
  rw [List.take_zero] at hL
  rw [e33 (by simp) (by rfl)]
  simp only [l33x0, b33, Tryd.f33, loopAt, loops, bodyOf, go_sem, N55, n0, rowsC_nil, List.cons_append, List.nil_append] at hL
  simp only [go_sem, b33, Tryd.f33, hlo, hL, rowsC_len, n0]
  all_goals rfl
 termination_by n => n
 decreasing_by
  have h1 := nodesL_mem hv
  rw [nodesV_eq] at h1
  omega
theorem nodesL_suffix {l m : List CV} (h : m <:+ l) : nodesL m <= nodesL l := by
 obtain ⟨p, rfl⟩ := h
 rw [nodesL_app]; omega
theorem nodesL_prefix {l m : List CV} (h : m <+: l) : nodesL m <= nodesL l := by
 obtain ⟨p, rfl⟩ := h
 rw [nodesL_app]; omega
theorem nodesL_rev : ∀ l : List CV, nodesL l.reverse = nodesL l
 | [] => rfl
 | v :: r => by rw [List.reverse_cons, nodesL_app, nodesL_rev r, nodesL_cons, nodesL_cons, nodesL_nil]; omega
theorem nodesL_trim (l : List CV) : nodesL (trim l) <= nodesL l := by
 unfold trim
 rw [nodesL_rev]
 refine Nat.le_trans (nodesL_suffix (List.dropWhile_suffix _)) ?_
 rw [nodesL_rev]
 exact nodesL_suffix (List.dropWhile_suffix _)
theorem f24 {l : List CV} (hlo : lo <= h.length) (hl : nodesL l <= 1000000000) : E lo 24 [.list .no (rowsC l)] h = some (.list .no (rowsC (trim l)), h) := by
 have hll := nodesL_len l
 have c34 := f34 (lo := lo) (h := h) (l := l) hlo (by omega)
 have c33 := f33 _ (trim l) (nodesL_trim l) (by omega) lo h hlo
 rw [e24 (by simp) (by rfl)]
 simp only [go_sem, b24, Tryd.f24, hlo, c34, c33]
 all_goals rfl
end Go.Lift.Q1
end

section
namespace Go.Lift.Rul
def splitA : List CV -> List CV -> List (List CV)
 | acc, [] => [trim acc]
 | acc, v :: r => if v.k = 18 then trim acc :: splitA [] r else splitA (acc ++ [v]) r
def splitB (l : List CV) : List (List CV) := splitA [] l
theorem splitA_len : ∀ (acc l : List CV), (splitA acc l).length <= l.length + 1
 | acc, [] => Nat.le_refl _
 | acc, v :: r => by
  have h1 := splitA_len [] r
  have h2 := splitA_len (acc ++ [v]) r
  rw [splitA]
  split
  ·rw [List.length_cons, List.length_cons]; omega
  ·rw [List.length_cons]; omega
theorem trim_mem {l : List CV} {v : CV} (h : v ∈ trim l) : v ∈ l := by
 unfold trim at h
 rw [List.mem_reverse] at h
 have h1 := (List.dropWhile_suffix _).subset h
 rw [List.mem_reverse] at h1
 exact (List.dropWhile_suffix _).subset h1
theorem splitA_mem : ∀ (acc l p : List CV), p ∈ splitA acc l -> ∀ v ∈ p, v ∈ acc \/ v ∈ l
 | acc, [], p, hp, v, hv => by
  rw [splitA, List.mem_singleton] at hp
  subst hp
  exact .inl (trim_mem hv)
 | acc, u :: r, p, hp, v, hv => by
  rw [splitA] at hp
  split at hp
  ·rcases List.mem_cons.1 hp with rfl | hp
   ·exact .inl (trim_mem hv)
   ·rcases splitA_mem [] r p hp v hv with h | h
    ·cases h
    ·exact .inr (List.mem_cons_of_mem _ h)
  ·rcases splitA_mem (acc ++ [u]) r p hp v hv with h | h
   ·rcases List.mem_append.1 h with h | h
    ·exact .inl h
    ·exact .inr (by rw [List.mem_singleton] at h; subst h; exact List.mem_cons_self ..)
   ·exact .inr (List.mem_cons_of_mem _ h)
def pcsC (ps : List (List CV)) : List (List V) := ps.map fun p => [.list .no (rowsC p)]
theorem pcs_all (ps : List (List CV)) : ((pcsC ps).all fun x => x.length == 1) = true := by
 rw [List.all_eq_true]
 intro x hx
 obtain ⟨t, _, rfl⟩ := List.mem_map.1 hx
 rfl
theorem pcs_len (ps : List (List CV)) : (pcsC ps).length = ps.length := List.length_map ..
theorem pcs_ibr (ps : List (List CV)) : isByteRow (pcsC ps) = false := by cases ps <;> rfl
theorem pcs_snoc (ps : List (List CV)) (p : List CV) : pcsC (ps ++ [p]) = pcsC ps ++ [[.list .no (rowsC p)]] := by simp [pcsC]
end Go.Lift.Rul
end

section
open Go.Proofs
namespace Go.Lift.Q1
open Rul
variable [MX]
variable {lo : Nat} {h : Heap}
theorem nodes_part {l : List CV} {i f : Nat} : nodesL ((l.take i).drop f) <= nodesL l := Nat.le_trans (nodesL_suffix (List.drop_suffix ..)) (nodesL_prefix (List.take_prefix ..))
theorem nodes_part2 {l : List CV} {f : Nat} : nodesL (l.drop f) <= nodesL l := nodesL_suffix (List.drop_suffix ..)
abbrev N36p (l : List CV) (out : List (List CV)) (f i : Nat) : Env := [(0, .list .no (rowsC l)), (3, .list .yes (pcsC out)), (4, .v (.int .i64 f)), (7, .list .no (rowsC l)), (8, .v (.int .i64 l.length)), (9, .v (.int .i64 i))]
theorem comma36 {l : List CV} {out : List (List CV)} {v : CV} {f i : Nat} (hlo : lo <= h.length) (hl : nodesL l <= 1000000000) (hg : l[i]? = some v) (hf : f <= i) (ho : out.length <= 1000000000) (hk : v.k = 18) :
  evCode ⟨Tryd.prog, E, lo, h.length, h17⟩ loopW l17x0 (N36p l out f i, h) = some (.normal, N36p l (out ++ [trim ((l.take i).drop f)]) (i + 1) (i + 1), h) := by
 obtain ⟨t, ks⟩ := v
 have hlt : i < l.length := (List.getElem?_eq_some_iff.1 hg).1
 have hll : l.length <= 1000000000 := by have := nodesL_len l; omega
 have hgr : (rowsC l)[i]? = some (rowV (.mk t ks)) := by rw [rowsC_get, hg]; rfl
 have q : decide ((i : Int) < (l.length : Int)) = true := by simpa using hlt
 have hw : IntKind.i64.wrap ((i : Int) + 1) = ((i + 1 : Nat) : Int) := wrap_succ (by omega)
 have qk : (t.k == 18) = true := by rw [beq_iff_eq]; exact hk
 have l1 : lo <= h.length + 1 := by omega
 have hi : i <= l.length := by omega
 have hc := fun lo hlo => f24 (lo := lo) (h := h ++ [.cells (rowV (.mk t ks))]) (l := (l.take i).drop f) hlo (by have := nodes_part (l := l) (i := i) (f := f); omega)
 rw [rowV_eq] at *
 have ca := hc lo (by simp; omega); have cb := hc (h.length + 1) (by simp)
 clear hc
 have ed : ((rowsC l).take i).drop f = rowsC ((l.take i).drop f) := by rw [rowsC_take, rowsC_drop]
 have ra := rowsC_all ((l.take i).drop f)
 have rl := rowsC_all l
 have pa := pcs_all out
 have pl := pcs_len out
 have pi := pcs_ibr out
 have o1 : (out.length + 1) * 24 <= 140737488355328 := by omega
 have o2 : out.length <= 9223372036854775806 := by omega
 simp only [N36p]
 rw [pcs_snoc]
 generalize pcsC out = R at *
 simp only [go_sem, l17x0, b17, Tryd.f17, hlo, q, hgr, hw, qk, l1, hi, hf, ca, cb, ed, ra, rl, pa, pl, pi, o1, o2, rowsC_len]
 all_goals rfl
theorem none36 {l : List CV} {out : List (List CV)} {v : CV} {f i : Nat} (hlo : lo <= h.length) (hl : l.length <= 1000000000) (hg : l[i]? = some v) (hk : v.k ≠ 18) :
  evCode ⟨Tryd.prog, E, lo, h.length, h17⟩ loopW l17x0 (N36p l out f i, h) = some (.normal, N36p l out f (i + 1), h) := by
 obtain ⟨t, ks⟩ := v
 have hlt : i < l.length := (List.getElem?_eq_some_iff.1 hg).1
 have hgr : (rowsC l)[i]? = some (rowV (.mk t ks)) := by rw [rowsC_get, hg]; rfl
 have q : decide ((i : Int) < (l.length : Int)) = true := by simpa using hlt
 have hw : IntKind.i64.wrap ((i : Int) + 1) = ((i + 1 : Nat) : Int) := wrap_succ (by omega)
 have qk : (t.k == 18) = false := by rw [beq_eq_false_iff_ne]; exact hk
 have l1 : lo <= h.length + 1 := by omega
 rw [rowV_eq] at *
 simp only [N36p, go_sem, l17x0, b17, Tryd.f17, hlo, q, hgr, hw, qk, l1, rowsC_len]
 all_goals rfl
theorem loop17p {l : List CV} (hlo : lo <= h.length) (hl : nodesL l <= 1000000000) : ∀ (m i f : Nat) (out : List (List CV)), m = l.length - i -> i <= l.length -> f <= i -> out.length <= i ->
  ∃ (f' : Nat) (o : List (List CV)), f' <= l.length /\ o.length <= l.length /\ out ++ splitA ((l.take i).drop f) (l.drop i) = o ++ [trim (l.drop f')] /\
   loopW (evCode ⟨Tryd.prog, E, lo, h.length, h17⟩ loopW l17x0) (N36p l out f i, h) = some (.exit 0, N36p l o f' l.length ++ [(10, .v (.bool false))], h)
 | 0, i, f, out, hm, hi, hf, ho => by
  obtain rfl : i = l.length := by omega
  have hd : decide ((l.length : Int) < (l.length : Int)) = false := by simp
  refine ⟨f, out, hf, ho, ?_, ?_⟩
  ·rw [List.drop_length, splitA, List.take_length]
  ·rw [loop_eq]
   simp only [N36p, go_sem, l17x0, b17, Tryd.f17, hlo, hd]
   all_goals rfl
 | m + 1, i, f, out, hm, hi, hf, ho => by
  have hlt : i < l.length := by omega
  have hll : l.length <= 1000000000 := by have := nodesL_len l; omega
  have hg := List.getElem?_eq_getElem hlt
  rw [List.drop_eq_getElem_cons hlt, splitA, loop_eq]
  by_cases hk : (l[i]).k = 18
  ·rw [if_pos hk, comma36 hlo hl hg hf (by omega) hk, loop_n]
   obtain ⟨f', o, h1, h2, h3, h4⟩ := loop17p hlo hl m (i + 1) (i + 1) (out ++ [trim ((l.take i).drop f)]) (by omega) (by omega) (Nat.le_refl _) (by rw [List.length_append, List.length_singleton]; omega)
   have e0 : (l.take (i + 1)).drop (i + 1) = [] := List.drop_eq_nil_of_le (by rw [List.length_take]; omega)
   rw [e0, List.append_assoc, List.singleton_append] at h3
   exact ⟨f', o, h1, h2, h3, h4⟩
  ·rw [if_neg hk, none36 hlo hll hg hk, loop_n]
   obtain ⟨f', o, h1, h2, h3, h4⟩ := loop17p hlo hl m (i + 1) f out (by omega) (by omega) (by omega) (by omega)
   have hd : (l.take (i + 1)).drop f = (l.take i).drop f ++ [l[i]] := by
    rw [List.take_succ_eq_append_getElem hlt, List.drop_append_of_le_length (by rw [List.length_take]; omega)]
   rw [hd] at h3
   exact ⟨f', o, h1, h2, h3, h4⟩
theorem f17 {l : List CV} (hlo : lo <= h.length) (hl : nodesL l <= 1000000000) : E lo 17 [.list .no (rowsC l)] h = some (.list .no (pcsC (splitB l)), h) := by
 have hll : l.length <= 1000000000 := by have := nodesL_len l; omega
 obtain ⟨f', o, h1, h2, h3, h4⟩ := loop17p (lo := lo) (h := h) hlo hl l.length 0 0 [] (by omega) (Nat.zero_le _) (Nat.le_refl _) (Nat.le_refl _)
 simp only [List.nil_append, List.drop_zero, List.take_zero, List.drop_nil] at h3
 have e : splitB l = o ++ [trim (l.drop f')] := h3
 rw [e, pcs_snoc]
 simp only [N36p, l17x0, b17, Tryd.f17, loopAt, loops, bodyOf, go_sem, pcsC, List.map_nil] at h4
 have hc := fun lo hlo => f24 (lo := lo) (h := h) (l := l.drop f') hlo (by have := nodes_part2 (l := l) (f := f'); omega)
 have ca := hc lo hlo; have cb := hc h.length (Nat.le_refl _)
 have n0 : ((0 : Nat) : Int) = 0 := rfl
 have ed : (rowsC l).drop f' = rowsC (l.drop f') := rowsC_drop l f'
 have et : (rowsC l).take l.length = rowsC l := by rw [rowsC_take, List.take_length]
 have ra := rowsC_all (l.drop f')
 have rl := rowsC_all l
 have pa := pcs_all o
 have pl := pcs_len o
 have pi := pcs_ibr o
 have o1 : (o.length + 1) * 24 <= 140737488355328 := by omega
 have o2 : o.length <= 9223372036854775806 := by omega
 unfold pcsC at pa pl pi ⊢
 rw [e17 (by simp) (by rfl)]
 simp only [go_sem, b17, Tryd.f17, hlo, n0, h4, h1, ca, cb, ed, et, ra, rl, pa, pl, pi, o1, o2, rowsC_len]
 all_goals rfl
abbrev N37p (l : List CV) (out : List (List CV)) (f i : Nat) : Env := [(0, .list .no (rowsC l)), (3, .list .yes (pcsC out)), (4, .v (.int .i64 f)), (7, .list .no (rowsC l)), (8, .v (.int .i64 l.length)), (9, .v (.int .i64 i))]
theorem comma37 {l : List CV} {out : List (List CV)} {v : CV} {f i : Nat} (hlo : lo <= h.length) (hl : l.length <= 1000000000) (hg : l[i]? = some v) (hf : f <= i) (ho : out.length <= 1000000000) (hk : v.k = 18) :
  evCode ⟨Tryd.prog, E, lo, h.length, h7⟩ loopW l7x0 (N37p l out f i, h) = some (.normal, N37p l (out ++ [trim ((l.take i).drop f)]) (i + 1) (i + 1), h) := by
 obtain ⟨t, ks⟩ := v
 have hlt : i < l.length := (List.getElem?_eq_some_iff.1 hg).1
 have hll : l.length <= 1000000000 := by omega
 have hgr : (rowsC l)[i]? = some (rowV (.mk t ks)) := by rw [rowsC_get, hg]; rfl
 have q : decide ((i : Int) < (l.length : Int)) = true := by simpa using hlt
 have hw : IntKind.i64.wrap ((i : Int) + 1) = ((i + 1 : Nat) : Int) := wrap_succ (by omega)
 have qk : (t.k == 18) = true := by rw [beq_iff_eq]; exact hk
 have l1 : lo <= h.length + 1 := by omega
 have hi : i <= l.length := by omega
 have hc := fun lo hlo => f14 (lo := lo) (h := h ++ [.cells (rowV (.mk t ks))]) (l := (l.take i).drop f) hlo (by have h1 := (List.drop_suffix f (l.take i)).length_le; have h2 := (List.take_prefix i l).length_le; omega)
 rw [rowV_eq] at *
 have ca := hc lo (by simp; omega); have cb := hc (h.length + 1) (by simp)
 clear hc
 have ed : ((rowsC l).take i).drop f = rowsC ((l.take i).drop f) := by rw [rowsC_take, rowsC_drop]
 have ra := rowsC_all ((l.take i).drop f)
 have rl := rowsC_all l
 have pa := pcs_all out
 have pl := pcs_len out
 have pi := pcs_ibr out
 have o1 : (out.length + 1) * 24 <= 140737488355328 := by omega
 have o2 : out.length <= 9223372036854775806 := by omega
 simp only [N37p]
 rw [pcs_snoc]
 generalize pcsC out = R at *
 simp only [go_sem, l7x0, b7, Tryd.f7, hlo, q, hgr, hw, qk, l1, hi, hf, ca, cb, ed, ra, rl, pa, pl, pi, o1, o2, rowsC_len]
 all_goals rfl
theorem none37 {l : List CV} {out : List (List CV)} {v : CV} {f i : Nat} (hlo : lo <= h.length) (hl : l.length <= 1000000000) (hg : l[i]? = some v) (hk : v.k ≠ 18) :
  evCode ⟨Tryd.prog, E, lo, h.length, h7⟩ loopW l7x0 (N37p l out f i, h) = some (.normal, N37p l out f (i + 1), h) := by
 obtain ⟨t, ks⟩ := v
 have hlt : i < l.length := (List.getElem?_eq_some_iff.1 hg).1
 have hgr : (rowsC l)[i]? = some (rowV (.mk t ks)) := by rw [rowsC_get, hg]; rfl
 have q : decide ((i : Int) < (l.length : Int)) = true := by simpa using hlt
 have hw : IntKind.i64.wrap ((i : Int) + 1) = ((i + 1 : Nat) : Int) := wrap_succ (by omega)
 have qk : (t.k == 18) = false := by rw [beq_eq_false_iff_ne]; exact hk
 have l1 : lo <= h.length + 1 := by omega
 rw [rowV_eq] at *
 simp only [N37p, go_sem, l7x0, b7, Tryd.f7, hlo, q, hgr, hw, qk, l1, rowsC_len]
 all_goals rfl
theorem loop7p {l : List CV} (hlo : lo <= h.length) (hl : l.length <= 1000000000) : ∀ (m i f : Nat) (out : List (List CV)), m = l.length - i -> i <= l.length -> f <= i -> out.length <= i ->
  ∃ (f' : Nat) (o : List (List CV)), f' <= l.length /\ o.length <= l.length /\ out ++ splitA ((l.take i).drop f) (l.drop i) = o ++ [trim (l.drop f')] /\
   loopW (evCode ⟨Tryd.prog, E, lo, h.length, h7⟩ loopW l7x0) (N37p l out f i, h) = some (.exit 0, N37p l o f' l.length ++ [(10, .v (.bool false))], h)
 | 0, i, f, out, hm, hi, hf, ho => by
  obtain rfl : i = l.length := by omega
  have hd : decide ((l.length : Int) < (l.length : Int)) = false := by simp
  refine ⟨f, out, hf, ho, ?_, ?_⟩
  ·rw [List.drop_length, splitA, List.take_length]
  ·rw [loop_eq]
   simp only [N37p, go_sem, l7x0, b7, Tryd.f7, hlo, hd]
   all_goals rfl
 | m + 1, i, f, out, hm, hi, hf, ho => by
  have hlt : i < l.length := by omega
  have hll : l.length <= 1000000000 := by omega
  have hg := List.getElem?_eq_getElem hlt
  rw [List.drop_eq_getElem_cons hlt, splitA, loop_eq]
  by_cases hk : (l[i]).k = 18
  ·rw [if_pos hk, comma37 hlo hl hg hf (by omega) hk, loop_n]
   obtain ⟨f', o, h1, h2, h3, h4⟩ := loop7p hlo hl m (i + 1) (i + 1) (out ++ [trim ((l.take i).drop f)]) (by omega) (by omega) (Nat.le_refl _) (by rw [List.length_append, List.length_singleton]; omega)
   have e0 : (l.take (i + 1)).drop (i + 1) = [] := List.drop_eq_nil_of_le (by rw [List.length_take]; omega)
   rw [e0, List.append_assoc, List.singleton_append] at h3
   exact ⟨f', o, h1, h2, h3, h4⟩
  ·rw [if_neg hk, none37 hlo hll hg hk, loop_n]
   obtain ⟨f', o, h1, h2, h3, h4⟩ := loop7p hlo hl m (i + 1) f out (by omega) (by omega) (by omega) (by omega)
   have hd : (l.take (i + 1)).drop f = (l.take i).drop f ++ [l[i]] := by
    rw [List.take_succ_eq_append_getElem hlt, List.drop_append_of_le_length (by rw [List.length_take]; omega)]
   rw [hd] at h3
   exact ⟨f', o, h1, h2, h3, h4⟩
theorem f7 {l : List CV} (hlo : lo <= h.length) (hl : l.length <= 1000000000) : E lo 7 [.list .no (rowsC l)] h = some (.list .no (pcsC (splitB l)), h) := by
 have hll : l.length <= 1000000000 := by omega
 obtain ⟨f', o, h1, h2, h3, h4⟩ := loop7p (lo := lo) (h := h) hlo hl l.length 0 0 [] (by omega) (Nat.zero_le _) (Nat.le_refl _) (Nat.le_refl _)
 simp only [List.nil_append, List.drop_zero, List.take_zero, List.drop_nil] at h3
 have e : splitB l = o ++ [trim (l.drop f')] := h3
 rw [e, pcs_snoc]
 simp only [N37p, l7x0, b7, Tryd.f7, loopAt, loops, bodyOf, go_sem, pcsC, List.map_nil] at h4
 have hc := fun lo hlo => f14 (lo := lo) (h := h) (l := l.drop f') hlo (by have h1 := (List.drop_suffix f' l).length_le; omega)
 have ca := hc lo hlo; have cb := hc h.length (Nat.le_refl _)
 have n0 : ((0 : Nat) : Int) = 0 := rfl
 have ed : (rowsC l).drop f' = rowsC (l.drop f') := rowsC_drop l f'
 have et : (rowsC l).take l.length = rowsC l := by rw [rowsC_take, List.take_length]
 have ra := rowsC_all (l.drop f')
 have rl := rowsC_all l
 have pa := pcs_all o
 have pl := pcs_len o
 have pi := pcs_ibr o
 have o1 : (o.length + 1) * 24 <= 140737488355328 := by omega
 have o2 : o.length <= 9223372036854775806 := by omega
 unfold pcsC at pa pl pi ⊢
 rw [e7 (by simp) (by rfl)]
 simp only [go_sem, b7, Tryd.f7, hlo, n0, h4, h1, ca, cb, ed, et, ra, rl, pa, pl, pi, o1, o2, rowsC_len]
 all_goals rfl
end Go.Lift.Q1
end

section
open Go.Proofs
namespace Go.Lift.Q1
open Rul
open Utf (By)
variable [MX]
variable {lo : Nat} {h : Heap}
def bl (l : List Int) : List V := l.map fun n => .v (.int .u8 n)
theorem bl_len (l : List Int) : (bl l).length = l.length := by simp [bl]
theorem bl_get (l : List Int) (i : Nat) : (bl l)[i]? = (l[i]?).map fun n => V.v (.int .u8 n) := by simp [bl]
theorem bl_set (l : List Int) (i : Nat) (n : Int) : (bl l).set i (.v (.int .u8 n)) = bl (l.set i n) := by simp [bl, List.map_set]
theorem byteCells_u8s {l : List Int} (hy : By l) : byteCells ⟨(u8s l).toArray⟩ = bl l := by
 simp only [byteCells, u8s, bl, List.map_map]
 refine List.map_congr_left fun n hn => ?_
 have := hy n hn
 have e : ((UInt8.ofNat n.toNat).toNat : Int) = n := by
  rw [UInt8.toNat_ofNat']
  omega
 simp only [Function.comp, e]
theorem loop63 (hlo : lo <= h.length) : ∀ (n : Nat) (a b : List Int), b.length <= n -> a.length + b.length <= 1000000000000 -> By b ->
  loopW (evCode ⟨Tryd.prog, E, lo, h.length, h63⟩ loopW l63x0) ([(3, .buf h.length 0 (a.length + b.length)), (8, .buf h.length 0 (a.length + b.length)), (9, .v (.int .i64 (a.length + b.length : Nat))), (10, .v (.int .i64 a.length))], h ++ [.cells (bl (a ++ b))]) =
   some (.exit 0, [(3, .buf h.length 0 (a.length + b.length)), (8, .buf h.length 0 (a.length + b.length)), (9, .v (.int .i64 (a.length + b.length : Nat))), (10, .v (.int .i64 (a.length + b.length : Nat))), (11, .v (.bool false))], h ++ [.cells (bl (a ++ small b))]) := by
 intro n
 induction n with
 | zero =>
  intro a b hb hab hy
  obtain rfl : b = [] := List.eq_nil_of_length_eq_zero (by omega)
  have hd : decide (((a.length : Nat) : Int) < ((a.length + ([] : List Int).length : Nat) : Int)) = false := by simp
  rw [loop_eq]
  simp only [List.length_nil, Nat.add_zero] at hd ⊢
  simp only [go_sem, l63x0, b63, Tryd.f63, hd, small, List.map_nil]
 | succ n ih =>
  intro a b hb hab hy
  cases b with
  | nil =>
   have hd : decide (((a.length : Nat) : Int) < ((a.length + ([] : List Int).length : Nat) : Int)) = false := by simp
   rw [loop_eq]
   simp only [List.length_nil, Nat.add_zero] at hd ⊢
   simp only [go_sem, l63x0, b63, Tryd.f63, hd, small, List.map_nil]
  | cons c b =>
   have hcy := hy c (List.mem_cons_self ..)
   have hd : decide ((a.length : Int) < ((a.length + (c :: b).length : Nat) : Int)) = true := by simp; omega
   have hx : (bl (a ++ c :: b))[a.length]? = some (.v (.int .u8 c)) := by simp [bl_get]
   have hw : IntKind.i64.wrap ((a.length : Int) + 1) = ((a.length + 1 : Nat) : Int) := wrap_succ (by omega)
   have hlt : a.length < a.length + (c :: b).length := by simp
   have hih := ih (a ++ [lowb c]) b (by simp at hb; omega) (by simp at hab ⊢; omega) (fun x hx => hy x (List.mem_cons_of_mem _ hx))
   have el : (a ++ [lowb c]).length + b.length = a.length + (c :: b).length := by simp; omega
   have el2 : (a ++ [lowb c]).length = a.length + 1 := by simp
   have el3 : a ++ [lowb c] ++ small b = a ++ small (c :: b) := by simp [small]
   rw [el, el2, el3] at hih
   by_cases h1 : 65 <= c
   ·have q1 : decide (65 <= c) = true := by simpa using h1
    by_cases h2 : c <= 90
    ·have q2 : decide (c <= 90) = true := by simpa using h2
     have hlc : lowb c = c + 32 := by unfold lowb; rw [if_pos ⟨h1, h2⟩]
     have hs : (bl (a ++ c :: b)).set a.length (.v (.int .u8 (c + 32))) = bl (a ++ [lowb c] ++ b) := by
      rw [bl_set, hlc]
      simp
     have hwa : IntKind.u8.wrap (c + 97) = c + 97 := wrap_u8 (by omega) (by omega)
     have hwc : IntKind.u8.wrap (c + 97 - 65) = c + 32 := by rw [wrap_u8 (by omega) (by omega)]; omega
     have hbl : a.length + 1 <= (bl (a ++ c :: b)).length := by rw [bl_len]; simp
     generalize hcs : a.length + (c :: b).length = k at *
     have er : evCode ⟨Tryd.prog, E, lo, h.length, h63⟩ loopW l63x0 ([(3, .buf h.length 0 k), (8, .buf h.length 0 k), (9, .v (.int .i64 (k : Nat))), (10, .v (.int .i64 a.length))], h ++ [.cells (bl (a ++ c :: b))]) =
       some (.normal, [(3, .buf h.length 0 k), (8, .buf h.length 0 k), (9, .v (.int .i64 (k : Nat))), (10, .v (.int .i64 (a.length + 1 : Nat)))], h ++ [.cells (bl (a ++ [lowb c] ++ b))]) := by
      have hlt' : (a.length : Int) < k := by omega
      have h0' : (0 : Int) <= a.length := by omega
      simp only [go_sem, l63x0, b63, Tryd.f63, hd, hx, hw, q1, q2, hwa, hwc, hs, hlo, hlt, hlt', h0', hbl, Nat.zero_add, Int.toNat_natCast, and_self]
      all_goals rfl
     rw [loop_eq, er, loop_n]
     exact hih
    ·have q2 : decide (c <= 90) = false := by simpa using h2
     have hlc : lowb c = c := by unfold lowb; rw [if_neg (by omega)]
     rw [hlc] at hih
     generalize hcs : a.length + (c :: b).length = k at *
     have er : evCode ⟨Tryd.prog, E, lo, h.length, h63⟩ loopW l63x0 ([(3, .buf h.length 0 k), (8, .buf h.length 0 k), (9, .v (.int .i64 (k : Nat))), (10, .v (.int .i64 a.length))], h ++ [.cells (bl (a ++ c :: b))]) =
       some (.normal, [(3, .buf h.length 0 k), (8, .buf h.length 0 k), (9, .v (.int .i64 (k : Nat))), (10, .v (.int .i64 (a.length + 1 : Nat)))], h ++ [.cells (bl (a ++ c :: b))]) := by
      have hlt' : (a.length : Int) < k := by omega
      have h0' : (0 : Int) <= a.length := by omega
      simp only [go_sem, l63x0, b63, Tryd.f63, hd, hx, hw, q1, q2, hlo, hlt, hlt', h0', Nat.zero_add, Int.toNat_natCast, and_self]
      all_goals rfl
     rw [loop_eq, er, loop_n]
     have e4 : a ++ c :: b = a ++ [c] ++ b := by simp
     rw [e4]
     exact hih
   ·have q1 : decide (65 <= c) = false := by simpa using h1
    have hlc : lowb c = c := by unfold lowb; rw [if_neg (by omega)]
    rw [hlc] at hih
    generalize hcs : a.length + (c :: b).length = k at *
    have er : evCode ⟨Tryd.prog, E, lo, h.length, h63⟩ loopW l63x0 ([(3, .buf h.length 0 k), (8, .buf h.length 0 k), (9, .v (.int .i64 (k : Nat))), (10, .v (.int .i64 a.length))], h ++ [.cells (bl (a ++ c :: b))]) =
      some (.normal, [(3, .buf h.length 0 k), (8, .buf h.length 0 k), (9, .v (.int .i64 (k : Nat))), (10, .v (.int .i64 (a.length + 1 : Nat)))], h ++ [.cells (bl (a ++ c :: b))]) := by
     have hlt' : (a.length : Int) < k := by omega
     have h0' : (0 : Int) <= a.length := by omega
     simp only [go_sem, l63x0, b63, Tryd.f63, hd, hx, hw, q1, hlo, hlt, hlt', h0', Nat.zero_add, Int.toNat_natCast, and_self]
     all_goals rfl
    rw [loop_eq, er, loop_n]
    have e4 : a ++ c :: b = a ++ [c] ++ b := by simp
    rw [e4]
    exact hih
theorem f63 {l : List Int} (hlo : lo <= h.length) (hl : l.length <= 1000000000000) (hy : By l) : E lo 63 [.v (.string (Rul.bs l))] h = some (.v (.string (Rul.bs (small l))), h) := by
 have hL := loop63 (lo := lo) (h := h) hlo l.length [] l (Nat.le_refl _) (by simpa using hl) hy
 have hz : (⟨(u8s l).toArray⟩ : ByteArray).size = l.length := by simp [ByteArray.size, u8s]
 have hsl : (small l).length = l.length := List.length_map _
 rw [e63 (by simp) (by rfl)]
 simp only [l63x0, b63, Tryd.f63, loopAt, loops, bodyOf, go_sem, List.length_nil, Nat.zero_add, List.nil_append] at hL
 have hb1 : decide (0 + l.length <= (bl (small l)).length) = true := by rw [bl_len, hsl]; simp
 have hb2 : ((bl (small l)).take l.length).map (fun x => [x]) = ri .u8 (small l) := by
  rw [List.take_of_length_le (by rw [bl_len, hsl]; exact Nat.le_refl _)]
  simp [bl, ri]
 simp only [go_sem, b63, Tryd.f63, hz, Rul.bs, byteCells_u8s hy, hL, hb1, hb2, List.nil_append]
 all_goals rfl
end Go.Lift.Q1
end

section
namespace Go.Lift.Tok
open Utf
def tk (k : Int) (t : List Int) : Tk := ⟨k, t, (0, 0), false, false⟩
end Go.Lift.Tok
end

section
namespace Go.Lift.Spell
open Utf Tok
def sureR (n d : Int) : Bool := decide (1 <= d) && n != -9223372036854775808 && Nat.gcd n.natAbs d.toNat == 1
def mayR (n d : Int) : Bool := (n == 0 && d == 0) || sureR n d
end Go.Lift.Spell
end

section
namespace Go.Lift.Spell
open Utf Tok
def sound (b : List Int) : Bool := whole b && !b.contains 0
end Go.Lift.Spell
end

section
open Go.Proofs
namespace Go.Lift.Q1
variable [MX]
open Utf Tok Spell
def bs (l : List Int) : ByteArray := ⟨(u8s l).toArray⟩
theorem bs_size (l : List Int) : (bs l).size = l.length := by simp [bs, ByteArray.size, u8s]
theorem bs_ext (l : List Int) (a b : Nat) : (bs l).extract a b = bs ((l.take b).drop a) := by
 apply ByteArray.ext
 simp only [bs, ByteArray.data_extract]
 apply Array.toList_inj.1
 rw [Array.toList_extract]
 simp only [List.extract, u8s, List.toList_toArray, List.map_drop, List.map_take]
 rw [List.take_drop]
 rcases Nat.le_total a b with h | h
 ·rw [Nat.add_sub_cancel' h]
 ·rw [List.drop_eq_nil_of_le (by simp; omega), List.drop_eq_nil_of_le (by simp; omega)]
theorem bs_list (l : List Int) : (bs l).toList = u8s l := by simp [bs, ByteArray.toList_eq]
theorem bs_nil : bs [] = ByteArray.empty := rfl
theorem bs_nil_eq (l : List Int) : ((bs l).toList == (ByteArray.empty).toList) = decide (l = []) := by
 rw [<- bs_nil, bs_list, bs_list]
 cases l with
 | nil => rfl
 | cons c t => simp [u8s]
theorem By.take {l : List Int} (h : By l) (n : Nat) : By (l.take n) := fun c hc => h c (List.mem_of_mem_take hc)
theorem By.drop {l : List Int} (h : By l) (n : Nat) : By (l.drop n) := fun c hc => h c (List.mem_of_mem_drop hc)
theorem bytes_bs {l : List Int} (hy : By l) : byteRows (bs l) = ri .u8 l := by
 unfold byteRows bs u8s ri
 simp only [List.map_map]
 apply List.map_congr_left
 intro c hc
 have := hy c hc
 simp only [Function.comp]
 congr 4
 show ((UInt8.ofNat c.toNat).toNat : Int) = c
 simp only [UInt8.toNat_ofNat']
 omega
theorem bs_idx {l : List Int} (hy : By l) {c : Int} (h0 : 0 <= c) (h1 : c <= 255) : decide (0 <= Go.Lib.indexByte (bs l).data.toList c.toNat.toUInt8) = l.contains c := by
 unfold bs
 simp only
 induction l with
 | nil => rfl
 | cons x t ih =>
  have hx := hy x (by simp)
  have ih := ih fun y hy2 => hy y (by simp [hy2])
  have hge := Go.Lib.indexByte_ge (u8s t) c.toNat.toUInt8
  simp only [u8s, List.map_cons, Go.Lib.indexByte, List.contains_cons] at ih hge ⊢
  have e : (UInt8.ofNat x.toNat == c.toNat.toUInt8) = (c == x) := by
   rw [Bool.eq_iff_iff, beq_iff_eq, beq_iff_eq]
   constructor
   ·intro h
    have h2 := congrArg UInt8.toNat h
    simp only [UInt8.toNat_ofNat', Nat.toUInt8_eq] at h2
    omega
   ·rintro rfl
    rfl
  rw [e]
  cases c == x with
  | true => rw [if_pos rfl]; simp
  | false =>
   rw [if_neg (by simp), Bool.false_or, <- ih]
   by_cases h : Go.Lib.indexByte (List.map (fun n => UInt8.ofNat n.toNat) t) c.toNat.toUInt8 = -1
   ·rw [if_pos (by simpa using h)]
    refine decide_eq_decide.2 ⟨fun h9 => by omega, fun h9 => ?_⟩
    have h8 : 0 <= Go.Lib.indexByte (List.map (fun n => UInt8.ofNat n.toNat) t) c.toNat.toUInt8 := h9
    omega
   ·rw [if_neg (by simpa using h)]
    refine decide_eq_decide.2 ⟨fun h9 => ?_, fun h9 => ?_⟩
    ·show 0 <= Go.Lib.indexByte (List.map (fun n => UInt8.ofNat n.toNat) t) c.toNat.toUInt8
     omega
    ·have h8 : 0 <= Go.Lib.indexByte (List.map (fun n => UInt8.ofNat n.toNat) t) c.toNat.toUInt8 := h9
     omega
theorem bs_nil_eq' (l : List Int) : ((bs l).toList == (⟨#[]⟩ : ByteArray).toList) = decide (l = []) := bs_nil_eq l
end Go.Lift.Q1
end

section
open Go.Proofs
namespace Go.Lift.Q1
variable [MX]
open Utf Tok Spell
section
variable {lo : Nat} {h : Heap}
theorem u8s_one {c : Int} : (bs [c]).data.toList = [c.toNat.toUInt8] := rfl
theorem f66 {l : List Int} (hy : By l) {c : Int} (h0 : 0 <= c) (h1 : c <= 255) :
  E lo 66 [.v (.string (bs l)), .v (.string (bs [c]))] h = some (.v (.int .i64 (Go.Lib.indexByte (bs l).data.toList c.toNat.toUInt8)), h) := by
 show ev Tryd.prog hints primz lo 66 _ h = _
 rw [ev_prim (p := ixP) rfl]
 unfold ixP
 simp only [u8s_one]
theorem f48 {l : List Int} (hy : By l) {c : Int} (h0 : 0 <= c) (h1 : c <= 255) :
  E lo 48 [.v (.string (bs l)), .v (.string (bs [c]))] h = some (.v (.int .i64 (Go.Lib.indexByte (bs l).data.toList c.toNat.toUInt8)), h) := by
 rw [e48 (by simp) (by rfl)]
 simp only [go_sem, b48, Tryd.f48, f66 hy h0 h1]
 all_goals rfl
theorem f37 {l : List Int} (hy : By l) {c : Int} (h0 : 0 <= c) (h1 : c <= 255) :
  E lo 37 [.v (.string (bs l)), .v (.string (bs [c]))] h = some (.v (.bool (l.contains c)), h) := by
 rw [e37 (by simp) (by rfl)]
 have t := bs_idx hy h0 h1
 simp only [go_sem, b37, Tryd.f37, f48 hy h0 h1, t]
 all_goals rfl
end
end Go.Lift.Q1
end

section
namespace Go.Lift.Sel
mutual
inductive Sm where
 | mk (k : Int) (name : List Int) (op : Int) (val : List Int) (fold : Bool) (list : List Cx) (a b : Int)
inductive Cp where
 | mk (comb : Int) (sms : List Sm)
inductive Cx where
 | mk (parts : List Cp)
end
def Sm.k : Sm -> Int
 | .mk k _ _ _ _ _ _ _ => k
def isStep (n : Int) : Bool := decide (-1073741824 <= n) && decide (n <= 1073741824)
variable (txt : List Int -> Bool)
def isName (b : List Int) : Bool := !b.isEmpty && txt b
mutual
def simpleP (d : Nat) : Sm -> Bool
 | .mk k n o v f l a b =>
  if k = 2 \/ k = 3 \/ k = 4 then isName txt n && (l.isEmpty && (o == 0 && (v.isEmpty && (!f && (a == 0 && b == 0)))))
  else if k = 5 then (decide (d < 65) && isName txt n && decide (0 <= o) && decide (o <= 6) && txt v && (o != 0 || v.isEmpty && !f)) && (l.isEmpty && (a == 0 && b == 0))
  else if k = 6 \/ k = 7 \/ k = 8 then (!l.isEmpty && decide (d + 1 <= 65) && cxsP (d + 1) l) && (n.isEmpty && (o == 0 && (v.isEmpty && (!f && (a == 0 && b == 0)))))
  else if k = 14 \/ k = 15 then (decide (d < 65) && isStep a && isStep b) && (l.isEmpty && (n.isEmpty && (o == 0 && (v.isEmpty && !f))))
  else if k = 1 \/ 9 <= k /\ k <= 13 then l.isEmpty && (n.isEmpty && (o == 0 && (v.isEmpty && (!f && (a == 0 && b == 0)))))
  else false
def smsP (d : Nat) (first : Bool) : List Sm -> Bool
 | [] => true
 | s :: r => (first || decide (2 < s.k)) && simpleP d s && smsP d false r
def cpsP (d : Nat) (first : Bool) : List Cp -> Bool
 | [] => true
 | .mk c ss :: r => ((first == (c == 0)) && decide (0 <= c) && decide (c <= 4) && !ss.isEmpty) && smsP d true ss && cpsP d false r
def cxsP (d : Nat) : List Cx -> Bool
 | [] => true
 | .mk ps :: r => !ps.isEmpty && cpsP d true ps && cxsP d r
end
def mayP (d : Nat) (l : List Cx) : Bool := !l.isEmpty && decide (d <= 65) && cxsP txt d l
end Go.Lift.Sel
end

section
namespace Go.Lift.Sel
open Rul (CV Tk4 small trim split spaceC)
structure Cf where
 nm : List Int -> Bool
 vl : List Int -> Bool
 lax : Bool
def tz : Tk4 := ⟨0, [], 0, 0, false, false⟩
def tk : List CV -> Tk4
 | [] => tz
 | v :: _ => v.t
def isD (t : Tk4) (c : Int) : Bool := t.k == 9 && t.b == [c]
def db (l : List CV) : List CV := l.dropWhile spaceC
def wholeT (t : Tk4) : Option Int := if (t.w && (t.d == 1 && isStep t.n)) = true then some t.n else none
def digitsT (n : Int) : List Int -> Option Int
 | [] => some n
 | c :: r => if 48 <= c /\ c <= 57 then digitsT (n * 10 + (c - 48)) r else none
def tailT (s : List Int) : Option Int :=
 if 1 <= s.length /\ s.length <= 10 then match digitsT 0 s with
  | some n => if n <= 1073741824 then some (-n) else none
  | none => none
 else none
def addT (neg : Bool) (r : List CV) : Option Int := match wholeT (tk r) with
 | some n => if ((tk r).k == 10 && (decide (0 <= n) && r.tail.isEmpty)) = true then some (if neg = true then -n else n) else none
 | none => none
def behindT (l : List CV) : Option Int :=
 if ((tk (db l)).k == 10) = true then (if (db l).tail.isEmpty = true then wholeT (tk (db l)) else none)
 else if isD (tk (db l)) 43 = true then addT false (db (db l).tail)
 else if isD (tk (db l)) 45 = true then addT true (db (db l).tail)
 else none
def nameT (a : Int) (w : List Int) (r : List CV) : Option (Int × Int) :=
 if [110, 45].isPrefixOf w = true then match tailT (w.drop 2) with
  | some b => if r.isEmpty = true then some (a, b) else none
  | none => none
 else if (w == [110]) = true then (if r.isEmpty = true then some (a, 0) else (behindT r).map fun b => (a, b))
 else none
def stepT (l : List CV) : Option (Int × Int) :=
 if ((tk l).k == 10) = true then (match wholeT (tk l) with
  | some b => if l.tail.isEmpty = true then some (0, b) else none
  | none => none)
 else if ((tk l).k == 1) = true then
  if (small (tk l).b == [111, 100, 100]) = true then (if l.tail.isEmpty = true then some (2, 1) else none)
  else if (small (tk l).b == [101, 118, 101, 110]) = true then (if l.tail.isEmpty = true then some (2, 0) else none)
  else if [45].isPrefixOf (small (tk l).b) = true then nameT (-1) ((small (tk l).b).drop 1) l.tail
  else nameT 1 (small (tk l).b) l.tail
 else if ((tk l).k == 12) = true then (match wholeT (tk l) with
  | some a => nameT a (small (tk l).b) l.tail
  | none => none)
 else none
def opT (l : List CV) : Option (Int × List CV) :=
 if isD (tk l) 61 = true then some (1, l.tail)
 else if isD (tk l.tail) 61 = true then
  if isD (tk l) 126 = true then some (2, l.tail.tail)
  else if isD (tk l) 124 = true then some (3, l.tail.tail)
  else if isD (tk l) 94 = true then some (4, l.tail.tail)
  else if isD (tk l) 36 = true then some (5, l.tail.tail)
  else if isD (tk l) 42 = true then some (6, l.tail.tail)
  else none
 else none
def foldT (l : List CV) : Option Bool :=
 if l.isEmpty = true then some false
 else if ((tk (db l)).k == 1 && ((small (tk (db l)).b == [105] || small (tk (db l)).b == [115]) && (db l).tail.isEmpty)) = true then some (small (tk (db l)).b == [105])
 else none
def kindT (w : List Int) : Int :=
 if (w == [114, 111, 111, 116]) = true then 9
 else if (w == [101, 109, 112, 116, 121]) = true then 10
 else if (w == [102, 105, 114, 115, 116, 45, 99, 104, 105, 108, 100]) = true then 11
 else if (w == [108, 97, 115, 116, 45, 99, 104, 105, 108, 100]) = true then 12
 else if (w == [111, 110, 108, 121, 45, 99, 104, 105, 108, 100]) = true then 13
 else if (w == [110, 111, 116]) = true then 6
 else if (w == [105, 115]) = true then 7
 else if (w == [119, 104, 101, 114, 101]) = true then 8
 else if (w == [110, 116, 104, 45, 99, 104, 105, 108, 100]) = true then 14
 else if (w == [110, 116, 104, 45, 108, 97, 115, 116, 45, 99, 104, 105, 108, 100]) = true then 15
 else 0
section
variable (cf : Cf)
def attrT (l : List CV) : Option Sm :=
 if ((tk l).k == 1 && cf.nm (tk l).b) = true then
  if l.tail.isEmpty = true then some (.mk 5 (tk l).b 0 [] false [] 0 0)
  else match opT (db l.tail) with
   | none => none
   | some (o, r) => if (((tk (db r)).k == 1 || (tk (db r)).k == 5) && cf.vl (tk (db r)).b) = true then
     (foldT (db r).tail).map fun f => .mk 5 (tk l).b o (tk (db r)).b f [] 0 0
    else none
 else none
variable (sub : List CV -> Option (List Cx))
def pseudoT (v : CV) : Option Sm :=
 if (v.k == 1) = true then
  if 9 <= kindT (small v.t.b) /\ kindT (small v.t.b) <= 13 then some (.mk (kindT (small v.t.b)) [] 0 [] false [] 0 0) else none
 else if (v.k == 2) = true then
  if 6 <= kindT (small v.t.b) /\ kindT (small v.t.b) <= 8 then (sub v.ks).map fun l => .mk (kindT (small v.t.b)) [] 0 [] false l 0 0
  else if 14 <= kindT (small v.t.b) then (stepT (trim v.ks)).map fun p => .mk (kindT (small v.t.b)) [] 0 [] false [] p.1 p.2
  else none
 else none
def simpleT (l : List CV) : Option (Option (Sm × List CV)) :=
 if ((tk l).k == 4 && (tk l).i) = true then if cf.nm (tk l).b = true then some (some (.mk 4 (tk l).b 0 [] false [] 0 0, l.tail)) else none
 else if (isD (tk l) 46 && (tk l.tail).k == 1) = true then if cf.nm (tk l.tail).b = true then some (some (.mk 3 (tk l.tail).b 0 [] false [] 0 0, l.tail.tail)) else none
 else match l with
  | [] => some none
  | v :: r => if (v.k == 19) = true then (attrT cf (trim v.ks)).map fun s => some (s, r)
   else if (v.k == 16) = true then (match r with
    | [] => if cf.lax = true then some none else none
    | u :: r2 => if (cf.lax && (u.k != 1 && u.k != 2)) = true then some none else (pseudoT sub u).map fun s => some (s, r2))
   else some none
def simplesT : Nat -> List CV -> List Sm -> Option (List Sm × List CV)
 | 0, _, _ => none
 | n + 1, l, acc => match simpleT cf sub l with
  | none => none
  | some none => some (acc, l)
  | some (some (s, r)) => simplesT n r (acc ++ [s])
def startT (l : List CV) : Option (List Sm × List CV) :=
 if ((tk l).k == 1) = true then if cf.nm (tk l).b = true then some ([.mk 2 (tk l).b 0 [] false [] 0 0], l.tail) else none
 else if isD (tk l) 42 = true then some ([.mk 1 [] 0 [] false [] 0 0], l.tail)
 else some ([], l)
def compoundT (l : List CV) : Option (List Sm × List CV) := match startT cf l with
 | none => none
 | some (a, r) => match simplesT cf sub (r.length + 1) r a with
  | none => none
  | some (ss, r') => if ss.isEmpty = true then none else some (ss, r')
def combT (l : List CV) : Option (Int × List CV) :=
 if isD (tk (db l)) 62 = true then some (2, db (db l).tail)
 else if isD (tk (db l)) 43 = true then some (3, db (db l).tail)
 else if isD (tk (db l)) 126 = true then some (4, db (db l).tail)
 else if ((tk l).k == 13) = true then some (1, db l)
 else none
def complexF : Nat -> Int -> List CV -> List Cp -> Option Cx
 | 0, _, _, _ => none
 | n + 1, c, l, acc => match compoundT cf sub l with
  | none => none
  | some (ss, r) => if r.isEmpty = true then some (.mk (acc ++ [.mk c ss])) else match combT r with
   | none => none
   | some (c', r') => complexF n c' r' (acc ++ [.mk c ss])
def complexT (l : List CV) : Option Cx := complexF cf sub (l.length + 1) 0 l []
def listT : List (List CV) -> Option (List Cx)
 | [] => some []
 | p :: r => match complexT cf sub p with
  | none => none
  | some c => match listT r with
   | none => none
   | some cs => some (c :: cs)
end
def parseT (cf : Cf) : Nat -> List CV -> Option (List Cx)
 | 0, _ => none
 | n + 1, l => listT cf (parseT cf n) (split l)
end Go.Lift.Sel
end

section
namespace Go.Lift.Sel
variable (txt : List Int -> Bool)
mutual
def fitsR (left : Nat) : Sm -> Bool
 | .mk k n o v f l a b =>
  !((left == 1) && ((k == 14 || k == 15) || k == 5)) &&
  (!(decide (k < 1) || decide (15 < k) || (decide (2 <= k) && decide (k <= 5)) && (n.isEmpty || !txt n) || !(decide (2 <= k) && decide (k <= 5)) && !n.isEmpty || !(decide (6 <= k) && decide (k <= 8)) && !l.isEmpty ||
   (decide (6 <= k) && decide (k <= 8)) && !(!l.isEmpty && !(left - 1 == 0) && cxsR (left - 1) l)) &&
  ((if k == 5 then !(decide (o < 0) || decide (6 < o) || !txt v || o == 0 && (!v.isEmpty || f)) else !(o != 0 || !v.isEmpty || f)) &&
  (if !(k == 14 || k == 15) then a == 0 && b == 0 else isStep a && isStep b)))
def smsR (left : Nat) (first : Bool) : List Sm -> Bool
 | [] => true
 | s :: r => !(!first && (s.k == 1 || s.k == 2) || !fitsR left s) && smsR left false r
def cpsR (left : Nat) (first : Bool) : List Cp -> Bool
 | [] => true
 | .mk c ss :: r => !(ss.isEmpty || first && c != 0 || !first && (decide (c < 1) || decide (4 < c))) && smsR left true ss && cpsR left false r
def cxsR (left : Nat) : List Cx -> Bool
 | [] => true
 | .mk ps :: r => !ps.isEmpty && cpsR left true ps && cxsR left r
end
def mayR (left : Nat) (l : List Cx) : Bool := !l.isEmpty && !(left == 0) && cxsR txt left l
end Go.Lift.Sel
end

section
namespace Go.Lift.Sel
mutual
def smV : Sm -> List V
 | .mk k n o v f l a b => [.v (.int .i64 k), .v (.string (Rul.bs n)), .v (.int .i64 o), .v (.string (Rul.bs v)), .v (.bool f), .list .no (cxsC l), .v (.int .i64 a), .v (.int .i64 b)]
def cpV : Cp -> List V
 | .mk c ss => [.v (.int .i64 c), .list .no (smsC ss)]
def cxV : Cx -> List V
 | .mk ps => [.list .no (cpsC ps)]
def smsC : List Sm -> List (List V)
 | [] => []
 | s :: r => smV s :: smsC r
def cpsC : List Cp -> List (List V)
 | [] => []
 | p :: r => cpV p :: cpsC r
def cxsC : List Cx -> List (List V)
 | [] => []
 | c :: r => cxV c :: cxsC r
end
theorem smsC_map : ∀ l : List Sm, smsC l = l.map smV
 | [] => by rw [smsC]; rfl
 | s :: r => by rw [smsC, smsC_map r]; rfl
theorem cpsC_map : ∀ l : List Cp, cpsC l = l.map cpV
 | [] => by rw [cpsC]; rfl
 | s :: r => by rw [cpsC, cpsC_map r]; rfl
theorem cxsC_map : ∀ l : List Cx, cxsC l = l.map cxV
 | [] => by rw [cxsC]; rfl
 | s :: r => by rw [cxsC, cxsC_map r]; rfl
theorem smsC_len (l : List Sm) : (smsC l).length = l.length := by rw [smsC_map, List.length_map]
theorem cpsC_len (l : List Cp) : (cpsC l).length = l.length := by rw [cpsC_map, List.length_map]
theorem cxsC_len (l : List Cx) : (cxsC l).length = l.length := by rw [cxsC_map, List.length_map]
end Go.Lift.Sel
end

section
namespace Go.Lift.Rul
mutual
def allV (P : Tk4 -> Prop) : CV -> Prop
 | .mk t ks => P t /\ allL P ks
def allL (P : Tk4 -> Prop) : List CV -> Prop
 | [] => True
 | v :: r => allV P v /\ allL P r
end
theorem allV_eq {P : Tk4 -> Prop} {v : CV} : allV P v ↔ P v.t /\ allL P v.ks := by
 cases v; rw [allV]; rfl
theorem allL_iff {P : Tk4 -> Prop} : ∀ {l : List CV}, allL P l ↔ ∀ v ∈ l, P v.t /\ allL P v.ks
 | [] => by rw [allL]; simp
 | v :: r => by
  rw [allL, allV_eq, allL_iff (l := r)]
  simp
theorem allL_sub {P : Tk4 -> Prop} {l m : List CV} (h : allL P l) (hs : ∀ v ∈ m, v ∈ l) : allL P m := allL_iff.2 fun v hv => allL_iff.1 h v (hs v hv)
end Go.Lift.Rul
end

section
open Go.Proofs
namespace Go.Lift.Q1
open Rul
open Utf (By)
open Sel (tk tz isD db wholeT)
variable [MX]
abbrev Rd (l : List CV) (a : Nat) : Ob := .cells [.list .no (rowsC l), .v (.int .i64 a)]
section
variable {lo a : Nat} {l : List CV} {p q : List Ob}
theorem tk_drop {l : List CV} {i : Nat} {t : Tk4} {ks : List CV} (h : l[i]? = some (.mk t ks)) : tk (l.drop i) = t := by
 obtain ⟨hi, he⟩ := List.getElem?_eq_some_iff.1 h
 rw [List.drop_eq_getElem_cons hi, he]; rfl
theorem tk_end {l : List CV} {i : Nat} (h : l.length <= i) : tk (l.drop i) = tz := by
 rw [List.drop_eq_nil_of_le h]; rfl
theorem f35 {k : Nat} (hlo : lo <= p.length) (hl : l.length <= 1000000000) (ha : a + k <= 4000000000) :
  E lo 35 [.ptr p.length 0, .v (.int .i64 k)] (p ++ Rd l a :: q) = some (.agg (row (tk (l.drop (a + k)))), p ++ Rd l a :: q) := by
 have hw : IntKind.i64.wrap ((a : Int) + (k : Int)) = ((a + k : Nat) : Int) := by rw [wrap_i64 (by omega) (by omega)]; omega
 have hlo2 : lo <= p.length + (q.length + 1) := by omega
 rcases Nat.lt_or_ge (a + k) l.length with hlt | hge
 ·obtain ⟨t, ks⟩ : ∃ t ks, l[a + k]? = some (.mk t ks) := by
   cases hv : l[a + k] with
   | mk t ks => exact ⟨t, ks, by rw [List.getElem?_eq_getElem hlt, hv]⟩
  obtain ⟨ks, hg⟩ := ks
  have q1 : decide ((l.length : Int) <= ((a + k : Nat) : Int)) = false := by rw [decide_eq_false_iff_not]; omega
  have hgr : (rowsC l)[a + k]? = some (rowV (.mk t ks)) := by rw [rowsC_get, hg]; rfl
  rw [tk_drop hg]
  simp only [rowV_eq, row, List.cons_append, List.nil_append] at hgr
  rw [e35 (by simp) (by rfl)]
  simp only [go_sem, b35, Tryd.f35, hlo, hlo2, hw, q1, hgr, row, rowsC_len]
  all_goals rfl
 ·have q1 : decide ((l.length : Int) <= ((a + k : Nat) : Int)) = true := by rw [decide_eq_true_iff]; omega
  rw [tk_end hge]
  rw [e35 (by simp) (by rfl)]
  simp only [go_sem, b35, Tryd.f35, hlo, hlo2, hw, q1, row, rowsC_len]
  all_goals rfl
theorem drop_empty {l : List CV} {a : Nat} : (l.drop a).isEmpty = decide ((l.length : Int) <= (a : Int)) := by
 cases h : decide ((l.length : Int) <= (a : Int)) with
 | true =>
  rw [decide_eq_true_iff] at h
  rw [List.drop_eq_nil_of_le (by omega)]; rfl
 | false =>
  rw [decide_eq_false_iff_not] at h
  rw [List.drop_eq_getElem_cons (by omega)]; rfl
theorem f26 (hlo : lo <= p.length) : E lo 26 [.ptr p.length 0] (p ++ Rd l a :: q) = some (.v (.bool ((l.drop a).isEmpty)), p ++ Rd l a :: q) := by
 have hlo2 : lo <= p.length + (q.length + 1) := by omega
 rw [drop_empty, e26 (by simp) (by rfl)]
 simp only [go_sem, b26, Tryd.f26, hlo, hlo2, rowsC_len]
 all_goals rfl
structure OkB (t : Tk4) : Prop where
 hy : By t.b
 hl : t.b.length <= 1000000000
 n0 : -9223372036854775808 <= t.n
 n1 : t.n <= 9223372036854775807
 d1 : t.d <= 9223372036854775807
theorem ok_tz : OkB tz := ⟨fun c hc => absurd hc (by simp [tz]), by simp [tz], by simp [tz], by simp [tz], by simp [tz]⟩
theorem ok_tk {l : List CV} (h : allL OkB l) : OkB (tk l) := by
 cases l with
 | nil => exact ok_tz
 | cons v r => exact (allL_iff.1 h v (by simp)).1
theorem ok_sub {l m : List CV} (h : allL OkB l) (hs : ∀ v ∈ m, v ∈ l) : allL OkB m := allL_iff.2 fun v hv => allL_iff.1 h v (hs v hv)
theorem ok_drop {l : List CV} {a : Nat} (h : allL OkB l) : allL OkB (l.drop a) := ok_sub h fun v hv => (List.drop_suffix a l).subset hv
def has1 (s : List Int) : List Int -> Bool
 | [c] => s.contains c
 | _ => false
theorem has_ne {s b : List Int} (h : ¬ b.length = 1) : has1 s b = false := by
 match b with
 | [] => rfl
 | [c] => exact absurd rfl h
 | x :: y :: r => rfl
def dl (s : List Int) (t : Tk4) : Bool := t.k == 9 && has1 s t.b
theorem dl_one (c : Int) (t : Tk4) : dl [c] t = isD t c := by
 unfold dl isD
 cases h : t.k == 9 with
 | false => rfl
 | true =>
  rw [Bool.true_and, Bool.true_and]
  obtain ⟨k, b, n, d, w, i⟩ := t
  match b with
  | [] => rfl
  | [x] =>
   show ([c] : List Int).contains x = ([x] == [c])
   by_cases hx : x = c
   ·subst hx; simp
   ·simp [hx]
  | x :: y :: r => simp [has1]
theorem bs_rul (l : List Int) : Go.Lift.Q1.bs l = Rul.bs l := rfl
theorem f28 {k : Nat} {s : List Int} (hlo : lo <= p.length) (hl : l.length <= 1000000000) (ha : a + k <= 4000000000) (ho : allL OkB l) (hs : By s) :
  E lo 28 [.ptr p.length 0, .v (.int .i64 k), .v (.string (Rul.bs s))] (p ++ Rd l a :: q) = some (.v (.bool (dl s (tk (l.drop (a + k))))), p ++ Rd l a :: q) := by
 have hlo2 : lo <= p.length + (q.length + 1) := by omega
 have hlo3 : lo <= p.length + (q.length + 1) + 1 := by omega
 have c35 := f35 (q := q) hlo hl ha
 have hok := ok_tk (ok_drop (a := a + k) ho)
 generalize tk (l.drop (a + k)) = t at c35 hok
 obtain ⟨tk, tb, tn, td, tw, ti⟩ := t
 have hby := hok.hy
 have hln := hok.hl
 simp only at hby hln
 unfold dl
 simp only [row] at c35 ⊢
 have hz : (Rul.bs tb).size = tb.length := by simp [Rul.bs, ByteArray.size, u8s]
 rw [e28 (by simp) (by rfl)]
 cases hk9 : tk == 9 with
 | false =>
  simp only [go_sem, b28, Tryd.f28, hlo, hlo2, hlo3, c35, hk9, Bool.false_and]
  all_goals rfl
 | true =>
  by_cases h1 : tb.length = 1
  ·obtain ⟨c, rfl⟩ := List.length_eq_one_iff.1 h1
   have q1 : (((Rul.bs [c]).size : Int) == 1) = true := rfl
   have hc := hby c (by simp)
   have c37 := fun lo h => f37 (lo := lo) (h := h) (l := s) hs hc.1 hc.2
   simp only [bs_rul] at c37
   have e1 : has1 s [c] = s.contains c := rfl
   rw [e1]
   generalize Rul.bs [c] = B at c35 q1 c37
   simp only [go_sem, b28, Tryd.f28, hlo, hlo2, hlo3, c35, hk9, q1, c37, Bool.true_and]
   all_goals rfl
  ·have q1 : (((Rul.bs tb).size : Int) == 1) = false := by rw [hz]; simp; omega
   rw [has_ne h1]
   generalize Rul.bs tb = B at c35 q1
   simp only [go_sem, b28, Tryd.f28, hlo, hlo2, hlo3, c35, hk9, q1, Bool.true_and]
   all_goals rfl
theorem loop27 (hlo : lo <= p.length) (hl : l.length <= 1000000000) {x : Int} : ∀ (n a : Nat), l.length - a <= n -> a <= 2000000000 ->
  ∃ b, b <= max a l.length /\ a <= b /\ l.drop b = db (l.drop a) /\ ((tk (l.drop a)).k == 13) = decide (a < b) /\
   loopW (evCode ⟨Tryd.prog, E, lo, p.length + (q.length + 1), h27⟩ loopW l27x0) ([(0, .ptr p.length 0), (3, .v (.int .i64 x))], p ++ Rd l a :: q) = some (.exit 0, [(0, .ptr p.length 0), (3, .v (.int .i64 x)), (11, .v (.bool false))], p ++ Rd l b :: q) := by
 intro n
 induction n with
 | zero =>
  intro a h1 h2
  have c35 := f35 (q := q) (a := a) (k := 0) hlo hl (by omega)
  have n0 : ((0 : Nat) : Int) = 0 := rfl
  have he : l.drop a = [] := List.drop_eq_nil_of_le (by omega)
  rw [n0, Nat.add_zero, he] at c35
  refine ⟨a, by omega, Nat.le_refl _, by rw [he]; rfl, by rw [he]; simp [tk, tz], ?_⟩
  have q1 : (tz.k == 13) = false := rfl
  simp only [tk, row] at c35
  rw [loop_eq]
  simp only [go_sem, l27x0, b27, Tryd.f27, hlo, c35, q1]
  all_goals rfl
 | succ n ih =>
  intro a h1 h2
  have c35 := f35 (q := q) (a := a) (k := 0) hlo hl (by omega)
  have n0 : ((0 : Nat) : Int) = 0 := rfl
  rw [n0, Nat.add_zero] at c35
  cases hk : (tk (l.drop a)).k == 13 with
  | false =>
   refine ⟨a, by omega, Nat.le_refl _, ?_, by simp, ?_⟩
   ·cases hd : l.drop a with
    | nil => rfl
    | cons v r =>
     rw [hd] at hk
     unfold db
     rw [List.dropWhile_cons, if_neg (by show ¬ spaceC v = true; unfold spaceC; have : (v.k == 13) = false := hk; rw [this]; simp)]
   ·simp only [row] at c35
    rw [loop_eq]
    simp only [go_sem, l27x0, b27, Tryd.f27, hlo, c35, hk]
    all_goals rfl
  | true =>
   have hlt : a < l.length := by
    rcases Nat.lt_or_ge a l.length with h | h
    ·exact h
    ·rw [tk_end h] at hk; exact absurd hk (by decide)
   obtain ⟨b, b1, b2, b3, b4, b5⟩ := ih (a + 1) (by omega) (by omega)
   have hw : IntKind.i64.wrap ((a : Int) + 1) = ((a + 1 : Nat) : Int) := wrap_succ (by omega)
   refine ⟨b, by omega, by omega, ?_, by simp; omega, ?_⟩
   ·rw [b3, List.drop_eq_getElem_cons hlt]
    have : l[a].k = 13 := by
     rw [List.drop_eq_getElem_cons hlt] at hk
     have hk : (l[a].k == 13) = true := hk
     simpa using hk
    unfold db
    rw [List.dropWhile_cons, if_pos (by unfold spaceC; rw [this]; rfl)]
   ·have er : evCode ⟨Tryd.prog, E, lo, p.length + (q.length + 1), h27⟩ loopW l27x0 ([(0, .ptr p.length 0), (3, .v (.int .i64 x))], p ++ Rd l a :: q) = some (.normal, [(0, .ptr p.length 0), (3, .v (.int .i64 x))], p ++ Rd l (a + 1) :: q) := by
     simp only [row] at c35
     simp only [go_sem, l27x0, b27, Tryd.f27, hlo, c35, hk, hw]
     all_goals rfl
    rw [loop_eq, er, loop_n]
    exact b5
theorem f27 (hlo : lo <= p.length) (hl : l.length <= 1000000000) (ha : a <= 2000000000) :
  ∃ b, b <= max a l.length /\ a <= b /\ l.drop b = db (l.drop a) /\ E lo 27 [.ptr p.length 0] (p ++ Rd l a :: q) = some (.v (.bool ((tk (l.drop a)).k == 13)), p ++ Rd l b :: q) := by
 obtain ⟨b, b1, b2, b3, b4, hL⟩ := loop27 (q := q) hlo hl (x := a) (l.length - a) a (Nat.le_refl _) ha
 refine ⟨b, b1, b2, b3, ?_⟩
 have q1 : decide ((a : Int) < (b : Int)) = decide (a < b) := by
  cases h : decide (a < b) with
  | true => rw [decide_eq_true_iff] at h ⊢; omega
  | false => rw [decide_eq_false_iff_not] at h ⊢; omega
 rw [b4, e27 (by simp) (by rfl)]
 simp only [l27x0, b27, Tryd.f27, loopAt, loops, bodyOf, go_sem] at hL
 simp only [go_sem, b27, Tryd.f27, hlo, hL, q1]
 all_goals rfl
end
end Go.Lift.Q1
end

section
open Go.Proofs
namespace Go.Lift.Q1
variable [MX]
open Utf Tok Spell
theorem wrap_u64 {n : Int} (h0 : 0 <= n) (h1 : n <= 18446744073709551615) : IntKind.u64.wrap n = n := by
 simp only [IntKind.wrap, IntKind.signed, IntKind.bits]
 simp
 omega
theorem wrap_u64m {n : Int} (h0 : -9223372036854775808 <= n) (h1 : n < 0) : IntKind.u64.wrap n = n + 18446744073709551616 := by
 simp only [IntKind.wrap, IntKind.signed, IntKind.bits]
 simp
 omega
section
variable {lo : Nat} {h : Heap}
theorem f102 {n : Int} (h0 : -9223372036854775808 <= n) (h1 : n <= 9223372036854775807) : E lo 102 [.v (.int .i64 n)] h = some (.v (.int .u64 n.natAbs), h) := by
 rw [e102 (by simp) (by rfl)]
 by_cases hn : n < 0
 ·have q : decide (n < 0) = true := by simp [hn]
  have w1 : IntKind.u64.wrap n = n + 18446744073709551616 := wrap_u64m h0 hn
  have w2 : IntKind.u64.wrap (0 - (n + 18446744073709551616)) = (n.natAbs : Int) := by
   simp only [IntKind.wrap, IntKind.signed, IntKind.bits]
   simp
   omega
  simp only [go_sem, b102, Tryd.f102, q, w1, w2]
  all_goals rfl
 ·have q : decide (n < 0) = false := by simp; omega
  have w1 : IntKind.u64.wrap n = (n.natAbs : Int) := by rw [wrap_u64 (by omega) (by omega)]; omega
  simp only [go_sem, b102, Tryd.f102, q, w1]
  all_goals rfl
theorem tmod_nat (a b : Nat) : ((b : Int).tmod (a : Int)) = ((b % a : Nat) : Int) := by
 rw [Int.tmod_eq_emod_of_nonneg (by omega)]; rfl
theorem loop101 : ∀ (m a b : Nat), a <= m -> loopW (evCode ⟨Tryd.prog, E, lo, h.length, h101⟩ loopW l101x0) ([(0, .v (.int .u64 a)), (1, .v (.int .u64 b))], h) =
  some (.exit 0, [(0, .v (.int .u64 0)), (1, .v (.int .u64 (Nat.gcd a b))), (6, .v (.bool false))], h) := by
 have stop : ∀ b : Nat, loopW (evCode ⟨Tryd.prog, E, lo, h.length, h101⟩ loopW l101x0) ([(0, .v (.int .u64 (0 : Nat))), (1, .v (.int .u64 b))], h) =
  some (.exit 0, [(0, .v (.int .u64 0)), (1, .v (.int .u64 (Nat.gcd 0 b))), (6, .v (.bool false))], h) := by
  intro b
  have q : (((0 : Nat) : Int) != 0) = false := rfl
  rw [loop_eq, Nat.gcd_zero_left]
  simp only [go_sem, l101x0, b101, Tryd.f101, q]
  all_goals rfl
 intro m
 induction m with
 | zero =>
  intro a b ha
  obtain rfl : a = 0 := by omega
  exact stop b
 | succ m ih =>
  intro a b ha
  by_cases h0 : a = 0
  ·subst h0; exact stop b
  have q : ((a : Int) != 0) = true := by simp; omega
  have z : ¬ ((a : Int) = 0) := by omega
  have t := tmod_nat a b
  have er : evCode ⟨Tryd.prog, E, lo, h.length, h101⟩ loopW l101x0 ([(0, .v (.int .u64 a)), (1, .v (.int .u64 b))], h) = some (.normal, [(0, .v (.int .u64 ((b % a : Nat) : Int))), (1, .v (.int .u64 a))], h) := by
   simp only [go_sem, l101x0, b101, Tryd.f101, q, z, t]
   all_goals rfl
  rw [loop_eq, er, loop_n, ih (b % a) a (by have := Nat.mod_lt b (by omega : 0 < a); omega), Nat.gcd_rec a b]
theorem f101 {a b : Nat} : E lo 101 [.v (.int .u64 a), .v (.int .u64 b)] h = some (.v (.int .u64 (Nat.gcd a b)), h) := by
 have hL := loop101 (lo := lo) (h := h) a a b (Nat.le_refl _)
 simp only [l101x0, b101, Tryd.f101, loopAt, loops, bodyOf, go_sem] at hL
 rw [e101 (by simp) (by rfl)]
 simp only [go_sem, b101, Tryd.f101, hL]
 all_goals rfl
theorem f100 {n d : Int} (h0 : -9223372036854775808 <= n) (h1 : n <= 9223372036854775807) (h2 : d <= 9223372036854775807) (hlo : lo <= h.length) :
  E lo 100 [.agg [.v (.int .i64 n), .v (.int .i64 d)]] h = some (.v (.bool (sureR n d)), h) := by
 unfold sureR
 rw [e100 (by simp) (by rfl)]
 by_cases hd : 1 <= d
 rotate_left
 ·have q : decide (1 <= d) = false := by simp; omega
  rw [q]
  simp only [go_sem, b100, Tryd.f100, q, Bool.false_and]
  all_goals rfl
 have q : decide (1 <= d) = true := by simp [hd]
 by_cases hn : n = -9223372036854775808
 ·have q2 : (n != -9223372036854775808) = false := by simp [hn]
  rw [q, q2]
  simp only [go_sem, b100, Tryd.f100, q, q2, Bool.false_and, Bool.and_false]
  all_goals rfl
 have q2 : (n != -9223372036854775808) = true := by simp [hn]
 have w1 : IntKind.u64.wrap d = (d.toNat : Int) := by rw [wrap_u64 (by omega) (by omega)]; omega
 have k1 := fun lo h => f102 (lo := lo) (h := h) h0 h1
 have k2 := fun lo h => f101 (lo := lo) (h := h) (a := n.natAbs) (b := d.toNat)
 have k3 : ((Nat.gcd n.natAbs d.toNat : Int) == 1) = (Nat.gcd n.natAbs d.toNat == 1) := by
  rw [Bool.eq_iff_iff, beq_iff_eq, beq_iff_eq]; omega
 rw [q, q2]
 simp only [go_sem, b100, Tryd.f100, q, q2, w1, k1, k2, k3, hlo, Bool.true_and, Bool.and_true]
 all_goals rfl
theorem fl32 : flatOf Tryd.prog 44 = some [1, 1] := by kernel_rfl
theorem eq_rat (n d x y : Int) : eqCells [1, 1] [.v (.int .i64 n), .v (.int .i64 d)] [.v (.int .i64 x), .v (.int .i64 y)] = some (n == x && d == y) := by
 simp [eqCells, eqS]
theorem f93 {n d : Int} (h0 : -9223372036854775808 <= n) (h1 : n <= 9223372036854775807) (h2 : d <= 9223372036854775807) (hlo : lo <= h.length) :
  E lo 93 [.agg [.v (.int .i64 n), .v (.int .i64 d)]] h = some (.v (.bool (mayR n d)), h) := by
 have k := fun lo h hlo => f100 (lo := lo) (h := h) h0 h1 h2 hlo
 have e := eq_rat n d 0 0
 have hlo2 : lo <= h.length + 1 := by omega
 unfold mayR
 rw [e93 (by simp) (by rfl)]
 cases q : (n == 0 && d == 0) with
 | true =>
  rw [q] at e
  simp only [go_sem, b93, Tryd.f93, fl32, e, hlo]
  all_goals rfl
 | false =>
  rw [q] at e
  have k' := k lo (h ++ [.cells [.v (.int .i64 n), .v (.int .i64 d)]]) (by simp; omega)
  simp only [go_sem, b93, Tryd.f93, fl32, e, k', hlo, Bool.false_or]
  all_goals rfl
end
end Go.Lift.Q1
end

section
namespace Go.Lift.Sel
open Rul (CV Tk4 small trim split spaceC mayV mayL closer)
theorem whole_step {t : Tk4} {n : Int} (h : wholeT t = some n) : isStep n = true := by
 unfold wholeT at h
 split at h
 ·rename_i h1
  simp only [Bool.and_eq_true] at h1
  cases h
  exact h1.2.2
 ·cases h
theorem step_iff {n : Int} : isStep n = true ↔ -1073741824 <= n /\ n <= 1073741824 := by
 unfold isStep
 rw [Bool.and_eq_true, decide_eq_true_iff, decide_eq_true_iff]
theorem kind_range (w : List Int) : kindT w = 0 \/ 6 <= kindT w /\ kindT w <= 15 := by
 unfold kindT
 repeat' split
 all_goals omega
variable (txt : List Int -> Bool)
def cd : Cf := ⟨fun _ => true, fun _ => true, false⟩
def fltL (d : Nat) : Option (List Cx) -> Option (List Cx)
 | some c => if (!c.isEmpty && cxsP txt d c) = true then some c else none
 | none => none
theorem may_node {n : Nat} {t : Tk4} {ks : List CV} (h : mayV n (.mk t ks) = true) (hc : closer t.k ≠ 0) : ∃ m, n = m + 1 /\ mayL m ks = true := by
 cases n with
 | zero =>
  rw [mayV, Bool.and_eq_true, if_neg hc] at h
  exact absurd h.2 (by simp)
 | succ m =>
  rw [mayV, Bool.and_eq_true, if_neg hc] at h
  exact ⟨m, rfl, h.2⟩
variable {txt}
end Go.Lift.Sel
end

section
open Go.Proofs
namespace Go.Lift.Q1
open Rul
open Utf (By)
open Sel (tk tz isD db wholeT digitsT tailT isStep step_iff)
variable [MX]
section
variable {lo : Nat} {h : Heap}
theorem may_one {n : Int} (h0 : -1073741824 <= n) (h1 : n <= 1073741824) : Spell.mayR n 1 = true := by
 unfold Spell.mayR Spell.sureR
 have e1 : decide ((1 : Int) <= 1) = true := by decide
 have e2 : (n != -9223372036854775808) = true := by simp; omega
 have e3 : (Nat.gcd n.natAbs (1 : Int).toNat == 1) = true := by
  have : (1 : Int).toNat = 1 := rfl
  rw [this, Nat.gcd_one_right]; rfl
 rw [e1, e2, e3]; simp
def numV (o : Option Int) : V := .tup [.v (.int .i64 (o.getD 0)), .v (.bool o.isSome)]
theorem f77 {t : Tk4} (hlo : lo <= h.length) (ho : OkB t) : E lo 77 [.agg (row t)] h = some (numV (wholeT t), h) := by
 have hlo2 : lo <= h.length + 1 := by omega
 obtain ⟨k, b, n, d, w, i⟩ := t
 have h0 := ho.n0; have h1 := ho.n1; have h2 := ho.d1
 simp only at h0 h1 h2
 have c93 := fun lo h hlo => f93 (lo := lo) (h := h) (n := n) (d := d) h0 h1 h2 hlo
 unfold wholeT
 simp only [row]
 rw [e77 (by simp) (by rfl)]
 cases w with
 | false =>
  simp only [go_sem, b77, Tryd.f77, hlo, hlo2, c93, Bool.false_and, numV]
  all_goals rfl
 | true =>
  cases hm : Spell.mayR n d with
  | false =>
   have q : (true && (d == 1 && isStep n)) = false := by
    cases hd : d == 1 with
    | false => rfl
    | true =>
     cases hs : isStep n with
     | false => rfl
     | true =>
      have hd : d = 1 := by simpa using hd
      have := step_iff.1 hs
      rw [hd, may_one this.1 this.2] at hm
      cases hm
   simp only [q]
   simp only [go_sem, b77, Tryd.f77, hlo, hlo2, c93, hm, numV]
   all_goals rfl
  | true =>
   cases hd : d == 1 with
   | false =>
    have q1 : (d != 1) = true := by unfold bne; rw [hd]; rfl
    simp only [go_sem, b77, Tryd.f77, hlo, hlo2, c93, hm, q1, numV, Bool.true_and, Bool.false_and]
    all_goals rfl
   | true =>
    have q1 : (d != 1) = false := by unfold bne; rw [hd]; rfl
    unfold isStep
    cases hx : decide (-1073741824 <= n) with
    | false =>
     have q2 : decide (n < -1073741824) = true := by rw [decide_eq_true_iff]; rw [decide_eq_false_iff_not] at hx; omega
     simp only [go_sem, b77, Tryd.f77, hlo, hlo2, c93, hm, q1, q2, numV, Bool.true_and, Bool.false_and]
     all_goals rfl
    | true =>
     have q2 : decide (n < -1073741824) = false := by rw [decide_eq_false_iff_not]; rw [decide_eq_true_iff] at hx; omega
     cases hy : decide (n <= 1073741824) with
     | false =>
      have q3 : decide (1073741824 < n) = true := by rw [decide_eq_true_iff]; rw [decide_eq_false_iff_not] at hy; omega
      simp only [go_sem, b77, Tryd.f77, hlo, hlo2, c93, hm, q1, q2, q3, numV, Bool.true_and, Bool.false_and]
      all_goals rfl
     | true =>
      have q3 : decide (1073741824 < n) = false := by rw [decide_eq_false_iff_not]; rw [decide_eq_true_iff] at hy; omega
      simp only [go_sem, b77, Tryd.f77, hlo, hlo2, c93, hm, q1, q2, q3, numV, Bool.true_and, Bool.false_and]
      all_goals rfl
theorem ten_step {i : Nat} {n c : Int} (h0 : 0 <= n) (h1 : n < 10 ^ i) (c0 : 48 <= c) (c1 : c <= 57) : 0 <= n * 10 + (c - 48) /\ n * 10 + (c - 48) < 10 ^ (i + 1) := by
 have e : (10 : Int) ^ (i + 1) = 10 ^ i * 10 := Int.pow_succ ..
 rw [e]
 generalize (10 : Int) ^ i = P at *
 omega
theorem ten_le {i : Nat} {n : Int} (hi : i <= 10) (h1 : n < 10 ^ i) : n < 10000000000 := by
 have : (10 : Nat) ^ i <= 10 ^ 10 := Nat.pow_le_pow_right (by omega) hi
 have e : (10 : Nat) ^ 10 = 10000000000 := by decide
 have e2 : (10 : Int) ^ i = ((10 ^ i : Nat) : Int) := by simp
 omega
theorem loop80 {s : List Int} (hlo : lo <= h.length) (hs : s.length <= 10) (hy : By s) : ∀ (m i : Nat) (n : Int), s.length - i <= m -> i <= s.length -> 0 <= n -> n < 10 ^ i ->
  (∀ r, digitsT n (s.drop i) = some r -> 0 <= r /\ r < 10000000000) /\ loopW (evCode ⟨Tryd.prog, E, lo, h.length, h80⟩ loopW l80x0) ([(4, .v (.int .i64 n)), (16, .list .no (ri .u8 s)), (17, .v (.int .i64 s.length)), (18, .v (.int .i64 i))], h) =
   (match digitsT n (s.drop i) with
    | some r => some (.exit 0, [(4, .v (.int .i64 r)), (16, .list .no (ri .u8 s)), (17, .v (.int .i64 s.length)), (18, .v (.int .i64 s.length)), (19, .v (.bool false))], h)
    | none => some (.ret, [(2, .v (.int .i64 0)), (3, .v (.bool false))], h)) := by
 have stop : ∀ (n : Int), 0 <= n -> n < 10 ^ s.length -> (∀ r, digitsT n (s.drop s.length) = some r -> 0 <= r /\ r < 10000000000) /\ loopW (evCode ⟨Tryd.prog, E, lo, h.length, h80⟩ loopW l80x0) ([(4, .v (.int .i64 n)), (16, .list .no (ri .u8 s)), (17, .v (.int .i64 s.length)), (18, .v (.int .i64 s.length))], h) =
   (match digitsT n (s.drop s.length) with
    | some r => some (.exit 0, [(4, .v (.int .i64 r)), (16, .list .no (ri .u8 s)), (17, .v (.int .i64 s.length)), (18, .v (.int .i64 s.length)), (19, .v (.bool false))], h)
    | none => some (.ret, [(2, .v (.int .i64 0)), (3, .v (.bool false))], h)) := by
  intro n h3 h4
  have hd : s.drop s.length = [] := List.drop_eq_nil_of_le (Nat.le_refl _)
  have q1 : decide ((s.length : Int) < (s.length : Int)) = false := by rw [decide_eq_false_iff_not]; omega
  rw [hd, digitsT]
  refine ⟨fun r hr => by cases hr; exact ⟨h3, ten_le hs h4⟩, ?_⟩
  rw [loop_eq]
  simp only [go_sem, l80x0, b80, Tryd.f80, hlo, q1]
  all_goals rfl
 intro m
 induction m with
 | zero =>
  intro i n h1 h2 h3 h4
  obtain rfl : i = s.length := by omega
  exact stop n h3 h4
 | succ m ih =>
  intro i n h1 h2 h3 h4
  rcases Nat.lt_or_ge i s.length with hi | hi
  rotate_left
  ·obtain rfl : i = s.length := by omega
   exact stop n h3 h4
  have hd := List.drop_eq_getElem_cons hi
  have hc := hy s[i] (List.getElem_mem hi)
  have hg : (ri .u8 s)[i]? = some [.v (.int .u8 s[i])] := by simp [ri, List.getElem?_eq_getElem hi]
  have q1 : decide ((i : Int) < (s.length : Int)) = true := by rw [decide_eq_true_iff]; omega
  have hw : IntKind.i64.wrap ((i : Int) + 1) = ((i + 1 : Nat) : Int) := wrap_succ (by omega)
  rw [hd, digitsT]
  generalize s[i] = c at hc hg
  by_cases hx : 48 <= c /\ c <= 57
  ·rw [if_pos hx]
   obtain ⟨t1, t2⟩ := ten_step h3 h4 hx.1 hx.2
   have t3 := ten_le (i := i) (by omega) h4
   obtain ⟨i1, i2⟩ := ih (i + 1) (n * 10 + (c - 48)) (by omega) (by omega) t1 t2
   refine ⟨i1, ?_⟩
   have a1 : decide (c < 48) = false := by rw [decide_eq_false_iff_not]; omega
   have a2 : decide (57 < c) = false := by rw [decide_eq_false_iff_not]; omega
   have w1 : IntKind.i64.wrap (n * 10) = n * 10 := wrap_i64 (by omega) (by omega)
   have w2 : IntKind.u8.wrap (c - 48) = c - 48 := wrap_u8 (by omega) (by omega)
   have w3 : IntKind.i64.wrap (c - 48) = c - 48 := wrap_i64 (by omega) (by omega)
   have w4 : IntKind.i64.wrap (n * 10 + (c - 48)) = n * 10 + (c - 48) := wrap_i64 (by omega) (by omega)
   have er : evCode ⟨Tryd.prog, E, lo, h.length, h80⟩ loopW l80x0 ([(4, .v (.int .i64 n)), (16, .list .no (ri .u8 s)), (17, .v (.int .i64 s.length)), (18, .v (.int .i64 i))], h) =
     some (.normal, [(4, .v (.int .i64 (n * 10 + (c - 48)))), (16, .list .no (ri .u8 s)), (17, .v (.int .i64 s.length)), (18, .v (.int .i64 (i + 1 : Nat)))], h) := by
    simp only [go_sem, l80x0, b80, Tryd.f80, hlo, q1, hg, a1, a2, w1, w2, w3, w4, hw]
    all_goals rfl
   rw [loop_eq, er, loop_n]
   exact i2
  ·rw [if_neg hx]
   refine ⟨fun r hr => absurd hr (by simp), ?_⟩
   rw [loop_eq]
   by_cases h48 : c < 48
   ·have a1 : decide (c < 48) = true := by rw [decide_eq_true_iff]; omega
    simp only [go_sem, l80x0, b80, Tryd.f80, hlo, q1, hg, a1]
    all_goals rfl
   ·have a1 : decide (c < 48) = false := by rw [decide_eq_false_iff_not]; omega
    have a2 : decide (57 < c) = true := by rw [decide_eq_true_iff]; omega
    simp only [go_sem, l80x0, b80, Tryd.f80, hlo, q1, hg, a1, a2]
    all_goals rfl
theorem f80 {s : List Int} (hlo : lo <= h.length) (hy : By s) (hl : s.length <= 1000000000) : ∃ x : Int, E lo 80 [.v (.string (Rul.bs s))] h = some (.tup [.v (.int .i64 x), .v (.bool (tailT s).isSome)], h) /\ ∀ b, tailT s = some b -> x = b := by
 have hz : (Rul.bs s).size = s.length := by simp [Rul.bs, ByteArray.size, u8s]
 unfold tailT
 by_cases h1 : s.length < 1
 ·have a1 : decide ((s.length : Int) < 1) = true := by rw [decide_eq_true_iff]; omega
  refine ⟨0, ?_, fun b hb => by rw [if_neg (by omega)] at hb; cases hb⟩
  rw [if_neg (by omega), e80 (by simp) (by rfl)]
  simp only [go_sem, b80, Tryd.f80, hlo, hz, a1]
  all_goals rfl
 have a1 : decide ((s.length : Int) < 1) = false := by rw [decide_eq_false_iff_not]; omega
 by_cases h2 : 10 < s.length
 ·have a2 : decide ((10 : Int) < (s.length : Int)) = true := by rw [decide_eq_true_iff]; omega
  refine ⟨0, ?_, fun b hb => by rw [if_neg (by omega)] at hb; cases hb⟩
  rw [if_neg (by omega), e80 (by simp) (by rfl)]
  simp only [go_sem, b80, Tryd.f80, hlo, hz, a1, a2]
  all_goals rfl
 have a2 : decide ((10 : Int) < (s.length : Int)) = false := by rw [decide_eq_false_iff_not]; omega
 rw [if_pos (by omega)]
 obtain ⟨hr, hL⟩ := loop80 (h := h) hlo (by omega) hy s.length 0 0 (by omega) (by omega) (by omega) (by decide)
 rw [List.drop_zero] at hr hL
 have hbr : byteRows (Rul.bs s) = ri .u8 s := bytes_bs hy
 have n0 : ((0 : Nat) : Int) = 0 := rfl
 have hlr : (ri .u8 s).length = s.length := by simp [ri]
 cases hd : digitsT 0 s with
 | none =>
  rw [hd] at hL
  refine ⟨0, ?_, fun b hb => by cases hb⟩
  rw [e80 (by simp) (by rfl)]
  simp only [l80x0, b80, Tryd.f80, loopAt, loops, bodyOf, go_sem, n0] at hL
  simp only [go_sem, b80, Tryd.f80, hlo, hz, a1, a2, hbr, hL, hlr]
  all_goals rfl
 | some r =>
  rw [hd] at hL
  obtain ⟨r0, r1⟩ := hr r hd
  have w1 : IntKind.i64.wrap (0 - r) = -r := by rw [wrap_i64 (by omega) (by omega)]; omega
  refine ⟨-r, ?_, fun b hb => ?_⟩
  ·rw [e80 (by simp) (by rfl)]
   simp only [l80x0, b80, Tryd.f80, loopAt, loops, bodyOf, go_sem, n0] at hL
   have q : (if r <= 1073741824 then some (-r) else none).isSome = decide (r <= 1073741824) := by
    by_cases h : r <= 1073741824
    ·rw [if_pos h]; simp [h]
    ·rw [if_neg h]; simp [h]
   simp only [q]
   simp only [go_sem, b80, Tryd.f80, hlo, hz, a1, a2, hbr, hL, w1, hlr]
   all_goals rfl
  ·simp only at hb
   split at hb
   ·cases hb; rfl
   ·cases hb
end
end Go.Lift.Q1
end
