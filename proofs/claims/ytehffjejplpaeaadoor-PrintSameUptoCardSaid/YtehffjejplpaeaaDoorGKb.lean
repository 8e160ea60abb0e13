/- May component values be? -/
import Derived.Lib.TrailingZeros
import Derived.Lib.ItoaNum
import Derived.Lib.IndexLaws
import Derived.Test.YtehffjejplpaeaaDoorGLc
import Derived.Test.YtehffjejplpaeaaDoorGKa
import Derived.Test.YtehffjejplpaeaaDoorGK8Basea
set_option linter.unusedVariables false
set_option linter.unusedSimpArgs false
set_option linter.unusedSectionVars false
section
open Go.Proofs
namespace Go.Lift.D7
open Rul
variable [MX]
set_option maxRecDepth 20000
set_option maxHeartbeats 4000000
variable {lo : Nat} {h : Heap}
theorem f33 (hlo : lo ≤ h.length) (k : Int) : E lo 33 [.v (.int .i64 k)] h = some (.v (.int .i64 (closer k)), h) := by
 rw [e33 (by simp) (by rfl)]
 unfold closer
 by_cases a : k = 19
 ·subst a; simp only [go_sem, b33, Tryd.f33, hlo]; all_goals rfl
 ·by_cases b : k = 23
  ·subst b; simp only [go_sem, b33, Tryd.f33, hlo]; all_goals rfl
  ·by_cases c : k = 2
   ·subst c; simp only [go_sem, b33, Tryd.f33, hlo]; all_goals rfl
   ·by_cases d : k = 21
    ·subst d; simp only [go_sem, b33, Tryd.f33, hlo]; all_goals rfl
    ·have ha : (k == 19) = false := by simpa using a
     have hb : (k == 23) = false := by simpa using b
     have hc : (k == 2) = false := by simpa using c
     have hd : (k == 21) = false := by simpa using d
     simp only [go_sem, b33, Tryd.f33, hlo, ha, hb, hc, hd, a, b, c, d, or_self, if_false]
abbrev N47 (l : List CV) (d k : Int) : Env := [(1, .v (.int .i64 d)), (7, .list .no (rowsC l)), (8, .v (.int .i64 l.length)), (9, .v (.int .i64 k))]
theorem mayV_eq (n : Nat) (t : Tk4) (ks : List CV) : mayV n (.mk t ks) = (decide (1 ≤ t.k ∧ t.k ≤ 24) && (if closer t.k = 0 then ks.isEmpty else match n with
  | 0 => false
  | n + 1 => mayL n ks)) := by
 cases n <;> rw [mayV]
theorem round32 {l : List CV} {v : CV} {n k : Nat} (hn : n ≤ 64) (hlo : lo ≤ h.length) (hl : nodesL l ≤ 1000000000000000000) (hg : l[k]? = some v)
  (ih : ∀ m, n = m + 1 → ∀ lo ks h, lo ≤ h.length → nodesL ks ≤ 1000000000000000000 → E lo 32 [.list .no (rowsC ks), .v (.int .i64 (64 - (m : Int)))] h = some (.v (.bool (mayL m ks)), h)) :
  evCode ⟨Tryd.prog, E, lo, h.length, h32⟩ loopW l32x0 (N47 l (64 - (n : Int)) k, h) =
   if mayV n v = true then some (.normal, N47 l (64 - (n : Int)) (k + 1 : Nat), h) else some (.ret, [(4, .v (.bool false))], h ++ [.cells (rowV v)]) := by
 obtain ⟨t, ks⟩ := v
 have hlt : k < l.length := (List.getElem?_eq_some_iff.1 hg).1
 have hgr : (rowsC l)[k]? = some (rowV (.mk t ks)) := by rw [rowsC_get, hg]; rfl
 have q : decide ((k : Int) < (l.length : Int)) = true := by simp; omega
 have hll := nodesL_len l
 have hkk : nodesL ks ≤ nodesL l := nodesL_get (v := .mk t ks) hg
 have hw : IntKind.i64.wrap ((k : Int) + 1) = ((k + 1 : Nat) : Int) := wrap_succ (by omega)
 have hlo' : lo ≤ h.length + 1 := by omega
 have c46 := fun lo hlo => f33 (lo := lo) (h := h ++ [.cells (rowV (.mk t ks))]) hlo t.k
 have c46a := c46 lo (by simp; omega); have c46b := c46 h.length (by simp); have c46c := c46 (h.length + 1) (by simp)
 clear c46
 rw [mayV_eq]
 rw [rowV_eq] at *
 by_cases a1 : t.k < 1
 ·have q1 : decide (t.k < 1) = true := by simpa using a1
  have : decide (1 ≤ t.k ∧ t.k ≤ 24) = false := by rw [decide_eq_false_iff_not]; omega
  rw [this, Bool.false_and, if_neg (by simp)]
  simp only [go_sem, l32x0, b32, Tryd.f32, hlo, hlo', q, hgr, q1, rowsC_len]
  all_goals rfl
 have q1 : decide (t.k < 1) = false := by simpa using a1
 by_cases a2 : 24 < t.k
 ·have q2 : decide (24 < t.k) = true := by simpa using a2
  have : decide (1 ≤ t.k ∧ t.k ≤ 24) = false := by rw [decide_eq_false_iff_not]; omega
  rw [this, Bool.false_and, if_neg (by simp)]
  simp only [go_sem, l32x0, b32, Tryd.f32, hlo, hlo', q, hgr, q1, q2, rowsC_len]
  all_goals rfl
 have q2 : decide (24 < t.k) = false := by simpa using a2
 have : decide (1 ≤ t.k ∧ t.k ≤ 24) = true := by rw [decide_eq_true_iff]; omega
 rw [this, Bool.true_and]
 by_cases a3 : closer t.k = 0
 ·rw [if_pos a3]
  have q3 : (closer t.k == 0) = true := by simpa using a3
  cases ks with
  | nil =>
   have q4 : decide ((0 : Int) < ((0 : Nat) : Int)) = false := rfl
   rw [if_pos (show ([] : List CV).isEmpty = true from rfl)]
   simp only [go_sem, l32x0, b32, Tryd.f32, hlo, hlo', q, hgr, q1, q2, q3, q4, hw, c46a, c46b, c46c, rowsC_len, List.length_nil]
   all_goals rfl
  | cons x r =>
   have q4 : decide ((0 : Int) < ((r.length + 1 : Nat) : Int)) = true := by rw [decide_eq_true_iff]; omega
   rw [if_neg (show ¬ (x :: r).isEmpty = true by simp)]
   simp only [go_sem, l32x0, b32, Tryd.f32, hlo, hlo', q, hgr, q1, q2, q3, q4, hw, c46a, c46b, c46c, rowsC_len, List.length_cons]
   all_goals rfl
 ·rw [if_neg a3]
  have q3 : (closer t.k == 0) = false := by simpa using a3
  cases n with
  | zero =>
   have q5 : decide ((64 : Int) ≤ 64 - ((0 : Nat) : Int)) = true := rfl
   rw [if_neg (show ¬ false = true by simp)]
   simp only [go_sem, l32x0, b32, Tryd.f32, hlo, hlo', q, hgr, q1, q2, q3, q5, hw, c46a, c46b, c46c, rowsC_len]
   all_goals rfl
  | succ m =>
   have q5 : decide ((64 : Int) ≤ 64 - ((m + 1 : Nat) : Int)) = false := by rw [decide_eq_false_iff_not]; omega
   have w2 : IntKind.i64.wrap (64 - ((m + 1 : Nat) : Int) + 1) = 64 - (m : Int) := by
    rw [wrap_i64 (by omega) (by omega)]; omega
   have c47 := fun lo hlo => ih m rfl lo ks (h ++ [.cells (rowV (.mk t ks))]) hlo (by omega)
   rw [rowV_eq] at c47
   have c47a := c47 lo (by simp; omega); have c47b := c47 h.length (by simp); have c47c := c47 (h.length + 1) (by simp)
   clear c47 ih
   show _ = if mayL m ks = true then _ else _
   cases hm : mayL m ks with
   | true =>
    rw [hm] at c47a c47b c47c
    rw [if_pos rfl]
    simp only [go_sem, l32x0, b32, Tryd.f32, hlo, hlo', q, hgr, q1, q2, q3, q5, hw, w2, c46a, c46b, c46c, c47a, c47b, c47c, rowsC_len]
    all_goals rfl
   | false =>
    rw [hm] at c47a c47b c47c
    rw [if_neg (by simp)]
    simp only [go_sem, l32x0, b32, Tryd.f32, hlo, hlo', q, hgr, q1, q2, q3, q5, hw, w2, c46a, c46b, c46c, c47a, c47b, c47c, rowsC_len]
    all_goals rfl
theorem stop32 {l : List CV} {d : Int} (hlo : lo ≤ h.length) : evCode ⟨Tryd.prog, E, lo, h.length, h32⟩ loopW l32x0 (N47 l d l.length, h) =
   some (.exit 0, N47 l d l.length ++ [(10, .v (.bool false))], h) := by
 have q : decide ((l.length : Int) < (l.length : Int)) = false := by simp
 simp only [go_sem, l32x0, b32, Tryd.f32, hlo, q]
 all_goals rfl
theorem mayL_cons (n : Nat) (v : CV) (r : List CV) : mayL n (v :: r) = (mayV n v && mayL n r) := by rw [mayL]
theorem mayL_nil (n : Nat) : mayL n [] = true := by rw [mayL]
theorem loop32 {l : List CV} {n : Nat} (hn : n ≤ 64) (hlo : lo ≤ h.length) (hl : nodesL l ≤ 1000000000000000000)
  (ih : ∀ m, n = m + 1 → ∀ lo ks h, lo ≤ h.length → nodesL ks ≤ 1000000000000000000 → E lo 32 [.list .no (rowsC ks), .v (.int .i64 (64 - (m : Int)))] h = some (.v (.bool (mayL m ks)), h)) :
  ∀ (m k : Nat), k + m = l.length → if mayL n (l.drop k) = true then
    loopW (evCode ⟨Tryd.prog, E, lo, h.length, h32⟩ loopW l32x0) (N47 l (64 - (n : Int)) k, h) = some (.exit 0, N47 l (64 - (n : Int)) l.length ++ [(10, .v (.bool false))], h)
   else ∃ X, loopW (evCode ⟨Tryd.prog, E, lo, h.length, h32⟩ loopW l32x0) (N47 l (64 - (n : Int)) k, h) = some (.ret, [(4, .v (.bool false))], h ++ X) := by
 intro m
 induction m with
 | zero =>
  intro k hk
  obtain rfl : k = l.length := by omega
  rw [List.drop_length, if_pos (mayL_nil n), loop_eq, stop32 hlo, loop_e]
 | succ m ihm =>
  intro k hk
  have hlt : k < l.length := by omega
  have hg : l[k]? = some l[k] := List.getElem?_eq_getElem hlt
  have hd : l.drop k = l[k] :: l.drop (k + 1) := List.drop_eq_getElem_cons hlt
  rw [hd, mayL_cons]
  generalize l[k] = v at *
  have hr := round32 hn hlo hl hg ih
  cases hm : mayV n v with
  | false =>
   rw [hm, if_neg (by simp)] at hr
   rw [Bool.false_and, if_neg (by simp)]
   exact ⟨_, by rw [loop_eq, hr, loop_r]⟩
  | true =>
   rw [hm, if_pos rfl] at hr
   rw [Bool.true_and, loop_eq, hr, loop_n]
   exact ihm (k + 1) (by omega)
theorem f32 : ∀ (n : Nat), n ≤ 64 → ∀ (lo : Nat) (l : List CV) (h : Heap), lo ≤ h.length → nodesL l ≤ 1000000000000000000 → E lo 32 [.list .no (rowsC l), .v (.int .i64 (64 - (n : Int)))] h = some (.v (.bool (mayL n l)), h) := by
 intro n
 induction n with
 | zero =>
  intro hn lo l h hlo hl
  have hL := loop32 (lo := lo) (h := h) hn hlo hl (fun m hm => by omega) l.length 0 (by omega)
  have n0 : ((0 : Nat) : Int) = 0 := rfl
  rw [List.drop_zero] at hL
  rw [e32 (by simp) (by rfl)]
  cases hm : mayL 0 l with
  | false =>
   rw [hm, if_neg (by simp)] at hL
   obtain ⟨X, hL⟩ := hL
   simp only [l32x0, b32, Tryd.f32, loopAt, loops, bodyOf, go_sem, N47, n0] at hL
   simp only [go_sem, b32, Tryd.f32, hlo, hL, rowsC_len, n0]
   all_goals rfl
  | true =>
   rw [hm, if_pos rfl] at hL
   simp only [l32x0, b32, Tryd.f32, loopAt, loops, bodyOf, go_sem, N47, n0, List.cons_append, List.nil_append] at hL
   simp only [go_sem, b32, Tryd.f32, hlo, hL, rowsC_len, n0]
   all_goals rfl
 | succ n ih =>
  intro hn lo l h hlo hl
  have hL := loop32 (lo := lo) (h := h) hn hlo hl (fun m hm => by
   obtain rfl : n = m := by omega
   exact fun lo ks h hlo hk => ih (by omega) lo ks h hlo hk) l.length 0 (by omega)
  have n0 : ((0 : Nat) : Int) = 0 := rfl
  rw [List.drop_zero] at hL
  rw [e32 (by simp) (by rfl)]
  cases hm : mayL (n + 1) l with
  | false =>
   rw [hm, if_neg (by simp)] at hL
   obtain ⟨X, hL⟩ := hL
   simp only [l32x0, b32, Tryd.f32, loopAt, loops, bodyOf, go_sem, N47, n0] at hL
   simp only [go_sem, b32, Tryd.f32, hlo, hL, rowsC_len, n0]
   all_goals rfl
  | true =>
   rw [hm, if_pos rfl] at hL
   simp only [l32x0, b32, Tryd.f32, loopAt, loops, bodyOf, go_sem, N47, n0, List.cons_append, List.nil_append] at hL
   simp only [go_sem, b32, Tryd.f32, hlo, hL, rowsC_len, n0]
   all_goals rfl
end Go.Lift.D7
end

section
open Go.Proofs
namespace Go.Lift.D7
open Rul
variable [MX]
set_option maxRecDepth 20000
set_option maxHeartbeats 400000
variable {lo : Nat} {h : Heap}
theorem lim48 {n : Nat} (h : n ≤ 1000000000) : (n + 1) * 48 ≤ 140737488355328 := by omega
theorem lim32 {n : Nat} (h : n ≤ 1000000000) : (n + 1 + 1) * 32 ≤ 140737488355328 := by omega
theorem limA {n : Nat} (h : n ≤ 1000000000) : n ≤ 9223372036854775806 := by omega
theorem limB {n : Nat} (h : n ≤ 1000000000) : n + 1 + 1 ≤ 9223372036854775807 := by omega
def plC : List (List CV × Int) → List V
 | [] => []
 | p :: r => .list .no (rowsC p.1) :: .v (.int .i64 p.2) :: plC r
theorem plC_len : ∀ l, (plC l).length = l.length * 2
 | [] => rfl
 | p :: r => by simp [plC, plC_len r]; omega
theorem plC_app : ∀ l m, plC (l ++ m) = plC l ++ plC m
 | [], m => rfl
 | p :: r, m => by simp [plC, plC_app r m]
theorem plC_ok (n : Nat) : ∀ l, (plC l).all (okv n) = true
 | [] => rfl
 | p :: r => by simp only [plC, List.all_cons, plC_ok n r]; rfl
theorem plC_stk (n : Nat) : ∀ l, (plC l).all (stkC n) = true
 | [] => rfl
 | p :: r => by simp only [plC, List.all_cons, plC_stk n r]; rfl
theorem plC_at0 (f : List (List CV × Int)) (p : List CV × Int) (r : List (List CV × Int)) : (plC (f ++ p :: r))[f.length * 2]? = some (.list .no (rowsC p.1)) := by
 rw [plC_app, List.getElem?_append_right (by rw [plC_len]; omega), plC_len, Nat.sub_self]
 rfl
theorem plC_at1 (f : List (List CV × Int)) (p : List CV × Int) (r : List (List CV × Int)) : (plC (f ++ p :: r))[f.length * 2 + 1]? = some (.v (.int .i64 p.2)) := by
 rw [plC_app, List.getElem?_append_right (by rw [plC_len]; omega), plC_len, Nat.add_sub_cancel_left]
 rfl
theorem plC_set (f : List (List CV × Int)) (p : List CV × Int) (r : List (List CV × Int)) (l : List CV) : (plC (f ++ p :: r)).set (f.length * 2) (.list .no (rowsC l)) = plC (f ++ (l, p.2) :: r) := by
 rw [plC_app, List.set_append, if_neg (by rw [plC_len]; omega), plC_len, Nat.sub_self, plC_app]
 rfl
theorem plC_take (f r : List (List CV × Int)) : (plC (f ++ r)).take (f.length * 2) = plC f := by
 rw [plC_app, ← plC_len, List.take_left]
abbrev N24 (h : Heap) (out : List Tk4) (n : Nat) (ex : Env) : Env := (3, .list .yes (out.map row)) :: (4, .stk h.length n 2) :: ex
def Ex24 (ex : Env) : Prop := ex = [] ∨ ∃ p c b, ex = [(6, p), (7, c), (73, b)]
theorem row_bare (out : List Tk4) (c : Int) : out.map row ++ [[V.v (Value.int IntKind.i64 c), V.v (Value.string ByteArray.empty), V.v (Value.int IntKind.i64 0), V.v (Value.int IntKind.i64 0), V.v (Value.bool false), V.v (Value.bool false)]] = (out ++ [Rul.bare c]).map row := by
 rw [List.map_append]
 rfl
theorem done24 {fs js : List (List CV × Int)} {c : Int} {Y : Heap} {out : List Tk4} {ex : Env} (hlo : lo ≤ h.length) (hn : fs.length ≤ 1000000000000000000) (ho : out.length ≤ 1000000000) (he : Ex24 ex) :
  evCode ⟨Tryd.prog, E, lo, h.length, h25⟩ loopW l25x0 (N24 h out (fs.length + 1) ex, h ++ .cells (plC (fs ++ ([], c) :: js)) :: Y) =
   some (.normal, N24 h (out ++ (if 0 < c then [Rul.bare c] else [])) fs.length [], h ++ [.cells (plC (fs ++ ([], c) :: js))]) := by
 have hgr := plC_at0 fs ([], c) js
 have hgc := plC_at1 fs ([], c) js
 have hok := plC_ok (h.length + 1) (fs ++ ([], c) :: js)
 have hlt : h.length < h.length + 1 := by omega
 have hle : fs.length ≤ fs.length + 1 := by omega
 generalize plC (fs ++ ([], c) :: js) = C at *
 rw [rowsC_nil] at hgr
 have q : decide ((0 : Int) < ((fs.length + 1 : Nat) : Int)) = true := by rw [decide_eq_true_iff]; omega
 have w1 : IntKind.i64.wrap (((fs.length + 1 : Nat) : Int) - 1) = (fs.length : Int) := by rw [wrap_i64 (by omega) (by omega)]; omega
 have a1 : (0 : Int) ≤ (fs.length : Int) ∧ (fs.length : Int) < ((fs.length + 1 : Nat) : Int) := by omega
 have ra := row_all out
 have o1 : (out.length + 1) * 48 ≤ 140737488355328 := lim48 ho
 have o2 : out.length ≤ 9223372036854775806 := limA ho
 have q3 : (((0 : Nat) : Int) == 0) = true := rfl
 by_cases hc : 0 < c
 ·have qc : decide (0 < c) = true := by simpa using hc
  rw [if_pos hc]
  rcases he with rfl | ⟨x, y, b, rfl⟩
  ·simp only [go_sem, l25x0, b25, Tryd.f25, hlo, hlt, hle, q, q3, w1, a1, hgr, hgc, hok, ra, o1, o2, qc, row_bare, List.length_map]
   all_goals rfl
  ·simp only [go_sem, l25x0, b25, Tryd.f25, hlo, hlt, hle, q, q3, w1, a1, hgr, hgc, hok, ra, o1, o2, qc, row_bare, List.length_map]
   all_goals rfl
 ·have qc : decide (0 < c) = false := by simpa using hc
  rw [if_neg hc, List.append_nil]
  rcases he with rfl | ⟨x, y, b, rfl⟩
  ·simp only [go_sem, l25x0, b25, Tryd.f25, hlo, hlt, hle, q, q3, w1, a1, hgr, hgc, hok, qc, List.length_map]
   all_goals rfl
  ·simp only [go_sem, l25x0, b25, Tryd.f25, hlo, hlt, hle, q, q3, w1, a1, hgr, hgc, hok, qc, List.length_map]
   all_goals rfl
theorem row_put (out : List Tk4) (t : Tk4) : out.map row ++ [[V.v (Value.int IntKind.i64 t.k), V.v (Value.string (bs t.b)), V.v (Value.int IntKind.i64 t.n), V.v (Value.int IntKind.i64 t.d), V.v (Value.bool t.w), V.v (Value.bool t.i)]] = (out ++ [t]).map row := by
 rw [List.map_append]
 rfl
theorem val24 {fs js : List (List CV × Int)} {l ks : List CV} {t : Tk4} {c : Int} {Y : Heap} {out : List Tk4} {ex : Env} (hlo : lo ≤ h.length) (hn : fs.length ≤ 1000000000) (ho : out.length ≤ 1000000000) (he : Ex24 ex) :
  ∃ ex' Y', Ex24 ex' ∧ evCode ⟨Tryd.prog, E, lo, h.length, h25⟩ loopW l25x0 (N24 h out (fs.length + 1) ex, h ++ .cells (plC (fs ++ (.mk t ks :: l, c) :: js)) :: Y) =
   if (decide (closer t.k = 0) && ks.isEmpty) = true then some (.normal, N24 h (out ++ [t]) (fs.length + 1) ex', h ++ .cells (plC (fs ++ (l, c) :: js)) :: Y')
   else some (.normal, N24 h (out ++ [t]) (fs.length + 1 + 1) ex', h ++ .cells (plC (fs ++ [(l, c), (ks, closer t.k)])) :: Y') := by
 have hgr := plC_at0 fs (.mk t ks :: l, c) js
 have hgc := plC_at1 fs (.mk t ks :: l, c) js
 have hok := plC_ok (h.length + 1) (fs ++ (.mk t ks :: l, c) :: js)
 have hst := plC_set fs (.mk t ks :: l, c) js l
 have htk : (plC (fs ++ (l, c) :: js)).take ((fs.length + 1) * 2) = plC (fs ++ [(l, c)]) := by
  have e : fs ++ (l, c) :: js = (fs ++ [(l, c)]) ++ js := by simp
  rw [e, ← plC_take (fs ++ [(l, c)]) js, List.length_append]
  rfl
 have hC : fs.length * 2 + 1 ≤ (plC (fs ++ (.mk t ks :: l, c) :: js)).length := by rw [plC_len]; simp; omega
 have hsk := plC_stk h.length (fs ++ [(l, c)])
 have hln : (fs.length + 1) * 2 ≤ (plC (fs ++ (l, c) :: js)).length := by rw [plC_len]; simp; omega
 have hpp : plC (fs ++ [(l, c)]) ++ [.list .no (rowsC ks), .v (.int .i64 (closer t.k))] = plC (fs ++ [(l, c), (ks, closer t.k)]) := by
  rw [plC_app, plC_app, List.append_assoc]
  rfl
 have hlt : h.length < h.length + 1 := by omega
 have hle : fs.length ≤ fs.length + 1 := by omega
 generalize plC (fs ++ (.mk t ks :: l, c) :: js) = C at *
 generalize plC (fs ++ (l, c) :: js) = D at *
 generalize plC (fs ++ [(l, c)]) = F at *
 simp only [rowsC_cons, rowV_eq, rowsC_nil] at hgr
 have q : decide ((0 : Int) < ((fs.length + 1 : Nat) : Int)) = true := by rw [decide_eq_true_iff]; omega
 have w1 : IntKind.i64.wrap (((fs.length + 1 : Nat) : Int) - 1) = (fs.length : Int) := by rw [wrap_i64 (by omega) (by omega)]; omega
 have a1 : (0 : Int) ≤ (fs.length : Int) ∧ (fs.length : Int) < ((fs.length + 1 : Nat) : Int) := by omega
 have ra := row_all out
 have q3 : (((l.length + 1 : Nat) : Int) == 0) = false := by rw [beq_eq_false_iff_ne]; omega
 have c46 := fun lo hlo => f33 (lo := lo) (h := h ++ [.cells D, .cells (rowV (.mk t ks))]) hlo t.k
 rw [rowV_eq] at c46
 have c46a := c46 lo (by simp; omega); have c46b := c46 h.length (by simp); have c46c := c46 (h.length + 1) (by simp); have c46d := c46 (h.length + 2) (by simp)
 clear c46
 have hcl := closer_nn t.k
 have hlo1 : lo ≤ h.length + 1 := by omega
 have rl := rowsC_all l
 have tl : (rowsC l).take l.length = rowsC l := by rw [← rowsC_len l, List.take_length]
 have hne : 0 < closer t.k → ¬ (decide (closer t.k = 0) && ks.isEmpty) = true := fun hc => by rw [show decide (closer t.k = 0) = false by rw [decide_eq_false_iff_not]; omega, Bool.false_and]; simp
 have o1 : (out.length + 1) * 48 ≤ 140737488355328 := lim48 ho
 have o2 : out.length ≤ 9223372036854775806 := limA ho
 have o3 : (fs.length + 1 + 1) * 32 ≤ 140737488355328 := lim32 hn
 have o4 : fs.length + 1 + 1 ≤ 9223372036854775807 := limB hn
 by_cases hc : 0 < closer t.k
 ·have qc : decide (0 < closer t.k) = true := by simpa using hc
  refine ⟨[], [.cells (rowV (.mk t ks))], .inl rfl, ?_⟩
  rw [if_neg (hne hc), rowV_eq]
  rcases he with rfl | ⟨x, y, b, rfl⟩
  ·simp only [go_sem, l25x0, b25, Tryd.f25, hlo, hlo1, rl, tl, Nat.le_refl, hC, hlt, hle, q, q3, w1, a1, hgr, hgc, hok, ra, o1, o2, o3, o4, hst, htk, hsk, hln, hpp, qc, c46a, c46b, c46c, c46d, row_put, List.length_map, rowsC_len, List.length_cons]
   all_goals rfl
  ·simp only [go_sem, l25x0, b25, Tryd.f25, hlo, hlo1, rl, tl, Nat.le_refl, hC, hlt, hle, q, q3, w1, a1, hgr, hgc, hok, ra, o1, o2, o3, o4, hst, htk, hsk, hln, hpp, qc, c46a, c46b, c46c, c46d, row_put, List.length_map, rowsC_len, List.length_cons]
   all_goals rfl
 ·have qc : decide (0 < closer t.k) = false := by simpa using hc
  have q0 : decide (closer t.k = 0) = true := by rw [decide_eq_true_iff]; omega
  rw [q0, Bool.true_and]
  cases ks with
  | nil =>
   refine ⟨[(6, .ptr (h.length + 1) 0), (7, .v (.int .i64 (closer t.k))), (73, .v (.bool false))], [.cells (rowV (.mk t []))], .inr ⟨_, _, _, rfl⟩, ?_⟩
   have q4 : decide ((0 : Int) < ((0 : Nat) : Int)) = false := rfl
   rw [if_pos (show ([] : List CV).isEmpty = true from rfl), rowV_eq]
   rcases he with rfl | ⟨x, y, b, rfl⟩
   ·simp only [go_sem, l25x0, b25, Tryd.f25, hlo, hlo1, rl, tl, Nat.le_refl, hC, hlt, hle, q, q3, q4, w1, a1, hgr, hgc, hok, ra, o1, o2, o3, o4, hst, htk, hsk, hln, hpp, qc, c46a, c46b, c46c, c46d, row_put, List.length_map, rowsC_len, List.length_cons, List.length_nil]
    all_goals rfl
   ·simp only [go_sem, l25x0, b25, Tryd.f25, hlo, hlo1, rl, tl, Nat.le_refl, hC, hlt, hle, q, q3, q4, w1, a1, hgr, hgc, hok, ra, o1, o2, o3, o4, hst, htk, hsk, hln, hpp, qc, c46a, c46b, c46c, c46d, row_put, List.length_map, rowsC_len, List.length_cons, List.length_nil]
    all_goals rfl
  | cons z ks =>
   refine ⟨[], [.cells (rowV (.mk t (z :: ks)))], .inl rfl, ?_⟩
   have q4 : decide ((0 : Int) < ((ks.length + 1 : Nat) : Int)) = true := by rw [decide_eq_true_iff]; omega
   rw [if_neg (show ¬ (z :: ks).isEmpty = true by simp), rowV_eq]
   rcases he with rfl | ⟨x, y, b, rfl⟩
   ·simp only [go_sem, l25x0, b25, Tryd.f25, hlo, hlo1, rl, tl, Nat.le_refl, hC, hlt, hle, q, q3, q4, w1, a1, hgr, hgc, hok, ra, o1, o2, o3, o4, hst, htk, hsk, hln, hpp, qc, c46a, c46b, c46c, c46d, row_put, List.length_map, rowsC_len, List.length_cons]
    all_goals rfl
   ·simp only [go_sem, l25x0, b25, Tryd.f25, hlo, hlo1, rl, tl, Nat.le_refl, hC, hlt, hle, q, q3, q4, w1, a1, hgr, hgc, hok, ra, o1, o2, o3, o4, hst, htk, hsk, hln, hpp, qc, c46a, c46b, c46c, c46d, row_put, List.length_map, rowsC_len, List.length_cons]
    all_goals rfl
def clT (c : Int) : List Tk4 := if 0 < c then [Rul.bare c] else []
theorem flatL_cons (t : Tk4) (ks r : List CV) : flatL (.mk t ks :: r) = t :: (flatL ks ++ (clT (closer t.k) ++ flatL r)) := by
 rw [flatL, flatV]
 unfold clT
 have hcl := closer_nn t.k
 by_cases hc : closer t.k = 0
 ·rw [if_pos hc, if_neg (by omega)]; simp
 ·rw [if_neg hc, if_pos (by omega)]; simp
theorem flatL_nil : flatL [] = [] := by rw [flatL]
theorem place24 (hlo : lo ≤ h.length) : ∀ (n : Nat) (l : List CV), nodesL l ≤ n → ∀ (fs js : List (List CV × Int)) (c : Int) (Y : Heap) (out : List Tk4) (ex : Env), Ex24 ex → fs.length + nodesL l ≤ 1000000000 → out.length + 2 * nodesL l ≤ 1000000000 →
  ∃ js', loopW (evCode ⟨Tryd.prog, E, lo, h.length, h25⟩ loopW l25x0) (N24 h out (fs.length + 1) ex, h ++ .cells (plC (fs ++ (l, c) :: js)) :: Y) =
   loopW (evCode ⟨Tryd.prog, E, lo, h.length, h25⟩ loopW l25x0) (N24 h (out ++ (flatL l ++ clT c)) fs.length [], h ++ [.cells (plC (fs ++ js'))]) := by
 intro n
 induction n with
 | zero =>
  intro l hl fs js c Y out ex he hf ho
  have : l = [] := by
   have := nodesL_len l
   exact List.eq_nil_of_length_eq_zero (by omega)
  subst this
  refine ⟨([], c) :: js, ?_⟩
  rw [loop_eq, done24 hlo (by omega) (by omega) he, loop_n, flatL_nil, List.nil_append]
  rfl
 | succ n ih =>
  intro l hl fs js c Y out ex he hf ho
  cases l with
  | nil =>
   refine ⟨([], c) :: js, ?_⟩
   rw [loop_eq, done24 hlo (by omega) (by omega) he, loop_n, flatL_nil, List.nil_append]
   rfl
  | cons v r =>
   obtain ⟨t, ks⟩ := v
   rw [nodesL_cons, nodesV] at hl hf ho
   obtain ⟨ex', Y', he', hr⟩ := val24 (js := js) (l := r) (ks := ks) (t := t) (c := c) (Y := Y) (out := out) hlo (by omega : fs.length ≤ 1000000000) (by omega) he
   rw [flatL_cons]
   by_cases hq : (decide (closer t.k = 0) && ks.isEmpty) = true
   ·rw [if_pos hq] at hr
    simp only [Bool.and_eq_true, decide_eq_true_eq, List.isEmpty_iff] at hq
    obtain ⟨hq, rfl⟩ := hq
    obtain ⟨js', h1⟩ := ih r (by omega) fs js c Y' (out ++ [t]) ex' he' (by omega) (by simp only [List.length_append, List.length_cons, List.length_nil]; omega)
    refine ⟨js', ?_⟩
    rw [loop_eq, hr, loop_n, h1, hq, flatL_nil]
    have : clT 0 = [] := rfl
    rw [this]
    simp only [List.append_assoc, List.nil_append, List.cons_append]
   ·rw [if_neg hq] at hr
    have e1 : fs ++ [(r, c), (ks, closer t.k)] = (fs ++ [(r, c)]) ++ (ks, closer t.k) :: [] := by simp
    have e2 : fs.length + 1 = (fs ++ [(r, c)]).length := by simp
    obtain ⟨js1, h1⟩ := ih ks (by omega) (fs ++ [(r, c)]) [] (closer t.k) Y' (out ++ [t]) ex' he' (by simp only [List.length_append, List.length_cons, List.length_nil]; omega) (by simp only [List.length_append, List.length_cons, List.length_nil]; omega)
    have hfl := flatL_len ks
    have hcl : (clT (closer t.k)).length ≤ 1 := by unfold clT; split <;> simp
    obtain ⟨js2, h2⟩ := ih r (by omega) fs js1 c [] (out ++ [t] ++ (flatL ks ++ clT (closer t.k))) [] (.inl rfl) (by omega) (by simp only [List.length_append, List.length_cons, List.length_nil]; omega)
    refine ⟨js2, ?_⟩
    rw [loop_eq, hr, loop_n, e1]
    rw [← e2] at h1
    rw [h1]
    have e3 : (fs ++ [(r, c)]) ++ js1 = fs ++ (r, c) :: js1 := by simp
    rw [e3, h2]
    simp only [List.append_assoc, List.nil_append, List.cons_append]
theorem stop25 {js : List (List CV × Int)} {out : List Tk4} (hlo : lo ≤ h.length) : evCode ⟨Tryd.prog, E, lo, h.length, h25⟩ loopW l25x0 (N24 h out 0 [], h ++ [.cells (plC js)]) =
   some (.exit 0, N24 h out 0 [(13, .v (.bool false))], h ++ [.cells (plC js)]) := by
 have q : decide ((0 : Int) < ((0 : Nat) : Int)) = false := rfl
 have hok := plC_ok (h.length + 1) js
 have hlt : h.length < h.length + 1 := by omega
 simp only [go_sem, l25x0, b25, Tryd.f25, hlo, q, hok, hlt]
 all_goals rfl
theorem f25 {l : List CV} (hlo : lo ≤ h.length) (hl : nodesL l ≤ 100000000) : E lo 25 [.list .no (rowsC l)] h = some (.list .no ((flatL l).map row), h) := by
 obtain ⟨js, hL⟩ := place24 hlo (nodesL l) l (Nat.le_refl _) [] [] 0 [] [] [] (.inl rfl) (by simp; omega) (by simp; omega)
 rw [loop_eq (s := (N24 h _ ([] : List (List CV × Int)).length _, _)), List.length_nil, List.nil_append js, stop25 hlo, loop_e] at hL
 have e : clT 0 = [] := rfl
 rw [e, List.append_nil, List.nil_append] at hL
 have e2 : plC [(l, 0)] = [.list .no (rowsC l), .v (.int .i64 0)] := rfl
 rw [e2] at hL
 rw [e25 (by simp) (by rfl)]
 simp only [l25x0, b25, Tryd.f25, loopAt, loops, bodyOf, go_sem, N24, List.map_nil, List.cons_append, List.nil_append, Nat.zero_add] at hL
 have nb : ((1 : Nat) != 0) = true := rfl
 have rl := rowsC_all l
 simp only [go_sem, b25, Tryd.f25, hlo, hL, nb, rl]
 all_goals rfl
end Go.Lift.D7
end

section
open Go.Proofs
namespace Go.Lift.D7
open Rul
variable [MX]
set_option maxRecDepth 20000
set_option maxHeartbeats 4000000
variable {lo : Nat} {h : Heap}
theorem f24 {l : List CV} (hlo : lo ≤ h.length) (hl : nodesL l ≤ 1000000000000000000) : E lo 24 [.list .no (rowsC l)] h = some (.v (.bool (mayL 64 l)), h) := by
 have k := fun lo hlo => f32 64 (by omega) lo l h hlo hl
 rw [show (64 : Int) - ((64 : Nat) : Int) = 0 from rfl] at k
 have ka := k lo hlo; have kb := k h.length (Nat.le_refl _)
 rw [e24 (by simp) (by rfl)]
 simp only [go_sem, b24, Tryd.f24, hlo, ka, kb]
 all_goals rfl
end Go.Lift.D7
end

section
namespace Go.Lift.Tok
open Utf
def expN (n : Int) : List Int → Int
 | [] => n
 | c :: t => expN (if 1099511627776 < n * 10 + (c - 48) then 1099511627776 else n * 10 + (c - 48)) t
def valN (n : Int) : List Int → Int
 | [] => n
 | c :: t => valN (n * 10 + (c - 48)) t
def upN : Nat → Int → Option Int
 | 0, n => some n
 | k + 1, n => if 922337203685477580 < n then none else upN k (n * 10)
def divN (y : Int) : Nat → Int → Nat × Int
 | 0, n => (0, n)
 | k + 1, n => if n % y = 0 then divN y k (n / y) else (k + 1, n)
def mulN (y b : Int) : Nat → Int → Option Int
 | 0, d => some d
 | k + 1, d => if b < d then none else mulN y b k (d * y)
def scaleR (n p : Int) : Option (Int × Int) :=
 match upN p.toNat n with
 | none => none
 | some m =>
  if 62 < (divN 2 (-p).toNat m).1 ∨ 27 < (divN 5 (-p).toNat (divN 2 (-p).toNat m).2).1 then none
  else (mulN 5 1844674407370955161 (divN 5 (-p).toNat (divN 2 (-p).toNat m).2).1 (2 ^ (divN 2 (-p).toNat m).1)).map fun d => ((divN 5 (-p).toNat (divN 2 (-p).toNat m).2).2, d)
structure Wr where
 below : Bool
 digits : List Int
 behind : Nat
 exp : Int
 whole : Bool
def core (d : List Int) : List Int := (d.reverse.dropWhile (· == 48)).reverse
def turn (below : Bool) (x : Option (Int × Int)) : Int × Int := match x with
 | none => (0, 0)
 | some (n, d) => (if below = true then -n else n, d)
def ratio (w : Wr) : Int × Int :=
 let d := w.digits.dropWhile (· == 48)
 if d = [] then (0, 1) else
 if 18 < (core d).length then (0, 0) else
 turn w.below (scaleR (valN 0 (core d)) (w.exp - w.behind + (d.length - (core d).length)))
structure Nm where
 sg : List Int
 d1 : List Int
 fr : List Int
 ex : List Int
 d3 : List Int
def Nm.text (n : Nm) : List Int := n.sg ++ n.d1 ++ (if n.fr = [] then [] else 46 :: n.fr) ++ n.ex ++ n.d3
def Nm.wr (n : Nm) : Wr := ⟨n.sg == [45], n.d1 ++ n.fr, n.fr.length, if chr n.ex 1 = 45 then - expN 0 n.d3 else expN 0 n.d3, n.fr.isEmpty && n.ex.isEmpty⟩
def Nm.num (n : Nm) : (Int × Int) × Bool := (ratio n.wr, n.wr.whole)
end Go.Lift.Tok
end

section
namespace Go.Lift.Tok
open Utf
def tk (k : Int) (t : List Int) : Tk := ⟨k, t, (0, 0), false, false⟩
end Go.Lift.Tok
end

section
namespace Go.Lift.Spell
open Utf Tok
def big : Int := 1000000000000000000
def upM (x : Int) : Nat → Int → Option Int
 | 0, m => some m
 | k + 1, m => if big < m then none else upM x k (m * x)
def fv : Nat → Int → Nat × Int
 | 0, d => (0, d)
 | k + 1, d => if d % 5 = 0 then ((fv k (d / 5)).1 + 1, (fv k (d / 5)).2) else (0, d)
def progN (n d : Int) : Option (Int × Nat) :=
 let a := Go.Lib.ctz 64 d.toNat
 let b := (fv 64 (d / 2 ^ a)).1
 if (fv 64 (d / 2 ^ a)).2 = 1 then ((upM 2 (max a b - a) n).bind (upM 5 (max a b - b))).map fun m => (m, max a b) else none
theorem pow_pos {x : Int} (hx : 0 < x) (k : Nat) : 0 < x ^ k := by
 induction k with
 | zero => simp
 | succ k ih => rw [Int.pow_succ]; exact Int.mul_pos ih hx
def sureR (n d : Int) : Bool := decide (1 ≤ d) && n != -9223372036854775808 && Nat.gcd n.natAbs d.toNat == 1
def mayR (n d : Int) : Bool := (n == 0 && d == 0) || sureR n d
def dgt (m : Int) : List Int := (Go.Lib.decDigits m.toNat).map fun c => (c.toNat : Int)
def numText (below whole : Bool) (m : Int) (p : Nat) : Option (List Int) :=
 if 18 < (core (dgt m)).length then none else
 let t := List.replicate (p + 1 - (dgt m).length) 48 ++ dgt m
 some ((if below = true then [45] else []) ++ (t.take (t.length - p) ++ (if whole = true then [] else 46 :: (t.drop (t.length - p) ++ if p = 0 then [48] else []))))
def plainT (n d : Int) (whole : Bool) : Option (List Int) :=
 if (!(mayR n d) || whole && decide (1 < d)) = true then none
 else if d = 0 then some (if whole = true then List.replicate 20 57 else [49, 101, 57, 57])
 else match progN n.natAbs d with
  | none => none
  | some (m, p) => numText (decide (n < 0)) whole m p
end Go.Lift.Spell
end

section
open Go.Proofs
namespace Go.Lift.D7
variable [MX]
open Utf Tok Spell
set_option maxRecDepth 20000
set_option maxHeartbeats 4000000
theorem wrap_u64 {n : Int} (h0 : 0 ≤ n) (h1 : n ≤ 18446744073709551615) : IntKind.u64.wrap n = n := by
 simp only [IntKind.wrap, IntKind.signed, IntKind.bits]
 simp
 omega
theorem wrap_u64m {n : Int} (h0 : -9223372036854775808 ≤ n) (h1 : n < 0) : IntKind.u64.wrap n = n + 18446744073709551616 := by
 simp only [IntKind.wrap, IntKind.signed, IntKind.bits]
 simp
 omega
section
variable {lo : Nat} {h : Heap}
theorem f60 {n : Int} (h0 : -9223372036854775808 ≤ n) (h1 : n ≤ 9223372036854775807) : E lo 60 [.v (.int .i64 n)] h = some (.v (.int .u64 n.natAbs), h) := by
 rw [e60 (by simp) (by rfl)]
 by_cases hn : n < 0
 ·have q : decide (n < 0) = true := by simp [hn]
  have w1 : IntKind.u64.wrap n = n + 18446744073709551616 := wrap_u64m h0 hn
  have w2 : IntKind.u64.wrap (0 - (n + 18446744073709551616)) = (n.natAbs : Int) := by
   simp only [IntKind.wrap, IntKind.signed, IntKind.bits]
   simp
   omega
  simp only [go_sem, b60, Tryd.f60, q, w1, w2]
  all_goals rfl
 ·have q : decide (n < 0) = false := by simp; omega
  have w1 : IntKind.u64.wrap n = (n.natAbs : Int) := by rw [wrap_u64 (by omega) (by omega)]; omega
  simp only [go_sem, b60, Tryd.f60, q, w1]
  all_goals rfl
theorem tmod_nat (a b : Nat) : ((b : Int).tmod (a : Int)) = ((b % a : Nat) : Int) := by
 rw [Int.tmod_eq_emod_of_nonneg (by omega)]; rfl
theorem loop83 : ∀ (m a b : Nat), a ≤ m → loopW (evCode ⟨Tryd.prog, E, lo, h.length, h83⟩ loopW l83x0) ([(0, .v (.int .u64 a)), (1, .v (.int .u64 b))], h) =
  some (.exit 0, [(0, .v (.int .u64 0)), (1, .v (.int .u64 (Nat.gcd a b))), (6, .v (.bool false))], h) := by
 have stop : ∀ b : Nat, loopW (evCode ⟨Tryd.prog, E, lo, h.length, h83⟩ loopW l83x0) ([(0, .v (.int .u64 (0 : Nat))), (1, .v (.int .u64 b))], h) =
  some (.exit 0, [(0, .v (.int .u64 0)), (1, .v (.int .u64 (Nat.gcd 0 b))), (6, .v (.bool false))], h) := by
  intro b
  have q : (((0 : Nat) : Int) != 0) = false := rfl
  rw [loop_eq, Nat.gcd_zero_left]
  simp only [go_sem, l83x0, b83, Tryd.f83, q]
  all_goals rfl
 intro m
 induction m with
 | zero =>
  intro a b ha
  obtain rfl : a = 0 := by omega
  exact stop b
 | succ m ih =>
  intro a b ha
  by_cases h0 : a = 0
  ·subst h0; exact stop b
  have q : ((a : Int) != 0) = true := by simp; omega
  have z : ¬ ((a : Int) = 0) := by omega
  have t := tmod_nat a b
  have er : evCode ⟨Tryd.prog, E, lo, h.length, h83⟩ loopW l83x0 ([(0, .v (.int .u64 a)), (1, .v (.int .u64 b))], h) = some (.normal, [(0, .v (.int .u64 ((b % a : Nat) : Int))), (1, .v (.int .u64 a))], h) := by
   simp only [go_sem, l83x0, b83, Tryd.f83, q, z, t]
   all_goals rfl
  rw [loop_eq, er, loop_n, ih (b % a) a (by have := Nat.mod_lt b (by omega : 0 < a); omega), Nat.gcd_rec a b]
theorem f83 {a b : Nat} : E lo 83 [.v (.int .u64 a), .v (.int .u64 b)] h = some (.v (.int .u64 (Nat.gcd a b)), h) := by
 have hL := loop83 (lo := lo) (h := h) a a b (Nat.le_refl _)
 simp only [l83x0, b83, Tryd.f83, loopAt, loops, bodyOf, go_sem] at hL
 rw [e83 (by simp) (by rfl)]
 simp only [go_sem, b83, Tryd.f83, hL]
 all_goals rfl
theorem f70 {n d : Int} (h0 : -9223372036854775808 ≤ n) (h1 : n ≤ 9223372036854775807) (h2 : d ≤ 9223372036854775807) (hlo : lo ≤ h.length) :
  E lo 70 [.agg [.v (.int .i64 n), .v (.int .i64 d)]] h = some (.v (.bool (sureR n d)), h) := by
 unfold sureR
 rw [e70 (by simp) (by rfl)]
 by_cases hd : 1 ≤ d
 rotate_left
 ·have q : decide (1 ≤ d) = false := by simp; omega
  rw [q]
  simp only [go_sem, b70, Tryd.f70, q, Bool.false_and]
  all_goals rfl
 have q : decide (1 ≤ d) = true := by simp [hd]
 by_cases hn : n = -9223372036854775808
 ·have q2 : (n != -9223372036854775808) = false := by simp [hn]
  rw [q, q2]
  simp only [go_sem, b70, Tryd.f70, q, q2, Bool.false_and, Bool.and_false]
  all_goals rfl
 have q2 : (n != -9223372036854775808) = true := by simp [hn]
 have w1 : IntKind.u64.wrap d = (d.toNat : Int) := by rw [wrap_u64 (by omega) (by omega)]; omega
 have k1 := fun lo h => f60 (lo := lo) (h := h) h0 h1
 have k2 := fun lo h => f83 (lo := lo) (h := h) (a := n.natAbs) (b := d.toNat)
 have k3 : ((Nat.gcd n.natAbs d.toNat : Int) == 1) = (Nat.gcd n.natAbs d.toNat == 1) := by
  rw [Bool.eq_iff_iff, beq_iff_eq, beq_iff_eq]; omega
 rw [q, q2]
 simp only [go_sem, b70, Tryd.f70, q, q2, w1, k1, k2, k3, hlo, Bool.true_and, Bool.and_true]
 all_goals rfl
theorem fl32 : flatOf Tryd.prog 38 = some [1, 1] := by kernel_rfl
theorem eq_rat (n d x y : Int) : eqCells [1, 1] [.v (.int .i64 n), .v (.int .i64 d)] [.v (.int .i64 x), .v (.int .i64 y)] = some (n == x && d == y) := by
 simp [eqCells, eqS]
theorem f57 {n d : Int} (h0 : -9223372036854775808 ≤ n) (h1 : n ≤ 9223372036854775807) (h2 : d ≤ 9223372036854775807) (hlo : lo ≤ h.length) :
  E lo 57 [.agg [.v (.int .i64 n), .v (.int .i64 d)]] h = some (.v (.bool (mayR n d)), h) := by
 have k := fun lo h hlo => f70 (lo := lo) (h := h) h0 h1 h2 hlo
 have e := eq_rat n d 0 0
 have hlo2 : lo ≤ h.length + 1 := by omega
 unfold mayR
 rw [e57 (by simp) (by rfl)]
 cases q : (n == 0 && d == 0) with
 | true =>
  rw [q] at e
  simp only [go_sem, b57, Tryd.f57, fl32, e, hlo]
  all_goals rfl
 | false =>
  rw [q] at e
  have k' := k lo (h ++ [.cells [.v (.int .i64 n), .v (.int .i64 d)]]) (by simp; omega)
  simp only [go_sem, b57, Tryd.f57, fl32, e, k', hlo, Bool.false_or]
  all_goals rfl
end
end Go.Lift.D7
end

section
namespace Go.Lift.Spell
open Utf Tok
def sound (b : List Int) : Bool := whole b && !b.contains 0
def signs : List Int := [35, 36, 37, 38, 42, 43, 45, 46, 47, 60, 61, 62, 63, 64, 92, 94, 96, 124, 126, 33]
def signT (b : List Int) : Bool := match b with
 | [c] => signs.contains c || (decide (1 ≤ c) && decide (c ≤ 8) || c == 11 || decide (14 ≤ c) && decide (c ≤ 31) || c == 127)
 | _ => false
def looseT (l : List Int) : Bool := match l with
 | [] => false
 | x :: t => dig x || x == 45 && (match t with
  | [] => true
  | y :: _ => dig y)
def mayT (k : Int) (b : List Int) (n d : Int) (w i : Bool) : Bool :=
 if k = 1 ∨ k = 2 ∨ k = 3 then !b.isEmpty && sound b && (n == 0 && d == 0 && !w && !i)
 else if k = 4 then !b.isEmpty && sound b && (i || looseT b) && (n == 0 && d == 0 && !w)
 else if k = 5 ∨ k = 7 then sound b && (n == 0 && d == 0 && !w && !i)
 else if k = 9 then signT b && (n == 0 && d == 0 && !w && !i)
 else if k = 12 then !b.isEmpty && sound b && (plainT n d w).isSome && !i
 else if k = 10 ∨ k = 11 then (plainT n d w).isSome && (b.isEmpty && !i)
 else decide (1 ≤ k ∧ k ≤ 24) && (b.isEmpty && n == 0 && d == 0 && !w && !i)
theorem enc_low {x : Int} (h : x < 128) : enc x = [x] := by unfold enc; rw [if_pos h]
theorem enc_high {x : Int} (h0 : 128 ≤ x) (h1 : x ≤ 1114111) : ∃ c t, enc x = c :: t ∧ t ≠ [] ∧ ∀ y ∈ enc x, 128 ≤ y := by
 unfold enc
 rw [if_neg (by omega)]
 split
 ·exact ⟨_, _, rfl, by simp, by intro y hy; simp at hy; omega⟩
 ·split
  ·exact ⟨_, _, rfl, by simp, by intro y hy; simp at hy; omega⟩
  ·exact ⟨_, _, rfl, by simp, by intro y hy; simp at hy; omega⟩
theorem zero_encs : ∀ l : List Int, (∀ x ∈ l, scal x = x) → (encs l).contains 0 = l.contains 0
 | [], _ => rfl
 | x :: l, h => by
  have ih := zero_encs l fun y hy => h y (by simp [hy])
  have hs := h x (by simp)
  have hb := scal_in x
  rw [hs] at hb
  rw [encs_cons, hs, Bool.eq_iff_iff]
  rw [Bool.eq_iff_iff] at ih
  simp only [List.contains_iff_mem, List.mem_append, List.mem_cons] at ih ⊢
  rw [ih]
  by_cases h1 : x < 128
  ·rw [enc_low h1]; simp
  ·obtain ⟨c, t, e, _, hh⟩ := enc_high (by omega) hb.2
   constructor
   ·rintro (h0 | h0)
    ·have := hh 0 h0; omega
    ·exact .inr h0
   ·rintro (h0 | h0)
    ·omega
    ·exact .inr h0
theorem zero_raw {b : List Int} (hy : By b) (hw : whole b = true) : (raw b).contains 0 = b.contains 0 := by
 have h := zero_encs (raw b) (raw_scal b hy)
 rw [encs_raw b hy hw] at h
 exact h.symm
theorem dig_high {x : Int} (h : 128 ≤ x) : dig x = false := by simp [dig]; omega
end Go.Lift.Spell
end

section
open Go.Proofs
namespace Go.Lift.D7
variable [MX]
open Utf Tok Spell
set_option maxRecDepth 20000
set_option maxHeartbeats 2000000
def bs (l : List Int) : ByteArray := ⟨(u8s l).toArray⟩
theorem bs_size (l : List Int) : (bs l).size = l.length := by simp [bs, ByteArray.size, u8s]
theorem bs_ext (l : List Int) (a b : Nat) : (bs l).extract a b = bs ((l.take b).drop a) := by
 apply ByteArray.ext
 simp only [bs, ByteArray.data_extract]
 apply Array.toList_inj.1
 rw [Array.toList_extract]
 simp only [List.extract, u8s, List.toList_toArray, List.map_drop, List.map_take]
 rw [List.take_drop]
 rcases Nat.le_total a b with h | h
 ·rw [Nat.add_sub_cancel' h]
 ·rw [List.drop_eq_nil_of_le (by simp; omega), List.drop_eq_nil_of_le (by simp; omega)]
theorem bs_app (a b : List Int) : bs a ++ bs b = bs (a ++ b) := by
 apply ByteArray.ext
 simp [bs, u8s]
theorem bs_ix {l : List Int} (hy : By l) (i : Nat) : ((bs l).data[i]?).map (fun c => V.v (.int .u8 c.toNat)) = (l[i]?).map fun c => V.v (.int .u8 c) := by
 simp only [bs, List.getElem?_toArray, u8s, List.getElem?_map]
 cases h : l[i]? with
 | none => rfl
 | some c =>
  have := hy c (List.mem_of_getElem? h)
  simp only [Option.map_some]
  congr 4
  show ((UInt8.ofNat c.toNat).toNat : Int) = c
  simp only [UInt8.toNat_ofNat']
  omega
theorem bs_list (l : List Int) : (bs l).toList = u8s l := by simp [bs, ByteArray.toList_eq]
theorem bs_nil : bs [] = ByteArray.empty := rfl
theorem bs_nil_eq (l : List Int) : ((bs l).toList == (ByteArray.empty).toList) = decide (l = []) := by
 rw [← bs_nil, bs_list, bs_list]
 cases l with
 | nil => rfl
 | cons c t => simp [u8s]
theorem By.take {l : List Int} (h : By l) (n : Nat) : By (l.take n) := fun c hc => h c (List.mem_of_mem_take hc)
theorem By.drop {l : List Int} (h : By l) (n : Nat) : By (l.drop n) := fun c hc => h c (List.mem_of_mem_drop hc)
theorem core_snoc (l : List Int) (c : Int) : core (l ++ [c]) = if c = 48 then core l else l ++ [c] := by
 unfold core
 rw [List.reverse_append]
 simp only [List.reverse_cons, List.reverse_nil, List.nil_append, List.cons_append, List.dropWhile_cons, beq_iff_eq]
 split <;> simp
theorem bytes_bs {l : List Int} (hy : By l) : byteRows (bs l) = ri .u8 l := by
 unfold byteRows bs u8s ri
 simp only [List.map_map]
 apply List.map_congr_left
 intro c hc
 have := hy c hc
 simp only [Function.comp]
 congr 4
 show ((UInt8.ofNat c.toNat).toNat : Int) = c
 simp only [UInt8.toNat_ofNat']
 omega
theorem rep_list (c : UInt8) : ∀ n : Nat, Go.Lib.repeatL [c] n = List.replicate n c
 | 0 => rfl
 | n + 1 => by rw [Go.Lib.repeatL, rep_list c n]; rfl
theorem bs_rep (c : UInt8) (n : Nat) : (⟨(Go.Lib.repeatL [c] n).toArray⟩ : ByteArray) = bs (List.replicate n (c.toNat : Int)) := by
 rw [rep_list]
 unfold bs u8s
 congr 2
 rw [List.map_replicate]
 simp
theorem bs_idx {l : List Int} (hy : By l) {c : Int} (h0 : 0 ≤ c) (h1 : c ≤ 255) : decide (0 ≤ Go.Lib.indexByte (bs l).data.toList c.toNat.toUInt8) = l.contains c := by
 unfold bs
 simp only
 induction l with
 | nil => rfl
 | cons x t ih =>
  have hx := hy x (by simp)
  have ih := ih fun y hy2 => hy y (by simp [hy2])
  have hge := Go.Lib.indexByte_ge (u8s t) c.toNat.toUInt8
  simp only [u8s, List.map_cons, Go.Lib.indexByte, List.contains_cons] at ih hge ⊢
  have e : (UInt8.ofNat x.toNat == c.toNat.toUInt8) = (c == x) := by
   rw [Bool.eq_iff_iff, beq_iff_eq, beq_iff_eq]
   constructor
   ·intro h
    have h2 := congrArg UInt8.toNat h
    simp only [UInt8.toNat_ofNat', Nat.toUInt8_eq] at h2
    omega
   ·rintro rfl
    rfl
  rw [e]
  cases c == x with
  | true => rw [if_pos rfl]; simp
  | false =>
   rw [if_neg (by simp), Bool.false_or, ← ih]
   by_cases h : Go.Lib.indexByte (List.map (fun n => UInt8.ofNat n.toNat) t) c.toNat.toUInt8 = -1
   ·rw [if_pos (by simpa using h)]
    refine decide_eq_decide.2 ⟨fun h9 => by omega, fun h9 => ?_⟩
    have h8 : 0 ≤ Go.Lib.indexByte (List.map (fun n => UInt8.ofNat n.toNat) t) c.toNat.toUInt8 := h9
    omega
   ·rw [if_neg (by simpa using h)]
    refine decide_eq_decide.2 ⟨fun h9 => ?_, fun h9 => ?_⟩
    ·show 0 ≤ Go.Lib.indexByte (List.map (fun n => UInt8.ofNat n.toNat) t) c.toNat.toUInt8
     omega
    ·have h8 : 0 ≤ Go.Lib.indexByte (List.map (fun n => UInt8.ofNat n.toNat) t) c.toNat.toUInt8 := h9
     omega
theorem core_nil : core [] = [] := rfl
theorem loop75 {lo : Nat} {h : Heap} : ∀ (m : Nat) (l : List Int), l.length = m → By l → l.length ≤ 100000000000 →
  loopW (evCode ⟨Tryd.prog, E, lo, h.length, h75⟩ loopW l75x0) ([(0, .v (.string (bs l))), (1, .v (.int .u8 48))], h) =
   some (.exit 0, [(0, .v (.string (bs (core l)))), (1, .v (.int .u8 48)), (16, .v (.bool false))], h) := by
 intro m
 induction m with
 | zero =>
  intro l hm hy hl
  obtain rfl := List.eq_nil_of_length_eq_zero hm
  have hd : decide ((0 : Int) < 0) = false := rfl
  rw [loop_eq]
  simp only [go_sem, l75x0, b75, Tryd.f75, bs_size, hd, core_nil]
 | succ m ih =>
  intro l hm hy hl
  obtain ⟨t, c, rfl⟩ : ∃ t c, l = t ++ [c] := by
   rcases List.eq_nil_or_concat l with h | ⟨t, c, h⟩
   ·rw [h] at hm; cases hm
   ·exact ⟨t, c, by simpa using h⟩
  have hsz : (t ++ [c]).length = t.length + 1 := by simp
  have htm : t.length = m := by omega
  have hd : decide ((0 : Int) < ((t.length + 1 : Nat) : Int)) = true := by simp
  have hc : (t ++ [c])[t.length]? = some c := by simp
  have hw : IntKind.i64.wrap (((t.length + 1 : Nat) : Int) - 1) = (t.length : Int) := by rw [wrap_i64 (by omega) (by omega)]; omega
  have hix := bs_ix hy t.length
  rw [hc] at hix
  have htk : (t ++ [c]).take t.length = t := by simp
  rw [loop_eq, core_snoc]
  cases hb : (c == 48) with
  | false =>
   rw [if_neg (by simpa using hb)]
   simp only [go_sem, l75x0, b75, Tryd.f75, bs_size, hsz, hd, hw, hix, hb]
  | true =>
   rw [if_pos (by simpa using hb)]
   have h1 : t.length ≤ t.length + 1 := by omega
   have e : evCode ⟨Tryd.prog, E, lo, h.length, h75⟩ loopW l75x0 ([(0, .v (.string (bs (t ++ [c])))), (1, .v (.int .u8 48))], h) = some (.normal, [(0, .v (.string (bs t))), (1, .v (.int .u8 48))], h) := by
    simp only [go_sem, l75x0, b75, Tryd.f75, bs_size, hsz, hd, hw, hix, hb, h1, Nat.zero_le, bs_ext, htk]
   rw [e, loop_n]
   exact ih t htm (fun x hx => hy x (by simp [hx])) (by omega)
theorem f75 {lo : Nat} {l : List Int} {h : Heap} (hy : By l) (hl : l.length ≤ 100000000000) : E lo 75 [.v (.string (bs l)), .v (.int .u8 48)] h = some (.v (.string (bs (core l))), h) := by
 have hL := loop75 (lo := lo) (h := h) l.length l rfl hy hl
 rw [e75 (by simp) (by rfl)]
 simp only [l75x0, b75, Tryd.f75, loopAt, loops, bodyOf, go_sem] at hL
 simp only [go_sem, b75, Tryd.f75, hL]
theorem bs_nil_eq' (l : List Int) : ((bs l).toList == (⟨#[]⟩ : ByteArray).toList) = decide (l = []) := bs_nil_eq l
theorem cut48 : ((⟨#[48]⟩ : ByteArray).toList == (⟨#[]⟩ : ByteArray).toList) = false := (bs_nil_eq' [48]).trans (by simp)
theorem f62 {lo : Nat} {l : List Int} {h : Heap} (hy : By l) (hl : l.length ≤ 100000000000) : E lo 62 [.v (.string (bs l)), .v (.string ⟨#[48]⟩)] h = some (.v (.string (bs (core l))), h) := by
 rw [e62 (by simp) (by rfl)]
 cases l with
 | nil =>
  have t1 := bs_nil_eq' []
  simp only [decide_true] at t1
  simp only [go_sem, b62, Tryd.f62, t1]
  rfl
 | cons c t =>
  have t1 := bs_nil_eq' (c :: t)
  rw [decide_eq_false (by simp)] at t1
  have t2 : ((1 : Nat) : Int) = 1 := rfl
  have t3 : ((1 : Int) == 1) = true := rfl
  have t4 : decide ((48 : Int) < 128) = true := rfl
  have t5 : ((UInt8.toNat 48 : Nat) : Int) = 48 := rfl
  have t6 : (⟨#[48]⟩ : ByteArray).size = 1 := rfl
  simp only [go_sem, b62, Tryd.f62, t1, cut48, t2, t3, t4, t5, t6, f75 hy hl]
end Go.Lift.D7
end

section
open Go.Proofs
namespace Go.Lift.D7
variable [MX]
open Utf Tok Spell
set_option maxRecDepth 20000
set_option maxHeartbeats 4000000
section
variable {lo : Nat} {h : Heap}
theorem f74 {x : Int} (h0 : 0 ≤ x) (h1 : x < 18446744073709551616) : E lo 74 [.v (.int .u64 x)] h = some (.v (.int .i64 (Go.Lib.ctz 64 x.toNat)), h) := by
 show ev Tryd.prog hints primz lo 74 _ h = _
 rw [ev_prim (p := ctzP) rfl]
 unfold ctzP
 simp only
 rw [if_pos ⟨h0, h1⟩]
theorem f58 {c : UInt8} {n : Int} (h0 : 0 ≤ n) (h1 : n ≤ 1000000) : E lo 58 [.v (.string ⟨#[c]⟩), .v (.int .i64 n)] h = some (.v (.string (bs (List.replicate n.toNat (c.toNat : Int)))), h) := by
 show ev Tryd.prog hints primz lo 58 _ h = _
 rw [ev_prim (p := repP) rfl]
 unfold repP
 simp only
 rw [if_pos ⟨rfl, h0, h1⟩]
 rw [← bs_rep]
theorem u8s_one {c : Int} : (bs [c]).data.toList = [c.toNat.toUInt8] := rfl
theorem f50 {l : List Int} (hy : By l) {c : Int} (h0 : 0 ≤ c) (h1 : c ≤ 255) :
  E lo 50 [.v (.string (bs l)), .v (.string (bs [c]))] h = some (.v (.int .i64 (Go.Lib.indexByte (bs l).data.toList c.toNat.toUInt8)), h) := by
 show ev Tryd.prog hints primz lo 50 _ h = _
 rw [ev_prim (p := ixP) rfl]
 unfold ixP
 simp only [u8s_one]
theorem f41 {l : List Int} (hy : By l) {c : Int} (h0 : 0 ≤ c) (h1 : c ≤ 255) :
  E lo 41 [.v (.string (bs l)), .v (.string (bs [c]))] h = some (.v (.int .i64 (Go.Lib.indexByte (bs l).data.toList c.toNat.toUInt8)), h) := by
 rw [e41 (by simp) (by rfl)]
 simp only [go_sem, b41, Tryd.f41, f50 hy h0 h1]
 all_goals rfl
theorem f30 {l : List Int} (hy : By l) {c : Int} (h0 : 0 ≤ c) (h1 : c ≤ 255) :
  E lo 30 [.v (.string (bs l)), .v (.string (bs [c]))] h = some (.v (.bool (l.contains c)), h) := by
 rw [e30 (by simp) (by rfl)]
 have t := bs_idx hy h0 h1
 simp only [go_sem, b30, Tryd.f30, f41 hy h0 h1, t]
 all_goals rfl
end
end Go.Lift.D7
end
