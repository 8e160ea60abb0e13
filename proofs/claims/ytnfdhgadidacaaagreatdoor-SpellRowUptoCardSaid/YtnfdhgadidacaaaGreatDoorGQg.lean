/- The program and the reference, evaluated. -/
import Derived.Test.YtnfdhgadidacaaaGreatDoorGZb
import Derived.Test.YtnfdhgadidacaaaGreatDoorGQa
import Derived.Test.YtnfdhgadidacaaaGreatDoorGQd
import Derived.Test.YtnfdhgadidacaaaGreatDoorGQf
section
open Go.Proofs
namespace Go.Lift.R4.T
set_option linter.unusedSectionVars false
variable [MX]
open Utf Tok
set_option maxRecDepth 20000
set_option maxHeartbeats 4000000
set_option linter.unusedSimpArgs false
set_option linter.unusedVariables false
def hdC : Code → Code
 | .seq a _ => a
 | _ => .skip
def cdC : Code → Operand
 | .seq _ (.cond x _ _) => x
 | _ => .const (.bool false)
def thC : Code → Code
 | .seq _ (.cond _ a _) => a
 | _ => .skip
def elC : Code → Code
 | .seq _ (.cond _ _ b) => b
 | _ => .skip
def inC : Code → Code
 | .block _ a => a
 | _ => .skip
def nthC (b : Code) (n : Nat) : Code := ((flat b)[n]?).getD .skip
theorem hd_s (a b : Code) : hdC (.seq a b) = a := rfl
theorem th_s (r : Code) (x : Operand) (a b : Code) : thC (.seq r (.cond x a b)) = a := rfl
theorem el_s (r : Code) (x : Operand) (a b : Code) : elC (.seq r (.cond x a b)) = b := rfl
theorem in_s (id : Nat) (a : Code) : inC (.block id a) = a := rfl
theorem step_if {c : Cx} {lp : LoopF} {N : Code} {s s' : St} {b : Bool} (hN : N = .seq (hdC N) (.cond (cdC N) (thC N) (elC N))) (hR : evCode c lp (hdC N) s = some (.normal, s')) (hx : opd s'.1 (cdC N) = .v (.bool b)) :
  evCode c lp N s = if b = true then evCode c lp (thC N) s' else evCode c lp (elC N) s' := by
 have e1 : evCode c lp N s = evCode c lp (.seq (hdC N) (.cond (cdC N) (thC N) (elC N))) s := congrArg (fun x => evCode c lp x s) hN
 rw [e1, c_seq, hR, then_n, c_cond, hx, cond_b]
noncomputable def n27 : Nat → Code
 | 0 => inC (nthC b27 2)
 | k + 1 => elC (n27 k)
theorem n27_0 : n27 0 = inC (nthC b27 2) := rfl
theorem n27_s (k : Nat) : n27 (k + 1) = elC (n27 k) := rfl
theorem s27 : ∀ k, k ≤ 8 → n27 k = .seq (hdC (n27 k)) (.cond (cdC (n27 k)) (thC (n27 k)) (elC (n27 k))) := by
 intro k hk
 have : k = 0 ∨ k = 1 ∨ k = 2 ∨ k = 3 ∨ k = 4 ∨ k = 5 ∨ k = 6 ∨ k = 7 ∨ k = 8 := by omega
 rcases this with rfl | rfl | rfl | rfl | rfl | rfl | rfl | rfl | rfl <;> rfl
section
variable {lo i j : Nat} {l : List Int} {p q : List Ob}
noncomputable abbrev X27 (lo : Nat) (p q : List Ob) : Cx := ⟨Tryz.prog, E, lo, p.length + (q.length + 1), h27⟩
abbrev H27 (p q : List Ob) (l : List Int) (i : Nat) : Heap := p ++ R l i :: (q ++ [.cells (tokC 0 [])])
abbrev P27 (p q : List Ob) (l : List Int) (i : Nat) (c : Int) (ex : Env) : Env × Heap :=
 ((0, .ptr p.length 0) :: (2, .ptr (p.length + (q.length + 1)) 0) :: (3, .v (.int .i32 c)) :: ex, H27 p q l i)
abbrev ret27 (p q : List Ob) (l : List Int) (j : Nat) (t : Tk) : Option (Ex × Env × Heap) := some (.ret, [(2, .ptr (p.length + (q.length + 1)) 0)], p ++ R l j :: (q ++ [.cells (tkC t)]))
theorem tk27a (hi : i ≤ 100000000000) : evL (X27 lo p q) loopW (pc b27 0 2) (args0 [.ptr p.length 0], p ++ R l i :: q) = some (.normal, P27 p q l i (chr (suf l i) 0) []) := by
 have k0 := fun lo p q => f26 (lo := lo) (l := l) (i := i) (p := p) (q := q) (k := 0) (by omega)
 simp only [n0] at k0
 simp only [go_sem, X27, P27, H27, b27, Tryz.f27, k0, tokC, str_nil]
 all_goals rfl
theorem q0 {c : Int} : evCode (X27 lo p q) loopW (n27 0) (P27 p q l i c []) = if blk c = true then evCode (X27 lo p q) loopW (thC (n27 0)) (P27 p q l i c [(9, .v (.bool true))]) else evCode (X27 lo p q) loopW (n27 1) (P27 p q l i c [(9, .v (.bool false))]) := by
 rw [step_if (s' := P27 p q l i c [(9, .v (.bool (blk c)))]) (b := blk c) (s27 0 (by omega)) ?_ rfl]
 ·cases blk c <;> rfl
 ·simp only [go_sem, n27_0, nthC, hd_s, in_s, X27, P27, H27, b27, Tryz.f27, f57, tokC, str_nil]
theorem q1 {c : Int} {x : V} : evCode (X27 lo p q) loopW (n27 1) (P27 p q l i c [(9, x)]) = if quo c = true then evCode (X27 lo p q) loopW (thC (n27 1)) (P27 p q l i c [(17, .v (.bool true))]) else evCode (X27 lo p q) loopW (n27 2) (P27 p q l i c [(17, .v (.bool false))]) := by
 rw [step_if (s' := P27 p q l i c [(17, .v (.bool (quo c)))]) (b := quo c) (s27 1 (by omega)) ?_ rfl]
 ·cases quo c <;> rfl
 ·simp only [go_sem, n27_0, n27_s, nthC, hd_s, in_s, el_s, X27, P27, H27, b27, Tryz.f27, quo, tokC, str_nil]
theorem plainK_eq (c : Int) : plainK c = plK c := rfl
theorem q2 {c : Int} {x : V} : evCode (X27 lo p q) loopW (n27 2) (P27 p q l i c [(17, x)]) = if 0 < plK c then evCode (X27 lo p q) loopW (thC (n27 2)) (P27 p q l i c [(26, .v (.bool true))]) else evCode (X27 lo p q) loopW (n27 3) (P27 p q l i c [(26, .v (.bool false))]) := by
 rw [step_if (s' := P27 p q l i c [(26, .v (.bool (decide (0 < plK c))))]) (b := decide (0 < plK c)) (s27 2 (by omega)) ?_ rfl]
 ·by_cases h : 0 < plK c
  ·rw [if_pos h, if_pos (by simp [h]), decide_eq_true h]
  ·rw [if_neg h, if_neg (by simp [h]), decide_eq_false h]
   rfl
 ·simp only [go_sem, n27_0, n27_s, nthC, hd_s, in_s, el_s, X27, P27, H27, b27, Tryz.f27, f60, plainK_eq, tokC, str_nil]
theorem num_if (c d e : Int) : ((c == 43 || c == 46 || c == 45 || dig c) && num c d e) = num c d e := by
 cases h : num c d e with
 | false => simp
 | true =>
  rw [Bool.and_true]
  unfold num at h
  split at h
  ·rename_i h2
   simp only [Bool.or_eq_true, beq_iff_eq] at h2 ⊢
   rcases h2 with h2 | h2 <;> simp [h2]
  ·simp only [Bool.or_eq_true, Bool.and_eq_true, beq_iff_eq] at h ⊢
   rcases h with h | h
   ·simp [h]
   ·simp [h.1]
theorem q3 {x : V} (hi : i ≤ 100000000000) : evCode (X27 lo p q) loopW (n27 3) (P27 p q l i (chr (suf l i) 0) [(26, x)]) = if num (chr (suf l i) 0) (chr (suf l i) 1) (chr (suf l i) 2) = true then evCode (X27 lo p q) loopW (thC (n27 3)) (P27 p q l i (chr (suf l i) 0) [(42, .v (.bool true))]) else evCode (X27 lo p q) loopW (n27 4) (P27 p q l i (chr (suf l i) 0) [(42, .v (.bool false))]) := by
 have k0 := fun lo p q => f62 (lo := lo) (l := l) (i := i) (p := p) (q := q) (k := 0) (by omega)
 simp only [n0, Nat.zero_add, Nat.reduceAdd] at k0
 rw [step_if (s' := P27 p q l i (chr (suf l i) 0) [(42, .v (.bool (num (chr (suf l i) 0) (chr (suf l i) 1) (chr (suf l i) 2))))]) (b := num (chr (suf l i) 0) (chr (suf l i) 1) (chr (suf l i) 2)) (s27 3 (by omega)) ?_ rfl]
 ·cases num (chr (suf l i) 0) (chr (suf l i) 1) (chr (suf l i) 2) <;> rfl
 ·have hS := num_if (chr (suf l i) 0) (chr (suf l i) 1) (chr (suf l i) 2)
  generalize num (chr (suf l i) 0) (chr (suf l i) 1) (chr (suf l i) 2) = b at *
  generalize chr (suf l i) 0 = c at *
  cases hb : b with
  | false =>
   rw [hb] at k0
   cases h1 : (c == 43) <;> cases h2 : (c == 46) <;> cases h3 : (c == 45) <;> cases h4 : dig c <;> simp only [go_sem, n27_0, n27_s, nthC, hd_s, in_s, el_s, X27, P27, H27, b27, Tryz.f27, k0, f61, h1, h2, h3, h4, tokC, str_nil]
  | true =>
   rw [hb] at k0 hS
   cases h1 : (c == 43) <;> cases h2 : (c == 46) <;> cases h3 : (c == 45) <;> cases h4 : dig c <;>
    first
    | (exfalso; simp [h1, h2, h3, h4] at hS; done)
    | simp only [go_sem, n27_0, n27_s, nthC, hd_s, in_s, el_s, X27, P27, H27, b27, Tryz.f27, k0, f61, h1, h2, h3, h4, tokC, str_nil]
theorem isN3 (s : List Int) (a b c : Int) : isN s 0 [a, b, c] = (chr s 0 == a && (chr s 1 == b && chr s 2 == c)) := by simp [isN]
theorem isN4 (s : List Int) (a b c d : Int) : isN s 0 [a, b, c, d] = (chr s 0 == a && (chr s 1 == b && (chr s 2 == c && chr s 3 == d))) := by simp [isN]
theorem q4 {c : Int} {x : V} (hi : i ≤ 100000000000) : evCode (X27 lo p q) loopW (n27 4) (P27 p q l i c [(42, x)]) = if chr (suf l i) 0 = 45 ∧ chr (suf l i) 1 = 45 ∧ chr (suf l i) 2 = 62 then evCode (X27 lo p q) loopW (thC (n27 4)) (P27 p q l i c [(65, .v (.bool true))]) else evCode (X27 lo p q) loopW (n27 5) (P27 p q l i c [(65, .v (.bool false))]) := by
 have ks := fun lo p q => f56 (lo := lo) (l := l) (i := i) (p := p) (q := q) (cs := [45, 45, 62]) (by simp; omega)
 simp only [ri_cons, ri_nil, isN3] at ks
 rw [step_if (s' := P27 p q l i c [(65, .v (.bool (chr (suf l i) 0 == 45 && (chr (suf l i) 1 == 45 && chr (suf l i) 2 == 62))))]) (b := (chr (suf l i) 0 == 45 && (chr (suf l i) 1 == 45 && chr (suf l i) 2 == 62))) (s27 4 (by omega)) ?_ rfl]
 ·by_cases h : chr (suf l i) 0 = 45 ∧ chr (suf l i) 1 = 45 ∧ chr (suf l i) 2 = 62
  ·rw [if_pos h, if_pos (by simp [h])]
   simp only [h]
   rfl
  ·have hb : (chr (suf l i) 0 == 45 && (chr (suf l i) 1 == 45 && chr (suf l i) 2 == 62)) = false := by
    rw [Bool.eq_false_iff]; simpa using h
   rw [if_neg h, hb]
   rfl
 ·simp only [go_sem, n27_0, n27_s, nthC, hd_s, in_s, el_s, X27, P27, H27, b27, Tryz.f27, ks, tokC, str_nil]
theorem q5 {c : Int} {x : V} (hi : i ≤ 100000000000) : evCode (X27 lo p q) loopW (n27 5) (P27 p q l i c [(65, x)]) = if chr (suf l i) 0 = 60 ∧ chr (suf l i) 1 = 33 ∧ chr (suf l i) 2 = 45 ∧ chr (suf l i) 3 = 45 then evCode (X27 lo p q) loopW (thC (n27 5)) (P27 p q l i c [(81, .v (.bool true))]) else evCode (X27 lo p q) loopW (n27 6) (P27 p q l i c [(81, .v (.bool false))]) := by
 have ks := fun lo p q => f56 (lo := lo) (l := l) (i := i) (p := p) (q := q) (cs := [60, 33, 45, 45]) (by simp; omega)
 simp only [ri_cons, ri_nil, isN4] at ks
 rw [step_if (s' := P27 p q l i c [(81, .v (.bool (chr (suf l i) 0 == 60 && (chr (suf l i) 1 == 33 && (chr (suf l i) 2 == 45 && chr (suf l i) 3 == 45)))))]) (b := (chr (suf l i) 0 == 60 && (chr (suf l i) 1 == 33 && (chr (suf l i) 2 == 45 && chr (suf l i) 3 == 45)))) (s27 5 (by omega)) ?_ rfl]
 ·by_cases h : chr (suf l i) 0 = 60 ∧ chr (suf l i) 1 = 33 ∧ chr (suf l i) 2 = 45 ∧ chr (suf l i) 3 = 45
  ·rw [if_pos h, if_pos (by simp [h])]
   simp only [h]
   rfl
  ·have hb : (chr (suf l i) 0 == 60 && (chr (suf l i) 1 == 33 && (chr (suf l i) 2 == 45 && chr (suf l i) 3 == 45))) = false := by
    rw [Bool.eq_false_iff]; simpa using h
   rw [if_neg h, hb]
   rfl
 ·simp only [go_sem, n27_0, n27_s, nthC, hd_s, in_s, el_s, X27, P27, H27, b27, Tryz.f27, ks, tokC, str_nil]
theorem q6 {c : Int} {x : V} (hi : i ≤ 100000000000) : evCode (X27 lo p q) loopW (n27 6) (P27 p q l i c [(81, x)]) = if c = 35 ∧ (ltr (chr (suf l i) 1) || esc (chr (suf l i) 1) (chr (suf l i) 2)) = true then evCode (X27 lo p q) loopW (thC (n27 6)) (P27 p q l i c [(97, .v (.bool true))]) else evCode (X27 lo p q) loopW (n27 7) (P27 p q l i c [(97, .v (.bool false))]) := by
 have k1 := fun lo p q => f26 (lo := lo) (l := l) (i := i) (p := p) (q := q) (k := 1) (by omega)
 have ke := fun lo p q => f65 (lo := lo) (l := l) (i := i) (p := p) (q := q) (k := 1) (by omega)
 have n1 : ((1 : Nat) : Int) = 1 := rfl
 simp only [n1, Nat.reduceAdd] at k1 ke
 rw [step_if (s' := P27 p q l i c [(97, .v (.bool (c == 35 && (ltr (chr (suf l i) 1) || esc (chr (suf l i) 1) (chr (suf l i) 2)))))]) (b := (c == 35 && (ltr (chr (suf l i) 1) || esc (chr (suf l i) 1) (chr (suf l i) 2)))) (s27 6 (by omega)) ?_ rfl]
 ·cases hb : (c == 35 && (ltr (chr (suf l i) 1) || esc (chr (suf l i) 1) (chr (suf l i) 2))) with
  | true => rw [if_pos rfl, if_pos (by simpa using hb)]
  | false =>
   rw [if_neg (by simp), if_neg (by intro h; rw [Bool.and_eq_false_iff] at hb; rcases hb with hb | hb; simp [h.1] at hb; rw [h.2] at hb; cases hb)]
   rfl
 ·cases h1 : (c == 35) <;> cases h2 : ltr (chr (suf l i) 1) <;>
   simp only [go_sem, n27_0, n27_s, nthC, hd_s, in_s, el_s, X27, P27, H27, b27, Tryz.f27, k1, ke, f64, h1, h2, Bool.true_and, Bool.false_and, Bool.true_or, Bool.false_or, tokC, str_nil]
abbrev Q27 (p q : List Ob) (l : List Int) (i : Nat) (ex : Env) : Env × Heap := ((0, .ptr p.length 0) :: (2, .ptr (p.length + (q.length + 1)) 0) :: ex, H27 p q l i)
theorem q7 {c : Int} {x : V} (hi : i ≤ 100000000000) : evCode (X27 lo p q) loopW (n27 7) (P27 p q l i c [(97, x)]) = if c = 64 ∧ beg (chr (suf l i) 1) (chr (suf l i) 2) (chr (suf l i) 3) = true then evCode (X27 lo p q) loopW (thC (n27 7)) (Q27 p q l i [(132, .v (.bool true))]) else evCode (X27 lo p q) loopW (n27 8) (Q27 p q l i [(132, .v (.bool false))]) := by
 have ke := fun lo p q => f66 (lo := lo) (l := l) (i := i) (p := p) (q := q) (k := 1) (by omega)
 have n1 : ((1 : Nat) : Int) = 1 := rfl
 simp only [n1, Nat.reduceAdd] at ke
 rw [step_if (s' := Q27 p q l i [(132, .v (.bool (c == 64 && beg (chr (suf l i) 1) (chr (suf l i) 2) (chr (suf l i) 3))))]) (b := (c == 64 && beg (chr (suf l i) 1) (chr (suf l i) 2) (chr (suf l i) 3))) (s27 7 (by omega)) ?_ rfl]
 ·cases hb : (c == 64 && beg (chr (suf l i) 1) (chr (suf l i) 2) (chr (suf l i) 3)) with
  | true => rw [if_pos rfl, if_pos (by simpa using hb)]
  | false =>
   rw [if_neg (by simp), if_neg (by intro h; rw [Bool.and_eq_false_iff] at hb; rcases hb with hb | hb; simp [h.1] at hb; rw [h.2] at hb; cases hb)]
   rfl
 ·cases h1 : (c == 64) <;>
   simp only [go_sem, n27_0, n27_s, nthC, hd_s, in_s, el_s, X27, P27, H27, b27, Tryz.f27, Q27, ke, h1, Bool.true_and, Bool.false_and, tokC, str_nil]
theorem q8 {x : V} (hi : i ≤ 100000000000) : evCode (X27 lo p q) loopW (n27 8) (Q27 p q l i [(132, x)]) = if beg (chr (suf l i) 0) (chr (suf l i) 1) (chr (suf l i) 2) = true then evCode (X27 lo p q) loopW (thC (n27 8)) (Q27 p q l i [(155, .v (.bool true))]) else some (.normal, Q27 p q l i [(155, .v (.bool false))]) := by
 have ke := fun lo p q => f66 (lo := lo) (l := l) (i := i) (p := p) (q := q) (k := 0) (by omega)
 simp only [n0, Nat.zero_add, Nat.reduceAdd] at ke
 rw [step_if (s' := Q27 p q l i [(155, .v (.bool (beg (chr (suf l i) 0) (chr (suf l i) 1) (chr (suf l i) 2))))]) (b := beg (chr (suf l i) 0) (chr (suf l i) 1) (chr (suf l i) 2)) (s27 8 (by omega)) ?_ rfl]
 ·cases beg (chr (suf l i) 0) (chr (suf l i) 1) (chr (suf l i) 2) <;> rfl
 ·simp only [go_sem, n27_0, n27_s, nthC, hd_s, in_s, el_s, X27, P27, H27, b27, Tryz.f27, Q27, ke, tokC, str_nil]
theorem a0 {c : Int} {x : V} (hl : l.length ≤ 100000000000) (hi : i ≤ l.length) : ∃ j, j ≤ l.length ∧ suf l j = blanks (suf l i) ∧ ∀ lo p q, lo ≤ p.length → lo ≤ p.length + (q.length + 1) →
  evCode (X27 lo p q) loopW (thC (n27 0)) (P27 p q l i c [(9, x)]) = ret27 p q l j (tk 13 []) := by
 obtain ⟨j, a1, a2, a3, a4⟩ := f58 (l := l) (i := i) hl hi
 refine ⟨j, a1, a3, fun lo p q hlo hlo2 => ?_⟩
 simp only [go_sem, n27_0, n27_s, nthC, th_s, in_s, el_s, X27, P27, H27, ret27, b27, Tryz.f27, a4 _ _ _ hlo, hlo2, tokC, tkC, tk, str_nil]
 all_goals rfl
theorem txtT_eq (x : Bool × List Int × List Int) : (if x.1 = true then tokC 5 x.2.1 else tokC 6 []) = tkC (txtT x) := by
 unfold txtT
 cases x.1 <;> rfl
theorem a1 {c : Int} {t : List Int} {x : V} (hl : l.length ≤ 100000000000) (hi : i < l.length) (hq : quo c = true) (hs : suf l i = c :: t) : ∃ j, j ≤ l.length ∧ suf l j = (txt c t).2.2 ∧ ∀ lo p q, lo ≤ p.length → lo ≤ p.length + (q.length + 1) →
  evCode (X27 lo p q) loopW (thC (n27 1)) (P27 p q l i c [(17, x)]) = ret27 p q l j (txtT (txt c t)) := by
 obtain ⟨j, a1, a2, a3, a4⟩ := f59 (l := l) (i := i) hl hi hq hs
 simp only [txtT_eq, tkC] at a4
 refine ⟨j, a1, a3, fun lo p q hlo hlo2 => ?_⟩
 simp only [go_sem, n27_0, n27_s, nthC, th_s, in_s, el_s, X27, P27, H27, ret27, b27, Tryz.f27, a4 _ _ _ hlo, hlo2, tokC, tkC, str_nil]
 all_goals rfl
theorem a2 {c : Int} {x : V} (hl : i ≤ 100000000000) : ∀ lo p q, lo ≤ p.length → lo ≤ p.length + (q.length + 1) →
  evCode (X27 lo p q) loopW (thC (n27 2)) (P27 p q l i c [(26, x)]) = ret27 p q l (i + 1) (tk (plK c) []) := by
 have hw1 : IntKind.i64.wrap ((i : Int) + 1) = ((i + 1 : Nat) : Int) := wrap_succ (by omega)
 intro lo p q hlo hlo2
 simp only [go_sem, n27_0, n27_s, nthC, th_s, in_s, el_s, X27, P27, H27, ret27, b27, Tryz.f27, f60, plainK_eq, hw1, hlo, hlo2, tokC, tkC, tk, str_nil]
 all_goals rfl
theorem a3 {c : Int} {x : V} (hl : l.length ≤ 100000000000) (hi : i ≤ l.length) (hn : num (chr (suf l i) 0) (chr (suf l i) 1) (chr (suf l i) 2) = true) : ∃ j, j ≤ l.length ∧ suf l j = (figure (suf l i)).2 ∧ ∀ lo p q, lo ≤ p.length → lo ≤ p.length + (q.length + 1) →
  evCode (X27 lo p q) loopW (thC (n27 3)) (P27 p q l i c [(42, x)]) = ret27 p q l j (figure (suf l i)).1 := by
 obtain ⟨j, a1, a2, a3, a4⟩ := f63 (l := l) (i := i) hl hi hn
 simp only [tkC] at a4
 refine ⟨j, a1, a3, fun lo p q hlo hlo2 => ?_⟩
 simp only [go_sem, n27_0, n27_s, nthC, th_s, in_s, el_s, X27, P27, H27, ret27, b27, Tryz.f27, a4 _ _ _ hlo, hlo2, tokC, tkC, str_nil]
 all_goals rfl
theorem a4 {c : Int} {x : V} (hl : i ≤ 100000000000) : ∀ lo p q, lo ≤ p.length → lo ≤ p.length + (q.length + 1) →
  evCode (X27 lo p q) loopW (thC (n27 4)) (P27 p q l i c [(65, x)]) = ret27 p q l (i + 3) (tk 15 []) := by
 have hw1 : IntKind.i64.wrap ((i : Int) + 3) = ((i + 3 : Nat) : Int) := by rw [wrap_i64 (by omega) (by omega)]; omega
 intro lo p q hlo hlo2
 simp only [go_sem, n27_0, n27_s, nthC, th_s, in_s, el_s, X27, P27, H27, ret27, b27, Tryz.f27, hw1, hlo, hlo2, tokC, tkC, tk, str_nil]
 all_goals rfl
theorem a5 {c : Int} {x : V} (hl : i ≤ 100000000000) : ∀ lo p q, lo ≤ p.length → lo ≤ p.length + (q.length + 1) →
  evCode (X27 lo p q) loopW (thC (n27 5)) (P27 p q l i c [(81, x)]) = ret27 p q l (i + 4) (tk 14 []) := by
 have hw1 : IntKind.i64.wrap ((i : Int) + 4) = ((i + 4 : Nat) : Int) := by rw [wrap_i64 (by omega) (by omega)]; omega
 intro lo p q hlo hlo2
 simp only [go_sem, n27_0, n27_s, nthC, th_s, in_s, el_s, X27, P27, H27, ret27, b27, Tryz.f27, hw1, hlo, hlo2, tokC, tkC, tk, str_nil]
 all_goals rfl
theorem a6 {c : Int} {x : V} (hl : l.length ≤ 100000000000) (hi : i < l.length) : ∃ j, j ≤ l.length ∧ suf l j = (name ((suf l i).drop 1)).2 ∧ ∀ lo p q, lo ≤ p.length → lo ≤ p.length + (q.length + 1) →
  evCode (X27 lo p q) loopW (thC (n27 6)) (P27 p q l i c [(97, x)]) = ret27 p q l j ⟨4, (name ((suf l i).drop 1)).1, (0, 0), false, beg (chr (suf l i) 1) (chr (suf l i) 2) (chr (suf l i) 3)⟩ := by
 have hw1 : IntKind.i64.wrap ((i : Int) + 1) = ((i + 1 : Nat) : Int) := wrap_succ (by omega)
 have ke := fun lo p q => f66 (lo := lo) (l := l) (i := i) (p := p) (q := q) (k := 1) (by omega)
 have n1 : ((1 : Nat) : Int) = 1 := rfl
 simp only [n1, Nat.reduceAdd] at ke
 obtain ⟨j, a1, a2, a3, a4⟩ := f67 (l := l) (i := i + 1) hl (by omega)
 have e1 : suf l (i + 1) = (suf l i).drop 1 := by simp [suf, List.drop_drop]
 rw [e1] at a3 a4
 refine ⟨j, a1, a3, fun lo p q hlo hlo2 => ?_⟩
 simp only [go_sem, n27_0, n27_s, nthC, th_s, in_s, el_s, X27, P27, H27, ret27, b27, Tryz.f27, ke, hw1, a4 _ _ _ hlo, hlo, hlo2, tokC, tkC, str_nil]
 all_goals rfl
theorem a7 {x : V} (hl : l.length ≤ 100000000000) (hi : i < l.length) : ∃ j, j ≤ l.length ∧ suf l j = (name ((suf l i).drop 1)).2 ∧ ∀ lo p q, lo ≤ p.length → lo ≤ p.length + (q.length + 1) →
  evCode (X27 lo p q) loopW (thC (n27 7)) (Q27 p q l i [(132, x)]) = ret27 p q l j (tk 3 (name ((suf l i).drop 1)).1) := by
 have hw1 : IntKind.i64.wrap ((i : Int) + 1) = ((i + 1 : Nat) : Int) := wrap_succ (by omega)
 obtain ⟨j, a1, a2, a3, a4⟩ := f67 (l := l) (i := i + 1) hl (by omega)
 have e1 : suf l (i + 1) = (suf l i).drop 1 := by simp [suf, List.drop_drop]
 rw [e1] at a3 a4
 refine ⟨j, a1, a3, fun lo p q hlo hlo2 => ?_⟩
 simp only [go_sem, n27_0, n27_s, nthC, th_s, in_s, el_s, X27, P27, H27, ret27, b27, Tryz.f27, Q27, hw1, a4 _ _ _ hlo, hlo, hlo2, tokC, tkC, tk, str_nil]
 all_goals rfl
theorem a8 {x : V} (hl : l.length ≤ 100000000000) (hi : i ≤ l.length) : ∃ j, j ≤ l.length ∧ suf l j = (word (suf l i)).2 ∧ ∀ lo p q, lo ≤ p.length → lo ≤ p.length + (q.length + 1) →
  evCode (X27 lo p q) loopW (thC (n27 8)) (Q27 p q l i [(155, x)]) = ret27 p q l j (word (suf l i)).1 := by
 obtain ⟨j, a1, a2, a3, a4⟩ := f68 (l := l) (i := i) hl hi
 simp only [tkC] at a4
 refine ⟨j, a1, a3, fun lo p q hlo hlo2 => ?_⟩
 simp only [go_sem, n27_0, n27_s, nthC, th_s, in_s, el_s, X27, P27, H27, ret27, b27, Tryz.f27, Q27, a4 _ _ _ hlo, hlo2, tokC, tkC, str_nil]
 all_goals rfl
theorem a9 {x : V} (hi : i ≤ 100000000000) : ∀ lo p q, lo ≤ p.length → lo ≤ p.length + (q.length + 1) →
  evL (X27 lo p q) loopW (pc b27 3 2) (Q27 p q l i [(155, x)]) = ret27 p q l (i + 1) (tk 9 [chr (suf l i) 0]) := by
 have kt := fun lo p q hlo => f70 (lo := lo) (l := l) (i := i) (p := p) (q := q) hlo (by omega)
 have k69 := fun lo h => f69e (lo := lo) (l := [chr (suf l i) 0]) (h := h) (by simp)
 have es : (⟨(u8s (encs [chr (suf l i) 0])).toArray⟩ : ByteArray) = str [chr (suf l i) 0] := rfl
 simp only [ri_cons, ri_nil] at k69
 intro lo p q hlo hlo2
 simp only [go_sem, X27, Q27, H27, ret27, b27, Tryz.f27, kt _ _ _ hlo, k69, es, hlo2, tokC, tkC, tk, str_nil]
 all_goals rfl
theorem fl27 : flat b27 = [nthC b27 0, nthC b27 1, .block 0 (n27 0), nthC b27 3, nthC b27 4] := rfl
theorem f27 (hl : l.length ≤ 100000000000) (hi : i < l.length) : ∃ j, j ≤ l.length ∧ suf l j = (token (suf l i)).2 ∧
  ∀ lo p q, lo ≤ p.length → E lo 27 [.ptr p.length 0] (p ++ R l i :: q) = some (.agg (tkC (token (suf l i)).1), p ++ R l j :: q) := by
 have hH : ∀ p q : List Ob, (p ++ R l i :: q).length = p.length + (q.length + 1) := fun p q => by simp
 have hin : i ≤ 100000000000 := by omega
 have fin_ : ∀ (j : Nat) (t : Tk), (∀ lo p q, lo ≤ p.length → lo ≤ p.length + (q.length + 1) → evCode (X27 lo p q) loopW (n27 0) (P27 p q l i (chr (suf l i) 0) []) = ret27 p q l j t) →
   ∀ lo p q, lo ≤ p.length → E lo 27 [.ptr p.length 0] (p ++ R l i :: q) = some (.agg (tkC t), p ++ R l j :: q) := by
  intro j t hq lo p q hlo
  rw [e27 (by simp) (by rfl), hH, pc_in, pc_go _ _ _ _ 0 2, tk27a hin, pc_go _ _ _ _ _ 1]
  have hB : evL (X27 lo p q) loopW (pc b27 2 1) (P27 p q l i (chr (suf l i) 0) []) = ret27 p q l j t := by
   unfold pc
   rw [fl27]
   show evL (X27 lo p q) loopW [.block 0 (n27 0)] _ = _
   rw [one_l, c_block, hq lo p q hlo (by omega)]
   rfl
  rw [hB, ret27, pc_r]
  exact fin81
 have fin2 : (∀ lo p q, lo ≤ p.length → lo ≤ p.length + (q.length + 1) → evCode (X27 lo p q) loopW (n27 0) (P27 p q l i (chr (suf l i) 0) []) = some (.normal, Q27 p q l i [(155, .v (.bool false))])) →
   ∀ lo p q, lo ≤ p.length → E lo 27 [.ptr p.length 0] (p ++ R l i :: q) = some (.agg (tkC (tk 9 [chr (suf l i) 0])), p ++ R l (i + 1) :: q) := by
  intro hq lo p q hlo
  rw [e27 (by simp) (by rfl), hH, pc_in, pc_go _ _ _ _ 0 2, tk27a hin, pc_go _ _ _ _ _ 1]
  have hB : evL (X27 lo p q) loopW (pc b27 2 1) (P27 p q l i (chr (suf l i) 0) []) = some (.normal, Q27 p q l i [(155, .v (.bool false))]) := by
   unfold pc
   rw [fl27]
   show evL (X27 lo p q) loopW [.block 0 (n27 0)] _ = _
   rw [one_l, c_block, hq lo p q hlo (by omega)]
   rfl
  rw [hB, pc_go _ _ _ _ _ 2, a9 hin lo p q hlo (by omega), ret27, pc_r]
  exact fin81
 have hd1 : ∀ k, suf l (i + k) = (suf l i).drop k := fun k => by simp [suf, List.drop_drop]
 have hgt : ∀ k c, chr (suf l i) k = c → c ≠ -1 → i + k < l.length := fun k c h hc => by
  rcases Nat.lt_or_ge (i + k) l.length with h2 | h2
  ·exact h2
  ·exfalso
   have : (suf l i)[k]? = none := List.getElem?_eq_none (by rw [suf_len]; omega)
   simp only [chr, this] at h
   exact hc h.symm
 unfold token
 simp only
 by_cases h0 : blk (chr (suf l i) 0) = true
 ·obtain ⟨j, a1, a2, a3⟩ := a0 (c := chr (suf l i) 0) (x := .v (.bool true)) hl (Nat.le_of_lt hi)
  rw [if_pos h0]
  exact ⟨j, a1, a2, fin_ j _ fun lo p q hlo hlo2 => by rw [q0, if_pos h0, a3 lo p q hlo hlo2]⟩
 rw [if_neg h0]
 by_cases h1 : quo (chr (suf l i) 0) = true
 ·obtain ⟨j, b1, b2, b3⟩ := a1 (x := .v (.bool true)) hl hi h1 (suf_next hi)
  rw [if_pos h1, ← hd1]
  exact ⟨j, b1, b2, fin_ j _ fun lo p q hlo hlo2 => by rw [q0, if_neg h0, q1, if_pos h1, b3 lo p q hlo hlo2]⟩
 rw [if_neg h1]
 by_cases h2 : 0 < plK (chr (suf l i) 0)
 ·rw [if_pos h2]
  exact ⟨i + 1, by omega, hd1 1, fin_ (i + 1) _ fun lo p q hlo hlo2 => by rw [q0, if_neg h0, q1, if_neg h1, q2, if_pos h2, a2 hin lo p q hlo hlo2]⟩
 rw [if_neg h2]
 by_cases h3 : num (chr (suf l i) 0) (chr (suf l i) 1) (chr (suf l i) 2) = true
 ·obtain ⟨j, b1, b2, b3⟩ := a3 (c := chr (suf l i) 0) (x := .v (.bool true)) hl (Nat.le_of_lt hi) h3
  rw [if_pos h3]
  exact ⟨j, b1, b2, fin_ j _ fun lo p q hlo hlo2 => by rw [q0, if_neg h0, q1, if_neg h1, q2, if_neg h2, q3 hin, if_pos h3, b3 lo p q hlo hlo2]⟩
 rw [if_neg h3]
 by_cases h4 : chr (suf l i) 0 = 45 ∧ chr (suf l i) 1 = 45 ∧ chr (suf l i) 2 = 62
 ·have := hgt 2 62 h4.2.2 (by decide)
  rw [if_pos h4]
  exact ⟨i + 3, by omega, hd1 3, fin_ (i + 3) _ fun lo p q hlo hlo2 => by rw [q0, if_neg h0, q1, if_neg h1, q2, if_neg h2, q3 hin, if_neg h3, q4 hin, if_pos h4, a4 hin lo p q hlo hlo2]⟩
 rw [if_neg h4]
 by_cases h5 : chr (suf l i) 0 = 60 ∧ chr (suf l i) 1 = 33 ∧ chr (suf l i) 2 = 45 ∧ chr (suf l i) 3 = 45
 ·have := hgt 3 45 h5.2.2.2 (by decide)
  rw [if_pos h5]
  exact ⟨i + 4, by omega, hd1 4, fin_ (i + 4) _ fun lo p q hlo hlo2 => by rw [q0, if_neg h0, q1, if_neg h1, q2, if_neg h2, q3 hin, if_neg h3, q4 hin, if_neg h4, q5 hin, if_pos h5, a5 hin lo p q hlo hlo2]⟩
 rw [if_neg h5]
 by_cases h6 : chr (suf l i) 0 = 35 ∧ (ltr (chr (suf l i) 1) || esc (chr (suf l i) 1) (chr (suf l i) 2)) = true
 ·obtain ⟨j, b1, b2, b3⟩ := a6 (c := chr (suf l i) 0) (x := .v (.bool true)) hl hi
  rw [if_pos h6]
  exact ⟨j, b1, b2, fin_ j _ fun lo p q hlo hlo2 => by rw [q0, if_neg h0, q1, if_neg h1, q2, if_neg h2, q3 hin, if_neg h3, q4 hin, if_neg h4, q5 hin, if_neg h5, q6 hin, if_pos h6, b3 lo p q hlo hlo2]⟩
 rw [if_neg h6]
 by_cases h7 : chr (suf l i) 0 = 64 ∧ beg (chr (suf l i) 1) (chr (suf l i) 2) (chr (suf l i) 3) = true
 ·obtain ⟨j, b1, b2, b3⟩ := a7 (x := .v (.bool true)) hl hi
  rw [if_pos h7]
  exact ⟨j, b1, b2, fin_ j _ fun lo p q hlo hlo2 => by rw [q0, if_neg h0, q1, if_neg h1, q2, if_neg h2, q3 hin, if_neg h3, q4 hin, if_neg h4, q5 hin, if_neg h5, q6 hin, if_neg h6, q7 hin, if_pos h7, b3 lo p q hlo hlo2]⟩
 rw [if_neg h7]
 by_cases h8 : beg (chr (suf l i) 0) (chr (suf l i) 1) (chr (suf l i) 2) = true
 ·obtain ⟨j, b1, b2, b3⟩ := a8 (x := .v (.bool true)) hl (Nat.le_of_lt hi)
  rw [if_pos h8]
  exact ⟨j, b1, b2, fin_ j _ fun lo p q hlo hlo2 => by rw [q0, if_neg h0, q1, if_neg h1, q2, if_neg h2, q3 hin, if_neg h3, q4 hin, if_neg h4, q5 hin, if_neg h5, q6 hin, if_neg h6, q7 hin, if_neg h7, q8 hin, if_pos h8, b3 lo p q hlo hlo2]⟩
 rw [if_neg h8]
 exact ⟨i + 1, by omega, hd1 1, fin2 fun lo p q hlo hlo2 => by rw [q0, if_neg h0, q1, if_neg h1, q2, if_neg h2, q3 hin, if_neg h3, q4 hin, if_neg h4, q5 hin, if_neg h5, q6 hin, if_neg h6, q7 hin, if_neg h7, q8 hin, if_neg h8]⟩
end
end Go.Lift.R4.T
end

section
open Go.Proofs
namespace Go.Lift.R4.T
set_option linter.unusedSectionVars false
variable [MX]
open Utf Tok
set_option maxRecDepth 20000
set_option maxHeartbeats 4000000
set_option linter.unusedSimpArgs false
set_option linter.unusedVariables false
theorem ibr_tk (ts : List Tk) : isByteRow (ts.map tkC) = false := by cases ts <;> rfl
theorem tk_all (ts : List Tk) : ((ts.map tkC).all fun x => x.length == 6) = true := by
 rw [List.all_eq_true]
 intro x hx
 obtain ⟨t, _, rfl⟩ := List.mem_map.1 hx
 rfl
theorem toksN_nil (n : Nat) : toksN n [] = [] := by
 cases n with
 | zero => rfl
 | succ n => simp only [toksN]; rw [if_pos (show rems [] = [] from rfl)]
section
variable {lo i j : Nat} {l : List Int} {h : Heap}
noncomputable abbrev X12 (lo : Nat) (h : Heap) : Cx := ⟨Tryz.prog, E, lo, h.length, h12⟩
theorem loop12 (hl : l.length ≤ 100000000000) : ∀ (m i : Nat) (out : List Tk), (suf l i).length ≤ m → i ≤ l.length → out.length + (suf l i).length ≤ l.length →
  ∃ j, ∀ lo (h : Heap), lo ≤ h.length → loopW (evCode (X12 lo h) loopW l12x0) ([(3, .ptr h.length 0), (4, .list .yes (out.map tkC))], h ++ [R l i]) =
   some (.ret, [(2, .list .no ((out ++ toksN m (suf l i)).map tkC))], h ++ [R l j]) := by
 have stop : ∀ (i : Nat) (out : List Tk), i ≤ l.length → rems (suf l i) = [] → ∃ j, ∀ lo (h : Heap), lo ≤ h.length → loopW (evCode (X12 lo h) loopW l12x0) ([(3, .ptr h.length 0), (4, .list .yes (out.map tkC))], h ++ [R l i]) =
   some (.ret, [(2, .list .no (out.map tkC))], h ++ [R l j]) := by
  intro i out hi hr
  obtain ⟨j, a1, a2, a3, a4⟩ := f25 (l := l) (i := i) hl hi
  rw [hr] at a3
  have k0 := fun lo p q => f26 (lo := lo) (l := l) (i := j) (p := p) (q := q) (k := 0) (by omega)
  have t : ((-1 : Int) == -1) = true := rfl
  simp only [n0, a3, chr_nil] at k0
  refine ⟨j, fun lo h hlo => ?_⟩
  rw [loop_eq]
  simp only [go_sem, X12, l12x0, b12, Tryz.f12, a4 _ _ _ hlo, k0, t]
  all_goals rfl
 intro m
 induction m with
 | zero =>
  intro i out h1 h2 h3
  have hs : suf l i = [] := List.eq_nil_of_length_eq_zero (by omega)
  obtain ⟨j, hj⟩ := stop i out h2 (by rw [hs]; rfl)
  refine ⟨j, fun lo h hlo => ?_⟩
  rw [hj lo h hlo, hs, toksN_nil, List.append_nil]
 | succ m ih =>
  intro i out h1 h2 h3
  by_cases hr : rems (suf l i) = []
  ·obtain ⟨j, hj⟩ := stop i out h2 hr
   refine ⟨j, fun lo h hlo => ?_⟩
   rw [hj lo h hlo]
   simp only [toksN]
   rw [if_pos hr, List.append_nil]
  ·obtain ⟨j0, a1, a2, a3, a4⟩ := f25 (l := l) (i := i) hl h2
   have hj0 : j0 < l.length := by
    rcases Nat.lt_or_ge j0 l.length with h | h
    ·exact h
    ·rw [suf_end h] at a3; exact absurd a3.symm hr
   obtain ⟨j1, b1, b2, b3⟩ := f27 (l := l) (i := j0) hl hj0
   have hlt := token_lt (s := suf l j0) (by rw [a3]; exact hr)
   have hle := rems_le (suf l i)
   rw [← a3] at hle
   rw [← b2] at hlt
   obtain ⟨j, hj⟩ := ih j1 (out ++ [(token (suf l j0)).1]) (by omega) b1 (by simp; omega)
   refine ⟨j, fun lo h hlo => ?_⟩
   have k0 := fun lo p q => f26 (lo := lo) (l := l) (i := j0) (p := p) (q := q) (k := 0) (by omega)
   have hcp := chr_pos hj0
   have t : (chr (suf l j0) 0 == -1) = false := by simp; omega
   simp only [n0] at k0
   have e : toksN (m + 1) (suf l i) = (token (suf l j0)).1 :: toksN m (suf l j1) := by
    simp only [toksN]
    rw [if_neg hr, ← a3, b2]
   rw [e]
   have hT : ∀ lo (p q : List Ob), lo ≤ p.length → E lo 27 [.ptr p.length 0] (p ++ R l j0 :: q) = some (.agg (tkC (token (suf l j0)).1), p ++ R l j1 :: q) := b3
   generalize (token (suf l j0)).1 = T at *
   have hr1 : (out.length + 1) * 48 ≤ 140737488355328 := by omega
   have hr2 : out.length + 1 ≤ 9223372036854775807 := by omega
   have app : out.map tkC ++ [tkC T] = (out ++ [T]).map tkC := by simp
   have all := tk_all out
   have ibr := ibr_tk out
   have er : evCode (X12 lo h) loopW l12x0 ([(3, .ptr h.length 0), (4, .list .yes (out.map tkC))], h ++ [R l i]) = some (.normal, [(3, .ptr h.length 0), (4, .list .yes ((out ++ [T]).map tkC))], h ++ [R l j1]) := by
    rw [← app]
    simp only [tkC] at hT ⊢
    simp only [go_sem, X12, l12x0, b12, Tryz.f12, a4 _ _ _ hlo, k0, t, hT _ _ _ hlo, List.length_map, all, ibr, hr1, hr2]
    all_goals rfl
   rw [loop_eq, er, loop_n, hj lo h hlo]
   simp
theorem suf0 (l : List Int) : suf l 0 = l.map scal := by simp [suf]
theorem f12 (hl : l.length ≤ 100000000000) (hlo : lo ≤ h.length) : E lo 12 [.list .no (ri .i32 l)] h = some (.list .no ((toks (l.map scal)).map tkC), h) := by
 obtain ⟨j, hj⟩ := loop12 (l := l) hl (suf l 0).length 0 [] (Nat.le_refl _) (Nat.zero_le _) (by rw [suf_len]; simp)
 have hL := hj lo h hlo
 have hR : R l 0 = .cells [.list .no (ri .i32 l), .v (.int .i64 0)] := rfl
 rw [List.nil_append, suf0, hR] at hL
 have e : toks (l.map scal) = toksN (l.map scal).length (l.map scal) := rfl
 rw [e12 (by simp) (by rfl), e]
 generalize toksN (l.map scal).length (l.map scal) = ts at *
 simp only [X12, l12x0, b12, Tryz.f12, loopAt, loops, bodyOf, go_sem] at hL
 simp only [go_sem, b12, Tryz.f12, hL, hlo]
theorem fl34 : flatOf Tryz.prog 34 = some [1, 2, 1, 1, 0, 0] := by kernel_rfl
theorem eq_self_tk (t : Tk) : eqCells [1, 2, 1, 1, 0, 0] (tkC t) (tkC t) = some true := by
 simp [eqCells, tkC, eqS]
theorem loop11 (ts : List Tk) (hl : ts.length ≤ 1000000000000) : ∀ (m k : Nat), ts.length - k ≤ m → k ≤ ts.length →
  loopW (evCode ⟨Tryz.prog, E, lo, h.length, h11⟩ loopW l11x0) ([(0, .list .no (ts.map tkC)), (1, .list .no (ts.map tkC)), (12, .v (.int .i64 ts.length)), (13, .v (.int .i64 k))], h) =
   some (.exit 0, [(0, .list .no (ts.map tkC)), (1, .list .no (ts.map tkC)), (12, .v (.int .i64 ts.length)), (13, .v (.int .i64 ts.length)), (14, .v (.bool false))], h) := by
 intro m
 induction m with
 | zero =>
  intro k h1 h2
  obtain rfl : k = ts.length := by omega
  have hlt : decide ((ts.length : Int) < (ts.length : Int)) = false := by simp
  rw [loop_eq]
  simp only [go_sem, l11x0, b11, Tryz.f11, hlt]
 | succ m ih =>
  intro k h1 h2
  rcases Nat.lt_or_ge k ts.length with hk | hk
  rotate_left
  ·exact ih k (by omega) h2
  have hlt : decide ((k : Int) < (ts.length : Int)) = true := by simp; omega
  have hw : IntKind.i64.wrap ((k : Int) + 1) = ((k + 1 : Nat) : Int) := wrap_succ (by omega)
  have hg : (ts.map tkC)[k]? = some (tkC ts[k]) := by simp [List.getElem?_eq_getElem hk]
  have he := eq_self_tk ts[k]
  generalize ts[k] = T at *
  have e1 : evCode ⟨Tryz.prog, E, lo, h.length, h11⟩ loopW l11x0 ([(0, .list .no (ts.map tkC)), (1, .list .no (ts.map tkC)), (12, .v (.int .i64 ts.length)), (13, .v (.int .i64 k))], h) =
    some (.normal, [(0, .list .no (ts.map tkC)), (1, .list .no (ts.map tkC)), (12, .v (.int .i64 ts.length)), (13, .v (.int .i64 (k + 1 : Nat)))], h) := by
   simp only [tkC] at hg he
   simp only [go_sem, l11x0, b11, Tryz.f11, hlt, hg, fl34, he, hw]
   all_goals rfl
  rw [loop_eq, e1, loop_n]
  exact ih (k + 1) (by omega) (by omega)
theorem f11 (ts : List Tk) (hl : ts.length ≤ 1000000000000) : E lo 11 [.list .no (ts.map tkC), .list .no (ts.map tkC)] h = some (.v (.bool true), h) := by
 have hL := loop11 (lo := lo) (h := h) ts hl ts.length 0 (by omega) (by omega)
 have hne : ((ts.length : Int) != (ts.length : Int)) = false := by simp
 rw [e11 (by simp) (by rfl)]
 simp only [l11x0, b11, Tryz.f11, loopAt, loops, bodyOf, go_sem] at hL
 simp only [go_sem, b11, Tryz.f11, List.length_map, hne, hL]
end
end Go.Lift.R4.T
end

section
open Go.Proofs
namespace Go.Lift.R4.T
set_option linter.unusedSectionVars false
variable [MX]
open Utf Tok
set_option maxRecDepth 20000
set_option maxHeartbeats 4000000
set_option linter.unusedSimpArgs false
set_option linter.unusedVariables false
section
variable {lo : Nat} {l b : List Int} {h : Heap}
theorem dec_len (p : Bool) : ∀ l : List Int, (Utf.dec p l).length ≤ l.length := by
 intro l
 induction l generalizing p with
 | nil => simp [Utf.dec]
 | cons x t ih =>
  have := ih (x == 13)
  have h1 := dstep_len p x
  simp only [Utf.dec, List.length_append, List.length_cons]
  omega
theorem decode_len (b : List Int) : (Utf.decode b).length ≤ b.length := by
 unfold Utf.decode
 have h1 := dec_len false (raw (strip b))
 have h2 := raw_len' (strip b)
 have h3 := strip_len b
 omega
def btoks (b : List Int) : List Tk := toks ((Utf.decode b).map scal)
theorem f15 (hb : b.length ≤ 1000000000) (hy : By b) (hlo : lo ≤ h.length) : E lo 15 [.list .no (ri .u8 b)] h = some (.list .no ((btoks b).map tkC), h) := by
 have hl := decode_len b
 have k := f12 (lo := lo) (l := Utf.decode b) (h := h) (by omega) hlo
 rw [e15 (by simp) (by rfl)]
 unfold btoks
 generalize toks ((Utf.decode b).map scal) = ts at *
 simp only [go_sem, b15, Tryz.f15, f31 hb hy, k]
end
end Go.Lift.R4.T
end
