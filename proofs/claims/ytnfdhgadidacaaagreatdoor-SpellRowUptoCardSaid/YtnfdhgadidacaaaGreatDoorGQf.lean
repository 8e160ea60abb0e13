/- The program and the reference, evaluated. -/
import Derived.Test.YtnfdhgadidacaaaGreatDoorGQb
import Derived.Test.YtnfdhgadidacaaaGreatDoorGQc
import Derived.Test.YtnfdhgadidacaaaGreatDoorGQe
section
open Go.Proofs
namespace Go.Lift.R4.T
set_option linter.unusedSectionVars false
variable [MX]
open Utf Tok
set_option maxRecDepth 20000
set_option maxHeartbeats 4000000
set_option linter.unusedSimpArgs false
set_option linter.unusedVariables false
theorem enc_asc {c : Int} (h : 0 ≤ c ∧ c < 128) : Utf8.encode c = bs [c] := by
 unfold Utf8.encode
 have hv : Utf8.valid c = true := by
  unfold Utf8.valid
  simp
  omega
 have hn : c.toNat < 128 := by omega
 simp only [hv, if_true, hn]
 rfl
theorem runes_asc {l : List Int} (h : Asc l) : runesBytes l = bs l := by
 have key : ∀ (l a : List Int), Asc l → l.foldl (fun r n => r ++ Utf8.encode n) (bs a) = bs (a ++ l) := by
  intro l
  induction l with
  | nil => intro a _; simp
  | cons c t ih =>
   intro a h
   rw [List.foldl_cons, enc_asc (h c (by simp)), bs_app, ih (a ++ [c]) fun x hx => h x (by simp [hx])]
   simp
 exact key l [] h
section
variable {lo i j : Nat} {l : List Int} {p q : List Ob}
theorem loop111 {n : Nat} (hl : l.length ≤ 100000000000) : ∀ (m i : Nat), l.length - i ≤ m → i ≤ l.length →
  ∃ j, j ≤ l.length ∧ i ≤ j ∧ suf l j = (suf l i).dropWhile dig ∧
   ∀ lo n (p q r : List Ob), lo ≤ p.length → loopW (evCode ⟨Tryz.prog, E, lo, n, h111⟩ loopW l111x0) ([(0, .ptr (p.length + (q.length + 1)) 0)], p ++ R l i :: (q ++ .cells [.ptr p.length 0] :: r)) =
    some (.exit 0, [(0, .ptr (p.length + (q.length + 1)) 0), (5, .v (.bool false))], p ++ R l j :: (q ++ .cells [.ptr p.length 0] :: r)) := by
 intro m
 induction m with
 | zero =>
  intro i h1 h2
  obtain rfl : i = l.length := by omega
  have k0 := fun lo p q => f26 (lo := lo) (l := l) (i := l.length) (p := p) (q := q) (k := 0) (by omega)
  have hs : suf l l.length = [] := suf_end (Nat.le_refl _)
  have hb : dig (-1) = false := rfl
  simp only [n0, hs, chr_nil] at k0
  refine ⟨l.length, Nat.le_refl _, Nat.le_refl _, by rw [hs]; rfl, fun lo n p q r hlo => ?_⟩
  rw [loop_eq]
  simp only [go_sem, l111x0, b111, Tryz.f111, k0, f61, hb]
 | succ m ih =>
  intro i h1 h2
  have k0 := fun lo p q => f26 (lo := lo) (l := l) (i := i) (p := p) (q := q) (k := 0) (by omega)
  simp only [n0] at k0
  have hw : IntKind.i64.wrap ((i : Int) + 1) = ((i + 1 : Nat) : Int) := wrap_succ (by omega)
  cases hb : dig (chr (suf l i) 0) with
  | false =>
   refine ⟨i, h2, Nat.le_refl _, ?_, fun lo n p q r hlo => ?_⟩
   ·by_cases hi : i < l.length
    ·rw [suf_next hi] at hb ⊢
     exact (List.dropWhile_cons_of_neg (by simpa [chr] using hb)).symm
    ·rw [suf_end (by omega)]; rfl
   ·rw [loop_eq]
    simp only [go_sem, l111x0, b111, Tryz.f111, k0, f61, hb]
  | true =>
   have hi : i < l.length := by
    rcases Nat.lt_or_ge i l.length with h | h
    ·exact h
    ·rw [suf_end h] at hb; exact absurd hb (by decide)
   obtain ⟨j, j1, j2, j3, j4⟩ := ih (i + 1) (by omega) (by omega)
   refine ⟨j, j1, by omega, ?_, fun lo n p q r hlo => ?_⟩
   ·rw [j3, suf_next hi]
    exact (List.dropWhile_cons_of_pos (by simpa using hb)).symm
   ·rw [loop_eq]
    have e : evCode ⟨Tryz.prog, E, lo, n, h111⟩ loopW l111x0 ([(0, .ptr (p.length + (q.length + 1)) 0)], p ++ R l i :: (q ++ .cells [.ptr p.length 0] :: r)) =
      some (.normal, [(0, .ptr (p.length + (q.length + 1)) 0)], p ++ R l (i + 1) :: (q ++ .cells [.ptr p.length 0] :: r)) := by
     simp only [go_sem, l111x0, b111, Tryz.f111, k0, f61, hb, hw, hlo]
    rw [e, loop_n]
    exact j4 lo n p q r hlo
theorem f111 (hl : l.length ≤ 100000000000) (hi : i ≤ l.length) : ∃ j, j ≤ l.length ∧ i ≤ j ∧ suf l j = (suf l i).dropWhile dig ∧
  ∀ lo p q r, lo ≤ p.length → E lo 111 [.ptr (p.length + (q.length + 1)) 0] (p ++ R l i :: (q ++ .cells [.ptr p.length 0] :: r)) = some (.tup [], p ++ R l j :: (q ++ .cells [.ptr p.length 0] :: r)) := by
 obtain ⟨j, j1, j2, j3, j4⟩ := loop111 (n := 0) (l := l) hl l.length i (by omega) hi
 refine ⟨j, j1, j2, j3, fun lo p q r hlo => ?_⟩
 have hL := j4 lo (p ++ R l i :: (q ++ .cells [.ptr p.length 0] :: r)).length p q r hlo
 rw [e111 (by simp) (by rfl)]
 simp only [l111x0, b111, Tryz.f111, loopAt, loops, bodyOf, go_sem] at hL
 simp only [go_sem, b111, Tryz.f111, hL]
noncomputable abbrev X63 (lo : Nat) (p q : List Ob) : Cx := ⟨Tryz.prog, E, lo, p.length + (q.length + 1), h63⟩
abbrev H63 (p q : List Ob) (l : List Int) (j : Nat) (more : List Ob) : Heap := p ++ R l j :: (q ++ (.cells [.ptr p.length 0] :: .cells (tokC 0 []) :: more))
abbrev P63 (p q : List Ob) (l : List Int) (i j : Nat) (ex : Env) : Env × Heap :=
 ((1, .ptr (p.length + (q.length + 1)) 0) :: (2, .ptr (p.length + (q.length + 2)) 0) :: (3, .v (.int .i64 i)) :: ex, H63 p q l j [])
theorem p63a (hl : l.length ≤ 100000000000) (hi : i ≤ l.length) : ∃ j, j ≤ l.length ∧ i ≤ j ∧ suf l j = (if (chr (suf l i) 0 == 43 || chr (suf l i) 0 == 45) = true then (suf l i).drop 1 else suf l i) ∧
  ∃ x, ∀ lo p q, lo ≤ p.length → evL (X63 lo p q) loopW (pc b63 0 5) (args0 [.ptr p.length 0], p ++ R l i :: q) = some (.normal, P63 p q l i j [(23, x)]) := by
 have k0 := fun lo p q => f26 (lo := lo) (l := l) (i := i) (p := p) (q := q) (k := 0) (by omega)
 have hw : IntKind.i64.wrap ((i : Int) + 1) = ((i + 1 : Nat) : Int) := wrap_succ (by omega)
 simp only [n0] at k0
 generalize hc : chr (suf l i) 0 = c at *
 by_cases hs : (c == 43 || c == 45) = true
 ·have hne : i < l.length := by
   rcases Nat.lt_or_ge i l.length with h | h
   ·exact h
   ·rw [suf_end h] at hc
    rw [← hc] at hs
    exact absurd hs (by decide)
  rw [if_pos hs]
  refine ⟨i + 1, by omega, by omega, by simp [suf, List.drop_drop], ?_⟩
  cases h43 : (c == 43) with
  | true =>
   refine ⟨.v (.bool true), fun lo p q hlo => ?_⟩
   simp only [go_sem, X63, P63, H63, b63, Tryz.f63, k0, h43, hw, hlo, tokC, str_nil]
   all_goals rfl
  | false =>
   have h45 : (c == 45) = true := by simpa [h43] using hs
   refine ⟨.v (.bool true), fun lo p q hlo => ?_⟩
   simp only [go_sem, X63, P63, H63, b63, Tryz.f63, k0, h43, h45, hw, hlo, tokC, str_nil]
   all_goals rfl
 ·rw [if_neg hs]
  have h43 : (c == 43) = false := by simp at hs ⊢; omega
  have h45 : (c == 45) = false := by simp at hs ⊢; omega
  refine ⟨i, hi, Nat.le_refl _, rfl, .v (.bool false), fun lo p q hlo => ?_⟩
  simp only [go_sem, X63, P63, H63, b63, Tryz.f63, k0, h43, h45, hw, hlo, tokC, str_nil]
  all_goals rfl
abbrev clo (p q : List Ob) : V := .fn 111 [.ptr (p.length + (q.length + 1)) 0]
theorem p63b {x : V} (hl : l.length ≤ 100000000000) (hj : j ≤ l.length) : ∃ j', j' ≤ l.length ∧ j ≤ j' ∧
  suf l j' = (if (chr ((suf l j).dropWhile dig) 0 == 46 && dig (chr ((suf l j).dropWhile dig) 1)) = true then (((suf l j).dropWhile dig).drop 1).dropWhile dig else (suf l j).dropWhile dig) ∧
  ∃ y, ∀ lo p q (i : Nat), lo ≤ p.length → evL (X63 lo p q) loopW (pc b63 5 4) (P63 p q l i j [(23, x)]) = some (.normal, P63 p q l i j' [(5, clo p q), (47, y)]) := by
 obtain ⟨j1, a1, a2, a3, a4⟩ := f111 (l := l) (i := j) hl hj
 have k0 := fun lo p q => f26 (lo := lo) (l := l) (i := j1) (p := p) (q := q) (k := 0) (by omega)
 have k1 := fun lo p q => f26 (lo := lo) (l := l) (i := j1) (p := p) (q := q) (k := 1) (by omega)
 have ks := fun lo p q => f56 (lo := lo) (l := l) (i := j1) (p := p) (q := q) (cs := [46]) (by simp; omega)
 have hw : IntKind.i64.wrap ((j1 : Int) + 1) = ((j1 + 1 : Nat) : Int) := wrap_succ (by omega)
 have n1 : ((1 : Nat) : Int) = 1 := rfl
 simp only [n0, n1, ri_cons, ri_nil, isN_one] at k0 k1 ks
 rw [← a3]
 by_cases hf : (chr (suf l j1) 0 == 46 && dig (chr (suf l j1) 1)) = true
 ·rw [if_pos hf]
  rw [Bool.and_eq_true] at hf
  obtain ⟨h46, hd⟩ := hf
  have hne : j1 < l.length := by
   rcases Nat.lt_or_ge j1 l.length with h | h
   ·exact h
   ·rw [suf_end h] at h46
    exact absurd h46 (by decide)
  obtain ⟨j2, b1, b2, b3, b4⟩ := f111 (l := l) (i := j1 + 1) hl (by omega)
  refine ⟨j2, b1, by omega, by rw [b3]; simp [suf, List.drop_drop], .undef, fun lo p q i hlo => ?_⟩
  simp only [go_sem, X63, P63, H63, b63, Tryz.f63, a4 _ _ _ _ hlo, k0, k1, ks, f61, h46, hd, hw, hlo, b4 _ _ _ _ hlo, tokC, str_nil]
  all_goals rfl
 ·rw [if_neg hf]
  refine ⟨j1, a1, a2, rfl, .v (.bool false), fun lo p q i hlo => ?_⟩
  cases h46 : (chr (suf l j1) 0 == 46) with
  | true =>
   have hd : dig (chr (suf l j1) 1) = false := by simpa [h46] using hf
   simp only [go_sem, X63, P63, H63, b63, Tryz.f63, a4 _ _ _ _ hlo, k0, k1, ks, f61, h46, hd, tokC, str_nil]
   all_goals rfl
  | false =>
   simp only [go_sem, X63, P63, H63, b63, Tryz.f63, a4 _ _ _ _ hlo, k0, k1, ks, f61, h46, tokC, str_nil]
   all_goals rfl
theorem p63c {x : V} (hl : l.length ≤ 100000000000) (hj : j ≤ l.length) : ∃ j', j' ≤ l.length ∧ j ≤ j' ∧
  suf l j' = (if ((chr (suf l j) 0 == 101 || chr (suf l j) 0 == 69) && dig (chr (suf l j) (if (chr (suf l j) 1 == 43 || chr (suf l j) 1 == 45) = true then 2 else 1))) = true
   then ((suf l j).drop (if (chr (suf l j) 1 == 43 || chr (suf l j) 1 == 45) = true then 2 else 1)).dropWhile dig else suf l j) ∧
  ∃ ex : Env, ((∃ x, ex = [(68, x)]) ∨ ∃ x y, ex = [(7, x), (84, y)]) ∧ ∀ lo p q (i : Nat), lo ≤ p.length → evL (X63 lo p q) loopW (pc b63 9 3) (P63 p q l i j [(5, clo p q), (47, x)]) = some (.normal, P63 p q l i j' ((5, clo p q) :: ex)) := by
 have k0 := fun lo p q => f26 (lo := lo) (l := l) (i := j) (p := p) (q := q) (k := 0) (by omega)
 have k1 := fun lo p q => f26 (lo := lo) (l := l) (i := j) (p := p) (q := q) (k := 1) (by omega)
 have k2 := fun lo p q => f26 (lo := lo) (l := l) (i := j) (p := p) (q := q) (k := 2) (by omega)
 have hw1 : IntKind.i64.wrap ((j : Int) + 1) = ((j + 1 : Nat) : Int) := wrap_succ (by omega)
 have hw2 : IntKind.i64.wrap ((j : Int) + 2) = ((j + 2 : Nat) : Int) := by rw [wrap_i64 (by omega) (by omega)]; omega
 have n1 : ((1 : Nat) : Int) = 1 := rfl
 have n2 : ((2 : Nat) : Int) = 2 := rfl
 simp only [n0, n1, n2] at k0 k1 k2
 have hlen := suf_len l j
 by_cases he : (chr (suf l j) 0 == 101 || chr (suf l j) 0 == 69) = true
 rotate_left
 ·rw [Bool.not_eq_true] at he
  rw [he, Bool.false_and, if_neg (by simp)]
  rw [Bool.or_eq_false_iff] at he
  obtain ⟨h1, h2⟩ := he
  refine ⟨j, hj, Nat.le_refl _, rfl, [(68, .v (.bool false))], .inl ⟨_, rfl⟩, fun lo p q i hlo => ?_⟩
  simp only [go_sem, X63, P63, H63, b63, Tryz.f63, k0, h1, h2, tokC, str_nil]
  all_goals rfl
 rw [he, Bool.true_and]
 by_cases hs : (chr (suf l j) 1 == 43 || chr (suf l j) 1 == 45) = true
 ·rw [if_pos hs]
  by_cases hd : dig (chr (suf l j) 2) = true
  ·rw [if_pos hd]
   have hne : j + 2 ≤ l.length := by
    rcases Nat.lt_or_ge (j + 1) l.length with h | h
    ·omega
    ·exfalso
     have : chr (suf l j) 1 = -1 := by simp only [chr]; rw [List.getElem?_eq_none (by omega)]
     rw [this] at hs
     exact absurd hs (by decide)
   obtain ⟨j2, b1, b2, b3, b4⟩ := f111 (l := l) (i := j + 2) hl (by omega)
   refine ⟨j2, b1, by omega, by rw [b3]; simp [suf, List.drop_drop], [(68, .undef)], .inl ⟨_, rfl⟩, fun lo p q i hlo => ?_⟩
   cases h1 : (chr (suf l j) 0 == 101) <;> cases h43 : (chr (suf l j) 1 == 43) <;> simp only [h1, h43, Bool.false_or, Bool.true_or] at he hs <;>
    simp only [go_sem, X63, P63, H63, b63, Tryz.f63, k0, k1, k2, f61, h1, he, h43, hs, hd, hw2, hlo, b4 _ _ _ _ hlo, tokC, str_nil] <;> rfl
  ·rw [if_neg hd]
   rw [Bool.not_eq_true] at hd
   refine ⟨j, hj, Nat.le_refl _, rfl, [(7, .v (.int .i64 2)), (84, .v (.bool false))], .inr ⟨_, _, rfl⟩, fun lo p q i hlo => ?_⟩
   cases h1 : (chr (suf l j) 0 == 101) <;> cases h43 : (chr (suf l j) 1 == 43) <;> simp only [h1, h43, Bool.false_or, Bool.true_or] at he hs <;>
    simp only [go_sem, X63, P63, H63, b63, Tryz.f63, k0, k1, k2, f61, h1, he, h43, hs, hd, tokC, str_nil] <;> rfl
 ·rw [if_neg hs]
  rw [Bool.not_eq_true, Bool.or_eq_false_iff] at hs
  obtain ⟨h43, h45⟩ := hs
  by_cases hd : dig (chr (suf l j) 1) = true
  ·rw [if_pos hd]
   have hne : j + 1 ≤ l.length := by
    rcases Nat.lt_or_ge j l.length with h | h
    ·omega
    ·exfalso
     rw [suf_end h] at he
     exact absurd he (by decide)
   obtain ⟨j2, b1, b2, b3, b4⟩ := f111 (l := l) (i := j + 1) hl (by omega)
   refine ⟨j2, b1, by omega, by rw [b3]; simp [suf, List.drop_drop], [(68, .undef)], .inl ⟨_, rfl⟩, fun lo p q i hlo => ?_⟩
   cases h1 : (chr (suf l j) 0 == 101) <;> simp only [h1, Bool.false_or, Bool.true_or] at he <;>
    simp only [go_sem, X63, P63, H63, b63, Tryz.f63, k0, k1, k2, f61, h1, he, h43, h45, hd, hw1, hlo, b4 _ _ _ _ hlo, tokC, str_nil] <;> rfl
  ·rw [if_neg hd]
   rw [Bool.not_eq_true] at hd
   refine ⟨j, hj, Nat.le_refl _, rfl, [(7, .v (.int .i64 1)), (84, .v (.bool false))], .inr ⟨_, _, rfl⟩, fun lo p q i hlo => ?_⟩
   cases h1 : (chr (suf l j) 0 == 101) <;> simp only [h1, Bool.false_or, Bool.true_or] at he <;>
    simp only [go_sem, X63, P63, H63, b63, Tryz.f63, k0, k1, k2, f61, h1, he, h43, h45, hd, tokC, str_nil] <;> rfl
end
end Go.Lift.R4.T
end

section
open Go.Proofs
namespace Go.Lift.R4.T
set_option linter.unusedSectionVars false
variable [MX]
open Utf Tok
set_option maxRecDepth 20000
set_option maxHeartbeats 4000000
set_option linter.unusedSimpArgs false
set_option linter.unusedVariables false
section
variable {lo i j : Nat} {l : List Int} {p q : List Ob}
theorem p63d {n : Nm} (hl : l.length ≤ 100000000000) (hij : i ≤ j) (hj : j ≤ l.length) (ok : n.Ok) (hs : suf l i = n.text ++ suf l j) {ex : Env} (hex : (∃ x, ex = [(68, x)]) ∨ ∃ x y, ex = [(7, x), (84, y)]) (hlo : lo ≤ p.length) (hlo2 : lo ≤ p.length + (q.length + 3)) :
  evL (X63 lo p q) loopW (pc b63 12 2) (P63 p q l i j ((5, clo p q) :: ex)) = some (.normal, [(1, .ptr (p.length + (q.length + 1)) 0), (2, .ptr (p.length + (q.length + 2)) 0), (8, .ptr (p.length + (q.length + 3)) 0)], H63 p q l j [.cells (tkC ⟨0, [], n.num.1, n.num.2, false⟩)]) := by
 have hasc := nm_asc ok
 have hbt := between hij hj hs hasc
 have hlen : n.text.length ≤ 100000000000 := by
  have := congrArg List.length hs
  rw [suf_len, List.length_append] at this
  omega
 have hrb := runes_asc hasc
 have k112 : ∀ lo h, lo ≤ h.length → E lo 112 [.v (.string (bs n.text))] h = some (.tup [.agg (ratC n.num.1), .v (.bool n.num.2), .v (.int .i64 0)], h) := fun lo h hh => f112 ok hlen hh
 simp only [ratC] at k112
 rcases hex with ⟨x, rfl⟩ | ⟨x, y, rfl⟩
 ·simp only [go_sem, X63, P63, H63, b63, Tryz.f63, ri_cut, hbt, hij, hj, hrb, k112, Nat.le_refl, hlo, hlo2, tokC, tkC, str_nil, ratC]
  all_goals rfl
 ·simp only [go_sem, X63, P63, H63, b63, Tryz.f63, ri_cut, hbt, hij, hj, hrb, k112, Nat.le_refl, hlo, hlo2, tokC, tkC, str_nil, ratC]
  all_goals rfl
theorem p63e {m : Int × Int} {w : Bool} (hl : l.length ≤ 100000000000) (hj : j ≤ l.length) : ∃ j', j' ≤ l.length ∧ j ≤ j' ∧
  ∃ t : Tk, (t, suf l j') = (if beg (chr (suf l j) 0) (chr (suf l j) 1) (chr (suf l j) 2) = true then (⟨12, (name (suf l j)).1, m, w, false⟩, (name (suf l j)).2)
   else if chr (suf l j) 0 = 37 then (⟨11, [], m, w, false⟩, (suf l j).drop 1) else (⟨10, [], m, w, false⟩, suf l j)) ∧
  ∀ lo p q, lo ≤ p.length → lo ≤ p.length + (q.length + 2) → lo ≤ p.length + (q.length + 3) →
   evL (X63 lo p q) loopW (pc b63 14 3) ([(1, .ptr (p.length + (q.length + 1)) 0), (2, .ptr (p.length + (q.length + 2)) 0), (8, .ptr (p.length + (q.length + 3)) 0)], H63 p q l j [.cells (tkC ⟨0, [], m, w, false⟩)]) =
    some (.ret, [(2, .ptr (p.length + (q.length + 2)) 0)], p ++ R l j' :: (q ++ [.cells [.ptr p.length 0], .cells (tkC t), .cells (tkC t)])) := by
 have k0 := fun lo p q => f66 (lo := lo) (l := l) (i := j) (p := p) (q := q) (k := 0) (by omega)
 have ks := fun lo p q => f56 (lo := lo) (l := l) (i := j) (p := p) (q := q) (cs := [37]) (by simp; omega)
 have hw1 : IntKind.i64.wrap ((j : Int) + 1) = ((j + 1 : Nat) : Int) := wrap_succ (by omega)
 simp only [n0, ri_cons, ri_nil, isN_one, Nat.zero_add, Nat.reduceAdd] at k0 ks
 by_cases hb : beg (chr (suf l j) 0) (chr (suf l j) 1) (chr (suf l j) 2) = true
 ·obtain ⟨j2, b1, b2, b3, b4⟩ := f67 (l := l) (i := j) hl hj
  refine ⟨j2, b1, b2, ⟨12, (name (suf l j)).1, m, w, false⟩, by rw [if_pos hb, b3], fun lo p q hlo hlo2 hlo3 => ?_⟩
  simp only [go_sem, X63, H63, b63, Tryz.f63, k0, hb, b4 _ _ _ hlo, hlo, hlo2, hlo3, tokC, tkC, str_nil]
  all_goals rfl
 ·rw [if_neg hb]
  rw [Bool.not_eq_true] at hb
  by_cases h37 : chr (suf l j) 0 = 37
  ·have hne : j < l.length := by
    rcases Nat.lt_or_ge j l.length with h | h
    ·exact h
    ·rw [suf_end h] at h37; cases h37
   rw [if_pos h37]
   have t37 : (chr (suf l j) 0 == 37) = true := by simp [h37]
   refine ⟨j + 1, by omega, by omega, ⟨11, [], m, w, false⟩, by simp [suf, List.drop_drop], fun lo p q hlo hlo2 hlo3 => ?_⟩
   simp only [go_sem, X63, H63, b63, Tryz.f63, k0, ks, hb, t37, hw1, hlo, hlo2, hlo3, tokC, tkC, str_nil]
   all_goals rfl
  ·rw [if_neg h37]
   have t37 : (chr (suf l j) 0 == 37) = false := by simp [h37]
   refine ⟨j, hj, Nat.le_refl _, ⟨10, [], m, w, false⟩, rfl, fun lo p q hlo hlo2 hlo3 => ?_⟩
   simp only [go_sem, X63, H63, b63, Tryz.f63, k0, ks, hb, t37, hlo, hlo2, hlo3, tokC, tkC, str_nil]
   all_goals rfl
theorem fin63 {t : Tk} {r : List Ob} {o o2 : Ob} : fin Tryz.prog [.cell 2 34] (p.length + (q.length + 1)) (some (.ret, [(2, .ptr (p.length + (q.length + 2)) 0)], p ++ o :: (q ++ o2 :: .cells (tkC t) :: r))) = some (.agg (tkC t), p ++ o :: q) := by
 simp only [go_sem, tkC]
 all_goals rfl
theorem f63 (hl : l.length ≤ 100000000000) (hi : i ≤ l.length) (hn : num (chr (suf l i) 0) (chr (suf l i) 1) (chr (suf l i) 2) = true) :
  ∃ j, j ≤ l.length ∧ i ≤ j ∧ suf l j = (figure (suf l i)).2 ∧
   ∀ lo p q, lo ≤ p.length → E lo 63 [.ptr p.length 0] (p ++ R l i :: q) = some (.agg (tkC (figure (suf l i)).1), p ++ R l j :: q) := by
 obtain ⟨j1, a1, a2, a3, x, a4⟩ := p63a (l := l) (i := i) hl hi
 obtain ⟨j2, b1, b2, b3, y, b4⟩ := p63b (l := l) (j := j1) (x := x) hl a1
 obtain ⟨j3, c1, c2, c3, ex, hex, c4⟩ := p63c (l := l) (j := j2) (x := y) hl b1
 have hrest : suf l j3 = (numP (suf l i)).2 := by
  rw [c3, b3, a3]
  unfold numP
  simp only
 have hok := numP_ok hn
 have htext := numP_text (suf l i)
 rw [← hrest] at htext
 obtain ⟨j4, d1, d2, t, d3, d4⟩ := p63e (l := l) (j := j3) (m := (numP (suf l i)).1.num.1) (w := (numP (suf l i)).1.num.2) hl c1
 have hfig : (t, suf l j4) = figure (suf l i) := by
  rw [d3, hrest]
  unfold figure
  simp only
 refine ⟨j4, d1, by omega, by rw [← hfig], fun lo p q hlo => ?_⟩
 have hlo2 : lo ≤ p.length + (q.length + 2) := by omega
 have hlo3 : lo ≤ p.length + (q.length + 3) := by omega
 have hH : (p ++ R l i :: q).length = p.length + (q.length + 1) := by simp
 rw [e63 (by simp) (by rfl), hH]
 rw [pc_in, pc_go _ _ _ _ 0 5, a4 lo p q hlo, pc_go _ _ _ _ _ 4, b4 lo p q i hlo, pc_go _ _ _ _ _ 3, c4 lo p q i hlo, pc_go _ _ _ _ _ 2,
  p63d hl (by omega) c1 hok htext.symm hex hlo hlo3, pc_go _ _ _ _ _ 3, d4 lo p q hlo hlo2 hlo3, pc_r, ← hfig]
 exact fin63
end
end Go.Lift.R4.T
end
