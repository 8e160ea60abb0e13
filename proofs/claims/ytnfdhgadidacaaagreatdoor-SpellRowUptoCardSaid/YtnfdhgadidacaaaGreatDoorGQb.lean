/- The program and the reference, evaluated. -/
import Derived.Test.YtnfdhgadidacaaaGreatDoorGQa
section
open Go.Proofs
namespace Go.Lift.R4.T
set_option linter.unusedSectionVars false
variable [MX]
open Utf Tok
set_option maxRecDepth 20000
set_option linter.unusedSimpArgs false
set_option linter.unusedVariables false
def str (l : List Int) : ByteArray := ⟨(u8s (encs l)).toArray⟩
theorem chr_zero (c : Int) (t : List Int) : chr (c :: t) 0 = c := rfl
theorem chr_succ (c : Int) (t : List Int) (k : Nat) : chr (c :: t) (k + 1) = chr t k := by simp [chr]
theorem esc_neg (b : Int) : esc (-1) b = false := by simp [esc]
theorem ltr_neg : ltr (-1) = false := by decide
section
variable {lo i : Nat} {l : List Int} {p q : List Ob}
theorem f69e {lo : Nat} {l : List Int} {h : Heap} (hl : l.length ≤ 35184372088832) : E lo 69 [.list .no (ri .i32 l)] h = some (.list .no (ri .u8 (encs l)), h) := f69 hl
theorem loop67 (hlo : lo ≤ p.length) (hl : l.length ≤ 100000000000) : ∀ (m i : Nat) (out : List Int), (suf l i).length ≤ m → i ≤ l.length → out.length ≤ i →
  ∃ j, j ≤ l.length ∧ i ≤ j ∧ suf l j = (nameN m (suf l i)).2 ∧
   loopW (evCode ⟨Tryz.prog, E, lo, (p ++ R l i :: q).length, h67⟩ loopW l67x0) ([(0, .ptr p.length 0), (3, .list .yes (ri .i32 out))], p ++ R l i :: q) =
    some (.ret, [(2, .v (.string (str (out ++ (nameN m (suf l i)).1))))], p ++ R l j :: q) := by
 intro m
 induction m with
 | zero =>
  intro i out h1 h2 h3
  have hs : suf l i = [] := List.eq_nil_of_length_eq_zero (by omega)
  have k0 := fun lo p q => f26 (lo := lo) (l := l) (i := i) (p := p) (q := q) (k := 0) (by omega)
  have k1 := fun lo p q => f65 (lo := lo) (l := l) (i := i) (p := p) (q := q) (k := 0) (by omega)
  have kf := fun lo h => f69e (lo := lo) (l := out) (h := h) (by omega)
  simp only [n0, hs, chr_nil] at k0 k1
  refine ⟨i, h2, Nat.le_refl _, by rw [hs]; rfl, ?_⟩
  rw [loop_eq, hs]
  simp only [go_sem, l67x0, b67, Tryz.f67, k0, k1, f64, ltr_neg, esc_neg, kf, nameN, List.append_nil]
  rfl
 | succ m ih =>
  intro i out h1 h2 h3
  have k0 := fun lo p q => f26 (lo := lo) (l := l) (i := i) (p := p) (q := q) (k := 0) (by omega)
  have k1 := fun lo p q => f65 (lo := lo) (l := l) (i := i) (p := p) (q := q) (k := 0) (by omega)
  have kt := fun lo p q h => f70 (lo := lo) (l := l) (i := i) (p := p) (q := q) h (by omega)
  have kf := fun lo h => f69e (lo := lo) (l := out) (h := h) (by omega)
  have hr : ∀ k, k ≤ 4 → (out.length + k) * 4 ≤ 140737488355328 := by intro k hk; omega
  have hq : ∀ k, 9223372036854775800 ≤ k → out.length ≤ k := by intro k hk; omega
  have app : ∀ y : Int, ri .i32 out ++ [[V.v (.int .i32 y)]] = ri .i32 (out ++ [y]) := by intro y; rw [← ri_app]; rfl
  simp only [n0] at k0 k1
  rcases Nat.lt_or_ge i l.length with hi | hi
  ·have hs := suf_next hi
   have hn : chr (suf l i) (0 + 1) = chr (suf l (i + 1)) 0 := by rw [hs, chr_succ]
   rw [hn] at k1
   generalize chr (suf l i) 0 = c at hs k0 k1 kt
   rw [hs] at h1 ⊢
   simp only [List.length_cons] at h1
   cases hc : ltr c with
   | true =>
    obtain ⟨j, j1, j2, j3, j4⟩ := ih (i + 1) (out ++ [c]) (by omega) (by omega) (by simp; omega)
    refine ⟨j, j1, by omega, ?_, ?_⟩
    ·rw [j3]; simp only [nameN]; rw [if_pos hc]
    ·have e : evCode ⟨Tryz.prog, E, lo, (p ++ R l i :: q).length, h67⟩ loopW l67x0 ([(0, .ptr p.length 0), (3, .list .yes (ri .i32 out))], p ++ R l i :: q) =
       some (.normal, [(0, .ptr p.length 0), (3, .list .yes (ri .i32 (out ++ [c])))], p ++ R l (i + 1) :: q) := by
      simp only [go_sem, l67x0, b67, Tryz.f67, k0, f64, hc, kt _ _ _ hlo, hr, hq, and_self, app]
     rw [loop_eq, e, loop_n]
     simp only [hl_app, hl_cons] at j4 ⊢
     rw [j4]
     simp only [nameN]
     rw [if_pos hc, List.append_assoc]
     rfl
   | false =>
    cases he : esc c (chr (suf l (i + 1)) 0) with
    | true =>
     obtain ⟨j0, a1, a2, a3, a4⟩ := f110 (l := l) (i := i + 1) hl (by omega)
     have hlen : (suf l j0).length ≤ m := by rw [suf_len]; rw [suf_len] at h1; omega
     obtain ⟨j, j1, j2, j3, j4⟩ := ih j0 (out ++ [(escd (suf l (i + 1))).1]) hlen a1 (by simp; omega)
     refine ⟨j, j1, by omega, ?_, ?_⟩
     ·rw [j3, a3]; simp only [nameN]; rw [hc, he]; simp
     ·have e : evCode ⟨Tryz.prog, E, lo, (p ++ R l i :: q).length, h67⟩ loopW l67x0 ([(0, .ptr p.length 0), (3, .list .yes (ri .i32 out))], p ++ R l i :: q) =
        some (.normal, [(0, .ptr p.length 0), (3, .list .yes (ri .i32 (out ++ [(escd (suf l (i + 1))).1])))], p ++ R l j0 :: q) := by
       simp only [go_sem, l67x0, b67, Tryz.f67, k0, k1, f64, hc, he, kt _ _ _ hlo, a4 _ _ _ hlo, hr, hq, and_self, app]
      rw [loop_eq, e, loop_n]
      simp only [hl_app, hl_cons] at j4 ⊢
      rw [j4, a3]
      simp only [nameN]
      rw [hc, he]
      simp
    | false =>
     refine ⟨i, h2, Nat.le_refl _, ?_, ?_⟩
     ·simp only [nameN]; rw [hc, he, hs]; simp
     ·rw [loop_eq]
      simp only [go_sem, l67x0, b67, Tryz.f67, k0, k1, f64, hc, he, kf]
      simp only [nameN]
      rw [hc, he]
      simp [str]
  ·have hs : suf l i = [] := suf_end hi
   simp only [hs, chr_nil] at k0 k1
   refine ⟨i, h2, Nat.le_refl _, by rw [hs]; rfl, ?_⟩
   rw [loop_eq, hs]
   simp only [go_sem, l67x0, b67, Tryz.f67, k0, k1, f64, ltr_neg, esc_neg, kf, nameN, List.append_nil]
   rfl
theorem f67 (hl : l.length ≤ 100000000000) (hi : i ≤ l.length) : ∃ j, j ≤ l.length ∧ i ≤ j ∧ suf l j = (name (suf l i)).2 ∧
  ∀ lo p q, lo ≤ p.length → E lo 67 [.ptr p.length 0] (p ++ R l i :: q) = some (.v (.string (str (name (suf l i)).1)), p ++ R l j :: q) := by
 obtain ⟨j, j1, j2, j3, _⟩ := loop67 (lo := 0) (p := []) (q := []) (l := l) (Nat.le_refl _) hl (suf l i).length i [] (Nat.le_refl _) hi (by simp)
 refine ⟨j, j1, j2, j3, fun lo p q hlo => ?_⟩
 obtain ⟨j', j1', _, j3', hL⟩ := loop67 (lo := lo) (p := p) (q := q) (l := l) hlo hl (suf l i).length i [] (Nat.le_refl _) hi (by simp)
 obtain rfl : j' = j := suf_inj j1' j1 (by rw [j3', j3])
 rw [e67 (by simp) (by rfl)]
 simp only [l67x0, b67, Tryz.f67, loopAt, loops, bodyOf, go_sem, ri_nil] at hL
 simp only [go_sem, b67, Tryz.f67, hL]
 rfl
end
end Go.Lift.R4.T
end

section
open Go.Proofs
namespace Go.Lift.R4.T
set_option linter.unusedSectionVars false
variable [MX]
open Utf Tok
set_option maxRecDepth 20000
set_option linter.unusedSimpArgs false
set_option linter.unusedVariables false
def skipS : List Int → List Int
 | [] => []
 | [_] => []
 | c :: d :: t => if c = 42 ∧ d = 47 then c :: d :: t else skipS (d :: t)
theorem skipR_S : ∀ s : List Int, skipR s = (skipS s).drop 2
 | [] => rfl
 | [_] => rfl
 | c :: d :: t => by
  unfold skipR skipS
  split
  ·rfl
  ·exact skipR_S (d :: t)
theorem skipS_ends : ∀ s : List Int, skipS s = [] ∨ ∃ t, skipS s = 42 :: 47 :: t
 | [] => .inl rfl
 | [_] => .inl rfl
 | c :: d :: t => by
  unfold skipS
  split
  ·rename_i h; obtain ⟨rfl, rfl⟩ := h; exact .inr ⟨t, rfl⟩
  ·exact skipS_ends (d :: t)
section
variable {lo i : Nat} {l : List Int} {p q : List Ob}
theorem suf_neg (l : List Int) (i : Nat) (k : Nat) : (chr (suf l i) k == -1) = decide (l.length ≤ i + k) := by
 rw [suf_chr]
 rcases Nat.lt_or_ge (i + k) l.length with h | h
 ·rw [List.getElem?_eq_getElem h]
  have := scal_in l[i + k]
  have h1 : ¬ l.length ≤ i + k := by omega
  simp only [h1, decide_false, beq_eq_false_iff_ne, ne_eq]
  omega
 ·rw [List.getElem?_eq_none h]
  simp [h]
theorem loop25i (hlo : lo ≤ p.length) (hl : l.length ≤ 100000000000) : ∀ (n i : Nat), l.length - i ≤ n → i ≤ l.length →
  ∃ j, j ≤ l.length ∧ i ≤ j ∧ suf l j = skipS (suf l i) ∧
   loopW (evCode ⟨Tryz.prog, E, lo, (p ++ R l i :: q).length, h25⟩ loopW l25x1) ([(0, .ptr p.length 0)], p ++ R l i :: q) = some (.exit 2, [(0, .ptr p.length 0), (20, .v (.bool false))], p ++ R l j :: q) := by
 intro n
 induction n with
 | zero =>
  intro i h1 h2
  obtain rfl : i = l.length := by omega
  have k0 := fun lo p q => f26 (lo := lo) (l := l) (i := l.length) (p := p) (q := q) (k := 0) (by omega)
  have hs : suf l l.length = [] := suf_end (Nat.le_refl _)
  simp only [n0, hs, chr_nil] at k0
  refine ⟨l.length, Nat.le_refl _, Nat.le_refl _, by rw [hs]; rfl, ?_⟩
  have hne : ((-1 : Int) != -1) = false := rfl
  rw [loop_eq]
  simp only [go_sem, l25x1, b25, Tryz.f25, k0, hne]
 | succ n ih =>
  intro i h1 h2
  rcases Nat.lt_or_ge i l.length with hi | hi
  ·have k0 := fun lo p q => f26 (lo := lo) (l := l) (i := i) (p := p) (q := q) (k := 0) (by omega)
   have ks := fun lo p q => f56 (lo := lo) (l := l) (i := i) (p := p) (q := q) (cs := [42, 47]) (by simp; omega)
   simp only [n0, ri_cons, ri_nil] at k0 ks
   have hw : IntKind.i64.wrap ((i : Int) + 1) = ((i + 1 : Nat) : Int) := wrap_succ (by omega)
   have hne : (chr (suf l i) 0 != -1) = true := by
    have := suf_neg l i 0
    simp only [bne, this]
    simp; omega
   cases hx : isN (suf l i) 0 [42, 47] with
   | true =>
    refine ⟨i, h2, Nat.le_refl _, ?_, ?_⟩
    ·have h3 := suf_next hi
     simp only [isN, Bool.and_true, Bool.and_eq_true, beq_iff_eq] at hx
     rw [h3] at hx ⊢
     rw [chr_zero, chr_succ] at hx
     rcases Nat.lt_or_ge (i + 1) l.length with hi2 | hi2
     ·have h4 := suf_next hi2
      rw [h4] at hx ⊢
      rw [chr_zero] at hx
      unfold skipS
      rw [if_pos ⟨by simpa using hx.1, by simpa using hx.2⟩]
     ·rw [suf_end hi2, chr_nil] at hx
      omega
    ·rw [loop_eq]
     simp only [go_sem, l25x1, b25, Tryz.f25, k0, ks, hne, hx]
   | false =>
    obtain ⟨j, j1, j2, j3, j4⟩ := ih (i + 1) (by omega) (by omega)
    refine ⟨j, j1, by omega, ?_, ?_⟩
    ·rw [j3]
     have h3 := suf_next hi
     simp only [isN, Bool.and_true, Bool.and_eq_false_iff, beq_eq_false_iff_ne, ne_eq] at hx
     rw [h3] at hx ⊢
     rw [chr_zero, chr_succ] at hx
     rcases Nat.lt_or_ge (i + 1) l.length with hi2 | hi2
     ·have h4 := suf_next hi2
      rw [h4] at hx ⊢
      rw [chr_zero] at hx
      conv => rhs; unfold skipS
      rw [if_neg (by intro ⟨a, b⟩; rcases hx with h | h; exact h a; exact h b)]
     ·rw [suf_end hi2]
      rfl
    ·have e : evCode ⟨Tryz.prog, E, lo, (p ++ R l i :: q).length, h25⟩ loopW l25x1 ([(0, .ptr p.length 0)], p ++ R l i :: q) = some (.normal, [(0, .ptr p.length 0)], p ++ R l (i + 1) :: q) := by
      simp only [go_sem, l25x1, b25, Tryz.f25, k0, ks, hne, hx, hw, hlo]
     rw [loop_eq, e, loop_n]
     simp only [hl_app, hl_cons] at j4 ⊢
     exact j4
  ·obtain rfl : i = l.length := by omega
   have k0 := fun lo p q => f26 (lo := lo) (l := l) (i := l.length) (p := p) (q := q) (k := 0) (by omega)
   have hs : suf l l.length = [] := suf_end (Nat.le_refl _)
   simp only [n0, hs, chr_nil] at k0
   refine ⟨l.length, Nat.le_refl _, Nat.le_refl _, by rw [hs]; rfl, ?_⟩
   have hne : ((-1 : Int) != -1) = false := rfl
   rw [loop_eq]
   simp only [go_sem, l25x1, b25, Tryz.f25, k0, hne]
theorem isN_two (s : List Int) (a b : Int) (h : isN s 0 [a, b] = true) (ha : a ≠ -1) (hb : b ≠ -1) : ∃ t, s = a :: b :: t := by
 simp only [isN, Bool.and_true, Bool.and_eq_true, beq_iff_eq] at h
 match s, h with
 | [], h => rw [chr_nil] at h; exact absurd h.1.symm ha
 | [c], h => rw [chr_succ, chr_nil] at h; exact absurd h.2.symm hb
 | c :: d :: t, h =>
  rw [chr_zero, chr_succ, chr_zero] at h
  exact ⟨t, by rw [h.1, h.2]⟩
theorem isN_two' (a b : Int) (t : List Int) : isN (a :: b :: t) 0 [a, b] = true := by
 simp [isN, chr_zero, chr_succ]
theorem suf_add (l : List Int) (i : Nat) (a b : Int) (t : List Int) (h : suf l i = a :: b :: t) : suf l (i + 2) = t ∧ i + 2 ≤ l.length := by
 have h1 : suf l (i + 2) = (suf l i).drop 2 := by simp [suf, List.drop_drop]
 have h2 := suf_len l i
 rw [h, List.length_cons, List.length_cons] at h2
 exact ⟨by rw [h1, h]; rfl, by omega⟩
theorem loop25 (hlo : lo ≤ p.length) (hl : l.length ≤ 100000000000) : ∀ (m i : Nat) (ex : Env), (ex = [] ∨ ∃ b, ex = [(30, .v (.bool b))]) → (suf l i).length ≤ m → i ≤ l.length →
  ∃ j, j ≤ l.length ∧ i ≤ j ∧ suf l j = remN m (suf l i) ∧
   loopW (evCode ⟨Tryz.prog, E, lo, (p ++ R l i :: q).length, h25⟩ loopW l25x0) ((0, .ptr p.length 0) :: ex, p ++ R l i :: q) = some (.exit 0, [(0, .ptr p.length 0), (4, .v (.bool false))], p ++ R l j :: q) := by
 have stop : ∀ (m i : Nat) (ex : Env), (ex = [] ∨ ∃ b, ex = [(30, .v (.bool b))]) → i ≤ l.length → isN (suf l i) 0 [47, 42] = false →
  ∃ j, j ≤ l.length ∧ i ≤ j ∧ suf l j = remN m (suf l i) ∧
   loopW (evCode ⟨Tryz.prog, E, lo, (p ++ R l i :: q).length, h25⟩ loopW l25x0) ((0, .ptr p.length 0) :: ex, p ++ R l i :: q) = some (.exit 0, [(0, .ptr p.length 0), (4, .v (.bool false))], p ++ R l j :: q) := by
  intro m i ex hex h2 hx
  have ks := fun lo p q => f56 (lo := lo) (l := l) (i := i) (p := p) (q := q) (cs := [47, 42]) (by simp; omega)
  simp only [ri_cons, ri_nil] at ks
  refine ⟨i, h2, Nat.le_refl _, ?_, ?_⟩
  ·cases m with
   | zero => rfl
   | succ m =>
    match hs : suf l i with
    | [] => rfl
    | [c] => rfl
    | c :: d :: t =>
     simp only [remN]
     rw [if_neg]
     rintro ⟨rfl, rfl⟩
     rw [hs, isN_two'] at hx
     simp at hx
  ·rw [loop_eq]
   rcases hex with rfl | ⟨b, rfl⟩
   ·simp only [go_sem, l25x0, b25, Tryz.f25, ks, hx]
   ·simp only [go_sem, l25x0, b25, Tryz.f25, ks, hx]
 intro m
 induction m with
 | zero =>
  intro i ex hex h1 h2
  have hs : suf l i = [] := List.eq_nil_of_length_eq_zero (by omega)
  exact stop 0 i ex hex h2 (by rw [hs]; decide)
 | succ m ih =>
  intro i ex hex h1 h2
  cases hx : isN (suf l i) 0 [47, 42] with
  | false => exact stop (m + 1) i ex hex h2 hx
  | true =>
   obtain ⟨t, hs⟩ := isN_two _ _ _ hx (by decide) (by decide)
   obtain ⟨ht, hi2⟩ := suf_add l i _ _ _ hs
   have ks := fun lo p q => f56 (lo := lo) (l := l) (i := i) (p := p) (q := q) (cs := [47, 42]) (by simp; omega)
   simp only [ri_cons, ri_nil] at ks
   obtain ⟨j, j1, j2, j3, hL⟩ := loop25i (lo := lo) (p := p) (q := q) hlo hl l.length (i + 2) (by omega) hi2
   have kj := fun lo p q => f26 (lo := lo) (l := l) (i := j) (p := p) (q := q) (k := 0) (by omega)
   simp only [n0] at kj
   have hw : IntKind.i64.wrap ((i : Int) + 2) = ((i + 2 : Nat) : Int) := by rw [wrap_i64 (by omega) (by omega)]; omega
   have hw2 : IntKind.i64.wrap ((j : Int) + 2) = ((j + 2 : Nat) : Int) := by rw [wrap_i64 (by omega) (by omega)]; omega
   simp only [l25x1, b25, Tryz.f25, loopAt, loops, bodyOf, go_sem] at hL
   rw [ht] at j3
   rcases skipS_ends t with hn | ⟨u, hn⟩
   ·-- no end
    have hj : suf l j = [] := by rw [j3, hn]
    have hne : (chr (suf l j) 0 != -1) = false := by rw [hj, chr_nil]; rfl
    have e : evCode ⟨Tryz.prog, E, lo, (p ++ R l i :: q).length, h25⟩ loopW l25x0 ((0, .ptr p.length 0) :: ex, p ++ R l i :: q) = some (.normal, [(0, .ptr p.length 0), (30, .v (.bool false))], p ++ R l j :: q) := by
     rcases hex with rfl | ⟨b, rfl⟩
     ·simp only [go_sem, l25x0, b25, Tryz.f25, ks, hx, hw, hlo, hL, kj, hne]
     ·simp only [go_sem, l25x0, b25, Tryz.f25, ks, hx, hw, hlo, hL, kj, hne]
    have hlen : (suf l j).length ≤ m := by rw [hj]; simp
    obtain ⟨z, z1, z2, z3, z4⟩ := ih j [(30, .v (.bool false))] (.inr ⟨_, rfl⟩) hlen j1
    refine ⟨z, z1, by omega, ?_, ?_⟩
    ·rw [z3, hs]
     rw [show remN (m + 1) (47 :: 42 :: t) = remN m (skipR t) by simp [remN], skipR_S, hn, hj]
     rfl
    ·rw [loop_eq, e, loop_n]
     simp only [hl_app, hl_cons] at z4 ⊢
     exact z4
   ·have hj : suf l j = 42 :: 47 :: u := by rw [j3, hn]
    obtain ⟨hu, hj2⟩ := suf_add l j _ _ _ hj
    have hne : (chr (suf l j) 0 != -1) = true := by rw [hj, chr_zero]; rfl
    have e : evCode ⟨Tryz.prog, E, lo, (p ++ R l i :: q).length, h25⟩ loopW l25x0 ((0, .ptr p.length 0) :: ex, p ++ R l i :: q) = some (.normal, [(0, .ptr p.length 0)], p ++ R l (j + 2) :: q) := by
     rcases hex with rfl | ⟨b, rfl⟩
     ·simp only [go_sem, l25x0, b25, Tryz.f25, ks, hx, hw, hw2, hlo, hL, kj, hne]
     ·simp only [go_sem, l25x0, b25, Tryz.f25, ks, hx, hw, hw2, hlo, hL, kj, hne]
    have hlen : (suf l (j + 2)).length ≤ m := by
     rw [suf_len] at h1 ⊢
     omega
    obtain ⟨z, z1, z2, z3, z4⟩ := ih (j + 2) [] (.inl rfl) hlen hj2
    refine ⟨z, z1, by omega, ?_, ?_⟩
    ·rw [z3, hs]
     rw [show remN (m + 1) (47 :: 42 :: t) = remN m (skipR t) by simp [remN], skipR_S, hn, hu]
     rfl
    ·rw [loop_eq, e, loop_n]
     simp only [hl_app, hl_cons] at z4 ⊢
     exact z4
theorem f25 (hl : l.length ≤ 100000000000) (hi : i ≤ l.length) : ∃ j, j ≤ l.length ∧ i ≤ j ∧ suf l j = rems (suf l i) ∧
  ∀ lo p q, lo ≤ p.length → E lo 25 [.ptr p.length 0] (p ++ R l i :: q) = some (.tup [], p ++ R l j :: q) := by
 obtain ⟨j, j1, j2, j3, _⟩ := loop25 (lo := 0) (p := []) (q := []) (l := l) (Nat.le_refl _) hl (suf l i).length i [] (.inl rfl) (Nat.le_refl _) hi
 refine ⟨j, j1, j2, j3, fun lo p q hlo => ?_⟩
 obtain ⟨j', j1', _, j3', hL⟩ := loop25 (lo := lo) (p := p) (q := q) (l := l) hlo hl (suf l i).length i [] (.inl rfl) (Nat.le_refl _) hi
 obtain rfl : j' = j := suf_inj j1' j1 (by rw [j3', j3])
 rw [e25 (by simp) (by rfl)]
 simp only [l25x0, b25, Tryz.f25, loopAt, loops, bodyOf, go_sem] at hL
 simp only [go_sem, b25, Tryz.f25, hL]
end
end Go.Lift.R4.T
end

section
open Go.Proofs
namespace Go.Lift.R4.T
set_option linter.unusedSectionVars false
variable [MX]
open Utf Tok
set_option maxRecDepth 20000
set_option linter.unusedSimpArgs false
set_option linter.unusedVariables false
def tokC (k : Int) (t : List Int) : List V := [.v (.int .i64 k), .v (.string (str t)), .v (.int .i64 0), .v (.int .i64 0), .v (.bool false), .v (.bool false)]
theorem str_nil : str [] = ByteArray.empty := rfl
theorem txtN_nil (sign : Int) (m : Nat) : txtN sign m [] = (true, [], []) := by cases m <;> rfl
theorem chr_pos {l : List Int} {i : Nat} (hi : i < l.length) : 0 ≤ chr (suf l i) 0 := by
 rw [suf_chr, Nat.add_zero, List.getElem?_eq_getElem hi]
 exact (scal_in _).1
section
variable {lo i : Nat} {l : List Int} {p q : List Ob}
abbrev B59 (lo : Nat) (p q : List Ob) (l : List Int) (i : Nat) (sign : Int) (out : List Int) : Env × Heap :=
 ([(0, .ptr p.length 0), (2, .ptr (p.length + (q.length + 1)) 0), (3, .v (.int .i32 sign)), (4, .list .yes (ri .i32 out))], p ++ R l i :: (q ++ [.cells (tokC 0 [])]))
theorem loop59 {sign : Int} (hlo : lo ≤ p.length) (hlo2 : lo ≤ p.length + (q.length + 1)) (hl : l.length ≤ 100000000000) (hsg : quo sign = true) : ∀ (m i : Nat) (out : List Int), (suf l i).length ≤ m → i ≤ l.length → out.length ≤ i →
  ∃ j, j ≤ l.length ∧ i ≤ j ∧ suf l j = (txtN sign m (suf l i)).2.2 ∧
   loopW (evCode ⟨Tryz.prog, E, lo, p.length + (q.length + 1), h59⟩ loopW l59x0) (B59 lo p q l i sign out) =
    some (.ret, [(2, .ptr (p.length + (q.length + 1)) 0)], p ++ R l j :: (q ++ [.cells (if (txtN sign m (suf l i)).1 = true then tokC 5 (out ++ (txtN sign m (suf l i)).2.1) else tokC 6 [])])) := by
 have stop : ∀ (m i : Nat) (out : List Int), suf l i = [] → i ≤ l.length → out.length ≤ i →
   ∃ j, j ≤ l.length ∧ i ≤ j ∧ suf l j = (txtN sign m (suf l i)).2.2 ∧
   loopW (evCode ⟨Tryz.prog, E, lo, p.length + (q.length + 1), h59⟩ loopW l59x0) (B59 lo p q l i sign out) =
    some (.ret, [(2, .ptr (p.length + (q.length + 1)) 0)], p ++ R l j :: (q ++ [.cells (if (txtN sign m (suf l i)).1 = true then tokC 5 (out ++ (txtN sign m (suf l i)).2.1) else tokC 6 [])])) := by
  intro m i out hs h2 h3
  have k0 := fun lo p q => f26 (lo := lo) (l := l) (i := i) (p := p) (q := q) (k := 0) (by omega)
  have kf := fun lo h => f69e (lo := lo) (l := out) (h := h) (by omega)
  simp only [n0, hs, chr_nil] at k0
  refine ⟨i, h2, Nat.le_refl _, by rw [hs, txtN_nil], ?_⟩
  have t0 : ((-1 : Int) == 10) = false := rfl
  have t1 : ((-1 : Int) == -1) = true := rfl
  rw [hs, txtN_nil, if_pos rfl, List.append_nil, loop_eq]
  simp only [go_sem, l59x0, b59, Tryz.f59, k0, kf, t0, t1, hlo2, tokC]
  rfl
 intro m
 induction m with
 | zero =>
  intro i out h1 h2 h3
  exact stop 0 i out (List.eq_nil_of_length_eq_zero (by omega)) h2 h3
 | succ m ih =>
  intro i out h1 h2 h3
  rcases Nat.lt_or_ge i l.length with hi | hi
  rotate_left
  ·exact stop (m + 1) i out (suf_end hi) h2 h3
  have hcp := chr_pos hi
  have k0 := fun lo p q => f26 (lo := lo) (l := l) (i := i) (p := p) (q := q) (k := 0) (by omega)
  have k1 := fun lo p q => f26 (lo := lo) (l := l) (i := i) (p := p) (q := q) (k := 1) (by omega)
  have kt := fun lo p q h => f70 (lo := lo) (l := l) (i := i) (p := p) (q := q) h (by omega)
  have kf := fun lo h => f69e (lo := lo) (l := out) (h := h) (by omega)
  have hr : ∀ k, k ≤ 4 → (out.length + k) * 4 ≤ 140737488355328 := by intro k hk; omega
  have hq : ∀ k, 9223372036854775800 ≤ k → out.length ≤ k := by intro k hk; omega
  have app : ∀ y : Int, ri .i32 out ++ [[V.v (.int .i32 y)]] = ri .i32 (out ++ [y]) := by intro y; rw [← ri_app]; rfl
  have hw1 : IntKind.i64.wrap ((i : Int) + 1) = ((i + 1 : Nat) : Int) := wrap_succ (by omega)
  have hw2 : IntKind.i64.wrap ((i : Int) + 2) = ((i + 2 : Nat) : Int) := by rw [wrap_i64 (by omega) (by omega)]; omega
  have n1 : ((1 : Nat) : Int) = 1 := rfl
  simp only [n0, n1] at k0 k1
  have hs := suf_next hi
  have hn : chr (suf l i) 1 = chr (suf l (i + 1)) 0 := by rw [hs]; exact chr_succ _ _ 0
  rw [hn] at k1
  generalize chr (suf l i) 0 = c at hs k0 kt hcp
  rw [hs] at h1 ⊢
  simp only [List.length_cons] at h1
  have te : (c == -1) = false := by simp; omega
  by_cases c10 : c = 10
  ·subst c10
   have t0 : ((10 : Int) == 10) = true := rfl
   have e : txtN sign (m + 1) (10 :: suf l (i + 1)) = (false, [], 10 :: suf l (i + 1)) := by simp [txtN]
   refine ⟨i, h2, Nat.le_refl _, by rw [e, hs], ?_⟩
   rw [e, if_neg (by simp), loop_eq]
   simp only [go_sem, l59x0, b59, Tryz.f59, k0, t0, hlo2, tokC]
   rfl
  have t0 : (c == 10) = false := by simp [c10]
  by_cases csg : c = sign
  ·subst csg
   have t1 : (c == c) = true := by simp
   have e : txtN c (m + 1) (c :: suf l (i + 1)) = (true, [], suf l (i + 1)) := by simp [txtN, c10]
   refine ⟨i + 1, by omega, by omega, by rw [e], ?_⟩
   rw [e, if_pos rfl, List.append_nil, loop_eq]
   simp only [go_sem, l59x0, b59, Tryz.f59, k0, t0, te, t1, hlo, hlo2, hw1, kf, tokC]
   rfl
  have t1 : (c == sign) = false := by simp [csg]
  by_cases c92 : c = 92
  ·subst c92
   have t2 : ((92 : Int) == 92) = true := rfl
   rcases Nat.lt_or_ge (i + 1) l.length with hi2 | hi2
   ·have hs2 := suf_next hi2
    have hdp := chr_pos hi2
    by_cases d10 : chr (suf l (i + 1)) 0 = 10
    ·rw [d10] at hs2 k1
     have t3 : ((10 : Int) == -1) = false := rfl
     have t4 : ((10 : Int) == 10) = true := rfl
     have hmin : ¬ ((l.length : Int) < ((i + 2 : Nat) : Int)) := by omega
     have e : txtN sign (m + 1) (92 :: suf l (i + 1)) = txtN sign m (suf l (i + 2)) := by
      rw [hs2]
      simp only [txtN]
      rw [if_neg c10, if_neg csg]
      simp
     obtain ⟨j, j1, j2, j3, j4⟩ := ih (i + 2) out (by rw [suf_len] at h1 ⊢; omega) (by omega) (by omega)
     refine ⟨j, j1, by omega, by rw [j3, e], ?_⟩
     have er : evCode ⟨Tryz.prog, E, lo, p.length + (q.length + 1), h59⟩ loopW l59x0 (B59 lo p q l i sign out) = some (.normal, B59 lo p q l (i + 2) sign out) := by
      simp only [go_sem, l59x0, b59, Tryz.f59, k0, k1, t0, te, t1, t2, t3, t4, hlo, hw2, hmin, tokC]
      rfl
     rw [loop_eq, er, loop_n, e]
     exact j4
    ·have t3 : (chr (suf l (i + 1)) 0 == -1) = false := by simp; omega
     have t4 : (chr (suf l (i + 1)) 0 == 10) = false := by simp [d10]
     obtain ⟨j0, a1, a2, a3, a4⟩ := f110 (l := l) (i := i + 1) hl (by omega)
     have e : txtN sign (m + 1) (92 :: suf l (i + 1)) = ((txtN sign m (escd (suf l (i + 1))).2).1, (escd (suf l (i + 1))).1 :: (txtN sign m (escd (suf l (i + 1))).2).2.1, (txtN sign m (escd (suf l (i + 1))).2).2.2) := by
      generalize hd : chr (suf l (i + 1)) 0 = d at hs2 d10
      rw [hs2]
      simp only [txtN]
      rw [if_neg c10, if_neg csg]
      simp [d10]
     obtain ⟨j, j1, j2, j3, j4⟩ := ih j0 (out ++ [(escd (suf l (i + 1))).1]) (by rw [suf_len] at h1 ⊢; omega) a1 (by simp; omega)
     refine ⟨j, j1, by omega, by rw [j3, e, a3], ?_⟩
     have er : evCode ⟨Tryz.prog, E, lo, p.length + (q.length + 1), h59⟩ loopW l59x0 (B59 lo p q l i sign out) = some (.normal, B59 lo p q l j0 sign (out ++ [(escd (suf l (i + 1))).1])) := by
      simp only [go_sem, l59x0, b59, Tryz.f59, k0, k1, t0, te, t1, t2, t3, t4, hlo, hw1, a4 _ _ _ hlo, hr, hq, app, and_self, tokC]
      rfl
     rw [loop_eq, er, loop_n, j4, e, a3, List.append_assoc]
     rfl
   ·have hs2 : suf l (i + 1) = [] := suf_end hi2
    rw [hs2, chr_nil] at k1
    have t3 : ((-1 : Int) == -1) = true := rfl
    have hmin : ((l.length : Int) < ((i + 2 : Nat) : Int)) := by omega
    have e : txtN sign (m + 1) (92 :: suf l (i + 1)) = (true, [], []) := by
     rw [hs2]
     simp only [txtN]
     rw [if_neg c10, if_neg csg]
     simp
    obtain ⟨j, j1, j2, j3, j4⟩ := stop m l.length out (suf_end (Nat.le_refl _)) (Nat.le_refl _) (by omega)
    rw [suf_end (Nat.le_refl _), txtN_nil] at j3 j4
    refine ⟨j, j1, by omega, by rw [j3, e], ?_⟩
    have er : evCode ⟨Tryz.prog, E, lo, p.length + (q.length + 1), h59⟩ loopW l59x0 (B59 lo p q l i sign out) = some (.normal, B59 lo p q l l.length sign out) := by
     simp only [go_sem, l59x0, b59, Tryz.f59, k0, k1, t0, te, t1, t2, t3, hlo, hw2, hmin, tokC]
     rfl
    rw [loop_eq, er, loop_n, e]
    exact j4
  ·have t2 : (c == 92) = false := by simp [c92]
   have e : txtN sign (m + 1) (c :: suf l (i + 1)) = ((txtN sign m (suf l (i + 1))).1, c :: (txtN sign m (suf l (i + 1))).2.1, (txtN sign m (suf l (i + 1))).2.2) := by
    simp only [txtN]
    rw [if_neg c10, if_neg csg, if_neg c92]
   obtain ⟨j, j1, j2, j3, j4⟩ := ih (i + 1) (out ++ [c]) (by omega) (by omega) (by simp; omega)
   refine ⟨j, j1, by omega, by rw [j3, e], ?_⟩
   have er : evCode ⟨Tryz.prog, E, lo, p.length + (q.length + 1), h59⟩ loopW l59x0 (B59 lo p q l i sign out) = some (.normal, B59 lo p q l (i + 1) sign (out ++ [c])) := by
    simp only [go_sem, l59x0, b59, Tryz.f59, k0, t0, te, t1, t2, hlo, kt _ _ _ hlo, hr, hq, app, and_self, tokC]
    rfl
   rw [loop_eq, er, loop_n, j4, e, List.append_assoc]
   rfl
theorem f59 {sign : Int} {t : List Int} (hl : l.length ≤ 100000000000) (hi : i < l.length) (hsg : quo sign = true) (hs : suf l i = sign :: t) : ∃ j, j ≤ l.length ∧ i < j ∧ suf l j = (txt sign t).2.2 ∧
  ∀ lo p q, lo ≤ p.length → E lo 59 [.ptr p.length 0] (p ++ R l i :: q) = some (.agg (if (txt sign t).1 = true then tokC 5 (txt sign t).2.1 else tokC 6 []), p ++ R l j :: q) := by
 have ht : suf l (i + 1) = t := by
  have := suf_next hi
  rw [hs] at this
  simp only [List.cons.injEq] at this
  exact this.2.symm
 have hc : chr (suf l i) 0 = sign := by rw [hs]; rfl
 obtain ⟨j, j1, j2, j3, _⟩ := loop59 (lo := 0) (p := []) (q := []) (l := l) (Nat.le_refl _) (Nat.zero_le _) hl hsg t.length (i + 1) [] (by rw [ht]; exact Nat.le_refl _) (by omega) (by simp)
 rw [ht] at j3
 refine ⟨j, j1, by omega, j3, fun lo p q hlo => ?_⟩
 have hlo2 : lo ≤ p.length + (q.length + 1) := by omega
 obtain ⟨j', j1', _, j3', hL⟩ := loop59 (lo := lo) (p := p) (q := q) (l := l) hlo hlo2 hl hsg t.length (i + 1) [] (by rw [ht]; exact Nat.le_refl _) (by omega) (by simp)
 rw [ht] at j3' hL
 obtain rfl : j' = j := suf_inj j1' j1 (by rw [j3', j3])
 have kt := fun lo p q h => f70 (lo := lo) (l := l) (i := i) (p := p) (q := q) h (by omega)
 rw [hc] at kt
 rw [e59 (by simp) (by rfl)]
 simp only [B59, tokC, l59x0, b59, Tryz.f59, loopAt, loops, bodyOf, go_sem, ri_nil, str_nil] at hL
 simp only [go_sem, b59, Tryz.f59, kt _ _ _ hlo, hL]
 unfold txt
 cases (txtN sign t.length t).1 <;> rfl
end
end Go.Lift.R4.T
end

section
open Go.Proofs
namespace Go.Lift.R4.T
set_option linter.unusedSectionVars false
variable [MX]
open Utf Tok
set_option maxRecDepth 20000
set_option linter.unusedSimpArgs false
set_option linter.unusedVariables false
section
variable {lo i : Nat} {l : List Int} {p q : List Ob}
theorem badN_nil (m : Nat) : badN m [] = [] := by cases m <;> rfl
theorem isN_one (s : List Int) (a : Int) : isN s 0 [a] = (chr s 0 == a) := by simp [isN]
theorem loop149 (hlo : lo ≤ p.length) (hlo2 : lo ≤ p.length + (q.length + 1)) (hl : l.length ≤ 100000000000) : ∀ (m i : Nat) (ex : Env), (ex = [] ∨ ∃ b, ex = [(35, .v (.bool b))]) → (suf l i).length ≤ m → i ≤ l.length →
  ∃ j, j ≤ l.length ∧ i ≤ j ∧ suf l j = badN m (suf l i) ∧
   loopW (evCode ⟨Tryz.prog, E, lo, p.length + (q.length + 1), h149⟩ loopW l149x0) ((0, .ptr p.length 0) :: (2, .ptr (p.length + (q.length + 1)) 0) :: ex, p ++ R l i :: (q ++ [.cells (tokC 0 [])])) =
    some (.ret, [(2, .ptr (p.length + (q.length + 1)) 0)], p ++ R l j :: (q ++ [.cells (tokC 8 [])])) := by
 have stop : ∀ (m i : Nat) (ex : Env), (ex = [] ∨ ∃ b, ex = [(35, .v (.bool b))]) → suf l i = [] → i ≤ l.length →
  ∃ j, j ≤ l.length ∧ i ≤ j ∧ suf l j = badN m (suf l i) ∧
   loopW (evCode ⟨Tryz.prog, E, lo, p.length + (q.length + 1), h149⟩ loopW l149x0) ((0, .ptr p.length 0) :: (2, .ptr (p.length + (q.length + 1)) 0) :: ex, p ++ R l i :: (q ++ [.cells (tokC 0 [])])) =
    some (.ret, [(2, .ptr (p.length + (q.length + 1)) 0)], p ++ R l j :: (q ++ [.cells (tokC 8 [])])) := by
  intro m i ex hex hs h2
  have k0 := fun lo p q => f26 (lo := lo) (l := l) (i := i) (p := p) (q := q) (k := 0) (by omega)
  simp only [n0, hs, chr_nil] at k0
  refine ⟨i, h2, Nat.le_refl _, by rw [hs, badN_nil], ?_⟩
  have t1 : ((-1 : Int) == -1) = true := rfl
  rw [loop_eq]
  rcases hex with rfl | ⟨b, rfl⟩
  ·simp only [go_sem, l149x0, b149, Tryz.f149, k0, t1, hlo2, tokC]
   rfl
  ·simp only [go_sem, l149x0, b149, Tryz.f149, k0, t1, hlo2, tokC]
   rfl
 intro m
 induction m with
 | zero =>
  intro i ex hex h1 h2
  exact stop 0 i ex hex (List.eq_nil_of_length_eq_zero (by omega)) h2
 | succ m ih =>
  intro i ex hex h1 h2
  rcases Nat.lt_or_ge i l.length with hi | hi
  rotate_left
  ·exact stop (m + 1) i ex hex (suf_end hi) h2
  have hcp := chr_pos hi
  have k0 := fun lo p q => f26 (lo := lo) (l := l) (i := i) (p := p) (q := q) (k := 0) (by omega)
  have ks := fun lo p q => f56 (lo := lo) (l := l) (i := i) (p := p) (q := q) (cs := [41]) (by simp; omega)
  have ke := fun lo p q => f65 (lo := lo) (l := l) (i := i) (p := p) (q := q) (k := 0) (by omega)
  have hw1 : IntKind.i64.wrap ((i : Int) + 1) = ((i + 1 : Nat) : Int) := wrap_succ (by omega)
  simp only [n0, ri_cons, ri_nil, isN_one] at k0 ks ke
  have hs := suf_next hi
  have hn : chr (suf l i) (0 + 1) = chr (suf l (i + 1)) 0 := by rw [hs]; exact chr_succ _ _ 0
  rw [hn] at ke
  generalize chr (suf l i) 0 = c at hs k0 ks ke hcp
  rw [hs] at h1 ⊢
  simp only [List.length_cons] at h1
  have te : (c == -1) = false := by simp; omega
  by_cases c41 : c = 41
  ·subst c41
   have t0 : ((41 : Int) == 41) = true := rfl
   have e : badN (m + 1) (41 :: suf l (i + 1)) = suf l (i + 1) := by simp [badN]
   refine ⟨i + 1, by omega, by omega, by rw [e], ?_⟩
   rw [loop_eq]
   rcases hex with rfl | ⟨b, rfl⟩
   ·simp only [go_sem, l149x0, b149, Tryz.f149, k0, ks, te, t0, hlo, hlo2, hw1, tokC]
    rfl
   ·simp only [go_sem, l149x0, b149, Tryz.f149, k0, ks, te, t0, hlo, hlo2, hw1, tokC]
    rfl
  have t0 : (c == 41) = false := by simp [c41]
  cases he : esc c (chr (suf l (i + 1)) 0) with
  | true =>
   obtain ⟨j0, a1, a2, a3, a4⟩ := f110 (l := l) (i := i + 1) hl (by omega)
   have e : badN (m + 1) (c :: suf l (i + 1)) = badN m (escd (suf l (i + 1))).2 := by
    simp only [badN]
    rw [if_neg c41, if_pos he]
   obtain ⟨j, j1, j2, j3, j4⟩ := ih j0 [] (.inl rfl) (by rw [suf_len] at h1 ⊢; omega) a1
   refine ⟨j, j1, by omega, by rw [j3, e, a3], ?_⟩
   have er : evCode ⟨Tryz.prog, E, lo, p.length + (q.length + 1), h149⟩ loopW l149x0 ((0, .ptr p.length 0) :: (2, .ptr (p.length + (q.length + 1)) 0) :: ex, p ++ R l i :: (q ++ [.cells (tokC 0 [])])) =
     some (.normal, [(0, .ptr p.length 0), (2, .ptr (p.length + (q.length + 1)) 0)], p ++ R l j0 :: (q ++ [.cells (tokC 0 [])])) := by
    rcases hex with rfl | ⟨b, rfl⟩
    ·simp only [go_sem, l149x0, b149, Tryz.f149, k0, ks, ke, te, t0, he, hlo, hlo2, hw1, a4 _ _ _ hlo, tokC]
    ·simp only [go_sem, l149x0, b149, Tryz.f149, k0, ks, ke, te, t0, he, hlo, hlo2, hw1, a4 _ _ _ hlo, tokC]
   rw [loop_eq, er, loop_n]
   exact j4
  | false =>
   have e : badN (m + 1) (c :: suf l (i + 1)) = badN m (suf l (i + 1)) := by
    simp only [badN]
    rw [if_neg c41, if_neg (by simp [he])]
   obtain ⟨j, j1, j2, j3, j4⟩ := ih (i + 1) [] (.inl rfl) (by omega) (by omega)
   refine ⟨j, j1, by omega, by rw [j3, e], ?_⟩
   have er : evCode ⟨Tryz.prog, E, lo, p.length + (q.length + 1), h149⟩ loopW l149x0 ((0, .ptr p.length 0) :: (2, .ptr (p.length + (q.length + 1)) 0) :: ex, p ++ R l i :: (q ++ [.cells (tokC 0 [])])) =
     some (.normal, [(0, .ptr p.length 0), (2, .ptr (p.length + (q.length + 1)) 0)], p ++ R l (i + 1) :: (q ++ [.cells (tokC 0 [])])) := by
    rcases hex with rfl | ⟨b, rfl⟩
    ·simp only [go_sem, l149x0, b149, Tryz.f149, k0, ks, ke, te, t0, he, hlo, hlo2, hw1, tokC]
    ·simp only [go_sem, l149x0, b149, Tryz.f149, k0, ks, ke, te, t0, he, hlo, hlo2, hw1, tokC]
   rw [loop_eq, er, loop_n]
   exact j4
theorem f149 (hl : l.length ≤ 100000000000) (hi : i ≤ l.length) : ∃ j, j ≤ l.length ∧ i ≤ j ∧ suf l j = badu (suf l i) ∧
  ∀ lo p q, lo ≤ p.length → E lo 149 [.ptr p.length 0] (p ++ R l i :: q) = some (.agg (tokC 8 []), p ++ R l j :: q) := by
 obtain ⟨j, j1, j2, j3, _⟩ := loop149 (lo := 0) (p := []) (q := []) (l := l) (Nat.le_refl _) (Nat.zero_le _) hl (suf l i).length i [] (.inl rfl) (Nat.le_refl _) hi
 refine ⟨j, j1, j2, j3, fun lo p q hlo => ?_⟩
 have hlo2 : lo ≤ p.length + (q.length + 1) := by omega
 obtain ⟨j', j1', _, j3', hL⟩ := loop149 (lo := lo) (p := p) (q := q) (l := l) hlo hlo2 hl (suf l i).length i [] (.inl rfl) (Nat.le_refl _) hi
 obtain rfl : j' = j := suf_inj j1' j1 (by rw [j3', j3])
 rw [e149 (by simp) (by rfl)]
 simp only [tokC, l149x0, b149, Tryz.f149, loopAt, loops, bodyOf, go_sem, str_nil] at hL
 simp only [go_sem, b149, Tryz.f149, hL]
 rfl
end
end Go.Lift.R4.T
end

section
open Go.Proofs
namespace Go.Lift.R4.T
set_option linter.unusedSectionVars false
variable [MX]
open Utf Tok
set_option maxRecDepth 20000
set_option linter.unusedSimpArgs false
set_option linter.unusedVariables false
def low (c : Int) : Int := if (decide (65 ≤ c) && decide (c ≤ 90)) = true then c + 32 else c
def bl (l : List Int) : List V := l.map fun n => .v (.int .u8 n)
theorem bl_len (l : List Int) : (bl l).length = l.length := by simp [bl]
theorem bl_get (l : List Int) (i : Nat) : (bl l)[i]? = (l[i]?).map fun n => V.v (.int .u8 n) := by simp [bl]
theorem bl_set (l : List Int) (i : Nat) (n : Int) : (bl l).set i (.v (.int .u8 n)) = bl (l.set i n) := by simp [bl, List.map_set]
theorem byteCells_u8s {l : List Int} (hy : By l) : byteCells ⟨(u8s l).toArray⟩ = bl l := by
 simp only [byteCells, u8s, bl, List.map_map]
 refine List.map_congr_left fun n hn => ?_
 have := hy n hn
 have e : ((UInt8.ofNat n.toNat).toNat : Int) = n := by
  rw [UInt8.toNat_ofNat']
  omega
 simp only [Function.comp, e]
theorem loop55 {lo : Nat} {h : Heap} (hlo : lo ≤ h.length) : ∀ (n : Nat) (a b : List Int), b.length ≤ n → a.length + b.length ≤ 1000000000000 → By b →
  loopW (evCode ⟨Tryz.prog, E, lo, h.length, h55⟩ loopW l55x0) ([(3, .buf h.length 0 (a.length + b.length)), (8, .buf h.length 0 (a.length + b.length)), (9, .v (.int .i64 (a.length + b.length : Nat))), (10, .v (.int .i64 a.length))], h ++ [.cells (bl (a ++ b))]) =
   some (.exit 0, [(3, .buf h.length 0 (a.length + b.length)), (8, .buf h.length 0 (a.length + b.length)), (9, .v (.int .i64 (a.length + b.length : Nat))), (10, .v (.int .i64 (a.length + b.length : Nat))), (11, .v (.bool false))], h ++ [.cells (bl (a ++ b.map low))]) := by
 intro n
 induction n with
 | zero =>
  intro a b hb hab hy
  obtain rfl : b = [] := List.eq_nil_of_length_eq_zero (by omega)
  have hd : decide (((a.length : Nat) : Int) < ((a.length + ([] : List Int).length : Nat) : Int)) = false := by simp
  rw [loop_eq]
  simp only [List.length_nil, Nat.add_zero] at hd ⊢
  simp only [go_sem, l55x0, b55, Tryz.f55, hd, List.map_nil]
 | succ n ih =>
  intro a b hb hab hy
  cases b with
  | nil =>
   have hd : decide (((a.length : Nat) : Int) < ((a.length + ([] : List Int).length : Nat) : Int)) = false := by simp
   rw [loop_eq]
   simp only [List.length_nil, Nat.add_zero] at hd ⊢
   simp only [go_sem, l55x0, b55, Tryz.f55, hd, List.map_nil]
  | cons c b =>
   have hcy := hy c (List.mem_cons_self ..)
   have hd : decide ((a.length : Int) < ((a.length + (c :: b).length : Nat) : Int)) = true := by simp; omega
   have hx : (bl (a ++ c :: b))[a.length]? = some (.v (.int .u8 c)) := by simp [bl_get]
   have hw : IntKind.i64.wrap ((a.length : Int) + 1) = ((a.length + 1 : Nat) : Int) := wrap_succ (by omega)
   have hlt : a.length < a.length + (c :: b).length := by simp
   have hih := ih (a ++ [low c]) b (by simp at hb; omega) (by simp at hab ⊢; omega) (fun x hx => hy x (List.mem_cons_of_mem _ hx))
   have el : (a ++ [low c]).length + b.length = a.length + (c :: b).length := by simp; omega
   have el2 : (a ++ [low c]).length = a.length + 1 := by simp
   have el3 : a ++ [low c] ++ b.map low = a ++ (c :: b).map low := by simp
   rw [el, el2, el3] at hih
   by_cases hc : (decide (65 ≤ c) && decide (c ≤ 90)) = true
   ·have hs : (bl (a ++ c :: b)).set a.length (.v (.int .u8 (c + 32))) = bl (a ++ [low c] ++ b) := by
     rw [bl_set, low, if_pos hc]
     simp
    have hc' := hc
    simp only [Bool.and_eq_true, decide_eq_true_eq] at hc'
    have hwc : IntKind.u8.wrap (c + 32) = c + 32 := wrap_u8 (by omega) (by omega)
    have hbl : a.length + 1 ≤ (bl (a ++ c :: b)).length := by rw [bl_len]; simp
    generalize hcs : a.length + (c :: b).length = k at *
    have er : evCode ⟨Tryz.prog, E, lo, h.length, h55⟩ loopW l55x0 ([(3, .buf h.length 0 k), (8, .buf h.length 0 k), (9, .v (.int .i64 (k : Nat))), (10, .v (.int .i64 a.length))], h ++ [.cells (bl (a ++ c :: b))]) =
      some (.normal, [(3, .buf h.length 0 k), (8, .buf h.length 0 k), (9, .v (.int .i64 (k : Nat))), (10, .v (.int .i64 (a.length + 1 : Nat)))], h ++ [.cells (bl (a ++ [low c] ++ b))]) := by
     have hlt' : (a.length : Int) < k := by omega
     have h0' : (0 : Int) ≤ a.length := by omega
     simp only [go_sem, l55x0, b55, Tryz.f55, hd, hx, hw, hc, hwc, hs, hlo, hlt, hlt', h0', hbl, Nat.zero_add, Int.toNat_natCast, and_self]
    rw [loop_eq, er, loop_n]
    exact hih
   ·have hl2 : low c = c := by rw [low, if_neg hc]
    have hc2 : (decide (65 ≤ c) && decide (c ≤ 90)) = false := by simpa using hc
    rw [hl2] at hih
    generalize hcs : a.length + (c :: b).length = k at *
    have er : evCode ⟨Tryz.prog, E, lo, h.length, h55⟩ loopW l55x0 ([(3, .buf h.length 0 k), (8, .buf h.length 0 k), (9, .v (.int .i64 (k : Nat))), (10, .v (.int .i64 a.length))], h ++ [.cells (bl (a ++ c :: b))]) =
      some (.normal, [(3, .buf h.length 0 k), (8, .buf h.length 0 k), (9, .v (.int .i64 (k : Nat))), (10, .v (.int .i64 (a.length + 1 : Nat)))], h ++ [.cells (bl (a ++ c :: b))]) := by
     have hlt' : (a.length : Int) < k := by omega
     have h0' : (0 : Int) ≤ a.length := by omega
     simp only [go_sem, l55x0, b55, Tryz.f55, hd, hx, hw, hc2, hlo, hlt, hlt', h0', Nat.zero_add, Int.toNat_natCast, and_self]
    rw [loop_eq, er, loop_n]
    have e4 : a ++ c :: b = a ++ [c] ++ b := by simp
    rw [e4]
    exact hih
theorem f55 {lo : Nat} {l : List Int} {h : Heap} (hlo : lo ≤ h.length) (hl : l.length ≤ 1000000000000) (hy : By l) : E lo 55 [.v (.string ⟨(u8s l).toArray⟩)] h = some (.v (.string ⟨(u8s (l.map low)).toArray⟩), h) := by
 have hL := loop55 (lo := lo) (h := h) hlo l.length [] l (Nat.le_refl _) (by simpa using hl) hy
 have hz : (⟨(u8s l).toArray⟩ : ByteArray).size = l.length := by simp [ByteArray.size, u8s]
 rw [e55 (by simp) (by rfl)]
 simp only [l55x0, b55, Tryz.f55, loopAt, loops, bodyOf, go_sem, List.length_nil, Nat.zero_add] at hL
 have hb1 : decide (0 + l.length ≤ (bl (l.map low)).length) = true := by rw [bl_len]; simp
 have hb2 : ((bl (l.map low)).take l.length).map (fun x => [x]) = ri .u8 (l.map low) := by
  rw [List.take_of_length_le (by rw [bl_len]; simp)]
  simp [bl, ri]
 simp only [go_sem, b55, Tryz.f55, hz, byteCells_u8s hy, hL, hb1, hb2]
def like (a b : List Int) : Bool := (u8s (a.map low)) == (u8s (b.map low))
theorem f24 {lo : Nat} {a b : List Int} {h : Heap} (hlo : lo ≤ h.length) (ha : a.length ≤ 1000000000000) (hya : By a) (hb : b.length ≤ 1000000000000) (hyb : By b) :
  E lo 24 [.v (.string ⟨(u8s a).toArray⟩), .v (.string ⟨(u8s b).toArray⟩)] h = some (.v (.bool (like a b)), h) := by
 have k1 := f55 (lo := lo) (h := h) hlo ha hya
 have k2 := f55 (lo := lo) (h := h) hlo hb hyb
 rw [e24 (by simp) (by rfl)]
 simp only [go_sem, b24, Tryz.f24, k1, k2, ByteArray.toList_eq]
 rfl
end Go.Lift.R4.T
end
