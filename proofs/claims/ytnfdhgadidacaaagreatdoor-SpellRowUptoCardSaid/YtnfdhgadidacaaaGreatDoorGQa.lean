/- The program and the reference, evaluated. -/
import Derived.Test.YtnfdhgadidacaaaGreatDoorGZa
import Derived.Test.YtnfdhgadidacaaaGreatDoorGP4Basea
import Derived.Test.YtnfdhgadidacaaaGreatDoorGPc
section
open Go.Proofs
namespace Go.Lift.R4.T
set_option linter.unusedSectionVars false
variable [MX]
open Utf Tok
set_option maxRecDepth 20000
set_option linter.unusedSimpArgs false
set_option linter.unusedVariables false
theorem f61 {lo : Nat} {c : Int} {h : Heap} : E lo 61 [.v (.int .i32 c)] h = some (.v (.bool (dig c)), h) := by
 rw [e61 (by simp) (by rfl)]
 simp only [go_sem, b61, Tryz.f61, dig]
theorem f113 {lo : Nat} {c : Int} {h : Heap} : E lo 113 [.v (.int .i32 c)] h = some (.v (.bool (fst1 c)), h) := by
 rw [e113 (by simp) (by rfl)]
 simp only [go_sem, b113, Tryz.f113, fst1]
theorem f64 {lo : Nat} {c : Int} {h : Heap} : E lo 64 [.v (.int .i32 c)] h = some (.v (.bool (ltr c)), h) := by
 rw [e64 (by simp) (by rfl)]
 simp only [go_sem, b64, Tryz.f64, f113, f61, ltr]
theorem f57 {lo : Nat} {c : Int} {h : Heap} : E lo 57 [.v (.int .i32 c)] h = some (.v (.bool (blk c)), h) := by
 rw [e57 (by simp) (by rfl)]
 simp only [go_sem, b57, Tryz.f57, blk]
theorem f142 {lo : Nat} {c : Int} {h : Heap} (h0 : -1 ≤ c) (h1 : c ≤ 1114111) : E lo 142 [.v (.int .i32 c)] h = some (.v (.int .i32 (hex c)), h) := by
 rw [e142 (by simp) (by rfl)]
 have w1 : IntKind.i32.wrap (c - 48) = c - 48 := wrap_i32 (by omega) (by omega)
 have w2 : IntKind.i32.wrap (c - 97) = c - 97 := wrap_i32 (by omega) (by omega)
 have w3 : IntKind.i32.wrap (c - 97 + 10) = c - 97 + 10 := wrap_i32 (by omega) (by omega)
 have w4 : IntKind.i32.wrap (c - 65) = c - 65 := wrap_i32 (by omega) (by omega)
 have w5 : IntKind.i32.wrap (c - 65 + 10) = c - 65 + 10 := wrap_i32 (by omega) (by omega)
 unfold hex
 cases hd : dig c with
 | true => simp only [go_sem, b142, Tryz.f142, f61, hd, w1]
 | false =>
  cases ha : decide (97 ≤ c) && decide (c ≤ 102) with
  | true => simp only [go_sem, b142, Tryz.f142, f61, hd, ha, w2, w3, Bool.false_eq_true]
  | false =>
   cases hb : decide (65 ≤ c) && decide (c ≤ 70) with
   | true => simp only [go_sem, b142, Tryz.f142, f61, hd, ha, hb, w4, w5, Bool.false_eq_true]
   | false => simp only [go_sem, b142, Tryz.f142, f61, hd, ha, hb, Bool.false_eq_true]
def suf (l : List Int) (i : Nat) : List Int := (l.map scal).drop i
abbrev R (l : List Int) (i : Nat) : Ob := .cells [.list .no (ri .i32 l), .v (.int .i64 i)]
theorem suf_chr (l : List Int) (i k : Nat) : chr (suf l i) k = match l[i + k]? with
  | some x => scal x
  | none => -1 := by
 unfold chr suf
 rw [List.getElem?_drop, List.getElem?_map]
 cases l[i + k]? <;> rfl
theorem chr_in (l : List Int) (i k : Nat) : -1 ≤ chr (suf l i) k ∧ chr (suf l i) k ≤ 1114111 := by
 rw [suf_chr]
 cases l[i + k]? with
 | none => simp
 | some x => have := scal_in x; simp only; omega
section
variable {lo i : Nat} {l : List Int} {p q : List Ob}
theorem f26 {k : Nat} (hi : i + k ≤ 1000000000000) : E lo 26 [.ptr p.length 0, .v (.int .i64 k)] (p ++ R l i :: q) = some (.v (.int .i32 (chr (suf l i) k)), p ++ R l i :: q) := by
 have hw : IntKind.i64.wrap ((i : Int) + k) = ((i + k : Nat) : Int) := by rw [wrap_i64 (by omega) (by omega)]; omega
 rw [e26 (by simp) (by rfl), suf_chr]
 by_cases hl : i + k < l.length
 ·have hx : l[i + k]? = some l[i + k] := List.getElem?_eq_getElem hl
  have hd : decide ((l.length : Int) ≤ (i + k : Nat)) = false := by simp; omega
  rw [hx]
  generalize l[i + k] = x at hx
  simp only [go_sem, b26, Tryz.f26, hw, hd, hx]
  rfl
 ·have hx : l[i + k]? = none := List.getElem?_eq_none (by omega)
  have hd : decide ((l.length : Int) ≤ (i + k : Nat)) = true := by simp; omega
  rw [hx]
  simp only [go_sem, b26, Tryz.f26, hw, hd, hx]
theorem f70 (hlo : lo ≤ p.length) (hi : i + 1 ≤ 1000000000000) : E lo 70 [.ptr p.length 0] (p ++ R l i :: q) = some (.v (.int .i32 (chr (suf l i) 0)), p ++ R l (i + 1) :: q) := by
 have hw : IntKind.i64.wrap ((i : Int) + 1) = ((i + 1 : Nat) : Int) := wrap_succ (by omega)
 have k0 := fun lo p q => f26 (lo := lo) (l := l) (i := i) (p := p) (q := q) (k := 0) (by omega)
 simp only [n0] at k0
 rw [e70 (by simp) (by rfl)]
 simp only [go_sem, b70, Tryz.f70, k0, hw, hlo]
theorem f65 {k : Nat} (hi : i + k + 1 ≤ 1000000000000) : E lo 65 [.ptr p.length 0, .v (.int .i64 k)] (p ++ R l i :: q) = some (.v (.bool (esc (chr (suf l i) k) (chr (suf l i) (k + 1)))), p ++ R l i :: q) := by
 have hw : IntKind.i64.wrap ((k : Int) + 1) = ((k + 1 : Nat) : Int) := wrap_succ (by omega)
 have k0 := fun lo p q => f26 (lo := lo) (l := l) (i := i) (p := p) (q := q) (k := k) (by omega)
 have k1 := fun lo p q => f26 (lo := lo) (l := l) (i := i) (p := p) (q := q) (k := k + 1) (by omega)
 rw [e65 (by simp) (by rfl)]
 simp only [go_sem, b65, Tryz.f65, hw, k0, k1, esc]
theorem f62 {k : Nat} (hi : i + k + 2 ≤ 1000000000000) : E lo 62 [.ptr p.length 0, .v (.int .i64 k)] (p ++ R l i :: q) = some (.v (.bool (num (chr (suf l i) k) (chr (suf l i) (k + 1)) (chr (suf l i) (k + 1 + 1)))), p ++ R l i :: q) := by
 have hw : IntKind.i64.wrap ((k : Int) + 1) = ((k + 1 : Nat) : Int) := wrap_succ (by omega)
 have hw2 : IntKind.i64.wrap (((k + 1 : Nat) : Int) + 1) = ((k + 1 + 1 : Nat) : Int) := wrap_succ (by omega)
 have k0 := fun lo p q => f26 (lo := lo) (l := l) (i := i) (p := p) (q := q) (k := k) (by omega)
 have k1 := fun lo p q => f26 (lo := lo) (l := l) (i := i) (p := p) (q := q) (k := k + 1) (by omega)
 have k2 := fun lo p q => f26 (lo := lo) (l := l) (i := i) (p := p) (q := q) (k := k + 1 + 1) (by omega)
 rw [e62 (by simp) (by rfl)]
 generalize chr (suf l i) k = a at k0
 cases ha : a == 43 || a == 45 with
 | true => simp only [go_sem, b62, Tryz.f62, hw, hw2, k0, k1, k2, f61, ha, num]
 | false => simp only [go_sem, b62, Tryz.f62, hw, hw2, k0, k1, k2, f61, ha, num, Bool.false_eq_true]
theorem f66 {k : Nat} (hi : i + k + 2 ≤ 1000000000000) : E lo 66 [.ptr p.length 0, .v (.int .i64 k)] (p ++ R l i :: q) = some (.v (.bool (beg (chr (suf l i) k) (chr (suf l i) (k + 1)) (chr (suf l i) (k + 1 + 1)))), p ++ R l i :: q) := by
 have hw : IntKind.i64.wrap ((k : Int) + 1) = ((k + 1 : Nat) : Int) := wrap_succ (by omega)
 have k0 := fun lo p q => f26 (lo := lo) (l := l) (i := i) (p := p) (q := q) (k := k) (by omega)
 have k1 := fun lo p q => f26 (lo := lo) (l := l) (i := i) (p := p) (q := q) (k := k + 1) (by omega)
 have g0 := fun lo p q => f65 (lo := lo) (l := l) (i := i) (p := p) (q := q) (k := k) (by omega)
 have g1 := fun lo p q => f65 (lo := lo) (l := l) (i := i) (p := p) (q := q) (k := k + 1) (by omega)
 rw [e66 (by simp) (by rfl)]
 generalize chr (suf l i) k = a at k0 g0
 cases ha : a == 45 with
 | true => simp only [go_sem, b66, Tryz.f66, hw, k0, k1, g0, g1, f113, ha, beg]
 | false => simp only [go_sem, b66, Tryz.f66, hw, k0, k1, g0, g1, f113, ha, beg, Bool.false_eq_true]
theorem suf_next {i : Nat} (hi : i < l.length) : suf l i = chr (suf l i) 0 :: suf l (i + 1) := by
 have h1 : i < (l.map scal).length := by simpa using hi
 rw [suf_chr]
 unfold suf
 have e : l[i + 0]? = some l[i] := List.getElem?_eq_getElem hi
 rw [List.drop_eq_getElem_cons h1, e]
 simp
theorem suf_end {i : Nat} (hi : l.length ≤ i) : suf l i = [] := List.drop_eq_nil_of_le (by simpa using hi)
theorem suf_len (l : List Int) (i : Nat) : (suf l i).length = l.length - i := by simp [suf]
theorem loop58 (hlo : lo ≤ p.length) (hl : l.length ≤ 100000000000) : ∀ (n i : Nat), l.length - i ≤ n → i ≤ l.length →
  ∃ j, j ≤ l.length ∧ i ≤ j ∧ suf l j = blanks (suf l i) ∧
   loopW (evCode ⟨Tryz.prog, E, lo, (p ++ R l i :: q).length, h58⟩ loopW l58x0) ([(0, .ptr p.length 0)], p ++ R l i :: q) = some (.exit 0, [(0, .ptr p.length 0), (4, .v (.bool false))], p ++ R l j :: q) := by
 intro n
 induction n with
 | zero =>
  intro i h1 h2
  obtain rfl : i = l.length := by omega
  have k0 := fun lo p q => f26 (lo := lo) (l := l) (i := l.length) (p := p) (q := q) (k := 0) (by omega)
  have hs : suf l l.length = [] := suf_end (Nat.le_refl _)
  have hc : blk (chr [] 0) = false := by decide
  simp only [n0, hs] at k0
  refine ⟨l.length, Nat.le_refl _, Nat.le_refl _, by rw [hs]; rfl, ?_⟩
  rw [loop_eq]
  simp only [go_sem, l58x0, b58, Tryz.f58, k0, f57, hc]
 | succ n ih =>
  intro i h1 h2
  have k0 := fun lo p q => f26 (lo := lo) (l := l) (i := i) (p := p) (q := q) (k := 0) (by omega)
  simp only [n0] at k0
  have hw : IntKind.i64.wrap ((i : Int) + 1) = ((i + 1 : Nat) : Int) := wrap_succ (by omega)
  cases hb : blk (chr (suf l i) 0) with
  | false =>
   refine ⟨i, h2, Nat.le_refl _, ?_, ?_⟩
   ·by_cases hi : i < l.length
    ·rw [suf_next hi] at hb ⊢
     exact (List.dropWhile_cons_of_neg (by simpa [chr] using hb)).symm
    ·rw [suf_end (by omega)]; rfl
   ·rw [loop_eq]
    simp only [go_sem, l58x0, b58, Tryz.f58, k0, f57, hb]
  | true =>
   have hi : i < l.length := by
    rcases Nat.lt_or_ge i l.length with h | h
    ·exact h
    ·rw [suf_end h] at hb; exact absurd hb (by decide)
   obtain ⟨j, j1, j2, j3, j4⟩ := ih (i + 1) (by omega) (by omega)
   refine ⟨j, j1, by omega, ?_, ?_⟩
   ·rw [j3, suf_next hi]
    exact (List.dropWhile_cons_of_pos (by simpa using hb)).symm
   ·rw [loop_eq]
    have e : evCode ⟨Tryz.prog, E, lo, (p ++ R l i :: q).length, h58⟩ loopW l58x0 ([(0, .ptr p.length 0)], p ++ R l i :: q) = some (.normal, [(0, .ptr p.length 0)], p ++ R l (i + 1) :: q) := by
     simp only [go_sem, l58x0, b58, Tryz.f58, k0, f57, hb, hw, hlo]
    rw [e, loop_n]
    simp only [hl_app, hl_cons] at j4 ⊢
    exact j4
end
end Go.Lift.R4.T
end

section
open Go.Proofs
namespace Go.Lift.R4.T
set_option linter.unusedSectionVars false
variable [MX]
open Utf Tok
set_option maxRecDepth 20000
set_option linter.unusedSimpArgs false
set_option linter.unusedVariables false
section
variable {lo i : Nat} {l : List Int} {p q : List Ob}
theorem suf_inj {l : List Int} {i j : Nat} (hi : i ≤ l.length) (hj : j ≤ l.length) (h : suf l i = suf l j) : i = j := by
 have h1 := suf_len l i
 have h2 := suf_len l j
 rw [h, h2] at h1
 omega
theorem f58 (hl : l.length ≤ 100000000000) (hi : i ≤ l.length) : ∃ j, j ≤ l.length ∧ i ≤ j ∧ suf l j = blanks (suf l i) ∧
  ∀ lo p q, lo ≤ p.length → E lo 58 [.ptr p.length 0] (p ++ R l i :: q) = some (.tup [], p ++ R l j :: q) := by
 obtain ⟨j, j1, j2, j3, _⟩ := loop58 (lo := 0) (p := []) (q := []) (l := l) (Nat.le_refl _) hl l.length i (by omega) hi
 refine ⟨j, j1, j2, j3, fun lo p q hlo => ?_⟩
 obtain ⟨j', j1', j2', j3', hL⟩ := loop58 (lo := lo) (p := p) (q := q) (l := l) hlo hl l.length i (by omega) hi
 obtain rfl : j' = j := suf_inj j1' j1 (by rw [j3', j3])
 rw [e58 (by simp) (by rfl)]
 simp only [l58x0, b58, Tryz.f58, loopAt, loops, bodyOf, go_sem] at hL
 simp only [go_sem, b58, Tryz.f58, hL]
def isN (s : List Int) : Nat → List Int → Bool
 | _, [] => true
 | j, c :: t => chr s j == c && isN s (j + 1) t
theorem loop56 {cs : List Int} (hi : i + cs.length ≤ 1000000000000) : ∀ (n j : Nat), n = cs.length - j → j ≤ cs.length →
  loopW (evCode ⟨Tryz.prog, E, lo, (p ++ R l i :: q).length, h56⟩ loopW l56x0) ([(0, .ptr p.length 0), (7, .list .no (ri .i32 cs)), (8, .v (.int .i64 cs.length)), (9, .v (.int .i64 j))], p ++ R l i :: q) =
   if isN (suf l i) j (cs.drop j) = true then some (.exit 0, [(0, .ptr p.length 0), (7, .list .no (ri .i32 cs)), (8, .v (.int .i64 cs.length)), (9, .v (.int .i64 cs.length)), (10, .v (.bool false))], p ++ R l i :: q)
   else some (.ret, [(4, .v (.bool false))], p ++ R l i :: q) := by
 intro n
 induction n with
 | zero =>
  intro j hn hj
  obtain rfl : j = cs.length := by omega
  rw [loop_eq]
  have hd : decide ((cs.length : Int) < cs.length) = false := by simp
  simp only [go_sem, l56x0, b56, Tryz.f56, hd, List.drop_length, isN]
 | succ n ih =>
  intro j hn hj
  have hlt : j < cs.length := by omega
  have hx : cs[j]? = some cs[j] := List.getElem?_eq_getElem hlt
  have hd : decide ((j : Int) < cs.length) = true := by simpa using hlt
  have hw : IntKind.i64.wrap ((j : Int) + 1) = ((j + 1 : Nat) : Int) := wrap_succ (by omega)
  have k0 := fun lo p q => f26 (lo := lo) (l := l) (i := i) (p := p) (q := q) (k := j) (by omega)
  rw [loop_eq, List.drop_eq_getElem_cons hlt, isN]
  cases hc : chr (suf l i) j == cs[j] with
  | true =>
   have hne : (chr (suf l i) j != cs[j]) = false := by simp [bne, hc]
   have e : evCode ⟨Tryz.prog, E, lo, (p ++ R l i :: q).length, h56⟩ loopW l56x0 ([(0, .ptr p.length 0), (7, .list .no (ri .i32 cs)), (8, .v (.int .i64 cs.length)), (9, .v (.int .i64 j))], p ++ R l i :: q) =
     some (.normal, [(0, .ptr p.length 0), (7, .list .no (ri .i32 cs)), (8, .v (.int .i64 cs.length)), (9, .v (.int .i64 (j + 1 : Nat)))], p ++ R l i :: q) := by
    simp only [go_sem, l56x0, b56, Tryz.f56, hd, hx, hw, k0, hne]
   rw [e, loop_n, ih (j + 1) (by omega) (by omega), Bool.true_and]
  | false =>
   have hne : (chr (suf l i) j != cs[j]) = true := by simp [bne, hc]
   have e : evCode ⟨Tryz.prog, E, lo, (p ++ R l i :: q).length, h56⟩ loopW l56x0 ([(0, .ptr p.length 0), (7, .list .no (ri .i32 cs)), (8, .v (.int .i64 cs.length)), (9, .v (.int .i64 j))], p ++ R l i :: q) =
     some (.ret, [(4, .v (.bool false))], p ++ R l i :: q) := by
    simp only [go_sem, l56x0, b56, Tryz.f56, hd, hx, hw, k0, hne]
   rw [e, loop_r]
   rfl
theorem f56 {cs : List Int} (hi : i + cs.length ≤ 1000000000000) : E lo 56 [.ptr p.length 0, .list .no (ri .i32 cs)] (p ++ R l i :: q) = some (.v (.bool (isN (suf l i) 0 cs)), p ++ R l i :: q) := by
 have hL := loop56 (lo := lo) (p := p) (q := q) (l := l) (i := i) hi _ 0 rfl (by omega)
 simp only [l56x0, b56, Tryz.f56, loopAt, loops, bodyOf, go_sem, List.drop_zero] at hL
 rw [e56 (by simp) (by rfl)]
 cases hx : isN (suf l i) 0 cs with
 | true =>
  rw [if_pos hx] at hL
  simp only [go_sem, b56, Tryz.f56, hL]
 | false =>
  rw [if_neg (by simp [hx])] at hL
  simp only [go_sem, b56, Tryz.f56, hL]
theorem hex_neg1 : hex (-1) = -1 := by decide
theorem hex_up (c : Int) : hex c ≤ 15 := by
 unfold hex dig
 split
 ·rename_i h; simp at h; omega
 ·split
  ·rename_i h; simp at h; omega
  ·split
   ·rename_i h; simp at h; omega
   ·omega
theorem blk_neg1 : blk (-1) = false := by decide
theorem chr_nil (k : Nat) : chr [] k = -1 := by simp [chr]
theorem loop110 (hlo : lo ≤ p.length) (hl : l.length ≤ 100000000000) : ∀ (n k i : Nat) (v : Int), n + k = 6 → i ≤ l.length → 0 ≤ v → v < 16 ^ k →
  ∃ (j : Nat) (t : Int), j ≤ l.length ∧ i ≤ j ∧ suf l j = (hexN n v (suf l i)).2 ∧ 0 ≤ (hexN n v (suf l i)).1 ∧ (hexN n v (suf l i)).1 < 16777216 ∧
   loopW (evCode ⟨Tryz.prog, E, lo, (p ++ R l i :: q).length, h110⟩ loopW l110x0) ([(0, .ptr p.length 0), (3, .v (.int .i32 v)), (4, .v (.int .i64 k))], p ++ R l i :: q) =
    some (.exit 0, [(0, .ptr p.length 0), (3, .v (.int .i32 (hexN n v (suf l i)).1)), (4, .v (.int .i64 t)), (21, .v (.bool false))], p ++ R l j :: q) := by
 intro n
 induction n with
 | zero =>
  intro k i v hk hi h0 h1
  obtain rfl : k = 6 := by omega
  refine ⟨i, 6, hi, Nat.le_refl _, rfl, h0, by simpa [hexN] using h1, ?_⟩
  have k0 := fun lo p q => f26 (lo := lo) (l := l) (i := i) (p := p) (q := q) (k := 0) (by omega)
  simp only [n0] at k0
  have n6 : ((6 : Nat) : Int) = 6 := rfl
  rw [loop_eq]
  simp only [n6]
  simp only [go_sem, l110x0, b110, Tryz.f110, hexN, decide_false]
 | succ n ih =>
  intro k i v hk hi h0 h1
  have k0 := fun lo p q => f26 (lo := lo) (l := l) (i := i) (p := p) (q := q) (k := 0) (by omega)
  have k1 := fun lo p q h => f70 (lo := lo) (l := l) (i := i) (p := p) (q := q) h (by omega)
  have hc := chr_in l i 0
  have kh := fun lo h => f142 (lo := lo) (h := h) hc.1 hc.2
  simp only [n0] at k0
  have hd : decide ((k : Int) < 6) = true := by simp; omega
  have hw : IntKind.i64.wrap ((k : Int) + 1) = ((k + 1 : Nat) : Int) := wrap_succ (by omega)
  have hp : (16 : Int) ^ k ≤ 1048576 := by
   have : k = 0 ∨ k = 1 ∨ k = 2 ∨ k = 3 ∨ k = 4 ∨ k = 5 := by omega
   rcases this with h | h | h | h | h | h <;> rw [h] <;> decide
  have hv : v < 1048576 := by omega
  have hup := hex_up (chr (suf l i) 0)
  rw [loop_eq]
  by_cases hx : hex (chr (suf l i) 0) < 0
  ·have hd2 : decide (0 ≤ hex (chr (suf l i) 0)) = false := by simp; omega
   have e1 : hexN (n + 1) v (suf l i) = (v, suf l i) := by
    by_cases hi' : i < l.length
    ·rw [suf_next hi'] at hx ⊢
     simp only [hexN]
     rw [if_pos (by simpa [chr] using hx)]
    ·rw [suf_end (by omega)]; rfl
   rw [e1]
   refine ⟨i, k, hi, Nat.le_refl _, rfl, h0, by simp only; omega, ?_⟩
   simp only [go_sem, l110x0, b110, Tryz.f110, hd, k0, kh, hd2]
  ·have hd2 : decide (0 ≤ hex (chr (suf l i) 0)) = true := by simp; omega
   have hi' : i < l.length := by
    rcases Nat.lt_or_ge i l.length with h | h
    ·exact h
    ·rw [suf_end h, chr_nil, hex_neg1] at hx; omega
   have e1 : hexN (n + 1) v (suf l i) = hexN n (v * 16 + hex (chr (suf l i) 0)) (suf l (i + 1)) := by
    rw [suf_next hi'] at hx
    rw [suf_next hi']
    simp only [hexN]
    rw [if_neg (by simpa [chr] using hx)]
    simp [chr]
   have w1 : IntKind.i32.wrap (v * 16) = v * 16 := wrap_i32 (by omega) (by omega)
   have w2 : IntKind.i32.wrap (v * 16 + hex (chr (suf l i) 0)) = v * 16 + hex (chr (suf l i) 0) := wrap_i32 (by omega) (by omega)
   have hpow : (16 : Int) ^ (k + 1) = 16 ^ k * 16 := Int.pow_succ ..
   obtain ⟨j, t, j1, j2, j3, j4, j5, j6⟩ := ih (k + 1) (i + 1) (v * 16 + hex (chr (suf l i) 0)) (by omega) (by omega) (by omega) (by rw [hpow]; omega)
   rw [e1]
   refine ⟨j, t, j1, by omega, j3, j4, j5, ?_⟩
   have e : evCode ⟨Tryz.prog, E, lo, (p ++ R l i :: q).length, h110⟩ loopW l110x0 ([(0, .ptr p.length 0), (3, .v (.int .i32 v)), (4, .v (.int .i64 k))], p ++ R l i :: q) =
     some (.normal, [(0, .ptr p.length 0), (3, .v (.int .i32 (v * 16 + hex (chr (suf l i) 0)))), (4, .v (.int .i64 (k + 1 : Nat)))], p ++ R l (i + 1) :: q) := by
    simp only [go_sem, l110x0, b110, Tryz.f110, hd, k0, kh, hd2, k1 _ _ _ hlo, w1, w2, hw]
   rw [e, loop_n]
   simp only [hl_app, hl_cons] at j6 ⊢
   exact j6
theorem one1_suf (l : List Int) {j : Nat} (hj : j ≤ l.length) : (blk (chr (suf l j) 0) = true → j < l.length ∧ one1 (suf l j) = suf l (j + 1)) ∧ (blk (chr (suf l j) 0) = false → one1 (suf l j) = suf l j) := by
 rcases Nat.lt_or_ge j l.length with h | h
 ·have h1 := suf_next h
  generalize chr (suf l j) 0 = c at h1
  rw [h1]
  refine ⟨fun hb => ⟨h, ?_⟩, fun hb => ?_⟩
  ·simp only [one1]; rw [if_pos hb]
  ·simp only [one1]; rw [if_neg (by simp [hb])]
 ·rw [suf_end h, chr_nil, blk_neg1]
  exact ⟨fun h => by simp at h, fun _ => rfl⟩
theorem f110 (hl : l.length ≤ 100000000000) (hi : i ≤ l.length) : ∃ j, j ≤ l.length ∧ i ≤ j ∧ suf l j = (escd (suf l i)).2 ∧
  ∀ lo p q, lo ≤ p.length → E lo 110 [.ptr p.length 0] (p ++ R l i :: q) = some (.v (.int .i32 (escd (suf l i)).1), p ++ R l j :: q) := by
 have k0 := fun lo p q => f26 (lo := lo) (l := l) (i := i) (p := p) (q := q) (k := 0) (by omega)
 have k1 := fun lo p q h => f70 (lo := lo) (l := l) (i := i) (p := p) (q := q) h (by omega)
 have hc := chr_in l i 0
 have kh := fun lo h => f142 (lo := lo) (h := h) hc.1 hc.2
 simp only [n0] at k0
 by_cases hx : hex (chr (suf l i) 0) < 0
 ·have hd : decide (hex (chr (suf l i) 0) < 0) = true := by simpa using hx
  by_cases hi' : i < l.length
  ·have hne : (chr (suf l i) 0 == -1) = false := by
    rw [suf_chr, Nat.add_zero, List.getElem?_eq_getElem hi']
    have := scal_in l[i]
    simp; omega
   have e1 : escd (suf l i) = (chr (suf l i) 0, suf l (i + 1)) := by
    have h1 := suf_next hi'
    generalize chr (suf l i) 0 = c at h1 hx
    rw [h1]
    simp only [escd]
    rw [if_pos hx]
   rw [e1]
   refine ⟨i + 1, by omega, by omega, rfl, fun lo p q hlo => ?_⟩
   rw [e110 (by simp) (by rfl)]
   simp only [go_sem, b110, Tryz.f110, k0, kh, hd, hne, k1 _ _ _ hlo]
  ·have hs : suf l i = [] := suf_end (by omega)
   have hd' : decide (hex (-1) < 0) = true := by decide
   have hne : ((-1 : Int) == -1) = true := rfl
   simp only [hs, chr_nil] at k0 kh
   rw [hs]
   refine ⟨i, hi, Nat.le_refl _, by rw [hs]; rfl, fun lo p q hlo => ?_⟩
   rw [e110 (by simp) (by rfl)]
   simp only [go_sem, b110, Tryz.f110, k0, kh, hd', hne]
   rfl
 ·have hd : decide (hex (chr (suf l i) 0) < 0) = false := by simp; omega
  have hi' : i < l.length := by
   rcases Nat.lt_or_ge i l.length with h | h
   ·exact h
   ·rw [suf_end h, chr_nil, hex_neg1] at hx; omega
  have e1 : escd (suf l i) = (if (hexN 6 0 (suf l i)).1 = 0 then 65533 else scal (hexN 6 0 (suf l i)).1, one1 (hexN 6 0 (suf l i)).2) := by
   have h1 := suf_next hi'
   generalize chr (suf l i) 0 = c at h1 hx
   rw [h1]
   simp only [escd]
   rw [if_neg hx]
  obtain ⟨j, t, j1, j2, j3, j4, j5, _⟩ := loop110 (lo := 0) (p := []) (q := []) (l := l) (Nat.le_refl _) hl 6 0 i 0 rfl hi (Int.le_refl _) (by decide)
  have hone := one1_suf l j1
  have kj := fun lo p q => f26 (lo := lo) (l := l) (i := j) (p := p) (q := q) (k := 0) (by omega)
  have kt := fun lo p q h => f70 (lo := lo) (l := l) (i := j) (p := p) (q := q) h (by omega)
  simp only [n0] at kj
  rw [e1]
  generalize hv : (hexN 6 0 (suf l i)).1 = v at j4 j5
  have fold : (if (v == 0 || decide (1114111 < v) || decide (55296 ≤ v) && decide (v ≤ 57343)) = true then (65533 : Int) else v) = if v = 0 then 65533 else scal v := by
   by_cases h0 : v = 0
   ·simp [h0]
   ·rw [if_neg h0]
    unfold scal
    have a0 : (v == 0) = false := by simp [h0]
    have a1 : decide (v < 0) = false := by simp; omega
    rw [a0, a1]
  cases hb : blk (chr (suf l j) 0) with
  | true =>
   obtain ⟨hj', hone⟩ := hone.1 hb
   refine ⟨j + 1, by omega, by omega, by rw [← j3, hone], fun lo p q hlo => ?_⟩
   obtain ⟨j', t', j1', _, j3', _, _, hL⟩ := loop110 (lo := lo) (p := p) (q := q) (l := l) hlo hl 6 0 i 0 rfl hi (Int.le_refl _) (by decide)
   obtain rfl : j' = j := suf_inj j1' j1 (by rw [j3', j3])
   rw [hv] at hL
   rw [e110 (by simp) (by rfl)]
   simp only [l110x0, b110, Tryz.f110, loopAt, loops, bodyOf, go_sem] at hL
   simp only [go_sem, b110, Tryz.f110, k0, kh, hd, hL, kj, f57, hb, kt _ _ _ hlo]
   rw [← fold]
  | false =>
   refine ⟨j, j1, j2, by rw [← j3, hone.2 hb], fun lo p q hlo => ?_⟩
   obtain ⟨j', t', j1', _, j3', _, _, hL⟩ := loop110 (lo := lo) (p := p) (q := q) (l := l) hlo hl 6 0 i 0 rfl hi (Int.le_refl _) (by decide)
   obtain rfl : j' = j := suf_inj j1' j1 (by rw [j3', j3])
   rw [hv] at hL
   rw [e110 (by simp) (by rfl)]
   simp only [l110x0, b110, Tryz.f110, loopAt, loops, bodyOf, go_sem] at hL
   simp only [go_sem, b110, Tryz.f110, k0, kh, hd, hL, kj, f57, hb]
   rw [← fold]
end
def plainK (c : Int) : Int :=
 if c = 40 then 21 else if c = 41 then 22 else if c = 44 then 18 else if c = 58 then 16 else if c = 59 then 17
 else if c = 91 then 19 else if c = 93 then 20 else if c = 123 then 23 else if c = 125 then 24 else 0
theorem f60 {lo : Nat} {c : Int} {h : Heap} : E lo 60 [.v (.int .i32 c)] h = some (.v (.int .i64 (plainK c)), h) := by
 rw [e60 (by simp) (by rfl)]
 unfold plainK
 by_cases h1 : c = 40
 ·subst h1; have t : ((40 : Int) == 40) = true := rfl
  simp only [go_sem, b60, Tryz.f60, t]
 have t1 : (c == 40) = false := by simp [h1]
 by_cases h2 : c = 41
 ·subst h2; have t : ((41 : Int) == 41) = true := rfl
  simp only [go_sem, b60, Tryz.f60, t1, t, h1]
 have t2 : (c == 41) = false := by simp [h2]
 by_cases h3 : c = 44
 ·subst h3; have t : ((44 : Int) == 44) = true := rfl
  simp only [go_sem, b60, Tryz.f60, t1, t2, t, h1, h2]
 have t3 : (c == 44) = false := by simp [h3]
 by_cases h4 : c = 58
 ·subst h4; have t : ((58 : Int) == 58) = true := rfl
  simp only [go_sem, b60, Tryz.f60, t1, t2, t3, t, h1, h2, h3]
 have t4 : (c == 58) = false := by simp [h4]
 by_cases h5 : c = 59
 ·subst h5; have t : ((59 : Int) == 59) = true := rfl
  simp only [go_sem, b60, Tryz.f60, t1, t2, t3, t4, t, h1, h2, h3, h4]
 have t5 : (c == 59) = false := by simp [h5]
 by_cases h6 : c = 91
 ·subst h6; have t : ((91 : Int) == 91) = true := rfl
  simp only [go_sem, b60, Tryz.f60, t1, t2, t3, t4, t5, t, h1, h2, h3, h4, h5]
 have t6 : (c == 91) = false := by simp [h6]
 by_cases h7 : c = 93
 ·subst h7; have t : ((93 : Int) == 93) = true := rfl
  simp only [go_sem, b60, Tryz.f60, t1, t2, t3, t4, t5, t6, t, h1, h2, h3, h4, h5, h6]
 have t7 : (c == 93) = false := by simp [h7]
 by_cases h8 : c = 123
 ·subst h8; have t : ((123 : Int) == 123) = true := rfl
  simp only [go_sem, b60, Tryz.f60, t1, t2, t3, t4, t5, t6, t7, t, h1, h2, h3, h4, h5, h6, h7]
 have t8 : (c == 123) = false := by simp [h8]
 by_cases h9 : c = 125
 ·subst h9; have t : ((125 : Int) == 125) = true := rfl
  simp only [go_sem, b60, Tryz.f60, t1, t2, t3, t4, t5, t6, t7, t8, t, h1, h2, h3, h4, h5, h6, h7, h8]
 have t9 : (c == 125) = false := by simp [h9]
 simp only [go_sem, b60, Tryz.f60, t1, t2, t3, t4, t5, t6, t7, t8, t9, h1, h2, h3, h4, h5, h6, h7, h8, h9]
theorem f150 {lo : Nat} {c : Int} {h : Heap} : E lo 150 [.v (.int .i32 c)] h = some (.v (.bool (unp c)), h) := by
 rw [e150 (by simp) (by rfl)]
 simp only [go_sem, b150, Tryz.f150, unp]
end Go.Lift.R4.T
end

section
open Go.Proofs
namespace Go.Lift.R4.T
set_option linter.unusedSectionVars false
variable [MX]
set_option linter.unusedVariables false
set_option linter.unusedSimpArgs false
open Utf
set_option maxRecDepth 20000
set_option linter.unusedSimpArgs false
theorem fdiv64 (y : Int) (k : Nat) : y.fdiv (2 ^ min k 32) = y / 2 ^ min k 32 := by
 rw [Int.fdiv_eq_ediv_of_nonneg]
 exact Int.le_of_lt (Int.pow_pos (by omega))
theorem bytes_eq (y : Int) (h0 : 0 ≤ y) (h1 : y ≤ 1114111) (out : List Int) :
  (
   if decide (y < 128) = true then ri .u8 out ++ [[V.v (.int .u8 (IntKind.u8.wrap y))]]
   else if decide (y < 2048) = true then ri .u8 out ++ [[V.v (.int .u8 (IntKind.u8.wrap ↑(BitVec.ofInt 8 192 ||| BitVec.ofInt 8 (IntKind.u8.wrap (y.fdiv (2 ^ min 6 32)))).toNat))],
    [V.v (.int .u8 (IntKind.u8.wrap ↑(BitVec.ofInt 8 128 ||| BitVec.ofInt 8 (IntKind.u8.wrap (IntKind.i32.wrap ↑(BitVec.ofInt 32 y &&& BitVec.ofInt 32 63).toNat))).toNat))]]
   else if decide (y < 65536) = true then ri .u8 out ++ [[V.v (.int .u8 (IntKind.u8.wrap ↑(BitVec.ofInt 8 224 ||| BitVec.ofInt 8 (IntKind.u8.wrap (y.fdiv (2 ^ min 12 32)))).toNat))],
    [V.v (.int .u8 (IntKind.u8.wrap ↑(BitVec.ofInt 8 128 ||| BitVec.ofInt 8 (IntKind.u8.wrap (IntKind.i32.wrap ↑(BitVec.ofInt 32 (y.fdiv (2 ^ min 6 32)) &&& BitVec.ofInt 32 63).toNat))).toNat))],
    [V.v (.int .u8 (IntKind.u8.wrap ↑(BitVec.ofInt 8 128 ||| BitVec.ofInt 8 (IntKind.u8.wrap (IntKind.i32.wrap ↑(BitVec.ofInt 32 y &&& BitVec.ofInt 32 63).toNat))).toNat))]]
   else ri .u8 out ++ [[V.v (.int .u8 (IntKind.u8.wrap ↑(BitVec.ofInt 8 240 ||| BitVec.ofInt 8 (IntKind.u8.wrap (y.fdiv (2 ^ min 18 32)))).toNat))],
    [V.v (.int .u8 (IntKind.u8.wrap ↑(BitVec.ofInt 8 128 ||| BitVec.ofInt 8 (IntKind.u8.wrap (IntKind.i32.wrap ↑(BitVec.ofInt 32 (y.fdiv (2 ^ min 12 32)) &&& BitVec.ofInt 32 63).toNat))).toNat))],
    [V.v (.int .u8 (IntKind.u8.wrap ↑(BitVec.ofInt 8 128 ||| BitVec.ofInt 8 (IntKind.u8.wrap (IntKind.i32.wrap ↑(BitVec.ofInt 32 (y.fdiv (2 ^ min 6 32)) &&& BitVec.ofInt 32 63).toNat))).toNat))],
    [V.v (.int .u8 (IntKind.u8.wrap ↑(BitVec.ofInt 8 128 ||| BitVec.ofInt 8 (IntKind.u8.wrap (IntKind.i32.wrap ↑(BitVec.ofInt 32 y &&& BitVec.ofInt 32 63).toNat))).toNat))]])
  = ri .u8 (out ++ enc y) := by
 have lo6 : ∀ z : Int, 0 ≤ z → z ≤ 1114111 → IntKind.u8.wrap ↑(BitVec.ofInt 8 128 ||| BitVec.ofInt 8 (IntKind.u8.wrap (IntKind.i32.wrap ↑(BitVec.ofInt 32 z &&& BitVec.ofInt 32 63).toNat))).toNat = 128 + z % 64 := by
  intro z z0 z1
  rw [and63 z0 (by omega), wrap_i32 (by omega) (by omega), wrap_u8 (n := z % 64) (by omega) (by omega), Utf.o8 (n := 64) (by omega) (by omega) (by omega), wrap_u8 (by omega) (by omega)]
 have e6 : y.fdiv (2 ^ min 6 32) = y / 64 := fdiv64 y 6
 have e69 : y.fdiv (2 ^ min 12 32) = y / 4096 := fdiv64 y 12
 have e18 : y.fdiv (2 ^ min 18 32) = y / 262144 := fdiv64 y 18
 rw [e6, e69, e18, lo6 y h0 h1, lo6 (y / 64) (by omega) (by omega), lo6 (y / 4096) (by omega) (by omega), ← ri_app]
 unfold enc
 by_cases c1 : y < 128
 ·simp only [c1, decide_true, if_true, ri_cons, ri_nil]
  rw [wrap_u8 (by omega) (by omega)]
 ·by_cases c2 : y < 2048
  ·simp only [c1, c2, decide_true, decide_false, if_true, if_false, ri_cons, ri_nil, Bool.false_eq_true]
   rw [wrap_u8 (n := y / 64) (by omega) (by omega), Utf.o8 (n := 32) (by omega) (by omega) (by omega), wrap_u8 (by omega) (by omega)]
  ·by_cases c3 : y < 65536
   ·simp only [c1, c2, c3, decide_true, decide_false, if_true, if_false, ri_cons, ri_nil, Bool.false_eq_true]
    rw [wrap_u8 (n := y / 4096) (by omega) (by omega), Utf.o8 (n := 16) (by omega) (by omega) (by omega), wrap_u8 (by omega) (by omega)]
   ·simp only [c1, c2, c3, decide_true, decide_false, if_true, if_false, ri_cons, ri_nil, Bool.false_eq_true]
    rw [wrap_u8 (n := y / 262144) (by omega) (by omega), Utf.o8 (n := 8) (by omega) (by omega) (by omega), wrap_u8 (by omega) (by omega)]
theorem round69 {lo : Nat} {l out : List Int} {h : Heap} {i : Nat} {x : Int} (hx : l[i]? = some x) (hi : i < l.length) (hl : l.length ≤ 35184372088832) (ho : out.length ≤ 140737488355324) :
  evCode ⟨Tryz.prog, E, lo, h.length, h69⟩ loopW l69x0 ([(3, .list .yes (ri .u8 out)), (6, .list .no (ri .i32 l)), (7, .v (.int .i64 l.length)), (8, .v (.int .i64 i))], h) =
   some (.normal, [(3, .list .yes (ri .u8 (out ++ enc (scal x)))), (6, .list .no (ri .i32 l)), (7, .v (.int .i64 l.length)), (8, .v (.int .i64 (i + 1 : Nat)))], h) := by
 have hd : decide ((i : Int) < l.length) = true := by simpa using hi
 have hr : ∀ k, k ≤ 4 → (out.length + k) * 1 ≤ 140737488355328 := by intro k hk; omega
 have hq : ∀ k, 9223372036854775800 ≤ k → out.length ≤ k := by intro k hk; omega
 have hw : IntKind.i64.wrap ((i : Int) + 1) = ((i + 1 : Nat) : Int) := wrap_succ (by omega)
 have hs : (if (decide (x < 0) || decide (1114111 < x) || decide (55296 ≤ x) && decide (x ≤ 57343)) = true then 65533 else x) = scal x := rfl
 simp only [go_sem, l69x0, b69, Tryz.f69, hd, hx, hr, hq, hw, hs]
 have hy := scal_in x
 exact congrArg (fun r => (Ex.normal, (([(3, V.list .yes r), (6, V.list .no (ri .i32 l)), (7, .v (.int .i64 l.length)), (8, .v (.int .i64 (i + 1 : Nat)))] : Env), h))) (bytes_eq (scal x) hy.1 hy.2 out)
theorem loop69 {lo : Nat} {l : List Int} {h : Heap} (hl : l.length ≤ 35184372088832) : ∀ (n i : Nat) (out : List Int), n = l.length - i → i ≤ l.length → out.length ≤ 4 * i →
  loopW (evCode ⟨Tryz.prog, E, lo, h.length, h69⟩ loopW l69x0) ([(3, .list .yes (ri .u8 out)), (6, .list .no (ri .i32 l)), (7, .v (.int .i64 l.length)), (8, .v (.int .i64 i))], h) =
   some (.exit 0, [(3, .list .yes (ri .u8 (out ++ (l.drop i).flatMap fun x => enc (scal x)))), (6, .list .no (ri .i32 l)), (7, .v (.int .i64 l.length)), (8, .v (.int .i64 l.length)), (9, .v (.bool false))], h) := by
 intro n
 induction n with
 | zero =>
  intro i out hn hi ho
  obtain rfl : i = l.length := by omega
  rw [loop_eq]
  have hd : decide ((l.length : Int) < l.length) = false := by simp
  simp only [go_sem, l69x0, b69, Tryz.f69, hd, List.drop_length, List.flatMap_nil]
 | succ n ih =>
  intro i out hn hi ho
  have hlt : i < l.length := by omega
  have hx : l[i]? = some l[i] := List.getElem?_eq_getElem hlt
  have he : (enc (scal l[i])).length ≤ 4 := by
   unfold enc
   split
   ·simp
   ·split
    ·simp
    ·split <;> simp
  rw [loop_eq, round69 hx hlt hl (by omega), loop_n, ih (i + 1) _ (by omega) (by omega) (by rw [List.length_append]; omega), List.drop_eq_getElem_cons hlt, List.flatMap_cons, List.append_assoc]
theorem f69 {lo : Nat} {l : List Int} {h : Heap} (hl : l.length ≤ 35184372088832) :
  E lo 69 [.list .no (ri .i32 l)] h = some (.list .no (ri .u8 (l.flatMap fun x => enc (scal x))), h) := by
 rw [e69 (by simp) (by rfl)]
 have hL := loop69 (lo := lo) (h := h) hl _ 0 [] rfl (by omega) (by simp)
 simp only [l69x0, b69, Tryz.f69, loopAt, loops, bodyOf, go_sem, List.drop_zero, ri_nil] at hL
 simp only [go_sem, b69, Tryz.f69, hL]
end Go.Lift.R4.T
end

section
open Go.Proofs
namespace Go.Lift.R4.T
set_option linter.unusedSectionVars false
variable [MX]
open Utf
set_option maxRecDepth 20000
set_option linter.unusedSimpArgs false
set_option linter.unusedVariables false
theorem f123n {lo : Nat} {b : List Int} {h : Heap} (hn : b ≠ []) (hb : b.length ≤ 140737488355328) (hy : By b) : E lo 123 [.list .no (ri .u8 b)] h = some (two (one b), h) := by
 cases b with
 | nil => exact absurd rfl hn
 | cons c t => exact f123 hb hy
theorem round83 {lo : Nat} {b out : List Int} {h : Heap} (hn : b ≠ []) (hb : b.length ≤ 1000000000) (ho : out.length ≤ 1000000000) (hy : By b) :
  evCode ⟨Tryz.prog, E, lo, h.length, h83⟩ loopW l83x0 ([(0, .list .no (ri .u8 b)), (3, .list .yes (ri .i32 out))], h) =
   some (.normal, [(0, .list .no (ri .u8 (b.drop (one b).2.1))), (3, .list .yes (ri .i32 (out ++ [(one b).1])))], h) := by
 have hl : 0 < b.length := List.length_pos_iff.mpr hn
 have hd : decide ((0 : Int) < b.length) = true := by simpa using hl
 have hr : ∀ k, k ≤ 4 → (out.length + k) * 4 ≤ 140737488355328 := by intro k hk; omega
 have hq : ∀ k, 9223372036854775800 ≤ k → out.length ≤ k := by intro k hk; omega
 have hk := (one_b hn).2.2
 have hs : 0 ≤ ((one b).2.1 : Int) := by omega
 have e1 : ri .i32 (out ++ [(one b).1]) = ri .i32 out ++ [[V.v (.int .i32 (one b).1)]] := by rw [← ri_app]; rfl
 simp only [go_sem, l83x0, b83, Tryz.f83, hd, f123n hn (by omega) hy, two, hr, hq, hs, hk, Nat.le_refl, ri_drop, ri_take, Int.toNat_natCast, and_self, e1]
theorem loop83 {lo : Nat} {h : Heap} : ∀ (n : Nat) (b out : List Int), b.length ≤ n → b.length ≤ 1000000000 → By b → out.length + b.length ≤ 1000000000 →
  loopW (evCode ⟨Tryz.prog, E, lo, h.length, h83⟩ loopW l83x0) ([(0, .list .no (ri .u8 b)), (3, .list .yes (ri .i32 out))], h) =
   some (.exit 0, [(0, .list .no []), (3, .list .yes (ri .i32 (out ++ raw b))), (8, .v (.bool false))], h) := by
 intro n
 induction n with
 | zero =>
  intro b out h1 h2 hy h3
  obtain rfl : b = [] := List.eq_nil_of_length_eq_zero (by omega)
  rw [loop_eq]
  simp only [go_sem, l83x0, b83, Tryz.f83, raw_nil, ri_nil, List.length_nil]
  all_goals rfl
 | succ n ih =>
  intro b out h1 h2 hy h3
  by_cases hn : b = []
  ·subst hn
   rw [loop_eq]
   simp only [go_sem, l83x0, b83, Tryz.f83, raw_nil, ri_nil, List.length_nil]
   all_goals rfl
  ·have hl : 0 < b.length := List.length_pos_iff.mpr hn
   have hk := one_b hn
   have hlen : (b.drop (one b).2.1).length = b.length - (one b).2.1 := List.length_drop
   rw [loop_eq, round83 hn h2 (by omega) hy, loop_n, ih _ _ (by omega) (by omega) (hy.drop _) (by rw [List.length_append, List.length_singleton]; omega), raw_b hn, List.append_assoc]
   rfl
theorem f83 {lo : Nat} {b : List Int} {h : Heap} (hb : b.length ≤ 1000000000) (hy : By b) : E lo 83 [.list .no (ri .u8 b)] h = some (.list .no (ri .i32 (raw b)), h) := by
 rw [e83 (by simp) (by rfl)]
 have hL := loop83 (lo := lo) (h := h) b.length b [] (Nat.le_refl _) hb hy (by simpa using hb)
 simp only [l83x0, b83, Tryz.f83, loopAt, loops, bodyOf, go_sem, ri_nil] at hL
 simp only [go_sem, b83, Tryz.f83, hL]
end Go.Lift.R4.T
end

section
open Go.Proofs
namespace Go.Lift.R4.T
set_option linter.unusedSectionVars false
variable [MX]
open Utf
set_option maxRecDepth 20000
set_option linter.unusedSimpArgs false
set_option linter.unusedVariables false
theorem dstep_len (back : Bool) (x : Int) : (dstep back x).length ≤ 1 := by
 unfold dstep
 split <;> simp
theorem round31 {lo i : Nat} {l out : List Int} {h : Heap} {x : Int} {back : Bool} (hx : l[i]? = some x) (hi : i < l.length) (hl : l.length ≤ 1000000000) (ho : out.length ≤ 1000000000) :
  evCode ⟨Tryz.prog, E, lo, h.length, h31⟩ loopW l31x0 ([(3, .list .yes (ri .i32 out)), (4, .v (.bool back)), (32, .list .no (ri .i32 l)), (33, .v (.int .i64 l.length)), (34, .v (.int .i64 i))], h) =
   some (.normal, [(3, .list .yes (ri .i32 (out ++ dstep back x))), (4, .v (.bool (x == 13))), (32, .list .no (ri .i32 l)), (33, .v (.int .i64 l.length)), (34, .v (.int .i64 (i + 1 : Nat)))], h) := by
 have hd : decide ((i : Int) < l.length) = true := by simpa using hi
 have hr : ∀ k, k ≤ 4 → (out.length + k) * 4 ≤ 140737488355328 := by intro k hk; omega
 have hq : ∀ k, 9223372036854775800 ≤ k → out.length ≤ k := by intro k hk; omega
 have hw : IntKind.i64.wrap ((i : Int) + 1) = ((i + 1 : Nat) : Int) := wrap_succ (by omega)
 have app : ∀ y : Int, ri .i32 (out ++ [y]) = ri .i32 out ++ [[V.v (.int .i32 y)]] := by intro y; rw [← ri_app]; rfl
 by_cases h10 : x = 10
 ·subst h10
  have e13 : ((10 : Int) == 13) = false := rfl
  have e10 : ((10 : Int) == 10) = true := rfl
  cases back with
  | true =>
   have ed : dstep true 10 = [] := rfl
   simp only [go_sem, l31x0, b31, Tryz.f31, hd, hx, hr, hq, hw, ed, e13, e10, List.append_nil]
  | false =>
   have ed : dstep false 10 = [10] := rfl
   simp only [go_sem, l31x0, b31, Tryz.f31, hd, hx, hr, hq, hw, ed, e13, e10, app]
 have e10 : (x == 10) = false := by simp [h10]
 by_cases h13 : x = 13
 ·subst h13
  have e13 : ((13 : Int) == 13) = true := rfl
  have ed : dstep back 13 = [10] := rfl
  simp only [go_sem, l31x0, b31, Tryz.f31, hd, hx, hr, hq, hw, ed, e13, e10, app]
 have e13 : (x == 13) = false := by simp [h13]
 by_cases h12 : x = 12
 ·subst h12
  have e12 : ((12 : Int) == 12) = true := rfl
  have ed : dstep back 12 = [10] := rfl
  simp only [go_sem, l31x0, b31, Tryz.f31, hd, hx, hr, hq, hw, ed, e13, e10, e12, app]
 have e12 : (x == 12) = false := by simp [h12]
 by_cases h0 : x = 0
 ·subst h0
  have e0 : ((0 : Int) == 0) = true := rfl
  have ed : dstep back 0 = [65533] := rfl
  simp only [go_sem, l31x0, b31, Tryz.f31, hd, hx, hr, hq, hw, ed, e13, e10, e12, e0, app]
 have e0 : (x == 0) = false := by simp [h0]
 have ed : dstep back x = [x] := by simp [dstep, e10, e13, e12, e0]
 simp only [go_sem, l31x0, b31, Tryz.f31, hd, hx, hr, hq, hw, ed, e13, e10, e12, e0, app]
theorem loop31 {lo : Nat} {l : List Int} {h : Heap} (hl : l.length ≤ 1000000000) : ∀ (n i : Nat) (out : List Int) (back : Bool), n = l.length - i → i ≤ l.length → out.length ≤ i →
  ∃ back', loopW (evCode ⟨Tryz.prog, E, lo, h.length, h31⟩ loopW l31x0) ([(3, .list .yes (ri .i32 out)), (4, .v (.bool back)), (32, .list .no (ri .i32 l)), (33, .v (.int .i64 l.length)), (34, .v (.int .i64 i))], h) =
   some (.exit 0, [(3, .list .yes (ri .i32 (out ++ dec back (l.drop i)))), (4, .v (.bool back')), (32, .list .no (ri .i32 l)), (33, .v (.int .i64 l.length)), (34, .v (.int .i64 l.length)), (35, .v (.bool false))], h) := by
 intro n
 induction n with
 | zero =>
  intro i out back hn hi ho
  obtain rfl : i = l.length := by omega
  rw [loop_eq]
  have hd : decide ((l.length : Int) < l.length) = false := by simp
  refine ⟨back, ?_⟩
  simp only [go_sem, l31x0, b31, Tryz.f31, hd, List.drop_length, dec]
 | succ n ih =>
  intro i out back hn hi ho
  have hlt : i < l.length := by omega
  have hx : l[i]? = some l[i] := List.getElem?_eq_getElem hlt
  have he := dstep_len back l[i]
  obtain ⟨b', hb⟩ := ih (i + 1) (out ++ dstep back l[i]) (l[i] == 13) (by omega) (by omega) (by rw [List.length_append]; omega)
  refine ⟨b', ?_⟩
  rw [loop_eq, round31 hx hlt hl (by omega), loop_n, hb, List.drop_eq_getElem_cons hlt, dec, List.append_assoc]
theorem raw_len' (b : List Int) : (raw b).length ≤ b.length := (raw_count b).1
theorem strip_len (b : List Int) : (strip b).length ≤ b.length := by
 unfold strip
 split
 ·rw [List.length_drop]; omega
 ·omega
theorem f31 {lo : Nat} {b : List Int} {h : Heap} (hb : b.length ≤ 1000000000) (hy : By b) : E lo 31 [.list .no (ri .u8 b)] h = some (.list .no (ri .i32 (Utf.decode b)), h) := by
 rw [e31 (by simp) (by rfl)]
 have hr := raw_len' (strip b)
 have hs := strip_len b
 have hf := fun lo h => f83 (lo := lo) (h := h) (b := strip b) (by omega) (strip_by hy)
 obtain ⟨q, hL⟩ := loop31 (lo := lo) (h := h) (l := raw (strip b)) (by omega) _ 0 [] false rfl (by omega) (by simp)
 simp only [l31x0, b31, Tryz.f31, loopAt, loops, bodyOf, go_sem, ri_nil, List.drop_zero] at hL
 rw [Utf.decode]
 by_cases h3 : 3 ≤ b.length
 ·have t3 : decide ((3 : Int) ≤ b.length) = true := by simp; omega
  obtain ⟨a1, a2, a3, t, he⟩ : ∃ a1 a2 a3 t, b = a1 :: a2 :: a3 :: t := by
   match b, h3 with
   | a1 :: a2 :: a3 :: t, _ => exact ⟨_, _, _, _, rfl⟩
  have x1 : b[0]? = some a1 := by rw [he]; rfl
  have x2 : b[1]? = some a2 := by rw [he]; rfl
  have x3 : b[2]? = some a3 := by rw [he]; rfl
  have hv : bom b = (a1 == 239 && (a2 == 187 && a3 == 191)) := by rw [he]; simp [bom]
  cases hm : bom b with
  | true =>
   have hd : strip b = b.drop 3 := by rw [strip, if_pos hm]
   rw [hv] at hm
   simp only [Bool.and_eq_true] at hm
   rw [hd] at hf hL ⊢
   simp only [go_sem, b31, Tryz.f31, t3, x1, x2, x3, hm.1, hm.2.1, hm.2.2, ri_drop, ri_take, h3, Nat.le_refl, and_self, hf, hL]
  | false =>
   have hd : strip b = b := by rw [strip, if_neg (by simp [hm])]
   rw [hv] at hm
   rw [hd] at hf hL ⊢
   cases g1 : a1 == 239 with
   | false => simp only [go_sem, b31, Tryz.f31, t3, x1, x2, x3, g1, hf, hL]
   | true =>
    cases g2 : a2 == 187 with
    | false => simp only [go_sem, b31, Tryz.f31, t3, x1, x2, x3, g1, g2, hf, hL]
    | true =>
     cases g3 : a3 == 191 with
     | false => simp only [go_sem, b31, Tryz.f31, t3, x1, x2, x3, g1, g2, g3, hf, hL]
     | true => simp [g1, g2, g3] at hm
 ·have t3 : decide ((3 : Int) ≤ b.length) = false := by simp; omega
  have hm : bom b = false := by
   match b, h3 with
   | [], _ => rfl
   | [_], _ => simp [bom]
   | [_, _], _ => simp [bom]
   | _ :: _ :: _ :: _, h3 => simp at h3
  have hd : strip b = b := by rw [strip, if_neg (by simp [hm])]
  rw [hd] at hf hL ⊢
  simp only [go_sem, b31, Tryz.f31, t3, hf, hL]
end Go.Lift.R4.T
end
