/- The program's reader of characters: the rest of a bad url. -/
import Derived.Lib.IndexLaws
import Derived.Lib.TrailingZeros
import Derived.Lib.ItoaNum
import Derived.Test.YtnlekmkfgaolbaaGreatDoorGLc
import Derived.Test.YtnlekmkfgaolbaaGreatDoorGKa
import Derived.Test.YtnlekmkfgaolbaaGreatDoorGK8Basea
import Derived.Test.YtnlekmkfgaolbaaGreatDoorGKb
import Derived.Test.YtnlekmkfgaolbaaGreatDoorGKc
set_option linter.unusedVariables false
set_option linter.unusedSimpArgs false
set_option linter.unusedSectionVars false
set_option maxRecDepth 20000
set_option maxHeartbeats 40000000
section
open Go.Proofs
namespace Go.Lift.P8.T
variable [MX]
open Utf Tok
section
variable {lo i : Nat} {l : List Int} {p q : List Ob}
theorem badN_nil (m : Nat) : badN m [] = [] := by cases m <;> rfl
theorem isN_one (s : List Int) (a : Int) : isN s 0 [a] = (chr s 0 == a) := by simp [isN]
theorem loop193 (hlo : lo <= p.length) (hlo2 : lo <= p.length + (q.length + 1)) (hl : l.length <= 100000000000) : ∀ (m i : Nat) (ex : Env), (ex = [] \/ ∃ b, ex = [(35, .v (.bool b))]) -> (suf l i).length <= m -> i <= l.length ->
  ∃ j, j <= l.length /\ i <= j /\ suf l j = badN m (suf l i) /\
   loopW (evCode ⟨Tryz.prog, E, lo, p.length + (q.length + 1), h193⟩ loopW l193x0) ((0, .ptr p.length 0) :: (2, .ptr (p.length + (q.length + 1)) 0) :: ex, p ++ R l i :: (q ++ [.cells (tokC 0 [])])) =
    some (.ret, [(2, .ptr (p.length + (q.length + 1)) 0)], p ++ R l j :: (q ++ [.cells (tokC 8 [])])) := by
 have stop : ∀ (m i : Nat) (ex : Env), (ex = [] \/ ∃ b, ex = [(35, .v (.bool b))]) -> suf l i = [] -> i <= l.length ->
  ∃ j, j <= l.length /\ i <= j /\ suf l j = badN m (suf l i) /\
   loopW (evCode ⟨Tryz.prog, E, lo, p.length + (q.length + 1), h193⟩ loopW l193x0) ((0, .ptr p.length 0) :: (2, .ptr (p.length + (q.length + 1)) 0) :: ex, p ++ R l i :: (q ++ [.cells (tokC 0 [])])) =
    some (.ret, [(2, .ptr (p.length + (q.length + 1)) 0)], p ++ R l j :: (q ++ [.cells (tokC 8 [])])) := by
  intro m i ex hex hs h2
  have k0 := fun lo p q => f90 (lo := lo) (l := l) (i := i) (p := p) (q := q) (k := 0) (by omega)
  simp only [n0, hs, chr_nil] at k0
  refine ⟨i, h2, Nat.le_refl _, by rw [hs, badN_nil], ?_⟩
  have t1 : ((-1 : Int) == -1) = true := rfl
  rw [loop_eq]
  rcases hex with rfl | ⟨b, rfl⟩
  ·simp only [go_sem, l193x0, b193, Tryz.f193, k0, t1, hlo2, tokC]
   rfl
  ·simp only [go_sem, l193x0, b193, Tryz.f193, k0, t1, hlo2, tokC]
   rfl
 intro m
 induction m with
 | zero =>
  intro i ex hex h1 h2
  exact stop 0 i ex hex (List.eq_nil_of_length_eq_zero (by omega)) h2
 | succ m ih =>
  intro i ex hex h1 h2
  rcases Nat.lt_or_ge i l.length with hi | hi
  rotate_left
  ·exact stop (m + 1) i ex hex (suf_end hi) h2
  have hcp := chr_pos hi
  have k0 := fun lo p q => f90 (lo := lo) (l := l) (i := i) (p := p) (q := q) (k := 0) (by omega)
  have ks := fun lo p q => f106 (lo := lo) (l := l) (i := i) (p := p) (q := q) (cs := [41]) (by simp; omega)
  have ke := fun lo p q => f115 (lo := lo) (l := l) (i := i) (p := p) (q := q) (k := 0) (by omega)
  have hw1 : IntKind.i64.wrap ((i : Int) + 1) = ((i + 1 : Nat) : Int) := wrap_succ (by omega)
  simp only [n0, ri_cons, ri_nil, isN_one] at k0 ks ke
  have hs := suf_next hi
  have hn : chr (suf l i) (0 + 1) = chr (suf l (i + 1)) 0 := by rw [hs]; exact chr_succ _ _ 0
  rw [hn] at ke
  generalize chr (suf l i) 0 = c at hs k0 ks ke hcp
  rw [hs] at h1 ⊢
  simp only [List.length_cons] at h1
  have te : (c == -1) = false := by simp; omega
  by_cases c41 : c = 41
  ·subst c41
   have t0 : ((41 : Int) == 41) = true := rfl
   have e : badN (m + 1) (41 :: suf l (i + 1)) = suf l (i + 1) := by simp [badN]
   refine ⟨i + 1, by omega, by omega, by rw [e], ?_⟩
   rw [loop_eq]
   rcases hex with rfl | ⟨b, rfl⟩
   ·simp only [go_sem, l193x0, b193, Tryz.f193, k0, ks, te, t0, hlo, hlo2, hw1, tokC]
    rfl
   ·simp only [go_sem, l193x0, b193, Tryz.f193, k0, ks, te, t0, hlo, hlo2, hw1, tokC]
    rfl
  have t0 : (c == 41) = false := by simp [c41]
  cases he : esc c (chr (suf l (i + 1)) 0) with
  | true =>
   obtain ⟨j0, a1, a2, a3, a4⟩ := f154 (l := l) (i := i + 1) hl (by omega)
   have e : badN (m + 1) (c :: suf l (i + 1)) = badN m (escd (suf l (i + 1))).2 := by
    simp only [badN]
    rw [if_neg c41, if_pos he]
   obtain ⟨j, j1, j2, j3, j4⟩ := ih j0 [] (.inl rfl) (by rw [suf_len] at h1 ⊢; omega) a1
   refine ⟨j, j1, by omega, by rw [j3, e, a3], ?_⟩
   have er : evCode ⟨Tryz.prog, E, lo, p.length + (q.length + 1), h193⟩ loopW l193x0 ((0, .ptr p.length 0) :: (2, .ptr (p.length + (q.length + 1)) 0) :: ex, p ++ R l i :: (q ++ [.cells (tokC 0 [])])) =
     some (.normal, [(0, .ptr p.length 0), (2, .ptr (p.length + (q.length + 1)) 0)], p ++ R l j0 :: (q ++ [.cells (tokC 0 [])])) := by
    rcases hex with rfl | ⟨b, rfl⟩
    ·simp only [go_sem, l193x0, b193, Tryz.f193, k0, ks, ke, te, t0, he, hlo, hlo2, hw1, a4 _ _ _ hlo, tokC]
    ·simp only [go_sem, l193x0, b193, Tryz.f193, k0, ks, ke, te, t0, he, hlo, hlo2, hw1, a4 _ _ _ hlo, tokC]
   rw [loop_eq, er, loop_n]
   exact j4
  | false =>
   have e : badN (m + 1) (c :: suf l (i + 1)) = badN m (suf l (i + 1)) := by
    simp only [badN]
    rw [if_neg c41, if_neg (by simp [he])]
   obtain ⟨j, j1, j2, j3, j4⟩ := ih (i + 1) [] (.inl rfl) (by omega) (by omega)
   refine ⟨j, j1, by omega, by rw [j3, e], ?_⟩
   have er : evCode ⟨Tryz.prog, E, lo, p.length + (q.length + 1), h193⟩ loopW l193x0 ((0, .ptr p.length 0) :: (2, .ptr (p.length + (q.length + 1)) 0) :: ex, p ++ R l i :: (q ++ [.cells (tokC 0 [])])) =
     some (.normal, [(0, .ptr p.length 0), (2, .ptr (p.length + (q.length + 1)) 0)], p ++ R l (i + 1) :: (q ++ [.cells (tokC 0 [])])) := by
    rcases hex with rfl | ⟨b, rfl⟩
    ·simp only [go_sem, l193x0, b193, Tryz.f193, k0, ks, ke, te, t0, he, hlo, hlo2, hw1, tokC]
    ·simp only [go_sem, l193x0, b193, Tryz.f193, k0, ks, ke, te, t0, he, hlo, hlo2, hw1, tokC]
   rw [loop_eq, er, loop_n]
   exact j4
theorem f193 (hl : l.length <= 100000000000) (hi : i <= l.length) : ∃ j, j <= l.length /\ i <= j /\ suf l j = badu (suf l i) /\
  ∀ lo p q, lo <= p.length -> E lo 193 [.ptr p.length 0] (p ++ R l i :: q) = some (.agg (tokC 8 []), p ++ R l j :: q) := by
 obtain ⟨j, j1, j2, j3, _⟩ := loop193 (lo := 0) (p := []) (q := []) (l := l) (Nat.le_refl _) (Nat.zero_le _) hl (suf l i).length i [] (.inl rfl) (Nat.le_refl _) hi
 refine ⟨j, j1, j2, j3, fun lo p q hlo => ?_⟩
 have hlo2 : lo <= p.length + (q.length + 1) := by omega
 obtain ⟨j', j1', _, j3', hL⟩ := loop193 (lo := lo) (p := p) (q := q) (l := l) hlo hlo2 hl (suf l i).length i [] (.inl rfl) (Nat.le_refl _) hi
 obtain rfl : j' = j := suf_inj j1' j1 (by rw [j3', j3])
 rw [e193 (by simp) (by rfl)]
 simp only [tokC, l193x0, b193, Tryz.f193, loopAt, loops, bodyOf, go_sem, str_nil] at hL
 simp only [go_sem, b193, Tryz.f193, hL]
 rfl
end
end Go.Lift.P8.T
end

section
open Go.Proofs
namespace Go.Lift.P8.T
variable [MX]
open Utf Tok
def bl (l : List Int) : List V := l.map fun n => .v (.int .u8 n)
theorem bl_len (l : List Int) : (bl l).length = l.length := by simp [bl]
theorem bl_get (l : List Int) (i : Nat) : (bl l)[i]? = (l[i]?).map fun n => V.v (.int .u8 n) := by simp [bl]
theorem bl_set (l : List Int) (i : Nat) (n : Int) : (bl l).set i (.v (.int .u8 n)) = bl (l.set i n) := by simp [bl, List.map_set]
theorem byteCells_u8s {l : List Int} (hy : By l) : byteCells ⟨(u8s l).toArray⟩ = bl l := by
 simp only [byteCells, u8s, bl, List.map_map]
 refine List.map_congr_left fun n hn => ?_
 have := hy n hn
 have e : ((UInt8.ofNat n.toNat).toNat : Int) = n := by
  rw [UInt8.toNat_ofNat']
  omega
 simp only [Function.comp, e]
end Go.Lift.P8.T
end

section
open Go.Proofs
namespace Go.Lift.P8
open Rul
open Utf (By)
open T (bl bl_len bl_get bl_set byteCells_u8s)
variable [MX]
variable {lo : Nat} {h : Heap}
theorem loop65 (hlo : lo <= h.length) : ∀ (n : Nat) (a b : List Int), b.length <= n -> a.length + b.length <= 1000000000000 -> By b ->
  loopW (evCode ⟨Tryz.prog, E, lo, h.length, h65⟩ loopW l65x0) ([(3, .buf h.length 0 (a.length + b.length)), (8, .buf h.length 0 (a.length + b.length)), (9, .v (.int .i64 (a.length + b.length : Nat))), (10, .v (.int .i64 a.length))], h ++ [.cells (bl (a ++ b))]) =
   some (.exit 0, [(3, .buf h.length 0 (a.length + b.length)), (8, .buf h.length 0 (a.length + b.length)), (9, .v (.int .i64 (a.length + b.length : Nat))), (10, .v (.int .i64 (a.length + b.length : Nat))), (11, .v (.bool false))], h ++ [.cells (bl (a ++ small b))]) := by
 intro n
 induction n with
 | zero =>
  intro a b hb hab hy
  obtain rfl : b = [] := List.eq_nil_of_length_eq_zero (by omega)
  have hd : decide (((a.length : Nat) : Int) < ((a.length + ([] : List Int).length : Nat) : Int)) = false := by simp
  rw [loop_eq]
  simp only [List.length_nil, Nat.add_zero] at hd ⊢
  simp only [go_sem, l65x0, b65, Tryz.f65, hd, small, List.map_nil]
 | succ n ih =>
  intro a b hb hab hy
  cases b with
  | nil =>
   have hd : decide (((a.length : Nat) : Int) < ((a.length + ([] : List Int).length : Nat) : Int)) = false := by simp
   rw [loop_eq]
   simp only [List.length_nil, Nat.add_zero] at hd ⊢
   simp only [go_sem, l65x0, b65, Tryz.f65, hd, small, List.map_nil]
  | cons c b =>
   have hcy := hy c (List.mem_cons_self ..)
   have hd : decide ((a.length : Int) < ((a.length + (c :: b).length : Nat) : Int)) = true := by simp; omega
   have hx : (bl (a ++ c :: b))[a.length]? = some (.v (.int .u8 c)) := by simp [bl_get]
   have hw : IntKind.i64.wrap ((a.length : Int) + 1) = ((a.length + 1 : Nat) : Int) := wrap_succ (by omega)
   have hlt : a.length < a.length + (c :: b).length := by simp
   have hih := ih (a ++ [lowb c]) b (by simp at hb; omega) (by simp at hab ⊢; omega) (fun x hx => hy x (List.mem_cons_of_mem _ hx))
   have el : (a ++ [lowb c]).length + b.length = a.length + (c :: b).length := by simp; omega
   have el2 : (a ++ [lowb c]).length = a.length + 1 := by simp
   have el3 : a ++ [lowb c] ++ small b = a ++ small (c :: b) := by simp [small]
   rw [el, el2, el3] at hih
   by_cases h1 : 65 <= c
   ·have q1 : decide (65 <= c) = true := by simpa using h1
    by_cases h2 : c <= 90
    ·have q2 : decide (c <= 90) = true := by simpa using h2
     have hlc : lowb c = c + 32 := by unfold lowb; rw [if_pos ⟨h1, h2⟩]
     have hs : (bl (a ++ c :: b)).set a.length (.v (.int .u8 (c + 32))) = bl (a ++ [lowb c] ++ b) := by
      rw [bl_set, hlc]
      simp
     have hwa : IntKind.u8.wrap (c + 97) = c + 97 := wrap_u8 (by omega) (by omega)
     have hwc : IntKind.u8.wrap (c + 97 - 65) = c + 32 := by rw [wrap_u8 (by omega) (by omega)]; omega
     have hbl : a.length + 1 <= (bl (a ++ c :: b)).length := by rw [bl_len]; simp
     generalize hcs : a.length + (c :: b).length = k at *
     have er : evCode ⟨Tryz.prog, E, lo, h.length, h65⟩ loopW l65x0 ([(3, .buf h.length 0 k), (8, .buf h.length 0 k), (9, .v (.int .i64 (k : Nat))), (10, .v (.int .i64 a.length))], h ++ [.cells (bl (a ++ c :: b))]) =
       some (.normal, [(3, .buf h.length 0 k), (8, .buf h.length 0 k), (9, .v (.int .i64 (k : Nat))), (10, .v (.int .i64 (a.length + 1 : Nat)))], h ++ [.cells (bl (a ++ [lowb c] ++ b))]) := by
      have hlt' : (a.length : Int) < k := by omega
      have h0' : (0 : Int) <= a.length := by omega
      simp only [go_sem, l65x0, b65, Tryz.f65, hd, hx, hw, q1, q2, hwa, hwc, hs, hlo, hlt, hlt', h0', hbl, Nat.zero_add, Int.toNat_natCast, and_self]
      all_goals rfl
     rw [loop_eq, er, loop_n]
     exact hih
    ·have q2 : decide (c <= 90) = false := by simpa using h2
     have hlc : lowb c = c := by unfold lowb; rw [if_neg (by omega)]
     rw [hlc] at hih
     generalize hcs : a.length + (c :: b).length = k at *
     have er : evCode ⟨Tryz.prog, E, lo, h.length, h65⟩ loopW l65x0 ([(3, .buf h.length 0 k), (8, .buf h.length 0 k), (9, .v (.int .i64 (k : Nat))), (10, .v (.int .i64 a.length))], h ++ [.cells (bl (a ++ c :: b))]) =
       some (.normal, [(3, .buf h.length 0 k), (8, .buf h.length 0 k), (9, .v (.int .i64 (k : Nat))), (10, .v (.int .i64 (a.length + 1 : Nat)))], h ++ [.cells (bl (a ++ c :: b))]) := by
      have hlt' : (a.length : Int) < k := by omega
      have h0' : (0 : Int) <= a.length := by omega
      simp only [go_sem, l65x0, b65, Tryz.f65, hd, hx, hw, q1, q2, hlo, hlt, hlt', h0', Nat.zero_add, Int.toNat_natCast, and_self]
      all_goals rfl
     rw [loop_eq, er, loop_n]
     have e4 : a ++ c :: b = a ++ [c] ++ b := by simp
     rw [e4]
     exact hih
   ·have q1 : decide (65 <= c) = false := by simpa using h1
    have hlc : lowb c = c := by unfold lowb; rw [if_neg (by omega)]
    rw [hlc] at hih
    generalize hcs : a.length + (c :: b).length = k at *
    have er : evCode ⟨Tryz.prog, E, lo, h.length, h65⟩ loopW l65x0 ([(3, .buf h.length 0 k), (8, .buf h.length 0 k), (9, .v (.int .i64 (k : Nat))), (10, .v (.int .i64 a.length))], h ++ [.cells (bl (a ++ c :: b))]) =
      some (.normal, [(3, .buf h.length 0 k), (8, .buf h.length 0 k), (9, .v (.int .i64 (k : Nat))), (10, .v (.int .i64 (a.length + 1 : Nat)))], h ++ [.cells (bl (a ++ c :: b))]) := by
     have hlt' : (a.length : Int) < k := by omega
     have h0' : (0 : Int) <= a.length := by omega
     simp only [go_sem, l65x0, b65, Tryz.f65, hd, hx, hw, q1, hlo, hlt, hlt', h0', Nat.zero_add, Int.toNat_natCast, and_self]
     all_goals rfl
    rw [loop_eq, er, loop_n]
    have e4 : a ++ c :: b = a ++ [c] ++ b := by simp
    rw [e4]
    exact hih
theorem f65 {l : List Int} (hlo : lo <= h.length) (hl : l.length <= 1000000000000) (hy : By l) : E lo 65 [.v (.string (Rul.bs l))] h = some (.v (.string (Rul.bs (small l))), h) := by
 have hL := loop65 (lo := lo) (h := h) hlo l.length [] l (Nat.le_refl _) (by simpa using hl) hy
 have hz : (⟨(u8s l).toArray⟩ : ByteArray).size = l.length := by simp [ByteArray.size, u8s]
 have hsl : (small l).length = l.length := List.length_map _
 rw [e65 (by simp) (by rfl)]
 simp only [l65x0, b65, Tryz.f65, loopAt, loops, bodyOf, go_sem, List.length_nil, Nat.zero_add, List.nil_append] at hL
 have hb1 : decide (0 + l.length <= (bl (small l)).length) = true := by rw [bl_len, hsl]; simp
 have hb2 : ((bl (small l)).take l.length).map (fun x => [x]) = ri .u8 (small l) := by
  rw [List.take_of_length_le (by rw [bl_len, hsl]; exact Nat.le_refl _)]
  simp [bl, ri]
 simp only [go_sem, b65, Tryz.f65, hz, Rul.bs, byteCells_u8s hy, hL, hb1, hb2, List.nil_append]
 all_goals rfl
end Go.Lift.P8
end

section
namespace Go.Lift.Tok
open Utf
theorem le_mulr {a b : Int} (ha : 0 <= a) (hb : 1 <= b) : a <= a * b := by
 have := Int.mul_le_mul_of_nonneg_left hb ha
 omega
theorem le_mull {a b : Int} (ha : 0 <= a) (hb : 1 <= b) : a <= b * a := by rw [Int.mul_comm]; exact le_mulr ha hb
theorem one_pow_le {y : Int} (hy : 1 <= y) : ∀ j : Nat, 1 <= y ^ j
 | 0 => by simp
 | j + 1 => by rw [Int.pow_succ]; exact Int.le_trans (one_pow_le hy j) (le_mulr (by have := one_pow_le hy j; omega) hy)
def expN (n : Int) : List Int -> Int
 | [] => n
 | c :: t => expN (if 1099511627776 < n * 10 + (c - 48) then 1099511627776 else n * 10 + (c - 48)) t
def valN (n : Int) : List Int -> Int
 | [] => n
 | c :: t => valN (n * 10 + (c - 48)) t
theorem valN_bound : ∀ (l : List Int) (n : Int) (k : Nat), (∀ c ∈ l, dig c = true) -> 0 <= n -> n < 10 ^ k -> 0 <= valN n l /\ valN n l < 10 ^ (k + l.length) /\ n <= valN n l
 | [], n, k, _, h0, h1 => ⟨h0, by simpa [valN] using h1, Int.le_refl _⟩
 | c :: t, n, k, hl, h0, h1 => by
  have hc : dig c = true := hl c (by simp)
  simp only [dig, Bool.and_eq_true, decide_eq_true_eq] at hc
  have h2 : (10 : Int) ^ (k + 1) = 10 ^ k * 10 := Int.pow_succ 10 k
  obtain ⟨a, b, d⟩ := valN_bound t (n * 10 + (c - 48)) (k + 1) (fun x hx => hl x (by simp [hx])) (by omega) (by omega)
  refine ⟨a, ?_, ?_⟩
  ·have e : k + (c :: t).length = k + 1 + t.length := by simp; omega
   rw [e]; exact b
  ·simp only [valN]; omega
def upN : Nat -> Int -> Option Int
 | 0, n => some n
 | k + 1, n => if 922337203685477580 < n then none else upN k (n * 10)
def divN (y : Int) : Nat -> Int -> Nat × Int
 | 0, n => (0, n)
 | k + 1, n => if n % y = 0 then divN y k (n / y) else (k + 1, n)
def mulN (y b : Int) : Nat -> Int -> Option Int
 | 0, d => some d
 | k + 1, d => if b < d then none else mulN y b k (d * y)
def downN (y b : Int) : Nat -> Int -> Int -> Option (Int × Int)
 | 0, n, d => some (n, d)
 | k + 1, n, d => if n % y = 0 then downN y b k (n / y) d else if b < d then none else downN y b k n (d * y)
theorem downN_not {y b : Int} : ∀ (k : Nat) (n d : Int), n % y ≠ 0 -> downN y b k n d = (mulN y b k d).map fun x => (n, x)
 | 0, n, d, _ => rfl
 | k + 1, n, d, h => by
  simp only [downN, mulN]
  rw [if_neg h]
  split
  ·rfl
  ·exact downN_not k n (d * y) h
theorem downN_eq {y b : Int} : ∀ (k : Nat) (n d : Int), downN y b k n d = (mulN y b (divN y k n).1 d).map fun x => ((divN y k n).2, x)
 | 0, n, d => rfl
 | k + 1, n, d => by
  by_cases h : n % y = 0
  ·simp only [downN, divN]
   rw [if_pos h, if_pos h]
   exact downN_eq k (n / y) d
  ·have e : divN y (k + 1) n = (k + 1, n) := by simp only [divN]; rw [if_neg h]
   rw [e]
   exact downN_not (k + 1) n d h
theorem upN_some : ∀ (k : Nat) (n m : Int), upN k n = some m -> m = n * 10 ^ k /\ (k = 0 \/ m <= 9223372036854775800)
 | 0, n, m, h => by simp only [upN, Option.some.injEq] at h; exact ⟨by simp [h], .inl rfl⟩
 | k + 1, n, m, h => by
  simp only [upN] at h
  split at h
  ·cases h
  ·rename_i h1
   obtain ⟨a, b⟩ := upN_some k (n * 10) m h
   refine ⟨by rw [a, Int.pow_succ, Int.mul_assoc, Int.mul_comm 10], .inr ?_⟩
   rcases b with b | b
   ·subst b
    simp at a
    omega
   ·exact b
theorem upN_big {k : Nat} {n : Int} (hk : 18 < k) (hn : 1 <= n) : upN k n = none := by
 cases h : upN k n with
 | none => rfl
 | some m =>
  obtain ⟨a, b⟩ := upN_some k n m h
  have h1 : (10 : Int) ^ 19 <= 10 ^ k := by
   obtain ⟨j, rfl⟩ : ∃ j, k = 19 + j := ⟨k - 19, by omega⟩
   rw [Int.pow_add]
   have : (1 : Int) <= 10 ^ j := one_pow_le (by omega) j
   exact le_mulr (by decide) this
  have h2 : (10 : Int) ^ k <= n * 10 ^ k := le_mull (by have := one_pow_le (y := 10) (by omega) k; omega) hn
  have h3 : (10 : Int) ^ 19 = 10000000000000000000 := by decide
  omega
theorem mulN_some {y b : Int} (hy : 0 < y) : ∀ (k : Nat) (n m : Int), mulN y b k n = some m -> m = n * y ^ k /\ (k = 0 \/ m <= b * y)
 | 0, n, m, h => by simp only [mulN, Option.some.injEq] at h; exact ⟨by simp [h], .inl rfl⟩
 | k + 1, n, m, h => by
  simp only [mulN] at h
  split at h
  ·cases h
  ·rename_i h1
   obtain ⟨a, c⟩ := mulN_some hy k (n * y) m h
   refine ⟨by rw [a, Int.pow_succ, Int.mul_assoc, Int.mul_comm y], .inr ?_⟩
   rcases c with c | c
   ·subst c
    simp at a
    rw [a]
    exact Int.mul_le_mul_of_nonneg_right (by omega) (by omega)
   ·exact c
theorem mul5_big {k : Nat} {d : Int} (hk : 27 < k) (hd : 1 <= d) : mulN 5 1844674407370955161 k d = none := by
 cases h : mulN 5 1844674407370955161 k d with
 | none => rfl
 | some m =>
  obtain ⟨a, b⟩ := mulN_some (by omega) k d m h
  have h1 : (5 : Int) ^ 28 <= 5 ^ k := by
   obtain ⟨j, rfl⟩ : ∃ j, k = 28 + j := ⟨k - 28, by omega⟩
   rw [Int.pow_add]
   have : (1 : Int) <= 5 ^ j := one_pow_le (by omega) j
   exact le_mulr (by decide) this
  have h2 : (5 : Int) ^ k <= d * 5 ^ k := le_mull (by have := one_pow_le (y := 5) (by omega) k; omega) hd
  have h3 : (5 : Int) ^ 28 = 37252902984619140625 := by decide
  omega
theorem two_pow_le {a c : Nat} (h : a <= c) : (2 : Int) ^ a <= 2 ^ c := by
 obtain ⟨j, rfl⟩ : ∃ j, c = a + j := ⟨c - a, by omega⟩
 rw [Int.pow_add]
 have h0 : (0 : Int) < 2 ^ a := one_pow_le (by omega) a
 have : (1 : Int) <= 2 ^ j := one_pow_le (by omega) j
 exact le_mulr (by omega) this
theorem mul2_eq : ∀ (k a : Nat), a <= 62 -> mulN 2 4611686018427387903 k (2 ^ a) = if 62 < a + k then none else some (2 ^ (a + k))
 | 0, a, h => by rw [if_neg (by omega)]; rfl
 | k + 1, a, h => by
  have h62 : (2 : Int) ^ 62 = 4611686018427387904 := by decide
  have h61 : (2 : Int) ^ 61 = 2305843009213693952 := by decide
  simp only [mulN]
  by_cases ha : a = 62
  ·subst ha
   rw [if_pos (by omega), if_pos (by omega)]
  ·have := two_pow_le (show a <= 61 by omega)
   rw [if_neg (by omega), <- Int.pow_succ, mul2_eq k (a + 1) (by omega)]
   have e : a + 1 + k = a + (k + 1) := by omega
   rw [e]
theorem divN_spec {y : Int} (hy : 0 < y) : ∀ (k : Nat) (n : Int), 1 <= n -> (divN y k n).1 <= k /\ 1 <= (divN y k n).2 /\ (divN y k n).2 <= n /\ n = (divN y k n).2 * y ^ (k - (divN y k n).1)
 | 0, n, h => by simp [divN, h]
 | k + 1, n, h => by
  simp only [divN]
  split
  ·rename_i h1
   have h2 : n = n / y * y := by have := Int.mul_ediv_add_emod n y; rw [h1, Int.add_zero] at this; rw [Int.mul_comm]; exact this.symm
   have h3 : 1 <= n / y := by
    rcases Int.lt_or_le (n / y) 1 with h4 | h4
    ·have : n / y * y <= 0 := Int.mul_nonpos_of_nonpos_of_nonneg (by omega) (by omega)
     omega
    ·exact h4
   obtain ⟨a, b, c, d⟩ := divN_spec hy k (n / y) h3
   have h5 : n / y <= n := Int.ediv_le_self y (by omega)
   refine ⟨by omega, b, by omega, ?_⟩
   have e : k + 1 - (divN y k (n / y)).1 = k - (divN y k (n / y)).1 + 1 := by omega
   rw [e, Int.pow_succ, <- Int.mul_assoc, <- d]
   exact h2
  ·simp [h]
def scaleR (n p : Int) : Option (Int × Int) :=
 match upN p.toNat n with
 | none => none
 | some m =>
  if 62 < (divN 2 (-p).toNat m).1 \/ 27 < (divN 5 (-p).toNat (divN 2 (-p).toNat m).2).1 then none
  else (mulN 5 1844674407370955161 (divN 5 (-p).toNat (divN 2 (-p).toNat m).2).1 (2 ^ (divN 2 (-p).toNat m).1)).map fun d => ((divN 5 (-p).toNat (divN 2 (-p).toNat m).2).2, d)
def scaleP (n p : Int) : Option (Int × Int) :=
 if 18 < p \/ p < -100 then none else
 match upN p.toNat n with
 | none => none
 | some m => match downN 2 4611686018427387903 (-p).toNat m 1 with
  | none => none
  | some (n2, d2) => downN 5 1844674407370955161 (-p).toNat n2 d2
theorem scale_eq {n p : Int} (h1 : 1 <= n) (h2 : n < 10 ^ 18) : scaleP n p = scaleR n p := by
 unfold scaleP scaleR
 by_cases hp : 18 < p
 ·rw [if_pos (.inl hp), upN_big (by omega) h1]
 by_cases hq : p < -100
 ·have e : p.toNat = 0 := by omega
  rw [if_pos (.inr hq), e]
  simp only [upN]
  rw [if_pos]
  right
  obtain ⟨a1, b1, c1, d1⟩ := divN_spec (y := 2) (by omega) (-p).toNat n h1
  obtain ⟨a, b, c, d⟩ := divN_spec (y := 5) (by omega) (-p).toNat _ b1
  generalize (divN 2 (-p).toNat n).2 = n2 at *
  generalize (divN 5 (-p).toNat n2).1 = k at *
  generalize (divN 5 (-p).toNat n2).2 = n3 at *
  rcases Nat.lt_or_ge 27 k with h | h
  ·exact h
  ·exfalso
   have h4 : (5 : Int) ^ 26 <= 5 ^ ((-p).toNat - k) := by
    obtain ⟨j, e⟩ : ∃ j, (-p).toNat - k = 26 + j := ⟨(-p).toNat - k - 26, by omega⟩
    rw [e, Int.pow_add]
    have : (1 : Int) <= 5 ^ j := one_pow_le (by omega) j
    exact le_mulr (by decide) this
   have h5 : (5 : Int) ^ ((-p).toNat - k) <= n3 * 5 ^ ((-p).toNat - k) := le_mull (by have := one_pow_le (y := 5) (by omega) ((-p).toNat - k); omega) b
   have h6 : (5 : Int) ^ 26 = 1490116119384765625 := by decide
   have h7 : (10 : Int) ^ 18 = 1000000000000000000 := by decide
   omega
 rw [if_neg (by omega)]
 cases hu : upN p.toNat n with
 | none => rfl
 | some m =>
  have hm : 1 <= m := by
   obtain ⟨a, _⟩ := upN_some _ _ _ hu
   have : (0 : Int) < 10 ^ p.toNat := one_pow_le (by omega) _
   rw [a]
   exact Int.le_trans h1 (le_mulr (by omega) this)
  simp only
  rw [downN_eq]
  have e1 : (1 : Int) = 2 ^ 0 := rfl
  have e2 := mul2_eq (divN 2 (-p).toNat m).1 0 (by omega)
  rw [Nat.zero_add] at e2
  rw [e1, e2]
  obtain ⟨_, b1, _, _⟩ := divN_spec (y := 2) (by omega) (-p).toNat m hm
  by_cases h62 : 62 < (divN 2 (-p).toNat m).1
  ·rw [if_pos h62, if_pos (.inl h62)]; rfl
  ·rw [if_neg h62]
   simp only [Option.map_some]
   rw [downN_eq]
   by_cases h27 : 27 < (divN 5 (-p).toNat (divN 2 (-p).toNat m).2).1
   ·rw [if_pos (.inr h27), mul5_big h27]
    ·rfl
    ·exact one_pow_le (by omega) _
   ·rw [if_neg (by omega)]
structure Wr where
 below : Bool
 digits : List Int
 behind : Nat
 exp : Int
 whole : Bool
def core (d : List Int) : List Int := (d.reverse.dropWhile (· == 48)).reverse
def turn (below : Bool) (x : Option (Int × Int)) : Int × Int := match x with
 | none => (0, 0)
 | some (n, d) => (if below = true then -n else n, d)
def ratio (w : Wr) : Int × Int :=
 let d := w.digits.dropWhile (· == 48)
 if d = [] then (0, 1) else
 if 18 < (core d).length then (0, 0) else
 turn w.below (scaleR (valN 0 (core d)) (w.exp - w.behind + (d.length - (core d).length)))
structure Nm where
 sg : List Int
 d1 : List Int
 fr : List Int
 ex : List Int
 d3 : List Int
def Nm.text (n : Nm) : List Int := n.sg ++ n.d1 ++ (if n.fr = [] then [] else 46 :: n.fr) ++ n.ex ++ n.d3
def Nm.wr (n : Nm) : Wr := ⟨n.sg == [45], n.d1 ++ n.fr, n.fr.length, if chr n.ex 1 = 45 then - expN 0 n.d3 else expN 0 n.d3, n.fr.isEmpty && n.ex.isEmpty⟩
def Nm.num (n : Nm) : (Int × Int) × Bool := (ratio n.wr, n.wr.whole)
structure Nm.Ok (n : Nm) : Prop where
 sg : n.sg = [] \/ n.sg = [43] \/ n.sg = [45]
 d1 : n.d1.all dig = true
 fr : n.fr.all dig = true
 some : n.d1 ++ n.fr ≠ []
 ex : (n.ex = [] /\ n.d3 = []) \/ ((∃ e, (e = 101 \/ e = 69) /\ (n.ex = [e] \/ n.ex = [e, 43] \/ n.ex = [e, 45])) /\ n.d3 ≠ [])
 d3 : n.d3.all dig = true
def numP (s : List Int) : Nm × List Int :=
 let a := if (chr s 0 == 43 || chr s 0 == 45) = true then s.drop 1 else s
 let b := a.dropWhile dig
 let f := (chr b 0 == 46 && dig (chr b 1))
 let c := if f = true then (b.drop 1).dropWhile dig else b
 let k := if (chr c 1 == 43 || chr c 1 == 45) = true then 2 else 1
 let x := ((chr c 0 == 101 || chr c 0 == 69) && dig (chr c k))
 (⟨if (chr s 0 == 43 || chr s 0 == 45) = true then s.take 1 else [], a.takeWhile dig, if f = true then (b.drop 1).takeWhile dig else [],
  if x = true then c.take k else [], if x = true then (c.drop k).takeWhile dig else []⟩, if x = true then (c.drop k).dropWhile dig else c)
end Go.Lift.Tok
end

section
namespace Go.Lift.Tok
open Utf
def lowc (c : Int) : Int := if (decide (65 <= c) && decide (c <= 90)) = true then c + 32 else c
def isUrl (n : List Int) : Bool := n.map lowc == [117, 114, 108]
def skip2N : Nat -> List Int -> List Int
 | 0, s => s
 | n + 1, s => if (blk (chr s 0) && blk (chr s 1)) = true then skip2N n (s.drop 1) else s
def skip2 (s : List Int) : List Int := skip2N s.length s
def tk (k : Int) (t : List Int) : Tk := ⟨k, t, (0, 0), false, false⟩
def urlT (x : Bool × List Int × List Int) : Tk := if x.1 = true then tk 7 x.2.1 else tk 8 []
def txtT (x : Bool × List Int × List Int) : Tk := if x.1 = true then tk 5 x.2.1 else tk 6 []
def word (s : List Int) : Tk × List Int :=
 let n := (name s).1
 let r := (name s).2
 if chr r 0 = 40 then
  if isUrl n = true then
   let b := skip2 (r.drop 1)
   if quo (if blk (chr b 0) = true then chr b 1 else chr b 0) = true then (tk 2 n, b) else (urlT (url b), (url b).2.2)
  else (tk 2 n, r.drop 1)
 else (tk 1 n, r)
def figure (s : List Int) : Tk × List Int :=
 let d := (numP s).1.num
 let r := (numP s).2
 if beg (chr r 0) (chr r 1) (chr r 2) = true then (⟨12, (name r).1, d.1, d.2, false⟩, (name r).2)
 else if chr r 0 = 37 then (⟨11, [], d.1, d.2, false⟩, r.drop 1)
 else (⟨10, [], d.1, d.2, false⟩, r)
def plK (c : Int) : Int :=
 if c = 40 then 21 else if c = 41 then 22 else if c = 44 then 18 else if c = 58 then 16 else if c = 59 then 17
 else if c = 91 then 19 else if c = 93 then 20 else if c = 123 then 23 else if c = 125 then 24 else 0
def token (s : List Int) : Tk × List Int :=
 let c := chr s 0
 let d := chr s 1
 let e := chr s 2
 if blk c = true then (tk 13 [], blanks s)
 else if quo c = true then (txtT (txt c (s.drop 1)), (txt c (s.drop 1)).2.2)
 else if 0 < plK c then (tk (plK c) [], s.drop 1)
 else if num c d e = true then figure s
 else if c = 45 /\ d = 45 /\ e = 62 then (tk 15 [], s.drop 3)
 else if c = 60 /\ d = 33 /\ e = 45 /\ chr s 3 = 45 then (tk 14 [], s.drop 4)
 else if c = 35 /\ (ltr d || esc d e) = true then (⟨4, (name (s.drop 1)).1, (0, 0), false, beg d e (chr s 3)⟩, (name (s.drop 1)).2)
 else if c = 64 /\ beg d e (chr s 3) = true then (tk 3 (name (s.drop 1)).1, (name (s.drop 1)).2)
 else if beg c d e = true then word s
 else (tk 9 [c], s.drop 1)
def toksN : Nat -> List Int -> List Tk
 | 0, _ => []
 | n + 1, s => if rems s = [] then [] else (token (rems s)).1 :: toksN n (token (rems s)).2
def toks (s : List Int) : List Tk := toksN s.length s
end Go.Lift.Tok
end

section
namespace Go.Lift.Tok
open Utf
theorem chr_at {s : List Int} {c : Int} (h : chr s 0 = c) (hc : c ≠ -1) : ∃ t, s = c :: t := by
 cases s with
 | nil => simp only [chr, List.getElem?_nil] at h; exact absurd h.symm hc
 | cons x t => simp only [chr, List.getElem?_cons_zero] at h; exact ⟨t, by rw [h]⟩
theorem chr_at1 {s : List Int} (h : dig (chr s 1) = true) : ∃ a b t, s = a :: b :: t /\ dig b = true := by
 match s with
 | [] => simp [chr, dig] at h
 | [x] => simp [chr, dig] at h
 | a :: b :: t => exact ⟨a, b, t, rfl, by simpa [chr] using h⟩
theorem chr_drop (s : List Int) (n k : Nat) : chr (s.drop n) k = chr s (n + k) := by simp [chr]
theorem tw_dw (p : Int -> Bool) (l : List Int) : l.takeWhile p ++ l.dropWhile p = l := List.takeWhile_append_dropWhile
theorem all_tw : ∀ l : List Int, (l.takeWhile dig).all dig = true
 | [] => rfl
 | c :: t => by
  cases hc : dig c with
  | true => rw [List.takeWhile_cons_of_pos hc, List.all_cons, hc, all_tw t]; rfl
  | false => rw [List.takeWhile_cons_of_neg (by simp [hc])]; rfl
theorem all_if {b : Bool} {l : List Int} : (if b = true then l.takeWhile dig else []).all dig = true := by
 cases b with
 | true => exact all_tw l
 | false => rfl
theorem numP_text (s : List Int) : (numP s).1.text ++ (numP s).2 = s := by
 unfold numP Nm.text
 simp only
 generalize hf : (chr ((if (chr s 0 == 43 || chr s 0 == 45) = true then s.drop 1 else s).dropWhile dig) 0 == 46 && dig (chr ((if (chr s 0 == 43 || chr s 0 == 45) = true then s.drop 1 else s).dropWhile dig) 1)) = f
 have hs : (if (chr s 0 == 43 || chr s 0 == 45) = true then s.take 1 else []) ++ (if (chr s 0 == 43 || chr s 0 == 45) = true then s.drop 1 else s) = s := by
  split
  ·exact List.take_append_drop 1 s
  ·rfl
 generalize (if (chr s 0 == 43 || chr s 0 == 45) = true then s.drop 1 else s) = a at *
 generalize (if (chr s 0 == 43 || chr s 0 == 45) = true then s.take 1 else []) = sg at *
 have ha := tw_dw dig a
 generalize a.takeWhile dig = d1 at *
 generalize a.dropWhile dig = b at *
 have hb : (if (if f = true then (b.drop 1).takeWhile dig else []) = [] then [] else 46 :: (if f = true then (b.drop 1).takeWhile dig else [])) ++ (if f = true then (b.drop 1).dropWhile dig else b) = b := by
  cases f with
  | false => simp
  | true =>
   simp only [Bool.and_eq_true, beq_iff_eq] at hf
   obtain ⟨u, hu⟩ := chr_at hf.1 (by decide)
   obtain ⟨x, y, v, hv, hy⟩ := chr_at1 hf.2
   rw [hu] at hv
   cases hv
   rw [hu]
   simp only [List.drop_succ_cons, List.drop_zero, if_true]
   rw [if_neg (by rw [List.takeWhile_cons_of_pos hy]; simp), List.cons_append, tw_dw]
 generalize (if f = true then (b.drop 1).takeWhile dig else []) = fr at *
 generalize (if f = true then (b.drop 1).dropWhile dig else b) = c at *
 generalize (if (chr c 1 == 43 || chr c 1 == 45) = true then 2 else 1) = k at *
 have hc : (if ((chr c 0 == 101 || chr c 0 == 69) && dig (chr c k)) = true then c.take k else []) ++ ((if ((chr c 0 == 101 || chr c 0 == 69) && dig (chr c k)) = true then (c.drop k).takeWhile dig else []) ++ (if ((chr c 0 == 101 || chr c 0 == 69) && dig (chr c k)) = true then (c.drop k).dropWhile dig else c)) = c := by
  split
  ·rw [tw_dw, List.take_append_drop]
  ·rfl
 simp only [List.append_assoc]
 rw [hc, hb, ha, hs]
theorem numP_ok {s : List Int} (hn : num (chr s 0) (chr s 1) (chr s 2) = true) : (numP s).1.Ok := by
 unfold numP
 simp only
 refine ⟨?_, all_tw _, ?_, ?_, ?_, ?_⟩
 ·simp only
  split
  ·rename_i h
   simp only [Bool.or_eq_true, beq_iff_eq] at h
   rcases h with h | h
   ·obtain ⟨t, ht⟩ := chr_at h (by decide)
    right; left; rw [ht]; rfl
   ·obtain ⟨t, ht⟩ := chr_at h (by decide)
    right; right; rw [ht]; rfl
  ·exact .inl rfl
 ·exact all_if
 ·simp only
  unfold num at hn
  by_cases hsg : (chr s 0 == 43 || chr s 0 == 45) = true
  ·rw [if_pos hsg] at hn ⊢
   have e0 : chr (s.drop 1) 0 = chr s 1 := chr_drop s 1 0
   have e1 : chr (s.drop 1) 1 = chr s 2 := chr_drop s 1 1
   rw [<- e0, <- e1] at hn
   generalize s.drop 1 = a at *
   rw [Bool.or_eq_true, Bool.and_eq_true, beq_iff_eq] at hn
   intro h0
   rw [List.append_eq_nil_iff] at h0
   obtain ⟨h1, h2⟩ := h0
   cases a with
   | nil => rcases hn with hn | ⟨hn, _⟩ <;> simp [chr, dig] at hn
   | cons c t =>
    have hc0 : dig c = false := by
     cases hc : dig c with
     | true => rw [List.takeWhile_cons_of_pos hc] at h1; cases h1
     | false => rfl
    rw [List.dropWhile_cons_of_neg (by simp [hc0])] at h2
    rcases hn with hn | ⟨hn, hm⟩
    ·have : dig c = true := hn
     rw [hc0] at this; cases this
    ·have hf : (chr (c :: t) 0 == 46 && dig (chr (c :: t) 1)) = true := by simp [hn, hm]
     rw [if_pos hf] at h2
     obtain ⟨x, y, v, hv, hy⟩ := chr_at1 hm
     cases hv
     simp only [List.drop_succ_cons, List.drop_zero] at h2
     rw [List.takeWhile_cons_of_pos hy] at h2
     cases h2
  ·rw [if_neg hsg] at hn ⊢
   rw [Bool.or_eq_true, Bool.and_eq_true, beq_iff_eq] at hn
   intro h0
   rw [List.append_eq_nil_iff] at h0
   obtain ⟨h1, h2⟩ := h0
   cases s with
   | nil => rcases hn with hn | ⟨hn, _⟩ <;> simp [chr, dig] at hn
   | cons c t =>
    have hc0 : dig c = false := by
     cases hc : dig c with
     | true => rw [List.takeWhile_cons_of_pos hc] at h1; cases h1
     | false => rfl
    rw [List.dropWhile_cons_of_neg (by simp [hc0])] at h2
    rcases hn with hn | ⟨hn, hm⟩
    ·have : dig c = true := hn
     rw [hc0] at this; cases this
    ·have hf : (chr (c :: t) 0 == 46 && dig (chr (c :: t) 1)) = true := by simp [hn, hm]
     rw [if_pos hf] at h2
     obtain ⟨x, y, v, hv, hy⟩ := chr_at1 hm
     cases hv
     simp only [List.drop_succ_cons, List.drop_zero] at h2
     rw [List.takeWhile_cons_of_pos hy] at h2
     cases h2
 ·simp only
  generalize (if (chr ((if (chr s 0 == 43 || chr s 0 == 45) = true then s.drop 1 else s).dropWhile dig) 0 == 46 && dig (chr ((if (chr s 0 == 43 || chr s 0 == 45) = true then s.drop 1 else s).dropWhile dig) 1)) = true then (((if (chr s 0 == 43 || chr s 0 == 45) = true then s.drop 1 else s).dropWhile dig).drop 1).dropWhile dig else (if (chr s 0 == 43 || chr s 0 == 45) = true then s.drop 1 else s).dropWhile dig) = c
  by_cases hx : ((chr c 0 == 101 || chr c 0 == 69) && dig (chr c (if (chr c 1 == 43 || chr c 1 == 45) = true then 2 else 1))) = true
  ·rw [if_pos hx, if_pos hx]
   right
   rw [Bool.and_eq_true] at hx
   obtain ⟨he, hd⟩ := hx
   rw [Bool.or_eq_true, beq_iff_eq, beq_iff_eq] at he
   obtain ⟨e, t, hc⟩ : ∃ e t, c = e :: t := by
    cases c with
    | nil => simp [chr] at he
    | cons e t => exact ⟨e, t, rfl⟩
   subst hc
   have he' : e = 101 \/ e = 69 := by simpa [chr] using he
   by_cases hk : (chr (e :: t) 1 == 43 || chr (e :: t) 1 == 45) = true
   ·rw [if_pos hk]
    rw [if_pos hk] at hd
    rw [Bool.or_eq_true, beq_iff_eq, beq_iff_eq] at hk
    cases t with
    | nil => simp [chr] at hk
    | cons s2 t2 =>
     have hs2 : s2 = 43 \/ s2 = 45 := by simpa [chr] using hk
     refine ⟨⟨e, he', ?_⟩, ?_⟩
     ·rcases hs2 with rfl | rfl
      ·right; left; rfl
      ·right; right; rfl
     ·simp only [List.drop_succ_cons, List.drop_zero]
      cases t2 with
      | nil => simp [chr, dig] at hd
      | cons y v =>
       have hy : dig y = true := by simpa [chr] using hd
       rw [List.takeWhile_cons_of_pos hy]; simp
   ·rw [if_neg hk]
    rw [if_neg hk] at hd
    refine ⟨⟨e, he', .inl rfl⟩, ?_⟩
    simp only [List.drop_succ_cons, List.drop_zero]
    cases t with
    | nil => simp [chr, dig] at hd
    | cons y v =>
     have hy : dig y = true := by simpa [chr] using hd
     rw [List.takeWhile_cons_of_pos hy]; simp
  ·rw [if_neg hx, if_neg hx]
   exact .inl ⟨rfl, rfl⟩
 ·exact all_if
end Go.Lift.Tok
end

section
namespace Go.Lift.Tok
open Utf
theorem hexN_le : ∀ (k : Nat) (n : Int) (s : List Int), (hexN k n s).2.length <= s.length
 | 0, n, s => Nat.le_refl _
 | k + 1, n, [] => Nat.le_refl _
 | k + 1, n, c :: t => by
  simp only [hexN]
  split
  ·exact Nat.le_refl _
  ·have := hexN_le k (n * 16 + hex c) t
   simp
   omega
theorem one1_le (s : List Int) : (one1 s).length <= s.length := by
 cases s with
 | nil => exact Nat.le_refl _
 | cons d u => simp only [one1]; split <;> simp
theorem escd_le (s : List Int) : (escd s).2.length <= s.length := by
 cases s with
 | nil => exact Nat.le_refl _
 | cons c t =>
  simp only [escd]
  split
  ·simp
  ·have := one1_le (hexN 6 0 (c :: t)).2
   have := hexN_le 6 0 (c :: t)
   simp only at *
   omega
theorem nameN_le : ∀ (n : Nat) (s : List Int), (nameN n s).2.length <= s.length
 | 0, s => Nat.le_refl _
 | n + 1, [] => Nat.le_refl _
 | n + 1, c :: t => by
  simp only [nameN]
  split
  ·have := nameN_le n t
   simp
   omega
  ·split
   ·have := nameN_le n (escd t).2
    have := escd_le t
    simp
    omega
   ·simp
theorem name_le (s : List Int) : (name s).2.length <= s.length := nameN_le _ _
theorem name_lt {c : Int} {t : List Int} (h : (ltr c || esc c (chr t 0)) = true) : (name (c :: t)).2.length <= t.length := by
 unfold name
 simp only [List.length_cons, nameN]
 split
 ·exact nameN_le _ _
 ·rename_i h2
  rw [if_pos (by simpa [h2] using h)]
  exact Nat.le_trans (nameN_le _ _) (escd_le t)
theorem txtN_le (sign : Int) : ∀ (n : Nat) (s : List Int), (txtN sign n s).2.2.length <= s.length
 | 0, s => Nat.le_refl _
 | n + 1, [] => Nat.le_refl _
 | n + 1, c :: t => by
  simp only [txtN]
  split
  ·exact Nat.le_refl _
  ·split
   ·simp
   ·split
    ·cases t with
     | nil => simp
     | cons d u =>
      simp only
      split
      ·have := txtN_le sign n u
       simp
       omega
      ·have := txtN_le sign n (escd (d :: u)).2
       have := escd_le (d :: u)
       simp at *
       omega
    ·have := txtN_le sign n t
     simp
     omega
theorem badN_le : ∀ (n : Nat) (s : List Int), (badN n s).length <= s.length
 | 0, s => Nat.le_refl _
 | n + 1, [] => Nat.le_refl _
 | n + 1, c :: t => by
  simp only [badN]
  split
  ·simp
  ·split
   ·have := badN_le n (escd t).2
    have := escd_le t
    simp
    omega
   ·have := badN_le n t
    simp
    omega
theorem blanks_le (s : List Int) : (blanks s).length <= s.length := (List.dropWhile_sublist _).length_le
theorem urlN_le : ∀ (n : Nat) (s : List Int), (urlN n s).2.2.length <= s.length
 | 0, s => Nat.le_refl _
 | n + 1, [] => Nat.le_refl _
 | n + 1, c :: t => by
  simp only [urlN]
  split
  ·simp
  ·split
   ·have := blanks_le t
    split
    ·simp
     omega
    ·have := badN_le (blanks t).length (blanks t)
     simp [badu]
     omega
   ·split
    ·exact badN_le _ _
    ·split
     ·split
      ·have := urlN_le n (escd t).2
       have := escd_le t
       simp
       omega
      ·exact badN_le _ _
     ·have := urlN_le n t
      simp
      omega
theorem url_le (s : List Int) : (url s).2.2.length <= s.length := Nat.le_trans (urlN_le _ _) (blanks_le s)
theorem skip2N_le : ∀ (n : Nat) (s : List Int), (skip2N n s).length <= s.length
 | 0, s => Nat.le_refl _
 | n + 1, s => by
  simp only [skip2N]
  split
  ·have := skip2N_le n (s.drop 1)
   simp at *
   omega
  ·exact Nat.le_refl _
theorem skip2_le (s : List Int) : (skip2 s).length <= s.length := skip2N_le _ _
theorem skipR_le : ∀ s : List Int, (skipR s).length <= s.length
 | [] => Nat.le_refl _
 | [_] => by simp [skipR]
 | c :: d :: t => by
  simp only [skipR]
  split
  ·simp; omega
  ·have := skipR_le (d :: t)
   simp at *
   omega
theorem remN_le : ∀ (n : Nat) (s : List Int), (remN n s).length <= s.length
 | 0, s => Nat.le_refl _
 | n + 1, [] => Nat.le_refl _
 | n + 1, [_] => Nat.le_refl _
 | n + 1, c :: d :: t => by
  simp only [remN]
  split
  ·have := remN_le n (skipR t)
   have := skipR_le t
   simp
   omega
  ·exact Nat.le_refl _
theorem rems_le (s : List Int) : (rems s).length <= s.length := remN_le _ _
theorem beg_ltr {c d e : Int} (h : beg c d e = true) : (ltr c || esc c d) = true := by
 unfold beg at h
 split at h
 ·rename_i h45
  simp only [beq_iff_eq] at h45
  subst h45
  rfl
 ·rw [Bool.or_eq_true] at h
  rcases h with h | h
  ·unfold ltr; simp [h]
  ·simp [h]
theorem word_lt {c : Int} {t : List Int} (h : beg c (chr t 0) (chr t 1) = true) : (word (c :: t)).2.length <= t.length := by
 have h1 := name_lt (beg_ltr h)
 unfold word
 simp only
 split
 ·split
  ·have h2 := skip2_le ((name (c :: t)).2.drop 1)
   rw [List.length_drop] at h2
   have h3 := url_le (skip2 ((name (c :: t)).2.drop 1))
   have key : ∀ b : Bool, (if b = true then (tk 2 (name (c :: t)).1, skip2 ((name (c :: t)).2.drop 1)) else (urlT (url (skip2 ((name (c :: t)).2.drop 1))), (url (skip2 ((name (c :: t)).2.drop 1))).2.2)).2.length <= t.length := by
    intro b
    cases b with
    | true => rw [if_pos rfl]; show (skip2 ((name (c :: t)).2.drop 1)).length <= _; omega
    | false => rw [if_neg (by simp)]; show (url (skip2 ((name (c :: t)).2.drop 1))).2.2.length <= _; omega
   exact key _
  ·simp
   omega
 ·exact h1
theorem figure_lt {c : Int} {t : List Int} (h : num c (chr t 0) (chr t 1) = true) : (figure (c :: t)).2.length <= t.length := by
 have h0 : num (chr (c :: t) 0) (chr (c :: t) 1) (chr (c :: t) 2) = true := by
  have e1 : chr (c :: t) 1 = chr t 0 := by simp [chr]
  have e2 : chr (c :: t) 2 = chr t 1 := by simp [chr]
  rw [e1, e2]; exact h
 have hok := numP_ok h0
 have ht := congrArg List.length (numP_text (c :: t))
 rw [List.length_append, List.length_cons] at ht
 have hpos : 0 < (numP (c :: t)).1.text.length := by
  have := hok.some
  rcases Nat.eq_zero_or_pos (numP (c :: t)).1.text.length with h2 | h2
  ·exfalso
   have h3 := List.eq_nil_of_length_eq_zero h2
   unfold Nm.text at h3
   simp only [List.append_eq_nil_iff] at h3
   have h4 : (numP (c :: t)).1.fr = [] := by
    have := h3.1.1.2
    split at this
    ·assumption
    ·cases this
   exact this (by rw [h3.1.1.1.2, h4]; rfl)
  ·exact h2
 unfold figure
 simp only
 split
 ·have := name_le (numP (c :: t)).2
  simp only
  omega
 ·split
  ·simp
   omega
  ·simp only
   omega
theorem token_lt {s : List Int} (h : s ≠ []) : (token s).2.length < s.length := by
 obtain ⟨c, t, rfl⟩ : ∃ c t, s = c :: t := by
  cases s with
  | nil => exact absurd rfl h
  | cons c t => exact ⟨c, t, rfl⟩
 have e0 : chr (c :: t) 0 = c := rfl
 have e1 : chr (c :: t) 1 = chr t 0 := by simp [chr]
 have e2 : chr (c :: t) 2 = chr t 1 := by simp [chr]
 have e3 : chr (c :: t) 3 = chr t 2 := by simp [chr]
 unfold token
 simp only [e0, e1, e2, e3, List.length_cons, List.drop_succ_cons, List.drop_zero]
 split
 ·rename_i hb
  have : (blanks (c :: t)).length <= t.length := by
   unfold blanks
   rw [List.dropWhile_cons_of_pos hb]
   exact (List.dropWhile_sublist _).length_le
  simp only
  omega
 ·split
  ·have := txtN_le c t.length t
   unfold txt
   simp only
   omega
  ·split
   ·simp
   ·split
    ·rename_i hn
     have := figure_lt hn
     omega
    ·split
     ·simp; omega
     ·split
      ·simp; omega
      ·split
       ·have := name_le t
        simp only
        omega
       ·split
        ·have := name_le t
         simp only
         omega
        ·split
         ·rename_i hb
          have := word_lt hb
          omega
         ·simp
end Go.Lift.Tok
end

section
open Go.Proofs
namespace Go.Lift.P8
variable [MX]
open Utf Tok Spell
def bs (l : List Int) : ByteArray := ⟨(u8s l).toArray⟩
theorem bs_size (l : List Int) : (bs l).size = l.length := by simp [bs, ByteArray.size, u8s]
theorem bs_ext (l : List Int) (a b : Nat) : (bs l).extract a b = bs ((l.take b).drop a) := by
 apply ByteArray.ext
 simp only [bs, ByteArray.data_extract]
 apply Array.toList_inj.1
 rw [Array.toList_extract]
 simp only [List.extract, u8s, List.toList_toArray, List.map_drop, List.map_take]
 rw [List.take_drop]
 rcases Nat.le_total a b with h | h
 ·rw [Nat.add_sub_cancel' h]
 ·rw [List.drop_eq_nil_of_le (by simp; omega), List.drop_eq_nil_of_le (by simp; omega)]
theorem bs_list (l : List Int) : (bs l).toList = u8s l := by simp [bs, ByteArray.toList_eq]
theorem By.take {l : List Int} (h : By l) (n : Nat) : By (l.take n) := fun c hc => h c (List.mem_of_mem_take hc)
theorem By.drop {l : List Int} (h : By l) (n : Nat) : By (l.drop n) := fun c hc => h c (List.mem_of_mem_drop hc)
end Go.Lift.P8
end

section
namespace Go.Lift.Tok
open Utf
structure Few (t : Tk) : Prop where
 lo : 1 <= t.kind
 hi : t.kind <= 24
 named : (t.kind = 1 \/ t.kind = 2 \/ t.kind = 3 \/ t.kind = 4 \/ t.kind = 12 \/ t.kind = 9) -> t.text ≠ []
 text : t.kind ≠ 1 -> t.kind ≠ 2 -> t.kind ≠ 3 -> t.kind ≠ 4 -> t.kind ≠ 12 -> t.kind ≠ 9 -> t.kind ≠ 5 -> t.kind ≠ 7 -> t.text = []
 num : t.kind ≠ 10 -> t.kind ≠ 11 -> t.kind ≠ 12 -> t.num = (0, 0) /\ t.whole = false
 id : t.id = true -> t.kind = 4
 den : 0 <= t.num.2
 zero : t.num.2 = 0 -> t.num.1 = 0
 one : t.whole = true -> t.num.2 <= 1
theorem few_tk {k : Int} {t : List Int} (h1 : 1 <= k) (h2 : k <= 24) (h3 : (k = 1 \/ k = 2 \/ k = 3 \/ k = 4 \/ k = 12 \/ k = 9) -> t ≠ [])
  (h4 : k ≠ 1 -> k ≠ 2 -> k ≠ 3 -> k ≠ 4 -> k ≠ 12 -> k ≠ 9 -> k ≠ 5 -> k ≠ 7 -> t = []) : Few (tk k t) :=
 ⟨h1, h2, h3, h4, fun _ _ _ => ⟨rfl, rfl⟩, fun h => by simp [tk] at h, Int.le_refl _, fun _ => rfl, fun h => by simp [tk] at h⟩
theorem turn_ok {b : Bool} {x : Option (Int × Int)} (h : ∀ n d, x = some (n, d) -> 1 <= d) : 0 <= (turn b x).2 /\ ((turn b x).2 = 0 -> (turn b x).1 = 0) := by
 cases x with
 | none => exact ⟨Int.le_refl 0, fun _ => rfl⟩
 | some p =>
  obtain ⟨n, d⟩ := p
  have := h n d rfl
  simp only [turn]
  exact ⟨by omega, fun h => by omega⟩
theorem scaleR_den {n p a d : Int} (h : scaleR n p = some (a, d)) : 1 <= d /\ (0 <= p -> d = 1) := by
 unfold scaleR at h
 split at h
 ·cases h
 ·rename_i m hm
  split at h
  ·cases h
  ·cases hk : mulN 5 1844674407370955161 (divN 5 (-p).toNat (divN 2 (-p).toNat m).2).1 (2 ^ (divN 2 (-p).toNat m).1) with
   | none => rw [hk] at h; cases h
   | some z =>
    rw [hk] at h
    simp only [Option.map_some, Option.some.injEq, Prod.mk.injEq] at h
    obtain ⟨_, rfl⟩ := h
    obtain ⟨hz, _⟩ := mulN_some (by omega) _ _ _ hk
    refine ⟨?_, fun hp => ?_⟩
    ·rw [hz]
     have a1 : (1 : Int) <= 2 ^ (divN 2 (-p).toNat m).1 := one_pow_le (by omega) _
     have a2 : (1 : Int) <= 5 ^ (divN 5 (-p).toNat (divN 2 (-p).toNat m).2).1 := one_pow_le (by omega) _
     exact Int.le_trans a1 (le_mulr (by omega) a2)
    ·have e : (-p).toNat = 0 := by omega
     rw [hz, e]
     rfl
theorem core_le (d : List Int) : (core d).length <= d.length := by
 unfold core
 have h : (d.reverse.dropWhile (· == 48)).length <= d.reverse.length := (List.dropWhile_sublist _).length_le
 simp at h ⊢
 exact h
theorem ratio_ok (w : Wr) : 0 <= (ratio w).2 /\ ((ratio w).2 = 0 -> (ratio w).1 = 0) := by
 unfold ratio
 simp only
 split
 ·exact ⟨by decide, fun h => by simp at h⟩
 ·split
  ·exact ⟨by decide, fun _ => rfl⟩
  ·exact turn_ok fun n d h => (scaleR_den h).1
theorem ratio_one {w : Wr} (h1 : w.exp = 0) (h2 : w.behind = 0) : (ratio w).2 <= 1 := by
 unfold ratio
 simp only
 split
 ·decide
 ·split
  ·decide
  ·generalize hx : scaleR (valN 0 (core (w.digits.dropWhile fun x => x == 48))) (w.exp - w.behind + (((w.digits.dropWhile fun x => x == 48).length : Int) - ((core (w.digits.dropWhile fun x => x == 48)).length : Int))) = x
   cases x with
   | none => show (0 : Int) <= 1; decide
   | some p =>
    obtain ⟨n, d⟩ := p
    have hc := core_le (w.digits.dropWhile fun x => x == 48)
    have := (scaleR_den hx).2 (by rw [h1, h2]; omega)
    simp only [turn]
    omega
theorem name_ne {s : List Int} (h : (ltr (chr s 0) || esc (chr s 0) (chr s 1)) = true) : (name s).1 ≠ [] := by
 cases s with
 | nil => simp [chr, ltr, esc, fst1, dig] at h
 | cons c t =>
  have e0 : chr (c :: t) 0 = c := by simp [chr]
  have e1 : chr (c :: t) 1 = chr t 0 := by simp [chr]
  rw [e0, e1] at h
  unfold name
  simp only [List.length_cons, nameN]
  split
  ·simp
  ·rename_i h2
   rw [if_pos (by simpa [h2] using h)]
   simp
theorem few_num {k : Int} {t : List Int} {s : List Int} (hk : k = 10 \/ k = 11 \/ k = 12 /\ t ≠ []) (ht : k ≠ 12 -> t = []) (ok : (numP s).1.Ok) :
  Few ⟨k, t, (numP s).1.num.1, (numP s).1.num.2, false⟩ := by
 have r := ratio_ok (numP s).1.wr
 have h12 : k = 12 -> t ≠ [] := by
  rintro rfl
  rcases hk with h | h | h
  ·omega
  ·omega
  ·exact h.2
 refine ⟨?_, ?_, ?_, ?_, ?_, ?_, r.1, r.2, ?_⟩
 ·simp only; omega
 ·simp only; omega
 ·intro h
  simp only at h ⊢
  exact h12 (by omega)
 ·intro _ _ _ _ h _ _ _
  exact ht h
 ·intro a b c
  simp only at a b c
  omega
 ·intro h; simp at h
 ·intro h
  simp only [Nm.num, Nm.wr, Bool.and_eq_true, List.isEmpty_iff] at h ⊢
  obtain ⟨h1, h2⟩ := h
  refine ratio_one ?_ ?_
  ·simp only
   rw [h2]
   have h3 : (numP s).1.d3 = [] := by
    rcases ok.ex with h | ⟨⟨e, _, h⟩, _⟩
    ·exact h.2
    ·rw [h2] at h
     rcases h with h | h | h <;> cases h
   rw [h3]
   rfl
  ·simp only
   rw [h1]
   rfl
theorem few_figure {s : List Int} (h : num (chr s 0) (chr s 1) (chr s 2) = true) : Few (figure s).1 := by
 have ok := numP_ok h
 unfold figure
 simp only
 split
 ·rename_i hb
  exact few_num (.inr (.inr ⟨rfl, name_ne (beg_ltr hb)⟩)) (fun h => absurd rfl h) ok
 ·split
  ·exact few_num (.inr (.inl rfl)) (fun _ => rfl) ok
  ·exact few_num (.inl rfl) (fun _ => rfl) ok
theorem few_urlT (x : Bool × List Int × List Int) : Few (urlT x) := by
 unfold urlT
 split
 ·exact few_tk (by decide) (by decide) (fun h => by omega) (fun _ _ _ _ _ _ _ h => absurd rfl h)
 ·exact few_tk (by decide) (by decide) (fun h => by omega) (fun _ _ _ _ _ _ _ _ => rfl)
theorem few_txtT (x : Bool × List Int × List Int) : Few (txtT x) := by
 unfold txtT
 split
 ·exact few_tk (by decide) (by decide) (fun h => by omega) (fun _ _ _ _ _ _ h _ => absurd rfl h)
 ·exact few_tk (by decide) (by decide) (fun h => by omega) (fun _ _ _ _ _ _ _ _ => rfl)
theorem few_word {s : List Int} (h : (name s).1 ≠ []) : Few (word s).1 := by
 have f1 : Few (tk 1 (name s).1) := few_tk (by decide) (by decide) (fun _ => h) (fun h => absurd rfl h)
 have f2 : Few (tk 2 (name s).1) := few_tk (by decide) (by decide) (fun _ => h) (fun _ h => absurd rfl h)
 unfold word
 simp only
 split
 ·split
  ·have key : ∀ b : Bool, Few (if b = true then (tk 2 (name s).1, skip2 ((name s).2.drop 1)) else (urlT (url (skip2 ((name s).2.drop 1))), (url (skip2 ((name s).2.drop 1))).2.2)).1 := by
    intro b
    cases b with
    | true => rw [if_pos rfl]; exact f2
    | false => rw [if_neg (by simp)]; exact few_urlT _
   exact key _
  ·exact f2
 ·exact f1
theorem plK_in {c : Int} (h : 0 < plK c) : 16 <= plK c /\ plK c <= 24 := by
 unfold plK at *
 repeat (split at h)
 all_goals (try (split <;> first | omega | (simp_all; done)))
 all_goals simp_all
theorem few_token {s : List Int} : Few (token s).1 := by
 unfold token
 simp only
 split
 ·exact few_tk (by decide) (by decide) (fun h => by omega) (fun _ _ _ _ _ _ _ _ => rfl)
 ·split
  ·exact few_txtT _
  ·split
   ·rename_i hp
    have := plK_in hp
    exact few_tk (by omega) (by omega) (fun h => by omega) (fun _ _ _ _ _ _ _ _ => rfl)
   ·split
    ·rename_i hn
     exact few_figure hn
    ·split
     ·exact few_tk (by decide) (by decide) (fun h => by omega) (fun _ _ _ _ _ _ _ _ => rfl)
     ·split
      ·exact few_tk (by decide) (by decide) (fun h => by omega) (fun _ _ _ _ _ _ _ _ => rfl)
      ·split
       ·rename_i hh
        have hne : (name (s.drop 1)).1 ≠ [] := name_ne (by rw [chr_drop, chr_drop]; exact hh.2)
        refine ⟨by show (1 : Int) <= 4; decide, by show (4 : Int) <= 24; decide, fun _ => hne, fun _ _ _ h => absurd rfl h, fun _ _ _ => ⟨rfl, rfl⟩, fun _ => rfl, Int.le_refl _, fun _ => rfl, fun h => by simp at h⟩
       ·split
        ·rename_i hh
         have hne : (name (s.drop 1)).1 ≠ [] := name_ne (beg_ltr (e := chr (s.drop 1) 2) (by rw [chr_drop, chr_drop, chr_drop]; exact hh.2))
         exact few_tk (by decide) (by decide) (fun _ => hne) (fun _ _ h => absurd rfl h)
        ·split
         ·rename_i hb
          exact few_word (name_ne (beg_ltr hb))
         ·exact few_tk (by decide) (by decide) (fun _ => by simp) (fun _ _ _ _ _ h => absurd rfl h)
theorem few_toksN : ∀ (n : Nat) (s : List Int), ∀ t ∈ toksN n s, Few t
 | 0, s => by simp [toksN]
 | n + 1, s => by
  intro t ht
  simp only [toksN] at ht
  split at ht
  ·simp at ht
  ·rcases List.mem_cons.1 ht with rfl | ht
   ·exact few_token
   ·exact few_toksN n _ t ht
theorem few_toks (s : List Int) : ∀ t ∈ toks s, Few t := few_toksN _ _
end Go.Lift.Tok
end

section
open Go.Proofs
namespace Go.Lift.P8
variable [MX]
open Utf Tok Spell
section
variable {lo : Nat} {h : Heap}
theorem u8s_inj : ∀ {a b : List Int}, By a -> By b -> u8s a = u8s b -> a = b
 | [], [], _, _, _ => rfl
 | [], y :: b, _, _, h => by cases h
 | x :: a, [], _, _, h => by cases h
 | x :: a, y :: b, ha, hb, h => by
  simp only [u8s, List.map_cons, List.cons.injEq] at h
  have hx := ha x (by simp)
  have hy := hb y (by simp)
  have e : x = y := by
   have := congrArg UInt8.toNat h.1
   simp only [UInt8.toNat_ofNat'] at this
   omega
  rw [e, u8s_inj (fun c hc => ha c (by simp [hc])) (fun c hc => hb c (by simp [hc])) h.2]
theorem bs_beq {a b : List Int} (ha : By a) (hb : By b) : ((bs a).toList == (bs b).toList) = (a == b) := by
 rw [bs_list, bs_list, Bool.eq_iff_iff, beq_iff_eq, beq_iff_eq]
 exact ⟨u8s_inj ha hb, fun h => by rw [h]⟩
variable [HasD] [HasN]
end
end Go.Lift.P8
end

section
open Go.Proofs
namespace Go.Lift.P8
open Rul
open Utf (By)
variable [MX]
variable {lo : Nat} {h : Heap}
theorem rbs_beq {a b : List Int} (ha : By a) (hb : By b) : ((Rul.bs a).toList == (Rul.bs b).toList) = (a == b) := bs_beq ha hb
theorem rbs_size (l : List Int) : (Rul.bs l).size = l.length := bs_size l
theorem rbs_ext (b : List Int) (i j : Nat) : (Rul.bs b).extract i j = Rul.bs ((b.take j).drop i) := bs_ext b i j
theorem by_small {l : List Int} (h : By l) : By (small l) := fun c hc => by
 obtain ⟨x, hx, rfl⟩ := List.mem_map.1 hc
 have := h x hx
 unfold lowb
 split <;> omega
theorem lit_by {l : List Int} (h : l.all (fun c => decide (0 <= c) && decide (c <= 255)) = true) : By l := fun c hc => by
 have := List.all_eq_true.1 h c hc
 simpa using this
def wMedia : List Int := [109, 101, 100, 105, 97]
def wSupports : List Int := [115, 117, 112, 112, 111, 114, 116, 115]
def wContainer : List Int := [99, 111, 110, 116, 97, 105, 110, 101, 114]
theorem by_media : By wMedia := lit_by rfl
theorem by_supports : By wSupports := lit_by rfl
theorem by_container : By wContainer := lit_by rfl
theorem by_important : By important := lit_by rfl
theorem k_media : (⟨#[109, 101, 100, 105, 97]⟩ : ByteArray) = Rul.bs wMedia := rfl
theorem k_supports : (⟨#[115, 117, 112, 112, 111, 114, 116, 115]⟩ : ByteArray) = Rul.bs wSupports := rfl
theorem k_container : (⟨#[99, 111, 110, 116, 97, 105, 110, 101, 114]⟩ : ByteArray) = Rul.bs wContainer := rfl
theorem k_important : (⟨#[105, 109, 112, 111, 114, 116, 97, 110, 116]⟩ : ByteArray) = Rul.bs important := rfl
theorem k_bang : (⟨#[33]⟩ : ByteArray) = Rul.bs [33] := rfl
theorem k_dashes : (⟨#[45, 45]⟩ : ByteArray) = Rul.bs [45, 45] := rfl
theorem by_bang : By [33] := lit_by rfl
theorem by_dashes : By [45, 45] := lit_by rfl
theorem isGroup_eq (n : List Int) : isGroup n = (n == wMedia || n == wSupports || n == wContainer) := rfl
theorem f135r {b : List Int} (hy : By b) (hl : b.length <= 1000000000) : E lo 135 [.v (.string (Rul.bs b)), .v (.string (Rul.bs [45, 45]))] h = some (.v (.bool ([45, 45].isPrefixOf b)), h) := by
 have s1 : (Rul.bs [45, 45]).size = 2 := rbs_size [45, 45]
 have n1 : ((2 : Nat) : Int) = 2 := rfl
 have sz := rbs_size b
 rw [e135 (by simp) (by rfl)]
 by_cases h2 : 2 <= b.length
 ·have q : decide ((2 : Int) <= (b.length : Int)) = true := by rw [decide_eq_true_iff]; omega
  have hb := rbs_beq (a := (b.take 2).drop 0) (b := [45, 45]) (fun x hx => hy x (List.mem_of_mem_take (List.mem_of_mem_drop hx))) by_dashes
  have e : ((b.take 2).drop 0 == [45, 45]) = [45, 45].isPrefixOf b := by
   match b, h2 with
   | x :: y :: r, _ => simp [List.isPrefixOf]; rw [Bool.eq_iff_iff]; simp; constructor <;> (rintro ⟨rfl, rfl⟩; exact ⟨rfl, rfl⟩)
  rw [e, List.drop_zero] at hb
  simp only [go_sem, b135, Tryz.f135, s1, n1, sz, q, h2, rbs_ext, hb, Nat.zero_le]
  all_goals rfl
 ·have q : decide ((2 : Int) <= (b.length : Int)) = false := by rw [decide_eq_false_iff_not]; omega
  have e : [45, 45].isPrefixOf b = false := by
   match b, h2 with
   | [], _ => rfl
   | [x], _ => simp [List.isPrefixOf]
   | x :: y :: r, h2 => simp at h2
  rw [e]
  simp only [go_sem, b135, Tryz.f135, s1, n1, sz, q, Nat.zero_le]
  all_goals rfl
theorem f97r {b : List Int} (hy : By b) (hl : b.length <= 1000000000) : E lo 97 [.v (.string (Rul.bs b)), .v (.string (Rul.bs [45, 45]))] h = some (.v (.bool ([45, 45].isPrefixOf b)), h) := by
 have k := fun lo h => f135r (lo := lo) (h := h) hy hl
 rw [e97 (by simp) (by rfl)]
 simp only [go_sem, b97, Tryz.f97, k]
 all_goals rfl
end Go.Lift.P8
end

section
open Go.Proofs
namespace Go.Lift.P8
open Rul
variable [MX]
variable {lo : Nat} {h : Heap}
abbrev N55 (l out : List CV) (k : Int) : Env := [(3, .list .yes (rowsC out)), (6, .list .no (rowsC l)), (7, .v (.int .i64 l.length)), (8, .v (.int .i64 k))]
theorem row_put55 (out : List CV) (t : Tk4) (ks : List CV) : rowsC out ++ [[V.v (Value.int IntKind.i64 t.k), V.v (Value.string (Rul.bs t.b)), V.v (Value.int IntKind.i64 t.n), V.v (Value.int IntKind.i64 t.d), V.v (Value.bool t.w), V.v (Value.bool t.i), V.list .no (rowsC ks)]] = rowsC (out ++ [.mk t ks]) := by
 rw [rowsC_app, rowsC_cons, rowsC_nil, rowV_eq]
theorem round55 {l out : List CV} {v : CV} {k : Nat} (hlo : lo <= h.length) (hl : nodesL l <= 1000000000) (hg : l[k]? = some v) (ho : out.length <= 1000000000)
  (ih : ∀ lo h, lo <= h.length -> E lo 55 [.list .no (rowsC v.ks)] h = some (.list .no (rowsC v.ks), h)) :
  evCode ⟨Tryz.prog, E, lo, h.length, h55⟩ loopW l55x0 (N55 l out k, h) = some (.normal, N55 l (out ++ [v]) (k + 1 : Nat), h) := by
 obtain ⟨t, ks⟩ := v
 have hlt : k < l.length := (List.getElem?_eq_some_iff.1 hg).1
 have hgr : (rowsC l)[k]? = some (rowV (.mk t ks)) := by rw [rowsC_get, hg]; rfl
 have q : decide ((k : Int) < (l.length : Int)) = true := by simp; omega
 have hll := nodesL_len l
 have hw : IntKind.i64.wrap ((k : Int) + 1) = ((k + 1 : Nat) : Int) := wrap_succ (by omega)
 have hlo' : lo <= h.length + 1 := by omega
 have c55 := fun lo hlo => ih lo (h ++ [.cells (rowV (.mk t ks))]) hlo
 rw [rowV_eq] at *
 have c55a := c55 lo (by simp; omega); have c55b := c55 (h.length + 1) (by simp)
 clear c55 ih
 have o1 := lim72 ho
 have o2 := limC ho
 have ra := rowsC_all out
 have rl := rowsC_len out
 have rb := byteRow_rowsC out
 simp only [CV.ks] at c55a c55b
 simp only [N55]
 rw [<- row_put55]
 generalize rowsC out = R at *
 simp only [N55, go_sem, l55x0, b55, Tryz.f55, hlo, hlo', q, hgr, hw, c55a, c55b, o1, o2, ra, rl, rb, rowsC_len]
 all_goals rfl
theorem stop55 {l out : List CV} (hlo : lo <= h.length) : evCode ⟨Tryz.prog, E, lo, h.length, h55⟩ loopW l55x0 (N55 l out l.length, h) =
   some (.exit 0, N55 l out l.length ++ [(9, .v (.bool false))], h) := by
 have q : decide ((l.length : Int) < (l.length : Int)) = false := by simp
 simp only [N55, go_sem, l55x0, b55, Tryz.f55, hlo, q]
 all_goals rfl
theorem loop55 {l : List CV} (hlo : lo <= h.length) (hl : nodesL l <= 1000000000)
  (ih : ∀ v ∈ l, ∀ lo h, lo <= h.length -> E lo 55 [.list .no (rowsC v.ks)] h = some (.list .no (rowsC v.ks), h)) :
  ∀ (m k : Nat), k + m = l.length -> loopW (evCode ⟨Tryz.prog, E, lo, h.length, h55⟩ loopW l55x0) (N55 l (l.take k) k, h) = some (.exit 0, N55 l l l.length ++ [(9, .v (.bool false))], h)
 | 0, k, hk => by
  obtain rfl : k = l.length := by omega
  rw [List.take_length, loop_eq, stop55 hlo, loop_e]
 | m + 1, k, hk => by
  have hlt : k < l.length := by omega
  have hll := nodesL_len l
  have hr := round55 (h := h) (out := l.take k) hlo hl (List.getElem?_eq_getElem hlt) (by rw [List.length_take]; omega) (ih _ (List.getElem_mem hlt))
  rw [loop_eq, hr, loop_n, <- List.take_succ_eq_append_getElem hlt]
  exact loop55 hlo hl ih m (k + 1) (by omega)
theorem f55 : ∀ (n : Nat) (l : List CV), nodesL l <= n -> n <= 1000000000 -> ∀ (lo : Nat) (h : Heap), lo <= h.length -> E lo 55 [.list .no (rowsC l)] h = some (.list .no (rowsC l), h)
 | n, l, hl, hn, lo, h, hlo => by
  have hL := loop55 (lo := lo) (h := h) (l := l) hlo (by omega) (fun v hv lo' h' hlo' => by
   have h1 := nodesL_mem hv
   rw [nodesV_eq] at h1
   exact f55 (n - 1) v.ks (by omega) (by omega) lo' h' hlo') l.length 0 (by omega)
  have n0 : ((0 : Nat) : Int) = 0 := rfl
  rw [List.take_zero] at hL
  rw [e55 (by simp) (by rfl)]
  simp only [l55x0, b55, Tryz.f55, loopAt, loops, bodyOf, go_sem, N55, n0, rowsC_nil, List.cons_append, List.nil_append] at hL
  simp only [go_sem, b55, Tryz.f55, hlo, hL, rowsC_len, n0]
  all_goals rfl
 termination_by n => n
 decreasing_by
  have h1 := nodesL_mem hv
  rw [nodesV_eq] at h1
  omega
theorem nodesL_suffix {l m : List CV} (h : m <:+ l) : nodesL m <= nodesL l := by
 obtain ⟨p, rfl⟩ := h
 rw [nodesL_app]; omega
theorem nodesL_prefix {l m : List CV} (h : m <+: l) : nodesL m <= nodesL l := by
 obtain ⟨p, rfl⟩ := h
 rw [nodesL_app]; omega
theorem nodesL_rev : ∀ l : List CV, nodesL l.reverse = nodesL l
 | [] => rfl
 | v :: r => by rw [List.reverse_cons, nodesL_app, nodesL_rev r, nodesL_cons, nodesL_cons, nodesL_nil]; omega
theorem nodesL_trim (l : List CV) : nodesL (trim l) <= nodesL l := by
 unfold trim
 rw [nodesL_rev]
 refine Nat.le_trans (nodesL_suffix (List.dropWhile_suffix _)) ?_
 rw [nodesL_rev]
 exact nodesL_suffix (List.dropWhile_suffix _)
end Go.Lift.P8
end

section
open Go.Proofs
namespace Go.Lift.P8
open Rul
open Utf (By)
variable [MX]
variable {lo : Nat} {h : Heap}
def rgt : Nat -> Code -> Code
 | 0, c => c
 | n + 1, .seq _ b => rgt n b
 | _, c => c
def lft : Code -> Code
 | .seq a _ => a
 | c => c
def zd : Dc := ⟨[], [], false⟩
def dcR : Option Dc -> V
 | some d => .tup [.agg (declC d), .v (.bool true)]
 | none => .tup [.agg (declC zd), .v (.bool false)]
def BtT (t : Tk4) : Prop := By t.b /\ t.b.length <= 1000000000
end Go.Lift.P8
end

section
open Go.Proofs
namespace Go.Lift.P8
variable [MX]
open Utf Tok Spell
variable {lo : Nat} {h : Heap}
mutual
def ByV : Rul.CV -> Prop
 | .mk t ks => By t.b /\ ByL ks
def ByL : List Rul.CV -> Prop
 | [] => True
 | v :: r => ByV v /\ ByL r
end
theorem byL_cons {v : Rul.CV} {r : List Rul.CV} : ByL (v :: r) ↔ ByV v /\ ByL r := by rw [ByL]
theorem byV_eq {t : Rul.Tk4} {ks : List Rul.CV} : ByV (.mk t ks) ↔ By t.b /\ ByL ks := by rw [ByV]
end Go.Lift.P8
end

section
open Go.Proofs
namespace Go.Lift.P8
variable [MX]
open Utf Tok Spell
variable {lo : Nat} {h : Heap}
structure OkE (d : Rul.Dc) : Prop where
 hy : By d.name
 hv : ByL d.val
 hn : Rul.nodesL d.val <= 100000000
end Go.Lift.P8
end

section
open Go.Proofs
namespace Go.Lift.P8
variable [MX]
open Utf Tok Spell
variable {lo : Nat} {h : Heap}
def kidsS : Rul.Ru -> List Rul.Ru
 | .mk _ _ _ _ rs => rs
mutual
def szR : Rul.Ru -> Nat
 | .mk _ _ _ _ rs => szRs rs + 1
def szRs : List Rul.Ru -> Nat
 | [] => 0
 | r :: l => szR r + szRs l
end
theorem szRs_cons {r : Rul.Ru} {l : List Rul.Ru} : szRs (r :: l) = szR r + szRs l := by rw [szRs]
theorem szRs_mem : ∀ {l : List Rul.Ru} {r : Rul.Ru}, r ∈ l -> szR r <= szRs l
 | [], _, h => by cases h
 | x :: l, r, h => by
  rw [szRs_cons]
  rcases List.mem_cons.1 h with rfl | h
  ·omega
  ·have := szRs_mem h
   omega
theorem szR_kids {r : Rul.Ru} : szRs (kidsS r) + 1 <= szR r := by
 obtain ⟨kd, n, p, ds, rs⟩ := r
 rw [szR]
 show szRs rs + 1 <= _
 omega
mutual
def WkR : Rul.Ru -> Prop
 | .mk k n p ds rs => By n /\ ByL p /\ Rul.nodesL p <= 100000000 /\ ds.length <= 1000000000 /\ (∀ d ∈ ds, OkE d) /\ rs.length <= 1000000000 /\ WkRs rs
def WkRs : List Rul.Ru -> Prop
 | [] => True
 | r :: l => WkR r /\ WkRs l
end
theorem wkR_eq {k : Int} {n : List Int} {p : List Rul.CV} {ds : List Rul.Dc} {rs : List Rul.Ru} :
  WkR (.mk k n p ds rs) ↔ By n /\ ByL p /\ Rul.nodesL p <= 100000000 /\ ds.length <= 1000000000 /\ (∀ d ∈ ds, OkE d) /\ rs.length <= 1000000000 /\ WkRs rs := by rw [WkR]
theorem wkRs_cons {r : Rul.Ru} {l : List Rul.Ru} : WkRs (r :: l) ↔ WkR r /\ WkRs l := by rw [WkRs]
theorem wkRs_mem : ∀ {l : List Rul.Ru} {r : Rul.Ru}, WkRs l -> r ∈ l -> WkR r
 | [], _, _, h => by cases h
 | x :: l, r, hk, h => by
  rw [wkRs_cons] at hk
  rcases List.mem_cons.1 h with rfl | h
  ·exact hk.1
  ·exact wkRs_mem hk.2 h
theorem wkRs_of : ∀ {l : List Rul.Ru}, (∀ r ∈ l, WkR r) -> WkRs l
 | [], _ => by rw [WkRs]; trivial
 | x :: l, h => wkRs_cons.2 ⟨h x (by simp), wkRs_of fun r hr => h r (by simp [hr])⟩
theorem kids_wk {r : Rul.Ru} (h : WkR r) : WkRs (kidsS r) /\ (kidsS r).length <= 1000000000 := by
 obtain ⟨kd, n, p, ds, rs⟩ := r
 rw [wkR_eq] at h
 exact ⟨h.2.2.2.2.2.2, h.2.2.2.2.2.1⟩
theorem ruV_eq (k : Int) (n : List Int) (p : List Rul.CV) (ds : List Rul.Dc) (rs : List Rul.Ru) : Rul.ruV (.mk k n p ds rs) = [.v (.int .i64 k), .v (.string (bs n)), .list .no (Rul.rowsC p), .list .no (ds.map Rul.declC), .list .no (Rul.rusC rs)] := by rw [Rul.ruV]; rfl
end Go.Lift.P8
end

section
open Go.Proofs
namespace Go.Lift.P8
open Rul
open Utf (By)
variable [MX]
variable {lo : Nat} {h : Heap}
abbrev ob77 : Ob := .cells [.v (.string ByteArray.empty), .list .yes [], .v (.bool false)]
theorem nodesL_imp (l : List CV) : nodesL (impOf l).1 <= nodesL l := by
 unfold impOf
 split
 ·rename_i x y r e
  split
  ·split
   ·rename_i z s e2
    split
    ·show nodesL (trim s.reverse) <= _
     have h1 := nodesL_trim s.reverse
     rw [nodesL_rev] at h1
     have h2 : nodesL (z :: s) <= nodesL (y :: r) := by rw [<- e2]; exact nodesL_suffix (List.dropWhile_suffix _)
     rw [nodesL_cons] at h2
     have h3 : nodesL l = nodesL (x :: y :: r) := by rw [<- e, nodesL_rev]
     rw [nodesL_cons] at h3
     omega
    ·exact Nat.le_refl _
   ·exact Nat.le_refl _
  ·exact Nat.le_refl _
 ·exact Nat.le_refl _
theorem imp_snoc (u : List CV) (x : CV) (hu : u ≠ []) : impOf (u ++ [x]) = if (x.k == 1 && small x.t.b == important) = true then (match u.reverse.dropWhile spaceC with
  | z :: s => if (z.k == 9 && z.t.b == [33]) = true then (trim s.reverse, true) else (u ++ [x], false)
  | [] => (u ++ [x], false)) else (u ++ [x], false) := by
 unfold impOf
 have e : (u ++ [x]).reverse = x :: u.reverse := by simp
 obtain ⟨y, r, hr⟩ : ∃ y r, u.reverse = y :: r := by
  cases hh : u.reverse with
  | nil => exact absurd (List.reverse_eq_nil_iff.1 hh) hu
  | cons y r => exact ⟨y, r, rfl⟩
 rw [e, hr]
 rfl
theorem ltrim_front {u m : List CV} (h : ltrim (u ++ m) = u ++ m) : ltrim u = u := by
 cases u with
 | nil => rfl
 | cons a u =>
  have ha : spaceC a = false := by
   cases hs : spaceC a with
   | false => rfl
   | true =>
    exfalso
    unfold ltrim at h
    rw [List.cons_append, List.dropWhile_cons, hs, if_pos rfl] at h
    have := (List.dropWhile_suffix (p := spaceC) (l := u ++ m)).length_le
    rw [h] at this
    simp at this
    omega
  unfold ltrim
  rw [List.dropWhile_cons, ha]
  rfl
theorem ltrim_trim (l : List CV) : ltrim (trim l) = trim l := by rw [trim_eq, ltrim_rtrim, ltrim_ltrim]
def BtV (v : CV) : Prop := BtT v.t
end Go.Lift.P8
end

section
open Go.Proofs
namespace Go.Lift.P8
open Rul
open Utf (By)
variable [MX]
variable {lo : Nat} {h : Heap}
theorem TX.look {H : Heap} {l : List Tk4} {E' D : List Nat} {t : Nat} (h : TX H l E' D t) : ∃ e d, (∀ Q : Heap, (H ++ Q)[e]? = some (.cells (nt E'))) /\ (∀ Q : Heap, (H ++ Q)[d]? = some (.cells (nt D))) /\ ∀ Q : Heap, (H ++ Q)[t]? = some (.cells [.list .no (l.map row), .stk e l.length 1, .stk d l.length 1]) := by
 obtain ⟨e, d, h1, h2, h3⟩ := h
 have k : ∀ {i : Nat} {x : Ob}, H[i]? = some x -> ∀ Q : Heap, (H ++ Q)[i]? = some x := fun hx Q => by
  rw [List.getElem?_append_left (List.getElem?_eq_some_iff.1 hx).1]; exact hx
 exact ⟨e, d, k h1, k h2, k h3⟩
theorem name76 {n : List Int} {t a q : Nat} (hlo : lo <= h.length) (hy : By n) (hl : n.length <= 1000000000) :
  ∃ b, evCode ⟨Tryz.prog, E, lo, h.length, h76⟩ loopW (lft (rgt 2 b76)) ([(0, .ptr t 0), (1, .v (.int .i64 a)), (2, .v (.int .i64 q)), (6, .ptr h.length 0), (8, .ptr (h.length + 1) 0)], h ++ [ob77, .cells [.v (.string (Rul.bs n)), .list .yes [], .v (.bool false)]]) =
   some (.normal, [(0, .ptr t 0), (1, .v (.int .i64 a)), (2, .v (.int .i64 q)), (6, .ptr h.length 0), (8, .ptr (h.length + 1) 0), (26, .v (.bool b))], h ++ [ob77, .cells [.v (.string (Rul.bs (nameOf n))), .list .yes [], .v (.bool false)]]) := by
 have l1 : lo <= h.length + 1 := by omega
 have c97 := f97r (lo := lo) (h := h ++ [ob77, .cells [.v (.string (Rul.bs n)), .list .yes [], .v (.bool false)]]) hy hl
 have c65 := f65 (lo := lo) (h := h ++ [ob77, .cells [.v (.string (Rul.bs n)), .list .yes [], .v (.bool false)]]) (l := n) (by simp; omega) (by omega) hy
 have c65 : E lo 65 [.v (.string (Rul.bs n))] (h ++ [ob77, .cells [.v (.string (Rul.bs n)), .list .yes [], .v (.bool false)]]) = some (.v (.string (Rul.bs (small n))), h ++ [ob77, .cells [.v (.string (Rul.bs n)), .list .yes [], .v (.bool false)]]) := c65
 unfold nameOf
 simp only [ob77] at c97 c65
 cases hp : [45, 45].isPrefixOf n with
 | true =>
  rw [hp] at c97
  rw [if_pos rfl]
  refine ⟨false, ?_⟩
  simp only [go_sem, ob77, lft, rgt, b76, Tryz.f76, hlo, l1, k_dashes, c97]
  all_goals rfl
 | false =>
  rw [hp] at c97
  rw [if_neg (by simp)]
  refine ⟨true, ?_⟩
  simp only [go_sem, ob77, lft, rgt, b76, Tryz.f76, hlo, l1, k_dashes, c97, c65]
  all_goals rfl
abbrev N76 (h : Heap) (t q a : Nat) : Env := [(0, .ptr t 0), (2, .v (.int .i64 q)), (6, .ptr h.length 0), (8, .ptr (h.length + 1) 0), (9, .v (.int .i64 a))]
theorem round76a {l : List Tk4} {E' D : List Nat} {t q a : Nat} {x : Tk4} {X Y : Ob} (hT : TX h l E' D t) (hlo : lo <= h.length) (hl : l.length <= 1000000000) (hg : l[a]? = some x) (haq : a < q) :
  evCode ⟨Tryz.prog, E, lo, h.length, h76⟩ loopW l76x0 (N76 h t q a, h ++ [X, Y]) =
   if (x.k == 13) = true then some (.normal, N76 h t q (a + 1), h ++ [X, Y]) else some (.exit 0, N76 h t q a ++ [(46, .v (.bool false))], h ++ [X, Y]) := by
 obtain ⟨e, d, h1, h2, h3⟩ := hT.look
 have hgr : (l.map row)[a]? = some (row x) := by rw [List.getElem?_map, hg]; rfl
 have ha : a < l.length := (List.getElem?_eq_some_iff.1 hg).1
 have q1 : decide ((a : Int) < (q : Int)) = true := by simpa using haq
 have hw : IntKind.i64.wrap ((a : Int) + 1) = ((a + 1 : Nat) : Int) := wrap_succ (by omega)
 simp only [row] at hgr
 cases hk : (x.k == 13) with
 | true =>
  rw [if_pos rfl]
  simp only [N76, go_sem, l76x0, b76, Tryz.f76, hlo, h3, hgr, q1, hk, hw]
  all_goals rfl
 | false =>
  rw [if_neg (by simp)]
  simp only [N76, go_sem, l76x0, b76, Tryz.f76, hlo, h3, hgr, q1, hk, hw]
  all_goals rfl
theorem stop76a {t q : Nat} {X Y : Ob} (hlo : lo <= h.length) : evCode ⟨Tryz.prog, E, lo, h.length, h76⟩ loopW l76x0 (N76 h t q q, h ++ [X, Y]) = some (.exit 0, N76 h t q q ++ [(46, .v (.bool false))], h ++ [X, Y]) := by
 have q1 : decide ((q : Int) < (q : Int)) = false := by simp
 simp only [N76, go_sem, l76x0, b76, Tryz.f76, hlo, q1]
 all_goals rfl
def spT (v : PV) : Bool := v.t.k == 13
theorem sp_one {x : Option Int} {b : Bool} {v : PV} (hg : goodV x b v) (h : spT v = true) : (toksV v).length = 1 := by
 cases v with
 | leaf t => rw [toksV]; rfl
 | node t ks c =>
  have hk : t.k = 13 := by simpa [spT, PV.t] using h
  have hc : closer t.k ≠ 0 := by
   cases c with
   | none => exact (goodV_none.1 hg).1
   | some e => exact (goodV_some.1 hg).1
  rw [hk] at hc
  exact absurd rfl hc
theorem loop76a {l : List Tk4} {E' D : List Nat} {t q : Nat} {X Y : Ob} (hT : TX h l E' D t) (hlo : lo <= h.length) (hl : l.length <= 1000000000) : ∀ (G : List PV) (a : Nat), LaidAt l E' D a q G ->
  loopW (evCode ⟨Tryz.prog, E, lo, h.length, h76⟩ loopW l76x0) (N76 h t q a, h ++ [X, Y]) = some (.exit 0, N76 h t q (a + (toksL (G.takeWhile spT)).length) ++ [(46, .v (.bool false))], h ++ [X, Y])
 | [], a, hA => by
  obtain rfl := hA.nil
  rw [loop_eq, stop76a hlo, loop_e, List.takeWhile_nil, toksL]
  rfl
 | v :: r, a, hA => by
  rw [loop_eq, round76a hT hlo hl hA.head hA.lt, List.takeWhile_cons]
  obtain ⟨y, b, hg⟩ := hA.good
  have hgv := (goodL_cons.1 hg).1
  cases hs : spT v with
  | true =>
   have hs' : (v.t.k == 13) = true := hs
   have h1 := sp_one hgv hs
   have hA2 := hA.tail
   rw [h1] at hA2
   rw [hs', if_pos rfl, loop_n, loop76a hT hlo hl r _ hA2, if_pos rfl, toksL_cons, List.length_append, h1, Nat.add_assoc]
  | false =>
   have hs' : (v.t.k == 13) = false := hs
   rw [hs', if_neg (by simp), loop_e, if_neg (by simp), toksL]
   rfl
abbrev M76 (h : Heap) (k : Nat) : Env := [(6, .ptr h.length 0), (8, .ptr (h.length + 1) 0), (13, .v (.int .i64 k))]
abbrev D76 (n : List Int) (R : List (List V)) (i : Bool) : Ob := .cells [.v (.string (Rul.bs n)), .list .no R, .v (.bool i)]
theorem round76b {n : List Int} {v : List CV} {y : CV} {k : Nat} (hlo : lo <= h.length) (hl : v.length <= 1000000000) (hg : v[k + 1]? = some y) :
  evCode ⟨Tryz.prog, E, lo, h.length, h76⟩ loopW l76x1 (M76 h (k + 1), h ++ [ob77, D76 n (rowsC v) false]) =
   if spaceC y = true then some (.normal, M76 h k, h ++ [ob77, D76 n (rowsC v) false]) else some (.exit 2, M76 h (k + 1) ++ [(119, .v (.bool false))], h ++ [ob77, D76 n (rowsC v) false]) := by
 have hlt : k + 1 < v.length := (List.getElem?_eq_some_iff.1 hg).1
 have hgr : (rowsC v)[k + 1]? = some (rowV y) := by rw [rowsC_get, hg]; rfl
 have c78 := f78 (lo := lo) (h := h ++ [ob77, D76 n (rowsC v) false]) (by simp; omega) y
 have q1 : decide ((0 : Int) < ((k + 1 : Nat) : Int)) = true := by rw [decide_eq_true_iff]; omega
 have w1 : IntKind.i64.wrap (((k + 1 : Nat) : Int) - 1) = (k : Int) := by rw [wrap_i64 (by omega) (by omega)]; omega
 obtain ⟨t, ks⟩ := y
 rw [rowV_eq] at hgr c78
 simp only [D76, ob77] at c78 ⊢
 generalize rowsC v = R at *
 cases hs : spaceC (.mk t ks) with
 | true =>
  rw [hs] at c78
  rw [if_pos rfl]
  simp only [M76, go_sem, l76x1, b76, Tryz.f76, hlo, hgr, q1, w1, c78]
  all_goals rfl
 | false =>
  rw [hs] at c78
  rw [if_neg (by simp)]
  simp only [M76, go_sem, l76x1, b76, Tryz.f76, hlo, hgr, q1, w1, c78]
  all_goals rfl
theorem stop76b {X Y : Ob} (hlo : lo <= h.length) : evCode ⟨Tryz.prog, E, lo, h.length, h76⟩ loopW l76x1 (M76 h 0, h ++ [X, Y]) = some (.exit 2, M76 h 0 ++ [(119, .v (.bool false))], h ++ [X, Y]) := by
 have q1 : decide ((0 : Int) < ((0 : Nat) : Int)) = false := rfl
 simp only [M76, go_sem, l76x1, b76, Tryz.f76, hlo, q1]
 all_goals rfl
theorem loop76b {n : List Int} {v : List CV} (hlo : lo <= h.length) (hl : v.length <= 1000000000) {a : CV} (ha : v[0]? = some a) (hs : spaceC a = false) : ∀ k, k < v.length -> ∃ z s, (v.take (k + 1)).reverse.dropWhile spaceC = z :: s /\
  loopW (evCode ⟨Tryz.prog, E, lo, h.length, h76⟩ loopW l76x1) (M76 h k, h ++ [ob77, D76 n (rowsC v) false]) = some (.exit 2, M76 h s.length ++ [(119, .v (.bool false))], h ++ [ob77, D76 n (rowsC v) false])
 | 0, hk => by
  have e : v.take 1 = [a] := by
   cases v with
   | nil => simp at ha
   | cons x r => simp at ha; subst ha; rfl
  refine ⟨a, [], ?_, ?_⟩
  ·rw [e, List.reverse_singleton, List.dropWhile_cons, hs]; rfl
  ·rw [loop_eq, stop76b hlo, loop_e]; rfl
 | k + 1, hk => by
  have hg : v[k + 1]? = some v[k + 1] := List.getElem?_eq_getElem hk
  have et : v.take (k + 1 + 1) = v.take (k + 1) ++ [v[k + 1]] := List.take_succ_eq_append_getElem hk
  have hr := round76b (n := n) hlo hl hg
  rw [et, List.reverse_append, List.reverse_singleton, List.singleton_append, List.dropWhile_cons]
  cases hy : spaceC v[k + 1] with
  | true =>
   rw [hy, if_pos rfl] at hr
   obtain ⟨z, s, h1, h2⟩ := loop76b (n := n) hlo hl ha hs k (by omega)
   refine ⟨z, s, ?_, ?_⟩
   ·rw [if_pos rfl]; exact h1
   ·rw [loop_eq, hr, loop_n, h2]
  | false =>
   rw [hy, if_neg (by simp)] at hr
   refine ⟨v[k + 1], (v.take (k + 1)).reverse, ?_, ?_⟩
   ·rw [if_neg (by simp)]
   ·have hlen : (v.take (k + 1)).reverse.length = k + 1 := by rw [List.length_reverse, List.length_take]; omega
    rw [hlen, loop_eq, hr, loop_e]
theorem imp76 {n : List Int} {v : List CV} (hlo : lo <= h.length) (hb : ∀ x ∈ v, BtV x) (hl : v.length <= 1000000000) (ht : ltrim v = v) :
  ∃ ex, evCode ⟨Tryz.prog, E, lo, h.length, h76⟩ loopW (lft (rgt 8 b76)) ([(6, .ptr h.length 0), (8, .ptr (h.length + 1) 0)], h ++ [ob77, D76 n (rowsC v) false]) =
   some (.normal, (6, .ptr h.length 0) :: (8, .ptr (h.length + 1) 0) :: ex, h ++ [ob77, D76 n (rowsC (impOf v).1) (impOf v).2]) := by
 have l1 : lo <= h.length + 1 := by omega
 have hlh : ∀ X : Ob, lo <= (h ++ [ob77, X]).length := fun X => by simp; omega
 rcases List.eq_nil_or_concat v with rfl | ⟨u, x, rfl⟩
 ·have w0 : IntKind.i64.wrap (((0 : Nat) : Int) - 1) = -1 := by rw [wrap_i64 (by omega) (by omega)]; rfl
  have q : decide ((1 : Int) <= -1) = false := rfl
  have ei : impOf [] = ([], false) := rfl
  rw [ei]
  refine ⟨[(12, .v (.int .i64 (-1))), (107, .v (.bool false))], ?_⟩
  have w00 : IntKind.i64.wrap ((0 : Int) - 1) = -1 := w0
  simp only [go_sem, ob77, D76, lft, rgt, b76, Tryz.f76, hlo, l1, w0, w00, q, rowsC_nil, List.length_nil]
  all_goals rfl
 ·simp only [List.concat_eq_append] at *
  have hlen : (u ++ [x]).length = u.length + 1 := by simp
  have rl : (rowsC (u ++ [x])).length = u.length + 1 := by rw [rowsC_len, hlen]
  have w1 : IntKind.i64.wrap (((u.length + 1 : Nat) : Int) - 1) = (u.length : Int) := by rw [wrap_i64 (by omega) (by omega)]; omega
  by_cases hu : u = []
  ·subst hu
   have q : decide ((1 : Int) <= ((0 : Nat) : Int)) = false := rfl
   have ei : impOf ([] ++ [x]) = ([x], false) := rfl
   rw [ei]
   simp only [List.nil_append, List.length_nil, Nat.zero_add] at rl w1 ⊢
   refine ⟨[(12, .v (.int .i64 ((0 : Nat) : Int))), (107, .v (.bool false))], ?_⟩
   generalize rowsC [x] = R at *
   have n0 : ((0 : Nat) : Int) = 0 := rfl
   simp only [go_sem, ob77, D76, lft, rgt, b76, Tryz.f76, hlo, l1, w1, q, rl]
   all_goals rfl
  ·have hup : 0 < u.length := List.length_pos_iff.2 hu
   have q : decide ((1 : Int) <= (u.length : Int)) = true := by rw [decide_eq_true_iff]; omega
   have hg : (rowsC (u ++ [x]))[u.length]? = some (rowV x) := by rw [rowsC_get]; simp
   have ra := rowsC_all (u ++ [x])
   have hbx := hb x (by simp)
   have htu := ltrim_front ht
   have ei := imp_snoc u x hu
   have hum : ∀ y ∈ u, BtV y := fun y hy => hb y (by simp [hy])
   have w2 : IntKind.i64.wrap ((u.length : Int) - 1) = ((u.length - 1 : Nat) : Int) := by rw [wrap_i64 (by omega) (by omega)]; omega
   obtain ⟨a, ha, hsa⟩ : ∃ a, (u ++ [x])[0]? = some a /\ spaceC a = false := by
    cases hu' : u with
    | nil => exact absurd hu' hu
    | cons a r =>
     refine ⟨a, rfl, ?_⟩
     rw [hu'] at htu
     cases hs : spaceC a with
     | false => rfl
     | true =>
      exfalso
      unfold ltrim at htu
      rw [List.dropWhile_cons, hs, if_pos rfl] at htu
      have := (List.dropWhile_suffix (p := spaceC) (l := r)).length_le
      rw [htu] at this
      simp at this
      omega
   obtain ⟨z, s, hz, hL⟩ := loop76b (lo := lo) (h := h) (n := n) (v := u ++ [x]) hlo hl ha hsa (u.length - 1) (by rw [hlen]; omega)
   have etk : (u ++ [x]).take (u.length - 1 + 1) = u := List.take_left' (by omega)
   rw [etk] at hz
   have hzm : z ∈ u := by
    have : z ∈ u.reverse := (List.dropWhile_suffix spaceC).subset (by rw [hz]; simp)
    simpa using this
   have hbz := hum z hzm
   obtain ⟨p, hp⟩ : ∃ p, u.reverse = p ++ z :: s := by
    have := List.dropWhile_suffix (p := spaceC) (l := u.reverse)
    rw [hz] at this
    obtain ⟨p, hp⟩ := this
    exact ⟨p, hp.symm⟩
   have eu : u = s.reverse ++ (z :: p.reverse) := by
    have := congrArg List.reverse hp
    rw [List.reverse_reverse, List.reverse_append, List.reverse_cons] at this
    rw [this]; simp
   have hsl : s.length <= u.length := by rw [eu]; simp
   have hg2 : (rowsC (u ++ [x]))[s.length]? = some (rowV z) := by
    rw [rowsC_get, eu]
    have : (s.reverse ++ z :: p.reverse ++ [x])[s.length]? = some z := by
     rw [List.append_assoc, List.getElem?_append_right (by simp)]
     simp
    rw [this]; rfl
   have htk2 : (rowsC (u ++ [x])).take s.length = rowsC s.reverse := by
    rw [rowsC_take, eu, List.append_assoc, List.take_left' (by simp)]
   have hsl2 : s.length <= u.length + 1 := by omega
   have hL2 := hL
   simp only [l76x1, b76, Tryz.f76, loopAt, loops, bodyOf, go_sem, M76, D76, ob77, List.cons_append, List.nil_append] at hL2
   have c56 := fun X => f56 (lo := lo) (h := h ++ [ob77, .cells X]) (l := s.reverse) (hlh _) (by rw [List.length_reverse]; rw [hlen] at hl; omega)
   obtain ⟨t, ks⟩ := x
   obtain ⟨tz, kz⟩ := z
   rw [rowV_eq] at hg hg2
   have hbe := rbs_beq hbz.1 by_bang
   have hbe : ((Rul.bs tz.b).toList == (Rul.bs [33]).toList) = (tz.b == [33]) := hbe
   have hbi := rbs_beq (by_small hbx.1) by_important
   have hbi : ((Rul.bs (small t.b)).toList == (Rul.bs important).toList) = (small t.b == important) := hbi
   have c65 := fun X => f65 (lo := lo) (h := h ++ [ob77, .cells X]) (l := t.b) (hlh _) (by have := hbx.2; show t.b.length <= _; exact Nat.le_trans this (by decide)) hbx.1
   have c65 : ∀ X, E lo 65 [.v (.string (Rul.bs t.b))] (h ++ [ob77, .cells X]) = some (.v (.string (Rul.bs (small t.b))), h ++ [ob77, .cells X]) := c65
   have ei : impOf (u ++ [CV.mk t ks]) = if (t.k == 1 && small t.b == important) = true then (match u.reverse.dropWhile spaceC with
     | z :: s => if (z.k == 9 && z.t.b == [33]) = true then (trim s.reverse, true) else (u ++ [CV.mk t ks], false)
     | [] => (u ++ [CV.mk t ks], false)) else (u ++ [CV.mk t ks], false) := ei
   rw [hz] at ei
   have ei : impOf (u ++ [CV.mk t ks]) = if (t.k == 1 && small t.b == important) = true then (if (tz.k == 9 && tz.b == [33]) = true then (trim s.reverse, true) else (u ++ [CV.mk t ks], false)) else (u ++ [CV.mk t ks], false) := ei
   simp only [ob77] at c56 c65
   generalize hR : rowsC (u ++ [CV.mk t ks]) = R at *
   cases hk : (t.k == 1) with
   | false =>
    rw [hk, Bool.false_and, if_neg (by simp)] at ei
    rw [ei]
    simp only [hR]
    refine ⟨[(12, .v (.int .i64 u.length)), (107, .v (.bool false))], ?_⟩
    simp only [go_sem, ob77, D76, lft, rgt, b76, Tryz.f76, hlo, l1, q, w1, rl, hg, hk]
    all_goals rfl
   | true =>
    rw [hk, Bool.true_and] at ei
    cases hi : (small t.b == important) with
    | false =>
     rw [hi] at hbi
     rw [hi, if_neg (by simp)] at ei
     rw [ei]
     simp only [hR]
     refine ⟨[(12, .v (.int .i64 u.length)), (107, .v (.bool false))], ?_⟩
     simp only [go_sem, ob77, D76, lft, rgt, b76, Tryz.f76, hlo, l1, q, w1, rl, hg, hk, k_important, c65, hbi]
     all_goals rfl
    | true =>
     rw [hi] at hbi
     rw [hi, if_pos rfl] at ei
     cases hk9 : (tz.k == 9) with
     | false =>
      rw [hk9, Bool.false_and, if_neg (by simp)] at ei
      rw [ei]
      simp only [hR]
      refine ⟨[(13, .v (.int .i64 s.length)), (139, .v (.bool false))], ?_⟩
      simp only [go_sem, ob77, D76, lft, rgt, b76, Tryz.f76, hlo, l1, q, w1, w2, rl, hg, hg2, hk, hk9, k_important, c65, hbi, hL2]
      all_goals rfl
     | true =>
      rw [hk9, Bool.true_and] at ei
      cases hb33 : (tz.b == [33]) with
      | false =>
       rw [hb33] at hbe
       rw [hb33, if_neg (by simp)] at ei
       rw [ei]
       simp only [hR]
       refine ⟨[(13, .v (.int .i64 s.length)), (139, .v (.bool false))], ?_⟩
       simp only [go_sem, ob77, D76, lft, rgt, b76, Tryz.f76, hlo, l1, q, w1, w2, rl, hg, hg2, hk, hk9, k_important, k_bang, hbe, c65, hbi, hL2]
       all_goals rfl
      | true =>
       rw [hb33] at hbe
       rw [hb33, if_pos rfl] at ei
       rw [ei]
       simp only
       refine ⟨[(12, .undef), (107, .undef)], ?_⟩
       simp only [go_sem, ob77, D76, lft, rgt, b76, Tryz.f76, hlo, l1, q, w1, w2, rl, hg, hg2, hk, hk9, k_important, k_bang, hbe, c65, hbi, hL2, htk2, ra, hsl2, Nat.zero_le, c56]
       all_goals rfl
end Go.Lift.P8
end

section
open Go.Proofs
namespace Go.Lift.P8
open Rul
open Utf (By)
variable [MX]
variable {lo : Nat} {h : Heap}
theorem spT_cv (v : PV) : spT v = spaceC (cvV v) := by
 unfold spT spaceC
 rw [cv_k]
theorem cvL_map (G : List PV) : cvL G = G.map cvV := by
 induction G with
 | nil => rw [cvL]; rfl
 | cons v r ih => rw [cvL, ih]; rfl
theorem cvL_drop (f : PV -> Bool) (g : CV -> Bool) (hfg : ∀ v, f v = g (cvV v)) : ∀ G : List PV, cvL (G.dropWhile f) = (cvL G).dropWhile g
 | [] => by rw [List.dropWhile_nil, cvL]; rfl
 | v :: r => by
  rw [cvL, List.dropWhile_cons, List.dropWhile_cons, <- hfg]
  split
  ·exact cvL_drop f g hfg r
  ·rw [cvL]
theorem cvL_take (f : PV -> Bool) (g : CV -> Bool) (hfg : ∀ v, f v = g (cvV v)) : ∀ G : List PV, cvL (G.takeWhile f) = (cvL G).takeWhile g
 | [] => by rw [List.takeWhile_nil, cvL]; rfl
 | v :: r => by
  rw [cvL, List.takeWhile_cons, List.takeWhile_cons, <- hfg]
  split
  ·rw [cvL, cvL_take f g hfg r]
  ·rw [cvL]
theorem noHit_nil : noHit [] = fun _ => true := by funext v; rfl
theorem take_all {α : Type} (l : List α) : l.takeWhile (fun _ => true) = l := by
 induction l with
 | nil => rfl
 | cons a l ih => rw [List.takeWhile_cons, if_pos rfl, ih]
theorem f76 {l : List Tk4} {E' D : List Nat} {t p q : Nat} {v : PV} {F : List PV} (hT : TX h l E' D t) (hlo : lo <= h.length) (hE : E'.length = l.length) (hD : D.length = l.length) (hl : l.length <= 1000000000) (hb : ∀ p, E'.getD p 0 <= l.length) (hA : LaidAt l E' D p q (v :: F)) (hk : v.t.k = 1) (hB : ∀ y ∈ cvL (v :: F), BtV y) (hn : nodesL (cvL (v :: F)) <= 1000000000) :
  E lo 76 [.ptr t 0, .v (.int .i64 p), .v (.int .i64 q)] h = some (dcR (decl (cvL (v :: F))), h) := by
 have l1 : lo <= h.length + 1 := by omega
 have hhd := hA.head
 have hp : p < l.length := (List.getElem?_eq_some_iff.1 hhd).1
 have hA1 := hA.tail
 obtain ⟨x0, b0, hg0⟩ := hA.good
 have hgv := (goodL_cons.1 hg0).1
 have hone : (toksV v).length = 1 := by
  cases v with
  | leaf t => rw [toksV]; rfl
  | node t ks c =>
   have hk' : t.k = 1 := hk
   have hc : closer t.k ≠ 0 := by
    cases c with
    | none => exact (goodV_none.1 hgv).1
    | some e => exact (goodV_some.1 hgv).1
   rw [hk'] at hc
   exact absurd rfl hc
 rw [hone] at hA1
 rw [cvL, nodesL_cons] at hn
 rw [cvL] at hB ⊢
 have hBv : BtT v.t := by have := hB (cvV v) (by simp); unfold BtV at this; rw [cv_t] at this; exact this
 have hBF : ∀ y ∈ cvL F, BtV y := fun y hy => hB y (by simp [hy])
 have hgr : (l.map row)[p]? = some (row v.t) := by rw [List.getElem?_map, hhd]; rfl
 have hw : IntKind.i64.wrap ((p : Int) + 1) = ((p + 1 : Nat) : Int) := wrap_succ (by omega)
 obtain ⟨e, d, t1, t2, t3⟩ := hT.look
 have t30 := t3 []
 rw [List.append_nil] at t30
 obtain ⟨bn, hN⟩ := name76 (lo := lo) (h := h) (n := v.t.b) (t := t) (a := p) (q := q) hlo hBv.1 hBv.2
 have hL := loop76a (X := ob77) (Y := .cells [.v (.string (Rul.bs (nameOf v.t.b))), .list .yes [], .v (.bool false)]) hT hlo hl F (p + 1) hA1
 have hC := hA1.cut spT
 have hdF : cvL (F.dropWhile spT) = ltrim (cvL F) := cvL_drop spT spaceC spT_cv F
 generalize p + 1 + (toksL (F.takeWhile spT)).length = a at *
 generalize F.dropWhile spT = G at *
 have ed : decl (cvV v :: cvL F) = match cvL G with
  | [] => none
  | c :: r => if (c.k != 16) = true then none else if deepL 64 r = true then none else
   some ⟨nameOf v.t.b, (impOf (trim r)).1, (impOf (trim r)).2⟩ := by
  rw [hdF, decl]
  have e1 : ((cvV v).k != 1) = false := by rw [cv_k, hk]; rfl
  rw [e1, if_neg (by simp), cv_t]
  rfl
 rw [ed]
 have ez : declC zd = [.v (.string ByteArray.empty), .list .no [], .v (.bool false)] := by
  have e0 : Rul.bs [] = ByteArray.empty := rfl
  simp only [declC, zd, e0, rowsC_nil]
 have haq : a <= q := by have := hC.len; omega
 have hql := hC.le
 simp only [row] at hgr
 rw [e76 (by simp) (by rfl)]
 simp only [lft, rgt, b76, Tryz.f76, bodyOf, Option.getD_some, ob77] at hN
 simp only [l76x0, b76, Tryz.f76, loopAt, loops, bodyOf, go_sem, N76, ob77, List.cons_append, List.nil_append] at hL
 cases G with
 | nil =>
  obtain rfl := hC.nil
  have q1 : decide ((a : Int) <= (a : Int)) = true := by simp
  rw [cvL]
  simp only [dcR, ez]
  simp only [go_sem, b76, Tryz.f76, hlo, l1, t3, t30, hgr, ↓hN, hw, hL, q1]
  all_goals rfl
 | cons c R =>
  have hlt := hC.lt
  have q1 : decide ((q : Int) <= (a : Int)) = false := by rw [decide_eq_false_iff_not]; omega
  have hcr : (l.map row)[a]? = some (row c.t) := by rw [List.getElem?_map, hC.head]; rfl
  have hwa : IntKind.i64.wrap ((a : Int) + 1) = ((a + 1 : Nat) : Int) := wrap_succ (by omega)
  simp only [row] at hcr
  rw [cvL]
  simp only [cv_k]
  cases hc16 : (c.t.k != 16) with
  | true =>
   rw [if_pos rfl]
   simp only [dcR, ez]
   simp only [go_sem, b76, Tryz.f76, hlo, l1, t3, t30, hgr, ↓hN, hw, hL, q1, hcr, hc16]
   all_goals rfl
  | false =>
   rw [if_neg (by simp)]
   have hck : c.t.k = 16 := by simpa using hc16
   obtain ⟨x1, b1, hg1⟩ := hC.good
   have hcv := (goodL_cons.1 hg1).1
   have hcone : (toksV c).length = 1 := by
    cases c with
    | leaf t => rw [toksV]; rfl
    | node t ks c' =>
     have hk' : t.k = 16 := hck
     have hcc : closer t.k ≠ 0 := by
      cases c' with
      | none => exact (goodV_none.1 hcv).1
      | some e => exact (goodV_some.1 hcv).1
     rw [hk'] at hcc
     exact absurd rfl hcc
   have hA2 := hC.tail
   rw [hcone] at hA2
   have hTQ : ∀ X : List V, TX (h ++ [ob77, .cells X]) l E' D t := fun X => hT.app _
   have hlh : ∀ X : List V, lo <= (h ++ [ob77, Ob.cells X]).length := fun X => by simp; omega
   have c64 := fun X => f64 (ks := []) (hTQ X) (hlh X) (by simp) hE hD hl hb hA2
   have c67 := fun X => f67 (hTQ X) (hlh X) hl hA2
   rw [noHit_nil, take_all] at c64
   rw [hA2.len] at c64
   have rn : ri .i64 [] = [] := rfl
   rw [rn] at c64
   have hRsub : ∀ y ∈ cvL R, y ∈ cvL F := fun y hy => by
    have : y ∈ ltrim (cvL F) := by rw [<- hdF, cvL]; simp [hy]
    exact drop_sub this
   have hRn : nodesL (cvL R) <= nodesL (cvL F) := by
    have h1 : nodesL (ltrim (cvL F)) <= nodesL (cvL F) := nodesL_suffix (List.dropWhile_suffix _)
    rw [<- hdF, cvL, nodesL_cons] at h1
    omega
   generalize cvL R = r at *
   simp only [ob77] at c64 c67
   cases hdp : deepL 64 r with
   | true =>
    rw [hdp] at c64
    rw [if_pos rfl]
    simp only [dcR, ez]
    simp only [go_sem, b76, Tryz.f76, hlo, l1, t3, t30, hgr, ↓hN, hw, hL, q1, hcr, hc16, hwa, c64, Bool.not_true]
    all_goals rfl
   | false =>
    rw [hdp] at c64
    rw [if_neg (by simp)]
    have hvb : ∀ y ∈ trim r, BtV y := fun y hy => hBF y (hRsub y (trim_sub hy))
    have hvn := nodesL_trim r
    have hvl := nodesL_len (trim r)
    obtain ⟨ex, hI⟩ := imp76 (lo := lo) (h := h) (n := nameOf v.t.b) (v := trim r) hlo hvb (by omega) (ltrim_trim r)
    have c55 := fun X => f55 _ (impOf (trim r)).1 (nodesL_imp (trim r)) (by omega) lo (h ++ [ob77, .cells X]) (hlh X)
    simp only [lft, rgt, b76, Tryz.f76, bodyOf, Option.getD_some, ob77, D76] at hI
    simp only [ob77] at c55
    simp only [dcR, declC]
    generalize rowsC (impOf (trim r)).1 = W at *
    generalize rowsC (trim r) = W0 at *
    simp only [go_sem, b76, Tryz.f76, hlo, l1, t3, t30, hgr, ↓hN, hw, hL, q1, hcr, hc16, hwa, c64, c67, Bool.not_false, ↓hI, c55]
    all_goals rfl
end Go.Lift.P8
end

section
open Go.Proofs
namespace Go.Lift.P8
open Rul
open Utf (By)
variable [MX]
variable {lo : Nat} {h : Heap}
theorem lim48b {n : Nat} (h : n <= 1000000000) : (n + 1) * 48 <= 140737488355328 := by omega
theorem declsN_len : ∀ (n : Nat) (l : List CV), (declsN n l).length <= l.length
 | 0, l => by rw [declsN]; exact Nat.zero_le _
 | n + 1, [] => Nat.le_refl _
 | n + 1, v :: r => by
  rw [declsN]
  split
  ·have := declsN_len n r; rw [List.length_cons]; omega
  ·rename_i h1
   split
   ·have := declsN_len n ((v :: r).dropWhile (nor 17 23)).tail
    have h2 := (List.dropWhile_suffix (p := nor 17 23) (l := v :: r)).length_le
    rw [List.length_tail] at this
    omega
   ·have hnv : nor 17 17 v = true := by
     simp only [Bool.or_eq_true, beq_iff_eq, not_or] at h1
     simp [nor, h1.2]
    have := declsN_len n ((v :: r).dropWhile (nor 17 17))
    have h3 : ((v :: r).dropWhile (nor 17 17)).length <= r.length := by
     rw [List.dropWhile_cons, if_pos hnv]
     exact (List.dropWhile_suffix _).length_le
    rw [List.length_append, List.length_cons]
    have h4 : (decl ((v :: r).takeWhile (nor 17 17))).toList.length <= 1 := by cases decl ((v :: r).takeWhile (nor 17 17)) <;> simp
    omega
end Go.Lift.P8
end

section
namespace Go.Lift.Rul
mutual
def allV (P : Tk4 -> Prop) : CV -> Prop
 | .mk t ks => P t /\ allL P ks
def allL (P : Tk4 -> Prop) : List CV -> Prop
 | [] => True
 | v :: r => allV P v /\ allL P r
end
theorem allV_eq {P : Tk4 -> Prop} {v : CV} : allV P v ↔ P v.t /\ allL P v.ks := by
 cases v; rw [allV]; rfl
theorem allL_iff {P : Tk4 -> Prop} : ∀ {l : List CV}, allL P l ↔ ∀ v ∈ l, P v.t /\ allL P v.ks
 | [] => by rw [allL]; simp
 | v :: r => by
  rw [allL, allV_eq, allL_iff (l := r)]
  simp
theorem allL_sub {P : Tk4 -> Prop} {l m : List CV} (h : allL P l) (hs : ∀ v ∈ m, v ∈ l) : allL P m := allL_iff.2 fun v hv => allL_iff.1 h v (hs v hv)
mutual
theorem allV_toks {P : Tk4 -> Prop} : ∀ v : PV, (∀ t ∈ toksV v, P t) -> allV P (cvV v)
 | .leaf t, h => by rw [cvV, allV, allL]; exact ⟨h t (by rw [toksV]; simp), trivial⟩
 | .node t ks c, h => by
  rw [toksV] at h
  rw [cvV, allV]
  exact ⟨h t (by simp), allL_toks ks fun u hu => h u (by simp [hu])⟩
theorem allL_toks {P : Tk4 -> Prop} : ∀ F : List PV, (∀ t ∈ toksL F, P t) -> allL P (cvL F)
 | [], _ => by rw [cvL, allL]; trivial
 | v :: r, h => by
  rw [toksL] at h
  rw [cvL, allL]
  exact ⟨allV_toks v fun t ht => h t (by simp [ht]), allL_toks r fun t ht => h t (by simp [ht])⟩
end
mutual
theorem nodesV_toks : ∀ v : PV, nodesV (cvV v) <= (toksV v).length
 | .leaf t => by rw [cvV, nodesV, nodesL_nil, toksV]; simp
 | .node t ks c => by
  have := nodesL_toks ks
  rw [cvV, nodesV, toksV]
  simp only [List.length_cons, List.length_append]
  omega
theorem nodesL_toks : ∀ F : List PV, nodesL (cvL F) <= (toksL F).length
 | [] => by rw [cvL, nodesL_nil]; exact Nat.zero_le _
 | v :: r => by
  have := nodesL_toks r
  have := nodesV_toks v
  rw [cvL, nodesL_cons, toksL, List.length_append]
  omega
end
theorem allL_vals {P : Tk4 -> Prop} {l : List Tk4} (h : ∀ t ∈ l, P t) : allL P (vals l) := by
 obtain ⟨F, rfl, hg⟩ := tree_of l
 rw [vals_toks hg]
 exact allL_toks F h
theorem nodes_vals (l : List Tk4) : nodesL (vals l) <= l.length := by
 obtain ⟨F, rfl, hg⟩ := tree_of l
 rw [vals_toks hg]
 exact nodesL_toks F
end Go.Lift.Rul
end
