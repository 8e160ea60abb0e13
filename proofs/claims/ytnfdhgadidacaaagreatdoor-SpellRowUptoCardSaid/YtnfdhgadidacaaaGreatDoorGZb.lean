/- What is computed, in plain Lean. -/
import Derived.Lib.TrailingZeros
import Derived.Lib.ItoaNum
import Derived.Test.YtnfdhgadidacaaaGreatDoorGZa
section
namespace Go.Lift.Tok
set_option linter.unusedVariables false
open Utf
theorem le_mulr {a b : Int} (ha : 0 ≤ a) (hb : 1 ≤ b) : a ≤ a * b := by
 have := Int.mul_le_mul_of_nonneg_left hb ha
 omega
theorem le_mull {a b : Int} (ha : 0 ≤ a) (hb : 1 ≤ b) : a ≤ b * a := by rw [Int.mul_comm]; exact le_mulr ha hb
theorem one_pow_le {y : Int} (hy : 1 ≤ y) : ∀ j : Nat, 1 ≤ y ^ j
 | 0 => by simp
 | j + 1 => by rw [Int.pow_succ]; exact Int.le_trans (one_pow_le hy j) (le_mulr (by have := one_pow_le hy j; omega) hy)
def expN (n : Int) : List Int → Int
 | [] => n
 | c :: t => expN (if 1099511627776 < n * 10 + (c - 48) then 1099511627776 else n * 10 + (c - 48)) t
def valN (n : Int) : List Int → Int
 | [] => n
 | c :: t => valN (n * 10 + (c - 48)) t
theorem valN_bound : ∀ (l : List Int) (n : Int) (k : Nat), (∀ c ∈ l, dig c = true) → 0 ≤ n → n < 10 ^ k → 0 ≤ valN n l ∧ valN n l < 10 ^ (k + l.length) ∧ n ≤ valN n l
 | [], n, k, _, h0, h1 => ⟨h0, by simpa [valN] using h1, Int.le_refl _⟩
 | c :: t, n, k, hl, h0, h1 => by
  have hc : dig c = true := hl c (by simp)
  simp only [dig, Bool.and_eq_true, decide_eq_true_eq] at hc
  have h2 : (10 : Int) ^ (k + 1) = 10 ^ k * 10 := Int.pow_succ 10 k
  obtain ⟨a, b, d⟩ := valN_bound t (n * 10 + (c - 48)) (k + 1) (fun x hx => hl x (by simp [hx])) (by omega) (by omega)
  refine ⟨a, ?_, ?_⟩
  ·have e : k + (c :: t).length = k + 1 + t.length := by simp; omega
   rw [e]; exact b
  ·simp only [valN]; omega
def upN : Nat → Int → Option Int
 | 0, n => some n
 | k + 1, n => if 922337203685477580 < n then none else upN k (n * 10)
def divN (y : Int) : Nat → Int → Nat × Int
 | 0, n => (0, n)
 | k + 1, n => if n % y = 0 then divN y k (n / y) else (k + 1, n)
def mulN (y b : Int) : Nat → Int → Option Int
 | 0, d => some d
 | k + 1, d => if b < d then none else mulN y b k (d * y)
def downN (y b : Int) : Nat → Int → Int → Option (Int × Int)
 | 0, n, d => some (n, d)
 | k + 1, n, d => if n % y = 0 then downN y b k (n / y) d else if b < d then none else downN y b k n (d * y)
theorem downN_not {y b : Int} : ∀ (k : Nat) (n d : Int), n % y ≠ 0 → downN y b k n d = (mulN y b k d).map fun x => (n, x)
 | 0, n, d, _ => rfl
 | k + 1, n, d, h => by
  simp only [downN, mulN]
  rw [if_neg h]
  split
  ·rfl
  ·exact downN_not k n (d * y) h
theorem downN_eq {y b : Int} : ∀ (k : Nat) (n d : Int), downN y b k n d = (mulN y b (divN y k n).1 d).map fun x => ((divN y k n).2, x)
 | 0, n, d => rfl
 | k + 1, n, d => by
  by_cases h : n % y = 0
  ·simp only [downN, divN]
   rw [if_pos h, if_pos h]
   exact downN_eq k (n / y) d
  ·have e : divN y (k + 1) n = (k + 1, n) := by simp only [divN]; rw [if_neg h]
   rw [e]
   exact downN_not (k + 1) n d h
theorem upN_some : ∀ (k : Nat) (n m : Int), upN k n = some m → m = n * 10 ^ k ∧ (k = 0 ∨ m ≤ 9223372036854775800)
 | 0, n, m, h => by simp only [upN, Option.some.injEq] at h; exact ⟨by simp [h], .inl rfl⟩
 | k + 1, n, m, h => by
  simp only [upN] at h
  split at h
  ·cases h
  ·rename_i h1
   obtain ⟨a, b⟩ := upN_some k (n * 10) m h
   refine ⟨by rw [a, Int.pow_succ, Int.mul_assoc, Int.mul_comm 10], .inr ?_⟩
   rcases b with b | b
   ·subst b
    simp at a
    omega
   ·exact b
theorem upN_big {k : Nat} {n : Int} (hk : 18 < k) (hn : 1 ≤ n) : upN k n = none := by
 cases h : upN k n with
 | none => rfl
 | some m =>
  obtain ⟨a, b⟩ := upN_some k n m h
  have h1 : (10 : Int) ^ 19 ≤ 10 ^ k := by
   obtain ⟨j, rfl⟩ : ∃ j, k = 19 + j := ⟨k - 19, by omega⟩
   rw [Int.pow_add]
   have : (1 : Int) ≤ 10 ^ j := one_pow_le (by omega) j
   exact le_mulr (by decide) this
  have h2 : (10 : Int) ^ k ≤ n * 10 ^ k := le_mull (by have := one_pow_le (y := 10) (by omega) k; omega) hn
  have h3 : (10 : Int) ^ 19 = 10000000000000000000 := by decide
  omega
theorem mulN_some {y b : Int} (hy : 0 < y) : ∀ (k : Nat) (n m : Int), mulN y b k n = some m → m = n * y ^ k ∧ (k = 0 ∨ m ≤ b * y)
 | 0, n, m, h => by simp only [mulN, Option.some.injEq] at h; exact ⟨by simp [h], .inl rfl⟩
 | k + 1, n, m, h => by
  simp only [mulN] at h
  split at h
  ·cases h
  ·rename_i h1
   obtain ⟨a, c⟩ := mulN_some hy k (n * y) m h
   refine ⟨by rw [a, Int.pow_succ, Int.mul_assoc, Int.mul_comm y], .inr ?_⟩
   rcases c with c | c
   ·subst c
    simp at a
    rw [a]
    exact Int.mul_le_mul_of_nonneg_right (by omega) (by omega)
   ·exact c
theorem mul5_big {k : Nat} {d : Int} (hk : 27 < k) (hd : 1 ≤ d) : mulN 5 1844674407370955161 k d = none := by
 cases h : mulN 5 1844674407370955161 k d with
 | none => rfl
 | some m =>
  obtain ⟨a, b⟩ := mulN_some (by omega) k d m h
  have h1 : (5 : Int) ^ 28 ≤ 5 ^ k := by
   obtain ⟨j, rfl⟩ : ∃ j, k = 28 + j := ⟨k - 28, by omega⟩
   rw [Int.pow_add]
   have : (1 : Int) ≤ 5 ^ j := one_pow_le (by omega) j
   exact le_mulr (by decide) this
  have h2 : (5 : Int) ^ k ≤ d * 5 ^ k := le_mull (by have := one_pow_le (y := 5) (by omega) k; omega) hd
  have h3 : (5 : Int) ^ 28 = 37252902984619140625 := by decide
  omega
theorem two_pow_le {a c : Nat} (h : a ≤ c) : (2 : Int) ^ a ≤ 2 ^ c := by
 obtain ⟨j, rfl⟩ : ∃ j, c = a + j := ⟨c - a, by omega⟩
 rw [Int.pow_add]
 have h0 : (0 : Int) < 2 ^ a := one_pow_le (by omega) a
 have : (1 : Int) ≤ 2 ^ j := one_pow_le (by omega) j
 exact le_mulr (by omega) this
theorem mul2_eq : ∀ (k a : Nat), a ≤ 62 → mulN 2 4611686018427387903 k (2 ^ a) = if 62 < a + k then none else some (2 ^ (a + k))
 | 0, a, h => by rw [if_neg (by omega)]; rfl
 | k + 1, a, h => by
  have h62 : (2 : Int) ^ 62 = 4611686018427387904 := by decide
  have h61 : (2 : Int) ^ 61 = 2305843009213693952 := by decide
  simp only [mulN]
  by_cases ha : a = 62
  ·subst ha
   rw [if_pos (by omega), if_pos (by omega)]
  ·have := two_pow_le (show a ≤ 61 by omega)
   rw [if_neg (by omega), ← Int.pow_succ, mul2_eq k (a + 1) (by omega)]
   have e : a + 1 + k = a + (k + 1) := by omega
   rw [e]
theorem divN_spec {y : Int} (hy : 0 < y) : ∀ (k : Nat) (n : Int), 1 ≤ n → (divN y k n).1 ≤ k ∧ 1 ≤ (divN y k n).2 ∧ (divN y k n).2 ≤ n ∧ n = (divN y k n).2 * y ^ (k - (divN y k n).1)
 | 0, n, h => by simp [divN, h]
 | k + 1, n, h => by
  simp only [divN]
  split
  ·rename_i h1
   have h2 : n = n / y * y := by have := Int.mul_ediv_add_emod n y; rw [h1, Int.add_zero] at this; rw [Int.mul_comm]; exact this.symm
   have h3 : 1 ≤ n / y := by
    rcases Int.lt_or_le (n / y) 1 with h4 | h4
    ·have : n / y * y ≤ 0 := Int.mul_nonpos_of_nonpos_of_nonneg (by omega) (by omega)
     omega
    ·exact h4
   obtain ⟨a, b, c, d⟩ := divN_spec hy k (n / y) h3
   have h5 : n / y ≤ n := Int.ediv_le_self y (by omega)
   refine ⟨by omega, b, by omega, ?_⟩
   have e : k + 1 - (divN y k (n / y)).1 = k - (divN y k (n / y)).1 + 1 := by omega
   rw [e, Int.pow_succ, ← Int.mul_assoc, ← d]
   exact h2
  ·simp [h]
def scaleR (n p : Int) : Option (Int × Int) :=
 match upN p.toNat n with
 | none => none
 | some m =>
  if 62 < (divN 2 (-p).toNat m).1 ∨ 27 < (divN 5 (-p).toNat (divN 2 (-p).toNat m).2).1 then none
  else (mulN 5 1844674407370955161 (divN 5 (-p).toNat (divN 2 (-p).toNat m).2).1 (2 ^ (divN 2 (-p).toNat m).1)).map fun d => ((divN 5 (-p).toNat (divN 2 (-p).toNat m).2).2, d)
def scaleP (n p : Int) : Option (Int × Int) :=
 if 18 < p ∨ p < -100 then none else
 match upN p.toNat n with
 | none => none
 | some m => match downN 2 4611686018427387903 (-p).toNat m 1 with
  | none => none
  | some (n2, d2) => downN 5 1844674407370955161 (-p).toNat n2 d2
theorem scale_eq {n p : Int} (h1 : 1 ≤ n) (h2 : n < 10 ^ 18) : scaleP n p = scaleR n p := by
 unfold scaleP scaleR
 by_cases hp : 18 < p
 ·rw [if_pos (.inl hp), upN_big (by omega) h1]
 by_cases hq : p < -100
 ·have e : p.toNat = 0 := by omega
  rw [if_pos (.inr hq), e]
  simp only [upN]
  rw [if_pos]
  right
  obtain ⟨a1, b1, c1, d1⟩ := divN_spec (y := 2) (by omega) (-p).toNat n h1
  obtain ⟨a, b, c, d⟩ := divN_spec (y := 5) (by omega) (-p).toNat _ b1
  generalize (divN 2 (-p).toNat n).2 = n2 at *
  generalize (divN 5 (-p).toNat n2).1 = k at *
  generalize (divN 5 (-p).toNat n2).2 = n3 at *
  rcases Nat.lt_or_ge 27 k with h | h
  ·exact h
  ·exfalso
   have h4 : (5 : Int) ^ 26 ≤ 5 ^ ((-p).toNat - k) := by
    obtain ⟨j, e⟩ : ∃ j, (-p).toNat - k = 26 + j := ⟨(-p).toNat - k - 26, by omega⟩
    rw [e, Int.pow_add]
    have : (1 : Int) ≤ 5 ^ j := one_pow_le (by omega) j
    exact le_mulr (by decide) this
   have h5 : (5 : Int) ^ ((-p).toNat - k) ≤ n3 * 5 ^ ((-p).toNat - k) := le_mull (by have := one_pow_le (y := 5) (by omega) ((-p).toNat - k); omega) b
   have h6 : (5 : Int) ^ 26 = 1490116119384765625 := by decide
   have h7 : (10 : Int) ^ 18 = 1000000000000000000 := by decide
   omega
 rw [if_neg (by omega)]
 cases hu : upN p.toNat n with
 | none => rfl
 | some m =>
  have hm : 1 ≤ m := by
   obtain ⟨a, _⟩ := upN_some _ _ _ hu
   have : (0 : Int) < 10 ^ p.toNat := one_pow_le (by omega) _
   rw [a]
   exact Int.le_trans h1 (le_mulr (by omega) this)
  simp only
  rw [downN_eq]
  have e1 : (1 : Int) = 2 ^ 0 := rfl
  have e2 := mul2_eq (divN 2 (-p).toNat m).1 0 (by omega)
  rw [Nat.zero_add] at e2
  rw [e1, e2]
  obtain ⟨_, b1, _, _⟩ := divN_spec (y := 2) (by omega) (-p).toNat m hm
  by_cases h62 : 62 < (divN 2 (-p).toNat m).1
  ·rw [if_pos h62, if_pos (.inl h62)]; rfl
  ·rw [if_neg h62]
   simp only [Option.map_some]
   rw [downN_eq]
   by_cases h27 : 27 < (divN 5 (-p).toNat (divN 2 (-p).toNat m).2).1
   ·rw [if_pos (.inr h27), mul5_big h27]
    ·rfl
    ·exact one_pow_le (by omega) _
   ·rw [if_neg (by omega)]
structure Wr where
 below : Bool
 digits : List Int
 behind : Nat
 exp : Int
 whole : Bool
def core (d : List Int) : List Int := (d.reverse.dropWhile (· == 48)).reverse
def turn (below : Bool) (x : Option (Int × Int)) : Int × Int := match x with
 | none => (0, 0)
 | some (n, d) => (if below = true then -n else n, d)
def ratio (w : Wr) : Int × Int :=
 let d := w.digits.dropWhile (· == 48)
 if d = [] then (0, 1) else
 if 18 < (core d).length then (0, 0) else
 turn w.below (scaleR (valN 0 (core d)) (w.exp - w.behind + (d.length - (core d).length)))
structure Nm where
 sg : List Int
 d1 : List Int
 fr : List Int
 ex : List Int
 d3 : List Int
def Nm.text (n : Nm) : List Int := n.sg ++ n.d1 ++ (if n.fr = [] then [] else 46 :: n.fr) ++ n.ex ++ n.d3
def Nm.wr (n : Nm) : Wr := ⟨n.sg == [45], n.d1 ++ n.fr, n.fr.length, if chr n.ex 1 = 45 then - expN 0 n.d3 else expN 0 n.d3, n.fr.isEmpty && n.ex.isEmpty⟩
def Nm.num (n : Nm) : (Int × Int) × Bool := (ratio n.wr, n.wr.whole)
structure Nm.Ok (n : Nm) : Prop where
 sg : n.sg = [] ∨ n.sg = [43] ∨ n.sg = [45]
 d1 : n.d1.all dig = true
 fr : n.fr.all dig = true
 some : n.d1 ++ n.fr ≠ []
 ex : (n.ex = [] ∧ n.d3 = []) ∨ ((∃ e, (e = 101 ∨ e = 69) ∧ (n.ex = [e] ∨ n.ex = [e, 43] ∨ n.ex = [e, 45])) ∧ n.d3 ≠ [])
 d3 : n.d3.all dig = true
def numP (s : List Int) : Nm × List Int :=
 let a := if (chr s 0 == 43 || chr s 0 == 45) = true then s.drop 1 else s
 let b := a.dropWhile dig
 let f := (chr b 0 == 46 && dig (chr b 1))
 let c := if f = true then (b.drop 1).dropWhile dig else b
 let k := if (chr c 1 == 43 || chr c 1 == 45) = true then 2 else 1
 let x := ((chr c 0 == 101 || chr c 0 == 69) && dig (chr c k))
 (⟨if (chr s 0 == 43 || chr s 0 == 45) = true then s.take 1 else [], a.takeWhile dig, if f = true then (b.drop 1).takeWhile dig else [],
  if x = true then c.take k else [], if x = true then (c.drop k).takeWhile dig else []⟩, if x = true then (c.drop k).dropWhile dig else c)
end Go.Lift.Tok
end

section
namespace Go.Lift.Tok
set_option linter.unusedVariables false
open Utf
def lowc (c : Int) : Int := if (decide (65 ≤ c) && decide (c ≤ 90)) = true then c + 32 else c
def isUrl (n : List Int) : Bool := n.map lowc == [117, 114, 108]
def skip2N : Nat → List Int → List Int
 | 0, s => s
 | n + 1, s => if (blk (chr s 0) && blk (chr s 1)) = true then skip2N n (s.drop 1) else s
def skip2 (s : List Int) : List Int := skip2N s.length s
def tk (k : Int) (t : List Int) : Tk := ⟨k, t, (0, 0), false, false⟩
def urlT (x : Bool × List Int × List Int) : Tk := if x.1 = true then tk 7 x.2.1 else tk 8 []
def txtT (x : Bool × List Int × List Int) : Tk := if x.1 = true then tk 5 x.2.1 else tk 6 []
def word (s : List Int) : Tk × List Int :=
 let n := (name s).1
 let r := (name s).2
 if chr r 0 = 40 then
  if isUrl n = true then
   let b := skip2 (r.drop 1)
   if quo (if blk (chr b 0) = true then chr b 1 else chr b 0) = true then (tk 2 n, b) else (urlT (url b), (url b).2.2)
  else (tk 2 n, r.drop 1)
 else (tk 1 n, r)
def figure (s : List Int) : Tk × List Int :=
 let d := (numP s).1.num
 let r := (numP s).2
 if beg (chr r 0) (chr r 1) (chr r 2) = true then (⟨12, (name r).1, d.1, d.2, false⟩, (name r).2)
 else if chr r 0 = 37 then (⟨11, [], d.1, d.2, false⟩, r.drop 1)
 else (⟨10, [], d.1, d.2, false⟩, r)
def plK (c : Int) : Int :=
 if c = 40 then 21 else if c = 41 then 22 else if c = 44 then 18 else if c = 58 then 16 else if c = 59 then 17
 else if c = 91 then 19 else if c = 93 then 20 else if c = 123 then 23 else if c = 125 then 24 else 0
def token (s : List Int) : Tk × List Int :=
 let c := chr s 0
 let d := chr s 1
 let e := chr s 2
 if blk c = true then (tk 13 [], blanks s)
 else if quo c = true then (txtT (txt c (s.drop 1)), (txt c (s.drop 1)).2.2)
 else if 0 < plK c then (tk (plK c) [], s.drop 1)
 else if num c d e = true then figure s
 else if c = 45 ∧ d = 45 ∧ e = 62 then (tk 15 [], s.drop 3)
 else if c = 60 ∧ d = 33 ∧ e = 45 ∧ chr s 3 = 45 then (tk 14 [], s.drop 4)
 else if c = 35 ∧ (ltr d || esc d e) = true then (⟨4, (name (s.drop 1)).1, (0, 0), false, beg d e (chr s 3)⟩, (name (s.drop 1)).2)
 else if c = 64 ∧ beg d e (chr s 3) = true then (tk 3 (name (s.drop 1)).1, (name (s.drop 1)).2)
 else if beg c d e = true then word s
 else (tk 9 [c], s.drop 1)
def toksN : Nat → List Int → List Tk
 | 0, _ => []
 | n + 1, s => if rems s = [] then [] else (token (rems s)).1 :: toksN n (token (rems s)).2
def toks (s : List Int) : List Tk := toksN s.length s
end Go.Lift.Tok
end

section
namespace Go.Lift.Tok
set_option linter.unusedVariables false
set_option linter.unusedSimpArgs false
open Utf
theorem chr_at {s : List Int} {c : Int} (h : chr s 0 = c) (hc : c ≠ -1) : ∃ t, s = c :: t := by
 cases s with
 | nil => simp only [chr, List.getElem?_nil] at h; exact absurd h.symm hc
 | cons x t => simp only [chr, List.getElem?_cons_zero] at h; exact ⟨t, by rw [h]⟩
theorem chr_at1 {s : List Int} (h : dig (chr s 1) = true) : ∃ a b t, s = a :: b :: t ∧ dig b = true := by
 match s with
 | [] => simp [chr, dig] at h
 | [x] => simp [chr, dig] at h
 | a :: b :: t => exact ⟨a, b, t, rfl, by simpa [chr] using h⟩
theorem chr_drop (s : List Int) (n k : Nat) : chr (s.drop n) k = chr s (n + k) := by simp [chr]
theorem tw_dw (p : Int → Bool) (l : List Int) : l.takeWhile p ++ l.dropWhile p = l := List.takeWhile_append_dropWhile
theorem all_tw : ∀ l : List Int, (l.takeWhile dig).all dig = true
 | [] => rfl
 | c :: t => by
  cases hc : dig c with
  | true => rw [List.takeWhile_cons_of_pos hc, List.all_cons, hc, all_tw t]; rfl
  | false => rw [List.takeWhile_cons_of_neg (by simp [hc])]; rfl
theorem all_if {b : Bool} {l : List Int} : (if b = true then l.takeWhile dig else []).all dig = true := by
 cases b with
 | true => exact all_tw l
 | false => rfl
theorem numP_text (s : List Int) : (numP s).1.text ++ (numP s).2 = s := by
 unfold numP Nm.text
 simp only
 generalize hf : (chr ((if (chr s 0 == 43 || chr s 0 == 45) = true then s.drop 1 else s).dropWhile dig) 0 == 46 && dig (chr ((if (chr s 0 == 43 || chr s 0 == 45) = true then s.drop 1 else s).dropWhile dig) 1)) = f
 have hs : (if (chr s 0 == 43 || chr s 0 == 45) = true then s.take 1 else []) ++ (if (chr s 0 == 43 || chr s 0 == 45) = true then s.drop 1 else s) = s := by
  split
  ·exact List.take_append_drop 1 s
  ·rfl
 generalize (if (chr s 0 == 43 || chr s 0 == 45) = true then s.drop 1 else s) = a at *
 generalize (if (chr s 0 == 43 || chr s 0 == 45) = true then s.take 1 else []) = sg at *
 have ha := tw_dw dig a
 generalize a.takeWhile dig = d1 at *
 generalize a.dropWhile dig = b at *
 have hb : (if (if f = true then (b.drop 1).takeWhile dig else []) = [] then [] else 46 :: (if f = true then (b.drop 1).takeWhile dig else [])) ++ (if f = true then (b.drop 1).dropWhile dig else b) = b := by
  cases f with
  | false => simp
  | true =>
   simp only [Bool.and_eq_true, beq_iff_eq] at hf
   obtain ⟨u, hu⟩ := chr_at hf.1 (by decide)
   obtain ⟨x, y, v, hv, hy⟩ := chr_at1 hf.2
   rw [hu] at hv
   cases hv
   rw [hu]
   simp only [List.drop_succ_cons, List.drop_zero, if_true]
   rw [if_neg (by rw [List.takeWhile_cons_of_pos hy]; simp), List.cons_append, tw_dw]
 generalize (if f = true then (b.drop 1).takeWhile dig else []) = fr at *
 generalize (if f = true then (b.drop 1).dropWhile dig else b) = c at *
 generalize (if (chr c 1 == 43 || chr c 1 == 45) = true then 2 else 1) = k at *
 have hc : (if ((chr c 0 == 101 || chr c 0 == 69) && dig (chr c k)) = true then c.take k else []) ++ ((if ((chr c 0 == 101 || chr c 0 == 69) && dig (chr c k)) = true then (c.drop k).takeWhile dig else []) ++ (if ((chr c 0 == 101 || chr c 0 == 69) && dig (chr c k)) = true then (c.drop k).dropWhile dig else c)) = c := by
  split
  ·rw [tw_dw, List.take_append_drop]
  ·rfl
 simp only [List.append_assoc]
 rw [hc, hb, ha, hs]
theorem numP_ok {s : List Int} (hn : num (chr s 0) (chr s 1) (chr s 2) = true) : (numP s).1.Ok := by
 unfold numP
 simp only
 refine ⟨?_, all_tw _, ?_, ?_, ?_, ?_⟩
 ·simp only
  split
  ·rename_i h
   simp only [Bool.or_eq_true, beq_iff_eq] at h
   rcases h with h | h
   ·obtain ⟨t, ht⟩ := chr_at h (by decide)
    right; left; rw [ht]; rfl
   ·obtain ⟨t, ht⟩ := chr_at h (by decide)
    right; right; rw [ht]; rfl
  ·exact .inl rfl
 ·exact all_if
 ·simp only
  unfold num at hn
  by_cases hsg : (chr s 0 == 43 || chr s 0 == 45) = true
  ·rw [if_pos hsg] at hn ⊢
   have e0 : chr (s.drop 1) 0 = chr s 1 := chr_drop s 1 0
   have e1 : chr (s.drop 1) 1 = chr s 2 := chr_drop s 1 1
   rw [← e0, ← e1] at hn
   generalize s.drop 1 = a at *
   rw [Bool.or_eq_true, Bool.and_eq_true, beq_iff_eq] at hn
   intro h0
   rw [List.append_eq_nil_iff] at h0
   obtain ⟨h1, h2⟩ := h0
   cases a with
   | nil => rcases hn with hn | ⟨hn, _⟩ <;> simp [chr, dig] at hn
   | cons c t =>
    have hc0 : dig c = false := by
     cases hc : dig c with
     | true => rw [List.takeWhile_cons_of_pos hc] at h1; cases h1
     | false => rfl
    rw [List.dropWhile_cons_of_neg (by simp [hc0])] at h2
    rcases hn with hn | ⟨hn, hm⟩
    ·have : dig c = true := hn
     rw [hc0] at this; cases this
    ·have hf : (chr (c :: t) 0 == 46 && dig (chr (c :: t) 1)) = true := by simp [hn, hm]
     rw [if_pos hf] at h2
     obtain ⟨x, y, v, hv, hy⟩ := chr_at1 hm
     cases hv
     simp only [List.drop_succ_cons, List.drop_zero] at h2
     rw [List.takeWhile_cons_of_pos hy] at h2
     cases h2
  ·rw [if_neg hsg] at hn ⊢
   rw [Bool.or_eq_true, Bool.and_eq_true, beq_iff_eq] at hn
   intro h0
   rw [List.append_eq_nil_iff] at h0
   obtain ⟨h1, h2⟩ := h0
   cases s with
   | nil => rcases hn with hn | ⟨hn, _⟩ <;> simp [chr, dig] at hn
   | cons c t =>
    have hc0 : dig c = false := by
     cases hc : dig c with
     | true => rw [List.takeWhile_cons_of_pos hc] at h1; cases h1
     | false => rfl
    rw [List.dropWhile_cons_of_neg (by simp [hc0])] at h2
    rcases hn with hn | ⟨hn, hm⟩
    ·have : dig c = true := hn
     rw [hc0] at this; cases this
    ·have hf : (chr (c :: t) 0 == 46 && dig (chr (c :: t) 1)) = true := by simp [hn, hm]
     rw [if_pos hf] at h2
     obtain ⟨x, y, v, hv, hy⟩ := chr_at1 hm
     cases hv
     simp only [List.drop_succ_cons, List.drop_zero] at h2
     rw [List.takeWhile_cons_of_pos hy] at h2
     cases h2
 ·simp only
  generalize (if (chr ((if (chr s 0 == 43 || chr s 0 == 45) = true then s.drop 1 else s).dropWhile dig) 0 == 46 && dig (chr ((if (chr s 0 == 43 || chr s 0 == 45) = true then s.drop 1 else s).dropWhile dig) 1)) = true then (((if (chr s 0 == 43 || chr s 0 == 45) = true then s.drop 1 else s).dropWhile dig).drop 1).dropWhile dig else (if (chr s 0 == 43 || chr s 0 == 45) = true then s.drop 1 else s).dropWhile dig) = c
  by_cases hx : ((chr c 0 == 101 || chr c 0 == 69) && dig (chr c (if (chr c 1 == 43 || chr c 1 == 45) = true then 2 else 1))) = true
  ·rw [if_pos hx, if_pos hx]
   right
   rw [Bool.and_eq_true] at hx
   obtain ⟨he, hd⟩ := hx
   rw [Bool.or_eq_true, beq_iff_eq, beq_iff_eq] at he
   obtain ⟨e, t, hc⟩ : ∃ e t, c = e :: t := by
    cases c with
    | nil => simp [chr] at he
    | cons e t => exact ⟨e, t, rfl⟩
   subst hc
   have he' : e = 101 ∨ e = 69 := by simpa [chr] using he
   by_cases hk : (chr (e :: t) 1 == 43 || chr (e :: t) 1 == 45) = true
   ·rw [if_pos hk]
    rw [if_pos hk] at hd
    rw [Bool.or_eq_true, beq_iff_eq, beq_iff_eq] at hk
    cases t with
    | nil => simp [chr] at hk
    | cons s2 t2 =>
     have hs2 : s2 = 43 ∨ s2 = 45 := by simpa [chr] using hk
     refine ⟨⟨e, he', ?_⟩, ?_⟩
     ·rcases hs2 with rfl | rfl
      ·right; left; rfl
      ·right; right; rfl
     ·simp only [List.drop_succ_cons, List.drop_zero]
      cases t2 with
      | nil => simp [chr, dig] at hd
      | cons y v =>
       have hy : dig y = true := by simpa [chr] using hd
       rw [List.takeWhile_cons_of_pos hy]; simp
   ·rw [if_neg hk]
    rw [if_neg hk] at hd
    refine ⟨⟨e, he', .inl rfl⟩, ?_⟩
    simp only [List.drop_succ_cons, List.drop_zero]
    cases t with
    | nil => simp [chr, dig] at hd
    | cons y v =>
     have hy : dig y = true := by simpa [chr] using hd
     rw [List.takeWhile_cons_of_pos hy]; simp
  ·rw [if_neg hx, if_neg hx]
   exact .inl ⟨rfl, rfl⟩
 ·exact all_if
end Go.Lift.Tok
end

section
namespace Go.Lift.Tok
set_option linter.unusedVariables false
set_option linter.unusedSimpArgs false
open Utf
theorem hexN_le : ∀ (k : Nat) (n : Int) (s : List Int), (hexN k n s).2.length ≤ s.length
 | 0, n, s => Nat.le_refl _
 | k + 1, n, [] => Nat.le_refl _
 | k + 1, n, c :: t => by
  simp only [hexN]
  split
  ·exact Nat.le_refl _
  ·have := hexN_le k (n * 16 + hex c) t
   simp
   omega
theorem one1_le (s : List Int) : (one1 s).length ≤ s.length := by
 cases s with
 | nil => exact Nat.le_refl _
 | cons d u => simp only [one1]; split <;> simp
theorem escd_le (s : List Int) : (escd s).2.length ≤ s.length := by
 cases s with
 | nil => exact Nat.le_refl _
 | cons c t =>
  simp only [escd]
  split
  ·simp
  ·have := one1_le (hexN 6 0 (c :: t)).2
   have := hexN_le 6 0 (c :: t)
   simp only at *
   omega
theorem nameN_le : ∀ (n : Nat) (s : List Int), (nameN n s).2.length ≤ s.length
 | 0, s => Nat.le_refl _
 | n + 1, [] => Nat.le_refl _
 | n + 1, c :: t => by
  simp only [nameN]
  split
  ·have := nameN_le n t
   simp
   omega
  ·split
   ·have := nameN_le n (escd t).2
    have := escd_le t
    simp
    omega
   ·simp
theorem name_le (s : List Int) : (name s).2.length ≤ s.length := nameN_le _ _
theorem name_lt {c : Int} {t : List Int} (h : (ltr c || esc c (chr t 0)) = true) : (name (c :: t)).2.length ≤ t.length := by
 unfold name
 simp only [List.length_cons, nameN]
 split
 ·exact nameN_le _ _
 ·rename_i h2
  rw [if_pos (by simpa [h2] using h)]
  exact Nat.le_trans (nameN_le _ _) (escd_le t)
theorem txtN_le (sign : Int) : ∀ (n : Nat) (s : List Int), (txtN sign n s).2.2.length ≤ s.length
 | 0, s => Nat.le_refl _
 | n + 1, [] => Nat.le_refl _
 | n + 1, c :: t => by
  simp only [txtN]
  split
  ·exact Nat.le_refl _
  ·split
   ·simp
   ·split
    ·cases t with
     | nil => simp
     | cons d u =>
      simp only
      split
      ·have := txtN_le sign n u
       simp
       omega
      ·have := txtN_le sign n (escd (d :: u)).2
       have := escd_le (d :: u)
       simp at *
       omega
    ·have := txtN_le sign n t
     simp
     omega
theorem badN_le : ∀ (n : Nat) (s : List Int), (badN n s).length ≤ s.length
 | 0, s => Nat.le_refl _
 | n + 1, [] => Nat.le_refl _
 | n + 1, c :: t => by
  simp only [badN]
  split
  ·simp
  ·split
   ·have := badN_le n (escd t).2
    have := escd_le t
    simp
    omega
   ·have := badN_le n t
    simp
    omega
theorem blanks_le (s : List Int) : (blanks s).length ≤ s.length := (List.dropWhile_sublist _).length_le
theorem urlN_le : ∀ (n : Nat) (s : List Int), (urlN n s).2.2.length ≤ s.length
 | 0, s => Nat.le_refl _
 | n + 1, [] => Nat.le_refl _
 | n + 1, c :: t => by
  simp only [urlN]
  split
  ·simp
  ·split
   ·have := blanks_le t
    split
    ·simp
     omega
    ·have := badN_le (blanks t).length (blanks t)
     simp [badu]
     omega
   ·split
    ·exact badN_le _ _
    ·split
     ·split
      ·have := urlN_le n (escd t).2
       have := escd_le t
       simp
       omega
      ·exact badN_le _ _
     ·have := urlN_le n t
      simp
      omega
theorem url_le (s : List Int) : (url s).2.2.length ≤ s.length := Nat.le_trans (urlN_le _ _) (blanks_le s)
theorem skip2N_le : ∀ (n : Nat) (s : List Int), (skip2N n s).length ≤ s.length
 | 0, s => Nat.le_refl _
 | n + 1, s => by
  simp only [skip2N]
  split
  ·have := skip2N_le n (s.drop 1)
   simp at *
   omega
  ·exact Nat.le_refl _
theorem skip2_le (s : List Int) : (skip2 s).length ≤ s.length := skip2N_le _ _
theorem skipR_le : ∀ s : List Int, (skipR s).length ≤ s.length
 | [] => Nat.le_refl _
 | [_] => by simp [skipR]
 | c :: d :: t => by
  simp only [skipR]
  split
  ·simp; omega
  ·have := skipR_le (d :: t)
   simp at *
   omega
theorem remN_le : ∀ (n : Nat) (s : List Int), (remN n s).length ≤ s.length
 | 0, s => Nat.le_refl _
 | n + 1, [] => Nat.le_refl _
 | n + 1, [_] => Nat.le_refl _
 | n + 1, c :: d :: t => by
  simp only [remN]
  split
  ·have := remN_le n (skipR t)
   have := skipR_le t
   simp
   omega
  ·exact Nat.le_refl _
theorem rems_le (s : List Int) : (rems s).length ≤ s.length := remN_le _ _
theorem beg_ltr {c d e : Int} (h : beg c d e = true) : (ltr c || esc c d) = true := by
 unfold beg at h
 split at h
 ·rename_i h45
  simp only [beq_iff_eq] at h45
  subst h45
  rfl
 ·rw [Bool.or_eq_true] at h
  rcases h with h | h
  ·unfold ltr; simp [h]
  ·simp [h]
theorem word_lt {c : Int} {t : List Int} (h : beg c (chr t 0) (chr t 1) = true) : (word (c :: t)).2.length ≤ t.length := by
 have h1 := name_lt (beg_ltr h)
 unfold word
 simp only
 split
 ·split
  ·have h2 := skip2_le ((name (c :: t)).2.drop 1)
   rw [List.length_drop] at h2
   have h3 := url_le (skip2 ((name (c :: t)).2.drop 1))
   have key : ∀ b : Bool, (if b = true then (tk 2 (name (c :: t)).1, skip2 ((name (c :: t)).2.drop 1)) else (urlT (url (skip2 ((name (c :: t)).2.drop 1))), (url (skip2 ((name (c :: t)).2.drop 1))).2.2)).2.length ≤ t.length := by
    intro b
    cases b with
    | true => rw [if_pos rfl]; show (skip2 ((name (c :: t)).2.drop 1)).length ≤ _; omega
    | false => rw [if_neg (by simp)]; show (url (skip2 ((name (c :: t)).2.drop 1))).2.2.length ≤ _; omega
   exact key _
  ·simp
   omega
 ·exact h1
theorem figure_lt {c : Int} {t : List Int} (h : num c (chr t 0) (chr t 1) = true) : (figure (c :: t)).2.length ≤ t.length := by
 have h0 : num (chr (c :: t) 0) (chr (c :: t) 1) (chr (c :: t) 2) = true := by
  have e1 : chr (c :: t) 1 = chr t 0 := by simp [chr]
  have e2 : chr (c :: t) 2 = chr t 1 := by simp [chr]
  rw [e1, e2]; exact h
 have hok := numP_ok h0
 have ht := congrArg List.length (numP_text (c :: t))
 rw [List.length_append, List.length_cons] at ht
 have hpos : 0 < (numP (c :: t)).1.text.length := by
  have := hok.some
  rcases Nat.eq_zero_or_pos (numP (c :: t)).1.text.length with h2 | h2
  ·exfalso
   have h3 := List.eq_nil_of_length_eq_zero h2
   unfold Nm.text at h3
   simp only [List.append_eq_nil_iff] at h3
   have h4 : (numP (c :: t)).1.fr = [] := by
    have := h3.1.1.2
    split at this
    ·assumption
    ·cases this
   exact this (by rw [h3.1.1.1.2, h4]; rfl)
  ·exact h2
 unfold figure
 simp only
 split
 ·have := name_le (numP (c :: t)).2
  simp only
  omega
 ·split
  ·simp
   omega
  ·simp only
   omega
theorem token_lt {s : List Int} (h : s ≠ []) : (token s).2.length < s.length := by
 obtain ⟨c, t, rfl⟩ : ∃ c t, s = c :: t := by
  cases s with
  | nil => exact absurd rfl h
  | cons c t => exact ⟨c, t, rfl⟩
 have e0 : chr (c :: t) 0 = c := rfl
 have e1 : chr (c :: t) 1 = chr t 0 := by simp [chr]
 have e2 : chr (c :: t) 2 = chr t 1 := by simp [chr]
 have e3 : chr (c :: t) 3 = chr t 2 := by simp [chr]
 unfold token
 simp only [e0, e1, e2, e3, List.length_cons, List.drop_succ_cons, List.drop_zero]
 split
 ·rename_i hb
  have : (blanks (c :: t)).length ≤ t.length := by
   unfold blanks
   rw [List.dropWhile_cons_of_pos hb]
   exact (List.dropWhile_sublist _).length_le
  simp only
  omega
 ·split
  ·have := txtN_le c t.length t
   unfold txt
   simp only
   omega
  ·split
   ·simp
   ·split
    ·rename_i hn
     have := figure_lt hn
     omega
    ·split
     ·simp; omega
     ·split
      ·simp; omega
      ·split
       ·have := name_le t
        simp only
        omega
       ·split
        ·have := name_le t
         simp only
         omega
        ·split
         ·rename_i hb
          have := word_lt hb
          omega
         ·simp
end Go.Lift.Tok
end

section
namespace Go.Lift.Spell
set_option linter.unusedVariables false
set_option linter.unusedSimpArgs false
open Utf Tok
def big : Int := 1000000000000000000
def upM (x : Int) : Nat → Int → Option Int
 | 0, m => some m
 | k + 1, m => if big < m then none else upM x k (m * x)
def fv : Nat → Int → Nat × Int
 | 0, d => (0, d)
 | k + 1, d => if d % 5 = 0 then ((fv k (d / 5)).1 + 1, (fv k (d / 5)).2) else (0, d)
def progN (n d : Int) : Option (Int × Nat) :=
 let a := Go.Lib.ctz 64 d.toNat
 let b := (fv 64 (d / 2 ^ a)).1
 if (fv 64 (d / 2 ^ a)).2 = 1 then ((upM 2 (max a b - a) n).bind (upM 5 (max a b - b))).map fun m => (m, max a b) else none
theorem pow_pos {x : Int} (hx : 0 < x) (k : Nat) : 0 < x ^ k := by
 induction k with
 | zero => simp
 | succ k ih => rw [Int.pow_succ]; exact Int.mul_pos ih hx
theorem fv_spec : ∀ (k : Nat) (d : Int), 1 ≤ d → d < 5 ^ k → d = 5 ^ (fv k d).1 * (fv k d).2 ∧ (fv k d).2 % 5 ≠ 0 ∧ 1 ≤ (fv k d).2
 | 0, d, h1, h2 => by simp at h2; omega
 | k + 1, d, h1, h2 => by
  simp only [fv]
  split
  ·rename_i h
   obtain ⟨a, b, c⟩ := fv_spec k (d / 5) (by omega) (by rw [Int.pow_succ] at h2; omega)
   refine ⟨?_, b, c⟩
   have e : d = d / 5 * 5 := by omega
   rw [Int.pow_succ, Int.mul_assoc, Int.mul_comm 5, ← Int.mul_assoc, ← a]
   exact e
  ·rename_i h
   exact ⟨by simp, h, h1⟩
theorem fv_pow : ∀ (k b : Nat), b < k → fv k (5 ^ b) = (b, 1)
 | 0, b, h => by omega
 | k + 1, 0, h => by
  have e : ((5 : Int) ^ 0) = 1 := by simp
  simp only [fv, e]
  rw [if_neg (by decide)]
 | k + 1, b + 1, h => by
  have e : (5 : Int) ^ (b + 1) = 5 ^ b * 5 := Int.pow_succ 5 b
  have e1 : (5 : Int) ^ (b + 1) % 5 = 0 := by rw [e]; omega
  have e2 : (5 : Int) ^ (b + 1) / 5 = 5 ^ b := by rw [e]; omega
  simp only [fv]
  rw [if_pos e1, e2, fv_pow k b (by omega)]
theorem pow5_mod (b : Nat) : ((5 : Int) ^ b) % 2 = 1 := by
 induction b with
 | zero => simp
 | succ b ih => rw [Int.pow_succ]; omega
theorem pow2_mod (a : Nat) : ((2 : Int) ^ a) % 5 ≠ 0 := by
 induction a with
 | zero => simp
 | succ a ih => rw [Int.pow_succ]; omega
def sureR (n d : Int) : Bool := decide (1 ≤ d) && n != -9223372036854775808 && Nat.gcd n.natAbs d.toNat == 1
def mayR (n d : Int) : Bool := (n == 0 && d == 0) || sureR n d
def dgt (m : Int) : List Int := (Go.Lib.decDigits m.toNat).map fun c => (c.toNat : Int)
def numText (below whole : Bool) (m : Int) (p : Nat) : Option (List Int) :=
 if 18 < (core (dgt m)).length then none else
 let t := List.replicate (p + 1 - (dgt m).length) 48 ++ dgt m
 some ((if below = true then [45] else []) ++ (t.take (t.length - p) ++ (if whole = true then [] else 46 :: (t.drop (t.length - p) ++ if p = 0 then [48] else []))))
def plainT (n d : Int) (whole : Bool) : Option (List Int) :=
 if (!(mayR n d) || whole && decide (1 < d)) = true then none
 else if d = 0 then some (if whole = true then List.replicate 20 57 else [49, 101, 57, 57])
 else match progN n.natAbs d with
  | none => none
  | some (m, p) => numText (decide (n < 0)) whole m p
end Go.Lift.Spell
end

section
namespace Go.Lift.Spell
set_option linter.unusedVariables false
set_option linter.unusedSimpArgs false
open Utf Tok
def sound (b : List Int) : Bool := whole b && !b.contains 0
def signs : List Int := [35, 36, 37, 38, 42, 43, 45, 46, 47, 60, 61, 62, 63, 64, 92, 94, 96, 124, 126, 33]
def signT (b : List Int) : Bool := match b with
 | [c] => signs.contains c || (decide (1 ≤ c) && decide (c ≤ 8) || c == 11 || decide (14 ≤ c) && decide (c ≤ 31) || c == 127)
 | _ => false
def looseT (l : List Int) : Bool := match l with
 | [] => false
 | x :: t => dig x || x == 45 && (match t with
  | [] => true
  | y :: _ => dig y)
theorem enc_low {x : Int} (h : x < 128) : enc x = [x] := by unfold enc; rw [if_pos h]
theorem enc_high {x : Int} (h0 : 128 ≤ x) (h1 : x ≤ 1114111) : ∃ c t, enc x = c :: t ∧ t ≠ [] ∧ ∀ y ∈ enc x, 128 ≤ y := by
 unfold enc
 rw [if_neg (by omega)]
 split
 ·exact ⟨_, _, rfl, by simp, by intro y hy; simp at hy; omega⟩
 ·split
  ·exact ⟨_, _, rfl, by simp, by intro y hy; simp at hy; omega⟩
  ·exact ⟨_, _, rfl, by simp, by intro y hy; simp at hy; omega⟩
theorem zero_encs : ∀ l : List Int, (∀ x ∈ l, scal x = x) → (encs l).contains 0 = l.contains 0
 | [], _ => rfl
 | x :: l, h => by
  have ih := zero_encs l fun y hy => h y (by simp [hy])
  have hs := h x (by simp)
  have hb := scal_in x
  rw [hs] at hb
  rw [encs_cons, hs, Bool.eq_iff_iff]
  rw [Bool.eq_iff_iff] at ih
  simp only [List.contains_iff_mem, List.mem_append, List.mem_cons] at ih ⊢
  rw [ih]
  by_cases h1 : x < 128
  ·rw [enc_low h1]; simp
  ·obtain ⟨c, t, e, _, hh⟩ := enc_high (by omega) hb.2
   constructor
   ·rintro (h0 | h0)
    ·have := hh 0 h0; omega
    ·exact .inr h0
   ·rintro (h0 | h0)
    ·omega
    ·exact .inr h0
theorem zero_raw {b : List Int} (hy : By b) (hw : whole b = true) : (raw b).contains 0 = b.contains 0 := by
 have h := zero_encs (raw b) (raw_scal b hy)
 rw [encs_raw b hy hw] at h
 exact h.symm
theorem dig_high {x : Int} (h : 128 ≤ x) : dig x = false := by simp [dig]; omega
theorem loose_encs (l : List Int) (h : ∀ x ∈ l, scal x = x) : looseT (encs l) = looseT l := by
 cases l with
 | nil => rfl
 | cons x t =>
  have hs := h x (by simp)
  have hb := scal_in x
  rw [hs] at hb
  rw [encs_cons, hs]
  by_cases h1 : x < 128
  ·rw [enc_low h1]
   simp only [List.cons_append, List.nil_append, looseT]
   congr 2
   cases t with
   | nil => rfl
   | cons y u =>
    have hs2 := h y (by simp)
    have hb2 := scal_in y
    rw [hs2] at hb2
    rw [encs_cons, hs2]
    by_cases h2 : y < 128
    ·rw [enc_low h2]; rfl
    ·obtain ⟨c, v, e, _, hh⟩ := enc_high (by omega) hb2.2
     rw [e]
     simp only [List.cons_append]
     rw [dig_high (hh c (by rw [e]; simp)), dig_high (x := y) (by omega)]
  ·obtain ⟨c, v, e, _, hh⟩ := enc_high (by omega) hb.2
   have hc := hh c (by rw [e]; simp)
   rw [e]
   simp only [List.cons_append, looseT]
   have e1 : (x == 45) = false := by simp; omega
   have e2 : (c == 45) = false := by simp; omega
   rw [dig_high hc, dig_high (x := x) (by omega), e1, e2]
   rfl
end Go.Lift.Spell
end

section
namespace Go.Lift.Spell
set_option linter.unusedVariables false
set_option linter.unusedSimpArgs false
open Utf Tok
def hexD (n : Int) : Int := if n < 10 then 48 + n else 87 + n
def hexS : List Int := [48, 49, 50, 51, 52, 53, 54, 55, 56, 57, 97, 98, 99, 100, 101, 102]
theorem hexS_at {n : Int} (h0 : 0 ≤ n) (h1 : n < 16) : hexS[n.toNat]? = some (hexD n) := by
 obtain ⟨k, rfl⟩ : ∃ k : Nat, n = k := ⟨n.toNat, by omega⟩
 have hk : k < 16 := by omega
 have : ∀ k : Fin 16, hexS[((k.val : Nat) : Int).toNat]? = some (hexD (k.val : Int)) := by decide
 exact this ⟨k, hk⟩
theorem hexD_by {n : Int} (h0 : 0 ≤ n) (h1 : n < 16) : 48 ≤ hexD n ∧ hexD n ≤ 102 := by
 unfold hexD
 split <;> omega
def rdN : Nat → Int → List Int
 | 0, _ => []
 | k + 1, r => if r ≤ 0 then [] else hexD (r % 16) :: rdN k (r / 16)
theorem rdN_len : ∀ (k : Nat) (r : Int), (rdN k r).length ≤ k
 | 0, _ => Nat.le_refl _
 | k + 1, r => by
  simp only [rdN]
  split
  ·simp
  ·have := rdN_len k (r / 16)
   simp
   omega
theorem rdN_by : ∀ (k : Nat) (r : Int), By (rdN k r)
 | 0, _ => fun c hc => by cases hc
 | k + 1, r => by
  simp only [rdN]
  split
  ·exact fun c hc => by cases hc
  ·intro c hc
   rcases List.mem_cons.1 hc with rfl | hc
   ·have := hexD_by (n := r % 16) (by omega) (by omega); omega
   ·exact rdN_by k _ c hc
def codeT (r : Int) : List Int := 92 :: ((rdN 8 r).reverse ++ [32])
theorem codeT_by (r : Int) : By (codeT r) := fun c hc => by
 unfold codeT at hc
 simp only [List.mem_cons, List.mem_append, List.mem_reverse, List.not_mem_nil, or_false] at hc
 rcases hc with rfl | hc | rfl
 ·omega
 ·exact rdN_by 8 r c hc
 ·omega
theorem codeT_len (r : Int) : (codeT r).length ≤ 10 := by
 unfold codeT
 have := rdN_len 8 r
 simp
 omega
def hidT (x : Int) : Bool := decide (1 ≤ x) && decide (x ≤ 31) || x == 127 || x == 65279
def nameT : List Int → List Int
 | [] => []
 | x :: l => (if hidT x = true then codeT x else if ltr x = true then enc (scal x) else 92 :: enc (scal x)) ++ nameT l
theorem enc_len (x : Int) : 1 ≤ (enc x).length ∧ (enc x).length ≤ 4 := by
 unfold enc
 split
 ·simp
 ·split
  ·simp
  ·split <;> simp
def nameC (x : Int) : List Int := if hidT x = true then codeT x else if ltr x = true then enc (scal x) else 92 :: enc (scal x)
theorem nameT_cons (x : Int) (l : List Int) : nameT (x :: l) = nameC x ++ nameT l := rfl
theorem nameC_len (x : Int) : (nameC x).length ≤ 10 := by
 unfold nameC
 have := enc_len (scal x)
 split
 ·exact codeT_len x
 ·split
  ·omega
  ·simp; omega
theorem nameC_by (x : Int) : By (nameC x) := by
 have hs := scal_in x
 have hb := enc_by (scal x) hs.1 hs.2
 unfold nameC
 split
 ·exact codeT_by x
 ·split
  ·exact hb
  ·intro c hc
   rcases List.mem_cons.1 hc with rfl | hc
   ·omega
   ·exact hb c hc
theorem nameT_len : ∀ l : List Int, (nameT l).length ≤ 10 * l.length
 | [] => by simp [nameT]
 | x :: l => by
  rw [nameT_cons, List.length_append, List.length_cons]
  have := nameC_len x
  have := nameT_len l
  omega
theorem nameT_by : ∀ l : List Int, By (nameT l)
 | [] => fun c hc => by cases hc
 | x :: l => by
  rw [nameT_cons]
  intro c hc
  rcases List.mem_append.1 hc with h | h
  ·exact nameC_by x c h
  ·exact nameT_by l c h
def identT (l : List Int) : List Int :=
 if l = [45] then [92, 45] else match l with
 | [] => []
 | x :: t => if dig x = true then codeT x ++ nameT t else match t with
  | [] => nameT [x]
  | y :: u => if x = 45 ∧ dig y = true then 45 :: (codeT y ++ nameT u) else nameT (x :: y :: u)
theorem encs_one {l : List Int} (hs : ∀ x ∈ l, scal x = x) : encs l = [45] ↔ l = [45] := by
 constructor
 ·intro h
  have h1 := (raw_encs l).1
  rw [h] at h1
  have h2 : l.map scal = l := by
   conv => rhs; rw [← List.map_id l]
   exact List.map_congr_left fun x hx => hs x hx
  rw [h2] at h1
  rw [← h1]
  decide
 ·rintro rfl
  decide
theorem charsOk {l : List Int} (hs : ∀ x ∈ l, scal x = x) : raw (encs l) = l := by
 rw [(raw_encs l).1]
 conv => rhs; rw [← List.map_id l]
 exact List.map_congr_left fun x hx => hs x hx
end Go.Lift.Spell
end
