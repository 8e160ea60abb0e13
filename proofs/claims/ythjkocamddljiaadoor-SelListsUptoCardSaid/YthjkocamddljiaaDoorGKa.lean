/- Characters to bytes: the arithmetic. -/
import Derived.Test.YthjkocamddljiaaDoorGLd
set_option linter.unusedVariables false
set_option linter.unusedSimpArgs false
set_option linter.unusedSectionVars false
section
namespace Go.Lift.Utf
def scal (x : Int) : Int := if (decide (x < 0) || decide (1114111 < x) || decide (55296 <= x) && decide (x <= 57343)) = true then 65533 else x
def enc (y : Int) : List Int :=
 if y < 128 then [y] else if y < 2048 then [192 + y / 64, 128 + y % 64] else if y < 65536 then [224 + y / 4096, 128 + y / 64 % 64, 128 + y % 64]
 else [240 + y / 262144, 128 + y / 4096 % 64, 128 + y / 64 % 64, 128 + y % 64]
end Go.Lift.Utf
end

section
namespace Go.Lift.Utf
def nd (c : Int) : Nat × Int × Int :=
 if 194 <= c /\ c <= 223 then (1, 128, 191)
 else if c = 224 then (2, 160, 191)
 else if c = 237 then (2, 128, 159)
 else if 225 <= c /\ c <= 239 then (2, 128, 191)
 else if c = 240 then (3, 144, 191)
 else if 241 <= c /\ c <= 243 then (3, 128, 191)
 else if c = 244 then (3, 128, 143)
 else (0, 0, 0)
def more : Nat -> Int -> Int -> Int -> Nat -> List Int -> Int × Nat × Bool
 | 0, r, _, _, k, _ => (r, k, true)
 | _ + 1, _, _, _, k, [] => (65533, k, false)
 | n + 1, r, lo, hi, k, c :: t => if c < lo \/ hi < c then (65533, k, false) else more n (r * 64 + c % 64) 128 191 (k + 1) t
def one : List Int -> Int × Nat × Bool
 | [] => (65533, 1, false)
 | c :: t => if c < 128 then (c, 1, true) else if (nd c).1 = 0 then (65533, 1, false) else more (nd c).1 (c % 2 ^ (6 - (nd c).1)) (nd c).2.1 (nd c).2.2 1 t
abbrev By (b : List Int) : Prop := ∀ c ∈ b, 0 <= c /\ c <= 255
theorem or64 {r y : Int} (h0 : 0 <= r) (h1 : r <= 1000000) (h2 : 0 <= y) (h3 : y < 64) : (ior .i32 (r * 64) y) = r * 64 + y := by
 obtain ⟨m, rfl⟩ : ∃ m : Nat, r = m := ⟨r.toNat, by omega⟩
 obtain ⟨z, rfl⟩ : ∃ z : Nat, y = z := ⟨y.toNat, by omega⟩
 show ((BitVec.ofInt 32 ((m : Int) * 64) ||| BitVec.ofInt 32 (z : Int)).toNat : Int) = _
 rw [BitVec.toNat_or]
 have e1 : (BitVec.ofInt 32 ((m : Int) * 64)).toNat = m <<< 6 := by
  rw [BitVec.toNat_ofInt, Nat.shiftLeft_eq]
  omega
 have e2 : (BitVec.ofInt 32 (z : Int)).toNat = z := by
  rw [BitVec.toNat_ofInt]
  omega
 rw [e1, e2, <- Nat.shiftLeft_add_eq_or_of_lt (by omega), Nat.shiftLeft_eq]
 omega
theorem and8 {y : Int} {k : Nat} (hk : k <= 7) (h0 : 0 <= y) (h1 : y <= 255) : iand .u8 y (2 ^ k - 1) = y % 2 ^ k := by
 obtain ⟨z, rfl⟩ : ∃ z : Nat, y = z := ⟨y.toNat, by omega⟩
 show ((BitVec.ofInt 8 (z : Int) &&& BitVec.ofInt 8 ((2 : Int) ^ k - 1)).toNat : Int) = _
 rw [BitVec.toNat_and]
 have e1 : (BitVec.ofInt 8 (z : Int)).toNat = z := by
  rw [BitVec.toNat_ofInt]
  omega
 have hp : 2 ^ k <= 128 := by
  have : 2 ^ k <= 2 ^ 7 := Nat.pow_le_pow_right (by omega) hk
  omega
 have hq : 1 <= 2 ^ k := Nat.one_le_two_pow
 have e2 : (BitVec.ofInt 8 ((2 : Int) ^ k - 1)).toNat = 2 ^ k - 1 := by
  have e3 : (2 : Int) ^ k = ((2 ^ k : Nat) : Int) := by simp
  rw [BitVec.toNat_ofInt, e3]
  omega
 rw [e1, e2, Nat.and_two_pow_sub_one_eq_mod]
 simp
theorem and32 {y : Int} {k : Nat} (hk : k <= 7) (h0 : 0 <= y) (h1 : y <= 2147483647) : iand .i32 y (2 ^ k - 1) = y % 2 ^ k := by
 obtain ⟨z, rfl⟩ : ∃ z : Nat, y = z := ⟨y.toNat, by omega⟩
 show ((BitVec.ofInt 32 (z : Int) &&& BitVec.ofInt 32 ((2 : Int) ^ k - 1)).toNat : Int) = _
 rw [BitVec.toNat_and]
 have e1 : (BitVec.ofInt 32 (z : Int)).toNat = z := by
  rw [BitVec.toNat_ofInt]
  omega
 have hp : 2 ^ k <= 128 := by
  have : 2 ^ k <= 2 ^ 7 := Nat.pow_le_pow_right (by omega) hk
  omega
 have hq : 1 <= 2 ^ k := Nat.one_le_two_pow
 have e2 : (BitVec.ofInt 32 ((2 : Int) ^ k - 1)).toNat = 2 ^ k - 1 := by
  have e3 : (2 : Int) ^ k = ((2 ^ k : Nat) : Int) := by simp
  rw [BitVec.toNat_ofInt, e3]
  omega
 rw [e1, e2, Nat.and_two_pow_sub_one_eq_mod]
 simp
section
variable {y : Int} (h0 : 0 <= y) (h1 : y <= 255)
include h0 h1
theorem a63 : iand .u8 y 63 = y % 64 := and8 (k := 6) (by omega) h0 h1
theorem a31 : iand .u8 y 31 = y % 32 := and8 (k := 5) (by omega) h0 h1
theorem a15 : iand .u8 y 15 = y % 16 := and8 (k := 4) (by omega) h0 h1
theorem a7 : iand .u8 y 7 = y % 8 := and8 (k := 3) (by omega) h0 h1
theorem c63 : iand .i32 y 63 = y % 64 := and32 (k := 6) (by omega) h0 (by omega)
theorem c31 : iand .i32 y 31 = y % 32 := and32 (k := 5) (by omega) h0 (by omega)
theorem c15 : iand .i32 y 15 = y % 16 := and32 (k := 4) (by omega) h0 (by omega)
theorem c7 : iand .i32 y 7 = y % 8 := and32 (k := 3) (by omega) h0 (by omega)
end
def wholeN : Nat -> List Int -> Bool
 | 0, _ => true
 | _ + 1, [] => true
 | n + 1, c :: t => (one (c :: t)).2.2 && wholeN n ((c :: t).drop (one (c :: t)).2.1)
def whole (b : List Int) : Bool := wholeN b.length b
theorem more_k : ∀ (n : Nat) (r lo hi : Int) (k : Nat) (t : List Int), k <= (more n r lo hi k t).2.1 /\ (more n r lo hi k t).2.1 <= k + n /\ (more n r lo hi k t).2.1 <= k + t.length
 | 0, _, _, _, _, _ => by simp [more]
 | n + 1, _, _, _, _, [] => by simp [more]
 | n + 1, r, lo, hi, k, c :: t => by
  unfold more
  split
  ·simp
  ·have := more_k n (r * 64 + c % 64) 128 191 (k + 1) t
   simp only [List.length_cons]
   omega
theorem nd_le (c : Int) : (nd c).1 <= 3 := by
 unfold nd
 repeat' split
 all_goals simp
theorem one_k (c : Int) (t : List Int) : 1 <= (one (c :: t)).2.1 /\ (one (c :: t)).2.1 <= 4 /\ (one (c :: t)).2.1 <= (c :: t).length := by
 simp only [one]
 split
 ·simp
 ·split
  ·simp
  ·have := more_k (nd c).1 (c % 2 ^ (6 - (nd c).1)) (nd c).2.1 (nd c).2.2 1 t
   have := nd_le c
   simp only [List.length_cons]
   omega
theorem wholeN_more : ∀ (n m : Nat) (b : List Int), b.length <= n -> b.length <= m -> wholeN n b = wholeN m b
 | 0, 0, _, _, _ => rfl
 | 0, m + 1, [], _, _ => rfl
 | n + 1, 0, [], _, _ => rfl
 | n + 1, m + 1, [], _, _ => rfl
 | n + 1, m + 1, c :: t, h1, h2 => by
  have := one_k c t
  simp only [wholeN]
  rw [wholeN_more n m _ (by rw [List.length_drop]; omega) (by rw [List.length_drop]; omega)]
theorem whole_nil : whole [] = true := rfl
theorem whole_cons (c : Int) (t : List Int) : whole (c :: t) = ((one (c :: t)).2.2 && whole ((c :: t).drop (one (c :: t)).2.1)) := by
 have := one_k c t
 show ((one (c :: t)).2.2 && wholeN t.length ((c :: t).drop (one (c :: t)).2.1)) = _
 rw [whole, wholeN_more _ _ _ (by rw [List.length_drop, List.length_cons]; omega) (Nat.le_refl _)]
theorem By.drop {b : List Int} (h : By b) (n : Nat) : By (b.drop n) := fun c hc => h c (List.mem_of_mem_drop hc)
theorem shl6 {r : Int} (h0 : 0 <= r) (h1 : r <= 1000000) : IntKind.i32.wrap (ishl .i32 r 6) = r * 64 := wrap_i32 (by show _ <= r * 64; omega) (by show r * 64 <= _; omega)
end Go.Lift.Utf
end

section
namespace Go.Lift.Utf
theorem nd_cases {c : Int} (h : (nd c).1 ≠ 0) : ((nd c).1 = 1 /\ 194 <= c /\ c <= 223 /\ (nd c).2 = (128, 191)) \/
  ((nd c).1 = 2 /\ 224 <= c /\ c <= 239 /\ 128 <= (nd c).2.1 /\ (nd c).2.2 <= 191 /\ (c = 224 -> 160 <= (nd c).2.1) /\ (c = 237 -> (nd c).2.2 <= 159) /\ (c ≠ 224 -> (nd c).2.1 = 128) /\ (c ≠ 237 -> (nd c).2.2 = 191) /\ (c = 224 -> (nd c).2.1 = 160) /\ (c = 237 -> (nd c).2.2 = 159)) \/
  ((nd c).1 = 3 /\ 240 <= c /\ c <= 244 /\ 128 <= (nd c).2.1 /\ (nd c).2.2 <= 191 /\ (c = 240 -> (nd c).2.1 = 144) /\ (c = 244 -> (nd c).2.2 = 143) /\ (c ≠ 240 -> (nd c).2.1 = 128) /\ (c ≠ 244 -> (nd c).2.2 = 191)) := by
 unfold nd at h ⊢
 repeat' split
 all_goals simp_all
 all_goals omega
theorem one_ok {b : List Int} (h : (one b).2.2 = true) (hn : b ≠ []) : ∃ x k, one b = (x, k, true) /\ (
  (∃ t, b = x :: t /\ k = 1 /\ x < 128) \/
  (∃ c d t, b = c :: d :: t /\ k = 2 /\ 194 <= c /\ c <= 223 /\ 128 <= d /\ d <= 191 /\ x = c % 32 * 64 + d % 64) \/
  (∃ c d e t, b = c :: d :: e :: t /\ k = 3 /\ 224 <= c /\ c <= 239 /\ 128 <= d /\ d <= 191 /\ 128 <= e /\ e <= 191 /\ (c = 224 -> 160 <= d) /\ (c = 237 -> d <= 159) /\ x = (c % 16 * 64 + d % 64) * 64 + e % 64) \/
  (∃ c d e f t, b = c :: d :: e :: f :: t /\ k = 4 /\ 240 <= c /\ c <= 244 /\ 128 <= d /\ d <= 191 /\ 128 <= e /\ e <= 191 /\ 128 <= f /\ f <= 191 /\ (c = 240 -> 144 <= d) /\ (c = 244 -> d <= 143) /\ x = ((c % 8 * 64 + d % 64) * 64 + e % 64) * 64 + f % 64)) := by
 match b, hn with
 | c :: t, _ =>
  simp only [one] at h ⊢
  by_cases h0 : c < 128
  ·rw [if_pos h0]
   exact ⟨c, 1, rfl, .inl ⟨t, rfl, rfl, h0⟩⟩
  rw [if_neg h0] at h ⊢
  by_cases hz : (nd c).1 = 0
  ·rw [if_pos hz] at h; simp at h
  rw [if_neg hz] at h ⊢
  rcases nd_cases hz with ⟨e1, h1, h2, e2⟩ | ⟨e1, h1, h2, h3, h4, h5, h6, _⟩ | ⟨e1, h1, h2, h3, h4, h5, h6, _⟩
  ·rw [e1, e2] at h ⊢
   match t, h with
   | [], h => simp [more] at h
   | d :: t, h =>
    simp only [more] at h ⊢
    split at h
    ·simp at h
    ·rename_i hd
     rw [if_neg hd]
     exact ⟨_, _, rfl, .inr (.inl ⟨c, d, t, rfl, rfl, h1, h2, by omega, by omega, rfl⟩)⟩
  ·rw [e1] at h ⊢
   match t, h with
   | [], h => simp [more] at h
   | [d], h => simp only [more] at h; split at h <;> simp at h
   | d :: e :: t, h =>
    simp only [more] at h ⊢
    split at h
    ·simp at h
    ·rename_i hd
     rw [if_neg hd]
     split at h
     ·simp at h
     ·rename_i he
      rw [if_neg he]
      exact ⟨_, _, rfl, .inr (.inr (.inl ⟨c, d, e, t, rfl, rfl, h1, h2, by omega, by omega, by omega, by omega, by omega, by omega, rfl⟩))⟩
  ·rw [e1] at h ⊢
   match t, h with
   | [], h => simp [more] at h
   | [d], h => simp only [more] at h; split at h <;> simp at h
   | [d, e], h =>
    simp only [more] at h
    split at h
    ·simp at h
    ·split at h <;> simp at h
   | d :: e :: f :: t, h =>
    simp only [more] at h ⊢
    split at h
    ·simp at h
    ·rename_i hd
     rw [if_neg hd]
     split at h
     ·simp at h
     ·rename_i he
      rw [if_neg he]
      split at h
      ·simp at h
      ·rename_i hf
       rw [if_neg hf]
       exact ⟨_, _, rfl, .inr (.inr (.inr ⟨c, d, e, f, t, rfl, rfl, h1, h2, by omega, by omega, by omega, by omega, by omega, by omega, by omega, by omega, rfl⟩))⟩
theorem more_no : ∀ (n : Nat) (r lo hi : Int) (k : Nat) (t : List Int), (more n r lo hi k t).2.2 = false -> (more n r lo hi k t).1 = 65533 /\ (more n r lo hi k t).2.1 < k + n
 | 0, _, _, _, _, _, h => by simp [more] at h
 | n + 1, _, _, _, _, [], _ => by simp [more]
 | n + 1, r, lo, hi, k, c :: t, h => by
  unfold more at h ⊢
  split
  ·simp
  ·rename_i hc
   rw [if_neg hc] at h
   have := more_no n _ _ _ _ _ h
   omega
theorem one_no {b : List Int} (h : (one b).2.2 = false) (hn : b ≠ []) : (one b).1 = 65533 /\ ((one b).2.1 < 3 \/ ∃ c t, b = c :: t /\ 240 <= c) := by
 match b, hn with
 | c :: t, _ =>
  simp only [one] at h ⊢
  split
  ·rename_i h0; rw [if_pos h0] at h; simp at h
  ·rename_i h0
   rw [if_neg h0] at h
   split
   ·simp
   ·rename_i hz
    rw [if_neg hz] at h
    have := more_no _ _ _ _ _ _ h
    refine ⟨this.1, ?_⟩
    rcases nd_cases hz with ⟨e1, h1, h2, _⟩ | ⟨e1, h1, h2, _⟩ | ⟨e1, h1, h2, _⟩
    ·left; omega
    ·left; omega
    ·right; exact ⟨c, t, rfl, h1⟩
theorem scal_ok {x : Int} (h0 : 0 <= x) (h1 : x <= 1114111) (h2 : x < 55296 \/ 57343 < x) : scal x = x := by
 unfold scal
 rw [if_neg]
 simp
 omega
theorem one_enc {b : List Int} (hy : By b) (h : (one b).2.2 = true) (hn : b ≠ []) : scal (one b).1 = (one b).1 /\ enc (one b).1 = b.take (one b).2.1 := by
 obtain ⟨x, k, e, hc⟩ := one_ok h hn
 rw [e]
 simp only
 rcases hc with ⟨t, rfl, rfl, hx⟩ | ⟨c, d, t, rfl, rfl, h1, h2, h3, h4, rfl⟩ | ⟨c, d, f, t, rfl, rfl, h1, h2, h3, h4, h5, h6, h7, h8, rfl⟩ | ⟨c, d, f, g, t, rfl, rfl, h1, h2, h3, h4, h5, h6, h7, h8, h9, h10, rfl⟩
 ·have := hy x (List.mem_cons_self ..)
  refine ⟨scal_ok (by omega) (by omega) (by omega), ?_⟩
  unfold enc
  rw [if_pos hx]; rfl
 ·refine ⟨scal_ok (by omega) (by omega) (by omega), ?_⟩
  unfold enc
  rw [if_neg (by omega), if_pos (by omega)]
  simp only [List.take_succ_cons, List.take_zero, List.cons.injEq, and_true]
  omega
 ·refine ⟨scal_ok (by omega) (by omega) (by omega), ?_⟩
  unfold enc
  rw [if_neg (by omega), if_neg (by omega), if_pos (by omega)]
  simp only [List.take_succ_cons, List.take_zero, List.cons.injEq, and_true]
  omega
 ·refine ⟨scal_ok (by omega) (by omega) (by omega), ?_⟩
  unfold enc
  rw [if_neg (by omega), if_neg (by omega), if_neg (by omega)]
  simp only [List.take_succ_cons, List.take_zero, List.cons.injEq, and_true]
  omega
def isRep (b : List Int) : Bool := b.take 3 == [239, 191, 189]
def bad (b : List Int) : Bool := (one b).1 == 65533 && (decide ((one b).2.1 < 3) || !(isRep b))
theorem bad_eq {b : List Int} (hy : By b) (hn : b ≠ []) : bad b = !(one b).2.2 := by
 cases h : (one b).2.2 with
 | false =>
  obtain ⟨h1, h2⟩ := one_no h hn
  rw [bad, h1]
  rcases h2 with h2 | ⟨c, t, rfl, hc⟩
  ·simp [h2]
  ·have : isRep (c :: t) = false := by
    simp only [isRep, List.take_succ_cons, beq_eq_false_iff_ne, ne_eq, List.cons.injEq, not_and]
    omega
   simp [this]
 | true =>
  obtain ⟨h1, h2⟩ := one_enc hy h hn
  by_cases hx : (one b).1 = 65533
  ·rw [hx] at h2
   have e : enc 65533 = [239, 191, 189] := by decide
   have hk : (one b).2.1 = 3 := by
    have := congrArg List.length h2
    rw [e, List.length_take] at this
    have hk := (show (one b).2.1 <= b.length from by
     cases b with
     | nil => exact absurd rfl hn
     | cons c t => exact (one_k c t).2.2)
    simp at this
    omega
   rw [hk, e] at h2
   have : isRep b = true := by rw [isRep, <- h2]; rfl
   simp [bad, hk, this]
  ·have : ((one b).1 == 65533) = false := by simp [hx]
   simp [bad, this]
theorem whole_b {b : List Int} (h : b ≠ []) : whole b = ((one b).2.2 && whole (b.drop (one b).2.1)) := by
 cases b with
 | nil => exact absurd rfl h
 | cons c t => exact whole_cons c t
theorem one_b {b : List Int} (h : b ≠ []) : 1 <= (one b).2.1 /\ (one b).2.1 <= 4 /\ (one b).2.1 <= b.length := by
 cases b with
 | nil => exact absurd rfl h
 | cons c t => exact one_k c t
end Go.Lift.Utf
end

section
namespace Go.Lift.Tok
open Utf
def chr (s : List Int) (k : Nat) : Int := match s[k]? with
 | some x => x
 | none => -1
def dig (c : Int) : Bool := decide (48 <= c) && decide (c <= 57)
def fst1 (c : Int) : Bool := decide (97 <= c) && decide (c <= 122) || decide (65 <= c) && decide (c <= 90) || c == 95 || decide (128 <= c)
def ltr (c : Int) : Bool := fst1 c || dig c || c == 45
def blk (c : Int) : Bool := c == 10 || c == 9 || c == 32
def hex (c : Int) : Int := if dig c = true then c - 48 else if (decide (97 <= c) && decide (c <= 102)) = true then c - 97 + 10 else if (decide (65 <= c) && decide (c <= 70)) = true then c - 65 + 10 else -1
def esc (a b : Int) : Bool := a == 92 && b != 10
def num (a b c : Int) : Bool := if (a == 43 || a == 45) = true then dig b || b == 46 && dig c else dig a || a == 46 && dig b
def hexN : Nat -> Int -> List Int -> Int × List Int
 | 0, n, s => (n, s)
 | _ + 1, n, [] => (n, [])
 | k + 1, n, c :: t => if hex c < 0 then (n, c :: t) else hexN k (n * 16 + hex c) t
def one1 : List Int -> List Int
 | [] => []
 | d :: u => if blk d = true then u else d :: u
def escd : List Int -> Int × List Int
 | [] => (65533, [])
 | c :: t => if hex c < 0 then (c, t) else
  (if (hexN 6 0 (c :: t)).1 = 0 then 65533 else scal (hexN 6 0 (c :: t)).1, one1 (hexN 6 0 (c :: t)).2)
def nameN : Nat -> List Int -> List Int × List Int
 | 0, s => ([], s)
 | _ + 1, [] => ([], [])
 | n + 1, c :: t =>
  if ltr c = true then (c :: (nameN n t).1, (nameN n t).2)
  else if esc c (chr t 0) = true then ((escd t).1 :: (nameN n (escd t).2).1, (nameN n (escd t).2).2)
  else ([], c :: t)
def name (s : List Int) : List Int × List Int := nameN s.length s
def txtN (sign : Int) : Nat -> List Int -> Bool × List Int × List Int
 | 0, s => (true, [], s)
 | _ + 1, [] => (true, [], [])
 | n + 1, c :: t =>
  if c = 10 then (false, [], c :: t)
  else if c = sign then (true, [], t)
  else if c = 92 then
   match t with
   | [] => (true, [], [])
   | d :: u => if d = 10 then txtN sign n u else ((txtN sign n (escd t).2).1, (escd t).1 :: (txtN sign n (escd t).2).2.1, (txtN sign n (escd t).2).2.2)
  else ((txtN sign n t).1, c :: (txtN sign n t).2.1, (txtN sign n t).2.2)
def txt (sign : Int) (s : List Int) : Bool × List Int × List Int := txtN sign s.length s
structure Tk where
 kind : Int
 text : List Int
 num : Int × Int
 whole : Bool
 id : Bool
 deriving DecidableEq
end Go.Lift.Tok
end

section
namespace Go.Lift.Rul
structure Tk4 where
 k : Int
 b : List Int
 n : Int
 d : Int
 w : Bool
 i : Bool
 deriving DecidableEq
def closer (k : Int) : Int := if k = 2 \/ k = 21 then 22 else if k = 19 then 20 else if k = 23 then 24 else 0
inductive CV where
 | mk (t : Tk4) (kids : List CV)
def CV.t : CV -> Tk4
 | .mk t _ => t
def CV.ks : CV -> List CV
 | .mk _ k => k
inductive PV where
 | leaf (t : Tk4)
 | node (t : Tk4) (kids : List PV) (c : Option Tk4)
end Go.Lift.Rul
end

section
namespace Go.Lift.Rul
def Lies (l : List Tk4) (p : Nat) (m : List Tk4) : Prop := ∀ k, k < m.length -> l[p + k]? = m[k]?
theorem Lies.right {l a b : List Tk4} {p : Nat} (h : Lies l p (a ++ b)) : Lies l (p + a.length) b := fun k hk => by
 have := h (a.length + k) (by simp; omega)
 rw [List.getElem?_append_right (by omega), Nat.add_sub_cancel_left] at this
 rw [Nat.add_assoc]
 exact this
end Go.Lift.Rul
end

section
namespace Go.Lift.Rul
def CV.k (v : CV) : Int := v.t.k
def spaceC (v : CV) : Bool := v.k == 13
def trim (l : List CV) : List CV := ((l.dropWhile spaceC).reverse.dropWhile spaceC).reverse
def nor (a b : Int) (v : CV) : Bool := v.k != a && v.k != b
mutual
def deepV : Nat -> CV -> Bool
 | n, .mk t ks => closer t.k != 0 && (match n with
  | 0 => true
  | n + 1 => deepL n ks)
def deepL : Nat -> List CV -> Bool
 | _, [] => false
 | n, v :: r => deepV n v || deepL n r
end
def lowb (c : Int) : Int := if 65 <= c /\ c <= 90 then c + 32 else c
def small (b : List Int) : List Int := b.map lowb
def important : List Int := [105, 109, 112, 111, 114, 116, 97, 110, 116]
structure Dc where
 name : List Int
 val : List CV
 imp : Bool
def nameOf (b : List Int) : List Int := if [45, 45].isPrefixOf b then b else small b
def impOf (v : List CV) : List CV × Bool :=
 match v.reverse with
 | x :: y :: r =>
  if x.k == 1 && small x.t.b == important then
   match (y :: r).dropWhile spaceC with
   | z :: s => if z.k == 9 && z.t.b == [33] then (trim s.reverse, true) else (v, false)
   | [] => (v, false)
  else (v, false)
 | _ => (v, false)
def decl : List CV -> Option Dc
 | [] => none
 | x :: l => if x.k != 1 then none else
  match l.dropWhile spaceC with
  | [] => none
  | c :: r => if c.k != 16 then none else if deepL 64 r then none else
   some ⟨nameOf x.t.b, (impOf (trim r)).1, (impOf (trim r)).2⟩
def declsN : Nat -> List CV -> List Dc
 | 0, _ => []
 | n + 1, [] => []
 | n + 1, v :: r =>
  if v.k == 13 || v.k == 17 then declsN n r
  else if v.k == 3 then declsN n ((v :: r).dropWhile (nor 17 23)).tail
  else (decl ((v :: r).takeWhile (nor 17 17))).toList ++ declsN n ((v :: r).dropWhile (nor 17 17))
def decls (l : List CV) : List Dc := declsN (l.length + 1) l
inductive Ru where
 | mk (kind : Int) (name : List Int) (prel : List CV) (decls : List Dc) (rules : List Ru)
def isGroup (n : List Int) : Bool := n == [109, 101, 100, 105, 97] || n == [115, 117, 112, 112, 111, 114, 116, 115] || n == [99, 111, 110, 116, 97, 105, 110, 101, 114]
def rulesN (sub : List CV -> List Ru) (live top : Bool) : Nat -> List CV -> List Ru
 | 0, _ => []
 | n + 1, [] => []
 | n + 1, v :: r =>
  if v.k == 13 || (top && (v.k == 14 || v.k == 15)) then rulesN sub live top n r
  else if v.k == 3 then
   match (v :: r).dropWhile (nor 17 23) with
   | [] => []
   | x :: s => (if x.k == 23 && isGroup (small v.t.b) && !deepL 64 (((v :: r).takeWhile (nor 17 23)).tail) && live then [Ru.mk 2 (small v.t.b) (trim ((v :: r).takeWhile (nor 17 23)).tail) [] (sub x.ks)] else []) ++ rulesN sub live top n s
  else
   match (v :: r).dropWhile (nor 23 23) with
   | [] => []
   | x :: s => (if !deepL 64 ((v :: r).takeWhile (nor 23 23)) && live then [Ru.mk 1 [] (trim ((v :: r).takeWhile (nor 23 23))) (decls x.ks) []] else []) ++ rulesN sub live top n s
def rulesF : Nat -> Bool -> List CV -> List Ru
 | 0, top, l => rulesN (fun _ => []) false top (l.length + 1) l
 | f + 1, top, l => rulesN (rulesF f false) true top (l.length + 1) l
def rules (l : List CV) : List Ru := rulesF 64 true l
end Go.Lift.Rul
end

section
namespace Go.Lift.Rul
def bare (k : Int) : Tk4 := ⟨k, [], 0, 0, false, false⟩
mutual
def mayV : Nat -> CV -> Bool
 | n, .mk t ks => decide (1 <= t.k /\ t.k <= 24) && (if closer t.k = 0 then ks.isEmpty else match n with
  | 0 => false
  | n + 1 => mayL n ks)
def mayL : Nat -> List CV -> Bool
 | _, [] => true
 | n, v :: r => mayV n v && mayL n r
end
def pieces : List CV -> List (List CV)
 | [] => [[]]
 | v :: r => if v.k == 18 then [] :: pieces r else match pieces r with
  | p :: q => (v :: p) :: q
  | [] => [[v]]
def split (l : List CV) : List (List CV) := (pieces l).map trim
end Go.Lift.Rul
end

section
namespace Go.Lift.Rul
theorem dropWhile_app {p : CV -> Bool} : ∀ (A B : List CV), (A ++ B).dropWhile p = if A.all p then B.dropWhile p else A.dropWhile p ++ B
 | [], B => by simp
 | v :: A, B => by
  rw [List.cons_append, List.dropWhile_cons, List.dropWhile_cons, dropWhile_app A B, List.all_cons]
  cases p v <;> simp
theorem drop_all {p : CV -> Bool} {A : List CV} (h : A.all p = true) : A.dropWhile p = [] := by
 induction A with
 | nil => rfl
 | cons v A ih =>
  rw [List.all_cons, Bool.and_eq_true] at h
  rw [List.dropWhile_cons, if_pos h.1, ih h.2]
end Go.Lift.Rul
end

section
namespace Go.Lift.Rul
def PV.t : PV -> Tk4
 | .leaf t => t
 | .node t _ _ => t
def ltrim (l : List CV) : List CV := l.dropWhile spaceC
def rtrim (l : List CV) : List CV := (l.reverse.dropWhile spaceC).reverse
theorem trim_eq (l : List CV) : trim l = rtrim (ltrim l) := rfl
theorem rtrim_cons {v : CV} {r : List CV} (h : spaceC v = false) : rtrim (v :: r) = v :: rtrim r := by
 unfold rtrim
 rw [List.reverse_cons, dropWhile_app]
 split
 ·rename_i ha
  rw [List.dropWhile_cons, h]
  simp only [Bool.false_eq_true, if_false]
  rw [drop_all ha]
  rfl
 ·rw [List.reverse_append]
  rfl
theorem rtrim_spaces {l : List CV} (h : l.all spaceC = true) : rtrim l = [] := by
 unfold rtrim
 rw [drop_all (by rw [List.all_reverse]; exact h)]
 rfl
theorem rtrim_snoc (l : List CV) (v : CV) : rtrim (l ++ [v]) = if spaceC v then rtrim l else l ++ [v] := by
 unfold rtrim
 rw [List.reverse_append, List.reverse_cons, List.reverse_nil, List.nil_append, List.singleton_append, List.dropWhile_cons]
 split
 ·rfl
 ·rw [List.reverse_cons, List.reverse_reverse]
theorem rtrim_nil : rtrim [] = [] := rfl
theorem rtrim_sp {v : CV} {r : List CV} (h : spaceC v = true) : rtrim (v :: r) = if r.all spaceC then [] else v :: rtrim r := by
 by_cases ha : r.all spaceC = true
 ·rw [if_pos ha]
  exact rtrim_spaces (by rw [List.all_cons, h, ha]; rfl)
 ·rw [if_neg ha]
  unfold rtrim
  rw [List.reverse_cons, dropWhile_app, List.all_reverse, if_neg ha, List.reverse_append]
  rfl
theorem ltrim_rtrim : ∀ (r : List CV), ltrim (rtrim r) = rtrim (ltrim r)
 | [] => rfl
 | v :: r => by
  cases hv : spaceC v with
  | false =>
   have h1 : ltrim (v :: r) = v :: r := by unfold ltrim; rw [List.dropWhile_cons, hv]; rfl
   rw [h1, rtrim_cons hv]
   unfold ltrim
   rw [List.dropWhile_cons, hv]
   rfl
  | true =>
   have h1 : ltrim (v :: r) = ltrim r := by unfold ltrim; rw [List.dropWhile_cons, hv]; rfl
   rw [h1, rtrim_sp hv]
   split
   ·rename_i ha
    have : ltrim r = [] := drop_all ha
    rw [this]
    rfl
   ·have h2 : ltrim (v :: rtrim r) = ltrim (rtrim r) := by unfold ltrim; rw [List.dropWhile_cons, hv]; rfl
    rw [h2, ltrim_rtrim r]
theorem rtrim_rtrim (r : List CV) : rtrim (rtrim r) = rtrim r := by
 unfold rtrim
 rw [List.reverse_reverse]
 congr 1
 generalize r.reverse = l
 induction l with
 | nil => rfl
 | cons v l ih =>
  rw [List.dropWhile_cons]
  split
  ·exact ih
  ·rename_i h; rw [List.dropWhile_cons, if_neg h]
theorem ltrim_ltrim (l : List CV) : ltrim (ltrim l) = ltrim l := by
 unfold ltrim
 induction l with
 | nil => rfl
 | cons v l ih =>
  rw [List.dropWhile_cons]
  split
  ·exact ih
  ·rename_i h; rw [List.dropWhile_cons, if_neg h]
theorem trim_rtrim (r : List CV) : trim (rtrim r) = trim r := by
 show rtrim (ltrim (rtrim r)) = rtrim (ltrim r)
 rw [ltrim_rtrim, rtrim_rtrim]
theorem trim_ltrim (r : List CV) : trim (ltrim r) = trim r := congrArg rtrim (ltrim_ltrim r)
theorem trim_trim (r : List CV) : trim (trim r) = trim r := by
 show trim (rtrim (ltrim r)) = trim r
 rw [trim_rtrim, trim_ltrim]
end Go.Lift.Rul
end

section
namespace Go.Lift.Rul
def bs (l : List Int) : ByteArray := ⟨(u8s l).toArray⟩
def row (t : Tk4) : List V := [.v (.int .i64 t.k), .v (.string (bs t.b)), .v (.int .i64 t.n), .v (.int .i64 t.d), .v (.bool t.w), .v (.bool t.i)]
mutual
def rowV : CV -> List V
 | .mk t ks => row t ++ [.list .no (rowsC ks)]
def rowsC : List CV -> List (List V)
 | [] => []
 | v :: r => rowV v :: rowsC r
end
theorem rowV_eq (t : Tk4) (ks : List CV) : rowV (.mk t ks) = [.v (.int .i64 t.k), .v (.string (bs t.b)), .v (.int .i64 t.n), .v (.int .i64 t.d), .v (.bool t.w), .v (.bool t.i), .list .no (rowsC ks)] := by
 rw [rowV]; rfl
theorem rowV_eta (v : CV) : rowV v = [.v (.int .i64 v.t.k), .v (.string (bs v.t.b)), .v (.int .i64 v.t.n), .v (.int .i64 v.t.d), .v (.bool v.t.w), .v (.bool v.t.i), .list .no (rowsC v.ks)] := by
 obtain ⟨t, ks⟩ := v
 exact rowV_eq t ks
theorem rowsC_map : ∀ l : List CV, rowsC l = l.map rowV
 | [] => by rw [rowsC]; rfl
 | v :: r => by rw [rowsC, rowsC_map r]; rfl
theorem rowsC_nil : rowsC [] = [] := by rw [rowsC]
theorem rowsC_cons (v : CV) (r : List CV) : rowsC (v :: r) = rowV v :: rowsC r := by rw [rowsC]
theorem rowsC_len (l : List CV) : (rowsC l).length = l.length := by rw [rowsC_map, List.length_map]
theorem rowsC_get (l : List CV) (i : Nat) : (rowsC l)[i]? = (l[i]?).map rowV := by rw [rowsC_map, List.getElem?_map]
theorem rowsC_app (l m : List CV) : rowsC (l ++ m) = rowsC l ++ rowsC m := by simp [rowsC_map]
theorem rowsC_take (l : List CV) (n : Nat) : (rowsC l).take n = rowsC (l.take n) := by simp [rowsC_map, List.map_take]
theorem rowsC_drop (l : List CV) (n : Nat) : (rowsC l).drop n = rowsC (l.drop n) := by simp [rowsC_map, List.map_drop]
theorem rowV_len (v : CV) : (rowV v).length = 7 := by rw [rowV_eta]; rfl
theorem rowsC_all (l : List CV) : ((rowsC l).all fun x => x.length == 7) = true := by
 rw [List.all_eq_true]
 intro x hx
 rw [rowsC_map] at hx
 obtain ⟨v, _, rfl⟩ := List.mem_map.1 hx
 rw [rowV_len]; rfl
def declC (d : Dc) : List V := [.v (.string (bs d.name)), .list .no (rowsC d.val), .v (.bool d.imp)]
mutual
def ruV : Ru -> List V
 | .mk k n p ds rs => [.v (.int .i64 k), .v (.string (bs n)), .list .no (rowsC p), .list .no (ds.map declC), .list .no (rusC rs)]
def rusC : List Ru -> List (List V)
 | [] => []
 | r :: l => ruV r :: rusC l
end
theorem rusC_map : ∀ l : List Ru, rusC l = l.map ruV
 | [] => by rw [rusC]; rfl
 | v :: r => by rw [rusC, rusC_map r]; rfl
@[go_sem] theorem byteRow_row (l : List Tk4) : isByteRow (l.map row) = false := by cases l <;> rfl
@[go_sem] theorem byteRow_rowsC (l : List CV) : isByteRow (rowsC l) = false := by
 cases l with
 | nil => rw [rowsC_nil]; rfl
 | cons v r => rw [rowsC_cons, rowV_eta]; rfl
@[go_sem] theorem byteRow_decl (l : List Dc) : isByteRow (l.map declC) = false := by cases l <;> rfl
@[go_sem] theorem byteRow_rus (l : List Ru) : isByteRow (rusC l) = false := by
 cases l with
 | nil => rw [rusC_map]; rfl
 | cons v r => rw [rusC_map, List.map_cons]; cases v; rw [ruV]; rfl
end Go.Lift.Rul
end

section
namespace Go.Lift.Rul
mutual
def nodesV : CV -> Nat
 | .mk _ ks => 1 + nodesL ks
def nodesL : List CV -> Nat
 | [] => 0
 | v :: r => nodesV v + nodesL r
end
theorem nodesV_eq (v : CV) : nodesV v = 1 + nodesL v.ks := by
 cases v; rw [nodesV]; rfl
theorem nodesL_nil : nodesL [] = 0 := by rw [nodesL]
theorem nodesL_cons (v : CV) (r : List CV) : nodesL (v :: r) = nodesV v + nodesL r := by rw [nodesL]
theorem nodesL_len : ∀ l : List CV, l.length <= nodesL l
 | [] => by simp
 | v :: r => by
  have := nodesL_len r
  rw [nodesL_cons, nodesV_eq, List.length_cons]
  omega
theorem nodesL_mem : ∀ {l : List CV} {v : CV}, v ∈ l -> nodesV v <= nodesL l
 | [], v, h => by cases h
 | x :: r, v, h => by
  rw [nodesL_cons]
  rcases List.mem_cons.1 h with rfl | h
  ·omega
  ·have := nodesL_mem h
   omega
theorem nodesL_get {l : List CV} {v : CV} {k : Nat} (h : l[k]? = some v) : nodesL v.ks <= nodesL l := by
 have := nodesL_mem (List.mem_of_getElem? h)
 rw [nodesV_eq] at this
 omega
theorem nodesL_app : ∀ l m : List CV, nodesL (l ++ m) = nodesL l + nodesL m
 | [], m => by simp [nodesL_nil]
 | v :: r, m => by rw [List.cons_append, nodesL_cons, nodesL_cons, nodesL_app r m]; omega
end Go.Lift.Rul
end
