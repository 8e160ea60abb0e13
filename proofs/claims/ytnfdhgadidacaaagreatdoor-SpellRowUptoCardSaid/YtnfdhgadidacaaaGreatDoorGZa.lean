/- What is computed, in plain Lean. -/
import Derived.Test.YtnfdhgadidacaaaGreatDoorGLc
section
namespace Go.Lift.Utf
set_option linter.unusedVariables false
set_option linter.unusedSimpArgs false
def scal (x : Int) : Int := if (decide (x < 0) || decide (1114111 < x) || decide (55296 ≤ x) && decide (x ≤ 57343)) = true then 65533 else x
theorem scal_in (x : Int) : 0 ≤ scal x ∧ scal x ≤ 1114111 := by
 unfold scal
 split
 ·omega
 ·rename_i h
  simp at h
  omega
def enc (y : Int) : List Int :=
 if y < 128 then [y] else if y < 2048 then [192 + y / 64, 128 + y % 64] else if y < 65536 then [224 + y / 4096, 128 + y / 64 % 64, 128 + y % 64]
 else [240 + y / 262144, 128 + y / 4096 % 64, 128 + y / 64 % 64, 128 + y % 64]
theorem or8_192 : ∀ z : Fin 32, (BitVec.ofInt 8 192 ||| BitVec.ofInt 8 (z.val : Int)).toNat = 192 + z.val := by decide
theorem or8_224 : ∀ z : Fin 16, (BitVec.ofInt 8 224 ||| BitVec.ofInt 8 (z.val : Int)).toNat = 224 + z.val := by decide
theorem or8_240 : ∀ z : Fin 8, (BitVec.ofInt 8 240 ||| BitVec.ofInt 8 (z.val : Int)).toNat = 240 + z.val := by decide
theorem or8_128 : ∀ z : Fin 64, (BitVec.ofInt 8 128 ||| BitVec.ofInt 8 (z.val : Int)).toNat = 128 + z.val := by decide
theorem or32_192 : ∀ z : Fin 32, (BitVec.ofInt 32 192 ||| BitVec.ofInt 32 (z.val : Int)).toNat = 192 + z.val := by decide
theorem or32_224 : ∀ z : Fin 16, (BitVec.ofInt 32 224 ||| BitVec.ofInt 32 (z.val : Int)).toNat = 224 + z.val := by decide
theorem or32_240 : ∀ z : Fin 8, (BitVec.ofInt 32 240 ||| BitVec.ofInt 32 (z.val : Int)).toNat = 240 + z.val := by decide
theorem or32_128 : ∀ z : Fin 64, (BitVec.ofInt 32 128 ||| BitVec.ofInt 32 (z.val : Int)).toNat = 128 + z.val := by decide
theorem and63 {y : Int} (h0 : 0 ≤ y) (h1 : y ≤ 2147483647) : ((BitVec.ofInt 32 y &&& BitVec.ofInt 32 63).toNat : Int) = y % 64 := by
 rw [BitVec.toNat_and]
 have e1 : (BitVec.ofInt 32 y).toNat = y.toNat := by
  rw [BitVec.toNat_ofInt]
  omega
 have e2 : (BitVec.ofInt 32 63).toNat = 2 ^ 6 - 1 := by decide
 rw [e1, e2, Nat.and_two_pow_sub_one_eq_mod]
 omega
theorem o8 {c : Int} {n : Nat} (hc : (c = 192 ∧ n = 32) ∨ (c = 224 ∧ n = 16) ∨ (c = 240 ∧ n = 8) ∨ (c = 128 ∧ n = 64)) {y : Int} (h0 : 0 ≤ y) (h1 : y < n) : ((BitVec.ofInt 8 c ||| BitVec.ofInt 8 y).toNat : Int) = c + y := by
 obtain ⟨z, rfl⟩ : ∃ z : Nat, y = z := ⟨y.toNat, by omega⟩
 rcases hc with ⟨rfl, rfl⟩ | ⟨rfl, rfl⟩ | ⟨rfl, rfl⟩ | ⟨rfl, rfl⟩
 ·have := or8_192 ⟨z, by omega⟩; simp only at this; omega
 ·have := or8_224 ⟨z, by omega⟩; simp only at this; omega
 ·have := or8_240 ⟨z, by omega⟩; simp only at this; omega
 ·have := or8_128 ⟨z, by omega⟩; simp only at this; omega
theorem o32 {c : Int} {n : Nat} (hc : (c = 192 ∧ n = 32) ∨ (c = 224 ∧ n = 16) ∨ (c = 240 ∧ n = 8) ∨ (c = 128 ∧ n = 64)) {y : Int} (h0 : 0 ≤ y) (h1 : y < n) : ((BitVec.ofInt 32 c ||| BitVec.ofInt 32 y).toNat : Int) = c + y := by
 obtain ⟨z, rfl⟩ : ∃ z : Nat, y = z := ⟨y.toNat, by omega⟩
 rcases hc with ⟨rfl, rfl⟩ | ⟨rfl, rfl⟩ | ⟨rfl, rfl⟩ | ⟨rfl, rfl⟩
 ·have := or32_192 ⟨z, by omega⟩; simp only at this; omega
 ·have := or32_224 ⟨z, by omega⟩; simp only at this; omega
 ·have := or32_240 ⟨z, by omega⟩; simp only at this; omega
 ·have := or32_128 ⟨z, by omega⟩; simp only at this; omega
end Go.Lift.Utf
end

section
namespace Go.Lift.Utf
set_option linter.unusedVariables false
set_option linter.unusedSimpArgs false
def nd (c : Int) : Nat × Int × Int :=
 if 194 ≤ c ∧ c ≤ 223 then (1, 128, 191)
 else if c = 224 then (2, 160, 191)
 else if c = 237 then (2, 128, 159)
 else if 225 ≤ c ∧ c ≤ 239 then (2, 128, 191)
 else if c = 240 then (3, 144, 191)
 else if 241 ≤ c ∧ c ≤ 243 then (3, 128, 191)
 else if c = 244 then (3, 128, 143)
 else (0, 0, 0)
def more : Nat → Int → Int → Int → Nat → List Int → Int × Nat × Bool
 | 0, r, _, _, k, _ => (r, k, true)
 | _ + 1, _, _, _, k, [] => (65533, k, false)
 | n + 1, r, lo, hi, k, c :: t => if c < lo ∨ hi < c then (65533, k, false) else more n (r * 64 + c % 64) 128 191 (k + 1) t
def one : List Int → Int × Nat × Bool
 | [] => (65533, 1, false)
 | c :: t => if c < 128 then (c, 1, true) else if (nd c).1 = 0 then (65533, 1, false) else more (nd c).1 (c % 2 ^ (6 - (nd c).1)) (nd c).2.1 (nd c).2.2 1 t
abbrev By (b : List Int) : Prop := ∀ c ∈ b, 0 ≤ c ∧ c ≤ 255
theorem or64 {r y : Int} (h0 : 0 ≤ r) (h1 : r ≤ 1000000) (h2 : 0 ≤ y) (h3 : y < 64) : (ior .i32 (r * 64) y) = r * 64 + y := by
 obtain ⟨m, rfl⟩ : ∃ m : Nat, r = m := ⟨r.toNat, by omega⟩
 obtain ⟨z, rfl⟩ : ∃ z : Nat, y = z := ⟨y.toNat, by omega⟩
 show ((BitVec.ofInt 32 ((m : Int) * 64) ||| BitVec.ofInt 32 (z : Int)).toNat : Int) = _
 rw [BitVec.toNat_or]
 have e1 : (BitVec.ofInt 32 ((m : Int) * 64)).toNat = m <<< 6 := by
  rw [BitVec.toNat_ofInt, Nat.shiftLeft_eq]
  omega
 have e2 : (BitVec.ofInt 32 (z : Int)).toNat = z := by
  rw [BitVec.toNat_ofInt]
  omega
 rw [e1, e2, ← Nat.shiftLeft_add_eq_or_of_lt (by omega), Nat.shiftLeft_eq]
 omega
theorem and8 {y : Int} {k : Nat} (hk : k ≤ 7) (h0 : 0 ≤ y) (h1 : y ≤ 255) : iand .u8 y (2 ^ k - 1) = y % 2 ^ k := by
 obtain ⟨z, rfl⟩ : ∃ z : Nat, y = z := ⟨y.toNat, by omega⟩
 show ((BitVec.ofInt 8 (z : Int) &&& BitVec.ofInt 8 ((2 : Int) ^ k - 1)).toNat : Int) = _
 rw [BitVec.toNat_and]
 have e1 : (BitVec.ofInt 8 (z : Int)).toNat = z := by
  rw [BitVec.toNat_ofInt]
  omega
 have hp : 2 ^ k ≤ 128 := by
  have : 2 ^ k ≤ 2 ^ 7 := Nat.pow_le_pow_right (by omega) hk
  omega
 have hq : 1 ≤ 2 ^ k := Nat.one_le_two_pow
 have e2 : (BitVec.ofInt 8 ((2 : Int) ^ k - 1)).toNat = 2 ^ k - 1 := by
  have e3 : (2 : Int) ^ k = ((2 ^ k : Nat) : Int) := by simp
  rw [BitVec.toNat_ofInt, e3]
  omega
 rw [e1, e2, Nat.and_two_pow_sub_one_eq_mod]
 simp
theorem and32 {y : Int} {k : Nat} (hk : k ≤ 7) (h0 : 0 ≤ y) (h1 : y ≤ 2147483647) : iand .i32 y (2 ^ k - 1) = y % 2 ^ k := by
 obtain ⟨z, rfl⟩ : ∃ z : Nat, y = z := ⟨y.toNat, by omega⟩
 show ((BitVec.ofInt 32 (z : Int) &&& BitVec.ofInt 32 ((2 : Int) ^ k - 1)).toNat : Int) = _
 rw [BitVec.toNat_and]
 have e1 : (BitVec.ofInt 32 (z : Int)).toNat = z := by
  rw [BitVec.toNat_ofInt]
  omega
 have hp : 2 ^ k ≤ 128 := by
  have : 2 ^ k ≤ 2 ^ 7 := Nat.pow_le_pow_right (by omega) hk
  omega
 have hq : 1 ≤ 2 ^ k := Nat.one_le_two_pow
 have e2 : (BitVec.ofInt 32 ((2 : Int) ^ k - 1)).toNat = 2 ^ k - 1 := by
  have e3 : (2 : Int) ^ k = ((2 ^ k : Nat) : Int) := by simp
  rw [BitVec.toNat_ofInt, e3]
  omega
 rw [e1, e2, Nat.and_two_pow_sub_one_eq_mod]
 simp
section
variable {y : Int} (h0 : 0 ≤ y) (h1 : y ≤ 255)
include h0 h1
theorem a63 : iand .u8 y 63 = y % 64 := and8 (k := 6) (by omega) h0 h1
theorem a31 : iand .u8 y 31 = y % 32 := and8 (k := 5) (by omega) h0 h1
theorem a15 : iand .u8 y 15 = y % 16 := and8 (k := 4) (by omega) h0 h1
theorem a7 : iand .u8 y 7 = y % 8 := and8 (k := 3) (by omega) h0 h1
theorem c63 : iand .i32 y 63 = y % 64 := and32 (k := 6) (by omega) h0 (by omega)
theorem c31 : iand .i32 y 31 = y % 32 := and32 (k := 5) (by omega) h0 (by omega)
theorem c15 : iand .i32 y 15 = y % 16 := and32 (k := 4) (by omega) h0 (by omega)
end
def rawN : Nat → List Int → List Int
 | 0, _ => []
 | _ + 1, [] => []
 | n + 1, c :: t => (one (c :: t)).1 :: rawN n ((c :: t).drop (one (c :: t)).2.1)
def raw (b : List Int) : List Int := rawN b.length b
def wholeN : Nat → List Int → Bool
 | 0, _ => true
 | _ + 1, [] => true
 | n + 1, c :: t => (one (c :: t)).2.2 && wholeN n ((c :: t).drop (one (c :: t)).2.1)
def whole (b : List Int) : Bool := wholeN b.length b
theorem more_k : ∀ (n : Nat) (r lo hi : Int) (k : Nat) (t : List Int), k ≤ (more n r lo hi k t).2.1 ∧ (more n r lo hi k t).2.1 ≤ k + n ∧ (more n r lo hi k t).2.1 ≤ k + t.length
 | 0, _, _, _, _, _ => by simp [more]
 | n + 1, _, _, _, _, [] => by simp [more]
 | n + 1, r, lo, hi, k, c :: t => by
  unfold more
  split
  ·simp
  ·have := more_k n (r * 64 + c % 64) 128 191 (k + 1) t
   simp only [List.length_cons]
   omega
theorem nd_le (c : Int) : (nd c).1 ≤ 3 := by
 unfold nd
 repeat' split
 all_goals simp
theorem one_k (c : Int) (t : List Int) : 1 ≤ (one (c :: t)).2.1 ∧ (one (c :: t)).2.1 ≤ 4 ∧ (one (c :: t)).2.1 ≤ (c :: t).length := by
 simp only [one]
 split
 ·simp
 ·split
  ·simp
  ·have := more_k (nd c).1 (c % 2 ^ (6 - (nd c).1)) (nd c).2.1 (nd c).2.2 1 t
   have := nd_le c
   simp only [List.length_cons]
   omega
theorem rawN_more : ∀ (n m : Nat) (b : List Int), b.length ≤ n → b.length ≤ m → rawN n b = rawN m b
 | 0, 0, _, _, _ => rfl
 | 0, m + 1, [], _, _ => rfl
 | n + 1, 0, [], _, _ => rfl
 | n + 1, m + 1, [], _, _ => rfl
 | n + 1, m + 1, c :: t, h1, h2 => by
  have := one_k c t
  simp only [rawN]
  rw [rawN_more n m _ (by rw [List.length_drop]; omega) (by rw [List.length_drop]; omega)]
theorem wholeN_more : ∀ (n m : Nat) (b : List Int), b.length ≤ n → b.length ≤ m → wholeN n b = wholeN m b
 | 0, 0, _, _, _ => rfl
 | 0, m + 1, [], _, _ => rfl
 | n + 1, 0, [], _, _ => rfl
 | n + 1, m + 1, [], _, _ => rfl
 | n + 1, m + 1, c :: t, h1, h2 => by
  have := one_k c t
  simp only [wholeN]
  rw [wholeN_more n m _ (by rw [List.length_drop]; omega) (by rw [List.length_drop]; omega)]
theorem raw_nil : raw [] = [] := rfl
theorem raw_cons (c : Int) (t : List Int) : raw (c :: t) = (one (c :: t)).1 :: raw ((c :: t).drop (one (c :: t)).2.1) := by
 have := one_k c t
 show (one (c :: t)).1 :: rawN t.length ((c :: t).drop (one (c :: t)).2.1) = _
 rw [raw, rawN_more _ _ _ (by rw [List.length_drop, List.length_cons]; omega) (Nat.le_refl _)]
theorem whole_nil : whole [] = true := rfl
theorem whole_cons (c : Int) (t : List Int) : whole (c :: t) = ((one (c :: t)).2.2 && whole ((c :: t).drop (one (c :: t)).2.1)) := by
 have := one_k c t
 show ((one (c :: t)).2.2 && wholeN t.length ((c :: t).drop (one (c :: t)).2.1)) = _
 rw [whole, wholeN_more _ _ _ (by rw [List.length_drop, List.length_cons]; omega) (Nat.le_refl _)]
theorem By.drop {b : List Int} (h : By b) (n : Nat) : By (b.drop n) := fun c hc => h c (List.mem_of_mem_drop hc)
theorem raw_len : ∀ (n : Nat) (b : List Int), (rawN n b).length ≤ b.length
 | 0, _ => by simp [rawN]
 | n + 1, [] => by simp [rawN]
 | n + 1, c :: t => by
  have := one_k c t
  have := raw_len n ((c :: t).drop (one (c :: t)).2.1)
  rw [List.length_drop] at this
  simp only [rawN, List.length_cons] at *
  omega
theorem shl6 {r : Int} (h0 : 0 ≤ r) (h1 : r ≤ 1000000) : IntKind.i32.wrap (ishl .i32 r 6) = r * 64 := wrap_i32 (by show _ ≤ r * 64; omega) (by show r * 64 ≤ _; omega)
end Go.Lift.Utf
end

section
namespace Go.Lift.Utf
set_option linter.unusedVariables false
set_option linter.unusedSimpArgs false
theorem nd_cases {c : Int} (h : (nd c).1 ≠ 0) : ((nd c).1 = 1 ∧ 194 ≤ c ∧ c ≤ 223 ∧ (nd c).2 = (128, 191)) ∨
  ((nd c).1 = 2 ∧ 224 ≤ c ∧ c ≤ 239 ∧ 128 ≤ (nd c).2.1 ∧ (nd c).2.2 ≤ 191 ∧ (c = 224 → 160 ≤ (nd c).2.1) ∧ (c = 237 → (nd c).2.2 ≤ 159) ∧ (c ≠ 224 → (nd c).2.1 = 128) ∧ (c ≠ 237 → (nd c).2.2 = 191) ∧ (c = 224 → (nd c).2.1 = 160) ∧ (c = 237 → (nd c).2.2 = 159)) ∨
  ((nd c).1 = 3 ∧ 240 ≤ c ∧ c ≤ 244 ∧ 128 ≤ (nd c).2.1 ∧ (nd c).2.2 ≤ 191 ∧ (c = 240 → (nd c).2.1 = 144) ∧ (c = 244 → (nd c).2.2 = 143) ∧ (c ≠ 240 → (nd c).2.1 = 128) ∧ (c ≠ 244 → (nd c).2.2 = 191)) := by
 unfold nd at h ⊢
 repeat' split
 all_goals simp_all
 all_goals omega
theorem one_ok {b : List Int} (h : (one b).2.2 = true) (hn : b ≠ []) : ∃ x k, one b = (x, k, true) ∧ (
  (∃ t, b = x :: t ∧ k = 1 ∧ x < 128) ∨
  (∃ c d t, b = c :: d :: t ∧ k = 2 ∧ 194 ≤ c ∧ c ≤ 223 ∧ 128 ≤ d ∧ d ≤ 191 ∧ x = c % 32 * 64 + d % 64) ∨
  (∃ c d e t, b = c :: d :: e :: t ∧ k = 3 ∧ 224 ≤ c ∧ c ≤ 239 ∧ 128 ≤ d ∧ d ≤ 191 ∧ 128 ≤ e ∧ e ≤ 191 ∧ (c = 224 → 160 ≤ d) ∧ (c = 237 → d ≤ 159) ∧ x = (c % 16 * 64 + d % 64) * 64 + e % 64) ∨
  (∃ c d e f t, b = c :: d :: e :: f :: t ∧ k = 4 ∧ 240 ≤ c ∧ c ≤ 244 ∧ 128 ≤ d ∧ d ≤ 191 ∧ 128 ≤ e ∧ e ≤ 191 ∧ 128 ≤ f ∧ f ≤ 191 ∧ (c = 240 → 144 ≤ d) ∧ (c = 244 → d ≤ 143) ∧ x = ((c % 8 * 64 + d % 64) * 64 + e % 64) * 64 + f % 64)) := by
 match b, hn with
 | c :: t, _ =>
  simp only [one] at h ⊢
  by_cases h0 : c < 128
  ·rw [if_pos h0]
   exact ⟨c, 1, rfl, .inl ⟨t, rfl, rfl, h0⟩⟩
  rw [if_neg h0] at h ⊢
  by_cases hz : (nd c).1 = 0
  ·rw [if_pos hz] at h; simp at h
  rw [if_neg hz] at h ⊢
  rcases nd_cases hz with ⟨e1, h1, h2, e2⟩ | ⟨e1, h1, h2, h3, h4, h5, h6, _⟩ | ⟨e1, h1, h2, h3, h4, h5, h6, _⟩
  ·rw [e1, e2] at h ⊢
   match t, h with
   | [], h => simp [more] at h
   | d :: t, h =>
    simp only [more] at h ⊢
    split at h
    ·simp at h
    ·rename_i hd
     rw [if_neg hd]
     exact ⟨_, _, rfl, .inr (.inl ⟨c, d, t, rfl, rfl, h1, h2, by omega, by omega, rfl⟩)⟩
  ·rw [e1] at h ⊢
   match t, h with
   | [], h => simp [more] at h
   | [d], h => simp only [more] at h; split at h <;> simp at h
   | d :: e :: t, h =>
    simp only [more] at h ⊢
    split at h
    ·simp at h
    ·rename_i hd
     rw [if_neg hd]
     split at h
     ·simp at h
     ·rename_i he
      rw [if_neg he]
      exact ⟨_, _, rfl, .inr (.inr (.inl ⟨c, d, e, t, rfl, rfl, h1, h2, by omega, by omega, by omega, by omega, by omega, by omega, rfl⟩))⟩
  ·rw [e1] at h ⊢
   match t, h with
   | [], h => simp [more] at h
   | [d], h => simp only [more] at h; split at h <;> simp at h
   | [d, e], h =>
    simp only [more] at h
    split at h
    ·simp at h
    ·split at h <;> simp at h
   | d :: e :: f :: t, h =>
    simp only [more] at h ⊢
    split at h
    ·simp at h
    ·rename_i hd
     rw [if_neg hd]
     split at h
     ·simp at h
     ·rename_i he
      rw [if_neg he]
      split at h
      ·simp at h
      ·rename_i hf
       rw [if_neg hf]
       exact ⟨_, _, rfl, .inr (.inr (.inr ⟨c, d, e, f, t, rfl, rfl, h1, h2, by omega, by omega, by omega, by omega, by omega, by omega, by omega, by omega, rfl⟩))⟩
theorem more_no : ∀ (n : Nat) (r lo hi : Int) (k : Nat) (t : List Int), (more n r lo hi k t).2.2 = false → (more n r lo hi k t).1 = 65533 ∧ (more n r lo hi k t).2.1 < k + n
 | 0, _, _, _, _, _, h => by simp [more] at h
 | n + 1, _, _, _, _, [], _ => by simp [more]
 | n + 1, r, lo, hi, k, c :: t, h => by
  unfold more at h ⊢
  split
  ·simp
  ·rename_i hc
   rw [if_neg hc] at h
   have := more_no n _ _ _ _ _ h
   omega
theorem one_no {b : List Int} (h : (one b).2.2 = false) (hn : b ≠ []) : (one b).1 = 65533 ∧ ((one b).2.1 < 3 ∨ ∃ c t, b = c :: t ∧ 240 ≤ c) := by
 match b, hn with
 | c :: t, _ =>
  simp only [one] at h ⊢
  split
  ·rename_i h0; rw [if_pos h0] at h; simp at h
  ·rename_i h0
   rw [if_neg h0] at h
   split
   ·simp
   ·rename_i hz
    rw [if_neg hz] at h
    have := more_no _ _ _ _ _ _ h
    refine ⟨this.1, ?_⟩
    rcases nd_cases hz with ⟨e1, h1, h2, _⟩ | ⟨e1, h1, h2, _⟩ | ⟨e1, h1, h2, _⟩
    ·left; omega
    ·left; omega
    ·right; exact ⟨c, t, rfl, h1⟩
theorem scal_ok {x : Int} (h0 : 0 ≤ x) (h1 : x ≤ 1114111) (h2 : x < 55296 ∨ 57343 < x) : scal x = x := by
 unfold scal
 rw [if_neg]
 simp
 omega
theorem scal_iff (x : Int) : scal x = x ↔ 0 ≤ x ∧ x ≤ 1114111 ∧ (x < 55296 ∨ 57343 < x) := by
 constructor
 ·intro h
  unfold scal at h
  split at h
  ·subst h; omega
  ·rename_i h1; simp at h1; omega
 ·intro ⟨h0, h1, h2⟩; exact scal_ok h0 h1 h2
theorem scal_scal (x : Int) : scal (scal x) = scal x := by
 unfold scal
 split
 ·rfl
 ·rfl
theorem one_enc {b : List Int} (hy : By b) (h : (one b).2.2 = true) (hn : b ≠ []) : scal (one b).1 = (one b).1 ∧ enc (one b).1 = b.take (one b).2.1 := by
 obtain ⟨x, k, e, hc⟩ := one_ok h hn
 rw [e]
 simp only
 rcases hc with ⟨t, rfl, rfl, hx⟩ | ⟨c, d, t, rfl, rfl, h1, h2, h3, h4, rfl⟩ | ⟨c, d, f, t, rfl, rfl, h1, h2, h3, h4, h5, h6, h7, h8, rfl⟩ | ⟨c, d, f, g, t, rfl, rfl, h1, h2, h3, h4, h5, h6, h7, h8, h9, h10, rfl⟩
 ·have := hy x (List.mem_cons_self ..)
  refine ⟨scal_ok (by omega) (by omega) (by omega), ?_⟩
  unfold enc
  rw [if_pos hx]; rfl
 ·refine ⟨scal_ok (by omega) (by omega) (by omega), ?_⟩
  unfold enc
  rw [if_neg (by omega), if_pos (by omega)]
  simp only [List.take_succ_cons, List.take_zero, List.cons.injEq, and_true]
  omega
 ·refine ⟨scal_ok (by omega) (by omega) (by omega), ?_⟩
  unfold enc
  rw [if_neg (by omega), if_neg (by omega), if_pos (by omega)]
  simp only [List.take_succ_cons, List.take_zero, List.cons.injEq, and_true]
  omega
 ·refine ⟨scal_ok (by omega) (by omega) (by omega), ?_⟩
  unfold enc
  rw [if_neg (by omega), if_neg (by omega), if_neg (by omega)]
  simp only [List.take_succ_cons, List.take_zero, List.cons.injEq, and_true]
  omega
theorem one_scal {b : List Int} (hy : By b) (hn : b ≠ []) : scal (one b).1 = (one b).1 := by
 cases h : (one b).2.2 with
 | true => exact (one_enc hy h hn).1
 | false => rw [(one_no h hn).1]; rfl
theorem nd_c (c : Int) : (194 ≤ c ∧ c ≤ 223 → nd c = (1, 128, 191)) ∧ (c = 224 → nd c = (2, 160, 191)) ∧ (c = 237 → nd c = (2, 128, 159)) ∧ (225 ≤ c ∧ c ≤ 239 ∧ c ≠ 237 → nd c = (2, 128, 191)) ∧
  (c = 240 → nd c = (3, 144, 191)) ∧ (241 ≤ c ∧ c ≤ 243 → nd c = (3, 128, 191)) ∧ (c = 244 → nd c = (3, 128, 143)) := by
 unfold nd
 refine ⟨?_, ?_, ?_, ?_, ?_, ?_, ?_⟩ <;> intro h
 ·rw [if_pos h]
 ·rw [if_neg (by omega), if_pos h]
 ·rw [if_neg (by omega), if_neg (by omega), if_pos h]
 ·rw [if_neg (by omega), if_neg (by omega), if_neg (by omega), if_pos (by omega)]
 ·rw [if_neg (by omega), if_neg (by omega), if_neg (by omega), if_neg (by omega), if_pos h]
 ·rw [if_neg (by omega), if_neg (by omega), if_neg (by omega), if_neg (by omega), if_neg (by omega), if_pos h]
 ·rw [if_neg (by omega), if_neg (by omega), if_neg (by omega), if_neg (by omega), if_neg (by omega), if_neg (by omega), if_pos h]
theorem one_of_enc {x : Int} (hs : scal x = x) (rest : List Int) : one (enc x ++ rest) = (x, (enc x).length, true) := by
 obtain ⟨h0, h1, h2⟩ := (scal_iff x).mp hs
 unfold enc
 by_cases c1 : x < 128
 ·rw [if_pos c1]
  simp only [List.cons_append, List.nil_append, one, if_pos c1]; rfl
 rw [if_neg c1]
 by_cases c2 : x < 2048
 ·rw [if_pos c2]
  have e := (nd_c (192 + x / 64)).1 (by omega)
  simp only [List.cons_append, List.nil_append, one, if_neg (show ¬ 192 + x / 64 < 128 by omega), e, Nat.one_ne_zero, if_false, more, if_neg (show ¬ (128 + x % 64 < 128 ∨ 191 < 128 + x % 64) by omega)]
  simp only [List.length_cons, List.length_nil, Prod.mk.injEq, and_true]
  omega
 rw [if_neg c2]
 by_cases c3 : x < 65536
 ·rw [if_pos c3]
  have e : ∃ lo hi, nd (224 + x / 4096) = (2, lo, hi) ∧ ¬ (128 + x / 64 % 64 < lo ∨ hi < 128 + x / 64 % 64) := by
   by_cases g1 : 224 + x / 4096 = 224
   ·exact ⟨_, _, (nd_c _).2.1 g1, by omega⟩
   by_cases g2 : 224 + x / 4096 = 237
   ·exact ⟨_, _, (nd_c _).2.2.1 g2, by omega⟩
   exact ⟨_, _, (nd_c _).2.2.2.1 (by omega), by omega⟩
  obtain ⟨lo, hi, e, hd⟩ := e
  simp only [List.cons_append, List.nil_append, one, if_neg (show ¬ 224 + x / 4096 < 128 by omega), e, if_neg (show ¬ ((2 : Nat) = 0) by omega), more, if_neg hd, if_neg (show ¬ (128 + x % 64 < 128 ∨ 191 < 128 + x % 64) by omega)]
  simp only [List.length_cons, List.length_nil, Prod.mk.injEq, and_true]
  omega
 rw [if_neg c3]
 have e : ∃ lo hi, nd (240 + x / 262144) = (3, lo, hi) ∧ ¬ (128 + x / 4096 % 64 < lo ∨ hi < 128 + x / 4096 % 64) := by
  by_cases g1 : 240 + x / 262144 = 240
  ·exact ⟨_, _, (nd_c _).2.2.2.2.1 g1, by omega⟩
  by_cases g2 : 240 + x / 262144 = 244
  ·exact ⟨_, _, (nd_c _).2.2.2.2.2.2 g2, by omega⟩
  exact ⟨_, _, (nd_c _).2.2.2.2.2.1 (by omega), by omega⟩
 obtain ⟨lo, hi, e, hd⟩ := e
 simp only [List.cons_append, List.nil_append, one, if_neg (show ¬ 240 + x / 262144 < 128 by omega), e, if_neg (show ¬ ((3 : Nat) = 0) by omega), more, if_neg hd, if_neg (show ¬ (128 + x / 64 % 64 < 128 ∨ 191 < 128 + x / 64 % 64) by omega), if_neg (show ¬ (128 + x % 64 < 128 ∨ 191 < 128 + x % 64) by omega)]
 simp only [List.length_cons, List.length_nil, Prod.mk.injEq, and_true]
 omega
def isRep (b : List Int) : Bool := b.take 3 == [239, 191, 189]
def bad (b : List Int) : Bool := (one b).1 == 65533 && (decide ((one b).2.1 < 3) || !(isRep b))
theorem bad_eq {b : List Int} (hy : By b) (hn : b ≠ []) : bad b = !(one b).2.2 := by
 cases h : (one b).2.2 with
 | false =>
  obtain ⟨h1, h2⟩ := one_no h hn
  rw [bad, h1]
  rcases h2 with h2 | ⟨c, t, rfl, hc⟩
  ·simp [h2]
  ·have : isRep (c :: t) = false := by
    simp only [isRep, List.take_succ_cons, beq_eq_false_iff_ne, ne_eq, List.cons.injEq, not_and]
    omega
   simp [this]
 | true =>
  obtain ⟨h1, h2⟩ := one_enc hy h hn
  by_cases hx : (one b).1 = 65533
  ·rw [hx] at h2
   have e : enc 65533 = [239, 191, 189] := by decide
   have hk : (one b).2.1 = 3 := by
    have := congrArg List.length h2
    rw [e, List.length_take] at this
    have hk := (show (one b).2.1 ≤ b.length from by
     cases b with
     | nil => exact absurd rfl hn
     | cons c t => exact (one_k c t).2.2)
    simp at this
    omega
   rw [hk, e] at h2
   have : isRep b = true := by rw [isRep, ← h2]; rfl
   simp [bad, hk, this]
  ·have : ((one b).1 == 65533) = false := by simp [hx]
   simp [bad, this]
theorem raw_b {b : List Int} (h : b ≠ []) : raw b = (one b).1 :: raw (b.drop (one b).2.1) := by
 cases b with
 | nil => exact absurd rfl h
 | cons c t => exact raw_cons c t
theorem whole_b {b : List Int} (h : b ≠ []) : whole b = ((one b).2.2 && whole (b.drop (one b).2.1)) := by
 cases b with
 | nil => exact absurd rfl h
 | cons c t => exact whole_cons c t
theorem one_b {b : List Int} (h : b ≠ []) : 1 ≤ (one b).2.1 ∧ (one b).2.1 ≤ 4 ∧ (one b).2.1 ≤ b.length := by
 cases b with
 | nil => exact absurd rfl h
 | cons c t => exact one_k c t
theorem bytes_ind {p : List Int → Prop} (h0 : p []) (h1 : ∀ b, b ≠ [] → p (b.drop (one b).2.1) → p b) (b : List Int) : p b := by
 suffices ∀ n (b : List Int), b.length ≤ n → p b from this b.length b (Nat.le_refl _)
 intro n
 induction n with
 | zero => intro b hb; obtain rfl : b = [] := List.eq_nil_of_length_eq_zero (by omega); exact h0
 | succ n ih =>
  intro b hb
  by_cases hn : b = []
  ·subst hn; exact h0
  ·have := one_b hn
   exact h1 b hn (ih _ (by rw [List.length_drop]; omega))
theorem raw_count (b : List Int) : (raw b).length ≤ b.length ∧ b.length ≤ 4 * (raw b).length := by
 refine bytes_ind (p := fun b => (raw b).length ≤ b.length ∧ b.length ≤ 4 * (raw b).length) (by simp [raw_nil]) (fun b hn ih => ?_) b
 have hk := one_b hn
 rw [raw_b hn, List.length_cons]
 rw [List.length_drop] at ih
 omega
theorem raw_scal (b : List Int) : By b → ∀ x ∈ raw b, scal x = x := by
 refine bytes_ind (p := fun b => By b → ∀ x ∈ raw b, scal x = x) (by simp [raw_nil]) (fun b hn ih hy => ?_) b
 rw [raw_b hn]
 intro x hx
 rcases List.mem_cons.mp hx with rfl | hx
 ·exact one_scal hy hn
 ·exact ih (hy.drop _) x hx
def encs (l : List Int) : List Int := l.flatMap fun x => enc (scal x)
theorem enc_by (x : Int) (h0 : 0 ≤ x) (h1 : x ≤ 1114111) : By (enc x) := by
 unfold enc
 intro c hc
 split at hc
 ·simp only [List.mem_cons, List.not_mem_nil, or_false] at hc; omega
 ·split at hc
  ·simp only [List.mem_cons, List.not_mem_nil, or_false] at hc; omega
  ·split at hc <;> simp only [List.mem_cons, List.not_mem_nil, or_false] at hc <;> omega
theorem encs_by (l : List Int) : By (encs l) := by
 intro c hc
 obtain ⟨x, _, hx⟩ := List.mem_flatMap.mp hc
 have := scal_in x
 exact enc_by _ this.1 this.2 c hx
theorem enc_ne (x : Int) : enc x ≠ [] := by
 unfold enc
 split
 ·simp
 ·split
  ·simp
  ·split <;> simp
theorem encs_cons (x : Int) (l : List Int) : encs (x :: l) = enc (scal x) ++ encs l := rfl
theorem raw_encs : ∀ l : List Int, raw (encs l) = l.map scal ∧ whole (encs l) = true
 | [] => ⟨rfl, rfl⟩
 | x :: l => by
  have ih := raw_encs l
  have h1 := one_of_enc (scal_scal x) (encs l)
  have hn : enc (scal x) ++ encs l ≠ [] := by simp [enc_ne]
  rw [encs_cons, raw_b hn, whole_b hn, h1]
  simp only [List.drop_left, List.map_cons, ih.1, ih.2, Bool.and_self, and_self]
theorem encs_raw (b : List Int) : By b → whole b = true → encs (raw b) = b := by
 refine bytes_ind (p := fun b => By b → whole b = true → encs (raw b) = b) (fun _ _ => rfl) (fun b hn ih hy h => ?_) b
 rw [whole_b hn, Bool.and_eq_true] at h
 obtain ⟨h1, h2⟩ := one_enc hy h.1 hn
 rw [raw_b hn, encs_cons, h1, h2, ih (hy.drop _) h.2, List.take_append_drop]
def dstep (back : Bool) (x : Int) : List Int := if x == 10 && back then [] else [if x == 13 || x == 12 then 10 else if x == 0 then 65533 else x]
def dec : Bool → List Int → List Int
 | _, [] => []
 | back, x :: l => dstep back x ++ dec (x == 13) l
def bom (b : List Int) : Bool := b.take 3 == [239, 187, 191]
def strip (b : List Int) : List Int := if bom b = true then b.drop 3 else b
def decode (b : List Int) : List Int := dec false (raw (strip b))
def fine (x : Int) : Prop := x ≠ 0 ∧ x ≠ 12 ∧ x ≠ 13 ∧ scal x = x
theorem dec_fine : ∀ (l : List Int) (back : Bool), (∀ x ∈ l, scal x = x) → ∀ x ∈ dec back l, fine x
 | [], _, _ => by simp [dec]
 | x :: l, back, h => by
  intro y hy
  rw [dec, List.mem_append] at hy
  rcases hy with hy | hy
  ·have hx := h x (List.mem_cons_self ..)
   unfold dstep at hy
   split at hy
   ·simp at hy
   ·simp only [List.mem_cons, List.not_mem_nil, or_false] at hy
    split at hy
    ·subst hy; exact ⟨by omega, by omega, by omega, rfl⟩
    ·rename_i h1
     split at hy
     ·subst hy; exact ⟨by omega, by omega, by omega, rfl⟩
     ·rename_i h2
      subst hy
      simp at h1 h2
      exact ⟨h2, h1.2, h1.1, hx⟩
  ·exact dec_fine l _ (fun x hx => h x (List.mem_cons_of_mem _ hx)) y hy
theorem dec_same : ∀ (l : List Int), (∀ x ∈ l, fine x) → dec false l = l
 | [], _ => rfl
 | x :: l, h => by
  obtain ⟨h0, h1, h2, _⟩ := h x (List.mem_cons_self ..)
  have e : (x == 13) = false := by simp [h2]
  have e1 : (x == 12) = false := by simp [h1]
  have e0 : (x == 0) = false := by simp [h0]
  rw [dec, e, dec_same l fun y hy => h y (List.mem_cons_of_mem _ hy)]
  simp [dstep, e, e1, e0]
theorem encs_bom {l : List Int} (h : ∀ x ∈ l, fine x) (h0 : l[0]? ≠ some 65279) : bom (encs l) = false := by
 cases l with
 | nil => rfl
 | cons x l =>
  have hx := (h x (List.mem_cons_self ..)).2.2.2
  rw [encs_cons, hx]
  unfold bom
  simp only [beq_eq_false_iff_ne, ne_eq]
  intro he
  apply h0
  have h1 := one_of_enc hx (encs l)
  have e : enc x ++ encs l = [239, 187, 191] ++ (enc x ++ encs l).drop 3 := by rw [← he, List.take_append_drop]
  have h2 := one_of_enc (x := 65279) (by decide) ((enc x ++ encs l).drop 3)
  have e2 : enc 65279 = [239, 187, 191] := by decide
  rw [e2, ← e, h1] at h2
  simp only [Prod.mk.injEq] at h2
  simp [h2.1]
theorem decode_again {l : List Int} (h : ∀ x ∈ l, fine x) (h0 : l[0]? ≠ some 65279) : decode (encs l) = l := by
 have e : l.map scal = l := by
  rw [List.map_congr_left (fun x hx => (h x hx).2.2.2), List.map_id']
 rw [decode, strip, if_neg (by rw [encs_bom h h0]; simp), (raw_encs l).1, e, dec_same l h]
theorem strip_by {b : List Int} (hy : By b) : By (strip b) := by
 unfold strip
 split
 ·exact hy.drop _
 ·exact hy
theorem decode_fine {b : List Int} (hy : By b) : ∀ x ∈ decode b, fine x := dec_fine _ _ (raw_scal _ (strip_by hy))
end Go.Lift.Utf
end

section
namespace Go.Lift.Tok
set_option linter.unusedVariables false
open Utf
def chr (s : List Int) (k : Nat) : Int := match s[k]? with
 | some x => x
 | none => -1
def dig (c : Int) : Bool := decide (48 ≤ c) && decide (c ≤ 57)
def fst1 (c : Int) : Bool := decide (97 ≤ c) && decide (c ≤ 122) || decide (65 ≤ c) && decide (c ≤ 90) || c == 95 || decide (128 ≤ c)
def ltr (c : Int) : Bool := fst1 c || dig c || c == 45
def blk (c : Int) : Bool := c == 10 || c == 9 || c == 32
def unp (c : Int) : Bool := decide (0 ≤ c) && decide (c ≤ 8) || c == 11 || decide (14 ≤ c) && decide (c ≤ 31) || c == 127
def hex (c : Int) : Int := if dig c = true then c - 48 else if (decide (97 ≤ c) && decide (c ≤ 102)) = true then c - 97 + 10 else if (decide (65 ≤ c) && decide (c ≤ 70)) = true then c - 65 + 10 else -1
def esc (a b : Int) : Bool := a == 92 && b != 10
def beg (a b c : Int) : Bool := if (a == 45) = true then fst1 b || b == 45 || esc b c else fst1 a || esc a b
def num (a b c : Int) : Bool := if (a == 43 || a == 45) = true then dig b || b == 46 && dig c else dig a || a == 46 && dig b
def quo (c : Int) : Bool := c == 34 || c == 39
def blanks (s : List Int) : List Int := s.dropWhile blk
def hexN : Nat → Int → List Int → Int × List Int
 | 0, n, s => (n, s)
 | _ + 1, n, [] => (n, [])
 | k + 1, n, c :: t => if hex c < 0 then (n, c :: t) else hexN k (n * 16 + hex c) t
def one1 : List Int → List Int
 | [] => []
 | d :: u => if blk d = true then u else d :: u
def escd : List Int → Int × List Int
 | [] => (65533, [])
 | c :: t => if hex c < 0 then (c, t) else
  (if (hexN 6 0 (c :: t)).1 = 0 then 65533 else scal (hexN 6 0 (c :: t)).1, one1 (hexN 6 0 (c :: t)).2)
def nameN : Nat → List Int → List Int × List Int
 | 0, s => ([], s)
 | _ + 1, [] => ([], [])
 | n + 1, c :: t =>
  if ltr c = true then (c :: (nameN n t).1, (nameN n t).2)
  else if esc c (chr t 0) = true then ((escd t).1 :: (nameN n (escd t).2).1, (nameN n (escd t).2).2)
  else ([], c :: t)
def name (s : List Int) : List Int × List Int := nameN s.length s
def skipR : List Int → List Int
 | [] => []
 | [_] => []
 | c :: d :: t => if c = 42 ∧ d = 47 then t else skipR (d :: t)
def remN : Nat → List Int → List Int
 | 0, s => s
 | n + 1, c :: d :: t => if c = 47 ∧ d = 42 then remN n (skipR t) else c :: d :: t
 | _ + 1, s => s
def rems (s : List Int) : List Int := remN s.length s
def txtN (sign : Int) : Nat → List Int → Bool × List Int × List Int
 | 0, s => (true, [], s)
 | _ + 1, [] => (true, [], [])
 | n + 1, c :: t =>
  if c = 10 then (false, [], c :: t)
  else if c = sign then (true, [], t)
  else if c = 92 then
   match t with
   | [] => (true, [], [])
   | d :: u => if d = 10 then txtN sign n u else ((txtN sign n (escd t).2).1, (escd t).1 :: (txtN sign n (escd t).2).2.1, (txtN sign n (escd t).2).2.2)
  else ((txtN sign n t).1, c :: (txtN sign n t).2.1, (txtN sign n t).2.2)
def txt (sign : Int) (s : List Int) : Bool × List Int × List Int := txtN sign s.length s
def badN : Nat → List Int → List Int
 | 0, s => s
 | _ + 1, [] => []
 | n + 1, c :: t => if c = 41 then t else if esc c (chr t 0) = true then badN n (escd t).2 else badN n t
def badu (s : List Int) : List Int := badN s.length s
def urlN : Nat → List Int → Bool × List Int × List Int
 | 0, s => (true, [], s)
 | _ + 1, [] => (true, [], [])
 | n + 1, c :: t =>
  if c = 41 then (true, [], t)
  else if blk c = true then (if chr (blanks t) 0 = -1 ∨ chr (blanks t) 0 = 41 then (true, [], (blanks t).drop 1) else (false, [], badu (blanks t)))
  else if (quo c || c == 40 || unp c) = true then (false, [], badu (c :: t))
  else if c = 92 then
   if esc c (chr t 0) = true then ((urlN n (escd t).2).1, (escd t).1 :: (urlN n (escd t).2).2.1, (urlN n (escd t).2).2.2)
   else (false, [], badu (c :: t))
  else ((urlN n t).1, c :: (urlN n t).2.1, (urlN n t).2.2)
def url (s : List Int) : Bool × List Int × List Int := urlN (blanks s).length (blanks s)
structure Tk where
 kind : Int
 text : List Int
 num : Int × Int
 whole : Bool
 id : Bool
 deriving DecidableEq
end Go.Lift.Tok
end
