/- UTF-8, tokens, numbers, the texts of tokens: what is computed, in plain Lean. -/
import Derived.Lib.TrailingZeros
import Derived.Lib.ItoaNum
import Derived.Test.YtnfdhgadidacaaaGreatDoorLd
section
/- Characters to bytes: the arithmetic. -/
namespace Go.Lift.Utf
set_option linter.unusedVariables false
set_option linter.unusedSimpArgs false

def scal (x : Int) : Int := if (decide (x < 0) || decide (1114111 < x) || decide (55296 ≤ x) && decide (x ≤ 57343)) = true then 65533 else x
theorem scal_in (x : Int) : 0 ≤ scal x ∧ scal x ≤ 1114111 := by
  unfold scal
  split
  · omega
  · rename_i h
    simp at h
    omega
/-- the bytes of a character's number -/
def enc (y : Int) : List Int :=
  if y < 128 then [y] else if y < 2048 then [192 + y / 64, 128 + y % 64] else if y < 65536 then [224 + y / 4096, 128 + y / 64 % 64, 128 + y % 64]
  else [240 + y / 262144, 128 + y / 4096 % 64, 128 + y / 64 % 64, 128 + y % 64]

theorem or8_192 : ∀ z : Fin 32, (BitVec.ofInt 8 192 ||| BitVec.ofInt 8 (z.val : Int)).toNat = 192 + z.val := by decide
theorem or8_224 : ∀ z : Fin 16, (BitVec.ofInt 8 224 ||| BitVec.ofInt 8 (z.val : Int)).toNat = 224 + z.val := by decide
theorem or8_240 : ∀ z : Fin 8, (BitVec.ofInt 8 240 ||| BitVec.ofInt 8 (z.val : Int)).toNat = 240 + z.val := by decide
theorem or8_128 : ∀ z : Fin 64, (BitVec.ofInt 8 128 ||| BitVec.ofInt 8 (z.val : Int)).toNat = 128 + z.val := by decide
theorem or32_192 : ∀ z : Fin 32, (BitVec.ofInt 32 192 ||| BitVec.ofInt 32 (z.val : Int)).toNat = 192 + z.val := by decide
theorem or32_224 : ∀ z : Fin 16, (BitVec.ofInt 32 224 ||| BitVec.ofInt 32 (z.val : Int)).toNat = 224 + z.val := by decide
theorem or32_240 : ∀ z : Fin 8, (BitVec.ofInt 32 240 ||| BitVec.ofInt 32 (z.val : Int)).toNat = 240 + z.val := by decide
theorem or32_128 : ∀ z : Fin 64, (BitVec.ofInt 32 128 ||| BitVec.ofInt 32 (z.val : Int)).toNat = 128 + z.val := by decide
theorem of_fin {n : Nat} {p : Int → Int → Prop} (h : ∀ z : Fin n, p (z.val : Int) (z.val : Int)) {y : Int} (h0 : 0 ≤ y) (h1 : y < n) : p y y := by
  have := h ⟨y.toNat, by omega⟩
  have e : ((y.toNat : Nat) : Int) = y := by omega
  simpa [e] using this
theorem and63 {y : Int} (h0 : 0 ≤ y) (h1 : y ≤ 2147483647) : ((BitVec.ofInt 32 y &&& BitVec.ofInt 32 63).toNat : Int) = y % 64 := by
  rw [BitVec.toNat_and]
  have e1 : (BitVec.ofInt 32 y).toNat = y.toNat := by
    rw [BitVec.toNat_ofInt]
    omega
  have e2 : (BitVec.ofInt 32 63).toNat = 2 ^ 6 - 1 := by decide
  rw [e1, e2, Nat.and_two_pow_sub_one_eq_mod]
  omega

/-- bits that are apart add up -/
theorem o8 {c : Int} {n : Nat} (hc : (c = 192 ∧ n = 32) ∨ (c = 224 ∧ n = 16) ∨ (c = 240 ∧ n = 8) ∨ (c = 128 ∧ n = 64)) {y : Int} (h0 : 0 ≤ y) (h1 : y < n) : ((BitVec.ofInt 8 c ||| BitVec.ofInt 8 y).toNat : Int) = c + y := by
  obtain ⟨z, rfl⟩ : ∃ z : Nat, y = z := ⟨y.toNat, by omega⟩
  rcases hc with ⟨rfl, rfl⟩ | ⟨rfl, rfl⟩ | ⟨rfl, rfl⟩ | ⟨rfl, rfl⟩
  · have := or8_192 ⟨z, by omega⟩; simp only at this; omega
  · have := or8_224 ⟨z, by omega⟩; simp only at this; omega
  · have := or8_240 ⟨z, by omega⟩; simp only at this; omega
  · have := or8_128 ⟨z, by omega⟩; simp only at this; omega
theorem o32 {c : Int} {n : Nat} (hc : (c = 192 ∧ n = 32) ∨ (c = 224 ∧ n = 16) ∨ (c = 240 ∧ n = 8) ∨ (c = 128 ∧ n = 64)) {y : Int} (h0 : 0 ≤ y) (h1 : y < n) : ((BitVec.ofInt 32 c ||| BitVec.ofInt 32 y).toNat : Int) = c + y := by
  obtain ⟨z, rfl⟩ : ∃ z : Nat, y = z := ⟨y.toNat, by omega⟩
  rcases hc with ⟨rfl, rfl⟩ | ⟨rfl, rfl⟩ | ⟨rfl, rfl⟩ | ⟨rfl, rfl⟩
  · have := or32_192 ⟨z, by omega⟩; simp only at this; omega
  · have := or32_224 ⟨z, by omega⟩; simp only at this; omega
  · have := or32_240 ⟨z, by omega⟩; simp only at this; omega
  · have := or32_128 ⟨z, by omega⟩; simp only at this; omega
end Go.Lift.Utf
end

section
/- Bytes to characters: what is computed, in plain Lean. -/
namespace Go.Lift.Utf
set_option linter.unusedVariables false
set_option linter.unusedSimpArgs false

/-- how many more bytes, from which to which the next one, of a first byte of 194 or more -/
def nd (c : Int) : Nat × Int × Int :=
  if 194 ≤ c ∧ c ≤ 223 then (1, 128, 191)
  else if c = 224 then (2, 160, 191)
  else if c = 237 then (2, 128, 159)
  else if 225 ≤ c ∧ c ≤ 239 then (2, 128, 191)
  else if c = 240 then (3, 144, 191)
  else if 241 ≤ c ∧ c ≤ 243 then (3, 128, 191)
  else if c = 244 then (3, 128, 143)
  else (0, 0, 0)

/-- the bytes behind the first one; `k` are read -/
def more : Nat → Int → Int → Int → Nat → List Int → Int × Nat × Bool
  | 0, r, _, _, k, _ => (r, k, true)
  | _ + 1, _, _, _, k, [] => (65533, k, false)
  | n + 1, r, lo, hi, k, c :: t => if c < lo ∨ hi < c then (65533, k, false) else more n (r * 64 + c % 64) 128 191 (k + 1) t

/-- what stands in front: the character, how many bytes, and whether it is one -/
def one : List Int → Int × Nat × Bool
  | [] => (65533, 1, false)
  | c :: t => if c < 128 then (c, 1, true) else if (nd c).1 = 0 then (65533, 1, false) else more (nd c).1 (c % 2 ^ (6 - (nd c).1)) (nd c).2.1 (nd c).2.2 1 t

/-- a byte -/
abbrev By (b : List Int) : Prop := ∀ c ∈ b, 0 ≤ c ∧ c ≤ 255

theorem or64 {r y : Int} (h0 : 0 ≤ r) (h1 : r ≤ 1000000) (h2 : 0 ≤ y) (h3 : y < 64) : (ior .i32 (r * 64) y) = r * 64 + y := by
  obtain ⟨m, rfl⟩ : ∃ m : Nat, r = m := ⟨r.toNat, by omega⟩
  obtain ⟨z, rfl⟩ : ∃ z : Nat, y = z := ⟨y.toNat, by omega⟩
  show ((BitVec.ofInt 32 ((m : Int) * 64) ||| BitVec.ofInt 32 (z : Int)).toNat : Int) = _
  rw [BitVec.toNat_or]
  have e1 : (BitVec.ofInt 32 ((m : Int) * 64)).toNat = m <<< 6 := by
    rw [BitVec.toNat_ofInt, Nat.shiftLeft_eq]
    omega
  have e2 : (BitVec.ofInt 32 (z : Int)).toNat = z := by
    rw [BitVec.toNat_ofInt]
    omega
  rw [e1, e2, ← Nat.shiftLeft_add_eq_or_of_lt (by omega), Nat.shiftLeft_eq]
  omega
theorem and8 {y : Int} {k : Nat} (hk : k ≤ 7) (h0 : 0 ≤ y) (h1 : y ≤ 255) : iand .u8 y (2 ^ k - 1) = y % 2 ^ k := by
  obtain ⟨z, rfl⟩ : ∃ z : Nat, y = z := ⟨y.toNat, by omega⟩
  show ((BitVec.ofInt 8 (z : Int) &&& BitVec.ofInt 8 ((2 : Int) ^ k - 1)).toNat : Int) = _
  rw [BitVec.toNat_and]
  have e1 : (BitVec.ofInt 8 (z : Int)).toNat = z := by
    rw [BitVec.toNat_ofInt]
    omega
  have hp : 2 ^ k ≤ 128 := by
    have : 2 ^ k ≤ 2 ^ 7 := Nat.pow_le_pow_right (by omega) hk
    omega
  have hq : 1 ≤ 2 ^ k := Nat.one_le_two_pow
  have e2 : (BitVec.ofInt 8 ((2 : Int) ^ k - 1)).toNat = 2 ^ k - 1 := by
    have e3 : (2 : Int) ^ k = ((2 ^ k : Nat) : Int) := by simp
    rw [BitVec.toNat_ofInt, e3]
    omega
  rw [e1, e2, Nat.and_two_pow_sub_one_eq_mod]
  simp
theorem and32 {y : Int} {k : Nat} (hk : k ≤ 7) (h0 : 0 ≤ y) (h1 : y ≤ 2147483647) : iand .i32 y (2 ^ k - 1) = y % 2 ^ k := by
  obtain ⟨z, rfl⟩ : ∃ z : Nat, y = z := ⟨y.toNat, by omega⟩
  show ((BitVec.ofInt 32 (z : Int) &&& BitVec.ofInt 32 ((2 : Int) ^ k - 1)).toNat : Int) = _
  rw [BitVec.toNat_and]
  have e1 : (BitVec.ofInt 32 (z : Int)).toNat = z := by
    rw [BitVec.toNat_ofInt]
    omega
  have hp : 2 ^ k ≤ 128 := by
    have : 2 ^ k ≤ 2 ^ 7 := Nat.pow_le_pow_right (by omega) hk
    omega
  have hq : 1 ≤ 2 ^ k := Nat.one_le_two_pow
  have e2 : (BitVec.ofInt 32 ((2 : Int) ^ k - 1)).toNat = 2 ^ k - 1 := by
    have e3 : (2 : Int) ^ k = ((2 ^ k : Nat) : Int) := by simp
    rw [BitVec.toNat_ofInt, e3]
    omega
  rw [e1, e2, Nat.and_two_pow_sub_one_eq_mod]
  simp
section
variable {y : Int} (h0 : 0 ≤ y) (h1 : y ≤ 255)
include h0 h1
theorem a63 : iand .u8 y 63 = y % 64 := and8 (k := 6) (by omega) h0 h1
theorem a31 : iand .u8 y 31 = y % 32 := and8 (k := 5) (by omega) h0 h1
theorem a15 : iand .u8 y 15 = y % 16 := and8 (k := 4) (by omega) h0 h1
theorem a7 : iand .u8 y 7 = y % 8 := and8 (k := 3) (by omega) h0 h1
theorem c63 : iand .i32 y 63 = y % 64 := and32 (k := 6) (by omega) h0 (by omega)
theorem c31 : iand .i32 y 31 = y % 32 := and32 (k := 5) (by omega) h0 (by omega)
theorem c15 : iand .i32 y 15 = y % 16 := and32 (k := 4) (by omega) h0 (by omega)
theorem c7 : iand .i32 y 7 = y % 8 := and32 (k := 3) (by omega) h0 (by omega)
end
/-- bytes to characters -/
def rawN : Nat → List Int → List Int
  | 0, _ => []
  | _ + 1, [] => []
  | n + 1, c :: t => (one (c :: t)).1 :: rawN n ((c :: t).drop (one (c :: t)).2.1)
def raw (b : List Int) : List Int := rawN b.length b
def wholeN : Nat → List Int → Bool
  | 0, _ => true
  | _ + 1, [] => true
  | n + 1, c :: t => (one (c :: t)).2.2 && wholeN n ((c :: t).drop (one (c :: t)).2.1)
def whole (b : List Int) : Bool := wholeN b.length b

theorem more_k : ∀ (n : Nat) (r lo hi : Int) (k : Nat) (t : List Int), k ≤ (more n r lo hi k t).2.1 ∧ (more n r lo hi k t).2.1 ≤ k + n ∧ (more n r lo hi k t).2.1 ≤ k + t.length
  | 0, _, _, _, _, _ => by simp [more]
  | n + 1, _, _, _, _, [] => by simp [more]
  | n + 1, r, lo, hi, k, c :: t => by
    unfold more
    split
    · simp
    · have := more_k n (r * 64 + c % 64) 128 191 (k + 1) t
      simp only [List.length_cons]
      omega
theorem nd_le (c : Int) : (nd c).1 ≤ 3 := by
  unfold nd
  repeat' split
  all_goals simp
theorem one_k (c : Int) (t : List Int) : 1 ≤ (one (c :: t)).2.1 ∧ (one (c :: t)).2.1 ≤ 4 ∧ (one (c :: t)).2.1 ≤ (c :: t).length := by
  simp only [one]
  split
  · simp
  · split
    · simp
    · have := more_k (nd c).1 (c % 2 ^ (6 - (nd c).1)) (nd c).2.1 (nd c).2.2 1 t
      have := nd_le c
      simp only [List.length_cons]
      omega
theorem rawN_more : ∀ (n m : Nat) (b : List Int), b.length ≤ n → b.length ≤ m → rawN n b = rawN m b
  | 0, 0, _, _, _ => rfl
  | 0, m + 1, [], _, _ => rfl
  | n + 1, 0, [], _, _ => rfl
  | n + 1, m + 1, [], _, _ => rfl
  | n + 1, m + 1, c :: t, h1, h2 => by
    have := one_k c t
    simp only [rawN]
    rw [rawN_more n m _ (by rw [List.length_drop]; omega) (by rw [List.length_drop]; omega)]
theorem wholeN_more : ∀ (n m : Nat) (b : List Int), b.length ≤ n → b.length ≤ m → wholeN n b = wholeN m b
  | 0, 0, _, _, _ => rfl
  | 0, m + 1, [], _, _ => rfl
  | n + 1, 0, [], _, _ => rfl
  | n + 1, m + 1, [], _, _ => rfl
  | n + 1, m + 1, c :: t, h1, h2 => by
    have := one_k c t
    simp only [wholeN]
    rw [wholeN_more n m _ (by rw [List.length_drop]; omega) (by rw [List.length_drop]; omega)]
theorem raw_nil : raw [] = [] := rfl
theorem raw_cons (c : Int) (t : List Int) : raw (c :: t) = (one (c :: t)).1 :: raw ((c :: t).drop (one (c :: t)).2.1) := by
  have := one_k c t
  show (one (c :: t)).1 :: rawN t.length ((c :: t).drop (one (c :: t)).2.1) = _
  rw [raw, rawN_more _ _ _ (by rw [List.length_drop, List.length_cons]; omega) (Nat.le_refl _)]
theorem whole_nil : whole [] = true := rfl
theorem whole_cons (c : Int) (t : List Int) : whole (c :: t) = ((one (c :: t)).2.2 && whole ((c :: t).drop (one (c :: t)).2.1)) := by
  have := one_k c t
  show ((one (c :: t)).2.2 && wholeN t.length ((c :: t).drop (one (c :: t)).2.1)) = _
  rw [whole, wholeN_more _ _ _ (by rw [List.length_drop, List.length_cons]; omega) (Nat.le_refl _)]
theorem By.drop {b : List Int} (h : By b) (n : Nat) : By (b.drop n) := fun c hc => h c (List.mem_of_mem_drop hc)
theorem raw_len : ∀ (n : Nat) (b : List Int), (rawN n b).length ≤ b.length
  | 0, _ => by simp [rawN]
  | n + 1, [] => by simp [rawN]
  | n + 1, c :: t => by
    have := one_k c t
    have := raw_len n ((c :: t).drop (one (c :: t)).2.1)
    rw [List.length_drop] at this
    simp only [rawN, List.length_cons] at *
    omega
theorem shl6 {r : Int} (h0 : 0 ≤ r) (h1 : r ≤ 1000000) : IntKind.i32.wrap (ishl .i32 r 6) = r * 64 := wrap_i32 (by show _ ≤ r * 64; omega) (by show r * 64 ≤ _; omega)
end Go.Lift.Utf
end

section
/- Bytes and characters: the laws, in plain Lean. -/
namespace Go.Lift.Utf
set_option linter.unusedVariables false
set_option linter.unusedSimpArgs false

theorem nd_cases {c : Int} (h : (nd c).1 ≠ 0) : ((nd c).1 = 1 ∧ 194 ≤ c ∧ c ≤ 223 ∧ (nd c).2 = (128, 191)) ∨
    ((nd c).1 = 2 ∧ 224 ≤ c ∧ c ≤ 239 ∧ 128 ≤ (nd c).2.1 ∧ (nd c).2.2 ≤ 191 ∧ (c = 224 → 160 ≤ (nd c).2.1) ∧ (c = 237 → (nd c).2.2 ≤ 159) ∧ (c ≠ 224 → (nd c).2.1 = 128) ∧ (c ≠ 237 → (nd c).2.2 = 191) ∧ (c = 224 → (nd c).2.1 = 160) ∧ (c = 237 → (nd c).2.2 = 159)) ∨
    ((nd c).1 = 3 ∧ 240 ≤ c ∧ c ≤ 244 ∧ 128 ≤ (nd c).2.1 ∧ (nd c).2.2 ≤ 191 ∧ (c = 240 → (nd c).2.1 = 144) ∧ (c = 244 → (nd c).2.2 = 143) ∧ (c ≠ 240 → (nd c).2.1 = 128) ∧ (c ≠ 244 → (nd c).2.2 = 191)) := by
  unfold nd at h ⊢
  repeat' split
  all_goals simp_all
  all_goals omega

/-- what stands in front when all is well -/
theorem one_ok {b : List Int} (h : (one b).2.2 = true) (hn : b ≠ []) : ∃ x k, one b = (x, k, true) ∧ (
    (∃ t, b = x :: t ∧ k = 1 ∧ x < 128) ∨
    (∃ c d t, b = c :: d :: t ∧ k = 2 ∧ 194 ≤ c ∧ c ≤ 223 ∧ 128 ≤ d ∧ d ≤ 191 ∧ x = c % 32 * 64 + d % 64) ∨
    (∃ c d e t, b = c :: d :: e :: t ∧ k = 3 ∧ 224 ≤ c ∧ c ≤ 239 ∧ 128 ≤ d ∧ d ≤ 191 ∧ 128 ≤ e ∧ e ≤ 191 ∧ (c = 224 → 160 ≤ d) ∧ (c = 237 → d ≤ 159) ∧ x = (c % 16 * 64 + d % 64) * 64 + e % 64) ∨
    (∃ c d e f t, b = c :: d :: e :: f :: t ∧ k = 4 ∧ 240 ≤ c ∧ c ≤ 244 ∧ 128 ≤ d ∧ d ≤ 191 ∧ 128 ≤ e ∧ e ≤ 191 ∧ 128 ≤ f ∧ f ≤ 191 ∧ (c = 240 → 144 ≤ d) ∧ (c = 244 → d ≤ 143) ∧ x = ((c % 8 * 64 + d % 64) * 64 + e % 64) * 64 + f % 64)) := by
  match b, hn with
  | c :: t, _ =>
    simp only [one] at h ⊢
    by_cases h0 : c < 128
    · rw [if_pos h0]
      exact ⟨c, 1, rfl, .inl ⟨t, rfl, rfl, h0⟩⟩
    rw [if_neg h0] at h ⊢
    by_cases hz : (nd c).1 = 0
    · rw [if_pos hz] at h; simp at h
    rw [if_neg hz] at h ⊢
    rcases nd_cases hz with ⟨e1, h1, h2, e2⟩ | ⟨e1, h1, h2, h3, h4, h5, h6, _⟩ | ⟨e1, h1, h2, h3, h4, h5, h6, _⟩
    · rw [e1, e2] at h ⊢
      match t, h with
      | [], h => simp [more] at h
      | d :: t, h =>
        simp only [more] at h ⊢
        split at h
        · simp at h
        · rename_i hd
          rw [if_neg hd]
          exact ⟨_, _, rfl, .inr (.inl ⟨c, d, t, rfl, rfl, h1, h2, by omega, by omega, rfl⟩)⟩
    · rw [e1] at h ⊢
      match t, h with
      | [], h => simp [more] at h
      | [d], h => simp only [more] at h; split at h <;> simp at h
      | d :: e :: t, h =>
        simp only [more] at h ⊢
        split at h
        · simp at h
        · rename_i hd
          rw [if_neg hd]
          split at h
          · simp at h
          · rename_i he
            rw [if_neg he]
            exact ⟨_, _, rfl, .inr (.inr (.inl ⟨c, d, e, t, rfl, rfl, h1, h2, by omega, by omega, by omega, by omega, by omega, by omega, rfl⟩))⟩
    · rw [e1] at h ⊢
      match t, h with
      | [], h => simp [more] at h
      | [d], h => simp only [more] at h; split at h <;> simp at h
      | [d, e], h =>
        simp only [more] at h
        split at h
        · simp at h
        · split at h <;> simp at h
      | d :: e :: f :: t, h =>
        simp only [more] at h ⊢
        split at h
        · simp at h
        · rename_i hd
          rw [if_neg hd]
          split at h
          · simp at h
          · rename_i he
            rw [if_neg he]
            split at h
            · simp at h
            · rename_i hf
              rw [if_neg hf]
              exact ⟨_, _, rfl, .inr (.inr (.inr ⟨c, d, e, f, t, rfl, rfl, h1, h2, by omega, by omega, by omega, by omega, by omega, by omega, by omega, by omega, rfl⟩))⟩

theorem more_no : ∀ (n : Nat) (r lo hi : Int) (k : Nat) (t : List Int), (more n r lo hi k t).2.2 = false → (more n r lo hi k t).1 = 65533 ∧ (more n r lo hi k t).2.1 < k + n
  | 0, _, _, _, _, _, h => by simp [more] at h
  | n + 1, _, _, _, _, [], _ => by simp [more]
  | n + 1, r, lo, hi, k, c :: t, h => by
    unfold more at h ⊢
    split
    · simp
    · rename_i hc
      rw [if_neg hc] at h
      have := more_no n _ _ _ _ _ h
      omega

/-- what is no character: the replacement, for less than three bytes or ahead of a first byte that is not the replacement's -/
theorem one_no {b : List Int} (h : (one b).2.2 = false) (hn : b ≠ []) : (one b).1 = 65533 ∧ ((one b).2.1 < 3 ∨ ∃ c t, b = c :: t ∧ 240 ≤ c) := by
  match b, hn with
  | c :: t, _ =>
    simp only [one] at h ⊢
    split
    · rename_i h0; rw [if_pos h0] at h; simp at h
    · rename_i h0
      rw [if_neg h0] at h
      split
      · simp
      · rename_i hz
        rw [if_neg hz] at h
        have := more_no _ _ _ _ _ _ h
        refine ⟨this.1, ?_⟩
        rcases nd_cases hz with ⟨e1, h1, h2, _⟩ | ⟨e1, h1, h2, _⟩ | ⟨e1, h1, h2, _⟩
        · left; omega
        · left; omega
        · right; exact ⟨c, t, rfl, h1⟩

theorem scal_ok {x : Int} (h0 : 0 ≤ x) (h1 : x ≤ 1114111) (h2 : x < 55296 ∨ 57343 < x) : scal x = x := by
  unfold scal
  rw [if_neg]
  simp
  omega
theorem scal_iff (x : Int) : scal x = x ↔ 0 ≤ x ∧ x ≤ 1114111 ∧ (x < 55296 ∨ 57343 < x) := by
  constructor
  · intro h
    unfold scal at h
    split at h
    · subst h; omega
    · rename_i h1; simp at h1; omega
  · intro ⟨h0, h1, h2⟩; exact scal_ok h0 h1 h2
theorem scal_scal (x : Int) : scal (scal x) = scal x := by
  unfold scal
  split
  · rfl
  · rfl

/-- a character that is read is one, and its bytes are those that were read -/
theorem one_enc {b : List Int} (hy : By b) (h : (one b).2.2 = true) (hn : b ≠ []) : scal (one b).1 = (one b).1 ∧ enc (one b).1 = b.take (one b).2.1 := by
  obtain ⟨x, k, e, hc⟩ := one_ok h hn
  rw [e]
  simp only
  rcases hc with ⟨t, rfl, rfl, hx⟩ | ⟨c, d, t, rfl, rfl, h1, h2, h3, h4, rfl⟩ | ⟨c, d, f, t, rfl, rfl, h1, h2, h3, h4, h5, h6, h7, h8, rfl⟩ | ⟨c, d, f, g, t, rfl, rfl, h1, h2, h3, h4, h5, h6, h7, h8, h9, h10, rfl⟩
  · have := hy x (List.mem_cons_self ..)
    refine ⟨scal_ok (by omega) (by omega) (by omega), ?_⟩
    unfold enc
    rw [if_pos hx]; rfl
  · refine ⟨scal_ok (by omega) (by omega) (by omega), ?_⟩
    unfold enc
    rw [if_neg (by omega), if_pos (by omega)]
    simp only [List.take_succ_cons, List.take_zero, List.cons.injEq, and_true]
    omega
  · refine ⟨scal_ok (by omega) (by omega) (by omega), ?_⟩
    unfold enc
    rw [if_neg (by omega), if_neg (by omega), if_pos (by omega)]
    simp only [List.take_succ_cons, List.take_zero, List.cons.injEq, and_true]
    omega
  · refine ⟨scal_ok (by omega) (by omega) (by omega), ?_⟩
    unfold enc
    rw [if_neg (by omega), if_neg (by omega), if_neg (by omega)]
    simp only [List.take_succ_cons, List.take_zero, List.cons.injEq, and_true]
    omega

theorem one_scal {b : List Int} (hy : By b) (hn : b ≠ []) : scal (one b).1 = (one b).1 := by
  cases h : (one b).2.2 with
  | true => exact (one_enc hy h hn).1
  | false => rw [(one_no h hn).1]; rfl

theorem nd_c (c : Int) : (194 ≤ c ∧ c ≤ 223 → nd c = (1, 128, 191)) ∧ (c = 224 → nd c = (2, 160, 191)) ∧ (c = 237 → nd c = (2, 128, 159)) ∧ (225 ≤ c ∧ c ≤ 239 ∧ c ≠ 237 → nd c = (2, 128, 191)) ∧
    (c = 240 → nd c = (3, 144, 191)) ∧ (241 ≤ c ∧ c ≤ 243 → nd c = (3, 128, 191)) ∧ (c = 244 → nd c = (3, 128, 143)) := by
  unfold nd
  refine ⟨?_, ?_, ?_, ?_, ?_, ?_, ?_⟩ <;> intro h
  · rw [if_pos h]
  · rw [if_neg (by omega), if_pos h]
  · rw [if_neg (by omega), if_neg (by omega), if_pos h]
  · rw [if_neg (by omega), if_neg (by omega), if_neg (by omega), if_pos (by omega)]
  · rw [if_neg (by omega), if_neg (by omega), if_neg (by omega), if_neg (by omega), if_pos h]
  · rw [if_neg (by omega), if_neg (by omega), if_neg (by omega), if_neg (by omega), if_neg (by omega), if_pos h]
  · rw [if_neg (by omega), if_neg (by omega), if_neg (by omega), if_neg (by omega), if_neg (by omega), if_neg (by omega), if_pos h]

/-- a character's bytes are read as that character -/
theorem one_of_enc {x : Int} (hs : scal x = x) (rest : List Int) : one (enc x ++ rest) = (x, (enc x).length, true) := by
  obtain ⟨h0, h1, h2⟩ := (scal_iff x).mp hs
  unfold enc
  by_cases c1 : x < 128
  · rw [if_pos c1]
    simp only [List.cons_append, List.nil_append, one, if_pos c1]; rfl
  rw [if_neg c1]
  by_cases c2 : x < 2048
  · rw [if_pos c2]
    have e := (nd_c (192 + x / 64)).1 (by omega)
    simp only [List.cons_append, List.nil_append, one, if_neg (show ¬ 192 + x / 64 < 128 by omega), e, Nat.one_ne_zero, if_false, more, if_neg (show ¬ (128 + x % 64 < 128 ∨ 191 < 128 + x % 64) by omega)]
    simp only [List.length_cons, List.length_nil, Prod.mk.injEq, and_true]
    omega
  rw [if_neg c2]
  by_cases c3 : x < 65536
  · rw [if_pos c3]
    have e : ∃ lo hi, nd (224 + x / 4096) = (2, lo, hi) ∧ ¬ (128 + x / 64 % 64 < lo ∨ hi < 128 + x / 64 % 64) := by
      by_cases g1 : 224 + x / 4096 = 224
      · exact ⟨_, _, (nd_c _).2.1 g1, by omega⟩
      by_cases g2 : 224 + x / 4096 = 237
      · exact ⟨_, _, (nd_c _).2.2.1 g2, by omega⟩
      exact ⟨_, _, (nd_c _).2.2.2.1 (by omega), by omega⟩
    obtain ⟨lo, hi, e, hd⟩ := e
    simp only [List.cons_append, List.nil_append, one, if_neg (show ¬ 224 + x / 4096 < 128 by omega), e, if_neg (show ¬ ((2 : Nat) = 0) by omega), more, if_neg hd, if_neg (show ¬ (128 + x % 64 < 128 ∨ 191 < 128 + x % 64) by omega)]
    simp only [List.length_cons, List.length_nil, Prod.mk.injEq, and_true]
    omega
  rw [if_neg c3]
  have e : ∃ lo hi, nd (240 + x / 262144) = (3, lo, hi) ∧ ¬ (128 + x / 4096 % 64 < lo ∨ hi < 128 + x / 4096 % 64) := by
    by_cases g1 : 240 + x / 262144 = 240
    · exact ⟨_, _, (nd_c _).2.2.2.2.1 g1, by omega⟩
    by_cases g2 : 240 + x / 262144 = 244
    · exact ⟨_, _, (nd_c _).2.2.2.2.2.2 g2, by omega⟩
    exact ⟨_, _, (nd_c _).2.2.2.2.2.1 (by omega), by omega⟩
  obtain ⟨lo, hi, e, hd⟩ := e
  simp only [List.cons_append, List.nil_append, one, if_neg (show ¬ 240 + x / 262144 < 128 by omega), e, if_neg (show ¬ ((3 : Nat) = 0) by omega), more, if_neg hd, if_neg (show ¬ (128 + x / 64 % 64 < 128 ∨ 191 < 128 + x / 64 % 64) by omega), if_neg (show ¬ (128 + x % 64 < 128 ∨ 191 < 128 + x % 64) by omega)]
  simp only [List.length_cons, List.length_nil, Prod.mk.injEq, and_true]
  omega

/-- the replacement's own bytes stand in front -/
def isRep (b : List Int) : Bool := b.take 3 == [239, 191, 189]
/-- is what stands in front no character, as the program sees it? -/
def bad (b : List Int) : Bool := (one b).1 == 65533 && (decide ((one b).2.1 < 3) || !(isRep b))
theorem bad_eq {b : List Int} (hy : By b) (hn : b ≠ []) : bad b = !(one b).2.2 := by
  cases h : (one b).2.2 with
  | false =>
    obtain ⟨h1, h2⟩ := one_no h hn
    rw [bad, h1]
    rcases h2 with h2 | ⟨c, t, rfl, hc⟩
    · simp [h2]
    · have : isRep (c :: t) = false := by
        simp only [isRep, List.take_succ_cons, beq_eq_false_iff_ne, ne_eq, List.cons.injEq, not_and]
        omega
      simp [this]
  | true =>
    obtain ⟨h1, h2⟩ := one_enc hy h hn
    by_cases hx : (one b).1 = 65533
    · rw [hx] at h2
      have e : enc 65533 = [239, 191, 189] := by decide
      have hk : (one b).2.1 = 3 := by
        have := congrArg List.length h2
        rw [e, List.length_take] at this
        have hk := (show (one b).2.1 ≤ b.length from by
          cases b with
          | nil => exact absurd rfl hn
          | cons c t => exact (one_k c t).2.2)
        simp at this
        omega
      rw [hk, e] at h2
      have : isRep b = true := by rw [isRep, ← h2]; rfl
      simp [bad, hk, this]
    · have : ((one b).1 == 65533) = false := by simp [hx]
      simp [bad, this]

theorem raw_b {b : List Int} (h : b ≠ []) : raw b = (one b).1 :: raw (b.drop (one b).2.1) := by
  cases b with
  | nil => exact absurd rfl h
  | cons c t => exact raw_cons c t
theorem whole_b {b : List Int} (h : b ≠ []) : whole b = ((one b).2.2 && whole (b.drop (one b).2.1)) := by
  cases b with
  | nil => exact absurd rfl h
  | cons c t => exact whole_cons c t
theorem one_b {b : List Int} (h : b ≠ []) : 1 ≤ (one b).2.1 ∧ (one b).2.1 ≤ 4 ∧ (one b).2.1 ≤ b.length := by
  cases b with
  | nil => exact absurd rfl h
  | cons c t => exact one_k c t

/-- by the bytes in front -/
theorem bytes_ind {p : List Int → Prop} (h0 : p []) (h1 : ∀ b, b ≠ [] → p (b.drop (one b).2.1) → p b) (b : List Int) : p b := by
  suffices ∀ n (b : List Int), b.length ≤ n → p b from this b.length b (Nat.le_refl _)
  intro n
  induction n with
  | zero => intro b hb; obtain rfl : b = [] := List.eq_nil_of_length_eq_zero (by omega); exact h0
  | succ n ih =>
    intro b hb
    by_cases hn : b = []
    · subst hn; exact h0
    · have := one_b hn
      exact h1 b hn (ih _ (by rw [List.length_drop]; omega))

theorem more_app : ∀ (n : Nat) (r lo hi : Int) (k : Nat) (t u : List Int), (more n r lo hi k t).2.2 = true → more n r lo hi k (t ++ u) = more n r lo hi k t
  | 0, _, _, _, _, _, _, _ => rfl
  | n + 1, _, _, _, _, [], _, h => by simp [more] at h
  | n + 1, r, lo, hi, k, c :: t, u, h => by
    unfold more at h
    split at h
    · simp at h
    · rename_i hc
      rw [List.cons_append]
      simp only [more, if_neg hc]
      exact more_app n _ _ _ _ _ _ h
theorem one_app {b : List Int} (u : List Int) (h : (one b).2.2 = true) (hn : b ≠ []) : one (b ++ u) = one b := by
  cases b with
  | nil => exact absurd rfl hn
  | cons c t =>
    rw [List.cons_append]
    simp only [one] at h ⊢
    split
    · rfl
    · rename_i h0
      rw [if_neg h0] at h
      split
      · rfl
      · rename_i hz
        rw [if_neg hz] at h
        exact more_app _ _ _ _ _ _ _ h

/-- behind whole bytes all goes on as if they were not there -/
theorem raw_app (u : List Int) (b : List Int) : whole b = true → raw (b ++ u) = raw b ++ raw u := by
  refine bytes_ind (p := fun b => whole b = true → raw (b ++ u) = raw b ++ raw u) (fun _ => rfl) (fun b hn ih h => ?_) b
  rw [whole_b hn, Bool.and_eq_true] at h
  have hk := one_b hn
  rw [raw_b (by simp [hn]), raw_b hn, one_app u h.1 hn, List.drop_append_of_le_length hk.2.2, ih h.2]
  rfl

theorem raw_count (b : List Int) : (raw b).length ≤ b.length ∧ b.length ≤ 4 * (raw b).length := by
  refine bytes_ind (p := fun b => (raw b).length ≤ b.length ∧ b.length ≤ 4 * (raw b).length) (by simp [raw_nil]) (fun b hn ih => ?_) b
  have hk := one_b hn
  rw [raw_b hn, List.length_cons]
  rw [List.length_drop] at ih
  omega

theorem raw_scal (b : List Int) : By b → ∀ x ∈ raw b, scal x = x := by
  refine bytes_ind (p := fun b => By b → ∀ x ∈ raw b, scal x = x) (by simp [raw_nil]) (fun b hn ih hy => ?_) b
  rw [raw_b hn]
  intro x hx
  rcases List.mem_cons.mp hx with rfl | hx
  · exact one_scal hy hn
  · exact ih (hy.drop _) x hx

/-- the bytes of characters -/
def encs (l : List Int) : List Int := l.flatMap fun x => enc (scal x)
theorem enc_by (x : Int) (h0 : 0 ≤ x) (h1 : x ≤ 1114111) : By (enc x) := by
  unfold enc
  intro c hc
  split at hc
  · simp only [List.mem_cons, List.not_mem_nil, or_false] at hc; omega
  · split at hc
    · simp only [List.mem_cons, List.not_mem_nil, or_false] at hc; omega
    · split at hc <;> simp only [List.mem_cons, List.not_mem_nil, or_false] at hc <;> omega
theorem encs_by (l : List Int) : By (encs l) := by
  intro c hc
  obtain ⟨x, _, hx⟩ := List.mem_flatMap.mp hc
  have := scal_in x
  exact enc_by _ this.1 this.2 c hx
theorem enc_ne (x : Int) : enc x ≠ [] := by
  unfold enc
  split
  · simp
  · split
    · simp
    · split <;> simp
theorem encs_cons (x : Int) (l : List Int) : encs (x :: l) = enc (scal x) ++ encs l := rfl

/-- there and back -/
theorem raw_encs : ∀ l : List Int, raw (encs l) = l.map scal ∧ whole (encs l) = true
  | [] => ⟨rfl, rfl⟩
  | x :: l => by
    have ih := raw_encs l
    have h1 := one_of_enc (scal_scal x) (encs l)
    have hn : enc (scal x) ++ encs l ≠ [] := by simp [enc_ne]
    rw [encs_cons, raw_b hn, whole_b hn, h1]
    simp only [List.drop_left, List.map_cons, ih.1, ih.2, Bool.and_self, and_self]
theorem encs_raw (b : List Int) : By b → whole b = true → encs (raw b) = b := by
  refine bytes_ind (p := fun b => By b → whole b = true → encs (raw b) = b) (fun _ _ => rfl) (fun b hn ih hy h => ?_) b
  rw [whole_b hn, Bool.and_eq_true] at h
  obtain ⟨h1, h2⟩ := one_enc hy h.1 hn
  rw [raw_b hn, encs_cons, h1, h2, ih (hy.drop _) h.2, List.take_append_drop]
theorem back_eq {b : List Int} (hy : By b) : (encs (raw b) == b) = whole b := by
  cases h : whole b with
  | true => simp [encs_raw b hy h]
  | false =>
    simp only [beq_eq_false_iff_ne, ne_eq]
    intro he
    have := (raw_encs (raw b)).2
    rw [he, h] at this
    simp at this
theorem all_eq (l : List Int) : (l.map scal == l) = l.all fun x => scal x == x := by
  induction l with
  | nil => rfl
  | cons x l ih => rw [List.map_cons, List.all_cons, ← ih]; rfl

/-- as a stylesheet is read -/
def dstep (back : Bool) (x : Int) : List Int := if x == 10 && back then [] else [if x == 13 || x == 12 then 10 else if x == 0 then 65533 else x]
def dec : Bool → List Int → List Int
  | _, [] => []
  | back, x :: l => dstep back x ++ dec (x == 13) l
def bom (b : List Int) : Bool := b.take 3 == [239, 187, 191]
def strip (b : List Int) : List Int := if bom b = true then b.drop 3 else b
def decode (b : List Int) : List Int := dec false (raw (strip b))

/-- what may be in a stylesheet -/
def fine (x : Int) : Prop := x ≠ 0 ∧ x ≠ 12 ∧ x ≠ 13 ∧ scal x = x
theorem dec_fine : ∀ (l : List Int) (back : Bool), (∀ x ∈ l, scal x = x) → ∀ x ∈ dec back l, fine x
  | [], _, _ => by simp [dec]
  | x :: l, back, h => by
    intro y hy
    rw [dec, List.mem_append] at hy
    rcases hy with hy | hy
    · have hx := h x (List.mem_cons_self ..)
      unfold dstep at hy
      split at hy
      · simp at hy
      · simp only [List.mem_cons, List.not_mem_nil, or_false] at hy
        split at hy
        · subst hy; exact ⟨by omega, by omega, by omega, rfl⟩
        · rename_i h1
          split at hy
          · subst hy; exact ⟨by omega, by omega, by omega, rfl⟩
          · rename_i h2
            subst hy
            simp at h1 h2
            exact ⟨h2, h1.2, h1.1, hx⟩
    · exact dec_fine l _ (fun x hx => h x (List.mem_cons_of_mem _ hx)) y hy
theorem dec_same : ∀ (l : List Int), (∀ x ∈ l, fine x) → dec false l = l
  | [], _ => rfl
  | x :: l, h => by
    obtain ⟨h0, h1, h2, _⟩ := h x (List.mem_cons_self ..)
    have e : (x == 13) = false := by simp [h2]
    have e1 : (x == 12) = false := by simp [h1]
    have e0 : (x == 0) = false := by simp [h0]
    rw [dec, e, dec_same l fun y hy => h y (List.mem_cons_of_mem _ hy)]
    simp [dstep, e, e1, e0]
theorem encs_bom {l : List Int} (h : ∀ x ∈ l, fine x) (h0 : l[0]? ≠ some 65279) : bom (encs l) = false := by
  cases l with
  | nil => rfl
  | cons x l =>
    have hx := (h x (List.mem_cons_self ..)).2.2.2
    rw [encs_cons, hx]
    unfold bom
    simp only [beq_eq_false_iff_ne, ne_eq]
    intro he
    apply h0
    have h1 := one_of_enc hx (encs l)
    have e : enc x ++ encs l = [239, 187, 191] ++ (enc x ++ encs l).drop 3 := by rw [← he, List.take_append_drop]
    have h2 := one_of_enc (x := 65279) (by decide) ((enc x ++ encs l).drop 3)
    have e2 : enc 65279 = [239, 187, 191] := by decide
    rw [e2, ← e, h1] at h2
    simp only [Prod.mk.injEq] at h2
    simp [h2.1]
theorem decode_again {l : List Int} (h : ∀ x ∈ l, fine x) (h0 : l[0]? ≠ some 65279) : decode (encs l) = l := by
  have e : l.map scal = l := by
    rw [List.map_congr_left (fun x hx => (h x hx).2.2.2), List.map_id']
  rw [decode, strip, if_neg (by rw [encs_bom h h0]; simp), (raw_encs l).1, e, dec_same l h]
theorem strip_by {b : List Int} (hy : By b) : By (strip b) := by
  unfold strip
  split
  · exact hy.drop _
  · exact hy
theorem decode_fine {b : List Int} (hy : By b) : ∀ x ∈ decode b, fine x := dec_fine _ _ (raw_scal _ (strip_by hy))
end Go.Lift.Utf
end

section
/- Characters to tokens: what is computed, in plain Lean. -/
namespace Go.Lift.Tok
set_option linter.unusedVariables false
open Utf

/-- the character so many places ahead; -1 behind the last one -/
def chr (s : List Int) (k : Nat) : Int := match s[k]? with
  | some x => x
  | none => -1
def dig (c : Int) : Bool := decide (48 ≤ c) && decide (c ≤ 57)
def fst1 (c : Int) : Bool := decide (97 ≤ c) && decide (c ≤ 122) || decide (65 ≤ c) && decide (c ≤ 90) || c == 95 || decide (128 ≤ c)
def ltr (c : Int) : Bool := fst1 c || dig c || c == 45
def blk (c : Int) : Bool := c == 10 || c == 9 || c == 32
def unp (c : Int) : Bool := decide (0 ≤ c) && decide (c ≤ 8) || c == 11 || decide (14 ≤ c) && decide (c ≤ 31) || c == 127
def hex (c : Int) : Int := if dig c = true then c - 48 else if (decide (97 ≤ c) && decide (c ≤ 102)) = true then c - 97 + 10 else if (decide (65 ≤ c) && decide (c ≤ 70)) = true then c - 65 + 10 else -1
def esc (a b : Int) : Bool := a == 92 && b != 10
def beg (a b c : Int) : Bool := if (a == 45) = true then fst1 b || b == 45 || esc b c else fst1 a || esc a b
def num (a b c : Int) : Bool := if (a == 43 || a == 45) = true then dig b || b == 46 && dig c else dig a || a == 46 && dig b
def quo (c : Int) : Bool := c == 34 || c == 39

def blanks (s : List Int) : List Int := s.dropWhile blk
def hexN : Nat → Int → List Int → Int × List Int
  | 0, n, s => (n, s)
  | _ + 1, n, [] => (n, [])
  | k + 1, n, c :: t => if hex c < 0 then (n, c :: t) else hexN k (n * 16 + hex c) t
def one1 : List Int → List Int
  | [] => []
  | d :: u => if blk d = true then u else d :: u
/-- an escape, behind its backslash -/
def escd : List Int → Int × List Int
  | [] => (65533, [])
  | c :: t => if hex c < 0 then (c, t) else
    (if (hexN 6 0 (c :: t)).1 = 0 then 65533 else scal (hexN 6 0 (c :: t)).1, one1 (hexN 6 0 (c :: t)).2)
def nameN : Nat → List Int → List Int × List Int
  | 0, s => ([], s)
  | _ + 1, [] => ([], [])
  | n + 1, c :: t =>
    if ltr c = true then (c :: (nameN n t).1, (nameN n t).2)
    else if esc c (chr t 0) = true then ((escd t).1 :: (nameN n (escd t).2).1, (nameN n (escd t).2).2)
    else ([], c :: t)
def name (s : List Int) : List Int × List Int := nameN s.length s
def skipR : List Int → List Int
  | [] => []
  | [_] => []
  | c :: d :: t => if c = 42 ∧ d = 47 then t else skipR (d :: t)
def remN : Nat → List Int → List Int
  | 0, s => s
  | n + 1, c :: d :: t => if c = 47 ∧ d = 42 then remN n (skipR t) else c :: d :: t
  | _ + 1, s => s
/-- behind the remarks that come next -/
def rems (s : List Int) : List Int := remN s.length s
/-- a text's inner, behind its sign; is it whole? -/
def txtN (sign : Int) : Nat → List Int → Bool × List Int × List Int
  | 0, s => (true, [], s)
  | _ + 1, [] => (true, [], [])
  | n + 1, c :: t =>
    if c = 10 then (false, [], c :: t)
    else if c = sign then (true, [], t)
    else if c = 92 then
      match t with
      | [] => (true, [], [])
      | d :: u => if d = 10 then txtN sign n u else ((txtN sign n (escd t).2).1, (escd t).1 :: (txtN sign n (escd t).2).2.1, (txtN sign n (escd t).2).2.2)
    else ((txtN sign n t).1, c :: (txtN sign n t).2.1, (txtN sign n t).2.2)
def txt (sign : Int) (s : List Int) : Bool × List Int × List Int := txtN sign s.length s
/-- behind a bad url -/
def badN : Nat → List Int → List Int
  | 0, s => s
  | _ + 1, [] => []
  | n + 1, c :: t => if c = 41 then t else if esc c (chr t 0) = true then badN n (escd t).2 else badN n t
def badu (s : List Int) : List Int := badN s.length s
def urlN : Nat → List Int → Bool × List Int × List Int
  | 0, s => (true, [], s)
  | _ + 1, [] => (true, [], [])
  | n + 1, c :: t =>
    if c = 41 then (true, [], t)
    else if blk c = true then (if chr (blanks t) 0 = -1 ∨ chr (blanks t) 0 = 41 then (true, [], (blanks t).drop 1) else (false, [], badu (blanks t)))
    else if (quo c || c == 40 || unp c) = true then (false, [], badu (c :: t))
    else if c = 92 then
      if esc c (chr t 0) = true then ((urlN n (escd t).2).1, (escd t).1 :: (urlN n (escd t).2).2.1, (urlN n (escd t).2).2.2)
      else (false, [], badu (c :: t))
    else ((urlN n t).1, c :: (urlN n t).2.1, (urlN n t).2.2)
def url (s : List Int) : Bool × List Int × List Int := urlN (blanks s).length (blanks s)

/-- behind a number -/
def numR (s : List Int) : List Int :=
  let a := if (chr s 0 == 43 || chr s 0 == 45) = true then s.drop 1 else s
  let b := a.dropWhile dig
  let c := if (chr b 0 == 46 && dig (chr b 1)) = true then (b.drop 1).dropWhile dig else b
  let k := if (chr c 1 == 43 || chr c 1 == 45) = true then 2 else 1
  if ((chr c 0 == 101 || chr c 0 == 69) && dig (chr c k)) = true then (c.drop k).dropWhile dig else c
def numT (s : List Int) : List Int := s.take (s.length - (numR s).length)

structure Tk where
  kind : Int
  text : List Int
  num : Int × Int
  whole : Bool
  id : Bool
  deriving DecidableEq
end Go.Lift.Tok
end

section
/- A number of a stylesheet, from its digits: what is computed, in plain Lean. -/
namespace Go.Lift.Tok
set_option linter.unusedVariables false
open Utf

theorem le_mulr {a b : Int} (ha : 0 ≤ a) (hb : 1 ≤ b) : a ≤ a * b := by
  have := Int.mul_le_mul_of_nonneg_left hb ha
  omega
theorem le_mull {a b : Int} (ha : 0 ≤ a) (hb : 1 ≤ b) : a ≤ b * a := by rw [Int.mul_comm]; exact le_mulr ha hb
theorem one_pow_le {y : Int} (hy : 1 ≤ y) : ∀ j : Nat, 1 ≤ y ^ j
  | 0 => by simp
  | j + 1 => by rw [Int.pow_succ]; exact Int.le_trans (one_pow_le hy j) (le_mulr (by have := one_pow_le hy j; omega) hy)

def expN (n : Int) : List Int → Int
  | [] => n
  | c :: t => expN (if 1099511627776 < n * 10 + (c - 48) then 1099511627776 else n * 10 + (c - 48)) t
def valN (n : Int) : List Int → Int
  | [] => n
  | c :: t => valN (n * 10 + (c - 48)) t

theorem valN_bound : ∀ (l : List Int) (n : Int) (k : Nat), (∀ c ∈ l, dig c = true) → 0 ≤ n → n < 10 ^ k → 0 ≤ valN n l ∧ valN n l < 10 ^ (k + l.length) ∧ n ≤ valN n l
  | [], n, k, _, h0, h1 => ⟨h0, by simpa [valN] using h1, Int.le_refl _⟩
  | c :: t, n, k, hl, h0, h1 => by
    have hc : dig c = true := hl c (by simp)
    simp only [dig, Bool.and_eq_true, decide_eq_true_eq] at hc
    have h2 : (10 : Int) ^ (k + 1) = 10 ^ k * 10 := Int.pow_succ 10 k
    obtain ⟨a, b, d⟩ := valN_bound t (n * 10 + (c - 48)) (k + 1) (fun x hx => hl x (by simp [hx])) (by omega) (by omega)
    refine ⟨a, ?_, ?_⟩
    · have e : k + (c :: t).length = k + 1 + t.length := by simp; omega
      rw [e]; exact b
    · simp only [valN]; omega

def upN : Nat → Int → Option Int
  | 0, n => some n
  | k + 1, n => if 922337203685477580 < n then none else upN k (n * 10)
def divN (y : Int) : Nat → Int → Nat × Int
  | 0, n => (0, n)
  | k + 1, n => if n % y = 0 then divN y k (n / y) else (k + 1, n)
def mulN (y b : Int) : Nat → Int → Option Int
  | 0, d => some d
  | k + 1, d => if b < d then none else mulN y b k (d * y)
def downN (y b : Int) : Nat → Int → Int → Option (Int × Int)
  | 0, n, d => some (n, d)
  | k + 1, n, d => if n % y = 0 then downN y b k (n / y) d else if b < d then none else downN y b k n (d * y)

theorem downN_not {y b : Int} : ∀ (k : Nat) (n d : Int), n % y ≠ 0 → downN y b k n d = (mulN y b k d).map fun x => (n, x)
  | 0, n, d, _ => rfl
  | k + 1, n, d, h => by
    simp only [downN, mulN]
    rw [if_neg h]
    split
    · rfl
    · exact downN_not k n (d * y) h
theorem downN_eq {y b : Int} : ∀ (k : Nat) (n d : Int), downN y b k n d = (mulN y b (divN y k n).1 d).map fun x => ((divN y k n).2, x)
  | 0, n, d => rfl
  | k + 1, n, d => by
    by_cases h : n % y = 0
    · simp only [downN, divN]
      rw [if_pos h, if_pos h]
      exact downN_eq k (n / y) d
    · have e : divN y (k + 1) n = (k + 1, n) := by simp only [divN]; rw [if_neg h]
      rw [e]
      exact downN_not (k + 1) n d h

theorem upN_some : ∀ (k : Nat) (n m : Int), upN k n = some m → m = n * 10 ^ k ∧ (k = 0 ∨ m ≤ 9223372036854775800)
  | 0, n, m, h => by simp only [upN, Option.some.injEq] at h; exact ⟨by simp [h], .inl rfl⟩
  | k + 1, n, m, h => by
    simp only [upN] at h
    split at h
    · cases h
    · rename_i h1
      obtain ⟨a, b⟩ := upN_some k (n * 10) m h
      refine ⟨by rw [a, Int.pow_succ, Int.mul_assoc, Int.mul_comm 10], .inr ?_⟩
      rcases b with b | b
      · subst b
        simp at a
        omega
      · exact b
theorem upN_big {k : Nat} {n : Int} (hk : 18 < k) (hn : 1 ≤ n) : upN k n = none := by
  cases h : upN k n with
  | none => rfl
  | some m =>
    obtain ⟨a, b⟩ := upN_some k n m h
    have h1 : (10 : Int) ^ 19 ≤ 10 ^ k := by
      obtain ⟨j, rfl⟩ : ∃ j, k = 19 + j := ⟨k - 19, by omega⟩
      rw [Int.pow_add]
      have : (1 : Int) ≤ 10 ^ j := one_pow_le (by omega) j
      exact le_mulr (by decide) this
    have h2 : (10 : Int) ^ k ≤ n * 10 ^ k := le_mull (by have := one_pow_le (y := 10) (by omega) k; omega) hn
    have h3 : (10 : Int) ^ 19 = 10000000000000000000 := by decide
    omega
theorem mulN_some {y b : Int} (hy : 0 < y) : ∀ (k : Nat) (n m : Int), mulN y b k n = some m → m = n * y ^ k ∧ (k = 0 ∨ m ≤ b * y)
  | 0, n, m, h => by simp only [mulN, Option.some.injEq] at h; exact ⟨by simp [h], .inl rfl⟩
  | k + 1, n, m, h => by
    simp only [mulN] at h
    split at h
    · cases h
    · rename_i h1
      obtain ⟨a, c⟩ := mulN_some hy k (n * y) m h
      refine ⟨by rw [a, Int.pow_succ, Int.mul_assoc, Int.mul_comm y], .inr ?_⟩
      rcases c with c | c
      · subst c
        simp at a
        rw [a]
        exact Int.mul_le_mul_of_nonneg_right (by omega) (by omega)
      · exact c
theorem mul5_big {k : Nat} {d : Int} (hk : 27 < k) (hd : 1 ≤ d) : mulN 5 1844674407370955161 k d = none := by
  cases h : mulN 5 1844674407370955161 k d with
  | none => rfl
  | some m =>
    obtain ⟨a, b⟩ := mulN_some (by omega) k d m h
    have h1 : (5 : Int) ^ 28 ≤ 5 ^ k := by
      obtain ⟨j, rfl⟩ : ∃ j, k = 28 + j := ⟨k - 28, by omega⟩
      rw [Int.pow_add]
      have : (1 : Int) ≤ 5 ^ j := one_pow_le (by omega) j
      exact le_mulr (by decide) this
    have h2 : (5 : Int) ^ k ≤ d * 5 ^ k := le_mull (by have := one_pow_le (y := 5) (by omega) k; omega) hd
    have h3 : (5 : Int) ^ 28 = 37252902984619140625 := by decide
    omega
theorem two_pow_le {a c : Nat} (h : a ≤ c) : (2 : Int) ^ a ≤ 2 ^ c := by
  obtain ⟨j, rfl⟩ : ∃ j, c = a + j := ⟨c - a, by omega⟩
  rw [Int.pow_add]
  have h0 : (0 : Int) < 2 ^ a := one_pow_le (by omega) a
  have : (1 : Int) ≤ 2 ^ j := one_pow_le (by omega) j
  exact le_mulr (by omega) this
theorem mul2_eq : ∀ (k a : Nat), a ≤ 62 → mulN 2 4611686018427387903 k (2 ^ a) = if 62 < a + k then none else some (2 ^ (a + k))
  | 0, a, h => by rw [if_neg (by omega)]; rfl
  | k + 1, a, h => by
    have h62 : (2 : Int) ^ 62 = 4611686018427387904 := by decide
    have h61 : (2 : Int) ^ 61 = 2305843009213693952 := by decide
    simp only [mulN]
    by_cases ha : a = 62
    · subst ha
      rw [if_pos (by omega), if_pos (by omega)]
    · have := two_pow_le (show a ≤ 61 by omega)
      rw [if_neg (by omega), ← Int.pow_succ, mul2_eq k (a + 1) (by omega)]
      have e : a + 1 + k = a + (k + 1) := by omega
      rw [e]
theorem divN_spec {y : Int} (hy : 0 < y) : ∀ (k : Nat) (n : Int), 1 ≤ n → (divN y k n).1 ≤ k ∧ 1 ≤ (divN y k n).2 ∧ (divN y k n).2 ≤ n ∧ n = (divN y k n).2 * y ^ (k - (divN y k n).1)
  | 0, n, h => by simp [divN, h]
  | k + 1, n, h => by
    simp only [divN]
    split
    · rename_i h1
      have h2 : n = n / y * y := by have := Int.mul_ediv_add_emod n y; rw [h1, Int.add_zero] at this; rw [Int.mul_comm]; exact this.symm
      have h3 : 1 ≤ n / y := by
        rcases Int.lt_or_le (n / y) 1 with h4 | h4
        · have : n / y * y ≤ 0 := Int.mul_nonpos_of_nonpos_of_nonneg (by omega) (by omega)
          omega
        · exact h4
      obtain ⟨a, b, c, d⟩ := divN_spec hy k (n / y) h3
      have h5 : n / y ≤ n := Int.ediv_le_self y (by omega)
      refine ⟨by omega, b, by omega, ?_⟩
      have e : k + 1 - (divN y k (n / y)).1 = k - (divN y k (n / y)).1 + 1 := by omega
      rw [e, Int.pow_succ, ← Int.mul_assoc, ← d]
      exact h2
    · simp [h]

/-- so great a number times ten to the power p (none: over), as the reference takes it -/
def scaleR (n p : Int) : Option (Int × Int) :=
  match upN p.toNat n with
  | none => none
  | some m =>
    if 62 < (divN 2 (-p).toNat m).1 ∨ 27 < (divN 5 (-p).toNat (divN 2 (-p).toNat m).2).1 then none
    else (mulN 5 1844674407370955161 (divN 5 (-p).toNat (divN 2 (-p).toNat m).2).1 (2 ^ (divN 2 (-p).toNat m).1)).map fun d => ((divN 5 (-p).toNat (divN 2 (-p).toNat m).2).2, d)
/-- and as the program does -/
def scaleP (n p : Int) : Option (Int × Int) :=
  if 18 < p ∨ p < -100 then none else
  match upN p.toNat n with
  | none => none
  | some m => match downN 2 4611686018427387903 (-p).toNat m 1 with
    | none => none
    | some (n2, d2) => downN 5 1844674407370955161 (-p).toNat n2 d2

theorem scale_eq {n p : Int} (h1 : 1 ≤ n) (h2 : n < 10 ^ 18) : scaleP n p = scaleR n p := by
  unfold scaleP scaleR
  by_cases hp : 18 < p
  · rw [if_pos (.inl hp), upN_big (by omega) h1]
  by_cases hq : p < -100
  · have e : p.toNat = 0 := by omega
    rw [if_pos (.inr hq), e]
    simp only [upN]
    rw [if_pos]
    right
    obtain ⟨a1, b1, c1, d1⟩ := divN_spec (y := 2) (by omega) (-p).toNat n h1
    obtain ⟨a, b, c, d⟩ := divN_spec (y := 5) (by omega) (-p).toNat _ b1
    generalize (divN 2 (-p).toNat n).2 = n2 at *
    generalize (divN 5 (-p).toNat n2).1 = k at *
    generalize (divN 5 (-p).toNat n2).2 = n3 at *
    rcases Nat.lt_or_ge 27 k with h | h
    · exact h
    · exfalso
      have h4 : (5 : Int) ^ 26 ≤ 5 ^ ((-p).toNat - k) := by
        obtain ⟨j, e⟩ : ∃ j, (-p).toNat - k = 26 + j := ⟨(-p).toNat - k - 26, by omega⟩
        rw [e, Int.pow_add]
        have : (1 : Int) ≤ 5 ^ j := one_pow_le (by omega) j
        exact le_mulr (by decide) this
      have h5 : (5 : Int) ^ ((-p).toNat - k) ≤ n3 * 5 ^ ((-p).toNat - k) := le_mull (by have := one_pow_le (y := 5) (by omega) ((-p).toNat - k); omega) b
      have h6 : (5 : Int) ^ 26 = 1490116119384765625 := by decide
      have h7 : (10 : Int) ^ 18 = 1000000000000000000 := by decide
      omega
  rw [if_neg (by omega)]
  cases hu : upN p.toNat n with
  | none => rfl
  | some m =>
    have hm : 1 ≤ m := by
      obtain ⟨a, _⟩ := upN_some _ _ _ hu
      have : (0 : Int) < 10 ^ p.toNat := one_pow_le (by omega) _
      rw [a]
      exact Int.le_trans h1 (le_mulr (by omega) this)
    simp only
    rw [downN_eq]
    have e1 : (1 : Int) = 2 ^ 0 := rfl
    have e2 := mul2_eq (divN 2 (-p).toNat m).1 0 (by omega)
    rw [Nat.zero_add] at e2
    rw [e1, e2]
    obtain ⟨_, b1, _, _⟩ := divN_spec (y := 2) (by omega) (-p).toNat m hm
    by_cases h62 : 62 < (divN 2 (-p).toNat m).1
    · rw [if_pos h62, if_pos (.inl h62)]; rfl
    · rw [if_neg h62]
      simp only [Option.map_some]
      rw [downN_eq]
      by_cases h27 : 27 < (divN 5 (-p).toNat (divN 2 (-p).toNat m).2).1
      · rw [if_pos (.inr h27), mul5_big h27]
        · rfl
        · exact one_pow_le (by omega) _
      · rw [if_neg (by omega)]

/-- a number taken apart: its sign, its digits, how many stand behind the point, its exponent, whether it has neither -/
structure Wr where
  below : Bool
  digits : List Int
  behind : Nat
  exp : Int
  whole : Bool
def core (d : List Int) : List Int := (d.reverse.dropWhile (· == 48)).reverse
def turn (below : Bool) (x : Option (Int × Int)) : Int × Int := match x with
  | none => (0, 0)
  | some (n, d) => (if below = true then -n else n, d)
/-- a number's fraction; is it whole -/
def ratio (w : Wr) : Int × Int :=
  let d := w.digits.dropWhile (· == 48)
  if d = [] then (0, 1) else
  if 18 < (core d).length then (0, 0) else
  turn w.below (scaleR (valN 0 (core d)) (w.exp - w.behind + (d.length - (core d).length)))
/-- a number's text, taken apart -/
structure Nm where
  sg : List Int
  d1 : List Int
  fr : List Int
  ex : List Int
  d3 : List Int
def Nm.text (n : Nm) : List Int := n.sg ++ n.d1 ++ (if n.fr = [] then [] else 46 :: n.fr) ++ n.ex ++ n.d3
def Nm.wr (n : Nm) : Wr := ⟨n.sg == [45], n.d1 ++ n.fr, n.fr.length, if chr n.ex 1 = 45 then - expN 0 n.d3 else expN 0 n.d3, n.fr.isEmpty && n.ex.isEmpty⟩
def Nm.num (n : Nm) : (Int × Int) × Bool := (ratio n.wr, n.wr.whole)
/-- a text that may be -/
structure Nm.Ok (n : Nm) : Prop where
  sg : n.sg = [] ∨ n.sg = [43] ∨ n.sg = [45]
  d1 : n.d1.all dig = true
  fr : n.fr.all dig = true
  some : n.d1 ++ n.fr ≠ []
  ex : (n.ex = [] ∧ n.d3 = []) ∨ ((∃ e, (e = 101 ∨ e = 69) ∧ (n.ex = [e] ∨ n.ex = [e, 43] ∨ n.ex = [e, 45])) ∧ n.d3 ≠ [])
  d3 : n.d3.all dig = true
/-- a number at the front, and what is behind it -/
def numP (s : List Int) : Nm × List Int :=
  let a := if (chr s 0 == 43 || chr s 0 == 45) = true then s.drop 1 else s
  let b := a.dropWhile dig
  let f := (chr b 0 == 46 && dig (chr b 1))
  let c := if f = true then (b.drop 1).dropWhile dig else b
  let k := if (chr c 1 == 43 || chr c 1 == 45) = true then 2 else 1
  let x := ((chr c 0 == 101 || chr c 0 == 69) && dig (chr c k))
  (⟨if (chr s 0 == 43 || chr s 0 == 45) = true then s.take 1 else [], a.takeWhile dig, if f = true then (b.drop 1).takeWhile dig else [],
    if x = true then c.take k else [], if x = true then (c.drop k).takeWhile dig else []⟩, if x = true then (c.drop k).dropWhile dig else c)
end Go.Lift.Tok
end

section
/- Tokens: what is computed, in plain Lean. -/
namespace Go.Lift.Tok
set_option linter.unusedVariables false
open Utf

def lowc (c : Int) : Int := if (decide (65 ≤ c) && decide (c ≤ 90)) = true then c + 32 else c
def isUrl (n : List Int) : Bool := n.map lowc == [117, 114, 108]
def skip2N : Nat → List Int → List Int
  | 0, s => s
  | n + 1, s => if (blk (chr s 0) && blk (chr s 1)) = true then skip2N n (s.drop 1) else s
def skip2 (s : List Int) : List Int := skip2N s.length s
def tk (k : Int) (t : List Int) : Tk := ⟨k, t, (0, 0), false, false⟩
def urlT (x : Bool × List Int × List Int) : Tk := if x.1 = true then tk 7 x.2.1 else tk 8 []
def txtT (x : Bool × List Int × List Int) : Tk := if x.1 = true then tk 5 x.2.1 else tk 6 []
def word (s : List Int) : Tk × List Int :=
  let n := (name s).1
  let r := (name s).2
  if chr r 0 = 40 then
    if isUrl n = true then
      let b := skip2 (r.drop 1)
      if quo (if blk (chr b 0) = true then chr b 1 else chr b 0) = true then (tk 2 n, b) else (urlT (url b), (url b).2.2)
    else (tk 2 n, r.drop 1)
  else (tk 1 n, r)
def figure (s : List Int) : Tk × List Int :=
  let d := (numP s).1.num
  let r := (numP s).2
  if beg (chr r 0) (chr r 1) (chr r 2) = true then (⟨12, (name r).1, d.1, d.2, false⟩, (name r).2)
  else if chr r 0 = 37 then (⟨11, [], d.1, d.2, false⟩, r.drop 1)
  else (⟨10, [], d.1, d.2, false⟩, r)
def plK (c : Int) : Int :=
  if c = 40 then 21 else if c = 41 then 22 else if c = 44 then 18 else if c = 58 then 16 else if c = 59 then 17
  else if c = 91 then 19 else if c = 93 then 20 else if c = 123 then 23 else if c = 125 then 24 else 0
/-- the next token, and what is behind it -/
def token (s : List Int) : Tk × List Int :=
  let c := chr s 0
  let d := chr s 1
  let e := chr s 2
  if blk c = true then (tk 13 [], blanks s)
  else if quo c = true then (txtT (txt c (s.drop 1)), (txt c (s.drop 1)).2.2)
  else if 0 < plK c then (tk (plK c) [], s.drop 1)
  else if num c d e = true then figure s
  else if c = 45 ∧ d = 45 ∧ e = 62 then (tk 15 [], s.drop 3)
  else if c = 60 ∧ d = 33 ∧ e = 45 ∧ chr s 3 = 45 then (tk 14 [], s.drop 4)
  else if c = 35 ∧ (ltr d || esc d e) = true then (⟨4, (name (s.drop 1)).1, (0, 0), false, beg d e (chr s 3)⟩, (name (s.drop 1)).2)
  else if c = 64 ∧ beg d e (chr s 3) = true then (tk 3 (name (s.drop 1)).1, (name (s.drop 1)).2)
  else if beg c d e = true then word s
  else (tk 9 [c], s.drop 1)
def toksN : Nat → List Int → List Tk
  | 0, _ => []
  | n + 1, s => if rems s = [] then [] else (token (rems s)).1 :: toksN n (token (rems s)).2
def toks (s : List Int) : List Tk := toksN s.length s
end Go.Lift.Tok
end

section
/- A number at the front of a text, in plain Lean: it and what is behind it are the text. -/
namespace Go.Lift.Tok
set_option linter.unusedVariables false
set_option linter.unusedSimpArgs false
open Utf

theorem chr_at {s : List Int} {c : Int} (h : chr s 0 = c) (hc : c ≠ -1) : ∃ t, s = c :: t := by
  cases s with
  | nil => simp only [chr, List.getElem?_nil] at h; exact absurd h.symm hc
  | cons x t => simp only [chr, List.getElem?_cons_zero] at h; exact ⟨t, by rw [h]⟩
theorem chr_at1 {s : List Int} (h : dig (chr s 1) = true) : ∃ a b t, s = a :: b :: t ∧ dig b = true := by
  match s with
  | [] => simp [chr, dig] at h
  | [x] => simp [chr, dig] at h
  | a :: b :: t => exact ⟨a, b, t, rfl, by simpa [chr] using h⟩
theorem chr_drop (s : List Int) (n k : Nat) : chr (s.drop n) k = chr s (n + k) := by simp [chr]
theorem tw_dw (p : Int → Bool) (l : List Int) : l.takeWhile p ++ l.dropWhile p = l := List.takeWhile_append_dropWhile
theorem all_tw : ∀ l : List Int, (l.takeWhile dig).all dig = true
  | [] => rfl
  | c :: t => by
    cases hc : dig c with
    | true => rw [List.takeWhile_cons_of_pos hc, List.all_cons, hc, all_tw t]; rfl
    | false => rw [List.takeWhile_cons_of_neg (by simp [hc])]; rfl
theorem all_if {b : Bool} {l : List Int} : (if b = true then l.takeWhile dig else []).all dig = true := by
  cases b with
  | true => exact all_tw l
  | false => rfl

theorem numP_text (s : List Int) : (numP s).1.text ++ (numP s).2 = s := by
  unfold numP Nm.text
  simp only
  generalize hf : (chr ((if (chr s 0 == 43 || chr s 0 == 45) = true then s.drop 1 else s).dropWhile dig) 0 == 46 && dig (chr ((if (chr s 0 == 43 || chr s 0 == 45) = true then s.drop 1 else s).dropWhile dig) 1)) = f
  have hs : (if (chr s 0 == 43 || chr s 0 == 45) = true then s.take 1 else []) ++ (if (chr s 0 == 43 || chr s 0 == 45) = true then s.drop 1 else s) = s := by
    split
    · exact List.take_append_drop 1 s
    · rfl
  generalize (if (chr s 0 == 43 || chr s 0 == 45) = true then s.drop 1 else s) = a at *
  generalize (if (chr s 0 == 43 || chr s 0 == 45) = true then s.take 1 else []) = sg at *
  have ha := tw_dw dig a
  generalize a.takeWhile dig = d1 at *
  generalize a.dropWhile dig = b at *
  have hb : (if (if f = true then (b.drop 1).takeWhile dig else []) = [] then [] else 46 :: (if f = true then (b.drop 1).takeWhile dig else [])) ++ (if f = true then (b.drop 1).dropWhile dig else b) = b := by
    cases f with
    | false => simp
    | true =>
      simp only [Bool.and_eq_true, beq_iff_eq] at hf
      obtain ⟨u, hu⟩ := chr_at hf.1 (by decide)
      obtain ⟨x, y, v, hv, hy⟩ := chr_at1 hf.2
      rw [hu] at hv
      cases hv
      rw [hu]
      simp only [List.drop_succ_cons, List.drop_zero, if_true]
      rw [if_neg (by rw [List.takeWhile_cons_of_pos hy]; simp), List.cons_append, tw_dw]
  generalize (if f = true then (b.drop 1).takeWhile dig else []) = fr at *
  generalize (if f = true then (b.drop 1).dropWhile dig else b) = c at *
  generalize (if (chr c 1 == 43 || chr c 1 == 45) = true then 2 else 1) = k at *
  have hc : (if ((chr c 0 == 101 || chr c 0 == 69) && dig (chr c k)) = true then c.take k else []) ++ ((if ((chr c 0 == 101 || chr c 0 == 69) && dig (chr c k)) = true then (c.drop k).takeWhile dig else []) ++ (if ((chr c 0 == 101 || chr c 0 == 69) && dig (chr c k)) = true then (c.drop k).dropWhile dig else c)) = c := by
    split
    · rw [tw_dw, List.take_append_drop]
    · rfl
  simp only [List.append_assoc]
  rw [hc, hb, ha, hs]

theorem numP_ok {s : List Int} (hn : num (chr s 0) (chr s 1) (chr s 2) = true) : (numP s).1.Ok := by
  unfold numP
  simp only
  refine ⟨?_, all_tw _, ?_, ?_, ?_, ?_⟩
  · simp only
    split
    · rename_i h
      simp only [Bool.or_eq_true, beq_iff_eq] at h
      rcases h with h | h
      · obtain ⟨t, ht⟩ := chr_at h (by decide)
        right; left; rw [ht]; rfl
      · obtain ⟨t, ht⟩ := chr_at h (by decide)
        right; right; rw [ht]; rfl
    · exact .inl rfl
  · exact all_if
  · simp only
    unfold num at hn
    by_cases hsg : (chr s 0 == 43 || chr s 0 == 45) = true
    · rw [if_pos hsg] at hn ⊢
      have e0 : chr (s.drop 1) 0 = chr s 1 := chr_drop s 1 0
      have e1 : chr (s.drop 1) 1 = chr s 2 := chr_drop s 1 1
      rw [← e0, ← e1] at hn
      generalize s.drop 1 = a at *
      rw [Bool.or_eq_true, Bool.and_eq_true, beq_iff_eq] at hn
      intro h0
      rw [List.append_eq_nil_iff] at h0
      obtain ⟨h1, h2⟩ := h0
      cases a with
      | nil => rcases hn with hn | ⟨hn, _⟩ <;> simp [chr, dig] at hn
      | cons c t =>
        have hc0 : dig c = false := by
          cases hc : dig c with
          | true => rw [List.takeWhile_cons_of_pos hc] at h1; cases h1
          | false => rfl
        rw [List.dropWhile_cons_of_neg (by simp [hc0])] at h2
        rcases hn with hn | ⟨hn, hm⟩
        · have : dig c = true := hn
          rw [hc0] at this; cases this
        · have hf : (chr (c :: t) 0 == 46 && dig (chr (c :: t) 1)) = true := by simp [hn, hm]
          rw [if_pos hf] at h2
          obtain ⟨x, y, v, hv, hy⟩ := chr_at1 hm
          cases hv
          simp only [List.drop_succ_cons, List.drop_zero] at h2
          rw [List.takeWhile_cons_of_pos hy] at h2
          cases h2
    · rw [if_neg hsg] at hn ⊢
      rw [Bool.or_eq_true, Bool.and_eq_true, beq_iff_eq] at hn
      intro h0
      rw [List.append_eq_nil_iff] at h0
      obtain ⟨h1, h2⟩ := h0
      cases s with
      | nil => rcases hn with hn | ⟨hn, _⟩ <;> simp [chr, dig] at hn
      | cons c t =>
        have hc0 : dig c = false := by
          cases hc : dig c with
          | true => rw [List.takeWhile_cons_of_pos hc] at h1; cases h1
          | false => rfl
        rw [List.dropWhile_cons_of_neg (by simp [hc0])] at h2
        rcases hn with hn | ⟨hn, hm⟩
        · have : dig c = true := hn
          rw [hc0] at this; cases this
        · have hf : (chr (c :: t) 0 == 46 && dig (chr (c :: t) 1)) = true := by simp [hn, hm]
          rw [if_pos hf] at h2
          obtain ⟨x, y, v, hv, hy⟩ := chr_at1 hm
          cases hv
          simp only [List.drop_succ_cons, List.drop_zero] at h2
          rw [List.takeWhile_cons_of_pos hy] at h2
          cases h2
  · simp only
    generalize (if (chr ((if (chr s 0 == 43 || chr s 0 == 45) = true then s.drop 1 else s).dropWhile dig) 0 == 46 && dig (chr ((if (chr s 0 == 43 || chr s 0 == 45) = true then s.drop 1 else s).dropWhile dig) 1)) = true then (((if (chr s 0 == 43 || chr s 0 == 45) = true then s.drop 1 else s).dropWhile dig).drop 1).dropWhile dig else (if (chr s 0 == 43 || chr s 0 == 45) = true then s.drop 1 else s).dropWhile dig) = c
    by_cases hx : ((chr c 0 == 101 || chr c 0 == 69) && dig (chr c (if (chr c 1 == 43 || chr c 1 == 45) = true then 2 else 1))) = true
    · rw [if_pos hx, if_pos hx]
      right
      rw [Bool.and_eq_true] at hx
      obtain ⟨he, hd⟩ := hx
      rw [Bool.or_eq_true, beq_iff_eq, beq_iff_eq] at he
      obtain ⟨e, t, hc⟩ : ∃ e t, c = e :: t := by
        cases c with
        | nil => simp [chr] at he
        | cons e t => exact ⟨e, t, rfl⟩
      subst hc
      have he' : e = 101 ∨ e = 69 := by simpa [chr] using he
      by_cases hk : (chr (e :: t) 1 == 43 || chr (e :: t) 1 == 45) = true
      · rw [if_pos hk]
        rw [if_pos hk] at hd
        rw [Bool.or_eq_true, beq_iff_eq, beq_iff_eq] at hk
        cases t with
        | nil => simp [chr] at hk
        | cons s2 t2 =>
          have hs2 : s2 = 43 ∨ s2 = 45 := by simpa [chr] using hk
          refine ⟨⟨e, he', ?_⟩, ?_⟩
          · rcases hs2 with rfl | rfl
            · right; left; rfl
            · right; right; rfl
          · simp only [List.drop_succ_cons, List.drop_zero]
            cases t2 with
            | nil => simp [chr, dig] at hd
            | cons y v =>
              have hy : dig y = true := by simpa [chr] using hd
              rw [List.takeWhile_cons_of_pos hy]; simp
      · rw [if_neg hk]
        rw [if_neg hk] at hd
        refine ⟨⟨e, he', .inl rfl⟩, ?_⟩
        simp only [List.drop_succ_cons, List.drop_zero]
        cases t with
        | nil => simp [chr, dig] at hd
        | cons y v =>
          have hy : dig y = true := by simpa [chr] using hd
          rw [List.takeWhile_cons_of_pos hy]; simp
    · rw [if_neg hx, if_neg hx]
      exact .inl ⟨rfl, rfl⟩
  · exact all_if
end Go.Lift.Tok
end

section
/- Each token takes something: in plain Lean. -/
namespace Go.Lift.Tok
set_option linter.unusedVariables false
set_option linter.unusedSimpArgs false
open Utf

theorem hexN_le : ∀ (k : Nat) (n : Int) (s : List Int), (hexN k n s).2.length ≤ s.length
  | 0, n, s => Nat.le_refl _
  | k + 1, n, [] => Nat.le_refl _
  | k + 1, n, c :: t => by
    simp only [hexN]
    split
    · exact Nat.le_refl _
    · have := hexN_le k (n * 16 + hex c) t
      simp
      omega
theorem one1_le (s : List Int) : (one1 s).length ≤ s.length := by
  cases s with
  | nil => exact Nat.le_refl _
  | cons d u => simp only [one1]; split <;> simp
theorem escd_le (s : List Int) : (escd s).2.length ≤ s.length := by
  cases s with
  | nil => exact Nat.le_refl _
  | cons c t =>
    simp only [escd]
    split
    · simp
    · have := one1_le (hexN 6 0 (c :: t)).2
      have := hexN_le 6 0 (c :: t)
      simp only at *
      omega
theorem nameN_le : ∀ (n : Nat) (s : List Int), (nameN n s).2.length ≤ s.length
  | 0, s => Nat.le_refl _
  | n + 1, [] => Nat.le_refl _
  | n + 1, c :: t => by
    simp only [nameN]
    split
    · have := nameN_le n t
      simp
      omega
    · split
      · have := nameN_le n (escd t).2
        have := escd_le t
        simp
        omega
      · simp
theorem name_le (s : List Int) : (name s).2.length ≤ s.length := nameN_le _ _
theorem name_lt {c : Int} {t : List Int} (h : (ltr c || esc c (chr t 0)) = true) : (name (c :: t)).2.length ≤ t.length := by
  unfold name
  simp only [List.length_cons, nameN]
  split
  · exact nameN_le _ _
  · rename_i h2
    rw [if_pos (by simpa [h2] using h)]
    exact Nat.le_trans (nameN_le _ _) (escd_le t)
theorem txtN_le (sign : Int) : ∀ (n : Nat) (s : List Int), (txtN sign n s).2.2.length ≤ s.length
  | 0, s => Nat.le_refl _
  | n + 1, [] => Nat.le_refl _
  | n + 1, c :: t => by
    simp only [txtN]
    split
    · exact Nat.le_refl _
    · split
      · simp
      · split
        · cases t with
          | nil => simp
          | cons d u =>
            simp only
            split
            · have := txtN_le sign n u
              simp
              omega
            · have := txtN_le sign n (escd (d :: u)).2
              have := escd_le (d :: u)
              simp at *
              omega
        · have := txtN_le sign n t
          simp
          omega
theorem badN_le : ∀ (n : Nat) (s : List Int), (badN n s).length ≤ s.length
  | 0, s => Nat.le_refl _
  | n + 1, [] => Nat.le_refl _
  | n + 1, c :: t => by
    simp only [badN]
    split
    · simp
    · split
      · have := badN_le n (escd t).2
        have := escd_le t
        simp
        omega
      · have := badN_le n t
        simp
        omega
theorem blanks_le (s : List Int) : (blanks s).length ≤ s.length := (List.dropWhile_sublist _).length_le
theorem urlN_le : ∀ (n : Nat) (s : List Int), (urlN n s).2.2.length ≤ s.length
  | 0, s => Nat.le_refl _
  | n + 1, [] => Nat.le_refl _
  | n + 1, c :: t => by
    simp only [urlN]
    split
    · simp
    · split
      · have := blanks_le t
        split
        · simp
          omega
        · have := badN_le (blanks t).length (blanks t)
          simp [badu]
          omega
      · split
        · exact badN_le _ _
        · split
          · split
            · have := urlN_le n (escd t).2
              have := escd_le t
              simp
              omega
            · exact badN_le _ _
          · have := urlN_le n t
            simp
            omega
theorem url_le (s : List Int) : (url s).2.2.length ≤ s.length := Nat.le_trans (urlN_le _ _) (blanks_le s)
theorem skip2N_le : ∀ (n : Nat) (s : List Int), (skip2N n s).length ≤ s.length
  | 0, s => Nat.le_refl _
  | n + 1, s => by
    simp only [skip2N]
    split
    · have := skip2N_le n (s.drop 1)
      simp at *
      omega
    · exact Nat.le_refl _
theorem skip2_le (s : List Int) : (skip2 s).length ≤ s.length := skip2N_le _ _
theorem skipR_le : ∀ s : List Int, (skipR s).length ≤ s.length
  | [] => Nat.le_refl _
  | [_] => by simp [skipR]
  | c :: d :: t => by
    simp only [skipR]
    split
    · simp; omega
    · have := skipR_le (d :: t)
      simp at *
      omega
theorem remN_le : ∀ (n : Nat) (s : List Int), (remN n s).length ≤ s.length
  | 0, s => Nat.le_refl _
  | n + 1, [] => Nat.le_refl _
  | n + 1, [_] => Nat.le_refl _
  | n + 1, c :: d :: t => by
    simp only [remN]
    split
    · have := remN_le n (skipR t)
      have := skipR_le t
      simp
      omega
    · exact Nat.le_refl _
theorem rems_le (s : List Int) : (rems s).length ≤ s.length := remN_le _ _
theorem beg_ltr {c d e : Int} (h : beg c d e = true) : (ltr c || esc c d) = true := by
  unfold beg at h
  split at h
  · rename_i h45
    simp only [beq_iff_eq] at h45
    subst h45
    rfl
  · rw [Bool.or_eq_true] at h
    rcases h with h | h
    · unfold ltr; simp [h]
    · simp [h]
theorem word_lt {c : Int} {t : List Int} (h : beg c (chr t 0) (chr t 1) = true) : (word (c :: t)).2.length ≤ t.length := by
  have h1 := name_lt (beg_ltr h)
  unfold word
  simp only
  split
  · split
    · have h2 := skip2_le ((name (c :: t)).2.drop 1)
      rw [List.length_drop] at h2
      have h3 := url_le (skip2 ((name (c :: t)).2.drop 1))
      have key : ∀ b : Bool, (if b = true then (tk 2 (name (c :: t)).1, skip2 ((name (c :: t)).2.drop 1)) else (urlT (url (skip2 ((name (c :: t)).2.drop 1))), (url (skip2 ((name (c :: t)).2.drop 1))).2.2)).2.length ≤ t.length := by
        intro b
        cases b with
        | true => rw [if_pos rfl]; show (skip2 ((name (c :: t)).2.drop 1)).length ≤ _; omega
        | false => rw [if_neg (by simp)]; show (url (skip2 ((name (c :: t)).2.drop 1))).2.2.length ≤ _; omega
      exact key _
    · simp
      omega
  · exact h1
theorem figure_lt {c : Int} {t : List Int} (h : num c (chr t 0) (chr t 1) = true) : (figure (c :: t)).2.length ≤ t.length := by
  have h0 : num (chr (c :: t) 0) (chr (c :: t) 1) (chr (c :: t) 2) = true := by
    have e1 : chr (c :: t) 1 = chr t 0 := by simp [chr]
    have e2 : chr (c :: t) 2 = chr t 1 := by simp [chr]
    rw [e1, e2]; exact h
  have hok := numP_ok h0
  have ht := congrArg List.length (numP_text (c :: t))
  rw [List.length_append, List.length_cons] at ht
  have hpos : 0 < (numP (c :: t)).1.text.length := by
    have := hok.some
    rcases Nat.eq_zero_or_pos (numP (c :: t)).1.text.length with h2 | h2
    · exfalso
      have h3 := List.eq_nil_of_length_eq_zero h2
      unfold Nm.text at h3
      simp only [List.append_eq_nil_iff] at h3
      have h4 : (numP (c :: t)).1.fr = [] := by
        have := h3.1.1.2
        split at this
        · assumption
        · cases this
      exact this (by rw [h3.1.1.1.2, h4]; rfl)
    · exact h2
  unfold figure
  simp only
  split
  · have := name_le (numP (c :: t)).2
    simp only
    omega
  · split
    · simp
      omega
    · simp only
      omega
theorem token_lt {s : List Int} (h : s ≠ []) : (token s).2.length < s.length := by
  obtain ⟨c, t, rfl⟩ : ∃ c t, s = c :: t := by
    cases s with
    | nil => exact absurd rfl h
    | cons c t => exact ⟨c, t, rfl⟩
  have e0 : chr (c :: t) 0 = c := rfl
  have e1 : chr (c :: t) 1 = chr t 0 := by simp [chr]
  have e2 : chr (c :: t) 2 = chr t 1 := by simp [chr]
  have e3 : chr (c :: t) 3 = chr t 2 := by simp [chr]
  unfold token
  simp only [e0, e1, e2, e3, List.length_cons, List.drop_succ_cons, List.drop_zero]
  split
  · rename_i hb
    have : (blanks (c :: t)).length ≤ t.length := by
      unfold blanks
      rw [List.dropWhile_cons_of_pos hb]
      exact (List.dropWhile_sublist _).length_le
    simp only
    omega
  · split
    · have := txtN_le c t.length t
      unfold txt
      simp only
      omega
    · split
      · simp
      · split
        · rename_i hn
          have := figure_lt hn
          omega
        · split
          · simp; omega
          · split
            · simp; omega
            · split
              · have := name_le t
                simp only
                omega
              · split
                · have := name_le t
                  simp only
                  omega
                · split
                  · rename_i hb
                    have := word_lt hb
                    omega
                  · simp
end Go.Lift.Tok
end

section
/- What a token holds: in plain Lean. -/
namespace Go.Lift.Tok
set_option linter.unusedVariables false
set_option linter.unusedSimpArgs false
open Utf

/-- what is claimed of a token -/
structure Few (t : Tk) : Prop where
  lo : 1 ≤ t.kind
  hi : t.kind ≤ 24
  named : (t.kind = 1 ∨ t.kind = 2 ∨ t.kind = 3 ∨ t.kind = 4 ∨ t.kind = 12 ∨ t.kind = 9) → t.text ≠ []
  text : t.kind ≠ 1 → t.kind ≠ 2 → t.kind ≠ 3 → t.kind ≠ 4 → t.kind ≠ 12 → t.kind ≠ 9 → t.kind ≠ 5 → t.kind ≠ 7 → t.text = []
  num : t.kind ≠ 10 → t.kind ≠ 11 → t.kind ≠ 12 → t.num = (0, 0) ∧ t.whole = false
  id : t.id = true → t.kind = 4
  den : 0 ≤ t.num.2
  zero : t.num.2 = 0 → t.num.1 = 0
  one : t.whole = true → t.num.2 ≤ 1

theorem few_tk {k : Int} {t : List Int} (h1 : 1 ≤ k) (h2 : k ≤ 24) (h3 : (k = 1 ∨ k = 2 ∨ k = 3 ∨ k = 4 ∨ k = 12 ∨ k = 9) → t ≠ [])
    (h4 : k ≠ 1 → k ≠ 2 → k ≠ 3 → k ≠ 4 → k ≠ 12 → k ≠ 9 → k ≠ 5 → k ≠ 7 → t = []) : Few (tk k t) :=
  ⟨h1, h2, h3, h4, fun _ _ _ => ⟨rfl, rfl⟩, fun h => by simp [tk] at h, Int.le_refl _, fun _ => rfl, fun h => by simp [tk] at h⟩

theorem turn_ok {b : Bool} {x : Option (Int × Int)} (h : ∀ n d, x = some (n, d) → 1 ≤ d) : 0 ≤ (turn b x).2 ∧ ((turn b x).2 = 0 → (turn b x).1 = 0) := by
  cases x with
  | none => exact ⟨Int.le_refl 0, fun _ => rfl⟩
  | some p =>
    obtain ⟨n, d⟩ := p
    have := h n d rfl
    simp only [turn]
    exact ⟨by omega, fun h => by omega⟩
theorem scaleR_den {n p a d : Int} (h : scaleR n p = some (a, d)) : 1 ≤ d ∧ (0 ≤ p → d = 1) := by
  unfold scaleR at h
  split at h
  · cases h
  · rename_i m hm
    split at h
    · cases h
    · cases hk : mulN 5 1844674407370955161 (divN 5 (-p).toNat (divN 2 (-p).toNat m).2).1 (2 ^ (divN 2 (-p).toNat m).1) with
      | none => rw [hk] at h; cases h
      | some z =>
        rw [hk] at h
        simp only [Option.map_some, Option.some.injEq, Prod.mk.injEq] at h
        obtain ⟨_, rfl⟩ := h
        obtain ⟨hz, _⟩ := mulN_some (by omega) _ _ _ hk
        refine ⟨?_, fun hp => ?_⟩
        · rw [hz]
          have a1 : (1 : Int) ≤ 2 ^ (divN 2 (-p).toNat m).1 := one_pow_le (by omega) _
          have a2 : (1 : Int) ≤ 5 ^ (divN 5 (-p).toNat (divN 2 (-p).toNat m).2).1 := one_pow_le (by omega) _
          exact Int.le_trans a1 (le_mulr (by omega) a2)
        · have e : (-p).toNat = 0 := by omega
          rw [hz, e]
          rfl
theorem core_le (d : List Int) : (core d).length ≤ d.length := by
  unfold core
  have h : (d.reverse.dropWhile (· == 48)).length ≤ d.reverse.length := (List.dropWhile_sublist _).length_le
  simp at h ⊢
  exact h
theorem ratio_ok (w : Wr) : 0 ≤ (ratio w).2 ∧ ((ratio w).2 = 0 → (ratio w).1 = 0) := by
  unfold ratio
  simp only
  split
  · exact ⟨by decide, fun h => by simp at h⟩
  · split
    · exact ⟨by decide, fun _ => rfl⟩
    · exact turn_ok fun n d h => (scaleR_den h).1
theorem ratio_one {w : Wr} (h1 : w.exp = 0) (h2 : w.behind = 0) : (ratio w).2 ≤ 1 := by
  unfold ratio
  simp only
  split
  · decide
  · split
    · decide
    · generalize hx : scaleR (valN 0 (core (w.digits.dropWhile fun x => x == 48))) (w.exp - w.behind + (((w.digits.dropWhile fun x => x == 48).length : Int) - ((core (w.digits.dropWhile fun x => x == 48)).length : Int))) = x
      cases x with
      | none => show (0 : Int) ≤ 1; decide
      | some p =>
        obtain ⟨n, d⟩ := p
        have hc := core_le (w.digits.dropWhile fun x => x == 48)
        have := (scaleR_den hx).2 (by rw [h1, h2]; omega)
        simp only [turn]
        omega
theorem name_ne {s : List Int} (h : (ltr (chr s 0) || esc (chr s 0) (chr s 1)) = true) : (name s).1 ≠ [] := by
  cases s with
  | nil => simp [chr, ltr, esc, fst1, dig] at h
  | cons c t =>
    have e0 : chr (c :: t) 0 = c := by simp [chr]
    have e1 : chr (c :: t) 1 = chr t 0 := by simp [chr]
    rw [e0, e1] at h
    unfold name
    simp only [List.length_cons, nameN]
    split
    · simp
    · rename_i h2
      rw [if_pos (by simpa [h2] using h)]
      simp
theorem few_num {k : Int} {t : List Int} {s : List Int} (hk : k = 10 ∨ k = 11 ∨ k = 12 ∧ t ≠ []) (ht : k ≠ 12 → t = []) (ok : (numP s).1.Ok) :
    Few ⟨k, t, (numP s).1.num.1, (numP s).1.num.2, false⟩ := by
  have r := ratio_ok (numP s).1.wr
  have h12 : k = 12 → t ≠ [] := by
    rintro rfl
    rcases hk with h | h | h
    · omega
    · omega
    · exact h.2
  refine ⟨?_, ?_, ?_, ?_, ?_, ?_, r.1, r.2, ?_⟩
  · simp only; omega
  · simp only; omega
  · intro h
    simp only at h ⊢
    exact h12 (by omega)
  · intro _ _ _ _ h _ _ _
    exact ht h
  · intro a b c
    simp only at a b c
    omega
  · intro h; simp at h
  · intro h
    simp only [Nm.num, Nm.wr, Bool.and_eq_true, List.isEmpty_iff] at h ⊢
    obtain ⟨h1, h2⟩ := h
    refine ratio_one ?_ ?_
    · simp only
      rw [h2]
      have h3 : (numP s).1.d3 = [] := by
        rcases ok.ex with h | ⟨⟨e, _, h⟩, _⟩
        · exact h.2
        · rw [h2] at h
          rcases h with h | h | h <;> cases h
      rw [h3]
      rfl
    · simp only
      rw [h1]
      rfl
theorem few_figure {s : List Int} (h : num (chr s 0) (chr s 1) (chr s 2) = true) : Few (figure s).1 := by
  have ok := numP_ok h
  unfold figure
  simp only
  split
  · rename_i hb
    exact few_num (.inr (.inr ⟨rfl, name_ne (beg_ltr hb)⟩)) (fun h => absurd rfl h) ok
  · split
    · exact few_num (.inr (.inl rfl)) (fun _ => rfl) ok
    · exact few_num (.inl rfl) (fun _ => rfl) ok
theorem few_urlT (x : Bool × List Int × List Int) : Few (urlT x) := by
  unfold urlT
  split
  · exact few_tk (by decide) (by decide) (fun h => by omega) (fun _ _ _ _ _ _ _ h => absurd rfl h)
  · exact few_tk (by decide) (by decide) (fun h => by omega) (fun _ _ _ _ _ _ _ _ => rfl)
theorem few_txtT (x : Bool × List Int × List Int) : Few (txtT x) := by
  unfold txtT
  split
  · exact few_tk (by decide) (by decide) (fun h => by omega) (fun _ _ _ _ _ _ h _ => absurd rfl h)
  · exact few_tk (by decide) (by decide) (fun h => by omega) (fun _ _ _ _ _ _ _ _ => rfl)
theorem few_word {s : List Int} (h : (name s).1 ≠ []) : Few (word s).1 := by
  have f1 : Few (tk 1 (name s).1) := few_tk (by decide) (by decide) (fun _ => h) (fun h => absurd rfl h)
  have f2 : Few (tk 2 (name s).1) := few_tk (by decide) (by decide) (fun _ => h) (fun _ h => absurd rfl h)
  unfold word
  simp only
  split
  · split
    · have key : ∀ b : Bool, Few (if b = true then (tk 2 (name s).1, skip2 ((name s).2.drop 1)) else (urlT (url (skip2 ((name s).2.drop 1))), (url (skip2 ((name s).2.drop 1))).2.2)).1 := by
        intro b
        cases b with
        | true => rw [if_pos rfl]; exact f2
        | false => rw [if_neg (by simp)]; exact few_urlT _
      exact key _
    · exact f2
  · exact f1
theorem plK_in {c : Int} (h : 0 < plK c) : 16 ≤ plK c ∧ plK c ≤ 24 := by
  unfold plK at *
  repeat (split at h)
  all_goals (try (split <;> first | omega | (simp_all; done)))
  all_goals simp_all
theorem few_token {s : List Int} : Few (token s).1 := by
  unfold token
  simp only
  split
  · exact few_tk (by decide) (by decide) (fun h => by omega) (fun _ _ _ _ _ _ _ _ => rfl)
  · split
    · exact few_txtT _
    · split
      · rename_i hp
        have := plK_in hp
        exact few_tk (by omega) (by omega) (fun h => by omega) (fun _ _ _ _ _ _ _ _ => rfl)
      · split
        · rename_i hn
          exact few_figure hn
        · split
          · exact few_tk (by decide) (by decide) (fun h => by omega) (fun _ _ _ _ _ _ _ _ => rfl)
          · split
            · exact few_tk (by decide) (by decide) (fun h => by omega) (fun _ _ _ _ _ _ _ _ => rfl)
            · split
              · rename_i hh
                have hne : (name (s.drop 1)).1 ≠ [] := name_ne (by rw [chr_drop, chr_drop]; exact hh.2)
                refine ⟨by show (1 : Int) ≤ 4; decide, by show (4 : Int) ≤ 24; decide, fun _ => hne, fun _ _ _ h => absurd rfl h, fun _ _ _ => ⟨rfl, rfl⟩, fun _ => rfl, Int.le_refl _, fun _ => rfl, fun h => by simp at h⟩
              · split
                · rename_i hh
                  have hne : (name (s.drop 1)).1 ≠ [] := name_ne (beg_ltr (e := chr (s.drop 1) 2) (by rw [chr_drop, chr_drop, chr_drop]; exact hh.2))
                  exact few_tk (by decide) (by decide) (fun _ => hne) (fun _ _ h => absurd rfl h)
                · split
                  · rename_i hb
                    exact few_word (name_ne (beg_ltr hb))
                  · exact few_tk (by decide) (by decide) (fun _ => by simp) (fun _ _ _ _ _ h => absurd rfl h)
theorem few_toksN : ∀ (n : Nat) (s : List Int), ∀ t ∈ toksN n s, Few t
  | 0, s => by simp [toksN]
  | n + 1, s => by
    intro t ht
    simp only [toksN] at ht
    split at ht
    · simp at ht
    · rcases List.mem_cons.1 ht with rfl | ht
      · exact few_token
      · exact few_toksN n _ t ht
theorem few_toks (s : List Int) : ∀ t ∈ toks s, Few t := few_toksN _ _
end Go.Lift.Tok
end

section
/- A fraction as a stylesheet writes it: what is computed, in plain Lean. -/
namespace Go.Lift.Spell
set_option linter.unusedVariables false
set_option linter.unusedSimpArgs false
open Utf Tok

def big : Int := 1000000000000000000
/-- as the reference scales -/
def refN : Nat → Int → Int → Nat → Option (Int × Nat)
  | 0, _, _, _ => none
  | k + 1, n, d, p => if d ≤ 1 then some (n, p) else if d % 2 ≠ 0 ∧ d % 5 ≠ 0 then none else if d % 10 = 0 then refN k n (d / 10) (p + 1)
    else if big ≤ n then none else if d % 5 = 0 then refN k (n * 2) (d / 5) (p + 1) else refN k (n * 5) (d / 2) (p + 1)
def upM (x : Int) : Nat → Int → Option Int
  | 0, m => some m
  | k + 1, m => if big < m then none else upM x k (m * x)
def upR (x : Int) : Nat → Int → Option Int
  | 0, m => some m
  | k + 1, m => if big ≤ m then none else upR x k (m * x)
/-- how many fives make up a number, and the rest -/
def fv : Nat → Int → Nat × Int
  | 0, d => (0, d)
  | k + 1, d => if d % 5 = 0 then ((fv k (d / 5)).1 + 1, (fv k (d / 5)).2) else (0, d)
/-- as the program scales -/
def progN (n d : Int) : Option (Int × Nat) :=
  let a := Go.Lib.ctz 64 d.toNat
  let b := (fv 64 (d / 2 ^ a)).1
  if (fv 64 (d / 2 ^ a)).2 = 1 then ((upM 2 (max a b - a) n).bind (upM 5 (max a b - b))).map fun m => (m, max a b) else none

theorem pow_pos {x : Int} (hx : 0 < x) (k : Nat) : 0 < x ^ k := by
  induction k with
  | zero => simp
  | succ k ih => rw [Int.pow_succ]; exact Int.mul_pos ih hx
theorem fv_spec : ∀ (k : Nat) (d : Int), 1 ≤ d → d < 5 ^ k → d = 5 ^ (fv k d).1 * (fv k d).2 ∧ (fv k d).2 % 5 ≠ 0 ∧ 1 ≤ (fv k d).2
  | 0, d, h1, h2 => by simp at h2; omega
  | k + 1, d, h1, h2 => by
    simp only [fv]
    split
    · rename_i h
      obtain ⟨a, b, c⟩ := fv_spec k (d / 5) (by omega) (by rw [Int.pow_succ] at h2; omega)
      refine ⟨?_, b, c⟩
      have e : d = d / 5 * 5 := by omega
      rw [Int.pow_succ, Int.mul_assoc, Int.mul_comm 5, ← Int.mul_assoc, ← a]
      exact e
    · rename_i h
      exact ⟨by simp, h, h1⟩
theorem fv_pow : ∀ (k b : Nat), b < k → fv k (5 ^ b) = (b, 1)
  | 0, b, h => by omega
  | k + 1, 0, h => by
    have e : ((5 : Int) ^ 0) = 1 := by simp
    simp only [fv, e]
    rw [if_neg (by decide)]
  | k + 1, b + 1, h => by
    have e : (5 : Int) ^ (b + 1) = 5 ^ b * 5 := Int.pow_succ 5 b
    have e1 : (5 : Int) ^ (b + 1) % 5 = 0 := by rw [e]; omega
    have e2 : (5 : Int) ^ (b + 1) / 5 = 5 ^ b := by rw [e]; omega
    simp only [fv]
    rw [if_pos e1, e2, fv_pow k b (by omega)]

/-- neither a two nor a five -/
theorem ref_none {r : Int} (h2 : r % 2 ≠ 0) (h5 : r % 5 ≠ 0) (h1 : 1 < r) : ∀ (k a b : Nat) (n : Int) (p : Nat), refN k n (2 ^ a * 5 ^ b * r) p = none
  | 0, _, _, _, _ => rfl
  | k + 1, a, b, n, p => by
    have pa := pow_pos (x := 2) (by omega) a
    have pb := pow_pos (x := 5) (by omega) b
    have hd : 1 < 2 ^ a * 5 ^ b * r := by
      have h3 : (1 : Int) ≤ 2 ^ a * 5 ^ b := Int.mul_pos pa pb
      have h4 : r ≤ 2 ^ a * 5 ^ b * r := le_mull (by omega) h3
      omega
    simp only [refN]
    rw [if_neg (by omega)]
    cases a with
    | zero =>
      cases b with
      | zero =>
        have e : (2 : Int) ^ 0 * 5 ^ 0 * r = r := by simp
        rw [e, if_pos ⟨h2, h5⟩]
      | succ b =>
        have e : (2 : Int) ^ 0 * 5 ^ (b + 1) * r = 5 * (2 ^ 0 * 5 ^ b * r) := by rw [Int.pow_succ]; ac_rfl
        have hodd : (2 ^ 0 * 5 ^ (b + 1) * r) % 2 ≠ 0 := by
          have h3 : ∀ b : Nat, ((5 : Int) ^ b * r) % 2 ≠ 0 := by
            intro b
            induction b with
            | zero => simpa using h2
            | succ b ih => rw [Int.pow_succ, Int.mul_assoc, Int.mul_comm 5, ← Int.mul_assoc]; omega
          simpa using h3 (b + 1)
        have hm : (2 ^ 0 * 5 ^ (b + 1) * r) % 5 = 0 := by rw [e]; omega
        rw [if_neg (by omega), if_neg (by omega)]
        split
        · rfl
        · skip
          have e2 : (2 ^ 0 * 5 ^ (b + 1) * r) / 5 = 2 ^ 0 * 5 ^ b * r := by rw [e]; omega
          rw [e2]
          exact ref_none h2 h5 h1 k 0 b _ _
    | succ a =>
      have e0 : (2 : Int) ^ (a + 1) * 5 ^ b * r = 2 * (2 ^ a * 5 ^ b * r) := by rw [Int.pow_succ]; ac_rfl
      have heven : (2 ^ (a + 1) * 5 ^ b * r) % 2 = 0 := by rw [e0]; omega
      rw [if_neg (by omega)]
      cases b with
      | zero =>
        have h3 : (2 ^ (a + 1) * 5 ^ 0 * r) % 5 ≠ 0 := by
          have h3 : ∀ a : Nat, ((2 : Int) ^ a * r) % 5 ≠ 0 := by
            intro a
            induction a with
            | zero => simpa using h5
            | succ a ih => rw [Int.pow_succ, Int.mul_assoc, Int.mul_comm 2, ← Int.mul_assoc]; omega
          simpa using h3 (a + 1)
        rw [if_neg (by omega)]
        split
        · rfl
        · skip
          have e2 : (2 ^ (a + 1) * 5 ^ 0 * r) / 2 = 2 ^ a * 5 ^ 0 * r := by rw [e0]; omega
          rw [e2]
          exact ref_none h2 h5 h1 k a 0 _ _
      | succ b =>
        have e : (2 : Int) ^ (a + 1) * 5 ^ (b + 1) * r = 10 * (2 ^ a * 5 ^ b * r) := by
          rw [Int.pow_succ, Int.pow_succ, show (10 : Int) = 2 * 5 from rfl]; ac_rfl
        rw [if_pos (by rw [e]; omega)]
        have e2 : (2 ^ (a + 1) * 5 ^ (b + 1) * r) / 10 = 2 ^ a * 5 ^ b * r := by rw [e]; omega
        rw [e2]
        exact ref_none h2 h5 h1 k a b _ _

theorem up_odd : ∀ (k : Nat) (n : Int), n % 2 ≠ 0 → upR 5 k n = upM 5 k n
  | 0, _, _ => rfl
  | k + 1, n, h => by
    simp only [upR, upM]
    have e : n ≠ big := by unfold big; omega
    rw [up_odd k (n * 5) (by omega)]
    by_cases hb : big < n
    · rw [if_pos (by omega), if_pos hb]
    · rw [if_neg (by omega), if_neg hb]
theorem up_no5 : ∀ (k : Nat) (n : Int), n % 5 ≠ 0 → upR 2 k n = upM 2 k n
  | 0, _, _ => rfl
  | k + 1, n, h => by
    simp only [upR, upM]
    have e : n ≠ big := by unfold big; omega
    rw [up_no5 k (n * 2) (by omega)]
    by_cases hb : big < n
    · rw [if_pos (by omega), if_pos hb]
    · rw [if_neg (by omega), if_neg hb]
theorem pow5_mod (b : Nat) : ((5 : Int) ^ b) % 2 = 1 := by
  induction b with
  | zero => simp
  | succ b ih => rw [Int.pow_succ]; omega
theorem pow2_mod (a : Nat) : ((2 : Int) ^ a) % 5 ≠ 0 := by
  induction a with
  | zero => simp
  | succ a ih => rw [Int.pow_succ]; omega
theorem ref_five : ∀ (b k : Nat) (n : Int) (p : Nat), b < k → refN k n (5 ^ b) p = (upR 2 b n).map fun m => (m, p + b)
  | b, 0, n, p, h => by omega
  | 0, k + 1, n, p, h => by
    simp only [refN, upR]
    rw [if_pos (by simp)]
    simp
  | b + 1, k + 1, n, p, h => by
    have pb := pow_pos (x := 5) (by omega) b
    have e : (5 : Int) ^ (b + 1) = 5 * 5 ^ b := by rw [Int.pow_succ, Int.mul_comm]
    have o := pow5_mod (b + 1)
    simp only [refN, upR]
    rw [if_neg (by omega), if_neg (by omega), if_neg (by omega)]
    split
    · rfl
    · rw [if_pos (by omega)]
      have e2 : (5 : Int) ^ (b + 1) / 5 = 5 ^ b := by omega
      rw [e2, ref_five b k _ _ (by omega)]
      have e3 : p + 1 + b = p + (b + 1) := by omega
      rw [e3]
theorem ref_two : ∀ (a k : Nat) (n : Int) (p : Nat), a < k → refN k n (2 ^ a) p = (upR 5 a n).map fun m => (m, p + a)
  | a, 0, n, p, h => by omega
  | 0, k + 1, n, p, h => by
    simp only [refN, upR]
    rw [if_pos (by simp)]
    simp
  | a + 1, k + 1, n, p, h => by
    have pa := pow_pos (x := 2) (by omega) a
    have e : (2 : Int) ^ (a + 1) = 2 * 2 ^ a := by rw [Int.pow_succ, Int.mul_comm]
    have o := pow2_mod (a + 1)
    simp only [refN, upR]
    rw [if_neg (by omega), if_neg (by omega), if_neg (by omega)]
    split
    · rfl
    · skip
      have e2 : (2 : Int) ^ (a + 1) / 2 = 2 ^ a := by omega
      rw [e2, ref_two a k _ _ (by omega)]
      have e3 : p + 1 + a = p + (a + 1) := by omega
      rw [e3]
theorem ref_ten : ∀ (j a b k : Nat) (n : Int) (p : Nat), j + max a b < k → refN k n (2 ^ (j + a) * 5 ^ (j + b)) p = refN (k - j) n (2 ^ a * 5 ^ b) (p + j)
  | 0, a, b, k, n, p, h => by simp
  | j + 1, a, b, 0, n, p, h => by omega
  | j + 1, a, b, k + 1, n, p, h => by
    have pa := pow_pos (x := 2) (by omega) (j + a)
    have pb := pow_pos (x := 5) (by omega) (j + b)
    have e : (2 : Int) ^ (j + 1 + a) * 5 ^ (j + 1 + b) = 10 * (2 ^ (j + a) * 5 ^ (j + b)) := by
      have e1 : j + 1 + a = j + a + 1 := by omega
      have e2 : j + 1 + b = j + b + 1 := by omega
      rw [e1, e2, Int.pow_succ, Int.pow_succ, show (10 : Int) = 2 * 5 from rfl]; ac_rfl
    have h3 : (1 : Int) ≤ 2 ^ (j + a) * 5 ^ (j + b) := Int.mul_pos pa pb
    simp only [refN]
    rw [e, if_neg (by omega), if_neg (by omega), if_pos (by omega)]
    have e2 : 10 * ((2 : Int) ^ (j + a) * 5 ^ (j + b)) / 10 = 2 ^ (j + a) * 5 ^ (j + b) := by omega
    rw [e2, ref_ten j a b k n (p + 1) (by omega)]
    have e3 : p + 1 + j = p + (j + 1) := by omega
    have e4 : k + 1 - (j + 1) = k - j := by omega
    rw [e3, e4]

/-- the same scale -/
theorem scale_same {n d : Int} (h1 : 1 ≤ d) (h2 : d < 9223372036854775808) (hg : ∀ x, (x = 2 ∨ x = 5) → d % x = 0 → n % x ≠ 0) : refN 64 n d 0 = progN n d := by
  unfold progN
  simp only
  have hlow := Go.Lib.ctzFrom_spec 64 d.toNat (by omega) (by omega)
  have hctz : Go.Lib.ctz 64 d.toNat = Go.Lib.ctzFrom 64 d.toNat := by unfold Go.Lib.ctz; rw [if_neg (by omega)]
  rw [← hctz] at hlow
  generalize Go.Lib.ctz 64 d.toNat = a at *
  obtain ⟨m, hm, ha⟩ := hlow
  have hd : d = 2 ^ a * (2 * (m : Int) + 1) := by
    have : (d.toNat : Int) = ((2 ^ a * (2 * m + 1) : Nat) : Int) := by rw [hm]
    have e : (d.toNat : Int) = d := by omega
    rw [e] at this
    rw [this]; push_cast; rfl
  have pa := pow_pos (x := 2) (by omega) a
  have hq : d / 2 ^ a = 2 * (m : Int) + 1 := by rw [hd]; exact Int.mul_ediv_cancel_left _ (by omega)
  rw [hq]
  have hle : 2 * (m : Int) + 1 ≤ d := by rw [hd]; exact le_mull (by omega) (by omega)
  have h64 : (9223372036854775808 : Int) ≤ 5 ^ 64 := by decide
  obtain ⟨f1, f2, f3⟩ := fv_spec 64 (2 * (m : Int) + 1) (by omega) (by omega)
  generalize hb : (fv 64 (2 * (m : Int) + 1)).1 = b at *
  generalize hr : (fv 64 (2 * (m : Int) + 1)).2 = r at *
  have hd2 : d = 2 ^ a * 5 ^ b * r := by rw [hd, f1, Int.mul_assoc]
  by_cases h : r = 1
  · rw [if_pos h]
    rw [h, Int.mul_one] at hd2
    have ha64 : a < 64 := ha
    have hb64 : b < 64 := by
      rcases Nat.lt_or_ge b 64 with h | h
      · exact h
      · exfalso
        have h3 : (5 : Int) ^ 64 ≤ 5 ^ b := by
          obtain ⟨j, rfl⟩ : ∃ j, b = 64 + j := ⟨b - 64, by omega⟩
          rw [Int.pow_add]
          exact le_mulr (by decide) (pow_pos (by omega) j)
        have h4 : (5 : Int) ^ b ≤ 2 ^ a * 5 ^ b := le_mull (by have := pow_pos (x := 5) (by omega) b; omega) pa
        omega
    rcases Nat.le_total a b with hab | hab
    · obtain ⟨j, rfl⟩ : ∃ j, b = a + j := ⟨b - a, by omega⟩
      have e := ref_ten a 0 j 64 n 0 (by omega)
      simp only [Nat.add_zero, Int.pow_zero, Int.one_mul, Nat.zero_add] at e
      rw [hd2, e, ref_five j (64 - a) n a (by omega)]
      have e1 : max a (a + j) = a + j := by omega
      have e2 : a + j - a = j := by omega
      rw [e1, e2, Nat.sub_self]
      cases j with
      | zero => rfl
      | succ j =>
        have h5 : n % 5 ≠ 0 := hg 5 (.inr rfl) (by
          rw [hd2, show a + (j + 1) = a + j + 1 by omega, Int.pow_succ, ← Int.mul_assoc]; omega)
        rw [up_no5 _ n h5]
        cases upM 2 (j + 1) n <;> rfl
    · obtain ⟨j, rfl⟩ : ∃ j, a = b + j := ⟨a - b, by omega⟩
      have e := ref_ten b j 0 64 n 0 (by omega)
      simp only [Nat.add_zero, Int.pow_zero, Int.mul_one, Nat.zero_add] at e
      rw [hd2, e, ref_two j (64 - b) n b (by omega)]
      have e1 : max (b + j) b = b + j := by omega
      have e2 : b + j - b = j := by omega
      rw [e1, e2, Nat.sub_self]
      cases j with
      | zero => rfl
      | succ j =>
        have h5 : n % 2 ≠ 0 := hg 2 (.inl rfl) (by
          rw [hd2, show b + (j + 1) = b + j + 1 by omega, Int.pow_succ, Int.mul_assoc, Int.mul_comm 2, ← Int.mul_assoc]; omega)
        rw [up_odd _ n h5]
        simp only [upM, Option.bind_some]
  · rw [if_neg h, hd2]
    have hodd : r % 2 ≠ 0 := by
      intro h0
      have e : (2 * (m : Int) + 1) % 2 = 1 := by omega
      rw [f1] at e
      have e2 : r = 2 * (r / 2) := by omega
      rw [e2, Int.mul_comm 2, ← Int.mul_assoc] at e
      omega
    exact ref_none hodd f2 (by omega) 64 a b n 0
/-- may a fraction be? -/
def sureR (n d : Int) : Bool := decide (1 ≤ d) && n != -9223372036854775808 && Nat.gcd n.natAbs d.toNat == 1
def mayR (n d : Int) : Bool := (n == 0 && d == 0) || sureR n d
/-- a number in decimal digits -/
def dgt (m : Int) : List Int := (Go.Lib.decDigits m.toNat).map fun c => (c.toNat : Int)
/-- the text of such a number, with so many digits behind the point -/
def numText (below whole : Bool) (m : Int) (p : Nat) : Option (List Int) :=
  if 18 < (core (dgt m)).length then none else
  let t := List.replicate (p + 1 - (dgt m).length) 48 ++ dgt m
  some ((if below = true then [45] else []) ++ (t.take (t.length - p) ++ (if whole = true then [] else 46 :: (t.drop (t.length - p) ++ if p = 0 then [48] else []))))
/-- a fraction's text -/
def plainT (n d : Int) (whole : Bool) : Option (List Int) :=
  if (!(mayR n d) || whole && decide (1 < d)) = true then none
  else if d = 0 then some (if whole = true then List.replicate 20 57 else [49, 101, 57, 57])
  else match progN n.natAbs d with
    | none => none
    | some (m, p) => numText (decide (n < 0)) whole m p
end Go.Lift.Spell
end

section
/- Which tokens may be: what is computed, in plain Lean. -/
namespace Go.Lift.Spell
set_option linter.unusedVariables false
set_option linter.unusedSimpArgs false
open Utf Tok

/-- whole characters, and none is 0 -/
def sound (b : List Int) : Bool := whole b && !b.contains 0
def signs : List Int := [35, 36, 37, 38, 42, 43, 45, 46, 47, 60, 61, 62, 63, 64, 92, 94, 96, 124, 126, 33]
/-- may a sign be this? -/
def signT (b : List Int) : Bool := match b with
  | [c] => signs.contains c || (decide (1 ≤ c) && decide (c ≤ 8) || c == 11 || decide (14 ≤ c) && decide (c ≤ 31) || c == 127)
  | _ => false
/-- may it be a hash's that is no identifier? -/
def looseT (l : List Int) : Bool := match l with
  | [] => false
  | x :: t => dig x || x == 45 && (match t with
    | [] => true
    | y :: _ => dig y)
/-- may a token be? -/
def mayT (k : Int) (b : List Int) (n d : Int) (w i : Bool) : Bool :=
  if k = 1 ∨ k = 2 ∨ k = 3 then !b.isEmpty && sound b && (n == 0 && d == 0 && !w && !i)
  else if k = 4 then !b.isEmpty && sound b && (i || looseT b) && (n == 0 && d == 0 && !w)
  else if k = 5 ∨ k = 7 then sound b && (n == 0 && d == 0 && !w && !i)
  else if k = 9 then signT b && (n == 0 && d == 0 && !w && !i)
  else if k = 12 then !b.isEmpty && sound b && (plainT n d w).isSome && !i
  else if k = 10 ∨ k = 11 then (plainT n d w).isSome && (b.isEmpty && !i)
  else decide (1 ≤ k ∧ k ≤ 24) && (b.isEmpty && n == 0 && d == 0 && !w && !i)

theorem enc_low {x : Int} (h : x < 128) : enc x = [x] := by unfold enc; rw [if_pos h]
theorem enc_high {x : Int} (h0 : 128 ≤ x) (h1 : x ≤ 1114111) : ∃ c t, enc x = c :: t ∧ t ≠ [] ∧ ∀ y ∈ enc x, 128 ≤ y := by
  unfold enc
  rw [if_neg (by omega)]
  split
  · exact ⟨_, _, rfl, by simp, by intro y hy; simp at hy; omega⟩
  · split
    · exact ⟨_, _, rfl, by simp, by intro y hy; simp at hy; omega⟩
    · exact ⟨_, _, rfl, by simp, by intro y hy; simp at hy; omega⟩
theorem zero_encs : ∀ l : List Int, (∀ x ∈ l, scal x = x) → (encs l).contains 0 = l.contains 0
  | [], _ => rfl
  | x :: l, h => by
    have ih := zero_encs l fun y hy => h y (by simp [hy])
    have hs := h x (by simp)
    have hb := scal_in x
    rw [hs] at hb
    rw [encs_cons, hs, Bool.eq_iff_iff]
    rw [Bool.eq_iff_iff] at ih
    simp only [List.contains_iff_mem, List.mem_append, List.mem_cons] at ih ⊢
    rw [ih]
    by_cases h1 : x < 128
    · rw [enc_low h1]; simp
    · obtain ⟨c, t, e, _, hh⟩ := enc_high (by omega) hb.2
      constructor
      · rintro (h0 | h0)
        · have := hh 0 h0; omega
        · exact .inr h0
      · rintro (h0 | h0)
        · omega
        · exact .inr h0
theorem zero_raw {b : List Int} (hy : By b) (hw : whole b = true) : (raw b).contains 0 = b.contains 0 := by
  have h := zero_encs (raw b) (raw_scal b hy)
  rw [encs_raw b hy hw] at h
  exact h.symm
theorem dig_high {x : Int} (h : 128 ≤ x) : dig x = false := by simp [dig]; omega
theorem loose_encs (l : List Int) (h : ∀ x ∈ l, scal x = x) : looseT (encs l) = looseT l := by
  cases l with
  | nil => rfl
  | cons x t =>
    have hs := h x (by simp)
    have hb := scal_in x
    rw [hs] at hb
    rw [encs_cons, hs]
    by_cases h1 : x < 128
    · rw [enc_low h1]
      simp only [List.cons_append, List.nil_append, looseT]
      congr 2
      cases t with
      | nil => rfl
      | cons y u =>
        have hs2 := h y (by simp)
        have hb2 := scal_in y
        rw [hs2] at hb2
        rw [encs_cons, hs2]
        by_cases h2 : y < 128
        · rw [enc_low h2]; rfl
        · obtain ⟨c, v, e, _, hh⟩ := enc_high (by omega) hb2.2
          rw [e]
          simp only [List.cons_append]
          rw [dig_high (hh c (by rw [e]; simp)), dig_high (x := y) (by omega)]
    · obtain ⟨c, v, e, _, hh⟩ := enc_high (by omega) hb.2
      have hc := hh c (by rw [e]; simp)
      rw [e]
      simp only [List.cons_append, looseT]
      have e1 : (x == 45) = false := by simp; omega
      have e2 : (c == 45) = false := by simp; omega
      rw [dig_high hc, dig_high (x := x) (by omega), e1, e2]
      rfl
theorem loose_raw {b : List Int} (hy : By b) (hw : whole b = true) : looseT (raw b) = looseT b := by
  have h := loose_encs (raw b) (raw_scal b hy)
  rw [encs_raw b hy hw] at h
  exact h.symm
/-- what the reference's Chars says -/
theorem sound_ref {b : List Int} (hy : By b) : (if (raw b).contains 0 = true then false else whole b) = sound b := by
  unfold sound
  cases hw : whole b with
  | false => simp
  | true => rw [zero_raw hy hw]; cases b.contains 0 <;> rfl
theorem raw_empty {b : List Int} : (raw b).isEmpty = b.isEmpty := by
  cases b with
  | nil => rfl
  | cons c t => rw [raw_cons]; rfl
end Go.Lift.Spell
end

section
/- Names, texts, tokens as they are written: what is computed, in plain Lean. -/
namespace Go.Lift.Spell
set_option linter.unusedVariables false
set_option linter.unusedSimpArgs false
open Utf Tok

def hexD (n : Int) : Int := if n < 10 then 48 + n else 87 + n
def hexS : List Int := [48, 49, 50, 51, 52, 53, 54, 55, 56, 57, 97, 98, 99, 100, 101, 102]
theorem hexS_at {n : Int} (h0 : 0 ≤ n) (h1 : n < 16) : hexS[n.toNat]? = some (hexD n) := by
  obtain ⟨k, rfl⟩ : ∃ k : Nat, n = k := ⟨n.toNat, by omega⟩
  have hk : k < 16 := by omega
  have : ∀ k : Fin 16, hexS[((k.val : Nat) : Int).toNat]? = some (hexD (k.val : Int)) := by decide
  exact this ⟨k, hk⟩
theorem hexD_by {n : Int} (h0 : 0 ≤ n) (h1 : n < 16) : 48 ≤ hexD n ∧ hexD n ≤ 102 := by
  unfold hexD
  split <;> omega
/-- a number's digits to the base 16, the last first -/
def rdN : Nat → Int → List Int
  | 0, _ => []
  | k + 1, r => if r ≤ 0 then [] else hexD (r % 16) :: rdN k (r / 16)
theorem rdN_len : ∀ (k : Nat) (r : Int), (rdN k r).length ≤ k
  | 0, _ => Nat.le_refl _
  | k + 1, r => by
    simp only [rdN]
    split
    · simp
    · have := rdN_len k (r / 16)
      simp
      omega
theorem rdN_by : ∀ (k : Nat) (r : Int), By (rdN k r)
  | 0, _ => fun c hc => by cases hc
  | k + 1, r => by
    simp only [rdN]
    split
    · exact fun c hc => by cases hc
    · intro c hc
      rcases List.mem_cons.1 hc with rfl | hc
      · have := hexD_by (n := r % 16) (by omega) (by omega); omega
      · exact rdN_by k _ c hc
/-- a character, written by its number -/
def codeT (r : Int) : List Int := 92 :: ((rdN 8 r).reverse ++ [32])
theorem codeT_by (r : Int) : By (codeT r) := fun c hc => by
  unfold codeT at hc
  simp only [List.mem_cons, List.mem_append, List.mem_reverse, List.not_mem_nil, or_false] at hc
  rcases hc with rfl | hc | rfl
  · omega
  · exact rdN_by 8 r c hc
  · omega
theorem codeT_len (r : Int) : (codeT r).length ≤ 10 := by
  unfold codeT
  have := rdN_len 8 r
  simp
  omega
/-- is a character written by its number? -/
def hidT (x : Int) : Bool := decide (1 ≤ x) && decide (x ≤ 31) || x == 127 || x == 65279
/-- a name's text -/
def nameT : List Int → List Int
  | [] => []
  | x :: l => (if hidT x = true then codeT x else if ltr x = true then enc (scal x) else 92 :: enc (scal x)) ++ nameT l
theorem enc_len (x : Int) : 1 ≤ (enc x).length ∧ (enc x).length ≤ 4 := by
  unfold enc
  split
  · simp
  · split
    · simp
    · split <;> simp
/-- one character of a name -/
def nameC (x : Int) : List Int := if hidT x = true then codeT x else if ltr x = true then enc (scal x) else 92 :: enc (scal x)
theorem nameT_cons (x : Int) (l : List Int) : nameT (x :: l) = nameC x ++ nameT l := rfl
theorem nameC_len (x : Int) : (nameC x).length ≤ 10 := by
  unfold nameC
  have := enc_len (scal x)
  split
  · exact codeT_len x
  · split
    · omega
    · simp; omega
theorem nameC_by (x : Int) : By (nameC x) := by
  have hs := scal_in x
  have hb := enc_by (scal x) hs.1 hs.2
  unfold nameC
  split
  · exact codeT_by x
  · split
    · exact hb
    · intro c hc
      rcases List.mem_cons.1 hc with rfl | hc
      · omega
      · exact hb c hc
theorem nameT_len : ∀ l : List Int, (nameT l).length ≤ 10 * l.length
  | [] => by simp [nameT]
  | x :: l => by
    rw [nameT_cons, List.length_append, List.length_cons]
    have := nameC_len x
    have := nameT_len l
    omega
theorem nameT_by : ∀ l : List Int, By (nameT l)
  | [] => fun c hc => by cases hc
  | x :: l => by
    rw [nameT_cons]
    intro c hc
    rcases List.mem_append.1 hc with h | h
    · exact nameC_by x c h
    · exact nameT_by l c h
/-- an identifier's text -/
def identT (l : List Int) : List Int :=
  if l = [45] then [92, 45] else match l with
  | [] => []
  | x :: t => if dig x = true then codeT x ++ nameT t else match t with
    | [] => nameT [x]
    | y :: u => if x = 45 ∧ dig y = true then 45 :: (codeT y ++ nameT u) else nameT (x :: y :: u)
theorem encs_one {l : List Int} (hs : ∀ x ∈ l, scal x = x) : encs l = [45] ↔ l = [45] := by
  constructor
  · intro h
    have h1 := (raw_encs l).1
    rw [h] at h1
    have h2 : l.map scal = l := by
      conv => rhs; rw [← List.map_id l]
      exact List.map_congr_left fun x hx => hs x hx
    rw [h2] at h1
    rw [← h1]
    decide
  · rintro rfl
    decide
theorem charsOk {l : List Int} (hs : ∀ x ∈ l, scal x = x) : raw (encs l) = l := by
  rw [(raw_encs l).1]
  conv => rhs; rw [← List.map_id l]
  exact List.map_congr_left fun x hx => hs x hx
end Go.Lift.Spell
end

section
/- A token's text: what is computed, in plain Lean. -/
namespace Go.Lift.Spell
set_option linter.unusedVariables false
set_option linter.unusedSimpArgs false
open Utf Tok

theorem by_nil : By [] := fun c hc => by cases hc
theorem by_app {a b : List Int} (ha : By a) (hb : By b) : By (a ++ b) := fun c hc => by
  rcases List.mem_append.1 hc with h | h
  · exact ha c h
  · exact hb c h
theorem by_cons {x : Int} {b : List Int} (h0 : 0 ≤ x) (h1 : x ≤ 255) (hb : By b) : By (x :: b) := fun c hc => by
  rcases List.mem_cons.1 hc with rfl | h
  · exact ⟨h0, h1⟩
  · exact hb c h
/-- one character of a string or url -/
def textC (sg : List Int) (sp : Bool) (x : Int) : List Int :=
  if (hidT x || (sp && x == 32)) = true then codeT x else if sg.contains x = true then 92 :: enc (scal x) else enc (scal x)
def textT (sg : List Int) (sp : Bool) : List Int → List Int
  | [] => []
  | x :: l => textC sg sp x ++ textT sg sp l
theorem textC_len (sg : List Int) (sp : Bool) (x : Int) : (textC sg sp x).length ≤ 10 := by
  unfold textC
  have := enc_len (scal x)
  split
  · exact codeT_len x
  · split
    · simp; omega
    · omega
theorem enc_scal_by (x : Int) : By (enc (scal x)) := by
  have hs := scal_in x
  exact enc_by (scal x) hs.1 hs.2
theorem textC_by (sg : List Int) (sp : Bool) (x : Int) : By (textC sg sp x) := by
  unfold textC
  split
  · exact codeT_by x
  · split
    · exact by_cons (by omega) (by omega) (enc_scal_by x)
    · exact enc_scal_by x
theorem textT_len (sg : List Int) (sp : Bool) : ∀ l : List Int, (textT sg sp l).length ≤ 10 * l.length
  | [] => by simp [textT]
  | x :: l => by
    have := textC_len sg sp x
    have := textT_len sg sp l
    simp only [textT, List.length_append, List.length_cons]
    omega
theorem textT_by (sg : List Int) (sp : Bool) : ∀ l : List Int, By (textT sg sp l)
  | [] => by_nil
  | x :: l => by_app (textC_by sg sp x) (textT_by sg sp l)
theorem identT_by (l : List Int) : By (identT l) := by
  unfold identT
  split
  · exact by_cons (by omega) (by omega) (by_cons (by omega) (by omega) by_nil)
  · split
    · exact by_nil
    · split
      · exact by_app (codeT_by _) (nameT_by _)
      · split
        · exact nameT_by _
        · split
          · exact by_cons (by omega) (by omega) (by_app (codeT_by _) (nameT_by _))
          · exact nameT_by _
theorem identT_len (l : List Int) : (identT l).length ≤ 10 * l.length + 1 := by
  unfold identT
  split
  · rename_i h
    subst h
    simp
  · split
    · simp
    · rename_i x t _
      split
      · have := codeT_len x
        have := nameT_len t
        simp only [List.length_append, List.length_cons]
        omega
      · split
        · have := nameT_len [x]
          omega
        · rename_i y u _
          split
          · have := codeT_len y
            have := nameT_len u
            simp only [List.length_append, List.length_cons]
            omega
          · have := nameT_len (x :: y :: u)
            omega
/-- would it be read as an exponent's digits? -/
def expT (l : List Int) : Bool := match l with
  | [] => false
  | y :: u => dig y || y == 45 && (match u with
    | [] => false
    | z :: _ => dig z)
/-- a unit's text -/
def unitT (l : List Int) : List Int := match l with
  | [] => []
  | x :: t => if ((x == 101 || x == 69) && expT t) = true then codeT x ++ nameT t else identT (x :: t)
theorem unitT_by (l : List Int) : By (unitT l) := by
  unfold unitT
  split
  · exact by_nil
  · split
    · exact by_app (codeT_by _) (nameT_by _)
    · exact identT_by _
theorem unitT_len (l : List Int) : (unitT l).length ≤ 10 * l.length + 1 := by
  unfold unitT
  split
  · simp
  · rename_i x t
    split
    · have := codeT_len x
      have := nameT_len t
      simp only [List.length_append, List.length_cons]
      omega
    · exact identT_len _
theorem exp_encs (l : List Int) (h : ∀ x ∈ l, scal x = x) : expT (encs l) = expT l := by
  cases l with
  | nil => rfl
  | cons x t =>
    have hs := h x (by simp)
    have hb := scal_in x
    rw [hs] at hb
    rw [encs_cons, hs]
    by_cases h1 : x < 128
    · rw [enc_low h1]
      simp only [List.cons_append, List.nil_append, expT]
      congr 2
      cases t with
      | nil => rfl
      | cons y u =>
        have hs2 := h y (by simp)
        have hb2 := scal_in y
        rw [hs2] at hb2
        rw [encs_cons, hs2]
        by_cases h2 : y < 128
        · rw [enc_low h2]; rfl
        · obtain ⟨c, v, e, _, hh⟩ := enc_high (by omega) hb2.2
          rw [e]
          simp only [List.cons_append]
          rw [dig_high (hh c (by rw [e]; simp)), dig_high (x := y) (by omega)]
    · obtain ⟨c, v, e, _, hh⟩ := enc_high (by omega) hb.2
      have hc := hh c (by rw [e]; simp)
      rw [e]
      simp only [List.cons_append, expT]
      have e1 : (x == 45) = false := by simp; omega
      have e2 : (c == 45) = false := by simp; omega
      rw [dig_high hc, dig_high (x := x) (by omega), e1, e2]
      rfl
/-- the text of a token that has but one -/
def fixT (k : Int) : List Int :=
  if k = 6 then [34, 10] else if k = 8 then [117, 114, 108, 40, 40, 41] else if k = 13 then [32] else if k = 14 then [60, 33, 45, 45] else if k = 15 then [45, 45, 62]
  else if k = 16 then [58] else if k = 17 then [59] else if k = 18 then [44] else if k = 19 then [91] else if k = 20 then [93] else if k = 21 then [40] else if k = 22 then [41] else if k = 23 then [123] else if k = 24 then [125] else []
/-- a token's text, if it may be -/
def tokenT (k : Int) (b : List Int) (n d : Int) (w i : Bool) : List Int :=
  if k = 1 then identT (raw b)
  else if k = 2 then identT (raw b) ++ [40]
  else if k = 3 then 64 :: identT (raw b)
  else if k = 4 then 35 :: (if i = true then identT (raw b) else nameT (raw b))
  else if k = 5 then 34 :: (textT [34, 92] false (raw b) ++ [34])
  else if k = 7 then 117 :: 114 :: 108 :: 40 :: (textT [34, 39, 40, 41, 92] true (raw b) ++ [41])
  else if k = 9 then (if b = [92] then [92, 10] else b)
  else if k = 10 then (plainT n d w).getD []
  else if k = 11 then (plainT n d w).getD [] ++ [37]
  else if k = 12 then (plainT n d w).getD [] ++ unitT (raw b)
  else fixT k
theorem fix_cases (k : Int) : (k = 6 ∨ k = 8 ∨ k = 13 ∨ k = 14 ∨ k = 15 ∨ k = 16 ∨ k = 17 ∨ k = 18 ∨ k = 19 ∨ k = 20 ∨ k = 21 ∨ k = 22 ∨ k = 23 ∨ k = 24) ∨ fixT k = [] := by
  by_cases h : k = 6 ∨ k = 8 ∨ k = 13 ∨ k = 14 ∨ k = 15 ∨ k = 16 ∨ k = 17 ∨ k = 18 ∨ k = 19 ∨ k = 20 ∨ k = 21 ∨ k = 22 ∨ k = 23 ∨ k = 24
  · exact .inl h
  · refine .inr ?_
    simp only [not_or] at h
    simp [fixT, h]
theorem fixT_by (k : Int) : By (fixT k) := by
  have : ∀ l : List Int, (l.all fun c => decide (0 ≤ c) && decide (c ≤ 255)) = true → By l := fun l h c hc => by
    have := List.all_eq_true.1 h c hc
    simp at this
    exact this
  rcases fix_cases k with (rfl | rfl | rfl | rfl | rfl | rfl | rfl | rfl | rfl | rfl | rfl | rfl | rfl | rfl) | h
  all_goals first
    | exact this _ rfl
    | (rw [h]; exact by_nil)
theorem fixT_len (k : Int) : (fixT k).length ≤ 6 := by
  rcases fix_cases k with (rfl | rfl | rfl | rfl | rfl | rfl | rfl | rfl | rfl | rfl | rfl | rfl | rfl | rfl) | h
  all_goals first
    | decide
    | (rw [h]; decide)
theorem raw_len (b : List Int) : (raw b).length ≤ b.length := (raw_count b).1
theorem tokenT_by {k : Int} {b : List Int} {n d : Int} {w i : Bool} (hy : By b) (hp : By ((plainT n d w).getD [])) : By (tokenT k b n d w i) := by
  unfold tokenT
  have h1 : ∀ x : Int, 0 ≤ x → x ≤ 255 → By [x] := fun x h0 h1 => by_cons h0 h1 by_nil
  repeat' split
  all_goals first
    | exact identT_by _
    | exact by_app (identT_by _) (h1 _ (by omega) (by omega))
    | exact by_cons (by omega) (by omega) (identT_by _)
    | exact by_cons (by omega) (by omega) (nameT_by _)
    | exact by_cons (by omega) (by omega) (by_app (textT_by _ _ _) (h1 _ (by omega) (by omega)))
    | exact by_cons (by omega) (by omega) (by_cons (by omega) (by omega) (by_cons (by omega) (by omega) (by_cons (by omega) (by omega) (by_app (textT_by _ _ _) (h1 _ (by omega) (by omega))))))
    | exact by_cons (by omega) (by omega) (h1 _ (by omega) (by omega))
    | exact hy
    | exact hp
    | exact by_app hp (h1 _ (by omega) (by omega))
    | exact by_app hp (unitT_by _)
    | exact fixT_by _
theorem tokenT_len {k : Int} {b : List Int} {n d : Int} {w i : Bool} (hp : ((plainT n d w).getD []).length ≤ 200) : (tokenT k b n d w i).length ≤ 10 * b.length + 300 := by
  have h1 := identT_len (raw b)
  have h2 := nameT_len (raw b)
  have h3 := textT_len [34, 92] false (raw b)
  have h4 := textT_len [34, 39, 40, 41, 92] true (raw b)
  have h5 := unitT_len (raw b)
  have h6 := fixT_len k
  have h7 := raw_len b
  unfold tokenT
  repeat' split
  all_goals (try simp only [List.length_append, List.length_cons, List.length_nil])
  all_goals omega
end Go.Lift.Spell
end
