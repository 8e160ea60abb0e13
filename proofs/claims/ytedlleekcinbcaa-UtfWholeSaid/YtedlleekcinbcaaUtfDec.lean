/- Bytes to characters: what is computed, in plain Lean. -/
import Derived.Test.YtedlleekcinbcaaUtfSpec
namespace Go.Lift.Utf
set_option linter.unusedVariables false
set_option linter.unusedSimpArgs false

/-- how many more bytes, from which to which the next one, of a first byte of 194 or more -/
def nd (c : Int) : Nat × Int × Int :=
  if 194 ≤ c ∧ c ≤ 223 then (1, 128, 191)
  else if c = 224 then (2, 160, 191)
  else if c = 237 then (2, 128, 159)
  else if 225 ≤ c ∧ c ≤ 239 then (2, 128, 191)
  else if c = 240 then (3, 144, 191)
  else if 241 ≤ c ∧ c ≤ 243 then (3, 128, 191)
  else if c = 244 then (3, 128, 143)
  else (0, 0, 0)

/-- the bytes behind the first one; `k` are read -/
def more : Nat → Int → Int → Int → Nat → List Int → Int × Nat × Bool
  | 0, r, _, _, k, _ => (r, k, true)
  | _ + 1, _, _, _, k, [] => (65533, k, false)
  | n + 1, r, lo, hi, k, c :: t => if c < lo ∨ hi < c then (65533, k, false) else more n (r * 64 + c % 64) 128 191 (k + 1) t

/-- what stands in front: the character, how many bytes, and whether it is one -/
def one : List Int → Int × Nat × Bool
  | [] => (65533, 1, false)
  | c :: t => if c < 128 then (c, 1, true) else if (nd c).1 = 0 then (65533, 1, false) else more (nd c).1 (c % 2 ^ (6 - (nd c).1)) (nd c).2.1 (nd c).2.2 1 t

/-- a byte -/
abbrev By (b : List Int) : Prop := ∀ c ∈ b, 0 ≤ c ∧ c ≤ 255

theorem or64 {r y : Int} (h0 : 0 ≤ r) (h1 : r ≤ 1000000) (h2 : 0 ≤ y) (h3 : y < 64) : (ior .i32 (r * 64) y) = r * 64 + y := by
  obtain ⟨m, rfl⟩ : ∃ m : Nat, r = m := ⟨r.toNat, by omega⟩
  obtain ⟨z, rfl⟩ : ∃ z : Nat, y = z := ⟨y.toNat, by omega⟩
  show ((BitVec.ofInt 32 ((m : Int) * 64) ||| BitVec.ofInt 32 (z : Int)).toNat : Int) = _
  rw [BitVec.toNat_or]
  have e1 : (BitVec.ofInt 32 ((m : Int) * 64)).toNat = m <<< 6 := by
    rw [BitVec.toNat_ofInt, Nat.shiftLeft_eq]
    omega
  have e2 : (BitVec.ofInt 32 (z : Int)).toNat = z := by
    rw [BitVec.toNat_ofInt]
    omega
  rw [e1, e2, ← Nat.shiftLeft_add_eq_or_of_lt (by omega), Nat.shiftLeft_eq]
  omega
theorem and8 {y : Int} {k : Nat} (hk : k ≤ 7) (h0 : 0 ≤ y) (h1 : y ≤ 255) : iand .u8 y (2 ^ k - 1) = y % 2 ^ k := by
  obtain ⟨z, rfl⟩ : ∃ z : Nat, y = z := ⟨y.toNat, by omega⟩
  show ((BitVec.ofInt 8 (z : Int) &&& BitVec.ofInt 8 ((2 : Int) ^ k - 1)).toNat : Int) = _
  rw [BitVec.toNat_and]
  have e1 : (BitVec.ofInt 8 (z : Int)).toNat = z := by
    rw [BitVec.toNat_ofInt]
    omega
  have hp : 2 ^ k ≤ 128 := by
    have : 2 ^ k ≤ 2 ^ 7 := Nat.pow_le_pow_right (by omega) hk
    omega
  have hq : 1 ≤ 2 ^ k := Nat.one_le_two_pow
  have e2 : (BitVec.ofInt 8 ((2 : Int) ^ k - 1)).toNat = 2 ^ k - 1 := by
    have e3 : (2 : Int) ^ k = ((2 ^ k : Nat) : Int) := by simp
    rw [BitVec.toNat_ofInt, e3]
    omega
  rw [e1, e2, Nat.and_two_pow_sub_one_eq_mod]
  simp
theorem and32 {y : Int} {k : Nat} (hk : k ≤ 7) (h0 : 0 ≤ y) (h1 : y ≤ 2147483647) : iand .i32 y (2 ^ k - 1) = y % 2 ^ k := by
  obtain ⟨z, rfl⟩ : ∃ z : Nat, y = z := ⟨y.toNat, by omega⟩
  show ((BitVec.ofInt 32 (z : Int) &&& BitVec.ofInt 32 ((2 : Int) ^ k - 1)).toNat : Int) = _
  rw [BitVec.toNat_and]
  have e1 : (BitVec.ofInt 32 (z : Int)).toNat = z := by
    rw [BitVec.toNat_ofInt]
    omega
  have hp : 2 ^ k ≤ 128 := by
    have : 2 ^ k ≤ 2 ^ 7 := Nat.pow_le_pow_right (by omega) hk
    omega
  have hq : 1 ≤ 2 ^ k := Nat.one_le_two_pow
  have e2 : (BitVec.ofInt 32 ((2 : Int) ^ k - 1)).toNat = 2 ^ k - 1 := by
    have e3 : (2 : Int) ^ k = ((2 ^ k : Nat) : Int) := by simp
    rw [BitVec.toNat_ofInt, e3]
    omega
  rw [e1, e2, Nat.and_two_pow_sub_one_eq_mod]
  simp
section
variable {y : Int} (h0 : 0 ≤ y) (h1 : y ≤ 255)
include h0 h1
theorem a63 : iand .u8 y 63 = y % 64 := and8 (k := 6) (by omega) h0 h1
theorem a31 : iand .u8 y 31 = y % 32 := and8 (k := 5) (by omega) h0 h1
theorem a15 : iand .u8 y 15 = y % 16 := and8 (k := 4) (by omega) h0 h1
theorem a7 : iand .u8 y 7 = y % 8 := and8 (k := 3) (by omega) h0 h1
theorem c63 : iand .i32 y 63 = y % 64 := and32 (k := 6) (by omega) h0 (by omega)
theorem c31 : iand .i32 y 31 = y % 32 := and32 (k := 5) (by omega) h0 (by omega)
theorem c15 : iand .i32 y 15 = y % 16 := and32 (k := 4) (by omega) h0 (by omega)
theorem c7 : iand .i32 y 7 = y % 8 := and32 (k := 3) (by omega) h0 (by omega)
end
/-- bytes to characters -/
def rawN : Nat → List Int → List Int
  | 0, _ => []
  | _ + 1, [] => []
  | n + 1, c :: t => (one (c :: t)).1 :: rawN n ((c :: t).drop (one (c :: t)).2.1)
def raw (b : List Int) : List Int := rawN b.length b
def wholeN : Nat → List Int → Bool
  | 0, _ => true
  | _ + 1, [] => true
  | n + 1, c :: t => (one (c :: t)).2.2 && wholeN n ((c :: t).drop (one (c :: t)).2.1)
def whole (b : List Int) : Bool := wholeN b.length b

theorem more_k : ∀ (n : Nat) (r lo hi : Int) (k : Nat) (t : List Int), k ≤ (more n r lo hi k t).2.1 ∧ (more n r lo hi k t).2.1 ≤ k + n ∧ (more n r lo hi k t).2.1 ≤ k + t.length
  | 0, _, _, _, _, _ => by simp [more]
  | n + 1, _, _, _, _, [] => by simp [more]
  | n + 1, r, lo, hi, k, c :: t => by
    unfold more
    split
    · simp
    · have := more_k n (r * 64 + c % 64) 128 191 (k + 1) t
      simp only [List.length_cons]
      omega
theorem nd_le (c : Int) : (nd c).1 ≤ 3 := by
  unfold nd
  repeat' split
  all_goals simp
theorem one_k (c : Int) (t : List Int) : 1 ≤ (one (c :: t)).2.1 ∧ (one (c :: t)).2.1 ≤ 4 ∧ (one (c :: t)).2.1 ≤ (c :: t).length := by
  simp only [one]
  split
  · simp
  · split
    · simp
    · have := more_k (nd c).1 (c % 2 ^ (6 - (nd c).1)) (nd c).2.1 (nd c).2.2 1 t
      have := nd_le c
      simp only [List.length_cons]
      omega
theorem rawN_more : ∀ (n m : Nat) (b : List Int), b.length ≤ n → b.length ≤ m → rawN n b = rawN m b
  | 0, 0, _, _, _ => rfl
  | 0, m + 1, [], _, _ => rfl
  | n + 1, 0, [], _, _ => rfl
  | n + 1, m + 1, [], _, _ => rfl
  | n + 1, m + 1, c :: t, h1, h2 => by
    have := one_k c t
    simp only [rawN]
    rw [rawN_more n m _ (by rw [List.length_drop]; omega) (by rw [List.length_drop]; omega)]
theorem wholeN_more : ∀ (n m : Nat) (b : List Int), b.length ≤ n → b.length ≤ m → wholeN n b = wholeN m b
  | 0, 0, _, _, _ => rfl
  | 0, m + 1, [], _, _ => rfl
  | n + 1, 0, [], _, _ => rfl
  | n + 1, m + 1, [], _, _ => rfl
  | n + 1, m + 1, c :: t, h1, h2 => by
    have := one_k c t
    simp only [wholeN]
    rw [wholeN_more n m _ (by rw [List.length_drop]; omega) (by rw [List.length_drop]; omega)]
theorem raw_nil : raw [] = [] := rfl
theorem raw_cons (c : Int) (t : List Int) : raw (c :: t) = (one (c :: t)).1 :: raw ((c :: t).drop (one (c :: t)).2.1) := by
  have := one_k c t
  show (one (c :: t)).1 :: rawN t.length ((c :: t).drop (one (c :: t)).2.1) = _
  rw [raw, rawN_more _ _ _ (by rw [List.length_drop, List.length_cons]; omega) (Nat.le_refl _)]
theorem whole_nil : whole [] = true := rfl
theorem whole_cons (c : Int) (t : List Int) : whole (c :: t) = ((one (c :: t)).2.2 && whole ((c :: t).drop (one (c :: t)).2.1)) := by
  have := one_k c t
  show ((one (c :: t)).2.2 && wholeN t.length ((c :: t).drop (one (c :: t)).2.1)) = _
  rw [whole, wholeN_more _ _ _ (by rw [List.length_drop, List.length_cons]; omega) (Nat.le_refl _)]
theorem By.drop {b : List Int} (h : By b) (n : Nat) : By (b.drop n) := fun c hc => h c (List.mem_of_mem_drop hc)
theorem raw_len : ∀ (n : Nat) (b : List Int), (rawN n b).length ≤ b.length
  | 0, _ => by simp [rawN]
  | n + 1, [] => by simp [rawN]
  | n + 1, c :: t => by
    have := one_k c t
    have := raw_len n ((c :: t).drop (one (c :: t)).2.1)
    rw [List.length_drop] at this
    simp only [rawN, List.length_cons] at *
    omega
theorem shl6 {r : Int} (h0 : 0 ≤ r) (h1 : r ≤ 1000000) : IntKind.i32.wrap (ishl .i32 r 6) = r * 64 := wrap_i32 (by show _ ≤ r * 64; omega) (by show r * 64 ≤ _; omega)
end Go.Lift.Utf
