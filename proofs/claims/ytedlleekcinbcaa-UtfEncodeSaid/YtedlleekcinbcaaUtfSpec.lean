/- Characters to bytes: the arithmetic. -/
import Derived.Test.YtedlleekcinbcaaLiftW
namespace Go.Lift.Utf
set_option linter.unusedVariables false
set_option linter.unusedSimpArgs false

def scal (x : Int) : Int := if (decide (x < 0) || decide (1114111 < x) || decide (55296 ≤ x) && decide (x ≤ 57343)) = true then 65533 else x
theorem scal_in (x : Int) : 0 ≤ scal x ∧ scal x ≤ 1114111 := by
  unfold scal
  split
  · omega
  · rename_i h
    simp at h
    omega
/-- the bytes of a character's number -/
def enc (y : Int) : List Int :=
  if y < 128 then [y] else if y < 2048 then [192 + y / 64, 128 + y % 64] else if y < 65536 then [224 + y / 4096, 128 + y / 64 % 64, 128 + y % 64]
  else [240 + y / 262144, 128 + y / 4096 % 64, 128 + y / 64 % 64, 128 + y % 64]

theorem or8_192 : ∀ z : Fin 32, (BitVec.ofInt 8 192 ||| BitVec.ofInt 8 (z.val : Int)).toNat = 192 + z.val := by decide
theorem or8_224 : ∀ z : Fin 16, (BitVec.ofInt 8 224 ||| BitVec.ofInt 8 (z.val : Int)).toNat = 224 + z.val := by decide
theorem or8_240 : ∀ z : Fin 8, (BitVec.ofInt 8 240 ||| BitVec.ofInt 8 (z.val : Int)).toNat = 240 + z.val := by decide
theorem or8_128 : ∀ z : Fin 64, (BitVec.ofInt 8 128 ||| BitVec.ofInt 8 (z.val : Int)).toNat = 128 + z.val := by decide
theorem or32_192 : ∀ z : Fin 32, (BitVec.ofInt 32 192 ||| BitVec.ofInt 32 (z.val : Int)).toNat = 192 + z.val := by decide
theorem or32_224 : ∀ z : Fin 16, (BitVec.ofInt 32 224 ||| BitVec.ofInt 32 (z.val : Int)).toNat = 224 + z.val := by decide
theorem or32_240 : ∀ z : Fin 8, (BitVec.ofInt 32 240 ||| BitVec.ofInt 32 (z.val : Int)).toNat = 240 + z.val := by decide
theorem or32_128 : ∀ z : Fin 64, (BitVec.ofInt 32 128 ||| BitVec.ofInt 32 (z.val : Int)).toNat = 128 + z.val := by decide
theorem of_fin {n : Nat} {p : Int → Int → Prop} (h : ∀ z : Fin n, p (z.val : Int) (z.val : Int)) {y : Int} (h0 : 0 ≤ y) (h1 : y < n) : p y y := by
  have := h ⟨y.toNat, by omega⟩
  have e : ((y.toNat : Nat) : Int) = y := by omega
  simpa [e] using this
theorem and63 {y : Int} (h0 : 0 ≤ y) (h1 : y ≤ 2147483647) : ((BitVec.ofInt 32 y &&& BitVec.ofInt 32 63).toNat : Int) = y % 64 := by
  rw [BitVec.toNat_and]
  have e1 : (BitVec.ofInt 32 y).toNat = y.toNat := by
    rw [BitVec.toNat_ofInt]
    omega
  have e2 : (BitVec.ofInt 32 63).toNat = 2 ^ 6 - 1 := by decide
  rw [e1, e2, Nat.and_two_pow_sub_one_eq_mod]
  omega

/-- bits that are apart add up -/
theorem o8 {c : Int} {n : Nat} (hc : (c = 192 ∧ n = 32) ∨ (c = 224 ∧ n = 16) ∨ (c = 240 ∧ n = 8) ∨ (c = 128 ∧ n = 64)) {y : Int} (h0 : 0 ≤ y) (h1 : y < n) : ((BitVec.ofInt 8 c ||| BitVec.ofInt 8 y).toNat : Int) = c + y := by
  obtain ⟨z, rfl⟩ : ∃ z : Nat, y = z := ⟨y.toNat, by omega⟩
  rcases hc with ⟨rfl, rfl⟩ | ⟨rfl, rfl⟩ | ⟨rfl, rfl⟩ | ⟨rfl, rfl⟩
  · have := or8_192 ⟨z, by omega⟩; simp only at this; omega
  · have := or8_224 ⟨z, by omega⟩; simp only at this; omega
  · have := or8_240 ⟨z, by omega⟩; simp only at this; omega
  · have := or8_128 ⟨z, by omega⟩; simp only at this; omega
theorem o32 {c : Int} {n : Nat} (hc : (c = 192 ∧ n = 32) ∨ (c = 224 ∧ n = 16) ∨ (c = 240 ∧ n = 8) ∨ (c = 128 ∧ n = 64)) {y : Int} (h0 : 0 ≤ y) (h1 : y < n) : ((BitVec.ofInt 32 c ||| BitVec.ofInt 32 y).toNat : Int) = c + y := by
  obtain ⟨z, rfl⟩ : ∃ z : Nat, y = z := ⟨y.toNat, by omega⟩
  rcases hc with ⟨rfl, rfl⟩ | ⟨rfl, rfl⟩ | ⟨rfl, rfl⟩ | ⟨rfl, rfl⟩
  · have := or32_192 ⟨z, by omega⟩; simp only at this; omega
  · have := or32_224 ⟨z, by omega⟩; simp only at this; omega
  · have := or32_240 ⟨z, by omega⟩; simp only at this; omega
  · have := or32_128 ⟨z, by omega⟩; simp only at this; omega
end Go.Lift.Utf
