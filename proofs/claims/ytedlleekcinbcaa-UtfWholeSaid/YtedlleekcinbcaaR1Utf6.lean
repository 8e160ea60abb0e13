/- utf.step, jalousieref2.need. -/
import Derived.Test.YtedlleekcinbcaaR1Utf5
open Go.Proofs
namespace Go.Lift.R1
open Utf
set_option maxRecDepth 20000
set_option linter.unusedSimpArgs false
set_option linter.unusedVariables false

theorem f32 {lo : Nat} {c : Int} {t : List Int} {h : Heap} (hb : (c :: t).length ≤ 140737488355328) (hy : By (c :: t)) :
    E lo 32 [.list .no (ri .u8 (c :: t))] h = some (two (one (c :: t)), h) := by
  have hcy := hy c (List.mem_cons_self ..)
  have hx : (c :: t)[0]? = some c := rfl
  simp only [one]
  by_cases h0 : c < 128
  · rw [if_pos h0]
    have t0 : decide (c < 128) = true := by simp; omega
    have hm : IntKind.i32.wrap c = c := wrap_i32 (by omega) (by omega)
    rw [e32 (by simp) (by rfl)]
    simp only [go_sem, b32, Try.f32, hx, t0, hm]
    rfl
  · rw [if_neg h0]
    by_cases ha : 194 ≤ c ∧ c ≤ 223
    · have e : nd c = (1, 128, 191) := by unfold nd; rw [if_pos ha]
      rw [f32a hb hy ha, e]
      rfl
    by_cases hb1 : c = 224
    · have e : nd c = (2, 160, 191) := by unfold nd; rw [if_neg ha, if_pos hb1]
      rw [f32b hb hy hb1, e]
      rfl
    by_cases hc1 : c = 237
    · have e : nd c = (2, 128, 159) := by unfold nd; rw [if_neg ha, if_neg hb1, if_pos hc1]
      rw [f32c hb hy hc1, e]
      rfl
    by_cases hd1 : 225 ≤ c ∧ c ≤ 239
    · have e : nd c = (2, 128, 191) := by unfold nd; rw [if_neg ha, if_neg hb1, if_neg hc1, if_pos hd1]
      rw [f32d hb hy ⟨hd1.1, hd1.2, hc1⟩, e]
      rfl
    by_cases he1 : c = 240
    · have e : nd c = (3, 144, 191) := by unfold nd; rw [if_neg ha, if_neg hb1, if_neg hc1, if_neg hd1, if_pos he1]
      rw [f32e hb hy he1, e]
      rfl
    by_cases hf1 : 241 ≤ c ∧ c ≤ 243
    · have e : nd c = (3, 128, 191) := by unfold nd; rw [if_neg ha, if_neg hb1, if_neg hc1, if_neg hd1, if_neg he1, if_pos hf1]
      rw [f32f hb hy hf1, e]
      rfl
    by_cases hg1 : c = 244
    · have e : nd c = (3, 128, 143) := by unfold nd; rw [if_neg ha, if_neg hb1, if_neg hc1, if_neg hd1, if_neg he1, if_neg hf1, if_pos hg1]
      rw [f32g hb hy hg1, e]
      rfl
    have e : nd c = (0, 0, 0) := by unfold nd; rw [if_neg ha, if_neg hb1, if_neg hc1, if_neg hd1, if_neg he1, if_neg hf1, if_neg hg1]
    rw [e, if_pos rfl]
    have t0 : decide (c < 128) = false := by simp; omega
    have t1 : (decide (194 ≤ c) && decide (c ≤ 223)) = false := by simp; omega
    have t2 : (decide (224 ≤ c) && decide (c ≤ 239)) = false := by simp; omega
    have t3 : (decide (240 ≤ c) && decide (c ≤ 244)) = false := by simp; omega
    rw [e32 (by simp) (by rfl)]
    simp only [go_sem, b32, Try.f32, hx, t0, t1, t2, t3]
    rfl

/-- jalousieref2.need -/
theorem f39 {lo : Nat} {c : Int} {h : Heap} (h0 : 0 ≤ c) (h1 : c ≤ 255) : E lo 39 [.v (.int .u8 c)] h = some (.tup [.v (.int .i64 (nd c).1), .v (.int .u8 (nd c).2.1), .v (.int .u8 (nd c).2.2)], h) := by
  rw [e39 (by simp) (by rfl)]
  by_cases ha : 194 ≤ c ∧ c ≤ 223
  · have e : nd c = (1, 128, 191) := by unfold nd; rw [if_pos ha]
    have t1 : (decide (194 ≤ c) && decide (c ≤ 223)) = true := by simp; omega
    rw [e]
    simp only [go_sem, b39, Try.f39, t1]
    rfl
  have t1 : (decide (194 ≤ c) && decide (c ≤ 223)) = false := by simp; omega
  by_cases hb1 : c = 224
  · have e : nd c = (2, 160, 191) := by unfold nd; rw [if_neg ha, if_pos hb1]
    have t2 : (c == 224) = true := by simp; omega
    rw [e]
    simp only [go_sem, b39, Try.f39, t1, t2]
    rfl
  have t2 : (c == 224) = false := by simp; omega
  by_cases hc1 : c = 237
  · have e : nd c = (2, 128, 159) := by unfold nd; rw [if_neg ha, if_neg hb1, if_pos hc1]
    have t3 : (c == 237) = true := by simp; omega
    rw [e]
    simp only [go_sem, b39, Try.f39, t1, t2, t3]
    rfl
  have t3 : (c == 237) = false := by simp; omega
  by_cases hd1 : 225 ≤ c ∧ c ≤ 239
  · have e : nd c = (2, 128, 191) := by unfold nd; rw [if_neg ha, if_neg hb1, if_neg hc1, if_pos hd1]
    have t4 : (decide (225 ≤ c) && decide (c ≤ 239)) = true := by simp; omega
    rw [e]
    simp only [go_sem, b39, Try.f39, t1, t2, t3, t4]
    rfl
  have t4 : (decide (225 ≤ c) && decide (c ≤ 239)) = false := by simp; omega
  by_cases he1 : c = 240
  · have e : nd c = (3, 144, 191) := by unfold nd; rw [if_neg ha, if_neg hb1, if_neg hc1, if_neg hd1, if_pos he1]
    have t5 : (c == 240) = true := by simp; omega
    rw [e]
    simp only [go_sem, b39, Try.f39, t1, t2, t3, t4, t5]
    rfl
  have t5 : (c == 240) = false := by simp; omega
  by_cases hf1 : 241 ≤ c ∧ c ≤ 243
  · have e : nd c = (3, 128, 191) := by unfold nd; rw [if_neg ha, if_neg hb1, if_neg hc1, if_neg hd1, if_neg he1, if_pos hf1]
    have t6 : (decide (241 ≤ c) && decide (c ≤ 243)) = true := by simp; omega
    rw [e]
    simp only [go_sem, b39, Try.f39, t1, t2, t3, t4, t5, t6]
    rfl
  have t6 : (decide (241 ≤ c) && decide (c ≤ 243)) = false := by simp; omega
  by_cases hg1 : c = 244
  · have e : nd c = (3, 128, 143) := by unfold nd; rw [if_neg ha, if_neg hb1, if_neg hc1, if_neg hd1, if_neg he1, if_neg hf1, if_pos hg1]
    have t7 : (c == 244) = true := by simp; omega
    rw [e]
    simp only [go_sem, b39, Try.f39, t1, t2, t3, t4, t5, t6, t7]
    rfl
  have t7 : (c == 244) = false := by simp; omega
  have e : nd c = (0, 0, 0) := by unfold nd; rw [if_neg ha, if_neg hb1, if_neg hc1, if_neg hd1, if_neg he1, if_neg hf1, if_neg hg1]
  rw [e]
  simp only [go_sem, b39, Try.f39, t1, t2, t3, t4, t5, t6, t7]
end Go.Lift.R1
