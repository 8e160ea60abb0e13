/- Which tokens must stand apart. -/
import Derived.Test.YtnfdhgadidacaaaGreatDoorSe
import Derived.Test.YtnfdhgadidacaaaGreatDoorSc
/- spell.Apart, jalousieref4.Apart; digits, signs, loose texts. -/
open Go.Proofs
namespace Go.Lift.R4
set_option linter.unusedSectionVars false
variable [MX]
open Utf Tok Spell
set_option maxRecDepth 20000
set_option maxHeartbeats 4000000
set_option linter.unusedSimpArgs false
set_option linter.unusedVariables false

/-- a token's cells -/
def tokV (k : Int) (b : List Int) (n d : Int) (w i : Bool) : List V := [.v (.int .i64 k), .v (.string (bs b)), .v (.int .i64 n), .v (.int .i64 d), .v (.bool w), .v (.bool i)]
def leftK (k : Int) : Bool := k == 1 || k == 3 || k == 4 || k == 10 || k == 12 || k == 9
def rightK (k : Int) : Bool := k == 1 || k == 2 || k == 7 || k == 8 || k == 10 || k == 11 || k == 12 || k == 15 || k == 21 || k == 9
def apartT (ka kb : Int) : Bool := ka == 13 && kb == 13 || leftK ka && rightK kb
theorem left_cases (k : Int) : (k = 13) ∨ (k = 1 ∨ k = 3 ∨ k = 4 ∨ k = 10 ∨ k = 12 ∨ k = 9) ∨
    ((k == 13) = false ∧ (k == 1) = false ∧ (k == 3) = false ∧ (k == 4) = false ∧ (k == 10) = false ∧ (k == 12) = false ∧ (k == 9) = false) := by
  simp only [beq_eq_false_iff_ne]
  omega
theorem right_cases (k : Int) : (k = 1 ∨ k = 2 ∨ k = 7 ∨ k = 8 ∨ k = 10 ∨ k = 11 ∨ k = 12 ∨ k = 15 ∨ k = 21 ∨ k = 9) ∨
    ((k == 1) = false ∧ (k == 2) = false ∧ (k == 7) = false ∧ (k == 8) = false ∧ (k == 10) = false ∧ (k == 11) = false ∧ (k == 12) = false ∧ (k == 15) = false ∧ (k == 21) = false ∧ (k == 9) = false) := by
  simp only [beq_eq_false_iff_ne]
  omega
section
variable {lo : Nat} {h : Heap} {ka kb : Int} {ta tb : List Int} {na da nb db : Int} {wa ia wb ib : Bool}
/-- jalousie/spell.Apart -/
theorem f47 (hlo : lo ≤ h.length) : E lo 47 [.agg (tokV ka ta na da wa ia), .agg (tokV kb tb nb db wb ib)] h = some (.v (.bool (apartT ka kb)), h) := by
  have hlo2 : lo ≤ h.length + 1 := by omega
  rw [e47 (by simp) (by rfl)]
  unfold apartT leftK rightK tokV
  rcases left_cases ka with rfl | hl | ⟨l13, l1, l3, l4, l10, l12, l9⟩
  · simp only [go_sem, b47, Tryz.f47, Int.reduceBEq, hlo, hlo2]
    all_goals simp
    all_goals rfl
  · rcases right_cases kb with hr | ⟨r1, r2, r7, r8, r10, r11, r12, r15, r21, r9⟩
    · rcases hl with rfl | rfl | rfl | rfl | rfl | rfl <;> rcases hr with rfl | rfl | rfl | rfl | rfl | rfl | rfl | rfl | rfl | rfl <;>
        simp only [go_sem, b47, Tryz.f47, Int.reduceBEq, hlo, hlo2] <;> rfl
    · rcases hl with rfl | rfl | rfl | rfl | rfl | rfl <;>
        simp only [go_sem, b47, Tryz.f47, Int.reduceBEq, hlo, hlo2, r1, r2, r7, r8, r10, r11, r12, r15, r21, r9] <;> rfl
  · simp only [go_sem, b47, Tryz.f47, Int.reduceBEq, hlo, hlo2, l13, l1, l3, l4, l10, l12, l9]
    all_goals rfl
/-- jalousieref4.Apart -/
theorem f50 (hlo : lo ≤ h.length) : E lo 50 [.agg (tokV ka ta na da wa ia), .agg (tokV kb tb nb db wb ib)] h = some (.v (.bool (apartT ka kb)), h) := by
  have hlo2 : lo ≤ h.length + 1 := by omega
  rw [e50 (by simp) (by rfl)]
  unfold apartT leftK rightK tokV
  rcases left_cases ka with rfl | hl | ⟨l13, l1, l3, l4, l10, l12, l9⟩
  · cases q : (kb == 13) with
    | true =>
      simp only [go_sem, b50, Tryz.f50, Int.reduceBEq, hlo, hlo2, q]
      all_goals rfl
    | false =>
      simp only [go_sem, b50, Tryz.f50, Int.reduceBEq, hlo, hlo2, q]
      all_goals rfl
  · rcases right_cases kb with hr | ⟨r1, r2, r7, r8, r10, r11, r12, r15, r21, r9⟩
    · rcases hl with rfl | rfl | rfl | rfl | rfl | rfl <;> rcases hr with rfl | rfl | rfl | rfl | rfl | rfl | rfl | rfl | rfl | rfl <;>
        simp only [go_sem, b50, Tryz.f50, Int.reduceBEq, hlo, hlo2] <;> rfl
    · rcases hl with rfl | rfl | rfl | rfl | rfl | rfl <;>
        simp only [go_sem, b50, Tryz.f50, Int.reduceBEq, hlo, hlo2, r1, r2, r7, r8, r10, r11, r12, r15, r21, r9] <;> rfl
  · simp only [go_sem, b50, Tryz.f50, Int.reduceBEq, hlo, hlo2, l13, l1, l3, l4, l10, l12, l9]
    all_goals rfl
end
end Go.Lift.R4
