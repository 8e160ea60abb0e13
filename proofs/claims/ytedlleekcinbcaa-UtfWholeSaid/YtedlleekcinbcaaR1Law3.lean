/- The law UtfEncode, evaluated. -/
import Derived.Test.YtedlleekcinbcaaR1Utf3
open Go.Proofs
namespace Go.Lift.R1
set_option linter.unusedVariables false
set_option linter.unusedSimpArgs false
open Utf
set_option maxRecDepth 20000
set_option linter.unusedSimpArgs false


theorem enc_len (y : Int) : (enc y).length ≤ 4 := by
  unfold enc
  split
  · simp
  · split
    · simp
    · split <;> simp
theorem encs_len (l : List Int) : (l.flatMap fun x => enc (scal x)).length ≤ 4 * l.length := by
  induction l with
  | nil => simp
  | cons x l ih => have := enc_len (scal x); simp only [List.flatMap_cons, List.length_append, List.length_cons]; omega

/-- the law UtfEncode answers true -/
theorem f3 {lo : Nat} {l : List Int} {h : Heap} (hl : l.length ≤ 35184372088832) : E lo 3 [.list .no (ri .i32 l)] h = some (.v (.bool true), h) := by
  have h1 : l.length ≤ 35184372088832 := by omega
  have h2 := encs_len l
  have k1 := fun lo h => f11 (lo := lo) (h := h) (a := l.flatMap fun x => enc (scal x)) (b := l.flatMap fun x => enc (scal x)) (by omega)
  have k2 := fun lo h => f12 (lo := lo) (h := h) (l := [8364]) (by simp)
  have k3 := fun lo h => f11 (lo := lo) (h := h) (a := [226, 130, 172]) (b := [226, 130, 172]) (by simp)
  have e1 : ([8364].flatMap fun x => enc (scal x)) = [226, 130, 172] := by decide
  rw [e1] at k2
  simp only [ri_cons, ri_nil, beq_self_eq_true] at k1 k2 k3
  rw [e3 (by simp) (by rfl)]
  simp only [go_sem, b3, Try.f3, f12 h1, f13 h1, k1, k2, k3]
end Go.Lift.R1
