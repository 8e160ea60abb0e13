/- Where a name, a number, an escape begins: walks. -/
import Derived.Test.YtedlleekcinbcaaR1Utf3
open Go.Proofs
namespace Go.Lift.R1
open Utf
set_option maxRecDepth 20000
set_option linter.unusedSimpArgs false
set_option linter.unusedVariables false

def dig (c : Int) : Bool := decide (48 ≤ c) && decide (c ≤ 57)
def fst1 (c : Int) : Bool := decide (97 ≤ c) && decide (c ≤ 122) || decide (65 ≤ c) && decide (c ≤ 90) || c == 95 || decide (128 ≤ c)
def esc (a b : Int) : Bool := a == 92 && b != 10
theorem f36 {lo : Nat} {c : Int} {h : Heap} : E lo 36 [.v (.int .i32 c)] h = some (.v (.bool (dig c)), h) := by
  rw [e36 (by simp) (by rfl)]
  simp only [go_sem, b36, Try.f36, dig]
theorem f38 {lo : Nat} {c : Int} {h : Heap} : E lo 38 [.v (.int .i32 c)] h = some (.v (.bool (dig c)), h) := by
  rw [e38 (by simp) (by rfl)]
  simp only [go_sem, b38, Try.f38, dig]
theorem f35 {lo : Nat} {c : Int} {h : Heap} : E lo 35 [.v (.int .i32 c)] h = some (.v (.bool (fst1 c)), h) := by
  rw [e35 (by simp) (by rfl)]
  simp only [go_sem, b35, Try.f35, fst1]
theorem f37 {lo : Nat} {c : Int} {h : Heap} : E lo 37 [.v (.int .i32 c)] h = some (.v (.bool (fst1 c)), h) := by
  rw [e37 (by simp) (by rfl)]
  simp only [go_sem, b37, Try.f37, fst1]
theorem f31 {lo : Nat} {a b : Int} {h : Heap} : E lo 31 [.v (.int .i32 a), .v (.int .i32 b)] h = some (.v (.bool (esc a b)), h) := by
  rw [e31 (by simp) (by rfl)]
  simp only [go_sem, b31, Try.f31, esc]
/-- does a name begin? -/
def beg (a b c : Int) : Bool := if a == 45 then fst1 b || b == 45 || esc b c else fst1 a || esc a b
def num (a b c : Int) : Bool := if a == 43 || a == 45 then dig b || b == 46 && dig c else dig a || a == 46 && dig b
theorem f29 {lo : Nat} {a b c : Int} {h : Heap} : E lo 29 [.v (.int .i32 a), .v (.int .i32 b), .v (.int .i32 c)] h = some (.v (.bool (beg a b c)), h) := by
  rw [e29 (by simp) (by rfl)]
  cases ha : a == 45 with
  | true => simp only [go_sem, b29, Try.f29, f37, f31, ha, beg]
  | false => simp only [go_sem, b29, Try.f29, f37, f31, ha, beg, Bool.false_eq_true]
theorem f30 {lo : Nat} {a b c : Int} {h : Heap} : E lo 30 [.v (.int .i32 a), .v (.int .i32 b), .v (.int .i32 c)] h = some (.v (.bool (num a b c)), h) := by
  rw [e30 (by simp) (by rfl)]
  cases ha : a == 43 || a == 45 with
  | true => simp only [go_sem, b30, Try.f30, f38, ha, num]
  | false => simp only [go_sem, b30, Try.f30, f38, ha, num, Bool.false_eq_true]
end Go.Lift.R1
