/- Which tokens may be: the program. -/
import Derived.Test.YtnfdhgadidacaaaGreatDoorSg
/- spell.May. -/
open Go.Proofs
namespace Go.Lift.R4
set_option linter.unusedSectionVars false
variable [MX]
open Utf Tok Spell
set_option maxRecDepth 20000
set_option maxHeartbeats 4000000
set_option linter.unusedSimpArgs false
set_option linter.unusedVariables false

def Z4 (n d : Int) (w i : Bool) : Bool := n == 0 && (d == 0 && (w == false && i == false))
section
variable {lo : Nat} {h : Heap} {k n d : Int} {b : List Int} {w i : Bool}
theorem z_eq : ((⟨#[]⟩ : ByteArray).toList == ByteArray.empty.toList) = true := (bs_nil_eq []).trans (by simp)
theorem i_eq : ((0 : Int) == 0) = true := rfl
theorem ne_empty (hb : b ≠ []) : b.isEmpty = false := by cases b with
  | nil => exact absurd rfl hb
  | cons c t => rfl
theorem m23a (hlo : lo ≤ h.length) (hy : By b) (hl : b.length ≤ 1000000000) (hk : k = 1 ∨ k = 2 ∨ k = 3) :
    E lo 23 [.agg (tokV k b n d w i)] h = some (.v (.bool (!b.isEmpty && sound b && Z4 n d w i)), h) := by
  have hlo2 : lo ≤ h.length + 1 := by omega
  have k1 := fun lo h => f51 (lo := lo) (h := h) hy hl
  have t1 := bs_nil_eq' b
  have e : eqCells [1, 2, 1, 1, 0, 0] [.v (.int .i64 0), .v (.string ⟨#[]⟩), .v (.int .i64 n), .v (.int .i64 d), .v (.bool w), .v (.bool i)] [.v (.int .i64 0), .v (.string ByteArray.empty), .v (.int .i64 0), .v (.int .i64 0), .v (.bool false), .v (.bool false)] = some (Z4 n d w i) := by
    rw [eq_tok, z_eq, i_eq]; rfl
  rw [e23 (by simp) (by rfl)]
  unfold tokV
  by_cases hb : b = []
  · rw [decide_eq_true hb] at t1
    have eb : b.isEmpty = true := by simp [hb]
    rw [eb]
    rcases hk with rfl | rfl | rfl <;> simp only [go_sem, b23, Tryz.f23, Int.reduceBEq, hlo, hlo2, t1] <;> rfl
  · rw [decide_eq_false hb] at t1
    rw [ne_empty hb]
    cases qs : sound b with
    | true =>
      rw [qs] at k1
      rcases hk with rfl | rfl | rfl <;> simp only [go_sem, b23, Tryz.f23, Int.reduceBEq, hlo, hlo2, t1, k1, fl34, e] <;> rfl
    | false =>
      rw [qs] at k1
      rcases hk with rfl | rfl | rfl <;> simp only [go_sem, b23, Tryz.f23, Int.reduceBEq, hlo, hlo2, t1, k1] <;> rfl
theorem m23b (hlo : lo ≤ h.length) (hy : By b) (hl : b.length ≤ 1000000000) :
    E lo 23 [.agg (tokV 4 b n d w i)] h = some (.v (.bool (!b.isEmpty && sound b && (i || looseT b) && Z4 n d w false)), h) := by
  have hlo2 : lo ≤ h.length + 1 := by omega
  have k1 := fun lo h => f51 (lo := lo) (h := h) hy hl
  have k2 := fun lo h => f52 (lo := lo) (h := h) hy hl
  have t1 := bs_nil_eq' b
  have e : eqCells [1, 2, 1, 1, 0, 0] [.v (.int .i64 0), .v (.string ⟨#[]⟩), .v (.int .i64 n), .v (.int .i64 d), .v (.bool w), .v (.bool false)] [.v (.int .i64 0), .v (.string ByteArray.empty), .v (.int .i64 0), .v (.int .i64 0), .v (.bool false), .v (.bool false)] = some (Z4 n d w false) := by
    rw [eq_tok, z_eq, i_eq]; rfl
  rw [e23 (by simp) (by rfl)]
  unfold tokV
  by_cases hb : b = []
  · rw [decide_eq_true hb] at t1
    have eb : b.isEmpty = true := by simp [hb]
    rw [eb]
    simp only [go_sem, b23, Tryz.f23, Int.reduceBEq, hlo, hlo2, t1]
    all_goals rfl
  · rw [decide_eq_false hb] at t1
    rw [ne_empty hb]
    cases qs : sound b with
    | true =>
      rw [qs] at k1
      cases i with
      | true =>
        simp only [go_sem, b23, Tryz.f23, Int.reduceBEq, hlo, hlo2, t1, k1, fl34, e]
        all_goals rfl
      | false =>
        cases ql : looseT b with
        | true =>
          rw [ql] at k2
          simp only [go_sem, b23, Tryz.f23, Int.reduceBEq, hlo, hlo2, t1, k1, k2, fl34, e]
          all_goals rfl
        | false =>
          rw [ql] at k2
          simp only [go_sem, b23, Tryz.f23, Int.reduceBEq, hlo, hlo2, t1, k1, k2]
          all_goals rfl
    | false =>
      rw [qs] at k1
      simp only [go_sem, b23, Tryz.f23, Int.reduceBEq, hlo, hlo2, t1, k1]
      all_goals rfl
theorem m23c (hlo : lo ≤ h.length) (hy : By b) (hl : b.length ≤ 1000000000) (hk : k = 5 ∨ k = 7) :
    E lo 23 [.agg (tokV k b n d w i)] h = some (.v (.bool (sound b && Z4 n d w i)), h) := by
  have hlo2 : lo ≤ h.length + 1 := by omega
  have k1 := fun lo h => f51 (lo := lo) (h := h) hy hl
  have e : eqCells [1, 2, 1, 1, 0, 0] [.v (.int .i64 0), .v (.string ⟨#[]⟩), .v (.int .i64 n), .v (.int .i64 d), .v (.bool w), .v (.bool i)] [.v (.int .i64 0), .v (.string ByteArray.empty), .v (.int .i64 0), .v (.int .i64 0), .v (.bool false), .v (.bool false)] = some (Z4 n d w i) := by
    rw [eq_tok, z_eq, i_eq]; rfl
  rw [e23 (by simp) (by rfl)]
  unfold tokV
  cases qs : sound b with
  | true =>
    rw [qs] at k1
    rcases hk with rfl | rfl <;> simp only [go_sem, b23, Tryz.f23, Int.reduceBEq, hlo, hlo2, k1, fl34, e] <;> rfl
  | false =>
    rw [qs] at k1
    rcases hk with rfl | rfl <;> simp only [go_sem, b23, Tryz.f23, Int.reduceBEq, hlo, hlo2, k1] <;> rfl
theorem m23d (hlo : lo ≤ h.length) (hy : By b) (hl : b.length ≤ 1000000000) :
    E lo 23 [.agg (tokV 9 b n d w i)] h = some (.v (.bool (signT b && Z4 n d w i)), h) := by
  have hlo2 : lo ≤ h.length + 1 := by omega
  have k1 := fun lo h => f53 (lo := lo) (h := h) hy hl
  have e : eqCells [1, 2, 1, 1, 0, 0] [.v (.int .i64 0), .v (.string ⟨#[]⟩), .v (.int .i64 n), .v (.int .i64 d), .v (.bool w), .v (.bool i)] [.v (.int .i64 0), .v (.string ByteArray.empty), .v (.int .i64 0), .v (.int .i64 0), .v (.bool false), .v (.bool false)] = some (Z4 n d w i) := by
    rw [eq_tok, z_eq, i_eq]; rfl
  rw [e23 (by simp) (by rfl)]
  unfold tokV
  cases qs : signT b with
  | true =>
    rw [qs] at k1
    simp only [go_sem, b23, Tryz.f23, Int.reduceBEq, hlo, hlo2, k1, fl34, e]
    all_goals rfl
  | false =>
    rw [qs] at k1
    simp only [go_sem, b23, Tryz.f23, Int.reduceBEq, hlo, hlo2, k1]
    all_goals rfl
theorem m23e (hlo : lo ≤ h.length) (hy : By b) (hl : b.length ≤ 1000000000) (h0 : -9223372036854775808 ≤ n) (h1 : n ≤ 9223372036854775807) (h2 : -9223372036854775808 ≤ d) (h3 : d ≤ 9223372036854775807) :
    E lo 23 [.agg (tokV 12 b n d w i)] h = some (.v (.bool (!b.isEmpty && sound b && (plainT n d w).isSome && (i == false))), h) := by
  have hlo2 : lo ≤ h.length + 1 := by omega
  have hlo3 : ∀ x y : Ob, lo ≤ (h ++ [x, y]).length := fun x y => by simp; omega
  have k1 := fun lo h => f51 (lo := lo) (h := h) hy hl
  have k2 := fun (lo : Nat) (h : Heap) (hlo : lo ≤ h.length) => f54 (lo := lo) (h := h) hlo (k := 12) (b := b) (n := n) (d := d) (w := w) (i := i) h0 h1 h2 h3
  have k2 := k2 lo (h ++ [.cells (tokV 12 b n d w i), .cells (tokV 0 b n d w i)]) (hlo3 _ _)
  have t1 := bs_nil_eq' b
  have e : eqCells [1, 2, 1, 1, 0, 0] [.v (.int .i64 0), .v (.string ⟨#[]⟩), .v (.int .i64 0), .v (.int .i64 0), .v (.bool false), .v (.bool i)] [.v (.int .i64 0), .v (.string ByteArray.empty), .v (.int .i64 0), .v (.int .i64 0), .v (.bool false), .v (.bool false)] = some (i == false) := by
    rw [eq_tok, z_eq, i_eq]; simp
  rw [e23 (by simp) (by rfl)]
  unfold tokV at *
  by_cases hb : b = []
  · rw [decide_eq_true hb] at t1
    have eb : b.isEmpty = true := by simp [hb]
    rw [eb]
    simp only [go_sem, b23, Tryz.f23, Int.reduceBEq, hlo, hlo2, t1]
    all_goals rfl
  · rw [decide_eq_false hb] at t1
    rw [ne_empty hb]
    cases qs : sound b with
    | true =>
      rw [qs] at k1
      cases qp : (plainT n d w).isSome with
      | true =>
        rw [qp] at k2
        simp only [go_sem, b23, Tryz.f23, Int.reduceBEq, hlo, hlo2, t1, k1, k2, fl34, e]
        all_goals rfl
      | false =>
        rw [qp] at k2
        simp only [go_sem, b23, Tryz.f23, Int.reduceBEq, hlo, hlo2, t1, k1, k2]
        all_goals rfl
    | false =>
      rw [qs] at k1
      simp only [go_sem, b23, Tryz.f23, Int.reduceBEq, hlo, hlo2, t1, k1]
      all_goals rfl
theorem m23f (hlo : lo ≤ h.length) (hk : k = 10 ∨ k = 11) (h0 : -9223372036854775808 ≤ n) (h1 : n ≤ 9223372036854775807) (h2 : -9223372036854775808 ≤ d) (h3 : d ≤ 9223372036854775807) :
    E lo 23 [.agg (tokV k b n d w i)] h = some (.v (.bool ((plainT n d w).isSome && (b.isEmpty && (i == false)))), h) := by
  have hlo2 : lo ≤ h.length + 1 := by omega
  have hlo3 : ∀ x y : Ob, lo ≤ (h ++ [x, y]).length := fun x y => by simp; omega
  have k2 := fun (lo : Nat) (h : Heap) (hlo : lo ≤ h.length) => f54 (lo := lo) (h := h) hlo (k := k) (b := b) (n := n) (d := d) (w := w) (i := i) h0 h1 h2 h3
  have k2 := k2 lo (h ++ [.cells (tokV k b n d w i), .cells (tokV 0 b n d w i)]) (hlo3 _ _)
  have t1 := bs_nil_eq b
  have eb : decide (b = []) = b.isEmpty := by cases b <;> simp
  have e : eqCells [1, 2, 1, 1, 0, 0] [.v (.int .i64 0), .v (.string (bs b)), .v (.int .i64 0), .v (.int .i64 0), .v (.bool false), .v (.bool i)] [.v (.int .i64 0), .v (.string ByteArray.empty), .v (.int .i64 0), .v (.int .i64 0), .v (.bool false), .v (.bool false)] = some (b.isEmpty && (i == false)) := by
    rw [eq_tok, i_eq, t1, eb]; simp
  rw [e23 (by simp) (by rfl)]
  unfold tokV at *
  cases qp : (plainT n d w).isSome with
  | true =>
    rw [qp] at k2
    rcases hk with rfl | rfl <;> simp only [go_sem, b23, Tryz.f23, Int.reduceBEq, hlo, hlo2, k2, fl34, e] <;> rfl
  | false =>
    rw [qp] at k2
    rcases hk with rfl | rfl <;> simp only [go_sem, b23, Tryz.f23, Int.reduceBEq, hlo, hlo2, k2] <;> rfl
theorem m23g (hlo : lo ≤ h.length) (hk : k = 6 ∨ k = 8 ∨ k = 13 ∨ k = 14 ∨ k = 15 ∨ k = 16 ∨ k = 17 ∨ k = 18 ∨ k = 19 ∨ k = 20 ∨ k = 21 ∨ k = 22 ∨ k = 23 ∨ k = 24) :
    E lo 23 [.agg (tokV k b n d w i)] h = some (.v (.bool (b.isEmpty && Z4 n d w i)), h) := by
  have hlo2 : lo ≤ h.length + 1 := by omega
  have t1 := bs_nil_eq b
  have eb : decide (b = []) = b.isEmpty := by cases b <;> simp
  have e : eqCells [1, 2, 1, 1, 0, 0] [.v (.int .i64 0), .v (.string (bs b)), .v (.int .i64 n), .v (.int .i64 d), .v (.bool w), .v (.bool i)] [.v (.int .i64 0), .v (.string ByteArray.empty), .v (.int .i64 0), .v (.int .i64 0), .v (.bool false), .v (.bool false)] = some (b.isEmpty && Z4 n d w i) := by
    rw [eq_tok, i_eq, t1, eb]; rfl
  rw [e23 (by simp) (by rfl)]
  unfold tokV
  rcases hk with rfl | rfl | rfl | rfl | rfl | rfl | rfl | rfl | rfl | rfl | rfl | rfl | rfl | rfl <;> simp only [go_sem, b23, Tryz.f23, Int.reduceBEq, hlo, hlo2, fl34, e] <;> rfl
theorem m23h (hlo : lo ≤ h.length) (hk : k < 1 ∨ 24 < k) : E lo 23 [.agg (tokV k b n d w i)] h = some (.v (.bool false), h) := by
  have hlo2 : lo ≤ h.length + 1 := by omega
  have q : ∀ x : Int, 1 ≤ x → x ≤ 24 → (k == x) = false := fun x h1 h2 => by simp; omega
  have q1 := q 1 (by omega) (by omega); have q2 := q 2 (by omega) (by omega); have q3 := q 3 (by omega) (by omega); have q4 := q 4 (by omega) (by omega); have q5 := q 5 (by omega) (by omega); have q6 := q 6 (by omega) (by omega)
  have q7 := q 7 (by omega) (by omega); have q8 := q 8 (by omega) (by omega); have q9 := q 9 (by omega) (by omega); have q10 := q 10 (by omega) (by omega); have q11 := q 11 (by omega) (by omega); have q12 := q 12 (by omega) (by omega)
  have q13 := q 13 (by omega) (by omega); have q14 := q 14 (by omega) (by omega); have q15 := q 15 (by omega) (by omega); have q16 := q 16 (by omega) (by omega); have q17 := q 17 (by omega) (by omega); have q18 := q 18 (by omega) (by omega)
  have q19 := q 19 (by omega) (by omega); have q20 := q 20 (by omega) (by omega); have q21 := q 21 (by omega) (by omega); have q22 := q 22 (by omega) (by omega); have q23 := q 23 (by omega) (by omega); have q24 := q 24 (by omega) (by omega)
  rw [e23 (by simp) (by rfl)]
  unfold tokV
  simp only [go_sem, b23, Tryz.f23, hlo, hlo2, q1, q2, q3, q4, q5, q6, q7, q8, q9, q10, q11, q12, q13, q14, q15, q16, q17, q18, q19, q20, q21, q22, q23, q24]
  all_goals rfl
end
end Go.Lift.R4
