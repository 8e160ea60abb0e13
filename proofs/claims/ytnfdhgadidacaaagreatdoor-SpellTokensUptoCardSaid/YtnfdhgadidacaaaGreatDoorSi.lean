/- Which tokens may be: the reference. -/
import Derived.Test.YtnfdhgadidacaaaGreatDoorSh
/- jalousieref4.May. -/
open Go.Proofs
namespace Go.Lift.R4
set_option linter.unusedSectionVars false
variable [MX]
open Utf Tok Spell
set_option maxRecDepth 20000
set_option maxHeartbeats 4000000
set_option linter.unusedSimpArgs false
set_option linter.unusedVariables false

section
variable {lo : Nat} {h : Heap} {k n d : Int} {b : List Int} {w i : Bool}
theorem chars_of (hy : By b) (h : sound b = true) : charsL b = raw b := by
  unfold sound at h
  rw [Bool.and_eq_true] at h
  unfold charsL
  rw [zero_raw hy h.1]
  cases q : b.contains 0 with
  | true => rw [q] at h; cases h.2
  | false => rw [if_neg (by simp)]
theorem raw_ne (hb : b ≠ []) : 1 ≤ (raw b).length := by
  cases b with
  | nil => exact absurd rfl hb
  | cons c t => rw [raw_cons]; simp
theorem s_eq (s : ByteArray) : (s.toList == s.toList) = true := by simp
theorem k_eq (k : Int) : (k == k) = true := by simp
theorem m39a (hlo : lo ≤ h.length) (hy : By b) (hl : b.length ≤ 1000000000) (hk : k = 1 ∨ k = 2 ∨ k = 3) :
    E lo 39 [.agg (tokV k b n d w i)] h = some (.v (.bool (!b.isEmpty && sound b && Z4 n d w i)), h) := by
  have hlo2 : lo ≤ h.length + 1 := by omega
  have k1 := fun lo h => f42 (lo := lo) (h := h) hy hl
  have e : eqCells [1, 2, 1, 1, 0, 0] [.v (.int .i64 k), .v (.string (bs b)), .v (.int .i64 n), .v (.int .i64 d), .v (.bool w), .v (.bool i)] [.v (.int .i64 k), .v (.string (bs b)), .v (.int .i64 0), .v (.int .i64 0), .v (.bool false), .v (.bool false)] = some (Z4 n d w i) := by
    rw [eq_tok, s_eq, k_eq]; rfl
  rw [e39 (by simp) (by rfl)]
  unfold tokV
  cases qz : Z4 n d w i with
  | false =>
    rw [qz] at e
    rw [Bool.and_false]
    rcases hk with rfl | rfl | rfl <;> simp only [go_sem, b39, Tryz.f39, Int.reduceBEq, hlo, hlo2, k1, fl34, e] <;> rfl
  | true =>
    rw [qz] at e
    cases qs : sound b with
    | false =>
      rw [qs] at k1
      rw [Bool.and_false]
      rcases hk with rfl | rfl | rfl <;> simp only [go_sem, b39, Tryz.f39, Int.reduceBEq, hlo, hlo2, k1, fl34, e] <;> rfl
    | true =>
      rw [qs, chars_of hy qs] at k1
      by_cases hb : b = []
      · have q : decide (0 < ((raw b).length : Int)) = false := by subst hb; rfl
        have eb : b.isEmpty = true := by simp [hb]
        rw [eb]
        rcases hk with rfl | rfl | rfl <;> simp only [go_sem, b39, Tryz.f39, Int.reduceBEq, hlo, hlo2, k1, fl34, e, q] <;> rfl
      · have q : decide (0 < ((raw b).length : Int)) = true := by have := raw_ne hb; simp; omega
        rw [ne_empty hb]
        rcases hk with rfl | rfl | rfl <;> simp only [go_sem, b39, Tryz.f39, Int.reduceBEq, hlo, hlo2, k1, fl34, e, q] <;> rfl
theorem m39b (hlo : lo ≤ h.length) (hy : By b) (hl : b.length ≤ 1000000000) :
    E lo 39 [.agg (tokV 4 b n d w i)] h = some (.v (.bool (!b.isEmpty && sound b && (i || looseT b) && Z4 n d w false)), h) := by
  have hlo2 : lo ≤ h.length + 1 := by omega
  have k1 := fun lo h => f42 (lo := lo) (h := h) hy hl
  have e : eqCells [1, 2, 1, 1, 0, 0] [.v (.int .i64 4), .v (.string (bs b)), .v (.int .i64 n), .v (.int .i64 d), .v (.bool w), .v (.bool i)] [.v (.int .i64 4), .v (.string (bs b)), .v (.int .i64 0), .v (.int .i64 0), .v (.bool false), .v (.bool i)] = some (Z4 n d w false) := by
    rw [eq_tok, s_eq, k_eq]
    unfold Z4
    cases i <;> rfl
  rw [e39 (by simp) (by rfl)]
  unfold tokV
  cases qz : Z4 n d w false with
  | false =>
    rw [qz] at e
    rw [Bool.and_false]
    simp only [go_sem, b39, Tryz.f39, Int.reduceBEq, hlo, hlo2, k1, fl34, e]
    all_goals rfl
  | true =>
    rw [qz] at e
    cases qs : sound b with
    | false =>
      rw [qs] at k1
      rw [Bool.and_false, Bool.false_and, Bool.false_and]
      simp only [go_sem, b39, Tryz.f39, Int.reduceBEq, hlo, hlo2, k1, fl34, e]
      all_goals rfl
    | true =>
      rw [qs, chars_of hy qs] at k1
      have hw : whole b = true := by unfold sound at qs; rw [Bool.and_eq_true] at qs; exact qs.1
      rw [← loose_raw hy hw]
      by_cases hb : b = []
      · have q : (((raw b).length : Int) == 0) = true := by subst hb; rfl
        have eb : b.isEmpty = true := by simp [hb]
        rw [eb]
        simp only [go_sem, b39, Tryz.f39, Int.reduceBEq, hlo, hlo2, k1, fl34, e, q]
        all_goals rfl
      · have hr := raw_ne hb
        rw [ne_empty hb]
        have q : (((raw b).length : Int) == 0) = false := by rw [beq_eq_false_iff_ne]; omega
        cases i with
        | true =>
          simp only [go_sem, b39, Tryz.f39, Int.reduceBEq, hlo, hlo2, k1, fl34, e, q]
          all_goals rfl
        | false =>
          have k2 := fun lo h x => f100 (lo := lo) (h := h) (x := x)
          generalize raw b = L at *
          have main : E lo 39 [.agg (tokV 4 b n d w false)] h = some (.v (.bool (looseT L)), h) := by
            rw [e39 (by simp) (by rfl)]
            unfold tokV
            match L, hr with
            | [x], _ =>
              have g0 : ([x])[0]? = some x := rfl
              have sz : ([x]).length = 1 := rfl
              have n1 : ((1 : Nat) : Int) = 1 := rfl
              have p1 : ((1 : Int) == 0) = false := rfl
              have p2 : ((1 : Int) == 1) = true := rfl
              have er : looseT [x] = (dig x || x == 45) := by unfold looseT; simp
              rw [er]
              clear q
              generalize [x] = M at *
              cases qd : dig x with
              | true =>
                have k3 := fun lo h => k2 lo h x
                rw [qd] at k3
                simp only [go_sem, b39, Tryz.f39, Int.reduceBEq, hlo, hlo2, k1, fl34, e, sz, n1, p1, p2, g0, k3]
                all_goals rfl
              | false =>
                have k3 := fun lo h => k2 lo h x
                rw [qd] at k3
                cases qx : (x == 45) with
                | true =>
                  simp only [go_sem, b39, Tryz.f39, Int.reduceBEq, hlo, hlo2, k1, fl34, e, sz, n1, p1, p2, g0, k3, qx]
                  all_goals rfl
                | false =>
                  simp only [go_sem, b39, Tryz.f39, Int.reduceBEq, hlo, hlo2, k1, fl34, e, sz, n1, p1, p2, g0, k3, qx]
                  all_goals rfl
            | x :: y :: u, _ =>
              have g0 : (x :: y :: u)[0]? = some x := rfl
              have g1 : (x :: y :: u)[1]? = some y := rfl
              have p2 : (((x :: y :: u).length : Int) == 1) = false := by simp; omega
              have er : looseT (x :: y :: u) = (dig x || x == 45 && dig y) := rfl
              rw [er]
              generalize x :: y :: u = M at *
              have k4 := fun lo h => k2 lo h y
              cases qd : dig x with
              | true =>
                have k3 := fun lo h => k2 lo h x
                rw [qd] at k3
                simp only [go_sem, b39, Tryz.f39, Int.reduceBEq, hlo, hlo2, k1, fl34, e, q, p2, g0, g1, k3]
                all_goals rfl
              | false =>
                have k3 := fun lo h => k2 lo h x
                rw [qd] at k3
                cases qx : (x == 45) with
                | true =>
                  simp only [go_sem, b39, Tryz.f39, Int.reduceBEq, hlo, hlo2, k1, fl34, e, q, p2, g0, g1, k3, k4, qx]
                  all_goals rfl
                | false =>
                  simp only [go_sem, b39, Tryz.f39, Int.reduceBEq, hlo, hlo2, k1, fl34, e, q, p2, g0, g1, k3, k4, qx]
                  all_goals rfl
          rw [e39 (by simp) (by rfl)] at main
          unfold tokV at main
          rw [main]
          simp
theorem m39c (hlo : lo ≤ h.length) (hy : By b) (hl : b.length ≤ 1000000000) (hk : k = 5 ∨ k = 7) :
    E lo 39 [.agg (tokV k b n d w i)] h = some (.v (.bool (sound b && Z4 n d w i)), h) := by
  have hlo2 : lo ≤ h.length + 1 := by omega
  have k1 := fun lo h => f42 (lo := lo) (h := h) hy hl
  have e : eqCells [1, 2, 1, 1, 0, 0] [.v (.int .i64 k), .v (.string (bs b)), .v (.int .i64 n), .v (.int .i64 d), .v (.bool w), .v (.bool i)] [.v (.int .i64 k), .v (.string (bs b)), .v (.int .i64 0), .v (.int .i64 0), .v (.bool false), .v (.bool false)] = some (Z4 n d w i) := by
    rw [eq_tok, s_eq, k_eq]; rfl
  rw [e39 (by simp) (by rfl)]
  unfold tokV
  cases qz : Z4 n d w i with
  | false =>
    rw [qz] at e
    rw [Bool.and_false]
    rcases hk with rfl | rfl <;> simp only [go_sem, b39, Tryz.f39, Int.reduceBEq, hlo, hlo2, k1, fl34, e] <;> rfl
  | true =>
    rw [qz] at e
    rw [Bool.and_true]
    rcases hk with rfl | rfl <;> simp only [go_sem, b39, Tryz.f39, Int.reduceBEq, hlo, hlo2, k1, fl34, e] <;> rfl
theorem m39d (hlo : lo ≤ h.length) (hy : By b) (hl : b.length ≤ 1000000000) :
    E lo 39 [.agg (tokV 9 b n d w i)] h = some (.v (.bool (signT b && Z4 n d w i)), h) := by
  have hlo2 : lo ≤ h.length + 1 := by omega
  have k1 := fun lo h => f42 (lo := lo) (h := h) hy hl
  have k2 := fun lo h => f101 (lo := lo) (h := h) hy hl
  have e : eqCells [1, 2, 1, 1, 0, 0] [.v (.int .i64 9), .v (.string (bs b)), .v (.int .i64 n), .v (.int .i64 d), .v (.bool w), .v (.bool i)] [.v (.int .i64 9), .v (.string (bs b)), .v (.int .i64 0), .v (.int .i64 0), .v (.bool false), .v (.bool false)] = some (Z4 n d w i) := by
    rw [eq_tok, s_eq, k_eq]; rfl
  rw [e39 (by simp) (by rfl)]
  unfold tokV
  cases qz : Z4 n d w i with
  | false =>
    rw [qz] at e
    rw [Bool.and_false]
    simp only [go_sem, b39, Tryz.f39, Int.reduceBEq, hlo, hlo2, k1, fl34, e]
    all_goals rfl
  | true =>
    rw [qz] at e
    rw [Bool.and_true]
    simp only [go_sem, b39, Tryz.f39, Int.reduceBEq, hlo, hlo2, k1, k2, fl34, e]
    all_goals rfl
theorem m39e (hlo : lo ≤ h.length) (hy : By b) (hl : b.length ≤ 1000000000) (h0 : -9223372036854775808 ≤ n) (h1 : n ≤ 9223372036854775807) (h2 : -9223372036854775808 ≤ d) (h3 : d ≤ 9223372036854775807) :
    E lo 39 [.agg (tokV 12 b n d w i)] h = some (.v (.bool (!b.isEmpty && sound b && (plainT n d w).isSome && (i == false))), h) := by
  have hlo2 : lo ≤ h.length + 1 := by omega
  have hlo3 : ∀ x y : Ob, lo ≤ (h ++ [x, y]).length := fun x y => by simp; omega
  have k1 := fun lo h => f42 (lo := lo) (h := h) hy hl
  have k2 := fun (lo : Nat) (h : Heap) (hlo : lo ≤ h.length) => f40 (lo := lo) (h := h) hlo (n := n) (d := d) (w := w) h0 h1 h2 h3
  have k2 := k2 lo (h ++ [.cells (tokV 12 b n d w i), .cells (tokV 12 b n d w false)]) (hlo3 _ _)
  obtain ⟨t, er, he, hs⟩ := plain_size (plainT n d w)
  rw [he] at k2
  have e : eqCells [1, 2, 1, 1, 0, 0] [.v (.int .i64 12), .v (.string (bs b)), .v (.int .i64 n), .v (.int .i64 d), .v (.bool w), .v (.bool i)] [.v (.int .i64 12), .v (.string (bs b)), .v (.int .i64 n), .v (.int .i64 d), .v (.bool w), .v (.bool false)] = some (i == false) := by
    rw [eq_tok, s_eq, k_eq, k_eq, k_eq]; cases w <;> rfl
  rw [e39 (by simp) (by rfl)]
  rw [← hs]
  unfold tokV at *
  cases qs : sound b with
  | false =>
    rw [qs] at k1
    rw [Bool.and_false, Bool.false_and, Bool.false_and]
    simp only [go_sem, b39, Tryz.f39, Int.reduceBEq, hlo, hlo2, k1]
    all_goals rfl
  | true =>
    rw [qs, chars_of hy qs] at k1
    by_cases hb : b = []
    · have q : (((raw b).length : Int) == 0) = true := by subst hb; rfl
      have eb : b.isEmpty = true := by simp [hb]
      rw [eb]
      simp only [go_sem, b39, Tryz.f39, Int.reduceBEq, hlo, hlo2, k1, q]
      all_goals rfl
    · have hr := raw_ne hb
      rw [ne_empty hb]
      have q : (((raw b).length : Int) == 0) = false := by rw [beq_eq_false_iff_ne]; omega
      cases qi : (i == false) with
      | true =>
        rw [qi] at e
        simp only [go_sem, b39, Tryz.f39, Int.reduceBEq, hlo, hlo2, k1, k2, fl34, e, q]
        all_goals simp
        all_goals rfl
      | false =>
        rw [qi] at e
        simp only [go_sem, b39, Tryz.f39, Int.reduceBEq, hlo, hlo2, k1, k2, fl34, e, q]
        all_goals simp
        all_goals rfl
theorem m39f (hlo : lo ≤ h.length) (hy : By b) (hl : b.length ≤ 1000000000) (hk : k = 10 ∨ k = 11) (h0 : -9223372036854775808 ≤ n) (h1 : n ≤ 9223372036854775807) (h2 : -9223372036854775808 ≤ d) (h3 : d ≤ 9223372036854775807) :
    E lo 39 [.agg (tokV k b n d w i)] h = some (.v (.bool ((plainT n d w).isSome && (b.isEmpty && (i == false)))), h) := by
  have hlo2 : lo ≤ h.length + 1 := by omega
  have hlo3 : ∀ x y : Ob, lo ≤ (h ++ [x, y]).length := fun x y => by simp; omega
  have k1 := fun lo h => f42 (lo := lo) (h := h) hy hl
  have k2 := fun (lo : Nat) (h : Heap) (hlo : lo ≤ h.length) => f40 (lo := lo) (h := h) hlo (n := n) (d := d) (w := w) h0 h1 h2 h3
  have k2 := k2 lo (h ++ [.cells (tokV k b n d w i), .cells [.v (.int .i64 k), .v (.string ByteArray.empty), .v (.int .i64 n), .v (.int .i64 d), .v (.bool w), .v (.bool false)]]) (hlo3 _ _)
  obtain ⟨t, er, he, hs⟩ := plain_size (plainT n d w)
  rw [he] at k2
  have t1 := bs_nil_eq b
  have eb : decide (b = []) = b.isEmpty := by cases b <;> simp
  have e : eqCells [1, 2, 1, 1, 0, 0] [.v (.int .i64 k), .v (.string (bs b)), .v (.int .i64 n), .v (.int .i64 d), .v (.bool w), .v (.bool i)] [.v (.int .i64 k), .v (.string ByteArray.empty), .v (.int .i64 n), .v (.int .i64 d), .v (.bool w), .v (.bool false)] = some (b.isEmpty && (i == false)) := by
    rw [eq_tok, t1, eb, k_eq, k_eq, k_eq]; cases w <;> rfl
  rw [e39 (by simp) (by rfl)]
  rw [← hs]
  unfold tokV at *
  cases qi : (b.isEmpty && (i == false)) with
  | true =>
    rw [qi] at e
    rcases hk with rfl | rfl <;> simp only [go_sem, b39, Tryz.f39, Int.reduceBEq, hlo, hlo2, k1, k2, fl34, e] <;> simp <;> rfl
  | false =>
    rw [qi] at e
    rcases hk with rfl | rfl <;> simp only [go_sem, b39, Tryz.f39, Int.reduceBEq, hlo, hlo2, k1, k2, fl34, e] <;> simp <;> rfl
theorem m39g (hlo : lo ≤ h.length) (hy : By b) (hl : b.length ≤ 1000000000) (hk : k = 6 ∨ k = 8 ∨ k = 13 ∨ k = 14 ∨ k = 15 ∨ k = 16 ∨ k = 17 ∨ k = 18 ∨ k = 19 ∨ k = 20 ∨ k = 21 ∨ k = 22 ∨ k = 23 ∨ k = 24) :
    E lo 39 [.agg (tokV k b n d w i)] h = some (.v (.bool (b.isEmpty && Z4 n d w i)), h) := by
  have hlo2 : lo ≤ h.length + 1 := by omega
  have k1 := fun lo h => f42 (lo := lo) (h := h) hy hl
  have t1 := bs_nil_eq b
  have eb : decide (b = []) = b.isEmpty := by cases b <;> simp
  have e : eqCells [1, 2, 1, 1, 0, 0] [.v (.int .i64 k), .v (.string (bs b)), .v (.int .i64 n), .v (.int .i64 d), .v (.bool w), .v (.bool i)] [.v (.int .i64 k), .v (.string ByteArray.empty), .v (.int .i64 0), .v (.int .i64 0), .v (.bool false), .v (.bool false)] = some (b.isEmpty && Z4 n d w i) := by
    rw [eq_tok, k_eq, t1, eb]; rfl
  rw [e39 (by simp) (by rfl)]
  unfold tokV
  rcases hk with rfl | rfl | rfl | rfl | rfl | rfl | rfl | rfl | rfl | rfl | rfl | rfl | rfl | rfl <;> simp only [go_sem, b39, Tryz.f39, Int.reduceBEq, Int.reduceLE, decide_true, hlo, hlo2, k1, fl34, e] <;> rfl
theorem m39h (hlo : lo ≤ h.length) (hy : By b) (hl : b.length ≤ 1000000000) (hk : k < 1 ∨ 24 < k) : E lo 39 [.agg (tokV k b n d w i)] h = some (.v (.bool false), h) := by
  have hlo2 : lo ≤ h.length + 1 := by omega
  have k1 := fun lo h => f42 (lo := lo) (h := h) hy hl
  have q : ∀ x : Int, 1 ≤ x → x ≤ 24 → (k == x) = false := fun x h1 h2 => by simp; omega
  have q1 := q 1 (by omega) (by omega); have q2 := q 2 (by omega) (by omega); have q3 := q 3 (by omega) (by omega); have q4 := q 4 (by omega) (by omega); have q5 := q 5 (by omega) (by omega)
  have q7 := q 7 (by omega) (by omega); have q9 := q 9 (by omega) (by omega); have q10 := q 10 (by omega) (by omega); have q11 := q 11 (by omega) (by omega); have q12 := q 12 (by omega) (by omega)
  rw [e39 (by simp) (by rfl)]
  unfold tokV
  rcases hk with hk | hk
  · have p1 : decide (1 ≤ k) = false := by simp; omega
    simp only [go_sem, b39, Tryz.f39, hlo, hlo2, k1, q1, q2, q3, q4, q5, q7, q9, q10, q11, q12, p1]
    all_goals rfl
  · have p1 : decide (1 ≤ k) = true := by simp; omega
    have p2 : decide (k ≤ 24) = false := by simp; omega
    simp only [go_sem, b39, Tryz.f39, hlo, hlo2, k1, q1, q2, q3, q4, q5, q7, q9, q10, q11, q12, p1, p2]
    all_goals rfl
end
end Go.Lift.R4
