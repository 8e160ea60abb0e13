/- The program, evaluated. -/
import Derived.Test.YtnfdhgadidacaaaGreatDoorGPb
import Derived.Test.YtnfdhgadidacaaaGreatDoorGZc
import Derived.Test.YtnfdhgadidacaaaGreatDoorGPc
import Derived.Test.YtnfdhgadidacaaaGreatDoorGPd
section
open Go.Proofs
namespace Go.Lift.R4
set_option linter.unusedSectionVars false
variable [MX]
open Utf Tok Spell
set_option maxRecDepth 20000
set_option linter.unusedSimpArgs false
set_option linter.unusedVariables false
theorem numText_ok {b w : Bool} {m : Int} {p : Nat} {t : List Int} (m0 : 0 ≤ m) (m1 : m ≤ 9223372036854775808) (hp : p ≤ 64) (h : numText b w m p = some t) : By t ∧ t.length ≤ 200 := by
 obtain ⟨g1, g2⟩ := dgt_len 19 m m0 (by
                     have : (10 : Int) ^ (19 + 1) = 100000000000000000000 := by decide
                     omega)
 have h2 : t = (if b = true then [45] else []) ++ (((List.replicate (p + 1 - (dgt m).length) 48 ++ dgt m).take ((List.replicate (p + 1 - (dgt m).length) 48 ++ dgt m).length - p) ++ (if w = true then [] else 46 :: ((List.replicate (p + 1 - (dgt m).length) 48 ++ dgt m).drop ((List.replicate (p + 1 - (dgt m).length) 48 ++ dgt m).length - p) ++ if p = 0 then [48] else [])))) := by
  unfold numText at h
  split at h
  ·cases h
  ·exact (Option.some.inj h).symm
 have hT : By (List.replicate (p + 1 - (dgt m).length) 48 ++ dgt m) := by
  refine by_app (fun c hc => ?_) (dgt_by m)
  have := List.eq_of_mem_replicate hc
  omega
 have hTl : (List.replicate (p + 1 - (dgt m).length) (48 : Int) ++ dgt m).length ≤ 90 := by simp; omega
 generalize List.replicate (p + 1 - (dgt m).length) (48 : Int) ++ dgt m = T at *
 subst h2
 constructor
 ·refine by_app ?_ (by_app (fun c hc => hT c (List.mem_of_mem_take hc)) ?_)
  ·split
   ·exact by_cons (by omega) (by omega) by_nil
   ·exact by_nil
  ·split
   ·exact by_nil
   ·refine by_cons (by omega) (by omega) (by_app (fun c hc => hT c (List.mem_of_mem_drop hc)) ?_)
    split
    ·exact by_cons (by omega) (by omega) by_nil
    ·exact by_nil
 ·have a1 : (if b = true then [(45 : Int)] else []).length ≤ 1 := by split <;> simp
  have a2 : (if w = true then [] else 46 :: (T.drop (T.length - p) ++ if p = 0 then [(48 : Int)] else [])).length ≤ 95 := by
   split
   ·simp
   ·have a3 : (if p = 0 then [(48 : Int)] else []).length ≤ 1 := by split <;> simp
    simp only [List.length_cons, List.length_append, List.length_drop]
    omega
  simp only [List.length_append, List.length_take]
  omega
theorem plainT_ok {n d : Int} {w : Bool} (h0 : -9223372036854775808 ≤ n) (h1 : n ≤ 9223372036854775807) (h2 : -9223372036854775808 ≤ d) (h3 : d ≤ 9223372036854775807) : By ((plainT n d w).getD []) ∧ ((plainT n d w).getD []).length ≤ 200 := by
 cases ht : plainT n d w with
 | none => exact ⟨by_nil, by simp⟩
 | some t =>
  simp only [Option.getD_some]
  unfold plainT at ht
  split at ht
  ·cases ht
  ·rename_i hc
   split at ht
   ·cases ht
    split
    ·refine ⟨fun c hc => ?_, by simp⟩
     have := List.eq_of_mem_replicate hc
     omega
    ·exact ⟨by_cons (by omega) (by omega) (by_cons (by omega) (by omega) (by_cons (by omega) (by omega) (by_cons (by omega) (by omega) by_nil))), by simp⟩
   ·rename_i hd
    have hm : mayR n d = true := by
     cases q : mayR n d with
     | true => rfl
     | false => rw [q] at hc; simp at hc
    have h1d := may_pos hm hd
    split at ht
    ·cases ht
    ·rename_i m p hp
     obtain ⟨m0, m1, p1⟩ := progN_le (by omega) (by omega) h1d h3 hp
     exact numText_ok m0 m1 p1 ht
end Go.Lift.R4
end

section
open Go.Proofs
namespace Go.Lift.R4
set_option linter.unusedSectionVars false
variable [MX]
open Utf Tok Spell
set_option maxRecDepth 20000
set_option maxHeartbeats 4000000
set_option linter.unusedSimpArgs false
set_option linter.unusedVariables false
def Z4 (n d : Int) (w i : Bool) : Bool := n == 0 && (d == 0 && (w == false && i == false))
section
variable {lo : Nat} {h : Heap} {k n d : Int} {b : List Int} {w i : Bool}
theorem z_eq : ((⟨#[]⟩ : ByteArray).toList == ByteArray.empty.toList) = true := (bs_nil_eq []).trans (by simp)
theorem i_eq : ((0 : Int) == 0) = true := rfl
theorem ne_empty (hb : b ≠ []) : b.isEmpty = false := by cases b with
 | nil => exact absurd rfl hb
 | cons c t => rfl
theorem m23a (hlo : lo ≤ h.length) (hy : By b) (hl : b.length ≤ 1000000000) (hk : k = 1 ∨ k = 2 ∨ k = 3) :
  E lo 23 [.agg (tokV k b n d w i)] h = some (.v (.bool (!b.isEmpty && sound b && Z4 n d w i)), h) := by
 have hlo2 : lo ≤ h.length + 1 := by omega
 have k1 := fun lo h => f51 (lo := lo) (h := h) hy hl
 have t1 := bs_nil_eq' b
 have e : eqCells [1, 2, 1, 1, 0, 0] [.v (.int .i64 0), .v (.string ⟨#[]⟩), .v (.int .i64 n), .v (.int .i64 d), .v (.bool w), .v (.bool i)] [.v (.int .i64 0), .v (.string ByteArray.empty), .v (.int .i64 0), .v (.int .i64 0), .v (.bool false), .v (.bool false)] = some (Z4 n d w i) := by
  rw [eq_tok, z_eq, i_eq]; rfl
 rw [e23 (by simp) (by rfl)]
 unfold tokV
 by_cases hb : b = []
 ·rw [decide_eq_true hb] at t1
  have eb : b.isEmpty = true := by simp [hb]
  rw [eb]
  rcases hk with rfl | rfl | rfl <;> simp only [go_sem, b23, Tryz.f23, Int.reduceBEq, hlo, hlo2, t1] <;> rfl
 ·rw [decide_eq_false hb] at t1
  rw [ne_empty hb]
  cases qs : sound b with
  | true =>
   rw [qs] at k1
   rcases hk with rfl | rfl | rfl <;> simp only [go_sem, b23, Tryz.f23, Int.reduceBEq, hlo, hlo2, t1, k1, fl34, e] <;> rfl
  | false =>
   rw [qs] at k1
   rcases hk with rfl | rfl | rfl <;> simp only [go_sem, b23, Tryz.f23, Int.reduceBEq, hlo, hlo2, t1, k1] <;> rfl
theorem m23b (hlo : lo ≤ h.length) (hy : By b) (hl : b.length ≤ 1000000000) :
  E lo 23 [.agg (tokV 4 b n d w i)] h = some (.v (.bool (!b.isEmpty && sound b && (i || looseT b) && Z4 n d w false)), h) := by
 have hlo2 : lo ≤ h.length + 1 := by omega
 have k1 := fun lo h => f51 (lo := lo) (h := h) hy hl
 have k2 := fun lo h => f52 (lo := lo) (h := h) hy hl
 have t1 := bs_nil_eq' b
 have e : eqCells [1, 2, 1, 1, 0, 0] [.v (.int .i64 0), .v (.string ⟨#[]⟩), .v (.int .i64 n), .v (.int .i64 d), .v (.bool w), .v (.bool false)] [.v (.int .i64 0), .v (.string ByteArray.empty), .v (.int .i64 0), .v (.int .i64 0), .v (.bool false), .v (.bool false)] = some (Z4 n d w false) := by
  rw [eq_tok, z_eq, i_eq]; rfl
 rw [e23 (by simp) (by rfl)]
 unfold tokV
 by_cases hb : b = []
 ·rw [decide_eq_true hb] at t1
  have eb : b.isEmpty = true := by simp [hb]
  rw [eb]
  simp only [go_sem, b23, Tryz.f23, Int.reduceBEq, hlo, hlo2, t1]
  all_goals rfl
 ·rw [decide_eq_false hb] at t1
  rw [ne_empty hb]
  cases qs : sound b with
  | true =>
   rw [qs] at k1
   cases i with
   | true =>
    simp only [go_sem, b23, Tryz.f23, Int.reduceBEq, hlo, hlo2, t1, k1, fl34, e]
    all_goals rfl
   | false =>
    cases ql : looseT b with
    | true =>
     rw [ql] at k2
     simp only [go_sem, b23, Tryz.f23, Int.reduceBEq, hlo, hlo2, t1, k1, k2, fl34, e]
     all_goals rfl
    | false =>
     rw [ql] at k2
     simp only [go_sem, b23, Tryz.f23, Int.reduceBEq, hlo, hlo2, t1, k1, k2]
     all_goals rfl
  | false =>
   rw [qs] at k1
   simp only [go_sem, b23, Tryz.f23, Int.reduceBEq, hlo, hlo2, t1, k1]
   all_goals rfl
theorem m23c (hlo : lo ≤ h.length) (hy : By b) (hl : b.length ≤ 1000000000) (hk : k = 5 ∨ k = 7) :
  E lo 23 [.agg (tokV k b n d w i)] h = some (.v (.bool (sound b && Z4 n d w i)), h) := by
 have hlo2 : lo ≤ h.length + 1 := by omega
 have k1 := fun lo h => f51 (lo := lo) (h := h) hy hl
 have e : eqCells [1, 2, 1, 1, 0, 0] [.v (.int .i64 0), .v (.string ⟨#[]⟩), .v (.int .i64 n), .v (.int .i64 d), .v (.bool w), .v (.bool i)] [.v (.int .i64 0), .v (.string ByteArray.empty), .v (.int .i64 0), .v (.int .i64 0), .v (.bool false), .v (.bool false)] = some (Z4 n d w i) := by
  rw [eq_tok, z_eq, i_eq]; rfl
 rw [e23 (by simp) (by rfl)]
 unfold tokV
 cases qs : sound b with
 | true =>
  rw [qs] at k1
  rcases hk with rfl | rfl <;> simp only [go_sem, b23, Tryz.f23, Int.reduceBEq, hlo, hlo2, k1, fl34, e] <;> rfl
 | false =>
  rw [qs] at k1
  rcases hk with rfl | rfl <;> simp only [go_sem, b23, Tryz.f23, Int.reduceBEq, hlo, hlo2, k1] <;> rfl
theorem m23d (hlo : lo ≤ h.length) (hy : By b) (hl : b.length ≤ 1000000000) :
  E lo 23 [.agg (tokV 9 b n d w i)] h = some (.v (.bool (signT b && Z4 n d w i)), h) := by
 have hlo2 : lo ≤ h.length + 1 := by omega
 have k1 := fun lo h => f53 (lo := lo) (h := h) hy hl
 have e : eqCells [1, 2, 1, 1, 0, 0] [.v (.int .i64 0), .v (.string ⟨#[]⟩), .v (.int .i64 n), .v (.int .i64 d), .v (.bool w), .v (.bool i)] [.v (.int .i64 0), .v (.string ByteArray.empty), .v (.int .i64 0), .v (.int .i64 0), .v (.bool false), .v (.bool false)] = some (Z4 n d w i) := by
  rw [eq_tok, z_eq, i_eq]; rfl
 rw [e23 (by simp) (by rfl)]
 unfold tokV
 cases qs : signT b with
 | true =>
  rw [qs] at k1
  simp only [go_sem, b23, Tryz.f23, Int.reduceBEq, hlo, hlo2, k1, fl34, e]
  all_goals rfl
 | false =>
  rw [qs] at k1
  simp only [go_sem, b23, Tryz.f23, Int.reduceBEq, hlo, hlo2, k1]
  all_goals rfl
theorem m23e (hlo : lo ≤ h.length) (hy : By b) (hl : b.length ≤ 1000000000) (h0 : -9223372036854775808 ≤ n) (h1 : n ≤ 9223372036854775807) (h2 : -9223372036854775808 ≤ d) (h3 : d ≤ 9223372036854775807) :
  E lo 23 [.agg (tokV 12 b n d w i)] h = some (.v (.bool (!b.isEmpty && sound b && (plainT n d w).isSome && (i == false))), h) := by
 have hlo2 : lo ≤ h.length + 1 := by omega
 have hlo3 : ∀ x y : Ob, lo ≤ (h ++ [x, y]).length := fun x y => by simp; omega
 have k1 := fun lo h => f51 (lo := lo) (h := h) hy hl
 have k2 := fun (lo : Nat) (h : Heap) (hlo : lo ≤ h.length) => f54 (lo := lo) (h := h) hlo (k := 12) (b := b) (n := n) (d := d) (w := w) (i := i) h0 h1 h2 h3
 have k2 := k2 lo (h ++ [.cells (tokV 12 b n d w i), .cells (tokV 0 b n d w i)]) (hlo3 _ _)
 have t1 := bs_nil_eq' b
 have e : eqCells [1, 2, 1, 1, 0, 0] [.v (.int .i64 0), .v (.string ⟨#[]⟩), .v (.int .i64 0), .v (.int .i64 0), .v (.bool false), .v (.bool i)] [.v (.int .i64 0), .v (.string ByteArray.empty), .v (.int .i64 0), .v (.int .i64 0), .v (.bool false), .v (.bool false)] = some (i == false) := by
  rw [eq_tok, z_eq, i_eq]; simp
 rw [e23 (by simp) (by rfl)]
 unfold tokV at *
 by_cases hb : b = []
 ·rw [decide_eq_true hb] at t1
  have eb : b.isEmpty = true := by simp [hb]
  rw [eb]
  simp only [go_sem, b23, Tryz.f23, Int.reduceBEq, hlo, hlo2, t1]
  all_goals rfl
 ·rw [decide_eq_false hb] at t1
  rw [ne_empty hb]
  cases qs : sound b with
  | true =>
   rw [qs] at k1
   cases qp : (plainT n d w).isSome with
   | true =>
    rw [qp] at k2
    simp only [go_sem, b23, Tryz.f23, Int.reduceBEq, hlo, hlo2, t1, k1, k2, fl34, e]
    all_goals rfl
   | false =>
    rw [qp] at k2
    simp only [go_sem, b23, Tryz.f23, Int.reduceBEq, hlo, hlo2, t1, k1, k2]
    all_goals rfl
  | false =>
   rw [qs] at k1
   simp only [go_sem, b23, Tryz.f23, Int.reduceBEq, hlo, hlo2, t1, k1]
   all_goals rfl
theorem m23f (hlo : lo ≤ h.length) (hk : k = 10 ∨ k = 11) (h0 : -9223372036854775808 ≤ n) (h1 : n ≤ 9223372036854775807) (h2 : -9223372036854775808 ≤ d) (h3 : d ≤ 9223372036854775807) :
  E lo 23 [.agg (tokV k b n d w i)] h = some (.v (.bool ((plainT n d w).isSome && (b.isEmpty && (i == false)))), h) := by
 have hlo2 : lo ≤ h.length + 1 := by omega
 have hlo3 : ∀ x y : Ob, lo ≤ (h ++ [x, y]).length := fun x y => by simp; omega
 have k2 := fun (lo : Nat) (h : Heap) (hlo : lo ≤ h.length) => f54 (lo := lo) (h := h) hlo (k := k) (b := b) (n := n) (d := d) (w := w) (i := i) h0 h1 h2 h3
 have k2 := k2 lo (h ++ [.cells (tokV k b n d w i), .cells (tokV 0 b n d w i)]) (hlo3 _ _)
 have t1 := bs_nil_eq b
 have eb : decide (b = []) = b.isEmpty := by cases b <;> simp
 have e : eqCells [1, 2, 1, 1, 0, 0] [.v (.int .i64 0), .v (.string (bs b)), .v (.int .i64 0), .v (.int .i64 0), .v (.bool false), .v (.bool i)] [.v (.int .i64 0), .v (.string ByteArray.empty), .v (.int .i64 0), .v (.int .i64 0), .v (.bool false), .v (.bool false)] = some (b.isEmpty && (i == false)) := by
  rw [eq_tok, i_eq, t1, eb]; simp
 rw [e23 (by simp) (by rfl)]
 unfold tokV at *
 cases qp : (plainT n d w).isSome with
 | true =>
  rw [qp] at k2
  rcases hk with rfl | rfl <;> simp only [go_sem, b23, Tryz.f23, Int.reduceBEq, hlo, hlo2, k2, fl34, e] <;> rfl
 | false =>
  rw [qp] at k2
  rcases hk with rfl | rfl <;> simp only [go_sem, b23, Tryz.f23, Int.reduceBEq, hlo, hlo2, k2] <;> rfl
theorem m23g (hlo : lo ≤ h.length) (hk : k = 6 ∨ k = 8 ∨ k = 13 ∨ k = 14 ∨ k = 15 ∨ k = 16 ∨ k = 17 ∨ k = 18 ∨ k = 19 ∨ k = 20 ∨ k = 21 ∨ k = 22 ∨ k = 23 ∨ k = 24) :
  E lo 23 [.agg (tokV k b n d w i)] h = some (.v (.bool (b.isEmpty && Z4 n d w i)), h) := by
 have hlo2 : lo ≤ h.length + 1 := by omega
 have t1 := bs_nil_eq b
 have eb : decide (b = []) = b.isEmpty := by cases b <;> simp
 have e : eqCells [1, 2, 1, 1, 0, 0] [.v (.int .i64 0), .v (.string (bs b)), .v (.int .i64 n), .v (.int .i64 d), .v (.bool w), .v (.bool i)] [.v (.int .i64 0), .v (.string ByteArray.empty), .v (.int .i64 0), .v (.int .i64 0), .v (.bool false), .v (.bool false)] = some (b.isEmpty && Z4 n d w i) := by
  rw [eq_tok, i_eq, t1, eb]; rfl
 rw [e23 (by simp) (by rfl)]
 unfold tokV
 rcases hk with rfl | rfl | rfl | rfl | rfl | rfl | rfl | rfl | rfl | rfl | rfl | rfl | rfl | rfl <;> simp only [go_sem, b23, Tryz.f23, Int.reduceBEq, hlo, hlo2, fl34, e] <;> rfl
theorem m23h (hlo : lo ≤ h.length) (hk : k < 1 ∨ 24 < k) : E lo 23 [.agg (tokV k b n d w i)] h = some (.v (.bool false), h) := by
 have hlo2 : lo ≤ h.length + 1 := by omega
 have q : ∀ x : Int, 1 ≤ x → x ≤ 24 → (k == x) = false := fun x h1 h2 => by simp; omega
 have q1 := q 1 (by omega) (by omega); have q2 := q 2 (by omega) (by omega); have q3 := q 3 (by omega) (by omega); have q4 := q 4 (by omega) (by omega); have q5 := q 5 (by omega) (by omega); have q6 := q 6 (by omega) (by omega)
 have q7 := q 7 (by omega) (by omega); have q8 := q 8 (by omega) (by omega); have q9 := q 9 (by omega) (by omega); have q10 := q 10 (by omega) (by omega); have q11 := q 11 (by omega) (by omega); have q12 := q 12 (by omega) (by omega)
 have q13 := q 13 (by omega) (by omega); have q14 := q 14 (by omega) (by omega); have q15 := q 15 (by omega) (by omega); have q16 := q 16 (by omega) (by omega); have q17 := q 17 (by omega) (by omega); have q18 := q 18 (by omega) (by omega)
 have q19 := q 19 (by omega) (by omega); have q20 := q 20 (by omega) (by omega); have q21 := q 21 (by omega) (by omega); have q22 := q 22 (by omega) (by omega); have q23 := q 23 (by omega) (by omega); have q24 := q 24 (by omega) (by omega)
 rw [e23 (by simp) (by rfl)]
 unfold tokV
 simp only [go_sem, b23, Tryz.f23, hlo, hlo2, q1, q2, q3, q4, q5, q6, q7, q8, q9, q10, q11, q12, q13, q14, q15, q16, q17, q18, q19, q20, q21, q22, q23, q24]
 all_goals rfl
end
end Go.Lift.R4
end

section
open Go.Proofs
namespace Go.Lift.R4
set_option linter.unusedSectionVars false
variable [MX]
open Utf Tok Spell
set_option maxRecDepth 20000
set_option maxHeartbeats 4000000
set_option linter.unusedSimpArgs false
set_option linter.unusedVariables false
section
variable {lo : Nat} {h : Heap} {k n d : Int} {b : List Int} {w i : Bool}
theorem s_eq (s : ByteArray) : (s.toList == s.toList) = true := by simp
end
end Go.Lift.R4
end

section
open Go.Proofs
namespace Go.Lift.R4
set_option linter.unusedSectionVars false
variable [MX]
open Utf Tok Spell
set_option maxRecDepth 20000
set_option maxHeartbeats 4000000
set_option linter.unusedSimpArgs false
set_option linter.unusedVariables false
section
variable {lo : Nat} {h : Heap} {k n d : Int} {b : List Int} {w i : Bool}
theorem kinds (k : Int) : (k = 1 ∨ k = 2 ∨ k = 3) ∨ k = 4 ∨ (k = 5 ∨ k = 7) ∨ k = 9 ∨ k = 12 ∨ (k = 10 ∨ k = 11) ∨
  (k = 6 ∨ k = 8 ∨ k = 13 ∨ k = 14 ∨ k = 15 ∨ k = 16 ∨ k = 17 ∨ k = 18 ∨ k = 19 ∨ k = 20 ∨ k = 21 ∨ k = 22 ∨ k = 23 ∨ k = 24) ∨ (k < 1 ∨ 24 < k) := by omega
def mayV (k : Int) (b : List Int) (n d : Int) (w i : Bool) : Bool :=
 if k = 1 ∨ k = 2 ∨ k = 3 then !b.isEmpty && sound b && Z4 n d w i
 else if k = 4 then !b.isEmpty && sound b && (i || looseT b) && Z4 n d w false
 else if k = 5 ∨ k = 7 then sound b && Z4 n d w i
 else if k = 9 then signT b && Z4 n d w i
 else if k = 12 then !b.isEmpty && sound b && (plainT n d w).isSome && (i == false)
 else if k = 10 ∨ k = 11 then (plainT n d w).isSome && (b.isEmpty && (i == false))
 else if 1 ≤ k ∧ k ≤ 24 then b.isEmpty && Z4 n d w i else false
theorem f23 (hlo : lo ≤ h.length) (hy : By b) (hl : b.length ≤ 1000000000) (h0 : -9223372036854775808 ≤ n) (h1 : n ≤ 9223372036854775807) (h2 : -9223372036854775808 ≤ d) (h3 : d ≤ 9223372036854775807) :
  E lo 23 [.agg (tokV k b n d w i)] h = some (.v (.bool (mayV k b n d w i)), h) := by
 unfold mayV
 rcases kinds k with hk | hk | hk | hk | hk | hk | hk | hk
 ·rw [if_pos hk]; exact m23a hlo hy hl hk
 ·subst hk; exact m23b hlo hy hl
 ·rw [if_neg (by omega), if_neg (by omega), if_pos hk]; exact m23c hlo hy hl hk
 ·subst hk; exact m23d hlo hy hl
 ·subst hk; exact m23e hlo hy hl h0 h1 h2 h3
 ·rw [if_neg (by omega), if_neg (by omega), if_neg (by omega), if_neg (by omega), if_neg (by omega), if_pos hk]; exact m23f hlo hk h0 h1 h2 h3
 ·rw [if_neg (by omega), if_neg (by omega), if_neg (by omega), if_neg (by omega), if_neg (by omega), if_neg (by omega), if_pos (by omega)]; exact m23g hlo hk
 ·rw [if_neg (by omega), if_neg (by omega), if_neg (by omega), if_neg (by omega), if_neg (by omega), if_neg (by omega), if_neg (by omega)]; exact m23h hlo hk
end
end Go.Lift.R4
end

section
open Go.Proofs
namespace Go.Lift.R4
set_option linter.unusedSectionVars false
variable [MX]
open Utf Tok Spell
set_option maxRecDepth 20000
set_option maxHeartbeats 4000000
set_option linter.unusedSimpArgs false
set_option linter.unusedVariables false
section
variable {lo : Nat} {h : Heap} {k n d : Int} {b : List Int} {w i : Bool}
theorem bs_40 : (⟨#[40]⟩ : ByteArray) = bs [40] := rfl
theorem bs_64 : (⟨#[64]⟩ : ByteArray) = bs [64] := rfl
theorem bs_35 : (⟨#[35]⟩ : ByteArray) = bs [35] := rfl
theorem bs_37 : (⟨#[37]⟩ : ByteArray) = bs [37] := rfl
theorem bs_g5 : (⟨#[34, 92]⟩ : ByteArray) = bs sg5 := rfl
theorem bs_g7 : (⟨#[34, 39, 40, 41, 92]⟩ : ByteArray) = bs sg7 := rfl
theorem bs_9210 : (⟨#[92, 10]⟩ : ByteArray) = bs [92, 10] := rfl
theorem by_92 : By [92] := fun x hx => by simp at hx; omega
theorem sg5_lo : ∀ c ∈ sg5, 0 ≤ c ∧ c < 128 := by decide
theorem sg7_lo : ∀ c ∈ sg7, 0 ≤ c ∧ c < 128 := by decide
def okV (t : List Int) : V := .tup [.v (.string (bs t)), .v (.int .i64 0)]
def errV : V := .tup [.v (.string (bs [])), .v (.int .i64 1)]
def tokR (k : Int) (b : List Int) (n d : Int) (w i : Bool) : V := if mayV k b n d w i = true then okV (tokenT k b n d w i) else errV
theorem sound_chars (hy : By b) (hs : sound b = true) : ∃ L, b = encs L ∧ raw b = L ∧ (∀ x ∈ L, scal x = x) ∧ L.contains 0 = false ∧ L.length ≤ b.length := by
 have h2 := hs
 unfold sound at h2
 rw [Bool.and_eq_true] at h2
 refine ⟨raw b, (encs_raw b hy h2.1).symm, rfl, raw_scal b hy, ?_, raw_len b⟩
 rw [zero_raw hy h2.1]
 simpa using h2.2
theorem may_sound (h : mayV k b n d w i = true) (hk : k = 1 ∨ k = 2 ∨ k = 3 ∨ k = 4 ∨ k = 5 ∨ k = 7 ∨ k = 12) : sound b = true := by
 unfold mayV at h
 rcases hk with rfl | rfl | rfl | rfl | rfl | rfl | rfl <;> simp at h <;> simp [h]
theorem may_ne (h : mayV k b n d w i = true) (hk : k = 1 ∨ k = 2 ∨ k = 3 ∨ k = 4 ∨ k = 12) : b ≠ [] := by
 unfold mayV at h
 rcases hk with rfl | rfl | rfl | rfl | rfl <;> simp at h <;> simp [h]
theorem may_plain (h : mayV k b n d w i = true) (hk : k = 10 ∨ k = 11 ∨ k = 12) : ∃ t, plainT n d w = some t := by
 unfold mayV at h
 have : (plainT n d w).isSome = true := by rcases hk with rfl | rfl | rfl <;> simp at h <;> simp [h]
 exact Option.isSome_iff_exists.1 this
theorem may_kind (h : mayV k b n d w i = true) : 1 ≤ k ∧ k ≤ 24 := by
 unfold mayV at h
 rcases kinds k with hk | hk | hk | hk | hk | hk | hk | hk
 all_goals first
  | omega
  | (
    exfalso
    rw [if_neg (by omega), if_neg (by omega), if_neg (by omega), if_neg (by omega), if_neg (by omega), if_neg (by omega), if_neg (by omega)] at h
    cases h)
theorem perr (hlo : lo ≤ h.length) (hy : By b) (hl : b.length ≤ 10000000) (h0 : -9223372036854775808 ≤ n) (h1 : n ≤ 9223372036854775807) (h2 : -9223372036854775808 ≤ d) (h3 : d ≤ 9223372036854775807) (hm : mayV k b n d w i = false) :
  E lo 17 [.agg (tokV k b n d w i)] h = some (errV, h) := by
 have hl1 : lo ≤ (h ++ [Ob.cells (tokV k b n d w i)]).length := by simp; omega
 have hl2 : h.length ≤ (h ++ [Ob.cells (tokV k b n d w i)]).length := by simp
 have hl3 : h.length + 1 ≤ (h ++ [Ob.cells (tokV k b n d w i)]).length := by simp
 have km := fun lo hlo => f23 (lo := lo) (h := h ++ [Ob.cells (tokV k b n d w i)]) (k := k) (b := b) (n := n) (d := d) (w := w) (i := i) hlo hy (by omega) h0 h1 h2 h3
 rw [hm] at km
 have kma := km lo hl1; have kmb := km h.length hl2; have kmc := km (h.length + 1) hl3
 rw [e17 (by simp) (by rfl)]
 unfold tokV at *
 simp only [go_sem, b17, Tryz.f17, hlo, kma, kmb, kmc]
 all_goals rfl
theorem p1 (hlo : lo ≤ h.length) {L : List Int} (hs : ∀ x ∈ L, scal x = x) (hz : L.contains 0 = false) (hl : L.length ≤ 10000000) (hb : (encs L).length ≤ 10000000) (h0 : -9223372036854775808 ≤ n) (h1 : n ≤ 9223372036854775807) (h2 : -9223372036854775808 ≤ d) (h3 : d ≤ 9223372036854775807) (hm : mayV 1 (encs L) n d w i = true) :
  E lo 17 [.agg (tokV 1 (encs L) n d w i)] h = some (okV (identT L), h) := by
 have hl1 : lo ≤ (h ++ [Ob.cells (tokV 1 (encs L) n d w i)]).length := by simp; omega
 have hl2 : h.length ≤ (h ++ [Ob.cells (tokV 1 (encs L) n d w i)]).length := by simp
 have hl3 : h.length + 1 ≤ (h ++ [Ob.cells (tokV 1 (encs L) n d w i)]).length := by simp
 have km := fun lo hlo => f23 (lo := lo) (h := h ++ [Ob.cells (tokV 1 (encs L) n d w i)]) (k := 1) (b := (encs L)) (n := n) (d := d) (w := w) (i := i) hlo (encs_by L) (by omega) h0 h1 h2 h3
 rw [hm] at km
 have ki := fun lo hlo => f33 (lo := lo) (h := h ++ [Ob.cells (tokV 1 (encs L) n d w i)]) hlo hs hl
 have kma := km lo hl1; have kmb := km h.length hl2; have kmc := km (h.length + 1) hl3
 have kia := ki lo hl1; have kib := ki h.length hl2; have kic := ki (h.length + 1) hl3
 have hil := identT_len L
 rw [e17 (by simp) (by rfl)]
 unfold tokV at *
 simp only [go_sem, b17, Tryz.f17, Int.reduceBEq, hlo, kma, kmb, kmc, kia, kib, kic]
 all_goals rfl
theorem p2 (hlo : lo ≤ h.length) {L : List Int} (hs : ∀ x ∈ L, scal x = x) (hz : L.contains 0 = false) (hl : L.length ≤ 10000000) (hb : (encs L).length ≤ 10000000) (h0 : -9223372036854775808 ≤ n) (h1 : n ≤ 9223372036854775807) (h2 : -9223372036854775808 ≤ d) (h3 : d ≤ 9223372036854775807) (hm : mayV 2 (encs L) n d w i = true) :
  E lo 17 [.agg (tokV 2 (encs L) n d w i)] h = some (okV (identT L ++ [40]), h) := by
 have hl1 : lo ≤ (h ++ [Ob.cells (tokV 2 (encs L) n d w i)]).length := by simp; omega
 have hl2 : h.length ≤ (h ++ [Ob.cells (tokV 2 (encs L) n d w i)]).length := by simp
 have hl3 : h.length + 1 ≤ (h ++ [Ob.cells (tokV 2 (encs L) n d w i)]).length := by simp
 have km := fun lo hlo => f23 (lo := lo) (h := h ++ [Ob.cells (tokV 2 (encs L) n d w i)]) (k := 2) (b := (encs L)) (n := n) (d := d) (w := w) (i := i) hlo (encs_by L) (by omega) h0 h1 h2 h3
 rw [hm] at km
 have ki := fun lo hlo => f33 (lo := lo) (h := h ++ [Ob.cells (tokV 2 (encs L) n d w i)]) hlo hs hl
 have kma := km lo hl1; have kmb := km h.length hl2; have kmc := km (h.length + 1) hl3
 have kia := ki lo hl1; have kib := ki h.length hl2; have kic := ki (h.length + 1) hl3
 have hil := identT_len L
 have z1 : (bs (identT L)).size + (bs [40]).size ≤ 9223372036854775807 := by rw [bs_size, bs_size]; simp; omega
 rw [e17 (by simp) (by rfl)]
 unfold tokV at *
 simp only [go_sem, b17, Tryz.f17, Int.reduceBEq, hlo, kma, kmb, kmc, kia, kib, kic, bs_40, bs_app, z1]
 all_goals rfl
theorem p3 (hlo : lo ≤ h.length) {L : List Int} (hs : ∀ x ∈ L, scal x = x) (hz : L.contains 0 = false) (hl : L.length ≤ 10000000) (hb : (encs L).length ≤ 10000000) (h0 : -9223372036854775808 ≤ n) (h1 : n ≤ 9223372036854775807) (h2 : -9223372036854775808 ≤ d) (h3 : d ≤ 9223372036854775807) (hm : mayV 3 (encs L) n d w i = true) :
  E lo 17 [.agg (tokV 3 (encs L) n d w i)] h = some (okV (64 :: identT L), h) := by
 have hl1 : lo ≤ (h ++ [Ob.cells (tokV 3 (encs L) n d w i)]).length := by simp; omega
 have hl2 : h.length ≤ (h ++ [Ob.cells (tokV 3 (encs L) n d w i)]).length := by simp
 have hl3 : h.length + 1 ≤ (h ++ [Ob.cells (tokV 3 (encs L) n d w i)]).length := by simp
 have km := fun lo hlo => f23 (lo := lo) (h := h ++ [Ob.cells (tokV 3 (encs L) n d w i)]) (k := 3) (b := (encs L)) (n := n) (d := d) (w := w) (i := i) hlo (encs_by L) (by omega) h0 h1 h2 h3
 rw [hm] at km
 have ki := fun lo hlo => f33 (lo := lo) (h := h ++ [Ob.cells (tokV 3 (encs L) n d w i)]) hlo hs hl
 have kma := km lo hl1; have kmb := km h.length hl2; have kmc := km (h.length + 1) hl3
 have kia := ki lo hl1; have kib := ki h.length hl2; have kic := ki (h.length + 1) hl3
 have hil := identT_len L
 have z1 : (bs [64]).size + (bs (identT L)).size ≤ 9223372036854775807 := by rw [bs_size, bs_size]; simp; omega
 rw [e17 (by simp) (by rfl)]
 unfold tokV at *
 simp only [go_sem, b17, Tryz.f17, Int.reduceBEq, hlo, kma, kmb, kmc, kia, kib, kic, bs_64, bs_app, z1, List.singleton_append]
 all_goals rfl
theorem p4t (hlo : lo ≤ h.length) {L : List Int} (hs : ∀ x ∈ L, scal x = x) (hz : L.contains 0 = false) (hl : L.length ≤ 10000000) (hb : (encs L).length ≤ 10000000) (h0 : -9223372036854775808 ≤ n) (h1 : n ≤ 9223372036854775807) (h2 : -9223372036854775808 ≤ d) (h3 : d ≤ 9223372036854775807) (hm : mayV 4 (encs L) n d w true = true) :
  E lo 17 [.agg (tokV 4 (encs L) n d w true)] h = some (okV (35 :: identT L), h) := by
 have hl1 : lo ≤ (h ++ [Ob.cells (tokV 4 (encs L) n d w true)]).length := by simp; omega
 have hl2 : h.length ≤ (h ++ [Ob.cells (tokV 4 (encs L) n d w true)]).length := by simp
 have hl3 : h.length + 1 ≤ (h ++ [Ob.cells (tokV 4 (encs L) n d w true)]).length := by simp
 have km := fun lo hlo => f23 (lo := lo) (h := h ++ [Ob.cells (tokV 4 (encs L) n d w true)]) (k := 4) (b := (encs L)) (n := n) (d := d) (w := w) (i := true) hlo (encs_by L) (by omega) h0 h1 h2 h3
 rw [hm] at km
 have ki := fun lo hlo => f33 (lo := lo) (h := h ++ [Ob.cells (tokV 4 (encs L) n d w true)]) hlo hs hl
 have kma := km lo hl1; have kmb := km h.length hl2; have kmc := km (h.length + 1) hl3
 have kia := ki lo hl1; have kib := ki h.length hl2; have kic := ki (h.length + 1) hl3
 have hil := identT_len L
 have z1 : (bs [35]).size + (bs (identT L)).size ≤ 9223372036854775807 := by rw [bs_size, bs_size]; simp; omega
 rw [e17 (by simp) (by rfl)]
 unfold tokV at *
 simp only [go_sem, b17, Tryz.f17, Int.reduceBEq, hlo, kma, kmb, kmc, kia, kib, kic, bs_35, bs_app, z1, List.singleton_append]
 all_goals rfl
theorem p4f (hlo : lo ≤ h.length) {L : List Int} (hs : ∀ x ∈ L, scal x = x) (hz : L.contains 0 = false) (hl : L.length ≤ 10000000) (hb : (encs L).length ≤ 10000000) (h0 : -9223372036854775808 ≤ n) (h1 : n ≤ 9223372036854775807) (h2 : -9223372036854775808 ≤ d) (h3 : d ≤ 9223372036854775807) (hm : mayV 4 (encs L) n d w false = true) :
  E lo 17 [.agg (tokV 4 (encs L) n d w false)] h = some (okV (35 :: nameT L), h) := by
 have hl1 : lo ≤ (h ++ [Ob.cells (tokV 4 (encs L) n d w false)]).length := by simp; omega
 have hl2 : h.length ≤ (h ++ [Ob.cells (tokV 4 (encs L) n d w false)]).length := by simp
 have hl3 : h.length + 1 ≤ (h ++ [Ob.cells (tokV 4 (encs L) n d w false)]).length := by simp
 have km := fun lo hlo => f23 (lo := lo) (h := h ++ [Ob.cells (tokV 4 (encs L) n d w false)]) (k := 4) (b := (encs L)) (n := n) (d := d) (w := w) (i := false) hlo (encs_by L) (by omega) h0 h1 h2 h3
 rw [hm] at km
 have ki := fun lo hlo => f34 (lo := lo) (h := h ++ [Ob.cells (tokV 4 (encs L) n d w false)]) hlo hs hl
 have kma := km lo hl1; have kmb := km h.length hl2; have kmc := km (h.length + 1) hl3
 have kia := ki lo hl1; have kib := ki h.length hl2; have kic := ki (h.length + 1) hl3
 have hil := nameT_len L
 have z1 : (bs [35]).size + (bs (nameT L)).size ≤ 9223372036854775807 := by rw [bs_size, bs_size]; simp; omega
 rw [e17 (by simp) (by rfl)]
 unfold tokV at *
 simp only [go_sem, b17, Tryz.f17, Int.reduceBEq, hlo, kma, kmb, kmc, kia, kib, kic, bs_35, bs_app, z1, List.singleton_append]
 all_goals rfl
theorem p5 (hlo : lo ≤ h.length) {L : List Int} (hs : ∀ x ∈ L, scal x = x) (hz : L.contains 0 = false) (hl : L.length ≤ 10000000) (hb : (encs L).length ≤ 10000000) (h0 : -9223372036854775808 ≤ n) (h1 : n ≤ 9223372036854775807) (h2 : -9223372036854775808 ≤ d) (h3 : d ≤ 9223372036854775807) (hm : mayV 5 (encs L) n d w i = true) :
  E lo 17 [.agg (tokV 5 (encs L) n d w i)] h = some (okV (34 :: (textT sg5 false L ++ [34])), h) := by
 have hl1 : lo ≤ (h ++ [Ob.cells (tokV 5 (encs L) n d w i)]).length := by simp; omega
 have hl2 : h.length ≤ (h ++ [Ob.cells (tokV 5 (encs L) n d w i)]).length := by simp
 have hl3 : h.length + 1 ≤ (h ++ [Ob.cells (tokV 5 (encs L) n d w i)]).length := by simp
 have km := fun lo hlo => f23 (lo := lo) (h := h ++ [Ob.cells (tokV 5 (encs L) n d w i)]) (k := 5) (b := (encs L)) (n := n) (d := d) (w := w) (i := i) hlo (encs_by L) (by omega) h0 h1 h2 h3
 rw [hm] at km
 have ki := fun lo hlo => f35 (lo := lo) (h := h ++ [Ob.cells (tokV 5 (encs L) n d w i)]) (sg := sg5) (sp := false) hlo sg5_lo (by decide) hs hl
 have kma := km lo hl1; have kmb := km h.length hl2; have kmc := km (h.length + 1) hl3
 have kia := ki lo hl1; have kib := ki h.length hl2; have kic := ki (h.length + 1) hl3
 have hil := textT_len sg5 false L
 have z1 : (bs [34]).size + (bs (textT sg5 false L)).size ≤ 9223372036854775807 := by rw [bs_size, bs_size]; simp; omega
 have z2 : (bs (34 :: textT sg5 false L)).size + (bs [34]).size ≤ 9223372036854775807 := by rw [bs_size, bs_size]; simp; omega
 rw [e17 (by simp) (by rfl)]
 unfold tokV at *
 simp only [go_sem, b17, Tryz.f17, Int.reduceBEq, hlo, kma, kmb, kmc, kia, kib, kic, bs_g5, bs_34, bs_app, z1, z2, List.cons_append, List.nil_append]
 all_goals rfl
theorem p7 (hlo : lo ≤ h.length) {L : List Int} (hs : ∀ x ∈ L, scal x = x) (hz : L.contains 0 = false) (hl : L.length ≤ 10000000) (hb : (encs L).length ≤ 10000000) (h0 : -9223372036854775808 ≤ n) (h1 : n ≤ 9223372036854775807) (h2 : -9223372036854775808 ≤ d) (h3 : d ≤ 9223372036854775807) (hm : mayV 7 (encs L) n d w i = true) :
  E lo 17 [.agg (tokV 7 (encs L) n d w i)] h = some (okV (117 :: 114 :: 108 :: 40 :: (textT sg7 true L ++ [41])), h) := by
 have hl1 : lo ≤ (h ++ [Ob.cells (tokV 7 (encs L) n d w i)]).length := by simp; omega
 have hl2 : h.length ≤ (h ++ [Ob.cells (tokV 7 (encs L) n d w i)]).length := by simp
 have hl3 : h.length + 1 ≤ (h ++ [Ob.cells (tokV 7 (encs L) n d w i)]).length := by simp
 have km := fun lo hlo => f23 (lo := lo) (h := h ++ [Ob.cells (tokV 7 (encs L) n d w i)]) (k := 7) (b := (encs L)) (n := n) (d := d) (w := w) (i := i) hlo (encs_by L) (by omega) h0 h1 h2 h3
 rw [hm] at km
 have ki := fun lo hlo => f35 (lo := lo) (h := h ++ [Ob.cells (tokV 7 (encs L) n d w i)]) (sg := sg7) (sp := true) hlo sg7_lo (by decide) hs hl
 have kma := km lo hl1; have kmb := km h.length hl2; have kmc := km (h.length + 1) hl3
 have kia := ki lo hl1; have kib := ki h.length hl2; have kic := ki (h.length + 1) hl3
 have hil := textT_len sg7 true L
 have z1 : (bs [117, 114, 108, 40]).size + (bs (textT sg7 true L)).size ≤ 9223372036854775807 := by rw [bs_size, bs_size]; simp; omega
 have z2 : (bs (117 :: 114 :: 108 :: 40 :: textT sg7 true L)).size + (bs [41]).size ≤ 9223372036854775807 := by rw [bs_size, bs_size]; simp; omega
 rw [e17 (by simp) (by rfl)]
 unfold tokV at *
 simp only [go_sem, b17, Tryz.f17, Int.reduceBEq, hlo, kma, kmb, kmc, kia, kib, kic, bs_g7, bs_url, bs_41, bs_app, z1, z2, List.cons_append, List.nil_append]
 all_goals rfl
theorem p9 (hlo : lo ≤ h.length) (hy : By b) (hl : b.length ≤ 10000000) (h0 : -9223372036854775808 ≤ n) (h1 : n ≤ 9223372036854775807) (h2 : -9223372036854775808 ≤ d) (h3 : d ≤ 9223372036854775807) (hm : mayV 9 b n d w i = true) :
  E lo 17 [.agg (tokV 9 b n d w i)] h = some (okV (if b = [92] then [92, 10] else b), h) := by
 have hl1 : lo ≤ (h ++ [Ob.cells (tokV 9 b n d w i)]).length := by simp; omega
 have hl2 : h.length ≤ (h ++ [Ob.cells (tokV 9 b n d w i)]).length := by simp
 have hl3 : h.length + 1 ≤ (h ++ [Ob.cells (tokV 9 b n d w i)]).length := by simp
 have km := fun lo hlo => f23 (lo := lo) (h := h ++ [Ob.cells (tokV 9 b n d w i)]) (k := 9) (b := b) (n := n) (d := d) (w := w) (i := i) hlo hy (by omega) h0 h1 h2 h3
 rw [hm] at km
 have kma := km lo hl1; have kmb := km h.length hl2; have kmc := km (h.length + 1) hl3
 have hb := bs_beq hy by_92
 rw [e17 (by simp) (by rfl)]
 unfold tokV at *
 by_cases hc : b = [92]
 ·have q : (b == [92]) = true := by simp [hc]
  rw [q] at hb
  rw [if_pos hc]
  simp only [go_sem, b17, Tryz.f17, Int.reduceBEq, hlo, kma, kmb, kmc, bs_92, hb, bs_9210]
  all_goals rfl
 ·have q : (b == [92]) = false := by simp [hc]
  rw [q] at hb
  rw [if_neg hc]
  simp only [go_sem, b17, Tryz.f17, Int.reduceBEq, hlo, kma, kmb, kmc, bs_92, hb]
  all_goals rfl
theorem p10 (hlo : lo ≤ h.length) (hy : By b) (hl : b.length ≤ 10000000) (h0 : -9223372036854775808 ≤ n) (h1 : n ≤ 9223372036854775807) (h2 : -9223372036854775808 ≤ d) (h3 : d ≤ 9223372036854775807) (hm : mayV 10 b n d w i = true) {t : List Int} (ht : plainT n d w = some t) :
  E lo 17 [.agg (tokV 10 b n d w i)] h = some (okV (t), h) := by
 have hl1 : lo ≤ (h ++ [Ob.cells (tokV 10 b n d w i)]).length := by simp; omega
 have hl2 : h.length ≤ (h ++ [Ob.cells (tokV 10 b n d w i)]).length := by simp
 have hl3 : h.length + 1 ≤ (h ++ [Ob.cells (tokV 10 b n d w i)]).length := by simp
 have km := fun lo hlo => f23 (lo := lo) (h := h ++ [Ob.cells (tokV 10 b n d w i)]) (k := 10) (b := b) (n := n) (d := d) (w := w) (i := i) hlo hy (by omega) h0 h1 h2 h3
 rw [hm] at km
 have kp := fun lo hlo => f36 (lo := lo) (h := h ++ [Ob.cells (tokV 10 b n d w i)]) hlo (n := n) (d := d) (w := w) h0 h1 h2 h3
 have ep : plainV (some t) = .tup [.v (.string (bs t)), .v (.int .i64 0)] := rfl
 rw [ht, ep] at kp
 have kma := km lo hl1; have kmb := km h.length hl2; have kmc := km (h.length + 1) hl3
 have kpa := kp lo hl1; have kpb := kp h.length hl2; have kpc := kp (h.length + 1) hl3
 have hok := (plainT_ok (n := n) (d := d) (w := w) h0 h1 h2 h3).2
 rw [ht] at hok
 simp only [Option.getD_some] at hok
 rw [e17 (by simp) (by rfl)]
 unfold tokV at *
 simp only [go_sem, b17, Tryz.f17, Int.reduceBEq, hlo, kma, kmb, kmc, kpa, kpb, kpc]
 all_goals rfl
theorem p11 (hlo : lo ≤ h.length) (hy : By b) (hl : b.length ≤ 10000000) (h0 : -9223372036854775808 ≤ n) (h1 : n ≤ 9223372036854775807) (h2 : -9223372036854775808 ≤ d) (h3 : d ≤ 9223372036854775807) (hm : mayV 11 b n d w i = true) {t : List Int} (ht : plainT n d w = some t) :
  E lo 17 [.agg (tokV 11 b n d w i)] h = some (okV (t ++ [37]), h) := by
 have hl1 : lo ≤ (h ++ [Ob.cells (tokV 11 b n d w i)]).length := by simp; omega
 have hl2 : h.length ≤ (h ++ [Ob.cells (tokV 11 b n d w i)]).length := by simp
 have hl3 : h.length + 1 ≤ (h ++ [Ob.cells (tokV 11 b n d w i)]).length := by simp
 have km := fun lo hlo => f23 (lo := lo) (h := h ++ [Ob.cells (tokV 11 b n d w i)]) (k := 11) (b := b) (n := n) (d := d) (w := w) (i := i) hlo hy (by omega) h0 h1 h2 h3
 rw [hm] at km
 have kp := fun lo hlo => f36 (lo := lo) (h := h ++ [Ob.cells (tokV 11 b n d w i)]) hlo (n := n) (d := d) (w := w) h0 h1 h2 h3
 have ep : plainV (some t) = .tup [.v (.string (bs t)), .v (.int .i64 0)] := rfl
 rw [ht, ep] at kp
 have kma := km lo hl1; have kmb := km h.length hl2; have kmc := km (h.length + 1) hl3
 have kpa := kp lo hl1; have kpb := kp h.length hl2; have kpc := kp (h.length + 1) hl3
 have hok := (plainT_ok (n := n) (d := d) (w := w) h0 h1 h2 h3).2
 rw [ht] at hok
 simp only [Option.getD_some] at hok
 have z1 : (bs t).size + (bs [37]).size ≤ 9223372036854775807 := by rw [bs_size, bs_size]; simp; omega
 rw [e17 (by simp) (by rfl)]
 unfold tokV at *
 simp only [go_sem, b17, Tryz.f17, Int.reduceBEq, hlo, kma, kmb, kmc, kpa, kpb, kpc, bs_37, bs_app, z1]
 all_goals rfl
theorem p12 (hlo : lo ≤ h.length) {L : List Int} (hs : ∀ x ∈ L, scal x = x) (hz : L.contains 0 = false) (hl : L.length ≤ 10000000) (hb : (encs L).length ≤ 10000000) (h0 : -9223372036854775808 ≤ n) (h1 : n ≤ 9223372036854775807) (h2 : -9223372036854775808 ≤ d) (h3 : d ≤ 9223372036854775807) (hn : L ≠ []) (hm : mayV 12 (encs L) n d w i = true) {t : List Int} (ht : plainT n d w = some t) :
  E lo 17 [.agg (tokV 12 (encs L) n d w i)] h = some (okV (t ++ unitT L), h) := by
 have hl1 : lo ≤ (h ++ [Ob.cells (tokV 12 (encs L) n d w i)]).length := by simp; omega
 have hl2 : h.length ≤ (h ++ [Ob.cells (tokV 12 (encs L) n d w i)]).length := by simp
 have hl3 : h.length + 1 ≤ (h ++ [Ob.cells (tokV 12 (encs L) n d w i)]).length := by simp
 have km := fun lo hlo => f23 (lo := lo) (h := h ++ [Ob.cells (tokV 12 (encs L) n d w i)]) (k := 12) (b := (encs L)) (n := n) (d := d) (w := w) (i := i) hlo (encs_by L) (by omega) h0 h1 h2 h3
 rw [hm] at km
 have kp := fun lo hlo => f36 (lo := lo) (h := h ++ [Ob.cells (tokV 12 (encs L) n d w i)]) hlo (n := n) (d := d) (w := w) h0 h1 h2 h3
 have ep : plainV (some t) = .tup [.v (.string (bs t)), .v (.int .i64 0)] := rfl
 rw [ht, ep] at kp
 have ku := fun lo hlo => f37 (lo := lo) (h := h ++ [Ob.cells (tokV 12 (encs L) n d w i)]) hlo hs hn hl
 have kma := km lo hl1; have kmb := km h.length hl2; have kmc := km (h.length + 1) hl3
 have kpa := kp lo hl1; have kpb := kp h.length hl2; have kpc := kp (h.length + 1) hl3
 have kua := ku lo hl1; have kub := ku h.length hl2; have kuc := ku (h.length + 1) hl3
 have hok := (plainT_ok (n := n) (d := d) (w := w) h0 h1 h2 h3).2
 rw [ht] at hok
 simp only [Option.getD_some] at hok
 have hul := unitT_len L
 have z1 : (bs t).size + (bs (unitT L)).size ≤ 9223372036854775807 := by rw [bs_size, bs_size]; omega
 rw [e17 (by simp) (by rfl)]
 unfold tokV at *
 simp only [go_sem, b17, Tryz.f17, Int.reduceBEq, hlo, kma, kmb, kmc, kpa, kpb, kpc, kua, kub, kuc, bs_app, z1]
 all_goals rfl
theorem pfix (hlo : lo ≤ h.length) (hy : By b) (hl : b.length ≤ 10000000) (h0 : -9223372036854775808 ≤ n) (h1 : n ≤ 9223372036854775807) (h2 : -9223372036854775808 ≤ d) (h3 : d ≤ 9223372036854775807) (hm : mayV k b n d w i = true) (hk : k = 6 ∨ k = 8 ∨ k = 13 ∨ k = 14 ∨ k = 15 ∨ k = 16 ∨ k = 17 ∨ k = 18 ∨ k = 19 ∨ k = 20 ∨ k = 21 ∨ k = 22 ∨ k = 23 ∨ k = 24) :
  E lo 17 [.agg (tokV k b n d w i)] h = some (okV (fixT k), h) := by
 have hl1 : lo ≤ (h ++ [Ob.cells (tokV k b n d w i)]).length := by simp; omega
 have hl2 : h.length ≤ (h ++ [Ob.cells (tokV k b n d w i)]).length := by simp
 have hl3 : h.length + 1 ≤ (h ++ [Ob.cells (tokV k b n d w i)]).length := by simp
 have km := fun lo hlo => f23 (lo := lo) (h := h ++ [Ob.cells (tokV k b n d w i)]) (k := k) (b := b) (n := n) (d := d) (w := w) (i := i) hlo hy (by omega) h0 h1 h2 h3
 rw [hm] at km
 have kf := fun lo hlo => f38 (lo := lo) (h := h ++ [Ob.cells (tokV k b n d w i)]) (k := k) hlo hk
 have kma := km lo hl1; have kmb := km h.length hl2; have kmc := km (h.length + 1) hl3
 have kfa := kf lo hl1; have kfb := kf h.length hl2; have kfc := kf (h.length + 1) hl3
 rw [e17 (by simp) (by rfl)]
 unfold tokV at *
 rcases hk with rfl | rfl | rfl | rfl | rfl | rfl | rfl | rfl | rfl | rfl | rfl | rfl | rfl | rfl <;>
 simp only [go_sem, b17, Tryz.f17, Int.reduceBEq, hlo, kma, kmb, kmc, kfa, kfb, kfc] <;> rfl
theorem f17 (hlo : lo ≤ h.length) (hy : By b) (hl : b.length ≤ 10000000) (h0 : -9223372036854775808 ≤ n) (h1 : n ≤ 9223372036854775807) (h2 : -9223372036854775808 ≤ d) (h3 : d ≤ 9223372036854775807) : E lo 17 [.agg (tokV k b n d w i)] h = some (tokR k b n d w i, h) := by
 unfold tokR
 cases hm : mayV k b n d w i with
 | false => rw [if_neg (by simp)]; exact perr hlo hy hl h0 h1 h2 h3 hm
 | true =>
  rw [if_pos rfl]
  have hk := may_kind hm
  rcases (by omega : (k = 1 ∨ k = 2 ∨ k = 3 ∨ k = 4 ∨ k = 5 ∨ k = 7 ∨ k = 12) ∨ k = 9 ∨ k = 10 ∨ k = 11 ∨ (k = 6 ∨ k = 8 ∨ k = 13 ∨ k = 14 ∨ k = 15 ∨ k = 16 ∨ k = 17 ∨ k = 18 ∨ k = 19 ∨ k = 20 ∨ k = 21 ∨ k = 22 ∨ k = 23 ∨ k = 24)) with hk | rfl | rfl | rfl | hk
  ·obtain ⟨L, rfl, eL, hs, hz, hL⟩ := sound_chars hy (may_sound hm hk)
   have hn : (k = 1 ∨ k = 2 ∨ k = 3 ∨ k = 4 ∨ k = 12) → L ≠ [] := fun h e => may_ne hm h (by rw [e]; rfl)
   rcases hk with rfl | rfl | rfl | rfl | rfl | rfl | rfl
   ·have e : tokenT 1 (encs L) n d w i = identT L := by unfold tokenT; rw [if_pos rfl, eL]
    rw [e]; exact p1 hlo hs hz (by omega) hl h0 h1 h2 h3 hm
   ·have e : tokenT 2 (encs L) n d w i = identT L ++ [40] := by unfold tokenT; rw [if_neg (by decide), if_pos rfl, eL]
    rw [e]; exact p2 hlo hs hz (by omega) hl h0 h1 h2 h3 hm
   ·have e : tokenT 3 (encs L) n d w i = 64 :: identT L := by unfold tokenT; rw [if_neg (by decide), if_neg (by decide), if_pos rfl, eL]
    rw [e]; exact p3 hlo hs hz (by omega) hl h0 h1 h2 h3 hm
   ·have e : tokenT 4 (encs L) n d w i = 35 :: (if i = true then identT L else nameT L) := by unfold tokenT; rw [if_neg (by decide), if_neg (by decide), if_neg (by decide), if_pos rfl, eL]
    rw [e]
    cases i with
    | true => rw [if_pos rfl]; exact p4t hlo hs hz (by omega) hl h0 h1 h2 h3 hm
    | false => rw [if_neg (by simp)]; exact p4f hlo hs hz (by omega) hl h0 h1 h2 h3 hm
   ·have e : tokenT 5 (encs L) n d w i = 34 :: (textT [34, 92] false L ++ [34]) := by unfold tokenT; rw [if_neg (by decide), if_neg (by decide), if_neg (by decide), if_neg (by decide), if_pos rfl, eL]
    rw [e]; exact p5 hlo hs hz (by omega) hl h0 h1 h2 h3 hm
   ·have e : tokenT 7 (encs L) n d w i = 117 :: 114 :: 108 :: 40 :: (textT [34, 39, 40, 41, 92] true L ++ [41]) := by unfold tokenT; rw [if_neg (by decide), if_neg (by decide), if_neg (by decide), if_neg (by decide), if_neg (by decide), if_pos rfl, eL]
    rw [e]; exact p7 hlo hs hz (by omega) hl h0 h1 h2 h3 hm
   ·obtain ⟨t, ht⟩ := may_plain hm (by omega)
    have e : tokenT 12 (encs L) n d w i = t ++ unitT L := by unfold tokenT; rw [if_neg (by decide), if_neg (by decide), if_neg (by decide), if_neg (by decide), if_neg (by decide), if_neg (by decide), if_neg (by decide), if_neg (by decide), if_neg (by decide), if_pos rfl, eL, ht]; rfl
    rw [e]; exact p12 hlo hs hz (by omega) hl h0 h1 h2 h3 (hn (by omega)) hm ht
  ·have e : tokenT 9 b n d w i = if b = [92] then [92, 10] else b := by unfold tokenT; rw [if_neg (by decide), if_neg (by decide), if_neg (by decide), if_neg (by decide), if_neg (by decide), if_neg (by decide), if_pos rfl]
   rw [e]; exact p9 hlo hy hl h0 h1 h2 h3 hm
  ·obtain ⟨t, ht⟩ := may_plain hm (by omega)
   have e : tokenT 10 b n d w i = t := by unfold tokenT; rw [if_neg (by decide), if_neg (by decide), if_neg (by decide), if_neg (by decide), if_neg (by decide), if_neg (by decide), if_neg (by decide), if_pos rfl, ht]; rfl
   rw [e]; exact p10 hlo hy hl h0 h1 h2 h3 hm ht
  ·obtain ⟨t, ht⟩ := may_plain hm (by omega)
   have e : tokenT 11 b n d w i = t ++ [37] := by unfold tokenT; rw [if_neg (by decide), if_neg (by decide), if_neg (by decide), if_neg (by decide), if_neg (by decide), if_neg (by decide), if_neg (by decide), if_neg (by decide), if_pos rfl, ht]; rfl
   rw [e]; exact p11 hlo hy hl h0 h1 h2 h3 hm ht
  ·have e : tokenT k b n d w i = fixT k := by unfold tokenT; rw [if_neg (by omega), if_neg (by omega), if_neg (by omega), if_neg (by omega), if_neg (by omega), if_neg (by omega), if_neg (by omega), if_neg (by omega), if_neg (by omega), if_neg (by omega)]
   rw [e]; exact pfix hlo hy hl h0 h1 h2 h3 hm hk
end
end Go.Lift.R4
end
