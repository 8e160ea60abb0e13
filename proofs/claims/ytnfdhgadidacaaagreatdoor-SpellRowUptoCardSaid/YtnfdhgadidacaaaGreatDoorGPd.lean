/- The program, evaluated. -/
import Derived.Test.YtnfdhgadidacaaaGreatDoorGPa
import Derived.Test.YtnfdhgadidacaaaGreatDoorGPb
import Derived.Test.YtnfdhgadidacaaaGreatDoorGZc
import Derived.Test.YtnfdhgadidacaaaGreatDoorGPc
section
open Go.Proofs
namespace Go.Lift.R4
set_option linter.unusedSectionVars false
variable [MX]
open Utf Tok Spell
set_option maxRecDepth 20000
set_option maxHeartbeats 4000000
set_option linter.unusedSimpArgs false
set_option linter.unusedVariables false
section
variable {lo : Nat} {h : Heap}
theorem f86 {x : Int} : E lo 86 [.v (.int .i32 x)] h = some (.v (.bool (dig x)), h) := by
 unfold dig
 rw [e86 (by simp) (by rfl)]
 cases q : decide (48 ≤ x) with
 | true =>
  simp only [go_sem, b86, Tryz.f86, q]
  all_goals rfl
 | false =>
  simp only [go_sem, b86, Tryz.f86, q]
  all_goals rfl
theorem bs_0 : (⟨#[0]⟩ : ByteArray) = bs [0] := rfl
theorem f51 {l : List Int} (hy : By l) (hl : l.length ≤ 1000000000) : E lo 51 [.v (.string (bs l))] h = some (.v (.bool (sound l)), h) := by
 unfold sound
 have k1 := fun lo h => f109 (lo := lo) (h := h) (b := l) (by omega) hy
 have k2 := fun lo h => f92 (lo := lo) (h := h) hy (c := 0) (by omega) (by omega)
 rw [e51 (by simp) (by rfl)]
 cases q : whole l with
 | true =>
  rw [q] at k1
  simp only [go_sem, b51, Tryz.f51, bytes_bs hy, k1, bs_0, k2]
  all_goals rfl
 | false =>
  rw [q] at k1
  simp only [go_sem, b51, Tryz.f51, bytes_bs hy, k1]
  all_goals rfl
theorem u8s_inj : ∀ {a b : List Int}, By a → By b → u8s a = u8s b → a = b
 | [], [], _, _, _ => rfl
 | [], y :: b, _, _, h => by cases h
 | x :: a, [], _, _, h => by cases h
 | x :: a, y :: b, ha, hb, h => by
  simp only [u8s, List.map_cons, List.cons.injEq] at h
  have hx := ha x (by simp)
  have hy := hb y (by simp)
  have e : x = y := by
   have := congrArg UInt8.toNat h.1
   simp only [UInt8.toNat_ofNat'] at this
   omega
  rw [e, u8s_inj (fun c hc => ha c (by simp [hc])) (fun c hc => hb c (by simp [hc])) h.2]
theorem bs_beq {a b : List Int} (ha : By a) (hb : By b) : ((bs a).toList == (bs b).toList) = (a == b) := by
 rw [bs_list, bs_list, Bool.eq_iff_iff, beq_iff_eq, beq_iff_eq]
 exact ⟨u8s_inj ha hb, fun h => by rw [h]⟩
theorem by_45 : By [45] := fun x hx => by simp at hx; omega
theorem wrap_i32 {x : Int} (h0 : 0 ≤ x) (h1 : x ≤ 255) : IntKind.i32.wrap x = x := by
 simp only [IntKind.wrap, IntKind.signed, IntKind.bits]
 simp
 omega
theorem bs_45' : (⟨#[45]⟩ : ByteArray) = bs [45] := rfl
theorem f52 {l : List Int} (hy : By l) (hl : l.length ≤ 1000000000) : E lo 52 [.v (.string (bs l))] h = some (.v (.bool (looseT l)), h) := by
 rw [e52 (by simp) (by rfl)]
 have hb := bs_beq hy by_45
 have sz := bs_size l
 have t1 := bs_nil_eq' l
 match l, hy with
 | [], hy =>
  have q : decide ((1 : Int) < (0 : Nat)) = false := rfl
  rw [decide_eq_true rfl] at t1
  have hb2 : (([] : List Int) == [45]) = false := rfl
  rw [hb2] at hb
  simp only [go_sem, b52, Tryz.f52, sz, t1, bs_45', hb, q, List.length_nil]
  all_goals rfl
 | [x], hy =>
  have q : decide ((1 : Int) < (1 : Nat)) = false := rfl
  rw [decide_eq_false (by simp)] at t1
  have hx := hy x (by simp)
  have hc : ([x])[0]? = some x := rfl
  have hi := bs_ix hy 0
  rw [hc] at hi
  have w := wrap_i32 hx.1 hx.2
  have hb2 : ([x] == [45]) = (x == 45) := by simp
  rw [hb2] at hb
  have sz1 : (bs [x]).size = 1 := sz
  unfold looseT
  cases qd : dig x with
  | true =>
   have k := fun lo h => f86 (lo := lo) (h := h) (x := x)
   rw [qd] at k
   simp only [go_sem, b52, Tryz.f52, sz1, t1, hi, w, k, q]
   all_goals simp [qd]
  | false =>
   have k := fun lo h => f86 (lo := lo) (h := h) (x := x)
   rw [qd] at k
   cases qx : (x == 45) with
   | true =>
    rw [qx] at hb
    simp only [go_sem, b52, Tryz.f52, sz1, t1, hi, w, k, q, bs_45', hb]
    all_goals simp [qd, qx]
   | false =>
    rw [qx] at hb
    simp only [go_sem, b52, Tryz.f52, sz1, t1, hi, w, k, q, bs_45', hb]
    all_goals simp [qd, qx]
 | x :: y :: u, hy =>
  have q : decide ((1 : Int) < ((x :: y :: u).length : Nat)) = true := by simp; omega
  rw [decide_eq_false (by simp)] at t1
  have hx := hy x (by simp)
  have hy1 := hy y (by simp)
  have hc : (x :: y :: u)[0]? = some x := rfl
  have hc1 : (x :: y :: u)[1]? = some y := rfl
  have hi := bs_ix hy 0
  have hi1 := bs_ix hy 1
  rw [hc] at hi
  rw [hc1] at hi1
  have w := wrap_i32 hx.1 hx.2
  have w1 := wrap_i32 hy1.1 hy1.2
  have hb2 : ((x :: y :: u) == [45]) = false := by simp
  rw [hb2] at hb
  have k := fun lo h => f86 (lo := lo) (h := h) (x := x)
  have k1 := fun lo h => f86 (lo := lo) (h := h) (x := y)
  unfold looseT
  simp only
  generalize x :: y :: u = l at *
  cases qd : dig x with
  | true =>
   rw [qd] at k
   simp only [go_sem, b52, Tryz.f52, sz, t1, hi, w, k, q]
   all_goals simp [qd]
  | false =>
   rw [qd] at k
   cases qx : (x == 45) with
   | true =>
    simp only [go_sem, b52, Tryz.f52, sz, t1, hi, hi1, w, w1, k, k1, q, qx, bs_45', hb]
    all_goals simp [qd, qx]
   | false =>
    simp only [go_sem, b52, Tryz.f52, sz, t1, hi, hi1, w, w1, k, k1, q, qx, bs_45', hb]
    all_goals simp [qd, qx]
end
end Go.Lift.R4
end

section
open Go.Proofs
namespace Go.Lift.R4
set_option linter.unusedSectionVars false
variable [MX]
open Utf Tok Spell
set_option maxRecDepth 20000
set_option maxHeartbeats 4000000
set_option linter.unusedSimpArgs false
set_option linter.unusedVariables false
section
variable {lo : Nat} {h : Heap}
theorem bs_signs : (⟨#[35, 36, 37, 38, 42, 43, 45, 46, 47, 60, 61, 62, 63, 64, 92, 94, 96, 124, 126, 33]⟩ : ByteArray) = bs signs := rfl
theorem by_signs : By signs := by decide
def ctl (c : Int) : Bool := decide (1 ≤ c) && decide (c ≤ 8) || c == 11 || decide (14 ≤ c) && decide (c ≤ 31) || c == 127
theorem ctl_cases (c : Int) : (decide (1 ≤ c) = true ∧ decide (c ≤ 8) = true) ∨ c = 11 ∨ (c = 9 ∨ c = 10 ∨ c = 12 ∨ c = 13) ∨ (decide (1 ≤ c) = true ∧ decide (c ≤ 8) = false ∧ (c == 11) = false ∧ decide (14 ≤ c) = true) ∨
  (decide (1 ≤ c) = false ∧ (c == 11) = false ∧ decide (14 ≤ c) = false ∧ (c == 127) = false) := by
 simp
 omega
theorem f53 {l : List Int} (hy : By l) (hl : l.length ≤ 1000000000) : E lo 53 [.v (.string (bs l))] h = some (.v (.bool (signT l)), h) := by
 rw [e53 (by simp) (by rfl)]
 match l, hy with
 | [], hy =>
  have sz : (bs []).size = 0 := rfl
  have q : ((0 : Int) != 1) = true := rfl
  have n0 : ((0 : Nat) : Int) = 0 := rfl
  simp only [go_sem, b53, Tryz.f53, sz, n0, q]
  all_goals rfl
 | x :: y :: u, hy =>
  have sz := bs_size (x :: y :: u)
  have q : (((x :: y :: u).length : Int) != 1) = true := by simp; omega
  rw [← sz] at q
  have e : signT (x :: y :: u) = false := rfl
  rw [e]
  generalize bs (x :: y :: u) = s at *
  simp only [go_sem, b53, Tryz.f53, q]
  all_goals rfl
 | [c], hy =>
  have sz : (bs [c]).size = 1 := bs_size [c]
  have q : ((1 : Int) != 1) = false := rfl
  have n1 : ((1 : Nat) : Int) = 1 := rfl
  have hx := hy c (by simp)
  have hc : ([c])[0]? = some c := rfl
  have hi := bs_ix hy 0
  rw [hc] at hi
  have k := fun lo h => f92 (lo := lo) (h := h) by_signs hx.1 hx.2
  have e : signT [c] = (signs.contains c || ctl c) := rfl
  rw [e]
  unfold ctl
  cases qs : signs.contains c with
  | true =>
   rw [qs] at k
   simp only [go_sem, b53, Tryz.f53, sz, n1, q, hi, bs_signs, k]
   all_goals rfl
  | false =>
   rw [qs] at k
   rcases ctl_cases c with ⟨c1, c8⟩ | rfl | (rfl | rfl | rfl | rfl) | ⟨c1, c8, c11, c14⟩ | ⟨c1, c11, c14, c127⟩
   ·simp only [go_sem, b53, Tryz.f53, sz, n1, q, hi, bs_signs, k, c1, c8]
    all_goals rfl
   ·have d1 : decide ((1 : Int) ≤ 11) = true := rfl
    have d8 : decide ((11 : Int) ≤ 8) = false := rfl
    have d11 : ((11 : Int) == 11) = true := rfl
    simp only [go_sem, b53, Tryz.f53, sz, n1, q, hi, bs_signs, k, d1, d8, d11]
    all_goals rfl
   ·have d1 : decide ((1 : Int) ≤ 9) = true := rfl
    have d8 : decide ((9 : Int) ≤ 8) = false := rfl
    have d11 : ((9 : Int) == 11) = false := rfl
    have d14 : decide ((14 : Int) ≤ 9) = false := rfl
    have d127 : ((9 : Int) == 127) = false := rfl
    simp only [go_sem, b53, Tryz.f53, sz, n1, q, hi, bs_signs, k, d1, d8, d11, d14, d127]
    all_goals rfl
   ·have d1 : decide ((1 : Int) ≤ 10) = true := rfl
    have d8 : decide ((10 : Int) ≤ 8) = false := rfl
    have d11 : ((10 : Int) == 11) = false := rfl
    have d14 : decide ((14 : Int) ≤ 10) = false := rfl
    have d127 : ((10 : Int) == 127) = false := rfl
    simp only [go_sem, b53, Tryz.f53, sz, n1, q, hi, bs_signs, k, d1, d8, d11, d14, d127]
    all_goals rfl
   ·have d1 : decide ((1 : Int) ≤ 12) = true := rfl
    have d8 : decide ((12 : Int) ≤ 8) = false := rfl
    have d11 : ((12 : Int) == 11) = false := rfl
    have d14 : decide ((14 : Int) ≤ 12) = false := rfl
    have d127 : ((12 : Int) == 127) = false := rfl
    simp only [go_sem, b53, Tryz.f53, sz, n1, q, hi, bs_signs, k, d1, d8, d11, d14, d127]
    all_goals rfl
   ·have d1 : decide ((1 : Int) ≤ 13) = true := rfl
    have d8 : decide ((13 : Int) ≤ 8) = false := rfl
    have d11 : ((13 : Int) == 11) = false := rfl
    have d14 : decide ((14 : Int) ≤ 13) = false := rfl
    have d127 : ((13 : Int) == 127) = false := rfl
    simp only [go_sem, b53, Tryz.f53, sz, n1, q, hi, bs_signs, k, d1, d8, d11, d14, d127]
    all_goals rfl
   ·cases c31 : decide (c ≤ 31) with
    | true =>
     simp only [go_sem, b53, Tryz.f53, sz, n1, q, hi, bs_signs, k, c1, c8, c11, c14, c31]
     all_goals rfl
    | false =>
     simp only [go_sem, b53, Tryz.f53, sz, n1, q, hi, bs_signs, k, c1, c8, c11, c14, c31]
     all_goals rfl
   ·simp only [go_sem, b53, Tryz.f53, sz, n1, q, hi, bs_signs, k, c1, c11, c14, c127]
    all_goals simp
    all_goals rfl
end
end Go.Lift.R4
end

section
open Go.Proofs
namespace Go.Lift.R4
set_option linter.unusedSectionVars false
variable [MX]
open Utf Tok Spell
set_option maxRecDepth 20000
set_option maxHeartbeats 4000000
set_option linter.unusedSimpArgs false
set_option linter.unusedVariables false
def tokV (k : Int) (b : List Int) (n d : Int) (w i : Bool) : List V := [.v (.int .i64 k), .v (.string (bs b)), .v (.int .i64 n), .v (.int .i64 d), .v (.bool w), .v (.bool i)]
def leftK (k : Int) : Bool := k == 1 || k == 3 || k == 4 || k == 10 || k == 12 || k == 9
def rightK (k : Int) : Bool := k == 1 || k == 2 || k == 7 || k == 8 || k == 10 || k == 11 || k == 12 || k == 15 || k == 21 || k == 9
def apartT (ka kb : Int) : Bool := ka == 13 && kb == 13 || leftK ka && rightK kb
theorem left_cases (k : Int) : (k = 13) ∨ (k = 1 ∨ k = 3 ∨ k = 4 ∨ k = 10 ∨ k = 12 ∨ k = 9) ∨
  ((k == 13) = false ∧ (k == 1) = false ∧ (k == 3) = false ∧ (k == 4) = false ∧ (k == 10) = false ∧ (k == 12) = false ∧ (k == 9) = false) := by
 simp only [beq_eq_false_iff_ne]
 omega
theorem right_cases (k : Int) : (k = 1 ∨ k = 2 ∨ k = 7 ∨ k = 8 ∨ k = 10 ∨ k = 11 ∨ k = 12 ∨ k = 15 ∨ k = 21 ∨ k = 9) ∨
  ((k == 1) = false ∧ (k == 2) = false ∧ (k == 7) = false ∧ (k == 8) = false ∧ (k == 10) = false ∧ (k == 11) = false ∧ (k == 12) = false ∧ (k == 15) = false ∧ (k == 21) = false ∧ (k == 9) = false) := by
 simp only [beq_eq_false_iff_ne]
 omega
section
variable {lo : Nat} {h : Heap} {ka kb : Int} {ta tb : List Int} {na da nb db : Int} {wa ia wb ib : Bool}
theorem f47 (hlo : lo ≤ h.length) : E lo 47 [.agg (tokV ka ta na da wa ia), .agg (tokV kb tb nb db wb ib)] h = some (.v (.bool (apartT ka kb)), h) := by
 have hlo2 : lo ≤ h.length + 1 := by omega
 rw [e47 (by simp) (by rfl)]
 unfold apartT leftK rightK tokV
 rcases left_cases ka with rfl | hl | ⟨l13, l1, l3, l4, l10, l12, l9⟩
 ·simp only [go_sem, b47, Tryz.f47, Int.reduceBEq, hlo, hlo2]
  all_goals simp
  all_goals rfl
 ·rcases right_cases kb with hr | ⟨r1, r2, r7, r8, r10, r11, r12, r15, r21, r9⟩
  ·rcases hl with rfl | rfl | rfl | rfl | rfl | rfl <;> rcases hr with rfl | rfl | rfl | rfl | rfl | rfl | rfl | rfl | rfl | rfl <;>
    simp only [go_sem, b47, Tryz.f47, Int.reduceBEq, hlo, hlo2] <;> rfl
  ·rcases hl with rfl | rfl | rfl | rfl | rfl | rfl <;>
    simp only [go_sem, b47, Tryz.f47, Int.reduceBEq, hlo, hlo2, r1, r2, r7, r8, r10, r11, r12, r15, r21, r9] <;> rfl
 ·simp only [go_sem, b47, Tryz.f47, Int.reduceBEq, hlo, hlo2, l13, l1, l3, l4, l10, l12, l9]
  all_goals rfl
end
end Go.Lift.R4
end

section
open Go.Proofs
namespace Go.Lift.R4
set_option linter.unusedSectionVars false
variable [MX]
open Utf Tok Spell
set_option maxRecDepth 20000
set_option maxHeartbeats 4000000
set_option linter.unusedSimpArgs false
set_option linter.unusedVariables false
section
variable {lo : Nat} {h : Heap}
theorem plain_size (x : Option (List Int)) : ∃ t e, plainV x = .tup [.v (.string (bs t)), .v (.int .i64 e)] ∧ (e == 0) = x.isSome := by
 cases x with
 | none => exact ⟨[], 1, rfl, rfl⟩
 | some t => exact ⟨t, 0, rfl, rfl⟩
theorem f54 (hlo : lo ≤ h.length) {k n d : Int} {b : List Int} {w i : Bool} (h0 : -9223372036854775808 ≤ n) (h1 : n ≤ 9223372036854775807) (h2 : -9223372036854775808 ≤ d) (h3 : d ≤ 9223372036854775807) :
  E lo 54 [.agg (tokV k b n d w i)] h = some (.v (.bool (plainT n d w).isSome), h) := by
 have k1 := fun lo h hlo => f36 (lo := lo) (h := h) hlo (n := n) (d := d) (w := w) h0 h1 h2 h3
 have k1 := k1 lo (h ++ [.cells (tokV k b n d w i)]) (by simp; omega)
 obtain ⟨t, e, he, hs⟩ := plain_size (plainT n d w)
 rw [he] at k1
 rw [e54 (by simp) (by rfl), ← hs]
 unfold tokV at *
 simp only [go_sem, b54, Tryz.f54, hlo, k1]
 all_goals rfl
theorem fl34 : flatOf Tryz.prog 34 = some [1, 2, 1, 1, 0, 0] := by kernel_rfl
theorem eq_tok {k k' n n' d d' : Int} {s s' : ByteArray} {w w' i i' : Bool} : eqCells [1, 2, 1, 1, 0, 0] [.v (.int .i64 k), .v (.string s), .v (.int .i64 n), .v (.int .i64 d), .v (.bool w), .v (.bool i)] [.v (.int .i64 k'), .v (.string s'), .v (.int .i64 n'), .v (.int .i64 d'), .v (.bool w'), .v (.bool i')] =
  some (k == k' && (s.toList == s'.toList && (n == n' && (d == d' && (w == w' && i == i'))))) := by
 simp [eqCells, eqS]
end
end Go.Lift.R4
end

section
open Go.Proofs
namespace Go.Lift.R4
set_option linter.unusedSectionVars false
variable [MX]
open Utf Tok Spell
set_option maxRecDepth 20000
set_option maxHeartbeats 4000000
set_option linter.unusedSimpArgs false
set_option linter.unusedVariables false
section
variable {lo : Nat} {h : Heap} {l : List Int}
theorem bs_9245 : (⟨#[92, 45]⟩ : ByteArray) = bs [92, 45] := rfl
theorem encs_len (l : List Int) : (encs l).length ≤ 4 * l.length := by
 induction l with
 | nil => simp [encs]
 | cons x l ih =>
  rw [encs_cons, List.length_append, List.length_cons]
  have := enc_len (scal x)
  omega
end
end Go.Lift.R4
end

section
open Go.Proofs
namespace Go.Lift.R4
set_option linter.unusedSectionVars false
variable [MX]
open Utf Tok Spell
set_option maxRecDepth 20000
set_option maxHeartbeats 4000000
set_option linter.unusedSimpArgs false
set_option linter.unusedVariables false
section
variable {lo : Nat} {h : Heap}
theorem bs_34 : (⟨#[34]⟩ : ByteArray) = bs [34] := rfl
theorem bs_41 : (⟨#[41]⟩ : ByteArray) = bs [41] := rfl
theorem bs_url : (⟨#[117, 114, 108, 40]⟩ : ByteArray) = bs [117, 114, 108, 40] := rfl
abbrev sg5 : List Int := [34, 92]
abbrev sg7 : List Int := [34, 39, 40, 41, 92]
end
end Go.Lift.R4
end

section
open Go.Proofs
namespace Go.Lift.R4
set_option linter.unusedSectionVars false
variable [MX]
open Utf Tok Spell
set_option maxRecDepth 20000
set_option maxHeartbeats 4000000
set_option linter.unusedSimpArgs false
set_option linter.unusedVariables false
section
variable {lo : Nat} {h : Heap} {l : List Int}
def hd45 : List Int → Bool
 | [] => false
 | c :: _ => c == 45
theorem f125 {b : List Int} (hy : By b) (hl : b.length ≤ 1000000000) : E lo 125 [.v (.string (bs b)), .v (.string (bs [45]))] h = some (.v (.bool (hd45 b)), h) := by
 have s1 : (bs [45]).size = 1 := bs_size [45]
 have n1 : ((1 : Nat) : Int) = 1 := rfl
 rw [e125 (by simp) (by rfl)]
 cases b with
 | nil =>
  have s0 : (bs []).size = 0 := rfl
  have n0 : ((0 : Nat) : Int) = 0 := rfl
  have q : decide ((1 : Int) ≤ 0) = false := rfl
  simp only [go_sem, b125, Tryz.f125, s1, s0, n1, n0, q]
  all_goals rfl
 | cons c t =>
  have sz := bs_size (c :: t)
  have q : decide ((1 : Int) ≤ ((c :: t).length : Int)) = true := by rw [decide_eq_true_iff]; simp only [List.length_cons]; omega
  have p2 : 1 ≤ (c :: t).length := by simp
  have ed : ((c :: t).take 1).drop 0 = [c] := rfl
  have hb := bs_beq (a := [c]) (b := [45]) (fun x hx => by simp at hx; subst hx; exact hy _ (by simp)) by_45
  have e : ([c] == [45]) = (c == 45) := by simp
  rw [e] at hb
  have eh : hd45 (c :: t) = (c == 45) := rfl
  rw [eh]
  generalize c :: t = M at *
  simp only [go_sem, b125, Tryz.f125, s1, n1, sz, q, p2, bs_ext, ed, hb, Nat.zero_le]
  all_goals rfl
theorem f85 {b : List Int} (hy : By b) (hl : b.length ≤ 1000000000) : E lo 85 [.v (.string (bs b)), .v (.string (bs [45]))] h = some (.v (.bool (hd45 b)), h) := by
 have k := fun lo h => f125 (lo := lo) (h := h) hy hl
 rw [e85 (by simp) (by rfl)]
 simp only [go_sem, b85, Tryz.f85, k]
 all_goals rfl
theorem first_byte {x : Int} (h0 : 0 ≤ x) (h1 : x ≤ 1114111) : ∃ c t, enc x = c :: t ∧ 0 ≤ c ∧ c ≤ 255 ∧ ((x < 128 ∧ c = x ∧ t = []) ∨ (128 ≤ x ∧ 128 ≤ c)) := by
 have hb := enc_by x h0 h1
 by_cases hx : x < 128
 ·exact ⟨x, [], enc_low hx, h0, by omega, .inl ⟨hx, rfl, rfl⟩⟩
 ·obtain ⟨c, t, e, _, hh⟩ := enc_high (by omega) h1
  have hc := hh c (by rw [e]; simp)
  have hc2 := hb c (by rw [e]; simp)
  exact ⟨c, t, e, by omega, by omega, .inr ⟨by omega, hc⟩⟩
theorem f33 (hlo : lo ≤ h.length) (hs : ∀ x ∈ l, scal x = x) (hl : l.length ≤ 10000000) : E lo 33 [.v (.string (bs (encs l)))] h = some (.v (.string (bs (identT l))), h) := by
 have hby := encs_by l
 have hel := encs_len l
 have hb := bs_beq hby by_45
 have k34 := fun lo hlo => f34 (lo := lo) (h := h) hlo hs hl
 have k34a := k34 lo hlo; have k34b := k34 h.length (Nat.le_refl _)
 have k85 := fun lo h => f85 (lo := lo) (h := h) hby (by omega)
 have sz := bs_size (encs l)
 clear k34
 rw [e33 (by simp) (by rfl)]
 by_cases h45 : l = [45]
 ·have q : (encs l == [45]) = true := by rw [beq_iff_eq]; exact (encs_one hs).2 h45
  rw [q] at hb
  have e : identT l = [92, 45] := by unfold identT; rw [if_pos h45]
  rw [e]
  simp only [go_sem, b33, Tryz.f33, bs_45', hb, bs_9245]
  all_goals rfl
 have q : (encs l == [45]) = false := by rw [beq_eq_false_iff_ne]; exact fun h => h45 ((encs_one hs).1 h)
 rw [q] at hb
 cases l with
 | nil =>
  have e0 : encs [] = [] := rfl
  have q1 : decide ((0 : Int) < 0) = false := rfl
  have n0 : ((0 : Nat) : Int) = 0 := rfl
  have e : identT [] = nameT [] := rfl
  have eh : hd45 [] = false := rfl
  rw [e0] at hb k34a k34b k85 sz ⊢
  rw [e]
  rw [eh] at k85
  rw [List.length_nil] at sz
  simp only [go_sem, b33, Tryz.f33, bs_45', hb, k85, sz, n0, q1, k34a, k34b]
  all_goals rfl
 | cons x t =>
  have hx := scal_in x
  rw [hs x (by simp)] at hx
  have hst : ∀ y ∈ t, scal y = y := fun y hy => hs y (by simp [hy])
  obtain ⟨c, tc, ec, hc0, hc1, hcx⟩ := first_byte hx.1 hx.2
  have eB : encs (x :: t) = c :: (tc ++ encs t) := by rw [encs_cons, hs x (by simp), ec]; rfl
  have wc := wrap_i32 hc0 hc1
  have k86 := fun lo h => dig86 (lo := lo) (h := h) (c := c)
  have n0 : ((0 : Nat) : Int) = 0 := rfl
  have p1 : decide ((0 : Int) < ((encs (x :: t)).length : Int)) = true := by rw [eB, decide_eq_true_iff]; simp only [List.length_cons]; omega
  have i0 := bs_ix hby 0
  have g0 : (encs (x :: t))[0]? = some c := by rw [eB]; rfl
  rw [g0] at i0
  have eh : hd45 (encs (x :: t)) = (c == 45) := by rw [eB]; rfl
  rw [eh] at k85
  simp only [List.length_cons] at hl
  cases q45 : (c == 45) with
  | false =>
   rw [q45] at k85
   have hx45 : x ≠ 45 := by
    intro h
    have : c ≠ 45 := by simpa using q45
    omega
   cases qd : dig c with
   | false =>
    rw [qd] at k86
    have hdx : dig x = false := by
     rcases hcx with ⟨_, rfl, _⟩ | ⟨h1, _⟩
     ·exact qd
     ·exact dig_high h1
    have e : identT (x :: t) = nameT (x :: t) := by
     unfold identT
     rw [if_neg h45]
     simp only [hdx, Bool.false_eq_true, if_false]
     cases t with
     | nil => rfl
     | cons y u => simp only; rw [if_neg]; simp [hx45]
    rw [e]
    clear eB g0
    generalize encs (x :: t) = B at *
    simp only [go_sem, b33, Tryz.f33, bs_45', hb, k85, sz, p1, i0, wc, k86, k34a, k34b]
    all_goals rfl
   | true =>
    rw [qd] at k86
    obtain ⟨hx128, rfl, rfl⟩ : x < 128 ∧ c = x ∧ tc = [] := by
     rcases hcx with h | ⟨_, h⟩
     ·exact h
     ·rw [dig_high h] at qd; cases qd
    have e : identT (c :: t) = codeT c ++ nameT t := by unfold identT; rw [if_neg h45]; simp only [qd, if_true]
    have k87 := fun lo hlo => f87 (lo := lo) (h := h) hlo (r := c) hx.1 (by omega)
    have k87a := k87 lo hlo; have k87b := k87 h.length (Nat.le_refl _)
    have kt := fun lo hlo => f34 (lo := lo) (h := h) hlo (l := t) hst (by omega)
    have kta := kt lo hlo; have ktb := kt h.length (Nat.le_refl _)
    have w1 : IntKind.i64.wrap (0 + 1) = 1 := rfl
    have p2 : 1 ≤ (encs (c :: t)).length := by rw [eB]; simp
    have ed0 : ((encs (c :: t)).take 0).drop 0 = [] := rfl
    have ed : (encs (c :: t)).drop 1 = encs t := by rw [eB]; rfl
    have z1 : (bs []).size + (bs (codeT c)).size ≤ 9223372036854775807 := by rw [bs_size, bs_size]; have := codeT_len c; simp; omega
    have z2 : (bs (codeT c)).size + (bs (nameT t)).size ≤ 9223372036854775807 := by rw [bs_size, bs_size]; have := codeT_len c; have := nameT_len t; omega
    rw [e]
    clear eB g0 k34a k34b
    generalize encs (c :: t) = B at *
    simp only [go_sem, b33, Tryz.f33, bs_45', hb, k85, sz, p1, i0, wc, k86, k87a, k87b, kta, ktb, w1, p2, Nat.le_refl, Nat.zero_le, bs_ext, ed0, ed, bs_app, z1, z2, List.nil_append]
    all_goals rfl
  | true =>
   rw [q45] at k85
   have hc45 : c = 45 := by simpa using q45
   obtain ⟨hx128, rfl, rfl⟩ : x < 128 ∧ c = x ∧ tc = [] := by
    rcases hcx with h | ⟨_, h⟩
    ·exact h
    ·omega
   subst hc45
   cases t with
   | nil => exact absurd rfl h45
   | cons y u =>
    have hy := scal_in y
    rw [hst y (by simp)] at hy
    obtain ⟨c1, t1, ec1, hd0, hd1, hdy⟩ := first_byte hy.1 hy.2
    have eB2 : encs (45 :: y :: u) = 45 :: c1 :: (t1 ++ encs u) := by rw [eB, encs_cons, hst y (by simp), ec1]; rfl
    have g1 : (encs (45 :: y :: u))[1]? = some c1 := by rw [eB2]; rfl
    have i1 := bs_ix hby 1
    rw [g1] at i1
    have wd := wrap_i32 hd0 hd1
    have k86d := fun lo h => dig86 (lo := lo) (h := h) (c := c1)
    have p3 : decide ((1 : Int) < ((encs (45 :: y :: u)).length : Int)) = true := by rw [eB2, decide_eq_true_iff]; simp only [List.length_cons]; omega
    have d45 : dig 45 = false := rfl
    have e0 : identT (45 :: y :: u) = if dig y = true then 45 :: (codeT y ++ nameT u) else nameT (45 :: y :: u) := by
     unfold identT
     rw [if_neg h45]
     simp only [d45, Bool.false_eq_true, if_false, true_and]
    cases qd : dig c1 with
    | false =>
     rw [qd] at k86d
     have hdy2 : dig y = false := by
      rcases hdy with ⟨_, rfl, _⟩ | ⟨h1, _⟩
      ·exact qd
      ·exact dig_high h1
     have e : identT (45 :: y :: u) = nameT (45 :: y :: u) := by rw [e0, if_neg (by simp [hdy2])]
     rw [e]
     clear eB g0 eB2 g1
     generalize encs (45 :: y :: u) = B at *
     simp only [go_sem, b33, Tryz.f33, bs_45', hb, k85, sz, p3, i1, wd, k86d, k34a, k34b]
     all_goals rfl
    | true =>
     rw [qd] at k86d
     obtain ⟨hy128, rfl, rfl⟩ : y < 128 ∧ c1 = y ∧ t1 = [] := by
      rcases hdy with h | ⟨_, h⟩
      ·exact h
      ·rw [dig_high h] at qd; cases qd
     have e : identT (45 :: c1 :: u) = 45 :: (codeT c1 ++ nameT u) := by rw [e0, if_pos qd]
     simp only [List.length_cons] at hl
     have k87 := fun lo hlo => f87 (lo := lo) (h := h) hlo (r := c1) hy.1 (by omega)
     have k87a := k87 lo hlo; have k87b := k87 h.length (Nat.le_refl _)
     have kt := fun lo hlo => f34 (lo := lo) (h := h) hlo (l := u) (fun z hz => hst z (by simp [hz])) (by omega)
     have kta := kt lo hlo; have ktb := kt h.length (Nat.le_refl _)
     have w1 : IntKind.i64.wrap (1 + 1) = 2 := rfl
     have p2 : 1 ≤ (encs (45 :: c1 :: u)).length := by rw [eB2]; simp
     have p4 : 2 ≤ (encs (45 :: c1 :: u)).length := by rw [eB2]; simp
     have ed0 : ((encs (45 :: c1 :: u)).take 1).drop 0 = [45] := by rw [eB2]; rfl
     have ed : (encs (45 :: c1 :: u)).drop 2 = encs u := by rw [eB2]; rfl
     have z1 : (bs [45]).size + (bs (codeT c1)).size ≤ 9223372036854775807 := by rw [bs_size, bs_size]; have := codeT_len c1; simp; omega
     have z2 : (bs (45 :: codeT c1)).size + (bs (nameT u)).size ≤ 9223372036854775807 := by rw [bs_size, bs_size]; have := codeT_len c1; have := nameT_len u; simp; omega
     rw [e]
     clear eB g0 eB2 g1 k34a k34b
     generalize encs (45 :: c1 :: u) = B at *
     simp only [go_sem, b33, Tryz.f33, bs_45', hb, k85, sz, p3, i1, wd, k86d, k87a, k87b, kta, ktb, w1, p2, p4, Nat.le_refl, Nat.zero_le, bs_ext, ed0, ed, bs_app, z1, z2, List.singleton_append, List.cons_append]
     all_goals rfl
end
end Go.Lift.R4
end

section
open Go.Proofs
namespace Go.Lift.R4
set_option linter.unusedSectionVars false
variable [MX]
open Utf Tok Spell
set_option maxRecDepth 20000
set_option maxHeartbeats 4000000
set_option linter.unusedSimpArgs false
set_option linter.unusedVariables false
section
variable {lo : Nat} {h : Heap} {l : List Int}
def trim45 (b : List Int) : List Int := if hd45 b = true then b.drop 1 else b
theorem f137 {b : List Int} (hy : By b) (hl : b.length ≤ 1000000000) : E lo 137 [.v (.string (bs b)), .v (.string (bs [45]))] h = some (.v (.string (bs (trim45 b))), h) := by
 have k := fun lo h => f125 (lo := lo) (h := h) hy hl
 have s1 : (bs [45]).size = 1 := bs_size [45]
 have n1 : ((1 : Nat) : Int) = 1 := rfl
 have sz := bs_size b
 unfold trim45
 rw [e137 (by simp) (by rfl)]
 cases q : hd45 b with
 | false =>
  rw [q] at k
  simp only [go_sem, b137, Tryz.f137, k, Bool.false_eq_true, if_false]
  all_goals rfl
 | true =>
  rw [q] at k
  have p2 : 1 ≤ b.length := by
   cases b with
   | nil => cases q
   | cons c t => simp
  have ed : ((b.take b.length).drop 1) = b.drop 1 := by rw [List.take_length]
  simp only [go_sem, b137, Tryz.f137, k, s1, n1, sz, p2, bs_ext, ed, Nat.le_refl, if_true]
  all_goals rfl
theorem f99 {b : List Int} (hy : By b) (hl : b.length ≤ 1000000000) : E lo 99 [.v (.string (bs b)), .v (.string (bs [45]))] h = some (.v (.string (bs (trim45 b))), h) := by
 have k := fun lo h => f137 (lo := lo) (h := h) hy hl
 rw [e99 (by simp) (by rfl)]
 simp only [go_sem, b99, Tryz.f99, k]
 all_goals rfl
def dg0 : List Int → Bool
 | [] => false
 | c :: _ => dig c
theorem dg_trim (b : List Int) : dg0 (trim45 b) = expT b := by
 cases b with
 | nil => rfl
 | cons y u =>
  by_cases hy : y = 45
  ·subst hy
   cases u with
   | nil => rfl
   | cons z v => rfl
  ·have q : (y == 45) = false := by simp [hy]
   have e1 : trim45 (y :: u) = y :: u := by show (if (y == 45) = true then (y :: u).drop 1 else y :: u) = y :: u; simp only [q, Bool.false_eq_true, if_false]
   rw [e1]
   unfold expT dg0
   simp only
   rw [q, Bool.false_and, Bool.or_false]
theorem trim_by {b : List Int} (hy : By b) : By (trim45 b) := by
 unfold trim45
 split
 ·exact fun c hc => hy c (List.mem_of_mem_drop hc)
 ·exact hy
theorem f37 (hlo : lo ≤ h.length) (hs : ∀ x ∈ l, scal x = x) (hn : l ≠ []) (hl : l.length ≤ 10000000) : E lo 37 [.v (.string (bs (encs l)))] h = some (.v (.string (bs (unitT l))), h) := by
 obtain ⟨x, t, rfl⟩ : ∃ x t, l = x :: t := by
  cases l with
  | nil => exact absurd rfl hn
  | cons x t => exact ⟨x, t, rfl⟩
 have hby := encs_by (x :: t)
 have hel := encs_len (x :: t)
 have k33 := fun lo hlo => f33 (lo := lo) (h := h) hlo hs hl
 have k33a := k33 lo hlo; have k33b := k33 h.length (Nat.le_refl _)
 clear k33
 have sz := bs_size (encs (x :: t))
 have hx := scal_in x
 rw [hs x (by simp)] at hx
 have hst : ∀ y ∈ t, scal y = y := fun y hy => hs y (by simp [hy])
 obtain ⟨c, tc, ec, hc0, hc1, hcx⟩ := first_byte hx.1 hx.2
 have eB : encs (x :: t) = c :: (tc ++ encs t) := by rw [encs_cons, hs x (by simp), ec]; rfl
 have i0 := bs_ix hby 0
 have g0 : (encs (x :: t))[0]? = some c := by rw [eB]; rfl
 rw [g0] at i0
 have wc := wrap_i32 hc0 hc1
 simp only [List.length_cons] at hl
 rw [e37 (by simp) (by rfl)]
 have main : ∀ (m : Int), (m = 101 ∨ m = 69) → c = m →
   E lo 37 [.v (.string (bs (encs (x :: t))))] h = some (.v (.string (bs (unitT (x :: t)))), h) := fun m hm hcm => by
  obtain ⟨hx128, rfl, rfl⟩ : x < 128 ∧ c = x ∧ tc = [] := by
   rcases hcx with h | ⟨_, h⟩
   ·exact h
   ·omega
  rw [List.nil_append] at eB
  have hbt := encs_by t
  have k99 := fun lo h => f99 (lo := lo) (h := h) hbt (by have := encs_len t; omega)
  have hT := trim_by hbt
  have hdg := dg_trim (encs t)
  rw [exp_encs t hst] at hdg
  have hTl : (trim45 (encs t)).length ≤ 1000000000 := by
   have := encs_len t
   unfold trim45
   split
   ·rw [List.length_drop]; omega
   ·omega
  have t1 := bs_nil_eq' (trim45 (encs t))
  have szT := bs_size (trim45 (encs t))
  have iT := bs_ix hT 0
  have k87 := fun lo hlo => f87 (lo := lo) (h := h) hlo (r := c) hx.1 (by omega)
  have k87a := k87 lo hlo; have k87b := k87 h.length (Nat.le_refl _)
  have kt := fun lo hlo => f34 (lo := lo) (h := h) hlo (l := t) hst (by omega)
  have kta := kt lo hlo; have ktb := kt h.length (Nat.le_refl _)
  have p2 : 1 ≤ (encs (c :: t)).length := by rw [eB]; simp
  have ed : (encs (c :: t)).drop 1 = encs t := by rw [eB]; rfl
  have et : (encs (c :: t)).take (encs (c :: t)).length = encs (c :: t) := List.take_length
  have z2 : (bs (codeT c)).size + (bs (nameT t)).size ≤ 9223372036854775807 := by rw [bs_size, bs_size]; have := codeT_len c; have := nameT_len t; omega
  have eu : unitT (c :: t) = if ((c == 101 || c == 69) && expT t) = true then codeT c ++ nameT t else identT (c :: t) := rfl
  have ec2 : (c == 101 || c == 69) = true := by rcases hm with rfl | rfl <;> subst hcm <;> rfl
  rw [ec2, Bool.true_and] at eu
  rw [eu]
  clear eB g0 eu
  generalize encs (c :: t) = B at *
  generalize trim45 (encs t) = T at *
  rw [e37 (by simp) (by rfl)]
  cases T with
  | nil =>
   have hx0 : expT t = false := hdg.symm
   rw [hx0, if_neg (by simp)]
   rw [decide_eq_true rfl] at t1
   rcases hm with rfl | rfl <;> subst hcm <;>
   simp only [go_sem, b37, Tryz.f37, Int.reduceBEq, sz, i0, p2, Nat.le_refl, bs_ext, bs_45', et, ed, k99, t1, k33a, k33b] <;> rfl
  | cons z v =>
   rw [decide_eq_false (by simp)] at t1
   have hz := hT z (by simp)
   have wz := wrap_i32 hz.1 hz.2
   have gz : (z :: v)[0]? = some z := rfl
   rw [gz] at iT
   have k86 := fun lo h => dig86 (lo := lo) (h := h) (c := z)
   have hdz : dig z = expT t := hdg
   rw [hdz] at k86
   clear gz hdg hdz hT
   generalize z :: v = T at *
   cases qe : expT t with
   | true =>
    rw [qe] at k86
    rw [if_pos rfl]
    rcases hm with rfl | rfl <;> subst hcm <;>
    simp only [go_sem, b37, Tryz.f37, Int.reduceBEq, sz, szT, i0, iT, p2, Nat.le_refl, bs_ext, bs_45', et, ed, k99, t1, wz, wc, k86, k87a, k87b, kta, ktb, bs_app, z2] <;> rfl
   | false =>
    rw [qe] at k86
    rw [if_neg (by simp)]
    rcases hm with rfl | rfl <;> subst hcm <;>
    simp only [go_sem, b37, Tryz.f37, Int.reduceBEq, sz, szT, i0, iT, p2, Nat.le_refl, bs_ext, bs_45', et, ed, k99, t1, wz, k86, k33a, k33b] <;> rfl
 rw [← e37 (by simp) (by rfl)]
 by_cases h1 : c = 101
 ·exact main 101 (.inl rfl) h1
 by_cases h2 : c = 69
 ·exact main 69 (.inr rfl) h2
 have q1 : (c == 101) = false := by simp [h1]
 have q2 : (c == 69) = false := by simp [h2]
 have hx2 : (x == 101 || x == 69) = false := by
  rcases hcx with ⟨_, rfl, _⟩ | ⟨h3, _⟩
  ·simp [h1, h2]
  ·simp; omega
 have eu : unitT (x :: t) = identT (x :: t) := by
  show (if ((x == 101 || x == 69) && expT t) = true then codeT x ++ nameT t else identT (x :: t)) = _
  rw [hx2]; rfl
 rw [eu, e37 (by simp) (by rfl)]
 clear eB g0
 generalize encs (x :: t) = B at *
 simp only [go_sem, b37, Tryz.f37, sz, i0, q1, q2, k33a, k33b]
 all_goals rfl
end
end Go.Lift.R4
end

section
open Go.Proofs
namespace Go.Lift.R4
set_option linter.unusedSectionVars false
variable [MX]
open Utf Tok Spell
set_option maxRecDepth 20000
set_option maxHeartbeats 4000000
set_option linter.unusedSimpArgs false
set_option linter.unusedVariables false
section
variable {lo : Nat} {h : Heap} {k : Int}
abbrev A38 : List V := [.v (.int .i64 13), .v (.int .i64 16), .v (.int .i64 17), .v (.int .i64 18), .v (.int .i64 19), .v (.int .i64 20), .v (.int .i64 21), .v (.int .i64 22), .v (.int .i64 23), .v (.int .i64 24)]
abbrev K38 : List Int := [13, 16, 17, 18, 19, 20, 21, 22, 23, 24]
abbrev S38 : List Int := [32, 58, 59, 44, 91, 93, 40, 41, 123, 125]
abbrev N38 (k : Int) (j : Int) : Env := [(0, .v (.int .i64 k)), (16, .agg A38), (17, .v (.int .i64 j))]
theorem bs_s38 : (⟨#[32, 58, 59, 44, 91, 93, 40, 41, 123, 125]⟩ : ByteArray) = bs S38 := rfl
theorem round38 (hlo : lo ≤ h.length) (j : Fin 10) :
  evCode ⟨Tryz.prog, E, lo, h.length, h38⟩ loopW l38x0 (N38 k (j.val : Int), h ++ [.cells A38]) =
   if (K38[j.val] == k) = true then some (.ret, [(2, .v (.string (bs [S38[j.val]])))], h ++ [.cells A38]) else some (.normal, N38 k ((j.val : Int) + 1), h ++ [.cells A38]) := by
 have sz : (bs S38).size = 10 := bs_size S38
 have hl : S38.length = 10 := rfl
 have n10 : ((10 : Nat) : Int) = 10 := rfl
 rcases j with ⟨j, hj⟩
 simp only
 have hc : j = 0 ∨ j = 1 ∨ j = 2 ∨ j = 3 ∨ j = 4 ∨ j = 5 ∨ j = 6 ∨ j = 7 ∨ j = 8 ∨ j = 9 := by omega
 rcases hc with rfl | rfl | rfl | rfl | rfl | rfl | rfl | rfl | rfl | rfl
 ·have w1 : IntKind.i64.wrap (0 + 1) = 1 := rfl
  have n0 : ((0 : Nat) : Int) = 0 := rfl
  have ed : ((S38.take 1).drop 0) = [32] := rfl
  show _ = if ((13 : Int) == k) = true then some (Ex.ret, [(2, V.v (.string (bs [32])))], _) else some (Ex.normal, N38 k 1, _)
  rw [n0]
  cases q : ((13 : Int) == k) with
  | true =>
   simp only [go_sem, l38x0, b38, Tryz.f38, Int.reduceLT, Int.reduceLE, Int.reduceToNat, Nat.reduceLeDiff, decide_true, if_true, n10, hl, q, w1, bs_s38, bs_ext, ed]
   all_goals rfl
  | false =>
   simp only [go_sem, l38x0, b38, Tryz.f38, Int.reduceLT, Int.reduceToNat, decide_true, if_true, n10, q, w1, Bool.false_eq_true, if_false]
   all_goals rfl
 ·have w1 : IntKind.i64.wrap (1 + 1) = 2 := rfl
  have n0 : ((1 : Nat) : Int) = 1 := rfl
  have ed : ((S38.take 2).drop 1) = [58] := rfl
  show _ = if ((16 : Int) == k) = true then some (Ex.ret, [(2, V.v (.string (bs [58])))], _) else some (Ex.normal, N38 k 2, _)
  rw [n0]
  cases q : ((16 : Int) == k) with
  | true =>
   simp only [go_sem, l38x0, b38, Tryz.f38, Int.reduceLT, Int.reduceLE, Int.reduceToNat, Nat.reduceLeDiff, decide_true, if_true, n10, hl, q, w1, bs_s38, bs_ext, ed]
   all_goals rfl
  | false =>
   simp only [go_sem, l38x0, b38, Tryz.f38, Int.reduceLT, Int.reduceToNat, decide_true, if_true, n10, q, w1, Bool.false_eq_true, if_false]
   all_goals rfl
 ·have w1 : IntKind.i64.wrap (2 + 1) = 3 := rfl
  have n0 : ((2 : Nat) : Int) = 2 := rfl
  have ed : ((S38.take 3).drop 2) = [59] := rfl
  show _ = if ((17 : Int) == k) = true then some (Ex.ret, [(2, V.v (.string (bs [59])))], _) else some (Ex.normal, N38 k 3, _)
  rw [n0]
  cases q : ((17 : Int) == k) with
  | true =>
   simp only [go_sem, l38x0, b38, Tryz.f38, Int.reduceLT, Int.reduceLE, Int.reduceToNat, Nat.reduceLeDiff, decide_true, if_true, n10, hl, q, w1, bs_s38, bs_ext, ed]
   all_goals rfl
  | false =>
   simp only [go_sem, l38x0, b38, Tryz.f38, Int.reduceLT, Int.reduceToNat, decide_true, if_true, n10, q, w1, Bool.false_eq_true, if_false]
   all_goals rfl
 ·have w1 : IntKind.i64.wrap (3 + 1) = 4 := rfl
  have n0 : ((3 : Nat) : Int) = 3 := rfl
  have ed : ((S38.take 4).drop 3) = [44] := rfl
  show _ = if ((18 : Int) == k) = true then some (Ex.ret, [(2, V.v (.string (bs [44])))], _) else some (Ex.normal, N38 k 4, _)
  rw [n0]
  cases q : ((18 : Int) == k) with
  | true =>
   simp only [go_sem, l38x0, b38, Tryz.f38, Int.reduceLT, Int.reduceLE, Int.reduceToNat, Nat.reduceLeDiff, decide_true, if_true, n10, hl, q, w1, bs_s38, bs_ext, ed]
   all_goals rfl
  | false =>
   simp only [go_sem, l38x0, b38, Tryz.f38, Int.reduceLT, Int.reduceToNat, decide_true, if_true, n10, q, w1, Bool.false_eq_true, if_false]
   all_goals rfl
 ·have w1 : IntKind.i64.wrap (4 + 1) = 5 := rfl
  have n0 : ((4 : Nat) : Int) = 4 := rfl
  have ed : ((S38.take 5).drop 4) = [91] := rfl
  show _ = if ((19 : Int) == k) = true then some (Ex.ret, [(2, V.v (.string (bs [91])))], _) else some (Ex.normal, N38 k 5, _)
  rw [n0]
  cases q : ((19 : Int) == k) with
  | true =>
   simp only [go_sem, l38x0, b38, Tryz.f38, Int.reduceLT, Int.reduceLE, Int.reduceToNat, Nat.reduceLeDiff, decide_true, if_true, n10, hl, q, w1, bs_s38, bs_ext, ed]
   all_goals rfl
  | false =>
   simp only [go_sem, l38x0, b38, Tryz.f38, Int.reduceLT, Int.reduceToNat, decide_true, if_true, n10, q, w1, Bool.false_eq_true, if_false]
   all_goals rfl
 ·have w1 : IntKind.i64.wrap (5 + 1) = 6 := rfl
  have n0 : ((5 : Nat) : Int) = 5 := rfl
  have ed : ((S38.take 6).drop 5) = [93] := rfl
  show _ = if ((20 : Int) == k) = true then some (Ex.ret, [(2, V.v (.string (bs [93])))], _) else some (Ex.normal, N38 k 6, _)
  rw [n0]
  cases q : ((20 : Int) == k) with
  | true =>
   simp only [go_sem, l38x0, b38, Tryz.f38, Int.reduceLT, Int.reduceLE, Int.reduceToNat, Nat.reduceLeDiff, decide_true, if_true, n10, hl, q, w1, bs_s38, bs_ext, ed]
   all_goals rfl
  | false =>
   simp only [go_sem, l38x0, b38, Tryz.f38, Int.reduceLT, Int.reduceToNat, decide_true, if_true, n10, q, w1, Bool.false_eq_true, if_false]
   all_goals rfl
 ·have w1 : IntKind.i64.wrap (6 + 1) = 7 := rfl
  have n0 : ((6 : Nat) : Int) = 6 := rfl
  have ed : ((S38.take 7).drop 6) = [40] := rfl
  show _ = if ((21 : Int) == k) = true then some (Ex.ret, [(2, V.v (.string (bs [40])))], _) else some (Ex.normal, N38 k 7, _)
  rw [n0]
  cases q : ((21 : Int) == k) with
  | true =>
   simp only [go_sem, l38x0, b38, Tryz.f38, Int.reduceLT, Int.reduceLE, Int.reduceToNat, Nat.reduceLeDiff, decide_true, if_true, n10, hl, q, w1, bs_s38, bs_ext, ed]
   all_goals rfl
  | false =>
   simp only [go_sem, l38x0, b38, Tryz.f38, Int.reduceLT, Int.reduceToNat, decide_true, if_true, n10, q, w1, Bool.false_eq_true, if_false]
   all_goals rfl
 ·have w1 : IntKind.i64.wrap (7 + 1) = 8 := rfl
  have n0 : ((7 : Nat) : Int) = 7 := rfl
  have ed : ((S38.take 8).drop 7) = [41] := rfl
  show _ = if ((22 : Int) == k) = true then some (Ex.ret, [(2, V.v (.string (bs [41])))], _) else some (Ex.normal, N38 k 8, _)
  rw [n0]
  cases q : ((22 : Int) == k) with
  | true =>
   simp only [go_sem, l38x0, b38, Tryz.f38, Int.reduceLT, Int.reduceLE, Int.reduceToNat, Nat.reduceLeDiff, decide_true, if_true, n10, hl, q, w1, bs_s38, bs_ext, ed]
   all_goals rfl
  | false =>
   simp only [go_sem, l38x0, b38, Tryz.f38, Int.reduceLT, Int.reduceToNat, decide_true, if_true, n10, q, w1, Bool.false_eq_true, if_false]
   all_goals rfl
 ·have w1 : IntKind.i64.wrap (8 + 1) = 9 := rfl
  have n0 : ((8 : Nat) : Int) = 8 := rfl
  have ed : ((S38.take 9).drop 8) = [123] := rfl
  show _ = if ((23 : Int) == k) = true then some (Ex.ret, [(2, V.v (.string (bs [123])))], _) else some (Ex.normal, N38 k 9, _)
  rw [n0]
  cases q : ((23 : Int) == k) with
  | true =>
   simp only [go_sem, l38x0, b38, Tryz.f38, Int.reduceLT, Int.reduceLE, Int.reduceToNat, Nat.reduceLeDiff, decide_true, if_true, n10, hl, q, w1, bs_s38, bs_ext, ed]
   all_goals rfl
  | false =>
   simp only [go_sem, l38x0, b38, Tryz.f38, Int.reduceLT, Int.reduceToNat, decide_true, if_true, n10, q, w1, Bool.false_eq_true, if_false]
   all_goals rfl
 ·have w1 : IntKind.i64.wrap (9 + 1) = 10 := rfl
  have n0 : ((9 : Nat) : Int) = 9 := rfl
  have ed : ((S38.take 10).drop 9) = [125] := rfl
  show _ = if ((24 : Int) == k) = true then some (Ex.ret, [(2, V.v (.string (bs [125])))], _) else some (Ex.normal, N38 k 10, _)
  rw [n0]
  cases q : ((24 : Int) == k) with
  | true =>
   simp only [go_sem, l38x0, b38, Tryz.f38, Int.reduceLT, Int.reduceLE, Int.reduceToNat, Nat.reduceLeDiff, decide_true, if_true, n10, hl, q, w1, bs_s38, bs_ext, ed]
   all_goals rfl
  | false =>
   simp only [go_sem, l38x0, b38, Tryz.f38, Int.reduceLT, Int.reduceToNat, decide_true, if_true, n10, q, w1, Bool.false_eq_true, if_false]
   all_goals rfl
theorem fix38 : ∀ j : Fin 10, fixT K38[j.val] = [S38[j.val]] := by decide
theorem loop38 (hlo : lo ≤ h.length) : ∀ (m j : Nat), j + m = 10 → k ∈ K38.drop j →
  loopW (evCode ⟨Tryz.prog, E, lo, h.length, h38⟩ loopW l38x0) (N38 k (j : Int), h ++ [.cells A38]) = some (.ret, [(2, .v (.string (bs (fixT k))))], h ++ [.cells A38]) := by
 intro m
 induction m with
 | zero =>
  intro j hj hk
  obtain rfl : j = 10 := by omega
  cases hk
 | succ m ih =>
  intro j hj hk
  have hjl : j < K38.length := by show j < 10; omega
  have hr := round38 (lo := lo) (h := h) (k := k) hlo ⟨j, by omega⟩
  simp only at hr
  rw [loop_eq, hr]
  have hd : K38.drop j = K38[j] :: K38.drop (j + 1) := List.drop_eq_getElem_cons hjl
  cases q : (K38[j] == k) with
  | true =>
   have hf := fix38 ⟨j, by omega⟩
   simp only at hf
   have e : K38[j] = k := by simpa using q
   rw [if_pos rfl, ← e, hf]
   rfl
  | false =>
   rw [if_neg (by simp), loop_n]
   rw [hd] at hk
   rcases List.mem_cons.1 hk with hk | hk
   ·rw [← hk] at q
    simp at q
   ·exact ih (j + 1) (by omega) hk
theorem f38 (hlo : lo ≤ h.length) (hk : k = 6 ∨ k = 8 ∨ k = 13 ∨ k = 14 ∨ k = 15 ∨ k = 16 ∨ k = 17 ∨ k = 18 ∨ k = 19 ∨ k = 20 ∨ k = 21 ∨ k = 22 ∨ k = 23 ∨ k = 24) :
  E lo 38 [.v (.int .i64 k)] h = some (.v (.string (bs (fixT k))), h) := by
 have hL := fun (hk : k ∈ K38) => loop38 (lo := lo) (h := h) (k := k) hlo 10 0 rfl hk
 have n0 : ((0 : Nat) : Int) = 0 := rfl
 rw [n0] at hL
 simp only [l38x0, b38, Tryz.f38, loopAt, loops, bodyOf, go_sem, A38, N38] at hL
 rw [e38 (by simp) (by rfl)]
 rcases hk with rfl | rfl | rfl | rfl | rfl | rfl | rfl | rfl | rfl | rfl | rfl | rfl | rfl | rfl
 all_goals first
  | (
    have hL := hL (by decide)
    simp only [go_sem, b38, Tryz.f38, Int.reduceBEq, hlo, hL]
    all_goals rfl)
  | (
    simp only [go_sem, b38, Tryz.f38, Int.reduceBEq, hlo]
    all_goals rfl)
end
end Go.Lift.R4
end
