/- spell.Apart, jalousieref4.Apart; digits, signs, loose texts. -/
import Derived.Test.YtehffjejplpaeaaGreatDoorGLc
import Derived.Test.YtehffjejplpaeaaGreatDoorGKb
import Derived.Test.YtehffjejplpaeaaGreatDoorGKc
set_option linter.unusedVariables false
set_option linter.unusedSimpArgs false
set_option linter.unusedSectionVars false
section
open Go.Proofs
namespace Go.Lift.P7
variable [MX]
open Utf Tok Spell
set_option maxRecDepth 20000
set_option maxHeartbeats 4000000
def tokV (k : Int) (b : List Int) (n d : Int) (w i : Bool) : List V := [.v (.int .i64 k), .v (.string (bs b)), .v (.int .i64 n), .v (.int .i64 d), .v (.bool w), .v (.bool i)]
def leftK (k : Int) : Bool := k == 1 || k == 3 || k == 4 || k == 10 || k == 12 || k == 9
def rightK (k : Int) : Bool := k == 1 || k == 2 || k == 7 || k == 8 || k == 10 || k == 11 || k == 12 || k == 15 || k == 21 || k == 9
def apartT (ka kb : Int) : Bool := ka == 13 && kb == 13 || leftK ka && rightK kb
theorem left_cases (k : Int) : (k = 13) ∨ (k = 1 ∨ k = 3 ∨ k = 4 ∨ k = 10 ∨ k = 12 ∨ k = 9) ∨
  ((k == 13) = false ∧ (k == 1) = false ∧ (k == 3) = false ∧ (k == 4) = false ∧ (k == 10) = false ∧ (k == 12) = false ∧ (k == 9) = false) := by
 simp only [beq_eq_false_iff_ne]
 omega
theorem right_cases (k : Int) : (k = 1 ∨ k = 2 ∨ k = 7 ∨ k = 8 ∨ k = 10 ∨ k = 11 ∨ k = 12 ∨ k = 15 ∨ k = 21 ∨ k = 9) ∨
  ((k == 1) = false ∧ (k == 2) = false ∧ (k == 7) = false ∧ (k == 8) = false ∧ (k == 10) = false ∧ (k == 11) = false ∧ (k == 12) = false ∧ (k == 15) = false ∧ (k == 21) = false ∧ (k == 9) = false) := by
 simp only [beq_eq_false_iff_ne]
 omega
section
variable {lo : Nat} {h : Heap} {ka kb : Int} {ta tb : List Int} {na da nb db : Int} {wa ia wb ib : Bool}
theorem f29 (hlo : lo ≤ h.length) : E lo 29 [.agg (tokV ka ta na da wa ia), .agg (tokV kb tb nb db wb ib)] h = some (.v (.bool (apartT ka kb)), h) := by
 have hlo2 : lo ≤ h.length + 1 := by omega
 rw [e29 (by simp) (by rfl)]
 unfold apartT leftK rightK tokV
 rcases left_cases ka with rfl | hl | ⟨l13, l1, l3, l4, l10, l12, l9⟩
 ·simp only [go_sem, b29, Tryz.f29, Int.reduceBEq, hlo, hlo2]
  all_goals simp
  all_goals rfl
 ·rcases right_cases kb with hr | ⟨r1, r2, r7, r8, r10, r11, r12, r15, r21, r9⟩
  ·rcases hl with rfl | rfl | rfl | rfl | rfl | rfl <;> rcases hr with rfl | rfl | rfl | rfl | rfl | rfl | rfl | rfl | rfl | rfl <;>
    simp only [go_sem, b29, Tryz.f29, Int.reduceBEq, hlo, hlo2] <;> rfl
  ·rcases hl with rfl | rfl | rfl | rfl | rfl | rfl <;>
    simp only [go_sem, b29, Tryz.f29, Int.reduceBEq, hlo, hlo2, r1, r2, r7, r8, r10, r11, r12, r15, r21, r9] <;> rfl
 ·simp only [go_sem, b29, Tryz.f29, Int.reduceBEq, hlo, hlo2, l13, l1, l3, l4, l10, l12, l9]
  all_goals rfl
theorem f34 (hlo : lo ≤ h.length) : E lo 34 [.agg (tokV ka ta na da wa ia), .agg (tokV kb tb nb db wb ib)] h = some (.v (.bool (apartT ka kb)), h) := by
 have hlo2 : lo ≤ h.length + 1 := by omega
 rw [e34 (by simp) (by rfl)]
 unfold apartT leftK rightK tokV
 rcases left_cases ka with rfl | hl | ⟨l13, l1, l3, l4, l10, l12, l9⟩
 ·cases q : (kb == 13) with
  | true =>
   simp only [go_sem, b34, Tryz.f34, Int.reduceBEq, hlo, hlo2, q]
   all_goals rfl
  | false =>
   simp only [go_sem, b34, Tryz.f34, Int.reduceBEq, hlo, hlo2, q]
   all_goals rfl
 ·rcases right_cases kb with hr | ⟨r1, r2, r7, r8, r10, r11, r12, r15, r21, r9⟩
  ·rcases hl with rfl | rfl | rfl | rfl | rfl | rfl <;> rcases hr with rfl | rfl | rfl | rfl | rfl | rfl | rfl | rfl | rfl | rfl <;>
    simp only [go_sem, b34, Tryz.f34, Int.reduceBEq, hlo, hlo2] <;> rfl
  ·rcases hl with rfl | rfl | rfl | rfl | rfl | rfl <;>
    simp only [go_sem, b34, Tryz.f34, Int.reduceBEq, hlo, hlo2, r1, r2, r7, r8, r10, r11, r12, r15, r21, r9] <;> rfl
 ·simp only [go_sem, b34, Tryz.f34, Int.reduceBEq, hlo, hlo2, l13, l1, l3, l4, l10, l12, l9]
  all_goals rfl
end
end Go.Lift.P7
end

section
open Go.Proofs
namespace Go.Lift.P7
variable [MX]
open Utf Tok Spell
set_option maxRecDepth 20000
set_option maxHeartbeats 4000000
section
variable {lo : Nat} {h : Heap}
theorem f62 {l : List Int} (hy : By l) (hl : l.length ≤ 1000000000) : E lo 62 [.v (.string (bs l))] h = some (.v (.bool (signT l)), h) := by
 rw [e62 (by simp) (by rfl)]
 match l, hy with
 | [], hy =>
  have sz : (bs []).size = 0 := rfl
  have q : ((0 : Int) != 1) = true := rfl
  have n0 : ((0 : Nat) : Int) = 0 := rfl
  simp only [go_sem, b62, Tryz.f62, sz, n0, q]
  all_goals rfl
 | x :: y :: u, hy =>
  have sz := bs_size (x :: y :: u)
  have q : (((x :: y :: u).length : Int) != 1) = true := by simp; omega
  rw [← sz] at q
  have e : signT (x :: y :: u) = false := rfl
  rw [e]
  generalize bs (x :: y :: u) = s at *
  simp only [go_sem, b62, Tryz.f62, q]
  all_goals rfl
 | [c], hy =>
  have sz : (bs [c]).size = 1 := bs_size [c]
  have q : ((1 : Int) != 1) = false := rfl
  have n1 : ((1 : Nat) : Int) = 1 := rfl
  have hx := hy c (by simp)
  have hc : ([c])[0]? = some c := rfl
  have hi := bs_ix hy 0
  rw [hc] at hi
  have hL := loop62 (lo := lo) (h := h) (N := h.length) hx 20 0 rfl
  have n0 : ((0 : Nat) : Int) = 0 := rfl
  have hdr : signs.drop 0 = signs := rfl
  rw [hdr] at hL
  have e : signT [c] = (signs.contains c || ctl c) := rfl
  rw [e]
  unfold ctl
  cases qs : signs.contains c with
  | true =>
   rw [qs, if_pos rfl] at hL
   simp only [l62x0, b62, Tryz.f62, loopAt, loops, bodyOf, go_sem, n0] at hL
   simp only [go_sem, b62, Tryz.f62, sz, n1, q, hi, hL]
   all_goals rfl
  | false =>
   rw [qs, if_neg (by simp)] at hL
   simp only [l62x0, b62, Tryz.f62, loopAt, loops, bodyOf, go_sem, n0] at hL
   rcases ctl_cases c with ⟨c1, c8⟩ | rfl | (rfl | rfl | rfl | rfl) | ⟨c1, c8, c11, c14⟩ | ⟨c1, c11, c14, c127⟩
   ·simp only [go_sem, b62, Tryz.f62, sz, n1, q, hi, hL, c1, c8]
    all_goals rfl
   ·have d1 : decide ((1 : Int) ≤ 11) = true := rfl
    have d8 : decide ((11 : Int) ≤ 8) = false := rfl
    have d11 : ((11 : Int) == 11) = true := rfl
    have d14 : decide ((14 : Int) ≤ 11) = false := rfl
    have d127 : ((11 : Int) == 127) = false := rfl
    simp only [go_sem, b62, Tryz.f62, sz, n1, q, hi, hL, d1, d8, d11, d14, d127]
    all_goals rfl
   ·have d1 : decide ((1 : Int) ≤ 9) = true := rfl
    have d8 : decide ((9 : Int) ≤ 8) = false := rfl
    have d11 : ((9 : Int) == 11) = false := rfl
    have d14 : decide ((14 : Int) ≤ 9) = false := rfl
    have d127 : ((9 : Int) == 127) = false := rfl
    simp only [go_sem, b62, Tryz.f62, sz, n1, q, hi, hL, d1, d8, d11, d14, d127]
    all_goals rfl
   ·have d1 : decide ((1 : Int) ≤ 10) = true := rfl
    have d8 : decide ((10 : Int) ≤ 8) = false := rfl
    have d11 : ((10 : Int) == 11) = false := rfl
    have d14 : decide ((14 : Int) ≤ 10) = false := rfl
    have d127 : ((10 : Int) == 127) = false := rfl
    simp only [go_sem, b62, Tryz.f62, sz, n1, q, hi, hL, d1, d8, d11, d14, d127]
    all_goals rfl
   ·have d1 : decide ((1 : Int) ≤ 12) = true := rfl
    have d8 : decide ((12 : Int) ≤ 8) = false := rfl
    have d11 : ((12 : Int) == 11) = false := rfl
    have d14 : decide ((14 : Int) ≤ 12) = false := rfl
    have d127 : ((12 : Int) == 127) = false := rfl
    simp only [go_sem, b62, Tryz.f62, sz, n1, q, hi, hL, d1, d8, d11, d14, d127]
    all_goals rfl
   ·have d1 : decide ((1 : Int) ≤ 13) = true := rfl
    have d8 : decide ((13 : Int) ≤ 8) = false := rfl
    have d11 : ((13 : Int) == 11) = false := rfl
    have d14 : decide ((14 : Int) ≤ 13) = false := rfl
    have d127 : ((13 : Int) == 127) = false := rfl
    simp only [go_sem, b62, Tryz.f62, sz, n1, q, hi, hL, d1, d8, d11, d14, d127]
    all_goals rfl
   ·cases c31 : decide (c ≤ 31) with
    | true =>
     simp only [go_sem, b62, Tryz.f62, sz, n1, q, hi, hL, c1, c8, c11, c14, c31]
     all_goals rfl
    | false =>
     simp only [go_sem, b62, Tryz.f62, sz, n1, q, hi, hL, c1, c8, c11, c14, c31]
     all_goals rfl
   ·simp only [go_sem, b62, Tryz.f62, sz, n1, q, hi, hL, c1, c11, c14, c127]
    all_goals simp
    all_goals rfl
theorem plain_size (x : Option (List Int)) : ∃ t e, plainV x = .tup [.v (.string (bs t)), .v (.int .i64 e)] ∧ (e == 0) = x.isSome := by
 cases x with
 | none => exact ⟨[], 1, rfl, rfl⟩
 | some t => exact ⟨t, 0, rfl, rfl⟩
theorem f51 (hlo : lo ≤ h.length) {k n d : Int} {b : List Int} {w i : Bool} (h0 : -9223372036854775808 ≤ n) (h1 : n ≤ 9223372036854775807) (h2 : -9223372036854775808 ≤ d) (h3 : d ≤ 9223372036854775807) :
  E lo 51 [.agg (tokV k b n d w i)] h = some (.v (.bool (plainT n d w).isSome), h) := by
 have k1 := fun lo h hlo => f55 (lo := lo) (h := h) hlo (n := n) (d := d) (w := w) h0 h1 h2 h3
 have k1 := k1 lo (h ++ [.cells (tokV k b n d w i)]) (by simp; omega)
 obtain ⟨t, e, he, hs⟩ := plain_size (plainT n d w)
 rw [he] at k1
 rw [e51 (by simp) (by rfl), ← hs]
 unfold tokV at *
 simp only [go_sem, b51, Tryz.f51, hlo, k1]
 all_goals rfl
theorem loop42 {N : Nat} {s : List Int} {l : List Int} (hl : l.length ≤ 1000000000) : ∀ (m k : Nat), k + m = l.length →
  loopW (evCode ⟨Tryz.prog, E, lo, N, h42⟩ loopW l42x0) ([(0, .v (.string (bs s))), (4, .list .no (ri .i32 l)), (10, .list .no (ri .i32 l)), (11, .v (.int .i64 l.length)), (12, .v (.int .i64 k))], h) =
   if (l.drop k).contains 0 = true then some (.ret, [(2, .list .yes []), (3, .v (.bool false))], h)
   else some (.exit 0, [(0, .v (.string (bs s))), (4, .list .no (ri .i32 l)), (10, .list .no (ri .i32 l)), (11, .v (.int .i64 l.length)), (12, .v (.int .i64 l.length)), (13, .v (.bool false))], h) := by
 intro m
 induction m with
 | zero =>
  intro k hk
  obtain rfl : k = l.length := by omega
  have q : decide ((l.length : Int) < (l.length : Int)) = false := by simp
  rw [loop_eq, List.drop_length, if_neg (by simp)]
  simp only [go_sem, l42x0, b42, Tryz.f42, q]
  all_goals rfl
 | succ m ih =>
  intro k hk
  have hlt : k < l.length := by omega
  have hg : l[k]? = some l[k] := List.getElem?_eq_getElem hlt
  have hd : l.drop k = l[k] :: l.drop (k + 1) := List.drop_eq_getElem_cons hlt
  have q : decide ((k : Int) < (l.length : Int)) = true := by simp; omega
  have w1 : IntKind.i64.wrap ((k : Int) + 1) = ((k + 1 : Nat) : Int) := wrap_succ (by omega)
  rw [loop_eq, hd, List.contains_cons]
  generalize l[k] = x at *
  cases qx : (x == 0) with
  | true =>
   have e : ((0 : Int) == x) = true := by rw [beq_iff_eq] at qx ⊢; exact qx.symm
   rw [e, if_pos (by simp)]
   simp only [go_sem, l42x0, b42, Tryz.f42, q, hg, qx]
   all_goals rfl
  | false =>
   have e : ((0 : Int) == x) = false := by rw [beq_eq_false_iff_ne] at qx ⊢; exact fun h => qx h.symm
   rw [e, Bool.false_or]
   have er : evCode ⟨Tryz.prog, E, lo, N, h42⟩ loopW l42x0 ([(0, .v (.string (bs s))), (4, .list .no (ri .i32 l)), (10, .list .no (ri .i32 l)), (11, .v (.int .i64 l.length)), (12, .v (.int .i64 k))], h) = some (.normal, [(0, .v (.string (bs s))), (4, .list .no (ri .i32 l)), (10, .list .no (ri .i32 l)), (11, .v (.int .i64 l.length)), (12, .v (.int .i64 (k + 1 : Nat)))], h) := by
    simp only [go_sem, l42x0, b42, Tryz.f42, q, hg, qx, w1]
    all_goals rfl
   rw [er, loop_n, ih (k + 1) (by omega)]
def charsL (l : List Int) : List Int := if (raw l).contains 0 = true then [] else raw l
theorem f42 {l : List Int} (hy : By l) (hl : l.length ≤ 1000000000) : E lo 42 [.v (.string (bs l))] h = some (.tup [.list .no (ri .i32 (charsL l)), .v (.bool (sound l))], h) := by
 have k1 := fun lo h => f67 (lo := lo) (h := h) hl hy
 have k2 := fun lo h => f68 (lo := lo) (h := h) (b := l) (by omega) hy
 have hc := (raw_count l).1
 have hL := loop42 (lo := lo) (h := h) (N := h.length) (s := l) (l := raw l) (by omega) (raw l).length 0 (by omega)
 have n0 : ((0 : Nat) : Int) = 0 := rfl
 have hs := sound_ref hy
 rw [List.drop_zero] at hL
 rw [e42 (by simp) (by rfl)]
 unfold charsL
 cases q : (raw l).contains 0 with
 | true =>
  rw [q, if_pos rfl] at hL hs
  simp only [l42x0, b42, Tryz.f42, loopAt, loops, bodyOf, go_sem, n0] at hL
  rw [← hs]
  simp only [go_sem, b42, Tryz.f42, bytes_bs hy, k1, hL]
  all_goals rfl
 | false =>
  rw [q, if_neg (by simp)] at hL hs
  simp only [l42x0, b42, Tryz.f42, loopAt, loops, bodyOf, go_sem, n0] at hL
  rw [← hs]
  simp only [go_sem, b42, Tryz.f42, bytes_bs hy, k1, hL, k2]
  all_goals rfl
theorem fl34 : flatOf Tryz.prog 40 = some [1, 2, 1, 1, 0, 0] := by kernel_rfl
theorem eq_tok {k k' n n' d d' : Int} {s s' : ByteArray} {w w' i i' : Bool} : eqCells [1, 2, 1, 1, 0, 0] [.v (.int .i64 k), .v (.string s), .v (.int .i64 n), .v (.int .i64 d), .v (.bool w), .v (.bool i)] [.v (.int .i64 k'), .v (.string s'), .v (.int .i64 n'), .v (.int .i64 d'), .v (.bool w'), .v (.bool i')] =
  some (k == k' && (s.toList == s'.toList && (n == n' && (d == d' && (w == w' && i == i'))))) := by
 simp [eqCells, eqS]
end
end Go.Lift.P7
end

section
open Go.Proofs
namespace Go.Lift.P7
variable [MX]
open Utf Tok Spell
set_option maxRecDepth 20000
set_option maxHeartbeats 4000000
def Z4 (n d : Int) (w i : Bool) : Bool := n == 0 && (d == 0 && (w == false && i == false))
section
variable {lo : Nat} {h : Heap} {k n d : Int} {b : List Int} {w i : Bool}
theorem z_eq : ((⟨#[]⟩ : ByteArray).toList == ByteArray.empty.toList) = true := (bs_nil_eq []).trans (by simp)
theorem i_eq : ((0 : Int) == 0) = true := rfl
theorem ne_empty (hb : b ≠ []) : b.isEmpty = false := by cases b with
 | nil => exact absurd rfl hb
 | cons c t => rfl
theorem m23a (hlo : lo ≤ h.length) (hy : By b) (hl : b.length ≤ 1000000000) (hk : k = 1 ∨ k = 2 ∨ k = 3) :
  E lo 27 [.agg (tokV k b n d w i)] h = some (.v (.bool (!b.isEmpty && sound b && Z4 n d w i)), h) := by
 have hlo2 : lo ≤ h.length + 1 := by omega
 have k1 := fun lo h => f48 (lo := lo) (h := h) hy hl
 have t1 := bs_nil_eq' b
 have e : eqCells [1, 2, 1, 1, 0, 0] [.v (.int .i64 0), .v (.string ⟨#[]⟩), .v (.int .i64 n), .v (.int .i64 d), .v (.bool w), .v (.bool i)] [.v (.int .i64 0), .v (.string ByteArray.empty), .v (.int .i64 0), .v (.int .i64 0), .v (.bool false), .v (.bool false)] = some (Z4 n d w i) := by
  rw [eq_tok, z_eq, i_eq]; rfl
 rw [e27 (by simp) (by rfl)]
 unfold tokV
 by_cases hb : b = []
 ·rw [decide_eq_true hb] at t1
  have eb : b.isEmpty = true := by simp [hb]
  rw [eb]
  rcases hk with rfl | rfl | rfl <;> simp only [go_sem, b27, Tryz.f27, Int.reduceBEq, hlo, hlo2, t1] <;> rfl
 ·rw [decide_eq_false hb] at t1
  rw [ne_empty hb]
  cases qs : sound b with
  | true =>
   rw [qs] at k1
   rcases hk with rfl | rfl | rfl <;> simp only [go_sem, b27, Tryz.f27, Int.reduceBEq, hlo, hlo2, t1, k1, fl34, e] <;> rfl
  | false =>
   rw [qs] at k1
   rcases hk with rfl | rfl | rfl <;> simp only [go_sem, b27, Tryz.f27, Int.reduceBEq, hlo, hlo2, t1, k1] <;> rfl
theorem m23b (hlo : lo ≤ h.length) (hy : By b) (hl : b.length ≤ 1000000000) :
  E lo 27 [.agg (tokV 4 b n d w i)] h = some (.v (.bool (!b.isEmpty && sound b && (i || looseT b) && Z4 n d w false)), h) := by
 have hlo2 : lo ≤ h.length + 1 := by omega
 have k1 := fun lo h => f48 (lo := lo) (h := h) hy hl
 have k2 := fun lo h => f49 (lo := lo) (h := h) hy hl
 have t1 := bs_nil_eq' b
 have e : eqCells [1, 2, 1, 1, 0, 0] [.v (.int .i64 0), .v (.string ⟨#[]⟩), .v (.int .i64 n), .v (.int .i64 d), .v (.bool w), .v (.bool false)] [.v (.int .i64 0), .v (.string ByteArray.empty), .v (.int .i64 0), .v (.int .i64 0), .v (.bool false), .v (.bool false)] = some (Z4 n d w false) := by
  rw [eq_tok, z_eq, i_eq]; rfl
 rw [e27 (by simp) (by rfl)]
 unfold tokV
 by_cases hb : b = []
 ·rw [decide_eq_true hb] at t1
  have eb : b.isEmpty = true := by simp [hb]
  rw [eb]
  simp only [go_sem, b27, Tryz.f27, Int.reduceBEq, hlo, hlo2, t1]
  all_goals rfl
 ·rw [decide_eq_false hb] at t1
  rw [ne_empty hb]
  cases qs : sound b with
  | true =>
   rw [qs] at k1
   cases i with
   | true =>
    simp only [go_sem, b27, Tryz.f27, Int.reduceBEq, hlo, hlo2, t1, k1, fl34, e]
    all_goals rfl
   | false =>
    cases ql : looseT b with
    | true =>
     rw [ql] at k2
     simp only [go_sem, b27, Tryz.f27, Int.reduceBEq, hlo, hlo2, t1, k1, k2, fl34, e]
     all_goals rfl
    | false =>
     rw [ql] at k2
     simp only [go_sem, b27, Tryz.f27, Int.reduceBEq, hlo, hlo2, t1, k1, k2]
     all_goals rfl
  | false =>
   rw [qs] at k1
   simp only [go_sem, b27, Tryz.f27, Int.reduceBEq, hlo, hlo2, t1, k1]
   all_goals rfl
theorem m23c (hlo : lo ≤ h.length) (hy : By b) (hl : b.length ≤ 1000000000) (hk : k = 5 ∨ k = 7) :
  E lo 27 [.agg (tokV k b n d w i)] h = some (.v (.bool (sound b && Z4 n d w i)), h) := by
 have hlo2 : lo ≤ h.length + 1 := by omega
 have k1 := fun lo h => f48 (lo := lo) (h := h) hy hl
 have e : eqCells [1, 2, 1, 1, 0, 0] [.v (.int .i64 0), .v (.string ⟨#[]⟩), .v (.int .i64 n), .v (.int .i64 d), .v (.bool w), .v (.bool i)] [.v (.int .i64 0), .v (.string ByteArray.empty), .v (.int .i64 0), .v (.int .i64 0), .v (.bool false), .v (.bool false)] = some (Z4 n d w i) := by
  rw [eq_tok, z_eq, i_eq]; rfl
 rw [e27 (by simp) (by rfl)]
 unfold tokV
 cases qs : sound b with
 | true =>
  rw [qs] at k1
  rcases hk with rfl | rfl <;> simp only [go_sem, b27, Tryz.f27, Int.reduceBEq, hlo, hlo2, k1, fl34, e] <;> rfl
 | false =>
  rw [qs] at k1
  rcases hk with rfl | rfl <;> simp only [go_sem, b27, Tryz.f27, Int.reduceBEq, hlo, hlo2, k1] <;> rfl
theorem m23d (hlo : lo ≤ h.length) (hy : By b) (hl : b.length ≤ 1000000000) :
  E lo 27 [.agg (tokV 9 b n d w i)] h = some (.v (.bool (signT b && Z4 n d w i)), h) := by
 have hlo2 : lo ≤ h.length + 1 := by omega
 have k1 := fun lo h => f50 (lo := lo) (h := h) hy hl
 have e : eqCells [1, 2, 1, 1, 0, 0] [.v (.int .i64 0), .v (.string ⟨#[]⟩), .v (.int .i64 n), .v (.int .i64 d), .v (.bool w), .v (.bool i)] [.v (.int .i64 0), .v (.string ByteArray.empty), .v (.int .i64 0), .v (.int .i64 0), .v (.bool false), .v (.bool false)] = some (Z4 n d w i) := by
  rw [eq_tok, z_eq, i_eq]; rfl
 rw [e27 (by simp) (by rfl)]
 unfold tokV
 cases qs : signT b with
 | true =>
  rw [qs] at k1
  simp only [go_sem, b27, Tryz.f27, Int.reduceBEq, hlo, hlo2, k1, fl34, e]
  all_goals rfl
 | false =>
  rw [qs] at k1
  simp only [go_sem, b27, Tryz.f27, Int.reduceBEq, hlo, hlo2, k1]
  all_goals rfl
theorem m23e (hlo : lo ≤ h.length) (hy : By b) (hl : b.length ≤ 1000000000) (h0 : -9223372036854775808 ≤ n) (h1 : n ≤ 9223372036854775807) (h2 : -9223372036854775808 ≤ d) (h3 : d ≤ 9223372036854775807) :
  E lo 27 [.agg (tokV 12 b n d w i)] h = some (.v (.bool (!b.isEmpty && sound b && (plainT n d w).isSome && (i == false))), h) := by
 have hlo2 : lo ≤ h.length + 1 := by omega
 have hlo3 : ∀ x y : Ob, lo ≤ (h ++ [x, y]).length := fun x y => by simp; omega
 have k1 := fun lo h => f48 (lo := lo) (h := h) hy hl
 have k2 := fun (lo : Nat) (h : Heap) (hlo : lo ≤ h.length) => f51 (lo := lo) (h := h) hlo (k := 12) (b := b) (n := n) (d := d) (w := w) (i := i) h0 h1 h2 h3
 have k2 := k2 lo (h ++ [.cells (tokV 12 b n d w i), .cells (tokV 0 b n d w i)]) (hlo3 _ _)
 have t1 := bs_nil_eq' b
 have e : eqCells [1, 2, 1, 1, 0, 0] [.v (.int .i64 0), .v (.string ⟨#[]⟩), .v (.int .i64 0), .v (.int .i64 0), .v (.bool false), .v (.bool i)] [.v (.int .i64 0), .v (.string ByteArray.empty), .v (.int .i64 0), .v (.int .i64 0), .v (.bool false), .v (.bool false)] = some (i == false) := by
  rw [eq_tok, z_eq, i_eq]; simp
 rw [e27 (by simp) (by rfl)]
 unfold tokV at *
 by_cases hb : b = []
 ·rw [decide_eq_true hb] at t1
  have eb : b.isEmpty = true := by simp [hb]
  rw [eb]
  simp only [go_sem, b27, Tryz.f27, Int.reduceBEq, hlo, hlo2, t1]
  all_goals rfl
 ·rw [decide_eq_false hb] at t1
  rw [ne_empty hb]
  cases qs : sound b with
  | true =>
   rw [qs] at k1
   cases qp : (plainT n d w).isSome with
   | true =>
    rw [qp] at k2
    simp only [go_sem, b27, Tryz.f27, Int.reduceBEq, hlo, hlo2, t1, k1, k2, fl34, e]
    all_goals rfl
   | false =>
    rw [qp] at k2
    simp only [go_sem, b27, Tryz.f27, Int.reduceBEq, hlo, hlo2, t1, k1, k2]
    all_goals rfl
  | false =>
   rw [qs] at k1
   simp only [go_sem, b27, Tryz.f27, Int.reduceBEq, hlo, hlo2, t1, k1]
   all_goals rfl
theorem m23f (hlo : lo ≤ h.length) (hk : k = 10 ∨ k = 11) (h0 : -9223372036854775808 ≤ n) (h1 : n ≤ 9223372036854775807) (h2 : -9223372036854775808 ≤ d) (h3 : d ≤ 9223372036854775807) :
  E lo 27 [.agg (tokV k b n d w i)] h = some (.v (.bool ((plainT n d w).isSome && (b.isEmpty && (i == false)))), h) := by
 have hlo2 : lo ≤ h.length + 1 := by omega
 have hlo3 : ∀ x y : Ob, lo ≤ (h ++ [x, y]).length := fun x y => by simp; omega
 have k2 := fun (lo : Nat) (h : Heap) (hlo : lo ≤ h.length) => f51 (lo := lo) (h := h) hlo (k := k) (b := b) (n := n) (d := d) (w := w) (i := i) h0 h1 h2 h3
 have k2 := k2 lo (h ++ [.cells (tokV k b n d w i), .cells (tokV 0 b n d w i)]) (hlo3 _ _)
 have t1 := bs_nil_eq b
 have eb : decide (b = []) = b.isEmpty := by cases b <;> simp
 have e : eqCells [1, 2, 1, 1, 0, 0] [.v (.int .i64 0), .v (.string (bs b)), .v (.int .i64 0), .v (.int .i64 0), .v (.bool false), .v (.bool i)] [.v (.int .i64 0), .v (.string ByteArray.empty), .v (.int .i64 0), .v (.int .i64 0), .v (.bool false), .v (.bool false)] = some (b.isEmpty && (i == false)) := by
  rw [eq_tok, i_eq, t1, eb]; simp
 rw [e27 (by simp) (by rfl)]
 unfold tokV at *
 cases qp : (plainT n d w).isSome with
 | true =>
  rw [qp] at k2
  rcases hk with rfl | rfl <;> simp only [go_sem, b27, Tryz.f27, Int.reduceBEq, hlo, hlo2, k2, fl34, e] <;> rfl
 | false =>
  rw [qp] at k2
  rcases hk with rfl | rfl <;> simp only [go_sem, b27, Tryz.f27, Int.reduceBEq, hlo, hlo2, k2] <;> rfl
theorem m23g (hlo : lo ≤ h.length) (hk : k = 6 ∨ k = 8 ∨ k = 13 ∨ k = 14 ∨ k = 15 ∨ k = 16 ∨ k = 17 ∨ k = 18 ∨ k = 19 ∨ k = 20 ∨ k = 21 ∨ k = 22 ∨ k = 23 ∨ k = 24) :
  E lo 27 [.agg (tokV k b n d w i)] h = some (.v (.bool (b.isEmpty && Z4 n d w i)), h) := by
 have hlo2 : lo ≤ h.length + 1 := by omega
 have t1 := bs_nil_eq b
 have eb : decide (b = []) = b.isEmpty := by cases b <;> simp
 have e : eqCells [1, 2, 1, 1, 0, 0] [.v (.int .i64 0), .v (.string (bs b)), .v (.int .i64 n), .v (.int .i64 d), .v (.bool w), .v (.bool i)] [.v (.int .i64 0), .v (.string ByteArray.empty), .v (.int .i64 0), .v (.int .i64 0), .v (.bool false), .v (.bool false)] = some (b.isEmpty && Z4 n d w i) := by
  rw [eq_tok, i_eq, t1, eb]; rfl
 rw [e27 (by simp) (by rfl)]
 unfold tokV
 rcases hk with rfl | rfl | rfl | rfl | rfl | rfl | rfl | rfl | rfl | rfl | rfl | rfl | rfl | rfl <;> simp only [go_sem, b27, Tryz.f27, Int.reduceBEq, hlo, hlo2, fl34, e] <;> rfl
theorem m23h (hlo : lo ≤ h.length) (hk : k < 1 ∨ 24 < k) : E lo 27 [.agg (tokV k b n d w i)] h = some (.v (.bool false), h) := by
 have hlo2 : lo ≤ h.length + 1 := by omega
 have q : ∀ x : Int, 1 ≤ x → x ≤ 24 → (k == x) = false := fun x h1 h2 => by simp; omega
 have q1 := q 1 (by omega) (by omega); have q2 := q 2 (by omega) (by omega); have q3 := q 3 (by omega) (by omega); have q4 := q 4 (by omega) (by omega); have q5 := q 5 (by omega) (by omega); have q6 := q 6 (by omega) (by omega)
 have q7 := q 7 (by omega) (by omega); have q8 := q 8 (by omega) (by omega); have q9 := q 9 (by omega) (by omega); have q10 := q 10 (by omega) (by omega); have q11 := q 11 (by omega) (by omega); have q12 := q 12 (by omega) (by omega)
 have q13 := q 13 (by omega) (by omega); have q14 := q 14 (by omega) (by omega); have q15 := q 15 (by omega) (by omega); have q16 := q 16 (by omega) (by omega); have q17 := q 17 (by omega) (by omega); have q18 := q 18 (by omega) (by omega)
 have q19 := q 19 (by omega) (by omega); have q20 := q 20 (by omega) (by omega); have q21 := q 21 (by omega) (by omega); have q22 := q 22 (by omega) (by omega); have q23 := q 23 (by omega) (by omega); have q24 := q 24 (by omega) (by omega)
 rw [e27 (by simp) (by rfl)]
 unfold tokV
 simp only [go_sem, b27, Tryz.f27, hlo, hlo2, q1, q2, q3, q4, q5, q6, q7, q8, q9, q10, q11, q12, q13, q14, q15, q16, q17, q18, q19, q20, q21, q22, q23, q24]
 all_goals rfl
end
end Go.Lift.P7
end

section
open Go.Proofs
namespace Go.Lift.P7
variable [MX]
open Utf Tok Spell
set_option maxRecDepth 20000
set_option maxHeartbeats 4000000
section
variable {lo : Nat} {h : Heap} {k n d : Int} {b : List Int} {w i : Bool}
theorem chars_of (hy : By b) (h : sound b = true) : charsL b = raw b := by
 unfold sound at h
 rw [Bool.and_eq_true] at h
 unfold charsL
 rw [zero_raw hy h.1]
 cases q : b.contains 0 with
 | true => rw [q] at h; cases h.2
 | false => rw [if_neg (by simp)]
theorem raw_ne (hb : b ≠ []) : 1 ≤ (raw b).length := by
 cases b with
 | nil => exact absurd rfl hb
 | cons c t => rw [raw_cons]; simp
theorem s_eq (s : ByteArray) : (s.toList == s.toList) = true := by simp
theorem k_eq (k : Int) : (k == k) = true := by simp
theorem m39a (hlo : lo ≤ h.length) (hy : By b) (hl : b.length ≤ 1000000000) (hk : k = 1 ∨ k = 2 ∨ k = 3) :
  E lo 39 [.agg (tokV k b n d w i)] h = some (.v (.bool (!b.isEmpty && sound b && Z4 n d w i)), h) := by
 have hlo2 : lo ≤ h.length + 1 := by omega
 have k1 := fun lo h => f42 (lo := lo) (h := h) hy hl
 have e : eqCells [1, 2, 1, 1, 0, 0] [.v (.int .i64 k), .v (.string (bs b)), .v (.int .i64 n), .v (.int .i64 d), .v (.bool w), .v (.bool i)] [.v (.int .i64 k), .v (.string (bs b)), .v (.int .i64 0), .v (.int .i64 0), .v (.bool false), .v (.bool false)] = some (Z4 n d w i) := by
  rw [eq_tok, s_eq, k_eq]; rfl
 rw [e39 (by simp) (by rfl)]
 unfold tokV
 cases qz : Z4 n d w i with
 | false =>
  rw [qz] at e
  rw [Bool.and_false]
  rcases hk with rfl | rfl | rfl <;> simp only [go_sem, b39, Tryz.f39, Int.reduceBEq, hlo, hlo2, k1, fl34, e] <;> rfl
 | true =>
  rw [qz] at e
  cases qs : sound b with
  | false =>
   rw [qs] at k1
   rw [Bool.and_false]
   rcases hk with rfl | rfl | rfl <;> simp only [go_sem, b39, Tryz.f39, Int.reduceBEq, hlo, hlo2, k1, fl34, e] <;> rfl
  | true =>
   rw [qs, chars_of hy qs] at k1
   by_cases hb : b = []
   ·have q : decide (0 < ((raw b).length : Int)) = false := by subst hb; rfl
    have eb : b.isEmpty = true := by simp [hb]
    rw [eb]
    rcases hk with rfl | rfl | rfl <;> simp only [go_sem, b39, Tryz.f39, Int.reduceBEq, hlo, hlo2, k1, fl34, e, q] <;> rfl
   ·have q : decide (0 < ((raw b).length : Int)) = true := by have := raw_ne hb; simp; omega
    rw [ne_empty hb]
    rcases hk with rfl | rfl | rfl <;> simp only [go_sem, b39, Tryz.f39, Int.reduceBEq, hlo, hlo2, k1, fl34, e, q] <;> rfl
theorem m39b (hlo : lo ≤ h.length) (hy : By b) (hl : b.length ≤ 1000000000) :
  E lo 39 [.agg (tokV 4 b n d w i)] h = some (.v (.bool (!b.isEmpty && sound b && (i || looseT b) && Z4 n d w false)), h) := by
 have hlo2 : lo ≤ h.length + 1 := by omega
 have k1 := fun lo h => f42 (lo := lo) (h := h) hy hl
 have e : eqCells [1, 2, 1, 1, 0, 0] [.v (.int .i64 4), .v (.string (bs b)), .v (.int .i64 n), .v (.int .i64 d), .v (.bool w), .v (.bool i)] [.v (.int .i64 4), .v (.string (bs b)), .v (.int .i64 0), .v (.int .i64 0), .v (.bool false), .v (.bool i)] = some (Z4 n d w false) := by
  rw [eq_tok, s_eq, k_eq]
  unfold Z4
  cases i <;> rfl
 rw [e39 (by simp) (by rfl)]
 unfold tokV
 cases qz : Z4 n d w false with
 | false =>
  rw [qz] at e
  rw [Bool.and_false]
  simp only [go_sem, b39, Tryz.f39, Int.reduceBEq, hlo, hlo2, k1, fl34, e]
  all_goals rfl
 | true =>
  rw [qz] at e
  cases qs : sound b with
  | false =>
   rw [qs] at k1
   rw [Bool.and_false, Bool.false_and, Bool.false_and]
   simp only [go_sem, b39, Tryz.f39, Int.reduceBEq, hlo, hlo2, k1, fl34, e]
   all_goals rfl
  | true =>
   rw [qs, chars_of hy qs] at k1
   have hw : whole b = true := by unfold sound at qs; rw [Bool.and_eq_true] at qs; exact qs.1
   rw [← loose_raw hy hw]
   by_cases hb : b = []
   ·have q : (((raw b).length : Int) == 0) = true := by subst hb; rfl
    have eb : b.isEmpty = true := by simp [hb]
    rw [eb]
    simp only [go_sem, b39, Tryz.f39, Int.reduceBEq, hlo, hlo2, k1, fl34, e, q]
    all_goals rfl
   ·have hr := raw_ne hb
    rw [ne_empty hb]
    have q : (((raw b).length : Int) == 0) = false := by rw [beq_eq_false_iff_ne]; omega
    cases i with
    | true =>
     simp only [go_sem, b39, Tryz.f39, Int.reduceBEq, hlo, hlo2, k1, fl34, e, q]
     all_goals rfl
    | false =>
     have k2 := fun lo h x => f61 (lo := lo) (h := h) (x := x)
     generalize raw b = L at *
     have main : E lo 39 [.agg (tokV 4 b n d w false)] h = some (.v (.bool (looseT L)), h) := by
      rw [e39 (by simp) (by rfl)]
      unfold tokV
      match L, hr with
      | [x], _ =>
       have g0 : ([x])[0]? = some x := rfl
       have sz : ([x]).length = 1 := rfl
       have n1 : ((1 : Nat) : Int) = 1 := rfl
       have p1 : ((1 : Int) == 0) = false := rfl
       have p2 : ((1 : Int) == 1) = true := rfl
       have er : looseT [x] = (dig x || x == 45) := by unfold looseT; simp
       rw [er]
       clear q
       generalize [x] = M at *
       cases qd : dig x with
       | true =>
        have k3 := fun lo h => k2 lo h x
        rw [qd] at k3
        simp only [go_sem, b39, Tryz.f39, Int.reduceBEq, hlo, hlo2, k1, fl34, e, sz, n1, p1, p2, g0, k3]
        all_goals rfl
       | false =>
        have k3 := fun lo h => k2 lo h x
        rw [qd] at k3
        cases qx : (x == 45) with
        | true =>
         simp only [go_sem, b39, Tryz.f39, Int.reduceBEq, hlo, hlo2, k1, fl34, e, sz, n1, p1, p2, g0, k3, qx]
         all_goals rfl
        | false =>
         simp only [go_sem, b39, Tryz.f39, Int.reduceBEq, hlo, hlo2, k1, fl34, e, sz, n1, p1, p2, g0, k3, qx]
         all_goals rfl
      | x :: y :: u, _ =>
       have g0 : (x :: y :: u)[0]? = some x := rfl
       have g1 : (x :: y :: u)[1]? = some y := rfl
       have p2 : (((x :: y :: u).length : Int) == 1) = false := by simp; omega
       have er : looseT (x :: y :: u) = (dig x || x == 45 && dig y) := rfl
       rw [er]
       generalize x :: y :: u = M at *
       have k4 := fun lo h => k2 lo h y
       cases qd : dig x with
       | true =>
        have k3 := fun lo h => k2 lo h x
        rw [qd] at k3
        simp only [go_sem, b39, Tryz.f39, Int.reduceBEq, hlo, hlo2, k1, fl34, e, q, p2, g0, g1, k3]
        all_goals rfl
       | false =>
        have k3 := fun lo h => k2 lo h x
        rw [qd] at k3
        cases qx : (x == 45) with
        | true =>
         simp only [go_sem, b39, Tryz.f39, Int.reduceBEq, hlo, hlo2, k1, fl34, e, q, p2, g0, g1, k3, k4, qx]
         all_goals rfl
        | false =>
         simp only [go_sem, b39, Tryz.f39, Int.reduceBEq, hlo, hlo2, k1, fl34, e, q, p2, g0, g1, k3, k4, qx]
         all_goals rfl
     rw [e39 (by simp) (by rfl)] at main
     unfold tokV at main
     rw [main]
     simp
theorem m39c (hlo : lo ≤ h.length) (hy : By b) (hl : b.length ≤ 1000000000) (hk : k = 5 ∨ k = 7) :
  E lo 39 [.agg (tokV k b n d w i)] h = some (.v (.bool (sound b && Z4 n d w i)), h) := by
 have hlo2 : lo ≤ h.length + 1 := by omega
 have k1 := fun lo h => f42 (lo := lo) (h := h) hy hl
 have e : eqCells [1, 2, 1, 1, 0, 0] [.v (.int .i64 k), .v (.string (bs b)), .v (.int .i64 n), .v (.int .i64 d), .v (.bool w), .v (.bool i)] [.v (.int .i64 k), .v (.string (bs b)), .v (.int .i64 0), .v (.int .i64 0), .v (.bool false), .v (.bool false)] = some (Z4 n d w i) := by
  rw [eq_tok, s_eq, k_eq]; rfl
 rw [e39 (by simp) (by rfl)]
 unfold tokV
 cases qz : Z4 n d w i with
 | false =>
  rw [qz] at e
  rw [Bool.and_false]
  rcases hk with rfl | rfl <;> simp only [go_sem, b39, Tryz.f39, Int.reduceBEq, hlo, hlo2, k1, fl34, e] <;> rfl
 | true =>
  rw [qz] at e
  rw [Bool.and_true]
  rcases hk with rfl | rfl <;> simp only [go_sem, b39, Tryz.f39, Int.reduceBEq, hlo, hlo2, k1, fl34, e] <;> rfl
theorem m39d (hlo : lo ≤ h.length) (hy : By b) (hl : b.length ≤ 1000000000) :
  E lo 39 [.agg (tokV 9 b n d w i)] h = some (.v (.bool (signT b && Z4 n d w i)), h) := by
 have hlo2 : lo ≤ h.length + 1 := by omega
 have k1 := fun lo h => f42 (lo := lo) (h := h) hy hl
 have k2 := fun lo h => f62 (lo := lo) (h := h) hy hl
 have e : eqCells [1, 2, 1, 1, 0, 0] [.v (.int .i64 9), .v (.string (bs b)), .v (.int .i64 n), .v (.int .i64 d), .v (.bool w), .v (.bool i)] [.v (.int .i64 9), .v (.string (bs b)), .v (.int .i64 0), .v (.int .i64 0), .v (.bool false), .v (.bool false)] = some (Z4 n d w i) := by
  rw [eq_tok, s_eq, k_eq]; rfl
 rw [e39 (by simp) (by rfl)]
 unfold tokV
 cases qz : Z4 n d w i with
 | false =>
  rw [qz] at e
  rw [Bool.and_false]
  simp only [go_sem, b39, Tryz.f39, Int.reduceBEq, hlo, hlo2, k1, fl34, e]
  all_goals rfl
 | true =>
  rw [qz] at e
  rw [Bool.and_true]
  simp only [go_sem, b39, Tryz.f39, Int.reduceBEq, hlo, hlo2, k1, k2, fl34, e]
  all_goals rfl
theorem m39e (hlo : lo ≤ h.length) (hy : By b) (hl : b.length ≤ 1000000000) (h0 : -9223372036854775808 ≤ n) (h1 : n ≤ 9223372036854775807) (h2 : -9223372036854775808 ≤ d) (h3 : d ≤ 9223372036854775807) :
  E lo 39 [.agg (tokV 12 b n d w i)] h = some (.v (.bool (!b.isEmpty && sound b && (plainT n d w).isSome && (i == false))), h) := by
 have hlo2 : lo ≤ h.length + 1 := by omega
 have hlo3 : ∀ x y : Ob, lo ≤ (h ++ [x, y]).length := fun x y => by simp; omega
 have k1 := fun lo h => f42 (lo := lo) (h := h) hy hl
 have k2 := fun (lo : Nat) (h : Heap) (hlo : lo ≤ h.length) => f40 (lo := lo) (h := h) hlo (n := n) (d := d) (w := w) h0 h1 h2 h3
 have k2 := k2 lo (h ++ [.cells (tokV 12 b n d w i), .cells (tokV 12 b n d w false)]) (hlo3 _ _)
 obtain ⟨t, er, he, hs⟩ := plain_size (plainT n d w)
 rw [he] at k2
 have e : eqCells [1, 2, 1, 1, 0, 0] [.v (.int .i64 12), .v (.string (bs b)), .v (.int .i64 n), .v (.int .i64 d), .v (.bool w), .v (.bool i)] [.v (.int .i64 12), .v (.string (bs b)), .v (.int .i64 n), .v (.int .i64 d), .v (.bool w), .v (.bool false)] = some (i == false) := by
  rw [eq_tok, s_eq, k_eq, k_eq, k_eq]; cases w <;> rfl
 rw [e39 (by simp) (by rfl)]
 rw [← hs]
 unfold tokV at *
 cases qs : sound b with
 | false =>
  rw [qs] at k1
  rw [Bool.and_false, Bool.false_and, Bool.false_and]
  simp only [go_sem, b39, Tryz.f39, Int.reduceBEq, hlo, hlo2, k1]
  all_goals rfl
 | true =>
  rw [qs, chars_of hy qs] at k1
  by_cases hb : b = []
  ·have q : (((raw b).length : Int) == 0) = true := by subst hb; rfl
   have eb : b.isEmpty = true := by simp [hb]
   rw [eb]
   simp only [go_sem, b39, Tryz.f39, Int.reduceBEq, hlo, hlo2, k1, q]
   all_goals rfl
  ·have hr := raw_ne hb
   rw [ne_empty hb]
   have q : (((raw b).length : Int) == 0) = false := by rw [beq_eq_false_iff_ne]; omega
   cases qi : (i == false) with
   | true =>
    rw [qi] at e
    simp only [go_sem, b39, Tryz.f39, Int.reduceBEq, hlo, hlo2, k1, k2, fl34, e, q]
    all_goals simp
    all_goals rfl
   | false =>
    rw [qi] at e
    simp only [go_sem, b39, Tryz.f39, Int.reduceBEq, hlo, hlo2, k1, k2, fl34, e, q]
    all_goals simp
    all_goals rfl
theorem m39f (hlo : lo ≤ h.length) (hy : By b) (hl : b.length ≤ 1000000000) (hk : k = 10 ∨ k = 11) (h0 : -9223372036854775808 ≤ n) (h1 : n ≤ 9223372036854775807) (h2 : -9223372036854775808 ≤ d) (h3 : d ≤ 9223372036854775807) :
  E lo 39 [.agg (tokV k b n d w i)] h = some (.v (.bool ((plainT n d w).isSome && (b.isEmpty && (i == false)))), h) := by
 have hlo2 : lo ≤ h.length + 1 := by omega
 have hlo3 : ∀ x y : Ob, lo ≤ (h ++ [x, y]).length := fun x y => by simp; omega
 have k1 := fun lo h => f42 (lo := lo) (h := h) hy hl
 have k2 := fun (lo : Nat) (h : Heap) (hlo : lo ≤ h.length) => f40 (lo := lo) (h := h) hlo (n := n) (d := d) (w := w) h0 h1 h2 h3
 have k2 := k2 lo (h ++ [.cells (tokV k b n d w i), .cells [.v (.int .i64 k), .v (.string ByteArray.empty), .v (.int .i64 n), .v (.int .i64 d), .v (.bool w), .v (.bool false)]]) (hlo3 _ _)
 obtain ⟨t, er, he, hs⟩ := plain_size (plainT n d w)
 rw [he] at k2
 have t1 := bs_nil_eq b
 have eb : decide (b = []) = b.isEmpty := by cases b <;> simp
 have e : eqCells [1, 2, 1, 1, 0, 0] [.v (.int .i64 k), .v (.string (bs b)), .v (.int .i64 n), .v (.int .i64 d), .v (.bool w), .v (.bool i)] [.v (.int .i64 k), .v (.string ByteArray.empty), .v (.int .i64 n), .v (.int .i64 d), .v (.bool w), .v (.bool false)] = some (b.isEmpty && (i == false)) := by
  rw [eq_tok, t1, eb, k_eq, k_eq, k_eq]; cases w <;> rfl
 rw [e39 (by simp) (by rfl)]
 rw [← hs]
 unfold tokV at *
 cases qi : (b.isEmpty && (i == false)) with
 | true =>
  rw [qi] at e
  rcases hk with rfl | rfl <;> simp only [go_sem, b39, Tryz.f39, Int.reduceBEq, hlo, hlo2, k1, k2, fl34, e] <;> simp <;> rfl
 | false =>
  rw [qi] at e
  rcases hk with rfl | rfl <;> simp only [go_sem, b39, Tryz.f39, Int.reduceBEq, hlo, hlo2, k1, k2, fl34, e] <;> simp <;> rfl
theorem m39g (hlo : lo ≤ h.length) (hy : By b) (hl : b.length ≤ 1000000000) (hk : k = 6 ∨ k = 8 ∨ k = 13 ∨ k = 14 ∨ k = 15 ∨ k = 16 ∨ k = 17 ∨ k = 18 ∨ k = 19 ∨ k = 20 ∨ k = 21 ∨ k = 22 ∨ k = 23 ∨ k = 24) :
  E lo 39 [.agg (tokV k b n d w i)] h = some (.v (.bool (b.isEmpty && Z4 n d w i)), h) := by
 have hlo2 : lo ≤ h.length + 1 := by omega
 have k1 := fun lo h => f42 (lo := lo) (h := h) hy hl
 have t1 := bs_nil_eq b
 have eb : decide (b = []) = b.isEmpty := by cases b <;> simp
 have e : eqCells [1, 2, 1, 1, 0, 0] [.v (.int .i64 k), .v (.string (bs b)), .v (.int .i64 n), .v (.int .i64 d), .v (.bool w), .v (.bool i)] [.v (.int .i64 k), .v (.string ByteArray.empty), .v (.int .i64 0), .v (.int .i64 0), .v (.bool false), .v (.bool false)] = some (b.isEmpty && Z4 n d w i) := by
  rw [eq_tok, k_eq, t1, eb]; rfl
 rw [e39 (by simp) (by rfl)]
 unfold tokV
 rcases hk with rfl | rfl | rfl | rfl | rfl | rfl | rfl | rfl | rfl | rfl | rfl | rfl | rfl | rfl <;> simp only [go_sem, b39, Tryz.f39, Int.reduceBEq, Int.reduceLE, decide_true, hlo, hlo2, k1, fl34, e] <;> rfl
theorem m39h (hlo : lo ≤ h.length) (hy : By b) (hl : b.length ≤ 1000000000) (hk : k < 1 ∨ 24 < k) : E lo 39 [.agg (tokV k b n d w i)] h = some (.v (.bool false), h) := by
 have hlo2 : lo ≤ h.length + 1 := by omega
 have k1 := fun lo h => f42 (lo := lo) (h := h) hy hl
 have q : ∀ x : Int, 1 ≤ x → x ≤ 24 → (k == x) = false := fun x h1 h2 => by simp; omega
 have q1 := q 1 (by omega) (by omega); have q2 := q 2 (by omega) (by omega); have q3 := q 3 (by omega) (by omega); have q4 := q 4 (by omega) (by omega); have q5 := q 5 (by omega) (by omega)
 have q7 := q 7 (by omega) (by omega); have q9 := q 9 (by omega) (by omega); have q10 := q 10 (by omega) (by omega); have q11 := q 11 (by omega) (by omega); have q12 := q 12 (by omega) (by omega)
 rw [e39 (by simp) (by rfl)]
 unfold tokV
 rcases hk with hk | hk
 ·have p1 : decide (1 ≤ k) = false := by simp; omega
  simp only [go_sem, b39, Tryz.f39, hlo, hlo2, k1, q1, q2, q3, q4, q5, q7, q9, q10, q11, q12, p1]
  all_goals rfl
 ·have p1 : decide (1 ≤ k) = true := by simp; omega
  have p2 : decide (k ≤ 24) = false := by simp; omega
  simp only [go_sem, b39, Tryz.f39, hlo, hlo2, k1, q1, q2, q3, q4, q5, q7, q9, q10, q11, q12, p1, p2]
  all_goals rfl
end
end Go.Lift.P7
end

section
open Go.Proofs
namespace Go.Lift.P7
variable [MX]
open Utf Tok Spell
set_option maxRecDepth 20000
set_option maxHeartbeats 4000000
section
variable {lo : Nat} {h : Heap} {k n d : Int} {b : List Int} {w i : Bool}
theorem kinds (k : Int) : (k = 1 ∨ k = 2 ∨ k = 3) ∨ k = 4 ∨ (k = 5 ∨ k = 7) ∨ k = 9 ∨ k = 12 ∨ (k = 10 ∨ k = 11) ∨
  (k = 6 ∨ k = 8 ∨ k = 13 ∨ k = 14 ∨ k = 15 ∨ k = 16 ∨ k = 17 ∨ k = 18 ∨ k = 19 ∨ k = 20 ∨ k = 21 ∨ k = 22 ∨ k = 23 ∨ k = 24) ∨ (k < 1 ∨ 24 < k) := by omega
def mayV (k : Int) (b : List Int) (n d : Int) (w i : Bool) : Bool :=
 if k = 1 ∨ k = 2 ∨ k = 3 then !b.isEmpty && sound b && Z4 n d w i
 else if k = 4 then !b.isEmpty && sound b && (i || looseT b) && Z4 n d w false
 else if k = 5 ∨ k = 7 then sound b && Z4 n d w i
 else if k = 9 then signT b && Z4 n d w i
 else if k = 12 then !b.isEmpty && sound b && (plainT n d w).isSome && (i == false)
 else if k = 10 ∨ k = 11 then (plainT n d w).isSome && (b.isEmpty && (i == false))
 else if 1 ≤ k ∧ k ≤ 24 then b.isEmpty && Z4 n d w i else false
theorem f27 (hlo : lo ≤ h.length) (hy : By b) (hl : b.length ≤ 1000000000) (h0 : -9223372036854775808 ≤ n) (h1 : n ≤ 9223372036854775807) (h2 : -9223372036854775808 ≤ d) (h3 : d ≤ 9223372036854775807) :
  E lo 27 [.agg (tokV k b n d w i)] h = some (.v (.bool (mayV k b n d w i)), h) := by
 unfold mayV
 rcases kinds k with hk | hk | hk | hk | hk | hk | hk | hk
 ·rw [if_pos hk]; exact m23a hlo hy hl hk
 ·subst hk; exact m23b hlo hy hl
 ·rw [if_neg (by omega), if_neg (by omega), if_pos hk]; exact m23c hlo hy hl hk
 ·subst hk; exact m23d hlo hy hl
 ·subst hk; exact m23e hlo hy hl h0 h1 h2 h3
 ·rw [if_neg (by omega), if_neg (by omega), if_neg (by omega), if_neg (by omega), if_neg (by omega), if_pos hk]; exact m23f hlo hk h0 h1 h2 h3
 ·rw [if_neg (by omega), if_neg (by omega), if_neg (by omega), if_neg (by omega), if_neg (by omega), if_neg (by omega), if_pos (by omega)]; exact m23g hlo hk
 ·rw [if_neg (by omega), if_neg (by omega), if_neg (by omega), if_neg (by omega), if_neg (by omega), if_neg (by omega), if_neg (by omega)]; exact m23h hlo hk
theorem f39 (hlo : lo ≤ h.length) (hy : By b) (hl : b.length ≤ 1000000000) (h0 : -9223372036854775808 ≤ n) (h1 : n ≤ 9223372036854775807) (h2 : -9223372036854775808 ≤ d) (h3 : d ≤ 9223372036854775807) :
  E lo 39 [.agg (tokV k b n d w i)] h = some (.v (.bool (mayV k b n d w i)), h) := by
 unfold mayV
 rcases kinds k with hk | hk | hk | hk | hk | hk | hk | hk
 ·rw [if_pos hk]; exact m39a hlo hy hl hk
 ·subst hk; exact m39b hlo hy hl
 ·rw [if_neg (by omega), if_neg (by omega), if_pos hk]; exact m39c hlo hy hl hk
 ·subst hk; exact m39d hlo hy hl
 ·subst hk; exact m39e hlo hy hl h0 h1 h2 h3
 ·rw [if_neg (by omega), if_neg (by omega), if_neg (by omega), if_neg (by omega), if_neg (by omega), if_pos hk]; exact m39f hlo hy hl hk h0 h1 h2 h3
 ·rw [if_neg (by omega), if_neg (by omega), if_neg (by omega), if_neg (by omega), if_neg (by omega), if_neg (by omega), if_pos (by omega)]; exact m39g hlo hy hl hk
 ·rw [if_neg (by omega), if_neg (by omega), if_neg (by omega), if_neg (by omega), if_neg (by omega), if_neg (by omega), if_neg (by omega)]; exact m39h hlo hy hl hk
end
end Go.Lift.P7
end

section
open Go.Proofs
namespace Go.Lift.P7
variable [MX]
open Utf Tok Spell
set_option maxRecDepth 20000
set_option maxHeartbeats 4000000
variable {lo : Nat} {h : Heap}
structure OkT (t : Rul.Tk4) : Prop where
 hy : By t.b
 hl : t.b.length ≤ 10000000
 h0 : -9223372036854775808 ≤ t.n
 h1 : t.n ≤ 9223372036854775807
 h2 : -9223372036854775808 ≤ t.d
 h3 : t.d ≤ 9223372036854775807
def mayT (t : Rul.Tk4) : Bool := mayV t.k t.b t.n t.d t.w t.i
theorem row_tokV (t : Rul.Tk4) : Rul.row t = tokV t.k t.b t.n t.d t.w t.i := rfl
abbrev N13 (l : List Rul.Tk4) (k : Int) : Env := [(9, .list .no (l.map Rul.row)), (10, .v (.int .i64 l.length)), (11, .v (.int .i64 k))]
theorem round13 {l : List Rul.Tk4} {t : Rul.Tk4} {k : Nat} (hlo : lo ≤ h.length) (hl : l.length ≤ 1000000000) (hg : l[k]? = some t) (hok : OkT t) :
  evCode ⟨Tryz.prog, E, lo, h.length, h13⟩ loopW l13x0 (N13 l k, h) =
   if mayT t = true then some (.normal, N13 l (k + 1 : Nat), h) else some (.ret, [(2, .v (.bool false))], h ++ [.cells (Rul.row t)]) := by
 have hlt : k < l.length := (List.getElem?_eq_some_iff.1 hg).1
 have hgr : (l.map Rul.row)[k]? = some (Rul.row t) := by simp [hg]
 have q : decide ((k : Int) < (l.length : Int)) = true := by simp; omega
 have hw : IntKind.i64.wrap ((k : Int) + 1) = ((k + 1 : Nat) : Int) := wrap_succ (by omega)
 have hlo' : lo ≤ h.length + 1 := by omega
 have hb : t.b.length ≤ 1000000000 := by have := hok.hl; omega
 have c27 := fun lo hlo => f27 (lo := lo) (h := h ++ [.cells (Rul.row t)]) (k := t.k) (b := t.b) (n := t.n) (d := t.d) (w := t.w) (i := t.i) hlo hok.hy hb hok.h0 hok.h1 hok.h2 hok.h3
 have c27a := c27 lo (by simp; omega); have c27b := c27 h.length (by simp); have c27c := c27 (h.length + 1) (by simp)
 clear c27
 unfold mayT
 rw [row_tokV] at *
 unfold tokV at *
 cases hm : mayV t.k t.b t.n t.d t.w t.i with
 | true =>
  rw [hm] at c27a c27b c27c
  rw [if_pos rfl]
  simp only [go_sem, l13x0, b13, Tryz.f13, hlo, hlo', q, hgr, hw, c27a, c27b, c27c, List.length_map]
  all_goals rfl
 | false =>
  rw [hm] at c27a c27b c27c
  rw [if_neg (show ¬ false = true by simp)]
  simp only [go_sem, l13x0, b13, Tryz.f13, hlo, hlo', q, hgr, hw, c27a, c27b, c27c, List.length_map]
  all_goals rfl
theorem stop13 {l : List Rul.Tk4} (hlo : lo ≤ h.length) : evCode ⟨Tryz.prog, E, lo, h.length, h13⟩ loopW l13x0 (N13 l l.length, h) =
   some (.exit 0, N13 l l.length ++ [(12, .v (.bool false))], h) := by
 have q : decide ((l.length : Int) < (l.length : Int)) = false := by simp
 simp only [go_sem, l13x0, b13, Tryz.f13, hlo, q]
 all_goals rfl
theorem loop13 {l : List Rul.Tk4} (hlo : lo ≤ h.length) (hl : l.length ≤ 1000000000) (hok : ∀ t ∈ l, OkT t) : ∀ (m k : Nat), k + m = l.length →
  if (l.drop k).all mayT = true then
   loopW (evCode ⟨Tryz.prog, E, lo, h.length, h13⟩ loopW l13x0) (N13 l k, h) = some (.exit 0, N13 l l.length ++ [(12, .v (.bool false))], h)
  else ∃ X, loopW (evCode ⟨Tryz.prog, E, lo, h.length, h13⟩ loopW l13x0) (N13 l k, h) = some (.ret, [(2, .v (.bool false))], h ++ X) := by
 intro m
 induction m with
 | zero =>
  intro k hk
  obtain rfl : k = l.length := by omega
  rw [List.drop_length, if_pos (show ([] : List Rul.Tk4).all mayT = true from rfl), loop_eq, stop13 hlo, loop_e]
 | succ m ih =>
  intro k hk
  have hlt : k < l.length := by omega
  have hg : l[k]? = some l[k] := List.getElem?_eq_getElem hlt
  have hd : l.drop k = l[k] :: l.drop (k + 1) := List.drop_eq_getElem_cons hlt
  have hok1 := hok l[k] (List.getElem_mem hlt)
  rw [hd]
  generalize l[k] = t at *
  have hr := round13 hlo hl hg hok1
  cases hm : mayT t with
  | false =>
   rw [hm, if_neg (by simp)] at hr
   rw [List.all_cons, hm, Bool.false_and, if_neg (by simp)]
   exact ⟨_, by rw [loop_eq, hr, loop_r]⟩
  | true =>
   rw [hm, if_pos rfl] at hr
   rw [List.all_cons, hm, Bool.true_and, loop_eq, hr, loop_n]
   exact ih (k + 1) (by omega)
def fineL (l : List Rul.CV) : Bool := Rul.mayL 64 l && (Rul.flatL l).all mayT
theorem f13 {l : List Rul.CV} (hlo : lo ≤ h.length) (hl : Rul.nodesL l ≤ 100000000) (hok : ∀ t ∈ Rul.flatL l, OkT t) : E lo 13 [.list .no (Rul.rowsC l)] h = some (.v (.bool (fineL l)), h) := by
 have c26 := fun lo hlo => f26 (lo := lo) (h := h) (l := l) hlo (by omega)
 have c26a := c26 lo hlo; have c26b := c26 h.length (Nat.le_refl _)
 have c15 := fun lo hlo => f15 (lo := lo) (h := h) (l := l) hlo hl
 have c15a := c15 lo hlo; have c15b := c15 h.length (Nat.le_refl _)
 clear c26 c15
 have hfl := Rul.flatL_len l
 have hL := loop13 (lo := lo) (h := h) (l := Rul.flatL l) hlo (by omega) hok (Rul.flatL l).length 0 (by omega)
 rw [List.drop_zero] at hL
 have n0 : ((0 : Nat) : Int) = 0 := rfl
 unfold fineL
 rw [e13 (by simp) (by rfl)]
 cases hm : Rul.mayL 64 l with
 | false =>
  rw [hm] at c26a c26b
  rw [Bool.false_and]
  simp only [go_sem, b13, Tryz.f13, hlo, c26a, c26b]
  all_goals rfl
 | true =>
  rw [hm] at c26a c26b
  rw [Bool.true_and]
  cases ha : (Rul.flatL l).all mayT with
  | false =>
   rw [ha, if_neg (by simp)] at hL
   obtain ⟨X, hL⟩ := hL
   simp only [l13x0, b13, Tryz.f13, loopAt, loops, bodyOf, go_sem, N13, n0] at hL
   simp only [go_sem, b13, Tryz.f13, hlo, c26a, c26b, c15a, c15b, hL, List.length_map, n0]
   all_goals rfl
  | true =>
   rw [ha, if_pos rfl] at hL
   simp only [l13x0, b13, Tryz.f13, loopAt, loops, bodyOf, go_sem, N13, n0, List.cons_append, List.nil_append] at hL
   simp only [go_sem, b13, Tryz.f13, hlo, c26a, c26b, c15a, c15b, hL, List.length_map, n0]
   all_goals rfl
end Go.Lift.P7
end

section
open Go.Proofs
namespace Go.Lift.P7
open Rul
variable [MX]
set_option maxRecDepth 20000
set_option maxHeartbeats 4000000
variable {lo : Nat} {h : Heap}
abbrev N30 (out : List Tk4) (l : List CV) (k : Int) : Env := [(3, .list .yes (out.map row)), (7, .list .no (rowsC l)), (8, .v (.int .i64 l.length)), (9, .v (.int .i64 k))]
theorem row_app (out m : List Tk4) : out.map row ++ m.map row = (out ++ m).map row := by rw [List.map_append]
theorem limC {n : Nat} (h : n ≤ 1000000000) : n * 48 ≤ 140737488355328 := by omega
theorem limD {n : Nat} (h : n ≤ 1000000000) : n ≤ 9223372036854775807 := by omega
theorem round18 {l ks : List CV} {t : Tk4} {out : List Tk4} {k : Nat} (hlo : lo ≤ h.length) (hl : l.length ≤ 1000000000) (hg : l[k]? = some (.mk t ks)) (ho : out.length + (flatL ks).length + 2 ≤ 1000000000)
  (ih : ∀ lo h, lo ≤ h.length → E lo 18 [.list .no (rowsC ks)] h = some (.list .no ((flatL ks).map row), h)) :
  evCode ⟨Tryz.prog, E, lo, h.length, h18⟩ loopW l18x0 (N30 out l k, h) = some (.normal, N30 (out ++ flatV (.mk t ks)) l (k + 1 : Nat), h) := by
 have hlt : k < l.length := (List.getElem?_eq_some_iff.1 hg).1
 have hgr : (rowsC l)[k]? = some (rowV (.mk t ks)) := by rw [rowsC_get, hg]; rfl
 have q : decide ((k : Int) < (l.length : Int)) = true := by simp; omega
 have hw : IntKind.i64.wrap ((k : Int) + 1) = ((k + 1 : Nat) : Int) := wrap_succ (by omega)
 have hlo' : lo ≤ h.length + 1 := by omega
 have c42 := fun lo hlo => f35 (lo := lo) (h := h ++ [.cells (rowV (.mk t ks))]) hlo t.k
 have c42a := c42 lo (by simp; omega); have c42b := c42 h.length (by simp); have c42c := c42 (h.length + 1) (by simp)
 have c30 := fun lo hlo => ih lo (h ++ [.cells (rowV (.mk t ks))]) hlo
 have c30a := c30 lo (by simp; omega); have c30b := c30 h.length (by simp); have c30c := c30 (h.length + 1) (by simp)
 clear c42 c30 ih
 have hf : flatV (.mk t ks) = [t] ++ (flatL ks ++ clT (closer t.k)) := by
  have := flatL_cons t ks []
  rw [flatL_nil, List.append_nil, flatL, flatL_nil, List.append_nil] at this
  exact this
 rw [hf]
 rw [rowV_eq] at *
 have ra := row_all out
 have rb := row_all (out ++ [t])
 have rc := row_all (out ++ [t] ++ flatL ks)
 have rk := row_all (flatL ks)
 have rd := row_all (out ++ t :: flatL ks)
 have o8 : (out.length + ((flatL ks).length + 1) + 1) * 48 ≤ 140737488355328 := lim48 (by omega)
 have o9 : out.length + ((flatL ks).length + 1) ≤ 9223372036854775806 := limA (by omega)
 have o1 : (out.length + 1) * 48 ≤ 140737488355328 := lim48 (by omega)
 have o2 : out.length ≤ 9223372036854775806 := limA (by omega)
 have o3 : (out.length + 1 + (flatL ks).length) * 48 ≤ 140737488355328 := limC (by omega)
 have o4 : out.length + 1 + (flatL ks).length ≤ 9223372036854775807 := limD (by omega)
 have o5 : (out.length + 1 + (flatL ks).length + 1) * 48 ≤ 140737488355328 := limC (by omega)
 have o6 : out.length + 1 + (flatL ks).length ≤ 9223372036854775806 := limA (by omega)
 have o7 : out.length + 1 ≤ 9223372036854775807 := limD (by omega)
 have hn := closer_nn t.k
 by_cases hc : closer t.k = 0
 ·have qc : (closer t.k != 0) = false := by rw [hc]; rfl
  have e : clT (closer t.k) = [] := by rw [hc]; rfl
  rw [e, List.append_nil, ← List.append_assoc]
  simp only [go_sem, l18x0, b18, Tryz.f18, hlo, hlo', q, hgr, hw, qc, c42a, c42b, c42c, c30a, c30b, c30c, ra, rb, rc, rk, o1, o2, o3, o4, o5, o6, o7, o8, o9, rd, row_put, row_app, row_bare, rowsC_len, List.length_map, List.length_append, List.length_cons, List.length_nil, Nat.zero_add]
  all_goals rfl
 ·have qc : (closer t.k != 0) = true := by rw [bne_iff_ne]; exact hc
  have e : clT (closer t.k) = [Rul.bare (closer t.k)] := by unfold clT; rw [if_pos (by omega)]
  rw [e, ← List.append_assoc, ← List.append_assoc]
  simp only [go_sem, l18x0, b18, Tryz.f18, hlo, hlo', q, hgr, hw, qc, c42a, c42b, c42c, c30a, c30b, c30c, ra, rb, rc, rk, o1, o2, o3, o4, o5, o6, o7, o8, o9, rd, row_put, row_app, row_bare, rowsC_len, List.length_map, List.length_append, List.length_cons, List.length_nil, Nat.zero_add]
  all_goals rfl
theorem stop18 {l : List CV} {out : List Tk4} (hlo : lo ≤ h.length) : evCode ⟨Tryz.prog, E, lo, h.length, h18⟩ loopW l18x0 (N30 out l l.length, h) =
   some (.exit 0, N30 out l l.length ++ [(10, .v (.bool false))], h) := by
 have q : decide ((l.length : Int) < (l.length : Int)) = false := by simp
 simp only [go_sem, l18x0, b18, Tryz.f18, hlo, q]
 all_goals rfl
theorem flatL_cat (v : CV) (r : List CV) : flatL (v :: r) = flatV v ++ flatL r := by rw [flatL]
theorem loop18 {l : List CV} (hlo : lo ≤ h.length) (hl : nodesL l ≤ 100000000) (ih : ∀ v ∈ l, ∀ lo h, lo ≤ h.length → E lo 18 [.list .no (rowsC v.ks)] h = some (.list .no ((flatL v.ks).map row), h)) :
  ∀ (m k : Nat) (out : List Tk4), k + m = l.length → out.length + 2 * nodesL (l.drop k) ≤ 900000000 →
   loopW (evCode ⟨Tryz.prog, E, lo, h.length, h18⟩ loopW l18x0) (N30 out l k, h) = some (.exit 0, N30 (out ++ flatL (l.drop k)) l l.length ++ [(10, .v (.bool false))], h) := by
 have hlen := nodesL_len l
 intro m
 induction m with
 | zero =>
  intro k out hk _
  obtain rfl : k = l.length := by omega
  rw [List.drop_length, flatL_nil, List.append_nil, loop_eq, stop18 hlo, loop_e]
 | succ m ihm =>
  intro k out hk ho
  have hlt : k < l.length := by omega
  have hg : l[k]? = some l[k] := List.getElem?_eq_getElem hlt
  have hd : l.drop k = l[k] :: l.drop (k + 1) := List.drop_eq_getElem_cons hlt
  have him := ih l[k] (List.getElem_mem hlt)
  rw [hd, flatL_cat]
  rw [hd, nodesL_cons] at ho
  generalize l[k] = v at *
  obtain ⟨t, ks⟩ := v
  rw [nodesV] at ho
  have hfl := flatL_len ks
  have hfv := flatV_len (.mk t ks)
  rw [nodesV] at hfv
  rw [loop_eq, round18 hlo (by omega) hg (by omega) him, loop_n, ihm (k + 1) _ (by omega) (by rw [List.length_append]; omega), List.append_assoc]
theorem f18 : ∀ (n : Nat) (l : List CV), nodesL l ≤ n → n ≤ 100000000 → ∀ (lo : Nat) (h : Heap), lo ≤ h.length → E lo 18 [.list .no (rowsC l)] h = some (.list .no ((flatL l).map row), h) := by
 intro n
 induction n with
 | zero =>
  intro l hl hn lo h hlo
  have : l = [] := by
   have := nodesL_len l
   exact List.eq_nil_of_length_eq_zero (by omega)
  subst this
  have hL := loop18 (lo := lo) (h := h) (l := []) hlo (by omega) (fun v hv => by cases hv) 0 0 [] rfl (by rw [List.drop_nil, nodesL_nil]; simp)
  have n0 : ((0 : Nat) : Int) = 0 := rfl
  rw [e18 (by simp) (by rfl)]
  simp only [l18x0, b18, Tryz.f18, loopAt, loops, bodyOf, go_sem, N30, n0, List.map_nil, List.cons_append, List.nil_append, List.drop_nil, flatL_nil, rowsC_nil, List.length_nil] at hL
  simp only [go_sem, b18, Tryz.f18, hlo, hL, rowsC_nil, List.length_nil, n0, flatL_nil, List.map_nil]
  all_goals rfl
 | succ n ihn =>
  intro l hl hn lo h hlo
  have hL := loop18 (lo := lo) (h := h) (l := l) hlo (by omega) (fun v hv lo h hlo => ihn v.ks (by have := nodesL_mem hv; rw [nodesV_eq] at this; omega) (by omega) lo h hlo) l.length 0 [] (by omega) (by rw [List.drop_zero]; simp; omega)
  have n0 : ((0 : Nat) : Int) = 0 := rfl
  rw [List.drop_zero, List.nil_append] at hL
  rw [e18 (by simp) (by rfl)]
  simp only [l18x0, b18, Tryz.f18, loopAt, loops, bodyOf, go_sem, N30, n0, List.map_nil, List.cons_append, List.nil_append] at hL
  simp only [go_sem, b18, Tryz.f18, hlo, hL, rowsC_len, n0]
  all_goals rfl
end Go.Lift.P7
end

section
open Go.Proofs
namespace Go.Lift.P7
variable [MX]
open Utf Tok Spell
set_option maxRecDepth 20000
set_option maxHeartbeats 4000000
theorem rows_ri (l : List Int) : rowsInts (ri .u8 l) = some l := by
 induction l with
 | nil => rfl
 | cons n l ih => rw [ri_cons]; unfold rowsInts; rw [ih]; rfl
theorem by_all {l : List Int} (hy : By l) : (l.all fun c => decide (0 ≤ c) && decide (c ≤ 255)) = true := by
 rw [List.all_eq_true]
 intro c hc
 have := hy c hc
 simp
 exact this
section
variable {lo : Nat} {p q : Heap} {p0 x : V} {out : List Int}
theorem at_ob (o : Ob) : (p ++ o :: q)[p.length]? = some o := by simp
theorem set_ob (o : Ob) (cs : List V) : Lift.setOb (p ++ o :: q) p.length cs = p ++ .cells cs :: q := by
 unfold Lift.setOb
 rw [List.set_append_right _ _ (Nat.le_refl _)]
 simp
theorem ok_self : okP p.length (.ptr p.length 0) = true := by simp [okP]
theorem ok_nil (i : Nat) : okP i (.v (.pointer none)) = true := rfl
theorem f58 (hlo : lo ≤ p.length) (hp : okP p.length p0 = true) : E lo 58 [.ptr p.length 0] (p ++ .cells [p0, x] :: q) = some (.tup [], p ++ .cells [.ptr p.length 0, x] :: q) := by
 show ev _ hints primz lo _ _ _ = _
 rw [ev_prim (p := ccP) rfl]
 unfold ccP
 simp only [at_ob]
 rw [if_pos ⟨hlo, hp, by simp⟩, set_ob]
theorem f77 (hlo : lo ≤ p.length) (hp : okP p.length p0 = true) {r : Int} (h0 : -2147483648 ≤ r) (h1 : r ≤ 2147483647) (hl : out.length ≤ 1000000000) :
  E lo 77 [.ptr p.length 0, .v (.int .i32 r)] (p ++ .cells [p0, .list .yes (ri .u8 out)] :: q) =
   some (.tup [.v (.int .i64 ((enc (scal r)).length : Nat)), .v .nilIface], p ++ .cells [.ptr p.length 0, .list .yes (ri .u8 (out ++ enc (scal r)))] :: q) := by
 show ev _ hints primz lo _ _ _ = _
 rw [ev_prim (p := wrP) rfl]
 unfold wrP
 simp only [at_ob, rows_ri]
 rw [if_pos ⟨hlo, hp, h0, h1, hl⟩, set_ob]
theorem f31 (hlo : lo ≤ p.length) (hy : By out) (hl : out.length ≤ 1000000000) :
  E lo 31 [.ptr p.length 0] (p ++ .cells [p0, .list .yes (ri .u8 out)] :: q) = some (.v (.string (bs out)), p ++ .cells [p0, .list .no (ri .u8 out)] :: q) := by
 show ev _ hints primz lo _ _ _ = _
 rw [ev_prim (p := stP) rfl]
 unfold stP
 simp only [at_ob, rows_ri]
 rw [if_pos ⟨hlo, by_all hy, hl⟩, set_ob]
 rfl
theorem f78 (hlo : lo ≤ p.length) (hp : okP p.length p0 = true) {c : Int} (hl : out.length ≤ 1000000000) :
  E lo 78 [.ptr p.length 0, .v (.int .u8 c)] (p ++ .cells [p0, .list .yes (ri .u8 out)] :: q) =
   some (.v .nilIface, p ++ .cells [.ptr p.length 0, .list .yes (ri .u8 (out ++ [c]))] :: q) := by
 have k := f58 (lo := lo) (p := p) (q := q) (p0 := p0) (x := .list .yes (ri .u8 out)) hlo hp
 have hr : ∀ k, k ≤ 4 → (out.length + k) * 1 ≤ 140737488355328 := by intro k hk; omega
 have hq : ∀ k, 9223372036854775800 ≤ k → out.length ≤ k := by intro k hk; omega
 have e : ri .u8 (out ++ [c]) = ri .u8 out ++ [[V.v (.int .u8 c)]] := by rw [← ri_app]; rfl
 rw [e78 (by simp) (by rfl), e]
 simp only [go_sem, b78, Tryz.f78, k, hr, hq, hlo]
 all_goals rfl
theorem f30 (hlo : lo ≤ p.length) (hp : okP p.length p0 = true) {s : List Int} (hs : By s) (hl : out.length ≤ 1000000000) (hl2 : s.length ≤ 1000000000) :
  E lo 30 [.ptr p.length 0, .v (.string (bs s))] (p ++ .cells [p0, .list .yes (ri .u8 out)] :: q) =
   some (.tup [.v (.int .i64 s.length), .v .nilIface], p ++ .cells [.ptr p.length 0, .list .yes (ri .u8 (out ++ s))] :: q) := by
 have k := f58 (lo := lo) (p := p) (q := q) (p0 := p0) (x := .list .yes (ri .u8 out)) hlo hp
 have e : ri .u8 (out ++ s) = ri .u8 out ++ ri .u8 s := by rw [← ri_app]
 have sz := bs_size s
 have h1 : (out.length + s.length) * 1 ≤ 140737488355328 := by omega
 have h2 : out.length + s.length ≤ 9223372036854775807 := by omega
 rw [e30 (by simp) (by rfl), e]
 simp only [go_sem, b30, Tryz.f30, k, hlo, bytes_bs hs, sz, h1, h2]
 all_goals rfl
theorem f58r {r : List V} (hr : r.length ≤ 1) (hlo : lo ≤ p.length) (hp : okP p.length p0 = true) : E lo 58 [.ptr p.length 0] (p ++ .cells (p0 :: x :: r) :: q) = some (.tup [], p ++ .cells (.ptr p.length 0 :: x :: r) :: q) := by
 show ev _ hints primz lo _ _ _ = _
 rw [ev_prim (p := ccP) rfl]
 unfold ccP
 simp only [at_ob]
 rw [if_pos ⟨hlo, hp, hr⟩, set_ob]
theorem f31r {r : List V} (hlo : lo ≤ p.length) (hy : By out) (hl : out.length ≤ 1000000000) :
  E lo 31 [.ptr p.length 0] (p ++ .cells (p0 :: .list .yes (ri .u8 out) :: r) :: q) = some (.v (.string (bs out)), p ++ .cells (p0 :: .list .no (ri .u8 out) :: r) :: q) := by
 show ev _ hints primz lo _ _ _ = _
 rw [ev_prim (p := stP) rfl]
 unfold stP
 simp only [at_ob, rows_ri]
 rw [if_pos ⟨hlo, by_all hy, hl⟩, set_ob]
 rfl
theorem f30w {n : Int} (hlo : lo ≤ p.length) (hp : okP p.length p0 = true) {s : List Int} (hs : By s) (hl : out.length ≤ 1000000000) (hl2 : s.length ≤ 1000000000) :
  E lo 30 [.ptr p.length 0, .v (.string (bs s))] (p ++ .cells [p0, .list .yes (ri .u8 out), .v (.int .i64 n)] :: q) =
   some (.tup [.v (.int .i64 s.length), .v .nilIface], p ++ .cells [.ptr p.length 0, .list .yes (ri .u8 (out ++ s)), .v (.int .i64 n)] :: q) := by
 have k := f58r (lo := lo) (p := p) (q := q) (p0 := p0) (x := .list .yes (ri .u8 out)) (r := [.v (.int .i64 n)]) (by simp) hlo hp
 have e : ri .u8 (out ++ s) = ri .u8 out ++ ri .u8 s := by rw [← ri_app]
 have sz := bs_size s
 have h1 : (out.length + s.length) * 1 ≤ 140737488355328 := by omega
 have h2 : out.length + s.length ≤ 9223372036854775807 := by omega
 rw [e30 (by simp) (by rfl), e]
 simp only [go_sem, b30, Tryz.f30, k, hlo, bytes_bs hs, sz, h1, h2]
 all_goals rfl
end
end Go.Lift.P7
end

section
namespace Go.Lift.Spell
open Utf Tok
def hexD (n : Int) : Int := if n < 10 then 48 + n else 87 + n
def hexS : List Int := [48, 49, 50, 51, 52, 53, 54, 55, 56, 57, 97, 98, 99, 100, 101, 102]
theorem hexS_at {n : Int} (h0 : 0 ≤ n) (h1 : n < 16) : hexS[n.toNat]? = some (hexD n) := by
 obtain ⟨k, rfl⟩ : ∃ k : Nat, n = k := ⟨n.toNat, by omega⟩
 have hk : k < 16 := by omega
 have : ∀ k : Fin 16, hexS[((k.val : Nat) : Int).toNat]? = some (hexD (k.val : Int)) := by decide
 exact this ⟨k, hk⟩
theorem hexD_by {n : Int} (h0 : 0 ≤ n) (h1 : n < 16) : 48 ≤ hexD n ∧ hexD n ≤ 102 := by
 unfold hexD
 split <;> omega
def rdN : Nat → Int → List Int
 | 0, _ => []
 | k + 1, r => if r ≤ 0 then [] else hexD (r % 16) :: rdN k (r / 16)
theorem rdN_len : ∀ (k : Nat) (r : Int), (rdN k r).length ≤ k
 | 0, _ => Nat.le_refl _
 | k + 1, r => by
  simp only [rdN]
  split
  ·simp
  ·have := rdN_len k (r / 16)
   simp
   omega
theorem rdN_by : ∀ (k : Nat) (r : Int), By (rdN k r)
 | 0, _ => fun c hc => by cases hc
 | k + 1, r => by
  simp only [rdN]
  split
  ·exact fun c hc => by cases hc
  ·intro c hc
   rcases List.mem_cons.1 hc with rfl | hc
   ·have := hexD_by (n := r % 16) (by omega) (by omega); omega
   ·exact rdN_by k _ c hc
def codeT (r : Int) : List Int := 92 :: ((rdN 8 r).reverse ++ [32])
theorem codeT_by (r : Int) : By (codeT r) := fun c hc => by
 unfold codeT at hc
 simp only [List.mem_cons, List.mem_append, List.mem_reverse, List.not_mem_nil, or_false] at hc
 rcases hc with rfl | hc | rfl
 ·omega
 ·exact rdN_by 8 r c hc
 ·omega
theorem codeT_len (r : Int) : (codeT r).length ≤ 10 := by
 unfold codeT
 have := rdN_len 8 r
 simp
 omega
def hidT (x : Int) : Bool := decide (1 ≤ x) && decide (x ≤ 31) || x == 127 || x == 65279
def nameT : List Int → List Int
 | [] => []
 | x :: l => (if hidT x = true then codeT x else if ltr x = true then enc (scal x) else 92 :: enc (scal x)) ++ nameT l
theorem enc_len (x : Int) : 1 ≤ (enc x).length ∧ (enc x).length ≤ 4 := by
 unfold enc
 split
 ·simp
 ·split
  ·simp
  ·split <;> simp
def nameC (x : Int) : List Int := if hidT x = true then codeT x else if ltr x = true then enc (scal x) else 92 :: enc (scal x)
theorem nameT_cons (x : Int) (l : List Int) : nameT (x :: l) = nameC x ++ nameT l := rfl
theorem nameC_len (x : Int) : (nameC x).length ≤ 10 := by
 unfold nameC
 have := enc_len (scal x)
 split
 ·exact codeT_len x
 ·split
  ·omega
  ·simp; omega
theorem nameC_by (x : Int) : By (nameC x) := by
 have hs := scal_in x
 have hb := enc_by (scal x) hs.1 hs.2
 unfold nameC
 split
 ·exact codeT_by x
 ·split
  ·exact hb
  ·intro c hc
   rcases List.mem_cons.1 hc with rfl | hc
   ·omega
   ·exact hb c hc
theorem nameT_len : ∀ l : List Int, (nameT l).length ≤ 10 * l.length
 | [] => by simp [nameT]
 | x :: l => by
  rw [nameT_cons, List.length_append, List.length_cons]
  have := nameC_len x
  have := nameT_len l
  omega
theorem nameT_by : ∀ l : List Int, By (nameT l)
 | [] => fun c hc => by cases hc
 | x :: l => by
  rw [nameT_cons]
  intro c hc
  rcases List.mem_append.1 hc with h | h
  ·exact nameC_by x c h
  ·exact nameT_by l c h
def identT (l : List Int) : List Int :=
 if l = [45] then [92, 45] else match l with
 | [] => []
 | x :: t => if dig x = true then codeT x ++ nameT t else match t with
  | [] => nameT [x]
  | y :: u => if x = 45 ∧ dig y = true then 45 :: (codeT y ++ nameT u) else nameT (x :: y :: u)
theorem encs_one {l : List Int} (hs : ∀ x ∈ l, scal x = x) : encs l = [45] ↔ l = [45] := by
 constructor
 ·intro h
  have h1 := (raw_encs l).1
  rw [h] at h1
  have h2 : l.map scal = l := by
   conv => rhs; rw [← List.map_id l]
   exact List.map_congr_left fun x hx => hs x hx
  rw [h2] at h1
  rw [← h1]
  decide
 ·rintro rfl
  decide
theorem charsOk {l : List Int} (hs : ∀ x ∈ l, scal x = x) : raw (encs l) = l := by
 rw [(raw_encs l).1]
 conv => rhs; rw [← List.map_id l]
 exact List.map_congr_left fun x hx => hs x hx
end Go.Lift.Spell
end

section
open Go.Proofs
namespace Go.Lift.P7
variable [MX]
open Utf Tok Spell
set_option maxRecDepth 20000
set_option maxHeartbeats 4000000
section
variable {lo : Nat} {h : Heap}
theorem bs_hex : (⟨#[48, 49, 50, 51, 52, 53, 54, 55, 56, 57, 97, 98, 99, 100, 101, 102]⟩ : ByteArray) = bs hexS := rfl
theorem by_hex : By hexS := by decide
theorem wrap_i32' {n : Int} (h0 : -2147483648 ≤ n) (h1 : n ≤ 2147483647) : IntKind.i32.wrap n = n := by
 simp only [IntKind.wrap, IntKind.signed, IntKind.bits]
 simp
 omega
theorem loop74a : ∀ (k : Nat) (r : Int) (out : List Int), 0 ≤ r → r < 16 ^ k → r ≤ 2147483647 → out.length + k ≤ 1000 →
  loopW (evCode ⟨Tryz.prog, E, lo, h.length, h74⟩ loopW l74x0) ([(0, .v (.int .i32 r)), (3, .list .yes (ri .u8 out))], h) =
   some (.exit 0, [(0, .v (.int .i32 0)), (3, .list .yes (ri .u8 (out ++ rdN k r))), (7, .v (.bool false))], h) := by
 intro k
 induction k with
 | zero =>
  intro r out h0 h1 _ _
  obtain rfl : r = 0 := by simp at h1; omega
  have q : decide ((0 : Int) < 0) = false := rfl
  rw [loop_eq, rdN, List.append_nil]
  simp only [go_sem, l74x0, b74, Tryz.f74, q]
  all_goals rfl
 | succ k ih =>
  intro r out h0 h1 h2 h3
  by_cases hr : r ≤ 0
  ·obtain rfl : r = 0 := by omega
   have q : decide ((0 : Int) < 0) = false := rfl
   rw [loop_eq, rdN, if_pos (by omega), List.append_nil]
   simp only [go_sem, l74x0, b74, Tryz.f74, q]
   all_goals rfl
  ·have q : decide (0 < r) = true := by simp; omega
   have t1 : r.tmod 16 = r % 16 := Int.tmod_eq_emod_of_nonneg (by omega)
   have t2 : r.tdiv 16 = r / 16 := Int.tdiv_eq_ediv_of_nonneg (by omega)
   have z : ¬ ((16 : Int) = 0) := by omega
   have w1 : IntKind.i32.wrap (r % 16) = r % 16 := wrap_i32' (by omega) (by omega)
   have w2 : IntKind.i32.wrap (r / 16) = r / 16 := wrap_i32' (by omega) (by omega)
   have hi := bs_ix by_hex (r % 16).toNat
   rw [hexS_at (by omega) (by omega)] at hi
   have hn : 0 ≤ r % 16 := by omega
   have hr1 : ∀ k, k ≤ 4 → (out.length + k) * 1 ≤ 140737488355328 := by intro k hk; omega
   have hq : ∀ k, 9223372036854775800 ≤ k → out.length ≤ k := by intro k hk; omega
   have e : ri .u8 out ++ [[V.v (.int .u8 (hexD (r % 16)))]] = ri .u8 (out ++ [hexD (r % 16)]) := by rw [← ri_app]; rfl
   have er : evCode ⟨Tryz.prog, E, lo, h.length, h74⟩ loopW l74x0 ([(0, .v (.int .i32 r)), (3, .list .yes (ri .u8 out))], h) = some (.normal, [(0, .v (.int .i32 (r / 16))), (3, .list .yes (ri .u8 (out ++ [hexD (r % 16)])))], h) := by
    simp only [go_sem, l74x0, b74, Tryz.f74, q, t1, t2, z, w1, w2, bs_hex, hi, hn, hr1, hq, e]
    all_goals rfl
   rw [loop_eq, er, loop_n, ih (r / 16) _ (by omega) (by rw [Int.pow_succ] at h1; omega) (by omega) (by simp; omega), rdN, if_neg hr, List.append_assoc]
   rfl
theorem loop74b {b : List Int} (hlo : lo ≤ h.length) (hb : b.length ≤ 1000) : ∀ (n : Nat) (out : List Int), n ≤ b.length → out.length + n ≤ 2000 →
  loopW (evCode ⟨Tryz.prog, E, lo, h.length, h74⟩ loopW l74x1) ([(3, .list .yes (ri .u8 b)), (4, .ptr h.length 0), (5, .v (.int .i64 ((n : Int) - 1)))], h ++ [.cells [.ptr h.length 0, .list .yes (ri .u8 out)]]) =
   some (.exit 2, [(3, .list .yes (ri .u8 b)), (4, .ptr h.length 0), (5, .v (.int .i64 (-1))), (21, .v (.bool false))], h ++ [.cells [.ptr h.length 0, .list .yes (ri .u8 (out ++ (b.take n).reverse))]]) := by
 intro n
 induction n with
 | zero =>
  intro out h1 h2
  have e : ((0 : Nat) : Int) - 1 = -1 := rfl
  have q : decide ((0 : Int) ≤ -1) = false := rfl
  rw [loop_eq, e]
  simp only [go_sem, l74x1, b74, Tryz.f74, q, List.take_zero, List.reverse_nil, List.append_nil]
  all_goals rfl
 | succ n ih =>
  intro out h1 h2
  have e : ((n + 1 : Nat) : Int) - 1 = (n : Int) := by omega
  have q : decide ((0 : Int) ≤ (n : Int)) = true := by simp
  have hg : b[n]? = some b[n] := List.getElem?_eq_getElem (by omega)
  have ht : b.take (n + 1) = b.take n ++ [b[n]] := List.take_succ_eq_append_getElem (by omega)
  have w1 : IntKind.i64.wrap ((n : Int) - 1) = (n : Int) - 1 := wrap_i64 (by omega) (by omega)
  generalize b[n] = x at *
  have k := f78 (lo := lo) (p := h) (q := []) (p0 := .ptr h.length 0) (out := out) hlo ok_self (c := x) (by omega)
  have k2 := f78 (lo := h.length) (p := h) (q := []) (p0 := .ptr h.length 0) (out := out) (Nat.le_refl _) ok_self (c := x) (by omega)
  have er : evCode ⟨Tryz.prog, E, lo, h.length, h74⟩ loopW l74x1 ([(3, .list .yes (ri .u8 b)), (4, .ptr h.length 0), (5, .v (.int .i64 (n : Int)))], h ++ [.cells [.ptr h.length 0, .list .yes (ri .u8 out)]]) =
    some (.normal, [(3, .list .yes (ri .u8 b)), (4, .ptr h.length 0), (5, .v (.int .i64 ((n : Int) - 1)))], h ++ [.cells [.ptr h.length 0, .list .yes (ri .u8 (out ++ [x]))]]) := by
   simp only [go_sem, l74x1, b74, Tryz.f74, q, hg, w1, k, k2]
   all_goals rfl
  rw [loop_eq, e, er, loop_n, ih _ (by omega) (by simp; omega), ht, List.reverse_append, List.append_assoc]
  rfl
theorem f74 (hlo : lo ≤ h.length) {r : Int} (h0 : 0 ≤ r) (h1 : r ≤ 2147483647) : E lo 74 [.v (.int .i32 r)] h = some (.v (.string (bs (codeT r))), h) := by
 have hA := loop74a (lo := lo) (h := h) 8 r [] h0 (by
                            have : (16 : Int) ^ 8 = 4294967296 := by decide
                            omega) h1 (by simp)
 have hlen := rdN_len 8 r
 generalize hR : rdN 8 r = R at *
 have hby : By R := hR ▸ rdN_by 8 r
 have hB := loop74b (lo := lo) (h := h) (b := R) hlo (by omega) R.length [92] (Nat.le_refl _) (by simp; omega)
 rw [List.take_length] at hB
 simp only [l74x0, b74, Tryz.f74, loopAt, loops, bodyOf, go_sem, ri_nil] at hA
 simp only [l74x1, b74, Tryz.f74, loopAt, loops, bodyOf, go_sem] at hB
 have k1 := fun lo hlo => f78 (lo := lo) (p := h) (q := []) (p0 := .v (.pointer none)) (out := []) hlo (ok_nil _) (c := 92) (by simp)
 have k2 := fun lo hlo => f78 (lo := lo) (p := h) (q := []) (p0 := .ptr h.length 0) (out := 92 :: R.reverse) hlo ok_self (c := 32) (by simp; omega)
 have k3 := fun lo hlo => f31 (lo := lo) (p := h) (q := []) (p0 := .ptr h.length 0) (out := codeT r) hlo (codeT_by r) (by have := codeT_len r; omega)
 have ec : 92 :: R.reverse ++ [32] = codeT r := by unfold codeT; rw [hR]; simp
 rw [ec] at k2
 have k1a := k1 lo hlo; have k1b := k1 h.length (Nat.le_refl _)
 have k2a := k2 lo hlo; have k2b := k2 h.length (Nat.le_refl _)
 have k3a := k3 lo hlo; have k3b := k3 h.length (Nat.le_refl _)
 have w1 : IntKind.i64.wrap ((R.length : Int) - 1) = (R.length : Int) - 1 := wrap_i64 (by omega) (by omega)
 rw [ri_nil, List.nil_append] at k1a k1b
 rw [e74 (by simp) (by rfl)]
 simp only [go_sem, b74, Tryz.f74, hA, k1a, k1b, w1, hB, k2a, k2b, k3a, k3b]
 all_goals rfl
end
end Go.Lift.P7
end

section
open Go.Proofs
namespace Go.Lift.P7
variable [MX]
open Utf Tok Spell
set_option maxRecDepth 20000
set_option maxHeartbeats 4000000
section
variable {lo : Nat} {h : Heap} {c : Int}
theorem f94 : E lo 94 [.v (.int .i32 c)] h = some (.v (.bool (dig c)), h) := by
 rw [e94 (by simp) (by rfl)]
 simp only [go_sem, b94, Tryz.f94, dig]
theorem f93 : E lo 93 [.v (.int .i32 c)] h = some (.v (.bool (fst1 c)), h) := by
 rw [e93 (by simp) (by rfl)]
 simp only [go_sem, b93, Tryz.f93, fst1]
theorem f70 : E lo 70 [.v (.int .i32 c)] h = some (.v (.bool (ltr c)), h) := by
 rw [e70 (by simp) (by rfl)]
 simp only [go_sem, b70, Tryz.f70, f93, f94, ltr]
theorem f75 : E lo 75 [.v (.int .i32 c)] h = some (.v (.bool (hidT c)), h) := by
 rw [e75 (by simp) (by rfl)]
 simp only [go_sem, b75, Tryz.f75, hidT]
theorem f69 : E lo 69 [.v (.int .i32 c)] h = some (.v (.bool (hidT c)), h) := by
 rw [e69 (by simp) (by rfl)]
 simp only [go_sem, b69, Tryz.f69, hidT]
theorem dig86 : E lo 72 [.v (.int .i32 c)] h = some (.v (.bool (dig c)), h) := by
 rw [e72 (by simp) (by rfl)]
 simp only [go_sem, b72, Tryz.f72, dig]
theorem f76 : E lo 76 [.v (.int .i32 c)] h = some (.v (.bool (ltr c)), h) := by
 have hc : (97 ≤ c ∧ c ≤ 122) ∨ (65 ≤ c ∧ c ≤ 90) ∨ (c = 95) ∨ (c = 45) ∨ (128 ≤ c) ∨ (c < 65 ∧ c ≠ 45) ∨ (91 ≤ c ∧ c ≤ 96 ∧ c ≠ 95) ∨ (123 ≤ c ∧ c ≤ 127) := by omega
 rw [e76 (by simp) (by rfl)]
 rcases hc with hc | hc | hc | hc | hc | hc | hc | hc
 ·have q1 : decide (97 ≤ c) = true := by simp; omega
  have q2 : decide (c ≤ 122) = true := by simp; omega
  have e : ltr c = true := by unfold ltr fst1; simp; omega
  rw [e]
  simp only [go_sem, b76, Tryz.f76, dig86, q1, q2]
  all_goals rfl
 ·have q1 : decide (97 ≤ c) = false := by simp; omega
  have q3 : decide (65 ≤ c) = true := by simp; omega
  have q4 : decide (c ≤ 90) = true := by simp; omega
  have e : ltr c = true := by unfold ltr fst1; simp; omega
  rw [e]
  simp only [go_sem, b76, Tryz.f76, dig86, q1, q3, q4]
  all_goals rfl
 ·have q1 : decide (97 ≤ c) = false := by simp; omega
  have q3 : decide (65 ≤ c) = true := by simp; omega
  have q4 : decide (c ≤ 90) = false := by simp; omega
  have q5 : (c == 95) = true := by simp; omega
  have e : ltr c = true := by unfold ltr fst1; simp; omega
  rw [e]
  simp only [go_sem, b76, Tryz.f76, dig86, q1, q3, q4, q5]
  all_goals rfl
 ·have q1 : decide (97 ≤ c) = false := by simp; omega
  have q3 : decide (65 ≤ c) = false := by simp; omega
  have q5 : (c == 95) = false := by simp; omega
  have q6 : (c == 45) = true := by simp; omega
  have e : ltr c = true := by unfold ltr fst1; simp; omega
  rw [e]
  simp only [go_sem, b76, Tryz.f76, dig86, q1, q3, q5, q6]
  all_goals rfl
 ·have q1 : decide (97 ≤ c) = true := by simp; omega
  have q2 : decide (c ≤ 122) = false := by simp; omega
  have q3 : decide (65 ≤ c) = true := by simp; omega
  have q4 : decide (c ≤ 90) = false := by simp; omega
  have q5 : (c == 95) = false := by simp; omega
  have q6 : (c == 45) = false := by simp; omega
  have q7 : decide (128 ≤ c) = true := by simp; omega
  have e : ltr c = true := by unfold ltr fst1; simp; omega
  rw [e]
  simp only [go_sem, b76, Tryz.f76, dig86, q1, q2, q3, q4, q5, q6, q7]
  all_goals rfl
 ·have q1 : decide (97 ≤ c) = false := by simp; omega
  have q3 : decide (65 ≤ c) = false := by simp; omega
  have q5 : (c == 95) = false := by simp; omega
  have q6 : (c == 45) = false := by simp; omega
  have q7 : decide (128 ≤ c) = false := by simp; omega
  have e : ltr c = dig c := by unfold ltr fst1; cases hd : dig c <;> simp <;> omega
  rw [e]
  simp only [go_sem, b76, Tryz.f76, dig86, q1, q3, q5, q6, q7]
  all_goals rfl
 ·have q1 : decide (97 ≤ c) = false := by simp; omega
  have q3 : decide (65 ≤ c) = true := by simp; omega
  have q4 : decide (c ≤ 90) = false := by simp; omega
  have q5 : (c == 95) = false := by simp; omega
  have q6 : (c == 45) = false := by simp; omega
  have q7 : decide (128 ≤ c) = false := by simp; omega
  have e : ltr c = dig c := by unfold ltr fst1; cases hd : dig c <;> simp <;> omega
  rw [e]
  simp only [go_sem, b76, Tryz.f76, dig86, q1, q3, q4, q5, q6, q7]
  all_goals rfl
 ·have q1 : decide (97 ≤ c) = true := by simp; omega
  have q2 : decide (c ≤ 122) = false := by simp; omega
  have q3 : decide (65 ≤ c) = true := by simp; omega
  have q4 : decide (c ≤ 90) = false := by simp; omega
  have q5 : (c == 95) = false := by simp; omega
  have q6 : (c == 45) = false := by simp; omega
  have q7 : decide (128 ≤ c) = false := by simp; omega
  have e : ltr c = dig c := by unfold ltr fst1; cases hd : dig c <;> simp <;> omega
  rw [e]
  simp only [go_sem, b76, Tryz.f76, dig86, q1, q2, q3, q4, q5, q6, q7]
  all_goals rfl
end
theorem bs_get {L : List Int} {i : Nat} {c : Int} (h : L[i]? = some c) (h0 : 0 ≤ c) (h1 : c ≤ 255) : ((bs L).get! i).toNat = c.toNat := by
 have hi : i < L.length := (List.getElem?_eq_some_iff.1 h).1
 have hg : (u8s L)[i]? = some (UInt8.ofNat c.toNat) := by simp [u8s, h]
 have : (bs L).get! i = UInt8.ofNat c.toNat := by
  show (u8s L).toArray[i]! = _
  simp only [List.getElem!_toArray]
  rw [List.getElem!_eq_getElem?_getD, hg]
  rfl
 rw [this]
 simp only [UInt8.toNat_ofNat']
 omega
theorem dec1 {s : ByteArray} {i b0 : Nat} (g0 : (s.get! i).toNat = b0) (h : b0 < 128) : Utf8.decode s i = (b0, 1) := by
 have g0' : (s.get! (i + 0)).toNat = b0 := g0
 unfold Utf8.decode
 simp only [g0', h, if_true]
theorem dec2 {s : ByteArray} {i b0 b1 : Nat} (g0 : (s.get! i).toNat = b0) (g1 : (s.get! (i + 1)).toNat = b1) (hs : i + 1 < s.size) (h0 : b0 / 32 = 6) (h1 : b1 / 64 = 2) (hc : 128 ≤ b0 % 32 * 64 + b1 % 64) :
  Utf8.decode s i = (b0 % 32 * 64 + b1 % 64, 2) := by
 have g0' : (s.get! (i + 0)).toNat = b0 := g0
 have hn : ¬ b0 < 128 := by omega
 unfold Utf8.decode
 simp only [g0', g1, hn, h0, h1, hs, hc, decide_true, if_true, if_false, Bool.and_self, BEq.rfl, ge_iff_le, Nat.reduceBEq]
theorem dec3 {s : ByteArray} {i b0 b1 b2 : Nat} (g0 : (s.get! i).toNat = b0) (g1 : (s.get! (i + 1)).toNat = b1) (g2 : (s.get! (i + 2)).toNat = b2) (hs : i + 2 < s.size) (h0 : b0 / 16 = 14) (h1 : b1 / 64 = 2) (h2 : b2 / 64 = 2)
  (hc : 2048 ≤ b0 % 16 * 4096 + b1 % 64 * 64 + b2 % 64) (hv : Utf8.valid ((b0 % 16 * 4096 + b1 % 64 * 64 + b2 % 64 : Nat) : Int) = true) :
  Utf8.decode s i = (b0 % 16 * 4096 + b1 % 64 * 64 + b2 % 64, 3) := by
 have g0' : (s.get! (i + 0)).toNat = b0 := g0
 have hn : ¬ b0 < 128 := by omega
 have hn2 : (b0 / 32 == 6) = false := by simp; omega
 have hs1 : i + 1 < s.size := by omega
 unfold Utf8.decode
 simp only [g0', g1, g2, hn, hn2, h0, h1, h2, hs, hs1, hc, hv, decide_true, if_true, if_false, Bool.and_self, Bool.false_and, Bool.false_eq_true, BEq.rfl, ge_iff_le, Nat.reduceBEq]
theorem dec4 {s : ByteArray} {i b0 b1 b2 b3 : Nat} (g0 : (s.get! i).toNat = b0) (g1 : (s.get! (i + 1)).toNat = b1) (g2 : (s.get! (i + 2)).toNat = b2) (g3 : (s.get! (i + 3)).toNat = b3) (hs : i + 3 < s.size) (h0 : b0 / 8 = 30) (h1 : b1 / 64 = 2) (h2 : b2 / 64 = 2) (h3 : b3 / 64 = 2)
  (hc : 65536 ≤ b0 % 8 * 262144 + b1 % 64 * 4096 + b2 % 64 * 64 + b3 % 64) (hv : Utf8.valid ((b0 % 8 * 262144 + b1 % 64 * 4096 + b2 % 64 * 64 + b3 % 64 : Nat) : Int) = true) :
  Utf8.decode s i = (b0 % 8 * 262144 + b1 % 64 * 4096 + b2 % 64 * 64 + b3 % 64, 4) := by
 have g0' : (s.get! (i + 0)).toNat = b0 := g0
 have hn : ¬ b0 < 128 := by omega
 have hn2 : (b0 / 32 == 6) = false := by simp; omega
 have hn3 : (b0 / 16 == 14) = false := by simp; omega
 have hs1 : i + 1 < s.size := by omega
 have hs2 : i + 2 < s.size := by omega
 unfold Utf8.decode
 simp only [g0', g1, g2, g3, hn, hn2, hn3, h0, h1, h2, h3, hs, hs1, hs2, hc, hv, decide_true, if_true, if_false, Bool.and_self, Bool.false_and, Bool.false_eq_true, BEq.rfl, ge_iff_le, Nat.reduceBEq]
theorem dec_enc {pre rest : List Int} {x : Int} (hs : scal x = x) : Utf8.decode (bs (pre ++ (enc x ++ rest))) pre.length = (x.toNat, (enc x).length) := by
 obtain ⟨h0, h1, h2⟩ := (scal_iff x).1 hs
 have hsz : (bs (pre ++ (enc x ++ rest))).size = pre.length + ((enc x).length + rest.length) := by rw [bs_size]; simp
 have hb := enc_by x h0 h1
 have hget : ∀ (k : Nat) (c : Int), (enc x)[k]? = some c → ((bs (pre ++ (enc x ++ rest))).get! (pre.length + k)).toNat = c.toNat := fun k c hk => by
  have := hb c (List.mem_of_getElem? hk)
  refine bs_get ?_ this.1 this.2
  rw [List.getElem?_append_right (by omega), Nat.add_sub_cancel_left, List.getElem?_append_left (List.getElem?_eq_some_iff.1 hk).1]
  exact hk
 generalize bs (pre ++ (enc x ++ rest)) = s at *
 generalize pre.length = i at *
 obtain ⟨n, rfl⟩ : ∃ n : Nat, x = n := ⟨x.toNat, by omega⟩
 have hn : ((n : Int)).toNat = n := by omega
 rw [hn]
 by_cases c1 : (n : Int) < 128
 ·have e : enc (n : Int) = [(n : Int)] := by unfold enc; rw [if_pos c1]
  rw [e] at hget ⊢
  exact dec1 (by have := hget 0 _ rfl; simpa using this) (by omega)
 ·by_cases c2 : (n : Int) < 2048
  ·have e : enc (n : Int) = [192 + (n : Int) / 64, 128 + (n : Int) % 64] := by unfold enc; rw [if_neg c1, if_pos c2]
   rw [e] at hget hsz ⊢
   have g0 := hget 0 _ rfl
   have g1 := hget 1 _ rfl
   have d := dec2 (s := s) (i := i) g0 g1 (by rw [hsz]; simp; omega) (by omega) (by omega) (by omega)
   rw [d]
   simp
   omega
  ·by_cases c3 : (n : Int) < 65536
   ·have e : enc (n : Int) = [224 + (n : Int) / 4096, 128 + (n : Int) / 64 % 64, 128 + (n : Int) % 64] := by unfold enc; rw [if_neg c1, if_neg c2, if_pos c3]
    rw [e] at hget hsz ⊢
    have g0 := hget 0 _ rfl
    have g1 := hget 1 _ rfl
    have g2 := hget 2 _ rfl
    have ev : (224 + (n : Int) / 4096).toNat % 16 * 4096 + (128 + (n : Int) / 64 % 64).toNat % 64 * 64 + (128 + (n : Int) % 64).toNat % 64 = n := by omega
    have d := dec3 (s := s) (i := i) g0 g1 g2 (by rw [hsz]; simp; omega) (by omega) (by omega) (by omega) (by omega) (by rw [ev]; simp [Utf8.valid]; omega)
    rw [d, ev]
    rfl
   ·have e : enc (n : Int) = [240 + (n : Int) / 262144, 128 + (n : Int) / 4096 % 64, 128 + (n : Int) / 64 % 64, 128 + (n : Int) % 64] := by unfold enc; rw [if_neg c1, if_neg c2, if_neg c3]
    rw [e] at hget hsz ⊢
    have g0 := hget 0 _ rfl
    have g1 := hget 1 _ rfl
    have g2 := hget 2 _ rfl
    have g3 := hget 3 _ rfl
    have ev : (240 + (n : Int) / 262144).toNat % 8 * 262144 + (128 + (n : Int) / 4096 % 64).toNat % 64 * 4096 + (128 + (n : Int) / 64 % 64).toNat % 64 * 64 + (128 + (n : Int) % 64).toNat % 64 = n := by omega
    have d := dec4 (s := s) (i := i) g0 g1 g2 g3 (by rw [hsz]; simp; omega) (by omega) (by omega) (by omega) (by omega) (by omega) (by rw [ev]; simp [Utf8.valid]; omega)
    rw [d, ev]
    rfl
end Go.Lift.P7
end

section
open Go.Proofs
namespace Go.Lift.P7
variable [MX]
open Utf Tok Spell
set_option maxRecDepth 20000
set_option maxHeartbeats 4000000
section
variable {lo : Nat} {h : Heap} {done : List Int} {p0 : V} {out : List Int} {x : Int} {s : ByteArray} {pos : Nat}
abbrev H34 (h : Heap) (p0 : V) (out : List Int) (s : ByteArray) (pos : Nat) : Heap := h ++ [.cells [p0, .list .yes (ri .u8 out)], .iter s pos]
theorem round53 (hlo : lo ≤ h.length) (hp : okP h.length p0 = true) (hx0 : 0 ≤ x) (hx1 : x ≤ 1114111) (hpos : pos < s.size) (hdec : Utf8.decode s pos = (x.toNat, (enc (scal x)).length)) (hl : out.length ≤ 900000000) :
  evCode ⟨Tryz.prog, E, lo, h.length, h53⟩ loopW l53x0 ([(3, .ptr h.length 0), (7, .ptr (h.length + 1) 0)], H34 h p0 out s pos) =
   some (.normal, [(3, .ptr h.length 0), (7, .ptr (h.length + 1) 0)], H34 h (.ptr h.length 0) (out ++ nameC x) s (pos + (enc (scal x)).length)) := by
 have hlo1 : lo ≤ h.length + 1 := by omega
 have hxn : ((x.toNat : Nat) : Int) = x := by omega
 have hcl := codeT_len x
 have hel := enc_len (scal x)
 have c87 := fun lo hlo => f74 (lo := lo) (h := H34 h p0 out s (pos + (enc (scal x)).length)) hlo hx0 (r := x) (by omega)
 have c87a := c87 lo (by simp; omega)
 have c87b := c87 h.length (by simp)
 have c87c := c87 (h.length + 2) (by simp)
 have c48 := fun lo hlo => f30 (lo := lo) (p := h) (q := [.iter s (pos + (enc (scal x)).length)]) (p0 := p0) (out := out) hlo hp (s := codeT x) (codeT_by x) (by omega) (by omega)
 have c90 := fun lo hlo => f77 (lo := lo) (p := h) (q := [.iter s (pos + (enc (scal x)).length)]) (p0 := p0) (out := out) hlo hp (r := x) (by omega) (by omega) (by omega)
 have c91 := fun lo hlo => f78 (lo := lo) (p := h) (q := [.iter s (pos + (enc (scal x)).length)]) (p0 := p0) (out := out) hlo hp (c := 92) (by omega)
 have c92 := fun lo hlo => f77 (lo := lo) (p := h) (q := [.iter s (pos + (enc (scal x)).length)]) (p0 := .ptr h.length 0) (out := out ++ [92]) hlo ok_self (r := x) (by omega) (by omega) (by simp; omega)
 have c48a := c48 lo hlo; have c48b := c48 h.length (Nat.le_refl _)
 have c90a := c90 lo hlo; have c90b := c90 h.length (Nat.le_refl _)
 have c91a := c91 lo hlo; have c91b := c91 h.length (Nat.le_refl _)
 have c92a := c92 lo hlo; have c92b := c92 h.length (Nat.le_refl _)
 clear c87 c48 c90 c91 c92
 have e1 : (Utf8.decode s pos).1 = x.toNat := by rw [hdec]
 have e2 : (Utf8.decode s pos).2 = (enc (scal x)).length := by rw [hdec]
 have k88 := fun lo h => f75 (lo := lo) (h := h) (c := x)
 have k89 := fun lo h => f76 (lo := lo) (h := h) (c := x)
 unfold nameC
 cases qh : hidT x with
 | true =>
  rw [qh] at k88
  simp only [go_sem, l53x0, b53, Tryz.f53, hlo, hlo1, hpos, e1, e2, hxn, k88, c87a, c87b, c87c, c48a, c48b, if_true]
  all_goals rfl
 | false =>
  rw [qh] at k88
  cases ql : ltr x with
  | true =>
   rw [ql] at k89
   simp only [go_sem, l53x0, b53, Tryz.f53, hlo, hlo1, hpos, e1, e2, hxn, k88, k89, c90a, c90b, if_true, Bool.false_eq_true, if_false]
   all_goals rfl
  | false =>
   rw [ql] at k89
   have e3 : out ++ [92] ++ enc (scal x) = out ++ 92 :: enc (scal x) := by simp
   rw [e3] at c92a c92b
   simp only [go_sem, l53x0, b53, Tryz.f53, hlo, hlo1, hpos, e1, e2, hxn, k88, k89, c91a, c91b, c92a, c92b, Bool.false_eq_true, if_false]
   all_goals rfl
theorem stop53 (hlo : lo ≤ h.length) (hpos : ¬ pos < s.size) :
  loopW (evCode ⟨Tryz.prog, E, lo, h.length, h53⟩ loopW l53x0) ([(3, .ptr h.length 0), (7, .ptr (h.length + 1) 0)], H34 h p0 out s pos) =
   some (.exit 0, [(3, .ptr h.length 0), (7, .ptr (h.length + 1) 0), (8, .tup [.v (.bool false)]), (9, .v (.bool false))], H34 h p0 out s pos) := by
 have hlo1 : lo ≤ h.length + 1 := by omega
 rw [loop_eq]
 simp only [go_sem, l53x0, b53, Tryz.f53, hlo, hlo1, hpos]
 all_goals rfl
theorem loop53 (hlo : lo ≤ h.length) : ∀ (l : List Int) (done : List Int) (p0 : V) (out : List Int), (∀ x ∈ l, scal x = x) → okP h.length p0 = true → out.length + 10 * l.length ≤ 900000000 →
  ∃ p1, okP h.length p1 = true ∧ loopW (evCode ⟨Tryz.prog, E, lo, h.length, h53⟩ loopW l53x0) ([(3, .ptr h.length 0), (7, .ptr (h.length + 1) 0)], H34 h p0 out (bs (done ++ encs l)) done.length) =
   some (.exit 0, [(3, .ptr h.length 0), (7, .ptr (h.length + 1) 0), (8, .tup [.v (.bool false)]), (9, .v (.bool false))], H34 h p1 (out ++ nameT l) (bs (done ++ encs l)) (done ++ encs l).length) := by
 intro l
 induction l with
 | nil =>
  intro done p0 out _ hp _
  refine ⟨p0, hp, ?_⟩
  have e : done ++ encs [] = done := by simp [encs]
  rw [e, stop53 hlo (by rw [bs_size]; omega)]
  simp [nameT]
 | cons x l ih =>
  intro done p0 out hs hp hl
  have hx := hs x (by simp)
  have hx2 := scal_in x
  rw [hx] at hx2
  have hel := enc_len x
  have hcl := nameC_len x
  have hdec := dec_enc (pre := done) (rest := encs l) hx
  have e1 : encs (x :: l) = enc x ++ encs l := by rw [encs_cons, hx]
  have e2 : done ++ encs (x :: l) = (done ++ enc x) ++ encs l := by rw [e1, List.append_assoc]
  simp only [List.length_cons] at hl
  obtain ⟨p1, hp1, hL⟩ := ih (done ++ enc x) (.ptr h.length 0) (out ++ nameC x) (fun y hy => hs y (by simp [hy])) ok_self (by simp; omega)
  refine ⟨p1, hp1, ?_⟩
  rw [e1, ← List.append_assoc]
  rw [← List.append_assoc] at hdec
  rw [loop_eq, round53 hlo hp hx2.1 hx2.2 (by rw [bs_size]; simp; omega) (by rw [hdec, hx]) (by omega), loop_n, hx]
  have e3 : done.length + (enc x).length = (done ++ enc x).length := by simp
  rw [e3, hL, nameT_cons, List.append_assoc]
theorem f53 (hlo : lo ≤ h.length) {l : List Int} (hs : ∀ x ∈ l, scal x = x) (hl : l.length ≤ 10000000) : E lo 53 [.v (.string (bs (encs l)))] h = some (.v (.string (bs (nameT l))), h) := by
 have hlen := nameT_len l
 obtain ⟨p1, hp1, hL⟩ := loop53 (lo := lo) (h := h) hlo l [] (.v (.pointer none)) [] hs rfl (by simp; omega)
 rw [List.nil_append, List.nil_append, List.length_nil] at hL
 have k := fun lo hlo => f31 (lo := lo) (p := h) (q := [.iter (bs (encs l)) (encs l).length]) (p0 := p1) (out := nameT l) hlo (nameT_by l) (by omega)
 have ka := k lo hlo; have kb := k h.length (Nat.le_refl _)
 simp only [l53x0, b53, Tryz.f53, loopAt, loops, bodyOf, go_sem, ri_nil, H34] at hL
 rw [e53 (by simp) (by rfl)]
 simp only [go_sem, b53, Tryz.f53, hlo, hL, ka, kb]
 all_goals rfl
end
end Go.Lift.P7
end

section
open Go.Proofs
namespace Go.Lift.P7
variable [MX]
open Utf Tok Spell
set_option maxRecDepth 20000
set_option maxHeartbeats 4000000
section
variable {lo : Nat} {h : Heap}
def digs36 : List Int := [48, 49, 50, 51, 52, 53, 54, 55, 56, 57, 97, 98, 99, 100, 101, 102, 103, 104, 105, 106, 107, 108, 109, 110, 111, 112, 113, 114, 115, 116, 117, 118, 119, 120, 121, 122]
theorem bs_36 : (⟨#[48, 49, 50, 51, 52, 53, 54, 55, 56, 57, 97, 98, 99, 100, 101, 102, 103, 104, 105, 106, 107, 108, 109, 110, 111, 112, 113, 114, 115, 116, 117, 118, 119, 120, 121, 122]⟩ : ByteArray) = bs digs36 := rfl
theorem by_36 : By digs36 := by decide
theorem d36_at {n : Int} (h0 : 0 ≤ n) (h1 : n < 16) : digs36[n.toNat]? = some (hexD n) := by
 obtain ⟨k, rfl⟩ : ∃ k : Nat, n = k := ⟨n.toNat, by omega⟩
 have hk : k < 16 := by omega
 have : ∀ k : Fin 16, digs36[((k.val : Nat) : Int).toNat]? = some (hexD (k.val : Int)) := by decide
 exact this ⟨k, hk⟩
theorem and15 {y : Int} (h0 : 0 ≤ y) (h1 : y ≤ 2147483647) : iand .u64 y 15 = y % 16 := by
 unfold iand
 show ((BitVec.ofInt 64 y &&& BitVec.ofInt 64 15).toNat : Int) = y % 16
 rw [BitVec.toNat_and]
 have e1 : (BitVec.ofInt 64 y).toNat = y.toNat := by
  rw [BitVec.toNat_ofInt]
  omega
 have e2 : (BitVec.ofInt 64 15).toNat = 2 ^ 4 - 1 := by decide
 rw [e1, e2, Nat.and_two_pow_sub_one_eq_mod]
 omega
theorem shr4 {y : Int} (h0 : 0 ≤ y) : ishr .u64 y 4 = y / 16 := by
 unfold ishr
 show y.fdiv (2 ^ (min 4 64)) = _
 rw [Int.fdiv_eq_ediv_of_nonneg _ (by decide)]
 rfl
def hexF : Nat → Int → List Int
 | 0, u => [hexD u]
 | k + 1, u => if u < 16 then [hexD u] else hexF k (u / 16) ++ [hexD (u % 16)]
abbrev A170 (h : Heap) (u j : Int) : Env := [(0, .list .no []), (1, .v (.int .u64 u)), (3, .v (.bool false)), (4, .v (.bool false)), (10, .list .yes []), (11, .v (.string ⟨#[]⟩)), (12, .ptr h.length 0), (13, .v (.int .i64 j)), (14, .v (.int .u64 4)), (15, .v (.int .u64 16)), (16, .v (.int .u64 15))]
theorem loop112 (hlo : lo ≤ h.length) : ∀ (k : Nat) (u : Int) (j : Nat) (suf : List Int), 0 ≤ u → u < 16 ^ (k + 1) → u ≤ 2147483647 → k + 1 ≤ j → j + suf.length = 65 →
  ∃ (u' : Int) (j' : Nat) (suf' : List Int), 0 ≤ u' ∧ u' < 16 ∧ 1 ≤ j' ∧ j' + suf'.length = 65 ∧ hexD u' :: suf' = hexF k u ++ suf ∧
  loopW (evCode ⟨Tryz.prog, E, lo, h.length, h112⟩ loopW l112x0) (A170 h u j, h ++ [cz j suf]) = some (.exit 0, A170 h u' j' ++ [(46, .v (.bool false))], h ++ [cz j' suf']) := by
 have stop : ∀ (u : Int) (j : Nat) (suf : List Int), 0 ≤ u → u < 16 → loopW (evCode ⟨Tryz.prog, E, lo, h.length, h112⟩ loopW l112x0) (A170 h u j, h ++ [cz j suf]) = some (.exit 0, A170 h u j ++ [(46, .v (.bool false))], h ++ [cz j suf]) := by
  intro u j suf h0 h1
  have q : decide (16 ≤ u) = false := by simp; omega
  rw [loop_eq]
  simp only [go_sem, l112x0, b112, Tryz.f112, q]
  all_goals rfl
 intro k
 induction k with
 | zero =>
  intro u j suf h0 h1 _ h2 h3
  exact ⟨u, j, suf, h0, by simpa using h1, h2, h3, rfl, stop u j suf h0 (by simpa using h1)⟩
 | succ k ih =>
  intro u j suf h0 h1 h4 h2 h3
  by_cases hu : u < 16
  ·exact ⟨u, j, suf, h0, hu, by omega, h3, by simp [hexF, hu], stop u j suf h0 hu⟩
  obtain ⟨i, rfl⟩ : ∃ i, j = i + 1 := ⟨j - 1, by omega⟩
  have q : decide (16 ≤ u) = true := by simp; omega
  have w1 : IntKind.i64.wrap (((i + 1 : Nat) : Int) - 1) = (i : Int) := by rw [wrap_i64 (by omega) (by omega)]; omega
  have a1 := and15 h0 h4
  have s1 := shr4 h0
  have w2 : IntKind.u64.wrap (u % 16) = u % 16 := wrap_u64 (by omega) (by omega)
  have w3 : IntKind.u64.wrap (u / 16) = u / 16 := wrap_u64 (by omega) (by omega)
  have hi := bs_ix by_36 (u % 16).toNat
  rw [d36_at (by omega) (by omega)] at hi
  have hn : 0 ≤ u % 16 := by omega
  have b1 : (i : Int) < ((65 : Nat) : Int) := by omega
  have e := set_cz i (hexD (u % 16)) suf
  have e2 : i + 1 ≤ (List.replicate (i + 1) (V.v (Value.int IntKind.u8 0)) ++ List.map (fun c => V.v (Value.int IntKind.u8 c)) suf).length := by simp
  have er : evCode ⟨Tryz.prog, E, lo, h.length, h112⟩ loopW l112x0 (A170 h u (i + 1 : Nat), h ++ [cz (i + 1) suf]) = some (.normal, A170 h (u / 16) i, h ++ [cz i (hexD (u % 16) :: suf)]) := by
   simp only [go_sem, l112x0, b112, Tryz.f112, q, w1, a1, s1, w2, w3, bs_36, hi, hn, b1, e, e2, hlo, cz, Nat.zero_add, Nat.mul_one]
   all_goals rfl
  obtain ⟨u', j', suf', g0, g1, g2, g3, g4, g5⟩ := ih (u / 16) i (hexD (u % 16) :: suf) (by omega) (by rw [Int.pow_succ] at h1; omega) (by omega) (by omega) (by simp; omega)
  refine ⟨u', j', suf', g0, g1, g2, g3, ?_, ?_⟩
  ·rw [g4]; simp [hexF, hu]
  ·rw [loop_eq, er, loop_n, g5]
theorem cz65 : cz 65 [] = .cells [.v (.int .u8 0), .v (.int .u8 0), .v (.int .u8 0), .v (.int .u8 0), .v (.int .u8 0), .v (.int .u8 0), .v (.int .u8 0), .v (.int .u8 0), .v (.int .u8 0), .v (.int .u8 0), .v (.int .u8 0), .v (.int .u8 0), .v (.int .u8 0), .v (.int .u8 0), .v (.int .u8 0), .v (.int .u8 0), .v (.int .u8 0), .v (.int .u8 0), .v (.int .u8 0), .v (.int .u8 0), .v (.int .u8 0), .v (.int .u8 0), .v (.int .u8 0), .v (.int .u8 0), .v (.int .u8 0), .v (.int .u8 0), .v (.int .u8 0), .v (.int .u8 0), .v (.int .u8 0), .v (.int .u8 0), .v (.int .u8 0), .v (.int .u8 0), .v (.int .u8 0), .v (.int .u8 0), .v (.int .u8 0), .v (.int .u8 0), .v (.int .u8 0), .v (.int .u8 0), .v (.int .u8 0), .v (.int .u8 0), .v (.int .u8 0), .v (.int .u8 0), .v (.int .u8 0), .v (.int .u8 0), .v (.int .u8 0), .v (.int .u8 0), .v (.int .u8 0), .v (.int .u8 0), .v (.int .u8 0), .v (.int .u8 0), .v (.int .u8 0), .v (.int .u8 0), .v (.int .u8 0), .v (.int .u8 0), .v (.int .u8 0), .v (.int .u8 0), .v (.int .u8 0), .v (.int .u8 0), .v (.int .u8 0), .v (.int .u8 0), .v (.int .u8 0), .v (.int .u8 0), .v (.int .u8 0), .v (.int .u8 0), .v (.int .u8 0)] := rfl
theorem p168 : (16 : Int) ^ (7 + 1) = 4294967296 := by decide
theorem f131 : E lo 131 [.v (.int .i64 16)] h = some (.v (.bool true), h) := by
 have a : iand .i64 16 15 = 0 := by decide
 have w : IntKind.i64.wrap (16 - 1) = 15 := by decide
 have w0 : IntKind.i64.wrap 0 = 0 := by decide
 have q : ((0 : Int) == 0) = true := rfl
 rw [e131 (by simp) (by rfl)]
 simp only [go_sem, b131, Tryz.f131, a, w, w0, q]
 all_goals rfl
theorem f132 : E lo 132 [.v (.int .u64 16)] h = some (.v (.int .i64 4), h) := by
 have k := fun lo h => f102 (lo := lo) (h := h) (x := 16) (by omega) (by omega)
 have c : Go.Lib.ctz 64 (16 : Int).toNat = 4 := by decide
 have n4 : ((4 : Nat) : Int) = 4 := rfl
 rw [c, n4] at k
 rw [e132 (by simp) (by rfl)]
 simp only [go_sem, b132, Tryz.f132, k]
 all_goals rfl
theorem f112 (hlo : lo ≤ h.length) {x : Int} (h0 : 0 ≤ x) (h1 : x ≤ 2147483647) : E lo 112 [.list .no [], .v (.int .u64 x), .v (.int .i64 16), .v (.bool false), .v (.bool false)] h = some (.tup [.list .no [], .v (.string (bs (hexF 7 x)))], h) := by
 obtain ⟨u, j1, suf, g0, g1, g2, g3, g4, hL⟩ := loop112 (lo := lo) (h := h) hlo 7 x 65 [] h0 (by rw [p168]; omega) h1 (by omega) (by simp)
 rw [List.append_nil] at g4
 obtain ⟨j, rfl⟩ : ∃ j, j1 = j + 1 := ⟨j1 - 1, by omega⟩
 rw [← g4]
 have n65 : ((65 : Nat) : Int) = 65 := rfl
 rw [cz65, n65] at hL
 have q1 : decide ((16 : Int) < 2) = false := rfl
 have q2 : ((16 : Int) == 10) = false := rfl
 have q3 : decide ((36 : Int) < 16) = false := rfl
 have k2 := fun lo h => f131 (lo := lo) (h := h)
 have k3 := fun lo h => f132 (lo := lo) (h := h)
 have w16 : IntKind.u64.wrap 16 = 16 := by decide
 have w4 : IntKind.u64.wrap 4 = 4 := by decide
 have w15 : IntKind.u64.wrap (16 - 1) = 15 := by decide
 have w1 : IntKind.i64.wrap (((j + 1 : Nat) : Int) - 1) = (j : Int) := by rw [wrap_i64 (by omega) (by omega)]; omega
 have hi := bs_ix by_36 u.toNat
 rw [d36_at g0 g1] at hi
 have b1 : (j : Int) < ((65 : Nat) : Int) := by omega
 have b2 : j ≤ 65 := by omega
 have b3 : j < 65 := by omega
 have e := set_cz j (hexD u) suf
 have e2 : j + 1 ≤ (List.replicate (j + 1) (V.v (Value.int IntKind.u8 0)) ++ List.map (fun c => V.v (Value.int IntKind.u8 c)) suf).length := by simp
 have e3 : decide (j + (65 - j) ≤ (List.replicate j (V.v (Value.int IntKind.u8 0)) ++ V.v (Value.int IntKind.u8 (hexD u)) :: List.map (fun c => V.v (Value.int IntKind.u8 c)) suf).length) = true := by simp; omega
 have e4 : bytesOf (List.map (fun x => [x]) (List.take (65 - j) (List.drop j (List.replicate j (V.v (Value.int IntKind.u8 0)) ++ V.v (Value.int IntKind.u8 (hexD u)) :: List.map (fun c => V.v (Value.int IntKind.u8 c)) suf)))) = some (u8s (hexD u :: suf)) := by
  rw [List.drop_left' (by simp), List.take_of_length_le (by simp; omega)]
  have : List.map (fun x => [x]) (V.v (Value.int IntKind.u8 (hexD u)) :: List.map (fun c => V.v (Value.int IntKind.u8 c)) suf) = ri .u8 (hexD u :: suf) := by simp [ri]
  rw [this]
  exact ri_bytes _
 simp only [l112x0, b112, Tryz.f112, loopAt, loops, bodyOf, go_sem, cz, A170, bs_36, Nat.zero_add, Nat.mul_one] at hL
 rw [e112 (by simp) (by rfl)]
 simp only [go_sem, b112, Tryz.f112, q1, q2, q3, k2, k3, w16, w4, w15, hL, w1, bs_36, hi, g0, b1, b2, b3, e, e2, e3, e4, hlo, cz, Nat.zero_add, Nat.mul_one]
 all_goals rfl
theorem f113 (hlo : lo ≤ h.length) {x : Int} (h0 : 0 ≤ x) (h1 : x ≤ 2147483647) : E lo 113 [.v (.int .i64 x), .v (.int .i64 16)] h = some (.v (.string (bs (hexF 7 x))), h) := by
 have k := fun lo hlo => f112 (lo := lo) (h := h) hlo h0 h1
 have ka := k lo hlo; have kb := k h.length (Nat.le_refl _)
 have q : ((16 : Int) == 10) = false := rfl
 have q2 : decide (x < 0) = false := by simp; omega
 have w : IntKind.u64.wrap x = x := wrap_u64 h0 (by omega)
 rw [e113 (by simp) (by rfl)]
 simp only [go_sem, b113, Tryz.f113, q, q2, w, ka, kb]
 all_goals rfl
theorem f91 (hlo : lo ≤ h.length) {x : Int} (h0 : 0 ≤ x) (h1 : x ≤ 2147483647) : E lo 91 [.v (.int .i64 x), .v (.int .i64 16)] h = some (.v (.string (bs (hexF 7 x))), h) := by
 have k := fun lo hlo => f113 (lo := lo) (h := h) hlo h0 h1
 have ka := k lo hlo; have kb := k h.length (Nat.le_refl _)
 rw [e91 (by simp) (by rfl)]
 simp only [go_sem, b91, Tryz.f91, ka, kb]
 all_goals rfl
theorem hexF_rd : ∀ (k : Nat) (u : Int), 1 ≤ u → u < 16 ^ (k + 1) → hexF k u = (rdN (k + 1) u).reverse
 | 0, u, h0, h1 => by
  have h2 : u < 16 := by simpa using h1
  have e : u % 16 = u := by omega
  simp [hexF, rdN, show ¬ u ≤ 0 by omega, e]
 | k + 1, u, h0, h1 => by
  simp only [hexF]
  split
  ·rename_i hu
   have e : u % 16 = u := by omega
   have e2 : u / 16 = 0 := by omega
   simp [rdN, show ¬ u ≤ 0 by omega, e, e2]
  ·rw [hexF_rd k (u / 16) (by omega) (by rw [Int.pow_succ] at h1; omega)]
   have : rdN (k + 1 + 1) u = hexD (u % 16) :: rdN (k + 1) (u / 16) := by
    simp [rdN, show ¬ u ≤ 0 by omega]
   rw [this, List.reverse_cons]
theorem hexF_code {u : Int} (h0 : 1 ≤ u) (h1 : u ≤ 2147483647) : 92 :: (hexF 7 u ++ [32]) = codeT u := by
 unfold codeT
 rw [hexF_rd 7 u h0 (by rw [p168]; omega)]
theorem bs_92 : (⟨#[92]⟩ : ByteArray) = bs [92] := rfl
theorem bs_32 : (⟨#[32]⟩ : ByteArray) = bs [32] := rfl
theorem f66 (hlo : lo ≤ h.length) {x : Int} (h0 : 1 ≤ x) (h1 : x ≤ 2147483647) : E lo 66 [.v (.int .i32 x)] h = some (.v (.string (bs (codeT x))), h) := by
 have k := fun lo hlo => f91 (lo := lo) (h := h) hlo (x := x) (by omega) h1
 have ka := k lo hlo; have kb := k h.length (Nat.le_refl _)
 have w : IntKind.i64.wrap x = x := wrap_i64 (by omega) (by omega)
 have e := hexF_code h0 h1
 have hlen := codeT_len x
 rw [← e] at hlen
 have z1 : (bs [92]).size + (bs (hexF 7 x)).size ≤ 9223372036854775807 := by rw [bs_size, bs_size]; simp at hlen ⊢; omega
 have z2 : (bs ([92] ++ hexF 7 x)).size + (bs [32]).size ≤ 9223372036854775807 := by rw [bs_size, bs_size]; simp at hlen ⊢; omega
 rw [List.singleton_append] at z2
 rw [e66 (by simp) (by rfl), ← e]
 simp only [go_sem, b66, Tryz.f66, w, ka, kb, bs_92, bs_32, bs_app, z1, z2, List.singleton_append]
 all_goals rfl
end
end Go.Lift.P7
end
