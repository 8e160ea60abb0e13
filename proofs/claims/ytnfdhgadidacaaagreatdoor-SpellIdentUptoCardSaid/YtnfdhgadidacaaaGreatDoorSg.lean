/- Digits, signs, loose texts, characters. -/
import Derived.Test.YtnfdhgadidacaaaGreatDoorSe
import Derived.Test.YtnfdhgadidacaaaGreatDoorSc
import Derived.Test.YtnfdhgadidacaaaGreatDoorSf
section
/- digits, signs, loose texts. -/
open Go.Proofs
namespace Go.Lift.R4
set_option linter.unusedSectionVars false
variable [MX]
open Utf Tok Spell
set_option maxRecDepth 20000
set_option maxHeartbeats 4000000
set_option linter.unusedSimpArgs false
set_option linter.unusedVariables false

section
variable {lo : Nat} {h : Heap}
/-- jalousie/spell.digit -/
theorem f86 {x : Int} : E lo 86 [.v (.int .i32 x)] h = some (.v (.bool (dig x)), h) := by
  unfold dig
  rw [e86 (by simp) (by rfl)]
  cases q : decide (48 ≤ x) with
  | true =>
    simp only [go_sem, b86, Tryz.f86, q]
    all_goals rfl
  | false =>
    simp only [go_sem, b86, Tryz.f86, q]
    all_goals rfl
/-- jalousieref4.digit -/
theorem f100 {x : Int} : E lo 100 [.v (.int .i32 x)] h = some (.v (.bool (dig x)), h) := by
  unfold dig
  rw [e100 (by simp) (by rfl)]
  cases q : decide (48 ≤ x) with
  | true =>
    simp only [go_sem, b100, Tryz.f100, q]
    all_goals rfl
  | false =>
    simp only [go_sem, b100, Tryz.f100, q]
    all_goals rfl
theorem bs_0 : (⟨#[0]⟩ : ByteArray) = bs [0] := rfl
/-- jalousie/spell.stands -/
theorem f51 {l : List Int} (hy : By l) (hl : l.length ≤ 1000000000) : E lo 51 [.v (.string (bs l))] h = some (.v (.bool (sound l)), h) := by
  unfold sound
  have k1 := fun lo h => f109 (lo := lo) (h := h) (b := l) (by omega) hy
  have k2 := fun lo h => f92 (lo := lo) (h := h) hy (c := 0) (by omega) (by omega)
  rw [e51 (by simp) (by rfl)]
  cases q : whole l with
  | true =>
    rw [q] at k1
    simp only [go_sem, b51, Tryz.f51, bytes_bs hy, k1, bs_0, k2]
    all_goals rfl
  | false =>
    rw [q] at k1
    simp only [go_sem, b51, Tryz.f51, bytes_bs hy, k1]
    all_goals rfl
theorem u8s_inj : ∀ {a b : List Int}, By a → By b → u8s a = u8s b → a = b
  | [], [], _, _, _ => rfl
  | [], y :: b, _, _, h => by cases h
  | x :: a, [], _, _, h => by cases h
  | x :: a, y :: b, ha, hb, h => by
    simp only [u8s, List.map_cons, List.cons.injEq] at h
    have hx := ha x (by simp)
    have hy := hb y (by simp)
    have e : x = y := by
      have := congrArg UInt8.toNat h.1
      simp only [UInt8.toNat_ofNat'] at this
      omega
    rw [e, u8s_inj (fun c hc => ha c (by simp [hc])) (fun c hc => hb c (by simp [hc])) h.2]
theorem bs_beq {a b : List Int} (ha : By a) (hb : By b) : ((bs a).toList == (bs b).toList) = (a == b) := by
  rw [bs_list, bs_list, Bool.eq_iff_iff, beq_iff_eq, beq_iff_eq]
  exact ⟨u8s_inj ha hb, fun h => by rw [h]⟩
theorem by_45 : By [45] := fun x hx => by simp at hx; omega
theorem wrap_i32 {x : Int} (h0 : 0 ≤ x) (h1 : x ≤ 255) : IntKind.i32.wrap x = x := by
  simp only [IntKind.wrap, IntKind.signed, IntKind.bits]
  simp
  omega
theorem bs_45' : (⟨#[45]⟩ : ByteArray) = bs [45] := rfl
/-- jalousie/spell.loose -/
theorem f52 {l : List Int} (hy : By l) (hl : l.length ≤ 1000000000) : E lo 52 [.v (.string (bs l))] h = some (.v (.bool (looseT l)), h) := by
  rw [e52 (by simp) (by rfl)]
  have hb := bs_beq hy by_45
  have sz := bs_size l
  have t1 := bs_nil_eq' l
  match l, hy with
  | [], hy =>
    have q : decide ((1 : Int) < (0 : Nat)) = false := rfl
    rw [decide_eq_true rfl] at t1
    have hb2 : (([] : List Int) == [45]) = false := rfl
    rw [hb2] at hb
    simp only [go_sem, b52, Tryz.f52, sz, t1, bs_45', hb, q, List.length_nil]
    all_goals rfl
  | [x], hy =>
    have q : decide ((1 : Int) < (1 : Nat)) = false := rfl
    rw [decide_eq_false (by simp)] at t1
    have hx := hy x (by simp)
    have hc : ([x])[0]? = some x := rfl
    have hi := bs_ix hy 0
    rw [hc] at hi
    have w := wrap_i32 hx.1 hx.2
    have hb2 : ([x] == [45]) = (x == 45) := by simp
    rw [hb2] at hb
    have sz1 : (bs [x]).size = 1 := sz
    unfold looseT
    cases qd : dig x with
    | true =>
      have k := fun lo h => f86 (lo := lo) (h := h) (x := x)
      rw [qd] at k
      simp only [go_sem, b52, Tryz.f52, sz1, t1, hi, w, k, q]
      all_goals simp [qd]
    | false =>
      have k := fun lo h => f86 (lo := lo) (h := h) (x := x)
      rw [qd] at k
      cases qx : (x == 45) with
      | true =>
        rw [qx] at hb
        simp only [go_sem, b52, Tryz.f52, sz1, t1, hi, w, k, q, bs_45', hb]
        all_goals simp [qd, qx]
      | false =>
        rw [qx] at hb
        simp only [go_sem, b52, Tryz.f52, sz1, t1, hi, w, k, q, bs_45', hb]
        all_goals simp [qd, qx]
  | x :: y :: u, hy =>
    have q : decide ((1 : Int) < ((x :: y :: u).length : Nat)) = true := by simp; omega
    rw [decide_eq_false (by simp)] at t1
    have hx := hy x (by simp)
    have hy1 := hy y (by simp)
    have hc : (x :: y :: u)[0]? = some x := rfl
    have hc1 : (x :: y :: u)[1]? = some y := rfl
    have hi := bs_ix hy 0
    have hi1 := bs_ix hy 1
    rw [hc] at hi
    rw [hc1] at hi1
    have w := wrap_i32 hx.1 hx.2
    have w1 := wrap_i32 hy1.1 hy1.2
    have hb2 : ((x :: y :: u) == [45]) = false := by simp
    rw [hb2] at hb
    have k := fun lo h => f86 (lo := lo) (h := h) (x := x)
    have k1 := fun lo h => f86 (lo := lo) (h := h) (x := y)
    unfold looseT
    simp only
    generalize x :: y :: u = l at *
    cases qd : dig x with
    | true =>
      rw [qd] at k
      simp only [go_sem, b52, Tryz.f52, sz, t1, hi, w, k, q]
      all_goals simp [qd]
    | false =>
      rw [qd] at k
      cases qx : (x == 45) with
      | true =>
        simp only [go_sem, b52, Tryz.f52, sz, t1, hi, hi1, w, w1, k, k1, q, qx, bs_45', hb]
        all_goals simp [qd, qx]
      | false =>
        simp only [go_sem, b52, Tryz.f52, sz, t1, hi, hi1, w, w1, k, k1, q, qx, bs_45', hb]
        all_goals simp [qd, qx]
end
end Go.Lift.R4
end

section
/- signs; jalousieref4.Chars; plain. -/
open Go.Proofs
namespace Go.Lift.R4
set_option linter.unusedSectionVars false
variable [MX]
open Utf Tok Spell
set_option maxRecDepth 20000
set_option maxHeartbeats 4000000
set_option linter.unusedSimpArgs false
set_option linter.unusedVariables false

section
variable {lo : Nat} {h : Heap}
theorem bs_signs : (⟨#[35, 36, 37, 38, 42, 43, 45, 46, 47, 60, 61, 62, 63, 64, 92, 94, 96, 124, 126, 33]⟩ : ByteArray) = bs signs := rfl
theorem by_signs : By signs := by decide
/-- a control character -/
def ctl (c : Int) : Bool := decide (1 ≤ c) && decide (c ≤ 8) || c == 11 || decide (14 ≤ c) && decide (c ≤ 31) || c == 127
theorem ctl_cases (c : Int) : (decide (1 ≤ c) = true ∧ decide (c ≤ 8) = true) ∨ c = 11 ∨ (c = 9 ∨ c = 10 ∨ c = 12 ∨ c = 13) ∨ (decide (1 ≤ c) = true ∧ decide (c ≤ 8) = false ∧ (c == 11) = false ∧ decide (14 ≤ c) = true) ∨
    (decide (1 ≤ c) = false ∧ (c == 11) = false ∧ decide (14 ≤ c) = false ∧ (c == 127) = false) := by
  simp
  omega
/-- jalousie/spell.sign -/
theorem f53 {l : List Int} (hy : By l) (hl : l.length ≤ 1000000000) : E lo 53 [.v (.string (bs l))] h = some (.v (.bool (signT l)), h) := by
  rw [e53 (by simp) (by rfl)]
  match l, hy with
  | [], hy =>
    have sz : (bs []).size = 0 := rfl
    have q : ((0 : Int) != 1) = true := rfl
    have n0 : ((0 : Nat) : Int) = 0 := rfl
    simp only [go_sem, b53, Tryz.f53, sz, n0, q]
    all_goals rfl
  | x :: y :: u, hy =>
    have sz := bs_size (x :: y :: u)
    have q : (((x :: y :: u).length : Int) != 1) = true := by simp; omega
    rw [← sz] at q
    have e : signT (x :: y :: u) = false := rfl
    rw [e]
    generalize bs (x :: y :: u) = s at *
    simp only [go_sem, b53, Tryz.f53, q]
    all_goals rfl
  | [c], hy =>
    have sz : (bs [c]).size = 1 := bs_size [c]
    have q : ((1 : Int) != 1) = false := rfl
    have n1 : ((1 : Nat) : Int) = 1 := rfl
    have hx := hy c (by simp)
    have hc : ([c])[0]? = some c := rfl
    have hi := bs_ix hy 0
    rw [hc] at hi
    have k := fun lo h => f92 (lo := lo) (h := h) by_signs hx.1 hx.2
    have e : signT [c] = (signs.contains c || ctl c) := rfl
    rw [e]
    unfold ctl
    cases qs : signs.contains c with
    | true =>
      rw [qs] at k
      simp only [go_sem, b53, Tryz.f53, sz, n1, q, hi, bs_signs, k]
      all_goals rfl
    | false =>
      rw [qs] at k
      rcases ctl_cases c with ⟨c1, c8⟩ | rfl | (rfl | rfl | rfl | rfl) | ⟨c1, c8, c11, c14⟩ | ⟨c1, c11, c14, c127⟩
      · simp only [go_sem, b53, Tryz.f53, sz, n1, q, hi, bs_signs, k, c1, c8]
        all_goals rfl
      · have d1 : decide ((1 : Int) ≤ 11) = true := rfl
        have d8 : decide ((11 : Int) ≤ 8) = false := rfl
        have d11 : ((11 : Int) == 11) = true := rfl
        simp only [go_sem, b53, Tryz.f53, sz, n1, q, hi, bs_signs, k, d1, d8, d11]
        all_goals rfl
      · have d1 : decide ((1 : Int) ≤ 9) = true := rfl
        have d8 : decide ((9 : Int) ≤ 8) = false := rfl
        have d11 : ((9 : Int) == 11) = false := rfl
        have d14 : decide ((14 : Int) ≤ 9) = false := rfl
        have d127 : ((9 : Int) == 127) = false := rfl
        simp only [go_sem, b53, Tryz.f53, sz, n1, q, hi, bs_signs, k, d1, d8, d11, d14, d127]
        all_goals rfl
      · have d1 : decide ((1 : Int) ≤ 10) = true := rfl
        have d8 : decide ((10 : Int) ≤ 8) = false := rfl
        have d11 : ((10 : Int) == 11) = false := rfl
        have d14 : decide ((14 : Int) ≤ 10) = false := rfl
        have d127 : ((10 : Int) == 127) = false := rfl
        simp only [go_sem, b53, Tryz.f53, sz, n1, q, hi, bs_signs, k, d1, d8, d11, d14, d127]
        all_goals rfl
      · have d1 : decide ((1 : Int) ≤ 12) = true := rfl
        have d8 : decide ((12 : Int) ≤ 8) = false := rfl
        have d11 : ((12 : Int) == 11) = false := rfl
        have d14 : decide ((14 : Int) ≤ 12) = false := rfl
        have d127 : ((12 : Int) == 127) = false := rfl
        simp only [go_sem, b53, Tryz.f53, sz, n1, q, hi, bs_signs, k, d1, d8, d11, d14, d127]
        all_goals rfl
      · have d1 : decide ((1 : Int) ≤ 13) = true := rfl
        have d8 : decide ((13 : Int) ≤ 8) = false := rfl
        have d11 : ((13 : Int) == 11) = false := rfl
        have d14 : decide ((14 : Int) ≤ 13) = false := rfl
        have d127 : ((13 : Int) == 127) = false := rfl
        simp only [go_sem, b53, Tryz.f53, sz, n1, q, hi, bs_signs, k, d1, d8, d11, d14, d127]
        all_goals rfl
      · cases c31 : decide (c ≤ 31) with
        | true =>
          simp only [go_sem, b53, Tryz.f53, sz, n1, q, hi, bs_signs, k, c1, c8, c11, c14, c31]
          all_goals rfl
        | false =>
          simp only [go_sem, b53, Tryz.f53, sz, n1, q, hi, bs_signs, k, c1, c8, c11, c14, c31]
          all_goals rfl
      · simp only [go_sem, b53, Tryz.f53, sz, n1, q, hi, bs_signs, k, c1, c11, c14, c127]
        all_goals simp
        all_goals rfl
theorem loop101 {N : Nat} {c : Int} (hc : 0 ≤ c ∧ c ≤ 255) : ∀ (m k : Nat), k + m = 20 →
    loopW (evCode ⟨Tryz.prog, E, lo, N, h101⟩ loopW l101x0) ([(3, .v (.int .u8 c)), (10, .v (.int .i64 k))], h) =
      if (signs.drop k).contains c = true then some (.ret, [(2, .v (.bool true))], h) else some (.exit 0, [(3, .v (.int .u8 c)), (10, .v (.int .i64 20)), (11, .v (.bool false))], h) := by
  intro m
  induction m with
  | zero =>
    intro k hk
    obtain rfl : k = 20 := by omega
    have q : decide (((20 : Nat) : Int) < 20) = false := rfl
    have n20 : ((20 : Nat) : Int) = 20 := rfl
    have e : (signs.drop 20).contains c = false := rfl
    rw [loop_eq, e, if_neg (by simp)]
    simp only [go_sem, l101x0, b101, Tryz.f101, q, n20, Int.reduceLT, decide_false]
    all_goals rfl
  | succ m ih =>
    intro k hk
    have hlt : k < signs.length := by show k < 20; omega
    have hg : signs[k]? = some signs[k] := List.getElem?_eq_getElem hlt
    have hd : signs.drop k = signs[k] :: signs.drop (k + 1) := List.drop_eq_getElem_cons hlt
    have q : decide ((k : Int) < 20) = true := by simp; omega
    have hi := bs_ix by_signs k
    rw [hg] at hi
    have w1 : IntKind.i64.wrap ((k : Int) + 1) = ((k + 1 : Nat) : Int) := wrap_succ (by omega)
    rw [loop_eq, hd, List.contains_cons]
    generalize signs[k] = x at *
    cases qx : (x == c) with
    | true =>
      have e : (c == x) = true := by rw [beq_iff_eq] at qx ⊢; exact qx.symm
      rw [e, if_pos (by simp)]
      simp only [go_sem, l101x0, b101, Tryz.f101, q, bs_signs, hi, qx]
      all_goals rfl
    | false =>
      have e : (c == x) = false := by rw [beq_eq_false_iff_ne] at qx ⊢; exact fun h => qx h.symm
      rw [e, Bool.false_or]
      have er : evCode ⟨Tryz.prog, E, lo, N, h101⟩ loopW l101x0 ([(3, .v (.int .u8 c)), (10, .v (.int .i64 k))], h) = some (.normal, [(3, .v (.int .u8 c)), (10, .v (.int .i64 (k + 1 : Nat)))], h) := by
        simp only [go_sem, l101x0, b101, Tryz.f101, q, bs_signs, hi, qx, w1]
        all_goals rfl
      rw [er, loop_n, ih (k + 1) (by omega)]
end
end Go.Lift.R4
end

section
/- jalousieref4.delim, jalousieref4.Chars; spell.plain. -/
open Go.Proofs
namespace Go.Lift.R4
set_option linter.unusedSectionVars false
variable [MX]
open Utf Tok Spell
set_option maxRecDepth 20000
set_option maxHeartbeats 4000000
set_option linter.unusedSimpArgs false
set_option linter.unusedVariables false

section
variable {lo : Nat} {h : Heap}
/-- jalousieref4.delim -/
theorem f101 {l : List Int} (hy : By l) (hl : l.length ≤ 1000000000) : E lo 101 [.v (.string (bs l))] h = some (.v (.bool (signT l)), h) := by
  rw [e101 (by simp) (by rfl)]
  match l, hy with
  | [], hy =>
    have sz : (bs []).size = 0 := rfl
    have q : ((0 : Int) != 1) = true := rfl
    have n0 : ((0 : Nat) : Int) = 0 := rfl
    simp only [go_sem, b101, Tryz.f101, sz, n0, q]
    all_goals rfl
  | x :: y :: u, hy =>
    have sz := bs_size (x :: y :: u)
    have q : (((x :: y :: u).length : Int) != 1) = true := by simp; omega
    rw [← sz] at q
    have e : signT (x :: y :: u) = false := rfl
    rw [e]
    generalize bs (x :: y :: u) = s at *
    simp only [go_sem, b101, Tryz.f101, q]
    all_goals rfl
  | [c], hy =>
    have sz : (bs [c]).size = 1 := bs_size [c]
    have q : ((1 : Int) != 1) = false := rfl
    have n1 : ((1 : Nat) : Int) = 1 := rfl
    have hx := hy c (by simp)
    have hc : ([c])[0]? = some c := rfl
    have hi := bs_ix hy 0
    rw [hc] at hi
    have hL := loop101 (lo := lo) (h := h) (N := h.length) hx 20 0 rfl
    have n0 : ((0 : Nat) : Int) = 0 := rfl
    have hdr : signs.drop 0 = signs := rfl
    rw [hdr] at hL
    have e : signT [c] = (signs.contains c || ctl c) := rfl
    rw [e]
    unfold ctl
    cases qs : signs.contains c with
    | true =>
      rw [qs, if_pos rfl] at hL
      simp only [l101x0, b101, Tryz.f101, loopAt, loops, bodyOf, go_sem, n0] at hL
      simp only [go_sem, b101, Tryz.f101, sz, n1, q, hi, hL]
      all_goals rfl
    | false =>
      rw [qs, if_neg (by simp)] at hL
      simp only [l101x0, b101, Tryz.f101, loopAt, loops, bodyOf, go_sem, n0] at hL
      rcases ctl_cases c with ⟨c1, c8⟩ | rfl | (rfl | rfl | rfl | rfl) | ⟨c1, c8, c11, c14⟩ | ⟨c1, c11, c14, c127⟩
      · simp only [go_sem, b101, Tryz.f101, sz, n1, q, hi, hL, c1, c8]
        all_goals rfl
      · have d1 : decide ((1 : Int) ≤ 11) = true := rfl
        have d8 : decide ((11 : Int) ≤ 8) = false := rfl
        have d11 : ((11 : Int) == 11) = true := rfl
        have d14 : decide ((14 : Int) ≤ 11) = false := rfl
        have d127 : ((11 : Int) == 127) = false := rfl
        simp only [go_sem, b101, Tryz.f101, sz, n1, q, hi, hL, d1, d8, d11, d14, d127]
        all_goals rfl
      · have d1 : decide ((1 : Int) ≤ 9) = true := rfl
        have d8 : decide ((9 : Int) ≤ 8) = false := rfl
        have d11 : ((9 : Int) == 11) = false := rfl
        have d14 : decide ((14 : Int) ≤ 9) = false := rfl
        have d127 : ((9 : Int) == 127) = false := rfl
        simp only [go_sem, b101, Tryz.f101, sz, n1, q, hi, hL, d1, d8, d11, d14, d127]
        all_goals rfl
      · have d1 : decide ((1 : Int) ≤ 10) = true := rfl
        have d8 : decide ((10 : Int) ≤ 8) = false := rfl
        have d11 : ((10 : Int) == 11) = false := rfl
        have d14 : decide ((14 : Int) ≤ 10) = false := rfl
        have d127 : ((10 : Int) == 127) = false := rfl
        simp only [go_sem, b101, Tryz.f101, sz, n1, q, hi, hL, d1, d8, d11, d14, d127]
        all_goals rfl
      · have d1 : decide ((1 : Int) ≤ 12) = true := rfl
        have d8 : decide ((12 : Int) ≤ 8) = false := rfl
        have d11 : ((12 : Int) == 11) = false := rfl
        have d14 : decide ((14 : Int) ≤ 12) = false := rfl
        have d127 : ((12 : Int) == 127) = false := rfl
        simp only [go_sem, b101, Tryz.f101, sz, n1, q, hi, hL, d1, d8, d11, d14, d127]
        all_goals rfl
      · have d1 : decide ((1 : Int) ≤ 13) = true := rfl
        have d8 : decide ((13 : Int) ≤ 8) = false := rfl
        have d11 : ((13 : Int) == 11) = false := rfl
        have d14 : decide ((14 : Int) ≤ 13) = false := rfl
        have d127 : ((13 : Int) == 127) = false := rfl
        simp only [go_sem, b101, Tryz.f101, sz, n1, q, hi, hL, d1, d8, d11, d14, d127]
        all_goals rfl
      · cases c31 : decide (c ≤ 31) with
        | true =>
          simp only [go_sem, b101, Tryz.f101, sz, n1, q, hi, hL, c1, c8, c11, c14, c31]
          all_goals rfl
        | false =>
          simp only [go_sem, b101, Tryz.f101, sz, n1, q, hi, hL, c1, c8, c11, c14, c31]
          all_goals rfl
      · simp only [go_sem, b101, Tryz.f101, sz, n1, q, hi, hL, c1, c11, c14, c127]
        all_goals simp
        all_goals rfl
theorem plain_size (x : Option (List Int)) : ∃ t e, plainV x = .tup [.v (.string (bs t)), .v (.int .i64 e)] ∧ (e == 0) = x.isSome := by
  cases x with
  | none => exact ⟨[], 1, rfl, rfl⟩
  | some t => exact ⟨t, 0, rfl, rfl⟩
/-- jalousie/spell.plain -/
theorem f54 (hlo : lo ≤ h.length) {k n d : Int} {b : List Int} {w i : Bool} (h0 : -9223372036854775808 ≤ n) (h1 : n ≤ 9223372036854775807) (h2 : -9223372036854775808 ≤ d) (h3 : d ≤ 9223372036854775807) :
    E lo 54 [.agg (tokV k b n d w i)] h = some (.v (.bool (plainT n d w).isSome), h) := by
  have k1 := fun lo h hlo => f36 (lo := lo) (h := h) hlo (n := n) (d := d) (w := w) h0 h1 h2 h3
  have k1 := k1 lo (h ++ [.cells (tokV k b n d w i)]) (by simp; omega)
  obtain ⟨t, e, he, hs⟩ := plain_size (plainT n d w)
  rw [he] at k1
  rw [e54 (by simp) (by rfl), ← hs]
  unfold tokV at *
  simp only [go_sem, b54, Tryz.f54, hlo, k1]
  all_goals rfl
theorem loop42 {N : Nat} {s : List Int} {l : List Int} (hl : l.length ≤ 1000000000) : ∀ (m k : Nat), k + m = l.length →
    loopW (evCode ⟨Tryz.prog, E, lo, N, h42⟩ loopW l42x0) ([(0, .v (.string (bs s))), (4, .list .no (ri .i32 l)), (10, .list .no (ri .i32 l)), (11, .v (.int .i64 l.length)), (12, .v (.int .i64 k))], h) =
      if (l.drop k).contains 0 = true then some (.ret, [(2, .list .yes []), (3, .v (.bool false))], h)
      else some (.exit 0, [(0, .v (.string (bs s))), (4, .list .no (ri .i32 l)), (10, .list .no (ri .i32 l)), (11, .v (.int .i64 l.length)), (12, .v (.int .i64 l.length)), (13, .v (.bool false))], h) := by
  intro m
  induction m with
  | zero =>
    intro k hk
    obtain rfl : k = l.length := by omega
    have q : decide ((l.length : Int) < (l.length : Int)) = false := by simp
    rw [loop_eq, List.drop_length, if_neg (by simp)]
    simp only [go_sem, l42x0, b42, Tryz.f42, q]
    all_goals rfl
  | succ m ih =>
    intro k hk
    have hlt : k < l.length := by omega
    have hg : l[k]? = some l[k] := List.getElem?_eq_getElem hlt
    have hd : l.drop k = l[k] :: l.drop (k + 1) := List.drop_eq_getElem_cons hlt
    have q : decide ((k : Int) < (l.length : Int)) = true := by simp; omega
    have w1 : IntKind.i64.wrap ((k : Int) + 1) = ((k + 1 : Nat) : Int) := wrap_succ (by omega)
    rw [loop_eq, hd, List.contains_cons]
    generalize l[k] = x at *
    cases qx : (x == 0) with
    | true =>
      have e : ((0 : Int) == x) = true := by rw [beq_iff_eq] at qx ⊢; exact qx.symm
      rw [e, if_pos (by simp)]
      simp only [go_sem, l42x0, b42, Tryz.f42, q, hg, qx]
      all_goals rfl
    | false =>
      have e : ((0 : Int) == x) = false := by rw [beq_eq_false_iff_ne] at qx ⊢; exact fun h => qx h.symm
      rw [e, Bool.false_or]
      have er : evCode ⟨Tryz.prog, E, lo, N, h42⟩ loopW l42x0 ([(0, .v (.string (bs s))), (4, .list .no (ri .i32 l)), (10, .list .no (ri .i32 l)), (11, .v (.int .i64 l.length)), (12, .v (.int .i64 k))], h) = some (.normal, [(0, .v (.string (bs s))), (4, .list .no (ri .i32 l)), (10, .list .no (ri .i32 l)), (11, .v (.int .i64 l.length)), (12, .v (.int .i64 (k + 1 : Nat)))], h) := by
        simp only [go_sem, l42x0, b42, Tryz.f42, q, hg, qx, w1]
        all_goals rfl
      rw [er, loop_n, ih (k + 1) (by omega)]
/-- a text's characters, if there is no 0 among them -/
def charsL (l : List Int) : List Int := if (raw l).contains 0 = true then [] else raw l
/-- jalousieref4.Chars -/
theorem f42 {l : List Int} (hy : By l) (hl : l.length ≤ 1000000000) : E lo 42 [.v (.string (bs l))] h = some (.tup [.list .no (ri .i32 (charsL l)), .v (.bool (sound l))], h) := by
  have k1 := fun lo h => f84 (lo := lo) (h := h) hl hy
  have k2 := fun lo h => f106 (lo := lo) (h := h) (b := l) (by omega) hy
  have hc := (raw_count l).1
  have hL := loop42 (lo := lo) (h := h) (N := h.length) (s := l) (l := raw l) (by omega) (raw l).length 0 (by omega)
  have n0 : ((0 : Nat) : Int) = 0 := rfl
  have hs := sound_ref hy
  rw [List.drop_zero] at hL
  rw [e42 (by simp) (by rfl)]
  unfold charsL
  cases q : (raw l).contains 0 with
  | true =>
    rw [q, if_pos rfl] at hL hs
    simp only [l42x0, b42, Tryz.f42, loopAt, loops, bodyOf, go_sem, n0] at hL
    rw [← hs]
    simp only [go_sem, b42, Tryz.f42, bytes_bs hy, k1, hL]
    all_goals rfl
  | false =>
    rw [q, if_neg (by simp)] at hL hs
    simp only [l42x0, b42, Tryz.f42, loopAt, loops, bodyOf, go_sem, n0] at hL
    rw [← hs]
    simp only [go_sem, b42, Tryz.f42, bytes_bs hy, k1, hL, k2]
    all_goals rfl
theorem fl34 : flatOf Tryz.prog 34 = some [1, 2, 1, 1, 0, 0] := by kernel_rfl
theorem eq_tok {k k' n n' d d' : Int} {s s' : ByteArray} {w w' i i' : Bool} : eqCells [1, 2, 1, 1, 0, 0] [.v (.int .i64 k), .v (.string s), .v (.int .i64 n), .v (.int .i64 d), .v (.bool w), .v (.bool i)] [.v (.int .i64 k'), .v (.string s'), .v (.int .i64 n'), .v (.int .i64 d'), .v (.bool w'), .v (.bool i')] =
    some (k == k' && (s.toList == s'.toList && (n == n' && (d == d' && (w == w' && i == i'))))) := by
  simp [eqCells, eqS]
end
end Go.Lift.R4
end
