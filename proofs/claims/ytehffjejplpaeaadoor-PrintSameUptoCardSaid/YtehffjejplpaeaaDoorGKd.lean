/- utf.step, jalousieref2.need. -/
import Derived.Test.YtehffjejplpaeaaDoorGLc
import Derived.Test.YtehffjejplpaeaaDoorGKa
import Derived.Test.YtehffjejplpaeaaDoorGK8Basea
import Derived.Test.YtehffjejplpaeaaDoorGKb
import Derived.Test.YtehffjejplpaeaaDoorGKc
set_option linter.unusedVariables false
set_option linter.unusedSimpArgs false
set_option linter.unusedSectionVars false
section
open Go.Proofs
namespace Go.Lift.D7
variable [MX]
open Utf
set_option maxRecDepth 20000
theorem f40 {lo : Nat} {c : Int} {t : List Int} {h : Heap} (hb : (c :: t).length ≤ 140737488355328) (hy : By (c :: t)) :
  E lo 40 [.list .no (ri .u8 (c :: t))] h = some (two (one (c :: t)), h) := by
 have hcy := hy c (List.mem_cons_self ..)
 have hx : (c :: t)[0]? = some c := rfl
 simp only [one]
 by_cases h0 : c < 128
 ·rw [if_pos h0]
  have t0 : decide (c < 128) = true := by simp; omega
  have hm : IntKind.i32.wrap c = c := wrap_i32 (by omega) (by omega)
  rw [e40 (by simp) (by rfl)]
  simp only [go_sem, b40, Tryd.f40, hx, t0, hm]
  rfl
 ·rw [if_neg h0]
  by_cases ha : 194 ≤ c ∧ c ≤ 223
  ·have e : nd c = (1, 128, 191) := by unfold nd; rw [if_pos ha]
   rw [f40a hb hy ha, e]
   rfl
  by_cases hb1 : c = 224
  ·have e : nd c = (2, 160, 191) := by unfold nd; rw [if_neg ha, if_pos hb1]
   rw [f40b hb hy hb1, e]
   rfl
  by_cases hc1 : c = 237
  ·have e : nd c = (2, 128, 159) := by unfold nd; rw [if_neg ha, if_neg hb1, if_pos hc1]
   rw [f40c hb hy hc1, e]
   rfl
  by_cases hd1 : 225 ≤ c ∧ c ≤ 239
  ·have e : nd c = (2, 128, 191) := by unfold nd; rw [if_neg ha, if_neg hb1, if_neg hc1, if_pos hd1]
   rw [f40d hb hy ⟨hd1.1, hd1.2, hc1⟩, e]
   rfl
  by_cases he1 : c = 240
  ·have e : nd c = (3, 144, 191) := by unfold nd; rw [if_neg ha, if_neg hb1, if_neg hc1, if_neg hd1, if_pos he1]
   rw [f40e hb hy he1, e]
   rfl
  by_cases hf1 : 241 ≤ c ∧ c ≤ 243
  ·have e : nd c = (3, 128, 191) := by unfold nd; rw [if_neg ha, if_neg hb1, if_neg hc1, if_neg hd1, if_neg he1, if_pos hf1]
   rw [f40f hb hy hf1, e]
   rfl
  by_cases hg1 : c = 244
  ·have e : nd c = (3, 128, 143) := by unfold nd; rw [if_neg ha, if_neg hb1, if_neg hc1, if_neg hd1, if_neg he1, if_neg hf1, if_pos hg1]
   rw [f40g hb hy hg1, e]
   rfl
  have e : nd c = (0, 0, 0) := by unfold nd; rw [if_neg ha, if_neg hb1, if_neg hc1, if_neg hd1, if_neg he1, if_neg hf1, if_neg hg1]
  rw [e, if_pos rfl]
  have t0 : decide (c < 128) = false := by simp; omega
  have t1 : (decide (194 ≤ c) && decide (c ≤ 223)) = false := by simp; omega
  have t2 : (decide (224 ≤ c) && decide (c ≤ 239)) = false := by simp; omega
  have t3 : (decide (240 ≤ c) && decide (c ≤ 244)) = false := by simp; omega
  rw [e40 (by simp) (by rfl)]
  simp only [go_sem, b40, Tryd.f40, hx, t0, t1, t2, t3]
  rfl
end Go.Lift.D7
end

section
open Go.Proofs
namespace Go.Lift.D7
variable [MX]
open Utf
set_option maxRecDepth 20000
theorem f40n {lo : Nat} {b : List Int} {h : Heap} (hn : b ≠ []) (hb : b.length ≤ 140737488355328) (hy : By b) : E lo 40 [.list .no (ri .u8 b)] h = some (two (one b), h) := by
 cases b with
 | nil => exact absurd rfl hn
 | cons c t => exact f40 hb hy
end Go.Lift.D7
end

section
open Go.Proofs
namespace Go.Lift.D7
variable [MX]
open Utf
set_option maxRecDepth 20000
theorem round29 {lo : Nat} {b : List Int} {h : Heap} (hn : b ≠ []) (hb : b.length ≤ 140737488355328) (hy : By b) :
  evCode ⟨Tryd.prog, E, lo, h.length, h29⟩ loopW l29x0 ([(0, .list .no (ri .u8 b))], h) =
   if bad b = true then some (.ret, [(2, .v (.bool false))], h) else some (.normal, [(0, .list .no (ri .u8 (b.drop (one b).2.1)))], h) := by
 have hl : 0 < b.length := List.length_pos_iff.mpr hn
 have hd : decide ((0 : Int) < b.length) = true := by simpa using hl
 have hk := (one_b hn).2.2
 have hs : 0 ≤ ((one b).2.1 : Int) := by omega
 have fin : ∀ {v : Bool}, (bad b = v) → (v = (bad b)) := fun h => h.symm
 cases h1 : (one b).1 == 65533 with
 | false =>
  have hv : bad b = false := by simp [bad, h1]
  simp only [go_sem, l29x0, b29, Tryd.f29, hd, f40n hn hb hy, two, hs, hk, Nat.le_refl, ri_drop, ri_take, Int.toNat_natCast, and_self, h1, hv, Bool.false_eq_true]
 | true =>
  by_cases h3 : (one b).2.1 < 3
  ·have hv : bad b = true := by simp [bad, h1, h3]
   have h4 : decide (((one b).2.1 : Int) < 3) = true := by simp; omega
   simp only [go_sem, l29x0, b29, Tryd.f29, hd, f40n hn hb hy, two, hs, hk, Nat.le_refl, ri_drop, ri_take, Int.toNat_natCast, and_self, h1, hv, h4]
  ·have h4 : decide (((one b).2.1 : Int) < 3) = false := by simp; omega
   obtain ⟨a1, a2, a3, t, he⟩ : ∃ a1 a2 a3 t, b = a1 :: a2 :: a3 :: t := by
    match b, hk with
    | [], hk => simp at hk; omega
    | [_], hk => simp at hk; omega
    | [_, _], hk => simp at hk; omega
    | a1 :: a2 :: a3 :: t, _ => exact ⟨_, _, _, _, rfl⟩
   have x1 : b[0]? = some a1 := by rw [he]; rfl
   have x2 : b[1]? = some a2 := by rw [he]; rfl
   have x3 : b[2]? = some a3 := by rw [he]; rfl
   have hv : bad b = (a1 != 239 || (a2 != 191 || a3 != 189)) := by
    have ht : isRep b = (a1 == 239 && (a2 == 191 && a3 == 189)) := by rw [he]; simp [isRep]
    simp only [bad, h1, h3, ht, decide_false, Bool.true_and, Bool.false_or, bne, Bool.not_and]
   clear he
   rw [hv]
   cases g1 : a1 != 239 with
   | true => simp only [go_sem, l29x0, b29, Tryd.f29, hd, f40n hn hb hy, two, hs, hk, Nat.le_refl, ri_drop, ri_take, Int.toNat_natCast, and_self, h1, h4, x1, x2, x3, g1]
   | false =>
    cases g2 : a2 != 191 with
    | true => simp only [go_sem, l29x0, b29, Tryd.f29, hd, f40n hn hb hy, two, hs, hk, Nat.le_refl, ri_drop, ri_take, Int.toNat_natCast, and_self, h1, h4, x1, x2, x3, g1, g2]
    | false =>
     cases g3 : a3 != 189 with
     | true => simp only [go_sem, l29x0, b29, Tryd.f29, hd, f40n hn hb hy, two, hs, hk, Nat.le_refl, ri_drop, ri_take, Int.toNat_natCast, and_self, h1, h4, x1, x2, x3, g1, g2, g3]
     | false => simp only [go_sem, l29x0, b29, Tryd.f29, hd, f40n hn hb hy, two, hs, hk, Nat.le_refl, ri_drop, ri_take, Int.toNat_natCast, and_self, h1, h4, x1, x2, x3, g1, g2, g3, Bool.false_eq_true]
theorem loop29 {lo : Nat} {h : Heap} : ∀ (n : Nat) (b : List Int), b.length ≤ n → b.length ≤ 140737488355328 → By b →
  loopW (evCode ⟨Tryd.prog, E, lo, h.length, h29⟩ loopW l29x0) ([(0, .list .no (ri .u8 b))], h) =
   if whole b = true then some (.exit 0, [(0, .list .no []), (7, .v (.bool false))], h) else some (.ret, [(2, .v (.bool false))], h) := by
 have stop : loopW (evCode ⟨Tryd.prog, E, lo, h.length, h29⟩ loopW l29x0) ([(0, .list .no (ri .u8 []))], h) =
   if whole [] = true then some (.exit 0, [(0, .list .no []), (7, .v (.bool false))], h) else some (.ret, [(2, .v (.bool false))], h) := by
  rw [loop_eq]
  simp only [go_sem, l29x0, b29, Tryd.f29, whole_nil, ri_nil, List.length_nil]
  all_goals rfl
 intro n
 induction n with
 | zero =>
  intro b h1 h2 hy
  obtain rfl : b = [] := List.eq_nil_of_length_eq_zero (by omega)
  exact stop
 | succ n ih =>
  intro b h1 h2 hy
  by_cases hn : b = []
  ·subst hn; exact stop
  ·have hk := one_b hn
   have hlen : (b.drop (one b).2.1).length = b.length - (one b).2.1 := List.length_drop
   rw [loop_eq, round29 hn h2 hy, bad_eq hy hn, whole_b hn]
   cases hx : (one b).2.2 with
   | true => rw [if_neg (by simp), loop_n, ih _ (by omega) (by omega) (hy.drop _), Bool.true_and]
   | false => rw [if_pos (by simp), loop_r]; rfl
theorem f29 {lo : Nat} {b : List Int} {h : Heap} (hb : b.length ≤ 140737488355328) (hy : By b) : E lo 29 [.list .no (ri .u8 b)] h = some (.v (.bool (whole b)), h) := by
 rw [e29 (by simp) (by rfl)]
 have hL := loop29 (lo := lo) (h := h) b.length b (Nat.le_refl _) hb hy
 simp only [l29x0, b29, Tryd.f29, loopAt, loops, bodyOf, go_sem, ri_nil, List.drop_zero] at hL
 cases hx : whole b with
 | true =>
  rw [if_pos hx] at hL
  simp only [go_sem, b29, Tryd.f29, hL]
 | false =>
  rw [if_neg (by simp [hx])] at hL
  simp only [go_sem, b29, Tryd.f29, hL]
end Go.Lift.D7
end

section
open Go.Proofs
namespace Go.Lift.D7
variable [MX]
open Utf Tok Spell
set_option maxRecDepth 20000
set_option maxHeartbeats 4000000
section
variable {lo : Nat} {h : Heap}
theorem f48 {x : Int} : E lo 48 [.v (.int .i32 x)] h = some (.v (.bool (dig x)), h) := by
 unfold dig
 rw [e48 (by simp) (by rfl)]
 cases q : decide (48 ≤ x) with
 | true =>
  simp only [go_sem, b48, Tryd.f48, q]
  all_goals rfl
 | false =>
  simp only [go_sem, b48, Tryd.f48, q]
  all_goals rfl
theorem bs_0 : (⟨#[0]⟩ : ByteArray) = bs [0] := rfl
theorem f34 {l : List Int} (hy : By l) (hl : l.length ≤ 1000000000) : E lo 34 [.v (.string (bs l))] h = some (.v (.bool (sound l)), h) := by
 unfold sound
 have k1 := fun lo h => f29 (lo := lo) (h := h) (b := l) (by omega) hy
 have k2 := fun lo h => f30 (lo := lo) (h := h) hy (c := 0) (by omega) (by omega)
 rw [e34 (by simp) (by rfl)]
 cases q : whole l with
 | true =>
  rw [q] at k1
  simp only [go_sem, b34, Tryd.f34, bytes_bs hy, k1, bs_0, k2]
  all_goals rfl
 | false =>
  rw [q] at k1
  simp only [go_sem, b34, Tryd.f34, bytes_bs hy, k1]
  all_goals rfl
theorem u8s_inj : ∀ {a b : List Int}, By a → By b → u8s a = u8s b → a = b
 | [], [], _, _, _ => rfl
 | [], y :: b, _, _, h => by cases h
 | x :: a, [], _, _, h => by cases h
 | x :: a, y :: b, ha, hb, h => by
  simp only [u8s, List.map_cons, List.cons.injEq] at h
  have hx := ha x (by simp)
  have hy := hb y (by simp)
  have e : x = y := by
   have := congrArg UInt8.toNat h.1
   simp only [UInt8.toNat_ofNat'] at this
   omega
  rw [e, u8s_inj (fun c hc => ha c (by simp [hc])) (fun c hc => hb c (by simp [hc])) h.2]
theorem bs_beq {a b : List Int} (ha : By a) (hb : By b) : ((bs a).toList == (bs b).toList) = (a == b) := by
 rw [bs_list, bs_list, Bool.eq_iff_iff, beq_iff_eq, beq_iff_eq]
 exact ⟨u8s_inj ha hb, fun h => by rw [h]⟩
theorem by_45 : By [45] := fun x hx => by simp at hx; omega
theorem wrap_i32 {x : Int} (h0 : 0 ≤ x) (h1 : x ≤ 255) : IntKind.i32.wrap x = x := by
 simp only [IntKind.wrap, IntKind.signed, IntKind.bits]
 simp
 omega
theorem bs_45' : (⟨#[45]⟩ : ByteArray) = bs [45] := rfl
theorem f35 {l : List Int} (hy : By l) (hl : l.length ≤ 1000000000) : E lo 35 [.v (.string (bs l))] h = some (.v (.bool (looseT l)), h) := by
 rw [e35 (by simp) (by rfl)]
 have hb := bs_beq hy by_45
 have sz := bs_size l
 have t1 := bs_nil_eq' l
 match l, hy with
 | [], hy =>
  have q : decide ((1 : Int) < (0 : Nat)) = false := rfl
  rw [decide_eq_true rfl] at t1
  have hb2 : (([] : List Int) == [45]) = false := rfl
  rw [hb2] at hb
  simp only [go_sem, b35, Tryd.f35, sz, t1, bs_45', hb, q, List.length_nil]
  all_goals rfl
 | [x], hy =>
  have q : decide ((1 : Int) < (1 : Nat)) = false := rfl
  rw [decide_eq_false (by simp)] at t1
  have hx := hy x (by simp)
  have hc : ([x])[0]? = some x := rfl
  have hi := bs_ix hy 0
  rw [hc] at hi
  have w := wrap_i32 hx.1 hx.2
  have hb2 : ([x] == [45]) = (x == 45) := by simp
  rw [hb2] at hb
  have sz1 : (bs [x]).size = 1 := sz
  unfold looseT
  cases qd : dig x with
  | true =>
   have k := fun lo h => f48 (lo := lo) (h := h) (x := x)
   rw [qd] at k
   simp only [go_sem, b35, Tryd.f35, sz1, t1, hi, w, k, q]
   all_goals simp [qd]
  | false =>
   have k := fun lo h => f48 (lo := lo) (h := h) (x := x)
   rw [qd] at k
   cases qx : (x == 45) with
   | true =>
    rw [qx] at hb
    simp only [go_sem, b35, Tryd.f35, sz1, t1, hi, w, k, q, bs_45', hb]
    all_goals simp [qd, qx]
   | false =>
    rw [qx] at hb
    simp only [go_sem, b35, Tryd.f35, sz1, t1, hi, w, k, q, bs_45', hb]
    all_goals simp [qd, qx]
 | x :: y :: u, hy =>
  have q : decide ((1 : Int) < ((x :: y :: u).length : Nat)) = true := by simp; omega
  rw [decide_eq_false (by simp)] at t1
  have hx := hy x (by simp)
  have hy1 := hy y (by simp)
  have hc : (x :: y :: u)[0]? = some x := rfl
  have hc1 : (x :: y :: u)[1]? = some y := rfl
  have hi := bs_ix hy 0
  have hi1 := bs_ix hy 1
  rw [hc] at hi
  rw [hc1] at hi1
  have w := wrap_i32 hx.1 hx.2
  have w1 := wrap_i32 hy1.1 hy1.2
  have hb2 : ((x :: y :: u) == [45]) = false := by simp
  rw [hb2] at hb
  have k := fun lo h => f48 (lo := lo) (h := h) (x := x)
  have k1 := fun lo h => f48 (lo := lo) (h := h) (x := y)
  unfold looseT
  simp only
  generalize x :: y :: u = l at *
  cases qd : dig x with
  | true =>
   rw [qd] at k
   simp only [go_sem, b35, Tryd.f35, sz, t1, hi, w, k, q]
   all_goals simp [qd]
  | false =>
   rw [qd] at k
   cases qx : (x == 45) with
   | true =>
    simp only [go_sem, b35, Tryd.f35, sz, t1, hi, hi1, w, w1, k, k1, q, qx, bs_45', hb]
    all_goals simp [qd, qx]
   | false =>
    simp only [go_sem, b35, Tryd.f35, sz, t1, hi, hi1, w, w1, k, k1, q, qx, bs_45', hb]
    all_goals simp [qd, qx]
end
end Go.Lift.D7
end

section
open Go.Proofs
namespace Go.Lift.D7
variable [MX]
open Utf Tok Spell
set_option maxRecDepth 20000
set_option maxHeartbeats 4000000
section
variable {lo : Nat} {h : Heap}
theorem bs_signs : (⟨#[35, 36, 37, 38, 42, 43, 45, 46, 47, 60, 61, 62, 63, 64, 92, 94, 96, 124, 126, 33]⟩ : ByteArray) = bs signs := rfl
theorem by_signs : By signs := by decide
def ctl (c : Int) : Bool := decide (1 ≤ c) && decide (c ≤ 8) || c == 11 || decide (14 ≤ c) && decide (c ≤ 31) || c == 127
theorem ctl_cases (c : Int) : (decide (1 ≤ c) = true ∧ decide (c ≤ 8) = true) ∨ c = 11 ∨ (c = 9 ∨ c = 10 ∨ c = 12 ∨ c = 13) ∨ (decide (1 ≤ c) = true ∧ decide (c ≤ 8) = false ∧ (c == 11) = false ∧ decide (14 ≤ c) = true) ∨
  (decide (1 ≤ c) = false ∧ (c == 11) = false ∧ decide (14 ≤ c) = false ∧ (c == 127) = false) := by
 simp
 omega
theorem f36 {l : List Int} (hy : By l) (hl : l.length ≤ 1000000000) : E lo 36 [.v (.string (bs l))] h = some (.v (.bool (signT l)), h) := by
 rw [e36 (by simp) (by rfl)]
 match l, hy with
 | [], hy =>
  have sz : (bs []).size = 0 := rfl
  have q : ((0 : Int) != 1) = true := rfl
  have n0 : ((0 : Nat) : Int) = 0 := rfl
  simp only [go_sem, b36, Tryd.f36, sz, n0, q]
  all_goals rfl
 | x :: y :: u, hy =>
  have sz := bs_size (x :: y :: u)
  have q : (((x :: y :: u).length : Int) != 1) = true := by simp; omega
  rw [← sz] at q
  have e : signT (x :: y :: u) = false := rfl
  rw [e]
  generalize bs (x :: y :: u) = s at *
  simp only [go_sem, b36, Tryd.f36, q]
  all_goals rfl
 | [c], hy =>
  have sz : (bs [c]).size = 1 := bs_size [c]
  have q : ((1 : Int) != 1) = false := rfl
  have n1 : ((1 : Nat) : Int) = 1 := rfl
  have hx := hy c (by simp)
  have hc : ([c])[0]? = some c := rfl
  have hi := bs_ix hy 0
  rw [hc] at hi
  have k := fun lo h => f30 (lo := lo) (h := h) by_signs hx.1 hx.2
  have e : signT [c] = (signs.contains c || ctl c) := rfl
  rw [e]
  unfold ctl
  cases qs : signs.contains c with
  | true =>
   rw [qs] at k
   simp only [go_sem, b36, Tryd.f36, sz, n1, q, hi, bs_signs, k]
   all_goals rfl
  | false =>
   rw [qs] at k
   rcases ctl_cases c with ⟨c1, c8⟩ | rfl | (rfl | rfl | rfl | rfl) | ⟨c1, c8, c11, c14⟩ | ⟨c1, c11, c14, c127⟩
   ·simp only [go_sem, b36, Tryd.f36, sz, n1, q, hi, bs_signs, k, c1, c8]
    all_goals rfl
   ·have d1 : decide ((1 : Int) ≤ 11) = true := rfl
    have d8 : decide ((11 : Int) ≤ 8) = false := rfl
    have d11 : ((11 : Int) == 11) = true := rfl
    simp only [go_sem, b36, Tryd.f36, sz, n1, q, hi, bs_signs, k, d1, d8, d11]
    all_goals rfl
   ·have d1 : decide ((1 : Int) ≤ 9) = true := rfl
    have d8 : decide ((9 : Int) ≤ 8) = false := rfl
    have d11 : ((9 : Int) == 11) = false := rfl
    have d14 : decide ((14 : Int) ≤ 9) = false := rfl
    have d127 : ((9 : Int) == 127) = false := rfl
    simp only [go_sem, b36, Tryd.f36, sz, n1, q, hi, bs_signs, k, d1, d8, d11, d14, d127]
    all_goals rfl
   ·have d1 : decide ((1 : Int) ≤ 10) = true := rfl
    have d8 : decide ((10 : Int) ≤ 8) = false := rfl
    have d11 : ((10 : Int) == 11) = false := rfl
    have d14 : decide ((14 : Int) ≤ 10) = false := rfl
    have d127 : ((10 : Int) == 127) = false := rfl
    simp only [go_sem, b36, Tryd.f36, sz, n1, q, hi, bs_signs, k, d1, d8, d11, d14, d127]
    all_goals rfl
   ·have d1 : decide ((1 : Int) ≤ 12) = true := rfl
    have d8 : decide ((12 : Int) ≤ 8) = false := rfl
    have d11 : ((12 : Int) == 11) = false := rfl
    have d14 : decide ((14 : Int) ≤ 12) = false := rfl
    have d127 : ((12 : Int) == 127) = false := rfl
    simp only [go_sem, b36, Tryd.f36, sz, n1, q, hi, bs_signs, k, d1, d8, d11, d14, d127]
    all_goals rfl
   ·have d1 : decide ((1 : Int) ≤ 13) = true := rfl
    have d8 : decide ((13 : Int) ≤ 8) = false := rfl
    have d11 : ((13 : Int) == 11) = false := rfl
    have d14 : decide ((14 : Int) ≤ 13) = false := rfl
    have d127 : ((13 : Int) == 127) = false := rfl
    simp only [go_sem, b36, Tryd.f36, sz, n1, q, hi, bs_signs, k, d1, d8, d11, d14, d127]
    all_goals rfl
   ·cases c31 : decide (c ≤ 31) with
    | true =>
     simp only [go_sem, b36, Tryd.f36, sz, n1, q, hi, bs_signs, k, c1, c8, c11, c14, c31]
     all_goals rfl
    | false =>
     simp only [go_sem, b36, Tryd.f36, sz, n1, q, hi, bs_signs, k, c1, c8, c11, c14, c31]
     all_goals rfl
   ·simp only [go_sem, b36, Tryd.f36, sz, n1, q, hi, bs_signs, k, c1, c11, c14, c127]
    all_goals simp
    all_goals rfl
end
end Go.Lift.D7
end

section
open Go.Proofs
namespace Go.Lift.D7
variable [MX]
open Utf Tok Spell
set_option maxRecDepth 20000
set_option maxHeartbeats 4000000
def tokV (k : Int) (b : List Int) (n d : Int) (w i : Bool) : List V := [.v (.int .i64 k), .v (.string (bs b)), .v (.int .i64 n), .v (.int .i64 d), .v (.bool w), .v (.bool i)]
def leftK (k : Int) : Bool := k == 1 || k == 3 || k == 4 || k == 10 || k == 12 || k == 9
def rightK (k : Int) : Bool := k == 1 || k == 2 || k == 7 || k == 8 || k == 10 || k == 11 || k == 12 || k == 15 || k == 21 || k == 9
def apartT (ka kb : Int) : Bool := ka == 13 && kb == 13 || leftK ka && rightK kb
theorem left_cases (k : Int) : (k = 13) ∨ (k = 1 ∨ k = 3 ∨ k = 4 ∨ k = 10 ∨ k = 12 ∨ k = 9) ∨
  ((k == 13) = false ∧ (k == 1) = false ∧ (k == 3) = false ∧ (k == 4) = false ∧ (k == 10) = false ∧ (k == 12) = false ∧ (k == 9) = false) := by
 simp only [beq_eq_false_iff_ne]
 omega
theorem right_cases (k : Int) : (k = 1 ∨ k = 2 ∨ k = 7 ∨ k = 8 ∨ k = 10 ∨ k = 11 ∨ k = 12 ∨ k = 15 ∨ k = 21 ∨ k = 9) ∨
  ((k == 1) = false ∧ (k == 2) = false ∧ (k == 7) = false ∧ (k == 8) = false ∧ (k == 10) = false ∧ (k == 11) = false ∧ (k == 12) = false ∧ (k == 15) = false ∧ (k == 21) = false ∧ (k == 9) = false) := by
 simp only [beq_eq_false_iff_ne]
 omega
section
variable {lo : Nat} {h : Heap} {ka kb : Int} {ta tb : List Int} {na da nb db : Int} {wa ia wb ib : Bool}
theorem f49 (hlo : lo ≤ h.length) : E lo 49 [.agg (tokV ka ta na da wa ia), .agg (tokV kb tb nb db wb ib)] h = some (.v (.bool (apartT ka kb)), h) := by
 have hlo2 : lo ≤ h.length + 1 := by omega
 rw [e49 (by simp) (by rfl)]
 unfold apartT leftK rightK tokV
 rcases left_cases ka with rfl | hl | ⟨l13, l1, l3, l4, l10, l12, l9⟩
 ·simp only [go_sem, b49, Tryd.f49, Int.reduceBEq, hlo, hlo2]
  all_goals simp
  all_goals rfl
 ·rcases right_cases kb with hr | ⟨r1, r2, r7, r8, r10, r11, r12, r15, r21, r9⟩
  ·rcases hl with rfl | rfl | rfl | rfl | rfl | rfl <;> rcases hr with rfl | rfl | rfl | rfl | rfl | rfl | rfl | rfl | rfl | rfl <;>
    simp only [go_sem, b49, Tryd.f49, Int.reduceBEq, hlo, hlo2] <;> rfl
  ·rcases hl with rfl | rfl | rfl | rfl | rfl | rfl <;>
    simp only [go_sem, b49, Tryd.f49, Int.reduceBEq, hlo, hlo2, r1, r2, r7, r8, r10, r11, r12, r15, r21, r9] <;> rfl
 ·simp only [go_sem, b49, Tryd.f49, Int.reduceBEq, hlo, hlo2, l13, l1, l3, l4, l10, l12, l9]
  all_goals rfl
end
end Go.Lift.D7
end

section
open Go.Proofs
namespace Go.Lift.D7
variable [MX]
open Utf Tok Spell
set_option maxRecDepth 20000
set_option maxHeartbeats 4000000
section
variable {lo : Nat} {h : Heap}
theorem plain_size (x : Option (List Int)) : ∃ t e, plainV x = .tup [.v (.string (bs t)), .v (.int .i64 e)] ∧ (e == 0) = x.isSome := by
 cases x with
 | none => exact ⟨[], 1, rfl, rfl⟩
 | some t => exact ⟨t, 0, rfl, rfl⟩
theorem f37 (hlo : lo ≤ h.length) {k n d : Int} {b : List Int} {w i : Bool} (h0 : -9223372036854775808 ≤ n) (h1 : n ≤ 9223372036854775807) (h2 : -9223372036854775808 ≤ d) (h3 : d ≤ 9223372036854775807) :
  E lo 37 [.agg (tokV k b n d w i)] h = some (.v (.bool (plainT n d w).isSome), h) := by
 have k1 := fun lo h hlo => f45 (lo := lo) (h := h) hlo (n := n) (d := d) (w := w) h0 h1 h2 h3
 have k1 := k1 lo (h ++ [.cells (tokV k b n d w i)]) (by simp; omega)
 obtain ⟨t, e, he, hs⟩ := plain_size (plainT n d w)
 rw [he] at k1
 rw [e37 (by simp) (by rfl), ← hs]
 unfold tokV at *
 simp only [go_sem, b37, Tryd.f37, hlo, k1]
 all_goals rfl
theorem fl34 : flatOf Tryd.prog 40 = some [1, 2, 1, 1, 0, 0] := by kernel_rfl
theorem eq_tok {k k' n n' d d' : Int} {s s' : ByteArray} {w w' i i' : Bool} : eqCells [1, 2, 1, 1, 0, 0] [.v (.int .i64 k), .v (.string s), .v (.int .i64 n), .v (.int .i64 d), .v (.bool w), .v (.bool i)] [.v (.int .i64 k'), .v (.string s'), .v (.int .i64 n'), .v (.int .i64 d'), .v (.bool w'), .v (.bool i')] =
  some (k == k' && (s.toList == s'.toList && (n == n' && (d == d' && (w == w' && i == i'))))) := by
 simp [eqCells, eqS]
end
end Go.Lift.D7
end

section
open Go.Proofs
namespace Go.Lift.D7
variable [MX]
open Utf Tok Spell
set_option maxRecDepth 20000
set_option maxHeartbeats 4000000
def Z4 (n d : Int) (w i : Bool) : Bool := n == 0 && (d == 0 && (w == false && i == false))
section
variable {lo : Nat} {h : Heap} {k n d : Int} {b : List Int} {w i : Bool}
theorem z_eq : ((⟨#[]⟩ : ByteArray).toList == ByteArray.empty.toList) = true := (bs_nil_eq []).trans (by simp)
theorem i_eq : ((0 : Int) == 0) = true := rfl
theorem ne_empty (hb : b ≠ []) : b.isEmpty = false := by cases b with
 | nil => exact absurd rfl hb
 | cons c t => rfl
theorem m23a (hlo : lo ≤ h.length) (hy : By b) (hl : b.length ≤ 1000000000) (hk : k = 1 ∨ k = 2 ∨ k = 3) :
  E lo 26 [.agg (tokV k b n d w i)] h = some (.v (.bool (!b.isEmpty && sound b && Z4 n d w i)), h) := by
 have hlo2 : lo ≤ h.length + 1 := by omega
 have k1 := fun lo h => f34 (lo := lo) (h := h) hy hl
 have t1 := bs_nil_eq' b
 have e : eqCells [1, 2, 1, 1, 0, 0] [.v (.int .i64 0), .v (.string ⟨#[]⟩), .v (.int .i64 n), .v (.int .i64 d), .v (.bool w), .v (.bool i)] [.v (.int .i64 0), .v (.string ByteArray.empty), .v (.int .i64 0), .v (.int .i64 0), .v (.bool false), .v (.bool false)] = some (Z4 n d w i) := by
  rw [eq_tok, z_eq, i_eq]; rfl
 rw [e26 (by simp) (by rfl)]
 unfold tokV
 by_cases hb : b = []
 ·rw [decide_eq_true hb] at t1
  have eb : b.isEmpty = true := by simp [hb]
  rw [eb]
  rcases hk with rfl | rfl | rfl <;> simp only [go_sem, b26, Tryd.f26, Int.reduceBEq, hlo, hlo2, t1] <;> rfl
 ·rw [decide_eq_false hb] at t1
  rw [ne_empty hb]
  cases qs : sound b with
  | true =>
   rw [qs] at k1
   rcases hk with rfl | rfl | rfl <;> simp only [go_sem, b26, Tryd.f26, Int.reduceBEq, hlo, hlo2, t1, k1, fl34, e] <;> rfl
  | false =>
   rw [qs] at k1
   rcases hk with rfl | rfl | rfl <;> simp only [go_sem, b26, Tryd.f26, Int.reduceBEq, hlo, hlo2, t1, k1] <;> rfl
theorem m23b (hlo : lo ≤ h.length) (hy : By b) (hl : b.length ≤ 1000000000) :
  E lo 26 [.agg (tokV 4 b n d w i)] h = some (.v (.bool (!b.isEmpty && sound b && (i || looseT b) && Z4 n d w false)), h) := by
 have hlo2 : lo ≤ h.length + 1 := by omega
 have k1 := fun lo h => f34 (lo := lo) (h := h) hy hl
 have k2 := fun lo h => f35 (lo := lo) (h := h) hy hl
 have t1 := bs_nil_eq' b
 have e : eqCells [1, 2, 1, 1, 0, 0] [.v (.int .i64 0), .v (.string ⟨#[]⟩), .v (.int .i64 n), .v (.int .i64 d), .v (.bool w), .v (.bool false)] [.v (.int .i64 0), .v (.string ByteArray.empty), .v (.int .i64 0), .v (.int .i64 0), .v (.bool false), .v (.bool false)] = some (Z4 n d w false) := by
  rw [eq_tok, z_eq, i_eq]; rfl
 rw [e26 (by simp) (by rfl)]
 unfold tokV
 by_cases hb : b = []
 ·rw [decide_eq_true hb] at t1
  have eb : b.isEmpty = true := by simp [hb]
  rw [eb]
  simp only [go_sem, b26, Tryd.f26, Int.reduceBEq, hlo, hlo2, t1]
  all_goals rfl
 ·rw [decide_eq_false hb] at t1
  rw [ne_empty hb]
  cases qs : sound b with
  | true =>
   rw [qs] at k1
   cases i with
   | true =>
    simp only [go_sem, b26, Tryd.f26, Int.reduceBEq, hlo, hlo2, t1, k1, fl34, e]
    all_goals rfl
   | false =>
    cases ql : looseT b with
    | true =>
     rw [ql] at k2
     simp only [go_sem, b26, Tryd.f26, Int.reduceBEq, hlo, hlo2, t1, k1, k2, fl34, e]
     all_goals rfl
    | false =>
     rw [ql] at k2
     simp only [go_sem, b26, Tryd.f26, Int.reduceBEq, hlo, hlo2, t1, k1, k2]
     all_goals rfl
  | false =>
   rw [qs] at k1
   simp only [go_sem, b26, Tryd.f26, Int.reduceBEq, hlo, hlo2, t1, k1]
   all_goals rfl
theorem m23c (hlo : lo ≤ h.length) (hy : By b) (hl : b.length ≤ 1000000000) (hk : k = 5 ∨ k = 7) :
  E lo 26 [.agg (tokV k b n d w i)] h = some (.v (.bool (sound b && Z4 n d w i)), h) := by
 have hlo2 : lo ≤ h.length + 1 := by omega
 have k1 := fun lo h => f34 (lo := lo) (h := h) hy hl
 have e : eqCells [1, 2, 1, 1, 0, 0] [.v (.int .i64 0), .v (.string ⟨#[]⟩), .v (.int .i64 n), .v (.int .i64 d), .v (.bool w), .v (.bool i)] [.v (.int .i64 0), .v (.string ByteArray.empty), .v (.int .i64 0), .v (.int .i64 0), .v (.bool false), .v (.bool false)] = some (Z4 n d w i) := by
  rw [eq_tok, z_eq, i_eq]; rfl
 rw [e26 (by simp) (by rfl)]
 unfold tokV
 cases qs : sound b with
 | true =>
  rw [qs] at k1
  rcases hk with rfl | rfl <;> simp only [go_sem, b26, Tryd.f26, Int.reduceBEq, hlo, hlo2, k1, fl34, e] <;> rfl
 | false =>
  rw [qs] at k1
  rcases hk with rfl | rfl <;> simp only [go_sem, b26, Tryd.f26, Int.reduceBEq, hlo, hlo2, k1] <;> rfl
theorem m23d (hlo : lo ≤ h.length) (hy : By b) (hl : b.length ≤ 1000000000) :
  E lo 26 [.agg (tokV 9 b n d w i)] h = some (.v (.bool (signT b && Z4 n d w i)), h) := by
 have hlo2 : lo ≤ h.length + 1 := by omega
 have k1 := fun lo h => f36 (lo := lo) (h := h) hy hl
 have e : eqCells [1, 2, 1, 1, 0, 0] [.v (.int .i64 0), .v (.string ⟨#[]⟩), .v (.int .i64 n), .v (.int .i64 d), .v (.bool w), .v (.bool i)] [.v (.int .i64 0), .v (.string ByteArray.empty), .v (.int .i64 0), .v (.int .i64 0), .v (.bool false), .v (.bool false)] = some (Z4 n d w i) := by
  rw [eq_tok, z_eq, i_eq]; rfl
 rw [e26 (by simp) (by rfl)]
 unfold tokV
 cases qs : signT b with
 | true =>
  rw [qs] at k1
  simp only [go_sem, b26, Tryd.f26, Int.reduceBEq, hlo, hlo2, k1, fl34, e]
  all_goals rfl
 | false =>
  rw [qs] at k1
  simp only [go_sem, b26, Tryd.f26, Int.reduceBEq, hlo, hlo2, k1]
  all_goals rfl
theorem m23e (hlo : lo ≤ h.length) (hy : By b) (hl : b.length ≤ 1000000000) (h0 : -9223372036854775808 ≤ n) (h1 : n ≤ 9223372036854775807) (h2 : -9223372036854775808 ≤ d) (h3 : d ≤ 9223372036854775807) :
  E lo 26 [.agg (tokV 12 b n d w i)] h = some (.v (.bool (!b.isEmpty && sound b && (plainT n d w).isSome && (i == false))), h) := by
 have hlo2 : lo ≤ h.length + 1 := by omega
 have hlo3 : ∀ x y : Ob, lo ≤ (h ++ [x, y]).length := fun x y => by simp; omega
 have k1 := fun lo h => f34 (lo := lo) (h := h) hy hl
 have k2 := fun (lo : Nat) (h : Heap) (hlo : lo ≤ h.length) => f37 (lo := lo) (h := h) hlo (k := 12) (b := b) (n := n) (d := d) (w := w) (i := i) h0 h1 h2 h3
 have k2 := k2 lo (h ++ [.cells (tokV 12 b n d w i), .cells (tokV 0 b n d w i)]) (hlo3 _ _)
 have t1 := bs_nil_eq' b
 have e : eqCells [1, 2, 1, 1, 0, 0] [.v (.int .i64 0), .v (.string ⟨#[]⟩), .v (.int .i64 0), .v (.int .i64 0), .v (.bool false), .v (.bool i)] [.v (.int .i64 0), .v (.string ByteArray.empty), .v (.int .i64 0), .v (.int .i64 0), .v (.bool false), .v (.bool false)] = some (i == false) := by
  rw [eq_tok, z_eq, i_eq]; simp
 rw [e26 (by simp) (by rfl)]
 unfold tokV at *
 by_cases hb : b = []
 ·rw [decide_eq_true hb] at t1
  have eb : b.isEmpty = true := by simp [hb]
  rw [eb]
  simp only [go_sem, b26, Tryd.f26, Int.reduceBEq, hlo, hlo2, t1]
  all_goals rfl
 ·rw [decide_eq_false hb] at t1
  rw [ne_empty hb]
  cases qs : sound b with
  | true =>
   rw [qs] at k1
   cases qp : (plainT n d w).isSome with
   | true =>
    rw [qp] at k2
    simp only [go_sem, b26, Tryd.f26, Int.reduceBEq, hlo, hlo2, t1, k1, k2, fl34, e]
    all_goals rfl
   | false =>
    rw [qp] at k2
    simp only [go_sem, b26, Tryd.f26, Int.reduceBEq, hlo, hlo2, t1, k1, k2]
    all_goals rfl
  | false =>
   rw [qs] at k1
   simp only [go_sem, b26, Tryd.f26, Int.reduceBEq, hlo, hlo2, t1, k1]
   all_goals rfl
theorem m23f (hlo : lo ≤ h.length) (hk : k = 10 ∨ k = 11) (h0 : -9223372036854775808 ≤ n) (h1 : n ≤ 9223372036854775807) (h2 : -9223372036854775808 ≤ d) (h3 : d ≤ 9223372036854775807) :
  E lo 26 [.agg (tokV k b n d w i)] h = some (.v (.bool ((plainT n d w).isSome && (b.isEmpty && (i == false)))), h) := by
 have hlo2 : lo ≤ h.length + 1 := by omega
 have hlo3 : ∀ x y : Ob, lo ≤ (h ++ [x, y]).length := fun x y => by simp; omega
 have k2 := fun (lo : Nat) (h : Heap) (hlo : lo ≤ h.length) => f37 (lo := lo) (h := h) hlo (k := k) (b := b) (n := n) (d := d) (w := w) (i := i) h0 h1 h2 h3
 have k2 := k2 lo (h ++ [.cells (tokV k b n d w i), .cells (tokV 0 b n d w i)]) (hlo3 _ _)
 have t1 := bs_nil_eq b
 have eb : decide (b = []) = b.isEmpty := by cases b <;> simp
 have e : eqCells [1, 2, 1, 1, 0, 0] [.v (.int .i64 0), .v (.string (bs b)), .v (.int .i64 0), .v (.int .i64 0), .v (.bool false), .v (.bool i)] [.v (.int .i64 0), .v (.string ByteArray.empty), .v (.int .i64 0), .v (.int .i64 0), .v (.bool false), .v (.bool false)] = some (b.isEmpty && (i == false)) := by
  rw [eq_tok, i_eq, t1, eb]; simp
 rw [e26 (by simp) (by rfl)]
 unfold tokV at *
 cases qp : (plainT n d w).isSome with
 | true =>
  rw [qp] at k2
  rcases hk with rfl | rfl <;> simp only [go_sem, b26, Tryd.f26, Int.reduceBEq, hlo, hlo2, k2, fl34, e] <;> rfl
 | false =>
  rw [qp] at k2
  rcases hk with rfl | rfl <;> simp only [go_sem, b26, Tryd.f26, Int.reduceBEq, hlo, hlo2, k2] <;> rfl
theorem m23g (hlo : lo ≤ h.length) (hk : k = 6 ∨ k = 8 ∨ k = 13 ∨ k = 14 ∨ k = 15 ∨ k = 16 ∨ k = 17 ∨ k = 18 ∨ k = 19 ∨ k = 20 ∨ k = 21 ∨ k = 22 ∨ k = 23 ∨ k = 24) :
  E lo 26 [.agg (tokV k b n d w i)] h = some (.v (.bool (b.isEmpty && Z4 n d w i)), h) := by
 have hlo2 : lo ≤ h.length + 1 := by omega
 have t1 := bs_nil_eq b
 have eb : decide (b = []) = b.isEmpty := by cases b <;> simp
 have e : eqCells [1, 2, 1, 1, 0, 0] [.v (.int .i64 0), .v (.string (bs b)), .v (.int .i64 n), .v (.int .i64 d), .v (.bool w), .v (.bool i)] [.v (.int .i64 0), .v (.string ByteArray.empty), .v (.int .i64 0), .v (.int .i64 0), .v (.bool false), .v (.bool false)] = some (b.isEmpty && Z4 n d w i) := by
  rw [eq_tok, i_eq, t1, eb]; rfl
 rw [e26 (by simp) (by rfl)]
 unfold tokV
 rcases hk with rfl | rfl | rfl | rfl | rfl | rfl | rfl | rfl | rfl | rfl | rfl | rfl | rfl | rfl <;> simp only [go_sem, b26, Tryd.f26, Int.reduceBEq, hlo, hlo2, fl34, e] <;> rfl
theorem m23h (hlo : lo ≤ h.length) (hk : k < 1 ∨ 24 < k) : E lo 26 [.agg (tokV k b n d w i)] h = some (.v (.bool false), h) := by
 have hlo2 : lo ≤ h.length + 1 := by omega
 have q : ∀ x : Int, 1 ≤ x → x ≤ 24 → (k == x) = false := fun x h1 h2 => by simp; omega
 have q1 := q 1 (by omega) (by omega); have q2 := q 2 (by omega) (by omega); have q3 := q 3 (by omega) (by omega); have q4 := q 4 (by omega) (by omega); have q5 := q 5 (by omega) (by omega); have q6 := q 6 (by omega) (by omega)
 have q7 := q 7 (by omega) (by omega); have q8 := q 8 (by omega) (by omega); have q9 := q 9 (by omega) (by omega); have q10 := q 10 (by omega) (by omega); have q11 := q 11 (by omega) (by omega); have q12 := q 12 (by omega) (by omega)
 have q13 := q 13 (by omega) (by omega); have q14 := q 14 (by omega) (by omega); have q15 := q 15 (by omega) (by omega); have q16 := q 16 (by omega) (by omega); have q17 := q 17 (by omega) (by omega); have q18 := q 18 (by omega) (by omega)
 have q19 := q 19 (by omega) (by omega); have q20 := q 20 (by omega) (by omega); have q21 := q 21 (by omega) (by omega); have q22 := q 22 (by omega) (by omega); have q23 := q 23 (by omega) (by omega); have q24 := q 24 (by omega) (by omega)
 rw [e26 (by simp) (by rfl)]
 unfold tokV
 simp only [go_sem, b26, Tryd.f26, hlo, hlo2, q1, q2, q3, q4, q5, q6, q7, q8, q9, q10, q11, q12, q13, q14, q15, q16, q17, q18, q19, q20, q21, q22, q23, q24]
 all_goals rfl
end
end Go.Lift.D7
end

section
open Go.Proofs
namespace Go.Lift.D7
variable [MX]
open Utf Tok Spell
set_option maxRecDepth 20000
set_option maxHeartbeats 4000000
section
variable {lo : Nat} {h : Heap} {k n d : Int} {b : List Int} {w i : Bool}
theorem s_eq (s : ByteArray) : (s.toList == s.toList) = true := by simp
end
end Go.Lift.D7
end

section
open Go.Proofs
namespace Go.Lift.D7
variable [MX]
open Utf Tok Spell
set_option maxRecDepth 20000
set_option maxHeartbeats 4000000
section
variable {lo : Nat} {h : Heap} {k n d : Int} {b : List Int} {w i : Bool}
theorem kinds (k : Int) : (k = 1 ∨ k = 2 ∨ k = 3) ∨ k = 4 ∨ (k = 5 ∨ k = 7) ∨ k = 9 ∨ k = 12 ∨ (k = 10 ∨ k = 11) ∨
  (k = 6 ∨ k = 8 ∨ k = 13 ∨ k = 14 ∨ k = 15 ∨ k = 16 ∨ k = 17 ∨ k = 18 ∨ k = 19 ∨ k = 20 ∨ k = 21 ∨ k = 22 ∨ k = 23 ∨ k = 24) ∨ (k < 1 ∨ 24 < k) := by omega
def mayV (k : Int) (b : List Int) (n d : Int) (w i : Bool) : Bool :=
 if k = 1 ∨ k = 2 ∨ k = 3 then !b.isEmpty && sound b && Z4 n d w i
 else if k = 4 then !b.isEmpty && sound b && (i || looseT b) && Z4 n d w false
 else if k = 5 ∨ k = 7 then sound b && Z4 n d w i
 else if k = 9 then signT b && Z4 n d w i
 else if k = 12 then !b.isEmpty && sound b && (plainT n d w).isSome && (i == false)
 else if k = 10 ∨ k = 11 then (plainT n d w).isSome && (b.isEmpty && (i == false))
 else if 1 ≤ k ∧ k ≤ 24 then b.isEmpty && Z4 n d w i else false
theorem f26 (hlo : lo ≤ h.length) (hy : By b) (hl : b.length ≤ 1000000000) (h0 : -9223372036854775808 ≤ n) (h1 : n ≤ 9223372036854775807) (h2 : -9223372036854775808 ≤ d) (h3 : d ≤ 9223372036854775807) :
  E lo 26 [.agg (tokV k b n d w i)] h = some (.v (.bool (mayV k b n d w i)), h) := by
 unfold mayV
 rcases kinds k with hk | hk | hk | hk | hk | hk | hk | hk
 ·rw [if_pos hk]; exact m23a hlo hy hl hk
 ·subst hk; exact m23b hlo hy hl
 ·rw [if_neg (by omega), if_neg (by omega), if_pos hk]; exact m23c hlo hy hl hk
 ·subst hk; exact m23d hlo hy hl
 ·subst hk; exact m23e hlo hy hl h0 h1 h2 h3
 ·rw [if_neg (by omega), if_neg (by omega), if_neg (by omega), if_neg (by omega), if_neg (by omega), if_pos hk]; exact m23f hlo hk h0 h1 h2 h3
 ·rw [if_neg (by omega), if_neg (by omega), if_neg (by omega), if_neg (by omega), if_neg (by omega), if_neg (by omega), if_pos (by omega)]; exact m23g hlo hk
 ·rw [if_neg (by omega), if_neg (by omega), if_neg (by omega), if_neg (by omega), if_neg (by omega), if_neg (by omega), if_neg (by omega)]; exact m23h hlo hk
end
end Go.Lift.D7
end

section
open Go.Proofs
namespace Go.Lift.D7
variable [MX]
open Utf Tok Spell
set_option maxRecDepth 20000
set_option maxHeartbeats 4000000
variable {lo : Nat} {h : Heap}
structure OkT (t : Rul.Tk4) : Prop where
 hy : By t.b
 hl : t.b.length ≤ 10000000
 h0 : -9223372036854775808 ≤ t.n
 h1 : t.n ≤ 9223372036854775807
 h2 : -9223372036854775808 ≤ t.d
 h3 : t.d ≤ 9223372036854775807
def mayT (t : Rul.Tk4) : Bool := mayV t.k t.b t.n t.d t.w t.i
theorem row_tokV (t : Rul.Tk4) : Rul.row t = tokV t.k t.b t.n t.d t.w t.i := rfl
abbrev N13 (l : List Rul.Tk4) (k : Int) : Env := [(9, .list .no (l.map Rul.row)), (10, .v (.int .i64 l.length)), (11, .v (.int .i64 k))]
theorem round18 {l : List Rul.Tk4} {t : Rul.Tk4} {k : Nat} (hlo : lo ≤ h.length) (hl : l.length ≤ 1000000000) (hg : l[k]? = some t) (hok : OkT t) :
  evCode ⟨Tryd.prog, E, lo, h.length, h18⟩ loopW l18x0 (N13 l k, h) =
   if mayT t = true then some (.normal, N13 l (k + 1 : Nat), h) else some (.ret, [(2, .v (.bool false))], h ++ [.cells (Rul.row t)]) := by
 have hlt : k < l.length := (List.getElem?_eq_some_iff.1 hg).1
 have hgr : (l.map Rul.row)[k]? = some (Rul.row t) := by simp [hg]
 have q : decide ((k : Int) < (l.length : Int)) = true := by simp; omega
 have hw : IntKind.i64.wrap ((k : Int) + 1) = ((k + 1 : Nat) : Int) := wrap_succ (by omega)
 have hlo' : lo ≤ h.length + 1 := by omega
 have hb : t.b.length ≤ 1000000000 := by have := hok.hl; omega
 have c27 := fun lo hlo => f26 (lo := lo) (h := h ++ [.cells (Rul.row t)]) (k := t.k) (b := t.b) (n := t.n) (d := t.d) (w := t.w) (i := t.i) hlo hok.hy hb hok.h0 hok.h1 hok.h2 hok.h3
 have c27a := c27 lo (by simp; omega); have c27b := c27 h.length (by simp); have c27c := c27 (h.length + 1) (by simp)
 clear c27
 unfold mayT
 rw [row_tokV] at *
 unfold tokV at *
 cases hm : mayV t.k t.b t.n t.d t.w t.i with
 | true =>
  rw [hm] at c27a c27b c27c
  rw [if_pos rfl]
  simp only [go_sem, l18x0, b18, Tryd.f18, hlo, hlo', q, hgr, hw, c27a, c27b, c27c, List.length_map]
  all_goals rfl
 | false =>
  rw [hm] at c27a c27b c27c
  rw [if_neg (show ¬ false = true by simp)]
  simp only [go_sem, l18x0, b18, Tryd.f18, hlo, hlo', q, hgr, hw, c27a, c27b, c27c, List.length_map]
  all_goals rfl
theorem stop18 {l : List Rul.Tk4} (hlo : lo ≤ h.length) : evCode ⟨Tryd.prog, E, lo, h.length, h18⟩ loopW l18x0 (N13 l l.length, h) =
   some (.exit 0, N13 l l.length ++ [(12, .v (.bool false))], h) := by
 have q : decide ((l.length : Int) < (l.length : Int)) = false := by simp
 simp only [go_sem, l18x0, b18, Tryd.f18, hlo, q]
 all_goals rfl
theorem loop18 {l : List Rul.Tk4} (hlo : lo ≤ h.length) (hl : l.length ≤ 1000000000) (hok : ∀ t ∈ l, OkT t) : ∀ (m k : Nat), k + m = l.length →
  if (l.drop k).all mayT = true then
   loopW (evCode ⟨Tryd.prog, E, lo, h.length, h18⟩ loopW l18x0) (N13 l k, h) = some (.exit 0, N13 l l.length ++ [(12, .v (.bool false))], h)
  else ∃ X, loopW (evCode ⟨Tryd.prog, E, lo, h.length, h18⟩ loopW l18x0) (N13 l k, h) = some (.ret, [(2, .v (.bool false))], h ++ X) := by
 intro m
 induction m with
 | zero =>
  intro k hk
  obtain rfl : k = l.length := by omega
  rw [List.drop_length, if_pos (show ([] : List Rul.Tk4).all mayT = true from rfl), loop_eq, stop18 hlo, loop_e]
 | succ m ih =>
  intro k hk
  have hlt : k < l.length := by omega
  have hg : l[k]? = some l[k] := List.getElem?_eq_getElem hlt
  have hd : l.drop k = l[k] :: l.drop (k + 1) := List.drop_eq_getElem_cons hlt
  have hok1 := hok l[k] (List.getElem_mem hlt)
  rw [hd]
  generalize l[k] = t at *
  have hr := round18 hlo hl hg hok1
  cases hm : mayT t with
  | false =>
   rw [hm, if_neg (by simp)] at hr
   rw [List.all_cons, hm, Bool.false_and, if_neg (by simp)]
   exact ⟨_, by rw [loop_eq, hr, loop_r]⟩
  | true =>
   rw [hm, if_pos rfl] at hr
   rw [List.all_cons, hm, Bool.true_and, loop_eq, hr, loop_n]
   exact ih (k + 1) (by omega)
def fineL (l : List Rul.CV) : Bool := Rul.mayL 64 l && (Rul.flatL l).all mayT
theorem f18 {l : List Rul.CV} (hlo : lo ≤ h.length) (hl : Rul.nodesL l ≤ 100000000) (hok : ∀ t ∈ Rul.flatL l, OkT t) : E lo 18 [.list .no (Rul.rowsC l)] h = some (.v (.bool (fineL l)), h) := by
 have c26 := fun lo hlo => f24 (lo := lo) (h := h) (l := l) hlo (by omega)
 have c26a := c26 lo hlo; have c26b := c26 h.length (Nat.le_refl _)
 have c15 := fun lo hlo => f25 (lo := lo) (h := h) (l := l) hlo hl
 have c15a := c15 lo hlo; have c15b := c15 h.length (Nat.le_refl _)
 clear c26 c15
 have hfl := Rul.flatL_len l
 have hL := loop18 (lo := lo) (h := h) (l := Rul.flatL l) hlo (by omega) hok (Rul.flatL l).length 0 (by omega)
 rw [List.drop_zero] at hL
 have n0 : ((0 : Nat) : Int) = 0 := rfl
 unfold fineL
 rw [e18 (by simp) (by rfl)]
 cases hm : Rul.mayL 64 l with
 | false =>
  rw [hm] at c26a c26b
  rw [Bool.false_and]
  simp only [go_sem, b18, Tryd.f18, hlo, c26a, c26b]
  all_goals rfl
 | true =>
  rw [hm] at c26a c26b
  rw [Bool.true_and]
  cases ha : (Rul.flatL l).all mayT with
  | false =>
   rw [ha, if_neg (by simp)] at hL
   obtain ⟨X, hL⟩ := hL
   simp only [l18x0, b18, Tryd.f18, loopAt, loops, bodyOf, go_sem, N13, n0] at hL
   simp only [go_sem, b18, Tryd.f18, hlo, c26a, c26b, c15a, c15b, hL, List.length_map, n0]
   all_goals rfl
  | true =>
   rw [ha, if_pos rfl] at hL
   simp only [l18x0, b18, Tryd.f18, loopAt, loops, bodyOf, go_sem, N13, n0, List.cons_append, List.nil_append] at hL
   simp only [go_sem, b18, Tryd.f18, hlo, c26a, c26b, c15a, c15b, hL, List.length_map, n0]
   all_goals rfl
end Go.Lift.D7
end

section
open Go.Proofs
namespace Go.Lift.D7
variable [MX]
open Utf Tok Spell
set_option maxRecDepth 20000
set_option maxHeartbeats 4000000
theorem rows_ri (l : List Int) : rowsInts (ri .u8 l) = some l := by
 induction l with
 | nil => rfl
 | cons n l ih => rw [ri_cons]; unfold rowsInts; rw [ih]; rfl
theorem by_all {l : List Int} (hy : By l) : (l.all fun c => decide (0 ≤ c) && decide (c ≤ 255)) = true := by
 rw [List.all_eq_true]
 intro c hc
 have := hy c hc
 simp
 exact this
section
variable {lo : Nat} {p q : Heap} {p0 x : V} {out : List Int}
theorem at_ob (o : Ob) : (p ++ o :: q)[p.length]? = some o := by simp
theorem set_ob (o : Ob) (cs : List V) : Lift.setOb (p ++ o :: q) p.length cs = p ++ .cells cs :: q := by
 unfold Lift.setOb
 rw [List.set_append_right _ _ (Nat.le_refl _)]
 simp
theorem ok_self : okP p.length (.ptr p.length 0) = true := by simp [okP]
theorem ok_nil (i : Nat) : okP i (.v (.pointer none)) = true := rfl
theorem f27 (hlo : lo ≤ p.length) (hp : okP p.length p0 = true) : E lo 27 [.ptr p.length 0] (p ++ .cells [p0, x] :: q) = some (.tup [], p ++ .cells [.ptr p.length 0, x] :: q) := by
 show ev _ hints primz lo _ _ _ = _
 rw [ev_prim (p := ccP) rfl]
 unfold ccP
 simp only [at_ob]
 rw [if_pos ⟨hlo, hp, by simp⟩, set_ob]
theorem f55 (hlo : lo ≤ p.length) (hp : okP p.length p0 = true) {r : Int} (h0 : -2147483648 ≤ r) (h1 : r ≤ 2147483647) (hl : out.length ≤ 1000000000) :
  E lo 55 [.ptr p.length 0, .v (.int .i32 r)] (p ++ .cells [p0, .list .yes (ri .u8 out)] :: q) =
   some (.tup [.v (.int .i64 ((enc (scal r)).length : Nat)), .v .nilIface], p ++ .cells [.ptr p.length 0, .list .yes (ri .u8 (out ++ enc (scal r)))] :: q) := by
 show ev _ hints primz lo _ _ _ = _
 rw [ev_prim (p := wrP) rfl]
 unfold wrP
 simp only [at_ob, rows_ri]
 rw [if_pos ⟨hlo, hp, h0, h1, hl⟩, set_ob]
theorem f21 (hlo : lo ≤ p.length) (hy : By out) (hl : out.length ≤ 1000000000) :
  E lo 21 [.ptr p.length 0] (p ++ .cells [p0, .list .yes (ri .u8 out)] :: q) = some (.v (.string (bs out)), p ++ .cells [p0, .list .no (ri .u8 out)] :: q) := by
 show ev _ hints primz lo _ _ _ = _
 rw [ev_prim (p := stP) rfl]
 unfold stP
 simp only [at_ob, rows_ri]
 rw [if_pos ⟨hlo, by_all hy, hl⟩, set_ob]
 rfl
theorem f56 (hlo : lo ≤ p.length) (hp : okP p.length p0 = true) {c : Int} (hl : out.length ≤ 1000000000) :
  E lo 56 [.ptr p.length 0, .v (.int .u8 c)] (p ++ .cells [p0, .list .yes (ri .u8 out)] :: q) =
   some (.v .nilIface, p ++ .cells [.ptr p.length 0, .list .yes (ri .u8 (out ++ [c]))] :: q) := by
 have k := f27 (lo := lo) (p := p) (q := q) (p0 := p0) (x := .list .yes (ri .u8 out)) hlo hp
 have hr : ∀ k, k ≤ 4 → (out.length + k) * 1 ≤ 140737488355328 := by intro k hk; omega
 have hq : ∀ k, 9223372036854775800 ≤ k → out.length ≤ k := by intro k hk; omega
 have e : ri .u8 (out ++ [c]) = ri .u8 out ++ [[V.v (.int .u8 c)]] := by rw [← ri_app]; rfl
 rw [e56 (by simp) (by rfl), e]
 simp only [go_sem, b56, Tryd.f56, k, hr, hq, hlo]
 all_goals rfl
theorem f19 (hlo : lo ≤ p.length) (hp : okP p.length p0 = true) {s : List Int} (hs : By s) (hl : out.length ≤ 1000000000) (hl2 : s.length ≤ 1000000000) :
  E lo 19 [.ptr p.length 0, .v (.string (bs s))] (p ++ .cells [p0, .list .yes (ri .u8 out)] :: q) =
   some (.tup [.v (.int .i64 s.length), .v .nilIface], p ++ .cells [.ptr p.length 0, .list .yes (ri .u8 (out ++ s))] :: q) := by
 have k := f27 (lo := lo) (p := p) (q := q) (p0 := p0) (x := .list .yes (ri .u8 out)) hlo hp
 have e : ri .u8 (out ++ s) = ri .u8 out ++ ri .u8 s := by rw [← ri_app]
 have sz := bs_size s
 have h1 : (out.length + s.length) * 1 ≤ 140737488355328 := by omega
 have h2 : out.length + s.length ≤ 9223372036854775807 := by omega
 rw [e19 (by simp) (by rfl), e]
 simp only [go_sem, b19, Tryd.f19, k, hlo, bytes_bs hs, sz, h1, h2]
 all_goals rfl
theorem f58r {r : List V} (hr : r.length ≤ 1) (hlo : lo ≤ p.length) (hp : okP p.length p0 = true) : E lo 27 [.ptr p.length 0] (p ++ .cells (p0 :: x :: r) :: q) = some (.tup [], p ++ .cells (.ptr p.length 0 :: x :: r) :: q) := by
 show ev _ hints primz lo _ _ _ = _
 rw [ev_prim (p := ccP) rfl]
 unfold ccP
 simp only [at_ob]
 rw [if_pos ⟨hlo, hp, hr⟩, set_ob]
theorem f31r {r : List V} (hlo : lo ≤ p.length) (hy : By out) (hl : out.length ≤ 1000000000) :
  E lo 21 [.ptr p.length 0] (p ++ .cells (p0 :: .list .yes (ri .u8 out) :: r) :: q) = some (.v (.string (bs out)), p ++ .cells (p0 :: .list .no (ri .u8 out) :: r) :: q) := by
 show ev _ hints primz lo _ _ _ = _
 rw [ev_prim (p := stP) rfl]
 unfold stP
 simp only [at_ob, rows_ri]
 rw [if_pos ⟨hlo, by_all hy, hl⟩, set_ob]
 rfl
theorem f30w {n : Int} (hlo : lo ≤ p.length) (hp : okP p.length p0 = true) {s : List Int} (hs : By s) (hl : out.length ≤ 1000000000) (hl2 : s.length ≤ 1000000000) :
  E lo 19 [.ptr p.length 0, .v (.string (bs s))] (p ++ .cells [p0, .list .yes (ri .u8 out), .v (.int .i64 n)] :: q) =
   some (.tup [.v (.int .i64 s.length), .v .nilIface], p ++ .cells [.ptr p.length 0, .list .yes (ri .u8 (out ++ s)), .v (.int .i64 n)] :: q) := by
 have k := f58r (lo := lo) (p := p) (q := q) (p0 := p0) (x := .list .yes (ri .u8 out)) (r := [.v (.int .i64 n)]) (by simp) hlo hp
 have e : ri .u8 (out ++ s) = ri .u8 out ++ ri .u8 s := by rw [← ri_app]
 have sz := bs_size s
 have h1 : (out.length + s.length) * 1 ≤ 140737488355328 := by omega
 have h2 : out.length + s.length ≤ 9223372036854775807 := by omega
 rw [e19 (by simp) (by rfl), e]
 simp only [go_sem, b19, Tryd.f19, k, hlo, bytes_bs hs, sz, h1, h2]
 all_goals rfl
end
end Go.Lift.D7
end

section
namespace Go.Lift.Spell
open Utf Tok
def hexD (n : Int) : Int := if n < 10 then 48 + n else 87 + n
def hexS : List Int := [48, 49, 50, 51, 52, 53, 54, 55, 56, 57, 97, 98, 99, 100, 101, 102]
theorem hexS_at {n : Int} (h0 : 0 ≤ n) (h1 : n < 16) : hexS[n.toNat]? = some (hexD n) := by
 obtain ⟨k, rfl⟩ : ∃ k : Nat, n = k := ⟨n.toNat, by omega⟩
 have hk : k < 16 := by omega
 have : ∀ k : Fin 16, hexS[((k.val : Nat) : Int).toNat]? = some (hexD (k.val : Int)) := by decide
 exact this ⟨k, hk⟩
theorem hexD_by {n : Int} (h0 : 0 ≤ n) (h1 : n < 16) : 48 ≤ hexD n ∧ hexD n ≤ 102 := by
 unfold hexD
 split <;> omega
def rdN : Nat → Int → List Int
 | 0, _ => []
 | k + 1, r => if r ≤ 0 then [] else hexD (r % 16) :: rdN k (r / 16)
theorem rdN_len : ∀ (k : Nat) (r : Int), (rdN k r).length ≤ k
 | 0, _ => Nat.le_refl _
 | k + 1, r => by
  simp only [rdN]
  split
  ·simp
  ·have := rdN_len k (r / 16)
   simp
   omega
theorem rdN_by : ∀ (k : Nat) (r : Int), By (rdN k r)
 | 0, _ => fun c hc => by cases hc
 | k + 1, r => by
  simp only [rdN]
  split
  ·exact fun c hc => by cases hc
  ·intro c hc
   rcases List.mem_cons.1 hc with rfl | hc
   ·have := hexD_by (n := r % 16) (by omega) (by omega); omega
   ·exact rdN_by k _ c hc
def codeT (r : Int) : List Int := 92 :: ((rdN 8 r).reverse ++ [32])
theorem codeT_by (r : Int) : By (codeT r) := fun c hc => by
 unfold codeT at hc
 simp only [List.mem_cons, List.mem_append, List.mem_reverse, List.not_mem_nil, or_false] at hc
 rcases hc with rfl | hc | rfl
 ·omega
 ·exact rdN_by 8 r c hc
 ·omega
theorem codeT_len (r : Int) : (codeT r).length ≤ 10 := by
 unfold codeT
 have := rdN_len 8 r
 simp
 omega
def hidT (x : Int) : Bool := decide (1 ≤ x) && decide (x ≤ 31) || x == 127 || x == 65279
def nameT : List Int → List Int
 | [] => []
 | x :: l => (if hidT x = true then codeT x else if ltr x = true then enc (scal x) else 92 :: enc (scal x)) ++ nameT l
theorem enc_len (x : Int) : 1 ≤ (enc x).length ∧ (enc x).length ≤ 4 := by
 unfold enc
 split
 ·simp
 ·split
  ·simp
  ·split <;> simp
def nameC (x : Int) : List Int := if hidT x = true then codeT x else if ltr x = true then enc (scal x) else 92 :: enc (scal x)
theorem nameT_cons (x : Int) (l : List Int) : nameT (x :: l) = nameC x ++ nameT l := rfl
theorem nameC_len (x : Int) : (nameC x).length ≤ 10 := by
 unfold nameC
 have := enc_len (scal x)
 split
 ·exact codeT_len x
 ·split
  ·omega
  ·simp; omega
theorem nameC_by (x : Int) : By (nameC x) := by
 have hs := scal_in x
 have hb := enc_by (scal x) hs.1 hs.2
 unfold nameC
 split
 ·exact codeT_by x
 ·split
  ·exact hb
  ·intro c hc
   rcases List.mem_cons.1 hc with rfl | hc
   ·omega
   ·exact hb c hc
theorem nameT_len : ∀ l : List Int, (nameT l).length ≤ 10 * l.length
 | [] => by simp [nameT]
 | x :: l => by
  rw [nameT_cons, List.length_append, List.length_cons]
  have := nameC_len x
  have := nameT_len l
  omega
theorem nameT_by : ∀ l : List Int, By (nameT l)
 | [] => fun c hc => by cases hc
 | x :: l => by
  rw [nameT_cons]
  intro c hc
  rcases List.mem_append.1 hc with h | h
  ·exact nameC_by x c h
  ·exact nameT_by l c h
def identT (l : List Int) : List Int :=
 if l = [45] then [92, 45] else match l with
 | [] => []
 | x :: t => if dig x = true then codeT x ++ nameT t else match t with
  | [] => nameT [x]
  | y :: u => if x = 45 ∧ dig y = true then 45 :: (codeT y ++ nameT u) else nameT (x :: y :: u)
theorem encs_one {l : List Int} (hs : ∀ x ∈ l, scal x = x) : encs l = [45] ↔ l = [45] := by
 constructor
 ·intro h
  have h1 := (raw_encs l).1
  rw [h] at h1
  have h2 : l.map scal = l := by
   conv => rhs; rw [← List.map_id l]
   exact List.map_congr_left fun x hx => hs x hx
  rw [h2] at h1
  rw [← h1]
  decide
 ·rintro rfl
  decide
theorem charsOk {l : List Int} (hs : ∀ x ∈ l, scal x = x) : raw (encs l) = l := by
 rw [(raw_encs l).1]
 conv => rhs; rw [← List.map_id l]
 exact List.map_congr_left fun x hx => hs x hx
end Go.Lift.Spell
end
