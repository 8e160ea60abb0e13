/- The program, evaluated. -/
import Derived.Test.YtnfdhgadidacaaaGreatDoorGLc
import Derived.Test.YtnfdhgadidacaaaGreatDoorGP4Basea
import Derived.Test.YtnfdhgadidacaaaGreatDoorGZb
import Derived.Test.YtnfdhgadidacaaaGreatDoorGPa
import Derived.Test.YtnfdhgadidacaaaGreatDoorGZc
section
open Go.Proofs
namespace Go.Lift.R4
set_option linter.unusedSectionVars false
variable [MX]
open Utf Tok Spell
set_option maxRecDepth 20000
set_option maxHeartbeats 4000000
set_option linter.unusedSimpArgs false
set_option linter.unusedVariables false
theorem wrap_u64 {n : Int} (h0 : 0 ≤ n) (h1 : n ≤ 18446744073709551615) : IntKind.u64.wrap n = n := by
 simp only [IntKind.wrap, IntKind.signed, IntKind.bits]
 simp
 omega
theorem wrap_u64m {n : Int} (h0 : -9223372036854775808 ≤ n) (h1 : n < 0) : IntKind.u64.wrap n = n + 18446744073709551616 := by
 simp only [IntKind.wrap, IntKind.signed, IntKind.bits]
 simp
 omega
section
variable {lo : Nat} {h : Heap}
theorem f96 {n : Int} (h0 : -9223372036854775808 ≤ n) (h1 : n ≤ 9223372036854775807) : E lo 96 [.v (.int .i64 n)] h = some (.v (.int .u64 n.natAbs), h) := by
 rw [e96 (by simp) (by rfl)]
 by_cases hn : n < 0
 ·have q : decide (n < 0) = true := by simp [hn]
  have w1 : IntKind.u64.wrap n = n + 18446744073709551616 := wrap_u64m h0 hn
  have w2 : IntKind.u64.wrap (0 - (n + 18446744073709551616)) = (n.natAbs : Int) := by
   simp only [IntKind.wrap, IntKind.signed, IntKind.bits]
   simp
   omega
  simp only [go_sem, b96, Tryz.f96, q, w1, w2]
  all_goals rfl
 ·have q : decide (n < 0) = false := by simp; omega
  have w1 : IntKind.u64.wrap n = (n.natAbs : Int) := by rw [wrap_u64 (by omega) (by omega)]; omega
  simp only [go_sem, b96, Tryz.f96, q, w1]
  all_goals rfl
theorem tmod_nat (a b : Nat) : ((b : Int).tmod (a : Int)) = ((b % a : Nat) : Int) := by
 rw [Int.tmod_eq_emod_of_nonneg (by omega)]; rfl
theorem loop160 : ∀ (m a b : Nat), a ≤ m → loopW (evCode ⟨Tryz.prog, E, lo, h.length, h160⟩ loopW l160x0) ([(0, .v (.int .u64 a)), (1, .v (.int .u64 b))], h) =
  some (.exit 0, [(0, .v (.int .u64 0)), (1, .v (.int .u64 (Nat.gcd a b))), (6, .v (.bool false))], h) := by
 have stop : ∀ b : Nat, loopW (evCode ⟨Tryz.prog, E, lo, h.length, h160⟩ loopW l160x0) ([(0, .v (.int .u64 (0 : Nat))), (1, .v (.int .u64 b))], h) =
  some (.exit 0, [(0, .v (.int .u64 0)), (1, .v (.int .u64 (Nat.gcd 0 b))), (6, .v (.bool false))], h) := by
  intro b
  have q : (((0 : Nat) : Int) != 0) = false := rfl
  rw [loop_eq, Nat.gcd_zero_left]
  simp only [go_sem, l160x0, b160, Tryz.f160, q]
  all_goals rfl
 intro m
 induction m with
 | zero =>
  intro a b ha
  obtain rfl : a = 0 := by omega
  exact stop b
 | succ m ih =>
  intro a b ha
  by_cases h0 : a = 0
  ·subst h0; exact stop b
  have q : ((a : Int) != 0) = true := by simp; omega
  have z : ¬ ((a : Int) = 0) := by omega
  have t := tmod_nat a b
  have er : evCode ⟨Tryz.prog, E, lo, h.length, h160⟩ loopW l160x0 ([(0, .v (.int .u64 a)), (1, .v (.int .u64 b))], h) = some (.normal, [(0, .v (.int .u64 ((b % a : Nat) : Int))), (1, .v (.int .u64 a))], h) := by
   simp only [go_sem, l160x0, b160, Tryz.f160, q, z, t]
   all_goals rfl
  rw [loop_eq, er, loop_n, ih (b % a) a (by have := Nat.mod_lt b (by omega : 0 < a); omega), Nat.gcd_rec a b]
theorem f160 {a b : Nat} : E lo 160 [.v (.int .u64 a), .v (.int .u64 b)] h = some (.v (.int .u64 (Nat.gcd a b)), h) := by
 have hL := loop160 (lo := lo) (h := h) a a b (Nat.le_refl _)
 simp only [l160x0, b160, Tryz.f160, loopAt, loops, bodyOf, go_sem] at hL
 rw [e160 (by simp) (by rfl)]
 simp only [go_sem, b160, Tryz.f160, hL]
 all_goals rfl
theorem f128 {n d : Int} (h0 : -9223372036854775808 ≤ n) (h1 : n ≤ 9223372036854775807) (h2 : d ≤ 9223372036854775807) (hlo : lo ≤ h.length) :
  E lo 128 [.agg [.v (.int .i64 n), .v (.int .i64 d)]] h = some (.v (.bool (sureR n d)), h) := by
 unfold sureR
 rw [e128 (by simp) (by rfl)]
 by_cases hd : 1 ≤ d
 rotate_left
 ·have q : decide (1 ≤ d) = false := by simp; omega
  rw [q]
  simp only [go_sem, b128, Tryz.f128, q, Bool.false_and]
  all_goals rfl
 have q : decide (1 ≤ d) = true := by simp [hd]
 by_cases hn : n = -9223372036854775808
 ·have q2 : (n != -9223372036854775808) = false := by simp [hn]
  rw [q, q2]
  simp only [go_sem, b128, Tryz.f128, q, q2, Bool.false_and, Bool.and_false]
  all_goals rfl
 have q2 : (n != -9223372036854775808) = true := by simp [hn]
 have w1 : IntKind.u64.wrap d = (d.toNat : Int) := by rw [wrap_u64 (by omega) (by omega)]; omega
 have k1 := fun lo h => f96 (lo := lo) (h := h) h0 h1
 have k2 := fun lo h => f160 (lo := lo) (h := h) (a := n.natAbs) (b := d.toNat)
 have k3 : ((Nat.gcd n.natAbs d.toNat : Int) == 1) = (Nat.gcd n.natAbs d.toNat == 1) := by
  rw [Bool.eq_iff_iff, beq_iff_eq, beq_iff_eq]; omega
 rw [q, q2]
 simp only [go_sem, b128, Tryz.f128, q, q2, w1, k1, k2, k3, hlo, Bool.true_and, Bool.and_true]
 all_goals rfl
theorem fl32 : flatOf Tryz.prog 32 = some [1, 1] := by kernel_rfl
theorem eq_rat (n d x y : Int) : eqCells [1, 1] [.v (.int .i64 n), .v (.int .i64 d)] [.v (.int .i64 x), .v (.int .i64 y)] = some (n == x && d == y) := by
 simp [eqCells, eqS]
theorem f93 {n d : Int} (h0 : -9223372036854775808 ≤ n) (h1 : n ≤ 9223372036854775807) (h2 : d ≤ 9223372036854775807) (hlo : lo ≤ h.length) :
  E lo 93 [.agg [.v (.int .i64 n), .v (.int .i64 d)]] h = some (.v (.bool (mayR n d)), h) := by
 have k := fun lo h hlo => f128 (lo := lo) (h := h) h0 h1 h2 hlo
 have e := eq_rat n d 0 0
 have hlo2 : lo ≤ h.length + 1 := by omega
 unfold mayR
 rw [e93 (by simp) (by rfl)]
 cases q : (n == 0 && d == 0) with
 | true =>
  rw [q] at e
  simp only [go_sem, b93, Tryz.f93, fl32, e, hlo]
  all_goals rfl
 | false =>
  rw [q] at e
  have k' := k lo (h ++ [.cells [.v (.int .i64 n), .v (.int .i64 d)]]) (by simp; omega)
  simp only [go_sem, b93, Tryz.f93, fl32, e, k', hlo, Bool.false_or]
  all_goals rfl
end
end Go.Lift.R4
end

section
open Go.Proofs
namespace Go.Lift.R4
set_option linter.unusedSectionVars false
variable [MX]
open Utf Tok Spell
set_option maxRecDepth 20000
set_option maxHeartbeats 4000000
set_option linter.unusedSimpArgs false
set_option linter.unusedVariables false
section
variable {lo : Nat} {h : Heap}
theorem f132 {x : Int} (h0 : 0 ≤ x) (h1 : x < 18446744073709551616) : E lo 132 [.v (.int .u64 x)] h = some (.v (.int .i64 (Go.Lib.ctz 64 x.toNat)), h) := by
 show ev Tryz.prog hints primz lo 132 _ h = _
 rw [ev_prim (p := ctzP) rfl]
 unfold ctzP
 simp only
 rw [if_pos ⟨h0, h1⟩]
theorem f94 {c : UInt8} {n : Int} (h0 : 0 ≤ n) (h1 : n ≤ 1000000) : E lo 94 [.v (.string ⟨#[c]⟩), .v (.int .i64 n)] h = some (.v (.string (bs (List.replicate n.toNat (c.toNat : Int)))), h) := by
 show ev Tryz.prog hints primz lo 94 _ h = _
 rw [ev_prim (p := repP) rfl]
 unfold repP
 simp only
 rw [if_pos ⟨rfl, h0, h1⟩]
 rw [← bs_rep]
theorem u8s_one {c : Int} : (bs [c]).data.toList = [c.toNat.toUInt8] := rfl
theorem f159 {l : List Int} (hy : By l) {c : Int} (h0 : 0 ≤ c) (h1 : c ≤ 255) :
  E lo 159 [.v (.string (bs l)), .v (.string (bs [c]))] h = some (.v (.int .i64 (Go.Lib.indexByte (bs l).data.toList c.toNat.toUInt8)), h) := by
 show ev Tryz.prog hints primz lo 159 _ h = _
 rw [ev_prim (p := ixP) rfl]
 unfold ixP
 simp only [u8s_one]
theorem f127 {l : List Int} (hy : By l) {c : Int} (h0 : 0 ≤ c) (h1 : c ≤ 255) :
  E lo 127 [.v (.string (bs l)), .v (.string (bs [c]))] h = some (.v (.int .i64 (Go.Lib.indexByte (bs l).data.toList c.toNat.toUInt8)), h) := by
 rw [e127 (by simp) (by rfl)]
 simp only [go_sem, b127, Tryz.f127, f159 hy h0 h1]
 all_goals rfl
theorem f92 {l : List Int} (hy : By l) {c : Int} (h0 : 0 ≤ c) (h1 : c ≤ 255) :
  E lo 92 [.v (.string (bs l)), .v (.string (bs [c]))] h = some (.v (.bool (l.contains c)), h) := by
 rw [e92 (by simp) (by rfl)]
 have t := bs_idx hy h0 h1
 simp only [go_sem, b92, Tryz.f92, f127 hy h0 h1, t]
 all_goals rfl
end
end Go.Lift.R4
end

section
open Go.Proofs
namespace Go.Lift.R4
set_option linter.unusedSectionVars false
variable [MX]
open Utf Tok Spell
set_option maxRecDepth 20000
set_option maxHeartbeats 4000000
set_option linter.unusedSimpArgs false
set_option linter.unusedVariables false
section
variable {lo : Nat} {h : Heap}
theorem loop95 {a : Int} : ∀ (m : Nat) (n : Int) (c : Nat), 1 ≤ n → n < 5 ^ m → n ≤ 9223372036854775807 → c + m ≤ 1000 →
  loopW (evCode ⟨Tryz.prog, E, lo, h.length, h95⟩ loopW l95x0) ([(0, .v (.int .u64 n)), (5, .v (.int .i64 a)), (6, .v (.int .i64 c))], h) =
   some (.exit 0, [(0, .v (.int .u64 (fv m n).2)), (5, .v (.int .i64 a)), (6, .v (.int .i64 (c + (fv m n).1 : Nat))), (14, .v (.bool false))], h) := by
 intro m
 induction m with
 | zero => intro n c h1 h2 _ _; simp at h2; omega
 | succ m ih =>
  intro n c h1 h2 h3 hc
  have w2 : IntKind.u64.wrap (n / 5) = n / 5 := wrap_u64 (by omega) (by omega)
  have t1 : n.tmod 5 = n % 5 := Int.tmod_eq_emod_of_nonneg (by omega)
  have t2 : n.tdiv 5 = n / 5 := Int.tdiv_eq_ediv_of_nonneg (by omega)
  have z : ¬ ((5 : Int) = 0) := by omega
  have w : IntKind.i64.wrap ((c : Int) + 1) = ((c + 1 : Nat) : Int) := wrap_succ (by omega)
  simp only [fv]
  by_cases q : n % 5 = 0
  ·have q1 : (n % 5 == 0) = true := by simp [q]
   have er : evCode ⟨Tryz.prog, E, lo, h.length, h95⟩ loopW l95x0 ([(0, .v (.int .u64 n)), (5, .v (.int .i64 a)), (6, .v (.int .i64 c))], h) = some (.normal, [(0, .v (.int .u64 (n / 5))), (5, .v (.int .i64 a)), (6, .v (.int .i64 (c + 1 : Nat)))], h) := by
    simp only [go_sem, l95x0, b95, Tryz.f95, t1, t2, z, q1, w, w2]
    all_goals rfl
   rw [loop_eq, er, loop_n, ih (n / 5) (c + 1) (by omega) (by rw [Int.pow_succ] at h2; omega) (by omega) (by omega), if_pos q]
   have e : c + 1 + (fv m (n / 5)).1 = c + ((fv m (n / 5)).1 + 1) := by omega
   rw [e]
  ·have q1 : (n % 5 == 0) = false := by simp [q]
   rw [if_neg q, loop_eq]
   simp only [go_sem, l95x0, b95, Tryz.f95, t1, t2, z, q1]
   all_goals rfl
theorem f95 {d : Int} (h0 : 1 ≤ d) (h1 : d < 9223372036854775808) :
  E lo 95 [.v (.int .u64 d)] h = some (.tup [.v (.int .i64 (Go.Lib.ctz 64 d.toNat)), .v (.int .i64 (fv 64 (d / 2 ^ Go.Lib.ctz 64 d.toNat)).1), .v (.bool ((fv 64 (d / 2 ^ Go.Lib.ctz 64 d.toNat)).2 == 1))], h) := by
 have hlow := Go.Lib.ctzFrom_spec 64 d.toNat (by omega) (by omega)
 have hctz : Go.Lib.ctz 64 d.toNat = Go.Lib.ctzFrom 64 d.toNat := by unfold Go.Lib.ctz; rw [if_neg (by omega)]
 rw [← hctz] at hlow
 have k1 := fun h => f132 (lo := lo) (h := h) (x := d) (by omega) (by omega)
 generalize Go.Lib.ctz 64 d.toNat = a at *
 obtain ⟨m, hm, ha⟩ := hlow
 have pa := Spell.pow_pos (x := 2) (by omega) a
 have hq : 1 ≤ d / 2 ^ a := by
  have : (d.toNat : Int) = ((2 ^ a * (2 * m + 1) : Nat) : Int) := by rw [hm]
  have e : (d.toNat : Int) = d := by omega
  rw [e] at this
  have hd : d = 2 ^ a * (2 * (m : Int) + 1) := by rw [this]; push_cast; rfl
  rw [hd, Int.mul_ediv_cancel_left _ (by omega)]
  omega
 have hq2 : d / 2 ^ a ≤ d := Int.ediv_le_self _ (by omega)
 have h64 : (9223372036854775808 : Int) ≤ 5 ^ 64 := by decide
 have hL := loop95 (lo := lo) (h := h) (a := a) 64 (d / 2 ^ a) 0 hq (by omega) (by omega) (by omega)
 have n0 : ((0 : Nat) : Int) = 0 := rfl
 simp only [l95x0, b95, Tryz.f95, loopAt, loops, bodyOf, go_sem, n0, Nat.zero_add] at hL
 have sh : ishr IntKind.u64 d (a : Int) = d / 2 ^ a := by
  unfold ishr
  have e : min ((a : Int)).toNat IntKind.u64.bits = a := by
   show min ((a : Int)).toNat 64 = a
   omega
  rw [e, Int.fdiv_eq_ediv_of_nonneg _ (by omega)]
 have w1 : IntKind.u64.wrap (d / 2 ^ a) = d / 2 ^ a := wrap_u64 (by omega) (by omega)
 rw [e95 (by simp) (by rfl)]
 simp only [go_sem, b95, Tryz.f95, k1, sh, w1, hL]
 all_goals rfl
theorem dgt_one {n : Int} (h0 : 0 ≤ n) (h : n < 10) : dgt n = [48 + n] := by
 unfold dgt
 rw [Go.Lib.decDigits_one (by omega)]
 simp
 omega
theorem dgt_more {n : Int} (h : 10 ≤ n) : dgt n = dgt (n / 10) ++ [48 + n % 10] := by
 unfold dgt
 rw [Go.Lib.decDigits, dif_neg (by omega)]
 have e : (n / 10).toNat = n.toNat / 10 := by omega
 rw [e, List.map_append]
 congr 1
 simp
 omega
theorem dgt_by (n : Int) : By (dgt n) := fun c hc => by
 unfold dgt at hc
 obtain ⟨x, _, rfl⟩ := List.mem_map.1 hc
 have := x.toNat_lt
 omega
theorem dgt_len : ∀ (k : Nat) (n : Int), 0 ≤ n → n < 10 ^ (k + 1) → 1 ≤ (dgt n).length ∧ (dgt n).length ≤ k + 1 := by
 intro k
 induction k with
 | zero =>
  intro n h0 h1
  rw [dgt_one h0 (by simpa using h1)]
  simp
 | succ k ih =>
  intro n h0 h1
  by_cases h : n < 10
  ·rw [dgt_one h0 h]; simp
  ·rw [dgt_more (by omega)]
   have := ih (n / 10) (by omega) (by rw [Int.pow_succ] at h1; omega)
   simp
   omega
abbrev cz (k : Nat) (suf : List Int) : Ob := .cells (List.replicate k (.v (.int .u8 0)) ++ suf.map fun c => .v (.int .u8 c))
theorem set_cz (k : Nat) (c : Int) (suf : List Int) : (List.replicate (k + 1) (V.v (.int .u8 0)) ++ suf.map fun c => V.v (.int .u8 c)).set k (.v (.int .u8 c)) = List.replicate k (V.v (.int .u8 0)) ++ (c :: suf).map fun c => V.v (.int .u8 c) := by
 rw [List.replicate_succ', List.append_assoc, List.set_append_right _ _ (by simp)]
 simp
theorem last97 (hlo : lo ≤ h.length) {ex : Env} (hex : ex = [] ∨ ∃ b, ex = [(16, .v (.bool b))]) {n : Int} {j : Nat} {suf : List Int} (h0 : 0 ≤ n) (h1 : n < 10) (h4 : j + 1 + suf.length = 20) :
  ∃ x : Ob, loopW (evCode ⟨Tryz.prog, E, lo, h.length, h97⟩ loopW l97x0) ((0, .v (.int .u64 n)) :: (3, .ptr h.length 0) :: (4, .v (.int .i64 (j + 1 : Nat))) :: ex, h ++ [cz (j + 1) suf]) =
   some (.ret, [(2, .v (.string (bs (dgt n ++ suf))))], h ++ [x]) := by
 have t1 : n.tmod 10 = n % 10 := Int.tmod_eq_emod_of_nonneg (by omega)
 have t2 : n.tdiv 10 = n / 10 := Int.tdiv_eq_ediv_of_nonneg (by omega)
 have t3 : n / 10 = 0 := by omega
 have t4 : n % 10 = n := by omega
 have w1 : IntKind.i64.wrap (((j + 1 : Nat) : Int) - 1) = (j : Int) := by rw [wrap_i64 (by omega) (by omega)]; omega
 have w2 : IntKind.u64.wrap (48 + n) = 48 + n := wrap_u64 (by omega) (by omega)
 have w3 : IntKind.u8.wrap (48 + n) = 48 + n := by simp only [IntKind.wrap, IntKind.signed, IntKind.bits]; simp; omega
 have b1 : (j : Int) < ((20 : Nat) : Int) := by omega
 have e := set_cz j (48 + n) suf
 have e2 : j + 1 ≤ (List.replicate (j + 1) (V.v (Value.int IntKind.u8 0)) ++ List.map (fun c => V.v (Value.int IntKind.u8 c)) suf).length := by simp
 have q0 : ((0 : Int) == 0) = true := rfl
 have z : ¬ ((10 : Int) = 0) := by omega
 have e3 : decide (j + (20 - j) ≤ (List.replicate j (V.v (Value.int IntKind.u8 0)) ++ V.v (Value.int IntKind.u8 (48 + n)) :: List.map (fun c => V.v (Value.int IntKind.u8 c)) suf).length) = true := by simp; omega
 have e4 : bytesOf (List.map (fun x => [x]) (List.take (20 - j) (List.drop j (List.replicate j (V.v (Value.int IntKind.u8 0)) ++ V.v (Value.int IntKind.u8 (48 + n)) :: List.map (fun c => V.v (Value.int IntKind.u8 c)) suf)))) = some (u8s ((48 + n) :: suf)) := by
  rw [List.drop_left' (by simp), List.take_of_length_le (by simp; omega)]
  have : List.map (fun x => [x]) (V.v (Value.int IntKind.u8 (48 + n)) :: List.map (fun c => V.v (Value.int IntKind.u8 c)) suf) = ri .u8 ((48 + n) :: suf) := by simp [ri]
  rw [this]
  exact ri_bytes _
 have w0 : IntKind.u64.wrap 0 = 0 := wrap_u64 (by omega) (by omega)
 have b2 : j ≤ 20 := by omega
 have b3 : j < 20 := by omega
 rw [dgt_one h0 h1]
 refine ⟨cz j ((48 + n) :: suf), ?_⟩
 rw [loop_eq]
 rcases hex with rfl | ⟨b, rfl⟩ <;>
 simp only [go_sem, l97x0, b97, Tryz.f97, t1, t2, t3, t4, w1, w2, w3, b1, e, e2, e3, e4, hlo, q0, z, w0, b2, b3, cz, Nat.zero_add, Nat.mul_one]
 all_goals rfl
theorem more97 (hlo : lo ≤ h.length) {ex : Env} (hex : ex = [] ∨ ∃ b, ex = [(16, .v (.bool b))]) {n : Int} {j : Nat} {suf : List Int} (h0 : 10 ≤ n) (h1 : n ≤ 18446744073709551615) (h4 : j + 1 + suf.length = 20) :
  evCode ⟨Tryz.prog, E, lo, h.length, h97⟩ loopW l97x0 ((0, .v (.int .u64 n)) :: (3, .ptr h.length 0) :: (4, .v (.int .i64 (j + 1 : Nat))) :: ex, h ++ [cz (j + 1) suf]) =
   some (.normal, [(0, .v (.int .u64 (n / 10))), (3, .ptr h.length 0), (4, .v (.int .i64 j)), (16, .v (.bool false))], h ++ [cz j ((48 + n % 10) :: suf)]) := by
 have t1 : n.tmod 10 = n % 10 := Int.tmod_eq_emod_of_nonneg (by omega)
 have t2 : n.tdiv 10 = n / 10 := Int.tdiv_eq_ediv_of_nonneg (by omega)
 have w1 : IntKind.i64.wrap (((j + 1 : Nat) : Int) - 1) = (j : Int) := by rw [wrap_i64 (by omega) (by omega)]; omega
 have w2 : IntKind.u64.wrap (48 + n % 10) = 48 + n % 10 := wrap_u64 (by omega) (by omega)
 have w3 : IntKind.u8.wrap (48 + n % 10) = 48 + n % 10 := by simp only [IntKind.wrap, IntKind.signed, IntKind.bits]; simp; omega
 have w0 : IntKind.u64.wrap (n / 10) = n / 10 := wrap_u64 (by omega) (by omega)
 have w4 : IntKind.u64.wrap (n % 10) = n % 10 := wrap_u64 (by omega) (by omega)
 have b1 : (j : Int) < ((20 : Nat) : Int) := by omega
 have e := set_cz j (48 + n % 10) suf
 have e2 : j + 1 ≤ (List.replicate (j + 1) (V.v (Value.int IntKind.u8 0)) ++ List.map (fun c => V.v (Value.int IntKind.u8 c)) suf).length := by simp
 have q0 : (n / 10 == 0) = false := by simp; omega
 have z : ¬ ((10 : Int) = 0) := by omega
 rcases hex with rfl | ⟨b, rfl⟩ <;>
 simp only [go_sem, l97x0, b97, Tryz.f97, t1, t2, w1, w2, w3, w4, b1, e, e2, hlo, q0, z, w0, cz, Nat.zero_add, Nat.mul_one]
 all_goals rfl
theorem loop97 (hlo : lo ≤ h.length) : ∀ (k : Nat) (n : Int) (j : Nat) (suf : List Int) (ex : Env), (ex = [] ∨ ∃ b, ex = [(16, .v (.bool b))]) → 0 ≤ n → n < 10 ^ (k + 1) → n ≤ 18446744073709551615 → k ≤ j → j + 1 + suf.length = 20 →
  ∃ x : Ob, loopW (evCode ⟨Tryz.prog, E, lo, h.length, h97⟩ loopW l97x0) ((0, .v (.int .u64 n)) :: (3, .ptr h.length 0) :: (4, .v (.int .i64 (j + 1 : Nat))) :: ex, h ++ [cz (j + 1) suf]) =
   some (.ret, [(2, .v (.string (bs (dgt n ++ suf))))], h ++ [x]) := by
 intro k
 induction k with
 | zero => intro n j suf ex hex h0 h1 _ h2 h4; exact last97 hlo hex h0 (by simpa using h1) h4
 | succ k ih =>
  intro n j suf ex hex h0 h1 h3 h2 h4
  by_cases hn : n < 10
  ·exact last97 hlo hex h0 hn h4
  obtain ⟨i, rfl⟩ : ∃ i, j = i + 1 := ⟨j - 1, by omega⟩
  obtain ⟨x, hx⟩ := ih (n / 10) i ((48 + n % 10) :: suf) [(16, .v (.bool false))] (.inr ⟨_, rfl⟩) (by omega) (by rw [Int.pow_succ] at h1; omega) (by omega) (by omega) (by simp; omega)
  refine ⟨x, ?_⟩
  rw [loop_eq, more97 hlo hex (by omega) h3 h4, loop_n, hx, dgt_more (n := n) (by omega), List.append_assoc]
  rfl
theorem f97 (hlo : lo ≤ h.length) {n : Int} (h0 : 0 ≤ n) (h1 : n ≤ 18446744073709551615) : E lo 97 [.v (.int .u64 n)] h = some (.v (.string (bs (dgt n))), h) := by
 obtain ⟨x, hL⟩ := loop97 (lo := lo) (h := h) hlo 19 n 19 [] [] (.inl rfl) h0 (by omega) h1 (by omega) (by simp)
 have n20 : ((19 + 1 : Nat) : Int) = 20 := rfl
 have hz : cz (19 + 1) [] = .cells [.v (.int .u8 0), .v (.int .u8 0), .v (.int .u8 0), .v (.int .u8 0), .v (.int .u8 0), .v (.int .u8 0), .v (.int .u8 0), .v (.int .u8 0), .v (.int .u8 0), .v (.int .u8 0), .v (.int .u8 0), .v (.int .u8 0), .v (.int .u8 0), .v (.int .u8 0), .v (.int .u8 0), .v (.int .u8 0), .v (.int .u8 0), .v (.int .u8 0), .v (.int .u8 0), .v (.int .u8 0)] := rfl
 rw [n20, hz, List.append_nil] at hL
 simp only [l97x0, b97, Tryz.f97, loopAt, loops, bodyOf, go_sem] at hL
 rw [e97 (by simp) (by rfl)]
 simp only [go_sem, b97, Tryz.f97, hL]
 all_goals rfl
end
end Go.Lift.R4
end

section
open Go.Proofs
namespace Go.Lift.R4
set_option linter.unusedSectionVars false
variable [MX]
open Utf Tok Spell
set_option maxRecDepth 20000
set_option maxHeartbeats 4000000
set_option linter.unusedSimpArgs false
set_option linter.unusedVariables false
section
variable {lo : Nat} {h : Heap}
theorem bs_92 : (⟨#[92]⟩ : ByteArray) = bs [92] := rfl
end
end Go.Lift.R4
end

section
open Go.Proofs
namespace Go.Lift.R4
set_option linter.unusedSectionVars false
variable [MX]
open Utf Tok Spell
set_option maxRecDepth 20000
set_option maxHeartbeats 4000000
set_option linter.unusedSimpArgs false
set_option linter.unusedVariables false
theorem enc_utf {x : Int} (hs : scal x = x) : Utf8.encode x = bs (enc x) := by
 obtain ⟨h0, h1, h2⟩ := (scal_iff x).1 hs
 obtain ⟨n, rfl⟩ : ∃ n : Nat, x = n := ⟨x.toNat, by omega⟩
 have hv : Utf8.valid (n : Int) = true := by simp [Utf8.valid]; omega
 have hn : ((n : Int)).toNat = n := by omega
 unfold Utf8.encode enc
 simp only [hv, hn, if_true]
 by_cases c1 : n < 128
 ·rw [if_pos c1, if_pos (show (n : Int) < 128 by omega)]
  rfl
 rw [if_neg c1, if_neg (show ¬ (n : Int) < 128 by omega)]
 by_cases c2 : n < 2048
 ·rw [if_pos c2, if_pos (show (n : Int) < 2048 by omega)]
  show _ = (⟨#[UInt8.ofNat (192 + (n : Int) / 64).toNat, UInt8.ofNat (128 + (n : Int) % 64).toNat]⟩ : ByteArray)
  rw [show (192 + (n : Int) / 64).toNat = 192 + n / 64 by omega, show (128 + (n : Int) % 64).toNat = 128 + n % 64 by omega]
 rw [if_neg c2, if_neg (show ¬ (n : Int) < 2048 by omega)]
 by_cases c3 : n < 65536
 ·rw [if_pos c3, if_pos (show (n : Int) < 65536 by omega)]
  show _ = (⟨#[UInt8.ofNat (224 + (n : Int) / 4096).toNat, UInt8.ofNat (128 + (n : Int) / 64 % 64).toNat, UInt8.ofNat (128 + (n : Int) % 64).toNat]⟩ : ByteArray)
  rw [show (224 + (n : Int) / 4096).toNat = 224 + n / 4096 by omega, show (128 + (n : Int) / 64 % 64).toNat = 128 + n / 64 % 64 by omega, show (128 + (n : Int) % 64).toNat = 128 + n % 64 by omega]
 ·rw [if_neg c3, if_neg (show ¬ (n : Int) < 65536 by omega)]
  show _ = (⟨#[UInt8.ofNat (240 + (n : Int) / 262144).toNat, UInt8.ofNat (128 + (n : Int) / 4096 % 64).toNat, UInt8.ofNat (128 + (n : Int) / 64 % 64).toNat, UInt8.ofNat (128 + (n : Int) % 64).toNat]⟩ : ByteArray)
  rw [show (240 + (n : Int) / 262144).toNat = 240 + n / 262144 by omega, show (128 + (n : Int) / 4096 % 64).toNat = 128 + n / 4096 % 64 by omega, show (128 + (n : Int) / 64 % 64).toNat = 128 + n / 64 % 64 by omega, show (128 + (n : Int) % 64).toNat = 128 + n % 64 by omega]
theorem index_none {c : UInt8} {r : List UInt8} : ∀ {s : List UInt8}, (∀ x ∈ s, x ≠ c) → Go.Lib.index s (c :: r) = -1
 | [], _ => rfl
 | b :: l, h => by
  have hb : (c == b) = false := by
   have := h b (by simp)
   simp
   exact fun e => this e.symm
  unfold Go.Lib.index
  rw [index_none fun x hx => h x (by simp [hx])]
  simp [List.isPrefixOf, hb]
section
variable {lo : Nat} {h : Heap}
theorem f92x {l : List Int} (hy : ∀ c ∈ l, 0 ≤ c ∧ c < 128) (hl : l.length ≤ 1000000) {x : Int} (hs : scal x = x) :
  E lo 92 [.v (.string (bs l)), .v (.string (bs (enc x)))] h = some (.v (.bool (l.contains x)), h) := by
 obtain ⟨h0, h1, _⟩ := (scal_iff x).1 hs
 have hby : By l := fun c hc => by have := hy c hc; omega
 by_cases hx : x < 128
 ·rw [enc_low hx]
  exact f92 hby (by omega) (by omega)
 ·obtain ⟨c, t, e, ht, hh⟩ := enc_high (x := x) (by omega) h1
  have hb := enc_by x h0 h1
  rw [e] at hh hb ⊢
  have hc := hh c (by simp)
  have hc2 := hb c (by simp)
  have hn : l.contains x = false := by
   rw [Bool.eq_false_iff]
   intro hcon
   have := hy x (by simpa using hcon)
   omega
  obtain ⟨d, u, rfl⟩ : ∃ d u, t = d :: u := by
   cases t with
   | nil => exact absurd rfl ht
   | cons d u => exact ⟨d, u, rfl⟩
  have hix : Go.Lib.index (bs l).data.toList (bs (c :: d :: u)).data.toList = -1 := by
   show Go.Lib.index (u8s l) (UInt8.ofNat c.toNat :: u8s (d :: u)) = -1
   refine index_none fun y hy2 => ?_
   simp only [u8s, List.mem_map] at hy2
   obtain ⟨z, hz, rfl⟩ := hy2
   have := hy z hz
   intro he
   have := congrArg UInt8.toNat he
   simp only [UInt8.toNat_ofNat'] at this
   omega
  have k159 : ∀ lo h, E lo 159 [.v (.string (bs l)), .v (.string (bs (c :: d :: u)))] h = some (.v (.int .i64 (-1)), h) := fun lo h => by
   show ev Tryz.prog hints primz lo 159 _ h = _
   rw [ev_prim (p := ixP) rfl]
   unfold ixP
   have e2 : (bs (c :: d :: u)).data.toList = UInt8.ofNat c.toNat :: UInt8.ofNat d.toNat :: u8s u := rfl
   simp only [hix]
   rw [e2]
   simp only
   rw [if_pos (by rw [bs_size]; omega)]
  have k127 : ∀ lo h, E lo 127 [.v (.string (bs l)), .v (.string (bs (c :: d :: u)))] h = some (.v (.int .i64 (-1)), h) := fun lo h => by
   rw [e127 (by simp) (by rfl)]
   simp only [go_sem, b127, Tryz.f127, k159]
   all_goals rfl
  have q : decide ((0 : Int) ≤ -1) = false := rfl
  rw [e92 (by simp) (by rfl), hn]
  simp only [go_sem, b92, Tryz.f92, k127, q]
  all_goals rfl
end
end Go.Lift.R4
end

section
open Go.Proofs
namespace Go.Lift.R4
set_option linter.unusedSectionVars false
variable [MX]
open Utf Tok Spell
set_option maxRecDepth 20000
set_option maxHeartbeats 4000000
set_option linter.unusedSimpArgs false
set_option linter.unusedVariables false
section
variable {lo : Nat} {h : Heap} {done : List Int} {p0 : V} {out sg : List Int} {sp : Bool} {x : Int} {s : ByteArray} {pos : Nat}
abbrev N35 (h : Heap) (sg : List Int) (sp : Bool) : Env := [(1, .v (.string (bs sg))), (2, .v (.bool sp)), (7, .ptr h.length 0), (11, .ptr (h.length + 1) 0)]
theorem round35 (hlo : lo ≤ h.length) (hp : okP h.length p0 = true) (hsg : ∀ c ∈ sg, 0 ≤ c ∧ c < 128) (hsl : sg.length ≤ 1000000) (hs : scal x = x) (hpos : pos < s.size) (hdec : Utf8.decode s pos = (x.toNat, (enc (scal x)).length)) (hl : out.length ≤ 900000000) :
  evCode ⟨Tryz.prog, E, lo, h.length, h35⟩ loopW l35x0 (N35 h sg sp, H34 h p0 out s pos) =
   some (.normal, N35 h sg sp, H34 h (.ptr h.length 0) (out ++ textC sg sp x) s (pos + (enc (scal x)).length)) := by
 obtain ⟨hx0, hx1, _⟩ := (scal_iff x).1 hs
 have hlo1 : lo ≤ h.length + 1 := by omega
 have hxn : ((x.toNat : Nat) : Int) = x := by omega
 have hcl := codeT_len x
 have hel := enc_len (scal x)
 have c87 := fun lo hlo => f87 (lo := lo) (h := H34 h p0 out s (pos + (enc (scal x)).length)) hlo hx0 (r := x) (by omega)
 have c87a := c87 lo (by simp; omega)
 have c87b := c87 h.length (by simp)
 have c87c := c87 (h.length + 2) (by simp)
 have c48 := fun lo hlo => f48 (lo := lo) (p := h) (q := [.iter s (pos + (enc (scal x)).length)]) (p0 := p0) (out := out) hlo hp (s := codeT x) (codeT_by x) (by omega) (by omega)
 have c90 := fun lo hlo => f90 (lo := lo) (p := h) (q := [.iter s (pos + (enc (scal x)).length)]) (p0 := p0) (out := out) hlo hp (r := x) (by omega) (by omega) (by omega)
 have c91 := fun lo hlo => f91 (lo := lo) (p := h) (q := [.iter s (pos + (enc (scal x)).length)]) (p0 := p0) (out := out) hlo hp (c := 92) (by omega)
 have c92 := fun lo hlo => f90 (lo := lo) (p := h) (q := [.iter s (pos + (enc (scal x)).length)]) (p0 := .ptr h.length 0) (out := out ++ [92]) hlo ok_self (r := x) (by omega) (by omega) (by simp; omega)
 have c48a := c48 lo hlo; have c48b := c48 h.length (Nat.le_refl _)
 have c90a := c90 lo hlo; have c90b := c90 h.length (Nat.le_refl _)
 have c91a := c91 lo hlo; have c91b := c91 h.length (Nat.le_refl _)
 have c92a := c92 lo hlo; have c92b := c92 h.length (Nat.le_refl _)
 clear c87 c48 c90 c91 c92
 have e1 : (Utf8.decode s pos).1 = x.toNat := by rw [hdec]
 have e2 : (Utf8.decode s pos).2 = (enc (scal x)).length := by rw [hdec]
 have eu : Utf8.encode x = bs (enc (scal x)) := by rw [enc_utf hs, hs]
 have k88 := fun lo h => f88 (lo := lo) (h := h) (c := x)
 have k92 := fun lo h => f92x (lo := lo) (h := h) hsg hsl hs
 have e3 : out ++ [92] ++ enc (scal x) = out ++ 92 :: enc (scal x) := by simp
 rw [e3] at c92a c92b
 have hsx := hs
 rw [← hs] at k92
 rw [hs] at k92
 have ks : ∀ lo h, E lo 92 [.v (.string (bs sg)), .v (.string (bs (enc (scal x))))] h = some (.v (.bool (sg.contains x)), h) := fun lo h => by
  have := k92 lo h
  rw [hs]
  exact this
 clear k92
 unfold textC
 cases qh : hidT x with
 | true =>
  rw [qh] at k88
  simp only [go_sem, l35x0, b35, Tryz.f35, hlo, hlo1, hpos, e1, e2, hxn, k88, c87a, c87b, c87c, c48a, c48b, if_true]
  all_goals rfl
 | false =>
  rw [qh] at k88
  cases sp with
  | true =>
   cases q32 : (x == 32) with
   | true =>
    simp only [go_sem, l35x0, b35, Tryz.f35, hlo, hlo1, hpos, e1, e2, hxn, k88, q32, c87a, c87b, c87c, c48a, c48b, if_true]
    all_goals rfl
   | false =>
    cases qc : sg.contains x with
    | true =>
     rw [qc] at ks
     simp only [go_sem, l35x0, b35, Tryz.f35, hlo, hlo1, hpos, e1, e2, hxn, k88, q32, eu, ks, c91a, c91b, c92a, c92b, if_true, Bool.false_eq_true, if_false]
     all_goals rfl
    | false =>
     rw [qc] at ks
     simp only [go_sem, l35x0, b35, Tryz.f35, hlo, hlo1, hpos, e1, e2, hxn, k88, q32, eu, ks, c90a, c90b, if_true, Bool.false_eq_true, if_false]
     all_goals rfl
  | false =>
   cases qc : sg.contains x with
   | true =>
    rw [qc] at ks
    simp only [go_sem, l35x0, b35, Tryz.f35, hlo, hlo1, hpos, e1, e2, hxn, k88, eu, ks, c91a, c91b, c92a, c92b, if_true, Bool.false_eq_true, if_false]
    all_goals rfl
   | false =>
    rw [qc] at ks
    simp only [go_sem, l35x0, b35, Tryz.f35, hlo, hlo1, hpos, e1, e2, hxn, k88, eu, ks, c90a, c90b, if_true, Bool.false_eq_true, if_false]
    all_goals rfl
theorem stop35 (hlo : lo ≤ h.length) (hpos : ¬ pos < s.size) :
  loopW (evCode ⟨Tryz.prog, E, lo, h.length, h35⟩ loopW l35x0) (N35 h sg sp, H34 h p0 out s pos) =
   some (.exit 0, N35 h sg sp ++ [(12, .tup [.v (.bool false)]), (13, .v (.bool false))], H34 h p0 out s pos) := by
 have hlo1 : lo ≤ h.length + 1 := by omega
 rw [loop_eq]
 simp only [go_sem, l35x0, b35, Tryz.f35, hlo, hlo1, hpos]
 all_goals rfl
theorem loop35 (hlo : lo ≤ h.length) (hsg : ∀ c ∈ sg, 0 ≤ c ∧ c < 128) (hsl : sg.length ≤ 1000000) : ∀ (l : List Int) (done : List Int) (p0 : V) (out : List Int), (∀ x ∈ l, scal x = x) → okP h.length p0 = true → out.length + 10 * l.length ≤ 900000000 →
  ∃ p1, okP h.length p1 = true ∧ loopW (evCode ⟨Tryz.prog, E, lo, h.length, h35⟩ loopW l35x0) (N35 h sg sp, H34 h p0 out (bs (done ++ encs l)) done.length) =
   some (.exit 0, N35 h sg sp ++ [(12, .tup [.v (.bool false)]), (13, .v (.bool false))], H34 h p1 (out ++ textT sg sp l) (bs (done ++ encs l)) (done ++ encs l).length) := by
 intro l
 induction l with
 | nil =>
  intro done p0 out _ hp _
  refine ⟨p0, hp, ?_⟩
  have e : done ++ encs [] = done := by simp [encs]
  rw [e, stop35 hlo (by rw [bs_size]; omega)]
  simp [textT]
 | cons x l ih =>
  intro done p0 out hs hp hl
  have hx := hs x (by simp)
  have hel := enc_len x
  have hcl := textC_len sg sp x
  have hdec := dec_enc (pre := done) (rest := encs l) hx
  have e1 : encs (x :: l) = enc x ++ encs l := by rw [encs_cons, hx]
  simp only [List.length_cons] at hl
  obtain ⟨p1, hp1, hL⟩ := ih (done ++ enc x) (.ptr h.length 0) (out ++ textC sg sp x) (fun y hy => hs y (by simp [hy])) ok_self (by simp; omega)
  refine ⟨p1, hp1, ?_⟩
  rw [e1, ← List.append_assoc]
  rw [← List.append_assoc] at hdec
  rw [loop_eq, round35 hlo hp hsg hsl hx (by rw [bs_size]; simp; omega) (by rw [hdec, hx]) (by omega), loop_n, hx]
  have e3 : done.length + (enc x).length = (done ++ enc x).length := by simp
  have e4 : textT sg sp (x :: l) = textC sg sp x ++ textT sg sp l := rfl
  rw [e3, hL, e4, List.append_assoc]
theorem f35 (hlo : lo ≤ h.length) (hsg : ∀ c ∈ sg, 0 ≤ c ∧ c < 128) (hsl : sg.length ≤ 1000000) {l : List Int} (hs : ∀ x ∈ l, scal x = x) (hl : l.length ≤ 10000000) :
  E lo 35 [.v (.string (bs (encs l))), .v (.string (bs sg)), .v (.bool sp)] h = some (.v (.string (bs (textT sg sp l))), h) := by
 have hlen := textT_len sg sp l
 obtain ⟨p1, hp1, hL⟩ := loop35 (lo := lo) (h := h) (sp := sp) hlo hsg hsl l [] (.v (.pointer none)) [] hs rfl (by simp; omega)
 rw [List.nil_append, List.nil_append, List.length_nil] at hL
 have k := fun lo hlo => f49 (lo := lo) (p := h) (q := [.iter (bs (encs l)) (encs l).length]) (p0 := p1) (out := textT sg sp l) hlo (textT_by sg sp l) (by omega)
 have ka := k lo hlo; have kb := k h.length (Nat.le_refl _)
 simp only [l35x0, b35, Tryz.f35, loopAt, loops, bodyOf, go_sem, ri_nil, H34, N35, List.cons_append, List.nil_append] at hL
 rw [e35 (by simp) (by rfl)]
 simp only [go_sem, b35, Tryz.f35, hlo, hL, ka, kb]
 all_goals rfl
end
end Go.Lift.R4
end

section
open Go.Proofs
namespace Go.Lift.R4
set_option linter.unusedSectionVars false
variable [MX]
open Utf Tok Spell
set_option maxRecDepth 20000
set_option maxHeartbeats 4000000
set_option linter.unusedSimpArgs false
set_option linter.unusedVariables false
section
variable {lo : Nat} {h : Heap}
noncomputable abbrev X36 (lo N : Nat) : Cx := ⟨Tryz.prog, E, lo, N, h36⟩
theorem upM_le {x : Int} (hx : 1 ≤ x) (hx2 : x ≤ 5) : ∀ (k : Nat) (m r : Int), 0 ≤ m → m ≤ 9223372036854775808 → upM x k m = some r → 0 ≤ r ∧ r ≤ 9223372036854775808
 | 0, m, r, h0, h1, h => by cases h; exact ⟨h0, h1⟩
 | k + 1, m, r, h0, h1, h => by
  simp only [upM] at h
  split at h
  ·cases h
  ·rename_i hb
   unfold big at hb
   have h2 : 0 ≤ m * x := Int.mul_nonneg h0 (by omega)
   have h3 : m * x ≤ m * 5 := Int.mul_le_mul_of_nonneg_left hx2 h0
   exact upM_le hx hx2 k (m * x) r h2 (by omega) h
abbrev I36 (p : Heap) (w : Bool) (q b n a1 a2 i K j : Int) (q0 : Nat) : Env :=
 [(1, .v (.bool w)), (2, .ptr q0 0), (9, .v (.int .i64 b)), (10, .v (.int .u64 n)), (12, .ptr p.length 0), (65, .agg [.v (.int .u64 2), .v (.int .u64 a1), .v (.int .u64 5), .v (.int .u64 a2)]), (66, .v (.int .i64 i)), (70, .v (.int .u64 K)), (71, .v (.int .u64 j))]
theorem loop36i {p : Heap} {N q0 : Nat} {w : Bool} {b a1 a2 i x : Int} {K : Nat} (hlo : lo ≤ p.length) (hx : 1 ≤ x) (hx2 : x ≤ 5) (hK : K ≤ 1000) : ∀ (k j : Nat) (n : Int), j + k = K → 0 ≤ n → n ≤ 9223372036854775808 →
  loopW (evCode (X36 lo N) loopW l36x1) (I36 p w 0 b n a1 a2 i K j q0, p ++ [.cells [.v (.int .u64 x), .v (.int .u64 K)]]) =
   match upM x k n with
   | some r => some (.exit 3, I36 p w 0 b r a1 a2 i K K q0 ++ [(72, .v (.bool false))], p ++ [.cells [.v (.int .u64 x), .v (.int .u64 K)]])
   | none => some (.ret, [(4, .v (.string ⟨#[]⟩)), (5, .v (.int .i64 1))], p ++ [.cells [.v (.int .u64 x), .v (.int .u64 K)]]) := by
 intro k
 induction k with
 | zero =>
  intro j n hj h0 h1
  obtain rfl : j = K := by omega
  have q : decide ((j : Int) < (j : Int)) = false := by simp
  rw [loop_eq]
  simp only [go_sem, l36x1, b36, Tryz.f36, q, upM]
  all_goals rfl
 | succ k ih =>
  intro j n hj h0 h1
  have q : decide ((j : Int) < (K : Int)) = true := by simp; omega
  rw [loop_eq]
  simp only [upM]
  unfold big
  by_cases hb : 1000000000000000000 < n
  ·have q2 : decide (1000000000000000000 < n) = true := by simp [hb]
   rw [if_pos hb]
   simp only [go_sem, l36x1, b36, Tryz.f36, q, q2]
   all_goals rfl
  ·have q2 : decide (1000000000000000000 < n) = false := by simp; omega
   have h2 : 0 ≤ n * x := Int.mul_nonneg h0 (by omega)
   have h3 : n * x ≤ n * 5 := Int.mul_le_mul_of_nonneg_left hx2 h0
   have w1 : IntKind.u64.wrap (n * x) = n * x := wrap_u64 h2 (by omega)
   have w2 : IntKind.u64.wrap ((j : Int) + 1) = ((j + 1 : Nat) : Int) := by rw [wrap_u64 (by omega) (by omega)]; omega
   have b0 : (0 : Int) < ((2 : Nat) : Int) := by omega
   rw [if_neg hb]
   have er : evCode (X36 lo N) loopW l36x1 (I36 p w 0 b n a1 a2 i K j q0, p ++ [.cells [.v (.int .u64 x), .v (.int .u64 K)]]) = some (.normal, I36 p w 0 b (n * x) a1 a2 i K (j + 1 : Nat) q0, p ++ [.cells [.v (.int .u64 x), .v (.int .u64 K)]]) := by
    simp only [go_sem, l36x1, b36, Tryz.f36, q, q2, w1, w2, b0]
    all_goals rfl
   rw [er, loop_n, ih (j + 1) (n * x) (by omega) h2 (by omega)]
abbrev O36 (w : Bool) (q0 : Nat) (b n a1 a2 i : Int) : Env :=
 [(1, .v (.bool w)), (2, .ptr q0 0), (9, .v (.int .i64 b)), (10, .v (.int .u64 n)), (65, .agg [.v (.int .u64 2), .v (.int .u64 a1), .v (.int .u64 5), .v (.int .u64 a2)]), (66, .v (.int .i64 i))]
theorem round36a {p : Heap} {N q0 : Nat} {w : Bool} {b : Int} {K1 K2 : Nat} (hlo : lo ≤ p.length) (hK : K1 ≤ 1000) {n : Int} (h0 : 0 ≤ n) (h1 : n ≤ 9223372036854775808) :
  evCode (X36 lo N) loopW l36x0 (O36 w q0 b n K1 K2 0, p) = match upM 2 K1 n with
   | some r => some (.normal, O36 w q0 b r K1 K2 1, p ++ [.cells [.v (.int .u64 2), .v (.int .u64 K1)]])
   | none => some (.ret, [(4, .v (.string ⟨#[]⟩)), (5, .v (.int .i64 1))], p ++ [.cells [.v (.int .u64 2), .v (.int .u64 K1)]]) := by
 have hL := loop36i (lo := lo) (p := p) (N := N) (q0 := q0) (w := w) (b := b) (a1 := K1) (a2 := K2) (i := 0) (x := 2) hlo (by omega) (by omega) hK K1 0 n (by omega) h0 h1
 have n0 : ((0 : Nat) : Int) = 0 := rfl
 have q : decide ((0 : Int) < 2) = true := rfl
 have b0 : (0 : Int) < ((2 : Nat) : Int) := by omega
 have b1 : (1 : Int) < ((2 : Nat) : Int) := by omega
 have w1 : IntKind.i64.wrap (0 + 1) = 1 := rfl
 simp only [l36x1, b36, Tryz.f36, loopAt, loops, bodyOf, go_sem, n0] at hL
 cases hu : upM 2 K1 n with
 | none =>
  rw [hu] at hL
  simp only [go_sem, l36x0, b36, Tryz.f36, q, b0, b1, hL, hlo]
  all_goals rfl
 | some r =>
  rw [hu] at hL
  simp only [go_sem, l36x0, b36, Tryz.f36, q, b0, b1, w1, hL, hlo]
  all_goals rfl
theorem round36b {p : Heap} {N q0 : Nat} {w : Bool} {b : Int} {K1 K2 : Nat} (hlo : lo ≤ p.length) (hK : K2 ≤ 1000) {n : Int} (h0 : 0 ≤ n) (h1 : n ≤ 9223372036854775808) :
  evCode (X36 lo N) loopW l36x0 (O36 w q0 b n K1 K2 1, p) = match upM 5 K2 n with
   | some r => some (.normal, O36 w q0 b r K1 K2 2, p ++ [.cells [.v (.int .u64 5), .v (.int .u64 K2)]])
   | none => some (.ret, [(4, .v (.string ⟨#[]⟩)), (5, .v (.int .i64 1))], p ++ [.cells [.v (.int .u64 5), .v (.int .u64 K2)]]) := by
 have hL := loop36i (lo := lo) (p := p) (N := N) (q0 := q0) (w := w) (b := b) (a1 := K1) (a2 := K2) (i := 1) (x := 5) hlo (by omega) (by omega) hK K2 0 n (by omega) h0 h1
 have n0 : ((0 : Nat) : Int) = 0 := rfl
 have q : decide ((1 : Int) < 2) = true := rfl
 have b0 : (0 : Int) < ((2 : Nat) : Int) := by omega
 have b1 : (1 : Int) < ((2 : Nat) : Int) := by omega
 have w1 : IntKind.i64.wrap (1 + 1) = 2 := rfl
 simp only [l36x1, b36, Tryz.f36, loopAt, loops, bodyOf, go_sem, n0] at hL
 cases hu : upM 5 K2 n with
 | none =>
  rw [hu] at hL
  simp only [go_sem, l36x0, b36, Tryz.f36, q, b0, b1, hL, hlo]
  all_goals rfl
 | some r =>
  rw [hu] at hL
  simp only [go_sem, l36x0, b36, Tryz.f36, q, b0, b1, w1, hL, hlo]
  all_goals rfl
theorem loop36o {p : Heap} {N q0 : Nat} {w : Bool} {b : Int} {K1 K2 : Nat} (hlo : lo ≤ p.length) (hK1 : K1 ≤ 1000) (hK2 : K2 ≤ 1000) {n : Int} (h0 : 0 ≤ n) (h1 : n ≤ 9223372036854775808) :
  ∃ q : Heap, loopW (evCode (X36 lo N) loopW l36x0) (O36 w q0 b n K1 K2 0, p) = match (upM 2 K1 n).bind (upM 5 K2) with
   | some r => some (.exit 1, O36 w q0 b r K1 K2 2 ++ [(67, .v (.bool false))], p ++ q)
   | none => some (.ret, [(4, .v (.string ⟨#[]⟩)), (5, .v (.int .i64 1))], p ++ q) := by
 rw [loop_eq, round36a hlo hK1 h0 h1]
 cases hu : upM 2 K1 n with
 | none => exact ⟨_, by rw [Option.bind_none, loop_r]⟩
 | some r =>
  obtain ⟨r0, r1⟩ := upM_le (x := 2) (by omega) (by omega) K1 n r h0 h1 hu
  simp only [Option.bind_some]
  rw [loop_n, loop_eq, round36b (by simp; omega) hK2 r0 r1]
  cases hu2 : upM 5 K2 r with
  | none => exact ⟨_, by rw [loop_r, List.append_assoc]⟩
  | some m =>
   refine ⟨[.cells [.v (.int .u64 2), .v (.int .u64 K1)]] ++ [.cells [.v (.int .u64 5), .v (.int .u64 K2)]], ?_⟩
   simp only
   rw [loop_n, loop_eq, List.append_assoc]
   have q : decide ((2 : Int) < 2) = false := rfl
   simp only [go_sem, l36x0, b36, Tryz.f36, q]
   all_goals rfl
theorem fv_le : ∀ (k : Nat) (d : Int), (fv k d).1 ≤ k
 | 0, _ => Nat.le_refl _
 | k + 1, d => by
  simp only [fv]
  split
  ·have := fv_le k (d / 5)
   simp only
   omega
  ·simp
theorem p36a (hlo : lo ≤ h.length) {n d : Int} {w : Bool} (h0 : -9223372036854775808 ≤ n) (h1 : n ≤ 9223372036854775807) (h2 : 1 ≤ d) (h3 : d ≤ 9223372036854775807) (hm : mayR n d = true) (hw : (w && decide (1 < d)) = false) :
  ∃ (q : Heap) (a1 a2 : Int), evL (X36 lo h.length) loopW (pc b36 0 9) (args0 [.agg [.v (.int .i64 n), .v (.int .i64 d)], .v (.bool w)], h) = match progN n.natAbs d with
   | some (m, k) => some (.normal, O36 w h.length k m a1 a2 2 ++ [(67, .v (.bool false))], h ++ .cells [.v (.int .i64 n), .v (.int .i64 d)] :: q)
   | none => some (.ret, [(4, .v (.string ⟨#[]⟩)), (5, .v (.int .i64 1))], h ++ .cells [.v (.int .i64 n), .v (.int .i64 d)] :: q) := by
 have k1 := fun lo h hlo => f93 (lo := lo) (h := h) h0 h1 h3 hlo
 rw [hm] at k1
 have k1 := k1 lo (h ++ [.cells [.v (.int .i64 n), .v (.int .i64 d)]]) (by simp; omega)
 have k2 := fun lo h => f95 (lo := lo) (h := h) (d := d) h2 (by omega)
 have k3 := fun lo h => f96 (lo := lo) (h := h) h0 h1
 have wd : IntKind.u64.wrap d = d := wrap_u64 (by omega) (by omega)
 have qd : (d == 0) = false := by simp; omega
 have hA : Go.Lib.ctz 64 d.toNat ≤ 64 := by
  have hlow := Go.Lib.ctzFrom_spec 64 d.toNat (by omega) (by omega)
  have hctz : Go.Lib.ctz 64 d.toNat = Go.Lib.ctzFrom 64 d.toNat := by unfold Go.Lib.ctz; rw [if_neg (by omega)]
  rw [← hctz] at hlow
  obtain ⟨_, _, h⟩ := hlow
  omega
 have hB := fv_le 64 (d / 2 ^ Go.Lib.ctz 64 d.toNat)
 unfold progN
 simp only
 generalize Go.Lib.ctz 64 d.toNat = A at *
 generalize fv 64 (d / 2 ^ A) = BR at *
 obtain ⟨B, R⟩ := BR
 simp only at k2 hB ⊢
 have pre : ∀ wv : Bool, (wv && decide (1 < d)) = false → True := fun _ _ => trivial
 by_cases hR : R = 1
 rotate_left
 ·have qR : (R == 1) = false := by simp [hR]
  rw [if_neg hR]
  refine ⟨[], 0, 0, ?_⟩
  cases w with
  | true =>
   have q1 : decide (1 < d) = false := by simpa using hw
   simp only [go_sem, b36, Tryz.f36, k1, k2, k3, wd, qd, q1, qR, hlo]
   all_goals rfl
  | false =>
   simp only [go_sem, b36, Tryz.f36, k1, k2, k3, wd, qd, qR, hlo]
   all_goals rfl
 have qR : (R == 1) = true := by simp [hR]
 rw [if_pos hR]
 have mx : (if (A : Int) < (B : Int) then (B : Int) else (A : Int)) = ((max A B : Nat) : Int) := by split <;> omega
 have hmA : A ≤ max A B := by omega
 have hmB : B ≤ max A B := by omega
 have hmM : max A B ≤ 64 := by omega
 generalize max A B = M at *
 have w1 : IntKind.i64.wrap ((M : Int) - A) = ((M - A : Nat) : Int) := by rw [wrap_i64 (by omega) (by omega)]; omega
 have w2 : IntKind.i64.wrap ((M : Int) - B) = ((M - B : Nat) : Int) := by rw [wrap_i64 (by omega) (by omega)]; omega
 have w3 : IntKind.u64.wrap (((M - A : Nat) : Int)) = ((M - A : Nat) : Int) := wrap_u64 (by omega) (by omega)
 have w4 : IntKind.u64.wrap (((M - B : Nat) : Int)) = ((M - B : Nat) : Int) := wrap_u64 (by omega) (by omega)
 obtain ⟨q, hL⟩ := loop36o (lo := lo) (p := h ++ [.cells [.v (.int .i64 n), .v (.int .i64 d)]]) (N := h.length) (q0 := h.length) (w := w) (b := M) (K1 := M - A) (K2 := M - B) (by simp; omega) (by omega) (by omega) (n := n.natAbs) (by omega) (by omega)
 refine ⟨q, ((M - A : Nat) : Int), ((M - B : Nat) : Int), ?_⟩
 simp only [l36x0, b36, Tryz.f36, loopAt, loops, bodyOf, go_sem] at hL
 cases hu : (upM 2 (M - A) (n.natAbs : Int)).bind (upM 5 (M - B)) with
 | none =>
  rw [hu] at hL
  cases w with
  | true =>
   have q1 : decide (1 < d) = false := by simpa using hw
   simp only [go_sem, b36, Tryz.f36, k1, k2, k3, wd, qd, q1, qR, mx, w1, w2, w3, w4, hL, hlo, Option.map_none]
   all_goals rfl
  | false =>
   simp only [go_sem, b36, Tryz.f36, k1, k2, k3, wd, qd, qR, mx, w1, w2, w3, w4, hL, hlo, Option.map_none]
   all_goals rfl
 | some m =>
  rw [hu] at hL
  cases w with
  | true =>
   have q1 : decide (1 < d) = false := by simpa using hw
   simp only [go_sem, b36, Tryz.f36, k1, k2, k3, wd, qd, q1, qR, mx, w1, w2, w3, w4, hL, hlo, Option.map_some]
   all_goals rfl
  | false =>
   simp only [go_sem, b36, Tryz.f36, k1, k2, k3, wd, qd, qR, mx, w1, w2, w3, w4, hL, hlo, Option.map_some]
   all_goals rfl
end
end Go.Lift.R4
end
