/- spell.code: a character written by its number. -/
import Derived.Test.YtehffjejplpaeaaDoorGKa
import Derived.Test.YtehffjejplpaeaaDoorGK8Basea
import Derived.Test.YtehffjejplpaeaaDoorGKc
import Derived.Test.YtehffjejplpaeaaDoorGKd
set_option linter.unusedVariables false
set_option linter.unusedSimpArgs false
set_option linter.unusedSectionVars false
section
open Go.Proofs
namespace Go.Lift.D7
variable [MX]
open Utf Tok Spell
set_option maxRecDepth 20000
set_option maxHeartbeats 4000000
section
variable {lo : Nat} {h : Heap}
theorem bs_hex : (⟨#[48, 49, 50, 51, 52, 53, 54, 55, 56, 57, 97, 98, 99, 100, 101, 102]⟩ : ByteArray) = bs hexS := rfl
theorem by_hex : By hexS := by decide
theorem wrap_i32' {n : Int} (h0 : -2147483648 ≤ n) (h1 : n ≤ 2147483647) : IntKind.i32.wrap n = n := by
 simp only [IntKind.wrap, IntKind.signed, IntKind.bits]
 simp
 omega
theorem loop52a : ∀ (k : Nat) (r : Int) (out : List Int), 0 ≤ r → r < 16 ^ k → r ≤ 2147483647 → out.length + k ≤ 1000 →
  loopW (evCode ⟨Tryd.prog, E, lo, h.length, h52⟩ loopW l52x0) ([(0, .v (.int .i32 r)), (3, .list .yes (ri .u8 out))], h) =
   some (.exit 0, [(0, .v (.int .i32 0)), (3, .list .yes (ri .u8 (out ++ rdN k r))), (7, .v (.bool false))], h) := by
 intro k
 induction k with
 | zero =>
  intro r out h0 h1 _ _
  obtain rfl : r = 0 := by simp at h1; omega
  have q : decide ((0 : Int) < 0) = false := rfl
  rw [loop_eq, rdN, List.append_nil]
  simp only [go_sem, l52x0, b52, Tryd.f52, q]
  all_goals rfl
 | succ k ih =>
  intro r out h0 h1 h2 h3
  by_cases hr : r ≤ 0
  ·obtain rfl : r = 0 := by omega
   have q : decide ((0 : Int) < 0) = false := rfl
   rw [loop_eq, rdN, if_pos (by omega), List.append_nil]
   simp only [go_sem, l52x0, b52, Tryd.f52, q]
   all_goals rfl
  ·have q : decide (0 < r) = true := by simp; omega
   have t1 : r.tmod 16 = r % 16 := Int.tmod_eq_emod_of_nonneg (by omega)
   have t2 : r.tdiv 16 = r / 16 := Int.tdiv_eq_ediv_of_nonneg (by omega)
   have z : ¬ ((16 : Int) = 0) := by omega
   have w1 : IntKind.i32.wrap (r % 16) = r % 16 := wrap_i32' (by omega) (by omega)
   have w2 : IntKind.i32.wrap (r / 16) = r / 16 := wrap_i32' (by omega) (by omega)
   have hi := bs_ix by_hex (r % 16).toNat
   rw [hexS_at (by omega) (by omega)] at hi
   have hn : 0 ≤ r % 16 := by omega
   have hr1 : ∀ k, k ≤ 4 → (out.length + k) * 1 ≤ 140737488355328 := by intro k hk; omega
   have hq : ∀ k, 9223372036854775800 ≤ k → out.length ≤ k := by intro k hk; omega
   have e : ri .u8 out ++ [[V.v (.int .u8 (hexD (r % 16)))]] = ri .u8 (out ++ [hexD (r % 16)]) := by rw [← ri_app]; rfl
   have er : evCode ⟨Tryd.prog, E, lo, h.length, h52⟩ loopW l52x0 ([(0, .v (.int .i32 r)), (3, .list .yes (ri .u8 out))], h) = some (.normal, [(0, .v (.int .i32 (r / 16))), (3, .list .yes (ri .u8 (out ++ [hexD (r % 16)])))], h) := by
    simp only [go_sem, l52x0, b52, Tryd.f52, q, t1, t2, z, w1, w2, bs_hex, hi, hn, hr1, hq, e]
    all_goals rfl
   rw [loop_eq, er, loop_n, ih (r / 16) _ (by omega) (by rw [Int.pow_succ] at h1; omega) (by omega) (by simp; omega), rdN, if_neg hr, List.append_assoc]
   rfl
theorem loop52b {b : List Int} (hlo : lo ≤ h.length) (hb : b.length ≤ 1000) : ∀ (n : Nat) (out : List Int), n ≤ b.length → out.length + n ≤ 2000 →
  loopW (evCode ⟨Tryd.prog, E, lo, h.length, h52⟩ loopW l52x1) ([(3, .list .yes (ri .u8 b)), (4, .ptr h.length 0), (5, .v (.int .i64 ((n : Int) - 1)))], h ++ [.cells [.ptr h.length 0, .list .yes (ri .u8 out)]]) =
   some (.exit 2, [(3, .list .yes (ri .u8 b)), (4, .ptr h.length 0), (5, .v (.int .i64 (-1))), (21, .v (.bool false))], h ++ [.cells [.ptr h.length 0, .list .yes (ri .u8 (out ++ (b.take n).reverse))]]) := by
 intro n
 induction n with
 | zero =>
  intro out h1 h2
  have e : ((0 : Nat) : Int) - 1 = -1 := rfl
  have q : decide ((0 : Int) ≤ -1) = false := rfl
  rw [loop_eq, e]
  simp only [go_sem, l52x1, b52, Tryd.f52, q, List.take_zero, List.reverse_nil, List.append_nil]
  all_goals rfl
 | succ n ih =>
  intro out h1 h2
  have e : ((n + 1 : Nat) : Int) - 1 = (n : Int) := by omega
  have q : decide ((0 : Int) ≤ (n : Int)) = true := by simp
  have hg : b[n]? = some b[n] := List.getElem?_eq_getElem (by omega)
  have ht : b.take (n + 1) = b.take n ++ [b[n]] := List.take_succ_eq_append_getElem (by omega)
  have w1 : IntKind.i64.wrap ((n : Int) - 1) = (n : Int) - 1 := wrap_i64 (by omega) (by omega)
  generalize b[n] = x at *
  have k := f56 (lo := lo) (p := h) (q := []) (p0 := .ptr h.length 0) (out := out) hlo ok_self (c := x) (by omega)
  have k2 := f56 (lo := h.length) (p := h) (q := []) (p0 := .ptr h.length 0) (out := out) (Nat.le_refl _) ok_self (c := x) (by omega)
  have er : evCode ⟨Tryd.prog, E, lo, h.length, h52⟩ loopW l52x1 ([(3, .list .yes (ri .u8 b)), (4, .ptr h.length 0), (5, .v (.int .i64 (n : Int)))], h ++ [.cells [.ptr h.length 0, .list .yes (ri .u8 out)]]) =
    some (.normal, [(3, .list .yes (ri .u8 b)), (4, .ptr h.length 0), (5, .v (.int .i64 ((n : Int) - 1)))], h ++ [.cells [.ptr h.length 0, .list .yes (ri .u8 (out ++ [x]))]]) := by
   simp only [go_sem, l52x1, b52, Tryd.f52, q, hg, w1, k, k2]
   all_goals rfl
  rw [loop_eq, e, er, loop_n, ih _ (by omega) (by simp; omega), ht, List.reverse_append, List.append_assoc]
  rfl
theorem f52 (hlo : lo ≤ h.length) {r : Int} (h0 : 0 ≤ r) (h1 : r ≤ 2147483647) : E lo 52 [.v (.int .i32 r)] h = some (.v (.string (bs (codeT r))), h) := by
 have hA := loop52a (lo := lo) (h := h) 8 r [] h0 (by
                            have : (16 : Int) ^ 8 = 4294967296 := by decide
                            omega) h1 (by simp)
 have hlen := rdN_len 8 r
 generalize hR : rdN 8 r = R at *
 have hby : By R := hR ▸ rdN_by 8 r
 have hB := loop52b (lo := lo) (h := h) (b := R) hlo (by omega) R.length [92] (Nat.le_refl _) (by simp; omega)
 rw [List.take_length] at hB
 simp only [l52x0, b52, Tryd.f52, loopAt, loops, bodyOf, go_sem, ri_nil] at hA
 simp only [l52x1, b52, Tryd.f52, loopAt, loops, bodyOf, go_sem] at hB
 have k1 := fun lo hlo => f56 (lo := lo) (p := h) (q := []) (p0 := .v (.pointer none)) (out := []) hlo (ok_nil _) (c := 92) (by simp)
 have k2 := fun lo hlo => f56 (lo := lo) (p := h) (q := []) (p0 := .ptr h.length 0) (out := 92 :: R.reverse) hlo ok_self (c := 32) (by simp; omega)
 have k3 := fun lo hlo => f21 (lo := lo) (p := h) (q := []) (p0 := .ptr h.length 0) (out := codeT r) hlo (codeT_by r) (by have := codeT_len r; omega)
 have ec : 92 :: R.reverse ++ [32] = codeT r := by unfold codeT; rw [hR]; simp
 rw [ec] at k2
 have k1a := k1 lo hlo; have k1b := k1 h.length (Nat.le_refl _)
 have k2a := k2 lo hlo; have k2b := k2 h.length (Nat.le_refl _)
 have k3a := k3 lo hlo; have k3b := k3 h.length (Nat.le_refl _)
 have w1 : IntKind.i64.wrap ((R.length : Int) - 1) = (R.length : Int) - 1 := wrap_i64 (by omega) (by omega)
 rw [ri_nil, List.nil_append] at k1a k1b
 rw [e52 (by simp) (by rfl)]
 simp only [go_sem, b52, Tryd.f52, hA, k1a, k1b, w1, hB, k2a, k2b, k3a, k3b]
 all_goals rfl
end
end Go.Lift.D7
end

section
open Go.Proofs
namespace Go.Lift.D7
variable [MX]
open Utf Tok Spell
set_option maxRecDepth 20000
set_option maxHeartbeats 4000000
section
variable {lo : Nat} {h : Heap} {c : Int}
theorem f53 : E lo 53 [.v (.int .i32 c)] h = some (.v (.bool (hidT c)), h) := by
 rw [e53 (by simp) (by rfl)]
 simp only [go_sem, b53, Tryd.f53, hidT]
theorem dig86 : E lo 48 [.v (.int .i32 c)] h = some (.v (.bool (dig c)), h) := by
 rw [e48 (by simp) (by rfl)]
 simp only [go_sem, b48, Tryd.f48, dig]
theorem f54 : E lo 54 [.v (.int .i32 c)] h = some (.v (.bool (ltr c)), h) := by
 have hc : (97 ≤ c ∧ c ≤ 122) ∨ (65 ≤ c ∧ c ≤ 90) ∨ (c = 95) ∨ (c = 45) ∨ (128 ≤ c) ∨ (c < 65 ∧ c ≠ 45) ∨ (91 ≤ c ∧ c ≤ 96 ∧ c ≠ 95) ∨ (123 ≤ c ∧ c ≤ 127) := by omega
 rw [e54 (by simp) (by rfl)]
 rcases hc with hc | hc | hc | hc | hc | hc | hc | hc
 ·have q1 : decide (97 ≤ c) = true := by simp; omega
  have q2 : decide (c ≤ 122) = true := by simp; omega
  have e : ltr c = true := by unfold ltr fst1; simp; omega
  rw [e]
  simp only [go_sem, b54, Tryd.f54, dig86, q1, q2]
  all_goals rfl
 ·have q1 : decide (97 ≤ c) = false := by simp; omega
  have q3 : decide (65 ≤ c) = true := by simp; omega
  have q4 : decide (c ≤ 90) = true := by simp; omega
  have e : ltr c = true := by unfold ltr fst1; simp; omega
  rw [e]
  simp only [go_sem, b54, Tryd.f54, dig86, q1, q3, q4]
  all_goals rfl
 ·have q1 : decide (97 ≤ c) = false := by simp; omega
  have q3 : decide (65 ≤ c) = true := by simp; omega
  have q4 : decide (c ≤ 90) = false := by simp; omega
  have q5 : (c == 95) = true := by simp; omega
  have e : ltr c = true := by unfold ltr fst1; simp; omega
  rw [e]
  simp only [go_sem, b54, Tryd.f54, dig86, q1, q3, q4, q5]
  all_goals rfl
 ·have q1 : decide (97 ≤ c) = false := by simp; omega
  have q3 : decide (65 ≤ c) = false := by simp; omega
  have q5 : (c == 95) = false := by simp; omega
  have q6 : (c == 45) = true := by simp; omega
  have e : ltr c = true := by unfold ltr fst1; simp; omega
  rw [e]
  simp only [go_sem, b54, Tryd.f54, dig86, q1, q3, q5, q6]
  all_goals rfl
 ·have q1 : decide (97 ≤ c) = true := by simp; omega
  have q2 : decide (c ≤ 122) = false := by simp; omega
  have q3 : decide (65 ≤ c) = true := by simp; omega
  have q4 : decide (c ≤ 90) = false := by simp; omega
  have q5 : (c == 95) = false := by simp; omega
  have q6 : (c == 45) = false := by simp; omega
  have q7 : decide (128 ≤ c) = true := by simp; omega
  have e : ltr c = true := by unfold ltr fst1; simp; omega
  rw [e]
  simp only [go_sem, b54, Tryd.f54, dig86, q1, q2, q3, q4, q5, q6, q7]
  all_goals rfl
 ·have q1 : decide (97 ≤ c) = false := by simp; omega
  have q3 : decide (65 ≤ c) = false := by simp; omega
  have q5 : (c == 95) = false := by simp; omega
  have q6 : (c == 45) = false := by simp; omega
  have q7 : decide (128 ≤ c) = false := by simp; omega
  have e : ltr c = dig c := by unfold ltr fst1; cases hd : dig c <;> simp <;> omega
  rw [e]
  simp only [go_sem, b54, Tryd.f54, dig86, q1, q3, q5, q6, q7]
  all_goals rfl
 ·have q1 : decide (97 ≤ c) = false := by simp; omega
  have q3 : decide (65 ≤ c) = true := by simp; omega
  have q4 : decide (c ≤ 90) = false := by simp; omega
  have q5 : (c == 95) = false := by simp; omega
  have q6 : (c == 45) = false := by simp; omega
  have q7 : decide (128 ≤ c) = false := by simp; omega
  have e : ltr c = dig c := by unfold ltr fst1; cases hd : dig c <;> simp <;> omega
  rw [e]
  simp only [go_sem, b54, Tryd.f54, dig86, q1, q3, q4, q5, q6, q7]
  all_goals rfl
 ·have q1 : decide (97 ≤ c) = true := by simp; omega
  have q2 : decide (c ≤ 122) = false := by simp; omega
  have q3 : decide (65 ≤ c) = true := by simp; omega
  have q4 : decide (c ≤ 90) = false := by simp; omega
  have q5 : (c == 95) = false := by simp; omega
  have q6 : (c == 45) = false := by simp; omega
  have q7 : decide (128 ≤ c) = false := by simp; omega
  have e : ltr c = dig c := by unfold ltr fst1; cases hd : dig c <;> simp <;> omega
  rw [e]
  simp only [go_sem, b54, Tryd.f54, dig86, q1, q2, q3, q4, q5, q6, q7]
  all_goals rfl
end
theorem bs_get {L : List Int} {i : Nat} {c : Int} (h : L[i]? = some c) (h0 : 0 ≤ c) (h1 : c ≤ 255) : ((bs L).get! i).toNat = c.toNat := by
 have hi : i < L.length := (List.getElem?_eq_some_iff.1 h).1
 have hg : (u8s L)[i]? = some (UInt8.ofNat c.toNat) := by simp [u8s, h]
 have : (bs L).get! i = UInt8.ofNat c.toNat := by
  show (u8s L).toArray[i]! = _
  simp only [List.getElem!_toArray]
  rw [List.getElem!_eq_getElem?_getD, hg]
  rfl
 rw [this]
 simp only [UInt8.toNat_ofNat']
 omega
theorem dec1 {s : ByteArray} {i b0 : Nat} (g0 : (s.get! i).toNat = b0) (h : b0 < 128) : Utf8.decode s i = (b0, 1) := by
 have g0' : (s.get! (i + 0)).toNat = b0 := g0
 unfold Utf8.decode
 simp only [g0', h, if_true]
theorem dec2 {s : ByteArray} {i b0 b1 : Nat} (g0 : (s.get! i).toNat = b0) (g1 : (s.get! (i + 1)).toNat = b1) (hs : i + 1 < s.size) (h0 : b0 / 32 = 6) (h1 : b1 / 64 = 2) (hc : 128 ≤ b0 % 32 * 64 + b1 % 64) :
  Utf8.decode s i = (b0 % 32 * 64 + b1 % 64, 2) := by
 have g0' : (s.get! (i + 0)).toNat = b0 := g0
 have hn : ¬ b0 < 128 := by omega
 unfold Utf8.decode
 simp only [g0', g1, hn, h0, h1, hs, hc, decide_true, if_true, if_false, Bool.and_self, BEq.rfl, ge_iff_le, Nat.reduceBEq]
theorem dec3 {s : ByteArray} {i b0 b1 b2 : Nat} (g0 : (s.get! i).toNat = b0) (g1 : (s.get! (i + 1)).toNat = b1) (g2 : (s.get! (i + 2)).toNat = b2) (hs : i + 2 < s.size) (h0 : b0 / 16 = 14) (h1 : b1 / 64 = 2) (h2 : b2 / 64 = 2)
  (hc : 2048 ≤ b0 % 16 * 4096 + b1 % 64 * 64 + b2 % 64) (hv : Utf8.valid ((b0 % 16 * 4096 + b1 % 64 * 64 + b2 % 64 : Nat) : Int) = true) :
  Utf8.decode s i = (b0 % 16 * 4096 + b1 % 64 * 64 + b2 % 64, 3) := by
 have g0' : (s.get! (i + 0)).toNat = b0 := g0
 have hn : ¬ b0 < 128 := by omega
 have hn2 : (b0 / 32 == 6) = false := by simp; omega
 have hs1 : i + 1 < s.size := by omega
 unfold Utf8.decode
 simp only [g0', g1, g2, hn, hn2, h0, h1, h2, hs, hs1, hc, hv, decide_true, if_true, if_false, Bool.and_self, Bool.false_and, Bool.false_eq_true, BEq.rfl, ge_iff_le, Nat.reduceBEq]
theorem dec4 {s : ByteArray} {i b0 b1 b2 b3 : Nat} (g0 : (s.get! i).toNat = b0) (g1 : (s.get! (i + 1)).toNat = b1) (g2 : (s.get! (i + 2)).toNat = b2) (g3 : (s.get! (i + 3)).toNat = b3) (hs : i + 3 < s.size) (h0 : b0 / 8 = 30) (h1 : b1 / 64 = 2) (h2 : b2 / 64 = 2) (h3 : b3 / 64 = 2)
  (hc : 65536 ≤ b0 % 8 * 262144 + b1 % 64 * 4096 + b2 % 64 * 64 + b3 % 64) (hv : Utf8.valid ((b0 % 8 * 262144 + b1 % 64 * 4096 + b2 % 64 * 64 + b3 % 64 : Nat) : Int) = true) :
  Utf8.decode s i = (b0 % 8 * 262144 + b1 % 64 * 4096 + b2 % 64 * 64 + b3 % 64, 4) := by
 have g0' : (s.get! (i + 0)).toNat = b0 := g0
 have hn : ¬ b0 < 128 := by omega
 have hn2 : (b0 / 32 == 6) = false := by simp; omega
 have hn3 : (b0 / 16 == 14) = false := by simp; omega
 have hs1 : i + 1 < s.size := by omega
 have hs2 : i + 2 < s.size := by omega
 unfold Utf8.decode
 simp only [g0', g1, g2, g3, hn, hn2, hn3, h0, h1, h2, h3, hs, hs1, hs2, hc, hv, decide_true, if_true, if_false, Bool.and_self, Bool.false_and, Bool.false_eq_true, BEq.rfl, ge_iff_le, Nat.reduceBEq]
theorem dec_enc {pre rest : List Int} {x : Int} (hs : scal x = x) : Utf8.decode (bs (pre ++ (enc x ++ rest))) pre.length = (x.toNat, (enc x).length) := by
 obtain ⟨h0, h1, h2⟩ := (scal_iff x).1 hs
 have hsz : (bs (pre ++ (enc x ++ rest))).size = pre.length + ((enc x).length + rest.length) := by rw [bs_size]; simp
 have hb := enc_by x h0 h1
 have hget : ∀ (k : Nat) (c : Int), (enc x)[k]? = some c → ((bs (pre ++ (enc x ++ rest))).get! (pre.length + k)).toNat = c.toNat := fun k c hk => by
  have := hb c (List.mem_of_getElem? hk)
  refine bs_get ?_ this.1 this.2
  rw [List.getElem?_append_right (by omega), Nat.add_sub_cancel_left, List.getElem?_append_left (List.getElem?_eq_some_iff.1 hk).1]
  exact hk
 generalize bs (pre ++ (enc x ++ rest)) = s at *
 generalize pre.length = i at *
 obtain ⟨n, rfl⟩ : ∃ n : Nat, x = n := ⟨x.toNat, by omega⟩
 have hn : ((n : Int)).toNat = n := by omega
 rw [hn]
 by_cases c1 : (n : Int) < 128
 ·have e : enc (n : Int) = [(n : Int)] := by unfold enc; rw [if_pos c1]
  rw [e] at hget ⊢
  exact dec1 (by have := hget 0 _ rfl; simpa using this) (by omega)
 ·by_cases c2 : (n : Int) < 2048
  ·have e : enc (n : Int) = [192 + (n : Int) / 64, 128 + (n : Int) % 64] := by unfold enc; rw [if_neg c1, if_pos c2]
   rw [e] at hget hsz ⊢
   have g0 := hget 0 _ rfl
   have g1 := hget 1 _ rfl
   have d := dec2 (s := s) (i := i) g0 g1 (by rw [hsz]; simp; omega) (by omega) (by omega) (by omega)
   rw [d]
   simp
   omega
  ·by_cases c3 : (n : Int) < 65536
   ·have e : enc (n : Int) = [224 + (n : Int) / 4096, 128 + (n : Int) / 64 % 64, 128 + (n : Int) % 64] := by unfold enc; rw [if_neg c1, if_neg c2, if_pos c3]
    rw [e] at hget hsz ⊢
    have g0 := hget 0 _ rfl
    have g1 := hget 1 _ rfl
    have g2 := hget 2 _ rfl
    have ev : (224 + (n : Int) / 4096).toNat % 16 * 4096 + (128 + (n : Int) / 64 % 64).toNat % 64 * 64 + (128 + (n : Int) % 64).toNat % 64 = n := by omega
    have d := dec3 (s := s) (i := i) g0 g1 g2 (by rw [hsz]; simp; omega) (by omega) (by omega) (by omega) (by omega) (by rw [ev]; simp [Utf8.valid]; omega)
    rw [d, ev]
    rfl
   ·have e : enc (n : Int) = [240 + (n : Int) / 262144, 128 + (n : Int) / 4096 % 64, 128 + (n : Int) / 64 % 64, 128 + (n : Int) % 64] := by unfold enc; rw [if_neg c1, if_neg c2, if_neg c3]
    rw [e] at hget hsz ⊢
    have g0 := hget 0 _ rfl
    have g1 := hget 1 _ rfl
    have g2 := hget 2 _ rfl
    have g3 := hget 3 _ rfl
    have ev : (240 + (n : Int) / 262144).toNat % 8 * 262144 + (128 + (n : Int) / 4096 % 64).toNat % 64 * 4096 + (128 + (n : Int) / 64 % 64).toNat % 64 * 64 + (128 + (n : Int) % 64).toNat % 64 = n := by omega
    have d := dec4 (s := s) (i := i) g0 g1 g2 g3 (by rw [hsz]; simp; omega) (by omega) (by omega) (by omega) (by omega) (by omega) (by rw [ev]; simp [Utf8.valid]; omega)
    rw [d, ev]
    rfl
end Go.Lift.D7
end

section
open Go.Proofs
namespace Go.Lift.D7
variable [MX]
open Utf Tok Spell
set_option maxRecDepth 20000
set_option maxHeartbeats 4000000
section
variable {lo : Nat} {h : Heap} {done : List Int} {p0 : V} {out : List Int} {x : Int} {s : ByteArray} {pos : Nat}
abbrev H34 (h : Heap) (p0 : V) (out : List Int) (s : ByteArray) (pos : Nat) : Heap := h ++ [.cells [p0, .list .yes (ri .u8 out)], .iter s pos]
theorem round43 (hlo : lo ≤ h.length) (hp : okP h.length p0 = true) (hx0 : 0 ≤ x) (hx1 : x ≤ 1114111) (hpos : pos < s.size) (hdec : Utf8.decode s pos = (x.toNat, (enc (scal x)).length)) (hl : out.length ≤ 900000000) :
  evCode ⟨Tryd.prog, E, lo, h.length, h43⟩ loopW l43x0 ([(3, .ptr h.length 0), (7, .ptr (h.length + 1) 0)], H34 h p0 out s pos) =
   some (.normal, [(3, .ptr h.length 0), (7, .ptr (h.length + 1) 0)], H34 h (.ptr h.length 0) (out ++ nameC x) s (pos + (enc (scal x)).length)) := by
 have hlo1 : lo ≤ h.length + 1 := by omega
 have hxn : ((x.toNat : Nat) : Int) = x := by omega
 have hcl := codeT_len x
 have hel := enc_len (scal x)
 have c87 := fun lo hlo => f52 (lo := lo) (h := H34 h p0 out s (pos + (enc (scal x)).length)) hlo hx0 (r := x) (by omega)
 have c87a := c87 lo (by simp; omega)
 have c87b := c87 h.length (by simp)
 have c87c := c87 (h.length + 2) (by simp)
 have c48 := fun lo hlo => f19 (lo := lo) (p := h) (q := [.iter s (pos + (enc (scal x)).length)]) (p0 := p0) (out := out) hlo hp (s := codeT x) (codeT_by x) (by omega) (by omega)
 have c90 := fun lo hlo => f55 (lo := lo) (p := h) (q := [.iter s (pos + (enc (scal x)).length)]) (p0 := p0) (out := out) hlo hp (r := x) (by omega) (by omega) (by omega)
 have c91 := fun lo hlo => f56 (lo := lo) (p := h) (q := [.iter s (pos + (enc (scal x)).length)]) (p0 := p0) (out := out) hlo hp (c := 92) (by omega)
 have c92 := fun lo hlo => f55 (lo := lo) (p := h) (q := [.iter s (pos + (enc (scal x)).length)]) (p0 := .ptr h.length 0) (out := out ++ [92]) hlo ok_self (r := x) (by omega) (by omega) (by simp; omega)
 have c48a := c48 lo hlo; have c48b := c48 h.length (Nat.le_refl _)
 have c90a := c90 lo hlo; have c90b := c90 h.length (Nat.le_refl _)
 have c91a := c91 lo hlo; have c91b := c91 h.length (Nat.le_refl _)
 have c92a := c92 lo hlo; have c92b := c92 h.length (Nat.le_refl _)
 clear c87 c48 c90 c91 c92
 have e1 : (Utf8.decode s pos).1 = x.toNat := by rw [hdec]
 have e2 : (Utf8.decode s pos).2 = (enc (scal x)).length := by rw [hdec]
 have k88 := fun lo h => f53 (lo := lo) (h := h) (c := x)
 have k89 := fun lo h => f54 (lo := lo) (h := h) (c := x)
 unfold nameC
 cases qh : hidT x with
 | true =>
  rw [qh] at k88
  simp only [go_sem, l43x0, b43, Tryd.f43, hlo, hlo1, hpos, e1, e2, hxn, k88, c87a, c87b, c87c, c48a, c48b, if_true]
  all_goals rfl
 | false =>
  rw [qh] at k88
  cases ql : ltr x with
  | true =>
   rw [ql] at k89
   simp only [go_sem, l43x0, b43, Tryd.f43, hlo, hlo1, hpos, e1, e2, hxn, k88, k89, c90a, c90b, if_true, Bool.false_eq_true, if_false]
   all_goals rfl
  | false =>
   rw [ql] at k89
   have e3 : out ++ [92] ++ enc (scal x) = out ++ 92 :: enc (scal x) := by simp
   rw [e3] at c92a c92b
   simp only [go_sem, l43x0, b43, Tryd.f43, hlo, hlo1, hpos, e1, e2, hxn, k88, k89, c91a, c91b, c92a, c92b, Bool.false_eq_true, if_false]
   all_goals rfl
theorem stop43 (hlo : lo ≤ h.length) (hpos : ¬ pos < s.size) :
  loopW (evCode ⟨Tryd.prog, E, lo, h.length, h43⟩ loopW l43x0) ([(3, .ptr h.length 0), (7, .ptr (h.length + 1) 0)], H34 h p0 out s pos) =
   some (.exit 0, [(3, .ptr h.length 0), (7, .ptr (h.length + 1) 0), (8, .tup [.v (.bool false)]), (9, .v (.bool false))], H34 h p0 out s pos) := by
 have hlo1 : lo ≤ h.length + 1 := by omega
 rw [loop_eq]
 simp only [go_sem, l43x0, b43, Tryd.f43, hlo, hlo1, hpos]
 all_goals rfl
theorem loop43 (hlo : lo ≤ h.length) : ∀ (l : List Int) (done : List Int) (p0 : V) (out : List Int), (∀ x ∈ l, scal x = x) → okP h.length p0 = true → out.length + 10 * l.length ≤ 900000000 →
  ∃ p1, okP h.length p1 = true ∧ loopW (evCode ⟨Tryd.prog, E, lo, h.length, h43⟩ loopW l43x0) ([(3, .ptr h.length 0), (7, .ptr (h.length + 1) 0)], H34 h p0 out (bs (done ++ encs l)) done.length) =
   some (.exit 0, [(3, .ptr h.length 0), (7, .ptr (h.length + 1) 0), (8, .tup [.v (.bool false)]), (9, .v (.bool false))], H34 h p1 (out ++ nameT l) (bs (done ++ encs l)) (done ++ encs l).length) := by
 intro l
 induction l with
 | nil =>
  intro done p0 out _ hp _
  refine ⟨p0, hp, ?_⟩
  have e : done ++ encs [] = done := by simp [encs]
  rw [e, stop43 hlo (by rw [bs_size]; omega)]
  simp [nameT]
 | cons x l ih =>
  intro done p0 out hs hp hl
  have hx := hs x (by simp)
  have hx2 := scal_in x
  rw [hx] at hx2
  have hel := enc_len x
  have hcl := nameC_len x
  have hdec := dec_enc (pre := done) (rest := encs l) hx
  have e1 : encs (x :: l) = enc x ++ encs l := by rw [encs_cons, hx]
  have e2 : done ++ encs (x :: l) = (done ++ enc x) ++ encs l := by rw [e1, List.append_assoc]
  simp only [List.length_cons] at hl
  obtain ⟨p1, hp1, hL⟩ := ih (done ++ enc x) (.ptr h.length 0) (out ++ nameC x) (fun y hy => hs y (by simp [hy])) ok_self (by simp; omega)
  refine ⟨p1, hp1, ?_⟩
  rw [e1, ← List.append_assoc]
  rw [← List.append_assoc] at hdec
  rw [loop_eq, round43 hlo hp hx2.1 hx2.2 (by rw [bs_size]; simp; omega) (by rw [hdec, hx]) (by omega), loop_n, hx]
  have e3 : done.length + (enc x).length = (done ++ enc x).length := by simp
  rw [e3, hL, nameT_cons, List.append_assoc]
theorem f43 (hlo : lo ≤ h.length) {l : List Int} (hs : ∀ x ∈ l, scal x = x) (hl : l.length ≤ 10000000) : E lo 43 [.v (.string (bs (encs l)))] h = some (.v (.string (bs (nameT l))), h) := by
 have hlen := nameT_len l
 obtain ⟨p1, hp1, hL⟩ := loop43 (lo := lo) (h := h) hlo l [] (.v (.pointer none)) [] hs rfl (by simp; omega)
 rw [List.nil_append, List.nil_append, List.length_nil] at hL
 have k := fun lo hlo => f21 (lo := lo) (p := h) (q := [.iter (bs (encs l)) (encs l).length]) (p0 := p1) (out := nameT l) hlo (nameT_by l) (by omega)
 have ka := k lo hlo; have kb := k h.length (Nat.le_refl _)
 simp only [l43x0, b43, Tryd.f43, loopAt, loops, bodyOf, go_sem, ri_nil, H34] at hL
 rw [e43 (by simp) (by rfl)]
 simp only [go_sem, b43, Tryd.f43, hlo, hL, ka, kb]
 all_goals rfl
end
end Go.Lift.D7
end

section
open Go.Proofs
namespace Go.Lift.D7
variable [MX]
open Utf Tok Spell
set_option maxRecDepth 20000
set_option maxHeartbeats 4000000
section
variable {lo : Nat} {h : Heap}
theorem bs_92 : (⟨#[92]⟩ : ByteArray) = bs [92] := rfl
end
end Go.Lift.D7
end

section
namespace Go.Lift.Spell
open Utf Tok
theorem by_nil : By [] := fun c hc => by cases hc
theorem by_app {a b : List Int} (ha : By a) (hb : By b) : By (a ++ b) := fun c hc => by
 rcases List.mem_append.1 hc with h | h
 ·exact ha c h
 ·exact hb c h
theorem by_cons {x : Int} {b : List Int} (h0 : 0 ≤ x) (h1 : x ≤ 255) (hb : By b) : By (x :: b) := fun c hc => by
 rcases List.mem_cons.1 hc with rfl | h
 ·exact ⟨h0, h1⟩
 ·exact hb c h
def textC (sg : List Int) (sp : Bool) (x : Int) : List Int :=
 if (hidT x || (sp && x == 32)) = true then codeT x else if sg.contains x = true then 92 :: enc (scal x) else enc (scal x)
def textT (sg : List Int) (sp : Bool) : List Int → List Int
 | [] => []
 | x :: l => textC sg sp x ++ textT sg sp l
theorem textC_len (sg : List Int) (sp : Bool) (x : Int) : (textC sg sp x).length ≤ 10 := by
 unfold textC
 have := enc_len (scal x)
 split
 ·exact codeT_len x
 ·split
  ·simp; omega
  ·omega
theorem enc_scal_by (x : Int) : By (enc (scal x)) := by
 have hs := scal_in x
 exact enc_by (scal x) hs.1 hs.2
theorem textC_by (sg : List Int) (sp : Bool) (x : Int) : By (textC sg sp x) := by
 unfold textC
 split
 ·exact codeT_by x
 ·split
  ·exact by_cons (by omega) (by omega) (enc_scal_by x)
  ·exact enc_scal_by x
theorem textT_len (sg : List Int) (sp : Bool) : ∀ l : List Int, (textT sg sp l).length ≤ 10 * l.length
 | [] => by simp [textT]
 | x :: l => by
  have := textC_len sg sp x
  have := textT_len sg sp l
  simp only [textT, List.length_append, List.length_cons]
  omega
theorem textT_by (sg : List Int) (sp : Bool) : ∀ l : List Int, By (textT sg sp l)
 | [] => by_nil
 | x :: l => by_app (textC_by sg sp x) (textT_by sg sp l)
theorem identT_by (l : List Int) : By (identT l) := by
 unfold identT
 split
 ·exact by_cons (by omega) (by omega) (by_cons (by omega) (by omega) by_nil)
 ·split
  ·exact by_nil
  ·split
   ·exact by_app (codeT_by _) (nameT_by _)
   ·split
    ·exact nameT_by _
    ·split
     ·exact by_cons (by omega) (by omega) (by_app (codeT_by _) (nameT_by _))
     ·exact nameT_by _
theorem identT_len (l : List Int) : (identT l).length ≤ 10 * l.length + 1 := by
 unfold identT
 split
 ·rename_i h
  subst h
  simp
 ·split
  ·simp
  ·rename_i x t _
   split
   ·have := codeT_len x
    have := nameT_len t
    simp only [List.length_append, List.length_cons]
    omega
   ·split
    ·have := nameT_len [x]
     omega
    ·rename_i y u _
     split
     ·have := codeT_len y
      have := nameT_len u
      simp only [List.length_append, List.length_cons]
      omega
     ·have := nameT_len (x :: y :: u)
      omega
def expT (l : List Int) : Bool := match l with
 | [] => false
 | y :: u => dig y || y == 45 && (match u with
  | [] => false
  | z :: _ => dig z)
def unitT (l : List Int) : List Int := match l with
 | [] => []
 | x :: t => if ((x == 101 || x == 69) && expT t) = true then codeT x ++ nameT t else identT (x :: t)
theorem unitT_by (l : List Int) : By (unitT l) := by
 unfold unitT
 split
 ·exact by_nil
 ·split
  ·exact by_app (codeT_by _) (nameT_by _)
  ·exact identT_by _
theorem unitT_len (l : List Int) : (unitT l).length ≤ 10 * l.length + 1 := by
 unfold unitT
 split
 ·simp
 ·rename_i x t
  split
  ·have := codeT_len x
   have := nameT_len t
   simp only [List.length_append, List.length_cons]
   omega
  ·exact identT_len _
theorem exp_encs (l : List Int) (h : ∀ x ∈ l, scal x = x) : expT (encs l) = expT l := by
 cases l with
 | nil => rfl
 | cons x t =>
  have hs := h x (by simp)
  have hb := scal_in x
  rw [hs] at hb
  rw [encs_cons, hs]
  by_cases h1 : x < 128
  ·rw [enc_low h1]
   simp only [List.cons_append, List.nil_append, expT]
   congr 2
   cases t with
   | nil => rfl
   | cons y u =>
    have hs2 := h y (by simp)
    have hb2 := scal_in y
    rw [hs2] at hb2
    rw [encs_cons, hs2]
    by_cases h2 : y < 128
    ·rw [enc_low h2]; rfl
    ·obtain ⟨c, v, e, _, hh⟩ := enc_high (by omega) hb2.2
     rw [e]
     simp only [List.cons_append]
     rw [dig_high (hh c (by rw [e]; simp)), dig_high (x := y) (by omega)]
  ·obtain ⟨c, v, e, _, hh⟩ := enc_high (by omega) hb.2
   have hc := hh c (by rw [e]; simp)
   rw [e]
   simp only [List.cons_append, expT]
   have e1 : (x == 45) = false := by simp; omega
   have e2 : (c == 45) = false := by simp; omega
   rw [dig_high hc, dig_high (x := x) (by omega), e1, e2]
   rfl
def fixT (k : Int) : List Int :=
 if k = 6 then [34, 10] else if k = 8 then [117, 114, 108, 40, 40, 41] else if k = 13 then [32] else if k = 14 then [60, 33, 45, 45] else if k = 15 then [45, 45, 62]
 else if k = 16 then [58] else if k = 17 then [59] else if k = 18 then [44] else if k = 19 then [91] else if k = 20 then [93] else if k = 21 then [40] else if k = 22 then [41] else if k = 23 then [123] else if k = 24 then [125] else []
def tokenT (k : Int) (b : List Int) (n d : Int) (w i : Bool) : List Int :=
 if k = 1 then identT (raw b)
 else if k = 2 then identT (raw b) ++ [40]
 else if k = 3 then 64 :: identT (raw b)
 else if k = 4 then 35 :: (if i = true then identT (raw b) else nameT (raw b))
 else if k = 5 then 34 :: (textT [34, 92] false (raw b) ++ [34])
 else if k = 7 then 117 :: 114 :: 108 :: 40 :: (textT [34, 39, 40, 41, 92] true (raw b) ++ [41])
 else if k = 9 then (if b = [92] then [92, 10] else b)
 else if k = 10 then (plainT n d w).getD []
 else if k = 11 then (plainT n d w).getD [] ++ [37]
 else if k = 12 then (plainT n d w).getD [] ++ unitT (raw b)
 else fixT k
theorem fix_cases (k : Int) : (k = 6 ∨ k = 8 ∨ k = 13 ∨ k = 14 ∨ k = 15 ∨ k = 16 ∨ k = 17 ∨ k = 18 ∨ k = 19 ∨ k = 20 ∨ k = 21 ∨ k = 22 ∨ k = 23 ∨ k = 24) ∨ fixT k = [] := by
 by_cases h : k = 6 ∨ k = 8 ∨ k = 13 ∨ k = 14 ∨ k = 15 ∨ k = 16 ∨ k = 17 ∨ k = 18 ∨ k = 19 ∨ k = 20 ∨ k = 21 ∨ k = 22 ∨ k = 23 ∨ k = 24
 ·exact .inl h
 ·refine .inr ?_
  simp only [not_or] at h
  simp [fixT, h]
theorem fixT_by (k : Int) : By (fixT k) := by
 have : ∀ l : List Int, (l.all fun c => decide (0 ≤ c) && decide (c ≤ 255)) = true → By l := fun l h c hc => by
  have := List.all_eq_true.1 h c hc
  simp at this
  exact this
 rcases fix_cases k with (rfl | rfl | rfl | rfl | rfl | rfl | rfl | rfl | rfl | rfl | rfl | rfl | rfl | rfl) | h
 all_goals first
  | exact this _ rfl
  | (rw [h]; exact by_nil)
theorem fixT_len (k : Int) : (fixT k).length ≤ 6 := by
 rcases fix_cases k with (rfl | rfl | rfl | rfl | rfl | rfl | rfl | rfl | rfl | rfl | rfl | rfl | rfl | rfl) | h
 all_goals first
  | decide
  | (rw [h]; decide)
theorem raw_len (b : List Int) : (raw b).length ≤ b.length := (raw_count b).1
theorem tokenT_by {k : Int} {b : List Int} {n d : Int} {w i : Bool} (hy : By b) (hp : By ((plainT n d w).getD [])) : By (tokenT k b n d w i) := by
 unfold tokenT
 have h1 : ∀ x : Int, 0 ≤ x → x ≤ 255 → By [x] := fun x h0 h1 => by_cons h0 h1 by_nil
 repeat' split
 all_goals first
  | exact identT_by _
  | exact by_app (identT_by _) (h1 _ (by omega) (by omega))
  | exact by_cons (by omega) (by omega) (identT_by _)
  | exact by_cons (by omega) (by omega) (nameT_by _)
  | exact by_cons (by omega) (by omega) (by_app (textT_by _ _ _) (h1 _ (by omega) (by omega)))
  | exact by_cons (by omega) (by omega) (by_cons (by omega) (by omega) (by_cons (by omega) (by omega) (by_cons (by omega) (by omega) (by_app (textT_by _ _ _) (h1 _ (by omega) (by omega))))))
  | exact by_cons (by omega) (by omega) (h1 _ (by omega) (by omega))
  | exact hy
  | exact hp
  | exact by_app hp (h1 _ (by omega) (by omega))
  | exact by_app hp (unitT_by _)
  | exact fixT_by _
theorem tokenT_len {k : Int} {b : List Int} {n d : Int} {w i : Bool} (hp : ((plainT n d w).getD []).length ≤ 200) : (tokenT k b n d w i).length ≤ 10 * b.length + 300 := by
 have h1 := identT_len (raw b)
 have h2 := nameT_len (raw b)
 have h3 := textT_len [34, 92] false (raw b)
 have h4 := textT_len [34, 39, 40, 41, 92] true (raw b)
 have h5 := unitT_len (raw b)
 have h6 := fixT_len k
 have h7 := raw_len b
 unfold tokenT
 repeat' split
 all_goals (try simp only [List.length_append, List.length_cons, List.length_nil])
 all_goals omega
end Go.Lift.Spell
end

section
open Go.Proofs
namespace Go.Lift.D7
variable [MX]
open Utf Tok Spell
set_option maxRecDepth 20000
set_option maxHeartbeats 4000000
theorem enc_utf {x : Int} (hs : scal x = x) : Utf8.encode x = bs (enc x) := by
 obtain ⟨h0, h1, h2⟩ := (scal_iff x).1 hs
 obtain ⟨n, rfl⟩ : ∃ n : Nat, x = n := ⟨x.toNat, by omega⟩
 have hv : Utf8.valid (n : Int) = true := by simp [Utf8.valid]; omega
 have hn : ((n : Int)).toNat = n := by omega
 unfold Utf8.encode enc
 simp only [hv, hn, if_true]
 by_cases c1 : n < 128
 ·rw [if_pos c1, if_pos (show (n : Int) < 128 by omega)]
  rfl
 rw [if_neg c1, if_neg (show ¬ (n : Int) < 128 by omega)]
 by_cases c2 : n < 2048
 ·rw [if_pos c2, if_pos (show (n : Int) < 2048 by omega)]
  show _ = (⟨#[UInt8.ofNat (192 + (n : Int) / 64).toNat, UInt8.ofNat (128 + (n : Int) % 64).toNat]⟩ : ByteArray)
  rw [show (192 + (n : Int) / 64).toNat = 192 + n / 64 by omega, show (128 + (n : Int) % 64).toNat = 128 + n % 64 by omega]
 rw [if_neg c2, if_neg (show ¬ (n : Int) < 2048 by omega)]
 by_cases c3 : n < 65536
 ·rw [if_pos c3, if_pos (show (n : Int) < 65536 by omega)]
  show _ = (⟨#[UInt8.ofNat (224 + (n : Int) / 4096).toNat, UInt8.ofNat (128 + (n : Int) / 64 % 64).toNat, UInt8.ofNat (128 + (n : Int) % 64).toNat]⟩ : ByteArray)
  rw [show (224 + (n : Int) / 4096).toNat = 224 + n / 4096 by omega, show (128 + (n : Int) / 64 % 64).toNat = 128 + n / 64 % 64 by omega, show (128 + (n : Int) % 64).toNat = 128 + n % 64 by omega]
 ·rw [if_neg c3, if_neg (show ¬ (n : Int) < 65536 by omega)]
  show _ = (⟨#[UInt8.ofNat (240 + (n : Int) / 262144).toNat, UInt8.ofNat (128 + (n : Int) / 4096 % 64).toNat, UInt8.ofNat (128 + (n : Int) / 64 % 64).toNat, UInt8.ofNat (128 + (n : Int) % 64).toNat]⟩ : ByteArray)
  rw [show (240 + (n : Int) / 262144).toNat = 240 + n / 262144 by omega, show (128 + (n : Int) / 4096 % 64).toNat = 128 + n / 4096 % 64 by omega, show (128 + (n : Int) / 64 % 64).toNat = 128 + n / 64 % 64 by omega, show (128 + (n : Int) % 64).toNat = 128 + n % 64 by omega]
theorem index_none {c : UInt8} {r : List UInt8} : ∀ {s : List UInt8}, (∀ x ∈ s, x ≠ c) → Go.Lib.index s (c :: r) = -1
 | [], _ => rfl
 | b :: l, h => by
  have hb : (c == b) = false := by
   have := h b (by simp)
   simp
   exact fun e => this e.symm
  unfold Go.Lib.index
  rw [index_none fun x hx => h x (by simp [hx])]
  simp [List.isPrefixOf, hb]
section
variable {lo : Nat} {h : Heap}
theorem f92x {l : List Int} (hy : ∀ c ∈ l, 0 ≤ c ∧ c < 128) (hl : l.length ≤ 1000000) {x : Int} (hs : scal x = x) :
  E lo 30 [.v (.string (bs l)), .v (.string (bs (enc x)))] h = some (.v (.bool (l.contains x)), h) := by
 obtain ⟨h0, h1, _⟩ := (scal_iff x).1 hs
 have hby : By l := fun c hc => by have := hy c hc; omega
 by_cases hx : x < 128
 ·rw [enc_low hx]
  exact f30 hby (by omega) (by omega)
 ·obtain ⟨c, t, e, ht, hh⟩ := enc_high (x := x) (by omega) h1
  have hb := enc_by x h0 h1
  rw [e] at hh hb ⊢
  have hc := hh c (by simp)
  have hc2 := hb c (by simp)
  have hn : l.contains x = false := by
   rw [Bool.eq_false_iff]
   intro hcon
   have := hy x (by simpa using hcon)
   omega
  obtain ⟨d, u, rfl⟩ : ∃ d u, t = d :: u := by
   cases t with
   | nil => exact absurd rfl ht
   | cons d u => exact ⟨d, u, rfl⟩
  have hix : Go.Lib.index (bs l).data.toList (bs (c :: d :: u)).data.toList = -1 := by
   show Go.Lib.index (u8s l) (UInt8.ofNat c.toNat :: u8s (d :: u)) = -1
   refine index_none fun y hy2 => ?_
   simp only [u8s, List.mem_map] at hy2
   obtain ⟨z, hz, rfl⟩ := hy2
   have := hy z hz
   intro he
   have := congrArg UInt8.toNat he
   simp only [UInt8.toNat_ofNat'] at this
   omega
  have k159 : ∀ lo h, E lo 50 [.v (.string (bs l)), .v (.string (bs (c :: d :: u)))] h = some (.v (.int .i64 (-1)), h) := fun lo h => by
   show ev Tryd.prog hints primz lo 50 _ h = _
   rw [ev_prim (p := ixP) rfl]
   unfold ixP
   have e2 : (bs (c :: d :: u)).data.toList = UInt8.ofNat c.toNat :: UInt8.ofNat d.toNat :: u8s u := rfl
   simp only [hix]
   rw [e2]
   simp only
   rw [if_pos (by rw [bs_size]; omega)]
  have k127 : ∀ lo h, E lo 41 [.v (.string (bs l)), .v (.string (bs (c :: d :: u)))] h = some (.v (.int .i64 (-1)), h) := fun lo h => by
   rw [e41 (by simp) (by rfl)]
   simp only [go_sem, b41, Tryd.f41, k159]
   all_goals rfl
  have q : decide ((0 : Int) ≤ -1) = false := rfl
  rw [e30 (by simp) (by rfl), hn]
  simp only [go_sem, b30, Tryd.f30, k127, q]
  all_goals rfl
end
end Go.Lift.D7
end

section
open Go.Proofs
namespace Go.Lift.D7
variable [MX]
open Utf Tok Spell
set_option maxRecDepth 20000
set_option maxHeartbeats 4000000
section
variable {lo : Nat} {h : Heap} {done : List Int} {p0 : V} {out sg : List Int} {sp : Bool} {x : Int} {s : ByteArray} {pos : Nat}
abbrev N35 (h : Heap) (sg : List Int) (sp : Bool) : Env := [(1, .v (.string (bs sg))), (2, .v (.bool sp)), (7, .ptr h.length 0), (11, .ptr (h.length + 1) 0)]
theorem round44 (hlo : lo ≤ h.length) (hp : okP h.length p0 = true) (hsg : ∀ c ∈ sg, 0 ≤ c ∧ c < 128) (hsl : sg.length ≤ 1000000) (hs : scal x = x) (hpos : pos < s.size) (hdec : Utf8.decode s pos = (x.toNat, (enc (scal x)).length)) (hl : out.length ≤ 900000000) :
  evCode ⟨Tryd.prog, E, lo, h.length, h44⟩ loopW l44x0 (N35 h sg sp, H34 h p0 out s pos) =
   some (.normal, N35 h sg sp, H34 h (.ptr h.length 0) (out ++ textC sg sp x) s (pos + (enc (scal x)).length)) := by
 obtain ⟨hx0, hx1, _⟩ := (scal_iff x).1 hs
 have hlo1 : lo ≤ h.length + 1 := by omega
 have hxn : ((x.toNat : Nat) : Int) = x := by omega
 have hcl := codeT_len x
 have hel := enc_len (scal x)
 have c87 := fun lo hlo => f52 (lo := lo) (h := H34 h p0 out s (pos + (enc (scal x)).length)) hlo hx0 (r := x) (by omega)
 have c87a := c87 lo (by simp; omega)
 have c87b := c87 h.length (by simp)
 have c87c := c87 (h.length + 2) (by simp)
 have c48 := fun lo hlo => f19 (lo := lo) (p := h) (q := [.iter s (pos + (enc (scal x)).length)]) (p0 := p0) (out := out) hlo hp (s := codeT x) (codeT_by x) (by omega) (by omega)
 have c90 := fun lo hlo => f55 (lo := lo) (p := h) (q := [.iter s (pos + (enc (scal x)).length)]) (p0 := p0) (out := out) hlo hp (r := x) (by omega) (by omega) (by omega)
 have c91 := fun lo hlo => f56 (lo := lo) (p := h) (q := [.iter s (pos + (enc (scal x)).length)]) (p0 := p0) (out := out) hlo hp (c := 92) (by omega)
 have c92 := fun lo hlo => f55 (lo := lo) (p := h) (q := [.iter s (pos + (enc (scal x)).length)]) (p0 := .ptr h.length 0) (out := out ++ [92]) hlo ok_self (r := x) (by omega) (by omega) (by simp; omega)
 have c48a := c48 lo hlo; have c48b := c48 h.length (Nat.le_refl _)
 have c90a := c90 lo hlo; have c90b := c90 h.length (Nat.le_refl _)
 have c91a := c91 lo hlo; have c91b := c91 h.length (Nat.le_refl _)
 have c92a := c92 lo hlo; have c92b := c92 h.length (Nat.le_refl _)
 clear c87 c48 c90 c91 c92
 have e1 : (Utf8.decode s pos).1 = x.toNat := by rw [hdec]
 have e2 : (Utf8.decode s pos).2 = (enc (scal x)).length := by rw [hdec]
 have eu : Utf8.encode x = bs (enc (scal x)) := by rw [enc_utf hs, hs]
 have k88 := fun lo h => f53 (lo := lo) (h := h) (c := x)
 have k92 := fun lo h => f92x (lo := lo) (h := h) hsg hsl hs
 have e3 : out ++ [92] ++ enc (scal x) = out ++ 92 :: enc (scal x) := by simp
 rw [e3] at c92a c92b
 have hsx := hs
 rw [← hs] at k92
 rw [hs] at k92
 have ks : ∀ lo h, E lo 30 [.v (.string (bs sg)), .v (.string (bs (enc (scal x))))] h = some (.v (.bool (sg.contains x)), h) := fun lo h => by
  have := k92 lo h
  rw [hs]
  exact this
 clear k92
 unfold textC
 cases qh : hidT x with
 | true =>
  rw [qh] at k88
  simp only [go_sem, l44x0, b44, Tryd.f44, hlo, hlo1, hpos, e1, e2, hxn, k88, c87a, c87b, c87c, c48a, c48b, if_true]
  all_goals rfl
 | false =>
  rw [qh] at k88
  cases sp with
  | true =>
   cases q32 : (x == 32) with
   | true =>
    simp only [go_sem, l44x0, b44, Tryd.f44, hlo, hlo1, hpos, e1, e2, hxn, k88, q32, c87a, c87b, c87c, c48a, c48b, if_true]
    all_goals rfl
   | false =>
    cases qc : sg.contains x with
    | true =>
     rw [qc] at ks
     simp only [go_sem, l44x0, b44, Tryd.f44, hlo, hlo1, hpos, e1, e2, hxn, k88, q32, eu, ks, c91a, c91b, c92a, c92b, if_true, Bool.false_eq_true, if_false]
     all_goals rfl
    | false =>
     rw [qc] at ks
     simp only [go_sem, l44x0, b44, Tryd.f44, hlo, hlo1, hpos, e1, e2, hxn, k88, q32, eu, ks, c90a, c90b, if_true, Bool.false_eq_true, if_false]
     all_goals rfl
  | false =>
   cases qc : sg.contains x with
   | true =>
    rw [qc] at ks
    simp only [go_sem, l44x0, b44, Tryd.f44, hlo, hlo1, hpos, e1, e2, hxn, k88, eu, ks, c91a, c91b, c92a, c92b, if_true, Bool.false_eq_true, if_false]
    all_goals rfl
   | false =>
    rw [qc] at ks
    simp only [go_sem, l44x0, b44, Tryd.f44, hlo, hlo1, hpos, e1, e2, hxn, k88, eu, ks, c90a, c90b, if_true, Bool.false_eq_true, if_false]
    all_goals rfl
theorem stop44 (hlo : lo ≤ h.length) (hpos : ¬ pos < s.size) :
  loopW (evCode ⟨Tryd.prog, E, lo, h.length, h44⟩ loopW l44x0) (N35 h sg sp, H34 h p0 out s pos) =
   some (.exit 0, N35 h sg sp ++ [(12, .tup [.v (.bool false)]), (13, .v (.bool false))], H34 h p0 out s pos) := by
 have hlo1 : lo ≤ h.length + 1 := by omega
 rw [loop_eq]
 simp only [go_sem, l44x0, b44, Tryd.f44, hlo, hlo1, hpos]
 all_goals rfl
theorem loop44 (hlo : lo ≤ h.length) (hsg : ∀ c ∈ sg, 0 ≤ c ∧ c < 128) (hsl : sg.length ≤ 1000000) : ∀ (l : List Int) (done : List Int) (p0 : V) (out : List Int), (∀ x ∈ l, scal x = x) → okP h.length p0 = true → out.length + 10 * l.length ≤ 900000000 →
  ∃ p1, okP h.length p1 = true ∧ loopW (evCode ⟨Tryd.prog, E, lo, h.length, h44⟩ loopW l44x0) (N35 h sg sp, H34 h p0 out (bs (done ++ encs l)) done.length) =
   some (.exit 0, N35 h sg sp ++ [(12, .tup [.v (.bool false)]), (13, .v (.bool false))], H34 h p1 (out ++ textT sg sp l) (bs (done ++ encs l)) (done ++ encs l).length) := by
 intro l
 induction l with
 | nil =>
  intro done p0 out _ hp _
  refine ⟨p0, hp, ?_⟩
  have e : done ++ encs [] = done := by simp [encs]
  rw [e, stop44 hlo (by rw [bs_size]; omega)]
  simp [textT]
 | cons x l ih =>
  intro done p0 out hs hp hl
  have hx := hs x (by simp)
  have hel := enc_len x
  have hcl := textC_len sg sp x
  have hdec := dec_enc (pre := done) (rest := encs l) hx
  have e1 : encs (x :: l) = enc x ++ encs l := by rw [encs_cons, hx]
  simp only [List.length_cons] at hl
  obtain ⟨p1, hp1, hL⟩ := ih (done ++ enc x) (.ptr h.length 0) (out ++ textC sg sp x) (fun y hy => hs y (by simp [hy])) ok_self (by simp; omega)
  refine ⟨p1, hp1, ?_⟩
  rw [e1, ← List.append_assoc]
  rw [← List.append_assoc] at hdec
  rw [loop_eq, round44 hlo hp hsg hsl hx (by rw [bs_size]; simp; omega) (by rw [hdec, hx]) (by omega), loop_n, hx]
  have e3 : done.length + (enc x).length = (done ++ enc x).length := by simp
  have e4 : textT sg sp (x :: l) = textC sg sp x ++ textT sg sp l := rfl
  rw [e3, hL, e4, List.append_assoc]
theorem f44 (hlo : lo ≤ h.length) (hsg : ∀ c ∈ sg, 0 ≤ c ∧ c < 128) (hsl : sg.length ≤ 1000000) {l : List Int} (hs : ∀ x ∈ l, scal x = x) (hl : l.length ≤ 10000000) :
  E lo 44 [.v (.string (bs (encs l))), .v (.string (bs sg)), .v (.bool sp)] h = some (.v (.string (bs (textT sg sp l))), h) := by
 have hlen := textT_len sg sp l
 obtain ⟨p1, hp1, hL⟩ := loop44 (lo := lo) (h := h) (sp := sp) hlo hsg hsl l [] (.v (.pointer none)) [] hs rfl (by simp; omega)
 rw [List.nil_append, List.nil_append, List.length_nil] at hL
 have k := fun lo hlo => f21 (lo := lo) (p := h) (q := [.iter (bs (encs l)) (encs l).length]) (p0 := p1) (out := textT sg sp l) hlo (textT_by sg sp l) (by omega)
 have ka := k lo hlo; have kb := k h.length (Nat.le_refl _)
 simp only [l44x0, b44, Tryd.f44, loopAt, loops, bodyOf, go_sem, ri_nil, H34, N35, List.cons_append, List.nil_append] at hL
 rw [e44 (by simp) (by rfl)]
 simp only [go_sem, b44, Tryd.f44, hlo, hL, ka, kb]
 all_goals rfl
end
end Go.Lift.D7
end

section
open Go.Proofs
namespace Go.Lift.D7
variable [MX]
open Utf Tok Spell
set_option maxRecDepth 20000
set_option maxHeartbeats 4000000
section
variable {lo : Nat} {h : Heap} {l : List Int}
theorem bs_9245 : (⟨#[92, 45]⟩ : ByteArray) = bs [92, 45] := rfl
theorem encs_len (l : List Int) : (encs l).length ≤ 4 * l.length := by
 induction l with
 | nil => simp [encs]
 | cons x l ih =>
  rw [encs_cons, List.length_append, List.length_cons]
  have := enc_len (scal x)
  omega
end
end Go.Lift.D7
end

section
open Go.Proofs
namespace Go.Lift.D7
variable [MX]
open Utf Tok Spell
set_option maxRecDepth 20000
set_option maxHeartbeats 4000000
section
variable {lo : Nat} {h : Heap}
theorem bs_34 : (⟨#[34]⟩ : ByteArray) = bs [34] := rfl
theorem bs_41 : (⟨#[41]⟩ : ByteArray) = bs [41] := rfl
theorem bs_url : (⟨#[117, 114, 108, 40]⟩ : ByteArray) = bs [117, 114, 108, 40] := rfl
abbrev sg5 : List Int := [34, 92]
abbrev sg7 : List Int := [34, 39, 40, 41, 92]
end
end Go.Lift.D7
end

section
open Go.Proofs
namespace Go.Lift.D7
variable [MX]
open Utf Tok Spell
set_option maxRecDepth 20000
set_option maxHeartbeats 4000000
section
variable {lo : Nat} {h : Heap} {l : List Int}
def hd45 : List Int → Bool
 | [] => false
 | c :: _ => c == 45
theorem f68 {b : List Int} (hy : By b) (hl : b.length ≤ 1000000000) : E lo 68 [.v (.string (bs b)), .v (.string (bs [45]))] h = some (.v (.bool (hd45 b)), h) := by
 have s1 : (bs [45]).size = 1 := bs_size [45]
 have n1 : ((1 : Nat) : Int) = 1 := rfl
 rw [e68 (by simp) (by rfl)]
 cases b with
 | nil =>
  have s0 : (bs []).size = 0 := rfl
  have n0 : ((0 : Nat) : Int) = 0 := rfl
  have q : decide ((1 : Int) ≤ 0) = false := rfl
  simp only [go_sem, b68, Tryd.f68, s1, s0, n1, n0, q]
  all_goals rfl
 | cons c t =>
  have sz := bs_size (c :: t)
  have q : decide ((1 : Int) ≤ ((c :: t).length : Int)) = true := by rw [decide_eq_true_iff]; simp only [List.length_cons]; omega
  have p2 : 1 ≤ (c :: t).length := by simp
  have ed : ((c :: t).take 1).drop 0 = [c] := rfl
  have hb := bs_beq (a := [c]) (b := [45]) (fun x hx => by simp at hx; subst hx; exact hy _ (by simp)) by_45
  have e : ([c] == [45]) = (c == 45) := by simp
  rw [e] at hb
  have eh : hd45 (c :: t) = (c == 45) := rfl
  rw [eh]
  generalize c :: t = M at *
  simp only [go_sem, b68, Tryd.f68, s1, n1, sz, q, p2, bs_ext, ed, hb, Nat.zero_le]
  all_goals rfl
theorem f51 {b : List Int} (hy : By b) (hl : b.length ≤ 1000000000) : E lo 51 [.v (.string (bs b)), .v (.string (bs [45]))] h = some (.v (.bool (hd45 b)), h) := by
 have k := fun lo h => f68 (lo := lo) (h := h) hy hl
 rw [e51 (by simp) (by rfl)]
 simp only [go_sem, b51, Tryd.f51, k]
 all_goals rfl
theorem first_byte {x : Int} (h0 : 0 ≤ x) (h1 : x ≤ 1114111) : ∃ c t, enc x = c :: t ∧ 0 ≤ c ∧ c ≤ 255 ∧ ((x < 128 ∧ c = x ∧ t = []) ∨ (128 ≤ x ∧ 128 ≤ c)) := by
 have hb := enc_by x h0 h1
 by_cases hx : x < 128
 ·exact ⟨x, [], enc_low hx, h0, by omega, .inl ⟨hx, rfl, rfl⟩⟩
 ·obtain ⟨c, t, e, _, hh⟩ := enc_high (by omega) h1
  have hc := hh c (by rw [e]; simp)
  have hc2 := hb c (by rw [e]; simp)
  exact ⟨c, t, e, by omega, by omega, .inr ⟨by omega, hc⟩⟩
theorem f42 (hlo : lo ≤ h.length) (hs : ∀ x ∈ l, scal x = x) (hl : l.length ≤ 10000000) : E lo 42 [.v (.string (bs (encs l)))] h = some (.v (.string (bs (identT l))), h) := by
 have hby := encs_by l
 have hel := encs_len l
 have hb := bs_beq hby by_45
 have k34 := fun lo hlo => f43 (lo := lo) (h := h) hlo hs hl
 have k34a := k34 lo hlo; have k34b := k34 h.length (Nat.le_refl _)
 have k85 := fun lo h => f51 (lo := lo) (h := h) hby (by omega)
 have sz := bs_size (encs l)
 clear k34
 rw [e42 (by simp) (by rfl)]
 by_cases h45 : l = [45]
 ·have q : (encs l == [45]) = true := by rw [beq_iff_eq]; exact (encs_one hs).2 h45
  rw [q] at hb
  have e : identT l = [92, 45] := by unfold identT; rw [if_pos h45]
  rw [e]
  simp only [go_sem, b42, Tryd.f42, bs_45', hb, bs_9245]
  all_goals rfl
 have q : (encs l == [45]) = false := by rw [beq_eq_false_iff_ne]; exact fun h => h45 ((encs_one hs).1 h)
 rw [q] at hb
 cases l with
 | nil =>
  have e0 : encs [] = [] := rfl
  have q1 : decide ((0 : Int) < 0) = false := rfl
  have n0 : ((0 : Nat) : Int) = 0 := rfl
  have e : identT [] = nameT [] := rfl
  have eh : hd45 [] = false := rfl
  rw [e0] at hb k34a k34b k85 sz ⊢
  rw [e]
  rw [eh] at k85
  rw [List.length_nil] at sz
  simp only [go_sem, b42, Tryd.f42, bs_45', hb, k85, sz, n0, q1, k34a, k34b]
  all_goals rfl
 | cons x t =>
  have hx := scal_in x
  rw [hs x (by simp)] at hx
  have hst : ∀ y ∈ t, scal y = y := fun y hy => hs y (by simp [hy])
  obtain ⟨c, tc, ec, hc0, hc1, hcx⟩ := first_byte hx.1 hx.2
  have eB : encs (x :: t) = c :: (tc ++ encs t) := by rw [encs_cons, hs x (by simp), ec]; rfl
  have wc := wrap_i32 hc0 hc1
  have k86 := fun lo h => dig86 (lo := lo) (h := h) (c := c)
  have n0 : ((0 : Nat) : Int) = 0 := rfl
  have p1 : decide ((0 : Int) < ((encs (x :: t)).length : Int)) = true := by rw [eB, decide_eq_true_iff]; simp only [List.length_cons]; omega
  have i0 := bs_ix hby 0
  have g0 : (encs (x :: t))[0]? = some c := by rw [eB]; rfl
  rw [g0] at i0
  have eh : hd45 (encs (x :: t)) = (c == 45) := by rw [eB]; rfl
  rw [eh] at k85
  simp only [List.length_cons] at hl
  cases q45 : (c == 45) with
  | false =>
   rw [q45] at k85
   have hx45 : x ≠ 45 := by
    intro h
    have : c ≠ 45 := by simpa using q45
    omega
   cases qd : dig c with
   | false =>
    rw [qd] at k86
    have hdx : dig x = false := by
     rcases hcx with ⟨_, rfl, _⟩ | ⟨h1, _⟩
     ·exact qd
     ·exact dig_high h1
    have e : identT (x :: t) = nameT (x :: t) := by
     unfold identT
     rw [if_neg h45]
     simp only [hdx, Bool.false_eq_true, if_false]
     cases t with
     | nil => rfl
     | cons y u => simp only; rw [if_neg]; simp [hx45]
    rw [e]
    clear eB g0
    generalize encs (x :: t) = B at *
    simp only [go_sem, b42, Tryd.f42, bs_45', hb, k85, sz, p1, i0, wc, k86, k34a, k34b]
    all_goals rfl
   | true =>
    rw [qd] at k86
    obtain ⟨hx128, rfl, rfl⟩ : x < 128 ∧ c = x ∧ tc = [] := by
     rcases hcx with h | ⟨_, h⟩
     ·exact h
     ·rw [dig_high h] at qd; cases qd
    have e : identT (c :: t) = codeT c ++ nameT t := by unfold identT; rw [if_neg h45]; simp only [qd, if_true]
    have k87 := fun lo hlo => f52 (lo := lo) (h := h) hlo (r := c) hx.1 (by omega)
    have k87a := k87 lo hlo; have k87b := k87 h.length (Nat.le_refl _)
    have kt := fun lo hlo => f43 (lo := lo) (h := h) hlo (l := t) hst (by omega)
    have kta := kt lo hlo; have ktb := kt h.length (Nat.le_refl _)
    have w1 : IntKind.i64.wrap (0 + 1) = 1 := rfl
    have p2 : 1 ≤ (encs (c :: t)).length := by rw [eB]; simp
    have ed0 : ((encs (c :: t)).take 0).drop 0 = [] := rfl
    have ed : (encs (c :: t)).drop 1 = encs t := by rw [eB]; rfl
    have z1 : (bs []).size + (bs (codeT c)).size ≤ 9223372036854775807 := by rw [bs_size, bs_size]; have := codeT_len c; simp; omega
    have z2 : (bs (codeT c)).size + (bs (nameT t)).size ≤ 9223372036854775807 := by rw [bs_size, bs_size]; have := codeT_len c; have := nameT_len t; omega
    rw [e]
    clear eB g0 k34a k34b
    generalize encs (c :: t) = B at *
    simp only [go_sem, b42, Tryd.f42, bs_45', hb, k85, sz, p1, i0, wc, k86, k87a, k87b, kta, ktb, w1, p2, Nat.le_refl, Nat.zero_le, bs_ext, ed0, ed, bs_app, z1, z2, List.nil_append]
    all_goals rfl
  | true =>
   rw [q45] at k85
   have hc45 : c = 45 := by simpa using q45
   obtain ⟨hx128, rfl, rfl⟩ : x < 128 ∧ c = x ∧ tc = [] := by
    rcases hcx with h | ⟨_, h⟩
    ·exact h
    ·omega
   subst hc45
   cases t with
   | nil => exact absurd rfl h45
   | cons y u =>
    have hy := scal_in y
    rw [hst y (by simp)] at hy
    obtain ⟨c1, t1, ec1, hd0, hd1, hdy⟩ := first_byte hy.1 hy.2
    have eB2 : encs (45 :: y :: u) = 45 :: c1 :: (t1 ++ encs u) := by rw [eB, encs_cons, hst y (by simp), ec1]; rfl
    have g1 : (encs (45 :: y :: u))[1]? = some c1 := by rw [eB2]; rfl
    have i1 := bs_ix hby 1
    rw [g1] at i1
    have wd := wrap_i32 hd0 hd1
    have k86d := fun lo h => dig86 (lo := lo) (h := h) (c := c1)
    have p3 : decide ((1 : Int) < ((encs (45 :: y :: u)).length : Int)) = true := by rw [eB2, decide_eq_true_iff]; simp only [List.length_cons]; omega
    have d45 : dig 45 = false := rfl
    have e0 : identT (45 :: y :: u) = if dig y = true then 45 :: (codeT y ++ nameT u) else nameT (45 :: y :: u) := by
     unfold identT
     rw [if_neg h45]
     simp only [d45, Bool.false_eq_true, if_false, true_and]
    cases qd : dig c1 with
    | false =>
     rw [qd] at k86d
     have hdy2 : dig y = false := by
      rcases hdy with ⟨_, rfl, _⟩ | ⟨h1, _⟩
      ·exact qd
      ·exact dig_high h1
     have e : identT (45 :: y :: u) = nameT (45 :: y :: u) := by rw [e0, if_neg (by simp [hdy2])]
     rw [e]
     clear eB g0 eB2 g1
     generalize encs (45 :: y :: u) = B at *
     simp only [go_sem, b42, Tryd.f42, bs_45', hb, k85, sz, p3, i1, wd, k86d, k34a, k34b]
     all_goals rfl
    | true =>
     rw [qd] at k86d
     obtain ⟨hy128, rfl, rfl⟩ : y < 128 ∧ c1 = y ∧ t1 = [] := by
      rcases hdy with h | ⟨_, h⟩
      ·exact h
      ·rw [dig_high h] at qd; cases qd
     have e : identT (45 :: c1 :: u) = 45 :: (codeT c1 ++ nameT u) := by rw [e0, if_pos qd]
     simp only [List.length_cons] at hl
     have k87 := fun lo hlo => f52 (lo := lo) (h := h) hlo (r := c1) hy.1 (by omega)
     have k87a := k87 lo hlo; have k87b := k87 h.length (Nat.le_refl _)
     have kt := fun lo hlo => f43 (lo := lo) (h := h) hlo (l := u) (fun z hz => hst z (by simp [hz])) (by omega)
     have kta := kt lo hlo; have ktb := kt h.length (Nat.le_refl _)
     have w1 : IntKind.i64.wrap (1 + 1) = 2 := rfl
     have p2 : 1 ≤ (encs (45 :: c1 :: u)).length := by rw [eB2]; simp
     have p4 : 2 ≤ (encs (45 :: c1 :: u)).length := by rw [eB2]; simp
     have ed0 : ((encs (45 :: c1 :: u)).take 1).drop 0 = [45] := by rw [eB2]; rfl
     have ed : (encs (45 :: c1 :: u)).drop 2 = encs u := by rw [eB2]; rfl
     have z1 : (bs [45]).size + (bs (codeT c1)).size ≤ 9223372036854775807 := by rw [bs_size, bs_size]; have := codeT_len c1; simp; omega
     have z2 : (bs (45 :: codeT c1)).size + (bs (nameT u)).size ≤ 9223372036854775807 := by rw [bs_size, bs_size]; have := codeT_len c1; have := nameT_len u; simp; omega
     rw [e]
     clear eB g0 eB2 g1 k34a k34b
     generalize encs (45 :: c1 :: u) = B at *
     simp only [go_sem, b42, Tryd.f42, bs_45', hb, k85, sz, p3, i1, wd, k86d, k87a, k87b, kta, ktb, w1, p2, p4, Nat.le_refl, Nat.zero_le, bs_ext, ed0, ed, bs_app, z1, z2, List.singleton_append, List.cons_append]
     all_goals rfl
end
end Go.Lift.D7
end
