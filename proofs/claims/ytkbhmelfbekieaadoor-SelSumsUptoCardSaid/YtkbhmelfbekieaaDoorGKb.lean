/- utf.step: what stands in front of the bytes. -/
import Derived.Lib.TrailingZeros
import Derived.Lib.ItoaNum
import Derived.Lib.IndexLaws
import Derived.Lib.Repeat
import Derived.Lib.Bytealg
import Derived.Lib.Index
import Derived.ProofKit
import Derived.Test.YtkbhmelfbekieaaDoorGLd
import Derived.Test.YtkbhmelfbekieaaDoorGKa
import Derived.Test.YtkbhmelfbekieaaDoorGK9Basea
set_option linter.unusedVariables false
set_option linter.unusedSimpArgs false
set_option linter.unusedSectionVars false
set_option maxRecDepth 100000
set_option maxHeartbeats 4000000
section
open Go.Proofs
namespace Go.Lift.S9
variable [MX]
open Utf
theorem round58 {lo : Nat} {b : List Int} {h : Heap} {i n : Nat} {r low high c : Int} (hc : b[i + 1]? = some c) (hi : i < n) (hn : n <= 3) (hb : b.length <= 140737488355328) (hl : i + 1 < b.length)
  (c0 : 0 <= c) (c1 : c <= 255) (r0 : 0 <= r) (r1 : r <= 1000000) (hx : (decide (c < low) || decide (high < c)) = false) :
  evCode ⟨Tryd.prog, E, lo, h.length, h58⟩ loopW l58x0 ([(0, .list .no (ri .u8 b)), (5, .v (.int .u8 low)), (6, .v (.int .u8 high)), (7, .v (.int .i64 n)), (8, .v (.int .i32 r)), (58, .v (.int .i64 n)), (59, .v (.int .i64 i))], h) =
   some (.normal, [(0, .list .no (ri .u8 b)), (5, .v (.int .u8 128)), (6, .v (.int .u8 191)), (7, .v (.int .i64 n)), (8, .v (.int .i32 (r * 64 + c % 64))), (58, .v (.int .i64 n)), (59, .v (.int .i64 (i + 1 : Nat)))], h) := by
 have hd : decide ((i : Int) < n) = true := by simpa using hi
 have hw : IntKind.i64.wrap ((i : Int) + 1) = ((i + 1 : Nat) : Int) := wrap_succ (by omega)
 have hg : decide ((b.length : Int) <= (i + 1 : Nat)) = false := by simp; omega
 have hx1 : decide (c < low) = false := by simp at hx; simp; omega
 have hx2 : decide (high < c) = false := by simp at hx; simp; omega
 simp only [go_sem, l58x0, b58, Tryd.f58, hd, hc, hw, hg, hx1, hx2]
 rw [shl6 r0 r1, a63 c0 c1, wrap_u8 (by omega) (by omega), wrap_i32 (n := c % 64) (by omega) (by omega), or64 r0 r1 (by omega) (by omega), wrap_i32 (by omega) (by omega)]
theorem stop58 {lo : Nat} {b : List Int} {h : Heap} {i n : Nat} {r low high : Int} (hi : i < n) (hn : n <= 3) (hb : b.length <= 140737488355328)
  (hs : b.length <= i + 1 \/ ∃ c, b[i + 1]? = some c /\ i + 1 < b.length /\ (c < low \/ high < c)) :
  evCode ⟨Tryd.prog, E, lo, h.length, h58⟩ loopW l58x0 ([(0, .list .no (ri .u8 b)), (5, .v (.int .u8 low)), (6, .v (.int .u8 high)), (7, .v (.int .i64 n)), (8, .v (.int .i32 r)), (58, .v (.int .i64 n)), (59, .v (.int .i64 i))], h) =
   some (.ret, [(2, .v (.int .i32 65533)), (3, .v (.int .i64 (i + 1 : Nat)))], h) := by
 have hd : decide ((i : Int) < n) = true := by simpa using hi
 have hw : IntKind.i64.wrap ((i : Int) + 1) = ((i + 1 : Nat) : Int) := wrap_succ (by omega)
 rcases hs with hs | ⟨c, hc, hl, hs⟩
 ·have hg : decide ((b.length : Int) <= (i + 1 : Nat)) = true := by simp; omega
  have hc : b[i + 1]? = none := List.getElem?_eq_none hs
  simp only [go_sem, l58x0, b58, Tryd.f58, hd, hw, hg, hc]
 ·have hg : decide ((b.length : Int) <= (i + 1 : Nat)) = false := by simp; omega
  by_cases h1 : c < low
  ·have hx1 : decide (c < low) = true := by simp; omega
   simp only [go_sem, l58x0, b58, Tryd.f58, hd, hc, hw, hg, hx1]
  ·have hx1 : decide (c < low) = false := by simp; omega
   have hx2 : decide (high < c) = true := by simp; omega
   simp only [go_sem, l58x0, b58, Tryd.f58, hd, hc, hw, hg, hx1, hx2]
def end58 (b : List Int) (n : Nat) (x : Int × Nat × Bool) (h : Heap) (z : Ex × St) : Prop :=
 if x.2.2 = true then ∃ low high, z = (.exit 3, [(0, .list .no (ri .u8 b)), (5, .v (.int .u8 low)), (6, .v (.int .u8 high)), (7, .v (.int .i64 n)), (8, .v (.int .i32 x.1)), (58, .v (.int .i64 n)), (59, .v (.int .i64 n)), (60, .v (.bool false))], h)
 else z = (.ret, [(2, .v (.int .i32 x.1)), (3, .v (.int .i64 x.2.1))], h)
theorem more_snd : ∀ (n : Nat) (r lo hi : Int) (k : Nat) (t : List Int), (more n r lo hi k t).2.2 = true -> (more n r lo hi k t).2.1 = k + n
 | 0, _, _, _, _, _, _ => rfl
 | n + 1, r, lo, hi, k, [], h => by simp [more] at h
 | n + 1, r, lo, hi, k, c :: t, h => by
  unfold more at h ⊢
  split at h
  ·simp at h
  ·rename_i hc
   rw [if_neg hc, more_snd n _ _ _ _ _ h]
   omega
theorem loop58 {lo : Nat} {b : List Int} {h : Heap} {n : Nat} (hn : n <= 3) (hb : b.length <= 140737488355328) (hy : By b) : ∀ (m i : Nat) (r low high : Int), m = n - i -> i <= n -> 0 <= r -> (r + 1) * 64 ^ m <= 64000000 ->
  ∃ z, loopW (evCode ⟨Tryd.prog, E, lo, h.length, h58⟩ loopW l58x0) ([(0, .list .no (ri .u8 b)), (5, .v (.int .u8 low)), (6, .v (.int .u8 high)), (7, .v (.int .i64 n)), (8, .v (.int .i32 r)), (58, .v (.int .i64 n)), (59, .v (.int .i64 i))], h) = some z
   /\ end58 b n (more m r low high (i + 1) (b.drop (i + 1))) h z := by
 intro m
 induction m with
 | zero =>
  intro i r low high hm hi h0 h1
  obtain rfl : i = n := by omega
  have hd : decide ((i : Int) < i) = false := by simp
  rw [loop_eq]
  simp only [go_sem, l58x0, b58, Tryd.f58, hd]
  exact ⟨_, rfl, low, high, rfl⟩
 | succ m ih =>
  intro i r low high hm hi h0 h1
  have hlt : i < n := by omega
  rw [loop_eq]
  by_cases hl : i + 1 < b.length
  ·have hc : b[i + 1]? = some b[i + 1] := List.getElem?_eq_getElem hl
   have hcy := hy b[i + 1] (List.getElem_mem hl)
   rw [List.drop_eq_getElem_cons hl]
   by_cases hx : b[i + 1] < low \/ high < b[i + 1]
   ·rw [stop58 hlt hn hb (.inr ⟨_, hc, hl, hx⟩), loop_r]
    exact ⟨_, rfl, by simp only [more, if_pos hx]; rfl⟩
   ·rw [Int.pow_succ] at h1
    have hp : (1 : Int) <= 64 ^ m := Int.pow_pos (by omega)
    have hr : (r + 1) * 64 * 64 ^ m = (r + 1) * (64 ^ m * 64) := by rw [Int.mul_assoc, Int.mul_comm 64]
    have h2 : (r + 1) * 64 * 1 <= (r + 1) * 64 * 64 ^ m := Int.mul_le_mul_of_nonneg_left hp (by omega)
    have h3 : (r * 64 + b[i + 1] % 64 + 1) * 64 ^ m <= (r + 1) * 64 * 64 ^ m := Int.mul_le_mul_of_nonneg_right (by omega) (by omega)
    rw [round58 hc hlt hn hb hl hcy.1 hcy.2 h0 (by omega) (by simp; omega), loop_n]
    have := ih (i + 1) (r * 64 + b[i + 1] % 64) 128 191 (by omega) (by omega) (by omega) (by omega)
    simpa only [more, if_neg hx] using this
  ·have hs : b.length <= i + 1 := by omega
   rw [stop58 hlt hn hb (.inl hs), loop_r, List.drop_eq_nil_of_le hs]
   exact ⟨_, rfl, rfl⟩
end Go.Lift.S9
end

section
open Go.Proofs
namespace Go.Lift.S9
variable [MX]
open Utf
def two (x : Int × Nat × Bool) : V := .tup [.v (.int .i32 x.1), .v (.int .i64 x.2.1)]
theorem f58a {lo : Nat} {c : Int} {t : List Int} {h : Heap} (hb : (c :: t).length <= 140737488355328) (hy : By (c :: t)) (hc : 194 <= c /\ c <= 223) :
  E lo 58 [.list .no (ri .u8 (c :: t))] h = some (two (more 1 (c % 32) 128 191 1 t), h) := by
 have hcy := hy c (List.mem_cons_self ..)
 have t0 : decide (c < 128) = false := by simp; omega
 have t1 : decide (194 <= c) = true := by simp; omega
 have t2 : decide (c <= 223) = true := by simp; omega
 have t3 : decide (224 <= c) = false := by simp; omega
 have t4 : decide (c <= 239) = true := by simp; omega
 have t5 : decide (240 <= c) = false := by simp; omega
 have t6 : decide (c <= 244) = true := by simp; omega
 have q0 : (c == 224) = false := by simp; omega
 have q1 : (c == 237) = false := by simp; omega
 have q2 : (c == 240) = false := by simp; omega
 have q3 : (c == 244) = false := by simp; omega
 have hx : (c :: t)[0]? = some c := rfl
 have hm : IntKind.i32.wrap (IntKind.u8.wrap (iand .u8 c 31)) = c % 32 := by rw [a31 hcy.1 hcy.2, wrap_u8 (by omega) (by omega), wrap_i32 (by omega) (by omega)]
 obtain ⟨z, hL, hz⟩ := loop58 (lo := lo) (b := c :: t) (h := h) (n := 1) (by omega) hb hy 1 0 (c % 32) 128 191 rfl (by omega) (by omega) (by omega)
 have hn : (c :: t).drop (0 + 1) = t := rfl
 rw [hn] at hz
 have n1 : ((1 : Nat) : Int) = 1 := rfl
 have n2 : ((2 : Nat) : Int) = 2 := rfl
 have n3 : ((3 : Nat) : Int) = 3 := rfl
 simp only [l58x0, b58, Tryd.f58, loopAt, loops, bodyOf, go_sem, n1, n2, n3] at hL
 rw [e58 (by simp) (by rfl)]
 unfold end58 at hz
 split at hz
 ·rename_i hk
  obtain ⟨low, high, rfl⟩ := hz
  simp only [n1, n2, n3] at hL
  simp only [go_sem, b58, Tryd.f58, hx, t0, t1, t2, t3, t4, t5, t6, q0, q1, q2, q3, hm, hL]
  rw [two, more_snd _ _ _ _ _ _ hk]
  rfl
 ·subst hz
  simp only [go_sem, b58, Tryd.f58, hx, t0, t1, t2, t3, t4, t5, t6, q0, q1, q2, q3, hm, hL]
  rfl
theorem f58b {lo : Nat} {c : Int} {t : List Int} {h : Heap} (hb : (c :: t).length <= 140737488355328) (hy : By (c :: t)) (hc : c = 224) :
  E lo 58 [.list .no (ri .u8 (c :: t))] h = some (two (more 2 (c % 16) 160 191 1 t), h) := by
 have hcy := hy c (List.mem_cons_self ..)
 have t0 : decide (c < 128) = false := by simp; omega
 have t1 : decide (194 <= c) = true := by simp; omega
 have t2 : decide (c <= 223) = false := by simp; omega
 have t3 : decide (224 <= c) = true := by simp; omega
 have t4 : decide (c <= 239) = true := by simp; omega
 have t5 : decide (240 <= c) = false := by simp; omega
 have t6 : decide (c <= 244) = true := by simp; omega
 have q0 : (c == 224) = true := by simp; omega
 have q1 : (c == 237) = false := by simp; omega
 have q2 : (c == 240) = false := by simp; omega
 have q3 : (c == 244) = false := by simp; omega
 have hx : (c :: t)[0]? = some c := rfl
 have hm : IntKind.i32.wrap (IntKind.u8.wrap (iand .u8 c 15)) = c % 16 := by rw [a15 hcy.1 hcy.2, wrap_u8 (by omega) (by omega), wrap_i32 (by omega) (by omega)]
 obtain ⟨z, hL, hz⟩ := loop58 (lo := lo) (b := c :: t) (h := h) (n := 2) (by omega) hb hy 2 0 (c % 16) 160 191 rfl (by omega) (by omega) (by omega)
 have hn : (c :: t).drop (0 + 1) = t := rfl
 rw [hn] at hz
 have n1 : ((1 : Nat) : Int) = 1 := rfl
 have n2 : ((2 : Nat) : Int) = 2 := rfl
 have n3 : ((3 : Nat) : Int) = 3 := rfl
 simp only [l58x0, b58, Tryd.f58, loopAt, loops, bodyOf, go_sem, n1, n2, n3] at hL
 rw [e58 (by simp) (by rfl)]
 unfold end58 at hz
 split at hz
 ·rename_i hk
  obtain ⟨low, high, rfl⟩ := hz
  simp only [n1, n2, n3] at hL
  simp only [go_sem, b58, Tryd.f58, hx, t0, t1, t2, t3, t4, t5, t6, q0, q1, q2, q3, hm, hL]
  rw [two, more_snd _ _ _ _ _ _ hk]
  rfl
 ·subst hz
  simp only [go_sem, b58, Tryd.f58, hx, t0, t1, t2, t3, t4, t5, t6, q0, q1, q2, q3, hm, hL]
  rfl
theorem f58c {lo : Nat} {c : Int} {t : List Int} {h : Heap} (hb : (c :: t).length <= 140737488355328) (hy : By (c :: t)) (hc : c = 237) :
  E lo 58 [.list .no (ri .u8 (c :: t))] h = some (two (more 2 (c % 16) 128 159 1 t), h) := by
 have hcy := hy c (List.mem_cons_self ..)
 have t0 : decide (c < 128) = false := by simp; omega
 have t1 : decide (194 <= c) = true := by simp; omega
 have t2 : decide (c <= 223) = false := by simp; omega
 have t3 : decide (224 <= c) = true := by simp; omega
 have t4 : decide (c <= 239) = true := by simp; omega
 have t5 : decide (240 <= c) = false := by simp; omega
 have t6 : decide (c <= 244) = true := by simp; omega
 have q0 : (c == 224) = false := by simp; omega
 have q1 : (c == 237) = true := by simp; omega
 have q2 : (c == 240) = false := by simp; omega
 have q3 : (c == 244) = false := by simp; omega
 have hx : (c :: t)[0]? = some c := rfl
 have hm : IntKind.i32.wrap (IntKind.u8.wrap (iand .u8 c 15)) = c % 16 := by rw [a15 hcy.1 hcy.2, wrap_u8 (by omega) (by omega), wrap_i32 (by omega) (by omega)]
 obtain ⟨z, hL, hz⟩ := loop58 (lo := lo) (b := c :: t) (h := h) (n := 2) (by omega) hb hy 2 0 (c % 16) 128 159 rfl (by omega) (by omega) (by omega)
 have hn : (c :: t).drop (0 + 1) = t := rfl
 rw [hn] at hz
 have n1 : ((1 : Nat) : Int) = 1 := rfl
 have n2 : ((2 : Nat) : Int) = 2 := rfl
 have n3 : ((3 : Nat) : Int) = 3 := rfl
 simp only [l58x0, b58, Tryd.f58, loopAt, loops, bodyOf, go_sem, n1, n2, n3] at hL
 rw [e58 (by simp) (by rfl)]
 unfold end58 at hz
 split at hz
 ·rename_i hk
  obtain ⟨low, high, rfl⟩ := hz
  simp only [n1, n2, n3] at hL
  simp only [go_sem, b58, Tryd.f58, hx, t0, t1, t2, t3, t4, t5, t6, q0, q1, q2, q3, hm, hL]
  rw [two, more_snd _ _ _ _ _ _ hk]
  rfl
 ·subst hz
  simp only [go_sem, b58, Tryd.f58, hx, t0, t1, t2, t3, t4, t5, t6, q0, q1, q2, q3, hm, hL]
  rfl
theorem f58d {lo : Nat} {c : Int} {t : List Int} {h : Heap} (hb : (c :: t).length <= 140737488355328) (hy : By (c :: t)) (hc : 225 <= c /\ c <= 239 /\ c ≠ 237) :
  E lo 58 [.list .no (ri .u8 (c :: t))] h = some (two (more 2 (c % 16) 128 191 1 t), h) := by
 have hcy := hy c (List.mem_cons_self ..)
 have t0 : decide (c < 128) = false := by simp; omega
 have t1 : decide (194 <= c) = true := by simp; omega
 have t2 : decide (c <= 223) = false := by simp; omega
 have t3 : decide (224 <= c) = true := by simp; omega
 have t4 : decide (c <= 239) = true := by simp; omega
 have t5 : decide (240 <= c) = false := by simp; omega
 have t6 : decide (c <= 244) = true := by simp; omega
 have q0 : (c == 224) = false := by simp; omega
 have q1 : (c == 237) = false := by simp; omega
 have q2 : (c == 240) = false := by simp; omega
 have q3 : (c == 244) = false := by simp; omega
 have hx : (c :: t)[0]? = some c := rfl
 have hm : IntKind.i32.wrap (IntKind.u8.wrap (iand .u8 c 15)) = c % 16 := by rw [a15 hcy.1 hcy.2, wrap_u8 (by omega) (by omega), wrap_i32 (by omega) (by omega)]
 obtain ⟨z, hL, hz⟩ := loop58 (lo := lo) (b := c :: t) (h := h) (n := 2) (by omega) hb hy 2 0 (c % 16) 128 191 rfl (by omega) (by omega) (by omega)
 have hn : (c :: t).drop (0 + 1) = t := rfl
 rw [hn] at hz
 have n1 : ((1 : Nat) : Int) = 1 := rfl
 have n2 : ((2 : Nat) : Int) = 2 := rfl
 have n3 : ((3 : Nat) : Int) = 3 := rfl
 simp only [l58x0, b58, Tryd.f58, loopAt, loops, bodyOf, go_sem, n1, n2, n3] at hL
 rw [e58 (by simp) (by rfl)]
 unfold end58 at hz
 split at hz
 ·rename_i hk
  obtain ⟨low, high, rfl⟩ := hz
  simp only [n1, n2, n3] at hL
  simp only [go_sem, b58, Tryd.f58, hx, t0, t1, t2, t3, t4, t5, t6, q0, q1, q2, q3, hm, hL]
  rw [two, more_snd _ _ _ _ _ _ hk]
  rfl
 ·subst hz
  simp only [go_sem, b58, Tryd.f58, hx, t0, t1, t2, t3, t4, t5, t6, q0, q1, q2, q3, hm, hL]
  rfl
theorem f58e {lo : Nat} {c : Int} {t : List Int} {h : Heap} (hb : (c :: t).length <= 140737488355328) (hy : By (c :: t)) (hc : c = 240) :
  E lo 58 [.list .no (ri .u8 (c :: t))] h = some (two (more 3 (c % 8) 144 191 1 t), h) := by
 have hcy := hy c (List.mem_cons_self ..)
 have t0 : decide (c < 128) = false := by simp; omega
 have t1 : decide (194 <= c) = true := by simp; omega
 have t2 : decide (c <= 223) = false := by simp; omega
 have t3 : decide (224 <= c) = true := by simp; omega
 have t4 : decide (c <= 239) = false := by simp; omega
 have t5 : decide (240 <= c) = true := by simp; omega
 have t6 : decide (c <= 244) = true := by simp; omega
 have q0 : (c == 224) = false := by simp; omega
 have q1 : (c == 237) = false := by simp; omega
 have q2 : (c == 240) = true := by simp; omega
 have q3 : (c == 244) = false := by simp; omega
 have hx : (c :: t)[0]? = some c := rfl
 have hm : IntKind.i32.wrap (IntKind.u8.wrap (iand .u8 c 7)) = c % 8 := by rw [a7 hcy.1 hcy.2, wrap_u8 (by omega) (by omega), wrap_i32 (by omega) (by omega)]
 obtain ⟨z, hL, hz⟩ := loop58 (lo := lo) (b := c :: t) (h := h) (n := 3) (by omega) hb hy 3 0 (c % 8) 144 191 rfl (by omega) (by omega) (by omega)
 have hn : (c :: t).drop (0 + 1) = t := rfl
 rw [hn] at hz
 have n1 : ((1 : Nat) : Int) = 1 := rfl
 have n2 : ((2 : Nat) : Int) = 2 := rfl
 have n3 : ((3 : Nat) : Int) = 3 := rfl
 simp only [l58x0, b58, Tryd.f58, loopAt, loops, bodyOf, go_sem, n1, n2, n3] at hL
 rw [e58 (by simp) (by rfl)]
 unfold end58 at hz
 split at hz
 ·rename_i hk
  obtain ⟨low, high, rfl⟩ := hz
  simp only [n1, n2, n3] at hL
  simp only [go_sem, b58, Tryd.f58, hx, t0, t1, t2, t3, t4, t5, t6, q0, q1, q2, q3, hm, hL]
  rw [two, more_snd _ _ _ _ _ _ hk]
  rfl
 ·subst hz
  simp only [go_sem, b58, Tryd.f58, hx, t0, t1, t2, t3, t4, t5, t6, q0, q1, q2, q3, hm, hL]
  rfl
theorem f58f {lo : Nat} {c : Int} {t : List Int} {h : Heap} (hb : (c :: t).length <= 140737488355328) (hy : By (c :: t)) (hc : 241 <= c /\ c <= 243) :
  E lo 58 [.list .no (ri .u8 (c :: t))] h = some (two (more 3 (c % 8) 128 191 1 t), h) := by
 have hcy := hy c (List.mem_cons_self ..)
 have t0 : decide (c < 128) = false := by simp; omega
 have t1 : decide (194 <= c) = true := by simp; omega
 have t2 : decide (c <= 223) = false := by simp; omega
 have t3 : decide (224 <= c) = true := by simp; omega
 have t4 : decide (c <= 239) = false := by simp; omega
 have t5 : decide (240 <= c) = true := by simp; omega
 have t6 : decide (c <= 244) = true := by simp; omega
 have q0 : (c == 224) = false := by simp; omega
 have q1 : (c == 237) = false := by simp; omega
 have q2 : (c == 240) = false := by simp; omega
 have q3 : (c == 244) = false := by simp; omega
 have hx : (c :: t)[0]? = some c := rfl
 have hm : IntKind.i32.wrap (IntKind.u8.wrap (iand .u8 c 7)) = c % 8 := by rw [a7 hcy.1 hcy.2, wrap_u8 (by omega) (by omega), wrap_i32 (by omega) (by omega)]
 obtain ⟨z, hL, hz⟩ := loop58 (lo := lo) (b := c :: t) (h := h) (n := 3) (by omega) hb hy 3 0 (c % 8) 128 191 rfl (by omega) (by omega) (by omega)
 have hn : (c :: t).drop (0 + 1) = t := rfl
 rw [hn] at hz
 have n1 : ((1 : Nat) : Int) = 1 := rfl
 have n2 : ((2 : Nat) : Int) = 2 := rfl
 have n3 : ((3 : Nat) : Int) = 3 := rfl
 simp only [l58x0, b58, Tryd.f58, loopAt, loops, bodyOf, go_sem, n1, n2, n3] at hL
 rw [e58 (by simp) (by rfl)]
 unfold end58 at hz
 split at hz
 ·rename_i hk
  obtain ⟨low, high, rfl⟩ := hz
  simp only [n1, n2, n3] at hL
  simp only [go_sem, b58, Tryd.f58, hx, t0, t1, t2, t3, t4, t5, t6, q0, q1, q2, q3, hm, hL]
  rw [two, more_snd _ _ _ _ _ _ hk]
  rfl
 ·subst hz
  simp only [go_sem, b58, Tryd.f58, hx, t0, t1, t2, t3, t4, t5, t6, q0, q1, q2, q3, hm, hL]
  rfl
theorem f58g {lo : Nat} {c : Int} {t : List Int} {h : Heap} (hb : (c :: t).length <= 140737488355328) (hy : By (c :: t)) (hc : c = 244) :
  E lo 58 [.list .no (ri .u8 (c :: t))] h = some (two (more 3 (c % 8) 128 143 1 t), h) := by
 have hcy := hy c (List.mem_cons_self ..)
 have t0 : decide (c < 128) = false := by simp; omega
 have t1 : decide (194 <= c) = true := by simp; omega
 have t2 : decide (c <= 223) = false := by simp; omega
 have t3 : decide (224 <= c) = true := by simp; omega
 have t4 : decide (c <= 239) = false := by simp; omega
 have t5 : decide (240 <= c) = true := by simp; omega
 have t6 : decide (c <= 244) = true := by simp; omega
 have q0 : (c == 224) = false := by simp; omega
 have q1 : (c == 237) = false := by simp; omega
 have q2 : (c == 240) = false := by simp; omega
 have q3 : (c == 244) = true := by simp; omega
 have hx : (c :: t)[0]? = some c := rfl
 have hm : IntKind.i32.wrap (IntKind.u8.wrap (iand .u8 c 7)) = c % 8 := by rw [a7 hcy.1 hcy.2, wrap_u8 (by omega) (by omega), wrap_i32 (by omega) (by omega)]
 obtain ⟨z, hL, hz⟩ := loop58 (lo := lo) (b := c :: t) (h := h) (n := 3) (by omega) hb hy 3 0 (c % 8) 128 143 rfl (by omega) (by omega) (by omega)
 have hn : (c :: t).drop (0 + 1) = t := rfl
 rw [hn] at hz
 have n1 : ((1 : Nat) : Int) = 1 := rfl
 have n2 : ((2 : Nat) : Int) = 2 := rfl
 have n3 : ((3 : Nat) : Int) = 3 := rfl
 simp only [l58x0, b58, Tryd.f58, loopAt, loops, bodyOf, go_sem, n1, n2, n3] at hL
 rw [e58 (by simp) (by rfl)]
 unfold end58 at hz
 split at hz
 ·rename_i hk
  obtain ⟨low, high, rfl⟩ := hz
  simp only [n1, n2, n3] at hL
  simp only [go_sem, b58, Tryd.f58, hx, t0, t1, t2, t3, t4, t5, t6, q0, q1, q2, q3, hm, hL]
  rw [two, more_snd _ _ _ _ _ _ hk]
  rfl
 ·subst hz
  simp only [go_sem, b58, Tryd.f58, hx, t0, t1, t2, t3, t4, t5, t6, q0, q1, q2, q3, hm, hL]
  rfl
end Go.Lift.S9
end

section
open Go.Proofs
namespace Go.Lift.S9
variable [MX]
open Utf
theorem f58 {lo : Nat} {c : Int} {t : List Int} {h : Heap} (hb : (c :: t).length <= 140737488355328) (hy : By (c :: t)) :
  E lo 58 [.list .no (ri .u8 (c :: t))] h = some (two (one (c :: t)), h) := by
 have hcy := hy c (List.mem_cons_self ..)
 have hx : (c :: t)[0]? = some c := rfl
 simp only [one]
 by_cases h0 : c < 128
 ·rw [if_pos h0]
  have t0 : decide (c < 128) = true := by simp; omega
  have hm : IntKind.i32.wrap c = c := wrap_i32 (by omega) (by omega)
  rw [e58 (by simp) (by rfl)]
  simp only [go_sem, b58, Tryd.f58, hx, t0, hm]
  rfl
 ·rw [if_neg h0]
  by_cases ha : 194 <= c /\ c <= 223
  ·have e : nd c = (1, 128, 191) := by unfold nd; rw [if_pos ha]
   rw [f58a hb hy ha, e]
   rfl
  by_cases hb1 : c = 224
  ·have e : nd c = (2, 160, 191) := by unfold nd; rw [if_neg ha, if_pos hb1]
   rw [f58b hb hy hb1, e]
   rfl
  by_cases hc1 : c = 237
  ·have e : nd c = (2, 128, 159) := by unfold nd; rw [if_neg ha, if_neg hb1, if_pos hc1]
   rw [f58c hb hy hc1, e]
   rfl
  by_cases hd1 : 225 <= c /\ c <= 239
  ·have e : nd c = (2, 128, 191) := by unfold nd; rw [if_neg ha, if_neg hb1, if_neg hc1, if_pos hd1]
   rw [f58d hb hy ⟨hd1.1, hd1.2, hc1⟩, e]
   rfl
  by_cases he1 : c = 240
  ·have e : nd c = (3, 144, 191) := by unfold nd; rw [if_neg ha, if_neg hb1, if_neg hc1, if_neg hd1, if_pos he1]
   rw [f58e hb hy he1, e]
   rfl
  by_cases hf1 : 241 <= c /\ c <= 243
  ·have e : nd c = (3, 128, 191) := by unfold nd; rw [if_neg ha, if_neg hb1, if_neg hc1, if_neg hd1, if_neg he1, if_pos hf1]
   rw [f58f hb hy hf1, e]
   rfl
  by_cases hg1 : c = 244
  ·have e : nd c = (3, 128, 143) := by unfold nd; rw [if_neg ha, if_neg hb1, if_neg hc1, if_neg hd1, if_neg he1, if_neg hf1, if_pos hg1]
   rw [f58g hb hy hg1, e]
   rfl
  have e : nd c = (0, 0, 0) := by unfold nd; rw [if_neg ha, if_neg hb1, if_neg hc1, if_neg hd1, if_neg he1, if_neg hf1, if_neg hg1]
  rw [e, if_pos rfl]
  have t0 : decide (c < 128) = false := by simp; omega
  have t1 : (decide (194 <= c) && decide (c <= 223)) = false := by simp; omega
  have t2 : (decide (224 <= c) && decide (c <= 239)) = false := by simp; omega
  have t3 : (decide (240 <= c) && decide (c <= 244)) = false := by simp; omega
  rw [e58 (by simp) (by rfl)]
  simp only [go_sem, b58, Tryd.f58, hx, t0, t1, t2, t3]
  rfl
end Go.Lift.S9
end

section
open Go.Proofs
namespace Go.Lift.S9
variable [MX]
open Utf
theorem f58n {lo : Nat} {b : List Int} {h : Heap} (hn : b ≠ []) (hb : b.length <= 140737488355328) (hy : By b) : E lo 58 [.list .no (ri .u8 b)] h = some (two (one b), h) := by
 cases b with
 | nil => exact absurd rfl hn
 | cons c t => exact f58 hb hy
end Go.Lift.S9
end

section
open Go.Proofs
namespace Go.Lift.S9
variable [MX]
open Utf
theorem round46 {lo : Nat} {b : List Int} {h : Heap} (hn : b ≠ []) (hb : b.length <= 140737488355328) (hy : By b) :
  evCode ⟨Tryd.prog, E, lo, h.length, h46⟩ loopW l46x0 ([(0, .list .no (ri .u8 b))], h) =
   if bad b = true then some (.ret, [(2, .v (.bool false))], h) else some (.normal, [(0, .list .no (ri .u8 (b.drop (one b).2.1)))], h) := by
 have hl : 0 < b.length := List.length_pos_iff.mpr hn
 have hd : decide ((0 : Int) < b.length) = true := by simpa using hl
 have hk := (one_b hn).2.2
 have hs : 0 <= ((one b).2.1 : Int) := by omega
 have fin : ∀ {v : Bool}, (bad b = v) -> (v = (bad b)) := fun h => h.symm
 cases h1 : (one b).1 == 65533 with
 | false =>
  have hv : bad b = false := by simp [bad, h1]
  simp only [go_sem, l46x0, b46, Tryd.f46, hd, f58n hn hb hy, two, hs, hk, Nat.le_refl, ri_drop, ri_take, Int.toNat_natCast, and_self, h1, hv, Bool.false_eq_true]
 | true =>
  by_cases h3 : (one b).2.1 < 3
  ·have hv : bad b = true := by simp [bad, h1, h3]
   have h4 : decide (((one b).2.1 : Int) < 3) = true := by simp; omega
   simp only [go_sem, l46x0, b46, Tryd.f46, hd, f58n hn hb hy, two, hs, hk, Nat.le_refl, ri_drop, ri_take, Int.toNat_natCast, and_self, h1, hv, h4]
  ·have h4 : decide (((one b).2.1 : Int) < 3) = false := by simp; omega
   obtain ⟨a1, a2, a3, t, he⟩ : ∃ a1 a2 a3 t, b = a1 :: a2 :: a3 :: t := by
    match b, hk with
    | [], hk => simp at hk; omega
    | [_], hk => simp at hk; omega
    | [_, _], hk => simp at hk; omega
    | a1 :: a2 :: a3 :: t, _ => exact ⟨_, _, _, _, rfl⟩
   have x1 : b[0]? = some a1 := by rw [he]; rfl
   have x2 : b[1]? = some a2 := by rw [he]; rfl
   have x3 : b[2]? = some a3 := by rw [he]; rfl
   have hv : bad b = (a1 != 239 || (a2 != 191 || a3 != 189)) := by
    have ht : isRep b = (a1 == 239 && (a2 == 191 && a3 == 189)) := by rw [he]; simp [isRep]
    simp only [bad, h1, h3, ht, decide_false, Bool.true_and, Bool.false_or, bne, Bool.not_and]
   clear he
   rw [hv]
   cases g1 : a1 != 239 with
   | true => simp only [go_sem, l46x0, b46, Tryd.f46, hd, f58n hn hb hy, two, hs, hk, Nat.le_refl, ri_drop, ri_take, Int.toNat_natCast, and_self, h1, h4, x1, x2, x3, g1]
   | false =>
    cases g2 : a2 != 191 with
    | true => simp only [go_sem, l46x0, b46, Tryd.f46, hd, f58n hn hb hy, two, hs, hk, Nat.le_refl, ri_drop, ri_take, Int.toNat_natCast, and_self, h1, h4, x1, x2, x3, g1, g2]
    | false =>
     cases g3 : a3 != 189 with
     | true => simp only [go_sem, l46x0, b46, Tryd.f46, hd, f58n hn hb hy, two, hs, hk, Nat.le_refl, ri_drop, ri_take, Int.toNat_natCast, and_self, h1, h4, x1, x2, x3, g1, g2, g3]
     | false => simp only [go_sem, l46x0, b46, Tryd.f46, hd, f58n hn hb hy, two, hs, hk, Nat.le_refl, ri_drop, ri_take, Int.toNat_natCast, and_self, h1, h4, x1, x2, x3, g1, g2, g3, Bool.false_eq_true]
theorem loop46 {lo : Nat} {h : Heap} : ∀ (n : Nat) (b : List Int), b.length <= n -> b.length <= 140737488355328 -> By b ->
  loopW (evCode ⟨Tryd.prog, E, lo, h.length, h46⟩ loopW l46x0) ([(0, .list .no (ri .u8 b))], h) =
   if whole b = true then some (.exit 0, [(0, .list .no []), (7, .v (.bool false))], h) else some (.ret, [(2, .v (.bool false))], h) := by
 have stop : loopW (evCode ⟨Tryd.prog, E, lo, h.length, h46⟩ loopW l46x0) ([(0, .list .no (ri .u8 []))], h) =
   if whole [] = true then some (.exit 0, [(0, .list .no []), (7, .v (.bool false))], h) else some (.ret, [(2, .v (.bool false))], h) := by
  rw [loop_eq]
  simp only [go_sem, l46x0, b46, Tryd.f46, whole_nil, ri_nil, List.length_nil]
  all_goals rfl
 intro n
 induction n with
 | zero =>
  intro b h1 h2 hy
  obtain rfl : b = [] := List.eq_nil_of_length_eq_zero (by omega)
  exact stop
 | succ n ih =>
  intro b h1 h2 hy
  by_cases hn : b = []
  ·subst hn; exact stop
  ·have hk := one_b hn
   have hlen : (b.drop (one b).2.1).length = b.length - (one b).2.1 := List.length_drop
   rw [loop_eq, round46 hn h2 hy, bad_eq hy hn, whole_b hn]
   cases hx : (one b).2.2 with
   | true => rw [if_neg (by simp), loop_n, ih _ (by omega) (by omega) (hy.drop _), Bool.true_and]
   | false => rw [if_pos (by simp), loop_r]; rfl
theorem f46 {lo : Nat} {b : List Int} {h : Heap} (hb : b.length <= 140737488355328) (hy : By b) : E lo 46 [.list .no (ri .u8 b)] h = some (.v (.bool (whole b)), h) := by
 rw [e46 (by simp) (by rfl)]
 have hL := loop46 (lo := lo) (h := h) b.length b (Nat.le_refl _) hb hy
 simp only [l46x0, b46, Tryd.f46, loopAt, loops, bodyOf, go_sem, ri_nil, List.drop_zero] at hL
 cases hx : whole b with
 | true =>
  rw [if_pos hx] at hL
  simp only [go_sem, b46, Tryd.f46, hL]
 | false =>
  rw [if_neg (by simp [hx])] at hL
  simp only [go_sem, b46, Tryd.f46, hL]
end Go.Lift.S9
end

section
namespace Go.Lift.Spell
open Utf Tok
def sound (b : List Int) : Bool := whole b && !b.contains 0
end Go.Lift.Spell
end

section
open Go.Proofs
namespace Go.Lift.S9
variable [MX]
open Utf Tok Spell
def bs (l : List Int) : ByteArray := ⟨(u8s l).toArray⟩
theorem bs_list (l : List Int) : (bs l).toList = u8s l := by simp [bs, ByteArray.toList_eq]
theorem bs_nil : bs [] = ByteArray.empty := rfl
theorem bs_nil_eq (l : List Int) : ((bs l).toList == (ByteArray.empty).toList) = decide (l = []) := by
 rw [<- bs_nil, bs_list, bs_list]
 cases l with
 | nil => rfl
 | cons c t => simp [u8s]
theorem By.take {l : List Int} (h : By l) (n : Nat) : By (l.take n) := fun c hc => h c (List.mem_of_mem_take hc)
theorem By.drop {l : List Int} (h : By l) (n : Nat) : By (l.drop n) := fun c hc => h c (List.mem_of_mem_drop hc)
theorem bytes_bs {l : List Int} (hy : By l) : byteRows (bs l) = ri .u8 l := by
 unfold byteRows bs u8s ri
 simp only [List.map_map]
 apply List.map_congr_left
 intro c hc
 have := hy c hc
 simp only [Function.comp]
 congr 4
 show ((UInt8.ofNat c.toNat).toNat : Int) = c
 simp only [UInt8.toNat_ofNat']
 omega
theorem bs_idx {l : List Int} (hy : By l) {c : Int} (h0 : 0 <= c) (h1 : c <= 255) : decide (0 <= Go.Lib.indexByte (bs l).data.toList c.toNat.toUInt8) = l.contains c := by
 unfold bs
 simp only
 induction l with
 | nil => rfl
 | cons x t ih =>
  have hx := hy x (by simp)
  have ih := ih fun y hy2 => hy y (by simp [hy2])
  have hge := Go.Lib.indexByte_ge (u8s t) c.toNat.toUInt8
  simp only [u8s, List.map_cons, Go.Lib.indexByte, List.contains_cons] at ih hge ⊢
  have e : (UInt8.ofNat x.toNat == c.toNat.toUInt8) = (c == x) := by
   rw [Bool.eq_iff_iff, beq_iff_eq, beq_iff_eq]
   constructor
   ·intro h
    have h2 := congrArg UInt8.toNat h
    simp only [UInt8.toNat_ofNat', Nat.toUInt8_eq] at h2
    omega
   ·rintro rfl
    rfl
  rw [e]
  cases c == x with
  | true => rw [if_pos rfl]; simp
  | false =>
   rw [if_neg (by simp), Bool.false_or, <- ih]
   by_cases h : Go.Lib.indexByte (List.map (fun n => UInt8.ofNat n.toNat) t) c.toNat.toUInt8 = -1
   ·rw [if_pos (by simpa using h)]
    refine decide_eq_decide.2 ⟨fun h9 => by omega, fun h9 => ?_⟩
    have h8 : 0 <= Go.Lib.indexByte (List.map (fun n => UInt8.ofNat n.toNat) t) c.toNat.toUInt8 := h9
    omega
   ·rw [if_neg (by simpa using h)]
    refine decide_eq_decide.2 ⟨fun h9 => ?_, fun h9 => ?_⟩
    ·show 0 <= Go.Lib.indexByte (List.map (fun n => UInt8.ofNat n.toNat) t) c.toNat.toUInt8
     omega
    ·have h8 : 0 <= Go.Lib.indexByte (List.map (fun n => UInt8.ofNat n.toNat) t) c.toNat.toUInt8 := h9
     omega
theorem bs_nil_eq' (l : List Int) : ((bs l).toList == (⟨#[]⟩ : ByteArray).toList) = decide (l = []) := bs_nil_eq l
end Go.Lift.S9
end

section
open Go.Proofs
namespace Go.Lift.S9
variable [MX]
open Utf Tok Spell
section
variable {lo : Nat} {h : Heap}
theorem u8s_one {c : Int} : (bs [c]).data.toList = [c.toNat.toUInt8] := rfl
theorem f77 {l : List Int} (hy : By l) {c : Int} (h0 : 0 <= c) (h1 : c <= 255) :
  E lo 77 [.v (.string (bs l)), .v (.string (bs [c]))] h = some (.v (.int .i64 (Go.Lib.indexByte (bs l).data.toList c.toNat.toUInt8)), h) := by
 show ev Tryd.prog hints primz lo 77 _ h = _
 rw [ev_prim (p := ixP) rfl]
 unfold ixP
 simp only [u8s_one]
theorem f59 {l : List Int} (hy : By l) {c : Int} (h0 : 0 <= c) (h1 : c <= 255) :
  E lo 59 [.v (.string (bs l)), .v (.string (bs [c]))] h = some (.v (.int .i64 (Go.Lib.indexByte (bs l).data.toList c.toNat.toUInt8)), h) := by
 rw [e59 (by simp) (by rfl)]
 simp only [go_sem, b59, Tryd.f59, f77 hy h0 h1]
 all_goals rfl
theorem f47 {l : List Int} (hy : By l) {c : Int} (h0 : 0 <= c) (h1 : c <= 255) :
  E lo 47 [.v (.string (bs l)), .v (.string (bs [c]))] h = some (.v (.bool (l.contains c)), h) := by
 rw [e47 (by simp) (by rfl)]
 have t := bs_idx hy h0 h1
 simp only [go_sem, b47, Tryd.f47, f59 hy h0 h1, t]
 all_goals rfl
end
end Go.Lift.S9
end

section
namespace Go.Lift.Sel
mutual
inductive Sm where
 | mk (k : Int) (name : List Int) (op : Int) (val : List Int) (fold : Bool) (list : List Cx) (a b : Int)
inductive Cp where
 | mk (comb : Int) (sms : List Sm)
inductive Cx where
 | mk (parts : List Cp)
end
def Sm.k : Sm -> Int
 | .mk k _ _ _ _ _ _ _ => k
def isStep (n : Int) : Bool := decide (-1073741824 <= n) && decide (n <= 1073741824)
variable (txt : List Int -> Bool)
def isName (b : List Int) : Bool := !b.isEmpty && txt b
mutual
def simpleP (d : Nat) : Sm -> Bool
 | .mk k n o v f l a b =>
  if k = 2 \/ k = 3 \/ k = 4 then isName txt n && (l.isEmpty && (o == 0 && (v.isEmpty && (!f && (a == 0 && b == 0)))))
  else if k = 5 then (decide (d < 65) && isName txt n && decide (0 <= o) && decide (o <= 6) && txt v && (o != 0 || v.isEmpty && !f)) && (l.isEmpty && (a == 0 && b == 0))
  else if k = 6 \/ k = 7 \/ k = 8 then (!l.isEmpty && decide (d + 1 <= 65) && cxsP (d + 1) l) && (n.isEmpty && (o == 0 && (v.isEmpty && (!f && (a == 0 && b == 0)))))
  else if k = 14 \/ k = 15 then (decide (d < 65) && isStep a && isStep b) && (l.isEmpty && (n.isEmpty && (o == 0 && (v.isEmpty && !f))))
  else if k = 1 \/ 9 <= k /\ k <= 13 then l.isEmpty && (n.isEmpty && (o == 0 && (v.isEmpty && (!f && (a == 0 && b == 0)))))
  else false
def smsP (d : Nat) (first : Bool) : List Sm -> Bool
 | [] => true
 | s :: r => (first || decide (2 < s.k)) && simpleP d s && smsP d false r
def cpsP (d : Nat) (first : Bool) : List Cp -> Bool
 | [] => true
 | .mk c ss :: r => ((first == (c == 0)) && decide (0 <= c) && decide (c <= 4) && !ss.isEmpty) && smsP d true ss && cpsP d false r
def cxsP (d : Nat) : List Cx -> Bool
 | [] => true
 | .mk ps :: r => !ps.isEmpty && cpsP d true ps && cxsP d r
end
def mayP (d : Nat) (l : List Cx) : Bool := !l.isEmpty && decide (d <= 65) && cxsP txt d l
end Go.Lift.Sel
end

section
namespace Go.Lift.Sel
mutual
def smV : Sm -> List V
 | .mk k n o v f l a b => [.v (.int .i64 k), .v (.string (Rul.bs n)), .v (.int .i64 o), .v (.string (Rul.bs v)), .v (.bool f), .list .no (cxsC l), .v (.int .i64 a), .v (.int .i64 b)]
def cpV : Cp -> List V
 | .mk c ss => [.v (.int .i64 c), .list .no (smsC ss)]
def cxV : Cx -> List V
 | .mk ps => [.list .no (cpsC ps)]
def smsC : List Sm -> List (List V)
 | [] => []
 | s :: r => smV s :: smsC r
def cpsC : List Cp -> List (List V)
 | [] => []
 | p :: r => cpV p :: cpsC r
def cxsC : List Cx -> List (List V)
 | [] => []
 | c :: r => cxV c :: cxsC r
end
theorem smsC_map : ∀ l : List Sm, smsC l = l.map smV
 | [] => by rw [smsC]; rfl
 | s :: r => by rw [smsC, smsC_map r]; rfl
theorem cpsC_map : ∀ l : List Cp, cpsC l = l.map cpV
 | [] => by rw [cpsC]; rfl
 | s :: r => by rw [cpsC, cpsC_map r]; rfl
theorem cxsC_map : ∀ l : List Cx, cxsC l = l.map cxV
 | [] => by rw [cxsC]; rfl
 | s :: r => by rw [cxsC, cxsC_map r]; rfl
theorem smsC_len (l : List Sm) : (smsC l).length = l.length := by rw [smsC_map, List.length_map]
theorem cpsC_len (l : List Cp) : (cpsC l).length = l.length := by rw [cpsC_map, List.length_map]
theorem cxsC_len (l : List Cx) : (cxsC l).length = l.length := by rw [cxsC_map, List.length_map]
end Go.Lift.Sel
end

section
open Go.Proofs
namespace Go.Lift.S9
variable [MX]
variable {lo : Nat} {h : Heap}
theorem f34 {n : Int} : E lo 34 [.v (.int .i64 n)] h = some (.v (.bool (Sel.isStep n)), h) := by
 rw [e34 (by simp) (by rfl)]
 unfold Sel.isStep
 cases h1 : decide (-1073741824 <= n) with
 | true =>
  simp only [go_sem, b34, Tryd.f34, h1]
  all_goals rfl
 | false =>
  simp only [go_sem, b34, Tryd.f34, h1]
  all_goals rfl
open Utf Spell
theorem bs_zero : (⟨#[0]⟩ : ByteArray) = bs [0] := rfl
theorem f33 {b : List Int} (hy : By b) (hl : b.length <= 1000000000) (hlo : lo <= h.length) : E lo 33 [.v (.string (bs b))] h = some (.v (.bool (sound b)), h) := by
 have c46 := f46 (lo := lo) (h := h) (b := b) (by omega) hy
 have c46b := f46 (lo := h.length) (h := h) (b := b) (by omega) hy
 have c47 := fun lo => f47 (lo := lo) (h := h) (l := b) hy (c := 0) (by omega) (by omega)
 have c47a := c47 lo; have c47b := c47 h.length
 have hb := bytes_bs hy
 rw [e33 (by simp) (by rfl)]
 unfold sound
 cases hw : whole b with
 | true =>
  rw [hw] at c46 c46b
  simp only [go_sem, b33, Tryd.f33, hlo, hb, c46, c46b, bs_zero, c47a, c47b]
  all_goals rfl
 | false =>
  rw [hw] at c46 c46b
  simp only [go_sem, b33, Tryd.f33, hlo, hb, c46, c46b, bs_zero, c47a, c47b]
  all_goals rfl
theorem f32 {b : List Int} (hy : By b) (hl : b.length <= 1000000000) (hlo : lo <= h.length) : E lo 32 [.v (.string (bs b))] h = some (.v (.bool (Sel.isName sound b)), h) := by
 have c33 := f33 (lo := lo) (h := h) hy hl hlo
 have c33b := f33 (lo := h.length) (h := h) hy hl (Nat.le_refl _)
 have qe := bs_nil_eq' b
 rw [e32 (by simp) (by rfl)]
 unfold Sel.isName
 cases b with
 | nil =>
  have q : ((bs []).toList == (⟨#[]⟩ : ByteArray).toList) = true := qe.trans (by simp)
  simp only [go_sem, b32, Tryd.f32, hlo, q, c33, c33b]
  all_goals rfl
 | cons x r =>
  have q : ((bs (x :: r)).toList == (⟨#[]⟩ : ByteArray).toList) = false := qe.trans (by simp)
  simp only [go_sem, b32, Tryd.f32, hlo, q, c33, c33b]
  all_goals rfl
end Go.Lift.S9
end

section
namespace Go.Lift.Sel
structure Wt where
 a : Int
 b : Int
 c : Int
 deriving DecidableEq
def wz : Wt := ⟨0, 0, 0⟩
def addW (x y : Wt) : Wt := ⟨IntKind.i64.wrap (x.a + y.a), IntKind.i64.wrap (x.b + y.b), IntKind.i64.wrap (x.c + y.c)⟩
def lessW (x y : Wt) : Bool := if x.a != y.a then decide (x.a < y.a) else if x.b != y.b then decide (x.b < y.b) else if x.c != y.c then decide (x.c < y.c) else false
def mostF (out : Wt) : List Wt -> Wt
 | [] => out
 | w :: r => mostF (if lessW out w = true then w else out) r
def mostW : List Wt -> Wt
 | [] => wz
 | w :: r => mostF w r
mutual
def wSm : Sm -> Wt
 | .mk k n o v f l a b => if k = 1 \/ k = 8 then wz else if k = 4 then ⟨1, 0, 0⟩ else if k = 2 then ⟨0, 0, 1⟩ else if k = 6 \/ k = 7 then mostW (wCxs l) else ⟨0, 1, 0⟩
def wSms (acc : Wt) : List Sm -> Wt
 | [] => acc
 | s :: r => wSms (addW acc (wSm s)) r
def wCps (acc : Wt) : List Cp -> Wt
 | [] => acc
 | .mk c ss :: r => wCps (wSms acc ss) r
def wCxs : List Cx -> List Wt
 | [] => []
 | .mk ps :: r => wCps wz ps :: wCxs r
end
theorem wrap_i64' (n : Int) : IntKind.i64.wrap n = (n + 9223372036854775808) % 18446744073709551616 - 9223372036854775808 := by
 simp [IntKind.wrap, IntKind.signed, IntKind.bits]
 omega
theorem addW_assoc (x y z : Wt) : addW (addW x y) z = addW x (addW y z) := by
 simp only [addW, wrap_i64', Wt.mk.injEq]
 omega
theorem addW_z (x y : Wt) : addW (addW x y) wz = addW x y := by
 simp only [addW, wrap_i64', wz, Wt.mk.injEq]
 omega
theorem wSms_add : ∀ (l : List Sm) (x : Wt), addW x wz = x -> wSms x l = addW x (wSms wz l)
 | [], x, h => by rw [wSms, wSms, h]
 | s :: r, x, h => by
  rw [wSms, wSms, wSms_add r (addW x (wSm s)) (addW_z _ _), wSms_add r (addW wz (wSm s)) (addW_z _ _), addW_assoc]
  have : addW x (addW (addW wz (wSm s)) (wSms wz r)) = addW (addW x wz) (addW (wSm s) (wSms wz r)) := by rw [addW_assoc, addW_assoc]
  rw [this, h]
theorem wSms_z : ∀ (l : List Sm) (x : Wt), addW x wz = x -> addW (wSms x l) wz = wSms x l
 | [], x, h => by rw [wSms, h]
 | s :: r, x, h => by rw [wSms]; exact wSms_z r _ (addW_z _ _)
def sumCps (acc : Wt) : List Cp -> Wt
 | [] => acc
 | .mk c ss :: r => sumCps (addW acc (wSms wz ss)) r
theorem sum_eq : ∀ (l : List Cp) (x : Wt), addW x wz = x -> sumCps x l = wCps x l
 | [], x, h => by rw [sumCps, wCps]
 | .mk c ss :: r, x, h => by
  rw [sumCps, wCps, wSms_add ss x h]
  exact sum_eq r _ (addW_z _ _)
theorem most_two (w : Wt) : mostW [w, w] = w := by simp [mostW, mostF]
end Go.Lift.Sel
end

section
open Go.Proofs
namespace Go.Lift.S9
variable [MX]
variable {lo : Nat} {h : Heap}
open Utf Spell Sel
def wV (w : Wt) : List V := [.v (.int .i64 w.a), .v (.int .i64 w.b), .v (.int .i64 w.c)]
theorem wV_eq (w : Wt) : wV w = [.v (.int .i64 w.a), .v (.int .i64 w.b), .v (.int .i64 w.c)] := rfl
theorem fl29 : flatOf Tryd.prog 29 = some [1, 1, 1] := by kernel_rfl
theorem eq_w {a b c a' b' c' : Int} : eqCells [1, 1, 1] [.v (.int .i64 a), .v (.int .i64 b), .v (.int .i64 c)] [.v (.int .i64 a'), .v (.int .i64 b'), .v (.int .i64 c')] = some (a == a' && (b == b' && c == c')) := by
 simp [eqCells, eqS]
theorem ix0 : ((0 : Int) < ((3 : Nat) : Int)) = True := by simp
theorem ix1 : ((1 : Int) < ((3 : Nat) : Int)) = True := by simp
theorem ix2 : ((2 : Int) < ((3 : Nat) : Int)) = True := by simp
theorem wr1 : IntKind.i64.wrap (0 + 1) = 1 := rfl
theorem wr2 : IntKind.i64.wrap (1 + 1) = 2 := rfl
theorem wr3 : IntKind.i64.wrap (2 + 1) = 3 := rfl
theorem lt0 : decide ((0 : Int) < 3) = true := rfl
theorem lt1 : decide ((1 : Int) < 3) = true := rfl
theorem lt2 : decide ((2 : Int) < 3) = true := rfl
theorem lt3 : decide ((3 : Int) < 3) = false := rfl
theorem f53 {x y : Wt} (hlo : lo <= h.length) : E lo 53 [.agg (wV x), .agg (wV y)] h = some (.v (.bool (lessW x y)), h) := by
 obtain ⟨a, b, c⟩ := x
 obtain ⟨a', b', c'⟩ := y
 have l1 : lo <= h.length + 1 := by omega
 have l2 : lo <= h.length + 2 := by omega
 rw [e53 (by simp) (by rfl), wV_eq, wV_eq]
 unfold lessW
 have na : (a != a') = !(a == a') := rfl
 have nb : (b != b') = !(b == b') := rfl
 have nc : (c != c') = !(c == c') := rfl
 cases h1 : a == a' with
 | false =>
  rw [h1] at na
  simp only [go_sem, b53, Tryd.f53, hlo, l1, l2, h1, na, loop_eq, fl29, eq_w, ix0, ix1, ix2, wr1, wr2, wr3, lt0, lt1, lt2, lt3, Bool.not_false, Bool.not_true, Bool.false_and, Bool.true_and, Bool.and_false]
  all_goals rfl
 | true =>
 rw [h1] at na
 cases h2 : b == b' with
 | false =>
  rw [h2] at nb
  simp only [go_sem, b53, Tryd.f53, hlo, l1, l2, h1, na, h2, nb, loop_eq, fl29, eq_w, ix0, ix1, ix2, wr1, wr2, wr3, lt0, lt1, lt2, lt3, Bool.not_false, Bool.not_true, Bool.false_and, Bool.true_and, Bool.and_false]
  all_goals rfl
 | true =>
 rw [h2] at nb
 cases h3 : c == c' with
 | false =>
  rw [h3] at nc
  simp only [go_sem, b53, Tryd.f53, hlo, l1, l2, h1, na, h2, nb, h3, nc, loop_eq, fl29, eq_w, ix0, ix1, ix2, wr1, wr2, wr3, lt0, lt1, lt2, lt3, Bool.not_false, Bool.not_true, Bool.false_and, Bool.true_and, Bool.and_false]
  all_goals rfl
 | true =>
  rw [h3] at nc
  simp only [go_sem, b53, Tryd.f53, hlo, l1, l2, h1, na, h2, nb, h3, nc, loop_eq, fl29, eq_w, ix0, ix1, ix2, wr1, wr2, wr3, lt0, lt1, lt2, lt3, Bool.not_false, Bool.not_true, Bool.false_and, Bool.true_and, Bool.and_false]
  all_goals rfl
end Go.Lift.S9
end

section
open Go.Proofs
namespace Go.Lift.S9
variable [MX]
variable {lo : Nat} {h : Heap}
open Utf Spell Sel
noncomputable abbrev X39 (lo : Nat) (h : Heap) : Go.Lift.Cx := ⟨Tryd.prog, E, lo, h.length, h39⟩
abbrev NM39 (h : Heap) (l : List Wt) (k : Int) : Env := [(2, .ptr h.length 0), (3, .ptr (h.length + 1) 0), (6, .list .no (l.map wV)), (7, .v (.int .i64 l.length)), (8, .v (.int .i64 k))]
abbrev HM39 (h : Heap) (w : Wt) : Heap := h ++ [.cells [.v (.int .i64 0), .v (.int .i64 0), .v (.int .i64 0)], .cells [.v (.int .i64 w.a), .v (.int .i64 w.b), .v (.int .i64 w.c)]]
theorem r39 {l : List Wt} {w out : Wt} {k : Nat} (hlo : lo <= h.length) (hl : l.length <= 1000000000) (hg : l[k]? = some w) :
  evCode (X39 lo h) loopW l39x0 (NM39 h l k, HM39 h out) = some (.normal, NM39 h l (k + 1 : Nat), HM39 h (if (k == 0 || lessW out w) = true then w else out)) := by
 have hlt : k < l.length := (List.getElem?_eq_some_iff.1 hg).1
 obtain ⟨a, b, c⟩ := w
 obtain ⟨a', b', c'⟩ := out
 have hgr : (l.map wV)[k]? = some [.v (.int .i64 a), .v (.int .i64 b), .v (.int .i64 c)] := by simp [hg, wV]
 have l1 : lo <= h.length + 1 := by omega
 have l2 : lo <= h.length + 2 := by omega
 have l3 : lo <= h.length + 3 := by omega
 have d1 : decide (h.length < h.length + 2) = true := by simp
 have d2 : decide (h.length + 1 < h.length + 2) = true := by simp
 have q1 : decide ((k : Int) < (l.length : Int)) = true := by simp; omega
 have hw : IntKind.i64.wrap ((k : Int) + 1) = ((k + 1 : Nat) : Int) := wrap_succ (by omega)
 have c0 : ((k : Int) == 0) = (k == 0) := by rw [Bool.eq_iff_iff]; simp
 have c53 := fun lo h hlo => f53 (lo := lo) (h := h) (x := ⟨a', b', c'⟩) (y := ⟨a, b, c⟩) hlo
 simp only [wV_eq] at c53
 cases h0 : k == 0 with
 | true =>
  rw [h0] at c0
  rw [if_pos (by simp)]
  simp only [go_sem, l39x0, b39, Tryd.f39, hlo, l1, l2, l3, d1, d2, q1, hgr, hw, c0, List.length_map]
  all_goals rfl
 | false =>
  rw [h0] at c0
  rw [Bool.false_or]
  cases h1 : lessW ⟨a', b', c'⟩ ⟨a, b, c⟩ with
  | true =>
   rw [h1] at c53
   rw [if_pos rfl]
   simp only [go_sem, l39x0, b39, Tryd.f39, hlo, l1, l2, l3, d1, d2, q1, hgr, hw, c0, c53, List.length_map]
   all_goals rfl
  | false =>
   rw [h1] at c53
   rw [if_neg (by simp)]
   simp only [go_sem, l39x0, b39, Tryd.f39, hlo, l1, l2, l3, d1, d2, q1, hgr, hw, c0, c53, List.length_map]
   all_goals rfl
theorem x39 {l : List Wt} {out : Wt} : evCode (X39 lo h) loopW l39x0 (NM39 h l l.length, HM39 h out) = some (.exit 0, NM39 h l l.length ++ [(9, .v (.bool false))], HM39 h out) := by
 have q : decide ((l.length : Int) < (l.length : Int)) = false := by simp
 simp only [go_sem, l39x0, b39, Tryd.f39, q]
 all_goals rfl
theorem l39 {l : List Wt} (hlo : lo <= h.length) (hl : l.length <= 1000000000) : ∀ (m k : Nat) (out : Wt), k + m = l.length -> 0 < k ->
  loopW (evCode (X39 lo h) loopW l39x0) (NM39 h l k, HM39 h out) = some (.exit 0, NM39 h l l.length ++ [(9, .v (.bool false))], HM39 h (mostF out (l.drop k))) := by
 intro m
 induction m with
 | zero =>
  intro k out hk _
  obtain rfl : k = l.length := by omega
  rw [List.drop_length, mostF, loop_eq, x39, loop_e]
 | succ m ih =>
  intro k out hk h0
  have hlt : k < l.length := by omega
  have z : (k == 0) = false := by rw [beq_eq_false_iff_ne]; omega
  rw [List.drop_eq_getElem_cons hlt, mostF, loop_eq, r39 hlo hl (List.getElem?_eq_getElem hlt), loop_n, ih (k + 1) _ (by omega) (by omega), z, Bool.false_or]
theorem l39z {l : List Wt} (hlo : lo <= h.length) (hl : l.length <= 1000000000) :
  loopW (evCode (X39 lo h) loopW l39x0) (NM39 h l (0 : Nat), HM39 h wz) = some (.exit 0, NM39 h l l.length ++ [(9, .v (.bool false))], HM39 h (mostW l)) := by
 cases l with
 | nil => rw [mostW, loop_eq]; exact congrArg (loopC loopW _) x39
 | cons w r =>
  have z : ((0 : Nat) == 0) = true := rfl
  rw [mostW, loop_eq, r39 (w := w) hlo hl rfl, loop_n, z, Bool.true_or, if_pos rfl, l39 hlo hl r.length 1 w (by simp; omega) (by omega)]
  rfl
theorem f39 {l : List Wt} (hlo : lo <= h.length) (hl : l.length <= 1000000000) : E lo 39 [.list .no (l.map wV)] h = some (.agg (wV (mostW l)), h) := by
 have l1 : lo <= h.length + 1 := by omega
 have l2 : lo <= h.length + 2 := by omega
 have n0 : ((0 : Nat) : Int) = 0 := rfl
 have hL := l39z (lo := lo) (h := h) hlo hl
 simp only [l39x0, b39, Tryd.f39, loopAt, loops, bodyOf, go_sem, n0, wz, List.cons_append, List.nil_append] at hL
 rw [e39 (by simp) (by rfl)]
 simp only [go_sem, b39, Tryd.f39, hlo, l1, l2, List.length_map, hL]
 all_goals rfl
end Go.Lift.S9
end

section
open Go.Proofs
namespace Go.Lift.S9
variable [MX]
variable {lo : Nat} {h : Heap}
open Utf Spell Sel
noncomputable abbrev X22 (lo : Nat) (h : Heap) : Go.Lift.Cx := ⟨Tryd.prog, E, lo, h.length, h22⟩
abbrev r22 (o a b : Int) (n v : List Int) (f : Bool) : Ob :=
 .cells [.v (.int .i64 0), .v (.string (bs n)), .v (.int .i64 o), .v (.string (bs v)), .v (.bool f), .list .yes [], .v (.int .i64 a), .v (.int .i64 b)]
theorem f22a {k o a b d : Int} {n v : List Int} {f : Bool} {l : List (List V)} (hlo : lo <= h.length) :
  evL (X22 lo h) loopW (pc b22 0 5) (args0 [.agg [.v (.int .i64 k), .v (.string (bs n)), .v (.int .i64 o), .v (.string (bs v)), .v (.bool f), .list .no l, .v (.int .i64 a), .v (.int .i64 b)], .v (.int .i64 d)], h) =
   some (.normal, [(1, .v (.int .i64 d)), (2, .ptr h.length 0), (5, .v (.bool true)), (6, .list .no l), (7, .ptr (h.length + 1) 0), (14, .v (.int .i64 k))],
    h ++ [.cells [.v (.int .i64 k), .v (.string (bs n)), .v (.int .i64 o), .v (.string (bs v)), .v (.bool f), .list .no l, .v (.int .i64 a), .v (.int .i64 b)], r22 o a b n v f]) := by
 have l1 : lo <= h.length + 1 := by omega
 have l2 : lo <= h.length + 2 := by omega
 simp only [go_sem, b22, Tryd.f22, hlo, l1, l2]
def fin22 (l : List (List V)) (o a b : Int) (n v : List Int) (f : Bool) : Bool := l.isEmpty && (n.isEmpty && (o == 0 && (v.isEmpty && (!f && (a == 0 && b == 0)))))
theorem f22z {g : Env} {ow : Own} {ok : Bool} {o a b : Int} {n v : List Int} {f : Bool} {l : List (List V)} {x : Ob} (ho : ow = .no \/ ow = .yes) (h5 : look g 5 = .v (.bool ok)) (h6 : look g 6 = .list ow l) (h7 : look g 7 = .ptr (h.length + 1) 0) (hll : l.length <= 1000000000) (hlo : lo <= h.length) :
  evL (X22 lo h) loopW (pc b22 6 1) (g, h ++ [x, r22 o a b n v f]) = some (.normal, [(4, .v (.bool (ok && fin22 l o a b n v f)))], h ++ [x, r22 o a b n v f]) := by
 have l1 : lo <= h.length + 1 := by omega
 have l2 : lo <= h.length + 2 := by omega
 unfold fin22
 cases ok with
 | false =>
  rw [Bool.false_and]
  rcases ho with rfl | rfl
  all_goals simp only [go_sem, b22, Tryd.f22, hlo, l1, l2, h5, h6, h7]
 | true =>
 rw [Bool.true_and]
 have ez : ((l.length : Int) == 0) = l.isEmpty := by cases l with | nil => rfl | cons y r => simp; omega
 have qn : ((bs n).toList == (⟨#[]⟩ : ByteArray).toList) = n.isEmpty := (bs_nil_eq' n).trans (by cases n <;> simp)
 have qv : ((bs v).toList == (⟨#[]⟩ : ByteArray).toList) = v.isEmpty := (bs_nil_eq' v).trans (by cases v <;> simp)
 have dz : decide ((l.length : Int) = 0) = l.isEmpty := by rw [<- ez]; rw [Bool.eq_iff_iff]; simp
 cases hz : l.isEmpty with
 | false =>
  rw [hz] at ez dz
  rw [Bool.false_and]
  rcases ho with rfl | rfl
  all_goals simp only [go_sem, b22, Tryd.f22, hlo, l1, l2, h5, h6, h7, ez, dz]
 | true =>
 rw [hz] at ez dz
 rw [Bool.true_and]
 cases hn : n.isEmpty with
 | false =>
  rw [hn] at qn
  rw [Bool.false_and]
  rcases ho with rfl | rfl
  all_goals simp only [go_sem, b22, Tryd.f22, hlo, l1, l2, h5, h6, h7, ez, dz, qn]
 | true =>
 rw [hn] at qn
 rw [Bool.true_and]
 cases h1 : o == 0 with
 | false =>
  rw [Bool.false_and]
  rcases ho with rfl | rfl
  all_goals simp only [go_sem, b22, Tryd.f22, hlo, l1, l2, h5, h6, h7, ez, dz, qn, h1]
 | true =>
 rw [Bool.true_and]
 cases hv : v.isEmpty with
 | false =>
  rw [hv] at qv
  rw [Bool.false_and]
  rcases ho with rfl | rfl
  all_goals simp only [go_sem, b22, Tryd.f22, hlo, l1, l2, h5, h6, h7, ez, dz, qn, h1, qv]
 | true =>
 rw [hv] at qv
 rw [Bool.true_and]
 cases f with
 | true =>
  rw [Bool.not_true, Bool.false_and]
  rcases ho with rfl | rfl
  all_goals simp only [go_sem, b22, Tryd.f22, hlo, l1, l2, h5, h6, h7, ez, dz, qn, h1, qv]
 | false =>
 rw [Bool.not_false, Bool.true_and]
 cases h2 : a == 0 with
 | false =>
  rw [Bool.false_and]
  rcases ho with rfl | rfl
  all_goals simp only [go_sem, b22, Tryd.f22, hlo, l1, l2, h5, h6, h7, ez, dz, qn, h1, qv, h2]
 | true =>
 rw [Bool.true_and]
 rcases ho with rfl | rfl
 all_goals simp only [go_sem, b22, Tryd.f22, hlo, l1, l2, h5, h6, h7, ez, dz, qn, h1, qv, h2]
abbrev cm22 (k o a b : Int) (n v : List Int) (f : Bool) (l : List (List V)) : Ob :=
 .cells [.v (.int .i64 k), .v (.string (bs n)), .v (.int .i64 o), .v (.string (bs v)), .v (.bool f), .list .no l, .v (.int .i64 a), .v (.int .i64 b)]
abbrev en22 (h : Heap) (k d : Int) (l : List (List V)) : Env :=
 [(1, .v (.int .i64 d)), (2, .ptr h.length 0), (5, .v (.bool true)), (6, .list .no l), (7, .ptr (h.length + 1) 0), (14, .v (.int .i64 k))]
def To22 (lo : Nat) (h : Heap) (k d o a b : Int) (n v : List Int) (f : Bool) (l : List (List V)) (ok : Bool) (l' : List (List V)) (o' a' b' : Int) (n' v' : List Int) (f' : Bool) : Prop :=
 ∃ (g : Env) (ow : Own), evL (X22 lo h) loopW (pc b22 5 1) (en22 h k d l, h ++ [cm22 k o a b n v f l, r22 o a b n v f]) = some (.normal, g, h ++ [cm22 k o a b n v f l, r22 o' a' b' n' v' f']) /\
  (ow = .no \/ ow = .yes) /\ look g 5 = .v (.bool ok) /\ look g 6 = .list ow l' /\ look g 7 = .ptr (h.length + 1) 0
variable {k d o a b : Int} {n v : List Int} {f : Bool} {l : List (List V)}
theorem k22a (hk : k = 1 \/ 9 <= k /\ k <= 13) (hlo : lo <= h.length) : To22 lo h k d o a b n v f l true l o a b n v f := by
 have l1 : lo <= h.length + 1 := by omega
 have l2 : lo <= h.length + 2 := by omega
 have hk' : k = 1 \/ k = 9 \/ k = 10 \/ k = 11 \/ k = 12 \/ k = 13 := by omega
 refine ⟨[(5, .v (.bool true)), (6, .list .no l), (7, .ptr (h.length + 1) 0), (14, .v (.int .i64 k)), (92, .v (.bool true))], .no, ?_, .inl rfl, ?_, ?_, ?_⟩
 ·rcases hk' with rfl | rfl | rfl | rfl | rfl | rfl
  all_goals
   simp only [go_sem, Int.reduceBEq, reduceIte, Bool.false_eq_true, b22, Tryd.f22, hlo, l1, l2]
 all_goals rfl
theorem k22b (hy : By n) (hl : n.length <= 1000000000) (hk : k = 2 \/ k = 3 \/ k = 4) (hlo : lo <= h.length) : To22 lo h k d o a b n v f l (Sel.isName sound n) l o a b [] v f := by
 have l1 : lo <= h.length + 1 := by omega
 have l2 : lo <= h.length + 2 := by omega
 have c32 := fun (lo : Nat) (h : Heap) (hlo : lo <= h.length) => f32 hy hl hlo
 refine ⟨[(1, .v (.int .i64 d)), (2, .ptr h.length 0), (5, .v (.bool (Sel.isName sound n))), (6, .list .no l), (7, .ptr (h.length + 1) 0), (14, .v (.int .i64 k)), (15, .v (.bool true))], .no, ?_, .inl rfl, ?_, ?_, ?_⟩
 ·rcases hk with rfl | rfl | rfl
  all_goals
   simp only [go_sem, Int.reduceBEq, reduceIte, Bool.false_eq_true, b22, Tryd.f22, hlo, l1, l2, c32]
   rfl
 all_goals rfl
theorem k22o (hk : k < 1 \/ 15 < k) (hlo : lo <= h.length) : To22 lo h k d o a b n v f l false l o a b n v f := by
 have l1 : lo <= h.length + 1 := by omega
 have l2 : lo <= h.length + 2 := by omega
 have hne : ∀ i : Int, 1 <= i -> i <= 15 -> (k == i) = false := fun i h1 h2 => by rw [beq_eq_false_iff_ne]; omega
 have q1 := hne 1 (by omega) (by omega)
 have q2 := hne 2 (by omega) (by omega)
 have q3 := hne 3 (by omega) (by omega)
 have q4 := hne 4 (by omega) (by omega)
 have q5 := hne 5 (by omega) (by omega)
 have q6 := hne 6 (by omega) (by omega)
 have q7 := hne 7 (by omega) (by omega)
 have q8 := hne 8 (by omega) (by omega)
 have q9 := hne 9 (by omega) (by omega)
 have q10 := hne 10 (by omega) (by omega)
 have q11 := hne 11 (by omega) (by omega)
 have q12 := hne 12 (by omega) (by omega)
 have q13 := hne 13 (by omega) (by omega)
 have q14 := hne 14 (by omega) (by omega)
 have q15 := hne 15 (by omega) (by omega)
 refine ⟨[(1, .undef), (2, .undef), (5, .v (.bool false)), (6, .list .no l), (7, .ptr (h.length + 1) 0), (14, .v (.int .i64 k)), (15, .undef)], .no, ?_, .inl rfl, ?_, ?_, ?_⟩
 ·simp only [go_sem, Int.reduceBEq, reduceIte, Bool.false_eq_true, b22, Tryd.f22, hlo, l1, l2, q1, q2, q3, q4, q5, q6, q7, q8, q9, q10, q11, q12, q13, q14, q15]
  rfl
 all_goals rfl
theorem k22n (hk : k = 14 \/ k = 15) (hlo : lo <= h.length) : To22 lo h k d o a b n v f l (decide (d < 65) && isStep a && isStep b) l o 0 0 n v f := by
 have l1 : lo <= h.length + 1 := by omega
 have l2 : lo <= h.length + 2 := by omega
 have c34 := fun (lo : Nat) (h : Heap) => @f34 _ lo h a
 have d34 := fun (lo : Nat) (h : Heap) => @f34 _ lo h b
 refine ⟨[(1, .undef), (2, .undef), (5, .v (.bool (decide (d < 65) && isStep a && isStep b))), (6, .list .no l), (7, .ptr (h.length + 1) 0), (14, .undef), (15, .undef)], .no, ?_, .inl rfl, ?_, ?_, ?_⟩
 ·rcases hk with rfl | rfl
  all_goals
   cases h1 : decide (d < 65) with
   | false => simp only [go_sem, Int.reduceBEq, reduceIte, Bool.false_eq_true, b22, Tryd.f22, hlo, l1, l2, c34, d34, h1, Bool.false_and]; rfl
   | true => 
    cases h2 : isStep a with
    | false => simp only [go_sem, Int.reduceBEq, reduceIte, Bool.false_eq_true, b22, Tryd.f22, hlo, l1, l2, c34, d34, h1, h2, Bool.true_and, Bool.false_and]; rfl
    | true => simp only [go_sem, Int.reduceBEq, reduceIte, Bool.false_eq_true, b22, Tryd.f22, hlo, l1, l2, c34, d34, h1, h2, Bool.true_and, Bool.false_and]; rfl
 all_goals rfl
theorem k22m {m : Bool} (c14 : ∀ lo' h', lo' <= h'.length -> E lo' 14 [.list .no l, .v (.int .i64 (d + 1))] h' = some (.v (.bool m), h')) (hd : 0 <= d /\ d <= 100) (hk : k = 6 \/ k = 7 \/ k = 8) (hlo : lo <= h.length) : To22 lo h k d o a b n v f l m [] o a b n v f := by
 have hw : IntKind.i64.wrap (d + 1) = d + 1 := wrap_i64 (by omega) (by omega)
 have l1 : lo <= h.length + 1 := by omega
 have l2 : lo <= h.length + 2 := by omega
 refine ⟨[(1, .v (.int .i64 d)), (2, .ptr h.length 0), (5, .v (.bool m)), (6, .list .yes []), (7, .ptr (h.length + 1) 0), (14, .v (.int .i64 k)), (15, .undef)], .yes, ?_, .inr rfl, ?_, ?_, ?_⟩
 ·rcases hk with rfl | rfl | rfl
  all_goals
   simp only [go_sem, Int.reduceBEq, reduceIte, Bool.false_eq_true, b22, Tryd.f22, hlo, l1, l2, c14, hw]
   rfl
 all_goals rfl
theorem k22t (hy : By n) (hl : n.length <= 1000000000) (hy' : By v) (hl' : v.length <= 1000000000) (hlo : lo <= h.length) : To22 lo h 5 d o a b n v f l (decide (d < 65) && isName sound n && decide (0 <= o) && decide (o <= 6) && sound v && (o != 0 || v.isEmpty && !f)) l 0 a b [] [] false := by
 have l1 : lo <= h.length + 1 := by omega
 have l2 : lo <= h.length + 2 := by omega
 have c32 := fun (lo : Nat) (h : Heap) (hlo : lo <= h.length) => f32 hy hl hlo
 have c33 := fun (lo : Nat) (h : Heap) (hlo : lo <= h.length) => f33 hy' hl' hlo
 have qv : ((bs v).toList == (⟨#[]⟩ : ByteArray).toList) = v.isEmpty := (bs_nil_eq' v).trans (by cases v <;> simp)
 have no : (o != 0) = !(o == 0) := rfl
 refine ⟨[(1, .undef), (2, .undef), (5, .v (.bool (decide (d < 65) && isName sound n && decide (0 <= o) && decide (o <= 6) && sound v && (o != 0 || v.isEmpty && !f)))), (6, .list .no l), (7, .ptr (h.length + 1) 0), (14, .undef), (15, .undef)], .no, ?_, .inl rfl, ?_, ?_, ?_⟩
 ·cases h1 : decide (d < 65) with
  | false => simp only [go_sem, Int.reduceBEq, reduceIte, Bool.false_eq_true, b22, Tryd.f22, hlo, l1, l2, c32, c33, h1, Bool.false_and]; rfl
  | true =>
  cases h2 : isName sound n with
  | false => simp only [go_sem, Int.reduceBEq, reduceIte, Bool.false_eq_true, b22, Tryd.f22, hlo, l1, l2, c32, c33, h1, h2, Bool.false_and, Bool.true_and]; rfl
  | true =>
  cases h3 : decide (0 <= o) with
  | false => simp only [go_sem, Int.reduceBEq, reduceIte, Bool.false_eq_true, b22, Tryd.f22, hlo, l1, l2, c32, c33, h1, h2, h3, Bool.false_and, Bool.true_and]; rfl
  | true =>
  cases h4 : decide (o <= 6) with
  | false => simp only [go_sem, Int.reduceBEq, reduceIte, Bool.false_eq_true, b22, Tryd.f22, hlo, l1, l2, c32, c33, h1, h2, h3, h4, Bool.false_and, Bool.true_and]; rfl
  | true =>
  cases h5 : sound v with
  | false => simp only [go_sem, Int.reduceBEq, reduceIte, Bool.false_eq_true, b22, Tryd.f22, hlo, l1, l2, c32, c33, h1, h2, h3, h4, h5, Bool.false_and, Bool.true_and]; rfl
  | true =>
  cases h6 : o == 0 with
  | false => simp only [go_sem, Int.reduceBEq, reduceIte, Bool.false_eq_true, b22, Tryd.f22, hlo, l1, l2, c32, c33, h1, h2, h3, h4, h5, h6, no, Bool.false_and, Bool.true_and, Bool.not_false, Bool.true_or]; rfl
  | true =>
  cases h7 : v.isEmpty with
  | false =>
   rw [h7] at qv
   simp only [go_sem, Int.reduceBEq, reduceIte, Bool.false_eq_true, b22, Tryd.f22, hlo, l1, l2, c32, c33, h1, h2, h3, h4, h5, h6, h7, qv, no, Bool.false_and, Bool.true_and, Bool.not_true, Bool.false_or]; rfl
  | true =>
   rw [h7] at qv
   cases f
   all_goals simp only [go_sem, Int.reduceBEq, reduceIte, Bool.false_eq_true, b22, Tryd.f22, hlo, l1, l2, c32, c33, h1, h2, h3, h4, h5, h6, h7, qv, no, Bool.false_and, Bool.true_and, Bool.not_true, Bool.false_or]; rfl
 all_goals rfl
end Go.Lift.S9
end

section
open Go.Proofs
namespace Go.Lift.S9
variable [MX]
variable {lo : Nat} {h : Heap}
open Utf Spell Sel
theorem end22 {s : St} : thenP (X22 lo h) loopW b22 7 (some (.normal, s)) = some (.ret, s) := by
 show evL (X22 lo h) loopW ((flat b22).drop 7) s = _
 simp only [go_sem, b22, Tryd.f22]
theorem f22_of {k d o a b o' a' b' : Int} {n v n' v' : List Int} {f f' ok : Bool} {l l' : List (List V)} (hlo : lo <= h.length) (hl : l'.length <= 1000000000) (hk : To22 lo h k d o a b n v f l ok l' o' a' b' n' v' f') :
  E lo 22 [.agg [.v (.int .i64 k), .v (.string (bs n)), .v (.int .i64 o), .v (.string (bs v)), .v (.bool f), .list .no l, .v (.int .i64 a), .v (.int .i64 b)], .v (.int .i64 d)] h = some (.v (.bool (ok && fin22 l' o' a' b' n' v' f')), h) := by
 obtain ⟨g, ow, h1, h2, h3, h4, h5⟩ := hk
 rw [e22 (by simp) (by rfl)]
 show fin Tryd.prog [.tmp 4] h.length (evCode (X22 lo h) loopW b22 _) = _
 rw [pc_in, pc_go _ _ _ _ 0 5, f22a hlo, pc_go _ _ _ _ _ 1]
 have h1' := h1
 unfold en22 cm22 at h1'
 rw [h1', pc_go _ _ _ _ _ 1, f22z h2 h3 h4 h5 hl hlo, end22]
 simp only [go_sem, hlo]
def WfS (n v : List Int) (l : List Sel.Cx) : Prop := By n /\ n.length <= 1000000000 /\ By v /\ v.length <= 1000000000 /\ l.length <= 1000000000
theorem f22 {k o a b : Int} {n v : List Int} {f : Bool} {l : List Sel.Cx} {d : Nat} (hw : WfS n v l) (hd : d <= 65)
  (c14 : ∀ lo h, lo <= h.length -> E lo 14 [.list .no (cxsC l), .v (.int .i64 ((d + 1 : Nat) : Int))] h = some (.v (.bool (mayP sound (d + 1) l)), h)) (hlo : lo <= h.length) :
  E lo 22 [.agg (smV (.mk k n o v f l a b)), .v (.int .i64 d)] h = some (.v (.bool (simpleP sound d (.mk k n o v f l a b))), h) := by
 obtain ⟨yn, ln, yv, lv, ll⟩ := hw
 have cl : (cxsC l).length <= 1000000000 := by rw [cxsC_len]; exact ll
 have ce : (cxsC l).isEmpty = l.isEmpty := by cases l with | nil => rw [cxsC]; rfl | cons x r => rw [cxsC]; rfl
 have hc : decide ((d : Int) < 65) = decide (d < 65) := by rw [Bool.eq_iff_iff]; simp; omega
 have sv : smV (.mk k n o v f l a b) = [.v (.int .i64 k), .v (.string (bs n)), .v (.int .i64 o), .v (.string (bs v)), .v (.bool f), .list .no (cxsC l), .v (.int .i64 a), .v (.int .i64 b)] := by rw [smV]; rfl
 rw [sv, simpleP]
 by_cases k1 : k = 2 \/ k = 3 \/ k = 4
 ·rw [if_pos k1, f22_of hlo cl (k22b yn ln k1 hlo), fin22, ce]
  rfl
 rw [if_neg k1]
 by_cases k2 : k = 5
 ·subst k2
  rw [if_pos rfl, f22_of hlo cl (k22t yn ln yv lv hlo), fin22, ce, hc]
  rfl
 rw [if_neg k2]
 by_cases k3 : k = 6 \/ k = 7 \/ k = 8
 ·rw [if_pos k3, f22_of hlo (by simp) (k22m (m := mayP sound (d + 1) l) c14 (by omega) k3 hlo), fin22]
  rfl
 rw [if_neg k3]
 by_cases k4 : k = 14 \/ k = 15
 ·rw [if_pos k4, f22_of hlo cl (k22n k4 hlo), fin22, ce, hc]
  have z : ((0 : Int) == 0) = true := rfl
  rw [z]
  simp only [Bool.and_true]
 rw [if_neg k4]
 by_cases k5 : k = 1 \/ 9 <= k /\ k <= 13
 ·rw [if_pos k5, f22_of hlo cl (k22a k5 hlo), fin22, ce, Bool.true_and]
 rw [if_neg k5, f22_of hlo cl (k22o (by omega) hlo), Bool.false_and]
end Go.Lift.S9
end

section
open Go.Proofs
namespace Go.Lift.S9
variable [MX]
variable {lo : Nat} {h : Heap}
open Utf Spell Sel
theorem smV_eq (k : Int) (n : List Int) (o : Int) (v : List Int) (f : Bool) (l : List Sel.Cx) (a b : Int) :
  smV (.mk k n o v f l a b) = [.v (.int .i64 k), .v (.string (bs n)), .v (.int .i64 o), .v (.string (bs v)), .v (.bool f), .list .no (cxsC l), .v (.int .i64 a), .v (.int .i64 b)] := by rw [smV]; rfl
theorem cpV_eq (c : Int) (ss : List Sm) : cpV (.mk c ss) = [.v (.int .i64 c), .list .no (smsC ss)] := by rw [cpV]
theorem cxV_eq (ps : List Cp) : cxV (.mk ps) = [.list .no (cpsC ps)] := by rw [cxV]
def C22 (d : Nat) (s : Sm) : Prop := ∀ lo h, lo <= h.length -> E lo 22 [.agg (smV s), .v (.int .i64 d)] h = some (.v (.bool (simpleP sound d s)), h)
abbrev NS14 (d : Nat) (X : List (List V)) (lx i : Int) (Y : List (List V)) (ly j : Int) (ss : List Sm) (k : Int) : Env :=
 [(1, .v (.int .i64 d)), (18, .list .no X), (19, .v (.int .i64 lx)), (20, .v (.int .i64 i)), (29, .list .no Y), (30, .v (.int .i64 ly)), (31, .v (.int .i64 j)), (59, .list .no (smsC ss)), (60, .v (.int .i64 ss.length)), (61, .v (.int .i64 k))]
noncomputable abbrev Y14 (lo : Nat) (h : Heap) : Go.Lift.Cx := ⟨Tryd.prog, E, lo, h.length, h14⟩
theorem rs14 {d : Nat} {X Y : List (List V)} {lx i ly j : Int} {ss : List Sm} {s : Sm} {k : Nat} (hlo : lo <= h.length) (hl : ss.length <= 1000000000) (hg : ss[k]? = some s) (hc : C22 d s) :
  evCode (Y14 lo h) loopW l14x2 (NS14 d X lx i Y ly j ss k, h) =
   if ((k == 0 || decide (2 < s.k)) && simpleP sound d s) = true then some (.normal, NS14 d X lx i Y ly j ss (k + 1 : Nat), h) else some (.ret, [(4, .v (.bool false))], h) := by
 have hlt : k < ss.length := (List.getElem?_eq_some_iff.1 hg).1
 obtain ⟨q, n, o, v, f, l, a, b⟩ := s
 have hgr : (smsC ss)[k]? = some (smV (.mk q n o v f l a b)) := by simp [smsC_map, hg]
 have hc1 := fun lo h hlo => hc lo h hlo
 rw [smV_eq] at hgr hc1
 have l1 : lo <= h.length + 1 := by omega
 have ih1 := hc1 (h.length + 1) (h ++ [.cells [.v (.int .i64 q), .v (.string (bs n)), .v (.int .i64 o), .v (.string (bs v)), .v (.bool f), .list .no (cxsC l), .v (.int .i64 a), .v (.int .i64 b)]]) (by simp)
 have q1 : decide ((k : Int) < (ss.length : Int)) = true := by simp; omega
 have hw : IntKind.i64.wrap ((k : Int) + 1) = ((k + 1 : Nat) : Int) := wrap_succ (by omega)
 have c1 : decide ((k : Int) > 0) = !(k == 0) := by rw [Bool.eq_iff_iff]; simp; omega
 have c1' : decide (0 < (k : Int)) = !(k == 0) := by rw [Bool.eq_iff_iff]; simp; omega
 have c2 : decide (q <= 2) = !decide (2 < q) := by rw [Bool.eq_iff_iff]; simp
 have sk : (Sm.mk q n o v f l a b).k = q := rfl
 rw [sk]
 cases h0 : k == 0 with
 | true =>
  rw [h0] at c1 c1'
  rw [Bool.true_or, Bool.true_and]
  cases h1 : simpleP sound d (.mk q n o v f l a b) with
  | true =>
   rw [h1] at hc1 ih1
   rw [if_pos rfl]
   simp only [go_sem, l14x2, b14, Tryd.f14, hlo, l1, q1, hgr, hw, c1, c1', hc1, Bool.not_true]
   all_goals rfl
  | false =>
   rw [h1] at hc1 ih1
   rw [if_neg (by simp)]
   simp only [go_sem, l14x2, b14, Tryd.f14, hlo, l1, q1, hgr, hw, c1, c1', hc1, Bool.not_true]
   all_goals rfl
 | false =>
  rw [h0] at c1 c1'
  rw [Bool.false_or]
  cases h2 : decide (2 < q) with
  | false =>
   rw [h2] at c2
   rw [Bool.false_and, if_neg (by simp)]
   simp only [go_sem, l14x2, b14, Tryd.f14, hlo, l1, q1, hgr, hw, c1, c1', c2, hc1, Bool.not_false]
   all_goals rfl
  | true =>
   rw [h2] at c2
   rw [Bool.true_and]
   cases h1 : simpleP sound d (.mk q n o v f l a b) with
   | true =>
    rw [h1] at hc1 ih1
    rw [if_pos rfl]
    simp only [go_sem, l14x2, b14, Tryd.f14, hlo, l1, q1, hgr, hw, c1, c1', c2, hc1, Bool.not_true, Bool.not_false]
    all_goals rfl
   | false =>
    rw [h1] at hc1 ih1
    rw [if_neg (by simp)]
    simp only [go_sem, l14x2, b14, Tryd.f14, hlo, l1, q1, hgr, hw, c1, c1', c2, hc1, Bool.not_true, Bool.not_false]
    all_goals rfl
theorem es14 {d : Nat} {X Y : List (List V)} {lx i ly j : Int} {ss : List Sm} :
  evCode (Y14 lo h) loopW l14x2 (NS14 d X lx i Y ly j ss ss.length, h) = some (.exit 4, NS14 d X lx i Y ly j ss ss.length ++ [(62, .v (.bool false))], h) := by
 have q : decide ((ss.length : Int) < (ss.length : Int)) = false := by simp
 simp only [go_sem, l14x2, b14, Tryd.f14, q]
 all_goals rfl
theorem smsP_drop {d : Nat} {ss : List Sm} {k : Nat} (hk : k < ss.length) : smsP sound d (k == 0) (ss.drop k) = (((k == 0 || decide (2 < ss[k].k)) && simpleP sound d ss[k]) && smsP sound d (k + 1 == 0) (ss.drop (k + 1))) := by
 rw [List.drop_eq_getElem_cons hk, smsP]
 rfl
theorem ls14 {d : Nat} {X Y : List (List V)} {lx i ly j : Int} {ss : List Sm} (hlo : lo <= h.length) (hl : ss.length <= 1000000000) (hc : ∀ s ∈ ss, C22 d s) : ∀ (m k : Nat), k + m = ss.length ->
  loopW (evCode (Y14 lo h) loopW l14x2) (NS14 d X lx i Y ly j ss k, h) =
   if smsP sound d (k == 0) (ss.drop k) = true then some (.exit 4, NS14 d X lx i Y ly j ss ss.length ++ [(62, .v (.bool false))], h) else some (.ret, [(4, .v (.bool false))], h) := by
 intro m
 induction m with
 | zero =>
  intro k hk
  obtain rfl : k = ss.length := by omega
  rw [List.drop_length, smsP, if_pos rfl, loop_eq, es14, loop_e]
 | succ m ih =>
  intro k hk
  have hlt : k < ss.length := by omega
  have hr := rs14 (lo := lo) (h := h) (X := X) (Y := Y) (lx := lx) (i := i) (ly := ly) (j := j) hlo hl (List.getElem?_eq_getElem hlt) (hc _ (List.getElem_mem hlt))
  rw [smsP_drop hlt, loop_eq, hr]
  cases hm : ((k == 0 || decide (2 < ss[k].k)) && simpleP sound d ss[k]) with
  | true => rw [if_pos rfl, loop_n, Bool.true_and, ih (k + 1) (by omega)]
  | false => rw [if_neg (by simp), loop_r, Bool.false_and, if_neg (by simp)]
def Cp14 (d : Nat) : Cp -> Prop
 | .mk c ss => ss.length <= 1000000000 /\ ∀ s ∈ ss, C22 d s
abbrev NP14 (d : Nat) (X : List (List V)) (lx i : Int) (ps : List Cp) (j : Int) : Env :=
 [(1, .v (.int .i64 d)), (18, .list .no X), (19, .v (.int .i64 lx)), (20, .v (.int .i64 i)), (29, .list .no (cpsC ps)), (30, .v (.int .i64 ps.length)), (31, .v (.int .i64 j))]
theorem rp14 {d : Nat} {X : List (List V)} {lx i : Int} {ps : List Cp} {c : Int} {ss : List Sm} {j : Nat} (hlo : lo <= h.length) (hl : ps.length <= 1000000000) (hg : ps[j]? = some (.mk c ss)) (hc : Cp14 d (.mk c ss)) :
  evCode (Y14 lo h) loopW l14x1 (NP14 d X lx i ps j, h) =
   if ((((j == 0) == (c == 0)) && decide (0 <= c) && decide (c <= 4) && !ss.isEmpty) && smsP sound d true ss) = true then some (.normal, NP14 d X lx i ps (j + 1 : Nat), h) else some (.ret, [(4, .v (.bool false))], h) := by
 have hlt : j < ps.length := (List.getElem?_eq_some_iff.1 hg).1
 have hgr : (cpsC ps)[j]? = some (cpV (.mk c ss)) := by simp [cpsC_map, hg]
 rw [cpV_eq] at hgr
 have l1 : lo <= h.length + 1 := by omega
 have q1 : decide ((j : Int) < (ps.length : Int)) = true := by simp; omega
 have hw : IntKind.i64.wrap ((j : Int) + 1) = ((j + 1 : Nat) : Int) := wrap_succ (by omega)
 have ez : ((ss.length : Int) == 0) = ss.isEmpty := by cases ss with | nil => rfl | cons y r => simp; omega
 have dz : decide ((ss.length : Int) = 0) = ss.isEmpty := by rw [<- ez]; rw [Bool.eq_iff_iff]; simp
 have c0 : ((j : Int) == 0) = (j == 0) := by rw [Bool.eq_iff_iff]; simp
 have o2 : decide (c < 0) = !decide (0 <= c) := by rw [Bool.eq_iff_iff]; simp
 have o3 : decide (4 < c) = !decide (c <= 4) := by rw [Bool.eq_iff_iff]; simp
 have o3' : decide (c > 4) = !decide (c <= 4) := by rw [Bool.eq_iff_iff]; simp
 have n0 : ((0 : Nat) : Int) = 0 := rfl
 have hL := ls14 (lo := lo) (h := h) (X := X) (lx := lx) (i := i) (Y := cpsC ps) (ly := ps.length) (j := j) (d := d) hlo hc.1 hc.2 ss.length 0 (by omega)
 have z0 : ((0 : Nat) == 0) = true := rfl
 rw [List.drop_zero, z0] at hL
 generalize (j == 0) = J at *
 have hcd : (!(J == (c == 0)) || decide (c < 0) || decide (4 < c) || ((ss.length : Int) == 0)) = !((J == (c == 0)) && decide (0 <= c) && decide (c <= 4) && !ss.isEmpty) := by
  rw [ez, o2, o3]
  simp only [Bool.not_and, Bool.not_not]
 generalize ((J == (c == 0)) && decide (0 <= c) && decide (c <= 4) && !ss.isEmpty) = W at *
 cases W with
 | false =>
  rw [Bool.false_and, if_neg (by simp)]
  simp only [go_sem, l14x1, b14, Tryd.f14, hlo, l1, q1, hgr, hw, c0, smsC_len]
  rw [hcd]
  all_goals rfl
 | true =>
  rw [Bool.true_and]
  cases h5 : smsP sound d true ss with
  | true =>
   rw [h5, if_pos rfl] at hL
   simp only [l14x2, b14, Tryd.f14, loopAt, loops, bodyOf, go_sem, NS14, n0, List.cons_append, List.nil_append] at hL
   rw [if_pos rfl]
   simp only [go_sem, l14x1, b14, Tryd.f14, hlo, l1, q1, hgr, hw, c0, hL, smsC_len]
   try rw [hcd]
   all_goals rfl
  | false =>
   rw [h5, if_neg (by simp)] at hL
   simp only [l14x2, b14, Tryd.f14, loopAt, loops, bodyOf, go_sem, NS14, n0, List.cons_append, List.nil_append] at hL
   rw [if_neg (by simp)]
   simp only [go_sem, l14x1, b14, Tryd.f14, hlo, l1, q1, hgr, hw, c0, hL, smsC_len]
   try rw [hcd]
   all_goals rfl
theorem ep14 {d : Nat} {X : List (List V)} {lx i : Int} {ps : List Cp} :
  evCode (Y14 lo h) loopW l14x1 (NP14 d X lx i ps ps.length, h) = some (.exit 2, NP14 d X lx i ps ps.length ++ [(32, .v (.bool false))], h) := by
 have q : decide ((ps.length : Int) < (ps.length : Int)) = false := by simp
 simp only [go_sem, l14x1, b14, Tryd.f14, q]
 all_goals rfl
theorem lp14 {d : Nat} {X : List (List V)} {lx i : Int} {ps : List Cp} (hlo : lo <= h.length) (hl : ps.length <= 1000000000) (hc : ∀ p ∈ ps, Cp14 d p) : ∀ (m j : Nat), j + m = ps.length ->
  loopW (evCode (Y14 lo h) loopW l14x1) (NP14 d X lx i ps j, h) =
   if cpsP sound d (j == 0) (ps.drop j) = true then some (.exit 2, NP14 d X lx i ps ps.length ++ [(32, .v (.bool false))], h) else some (.ret, [(4, .v (.bool false))], h) := by
 intro m
 induction m with
 | zero =>
  intro j hj
  obtain rfl : j = ps.length := by omega
  rw [List.drop_length, cpsP, if_pos rfl, loop_eq, ep14, loop_e]
 | succ m ih =>
  intro j hj
  have hlt : j < ps.length := by omega
  have hm := hc _ (List.getElem_mem hlt)
  have hg := List.getElem?_eq_getElem hlt
  rw [List.drop_eq_getElem_cons hlt]
  generalize ps[j] = p at *
  obtain ⟨c, ss⟩ := p
  have hr := rp14 (lo := lo) (h := h) (X := X) (lx := lx) (i := i) hlo hl hg hm
  have z1 : (j + 1 == 0) = false := rfl
  rw [cpsP, loop_eq, hr]
  cases hw : ((((j == 0) == (c == 0)) && decide (0 <= c) && decide (c <= 4) && !ss.isEmpty) && smsP sound d true ss) with
  | true => rw [if_pos rfl, loop_n, Bool.true_and, ih (j + 1) (by omega), z1]
  | false => rw [if_neg (by simp), loop_r, Bool.false_and, if_neg (by simp)]
def Cx14 (d : Nat) : Sel.Cx -> Prop
 | .mk ps => ps.length <= 1000000000 /\ ∀ p ∈ ps, Cp14 d p
abbrev NX14 (d : Nat) (l : List Sel.Cx) (i : Int) : Env := [(1, .v (.int .i64 d)), (18, .list .no (cxsC l)), (19, .v (.int .i64 l.length)), (20, .v (.int .i64 i))]
theorem rx14 {d : Nat} {l : List Sel.Cx} {ps : List Cp} {i : Nat} (hlo : lo <= h.length) (hl : l.length <= 1000000000) (hg : l[i]? = some (.mk ps)) (hc : Cx14 d (.mk ps)) :
  evCode (Y14 lo h) loopW l14x0 (NX14 d l i, h) =
   if (!ps.isEmpty && cpsP sound d true ps) = true then some (.normal, NX14 d l (i + 1 : Nat), h) else some (.ret, [(4, .v (.bool false))], h) := by
 have hlt : i < l.length := (List.getElem?_eq_some_iff.1 hg).1
 have hgr : (cxsC l)[i]? = some (cxV (.mk ps)) := by simp [cxsC_map, hg]
 rw [cxV_eq] at hgr
 have l1 : lo <= h.length + 1 := by omega
 have q1 : decide ((i : Int) < (l.length : Int)) = true := by simp; omega
 have hw : IntKind.i64.wrap ((i : Int) + 1) = ((i + 1 : Nat) : Int) := wrap_succ (by omega)
 have ez : ((ps.length : Int) == 0) = ps.isEmpty := by cases ps with | nil => rfl | cons y r => simp; omega
 have n0 : ((0 : Nat) : Int) = 0 := rfl
 have hL := lp14 (lo := lo) (h := h) (X := cxsC l) (lx := l.length) (i := i) (d := d) hlo hc.1 hc.2 ps.length 0 (by omega)
 have z0 : ((0 : Nat) == 0) = true := rfl
 rw [List.drop_zero, z0] at hL
 cases h1 : ps.isEmpty with
 | true =>
  rw [h1] at ez
  rw [Bool.not_true, Bool.false_and, if_neg (by simp)]
  simp only [go_sem, l14x0, b14, Tryd.f14, hlo, l1, q1, hgr, hw, ez, cpsC_len]
  all_goals rfl
 | false =>
  rw [h1] at ez
  rw [Bool.not_false, Bool.true_and]
  cases h5 : cpsP sound d true ps with
  | true =>
   rw [h5, if_pos rfl] at hL
   simp only [l14x1, b14, Tryd.f14, loopAt, loops, bodyOf, go_sem, NP14, n0, List.cons_append, List.nil_append] at hL
   rw [if_pos rfl]
   simp only [go_sem, l14x0, b14, Tryd.f14, hlo, l1, q1, hgr, hw, ez, hL, cpsC_len]
   all_goals rfl
  | false =>
   rw [h5, if_neg (by simp)] at hL
   simp only [l14x1, b14, Tryd.f14, loopAt, loops, bodyOf, go_sem, NP14, n0, List.cons_append, List.nil_append] at hL
   rw [if_neg (by simp)]
   simp only [go_sem, l14x0, b14, Tryd.f14, hlo, l1, q1, hgr, hw, ez, hL, cpsC_len]
   all_goals rfl
theorem ex14 {d : Nat} {l : List Sel.Cx} :
  evCode (Y14 lo h) loopW l14x0 (NX14 d l l.length, h) = some (.exit 0, NX14 d l l.length ++ [(21, .v (.bool false))], h) := by
 have q : decide ((l.length : Int) < (l.length : Int)) = false := by simp
 simp only [go_sem, l14x0, b14, Tryd.f14, q]
 all_goals rfl
theorem lx14 {d : Nat} {l : List Sel.Cx} (hlo : lo <= h.length) (hl : l.length <= 1000000000) (hc : ∀ c ∈ l, Cx14 d c) : ∀ (m i : Nat), i + m = l.length ->
  loopW (evCode (Y14 lo h) loopW l14x0) (NX14 d l i, h) =
   if cxsP sound d (l.drop i) = true then some (.exit 0, NX14 d l l.length ++ [(21, .v (.bool false))], h) else some (.ret, [(4, .v (.bool false))], h) := by
 intro m
 induction m with
 | zero =>
  intro i hi
  obtain rfl : i = l.length := by omega
  rw [List.drop_length, cxsP, if_pos rfl, loop_eq, ex14, loop_e]
 | succ m ih =>
  intro i hi
  have hlt : i < l.length := by omega
  have hm := hc _ (List.getElem_mem hlt)
  have hg := List.getElem?_eq_getElem hlt
  rw [List.drop_eq_getElem_cons hlt]
  generalize l[i] = p at *
  obtain ⟨ps⟩ := p
  have hr := rx14 (lo := lo) (h := h) hlo hl hg hm
  rw [cxsP, loop_eq, hr]
  cases hw : (!ps.isEmpty && cpsP sound d true ps) with
  | true => rw [if_pos rfl, loop_n, Bool.true_and, ih (i + 1) (by omega)]
  | false => rw [if_neg (by simp), loop_r, Bool.false_and, if_neg (by simp)]
theorem f14_of {d : Nat} {l : List Sel.Cx} (hlo : lo <= h.length) (hd : d <= 100) (hl : l.length <= 1000000000) (hc : d <= 65 -> ∀ c ∈ l, Cx14 d c) :
  E lo 14 [.list .no (cxsC l), .v (.int .i64 d)] h = some (.v (.bool (mayP sound d l)), h) := by
 have ez : ((l.length : Int) == 0) = l.isEmpty := by cases l with | nil => rfl | cons y r => simp; omega
 have n0 : ((0 : Nat) : Int) = 0 := rfl
 have e1 : decide (65 < (d : Int)) = !decide (d <= 65) := by rw [Bool.eq_iff_iff]; simp; omega
 rw [e14 (by simp) (by rfl), mayP]
 cases h1 : l.isEmpty with
 | true =>
  rw [h1] at ez
  simp only [go_sem, b14, Tryd.f14, hlo, ez, cxsC_len, Bool.not_true, Bool.false_and]
  all_goals rfl
 | false =>
 rw [h1] at ez
 rw [Bool.not_false, Bool.true_and]
 cases h2 : decide (d <= 65) with
 | false =>
  rw [h2] at e1
  simp only [go_sem, b14, Tryd.f14, hlo, ez, e1, cxsC_len, Bool.not_false, Bool.false_and]
  all_goals rfl
 | true =>
 rw [h2] at e1
 have hL := lx14 (lo := lo) (h := h) (l := l) (d := d) hlo hl (hc (by simpa using h2)) l.length 0 (by omega)
 rw [List.drop_zero] at hL
 rw [Bool.true_and]
 cases h5 : cxsP sound d l with
 | true =>
  rw [h5, if_pos rfl] at hL
  simp only [l14x0, b14, Tryd.f14, loopAt, loops, bodyOf, go_sem, NX14, n0, List.cons_append, List.nil_append] at hL
  simp only [go_sem, b14, Tryd.f14, hlo, ez, e1, hL, cxsC_len, Bool.not_true]
  all_goals rfl
 | false =>
  rw [h5, if_neg (by simp)] at hL
  simp only [l14x0, b14, Tryd.f14, loopAt, loops, bodyOf, go_sem, NX14, n0, List.cons_append, List.nil_append] at hL
  simp only [go_sem, b14, Tryd.f14, hlo, ez, e1, hL, cxsC_len, Bool.not_true]
  all_goals rfl
end Go.Lift.S9
end

section
open Go.Proofs
namespace Go.Lift.S9
variable [MX]
variable {lo : Nat} {h : Heap}
open Utf Spell Sel
def wCx : Sel.Cx -> Wt
 | .mk ps => wCps wz ps
def W17 (c : Sel.Cx) : Prop := ∀ lo h, lo <= h.length -> E lo 17 [.agg (cxV c)] h = some (.agg (wV (wCx c)), h)
def W26 (s : Sm) : Prop := ∀ lo h, lo <= h.length -> E lo 26 [.agg (smV s)] h = some (.agg (wV (wSm s)), h)
abbrev LO (l : List (List V)) : Ob := .cells [.list .no l]
abbrev ZO : Ob := .cells [.v (.int .i64 0), .v (.int .i64 0), .v (.int .i64 0)]
abbrev WO (w : Wt) : Ob := .cells [.v (.int .i64 w.a), .v (.int .i64 w.b), .v (.int .i64 w.c)]
noncomputable abbrev X17 (lo : Nat) (h : Heap) : Go.Lift.Cx := ⟨Tryd.prog, E, lo, h.length, h17⟩
abbrev NS17 (h : Heap) (X : List (List V)) (lx j : Int) (ss : List Sm) (k : Int) : Env :=
 [(2, .ptr (h.length + 1) 0), (3, .ptr (h.length + 2) 0), (11, .list .no X), (12, .v (.int .i64 lx)), (13, .v (.int .i64 j)), (18, .list .no (smsC ss)), (19, .v (.int .i64 ss.length)), (20, .v (.int .i64 k))]
theorem rs17 {O : List (List V)} {X : List (List V)} {lx j : Int} {ss : List Sm} {s : Sm} {k : Nat} {w : Wt} (hlo : lo <= h.length) (hl : ss.length <= 1000000000) (hg : ss[k]? = some s) (hc : W26 s) :
  evCode (X17 lo h) loopW l17x1 (NS17 h X lx j ss k, h ++ [LO O, ZO, WO w]) = some (.normal, NS17 h X lx j ss (k + 1 : Nat), h ++ [LO O, ZO, WO (addW w (wSm s))]) := by
 have hlt : k < ss.length := (List.getElem?_eq_some_iff.1 hg).1
 have hc1 := fun lo h hlo => hc lo h hlo
 generalize wSm s = u at *
 obtain ⟨q, n, o, v, f, l, a, b⟩ := s
 have hgr : (smsC ss)[k]? = some (smV (.mk q n o v f l a b)) := by simp [smsC_map, hg]
 obtain ⟨x, y, z⟩ := w
 obtain ⟨x', y', z'⟩ := u
 rw [smV_eq] at hgr hc1
 rw [wV_eq] at hc1
 unfold addW
 have l1 : lo <= h.length + 1 := by omega
 have l2 : lo <= h.length + 2 := by omega
 have l3 : lo <= h.length + 3 := by omega
 have l4 : lo <= h.length + 4 := by omega
 have l5 : lo <= h.length + 5 := by omega
 have d1 : decide (h.length < h.length + 3) = true := by simp
 have d2 : decide (h.length + 1 < h.length + 3) = true := by simp
 have d3 : decide (h.length + 2 < h.length + 3) = true := by simp
 have q1 : decide ((k : Int) < (ss.length : Int)) = true := by simp; omega
 have hw : IntKind.i64.wrap ((k : Int) + 1) = ((k + 1 : Nat) : Int) := wrap_succ (by omega)
 simp only [go_sem, l17x1, b17, Tryd.f17, hlo, l1, l2, l3, l4, l5, d1, d2, d3, q1, hgr, hw, hc1, loop_eq, ix0, ix1, ix2, wr1, wr2, wr3, lt0, lt1, lt2, lt3]
 all_goals rfl
theorem es17 {H : Heap} {X : List (List V)} {lx j : Int} {ss : List Sm} :
  evCode (X17 lo h) loopW l17x1 (NS17 h X lx j ss ss.length, H) = some (.exit 2, NS17 h X lx j ss ss.length ++ [(21, .v (.bool false))], H) := by
 have q : decide ((ss.length : Int) < (ss.length : Int)) = false := by simp
 simp only [go_sem, l17x1, b17, Tryd.f17, q]
 all_goals rfl
theorem ls17 {O : List (List V)} {X : List (List V)} {lx j : Int} {ss : List Sm} (hlo : lo <= h.length) (hl : ss.length <= 1000000000) (hc : ∀ s ∈ ss, W26 s) : ∀ (m k : Nat) (w : Wt), k + m = ss.length ->
  loopW (evCode (X17 lo h) loopW l17x1) (NS17 h X lx j ss k, h ++ [LO O, ZO, WO w]) = some (.exit 2, NS17 h X lx j ss ss.length ++ [(21, .v (.bool false))], h ++ [LO O, ZO, WO (wSms w (ss.drop k))]) := by
 intro m
 induction m with
 | zero =>
  intro k w hk
  obtain rfl : k = ss.length := by omega
  rw [List.drop_length, wSms, loop_eq, es17, loop_e]
 | succ m ih =>
  intro k w hk
  have hlt : k < ss.length := by omega
  rw [List.drop_eq_getElem_cons hlt, wSms, loop_eq, rs17 hlo hl (List.getElem?_eq_getElem hlt) (hc _ (List.getElem_mem hlt)), loop_n, ih (k + 1) _ (by omega)]
def Cp17 : Cp -> Prop
 | .mk c ss => ss.length <= 1000000000 /\ ∀ s ∈ ss, W26 s
abbrev NP17 (h : Heap) (ps : List Cp) (j : Int) : Env := [(2, .ptr (h.length + 1) 0), (3, .ptr (h.length + 2) 0), (11, .list .no (cpsC ps)), (12, .v (.int .i64 ps.length)), (13, .v (.int .i64 j))]
theorem rp17 {O : List (List V)} {ps : List Cp} {c : Int} {ss : List Sm} {j : Nat} {w : Wt} (hlo : lo <= h.length) (hl : ps.length <= 1000000000) (hg : ps[j]? = some (.mk c ss)) (hc : Cp17 (.mk c ss)) :
  evCode (X17 lo h) loopW l17x0 (NP17 h ps j, h ++ [LO O, ZO, WO w]) = some (.normal, NP17 h ps (j + 1 : Nat), h ++ [LO O, ZO, WO (wSms w ss)]) := by
 have hlt : j < ps.length := (List.getElem?_eq_some_iff.1 hg).1
 have hgr : (cpsC ps)[j]? = some (cpV (.mk c ss)) := by simp [cpsC_map, hg]
 rw [cpV_eq] at hgr
 have l1 : lo <= h.length + 1 := by omega
 have l2 : lo <= h.length + 2 := by omega
 have l3 : lo <= h.length + 3 := by omega
 have d1 : decide (h.length < h.length + 3) = true := by simp
 have d2 : decide (h.length + 1 < h.length + 3) = true := by simp
 have d3 : decide (h.length + 2 < h.length + 3) = true := by simp
 have q1 : decide ((j : Int) < (ps.length : Int)) = true := by simp; omega
 have hw : IntKind.i64.wrap ((j : Int) + 1) = ((j + 1 : Nat) : Int) := wrap_succ (by omega)
 have n0 : ((0 : Nat) : Int) = 0 := rfl
 have hL := ls17 (lo := lo) (h := h) (O := O) (X := cpsC ps) (lx := ps.length) (j := j) hlo hc.1 hc.2 ss.length 0 w (by omega)
 rw [List.drop_zero] at hL
 simp only [l17x1, b17, Tryd.f17, loopAt, loops, bodyOf, go_sem, NS17, n0, List.cons_append, List.nil_append] at hL
 simp only [go_sem, l17x0, b17, Tryd.f17, hlo, l1, l2, l3, d1, d2, d3, q1, hgr, hw, hL, smsC_len]
 all_goals rfl
theorem ep17 {H : Heap} {ps : List Cp} : evCode (X17 lo h) loopW l17x0 (NP17 h ps ps.length, H) = some (.exit 0, NP17 h ps ps.length ++ [(14, .v (.bool false))], H) := by
 have q : decide ((ps.length : Int) < (ps.length : Int)) = false := by simp
 simp only [go_sem, l17x0, b17, Tryd.f17, q]
 all_goals rfl
theorem lp17 {O : List (List V)} {ps : List Cp} (hlo : lo <= h.length) (hl : ps.length <= 1000000000) (hc : ∀ p ∈ ps, Cp17 p) : ∀ (m j : Nat) (w : Wt), j + m = ps.length ->
  loopW (evCode (X17 lo h) loopW l17x0) (NP17 h ps j, h ++ [LO O, ZO, WO w]) = some (.exit 0, NP17 h ps ps.length ++ [(14, .v (.bool false))], h ++ [LO O, ZO, WO (wCps w (ps.drop j))]) := by
 intro m
 induction m with
 | zero =>
  intro j w hj
  obtain rfl : j = ps.length := by omega
  rw [List.drop_length, wCps, loop_eq, ep17, loop_e]
 | succ m ih =>
  intro j w hj
  have hlt : j < ps.length := by omega
  have hm := hc _ (List.getElem_mem hlt)
  have hg := List.getElem?_eq_getElem hlt
  rw [List.drop_eq_getElem_cons hlt]
  generalize ps[j] = p at *
  obtain ⟨c, ss⟩ := p
  rw [wCps, loop_eq, rp17 hlo hl hg hm, loop_n, ih (j + 1) _ (by omega)]
theorem f17_of {ps : List Cp} (hlo : lo <= h.length) (hl : ps.length <= 1000000000) (hc : ∀ p ∈ ps, Cp17 p) : E lo 17 [.agg (cxV (.mk ps))] h = some (.agg (wV (wCx (.mk ps))), h) := by
 have l1 : lo <= h.length + 1 := by omega
 have l2 : lo <= h.length + 2 := by omega
 have l3 : lo <= h.length + 3 := by omega
 have n0 : ((0 : Nat) : Int) = 0 := rfl
 have hL := lp17 (lo := lo) (h := h) (O := cpsC ps) hlo hl hc ps.length 0 wz (by omega)
 rw [List.drop_zero] at hL
 simp only [l17x0, b17, Tryd.f17, loopAt, loops, bodyOf, go_sem, NP17, n0, wz, List.cons_append, List.nil_append] at hL
 rw [e17 (by simp) (by rfl), cxV_eq, wCx]
 simp only [go_sem, b17, Tryd.f17, hlo, l1, l2, l3, hL, cpsC_len]
 all_goals rfl
end Go.Lift.S9
end

section
namespace Go.Lift.Sel
mutual
def okSm : Sm -> Prop
 | .mk k n o v f l a b => (Utf.By n /\ n.length <= 1000000000 /\ Utf.By v /\ v.length <= 1000000000 /\ l.length <= 1000000000) /\ okCxs l
def okSms : List Sm -> Prop
 | [] => True
 | s :: r => okSm s /\ okSms r
def okCps : List Cp -> Prop
 | [] => True
 | .mk c ss :: r => (ss.length <= 1000000000 /\ okSms ss) /\ okCps r
def okCxs : List Cx -> Prop
 | [] => True
 | .mk ps :: r => (ps.length <= 1000000000 /\ okCps ps) /\ okCxs r
end
end Go.Lift.Sel
end

section
open Go.Proofs
namespace Go.Lift.S9
variable [MX]
variable {lo : Nat} {h : Heap}
open Utf Spell Sel
mutual
theorem sm_ok : ∀ (s : Sm), okSm s -> ∀ d : Nat, d <= 65 -> C22 d s
 | .mk k n o v f l a b => by
  have ih := cxs_ok l
  intro hs d hd lo h hlo
  rw [okSm] at hs
  exact f22 hs.1 hd (fun lo h hlo => f14_of hlo (by omega) hs.1.2.2.2.2 fun h65 c hc => ih hs.2 (d + 1) h65 c hc) hlo
theorem sms_ok : ∀ (l : List Sm), okSms l -> ∀ d : Nat, d <= 65 -> ∀ s ∈ l, C22 d s
 | [] => fun _ _ _ _ h => nomatch h
 | x :: r => by
  have i1 := sm_ok x
  have i2 := sms_ok r
  intro hs d hd s hm
  rw [okSms] at hs
  rcases List.mem_cons.1 hm with rfl | hm
  ·exact i1 hs.1 d hd
  ·exact i2 hs.2 d hd s hm
theorem cps_ok : ∀ (l : List Cp), okCps l -> ∀ d : Nat, d <= 65 -> ∀ p ∈ l, Cp14 d p
 | [] => fun _ _ _ _ h => nomatch h
 | .mk c ss :: r => by
  have i1 := sms_ok ss
  have i2 := cps_ok r
  intro hs d hd p hm
  rw [okCps] at hs
  rcases List.mem_cons.1 hm with rfl | hm
  ·exact ⟨hs.1.1, i1 hs.1.2 d hd⟩
  ·exact i2 hs.2 d hd p hm
theorem cxs_ok : ∀ (l : List Sel.Cx), okCxs l -> ∀ d : Nat, d <= 65 -> ∀ c ∈ l, Cx14 d c
 | [] => fun _ _ _ _ h => nomatch h
 | .mk ps :: r => by
  have i1 := cps_ok ps
  have i2 := cxs_ok r
  intro hs d hd p hm
  rw [okCxs] at hs
  rcases List.mem_cons.1 hm with rfl | hm
  ·exact ⟨hs.1.1, i1 hs.1.2 d hd⟩
  ·exact i2 hs.2 d hd p hm
end
theorem f14 {d : Nat} {l : List Sel.Cx} (hlo : lo <= h.length) (hd : d <= 100) (hl : l.length <= 1000000000) (hs : okCxs l) :
  E lo 14 [.list .no (cxsC l), .v (.int .i64 d)] h = some (.v (.bool (mayP sound d l)), h) := f14_of hlo hd hl fun hd c hc => cxs_ok l hs d hd c hc
theorem f6 {l : List Sel.Cx} (hlo : lo <= h.length) (hl : l.length <= 1000000000) (hs : okCxs l) :
  E lo 6 [.list .no (cxsC l)] h = some (.v (.bool (mayP sound 1 l)), h) := by
 have k1 := f14 (lo := lo) (d := 1) hlo (by omega) hl hs
 have k2 := f14 (lo := h.length) (h := h) (d := 1) (Nat.le_refl _) (by omega) hl hs
 have n1 : ((1 : Nat) : Int) = 1 := rfl
 rw [n1] at k1 k2
 rw [e6 (by simp) (by rfl)]
 simp only [go_sem, b6, Tryd.f6, k1, k2]
 all_goals rfl
end Go.Lift.S9
end

section
open Go.Proofs
namespace Go.Lift.S9
variable [MX]
variable {lo : Nat} {h : Heap}
open Utf Spell Sel
noncomputable abbrev X26 (lo : Nat) (h : Heap) : Go.Lift.Cx := ⟨Tryd.prog, E, lo, h.length, h26⟩
theorem wCxs_map : ∀ l : List Sel.Cx, wCxs l = l.map wCx
 | [] => by rw [wCxs]; rfl
 | .mk ps :: r => by rw [wCxs, wCxs_map r]; rfl
abbrev NX26 (h : Heap) (l : List Sel.Cx) (k : Nat) : Env := [(2, .ptr (h.length + 1) 0), (3, .list .yes ((l.take k).map fun c => wV (wCx c))), (22, .list .no (cxsC l)), (23, .v (.int .i64 l.length)), (24, .v (.int .i64 k))]
theorem noByte : ∀ L : List Wt, isByteRow (L.map wV) = false
 | [] => rfl
 | w :: r => rfl
theorem rx26 {O : Ob} {cs : List V} (hO : O = .cells cs) (hA : cs.all (okv (h.length + 2)) = true) {l : List Sel.Cx} {ps : List Cp} {k : Nat} (hlo : lo <= h.length) (hl : l.length <= 1000000000) (hg : l[k]? = some (.mk ps)) (hc : W17 (.mk ps)) :
  evCode (X26 lo h) loopW l26x0 (NX26 h l k, h ++ [O, ZO]) = some (.normal, NX26 h l (k + 1), h ++ [O, ZO]) := by
 subst hO
 have hlt : k < l.length := (List.getElem?_eq_some_iff.1 hg).1
 have hgr : (cxsC l)[k]? = some (cxV (.mk ps)) := by simp [cxsC_map, hg]
 have hc1 := fun lo h hlo => hc lo h hlo
 have ht : l.take (k + 1) = l.take k ++ [.mk ps] := by
  have := List.take_succ_eq_append_getElem hlt
  rw [this, (List.getElem?_eq_some_iff.1 hg).2]
 rw [cxV_eq] at hgr hc1
 obtain ⟨u, hu⟩ : ∃ u, wCx (.mk ps) = u := ⟨_, rfl⟩
 rw [hu] at hc1
 have hv : wV u = [.v (.int .i64 u.a), .v (.int .i64 u.b), .v (.int .i64 u.c)] := rfl
 rw [hv] at hc1
 have l1 : lo <= h.length + 1 := by omega
 have l2 : lo <= h.length + 2 := by omega
 have l3 : lo <= h.length + 3 := by omega
 have d1 : decide (h.length < h.length + 2) = true := by simp
 have d2 : decide (h.length + 1 < h.length + 2) = true := by simp
 have q1 : decide ((k : Int) < (l.length : Int)) = true := by simp; omega
 have hw : IntKind.i64.wrap ((k : Int) + 1) = ((k + 1 : Nat) : Int) := wrap_succ (by omega)
 have a1 : (((l.take k).map fun c => wV (wCx c)).all fun x => x.length == 3) = true := by
  rw [List.all_eq_true]
  intro x hx
  obtain ⟨c, _, rfl⟩ := List.mem_map.1 hx
  rfl
 have a0 : ((l.take k).map fun c => wV (wCx c)).length <= 1000000000 := by rw [List.length_map, List.length_take]; omega
 have a4 : isByteRow ((l.take k).map fun c => wV (wCx c)) = false := by
  have := noByte ((l.take k).map wCx)
  rw [List.map_map] at this
  exact this
 have a2 : (((l.take k).map fun c => wV (wCx c)).length + 1) * 24 <= 140737488355328 := by omega
 have a3 : ((l.take k).map fun c => wV (wCx c)).length <= 9223372036854775806 := by omega
 simp only [go_sem, l26x0, b26, Tryd.f26, hlo, l1, l2, l3, d1, d2, q1, hgr, hw, hc1, hA, ht, hu, hv, a1, a2, a3, a4, cxsC_len, List.map_append, List.map_cons, List.map_nil]
 unfold NX26
 rw [ht]
 simp only [List.map_append, List.map_cons, List.map_nil, hu, hv]
theorem ex26 {H : Heap} {l : List Sel.Cx} : evCode (X26 lo h) loopW l26x0 (NX26 h l l.length, H) = some (.exit 1, NX26 h l l.length ++ [(25, .v (.bool false))], H) := by
 have q : decide ((l.length : Int) < (l.length : Int)) = false := by simp
 simp only [go_sem, l26x0, b26, Tryd.f26, q]
 all_goals rfl
theorem lx26 {O : Ob} {cs : List V} (hO : O = .cells cs) (hA : cs.all (okv (h.length + 2)) = true) {l : List Sel.Cx} (hlo : lo <= h.length) (hl : l.length <= 1000000000) (hc : ∀ c ∈ l, W17 c) : ∀ (m k : Nat), k + m = l.length ->
  loopW (evCode (X26 lo h) loopW l26x0) (NX26 h l k, h ++ [O, ZO]) = some (.exit 1, NX26 h l l.length ++ [(25, .v (.bool false))], h ++ [O, ZO]) := by
 intro m
 induction m with
 | zero =>
  intro k hk
  obtain rfl : k = l.length := by omega
  rw [loop_eq, ex26, loop_e]
 | succ m ih =>
  intro k hk
  have hlt : k < l.length := by omega
  have hm := hc _ (List.getElem_mem hlt)
  have hg := List.getElem?_eq_getElem hlt
  generalize l[k] = p at *
  obtain ⟨ps⟩ := p
  rw [loop_eq, rx26 hO hA hlo hl hg hm, loop_n, ih (k + 1) (by omega)]
theorem f26_of {k o a b : Int} {n v : List Int} {f : Bool} {l : List Sel.Cx} (hl : l.length <= 1000000000) (hc : ∀ c ∈ l, W17 c) : W26 (.mk k n o v f l a b) := by
 intro lo h hlo
 have l1 : lo <= h.length + 1 := by omega
 have l2 : lo <= h.length + 2 := by omega
 rw [e26 (by simp) (by rfl), smV_eq, wSm]
 by_cases k1 : k = 1 \/ k = 8
 ·rw [if_pos k1]
  rcases k1 with rfl | rfl
  all_goals
   simp only [go_sem, Int.reduceBEq, reduceIte, Bool.false_eq_true, b26, Tryd.f26, hlo, l1, l2]
   rfl
 rw [if_neg k1]
 by_cases k2 : k = 4
 ·subst k2
  rw [if_pos rfl]
  simp only [go_sem, Int.reduceBEq, reduceIte, Bool.false_eq_true, b26, Tryd.f26, hlo, l1, l2]
  rfl
 rw [if_neg k2]
 by_cases k3 : k = 2
 ·subst k3
  rw [if_pos rfl]
  simp only [go_sem, Int.reduceBEq, reduceIte, Bool.false_eq_true, b26, Tryd.f26, hlo, l1, l2]
  rfl
 rw [if_neg k3]
 by_cases k4 : k = 6 \/ k = 7
 ·rw [if_pos k4]
  have hL := lx26 (lo := lo) (h := h) (O := .cells [.v (.int .i64 k), .v (.string (bs n)), .v (.int .i64 o), .v (.string (bs v)), .v (.bool f), .list .no (cxsC l), .v (.int .i64 a), .v (.int .i64 b)]) rfl (by rfl) hlo hl hc l.length 0 (by omega)
  have hm : (l.map fun c => wV (wCx c)) = (wCxs l).map wV := by rw [wCxs_map, List.map_map]; rfl
  have c39 := fun lo h hlo => f39 (lo := lo) (h := h) (l := wCxs l) hlo (by rw [wCxs_map, List.length_map]; exact hl)
  rw [<- hm] at c39
  generalize mostW (wCxs l) = u at *
  have hv : wV u = [.v (.int .i64 u.a), .v (.int .i64 u.b), .v (.int .i64 u.c)] := rfl
  rw [hv] at c39 ⊢
  have t0 : (l.take 0).map (fun c => wV (wCx c)) = [] := rfl
  have tl : l.take l.length = l := List.take_length
  have n0 : ((0 : Nat) : Int) = 0 := rfl
  simp only [l26x0, b26, Tryd.f26, loopAt, loops, bodyOf, go_sem, NX26, n0, tl, List.map_nil, List.cons_append, List.nil_append] at hL
  rcases k4 with rfl | rfl
  all_goals
   simp only [go_sem, Int.reduceBEq, reduceIte, Bool.false_eq_true, b26, Tryd.f26, hlo, l1, l2, hL, c39, cxsC_len]
   all_goals rfl
 rw [if_neg k4]
 have q1 : (k == 1) = false := by rw [beq_eq_false_iff_ne]; omega
 have q2 : (k == 2) = false := by rw [beq_eq_false_iff_ne]; omega
 have q4 : (k == 4) = false := by rw [beq_eq_false_iff_ne]; omega
 have q6 : (k == 6) = false := by rw [beq_eq_false_iff_ne]; omega
 have q7 : (k == 7) = false := by rw [beq_eq_false_iff_ne]; omega
 have q8 : (k == 8) = false := by rw [beq_eq_false_iff_ne]; omega
 simp only [go_sem, b26, Tryd.f26, hlo, l1, l2, q1, q2, q4, q6, q7, q8]
 rfl
mutual
theorem wsm_ok : ∀ (s : Sm), okSm s -> W26 s
 | .mk k n o v f l a b => by
  have ih := wcxs_ok l
  intro hs
  rw [okSm] at hs
  exact f26_of hs.1.2.2.2.2 (ih hs.2)
theorem wsms_ok : ∀ (l : List Sm), okSms l -> ∀ s ∈ l, W26 s
 | [] => fun _ _ h => nomatch h
 | x :: r => by
  have i1 := wsm_ok x
  have i2 := wsms_ok r
  intro hs s hm
  rw [okSms] at hs
  rcases List.mem_cons.1 hm with rfl | hm
  ·exact i1 hs.1
  ·exact i2 hs.2 s hm
theorem wcps_ok : ∀ (l : List Cp), okCps l -> ∀ p ∈ l, Cp17 p
 | [] => fun _ _ h => nomatch h
 | .mk c ss :: r => by
  have i1 := wsms_ok ss
  have i2 := wcps_ok r
  intro hs p hm
  rw [okCps] at hs
  rcases List.mem_cons.1 hm with rfl | hm
  ·exact ⟨hs.1.1, i1 hs.1.2⟩
  ·exact i2 hs.2 p hm
theorem wcxs_ok : ∀ (l : List Sel.Cx), okCxs l -> ∀ c ∈ l, W17 c
 | [] => fun _ _ h => nomatch h
 | .mk ps :: r => by
  have i1 := wcps_ok ps
  have i2 := wcxs_ok r
  intro hs p hm
  rw [okCxs] at hs
  rcases List.mem_cons.1 hm with rfl | hm
  ·exact fun lo h hlo => f17_of hlo hs.1.1 (i1 hs.1.2)
  ·exact i2 hs.2 p hm
end
theorem f17 {ps : List Cp} (hl : ps.length <= 1000000000) (hs : okCps ps) : W17 (.mk ps) := fun lo h hlo => f17_of hlo hl (wcps_ok ps hs)
end Go.Lift.S9
end

section
open Go.Proofs
namespace Go.Lift.S9
variable [MX]
variable {lo : Nat} {h : Heap}
open Utf Spell Sel
def weighW (c : Sel.Cx) : Wt := if mayP sound 1 [c] = true then wCx c else wz
def weighE (c : Sel.Cx) : Int := if mayP sound 1 [c] = true then 0 else 1
theorem f9 {ps : List Cp} (hlo : lo <= h.length) (hl : ps.length <= 1000000000) (hs : okCps ps) : E lo 9 [.agg (cxV (.mk ps))] h = some (.tup [.agg (wV (weighW (.mk ps))), .v (.int .i64 (weighE (.mk ps)))], h) := by
 have l1 : lo <= h.length + 1 := by omega
 have l2 : lo <= h.length + 2 := by omega
 have c17 := fun lo h hlo => f17 hl hs lo h hlo
 have c6 := fun lo h hlo => f6 (lo := lo) (h := h) (l := [.mk ps]) hlo (by simp) (by rw [okCxs, okCxs]; exact ⟨⟨hl, hs⟩, trivial⟩)
 have hcx : cxsC [.mk ps] = [[.list .no (cpsC ps)]] := by rw [cxsC, cxsC, cxV_eq]
 rw [hcx] at c6
 unfold weighW weighE
 generalize wCx (.mk ps) = u at *
 have hv : wV u = [.v (.int .i64 u.a), .v (.int .i64 u.b), .v (.int .i64 u.c)] := rfl
 rw [e9 (by simp) (by rfl), cxV_eq]
 rw [cxV_eq, hv] at c17
 cases hm : mayP sound 1 [.mk ps] with
 | true =>
  rw [hm] at c6
  rw [if_pos rfl, if_pos rfl, hv]
  simp only [go_sem, b9, Tryd.f9, hlo, l1, l2, c6, c17]
  all_goals rfl
 | false =>
  rw [hm] at c6
  rw [if_neg (by simp), if_neg (by simp)]
  simp only [go_sem, b9, Tryd.f9, hlo, l1, l2, c6, c17]
  all_goals rfl
end Go.Lift.S9
end

section
open Go.Proofs
namespace Go.Lift.S9
variable [MX]
theorem f8z : evFun Tryd.prog hints primz0 80 0 8 [] [] = some (.v (.bool true), []) := by kernel_rfl
theorem f8 {lo : Nat} {h : Heap} : E lo 8 [] h = some (.v (.bool true), h) := by
 unfold E
 rw [ev_prim (p := awkP) rfl]
 rfl
end Go.Lift.S9
end

section
namespace Go.Lift.Sel
theorem wCps_in : ∀ (l : List Cp) (x : Wt), addW x wz = x -> addW (wCps x l) wz = wCps x l
 | [], x, h => by rw [wCps, h]
 | .mk c ss :: r, x, h => by rw [wCps]; exact wCps_in r _ (wSms_z ss x h)
theorem addW_comm (x y : Wt) : addW x y = addW y x := by
 simp only [addW, Wt.mk.injEq]
 exact ⟨congrArg _ (Int.add_comm _ _), congrArg _ (Int.add_comm _ _), congrArg _ (Int.add_comm _ _)⟩
theorem w_two {k : Int} (hk : k = 6 \/ k = 7) (ps : List Cp) : wCps wz [.mk 0 [.mk k [] 0 [] false [.mk ps, .mk ps] 0 0]] = wCps wz ps := by
 rw [wCps, wSms, wSm, if_neg (by omega), if_neg (by omega), if_neg (by omega), if_pos hk, wCxs, wCxs, wCxs, most_two, wSms, wCps, addW_comm, wCps_in ps wz rfl]
theorem w_where (ps : List Cp) : wCps wz [.mk 0 [.mk 8 [] 0 [] false [.mk ps, .mk ps] 0 0]] = wz := by
 rw [wCps, wSms, wSm, if_pos (by simp), wSms, wCps]
 rfl
variable (txt : List Int -> Bool)
theorem may_part {d : Nat} : ∀ (ps : List Cp) (first : Bool), cpsP txt d first ps = true -> ∀ c ss, .mk c ss ∈ ps -> cpsP txt d true [.mk 0 ss] = true
 | [], _, _, _, _, h => nomatch h
 | .mk c ss :: r, first, h, c', ss', hm => by
  rw [cpsP] at h
  simp only [Bool.and_eq_true] at h
  rcases List.mem_cons.1 hm with e | hm
  ·cases e
   rw [cpsP, cpsP]
   simp only [Bool.and_eq_true]
   exact ⟨⟨⟨⟨⟨rfl, by decide⟩, by decide⟩, h.1.1.2⟩, h.1.2⟩, trivial⟩
  ·exact may_part r false h.2 c' ss' hm
theorem may_one {ps : List Cp} (h : mayP txt 1 [.mk ps] = true) {c : Int} {ss : List Sm} (hm : .mk c ss ∈ ps) : mayP txt 1 [.mk [.mk 0 ss]] = true := by
 rw [mayP, cxsP, cxsP] at h ⊢
 simp only [Bool.and_eq_true] at h ⊢
 exact ⟨⟨rfl, by decide⟩, ⟨rfl, may_part txt ps true h.2.1.2 c ss hm⟩, trivial⟩
end Go.Lift.Sel
end
