/- utf.step: what stands in front of the bytes. -/
import Derived.Lib.TrailingZeros
import Derived.Lib.ItoaNum
import Derived.Lib.IndexLaws
import Derived.Lib.Repeat
import Derived.Lib.Bytealg
import Derived.Lib.Index
import Derived.Test.YtkbhmelfbekieaaGreatDoorGLd
import Derived.Test.YtkbhmelfbekieaaGreatDoorGKa
import Derived.Test.YtkbhmelfbekieaaGreatDoorGK0Basea
set_option linter.unusedVariables false
set_option linter.unusedSimpArgs false
set_option linter.unusedSectionVars false
set_option maxRecDepth 20000
set_option maxHeartbeats 4000000
section
open Go.Proofs
namespace Go.Lift.Z9
variable [MX]
open Utf
theorem round108 {lo : Nat} {b : List Int} {h : Heap} {i n : Nat} {r low high c : Int} (hc : b[i + 1]? = some c) (hi : i < n) (hn : n <= 3) (hb : b.length <= 140737488355328) (hl : i + 1 < b.length)
  (c0 : 0 <= c) (c1 : c <= 255) (r0 : 0 <= r) (r1 : r <= 1000000) (hx : (decide (c < low) || decide (high < c)) = false) :
  evCode ⟨Tryz.prog, E, lo, h.length, h108⟩ loopW l108x0 ([(0, .list .no (ri .u8 b)), (5, .v (.int .u8 low)), (6, .v (.int .u8 high)), (7, .v (.int .i64 n)), (8, .v (.int .i32 r)), (58, .v (.int .i64 n)), (59, .v (.int .i64 i))], h) =
   some (.normal, [(0, .list .no (ri .u8 b)), (5, .v (.int .u8 128)), (6, .v (.int .u8 191)), (7, .v (.int .i64 n)), (8, .v (.int .i32 (r * 64 + c % 64))), (58, .v (.int .i64 n)), (59, .v (.int .i64 (i + 1 : Nat)))], h) := by
 have hd : decide ((i : Int) < n) = true := by simpa using hi
 have hw : IntKind.i64.wrap ((i : Int) + 1) = ((i + 1 : Nat) : Int) := wrap_succ (by omega)
 have hg : decide ((b.length : Int) <= (i + 1 : Nat)) = false := by simp; omega
 have hx1 : decide (c < low) = false := by simp at hx; simp; omega
 have hx2 : decide (high < c) = false := by simp at hx; simp; omega
 simp only [go_sem, l108x0, b108, Tryz.f108, hd, hc, hw, hg, hx1, hx2]
 rw [shl6 r0 r1, a63 c0 c1, wrap_u8 (by omega) (by omega), wrap_i32 (n := c % 64) (by omega) (by omega), or64 r0 r1 (by omega) (by omega), wrap_i32 (by omega) (by omega)]
theorem stop108 {lo : Nat} {b : List Int} {h : Heap} {i n : Nat} {r low high : Int} (hi : i < n) (hn : n <= 3) (hb : b.length <= 140737488355328)
  (hs : b.length <= i + 1 \/ ∃ c, b[i + 1]? = some c /\ i + 1 < b.length /\ (c < low \/ high < c)) :
  evCode ⟨Tryz.prog, E, lo, h.length, h108⟩ loopW l108x0 ([(0, .list .no (ri .u8 b)), (5, .v (.int .u8 low)), (6, .v (.int .u8 high)), (7, .v (.int .i64 n)), (8, .v (.int .i32 r)), (58, .v (.int .i64 n)), (59, .v (.int .i64 i))], h) =
   some (.ret, [(2, .v (.int .i32 65533)), (3, .v (.int .i64 (i + 1 : Nat)))], h) := by
 have hd : decide ((i : Int) < n) = true := by simpa using hi
 have hw : IntKind.i64.wrap ((i : Int) + 1) = ((i + 1 : Nat) : Int) := wrap_succ (by omega)
 rcases hs with hs | ⟨c, hc, hl, hs⟩
 ·have hg : decide ((b.length : Int) <= (i + 1 : Nat)) = true := by simp; omega
  have hc : b[i + 1]? = none := List.getElem?_eq_none hs
  simp only [go_sem, l108x0, b108, Tryz.f108, hd, hw, hg, hc]
 ·have hg : decide ((b.length : Int) <= (i + 1 : Nat)) = false := by simp; omega
  by_cases h1 : c < low
  ·have hx1 : decide (c < low) = true := by simp; omega
   simp only [go_sem, l108x0, b108, Tryz.f108, hd, hc, hw, hg, hx1]
  ·have hx1 : decide (c < low) = false := by simp; omega
   have hx2 : decide (high < c) = true := by simp; omega
   simp only [go_sem, l108x0, b108, Tryz.f108, hd, hc, hw, hg, hx1, hx2]
def end108 (b : List Int) (n : Nat) (x : Int × Nat × Bool) (h : Heap) (z : Ex × St) : Prop :=
 if x.2.2 = true then ∃ low high, z = (.exit 3, [(0, .list .no (ri .u8 b)), (5, .v (.int .u8 low)), (6, .v (.int .u8 high)), (7, .v (.int .i64 n)), (8, .v (.int .i32 x.1)), (58, .v (.int .i64 n)), (59, .v (.int .i64 n)), (60, .v (.bool false))], h)
 else z = (.ret, [(2, .v (.int .i32 x.1)), (3, .v (.int .i64 x.2.1))], h)
theorem more_snd : ∀ (n : Nat) (r lo hi : Int) (k : Nat) (t : List Int), (more n r lo hi k t).2.2 = true -> (more n r lo hi k t).2.1 = k + n
 | 0, _, _, _, _, _, _ => rfl
 | n + 1, r, lo, hi, k, [], h => by simp [more] at h
 | n + 1, r, lo, hi, k, c :: t, h => by
  unfold more at h ⊢
  split at h
  ·simp at h
  ·rename_i hc
   rw [if_neg hc, more_snd n _ _ _ _ _ h]
   omega
theorem loop108 {lo : Nat} {b : List Int} {h : Heap} {n : Nat} (hn : n <= 3) (hb : b.length <= 140737488355328) (hy : By b) : ∀ (m i : Nat) (r low high : Int), m = n - i -> i <= n -> 0 <= r -> (r + 1) * 64 ^ m <= 64000000 ->
  ∃ z, loopW (evCode ⟨Tryz.prog, E, lo, h.length, h108⟩ loopW l108x0) ([(0, .list .no (ri .u8 b)), (5, .v (.int .u8 low)), (6, .v (.int .u8 high)), (7, .v (.int .i64 n)), (8, .v (.int .i32 r)), (58, .v (.int .i64 n)), (59, .v (.int .i64 i))], h) = some z
   /\ end108 b n (more m r low high (i + 1) (b.drop (i + 1))) h z := by
 intro m
 induction m with
 | zero =>
  intro i r low high hm hi h0 h1
  obtain rfl : i = n := by omega
  have hd : decide ((i : Int) < i) = false := by simp
  rw [loop_eq]
  simp only [go_sem, l108x0, b108, Tryz.f108, hd]
  exact ⟨_, rfl, low, high, rfl⟩
 | succ m ih =>
  intro i r low high hm hi h0 h1
  have hlt : i < n := by omega
  rw [loop_eq]
  by_cases hl : i + 1 < b.length
  ·have hc : b[i + 1]? = some b[i + 1] := List.getElem?_eq_getElem hl
   have hcy := hy b[i + 1] (List.getElem_mem hl)
   rw [List.drop_eq_getElem_cons hl]
   by_cases hx : b[i + 1] < low \/ high < b[i + 1]
   ·rw [stop108 hlt hn hb (.inr ⟨_, hc, hl, hx⟩), loop_r]
    exact ⟨_, rfl, by simp only [more, if_pos hx]; rfl⟩
   ·rw [Int.pow_succ] at h1
    have hp : (1 : Int) <= 64 ^ m := Int.pow_pos (by omega)
    have hr : (r + 1) * 64 * 64 ^ m = (r + 1) * (64 ^ m * 64) := by rw [Int.mul_assoc, Int.mul_comm 64]
    have h2 : (r + 1) * 64 * 1 <= (r + 1) * 64 * 64 ^ m := Int.mul_le_mul_of_nonneg_left hp (by omega)
    have h3 : (r * 64 + b[i + 1] % 64 + 1) * 64 ^ m <= (r + 1) * 64 * 64 ^ m := Int.mul_le_mul_of_nonneg_right (by omega) (by omega)
    rw [round108 hc hlt hn hb hl hcy.1 hcy.2 h0 (by omega) (by simp; omega), loop_n]
    have := ih (i + 1) (r * 64 + b[i + 1] % 64) 128 191 (by omega) (by omega) (by omega) (by omega)
    simpa only [more, if_neg hx] using this
  ·have hs : b.length <= i + 1 := by omega
   rw [stop108 hlt hn hb (.inl hs), loop_r, List.drop_eq_nil_of_le hs]
   exact ⟨_, rfl, rfl⟩
end Go.Lift.Z9
end

section
open Go.Proofs
namespace Go.Lift.Z9
variable [MX]
open Utf
def two (x : Int × Nat × Bool) : V := .tup [.v (.int .i32 x.1), .v (.int .i64 x.2.1)]
theorem f108a {lo : Nat} {c : Int} {t : List Int} {h : Heap} (hb : (c :: t).length <= 140737488355328) (hy : By (c :: t)) (hc : 194 <= c /\ c <= 223) :
  E lo 108 [.list .no (ri .u8 (c :: t))] h = some (two (more 1 (c % 32) 128 191 1 t), h) := by
 have hcy := hy c (List.mem_cons_self ..)
 have t0 : decide (c < 128) = false := by simp; omega
 have t1 : decide (194 <= c) = true := by simp; omega
 have t2 : decide (c <= 223) = true := by simp; omega
 have t3 : decide (224 <= c) = false := by simp; omega
 have t4 : decide (c <= 239) = true := by simp; omega
 have t5 : decide (240 <= c) = false := by simp; omega
 have t6 : decide (c <= 244) = true := by simp; omega
 have q0 : (c == 224) = false := by simp; omega
 have q1 : (c == 237) = false := by simp; omega
 have q2 : (c == 240) = false := by simp; omega
 have q3 : (c == 244) = false := by simp; omega
 have hx : (c :: t)[0]? = some c := rfl
 have hm : IntKind.i32.wrap (IntKind.u8.wrap (iand .u8 c 31)) = c % 32 := by rw [a31 hcy.1 hcy.2, wrap_u8 (by omega) (by omega), wrap_i32 (by omega) (by omega)]
 obtain ⟨z, hL, hz⟩ := loop108 (lo := lo) (b := c :: t) (h := h) (n := 1) (by omega) hb hy 1 0 (c % 32) 128 191 rfl (by omega) (by omega) (by omega)
 have hn : (c :: t).drop (0 + 1) = t := rfl
 rw [hn] at hz
 have n1 : ((1 : Nat) : Int) = 1 := rfl
 have n2 : ((2 : Nat) : Int) = 2 := rfl
 have n3 : ((3 : Nat) : Int) = 3 := rfl
 simp only [l108x0, b108, Tryz.f108, loopAt, loops, bodyOf, go_sem, n1, n2, n3] at hL
 rw [e108 (by simp) (by rfl)]
 unfold end108 at hz
 split at hz
 ·rename_i hk
  obtain ⟨low, high, rfl⟩ := hz
  simp only [n1, n2, n3] at hL
  simp only [go_sem, b108, Tryz.f108, hx, t0, t1, t2, t3, t4, t5, t6, q0, q1, q2, q3, hm, hL]
  rw [two, more_snd _ _ _ _ _ _ hk]
  rfl
 ·subst hz
  simp only [go_sem, b108, Tryz.f108, hx, t0, t1, t2, t3, t4, t5, t6, q0, q1, q2, q3, hm, hL]
  rfl
theorem f108b {lo : Nat} {c : Int} {t : List Int} {h : Heap} (hb : (c :: t).length <= 140737488355328) (hy : By (c :: t)) (hc : c = 224) :
  E lo 108 [.list .no (ri .u8 (c :: t))] h = some (two (more 2 (c % 16) 160 191 1 t), h) := by
 have hcy := hy c (List.mem_cons_self ..)
 have t0 : decide (c < 128) = false := by simp; omega
 have t1 : decide (194 <= c) = true := by simp; omega
 have t2 : decide (c <= 223) = false := by simp; omega
 have t3 : decide (224 <= c) = true := by simp; omega
 have t4 : decide (c <= 239) = true := by simp; omega
 have t5 : decide (240 <= c) = false := by simp; omega
 have t6 : decide (c <= 244) = true := by simp; omega
 have q0 : (c == 224) = true := by simp; omega
 have q1 : (c == 237) = false := by simp; omega
 have q2 : (c == 240) = false := by simp; omega
 have q3 : (c == 244) = false := by simp; omega
 have hx : (c :: t)[0]? = some c := rfl
 have hm : IntKind.i32.wrap (IntKind.u8.wrap (iand .u8 c 15)) = c % 16 := by rw [a15 hcy.1 hcy.2, wrap_u8 (by omega) (by omega), wrap_i32 (by omega) (by omega)]
 obtain ⟨z, hL, hz⟩ := loop108 (lo := lo) (b := c :: t) (h := h) (n := 2) (by omega) hb hy 2 0 (c % 16) 160 191 rfl (by omega) (by omega) (by omega)
 have hn : (c :: t).drop (0 + 1) = t := rfl
 rw [hn] at hz
 have n1 : ((1 : Nat) : Int) = 1 := rfl
 have n2 : ((2 : Nat) : Int) = 2 := rfl
 have n3 : ((3 : Nat) : Int) = 3 := rfl
 simp only [l108x0, b108, Tryz.f108, loopAt, loops, bodyOf, go_sem, n1, n2, n3] at hL
 rw [e108 (by simp) (by rfl)]
 unfold end108 at hz
 split at hz
 ·rename_i hk
  obtain ⟨low, high, rfl⟩ := hz
  simp only [n1, n2, n3] at hL
  simp only [go_sem, b108, Tryz.f108, hx, t0, t1, t2, t3, t4, t5, t6, q0, q1, q2, q3, hm, hL]
  rw [two, more_snd _ _ _ _ _ _ hk]
  rfl
 ·subst hz
  simp only [go_sem, b108, Tryz.f108, hx, t0, t1, t2, t3, t4, t5, t6, q0, q1, q2, q3, hm, hL]
  rfl
theorem f108c {lo : Nat} {c : Int} {t : List Int} {h : Heap} (hb : (c :: t).length <= 140737488355328) (hy : By (c :: t)) (hc : c = 237) :
  E lo 108 [.list .no (ri .u8 (c :: t))] h = some (two (more 2 (c % 16) 128 159 1 t), h) := by
 have hcy := hy c (List.mem_cons_self ..)
 have t0 : decide (c < 128) = false := by simp; omega
 have t1 : decide (194 <= c) = true := by simp; omega
 have t2 : decide (c <= 223) = false := by simp; omega
 have t3 : decide (224 <= c) = true := by simp; omega
 have t4 : decide (c <= 239) = true := by simp; omega
 have t5 : decide (240 <= c) = false := by simp; omega
 have t6 : decide (c <= 244) = true := by simp; omega
 have q0 : (c == 224) = false := by simp; omega
 have q1 : (c == 237) = true := by simp; omega
 have q2 : (c == 240) = false := by simp; omega
 have q3 : (c == 244) = false := by simp; omega
 have hx : (c :: t)[0]? = some c := rfl
 have hm : IntKind.i32.wrap (IntKind.u8.wrap (iand .u8 c 15)) = c % 16 := by rw [a15 hcy.1 hcy.2, wrap_u8 (by omega) (by omega), wrap_i32 (by omega) (by omega)]
 obtain ⟨z, hL, hz⟩ := loop108 (lo := lo) (b := c :: t) (h := h) (n := 2) (by omega) hb hy 2 0 (c % 16) 128 159 rfl (by omega) (by omega) (by omega)
 have hn : (c :: t).drop (0 + 1) = t := rfl
 rw [hn] at hz
 have n1 : ((1 : Nat) : Int) = 1 := rfl
 have n2 : ((2 : Nat) : Int) = 2 := rfl
 have n3 : ((3 : Nat) : Int) = 3 := rfl
 simp only [l108x0, b108, Tryz.f108, loopAt, loops, bodyOf, go_sem, n1, n2, n3] at hL
 rw [e108 (by simp) (by rfl)]
 unfold end108 at hz
 split at hz
 ·rename_i hk
  obtain ⟨low, high, rfl⟩ := hz
  simp only [n1, n2, n3] at hL
  simp only [go_sem, b108, Tryz.f108, hx, t0, t1, t2, t3, t4, t5, t6, q0, q1, q2, q3, hm, hL]
  rw [two, more_snd _ _ _ _ _ _ hk]
  rfl
 ·subst hz
  simp only [go_sem, b108, Tryz.f108, hx, t0, t1, t2, t3, t4, t5, t6, q0, q1, q2, q3, hm, hL]
  rfl
theorem f108d {lo : Nat} {c : Int} {t : List Int} {h : Heap} (hb : (c :: t).length <= 140737488355328) (hy : By (c :: t)) (hc : 225 <= c /\ c <= 239 /\ c ≠ 237) :
  E lo 108 [.list .no (ri .u8 (c :: t))] h = some (two (more 2 (c % 16) 128 191 1 t), h) := by
 have hcy := hy c (List.mem_cons_self ..)
 have t0 : decide (c < 128) = false := by simp; omega
 have t1 : decide (194 <= c) = true := by simp; omega
 have t2 : decide (c <= 223) = false := by simp; omega
 have t3 : decide (224 <= c) = true := by simp; omega
 have t4 : decide (c <= 239) = true := by simp; omega
 have t5 : decide (240 <= c) = false := by simp; omega
 have t6 : decide (c <= 244) = true := by simp; omega
 have q0 : (c == 224) = false := by simp; omega
 have q1 : (c == 237) = false := by simp; omega
 have q2 : (c == 240) = false := by simp; omega
 have q3 : (c == 244) = false := by simp; omega
 have hx : (c :: t)[0]? = some c := rfl
 have hm : IntKind.i32.wrap (IntKind.u8.wrap (iand .u8 c 15)) = c % 16 := by rw [a15 hcy.1 hcy.2, wrap_u8 (by omega) (by omega), wrap_i32 (by omega) (by omega)]
 obtain ⟨z, hL, hz⟩ := loop108 (lo := lo) (b := c :: t) (h := h) (n := 2) (by omega) hb hy 2 0 (c % 16) 128 191 rfl (by omega) (by omega) (by omega)
 have hn : (c :: t).drop (0 + 1) = t := rfl
 rw [hn] at hz
 have n1 : ((1 : Nat) : Int) = 1 := rfl
 have n2 : ((2 : Nat) : Int) = 2 := rfl
 have n3 : ((3 : Nat) : Int) = 3 := rfl
 simp only [l108x0, b108, Tryz.f108, loopAt, loops, bodyOf, go_sem, n1, n2, n3] at hL
 rw [e108 (by simp) (by rfl)]
 unfold end108 at hz
 split at hz
 ·rename_i hk
  obtain ⟨low, high, rfl⟩ := hz
  simp only [n1, n2, n3] at hL
  simp only [go_sem, b108, Tryz.f108, hx, t0, t1, t2, t3, t4, t5, t6, q0, q1, q2, q3, hm, hL]
  rw [two, more_snd _ _ _ _ _ _ hk]
  rfl
 ·subst hz
  simp only [go_sem, b108, Tryz.f108, hx, t0, t1, t2, t3, t4, t5, t6, q0, q1, q2, q3, hm, hL]
  rfl
theorem f108e {lo : Nat} {c : Int} {t : List Int} {h : Heap} (hb : (c :: t).length <= 140737488355328) (hy : By (c :: t)) (hc : c = 240) :
  E lo 108 [.list .no (ri .u8 (c :: t))] h = some (two (more 3 (c % 8) 144 191 1 t), h) := by
 have hcy := hy c (List.mem_cons_self ..)
 have t0 : decide (c < 128) = false := by simp; omega
 have t1 : decide (194 <= c) = true := by simp; omega
 have t2 : decide (c <= 223) = false := by simp; omega
 have t3 : decide (224 <= c) = true := by simp; omega
 have t4 : decide (c <= 239) = false := by simp; omega
 have t5 : decide (240 <= c) = true := by simp; omega
 have t6 : decide (c <= 244) = true := by simp; omega
 have q0 : (c == 224) = false := by simp; omega
 have q1 : (c == 237) = false := by simp; omega
 have q2 : (c == 240) = true := by simp; omega
 have q3 : (c == 244) = false := by simp; omega
 have hx : (c :: t)[0]? = some c := rfl
 have hm : IntKind.i32.wrap (IntKind.u8.wrap (iand .u8 c 7)) = c % 8 := by rw [a7 hcy.1 hcy.2, wrap_u8 (by omega) (by omega), wrap_i32 (by omega) (by omega)]
 obtain ⟨z, hL, hz⟩ := loop108 (lo := lo) (b := c :: t) (h := h) (n := 3) (by omega) hb hy 3 0 (c % 8) 144 191 rfl (by omega) (by omega) (by omega)
 have hn : (c :: t).drop (0 + 1) = t := rfl
 rw [hn] at hz
 have n1 : ((1 : Nat) : Int) = 1 := rfl
 have n2 : ((2 : Nat) : Int) = 2 := rfl
 have n3 : ((3 : Nat) : Int) = 3 := rfl
 simp only [l108x0, b108, Tryz.f108, loopAt, loops, bodyOf, go_sem, n1, n2, n3] at hL
 rw [e108 (by simp) (by rfl)]
 unfold end108 at hz
 split at hz
 ·rename_i hk
  obtain ⟨low, high, rfl⟩ := hz
  simp only [n1, n2, n3] at hL
  simp only [go_sem, b108, Tryz.f108, hx, t0, t1, t2, t3, t4, t5, t6, q0, q1, q2, q3, hm, hL]
  rw [two, more_snd _ _ _ _ _ _ hk]
  rfl
 ·subst hz
  simp only [go_sem, b108, Tryz.f108, hx, t0, t1, t2, t3, t4, t5, t6, q0, q1, q2, q3, hm, hL]
  rfl
theorem f108f {lo : Nat} {c : Int} {t : List Int} {h : Heap} (hb : (c :: t).length <= 140737488355328) (hy : By (c :: t)) (hc : 241 <= c /\ c <= 243) :
  E lo 108 [.list .no (ri .u8 (c :: t))] h = some (two (more 3 (c % 8) 128 191 1 t), h) := by
 have hcy := hy c (List.mem_cons_self ..)
 have t0 : decide (c < 128) = false := by simp; omega
 have t1 : decide (194 <= c) = true := by simp; omega
 have t2 : decide (c <= 223) = false := by simp; omega
 have t3 : decide (224 <= c) = true := by simp; omega
 have t4 : decide (c <= 239) = false := by simp; omega
 have t5 : decide (240 <= c) = true := by simp; omega
 have t6 : decide (c <= 244) = true := by simp; omega
 have q0 : (c == 224) = false := by simp; omega
 have q1 : (c == 237) = false := by simp; omega
 have q2 : (c == 240) = false := by simp; omega
 have q3 : (c == 244) = false := by simp; omega
 have hx : (c :: t)[0]? = some c := rfl
 have hm : IntKind.i32.wrap (IntKind.u8.wrap (iand .u8 c 7)) = c % 8 := by rw [a7 hcy.1 hcy.2, wrap_u8 (by omega) (by omega), wrap_i32 (by omega) (by omega)]
 obtain ⟨z, hL, hz⟩ := loop108 (lo := lo) (b := c :: t) (h := h) (n := 3) (by omega) hb hy 3 0 (c % 8) 128 191 rfl (by omega) (by omega) (by omega)
 have hn : (c :: t).drop (0 + 1) = t := rfl
 rw [hn] at hz
 have n1 : ((1 : Nat) : Int) = 1 := rfl
 have n2 : ((2 : Nat) : Int) = 2 := rfl
 have n3 : ((3 : Nat) : Int) = 3 := rfl
 simp only [l108x0, b108, Tryz.f108, loopAt, loops, bodyOf, go_sem, n1, n2, n3] at hL
 rw [e108 (by simp) (by rfl)]
 unfold end108 at hz
 split at hz
 ·rename_i hk
  obtain ⟨low, high, rfl⟩ := hz
  simp only [n1, n2, n3] at hL
  simp only [go_sem, b108, Tryz.f108, hx, t0, t1, t2, t3, t4, t5, t6, q0, q1, q2, q3, hm, hL]
  rw [two, more_snd _ _ _ _ _ _ hk]
  rfl
 ·subst hz
  simp only [go_sem, b108, Tryz.f108, hx, t0, t1, t2, t3, t4, t5, t6, q0, q1, q2, q3, hm, hL]
  rfl
theorem f108g {lo : Nat} {c : Int} {t : List Int} {h : Heap} (hb : (c :: t).length <= 140737488355328) (hy : By (c :: t)) (hc : c = 244) :
  E lo 108 [.list .no (ri .u8 (c :: t))] h = some (two (more 3 (c % 8) 128 143 1 t), h) := by
 have hcy := hy c (List.mem_cons_self ..)
 have t0 : decide (c < 128) = false := by simp; omega
 have t1 : decide (194 <= c) = true := by simp; omega
 have t2 : decide (c <= 223) = false := by simp; omega
 have t3 : decide (224 <= c) = true := by simp; omega
 have t4 : decide (c <= 239) = false := by simp; omega
 have t5 : decide (240 <= c) = true := by simp; omega
 have t6 : decide (c <= 244) = true := by simp; omega
 have q0 : (c == 224) = false := by simp; omega
 have q1 : (c == 237) = false := by simp; omega
 have q2 : (c == 240) = false := by simp; omega
 have q3 : (c == 244) = true := by simp; omega
 have hx : (c :: t)[0]? = some c := rfl
 have hm : IntKind.i32.wrap (IntKind.u8.wrap (iand .u8 c 7)) = c % 8 := by rw [a7 hcy.1 hcy.2, wrap_u8 (by omega) (by omega), wrap_i32 (by omega) (by omega)]
 obtain ⟨z, hL, hz⟩ := loop108 (lo := lo) (b := c :: t) (h := h) (n := 3) (by omega) hb hy 3 0 (c % 8) 128 143 rfl (by omega) (by omega) (by omega)
 have hn : (c :: t).drop (0 + 1) = t := rfl
 rw [hn] at hz
 have n1 : ((1 : Nat) : Int) = 1 := rfl
 have n2 : ((2 : Nat) : Int) = 2 := rfl
 have n3 : ((3 : Nat) : Int) = 3 := rfl
 simp only [l108x0, b108, Tryz.f108, loopAt, loops, bodyOf, go_sem, n1, n2, n3] at hL
 rw [e108 (by simp) (by rfl)]
 unfold end108 at hz
 split at hz
 ·rename_i hk
  obtain ⟨low, high, rfl⟩ := hz
  simp only [n1, n2, n3] at hL
  simp only [go_sem, b108, Tryz.f108, hx, t0, t1, t2, t3, t4, t5, t6, q0, q1, q2, q3, hm, hL]
  rw [two, more_snd _ _ _ _ _ _ hk]
  rfl
 ·subst hz
  simp only [go_sem, b108, Tryz.f108, hx, t0, t1, t2, t3, t4, t5, t6, q0, q1, q2, q3, hm, hL]
  rfl
end Go.Lift.Z9
end

section
open Go.Proofs
namespace Go.Lift.Z9
variable [MX]
open Utf
theorem f108 {lo : Nat} {c : Int} {t : List Int} {h : Heap} (hb : (c :: t).length <= 140737488355328) (hy : By (c :: t)) :
  E lo 108 [.list .no (ri .u8 (c :: t))] h = some (two (one (c :: t)), h) := by
 have hcy := hy c (List.mem_cons_self ..)
 have hx : (c :: t)[0]? = some c := rfl
 simp only [one]
 by_cases h0 : c < 128
 ·rw [if_pos h0]
  have t0 : decide (c < 128) = true := by simp; omega
  have hm : IntKind.i32.wrap c = c := wrap_i32 (by omega) (by omega)
  rw [e108 (by simp) (by rfl)]
  simp only [go_sem, b108, Tryz.f108, hx, t0, hm]
  rfl
 ·rw [if_neg h0]
  by_cases ha : 194 <= c /\ c <= 223
  ·have e : nd c = (1, 128, 191) := by unfold nd; rw [if_pos ha]
   rw [f108a hb hy ha, e]
   rfl
  by_cases hb1 : c = 224
  ·have e : nd c = (2, 160, 191) := by unfold nd; rw [if_neg ha, if_pos hb1]
   rw [f108b hb hy hb1, e]
   rfl
  by_cases hc1 : c = 237
  ·have e : nd c = (2, 128, 159) := by unfold nd; rw [if_neg ha, if_neg hb1, if_pos hc1]
   rw [f108c hb hy hc1, e]
   rfl
  by_cases hd1 : 225 <= c /\ c <= 239
  ·have e : nd c = (2, 128, 191) := by unfold nd; rw [if_neg ha, if_neg hb1, if_neg hc1, if_pos hd1]
   rw [f108d hb hy ⟨hd1.1, hd1.2, hc1⟩, e]
   rfl
  by_cases he1 : c = 240
  ·have e : nd c = (3, 144, 191) := by unfold nd; rw [if_neg ha, if_neg hb1, if_neg hc1, if_neg hd1, if_pos he1]
   rw [f108e hb hy he1, e]
   rfl
  by_cases hf1 : 241 <= c /\ c <= 243
  ·have e : nd c = (3, 128, 191) := by unfold nd; rw [if_neg ha, if_neg hb1, if_neg hc1, if_neg hd1, if_neg he1, if_pos hf1]
   rw [f108f hb hy hf1, e]
   rfl
  by_cases hg1 : c = 244
  ·have e : nd c = (3, 128, 143) := by unfold nd; rw [if_neg ha, if_neg hb1, if_neg hc1, if_neg hd1, if_neg he1, if_neg hf1, if_pos hg1]
   rw [f108g hb hy hg1, e]
   rfl
  have e : nd c = (0, 0, 0) := by unfold nd; rw [if_neg ha, if_neg hb1, if_neg hc1, if_neg hd1, if_neg he1, if_neg hf1, if_neg hg1]
  rw [e, if_pos rfl]
  have t0 : decide (c < 128) = false := by simp; omega
  have t1 : (decide (194 <= c) && decide (c <= 223)) = false := by simp; omega
  have t2 : (decide (224 <= c) && decide (c <= 239)) = false := by simp; omega
  have t3 : (decide (240 <= c) && decide (c <= 244)) = false := by simp; omega
  rw [e108 (by simp) (by rfl)]
  simp only [go_sem, b108, Tryz.f108, hx, t0, t1, t2, t3]
  rfl
theorem f91 {lo : Nat} {c : Int} {h : Heap} (h0 : 0 <= c) (h1 : c <= 255) : E lo 91 [.v (.int .u8 c)] h = some (.tup [.v (.int .i64 (nd c).1), .v (.int .u8 (nd c).2.1), .v (.int .u8 (nd c).2.2)], h) := by
 rw [e91 (by simp) (by rfl)]
 by_cases ha : 194 <= c /\ c <= 223
 ·have e : nd c = (1, 128, 191) := by unfold nd; rw [if_pos ha]
  have t1 : (decide (194 <= c) && decide (c <= 223)) = true := by simp; omega
  rw [e]
  simp only [go_sem, b91, Tryz.f91, t1]
  rfl
 have t1 : (decide (194 <= c) && decide (c <= 223)) = false := by simp; omega
 by_cases hb1 : c = 224
 ·have e : nd c = (2, 160, 191) := by unfold nd; rw [if_neg ha, if_pos hb1]
  have t2 : (c == 224) = true := by simp; omega
  rw [e]
  simp only [go_sem, b91, Tryz.f91, t1, t2]
  rfl
 have t2 : (c == 224) = false := by simp; omega
 by_cases hc1 : c = 237
 ·have e : nd c = (2, 128, 159) := by unfold nd; rw [if_neg ha, if_neg hb1, if_pos hc1]
  have t3 : (c == 237) = true := by simp; omega
  rw [e]
  simp only [go_sem, b91, Tryz.f91, t1, t2, t3]
  rfl
 have t3 : (c == 237) = false := by simp; omega
 by_cases hd1 : 225 <= c /\ c <= 239
 ·have e : nd c = (2, 128, 191) := by unfold nd; rw [if_neg ha, if_neg hb1, if_neg hc1, if_pos hd1]
  have t4 : (decide (225 <= c) && decide (c <= 239)) = true := by simp; omega
  rw [e]
  simp only [go_sem, b91, Tryz.f91, t1, t2, t3, t4]
  rfl
 have t4 : (decide (225 <= c) && decide (c <= 239)) = false := by simp; omega
 by_cases he1 : c = 240
 ·have e : nd c = (3, 144, 191) := by unfold nd; rw [if_neg ha, if_neg hb1, if_neg hc1, if_neg hd1, if_pos he1]
  have t5 : (c == 240) = true := by simp; omega
  rw [e]
  simp only [go_sem, b91, Tryz.f91, t1, t2, t3, t4, t5]
  rfl
 have t5 : (c == 240) = false := by simp; omega
 by_cases hf1 : 241 <= c /\ c <= 243
 ·have e : nd c = (3, 128, 191) := by unfold nd; rw [if_neg ha, if_neg hb1, if_neg hc1, if_neg hd1, if_neg he1, if_pos hf1]
  have t6 : (decide (241 <= c) && decide (c <= 243)) = true := by simp; omega
  rw [e]
  simp only [go_sem, b91, Tryz.f91, t1, t2, t3, t4, t5, t6]
  rfl
 have t6 : (decide (241 <= c) && decide (c <= 243)) = false := by simp; omega
 by_cases hg1 : c = 244
 ·have e : nd c = (3, 128, 143) := by unfold nd; rw [if_neg ha, if_neg hb1, if_neg hc1, if_neg hd1, if_neg he1, if_neg hf1, if_pos hg1]
  have t7 : (c == 244) = true := by simp; omega
  rw [e]
  simp only [go_sem, b91, Tryz.f91, t1, t2, t3, t4, t5, t6, t7]
  rfl
 have t7 : (c == 244) = false := by simp; omega
 have e : nd c = (0, 0, 0) := by unfold nd; rw [if_neg ha, if_neg hb1, if_neg hc1, if_neg hd1, if_neg he1, if_neg hf1, if_neg hg1]
 rw [e]
 simp only [go_sem, b91, Tryz.f91, t1, t2, t3, t4, t5, t6, t7]
end Go.Lift.Z9
end

section
open Go.Proofs
namespace Go.Lift.Z9
variable [MX]
open Utf
theorem round68 {lo : Nat} {b : List Int} {h : Heap} {i k n : Nat} {r low high c : Int} (hc : b[i + k]? = some c) (hi : k <= n) (hn : n <= 3) (hb : b.length <= 140737488355328) (hl : i + k < b.length)
  (c0 : 0 <= c) (c1 : c <= 255) (r0 : 0 <= r) (r1 : r <= 1000000) (hx : ¬ (c < low \/ high < c)) :
  evCode ⟨Tryz.prog, E, lo, h.length, h68⟩ loopW l68x0 ([(0, .list .no (ri .u8 b)), (1, .v (.int .i64 i)), (8, .v (.int .i64 n)), (9, .v (.int .u8 low)), (10, .v (.int .u8 high)), (11, .v (.int .i32 r)), (12, .v (.int .i64 k))], h) =
   some (.normal, [(0, .list .no (ri .u8 b)), (1, .v (.int .i64 i)), (8, .v (.int .i64 n)), (9, .v (.int .u8 128)), (10, .v (.int .u8 191)), (11, .v (.int .i32 (r * 64 + c % 64))), (12, .v (.int .i64 (k + 1 : Nat)))], h) := by
 have hd : decide ((k : Int) <= n) = true := by simpa using hi
 have hw : IntKind.i64.wrap ((i : Int) + k) = ((i + k : Nat) : Int) := by rw [wrap_i64 (by omega) (by omega)]; omega
 have hw1 : IntKind.i64.wrap ((k : Int) + 1) = ((k + 1 : Nat) : Int) := wrap_succ (by omega)
 have hg : decide ((b.length : Int) <= (i + k : Nat)) = false := by simp; omega
 have hx1 : decide (c < low) = false := by simp; omega
 have hx2 : decide (high < c) = false := by simp; omega
 simp only [go_sem, l68x0, b68, Tryz.f68, hd, hc, hw, hw1, hg, hx1, hx2]
 rw [shl6 r0 r1, a63 c0 c1, wrap_u8 (by omega) (by omega), wrap_i32 (n := c % 64) (by omega) (by omega), or64 r0 r1 (by omega) (by omega), wrap_i32 (by omega) (by omega)]
theorem stop68 {lo : Nat} {b : List Int} {h : Heap} {i k n : Nat} {r low high : Int} (hi : k <= n) (hn : n <= 3) (hb : b.length <= 140737488355328) (hib : i <= 140737488355328)
  (hs : b.length <= i + k \/ ∃ c, b[i + k]? = some c /\ i + k < b.length /\ (c < low \/ high < c)) :
  evCode ⟨Tryz.prog, E, lo, h.length, h68⟩ loopW l68x0 ([(0, .list .no (ri .u8 b)), (1, .v (.int .i64 i)), (8, .v (.int .i64 n)), (9, .v (.int .u8 low)), (10, .v (.int .u8 high)), (11, .v (.int .i32 r)), (12, .v (.int .i64 k))], h) =
   some (.ret, [(4, .v (.int .i32 65533)), (5, .v (.int .i64 k)), (6, .v (.bool false))], h) := by
 have hd : decide ((k : Int) <= n) = true := by simpa using hi
 have hw : IntKind.i64.wrap ((i : Int) + k) = ((i + k : Nat) : Int) := by rw [wrap_i64 (by omega) (by omega)]; omega
 have hw1 : IntKind.i64.wrap ((k : Int) + 1) = ((k + 1 : Nat) : Int) := wrap_succ (by omega)
 rcases hs with hs | ⟨c, hc, hl, hs⟩
 ·have hg : decide ((b.length : Int) <= (i + k : Nat)) = true := by simp; omega
  have hc : b[i + k]? = none := List.getElem?_eq_none hs
  simp only [go_sem, l68x0, b68, Tryz.f68, hd, hw, hw1, hg, hc]
 ·have hg : decide ((b.length : Int) <= (i + k : Nat)) = false := by simp; omega
  by_cases h1 : c < low
  ·have hx1 : decide (c < low) = true := by simp; omega
   simp only [go_sem, l68x0, b68, Tryz.f68, hd, hc, hw, hw1, hg, hx1]
  ·have hx1 : decide (c < low) = false := by simp; omega
   have hx2 : decide (high < c) = true := by simp; omega
   simp only [go_sem, l68x0, b68, Tryz.f68, hd, hc, hw, hw1, hg, hx1, hx2]
def end68 (b : List Int) (i n : Nat) (x : Int × Nat × Bool) (h : Heap) (z : Ex × St) : Prop :=
 if x.2.2 = true then ∃ low high, z = (.exit 0, [(0, .list .no (ri .u8 b)), (1, .v (.int .i64 i)), (8, .v (.int .i64 n)), (9, .v (.int .u8 low)), (10, .v (.int .u8 high)), (11, .v (.int .i32 x.1)), (12, .v (.int .i64 (n + 1 : Nat))), (37, .v (.bool false))], h)
 else z = (.ret, [(4, .v (.int .i32 x.1)), (5, .v (.int .i64 x.2.1)), (6, .v (.bool false))], h)
theorem loop68 {lo : Nat} {b : List Int} {h : Heap} {i n : Nat} (hn : n <= 3) (hb : b.length <= 140737488355328) (hib : i <= 140737488355328) (hy : By b) : ∀ (m k : Nat) (r low high : Int), k + m = n + 1 -> 0 <= r -> (r + 1) * 64 ^ m <= 64000000 ->
  ∃ z, loopW (evCode ⟨Tryz.prog, E, lo, h.length, h68⟩ loopW l68x0) ([(0, .list .no (ri .u8 b)), (1, .v (.int .i64 i)), (8, .v (.int .i64 n)), (9, .v (.int .u8 low)), (10, .v (.int .u8 high)), (11, .v (.int .i32 r)), (12, .v (.int .i64 k))], h) = some z
   /\ end68 b i n (more m r low high k (b.drop (i + k))) h z := by
 intro m
 induction m with
 | zero =>
  intro k r low high hm h0 h1
  obtain rfl : k = n + 1 := by omega
  have hd : decide (((n + 1 : Nat) : Int) <= n) = false := by simp; omega
  rw [loop_eq]
  simp only [go_sem, l68x0, b68, Tryz.f68, hd]
  exact ⟨_, rfl, low, high, rfl⟩
 | succ m ih =>
  intro k r low high hm h0 h1
  have hlt : k <= n := by omega
  rw [loop_eq]
  by_cases hl : i + k < b.length
  ·have hc : b[i + k]? = some b[i + k] := List.getElem?_eq_getElem hl
   have hcy := hy b[i + k] (List.getElem_mem hl)
   rw [List.drop_eq_getElem_cons hl]
   by_cases hx : b[i + k] < low \/ high < b[i + k]
   ·rw [stop68 hlt hn hb hib (.inr ⟨_, hc, hl, hx⟩), loop_r]
    exact ⟨_, rfl, by simp only [more, if_pos hx]; rfl⟩
   ·rw [Int.pow_succ] at h1
    have hp : (1 : Int) <= 64 ^ m := Int.pow_pos (by omega)
    have hr : (r + 1) * 64 * 64 ^ m = (r + 1) * (64 ^ m * 64) := by rw [Int.mul_assoc, Int.mul_comm 64]
    have h2 : (r + 1) * 64 * 1 <= (r + 1) * 64 * 64 ^ m := Int.mul_le_mul_of_nonneg_left hp (by omega)
    have h3 : (r * 64 + b[i + k] % 64 + 1) * 64 ^ m <= (r + 1) * 64 * 64 ^ m := Int.mul_le_mul_of_nonneg_right (by omega) (by omega)
    rw [round68 hc hlt hn hb hl hcy.1 hcy.2 h0 (by omega) hx, loop_n]
    have := ih (k + 1) (r * 64 + b[i + k] % 64) 128 191 (by omega) (by omega) (by omega)
    simpa only [more, if_neg hx, <- Nat.add_assoc] using this
  ·have hs : b.length <= i + k := by omega
   rw [stop68 hlt hn hb hib (.inl hs), loop_r, List.drop_eq_nil_of_le hs]
   exact ⟨_, rfl, rfl⟩
def three (x : Int × Nat × Bool) : V := .tup [.v (.int .i32 x.1), .v (.int .i64 x.2.1), .v (.bool x.2.2)]
theorem f68 {lo : Nat} {b : List Int} {i : Nat} {h : Heap} (hi : i < b.length) (hb : b.length <= 140737488355328) (hy : By b) :
  E lo 68 [.list .no (ri .u8 b), .v (.int .i64 i)] h = some (three (one (b.drop i)), h) := by
 have hx : b[i]? = some b[i] := List.getElem?_eq_getElem hi
 have hcy := hy b[i] (List.getElem_mem hi)
 rw [List.drop_eq_getElem_cons hi]
 generalize hc : b[i] = c at hx hcy
 simp only [one]
 by_cases h0 : c < 128
 ·rw [if_pos h0]
  have t0 : decide (c < 128) = true := by simp; omega
  have hm : IntKind.i32.wrap c = c := wrap_i32 (by omega) (by omega)
  rw [e68 (by simp) (by rfl)]
  simp only [go_sem, b68, Tryz.f68, hx, t0, hm]
  rfl
 rw [if_neg h0]
 have t0 : decide (c < 128) = false := by simp; omega
 by_cases hz : (nd c).1 = 0
 ·rw [if_pos hz]
  have t1 : (((nd c).1 : Int) == 0) = true := by simp; omega
  rw [e68 (by simp) (by rfl)]
  simp only [go_sem, b68, Tryz.f68, hx, t0, f91 hcy.1 hcy.2, t1]
  rfl
 rw [if_neg hz]
 have hn := nd_le c
 have t1 : (((nd c).1 : Int) == 0) = false := by simp; omega
 have hm : IntKind.i32.wrap (iand .i32 (IntKind.i32.wrap c) (ishr .i32 63 (IntKind.u64.wrap (nd c).1))) = c % 2 ^ (6 - (nd c).1) := by
  rw [wrap_i32 (n := c) (by omega) (by omega)]
  have : (nd c).1 = 1 \/ (nd c).1 = 2 \/ (nd c).1 = 3 := by omega
  rcases this with h | h | h <;> rw [h]
  ·show IntKind.i32.wrap (iand .i32 c 31) = c % 32
   rw [Utf.c31 hcy.1 hcy.2, wrap_i32 (by omega) (by omega)]
  ·show IntKind.i32.wrap (iand .i32 c 15) = c % 16
   rw [Utf.c15 hcy.1 hcy.2, wrap_i32 (by omega) (by omega)]
  ·show IntKind.i32.wrap (iand .i32 c 7) = c % 8
   rw [Utf.c7 hcy.1 hcy.2, wrap_i32 (by omega) (by omega)]
 have hr : 0 <= c % 2 ^ (6 - (nd c).1) /\ (c % 2 ^ (6 - (nd c).1) + 1) * 64 ^ (nd c).1 <= 64000000 := by
  have : (nd c).1 = 1 \/ (nd c).1 = 2 \/ (nd c).1 = 3 := by omega
  rcases this with h | h | h <;> rw [h]
  ·show 0 <= c % 32 /\ (c % 32 + 1) * 64 <= 64000000; omega
  ·show 0 <= c % 16 /\ (c % 16 + 1) * 4096 <= 64000000; omega
  ·show 0 <= c % 8 /\ (c % 8 + 1) * 262144 <= 64000000; omega
 have ht : b.drop (i + 1) = b.drop (i + 1) := rfl
 obtain ⟨z, hL, hz⟩ := loop68 (lo := lo) (b := b) (h := h) (i := i) hn hb (by omega) hy (nd c).1 1 (c % 2 ^ (6 - (nd c).1)) (nd c).2.1 (nd c).2.2 (by omega) hr.1 hr.2
 have n1 : ((1 : Nat) : Int) = 1 := rfl
 have hg : decide (0 <= IntKind.u64.wrap ((nd c).1 : Int)) = true := by
  have : (nd c).1 = 1 \/ (nd c).1 = 2 \/ (nd c).1 = 3 := by omega
  rcases this with h | h | h <;> rw [h] <;> rfl
 have hg' : 0 <= IntKind.u64.wrap ((nd c).1 : Int) := of_decide_eq_true hg
 have hw1 : IntKind.i64.wrap (((nd c).1 : Int) + 1) = (((nd c).1 + 1 : Nat) : Int) := wrap_succ (by omega)
 simp only [l68x0, b68, Tryz.f68, loopAt, loops, bodyOf, go_sem, n1] at hL
 rw [e68 (by simp) (by rfl)]
 unfold end68 at hz
 split at hz
 ·rename_i hk
  obtain ⟨low, high, rfl⟩ := hz
  simp only [go_sem, b68, Tryz.f68, hx, t0, t1, f91 hcy.1 hcy.2, hm, hL, hg, hg', hw1]
  rw [three, more_snd _ _ _ _ _ _ hk, hk, Nat.add_comm 1]
 ·rename_i hk
  subst hz
  simp only [go_sem, b68, Tryz.f68, hx, t0, t1, f91 hcy.1 hcy.2, hm, hL, hg, hg', hw1]
  simp only [three, Bool.not_eq_true] at hk ⊢
  rw [hk]
end Go.Lift.Z9
end

section
open Go.Proofs
namespace Go.Lift.Z9
variable [MX]
open Utf
theorem f108n {lo : Nat} {b : List Int} {h : Heap} (hn : b ≠ []) (hb : b.length <= 140737488355328) (hy : By b) : E lo 108 [.list .no (ri .u8 b)] h = some (two (one b), h) := by
 cases b with
 | nil => exact absurd rfl hn
 | cons c t => exact f108 hb hy
theorem round42 {lo i : Nat} {b out : List Int} {h : Heap} (hi : i < b.length) (hb : b.length <= 1000000000) (ho : out.length <= 1000000000) (hy : By b) :
  evCode ⟨Tryz.prog, E, lo, h.length, h42⟩ loopW l42x0 ([(0, .list .no (ri .u8 b)), (3, .list .yes (ri .i32 out)), (4, .v (.int .i64 i))], h) =
   some (.normal, [(0, .list .no (ri .u8 b)), (3, .list .yes (ri .i32 (out ++ [(one (b.drop i)).1]))), (4, .v (.int .i64 (i + (one (b.drop i)).2.1 : Nat)))], h) := by
 have hd : decide ((i : Int) < b.length) = true := by simpa using hi
 have hn : b.drop i ≠ [] := by simp; omega
 have hk := one_b hn
 have hw : IntKind.i64.wrap ((i : Int) + (one (b.drop i)).2.1) = ((i + (one (b.drop i)).2.1 : Nat) : Int) := by rw [wrap_i64 (by omega) (by omega)]; omega
 have hr : ∀ k, k <= 4 -> (out.length + k) * 4 <= 140737488355328 := by intro k hk; omega
 have hq : ∀ k, 9223372036854775800 <= k -> out.length <= k := by intro k hk; omega
 have e1 : ri .i32 (out ++ [(one (b.drop i)).1]) = ri .i32 out ++ [[V.v (.int .i32 (one (b.drop i)).1)]] := by rw [<- ri_app]; rfl
 simp only [go_sem, l42x0, b42, Tryz.f42, hd, f68 hi (by omega) hy, three, hr, hq, hw, e1]
theorem loop42 {lo : Nat} {b : List Int} {h : Heap} (hb : b.length <= 1000000000) (hy : By b) : ∀ (n i : Nat) (out : List Int), b.length - i <= n -> i <= b.length -> out.length <= i ->
  loopW (evCode ⟨Tryz.prog, E, lo, h.length, h42⟩ loopW l42x0) ([(0, .list .no (ri .u8 b)), (3, .list .yes (ri .i32 out)), (4, .v (.int .i64 i))], h) =
   some (.exit 0, [(0, .list .no (ri .u8 b)), (3, .list .yes (ri .i32 (out ++ raw (b.drop i)))), (4, .v (.int .i64 b.length)), (11, .v (.bool false))], h) := by
 have stop : ∀ (i : Nat) (out : List Int), i = b.length -> loopW (evCode ⟨Tryz.prog, E, lo, h.length, h42⟩ loopW l42x0) ([(0, .list .no (ri .u8 b)), (3, .list .yes (ri .i32 out)), (4, .v (.int .i64 i))], h) =
   some (.exit 0, [(0, .list .no (ri .u8 b)), (3, .list .yes (ri .i32 (out ++ raw (b.drop i)))), (4, .v (.int .i64 b.length)), (11, .v (.bool false))], h) := by
  intro i out hi
  subst hi
  have hd : decide ((b.length : Int) < b.length) = false := by simp
  rw [loop_eq]
  simp only [go_sem, l42x0, b42, Tryz.f42, hd, List.drop_length, raw_nil]
 intro n
 induction n with
 | zero => intro i out h1 h2 h3; exact stop i out (by omega)
 | succ n ih =>
  intro i out h1 h2 h3
  by_cases hi : i < b.length
  ·have hn : b.drop i ≠ [] := by simp; omega
   have hk := one_b hn
   rw [List.length_drop] at hk
   rw [loop_eq, round42 hi hb (by omega) hy, loop_n, ih _ _ (by omega) (by omega) (by rw [List.length_append, List.length_singleton]; omega), raw_b hn, List.append_assoc, List.drop_drop]
   rfl
  ·exact stop i out (by omega)
theorem f42 {lo : Nat} {b : List Int} {h : Heap} (hb : b.length <= 1000000000) (hy : By b) : E lo 42 [.list .no (ri .u8 b)] h = some (.list .no (ri .i32 (raw b)), h) := by
 rw [e42 (by simp) (by rfl)]
 have hL := loop42 (lo := lo) (h := h) hb hy b.length 0 [] (by omega) (by omega) (by simp)
 simp only [l42x0, b42, Tryz.f42, loopAt, loops, bodyOf, go_sem, ri_nil, List.drop_zero] at hL
 simp only [go_sem, b42, Tryz.f42, hL]
end Go.Lift.Z9
end

section
open Go.Proofs
namespace Go.Lift.Z9
variable [MX]
open Utf
theorem round93 {lo i : Nat} {b : List Int} {h : Heap} (hi : i < b.length) (hb : b.length <= 140737488355328) (hy : By b) :
  evCode ⟨Tryz.prog, E, lo, h.length, h93⟩ loopW l93x0 ([(0, .list .no (ri .u8 b)), (3, .v (.int .i64 i))], h) =
   if (one (b.drop i)).2.2 = true then some (.normal, [(0, .list .no (ri .u8 b)), (3, .v (.int .i64 (i + (one (b.drop i)).2.1 : Nat)))], h)
   else some (.ret, [(2, .v (.bool false))], h) := by
 have hd : decide ((i : Int) < b.length) = true := by simpa using hi
 have hn : b.drop i ≠ [] := by simp; omega
 have hk := one_b hn
 have hw : IntKind.i64.wrap ((i : Int) + (one (b.drop i)).2.1) = ((i + (one (b.drop i)).2.1 : Nat) : Int) := by rw [wrap_i64 (by omega) (by omega)]; omega
 cases hx : (one (b.drop i)).2.2 with
 | true => simp only [go_sem, l93x0, b93, Tryz.f93, hd, f68 hi hb hy, three, hw, hx]
 | false => simp only [go_sem, l93x0, b93, Tryz.f93, hd, f68 hi hb hy, three, hw, hx, Bool.false_eq_true]
theorem loop93 {lo : Nat} {b : List Int} {h : Heap} (hb : b.length <= 140737488355328) (hy : By b) : ∀ (n i : Nat), b.length - i <= n -> i <= b.length ->
  loopW (evCode ⟨Tryz.prog, E, lo, h.length, h93⟩ loopW l93x0) ([(0, .list .no (ri .u8 b)), (3, .v (.int .i64 i))], h) =
   if whole (b.drop i) = true then some (.exit 0, [(0, .list .no (ri .u8 b)), (3, .v (.int .i64 b.length)), (10, .v (.bool false))], h)
   else some (.ret, [(2, .v (.bool false))], h) := by
 have stop : ∀ (i : Nat), i = b.length -> loopW (evCode ⟨Tryz.prog, E, lo, h.length, h93⟩ loopW l93x0) ([(0, .list .no (ri .u8 b)), (3, .v (.int .i64 i))], h) =
   if whole (b.drop i) = true then some (.exit 0, [(0, .list .no (ri .u8 b)), (3, .v (.int .i64 b.length)), (10, .v (.bool false))], h)
   else some (.ret, [(2, .v (.bool false))], h) := by
  intro i hi
  subst hi
  have hd : decide ((b.length : Int) < b.length) = false := by simp
  rw [loop_eq]
  simp only [go_sem, l93x0, b93, Tryz.f93, hd, List.drop_length, whole_nil]
 intro n
 induction n with
 | zero => intro i h1 h2; exact stop i (by omega)
 | succ n ih =>
  intro i h1 h2
  by_cases hi : i < b.length
  ·have hn : b.drop i ≠ [] := by simp; omega
   have hk := one_b hn
   rw [List.length_drop] at hk
   rw [loop_eq, round93 hi hb hy, whole_b hn, List.drop_drop]
   cases hx : (one (b.drop i)).2.2 with
   | true => rw [if_pos rfl, loop_n, ih _ (by omega) (by omega), Bool.true_and]
   | false => rw [if_neg (by simp), loop_r]; rfl
  ·exact stop i (by omega)
theorem f93 {lo : Nat} {b : List Int} {h : Heap} (hb : b.length <= 140737488355328) (hy : By b) : E lo 93 [.list .no (ri .u8 b)] h = some (.v (.bool (whole b)), h) := by
 rw [e93 (by simp) (by rfl)]
 have hL := loop93 (lo := lo) (h := h) hb hy b.length 0 (by omega) (by omega)
 simp only [l93x0, b93, Tryz.f93, loopAt, loops, bodyOf, go_sem, ri_nil, List.drop_zero] at hL
 cases hx : whole b with
 | true =>
  rw [if_pos hx] at hL
  simp only [go_sem, b93, Tryz.f93, hL]
 | false =>
  rw [if_neg (by simp [hx])] at hL
  simp only [go_sem, b93, Tryz.f93, hL]
theorem round92 {lo : Nat} {b : List Int} {h : Heap} (hn : b ≠ []) (hb : b.length <= 140737488355328) (hy : By b) :
  evCode ⟨Tryz.prog, E, lo, h.length, h92⟩ loopW l92x0 ([(0, .list .no (ri .u8 b))], h) =
   if bad b = true then some (.ret, [(2, .v (.bool false))], h) else some (.normal, [(0, .list .no (ri .u8 (b.drop (one b).2.1)))], h) := by
 have hl : 0 < b.length := List.length_pos_iff.mpr hn
 have hd : decide ((0 : Int) < b.length) = true := by simpa using hl
 have hk := (one_b hn).2.2
 have hs : 0 <= ((one b).2.1 : Int) := by omega
 have fin : ∀ {v : Bool}, (bad b = v) -> (v = (bad b)) := fun h => h.symm
 cases h1 : (one b).1 == 65533 with
 | false =>
  have hv : bad b = false := by simp [bad, h1]
  simp only [go_sem, l92x0, b92, Tryz.f92, hd, f108n hn hb hy, two, hs, hk, Nat.le_refl, ri_drop, ri_take, Int.toNat_natCast, and_self, h1, hv, Bool.false_eq_true]
 | true =>
  by_cases h3 : (one b).2.1 < 3
  ·have hv : bad b = true := by simp [bad, h1, h3]
   have h4 : decide (((one b).2.1 : Int) < 3) = true := by simp; omega
   simp only [go_sem, l92x0, b92, Tryz.f92, hd, f108n hn hb hy, two, hs, hk, Nat.le_refl, ri_drop, ri_take, Int.toNat_natCast, and_self, h1, hv, h4]
  ·have h4 : decide (((one b).2.1 : Int) < 3) = false := by simp; omega
   obtain ⟨a1, a2, a3, t, he⟩ : ∃ a1 a2 a3 t, b = a1 :: a2 :: a3 :: t := by
    match b, hk with
    | [], hk => simp at hk; omega
    | [_], hk => simp at hk; omega
    | [_, _], hk => simp at hk; omega
    | a1 :: a2 :: a3 :: t, _ => exact ⟨_, _, _, _, rfl⟩
   have x1 : b[0]? = some a1 := by rw [he]; rfl
   have x2 : b[1]? = some a2 := by rw [he]; rfl
   have x3 : b[2]? = some a3 := by rw [he]; rfl
   have hv : bad b = (a1 != 239 || (a2 != 191 || a3 != 189)) := by
    have ht : isRep b = (a1 == 239 && (a2 == 191 && a3 == 189)) := by rw [he]; simp [isRep]
    simp only [bad, h1, h3, ht, decide_false, Bool.true_and, Bool.false_or, bne, Bool.not_and]
   clear he
   rw [hv]
   cases g1 : a1 != 239 with
   | true => simp only [go_sem, l92x0, b92, Tryz.f92, hd, f108n hn hb hy, two, hs, hk, Nat.le_refl, ri_drop, ri_take, Int.toNat_natCast, and_self, h1, h4, x1, x2, x3, g1]
   | false =>
    cases g2 : a2 != 191 with
    | true => simp only [go_sem, l92x0, b92, Tryz.f92, hd, f108n hn hb hy, two, hs, hk, Nat.le_refl, ri_drop, ri_take, Int.toNat_natCast, and_self, h1, h4, x1, x2, x3, g1, g2]
    | false =>
     cases g3 : a3 != 189 with
     | true => simp only [go_sem, l92x0, b92, Tryz.f92, hd, f108n hn hb hy, two, hs, hk, Nat.le_refl, ri_drop, ri_take, Int.toNat_natCast, and_self, h1, h4, x1, x2, x3, g1, g2, g3]
     | false => simp only [go_sem, l92x0, b92, Tryz.f92, hd, f108n hn hb hy, two, hs, hk, Nat.le_refl, ri_drop, ri_take, Int.toNat_natCast, and_self, h1, h4, x1, x2, x3, g1, g2, g3, Bool.false_eq_true]
theorem loop92 {lo : Nat} {h : Heap} : ∀ (n : Nat) (b : List Int), b.length <= n -> b.length <= 140737488355328 -> By b ->
  loopW (evCode ⟨Tryz.prog, E, lo, h.length, h92⟩ loopW l92x0) ([(0, .list .no (ri .u8 b))], h) =
   if whole b = true then some (.exit 0, [(0, .list .no []), (7, .v (.bool false))], h) else some (.ret, [(2, .v (.bool false))], h) := by
 have stop : loopW (evCode ⟨Tryz.prog, E, lo, h.length, h92⟩ loopW l92x0) ([(0, .list .no (ri .u8 []))], h) =
   if whole [] = true then some (.exit 0, [(0, .list .no []), (7, .v (.bool false))], h) else some (.ret, [(2, .v (.bool false))], h) := by
  rw [loop_eq]
  simp only [go_sem, l92x0, b92, Tryz.f92, whole_nil, ri_nil, List.length_nil]
  all_goals rfl
 intro n
 induction n with
 | zero =>
  intro b h1 h2 hy
  obtain rfl : b = [] := List.eq_nil_of_length_eq_zero (by omega)
  exact stop
 | succ n ih =>
  intro b h1 h2 hy
  by_cases hn : b = []
  ·subst hn; exact stop
  ·have hk := one_b hn
   have hlen : (b.drop (one b).2.1).length = b.length - (one b).2.1 := List.length_drop
   rw [loop_eq, round92 hn h2 hy, bad_eq hy hn, whole_b hn]
   cases hx : (one b).2.2 with
   | true => rw [if_neg (by simp), loop_n, ih _ (by omega) (by omega) (hy.drop _), Bool.true_and]
   | false => rw [if_pos (by simp), loop_r]; rfl
theorem f92 {lo : Nat} {b : List Int} {h : Heap} (hb : b.length <= 140737488355328) (hy : By b) : E lo 92 [.list .no (ri .u8 b)] h = some (.v (.bool (whole b)), h) := by
 rw [e92 (by simp) (by rfl)]
 have hL := loop92 (lo := lo) (h := h) b.length b (Nat.le_refl _) hb hy
 simp only [l92x0, b92, Tryz.f92, loopAt, loops, bodyOf, go_sem, ri_nil, List.drop_zero] at hL
 cases hx : whole b with
 | true =>
  rw [if_pos hx] at hL
  simp only [go_sem, b92, Tryz.f92, hL]
 | false =>
  rw [if_neg (by simp [hx])] at hL
  simp only [go_sem, b92, Tryz.f92, hL]
end Go.Lift.Z9
end

section
namespace Go.Lift.Spell
open Utf Tok
def sureR (n d : Int) : Bool := decide (1 <= d) && n != -9223372036854775808 && Nat.gcd n.natAbs d.toNat == 1
def mayR (n d : Int) : Bool := (n == 0 && d == 0) || sureR n d
end Go.Lift.Spell
end

section
namespace Go.Lift.Spell
open Utf Tok
def sound (b : List Int) : Bool := whole b && !b.contains 0
theorem enc_low {x : Int} (h : x < 128) : enc x = [x] := by unfold enc; rw [if_pos h]
theorem enc_high {x : Int} (h0 : 128 <= x) (h1 : x <= 1114111) : ∃ c t, enc x = c :: t /\ t ≠ [] /\ ∀ y ∈ enc x, 128 <= y := by
 unfold enc
 rw [if_neg (by omega)]
 split
 ·exact ⟨_, _, rfl, by simp, by intro y hy; simp at hy; omega⟩
 ·split
  ·exact ⟨_, _, rfl, by simp, by intro y hy; simp at hy; omega⟩
  ·exact ⟨_, _, rfl, by simp, by intro y hy; simp at hy; omega⟩
theorem zero_encs : ∀ l : List Int, (∀ x ∈ l, scal x = x) -> (encs l).contains 0 = l.contains 0
 | [], _ => rfl
 | x :: l, h => by
  have ih := zero_encs l fun y hy => h y (by simp [hy])
  have hs := h x (by simp)
  have hb := scal_in x
  rw [hs] at hb
  rw [encs_cons, hs, Bool.eq_iff_iff]
  rw [Bool.eq_iff_iff] at ih
  simp only [List.contains_iff_mem, List.mem_append, List.mem_cons] at ih ⊢
  rw [ih]
  by_cases h1 : x < 128
  ·rw [enc_low h1]; simp
  ·obtain ⟨c, t, e, _, hh⟩ := enc_high (by omega) hb.2
   constructor
   ·rintro (h0 | h0)
    ·have := hh 0 h0; omega
    ·exact .inr h0
   ·rintro (h0 | h0)
    ·omega
    ·exact .inr h0
theorem zero_raw {b : List Int} (hy : By b) (hw : whole b = true) : (raw b).contains 0 = b.contains 0 := by
 have h := zero_encs (raw b) (raw_scal b hy)
 rw [encs_raw b hy hw] at h
 exact h.symm
theorem sound_ref {b : List Int} (hy : By b) : (if (raw b).contains 0 = true then false else whole b) = sound b := by
 unfold sound
 cases hw : whole b with
 | false => simp
 | true => rw [zero_raw hy hw]; cases b.contains 0 <;> rfl
end Go.Lift.Spell
end

section
open Go.Proofs
namespace Go.Lift.Z9
variable [MX]
open Utf Tok Spell
def bs (l : List Int) : ByteArray := ⟨(u8s l).toArray⟩
theorem bs_list (l : List Int) : (bs l).toList = u8s l := by simp [bs, ByteArray.toList_eq]
theorem bs_nil : bs [] = ByteArray.empty := rfl
theorem bs_nil_eq (l : List Int) : ((bs l).toList == (ByteArray.empty).toList) = decide (l = []) := by
 rw [<- bs_nil, bs_list, bs_list]
 cases l with
 | nil => rfl
 | cons c t => simp [u8s]
theorem By.take {l : List Int} (h : By l) (n : Nat) : By (l.take n) := fun c hc => h c (List.mem_of_mem_take hc)
theorem By.drop {l : List Int} (h : By l) (n : Nat) : By (l.drop n) := fun c hc => h c (List.mem_of_mem_drop hc)
theorem bytes_bs {l : List Int} (hy : By l) : byteRows (bs l) = ri .u8 l := by
 unfold byteRows bs u8s ri
 simp only [List.map_map]
 apply List.map_congr_left
 intro c hc
 have := hy c hc
 simp only [Function.comp]
 congr 4
 show ((UInt8.ofNat c.toNat).toNat : Int) = c
 simp only [UInt8.toNat_ofNat']
 omega
theorem bs_idx {l : List Int} (hy : By l) {c : Int} (h0 : 0 <= c) (h1 : c <= 255) : decide (0 <= Go.Lib.indexByte (bs l).data.toList c.toNat.toUInt8) = l.contains c := by
 unfold bs
 simp only
 induction l with
 | nil => rfl
 | cons x t ih =>
  have hx := hy x (by simp)
  have ih := ih fun y hy2 => hy y (by simp [hy2])
  have hge := Go.Lib.indexByte_ge (u8s t) c.toNat.toUInt8
  simp only [u8s, List.map_cons, Go.Lib.indexByte, List.contains_cons] at ih hge ⊢
  have e : (UInt8.ofNat x.toNat == c.toNat.toUInt8) = (c == x) := by
   rw [Bool.eq_iff_iff, beq_iff_eq, beq_iff_eq]
   constructor
   ·intro h
    have h2 := congrArg UInt8.toNat h
    simp only [UInt8.toNat_ofNat', Nat.toUInt8_eq] at h2
    omega
   ·rintro rfl
    rfl
  rw [e]
  cases c == x with
  | true => rw [if_pos rfl]; simp
  | false =>
   rw [if_neg (by simp), Bool.false_or, <- ih]
   by_cases h : Go.Lib.indexByte (List.map (fun n => UInt8.ofNat n.toNat) t) c.toNat.toUInt8 = -1
   ·rw [if_pos (by simpa using h)]
    refine decide_eq_decide.2 ⟨fun h9 => by omega, fun h9 => ?_⟩
    have h8 : 0 <= Go.Lib.indexByte (List.map (fun n => UInt8.ofNat n.toNat) t) c.toNat.toUInt8 := h9
    omega
   ·rw [if_neg (by simpa using h)]
    refine decide_eq_decide.2 ⟨fun h9 => ?_, fun h9 => ?_⟩
    ·show 0 <= Go.Lib.indexByte (List.map (fun n => UInt8.ofNat n.toNat) t) c.toNat.toUInt8
     omega
    ·have h8 : 0 <= Go.Lib.indexByte (List.map (fun n => UInt8.ofNat n.toNat) t) c.toNat.toUInt8 := h9
     omega
theorem bs_nil_eq' (l : List Int) : ((bs l).toList == (⟨#[]⟩ : ByteArray).toList) = decide (l = []) := bs_nil_eq l
end Go.Lift.Z9
end

section
open Go.Proofs
namespace Go.Lift.Z9
variable [MX]
open Utf Tok Spell
section
variable {lo : Nat} {h : Heap}
theorem u8s_one {c : Int} : (bs [c]).data.toList = [c.toNat.toUInt8] := rfl
theorem f112 {l : List Int} (hy : By l) {c : Int} (h0 : 0 <= c) (h1 : c <= 255) :
  E lo 112 [.v (.string (bs l)), .v (.string (bs [c]))] h = some (.v (.int .i64 (Go.Lib.indexByte (bs l).data.toList c.toNat.toUInt8)), h) := by
 show ev Tryz.prog hints primz lo 112 _ h = _
 rw [ev_prim (p := ixP) rfl]
 unfold ixP
 simp only [u8s_one]
theorem f97 {l : List Int} (hy : By l) {c : Int} (h0 : 0 <= c) (h1 : c <= 255) :
  E lo 97 [.v (.string (bs l)), .v (.string (bs [c]))] h = some (.v (.int .i64 (Go.Lib.indexByte (bs l).data.toList c.toNat.toUInt8)), h) := by
 rw [e97 (by simp) (by rfl)]
 simp only [go_sem, b97, Tryz.f97, f112 hy h0 h1]
 all_goals rfl
theorem f77 {l : List Int} (hy : By l) {c : Int} (h0 : 0 <= c) (h1 : c <= 255) :
  E lo 77 [.v (.string (bs l)), .v (.string (bs [c]))] h = some (.v (.bool (l.contains c)), h) := by
 rw [e77 (by simp) (by rfl)]
 have t := bs_idx hy h0 h1
 simp only [go_sem, b77, Tryz.f77, f97 hy h0 h1, t]
 all_goals rfl
end
end Go.Lift.Z9
end

section
namespace Go.Lift.Sel
mutual
inductive Sm where
 | mk (k : Int) (name : List Int) (op : Int) (val : List Int) (fold : Bool) (list : List Cx) (a b : Int)
inductive Cp where
 | mk (comb : Int) (sms : List Sm)
inductive Cx where
 | mk (parts : List Cp)
end
def Sm.k : Sm -> Int
 | .mk k _ _ _ _ _ _ _ => k
def isStep (n : Int) : Bool := decide (-1073741824 <= n) && decide (n <= 1073741824)
variable (txt : List Int -> Bool)
def isName (b : List Int) : Bool := !b.isEmpty && txt b
mutual
def simpleP (d : Nat) : Sm -> Bool
 | .mk k n o v f l a b =>
  if k = 2 \/ k = 3 \/ k = 4 then isName txt n && (l.isEmpty && (o == 0 && (v.isEmpty && (!f && (a == 0 && b == 0)))))
  else if k = 5 then (decide (d < 65) && isName txt n && decide (0 <= o) && decide (o <= 6) && txt v && (o != 0 || v.isEmpty && !f)) && (l.isEmpty && (a == 0 && b == 0))
  else if k = 6 \/ k = 7 \/ k = 8 then (!l.isEmpty && decide (d + 1 <= 65) && cxsP (d + 1) l) && (n.isEmpty && (o == 0 && (v.isEmpty && (!f && (a == 0 && b == 0)))))
  else if k = 14 \/ k = 15 then (decide (d < 65) && isStep a && isStep b) && (l.isEmpty && (n.isEmpty && (o == 0 && (v.isEmpty && !f))))
  else if k = 1 \/ 9 <= k /\ k <= 13 then l.isEmpty && (n.isEmpty && (o == 0 && (v.isEmpty && (!f && (a == 0 && b == 0)))))
  else false
def smsP (d : Nat) (first : Bool) : List Sm -> Bool
 | [] => true
 | s :: r => (first || decide (2 < s.k)) && simpleP d s && smsP d false r
def cpsP (d : Nat) (first : Bool) : List Cp -> Bool
 | [] => true
 | .mk c ss :: r => ((first == (c == 0)) && decide (0 <= c) && decide (c <= 4) && !ss.isEmpty) && smsP d true ss && cpsP d false r
def cxsP (d : Nat) : List Cx -> Bool
 | [] => true
 | .mk ps :: r => !ps.isEmpty && cpsP d true ps && cxsP d r
end
def mayP (d : Nat) (l : List Cx) : Bool := !l.isEmpty && decide (d <= 65) && cxsP txt d l
end Go.Lift.Sel
end

section
namespace Go.Lift.Sel
variable (txt : List Int -> Bool)
mutual
def fitsR (left : Nat) : Sm -> Bool
 | .mk k n o v f l a b =>
  !((left == 1) && ((k == 14 || k == 15) || k == 5)) &&
  (!(decide (k < 1) || decide (15 < k) || (decide (2 <= k) && decide (k <= 5)) && (n.isEmpty || !txt n) || !(decide (2 <= k) && decide (k <= 5)) && !n.isEmpty || !(decide (6 <= k) && decide (k <= 8)) && !l.isEmpty ||
   (decide (6 <= k) && decide (k <= 8)) && !(!l.isEmpty && !(left - 1 == 0) && cxsR (left - 1) l)) &&
  ((if k == 5 then !(decide (o < 0) || decide (6 < o) || !txt v || o == 0 && (!v.isEmpty || f)) else !(o != 0 || !v.isEmpty || f)) &&
  (if !(k == 14 || k == 15) then a == 0 && b == 0 else isStep a && isStep b)))
def smsR (left : Nat) (first : Bool) : List Sm -> Bool
 | [] => true
 | s :: r => !(!first && (s.k == 1 || s.k == 2) || !fitsR left s) && smsR left false r
def cpsR (left : Nat) (first : Bool) : List Cp -> Bool
 | [] => true
 | .mk c ss :: r => !(ss.isEmpty || first && c != 0 || !first && (decide (c < 1) || decide (4 < c))) && smsR left true ss && cpsR left false r
def cxsR (left : Nat) : List Cx -> Bool
 | [] => true
 | .mk ps :: r => !ps.isEmpty && cpsR left true ps && cxsR left r
end
def mayR (left : Nat) (l : List Cx) : Bool := !l.isEmpty && !(left == 0) && cxsR txt left l
theorem simple_low {d : Nat} {s : Sm} (h : s.k <= 0) : simpleP txt d s = false := by
 obtain ⟨k, n, o, v, f, l, a, b⟩ := s
 have h : k <= 0 := h
 rw [simpleP, if_neg (by omega), if_neg (by omega), if_neg (by omega), if_neg (by omega), if_neg (by omega)]
theorem simple_high {d : Nat} {s : Sm} (h : 15 < s.k) : simpleP txt d s = false := by
 obtain ⟨k, n, o, v, f, l, a, b⟩ := s
 have h : 15 < k := h
 rw [simpleP, if_neg (by omega), if_neg (by omega), if_neg (by omega), if_neg (by omega), if_neg (by omega)]
mutual
theorem fits_eq : ∀ (s : Sm) (d : Nat), 1 <= d -> d <= 65 -> fitsR txt (66 - d) s = simpleP txt d s
 | .mk k n o v f l a b, d, h1, h2 => by
  by_cases k1 : k < 1
  ·rw [simple_low txt (s := .mk k n o v f l a b) (show k <= 0 by omega), fitsR]
   simp [k1]
  by_cases k16 : 15 < k
  ·rw [simple_high txt (s := .mk k n o v f l a b) (show 15 < k from k16), fitsR]
   simp [k16]
  have ih : d + 1 <= 65 -> cxsR txt (66 - d - 1) l = cxsP txt (d + 1) l := fun h => by
   have := cxs_eq l (d + 1) (by omega) h
   rw [show 66 - d - 1 = 66 - (d + 1) by omega]
   exact this
  have hl : (66 - d == 1) = decide (d = 65) := by rw [Bool.eq_iff_iff]; simp; omega
  have hz : (66 - d - 1 == 0) = decide (d = 65) := by rw [Bool.eq_iff_iff]; simp; omega
  have hd : decide (d < 65) = !decide (d = 65) := by rw [Bool.eq_iff_iff]; simp; omega
  have hd1 : decide (d + 1 <= 65) = !decide (d = 65) := by rw [Bool.eq_iff_iff]; simp; omega
  have hi : decide (d = 65) = false -> cxsR txt (66 - d - 1) l = cxsP txt (d + 1) l := fun h => ih (by simp at h; omega)
  rw [fitsR, simpleP, hl, hz, hd, hd1]
  generalize decide (d = 65) = D at *
  generalize cxsR txt (66 - d - 1) l = X at *
  generalize cxsP txt (d + 1) l = Y at *
  have o1 : (o != 0) = !(o == 0) := rfl
  have o2 : decide (o < 0) = !decide (0 <= o) := by rw [Bool.eq_iff_iff]; simp
  have o3 : decide (6 < o) = !decide (o <= 6) := by rw [Bool.eq_iff_iff]; simp
  unfold isName
  rw [o1, o2, o3]
  generalize decide (0 <= o) = P at *
  generalize decide (o <= 6) = Q at *
  generalize (o == 0) = O at *
  generalize n.isEmpty = N at *
  generalize txt n = T at *
  generalize v.isEmpty = W at *
  generalize txt v = U at *
  generalize l.isEmpty = L at *
  generalize (a == 0) = A at *
  generalize (b == 0) = B at *
  generalize isStep a = A2 at *
  generalize isStep b = B2 at *
  clear ih hl hz hd hd1 o1 o2 o3
  have hk : k = 1 \/ k = 2 \/ k = 3 \/ k = 4 \/ k = 5 \/ k = 6 \/ k = 7 \/ k = 8 \/ k = 9 \/ k = 10 \/ k = 11 \/ k = 12 \/ k = 13 \/ k = 14 \/ k = 15 := by omega
  clear k1 k16
  rcases hk with rfl | rfl | rfl | rfl | rfl | rfl | rfl | rfl | rfl | rfl | rfl | rfl | rfl | rfl | rfl
  all_goals
   simp only [Int.reduceEq, Int.reduceLT, Int.reduceLE, Int.reduceBEq, decide_true, decide_false, or_false, false_or, or_true, true_or, if_true, if_false, and_true, true_and, and_false, false_and, Bool.false_eq_true, reduceIte, Bool.and_true, Bool.true_and, Bool.false_and, Bool.and_false, Bool.or_false, Bool.false_or, Bool.not_true, Bool.not_false, and_self, or_self]
  all_goals
   cases D with
   | true =>
    clear hi
    cases O <;> cases W <;> cases f <;> (try simp) <;> cases N <;> cases T <;> cases L <;> (try simp) <;> cases P <;> cases Q <;> cases U <;> (try simp)
   | false =>
    obtain rfl := hi rfl
    cases O <;> cases W <;> cases f <;> (try simp) <;> cases N <;> cases T <;> cases L <;> (try simp) <;> cases P <;> cases Q <;> cases U <;> (try simp)
theorem cxs_eq : ∀ (l : List Cx) (d : Nat), 1 <= d -> d <= 65 -> cxsR txt (66 - d) l = cxsP txt d l
 | [], d, _, _ => by rw [cxsR, cxsP]
 | .mk ps :: r, d, h1, h2 => by rw [cxsR, cxsP, cps_eq ps d true h1 h2, cxs_eq r d h1 h2]
theorem cps_eq : ∀ (l : List Cp) (d : Nat) (first : Bool), 1 <= d -> d <= 65 -> cpsR txt (66 - d) first l = cpsP txt d first l
 | [], d, _, _, _ => by rw [cpsR, cpsP]
 | .mk c ss :: r, d, first, h1, h2 => by
  rw [cpsR, cpsP, sms_eq ss d true h1 h2, cps_eq r d false h1 h2]
  congr 2
  rw [Bool.eq_iff_iff]
  cases first <;> cases ss.isEmpty <;> simp <;> omega
theorem sms_eq : ∀ (l : List Sm) (d : Nat) (first : Bool), 1 <= d -> d <= 65 -> smsR txt (66 - d) first l = smsP txt d first l
 | [], d, _, _, _ => by rw [smsR, smsP]
 | s :: r, d, first, h1, h2 => by
  rw [smsR, smsP, fits_eq s d h1 h2, sms_eq r d false h1 h2]
  congr 1
  by_cases h0 : s.k <= 0
  ·rw [simple_low txt h0]; simp
  ·cases first
   ·cases simpleP txt d s
    ·simp
    ·rw [Bool.eq_iff_iff]; simp; omega
   ·simp
end
theorem may_eq (l : List Cx) (d : Nat) (h1 : 1 <= d) (h2 : d <= 65) : mayR txt (66 - d) l = mayP txt d l := by
 have e1 : (66 - d == 0) = false := by rw [beq_eq_false_iff_ne]; omega
 have e2 : decide (d <= 65) = true := by simpa using h2
 rw [mayR, mayP, cxs_eq txt l d h1 h2, e1, e2]
 simp
theorem may_same (l : List Cx) : mayR txt 65 l = mayP txt 1 l := may_eq txt l 1 (by omega) (by omega)
end Go.Lift.Sel
end

section
namespace Go.Lift.Sel
mutual
def smV : Sm -> List V
 | .mk k n o v f l a b => [.v (.int .i64 k), .v (.string (Rul.bs n)), .v (.int .i64 o), .v (.string (Rul.bs v)), .v (.bool f), .list .no (cxsC l), .v (.int .i64 a), .v (.int .i64 b)]
def cpV : Cp -> List V
 | .mk c ss => [.v (.int .i64 c), .list .no (smsC ss)]
def cxV : Cx -> List V
 | .mk ps => [.list .no (cpsC ps)]
def smsC : List Sm -> List (List V)
 | [] => []
 | s :: r => smV s :: smsC r
def cpsC : List Cp -> List (List V)
 | [] => []
 | p :: r => cpV p :: cpsC r
def cxsC : List Cx -> List (List V)
 | [] => []
 | c :: r => cxV c :: cxsC r
end
theorem smsC_map : ∀ l : List Sm, smsC l = l.map smV
 | [] => by rw [smsC]; rfl
 | s :: r => by rw [smsC, smsC_map r]; rfl
theorem cpsC_map : ∀ l : List Cp, cpsC l = l.map cpV
 | [] => by rw [cpsC]; rfl
 | s :: r => by rw [cpsC, cpsC_map r]; rfl
theorem cxsC_map : ∀ l : List Cx, cxsC l = l.map cxV
 | [] => by rw [cxsC]; rfl
 | s :: r => by rw [cxsC, cxsC_map r]; rfl
theorem smsC_len (l : List Sm) : (smsC l).length = l.length := by rw [smsC_map, List.length_map]
theorem cpsC_len (l : List Cp) : (cpsC l).length = l.length := by rw [cpsC_map, List.length_map]
theorem cxsC_len (l : List Cx) : (cxsC l).length = l.length := by rw [cxsC_map, List.length_map]
end Go.Lift.Sel
end

section
open Go.Proofs
namespace Go.Lift.Z9
variable [MX]
variable {lo : Nat} {h : Heap}
theorem f71 {n : Int} : E lo 71 [.v (.int .i64 n)] h = some (.v (.bool (Sel.isStep n)), h) := by
 rw [e71 (by simp) (by rfl)]
 unfold Sel.isStep
 cases h1 : decide (-1073741824 <= n) with
 | true =>
  simp only [go_sem, b71, Tryz.f71, h1]
  all_goals rfl
 | false =>
  simp only [go_sem, b71, Tryz.f71, h1]
  all_goals rfl
open Utf Spell
theorem bs_zero : (⟨#[0]⟩ : ByteArray) = bs [0] := rfl
theorem f70 {b : List Int} (hy : By b) (hl : b.length <= 1000000000) (hlo : lo <= h.length) : E lo 70 [.v (.string (bs b))] h = some (.v (.bool (sound b)), h) := by
 have c46 := f92 (lo := lo) (h := h) (b := b) (by omega) hy
 have c46b := f92 (lo := h.length) (h := h) (b := b) (by omega) hy
 have c47 := fun lo => f77 (lo := lo) (h := h) (l := b) hy (c := 0) (by omega) (by omega)
 have c47a := c47 lo; have c47b := c47 h.length
 have hb := bytes_bs hy
 rw [e70 (by simp) (by rfl)]
 unfold sound
 cases hw : whole b with
 | true =>
  rw [hw] at c46 c46b
  simp only [go_sem, b70, Tryz.f70, hlo, hb, c46, c46b, bs_zero, c47a, c47b]
  all_goals rfl
 | false =>
  rw [hw] at c46 c46b
  simp only [go_sem, b70, Tryz.f70, hlo, hb, c46, c46b, bs_zero, c47a, c47b]
  all_goals rfl
theorem f69 {b : List Int} (hy : By b) (hl : b.length <= 1000000000) (hlo : lo <= h.length) : E lo 69 [.v (.string (bs b))] h = some (.v (.bool (Sel.isName sound b)), h) := by
 have c33 := f70 (lo := lo) (h := h) hy hl hlo
 have c33b := f70 (lo := h.length) (h := h) hy hl (Nat.le_refl _)
 have qe := bs_nil_eq' b
 rw [e69 (by simp) (by rfl)]
 unfold Sel.isName
 cases b with
 | nil =>
  have q : ((bs []).toList == (⟨#[]⟩ : ByteArray).toList) = true := qe.trans (by simp)
  simp only [go_sem, b69, Tryz.f69, hlo, q, c33, c33b]
  all_goals rfl
 | cons x r =>
  have q : ((bs (x :: r)).toList == (⟨#[]⟩ : ByteArray).toList) = false := qe.trans (by simp)
  simp only [go_sem, b69, Tryz.f69, hlo, q, c33, c33b]
  all_goals rfl
end Go.Lift.Z9
end

section
namespace Go.Lift.Sel
structure Wt where
 a : Int
 b : Int
 c : Int
 deriving DecidableEq
def wz : Wt := ⟨0, 0, 0⟩
def addW (x y : Wt) : Wt := ⟨IntKind.i64.wrap (x.a + y.a), IntKind.i64.wrap (x.b + y.b), IntKind.i64.wrap (x.c + y.c)⟩
def lessW (x y : Wt) : Bool := if x.a != y.a then decide (x.a < y.a) else if x.b != y.b then decide (x.b < y.b) else if x.c != y.c then decide (x.c < y.c) else false
def mostF (out : Wt) : List Wt -> Wt
 | [] => out
 | w :: r => mostF (if lessW out w = true then w else out) r
def mostW : List Wt -> Wt
 | [] => wz
 | w :: r => mostF w r
mutual
def wSm : Sm -> Wt
 | .mk k n o v f l a b => if k = 1 \/ k = 8 then wz else if k = 4 then ⟨1, 0, 0⟩ else if k = 2 then ⟨0, 0, 1⟩ else if k = 6 \/ k = 7 then mostW (wCxs l) else ⟨0, 1, 0⟩
def wSms (acc : Wt) : List Sm -> Wt
 | [] => acc
 | s :: r => wSms (addW acc (wSm s)) r
def wCps (acc : Wt) : List Cp -> Wt
 | [] => acc
 | .mk c ss :: r => wCps (wSms acc ss) r
def wCxs : List Cx -> List Wt
 | [] => []
 | .mk ps :: r => wCps wz ps :: wCxs r
end
theorem wrap_i64' (n : Int) : IntKind.i64.wrap n = (n + 9223372036854775808) % 18446744073709551616 - 9223372036854775808 := by
 simp [IntKind.wrap, IntKind.signed, IntKind.bits]
 omega
end Go.Lift.Sel
end

section
open Go.Proofs
namespace Go.Lift.Z9
variable [MX]
variable {lo : Nat} {h : Heap}
open Utf Spell Sel
def wV (w : Wt) : List V := [.v (.int .i64 w.a), .v (.int .i64 w.b), .v (.int .i64 w.c)]
theorem wV_eq (w : Wt) : wV w = [.v (.int .i64 w.a), .v (.int .i64 w.b), .v (.int .i64 w.c)] := rfl
theorem fl29 : flatOf Tryz.prog 26 = some [1, 1, 1] := by kernel_rfl
theorem eq_w {a b c a' b' c' : Int} : eqCells [1, 1, 1] [.v (.int .i64 a), .v (.int .i64 b), .v (.int .i64 c)] [.v (.int .i64 a'), .v (.int .i64 b'), .v (.int .i64 c')] = some (a == a' && (b == b' && c == c')) := by
 simp [eqCells, eqS]
theorem ix0 : ((0 : Int) < ((3 : Nat) : Int)) = True := by simp
theorem ix1 : ((1 : Int) < ((3 : Nat) : Int)) = True := by simp
theorem ix2 : ((2 : Int) < ((3 : Nat) : Int)) = True := by simp
theorem wr1 : IntKind.i64.wrap (0 + 1) = 1 := rfl
theorem wr2 : IntKind.i64.wrap (1 + 1) = 2 := rfl
theorem wr3 : IntKind.i64.wrap (2 + 1) = 3 := rfl
theorem lt0 : decide ((0 : Int) < 3) = true := rfl
theorem lt1 : decide ((1 : Int) < 3) = true := rfl
theorem lt2 : decide ((2 : Int) < 3) = true := rfl
theorem lt3 : decide ((3 : Int) < 3) = false := rfl
theorem f10 {x y : Wt} (hlo : lo <= h.length) : E lo 10 [.agg (wV x), .agg (wV y)] h = some (.v (.bool (lessW x y)), h) := by
 obtain ⟨a, b, c⟩ := x
 obtain ⟨a', b', c'⟩ := y
 have l1 : lo <= h.length + 1 := by omega
 have l2 : lo <= h.length + 2 := by omega
 rw [e10 (by simp) (by rfl), wV_eq, wV_eq]
 unfold lessW
 have na : (a != a') = !(a == a') := rfl
 have nb : (b != b') = !(b == b') := rfl
 have nc : (c != c') = !(c == c') := rfl
 cases h1 : a == a' with
 | false =>
  rw [h1] at na
  simp only [go_sem, b10, Tryz.f10, hlo, l1, l2, h1, na, loop_eq, fl29, eq_w, ix0, ix1, ix2, wr1, wr2, wr3, lt0, lt1, lt2, lt3, Bool.not_false, Bool.not_true, Bool.false_and, Bool.true_and, Bool.and_false]
  all_goals rfl
 | true =>
 rw [h1] at na
 cases h2 : b == b' with
 | false =>
  rw [h2] at nb
  simp only [go_sem, b10, Tryz.f10, hlo, l1, l2, h1, na, h2, nb, loop_eq, fl29, eq_w, ix0, ix1, ix2, wr1, wr2, wr3, lt0, lt1, lt2, lt3, Bool.not_false, Bool.not_true, Bool.false_and, Bool.true_and, Bool.and_false]
  all_goals rfl
 | true =>
 rw [h2] at nb
 cases h3 : c == c' with
 | false =>
  rw [h3] at nc
  simp only [go_sem, b10, Tryz.f10, hlo, l1, l2, h1, na, h2, nb, h3, nc, loop_eq, fl29, eq_w, ix0, ix1, ix2, wr1, wr2, wr3, lt0, lt1, lt2, lt3, Bool.not_false, Bool.not_true, Bool.false_and, Bool.true_and, Bool.and_false]
  all_goals rfl
 | true =>
  rw [h3] at nc
  simp only [go_sem, b10, Tryz.f10, hlo, l1, l2, h1, na, h2, nb, h3, nc, loop_eq, fl29, eq_w, ix0, ix1, ix2, wr1, wr2, wr3, lt0, lt1, lt2, lt3, Bool.not_false, Bool.not_true, Bool.false_and, Bool.true_and, Bool.and_false]
  all_goals rfl
end Go.Lift.Z9
end

section
open Go.Proofs
namespace Go.Lift.Z9
variable [MX]
variable {lo : Nat} {h : Heap}
open Utf Spell Sel
noncomputable abbrev X11 (lo : Nat) (h : Heap) : Go.Lift.Cx := ⟨Tryz.prog, E, lo, h.length, h11⟩
abbrev NM39 (h : Heap) (l : List Wt) (k : Int) : Env := [(2, .ptr h.length 0), (3, .ptr (h.length + 1) 0), (6, .list .no (l.map wV)), (7, .v (.int .i64 l.length)), (8, .v (.int .i64 k))]
abbrev HM39 (h : Heap) (w : Wt) : Heap := h ++ [.cells [.v (.int .i64 0), .v (.int .i64 0), .v (.int .i64 0)], .cells [.v (.int .i64 w.a), .v (.int .i64 w.b), .v (.int .i64 w.c)]]
theorem r39 {l : List Wt} {w out : Wt} {k : Nat} (hlo : lo <= h.length) (hl : l.length <= 1000000000) (hg : l[k]? = some w) :
  evCode (X11 lo h) loopW l11x0 (NM39 h l k, HM39 h out) = some (.normal, NM39 h l (k + 1 : Nat), HM39 h (if (k == 0 || lessW out w) = true then w else out)) := by
 have hlt : k < l.length := (List.getElem?_eq_some_iff.1 hg).1
 obtain ⟨a, b, c⟩ := w
 obtain ⟨a', b', c'⟩ := out
 have hgr : (l.map wV)[k]? = some [.v (.int .i64 a), .v (.int .i64 b), .v (.int .i64 c)] := by simp [hg, wV]
 have l1 : lo <= h.length + 1 := by omega
 have l2 : lo <= h.length + 2 := by omega
 have l3 : lo <= h.length + 3 := by omega
 have d1 : decide (h.length < h.length + 2) = true := by simp
 have d2 : decide (h.length + 1 < h.length + 2) = true := by simp
 have q1 : decide ((k : Int) < (l.length : Int)) = true := by simp; omega
 have hw : IntKind.i64.wrap ((k : Int) + 1) = ((k + 1 : Nat) : Int) := wrap_succ (by omega)
 have c0 : ((k : Int) == 0) = (k == 0) := by rw [Bool.eq_iff_iff]; simp
 have c53 := fun lo h hlo => f10 (lo := lo) (h := h) (x := ⟨a', b', c'⟩) (y := ⟨a, b, c⟩) hlo
 simp only [wV_eq] at c53
 cases h0 : k == 0 with
 | true =>
  rw [h0] at c0
  rw [if_pos (by simp)]
  simp only [go_sem, l11x0, b11, Tryz.f11, hlo, l1, l2, l3, d1, d2, q1, hgr, hw, c0, List.length_map]
  all_goals rfl
 | false =>
  rw [h0] at c0
  rw [Bool.false_or]
  cases h1 : lessW ⟨a', b', c'⟩ ⟨a, b, c⟩ with
  | true =>
   rw [h1] at c53
   rw [if_pos rfl]
   simp only [go_sem, l11x0, b11, Tryz.f11, hlo, l1, l2, l3, d1, d2, q1, hgr, hw, c0, c53, List.length_map]
   all_goals rfl
  | false =>
   rw [h1] at c53
   rw [if_neg (by simp)]
   simp only [go_sem, l11x0, b11, Tryz.f11, hlo, l1, l2, l3, d1, d2, q1, hgr, hw, c0, c53, List.length_map]
   all_goals rfl
theorem x39 {l : List Wt} {out : Wt} : evCode (X11 lo h) loopW l11x0 (NM39 h l l.length, HM39 h out) = some (.exit 0, NM39 h l l.length ++ [(9, .v (.bool false))], HM39 h out) := by
 have q : decide ((l.length : Int) < (l.length : Int)) = false := by simp
 simp only [go_sem, l11x0, b11, Tryz.f11, q]
 all_goals rfl
theorem l39 {l : List Wt} (hlo : lo <= h.length) (hl : l.length <= 1000000000) : ∀ (m k : Nat) (out : Wt), k + m = l.length -> 0 < k ->
  loopW (evCode (X11 lo h) loopW l11x0) (NM39 h l k, HM39 h out) = some (.exit 0, NM39 h l l.length ++ [(9, .v (.bool false))], HM39 h (mostF out (l.drop k))) := by
 intro m
 induction m with
 | zero =>
  intro k out hk _
  obtain rfl : k = l.length := by omega
  rw [List.drop_length, mostF, loop_eq, x39, loop_e]
 | succ m ih =>
  intro k out hk h0
  have hlt : k < l.length := by omega
  have z : (k == 0) = false := by rw [beq_eq_false_iff_ne]; omega
  rw [List.drop_eq_getElem_cons hlt, mostF, loop_eq, r39 hlo hl (List.getElem?_eq_getElem hlt), loop_n, ih (k + 1) _ (by omega) (by omega), z, Bool.false_or]
theorem l39z {l : List Wt} (hlo : lo <= h.length) (hl : l.length <= 1000000000) :
  loopW (evCode (X11 lo h) loopW l11x0) (NM39 h l (0 : Nat), HM39 h wz) = some (.exit 0, NM39 h l l.length ++ [(9, .v (.bool false))], HM39 h (mostW l)) := by
 cases l with
 | nil => rw [mostW, loop_eq]; exact congrArg (loopC loopW _) x39
 | cons w r =>
  have z : ((0 : Nat) == 0) = true := rfl
  rw [mostW, loop_eq, r39 (w := w) hlo hl rfl, loop_n, z, Bool.true_or, if_pos rfl, l39 hlo hl r.length 1 w (by simp; omega) (by omega)]
  rfl
theorem f11 {l : List Wt} (hlo : lo <= h.length) (hl : l.length <= 1000000000) : E lo 11 [.list .no (l.map wV)] h = some (.agg (wV (mostW l)), h) := by
 have l1 : lo <= h.length + 1 := by omega
 have l2 : lo <= h.length + 2 := by omega
 have n0 : ((0 : Nat) : Int) = 0 := rfl
 have hL := l39z (lo := lo) (h := h) hlo hl
 simp only [l11x0, b11, Tryz.f11, loopAt, loops, bodyOf, go_sem, n0, wz, List.cons_append, List.nil_append] at hL
 rw [e11 (by simp) (by rfl)]
 simp only [go_sem, b11, Tryz.f11, hlo, l1, l2, List.length_map, hL]
 all_goals rfl
end Go.Lift.Z9
end

section
open Go.Proofs
namespace Go.Lift.Z9
variable [MX]
variable {lo : Nat} {h : Heap}
open Utf Spell Sel
noncomputable abbrev X43 (lo : Nat) (h : Heap) : Go.Lift.Cx := ⟨Tryz.prog, E, lo, h.length, h43⟩
abbrev r22 (o a b : Int) (n v : List Int) (f : Bool) : Ob :=
 .cells [.v (.int .i64 0), .v (.string (bs n)), .v (.int .i64 o), .v (.string (bs v)), .v (.bool f), .list .yes [], .v (.int .i64 a), .v (.int .i64 b)]
theorem f43a {k o a b d : Int} {n v : List Int} {f : Bool} {l : List (List V)} (hlo : lo <= h.length) :
  evL (X43 lo h) loopW (pc b43 0 5) (args0 [.agg [.v (.int .i64 k), .v (.string (bs n)), .v (.int .i64 o), .v (.string (bs v)), .v (.bool f), .list .no l, .v (.int .i64 a), .v (.int .i64 b)], .v (.int .i64 d)], h) =
   some (.normal, [(1, .v (.int .i64 d)), (2, .ptr h.length 0), (5, .v (.bool true)), (6, .list .no l), (7, .ptr (h.length + 1) 0), (14, .v (.int .i64 k))],
    h ++ [.cells [.v (.int .i64 k), .v (.string (bs n)), .v (.int .i64 o), .v (.string (bs v)), .v (.bool f), .list .no l, .v (.int .i64 a), .v (.int .i64 b)], r22 o a b n v f]) := by
 have l1 : lo <= h.length + 1 := by omega
 have l2 : lo <= h.length + 2 := by omega
 simp only [go_sem, b43, Tryz.f43, hlo, l1, l2]
def fin22 (l : List (List V)) (o a b : Int) (n v : List Int) (f : Bool) : Bool := l.isEmpty && (n.isEmpty && (o == 0 && (v.isEmpty && (!f && (a == 0 && b == 0)))))
theorem f22z {g : Env} {ow : Own} {ok : Bool} {o a b : Int} {n v : List Int} {f : Bool} {l : List (List V)} {x : Ob} (ho : ow = .no \/ ow = .yes) (h5 : look g 5 = .v (.bool ok)) (h6 : look g 6 = .list ow l) (h7 : look g 7 = .ptr (h.length + 1) 0) (hll : l.length <= 1000000000) (hlo : lo <= h.length) :
  evL (X43 lo h) loopW (pc b43 6 1) (g, h ++ [x, r22 o a b n v f]) = some (.normal, [(4, .v (.bool (ok && fin22 l o a b n v f)))], h ++ [x, r22 o a b n v f]) := by
 have l1 : lo <= h.length + 1 := by omega
 have l2 : lo <= h.length + 2 := by omega
 unfold fin22
 cases ok with
 | false =>
  rw [Bool.false_and]
  rcases ho with rfl | rfl
  all_goals simp only [go_sem, b43, Tryz.f43, hlo, l1, l2, h5, h6, h7]
 | true =>
 rw [Bool.true_and]
 have ez : ((l.length : Int) == 0) = l.isEmpty := by cases l with | nil => rfl | cons y r => simp; omega
 have qn : ((bs n).toList == (⟨#[]⟩ : ByteArray).toList) = n.isEmpty := (bs_nil_eq' n).trans (by cases n <;> simp)
 have qv : ((bs v).toList == (⟨#[]⟩ : ByteArray).toList) = v.isEmpty := (bs_nil_eq' v).trans (by cases v <;> simp)
 have dz : decide ((l.length : Int) = 0) = l.isEmpty := by rw [<- ez]; rw [Bool.eq_iff_iff]; simp
 cases hz : l.isEmpty with
 | false =>
  rw [hz] at ez dz
  rw [Bool.false_and]
  rcases ho with rfl | rfl
  all_goals simp only [go_sem, b43, Tryz.f43, hlo, l1, l2, h5, h6, h7, ez, dz]
 | true =>
 rw [hz] at ez dz
 rw [Bool.true_and]
 cases hn : n.isEmpty with
 | false =>
  rw [hn] at qn
  rw [Bool.false_and]
  rcases ho with rfl | rfl
  all_goals simp only [go_sem, b43, Tryz.f43, hlo, l1, l2, h5, h6, h7, ez, dz, qn]
 | true =>
 rw [hn] at qn
 rw [Bool.true_and]
 cases h1 : o == 0 with
 | false =>
  rw [Bool.false_and]
  rcases ho with rfl | rfl
  all_goals simp only [go_sem, b43, Tryz.f43, hlo, l1, l2, h5, h6, h7, ez, dz, qn, h1]
 | true =>
 rw [Bool.true_and]
 cases hv : v.isEmpty with
 | false =>
  rw [hv] at qv
  rw [Bool.false_and]
  rcases ho with rfl | rfl
  all_goals simp only [go_sem, b43, Tryz.f43, hlo, l1, l2, h5, h6, h7, ez, dz, qn, h1, qv]
 | true =>
 rw [hv] at qv
 rw [Bool.true_and]
 cases f with
 | true =>
  rw [Bool.not_true, Bool.false_and]
  rcases ho with rfl | rfl
  all_goals simp only [go_sem, b43, Tryz.f43, hlo, l1, l2, h5, h6, h7, ez, dz, qn, h1, qv]
 | false =>
 rw [Bool.not_false, Bool.true_and]
 cases h2 : a == 0 with
 | false =>
  rw [Bool.false_and]
  rcases ho with rfl | rfl
  all_goals simp only [go_sem, b43, Tryz.f43, hlo, l1, l2, h5, h6, h7, ez, dz, qn, h1, qv, h2]
 | true =>
 rw [Bool.true_and]
 rcases ho with rfl | rfl
 all_goals simp only [go_sem, b43, Tryz.f43, hlo, l1, l2, h5, h6, h7, ez, dz, qn, h1, qv, h2]
abbrev cm22 (k o a b : Int) (n v : List Int) (f : Bool) (l : List (List V)) : Ob :=
 .cells [.v (.int .i64 k), .v (.string (bs n)), .v (.int .i64 o), .v (.string (bs v)), .v (.bool f), .list .no l, .v (.int .i64 a), .v (.int .i64 b)]
abbrev en22 (h : Heap) (k d : Int) (l : List (List V)) : Env :=
 [(1, .v (.int .i64 d)), (2, .ptr h.length 0), (5, .v (.bool true)), (6, .list .no l), (7, .ptr (h.length + 1) 0), (14, .v (.int .i64 k))]
def To22 (lo : Nat) (h : Heap) (k d o a b : Int) (n v : List Int) (f : Bool) (l : List (List V)) (ok : Bool) (l' : List (List V)) (o' a' b' : Int) (n' v' : List Int) (f' : Bool) : Prop :=
 ∃ (g : Env) (ow : Own), evL (X43 lo h) loopW (pc b43 5 1) (en22 h k d l, h ++ [cm22 k o a b n v f l, r22 o a b n v f]) = some (.normal, g, h ++ [cm22 k o a b n v f l, r22 o' a' b' n' v' f']) /\
  (ow = .no \/ ow = .yes) /\ look g 5 = .v (.bool ok) /\ look g 6 = .list ow l' /\ look g 7 = .ptr (h.length + 1) 0
variable {k d o a b : Int} {n v : List Int} {f : Bool} {l : List (List V)}
theorem k22a (hk : k = 1 \/ 9 <= k /\ k <= 13) (hlo : lo <= h.length) : To22 lo h k d o a b n v f l true l o a b n v f := by
 have l1 : lo <= h.length + 1 := by omega
 have l2 : lo <= h.length + 2 := by omega
 have hk' : k = 1 \/ k = 9 \/ k = 10 \/ k = 11 \/ k = 12 \/ k = 13 := by omega
 refine ⟨[(5, .v (.bool true)), (6, .list .no l), (7, .ptr (h.length + 1) 0), (14, .v (.int .i64 k)), (92, .v (.bool true))], .no, ?_, .inl rfl, ?_, ?_, ?_⟩
 ·rcases hk' with rfl | rfl | rfl | rfl | rfl | rfl
  all_goals
   simp only [go_sem, Int.reduceBEq, reduceIte, Bool.false_eq_true, b43, Tryz.f43, hlo, l1, l2]
 all_goals rfl
theorem k22b (hy : By n) (hl : n.length <= 1000000000) (hk : k = 2 \/ k = 3 \/ k = 4) (hlo : lo <= h.length) : To22 lo h k d o a b n v f l (Sel.isName sound n) l o a b [] v f := by
 have l1 : lo <= h.length + 1 := by omega
 have l2 : lo <= h.length + 2 := by omega
 have c32 := fun (lo : Nat) (h : Heap) (hlo : lo <= h.length) => f69 hy hl hlo
 refine ⟨[(1, .v (.int .i64 d)), (2, .ptr h.length 0), (5, .v (.bool (Sel.isName sound n))), (6, .list .no l), (7, .ptr (h.length + 1) 0), (14, .v (.int .i64 k)), (15, .v (.bool true))], .no, ?_, .inl rfl, ?_, ?_, ?_⟩
 ·rcases hk with rfl | rfl | rfl
  all_goals
   simp only [go_sem, Int.reduceBEq, reduceIte, Bool.false_eq_true, b43, Tryz.f43, hlo, l1, l2, c32]
   rfl
 all_goals rfl
theorem k22o (hk : k < 1 \/ 15 < k) (hlo : lo <= h.length) : To22 lo h k d o a b n v f l false l o a b n v f := by
 have l1 : lo <= h.length + 1 := by omega
 have l2 : lo <= h.length + 2 := by omega
 have hne : ∀ i : Int, 1 <= i -> i <= 15 -> (k == i) = false := fun i h1 h2 => by rw [beq_eq_false_iff_ne]; omega
 have q1 := hne 1 (by omega) (by omega)
 have q2 := hne 2 (by omega) (by omega)
 have q3 := hne 3 (by omega) (by omega)
 have q4 := hne 4 (by omega) (by omega)
 have q5 := hne 5 (by omega) (by omega)
 have q6 := hne 6 (by omega) (by omega)
 have q7 := hne 7 (by omega) (by omega)
 have q8 := hne 8 (by omega) (by omega)
 have q9 := hne 9 (by omega) (by omega)
 have q10 := hne 10 (by omega) (by omega)
 have q11 := hne 11 (by omega) (by omega)
 have q12 := hne 12 (by omega) (by omega)
 have q13 := hne 13 (by omega) (by omega)
 have q14 := hne 14 (by omega) (by omega)
 have q15 := hne 15 (by omega) (by omega)
 refine ⟨[(1, .undef), (2, .undef), (5, .v (.bool false)), (6, .list .no l), (7, .ptr (h.length + 1) 0), (14, .v (.int .i64 k)), (15, .undef)], .no, ?_, .inl rfl, ?_, ?_, ?_⟩
 ·simp only [go_sem, Int.reduceBEq, reduceIte, Bool.false_eq_true, b43, Tryz.f43, hlo, l1, l2, q1, q2, q3, q4, q5, q6, q7, q8, q9, q10, q11, q12, q13, q14, q15]
  rfl
 all_goals rfl
theorem k22n (hk : k = 14 \/ k = 15) (hlo : lo <= h.length) : To22 lo h k d o a b n v f l (decide (d < 65) && isStep a && isStep b) l o 0 0 n v f := by
 have l1 : lo <= h.length + 1 := by omega
 have l2 : lo <= h.length + 2 := by omega
 have c34 := fun (lo : Nat) (h : Heap) => @f71 _ lo h a
 have d34 := fun (lo : Nat) (h : Heap) => @f71 _ lo h b
 refine ⟨[(1, .undef), (2, .undef), (5, .v (.bool (decide (d < 65) && isStep a && isStep b))), (6, .list .no l), (7, .ptr (h.length + 1) 0), (14, .undef), (15, .undef)], .no, ?_, .inl rfl, ?_, ?_, ?_⟩
 ·rcases hk with rfl | rfl
  all_goals
   cases h1 : decide (d < 65) with
   | false => simp only [go_sem, Int.reduceBEq, reduceIte, Bool.false_eq_true, b43, Tryz.f43, hlo, l1, l2, c34, d34, h1, Bool.false_and]; rfl
   | true => 
    cases h2 : isStep a with
    | false => simp only [go_sem, Int.reduceBEq, reduceIte, Bool.false_eq_true, b43, Tryz.f43, hlo, l1, l2, c34, d34, h1, h2, Bool.true_and, Bool.false_and]; rfl
    | true => simp only [go_sem, Int.reduceBEq, reduceIte, Bool.false_eq_true, b43, Tryz.f43, hlo, l1, l2, c34, d34, h1, h2, Bool.true_and, Bool.false_and]; rfl
 all_goals rfl
theorem k22m {m : Bool} (c14 : ∀ lo h, lo <= h.length -> E lo 30 [.list .no l, .v (.int .i64 (d + 1))] h = some (.v (.bool m), h)) (hd : 0 <= d /\ d <= 100) (hk : k = 6 \/ k = 7 \/ k = 8) (hlo : lo <= h.length) : To22 lo h k d o a b n v f l m [] o a b n v f := by
 have hw : IntKind.i64.wrap (d + 1) = d + 1 := wrap_i64 (by omega) (by omega)
 have l1 : lo <= h.length + 1 := by omega
 have l2 : lo <= h.length + 2 := by omega
 refine ⟨[(1, .v (.int .i64 d)), (2, .ptr h.length 0), (5, .v (.bool m)), (6, .list .yes []), (7, .ptr (h.length + 1) 0), (14, .v (.int .i64 k)), (15, .undef)], .yes, ?_, .inr rfl, ?_, ?_, ?_⟩
 ·rcases hk with rfl | rfl | rfl
  all_goals
   simp only [go_sem, Int.reduceBEq, reduceIte, Bool.false_eq_true, b43, Tryz.f43, hlo, l1, l2, c14, hw]
   rfl
 all_goals rfl
theorem k22t (hy : By n) (hl : n.length <= 1000000000) (hy' : By v) (hl' : v.length <= 1000000000) (hlo : lo <= h.length) : To22 lo h 5 d o a b n v f l (decide (d < 65) && isName sound n && decide (0 <= o) && decide (o <= 6) && sound v && (o != 0 || v.isEmpty && !f)) l 0 a b [] [] false := by
 have l1 : lo <= h.length + 1 := by omega
 have l2 : lo <= h.length + 2 := by omega
 have c32 := fun (lo : Nat) (h : Heap) (hlo : lo <= h.length) => f69 hy hl hlo
 have c33 := fun (lo : Nat) (h : Heap) (hlo : lo <= h.length) => f70 hy' hl' hlo
 have qv : ((bs v).toList == (⟨#[]⟩ : ByteArray).toList) = v.isEmpty := (bs_nil_eq' v).trans (by cases v <;> simp)
 have no : (o != 0) = !(o == 0) := rfl
 refine ⟨[(1, .undef), (2, .undef), (5, .v (.bool (decide (d < 65) && isName sound n && decide (0 <= o) && decide (o <= 6) && sound v && (o != 0 || v.isEmpty && !f)))), (6, .list .no l), (7, .ptr (h.length + 1) 0), (14, .undef), (15, .undef)], .no, ?_, .inl rfl, ?_, ?_, ?_⟩
 ·cases h1 : decide (d < 65) with
  | false => simp only [go_sem, Int.reduceBEq, reduceIte, Bool.false_eq_true, b43, Tryz.f43, hlo, l1, l2, c32, c33, h1, Bool.false_and]; rfl
  | true =>
  cases h2 : isName sound n with
  | false => simp only [go_sem, Int.reduceBEq, reduceIte, Bool.false_eq_true, b43, Tryz.f43, hlo, l1, l2, c32, c33, h1, h2, Bool.false_and, Bool.true_and]; rfl
  | true =>
  cases h3 : decide (0 <= o) with
  | false => simp only [go_sem, Int.reduceBEq, reduceIte, Bool.false_eq_true, b43, Tryz.f43, hlo, l1, l2, c32, c33, h1, h2, h3, Bool.false_and, Bool.true_and]; rfl
  | true =>
  cases h4 : decide (o <= 6) with
  | false => simp only [go_sem, Int.reduceBEq, reduceIte, Bool.false_eq_true, b43, Tryz.f43, hlo, l1, l2, c32, c33, h1, h2, h3, h4, Bool.false_and, Bool.true_and]; rfl
  | true =>
  cases h5 : sound v with
  | false => simp only [go_sem, Int.reduceBEq, reduceIte, Bool.false_eq_true, b43, Tryz.f43, hlo, l1, l2, c32, c33, h1, h2, h3, h4, h5, Bool.false_and, Bool.true_and]; rfl
  | true =>
  cases h6 : o == 0 with
  | false => simp only [go_sem, Int.reduceBEq, reduceIte, Bool.false_eq_true, b43, Tryz.f43, hlo, l1, l2, c32, c33, h1, h2, h3, h4, h5, h6, no, Bool.false_and, Bool.true_and, Bool.not_false, Bool.true_or]; rfl
  | true =>
  cases h7 : v.isEmpty with
  | false =>
   rw [h7] at qv
   simp only [go_sem, Int.reduceBEq, reduceIte, Bool.false_eq_true, b43, Tryz.f43, hlo, l1, l2, c32, c33, h1, h2, h3, h4, h5, h6, h7, qv, no, Bool.false_and, Bool.true_and, Bool.not_true, Bool.false_or]; rfl
  | true =>
   rw [h7] at qv
   cases f
   all_goals simp only [go_sem, Int.reduceBEq, reduceIte, Bool.false_eq_true, b43, Tryz.f43, hlo, l1, l2, c32, c33, h1, h2, h3, h4, h5, h6, h7, qv, no, Bool.false_and, Bool.true_and, Bool.not_true, Bool.false_or]; rfl
 all_goals rfl
end Go.Lift.Z9
end

section
open Go.Proofs
namespace Go.Lift.Z9
variable [MX]
variable {lo : Nat} {h : Heap}
open Utf Spell Sel
theorem end43 {s : St} : thenP (X43 lo h) loopW b43 7 (some (.normal, s)) = some (.ret, s) := by
 show evL (X43 lo h) loopW ((flat b43).drop 7) s = _
 simp only [go_sem, b43, Tryz.f43]
theorem f22_of {k d o a b o' a' b' : Int} {n v n' v' : List Int} {f f' ok : Bool} {l l' : List (List V)} (hlo : lo <= h.length) (hl : l'.length <= 1000000000) (hk : To22 lo h k d o a b n v f l ok l' o' a' b' n' v' f') :
  E lo 43 [.agg [.v (.int .i64 k), .v (.string (bs n)), .v (.int .i64 o), .v (.string (bs v)), .v (.bool f), .list .no l, .v (.int .i64 a), .v (.int .i64 b)], .v (.int .i64 d)] h = some (.v (.bool (ok && fin22 l' o' a' b' n' v' f')), h) := by
 obtain ⟨g, ow, h1, h2, h3, h4, h5⟩ := hk
 rw [e43 (by simp) (by rfl)]
 show fin Tryz.prog [.tmp 4] h.length (evCode (X43 lo h) loopW b43 _) = _
 rw [pc_in, pc_go _ _ _ _ 0 5, f43a hlo, pc_go _ _ _ _ _ 1]
 have h1' := h1
 unfold en22 cm22 at h1'
 rw [h1', pc_go _ _ _ _ _ 1, f22z h2 h3 h4 h5 hl hlo, end43]
 simp only [go_sem, hlo]
def WfS (n v : List Int) (l : List Sel.Cx) : Prop := By n /\ n.length <= 1000000000 /\ By v /\ v.length <= 1000000000 /\ l.length <= 1000000000
theorem f43 {k o a b : Int} {n v : List Int} {f : Bool} {l : List Sel.Cx} {d : Nat} (hw : WfS n v l) (hd : d <= 65)
  (c14 : ∀ lo h, lo <= h.length -> E lo 30 [.list .no (cxsC l), .v (.int .i64 ((d + 1 : Nat) : Int))] h = some (.v (.bool (mayP sound (d + 1) l)), h)) (hlo : lo <= h.length) :
  E lo 43 [.agg (smV (.mk k n o v f l a b)), .v (.int .i64 d)] h = some (.v (.bool (simpleP sound d (.mk k n o v f l a b))), h) := by
 obtain ⟨yn, ln, yv, lv, ll⟩ := hw
 have cl : (cxsC l).length <= 1000000000 := by rw [cxsC_len]; exact ll
 have ce : (cxsC l).isEmpty = l.isEmpty := by cases l with | nil => rw [cxsC]; rfl | cons x r => rw [cxsC]; rfl
 have hc : decide ((d : Int) < 65) = decide (d < 65) := by rw [Bool.eq_iff_iff]; simp; omega
 have sv : smV (.mk k n o v f l a b) = [.v (.int .i64 k), .v (.string (bs n)), .v (.int .i64 o), .v (.string (bs v)), .v (.bool f), .list .no (cxsC l), .v (.int .i64 a), .v (.int .i64 b)] := by rw [smV]; rfl
 rw [sv, simpleP]
 by_cases k1 : k = 2 \/ k = 3 \/ k = 4
 ·rw [if_pos k1, f22_of hlo cl (k22b yn ln k1 hlo), fin22, ce]
  rfl
 rw [if_neg k1]
 by_cases k2 : k = 5
 ·subst k2
  rw [if_pos rfl, f22_of hlo cl (k22t yn ln yv lv hlo), fin22, ce, hc]
  rfl
 rw [if_neg k2]
 by_cases k3 : k = 6 \/ k = 7 \/ k = 8
 ·rw [if_pos k3, f22_of hlo (by simp) (k22m (m := mayP sound (d + 1) l) c14 (by omega) k3 hlo), fin22]
  rfl
 rw [if_neg k3]
 by_cases k4 : k = 14 \/ k = 15
 ·rw [if_pos k4, f22_of hlo cl (k22n k4 hlo), fin22, ce, hc]
  have z : ((0 : Int) == 0) = true := rfl
  rw [z]
  simp only [Bool.and_true]
 rw [if_neg k4]
 by_cases k5 : k = 1 \/ 9 <= k /\ k <= 13
 ·rw [if_pos k5, f22_of hlo cl (k22a k5 hlo), fin22, ce, Bool.true_and]
 rw [if_neg k5, f22_of hlo cl (k22o (by omega) hlo), Bool.false_and]
end Go.Lift.Z9
end
