/- utf.step by the classes of the first byte. Written by u5.py. -/
import Derived.Test.YtedlleekcinbcaaR1Utf4
open Go.Proofs
namespace Go.Lift.R1
open Utf
set_option maxRecDepth 20000
set_option linter.unusedSimpArgs false
set_option linter.unusedVariables false

/-- the answer as the program hands it on -/
def two (x : Int × Nat × Bool) : V := .tup [.v (.int .i32 x.1), .v (.int .i64 x.2.1)]

theorem f32a {lo : Nat} {c : Int} {t : List Int} {h : Heap} (hb : (c :: t).length ≤ 140737488355328) (hy : By (c :: t)) (hc : 194 ≤ c ∧ c ≤ 223) :
    E lo 32 [.list .no (ri .u8 (c :: t))] h = some (two (more 1 (c % 32) 128 191 1 t), h) := by
  have hcy := hy c (List.mem_cons_self ..)
  have t0 : decide (c < 128) = false := by simp; omega
  have t1 : decide (194 ≤ c) = true := by simp; omega
  have t2 : decide (c ≤ 223) = true := by simp; omega
  have t3 : decide (224 ≤ c) = false := by simp; omega
  have t4 : decide (c ≤ 239) = true := by simp; omega
  have t5 : decide (240 ≤ c) = false := by simp; omega
  have t6 : decide (c ≤ 244) = true := by simp; omega
  have q0 : (c == 224) = false := by simp; omega
  have q1 : (c == 237) = false := by simp; omega
  have q2 : (c == 240) = false := by simp; omega
  have q3 : (c == 244) = false := by simp; omega
  have hx : (c :: t)[0]? = some c := rfl
  have hm : IntKind.i32.wrap (IntKind.u8.wrap (iand .u8 c 31)) = c % 32 := by rw [a31 hcy.1 hcy.2, wrap_u8 (by omega) (by omega), wrap_i32 (by omega) (by omega)]
  obtain ⟨z, hL, hz⟩ := loop32 (lo := lo) (b := c :: t) (h := h) (n := 1) (by omega) hb hy 1 0 (c % 32) 128 191 rfl (by omega) (by omega) (by omega)
  have hn : (c :: t).drop (0 + 1) = t := rfl
  rw [hn] at hz
  have n1 : ((1 : Nat) : Int) = 1 := rfl
  have n2 : ((2 : Nat) : Int) = 2 := rfl
  have n3 : ((3 : Nat) : Int) = 3 := rfl
  simp only [l32x0, b32, Try.f32, loopAt, loops, bodyOf, go_sem, n1, n2, n3] at hL
  rw [e32 (by simp) (by rfl)]
  unfold end32 at hz
  split at hz
  · rename_i hk
    obtain ⟨low, high, rfl⟩ := hz
    simp only [n1, n2, n3] at hL
    simp only [go_sem, b32, Try.f32, hx, t0, t1, t2, t3, t4, t5, t6, q0, q1, q2, q3, hm, hL]
    rw [two, more_snd _ _ _ _ _ _ hk]
    rfl
  · subst hz
    simp only [go_sem, b32, Try.f32, hx, t0, t1, t2, t3, t4, t5, t6, q0, q1, q2, q3, hm, hL]
    rfl

theorem f32b {lo : Nat} {c : Int} {t : List Int} {h : Heap} (hb : (c :: t).length ≤ 140737488355328) (hy : By (c :: t)) (hc : c = 224) :
    E lo 32 [.list .no (ri .u8 (c :: t))] h = some (two (more 2 (c % 16) 160 191 1 t), h) := by
  have hcy := hy c (List.mem_cons_self ..)
  have t0 : decide (c < 128) = false := by simp; omega
  have t1 : decide (194 ≤ c) = true := by simp; omega
  have t2 : decide (c ≤ 223) = false := by simp; omega
  have t3 : decide (224 ≤ c) = true := by simp; omega
  have t4 : decide (c ≤ 239) = true := by simp; omega
  have t5 : decide (240 ≤ c) = false := by simp; omega
  have t6 : decide (c ≤ 244) = true := by simp; omega
  have q0 : (c == 224) = true := by simp; omega
  have q1 : (c == 237) = false := by simp; omega
  have q2 : (c == 240) = false := by simp; omega
  have q3 : (c == 244) = false := by simp; omega
  have hx : (c :: t)[0]? = some c := rfl
  have hm : IntKind.i32.wrap (IntKind.u8.wrap (iand .u8 c 15)) = c % 16 := by rw [a15 hcy.1 hcy.2, wrap_u8 (by omega) (by omega), wrap_i32 (by omega) (by omega)]
  obtain ⟨z, hL, hz⟩ := loop32 (lo := lo) (b := c :: t) (h := h) (n := 2) (by omega) hb hy 2 0 (c % 16) 160 191 rfl (by omega) (by omega) (by omega)
  have hn : (c :: t).drop (0 + 1) = t := rfl
  rw [hn] at hz
  have n1 : ((1 : Nat) : Int) = 1 := rfl
  have n2 : ((2 : Nat) : Int) = 2 := rfl
  have n3 : ((3 : Nat) : Int) = 3 := rfl
  simp only [l32x0, b32, Try.f32, loopAt, loops, bodyOf, go_sem, n1, n2, n3] at hL
  rw [e32 (by simp) (by rfl)]
  unfold end32 at hz
  split at hz
  · rename_i hk
    obtain ⟨low, high, rfl⟩ := hz
    simp only [n1, n2, n3] at hL
    simp only [go_sem, b32, Try.f32, hx, t0, t1, t2, t3, t4, t5, t6, q0, q1, q2, q3, hm, hL]
    rw [two, more_snd _ _ _ _ _ _ hk]
    rfl
  · subst hz
    simp only [go_sem, b32, Try.f32, hx, t0, t1, t2, t3, t4, t5, t6, q0, q1, q2, q3, hm, hL]
    rfl

theorem f32c {lo : Nat} {c : Int} {t : List Int} {h : Heap} (hb : (c :: t).length ≤ 140737488355328) (hy : By (c :: t)) (hc : c = 237) :
    E lo 32 [.list .no (ri .u8 (c :: t))] h = some (two (more 2 (c % 16) 128 159 1 t), h) := by
  have hcy := hy c (List.mem_cons_self ..)
  have t0 : decide (c < 128) = false := by simp; omega
  have t1 : decide (194 ≤ c) = true := by simp; omega
  have t2 : decide (c ≤ 223) = false := by simp; omega
  have t3 : decide (224 ≤ c) = true := by simp; omega
  have t4 : decide (c ≤ 239) = true := by simp; omega
  have t5 : decide (240 ≤ c) = false := by simp; omega
  have t6 : decide (c ≤ 244) = true := by simp; omega
  have q0 : (c == 224) = false := by simp; omega
  have q1 : (c == 237) = true := by simp; omega
  have q2 : (c == 240) = false := by simp; omega
  have q3 : (c == 244) = false := by simp; omega
  have hx : (c :: t)[0]? = some c := rfl
  have hm : IntKind.i32.wrap (IntKind.u8.wrap (iand .u8 c 15)) = c % 16 := by rw [a15 hcy.1 hcy.2, wrap_u8 (by omega) (by omega), wrap_i32 (by omega) (by omega)]
  obtain ⟨z, hL, hz⟩ := loop32 (lo := lo) (b := c :: t) (h := h) (n := 2) (by omega) hb hy 2 0 (c % 16) 128 159 rfl (by omega) (by omega) (by omega)
  have hn : (c :: t).drop (0 + 1) = t := rfl
  rw [hn] at hz
  have n1 : ((1 : Nat) : Int) = 1 := rfl
  have n2 : ((2 : Nat) : Int) = 2 := rfl
  have n3 : ((3 : Nat) : Int) = 3 := rfl
  simp only [l32x0, b32, Try.f32, loopAt, loops, bodyOf, go_sem, n1, n2, n3] at hL
  rw [e32 (by simp) (by rfl)]
  unfold end32 at hz
  split at hz
  · rename_i hk
    obtain ⟨low, high, rfl⟩ := hz
    simp only [n1, n2, n3] at hL
    simp only [go_sem, b32, Try.f32, hx, t0, t1, t2, t3, t4, t5, t6, q0, q1, q2, q3, hm, hL]
    rw [two, more_snd _ _ _ _ _ _ hk]
    rfl
  · subst hz
    simp only [go_sem, b32, Try.f32, hx, t0, t1, t2, t3, t4, t5, t6, q0, q1, q2, q3, hm, hL]
    rfl

theorem f32d {lo : Nat} {c : Int} {t : List Int} {h : Heap} (hb : (c :: t).length ≤ 140737488355328) (hy : By (c :: t)) (hc : 225 ≤ c ∧ c ≤ 239 ∧ c ≠ 237) :
    E lo 32 [.list .no (ri .u8 (c :: t))] h = some (two (more 2 (c % 16) 128 191 1 t), h) := by
  have hcy := hy c (List.mem_cons_self ..)
  have t0 : decide (c < 128) = false := by simp; omega
  have t1 : decide (194 ≤ c) = true := by simp; omega
  have t2 : decide (c ≤ 223) = false := by simp; omega
  have t3 : decide (224 ≤ c) = true := by simp; omega
  have t4 : decide (c ≤ 239) = true := by simp; omega
  have t5 : decide (240 ≤ c) = false := by simp; omega
  have t6 : decide (c ≤ 244) = true := by simp; omega
  have q0 : (c == 224) = false := by simp; omega
  have q1 : (c == 237) = false := by simp; omega
  have q2 : (c == 240) = false := by simp; omega
  have q3 : (c == 244) = false := by simp; omega
  have hx : (c :: t)[0]? = some c := rfl
  have hm : IntKind.i32.wrap (IntKind.u8.wrap (iand .u8 c 15)) = c % 16 := by rw [a15 hcy.1 hcy.2, wrap_u8 (by omega) (by omega), wrap_i32 (by omega) (by omega)]
  obtain ⟨z, hL, hz⟩ := loop32 (lo := lo) (b := c :: t) (h := h) (n := 2) (by omega) hb hy 2 0 (c % 16) 128 191 rfl (by omega) (by omega) (by omega)
  have hn : (c :: t).drop (0 + 1) = t := rfl
  rw [hn] at hz
  have n1 : ((1 : Nat) : Int) = 1 := rfl
  have n2 : ((2 : Nat) : Int) = 2 := rfl
  have n3 : ((3 : Nat) : Int) = 3 := rfl
  simp only [l32x0, b32, Try.f32, loopAt, loops, bodyOf, go_sem, n1, n2, n3] at hL
  rw [e32 (by simp) (by rfl)]
  unfold end32 at hz
  split at hz
  · rename_i hk
    obtain ⟨low, high, rfl⟩ := hz
    simp only [n1, n2, n3] at hL
    simp only [go_sem, b32, Try.f32, hx, t0, t1, t2, t3, t4, t5, t6, q0, q1, q2, q3, hm, hL]
    rw [two, more_snd _ _ _ _ _ _ hk]
    rfl
  · subst hz
    simp only [go_sem, b32, Try.f32, hx, t0, t1, t2, t3, t4, t5, t6, q0, q1, q2, q3, hm, hL]
    rfl

theorem f32e {lo : Nat} {c : Int} {t : List Int} {h : Heap} (hb : (c :: t).length ≤ 140737488355328) (hy : By (c :: t)) (hc : c = 240) :
    E lo 32 [.list .no (ri .u8 (c :: t))] h = some (two (more 3 (c % 8) 144 191 1 t), h) := by
  have hcy := hy c (List.mem_cons_self ..)
  have t0 : decide (c < 128) = false := by simp; omega
  have t1 : decide (194 ≤ c) = true := by simp; omega
  have t2 : decide (c ≤ 223) = false := by simp; omega
  have t3 : decide (224 ≤ c) = true := by simp; omega
  have t4 : decide (c ≤ 239) = false := by simp; omega
  have t5 : decide (240 ≤ c) = true := by simp; omega
  have t6 : decide (c ≤ 244) = true := by simp; omega
  have q0 : (c == 224) = false := by simp; omega
  have q1 : (c == 237) = false := by simp; omega
  have q2 : (c == 240) = true := by simp; omega
  have q3 : (c == 244) = false := by simp; omega
  have hx : (c :: t)[0]? = some c := rfl
  have hm : IntKind.i32.wrap (IntKind.u8.wrap (iand .u8 c 7)) = c % 8 := by rw [a7 hcy.1 hcy.2, wrap_u8 (by omega) (by omega), wrap_i32 (by omega) (by omega)]
  obtain ⟨z, hL, hz⟩ := loop32 (lo := lo) (b := c :: t) (h := h) (n := 3) (by omega) hb hy 3 0 (c % 8) 144 191 rfl (by omega) (by omega) (by omega)
  have hn : (c :: t).drop (0 + 1) = t := rfl
  rw [hn] at hz
  have n1 : ((1 : Nat) : Int) = 1 := rfl
  have n2 : ((2 : Nat) : Int) = 2 := rfl
  have n3 : ((3 : Nat) : Int) = 3 := rfl
  simp only [l32x0, b32, Try.f32, loopAt, loops, bodyOf, go_sem, n1, n2, n3] at hL
  rw [e32 (by simp) (by rfl)]
  unfold end32 at hz
  split at hz
  · rename_i hk
    obtain ⟨low, high, rfl⟩ := hz
    simp only [n1, n2, n3] at hL
    simp only [go_sem, b32, Try.f32, hx, t0, t1, t2, t3, t4, t5, t6, q0, q1, q2, q3, hm, hL]
    rw [two, more_snd _ _ _ _ _ _ hk]
    rfl
  · subst hz
    simp only [go_sem, b32, Try.f32, hx, t0, t1, t2, t3, t4, t5, t6, q0, q1, q2, q3, hm, hL]
    rfl

theorem f32f {lo : Nat} {c : Int} {t : List Int} {h : Heap} (hb : (c :: t).length ≤ 140737488355328) (hy : By (c :: t)) (hc : 241 ≤ c ∧ c ≤ 243) :
    E lo 32 [.list .no (ri .u8 (c :: t))] h = some (two (more 3 (c % 8) 128 191 1 t), h) := by
  have hcy := hy c (List.mem_cons_self ..)
  have t0 : decide (c < 128) = false := by simp; omega
  have t1 : decide (194 ≤ c) = true := by simp; omega
  have t2 : decide (c ≤ 223) = false := by simp; omega
  have t3 : decide (224 ≤ c) = true := by simp; omega
  have t4 : decide (c ≤ 239) = false := by simp; omega
  have t5 : decide (240 ≤ c) = true := by simp; omega
  have t6 : decide (c ≤ 244) = true := by simp; omega
  have q0 : (c == 224) = false := by simp; omega
  have q1 : (c == 237) = false := by simp; omega
  have q2 : (c == 240) = false := by simp; omega
  have q3 : (c == 244) = false := by simp; omega
  have hx : (c :: t)[0]? = some c := rfl
  have hm : IntKind.i32.wrap (IntKind.u8.wrap (iand .u8 c 7)) = c % 8 := by rw [a7 hcy.1 hcy.2, wrap_u8 (by omega) (by omega), wrap_i32 (by omega) (by omega)]
  obtain ⟨z, hL, hz⟩ := loop32 (lo := lo) (b := c :: t) (h := h) (n := 3) (by omega) hb hy 3 0 (c % 8) 128 191 rfl (by omega) (by omega) (by omega)
  have hn : (c :: t).drop (0 + 1) = t := rfl
  rw [hn] at hz
  have n1 : ((1 : Nat) : Int) = 1 := rfl
  have n2 : ((2 : Nat) : Int) = 2 := rfl
  have n3 : ((3 : Nat) : Int) = 3 := rfl
  simp only [l32x0, b32, Try.f32, loopAt, loops, bodyOf, go_sem, n1, n2, n3] at hL
  rw [e32 (by simp) (by rfl)]
  unfold end32 at hz
  split at hz
  · rename_i hk
    obtain ⟨low, high, rfl⟩ := hz
    simp only [n1, n2, n3] at hL
    simp only [go_sem, b32, Try.f32, hx, t0, t1, t2, t3, t4, t5, t6, q0, q1, q2, q3, hm, hL]
    rw [two, more_snd _ _ _ _ _ _ hk]
    rfl
  · subst hz
    simp only [go_sem, b32, Try.f32, hx, t0, t1, t2, t3, t4, t5, t6, q0, q1, q2, q3, hm, hL]
    rfl

theorem f32g {lo : Nat} {c : Int} {t : List Int} {h : Heap} (hb : (c :: t).length ≤ 140737488355328) (hy : By (c :: t)) (hc : c = 244) :
    E lo 32 [.list .no (ri .u8 (c :: t))] h = some (two (more 3 (c % 8) 128 143 1 t), h) := by
  have hcy := hy c (List.mem_cons_self ..)
  have t0 : decide (c < 128) = false := by simp; omega
  have t1 : decide (194 ≤ c) = true := by simp; omega
  have t2 : decide (c ≤ 223) = false := by simp; omega
  have t3 : decide (224 ≤ c) = true := by simp; omega
  have t4 : decide (c ≤ 239) = false := by simp; omega
  have t5 : decide (240 ≤ c) = true := by simp; omega
  have t6 : decide (c ≤ 244) = true := by simp; omega
  have q0 : (c == 224) = false := by simp; omega
  have q1 : (c == 237) = false := by simp; omega
  have q2 : (c == 240) = false := by simp; omega
  have q3 : (c == 244) = true := by simp; omega
  have hx : (c :: t)[0]? = some c := rfl
  have hm : IntKind.i32.wrap (IntKind.u8.wrap (iand .u8 c 7)) = c % 8 := by rw [a7 hcy.1 hcy.2, wrap_u8 (by omega) (by omega), wrap_i32 (by omega) (by omega)]
  obtain ⟨z, hL, hz⟩ := loop32 (lo := lo) (b := c :: t) (h := h) (n := 3) (by omega) hb hy 3 0 (c % 8) 128 143 rfl (by omega) (by omega) (by omega)
  have hn : (c :: t).drop (0 + 1) = t := rfl
  rw [hn] at hz
  have n1 : ((1 : Nat) : Int) = 1 := rfl
  have n2 : ((2 : Nat) : Int) = 2 := rfl
  have n3 : ((3 : Nat) : Int) = 3 := rfl
  simp only [l32x0, b32, Try.f32, loopAt, loops, bodyOf, go_sem, n1, n2, n3] at hL
  rw [e32 (by simp) (by rfl)]
  unfold end32 at hz
  split at hz
  · rename_i hk
    obtain ⟨low, high, rfl⟩ := hz
    simp only [n1, n2, n3] at hL
    simp only [go_sem, b32, Try.f32, hx, t0, t1, t2, t3, t4, t5, t6, q0, q1, q2, q3, hm, hL]
    rw [two, more_snd _ _ _ _ _ _ hk]
    rfl
  · subst hz
    simp only [go_sem, b32, Try.f32, hx, t0, t1, t2, t3, t4, t5, t6, q0, q1, q2, q3, hm, hL]
    rfl

end Go.Lift.R1
