/- Two rows of bytes, and two of characters, held against each other. -/
import Derived.Test.YtedlleekcinbcaaR1Utf1
open Go.Proofs
namespace Go.Lift.R1
set_option linter.unusedVariables false
set_option linter.unusedSimpArgs false
open Utf
set_option maxRecDepth 20000
set_option linter.unusedSimpArgs false

theorem loop11 {lo : Nat} {a b : List Int} {h : Heap} (hl : a.length = b.length) (hb : a.length ≤ 140737488355328) : ∀ (n i : Nat), n = a.length - i → i ≤ a.length →
   loopW (evCode ⟨Try.prog, E, lo, h.length, h11⟩ loopW l11x0) ([(0, .list .no (ri .u8 a)), (1, .list .no (ri .u8 b)), (12, .v (.int .i64 a.length)), (13, .v (.int .i64 i))], h) =
    if a.drop i = b.drop i then some (.exit 0, [(0, .list .no (ri .u8 a)), (1, .list .no (ri .u8 b)), (12, .v (.int .i64 a.length)), (13, .v (.int .i64 a.length)), (14, .v (.bool false))], h)
    else some (.ret, [(4, .v (.bool false))], h) := by
  intro n
  induction n with
  | zero =>
    intro i hn hi
    obtain rfl : i = a.length := by omega
    have h1 : a.drop a.length = b.drop a.length := by simp [hl]
    rw [loop_eq, if_pos h1]
    have hd : decide ((a.length : Int) < a.length) = false := by simp
    simp only [go_sem, l11x0, b11, Try.f11, hd]
  | succ n ih =>
    intro i hn hi
    have hlt : i < a.length := by omega
    have hlt' : i < b.length := by omega
    have h1 : a[i]? = some a[i] := List.getElem?_eq_getElem hlt
    have h2 : b[i]? = some b[i] := List.getElem?_eq_getElem hlt'
    have hd : decide ((i : Int) < a.length) = true := by simpa using hlt
    have hw : IntKind.i64.wrap ((i : Int) + 1) = ((i + 1 : Nat) : Int) := by rw [wrap_i64] <;> omega
    have e1 : evCode ⟨Try.prog, E, lo, h.length, h11⟩ loopW l11x0 ([(0, .list .no (ri .u8 a)), (1, .list .no (ri .u8 b)), (12, .v (.int .i64 a.length)), (13, .v (.int .i64 i))], h) =
       if a[i] = b[i] then some (.normal, [(0, .list .no (ri .u8 a)), (1, .list .no (ri .u8 b)), (12, .v (.int .i64 a.length)), (13, .v (.int .i64 (i + 1 : Nat)))], h) else some (.ret, [(4, .v (.bool false))], h) := by
      by_cases he : a[i] = b[i]
      · have hx : (a[i] != b[i]) = false := by simp [he]
        simp only [go_sem, l11x0, b11, Try.f11, h1, h2, hd, hx, hw, if_pos he]
      · have hx : (a[i] != b[i]) = true := by simp [he]
        simp only [go_sem, l11x0, b11, Try.f11, h1, h2, hd, hx, he, hw]
    rw [loop_eq, e1, List.drop_eq_getElem_cons hlt, List.drop_eq_getElem_cons hlt']
    by_cases he : a[i] = b[i]
    · rw [if_pos he, loop_n, ih (i + 1) (by omega) (by omega)]
      simp only [he, List.cons.injEq, true_and]
    · rw [if_neg he, loop_r]
      simp only [he, List.cons.injEq, false_and, if_false]

theorem f11 {lo : Nat} {a b : List Int} {h : Heap} (hb : a.length ≤ 140737488355328) : E lo 11 [.list .no (ri .u8 a), .list .no (ri .u8 b)] h = some (.v (.bool (a == b)), h) := by
  rw [e11 (by simp) (by rfl)]
  have hL := fun hl => loop11 (lo := lo) (a := a) (b := b) (h := h) hl hb _ 0 rfl (by omega)
  simp only [l11x0, b11, Try.f11, loopAt, loops, bodyOf, go_sem] at hL
  by_cases hl : a.length = b.length
  · have hx : ((a.length : Int) != b.length) = false := by simp [hl]
    have hL := hL hl
    by_cases he : a = b
    · have hb : (a == b) = true := by simp [he]
      rw [if_pos (by rw [he])] at hL
      simp only [go_sem, b11, Try.f11, hx, hL, hb]
    · have hb : (a == b) = false := by simp [he]
      rw [if_neg (by simpa using he)] at hL
      simp only [go_sem, b11, Try.f11, hx, hL, hb]
  · have hx : ((a.length : Int) != b.length) = true := by simp; omega
    have hb : (a == b) = false := by simp; intro h; exact hl (by rw [h])
    simp only [go_sem, b11, Try.f11, hx, hb]

theorem loop16 {lo : Nat} {a b : List Int} {h : Heap} (hl : a.length = b.length) (hb : a.length ≤ 140737488355328) : ∀ (n i : Nat), n = a.length - i → i ≤ a.length →
   loopW (evCode ⟨Try.prog, E, lo, h.length, h16⟩ loopW l16x0) ([(0, .list .no (ri .i32 a)), (1, .list .no (ri .i32 b)), (12, .v (.int .i64 a.length)), (13, .v (.int .i64 i))], h) =
    if a.drop i = b.drop i then some (.exit 0, [(0, .list .no (ri .i32 a)), (1, .list .no (ri .i32 b)), (12, .v (.int .i64 a.length)), (13, .v (.int .i64 a.length)), (14, .v (.bool false))], h)
    else some (.ret, [(4, .v (.bool false))], h) := by
  intro n
  induction n with
  | zero =>
    intro i hn hi
    obtain rfl : i = a.length := by omega
    have h1 : a.drop a.length = b.drop a.length := by simp [hl]
    rw [loop_eq, if_pos h1]
    have hd : decide ((a.length : Int) < a.length) = false := by simp
    simp only [go_sem, l16x0, b16, Try.f16, hd]
  | succ n ih =>
    intro i hn hi
    have hlt : i < a.length := by omega
    have hlt' : i < b.length := by omega
    have h1 : a[i]? = some a[i] := List.getElem?_eq_getElem hlt
    have h2 : b[i]? = some b[i] := List.getElem?_eq_getElem hlt'
    have hd : decide ((i : Int) < a.length) = true := by simpa using hlt
    have hw : IntKind.i64.wrap ((i : Int) + 1) = ((i + 1 : Nat) : Int) := by rw [wrap_i64] <;> omega
    have e1 : evCode ⟨Try.prog, E, lo, h.length, h16⟩ loopW l16x0 ([(0, .list .no (ri .i32 a)), (1, .list .no (ri .i32 b)), (12, .v (.int .i64 a.length)), (13, .v (.int .i64 i))], h) =
       if a[i] = b[i] then some (.normal, [(0, .list .no (ri .i32 a)), (1, .list .no (ri .i32 b)), (12, .v (.int .i64 a.length)), (13, .v (.int .i64 (i + 1 : Nat)))], h) else some (.ret, [(4, .v (.bool false))], h) := by
      by_cases he : a[i] = b[i]
      · have hx : (a[i] != b[i]) = false := by simp [he]
        simp only [go_sem, l16x0, b16, Try.f16, h1, h2, hd, hx, hw, if_pos he]
      · have hx : (a[i] != b[i]) = true := by simp [he]
        simp only [go_sem, l16x0, b16, Try.f16, h1, h2, hd, hx, he, hw]
    rw [loop_eq, e1, List.drop_eq_getElem_cons hlt, List.drop_eq_getElem_cons hlt']
    by_cases he : a[i] = b[i]
    · rw [if_pos he, loop_n, ih (i + 1) (by omega) (by omega)]
      simp only [he, List.cons.injEq, true_and]
    · rw [if_neg he, loop_r]
      simp only [he, List.cons.injEq, false_and, if_false]

theorem f16 {lo : Nat} {a b : List Int} {h : Heap} (hb : a.length ≤ 140737488355328) : E lo 16 [.list .no (ri .i32 a), .list .no (ri .i32 b)] h = some (.v (.bool (a == b)), h) := by
  rw [e16 (by simp) (by rfl)]
  have hL := fun hl => loop16 (lo := lo) (a := a) (b := b) (h := h) hl hb _ 0 rfl (by omega)
  simp only [l16x0, b16, Try.f16, loopAt, loops, bodyOf, go_sem] at hL
  by_cases hl : a.length = b.length
  · have hx : ((a.length : Int) != b.length) = false := by simp [hl]
    have hL := hL hl
    by_cases he : a = b
    · have hb : (a == b) = true := by simp [he]
      rw [if_pos (by rw [he])] at hL
      simp only [go_sem, b16, Try.f16, hx, hL, hb]
    · have hb : (a == b) = false := by simp [he]
      rw [if_neg (by simpa using he)] at hL
      simp only [go_sem, b16, Try.f16, hx, hL, hb]
  · have hx : ((a.length : Int) != b.length) = true := by simp; omega
    have hb : (a == b) = false := by simp; intro h; exact hl (by rw [h])
    simp only [go_sem, b16, Try.f16, hx, hb]
end Go.Lift.R1
