/- Where a name, a number, an escape begins: the readers. -/
import Derived.Test.YtedlleekcinbcaaR1Tok1
open Go.Proofs
namespace Go.Lift.R1
open Utf
set_option maxRecDepth 20000
set_option linter.unusedSimpArgs false
set_option linter.unusedVariables false

/-- what stands there -/
def pk (l : List Int) (i : Nat) : Int := match l[i]? with
  | some x => scal x
  | none => -1

theorem f34 {lo b i k : Nat} {l : List Int} {h : Heap} (hb : h[b]? = some (.cells [.list .no (ri .i32 l), .v (.int .i64 i)])) (hi : i + k ≤ 35184372088832) :
    E lo 34 [.ptr b 0, .v (.int .i64 k)] h = some (.v (.int .i32 (pk l (i + k))), h) := by
  have hw : IntKind.i64.wrap ((i : Int) + k) = ((i + k : Nat) : Int) := by rw [wrap_i64 (by omega) (by omega)]; omega
  rw [e34 (by simp) (by rfl)]
  by_cases hl : i + k < l.length
  · have hx : l[i + k]? = some l[i + k] := List.getElem?_eq_getElem hl
    have hd : decide ((l.length : Int) ≤ (i + k : Nat)) = false := by simp; omega
    have hp : pk l (i + k) = scal l[i + k] := by rw [pk, hx]
    generalize l[i + k] = x at hx hp
    simp only [go_sem, b34, Try.f34, hb, hw, hd, hx, hp]
    rfl
  · have hx : l[i + k]? = none := List.getElem?_eq_none (by omega)
    have hd : decide ((l.length : Int) ≤ (i + k : Nat)) = true := by simp; omega
    have hp : pk l (i + k) = -1 := by rw [pk, hx]
    simp only [go_sem, b34, Try.f34, hb, hw, hd, hx, hp]

theorem f28 {lo b i k : Nat} {l : List Int} {h : Heap} (hb : h[b]? = some (.cells [.list .no (ri .i32 l), .v (.int .i64 i)])) (hi : i + k ≤ 35184372088832) :
    E lo 28 [.ptr b 0, .v (.int .i64 k)] h = some (.v (.int .i32 (pk l (i + k))), h) := by
  have hw : IntKind.i64.wrap ((i : Int) + k) = ((i + k : Nat) : Int) := by rw [wrap_i64 (by omega) (by omega)]; omega
  rw [e28 (by simp) (by rfl)]
  by_cases hl : i + k < l.length
  · have hx : l[i + k]? = some l[i + k] := List.getElem?_eq_getElem hl
    have hd : decide ((l.length : Int) ≤ (i + k : Nat)) = false := by simp; omega
    have hp : pk l (i + k) = scal l[i + k] := by rw [pk, hx]
    generalize l[i + k] = x at hx hp
    cases hs : isc x with
    | true =>
      have : scal x = x := by rw [← isc_scal, hs]; rfl
      simp only [go_sem, b28, Try.f28, hb, hw, hd, hx, hp, f24, hs, this]
    | false =>
      have : scal x = 65533 := by rw [← isc_scal, hs]; rfl
      simp only [go_sem, b28, Try.f28, hb, hw, hd, hx, hp, f24, hs, this]
  · have hx : l[i + k]? = none := List.getElem?_eq_none (by omega)
    have hd : decide ((l.length : Int) ≤ (i + k : Nat)) = true := by simp; omega
    have hp : pk l (i + k) = -1 := by rw [pk, hx]
    simp only [go_sem, b28, Try.f28, hb, hw, hd, hx, hp]

section
variable {lo b i k : Nat} {l : List Int} {h : Heap} (hb : h[b]? = some (.cells [.list .no (ri .i32 l), .v (.int .i64 i)]))
include hb
/-- (*source).escape -/
theorem f27 (hi : i + k + 1 ≤ 35184372088832) : E lo 27 [.ptr b 0, .v (.int .i64 k)] h = some (.v (.bool (esc (pk l (i + k)) (pk l (i + (k + 1))))), h) := by
  have hw : IntKind.i64.wrap ((k : Int) + 1) = ((k + 1 : Nat) : Int) := wrap_succ (by omega)
  have p0 := fun lo => f34 (lo := lo) (k := k) hb (by omega)
  have p1 := fun lo => f34 (lo := lo) (k := k + 1) hb (by omega)
  rw [e27 (by simp) (by rfl)]
  simp only [go_sem, b27, Try.f27, hw, p0, p1, esc]

/-- (*source).numbered -/
theorem f26 (hi : i + k + 2 ≤ 35184372088832) : E lo 26 [.ptr b 0, .v (.int .i64 k)] h = some (.v (.bool (num (pk l (i + k)) (pk l (i + (k + 1))) (pk l (i + (k + 1 + 1))))), h) := by
  have hw : IntKind.i64.wrap ((k : Int) + 1) = ((k + 1 : Nat) : Int) := wrap_succ (by omega)
  have hw2 : IntKind.i64.wrap (((k + 1 : Nat) : Int) + 1) = ((k + 1 + 1 : Nat) : Int) := wrap_succ (by omega)
  have p0 := fun lo => f34 (lo := lo) (k := k) hb (by omega)
  have p1 := fun lo => f34 (lo := lo) (k := k + 1) hb (by omega)
  have p2 := fun lo => f34 (lo := lo) (k := k + 1 + 1) hb (by omega)
  rw [e26 (by simp) (by rfl)]
  generalize pk l (i + k) = a at p0
  cases ha : a == 43 || a == 45 with
  | true => simp only [go_sem, b26, Try.f26, hw, hw2, p0, p1, p2, f36, ha, num]
  | false => simp only [go_sem, b26, Try.f26, hw, hw2, p0, p1, p2, f36, ha, num, Bool.false_eq_true]

/-- (*source).named -/
theorem f25 (hi : i + k + 2 ≤ 35184372088832) : E lo 25 [.ptr b 0, .v (.int .i64 k)] h = some (.v (.bool (beg (pk l (i + k)) (pk l (i + (k + 1))) (pk l (i + (k + 1 + 1))))), h) := by
  have hw : IntKind.i64.wrap ((k : Int) + 1) = ((k + 1 : Nat) : Int) := wrap_succ (by omega)
  have p0 := fun lo => f34 (lo := lo) (k := k) hb (by omega)
  have p1 := fun lo => f34 (lo := lo) (k := k + 1) hb (by omega)
  have q0 := fun lo => f27 (lo := lo) (k := k) hb (by omega)
  have q1 := fun lo => f27 (lo := lo) (k := k + 1) hb (by omega)
  rw [e25 (by simp) (by rfl)]
  generalize pk l (i + k) = a at p0 q0
  cases ha : a == 45 with
  | true => simp only [go_sem, b25, Try.f25, hw, p0, p1, q0, q1, f35, ha, beg]
  | false => simp only [go_sem, b25, Try.f25, hw, p0, p1, q0, q1, f35, ha, beg, Bool.false_eq_true]
end

/-- what Starts tells -/
def sts (l : List Int) : V := .tup [.v (.bool (beg (pk l 0) (pk l 1) (pk l 2))), .v (.bool (num (pk l 0) (pk l 1) (pk l 2))), .v (.bool (esc (pk l 0) (pk l 1)))]

theorem f15 {lo : Nat} {l : List Int} {h : Heap} (hlo : lo ≤ h.length) (hl : l.length ≤ 35184372088832) : E lo 15 [.list .no (ri .i32 l)] h = some (sts l, h) := by
  have hb : (h ++ [Ob.cells [.list .no (ri .i32 l), .v (.int .i64 (0 : Nat))]])[h.length]? = some (.cells [.list .no (ri .i32 l), .v (.int .i64 (0 : Nat))]) := by simp
  have p0 := fun lo => f28 (lo := lo) (k := 0) hb (by omega)
  have p1 := fun lo => f28 (lo := lo) (k := 1) hb (by omega)
  have p2 := fun lo => f28 (lo := lo) (k := 2) hb (by omega)
  have n1 : ((1 : Nat) : Int) = 1 := rfl
  have n2 : ((2 : Nat) : Int) = 2 := rfl
  simp only [n0, n1, n2, Nat.zero_add] at p0 p1 p2
  rw [e15 (by simp) (by rfl)]
  simp only [go_sem, b15, Try.f15, p0, p1, p2, f29, f30, f31, sts, hlo]

theorem f14 {lo : Nat} {l : List Int} {h : Heap} (hlo : lo ≤ h.length) (hl : l.length ≤ 35184372088832) : E lo 14 [.list .no (ri .i32 l)] h = some (sts l, h) := by
  have hb : (h ++ [Ob.cells [.list .no (ri .i32 (l.take 3)), .v (.int .i64 (0 : Nat))]])[h.length]? = some (.cells [.list .no (ri .i32 (l.take 3)), .v (.int .i64 (0 : Nat))]) := by simp
  have p0 := fun lo => f25 (lo := lo) (k := 0) hb (by omega)
  have p1 := fun lo => f26 (lo := lo) (k := 0) hb (by omega)
  have p2 := fun lo => f27 (lo := lo) (k := 0) hb (by omega)
  have k0 : pk (l.take 3) 0 = pk l 0 := by simp [pk, List.getElem?_take]
  have k1 : pk (l.take 3) 1 = pk l 1 := by simp [pk, List.getElem?_take]
  have k2 : pk (l.take 3) 2 = pk l 2 := by simp [pk, List.getElem?_take]
  simp only [n0, Nat.zero_add, Nat.reduceAdd, k0, k1, k2] at p0 p1 p2
  rw [e14 (by simp) (by rfl)]
  by_cases h3 : (l.length : Int) < 3
  · have ht : l.take 3 = l := List.take_of_length_le (by omega)
    rw [ht] at p0 p1 p2
    simp only [go_sem, b14, Try.f14, p0, p1, p2, sts, hlo, h3, ri_take, Nat.le_refl, Nat.zero_le]
  · have h4 : 3 ≤ l.length := by omega
    simp only [go_sem, b14, Try.f14, p0, p1, p2, sts, hlo, h3, h4, ri_takeN, and_self, Nat.zero_le]

/-- the law TokStarts answers true -/
theorem f4 {lo : Nat} {l : List Int} {h : Heap} (hlo : lo ≤ h.length) (hl : l.length ≤ 35184372088832) : E lo 4 [.list .no (ri .i32 l)] h = some (.v (.bool true), h) := by
  have p0 := f14 (lo := lo) (l := l) (h := h) hlo (by omega)
  have p1 := f15 (lo := lo) (l := l) (h := h) hlo (by omega)
  have p2 := f14 (lo := lo) (l := [97]) (h := h) hlo (by decide)
  have e : sts [97] = .tup [.v (.bool true), .v (.bool false), .v (.bool false)] := by
    have a0 : pk [97] 0 = 97 := by decide
    have a1 : pk [97] 1 = -1 := by decide
    have a2 : pk [97] 2 = -1 := by decide
    rw [sts, a0, a1, a2]
    have b0 : beg 97 (-1) (-1) = true := by decide
    have b1 : num 97 (-1) (-1) = false := by decide
    have b2 : esc 97 (-1) = false := by decide
    rw [b0, b1, b2]
  rw [e] at p2
  simp only [ri_cons, ri_nil] at p2
  unfold sts at p0 p1
  generalize beg (pk l 0) (pk l 1) (pk l 2) = x at p0 p1
  generalize num (pk l 0) (pk l 1) (pk l 2) = y at p0 p1
  generalize esc (pk l 0) (pk l 1) = z at p0 p1
  have q0 : (x == x) = true := by simp
  have q1 : (y == y) = true := by simp
  have q2 : (z == z) = true := by simp
  rw [e4 (by simp) (by rfl)]
  simp only [go_sem, b4, Try.f4, p0, p1, p2, q0, q1, q2]
end Go.Lift.R1
