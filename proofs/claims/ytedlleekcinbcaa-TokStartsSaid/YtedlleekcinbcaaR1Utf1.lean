/- The characters' bytes: what the program's Encode computes. -/
import Derived.Test.YtedlleekcinbcaaR1Base
import Derived.Test.YtedlleekcinbcaaUtfSpec
open Go.Proofs
namespace Go.Lift.R1
set_option linter.unusedVariables false
set_option linter.unusedSimpArgs false
open Utf
set_option maxRecDepth 20000
set_option linter.unusedSimpArgs false

theorem fdiv64 (y : Int) (k : Nat) : y.fdiv (2 ^ min k 32) = y / 2 ^ min k 32 := by
  rw [Int.fdiv_eq_ediv_of_nonneg]
  exact Int.le_of_lt (Int.pow_pos (by omega))

theorem bytes_eq (y : Int) (h0 : 0 ≤ y) (h1 : y ≤ 1114111) (out : List Int) :
    (if decide (y < 128) = true then ri .u8 out ++ [[V.v (.int .u8 (IntKind.u8.wrap y))]]
     else if decide (y < 2048) = true then ri .u8 out ++ [[V.v (.int .u8 (IntKind.u8.wrap ↑(BitVec.ofInt 8 192 ||| BitVec.ofInt 8 (IntKind.u8.wrap (y.fdiv (2 ^ min 6 32)))).toNat))],
       [V.v (.int .u8 (IntKind.u8.wrap ↑(BitVec.ofInt 8 128 ||| BitVec.ofInt 8 (IntKind.u8.wrap (IntKind.i32.wrap ↑(BitVec.ofInt 32 y &&& BitVec.ofInt 32 63).toNat))).toNat))]]
     else if decide (y < 65536) = true then ri .u8 out ++ [[V.v (.int .u8 (IntKind.u8.wrap ↑(BitVec.ofInt 8 224 ||| BitVec.ofInt 8 (IntKind.u8.wrap (y.fdiv (2 ^ min 12 32)))).toNat))],
       [V.v (.int .u8 (IntKind.u8.wrap ↑(BitVec.ofInt 8 128 ||| BitVec.ofInt 8 (IntKind.u8.wrap (IntKind.i32.wrap ↑(BitVec.ofInt 32 (y.fdiv (2 ^ min 6 32)) &&& BitVec.ofInt 32 63).toNat))).toNat))],
       [V.v (.int .u8 (IntKind.u8.wrap ↑(BitVec.ofInt 8 128 ||| BitVec.ofInt 8 (IntKind.u8.wrap (IntKind.i32.wrap ↑(BitVec.ofInt 32 y &&& BitVec.ofInt 32 63).toNat))).toNat))]]
     else ri .u8 out ++ [[V.v (.int .u8 (IntKind.u8.wrap ↑(BitVec.ofInt 8 240 ||| BitVec.ofInt 8 (IntKind.u8.wrap (y.fdiv (2 ^ min 18 32)))).toNat))],
       [V.v (.int .u8 (IntKind.u8.wrap ↑(BitVec.ofInt 8 128 ||| BitVec.ofInt 8 (IntKind.u8.wrap (IntKind.i32.wrap ↑(BitVec.ofInt 32 (y.fdiv (2 ^ min 12 32)) &&& BitVec.ofInt 32 63).toNat))).toNat))],
       [V.v (.int .u8 (IntKind.u8.wrap ↑(BitVec.ofInt 8 128 ||| BitVec.ofInt 8 (IntKind.u8.wrap (IntKind.i32.wrap ↑(BitVec.ofInt 32 (y.fdiv (2 ^ min 6 32)) &&& BitVec.ofInt 32 63).toNat))).toNat))],
       [V.v (.int .u8 (IntKind.u8.wrap ↑(BitVec.ofInt 8 128 ||| BitVec.ofInt 8 (IntKind.u8.wrap (IntKind.i32.wrap ↑(BitVec.ofInt 32 y &&& BitVec.ofInt 32 63).toNat))).toNat))]])
    = ri .u8 (out ++ enc y) := by
  have lo6 : ∀ z : Int, 0 ≤ z → z ≤ 1114111 → IntKind.u8.wrap ↑(BitVec.ofInt 8 128 ||| BitVec.ofInt 8 (IntKind.u8.wrap (IntKind.i32.wrap ↑(BitVec.ofInt 32 z &&& BitVec.ofInt 32 63).toNat))).toNat = 128 + z % 64 := by
    intro z z0 z1
    rw [and63 z0 (by omega), wrap_i32 (by omega) (by omega), wrap_u8 (n := z % 64) (by omega) (by omega), o8 (n := 64) (by omega) (by omega) (by omega), wrap_u8 (by omega) (by omega)]
  have e6 : y.fdiv (2 ^ min 6 32) = y / 64 := fdiv64 y 6
  have e12 : y.fdiv (2 ^ min 12 32) = y / 4096 := fdiv64 y 12
  have e18 : y.fdiv (2 ^ min 18 32) = y / 262144 := fdiv64 y 18
  rw [e6, e12, e18, lo6 y h0 h1, lo6 (y / 64) (by omega) (by omega), lo6 (y / 4096) (by omega) (by omega), ← ri_app]
  unfold enc
  by_cases c1 : y < 128
  · simp only [c1, decide_true, if_true, ri_cons, ri_nil]
    rw [wrap_u8 (by omega) (by omega)]
  · by_cases c2 : y < 2048
    · simp only [c1, c2, decide_true, decide_false, if_true, if_false, ri_cons, ri_nil, Bool.false_eq_true]
      rw [wrap_u8 (n := y / 64) (by omega) (by omega), o8 (n := 32) (by omega) (by omega) (by omega), wrap_u8 (by omega) (by omega)]
    · by_cases c3 : y < 65536
      · simp only [c1, c2, c3, decide_true, decide_false, if_true, if_false, ri_cons, ri_nil, Bool.false_eq_true]
        rw [wrap_u8 (n := y / 4096) (by omega) (by omega), o8 (n := 16) (by omega) (by omega) (by omega), wrap_u8 (by omega) (by omega)]
      · simp only [c1, c2, c3, decide_true, decide_false, if_true, if_false, ri_cons, ri_nil, Bool.false_eq_true]
        rw [wrap_u8 (n := y / 262144) (by omega) (by omega), o8 (n := 8) (by omega) (by omega) (by omega), wrap_u8 (by omega) (by omega)]

theorem round12 {lo : Nat} {l out : List Int} {h : Heap} {i : Nat} {x : Int} (hx : l[i]? = some x) (hi : i < l.length) (hl : l.length ≤ 35184372088832) (ho : out.length ≤ 140737488355324) :
   evCode ⟨Try.prog, E, lo, h.length, h12⟩ loopW l12x0 ([(3, .list .yes (ri .u8 out)), (6, .list .no (ri .i32 l)), (7, .v (.int .i64 l.length)), (8, .v (.int .i64 i))], h) =
     some (.normal, [(3, .list .yes (ri .u8 (out ++ enc (scal x)))), (6, .list .no (ri .i32 l)), (7, .v (.int .i64 l.length)), (8, .v (.int .i64 (i + 1 : Nat)))], h) := by
  have hd : decide ((i : Int) < l.length) = true := by simpa using hi
  have hr : ∀ k, k ≤ 4 → (out.length + k) * 1 ≤ 140737488355328 := by intro k hk; omega
  have hq : ∀ k, 9223372036854775800 ≤ k → out.length ≤ k := by intro k hk; omega
  have hw : IntKind.i64.wrap ((i : Int) + 1) = ((i + 1 : Nat) : Int) := wrap_succ (by omega)
  have hs : (if (decide (x < 0) || decide (1114111 < x) || decide (55296 ≤ x) && decide (x ≤ 57343)) = true then 65533 else x) = scal x := rfl
  simp only [go_sem, l12x0, b12, Try.f12, hd, hx, hr, hq, hw, hs]
  have hy := scal_in x
  exact congrArg (fun r => (Ex.normal, (([(3, V.list .yes r), (6, V.list .no (ri .i32 l)), (7, .v (.int .i64 l.length)), (8, .v (.int .i64 (i + 1 : Nat)))] : Env), h))) (bytes_eq (scal x) hy.1 hy.2 out)

theorem loop12 {lo : Nat} {l : List Int} {h : Heap} (hl : l.length ≤ 35184372088832) : ∀ (n i : Nat) (out : List Int), n = l.length - i → i ≤ l.length → out.length ≤ 4 * i →
   loopW (evCode ⟨Try.prog, E, lo, h.length, h12⟩ loopW l12x0) ([(3, .list .yes (ri .u8 out)), (6, .list .no (ri .i32 l)), (7, .v (.int .i64 l.length)), (8, .v (.int .i64 i))], h) =
     some (.exit 0, [(3, .list .yes (ri .u8 (out ++ (l.drop i).flatMap fun x => enc (scal x)))), (6, .list .no (ri .i32 l)), (7, .v (.int .i64 l.length)), (8, .v (.int .i64 l.length)), (9, .v (.bool false))], h) := by
  intro n
  induction n with
  | zero =>
    intro i out hn hi ho
    obtain rfl : i = l.length := by omega
    rw [loop_eq]
    have hd : decide ((l.length : Int) < l.length) = false := by simp
    simp only [go_sem, l12x0, b12, Try.f12, hd, List.drop_length, List.flatMap_nil]
  | succ n ih =>
    intro i out hn hi ho
    have hlt : i < l.length := by omega
    have hx : l[i]? = some l[i] := List.getElem?_eq_getElem hlt
    have he : (enc (scal l[i])).length ≤ 4 := by
      unfold enc
      split
      · simp
      · split
        · simp
        · split <;> simp
    rw [loop_eq, round12 hx hlt hl (by omega), loop_n, ih (i + 1) _ (by omega) (by omega) (by rw [List.length_append]; omega), List.drop_eq_getElem_cons hlt, List.flatMap_cons, List.append_assoc]

/-- utf.Encode -/
theorem f12 {lo : Nat} {l : List Int} {h : Heap} (hl : l.length ≤ 35184372088832) :
    E lo 12 [.list .no (ri .i32 l)] h = some (.list .no (ri .u8 (l.flatMap fun x => enc (scal x))), h) := by
  rw [e12 (by simp) (by rfl)]
  have hL := loop12 (lo := lo) (h := h) hl _ 0 [] rfl (by omega) (by simp)
  simp only [l12x0, b12, Try.f12, loopAt, loops, bodyOf, go_sem, List.drop_zero, ri_nil] at hL
  simp only [go_sem, b12, Try.f12, hL]
end Go.Lift.R1
