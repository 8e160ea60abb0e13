/- UTF-8, both sides; the first of the characters. -/
import Derived.Test.YtnfdhgadidacaaaDoorRb
import Derived.Test.YtnfdhgadidacaaaDoorTa
section
/- The characters' bytes: what the program's Encode computes. -/
open Go.Proofs
namespace Go.Lift.D3
set_option linter.unusedVariables false
set_option linter.unusedSimpArgs false
open Utf
set_option maxRecDepth 20000
set_option linter.unusedSimpArgs false

theorem fdiv64 (y : Int) (k : Nat) : y.fdiv (2 ^ min k 32) = y / 2 ^ min k 32 := by
  rw [Int.fdiv_eq_ediv_of_nonneg]
  exact Int.le_of_lt (Int.pow_pos (by omega))

theorem bytes_eq (y : Int) (h0 : 0 ≤ y) (h1 : y ≤ 1114111) (out : List Int) :
    (if decide (y < 128) = true then ri .u8 out ++ [[V.v (.int .u8 (IntKind.u8.wrap y))]]
     else if decide (y < 2048) = true then ri .u8 out ++ [[V.v (.int .u8 (IntKind.u8.wrap ↑(BitVec.ofInt 8 192 ||| BitVec.ofInt 8 (IntKind.u8.wrap (y.fdiv (2 ^ min 6 32)))).toNat))],
       [V.v (.int .u8 (IntKind.u8.wrap ↑(BitVec.ofInt 8 128 ||| BitVec.ofInt 8 (IntKind.u8.wrap (IntKind.i32.wrap ↑(BitVec.ofInt 32 y &&& BitVec.ofInt 32 63).toNat))).toNat))]]
     else if decide (y < 65536) = true then ri .u8 out ++ [[V.v (.int .u8 (IntKind.u8.wrap ↑(BitVec.ofInt 8 224 ||| BitVec.ofInt 8 (IntKind.u8.wrap (y.fdiv (2 ^ min 12 32)))).toNat))],
       [V.v (.int .u8 (IntKind.u8.wrap ↑(BitVec.ofInt 8 128 ||| BitVec.ofInt 8 (IntKind.u8.wrap (IntKind.i32.wrap ↑(BitVec.ofInt 32 (y.fdiv (2 ^ min 6 32)) &&& BitVec.ofInt 32 63).toNat))).toNat))],
       [V.v (.int .u8 (IntKind.u8.wrap ↑(BitVec.ofInt 8 128 ||| BitVec.ofInt 8 (IntKind.u8.wrap (IntKind.i32.wrap ↑(BitVec.ofInt 32 y &&& BitVec.ofInt 32 63).toNat))).toNat))]]
     else ri .u8 out ++ [[V.v (.int .u8 (IntKind.u8.wrap ↑(BitVec.ofInt 8 240 ||| BitVec.ofInt 8 (IntKind.u8.wrap (y.fdiv (2 ^ min 18 32)))).toNat))],
       [V.v (.int .u8 (IntKind.u8.wrap ↑(BitVec.ofInt 8 128 ||| BitVec.ofInt 8 (IntKind.u8.wrap (IntKind.i32.wrap ↑(BitVec.ofInt 32 (y.fdiv (2 ^ min 12 32)) &&& BitVec.ofInt 32 63).toNat))).toNat))],
       [V.v (.int .u8 (IntKind.u8.wrap ↑(BitVec.ofInt 8 128 ||| BitVec.ofInt 8 (IntKind.u8.wrap (IntKind.i32.wrap ↑(BitVec.ofInt 32 (y.fdiv (2 ^ min 6 32)) &&& BitVec.ofInt 32 63).toNat))).toNat))],
       [V.v (.int .u8 (IntKind.u8.wrap ↑(BitVec.ofInt 8 128 ||| BitVec.ofInt 8 (IntKind.u8.wrap (IntKind.i32.wrap ↑(BitVec.ofInt 32 y &&& BitVec.ofInt 32 63).toNat))).toNat))]])
    = ri .u8 (out ++ enc y) := by
  have lo6 : ∀ z : Int, 0 ≤ z → z ≤ 1114111 → IntKind.u8.wrap ↑(BitVec.ofInt 8 128 ||| BitVec.ofInt 8 (IntKind.u8.wrap (IntKind.i32.wrap ↑(BitVec.ofInt 32 z &&& BitVec.ofInt 32 63).toNat))).toNat = 128 + z % 64 := by
    intro z z0 z1
    rw [and63 z0 (by omega), wrap_i32 (by omega) (by omega), wrap_u8 (n := z % 64) (by omega) (by omega), Utf.o8 (n := 64) (by omega) (by omega) (by omega), wrap_u8 (by omega) (by omega)]
  have e6 : y.fdiv (2 ^ min 6 32) = y / 64 := fdiv64 y 6
  have e40 : y.fdiv (2 ^ min 12 32) = y / 4096 := fdiv64 y 12
  have e18 : y.fdiv (2 ^ min 18 32) = y / 262144 := fdiv64 y 18
  rw [e6, e40, e18, lo6 y h0 h1, lo6 (y / 64) (by omega) (by omega), lo6 (y / 4096) (by omega) (by omega), ← ri_app]
  unfold enc
  by_cases c1 : y < 128
  · simp only [c1, decide_true, if_true, ri_cons, ri_nil]
    rw [wrap_u8 (by omega) (by omega)]
  · by_cases c2 : y < 2048
    · simp only [c1, c2, decide_true, decide_false, if_true, if_false, ri_cons, ri_nil, Bool.false_eq_true]
      rw [wrap_u8 (n := y / 64) (by omega) (by omega), Utf.o8 (n := 32) (by omega) (by omega) (by omega), wrap_u8 (by omega) (by omega)]
    · by_cases c3 : y < 65536
      · simp only [c1, c2, c3, decide_true, decide_false, if_true, if_false, ri_cons, ri_nil, Bool.false_eq_true]
        rw [wrap_u8 (n := y / 4096) (by omega) (by omega), Utf.o8 (n := 16) (by omega) (by omega) (by omega), wrap_u8 (by omega) (by omega)]
      · simp only [c1, c2, c3, decide_true, decide_false, if_true, if_false, ri_cons, ri_nil, Bool.false_eq_true]
        rw [wrap_u8 (n := y / 262144) (by omega) (by omega), Utf.o8 (n := 8) (by omega) (by omega) (by omega), wrap_u8 (by omega) (by omega)]

theorem round40 {lo : Nat} {l out : List Int} {h : Heap} {i : Nat} {x : Int} (hx : l[i]? = some x) (hi : i < l.length) (hl : l.length ≤ 35184372088832) (ho : out.length ≤ 140737488355324) :
   evCode ⟨Tryd.prog, E, lo, h.length, h40⟩ loopW l40x0 ([(3, .list .yes (ri .u8 out)), (6, .list .no (ri .i32 l)), (7, .v (.int .i64 l.length)), (8, .v (.int .i64 i))], h) =
     some (.normal, [(3, .list .yes (ri .u8 (out ++ enc (scal x)))), (6, .list .no (ri .i32 l)), (7, .v (.int .i64 l.length)), (8, .v (.int .i64 (i + 1 : Nat)))], h) := by
  have hd : decide ((i : Int) < l.length) = true := by simpa using hi
  have hr : ∀ k, k ≤ 4 → (out.length + k) * 1 ≤ 140737488355328 := by intro k hk; omega
  have hq : ∀ k, 9223372036854775800 ≤ k → out.length ≤ k := by intro k hk; omega
  have hw : IntKind.i64.wrap ((i : Int) + 1) = ((i + 1 : Nat) : Int) := wrap_succ (by omega)
  have hs : (if (decide (x < 0) || decide (1114111 < x) || decide (55296 ≤ x) && decide (x ≤ 57343)) = true then 65533 else x) = scal x := rfl
  simp only [go_sem, l40x0, b40, Tryd.f40, hd, hx, hr, hq, hw, hs]
  have hy := scal_in x
  exact congrArg (fun r => (Ex.normal, (([(3, V.list .yes r), (6, V.list .no (ri .i32 l)), (7, .v (.int .i64 l.length)), (8, .v (.int .i64 (i + 1 : Nat)))] : Env), h))) (bytes_eq (scal x) hy.1 hy.2 out)

theorem loop40 {lo : Nat} {l : List Int} {h : Heap} (hl : l.length ≤ 35184372088832) : ∀ (n i : Nat) (out : List Int), n = l.length - i → i ≤ l.length → out.length ≤ 4 * i →
   loopW (evCode ⟨Tryd.prog, E, lo, h.length, h40⟩ loopW l40x0) ([(3, .list .yes (ri .u8 out)), (6, .list .no (ri .i32 l)), (7, .v (.int .i64 l.length)), (8, .v (.int .i64 i))], h) =
     some (.exit 0, [(3, .list .yes (ri .u8 (out ++ (l.drop i).flatMap fun x => enc (scal x)))), (6, .list .no (ri .i32 l)), (7, .v (.int .i64 l.length)), (8, .v (.int .i64 l.length)), (9, .v (.bool false))], h) := by
  intro n
  induction n with
  | zero =>
    intro i out hn hi ho
    obtain rfl : i = l.length := by omega
    rw [loop_eq]
    have hd : decide ((l.length : Int) < l.length) = false := by simp
    simp only [go_sem, l40x0, b40, Tryd.f40, hd, List.drop_length, List.flatMap_nil]
  | succ n ih =>
    intro i out hn hi ho
    have hlt : i < l.length := by omega
    have hx : l[i]? = some l[i] := List.getElem?_eq_getElem hlt
    have he : (enc (scal l[i])).length ≤ 4 := by
      unfold enc
      split
      · simp
      · split
        · simp
        · split <;> simp
    rw [loop_eq, round40 hx hlt hl (by omega), loop_n, ih (i + 1) _ (by omega) (by omega) (by rw [List.length_append]; omega), List.drop_eq_getElem_cons hlt, List.flatMap_cons, List.append_assoc]

/-- utf.Encode -/
theorem f40 {lo : Nat} {l : List Int} {h : Heap} (hl : l.length ≤ 35184372088832) :
    E lo 40 [.list .no (ri .i32 l)] h = some (.list .no (ri .u8 (l.flatMap fun x => enc (scal x))), h) := by
  rw [e40 (by simp) (by rfl)]
  have hL := loop40 (lo := lo) (h := h) hl _ 0 [] rfl (by omega) (by simp)
  simp only [l40x0, b40, Tryd.f40, loopAt, loops, bodyOf, go_sem, List.drop_zero, ri_nil] at hL
  simp only [go_sem, b40, Tryd.f40, hL]
end Go.Lift.D3
end

section
/- The characters' bytes: what the reference's Encode computes. -/
open Go.Proofs
namespace Go.Lift.D3
set_option linter.unusedVariables false
set_option linter.unusedSimpArgs false
open Utf
set_option maxRecDepth 20000
set_option linter.unusedSimpArgs false

def isc (x : Int) : Bool := decide (0 ≤ x) && decide (x ≤ 1114111) && (decide (x < 55296) || decide (57343 < x))
theorem isc_scal (x : Int) : (if (!isc x) = true then 65533 else x) = scal x := by
  unfold isc scal
  by_cases a : x < 0 <;> by_cases b : 1114111 < x <;> by_cases c : 55296 ≤ x <;> by_cases d : x ≤ 57343 <;> simp [a, b, c, d] <;> omega

theorem bytes_eq2 (y : Int) (h0 : 0 ≤ y) (h1 : y ≤ 1114111) (out : List Int) :
    (if decide (y < 128) = true then ri .u8 out ++ [[V.v (.int .u8 (IntKind.u8.wrap y))]]
     else if decide (y < 2048) = true then ri .u8 out ++ [[V.v (.int .u8 (IntKind.u8.wrap (IntKind.i32.wrap ↑(BitVec.ofInt 32 192 ||| BitVec.ofInt 32 (y.fdiv (2 ^ min 6 32))).toNat)))],
       [V.v (.int .u8 (IntKind.u8.wrap (IntKind.i32.wrap ↑(BitVec.ofInt 32 128 ||| BitVec.ofInt 32 (IntKind.i32.wrap ↑(BitVec.ofInt 32 y &&& BitVec.ofInt 32 63).toNat)).toNat)))]]
     else if decide (y < 65536) = true then ri .u8 out ++ [[V.v (.int .u8 (IntKind.u8.wrap (IntKind.i32.wrap ↑(BitVec.ofInt 32 224 ||| BitVec.ofInt 32 (y.fdiv (2 ^ min 12 32))).toNat)))],
       [V.v (.int .u8 (IntKind.u8.wrap (IntKind.i32.wrap ↑(BitVec.ofInt 32 128 ||| BitVec.ofInt 32 (IntKind.i32.wrap ↑(BitVec.ofInt 32 (y.fdiv (2 ^ min 6 32)) &&& BitVec.ofInt 32 63).toNat)).toNat)))],
       [V.v (.int .u8 (IntKind.u8.wrap (IntKind.i32.wrap ↑(BitVec.ofInt 32 128 ||| BitVec.ofInt 32 (IntKind.i32.wrap ↑(BitVec.ofInt 32 y &&& BitVec.ofInt 32 63).toNat)).toNat)))]]
     else ri .u8 out ++ [[V.v (.int .u8 (IntKind.u8.wrap (IntKind.i32.wrap ↑(BitVec.ofInt 32 240 ||| BitVec.ofInt 32 (y.fdiv (2 ^ min 18 32))).toNat)))],
       [V.v (.int .u8 (IntKind.u8.wrap (IntKind.i32.wrap ↑(BitVec.ofInt 32 128 ||| BitVec.ofInt 32 (IntKind.i32.wrap ↑(BitVec.ofInt 32 (y.fdiv (2 ^ min 12 32)) &&& BitVec.ofInt 32 63).toNat)).toNat)))],
       [V.v (.int .u8 (IntKind.u8.wrap (IntKind.i32.wrap ↑(BitVec.ofInt 32 128 ||| BitVec.ofInt 32 (IntKind.i32.wrap ↑(BitVec.ofInt 32 (y.fdiv (2 ^ min 6 32)) &&& BitVec.ofInt 32 63).toNat)).toNat)))],
       [V.v (.int .u8 (IntKind.u8.wrap (IntKind.i32.wrap ↑(BitVec.ofInt 32 128 ||| BitVec.ofInt 32 (IntKind.i32.wrap ↑(BitVec.ofInt 32 y &&& BitVec.ofInt 32 63).toNat)).toNat)))]])
    = ri .u8 (out ++ enc y) := by
  have lo6 : ∀ z : Int, 0 ≤ z → z ≤ 1114111 → IntKind.u8.wrap (IntKind.i32.wrap ↑(BitVec.ofInt 32 128 ||| BitVec.ofInt 32 (IntKind.i32.wrap ↑(BitVec.ofInt 32 z &&& BitVec.ofInt 32 63).toNat)).toNat) = 128 + z % 64 := by
    intro z z0 z1
    rw [and63 z0 (by omega), wrap_i32 (n := z % 64) (by omega) (by omega), Utf.o32 (n := 64) (by omega) (by omega) (by omega), wrap_i32 (by omega) (by omega), wrap_u8 (by omega) (by omega)]
  have e6 : y.fdiv (2 ^ min 6 32) = y / 64 := fdiv64 y 6
  have e12 : y.fdiv (2 ^ min 12 32) = y / 4096 := fdiv64 y 12
  have e18 : y.fdiv (2 ^ min 18 32) = y / 262144 := fdiv64 y 18
  rw [e6, e12, e18, lo6 y h0 h1, lo6 (y / 64) (by omega) (by omega), lo6 (y / 4096) (by omega) (by omega), ← ri_app]
  unfold enc
  by_cases c1 : y < 128
  · simp only [c1, decide_true, if_true, ri_cons, ri_nil]
    rw [wrap_u8 (by omega) (by omega)]
  · by_cases c2 : y < 2048
    · simp only [c1, c2, decide_true, decide_false, if_true, if_false, ri_cons, ri_nil, Bool.false_eq_true]
      rw [Utf.o32 (n := 32) (by omega) (by omega) (by omega), wrap_i32 (by omega) (by omega), wrap_u8 (by omega) (by omega)]
    · by_cases c3 : y < 65536
      · simp only [c1, c2, c3, decide_true, decide_false, if_true, if_false, ri_cons, ri_nil, Bool.false_eq_true]
        rw [Utf.o32 (n := 16) (by omega) (by omega) (by omega), wrap_i32 (by omega) (by omega), wrap_u8 (by omega) (by omega)]
      · simp only [c1, c2, c3, decide_true, decide_false, if_true, if_false, ri_cons, ri_nil, Bool.false_eq_true]
        rw [Utf.o32 (n := 8) (by omega) (by omega) (by omega), wrap_i32 (by omega) (by omega), wrap_u8 (by omega) (by omega)]

end Go.Lift.D3
end

section
/- utf.step: what stands in front of the bytes. -/
open Go.Proofs
namespace Go.Lift.D3
set_option linter.unusedVariables false
set_option linter.unusedSimpArgs false
open Utf
set_option maxRecDepth 20000
set_option linter.unusedSimpArgs false

theorem round58 {lo : Nat} {b : List Int} {h : Heap} {i n : Nat} {r low high c : Int} (hc : b[i + 1]? = some c) (hi : i < n) (hn : n ≤ 3) (hb : b.length ≤ 140737488355328) (hl : i + 1 < b.length)
    (c0 : 0 ≤ c) (c1 : c ≤ 255) (r0 : 0 ≤ r) (r1 : r ≤ 1000000) (hx : (decide (c < low) || decide (high < c)) = false) :
   evCode ⟨Tryd.prog, E, lo, h.length, h58⟩ loopW l58x0 ([(0, .list .no (ri .u8 b)), (5, .v (.int .u8 low)), (6, .v (.int .u8 high)), (7, .v (.int .i64 n)), (8, .v (.int .i32 r)), (58, .v (.int .i64 n)), (59, .v (.int .i64 i))], h) =
     some (.normal, [(0, .list .no (ri .u8 b)), (5, .v (.int .u8 128)), (6, .v (.int .u8 191)), (7, .v (.int .i64 n)), (8, .v (.int .i32 (r * 64 + c % 64))), (58, .v (.int .i64 n)), (59, .v (.int .i64 (i + 1 : Nat)))], h) := by
  have hd : decide ((i : Int) < n) = true := by simpa using hi
  have hw : IntKind.i64.wrap ((i : Int) + 1) = ((i + 1 : Nat) : Int) := wrap_succ (by omega)
  have hg : decide ((b.length : Int) ≤ (i + 1 : Nat)) = false := by simp; omega
  have hx1 : decide (c < low) = false := by simp at hx; simp; omega
  have hx2 : decide (high < c) = false := by simp at hx; simp; omega
  simp only [go_sem, l58x0, b58, Tryd.f58, hd, hc, hw, hg, hx1, hx2]
  rw [shl6 r0 r1, a63 c0 c1, wrap_u8 (by omega) (by omega), wrap_i32 (n := c % 64) (by omega) (by omega), or64 r0 r1 (by omega) (by omega), wrap_i32 (by omega) (by omega)]

theorem stop58 {lo : Nat} {b : List Int} {h : Heap} {i n : Nat} {r low high : Int} (hi : i < n) (hn : n ≤ 3) (hb : b.length ≤ 140737488355328)
    (hs : b.length ≤ i + 1 ∨ ∃ c, b[i + 1]? = some c ∧ i + 1 < b.length ∧ (c < low ∨ high < c)) :
   evCode ⟨Tryd.prog, E, lo, h.length, h58⟩ loopW l58x0 ([(0, .list .no (ri .u8 b)), (5, .v (.int .u8 low)), (6, .v (.int .u8 high)), (7, .v (.int .i64 n)), (8, .v (.int .i32 r)), (58, .v (.int .i64 n)), (59, .v (.int .i64 i))], h) =
     some (.ret, [(2, .v (.int .i32 65533)), (3, .v (.int .i64 (i + 1 : Nat)))], h) := by
  have hd : decide ((i : Int) < n) = true := by simpa using hi
  have hw : IntKind.i64.wrap ((i : Int) + 1) = ((i + 1 : Nat) : Int) := wrap_succ (by omega)
  rcases hs with hs | ⟨c, hc, hl, hs⟩
  · have hg : decide ((b.length : Int) ≤ (i + 1 : Nat)) = true := by simp; omega
    have hc : b[i + 1]? = none := List.getElem?_eq_none hs
    simp only [go_sem, l58x0, b58, Tryd.f58, hd, hw, hg, hc]
  · have hg : decide ((b.length : Int) ≤ (i + 1 : Nat)) = false := by simp; omega
    by_cases h1 : c < low
    · have hx1 : decide (c < low) = true := by simp; omega
      simp only [go_sem, l58x0, b58, Tryd.f58, hd, hc, hw, hg, hx1]
    · have hx1 : decide (c < low) = false := by simp; omega
      have hx2 : decide (high < c) = true := by simp; omega
      simp only [go_sem, l58x0, b58, Tryd.f58, hd, hc, hw, hg, hx1, hx2]

/-- how the loop ends -/
def end58 (b : List Int) (n : Nat) (x : Int × Nat × Bool) (h : Heap) (z : Ex × St) : Prop :=
  if x.2.2 = true then ∃ low high, z = (.exit 3, [(0, .list .no (ri .u8 b)), (5, .v (.int .u8 low)), (6, .v (.int .u8 high)), (7, .v (.int .i64 n)), (8, .v (.int .i32 x.1)), (58, .v (.int .i64 n)), (59, .v (.int .i64 n)), (60, .v (.bool false))], h)
  else z = (.ret, [(2, .v (.int .i32 x.1)), (3, .v (.int .i64 x.2.1))], h)

theorem more_snd : ∀ (n : Nat) (r lo hi : Int) (k : Nat) (t : List Int), (more n r lo hi k t).2.2 = true → (more n r lo hi k t).2.1 = k + n
  | 0, _, _, _, _, _, _ => rfl
  | n + 1, r, lo, hi, k, [], h => by simp [more] at h
  | n + 1, r, lo, hi, k, c :: t, h => by
    unfold more at h ⊢
    split at h
    · simp at h
    · rename_i hc
      rw [if_neg hc, more_snd n _ _ _ _ _ h]
      omega

theorem loop58 {lo : Nat} {b : List Int} {h : Heap} {n : Nat} (hn : n ≤ 3) (hb : b.length ≤ 140737488355328) (hy : By b) : ∀ (m i : Nat) (r low high : Int), m = n - i → i ≤ n → 0 ≤ r → (r + 1) * 64 ^ m ≤ 64000000 →
   ∃ z, loopW (evCode ⟨Tryd.prog, E, lo, h.length, h58⟩ loopW l58x0) ([(0, .list .no (ri .u8 b)), (5, .v (.int .u8 low)), (6, .v (.int .u8 high)), (7, .v (.int .i64 n)), (8, .v (.int .i32 r)), (58, .v (.int .i64 n)), (59, .v (.int .i64 i))], h) = some z
     ∧ end58 b n (more m r low high (i + 1) (b.drop (i + 1))) h z := by
  intro m
  induction m with
  | zero =>
    intro i r low high hm hi h0 h1
    obtain rfl : i = n := by omega
    have hd : decide ((i : Int) < i) = false := by simp
    rw [loop_eq]
    simp only [go_sem, l58x0, b58, Tryd.f58, hd]
    exact ⟨_, rfl, low, high, rfl⟩
  | succ m ih =>
    intro i r low high hm hi h0 h1
    have hlt : i < n := by omega
    rw [loop_eq]
    by_cases hl : i + 1 < b.length
    · have hc : b[i + 1]? = some b[i + 1] := List.getElem?_eq_getElem hl
      have hcy := hy b[i + 1] (List.getElem_mem hl)
      rw [List.drop_eq_getElem_cons hl]
      by_cases hx : b[i + 1] < low ∨ high < b[i + 1]
      · rw [stop58 hlt hn hb (.inr ⟨_, hc, hl, hx⟩), loop_r]
        exact ⟨_, rfl, by simp only [more, if_pos hx]; rfl⟩
      · rw [Int.pow_succ] at h1
        have hp : (1 : Int) ≤ 64 ^ m := Int.pow_pos (by omega)
        have hr : (r + 1) * 64 * 64 ^ m = (r + 1) * (64 ^ m * 64) := by rw [Int.mul_assoc, Int.mul_comm 64]
        have h2 : (r + 1) * 64 * 1 ≤ (r + 1) * 64 * 64 ^ m := Int.mul_le_mul_of_nonneg_left hp (by omega)
        have h3 : (r * 64 + b[i + 1] % 64 + 1) * 64 ^ m ≤ (r + 1) * 64 * 64 ^ m := Int.mul_le_mul_of_nonneg_right (by omega) (by omega)
        rw [round58 hc hlt hn hb hl hcy.1 hcy.2 h0 (by omega) (by simp; omega), loop_n]
        have := ih (i + 1) (r * 64 + b[i + 1] % 64) 128 191 (by omega) (by omega) (by omega) (by omega)
        simpa only [more, if_neg hx] using this
    · have hs : b.length ≤ i + 1 := by omega
      rw [stop58 hlt hn hb (.inl hs), loop_r, List.drop_eq_nil_of_le hs]
      exact ⟨_, rfl, rfl⟩
end Go.Lift.D3
end

section
/- utf.step by the classes of the first byte. Written by u5.py. -/
open Go.Proofs
namespace Go.Lift.D3
open Utf
set_option maxRecDepth 20000
set_option linter.unusedSimpArgs false
set_option linter.unusedVariables false

/-- the answer as the program hands it on -/
def two (x : Int × Nat × Bool) : V := .tup [.v (.int .i32 x.1), .v (.int .i64 x.2.1)]

theorem f58a {lo : Nat} {c : Int} {t : List Int} {h : Heap} (hb : (c :: t).length ≤ 140737488355328) (hy : By (c :: t)) (hc : 194 ≤ c ∧ c ≤ 223) :
    E lo 58 [.list .no (ri .u8 (c :: t))] h = some (two (more 1 (c % 32) 128 191 1 t), h) := by
  have hcy := hy c (List.mem_cons_self ..)
  have t0 : decide (c < 128) = false := by simp; omega
  have t1 : decide (194 ≤ c) = true := by simp; omega
  have t2 : decide (c ≤ 223) = true := by simp; omega
  have t3 : decide (224 ≤ c) = false := by simp; omega
  have t4 : decide (c ≤ 239) = true := by simp; omega
  have t5 : decide (240 ≤ c) = false := by simp; omega
  have t6 : decide (c ≤ 244) = true := by simp; omega
  have q0 : (c == 224) = false := by simp; omega
  have q1 : (c == 237) = false := by simp; omega
  have q2 : (c == 240) = false := by simp; omega
  have q3 : (c == 244) = false := by simp; omega
  have hx : (c :: t)[0]? = some c := rfl
  have hm : IntKind.i32.wrap (IntKind.u8.wrap (iand .u8 c 31)) = c % 32 := by rw [a31 hcy.1 hcy.2, wrap_u8 (by omega) (by omega), wrap_i32 (by omega) (by omega)]
  obtain ⟨z, hL, hz⟩ := loop58 (lo := lo) (b := c :: t) (h := h) (n := 1) (by omega) hb hy 1 0 (c % 32) 128 191 rfl (by omega) (by omega) (by omega)
  have hn : (c :: t).drop (0 + 1) = t := rfl
  rw [hn] at hz
  have n1 : ((1 : Nat) : Int) = 1 := rfl
  have n2 : ((2 : Nat) : Int) = 2 := rfl
  have n3 : ((3 : Nat) : Int) = 3 := rfl
  simp only [l58x0, b58, Tryd.f58, loopAt, loops, bodyOf, go_sem, n1, n2, n3] at hL
  rw [e58 (by simp) (by rfl)]
  unfold end58 at hz
  split at hz
  · rename_i hk
    obtain ⟨low, high, rfl⟩ := hz
    simp only [n1, n2, n3] at hL
    simp only [go_sem, b58, Tryd.f58, hx, t0, t1, t2, t3, t4, t5, t6, q0, q1, q2, q3, hm, hL]
    rw [two, more_snd _ _ _ _ _ _ hk]
    rfl
  · subst hz
    simp only [go_sem, b58, Tryd.f58, hx, t0, t1, t2, t3, t4, t5, t6, q0, q1, q2, q3, hm, hL]
    rfl

theorem f58b {lo : Nat} {c : Int} {t : List Int} {h : Heap} (hb : (c :: t).length ≤ 140737488355328) (hy : By (c :: t)) (hc : c = 224) :
    E lo 58 [.list .no (ri .u8 (c :: t))] h = some (two (more 2 (c % 16) 160 191 1 t), h) := by
  have hcy := hy c (List.mem_cons_self ..)
  have t0 : decide (c < 128) = false := by simp; omega
  have t1 : decide (194 ≤ c) = true := by simp; omega
  have t2 : decide (c ≤ 223) = false := by simp; omega
  have t3 : decide (224 ≤ c) = true := by simp; omega
  have t4 : decide (c ≤ 239) = true := by simp; omega
  have t5 : decide (240 ≤ c) = false := by simp; omega
  have t6 : decide (c ≤ 244) = true := by simp; omega
  have q0 : (c == 224) = true := by simp; omega
  have q1 : (c == 237) = false := by simp; omega
  have q2 : (c == 240) = false := by simp; omega
  have q3 : (c == 244) = false := by simp; omega
  have hx : (c :: t)[0]? = some c := rfl
  have hm : IntKind.i32.wrap (IntKind.u8.wrap (iand .u8 c 15)) = c % 16 := by rw [a15 hcy.1 hcy.2, wrap_u8 (by omega) (by omega), wrap_i32 (by omega) (by omega)]
  obtain ⟨z, hL, hz⟩ := loop58 (lo := lo) (b := c :: t) (h := h) (n := 2) (by omega) hb hy 2 0 (c % 16) 160 191 rfl (by omega) (by omega) (by omega)
  have hn : (c :: t).drop (0 + 1) = t := rfl
  rw [hn] at hz
  have n1 : ((1 : Nat) : Int) = 1 := rfl
  have n2 : ((2 : Nat) : Int) = 2 := rfl
  have n3 : ((3 : Nat) : Int) = 3 := rfl
  simp only [l58x0, b58, Tryd.f58, loopAt, loops, bodyOf, go_sem, n1, n2, n3] at hL
  rw [e58 (by simp) (by rfl)]
  unfold end58 at hz
  split at hz
  · rename_i hk
    obtain ⟨low, high, rfl⟩ := hz
    simp only [n1, n2, n3] at hL
    simp only [go_sem, b58, Tryd.f58, hx, t0, t1, t2, t3, t4, t5, t6, q0, q1, q2, q3, hm, hL]
    rw [two, more_snd _ _ _ _ _ _ hk]
    rfl
  · subst hz
    simp only [go_sem, b58, Tryd.f58, hx, t0, t1, t2, t3, t4, t5, t6, q0, q1, q2, q3, hm, hL]
    rfl

theorem f58c {lo : Nat} {c : Int} {t : List Int} {h : Heap} (hb : (c :: t).length ≤ 140737488355328) (hy : By (c :: t)) (hc : c = 237) :
    E lo 58 [.list .no (ri .u8 (c :: t))] h = some (two (more 2 (c % 16) 128 159 1 t), h) := by
  have hcy := hy c (List.mem_cons_self ..)
  have t0 : decide (c < 128) = false := by simp; omega
  have t1 : decide (194 ≤ c) = true := by simp; omega
  have t2 : decide (c ≤ 223) = false := by simp; omega
  have t3 : decide (224 ≤ c) = true := by simp; omega
  have t4 : decide (c ≤ 239) = true := by simp; omega
  have t5 : decide (240 ≤ c) = false := by simp; omega
  have t6 : decide (c ≤ 244) = true := by simp; omega
  have q0 : (c == 224) = false := by simp; omega
  have q1 : (c == 237) = true := by simp; omega
  have q2 : (c == 240) = false := by simp; omega
  have q3 : (c == 244) = false := by simp; omega
  have hx : (c :: t)[0]? = some c := rfl
  have hm : IntKind.i32.wrap (IntKind.u8.wrap (iand .u8 c 15)) = c % 16 := by rw [a15 hcy.1 hcy.2, wrap_u8 (by omega) (by omega), wrap_i32 (by omega) (by omega)]
  obtain ⟨z, hL, hz⟩ := loop58 (lo := lo) (b := c :: t) (h := h) (n := 2) (by omega) hb hy 2 0 (c % 16) 128 159 rfl (by omega) (by omega) (by omega)
  have hn : (c :: t).drop (0 + 1) = t := rfl
  rw [hn] at hz
  have n1 : ((1 : Nat) : Int) = 1 := rfl
  have n2 : ((2 : Nat) : Int) = 2 := rfl
  have n3 : ((3 : Nat) : Int) = 3 := rfl
  simp only [l58x0, b58, Tryd.f58, loopAt, loops, bodyOf, go_sem, n1, n2, n3] at hL
  rw [e58 (by simp) (by rfl)]
  unfold end58 at hz
  split at hz
  · rename_i hk
    obtain ⟨low, high, rfl⟩ := hz
    simp only [n1, n2, n3] at hL
    simp only [go_sem, b58, Tryd.f58, hx, t0, t1, t2, t3, t4, t5, t6, q0, q1, q2, q3, hm, hL]
    rw [two, more_snd _ _ _ _ _ _ hk]
    rfl
  · subst hz
    simp only [go_sem, b58, Tryd.f58, hx, t0, t1, t2, t3, t4, t5, t6, q0, q1, q2, q3, hm, hL]
    rfl

theorem f58d {lo : Nat} {c : Int} {t : List Int} {h : Heap} (hb : (c :: t).length ≤ 140737488355328) (hy : By (c :: t)) (hc : 225 ≤ c ∧ c ≤ 239 ∧ c ≠ 237) :
    E lo 58 [.list .no (ri .u8 (c :: t))] h = some (two (more 2 (c % 16) 128 191 1 t), h) := by
  have hcy := hy c (List.mem_cons_self ..)
  have t0 : decide (c < 128) = false := by simp; omega
  have t1 : decide (194 ≤ c) = true := by simp; omega
  have t2 : decide (c ≤ 223) = false := by simp; omega
  have t3 : decide (224 ≤ c) = true := by simp; omega
  have t4 : decide (c ≤ 239) = true := by simp; omega
  have t5 : decide (240 ≤ c) = false := by simp; omega
  have t6 : decide (c ≤ 244) = true := by simp; omega
  have q0 : (c == 224) = false := by simp; omega
  have q1 : (c == 237) = false := by simp; omega
  have q2 : (c == 240) = false := by simp; omega
  have q3 : (c == 244) = false := by simp; omega
  have hx : (c :: t)[0]? = some c := rfl
  have hm : IntKind.i32.wrap (IntKind.u8.wrap (iand .u8 c 15)) = c % 16 := by rw [a15 hcy.1 hcy.2, wrap_u8 (by omega) (by omega), wrap_i32 (by omega) (by omega)]
  obtain ⟨z, hL, hz⟩ := loop58 (lo := lo) (b := c :: t) (h := h) (n := 2) (by omega) hb hy 2 0 (c % 16) 128 191 rfl (by omega) (by omega) (by omega)
  have hn : (c :: t).drop (0 + 1) = t := rfl
  rw [hn] at hz
  have n1 : ((1 : Nat) : Int) = 1 := rfl
  have n2 : ((2 : Nat) : Int) = 2 := rfl
  have n3 : ((3 : Nat) : Int) = 3 := rfl
  simp only [l58x0, b58, Tryd.f58, loopAt, loops, bodyOf, go_sem, n1, n2, n3] at hL
  rw [e58 (by simp) (by rfl)]
  unfold end58 at hz
  split at hz
  · rename_i hk
    obtain ⟨low, high, rfl⟩ := hz
    simp only [n1, n2, n3] at hL
    simp only [go_sem, b58, Tryd.f58, hx, t0, t1, t2, t3, t4, t5, t6, q0, q1, q2, q3, hm, hL]
    rw [two, more_snd _ _ _ _ _ _ hk]
    rfl
  · subst hz
    simp only [go_sem, b58, Tryd.f58, hx, t0, t1, t2, t3, t4, t5, t6, q0, q1, q2, q3, hm, hL]
    rfl

theorem f58e {lo : Nat} {c : Int} {t : List Int} {h : Heap} (hb : (c :: t).length ≤ 140737488355328) (hy : By (c :: t)) (hc : c = 240) :
    E lo 58 [.list .no (ri .u8 (c :: t))] h = some (two (more 3 (c % 8) 144 191 1 t), h) := by
  have hcy := hy c (List.mem_cons_self ..)
  have t0 : decide (c < 128) = false := by simp; omega
  have t1 : decide (194 ≤ c) = true := by simp; omega
  have t2 : decide (c ≤ 223) = false := by simp; omega
  have t3 : decide (224 ≤ c) = true := by simp; omega
  have t4 : decide (c ≤ 239) = false := by simp; omega
  have t5 : decide (240 ≤ c) = true := by simp; omega
  have t6 : decide (c ≤ 244) = true := by simp; omega
  have q0 : (c == 224) = false := by simp; omega
  have q1 : (c == 237) = false := by simp; omega
  have q2 : (c == 240) = true := by simp; omega
  have q3 : (c == 244) = false := by simp; omega
  have hx : (c :: t)[0]? = some c := rfl
  have hm : IntKind.i32.wrap (IntKind.u8.wrap (iand .u8 c 7)) = c % 8 := by rw [a7 hcy.1 hcy.2, wrap_u8 (by omega) (by omega), wrap_i32 (by omega) (by omega)]
  obtain ⟨z, hL, hz⟩ := loop58 (lo := lo) (b := c :: t) (h := h) (n := 3) (by omega) hb hy 3 0 (c % 8) 144 191 rfl (by omega) (by omega) (by omega)
  have hn : (c :: t).drop (0 + 1) = t := rfl
  rw [hn] at hz
  have n1 : ((1 : Nat) : Int) = 1 := rfl
  have n2 : ((2 : Nat) : Int) = 2 := rfl
  have n3 : ((3 : Nat) : Int) = 3 := rfl
  simp only [l58x0, b58, Tryd.f58, loopAt, loops, bodyOf, go_sem, n1, n2, n3] at hL
  rw [e58 (by simp) (by rfl)]
  unfold end58 at hz
  split at hz
  · rename_i hk
    obtain ⟨low, high, rfl⟩ := hz
    simp only [n1, n2, n3] at hL
    simp only [go_sem, b58, Tryd.f58, hx, t0, t1, t2, t3, t4, t5, t6, q0, q1, q2, q3, hm, hL]
    rw [two, more_snd _ _ _ _ _ _ hk]
    rfl
  · subst hz
    simp only [go_sem, b58, Tryd.f58, hx, t0, t1, t2, t3, t4, t5, t6, q0, q1, q2, q3, hm, hL]
    rfl

theorem f58f {lo : Nat} {c : Int} {t : List Int} {h : Heap} (hb : (c :: t).length ≤ 140737488355328) (hy : By (c :: t)) (hc : 241 ≤ c ∧ c ≤ 243) :
    E lo 58 [.list .no (ri .u8 (c :: t))] h = some (two (more 3 (c % 8) 128 191 1 t), h) := by
  have hcy := hy c (List.mem_cons_self ..)
  have t0 : decide (c < 128) = false := by simp; omega
  have t1 : decide (194 ≤ c) = true := by simp; omega
  have t2 : decide (c ≤ 223) = false := by simp; omega
  have t3 : decide (224 ≤ c) = true := by simp; omega
  have t4 : decide (c ≤ 239) = false := by simp; omega
  have t5 : decide (240 ≤ c) = true := by simp; omega
  have t6 : decide (c ≤ 244) = true := by simp; omega
  have q0 : (c == 224) = false := by simp; omega
  have q1 : (c == 237) = false := by simp; omega
  have q2 : (c == 240) = false := by simp; omega
  have q3 : (c == 244) = false := by simp; omega
  have hx : (c :: t)[0]? = some c := rfl
  have hm : IntKind.i32.wrap (IntKind.u8.wrap (iand .u8 c 7)) = c % 8 := by rw [a7 hcy.1 hcy.2, wrap_u8 (by omega) (by omega), wrap_i32 (by omega) (by omega)]
  obtain ⟨z, hL, hz⟩ := loop58 (lo := lo) (b := c :: t) (h := h) (n := 3) (by omega) hb hy 3 0 (c % 8) 128 191 rfl (by omega) (by omega) (by omega)
  have hn : (c :: t).drop (0 + 1) = t := rfl
  rw [hn] at hz
  have n1 : ((1 : Nat) : Int) = 1 := rfl
  have n2 : ((2 : Nat) : Int) = 2 := rfl
  have n3 : ((3 : Nat) : Int) = 3 := rfl
  simp only [l58x0, b58, Tryd.f58, loopAt, loops, bodyOf, go_sem, n1, n2, n3] at hL
  rw [e58 (by simp) (by rfl)]
  unfold end58 at hz
  split at hz
  · rename_i hk
    obtain ⟨low, high, rfl⟩ := hz
    simp only [n1, n2, n3] at hL
    simp only [go_sem, b58, Tryd.f58, hx, t0, t1, t2, t3, t4, t5, t6, q0, q1, q2, q3, hm, hL]
    rw [two, more_snd _ _ _ _ _ _ hk]
    rfl
  · subst hz
    simp only [go_sem, b58, Tryd.f58, hx, t0, t1, t2, t3, t4, t5, t6, q0, q1, q2, q3, hm, hL]
    rfl

theorem f58g {lo : Nat} {c : Int} {t : List Int} {h : Heap} (hb : (c :: t).length ≤ 140737488355328) (hy : By (c :: t)) (hc : c = 244) :
    E lo 58 [.list .no (ri .u8 (c :: t))] h = some (two (more 3 (c % 8) 128 143 1 t), h) := by
  have hcy := hy c (List.mem_cons_self ..)
  have t0 : decide (c < 128) = false := by simp; omega
  have t1 : decide (194 ≤ c) = true := by simp; omega
  have t2 : decide (c ≤ 223) = false := by simp; omega
  have t3 : decide (224 ≤ c) = true := by simp; omega
  have t4 : decide (c ≤ 239) = false := by simp; omega
  have t5 : decide (240 ≤ c) = true := by simp; omega
  have t6 : decide (c ≤ 244) = true := by simp; omega
  have q0 : (c == 224) = false := by simp; omega
  have q1 : (c == 237) = false := by simp; omega
  have q2 : (c == 240) = false := by simp; omega
  have q3 : (c == 244) = true := by simp; omega
  have hx : (c :: t)[0]? = some c := rfl
  have hm : IntKind.i32.wrap (IntKind.u8.wrap (iand .u8 c 7)) = c % 8 := by rw [a7 hcy.1 hcy.2, wrap_u8 (by omega) (by omega), wrap_i32 (by omega) (by omega)]
  obtain ⟨z, hL, hz⟩ := loop58 (lo := lo) (b := c :: t) (h := h) (n := 3) (by omega) hb hy 3 0 (c % 8) 128 143 rfl (by omega) (by omega) (by omega)
  have hn : (c :: t).drop (0 + 1) = t := rfl
  rw [hn] at hz
  have n1 : ((1 : Nat) : Int) = 1 := rfl
  have n2 : ((2 : Nat) : Int) = 2 := rfl
  have n3 : ((3 : Nat) : Int) = 3 := rfl
  simp only [l58x0, b58, Tryd.f58, loopAt, loops, bodyOf, go_sem, n1, n2, n3] at hL
  rw [e58 (by simp) (by rfl)]
  unfold end58 at hz
  split at hz
  · rename_i hk
    obtain ⟨low, high, rfl⟩ := hz
    simp only [n1, n2, n3] at hL
    simp only [go_sem, b58, Tryd.f58, hx, t0, t1, t2, t3, t4, t5, t6, q0, q1, q2, q3, hm, hL]
    rw [two, more_snd _ _ _ _ _ _ hk]
    rfl
  · subst hz
    simp only [go_sem, b58, Tryd.f58, hx, t0, t1, t2, t3, t4, t5, t6, q0, q1, q2, q3, hm, hL]
    rfl

end Go.Lift.D3
end

section
/- utf.step, jalousieref2.need. -/
open Go.Proofs
namespace Go.Lift.D3
open Utf
set_option maxRecDepth 20000
set_option linter.unusedSimpArgs false
set_option linter.unusedVariables false

theorem f58 {lo : Nat} {c : Int} {t : List Int} {h : Heap} (hb : (c :: t).length ≤ 140737488355328) (hy : By (c :: t)) :
    E lo 58 [.list .no (ri .u8 (c :: t))] h = some (two (one (c :: t)), h) := by
  have hcy := hy c (List.mem_cons_self ..)
  have hx : (c :: t)[0]? = some c := rfl
  simp only [one]
  by_cases h0 : c < 128
  · rw [if_pos h0]
    have t0 : decide (c < 128) = true := by simp; omega
    have hm : IntKind.i32.wrap c = c := wrap_i32 (by omega) (by omega)
    rw [e58 (by simp) (by rfl)]
    simp only [go_sem, b58, Tryd.f58, hx, t0, hm]
    rfl
  · rw [if_neg h0]
    by_cases ha : 194 ≤ c ∧ c ≤ 223
    · have e : nd c = (1, 128, 191) := by unfold nd; rw [if_pos ha]
      rw [f58a hb hy ha, e]
      rfl
    by_cases hb1 : c = 224
    · have e : nd c = (2, 160, 191) := by unfold nd; rw [if_neg ha, if_pos hb1]
      rw [f58b hb hy hb1, e]
      rfl
    by_cases hc1 : c = 237
    · have e : nd c = (2, 128, 159) := by unfold nd; rw [if_neg ha, if_neg hb1, if_pos hc1]
      rw [f58c hb hy hc1, e]
      rfl
    by_cases hd1 : 225 ≤ c ∧ c ≤ 239
    · have e : nd c = (2, 128, 191) := by unfold nd; rw [if_neg ha, if_neg hb1, if_neg hc1, if_pos hd1]
      rw [f58d hb hy ⟨hd1.1, hd1.2, hc1⟩, e]
      rfl
    by_cases he1 : c = 240
    · have e : nd c = (3, 144, 191) := by unfold nd; rw [if_neg ha, if_neg hb1, if_neg hc1, if_neg hd1, if_pos he1]
      rw [f58e hb hy he1, e]
      rfl
    by_cases hf1 : 241 ≤ c ∧ c ≤ 243
    · have e : nd c = (3, 128, 191) := by unfold nd; rw [if_neg ha, if_neg hb1, if_neg hc1, if_neg hd1, if_neg he1, if_pos hf1]
      rw [f58f hb hy hf1, e]
      rfl
    by_cases hg1 : c = 244
    · have e : nd c = (3, 128, 143) := by unfold nd; rw [if_neg ha, if_neg hb1, if_neg hc1, if_neg hd1, if_neg he1, if_neg hf1, if_pos hg1]
      rw [f58g hb hy hg1, e]
      rfl
    have e : nd c = (0, 0, 0) := by unfold nd; rw [if_neg ha, if_neg hb1, if_neg hc1, if_neg hd1, if_neg he1, if_neg hf1, if_neg hg1]
    rw [e, if_pos rfl]
    have t0 : decide (c < 128) = false := by simp; omega
    have t1 : (decide (194 ≤ c) && decide (c ≤ 223)) = false := by simp; omega
    have t2 : (decide (224 ≤ c) && decide (c ≤ 239)) = false := by simp; omega
    have t3 : (decide (240 ≤ c) && decide (c ≤ 244)) = false := by simp; omega
    rw [e58 (by simp) (by rfl)]
    simp only [go_sem, b58, Tryd.f58, hx, t0, t1, t2, t3]
    rfl

end Go.Lift.D3
end

section
/- jalousieref2.one. -/
open Go.Proofs
namespace Go.Lift.D3
open Utf
set_option maxRecDepth 20000
set_option linter.unusedSimpArgs false
set_option linter.unusedVariables false

/-- how the loop ends -/
def end124 (b : List Int) (i n : Nat) (x : Int × Nat × Bool) (h : Heap) (z : Ex × St) : Prop :=
  if x.2.2 = true then ∃ low high, z = (.exit 0, [(0, .list .no (ri .u8 b)), (1, .v (.int .i64 i)), (8, .v (.int .i64 n)), (9, .v (.int .u8 low)), (10, .v (.int .u8 high)), (11, .v (.int .i32 x.1)), (12, .v (.int .i64 (n + 1 : Nat))), (37, .v (.bool false))], h)
  else z = (.ret, [(4, .v (.int .i32 x.1)), (5, .v (.int .i64 x.2.1)), (6, .v (.bool false))], h)

/-- the answer as the reference hands it on -/
def three (x : Int × Nat × Bool) : V := .tup [.v (.int .i32 x.1), .v (.int .i64 x.2.1), .v (.bool x.2.2)]

end Go.Lift.D3
end

section
/- utf.Raw, jalousieref2.Raw: bytes to characters. -/
open Go.Proofs
namespace Go.Lift.D3
open Utf
set_option maxRecDepth 20000
set_option linter.unusedSimpArgs false
set_option linter.unusedVariables false

theorem f58n {lo : Nat} {b : List Int} {h : Heap} (hn : b ≠ []) (hb : b.length ≤ 140737488355328) (hy : By b) : E lo 58 [.list .no (ri .u8 b)] h = some (two (one b), h) := by
  cases b with
  | nil => exact absurd rfl hn
  | cons c t => exact f58 hb hy
theorem round42 {lo : Nat} {b out : List Int} {h : Heap} (hn : b ≠ []) (hb : b.length ≤ 1000000000) (ho : out.length ≤ 1000000000) (hy : By b) :
   evCode ⟨Tryd.prog, E, lo, h.length, h42⟩ loopW l42x0 ([(0, .list .no (ri .u8 b)), (3, .list .yes (ri .i32 out))], h) =
     some (.normal, [(0, .list .no (ri .u8 (b.drop (one b).2.1))), (3, .list .yes (ri .i32 (out ++ [(one b).1])))], h) := by
  have hl : 0 < b.length := List.length_pos_iff.mpr hn
  have hd : decide ((0 : Int) < b.length) = true := by simpa using hl
  have hr : ∀ k, k ≤ 4 → (out.length + k) * 4 ≤ 140737488355328 := by intro k hk; omega
  have hq : ∀ k, 9223372036854775800 ≤ k → out.length ≤ k := by intro k hk; omega
  have hk := (one_b hn).2.2
  have hs : 0 ≤ ((one b).2.1 : Int) := by omega
  have e1 : ri .i32 (out ++ [(one b).1]) = ri .i32 out ++ [[V.v (.int .i32 (one b).1)]] := by rw [← ri_app]; rfl
  simp only [go_sem, l42x0, b42, Tryd.f42, hd, f58n hn (by omega) hy, two, hr, hq, hs, hk, Nat.le_refl, ri_drop, ri_take, Int.toNat_natCast, and_self, e1]

theorem loop42 {lo : Nat} {h : Heap} : ∀ (n : Nat) (b out : List Int), b.length ≤ n → b.length ≤ 1000000000 → By b → out.length + b.length ≤ 1000000000 →
   loopW (evCode ⟨Tryd.prog, E, lo, h.length, h42⟩ loopW l42x0) ([(0, .list .no (ri .u8 b)), (3, .list .yes (ri .i32 out))], h) =
     some (.exit 0, [(0, .list .no []), (3, .list .yes (ri .i32 (out ++ raw b))), (8, .v (.bool false))], h) := by
  intro n
  induction n with
  | zero =>
    intro b out h1 h2 hy h3
    obtain rfl : b = [] := List.eq_nil_of_length_eq_zero (by omega)
    rw [loop_eq]
    simp only [go_sem, l42x0, b42, Tryd.f42, raw_nil, ri_nil, List.length_nil]
    all_goals rfl
  | succ n ih =>
    intro b out h1 h2 hy h3
    by_cases hn : b = []
    · subst hn
      rw [loop_eq]
      simp only [go_sem, l42x0, b42, Tryd.f42, raw_nil, ri_nil, List.length_nil]
      all_goals rfl
    · have hl : 0 < b.length := List.length_pos_iff.mpr hn
      have hk := one_b hn
      have hlen : (b.drop (one b).2.1).length = b.length - (one b).2.1 := List.length_drop
      rw [loop_eq, round42 hn h2 (by omega) hy, loop_n, ih _ _ (by omega) (by omega) (hy.drop _) (by rw [List.length_append, List.length_singleton]; omega), raw_b hn, List.append_assoc]
      rfl

/-- utf.Raw -/
theorem f42 {lo : Nat} {b : List Int} {h : Heap} (hb : b.length ≤ 1000000000) (hy : By b) : E lo 42 [.list .no (ri .u8 b)] h = some (.list .no (ri .i32 (raw b)), h) := by
  rw [e42 (by simp) (by rfl)]
  have hL := loop42 (lo := lo) (h := h) b.length b [] (Nat.le_refl _) hb hy (by simpa using hb)
  simp only [l42x0, b42, Tryd.f42, loopAt, loops, bodyOf, go_sem, ri_nil] at hL
  simp only [go_sem, b42, Tryd.f42, hL]

end Go.Lift.D3
end

section
/- utf.Decode, jalousieref2.Decode: bytes as a stylesheet's. -/
open Go.Proofs
namespace Go.Lift.D3
open Utf
set_option maxRecDepth 20000
set_option linter.unusedSimpArgs false
set_option linter.unusedVariables false

theorem dstep_len (back : Bool) (x : Int) : (dstep back x).length ≤ 1 := by
  unfold dstep
  split <;> simp

theorem round18 {lo i : Nat} {l out : List Int} {h : Heap} {x : Int} {back : Bool} (hx : l[i]? = some x) (hi : i < l.length) (hl : l.length ≤ 1000000000) (ho : out.length ≤ 1000000000) :
   evCode ⟨Tryd.prog, E, lo, h.length, h18⟩ loopW l18x0 ([(3, .list .yes (ri .i32 out)), (4, .v (.bool back)), (32, .list .no (ri .i32 l)), (33, .v (.int .i64 l.length)), (34, .v (.int .i64 i))], h) =
     some (.normal, [(3, .list .yes (ri .i32 (out ++ dstep back x))), (4, .v (.bool (x == 13))), (32, .list .no (ri .i32 l)), (33, .v (.int .i64 l.length)), (34, .v (.int .i64 (i + 1 : Nat)))], h) := by
  have hd : decide ((i : Int) < l.length) = true := by simpa using hi
  have hr : ∀ k, k ≤ 4 → (out.length + k) * 4 ≤ 140737488355328 := by intro k hk; omega
  have hq : ∀ k, 9223372036854775800 ≤ k → out.length ≤ k := by intro k hk; omega
  have hw : IntKind.i64.wrap ((i : Int) + 1) = ((i + 1 : Nat) : Int) := wrap_succ (by omega)
  have app : ∀ y : Int, ri .i32 (out ++ [y]) = ri .i32 out ++ [[V.v (.int .i32 y)]] := by intro y; rw [← ri_app]; rfl
  by_cases h10 : x = 10
  · subst h10
    have e13 : ((10 : Int) == 13) = false := rfl
    have e10 : ((10 : Int) == 10) = true := rfl
    cases back with
    | true =>
      have ed : dstep true 10 = [] := rfl
      simp only [go_sem, l18x0, b18, Tryd.f18, hd, hx, hr, hq, hw, ed, e13, e10, List.append_nil]
    | false =>
      have ed : dstep false 10 = [10] := rfl
      simp only [go_sem, l18x0, b18, Tryd.f18, hd, hx, hr, hq, hw, ed, e13, e10, app]
  have e10 : (x == 10) = false := by simp [h10]
  by_cases h13 : x = 13
  · subst h13
    have e13 : ((13 : Int) == 13) = true := rfl
    have ed : dstep back 13 = [10] := rfl
    simp only [go_sem, l18x0, b18, Tryd.f18, hd, hx, hr, hq, hw, ed, e13, e10, app]
  have e13 : (x == 13) = false := by simp [h13]
  by_cases h12 : x = 12
  · subst h12
    have e12 : ((12 : Int) == 12) = true := rfl
    have ed : dstep back 12 = [10] := rfl
    simp only [go_sem, l18x0, b18, Tryd.f18, hd, hx, hr, hq, hw, ed, e13, e10, e12, app]
  have e12 : (x == 12) = false := by simp [h12]
  by_cases h0 : x = 0
  · subst h0
    have e0 : ((0 : Int) == 0) = true := rfl
    have ed : dstep back 0 = [65533] := rfl
    simp only [go_sem, l18x0, b18, Tryd.f18, hd, hx, hr, hq, hw, ed, e13, e10, e12, e0, app]
  have e0 : (x == 0) = false := by simp [h0]
  have ed : dstep back x = [x] := by simp [dstep, e10, e13, e12, e0]
  simp only [go_sem, l18x0, b18, Tryd.f18, hd, hx, hr, hq, hw, ed, e13, e10, e12, e0, app]

theorem loop18 {lo : Nat} {l : List Int} {h : Heap} (hl : l.length ≤ 1000000000) : ∀ (n i : Nat) (out : List Int) (back : Bool), n = l.length - i → i ≤ l.length → out.length ≤ i →
   ∃ back', loopW (evCode ⟨Tryd.prog, E, lo, h.length, h18⟩ loopW l18x0) ([(3, .list .yes (ri .i32 out)), (4, .v (.bool back)), (32, .list .no (ri .i32 l)), (33, .v (.int .i64 l.length)), (34, .v (.int .i64 i))], h) =
     some (.exit 0, [(3, .list .yes (ri .i32 (out ++ dec back (l.drop i)))), (4, .v (.bool back')), (32, .list .no (ri .i32 l)), (33, .v (.int .i64 l.length)), (34, .v (.int .i64 l.length)), (35, .v (.bool false))], h) := by
  intro n
  induction n with
  | zero =>
    intro i out back hn hi ho
    obtain rfl : i = l.length := by omega
    rw [loop_eq]
    have hd : decide ((l.length : Int) < l.length) = false := by simp
    refine ⟨back, ?_⟩
    simp only [go_sem, l18x0, b18, Tryd.f18, hd, List.drop_length, dec]
  | succ n ih =>
    intro i out back hn hi ho
    have hlt : i < l.length := by omega
    have hx : l[i]? = some l[i] := List.getElem?_eq_getElem hlt
    have he := dstep_len back l[i]
    obtain ⟨b', hb⟩ := ih (i + 1) (out ++ dstep back l[i]) (l[i] == 13) (by omega) (by omega) (by rw [List.length_append]; omega)
    refine ⟨b', ?_⟩
    rw [loop_eq, round18 hx hlt hl (by omega), loop_n, hb, List.drop_eq_getElem_cons hlt, dec, List.append_assoc]

theorem raw_len' (b : List Int) : (raw b).length ≤ b.length := (raw_count b).1
theorem strip_len (b : List Int) : (strip b).length ≤ b.length := by
  unfold strip
  split
  · rw [List.length_drop]; omega
  · omega

/-- utf.Decode -/
theorem f18 {lo : Nat} {b : List Int} {h : Heap} (hb : b.length ≤ 1000000000) (hy : By b) : E lo 18 [.list .no (ri .u8 b)] h = some (.list .no (ri .i32 (Utf.decode b)), h) := by
  rw [e18 (by simp) (by rfl)]
  have hr := raw_len' (strip b)
  have hs := strip_len b
  have hf := fun lo h => f42 (lo := lo) (h := h) (b := strip b) (by omega) (strip_by hy)
  obtain ⟨q, hL⟩ := loop18 (lo := lo) (h := h) (l := raw (strip b)) (by omega) _ 0 [] false rfl (by omega) (by simp)
  simp only [l18x0, b18, Tryd.f18, loopAt, loops, bodyOf, go_sem, ri_nil, List.drop_zero] at hL
  rw [Utf.decode]
  by_cases h3 : 3 ≤ b.length
  · have t3 : decide ((3 : Int) ≤ b.length) = true := by simp; omega
    obtain ⟨a1, a2, a3, t, he⟩ : ∃ a1 a2 a3 t, b = a1 :: a2 :: a3 :: t := by
      match b, h3 with
      | a1 :: a2 :: a3 :: t, _ => exact ⟨_, _, _, _, rfl⟩
    have x1 : b[0]? = some a1 := by rw [he]; rfl
    have x2 : b[1]? = some a2 := by rw [he]; rfl
    have x3 : b[2]? = some a3 := by rw [he]; rfl
    have hv : bom b = (a1 == 239 && (a2 == 187 && a3 == 191)) := by rw [he]; simp [bom]
    cases hm : bom b with
    | true =>
      have hd : strip b = b.drop 3 := by rw [strip, if_pos hm]
      rw [hv] at hm
      simp only [Bool.and_eq_true] at hm
      rw [hd] at hf hL ⊢
      simp only [go_sem, b18, Tryd.f18, t3, x1, x2, x3, hm.1, hm.2.1, hm.2.2, ri_drop, ri_take, h3, Nat.le_refl, and_self, hf, hL]
    | false =>
      have hd : strip b = b := by rw [strip, if_neg (by simp [hm])]
      rw [hv] at hm
      rw [hd] at hf hL ⊢
      cases g1 : a1 == 239 with
      | false => simp only [go_sem, b18, Tryd.f18, t3, x1, x2, x3, g1, hf, hL]
      | true =>
        cases g2 : a2 == 187 with
        | false => simp only [go_sem, b18, Tryd.f18, t3, x1, x2, x3, g1, g2, hf, hL]
        | true =>
          cases g3 : a3 == 191 with
          | false => simp only [go_sem, b18, Tryd.f18, t3, x1, x2, x3, g1, g2, g3, hf, hL]
          | true => simp [g1, g2, g3] at hm
  · have t3 : decide ((3 : Int) ≤ b.length) = false := by simp; omega
    have hm : bom b = false := by
      match b, h3 with
      | [], _ => rfl
      | [_], _ => simp [bom]
      | [_, _], _ => simp [bom]
      | _ :: _ :: _ :: _, h3 => simp at h3
    have hd : strip b = b := by rw [strip, if_neg (by simp [hm])]
    rw [hd] at hf hL ⊢
    simp only [go_sem, b18, Tryd.f18, t3, hf, hL]

end Go.Lift.D3
end

section
/- The program's reader of characters: its small functions. -/
open Go.Proofs
namespace Go.Lift.D3
open Utf Tok
set_option maxRecDepth 20000
set_option linter.unusedSimpArgs false
set_option linter.unusedVariables false

theorem f32 {lo : Nat} {c : Int} {h : Heap} : E lo 32 [.v (.int .i32 c)] h = some (.v (.bool (dig c)), h) := by
  rw [e32 (by simp) (by rfl)]
  simp only [go_sem, b32, Tryd.f32, dig]
theorem f55 {lo : Nat} {c : Int} {h : Heap} : E lo 55 [.v (.int .i32 c)] h = some (.v (.bool (fst1 c)), h) := by
  rw [e55 (by simp) (by rfl)]
  simp only [go_sem, b55, Tryd.f55, fst1]
theorem f35 {lo : Nat} {c : Int} {h : Heap} : E lo 35 [.v (.int .i32 c)] h = some (.v (.bool (ltr c)), h) := by
  rw [e35 (by simp) (by rfl)]
  simp only [go_sem, b35, Tryd.f35, f55, f32, ltr]
theorem f28 {lo : Nat} {c : Int} {h : Heap} : E lo 28 [.v (.int .i32 c)] h = some (.v (.bool (blk c)), h) := by
  rw [e28 (by simp) (by rfl)]
  simp only [go_sem, b28, Tryd.f28, blk]
theorem f69 {lo : Nat} {c : Int} {h : Heap} (h0 : -1 ≤ c) (h1 : c ≤ 1114111) : E lo 69 [.v (.int .i32 c)] h = some (.v (.int .i32 (hex c)), h) := by
  rw [e69 (by simp) (by rfl)]
  have w1 : IntKind.i32.wrap (c - 48) = c - 48 := wrap_i32 (by omega) (by omega)
  have w2 : IntKind.i32.wrap (c - 97) = c - 97 := wrap_i32 (by omega) (by omega)
  have w3 : IntKind.i32.wrap (c - 97 + 10) = c - 97 + 10 := wrap_i32 (by omega) (by omega)
  have w4 : IntKind.i32.wrap (c - 65) = c - 65 := wrap_i32 (by omega) (by omega)
  have w5 : IntKind.i32.wrap (c - 65 + 10) = c - 65 + 10 := wrap_i32 (by omega) (by omega)
  unfold hex
  cases hd : dig c with
  | true => simp only [go_sem, b69, Tryd.f69, f32, hd, w1]
  | false =>
    cases ha : decide (97 ≤ c) && decide (c ≤ 102) with
    | true => simp only [go_sem, b69, Tryd.f69, f32, hd, ha, w2, w3, Bool.false_eq_true]
    | false =>
      cases hb : decide (65 ≤ c) && decide (c ≤ 70) with
      | true => simp only [go_sem, b69, Tryd.f69, f32, hd, ha, hb, w4, w5, Bool.false_eq_true]
      | false => simp only [go_sem, b69, Tryd.f69, f32, hd, ha, hb, Bool.false_eq_true]

/-- what is left from place i on -/
def suf (l : List Int) (i : Nat) : List Int := (l.map scal).drop i
/-- a reader at place i -/
abbrev R (l : List Int) (i : Nat) : Ob := .cells [.list .no (ri .i32 l), .v (.int .i64 i)]
theorem suf_chr (l : List Int) (i k : Nat) : chr (suf l i) k = match l[i + k]? with
    | some x => scal x
    | none => -1 := by
  unfold chr suf
  rw [List.getElem?_drop, List.getElem?_map]
  cases l[i + k]? <;> rfl
theorem chr_in (l : List Int) (i k : Nat) : -1 ≤ chr (suf l i) k ∧ chr (suf l i) k ≤ 1114111 := by
  rw [suf_chr]
  cases l[i + k]? with
  | none => simp
  | some x => have := scal_in x; simp only; omega

section
variable {lo i : Nat} {l : List Int} {p q : List Ob}

/-- (*source).peek -/
theorem f16 {k : Nat} (hi : i + k ≤ 1000000000000) : E lo 16 [.ptr p.length 0, .v (.int .i64 k)] (p ++ R l i :: q) = some (.v (.int .i32 (chr (suf l i) k)), p ++ R l i :: q) := by
  have hw : IntKind.i64.wrap ((i : Int) + k) = ((i + k : Nat) : Int) := by rw [wrap_i64 (by omega) (by omega)]; omega
  rw [e16 (by simp) (by rfl), suf_chr]
  by_cases hl : i + k < l.length
  · have hx : l[i + k]? = some l[i + k] := List.getElem?_eq_getElem hl
    have hd : decide ((l.length : Int) ≤ (i + k : Nat)) = false := by simp; omega
    rw [hx]
    generalize l[i + k] = x at hx
    simp only [go_sem, b16, Tryd.f16, hw, hd, hx]
    rfl
  · have hx : l[i + k]? = none := List.getElem?_eq_none (by omega)
    have hd : decide ((l.length : Int) ≤ (i + k : Nat)) = true := by simp; omega
    rw [hx]
    simp only [go_sem, b16, Tryd.f16, hw, hd, hx]

/-- (*source).take -/
theorem f41 (hlo : lo ≤ p.length) (hi : i + 1 ≤ 1000000000000) : E lo 41 [.ptr p.length 0] (p ++ R l i :: q) = some (.v (.int .i32 (chr (suf l i) 0)), p ++ R l (i + 1) :: q) := by
  have hw : IntKind.i64.wrap ((i : Int) + 1) = ((i + 1 : Nat) : Int) := wrap_succ (by omega)
  have k0 := fun lo p q => f16 (lo := lo) (l := l) (i := i) (p := p) (q := q) (k := 0) (by omega)
  simp only [n0] at k0
  rw [e41 (by simp) (by rfl)]
  simp only [go_sem, b41, Tryd.f41, k0, hw, hlo]

/-- (*source).escape -/
theorem f36 {k : Nat} (hi : i + k + 1 ≤ 1000000000000) : E lo 36 [.ptr p.length 0, .v (.int .i64 k)] (p ++ R l i :: q) = some (.v (.bool (esc (chr (suf l i) k) (chr (suf l i) (k + 1)))), p ++ R l i :: q) := by
  have hw : IntKind.i64.wrap ((k : Int) + 1) = ((k + 1 : Nat) : Int) := wrap_succ (by omega)
  have k0 := fun lo p q => f16 (lo := lo) (l := l) (i := i) (p := p) (q := q) (k := k) (by omega)
  have k1 := fun lo p q => f16 (lo := lo) (l := l) (i := i) (p := p) (q := q) (k := k + 1) (by omega)
  rw [e36 (by simp) (by rfl)]
  simp only [go_sem, b36, Tryd.f36, hw, k0, k1, esc]

/-- (*source).numbered -/
theorem f33 {k : Nat} (hi : i + k + 2 ≤ 1000000000000) : E lo 33 [.ptr p.length 0, .v (.int .i64 k)] (p ++ R l i :: q) = some (.v (.bool (num (chr (suf l i) k) (chr (suf l i) (k + 1)) (chr (suf l i) (k + 1 + 1)))), p ++ R l i :: q) := by
  have hw : IntKind.i64.wrap ((k : Int) + 1) = ((k + 1 : Nat) : Int) := wrap_succ (by omega)
  have hw2 : IntKind.i64.wrap (((k + 1 : Nat) : Int) + 1) = ((k + 1 + 1 : Nat) : Int) := wrap_succ (by omega)
  have k0 := fun lo p q => f16 (lo := lo) (l := l) (i := i) (p := p) (q := q) (k := k) (by omega)
  have k1 := fun lo p q => f16 (lo := lo) (l := l) (i := i) (p := p) (q := q) (k := k + 1) (by omega)
  have k2 := fun lo p q => f16 (lo := lo) (l := l) (i := i) (p := p) (q := q) (k := k + 1 + 1) (by omega)
  rw [e33 (by simp) (by rfl)]
  generalize chr (suf l i) k = a at k0
  cases ha : a == 43 || a == 45 with
  | true => simp only [go_sem, b33, Tryd.f33, hw, hw2, k0, k1, k2, f32, ha, num]
  | false => simp only [go_sem, b33, Tryd.f33, hw, hw2, k0, k1, k2, f32, ha, num, Bool.false_eq_true]

/-- (*source).named -/
theorem f37 {k : Nat} (hi : i + k + 2 ≤ 1000000000000) : E lo 37 [.ptr p.length 0, .v (.int .i64 k)] (p ++ R l i :: q) = some (.v (.bool (beg (chr (suf l i) k) (chr (suf l i) (k + 1)) (chr (suf l i) (k + 1 + 1)))), p ++ R l i :: q) := by
  have hw : IntKind.i64.wrap ((k : Int) + 1) = ((k + 1 : Nat) : Int) := wrap_succ (by omega)
  have k0 := fun lo p q => f16 (lo := lo) (l := l) (i := i) (p := p) (q := q) (k := k) (by omega)
  have k1 := fun lo p q => f16 (lo := lo) (l := l) (i := i) (p := p) (q := q) (k := k + 1) (by omega)
  have g0 := fun lo p q => f36 (lo := lo) (l := l) (i := i) (p := p) (q := q) (k := k) (by omega)
  have g1 := fun lo p q => f36 (lo := lo) (l := l) (i := i) (p := p) (q := q) (k := k + 1) (by omega)
  rw [e37 (by simp) (by rfl)]
  generalize chr (suf l i) k = a at k0 g0
  cases ha : a == 45 with
  | true => simp only [go_sem, b37, Tryd.f37, hw, k0, k1, g0, g1, f55, ha, beg]
  | false => simp only [go_sem, b37, Tryd.f37, hw, k0, k1, g0, g1, f55, ha, beg, Bool.false_eq_true]

theorem suf_next {i : Nat} (hi : i < l.length) : suf l i = chr (suf l i) 0 :: suf l (i + 1) := by
  have h1 : i < (l.map scal).length := by simpa using hi
  rw [suf_chr]
  unfold suf
  have e : l[i + 0]? = some l[i] := List.getElem?_eq_getElem hi
  rw [List.drop_eq_getElem_cons h1, e]
  simp
theorem suf_end {i : Nat} (hi : l.length ≤ i) : suf l i = [] := List.drop_eq_nil_of_le (by simpa using hi)
theorem suf_len (l : List Int) (i : Nat) : (suf l i).length = l.length - i := by simp [suf]

/-- (*source).blanks -/
theorem loop29 (hlo : lo ≤ p.length) (hl : l.length ≤ 100000000000) : ∀ (n i : Nat), l.length - i ≤ n → i ≤ l.length →
    ∃ j, j ≤ l.length ∧ i ≤ j ∧ suf l j = blanks (suf l i) ∧
      loopW (evCode ⟨Tryd.prog, E, lo, (p ++ R l i :: q).length, h29⟩ loopW l29x0) ([(0, .ptr p.length 0)], p ++ R l i :: q) = some (.exit 0, [(0, .ptr p.length 0), (4, .v (.bool false))], p ++ R l j :: q) := by
  intro n
  induction n with
  | zero =>
    intro i h1 h2
    obtain rfl : i = l.length := by omega
    have k0 := fun lo p q => f16 (lo := lo) (l := l) (i := l.length) (p := p) (q := q) (k := 0) (by omega)
    have hs : suf l l.length = [] := suf_end (Nat.le_refl _)
    have hc : blk (chr [] 0) = false := by decide
    simp only [n0, hs] at k0
    refine ⟨l.length, Nat.le_refl _, Nat.le_refl _, by rw [hs]; rfl, ?_⟩
    rw [loop_eq]
    simp only [go_sem, l29x0, b29, Tryd.f29, k0, f28, hc]
  | succ n ih =>
    intro i h1 h2
    have k0 := fun lo p q => f16 (lo := lo) (l := l) (i := i) (p := p) (q := q) (k := 0) (by omega)
    simp only [n0] at k0
    have hw : IntKind.i64.wrap ((i : Int) + 1) = ((i + 1 : Nat) : Int) := wrap_succ (by omega)
    cases hb : blk (chr (suf l i) 0) with
    | false =>
      refine ⟨i, h2, Nat.le_refl _, ?_, ?_⟩
      · by_cases hi : i < l.length
        · rw [suf_next hi] at hb ⊢
          exact (List.dropWhile_cons_of_neg (by simpa [chr] using hb)).symm
        · rw [suf_end (by omega)]; rfl
      · rw [loop_eq]
        simp only [go_sem, l29x0, b29, Tryd.f29, k0, f28, hb]
    | true =>
      have hi : i < l.length := by
        rcases Nat.lt_or_ge i l.length with h | h
        · exact h
        · rw [suf_end h] at hb; exact absurd hb (by decide)
      obtain ⟨j, j1, j2, j3, j4⟩ := ih (i + 1) (by omega) (by omega)
      refine ⟨j, j1, by omega, ?_, ?_⟩
      · rw [j3, suf_next hi]
        exact (List.dropWhile_cons_of_pos (by simpa using hb)).symm
      · rw [loop_eq]
        have e : evCode ⟨Tryd.prog, E, lo, (p ++ R l i :: q).length, h29⟩ loopW l29x0 ([(0, .ptr p.length 0)], p ++ R l i :: q) = some (.normal, [(0, .ptr p.length 0)], p ++ R l (i + 1) :: q) := by
          simp only [go_sem, l29x0, b29, Tryd.f29, k0, f28, hb, hw, hlo]
        rw [e, loop_n]
        simp only [hl_app, hl_cons] at j4 ⊢
        exact j4
end
end Go.Lift.D3
end

section
/- The program's reader of characters: rows of characters, escapes, names, remarks. -/
open Go.Proofs
namespace Go.Lift.D3
open Utf Tok
set_option maxRecDepth 20000
set_option linter.unusedSimpArgs false
set_option linter.unusedVariables false

section
variable {lo i : Nat} {l : List Int} {p q : List Ob}
theorem suf_inj {l : List Int} {i j : Nat} (hi : i ≤ l.length) (hj : j ≤ l.length) (h : suf l i = suf l j) : i = j := by
  have h1 := suf_len l i
  have h2 := suf_len l j
  rw [h, h2] at h1
  omega
/-- (*source).blanks -/
theorem f29 (hl : l.length ≤ 100000000000) (hi : i ≤ l.length) : ∃ j, j ≤ l.length ∧ i ≤ j ∧ suf l j = blanks (suf l i) ∧
    ∀ lo p q, lo ≤ p.length → E lo 29 [.ptr p.length 0] (p ++ R l i :: q) = some (.tup [], p ++ R l j :: q) := by
  obtain ⟨j, j1, j2, j3, _⟩ := loop29 (lo := 0) (p := []) (q := []) (l := l) (Nat.le_refl _) hl l.length i (by omega) hi
  refine ⟨j, j1, j2, j3, fun lo p q hlo => ?_⟩
  obtain ⟨j', j1', j2', j3', hL⟩ := loop29 (lo := lo) (p := p) (q := q) (l := l) hlo hl l.length i (by omega) hi
  obtain rfl : j' = j := suf_inj j1' j1 (by rw [j3', j3])
  rw [e29 (by simp) (by rfl)]
  simp only [l29x0, b29, Tryd.f29, loopAt, loops, bodyOf, go_sem] at hL
  simp only [go_sem, b29, Tryd.f29, hL]

/-- do these characters come next? -/
def isN (s : List Int) : Nat → List Int → Bool
  | _, [] => true
  | j, c :: t => chr s j == c && isN s (j + 1) t

theorem loop27 {cs : List Int} (hi : i + cs.length ≤ 1000000000000) : ∀ (n j : Nat), n = cs.length - j → j ≤ cs.length →
    loopW (evCode ⟨Tryd.prog, E, lo, (p ++ R l i :: q).length, h27⟩ loopW l27x0) ([(0, .ptr p.length 0), (7, .list .no (ri .i32 cs)), (8, .v (.int .i64 cs.length)), (9, .v (.int .i64 j))], p ++ R l i :: q) =
      if isN (suf l i) j (cs.drop j) = true then some (.exit 0, [(0, .ptr p.length 0), (7, .list .no (ri .i32 cs)), (8, .v (.int .i64 cs.length)), (9, .v (.int .i64 cs.length)), (10, .v (.bool false))], p ++ R l i :: q)
      else some (.ret, [(4, .v (.bool false))], p ++ R l i :: q) := by
  intro n
  induction n with
  | zero =>
    intro j hn hj
    obtain rfl : j = cs.length := by omega
    rw [loop_eq]
    have hd : decide ((cs.length : Int) < cs.length) = false := by simp
    simp only [go_sem, l27x0, b27, Tryd.f27, hd, List.drop_length, isN]
  | succ n ih =>
    intro j hn hj
    have hlt : j < cs.length := by omega
    have hx : cs[j]? = some cs[j] := List.getElem?_eq_getElem hlt
    have hd : decide ((j : Int) < cs.length) = true := by simpa using hlt
    have hw : IntKind.i64.wrap ((j : Int) + 1) = ((j + 1 : Nat) : Int) := wrap_succ (by omega)
    have k0 := fun lo p q => f16 (lo := lo) (l := l) (i := i) (p := p) (q := q) (k := j) (by omega)
    rw [loop_eq, List.drop_eq_getElem_cons hlt, isN]
    cases hc : chr (suf l i) j == cs[j] with
    | true =>
      have hne : (chr (suf l i) j != cs[j]) = false := by simp [bne, hc]
      have e : evCode ⟨Tryd.prog, E, lo, (p ++ R l i :: q).length, h27⟩ loopW l27x0 ([(0, .ptr p.length 0), (7, .list .no (ri .i32 cs)), (8, .v (.int .i64 cs.length)), (9, .v (.int .i64 j))], p ++ R l i :: q) =
          some (.normal, [(0, .ptr p.length 0), (7, .list .no (ri .i32 cs)), (8, .v (.int .i64 cs.length)), (9, .v (.int .i64 (j + 1 : Nat)))], p ++ R l i :: q) := by
        simp only [go_sem, l27x0, b27, Tryd.f27, hd, hx, hw, k0, hne]
      rw [e, loop_n, ih (j + 1) (by omega) (by omega), Bool.true_and]
    | false =>
      have hne : (chr (suf l i) j != cs[j]) = true := by simp [bne, hc]
      have e : evCode ⟨Tryd.prog, E, lo, (p ++ R l i :: q).length, h27⟩ loopW l27x0 ([(0, .ptr p.length 0), (7, .list .no (ri .i32 cs)), (8, .v (.int .i64 cs.length)), (9, .v (.int .i64 j))], p ++ R l i :: q) =
          some (.ret, [(4, .v (.bool false))], p ++ R l i :: q) := by
        simp only [go_sem, l27x0, b27, Tryd.f27, hd, hx, hw, k0, hne]
      rw [e, loop_r]
      rfl
/-- (*source).is -/
theorem f27 {cs : List Int} (hi : i + cs.length ≤ 1000000000000) : E lo 27 [.ptr p.length 0, .list .no (ri .i32 cs)] (p ++ R l i :: q) = some (.v (.bool (isN (suf l i) 0 cs)), p ++ R l i :: q) := by
  have hL := loop27 (lo := lo) (p := p) (q := q) (l := l) (i := i) hi _ 0 rfl (by omega)
  simp only [l27x0, b27, Tryd.f27, loopAt, loops, bodyOf, go_sem, List.drop_zero] at hL
  rw [e27 (by simp) (by rfl)]
  cases hx : isN (suf l i) 0 cs with
  | true =>
    rw [if_pos hx] at hL
    simp only [go_sem, b27, Tryd.f27, hL]
  | false =>
    rw [if_neg (by simp [hx])] at hL
    simp only [go_sem, b27, Tryd.f27, hL]

/-! ### An escape -/
theorem hex_neg1 : hex (-1) = -1 := by decide
theorem hex_up (c : Int) : hex c ≤ 15 := by
  unfold hex dig
  split
  · rename_i h; simp at h; omega
  · split
    · rename_i h; simp at h; omega
    · split
      · rename_i h; simp at h; omega
      · omega
theorem blk_neg1 : blk (-1) = false := by decide
theorem chr_nil (k : Nat) : chr [] k = -1 := by simp [chr]

/-- the loop of an escape's digits: k of six are done -/
theorem loop52 (hlo : lo ≤ p.length) (hl : l.length ≤ 100000000000) : ∀ (n k i : Nat) (v : Int), n + k = 6 → i ≤ l.length → 0 ≤ v → v < 16 ^ k →
    ∃ (j : Nat) (t : Int), j ≤ l.length ∧ i ≤ j ∧ suf l j = (hexN n v (suf l i)).2 ∧ 0 ≤ (hexN n v (suf l i)).1 ∧ (hexN n v (suf l i)).1 < 16777216 ∧
      loopW (evCode ⟨Tryd.prog, E, lo, (p ++ R l i :: q).length, h52⟩ loopW l52x0) ([(0, .ptr p.length 0), (3, .v (.int .i32 v)), (4, .v (.int .i64 k))], p ++ R l i :: q) =
        some (.exit 0, [(0, .ptr p.length 0), (3, .v (.int .i32 (hexN n v (suf l i)).1)), (4, .v (.int .i64 t)), (21, .v (.bool false))], p ++ R l j :: q) := by
  intro n
  induction n with
  | zero =>
    intro k i v hk hi h0 h1
    obtain rfl : k = 6 := by omega
    refine ⟨i, 6, hi, Nat.le_refl _, rfl, h0, by simpa [hexN] using h1, ?_⟩
    have k0 := fun lo p q => f16 (lo := lo) (l := l) (i := i) (p := p) (q := q) (k := 0) (by omega)
    simp only [n0] at k0
    have n6 : ((6 : Nat) : Int) = 6 := rfl
    rw [loop_eq]
    simp only [n6]
    simp only [go_sem, l52x0, b52, Tryd.f52, hexN, decide_false]
  | succ n ih =>
    intro k i v hk hi h0 h1
    have k0 := fun lo p q => f16 (lo := lo) (l := l) (i := i) (p := p) (q := q) (k := 0) (by omega)
    have k1 := fun lo p q h => f41 (lo := lo) (l := l) (i := i) (p := p) (q := q) h (by omega)
    have hc := chr_in l i 0
    have kh := fun lo h => f69 (lo := lo) (h := h) hc.1 hc.2
    simp only [n0] at k0
    have hd : decide ((k : Int) < 6) = true := by simp; omega
    have hw : IntKind.i64.wrap ((k : Int) + 1) = ((k + 1 : Nat) : Int) := wrap_succ (by omega)
    have hp : (16 : Int) ^ k ≤ 1048576 := by
      have : k = 0 ∨ k = 1 ∨ k = 2 ∨ k = 3 ∨ k = 4 ∨ k = 5 := by omega
      rcases this with h | h | h | h | h | h <;> rw [h] <;> decide
    have hv : v < 1048576 := by omega
    have hup := hex_up (chr (suf l i) 0)
    rw [loop_eq]
    by_cases hx : hex (chr (suf l i) 0) < 0
    · have hd2 : decide (0 ≤ hex (chr (suf l i) 0)) = false := by simp; omega
      have e1 : hexN (n + 1) v (suf l i) = (v, suf l i) := by
        by_cases hi' : i < l.length
        · rw [suf_next hi'] at hx ⊢
          simp only [hexN]
          rw [if_pos (by simpa [chr] using hx)]
        · rw [suf_end (by omega)]; rfl
      rw [e1]
      refine ⟨i, k, hi, Nat.le_refl _, rfl, h0, by simp only; omega, ?_⟩
      simp only [go_sem, l52x0, b52, Tryd.f52, hd, k0, kh, hd2]
    · have hd2 : decide (0 ≤ hex (chr (suf l i) 0)) = true := by simp; omega
      have hi' : i < l.length := by
        rcases Nat.lt_or_ge i l.length with h | h
        · exact h
        · rw [suf_end h, chr_nil, hex_neg1] at hx; omega
      have e1 : hexN (n + 1) v (suf l i) = hexN n (v * 16 + hex (chr (suf l i) 0)) (suf l (i + 1)) := by
        rw [suf_next hi'] at hx
        rw [suf_next hi']
        simp only [hexN]
        rw [if_neg (by simpa [chr] using hx)]
        simp [chr]
      have w1 : IntKind.i32.wrap (v * 16) = v * 16 := wrap_i32 (by omega) (by omega)
      have w2 : IntKind.i32.wrap (v * 16 + hex (chr (suf l i) 0)) = v * 16 + hex (chr (suf l i) 0) := wrap_i32 (by omega) (by omega)
      have hpow : (16 : Int) ^ (k + 1) = 16 ^ k * 16 := Int.pow_succ ..
      obtain ⟨j, t, j1, j2, j3, j4, j5, j6⟩ := ih (k + 1) (i + 1) (v * 16 + hex (chr (suf l i) 0)) (by omega) (by omega) (by omega) (by rw [hpow]; omega)
      rw [e1]
      refine ⟨j, t, j1, by omega, j3, j4, j5, ?_⟩
      have e : evCode ⟨Tryd.prog, E, lo, (p ++ R l i :: q).length, h52⟩ loopW l52x0 ([(0, .ptr p.length 0), (3, .v (.int .i32 v)), (4, .v (.int .i64 k))], p ++ R l i :: q) =
          some (.normal, [(0, .ptr p.length 0), (3, .v (.int .i32 (v * 16 + hex (chr (suf l i) 0)))), (4, .v (.int .i64 (k + 1 : Nat)))], p ++ R l (i + 1) :: q) := by
        simp only [go_sem, l52x0, b52, Tryd.f52, hd, k0, kh, hd2, k1 _ _ _ hlo, w1, w2, hw]
      rw [e, loop_n]
      simp only [hl_app, hl_cons] at j6 ⊢
      exact j6

theorem one1_suf (l : List Int) {j : Nat} (hj : j ≤ l.length) : (blk (chr (suf l j) 0) = true → j < l.length ∧ one1 (suf l j) = suf l (j + 1)) ∧ (blk (chr (suf l j) 0) = false → one1 (suf l j) = suf l j) := by
  rcases Nat.lt_or_ge j l.length with h | h
  · have h1 := suf_next h
    generalize chr (suf l j) 0 = c at h1
    rw [h1]
    refine ⟨fun hb => ⟨h, ?_⟩, fun hb => ?_⟩
    · simp only [one1]; rw [if_pos hb]
    · simp only [one1]; rw [if_neg (by simp [hb])]
  · rw [suf_end h, chr_nil, blk_neg1]
    exact ⟨fun h => by simp at h, fun _ => rfl⟩

/-- (*source).escaped -/
theorem f52 (hl : l.length ≤ 100000000000) (hi : i ≤ l.length) : ∃ j, j ≤ l.length ∧ i ≤ j ∧ suf l j = (escd (suf l i)).2 ∧
    ∀ lo p q, lo ≤ p.length → E lo 52 [.ptr p.length 0] (p ++ R l i :: q) = some (.v (.int .i32 (escd (suf l i)).1), p ++ R l j :: q) := by
  have k0 := fun lo p q => f16 (lo := lo) (l := l) (i := i) (p := p) (q := q) (k := 0) (by omega)
  have k1 := fun lo p q h => f41 (lo := lo) (l := l) (i := i) (p := p) (q := q) h (by omega)
  have hc := chr_in l i 0
  have kh := fun lo h => f69 (lo := lo) (h := h) hc.1 hc.2
  simp only [n0] at k0
  by_cases hx : hex (chr (suf l i) 0) < 0
  · have hd : decide (hex (chr (suf l i) 0) < 0) = true := by simpa using hx
    by_cases hi' : i < l.length
    · have hne : (chr (suf l i) 0 == -1) = false := by
        rw [suf_chr, Nat.add_zero, List.getElem?_eq_getElem hi']
        have := scal_in l[i]
        simp; omega
      have e1 : escd (suf l i) = (chr (suf l i) 0, suf l (i + 1)) := by
        have h1 := suf_next hi'
        generalize chr (suf l i) 0 = c at h1 hx
        rw [h1]
        simp only [escd]
        rw [if_pos hx]
      rw [e1]
      refine ⟨i + 1, by omega, by omega, rfl, fun lo p q hlo => ?_⟩
      rw [e52 (by simp) (by rfl)]
      simp only [go_sem, b52, Tryd.f52, k0, kh, hd, hne, k1 _ _ _ hlo]
    · have hs : suf l i = [] := suf_end (by omega)
      have hd' : decide (hex (-1) < 0) = true := by decide
      have hne : ((-1 : Int) == -1) = true := rfl
      simp only [hs, chr_nil] at k0 kh
      rw [hs]
      refine ⟨i, hi, Nat.le_refl _, by rw [hs]; rfl, fun lo p q hlo => ?_⟩
      rw [e52 (by simp) (by rfl)]
      simp only [go_sem, b52, Tryd.f52, k0, kh, hd', hne]
      rfl
  · have hd : decide (hex (chr (suf l i) 0) < 0) = false := by simp; omega
    have hi' : i < l.length := by
      rcases Nat.lt_or_ge i l.length with h | h
      · exact h
      · rw [suf_end h, chr_nil, hex_neg1] at hx; omega
    have e1 : escd (suf l i) = (if (hexN 6 0 (suf l i)).1 = 0 then 65533 else scal (hexN 6 0 (suf l i)).1, one1 (hexN 6 0 (suf l i)).2) := by
      have h1 := suf_next hi'
      generalize chr (suf l i) 0 = c at h1 hx
      rw [h1]
      simp only [escd]
      rw [if_neg hx]
    obtain ⟨j, t, j1, j2, j3, j4, j5, _⟩ := loop52 (lo := 0) (p := []) (q := []) (l := l) (Nat.le_refl _) hl 6 0 i 0 rfl hi (Int.le_refl _) (by decide)
    have hone := one1_suf l j1
    have kj := fun lo p q => f16 (lo := lo) (l := l) (i := j) (p := p) (q := q) (k := 0) (by omega)
    have kt := fun lo p q h => f41 (lo := lo) (l := l) (i := j) (p := p) (q := q) h (by omega)
    simp only [n0] at kj
    rw [e1]
    generalize hv : (hexN 6 0 (suf l i)).1 = v at j4 j5
    have fold : (if (v == 0 || decide (1114111 < v) || decide (55296 ≤ v) && decide (v ≤ 57343)) = true then (65533 : Int) else v) = if v = 0 then 65533 else scal v := by
      by_cases h0 : v = 0
      · simp [h0]
      · rw [if_neg h0]
        unfold scal
        have a0 : (v == 0) = false := by simp [h0]
        have a1 : decide (v < 0) = false := by simp; omega
        rw [a0, a1]
    cases hb : blk (chr (suf l j) 0) with
    | true =>
      obtain ⟨hj', hone⟩ := hone.1 hb
      refine ⟨j + 1, by omega, by omega, by rw [← j3, hone], fun lo p q hlo => ?_⟩
      obtain ⟨j', t', j1', _, j3', _, _, hL⟩ := loop52 (lo := lo) (p := p) (q := q) (l := l) hlo hl 6 0 i 0 rfl hi (Int.le_refl _) (by decide)
      obtain rfl : j' = j := suf_inj j1' j1 (by rw [j3', j3])
      rw [hv] at hL
      rw [e52 (by simp) (by rfl)]
      simp only [l52x0, b52, Tryd.f52, loopAt, loops, bodyOf, go_sem] at hL
      simp only [go_sem, b52, Tryd.f52, k0, kh, hd, hL, kj, f28, hb, kt _ _ _ hlo]
      rw [← fold]
    | false =>
      refine ⟨j, j1, j2, by rw [← j3, hone.2 hb], fun lo p q hlo => ?_⟩
      obtain ⟨j', t', j1', _, j3', _, _, hL⟩ := loop52 (lo := lo) (p := p) (q := q) (l := l) hlo hl 6 0 i 0 rfl hi (Int.le_refl _) (by decide)
      obtain rfl : j' = j := suf_inj j1' j1 (by rw [j3', j3])
      rw [hv] at hL
      rw [e52 (by simp) (by rfl)]
      simp only [l52x0, b52, Tryd.f52, loopAt, loops, bodyOf, go_sem] at hL
      simp only [go_sem, b52, Tryd.f52, k0, kh, hd, hL, kj, f28, hb]
      rw [← fold]
end

/-- the kind of a token that is one character; 0: there is none -/
def plainK (c : Int) : Int :=
  if c = 40 then 21 else if c = 41 then 22 else if c = 44 then 18 else if c = 58 then 16 else if c = 59 then 17
  else if c = 91 then 19 else if c = 93 then 20 else if c = 123 then 23 else if c = 125 then 24 else 0
theorem f31 {lo : Nat} {c : Int} {h : Heap} : E lo 31 [.v (.int .i32 c)] h = some (.v (.int .i64 (plainK c)), h) := by
  rw [e31 (by simp) (by rfl)]
  unfold plainK
  by_cases h1 : c = 40
  · subst h1; have t : ((40 : Int) == 40) = true := rfl
    simp only [go_sem, b31, Tryd.f31, t]
  have t1 : (c == 40) = false := by simp [h1]
  by_cases h2 : c = 41
  · subst h2; have t : ((41 : Int) == 41) = true := rfl
    simp only [go_sem, b31, Tryd.f31, t1, t, h1]
  have t2 : (c == 41) = false := by simp [h2]
  by_cases h3 : c = 44
  · subst h3; have t : ((44 : Int) == 44) = true := rfl
    simp only [go_sem, b31, Tryd.f31, t1, t2, t, h1, h2]
  have t3 : (c == 44) = false := by simp [h3]
  by_cases h4 : c = 58
  · subst h4; have t : ((58 : Int) == 58) = true := rfl
    simp only [go_sem, b31, Tryd.f31, t1, t2, t3, t, h1, h2, h3]
  have t4 : (c == 58) = false := by simp [h4]
  by_cases h5 : c = 59
  · subst h5; have t : ((59 : Int) == 59) = true := rfl
    simp only [go_sem, b31, Tryd.f31, t1, t2, t3, t4, t, h1, h2, h3, h4]
  have t5 : (c == 59) = false := by simp [h5]
  by_cases h6 : c = 91
  · subst h6; have t : ((91 : Int) == 91) = true := rfl
    simp only [go_sem, b31, Tryd.f31, t1, t2, t3, t4, t5, t, h1, h2, h3, h4, h5]
  have t6 : (c == 91) = false := by simp [h6]
  by_cases h7 : c = 93
  · subst h7; have t : ((93 : Int) == 93) = true := rfl
    simp only [go_sem, b31, Tryd.f31, t1, t2, t3, t4, t5, t6, t, h1, h2, h3, h4, h5, h6]
  have t7 : (c == 93) = false := by simp [h7]
  by_cases h8 : c = 123
  · subst h8; have t : ((123 : Int) == 123) = true := rfl
    simp only [go_sem, b31, Tryd.f31, t1, t2, t3, t4, t5, t6, t7, t, h1, h2, h3, h4, h5, h6, h7]
  have t8 : (c == 123) = false := by simp [h8]
  by_cases h9 : c = 125
  · subst h9; have t : ((125 : Int) == 125) = true := rfl
    simp only [go_sem, b31, Tryd.f31, t1, t2, t3, t4, t5, t6, t7, t8, t, h1, h2, h3, h4, h5, h6, h7, h8]
  have t9 : (c == 125) = false := by simp [h9]
  simp only [go_sem, b31, Tryd.f31, t1, t2, t3, t4, t5, t6, t7, t8, t9, h1, h2, h3, h4, h5, h6, h7, h8, h9]
theorem f77 {lo : Nat} {c : Int} {h : Heap} : E lo 77 [.v (.int .i32 c)] h = some (.v (.bool (unp c)), h) := by
  rw [e77 (by simp) (by rfl)]
  simp only [go_sem, b77, Tryd.f77, unp]
end Go.Lift.D3
end
