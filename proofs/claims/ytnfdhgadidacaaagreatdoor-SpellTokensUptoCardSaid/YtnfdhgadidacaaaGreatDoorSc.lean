/- UTF-8, both sides. -/
import Derived.Test.YtnfdhgadidacaaaGreatDoorSb
import Derived.Test.YtnfdhgadidacaaaGreatDoorTa
section
/- The characters' bytes: what the program's Encode computes. -/
open Go.Proofs
namespace Go.Lift.R4
set_option linter.unusedSectionVars false
variable [MX]
set_option linter.unusedVariables false
set_option linter.unusedSimpArgs false
open Utf
set_option maxRecDepth 20000
set_option linter.unusedSimpArgs false

theorem fdiv64 (y : Int) (k : Nat) : y.fdiv (2 ^ min k 32) = y / 2 ^ min k 32 := by
  rw [Int.fdiv_eq_ediv_of_nonneg]
  exact Int.le_of_lt (Int.pow_pos (by omega))

theorem bytes_eq (y : Int) (h0 : 0 ≤ y) (h1 : y ≤ 1114111) (out : List Int) :
    (if decide (y < 128) = true then ri .u8 out ++ [[V.v (.int .u8 (IntKind.u8.wrap y))]]
     else if decide (y < 2048) = true then ri .u8 out ++ [[V.v (.int .u8 (IntKind.u8.wrap ↑(BitVec.ofInt 8 192 ||| BitVec.ofInt 8 (IntKind.u8.wrap (y.fdiv (2 ^ min 6 32)))).toNat))],
       [V.v (.int .u8 (IntKind.u8.wrap ↑(BitVec.ofInt 8 128 ||| BitVec.ofInt 8 (IntKind.u8.wrap (IntKind.i32.wrap ↑(BitVec.ofInt 32 y &&& BitVec.ofInt 32 63).toNat))).toNat))]]
     else if decide (y < 65536) = true then ri .u8 out ++ [[V.v (.int .u8 (IntKind.u8.wrap ↑(BitVec.ofInt 8 224 ||| BitVec.ofInt 8 (IntKind.u8.wrap (y.fdiv (2 ^ min 12 32)))).toNat))],
       [V.v (.int .u8 (IntKind.u8.wrap ↑(BitVec.ofInt 8 128 ||| BitVec.ofInt 8 (IntKind.u8.wrap (IntKind.i32.wrap ↑(BitVec.ofInt 32 (y.fdiv (2 ^ min 6 32)) &&& BitVec.ofInt 32 63).toNat))).toNat))],
       [V.v (.int .u8 (IntKind.u8.wrap ↑(BitVec.ofInt 8 128 ||| BitVec.ofInt 8 (IntKind.u8.wrap (IntKind.i32.wrap ↑(BitVec.ofInt 32 y &&& BitVec.ofInt 32 63).toNat))).toNat))]]
     else ri .u8 out ++ [[V.v (.int .u8 (IntKind.u8.wrap ↑(BitVec.ofInt 8 240 ||| BitVec.ofInt 8 (IntKind.u8.wrap (y.fdiv (2 ^ min 18 32)))).toNat))],
       [V.v (.int .u8 (IntKind.u8.wrap ↑(BitVec.ofInt 8 128 ||| BitVec.ofInt 8 (IntKind.u8.wrap (IntKind.i32.wrap ↑(BitVec.ofInt 32 (y.fdiv (2 ^ min 12 32)) &&& BitVec.ofInt 32 63).toNat))).toNat))],
       [V.v (.int .u8 (IntKind.u8.wrap ↑(BitVec.ofInt 8 128 ||| BitVec.ofInt 8 (IntKind.u8.wrap (IntKind.i32.wrap ↑(BitVec.ofInt 32 (y.fdiv (2 ^ min 6 32)) &&& BitVec.ofInt 32 63).toNat))).toNat))],
       [V.v (.int .u8 (IntKind.u8.wrap ↑(BitVec.ofInt 8 128 ||| BitVec.ofInt 8 (IntKind.u8.wrap (IntKind.i32.wrap ↑(BitVec.ofInt 32 y &&& BitVec.ofInt 32 63).toNat))).toNat))]])
    = ri .u8 (out ++ enc y) := by
  have lo6 : ∀ z : Int, 0 ≤ z → z ≤ 1114111 → IntKind.u8.wrap ↑(BitVec.ofInt 8 128 ||| BitVec.ofInt 8 (IntKind.u8.wrap (IntKind.i32.wrap ↑(BitVec.ofInt 32 z &&& BitVec.ofInt 32 63).toNat))).toNat = 128 + z % 64 := by
    intro z z0 z1
    rw [and63 z0 (by omega), wrap_i32 (by omega) (by omega), wrap_u8 (n := z % 64) (by omega) (by omega), Utf.o8 (n := 64) (by omega) (by omega) (by omega), wrap_u8 (by omega) (by omega)]
  have e6 : y.fdiv (2 ^ min 6 32) = y / 64 := fdiv64 y 6
  have e69 : y.fdiv (2 ^ min 12 32) = y / 4096 := fdiv64 y 12
  have e18 : y.fdiv (2 ^ min 18 32) = y / 262144 := fdiv64 y 18
  rw [e6, e69, e18, lo6 y h0 h1, lo6 (y / 64) (by omega) (by omega), lo6 (y / 4096) (by omega) (by omega), ← ri_app]
  unfold enc
  by_cases c1 : y < 128
  · simp only [c1, decide_true, if_true, ri_cons, ri_nil]
    rw [wrap_u8 (by omega) (by omega)]
  · by_cases c2 : y < 2048
    · simp only [c1, c2, decide_true, decide_false, if_true, if_false, ri_cons, ri_nil, Bool.false_eq_true]
      rw [wrap_u8 (n := y / 64) (by omega) (by omega), Utf.o8 (n := 32) (by omega) (by omega) (by omega), wrap_u8 (by omega) (by omega)]
    · by_cases c3 : y < 65536
      · simp only [c1, c2, c3, decide_true, decide_false, if_true, if_false, ri_cons, ri_nil, Bool.false_eq_true]
        rw [wrap_u8 (n := y / 4096) (by omega) (by omega), Utf.o8 (n := 16) (by omega) (by omega) (by omega), wrap_u8 (by omega) (by omega)]
      · simp only [c1, c2, c3, decide_true, decide_false, if_true, if_false, ri_cons, ri_nil, Bool.false_eq_true]
        rw [wrap_u8 (n := y / 262144) (by omega) (by omega), Utf.o8 (n := 8) (by omega) (by omega) (by omega), wrap_u8 (by omega) (by omega)]

end Go.Lift.R4
end

section
/- The characters' bytes: what the reference's Encode computes. -/
open Go.Proofs
namespace Go.Lift.R4
set_option linter.unusedSectionVars false
variable [MX]
set_option linter.unusedVariables false
set_option linter.unusedSimpArgs false
open Utf
set_option maxRecDepth 20000
set_option linter.unusedSimpArgs false

def isc (x : Int) : Bool := decide (0 ≤ x) && decide (x ≤ 1114111) && (decide (x < 55296) || decide (57343 < x))
theorem isc_scal (x : Int) : (if (!isc x) = true then 65533 else x) = scal x := by
  unfold isc scal
  by_cases a : x < 0 <;> by_cases b : 1114111 < x <;> by_cases c : 55296 ≤ x <;> by_cases d : x ≤ 57343 <;> simp [a, b, c, d] <;> omega

/-- ref2.Is -/
theorem f71 {lo : Nat} {x : Int} {h : Heap} : E lo 71 [.v (.int .i32 x)] h = some (.v (.bool (isc x)), h) := by
  rw [e71 (by simp) (by rfl)]
  simp only [go_sem, b71, Tryz.f71, isc]

theorem bytes_eq2 (y : Int) (h0 : 0 ≤ y) (h1 : y ≤ 1114111) (out : List Int) :
    (if decide (y < 128) = true then ri .u8 out ++ [[V.v (.int .u8 (IntKind.u8.wrap y))]]
     else if decide (y < 2048) = true then ri .u8 out ++ [[V.v (.int .u8 (IntKind.u8.wrap (IntKind.i32.wrap ↑(BitVec.ofInt 32 192 ||| BitVec.ofInt 32 (y.fdiv (2 ^ min 6 32))).toNat)))],
       [V.v (.int .u8 (IntKind.u8.wrap (IntKind.i32.wrap ↑(BitVec.ofInt 32 128 ||| BitVec.ofInt 32 (IntKind.i32.wrap ↑(BitVec.ofInt 32 y &&& BitVec.ofInt 32 63).toNat)).toNat)))]]
     else if decide (y < 65536) = true then ri .u8 out ++ [[V.v (.int .u8 (IntKind.u8.wrap (IntKind.i32.wrap ↑(BitVec.ofInt 32 224 ||| BitVec.ofInt 32 (y.fdiv (2 ^ min 12 32))).toNat)))],
       [V.v (.int .u8 (IntKind.u8.wrap (IntKind.i32.wrap ↑(BitVec.ofInt 32 128 ||| BitVec.ofInt 32 (IntKind.i32.wrap ↑(BitVec.ofInt 32 (y.fdiv (2 ^ min 6 32)) &&& BitVec.ofInt 32 63).toNat)).toNat)))],
       [V.v (.int .u8 (IntKind.u8.wrap (IntKind.i32.wrap ↑(BitVec.ofInt 32 128 ||| BitVec.ofInt 32 (IntKind.i32.wrap ↑(BitVec.ofInt 32 y &&& BitVec.ofInt 32 63).toNat)).toNat)))]]
     else ri .u8 out ++ [[V.v (.int .u8 (IntKind.u8.wrap (IntKind.i32.wrap ↑(BitVec.ofInt 32 240 ||| BitVec.ofInt 32 (y.fdiv (2 ^ min 18 32))).toNat)))],
       [V.v (.int .u8 (IntKind.u8.wrap (IntKind.i32.wrap ↑(BitVec.ofInt 32 128 ||| BitVec.ofInt 32 (IntKind.i32.wrap ↑(BitVec.ofInt 32 (y.fdiv (2 ^ min 12 32)) &&& BitVec.ofInt 32 63).toNat)).toNat)))],
       [V.v (.int .u8 (IntKind.u8.wrap (IntKind.i32.wrap ↑(BitVec.ofInt 32 128 ||| BitVec.ofInt 32 (IntKind.i32.wrap ↑(BitVec.ofInt 32 (y.fdiv (2 ^ min 6 32)) &&& BitVec.ofInt 32 63).toNat)).toNat)))],
       [V.v (.int .u8 (IntKind.u8.wrap (IntKind.i32.wrap ↑(BitVec.ofInt 32 128 ||| BitVec.ofInt 32 (IntKind.i32.wrap ↑(BitVec.ofInt 32 y &&& BitVec.ofInt 32 63).toNat)).toNat)))]])
    = ri .u8 (out ++ enc y) := by
  have lo6 : ∀ z : Int, 0 ≤ z → z ≤ 1114111 → IntKind.u8.wrap (IntKind.i32.wrap ↑(BitVec.ofInt 32 128 ||| BitVec.ofInt 32 (IntKind.i32.wrap ↑(BitVec.ofInt 32 z &&& BitVec.ofInt 32 63).toNat)).toNat) = 128 + z % 64 := by
    intro z z0 z1
    rw [and63 z0 (by omega), wrap_i32 (n := z % 64) (by omega) (by omega), Utf.o32 (n := 64) (by omega) (by omega) (by omega), wrap_i32 (by omega) (by omega), wrap_u8 (by omega) (by omega)]
  have e6 : y.fdiv (2 ^ min 6 32) = y / 64 := fdiv64 y 6
  have e12 : y.fdiv (2 ^ min 12 32) = y / 4096 := fdiv64 y 12
  have e18 : y.fdiv (2 ^ min 18 32) = y / 262144 := fdiv64 y 18
  rw [e6, e12, e18, lo6 y h0 h1, lo6 (y / 64) (by omega) (by omega), lo6 (y / 4096) (by omega) (by omega), ← ri_app]
  unfold enc
  by_cases c1 : y < 128
  · simp only [c1, decide_true, if_true, ri_cons, ri_nil]
    rw [wrap_u8 (by omega) (by omega)]
  · by_cases c2 : y < 2048
    · simp only [c1, c2, decide_true, decide_false, if_true, if_false, ri_cons, ri_nil, Bool.false_eq_true]
      rw [Utf.o32 (n := 32) (by omega) (by omega) (by omega), wrap_i32 (by omega) (by omega), wrap_u8 (by omega) (by omega)]
    · by_cases c3 : y < 65536
      · simp only [c1, c2, c3, decide_true, decide_false, if_true, if_false, ri_cons, ri_nil, Bool.false_eq_true]
        rw [Utf.o32 (n := 16) (by omega) (by omega) (by omega), wrap_i32 (by omega) (by omega), wrap_u8 (by omega) (by omega)]
      · simp only [c1, c2, c3, decide_true, decide_false, if_true, if_false, ri_cons, ri_nil, Bool.false_eq_true]
        rw [Utf.o32 (n := 8) (by omega) (by omega) (by omega), wrap_i32 (by omega) (by omega), wrap_u8 (by omega) (by omega)]

theorem round122 {lo : Nat} {l out : List Int} {h : Heap} {i : Nat} {x : Int} (hx : l[i]? = some x) (hi : i < l.length) (hl : l.length ≤ 35184372088832) (ho : out.length ≤ 140737488355324) :
   evCode ⟨Tryz.prog, E, lo, h.length, h122⟩ loopW l122x0 ([(3, .list .yes (ri .u8 out)), (6, .list .no (ri .i32 l)), (7, .v (.int .i64 l.length)), (8, .v (.int .i64 i))], h) =
     some (.normal, [(3, .list .yes (ri .u8 (out ++ enc (scal x)))), (6, .list .no (ri .i32 l)), (7, .v (.int .i64 l.length)), (8, .v (.int .i64 (i + 1 : Nat)))], h) := by
  have hd : decide ((i : Int) < l.length) = true := by simpa using hi
  have hr : ∀ k, k ≤ 4 → (out.length + k) * 1 ≤ 140737488355328 := by intro k hk; omega
  have hq : ∀ k, 9223372036854775800 ≤ k → out.length ≤ k := by intro k hk; omega
  have hw : IntKind.i64.wrap ((i : Int) + 1) = ((i + 1 : Nat) : Int) := wrap_succ (by omega)
  have hs := isc_scal x
  simp only [go_sem, l122x0, b122, Tryz.f122, hd, hx, hr, hq, hw, f71, hs]
  have hy := scal_in x
  exact congrArg (fun r => (Ex.normal, (([(3, V.list .yes r), (6, V.list .no (ri .i32 l)), (7, .v (.int .i64 l.length)), (8, .v (.int .i64 (i + 1 : Nat)))] : Env), h))) (bytes_eq2 (scal x) hy.1 hy.2 out)

theorem loop122 {lo : Nat} {l : List Int} {h : Heap} (hl : l.length ≤ 35184372088832) : ∀ (n i : Nat) (out : List Int), n = l.length - i → i ≤ l.length → out.length ≤ 4 * i →
   loopW (evCode ⟨Tryz.prog, E, lo, h.length, h122⟩ loopW l122x0) ([(3, .list .yes (ri .u8 out)), (6, .list .no (ri .i32 l)), (7, .v (.int .i64 l.length)), (8, .v (.int .i64 i))], h) =
     some (.exit 0, [(3, .list .yes (ri .u8 (out ++ (l.drop i).flatMap fun x => enc (scal x)))), (6, .list .no (ri .i32 l)), (7, .v (.int .i64 l.length)), (8, .v (.int .i64 l.length)), (9, .v (.bool false))], h) := by
  intro n
  induction n with
  | zero =>
    intro i out hn hi ho
    obtain rfl : i = l.length := by omega
    rw [loop_eq]
    have hd : decide ((l.length : Int) < l.length) = false := by simp
    simp only [go_sem, l122x0, b122, Tryz.f122, hd, List.drop_length, List.flatMap_nil]
  | succ n ih =>
    intro i out hn hi ho
    have hlt : i < l.length := by omega
    have hx : l[i]? = some l[i] := List.getElem?_eq_getElem hlt
    have he : (enc (scal l[i])).length ≤ 4 := by
      unfold enc
      split
      · simp
      · split
        · simp
        · split <;> simp
    rw [loop_eq, round122 hx hlt hl (by omega), loop_n, ih (i + 1) _ (by omega) (by omega) (by rw [List.length_append]; omega), List.drop_eq_getElem_cons hlt, List.flatMap_cons, List.append_assoc]

/-- ref2.Encode -/
theorem f122 {lo : Nat} {l : List Int} {h : Heap} (hl : l.length ≤ 35184372088832) :
    E lo 122 [.list .no (ri .i32 l)] h = some (.list .no (ri .u8 (l.flatMap fun x => enc (scal x))), h) := by
  rw [e122 (by simp) (by rfl)]
  have hL := loop122 (lo := lo) (h := h) hl _ 0 [] rfl (by omega) (by simp)
  simp only [l122x0, b122, Tryz.f122, loopAt, loops, bodyOf, go_sem, List.drop_zero, ri_nil] at hL
  simp only [go_sem, b122, Tryz.f122, hL]
end Go.Lift.R4
end

section
/- utf.step: what stands in front of the bytes. -/
open Go.Proofs
namespace Go.Lift.R4
set_option linter.unusedSectionVars false
variable [MX]
set_option linter.unusedVariables false
set_option linter.unusedSimpArgs false
open Utf
set_option maxRecDepth 20000
set_option linter.unusedSimpArgs false

theorem round123 {lo : Nat} {b : List Int} {h : Heap} {i n : Nat} {r low high c : Int} (hc : b[i + 1]? = some c) (hi : i < n) (hn : n ≤ 3) (hb : b.length ≤ 140737488355328) (hl : i + 1 < b.length)
    (c0 : 0 ≤ c) (c1 : c ≤ 255) (r0 : 0 ≤ r) (r1 : r ≤ 1000000) (hx : (decide (c < low) || decide (high < c)) = false) :
   evCode ⟨Tryz.prog, E, lo, h.length, h123⟩ loopW l123x0 ([(0, .list .no (ri .u8 b)), (5, .v (.int .u8 low)), (6, .v (.int .u8 high)), (7, .v (.int .i64 n)), (8, .v (.int .i32 r)), (58, .v (.int .i64 n)), (59, .v (.int .i64 i))], h) =
     some (.normal, [(0, .list .no (ri .u8 b)), (5, .v (.int .u8 128)), (6, .v (.int .u8 191)), (7, .v (.int .i64 n)), (8, .v (.int .i32 (r * 64 + c % 64))), (58, .v (.int .i64 n)), (59, .v (.int .i64 (i + 1 : Nat)))], h) := by
  have hd : decide ((i : Int) < n) = true := by simpa using hi
  have hw : IntKind.i64.wrap ((i : Int) + 1) = ((i + 1 : Nat) : Int) := wrap_succ (by omega)
  have hg : decide ((b.length : Int) ≤ (i + 1 : Nat)) = false := by simp; omega
  have hx1 : decide (c < low) = false := by simp at hx; simp; omega
  have hx2 : decide (high < c) = false := by simp at hx; simp; omega
  simp only [go_sem, l123x0, b123, Tryz.f123, hd, hc, hw, hg, hx1, hx2]
  rw [shl6 r0 r1, a63 c0 c1, wrap_u8 (by omega) (by omega), wrap_i32 (n := c % 64) (by omega) (by omega), or64 r0 r1 (by omega) (by omega), wrap_i32 (by omega) (by omega)]

theorem stop123 {lo : Nat} {b : List Int} {h : Heap} {i n : Nat} {r low high : Int} (hi : i < n) (hn : n ≤ 3) (hb : b.length ≤ 140737488355328)
    (hs : b.length ≤ i + 1 ∨ ∃ c, b[i + 1]? = some c ∧ i + 1 < b.length ∧ (c < low ∨ high < c)) :
   evCode ⟨Tryz.prog, E, lo, h.length, h123⟩ loopW l123x0 ([(0, .list .no (ri .u8 b)), (5, .v (.int .u8 low)), (6, .v (.int .u8 high)), (7, .v (.int .i64 n)), (8, .v (.int .i32 r)), (58, .v (.int .i64 n)), (59, .v (.int .i64 i))], h) =
     some (.ret, [(2, .v (.int .i32 65533)), (3, .v (.int .i64 (i + 1 : Nat)))], h) := by
  have hd : decide ((i : Int) < n) = true := by simpa using hi
  have hw : IntKind.i64.wrap ((i : Int) + 1) = ((i + 1 : Nat) : Int) := wrap_succ (by omega)
  rcases hs with hs | ⟨c, hc, hl, hs⟩
  · have hg : decide ((b.length : Int) ≤ (i + 1 : Nat)) = true := by simp; omega
    have hc : b[i + 1]? = none := List.getElem?_eq_none hs
    simp only [go_sem, l123x0, b123, Tryz.f123, hd, hw, hg, hc]
  · have hg : decide ((b.length : Int) ≤ (i + 1 : Nat)) = false := by simp; omega
    by_cases h1 : c < low
    · have hx1 : decide (c < low) = true := by simp; omega
      simp only [go_sem, l123x0, b123, Tryz.f123, hd, hc, hw, hg, hx1]
    · have hx1 : decide (c < low) = false := by simp; omega
      have hx2 : decide (high < c) = true := by simp; omega
      simp only [go_sem, l123x0, b123, Tryz.f123, hd, hc, hw, hg, hx1, hx2]

/-- how the loop ends -/
def end123 (b : List Int) (n : Nat) (x : Int × Nat × Bool) (h : Heap) (z : Ex × St) : Prop :=
  if x.2.2 = true then ∃ low high, z = (.exit 3, [(0, .list .no (ri .u8 b)), (5, .v (.int .u8 low)), (6, .v (.int .u8 high)), (7, .v (.int .i64 n)), (8, .v (.int .i32 x.1)), (58, .v (.int .i64 n)), (59, .v (.int .i64 n)), (60, .v (.bool false))], h)
  else z = (.ret, [(2, .v (.int .i32 x.1)), (3, .v (.int .i64 x.2.1))], h)

theorem more_snd : ∀ (n : Nat) (r lo hi : Int) (k : Nat) (t : List Int), (more n r lo hi k t).2.2 = true → (more n r lo hi k t).2.1 = k + n
  | 0, _, _, _, _, _, _ => rfl
  | n + 1, r, lo, hi, k, [], h => by simp [more] at h
  | n + 1, r, lo, hi, k, c :: t, h => by
    unfold more at h ⊢
    split at h
    · simp at h
    · rename_i hc
      rw [if_neg hc, more_snd n _ _ _ _ _ h]
      omega

theorem loop123 {lo : Nat} {b : List Int} {h : Heap} {n : Nat} (hn : n ≤ 3) (hb : b.length ≤ 140737488355328) (hy : By b) : ∀ (m i : Nat) (r low high : Int), m = n - i → i ≤ n → 0 ≤ r → (r + 1) * 64 ^ m ≤ 64000000 →
   ∃ z, loopW (evCode ⟨Tryz.prog, E, lo, h.length, h123⟩ loopW l123x0) ([(0, .list .no (ri .u8 b)), (5, .v (.int .u8 low)), (6, .v (.int .u8 high)), (7, .v (.int .i64 n)), (8, .v (.int .i32 r)), (58, .v (.int .i64 n)), (59, .v (.int .i64 i))], h) = some z
     ∧ end123 b n (more m r low high (i + 1) (b.drop (i + 1))) h z := by
  intro m
  induction m with
  | zero =>
    intro i r low high hm hi h0 h1
    obtain rfl : i = n := by omega
    have hd : decide ((i : Int) < i) = false := by simp
    rw [loop_eq]
    simp only [go_sem, l123x0, b123, Tryz.f123, hd]
    exact ⟨_, rfl, low, high, rfl⟩
  | succ m ih =>
    intro i r low high hm hi h0 h1
    have hlt : i < n := by omega
    rw [loop_eq]
    by_cases hl : i + 1 < b.length
    · have hc : b[i + 1]? = some b[i + 1] := List.getElem?_eq_getElem hl
      have hcy := hy b[i + 1] (List.getElem_mem hl)
      rw [List.drop_eq_getElem_cons hl]
      by_cases hx : b[i + 1] < low ∨ high < b[i + 1]
      · rw [stop123 hlt hn hb (.inr ⟨_, hc, hl, hx⟩), loop_r]
        exact ⟨_, rfl, by simp only [more, if_pos hx]; rfl⟩
      · rw [Int.pow_succ] at h1
        have hp : (1 : Int) ≤ 64 ^ m := Int.pow_pos (by omega)
        have hr : (r + 1) * 64 * 64 ^ m = (r + 1) * (64 ^ m * 64) := by rw [Int.mul_assoc, Int.mul_comm 64]
        have h2 : (r + 1) * 64 * 1 ≤ (r + 1) * 64 * 64 ^ m := Int.mul_le_mul_of_nonneg_left hp (by omega)
        have h3 : (r * 64 + b[i + 1] % 64 + 1) * 64 ^ m ≤ (r + 1) * 64 * 64 ^ m := Int.mul_le_mul_of_nonneg_right (by omega) (by omega)
        rw [round123 hc hlt hn hb hl hcy.1 hcy.2 h0 (by omega) (by simp; omega), loop_n]
        have := ih (i + 1) (r * 64 + b[i + 1] % 64) 128 191 (by omega) (by omega) (by omega) (by omega)
        simpa only [more, if_neg hx] using this
    · have hs : b.length ≤ i + 1 := by omega
      rw [stop123 hlt hn hb (.inl hs), loop_r, List.drop_eq_nil_of_le hs]
      exact ⟨_, rfl, rfl⟩
end Go.Lift.R4
end

section
/- utf.step by the classes of the first byte. Written by u5.py. -/
open Go.Proofs
namespace Go.Lift.R4
set_option linter.unusedSectionVars false
variable [MX]
open Utf
set_option maxRecDepth 20000
set_option linter.unusedSimpArgs false
set_option linter.unusedVariables false

/-- the answer as the program hands it on -/
def two (x : Int × Nat × Bool) : V := .tup [.v (.int .i32 x.1), .v (.int .i64 x.2.1)]

theorem f123a {lo : Nat} {c : Int} {t : List Int} {h : Heap} (hb : (c :: t).length ≤ 140737488355328) (hy : By (c :: t)) (hc : 194 ≤ c ∧ c ≤ 223) :
    E lo 123 [.list .no (ri .u8 (c :: t))] h = some (two (more 1 (c % 32) 128 191 1 t), h) := by
  have hcy := hy c (List.mem_cons_self ..)
  have t0 : decide (c < 128) = false := by simp; omega
  have t1 : decide (194 ≤ c) = true := by simp; omega
  have t2 : decide (c ≤ 223) = true := by simp; omega
  have t3 : decide (224 ≤ c) = false := by simp; omega
  have t4 : decide (c ≤ 239) = true := by simp; omega
  have t5 : decide (240 ≤ c) = false := by simp; omega
  have t6 : decide (c ≤ 244) = true := by simp; omega
  have q0 : (c == 224) = false := by simp; omega
  have q1 : (c == 237) = false := by simp; omega
  have q2 : (c == 240) = false := by simp; omega
  have q3 : (c == 244) = false := by simp; omega
  have hx : (c :: t)[0]? = some c := rfl
  have hm : IntKind.i32.wrap (IntKind.u8.wrap (iand .u8 c 31)) = c % 32 := by rw [a31 hcy.1 hcy.2, wrap_u8 (by omega) (by omega), wrap_i32 (by omega) (by omega)]
  obtain ⟨z, hL, hz⟩ := loop123 (lo := lo) (b := c :: t) (h := h) (n := 1) (by omega) hb hy 1 0 (c % 32) 128 191 rfl (by omega) (by omega) (by omega)
  have hn : (c :: t).drop (0 + 1) = t := rfl
  rw [hn] at hz
  have n1 : ((1 : Nat) : Int) = 1 := rfl
  have n2 : ((2 : Nat) : Int) = 2 := rfl
  have n3 : ((3 : Nat) : Int) = 3 := rfl
  simp only [l123x0, b123, Tryz.f123, loopAt, loops, bodyOf, go_sem, n1, n2, n3] at hL
  rw [e123 (by simp) (by rfl)]
  unfold end123 at hz
  split at hz
  · rename_i hk
    obtain ⟨low, high, rfl⟩ := hz
    simp only [n1, n2, n3] at hL
    simp only [go_sem, b123, Tryz.f123, hx, t0, t1, t2, t3, t4, t5, t6, q0, q1, q2, q3, hm, hL]
    rw [two, more_snd _ _ _ _ _ _ hk]
    rfl
  · subst hz
    simp only [go_sem, b123, Tryz.f123, hx, t0, t1, t2, t3, t4, t5, t6, q0, q1, q2, q3, hm, hL]
    rfl

theorem f123b {lo : Nat} {c : Int} {t : List Int} {h : Heap} (hb : (c :: t).length ≤ 140737488355328) (hy : By (c :: t)) (hc : c = 224) :
    E lo 123 [.list .no (ri .u8 (c :: t))] h = some (two (more 2 (c % 16) 160 191 1 t), h) := by
  have hcy := hy c (List.mem_cons_self ..)
  have t0 : decide (c < 128) = false := by simp; omega
  have t1 : decide (194 ≤ c) = true := by simp; omega
  have t2 : decide (c ≤ 223) = false := by simp; omega
  have t3 : decide (224 ≤ c) = true := by simp; omega
  have t4 : decide (c ≤ 239) = true := by simp; omega
  have t5 : decide (240 ≤ c) = false := by simp; omega
  have t6 : decide (c ≤ 244) = true := by simp; omega
  have q0 : (c == 224) = true := by simp; omega
  have q1 : (c == 237) = false := by simp; omega
  have q2 : (c == 240) = false := by simp; omega
  have q3 : (c == 244) = false := by simp; omega
  have hx : (c :: t)[0]? = some c := rfl
  have hm : IntKind.i32.wrap (IntKind.u8.wrap (iand .u8 c 15)) = c % 16 := by rw [a15 hcy.1 hcy.2, wrap_u8 (by omega) (by omega), wrap_i32 (by omega) (by omega)]
  obtain ⟨z, hL, hz⟩ := loop123 (lo := lo) (b := c :: t) (h := h) (n := 2) (by omega) hb hy 2 0 (c % 16) 160 191 rfl (by omega) (by omega) (by omega)
  have hn : (c :: t).drop (0 + 1) = t := rfl
  rw [hn] at hz
  have n1 : ((1 : Nat) : Int) = 1 := rfl
  have n2 : ((2 : Nat) : Int) = 2 := rfl
  have n3 : ((3 : Nat) : Int) = 3 := rfl
  simp only [l123x0, b123, Tryz.f123, loopAt, loops, bodyOf, go_sem, n1, n2, n3] at hL
  rw [e123 (by simp) (by rfl)]
  unfold end123 at hz
  split at hz
  · rename_i hk
    obtain ⟨low, high, rfl⟩ := hz
    simp only [n1, n2, n3] at hL
    simp only [go_sem, b123, Tryz.f123, hx, t0, t1, t2, t3, t4, t5, t6, q0, q1, q2, q3, hm, hL]
    rw [two, more_snd _ _ _ _ _ _ hk]
    rfl
  · subst hz
    simp only [go_sem, b123, Tryz.f123, hx, t0, t1, t2, t3, t4, t5, t6, q0, q1, q2, q3, hm, hL]
    rfl

theorem f123c {lo : Nat} {c : Int} {t : List Int} {h : Heap} (hb : (c :: t).length ≤ 140737488355328) (hy : By (c :: t)) (hc : c = 237) :
    E lo 123 [.list .no (ri .u8 (c :: t))] h = some (two (more 2 (c % 16) 128 159 1 t), h) := by
  have hcy := hy c (List.mem_cons_self ..)
  have t0 : decide (c < 128) = false := by simp; omega
  have t1 : decide (194 ≤ c) = true := by simp; omega
  have t2 : decide (c ≤ 223) = false := by simp; omega
  have t3 : decide (224 ≤ c) = true := by simp; omega
  have t4 : decide (c ≤ 239) = true := by simp; omega
  have t5 : decide (240 ≤ c) = false := by simp; omega
  have t6 : decide (c ≤ 244) = true := by simp; omega
  have q0 : (c == 224) = false := by simp; omega
  have q1 : (c == 237) = true := by simp; omega
  have q2 : (c == 240) = false := by simp; omega
  have q3 : (c == 244) = false := by simp; omega
  have hx : (c :: t)[0]? = some c := rfl
  have hm : IntKind.i32.wrap (IntKind.u8.wrap (iand .u8 c 15)) = c % 16 := by rw [a15 hcy.1 hcy.2, wrap_u8 (by omega) (by omega), wrap_i32 (by omega) (by omega)]
  obtain ⟨z, hL, hz⟩ := loop123 (lo := lo) (b := c :: t) (h := h) (n := 2) (by omega) hb hy 2 0 (c % 16) 128 159 rfl (by omega) (by omega) (by omega)
  have hn : (c :: t).drop (0 + 1) = t := rfl
  rw [hn] at hz
  have n1 : ((1 : Nat) : Int) = 1 := rfl
  have n2 : ((2 : Nat) : Int) = 2 := rfl
  have n3 : ((3 : Nat) : Int) = 3 := rfl
  simp only [l123x0, b123, Tryz.f123, loopAt, loops, bodyOf, go_sem, n1, n2, n3] at hL
  rw [e123 (by simp) (by rfl)]
  unfold end123 at hz
  split at hz
  · rename_i hk
    obtain ⟨low, high, rfl⟩ := hz
    simp only [n1, n2, n3] at hL
    simp only [go_sem, b123, Tryz.f123, hx, t0, t1, t2, t3, t4, t5, t6, q0, q1, q2, q3, hm, hL]
    rw [two, more_snd _ _ _ _ _ _ hk]
    rfl
  · subst hz
    simp only [go_sem, b123, Tryz.f123, hx, t0, t1, t2, t3, t4, t5, t6, q0, q1, q2, q3, hm, hL]
    rfl

theorem f123d {lo : Nat} {c : Int} {t : List Int} {h : Heap} (hb : (c :: t).length ≤ 140737488355328) (hy : By (c :: t)) (hc : 225 ≤ c ∧ c ≤ 239 ∧ c ≠ 237) :
    E lo 123 [.list .no (ri .u8 (c :: t))] h = some (two (more 2 (c % 16) 128 191 1 t), h) := by
  have hcy := hy c (List.mem_cons_self ..)
  have t0 : decide (c < 128) = false := by simp; omega
  have t1 : decide (194 ≤ c) = true := by simp; omega
  have t2 : decide (c ≤ 223) = false := by simp; omega
  have t3 : decide (224 ≤ c) = true := by simp; omega
  have t4 : decide (c ≤ 239) = true := by simp; omega
  have t5 : decide (240 ≤ c) = false := by simp; omega
  have t6 : decide (c ≤ 244) = true := by simp; omega
  have q0 : (c == 224) = false := by simp; omega
  have q1 : (c == 237) = false := by simp; omega
  have q2 : (c == 240) = false := by simp; omega
  have q3 : (c == 244) = false := by simp; omega
  have hx : (c :: t)[0]? = some c := rfl
  have hm : IntKind.i32.wrap (IntKind.u8.wrap (iand .u8 c 15)) = c % 16 := by rw [a15 hcy.1 hcy.2, wrap_u8 (by omega) (by omega), wrap_i32 (by omega) (by omega)]
  obtain ⟨z, hL, hz⟩ := loop123 (lo := lo) (b := c :: t) (h := h) (n := 2) (by omega) hb hy 2 0 (c % 16) 128 191 rfl (by omega) (by omega) (by omega)
  have hn : (c :: t).drop (0 + 1) = t := rfl
  rw [hn] at hz
  have n1 : ((1 : Nat) : Int) = 1 := rfl
  have n2 : ((2 : Nat) : Int) = 2 := rfl
  have n3 : ((3 : Nat) : Int) = 3 := rfl
  simp only [l123x0, b123, Tryz.f123, loopAt, loops, bodyOf, go_sem, n1, n2, n3] at hL
  rw [e123 (by simp) (by rfl)]
  unfold end123 at hz
  split at hz
  · rename_i hk
    obtain ⟨low, high, rfl⟩ := hz
    simp only [n1, n2, n3] at hL
    simp only [go_sem, b123, Tryz.f123, hx, t0, t1, t2, t3, t4, t5, t6, q0, q1, q2, q3, hm, hL]
    rw [two, more_snd _ _ _ _ _ _ hk]
    rfl
  · subst hz
    simp only [go_sem, b123, Tryz.f123, hx, t0, t1, t2, t3, t4, t5, t6, q0, q1, q2, q3, hm, hL]
    rfl

theorem f123e {lo : Nat} {c : Int} {t : List Int} {h : Heap} (hb : (c :: t).length ≤ 140737488355328) (hy : By (c :: t)) (hc : c = 240) :
    E lo 123 [.list .no (ri .u8 (c :: t))] h = some (two (more 3 (c % 8) 144 191 1 t), h) := by
  have hcy := hy c (List.mem_cons_self ..)
  have t0 : decide (c < 128) = false := by simp; omega
  have t1 : decide (194 ≤ c) = true := by simp; omega
  have t2 : decide (c ≤ 223) = false := by simp; omega
  have t3 : decide (224 ≤ c) = true := by simp; omega
  have t4 : decide (c ≤ 239) = false := by simp; omega
  have t5 : decide (240 ≤ c) = true := by simp; omega
  have t6 : decide (c ≤ 244) = true := by simp; omega
  have q0 : (c == 224) = false := by simp; omega
  have q1 : (c == 237) = false := by simp; omega
  have q2 : (c == 240) = true := by simp; omega
  have q3 : (c == 244) = false := by simp; omega
  have hx : (c :: t)[0]? = some c := rfl
  have hm : IntKind.i32.wrap (IntKind.u8.wrap (iand .u8 c 7)) = c % 8 := by rw [a7 hcy.1 hcy.2, wrap_u8 (by omega) (by omega), wrap_i32 (by omega) (by omega)]
  obtain ⟨z, hL, hz⟩ := loop123 (lo := lo) (b := c :: t) (h := h) (n := 3) (by omega) hb hy 3 0 (c % 8) 144 191 rfl (by omega) (by omega) (by omega)
  have hn : (c :: t).drop (0 + 1) = t := rfl
  rw [hn] at hz
  have n1 : ((1 : Nat) : Int) = 1 := rfl
  have n2 : ((2 : Nat) : Int) = 2 := rfl
  have n3 : ((3 : Nat) : Int) = 3 := rfl
  simp only [l123x0, b123, Tryz.f123, loopAt, loops, bodyOf, go_sem, n1, n2, n3] at hL
  rw [e123 (by simp) (by rfl)]
  unfold end123 at hz
  split at hz
  · rename_i hk
    obtain ⟨low, high, rfl⟩ := hz
    simp only [n1, n2, n3] at hL
    simp only [go_sem, b123, Tryz.f123, hx, t0, t1, t2, t3, t4, t5, t6, q0, q1, q2, q3, hm, hL]
    rw [two, more_snd _ _ _ _ _ _ hk]
    rfl
  · subst hz
    simp only [go_sem, b123, Tryz.f123, hx, t0, t1, t2, t3, t4, t5, t6, q0, q1, q2, q3, hm, hL]
    rfl

theorem f123f {lo : Nat} {c : Int} {t : List Int} {h : Heap} (hb : (c :: t).length ≤ 140737488355328) (hy : By (c :: t)) (hc : 241 ≤ c ∧ c ≤ 243) :
    E lo 123 [.list .no (ri .u8 (c :: t))] h = some (two (more 3 (c % 8) 128 191 1 t), h) := by
  have hcy := hy c (List.mem_cons_self ..)
  have t0 : decide (c < 128) = false := by simp; omega
  have t1 : decide (194 ≤ c) = true := by simp; omega
  have t2 : decide (c ≤ 223) = false := by simp; omega
  have t3 : decide (224 ≤ c) = true := by simp; omega
  have t4 : decide (c ≤ 239) = false := by simp; omega
  have t5 : decide (240 ≤ c) = true := by simp; omega
  have t6 : decide (c ≤ 244) = true := by simp; omega
  have q0 : (c == 224) = false := by simp; omega
  have q1 : (c == 237) = false := by simp; omega
  have q2 : (c == 240) = false := by simp; omega
  have q3 : (c == 244) = false := by simp; omega
  have hx : (c :: t)[0]? = some c := rfl
  have hm : IntKind.i32.wrap (IntKind.u8.wrap (iand .u8 c 7)) = c % 8 := by rw [a7 hcy.1 hcy.2, wrap_u8 (by omega) (by omega), wrap_i32 (by omega) (by omega)]
  obtain ⟨z, hL, hz⟩ := loop123 (lo := lo) (b := c :: t) (h := h) (n := 3) (by omega) hb hy 3 0 (c % 8) 128 191 rfl (by omega) (by omega) (by omega)
  have hn : (c :: t).drop (0 + 1) = t := rfl
  rw [hn] at hz
  have n1 : ((1 : Nat) : Int) = 1 := rfl
  have n2 : ((2 : Nat) : Int) = 2 := rfl
  have n3 : ((3 : Nat) : Int) = 3 := rfl
  simp only [l123x0, b123, Tryz.f123, loopAt, loops, bodyOf, go_sem, n1, n2, n3] at hL
  rw [e123 (by simp) (by rfl)]
  unfold end123 at hz
  split at hz
  · rename_i hk
    obtain ⟨low, high, rfl⟩ := hz
    simp only [n1, n2, n3] at hL
    simp only [go_sem, b123, Tryz.f123, hx, t0, t1, t2, t3, t4, t5, t6, q0, q1, q2, q3, hm, hL]
    rw [two, more_snd _ _ _ _ _ _ hk]
    rfl
  · subst hz
    simp only [go_sem, b123, Tryz.f123, hx, t0, t1, t2, t3, t4, t5, t6, q0, q1, q2, q3, hm, hL]
    rfl

theorem f123g {lo : Nat} {c : Int} {t : List Int} {h : Heap} (hb : (c :: t).length ≤ 140737488355328) (hy : By (c :: t)) (hc : c = 244) :
    E lo 123 [.list .no (ri .u8 (c :: t))] h = some (two (more 3 (c % 8) 128 143 1 t), h) := by
  have hcy := hy c (List.mem_cons_self ..)
  have t0 : decide (c < 128) = false := by simp; omega
  have t1 : decide (194 ≤ c) = true := by simp; omega
  have t2 : decide (c ≤ 223) = false := by simp; omega
  have t3 : decide (224 ≤ c) = true := by simp; omega
  have t4 : decide (c ≤ 239) = false := by simp; omega
  have t5 : decide (240 ≤ c) = true := by simp; omega
  have t6 : decide (c ≤ 244) = true := by simp; omega
  have q0 : (c == 224) = false := by simp; omega
  have q1 : (c == 237) = false := by simp; omega
  have q2 : (c == 240) = false := by simp; omega
  have q3 : (c == 244) = true := by simp; omega
  have hx : (c :: t)[0]? = some c := rfl
  have hm : IntKind.i32.wrap (IntKind.u8.wrap (iand .u8 c 7)) = c % 8 := by rw [a7 hcy.1 hcy.2, wrap_u8 (by omega) (by omega), wrap_i32 (by omega) (by omega)]
  obtain ⟨z, hL, hz⟩ := loop123 (lo := lo) (b := c :: t) (h := h) (n := 3) (by omega) hb hy 3 0 (c % 8) 128 143 rfl (by omega) (by omega) (by omega)
  have hn : (c :: t).drop (0 + 1) = t := rfl
  rw [hn] at hz
  have n1 : ((1 : Nat) : Int) = 1 := rfl
  have n2 : ((2 : Nat) : Int) = 2 := rfl
  have n3 : ((3 : Nat) : Int) = 3 := rfl
  simp only [l123x0, b123, Tryz.f123, loopAt, loops, bodyOf, go_sem, n1, n2, n3] at hL
  rw [e123 (by simp) (by rfl)]
  unfold end123 at hz
  split at hz
  · rename_i hk
    obtain ⟨low, high, rfl⟩ := hz
    simp only [n1, n2, n3] at hL
    simp only [go_sem, b123, Tryz.f123, hx, t0, t1, t2, t3, t4, t5, t6, q0, q1, q2, q3, hm, hL]
    rw [two, more_snd _ _ _ _ _ _ hk]
    rfl
  · subst hz
    simp only [go_sem, b123, Tryz.f123, hx, t0, t1, t2, t3, t4, t5, t6, q0, q1, q2, q3, hm, hL]
    rfl

end Go.Lift.R4
end

section
/- utf.step, jalousieref2.need. -/
open Go.Proofs
namespace Go.Lift.R4
set_option linter.unusedSectionVars false
variable [MX]
open Utf
set_option maxRecDepth 20000
set_option linter.unusedSimpArgs false
set_option linter.unusedVariables false

theorem f123 {lo : Nat} {c : Int} {t : List Int} {h : Heap} (hb : (c :: t).length ≤ 140737488355328) (hy : By (c :: t)) :
    E lo 123 [.list .no (ri .u8 (c :: t))] h = some (two (one (c :: t)), h) := by
  have hcy := hy c (List.mem_cons_self ..)
  have hx : (c :: t)[0]? = some c := rfl
  simp only [one]
  by_cases h0 : c < 128
  · rw [if_pos h0]
    have t0 : decide (c < 128) = true := by simp; omega
    have hm : IntKind.i32.wrap c = c := wrap_i32 (by omega) (by omega)
    rw [e123 (by simp) (by rfl)]
    simp only [go_sem, b123, Tryz.f123, hx, t0, hm]
    rfl
  · rw [if_neg h0]
    by_cases ha : 194 ≤ c ∧ c ≤ 223
    · have e : nd c = (1, 128, 191) := by unfold nd; rw [if_pos ha]
      rw [f123a hb hy ha, e]
      rfl
    by_cases hb1 : c = 224
    · have e : nd c = (2, 160, 191) := by unfold nd; rw [if_neg ha, if_pos hb1]
      rw [f123b hb hy hb1, e]
      rfl
    by_cases hc1 : c = 237
    · have e : nd c = (2, 128, 159) := by unfold nd; rw [if_neg ha, if_neg hb1, if_pos hc1]
      rw [f123c hb hy hc1, e]
      rfl
    by_cases hd1 : 225 ≤ c ∧ c ≤ 239
    · have e : nd c = (2, 128, 191) := by unfold nd; rw [if_neg ha, if_neg hb1, if_neg hc1, if_pos hd1]
      rw [f123d hb hy ⟨hd1.1, hd1.2, hc1⟩, e]
      rfl
    by_cases he1 : c = 240
    · have e : nd c = (3, 144, 191) := by unfold nd; rw [if_neg ha, if_neg hb1, if_neg hc1, if_neg hd1, if_pos he1]
      rw [f123e hb hy he1, e]
      rfl
    by_cases hf1 : 241 ≤ c ∧ c ≤ 243
    · have e : nd c = (3, 128, 191) := by unfold nd; rw [if_neg ha, if_neg hb1, if_neg hc1, if_neg hd1, if_neg he1, if_pos hf1]
      rw [f123f hb hy hf1, e]
      rfl
    by_cases hg1 : c = 244
    · have e : nd c = (3, 128, 143) := by unfold nd; rw [if_neg ha, if_neg hb1, if_neg hc1, if_neg hd1, if_neg he1, if_neg hf1, if_pos hg1]
      rw [f123g hb hy hg1, e]
      rfl
    have e : nd c = (0, 0, 0) := by unfold nd; rw [if_neg ha, if_neg hb1, if_neg hc1, if_neg hd1, if_neg he1, if_neg hf1, if_neg hg1]
    rw [e, if_pos rfl]
    have t0 : decide (c < 128) = false := by simp; omega
    have t1 : (decide (194 ≤ c) && decide (c ≤ 223)) = false := by simp; omega
    have t2 : (decide (224 ≤ c) && decide (c ≤ 239)) = false := by simp; omega
    have t3 : (decide (240 ≤ c) && decide (c ≤ 244)) = false := by simp; omega
    rw [e123 (by simp) (by rfl)]
    simp only [go_sem, b123, Tryz.f123, hx, t0, t1, t2, t3]
    rfl

/-- jalousieref2.need -/
theorem f157 {lo : Nat} {c : Int} {h : Heap} (h0 : 0 ≤ c) (h1 : c ≤ 255) : E lo 157 [.v (.int .u8 c)] h = some (.tup [.v (.int .i64 (nd c).1), .v (.int .u8 (nd c).2.1), .v (.int .u8 (nd c).2.2)], h) := by
  rw [e157 (by simp) (by rfl)]
  by_cases ha : 194 ≤ c ∧ c ≤ 223
  · have e : nd c = (1, 128, 191) := by unfold nd; rw [if_pos ha]
    have t1 : (decide (194 ≤ c) && decide (c ≤ 223)) = true := by simp; omega
    rw [e]
    simp only [go_sem, b157, Tryz.f157, t1]
    rfl
  have t1 : (decide (194 ≤ c) && decide (c ≤ 223)) = false := by simp; omega
  by_cases hb1 : c = 224
  · have e : nd c = (2, 160, 191) := by unfold nd; rw [if_neg ha, if_pos hb1]
    have t2 : (c == 224) = true := by simp; omega
    rw [e]
    simp only [go_sem, b157, Tryz.f157, t1, t2]
    rfl
  have t2 : (c == 224) = false := by simp; omega
  by_cases hc1 : c = 237
  · have e : nd c = (2, 128, 159) := by unfold nd; rw [if_neg ha, if_neg hb1, if_pos hc1]
    have t3 : (c == 237) = true := by simp; omega
    rw [e]
    simp only [go_sem, b157, Tryz.f157, t1, t2, t3]
    rfl
  have t3 : (c == 237) = false := by simp; omega
  by_cases hd1 : 225 ≤ c ∧ c ≤ 239
  · have e : nd c = (2, 128, 191) := by unfold nd; rw [if_neg ha, if_neg hb1, if_neg hc1, if_pos hd1]
    have t4 : (decide (225 ≤ c) && decide (c ≤ 239)) = true := by simp; omega
    rw [e]
    simp only [go_sem, b157, Tryz.f157, t1, t2, t3, t4]
    rfl
  have t4 : (decide (225 ≤ c) && decide (c ≤ 239)) = false := by simp; omega
  by_cases he1 : c = 240
  · have e : nd c = (3, 144, 191) := by unfold nd; rw [if_neg ha, if_neg hb1, if_neg hc1, if_neg hd1, if_pos he1]
    have t5 : (c == 240) = true := by simp; omega
    rw [e]
    simp only [go_sem, b157, Tryz.f157, t1, t2, t3, t4, t5]
    rfl
  have t5 : (c == 240) = false := by simp; omega
  by_cases hf1 : 241 ≤ c ∧ c ≤ 243
  · have e : nd c = (3, 128, 191) := by unfold nd; rw [if_neg ha, if_neg hb1, if_neg hc1, if_neg hd1, if_neg he1, if_pos hf1]
    have t6 : (decide (241 ≤ c) && decide (c ≤ 243)) = true := by simp; omega
    rw [e]
    simp only [go_sem, b157, Tryz.f157, t1, t2, t3, t4, t5, t6]
    rfl
  have t6 : (decide (241 ≤ c) && decide (c ≤ 243)) = false := by simp; omega
  by_cases hg1 : c = 244
  · have e : nd c = (3, 128, 143) := by unfold nd; rw [if_neg ha, if_neg hb1, if_neg hc1, if_neg hd1, if_neg he1, if_neg hf1, if_pos hg1]
    have t7 : (c == 244) = true := by simp; omega
    rw [e]
    simp only [go_sem, b157, Tryz.f157, t1, t2, t3, t4, t5, t6, t7]
    rfl
  have t7 : (c == 244) = false := by simp; omega
  have e : nd c = (0, 0, 0) := by unfold nd; rw [if_neg ha, if_neg hb1, if_neg hc1, if_neg hd1, if_neg he1, if_neg hf1, if_neg hg1]
  rw [e]
  simp only [go_sem, b157, Tryz.f157, t1, t2, t3, t4, t5, t6, t7]
end Go.Lift.R4
end

section
/- jalousieref2.one. -/
open Go.Proofs
namespace Go.Lift.R4
set_option linter.unusedSectionVars false
variable [MX]
open Utf
set_option maxRecDepth 20000
set_option linter.unusedSimpArgs false
set_option linter.unusedVariables false

theorem round124 {lo : Nat} {b : List Int} {h : Heap} {i k n : Nat} {r low high c : Int} (hc : b[i + k]? = some c) (hi : k ≤ n) (hn : n ≤ 3) (hb : b.length ≤ 140737488355328) (hl : i + k < b.length)
    (c0 : 0 ≤ c) (c1 : c ≤ 255) (r0 : 0 ≤ r) (r1 : r ≤ 1000000) (hx : ¬ (c < low ∨ high < c)) :
   evCode ⟨Tryz.prog, E, lo, h.length, h124⟩ loopW l124x0 ([(0, .list .no (ri .u8 b)), (1, .v (.int .i64 i)), (8, .v (.int .i64 n)), (9, .v (.int .u8 low)), (10, .v (.int .u8 high)), (11, .v (.int .i32 r)), (12, .v (.int .i64 k))], h) =
     some (.normal, [(0, .list .no (ri .u8 b)), (1, .v (.int .i64 i)), (8, .v (.int .i64 n)), (9, .v (.int .u8 128)), (10, .v (.int .u8 191)), (11, .v (.int .i32 (r * 64 + c % 64))), (12, .v (.int .i64 (k + 1 : Nat)))], h) := by
  have hd : decide ((k : Int) ≤ n) = true := by simpa using hi
  have hw : IntKind.i64.wrap ((i : Int) + k) = ((i + k : Nat) : Int) := by rw [wrap_i64 (by omega) (by omega)]; omega
  have hw1 : IntKind.i64.wrap ((k : Int) + 1) = ((k + 1 : Nat) : Int) := wrap_succ (by omega)
  have hg : decide ((b.length : Int) ≤ (i + k : Nat)) = false := by simp; omega
  have hx1 : decide (c < low) = false := by simp; omega
  have hx2 : decide (high < c) = false := by simp; omega
  simp only [go_sem, l124x0, b124, Tryz.f124, hd, hc, hw, hw1, hg, hx1, hx2]
  rw [shl6 r0 r1, a63 c0 c1, wrap_u8 (by omega) (by omega), wrap_i32 (n := c % 64) (by omega) (by omega), or64 r0 r1 (by omega) (by omega), wrap_i32 (by omega) (by omega)]

theorem stop124 {lo : Nat} {b : List Int} {h : Heap} {i k n : Nat} {r low high : Int} (hi : k ≤ n) (hn : n ≤ 3) (hb : b.length ≤ 140737488355328) (hib : i ≤ 140737488355328)
    (hs : b.length ≤ i + k ∨ ∃ c, b[i + k]? = some c ∧ i + k < b.length ∧ (c < low ∨ high < c)) :
   evCode ⟨Tryz.prog, E, lo, h.length, h124⟩ loopW l124x0 ([(0, .list .no (ri .u8 b)), (1, .v (.int .i64 i)), (8, .v (.int .i64 n)), (9, .v (.int .u8 low)), (10, .v (.int .u8 high)), (11, .v (.int .i32 r)), (12, .v (.int .i64 k))], h) =
     some (.ret, [(4, .v (.int .i32 65533)), (5, .v (.int .i64 k)), (6, .v (.bool false))], h) := by
  have hd : decide ((k : Int) ≤ n) = true := by simpa using hi
  have hw : IntKind.i64.wrap ((i : Int) + k) = ((i + k : Nat) : Int) := by rw [wrap_i64 (by omega) (by omega)]; omega
  have hw1 : IntKind.i64.wrap ((k : Int) + 1) = ((k + 1 : Nat) : Int) := wrap_succ (by omega)
  rcases hs with hs | ⟨c, hc, hl, hs⟩
  · have hg : decide ((b.length : Int) ≤ (i + k : Nat)) = true := by simp; omega
    have hc : b[i + k]? = none := List.getElem?_eq_none hs
    simp only [go_sem, l124x0, b124, Tryz.f124, hd, hw, hw1, hg, hc]
  · have hg : decide ((b.length : Int) ≤ (i + k : Nat)) = false := by simp; omega
    by_cases h1 : c < low
    · have hx1 : decide (c < low) = true := by simp; omega
      simp only [go_sem, l124x0, b124, Tryz.f124, hd, hc, hw, hw1, hg, hx1]
    · have hx1 : decide (c < low) = false := by simp; omega
      have hx2 : decide (high < c) = true := by simp; omega
      simp only [go_sem, l124x0, b124, Tryz.f124, hd, hc, hw, hw1, hg, hx1, hx2]

/-- how the loop ends -/
def end124 (b : List Int) (i n : Nat) (x : Int × Nat × Bool) (h : Heap) (z : Ex × St) : Prop :=
  if x.2.2 = true then ∃ low high, z = (.exit 0, [(0, .list .no (ri .u8 b)), (1, .v (.int .i64 i)), (8, .v (.int .i64 n)), (9, .v (.int .u8 low)), (10, .v (.int .u8 high)), (11, .v (.int .i32 x.1)), (12, .v (.int .i64 (n + 1 : Nat))), (37, .v (.bool false))], h)
  else z = (.ret, [(4, .v (.int .i32 x.1)), (5, .v (.int .i64 x.2.1)), (6, .v (.bool false))], h)

theorem loop124 {lo : Nat} {b : List Int} {h : Heap} {i n : Nat} (hn : n ≤ 3) (hb : b.length ≤ 140737488355328) (hib : i ≤ 140737488355328) (hy : By b) : ∀ (m k : Nat) (r low high : Int), k + m = n + 1 → 0 ≤ r → (r + 1) * 64 ^ m ≤ 64000000 →
   ∃ z, loopW (evCode ⟨Tryz.prog, E, lo, h.length, h124⟩ loopW l124x0) ([(0, .list .no (ri .u8 b)), (1, .v (.int .i64 i)), (8, .v (.int .i64 n)), (9, .v (.int .u8 low)), (10, .v (.int .u8 high)), (11, .v (.int .i32 r)), (12, .v (.int .i64 k))], h) = some z
     ∧ end124 b i n (more m r low high k (b.drop (i + k))) h z := by
  intro m
  induction m with
  | zero =>
    intro k r low high hm h0 h1
    obtain rfl : k = n + 1 := by omega
    have hd : decide (((n + 1 : Nat) : Int) ≤ n) = false := by simp; omega
    rw [loop_eq]
    simp only [go_sem, l124x0, b124, Tryz.f124, hd]
    exact ⟨_, rfl, low, high, rfl⟩
  | succ m ih =>
    intro k r low high hm h0 h1
    have hlt : k ≤ n := by omega
    rw [loop_eq]
    by_cases hl : i + k < b.length
    · have hc : b[i + k]? = some b[i + k] := List.getElem?_eq_getElem hl
      have hcy := hy b[i + k] (List.getElem_mem hl)
      rw [List.drop_eq_getElem_cons hl]
      by_cases hx : b[i + k] < low ∨ high < b[i + k]
      · rw [stop124 hlt hn hb hib (.inr ⟨_, hc, hl, hx⟩), loop_r]
        exact ⟨_, rfl, by simp only [more, if_pos hx]; rfl⟩
      · rw [Int.pow_succ] at h1
        have hp : (1 : Int) ≤ 64 ^ m := Int.pow_pos (by omega)
        have hr : (r + 1) * 64 * 64 ^ m = (r + 1) * (64 ^ m * 64) := by rw [Int.mul_assoc, Int.mul_comm 64]
        have h2 : (r + 1) * 64 * 1 ≤ (r + 1) * 64 * 64 ^ m := Int.mul_le_mul_of_nonneg_left hp (by omega)
        have h3 : (r * 64 + b[i + k] % 64 + 1) * 64 ^ m ≤ (r + 1) * 64 * 64 ^ m := Int.mul_le_mul_of_nonneg_right (by omega) (by omega)
        rw [round124 hc hlt hn hb hl hcy.1 hcy.2 h0 (by omega) hx, loop_n]
        have := ih (k + 1) (r * 64 + b[i + k] % 64) 128 191 (by omega) (by omega) (by omega)
        simpa only [more, if_neg hx, ← Nat.add_assoc] using this
    · have hs : b.length ≤ i + k := by omega
      rw [stop124 hlt hn hb hib (.inl hs), loop_r, List.drop_eq_nil_of_le hs]
      exact ⟨_, rfl, rfl⟩

/-- the answer as the reference hands it on -/
def three (x : Int × Nat × Bool) : V := .tup [.v (.int .i32 x.1), .v (.int .i64 x.2.1), .v (.bool x.2.2)]

theorem f124 {lo : Nat} {b : List Int} {i : Nat} {h : Heap} (hi : i < b.length) (hb : b.length ≤ 140737488355328) (hy : By b) :
    E lo 124 [.list .no (ri .u8 b), .v (.int .i64 i)] h = some (three (one (b.drop i)), h) := by
  have hx : b[i]? = some b[i] := List.getElem?_eq_getElem hi
  have hcy := hy b[i] (List.getElem_mem hi)
  rw [List.drop_eq_getElem_cons hi]
  generalize hc : b[i] = c at hx hcy
  simp only [one]
  by_cases h0 : c < 128
  · rw [if_pos h0]
    have t0 : decide (c < 128) = true := by simp; omega
    have hm : IntKind.i32.wrap c = c := wrap_i32 (by omega) (by omega)
    rw [e124 (by simp) (by rfl)]
    simp only [go_sem, b124, Tryz.f124, hx, t0, hm]
    rfl
  rw [if_neg h0]
  have t0 : decide (c < 128) = false := by simp; omega
  by_cases hz : (nd c).1 = 0
  · rw [if_pos hz]
    have t1 : (((nd c).1 : Int) == 0) = true := by simp; omega
    rw [e124 (by simp) (by rfl)]
    simp only [go_sem, b124, Tryz.f124, hx, t0, f157 hcy.1 hcy.2, t1]
    rfl
  rw [if_neg hz]
  have hn := nd_le c
  have t1 : (((nd c).1 : Int) == 0) = false := by simp; omega
  have hm : IntKind.i32.wrap (iand .i32 (IntKind.i32.wrap c) (ishr .i32 63 (IntKind.u64.wrap (nd c).1))) = c % 2 ^ (6 - (nd c).1) := by
    rw [wrap_i32 (n := c) (by omega) (by omega)]
    have : (nd c).1 = 1 ∨ (nd c).1 = 2 ∨ (nd c).1 = 3 := by omega
    rcases this with h | h | h <;> rw [h]
    · show IntKind.i32.wrap (iand .i32 c 31) = c % 32
      rw [Utf.c31 hcy.1 hcy.2, wrap_i32 (by omega) (by omega)]
    · show IntKind.i32.wrap (iand .i32 c 15) = c % 16
      rw [Utf.c15 hcy.1 hcy.2, wrap_i32 (by omega) (by omega)]
    · show IntKind.i32.wrap (iand .i32 c 7) = c % 8
      rw [Utf.c7 hcy.1 hcy.2, wrap_i32 (by omega) (by omega)]
  have hr : 0 ≤ c % 2 ^ (6 - (nd c).1) ∧ (c % 2 ^ (6 - (nd c).1) + 1) * 64 ^ (nd c).1 ≤ 64000000 := by
    have : (nd c).1 = 1 ∨ (nd c).1 = 2 ∨ (nd c).1 = 3 := by omega
    rcases this with h | h | h <;> rw [h]
    · show 0 ≤ c % 32 ∧ (c % 32 + 1) * 64 ≤ 64000000; omega
    · show 0 ≤ c % 16 ∧ (c % 16 + 1) * 4096 ≤ 64000000; omega
    · show 0 ≤ c % 8 ∧ (c % 8 + 1) * 262144 ≤ 64000000; omega
  have ht : b.drop (i + 1) = b.drop (i + 1) := rfl
  obtain ⟨z, hL, hz⟩ := loop124 (lo := lo) (b := b) (h := h) (i := i) hn hb (by omega) hy (nd c).1 1 (c % 2 ^ (6 - (nd c).1)) (nd c).2.1 (nd c).2.2 (by omega) hr.1 hr.2
  have n1 : ((1 : Nat) : Int) = 1 := rfl
  have hg : decide (0 ≤ IntKind.u64.wrap ((nd c).1 : Int)) = true := by
    have : (nd c).1 = 1 ∨ (nd c).1 = 2 ∨ (nd c).1 = 3 := by omega
    rcases this with h | h | h <;> rw [h] <;> rfl
  have hg' : 0 ≤ IntKind.u64.wrap ((nd c).1 : Int) := of_decide_eq_true hg
  have hw1 : IntKind.i64.wrap (((nd c).1 : Int) + 1) = (((nd c).1 + 1 : Nat) : Int) := wrap_succ (by omega)
  simp only [l124x0, b124, Tryz.f124, loopAt, loops, bodyOf, go_sem, n1] at hL
  rw [e124 (by simp) (by rfl)]
  unfold end124 at hz
  split at hz
  · rename_i hk
    obtain ⟨low, high, rfl⟩ := hz
    simp only [go_sem, b124, Tryz.f124, hx, t0, t1, f157 hcy.1 hcy.2, hm, hL, hg, hg', hw1]
    rw [three, more_snd _ _ _ _ _ _ hk, hk, Nat.add_comm 1]
  · rename_i hk
    subst hz
    simp only [go_sem, b124, Tryz.f124, hx, t0, t1, f157 hcy.1 hcy.2, hm, hL, hg, hg', hw1]
    simp only [three, Bool.not_eq_true] at hk ⊢
    rw [hk]
end Go.Lift.R4
end

section
/- utf.Raw, jalousieref2.Raw: bytes to characters. -/
open Go.Proofs
namespace Go.Lift.R4
set_option linter.unusedSectionVars false
variable [MX]
open Utf
set_option maxRecDepth 20000
set_option linter.unusedSimpArgs false
set_option linter.unusedVariables false

theorem f123n {lo : Nat} {b : List Int} {h : Heap} (hn : b ≠ []) (hb : b.length ≤ 140737488355328) (hy : By b) : E lo 123 [.list .no (ri .u8 b)] h = some (two (one b), h) := by
  cases b with
  | nil => exact absurd rfl hn
  | cons c t => exact f123 hb hy
theorem round84 {lo i : Nat} {b out : List Int} {h : Heap} (hi : i < b.length) (hb : b.length ≤ 1000000000) (ho : out.length ≤ 1000000000) (hy : By b) :
   evCode ⟨Tryz.prog, E, lo, h.length, h84⟩ loopW l84x0 ([(0, .list .no (ri .u8 b)), (3, .list .yes (ri .i32 out)), (4, .v (.int .i64 i))], h) =
     some (.normal, [(0, .list .no (ri .u8 b)), (3, .list .yes (ri .i32 (out ++ [(one (b.drop i)).1]))), (4, .v (.int .i64 (i + (one (b.drop i)).2.1 : Nat)))], h) := by
  have hd : decide ((i : Int) < b.length) = true := by simpa using hi
  have hn : b.drop i ≠ [] := by simp; omega
  have hk := one_b hn
  have hw : IntKind.i64.wrap ((i : Int) + (one (b.drop i)).2.1) = ((i + (one (b.drop i)).2.1 : Nat) : Int) := by rw [wrap_i64 (by omega) (by omega)]; omega
  have hr : ∀ k, k ≤ 4 → (out.length + k) * 4 ≤ 140737488355328 := by intro k hk; omega
  have hq : ∀ k, 9223372036854775800 ≤ k → out.length ≤ k := by intro k hk; omega
  have e1 : ri .i32 (out ++ [(one (b.drop i)).1]) = ri .i32 out ++ [[V.v (.int .i32 (one (b.drop i)).1)]] := by rw [← ri_app]; rfl
  simp only [go_sem, l84x0, b84, Tryz.f84, hd, f124 hi (by omega) hy, three, hr, hq, hw, e1]

theorem loop84 {lo : Nat} {b : List Int} {h : Heap} (hb : b.length ≤ 1000000000) (hy : By b) : ∀ (n i : Nat) (out : List Int), b.length - i ≤ n → i ≤ b.length → out.length ≤ i →
   loopW (evCode ⟨Tryz.prog, E, lo, h.length, h84⟩ loopW l84x0) ([(0, .list .no (ri .u8 b)), (3, .list .yes (ri .i32 out)), (4, .v (.int .i64 i))], h) =
     some (.exit 0, [(0, .list .no (ri .u8 b)), (3, .list .yes (ri .i32 (out ++ raw (b.drop i)))), (4, .v (.int .i64 b.length)), (11, .v (.bool false))], h) := by
  have stop : ∀ (i : Nat) (out : List Int), i = b.length → loopW (evCode ⟨Tryz.prog, E, lo, h.length, h84⟩ loopW l84x0) ([(0, .list .no (ri .u8 b)), (3, .list .yes (ri .i32 out)), (4, .v (.int .i64 i))], h) =
     some (.exit 0, [(0, .list .no (ri .u8 b)), (3, .list .yes (ri .i32 (out ++ raw (b.drop i)))), (4, .v (.int .i64 b.length)), (11, .v (.bool false))], h) := by
    intro i out hi
    subst hi
    have hd : decide ((b.length : Int) < b.length) = false := by simp
    rw [loop_eq]
    simp only [go_sem, l84x0, b84, Tryz.f84, hd, List.drop_length, raw_nil]
  intro n
  induction n with
  | zero => intro i out h1 h2 h3; exact stop i out (by omega)
  | succ n ih =>
    intro i out h1 h2 h3
    by_cases hi : i < b.length
    · have hn : b.drop i ≠ [] := by simp; omega
      have hk := one_b hn
      rw [List.length_drop] at hk
      rw [loop_eq, round84 hi hb (by omega) hy, loop_n, ih _ _ (by omega) (by omega) (by rw [List.length_append, List.length_singleton]; omega), raw_b hn, List.append_assoc, List.drop_drop]
      rfl
    · exact stop i out (by omega)

/-- jalousieref2.Raw -/
theorem f84 {lo : Nat} {b : List Int} {h : Heap} (hb : b.length ≤ 1000000000) (hy : By b) : E lo 84 [.list .no (ri .u8 b)] h = some (.list .no (ri .i32 (raw b)), h) := by
  rw [e84 (by simp) (by rfl)]
  have hL := loop84 (lo := lo) (h := h) hb hy b.length 0 [] (by omega) (by omega) (by simp)
  simp only [l84x0, b84, Tryz.f84, loopAt, loops, bodyOf, go_sem, ri_nil, List.drop_zero] at hL
  simp only [go_sem, b84, Tryz.f84, hL]
end Go.Lift.R4
end

section
/- utf.Whole, jalousieref2.Whole: are these bytes characters' from end to end? -/
open Go.Proofs
namespace Go.Lift.R4
set_option linter.unusedSectionVars false
variable [MX]
open Utf
set_option maxRecDepth 20000
set_option linter.unusedSimpArgs false
set_option linter.unusedVariables false

theorem round106 {lo i : Nat} {b : List Int} {h : Heap} (hi : i < b.length) (hb : b.length ≤ 140737488355328) (hy : By b) :
   evCode ⟨Tryz.prog, E, lo, h.length, h106⟩ loopW l106x0 ([(0, .list .no (ri .u8 b)), (3, .v (.int .i64 i))], h) =
     if (one (b.drop i)).2.2 = true then some (.normal, [(0, .list .no (ri .u8 b)), (3, .v (.int .i64 (i + (one (b.drop i)).2.1 : Nat)))], h)
     else some (.ret, [(2, .v (.bool false))], h) := by
  have hd : decide ((i : Int) < b.length) = true := by simpa using hi
  have hn : b.drop i ≠ [] := by simp; omega
  have hk := one_b hn
  have hw : IntKind.i64.wrap ((i : Int) + (one (b.drop i)).2.1) = ((i + (one (b.drop i)).2.1 : Nat) : Int) := by rw [wrap_i64 (by omega) (by omega)]; omega
  cases hx : (one (b.drop i)).2.2 with
  | true => simp only [go_sem, l106x0, b106, Tryz.f106, hd, f124 hi hb hy, three, hw, hx]
  | false => simp only [go_sem, l106x0, b106, Tryz.f106, hd, f124 hi hb hy, three, hw, hx, Bool.false_eq_true]

theorem loop106 {lo : Nat} {b : List Int} {h : Heap} (hb : b.length ≤ 140737488355328) (hy : By b) : ∀ (n i : Nat), b.length - i ≤ n → i ≤ b.length →
   loopW (evCode ⟨Tryz.prog, E, lo, h.length, h106⟩ loopW l106x0) ([(0, .list .no (ri .u8 b)), (3, .v (.int .i64 i))], h) =
     if whole (b.drop i) = true then some (.exit 0, [(0, .list .no (ri .u8 b)), (3, .v (.int .i64 b.length)), (10, .v (.bool false))], h)
     else some (.ret, [(2, .v (.bool false))], h) := by
  have stop : ∀ (i : Nat), i = b.length → loopW (evCode ⟨Tryz.prog, E, lo, h.length, h106⟩ loopW l106x0) ([(0, .list .no (ri .u8 b)), (3, .v (.int .i64 i))], h) =
     if whole (b.drop i) = true then some (.exit 0, [(0, .list .no (ri .u8 b)), (3, .v (.int .i64 b.length)), (10, .v (.bool false))], h)
     else some (.ret, [(2, .v (.bool false))], h) := by
    intro i hi
    subst hi
    have hd : decide ((b.length : Int) < b.length) = false := by simp
    rw [loop_eq]
    simp only [go_sem, l106x0, b106, Tryz.f106, hd, List.drop_length, whole_nil]
  intro n
  induction n with
  | zero => intro i h1 h2; exact stop i (by omega)
  | succ n ih =>
    intro i h1 h2
    by_cases hi : i < b.length
    · have hn : b.drop i ≠ [] := by simp; omega
      have hk := one_b hn
      rw [List.length_drop] at hk
      rw [loop_eq, round106 hi hb hy, whole_b hn, List.drop_drop]
      cases hx : (one (b.drop i)).2.2 with
      | true => rw [if_pos rfl, loop_n, ih _ (by omega) (by omega), Bool.true_and]
      | false => rw [if_neg (by simp), loop_r]; rfl
    · exact stop i (by omega)

/-- jalousieref2.Whole -/
theorem f106 {lo : Nat} {b : List Int} {h : Heap} (hb : b.length ≤ 140737488355328) (hy : By b) : E lo 106 [.list .no (ri .u8 b)] h = some (.v (.bool (whole b)), h) := by
  rw [e106 (by simp) (by rfl)]
  have hL := loop106 (lo := lo) (h := h) hb hy b.length 0 (by omega) (by omega)
  simp only [l106x0, b106, Tryz.f106, loopAt, loops, bodyOf, go_sem, ri_nil, List.drop_zero] at hL
  cases hx : whole b with
  | true =>
    rw [if_pos hx] at hL
    simp only [go_sem, b106, Tryz.f106, hL]
  | false =>
    rw [if_neg (by simp [hx])] at hL
    simp only [go_sem, b106, Tryz.f106, hL]

theorem round109 {lo : Nat} {b : List Int} {h : Heap} (hn : b ≠ []) (hb : b.length ≤ 140737488355328) (hy : By b) :
   evCode ⟨Tryz.prog, E, lo, h.length, h109⟩ loopW l109x0 ([(0, .list .no (ri .u8 b))], h) =
     if bad b = true then some (.ret, [(2, .v (.bool false))], h) else some (.normal, [(0, .list .no (ri .u8 (b.drop (one b).2.1)))], h) := by
  have hl : 0 < b.length := List.length_pos_iff.mpr hn
  have hd : decide ((0 : Int) < b.length) = true := by simpa using hl
  have hk := (one_b hn).2.2
  have hs : 0 ≤ ((one b).2.1 : Int) := by omega
  have fin : ∀ {v : Bool}, (bad b = v) → (v = (bad b)) := fun h => h.symm
  cases h1 : (one b).1 == 65533 with
  | false =>
    have hv : bad b = false := by simp [bad, h1]
    simp only [go_sem, l109x0, b109, Tryz.f109, hd, f123n hn hb hy, two, hs, hk, Nat.le_refl, ri_drop, ri_take, Int.toNat_natCast, and_self, h1, hv, Bool.false_eq_true]
  | true =>
    by_cases h3 : (one b).2.1 < 3
    · have hv : bad b = true := by simp [bad, h1, h3]
      have h4 : decide (((one b).2.1 : Int) < 3) = true := by simp; omega
      simp only [go_sem, l109x0, b109, Tryz.f109, hd, f123n hn hb hy, two, hs, hk, Nat.le_refl, ri_drop, ri_take, Int.toNat_natCast, and_self, h1, hv, h4]
    · have h4 : decide (((one b).2.1 : Int) < 3) = false := by simp; omega
      obtain ⟨a1, a2, a3, t, he⟩ : ∃ a1 a2 a3 t, b = a1 :: a2 :: a3 :: t := by
        match b, hk with
        | [], hk => simp at hk; omega
        | [_], hk => simp at hk; omega
        | [_, _], hk => simp at hk; omega
        | a1 :: a2 :: a3 :: t, _ => exact ⟨_, _, _, _, rfl⟩
      have x1 : b[0]? = some a1 := by rw [he]; rfl
      have x2 : b[1]? = some a2 := by rw [he]; rfl
      have x3 : b[2]? = some a3 := by rw [he]; rfl
      have hv : bad b = (a1 != 239 || (a2 != 191 || a3 != 189)) := by
        have ht : isRep b = (a1 == 239 && (a2 == 191 && a3 == 189)) := by rw [he]; simp [isRep]
        simp only [bad, h1, h3, ht, decide_false, Bool.true_and, Bool.false_or, bne, Bool.not_and]
      clear he
      rw [hv]
      cases g1 : a1 != 239 with
      | true => simp only [go_sem, l109x0, b109, Tryz.f109, hd, f123n hn hb hy, two, hs, hk, Nat.le_refl, ri_drop, ri_take, Int.toNat_natCast, and_self, h1, h4, x1, x2, x3, g1]
      | false =>
        cases g2 : a2 != 191 with
        | true => simp only [go_sem, l109x0, b109, Tryz.f109, hd, f123n hn hb hy, two, hs, hk, Nat.le_refl, ri_drop, ri_take, Int.toNat_natCast, and_self, h1, h4, x1, x2, x3, g1, g2]
        | false =>
          cases g3 : a3 != 189 with
          | true => simp only [go_sem, l109x0, b109, Tryz.f109, hd, f123n hn hb hy, two, hs, hk, Nat.le_refl, ri_drop, ri_take, Int.toNat_natCast, and_self, h1, h4, x1, x2, x3, g1, g2, g3]
          | false => simp only [go_sem, l109x0, b109, Tryz.f109, hd, f123n hn hb hy, two, hs, hk, Nat.le_refl, ri_drop, ri_take, Int.toNat_natCast, and_self, h1, h4, x1, x2, x3, g1, g2, g3, Bool.false_eq_true]

theorem loop109 {lo : Nat} {h : Heap} : ∀ (n : Nat) (b : List Int), b.length ≤ n → b.length ≤ 140737488355328 → By b →
   loopW (evCode ⟨Tryz.prog, E, lo, h.length, h109⟩ loopW l109x0) ([(0, .list .no (ri .u8 b))], h) =
     if whole b = true then some (.exit 0, [(0, .list .no []), (7, .v (.bool false))], h) else some (.ret, [(2, .v (.bool false))], h) := by
  have stop : loopW (evCode ⟨Tryz.prog, E, lo, h.length, h109⟩ loopW l109x0) ([(0, .list .no (ri .u8 []))], h) =
     if whole [] = true then some (.exit 0, [(0, .list .no []), (7, .v (.bool false))], h) else some (.ret, [(2, .v (.bool false))], h) := by
    rw [loop_eq]
    simp only [go_sem, l109x0, b109, Tryz.f109, whole_nil, ri_nil, List.length_nil]
    all_goals rfl
  intro n
  induction n with
  | zero =>
    intro b h1 h2 hy
    obtain rfl : b = [] := List.eq_nil_of_length_eq_zero (by omega)
    exact stop
  | succ n ih =>
    intro b h1 h2 hy
    by_cases hn : b = []
    · subst hn; exact stop
    · have hk := one_b hn
      have hlen : (b.drop (one b).2.1).length = b.length - (one b).2.1 := List.length_drop
      rw [loop_eq, round109 hn h2 hy, bad_eq hy hn, whole_b hn]
      cases hx : (one b).2.2 with
      | true => rw [if_neg (by simp), loop_n, ih _ (by omega) (by omega) (hy.drop _), Bool.true_and]
      | false => rw [if_pos (by simp), loop_r]; rfl

/-- utf.Whole -/
theorem f109 {lo : Nat} {b : List Int} {h : Heap} (hb : b.length ≤ 140737488355328) (hy : By b) : E lo 109 [.list .no (ri .u8 b)] h = some (.v (.bool (whole b)), h) := by
  rw [e109 (by simp) (by rfl)]
  have hL := loop109 (lo := lo) (h := h) b.length b (Nat.le_refl _) hb hy
  simp only [l109x0, b109, Tryz.f109, loopAt, loops, bodyOf, go_sem, ri_nil, List.drop_zero] at hL
  cases hx : whole b with
  | true =>
    rw [if_pos hx] at hL
    simp only [go_sem, b109, Tryz.f109, hL]
  | false =>
    rw [if_neg (by simp [hx])] at hL
    simp only [go_sem, b109, Tryz.f109, hL]
end Go.Lift.R4
end
