/- jalousieref2.one. -/
import Derived.Test.YtedlleekcinbcaaR1Utf6
open Go.Proofs
namespace Go.Lift.R1
open Utf
set_option maxRecDepth 20000
set_option linter.unusedSimpArgs false
set_option linter.unusedVariables false

theorem round33 {lo : Nat} {b : List Int} {h : Heap} {i k n : Nat} {r low high c : Int} (hc : b[i + k]? = some c) (hi : k ≤ n) (hn : n ≤ 3) (hb : b.length ≤ 140737488355328) (hl : i + k < b.length)
    (c0 : 0 ≤ c) (c1 : c ≤ 255) (r0 : 0 ≤ r) (r1 : r ≤ 1000000) (hx : ¬ (c < low ∨ high < c)) :
   evCode ⟨Try.prog, E, lo, h.length, h33⟩ loopW l33x0 ([(0, .list .no (ri .u8 b)), (1, .v (.int .i64 i)), (8, .v (.int .i64 n)), (9, .v (.int .u8 low)), (10, .v (.int .u8 high)), (11, .v (.int .i32 r)), (12, .v (.int .i64 k))], h) =
     some (.normal, [(0, .list .no (ri .u8 b)), (1, .v (.int .i64 i)), (8, .v (.int .i64 n)), (9, .v (.int .u8 128)), (10, .v (.int .u8 191)), (11, .v (.int .i32 (r * 64 + c % 64))), (12, .v (.int .i64 (k + 1 : Nat)))], h) := by
  have hd : decide ((k : Int) ≤ n) = true := by simpa using hi
  have hw : IntKind.i64.wrap ((i : Int) + k) = ((i + k : Nat) : Int) := by rw [wrap_i64 (by omega) (by omega)]; omega
  have hw1 : IntKind.i64.wrap ((k : Int) + 1) = ((k + 1 : Nat) : Int) := wrap_succ (by omega)
  have hg : decide ((b.length : Int) ≤ (i + k : Nat)) = false := by simp; omega
  have hx1 : decide (c < low) = false := by simp; omega
  have hx2 : decide (high < c) = false := by simp; omega
  simp only [go_sem, l33x0, b33, Try.f33, hd, hc, hw, hw1, hg, hx1, hx2]
  rw [shl6 r0 r1, a63 c0 c1, wrap_u8 (by omega) (by omega), wrap_i32 (n := c % 64) (by omega) (by omega), or64 r0 r1 (by omega) (by omega), wrap_i32 (by omega) (by omega)]

theorem stop33 {lo : Nat} {b : List Int} {h : Heap} {i k n : Nat} {r low high : Int} (hi : k ≤ n) (hn : n ≤ 3) (hb : b.length ≤ 140737488355328) (hib : i ≤ 140737488355328)
    (hs : b.length ≤ i + k ∨ ∃ c, b[i + k]? = some c ∧ i + k < b.length ∧ (c < low ∨ high < c)) :
   evCode ⟨Try.prog, E, lo, h.length, h33⟩ loopW l33x0 ([(0, .list .no (ri .u8 b)), (1, .v (.int .i64 i)), (8, .v (.int .i64 n)), (9, .v (.int .u8 low)), (10, .v (.int .u8 high)), (11, .v (.int .i32 r)), (12, .v (.int .i64 k))], h) =
     some (.ret, [(4, .v (.int .i32 65533)), (5, .v (.int .i64 k)), (6, .v (.bool false))], h) := by
  have hd : decide ((k : Int) ≤ n) = true := by simpa using hi
  have hw : IntKind.i64.wrap ((i : Int) + k) = ((i + k : Nat) : Int) := by rw [wrap_i64 (by omega) (by omega)]; omega
  have hw1 : IntKind.i64.wrap ((k : Int) + 1) = ((k + 1 : Nat) : Int) := wrap_succ (by omega)
  rcases hs with hs | ⟨c, hc, hl, hs⟩
  · have hg : decide ((b.length : Int) ≤ (i + k : Nat)) = true := by simp; omega
    have hc : b[i + k]? = none := List.getElem?_eq_none hs
    simp only [go_sem, l33x0, b33, Try.f33, hd, hw, hw1, hg, hc]
  · have hg : decide ((b.length : Int) ≤ (i + k : Nat)) = false := by simp; omega
    by_cases h1 : c < low
    · have hx1 : decide (c < low) = true := by simp; omega
      simp only [go_sem, l33x0, b33, Try.f33, hd, hc, hw, hw1, hg, hx1]
    · have hx1 : decide (c < low) = false := by simp; omega
      have hx2 : decide (high < c) = true := by simp; omega
      simp only [go_sem, l33x0, b33, Try.f33, hd, hc, hw, hw1, hg, hx1, hx2]

/-- how the loop ends -/
def end33 (b : List Int) (i n : Nat) (x : Int × Nat × Bool) (h : Heap) (z : Ex × St) : Prop :=
  if x.2.2 = true then ∃ low high, z = (.exit 0, [(0, .list .no (ri .u8 b)), (1, .v (.int .i64 i)), (8, .v (.int .i64 n)), (9, .v (.int .u8 low)), (10, .v (.int .u8 high)), (11, .v (.int .i32 x.1)), (12, .v (.int .i64 (n + 1 : Nat))), (37, .v (.bool false))], h)
  else z = (.ret, [(4, .v (.int .i32 x.1)), (5, .v (.int .i64 x.2.1)), (6, .v (.bool false))], h)

theorem loop33 {lo : Nat} {b : List Int} {h : Heap} {i n : Nat} (hn : n ≤ 3) (hb : b.length ≤ 140737488355328) (hib : i ≤ 140737488355328) (hy : By b) : ∀ (m k : Nat) (r low high : Int), k + m = n + 1 → 0 ≤ r → (r + 1) * 64 ^ m ≤ 64000000 →
   ∃ z, loopW (evCode ⟨Try.prog, E, lo, h.length, h33⟩ loopW l33x0) ([(0, .list .no (ri .u8 b)), (1, .v (.int .i64 i)), (8, .v (.int .i64 n)), (9, .v (.int .u8 low)), (10, .v (.int .u8 high)), (11, .v (.int .i32 r)), (12, .v (.int .i64 k))], h) = some z
     ∧ end33 b i n (more m r low high k (b.drop (i + k))) h z := by
  intro m
  induction m with
  | zero =>
    intro k r low high hm h0 h1
    obtain rfl : k = n + 1 := by omega
    have hd : decide (((n + 1 : Nat) : Int) ≤ n) = false := by simp; omega
    rw [loop_eq]
    simp only [go_sem, l33x0, b33, Try.f33, hd]
    exact ⟨_, rfl, low, high, rfl⟩
  | succ m ih =>
    intro k r low high hm h0 h1
    have hlt : k ≤ n := by omega
    rw [loop_eq]
    by_cases hl : i + k < b.length
    · have hc : b[i + k]? = some b[i + k] := List.getElem?_eq_getElem hl
      have hcy := hy b[i + k] (List.getElem_mem hl)
      rw [List.drop_eq_getElem_cons hl]
      by_cases hx : b[i + k] < low ∨ high < b[i + k]
      · rw [stop33 hlt hn hb hib (.inr ⟨_, hc, hl, hx⟩), loop_r]
        exact ⟨_, rfl, by simp only [more, if_pos hx]; rfl⟩
      · rw [Int.pow_succ] at h1
        have hp : (1 : Int) ≤ 64 ^ m := Int.pow_pos (by omega)
        have hr : (r + 1) * 64 * 64 ^ m = (r + 1) * (64 ^ m * 64) := by rw [Int.mul_assoc, Int.mul_comm 64]
        have h2 : (r + 1) * 64 * 1 ≤ (r + 1) * 64 * 64 ^ m := Int.mul_le_mul_of_nonneg_left hp (by omega)
        have h3 : (r * 64 + b[i + k] % 64 + 1) * 64 ^ m ≤ (r + 1) * 64 * 64 ^ m := Int.mul_le_mul_of_nonneg_right (by omega) (by omega)
        rw [round33 hc hlt hn hb hl hcy.1 hcy.2 h0 (by omega) hx, loop_n]
        have := ih (k + 1) (r * 64 + b[i + k] % 64) 128 191 (by omega) (by omega) (by omega)
        simpa only [more, if_neg hx, ← Nat.add_assoc] using this
    · have hs : b.length ≤ i + k := by omega
      rw [stop33 hlt hn hb hib (.inl hs), loop_r, List.drop_eq_nil_of_le hs]
      exact ⟨_, rfl, rfl⟩

/-- the answer as the reference hands it on -/
def three (x : Int × Nat × Bool) : V := .tup [.v (.int .i32 x.1), .v (.int .i64 x.2.1), .v (.bool x.2.2)]

theorem f33 {lo : Nat} {b : List Int} {i : Nat} {h : Heap} (hi : i < b.length) (hb : b.length ≤ 140737488355328) (hy : By b) :
    E lo 33 [.list .no (ri .u8 b), .v (.int .i64 i)] h = some (three (one (b.drop i)), h) := by
  have hx : b[i]? = some b[i] := List.getElem?_eq_getElem hi
  have hcy := hy b[i] (List.getElem_mem hi)
  rw [List.drop_eq_getElem_cons hi]
  generalize hc : b[i] = c at hx hcy
  simp only [one]
  by_cases h0 : c < 128
  · rw [if_pos h0]
    have t0 : decide (c < 128) = true := by simp; omega
    have hm : IntKind.i32.wrap c = c := wrap_i32 (by omega) (by omega)
    rw [e33 (by simp) (by rfl)]
    simp only [go_sem, b33, Try.f33, hx, t0, hm]
    rfl
  rw [if_neg h0]
  have t0 : decide (c < 128) = false := by simp; omega
  by_cases hz : (nd c).1 = 0
  · rw [if_pos hz]
    have t1 : (((nd c).1 : Int) == 0) = true := by simp; omega
    rw [e33 (by simp) (by rfl)]
    simp only [go_sem, b33, Try.f33, hx, t0, f39 hcy.1 hcy.2, t1]
    rfl
  rw [if_neg hz]
  have hn := nd_le c
  have t1 : (((nd c).1 : Int) == 0) = false := by simp; omega
  have hm : IntKind.i32.wrap (iand .i32 (IntKind.i32.wrap c) (ishr .i32 63 (IntKind.u64.wrap (nd c).1))) = c % 2 ^ (6 - (nd c).1) := by
    rw [wrap_i32 (n := c) (by omega) (by omega)]
    have : (nd c).1 = 1 ∨ (nd c).1 = 2 ∨ (nd c).1 = 3 := by omega
    rcases this with h | h | h <;> rw [h]
    · show IntKind.i32.wrap (iand .i32 c 31) = c % 32
      rw [Utf.c31 hcy.1 hcy.2, wrap_i32 (by omega) (by omega)]
    · show IntKind.i32.wrap (iand .i32 c 15) = c % 16
      rw [Utf.c15 hcy.1 hcy.2, wrap_i32 (by omega) (by omega)]
    · show IntKind.i32.wrap (iand .i32 c 7) = c % 8
      rw [Utf.c7 hcy.1 hcy.2, wrap_i32 (by omega) (by omega)]
  have hr : 0 ≤ c % 2 ^ (6 - (nd c).1) ∧ (c % 2 ^ (6 - (nd c).1) + 1) * 64 ^ (nd c).1 ≤ 64000000 := by
    have : (nd c).1 = 1 ∨ (nd c).1 = 2 ∨ (nd c).1 = 3 := by omega
    rcases this with h | h | h <;> rw [h]
    · show 0 ≤ c % 32 ∧ (c % 32 + 1) * 64 ≤ 64000000; omega
    · show 0 ≤ c % 16 ∧ (c % 16 + 1) * 4096 ≤ 64000000; omega
    · show 0 ≤ c % 8 ∧ (c % 8 + 1) * 262144 ≤ 64000000; omega
  have ht : b.drop (i + 1) = b.drop (i + 1) := rfl
  obtain ⟨z, hL, hz⟩ := loop33 (lo := lo) (b := b) (h := h) (i := i) hn hb (by omega) hy (nd c).1 1 (c % 2 ^ (6 - (nd c).1)) (nd c).2.1 (nd c).2.2 (by omega) hr.1 hr.2
  have n1 : ((1 : Nat) : Int) = 1 := rfl
  have hg : decide (0 ≤ IntKind.u64.wrap ((nd c).1 : Int)) = true := by
    have : (nd c).1 = 1 ∨ (nd c).1 = 2 ∨ (nd c).1 = 3 := by omega
    rcases this with h | h | h <;> rw [h] <;> rfl
  have hg' : 0 ≤ IntKind.u64.wrap ((nd c).1 : Int) := of_decide_eq_true hg
  have hw1 : IntKind.i64.wrap (((nd c).1 : Int) + 1) = (((nd c).1 + 1 : Nat) : Int) := wrap_succ (by omega)
  simp only [l33x0, b33, Try.f33, loopAt, loops, bodyOf, go_sem, n1] at hL
  rw [e33 (by simp) (by rfl)]
  unfold end33 at hz
  split at hz
  · rename_i hk
    obtain ⟨low, high, rfl⟩ := hz
    simp only [go_sem, b33, Try.f33, hx, t0, t1, f39 hcy.1 hcy.2, hm, hL, hg, hg', hw1]
    rw [three, more_snd _ _ _ _ _ _ hk, hk, Nat.add_comm 1]
  · rename_i hk
    subst hz
    simp only [go_sem, b33, Try.f33, hx, t0, t1, f39 hcy.1 hcy.2, hm, hL, hg, hg', hw1]
    simp only [three, Bool.not_eq_true] at hk ⊢
    rw [hk]
end Go.Lift.R1
