/- utf.step: what stands in front of the bytes. -/
import Derived.Test.YtedlleekcinbcaaR1Utf3
import Derived.Test.YtedlleekcinbcaaUtfLaw
open Go.Proofs
namespace Go.Lift.R1
set_option linter.unusedVariables false
set_option linter.unusedSimpArgs false
open Utf
set_option maxRecDepth 20000
set_option linter.unusedSimpArgs false

theorem round32 {lo : Nat} {b : List Int} {h : Heap} {i n : Nat} {r low high c : Int} (hc : b[i + 1]? = some c) (hi : i < n) (hn : n ≤ 3) (hb : b.length ≤ 140737488355328) (hl : i + 1 < b.length)
    (c0 : 0 ≤ c) (c1 : c ≤ 255) (r0 : 0 ≤ r) (r1 : r ≤ 1000000) (hx : (decide (c < low) || decide (high < c)) = false) :
   evCode ⟨Try.prog, E, lo, h.length, h32⟩ loopW l32x0 ([(0, .list .no (ri .u8 b)), (5, .v (.int .u8 low)), (6, .v (.int .u8 high)), (7, .v (.int .i64 n)), (8, .v (.int .i32 r)), (58, .v (.int .i64 n)), (59, .v (.int .i64 i))], h) =
     some (.normal, [(0, .list .no (ri .u8 b)), (5, .v (.int .u8 128)), (6, .v (.int .u8 191)), (7, .v (.int .i64 n)), (8, .v (.int .i32 (r * 64 + c % 64))), (58, .v (.int .i64 n)), (59, .v (.int .i64 (i + 1 : Nat)))], h) := by
  have hd : decide ((i : Int) < n) = true := by simpa using hi
  have hw : IntKind.i64.wrap ((i : Int) + 1) = ((i + 1 : Nat) : Int) := wrap_succ (by omega)
  have hg : decide ((b.length : Int) ≤ (i + 1 : Nat)) = false := by simp; omega
  have hx1 : decide (c < low) = false := by simp at hx; simp; omega
  have hx2 : decide (high < c) = false := by simp at hx; simp; omega
  simp only [go_sem, l32x0, b32, Try.f32, hd, hc, hw, hg, hx1, hx2]
  rw [shl6 r0 r1, a63 c0 c1, wrap_u8 (by omega) (by omega), wrap_i32 (n := c % 64) (by omega) (by omega), or64 r0 r1 (by omega) (by omega), wrap_i32 (by omega) (by omega)]

theorem stop32 {lo : Nat} {b : List Int} {h : Heap} {i n : Nat} {r low high : Int} (hi : i < n) (hn : n ≤ 3) (hb : b.length ≤ 140737488355328)
    (hs : b.length ≤ i + 1 ∨ ∃ c, b[i + 1]? = some c ∧ i + 1 < b.length ∧ (c < low ∨ high < c)) :
   evCode ⟨Try.prog, E, lo, h.length, h32⟩ loopW l32x0 ([(0, .list .no (ri .u8 b)), (5, .v (.int .u8 low)), (6, .v (.int .u8 high)), (7, .v (.int .i64 n)), (8, .v (.int .i32 r)), (58, .v (.int .i64 n)), (59, .v (.int .i64 i))], h) =
     some (.ret, [(2, .v (.int .i32 65533)), (3, .v (.int .i64 (i + 1 : Nat)))], h) := by
  have hd : decide ((i : Int) < n) = true := by simpa using hi
  have hw : IntKind.i64.wrap ((i : Int) + 1) = ((i + 1 : Nat) : Int) := wrap_succ (by omega)
  rcases hs with hs | ⟨c, hc, hl, hs⟩
  · have hg : decide ((b.length : Int) ≤ (i + 1 : Nat)) = true := by simp; omega
    have hc : b[i + 1]? = none := List.getElem?_eq_none hs
    simp only [go_sem, l32x0, b32, Try.f32, hd, hw, hg, hc]
  · have hg : decide ((b.length : Int) ≤ (i + 1 : Nat)) = false := by simp; omega
    by_cases h1 : c < low
    · have hx1 : decide (c < low) = true := by simp; omega
      simp only [go_sem, l32x0, b32, Try.f32, hd, hc, hw, hg, hx1]
    · have hx1 : decide (c < low) = false := by simp; omega
      have hx2 : decide (high < c) = true := by simp; omega
      simp only [go_sem, l32x0, b32, Try.f32, hd, hc, hw, hg, hx1, hx2]

/-- how the loop ends -/
def end32 (b : List Int) (n : Nat) (x : Int × Nat × Bool) (h : Heap) (z : Ex × St) : Prop :=
  if x.2.2 = true then ∃ low high, z = (.exit 3, [(0, .list .no (ri .u8 b)), (5, .v (.int .u8 low)), (6, .v (.int .u8 high)), (7, .v (.int .i64 n)), (8, .v (.int .i32 x.1)), (58, .v (.int .i64 n)), (59, .v (.int .i64 n)), (60, .v (.bool false))], h)
  else z = (.ret, [(2, .v (.int .i32 x.1)), (3, .v (.int .i64 x.2.1))], h)

theorem more_snd : ∀ (n : Nat) (r lo hi : Int) (k : Nat) (t : List Int), (more n r lo hi k t).2.2 = true → (more n r lo hi k t).2.1 = k + n
  | 0, _, _, _, _, _, _ => rfl
  | n + 1, r, lo, hi, k, [], h => by simp [more] at h
  | n + 1, r, lo, hi, k, c :: t, h => by
    unfold more at h ⊢
    split at h
    · simp at h
    · rename_i hc
      rw [if_neg hc, more_snd n _ _ _ _ _ h]
      omega

theorem loop32 {lo : Nat} {b : List Int} {h : Heap} {n : Nat} (hn : n ≤ 3) (hb : b.length ≤ 140737488355328) (hy : By b) : ∀ (m i : Nat) (r low high : Int), m = n - i → i ≤ n → 0 ≤ r → (r + 1) * 64 ^ m ≤ 64000000 →
   ∃ z, loopW (evCode ⟨Try.prog, E, lo, h.length, h32⟩ loopW l32x0) ([(0, .list .no (ri .u8 b)), (5, .v (.int .u8 low)), (6, .v (.int .u8 high)), (7, .v (.int .i64 n)), (8, .v (.int .i32 r)), (58, .v (.int .i64 n)), (59, .v (.int .i64 i))], h) = some z
     ∧ end32 b n (more m r low high (i + 1) (b.drop (i + 1))) h z := by
  intro m
  induction m with
  | zero =>
    intro i r low high hm hi h0 h1
    obtain rfl : i = n := by omega
    have hd : decide ((i : Int) < i) = false := by simp
    rw [loop_eq]
    simp only [go_sem, l32x0, b32, Try.f32, hd]
    exact ⟨_, rfl, low, high, rfl⟩
  | succ m ih =>
    intro i r low high hm hi h0 h1
    have hlt : i < n := by omega
    rw [loop_eq]
    by_cases hl : i + 1 < b.length
    · have hc : b[i + 1]? = some b[i + 1] := List.getElem?_eq_getElem hl
      have hcy := hy b[i + 1] (List.getElem_mem hl)
      rw [List.drop_eq_getElem_cons hl]
      by_cases hx : b[i + 1] < low ∨ high < b[i + 1]
      · rw [stop32 hlt hn hb (.inr ⟨_, hc, hl, hx⟩), loop_r]
        exact ⟨_, rfl, by simp only [more, if_pos hx]; rfl⟩
      · rw [Int.pow_succ] at h1
        have hp : (1 : Int) ≤ 64 ^ m := Int.pow_pos (by omega)
        have hr : (r + 1) * 64 * 64 ^ m = (r + 1) * (64 ^ m * 64) := by rw [Int.mul_assoc, Int.mul_comm 64]
        have h2 : (r + 1) * 64 * 1 ≤ (r + 1) * 64 * 64 ^ m := Int.mul_le_mul_of_nonneg_left hp (by omega)
        have h3 : (r * 64 + b[i + 1] % 64 + 1) * 64 ^ m ≤ (r + 1) * 64 * 64 ^ m := Int.mul_le_mul_of_nonneg_right (by omega) (by omega)
        rw [round32 hc hlt hn hb hl hcy.1 hcy.2 h0 (by omega) (by simp; omega), loop_n]
        have := ih (i + 1) (r * 64 + b[i + 1] % 64) 128 191 (by omega) (by omega) (by omega) (by omega)
        simpa only [more, if_neg hx] using this
    · have hs : b.length ≤ i + 1 := by omega
      rw [stop32 hlt hn hb (.inl hs), loop_r, List.drop_eq_nil_of_le hs]
      exact ⟨_, rfl, rfl⟩
end Go.Lift.R1
