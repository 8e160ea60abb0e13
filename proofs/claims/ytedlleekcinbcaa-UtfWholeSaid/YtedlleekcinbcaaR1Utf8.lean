/- utf.Raw, jalousieref2.Raw: bytes to characters. -/
import Derived.Test.YtedlleekcinbcaaR1Utf7
open Go.Proofs
namespace Go.Lift.R1
open Utf
set_option maxRecDepth 20000
set_option linter.unusedSimpArgs false
set_option linter.unusedVariables false

theorem f32n {lo : Nat} {b : List Int} {h : Heap} (hn : b ≠ []) (hb : b.length ≤ 140737488355328) (hy : By b) : E lo 32 [.list .no (ri .u8 b)] h = some (two (one b), h) := by
  cases b with
  | nil => exact absurd rfl hn
  | cons c t => exact f32 hb hy
theorem round17 {lo : Nat} {b out : List Int} {h : Heap} (hn : b ≠ []) (hb : b.length ≤ 1000000000) (ho : out.length ≤ 1000000000) (hy : By b) :
   evCode ⟨Try.prog, E, lo, h.length, h17⟩ loopW l17x0 ([(0, .list .no (ri .u8 b)), (3, .list .yes (ri .i32 out))], h) =
     some (.normal, [(0, .list .no (ri .u8 (b.drop (one b).2.1))), (3, .list .yes (ri .i32 (out ++ [(one b).1])))], h) := by
  have hl : 0 < b.length := List.length_pos_iff.mpr hn
  have hd : decide ((0 : Int) < b.length) = true := by simpa using hl
  have hr : ∀ k, k ≤ 4 → (out.length + k) * 4 ≤ 140737488355328 := by intro k hk; omega
  have hq : ∀ k, 9223372036854775800 ≤ k → out.length ≤ k := by intro k hk; omega
  have hk := (one_b hn).2.2
  have hs : 0 ≤ ((one b).2.1 : Int) := by omega
  have e1 : ri .i32 (out ++ [(one b).1]) = ri .i32 out ++ [[V.v (.int .i32 (one b).1)]] := by rw [← ri_app]; rfl
  simp only [go_sem, l17x0, b17, Try.f17, hd, f32n hn (by omega) hy, two, hr, hq, hs, hk, Nat.le_refl, ri_drop, ri_take, Int.toNat_natCast, and_self, e1]

theorem loop17 {lo : Nat} {h : Heap} : ∀ (n : Nat) (b out : List Int), b.length ≤ n → b.length ≤ 1000000000 → By b → out.length + b.length ≤ 1000000000 →
   loopW (evCode ⟨Try.prog, E, lo, h.length, h17⟩ loopW l17x0) ([(0, .list .no (ri .u8 b)), (3, .list .yes (ri .i32 out))], h) =
     some (.exit 0, [(0, .list .no []), (3, .list .yes (ri .i32 (out ++ raw b))), (8, .v (.bool false))], h) := by
  intro n
  induction n with
  | zero =>
    intro b out h1 h2 hy h3
    obtain rfl : b = [] := List.eq_nil_of_length_eq_zero (by omega)
    rw [loop_eq]
    simp only [go_sem, l17x0, b17, Try.f17, raw_nil, ri_nil, List.length_nil]
    rfl
  | succ n ih =>
    intro b out h1 h2 hy h3
    by_cases hn : b = []
    · subst hn
      rw [loop_eq]
      simp only [go_sem, l17x0, b17, Try.f17, raw_nil, ri_nil, List.length_nil]
      rfl
    · have hl : 0 < b.length := List.length_pos_iff.mpr hn
      have hk := one_b hn
      have hlen : (b.drop (one b).2.1).length = b.length - (one b).2.1 := List.length_drop
      rw [loop_eq, round17 hn h2 (by omega) hy, loop_n, ih _ _ (by omega) (by omega) (hy.drop _) (by rw [List.length_append, List.length_singleton]; omega), raw_b hn, List.append_assoc]
      rfl

/-- utf.Raw -/
theorem f17 {lo : Nat} {b : List Int} {h : Heap} (hb : b.length ≤ 1000000000) (hy : By b) : E lo 17 [.list .no (ri .u8 b)] h = some (.list .no (ri .i32 (raw b)), h) := by
  rw [e17 (by simp) (by rfl)]
  have hL := loop17 (lo := lo) (h := h) b.length b [] (Nat.le_refl _) hb hy (by simpa using hb)
  simp only [l17x0, b17, Try.f17, loopAt, loops, bodyOf, go_sem, ri_nil] at hL
  simp only [go_sem, b17, Try.f17, hL]

theorem round18 {lo i : Nat} {b out : List Int} {h : Heap} (hi : i < b.length) (hb : b.length ≤ 1000000000) (ho : out.length ≤ 1000000000) (hy : By b) :
   evCode ⟨Try.prog, E, lo, h.length, h18⟩ loopW l18x0 ([(0, .list .no (ri .u8 b)), (3, .list .yes (ri .i32 out)), (4, .v (.int .i64 i))], h) =
     some (.normal, [(0, .list .no (ri .u8 b)), (3, .list .yes (ri .i32 (out ++ [(one (b.drop i)).1]))), (4, .v (.int .i64 (i + (one (b.drop i)).2.1 : Nat)))], h) := by
  have hd : decide ((i : Int) < b.length) = true := by simpa using hi
  have hn : b.drop i ≠ [] := by simp; omega
  have hk := one_b hn
  have hw : IntKind.i64.wrap ((i : Int) + (one (b.drop i)).2.1) = ((i + (one (b.drop i)).2.1 : Nat) : Int) := by rw [wrap_i64 (by omega) (by omega)]; omega
  have hr : ∀ k, k ≤ 4 → (out.length + k) * 4 ≤ 140737488355328 := by intro k hk; omega
  have hq : ∀ k, 9223372036854775800 ≤ k → out.length ≤ k := by intro k hk; omega
  have e1 : ri .i32 (out ++ [(one (b.drop i)).1]) = ri .i32 out ++ [[V.v (.int .i32 (one (b.drop i)).1)]] := by rw [← ri_app]; rfl
  simp only [go_sem, l18x0, b18, Try.f18, hd, f33 hi (by omega) hy, three, hr, hq, hw, e1]

theorem loop18 {lo : Nat} {b : List Int} {h : Heap} (hb : b.length ≤ 1000000000) (hy : By b) : ∀ (n i : Nat) (out : List Int), b.length - i ≤ n → i ≤ b.length → out.length ≤ i →
   loopW (evCode ⟨Try.prog, E, lo, h.length, h18⟩ loopW l18x0) ([(0, .list .no (ri .u8 b)), (3, .list .yes (ri .i32 out)), (4, .v (.int .i64 i))], h) =
     some (.exit 0, [(0, .list .no (ri .u8 b)), (3, .list .yes (ri .i32 (out ++ raw (b.drop i)))), (4, .v (.int .i64 b.length)), (11, .v (.bool false))], h) := by
  have stop : ∀ (i : Nat) (out : List Int), i = b.length → loopW (evCode ⟨Try.prog, E, lo, h.length, h18⟩ loopW l18x0) ([(0, .list .no (ri .u8 b)), (3, .list .yes (ri .i32 out)), (4, .v (.int .i64 i))], h) =
     some (.exit 0, [(0, .list .no (ri .u8 b)), (3, .list .yes (ri .i32 (out ++ raw (b.drop i)))), (4, .v (.int .i64 b.length)), (11, .v (.bool false))], h) := by
    intro i out hi
    subst hi
    have hd : decide ((b.length : Int) < b.length) = false := by simp
    rw [loop_eq]
    simp only [go_sem, l18x0, b18, Try.f18, hd, List.drop_length, raw_nil]
  intro n
  induction n with
  | zero => intro i out h1 h2 h3; exact stop i out (by omega)
  | succ n ih =>
    intro i out h1 h2 h3
    by_cases hi : i < b.length
    · have hn : b.drop i ≠ [] := by simp; omega
      have hk := one_b hn
      rw [List.length_drop] at hk
      rw [loop_eq, round18 hi hb (by omega) hy, loop_n, ih _ _ (by omega) (by omega) (by rw [List.length_append, List.length_singleton]; omega), raw_b hn, List.append_assoc, List.drop_drop]
      rfl
    · exact stop i out (by omega)

/-- jalousieref2.Raw -/
theorem f18 {lo : Nat} {b : List Int} {h : Heap} (hb : b.length ≤ 1000000000) (hy : By b) : E lo 18 [.list .no (ri .u8 b)] h = some (.list .no (ri .i32 (raw b)), h) := by
  rw [e18 (by simp) (by rfl)]
  have hL := loop18 (lo := lo) (h := h) hb hy b.length 0 [] (by omega) (by omega) (by simp)
  simp only [l18x0, b18, Try.f18, loopAt, loops, bodyOf, go_sem, ri_nil, List.drop_zero] at hL
  simp only [go_sem, b18, Try.f18, hL]
end Go.Lift.R1
