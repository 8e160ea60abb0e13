/- utf.Whole, jalousieref2.Whole: are these bytes characters' from end to end? -/
import Derived.Test.YtedlleekcinbcaaR1Utf8
open Go.Proofs
namespace Go.Lift.R1
open Utf
set_option maxRecDepth 20000
set_option linter.unusedSimpArgs false
set_option linter.unusedVariables false

theorem round21 {lo i : Nat} {b : List Int} {h : Heap} (hi : i < b.length) (hb : b.length ≤ 140737488355328) (hy : By b) :
   evCode ⟨Try.prog, E, lo, h.length, h21⟩ loopW l21x0 ([(0, .list .no (ri .u8 b)), (3, .v (.int .i64 i))], h) =
     if (one (b.drop i)).2.2 = true then some (.normal, [(0, .list .no (ri .u8 b)), (3, .v (.int .i64 (i + (one (b.drop i)).2.1 : Nat)))], h)
     else some (.ret, [(2, .v (.bool false))], h) := by
  have hd : decide ((i : Int) < b.length) = true := by simpa using hi
  have hn : b.drop i ≠ [] := by simp; omega
  have hk := one_b hn
  have hw : IntKind.i64.wrap ((i : Int) + (one (b.drop i)).2.1) = ((i + (one (b.drop i)).2.1 : Nat) : Int) := by rw [wrap_i64 (by omega) (by omega)]; omega
  cases hx : (one (b.drop i)).2.2 with
  | true => simp only [go_sem, l21x0, b21, Try.f21, hd, f33 hi hb hy, three, hw, hx]
  | false => simp only [go_sem, l21x0, b21, Try.f21, hd, f33 hi hb hy, three, hw, hx, Bool.false_eq_true]

theorem loop21 {lo : Nat} {b : List Int} {h : Heap} (hb : b.length ≤ 140737488355328) (hy : By b) : ∀ (n i : Nat), b.length - i ≤ n → i ≤ b.length →
   loopW (evCode ⟨Try.prog, E, lo, h.length, h21⟩ loopW l21x0) ([(0, .list .no (ri .u8 b)), (3, .v (.int .i64 i))], h) =
     if whole (b.drop i) = true then some (.exit 0, [(0, .list .no (ri .u8 b)), (3, .v (.int .i64 b.length)), (10, .v (.bool false))], h)
     else some (.ret, [(2, .v (.bool false))], h) := by
  have stop : ∀ (i : Nat), i = b.length → loopW (evCode ⟨Try.prog, E, lo, h.length, h21⟩ loopW l21x0) ([(0, .list .no (ri .u8 b)), (3, .v (.int .i64 i))], h) =
     if whole (b.drop i) = true then some (.exit 0, [(0, .list .no (ri .u8 b)), (3, .v (.int .i64 b.length)), (10, .v (.bool false))], h)
     else some (.ret, [(2, .v (.bool false))], h) := by
    intro i hi
    subst hi
    have hd : decide ((b.length : Int) < b.length) = false := by simp
    rw [loop_eq]
    simp only [go_sem, l21x0, b21, Try.f21, hd, List.drop_length, whole_nil]
  intro n
  induction n with
  | zero => intro i h1 h2; exact stop i (by omega)
  | succ n ih =>
    intro i h1 h2
    by_cases hi : i < b.length
    · have hn : b.drop i ≠ [] := by simp; omega
      have hk := one_b hn
      rw [List.length_drop] at hk
      rw [loop_eq, round21 hi hb hy, whole_b hn, List.drop_drop]
      cases hx : (one (b.drop i)).2.2 with
      | true => rw [if_pos rfl, loop_n, ih _ (by omega) (by omega), Bool.true_and]
      | false => rw [if_neg (by simp), loop_r]; rfl
    · exact stop i (by omega)

/-- jalousieref2.Whole -/
theorem f21 {lo : Nat} {b : List Int} {h : Heap} (hb : b.length ≤ 140737488355328) (hy : By b) : E lo 21 [.list .no (ri .u8 b)] h = some (.v (.bool (whole b)), h) := by
  rw [e21 (by simp) (by rfl)]
  have hL := loop21 (lo := lo) (h := h) hb hy b.length 0 (by omega) (by omega)
  simp only [l21x0, b21, Try.f21, loopAt, loops, bodyOf, go_sem, ri_nil, List.drop_zero] at hL
  cases hx : whole b with
  | true =>
    rw [if_pos hx] at hL
    simp only [go_sem, b21, Try.f21, hL]
  | false =>
    rw [if_neg (by simp [hx])] at hL
    simp only [go_sem, b21, Try.f21, hL]

theorem round20 {lo : Nat} {b : List Int} {h : Heap} (hn : b ≠ []) (hb : b.length ≤ 140737488355328) (hy : By b) :
   evCode ⟨Try.prog, E, lo, h.length, h20⟩ loopW l20x0 ([(0, .list .no (ri .u8 b))], h) =
     if bad b = true then some (.ret, [(2, .v (.bool false))], h) else some (.normal, [(0, .list .no (ri .u8 (b.drop (one b).2.1)))], h) := by
  have hl : 0 < b.length := List.length_pos_iff.mpr hn
  have hd : decide ((0 : Int) < b.length) = true := by simpa using hl
  have hk := (one_b hn).2.2
  have hs : 0 ≤ ((one b).2.1 : Int) := by omega
  have fin : ∀ {v : Bool}, (bad b = v) → (v = (bad b)) := fun h => h.symm
  cases h1 : (one b).1 == 65533 with
  | false =>
    have hv : bad b = false := by simp [bad, h1]
    simp only [go_sem, l20x0, b20, Try.f20, hd, f32n hn hb hy, two, hs, hk, Nat.le_refl, ri_drop, ri_take, Int.toNat_natCast, and_self, h1, hv, Bool.false_eq_true]
  | true =>
    by_cases h3 : (one b).2.1 < 3
    · have hv : bad b = true := by simp [bad, h1, h3]
      have h4 : decide (((one b).2.1 : Int) < 3) = true := by simp; omega
      simp only [go_sem, l20x0, b20, Try.f20, hd, f32n hn hb hy, two, hs, hk, Nat.le_refl, ri_drop, ri_take, Int.toNat_natCast, and_self, h1, hv, h4]
    · have h4 : decide (((one b).2.1 : Int) < 3) = false := by simp; omega
      obtain ⟨a1, a2, a3, t, he⟩ : ∃ a1 a2 a3 t, b = a1 :: a2 :: a3 :: t := by
        match b, hk with
        | [], hk => simp at hk; omega
        | [_], hk => simp at hk; omega
        | [_, _], hk => simp at hk; omega
        | a1 :: a2 :: a3 :: t, _ => exact ⟨_, _, _, _, rfl⟩
      have x1 : b[0]? = some a1 := by rw [he]; rfl
      have x2 : b[1]? = some a2 := by rw [he]; rfl
      have x3 : b[2]? = some a3 := by rw [he]; rfl
      have hv : bad b = (a1 != 239 || (a2 != 191 || a3 != 189)) := by
        have ht : isRep b = (a1 == 239 && (a2 == 191 && a3 == 189)) := by rw [he]; simp [isRep]
        simp only [bad, h1, h3, ht, decide_false, Bool.true_and, Bool.false_or, bne, Bool.not_and]
      clear he
      rw [hv]
      cases g1 : a1 != 239 with
      | true => simp only [go_sem, l20x0, b20, Try.f20, hd, f32n hn hb hy, two, hs, hk, Nat.le_refl, ri_drop, ri_take, Int.toNat_natCast, and_self, h1, h4, x1, x2, x3, g1]
      | false =>
        cases g2 : a2 != 191 with
        | true => simp only [go_sem, l20x0, b20, Try.f20, hd, f32n hn hb hy, two, hs, hk, Nat.le_refl, ri_drop, ri_take, Int.toNat_natCast, and_self, h1, h4, x1, x2, x3, g1, g2]
        | false =>
          cases g3 : a3 != 189 with
          | true => simp only [go_sem, l20x0, b20, Try.f20, hd, f32n hn hb hy, two, hs, hk, Nat.le_refl, ri_drop, ri_take, Int.toNat_natCast, and_self, h1, h4, x1, x2, x3, g1, g2, g3]
          | false => simp only [go_sem, l20x0, b20, Try.f20, hd, f32n hn hb hy, two, hs, hk, Nat.le_refl, ri_drop, ri_take, Int.toNat_natCast, and_self, h1, h4, x1, x2, x3, g1, g2, g3, Bool.false_eq_true]

theorem loop20 {lo : Nat} {h : Heap} : ∀ (n : Nat) (b : List Int), b.length ≤ n → b.length ≤ 140737488355328 → By b →
   loopW (evCode ⟨Try.prog, E, lo, h.length, h20⟩ loopW l20x0) ([(0, .list .no (ri .u8 b))], h) =
     if whole b = true then some (.exit 0, [(0, .list .no []), (7, .v (.bool false))], h) else some (.ret, [(2, .v (.bool false))], h) := by
  have stop : loopW (evCode ⟨Try.prog, E, lo, h.length, h20⟩ loopW l20x0) ([(0, .list .no (ri .u8 []))], h) =
     if whole [] = true then some (.exit 0, [(0, .list .no []), (7, .v (.bool false))], h) else some (.ret, [(2, .v (.bool false))], h) := by
    rw [loop_eq]
    simp only [go_sem, l20x0, b20, Try.f20, whole_nil, ri_nil, List.length_nil]
    rfl
  intro n
  induction n with
  | zero =>
    intro b h1 h2 hy
    obtain rfl : b = [] := List.eq_nil_of_length_eq_zero (by omega)
    exact stop
  | succ n ih =>
    intro b h1 h2 hy
    by_cases hn : b = []
    · subst hn; exact stop
    · have hk := one_b hn
      have hlen : (b.drop (one b).2.1).length = b.length - (one b).2.1 := List.length_drop
      rw [loop_eq, round20 hn h2 hy, bad_eq hy hn, whole_b hn]
      cases hx : (one b).2.2 with
      | true => rw [if_neg (by simp), loop_n, ih _ (by omega) (by omega) (hy.drop _), Bool.true_and]
      | false => rw [if_pos (by simp), loop_r]; rfl

/-- utf.Whole -/
theorem f20 {lo : Nat} {b : List Int} {h : Heap} (hb : b.length ≤ 140737488355328) (hy : By b) : E lo 20 [.list .no (ri .u8 b)] h = some (.v (.bool (whole b)), h) := by
  rw [e20 (by simp) (by rfl)]
  have hL := loop20 (lo := lo) (h := h) b.length b (Nat.le_refl _) hb hy
  simp only [l20x0, b20, Try.f20, loopAt, loops, bodyOf, go_sem, ri_nil, List.drop_zero] at hL
  cases hx : whole b with
  | true =>
    rw [if_pos hx] at hL
    simp only [go_sem, b20, Try.f20, hL]
  | false =>
    rw [if_neg (by simp [hx])] at hL
    simp only [go_sem, b20, Try.f20, hL]
end Go.Lift.R1
