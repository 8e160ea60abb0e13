/- Numbers: the program. -/
import Derived.Test.YtnfdhgadidacaaaDoorRe
import Derived.Test.YtnfdhgadidacaaaDoorRd
section
/- The program's numbers, begun: digits, naughts at the ends. -/
open Go.Proofs
namespace Go.Lift.D3
open Utf Tok
set_option maxRecDepth 20000
set_option maxHeartbeats 2000000
set_option linter.unusedSimpArgs false
set_option linter.unusedVariables false

/-! ### rat.digits -/
theorem loop96 {lo : Nat} {t : List Int} {h : Heap} (hy : By t) (hl : t.length ≤ 100000000000) : ∀ (m i : Nat), t.length - i ≤ m → i ≤ t.length →
    loopW (evCode ⟨Tryd.prog, E, lo, h.length, h96⟩ loopW l96x0) ([(0, .v (.string (bs t))), (3, .v (.int .i64 i))], h) =
      some (.exit 0, [(0, .v (.string (bs t))), (3, .v (.int .i64 (i + ((t.drop i).takeWhile dig).length : Nat))), (19, .v (.bool false))], h) := by
  intro m
  induction m with
  | zero =>
    intro i h1 h2
    obtain rfl : i = t.length := by omega
    have hd : decide ((t.length : Int) < (t.length : Int)) = false := by simp
    rw [loop_eq]
    simp only [go_sem, l96x0, b96, Tryd.f96, bs_size, hd]
    simp
  | succ m ih =>
    intro i h1 h2
    rcases Nat.lt_or_ge i t.length with hi | hi
    rotate_left
    · exact ih i (by omega) h2
    have hd : decide ((i : Int) < (t.length : Int)) = true := by simp; omega
    have hw : IntKind.i64.wrap ((i : Int) + 1) = ((i + 1 : Nat) : Int) := wrap_succ (by omega)
    have hc : t[i]? = some t[i] := List.getElem?_eq_getElem hi
    have hdr := drop_cons hc
    generalize t[i] = c at hc hdr
    rw [hdr]
    cases hb : dig c with
    | false =>
      rw [List.takeWhile_cons_of_neg (by simp [hb]), loop_eq]
      simp only [dig, Bool.and_eq_false_iff] at hb
      cases h48 : decide (48 ≤ c) with
      | false =>
        simp only [go_sem, l96x0, b96, Tryd.f96, bs_size, hd, bs_ix hy, hc, h48]
        simp
      | true =>
        have h57 : decide (c ≤ 57) = false := by rcases hb with h | h; rw [h48] at h; cases h; exact h
        simp only [go_sem, l96x0, b96, Tryd.f96, bs_size, hd, bs_ix hy, hc, h48, h57]
        simp
    | true =>
      rw [List.takeWhile_cons_of_pos hb, loop_eq]
      simp only [dig, Bool.and_eq_true] at hb
      obtain ⟨h48, h57⟩ := hb
      have e : evCode ⟨Tryd.prog, E, lo, h.length, h96⟩ loopW l96x0 ([(0, .v (.string (bs t))), (3, .v (.int .i64 i))], h) = some (.normal, [(0, .v (.string (bs t))), (3, .v (.int .i64 (i + 1 : Nat)))], h) := by
        simp only [go_sem, l96x0, b96, Tryd.f96, bs_size, hd, bs_ix hy, hc, h48, h57, hw]
      rw [e, loop_n, ih (i + 1) (by omega) (by omega)]
      have e2 : i + (c :: (t.drop (i + 1)).takeWhile dig).length = i + 1 + ((t.drop (i + 1)).takeWhile dig).length := by simp; omega
      rw [e2]
/-- rat.digits -/
theorem f96 {lo : Nat} {t : List Int} {h : Heap} (hy : By t) (hl : t.length ≤ 100000000000) :
    E lo 96 [.v (.string (bs t))] h = some (.v (.int .i64 ((t.takeWhile dig).length : Nat)), h) := by
  have hL := loop96 (lo := lo) (h := h) hy hl t.length 0 (by omega) (by omega)
  rw [e96 (by simp) (by rfl)]
  simp only [l96x0, b96, Tryd.f96, loopAt, loops, bodyOf, go_sem, Nat.zero_add] at hL
  simp only [go_sem, b96, Tryd.f96, hL]

/-! ### strings.TrimLeft, strings.TrimRight of naughts -/
theorem loop97 {lo : Nat} {h : Heap} : ∀ (l : List Int), By l → l.length ≤ 100000000000 →
    loopW (evCode ⟨Tryd.prog, E, lo, h.length, h97⟩ loopW l97x0) ([(0, .v (.string (bs l))), (1, .v (.int .u8 48))], h) =
      some (.exit 0, [(0, .v (.string (bs (l.dropWhile (· == 48))))), (1, .v (.int .u8 48)), (13, .v (.bool false))], h)
  | [], hy, hl => by
    have hd : decide ((0 : Int) < 0) = false := rfl
    rw [loop_eq]
    simp only [go_sem, l97x0, b97, Tryd.f97, bs_size, hd]
    rfl
  | c :: t, hy, hl => by
    have hd : decide ((0 : Int) < ((t.length + 1 : Nat) : Int)) = true := by simp
    have hc : (c :: t)[0]? = some c := rfl
    have hix := bs_ix hy 0
    rw [hc] at hix
    rw [loop_eq]
    cases hb : (c == 48) with
    | false =>
      rw [List.dropWhile_cons_of_neg (by simp [hb])]
      simp only [go_sem, l97x0, b97, Tryd.f97, bs_size, hd, hix, hb]
    | true =>
      rw [List.dropWhile_cons_of_pos (p := (· == 48)) hb]
      have h1 : 1 ≤ t.length + 1 := by omega
      have e : evCode ⟨Tryd.prog, E, lo, h.length, h97⟩ loopW l97x0 ([(0, .v (.string (bs (c :: t)))), (1, .v (.int .u8 48))], h) = some (.normal, [(0, .v (.string (bs t))), (1, .v (.int .u8 48))], h) := by
        simp only [go_sem, l97x0, b97, Tryd.f97, bs_size, hd, hix, hb, h1, Nat.le_refl, bs_ext]
      rw [e, loop_n]
      exact loop97 t (fun x hx => hy x (by simp [hx])) (by simp at hl; omega)
theorem f97 {lo : Nat} {l : List Int} {h : Heap} (hy : By l) (hl : l.length ≤ 100000000000) : E lo 97 [.v (.string (bs l)), .v (.int .u8 48)] h = some (.v (.string (bs (l.dropWhile (· == 48)))), h) := by
  have hL := loop97 (lo := lo) (h := h) l hy hl
  rw [e97 (by simp) (by rfl)]
  simp only [l97x0, b97, Tryd.f97, loopAt, loops, bodyOf, go_sem] at hL
  simp only [go_sem, b97, Tryd.f97, hL]
theorem core_nil : core [] = [] := rfl
theorem loop87 {lo : Nat} {h : Heap} : ∀ (m : Nat) (l : List Int), l.length = m → By l → l.length ≤ 100000000000 →
    loopW (evCode ⟨Tryd.prog, E, lo, h.length, h87⟩ loopW l87x0) ([(0, .v (.string (bs l))), (1, .v (.int .u8 48))], h) =
      some (.exit 0, [(0, .v (.string (bs (core l)))), (1, .v (.int .u8 48)), (16, .v (.bool false))], h) := by
  intro m
  induction m with
  | zero =>
    intro l hm hy hl
    obtain rfl := List.eq_nil_of_length_eq_zero hm
    have hd : decide ((0 : Int) < 0) = false := rfl
    rw [loop_eq]
    simp only [go_sem, l87x0, b87, Tryd.f87, bs_size, hd, core_nil]
  | succ m ih =>
    intro l hm hy hl
    obtain ⟨t, c, rfl⟩ : ∃ t c, l = t ++ [c] := by
      rcases List.eq_nil_or_concat l with h | ⟨t, c, h⟩
      · rw [h] at hm; cases hm
      · exact ⟨t, c, by simpa using h⟩
    have hsz : (t ++ [c]).length = t.length + 1 := by simp
    have htm : t.length = m := by omega
    have hd : decide ((0 : Int) < ((t.length + 1 : Nat) : Int)) = true := by simp
    have hc : (t ++ [c])[t.length]? = some c := by simp
    have hw : IntKind.i64.wrap (((t.length + 1 : Nat) : Int) - 1) = (t.length : Int) := by rw [wrap_i64 (by omega) (by omega)]; omega
    have hix := bs_ix hy t.length
    rw [hc] at hix
    have htk : (t ++ [c]).take t.length = t := by simp
    rw [loop_eq, core_snoc]
    cases hb : (c == 48) with
    | false =>
      rw [if_neg (by simpa using hb)]
      simp only [go_sem, l87x0, b87, Tryd.f87, bs_size, hsz, hd, hw, hix, hb]
    | true =>
      rw [if_pos (by simpa using hb)]
      have h1 : t.length ≤ t.length + 1 := by omega
      have e : evCode ⟨Tryd.prog, E, lo, h.length, h87⟩ loopW l87x0 ([(0, .v (.string (bs (t ++ [c])))), (1, .v (.int .u8 48))], h) = some (.normal, [(0, .v (.string (bs t))), (1, .v (.int .u8 48))], h) := by
        simp only [go_sem, l87x0, b87, Tryd.f87, bs_size, hsz, hd, hw, hix, hb, h1, Nat.zero_le, bs_ext, htk]
      rw [e, loop_n]
      exact ih t htm (fun x hx => hy x (by simp [hx])) (by omega)
theorem f87 {lo : Nat} {l : List Int} {h : Heap} (hy : By l) (hl : l.length ≤ 100000000000) : E lo 87 [.v (.string (bs l)), .v (.int .u8 48)] h = some (.v (.string (bs (core l))), h) := by
  have hL := loop87 (lo := lo) (h := h) l.length l rfl hy hl
  rw [e87 (by simp) (by rfl)]
  simp only [l87x0, b87, Tryd.f87, loopAt, loops, bodyOf, go_sem] at hL
  simp only [go_sem, b87, Tryd.f87, hL]
theorem bs_nil_eq' (l : List Int) : ((bs l).toList == (⟨#[]⟩ : ByteArray).toList) = decide (l = []) := bs_nil_eq l
theorem cut48 : ((⟨#[48]⟩ : ByteArray).toList == (⟨#[]⟩ : ByteArray).toList) = false := (bs_nil_eq' [48]).trans (by simp)
theorem f71 {lo : Nat} {l : List Int} {h : Heap} (hy : By l) (hl : l.length ≤ 100000000000) : E lo 71 [.v (.string (bs l)), .v (.string ⟨#[48]⟩)] h = some (.v (.string (bs (l.dropWhile (· == 48)))), h) := by
  rw [e71 (by simp) (by rfl)]
  cases l with
  | nil =>
    have t1 := bs_nil_eq' []
    simp only [decide_true] at t1
    simp only [go_sem, b71, Tryd.f71, t1]
    rfl
  | cons c t =>
    have t1 := bs_nil_eq' (c :: t)
    rw [decide_eq_false (by simp)] at t1
    have t2 : ((1 : Nat) : Int) = 1 := rfl
    have t3 : ((1 : Int) == 1) = true := rfl
    have t4 : decide ((48 : Int) < 128) = true := rfl
    have t5 : ((UInt8.toNat 48 : Nat) : Int) = 48 := rfl
    have t6 : (⟨#[48]⟩ : ByteArray).size = 1 := rfl
    simp only [go_sem, b71, Tryd.f71, t1, cut48, t2, t3, t4, t5, t6, f97 hy hl]
theorem f65 {lo : Nat} {l : List Int} {h : Heap} (hy : By l) (hl : l.length ≤ 100000000000) : E lo 65 [.v (.string (bs l)), .v (.string ⟨#[48]⟩)] h = some (.v (.string (bs (core l))), h) := by
  rw [e65 (by simp) (by rfl)]
  cases l with
  | nil =>
    have t1 := bs_nil_eq' []
    simp only [decide_true] at t1
    simp only [go_sem, b65, Tryd.f65, t1]
    rfl
  | cons c t =>
    have t1 := bs_nil_eq' (c :: t)
    rw [decide_eq_false (by simp)] at t1
    have t2 : ((1 : Nat) : Int) = 1 := rfl
    have t3 : ((1 : Int) == 1) = true := rfl
    have t4 : decide ((48 : Int) < 128) = true := rfl
    have t5 : ((UInt8.toNat 48 : Nat) : Int) = 48 := rfl
    have t6 : (⟨#[48]⟩ : ByteArray).size = 1 := rfl
    simp only [go_sem, b65, Tryd.f65, t1, cut48, t2, t3, t4, t5, t6, f87 hy hl]

/-! ### rat.made -/
theorem f100 {lo : Nat} {below : Bool} {n d : Int} {h : Heap} (hlo : lo ≤ h.length) (h0 : 0 ≤ n) (h1 : n ≤ 9223372036854775807) (g0 : 1 ≤ d) (g1 : d ≤ 9223372036854775807) :
    E lo 100 [.v (.bool below), .v (.int .u64 n), .v (.int .u64 d)] h = some (.agg (ratC (turn below (some (n, d)))), h) := by
  have t1 : decide (9223372036854775807 < n) = false := by simp; omega
  have t2 : decide (9223372036854775807 < d) = false := by simp; omega
  have t3 : (d == 0) = false := by simp; omega
  have w1 : IntKind.i64.wrap n = n := by rw [wrap_i64] <;> omega
  have w2 : IntKind.i64.wrap d = d := by rw [wrap_i64] <;> omega
  have w3 : IntKind.i64.wrap (0 - n) = -n := by rw [wrap_i64] <;> omega
  rw [e100 (by simp) (by rfl)]
  cases below with
  | true =>
    simp only [go_sem, b100, Tryd.f100, t1, t2, t3, w1, w2, w3, hlo, turn, ratC]
    all_goals rfl
  | false =>
    simp only [go_sem, b100, Tryd.f100, t1, t2, t3, w1, w2, w3, hlo, turn, ratC]
    all_goals rfl
end Go.Lift.D3
end

section
/- The program's numbers: digits times a power of ten. -/
open Go.Proofs
namespace Go.Lift.D3
open Utf Tok
set_option maxRecDepth 20000
set_option maxHeartbeats 4000000
set_option linter.unusedSimpArgs false
set_option linter.unusedVariables false

section
variable {lo : Nat} {below : Bool} {h : Heap} {p : Int}
noncomputable abbrev X72 (lo : Nat) (h : Heap) : Cx := ⟨Tryd.prog, E, lo, h.length, h72⟩
abbrev over145 (h : Heap) : Option (Ex × Env × Heap) := some (.ret, [(6, .ptr h.length 0)], h ++ [.cells (ratC (0, 0))])
abbrev U145 (below : Bool) (h : Heap) (n p : Int) (ex : Env) : Env × Heap :=
  ((0, .v (.bool below)) :: (1, .v (.int .u64 n)) :: (2, .v (.int .i64 p)) :: (6, .ptr h.length 0) :: ex, h ++ [.cells (ratC (0, 0))])
theorem loop72a (hlo : lo ≤ h.length) : ∀ (m : Nat) (p n : Int) (x : V), p.toNat = m → p ≤ 4000000000000 → 0 ≤ n → n ≤ 9223372036854775807 →
    loopW (evCode (X72 lo h) loopW l72x0) (U145 below h n p [(16, x)]) =
      match upN m n with
      | some n' => some (.exit 0, U145 below h n' (if 0 < p then 0 else p) [(19, .v (.bool false))])
      | none => over145 h := by
  intro m
  induction m with
  | zero =>
    intro p n x hm he h0 h1
    have hd : decide (0 < p) = false := by simp; omega
    rw [loop_eq, if_neg (by omega)]
    simp only [go_sem, X72, l72x0, b72, Tryd.f72, hd, upN, ratC]
    all_goals rfl
  | succ m ih =>
    intro p n x hm he h0 h1
    have hd : decide (0 < p) = true := by simp; omega
    have hw : IntKind.i64.wrap (p - 1) = p - 1 := by rw [wrap_i64] <;> omega
    rw [loop_eq]
    simp only [upN]
    by_cases hb : 922337203685477580 < n
    · have hb' : decide (922337203685477580 < n) = true := by simp [hb]
      rw [if_pos hb]
      simp only [go_sem, X72, l72x0, b72, Tryd.f72, hd, hb', hlo, ratC]
      all_goals rfl
    · have hb' : decide (922337203685477580 < n) = false := by simp [hb]
      rw [if_neg hb]
      have w1 : IntKind.u64.wrap (n * 10) = n * 10 := wrap_u64 (by omega) (by omega)
      have e1 : evCode (X72 lo h) loopW l72x0 (U145 below h n p [(16, x)]) = some (.normal, U145 below h (n * 10) (p - 1) [(16, .undef)]) := by
        simp only [go_sem, X72, l72x0, b72, Tryd.f72, hd, hb', w1, hw, ratC]
        all_goals rfl
      rw [e1, loop_n, ih (p - 1) (n * 10) .undef (by omega) (by omega) (by omega) (by omega)]
      have e2 : (if 0 < p - 1 then (0 : Int) else p - 1) = if 0 < p then 0 else p := by split <;> split <;> omega
      rw [e2]

abbrev rows25 : List (List V) := [[.v (.int .u64 2)], [.v (.int .u64 5)]]
abbrev I145 (below : Bool) (h : Heap) (n p d y k i : Int) (ex : Env) : Env × Heap :=
  ((0, .v (.bool below)) :: (1, .v (.int .u64 n)) :: (2, .v (.int .i64 p)) :: (6, .ptr h.length 0) :: (7, .v (.int .u64 d)) :: (9, .v (.int .u64 y)) :: (10, .v (.int .i64 k)) :: (27, .list .yes rows25) :: (28, .v (.int .i64 2)) :: (29, .v (.int .i64 i)) :: ex, h ++ [.cells (ratC (0, 0))])
theorem loop72c {y b i : Int} (hlo : lo ≤ h.length) (hyb : (y = 2 ∧ b = 4611686018427387903) ∨ (y = 5 ∧ b = 1844674407370955161)) :
    ∀ (m : Nat) (k n d : Int), (-k).toNat = m → k ≤ 0 → -4000000000000 ≤ k → 0 ≤ n → n ≤ 9223372036854775807 → 0 ≤ d → d ≤ 9223372036854775807 →
    loopW (evCode (X72 lo h) loopW l72x2) (I145 below h n p d y k i []) =
      match downN y b m n d with
      | some r => some (.exit 4, I145 below h r.1 p r.2 y 0 i [(35, .v (.bool false))])
      | none => over145 h := by
  have hy0 : 0 < y := by omega
  have hyz : (y = 0) = False := by simp; omega
  have hbq : Int.tdiv 9223372036854775807 y = b := by rcases hyb with ⟨rfl, rfl⟩ | ⟨rfl, rfl⟩ <;> rfl
  have wb : IntKind.u64.wrap b = b := wrap_u64 (by omega) (by omega)
  have hby : b * y ≤ 9223372036854775807 := by rcases hyb with ⟨rfl, rfl⟩ | ⟨rfl, rfl⟩ <;> decide
  have hb0 : 0 ≤ b := by omega
  intro m
  induction m with
  | zero =>
    intro k n d hm hk hk2 h0 h1 g0 g1
    obtain rfl : k = 0 := by omega
    have hd : decide ((0 : Int) < 0) = false := rfl
    rw [loop_eq]
    simp only [downN]
    simp only [go_sem, X72, l72x2, b72, Tryd.f72, hd, ratC]
    all_goals rfl
  | succ m ih =>
    intro k n d hm hk hk2 h0 h1 g0 g1
    have hd : decide (k < 0) = true := by simp; omega
    have hw : IntKind.i64.wrap (k + 1) = k + 1 := by rw [wrap_i64] <;> omega
    have hr : Int.tmod n y = n % y := Int.tmod_eq_emod_of_nonneg h0
    have hq : Int.tdiv n y = n / y := Int.tdiv_eq_ediv_of_nonneg h0
    have hq0 : 0 ≤ n / y := Int.ediv_nonneg h0 (by omega)
    have hq1 : n / y ≤ n := Int.ediv_le_self y h0
    have wq : IntKind.u64.wrap (n / y) = n / y := wrap_u64 (by omega) (by omega)
    rw [loop_eq]
    simp only [downN]
    by_cases hm0 : n % y = 0
    · have hb : (n % y == 0) = true := by simp [hm0]
      have e1 : evCode (X72 lo h) loopW l72x2 (I145 below h n p d y k i []) = some (.normal, I145 below h (n / y) p d y (k + 1) i []) := by
        simp only [go_sem, X72, l72x2, b72, Tryd.f72, hd, hr, hq, wq, hb, hw, hyz, ratC]
        all_goals rfl
      rw [e1, loop_n, ih (k + 1) (n / y) d (by omega) (by omega) (by omega) (by omega) (by omega) g0 g1, if_pos hm0]
    · have hb : (n % y == 0) = false := by simp [hm0]
      rw [if_neg hm0]
      by_cases hbd : b < d
      · have hbd' : decide (b < d) = true := by simp [hbd]
        rw [if_pos hbd]
        simp only [go_sem, X72, l72x2, b72, Tryd.f72, hd, hr, hb, hbq, wb, hbd', hyz, hlo, ratC]
        all_goals rfl
      · have hbd' : decide (b < d) = false := by simp [hbd]
        rw [if_neg hbd]
        have hdy : d * y ≤ b * y := Int.mul_le_mul_of_nonneg_right (by omega) (by omega)
        have hdy0 : 0 ≤ d * y := Int.mul_nonneg g0 (by omega)
        have w1 : IntKind.u64.wrap (d * y) = d * y := wrap_u64 (by omega) (by omega)
        have e1 : evCode (X72 lo h) loopW l72x2 (I145 below h n p d y k i []) = some (.normal, I145 below h n p (d * y) y (k + 1) i []) := by
          simp only [go_sem, X72, l72x2, b72, Tryd.f72, hd, hr, hb, hbq, wb, hbd', w1, hw, hyz, ratC]
          all_goals rfl
        rw [e1, loop_n, ih (k + 1) n (d * y) (by omega) (by omega) (by omega) h0 h1 hdy0 (by omega)]

abbrev O145 (below : Bool) (h : Heap) (n p d i : Int) (ex : Env) : Env × Heap :=
  ((0, .v (.bool below)) :: (1, .v (.int .u64 n)) :: (2, .v (.int .i64 p)) :: (6, .ptr h.length 0) :: (7, .v (.int .u64 d)) :: (27, .list .yes rows25) :: (28, .v (.int .i64 2)) :: (29, .v (.int .i64 i)) :: ex, h ++ [.cells (ratC (0, 0))])
theorem round72 {y b : Int} {i : Nat} (hlo : lo ≤ h.length) (hyb : (i = 0 ∧ y = 2 ∧ b = 4611686018427387903) ∨ (i = 1 ∧ y = 5 ∧ b = 1844674407370955161))
    {n d : Int} (hk : p ≤ 0) (hk2 : -4000000000000 ≤ p) (h0 : 0 ≤ n) (h1 : n ≤ 9223372036854775807) (g0 : 0 ≤ d) (g1 : d ≤ 9223372036854775807) :
    evCode (X72 lo h) loopW l72x1 (O145 below h n p d i []) = match downN y b (-p).toNat n d with
      | some r => some (.normal, O145 below h r.1 p r.2 (i + 1 : Nat) [])
      | none => over145 h := by
  have hL := loop72c (lo := lo) (below := below) (h := h) (p := p) (y := y) (b := b) (i := i) hlo (by omega) (-p).toNat p n d rfl hk hk2 h0 h1 g0 g1
  cases hu : downN y b (-p).toNat n d with
  | some r =>
    rw [hu] at hL
    rcases hyb with ⟨rfl, rfl, rfl⟩ | ⟨rfl, rfl, rfl⟩
    · have hd : decide (((0 : Nat) : Int) < 2) = true := rfl
      have hw : IntKind.i64.wrap (((0 : Nat) : Int) + 1) = ((0 + 1 : Nat) : Int) := rfl
      simp only [I145, l72x2, X72, b72, Tryd.f72, loopAt, loops, bodyOf, go_sem, ratC] at hL hd hw
      simp only [go_sem, X72, O145, l72x1, b72, Tryd.f72, hd, hw, hL, ratC]
      all_goals rfl
    · have hd : decide (((1 : Nat) : Int) < 2) = true := rfl
      have hw : IntKind.i64.wrap (((1 : Nat) : Int) + 1) = ((1 + 1 : Nat) : Int) := rfl
      simp only [I145, l72x2, X72, b72, Tryd.f72, loopAt, loops, bodyOf, go_sem, ratC] at hL hd hw
      simp only [go_sem, X72, O145, l72x1, b72, Tryd.f72, hd, hw, hL, ratC]
      all_goals rfl
  | none =>
    rw [hu] at hL
    rcases hyb with ⟨rfl, rfl, rfl⟩ | ⟨rfl, rfl, rfl⟩
    · have hd : decide (((0 : Nat) : Int) < 2) = true := rfl
      simp only [I145, over145, l72x2, X72, b72, Tryd.f72, loopAt, loops, bodyOf, go_sem, ratC] at hL hd
      simp only [go_sem, X72, O145, over145, l72x1, b72, Tryd.f72, hd, hL, ratC]
      all_goals rfl
    · have hd : decide (((1 : Nat) : Int) < 2) = true := rfl
      simp only [I145, over145, l72x2, X72, b72, Tryd.f72, loopAt, loops, bodyOf, go_sem, ratC] at hL hd
      simp only [go_sem, X72, O145, over145, l72x1, b72, Tryd.f72, hd, hL, ratC]
      all_goals rfl
end
end Go.Lift.D3
end

section
/- The program's numbers: rat.scaled, whole. -/
open Go.Proofs
namespace Go.Lift.D3
open Utf Tok
set_option maxRecDepth 20000
set_option maxHeartbeats 4000000
set_option linter.unusedSimpArgs false
set_option linter.unusedVariables false

theorem downN_le {y b : Int} (hy : 0 < y) (hb : b * y ≤ 9223372036854775807) : ∀ (k : Nat) (n d : Int) (r : Int × Int), 1 ≤ n → n ≤ 9223372036854775807 → 1 ≤ d → d ≤ 9223372036854775807 → downN y b k n d = some r →
    1 ≤ r.1 ∧ r.1 ≤ 9223372036854775807 ∧ 1 ≤ r.2 ∧ r.2 ≤ 9223372036854775807
  | 0, n, d, r, h0, h1, g0, g1, h => by simp only [downN, Option.some.injEq] at h; subst h; exact ⟨h0, h1, g0, g1⟩
  | k + 1, n, d, r, h0, h1, g0, g1, h => by
    simp only [downN] at h
    split at h
    · rename_i hm
      have hq1 : n / y ≤ n := Int.ediv_le_self y (by omega)
      have h3 : 1 ≤ n / y := by
        rcases Int.lt_or_le (n / y) 1 with h4 | h4
        · have h2 : n = n / y * y := by have := Int.mul_ediv_add_emod n y; rw [hm, Int.add_zero] at this; rw [Int.mul_comm]; exact this.symm
          have : n / y * y ≤ 0 := Int.mul_nonpos_of_nonpos_of_nonneg (by omega) (by omega)
          omega
        · exact h4
      exact downN_le hy hb k (n / y) d r h3 (by omega) g0 g1 h
    · split at h
      · cases h
      · have hdy : d * y ≤ b * y := Int.mul_le_mul_of_nonneg_right (by omega) (by omega)
        have hdy0 : 1 ≤ d * y := by
          have := le_mulr (a := d) (b := y) (by omega) (by omega)
          omega
        exact downN_le hy hb k n (d * y) r h0 h1 hdy0 (by omega) h

section
variable {lo : Nat} {below : Bool} {h : Heap} {p : Int}
theorem p145a {n : Int} (hlo : lo ≤ h.length) : evL (X72 lo h) loopW (pc b72 0 3) (args0 [.v (.bool below), .v (.int .u64 n), .v (.int .i64 p)], h) =
    if 18 < p ∨ p < -100 then over145 h else some (.normal, U145 below h n p [(16, .v (.bool false))]) := by
  by_cases h18 : 18 < p
  · have t1 : decide (18 < p) = true := by simp [h18]
    rw [if_pos (.inl h18)]
    simp only [go_sem, X72, b72, Tryd.f72, t1, hlo, ratC]
    all_goals rfl
  · have t1 : decide (18 < p) = false := by simp [h18]
    by_cases h100 : p < -100
    · have t2 : decide (p < -100) = true := by simp [h100]
      rw [if_pos (.inr h100)]
      simp only [go_sem, X72, b72, Tryd.f72, t1, t2, hlo, ratC]
      all_goals rfl
    · have t2 : decide (p < -100) = false := by simp [h100]
      rw [if_neg (by omega)]
      simp only [go_sem, X72, b72, Tryd.f72, t1, t2, ratC]
      all_goals rfl
theorem p145b {n : Int} (hlo : lo ≤ h.length) (hp : p ≤ 4000000000000) (h0 : 0 ≤ n) (h1 : n ≤ 9223372036854775807) : evL (X72 lo h) loopW (pc b72 3 1) (U145 below h n p [(16, .v (.bool false))]) =
    match upN p.toNat n with
    | some n' => some (.normal, U145 below h n' (if 0 < p then 0 else p) [(19, .v (.bool false))])
    | none => over145 h := by
  have hL := loop72a (lo := lo) (below := below) (h := h) hlo p.toNat p n (.v (.bool false)) rfl hp h0 h1
  cases hu : upN p.toNat n with
  | some n' =>
    rw [hu] at hL
    simp only [U145, l72x0, X72, b72, Tryd.f72, loopAt, loops, bodyOf, go_sem, ratC] at hL
    simp only [go_sem, X72, U145, b72, Tryd.f72, hL, ratC]
  | none =>
    rw [hu] at hL
    simp only [U145, over145, l72x0, X72, b72, Tryd.f72, loopAt, loops, bodyOf, go_sem, ratC] at hL
    simp only [go_sem, X72, U145, over145, b72, Tryd.f72, hL, ratC]
theorem outer145 {n : Int} (hlo : lo ≤ h.length) (hk : p ≤ 0) (hk2 : -4000000000000 ≤ p) (h0 : 1 ≤ n) (h1 : n ≤ 9223372036854775807) :
    loopW (evCode (X72 lo h) loopW l72x1) (O145 below h n p 1 0 []) =
      match downN 2 4611686018427387903 (-p).toNat n 1 with
      | some r => match downN 5 1844674407370955161 (-p).toNat r.1 r.2 with
        | some s => some (.exit 2, O145 below h s.1 p s.2 2 [(30, .v (.bool false))])
        | none => over145 h
      | none => over145 h := by
  have hA := round72 (lo := lo) (below := below) (h := h) (p := p) (i := 0) hlo (.inl ⟨rfl, rfl, rfl⟩) (n := n) (d := 1) hk hk2 (by omega) h1 (by omega) (by omega)
  rw [loop_eq]
  simp only [n0] at hA
  rw [hA]
  cases hu : downN 2 4611686018427387903 (-p).toNat n 1 with
  | none => rfl
  | some r =>
    obtain ⟨q0, q1, q2, q3⟩ := downN_le (by omega) (by omega) _ _ _ _ h0 h1 (by omega) (by omega) hu
    have hB := round72 (lo := lo) (below := below) (h := h) (p := p) (i := 1) hlo (.inr ⟨rfl, rfl, rfl⟩) (n := r.1) (d := r.2) hk hk2 (by omega) q1 (by omega) q3
    simp only
    rw [loop_n, loop_eq]
    have e1 : ((0 + 1 : Nat) : Int) = ((1 : Nat) : Int) := rfl
    rw [e1, hB]
    cases hv : downN 5 1844674407370955161 (-p).toNat r.1 r.2 with
    | none => rfl
    | some s =>
      simp only
      rw [loop_n, loop_eq]
      have hd : decide (((1 + 1 : Nat) : Int) < 2) = false := rfl
      simp only [go_sem, X72, O145, l72x1, b72, Tryd.f72, hd, ratC]
      all_goals rfl
theorem p145c {n : Int} (hlo : lo ≤ h.length) (hk : p ≤ 0) (hk2 : -4000000000000 ≤ p) (h0 : 1 ≤ n) (h1 : n ≤ 9223372036854775807) : evL (X72 lo h) loopW (pc b72 4 3) (U145 below h n p [(19, .v (.bool false))]) =
    match downN 2 4611686018427387903 (-p).toNat n 1 with
      | some r => match downN 5 1844674407370955161 (-p).toNat r.1 r.2 with
        | some s => some (.normal, O145 below h s.1 p s.2 2 [(30, .v (.bool false))])
        | none => over145 h
      | none => over145 h := by
  have n2 : ((2 : Nat) : Int) = 2 := rfl
  have hL := outer145 (lo := lo) (below := below) (h := h) hlo hk hk2 h0 h1
  cases hu : downN 2 4611686018427387903 (-p).toNat n 1 with
  | none =>
    rw [hu] at hL
    simp only [O145, over145, l72x1, X72, b72, Tryd.f72, loopAt, loops, bodyOf, go_sem, ratC] at hL
    simp only [go_sem, X72, U145, over145, b72, Tryd.f72, n2, hL, ratC]
    all_goals rfl
  | some r =>
    rw [hu] at hL
    simp only at hL ⊢
    cases hv : downN 5 1844674407370955161 (-p).toNat r.1 r.2 with
    | none =>
      rw [hv] at hL
      simp only [O145, over145, l72x1, X72, b72, Tryd.f72, loopAt, loops, bodyOf, go_sem, ratC] at hL
      simp only [go_sem, X72, U145, over145, b72, Tryd.f72, n2, hL, ratC]
      all_goals rfl
    | some s =>
      rw [hv] at hL
      simp only [O145, l72x1, X72, b72, Tryd.f72, loopAt, loops, bodyOf, go_sem, ratC] at hL
      simp only [go_sem, X72, U145, O145, b72, Tryd.f72, n2, hL, ratC]
      all_goals rfl
theorem p145d {n d : Int} (hlo : lo ≤ h.length) (h0 : 1 ≤ n) (h1 : n ≤ 9223372036854775807) (g0 : 1 ≤ d) (g1 : d ≤ 9223372036854775807) : evL (X72 lo h) loopW (pc b72 7 2) (O145 below h n p d 2 [(30, .v (.bool false))]) =
    some (.ret, [(6, .ptr h.length 0)], h ++ [.cells (ratC (turn below (some (n, d))))]) := by
  have k := f100 (lo := lo) (below := below) (n := n) (d := d) (h := h ++ [.cells (ratC (0, 0))]) (by simp; omega) (by omega) h1 g0 g1
  simp only [ratC] at k
  simp only [go_sem, X72, O145, b72, Tryd.f72, k, hlo, ratC]
  all_goals rfl
theorem fin145 {h : Heap} {x : Int × Int} : fin Tryd.prog [.cell 6 26] h.length (some (.ret, [(6, .ptr h.length 0)], h ++ [.cells (ratC x)])) = some (.agg (ratC x), h) := fin154

/-- rat.scaled -/
theorem f72 {n : Int} (hlo : lo ≤ h.length) (hp0 : -4000000000000 ≤ p) (hp1 : p ≤ 4000000000000) (h0 : 1 ≤ n) (h1 : n < 10 ^ 18) :
    E lo 72 [.v (.bool below), .v (.int .u64 n), .v (.int .i64 p)] h = some (.agg (ratC (turn below (scaleR n p))), h) := by
  have h18 : (10 : Int) ^ 18 = 1000000000000000000 := by decide
  rw [← scale_eq h0 h1, e72 (by simp) (by rfl), pc_in, pc_go _ _ _ _ 0 3, p145a hlo]
  unfold scaleP
  by_cases hov : 18 < p ∨ p < -100
  · rw [if_pos hov, if_pos hov, over145, pc_r]
    exact fin145
  rw [if_neg hov, if_neg hov, pc_go _ _ _ _ _ 1, p145b hlo hp1 (by omega) (by omega)]
  cases hu : upN p.toNat n with
  | none =>
    simp only
    rw [over145, pc_r]
    exact fin145
  | some m =>
    obtain ⟨m0, m1⟩ := upN_le _ _ _ h0 (by omega) hu
    simp only
    have hp0 : (if 0 < p then (0 : Int) else p) ≤ 0 := by split <;> omega
    have hpn : (-(if 0 < p then (0 : Int) else p)).toNat = (-p).toNat := by split <;> omega
    rw [pc_go _ _ _ _ _ 3, p145c hlo hp0 (by split <;> omega) m0 m1, hpn]
    cases hv : downN 2 4611686018427387903 (-p).toNat m 1 with
    | none =>
      simp only
      rw [over145, pc_r]
      exact fin145
    | some r =>
      obtain ⟨q0, q1, q2, q3⟩ := downN_le (by omega) (by omega) _ _ _ _ m0 m1 (by omega) (by omega) hv
      obtain ⟨r1, r2⟩ := r
      simp only
      cases hw : downN 5 1844674407370955161 (-p).toNat r1 r2 with
      | none =>
        simp only
        rw [over145, pc_r]
        exact fin145
      | some s =>
        obtain ⟨s0, s1, s2, s3⟩ := downN_le (by omega) (by omega) _ _ _ _ q0 q1 q2 q3 hw
        simp only
        rw [pc_go _ _ _ _ _ 2, p145d hlo s0 s1 s2 s3, pc_r]
        exact fin145
end
end Go.Lift.D3
end

section
/- The program's numbers: rat.cut. -/
open Go.Proofs
namespace Go.Lift.D3
open Utf Tok
set_option maxRecDepth 20000
set_option maxHeartbeats 4000000
set_option linter.unusedSimpArgs false
set_option linter.unusedVariables false

def wrC (below : Bool) (d : List Int) (behind exp : Int) (whole : Bool) : List V := [.v (.bool below), .v (.string (bs d)), .v (.int .i64 behind), .v (.int .i64 exp), .v (.bool whole)]
section
variable {lo : Nat} {t : List Int} {h : Heap} {neg : Bool}
noncomputable abbrev X70 (lo : Nat) (h : Heap) : Cx := ⟨Tryd.prog, E, lo, h.length, h70⟩
abbrev P143 (t : List Int) (h : Heap) (ex : Env) (w : List V) : Env × Heap :=
  ((0, .v (.string (bs t))) :: (2, .ptr h.length 0) :: (4, .ptr (h.length + 1) 0) :: ex, h ++ [.cells (wrC false [] 0 0 false), .cells w])

theorem p143a {k : Nat} (hy : By t) (hl : t.length ≤ 100000000000) (hlo : lo ≤ h.length) (hlo2 : lo ≤ h.length + 1)
    (ht : (∃ c, t[0]? = some c ∧ (c == 43) = false ∧ (c == 45) = false ∧ k = 0 ∧ neg = false) ∨ (t[0]? = some 43 ∧ k = 1 ∧ neg = false) ∨ (t[0]? = some 45 ∧ k = 1 ∧ neg = true)) :
    ∃ x, evL (X70 lo h) loopW (pc b70 0 4) (args0 [.v (.string (bs t))], h) = some (.normal, P143 (t.drop k) h [(21, x)] (wrC neg [] 0 0 false)) := by
  have hlen : 0 < t.length := by
    rcases ht with ⟨c, h, _⟩ | ⟨h, _⟩ | ⟨h, _⟩ <;> exact (List.getElem?_eq_some_iff.1 h).1
  have t0 := bs_nil_eq' t
  rw [decide_eq_false (by intro h; rw [h] at hlen; simp at hlen)] at t0
  have hix := bs_ix hy 0
  have h1 : 1 ≤ t.length := hlen
  rcases ht with ⟨c, hc, c1, c2, rfl, rfl⟩ | ⟨hc, rfl, rfl⟩ | ⟨hc, rfl, rfl⟩
  · refine ⟨.v (.bool false), ?_⟩
    rw [hc] at hix
    simp only [go_sem, X70, b70, Tryd.f70, t0, hix, c1, c2, wrC]
    all_goals rfl
  · have c1 : ((43 : Int) == 43) = true := rfl
    have c2 : ((43 : Int) == 45) = false := rfl
    refine ⟨.v (.bool true), ?_⟩
    rw [hc] at hix
    simp only [go_sem, X70, b70, Tryd.f70, t0, hix, c1, c2, bs_size, bs_ext, h1, Nat.le_refl, hlo, hlo2, wrC]
    all_goals rfl
  · have c1 : ((45 : Int) == 43) = false := rfl
    have c2 : ((45 : Int) == 45) = true := rfl
    refine ⟨.v (.bool true), ?_⟩
    rw [hc] at hix
    simp only [go_sem, X70, b70, Tryd.f70, t0, hix, c1, c2, bs_size, bs_ext, h1, Nat.le_refl, hlo, hlo2, wrC]
    all_goals rfl

/-- the digits ahead of the point; is there one? -/
theorem p143b {d r : List Int} {x : V} {pt : Bool} (hy : By t) (hl : t.length ≤ 100000000000) (hlo2 : lo ≤ h.length + 1) (hT : t = d ++ r) (htw : t.takeWhile dig = d)
    (hpt : (∃ c, r[0]? = some c ∧ (c == 46) = pt) ∨ (r = [] ∧ pt = false)) :
    evL (X70 lo h) loopW (pc b70 4 3) (P143 t h [(21, x)] (wrC neg [] 0 0 false)) = some (.normal, P143 r h [(44, .v (.bool pt))] (wrC neg d 0 0 true)) := by
  have k172 := fun h => f96 (lo := lo) (h := h) hy hl
  simp only [htw] at k172
  have hyr : By r := fun c hc => hy c (by rw [hT]; simp [hc])
  have e1 : t.take d.length = d := by rw [hT]; simp
  have e2 : t.drop d.length = r := by rw [hT]; simp
  have h1 : d.length ≤ t.length := by rw [hT]; simp
  have hix := bs_ix hyr 0
  rcases hpt with ⟨c, hc, rfl⟩ | ⟨rfl, rfl⟩
  · have t0 := bs_nil_eq' r
    rw [decide_eq_false (by intro h; rw [h] at hc; simp at hc)] at t0
    rw [hc] at hix
    simp only [go_sem, X70, P143, b70, Tryd.f70, k172, bs_size, bs_ext, h1, Nat.le_refl, Nat.zero_le, hlo2, e1, e2, t0, hix, wrC]
    all_goals rfl
  · have t0 := bs_nil_eq' []
    rw [decide_eq_true rfl] at t0
    have hn : ([] : List Int)[0]? = none := rfl
    rw [hn] at hix
    simp only [go_sem, X70, P143, b70, Tryd.f70, k172, bs_size, bs_ext, h1, Nat.le_refl, Nat.zero_le, hlo2, e1, e2, t0, hix, wrC]
    all_goals rfl
/-- what stands behind the point -/
theorem p143c0 {w : List V} : evL (X70 lo h) loopW (pc b70 7 1) (P143 t h [(44, .v (.bool false))] w) = some (.normal, P143 t h [(44, .v (.bool false))] w) := by
  simp only [go_sem, X70, P143, b70, Tryd.f70, wrC]
theorem p143c1 {d f r : List Int} (hy : By t) (hl : t.length ≤ 100000000000) (hdl : d.length ≤ 100000000000) (hlo2 : lo ≤ h.length + 1) (hT : t = 46 :: (f ++ r)) (htw : (f ++ r).takeWhile dig = f) (hf : f ≠ []) :
    evL (X70 lo h) loopW (pc b70 7 1) (P143 t h [(44, .v (.bool true))] (wrC neg d 0 0 true)) = some (.normal, P143 r h [(44, .undef)] (wrC neg (d ++ f) f.length 0 false)) := by
  have hyr : By (f ++ r) := fun c hc => hy c (by rw [hT]; simp only [List.mem_cons]; exact .inr hc)
  have hlen : t.length = 1 + (f.length + r.length) := by rw [hT]; simp; omega
  have k172 := fun h => f96 (lo := lo) (h := h) hyr (by simp; omega)
  simp only [htw] at k172
  have e0 : t.drop 1 = f ++ r := by rw [hT]; rfl
  have e1 : (t.take (1 + f.length)).drop 1 = f := by rw [hT, Nat.add_comm]; simp
  have e2 : t.drop (1 + f.length) = r := by rw [hT, Nat.add_comm]; simp
  have h1 : 1 ≤ t.length := by omega
  have h2 : 1 + f.length ≤ t.length := by omega
  have h3 : 1 ≤ 1 + f.length := by omega
  have hfl : 0 < f.length := List.length_pos_iff.2 hf
  have t1 : ((f.length : Int) == 0) = false := by simp; omega
  have w1 : IntKind.i64.wrap (1 + (f.length : Int)) = ((1 + f.length : Nat) : Int) := by rw [wrap_i64 (by omega) (by omega)]; omega
  have hsz : d.length + f.length ≤ 9223372036854775807 := by omega
  simp only [go_sem, X70, P143, b70, Tryd.f70, k172, bs_size, bs_ext, h1, h2, h3, Nat.le_refl, Nat.zero_le, hlo2, e0, e1, e2, t1, w1, hsz, bs_app, wrC]
  all_goals rfl
/-- there are digits; does more come? -/
theorem p143d0 {d : List Int} {fr e : Int} {wh : Bool} {x : V} (hlo : lo ≤ h.length) (hd : d ≠ []) :
    evL (X70 lo h) loopW (pc b70 8 4) (P143 [] h [(44, x)] (wrC neg d fr e wh)) = some (.ret, [(2, .ptr h.length 0), (3, .v (.bool true))], h ++ [.cells (wrC neg d fr e wh), .cells (wrC neg d fr e wh)]) := by
  have t0 := bs_nil_eq' d
  rw [decide_eq_false hd] at t0
  have t1 := bs_nil_eq' []
  rw [decide_eq_true rfl] at t1
  simp only [go_sem, X70, P143, b70, Tryd.f70, t0, t1, hlo, wrC]
  all_goals rfl
theorem p143d1 {d : List Int} {fr e : Int} {wh : Bool} {x : V} (hd : d ≠ []) (ht : t ≠ []) :
    evL (X70 lo h) loopW (pc b70 8 4) (P143 t h [(44, x)] (wrC neg d fr e wh)) = some (.normal, P143 t h [(71, .v (.bool false))] (wrC neg d fr e wh)) := by
  have t0 := bs_nil_eq' d
  rw [decide_eq_false hd] at t0
  have t1 := bs_nil_eq' t
  rw [decide_eq_false ht] at t1
  simp only [go_sem, X70, P143, b70, Tryd.f70, t0, t1, wrC]
  all_goals rfl

abbrev L143 (h : Heap) (neg down : Bool) (ds : List Int) (fr e : Int) (wh : Bool) (rows : List (List V)) (len k : Int) (ex : Env) : Env × Heap :=
  ((2, .ptr h.length 0) :: (4, .ptr (h.length + 1) 0) :: (7, .v (.bool down)) :: (113, .list .no rows) :: (114, .v (.int .i64 len)) :: (115, .v (.int .i64 k)) :: ex, h ++ [.cells (wrC false [] 0 0 false), .cells (wrC neg ds fr e wh)])
theorem loop70 {down wh : Bool} {ds d : List Int} {fr : Int} (hlo2 : lo ≤ h.length + 1) (hd : ∀ c ∈ d, dig c = true) (hl : d.length ≤ 100000000000) : ∀ (r : List Int) (k : Nat) (e : Int), d.drop k = r → k + r.length = d.length → 0 ≤ e → e ≤ 1099511627776 →
    loopW (evCode (X70 lo h) loopW l70x0) (L143 h neg down ds fr e wh (ri .u8 d) d.length k []) =
      some (.exit 0, L143 h neg down ds fr (expN e r) wh (ri .u8 d) d.length d.length [(116, .v (.bool false))]) := by
  intro r
  induction r with
  | nil =>
    intro k e hr hk h0 h1
    have hk' : k = d.length := by simpa using hk
    subst hk'
    have hlt : decide ((d.length : Int) < (d.length : Int)) = false := by simp
    rw [loop_eq]
    simp only [go_sem, X70, l70x0, b70, Tryd.f70, hlt, expN, wrC]
    all_goals rfl
  | cons c r ih =>
    intro k e hr hk h0 h1
    simp only [List.length_cons] at hk
    have hlt : decide ((k : Int) < (d.length : Int)) = true := by simp; omega
    have hc : d[k]? = some c := by
      have := congrArg (·[0]?) hr
      simpa using this
    have hcd := hd c (List.mem_of_getElem? hc)
    simp only [dig, Bool.and_eq_true, decide_eq_true_eq] at hcd
    have hw : IntKind.i64.wrap ((k : Int) + 1) = ((k + 1 : Nat) : Int) := wrap_succ (by omega)
    have w1 : IntKind.i64.wrap (e * 10) = e * 10 := wrap_i64 (by omega) (by omega)
    have w2 : IntKind.u8.wrap (c - 48) = c - 48 := wrap_u8 (by omega) (by omega)
    have w3 : IntKind.i64.wrap (c - 48) = c - 48 := wrap_i64 (by omega) (by omega)
    have w4 : IntKind.i64.wrap (e * 10 + (c - 48)) = e * 10 + (c - 48) := wrap_i64 (by omega) (by omega)
    have hmin : (if e * 10 + (c - 48) < 1099511627776 then e * 10 + (c - 48) else 1099511627776) = if 1099511627776 < e * 10 + (c - 48) then 1099511627776 else e * 10 + (c - 48) := by split <;> split <;> omega
    have e1 : evCode (X70 lo h) loopW l70x0 (L143 h neg down ds fr e wh (ri .u8 d) d.length k []) =
        some (.normal, L143 h neg down ds fr (if 1099511627776 < e * 10 + (c - 48) then 1099511627776 else e * 10 + (c - 48)) wh (ri .u8 d) d.length (k + 1 : Nat) []) := by
      simp only [go_sem, X70, l70x0, b70, Tryd.f70, hlt, hc, w1, w2, w3, w4, hmin, hw, hlo2, wrC]
      all_goals rfl
    rw [loop_eq, e1, loop_n, ih (k + 1) _ (by rw [← List.drop_drop, hr]; rfl) (by omega) (by split <;> omega) (by split <;> omega)]
    rfl
/-- the exponent -/
theorem p143e {d r u : List Int} {fr c : Int} {wh down : Bool} (hy : By t) (hl : t.length ≤ 100000000000) (hlo : lo ≤ h.length) (hlo2 : lo ≤ h.length + 1)
    (hT : t = c :: u) (hce : (c != 101 && c != 69) = false)
    (hu : (∃ s, u = s :: r ∧ (s == 43 || s == 45) = true ∧ down = (s == 45)) ∨ (∃ s, u[0]? = some s ∧ (s == 43 || s == 45) = false ∧ u = r ∧ down = false))
    (hrd : ∀ x ∈ r, dig x = true) (hr0 : r ≠ []) :
    evL (X70 lo h) loopW (pc b70 12 14) (P143 t h [(71, .v (.bool false))] (wrC neg d fr 0 wh)) =
      some (.ret, [(2, .ptr h.length 0), (3, .v (.bool true))], h ++ [.cells (wrC neg d fr (if down = true then - expN 0 r else expN 0 r) false), .cells (wrC neg d fr (if down = true then - expN 0 r else expN 0 r) false)]) := by
  have hyu : By u := fun x hx => hy x (by rw [hT]; simp [hx])
  have hyr : By r := fun x hx => by
    have := hrd x hx
    simp only [dig, Bool.and_eq_true, decide_eq_true_eq] at this
    omega
  have hix := bs_ix hy 0
  have hc0 : t[0]? = some c := by rw [hT]; rfl
  rw [hc0] at hix
  have e0 : t.drop 1 = u := by rw [hT]; rfl
  have h1 : 1 ≤ t.length := by rw [hT]; simp
  have hrl : 0 < r.length := List.length_pos_iff.2 hr0
  have hul : u.length < t.length := by rw [hT]; simp
  have hix2 := bs_ix hyu 0
  have hrl2 : r.length ≤ 100000000000 := by
    rcases hu with ⟨s, hs, _⟩ | ⟨s, _, _, hs, _⟩
    · rw [hs] at hul; simp at hul; omega
    · rw [← hs]; omega
  have k172 := fun h => f96 (lo := lo) (t := r) (h := h) hyr hrl2
  simp only [tw_all hrd] at k172
  have t0 := bs_nil_eq' r
  rw [decide_eq_false hr0] at t0
  have t1 : decide ((r.length : Int) < (r.length : Int)) = false := by simp
  have hL := loop70 (lo := lo) (h := h) (neg := neg) (down := down) (wh := false) (ds := d) (d := r) (fr := fr) hlo2 hrd hrl2 r 0 0 rfl (by omega) (by omega) (by omega)
  obtain ⟨x0, x1⟩ := expN_in r 0 hrd (by omega) (by omega)
  generalize expN 0 r = ee at *
  simp only [L143, X70, l70x0, b70, Tryd.f70, loopAt, loops, bodyOf, go_sem, wrC] at hL
  have hune : u ≠ [] := by
    rcases hu with ⟨s, hs, _⟩ | ⟨s, hs, _, _, _⟩
    · rw [hs]; simp
    · intro h; rw [h] at hs; cases hs
  have tu := bs_nil_eq' u
  rw [decide_eq_false hune] at tu
  rcases hu with ⟨s, hs, hss, rfl⟩ | ⟨s, hs, hss, rfl, rfl⟩
  · have hs0 : u[0]? = some s := by rw [hs]; rfl
    have e1 : u.drop 1 = r := by rw [hs]; rfl
    have h2 : 1 ≤ u.length := by rw [hs]; simp
    rw [hs0] at hix2
    cases hdn : (s == 45) with
    | true =>
      rw [hdn] at hL
      simp only [hdn, Bool.or_true] at hss
      have w3 : IntKind.i64.wrap (0 - ee) = -ee := by rw [wrap_i64 (by omega) (by omega)]; omega
      simp only [go_sem, X70, P143, b70, Tryd.f70, hix, hce, bs_size, bs_ext, h1, Nat.le_refl, e0, tu, hix2, hss, hdn, e1, h2, k172, t0, t1, bytes_bs hyr, hL, w3, hlo, hlo2, wrC]
      all_goals rfl
    | false =>
      have h43 : (s == 43) = true := by simpa [hdn] using hss
      rw [hdn] at hL
      simp only [go_sem, X70, P143, b70, Tryd.f70, hix, hce, bs_size, bs_ext, h1, Nat.le_refl, e0, tu, hix2, h43, hdn, e1, h2, k172, t0, t1, bytes_bs hyr, hL, hlo, hlo2, wrC]
      all_goals rfl
  · rw [hs] at hix2
    simp only [go_sem, X70, P143, b70, Tryd.f70, hix, hce, bs_size, bs_ext, h1, Nat.le_refl, e0, tu, hix2, hss, k172, t0, t1, bytes_bs hyr, hL, hlo, hlo2, wrC]
    all_goals rfl
end
end Go.Lift.D3
end

section
/- The program's numbers: rat.cut and rat.Decimal, whole. -/
open Go.Proofs
namespace Go.Lift.D3
open Utf Tok
set_option maxRecDepth 20000
set_option maxHeartbeats 4000000
set_option linter.unusedSimpArgs false
set_option linter.unusedVariables false

def wrV (w : Wr) : List V := wrC w.below w.digits w.behind w.exp w.whole
theorem fin143 {h : Heap} {w w2 : List V} {b : Bool} (hw : ∃ a d c e f, w = wrC a d c e f) : fin Tryd.prog [.cell 2 85, .tmp 3] h.length (some (.ret, [(2, .ptr h.length 0), (3, .v (.bool b))], h ++ [.cells w, .cells w2])) = some (.tup [.agg w, .v (.bool b)], h) := by
  obtain ⟨a, d, c, e, f, rfl⟩ := hw
  simp only [go_sem, wrC]
  all_goals rfl

/-- rat.cut, of a number's text -/
theorem f70 {lo : Nat} {n : Nm} {h : Heap} (ok : n.Ok) (hl : n.text.length ≤ 100000000000) (hlo : lo ≤ h.length) :
    E lo 70 [.v (.string (bs n.text))] h = some (.tup [.agg (wrV n.wr), .v (.bool true)], h) := by
  have hlo2 : lo ≤ h.length + 1 := by omega
  have hy := nm_by ok
  have hT := nm_text n
  have hF := nmF_head ok
  have hRh := nmR_head ok
  have hd1 := all_dig ok.d1
  have hfr := all_dig ok.fr
  have hd3 := all_dig ok.d3
  obtain ⟨k, hk⟩ : ∃ k, n.sg.length = k := ⟨_, rfl⟩
  generalize n.text = t at *
  have D1 : t.drop k = n.d1 ++ (nmF n ++ nmR n) := by rw [hT, ← hk, List.drop_left]
  have hlen : t.length = k + (n.d1.length + ((nmF n).length + (nmR n).length)) := by rw [hT]; simp; omega
  have ht0 : (∃ c, t[0]? = some c ∧ (c == 43) = false ∧ (c == 45) = false ∧ k = 0 ∧ (n.sg == [45]) = false) ∨ (t[0]? = some 43 ∧ k = 1 ∧ (n.sg == [45]) = false) ∨ (t[0]? = some 45 ∧ k = 1 ∧ (n.sg == [45]) = true) := by
    rcases ok.sg with hs | hs | hs
    · left
      rw [hs] at hk hT ⊢
      rw [List.nil_append] at hT
      cases hd : n.d1 with
      | cons c u =>
        have hc := hd1 c (by rw [hd]; simp)
        simp only [dig, Bool.and_eq_true, decide_eq_true_eq] at hc
        exact ⟨c, by rw [hT, hd]; rfl, by simp; omega, by simp; omega, hk.symm, rfl⟩
      | nil =>
        have hne : n.fr ≠ [] := fun h => ok.some (by rw [hd, h]; rfl)
        exact ⟨46, by rw [hT, hd]; unfold nmF; rw [if_neg hne]; rfl, rfl, rfl, hk.symm, rfl⟩
    · exact .inr (.inl ⟨by rw [hT, hs]; rfl, by rw [← hk, hs]; rfl, by rw [hs]; rfl⟩)
    · exact .inr (.inr ⟨by rw [hT, hs]; rfl, by rw [← hk, hs]; rfl, by rw [hs]; rfl⟩)
  obtain ⟨x, hA⟩ := p143a (lo := lo) (h := h) (neg := n.sg == [45]) hy hl hlo hlo2 ht0
  have hyd : By (t.drop k) := hy.drop k
  have hF1 : By (nmF n ++ nmR n) := fun c hc => hyd c (by rw [D1]; simp only [List.mem_append] at hc ⊢; exact .inr hc)
  have hF2 : By (nmR n) := fun c hc => hF1 c (by simp [hc])
  rw [e70 (by simp) (by rfl), pc_in, pc_go _ _ _ _ 0 4, hA, pc_go _ _ _ _ _ 3]
  rw [p143b (d := n.d1) (r := nmF n ++ nmR n) (pt := !n.fr.isEmpty) hyd (by simp; omega) hlo2 D1 (by rw [D1]; exact tw_app hF hd1) (by
    cases hfe : n.fr with
    | cons c u => exact .inl ⟨46, by unfold nmF; rw [hfe]; rfl, rfl⟩
    | nil =>
      cases hr : nmR n with
      | nil => exact .inr ⟨by unfold nmF; rw [hfe]; rfl, rfl⟩
      | cons c u =>
        refine .inl ⟨c, by unfold nmF; rw [hfe]; rfl, ?_⟩
        rcases (hRh c u hr).2 with rfl | rfl <;> rfl)]
  rw [pc_go _ _ _ _ _ 1]
  have hB : ∃ y, evL (X70 lo h) loopW (pc b70 7 1) (P143 (nmF n ++ nmR n) h [(44, .v (.bool (!n.fr.isEmpty)))] (wrC (n.sg == [45]) n.d1 0 0 true)) =
      some (.normal, P143 (nmR n) h [(44, y)] (wrC (n.sg == [45]) (n.d1 ++ n.fr) n.fr.length 0 n.fr.isEmpty)) := by
    cases hfe : n.fr with
    | nil =>
      have hnF : nmF n = [] := by unfold nmF; rw [if_pos hfe]
      refine ⟨.v (.bool false), ?_⟩
      rw [hnF, List.append_nil]
      exact p143c0
    | cons c u =>
      have hne : n.fr ≠ [] := by rw [hfe]; simp
      have hnF : nmF n = 46 :: n.fr := by unfold nmF; rw [if_neg hne]
      refine ⟨.undef, ?_⟩
      have := p143c1 (lo := lo) (h := h) (neg := n.sg == [45]) (t := nmF n ++ nmR n) (d := n.d1) (f := n.fr) (r := nmR n) hF1 (by simp; omega) (by omega) hlo2 (by rw [hnF]; rfl) (tw_app (fun c u h => (hRh c u h).1) hfr) hne
      simpa [hfe] using this
  obtain ⟨y, hB⟩ := hB
  rw [hB, pc_go _ _ _ _ _ 4]
  have hne : n.d1 ++ n.fr ≠ [] := ok.some
  rcases ok.ex with ⟨h1, h2⟩ | ⟨⟨e, he, hx⟩, h2⟩
  · have hr : nmR n = [] := by unfold nmR; rw [h1, h2]; rfl
    rw [hr, p143d0 hlo hne, pc_r]
    have hw : wrV n.wr = wrC (n.sg == [45]) (n.d1 ++ n.fr) n.fr.length 0 n.fr.isEmpty := by
      simp [wrV, Nm.wr, h1, h2, chr, expN]
    rw [hw]
    exact fin143 ⟨_, _, _, _, _, rfl⟩
  · obtain ⟨s3, u3, hs3⟩ : ∃ s u, n.d3 = s :: u := by
      cases hd : n.d3 with
      | nil => exact absurd hd h2
      | cons s u => exact ⟨s, u, rfl⟩
    have hs3d := hd3 s3 (by rw [hs3]; simp)
    simp only [dig, Bool.and_eq_true, decide_eq_true_eq] at hs3d
    have hexe : n.ex.isEmpty = false := by rcases hx with h | h | h <;> rw [h] <;> rfl
    have hce : (e != 101 && e != 69) = false := by rcases he with rfl | rfl <;> rfl
    have hT2 : nmR n = e :: (n.ex.drop 1 ++ n.d3) := by unfold nmR; rcases hx with h | h | h <;> rw [h] <;> rfl
    rw [p143d1 hne (by rw [hT2]; simp), pc_go _ _ _ _ _ 14]
    have hu : (∃ s, n.ex.drop 1 ++ n.d3 = s :: n.d3 ∧ (s == 43 || s == 45) = true ∧ (chr n.ex 1 == 45) = (s == 45)) ∨ (∃ s, (n.ex.drop 1 ++ n.d3)[0]? = some s ∧ (s == 43 || s == 45) = false ∧ n.ex.drop 1 ++ n.d3 = n.d3 ∧ (chr n.ex 1 == 45) = false) := by
      rcases hx with h | h | h
      · right
        rw [h]
        refine ⟨s3, by rw [hs3]; rfl, ?_, rfl, rfl⟩
        simp
        omega
      · left; rw [h]; exact ⟨43, rfl, rfl, rfl⟩
      · left; rw [h]; exact ⟨45, rfl, rfl, rfl⟩
    rw [p143e (u := n.ex.drop 1 ++ n.d3) (r := n.d3) hF2 (by omega) hlo hlo2 hT2 hce hu hd3 h2, pc_r]
    have hw : wrV n.wr = wrC (n.sg == [45]) (n.d1 ++ n.fr) n.fr.length (if (chr n.ex 1 == 45) = true then -expN 0 n.d3 else expN 0 n.d3) false := by
      simp [wrV, Nm.wr, hexe]
    rw [hw]
    exact fin143 ⟨_, _, _, _, _, rfl⟩

/-! ### rat.Decimal -/
section
variable {lo : Nat} {h : Heap} {w : Wr}
noncomputable abbrev X54 (lo : Nat) (h : Heap) : Cx := ⟨Tryd.prog, E, lo, h.length, h54⟩
abbrev P112 (h : Heap) (w : Wr) (ex : Env) : Env × Heap := ((2, .ptr h.length 0) :: (5, .ptr (h.length + 1) 0) :: ex, h ++ [.cells (ratC (0, 0)), .cells (wrV w)])
abbrev ret112 (h : Heap) (x : Int × Int) (w : Wr) : Option (Ex × Env × Heap) := some (.ret, [(2, .ptr h.length 0), (3, .v (.bool w.whole)), (4, .v (.int .i64 0))], h ++ [.cells (ratC x), .cells (wrV w)])
theorem p112a {t : List Int} (hlo2 : lo ≤ h.length + 1) (k : ∀ h, lo ≤ h.length → E lo 70 [.v (.string (bs t))] h = some (.tup [.agg (wrV w), .v (.bool true)], h)) (hlo : lo ≤ h.length) :
    evL (X54 lo h) loopW (pc b54 0 4) (args0 [.v (.string (bs t))], h) = some (.normal, P112 h w [(18, .v (.bool false))]) := by
  have k1 := k (h ++ [.cells (ratC (0, 0))]) (by simp; omega)
  simp only [ratC, wrV, wrC] at k1
  simp only [go_sem, X54, P112, b54, Tryd.f54, k1, hlo2, ratC, wrV, wrC]
  all_goals rfl
theorem p112b (hlo : lo ≤ h.length) (hy : By w.digits) (hl : w.digits.length ≤ 100000000000) : evL (X54 lo h) loopW (pc b54 4 3) (P112 h w [(18, .v (.bool false))]) =
    if w.digits.dropWhile (· == 48) = [] then ret112 h (0, 1) w else some (.normal, P112 h w [(7, .v (.string (bs (w.digits.dropWhile (· == 48))))), (24, .v (.bool false))]) := by
  have k := fun h => f71 (lo := lo) (h := h) hy hl
  generalize w.digits.dropWhile (· == 48) = D at *
  have t0 := bs_nil_eq' D
  by_cases hD : D = []
  · rw [decide_eq_true hD] at t0
    rw [if_pos hD]
    simp only [go_sem, X54, P112, b54, Tryd.f54, k, t0, hlo, ratC, wrV, wrC]
    all_goals rfl
  · rw [decide_eq_false hD] at t0
    rw [if_neg hD]
    simp only [go_sem, X54, P112, b54, Tryd.f54, k, t0, hlo, ratC, wrV, wrC]
    all_goals rfl
theorem p112c {D : List Int} (hlo : lo ≤ h.length) (hy : By D) (hl : D.length ≤ 100000000000) : evL (X54 lo h) loopW (pc b54 7 3) (P112 h w [(7, .v (.string (bs D))), (24, .v (.bool false))]) =
    if 18 < (core D).length then ret112 h (0, 0) w else some (.normal, P112 h w [(7, .v (.string (bs D))), (8, .v (.string (bs (core D)))), (32, .v (.bool false))]) := by
  have k := fun h => f65 (lo := lo) (h := h) hy hl
  generalize core D = C at *
  by_cases h18 : 18 < C.length
  · have t : decide (18 < (C.length : Int)) = true := by simp; omega
    rw [if_pos h18]
    simp only [go_sem, X54, P112, b54, Tryd.f54, bs_size, k, t, hlo, ratC, wrV, wrC]
    all_goals rfl
  · have t : decide (18 < (C.length : Int)) = false := by simp; omega
    rw [if_neg h18]
    simp only [go_sem, X54, P112, b54, Tryd.f54, bs_size, k, t, hlo, ratC, wrV, wrC]
    all_goals rfl
abbrev C112 (h : Heap) (w : Wr) (D C : List Int) (n : Int) (rows : List (List V)) (len k : Int) (ex : Env) : Env × Heap :=
  P112 h w ((7, .v (.string (bs D))) :: (8, .v (.string (bs C))) :: (9, .v (.int .u64 n)) :: (37, .list .no rows) :: (38, .v (.int .i64 len)) :: (39, .v (.int .i64 k)) :: ex)
theorem loop54 {D C d : List Int} (hd : ∀ c ∈ d, dig c = true) (hl : d.length ≤ 18) : ∀ (r : List Int) (k : Nat) (n : Int), d.drop k = r → k + r.length = d.length → 0 ≤ n → n < 10 ^ k →
    loopW (evCode (X54 lo h) loopW l54x0) (C112 h w D C n (ri .u8 d) d.length k []) =
      some (.exit 0, C112 h w D C (valN n r) (ri .u8 d) d.length d.length [(40, .v (.bool false))]) := by
  intro r
  induction r with
  | nil =>
    intro k n hr hk h0 h1
    have hk' : k = d.length := by simpa using hk
    subst hk'
    have hlt : decide ((d.length : Int) < (d.length : Int)) = false := by simp
    rw [loop_eq]
    simp only [go_sem, X54, C112, P112, l54x0, b54, Tryd.f54, hlt, valN, ratC, wrV, wrC]
    all_goals rfl
  | cons c r ih =>
    intro k n hr hk h0 h1
    simp only [List.length_cons] at hk
    have hlt : decide ((k : Int) < (d.length : Int)) = true := by simp; omega
    have hc : d[k]? = some c := by
      have := congrArg (·[0]?) hr
      simpa using this
    have hcd := hd c (List.mem_of_getElem? hc)
    simp only [dig, Bool.and_eq_true, decide_eq_true_eq] at hcd
    have hw : IntKind.i64.wrap ((k : Int) + 1) = ((k + 1 : Nat) : Int) := wrap_succ (by omega)
    have h17 : (10 : Int) ^ k ≤ 100000000000000000 := by
      have : (10 : Int) ^ k ≤ 10 ^ 17 := by
        obtain ⟨j, hj⟩ : ∃ j, 17 = k + j := ⟨17 - k, by omega⟩
        rw [hj, Int.pow_add]
        have h0 := one_pow_le (y := 10) (by omega) k
        exact le_mulr (by omega) (one_pow_le (by omega) j)
      exact this
    have w1 : IntKind.u64.wrap (n * 10) = n * 10 := wrap_u64 (by omega) (by omega)
    have w2 : IntKind.u8.wrap (c - 48) = c - 48 := wrap_u8 (by omega) (by omega)
    have w3 : IntKind.u64.wrap (c - 48) = c - 48 := wrap_u64 (by omega) (by omega)
    have w4 : IntKind.u64.wrap (n * 10 + (c - 48)) = n * 10 + (c - 48) := wrap_u64 (by omega) (by omega)
    have e1 : evCode (X54 lo h) loopW l54x0 (C112 h w D C n (ri .u8 d) d.length k []) = some (.normal, C112 h w D C (n * 10 + (c - 48)) (ri .u8 d) d.length (k + 1 : Nat) []) := by
      simp only [go_sem, X54, C112, P112, l54x0, b54, Tryd.f54, hlt, hc, w1, w2, w3, w4, hw, ratC, wrV, wrC]
      all_goals rfl
    have hp : (10 : Int) ^ (k + 1) = 10 ^ k * 10 := Int.pow_succ 10 k
    rw [loop_eq, e1, loop_n, ih (k + 1) (n * 10 + (c - 48)) (by rw [← List.drop_drop, hr]; rfl) (by omega) (by omega) (by omega)]
    rfl
theorem p112d {D d : List Int} (hd : ∀ c ∈ d, dig c = true) (hdl : d.length ≤ 18) : evL (X54 lo h) loopW (pc b54 10 3) (P112 h w [(7, .v (.string (bs D))), (8, .v (.string (bs d))), (32, .v (.bool false))]) =
    some (.normal, C112 h w D d (valN 0 d) (ri .u8 d) d.length d.length [(40, .v (.bool false))]) := by
  have hy : By d := fun c hc => by
    have := hd c hc
    simp only [dig, Bool.and_eq_true, decide_eq_true_eq] at this
    omega
  have hL := loop54 (lo := lo) (h := h) (w := w) (D := D) (C := d) hd hdl d 0 0 rfl (by simp) (by omega) (by simp)
  simp only [C112, P112, X54, l54x0, b54, Tryd.f54, loopAt, loops, bodyOf, go_sem, ratC, wrV, wrC] at hL
  simp only [go_sem, X54, C112, P112, b54, Tryd.f54, bytes_bs hy, hL, ratC, wrV, wrC]
  all_goals rfl
theorem p112e {D C : List Int} {n len k : Int} {rows : List (List V)} {y : Int × Int} (hlo : lo ≤ h.length) (he0 : -1099511627776 ≤ w.exp) (he1 : w.exp ≤ 1099511627776) (hb : w.behind ≤ 100000000000) (hD : D.length ≤ 100000000000) (hC : C.length ≤ D.length)
    (kv : ∀ lo h, lo ≤ h.length → E lo 72 [.v (.bool w.below), .v (.int .u64 n), .v (.int .i64 (w.exp - w.behind + (D.length - C.length)))] h = some (.agg (ratC y), h)) :
    evL (X54 lo h) loopW (pc b54 13 2) (C112 h w D C n rows len k [(40, .v (.bool false))]) = ret112 h y w := by
  have w1 : IntKind.i64.wrap (w.exp - w.behind) = w.exp - w.behind := wrap_i64 (by omega) (by omega)
  have w2 : IntKind.i64.wrap ((D.length : Int) - C.length) = (D.length : Int) - C.length := wrap_i64 (by omega) (by omega)
  have w3 : IntKind.i64.wrap (w.exp - w.behind + ((D.length : Int) - C.length)) = w.exp - w.behind + ((D.length : Int) - C.length) := wrap_i64 (by omega) (by omega)
  have k1 := kv (h.length + 2) (h ++ [.cells (ratC (0, 0)), .cells (wrV w)]) (by simp)
  simp only [ratC, wrV, wrC] at k1
  simp only [go_sem, X54, C112, P112, b54, Tryd.f54, bs_size, w1, w2, w3, k1, hlo, ratC, wrV, wrC]
  all_goals rfl
theorem fin112 {x : Int × Int} : fin Tryd.prog [.cell 2 26, .tmp 3, .tmp 4] h.length (ret112 h x w) = some (.tup [.agg (ratC x), .v (.bool w.whole), .v (.int .i64 0)], h) := by
  simp only [go_sem, ret112, ratC]
  all_goals rfl
end

/-- rat.Decimal, of a number's text -/
theorem f54 {lo : Nat} {n : Nm} {h : Heap} (ok : n.Ok) (hl : n.text.length ≤ 100000000000) (hlo : lo ≤ h.length) :
    E lo 54 [.v (.string (bs n.text))] h = some (.tup [.agg (ratC n.num.1), .v (.bool n.num.2), .v (.int .i64 0)], h) := by
  have hall : ∀ c ∈ n.wr.digits, dig c = true := fun c hc => by
    rcases List.mem_append.1 hc with hc | hc
    · exact all_dig ok.d1 c hc
    · exact all_dig ok.fr c hc
  have hyd : By n.wr.digits := fun c hc => by
    have := hall c hc
    simp only [dig, Bool.and_eq_true, decide_eq_true_eq] at this
    omega
  have hlt : n.text.length = n.sg.length + (n.d1.length + ((nmF n).length + (nmR n).length)) := by rw [nm_text]; simp
  have hfl : n.fr.length ≤ (nmF n).length := by unfold nmF; split <;> simp_all
  have hdl : n.wr.digits.length ≤ 100000000000 := by
    show (n.d1 ++ n.fr).length ≤ _
    simp
    omega
  have hbh : n.wr.behind ≤ 100000000000 := by
    show n.fr.length ≤ _
    omega
  obtain ⟨x0, x1⟩ := expN_in n.d3 0 (all_dig ok.d3) (by omega) (by omega)
  have hexp : -1099511627776 ≤ n.wr.exp ∧ n.wr.exp ≤ 1099511627776 := by
    show -1099511627776 ≤ (if chr n.ex 1 = 45 then - expN 0 n.d3 else expN 0 n.d3) ∧ (if chr n.ex 1 = 45 then - expN 0 n.d3 else expN 0 n.d3) ≤ _
    split <;> omega
  unfold Nm.num
  rw [e54 (by simp) (by rfl), pc_in, pc_go _ _ _ _ 0 4, p112a (w := n.wr) (by omega) (fun h hh => f70 ok hl hh) hlo, pc_go _ _ _ _ _ 3, p112b hlo hyd hdl]
  unfold ratio
  have hhead := drop_head (· == 48) n.wr.digits
  have hmem : ∀ c ∈ n.wr.digits.dropWhile (· == 48), dig c = true := fun c hc => hall c ((List.dropWhile_sublist _).subset hc)
  have hDl : (n.wr.digits.dropWhile (· == 48)).length ≤ n.wr.digits.length := (List.dropWhile_sublist _).length_le
  generalize n.wr.digits.dropWhile (· == 48) = D at *
  have hyD : By D := fun c hc => by
    have := hmem c hc
    simp only [dig, Bool.and_eq_true, decide_eq_true_eq] at this
    omega
  cases D with
  | nil =>
    rw [if_pos rfl, pc_r]
    exact fin112
  | cons c0 t0 =>
    have hc0 : c0 ≠ 48 := by have := hhead c0 t0 rfl; simpa using this
    rw [if_neg (by simp), pc_go _ _ _ _ _ 3, p112c hlo hyD (by omega)]
    simp only [reduceCtorEq, if_false]
    by_cases h18 : 18 < (core (c0 :: t0)).length
    · rw [if_pos h18, if_pos h18, pc_r]
      exact fin112
    · rw [if_neg h18, if_neg h18, pc_go _ _ _ _ _ 3, p112d (core_all hmem) (by omega), pc_go _ _ _ _ _ 2]
      obtain ⟨v0, v1⟩ := core_val hmem hc0 (by omega)
      have hcl : (core (c0 :: t0)).length ≤ (c0 :: t0).length := by
        unfold core
        rw [List.length_reverse]
        exact Nat.le_trans (List.dropWhile_sublist _).length_le (by simp)
      rw [p112e (y := turn n.wr.below (scaleR (valN 0 (core (c0 :: t0))) (n.wr.exp - n.wr.behind + (((c0 :: t0).length : Int) - ((core (c0 :: t0)).length : Int))))) hlo hexp.1 hexp.2 hbh (by omega) hcl (fun lo h hh => f72 hh (by omega) (by omega) v0 v1), pc_r]
      exact fin112
end Go.Lift.D3
end

section
/- The program's number, begun. -/
open Go.Proofs
namespace Go.Lift.D3
open Utf Tok
set_option maxRecDepth 20000
set_option maxHeartbeats 4000000
set_option linter.unusedSimpArgs false
set_option linter.unusedVariables false

theorem enc_asc {c : Int} (h : 0 ≤ c ∧ c < 128) : Utf8.encode c = bs [c] := by
  unfold Utf8.encode
  have hv : Utf8.valid c = true := by
    unfold Utf8.valid
    simp
    omega
  have hn : c.toNat < 128 := by omega
  simp only [hv, if_true, hn]
  rfl
theorem runes_asc {l : List Int} (h : Asc l) : runesBytes l = bs l := by
  have key : ∀ (l a : List Int), Asc l → l.foldl (fun r n => r ++ Utf8.encode n) (bs a) = bs (a ++ l) := by
    intro l
    induction l with
    | nil => intro a _; simp
    | cons c t ih =>
      intro a h
      rw [List.foldl_cons, enc_asc (h c (by simp)), bs_app, ih (a ++ [c]) fun x hx => h x (by simp [hx])]
      simp
  exact key l [] h

section
variable {lo i j : Nat} {l : List Int} {p q : List Ob}
theorem loop53 {n : Nat} (hl : l.length ≤ 100000000000) : ∀ (m i : Nat), l.length - i ≤ m → i ≤ l.length →
    ∃ j, j ≤ l.length ∧ i ≤ j ∧ suf l j = (suf l i).dropWhile dig ∧
      ∀ lo n (p q r : List Ob), lo ≤ p.length → loopW (evCode ⟨Tryd.prog, E, lo, n, h53⟩ loopW l53x0) ([(0, .ptr (p.length + (q.length + 1)) 0)], p ++ R l i :: (q ++ .cells [.ptr p.length 0] :: r)) =
        some (.exit 0, [(0, .ptr (p.length + (q.length + 1)) 0), (5, .v (.bool false))], p ++ R l j :: (q ++ .cells [.ptr p.length 0] :: r)) := by
  intro m
  induction m with
  | zero =>
    intro i h1 h2
    obtain rfl : i = l.length := by omega
    have k0 := fun lo p q => f16 (lo := lo) (l := l) (i := l.length) (p := p) (q := q) (k := 0) (by omega)
    have hs : suf l l.length = [] := suf_end (Nat.le_refl _)
    have hb : dig (-1) = false := rfl
    simp only [n0, hs, chr_nil] at k0
    refine ⟨l.length, Nat.le_refl _, Nat.le_refl _, by rw [hs]; rfl, fun lo n p q r hlo => ?_⟩
    rw [loop_eq]
    simp only [go_sem, l53x0, b53, Tryd.f53, k0, f32, hb]
  | succ m ih =>
    intro i h1 h2
    have k0 := fun lo p q => f16 (lo := lo) (l := l) (i := i) (p := p) (q := q) (k := 0) (by omega)
    simp only [n0] at k0
    have hw : IntKind.i64.wrap ((i : Int) + 1) = ((i + 1 : Nat) : Int) := wrap_succ (by omega)
    cases hb : dig (chr (suf l i) 0) with
    | false =>
      refine ⟨i, h2, Nat.le_refl _, ?_, fun lo n p q r hlo => ?_⟩
      · by_cases hi : i < l.length
        · rw [suf_next hi] at hb ⊢
          exact (List.dropWhile_cons_of_neg (by simpa [chr] using hb)).symm
        · rw [suf_end (by omega)]; rfl
      · rw [loop_eq]
        simp only [go_sem, l53x0, b53, Tryd.f53, k0, f32, hb]
    | true =>
      have hi : i < l.length := by
        rcases Nat.lt_or_ge i l.length with h | h
        · exact h
        · rw [suf_end h] at hb; exact absurd hb (by decide)
      obtain ⟨j, j1, j2, j3, j4⟩ := ih (i + 1) (by omega) (by omega)
      refine ⟨j, j1, by omega, ?_, fun lo n p q r hlo => ?_⟩
      · rw [j3, suf_next hi]
        exact (List.dropWhile_cons_of_pos (by simpa using hb)).symm
      · rw [loop_eq]
        have e : evCode ⟨Tryd.prog, E, lo, n, h53⟩ loopW l53x0 ([(0, .ptr (p.length + (q.length + 1)) 0)], p ++ R l i :: (q ++ .cells [.ptr p.length 0] :: r)) =
            some (.normal, [(0, .ptr (p.length + (q.length + 1)) 0)], p ++ R l (i + 1) :: (q ++ .cells [.ptr p.length 0] :: r)) := by
          simp only [go_sem, l53x0, b53, Tryd.f53, k0, f32, hb, hw, hlo]
        rw [e, loop_n]
        exact j4 lo n p q r hlo
/-- the closure that takes digits -/
theorem f53 (hl : l.length ≤ 100000000000) (hi : i ≤ l.length) : ∃ j, j ≤ l.length ∧ i ≤ j ∧ suf l j = (suf l i).dropWhile dig ∧
    ∀ lo p q r, lo ≤ p.length → E lo 53 [.ptr (p.length + (q.length + 1)) 0] (p ++ R l i :: (q ++ .cells [.ptr p.length 0] :: r)) = some (.tup [], p ++ R l j :: (q ++ .cells [.ptr p.length 0] :: r)) := by
  obtain ⟨j, j1, j2, j3, j4⟩ := loop53 (n := 0) (l := l) hl l.length i (by omega) hi
  refine ⟨j, j1, j2, j3, fun lo p q r hlo => ?_⟩
  have hL := j4 lo (p ++ R l i :: (q ++ .cells [.ptr p.length 0] :: r)).length p q r hlo
  rw [e53 (by simp) (by rfl)]
  simp only [l53x0, b53, Tryd.f53, loopAt, loops, bodyOf, go_sem] at hL
  simp only [go_sem, b53, Tryd.f53, hL]

noncomputable abbrev X34 (lo : Nat) (p q : List Ob) : Cx := ⟨Tryd.prog, E, lo, p.length + (q.length + 1), h34⟩
abbrev H63 (p q : List Ob) (l : List Int) (j : Nat) (more : List Ob) : Heap := p ++ R l j :: (q ++ (.cells [.ptr p.length 0] :: .cells (tokC 0 []) :: more))
abbrev P63 (p q : List Ob) (l : List Int) (i j : Nat) (ex : Env) : Env × Heap :=
  ((1, .ptr (p.length + (q.length + 1)) 0) :: (2, .ptr (p.length + (q.length + 2)) 0) :: (3, .v (.int .i64 i)) :: ex, H63 p q l j [])

/-- the sign -/
theorem p63a (hl : l.length ≤ 100000000000) (hi : i ≤ l.length) : ∃ j, j ≤ l.length ∧ i ≤ j ∧ suf l j = (if (chr (suf l i) 0 == 43 || chr (suf l i) 0 == 45) = true then (suf l i).drop 1 else suf l i) ∧
    ∃ x, ∀ lo p q, lo ≤ p.length → evL (X34 lo p q) loopW (pc b34 0 5) (args0 [.ptr p.length 0], p ++ R l i :: q) = some (.normal, P63 p q l i j [(23, x)]) := by
  have k0 := fun lo p q => f16 (lo := lo) (l := l) (i := i) (p := p) (q := q) (k := 0) (by omega)
  have hw : IntKind.i64.wrap ((i : Int) + 1) = ((i + 1 : Nat) : Int) := wrap_succ (by omega)
  simp only [n0] at k0
  generalize hc : chr (suf l i) 0 = c at *
  by_cases hs : (c == 43 || c == 45) = true
  · have hne : i < l.length := by
      rcases Nat.lt_or_ge i l.length with h | h
      · exact h
      · rw [suf_end h] at hc
        rw [← hc] at hs
        exact absurd hs (by decide)
    rw [if_pos hs]
    refine ⟨i + 1, by omega, by omega, by simp [suf, List.drop_drop], ?_⟩
    cases h43 : (c == 43) with
    | true =>
      refine ⟨.v (.bool true), fun lo p q hlo => ?_⟩
      simp only [go_sem, X34, P63, H63, b34, Tryd.f34, k0, h43, hw, hlo, tokC, str_nil]
      all_goals rfl
    | false =>
      have h45 : (c == 45) = true := by simpa [h43] using hs
      refine ⟨.v (.bool true), fun lo p q hlo => ?_⟩
      simp only [go_sem, X34, P63, H63, b34, Tryd.f34, k0, h43, h45, hw, hlo, tokC, str_nil]
      all_goals rfl
  · rw [if_neg hs]
    have h43 : (c == 43) = false := by simp at hs ⊢; omega
    have h45 : (c == 45) = false := by simp at hs ⊢; omega
    refine ⟨i, hi, Nat.le_refl _, rfl, .v (.bool false), fun lo p q hlo => ?_⟩
    simp only [go_sem, X34, P63, H63, b34, Tryd.f34, k0, h43, h45, hw, hlo, tokC, str_nil]
    all_goals rfl
abbrev clo (p q : List Ob) : V := .fn 53 [.ptr (p.length + (q.length + 1)) 0]
/-- the digits, and what is behind a point -/
theorem p63b {x : V} (hl : l.length ≤ 100000000000) (hj : j ≤ l.length) : ∃ j', j' ≤ l.length ∧ j ≤ j' ∧
    suf l j' = (if (chr ((suf l j).dropWhile dig) 0 == 46 && dig (chr ((suf l j).dropWhile dig) 1)) = true then (((suf l j).dropWhile dig).drop 1).dropWhile dig else (suf l j).dropWhile dig) ∧
    ∃ y, ∀ lo p q (i : Nat), lo ≤ p.length → evL (X34 lo p q) loopW (pc b34 5 4) (P63 p q l i j [(23, x)]) = some (.normal, P63 p q l i j' [(5, clo p q), (47, y)]) := by
  obtain ⟨j1, a1, a2, a3, a4⟩ := f53 (l := l) (i := j) hl hj
  have k0 := fun lo p q => f16 (lo := lo) (l := l) (i := j1) (p := p) (q := q) (k := 0) (by omega)
  have k1 := fun lo p q => f16 (lo := lo) (l := l) (i := j1) (p := p) (q := q) (k := 1) (by omega)
  have ks := fun lo p q => f27 (lo := lo) (l := l) (i := j1) (p := p) (q := q) (cs := [46]) (by simp; omega)
  have hw : IntKind.i64.wrap ((j1 : Int) + 1) = ((j1 + 1 : Nat) : Int) := wrap_succ (by omega)
  have n1 : ((1 : Nat) : Int) = 1 := rfl
  simp only [n0, n1, ri_cons, ri_nil, isN_one] at k0 k1 ks
  rw [← a3]
  by_cases hf : (chr (suf l j1) 0 == 46 && dig (chr (suf l j1) 1)) = true
  · rw [if_pos hf]
    rw [Bool.and_eq_true] at hf
    obtain ⟨h46, hd⟩ := hf
    have hne : j1 < l.length := by
      rcases Nat.lt_or_ge j1 l.length with h | h
      · exact h
      · rw [suf_end h] at h46
        exact absurd h46 (by decide)
    obtain ⟨j2, b1, b2, b3, b4⟩ := f53 (l := l) (i := j1 + 1) hl (by omega)
    refine ⟨j2, b1, by omega, by rw [b3]; simp [suf, List.drop_drop], .undef, fun lo p q i hlo => ?_⟩
    simp only [go_sem, X34, P63, H63, b34, Tryd.f34, a4 _ _ _ _ hlo, k0, k1, ks, f32, h46, hd, hw, hlo, b4 _ _ _ _ hlo, tokC, str_nil]
    all_goals rfl
  · rw [if_neg hf]
    refine ⟨j1, a1, a2, rfl, .v (.bool false), fun lo p q i hlo => ?_⟩
    cases h46 : (chr (suf l j1) 0 == 46) with
    | true =>
      have hd : dig (chr (suf l j1) 1) = false := by simpa [h46] using hf
      simp only [go_sem, X34, P63, H63, b34, Tryd.f34, a4 _ _ _ _ hlo, k0, k1, ks, f32, h46, hd, tokC, str_nil]
      all_goals rfl
    | false =>
      simp only [go_sem, X34, P63, H63, b34, Tryd.f34, a4 _ _ _ _ hlo, k0, k1, ks, f32, h46, tokC, str_nil]
      all_goals rfl
/-- the exponent -/
theorem p63c {x : V} (hl : l.length ≤ 100000000000) (hj : j ≤ l.length) : ∃ j', j' ≤ l.length ∧ j ≤ j' ∧
    suf l j' = (if ((chr (suf l j) 0 == 101 || chr (suf l j) 0 == 69) && dig (chr (suf l j) (if (chr (suf l j) 1 == 43 || chr (suf l j) 1 == 45) = true then 2 else 1))) = true
      then ((suf l j).drop (if (chr (suf l j) 1 == 43 || chr (suf l j) 1 == 45) = true then 2 else 1)).dropWhile dig else suf l j) ∧
    ∃ ex : Env, ((∃ x, ex = [(68, x)]) ∨ ∃ x y, ex = [(7, x), (84, y)]) ∧ ∀ lo p q (i : Nat), lo ≤ p.length → evL (X34 lo p q) loopW (pc b34 9 3) (P63 p q l i j [(5, clo p q), (47, x)]) = some (.normal, P63 p q l i j' ((5, clo p q) :: ex)) := by
  have k0 := fun lo p q => f16 (lo := lo) (l := l) (i := j) (p := p) (q := q) (k := 0) (by omega)
  have k1 := fun lo p q => f16 (lo := lo) (l := l) (i := j) (p := p) (q := q) (k := 1) (by omega)
  have k2 := fun lo p q => f16 (lo := lo) (l := l) (i := j) (p := p) (q := q) (k := 2) (by omega)
  have hw1 : IntKind.i64.wrap ((j : Int) + 1) = ((j + 1 : Nat) : Int) := wrap_succ (by omega)
  have hw2 : IntKind.i64.wrap ((j : Int) + 2) = ((j + 2 : Nat) : Int) := by rw [wrap_i64 (by omega) (by omega)]; omega
  have n1 : ((1 : Nat) : Int) = 1 := rfl
  have n2 : ((2 : Nat) : Int) = 2 := rfl
  simp only [n0, n1, n2] at k0 k1 k2
  have hlen := suf_len l j
  by_cases he : (chr (suf l j) 0 == 101 || chr (suf l j) 0 == 69) = true
  rotate_left
  · rw [Bool.not_eq_true] at he
    rw [he, Bool.false_and, if_neg (by simp)]
    rw [Bool.or_eq_false_iff] at he
    obtain ⟨h1, h2⟩ := he
    refine ⟨j, hj, Nat.le_refl _, rfl, [(68, .v (.bool false))], .inl ⟨_, rfl⟩, fun lo p q i hlo => ?_⟩
    simp only [go_sem, X34, P63, H63, b34, Tryd.f34, k0, h1, h2, tokC, str_nil]
    all_goals rfl
  rw [he, Bool.true_and]
  by_cases hs : (chr (suf l j) 1 == 43 || chr (suf l j) 1 == 45) = true
  · rw [if_pos hs]
    by_cases hd : dig (chr (suf l j) 2) = true
    · rw [if_pos hd]
      have hne : j + 2 ≤ l.length := by
        rcases Nat.lt_or_ge (j + 1) l.length with h | h
        · omega
        · exfalso
          have : chr (suf l j) 1 = -1 := by simp only [chr]; rw [List.getElem?_eq_none (by omega)]
          rw [this] at hs
          exact absurd hs (by decide)
      obtain ⟨j2, b1, b2, b3, b4⟩ := f53 (l := l) (i := j + 2) hl (by omega)
      refine ⟨j2, b1, by omega, by rw [b3]; simp [suf, List.drop_drop], [(68, .undef)], .inl ⟨_, rfl⟩, fun lo p q i hlo => ?_⟩
      cases h1 : (chr (suf l j) 0 == 101) <;> cases h43 : (chr (suf l j) 1 == 43) <;> simp only [h1, h43, Bool.false_or, Bool.true_or] at he hs <;>
        simp only [go_sem, X34, P63, H63, b34, Tryd.f34, k0, k1, k2, f32, h1, he, h43, hs, hd, hw2, hlo, b4 _ _ _ _ hlo, tokC, str_nil] <;> rfl
    · rw [if_neg hd]
      rw [Bool.not_eq_true] at hd
      refine ⟨j, hj, Nat.le_refl _, rfl, [(7, .v (.int .i64 2)), (84, .v (.bool false))], .inr ⟨_, _, rfl⟩, fun lo p q i hlo => ?_⟩
      cases h1 : (chr (suf l j) 0 == 101) <;> cases h43 : (chr (suf l j) 1 == 43) <;> simp only [h1, h43, Bool.false_or, Bool.true_or] at he hs <;>
        simp only [go_sem, X34, P63, H63, b34, Tryd.f34, k0, k1, k2, f32, h1, he, h43, hs, hd, tokC, str_nil] <;> rfl
  · rw [if_neg hs]
    rw [Bool.not_eq_true, Bool.or_eq_false_iff] at hs
    obtain ⟨h43, h45⟩ := hs
    by_cases hd : dig (chr (suf l j) 1) = true
    · rw [if_pos hd]
      have hne : j + 1 ≤ l.length := by
        rcases Nat.lt_or_ge j l.length with h | h
        · omega
        · exfalso
          rw [suf_end h] at he
          exact absurd he (by decide)
      obtain ⟨j2, b1, b2, b3, b4⟩ := f53 (l := l) (i := j + 1) hl (by omega)
      refine ⟨j2, b1, by omega, by rw [b3]; simp [suf, List.drop_drop], [(68, .undef)], .inl ⟨_, rfl⟩, fun lo p q i hlo => ?_⟩
      cases h1 : (chr (suf l j) 0 == 101) <;> simp only [h1, Bool.false_or, Bool.true_or] at he <;>
        simp only [go_sem, X34, P63, H63, b34, Tryd.f34, k0, k1, k2, f32, h1, he, h43, h45, hd, hw1, hlo, b4 _ _ _ _ hlo, tokC, str_nil] <;> rfl
    · rw [if_neg hd]
      rw [Bool.not_eq_true] at hd
      refine ⟨j, hj, Nat.le_refl _, rfl, [(7, .v (.int .i64 1)), (84, .v (.bool false))], .inr ⟨_, _, rfl⟩, fun lo p q i hlo => ?_⟩
      cases h1 : (chr (suf l j) 0 == 101) <;> simp only [h1, Bool.false_or, Bool.true_or] at he <;>
        simp only [go_sem, X34, P63, H63, b34, Tryd.f34, k0, k1, k2, f32, h1, he, h43, h45, hd, tokC, str_nil] <;> rfl
end
end Go.Lift.D3
end

section
/- The program's number, whole. -/
open Go.Proofs
namespace Go.Lift.D3
open Utf Tok
set_option maxRecDepth 20000
set_option maxHeartbeats 4000000
set_option linter.unusedSimpArgs false
set_option linter.unusedVariables false

section
variable {lo i j : Nat} {l : List Int} {p q : List Ob}
/-- the fraction -/
theorem p63d {n : Nm} (hl : l.length ≤ 100000000000) (hij : i ≤ j) (hj : j ≤ l.length) (ok : n.Ok) (hs : suf l i = n.text ++ suf l j) {ex : Env} (hex : (∃ x, ex = [(68, x)]) ∨ ∃ x y, ex = [(7, x), (84, y)]) (hlo : lo ≤ p.length) (hlo2 : lo ≤ p.length + (q.length + 3)) :
    evL (X34 lo p q) loopW (pc b34 12 2) (P63 p q l i j ((5, clo p q) :: ex)) = some (.normal, [(1, .ptr (p.length + (q.length + 1)) 0), (2, .ptr (p.length + (q.length + 2)) 0), (8, .ptr (p.length + (q.length + 3)) 0)], H63 p q l j [.cells (tkC ⟨0, [], n.num.1, n.num.2, false⟩)]) := by
  have hasc := nm_asc ok
  have hbt := between hij hj hs hasc
  have hlen : n.text.length ≤ 100000000000 := by
    have := congrArg List.length hs
    rw [suf_len, List.length_append] at this
    omega
  have hrb := runes_asc hasc
  have k112 : ∀ lo h, lo ≤ h.length → E lo 54 [.v (.string (bs n.text))] h = some (.tup [.agg (ratC n.num.1), .v (.bool n.num.2), .v (.int .i64 0)], h) := fun lo h hh => f54 ok hlen hh
  simp only [ratC] at k112
  rcases hex with ⟨x, rfl⟩ | ⟨x, y, rfl⟩
  · simp only [go_sem, X34, P63, H63, b34, Tryd.f34, ri_cut, hbt, hij, hj, hrb, k112, Nat.le_refl, hlo, hlo2, tokC, tkC, str_nil, ratC]
    all_goals rfl
  · simp only [go_sem, X34, P63, H63, b34, Tryd.f34, ri_cut, hbt, hij, hj, hrb, k112, Nat.le_refl, hlo, hlo2, tokC, tkC, str_nil, ratC]
    all_goals rfl
/-- what it is of -/
theorem p63e {m : Int × Int} {w : Bool} (hl : l.length ≤ 100000000000) (hj : j ≤ l.length) : ∃ j', j' ≤ l.length ∧ j ≤ j' ∧
    ∃ t : Tk, (t, suf l j') = (if beg (chr (suf l j) 0) (chr (suf l j) 1) (chr (suf l j) 2) = true then (⟨12, (name (suf l j)).1, m, w, false⟩, (name (suf l j)).2)
      else if chr (suf l j) 0 = 37 then (⟨11, [], m, w, false⟩, (suf l j).drop 1) else (⟨10, [], m, w, false⟩, suf l j)) ∧
    ∀ lo p q, lo ≤ p.length → lo ≤ p.length + (q.length + 2) → lo ≤ p.length + (q.length + 3) →
      evL (X34 lo p q) loopW (pc b34 14 3) ([(1, .ptr (p.length + (q.length + 1)) 0), (2, .ptr (p.length + (q.length + 2)) 0), (8, .ptr (p.length + (q.length + 3)) 0)], H63 p q l j [.cells (tkC ⟨0, [], m, w, false⟩)]) =
        some (.ret, [(2, .ptr (p.length + (q.length + 2)) 0)], p ++ R l j' :: (q ++ [.cells [.ptr p.length 0], .cells (tkC t), .cells (tkC t)])) := by
  have k0 := fun lo p q => f37 (lo := lo) (l := l) (i := j) (p := p) (q := q) (k := 0) (by omega)
  have ks := fun lo p q => f27 (lo := lo) (l := l) (i := j) (p := p) (q := q) (cs := [37]) (by simp; omega)
  have hw1 : IntKind.i64.wrap ((j : Int) + 1) = ((j + 1 : Nat) : Int) := wrap_succ (by omega)
  simp only [n0, ri_cons, ri_nil, isN_one, Nat.zero_add, Nat.reduceAdd] at k0 ks
  by_cases hb : beg (chr (suf l j) 0) (chr (suf l j) 1) (chr (suf l j) 2) = true
  · obtain ⟨j2, b1, b2, b3, b4⟩ := f38 (l := l) (i := j) hl hj
    refine ⟨j2, b1, b2, ⟨12, (name (suf l j)).1, m, w, false⟩, by rw [if_pos hb, b3], fun lo p q hlo hlo2 hlo3 => ?_⟩
    simp only [go_sem, X34, H63, b34, Tryd.f34, k0, hb, b4 _ _ _ hlo, hlo, hlo2, hlo3, tokC, tkC, str_nil]
    all_goals rfl
  · rw [if_neg hb]
    rw [Bool.not_eq_true] at hb
    by_cases h37 : chr (suf l j) 0 = 37
    · have hne : j < l.length := by
        rcases Nat.lt_or_ge j l.length with h | h
        · exact h
        · rw [suf_end h] at h37; cases h37
      rw [if_pos h37]
      have t37 : (chr (suf l j) 0 == 37) = true := by simp [h37]
      refine ⟨j + 1, by omega, by omega, ⟨11, [], m, w, false⟩, by simp [suf, List.drop_drop], fun lo p q hlo hlo2 hlo3 => ?_⟩
      simp only [go_sem, X34, H63, b34, Tryd.f34, k0, ks, hb, t37, hw1, hlo, hlo2, hlo3, tokC, tkC, str_nil]
      all_goals rfl
    · rw [if_neg h37]
      have t37 : (chr (suf l j) 0 == 37) = false := by simp [h37]
      refine ⟨j, hj, Nat.le_refl _, ⟨10, [], m, w, false⟩, rfl, fun lo p q hlo hlo2 hlo3 => ?_⟩
      simp only [go_sem, X34, H63, b34, Tryd.f34, k0, ks, hb, t37, hlo, hlo2, hlo3, tokC, tkC, str_nil]
      all_goals rfl

theorem fin63 {t : Tk} {r : List Ob} {o o2 : Ob} : fin Tryd.prog [.cell 2 28] (p.length + (q.length + 1)) (some (.ret, [(2, .ptr (p.length + (q.length + 2)) 0)], p ++ o :: (q ++ o2 :: .cells (tkC t) :: r))) = some (.agg (tkC t), p ++ o :: q) := by
  simp only [go_sem, tkC]
  all_goals rfl

/-- (*reader).number -/
theorem f34 (hl : l.length ≤ 100000000000) (hi : i ≤ l.length) (hn : num (chr (suf l i) 0) (chr (suf l i) 1) (chr (suf l i) 2) = true) :
    ∃ j, j ≤ l.length ∧ i ≤ j ∧ suf l j = (figure (suf l i)).2 ∧
      ∀ lo p q, lo ≤ p.length → E lo 34 [.ptr p.length 0] (p ++ R l i :: q) = some (.agg (tkC (figure (suf l i)).1), p ++ R l j :: q) := by
  obtain ⟨j1, a1, a2, a3, x, a4⟩ := p63a (l := l) (i := i) hl hi
  obtain ⟨j2, b1, b2, b3, y, b4⟩ := p63b (l := l) (j := j1) (x := x) hl a1
  obtain ⟨j3, c1, c2, c3, ex, hex, c4⟩ := p63c (l := l) (j := j2) (x := y) hl b1
  have hrest : suf l j3 = (numP (suf l i)).2 := by
    rw [c3, b3, a3]
    unfold numP
    simp only
  have hok := numP_ok hn
  have htext := numP_text (suf l i)
  rw [← hrest] at htext
  obtain ⟨j4, d1, d2, t, d3, d4⟩ := p63e (l := l) (j := j3) (m := (numP (suf l i)).1.num.1) (w := (numP (suf l i)).1.num.2) hl c1
  have hfig : (t, suf l j4) = figure (suf l i) := by
    rw [d3, hrest]
    unfold figure
    simp only
  refine ⟨j4, d1, by omega, by rw [← hfig], fun lo p q hlo => ?_⟩
  have hlo2 : lo ≤ p.length + (q.length + 2) := by omega
  have hlo3 : lo ≤ p.length + (q.length + 3) := by omega
  have hH : (p ++ R l i :: q).length = p.length + (q.length + 1) := by simp
  rw [e34 (by simp) (by rfl), hH]
  rw [pc_in, pc_go _ _ _ _ 0 5, a4 lo p q hlo, pc_go _ _ _ _ _ 4, b4 lo p q i hlo, pc_go _ _ _ _ _ 3, c4 lo p q i hlo, pc_go _ _ _ _ _ 2,
    p63d hl (by omega) c1 hok htext.symm hex hlo hlo3, pc_go _ _ _ _ _ 3, d4 lo p q hlo hlo2 hlo3, pc_r, ← hfig]
  exact fin63
end
end Go.Lift.D3
end
