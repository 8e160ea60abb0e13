/- Names and texts, the program. -/
import Derived.Test.YtnfdhgadidacaaaGreatDoorSd
import Derived.Test.YtnfdhgadidacaaaGreatDoorSc
import Derived.Test.YtnfdhgadidacaaaGreatDoorLd
import Derived.Test.YtnfdhgadidacaaaGreatDoorTa
section
/- strings.Builder, as the evaluation uses it. -/
open Go.Proofs
namespace Go.Lift.R4
set_option linter.unusedSectionVars false
variable [MX]
open Utf Tok Spell
set_option maxRecDepth 20000
set_option maxHeartbeats 4000000
set_option linter.unusedSimpArgs false
set_option linter.unusedVariables false

theorem rows_ri (l : List Int) : rowsInts (ri .u8 l) = some l := by
  induction l with
  | nil => rfl
  | cons n l ih => rw [ri_cons]; unfold rowsInts; rw [ih]; rfl
theorem by_all {l : List Int} (hy : By l) : (l.all fun c => decide (0 ≤ c) && decide (c ≤ 255)) = true := by
  rw [List.all_eq_true]
  intro c hc
  have := hy c hc
  simp
  exact this
section
variable {lo : Nat} {p q : Heap} {p0 x : V} {out : List Int}
theorem at_ob (o : Ob) : (p ++ o :: q)[p.length]? = some o := by simp
theorem set_ob (o : Ob) (cs : List V) : Lift.setOb (p ++ o :: q) p.length cs = p ++ .cells cs :: q := by
  unfold Lift.setOb
  rw [List.set_append_right _ _ (Nat.le_refl _)]
  simp
theorem ok_self : okP p.length (.ptr p.length 0) = true := by simp [okP]
theorem ok_nil (i : Nat) : okP i (.v (.pointer none)) = true := rfl
/-- copyCheck -/
theorem f108 (hlo : lo ≤ p.length) (hp : okP p.length p0 = true) : E lo 108 [.ptr p.length 0] (p ++ .cells [p0, x] :: q) = some (.tup [], p ++ .cells [.ptr p.length 0, x] :: q) := by
  show ev _ hints primz lo _ _ _ = _
  rw [ev_prim (p := ccP) rfl]
  unfold ccP
  simp only [at_ob]
  rw [if_pos ⟨hlo, hp⟩, set_ob]
/-- WriteRune -/
theorem f90 (hlo : lo ≤ p.length) (hp : okP p.length p0 = true) {r : Int} (h0 : -2147483648 ≤ r) (h1 : r ≤ 2147483647) (hl : out.length ≤ 1000000000) :
    E lo 90 [.ptr p.length 0, .v (.int .i32 r)] (p ++ .cells [p0, .list .yes (ri .u8 out)] :: q) =
      some (.tup [.v (.int .i64 ((enc (scal r)).length : Nat)), .v .nilIface], p ++ .cells [.ptr p.length 0, .list .yes (ri .u8 (out ++ enc (scal r)))] :: q) := by
  show ev _ hints primz lo _ _ _ = _
  rw [ev_prim (p := wrP) rfl]
  unfold wrP
  simp only [at_ob, rows_ri]
  rw [if_pos ⟨hlo, hp, h0, h1, hl⟩, set_ob]
/-- String -/
theorem f49 (hlo : lo ≤ p.length) (hy : By out) (hl : out.length ≤ 1000000000) :
    E lo 49 [.ptr p.length 0] (p ++ .cells [p0, .list .yes (ri .u8 out)] :: q) = some (.v (.string (bs out)), p ++ .cells [p0, .list .no (ri .u8 out)] :: q) := by
  show ev _ hints primz lo _ _ _ = _
  rw [ev_prim (p := stP) rfl]
  unfold stP
  simp only [at_ob, rows_ri]
  rw [if_pos ⟨hlo, by_all hy, hl⟩, set_ob]
  rfl
/-- WriteByte -/
theorem f91 (hlo : lo ≤ p.length) (hp : okP p.length p0 = true) {c : Int} (hl : out.length ≤ 1000000000) :
    E lo 91 [.ptr p.length 0, .v (.int .u8 c)] (p ++ .cells [p0, .list .yes (ri .u8 out)] :: q) =
      some (.v .nilIface, p ++ .cells [.ptr p.length 0, .list .yes (ri .u8 (out ++ [c]))] :: q) := by
  have k := f108 (lo := lo) (p := p) (q := q) (p0 := p0) (x := .list .yes (ri .u8 out)) hlo hp
  have hr : ∀ k, k ≤ 4 → (out.length + k) * 1 ≤ 140737488355328 := by intro k hk; omega
  have hq : ∀ k, 9223372036854775800 ≤ k → out.length ≤ k := by intro k hk; omega
  have e : ri .u8 (out ++ [c]) = ri .u8 out ++ [[V.v (.int .u8 c)]] := by rw [← ri_app]; rfl
  rw [e91 (by simp) (by rfl), e]
  simp only [go_sem, b91, Tryz.f91, k, hr, hq, hlo]
  all_goals rfl
/-- WriteString -/
theorem f48 (hlo : lo ≤ p.length) (hp : okP p.length p0 = true) {s : List Int} (hs : By s) (hl : out.length ≤ 1000000000) (hl2 : s.length ≤ 1000000000) :
    E lo 48 [.ptr p.length 0, .v (.string (bs s))] (p ++ .cells [p0, .list .yes (ri .u8 out)] :: q) =
      some (.tup [.v (.int .i64 s.length), .v .nilIface], p ++ .cells [.ptr p.length 0, .list .yes (ri .u8 (out ++ s))] :: q) := by
  have k := f108 (lo := lo) (p := p) (q := q) (p0 := p0) (x := .list .yes (ri .u8 out)) hlo hp
  have e : ri .u8 (out ++ s) = ri .u8 out ++ ri .u8 s := by rw [← ri_app]
  have sz := bs_size s
  have h1 : (out.length + s.length) * 1 ≤ 140737488355328 := by omega
  have h2 : out.length + s.length ≤ 9223372036854775807 := by omega
  rw [e48 (by simp) (by rfl), e]
  simp only [go_sem, b48, Tryz.f48, k, hlo, bytes_bs hs, sz, h1, h2]
  all_goals rfl
end
end Go.Lift.R4
end

section
/- spell.code: a character written by its number. -/
open Go.Proofs
namespace Go.Lift.R4
set_option linter.unusedSectionVars false
variable [MX]
open Utf Tok Spell
set_option maxRecDepth 20000
set_option maxHeartbeats 4000000
set_option linter.unusedSimpArgs false
set_option linter.unusedVariables false

section
variable {lo : Nat} {h : Heap}
theorem bs_hex : (⟨#[48, 49, 50, 51, 52, 53, 54, 55, 56, 57, 97, 98, 99, 100, 101, 102]⟩ : ByteArray) = bs hexS := rfl
theorem by_hex : By hexS := by decide
theorem wrap_i32' {n : Int} (h0 : -2147483648 ≤ n) (h1 : n ≤ 2147483647) : IntKind.i32.wrap n = n := by
  simp only [IntKind.wrap, IntKind.signed, IntKind.bits]
  simp
  omega
theorem loop87a : ∀ (k : Nat) (r : Int) (out : List Int), 0 ≤ r → r < 16 ^ k → r ≤ 2147483647 → out.length + k ≤ 1000 →
    loopW (evCode ⟨Tryz.prog, E, lo, h.length, h87⟩ loopW l87x0) ([(0, .v (.int .i32 r)), (3, .list .yes (ri .u8 out))], h) =
      some (.exit 0, [(0, .v (.int .i32 0)), (3, .list .yes (ri .u8 (out ++ rdN k r))), (7, .v (.bool false))], h) := by
  intro k
  induction k with
  | zero =>
    intro r out h0 h1 _ _
    obtain rfl : r = 0 := by simp at h1; omega
    have q : decide ((0 : Int) < 0) = false := rfl
    rw [loop_eq, rdN, List.append_nil]
    simp only [go_sem, l87x0, b87, Tryz.f87, q]
    all_goals rfl
  | succ k ih =>
    intro r out h0 h1 h2 h3
    by_cases hr : r ≤ 0
    · obtain rfl : r = 0 := by omega
      have q : decide ((0 : Int) < 0) = false := rfl
      rw [loop_eq, rdN, if_pos (by omega), List.append_nil]
      simp only [go_sem, l87x0, b87, Tryz.f87, q]
      all_goals rfl
    · have q : decide (0 < r) = true := by simp; omega
      have t1 : r.tmod 16 = r % 16 := Int.tmod_eq_emod_of_nonneg (by omega)
      have t2 : r.tdiv 16 = r / 16 := Int.tdiv_eq_ediv_of_nonneg (by omega)
      have z : ¬ ((16 : Int) = 0) := by omega
      have w1 : IntKind.i32.wrap (r % 16) = r % 16 := wrap_i32' (by omega) (by omega)
      have w2 : IntKind.i32.wrap (r / 16) = r / 16 := wrap_i32' (by omega) (by omega)
      have hi := bs_ix by_hex (r % 16).toNat
      rw [hexS_at (by omega) (by omega)] at hi
      have hn : 0 ≤ r % 16 := by omega
      have hr1 : ∀ k, k ≤ 4 → (out.length + k) * 1 ≤ 140737488355328 := by intro k hk; omega
      have hq : ∀ k, 9223372036854775800 ≤ k → out.length ≤ k := by intro k hk; omega
      have e : ri .u8 out ++ [[V.v (.int .u8 (hexD (r % 16)))]] = ri .u8 (out ++ [hexD (r % 16)]) := by rw [← ri_app]; rfl
      have er : evCode ⟨Tryz.prog, E, lo, h.length, h87⟩ loopW l87x0 ([(0, .v (.int .i32 r)), (3, .list .yes (ri .u8 out))], h) = some (.normal, [(0, .v (.int .i32 (r / 16))), (3, .list .yes (ri .u8 (out ++ [hexD (r % 16)])))], h) := by
        simp only [go_sem, l87x0, b87, Tryz.f87, q, t1, t2, z, w1, w2, bs_hex, hi, hn, hr1, hq, e]
        all_goals rfl
      rw [loop_eq, er, loop_n, ih (r / 16) _ (by omega) (by rw [Int.pow_succ] at h1; omega) (by omega) (by simp; omega), rdN, if_neg hr, List.append_assoc]
      rfl
theorem loop87b {b : List Int} (hlo : lo ≤ h.length) (hb : b.length ≤ 1000) : ∀ (n : Nat) (out : List Int), n ≤ b.length → out.length + n ≤ 2000 →
    loopW (evCode ⟨Tryz.prog, E, lo, h.length, h87⟩ loopW l87x1) ([(3, .list .yes (ri .u8 b)), (4, .ptr h.length 0), (5, .v (.int .i64 ((n : Int) - 1)))], h ++ [.cells [.ptr h.length 0, .list .yes (ri .u8 out)]]) =
      some (.exit 2, [(3, .list .yes (ri .u8 b)), (4, .ptr h.length 0), (5, .v (.int .i64 (-1))), (21, .v (.bool false))], h ++ [.cells [.ptr h.length 0, .list .yes (ri .u8 (out ++ (b.take n).reverse))]]) := by
  intro n
  induction n with
  | zero =>
    intro out h1 h2
    have e : ((0 : Nat) : Int) - 1 = -1 := rfl
    have q : decide ((0 : Int) ≤ -1) = false := rfl
    rw [loop_eq, e]
    simp only [go_sem, l87x1, b87, Tryz.f87, q, List.take_zero, List.reverse_nil, List.append_nil]
    all_goals rfl
  | succ n ih =>
    intro out h1 h2
    have e : ((n + 1 : Nat) : Int) - 1 = (n : Int) := by omega
    have q : decide ((0 : Int) ≤ (n : Int)) = true := by simp
    have hg : b[n]? = some b[n] := List.getElem?_eq_getElem (by omega)
    have ht : b.take (n + 1) = b.take n ++ [b[n]] := List.take_succ_eq_append_getElem (by omega)
    have w1 : IntKind.i64.wrap ((n : Int) - 1) = (n : Int) - 1 := wrap_i64 (by omega) (by omega)
    generalize b[n] = x at *
    have k := f91 (lo := lo) (p := h) (q := []) (p0 := .ptr h.length 0) (out := out) hlo ok_self (c := x) (by omega)
    have k2 := f91 (lo := h.length) (p := h) (q := []) (p0 := .ptr h.length 0) (out := out) (Nat.le_refl _) ok_self (c := x) (by omega)
    have er : evCode ⟨Tryz.prog, E, lo, h.length, h87⟩ loopW l87x1 ([(3, .list .yes (ri .u8 b)), (4, .ptr h.length 0), (5, .v (.int .i64 (n : Int)))], h ++ [.cells [.ptr h.length 0, .list .yes (ri .u8 out)]]) =
        some (.normal, [(3, .list .yes (ri .u8 b)), (4, .ptr h.length 0), (5, .v (.int .i64 ((n : Int) - 1)))], h ++ [.cells [.ptr h.length 0, .list .yes (ri .u8 (out ++ [x]))]]) := by
      simp only [go_sem, l87x1, b87, Tryz.f87, q, hg, w1, k, k2]
      all_goals rfl
    rw [loop_eq, e, er, loop_n, ih _ (by omega) (by simp; omega), ht, List.reverse_append, List.append_assoc]
    rfl
/-- jalousie/spell.code -/
theorem f87 (hlo : lo ≤ h.length) {r : Int} (h0 : 0 ≤ r) (h1 : r ≤ 2147483647) : E lo 87 [.v (.int .i32 r)] h = some (.v (.string (bs (codeT r))), h) := by
  have hA := loop87a (lo := lo) (h := h) 8 r [] h0 (by have : (16 : Int) ^ 8 = 4294967296 := by decide
                                                       omega) h1 (by simp)
  have hlen := rdN_len 8 r
  generalize hR : rdN 8 r = R at *
  have hby : By R := hR ▸ rdN_by 8 r
  have hB := loop87b (lo := lo) (h := h) (b := R) hlo (by omega) R.length [92] (Nat.le_refl _) (by simp; omega)
  rw [List.take_length] at hB
  simp only [l87x0, b87, Tryz.f87, loopAt, loops, bodyOf, go_sem, ri_nil] at hA
  simp only [l87x1, b87, Tryz.f87, loopAt, loops, bodyOf, go_sem] at hB
  have k1 := fun lo hlo => f91 (lo := lo) (p := h) (q := []) (p0 := .v (.pointer none)) (out := []) hlo (ok_nil _) (c := 92) (by simp)
  have k2 := fun lo hlo => f91 (lo := lo) (p := h) (q := []) (p0 := .ptr h.length 0) (out := 92 :: R.reverse) hlo ok_self (c := 32) (by simp; omega)
  have k3 := fun lo hlo => f49 (lo := lo) (p := h) (q := []) (p0 := .ptr h.length 0) (out := codeT r) hlo (codeT_by r) (by have := codeT_len r; omega)
  have ec : 92 :: R.reverse ++ [32] = codeT r := by unfold codeT; rw [hR]; simp
  rw [ec] at k2
  have k1a := k1 lo hlo; have k1b := k1 h.length (Nat.le_refl _)
  have k2a := k2 lo hlo; have k2b := k2 h.length (Nat.le_refl _)
  have k3a := k3 lo hlo; have k3b := k3 h.length (Nat.le_refl _)
  have w1 : IntKind.i64.wrap ((R.length : Int) - 1) = (R.length : Int) - 1 := wrap_i64 (by omega) (by omega)
  rw [ri_nil, List.nil_append] at k1a k1b
  rw [e87 (by simp) (by rfl)]
  simp only [go_sem, b87, Tryz.f87, hA, k1a, k1b, w1, hB, k2a, k2b, k3a, k3b]
  all_goals rfl
end
end Go.Lift.R4
end

section
/- Letters; a text's characters, one by one. -/
open Go.Proofs
namespace Go.Lift.R4
set_option linter.unusedSectionVars false
variable [MX]
open Utf Tok Spell
set_option maxRecDepth 20000
set_option maxHeartbeats 4000000
set_option linter.unusedSimpArgs false
set_option linter.unusedVariables false

section
variable {lo : Nat} {h : Heap} {c : Int}
theorem f118 : E lo 118 [.v (.int .i32 c)] h = some (.v (.bool (dig c)), h) := by
  rw [e118 (by simp) (by rfl)]
  simp only [go_sem, b118, Tryz.f118, dig]
theorem f117 : E lo 117 [.v (.int .i32 c)] h = some (.v (.bool (fst1 c)), h) := by
  rw [e117 (by simp) (by rfl)]
  simp only [go_sem, b117, Tryz.f117, fst1]
theorem f75 : E lo 75 [.v (.int .i32 c)] h = some (.v (.bool (ltr c)), h) := by
  rw [e75 (by simp) (by rfl)]
  simp only [go_sem, b75, Tryz.f75, f117, f118, ltr]
theorem f88 : E lo 88 [.v (.int .i32 c)] h = some (.v (.bool (hidT c)), h) := by
  rw [e88 (by simp) (by rfl)]
  simp only [go_sem, b88, Tryz.f88, hidT]
theorem f107 : E lo 107 [.v (.int .i32 c)] h = some (.v (.bool (hidT c)), h) := by
  rw [e107 (by simp) (by rfl)]
  simp only [go_sem, b107, Tryz.f107, hidT]
theorem dig86 : E lo 86 [.v (.int .i32 c)] h = some (.v (.bool (dig c)), h) := by
  rw [e86 (by simp) (by rfl)]
  simp only [go_sem, b86, Tryz.f86, dig]
theorem f89 : E lo 89 [.v (.int .i32 c)] h = some (.v (.bool (ltr c)), h) := by
  have hc : (97 ≤ c ∧ c ≤ 122) ∨ (65 ≤ c ∧ c ≤ 90) ∨ (c = 95) ∨ (c = 45) ∨ (128 ≤ c) ∨ (c < 65 ∧ c ≠ 45) ∨ (91 ≤ c ∧ c ≤ 96 ∧ c ≠ 95) ∨ (123 ≤ c ∧ c ≤ 127) := by omega
  rw [e89 (by simp) (by rfl)]
  rcases hc with hc | hc | hc | hc | hc | hc | hc | hc
  · have q1 : decide (97 ≤ c) = true := by simp; omega
    have q2 : decide (c ≤ 122) = true := by simp; omega
    have e : ltr c = true := by unfold ltr fst1; simp; omega
    rw [e]
    simp only [go_sem, b89, Tryz.f89, dig86, q1, q2]
    all_goals rfl
  · have q1 : decide (97 ≤ c) = false := by simp; omega
    have q3 : decide (65 ≤ c) = true := by simp; omega
    have q4 : decide (c ≤ 90) = true := by simp; omega
    have e : ltr c = true := by unfold ltr fst1; simp; omega
    rw [e]
    simp only [go_sem, b89, Tryz.f89, dig86, q1, q3, q4]
    all_goals rfl
  · have q1 : decide (97 ≤ c) = false := by simp; omega
    have q3 : decide (65 ≤ c) = true := by simp; omega
    have q4 : decide (c ≤ 90) = false := by simp; omega
    have q5 : (c == 95) = true := by simp; omega
    have e : ltr c = true := by unfold ltr fst1; simp; omega
    rw [e]
    simp only [go_sem, b89, Tryz.f89, dig86, q1, q3, q4, q5]
    all_goals rfl
  · have q1 : decide (97 ≤ c) = false := by simp; omega
    have q3 : decide (65 ≤ c) = false := by simp; omega
    have q5 : (c == 95) = false := by simp; omega
    have q6 : (c == 45) = true := by simp; omega
    have e : ltr c = true := by unfold ltr fst1; simp; omega
    rw [e]
    simp only [go_sem, b89, Tryz.f89, dig86, q1, q3, q5, q6]
    all_goals rfl
  · have q1 : decide (97 ≤ c) = true := by simp; omega
    have q2 : decide (c ≤ 122) = false := by simp; omega
    have q3 : decide (65 ≤ c) = true := by simp; omega
    have q4 : decide (c ≤ 90) = false := by simp; omega
    have q5 : (c == 95) = false := by simp; omega
    have q6 : (c == 45) = false := by simp; omega
    have q7 : decide (128 ≤ c) = true := by simp; omega
    have e : ltr c = true := by unfold ltr fst1; simp; omega
    rw [e]
    simp only [go_sem, b89, Tryz.f89, dig86, q1, q2, q3, q4, q5, q6, q7]
    all_goals rfl
  · have q1 : decide (97 ≤ c) = false := by simp; omega
    have q3 : decide (65 ≤ c) = false := by simp; omega
    have q5 : (c == 95) = false := by simp; omega
    have q6 : (c == 45) = false := by simp; omega
    have q7 : decide (128 ≤ c) = false := by simp; omega
    have e : ltr c = dig c := by unfold ltr fst1; cases hd : dig c <;> simp <;> omega
    rw [e]
    simp only [go_sem, b89, Tryz.f89, dig86, q1, q3, q5, q6, q7]
    all_goals rfl
  · have q1 : decide (97 ≤ c) = false := by simp; omega
    have q3 : decide (65 ≤ c) = true := by simp; omega
    have q4 : decide (c ≤ 90) = false := by simp; omega
    have q5 : (c == 95) = false := by simp; omega
    have q6 : (c == 45) = false := by simp; omega
    have q7 : decide (128 ≤ c) = false := by simp; omega
    have e : ltr c = dig c := by unfold ltr fst1; cases hd : dig c <;> simp <;> omega
    rw [e]
    simp only [go_sem, b89, Tryz.f89, dig86, q1, q3, q4, q5, q6, q7]
    all_goals rfl
  · have q1 : decide (97 ≤ c) = true := by simp; omega
    have q2 : decide (c ≤ 122) = false := by simp; omega
    have q3 : decide (65 ≤ c) = true := by simp; omega
    have q4 : decide (c ≤ 90) = false := by simp; omega
    have q5 : (c == 95) = false := by simp; omega
    have q6 : (c == 45) = false := by simp; omega
    have q7 : decide (128 ≤ c) = false := by simp; omega
    have e : ltr c = dig c := by unfold ltr fst1; cases hd : dig c <;> simp <;> omega
    rw [e]
    simp only [go_sem, b89, Tryz.f89, dig86, q1, q2, q3, q4, q5, q6, q7]
    all_goals rfl
end
theorem bs_get {L : List Int} {i : Nat} {c : Int} (h : L[i]? = some c) (h0 : 0 ≤ c) (h1 : c ≤ 255) : ((bs L).get! i).toNat = c.toNat := by
  have hi : i < L.length := (List.getElem?_eq_some_iff.1 h).1
  have hg : (u8s L)[i]? = some (UInt8.ofNat c.toNat) := by simp [u8s, h]
  have : (bs L).get! i = UInt8.ofNat c.toNat := by
    show (u8s L).toArray[i]! = _
    simp only [List.getElem!_toArray]
    rw [List.getElem!_eq_getElem?_getD, hg]
    rfl
  rw [this]
  simp only [UInt8.toNat_ofNat']
  omega
theorem dec1 {s : ByteArray} {i b0 : Nat} (g0 : (s.get! i).toNat = b0) (h : b0 < 128) : Utf8.decode s i = (b0, 1) := by
  have g0' : (s.get! (i + 0)).toNat = b0 := g0
  unfold Utf8.decode
  simp only [g0', h, if_true]
theorem dec2 {s : ByteArray} {i b0 b1 : Nat} (g0 : (s.get! i).toNat = b0) (g1 : (s.get! (i + 1)).toNat = b1) (hs : i + 1 < s.size) (h0 : b0 / 32 = 6) (h1 : b1 / 64 = 2) (hc : 128 ≤ b0 % 32 * 64 + b1 % 64) :
    Utf8.decode s i = (b0 % 32 * 64 + b1 % 64, 2) := by
  have g0' : (s.get! (i + 0)).toNat = b0 := g0
  have hn : ¬ b0 < 128 := by omega
  unfold Utf8.decode
  simp only [g0', g1, hn, h0, h1, hs, hc, decide_true, if_true, if_false, Bool.and_self, BEq.rfl, ge_iff_le, Nat.reduceBEq]
theorem dec3 {s : ByteArray} {i b0 b1 b2 : Nat} (g0 : (s.get! i).toNat = b0) (g1 : (s.get! (i + 1)).toNat = b1) (g2 : (s.get! (i + 2)).toNat = b2) (hs : i + 2 < s.size) (h0 : b0 / 16 = 14) (h1 : b1 / 64 = 2) (h2 : b2 / 64 = 2)
    (hc : 2048 ≤ b0 % 16 * 4096 + b1 % 64 * 64 + b2 % 64) (hv : Utf8.valid ((b0 % 16 * 4096 + b1 % 64 * 64 + b2 % 64 : Nat) : Int) = true) :
    Utf8.decode s i = (b0 % 16 * 4096 + b1 % 64 * 64 + b2 % 64, 3) := by
  have g0' : (s.get! (i + 0)).toNat = b0 := g0
  have hn : ¬ b0 < 128 := by omega
  have hn2 : (b0 / 32 == 6) = false := by simp; omega
  have hs1 : i + 1 < s.size := by omega
  unfold Utf8.decode
  simp only [g0', g1, g2, hn, hn2, h0, h1, h2, hs, hs1, hc, hv, decide_true, if_true, if_false, Bool.and_self, Bool.false_and, Bool.false_eq_true, BEq.rfl, ge_iff_le, Nat.reduceBEq]
theorem dec4 {s : ByteArray} {i b0 b1 b2 b3 : Nat} (g0 : (s.get! i).toNat = b0) (g1 : (s.get! (i + 1)).toNat = b1) (g2 : (s.get! (i + 2)).toNat = b2) (g3 : (s.get! (i + 3)).toNat = b3) (hs : i + 3 < s.size) (h0 : b0 / 8 = 30) (h1 : b1 / 64 = 2) (h2 : b2 / 64 = 2) (h3 : b3 / 64 = 2)
    (hc : 65536 ≤ b0 % 8 * 262144 + b1 % 64 * 4096 + b2 % 64 * 64 + b3 % 64) (hv : Utf8.valid ((b0 % 8 * 262144 + b1 % 64 * 4096 + b2 % 64 * 64 + b3 % 64 : Nat) : Int) = true) :
    Utf8.decode s i = (b0 % 8 * 262144 + b1 % 64 * 4096 + b2 % 64 * 64 + b3 % 64, 4) := by
  have g0' : (s.get! (i + 0)).toNat = b0 := g0
  have hn : ¬ b0 < 128 := by omega
  have hn2 : (b0 / 32 == 6) = false := by simp; omega
  have hn3 : (b0 / 16 == 14) = false := by simp; omega
  have hs1 : i + 1 < s.size := by omega
  have hs2 : i + 2 < s.size := by omega
  unfold Utf8.decode
  simp only [g0', g1, g2, g3, hn, hn2, hn3, h0, h1, h2, h3, hs, hs1, hs2, hc, hv, decide_true, if_true, if_false, Bool.and_self, Bool.false_and, Bool.false_eq_true, BEq.rfl, ge_iff_le, Nat.reduceBEq]
theorem dec_enc {pre rest : List Int} {x : Int} (hs : scal x = x) : Utf8.decode (bs (pre ++ (enc x ++ rest))) pre.length = (x.toNat, (enc x).length) := by
  obtain ⟨h0, h1, h2⟩ := (scal_iff x).1 hs
  have hsz : (bs (pre ++ (enc x ++ rest))).size = pre.length + ((enc x).length + rest.length) := by rw [bs_size]; simp
  have hb := enc_by x h0 h1
  have hget : ∀ (k : Nat) (c : Int), (enc x)[k]? = some c → ((bs (pre ++ (enc x ++ rest))).get! (pre.length + k)).toNat = c.toNat := fun k c hk => by
    have := hb c (List.mem_of_getElem? hk)
    refine bs_get ?_ this.1 this.2
    rw [List.getElem?_append_right (by omega), Nat.add_sub_cancel_left, List.getElem?_append_left (List.getElem?_eq_some_iff.1 hk).1]
    exact hk
  generalize bs (pre ++ (enc x ++ rest)) = s at *
  generalize pre.length = i at *
  obtain ⟨n, rfl⟩ : ∃ n : Nat, x = n := ⟨x.toNat, by omega⟩
  have hn : ((n : Int)).toNat = n := by omega
  rw [hn]
  by_cases c1 : (n : Int) < 128
  · have e : enc (n : Int) = [(n : Int)] := by unfold enc; rw [if_pos c1]
    rw [e] at hget ⊢
    exact dec1 (by have := hget 0 _ rfl; simpa using this) (by omega)
  · by_cases c2 : (n : Int) < 2048
    · have e : enc (n : Int) = [192 + (n : Int) / 64, 128 + (n : Int) % 64] := by unfold enc; rw [if_neg c1, if_pos c2]
      rw [e] at hget hsz ⊢
      have g0 := hget 0 _ rfl
      have g1 := hget 1 _ rfl
      have d := dec2 (s := s) (i := i) g0 g1 (by rw [hsz]; simp; omega) (by omega) (by omega) (by omega)
      rw [d]
      simp
      omega
    · by_cases c3 : (n : Int) < 65536
      · have e : enc (n : Int) = [224 + (n : Int) / 4096, 128 + (n : Int) / 64 % 64, 128 + (n : Int) % 64] := by unfold enc; rw [if_neg c1, if_neg c2, if_pos c3]
        rw [e] at hget hsz ⊢
        have g0 := hget 0 _ rfl
        have g1 := hget 1 _ rfl
        have g2 := hget 2 _ rfl
        have ev : (224 + (n : Int) / 4096).toNat % 16 * 4096 + (128 + (n : Int) / 64 % 64).toNat % 64 * 64 + (128 + (n : Int) % 64).toNat % 64 = n := by omega
        have d := dec3 (s := s) (i := i) g0 g1 g2 (by rw [hsz]; simp; omega) (by omega) (by omega) (by omega) (by omega) (by rw [ev]; simp [Utf8.valid]; omega)
        rw [d, ev]
        rfl
      · have e : enc (n : Int) = [240 + (n : Int) / 262144, 128 + (n : Int) / 4096 % 64, 128 + (n : Int) / 64 % 64, 128 + (n : Int) % 64] := by unfold enc; rw [if_neg c1, if_neg c2, if_neg c3]
        rw [e] at hget hsz ⊢
        have g0 := hget 0 _ rfl
        have g1 := hget 1 _ rfl
        have g2 := hget 2 _ rfl
        have g3 := hget 3 _ rfl
        have ev : (240 + (n : Int) / 262144).toNat % 8 * 262144 + (128 + (n : Int) / 4096 % 64).toNat % 64 * 4096 + (128 + (n : Int) / 64 % 64).toNat % 64 * 64 + (128 + (n : Int) % 64).toNat % 64 = n := by omega
        have d := dec4 (s := s) (i := i) g0 g1 g2 g3 (by rw [hsz]; simp; omega) (by omega) (by omega) (by omega) (by omega) (by omega) (by rw [ev]; simp [Utf8.valid]; omega)
        rw [d, ev]
        rfl
end Go.Lift.R4
end

section
/- spell.name. -/
open Go.Proofs
namespace Go.Lift.R4
set_option linter.unusedSectionVars false
variable [MX]
open Utf Tok Spell
set_option maxRecDepth 20000
set_option maxHeartbeats 4000000
set_option linter.unusedSimpArgs false
set_option linter.unusedVariables false

section
variable {lo : Nat} {h : Heap} {done : List Int} {p0 : V} {out : List Int} {x : Int} {s : ByteArray} {pos : Nat}
abbrev H34 (h : Heap) (p0 : V) (out : List Int) (s : ByteArray) (pos : Nat) : Heap := h ++ [.cells [p0, .list .yes (ri .u8 out)], .iter s pos]
theorem round34 (hlo : lo ≤ h.length) (hp : okP h.length p0 = true) (hx0 : 0 ≤ x) (hx1 : x ≤ 1114111) (hpos : pos < s.size) (hdec : Utf8.decode s pos = (x.toNat, (enc (scal x)).length)) (hl : out.length ≤ 900000000) :
    evCode ⟨Tryz.prog, E, lo, h.length, h34⟩ loopW l34x0 ([(3, .ptr h.length 0), (7, .ptr (h.length + 1) 0)], H34 h p0 out s pos) =
      some (.normal, [(3, .ptr h.length 0), (7, .ptr (h.length + 1) 0)], H34 h (.ptr h.length 0) (out ++ nameC x) s (pos + (enc (scal x)).length)) := by
  have hlo1 : lo ≤ h.length + 1 := by omega
  have hxn : ((x.toNat : Nat) : Int) = x := by omega
  have hcl := codeT_len x
  have hel := enc_len (scal x)
  have c87 := fun lo hlo => f87 (lo := lo) (h := H34 h p0 out s (pos + (enc (scal x)).length)) hlo hx0 (r := x) (by omega)
  have c87a := c87 lo (by simp; omega)
  have c87b := c87 h.length (by simp)
  have c87c := c87 (h.length + 2) (by simp)
  have c48 := fun lo hlo => f48 (lo := lo) (p := h) (q := [.iter s (pos + (enc (scal x)).length)]) (p0 := p0) (out := out) hlo hp (s := codeT x) (codeT_by x) (by omega) (by omega)
  have c90 := fun lo hlo => f90 (lo := lo) (p := h) (q := [.iter s (pos + (enc (scal x)).length)]) (p0 := p0) (out := out) hlo hp (r := x) (by omega) (by omega) (by omega)
  have c91 := fun lo hlo => f91 (lo := lo) (p := h) (q := [.iter s (pos + (enc (scal x)).length)]) (p0 := p0) (out := out) hlo hp (c := 92) (by omega)
  have c92 := fun lo hlo => f90 (lo := lo) (p := h) (q := [.iter s (pos + (enc (scal x)).length)]) (p0 := .ptr h.length 0) (out := out ++ [92]) hlo ok_self (r := x) (by omega) (by omega) (by simp; omega)
  have c48a := c48 lo hlo; have c48b := c48 h.length (Nat.le_refl _)
  have c90a := c90 lo hlo; have c90b := c90 h.length (Nat.le_refl _)
  have c91a := c91 lo hlo; have c91b := c91 h.length (Nat.le_refl _)
  have c92a := c92 lo hlo; have c92b := c92 h.length (Nat.le_refl _)
  clear c87 c48 c90 c91 c92
  have e1 : (Utf8.decode s pos).1 = x.toNat := by rw [hdec]
  have e2 : (Utf8.decode s pos).2 = (enc (scal x)).length := by rw [hdec]
  have k88 := fun lo h => f88 (lo := lo) (h := h) (c := x)
  have k89 := fun lo h => f89 (lo := lo) (h := h) (c := x)
  unfold nameC
  cases qh : hidT x with
  | true =>
    rw [qh] at k88
    simp only [go_sem, l34x0, b34, Tryz.f34, hlo, hlo1, hpos, e1, e2, hxn, k88, c87a, c87b, c87c, c48a, c48b, if_true]
    all_goals rfl
  | false =>
    rw [qh] at k88
    cases ql : ltr x with
    | true =>
      rw [ql] at k89
      simp only [go_sem, l34x0, b34, Tryz.f34, hlo, hlo1, hpos, e1, e2, hxn, k88, k89, c90a, c90b, if_true, Bool.false_eq_true, if_false]
      all_goals rfl
    | false =>
      rw [ql] at k89
      have e3 : out ++ [92] ++ enc (scal x) = out ++ 92 :: enc (scal x) := by simp
      rw [e3] at c92a c92b
      simp only [go_sem, l34x0, b34, Tryz.f34, hlo, hlo1, hpos, e1, e2, hxn, k88, k89, c91a, c91b, c92a, c92b, Bool.false_eq_true, if_false]
      all_goals rfl
theorem stop34 (hlo : lo ≤ h.length) (hpos : ¬ pos < s.size) :
    loopW (evCode ⟨Tryz.prog, E, lo, h.length, h34⟩ loopW l34x0) ([(3, .ptr h.length 0), (7, .ptr (h.length + 1) 0)], H34 h p0 out s pos) =
      some (.exit 0, [(3, .ptr h.length 0), (7, .ptr (h.length + 1) 0), (8, .tup [.v (.bool false)]), (9, .v (.bool false))], H34 h p0 out s pos) := by
  have hlo1 : lo ≤ h.length + 1 := by omega
  rw [loop_eq]
  simp only [go_sem, l34x0, b34, Tryz.f34, hlo, hlo1, hpos]
  all_goals rfl
theorem loop34 (hlo : lo ≤ h.length) : ∀ (l : List Int) (done : List Int) (p0 : V) (out : List Int), (∀ x ∈ l, scal x = x) → okP h.length p0 = true → out.length + 10 * l.length ≤ 900000000 →
    ∃ p1, okP h.length p1 = true ∧ loopW (evCode ⟨Tryz.prog, E, lo, h.length, h34⟩ loopW l34x0) ([(3, .ptr h.length 0), (7, .ptr (h.length + 1) 0)], H34 h p0 out (bs (done ++ encs l)) done.length) =
      some (.exit 0, [(3, .ptr h.length 0), (7, .ptr (h.length + 1) 0), (8, .tup [.v (.bool false)]), (9, .v (.bool false))], H34 h p1 (out ++ nameT l) (bs (done ++ encs l)) (done ++ encs l).length) := by
  intro l
  induction l with
  | nil =>
    intro done p0 out _ hp _
    refine ⟨p0, hp, ?_⟩
    have e : done ++ encs [] = done := by simp [encs]
    rw [e, stop34 hlo (by rw [bs_size]; omega)]
    simp [nameT]
  | cons x l ih =>
    intro done p0 out hs hp hl
    have hx := hs x (by simp)
    have hx2 := scal_in x
    rw [hx] at hx2
    have hel := enc_len x
    have hcl := nameC_len x
    have hdec := dec_enc (pre := done) (rest := encs l) hx
    have e1 : encs (x :: l) = enc x ++ encs l := by rw [encs_cons, hx]
    have e2 : done ++ encs (x :: l) = (done ++ enc x) ++ encs l := by rw [e1, List.append_assoc]
    simp only [List.length_cons] at hl
    obtain ⟨p1, hp1, hL⟩ := ih (done ++ enc x) (.ptr h.length 0) (out ++ nameC x) (fun y hy => hs y (by simp [hy])) ok_self (by simp; omega)
    refine ⟨p1, hp1, ?_⟩
    rw [e1, ← List.append_assoc]
    rw [← List.append_assoc] at hdec
    rw [loop_eq, round34 hlo hp hx2.1 hx2.2 (by rw [bs_size]; simp; omega) (by rw [hdec, hx]) (by omega), loop_n, hx]
    have e3 : done.length + (enc x).length = (done ++ enc x).length := by simp
    rw [e3, hL, nameT_cons, List.append_assoc]
/-- jalousie/spell.name -/
theorem f34 (hlo : lo ≤ h.length) {l : List Int} (hs : ∀ x ∈ l, scal x = x) (hl : l.length ≤ 10000000) : E lo 34 [.v (.string (bs (encs l)))] h = some (.v (.string (bs (nameT l))), h) := by
  have hlen := nameT_len l
  obtain ⟨p1, hp1, hL⟩ := loop34 (lo := lo) (h := h) hlo l [] (.v (.pointer none)) [] hs rfl (by simp; omega)
  rw [List.nil_append, List.nil_append, List.length_nil] at hL
  have k := fun lo hlo => f49 (lo := lo) (p := h) (q := [.iter (bs (encs l)) (encs l).length]) (p0 := p1) (out := nameT l) hlo (nameT_by l) (by omega)
  have ka := k lo hlo; have kb := k h.length (Nat.le_refl _)
  simp only [l34x0, b34, Tryz.f34, loopAt, loops, bodyOf, go_sem, ri_nil, H34] at hL
  rw [e34 (by simp) (by rfl)]
  simp only [go_sem, b34, Tryz.f34, hlo, hL, ka, kb]
  all_goals rfl
end
end Go.Lift.R4
end

section
/- strconv.FormatInt to the base 16; jalousieref4.escaped. -/
open Go.Proofs
namespace Go.Lift.R4
set_option linter.unusedSectionVars false
variable [MX]
open Utf Tok Spell
set_option maxRecDepth 20000
set_option maxHeartbeats 4000000
set_option linter.unusedSimpArgs false
set_option linter.unusedVariables false

section
variable {lo : Nat} {h : Heap}
def digs36 : List Int := [48, 49, 50, 51, 52, 53, 54, 55, 56, 57, 97, 98, 99, 100, 101, 102, 103, 104, 105, 106, 107, 108, 109, 110, 111, 112, 113, 114, 115, 116, 117, 118, 119, 120, 121, 122]
theorem bs_36 : (⟨#[48, 49, 50, 51, 52, 53, 54, 55, 56, 57, 97, 98, 99, 100, 101, 102, 103, 104, 105, 106, 107, 108, 109, 110, 111, 112, 113, 114, 115, 116, 117, 118, 119, 120, 121, 122]⟩ : ByteArray) = bs digs36 := rfl
theorem by_36 : By digs36 := by decide
theorem d36_at {n : Int} (h0 : 0 ≤ n) (h1 : n < 16) : digs36[n.toNat]? = some (hexD n) := by
  obtain ⟨k, rfl⟩ : ∃ k : Nat, n = k := ⟨n.toNat, by omega⟩
  have hk : k < 16 := by omega
  have : ∀ k : Fin 16, digs36[((k.val : Nat) : Int).toNat]? = some (hexD (k.val : Int)) := by decide
  exact this ⟨k, hk⟩
theorem and15 {y : Int} (h0 : 0 ≤ y) (h1 : y ≤ 2147483647) : iand .u64 y 15 = y % 16 := by
  unfold iand
  show ((BitVec.ofInt 64 y &&& BitVec.ofInt 64 15).toNat : Int) = y % 16
  rw [BitVec.toNat_and]
  have e1 : (BitVec.ofInt 64 y).toNat = y.toNat := by
    rw [BitVec.toNat_ofInt]
    omega
  have e2 : (BitVec.ofInt 64 15).toNat = 2 ^ 4 - 1 := by decide
  rw [e1, e2, Nat.and_two_pow_sub_one_eq_mod]
  omega
theorem shr4 {y : Int} (h0 : 0 ≤ y) : ishr .u64 y 4 = y / 16 := by
  unfold ishr
  show y.fdiv (2 ^ (min 4 64)) = _
  rw [Int.fdiv_eq_ediv_of_nonneg _ (by decide)]
  rfl
/-- a number's digits to the base 16 -/
def hexF : Nat → Int → List Int
  | 0, u => [hexD u]
  | k + 1, u => if u < 16 then [hexD u] else hexF k (u / 16) ++ [hexD (u % 16)]
abbrev A170 (h : Heap) (u j : Int) : Env := [(0, .list .no []), (1, .v (.int .u64 u)), (3, .v (.bool false)), (4, .v (.bool false)), (10, .list .yes []), (11, .v (.string ⟨#[]⟩)), (12, .ptr h.length 0), (13, .v (.int .i64 j)), (14, .v (.int .u64 4)), (15, .v (.int .u64 16)), (16, .v (.int .u64 15))]
theorem loop170 (hlo : lo ≤ h.length) : ∀ (k : Nat) (u : Int) (j : Nat) (suf : List Int), 0 ≤ u → u < 16 ^ (k + 1) → u ≤ 2147483647 → k + 1 ≤ j → j + suf.length = 65 →
    ∃ (u' : Int) (j' : Nat) (suf' : List Int), 0 ≤ u' ∧ u' < 16 ∧ 1 ≤ j' ∧ j' + suf'.length = 65 ∧ hexD u' :: suf' = hexF k u ++ suf ∧
    loopW (evCode ⟨Tryz.prog, E, lo, h.length, h170⟩ loopW l170x0) (A170 h u j, h ++ [cz j suf]) = some (.exit 0, A170 h u' j' ++ [(46, .v (.bool false))], h ++ [cz j' suf']) := by
  have stop : ∀ (u : Int) (j : Nat) (suf : List Int), 0 ≤ u → u < 16 → loopW (evCode ⟨Tryz.prog, E, lo, h.length, h170⟩ loopW l170x0) (A170 h u j, h ++ [cz j suf]) = some (.exit 0, A170 h u j ++ [(46, .v (.bool false))], h ++ [cz j suf]) := by
    intro u j suf h0 h1
    have q : decide (16 ≤ u) = false := by simp; omega
    rw [loop_eq]
    simp only [go_sem, l170x0, b170, Tryz.f170, q]
    all_goals rfl
  intro k
  induction k with
  | zero =>
    intro u j suf h0 h1 _ h2 h3
    exact ⟨u, j, suf, h0, by simpa using h1, h2, h3, rfl, stop u j suf h0 (by simpa using h1)⟩
  | succ k ih =>
    intro u j suf h0 h1 h4 h2 h3
    by_cases hu : u < 16
    · exact ⟨u, j, suf, h0, hu, by omega, h3, by simp [hexF, hu], stop u j suf h0 hu⟩
    obtain ⟨i, rfl⟩ : ∃ i, j = i + 1 := ⟨j - 1, by omega⟩
    have q : decide (16 ≤ u) = true := by simp; omega
    have w1 : IntKind.i64.wrap (((i + 1 : Nat) : Int) - 1) = (i : Int) := by rw [wrap_i64 (by omega) (by omega)]; omega
    have a1 := and15 h0 h4
    have s1 := shr4 h0
    have w2 : IntKind.u64.wrap (u % 16) = u % 16 := wrap_u64 (by omega) (by omega)
    have w3 : IntKind.u64.wrap (u / 16) = u / 16 := wrap_u64 (by omega) (by omega)
    have hi := bs_ix by_36 (u % 16).toNat
    rw [d36_at (by omega) (by omega)] at hi
    have hn : 0 ≤ u % 16 := by omega
    have b1 : (i : Int) < ((65 : Nat) : Int) := by omega
    have e := set_cz i (hexD (u % 16)) suf
    have e2 : i + 1 ≤ (List.replicate (i + 1) (V.v (Value.int IntKind.u8 0)) ++ List.map (fun c => V.v (Value.int IntKind.u8 c)) suf).length := by simp
    have er : evCode ⟨Tryz.prog, E, lo, h.length, h170⟩ loopW l170x0 (A170 h u (i + 1 : Nat), h ++ [cz (i + 1) suf]) = some (.normal, A170 h (u / 16) i, h ++ [cz i (hexD (u % 16) :: suf)]) := by
      simp only [go_sem, l170x0, b170, Tryz.f170, q, w1, a1, s1, w2, w3, bs_36, hi, hn, b1, e, e2, hlo, cz, Nat.zero_add, Nat.mul_one]
      all_goals rfl
    obtain ⟨u', j', suf', g0, g1, g2, g3, g4, g5⟩ := ih (u / 16) i (hexD (u % 16) :: suf) (by omega) (by rw [Int.pow_succ] at h1; omega) (by omega) (by omega) (by simp; omega)
    refine ⟨u', j', suf', g0, g1, g2, g3, ?_, ?_⟩
    · rw [g4]; simp [hexF, hu]
    · rw [loop_eq, er, loop_n, g5]
theorem cz65 : cz 65 [] = .cells [.v (.int .u8 0), .v (.int .u8 0), .v (.int .u8 0), .v (.int .u8 0), .v (.int .u8 0), .v (.int .u8 0), .v (.int .u8 0), .v (.int .u8 0), .v (.int .u8 0), .v (.int .u8 0), .v (.int .u8 0), .v (.int .u8 0), .v (.int .u8 0), .v (.int .u8 0), .v (.int .u8 0), .v (.int .u8 0), .v (.int .u8 0), .v (.int .u8 0), .v (.int .u8 0), .v (.int .u8 0), .v (.int .u8 0), .v (.int .u8 0), .v (.int .u8 0), .v (.int .u8 0), .v (.int .u8 0), .v (.int .u8 0), .v (.int .u8 0), .v (.int .u8 0), .v (.int .u8 0), .v (.int .u8 0), .v (.int .u8 0), .v (.int .u8 0), .v (.int .u8 0), .v (.int .u8 0), .v (.int .u8 0), .v (.int .u8 0), .v (.int .u8 0), .v (.int .u8 0), .v (.int .u8 0), .v (.int .u8 0), .v (.int .u8 0), .v (.int .u8 0), .v (.int .u8 0), .v (.int .u8 0), .v (.int .u8 0), .v (.int .u8 0), .v (.int .u8 0), .v (.int .u8 0), .v (.int .u8 0), .v (.int .u8 0), .v (.int .u8 0), .v (.int .u8 0), .v (.int .u8 0), .v (.int .u8 0), .v (.int .u8 0), .v (.int .u8 0), .v (.int .u8 0), .v (.int .u8 0), .v (.int .u8 0), .v (.int .u8 0), .v (.int .u8 0), .v (.int .u8 0), .v (.int .u8 0), .v (.int .u8 0), .v (.int .u8 0)] := rfl
theorem p168 : (16 : Int) ^ (7 + 1) = 4294967296 := by decide
theorem f192 : E lo 192 [.v (.int .i64 16)] h = some (.v (.bool true), h) := by
  have a : iand .i64 16 15 = 0 := by decide
  have w : IntKind.i64.wrap (16 - 1) = 15 := by decide
  have w0 : IntKind.i64.wrap 0 = 0 := by decide
  have q : ((0 : Int) == 0) = true := rfl
  rw [e192 (by simp) (by rfl)]
  simp only [go_sem, b192, Tryz.f192, a, w, w0, q]
  all_goals rfl
theorem f193 : E lo 193 [.v (.int .u64 16)] h = some (.v (.int .i64 4), h) := by
  have k := fun lo h => f132 (lo := lo) (h := h) (x := 16) (by omega) (by omega)
  have c : Go.Lib.ctz 64 (16 : Int).toNat = 4 := by decide
  have n4 : ((4 : Nat) : Int) = 4 := rfl
  rw [c, n4] at k
  rw [e193 (by simp) (by rfl)]
  simp only [go_sem, b193, Tryz.f193, k]
  all_goals rfl
theorem f170 (hlo : lo ≤ h.length) {x : Int} (h0 : 0 ≤ x) (h1 : x ≤ 2147483647) : E lo 170 [.list .no [], .v (.int .u64 x), .v (.int .i64 16), .v (.bool false), .v (.bool false)] h = some (.tup [.list .no [], .v (.string (bs (hexF 7 x)))], h) := by
  obtain ⟨u, j1, suf, g0, g1, g2, g3, g4, hL⟩ := loop170 (lo := lo) (h := h) hlo 7 x 65 [] h0 (by rw [p168]; omega) h1 (by omega) (by simp)
  rw [List.append_nil] at g4
  obtain ⟨j, rfl⟩ : ∃ j, j1 = j + 1 := ⟨j1 - 1, by omega⟩
  rw [← g4]
  have n65 : ((65 : Nat) : Int) = 65 := rfl
  rw [cz65, n65] at hL
  have q1 : decide ((16 : Int) < 2) = false := rfl
  have q2 : ((16 : Int) == 10) = false := rfl
  have q3 : decide ((36 : Int) < 16) = false := rfl
  have k2 := fun lo h => f192 (lo := lo) (h := h)
  have k3 := fun lo h => f193 (lo := lo) (h := h)
  have w16 : IntKind.u64.wrap 16 = 16 := by decide
  have w4 : IntKind.u64.wrap 4 = 4 := by decide
  have w15 : IntKind.u64.wrap (16 - 1) = 15 := by decide
  have w1 : IntKind.i64.wrap (((j + 1 : Nat) : Int) - 1) = (j : Int) := by rw [wrap_i64 (by omega) (by omega)]; omega
  have hi := bs_ix by_36 u.toNat
  rw [d36_at g0 g1] at hi
  have b1 : (j : Int) < ((65 : Nat) : Int) := by omega
  have b2 : j ≤ 65 := by omega
  have b3 : j < 65 := by omega
  have e := set_cz j (hexD u) suf
  have e2 : j + 1 ≤ (List.replicate (j + 1) (V.v (Value.int IntKind.u8 0)) ++ List.map (fun c => V.v (Value.int IntKind.u8 c)) suf).length := by simp
  have e3 : decide (j + (65 - j) ≤ (List.replicate j (V.v (Value.int IntKind.u8 0)) ++ V.v (Value.int IntKind.u8 (hexD u)) :: List.map (fun c => V.v (Value.int IntKind.u8 c)) suf).length) = true := by simp; omega
  have e4 : bytesOf (List.map (fun x => [x]) (List.take (65 - j) (List.drop j (List.replicate j (V.v (Value.int IntKind.u8 0)) ++ V.v (Value.int IntKind.u8 (hexD u)) :: List.map (fun c => V.v (Value.int IntKind.u8 c)) suf)))) = some (u8s (hexD u :: suf)) := by
    rw [List.drop_left' (by simp), List.take_of_length_le (by simp; omega)]
    have : List.map (fun x => [x]) (V.v (Value.int IntKind.u8 (hexD u)) :: List.map (fun c => V.v (Value.int IntKind.u8 c)) suf) = ri .u8 (hexD u :: suf) := by simp [ri]
    rw [this]
    exact ri_bytes _
  simp only [l170x0, b170, Tryz.f170, loopAt, loops, bodyOf, go_sem, cz, A170, bs_36, Nat.zero_add, Nat.mul_one] at hL
  rw [e170 (by simp) (by rfl)]
  simp only [go_sem, b170, Tryz.f170, q1, q2, q3, k2, k3, w16, w4, w15, hL, w1, bs_36, hi, g0, b1, b2, b3, e, e2, e3, e4, hlo, cz, Nat.zero_add, Nat.mul_one]
  all_goals rfl
theorem f171 (hlo : lo ≤ h.length) {x : Int} (h0 : 0 ≤ x) (h1 : x ≤ 2147483647) : E lo 171 [.v (.int .i64 x), .v (.int .i64 16)] h = some (.v (.string (bs (hexF 7 x))), h) := by
  have k := fun lo hlo => f170 (lo := lo) (h := h) hlo h0 h1
  have ka := k lo hlo; have kb := k h.length (Nat.le_refl _)
  have q : ((16 : Int) == 10) = false := rfl
  have q2 : decide (x < 0) = false := by simp; omega
  have w : IntKind.u64.wrap x = x := wrap_u64 h0 (by omega)
  rw [e171 (by simp) (by rfl)]
  simp only [go_sem, b171, Tryz.f171, q, q2, w, ka, kb]
  all_goals rfl
theorem f140 (hlo : lo ≤ h.length) {x : Int} (h0 : 0 ≤ x) (h1 : x ≤ 2147483647) : E lo 140 [.v (.int .i64 x), .v (.int .i64 16)] h = some (.v (.string (bs (hexF 7 x))), h) := by
  have k := fun lo hlo => f171 (lo := lo) (h := h) hlo h0 h1
  have ka := k lo hlo; have kb := k h.length (Nat.le_refl _)
  rw [e140 (by simp) (by rfl)]
  simp only [go_sem, b140, Tryz.f140, ka, kb]
  all_goals rfl
theorem rdN_more : ∀ (k m : Nat) (r : Int), r < 16 ^ k → k ≤ m → rdN m r = rdN k r
  | 0, m, r, h, _ => by
    have hr : r ≤ 0 := by simp at h; omega
    cases m with
    | zero => rfl
    | succ m => simp [rdN, hr]
  | k + 1, 0, r, _, h => by omega
  | k + 1, m + 1, r, h, hm => by
    simp only [rdN]
    split
    · rfl
    · rw [rdN_more k m (r / 16) (by rw [Int.pow_succ] at h; omega) (by omega)]
theorem hexF_rd : ∀ (k : Nat) (u : Int), 1 ≤ u → u < 16 ^ (k + 1) → hexF k u = (rdN (k + 1) u).reverse
  | 0, u, h0, h1 => by
    have h2 : u < 16 := by simpa using h1
    have e : u % 16 = u := by omega
    simp [hexF, rdN, show ¬ u ≤ 0 by omega, e]
  | k + 1, u, h0, h1 => by
    simp only [hexF]
    split
    · rename_i hu
      have e : u % 16 = u := by omega
      have e2 : u / 16 = 0 := by omega
      simp [rdN, show ¬ u ≤ 0 by omega, e, e2]
    · rw [hexF_rd k (u / 16) (by omega) (by rw [Int.pow_succ] at h1; omega)]
      have : rdN (k + 1 + 1) u = hexD (u % 16) :: rdN (k + 1) (u / 16) := by
        simp [rdN, show ¬ u ≤ 0 by omega]
      rw [this, List.reverse_cons]
theorem hexF_code {u : Int} (h0 : 1 ≤ u) (h1 : u ≤ 2147483647) : 92 :: (hexF 7 u ++ [32]) = codeT u := by
  unfold codeT
  rw [hexF_rd 7 u h0 (by rw [p168]; omega)]
theorem bs_92 : (⟨#[92]⟩ : ByteArray) = bs [92] := rfl
theorem bs_32 : (⟨#[32]⟩ : ByteArray) = bs [32] := rfl
/-- jalousieref4.escaped -/
theorem f105 (hlo : lo ≤ h.length) {x : Int} (h0 : 1 ≤ x) (h1 : x ≤ 2147483647) : E lo 105 [.v (.int .i32 x)] h = some (.v (.string (bs (codeT x))), h) := by
  have k := fun lo hlo => f140 (lo := lo) (h := h) hlo (x := x) (by omega) h1
  have ka := k lo hlo; have kb := k h.length (Nat.le_refl _)
  have w : IntKind.i64.wrap x = x := wrap_i64 (by omega) (by omega)
  have e := hexF_code h0 h1
  have hlen := codeT_len x
  rw [← e] at hlen
  have z1 : (bs [92]).size + (bs (hexF 7 x)).size ≤ 9223372036854775807 := by rw [bs_size, bs_size]; simp at hlen ⊢; omega
  have z2 : (bs ([92] ++ hexF 7 x)).size + (bs [32]).size ≤ 9223372036854775807 := by rw [bs_size, bs_size]; simp at hlen ⊢; omega
  rw [List.singleton_append] at z2
  rw [e105 (by simp) (by rfl), ← e]
  simp only [go_sem, b105, Tryz.f105, w, ka, kb, bs_92, bs_32, bs_app, z1, z2, List.singleton_append]
  all_goals rfl
end
end Go.Lift.R4
end

section
/- jalousieref4.letters. -/
open Go.Proofs
namespace Go.Lift.R4
set_option linter.unusedSectionVars false
variable [MX]
open Utf Tok Spell
set_option maxRecDepth 20000
set_option maxHeartbeats 4000000
set_option linter.unusedSimpArgs false
set_option linter.unusedVariables false

section
variable {lo : Nat} {h : Heap}
/-- jalousieref2.Text of one character -/
theorem f82 {x : Int} : E lo 82 [.list .no [[.v (.int .i32 x)]]] h = some (.v (.string (bs (enc (scal x)))), h) := by
  have k := fun lo h => f122 (lo := lo) (h := h) (l := [x]) (by simp)
  have e : ri .i32 [x] = [[V.v (.int .i32 x)]] := rfl
  have e2 : ([x].flatMap fun x => enc (scal x)) = enc (scal x) := by simp
  rw [e, e2] at k
  have e3 : (⟨(u8s (enc (scal x))).toArray⟩ : ByteArray) = bs (enc (scal x)) := rfl
  rw [e82 (by simp) (by rfl)]
  simp only [go_sem, b82, Tryz.f82, k, ri_bytes, e3]
  all_goals rfl
theorem hid_pos {x : Int} (h : hidT x = true) : 1 ≤ x := by
  unfold hidT at h
  simp at h
  omega
theorem loop43 (hlo : lo ≤ h.length) {l : List Int} (hl : l.length ≤ 10000000) (hs : ∀ x ∈ l, scal x = x) : ∀ (m k : Nat) (out : List Int), k + m = l.length → out.length + 10 * m ≤ 900000000 →
    loopW (evCode ⟨Tryz.prog, E, lo, h.length, h43⟩ loopW l43x0) ([(3, .v (.string (bs out))), (6, .list .no (ri .i32 l)), (7, .v (.int .i64 l.length)), (8, .v (.int .i64 k))], h) =
      some (.exit 0, [(3, .v (.string (bs (out ++ nameT (l.drop k))))), (6, .list .no (ri .i32 l)), (7, .v (.int .i64 l.length)), (8, .v (.int .i64 l.length)), (9, .v (.bool false))], h) := by
  intro m
  induction m with
  | zero =>
    intro k out hk _
    obtain rfl : k = l.length := by omega
    have q : decide ((l.length : Int) < (l.length : Int)) = false := by simp
    rw [loop_eq, List.drop_length]
    simp only [go_sem, l43x0, b43, Tryz.f43, q, nameT, List.append_nil]
    all_goals rfl
  | succ m ih =>
    intro k out hk ho
    have hlt : k < l.length := by omega
    have hg : l[k]? = some l[k] := List.getElem?_eq_getElem hlt
    have hd : l.drop k = l[k] :: l.drop (k + 1) := List.drop_eq_getElem_cons hlt
    have hx := hs l[k] (List.getElem_mem hlt)
    have q : decide ((k : Int) < (l.length : Int)) = true := by simp; omega
    have w1 : IntKind.i64.wrap ((k : Int) + 1) = ((k + 1 : Nat) : Int) := wrap_succ (by omega)
    rw [hd, nameT_cons]
    generalize l[k] = x at *
    have hx2 := scal_in x
    rw [hx] at hx2
    have hcl := nameC_len x
    have hel := enc_len (scal x)
    have er : evCode ⟨Tryz.prog, E, lo, h.length, h43⟩ loopW l43x0 ([(3, .v (.string (bs out))), (6, .list .no (ri .i32 l)), (7, .v (.int .i64 l.length)), (8, .v (.int .i64 k))], h) = some (.normal, [(3, .v (.string (bs (out ++ nameC x)))), (6, .list .no (ri .i32 l)), (7, .v (.int .i64 l.length)), (8, .v (.int .i64 (k + 1 : Nat)))], h) := by
      have k107 := fun lo h => f107 (lo := lo) (h := h) (c := x)
      have k75 := fun lo h => f75 (lo := lo) (h := h) (c := x)
      have k82 := fun lo h => f82 (lo := lo) (h := h) (x := x)
      unfold nameC
      cases qh : hidT x with
      | true =>
        rw [qh] at k107
        have k105 := fun lo hlo => f105 (lo := lo) (h := h) hlo (x := x) (hid_pos qh) (by omega)
        have ka := k105 lo hlo; have kb := k105 h.length (Nat.le_refl _)
        have z1 : (bs out).size + (bs (codeT x)).size ≤ 9223372036854775807 := by rw [bs_size, bs_size]; have := codeT_len x; omega
        simp only [go_sem, l43x0, b43, Tryz.f43, q, hg, w1, k107, ka, kb, bs_app, z1, if_true]
        all_goals rfl
      | false =>
        rw [qh] at k107
        cases ql : ltr x with
        | true =>
          rw [ql] at k75
          have z1 : (bs out).size + (bs (enc (scal x))).size ≤ 9223372036854775807 := by rw [bs_size, bs_size]; omega
          simp only [go_sem, l43x0, b43, Tryz.f43, q, hg, w1, k107, k75, k82, bs_app, z1, if_true, Bool.false_eq_true, if_false]
          all_goals rfl
        | false =>
          rw [ql] at k75
          have z1 : (bs [92]).size + (bs (enc (scal x))).size ≤ 9223372036854775807 := by rw [bs_size, bs_size]; simp; omega
          have z2 : (bs out).size + (bs (92 :: enc (scal x))).size ≤ 9223372036854775807 := by rw [bs_size, bs_size]; simp; omega
          simp only [go_sem, l43x0, b43, Tryz.f43, q, hg, w1, k107, k75, k82, bs_92, bs_app, z1, z2, List.singleton_append, Bool.false_eq_true, if_false]
          all_goals rfl
    rw [loop_eq, er, loop_n, ih (k + 1) _ (by omega) (by simp; omega), List.append_assoc]
/-- jalousieref4.letters -/
theorem f43 (hlo : lo ≤ h.length) {l : List Int} (hl : l.length ≤ 10000000) (hs : ∀ x ∈ l, scal x = x) : E lo 43 [.list .no (ri .i32 l)] h = some (.v (.string (bs (nameT l))), h) := by
  have hL := loop43 (lo := lo) (h := h) hlo hl hs l.length 0 [] (by omega) (by simp; omega)
  have n0 : ((0 : Nat) : Int) = 0 := rfl
  have be : bs [] = (⟨#[]⟩ : ByteArray) := rfl
  rw [List.drop_zero, List.nil_append, be, n0] at hL
  simp only [l43x0, b43, Tryz.f43, loopAt, loops, bodyOf, go_sem] at hL
  rw [e43 (by simp) (by rfl)]
  simp only [go_sem, b43, Tryz.f43, hL]
  all_goals rfl
end
end Go.Lift.R4
end

section
/- A character as a string; is a character among some signs? -/
open Go.Proofs
namespace Go.Lift.R4
set_option linter.unusedSectionVars false
variable [MX]
open Utf Tok Spell
set_option maxRecDepth 20000
set_option maxHeartbeats 4000000
set_option linter.unusedSimpArgs false
set_option linter.unusedVariables false

/-- string(x) of a character -/
theorem enc_utf {x : Int} (hs : scal x = x) : Utf8.encode x = bs (enc x) := by
  obtain ⟨h0, h1, h2⟩ := (scal_iff x).1 hs
  obtain ⟨n, rfl⟩ : ∃ n : Nat, x = n := ⟨x.toNat, by omega⟩
  have hv : Utf8.valid (n : Int) = true := by simp [Utf8.valid]; omega
  have hn : ((n : Int)).toNat = n := by omega
  unfold Utf8.encode enc
  simp only [hv, hn, if_true]
  by_cases c1 : n < 128
  · rw [if_pos c1, if_pos (show (n : Int) < 128 by omega)]
    rfl
  rw [if_neg c1, if_neg (show ¬ (n : Int) < 128 by omega)]
  by_cases c2 : n < 2048
  · rw [if_pos c2, if_pos (show (n : Int) < 2048 by omega)]
    show _ = (⟨#[UInt8.ofNat (192 + (n : Int) / 64).toNat, UInt8.ofNat (128 + (n : Int) % 64).toNat]⟩ : ByteArray)
    rw [show (192 + (n : Int) / 64).toNat = 192 + n / 64 by omega, show (128 + (n : Int) % 64).toNat = 128 + n % 64 by omega]
  rw [if_neg c2, if_neg (show ¬ (n : Int) < 2048 by omega)]
  by_cases c3 : n < 65536
  · rw [if_pos c3, if_pos (show (n : Int) < 65536 by omega)]
    show _ = (⟨#[UInt8.ofNat (224 + (n : Int) / 4096).toNat, UInt8.ofNat (128 + (n : Int) / 64 % 64).toNat, UInt8.ofNat (128 + (n : Int) % 64).toNat]⟩ : ByteArray)
    rw [show (224 + (n : Int) / 4096).toNat = 224 + n / 4096 by omega, show (128 + (n : Int) / 64 % 64).toNat = 128 + n / 64 % 64 by omega, show (128 + (n : Int) % 64).toNat = 128 + n % 64 by omega]
  · rw [if_neg c3, if_neg (show ¬ (n : Int) < 65536 by omega)]
    show _ = (⟨#[UInt8.ofNat (240 + (n : Int) / 262144).toNat, UInt8.ofNat (128 + (n : Int) / 4096 % 64).toNat, UInt8.ofNat (128 + (n : Int) / 64 % 64).toNat, UInt8.ofNat (128 + (n : Int) % 64).toNat]⟩ : ByteArray)
    rw [show (240 + (n : Int) / 262144).toNat = 240 + n / 262144 by omega, show (128 + (n : Int) / 4096 % 64).toNat = 128 + n / 4096 % 64 by omega, show (128 + (n : Int) / 64 % 64).toNat = 128 + n / 64 % 64 by omega, show (128 + (n : Int) % 64).toNat = 128 + n % 64 by omega]
theorem index_none {c : UInt8} {r : List UInt8} : ∀ {s : List UInt8}, (∀ x ∈ s, x ≠ c) → Go.Lib.index s (c :: r) = -1
  | [], _ => rfl
  | b :: l, h => by
    have hb : (c == b) = false := by
      have := h b (by simp)
      simp
      exact fun e => this e.symm
    unfold Go.Lib.index
    rw [index_none fun x hx => h x (by simp [hx])]
    simp [List.isPrefixOf, hb]
section
variable {lo : Nat} {h : Heap}
theorem f92x {l : List Int} (hy : ∀ c ∈ l, 0 ≤ c ∧ c < 128) (hl : l.length ≤ 1000000) {x : Int} (hs : scal x = x) :
    E lo 92 [.v (.string (bs l)), .v (.string (bs (enc x)))] h = some (.v (.bool (l.contains x)), h) := by
  obtain ⟨h0, h1, _⟩ := (scal_iff x).1 hs
  have hby : By l := fun c hc => by have := hy c hc; omega
  by_cases hx : x < 128
  · rw [enc_low hx]
    exact f92 hby (by omega) (by omega)
  · obtain ⟨c, t, e, ht, hh⟩ := enc_high (x := x) (by omega) h1
    have hb := enc_by x h0 h1
    rw [e] at hh hb ⊢
    have hc := hh c (by simp)
    have hc2 := hb c (by simp)
    have hn : l.contains x = false := by
      rw [Bool.eq_false_iff]
      intro hcon
      have := hy x (by simpa using hcon)
      omega
    obtain ⟨d, u, rfl⟩ : ∃ d u, t = d :: u := by
      cases t with
      | nil => exact absurd rfl ht
      | cons d u => exact ⟨d, u, rfl⟩
    have hix : Go.Lib.index (bs l).data.toList (bs (c :: d :: u)).data.toList = -1 := by
      show Go.Lib.index (u8s l) (UInt8.ofNat c.toNat :: u8s (d :: u)) = -1
      refine index_none fun y hy2 => ?_
      simp only [u8s, List.mem_map] at hy2
      obtain ⟨z, hz, rfl⟩ := hy2
      have := hy z hz
      intro he
      have := congrArg UInt8.toNat he
      simp only [UInt8.toNat_ofNat'] at this
      omega
    have k159 : ∀ lo h, E lo 159 [.v (.string (bs l)), .v (.string (bs (c :: d :: u)))] h = some (.v (.int .i64 (-1)), h) := fun lo h => by
      show ev Tryz.prog hints primz lo 159 _ h = _
      rw [ev_prim (p := ixP) rfl]
      unfold ixP
      have e2 : (bs (c :: d :: u)).data.toList = UInt8.ofNat c.toNat :: UInt8.ofNat d.toNat :: u8s u := rfl
      simp only [hix]
      rw [e2]
      simp only
      rw [if_pos (by rw [bs_size]; omega)]
    have k127 : ∀ lo h, E lo 127 [.v (.string (bs l)), .v (.string (bs (c :: d :: u)))] h = some (.v (.int .i64 (-1)), h) := fun lo h => by
      rw [e127 (by simp) (by rfl)]
      simp only [go_sem, b127, Tryz.f127, k159]
      all_goals rfl
    have q : decide ((0 : Int) ≤ -1) = false := rfl
    rw [e92 (by simp) (by rfl), hn]
    simp only [go_sem, b92, Tryz.f92, k127, q]
    all_goals rfl
end
end Go.Lift.R4
end

section
/- spell.text. -/
open Go.Proofs
namespace Go.Lift.R4
set_option linter.unusedSectionVars false
variable [MX]
open Utf Tok Spell
set_option maxRecDepth 20000
set_option maxHeartbeats 4000000
set_option linter.unusedSimpArgs false
set_option linter.unusedVariables false

section
variable {lo : Nat} {h : Heap} {done : List Int} {p0 : V} {out sg : List Int} {sp : Bool} {x : Int} {s : ByteArray} {pos : Nat}
abbrev N35 (h : Heap) (sg : List Int) (sp : Bool) : Env := [(1, .v (.string (bs sg))), (2, .v (.bool sp)), (7, .ptr h.length 0), (11, .ptr (h.length + 1) 0)]
theorem round35 (hlo : lo ≤ h.length) (hp : okP h.length p0 = true) (hsg : ∀ c ∈ sg, 0 ≤ c ∧ c < 128) (hsl : sg.length ≤ 1000000) (hs : scal x = x) (hpos : pos < s.size) (hdec : Utf8.decode s pos = (x.toNat, (enc (scal x)).length)) (hl : out.length ≤ 900000000) :
    evCode ⟨Tryz.prog, E, lo, h.length, h35⟩ loopW l35x0 (N35 h sg sp, H34 h p0 out s pos) =
      some (.normal, N35 h sg sp, H34 h (.ptr h.length 0) (out ++ textC sg sp x) s (pos + (enc (scal x)).length)) := by
  obtain ⟨hx0, hx1, _⟩ := (scal_iff x).1 hs
  have hlo1 : lo ≤ h.length + 1 := by omega
  have hxn : ((x.toNat : Nat) : Int) = x := by omega
  have hcl := codeT_len x
  have hel := enc_len (scal x)
  have c87 := fun lo hlo => f87 (lo := lo) (h := H34 h p0 out s (pos + (enc (scal x)).length)) hlo hx0 (r := x) (by omega)
  have c87a := c87 lo (by simp; omega)
  have c87b := c87 h.length (by simp)
  have c87c := c87 (h.length + 2) (by simp)
  have c48 := fun lo hlo => f48 (lo := lo) (p := h) (q := [.iter s (pos + (enc (scal x)).length)]) (p0 := p0) (out := out) hlo hp (s := codeT x) (codeT_by x) (by omega) (by omega)
  have c90 := fun lo hlo => f90 (lo := lo) (p := h) (q := [.iter s (pos + (enc (scal x)).length)]) (p0 := p0) (out := out) hlo hp (r := x) (by omega) (by omega) (by omega)
  have c91 := fun lo hlo => f91 (lo := lo) (p := h) (q := [.iter s (pos + (enc (scal x)).length)]) (p0 := p0) (out := out) hlo hp (c := 92) (by omega)
  have c92 := fun lo hlo => f90 (lo := lo) (p := h) (q := [.iter s (pos + (enc (scal x)).length)]) (p0 := .ptr h.length 0) (out := out ++ [92]) hlo ok_self (r := x) (by omega) (by omega) (by simp; omega)
  have c48a := c48 lo hlo; have c48b := c48 h.length (Nat.le_refl _)
  have c90a := c90 lo hlo; have c90b := c90 h.length (Nat.le_refl _)
  have c91a := c91 lo hlo; have c91b := c91 h.length (Nat.le_refl _)
  have c92a := c92 lo hlo; have c92b := c92 h.length (Nat.le_refl _)
  clear c87 c48 c90 c91 c92
  have e1 : (Utf8.decode s pos).1 = x.toNat := by rw [hdec]
  have e2 : (Utf8.decode s pos).2 = (enc (scal x)).length := by rw [hdec]
  have eu : Utf8.encode x = bs (enc (scal x)) := by rw [enc_utf hs, hs]
  have k88 := fun lo h => f88 (lo := lo) (h := h) (c := x)
  have k92 := fun lo h => f92x (lo := lo) (h := h) hsg hsl hs
  have e3 : out ++ [92] ++ enc (scal x) = out ++ 92 :: enc (scal x) := by simp
  rw [e3] at c92a c92b
  have hsx := hs
  rw [← hs] at k92
  rw [hs] at k92
  have ks : ∀ lo h, E lo 92 [.v (.string (bs sg)), .v (.string (bs (enc (scal x))))] h = some (.v (.bool (sg.contains x)), h) := fun lo h => by
    have := k92 lo h
    rw [hs]
    exact this
  clear k92
  unfold textC
  cases qh : hidT x with
  | true =>
    rw [qh] at k88
    simp only [go_sem, l35x0, b35, Tryz.f35, hlo, hlo1, hpos, e1, e2, hxn, k88, c87a, c87b, c87c, c48a, c48b, if_true]
    all_goals rfl
  | false =>
    rw [qh] at k88
    cases sp with
    | true =>
      cases q32 : (x == 32) with
      | true =>
        simp only [go_sem, l35x0, b35, Tryz.f35, hlo, hlo1, hpos, e1, e2, hxn, k88, q32, c87a, c87b, c87c, c48a, c48b, if_true]
        all_goals rfl
      | false =>
        cases qc : sg.contains x with
        | true =>
          rw [qc] at ks
          simp only [go_sem, l35x0, b35, Tryz.f35, hlo, hlo1, hpos, e1, e2, hxn, k88, q32, eu, ks, c91a, c91b, c92a, c92b, if_true, Bool.false_eq_true, if_false]
          all_goals rfl
        | false =>
          rw [qc] at ks
          simp only [go_sem, l35x0, b35, Tryz.f35, hlo, hlo1, hpos, e1, e2, hxn, k88, q32, eu, ks, c90a, c90b, if_true, Bool.false_eq_true, if_false]
          all_goals rfl
    | false =>
      cases qc : sg.contains x with
      | true =>
        rw [qc] at ks
        simp only [go_sem, l35x0, b35, Tryz.f35, hlo, hlo1, hpos, e1, e2, hxn, k88, eu, ks, c91a, c91b, c92a, c92b, if_true, Bool.false_eq_true, if_false]
        all_goals rfl
      | false =>
        rw [qc] at ks
        simp only [go_sem, l35x0, b35, Tryz.f35, hlo, hlo1, hpos, e1, e2, hxn, k88, eu, ks, c90a, c90b, if_true, Bool.false_eq_true, if_false]
        all_goals rfl
theorem stop35 (hlo : lo ≤ h.length) (hpos : ¬ pos < s.size) :
    loopW (evCode ⟨Tryz.prog, E, lo, h.length, h35⟩ loopW l35x0) (N35 h sg sp, H34 h p0 out s pos) =
      some (.exit 0, N35 h sg sp ++ [(12, .tup [.v (.bool false)]), (13, .v (.bool false))], H34 h p0 out s pos) := by
  have hlo1 : lo ≤ h.length + 1 := by omega
  rw [loop_eq]
  simp only [go_sem, l35x0, b35, Tryz.f35, hlo, hlo1, hpos]
  all_goals rfl
theorem loop35 (hlo : lo ≤ h.length) (hsg : ∀ c ∈ sg, 0 ≤ c ∧ c < 128) (hsl : sg.length ≤ 1000000) : ∀ (l : List Int) (done : List Int) (p0 : V) (out : List Int), (∀ x ∈ l, scal x = x) → okP h.length p0 = true → out.length + 10 * l.length ≤ 900000000 →
    ∃ p1, okP h.length p1 = true ∧ loopW (evCode ⟨Tryz.prog, E, lo, h.length, h35⟩ loopW l35x0) (N35 h sg sp, H34 h p0 out (bs (done ++ encs l)) done.length) =
      some (.exit 0, N35 h sg sp ++ [(12, .tup [.v (.bool false)]), (13, .v (.bool false))], H34 h p1 (out ++ textT sg sp l) (bs (done ++ encs l)) (done ++ encs l).length) := by
  intro l
  induction l with
  | nil =>
    intro done p0 out _ hp _
    refine ⟨p0, hp, ?_⟩
    have e : done ++ encs [] = done := by simp [encs]
    rw [e, stop35 hlo (by rw [bs_size]; omega)]
    simp [textT]
  | cons x l ih =>
    intro done p0 out hs hp hl
    have hx := hs x (by simp)
    have hel := enc_len x
    have hcl := textC_len sg sp x
    have hdec := dec_enc (pre := done) (rest := encs l) hx
    have e1 : encs (x :: l) = enc x ++ encs l := by rw [encs_cons, hx]
    simp only [List.length_cons] at hl
    obtain ⟨p1, hp1, hL⟩ := ih (done ++ enc x) (.ptr h.length 0) (out ++ textC sg sp x) (fun y hy => hs y (by simp [hy])) ok_self (by simp; omega)
    refine ⟨p1, hp1, ?_⟩
    rw [e1, ← List.append_assoc]
    rw [← List.append_assoc] at hdec
    rw [loop_eq, round35 hlo hp hsg hsl hx (by rw [bs_size]; simp; omega) (by rw [hdec, hx]) (by omega), loop_n, hx]
    have e3 : done.length + (enc x).length = (done ++ enc x).length := by simp
    have e4 : textT sg sp (x :: l) = textC sg sp x ++ textT sg sp l := rfl
    rw [e3, hL, e4, List.append_assoc]
/-- jalousie/spell.text -/
theorem f35 (hlo : lo ≤ h.length) (hsg : ∀ c ∈ sg, 0 ≤ c ∧ c < 128) (hsl : sg.length ≤ 1000000) {l : List Int} (hs : ∀ x ∈ l, scal x = x) (hl : l.length ≤ 10000000) :
    E lo 35 [.v (.string (bs (encs l))), .v (.string (bs sg)), .v (.bool sp)] h = some (.v (.string (bs (textT sg sp l))), h) := by
  have hlen := textT_len sg sp l
  obtain ⟨p1, hp1, hL⟩ := loop35 (lo := lo) (h := h) (sp := sp) hlo hsg hsl l [] (.v (.pointer none)) [] hs rfl (by simp; omega)
  rw [List.nil_append, List.nil_append, List.length_nil] at hL
  have k := fun lo hlo => f49 (lo := lo) (p := h) (q := [.iter (bs (encs l)) (encs l).length]) (p0 := p1) (out := textT sg sp l) hlo (textT_by sg sp l) (by omega)
  have ka := k lo hlo; have kb := k h.length (Nat.le_refl _)
  simp only [l35x0, b35, Tryz.f35, loopAt, loops, bodyOf, go_sem, ri_nil, H34, N35, List.cons_append, List.nil_append] at hL
  rw [e35 (by simp) (by rfl)]
  simp only [go_sem, b35, Tryz.f35, hlo, hL, ka, kb]
  all_goals rfl
end
end Go.Lift.R4
end
