/- spell.unit, jalousieref4.unit. -/
import Derived.Test.YtehffjejplpaeaaDoorGKc
import Derived.Test.YtehffjejplpaeaaDoorGKd
import Derived.Test.YtehffjejplpaeaaDoorGKe
set_option linter.unusedVariables false
set_option linter.unusedSimpArgs false
set_option linter.unusedSectionVars false
section
open Go.Proofs
namespace Go.Lift.D7
variable [MX]
open Utf Tok Spell
set_option maxRecDepth 20000
set_option maxHeartbeats 4000000
section
variable {lo : Nat} {h : Heap} {l : List Int}
def trim45 (b : List Int) : List Int := if hd45 b = true then b.drop 1 else b
theorem f79 {b : List Int} (hy : By b) (hl : b.length ≤ 1000000000) : E lo 79 [.v (.string (bs b)), .v (.string (bs [45]))] h = some (.v (.string (bs (trim45 b))), h) := by
 have k := fun lo h => f68 (lo := lo) (h := h) hy hl
 have s1 : (bs [45]).size = 1 := bs_size [45]
 have n1 : ((1 : Nat) : Int) = 1 := rfl
 have sz := bs_size b
 unfold trim45
 rw [e79 (by simp) (by rfl)]
 cases q : hd45 b with
 | false =>
  rw [q] at k
  simp only [go_sem, b79, Tryd.f79, k, Bool.false_eq_true, if_false]
  all_goals rfl
 | true =>
  rw [q] at k
  have p2 : 1 ≤ b.length := by
   cases b with
   | nil => cases q
   | cons c t => simp
  have ed : ((b.take b.length).drop 1) = b.drop 1 := by rw [List.take_length]
  simp only [go_sem, b79, Tryd.f79, k, s1, n1, sz, p2, bs_ext, ed, Nat.le_refl, if_true]
  all_goals rfl
theorem f63 {b : List Int} (hy : By b) (hl : b.length ≤ 1000000000) : E lo 63 [.v (.string (bs b)), .v (.string (bs [45]))] h = some (.v (.string (bs (trim45 b))), h) := by
 have k := fun lo h => f79 (lo := lo) (h := h) hy hl
 rw [e63 (by simp) (by rfl)]
 simp only [go_sem, b63, Tryd.f63, k]
 all_goals rfl
def dg0 : List Int → Bool
 | [] => false
 | c :: _ => dig c
theorem dg_trim (b : List Int) : dg0 (trim45 b) = expT b := by
 cases b with
 | nil => rfl
 | cons y u =>
  by_cases hy : y = 45
  ·subst hy
   cases u with
   | nil => rfl
   | cons z v => rfl
  ·have q : (y == 45) = false := by simp [hy]
   have e1 : trim45 (y :: u) = y :: u := by show (if (y == 45) = true then (y :: u).drop 1 else y :: u) = y :: u; simp only [q, Bool.false_eq_true, if_false]
   rw [e1]
   unfold expT dg0
   simp only
   rw [q, Bool.false_and, Bool.or_false]
theorem trim_by {b : List Int} (hy : By b) : By (trim45 b) := by
 unfold trim45
 split
 ·exact fun c hc => hy c (List.mem_of_mem_drop hc)
 ·exact hy
theorem f46 (hlo : lo ≤ h.length) (hs : ∀ x ∈ l, scal x = x) (hn : l ≠ []) (hl : l.length ≤ 10000000) : E lo 46 [.v (.string (bs (encs l)))] h = some (.v (.string (bs (unitT l))), h) := by
 obtain ⟨x, t, rfl⟩ : ∃ x t, l = x :: t := by
  cases l with
  | nil => exact absurd rfl hn
  | cons x t => exact ⟨x, t, rfl⟩
 have hby := encs_by (x :: t)
 have hel := encs_len (x :: t)
 have k33 := fun lo hlo => f42 (lo := lo) (h := h) hlo hs hl
 have k33a := k33 lo hlo; have k33b := k33 h.length (Nat.le_refl _)
 clear k33
 have sz := bs_size (encs (x :: t))
 have hx := scal_in x
 rw [hs x (by simp)] at hx
 have hst : ∀ y ∈ t, scal y = y := fun y hy => hs y (by simp [hy])
 obtain ⟨c, tc, ec, hc0, hc1, hcx⟩ := first_byte hx.1 hx.2
 have eB : encs (x :: t) = c :: (tc ++ encs t) := by rw [encs_cons, hs x (by simp), ec]; rfl
 have i0 := bs_ix hby 0
 have g0 : (encs (x :: t))[0]? = some c := by rw [eB]; rfl
 rw [g0] at i0
 have wc := wrap_i32 hc0 hc1
 simp only [List.length_cons] at hl
 rw [e46 (by simp) (by rfl)]
 have main : ∀ (m : Int), (m = 101 ∨ m = 69) → c = m →
   E lo 46 [.v (.string (bs (encs (x :: t))))] h = some (.v (.string (bs (unitT (x :: t)))), h) := fun m hm hcm => by
  obtain ⟨hx128, rfl, rfl⟩ : x < 128 ∧ c = x ∧ tc = [] := by
   rcases hcx with h | ⟨_, h⟩
   ·exact h
   ·omega
  rw [List.nil_append] at eB
  have hbt := encs_by t
  have k99 := fun lo h => f63 (lo := lo) (h := h) hbt (by have := encs_len t; omega)
  have hT := trim_by hbt
  have hdg := dg_trim (encs t)
  rw [exp_encs t hst] at hdg
  have hTl : (trim45 (encs t)).length ≤ 1000000000 := by
   have := encs_len t
   unfold trim45
   split
   ·rw [List.length_drop]; omega
   ·omega
  have t1 := bs_nil_eq' (trim45 (encs t))
  have szT := bs_size (trim45 (encs t))
  have iT := bs_ix hT 0
  have k87 := fun lo hlo => f52 (lo := lo) (h := h) hlo (r := c) hx.1 (by omega)
  have k87a := k87 lo hlo; have k87b := k87 h.length (Nat.le_refl _)
  have kt := fun lo hlo => f43 (lo := lo) (h := h) hlo (l := t) hst (by omega)
  have kta := kt lo hlo; have ktb := kt h.length (Nat.le_refl _)
  have p2 : 1 ≤ (encs (c :: t)).length := by rw [eB]; simp
  have ed : (encs (c :: t)).drop 1 = encs t := by rw [eB]; rfl
  have et : (encs (c :: t)).take (encs (c :: t)).length = encs (c :: t) := List.take_length
  have z2 : (bs (codeT c)).size + (bs (nameT t)).size ≤ 9223372036854775807 := by rw [bs_size, bs_size]; have := codeT_len c; have := nameT_len t; omega
  have eu : unitT (c :: t) = if ((c == 101 || c == 69) && expT t) = true then codeT c ++ nameT t else identT (c :: t) := rfl
  have ec2 : (c == 101 || c == 69) = true := by rcases hm with rfl | rfl <;> subst hcm <;> rfl
  rw [ec2, Bool.true_and] at eu
  rw [eu]
  clear eB g0 eu
  generalize encs (c :: t) = B at *
  generalize trim45 (encs t) = T at *
  rw [e46 (by simp) (by rfl)]
  cases T with
  | nil =>
   have hx0 : expT t = false := hdg.symm
   rw [hx0, if_neg (by simp)]
   rw [decide_eq_true rfl] at t1
   rcases hm with rfl | rfl <;> subst hcm <;>
   simp only [go_sem, b46, Tryd.f46, Int.reduceBEq, sz, i0, p2, Nat.le_refl, bs_ext, bs_45', et, ed, k99, t1, k33a, k33b] <;> rfl
  | cons z v =>
   rw [decide_eq_false (by simp)] at t1
   have hz := hT z (by simp)
   have wz := wrap_i32 hz.1 hz.2
   have gz : (z :: v)[0]? = some z := rfl
   rw [gz] at iT
   have k86 := fun lo h => dig86 (lo := lo) (h := h) (c := z)
   have hdz : dig z = expT t := hdg
   rw [hdz] at k86
   clear gz hdg hdz hT
   generalize z :: v = T at *
   cases qe : expT t with
   | true =>
    rw [qe] at k86
    rw [if_pos rfl]
    rcases hm with rfl | rfl <;> subst hcm <;>
    simp only [go_sem, b46, Tryd.f46, Int.reduceBEq, sz, szT, i0, iT, p2, Nat.le_refl, bs_ext, bs_45', et, ed, k99, t1, wz, wc, k86, k87a, k87b, kta, ktb, bs_app, z2] <;> rfl
   | false =>
    rw [qe] at k86
    rw [if_neg (by simp)]
    rcases hm with rfl | rfl <;> subst hcm <;>
    simp only [go_sem, b46, Tryd.f46, Int.reduceBEq, sz, szT, i0, iT, p2, Nat.le_refl, bs_ext, bs_45', et, ed, k99, t1, wz, k86, k33a, k33b] <;> rfl
 rw [← e46 (by simp) (by rfl)]
 by_cases h1 : c = 101
 ·exact main 101 (.inl rfl) h1
 by_cases h2 : c = 69
 ·exact main 69 (.inr rfl) h2
 have q1 : (c == 101) = false := by simp [h1]
 have q2 : (c == 69) = false := by simp [h2]
 have hx2 : (x == 101 || x == 69) = false := by
  rcases hcx with ⟨_, rfl, _⟩ | ⟨h3, _⟩
  ·simp [h1, h2]
  ·simp; omega
 have eu : unitT (x :: t) = identT (x :: t) := by
  show (if ((x == 101 || x == 69) && expT t) = true then codeT x ++ nameT t else identT (x :: t)) = _
  rw [hx2]; rfl
 rw [eu, e46 (by simp) (by rfl)]
 clear eB g0
 generalize encs (x :: t) = B at *
 simp only [go_sem, b46, Tryd.f46, sz, i0, q1, q2, k33a, k33b]
 all_goals rfl
end
end Go.Lift.D7
end

section
open Go.Proofs
namespace Go.Lift.D7
variable [MX]
open Utf Tok Spell
set_option maxRecDepth 20000
set_option maxHeartbeats 4000000
section
variable {lo : Nat} {h : Heap} {k : Int}
abbrev A38 : List V := [.v (.int .i64 13), .v (.int .i64 16), .v (.int .i64 17), .v (.int .i64 18), .v (.int .i64 19), .v (.int .i64 20), .v (.int .i64 21), .v (.int .i64 22), .v (.int .i64 23), .v (.int .i64 24)]
abbrev K38 : List Int := [13, 16, 17, 18, 19, 20, 21, 22, 23, 24]
abbrev S38 : List Int := [32, 58, 59, 44, 91, 93, 40, 41, 123, 125]
abbrev N38 (k : Int) (j : Int) : Env := [(0, .v (.int .i64 k)), (16, .agg A38), (17, .v (.int .i64 j))]
theorem bs_s38 : (⟨#[32, 58, 59, 44, 91, 93, 40, 41, 123, 125]⟩ : ByteArray) = bs S38 := rfl
theorem round47 (hlo : lo ≤ h.length) (j : Fin 10) :
  evCode ⟨Tryd.prog, E, lo, h.length, h47⟩ loopW l47x0 (N38 k (j.val : Int), h ++ [.cells A38]) =
   if (K38[j.val] == k) = true then some (.ret, [(2, .v (.string (bs [S38[j.val]])))], h ++ [.cells A38]) else some (.normal, N38 k ((j.val : Int) + 1), h ++ [.cells A38]) := by
 have sz : (bs S38).size = 10 := bs_size S38
 have hl : S38.length = 10 := rfl
 have n10 : ((10 : Nat) : Int) = 10 := rfl
 rcases j with ⟨j, hj⟩
 simp only
 have hc : j = 0 ∨ j = 1 ∨ j = 2 ∨ j = 3 ∨ j = 4 ∨ j = 5 ∨ j = 6 ∨ j = 7 ∨ j = 8 ∨ j = 9 := by omega
 rcases hc with rfl | rfl | rfl | rfl | rfl | rfl | rfl | rfl | rfl | rfl
 ·have w1 : IntKind.i64.wrap (0 + 1) = 1 := rfl
  have n0 : ((0 : Nat) : Int) = 0 := rfl
  have ed : ((S38.take 1).drop 0) = [32] := rfl
  show _ = if ((13 : Int) == k) = true then some (Ex.ret, [(2, V.v (.string (bs [32])))], _) else some (Ex.normal, N38 k 1, _)
  rw [n0]
  cases q : ((13 : Int) == k) with
  | true =>
   simp only [go_sem, l47x0, b47, Tryd.f47, Int.reduceLT, Int.reduceLE, Int.reduceToNat, Nat.reduceLeDiff, decide_true, if_true, n10, hl, q, w1, bs_s38, bs_ext, ed]
   all_goals rfl
  | false =>
   simp only [go_sem, l47x0, b47, Tryd.f47, Int.reduceLT, Int.reduceToNat, decide_true, if_true, n10, q, w1, Bool.false_eq_true, if_false]
   all_goals rfl
 ·have w1 : IntKind.i64.wrap (1 + 1) = 2 := rfl
  have n0 : ((1 : Nat) : Int) = 1 := rfl
  have ed : ((S38.take 2).drop 1) = [58] := rfl
  show _ = if ((16 : Int) == k) = true then some (Ex.ret, [(2, V.v (.string (bs [58])))], _) else some (Ex.normal, N38 k 2, _)
  rw [n0]
  cases q : ((16 : Int) == k) with
  | true =>
   simp only [go_sem, l47x0, b47, Tryd.f47, Int.reduceLT, Int.reduceLE, Int.reduceToNat, Nat.reduceLeDiff, decide_true, if_true, n10, hl, q, w1, bs_s38, bs_ext, ed]
   all_goals rfl
  | false =>
   simp only [go_sem, l47x0, b47, Tryd.f47, Int.reduceLT, Int.reduceToNat, decide_true, if_true, n10, q, w1, Bool.false_eq_true, if_false]
   all_goals rfl
 ·have w1 : IntKind.i64.wrap (2 + 1) = 3 := rfl
  have n0 : ((2 : Nat) : Int) = 2 := rfl
  have ed : ((S38.take 3).drop 2) = [59] := rfl
  show _ = if ((17 : Int) == k) = true then some (Ex.ret, [(2, V.v (.string (bs [59])))], _) else some (Ex.normal, N38 k 3, _)
  rw [n0]
  cases q : ((17 : Int) == k) with
  | true =>
   simp only [go_sem, l47x0, b47, Tryd.f47, Int.reduceLT, Int.reduceLE, Int.reduceToNat, Nat.reduceLeDiff, decide_true, if_true, n10, hl, q, w1, bs_s38, bs_ext, ed]
   all_goals rfl
  | false =>
   simp only [go_sem, l47x0, b47, Tryd.f47, Int.reduceLT, Int.reduceToNat, decide_true, if_true, n10, q, w1, Bool.false_eq_true, if_false]
   all_goals rfl
 ·have w1 : IntKind.i64.wrap (3 + 1) = 4 := rfl
  have n0 : ((3 : Nat) : Int) = 3 := rfl
  have ed : ((S38.take 4).drop 3) = [44] := rfl
  show _ = if ((18 : Int) == k) = true then some (Ex.ret, [(2, V.v (.string (bs [44])))], _) else some (Ex.normal, N38 k 4, _)
  rw [n0]
  cases q : ((18 : Int) == k) with
  | true =>
   simp only [go_sem, l47x0, b47, Tryd.f47, Int.reduceLT, Int.reduceLE, Int.reduceToNat, Nat.reduceLeDiff, decide_true, if_true, n10, hl, q, w1, bs_s38, bs_ext, ed]
   all_goals rfl
  | false =>
   simp only [go_sem, l47x0, b47, Tryd.f47, Int.reduceLT, Int.reduceToNat, decide_true, if_true, n10, q, w1, Bool.false_eq_true, if_false]
   all_goals rfl
 ·have w1 : IntKind.i64.wrap (4 + 1) = 5 := rfl
  have n0 : ((4 : Nat) : Int) = 4 := rfl
  have ed : ((S38.take 5).drop 4) = [91] := rfl
  show _ = if ((19 : Int) == k) = true then some (Ex.ret, [(2, V.v (.string (bs [91])))], _) else some (Ex.normal, N38 k 5, _)
  rw [n0]
  cases q : ((19 : Int) == k) with
  | true =>
   simp only [go_sem, l47x0, b47, Tryd.f47, Int.reduceLT, Int.reduceLE, Int.reduceToNat, Nat.reduceLeDiff, decide_true, if_true, n10, hl, q, w1, bs_s38, bs_ext, ed]
   all_goals rfl
  | false =>
   simp only [go_sem, l47x0, b47, Tryd.f47, Int.reduceLT, Int.reduceToNat, decide_true, if_true, n10, q, w1, Bool.false_eq_true, if_false]
   all_goals rfl
 ·have w1 : IntKind.i64.wrap (5 + 1) = 6 := rfl
  have n0 : ((5 : Nat) : Int) = 5 := rfl
  have ed : ((S38.take 6).drop 5) = [93] := rfl
  show _ = if ((20 : Int) == k) = true then some (Ex.ret, [(2, V.v (.string (bs [93])))], _) else some (Ex.normal, N38 k 6, _)
  rw [n0]
  cases q : ((20 : Int) == k) with
  | true =>
   simp only [go_sem, l47x0, b47, Tryd.f47, Int.reduceLT, Int.reduceLE, Int.reduceToNat, Nat.reduceLeDiff, decide_true, if_true, n10, hl, q, w1, bs_s38, bs_ext, ed]
   all_goals rfl
  | false =>
   simp only [go_sem, l47x0, b47, Tryd.f47, Int.reduceLT, Int.reduceToNat, decide_true, if_true, n10, q, w1, Bool.false_eq_true, if_false]
   all_goals rfl
 ·have w1 : IntKind.i64.wrap (6 + 1) = 7 := rfl
  have n0 : ((6 : Nat) : Int) = 6 := rfl
  have ed : ((S38.take 7).drop 6) = [40] := rfl
  show _ = if ((21 : Int) == k) = true then some (Ex.ret, [(2, V.v (.string (bs [40])))], _) else some (Ex.normal, N38 k 7, _)
  rw [n0]
  cases q : ((21 : Int) == k) with
  | true =>
   simp only [go_sem, l47x0, b47, Tryd.f47, Int.reduceLT, Int.reduceLE, Int.reduceToNat, Nat.reduceLeDiff, decide_true, if_true, n10, hl, q, w1, bs_s38, bs_ext, ed]
   all_goals rfl
  | false =>
   simp only [go_sem, l47x0, b47, Tryd.f47, Int.reduceLT, Int.reduceToNat, decide_true, if_true, n10, q, w1, Bool.false_eq_true, if_false]
   all_goals rfl
 ·have w1 : IntKind.i64.wrap (7 + 1) = 8 := rfl
  have n0 : ((7 : Nat) : Int) = 7 := rfl
  have ed : ((S38.take 8).drop 7) = [41] := rfl
  show _ = if ((22 : Int) == k) = true then some (Ex.ret, [(2, V.v (.string (bs [41])))], _) else some (Ex.normal, N38 k 8, _)
  rw [n0]
  cases q : ((22 : Int) == k) with
  | true =>
   simp only [go_sem, l47x0, b47, Tryd.f47, Int.reduceLT, Int.reduceLE, Int.reduceToNat, Nat.reduceLeDiff, decide_true, if_true, n10, hl, q, w1, bs_s38, bs_ext, ed]
   all_goals rfl
  | false =>
   simp only [go_sem, l47x0, b47, Tryd.f47, Int.reduceLT, Int.reduceToNat, decide_true, if_true, n10, q, w1, Bool.false_eq_true, if_false]
   all_goals rfl
 ·have w1 : IntKind.i64.wrap (8 + 1) = 9 := rfl
  have n0 : ((8 : Nat) : Int) = 8 := rfl
  have ed : ((S38.take 9).drop 8) = [123] := rfl
  show _ = if ((23 : Int) == k) = true then some (Ex.ret, [(2, V.v (.string (bs [123])))], _) else some (Ex.normal, N38 k 9, _)
  rw [n0]
  cases q : ((23 : Int) == k) with
  | true =>
   simp only [go_sem, l47x0, b47, Tryd.f47, Int.reduceLT, Int.reduceLE, Int.reduceToNat, Nat.reduceLeDiff, decide_true, if_true, n10, hl, q, w1, bs_s38, bs_ext, ed]
   all_goals rfl
  | false =>
   simp only [go_sem, l47x0, b47, Tryd.f47, Int.reduceLT, Int.reduceToNat, decide_true, if_true, n10, q, w1, Bool.false_eq_true, if_false]
   all_goals rfl
 ·have w1 : IntKind.i64.wrap (9 + 1) = 10 := rfl
  have n0 : ((9 : Nat) : Int) = 9 := rfl
  have ed : ((S38.take 10).drop 9) = [125] := rfl
  show _ = if ((24 : Int) == k) = true then some (Ex.ret, [(2, V.v (.string (bs [125])))], _) else some (Ex.normal, N38 k 10, _)
  rw [n0]
  cases q : ((24 : Int) == k) with
  | true =>
   simp only [go_sem, l47x0, b47, Tryd.f47, Int.reduceLT, Int.reduceLE, Int.reduceToNat, Nat.reduceLeDiff, decide_true, if_true, n10, hl, q, w1, bs_s38, bs_ext, ed]
   all_goals rfl
  | false =>
   simp only [go_sem, l47x0, b47, Tryd.f47, Int.reduceLT, Int.reduceToNat, decide_true, if_true, n10, q, w1, Bool.false_eq_true, if_false]
   all_goals rfl
theorem fix38 : ∀ j : Fin 10, fixT K38[j.val] = [S38[j.val]] := by decide
theorem loop47 (hlo : lo ≤ h.length) : ∀ (m j : Nat), j + m = 10 → k ∈ K38.drop j →
  loopW (evCode ⟨Tryd.prog, E, lo, h.length, h47⟩ loopW l47x0) (N38 k (j : Int), h ++ [.cells A38]) = some (.ret, [(2, .v (.string (bs (fixT k))))], h ++ [.cells A38]) := by
 intro m
 induction m with
 | zero =>
  intro j hj hk
  obtain rfl : j = 10 := by omega
  cases hk
 | succ m ih =>
  intro j hj hk
  have hjl : j < K38.length := by show j < 10; omega
  have hr := round47 (lo := lo) (h := h) (k := k) hlo ⟨j, by omega⟩
  simp only at hr
  rw [loop_eq, hr]
  have hd : K38.drop j = K38[j] :: K38.drop (j + 1) := List.drop_eq_getElem_cons hjl
  cases q : (K38[j] == k) with
  | true =>
   have hf := fix38 ⟨j, by omega⟩
   simp only at hf
   have e : K38[j] = k := by simpa using q
   rw [if_pos rfl, ← e, hf]
   rfl
  | false =>
   rw [if_neg (by simp), loop_n]
   rw [hd] at hk
   rcases List.mem_cons.1 hk with hk | hk
   ·rw [← hk] at q
    simp at q
   ·exact ih (j + 1) (by omega) hk
theorem f47 (hlo : lo ≤ h.length) (hk : k = 6 ∨ k = 8 ∨ k = 13 ∨ k = 14 ∨ k = 15 ∨ k = 16 ∨ k = 17 ∨ k = 18 ∨ k = 19 ∨ k = 20 ∨ k = 21 ∨ k = 22 ∨ k = 23 ∨ k = 24) :
  E lo 47 [.v (.int .i64 k)] h = some (.v (.string (bs (fixT k))), h) := by
 have hL := fun (hk : k ∈ K38) => loop47 (lo := lo) (h := h) (k := k) hlo 10 0 rfl hk
 have n0 : ((0 : Nat) : Int) = 0 := rfl
 rw [n0] at hL
 simp only [l47x0, b47, Tryd.f47, loopAt, loops, bodyOf, go_sem, A38, N38] at hL
 rw [e47 (by simp) (by rfl)]
 rcases hk with rfl | rfl | rfl | rfl | rfl | rfl | rfl | rfl | rfl | rfl | rfl | rfl | rfl | rfl
 all_goals first
  | (
    have hL := hL (by decide)
    simp only [go_sem, b47, Tryd.f47, Int.reduceBEq, hlo, hL]
    all_goals rfl)
  | (
    simp only [go_sem, b47, Tryd.f47, Int.reduceBEq, hlo]
    all_goals rfl)
end
end Go.Lift.D7
end

section
open Go.Proofs
namespace Go.Lift.D7
variable [MX]
open Utf Tok Spell
set_option maxRecDepth 20000
theorem numText_ok {b w : Bool} {m : Int} {p : Nat} {t : List Int} (m0 : 0 ≤ m) (m1 : m ≤ 9223372036854775808) (hp : p ≤ 64) (h : numText b w m p = some t) : By t ∧ t.length ≤ 200 := by
 obtain ⟨g1, g2⟩ := dgt_len 19 m m0 (by
                     have : (10 : Int) ^ (19 + 1) = 100000000000000000000 := by decide
                     omega)
 have h2 : t = (if b = true then [45] else []) ++ (((List.replicate (p + 1 - (dgt m).length) 48 ++ dgt m).take ((List.replicate (p + 1 - (dgt m).length) 48 ++ dgt m).length - p) ++ (if w = true then [] else 46 :: ((List.replicate (p + 1 - (dgt m).length) 48 ++ dgt m).drop ((List.replicate (p + 1 - (dgt m).length) 48 ++ dgt m).length - p) ++ if p = 0 then [48] else [])))) := by
  unfold numText at h
  split at h
  ·cases h
  ·exact (Option.some.inj h).symm
 have hT : By (List.replicate (p + 1 - (dgt m).length) 48 ++ dgt m) := by
  refine by_app (fun c hc => ?_) (dgt_by m)
  have := List.eq_of_mem_replicate hc
  omega
 have hTl : (List.replicate (p + 1 - (dgt m).length) (48 : Int) ++ dgt m).length ≤ 90 := by simp; omega
 generalize List.replicate (p + 1 - (dgt m).length) (48 : Int) ++ dgt m = T at *
 subst h2
 constructor
 ·refine by_app ?_ (by_app (fun c hc => hT c (List.mem_of_mem_take hc)) ?_)
  ·split
   ·exact by_cons (by omega) (by omega) by_nil
   ·exact by_nil
  ·split
   ·exact by_nil
   ·refine by_cons (by omega) (by omega) (by_app (fun c hc => hT c (List.mem_of_mem_drop hc)) ?_)
    split
    ·exact by_cons (by omega) (by omega) by_nil
    ·exact by_nil
 ·have a1 : (if b = true then [(45 : Int)] else []).length ≤ 1 := by split <;> simp
  have a2 : (if w = true then [] else 46 :: (T.drop (T.length - p) ++ if p = 0 then [(48 : Int)] else [])).length ≤ 95 := by
   split
   ·simp
   ·have a3 : (if p = 0 then [(48 : Int)] else []).length ≤ 1 := by split <;> simp
    simp only [List.length_cons, List.length_append, List.length_drop]
    omega
  simp only [List.length_append, List.length_take]
  omega
theorem plainT_ok {n d : Int} {w : Bool} (h0 : -9223372036854775808 ≤ n) (h1 : n ≤ 9223372036854775807) (h2 : -9223372036854775808 ≤ d) (h3 : d ≤ 9223372036854775807) : By ((plainT n d w).getD []) ∧ ((plainT n d w).getD []).length ≤ 200 := by
 cases ht : plainT n d w with
 | none => exact ⟨by_nil, by simp⟩
 | some t =>
  simp only [Option.getD_some]
  unfold plainT at ht
  split at ht
  ·cases ht
  ·rename_i hc
   split at ht
   ·cases ht
    split
    ·refine ⟨fun c hc => ?_, by simp⟩
     have := List.eq_of_mem_replicate hc
     omega
    ·exact ⟨by_cons (by omega) (by omega) (by_cons (by omega) (by omega) (by_cons (by omega) (by omega) (by_cons (by omega) (by omega) by_nil))), by simp⟩
   ·rename_i hd
    have hm : mayR n d = true := by
     cases q : mayR n d with
     | true => rfl
     | false => rw [q] at hc; simp at hc
    have h1d := may_pos hm hd
    split at ht
    ·cases ht
    ·rename_i m p hp
     obtain ⟨m0, m1, p1⟩ := progN_le (by omega) (by omega) h1d h3 hp
     exact numText_ok m0 m1 p1 ht
end Go.Lift.D7
end

section
open Go.Proofs
namespace Go.Lift.D7
variable [MX]
open Utf Tok Spell
set_option maxRecDepth 20000
set_option maxHeartbeats 4000000
section
variable {lo : Nat} {h : Heap} {k n d : Int} {b : List Int} {w i : Bool}
theorem bs_40 : (⟨#[40]⟩ : ByteArray) = bs [40] := rfl
theorem bs_64 : (⟨#[64]⟩ : ByteArray) = bs [64] := rfl
theorem bs_35 : (⟨#[35]⟩ : ByteArray) = bs [35] := rfl
theorem bs_37 : (⟨#[37]⟩ : ByteArray) = bs [37] := rfl
theorem bs_g5 : (⟨#[34, 92]⟩ : ByteArray) = bs sg5 := rfl
theorem bs_g7 : (⟨#[34, 39, 40, 41, 92]⟩ : ByteArray) = bs sg7 := rfl
theorem bs_9210 : (⟨#[92, 10]⟩ : ByteArray) = bs [92, 10] := rfl
theorem by_92 : By [92] := fun x hx => by simp at hx; omega
theorem sg5_lo : ∀ c ∈ sg5, 0 ≤ c ∧ c < 128 := by decide
theorem sg7_lo : ∀ c ∈ sg7, 0 ≤ c ∧ c < 128 := by decide
def okV (t : List Int) : V := .tup [.v (.string (bs t)), .v (.int .i64 0)]
def errV : V := .tup [.v (.string (bs [])), .v (.int .i64 1)]
def tokR (k : Int) (b : List Int) (n d : Int) (w i : Bool) : V := if mayV k b n d w i = true then okV (tokenT k b n d w i) else errV
theorem sound_chars (hy : By b) (hs : sound b = true) : ∃ L, b = encs L ∧ raw b = L ∧ (∀ x ∈ L, scal x = x) ∧ L.contains 0 = false ∧ L.length ≤ b.length := by
 have h2 := hs
 unfold sound at h2
 rw [Bool.and_eq_true] at h2
 refine ⟨raw b, (encs_raw b hy h2.1).symm, rfl, raw_scal b hy, ?_, raw_len b⟩
 rw [zero_raw hy h2.1]
 simpa using h2.2
theorem may_sound (h : mayV k b n d w i = true) (hk : k = 1 ∨ k = 2 ∨ k = 3 ∨ k = 4 ∨ k = 5 ∨ k = 7 ∨ k = 12) : sound b = true := by
 unfold mayV at h
 rcases hk with rfl | rfl | rfl | rfl | rfl | rfl | rfl <;> simp at h <;> simp [h]
theorem may_ne (h : mayV k b n d w i = true) (hk : k = 1 ∨ k = 2 ∨ k = 3 ∨ k = 4 ∨ k = 12) : b ≠ [] := by
 unfold mayV at h
 rcases hk with rfl | rfl | rfl | rfl | rfl <;> simp at h <;> simp [h]
theorem may_plain (h : mayV k b n d w i = true) (hk : k = 10 ∨ k = 11 ∨ k = 12) : ∃ t, plainT n d w = some t := by
 unfold mayV at h
 have : (plainT n d w).isSome = true := by rcases hk with rfl | rfl | rfl <;> simp at h <;> simp [h]
 exact Option.isSome_iff_exists.1 this
theorem may_kind (h : mayV k b n d w i = true) : 1 ≤ k ∧ k ≤ 24 := by
 unfold mayV at h
 rcases kinds k with hk | hk | hk | hk | hk | hk | hk | hk
 all_goals first
  | omega
  | (
    exfalso
    rw [if_neg (by omega), if_neg (by omega), if_neg (by omega), if_neg (by omega), if_neg (by omega), if_neg (by omega), if_neg (by omega)] at h
    cases h)
theorem perr (hlo : lo ≤ h.length) (hy : By b) (hl : b.length ≤ 10000000) (h0 : -9223372036854775808 ≤ n) (h1 : n ≤ 9223372036854775807) (h2 : -9223372036854775808 ≤ d) (h3 : d ≤ 9223372036854775807) (hm : mayV k b n d w i = false) :
  E lo 31 [.agg (tokV k b n d w i)] h = some (errV, h) := by
 have hl1 : lo ≤ (h ++ [Ob.cells (tokV k b n d w i)]).length := by simp; omega
 have hl2 : h.length ≤ (h ++ [Ob.cells (tokV k b n d w i)]).length := by simp
 have hl3 : h.length + 1 ≤ (h ++ [Ob.cells (tokV k b n d w i)]).length := by simp
 have km := fun lo hlo => f26 (lo := lo) (h := h ++ [Ob.cells (tokV k b n d w i)]) (k := k) (b := b) (n := n) (d := d) (w := w) (i := i) hlo hy (by omega) h0 h1 h2 h3
 rw [hm] at km
 have kma := km lo hl1; have kmb := km h.length hl2; have kmc := km (h.length + 1) hl3
 rw [e31 (by simp) (by rfl)]
 unfold tokV at *
 simp only [go_sem, b31, Tryd.f31, hlo, kma, kmb, kmc]
 all_goals rfl
theorem p1 (hlo : lo ≤ h.length) {L : List Int} (hs : ∀ x ∈ L, scal x = x) (hz : L.contains 0 = false) (hl : L.length ≤ 10000000) (hb : (encs L).length ≤ 10000000) (h0 : -9223372036854775808 ≤ n) (h1 : n ≤ 9223372036854775807) (h2 : -9223372036854775808 ≤ d) (h3 : d ≤ 9223372036854775807) (hm : mayV 1 (encs L) n d w i = true) :
  E lo 31 [.agg (tokV 1 (encs L) n d w i)] h = some (okV (identT L), h) := by
 have hl1 : lo ≤ (h ++ [Ob.cells (tokV 1 (encs L) n d w i)]).length := by simp; omega
 have hl2 : h.length ≤ (h ++ [Ob.cells (tokV 1 (encs L) n d w i)]).length := by simp
 have hl3 : h.length + 1 ≤ (h ++ [Ob.cells (tokV 1 (encs L) n d w i)]).length := by simp
 have km := fun lo hlo => f26 (lo := lo) (h := h ++ [Ob.cells (tokV 1 (encs L) n d w i)]) (k := 1) (b := (encs L)) (n := n) (d := d) (w := w) (i := i) hlo (encs_by L) (by omega) h0 h1 h2 h3
 rw [hm] at km
 have ki := fun lo hlo => f42 (lo := lo) (h := h ++ [Ob.cells (tokV 1 (encs L) n d w i)]) hlo hs hl
 have kma := km lo hl1; have kmb := km h.length hl2; have kmc := km (h.length + 1) hl3
 have kia := ki lo hl1; have kib := ki h.length hl2; have kic := ki (h.length + 1) hl3
 have hil := identT_len L
 rw [e31 (by simp) (by rfl)]
 unfold tokV at *
 simp only [go_sem, b31, Tryd.f31, Int.reduceBEq, hlo, kma, kmb, kmc, kia, kib, kic]
 all_goals rfl
theorem p2 (hlo : lo ≤ h.length) {L : List Int} (hs : ∀ x ∈ L, scal x = x) (hz : L.contains 0 = false) (hl : L.length ≤ 10000000) (hb : (encs L).length ≤ 10000000) (h0 : -9223372036854775808 ≤ n) (h1 : n ≤ 9223372036854775807) (h2 : -9223372036854775808 ≤ d) (h3 : d ≤ 9223372036854775807) (hm : mayV 2 (encs L) n d w i = true) :
  E lo 31 [.agg (tokV 2 (encs L) n d w i)] h = some (okV (identT L ++ [40]), h) := by
 have hl1 : lo ≤ (h ++ [Ob.cells (tokV 2 (encs L) n d w i)]).length := by simp; omega
 have hl2 : h.length ≤ (h ++ [Ob.cells (tokV 2 (encs L) n d w i)]).length := by simp
 have hl3 : h.length + 1 ≤ (h ++ [Ob.cells (tokV 2 (encs L) n d w i)]).length := by simp
 have km := fun lo hlo => f26 (lo := lo) (h := h ++ [Ob.cells (tokV 2 (encs L) n d w i)]) (k := 2) (b := (encs L)) (n := n) (d := d) (w := w) (i := i) hlo (encs_by L) (by omega) h0 h1 h2 h3
 rw [hm] at km
 have ki := fun lo hlo => f42 (lo := lo) (h := h ++ [Ob.cells (tokV 2 (encs L) n d w i)]) hlo hs hl
 have kma := km lo hl1; have kmb := km h.length hl2; have kmc := km (h.length + 1) hl3
 have kia := ki lo hl1; have kib := ki h.length hl2; have kic := ki (h.length + 1) hl3
 have hil := identT_len L
 have z1 : (bs (identT L)).size + (bs [40]).size ≤ 9223372036854775807 := by rw [bs_size, bs_size]; simp; omega
 rw [e31 (by simp) (by rfl)]
 unfold tokV at *
 simp only [go_sem, b31, Tryd.f31, Int.reduceBEq, hlo, kma, kmb, kmc, kia, kib, kic, bs_40, bs_app, z1]
 all_goals rfl
theorem p3 (hlo : lo ≤ h.length) {L : List Int} (hs : ∀ x ∈ L, scal x = x) (hz : L.contains 0 = false) (hl : L.length ≤ 10000000) (hb : (encs L).length ≤ 10000000) (h0 : -9223372036854775808 ≤ n) (h1 : n ≤ 9223372036854775807) (h2 : -9223372036854775808 ≤ d) (h3 : d ≤ 9223372036854775807) (hm : mayV 3 (encs L) n d w i = true) :
  E lo 31 [.agg (tokV 3 (encs L) n d w i)] h = some (okV (64 :: identT L), h) := by
 have hl1 : lo ≤ (h ++ [Ob.cells (tokV 3 (encs L) n d w i)]).length := by simp; omega
 have hl2 : h.length ≤ (h ++ [Ob.cells (tokV 3 (encs L) n d w i)]).length := by simp
 have hl3 : h.length + 1 ≤ (h ++ [Ob.cells (tokV 3 (encs L) n d w i)]).length := by simp
 have km := fun lo hlo => f26 (lo := lo) (h := h ++ [Ob.cells (tokV 3 (encs L) n d w i)]) (k := 3) (b := (encs L)) (n := n) (d := d) (w := w) (i := i) hlo (encs_by L) (by omega) h0 h1 h2 h3
 rw [hm] at km
 have ki := fun lo hlo => f42 (lo := lo) (h := h ++ [Ob.cells (tokV 3 (encs L) n d w i)]) hlo hs hl
 have kma := km lo hl1; have kmb := km h.length hl2; have kmc := km (h.length + 1) hl3
 have kia := ki lo hl1; have kib := ki h.length hl2; have kic := ki (h.length + 1) hl3
 have hil := identT_len L
 have z1 : (bs [64]).size + (bs (identT L)).size ≤ 9223372036854775807 := by rw [bs_size, bs_size]; simp; omega
 rw [e31 (by simp) (by rfl)]
 unfold tokV at *
 simp only [go_sem, b31, Tryd.f31, Int.reduceBEq, hlo, kma, kmb, kmc, kia, kib, kic, bs_64, bs_app, z1, List.singleton_append]
 all_goals rfl
theorem p4t (hlo : lo ≤ h.length) {L : List Int} (hs : ∀ x ∈ L, scal x = x) (hz : L.contains 0 = false) (hl : L.length ≤ 10000000) (hb : (encs L).length ≤ 10000000) (h0 : -9223372036854775808 ≤ n) (h1 : n ≤ 9223372036854775807) (h2 : -9223372036854775808 ≤ d) (h3 : d ≤ 9223372036854775807) (hm : mayV 4 (encs L) n d w true = true) :
  E lo 31 [.agg (tokV 4 (encs L) n d w true)] h = some (okV (35 :: identT L), h) := by
 have hl1 : lo ≤ (h ++ [Ob.cells (tokV 4 (encs L) n d w true)]).length := by simp; omega
 have hl2 : h.length ≤ (h ++ [Ob.cells (tokV 4 (encs L) n d w true)]).length := by simp
 have hl3 : h.length + 1 ≤ (h ++ [Ob.cells (tokV 4 (encs L) n d w true)]).length := by simp
 have km := fun lo hlo => f26 (lo := lo) (h := h ++ [Ob.cells (tokV 4 (encs L) n d w true)]) (k := 4) (b := (encs L)) (n := n) (d := d) (w := w) (i := true) hlo (encs_by L) (by omega) h0 h1 h2 h3
 rw [hm] at km
 have ki := fun lo hlo => f42 (lo := lo) (h := h ++ [Ob.cells (tokV 4 (encs L) n d w true)]) hlo hs hl
 have kma := km lo hl1; have kmb := km h.length hl2; have kmc := km (h.length + 1) hl3
 have kia := ki lo hl1; have kib := ki h.length hl2; have kic := ki (h.length + 1) hl3
 have hil := identT_len L
 have z1 : (bs [35]).size + (bs (identT L)).size ≤ 9223372036854775807 := by rw [bs_size, bs_size]; simp; omega
 rw [e31 (by simp) (by rfl)]
 unfold tokV at *
 simp only [go_sem, b31, Tryd.f31, Int.reduceBEq, hlo, kma, kmb, kmc, kia, kib, kic, bs_35, bs_app, z1, List.singleton_append]
 all_goals rfl
theorem p4f (hlo : lo ≤ h.length) {L : List Int} (hs : ∀ x ∈ L, scal x = x) (hz : L.contains 0 = false) (hl : L.length ≤ 10000000) (hb : (encs L).length ≤ 10000000) (h0 : -9223372036854775808 ≤ n) (h1 : n ≤ 9223372036854775807) (h2 : -9223372036854775808 ≤ d) (h3 : d ≤ 9223372036854775807) (hm : mayV 4 (encs L) n d w false = true) :
  E lo 31 [.agg (tokV 4 (encs L) n d w false)] h = some (okV (35 :: nameT L), h) := by
 have hl1 : lo ≤ (h ++ [Ob.cells (tokV 4 (encs L) n d w false)]).length := by simp; omega
 have hl2 : h.length ≤ (h ++ [Ob.cells (tokV 4 (encs L) n d w false)]).length := by simp
 have hl3 : h.length + 1 ≤ (h ++ [Ob.cells (tokV 4 (encs L) n d w false)]).length := by simp
 have km := fun lo hlo => f26 (lo := lo) (h := h ++ [Ob.cells (tokV 4 (encs L) n d w false)]) (k := 4) (b := (encs L)) (n := n) (d := d) (w := w) (i := false) hlo (encs_by L) (by omega) h0 h1 h2 h3
 rw [hm] at km
 have ki := fun lo hlo => f43 (lo := lo) (h := h ++ [Ob.cells (tokV 4 (encs L) n d w false)]) hlo hs hl
 have kma := km lo hl1; have kmb := km h.length hl2; have kmc := km (h.length + 1) hl3
 have kia := ki lo hl1; have kib := ki h.length hl2; have kic := ki (h.length + 1) hl3
 have hil := nameT_len L
 have z1 : (bs [35]).size + (bs (nameT L)).size ≤ 9223372036854775807 := by rw [bs_size, bs_size]; simp; omega
 rw [e31 (by simp) (by rfl)]
 unfold tokV at *
 simp only [go_sem, b31, Tryd.f31, Int.reduceBEq, hlo, kma, kmb, kmc, kia, kib, kic, bs_35, bs_app, z1, List.singleton_append]
 all_goals rfl
theorem p5 (hlo : lo ≤ h.length) {L : List Int} (hs : ∀ x ∈ L, scal x = x) (hz : L.contains 0 = false) (hl : L.length ≤ 10000000) (hb : (encs L).length ≤ 10000000) (h0 : -9223372036854775808 ≤ n) (h1 : n ≤ 9223372036854775807) (h2 : -9223372036854775808 ≤ d) (h3 : d ≤ 9223372036854775807) (hm : mayV 5 (encs L) n d w i = true) :
  E lo 31 [.agg (tokV 5 (encs L) n d w i)] h = some (okV (34 :: (textT sg5 false L ++ [34])), h) := by
 have hl1 : lo ≤ (h ++ [Ob.cells (tokV 5 (encs L) n d w i)]).length := by simp; omega
 have hl2 : h.length ≤ (h ++ [Ob.cells (tokV 5 (encs L) n d w i)]).length := by simp
 have hl3 : h.length + 1 ≤ (h ++ [Ob.cells (tokV 5 (encs L) n d w i)]).length := by simp
 have km := fun lo hlo => f26 (lo := lo) (h := h ++ [Ob.cells (tokV 5 (encs L) n d w i)]) (k := 5) (b := (encs L)) (n := n) (d := d) (w := w) (i := i) hlo (encs_by L) (by omega) h0 h1 h2 h3
 rw [hm] at km
 have ki := fun lo hlo => f44 (lo := lo) (h := h ++ [Ob.cells (tokV 5 (encs L) n d w i)]) (sg := sg5) (sp := false) hlo sg5_lo (by decide) hs hl
 have kma := km lo hl1; have kmb := km h.length hl2; have kmc := km (h.length + 1) hl3
 have kia := ki lo hl1; have kib := ki h.length hl2; have kic := ki (h.length + 1) hl3
 have hil := textT_len sg5 false L
 have z1 : (bs [34]).size + (bs (textT sg5 false L)).size ≤ 9223372036854775807 := by rw [bs_size, bs_size]; simp; omega
 have z2 : (bs (34 :: textT sg5 false L)).size + (bs [34]).size ≤ 9223372036854775807 := by rw [bs_size, bs_size]; simp; omega
 rw [e31 (by simp) (by rfl)]
 unfold tokV at *
 simp only [go_sem, b31, Tryd.f31, Int.reduceBEq, hlo, kma, kmb, kmc, kia, kib, kic, bs_g5, bs_34, bs_app, z1, z2, List.cons_append, List.nil_append]
 all_goals rfl
theorem p7 (hlo : lo ≤ h.length) {L : List Int} (hs : ∀ x ∈ L, scal x = x) (hz : L.contains 0 = false) (hl : L.length ≤ 10000000) (hb : (encs L).length ≤ 10000000) (h0 : -9223372036854775808 ≤ n) (h1 : n ≤ 9223372036854775807) (h2 : -9223372036854775808 ≤ d) (h3 : d ≤ 9223372036854775807) (hm : mayV 7 (encs L) n d w i = true) :
  E lo 31 [.agg (tokV 7 (encs L) n d w i)] h = some (okV (117 :: 114 :: 108 :: 40 :: (textT sg7 true L ++ [41])), h) := by
 have hl1 : lo ≤ (h ++ [Ob.cells (tokV 7 (encs L) n d w i)]).length := by simp; omega
 have hl2 : h.length ≤ (h ++ [Ob.cells (tokV 7 (encs L) n d w i)]).length := by simp
 have hl3 : h.length + 1 ≤ (h ++ [Ob.cells (tokV 7 (encs L) n d w i)]).length := by simp
 have km := fun lo hlo => f26 (lo := lo) (h := h ++ [Ob.cells (tokV 7 (encs L) n d w i)]) (k := 7) (b := (encs L)) (n := n) (d := d) (w := w) (i := i) hlo (encs_by L) (by omega) h0 h1 h2 h3
 rw [hm] at km
 have ki := fun lo hlo => f44 (lo := lo) (h := h ++ [Ob.cells (tokV 7 (encs L) n d w i)]) (sg := sg7) (sp := true) hlo sg7_lo (by decide) hs hl
 have kma := km lo hl1; have kmb := km h.length hl2; have kmc := km (h.length + 1) hl3
 have kia := ki lo hl1; have kib := ki h.length hl2; have kic := ki (h.length + 1) hl3
 have hil := textT_len sg7 true L
 have z1 : (bs [117, 114, 108, 40]).size + (bs (textT sg7 true L)).size ≤ 9223372036854775807 := by rw [bs_size, bs_size]; simp; omega
 have z2 : (bs (117 :: 114 :: 108 :: 40 :: textT sg7 true L)).size + (bs [41]).size ≤ 9223372036854775807 := by rw [bs_size, bs_size]; simp; omega
 rw [e31 (by simp) (by rfl)]
 unfold tokV at *
 simp only [go_sem, b31, Tryd.f31, Int.reduceBEq, hlo, kma, kmb, kmc, kia, kib, kic, bs_g7, bs_url, bs_41, bs_app, z1, z2, List.cons_append, List.nil_append]
 all_goals rfl
theorem p9 (hlo : lo ≤ h.length) (hy : By b) (hl : b.length ≤ 10000000) (h0 : -9223372036854775808 ≤ n) (h1 : n ≤ 9223372036854775807) (h2 : -9223372036854775808 ≤ d) (h3 : d ≤ 9223372036854775807) (hm : mayV 9 b n d w i = true) :
  E lo 31 [.agg (tokV 9 b n d w i)] h = some (okV (if b = [92] then [92, 10] else b), h) := by
 have hl1 : lo ≤ (h ++ [Ob.cells (tokV 9 b n d w i)]).length := by simp; omega
 have hl2 : h.length ≤ (h ++ [Ob.cells (tokV 9 b n d w i)]).length := by simp
 have hl3 : h.length + 1 ≤ (h ++ [Ob.cells (tokV 9 b n d w i)]).length := by simp
 have km := fun lo hlo => f26 (lo := lo) (h := h ++ [Ob.cells (tokV 9 b n d w i)]) (k := 9) (b := b) (n := n) (d := d) (w := w) (i := i) hlo hy (by omega) h0 h1 h2 h3
 rw [hm] at km
 have kma := km lo hl1; have kmb := km h.length hl2; have kmc := km (h.length + 1) hl3
 have hb := bs_beq hy by_92
 rw [e31 (by simp) (by rfl)]
 unfold tokV at *
 by_cases hc : b = [92]
 ·have q : (b == [92]) = true := by simp [hc]
  rw [q] at hb
  rw [if_pos hc]
  simp only [go_sem, b31, Tryd.f31, Int.reduceBEq, hlo, kma, kmb, kmc, bs_92, hb, bs_9210]
  all_goals rfl
 ·have q : (b == [92]) = false := by simp [hc]
  rw [q] at hb
  rw [if_neg hc]
  simp only [go_sem, b31, Tryd.f31, Int.reduceBEq, hlo, kma, kmb, kmc, bs_92, hb]
  all_goals rfl
theorem p10 (hlo : lo ≤ h.length) (hy : By b) (hl : b.length ≤ 10000000) (h0 : -9223372036854775808 ≤ n) (h1 : n ≤ 9223372036854775807) (h2 : -9223372036854775808 ≤ d) (h3 : d ≤ 9223372036854775807) (hm : mayV 10 b n d w i = true) {t : List Int} (ht : plainT n d w = some t) :
  E lo 31 [.agg (tokV 10 b n d w i)] h = some (okV (t), h) := by
 have hl1 : lo ≤ (h ++ [Ob.cells (tokV 10 b n d w i)]).length := by simp; omega
 have hl2 : h.length ≤ (h ++ [Ob.cells (tokV 10 b n d w i)]).length := by simp
 have hl3 : h.length + 1 ≤ (h ++ [Ob.cells (tokV 10 b n d w i)]).length := by simp
 have km := fun lo hlo => f26 (lo := lo) (h := h ++ [Ob.cells (tokV 10 b n d w i)]) (k := 10) (b := b) (n := n) (d := d) (w := w) (i := i) hlo hy (by omega) h0 h1 h2 h3
 rw [hm] at km
 have kp := fun lo hlo => f45 (lo := lo) (h := h ++ [Ob.cells (tokV 10 b n d w i)]) hlo (n := n) (d := d) (w := w) h0 h1 h2 h3
 have ep : plainV (some t) = .tup [.v (.string (bs t)), .v (.int .i64 0)] := rfl
 rw [ht, ep] at kp
 have kma := km lo hl1; have kmb := km h.length hl2; have kmc := km (h.length + 1) hl3
 have kpa := kp lo hl1; have kpb := kp h.length hl2; have kpc := kp (h.length + 1) hl3
 have hok := (plainT_ok (n := n) (d := d) (w := w) h0 h1 h2 h3).2
 rw [ht] at hok
 simp only [Option.getD_some] at hok
 rw [e31 (by simp) (by rfl)]
 unfold tokV at *
 simp only [go_sem, b31, Tryd.f31, Int.reduceBEq, hlo, kma, kmb, kmc, kpa, kpb, kpc]
 all_goals rfl
theorem p11 (hlo : lo ≤ h.length) (hy : By b) (hl : b.length ≤ 10000000) (h0 : -9223372036854775808 ≤ n) (h1 : n ≤ 9223372036854775807) (h2 : -9223372036854775808 ≤ d) (h3 : d ≤ 9223372036854775807) (hm : mayV 11 b n d w i = true) {t : List Int} (ht : plainT n d w = some t) :
  E lo 31 [.agg (tokV 11 b n d w i)] h = some (okV (t ++ [37]), h) := by
 have hl1 : lo ≤ (h ++ [Ob.cells (tokV 11 b n d w i)]).length := by simp; omega
 have hl2 : h.length ≤ (h ++ [Ob.cells (tokV 11 b n d w i)]).length := by simp
 have hl3 : h.length + 1 ≤ (h ++ [Ob.cells (tokV 11 b n d w i)]).length := by simp
 have km := fun lo hlo => f26 (lo := lo) (h := h ++ [Ob.cells (tokV 11 b n d w i)]) (k := 11) (b := b) (n := n) (d := d) (w := w) (i := i) hlo hy (by omega) h0 h1 h2 h3
 rw [hm] at km
 have kp := fun lo hlo => f45 (lo := lo) (h := h ++ [Ob.cells (tokV 11 b n d w i)]) hlo (n := n) (d := d) (w := w) h0 h1 h2 h3
 have ep : plainV (some t) = .tup [.v (.string (bs t)), .v (.int .i64 0)] := rfl
 rw [ht, ep] at kp
 have kma := km lo hl1; have kmb := km h.length hl2; have kmc := km (h.length + 1) hl3
 have kpa := kp lo hl1; have kpb := kp h.length hl2; have kpc := kp (h.length + 1) hl3
 have hok := (plainT_ok (n := n) (d := d) (w := w) h0 h1 h2 h3).2
 rw [ht] at hok
 simp only [Option.getD_some] at hok
 have z1 : (bs t).size + (bs [37]).size ≤ 9223372036854775807 := by rw [bs_size, bs_size]; simp; omega
 rw [e31 (by simp) (by rfl)]
 unfold tokV at *
 simp only [go_sem, b31, Tryd.f31, Int.reduceBEq, hlo, kma, kmb, kmc, kpa, kpb, kpc, bs_37, bs_app, z1]
 all_goals rfl
theorem p12 (hlo : lo ≤ h.length) {L : List Int} (hs : ∀ x ∈ L, scal x = x) (hz : L.contains 0 = false) (hl : L.length ≤ 10000000) (hb : (encs L).length ≤ 10000000) (h0 : -9223372036854775808 ≤ n) (h1 : n ≤ 9223372036854775807) (h2 : -9223372036854775808 ≤ d) (h3 : d ≤ 9223372036854775807) (hn : L ≠ []) (hm : mayV 12 (encs L) n d w i = true) {t : List Int} (ht : plainT n d w = some t) :
  E lo 31 [.agg (tokV 12 (encs L) n d w i)] h = some (okV (t ++ unitT L), h) := by
 have hl1 : lo ≤ (h ++ [Ob.cells (tokV 12 (encs L) n d w i)]).length := by simp; omega
 have hl2 : h.length ≤ (h ++ [Ob.cells (tokV 12 (encs L) n d w i)]).length := by simp
 have hl3 : h.length + 1 ≤ (h ++ [Ob.cells (tokV 12 (encs L) n d w i)]).length := by simp
 have km := fun lo hlo => f26 (lo := lo) (h := h ++ [Ob.cells (tokV 12 (encs L) n d w i)]) (k := 12) (b := (encs L)) (n := n) (d := d) (w := w) (i := i) hlo (encs_by L) (by omega) h0 h1 h2 h3
 rw [hm] at km
 have kp := fun lo hlo => f45 (lo := lo) (h := h ++ [Ob.cells (tokV 12 (encs L) n d w i)]) hlo (n := n) (d := d) (w := w) h0 h1 h2 h3
 have ep : plainV (some t) = .tup [.v (.string (bs t)), .v (.int .i64 0)] := rfl
 rw [ht, ep] at kp
 have ku := fun lo hlo => f46 (lo := lo) (h := h ++ [Ob.cells (tokV 12 (encs L) n d w i)]) hlo hs hn hl
 have kma := km lo hl1; have kmb := km h.length hl2; have kmc := km (h.length + 1) hl3
 have kpa := kp lo hl1; have kpb := kp h.length hl2; have kpc := kp (h.length + 1) hl3
 have kua := ku lo hl1; have kub := ku h.length hl2; have kuc := ku (h.length + 1) hl3
 have hok := (plainT_ok (n := n) (d := d) (w := w) h0 h1 h2 h3).2
 rw [ht] at hok
 simp only [Option.getD_some] at hok
 have hul := unitT_len L
 have z1 : (bs t).size + (bs (unitT L)).size ≤ 9223372036854775807 := by rw [bs_size, bs_size]; omega
 rw [e31 (by simp) (by rfl)]
 unfold tokV at *
 simp only [go_sem, b31, Tryd.f31, Int.reduceBEq, hlo, kma, kmb, kmc, kpa, kpb, kpc, kua, kub, kuc, bs_app, z1]
 all_goals rfl
theorem pfix (hlo : lo ≤ h.length) (hy : By b) (hl : b.length ≤ 10000000) (h0 : -9223372036854775808 ≤ n) (h1 : n ≤ 9223372036854775807) (h2 : -9223372036854775808 ≤ d) (h3 : d ≤ 9223372036854775807) (hm : mayV k b n d w i = true) (hk : k = 6 ∨ k = 8 ∨ k = 13 ∨ k = 14 ∨ k = 15 ∨ k = 16 ∨ k = 17 ∨ k = 18 ∨ k = 19 ∨ k = 20 ∨ k = 21 ∨ k = 22 ∨ k = 23 ∨ k = 24) :
  E lo 31 [.agg (tokV k b n d w i)] h = some (okV (fixT k), h) := by
 have hl1 : lo ≤ (h ++ [Ob.cells (tokV k b n d w i)]).length := by simp; omega
 have hl2 : h.length ≤ (h ++ [Ob.cells (tokV k b n d w i)]).length := by simp
 have hl3 : h.length + 1 ≤ (h ++ [Ob.cells (tokV k b n d w i)]).length := by simp
 have km := fun lo hlo => f26 (lo := lo) (h := h ++ [Ob.cells (tokV k b n d w i)]) (k := k) (b := b) (n := n) (d := d) (w := w) (i := i) hlo hy (by omega) h0 h1 h2 h3
 rw [hm] at km
 have kf := fun lo hlo => f47 (lo := lo) (h := h ++ [Ob.cells (tokV k b n d w i)]) (k := k) hlo hk
 have kma := km lo hl1; have kmb := km h.length hl2; have kmc := km (h.length + 1) hl3
 have kfa := kf lo hl1; have kfb := kf h.length hl2; have kfc := kf (h.length + 1) hl3
 rw [e31 (by simp) (by rfl)]
 unfold tokV at *
 rcases hk with rfl | rfl | rfl | rfl | rfl | rfl | rfl | rfl | rfl | rfl | rfl | rfl | rfl | rfl <;>
 simp only [go_sem, b31, Tryd.f31, Int.reduceBEq, hlo, kma, kmb, kmc, kfa, kfb, kfc] <;> rfl
theorem f31 (hlo : lo ≤ h.length) (hy : By b) (hl : b.length ≤ 10000000) (h0 : -9223372036854775808 ≤ n) (h1 : n ≤ 9223372036854775807) (h2 : -9223372036854775808 ≤ d) (h3 : d ≤ 9223372036854775807) : E lo 31 [.agg (tokV k b n d w i)] h = some (tokR k b n d w i, h) := by
 unfold tokR
 cases hm : mayV k b n d w i with
 | false => rw [if_neg (by simp)]; exact perr hlo hy hl h0 h1 h2 h3 hm
 | true =>
  rw [if_pos rfl]
  have hk := may_kind hm
  rcases (by omega : (k = 1 ∨ k = 2 ∨ k = 3 ∨ k = 4 ∨ k = 5 ∨ k = 7 ∨ k = 12) ∨ k = 9 ∨ k = 10 ∨ k = 11 ∨ (k = 6 ∨ k = 8 ∨ k = 13 ∨ k = 14 ∨ k = 15 ∨ k = 16 ∨ k = 17 ∨ k = 18 ∨ k = 19 ∨ k = 20 ∨ k = 21 ∨ k = 22 ∨ k = 23 ∨ k = 24)) with hk | rfl | rfl | rfl | hk
  ·obtain ⟨L, rfl, eL, hs, hz, hL⟩ := sound_chars hy (may_sound hm hk)
   have hn : (k = 1 ∨ k = 2 ∨ k = 3 ∨ k = 4 ∨ k = 12) → L ≠ [] := fun h e => may_ne hm h (by rw [e]; rfl)
   rcases hk with rfl | rfl | rfl | rfl | rfl | rfl | rfl
   ·have e : tokenT 1 (encs L) n d w i = identT L := by unfold tokenT; rw [if_pos rfl, eL]
    rw [e]; exact p1 hlo hs hz (by omega) hl h0 h1 h2 h3 hm
   ·have e : tokenT 2 (encs L) n d w i = identT L ++ [40] := by unfold tokenT; rw [if_neg (by decide), if_pos rfl, eL]
    rw [e]; exact p2 hlo hs hz (by omega) hl h0 h1 h2 h3 hm
   ·have e : tokenT 3 (encs L) n d w i = 64 :: identT L := by unfold tokenT; rw [if_neg (by decide), if_neg (by decide), if_pos rfl, eL]
    rw [e]; exact p3 hlo hs hz (by omega) hl h0 h1 h2 h3 hm
   ·have e : tokenT 4 (encs L) n d w i = 35 :: (if i = true then identT L else nameT L) := by unfold tokenT; rw [if_neg (by decide), if_neg (by decide), if_neg (by decide), if_pos rfl, eL]
    rw [e]
    cases i with
    | true => rw [if_pos rfl]; exact p4t hlo hs hz (by omega) hl h0 h1 h2 h3 hm
    | false => rw [if_neg (by simp)]; exact p4f hlo hs hz (by omega) hl h0 h1 h2 h3 hm
   ·have e : tokenT 5 (encs L) n d w i = 34 :: (textT [34, 92] false L ++ [34]) := by unfold tokenT; rw [if_neg (by decide), if_neg (by decide), if_neg (by decide), if_neg (by decide), if_pos rfl, eL]
    rw [e]; exact p5 hlo hs hz (by omega) hl h0 h1 h2 h3 hm
   ·have e : tokenT 7 (encs L) n d w i = 117 :: 114 :: 108 :: 40 :: (textT [34, 39, 40, 41, 92] true L ++ [41]) := by unfold tokenT; rw [if_neg (by decide), if_neg (by decide), if_neg (by decide), if_neg (by decide), if_neg (by decide), if_pos rfl, eL]
    rw [e]; exact p7 hlo hs hz (by omega) hl h0 h1 h2 h3 hm
   ·obtain ⟨t, ht⟩ := may_plain hm (by omega)
    have e : tokenT 12 (encs L) n d w i = t ++ unitT L := by unfold tokenT; rw [if_neg (by decide), if_neg (by decide), if_neg (by decide), if_neg (by decide), if_neg (by decide), if_neg (by decide), if_neg (by decide), if_neg (by decide), if_neg (by decide), if_pos rfl, eL, ht]; rfl
    rw [e]; exact p12 hlo hs hz (by omega) hl h0 h1 h2 h3 (hn (by omega)) hm ht
  ·have e : tokenT 9 b n d w i = if b = [92] then [92, 10] else b := by unfold tokenT; rw [if_neg (by decide), if_neg (by decide), if_neg (by decide), if_neg (by decide), if_neg (by decide), if_neg (by decide), if_pos rfl]
   rw [e]; exact p9 hlo hy hl h0 h1 h2 h3 hm
  ·obtain ⟨t, ht⟩ := may_plain hm (by omega)
   have e : tokenT 10 b n d w i = t := by unfold tokenT; rw [if_neg (by decide), if_neg (by decide), if_neg (by decide), if_neg (by decide), if_neg (by decide), if_neg (by decide), if_neg (by decide), if_pos rfl, ht]; rfl
   rw [e]; exact p10 hlo hy hl h0 h1 h2 h3 hm ht
  ·obtain ⟨t, ht⟩ := may_plain hm (by omega)
   have e : tokenT 11 b n d w i = t ++ [37] := by unfold tokenT; rw [if_neg (by decide), if_neg (by decide), if_neg (by decide), if_neg (by decide), if_neg (by decide), if_neg (by decide), if_neg (by decide), if_neg (by decide), if_pos rfl, ht]; rfl
   rw [e]; exact p11 hlo hy hl h0 h1 h2 h3 hm ht
  ·have e : tokenT k b n d w i = fixT k := by unfold tokenT; rw [if_neg (by omega), if_neg (by omega), if_neg (by omega), if_neg (by omega), if_neg (by omega), if_neg (by omega), if_neg (by omega), if_neg (by omega), if_neg (by omega), if_neg (by omega)]
   rw [e]; exact pfix hlo hy hl h0 h1 h2 h3 hm hk
end
end Go.Lift.D7
end
