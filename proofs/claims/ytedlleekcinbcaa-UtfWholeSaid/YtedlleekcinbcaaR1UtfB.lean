/- The laws of bytes and characters, evaluated. -/
import Derived.Test.YtedlleekcinbcaaR1UtfA
import Derived.Test.YtedlleekcinbcaaR1Law3
open Go.Proofs
namespace Go.Lift.R1
open Utf
set_option maxRecDepth 20000
set_option linter.unusedSimpArgs false
set_option linter.unusedVariables false

/-- awake -/
theorem f19 {lo : Nat} {h : Heap} : E lo 19 [] h = some (.v (.bool true), h) := by
  have k1 := fun lo h => f17 (lo := lo) (h := h) (b := [65, 195, 164, 195]) (by decide) (by decide)
  have k2 := fun lo h => f16 (lo := lo) (h := h) (a := [65, 228, 65533]) (b := [65, 228, 65533]) (by decide)
  have e1 : raw [65, 195, 164, 195] = [65, 228, 65533] := by decide
  rw [e1] at k1
  simp only [ri_cons, ri_nil, beq_self_eq_true] at k1 k2
  rw [e19 (by simp) (by rfl)]
  simp only [go_sem, b19, Try.f19, k1, k2]

/-- the law UtfRaw answers true -/
theorem f5 {lo : Nat} {b : List Int} {h : Heap} (hb : b.length ≤ 1048576) (hy : By b) : E lo 5 [.list .no (ri .u8 b)] h = some (.v (.bool true), h) := by
  have h1 : b.length ≤ 1000000000 := by omega
  have h2 := raw_len' b
  have k1 := fun lo h => f16 (lo := lo) (h := h) (a := raw b) (b := raw b) (by omega)
  simp only [beq_self_eq_true] at k1
  rw [e5 (by simp) (by rfl)]
  simp only [go_sem, b5, Try.f5, f17 h1 hy, f18 h1 hy, k1, f19]

/-- the law UtfWhole answers true -/
theorem f6 {lo : Nat} {b : List Int} {h : Heap} (hb : b.length ≤ 140737488355328) (hy : By b) : E lo 6 [.list .no (ri .u8 b)] h = some (.v (.bool true), h) := by
  have h1 : b.length ≤ 140737488355328 := by omega
  have k1 := fun lo h => f20 (lo := lo) (h := h) (b := [195, 164]) (by decide) (by decide)
  have e1 : whole [195, 164] = true := by decide
  have e2 : (whole b == whole b) = true := by simp
  rw [e1] at k1
  simp only [ri_cons, ri_nil] at k1
  rw [e6 (by simp) (by rfl)]
  simp only [go_sem, b6, Try.f6, f20 h1 hy, f21 h1 hy, k1, e2]

theorem decode_len (b : List Int) : (Utf.decode b).length ≤ b.length := by
  have : ∀ (l : List Int) (back : Bool), (dec back l).length ≤ l.length := by
    intro l
    induction l with
    | nil => simp [dec]
    | cons x l ih =>
      intro back
      have := dstep_len back x
      have := ih (x == 13)
      rw [dec, List.length_append, List.length_cons]
      omega
  have h1 := this (raw (strip b)) false
  have h2 := raw_len' (strip b)
  have h3 := strip_len b
  rw [Utf.decode]
  omega

/-- the law UtfDecode answers true -/
theorem f8 {lo : Nat} {b : List Int} {h : Heap} (hb : b.length ≤ 1048576) (hy : By b) : E lo 8 [.list .no (ri .u8 b)] h = some (.v (.bool true), h) := by
  have h1 : b.length ≤ 1000000000 := by omega
  have h2 := decode_len b
  have k1 := fun lo h => f16 (lo := lo) (h := h) (a := Utf.decode b) (b := Utf.decode b) (by omega)
  have k2 := fun lo h => f22 (lo := lo) (h := h) (b := [97, 13, 10]) (by decide) (by decide)
  have k3 := fun lo h => f16 (lo := lo) (h := h) (a := [97, 10]) (b := [97, 10]) (by decide)
  have e1 : Utf.decode [97, 13, 10] = [97, 10] := by decide
  rw [e1] at k2
  simp only [ri_cons, ri_nil, beq_self_eq_true] at k1 k2 k3
  rw [e8 (by simp) (by rfl)]
  simp only [go_sem, b8, Try.f8, f22 h1 hy, f23 h1 hy, k1, k2, k3]

/-- the law UtfCuts answers true -/
theorem f7 {lo : Nat} {a b : List Int} {h : Heap} (ha : a.length ≤ 1048576) (hya : By a) (hb : b.length ≤ 1048576) (hyb : By b) : E lo 7 [.list .no (ri .u8 a), .list .no (ri .u8 b)] h = some (.v (.bool true), h) := by
  have h1 : a.length ≤ 1000000000 := by omega
  have h2 : b.length ≤ 1000000000 := by omega
  have hc := raw_count a
  have hcb := raw_count b
  have t1 : decide ((a.length : Int) < (raw a).length) = false := by simp; omega
  have w4 : IntKind.i64.wrap (4 * ((raw a).length : Int)) = 4 * ((raw a).length : Int) := wrap_i64 (by omega) (by omega)
  have t2 : decide (4 * ((raw a).length : Int) < a.length) = false := by simp; omega
  have hya' : By (a ++ b) := fun c hc => (List.mem_append.mp hc).elim (hya c) (hyb c)
  have r1 : ∀ k, k ≤ 4000000 → k * 1 ≤ 140737488355328 := by intro k hk; omega
  rw [e7 (by simp) (by rfl)]
  cases hw : whole a with
  | false => simp only [go_sem, b7, Try.f7, f17 h1 hya, f17 h2 hyb, f20 (show a.length ≤ 140737488355328 by omega) hya, f19, t1, t2, w4, hw]
  | true =>
    have k0 := fun lo h => f17 (lo := lo) (h := h) (b := a ++ b) (by rw [List.length_append]; omega) hya'
    have k1 := fun lo h => f16 (lo := lo) (h := h) (a := raw a ++ raw b) (b := raw a ++ raw b) (by rw [List.length_append]; omega)
    rw [raw_app b a hw] at k0
    simp only [ri_cons, ri_nil, beq_self_eq_true] at k1
    have r1 : (0 + a.length) * 1 ≤ 140737488355328 := by omega
    have r2 : 0 + a.length ≤ 9223372036854775807 := by omega
    have r3 : (a.length + b.length) * 1 ≤ 140737488355328 := by omega
    have r4 : a.length + b.length ≤ 9223372036854775807 := by omega
    have r5 : (0 + (raw a).length) * 4 ≤ 140737488355328 := by omega
    have r6 : 0 + (raw a).length ≤ 9223372036854775807 := by omega
    have r7 : ((raw a).length + (raw b).length) * 4 ≤ 140737488355328 := by omega
    have r8 : (raw a).length + (raw b).length ≤ 9223372036854775807 := by omega
    simp only [go_sem, b7, Try.f7, f17 h1 hya, f17 h2 hyb, f20 (show a.length ≤ 140737488355328 by omega) hya, f19, t1, t2, w4, hw, r1, r2, r3, r4, r5, r6, r7, r8, and_self, ri_app, k0, k1]

theorem round9 {lo i : Nat} {l b : List Int} {h : Heap} {x : Int} {all : Bool} (hx : l[i]? = some x) (hi : i < l.length) (hl : l.length ≤ 1000000000) :
   evCode ⟨Try.prog, E, lo, h.length, h9⟩ loopW l9x0 ([(0, .list .no (ri .i32 l)), (1, .list .no (ri .u8 b)), (5, .v (.bool all)), (9, .list .no (ri .i32 l)), (10, .v (.int .i64 l.length)), (11, .v (.int .i64 i))], h) =
     some (.normal, [(0, .list .no (ri .i32 l)), (1, .list .no (ri .u8 b)), (5, .v (.bool (all && (scal x == x)))), (9, .list .no (ri .i32 l)), (10, .v (.int .i64 l.length)), (11, .v (.int .i64 (i + 1 : Nat)))], h) := by
  have hd : decide ((i : Int) < l.length) = true := by simpa using hi
  have hw : IntKind.i64.wrap ((i : Int) + 1) = ((i + 1 : Nat) : Int) := wrap_succ (by omega)
  have hs : (scal x == x) = true ↔ 0 ≤ x ∧ x ≤ 1114111 ∧ (x < 55296 ∨ 57343 < x) := by rw [beq_iff_eq]; exact scal_iff x
  cases all with
  | false => simp only [go_sem, l9x0, b9, Try.f9, hd, hx, hw, Bool.false_and]
  | true =>
    by_cases h0 : 0 ≤ x
    · have t0 : decide (0 ≤ x) = true := by simpa using h0
      by_cases h1 : x ≤ 1114111
      · have t1 : decide (x ≤ 1114111) = true := by simpa using h1
        by_cases h2 : x < 55296
        · have t2 : decide (x < 55296) = true := by simpa using h2
          have e : (scal x == x) = true := hs.mpr ⟨h0, h1, .inl h2⟩
          simp only [go_sem, l9x0, b9, Try.f9, hd, hx, hw, t0, t1, t2, e, Bool.and_self]
        · have t2 : decide (x < 55296) = false := by simp; omega
          have e : (scal x == x) = decide (57343 < x) := by
            by_cases h3 : 57343 < x
            · rw [hs.mpr ⟨h0, h1, .inr h3⟩]; simp [h3]
            · have : ¬ (scal x == x) = true := fun hh => by have := hs.mp hh; omega
              rw [Bool.not_eq_true] at this
              rw [this]; simp [h3]
          simp only [go_sem, l9x0, b9, Try.f9, hd, hx, hw, t0, t1, t2, e, Bool.true_and]
      · have t1 : decide (x ≤ 1114111) = false := by simp; omega
        have e : (scal x == x) = false := by
          have : ¬ (scal x == x) = true := fun hh => by have := hs.mp hh; omega
          simpa using this
        simp only [go_sem, l9x0, b9, Try.f9, hd, hx, hw, t0, t1, e, Bool.and_false]
    · have t0 : decide (0 ≤ x) = false := by simp; omega
      have e : (scal x == x) = false := by
        have : ¬ (scal x == x) = true := fun hh => by have := hs.mp hh; omega
        simpa using this
      simp only [go_sem, l9x0, b9, Try.f9, hd, hx, hw, t0, e, Bool.and_false]

theorem loop9 {lo : Nat} {l b : List Int} {h : Heap} (hl : l.length ≤ 1000000000) : ∀ (n i : Nat) (all : Bool), n = l.length - i → i ≤ l.length →
   loopW (evCode ⟨Try.prog, E, lo, h.length, h9⟩ loopW l9x0) ([(0, .list .no (ri .i32 l)), (1, .list .no (ri .u8 b)), (5, .v (.bool all)), (9, .list .no (ri .i32 l)), (10, .v (.int .i64 l.length)), (11, .v (.int .i64 i))], h) =
     some (.exit 0, [(0, .list .no (ri .i32 l)), (1, .list .no (ri .u8 b)), (5, .v (.bool (all && (l.drop i).all fun x => scal x == x))), (9, .list .no (ri .i32 l)), (10, .v (.int .i64 l.length)), (11, .v (.int .i64 l.length)), (12, .v (.bool false))], h) := by
  intro n
  induction n with
  | zero =>
    intro i all hn hi
    obtain rfl : i = l.length := by omega
    rw [loop_eq]
    have hd : decide ((l.length : Int) < l.length) = false := by simp
    simp only [go_sem, l9x0, b9, Try.f9, hd, List.drop_length, List.all_nil, Bool.and_true]
  | succ n ih =>
    intro i all hn hi
    have hlt : i < l.length := by omega
    have hx : l[i]? = some l[i] := List.getElem?_eq_getElem hlt
    rw [loop_eq, round9 hx hlt hl, loop_n, ih (i + 1) _ (by omega) (by omega), List.drop_eq_getElem_cons hlt, List.all_cons, Bool.and_assoc]

/-- the law UtfBack answers true -/
theorem f9 {lo : Nat} {l b : List Int} {h : Heap} (hl : l.length ≤ 1048576) (hb : b.length ≤ 1048576) (hy : By b) : E lo 9 [.list .no (ri .i32 l), .list .no (ri .u8 b)] h = some (.v (.bool true), h) := by
  have h1 : l.length ≤ 1000000000 := by omega
  have h2 : b.length ≤ 1000000000 := by omega
  have hc := raw_count b
  have hL := loop9 (lo := lo) (h := h) (b := b) h1 _ 0 true rfl (by omega)
  simp only [l9x0, b9, Try.f9, loopAt, loops, bodyOf, go_sem, List.drop_zero, Bool.true_and] at hL
  have he : (encs l).length ≤ 4 * l.length := encs_len l
  have k1 := fun lo h => f12 (lo := lo) (h := h) (l := l) (by omega)
  have k2 := fun lo h => f17 (lo := lo) (h := h) (b := encs l) (by omega) (encs_by l)
  have k3 := fun lo h => f16 (lo := lo) (h := h) (a := l.map scal) (b := l) (by rw [List.length_map]; omega)
  have k4 := fun lo h => f20 (lo := lo) (h := h) (b := encs l) (by omega) (encs_by l)
  have k5 := fun lo h => f17 (lo := lo) (h := h) (b := b) h2 hy
  have k6 := fun lo h => f12 (lo := lo) (h := h) (l := raw b) (by omega)
  have k7 := fun lo h => f11 (lo := lo) (h := h) (a := encs (raw b)) (b := b) (by have : (encs (raw b)).length ≤ 4 * (raw b).length := encs_len _; omega)
  have k8 := fun lo h => f20 (lo := lo) (h := h) (b := b) (by omega) hy
  have k1' : ∀ lo h, E lo 12 [.list .no (ri .i32 l)] h = some (.list .no (ri .u8 (encs l)), h) := k1
  have k6' : ∀ lo h, E lo 12 [.list .no (ri .i32 (raw b))] h = some (.list .no (ri .u8 (encs (raw b))), h) := k6
  rw [(raw_encs l).1] at k2
  rw [(raw_encs l).2] at k4
  rw [all_eq] at k3
  rw [back_eq hy] at k7
  have e1 : ((l.all fun x => scal x == x) == (l.all fun x => scal x == x)) = true := by simp
  have e2 : (whole b == whole b) = true := by simp
  rw [e9 (by simp) (by rfl)]
  simp only [go_sem, b9, Try.f9, hL, k1', k2, k3, k4, k5, k6', k7, k8, e1, e2, f19]

theorem round10 {lo i : Nat} {l : List Int} {h : Heap} {x : Int} (hx : l[i]? = some x) (hi : i < l.length) (hl : l.length ≤ 1000000000) (hf : fine x) :
   evCode ⟨Try.prog, E, lo, h.length, h10⟩ loopW l10x0 ([(3, .list .no (ri .i32 l)), (8, .list .no (ri .i32 l)), (9, .v (.int .i64 l.length)), (10, .v (.int .i64 i))], h) =
     some (.normal, [(3, .list .no (ri .i32 l)), (8, .list .no (ri .i32 l)), (9, .v (.int .i64 l.length)), (10, .v (.int .i64 (i + 1 : Nat)))], h) := by
  have hd : decide ((i : Int) < l.length) = true := by simpa using hi
  have hw : IntKind.i64.wrap ((i : Int) + 1) = ((i + 1 : Nat) : Int) := wrap_succ (by omega)
  obtain ⟨f0, f1, f2, f3⟩ := hf
  have f3 := (scal_iff x).mp f3
  have t0 : (x == 0) = false := by simp [f0]
  have t1 : (x == 12) = false := by simp [f1]
  have t2 : (x == 13) = false := by simp [f2]
  have t3 : decide (x < 0) = false := by simp; omega
  have t4 : decide (1114111 < x) = false := by simp; omega
  simp only [go_sem, l10x0, b10, Try.f10, hd, hx, hw, t0, t1, t2, t3, t4]

theorem loop10 {lo : Nat} {l : List Int} {h : Heap} (hl : l.length ≤ 1000000000) (hf : ∀ x ∈ l, fine x) : ∀ (n i : Nat), n = l.length - i → i ≤ l.length →
   loopW (evCode ⟨Try.prog, E, lo, h.length, h10⟩ loopW l10x0) ([(3, .list .no (ri .i32 l)), (8, .list .no (ri .i32 l)), (9, .v (.int .i64 l.length)), (10, .v (.int .i64 i))], h) =
     some (.exit 0, [(3, .list .no (ri .i32 l)), (8, .list .no (ri .i32 l)), (9, .v (.int .i64 l.length)), (10, .v (.int .i64 l.length)), (11, .v (.bool false))], h) := by
  intro n
  induction n with
  | zero =>
    intro i hn hi
    obtain rfl : i = l.length := by omega
    rw [loop_eq]
    have hd : decide ((l.length : Int) < l.length) = false := by simp
    simp only [go_sem, l10x0, b10, Try.f10, hd]
  | succ n ih =>
    intro i hn hi
    have hlt : i < l.length := by omega
    have hx : l[i]? = some l[i] := List.getElem?_eq_getElem hlt
    rw [loop_eq, round10 hx hlt hl (hf _ (List.getElem_mem hlt)), loop_n, ih (i + 1) (by omega) (by omega)]

/-- the law UtfOnce answers true -/
theorem f10 {lo : Nat} {b : List Int} {h : Heap} (hb : b.length ≤ 1048576) (hy : By b) : E lo 10 [.list .no (ri .u8 b)] h = some (.v (.bool true), h) := by
  have h2 : b.length ≤ 1000000000 := by omega
  have hc := decode_len b
  have hf := decode_fine hy
  have k0 := fun lo h => f22 (lo := lo) (h := h) (b := b) h2 hy
  generalize Utf.decode b = l at hc hf k0
  have h1 : l.length ≤ 1000000000 := by omega
  have hL := loop10 (lo := lo) (h := h) h1 hf _ 0 rfl (by omega)
  simp only [l10x0, b10, Try.f10, loopAt, loops, bodyOf, go_sem] at hL
  have he : (encs l).length ≤ 4 * l.length := encs_len l
  have k1 : ∀ lo h, E lo 12 [.list .no (ri .i32 l)] h = some (.list .no (ri .u8 (encs l)), h) := fun lo h => f12 (lo := lo) (h := h) (l := l) (by omega)
  have k2 := fun lo h => f22 (lo := lo) (h := h) (b := encs l) (by omega) (encs_by l)
  have k3 := fun lo h => f16 (lo := lo) (h := h) (a := l) (b := l) (by omega)
  simp only [beq_self_eq_true] at k3
  rw [e10 (by simp) (by rfl)]
  by_cases hn : 0 < l.length
  · have t0 : decide ((0 : Int) < l.length) = true := by simpa using hn
    have hx : l[0]? = some l[0] := List.getElem?_eq_getElem hn
    cases h3 : l[0] == 65279 with
    | true => simp only [go_sem, b10, Try.f10, k0, hL, t0, hx, h3, f19]
    | false =>
      have h4 : l[0]? ≠ some 65279 := by rw [hx]; simp at h3; simpa using h3
      rw [decode_again hf h4] at k2
      simp only [go_sem, b10, Try.f10, k0, hL, t0, hx, h3, f19, k1, k2, k3]
  · have t0 : decide ((0 : Int) < l.length) = false := decide_eq_false (by omega)
    have h4 : l[0]? ≠ some 65279 := by rw [List.getElem?_eq_none (by omega)]; simp
    rw [decode_again hf h4] at k2
    have hx : l[0]? = none := List.getElem?_eq_none (by omega)
    simp only [go_sem, b10, Try.f10, k0, hL, t0, hx, f19, k1, k2, k3]
end Go.Lift.R1
