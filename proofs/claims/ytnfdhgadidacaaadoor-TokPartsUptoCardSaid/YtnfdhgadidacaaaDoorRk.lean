/- The law TokParts, evaluated. -/
import Derived.Test.YtnfdhgadidacaaaDoorRh
import Derived.Test.YtnfdhgadidacaaaDoorTa
section
/- The law TokParts, evaluated. -/
open Go.Proofs
namespace Go.Lift.D3
open Utf Tok
set_option maxRecDepth 20000
set_option maxHeartbeats 4000000
set_option linter.unusedSimpArgs false
set_option linter.unusedVariables false

section
variable {lo N k : Nat} {a b : List Int} {h : Heap}
abbrev S4 (a b : List Int) (k : Nat) (h : Heap) : Env × Heap := ([(0, .list .no (ri .u8 a)), (1, .list .no (ri .u8 b)), (5, .v (.int .i64 k))], h)
abbrev ret4 (h : Heap) : Option (Ex × Env × Heap) := some (.ret, [(4, .v (.bool true))], h)
/-- does a byte open something? -/
def opens (c : Int) (n : Option Int) : Bool := c == 34 || c == 39 || c == 92 || c == 40 || c == 47 && n == some 42 || decide (128 ≤ c)
theorem round4 (hlo : lo ≤ h.length) {c : Int} (hk : k < a.length) (hx : a[k]? = some c) (hl : a.length ≤ 1000000000) :
    evCode ⟨Tryd.prog, E, lo, N, h4⟩ loopW l4x0 (S4 a b k h) = if opens c a[k + 1]? = true then ret4 h else some (.normal, S4 a b (k + 1) h) := by
  have hlt : decide ((k : Int) < (a.length : Int)) = true := by simp; omega
  have hw : IntKind.i64.wrap ((k : Int) + 1) = ((k + 1 : Nat) : Int) := wrap_succ (by omega)
  have k8 := f8 (lo := lo) (h := h) hlo
  unfold opens
  by_cases c34 : c = 34
  · subst c34
    have q : ((34 : Int) == 34) = true := rfl
    rw [if_pos (by simp)]
    simp only [go_sem, S4, l4x0, b4, Tryd.f4, hlt, hw, hx, k8, q]
    all_goals rfl
  have q34 : (c == 34) = false := by simp [c34]
  by_cases c39 : c = 39
  · subst c39
    have q : ((39 : Int) == 39) = true := rfl
    rw [if_pos (by simp)]
    simp only [go_sem, S4, l4x0, b4, Tryd.f4, hlt, hw, hx, k8, q, q34]
    all_goals rfl
  have q39 : (c == 39) = false := by simp [c39]
  by_cases c92 : c = 92
  · subst c92
    have q : ((92 : Int) == 92) = true := rfl
    rw [if_pos (by simp)]
    simp only [go_sem, S4, l4x0, b4, Tryd.f4, hlt, hw, hx, k8, q, q34, q39]
    all_goals rfl
  have q92 : (c == 92) = false := by simp [c92]
  by_cases c40 : c = 40
  · subst c40
    have q : ((40 : Int) == 40) = true := rfl
    rw [if_pos (by simp)]
    simp only [go_sem, S4, l4x0, b4, Tryd.f4, hlt, hw, hx, k8, q, q34, q39, q92]
    all_goals rfl
  have q40 : (c == 40) = false := by simp [c40]
  by_cases c47 : c = 47
  · subst c47
    have q : ((47 : Int) == 47) = true := rfl
    have q128 : decide (128 ≤ (47 : Int)) = false := rfl
    rcases Nat.lt_or_ge (k + 1) a.length with h1 | h1
    · have hn : a[k + 1]? = some a[k + 1] := List.getElem?_eq_getElem h1
      have hlt2 : decide (((k + 1 : Nat) : Int) < (a.length : Int)) = true := by simp only [decide_eq_true_eq]; omega
      generalize a[k + 1] = d at *
      rw [hn]
      by_cases d42 : d = 42
      · subst d42
        have q2 : ((42 : Int) == 42) = true := rfl
        rw [if_pos (by simp)]
        simp only [go_sem, S4, l4x0, b4, Tryd.f4, hlt, hw, hx, k8, q, q34, q39, q92, q40, hlt2, hn, q2]
        all_goals rfl
      · have q2 : (d == 42) = false := by simp [d42]
        rw [if_neg (by simp [d42])]
        simp only [go_sem, S4, l4x0, b4, Tryd.f4, hlt, hw, hx, k8, q, q34, q39, q92, q40, hlt2, hn, q2, q128]
        all_goals rfl
    · have hlt2 : decide (((k + 1 : Nat) : Int) < (a.length : Int)) = false := by simp only [decide_eq_false_iff_not]; omega
      have hn : a[k + 1]? = none := List.getElem?_eq_none h1
      rw [hn, if_neg (by simp)]
      simp only [go_sem, S4, l4x0, b4, Tryd.f4, hlt, hw, hx, k8, q, q34, q39, q92, q40, hlt2, q128]
      all_goals rfl
  have q47 : (c == 47) = false := by simp [c47]
  by_cases c128 : 128 ≤ c
  · have q : decide (128 ≤ c) = true := by simp [c128]
    rw [if_pos (by simp [c128])]
    simp only [go_sem, S4, l4x0, b4, Tryd.f4, hlt, hw, hx, k8, q, q34, q39, q92, q40, q47]
    all_goals rfl
  · have q : decide (128 ≤ c) = false := by simp; omega
    rw [if_neg (by simp [q34, q39, q92, q40, q47, c128, c34, c39, c92, c40, c47])]
    simp only [go_sem, S4, l4x0, b4, Tryd.f4, hlt, hw, hx, k8, q, q34, q39, q92, q40, q47]
    all_goals rfl
theorem loop4 (hlo : lo ≤ h.length) (ha : By a) (hl : a.length ≤ 1000000000) : ∀ (m k : Nat), a.length - k ≤ m → k ≤ a.length →
    loopW (evCode ⟨Tryd.prog, E, lo, N, h4⟩ loopW l4x0) (S4 a b k h) = ret4 h ∨
      (loopW (evCode ⟨Tryd.prog, E, lo, N, h4⟩ loopW l4x0) (S4 a b k h) =
        some (.exit 0, [(0, .list .no (ri .u8 a)), (1, .list .no (ri .u8 b)), (5, .v (.int .i64 a.length)), (13, .v (.bool false))], h) ∧ (∀ c ∈ a.drop k, calm c) ∧ adj (a.drop k) = false) := by
  have stop : ∀ k, k = a.length → loopW (evCode ⟨Tryd.prog, E, lo, N, h4⟩ loopW l4x0) (S4 a b k h) =
        some (.exit 0, [(0, .list .no (ri .u8 a)), (1, .list .no (ri .u8 b)), (5, .v (.int .i64 a.length)), (13, .v (.bool false))], h) ∧ (∀ c ∈ a.drop k, calm c) ∧ adj (a.drop k) = false := by
    rintro k rfl
    have hlt : decide ((a.length : Int) < (a.length : Int)) = false := by simp
    refine ⟨?_, by simp, by simp [adj]⟩
    rw [loop_eq]
    simp only [go_sem, S4, l4x0, b4, Tryd.f4, hlt]
  intro m
  induction m with
  | zero => intro k h1 h2; exact .inr (stop k (by omega))
  | succ m ih =>
    intro k h1 h2
    rcases Nat.lt_or_ge k a.length with hk | hk
    rotate_left
    · exact .inr (stop k (by omega))
    have hx : a[k]? = some a[k] := List.getElem?_eq_getElem hk
    have hby := ha a[k] (List.getElem_mem hk)
    have hr := round4 (b := b) (N := N) hlo hk hx hl
    have hd : a.drop k = a[k] :: a.drop (k + 1) := List.drop_eq_getElem_cons hk
    rw [hd]
    generalize a[k] = c at *
    by_cases ho : opens c a[k + 1]? = true
    · rw [if_pos ho] at hr
      left
      rw [loop_eq, hr]
      rfl
    · rw [if_neg ho] at hr
      rw [loop_eq, hr, loop_n]
      rcases ih (k + 1) (by omega) hk with h3 | ⟨h3, h4, h5⟩
      · exact .inl h3
      · refine .inr ⟨h3, ?_, ?_⟩
        · intro x hx
          rcases List.mem_cons.1 hx with rfl | hx
          · unfold opens at ho
            simp at ho
            simp only [calm]
            omega
          · exact h4 x hx
        · have hn : a[k + 1]? = (a.drop (k + 1))[0]? := by simp
          rw [hn] at ho
          cases hd2 : a.drop (k + 1) with
          | nil => rfl
          | cons d t =>
            rw [hd2] at ho h5
            simp only [adj, h5, Bool.or_false]
            unfold opens at ho
            simp at ho
            simp
            intro h47
            exact ho.1.2 h47
end
end Go.Lift.D3
end

section
/- The law TokParts, evaluated: behind its loop. Written by a program (mkparts.py). -/
open Go.Proofs
namespace Go.Lift.D3
open Utf Tok
set_option maxRecDepth 20000
set_option maxHeartbeats 4000000
set_option linter.unusedSimpArgs false
set_option linter.unusedVariables false

section
variable {lo N k : Nat} {a b : List Int} {h : Heap}
theorem toks_rows (X Y : List Tk) (t : Tk) : ((X ++ t :: Y).map tkC).take X.length = X.map tkC ∧ ((X ++ t :: Y).map tkC).drop (X.length + 1) = Y.map tkC ∧ ((X ++ t :: Y).map tkC)[X.length]? = some (tkC t) := by
  refine ⟨?_, ?_, ?_⟩
  · rw [List.map_append, List.take_append_of_le_length (by simp), List.take_of_length_le (by simp)]
  · rw [List.map_append, List.drop_append, List.drop_eq_nil_of_le (by simp)]
    simp
  · simp
theorem btoks_len (a : List Int) : (btoks a).length ≤ a.length := by
  have h1 := toks_len ((Utf.decode a).map scal)
  have h2 := decode_len a
  rw [List.length_map] at h1
  unfold btoks; omega
noncomputable abbrev X4 (lo : Nat) (h : Heap) : Cx := ⟨Tryd.prog, E, lo, h.length, h4⟩
abbrev end4 (a b : List Int) (h : Heap) : Option (Ex × Env × Heap) := some (.exit 0, [(0, .list .no (ri .u8 a)), (1, .list .no (ri .u8 b)), (5, .v (.int .i64 a.length)), (13, .v (.bool false))], h)
theorem tail4a (hlo : lo ≤ h.length) (ha : By a) (hl : a.length ≤ 100000000) (hb : By b) (hm : b.length ≤ 100000000) (hc : ∀ c ∈ a, calm c) (hj : adj a = false) (hn : bom b = false)
    (hq : decide (2 < (b.length : Int)) = false)
    (hL : loopW (evCode (X4 lo h) loopW l4x0) (S4 a b 0 h) = end4 a b h) :
    E lo 4 [.list .no (ri .u8 a), .list .no (ri .u8 b)] h = some (.v (.bool true), h) := by
  have hyC : By (a ++ 59 :: b) := by
    intro c hc
    rcases List.mem_append.1 hc with hc | hc
    · exact ha c hc
    · rcases List.mem_cons.1 hc with rfl | hc
      · decide
      · exact hb c hc
  have k1 := f9 (lo := lo) (b := a) (h := h) (by omega) ha hlo
  have k2 := f9 (lo := lo) (b := b) (h := h) (by omega) hb hlo
  have k3 := f9 (lo := lo) (b := a ++ 59 :: b) (h := h) (by simp; omega) hyC hlo
  have k8 := f8 (lo := lo) (h := h) hlo
  have hlenA := btoks_len a
  have hlenB := btoks_len b
  have hZ : btoks (a ++ 59 :: b) = btoks a ++ tk 17 [] :: btoks b := semi_bytes hc hj hb hn
  rw [hZ] at k3
  generalize btoks a = X at *
  generalize btoks b = Y at *
  obtain ⟨t1, t2, t3⟩ := toks_rows X Y (tk 17 [])
  have s1 := f10 (lo := lo) (h := h) X (by omega)
  have s2 := f10 (lo := lo) (h := h) Y (by omega)
  have q3 := eq_self_tk (tk 17 [])
  have app : ri .u8 a ++ [V.v (.int .u8 59)] :: ri .u8 b = ri .u8 (a ++ 59 :: b) := by rw [← ri_cons, ri_app]
  have n0 : ((0 : Nat) : Int) = 0 := rfl
  simp only [X4, S4, end4, n0, l4x0, b4, Tryd.f4, loopAt, loops, bodyOf, go_sem] at hL
  have t4 : ((X ++ tk 17 [] :: Y).map tkC)[X.length]? = some [.v (.int .i64 17), .v (.string ByteArray.empty), .v (.int .i64 0), .v (.int .i64 0), .v (.bool false), .v (.bool false)] := t3
  have t5 : (((X ++ tk 17 [] :: Y).map tkC).take (X ++ tk 17 [] :: Y).length).drop (X.length + 1) = Y.map tkC := by rw [List.take_of_length_le (by simp), t2]
  have w1 : IntKind.i64.wrap ((X.length : Int) + 1) = ((X.length + 1 : Nat) : Int) := wrap_succ (by omega)
  have w2 : IntKind.i64.wrap (((X.length + 1 : Nat) : Int) + (Y.length : Int)) = ((X.length + 1 + Y.length : Nat) : Int) := wrap_i64 (by omega) (by omega)
  have n1 : (((X ++ tk 17 [] :: Y).length : Int) != ((X.length + 1 + Y.length : Nat) : Int)) = false := by simp; omega
  have z0 := Nat.zero_le X.length
  have z1 : X.length ≤ (X ++ tk 17 [] :: Y).length := by simp
  have z2 : X.length + 1 ≤ (X ++ tk 17 [] :: Y).length := by simp
  have all := tk_all (X ++ tk 17 [] :: Y)
  simp only [tkC, tk, str_nil] at q3
  have g1 : (0 + a.length) * 1 ≤ 140737488355328 := by omega
  have g2 : 0 + a.length ≤ 9223372036854775807 := by omega
  have g3 : (a.length + 1) * 1 ≤ 140737488355328 := by omega
  have g4 : a.length + 1 ≤ 9223372036854775807 := by omega
  have g5 : (a.length + 1 + b.length) * 1 ≤ 140737488355328 := by omega
  have g6 : a.length + 1 + b.length ≤ 9223372036854775807 := by omega
  have g7 : (ri .u8 a ++ [[V.v (.int .u8 59)]]).length = a.length + 1 := by simp [ri]
  rw [e4 (by simp) (by rfl)]
  simp only [go_sem, b4, Tryd.f4, g7, g1, g2, g3, g4, g5, g6, hL, k1, k2, k3, k8, s1, s2, app, hq, List.length_map, w1, w2, n1, t4, t1, t5, q3, fl34, z0, z1, z2, all, Nat.le_refl]
  all_goals rfl
theorem tail4b (hlo : lo ≤ h.length) (ha : By a) (hl : a.length ≤ 100000000) (hb : By b) (hm : b.length ≤ 100000000) (hc : ∀ c ∈ a, calm c) (hj : adj a = false) (hn : bom b = false)
    {x : Int} (hq : decide (2 < (b.length : Int)) = true) (hx : b[0]? = some x) (qx : (x == 239) = false)
    (hL : loopW (evCode (X4 lo h) loopW l4x0) (S4 a b 0 h) = end4 a b h) :
    E lo 4 [.list .no (ri .u8 a), .list .no (ri .u8 b)] h = some (.v (.bool true), h) := by
  have hyC : By (a ++ 59 :: b) := by
    intro c hc
    rcases List.mem_append.1 hc with hc | hc
    · exact ha c hc
    · rcases List.mem_cons.1 hc with rfl | hc
      · decide
      · exact hb c hc
  have k1 := f9 (lo := lo) (b := a) (h := h) (by omega) ha hlo
  have k2 := f9 (lo := lo) (b := b) (h := h) (by omega) hb hlo
  have k3 := f9 (lo := lo) (b := a ++ 59 :: b) (h := h) (by simp; omega) hyC hlo
  have k8 := f8 (lo := lo) (h := h) hlo
  have hlenA := btoks_len a
  have hlenB := btoks_len b
  have hZ : btoks (a ++ 59 :: b) = btoks a ++ tk 17 [] :: btoks b := semi_bytes hc hj hb hn
  rw [hZ] at k3
  generalize btoks a = X at *
  generalize btoks b = Y at *
  obtain ⟨t1, t2, t3⟩ := toks_rows X Y (tk 17 [])
  have s1 := f10 (lo := lo) (h := h) X (by omega)
  have s2 := f10 (lo := lo) (h := h) Y (by omega)
  have q3 := eq_self_tk (tk 17 [])
  have app : ri .u8 a ++ [V.v (.int .u8 59)] :: ri .u8 b = ri .u8 (a ++ 59 :: b) := by rw [← ri_cons, ri_app]
  have n0 : ((0 : Nat) : Int) = 0 := rfl
  simp only [X4, S4, end4, n0, l4x0, b4, Tryd.f4, loopAt, loops, bodyOf, go_sem] at hL
  have t4 : ((X ++ tk 17 [] :: Y).map tkC)[X.length]? = some [.v (.int .i64 17), .v (.string ByteArray.empty), .v (.int .i64 0), .v (.int .i64 0), .v (.bool false), .v (.bool false)] := t3
  have t5 : (((X ++ tk 17 [] :: Y).map tkC).take (X ++ tk 17 [] :: Y).length).drop (X.length + 1) = Y.map tkC := by rw [List.take_of_length_le (by simp), t2]
  have w1 : IntKind.i64.wrap ((X.length : Int) + 1) = ((X.length + 1 : Nat) : Int) := wrap_succ (by omega)
  have w2 : IntKind.i64.wrap (((X.length + 1 : Nat) : Int) + (Y.length : Int)) = ((X.length + 1 + Y.length : Nat) : Int) := wrap_i64 (by omega) (by omega)
  have n1 : (((X ++ tk 17 [] :: Y).length : Int) != ((X.length + 1 + Y.length : Nat) : Int)) = false := by simp; omega
  have z0 := Nat.zero_le X.length
  have z1 : X.length ≤ (X ++ tk 17 [] :: Y).length := by simp
  have z2 : X.length + 1 ≤ (X ++ tk 17 [] :: Y).length := by simp
  have all := tk_all (X ++ tk 17 [] :: Y)
  simp only [tkC, tk, str_nil] at q3
  have g1 : (0 + a.length) * 1 ≤ 140737488355328 := by omega
  have g2 : 0 + a.length ≤ 9223372036854775807 := by omega
  have g3 : (a.length + 1) * 1 ≤ 140737488355328 := by omega
  have g4 : a.length + 1 ≤ 9223372036854775807 := by omega
  have g5 : (a.length + 1 + b.length) * 1 ≤ 140737488355328 := by omega
  have g6 : a.length + 1 + b.length ≤ 9223372036854775807 := by omega
  have g7 : (ri .u8 a ++ [[V.v (.int .u8 59)]]).length = a.length + 1 := by simp [ri]
  rw [e4 (by simp) (by rfl)]
  simp only [go_sem, b4, Tryd.f4, g7, g1, g2, g3, g4, g5, g6, hL, k1, k2, k3, k8, s1, s2, app, hq, hx, qx, List.length_map, w1, w2, n1, t4, t1, t5, q3, fl34, z0, z1, z2, all, Nat.le_refl]
  all_goals rfl
theorem tail4c (hlo : lo ≤ h.length) (ha : By a) (hl : a.length ≤ 100000000) (hb : By b) (hm : b.length ≤ 100000000) (hc : ∀ c ∈ a, calm c) (hj : adj a = false) (hn : bom b = false)
    {x y : Int} (hq : decide (2 < (b.length : Int)) = true) (hx : b[0]? = some x) (qx : (x == 239) = true) (hy : b[1]? = some y) (qy : (y == 187) = false)
    (hL : loopW (evCode (X4 lo h) loopW l4x0) (S4 a b 0 h) = end4 a b h) :
    E lo 4 [.list .no (ri .u8 a), .list .no (ri .u8 b)] h = some (.v (.bool true), h) := by
  have hyC : By (a ++ 59 :: b) := by
    intro c hc
    rcases List.mem_append.1 hc with hc | hc
    · exact ha c hc
    · rcases List.mem_cons.1 hc with rfl | hc
      · decide
      · exact hb c hc
  have k1 := f9 (lo := lo) (b := a) (h := h) (by omega) ha hlo
  have k2 := f9 (lo := lo) (b := b) (h := h) (by omega) hb hlo
  have k3 := f9 (lo := lo) (b := a ++ 59 :: b) (h := h) (by simp; omega) hyC hlo
  have k8 := f8 (lo := lo) (h := h) hlo
  have hlenA := btoks_len a
  have hlenB := btoks_len b
  have hZ : btoks (a ++ 59 :: b) = btoks a ++ tk 17 [] :: btoks b := semi_bytes hc hj hb hn
  rw [hZ] at k3
  generalize btoks a = X at *
  generalize btoks b = Y at *
  obtain ⟨t1, t2, t3⟩ := toks_rows X Y (tk 17 [])
  have s1 := f10 (lo := lo) (h := h) X (by omega)
  have s2 := f10 (lo := lo) (h := h) Y (by omega)
  have q3 := eq_self_tk (tk 17 [])
  have app : ri .u8 a ++ [V.v (.int .u8 59)] :: ri .u8 b = ri .u8 (a ++ 59 :: b) := by rw [← ri_cons, ri_app]
  have n0 : ((0 : Nat) : Int) = 0 := rfl
  simp only [X4, S4, end4, n0, l4x0, b4, Tryd.f4, loopAt, loops, bodyOf, go_sem] at hL
  have t4 : ((X ++ tk 17 [] :: Y).map tkC)[X.length]? = some [.v (.int .i64 17), .v (.string ByteArray.empty), .v (.int .i64 0), .v (.int .i64 0), .v (.bool false), .v (.bool false)] := t3
  have t5 : (((X ++ tk 17 [] :: Y).map tkC).take (X ++ tk 17 [] :: Y).length).drop (X.length + 1) = Y.map tkC := by rw [List.take_of_length_le (by simp), t2]
  have w1 : IntKind.i64.wrap ((X.length : Int) + 1) = ((X.length + 1 : Nat) : Int) := wrap_succ (by omega)
  have w2 : IntKind.i64.wrap (((X.length + 1 : Nat) : Int) + (Y.length : Int)) = ((X.length + 1 + Y.length : Nat) : Int) := wrap_i64 (by omega) (by omega)
  have n1 : (((X ++ tk 17 [] :: Y).length : Int) != ((X.length + 1 + Y.length : Nat) : Int)) = false := by simp; omega
  have z0 := Nat.zero_le X.length
  have z1 : X.length ≤ (X ++ tk 17 [] :: Y).length := by simp
  have z2 : X.length + 1 ≤ (X ++ tk 17 [] :: Y).length := by simp
  have all := tk_all (X ++ tk 17 [] :: Y)
  simp only [tkC, tk, str_nil] at q3
  have g1 : (0 + a.length) * 1 ≤ 140737488355328 := by omega
  have g2 : 0 + a.length ≤ 9223372036854775807 := by omega
  have g3 : (a.length + 1) * 1 ≤ 140737488355328 := by omega
  have g4 : a.length + 1 ≤ 9223372036854775807 := by omega
  have g5 : (a.length + 1 + b.length) * 1 ≤ 140737488355328 := by omega
  have g6 : a.length + 1 + b.length ≤ 9223372036854775807 := by omega
  have g7 : (ri .u8 a ++ [[V.v (.int .u8 59)]]).length = a.length + 1 := by simp [ri]
  rw [e4 (by simp) (by rfl)]
  simp only [go_sem, b4, Tryd.f4, g7, g1, g2, g3, g4, g5, g6, hL, k1, k2, k3, k8, s1, s2, app, hq, hx, qx, hy, qy, List.length_map, w1, w2, n1, t4, t1, t5, q3, fl34, z0, z1, z2, all, Nat.le_refl]
  all_goals rfl
theorem tail4d (hlo : lo ≤ h.length) (ha : By a) (hl : a.length ≤ 100000000) (hb : By b) (hm : b.length ≤ 100000000) (hc : ∀ c ∈ a, calm c) (hj : adj a = false) (hn : bom b = false)
    {x y z : Int} (hq : decide (2 < (b.length : Int)) = true) (hx : b[0]? = some x) (qx : (x == 239) = true) (hy : b[1]? = some y) (qy : (y == 187) = true) (hz : b[2]? = some z) (qz : (z == 191) = false)
    (hL : loopW (evCode (X4 lo h) loopW l4x0) (S4 a b 0 h) = end4 a b h) :
    E lo 4 [.list .no (ri .u8 a), .list .no (ri .u8 b)] h = some (.v (.bool true), h) := by
  have hyC : By (a ++ 59 :: b) := by
    intro c hc
    rcases List.mem_append.1 hc with hc | hc
    · exact ha c hc
    · rcases List.mem_cons.1 hc with rfl | hc
      · decide
      · exact hb c hc
  have k1 := f9 (lo := lo) (b := a) (h := h) (by omega) ha hlo
  have k2 := f9 (lo := lo) (b := b) (h := h) (by omega) hb hlo
  have k3 := f9 (lo := lo) (b := a ++ 59 :: b) (h := h) (by simp; omega) hyC hlo
  have k8 := f8 (lo := lo) (h := h) hlo
  have hlenA := btoks_len a
  have hlenB := btoks_len b
  have hZ : btoks (a ++ 59 :: b) = btoks a ++ tk 17 [] :: btoks b := semi_bytes hc hj hb hn
  rw [hZ] at k3
  generalize btoks a = X at *
  generalize btoks b = Y at *
  obtain ⟨t1, t2, t3⟩ := toks_rows X Y (tk 17 [])
  have s1 := f10 (lo := lo) (h := h) X (by omega)
  have s2 := f10 (lo := lo) (h := h) Y (by omega)
  have q3 := eq_self_tk (tk 17 [])
  have app : ri .u8 a ++ [V.v (.int .u8 59)] :: ri .u8 b = ri .u8 (a ++ 59 :: b) := by rw [← ri_cons, ri_app]
  have n0 : ((0 : Nat) : Int) = 0 := rfl
  simp only [X4, S4, end4, n0, l4x0, b4, Tryd.f4, loopAt, loops, bodyOf, go_sem] at hL
  have t4 : ((X ++ tk 17 [] :: Y).map tkC)[X.length]? = some [.v (.int .i64 17), .v (.string ByteArray.empty), .v (.int .i64 0), .v (.int .i64 0), .v (.bool false), .v (.bool false)] := t3
  have t5 : (((X ++ tk 17 [] :: Y).map tkC).take (X ++ tk 17 [] :: Y).length).drop (X.length + 1) = Y.map tkC := by rw [List.take_of_length_le (by simp), t2]
  have w1 : IntKind.i64.wrap ((X.length : Int) + 1) = ((X.length + 1 : Nat) : Int) := wrap_succ (by omega)
  have w2 : IntKind.i64.wrap (((X.length + 1 : Nat) : Int) + (Y.length : Int)) = ((X.length + 1 + Y.length : Nat) : Int) := wrap_i64 (by omega) (by omega)
  have n1 : (((X ++ tk 17 [] :: Y).length : Int) != ((X.length + 1 + Y.length : Nat) : Int)) = false := by simp; omega
  have z0 := Nat.zero_le X.length
  have z1 : X.length ≤ (X ++ tk 17 [] :: Y).length := by simp
  have z2 : X.length + 1 ≤ (X ++ tk 17 [] :: Y).length := by simp
  have all := tk_all (X ++ tk 17 [] :: Y)
  simp only [tkC, tk, str_nil] at q3
  have g1 : (0 + a.length) * 1 ≤ 140737488355328 := by omega
  have g2 : 0 + a.length ≤ 9223372036854775807 := by omega
  have g3 : (a.length + 1) * 1 ≤ 140737488355328 := by omega
  have g4 : a.length + 1 ≤ 9223372036854775807 := by omega
  have g5 : (a.length + 1 + b.length) * 1 ≤ 140737488355328 := by omega
  have g6 : a.length + 1 + b.length ≤ 9223372036854775807 := by omega
  have g7 : (ri .u8 a ++ [[V.v (.int .u8 59)]]).length = a.length + 1 := by simp [ri]
  rw [e4 (by simp) (by rfl)]
  simp only [go_sem, b4, Tryd.f4, g7, g1, g2, g3, g4, g5, g6, hL, k1, k2, k3, k8, s1, s2, app, hq, hx, qx, hy, qy, hz, qz, List.length_map, w1, w2, n1, t4, t1, t5, q3, fl34, z0, z1, z2, all, Nat.le_refl]
  all_goals rfl
theorem bom4 {x y z : Int} (hlo : lo ≤ h.length) (hq : decide (2 < (b.length : Int)) = true) (hx : b[0]? = some x) (qx : (x == 239) = true) (hy : b[1]? = some y) (qy : (y == 187) = true) (hz : b[2]? = some z) (qz : (z == 191) = true)
    (hL : loopW (evCode (X4 lo h) loopW l4x0) (S4 a b 0 h) = end4 a b h) :
    E lo 4 [.list .no (ri .u8 a), .list .no (ri .u8 b)] h = some (.v (.bool true), h) := by
  have k8 := f8 (lo := lo) (h := h) hlo
  have n0 : ((0 : Nat) : Int) = 0 := rfl
  simp only [X4, S4, end4, n0, l4x0, b4, Tryd.f4, loopAt, loops, bodyOf, go_sem] at hL
  rw [e4 (by simp) (by rfl)]
  simp only [go_sem, b4, Tryd.f4, hL, k8, hq, hx, qx, hy, qy, hz, qz]
  all_goals rfl
theorem ret4_ok (hL : loopW (evCode (X4 lo h) loopW l4x0) (S4 a b 0 h) = ret4 h) : E lo 4 [.list .no (ri .u8 a), .list .no (ri .u8 b)] h = some (.v (.bool true), h) := by
  have n0 : ((0 : Nat) : Int) = 0 := rfl
  simp only [X4, S4, ret4, n0, l4x0, b4, Tryd.f4, loopAt, loops, bodyOf, go_sem] at hL
  rw [e4 (by simp) (by rfl)]
  simp only [go_sem, b4, Tryd.f4, hL]
  all_goals rfl
/-- the law TokParts answers true -/
theorem f4 (hl : a.length ≤ 100000000) (ha : By a) (hm : b.length ≤ 100000000) (hb : By b) (hlo : lo ≤ h.length) : E lo 4 [.list .no (ri .u8 a), .list .no (ri .u8 b)] h = some (.v (.bool true), h) := by
  rcases loop4 (b := b) (N := h.length) hlo ha (by omega) a.length 0 (by omega) (Nat.zero_le _) with hL | ⟨hL, hc, hj⟩
  · exact ret4_ok hL
  rw [List.drop_zero] at hc hj
  match b, hm, hb, hL with
  | [], hm, hb, hL => exact tail4a hlo ha hl hb hm hc hj rfl (by decide) hL
  | [x], hm, hb, hL => exact tail4a hlo ha hl hb hm hc hj (by simp [bom]) (by simp) hL
  | [x, y], hm, hb, hL => exact tail4a hlo ha hl hb hm hc hj (by simp [bom]) (by simp) hL
  | x :: y :: z :: t, hm, hb, hL =>
    have hq : decide (2 < ((x :: y :: z :: t).length : Int)) = true := by simp; omega
    have hx : (x :: y :: z :: t)[0]? = some x := rfl
    have hy : (x :: y :: z :: t)[1]? = some y := rfl
    have hz : (x :: y :: z :: t)[2]? = some z := rfl
    have hbom : bom (x :: y :: z :: t) = (x == 239 && (y == 187 && z == 191)) := by simp [bom]
    cases qx : (x == 239) with
    | false => exact tail4b hlo ha hl hb hm hc hj (by rw [hbom, qx]; rfl) hq hx qx hL
    | true =>
      cases qy : (y == 187) with
      | false => exact tail4c hlo ha hl hb hm hc hj (by rw [hbom, qx, qy]; rfl) hq hx qx hy qy hL
      | true =>
        cases qz : (z == 191) with
        | false => exact tail4d hlo ha hl hb hm hc hj (by rw [hbom, qx, qy, qz]; rfl) hq hx qx hy qy hz qz hL
        | true => exact bom4 hlo hq hx qx hy qy hz qz hL
end
end Go.Lift.D3
end
