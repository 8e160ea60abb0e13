/- The law TokRemarks, evaluated. -/
import Derived.Test.YtnfdhgadidacaaaDoorRh
import Derived.Test.YtnfdhgadidacaaaDoorTa
section
/- The law TokRemarks, evaluated: its loops. -/
open Go.Proofs
namespace Go.Lift.D3
open Utf Tok
set_option maxRecDepth 20000
set_option maxHeartbeats 4000000
set_option linter.unusedSimpArgs false
set_option linter.unusedVariables false

section
variable {lo N k j : Nat} {a b u l : List Int} {h : Heap}
abbrev Q5 (a u : List Int) : V := .list .yes [[.list .no (ri .u8 a)], [.list .no (ri .u8 u)]]
abbrev S5 (a b u l : List Int) (j k : Nat) (h : Heap) : Env × Heap :=
  ([(0, .list .no (ri .u8 a)), (1, .list .no (ri .u8 b)), (2, .list .no (ri .u8 u)), (8, .list .no (ri .u8 l)), (9, .v (.int .i64 k)), (30, Q5 a u), (31, .v (.int .i64 2)), (32, .v (.int .i64 j))], h)
abbrev ret5 (h : Heap) : Option (Ex × Env × Heap) := some (.ret, [(6, .v (.bool true))], h)
/-- does a byte open or close something? -/
def opens5 (c : Int) : Bool := c == 34 || c == 39 || c == 92 || c == 40 || c == 42 || c == 47 || decide (128 ≤ c)
theorem round5 (hlo : lo ≤ h.length) {c : Int} (hk : k < l.length) (hx : l[k]? = some c) (hl : l.length ≤ 1000000000) :
    evCode ⟨Tryd.prog, E, lo, N, h5⟩ loopW l5x1 (S5 a b u l j k h) = if opens5 c = true then ret5 h else some (.normal, S5 a b u l j (k + 1) h) := by
  have hlt : decide ((k : Int) < (l.length : Int)) = true := by simp; omega
  have hw : IntKind.i64.wrap ((k : Int) + 1) = ((k + 1 : Nat) : Int) := wrap_succ (by omega)
  have k8 := f8 (lo := lo) (h := h) hlo
  unfold opens5
  by_cases c34 : c = 34
  · subst c34
    have q : ((34 : Int) == 34) = true := rfl
    rw [if_pos (by simp)]
    simp only [go_sem, S5, Q5, l5x1, b5, Tryd.f5, hlt, hw, hx, k8, q]
    all_goals rfl
  have q34 : (c == 34) = false := by simp [c34]
  by_cases c39 : c = 39
  · subst c39
    have q : ((39 : Int) == 39) = true := rfl
    rw [if_pos (by simp)]
    simp only [go_sem, S5, Q5, l5x1, b5, Tryd.f5, hlt, hw, hx, k8, q, q34]
    all_goals rfl
  have q39 : (c == 39) = false := by simp [c39]
  by_cases c92 : c = 92
  · subst c92
    have q : ((92 : Int) == 92) = true := rfl
    rw [if_pos (by simp)]
    simp only [go_sem, S5, Q5, l5x1, b5, Tryd.f5, hlt, hw, hx, k8, q, q34, q39]
    all_goals rfl
  have q92 : (c == 92) = false := by simp [c92]
  by_cases c40 : c = 40
  · subst c40
    have q : ((40 : Int) == 40) = true := rfl
    rw [if_pos (by simp)]
    simp only [go_sem, S5, Q5, l5x1, b5, Tryd.f5, hlt, hw, hx, k8, q, q34, q39, q92]
    all_goals rfl
  have q40 : (c == 40) = false := by simp [c40]
  by_cases c42 : c = 42
  · subst c42
    have q : ((42 : Int) == 42) = true := rfl
    rw [if_pos (by simp)]
    simp only [go_sem, S5, Q5, l5x1, b5, Tryd.f5, hlt, hw, hx, k8, q, q34, q39, q92, q40]
    all_goals rfl
  have q42 : (c == 42) = false := by simp [c42]
  by_cases c47 : c = 47
  · subst c47
    have q : ((47 : Int) == 47) = true := rfl
    rw [if_pos (by simp)]
    simp only [go_sem, S5, Q5, l5x1, b5, Tryd.f5, hlt, hw, hx, k8, q, q34, q39, q92, q40, q42]
    all_goals rfl
  have q47 : (c == 47) = false := by simp [c47]
  by_cases c128 : 128 ≤ c
  · have q : decide (128 ≤ c) = true := by simp [c128]
    rw [if_pos (by simp [c128])]
    simp only [go_sem, S5, Q5, l5x1, b5, Tryd.f5, hlt, hw, hx, k8, q, q34, q39, q92, q40, q42, q47]
    all_goals rfl
  · have q : decide (128 ≤ c) = false := by simp; omega
    rw [if_neg (by simp [q34, q39, q92, q40, q42, q47, c128, c34, c39, c92, c40, c42, c47])]
    simp only [go_sem, S5, Q5, l5x1, b5, Tryd.f5, hlt, hw, hx, k8, q, q34, q39, q92, q40, q42, q47]
    all_goals rfl
/-- bytes that neither open nor close anything -/
abbrev still (l : List Int) : Prop := ∀ c ∈ l, calm c ∧ c ≠ 42 ∧ c ≠ 47
theorem inner5 (hlo : lo ≤ h.length) (hl0 : By l) (hl : l.length ≤ 1000000000) : ∀ (m k : Nat), l.length - k ≤ m → k ≤ l.length →
    loopW (evCode ⟨Tryd.prog, E, lo, N, h5⟩ loopW l5x1) (S5 a b u l j k h) = ret5 h ∨
      (loopW (evCode ⟨Tryd.prog, E, lo, N, h5⟩ loopW l5x1) (S5 a b u l j k h) =
        some (.exit 2, [(0, .list .no (ri .u8 a)), (1, .list .no (ri .u8 b)), (2, .list .no (ri .u8 u)), (8, .list .no (ri .u8 l)), (9, .v (.int .i64 l.length)), (30, Q5 a u), (31, .v (.int .i64 2)), (32, .v (.int .i64 j)), (39, .v (.bool false))], h) ∧
        still (l.drop k)) := by
  have stop : ∀ k, k = l.length → loopW (evCode ⟨Tryd.prog, E, lo, N, h5⟩ loopW l5x1) (S5 a b u l j k h) =
        some (.exit 2, [(0, .list .no (ri .u8 a)), (1, .list .no (ri .u8 b)), (2, .list .no (ri .u8 u)), (8, .list .no (ri .u8 l)), (9, .v (.int .i64 l.length)), (30, Q5 a u), (31, .v (.int .i64 2)), (32, .v (.int .i64 j)), (39, .v (.bool false))], h) ∧
        still (l.drop k) := by
    rintro k rfl
    have hlt : decide ((l.length : Int) < (l.length : Int)) = false := by simp
    refine ⟨?_, by rw [List.drop_length]; simp [still]⟩
    rw [loop_eq]
    simp only [go_sem, S5, Q5, l5x1, b5, Tryd.f5, hlt]
  intro m
  induction m with
  | zero => intro k h1 h2; exact .inr (stop k (by omega))
  | succ m ih =>
    intro k h1 h2
    rcases Nat.lt_or_ge k l.length with hk | hk
    rotate_left
    · exact .inr (stop k (by omega))
    have hx : l[k]? = some l[k] := List.getElem?_eq_getElem hk
    have hby := hl0 l[k] (List.getElem_mem hk)
    have hr := round5 (a := a) (b := b) (u := u) (N := N) (j := j) hlo hk hx hl
    have hd : l.drop k = l[k] :: l.drop (k + 1) := List.drop_eq_getElem_cons hk
    rw [hd]
    generalize l[k] = c at *
    by_cases ho : opens5 c = true
    · rw [if_pos ho] at hr
      left
      rw [loop_eq, hr]
      rfl
    · rw [if_neg ho] at hr
      rw [loop_eq, hr, loop_n]
      rcases ih (k + 1) (by omega) hk with h3 | ⟨h3, h4⟩
      · exact .inl h3
      · refine .inr ⟨h3, ?_⟩
        intro x hx
        rcases List.mem_cons.1 hx with rfl | hx
        · unfold opens5 at ho
          simp at ho
          simp only [calm]
          omega
        · exact h4 x hx
/-! ### the loop over both -/
abbrev T5 (a b u : List Int) (j : Nat) (h : Heap) : Env × Heap :=
  ([(0, .list .no (ri .u8 a)), (1, .list .no (ri .u8 b)), (2, .list .no (ri .u8 u)), (30, Q5 a u), (31, .v (.int .i64 2)), (32, .v (.int .i64 j))], h)
abbrev end5 (a b u : List Int) (h : Heap) : Option (Ex × Env × Heap) :=
  some (.exit 0, [(0, .list .no (ri .u8 a)), (1, .list .no (ri .u8 b)), (2, .list .no (ri .u8 u)), (30, Q5 a u), (31, .v (.int .i64 2)), (32, .v (.int .i64 2)), (33, .v (.bool false))], h)
theorem outerA {l : List Int} (hj : j < 2) (hg : ([[V.list .no (ri .u8 a)], [V.list .no (ri .u8 u)]] : List (List V))[j]? = some [V.list .no (ri .u8 l)])
    (hL : loopW (evCode ⟨Tryd.prog, E, lo, N, h5⟩ loopW l5x1) (S5 a b u l j 0 h) = ret5 h) :
    evCode ⟨Tryd.prog, E, lo, N, h5⟩ loopW l5x0 (T5 a b u j h) = ret5 h := by
  have hlt : decide ((j : Int) < 2) = true := by simp; omega
  have n0 : ((0 : Nat) : Int) = 0 := rfl
  simp only [S5, Q5, ret5, n0, l5x1, b5, Tryd.f5, loopAt, loops, bodyOf, go_sem] at hL
  simp only [go_sem, T5, Q5, l5x0, b5, Tryd.f5, hlt, hg, hL]
  all_goals rfl
theorem outerB {l : List Int} (hj : j < 2) (hg : ([[V.list .no (ri .u8 a)], [V.list .no (ri .u8 u)]] : List (List V))[j]? = some [V.list .no (ri .u8 l)])
    (hL : loopW (evCode ⟨Tryd.prog, E, lo, N, h5⟩ loopW l5x1) (S5 a b u l j 0 h) =
        some (.exit 2, [(0, .list .no (ri .u8 a)), (1, .list .no (ri .u8 b)), (2, .list .no (ri .u8 u)), (8, .list .no (ri .u8 l)), (9, .v (.int .i64 l.length)), (30, Q5 a u), (31, .v (.int .i64 2)), (32, .v (.int .i64 j)), (39, .v (.bool false))], h)) :
    evCode ⟨Tryd.prog, E, lo, N, h5⟩ loopW l5x0 (T5 a b u j h) = some (.normal, T5 a b u (j + 1) h) := by
  have hlt : decide ((j : Int) < 2) = true := by simp; omega
  have hw : IntKind.i64.wrap ((j : Int) + 1) = ((j + 1 : Nat) : Int) := wrap_succ (by omega)
  have n0 : ((0 : Nat) : Int) = 0 := rfl
  simp only [S5, Q5, n0, l5x1, b5, Tryd.f5, loopAt, loops, bodyOf, go_sem] at hL
  simp only [go_sem, T5, Q5, l5x0, b5, Tryd.f5, hlt, hg, hL, hw]
  all_goals rfl
theorem outer5 (hlo : lo ≤ h.length) (ha : By a) (hl : a.length ≤ 1000000000) (hu : By u) (hm : u.length ≤ 1000000000) :
    loopW (evCode ⟨Tryd.prog, E, lo, N, h5⟩ loopW l5x0) (T5 a b u 0 h) = ret5 h ∨
      (loopW (evCode ⟨Tryd.prog, E, lo, N, h5⟩ loopW l5x0) (T5 a b u 0 h) = end5 a b u h ∧ still a ∧ still u) := by
  have stop : loopW (evCode ⟨Tryd.prog, E, lo, N, h5⟩ loopW l5x0) (T5 a b u 2 h) = end5 a b u h := by
    have hlt : decide (((2 : Nat) : Int) < 2) = false := rfl
    rw [loop_eq]
    simp only [go_sem, T5, Q5, l5x0, b5, Tryd.f5, hlt]
    all_goals rfl
  rcases inner5 (a := a) (b := b) (u := u) (j := 0) (N := N) hlo ha hl a.length 0 (by omega) (Nat.zero_le _) with h1 | ⟨h1, s1⟩
  · left
    rw [loop_eq, outerA (by decide) rfl h1]
    rfl
  rw [loop_eq, outerB (by decide) rfl h1, loop_n]
  rcases inner5 (a := a) (b := b) (u := u) (j := 1) (N := N) hlo hu hm u.length 0 (by omega) (Nat.zero_le _) with h2 | ⟨h2, s2⟩
  · left
    rw [loop_eq, outerA (by decide) rfl h2]
    rfl
  rw [loop_eq, outerB (by decide) rfl h2, loop_n]
  exact .inr ⟨stop, s1, s2⟩
end
end Go.Lift.D3
end

section
/- The law TokRemarks, evaluated: behind its loops. Written by a program (mkrem.py). -/
open Go.Proofs
namespace Go.Lift.D3
open Utf Tok
set_option maxRecDepth 20000
set_option maxHeartbeats 4000000
set_option linter.unusedSimpArgs false
set_option linter.unusedVariables false

section
variable {lo N k : Nat} {a b u : List Int} {h : Heap}
theorem rows_two (X Y : List Tk) : ((X ++ Y).map tkC).take X.length = X.map tkC ∧ ((X ++ Y).map tkC).drop X.length = Y.map tkC := by
  refine ⟨?_, ?_⟩
  · rw [List.map_append, List.take_append_of_le_length (by simp), List.take_of_length_le (by simp)]
  · rw [List.map_append, List.drop_append, List.drop_eq_nil_of_le (by simp)]
    simp
theorem btoks_le (a : List Int) : (btoks a).length ≤ a.length := by
  have h1 := toks_len ((Utf.decode a).map scal)
  have h2 := decode_len a
  rw [List.length_map] at h1
  unfold btoks; omega
noncomputable abbrev X5 (lo : Nat) (h : Heap) : Cx := ⟨Tryd.prog, E, lo, h.length, h5⟩
theorem tail5z (hlo : lo ≤ h.length) (ha : By a) (hl : a.length ≤ 16384) (hb : By b) (hm : b.length ≤ 16384) (hu : By u) (hk : u.length ≤ 16384) (hc : still a) (hj : still u) (hn : bom b = false)
    (hq : decide (2 < (b.length : Int)) = false) (h0 : decide (0 < (b.length : Int)) = false)
    (hL : loopW (evCode (X5 lo h) loopW l5x0) (T5 a b u 0 h) = end5 a b u h) :
    E lo 5 [.list .no (ri .u8 a), .list .no (ri .u8 b), .list .no (ri .u8 u)] h = some (.v (.bool true), h) := by
  have hyT : By (a ++ 32 :: 47 :: 42 :: (u ++ 42 :: 47 :: b)) := by
    intro c hc
    simp only [List.mem_append, List.mem_cons] at hc
    rcases hc with hc | rfl | rfl | rfl | hc | rfl | rfl | hc
    · exact ha c hc
    · decide
    · decide
    · decide
    · exact hu c hc
    · decide
    · decide
    · exact hb c hc
  have hyA : By (a ++ [32]) := by
    intro c hc
    simp only [List.mem_append, List.mem_cons, List.not_mem_nil, or_false] at hc
    rcases hc with hc | rfl
    · exact ha c hc
    · decide
  have k1 := f9 (lo := lo) (b := a ++ 32 :: 47 :: 42 :: (u ++ 42 :: 47 :: b)) (h := h) (by simp; omega) hyT hlo
  have k2 := f9 (lo := lo) (b := a ++ [32]) (h := h) (by simp; omega) hyA hlo
  have k3 := f9 (lo := lo) (b := b) (h := h) (by omega) hb hlo
  have k8 := f8 (lo := lo) (h := h) hlo
  have hlenA := btoks_le (a ++ [32])
  have hlenB := btoks_le b
  rw [List.length_append, List.length_singleton] at hlenA
  have hZ : btoks (a ++ 32 :: 47 :: 42 :: (u ++ 42 :: 47 :: b)) = btoks (a ++ [32]) ++ btoks b := remark_bytes (fun c h => ⟨(hc c h).1, (hc c h).2.2⟩) (fun c h => ⟨(hj c h).1, (hj c h).2.1⟩) hb hn
  rw [hZ] at k1
  generalize btoks (a ++ [32]) = X at *
  generalize btoks b = Y at *
  obtain ⟨t1, t2⟩ := rows_two X Y
  have s1 := f10 (lo := lo) (h := h) X (by omega)
  have s2 := f10 (lo := lo) (h := h) Y (by omega)
  have n0 : ((0 : Nat) : Int) = 0 := rfl
  simp only [X5, T5, Q5, end5, n0, l5x0, b5, Tryd.f5, loopAt, loops, bodyOf, go_sem] at hL
  have n2 : ((2 : Nat) : Int) = 2 := rfl
  have p1 : decide (16384 < (a.length : Int)) = false := by simp; omega
  have p2 : decide (16384 < (b.length : Int)) = false := by simp; omega
  have p3 : decide (16384 < (u.length : Int)) = false := by simp; omega
  have t5 : (((X ++ Y).map tkC).take (X ++ Y).length).drop X.length = Y.map tkC := by rw [List.take_of_length_le (by simp), t2]
  have w2 : IntKind.i64.wrap ((X.length : Int) + (Y.length : Int)) = ((X.length + Y.length : Nat) : Int) := wrap_i64 (by omega) (by omega)
  have n1 : (((X ++ Y).length : Int) == ((X.length + Y.length : Nat) : Int)) = true := by simp
  have z0 := Nat.zero_le X.length
  have z1 : X.length ≤ (X ++ Y).length := by simp
  have all := tk_all (X ++ Y)
  have g1 : (0 + a.length) * 1 ≤ 140737488355328 := by omega
  have g2 : 0 + a.length ≤ 9223372036854775807 := by omega
  have br1 : byteRows ⟨#[32, 47, 42]⟩ = ri .u8 [32, 47, 42] := bytes_bs (l := [32, 47, 42]) (by decide)
  have br2 : byteRows ⟨#[42, 47]⟩ = ri .u8 [42, 47] := bytes_bs (l := [42, 47]) (by decide)
  have l3 : ([32, 47, 42] : List Int).length = 3 := rfl
  have l2 : ([42, 47] : List Int).length = 2 := rfl
  have l1 : ([32] : List Int).length = 1 := rfl
  have m1 : (a ++ [32, 47, 42]).length = a.length + 3 := by simp
  have m2 : (a ++ 32 :: 47 :: 42 :: u).length = a.length + u.length + 3 := by simp; omega
  have m3 : (a ++ 32 :: 47 :: 42 :: (u ++ [42, 47])).length = a.length + u.length + 5 := by simp; omega
  have app1 : ri .u8 a ++ ri .u8 [32, 47, 42] = ri .u8 (a ++ [32, 47, 42]) := by rw [ri_app]
  have app2 : ri .u8 (a ++ [32, 47, 42]) ++ ri .u8 u = ri .u8 (a ++ 32 :: 47 :: 42 :: u) := by rw [ri_app]; simp
  have app3 : ri .u8 (a ++ 32 :: 47 :: 42 :: u) ++ ri .u8 [42, 47] = ri .u8 (a ++ 32 :: 47 :: 42 :: (u ++ [42, 47])) := by rw [ri_app]; simp
  have app4 : ri .u8 (a ++ 32 :: 47 :: 42 :: (u ++ [42, 47])) ++ ri .u8 b = ri .u8 (a ++ 32 :: 47 :: 42 :: (u ++ 42 :: 47 :: b)) := by rw [ri_app]; simp
  have app5 : ri .u8 a ++ [[V.v (.int .u8 32)]] = ri .u8 (a ++ [32]) := by rw [← ri_app]; rfl
  have b1 : (a.length + 3) * 1 ≤ 140737488355328 := by omega
  have b2 : a.length + 3 ≤ 9223372036854775807 := by omega
  have b3 : (a.length + 3 + u.length) * 1 ≤ 140737488355328 := by omega
  have b4 : a.length + 3 + u.length ≤ 9223372036854775807 := by omega
  have b5' : (a.length + u.length + 3 + 2) * 1 ≤ 140737488355328 := by omega
  have b6 : a.length + u.length + 3 + 2 ≤ 9223372036854775807 := by omega
  have b7 : (a.length + u.length + 5 + b.length) * 1 ≤ 140737488355328 := by omega
  have b8 : a.length + u.length + 5 + b.length ≤ 9223372036854775807 := by omega
  have b9 : (a.length + 1) * 1 ≤ 140737488355328 := by omega
  have bA : a.length + 1 ≤ 9223372036854775807 := by omega
  rw [e5 (by simp) (by rfl)]
  simp only [go_sem, b5, Tryd.f5, n2, p1, p2, p3, g1, g2, hL, k1, k2, k3, k8, s1, s2, hq, h0, List.length_map, w2, n1, t1, t5, z0, z1, all, Nat.le_refl, br1, br2, l3, l2, l1, m1, m2, m3, app1, app2, app3, app4, app5, b1, b2, b3, b4, b5', b6, b7, b8, b9, bA]
  all_goals rfl
theorem tail5a (hlo : lo ≤ h.length) (ha : By a) (hl : a.length ≤ 16384) (hb : By b) (hm : b.length ≤ 16384) (hu : By u) (hk : u.length ≤ 16384) (hc : still a) (hj : still u) (hn : bom b = false)
    {x : Int} (hq : decide (2 < (b.length : Int)) = false) (h0 : decide (0 < (b.length : Int)) = true) (hx : b[0]? = some x) (q10 : (x == 10) = false) (q13 : (x == 13) = false) (q9 : (x == 9) = false) (q32 : (x == 32) = false) (q12 : (x == 12) = false)
    (hL : loopW (evCode (X5 lo h) loopW l5x0) (T5 a b u 0 h) = end5 a b u h) :
    E lo 5 [.list .no (ri .u8 a), .list .no (ri .u8 b), .list .no (ri .u8 u)] h = some (.v (.bool true), h) := by
  have hyT : By (a ++ 32 :: 47 :: 42 :: (u ++ 42 :: 47 :: b)) := by
    intro c hc
    simp only [List.mem_append, List.mem_cons] at hc
    rcases hc with hc | rfl | rfl | rfl | hc | rfl | rfl | hc
    · exact ha c hc
    · decide
    · decide
    · decide
    · exact hu c hc
    · decide
    · decide
    · exact hb c hc
  have hyA : By (a ++ [32]) := by
    intro c hc
    simp only [List.mem_append, List.mem_cons, List.not_mem_nil, or_false] at hc
    rcases hc with hc | rfl
    · exact ha c hc
    · decide
  have k1 := f9 (lo := lo) (b := a ++ 32 :: 47 :: 42 :: (u ++ 42 :: 47 :: b)) (h := h) (by simp; omega) hyT hlo
  have k2 := f9 (lo := lo) (b := a ++ [32]) (h := h) (by simp; omega) hyA hlo
  have k3 := f9 (lo := lo) (b := b) (h := h) (by omega) hb hlo
  have k8 := f8 (lo := lo) (h := h) hlo
  have hlenA := btoks_le (a ++ [32])
  have hlenB := btoks_le b
  rw [List.length_append, List.length_singleton] at hlenA
  have hZ : btoks (a ++ 32 :: 47 :: 42 :: (u ++ 42 :: 47 :: b)) = btoks (a ++ [32]) ++ btoks b := remark_bytes (fun c h => ⟨(hc c h).1, (hc c h).2.2⟩) (fun c h => ⟨(hj c h).1, (hj c h).2.1⟩) hb hn
  rw [hZ] at k1
  generalize btoks (a ++ [32]) = X at *
  generalize btoks b = Y at *
  obtain ⟨t1, t2⟩ := rows_two X Y
  have s1 := f10 (lo := lo) (h := h) X (by omega)
  have s2 := f10 (lo := lo) (h := h) Y (by omega)
  have n0 : ((0 : Nat) : Int) = 0 := rfl
  simp only [X5, T5, Q5, end5, n0, l5x0, b5, Tryd.f5, loopAt, loops, bodyOf, go_sem] at hL
  have n2 : ((2 : Nat) : Int) = 2 := rfl
  have p1 : decide (16384 < (a.length : Int)) = false := by simp; omega
  have p2 : decide (16384 < (b.length : Int)) = false := by simp; omega
  have p3 : decide (16384 < (u.length : Int)) = false := by simp; omega
  have t5 : (((X ++ Y).map tkC).take (X ++ Y).length).drop X.length = Y.map tkC := by rw [List.take_of_length_le (by simp), t2]
  have w2 : IntKind.i64.wrap ((X.length : Int) + (Y.length : Int)) = ((X.length + Y.length : Nat) : Int) := wrap_i64 (by omega) (by omega)
  have n1 : (((X ++ Y).length : Int) == ((X.length + Y.length : Nat) : Int)) = true := by simp
  have z0 := Nat.zero_le X.length
  have z1 : X.length ≤ (X ++ Y).length := by simp
  have all := tk_all (X ++ Y)
  have g1 : (0 + a.length) * 1 ≤ 140737488355328 := by omega
  have g2 : 0 + a.length ≤ 9223372036854775807 := by omega
  have br1 : byteRows ⟨#[32, 47, 42]⟩ = ri .u8 [32, 47, 42] := bytes_bs (l := [32, 47, 42]) (by decide)
  have br2 : byteRows ⟨#[42, 47]⟩ = ri .u8 [42, 47] := bytes_bs (l := [42, 47]) (by decide)
  have l3 : ([32, 47, 42] : List Int).length = 3 := rfl
  have l2 : ([42, 47] : List Int).length = 2 := rfl
  have l1 : ([32] : List Int).length = 1 := rfl
  have m1 : (a ++ [32, 47, 42]).length = a.length + 3 := by simp
  have m2 : (a ++ 32 :: 47 :: 42 :: u).length = a.length + u.length + 3 := by simp; omega
  have m3 : (a ++ 32 :: 47 :: 42 :: (u ++ [42, 47])).length = a.length + u.length + 5 := by simp; omega
  have app1 : ri .u8 a ++ ri .u8 [32, 47, 42] = ri .u8 (a ++ [32, 47, 42]) := by rw [ri_app]
  have app2 : ri .u8 (a ++ [32, 47, 42]) ++ ri .u8 u = ri .u8 (a ++ 32 :: 47 :: 42 :: u) := by rw [ri_app]; simp
  have app3 : ri .u8 (a ++ 32 :: 47 :: 42 :: u) ++ ri .u8 [42, 47] = ri .u8 (a ++ 32 :: 47 :: 42 :: (u ++ [42, 47])) := by rw [ri_app]; simp
  have app4 : ri .u8 (a ++ 32 :: 47 :: 42 :: (u ++ [42, 47])) ++ ri .u8 b = ri .u8 (a ++ 32 :: 47 :: 42 :: (u ++ 42 :: 47 :: b)) := by rw [ri_app]; simp
  have app5 : ri .u8 a ++ [[V.v (.int .u8 32)]] = ri .u8 (a ++ [32]) := by rw [← ri_app]; rfl
  have b1 : (a.length + 3) * 1 ≤ 140737488355328 := by omega
  have b2 : a.length + 3 ≤ 9223372036854775807 := by omega
  have b3 : (a.length + 3 + u.length) * 1 ≤ 140737488355328 := by omega
  have b4 : a.length + 3 + u.length ≤ 9223372036854775807 := by omega
  have b5' : (a.length + u.length + 3 + 2) * 1 ≤ 140737488355328 := by omega
  have b6 : a.length + u.length + 3 + 2 ≤ 9223372036854775807 := by omega
  have b7 : (a.length + u.length + 5 + b.length) * 1 ≤ 140737488355328 := by omega
  have b8 : a.length + u.length + 5 + b.length ≤ 9223372036854775807 := by omega
  have b9 : (a.length + 1) * 1 ≤ 140737488355328 := by omega
  have bA : a.length + 1 ≤ 9223372036854775807 := by omega
  rw [e5 (by simp) (by rfl)]
  simp only [go_sem, b5, Tryd.f5, n2, p1, p2, p3, g1, g2, hL, k1, k2, k3, k8, s1, s2, hq, h0, hx, q10, q13, q9, q32, q12, List.length_map, w2, n1, t1, t5, z0, z1, all, Nat.le_refl, br1, br2, l3, l2, l1, m1, m2, m3, app1, app2, app3, app4, app5, b1, b2, b3, b4, b5', b6, b7, b8, b9, bA]
  all_goals rfl
theorem tail5b (hlo : lo ≤ h.length) (ha : By a) (hl : a.length ≤ 16384) (hb : By b) (hm : b.length ≤ 16384) (hu : By u) (hk : u.length ≤ 16384) (hc : still a) (hj : still u) (hn : bom b = false)
    {x : Int} (hq : decide (2 < (b.length : Int)) = true) (h0 : decide (0 < (b.length : Int)) = true) (hx : b[0]? = some x) (qx : (x == 239) = false) (q10 : (x == 10) = false) (q13 : (x == 13) = false) (q9 : (x == 9) = false) (q32 : (x == 32) = false) (q12 : (x == 12) = false)
    (hL : loopW (evCode (X5 lo h) loopW l5x0) (T5 a b u 0 h) = end5 a b u h) :
    E lo 5 [.list .no (ri .u8 a), .list .no (ri .u8 b), .list .no (ri .u8 u)] h = some (.v (.bool true), h) := by
  have hyT : By (a ++ 32 :: 47 :: 42 :: (u ++ 42 :: 47 :: b)) := by
    intro c hc
    simp only [List.mem_append, List.mem_cons] at hc
    rcases hc with hc | rfl | rfl | rfl | hc | rfl | rfl | hc
    · exact ha c hc
    · decide
    · decide
    · decide
    · exact hu c hc
    · decide
    · decide
    · exact hb c hc
  have hyA : By (a ++ [32]) := by
    intro c hc
    simp only [List.mem_append, List.mem_cons, List.not_mem_nil, or_false] at hc
    rcases hc with hc | rfl
    · exact ha c hc
    · decide
  have k1 := f9 (lo := lo) (b := a ++ 32 :: 47 :: 42 :: (u ++ 42 :: 47 :: b)) (h := h) (by simp; omega) hyT hlo
  have k2 := f9 (lo := lo) (b := a ++ [32]) (h := h) (by simp; omega) hyA hlo
  have k3 := f9 (lo := lo) (b := b) (h := h) (by omega) hb hlo
  have k8 := f8 (lo := lo) (h := h) hlo
  have hlenA := btoks_le (a ++ [32])
  have hlenB := btoks_le b
  rw [List.length_append, List.length_singleton] at hlenA
  have hZ : btoks (a ++ 32 :: 47 :: 42 :: (u ++ 42 :: 47 :: b)) = btoks (a ++ [32]) ++ btoks b := remark_bytes (fun c h => ⟨(hc c h).1, (hc c h).2.2⟩) (fun c h => ⟨(hj c h).1, (hj c h).2.1⟩) hb hn
  rw [hZ] at k1
  generalize btoks (a ++ [32]) = X at *
  generalize btoks b = Y at *
  obtain ⟨t1, t2⟩ := rows_two X Y
  have s1 := f10 (lo := lo) (h := h) X (by omega)
  have s2 := f10 (lo := lo) (h := h) Y (by omega)
  have n0 : ((0 : Nat) : Int) = 0 := rfl
  simp only [X5, T5, Q5, end5, n0, l5x0, b5, Tryd.f5, loopAt, loops, bodyOf, go_sem] at hL
  have n2 : ((2 : Nat) : Int) = 2 := rfl
  have p1 : decide (16384 < (a.length : Int)) = false := by simp; omega
  have p2 : decide (16384 < (b.length : Int)) = false := by simp; omega
  have p3 : decide (16384 < (u.length : Int)) = false := by simp; omega
  have t5 : (((X ++ Y).map tkC).take (X ++ Y).length).drop X.length = Y.map tkC := by rw [List.take_of_length_le (by simp), t2]
  have w2 : IntKind.i64.wrap ((X.length : Int) + (Y.length : Int)) = ((X.length + Y.length : Nat) : Int) := wrap_i64 (by omega) (by omega)
  have n1 : (((X ++ Y).length : Int) == ((X.length + Y.length : Nat) : Int)) = true := by simp
  have z0 := Nat.zero_le X.length
  have z1 : X.length ≤ (X ++ Y).length := by simp
  have all := tk_all (X ++ Y)
  have g1 : (0 + a.length) * 1 ≤ 140737488355328 := by omega
  have g2 : 0 + a.length ≤ 9223372036854775807 := by omega
  have br1 : byteRows ⟨#[32, 47, 42]⟩ = ri .u8 [32, 47, 42] := bytes_bs (l := [32, 47, 42]) (by decide)
  have br2 : byteRows ⟨#[42, 47]⟩ = ri .u8 [42, 47] := bytes_bs (l := [42, 47]) (by decide)
  have l3 : ([32, 47, 42] : List Int).length = 3 := rfl
  have l2 : ([42, 47] : List Int).length = 2 := rfl
  have l1 : ([32] : List Int).length = 1 := rfl
  have m1 : (a ++ [32, 47, 42]).length = a.length + 3 := by simp
  have m2 : (a ++ 32 :: 47 :: 42 :: u).length = a.length + u.length + 3 := by simp; omega
  have m3 : (a ++ 32 :: 47 :: 42 :: (u ++ [42, 47])).length = a.length + u.length + 5 := by simp; omega
  have app1 : ri .u8 a ++ ri .u8 [32, 47, 42] = ri .u8 (a ++ [32, 47, 42]) := by rw [ri_app]
  have app2 : ri .u8 (a ++ [32, 47, 42]) ++ ri .u8 u = ri .u8 (a ++ 32 :: 47 :: 42 :: u) := by rw [ri_app]; simp
  have app3 : ri .u8 (a ++ 32 :: 47 :: 42 :: u) ++ ri .u8 [42, 47] = ri .u8 (a ++ 32 :: 47 :: 42 :: (u ++ [42, 47])) := by rw [ri_app]; simp
  have app4 : ri .u8 (a ++ 32 :: 47 :: 42 :: (u ++ [42, 47])) ++ ri .u8 b = ri .u8 (a ++ 32 :: 47 :: 42 :: (u ++ 42 :: 47 :: b)) := by rw [ri_app]; simp
  have app5 : ri .u8 a ++ [[V.v (.int .u8 32)]] = ri .u8 (a ++ [32]) := by rw [← ri_app]; rfl
  have b1 : (a.length + 3) * 1 ≤ 140737488355328 := by omega
  have b2 : a.length + 3 ≤ 9223372036854775807 := by omega
  have b3 : (a.length + 3 + u.length) * 1 ≤ 140737488355328 := by omega
  have b4 : a.length + 3 + u.length ≤ 9223372036854775807 := by omega
  have b5' : (a.length + u.length + 3 + 2) * 1 ≤ 140737488355328 := by omega
  have b6 : a.length + u.length + 3 + 2 ≤ 9223372036854775807 := by omega
  have b7 : (a.length + u.length + 5 + b.length) * 1 ≤ 140737488355328 := by omega
  have b8 : a.length + u.length + 5 + b.length ≤ 9223372036854775807 := by omega
  have b9 : (a.length + 1) * 1 ≤ 140737488355328 := by omega
  have bA : a.length + 1 ≤ 9223372036854775807 := by omega
  rw [e5 (by simp) (by rfl)]
  simp only [go_sem, b5, Tryd.f5, n2, p1, p2, p3, g1, g2, hL, k1, k2, k3, k8, s1, s2, hq, h0, hx, qx, q10, q13, q9, q32, q12, List.length_map, w2, n1, t1, t5, z0, z1, all, Nat.le_refl, br1, br2, l3, l2, l1, m1, m2, m3, app1, app2, app3, app4, app5, b1, b2, b3, b4, b5', b6, b7, b8, b9, bA]
  all_goals rfl
theorem tail5c (hlo : lo ≤ h.length) (ha : By a) (hl : a.length ≤ 16384) (hb : By b) (hm : b.length ≤ 16384) (hu : By u) (hk : u.length ≤ 16384) (hc : still a) (hj : still u) (hn : bom b = false)
    {x y : Int} (hq : decide (2 < (b.length : Int)) = true) (h0 : decide (0 < (b.length : Int)) = true) (hx : b[0]? = some x) (qx : (x == 239) = true) (hy : b[1]? = some y) (qy : (y == 187) = false) (q10 : (x == 10) = false) (q13 : (x == 13) = false) (q9 : (x == 9) = false) (q32 : (x == 32) = false) (q12 : (x == 12) = false)
    (hL : loopW (evCode (X5 lo h) loopW l5x0) (T5 a b u 0 h) = end5 a b u h) :
    E lo 5 [.list .no (ri .u8 a), .list .no (ri .u8 b), .list .no (ri .u8 u)] h = some (.v (.bool true), h) := by
  have hyT : By (a ++ 32 :: 47 :: 42 :: (u ++ 42 :: 47 :: b)) := by
    intro c hc
    simp only [List.mem_append, List.mem_cons] at hc
    rcases hc with hc | rfl | rfl | rfl | hc | rfl | rfl | hc
    · exact ha c hc
    · decide
    · decide
    · decide
    · exact hu c hc
    · decide
    · decide
    · exact hb c hc
  have hyA : By (a ++ [32]) := by
    intro c hc
    simp only [List.mem_append, List.mem_cons, List.not_mem_nil, or_false] at hc
    rcases hc with hc | rfl
    · exact ha c hc
    · decide
  have k1 := f9 (lo := lo) (b := a ++ 32 :: 47 :: 42 :: (u ++ 42 :: 47 :: b)) (h := h) (by simp; omega) hyT hlo
  have k2 := f9 (lo := lo) (b := a ++ [32]) (h := h) (by simp; omega) hyA hlo
  have k3 := f9 (lo := lo) (b := b) (h := h) (by omega) hb hlo
  have k8 := f8 (lo := lo) (h := h) hlo
  have hlenA := btoks_le (a ++ [32])
  have hlenB := btoks_le b
  rw [List.length_append, List.length_singleton] at hlenA
  have hZ : btoks (a ++ 32 :: 47 :: 42 :: (u ++ 42 :: 47 :: b)) = btoks (a ++ [32]) ++ btoks b := remark_bytes (fun c h => ⟨(hc c h).1, (hc c h).2.2⟩) (fun c h => ⟨(hj c h).1, (hj c h).2.1⟩) hb hn
  rw [hZ] at k1
  generalize btoks (a ++ [32]) = X at *
  generalize btoks b = Y at *
  obtain ⟨t1, t2⟩ := rows_two X Y
  have s1 := f10 (lo := lo) (h := h) X (by omega)
  have s2 := f10 (lo := lo) (h := h) Y (by omega)
  have n0 : ((0 : Nat) : Int) = 0 := rfl
  simp only [X5, T5, Q5, end5, n0, l5x0, b5, Tryd.f5, loopAt, loops, bodyOf, go_sem] at hL
  have n2 : ((2 : Nat) : Int) = 2 := rfl
  have p1 : decide (16384 < (a.length : Int)) = false := by simp; omega
  have p2 : decide (16384 < (b.length : Int)) = false := by simp; omega
  have p3 : decide (16384 < (u.length : Int)) = false := by simp; omega
  have t5 : (((X ++ Y).map tkC).take (X ++ Y).length).drop X.length = Y.map tkC := by rw [List.take_of_length_le (by simp), t2]
  have w2 : IntKind.i64.wrap ((X.length : Int) + (Y.length : Int)) = ((X.length + Y.length : Nat) : Int) := wrap_i64 (by omega) (by omega)
  have n1 : (((X ++ Y).length : Int) == ((X.length + Y.length : Nat) : Int)) = true := by simp
  have z0 := Nat.zero_le X.length
  have z1 : X.length ≤ (X ++ Y).length := by simp
  have all := tk_all (X ++ Y)
  have g1 : (0 + a.length) * 1 ≤ 140737488355328 := by omega
  have g2 : 0 + a.length ≤ 9223372036854775807 := by omega
  have br1 : byteRows ⟨#[32, 47, 42]⟩ = ri .u8 [32, 47, 42] := bytes_bs (l := [32, 47, 42]) (by decide)
  have br2 : byteRows ⟨#[42, 47]⟩ = ri .u8 [42, 47] := bytes_bs (l := [42, 47]) (by decide)
  have l3 : ([32, 47, 42] : List Int).length = 3 := rfl
  have l2 : ([42, 47] : List Int).length = 2 := rfl
  have l1 : ([32] : List Int).length = 1 := rfl
  have m1 : (a ++ [32, 47, 42]).length = a.length + 3 := by simp
  have m2 : (a ++ 32 :: 47 :: 42 :: u).length = a.length + u.length + 3 := by simp; omega
  have m3 : (a ++ 32 :: 47 :: 42 :: (u ++ [42, 47])).length = a.length + u.length + 5 := by simp; omega
  have app1 : ri .u8 a ++ ri .u8 [32, 47, 42] = ri .u8 (a ++ [32, 47, 42]) := by rw [ri_app]
  have app2 : ri .u8 (a ++ [32, 47, 42]) ++ ri .u8 u = ri .u8 (a ++ 32 :: 47 :: 42 :: u) := by rw [ri_app]; simp
  have app3 : ri .u8 (a ++ 32 :: 47 :: 42 :: u) ++ ri .u8 [42, 47] = ri .u8 (a ++ 32 :: 47 :: 42 :: (u ++ [42, 47])) := by rw [ri_app]; simp
  have app4 : ri .u8 (a ++ 32 :: 47 :: 42 :: (u ++ [42, 47])) ++ ri .u8 b = ri .u8 (a ++ 32 :: 47 :: 42 :: (u ++ 42 :: 47 :: b)) := by rw [ri_app]; simp
  have app5 : ri .u8 a ++ [[V.v (.int .u8 32)]] = ri .u8 (a ++ [32]) := by rw [← ri_app]; rfl
  have b1 : (a.length + 3) * 1 ≤ 140737488355328 := by omega
  have b2 : a.length + 3 ≤ 9223372036854775807 := by omega
  have b3 : (a.length + 3 + u.length) * 1 ≤ 140737488355328 := by omega
  have b4 : a.length + 3 + u.length ≤ 9223372036854775807 := by omega
  have b5' : (a.length + u.length + 3 + 2) * 1 ≤ 140737488355328 := by omega
  have b6 : a.length + u.length + 3 + 2 ≤ 9223372036854775807 := by omega
  have b7 : (a.length + u.length + 5 + b.length) * 1 ≤ 140737488355328 := by omega
  have b8 : a.length + u.length + 5 + b.length ≤ 9223372036854775807 := by omega
  have b9 : (a.length + 1) * 1 ≤ 140737488355328 := by omega
  have bA : a.length + 1 ≤ 9223372036854775807 := by omega
  rw [e5 (by simp) (by rfl)]
  simp only [go_sem, b5, Tryd.f5, n2, p1, p2, p3, g1, g2, hL, k1, k2, k3, k8, s1, s2, hq, h0, hx, qx, hy, qy, q10, q13, q9, q32, q12, List.length_map, w2, n1, t1, t5, z0, z1, all, Nat.le_refl, br1, br2, l3, l2, l1, m1, m2, m3, app1, app2, app3, app4, app5, b1, b2, b3, b4, b5', b6, b7, b8, b9, bA]
  all_goals rfl
theorem tail5d (hlo : lo ≤ h.length) (ha : By a) (hl : a.length ≤ 16384) (hb : By b) (hm : b.length ≤ 16384) (hu : By u) (hk : u.length ≤ 16384) (hc : still a) (hj : still u) (hn : bom b = false)
    {x y z : Int} (hq : decide (2 < (b.length : Int)) = true) (h0 : decide (0 < (b.length : Int)) = true) (hx : b[0]? = some x) (qx : (x == 239) = true) (hy : b[1]? = some y) (qy : (y == 187) = true) (hz : b[2]? = some z) (qz : (z == 191) = false) (q10 : (x == 10) = false) (q13 : (x == 13) = false) (q9 : (x == 9) = false) (q32 : (x == 32) = false) (q12 : (x == 12) = false)
    (hL : loopW (evCode (X5 lo h) loopW l5x0) (T5 a b u 0 h) = end5 a b u h) :
    E lo 5 [.list .no (ri .u8 a), .list .no (ri .u8 b), .list .no (ri .u8 u)] h = some (.v (.bool true), h) := by
  have hyT : By (a ++ 32 :: 47 :: 42 :: (u ++ 42 :: 47 :: b)) := by
    intro c hc
    simp only [List.mem_append, List.mem_cons] at hc
    rcases hc with hc | rfl | rfl | rfl | hc | rfl | rfl | hc
    · exact ha c hc
    · decide
    · decide
    · decide
    · exact hu c hc
    · decide
    · decide
    · exact hb c hc
  have hyA : By (a ++ [32]) := by
    intro c hc
    simp only [List.mem_append, List.mem_cons, List.not_mem_nil, or_false] at hc
    rcases hc with hc | rfl
    · exact ha c hc
    · decide
  have k1 := f9 (lo := lo) (b := a ++ 32 :: 47 :: 42 :: (u ++ 42 :: 47 :: b)) (h := h) (by simp; omega) hyT hlo
  have k2 := f9 (lo := lo) (b := a ++ [32]) (h := h) (by simp; omega) hyA hlo
  have k3 := f9 (lo := lo) (b := b) (h := h) (by omega) hb hlo
  have k8 := f8 (lo := lo) (h := h) hlo
  have hlenA := btoks_le (a ++ [32])
  have hlenB := btoks_le b
  rw [List.length_append, List.length_singleton] at hlenA
  have hZ : btoks (a ++ 32 :: 47 :: 42 :: (u ++ 42 :: 47 :: b)) = btoks (a ++ [32]) ++ btoks b := remark_bytes (fun c h => ⟨(hc c h).1, (hc c h).2.2⟩) (fun c h => ⟨(hj c h).1, (hj c h).2.1⟩) hb hn
  rw [hZ] at k1
  generalize btoks (a ++ [32]) = X at *
  generalize btoks b = Y at *
  obtain ⟨t1, t2⟩ := rows_two X Y
  have s1 := f10 (lo := lo) (h := h) X (by omega)
  have s2 := f10 (lo := lo) (h := h) Y (by omega)
  have n0 : ((0 : Nat) : Int) = 0 := rfl
  simp only [X5, T5, Q5, end5, n0, l5x0, b5, Tryd.f5, loopAt, loops, bodyOf, go_sem] at hL
  have n2 : ((2 : Nat) : Int) = 2 := rfl
  have p1 : decide (16384 < (a.length : Int)) = false := by simp; omega
  have p2 : decide (16384 < (b.length : Int)) = false := by simp; omega
  have p3 : decide (16384 < (u.length : Int)) = false := by simp; omega
  have t5 : (((X ++ Y).map tkC).take (X ++ Y).length).drop X.length = Y.map tkC := by rw [List.take_of_length_le (by simp), t2]
  have w2 : IntKind.i64.wrap ((X.length : Int) + (Y.length : Int)) = ((X.length + Y.length : Nat) : Int) := wrap_i64 (by omega) (by omega)
  have n1 : (((X ++ Y).length : Int) == ((X.length + Y.length : Nat) : Int)) = true := by simp
  have z0 := Nat.zero_le X.length
  have z1 : X.length ≤ (X ++ Y).length := by simp
  have all := tk_all (X ++ Y)
  have g1 : (0 + a.length) * 1 ≤ 140737488355328 := by omega
  have g2 : 0 + a.length ≤ 9223372036854775807 := by omega
  have br1 : byteRows ⟨#[32, 47, 42]⟩ = ri .u8 [32, 47, 42] := bytes_bs (l := [32, 47, 42]) (by decide)
  have br2 : byteRows ⟨#[42, 47]⟩ = ri .u8 [42, 47] := bytes_bs (l := [42, 47]) (by decide)
  have l3 : ([32, 47, 42] : List Int).length = 3 := rfl
  have l2 : ([42, 47] : List Int).length = 2 := rfl
  have l1 : ([32] : List Int).length = 1 := rfl
  have m1 : (a ++ [32, 47, 42]).length = a.length + 3 := by simp
  have m2 : (a ++ 32 :: 47 :: 42 :: u).length = a.length + u.length + 3 := by simp; omega
  have m3 : (a ++ 32 :: 47 :: 42 :: (u ++ [42, 47])).length = a.length + u.length + 5 := by simp; omega
  have app1 : ri .u8 a ++ ri .u8 [32, 47, 42] = ri .u8 (a ++ [32, 47, 42]) := by rw [ri_app]
  have app2 : ri .u8 (a ++ [32, 47, 42]) ++ ri .u8 u = ri .u8 (a ++ 32 :: 47 :: 42 :: u) := by rw [ri_app]; simp
  have app3 : ri .u8 (a ++ 32 :: 47 :: 42 :: u) ++ ri .u8 [42, 47] = ri .u8 (a ++ 32 :: 47 :: 42 :: (u ++ [42, 47])) := by rw [ri_app]; simp
  have app4 : ri .u8 (a ++ 32 :: 47 :: 42 :: (u ++ [42, 47])) ++ ri .u8 b = ri .u8 (a ++ 32 :: 47 :: 42 :: (u ++ 42 :: 47 :: b)) := by rw [ri_app]; simp
  have app5 : ri .u8 a ++ [[V.v (.int .u8 32)]] = ri .u8 (a ++ [32]) := by rw [← ri_app]; rfl
  have b1 : (a.length + 3) * 1 ≤ 140737488355328 := by omega
  have b2 : a.length + 3 ≤ 9223372036854775807 := by omega
  have b3 : (a.length + 3 + u.length) * 1 ≤ 140737488355328 := by omega
  have b4 : a.length + 3 + u.length ≤ 9223372036854775807 := by omega
  have b5' : (a.length + u.length + 3 + 2) * 1 ≤ 140737488355328 := by omega
  have b6 : a.length + u.length + 3 + 2 ≤ 9223372036854775807 := by omega
  have b7 : (a.length + u.length + 5 + b.length) * 1 ≤ 140737488355328 := by omega
  have b8 : a.length + u.length + 5 + b.length ≤ 9223372036854775807 := by omega
  have b9 : (a.length + 1) * 1 ≤ 140737488355328 := by omega
  have bA : a.length + 1 ≤ 9223372036854775807 := by omega
  rw [e5 (by simp) (by rfl)]
  simp only [go_sem, b5, Tryd.f5, n2, p1, p2, p3, g1, g2, hL, k1, k2, k3, k8, s1, s2, hq, h0, hx, qx, hy, qy, hz, qz, q10, q13, q9, q32, q12, List.length_map, w2, n1, t1, t5, z0, z1, all, Nat.le_refl, br1, br2, l3, l2, l1, m1, m2, m3, app1, app2, app3, app4, app5, b1, b2, b3, b4, b5', b6, b7, b8, b9, bA]
  all_goals rfl
theorem long5a (hlo : lo ≤ h.length) (p1 : decide (16384 < (a.length : Int)) = true)   :
    E lo 5 [.list .no (ri .u8 a), .list .no (ri .u8 b), .list .no (ri .u8 u)] h = some (.v (.bool true), h) := by
  have k8 := f8 (lo := lo) (h := h) hlo
  have n2 : ((2 : Nat) : Int) = 2 := rfl
  rw [e5 (by simp) (by rfl)]
  simp only [go_sem, b5, Tryd.f5, n2, k8, p1]
  all_goals rfl
theorem long5b (hlo : lo ≤ h.length) (p1 : decide (16384 < (a.length : Int)) = false) (p2 : decide (16384 < (b.length : Int)) = true)  :
    E lo 5 [.list .no (ri .u8 a), .list .no (ri .u8 b), .list .no (ri .u8 u)] h = some (.v (.bool true), h) := by
  have k8 := f8 (lo := lo) (h := h) hlo
  have n2 : ((2 : Nat) : Int) = 2 := rfl
  rw [e5 (by simp) (by rfl)]
  simp only [go_sem, b5, Tryd.f5, n2, k8, p1, p2]
  all_goals rfl
theorem long5c (hlo : lo ≤ h.length) (p1 : decide (16384 < (a.length : Int)) = false) (p2 : decide (16384 < (b.length : Int)) = false) (p3 : decide (16384 < (u.length : Int)) = true)  :
    E lo 5 [.list .no (ri .u8 a), .list .no (ri .u8 b), .list .no (ri .u8 u)] h = some (.v (.bool true), h) := by
  have k8 := f8 (lo := lo) (h := h) hlo
  have n2 : ((2 : Nat) : Int) = 2 := rfl
  rw [e5 (by simp) (by rfl)]
  simp only [go_sem, b5, Tryd.f5, n2, k8, p1, p2, p3]
  all_goals rfl
theorem loop5r (hlo : lo ≤ h.length) (p1 : decide (16384 < (a.length : Int)) = false) (p2 : decide (16384 < (b.length : Int)) = false) (p3 : decide (16384 < (u.length : Int)) = false) 
    (hL : loopW (evCode (X5 lo h) loopW l5x0) (T5 a b u 0 h) = ret5 h) :
    E lo 5 [.list .no (ri .u8 a), .list .no (ri .u8 b), .list .no (ri .u8 u)] h = some (.v (.bool true), h) := by
  have k8 := f8 (lo := lo) (h := h) hlo
  have n2 : ((2 : Nat) : Int) = 2 := rfl
  have n0 : ((0 : Nat) : Int) = 0 := rfl
  simp only [X5, T5, Q5, end5, ret5, n0, l5x0, b5, Tryd.f5, loopAt, loops, bodyOf, go_sem] at hL
  rw [e5 (by simp) (by rfl)]
  simp only [go_sem, b5, Tryd.f5, n2, k8, p1, p2, p3, hL]
  all_goals rfl
theorem bom5 (hlo : lo ≤ h.length) (p1 : decide (16384 < (a.length : Int)) = false) (p2 : decide (16384 < (b.length : Int)) = false) (p3 : decide (16384 < (u.length : Int)) = false) {x y z : Int} (hq : decide (2 < (b.length : Int)) = true) (hx : b[0]? = some x) (qx : (x == 239) = true) (hy : b[1]? = some y) (qy : (y == 187) = true) (hz : b[2]? = some z) (qz : (z == 191) = true)
    (hL : loopW (evCode (X5 lo h) loopW l5x0) (T5 a b u 0 h) = end5 a b u h) :
    E lo 5 [.list .no (ri .u8 a), .list .no (ri .u8 b), .list .no (ri .u8 u)] h = some (.v (.bool true), h) := by
  have k8 := f8 (lo := lo) (h := h) hlo
  have n2 : ((2 : Nat) : Int) = 2 := rfl
  have n0 : ((0 : Nat) : Int) = 0 := rfl
  simp only [X5, T5, Q5, end5, ret5, n0, l5x0, b5, Tryd.f5, loopAt, loops, bodyOf, go_sem] at hL
  rw [e5 (by simp) (by rfl)]
  simp only [go_sem, b5, Tryd.f5, n2, k8, p1, p2, p3, hL, hq, hx, qx, hy, qy, hz, qz]
  all_goals rfl
theorem blank5_10a (hlo : lo ≤ h.length) (p1 : decide (16384 < (a.length : Int)) = false) (p2 : decide (16384 < (b.length : Int)) = false) (p3 : decide (16384 < (u.length : Int)) = false) (hq : decide (2 < (b.length : Int)) = false) (h0 : decide (0 < (b.length : Int)) = true) (hx : b[0]? = some 10)
    (hL : loopW (evCode (X5 lo h) loopW l5x0) (T5 a b u 0 h) = end5 a b u h) :
    E lo 5 [.list .no (ri .u8 a), .list .no (ri .u8 b), .list .no (ri .u8 u)] h = some (.v (.bool true), h) := by
  have k8 := f8 (lo := lo) (h := h) hlo
  have n2 : ((2 : Nat) : Int) = 2 := rfl
  have t239 : ((10 : Int) == 239) = false := rfl
  have t10 : ((10 : Int) == 10) = true := rfl
  have n0 : ((0 : Nat) : Int) = 0 := rfl
  simp only [X5, T5, Q5, end5, ret5, n0, l5x0, b5, Tryd.f5, loopAt, loops, bodyOf, go_sem] at hL
  rw [e5 (by simp) (by rfl)]
  simp only [go_sem, b5, Tryd.f5, n2, k8, p1, p2, p3, hL, hq, h0, hx, t239, t10]
  all_goals rfl
theorem blank5_10b (hlo : lo ≤ h.length) (p1 : decide (16384 < (a.length : Int)) = false) (p2 : decide (16384 < (b.length : Int)) = false) (p3 : decide (16384 < (u.length : Int)) = false) (hq : decide (2 < (b.length : Int)) = true) (h0 : decide (0 < (b.length : Int)) = true) (hx : b[0]? = some 10)
    (hL : loopW (evCode (X5 lo h) loopW l5x0) (T5 a b u 0 h) = end5 a b u h) :
    E lo 5 [.list .no (ri .u8 a), .list .no (ri .u8 b), .list .no (ri .u8 u)] h = some (.v (.bool true), h) := by
  have k8 := f8 (lo := lo) (h := h) hlo
  have n2 : ((2 : Nat) : Int) = 2 := rfl
  have t239 : ((10 : Int) == 239) = false := rfl
  have t10 : ((10 : Int) == 10) = true := rfl
  have n0 : ((0 : Nat) : Int) = 0 := rfl
  simp only [X5, T5, Q5, end5, ret5, n0, l5x0, b5, Tryd.f5, loopAt, loops, bodyOf, go_sem] at hL
  rw [e5 (by simp) (by rfl)]
  simp only [go_sem, b5, Tryd.f5, n2, k8, p1, p2, p3, hL, hq, h0, hx, t239, t10]
  all_goals rfl
theorem blank5_13a (hlo : lo ≤ h.length) (p1 : decide (16384 < (a.length : Int)) = false) (p2 : decide (16384 < (b.length : Int)) = false) (p3 : decide (16384 < (u.length : Int)) = false) (hq : decide (2 < (b.length : Int)) = false) (h0 : decide (0 < (b.length : Int)) = true) (hx : b[0]? = some 13)
    (hL : loopW (evCode (X5 lo h) loopW l5x0) (T5 a b u 0 h) = end5 a b u h) :
    E lo 5 [.list .no (ri .u8 a), .list .no (ri .u8 b), .list .no (ri .u8 u)] h = some (.v (.bool true), h) := by
  have k8 := f8 (lo := lo) (h := h) hlo
  have n2 : ((2 : Nat) : Int) = 2 := rfl
  have t239 : ((13 : Int) == 239) = false := rfl
  have t10 : ((13 : Int) == 10) = false := rfl
  have t13 : ((13 : Int) == 13) = true := rfl
  have n0 : ((0 : Nat) : Int) = 0 := rfl
  simp only [X5, T5, Q5, end5, ret5, n0, l5x0, b5, Tryd.f5, loopAt, loops, bodyOf, go_sem] at hL
  rw [e5 (by simp) (by rfl)]
  simp only [go_sem, b5, Tryd.f5, n2, k8, p1, p2, p3, hL, hq, h0, hx, t239, t10, t13]
  all_goals rfl
theorem blank5_13b (hlo : lo ≤ h.length) (p1 : decide (16384 < (a.length : Int)) = false) (p2 : decide (16384 < (b.length : Int)) = false) (p3 : decide (16384 < (u.length : Int)) = false) (hq : decide (2 < (b.length : Int)) = true) (h0 : decide (0 < (b.length : Int)) = true) (hx : b[0]? = some 13)
    (hL : loopW (evCode (X5 lo h) loopW l5x0) (T5 a b u 0 h) = end5 a b u h) :
    E lo 5 [.list .no (ri .u8 a), .list .no (ri .u8 b), .list .no (ri .u8 u)] h = some (.v (.bool true), h) := by
  have k8 := f8 (lo := lo) (h := h) hlo
  have n2 : ((2 : Nat) : Int) = 2 := rfl
  have t239 : ((13 : Int) == 239) = false := rfl
  have t10 : ((13 : Int) == 10) = false := rfl
  have t13 : ((13 : Int) == 13) = true := rfl
  have n0 : ((0 : Nat) : Int) = 0 := rfl
  simp only [X5, T5, Q5, end5, ret5, n0, l5x0, b5, Tryd.f5, loopAt, loops, bodyOf, go_sem] at hL
  rw [e5 (by simp) (by rfl)]
  simp only [go_sem, b5, Tryd.f5, n2, k8, p1, p2, p3, hL, hq, h0, hx, t239, t10, t13]
  all_goals rfl
theorem blank5_9a (hlo : lo ≤ h.length) (p1 : decide (16384 < (a.length : Int)) = false) (p2 : decide (16384 < (b.length : Int)) = false) (p3 : decide (16384 < (u.length : Int)) = false) (hq : decide (2 < (b.length : Int)) = false) (h0 : decide (0 < (b.length : Int)) = true) (hx : b[0]? = some 9)
    (hL : loopW (evCode (X5 lo h) loopW l5x0) (T5 a b u 0 h) = end5 a b u h) :
    E lo 5 [.list .no (ri .u8 a), .list .no (ri .u8 b), .list .no (ri .u8 u)] h = some (.v (.bool true), h) := by
  have k8 := f8 (lo := lo) (h := h) hlo
  have n2 : ((2 : Nat) : Int) = 2 := rfl
  have t239 : ((9 : Int) == 239) = false := rfl
  have t10 : ((9 : Int) == 10) = false := rfl
  have t13 : ((9 : Int) == 13) = false := rfl
  have t9 : ((9 : Int) == 9) = true := rfl
  have n0 : ((0 : Nat) : Int) = 0 := rfl
  simp only [X5, T5, Q5, end5, ret5, n0, l5x0, b5, Tryd.f5, loopAt, loops, bodyOf, go_sem] at hL
  rw [e5 (by simp) (by rfl)]
  simp only [go_sem, b5, Tryd.f5, n2, k8, p1, p2, p3, hL, hq, h0, hx, t239, t10, t13, t9]
  all_goals rfl
theorem blank5_9b (hlo : lo ≤ h.length) (p1 : decide (16384 < (a.length : Int)) = false) (p2 : decide (16384 < (b.length : Int)) = false) (p3 : decide (16384 < (u.length : Int)) = false) (hq : decide (2 < (b.length : Int)) = true) (h0 : decide (0 < (b.length : Int)) = true) (hx : b[0]? = some 9)
    (hL : loopW (evCode (X5 lo h) loopW l5x0) (T5 a b u 0 h) = end5 a b u h) :
    E lo 5 [.list .no (ri .u8 a), .list .no (ri .u8 b), .list .no (ri .u8 u)] h = some (.v (.bool true), h) := by
  have k8 := f8 (lo := lo) (h := h) hlo
  have n2 : ((2 : Nat) : Int) = 2 := rfl
  have t239 : ((9 : Int) == 239) = false := rfl
  have t10 : ((9 : Int) == 10) = false := rfl
  have t13 : ((9 : Int) == 13) = false := rfl
  have t9 : ((9 : Int) == 9) = true := rfl
  have n0 : ((0 : Nat) : Int) = 0 := rfl
  simp only [X5, T5, Q5, end5, ret5, n0, l5x0, b5, Tryd.f5, loopAt, loops, bodyOf, go_sem] at hL
  rw [e5 (by simp) (by rfl)]
  simp only [go_sem, b5, Tryd.f5, n2, k8, p1, p2, p3, hL, hq, h0, hx, t239, t10, t13, t9]
  all_goals rfl
theorem blank5_32a (hlo : lo ≤ h.length) (p1 : decide (16384 < (a.length : Int)) = false) (p2 : decide (16384 < (b.length : Int)) = false) (p3 : decide (16384 < (u.length : Int)) = false) (hq : decide (2 < (b.length : Int)) = false) (h0 : decide (0 < (b.length : Int)) = true) (hx : b[0]? = some 32)
    (hL : loopW (evCode (X5 lo h) loopW l5x0) (T5 a b u 0 h) = end5 a b u h) :
    E lo 5 [.list .no (ri .u8 a), .list .no (ri .u8 b), .list .no (ri .u8 u)] h = some (.v (.bool true), h) := by
  have k8 := f8 (lo := lo) (h := h) hlo
  have n2 : ((2 : Nat) : Int) = 2 := rfl
  have t239 : ((32 : Int) == 239) = false := rfl
  have t10 : ((32 : Int) == 10) = false := rfl
  have t13 : ((32 : Int) == 13) = false := rfl
  have t9 : ((32 : Int) == 9) = false := rfl
  have t32 : ((32 : Int) == 32) = true := rfl
  have n0 : ((0 : Nat) : Int) = 0 := rfl
  simp only [X5, T5, Q5, end5, ret5, n0, l5x0, b5, Tryd.f5, loopAt, loops, bodyOf, go_sem] at hL
  rw [e5 (by simp) (by rfl)]
  simp only [go_sem, b5, Tryd.f5, n2, k8, p1, p2, p3, hL, hq, h0, hx, t239, t10, t13, t9, t32]
  all_goals rfl
theorem blank5_32b (hlo : lo ≤ h.length) (p1 : decide (16384 < (a.length : Int)) = false) (p2 : decide (16384 < (b.length : Int)) = false) (p3 : decide (16384 < (u.length : Int)) = false) (hq : decide (2 < (b.length : Int)) = true) (h0 : decide (0 < (b.length : Int)) = true) (hx : b[0]? = some 32)
    (hL : loopW (evCode (X5 lo h) loopW l5x0) (T5 a b u 0 h) = end5 a b u h) :
    E lo 5 [.list .no (ri .u8 a), .list .no (ri .u8 b), .list .no (ri .u8 u)] h = some (.v (.bool true), h) := by
  have k8 := f8 (lo := lo) (h := h) hlo
  have n2 : ((2 : Nat) : Int) = 2 := rfl
  have t239 : ((32 : Int) == 239) = false := rfl
  have t10 : ((32 : Int) == 10) = false := rfl
  have t13 : ((32 : Int) == 13) = false := rfl
  have t9 : ((32 : Int) == 9) = false := rfl
  have t32 : ((32 : Int) == 32) = true := rfl
  have n0 : ((0 : Nat) : Int) = 0 := rfl
  simp only [X5, T5, Q5, end5, ret5, n0, l5x0, b5, Tryd.f5, loopAt, loops, bodyOf, go_sem] at hL
  rw [e5 (by simp) (by rfl)]
  simp only [go_sem, b5, Tryd.f5, n2, k8, p1, p2, p3, hL, hq, h0, hx, t239, t10, t13, t9, t32]
  all_goals rfl
theorem blank5_12a (hlo : lo ≤ h.length) (p1 : decide (16384 < (a.length : Int)) = false) (p2 : decide (16384 < (b.length : Int)) = false) (p3 : decide (16384 < (u.length : Int)) = false) (hq : decide (2 < (b.length : Int)) = false) (h0 : decide (0 < (b.length : Int)) = true) (hx : b[0]? = some 12)
    (hL : loopW (evCode (X5 lo h) loopW l5x0) (T5 a b u 0 h) = end5 a b u h) :
    E lo 5 [.list .no (ri .u8 a), .list .no (ri .u8 b), .list .no (ri .u8 u)] h = some (.v (.bool true), h) := by
  have k8 := f8 (lo := lo) (h := h) hlo
  have n2 : ((2 : Nat) : Int) = 2 := rfl
  have t239 : ((12 : Int) == 239) = false := rfl
  have t10 : ((12 : Int) == 10) = false := rfl
  have t13 : ((12 : Int) == 13) = false := rfl
  have t9 : ((12 : Int) == 9) = false := rfl
  have t32 : ((12 : Int) == 32) = false := rfl
  have t12 : ((12 : Int) == 12) = true := rfl
  have n0 : ((0 : Nat) : Int) = 0 := rfl
  simp only [X5, T5, Q5, end5, ret5, n0, l5x0, b5, Tryd.f5, loopAt, loops, bodyOf, go_sem] at hL
  rw [e5 (by simp) (by rfl)]
  simp only [go_sem, b5, Tryd.f5, n2, k8, p1, p2, p3, hL, hq, h0, hx, t239, t10, t13, t9, t32, t12]
  all_goals rfl
theorem blank5_12b (hlo : lo ≤ h.length) (p1 : decide (16384 < (a.length : Int)) = false) (p2 : decide (16384 < (b.length : Int)) = false) (p3 : decide (16384 < (u.length : Int)) = false) (hq : decide (2 < (b.length : Int)) = true) (h0 : decide (0 < (b.length : Int)) = true) (hx : b[0]? = some 12)
    (hL : loopW (evCode (X5 lo h) loopW l5x0) (T5 a b u 0 h) = end5 a b u h) :
    E lo 5 [.list .no (ri .u8 a), .list .no (ri .u8 b), .list .no (ri .u8 u)] h = some (.v (.bool true), h) := by
  have k8 := f8 (lo := lo) (h := h) hlo
  have n2 : ((2 : Nat) : Int) = 2 := rfl
  have t239 : ((12 : Int) == 239) = false := rfl
  have t10 : ((12 : Int) == 10) = false := rfl
  have t13 : ((12 : Int) == 13) = false := rfl
  have t9 : ((12 : Int) == 9) = false := rfl
  have t32 : ((12 : Int) == 32) = false := rfl
  have t12 : ((12 : Int) == 12) = true := rfl
  have n0 : ((0 : Nat) : Int) = 0 := rfl
  simp only [X5, T5, Q5, end5, ret5, n0, l5x0, b5, Tryd.f5, loopAt, loops, bodyOf, go_sem] at hL
  rw [e5 (by simp) (by rfl)]
  simp only [go_sem, b5, Tryd.f5, n2, k8, p1, p2, p3, hL, hq, h0, hx, t239, t10, t13, t9, t32, t12]
  all_goals rfl
/-- the law TokRemarks answers true -/
theorem f5 (hla : a.length ≤ 100000000) (ha : By a) (hlb : b.length ≤ 100000000) (hb : By b) (hlu : u.length ≤ 100000000) (hu : By u) (hlo : lo ≤ h.length) :
    E lo 5 [.list .no (ri .u8 a), .list .no (ri .u8 b), .list .no (ri .u8 u)] h = some (.v (.bool true), h) := by
  rcases Nat.lt_or_ge 16384 a.length with h1 | h1
  · exact long5a hlo (by simp; omega)
  rcases Nat.lt_or_ge 16384 b.length with h2 | h2
  · exact long5b hlo (by simp; omega) (by simp; omega)
  rcases Nat.lt_or_ge 16384 u.length with h3 | h3
  · exact long5c hlo (by simp; omega) (by simp; omega) (by simp; omega)
  have p1 : decide (16384 < (a.length : Int)) = false := by simp; omega
  have p2 : decide (16384 < (b.length : Int)) = false := by simp; omega
  have p3 : decide (16384 < (u.length : Int)) = false := by simp; omega
  rcases outer5 (a := a) (b := b) (u := u) (N := h.length) hlo ha (by omega) hu (by omega) with hL | ⟨hL, hc, hj⟩
  · exact loop5r hlo p1 p2 p3 hL
  cases b with
  | nil => exact tail5z hlo ha h1 hb h2 hu h3 hc hj rfl (by decide) (by decide) hL
  | cons x t =>
    have h0 : decide (0 < ((x :: t).length : Int)) = true := by simp only [List.length_cons, decide_eq_true_eq]; omega
    have hx : (x :: t)[0]? = some x := rfl
    cases hq : decide (2 < ((x :: t).length : Int)) with
    | false =>
      have hn : bom (x :: t) = false := by
        simp only [decide_eq_false_iff_not] at hq
        match t, hq with
        | [], _ => simp [bom]
        | [y], _ => simp [bom]
        | y :: z :: r, hq => simp only [List.length_cons] at hq; omega
      by_cases d10 : x = 10
      · subst d10; exact blank5_10a hlo p1 p2 p3 hq h0 hx hL
      by_cases d13 : x = 13
      · subst d13; exact blank5_13a hlo p1 p2 p3 hq h0 hx hL
      by_cases d9 : x = 9
      · subst d9; exact blank5_9a hlo p1 p2 p3 hq h0 hx hL
      by_cases d32 : x = 32
      · subst d32; exact blank5_32a hlo p1 p2 p3 hq h0 hx hL
      by_cases d12 : x = 12
      · subst d12; exact blank5_12a hlo p1 p2 p3 hq h0 hx hL
      exact tail5a hlo ha h1 hb h2 hu h3 hc hj hn hq h0 hx (by simp [d10]) (by simp [d13]) (by simp [d9]) (by simp [d32]) (by simp [d12]) hL
    | true =>
      by_cases d10 : x = 10
      · subst d10; exact blank5_10b hlo p1 p2 p3 hq h0 hx hL
      by_cases d13 : x = 13
      · subst d13; exact blank5_13b hlo p1 p2 p3 hq h0 hx hL
      by_cases d9 : x = 9
      · subst d9; exact blank5_9b hlo p1 p2 p3 hq h0 hx hL
      by_cases d32 : x = 32
      · subst d32; exact blank5_32b hlo p1 p2 p3 hq h0 hx hL
      by_cases d12 : x = 12
      · subst d12; exact blank5_12b hlo p1 p2 p3 hq h0 hx hL
      have q10 : (x == 10) = false := by simp [d10]
      have q13 : (x == 13) = false := by simp [d13]
      have q9 : (x == 9) = false := by simp [d9]
      have q32 : (x == 32) = false := by simp [d32]
      have q12 : (x == 12) = false := by simp [d12]
      obtain ⟨y, z, r, rfl⟩ : ∃ y z r, t = y :: z :: r := by
        simp only [decide_eq_true_eq] at hq
        match t, hq with
        | [], hq => simp only [List.length_cons, List.length_nil] at hq; omega
        | [y], hq => simp only [List.length_cons, List.length_nil] at hq; omega
        | y :: z :: r, _ => exact ⟨y, z, r, rfl⟩
      have hy : (x :: y :: z :: r)[1]? = some y := rfl
      have hz : (x :: y :: z :: r)[2]? = some z := rfl
      have hbom : bom (x :: y :: z :: r) = (x == 239 && (y == 187 && z == 191)) := by simp [bom]
      cases qx : (x == 239) with
      | false => exact tail5b hlo ha h1 hb h2 hu h3 hc hj (by rw [hbom, qx]; rfl) hq h0 hx qx q10 q13 q9 q32 q12 hL
      | true =>
        cases qy : (y == 187) with
        | false => exact tail5c hlo ha h1 hb h2 hu h3 hc hj (by rw [hbom, qx, qy]; rfl) hq h0 hx qx hy qy q10 q13 q9 q32 q12 hL
        | true =>
          cases qz : (z == 191) with
          | false => exact tail5d hlo ha h1 hb h2 hu h3 hc hj (by rw [hbom, qx, qy, qz]; rfl) hq h0 hx qx hy qy hz qz q10 q13 q9 q32 q12 hL
          | true => exact bom5 hlo p1 p2 p3 hq hx qx hy qy hz qz hL
end
end Go.Lift.D3
end
