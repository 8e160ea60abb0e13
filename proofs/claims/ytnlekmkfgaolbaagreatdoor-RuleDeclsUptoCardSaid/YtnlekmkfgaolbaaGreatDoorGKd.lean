/- jalousieref5.decl: is it important, is it too deep? -/
import Derived.Test.YtnlekmkfgaolbaaGreatDoorGKa
import Derived.Test.YtnlekmkfgaolbaaGreatDoorGKb
import Derived.Test.YtnlekmkfgaolbaaGreatDoorGKc
set_option linter.unusedVariables false
set_option linter.unusedSimpArgs false
set_option linter.unusedSectionVars false
section
namespace Go.Lift.Rul
end Go.Lift.Rul
namespace Go.Lift.Utf
end Go.Lift.Utf
namespace Go.Proofs
end Go.Proofs
open Go.Proofs
namespace Go.Lift.P8
open Rul
open Utf (By)
variable [MX]
set_option maxRecDepth 20000
set_option maxHeartbeats 4000000
variable {lo : Nat} {h : Heap}
abbrev ob77 : Ob := .cells [.v (.string ByteArray.empty), .list .yes [], .v (.bool false)]
theorem tail77 {n : List Int} {v : List CV} {i : Bool} {ex : Env} (hlo : lo ≤ h.length) (hy : By n) (hl : n.length ≤ 1000000000) (hv : nodesL v ≤ 1000000000) :
  evCode ⟨Tryz.prog, E, lo, h.length, h77⟩ loopW (rgt 7 b77) ((2, .ptr h.length 0) :: (4, .ptr (h.length + 1) 0) :: (6, .list .no (rowsC v)) :: ex, h ++ [ob77, .cells [.v (.string (Rul.bs n)), .list .yes [], .v (.bool i)]]) =
   if deepL 64 v = true then some (.ret, [(2, .ptr h.length 0), (3, .v (.bool false))], h ++ [ob77, .cells [.v (.string (Rul.bs n)), .list .yes [], .v (.bool i)]])
   else some (.ret, [(2, .ptr h.length 0), (3, .v (.bool true))], h ++ [.cells [.v (.string (Rul.bs (nameOf n))), .list .no (rowsC v), .v (.bool i)], .cells [.v (.string (Rul.bs (nameOf n))), .list .no (rowsC v), .v (.bool i)]]) := by
 have l1 : lo ≤ h.length + 1 := by omega
 have c70 := f70 (lo := lo) (h := h ++ [ob77, .cells [.v (.string (Rul.bs n)), .list .yes [], .v (.bool i)]]) (l := v) (by simp; omega) (by omega)
 have hn := name77 (lo := lo) (h := h) (n := n) (i := i) (R := rowsC v) (ex := []) hlo hy hl
 simp only [rgt, b77, Tryz.f77, bodyOf, Option.getD_some] at hn
 generalize rowsC v = R at *
 cases hd : deepL 64 v with
 | true =>
  rw [hd] at c70
  rw [if_pos rfl]
  simp only [go_sem, ob77, rgt, b77, Tryz.f77, hlo, l1, c70]
  all_goals rfl
 | false =>
  rw [hd] at c70
  rw [if_neg (by simp)]
  simp only [go_sem, ob77, rgt, b77, Tryz.f77, hlo, l1, c70, ↓hn]
theorem nodesL_imp (l : List CV) : nodesL (impOf l).1 ≤ nodesL l := by
 unfold impOf
 split
 ·rename_i x y r e
  split
  ·split
   ·rename_i z s e2
    split
    ·show nodesL (trim s.reverse) ≤ _
     have h1 := nodesL_trim s.reverse
     rw [nodesL_rev] at h1
     have h2 : nodesL (z :: s) ≤ nodesL (y :: r) := by rw [← e2]; exact nodesL_suffix (List.dropWhile_suffix _)
     rw [nodesL_cons] at h2
     have h3 : nodesL l = nodesL (x :: y :: r) := by rw [← e, nodesL_rev]
     rw [nodesL_cons] at h3
     omega
    ·exact Nat.le_refl _
   ·exact Nat.le_refl _
  ·exact Nat.le_refl _
 ·exact Nat.le_refl _
theorem imp_snoc (u : List CV) (x : CV) (hu : u ≠ []) : impOf (u ++ [x]) = if (x.k == 1 && small x.t.b == important) = true then (match u.reverse.dropWhile spaceC with
  | z :: s => if (z.k == 9 && z.t.b == [33]) = true then (trim s.reverse, true) else (u ++ [x], false)
  | [] => (u ++ [x], false)) else (u ++ [x], false) := by
 unfold impOf
 have e : (u ++ [x]).reverse = x :: u.reverse := by simp
 obtain ⟨y, r, hr⟩ : ∃ y r, u.reverse = y :: r := by
  cases hh : u.reverse with
  | nil => exact absurd (List.reverse_eq_nil_iff.1 hh) hu
  | cons y r => exact ⟨y, r, rfl⟩
 rw [e, hr]
 rfl
theorem ltrim_front {u m : List CV} (h : ltrim (u ++ m) = u ++ m) : ltrim u = u := by
 cases u with
 | nil => rfl
 | cons a u =>
  have ha : spaceC a = false := by
   cases hs : spaceC a with
   | false => rfl
   | true =>
    exfalso
    unfold ltrim at h
    rw [List.cons_append, List.dropWhile_cons, hs, if_pos rfl] at h
    have := (List.dropWhile_suffix (p := spaceC) (l := u ++ m)).length_le
    rw [h] at this
    simp at this
    omega
  unfold ltrim
  rw [List.dropWhile_cons, ha]
  rfl
theorem ltrim_trim (l : List CV) : ltrim (trim l) = trim l := by rw [trim_eq, ltrim_rtrim, ltrim_ltrim]
def BtV (v : CV) : Prop := BtT v.t
theorem imp77 {n : List Int} {v : List CV} (hlo : lo ≤ h.length) (hb : ∀ x ∈ v, BtV x) (hl : v.length ≤ 1000000000) (ht : ltrim v = v) :
  ∃ ex, evCode ⟨Tryz.prog, E, lo, h.length, h77⟩ loopW (lft (rgt 6 b77)) ([(2, .ptr h.length 0), (4, .ptr (h.length + 1) 0), (6, .list .no (rowsC v))], h ++ [ob77, .cells [.v (.string (Rul.bs n)), .list .yes [], .v (.bool false)]]) =
   some (.normal, (2, .ptr h.length 0) :: (4, .ptr (h.length + 1) 0) :: (6, .list .no (rowsC (impOf v).1)) :: ex, h ++ [ob77, .cells [.v (.string (Rul.bs n)), .list .yes [], .v (.bool (impOf v).2)]]) := by
 have l1 : lo ≤ h.length + 1 := by omega
 have hlh : ∀ X : Ob, lo ≤ (h ++ [ob77, X]).length := fun X => by simp; omega
 rcases List.eq_nil_or_concat v with rfl | ⟨u, x, rfl⟩
 ·have q : decide ((1 : Int) < ((0 : Nat) : Int)) = false := rfl
  have ei : impOf [] = ([], false) := rfl
  rw [ei]
  refine ⟨[(7, .v (.int .i64 0)), (64, .v (.bool false))], ?_⟩
  simp only [go_sem, ob77, lft, rgt, b77, Tryz.f77, hlo, l1, q, rowsC_nil, List.length_nil]
 ·simp only [List.concat_eq_append] at *
  have hlen : (u ++ [x]).length = u.length + 1 := by simp
  have rl : (rowsC (u ++ [x])).length = u.length + 1 := by rw [rowsC_len, hlen]
  by_cases hu : u = []
  ·subst hu
   have q : decide ((1 : Int) < ((0 + 1 : Nat) : Int)) = false := rfl
   have ei : impOf ([] ++ [x]) = ([x], false) := rfl
   rw [ei]
   refine ⟨[(7, .v (.int .i64 1)), (64, .v (.bool false))], ?_⟩
   simp only [List.nil_append, List.length_nil, Nat.zero_add] at rl q ⊢
   generalize rowsC [x] = R at *
   simp only [go_sem, ob77, lft, rgt, b77, Tryz.f77, hlo, l1, q, rl]
   all_goals rfl
  ·have hup : 0 < u.length := List.length_pos_iff.2 hu
   have q : decide ((1 : Int) < ((u.length + 1 : Nat) : Int)) = true := by rw [decide_eq_true_iff]; omega
   have w1 : IntKind.i64.wrap (((u.length + 1 : Nat) : Int) - 1) = (u.length : Int) := by rw [wrap_i64 (by omega) (by omega)]; omega
   have hg : (rowsC (u ++ [x]))[u.length]? = some (rowV x) := by rw [rowsC_get]; simp
   have htk : (rowsC (u ++ [x])).take u.length = rowsC u := by rw [rowsC_take, List.take_left]
   have ra := rowsC_all (u ++ [x])
   have hle : u.length ≤ u.length + 1 := Nat.le_succ _
   have hbx := hb x (by simp)
   have htu := ltrim_front ht
   have ei := imp_snoc u x hu
   have hum : ∀ y ∈ u, BtV y := fun y hy => hb y (by simp [hy])
   obtain ⟨t, ks⟩ := x
   rw [rowV_eq] at hg
   have c35 := fun X => f35 (lo := lo) (h := h ++ [ob77, .cells X]) (l := u) (hlh _) (by omega)
   generalize hR : rowsC (u ++ [CV.mk t ks]) = R at *
   have ei : impOf (u ++ [CV.mk t ks]) = if (t.k == 1 && small t.b == important) = true then (match u.reverse.dropWhile spaceC with
     | z :: s => if (z.k == 9 && z.t.b == [33]) = true then (trim s.reverse, true) else (u ++ [CV.mk t ks], false)
     | [] => (u ++ [CV.mk t ks], false)) else (u ++ [CV.mk t ks], false) := ei
   cases hk : (t.k == 1) with
   | false =>
    rw [hk, Bool.false_and, if_neg (by simp)] at ei
    rw [ei]
    simp only [hR]
    refine ⟨[(7, .v (.int .i64 (u.length + 1 : Nat))), (64, .v (.bool false))], ?_⟩
    simp only [go_sem, ob77, lft, rgt, b77, Tryz.f77, hlo, l1, q, w1, rl, hg, hk]
    all_goals rfl
   | true =>
    rw [hk, Bool.true_and] at ei
    have c98 := fun X => r98 (lo := lo) (h := h ++ [ob77, .cells X]) (a := t.b) (b := important) (hlh _) (by have := hbx.2; show t.b.length ≤ _; exact Nat.le_trans this (by decide)) hbx.1 (by decide) by_important
    have esi : small important = important := rfl
    rw [esi] at c98
    cases hi : (small t.b == important) with
    | false =>
     rw [hi, if_neg (by simp)] at ei
     rw [ei]
     simp only [hR]
     rw [hi] at c98
     refine ⟨[(7, .v (.int .i64 (u.length + 1 : Nat))), (64, .v (.bool false))], ?_⟩
     simp only [go_sem, ob77, lft, rgt, b77, Tryz.f77, hlo, l1, q, w1, rl, hg, hk, k_important, c98]
     all_goals rfl
    | true =>
     rw [hi, if_pos rfl] at ei
     rw [hi] at c98
     have etr : trim u = (u.reverse.dropWhile spaceC).reverse := by rw [trim_eq, htu]; rfl
     cases hz : u.reverse.dropWhile spaceC with
     | nil =>
      rw [hz] at etr
      have e0 : trim u = [] := etr
      rw [e0, rowsC_nil] at c35
      have q0 : decide ((0 : Int) < ((0 : Nat) : Int)) = false := rfl
      rw [hz] at ei
      simp only at ei
      rw [ei]
      simp only [hR]
      refine ⟨[(8, .list .no []), (9, .v (.int .i64 0)), (93, .v (.bool false))], ?_⟩
      simp only [go_sem, ob77, lft, rgt, b77, Tryz.f77, hlo, l1, Nat.zero_le, q, q0, w1, rl, hg, hk, hle, htk, ra, k_important, c98, c35, List.length_nil]
      all_goals rfl
     | cons z s =>
      rw [hz, List.reverse_cons] at etr
      have hzm : z ∈ u := by
       have : z ∈ u.reverse := (List.dropWhile_suffix spaceC).subset (by rw [hz]; simp)
       simpa using this
      have hsl : s.length + 1 ≤ u.length := by
       have := (List.dropWhile_suffix (p := spaceC) (l := u.reverse)).length_le
       rw [hz] at this
       simpa using this
      have hbz := hum z hzm
      rw [etr] at c35
      have rl2 : (rowsC (s.reverse ++ [z])).length = s.length + 1 := by rw [rowsC_len]; simp
      have hg2 : (rowsC (s.reverse ++ [z]))[s.length]? = some (rowV z) := by rw [rowsC_get]; simp
      have htk2 : (rowsC (s.reverse ++ [z])).take s.length = rowsC s.reverse := by rw [rowsC_take, List.take_left' (by simp)]
      have ra2 := rowsC_all (s.reverse ++ [z])
      have hle2 : s.length ≤ s.length + 1 := Nat.le_succ _
      have q2 : decide ((0 : Int) < ((s.length + 1 : Nat) : Int)) = true := by rw [decide_eq_true_iff]; omega
      have w2 : IntKind.i64.wrap (((s.length + 1 : Nat) : Int) - 1) = (s.length : Int) := by rw [wrap_i64 (by omega) (by omega)]; omega
      have c35b := fun X => f35 (lo := lo) (h := h ++ [ob77, .cells X]) (l := s.reverse) (hlh _) (by rw [List.length_reverse]; omega)
      obtain ⟨tz, kz⟩ := z
      rw [rowV_eq] at hg2
      generalize hR2 : rowsC (s.reverse ++ [CV.mk tz kz]) = R2 at *
      have hbe := rbs_beq hbz.1 by_bang
      have hbe : ((Rul.bs tz.b).toList == (Rul.bs [33]).toList) = (tz.b == [33]) := hbe
      rw [hz] at ei
      have ei : impOf (u ++ [CV.mk t ks]) = if (tz.k == 9 && tz.b == [33]) = true then (trim s.reverse, true) else (u ++ [CV.mk t ks], false) := ei
      cases hk9 : (tz.k == 9) with
      | false =>
       rw [hk9, Bool.false_and, if_neg (by simp)] at ei
       rw [ei]
       simp only [hR]
       refine ⟨[(8, .list .no R2), (9, .v (.int .i64 (s.length + 1 : Nat))), (93, .v (.bool false))], ?_⟩
       simp only [go_sem, ob77, lft, rgt, b77, Tryz.f77, hlo, l1, Nat.zero_le, q, q2, w1, w2, rl, rl2, hg, hg2, hk, hk9, hle, htk, ra, k_important, c98, c35]
       all_goals rfl
      | true =>
       rw [hk9, Bool.true_and] at ei
       cases hb33 : (tz.b == [33]) with
       | false =>
        rw [hb33] at hbe
        rw [hb33, if_neg (by simp)] at ei
        rw [ei]
        simp only [hR]
        refine ⟨[(8, .list .no R2), (9, .v (.int .i64 (s.length + 1 : Nat))), (93, .v (.bool false))], ?_⟩
        simp only [go_sem, ob77, lft, rgt, b77, Tryz.f77, hlo, l1, Nat.zero_le, q, q2, w1, w2, rl, rl2, hg, hg2, hk, hk9, hle, htk, ra, k_important, k_bang, hbe, c98, c35]
        all_goals rfl
       | true =>
        rw [hb33] at hbe
        rw [hb33, if_pos rfl] at ei
        rw [ei]
        simp only
        refine ⟨[(7, .undef), (64, .undef)], ?_⟩
        simp only [go_sem, ob77, lft, rgt, b77, Tryz.f77, hlo, l1, Nat.zero_le, q, q2, w1, w2, rl, rl2, hg, hg2, hk, hk9, hle, hle2, htk, htk2, ra, ra2, k_important, k_bang, hbe, c98, c35, c35b]
        all_goals rfl
end Go.Lift.P8
end

section
namespace Go.Lift.Rul
end Go.Lift.Rul
namespace Go.Lift.Utf
end Go.Lift.Utf
namespace Go.Proofs
end Go.Proofs
open Go.Proofs
namespace Go.Lift.P8
open Rul
open Utf (By)
variable [MX]
set_option maxRecDepth 20000
set_option maxHeartbeats 4000000
variable {lo : Nat} {h : Heap}
theorem f77 {x : CV} {m : List CV} (hlo : lo ≤ h.length) (hb : ∀ y ∈ x :: m, BtV y) (hl : nodesL (x :: m) ≤ 1000000000) : E lo 77 [.list .no (rowsC (x :: m))] h = some (dcR (decl (x :: m)), h) := by
 have l1 : lo ≤ h.length + 1 := by omega
 have hll := nodesL_len (x :: m)
 rw [nodesL_cons] at hl
 simp only [List.length_cons] at hll
 have hbx := hb x (by simp)
 have hbm : ∀ y ∈ m, BtV y := fun y hy => hb y (by simp [hy])
 have hml := nodesL_len m
 have c35 := fun X => f35 (lo := lo) (h := h ++ [ob77, .cells X]) (l := m) (by simp; omega) (by omega)
 have ts := trim_step m
 obtain ⟨t, ks⟩ := x
 have hrl : (rowsC (.mk t ks :: m)).length = m.length + 1 := by rw [rowsC_len]; rfl
 have hr0 : (rowsC (.mk t ks :: m))[0]? = some (rowV (.mk t ks)) := by rw [rowsC_cons]; rfl
 have hr1 : (rowsC (.mk t ks :: m)).drop 1 = rowsC m := by rw [rowsC_cons]; rfl
 have htk : (rowsC (.mk t ks :: m)).take (m.length + 1) = rowsC (.mk t ks :: m) := by rw [← hrl, List.take_length]
 have ra := rowsC_all (.mk t ks :: m)
 have h1l : 1 ≤ m.length + 1 := by omega
 rw [rowV_eq] at hr0
 have ed : decl (.mk t ks :: m) = if (t.k != 1) = true then none else
  match ltrim m with
  | [] => none
  | c :: r => if (c.k != 16) = true then none else if deepL 64 r = true then none else
   some ⟨nameOf t.b, (impOf (trim r)).1, (impOf (trim r)).2⟩ := by
  rw [decl]
  rfl
 rw [ed]
 have ez : declC zd = [.v (.string ByteArray.empty), .list .no [], .v (.bool false)] := by
  have e0 : Rul.bs [] = ByteArray.empty := rfl
  simp only [declC, zd, e0, rowsC_nil]
 generalize rowsC (.mk t ks :: m) = R at *
 rw [e77 (by simp) (by rfl)]
 cases hk : (t.k != 1) with
 | true =>
  rw [if_pos rfl]
  simp only [dcR, ez]
  simp only [go_sem, b77, Tryz.f77, hlo, l1, hr0, hk]
  all_goals rfl
 | false =>
  rw [if_neg (by simp)]
  cases hm : ltrim m with
  | nil =>
   rw [hm] at ts
   rw [ts, rowsC_nil] at c35
   have q0 : (((0 : Nat) : Int) == 0) = true := rfl
   simp only [dcR, ez]
   simp only [ob77] at c35
   simp only [go_sem, b77, Tryz.f77, hlo, l1, hr0, hr1, hrl, htk, ra, h1l, hk, c35, q0, List.length_nil]
   all_goals rfl
  | cons c r =>
   rw [hm] at ts
   obtain ⟨q, tq, tr⟩ := ts
   have hcm : c ∈ m := drop_sub (p := spaceC) (by show c ∈ ltrim m; rw [hm]; simp)
   have hqm : ∀ y ∈ q, y ∈ m := fun y hy => trim_sub (by rw [tq]; simp [hy])
   have hql : nodesL (c :: q) ≤ nodesL m := by rw [← tq]; exact nodesL_trim m
   rw [nodesL_cons] at hql
   have hqn := nodesL_len q
   rw [tq] at c35
   have c35b := fun X => f35 (lo := lo) (h := h ++ [ob77, .cells X]) (l := q) (by simp; omega) (by omega)
   rw [tr] at c35b
   obtain ⟨tc, kc⟩ := c
   have hql2 : (rowsC (.mk tc kc :: q)).length = q.length + 1 := by rw [rowsC_len]; rfl
   have hq0 : (rowsC (.mk tc kc :: q))[0]? = some (rowV (.mk tc kc)) := by rw [rowsC_cons]; rfl
   have hq1 : (rowsC (.mk tc kc :: q)).drop 1 = rowsC q := by rw [rowsC_cons]; rfl
   have hqt : (rowsC (.mk tc kc :: q)).take (q.length + 1) = rowsC (.mk tc kc :: q) := by rw [← hql2, List.take_length]
   have raq := rowsC_all (.mk tc kc :: q)
   have q1l : 1 ≤ q.length + 1 := by omega
   have q0 : (((q.length + 1 : Nat) : Int) == 0) = false := by rw [beq_eq_false_iff_ne]; omega
   rw [rowV_eq] at hq0
   generalize rowsC (.mk tc kc :: q) = Q at *
   simp only
   show _ = some (dcR (if (tc.k != 16) = true then none else _), h)
   cases hc16 : (tc.k != 16) with
   | true =>
    rw [if_pos rfl]
    simp only [dcR, ez]
    simp only [ob77] at c35
    simp only [go_sem, b77, Tryz.f77, hlo, l1, hr0, hr1, hrl, htk, ra, h1l, hk, c35, q0, hql2, hq0, hc16]
    all_goals rfl
   | false =>
    rw [if_neg (by simp)]
    have hvb : ∀ y ∈ trim r, BtV y := fun y hy => by
     rw [← tr] at hy
     exact hbm y (hqm y (trim_sub hy))
    have hvn : nodesL (trim r) ≤ nodesL q := by rw [← tr]; exact nodesL_trim q
    have hvl := nodesL_len (trim r)
    obtain ⟨ex, hI⟩ := imp77 (lo := lo) (h := h) (n := t.b) (v := trim r) hlo hvb (by omega) (ltrim_trim r)
    have hT := tail77 (lo := lo) (h := h) (n := t.b) (v := (impOf (trim r)).1) (i := (impOf (trim r)).2) (ex := ex) hlo hbx.1 hbx.2 (by have := nodesL_imp (trim r); omega)
    rw [deep_imp, deep_trim] at hT
    simp only [lft, rgt, b77, Tryz.f77, bodyOf, Option.getD_some, ob77] at hI hT
    simp only [ob77] at c35 c35b
    cases hdp : deepL 64 r with
    | true =>
     rw [hdp, if_pos rfl] at hT
     rw [if_pos rfl]
     simp only [dcR, ez]
     simp only [go_sem, b77, Tryz.f77, hlo, l1, hr0, hr1, hrl, htk, ra, h1l, hk, c35, q0, hql2, hq0, hq1, hqt, raq, q1l, hc16, c35b, ↓hI, ↓hT]
     all_goals rfl
    | false =>
     rw [hdp, if_neg (by simp)] at hT
     rw [if_neg (by simp)]
     simp only [dcR, declC]
     generalize rowsC (impOf (trim r)).1 = W at *
     simp only [go_sem, b77, Tryz.f77, hlo, l1, hr0, hr1, hrl, htk, ra, h1l, hk, c35, q0, hql2, hq0, hq1, hqt, raq, q1l, hc16, c35b, ↓hI, ↓hT]
     all_goals rfl
end Go.Lift.P8
end

section
namespace Go.Lift.Rul
end Go.Lift.Rul
namespace Go.Lift.Utf
end Go.Lift.Utf
namespace Go.Proofs
end Go.Proofs
open Go.Proofs
namespace Go.Lift.P8
open Rul
open Utf (By)
variable [MX]
set_option maxRecDepth 20000
set_option maxHeartbeats 4000000
variable {lo : Nat} {h : Heap}
theorem TX.look {H : Heap} {l : List Tk4} {E' D : List Nat} {t : Nat} (h : TX H l E' D t) : ∃ e d, (∀ Q : Heap, (H ++ Q)[e]? = some (.cells (nt E'))) ∧ (∀ Q : Heap, (H ++ Q)[d]? = some (.cells (nt D))) ∧ ∀ Q : Heap, (H ++ Q)[t]? = some (.cells [.list .no (l.map row), .stk e l.length 1, .stk d l.length 1]) := by
 obtain ⟨e, d, h1, h2, h3⟩ := h
 have k : ∀ {i : Nat} {x : Ob}, H[i]? = some x → ∀ Q : Heap, (H ++ Q)[i]? = some x := fun hx Q => by
  rw [List.getElem?_append_left (List.getElem?_eq_some_iff.1 hx).1]; exact hx
 exact ⟨e, d, k h1, k h2, k h3⟩
theorem name76 {n : List Int} {t a q : Nat} (hlo : lo ≤ h.length) (hy : By n) (hl : n.length ≤ 1000000000) :
  ∃ b, evCode ⟨Tryz.prog, E, lo, h.length, h76⟩ loopW (lft (rgt 2 b76)) ([(0, .ptr t 0), (1, .v (.int .i64 a)), (2, .v (.int .i64 q)), (6, .ptr h.length 0), (8, .ptr (h.length + 1) 0)], h ++ [ob77, .cells [.v (.string (Rul.bs n)), .list .yes [], .v (.bool false)]]) =
   some (.normal, [(0, .ptr t 0), (1, .v (.int .i64 a)), (2, .v (.int .i64 q)), (6, .ptr h.length 0), (8, .ptr (h.length + 1) 0), (26, .v (.bool b))], h ++ [ob77, .cells [.v (.string (Rul.bs (nameOf n))), .list .yes [], .v (.bool false)]]) := by
 have l1 : lo ≤ h.length + 1 := by omega
 have c97 := f97r (lo := lo) (h := h ++ [ob77, .cells [.v (.string (Rul.bs n)), .list .yes [], .v (.bool false)]]) hy hl
 have c65 := f65 (lo := lo) (h := h ++ [ob77, .cells [.v (.string (Rul.bs n)), .list .yes [], .v (.bool false)]]) (l := n) (by simp; omega) (by omega) hy
 have c65 : E lo 65 [.v (.string (Rul.bs n))] (h ++ [ob77, .cells [.v (.string (Rul.bs n)), .list .yes [], .v (.bool false)]]) = some (.v (.string (Rul.bs (small n))), h ++ [ob77, .cells [.v (.string (Rul.bs n)), .list .yes [], .v (.bool false)]]) := c65
 unfold nameOf
 simp only [ob77] at c97 c65
 cases hp : [45, 45].isPrefixOf n with
 | true =>
  rw [hp] at c97
  rw [if_pos rfl]
  refine ⟨false, ?_⟩
  simp only [go_sem, ob77, lft, rgt, b76, Tryz.f76, hlo, l1, k_dashes, c97]
  all_goals rfl
 | false =>
  rw [hp] at c97
  rw [if_neg (by simp)]
  refine ⟨true, ?_⟩
  simp only [go_sem, ob77, lft, rgt, b76, Tryz.f76, hlo, l1, k_dashes, c97, c65]
  all_goals rfl
abbrev N76 (h : Heap) (t q a : Nat) : Env := [(0, .ptr t 0), (2, .v (.int .i64 q)), (6, .ptr h.length 0), (8, .ptr (h.length + 1) 0), (9, .v (.int .i64 a))]
theorem round76a {l : List Tk4} {E' D : List Nat} {t q a : Nat} {x : Tk4} {X Y : Ob} (hT : TX h l E' D t) (hlo : lo ≤ h.length) (hl : l.length ≤ 1000000000) (hg : l[a]? = some x) (haq : a < q) :
  evCode ⟨Tryz.prog, E, lo, h.length, h76⟩ loopW l76x0 (N76 h t q a, h ++ [X, Y]) =
   if (x.k == 13) = true then some (.normal, N76 h t q (a + 1), h ++ [X, Y]) else some (.exit 0, N76 h t q a ++ [(46, .v (.bool false))], h ++ [X, Y]) := by
 obtain ⟨e, d, h1, h2, h3⟩ := hT.look
 have hgr : (l.map row)[a]? = some (row x) := by rw [List.getElem?_map, hg]; rfl
 have ha : a < l.length := (List.getElem?_eq_some_iff.1 hg).1
 have q1 : decide ((a : Int) < (q : Int)) = true := by simpa using haq
 have hw : IntKind.i64.wrap ((a : Int) + 1) = ((a + 1 : Nat) : Int) := wrap_succ (by omega)
 simp only [row] at hgr
 cases hk : (x.k == 13) with
 | true =>
  rw [if_pos rfl]
  simp only [N76, go_sem, l76x0, b76, Tryz.f76, hlo, h3, hgr, q1, hk, hw]
  all_goals rfl
 | false =>
  rw [if_neg (by simp)]
  simp only [N76, go_sem, l76x0, b76, Tryz.f76, hlo, h3, hgr, q1, hk, hw]
  all_goals rfl
theorem stop76a {t q : Nat} {X Y : Ob} (hlo : lo ≤ h.length) : evCode ⟨Tryz.prog, E, lo, h.length, h76⟩ loopW l76x0 (N76 h t q q, h ++ [X, Y]) = some (.exit 0, N76 h t q q ++ [(46, .v (.bool false))], h ++ [X, Y]) := by
 have q1 : decide ((q : Int) < (q : Int)) = false := by simp
 simp only [N76, go_sem, l76x0, b76, Tryz.f76, hlo, q1]
 all_goals rfl
def spT (v : PV) : Bool := v.t.k == 13
theorem sp_one {x : Option Int} {b : Bool} {v : PV} (hg : goodV x b v) (h : spT v = true) : (toksV v).length = 1 := by
 cases v with
 | leaf t => rw [toksV]; rfl
 | node t ks c =>
  have hk : t.k = 13 := by simpa [spT, PV.t] using h
  have hc : closer t.k ≠ 0 := by
   cases c with
   | none => exact (goodV_none.1 hg).1
   | some e => exact (goodV_some.1 hg).1
  rw [hk] at hc
  exact absurd rfl hc
theorem loop76a {l : List Tk4} {E' D : List Nat} {t q : Nat} {X Y : Ob} (hT : TX h l E' D t) (hlo : lo ≤ h.length) (hl : l.length ≤ 1000000000) : ∀ (G : List PV) (a : Nat), LaidAt l E' D a q G →
  loopW (evCode ⟨Tryz.prog, E, lo, h.length, h76⟩ loopW l76x0) (N76 h t q a, h ++ [X, Y]) = some (.exit 0, N76 h t q (a + (toksL (G.takeWhile spT)).length) ++ [(46, .v (.bool false))], h ++ [X, Y])
 | [], a, hA => by
  obtain rfl := hA.nil
  rw [loop_eq, stop76a hlo, loop_e, List.takeWhile_nil, toksL]
  rfl
 | v :: r, a, hA => by
  rw [loop_eq, round76a hT hlo hl hA.head hA.lt, List.takeWhile_cons]
  obtain ⟨y, b, hg⟩ := hA.good
  have hgv := (goodL_cons.1 hg).1
  cases hs : spT v with
  | true =>
   have hs' : (v.t.k == 13) = true := hs
   have h1 := sp_one hgv hs
   have hA2 := hA.tail
   rw [h1] at hA2
   rw [hs', if_pos rfl, loop_n, loop76a hT hlo hl r _ hA2, if_pos rfl, toksL_cons, List.length_append, h1, Nat.add_assoc]
  | false =>
   have hs' : (v.t.k == 13) = false := hs
   rw [hs', if_neg (by simp), loop_e, if_neg (by simp), toksL]
   rfl
abbrev M76 (h : Heap) (k : Nat) : Env := [(6, .ptr h.length 0), (8, .ptr (h.length + 1) 0), (13, .v (.int .i64 k))]
abbrev D76 (n : List Int) (R : List (List V)) (i : Bool) : Ob := .cells [.v (.string (Rul.bs n)), .list .no R, .v (.bool i)]
theorem round76b {n : List Int} {v : List CV} {y : CV} {k : Nat} (hlo : lo ≤ h.length) (hl : v.length ≤ 1000000000) (hg : v[k + 1]? = some y) :
  evCode ⟨Tryz.prog, E, lo, h.length, h76⟩ loopW l76x1 (M76 h (k + 1), h ++ [ob77, D76 n (rowsC v) false]) =
   if spaceC y = true then some (.normal, M76 h k, h ++ [ob77, D76 n (rowsC v) false]) else some (.exit 2, M76 h (k + 1) ++ [(119, .v (.bool false))], h ++ [ob77, D76 n (rowsC v) false]) := by
 have hlt : k + 1 < v.length := (List.getElem?_eq_some_iff.1 hg).1
 have hgr : (rowsC v)[k + 1]? = some (rowV y) := by rw [rowsC_get, hg]; rfl
 have c78 := f78 (lo := lo) (h := h ++ [ob77, D76 n (rowsC v) false]) (by simp; omega) y
 have q1 : decide ((0 : Int) < ((k + 1 : Nat) : Int)) = true := by rw [decide_eq_true_iff]; omega
 have w1 : IntKind.i64.wrap (((k + 1 : Nat) : Int) - 1) = (k : Int) := by rw [wrap_i64 (by omega) (by omega)]; omega
 obtain ⟨t, ks⟩ := y
 rw [rowV_eq] at hgr c78
 simp only [D76, ob77] at c78 ⊢
 generalize rowsC v = R at *
 cases hs : spaceC (.mk t ks) with
 | true =>
  rw [hs] at c78
  rw [if_pos rfl]
  simp only [M76, go_sem, l76x1, b76, Tryz.f76, hlo, hgr, q1, w1, c78]
  all_goals rfl
 | false =>
  rw [hs] at c78
  rw [if_neg (by simp)]
  simp only [M76, go_sem, l76x1, b76, Tryz.f76, hlo, hgr, q1, w1, c78]
  all_goals rfl
theorem stop76b {X Y : Ob} (hlo : lo ≤ h.length) : evCode ⟨Tryz.prog, E, lo, h.length, h76⟩ loopW l76x1 (M76 h 0, h ++ [X, Y]) = some (.exit 2, M76 h 0 ++ [(119, .v (.bool false))], h ++ [X, Y]) := by
 have q1 : decide ((0 : Int) < ((0 : Nat) : Int)) = false := rfl
 simp only [M76, go_sem, l76x1, b76, Tryz.f76, hlo, q1]
 all_goals rfl
theorem loop76b {n : List Int} {v : List CV} (hlo : lo ≤ h.length) (hl : v.length ≤ 1000000000) {a : CV} (ha : v[0]? = some a) (hs : spaceC a = false) : ∀ k, k < v.length → ∃ z s, (v.take (k + 1)).reverse.dropWhile spaceC = z :: s ∧
  loopW (evCode ⟨Tryz.prog, E, lo, h.length, h76⟩ loopW l76x1) (M76 h k, h ++ [ob77, D76 n (rowsC v) false]) = some (.exit 2, M76 h s.length ++ [(119, .v (.bool false))], h ++ [ob77, D76 n (rowsC v) false])
 | 0, hk => by
  have e : v.take 1 = [a] := by
   cases v with
   | nil => simp at ha
   | cons x r => simp at ha; subst ha; rfl
  refine ⟨a, [], ?_, ?_⟩
  ·rw [e, List.reverse_singleton, List.dropWhile_cons, hs]; rfl
  ·rw [loop_eq, stop76b hlo, loop_e]; rfl
 | k + 1, hk => by
  have hg : v[k + 1]? = some v[k + 1] := List.getElem?_eq_getElem hk
  have et : v.take (k + 1 + 1) = v.take (k + 1) ++ [v[k + 1]] := List.take_succ_eq_append_getElem hk
  have hr := round76b (n := n) hlo hl hg
  rw [et, List.reverse_append, List.reverse_singleton, List.singleton_append, List.dropWhile_cons]
  cases hy : spaceC v[k + 1] with
  | true =>
   rw [hy, if_pos rfl] at hr
   obtain ⟨z, s, h1, h2⟩ := loop76b (n := n) hlo hl ha hs k (by omega)
   refine ⟨z, s, ?_, ?_⟩
   ·rw [if_pos rfl]; exact h1
   ·rw [loop_eq, hr, loop_n, h2]
  | false =>
   rw [hy, if_neg (by simp)] at hr
   refine ⟨v[k + 1], (v.take (k + 1)).reverse, ?_, ?_⟩
   ·rw [if_neg (by simp)]
   ·have hlen : (v.take (k + 1)).reverse.length = k + 1 := by rw [List.length_reverse, List.length_take]; omega
    rw [hlen, loop_eq, hr, loop_e]
theorem imp76 {n : List Int} {v : List CV} (hlo : lo ≤ h.length) (hb : ∀ x ∈ v, BtV x) (hl : v.length ≤ 1000000000) (ht : ltrim v = v) :
  ∃ ex, evCode ⟨Tryz.prog, E, lo, h.length, h76⟩ loopW (lft (rgt 8 b76)) ([(6, .ptr h.length 0), (8, .ptr (h.length + 1) 0)], h ++ [ob77, D76 n (rowsC v) false]) =
   some (.normal, (6, .ptr h.length 0) :: (8, .ptr (h.length + 1) 0) :: ex, h ++ [ob77, D76 n (rowsC (impOf v).1) (impOf v).2]) := by
 have l1 : lo ≤ h.length + 1 := by omega
 have hlh : ∀ X : Ob, lo ≤ (h ++ [ob77, X]).length := fun X => by simp; omega
 rcases List.eq_nil_or_concat v with rfl | ⟨u, x, rfl⟩
 ·have w0 : IntKind.i64.wrap (((0 : Nat) : Int) - 1) = -1 := by rw [wrap_i64 (by omega) (by omega)]; rfl
  have q : decide ((1 : Int) ≤ -1) = false := rfl
  have ei : impOf [] = ([], false) := rfl
  rw [ei]
  refine ⟨[(12, .v (.int .i64 (-1))), (107, .v (.bool false))], ?_⟩
  have w00 : IntKind.i64.wrap ((0 : Int) - 1) = -1 := w0
  simp only [go_sem, ob77, D76, lft, rgt, b76, Tryz.f76, hlo, l1, w0, w00, q, rowsC_nil, List.length_nil]
  all_goals rfl
 ·simp only [List.concat_eq_append] at *
  have hlen : (u ++ [x]).length = u.length + 1 := by simp
  have rl : (rowsC (u ++ [x])).length = u.length + 1 := by rw [rowsC_len, hlen]
  have w1 : IntKind.i64.wrap (((u.length + 1 : Nat) : Int) - 1) = (u.length : Int) := by rw [wrap_i64 (by omega) (by omega)]; omega
  by_cases hu : u = []
  ·subst hu
   have q : decide ((1 : Int) ≤ ((0 : Nat) : Int)) = false := rfl
   have ei : impOf ([] ++ [x]) = ([x], false) := rfl
   rw [ei]
   simp only [List.nil_append, List.length_nil, Nat.zero_add] at rl w1 ⊢
   refine ⟨[(12, .v (.int .i64 ((0 : Nat) : Int))), (107, .v (.bool false))], ?_⟩
   generalize rowsC [x] = R at *
   have n0 : ((0 : Nat) : Int) = 0 := rfl
   simp only [go_sem, ob77, D76, lft, rgt, b76, Tryz.f76, hlo, l1, w1, q, rl]
   all_goals rfl
  ·have hup : 0 < u.length := List.length_pos_iff.2 hu
   have q : decide ((1 : Int) ≤ (u.length : Int)) = true := by rw [decide_eq_true_iff]; omega
   have hg : (rowsC (u ++ [x]))[u.length]? = some (rowV x) := by rw [rowsC_get]; simp
   have ra := rowsC_all (u ++ [x])
   have hbx := hb x (by simp)
   have htu := ltrim_front ht
   have ei := imp_snoc u x hu
   have hum : ∀ y ∈ u, BtV y := fun y hy => hb y (by simp [hy])
   have w2 : IntKind.i64.wrap ((u.length : Int) - 1) = ((u.length - 1 : Nat) : Int) := by rw [wrap_i64 (by omega) (by omega)]; omega
   obtain ⟨a, ha, hsa⟩ : ∃ a, (u ++ [x])[0]? = some a ∧ spaceC a = false := by
    cases hu' : u with
    | nil => exact absurd hu' hu
    | cons a r =>
     refine ⟨a, rfl, ?_⟩
     rw [hu'] at htu
     cases hs : spaceC a with
     | false => rfl
     | true =>
      exfalso
      unfold ltrim at htu
      rw [List.dropWhile_cons, hs, if_pos rfl] at htu
      have := (List.dropWhile_suffix (p := spaceC) (l := r)).length_le
      rw [htu] at this
      simp at this
      omega
   obtain ⟨z, s, hz, hL⟩ := loop76b (lo := lo) (h := h) (n := n) (v := u ++ [x]) hlo hl ha hsa (u.length - 1) (by rw [hlen]; omega)
   have etk : (u ++ [x]).take (u.length - 1 + 1) = u := List.take_left' (by omega)
   rw [etk] at hz
   have hzm : z ∈ u := by
    have : z ∈ u.reverse := (List.dropWhile_suffix spaceC).subset (by rw [hz]; simp)
    simpa using this
   have hbz := hum z hzm
   obtain ⟨p, hp⟩ : ∃ p, u.reverse = p ++ z :: s := by
    have := List.dropWhile_suffix (p := spaceC) (l := u.reverse)
    rw [hz] at this
    obtain ⟨p, hp⟩ := this
    exact ⟨p, hp.symm⟩
   have eu : u = s.reverse ++ (z :: p.reverse) := by
    have := congrArg List.reverse hp
    rw [List.reverse_reverse, List.reverse_append, List.reverse_cons] at this
    rw [this]; simp
   have hsl : s.length ≤ u.length := by rw [eu]; simp
   have hg2 : (rowsC (u ++ [x]))[s.length]? = some (rowV z) := by
    rw [rowsC_get, eu]
    have : (s.reverse ++ z :: p.reverse ++ [x])[s.length]? = some z := by
     rw [List.append_assoc, List.getElem?_append_right (by simp)]
     simp
    rw [this]; rfl
   have htk2 : (rowsC (u ++ [x])).take s.length = rowsC s.reverse := by
    rw [rowsC_take, eu, List.append_assoc, List.take_left' (by simp)]
   have hsl2 : s.length ≤ u.length + 1 := by omega
   have hL2 := hL
   simp only [l76x1, b76, Tryz.f76, loopAt, loops, bodyOf, go_sem, M76, D76, ob77, List.cons_append, List.nil_append] at hL2
   have c56 := fun X => f56 (lo := lo) (h := h ++ [ob77, .cells X]) (l := s.reverse) (hlh _) (by rw [List.length_reverse]; rw [hlen] at hl; omega)
   obtain ⟨t, ks⟩ := x
   obtain ⟨tz, kz⟩ := z
   rw [rowV_eq] at hg hg2
   have hbe := rbs_beq hbz.1 by_bang
   have hbe : ((Rul.bs tz.b).toList == (Rul.bs [33]).toList) = (tz.b == [33]) := hbe
   have hbi := rbs_beq (by_small hbx.1) by_important
   have hbi : ((Rul.bs (small t.b)).toList == (Rul.bs important).toList) = (small t.b == important) := hbi
   have c65 := fun X => f65 (lo := lo) (h := h ++ [ob77, .cells X]) (l := t.b) (hlh _) (by have := hbx.2; show t.b.length ≤ _; exact Nat.le_trans this (by decide)) hbx.1
   have c65 : ∀ X, E lo 65 [.v (.string (Rul.bs t.b))] (h ++ [ob77, .cells X]) = some (.v (.string (Rul.bs (small t.b))), h ++ [ob77, .cells X]) := c65
   have ei : impOf (u ++ [CV.mk t ks]) = if (t.k == 1 && small t.b == important) = true then (match u.reverse.dropWhile spaceC with
     | z :: s => if (z.k == 9 && z.t.b == [33]) = true then (trim s.reverse, true) else (u ++ [CV.mk t ks], false)
     | [] => (u ++ [CV.mk t ks], false)) else (u ++ [CV.mk t ks], false) := ei
   rw [hz] at ei
   have ei : impOf (u ++ [CV.mk t ks]) = if (t.k == 1 && small t.b == important) = true then (if (tz.k == 9 && tz.b == [33]) = true then (trim s.reverse, true) else (u ++ [CV.mk t ks], false)) else (u ++ [CV.mk t ks], false) := ei
   simp only [ob77] at c56 c65
   generalize hR : rowsC (u ++ [CV.mk t ks]) = R at *
   cases hk : (t.k == 1) with
   | false =>
    rw [hk, Bool.false_and, if_neg (by simp)] at ei
    rw [ei]
    simp only [hR]
    refine ⟨[(12, .v (.int .i64 u.length)), (107, .v (.bool false))], ?_⟩
    simp only [go_sem, ob77, D76, lft, rgt, b76, Tryz.f76, hlo, l1, q, w1, rl, hg, hk]
    all_goals rfl
   | true =>
    rw [hk, Bool.true_and] at ei
    cases hi : (small t.b == important) with
    | false =>
     rw [hi] at hbi
     rw [hi, if_neg (by simp)] at ei
     rw [ei]
     simp only [hR]
     refine ⟨[(12, .v (.int .i64 u.length)), (107, .v (.bool false))], ?_⟩
     simp only [go_sem, ob77, D76, lft, rgt, b76, Tryz.f76, hlo, l1, q, w1, rl, hg, hk, k_important, c65, hbi]
     all_goals rfl
    | true =>
     rw [hi] at hbi
     rw [hi, if_pos rfl] at ei
     cases hk9 : (tz.k == 9) with
     | false =>
      rw [hk9, Bool.false_and, if_neg (by simp)] at ei
      rw [ei]
      simp only [hR]
      refine ⟨[(13, .v (.int .i64 s.length)), (139, .v (.bool false))], ?_⟩
      simp only [go_sem, ob77, D76, lft, rgt, b76, Tryz.f76, hlo, l1, q, w1, w2, rl, hg, hg2, hk, hk9, k_important, c65, hbi, hL2]
      all_goals rfl
     | true =>
      rw [hk9, Bool.true_and] at ei
      cases hb33 : (tz.b == [33]) with
      | false =>
       rw [hb33] at hbe
       rw [hb33, if_neg (by simp)] at ei
       rw [ei]
       simp only [hR]
       refine ⟨[(13, .v (.int .i64 s.length)), (139, .v (.bool false))], ?_⟩
       simp only [go_sem, ob77, D76, lft, rgt, b76, Tryz.f76, hlo, l1, q, w1, w2, rl, hg, hg2, hk, hk9, k_important, k_bang, hbe, c65, hbi, hL2]
       all_goals rfl
      | true =>
       rw [hb33] at hbe
       rw [hb33, if_pos rfl] at ei
       rw [ei]
       simp only
       refine ⟨[(12, .undef), (107, .undef)], ?_⟩
       simp only [go_sem, ob77, D76, lft, rgt, b76, Tryz.f76, hlo, l1, q, w1, w2, rl, hg, hg2, hk, hk9, k_important, k_bang, hbe, c65, hbi, hL2, htk2, ra, hsl2, Nat.zero_le, c56]
       all_goals rfl
end Go.Lift.P8
end

section
namespace Go.Lift.Rul
end Go.Lift.Rul
namespace Go.Lift.Utf
end Go.Lift.Utf
namespace Go.Proofs
end Go.Proofs
open Go.Proofs
namespace Go.Lift.P8
open Rul
open Utf (By)
variable [MX]
set_option maxRecDepth 20000
set_option maxHeartbeats 4000000
variable {lo : Nat} {h : Heap}
theorem spT_cv (v : PV) : spT v = spaceC (cvV v) := by
 unfold spT spaceC
 rw [cv_k]
theorem cvL_map (G : List PV) : cvL G = G.map cvV := by
 induction G with
 | nil => rw [cvL]; rfl
 | cons v r ih => rw [cvL, ih]; rfl
theorem cvL_drop (f : PV → Bool) (g : CV → Bool) (hfg : ∀ v, f v = g (cvV v)) : ∀ G : List PV, cvL (G.dropWhile f) = (cvL G).dropWhile g
 | [] => by rw [List.dropWhile_nil, cvL]; rfl
 | v :: r => by
  rw [cvL, List.dropWhile_cons, List.dropWhile_cons, ← hfg]
  split
  ·exact cvL_drop f g hfg r
  ·rw [cvL]
theorem cvL_take (f : PV → Bool) (g : CV → Bool) (hfg : ∀ v, f v = g (cvV v)) : ∀ G : List PV, cvL (G.takeWhile f) = (cvL G).takeWhile g
 | [] => by rw [List.takeWhile_nil, cvL]; rfl
 | v :: r => by
  rw [cvL, List.takeWhile_cons, List.takeWhile_cons, ← hfg]
  split
  ·rw [cvL, cvL_take f g hfg r]
  ·rw [cvL]
theorem noHit_nil : noHit [] = fun _ => true := by funext v; rfl
theorem take_all {α : Type} (l : List α) : l.takeWhile (fun _ => true) = l := by
 induction l with
 | nil => rfl
 | cons a l ih => rw [List.takeWhile_cons, if_pos rfl, ih]
theorem f76 {l : List Tk4} {E' D : List Nat} {t p q : Nat} {v : PV} {F : List PV} (hT : TX h l E' D t) (hlo : lo ≤ h.length) (hE : E'.length = l.length) (hD : D.length = l.length) (hl : l.length ≤ 1000000000) (hb : ∀ p, E'.getD p 0 ≤ l.length) (hA : LaidAt l E' D p q (v :: F)) (hk : v.t.k = 1) (hB : ∀ y ∈ cvL (v :: F), BtV y) (hn : nodesL (cvL (v :: F)) ≤ 1000000000) :
  E lo 76 [.ptr t 0, .v (.int .i64 p), .v (.int .i64 q)] h = some (dcR (decl (cvL (v :: F))), h) := by
 have l1 : lo ≤ h.length + 1 := by omega
 have hhd := hA.head
 have hp : p < l.length := (List.getElem?_eq_some_iff.1 hhd).1
 have hA1 := hA.tail
 obtain ⟨x0, b0, hg0⟩ := hA.good
 have hgv := (goodL_cons.1 hg0).1
 have hone : (toksV v).length = 1 := by
  cases v with
  | leaf t => rw [toksV]; rfl
  | node t ks c =>
   have hk' : t.k = 1 := hk
   have hc : closer t.k ≠ 0 := by
    cases c with
    | none => exact (goodV_none.1 hgv).1
    | some e => exact (goodV_some.1 hgv).1
   rw [hk'] at hc
   exact absurd rfl hc
 rw [hone] at hA1
 rw [cvL, nodesL_cons] at hn
 rw [cvL] at hB ⊢
 have hBv : BtT v.t := by have := hB (cvV v) (by simp); unfold BtV at this; rw [cv_t] at this; exact this
 have hBF : ∀ y ∈ cvL F, BtV y := fun y hy => hB y (by simp [hy])
 have hgr : (l.map row)[p]? = some (row v.t) := by rw [List.getElem?_map, hhd]; rfl
 have hw : IntKind.i64.wrap ((p : Int) + 1) = ((p + 1 : Nat) : Int) := wrap_succ (by omega)
 obtain ⟨e, d, t1, t2, t3⟩ := hT.look
 have t30 := t3 []
 rw [List.append_nil] at t30
 obtain ⟨bn, hN⟩ := name76 (lo := lo) (h := h) (n := v.t.b) (t := t) (a := p) (q := q) hlo hBv.1 hBv.2
 have hL := loop76a (X := ob77) (Y := .cells [.v (.string (Rul.bs (nameOf v.t.b))), .list .yes [], .v (.bool false)]) hT hlo hl F (p + 1) hA1
 have hC := hA1.cut spT
 have hdF : cvL (F.dropWhile spT) = ltrim (cvL F) := cvL_drop spT spaceC spT_cv F
 generalize p + 1 + (toksL (F.takeWhile spT)).length = a at *
 generalize F.dropWhile spT = G at *
 have ed : decl (cvV v :: cvL F) = match cvL G with
  | [] => none
  | c :: r => if (c.k != 16) = true then none else if deepL 64 r = true then none else
   some ⟨nameOf v.t.b, (impOf (trim r)).1, (impOf (trim r)).2⟩ := by
  rw [hdF, decl]
  have e1 : ((cvV v).k != 1) = false := by rw [cv_k, hk]; rfl
  rw [e1, if_neg (by simp), cv_t]
  rfl
 rw [ed]
 have ez : declC zd = [.v (.string ByteArray.empty), .list .no [], .v (.bool false)] := by
  have e0 : Rul.bs [] = ByteArray.empty := rfl
  simp only [declC, zd, e0, rowsC_nil]
 have haq : a ≤ q := by have := hC.len; omega
 have hql := hC.le
 simp only [row] at hgr
 rw [e76 (by simp) (by rfl)]
 simp only [lft, rgt, b76, Tryz.f76, bodyOf, Option.getD_some, ob77] at hN
 simp only [l76x0, b76, Tryz.f76, loopAt, loops, bodyOf, go_sem, N76, ob77, List.cons_append, List.nil_append] at hL
 cases G with
 | nil =>
  obtain rfl := hC.nil
  have q1 : decide ((a : Int) ≤ (a : Int)) = true := by simp
  rw [cvL]
  simp only [dcR, ez]
  simp only [go_sem, b76, Tryz.f76, hlo, l1, t3, t30, hgr, ↓hN, hw, hL, q1]
  all_goals rfl
 | cons c R =>
  have hlt := hC.lt
  have q1 : decide ((q : Int) ≤ (a : Int)) = false := by rw [decide_eq_false_iff_not]; omega
  have hcr : (l.map row)[a]? = some (row c.t) := by rw [List.getElem?_map, hC.head]; rfl
  have hwa : IntKind.i64.wrap ((a : Int) + 1) = ((a + 1 : Nat) : Int) := wrap_succ (by omega)
  simp only [row] at hcr
  rw [cvL]
  simp only [cv_k]
  cases hc16 : (c.t.k != 16) with
  | true =>
   rw [if_pos rfl]
   simp only [dcR, ez]
   simp only [go_sem, b76, Tryz.f76, hlo, l1, t3, t30, hgr, ↓hN, hw, hL, q1, hcr, hc16]
   all_goals rfl
  | false =>
   rw [if_neg (by simp)]
   have hck : c.t.k = 16 := by simpa using hc16
   obtain ⟨x1, b1, hg1⟩ := hC.good
   have hcv := (goodL_cons.1 hg1).1
   have hcone : (toksV c).length = 1 := by
    cases c with
    | leaf t => rw [toksV]; rfl
    | node t ks c' =>
     have hk' : t.k = 16 := hck
     have hcc : closer t.k ≠ 0 := by
      cases c' with
      | none => exact (goodV_none.1 hcv).1
      | some e => exact (goodV_some.1 hcv).1
     rw [hk'] at hcc
     exact absurd rfl hcc
   have hA2 := hC.tail
   rw [hcone] at hA2
   have hTQ : ∀ X : List V, TX (h ++ [ob77, .cells X]) l E' D t := fun X => hT.app _
   have hlh : ∀ X : List V, lo ≤ (h ++ [ob77, Ob.cells X]).length := fun X => by simp; omega
   have c64 := fun X => f64 (ks := []) (hTQ X) (hlh X) (by simp) hE hD hl hb hA2
   have c67 := fun X => f67 (hTQ X) (hlh X) hl hA2
   rw [noHit_nil, take_all] at c64
   rw [hA2.len] at c64
   have rn : ri .i64 [] = [] := rfl
   rw [rn] at c64
   have hRsub : ∀ y ∈ cvL R, y ∈ cvL F := fun y hy => by
    have : y ∈ ltrim (cvL F) := by rw [← hdF, cvL]; simp [hy]
    exact drop_sub this
   have hRn : nodesL (cvL R) ≤ nodesL (cvL F) := by
    have h1 : nodesL (ltrim (cvL F)) ≤ nodesL (cvL F) := nodesL_suffix (List.dropWhile_suffix _)
    rw [← hdF, cvL, nodesL_cons] at h1
    omega
   generalize cvL R = r at *
   simp only [ob77] at c64 c67
   cases hdp : deepL 64 r with
   | true =>
    rw [hdp] at c64
    rw [if_pos rfl]
    simp only [dcR, ez]
    simp only [go_sem, b76, Tryz.f76, hlo, l1, t3, t30, hgr, ↓hN, hw, hL, q1, hcr, hc16, hwa, c64, Bool.not_true]
    all_goals rfl
   | false =>
    rw [hdp] at c64
    rw [if_neg (by simp)]
    have hvb : ∀ y ∈ trim r, BtV y := fun y hy => hBF y (hRsub y (trim_sub hy))
    have hvn := nodesL_trim r
    have hvl := nodesL_len (trim r)
    obtain ⟨ex, hI⟩ := imp76 (lo := lo) (h := h) (n := nameOf v.t.b) (v := trim r) hlo hvb (by omega) (ltrim_trim r)
    have c55 := fun X => f55 _ (impOf (trim r)).1 (nodesL_imp (trim r)) (by omega) lo (h ++ [ob77, .cells X]) (hlh X)
    simp only [lft, rgt, b76, Tryz.f76, bodyOf, Option.getD_some, ob77, D76] at hI
    simp only [ob77] at c55
    simp only [dcR, declC]
    generalize rowsC (impOf (trim r)).1 = W at *
    generalize rowsC (trim r) = W0 at *
    simp only [go_sem, b76, Tryz.f76, hlo, l1, t3, t30, hgr, ↓hN, hw, hL, q1, hcr, hc16, hwa, c64, c67, Bool.not_false, ↓hI, c55]
    all_goals rfl
end Go.Lift.P8
end

section
namespace Go.Lift.Rul
end Go.Lift.Rul
namespace Go.Lift.Utf
end Go.Lift.Utf
namespace Go.Proofs
end Go.Proofs
open Go.Proofs
namespace Go.Lift.P8
open Rul
open Utf (By)
variable [MX]
set_option maxRecDepth 20000
set_option maxHeartbeats 4000000
variable {lo : Nat} {h : Heap}
abbrev N50 (l : List CV) (out : List Dc) (i : Nat) : Env := [(0, .list .no (rowsC l)), (3, .list .yes (out.map declC)), (4, .v (.int .i64 i))]
theorem lim48b {n : Nat} (h : n ≤ 1000000000) : (n + 1) * 48 ≤ 140737488355328 := by omega
theorem slice_take {α : Type} (l : List α) (i : Nat) (f : α → Bool) : (l.take (i + ((l.drop i).takeWhile f).length)).drop i = (l.drop i).takeWhile f := by
 rw [List.drop_take, Nat.add_sub_cancel_left]
 exact (List.prefix_iff_eq_take.1 (List.takeWhile_prefix f)).symm
theorem drop_while {α : Type} (l : List α) (i : Nat) (f : α → Bool) : l.drop (i + ((l.drop i).takeWhile f).length) = (l.drop i).dropWhile f := by
 rw [← List.drop_drop]
 have h : (l.drop i).takeWhile f ++ (l.drop i).dropWhile f = l.drop i := List.takeWhile_append_dropWhile
 generalize l.drop i = m at *
 conv => lhs; rw [← h]
 rw [List.drop_left']
 rw [h]
theorem round50 {l : List CV} {out : List Dc} {i : Nat} {v : CV} {r : List CV} {X : Heap} (hlo : lo ≤ h.length) (hl : nodesL l ≤ 1000000000) (ho : out.length ≤ 1000000000) (hd : l.drop i = v :: r) (hB : ∀ y ∈ l, BtV y) :
  ∃ X', evCode ⟨Tryz.prog, E, lo, h.length, h50⟩ loopW l50x0 (N50 l out i, h ++ X) = some (.normal,
   (
    if (v.k == 13 || v.k == 17) = true then N50 l out (i + 1)
    else if (v.k == 3) = true then N50 l out (i + ((v :: r).takeWhile (nor 17 23)).length + 1)
    else N50 l (out ++ (decl ((v :: r).takeWhile (nor 17 17))).toList) (i + ((v :: r).takeWhile (nor 17 17)).length)), h ++ X') := by
 have hll := nodesL_len l
 have hlt : i < l.length := by
  rcases Nat.lt_or_ge i l.length with hi | hi
  ·exact hi
  ·rw [List.drop_eq_nil_of_le hi] at hd; cases hd
 have hg : l[i]? = some v := by
  have := List.getElem?_drop (xs := l) (i := i) (j := 0)
  rw [hd] at this
  simpa using this.symm
 have hgr : (rowsC l)[i]? = some (rowV v) := by rw [rowsC_get, hg]; rfl
 have q : decide ((i : Int) < (l.length : Int)) = true := by simpa using hlt
 have hw : IntKind.i64.wrap ((i : Int) + 1) = ((i + 1 : Nat) : Int) := wrap_succ (by omega)
 have rl := rowsC_len l
 have htw : ∀ f, ((l.drop i).takeWhile f).length ≤ l.length := fun f => by
  have := (List.takeWhile_prefix f (l := l.drop i)).length_le
  rw [List.length_drop] at this
  omega
 have c68 := fun a b => f68 (lo := lo) (h := h) (l := l) (i := i) (a := a) (b := b) hlo (by omega) (by omega)
 by_cases h1 : (v.k == 13) = true
 ·rw [if_pos (by rw [h1]; rfl)]
  refine ⟨[], ?_⟩
  obtain ⟨t, ks⟩ := v
  have h1 : (t.k == 13) = true := h1
  rw [rowV_eq] at hgr
  simp only [N50]
  generalize rowsC l = R at *
  simp only [N50, go_sem, l50x0, b50, Tryz.f50, hlo, q, hgr, hw, rl, h1, List.append_nil]
  all_goals rfl
 have h1 : (v.k == 13) = false := by simpa using h1
 by_cases h2 : (v.k == 17) = true
 ·rw [if_pos (by rw [h2]; simp)]
  refine ⟨[], ?_⟩
  obtain ⟨t, ks⟩ := v
  have h1 : (t.k == 13) = false := h1
  have h2 : (t.k == 17) = true := h2
  rw [rowV_eq] at hgr
  simp only [N50]
  generalize rowsC l = R at *
  simp only [N50, go_sem, l50x0, b50, Tryz.f50, hlo, q, hgr, hw, rl, h1, h2, List.append_nil]
  all_goals rfl
 have h2 : (v.k == 17) = false := by simpa using h2
 rw [if_neg (by rw [h1, h2]; simp)]
 by_cases h3 : (v.k == 3) = true
 ·rw [if_pos h3]
  refine ⟨[], ?_⟩
  have c := c68 17 23
  have hx := htw (nor 17 23)
  rw [hd] at c hx
  have hw2 : IntKind.i64.wrap (((i + ((v :: r).takeWhile (nor 17 23)).length : Nat) : Int) + 1) = ((i + ((v :: r).takeWhile (nor 17 23)).length + 1 : Nat) : Int) := wrap_succ (by omega)
  generalize ((v :: r).takeWhile (nor 17 23)).length = n at *
  obtain ⟨t, ks⟩ := v
  have h1 : (t.k == 13) = false := h1
  have h2 : (t.k == 17) = false := h2
  have h3 : (t.k == 3) = true := h3
  rw [rowV_eq] at hgr
  simp only [N50]
  generalize rowsC l = R at *
  simp only [N50, go_sem, l50x0, b50, Tryz.f50, hlo, q, hgr, hw2, rl, h1, h2, h3, c, List.append_nil]
  all_goals rfl
 have h3 : (v.k == 3) = false := by simpa using h3
 rw [if_neg (by rw [h3]; simp)]
 have c := c68 17 17
 have hx := htw (nor 17 17)
 have hsl := slice_take l i (nor 17 17)
 rw [hd] at c hx hsl
 have hnv : nor 17 17 v = true := by unfold nor; simp [bne, h2]
 have etw : (v :: r).takeWhile (nor 17 17) = v :: r.takeWhile (nor 17 17) := by rw [List.takeWhile_cons, if_pos hnv]
 have hsub : ∀ y ∈ (v :: r).takeWhile (nor 17 17), y ∈ l := fun y hy => by
  have := (List.takeWhile_prefix _).subset hy
  rw [← hd] at this
  exact List.mem_of_mem_drop this
 have hnn : nodesL ((v :: r).takeWhile (nor 17 17)) ≤ nodesL l := by
  refine Nat.le_trans (nodesL_prefix (List.takeWhile_prefix _)) ?_
  rw [← hd]
  exact nodesL_suffix (List.drop_suffix _ _)
 have c77 := f77 (lo := lo) (h := h) (x := v) (m := r.takeWhile (nor 17 17)) hlo (fun y hy => hB y (hsub y (by rw [etw]; exact hy))) (by rw [← etw]; omega)
 rw [← etw] at c77
 have hle1 : i ≤ i + ((v :: r).takeWhile (nor 17 17)).length := by omega
 have hle2 : i + ((v :: r).takeWhile (nor 17 17)).length ≤ l.length := by
  have := (List.takeWhile_prefix (nor 17 17) (l := l.drop i)).length_le
  rw [List.length_drop, hd] at this
  omega
 have hrs : ((rowsC l).take (i + ((v :: r).takeWhile (nor 17 17)).length)).drop i = rowsC ((v :: r).takeWhile (nor 17 17)) := by rw [rowsC_take, rowsC_drop, hsl]
 have ra := rowsC_all l
 have l1 : lo ≤ h.length + 1 := by omega
 generalize (v :: r).takeWhile (nor 17 17) = m at *
 obtain ⟨t, ks⟩ := v
 have h1 : (t.k == 13) = false := h1
 have h2 : (t.k == 17) = false := h2
 have h3 : (t.k == 3) = false := h3
 rw [rowV_eq] at hgr
 simp only [N50]
 generalize rowsC l = R at *
 generalize i + m.length = j at *
 cases hdc : decl m with
 | none =>
  rw [hdc] at c77
  simp only [dcR, declC, zd, rowsC_nil] at c77
  refine ⟨[.cells [.v (.string (Rul.bs [])), .list .no [], .v (.bool false)]], ?_⟩
  rw [Option.toList_none, List.append_nil]
  simp only [N50, go_sem, l50x0, b50, Tryz.f50, hlo, l1, q, hgr, rl, h1, h2, h3, c, hle1, hle2, hrs, ra, c77]
  all_goals rfl
 | some dd =>
  rw [hdc] at c77
  simp only [dcR, declC] at c77
  have eo : out.map declC ++ [[.v (.string (Rul.bs dd.name)), .list .no (rowsC dd.val), .v (.bool dd.imp)]] = (out ++ [dd]).map declC := by rw [List.map_append]; rfl
  have o1 := lim48b ho
  have o2 := limC ho
  have rao := declC_all out
  have rbo := byteRow_decl out
  refine ⟨[.cells [.v (.string (Rul.bs dd.name)), .list .no (rowsC dd.val), .v (.bool dd.imp)]], ?_⟩
  rw [Option.toList_some, ← eo]
  have rlo : (out.map declC).length = out.length := List.length_map _
  generalize out.map declC = O at *
  simp only [N50, go_sem, l50x0, b50, Tryz.f50, hlo, l1, q, hgr, rl, h1, h2, h3, c, hle1, hle2, hrs, ra, c77, o1, o2, rao, rbo, rlo]
  all_goals rfl
theorem stop50 {l : List CV} {out : List Dc} {i : Nat} {X : Heap} (hlo : lo ≤ h.length) (hi : l.length ≤ i) :
  evCode ⟨Tryz.prog, E, lo, h.length, h50⟩ loopW l50x0 (N50 l out i, h ++ X) = some (.exit 0, N50 l out i ++ [(11, .v (.bool false))], h) := by
 have q : decide ((i : Int) < (l.length : Int)) = false := by rw [decide_eq_false_iff_not]; omega
 have rl := rowsC_len l
 simp only [N50]
 generalize rowsC l = R at *
 simp only [N50, go_sem, l50x0, b50, Tryz.f50, hlo, q, rl]
 all_goals rfl
theorem declsN_len : ∀ (n : Nat) (l : List CV), (declsN n l).length ≤ l.length
 | 0, l => by rw [declsN]; exact Nat.zero_le _
 | n + 1, [] => Nat.le_refl _
 | n + 1, v :: r => by
  rw [declsN]
  split
  ·have := declsN_len n r; rw [List.length_cons]; omega
  ·rename_i h1
   split
   ·have := declsN_len n ((v :: r).dropWhile (nor 17 23)).tail
    have h2 := (List.dropWhile_suffix (p := nor 17 23) (l := v :: r)).length_le
    rw [List.length_tail] at this
    omega
   ·have hnv : nor 17 17 v = true := by
     simp only [Bool.or_eq_true, beq_iff_eq, not_or] at h1
     simp [nor, h1.2]
    have := declsN_len n ((v :: r).dropWhile (nor 17 17))
    have h3 : ((v :: r).dropWhile (nor 17 17)).length ≤ r.length := by
     rw [List.dropWhile_cons, if_pos hnv]
     exact (List.dropWhile_suffix _).length_le
    rw [List.length_append, List.length_cons]
    have h4 : (decl ((v :: r).takeWhile (nor 17 17))).toList.length ≤ 1 := by cases decl ((v :: r).takeWhile (nor 17 17)) <;> simp
    omega
theorem loop50 {l : List CV} (hlo : lo ≤ h.length) (hl : nodesL l ≤ 1000000000) (hB : ∀ y ∈ l, BtV y) : ∀ (n i : Nat) (out : List Dc) (X : Heap), (l.drop i).length < n → out.length + (l.drop i).length ≤ 1000000000 →
  ∃ i', loopW (evCode ⟨Tryz.prog, E, lo, h.length, h50⟩ loopW l50x0) (N50 l out i, h ++ X) = some (.exit 0, N50 l (out ++ declsN n (l.drop i)) i' ++ [(11, .v (.bool false))], h)
 | 0, i, out, X, hn, _ => by omega
 | n + 1, i, out, X, hn, ho => by
  cases hd : l.drop i with
  | nil =>
   have hi : l.length ≤ i := by
    have := congrArg List.length hd
    rw [List.length_drop, List.length_nil] at this
    omega
   refine ⟨i, ?_⟩
   rw [loop_eq, stop50 hlo hi, loop_e, declsN, List.append_nil]
  | cons v r =>
   rw [hd] at hn ho
   simp only [List.length_cons] at hn ho
   obtain ⟨X', hr⟩ := round50 (X := X) (out := out) hlo hl (by omega) hd hB
   have hd1 : l.drop (i + 1) = r := by rw [← List.drop_drop, hd]; rfl
   rw [loop_eq, hr, loop_n, declsN]
   by_cases h1 : (v.k == 13 || v.k == 17) = true
   ·rw [if_pos h1, if_pos h1]
    have := loop50 hlo hl hB n (i + 1) out X' (by rw [hd1]; omega) (by rw [hd1]; omega)
    rw [hd1] at this
    exact this
   ·rw [if_neg h1, if_neg h1]
    by_cases h3 : (v.k == 3) = true
    ·rw [if_pos h3, if_pos h3]
     have e1 := drop_while l i (nor 17 23)
     rw [hd] at e1
     have e2 : l.drop (i + ((v :: r).takeWhile (nor 17 23)).length + 1) = ((v :: r).dropWhile (nor 17 23)).tail := by
      rw [← List.drop_drop, e1, List.drop_one]
     have hlen := (List.dropWhile_suffix (p := nor 17 23) (l := v :: r)).length_le
     simp only [List.length_cons] at hlen
     have := loop50 hlo hl hB n (i + ((v :: r).takeWhile (nor 17 23)).length + 1) out X' (by rw [e2, List.length_tail]; omega) (by rw [e2, List.length_tail]; omega)
     rw [e2] at this
     exact this
    ·rw [if_neg h3, if_neg h3]
     have e1 := drop_while l i (nor 17 17)
     rw [hd] at e1
     have hnv : nor 17 17 v = true := by
      simp only [Bool.or_eq_true, beq_iff_eq, not_or] at h1
      simp [nor, h1.2]
     have hlen : ((v :: r).dropWhile (nor 17 17)).length ≤ r.length := by
      rw [List.dropWhile_cons, if_pos hnv]
      exact (List.dropWhile_suffix _).length_le
     have h4 : (decl ((v :: r).takeWhile (nor 17 17))).toList.length ≤ 1 := by cases decl ((v :: r).takeWhile (nor 17 17)) <;> simp
     have := loop50 hlo hl hB n (i + ((v :: r).takeWhile (nor 17 17)).length) (out ++ (decl ((v :: r).takeWhile (nor 17 17))).toList) X' (by rw [e1]; omega) (by rw [e1, List.length_append]; omega)
     rw [e1, List.append_assoc] at this
     exact this
theorem f50 {l : List CV} (hlo : lo ≤ h.length) (hl : nodesL l ≤ 1000000000) (hB : ∀ y ∈ l, BtV y) : E lo 50 [.list .no (rowsC l)] h = some (.list .no ((decls l).map declC), h) := by
 have hll := nodesL_len l
 obtain ⟨i', hL⟩ := loop50 (lo := lo) (h := h) hlo hl hB (l.length + 1) 0 [] [] (by rw [List.drop_zero]; omega) (by rw [List.drop_zero, List.length_nil]; omega)
 rw [List.drop_zero, List.nil_append] at hL
 have ed : declsN (l.length + 1) l = decls l := rfl
 rw [ed] at hL
 have n0 : ((0 : Nat) : Int) = 0 := rfl
 rw [e50 (by simp) (by rfl)]
 simp only [l50x0, b50, Tryz.f50, loopAt, loops, bodyOf, go_sem, N50, n0, List.map_nil, List.append_nil, List.cons_append, List.nil_append] at hL
 simp only [go_sem, b50, Tryz.f50, hlo, hL, n0]
 all_goals rfl
end Go.Lift.P8
end

section
namespace Go.Lift.Rul
mutual
def allV (P : Tk4 → Prop) : CV → Prop
 | .mk t ks => P t ∧ allL P ks
def allL (P : Tk4 → Prop) : List CV → Prop
 | [] => True
 | v :: r => allV P v ∧ allL P r
end
theorem allV_eq {P : Tk4 → Prop} {v : CV} : allV P v ↔ P v.t ∧ allL P v.ks := by
 cases v; rw [allV]; rfl
theorem allL_iff {P : Tk4 → Prop} : ∀ {l : List CV}, allL P l ↔ ∀ v ∈ l, P v.t ∧ allL P v.ks
 | [] => by rw [allL]; simp
 | v :: r => by
  rw [allL, allV_eq, allL_iff (l := r)]
  simp
theorem allL_sub {P : Tk4 → Prop} {l m : List CV} (h : allL P l) (hs : ∀ v ∈ m, v ∈ l) : allL P m := allL_iff.2 fun v hv => allL_iff.1 h v (hs v hv)
mutual
theorem allV_toks {P : Tk4 → Prop} : ∀ v : PV, (∀ t ∈ toksV v, P t) → allV P (cvV v)
 | .leaf t, h => by rw [cvV, allV, allL]; exact ⟨h t (by rw [toksV]; simp), trivial⟩
 | .node t ks c, h => by
  rw [toksV] at h
  rw [cvV, allV]
  exact ⟨h t (by simp), allL_toks ks fun u hu => h u (by simp [hu])⟩
theorem allL_toks {P : Tk4 → Prop} : ∀ F : List PV, (∀ t ∈ toksL F, P t) → allL P (cvL F)
 | [], _ => by rw [cvL, allL]; trivial
 | v :: r, h => by
  rw [toksL] at h
  rw [cvL, allL]
  exact ⟨allV_toks v fun t ht => h t (by simp [ht]), allL_toks r fun t ht => h t (by simp [ht])⟩
end
mutual
theorem nodesV_toks : ∀ v : PV, nodesV (cvV v) ≤ (toksV v).length
 | .leaf t => by rw [cvV, nodesV, nodesL_nil, toksV]; simp
 | .node t ks c => by
  have := nodesL_toks ks
  rw [cvV, nodesV, toksV]
  simp only [List.length_cons, List.length_append]
  omega
theorem nodesL_toks : ∀ F : List PV, nodesL (cvL F) ≤ (toksL F).length
 | [] => by rw [cvL, nodesL_nil]; exact Nat.zero_le _
 | v :: r => by
  have := nodesL_toks r
  have := nodesV_toks v
  rw [cvL, nodesL_cons, toksL, List.length_append]
  omega
end
theorem allL_vals {P : Tk4 → Prop} {l : List Tk4} (h : ∀ t ∈ l, P t) : allL P (vals l) := by
 obtain ⟨F, rfl, hg⟩ := tree_of l
 rw [vals_toks hg]
 exact allL_toks F h
theorem nodes_vals (l : List Tk4) : nodesL (vals l) ≤ l.length := by
 obtain ⟨F, rfl, hg⟩ := tree_of l
 rw [vals_toks hg]
 exact nodesL_toks F
end Go.Lift.Rul
end

section
namespace Go.Lift.Rul
def stepR (sub : List CV → List Ru) (live top : Bool) (v : CV) (r : List CV) : List Ru × List CV :=
 if (v.k == 13 || (top && (v.k == 14 || v.k == 15))) = true then ([], r)
 else if (v.k == 3) = true then
  match (v :: r).dropWhile (nor 17 23) with
  | [] => ([], [])
  | x :: s => (if (x.k == 23 && isGroup (small v.t.b) && !deepL 64 (((v :: r).takeWhile (nor 17 23)).tail) && live) = true then [Ru.mk 2 (small v.t.b) (trim ((v :: r).takeWhile (nor 17 23)).tail) [] (sub x.ks)] else [], s)
 else
  match (v :: r).dropWhile (nor 23 23) with
  | [] => ([], [])
  | x :: s => (if (!deepL 64 ((v :: r).takeWhile (nor 23 23)) && live) = true then [Ru.mk 1 [] (trim ((v :: r).takeWhile (nor 23 23))) (decls x.ks) []] else [], s)
theorem rulesN_nil (sub : List CV → List Ru) (live top : Bool) (n : Nat) : rulesN sub live top n [] = [] := by cases n <;> rw [rulesN]
theorem rulesN_step (sub : List CV → List Ru) (live top : Bool) (n : Nat) (v : CV) (r : List CV) : rulesN sub live top (n + 1) (v :: r) = (stepR sub live top v r).1 ++ rulesN sub live top n (stepR sub live top v r).2 := by
 rw [rulesN]
 unfold stepR
 by_cases a : (v.k == 13 || (top && (v.k == 14 || v.k == 15))) = true
 ·rw [if_pos a, if_pos a]; rfl
 ·rw [if_neg a, if_neg a]
  by_cases b : (v.k == 3) = true
  ·rw [if_pos b, if_pos b]
   cases hx : (v :: r).dropWhile (nor 17 23) with
   | nil => simp only [rulesN_nil, List.append_nil]
   | cons x s => rfl
  ·rw [if_neg b, if_neg b]
   cases hx : (v :: r).dropWhile (nor 23 23) with
   | nil => simp only [rulesN_nil, List.append_nil]
   | cons x s => rfl
theorem nodesL_suf {l m : List CV} (h : m <:+ l) : nodesL m ≤ nodesL l := by
 obtain ⟨p, rfl⟩ := h
 rw [nodesL_app]; omega
theorem stepR_suf (sub : List CV → List Ru) (live top : Bool) (v : CV) (r : List CV) : (stepR sub live top v r).2 <:+ r ∧ (stepR sub live top v r).1.length ≤ 1 := by
 have key : ∀ (f : CV → Bool) (x : CV) (s : List CV), (v :: r).dropWhile f = x :: s → s <:+ r := fun f x s e => by
  rw [List.dropWhile_cons] at e
  split at e
  ·have h1 := List.dropWhile_suffix (p := f) (l := r)
   rw [e] at h1
   exact (List.suffix_cons x s).trans h1
  ·cases e; exact List.suffix_refl _
 unfold stepR
 split
 ·exact ⟨List.suffix_refl _, Nat.zero_le _⟩
 ·split
  ·split
   ·exact ⟨List.nil_suffix, Nat.zero_le _⟩
   ·rename_i x s e
    refine ⟨key _ x s e, ?_⟩
    split <;> simp
  ·split
   ·exact ⟨List.nil_suffix, Nat.zero_le _⟩
   ·rename_i x s e
    refine ⟨key _ x s e, ?_⟩
    split <;> simp
theorem stepR_len (sub : List CV → List Ru) (live top : Bool) (v : CV) (r : List CV) : (stepR sub live top v r).2.length ≤ r.length ∧ (stepR sub live top v r).1.length ≤ 1 :=
 ⟨(stepR_suf sub live top v r).1.length_le, (stepR_suf sub live top v r).2⟩
theorem stepR_dead (sub sub' : List CV → List Ru) (top : Bool) (v : CV) (r : List CV) : stepR sub false top v r = stepR sub' false top v r := by
 unfold stepR
 simp only [Bool.and_false, Bool.false_eq_true, if_false]
def restC (n : Nat) (l : List CV) : List Ru := rulesF (65 - n) (n == 1) l
theorem restC_nil (n : Nat) : restC n [] = [] := by
 unfold restC
 cases 65 - n <;> rw [rulesF, rulesN_nil]
theorem restC_step {n : Nat} (h1 : 1 ≤ n) (hn : n ≤ 65) (v : CV) (r : List CV) : restC n (v :: r) = (stepR (restC (n + 1)) (decide (n ≤ 64)) (n == 1) v r).1 ++ restC n (stepR (restC (n + 1)) (decide (n ≤ 64)) (n == 1) v r).2 := by
 have hl := (stepR_suf (restC (n + 1)) (decide (n ≤ 64)) (n == 1) v r).1.length_le
 by_cases h : n ≤ 64
 ·have e1 : 65 - n = (64 - n) + 1 := by omega
  have e2 : restC (n + 1) = rulesF (64 - n) false := by
   funext l
   unfold restC
   rw [show 65 - (n + 1) = 64 - n by omega, show (n + 1 == 1) = false by simp; omega]
  have ed : decide (n ≤ 64) = true := by simpa using h
  rw [ed, e2] at hl ⊢
  have er : ∀ l, restC n l = rulesN (rulesF (64 - n) false) true (n == 1) (l.length + 1) l := fun l => by
   unfold restC; rw [e1, rulesF]
  rw [er, er, List.length_cons, rulesN_step]
  congr 1
  exact rulesN_more _ _ _ _ _ _ (by omega) (by omega)
 ·obtain rfl : n = 65 := by omega
  have ed : decide (65 ≤ 64) = false := rfl
  have e65 : ((65 : Nat) == 1) = false := rfl
  have hl2 := (stepR_suf (fun _ => []) false false v r).1.length_le
  rw [ed, e65, stepR_dead (restC (65 + 1)) (fun _ => [])]
  have er : ∀ l, restC 65 l = rulesN (fun _ => []) false false (l.length + 1) l := fun l => by
   unfold restC; rw [show 65 - 65 = 0 from rfl, rulesF]; rfl
  rw [er, er, List.length_cons, rulesN_step]
  congr 1
  exact rulesN_more _ _ _ _ _ _ (by omega) (by omega)
structure Fr where
 a : Nat
 q : Nat
 G : List PV
 out : List Ru
 nm : List Int
 pr : List CV
 hd : List V
def up : List Ru → Fr → List Fr → List Ru
 | V, _, [] => V
 | V, f, g :: r => up (g.out ++ [Ru.mk 2 f.nm f.pr [] V] ++ restC (r.length + 1) (cvL g.G)) g r
def fin : List Fr → List Ru
 | [] => []
 | f :: r => up (f.out ++ restC (r.length + 1) (cvL f.G)) f r
theorem up_head {f f' : Fr} (h1 : f'.nm = f.nm) (h2 : f'.pr = f.pr) (V : List Ru) : ∀ r, up V f' r = up V f r
 | [] => rfl
 | g :: r => by rw [up, up, h1, h2]
def cellsF (f : Fr) : List V := .v (.int .i64 f.a) :: .v (.int .i64 f.q) :: .list .yes (rusC f.out) :: f.hd
def lvC : List Fr → List V
 | [] => []
 | f :: r => lvC r ++ cellsF f
def muF : List Fr → Nat
 | [] => 0
 | f :: r => 2 * nodesL (cvL f.G) + 1 + muF r
def hdF (f : Fr) : List V := [.v (.int .i64 2), .v (.string (bs f.nm)), .list .no (rowsC f.pr), .list .yes [], .list .yes []]
def hd0 : List V := [.v (.int .i64 0), .v (.string ByteArray.empty), .list .yes [], .list .yes [], .list .yes []]
end Go.Lift.Rul
end

section
namespace Go.Lift.Rul
end Go.Lift.Rul
namespace Go.Lift.Utf
end Go.Lift.Utf
namespace Go.Proofs
end Go.Proofs
open Go.Proofs
namespace Go.Lift.P8
open Rul
open Utf (By)
variable [MX]
set_option maxRecDepth 20000
set_option maxHeartbeats 4000000
variable {lo : Nat} {h : Heap}
theorem lim96 {n : Nat} (h : n ≤ 1000000000) : (n + 1) * 96 ≤ 140737488355328 := by omega
abbrev N44 (l : List CV) (top : Bool) (d : Nat) (out : List Ru) (i : Nat) : Env := [(0, .list .no (rowsC l)), (1, .v (.bool top)), (2, .v (.int .i64 d)), (7, .list .yes (rusC out)), (8, .v (.int .i64 i))]
theorem rusC_nil : rusC [] = [] := by rw [rusC]
theorem rusC_put (out : List Ru) (r : Ru) : rusC out ++ [ruV r] = rusC (out ++ [r]) := by rw [rusC_app, rusC, rusC_nil]
theorem get_drop {α : Type} {l : List α} {i : Nat} {v : α} {r : List α} (hd : l.drop i = v :: r) : l[i]? = some v := by
 have := List.getElem?_drop (xs := l) (i := i) (j := 0)
 rw [hd] at this
 simpa using this.symm
theorem round44 {l : List CV} {top : Bool} {d : Nat} {out : List Ru} {i : Nat} {v : CV} {r : List CV} {sub : List CV → List Ru} (hlo : lo ≤ h.length) (hl : nodesL l ≤ 1000000000) (ho : out.length ≤ 1000000000) (hd : l.drop i = v :: r) (hB : allL BtT l) (hdd : d ≤ 1000)
  (hsub : d ≤ 64 → ∀ ks, allL BtT ks → nodesL ks ≤ 1000000000 → ∀ lo h, lo ≤ h.length → E lo 44 [.list .no (rowsC ks), .v (.bool false), .v (.int .i64 (d + 1 : Nat))] h = some (.list .no (rusC (sub ks)), h)) :
  ∃ i', evCode ⟨Tryz.prog, E, lo, h.length, h44⟩ loopW l44x0 (N44 l top d out i, h) = some (.normal, N44 l top d (out ++ (stepR sub (decide (d ≤ 64)) top v r).1) i', h) ∧ l.drop i' = (stepR sub (decide (d ≤ 64)) top v r).2 := by
 have hll := nodesL_len l
 have hg := get_drop hd
 have hlt : i < l.length := (List.getElem?_eq_some_iff.1 hg).1
 have hgr : (rowsC l)[i]? = some (rowV v) := by rw [rowsC_get, hg]; rfl
 have q : decide ((i : Int) < (l.length : Int)) = true := by simpa using hlt
 have hw : IntKind.i64.wrap ((i : Int) + 1) = ((i + 1 : Nat) : Int) := wrap_succ (by omega)
 have hd1 : l.drop (i + 1) = r := by rw [← List.drop_drop, hd]; rfl
 have rl := rowsC_len l
 have ra := rowsC_all l
 have qd : decide ((d : Int) ≤ 64) = decide (d ≤ 64) := by rw [decide_eq_decide]; omega
 have hwd : IntKind.i64.wrap ((d : Int) + 1) = ((d + 1 : Nat) : Int) := wrap_succ (by omega)
 have c68 := fun a b => f68 (lo := lo) (h := h) (l := l) (i := i) (a := a) (b := b) hlo (by omega) (by omega)
 have hvm : v ∈ l := List.mem_of_getElem? hg
 have hBv := (allL_iff.1 hB v hvm).1
 have hmem : ∀ y ∈ v :: r, y ∈ l := fun y hy => by rw [← hd] at hy; exact List.mem_of_mem_drop hy
 have hsuf : (v :: r) <:+ l := by rw [← hd]; exact List.drop_suffix _ _
 have o1 := lim96 ho
 have o2 := limC ho
 have rao := rusC_all out
 have rbo := byteRow_rus out
 have rlo := rusC_len out
 by_cases h1 : (v.k == 13 || (top && (v.k == 14 || v.k == 15))) = true
 ·refine ⟨i + 1, ?_, ?_⟩
  ·unfold stepR
   rw [if_pos h1, List.append_nil]
   obtain ⟨t, ks⟩ := v
   have g1 : (t.k == 13 || (top && (t.k == 14 || t.k == 15))) = true := h1
   rw [rowV_eq] at hgr
   simp only [N44]
   generalize rowsC l = R at *
   cases k13 : (t.k == 13) with
   | true =>
    simp only [go_sem, l44x0, b44, Tryz.f44, hlo, q, hgr, hw, rl, k13]
    all_goals rfl
   | false =>
    rw [k13, Bool.false_or, Bool.and_eq_true] at g1
    obtain ⟨ht, g1⟩ := g1
    subst ht
    cases k14 : (t.k == 14) with
    | true =>
     simp only [go_sem, l44x0, b44, Tryz.f44, hlo, q, hgr, hw, rl, k13, k14]
     all_goals rfl
    | false =>
     rw [k14, Bool.false_or] at g1
     simp only [go_sem, l44x0, b44, Tryz.f44, hlo, q, hgr, hw, rl, k13, k14, g1]
     all_goals rfl
  ·unfold stepR
   rw [if_pos h1]
   exact hd1
 have k1 : (v.k == 13 || (top && (v.k == 14 || v.k == 15))) = false := by simpa using h1
 have k13 : (v.k == 13) = false := by cases hh : (v.k == 13) with | false => rfl | true => rw [hh] at k1; cases k1
 rw [k13, Bool.false_or] at k1
 by_cases h3 : (v.k == 3) = true
 ·have hk3 : v.k = 3 := by simpa using h3
  have hnv : nor 17 23 v = true := by unfold nor; rw [hk3]; rfl
  have c := c68 17 23
  have hdr := drop_while l i (nor 17 23)
  have hsl := slice_take l i (nor 17 23)
  rw [hd] at c hdr hsl
  have etw : (v :: r).takeWhile (nor 17 23) = v :: r.takeWhile (nor 17 23) := by rw [List.takeWhile_cons, if_pos hnv]
  have hn1 : 1 ≤ ((v :: r).takeWhile (nor 17 23)).length := by rw [etw]; simp
  have hle2 : i + ((v :: r).takeWhile (nor 17 23)).length ≤ l.length := by
   have := (List.takeWhile_prefix (nor 17 23) (l := v :: r)).length_le
   have h5 := congrArg List.length hd
   rw [List.length_drop] at h5
   omega
  have hrs : ((rowsC l).take (i + ((v :: r).takeWhile (nor 17 23)).length)).drop (i + 1) = rowsC ((v :: r).takeWhile (nor 17 23)).tail := by
   rw [rowsC_take, rowsC_drop, ← List.drop_drop, hsl, List.drop_one]
  have hpm : ∀ y ∈ ((v :: r).takeWhile (nor 17 23)).tail, y ∈ v :: r := fun y hy => take_sub (List.mem_of_mem_tail hy)
  have hpn : nodesL ((v :: r).takeWhile (nor 17 23)).tail ≤ nodesL l := by
   refine Nat.le_trans (nodesL_suffix (List.tail_suffix _)) (Nat.le_trans (nodesL_prefix (List.takeWhile_prefix _)) (nodesL_suffix hsuf))
  have hpl := nodesL_len ((v :: r).takeWhile (nor 17 23)).tail
  have c70 := f70 (lo := lo) (h := h) (l := ((v :: r).takeWhile (nor 17 23)).tail) hlo (by omega)
  have c35 := fun lo hlo => f35 (lo := lo) (h := h) (l := ((v :: r).takeWhile (nor 17 23)).tail) hlo (by omega)
  have c35a := c35 lo hlo; have c35b := c35 h.length (Nat.le_refl _)
  clear c35
  have c69 := f69 (lo := lo) (h := h) (n := v.t.b) hlo (by have := hBv.2; omega) hBv.1
  have hle1 : i + 1 ≤ i + ((v :: r).takeWhile (nor 17 23)).length := by omega
  have hw2 : IntKind.i64.wrap (((i + ((v :: r).takeWhile (nor 17 23)).length : Nat) : Int) + 1) = ((i + ((v :: r).takeWhile (nor 17 23)).length + 1 : Nat) : Int) := wrap_succ (by omega)
  refine ⟨i + ((v :: r).takeWhile (nor 17 23)).length + 1, ?_, ?_⟩
  ·have es : (stepR sub (decide (d ≤ 64)) top v r).1 = match (v :: r).dropWhile (nor 17 23) with
     | [] => []
     | x :: s => if (x.k == 23 && isGroup (small v.t.b) && !deepL 64 (((v :: r).takeWhile (nor 17 23)).tail) && decide (d ≤ 64)) = true then [Ru.mk 2 (small v.t.b) (trim ((v :: r).takeWhile (nor 17 23)).tail) [] (sub x.ks)] else [] := by
    unfold stepR
    rw [if_neg h1, if_pos h3]
    cases (v :: r).dropWhile (nor 17 23) <;> rfl
   rw [es]
   generalize hj : i + ((v :: r).takeWhile (nor 17 23)).length = j at *
   generalize ((v :: r).takeWhile (nor 17 23)).tail = P at *
   cases hx : (v :: r).dropWhile (nor 17 23) with
   | nil =>
    rw [hx] at hdr
    have hjl : l.length ≤ j := by
     have := congrArg List.length hdr
     rw [List.length_drop, List.length_nil] at this
     omega
    have q2 : decide ((j : Int) < (l.length : Int)) = false := by rw [decide_eq_false_iff_not]; omega
    simp only [List.append_nil]
    obtain ⟨t, ks⟩ := v
    have k13 : (t.k == 13) = false := k13
    have k1 : (top && (t.k == 14 || t.k == 15)) = false := k1
    have h3 : (t.k == 3) = true := h3
    have c69 : E lo 69 [.v (.string (Rul.bs t.b))] h = some (.tup [.v (.string (Rul.bs (small t.b))), .v (.bool (isGroup (small t.b)))], h) := c69
    have hk3 : t.k = 3 := hk3
    have k14 : (t.k == 14) = false := by rw [hk3]; rfl
    have k15 : (t.k == 15) = false := by rw [hk3]; rfl
    rw [rowV_eq] at hgr
    simp only [N44]
    generalize rowsC l = R at *
    cases top with
    | true =>
     simp only [go_sem, l44x0, b44, Tryz.f44, hlo, q, q2, hgr, hw, hw2, rl, k13, k14, k15, h3, c, c69]
     all_goals rfl
    | false =>
     simp only [go_sem, l44x0, b44, Tryz.f44, hlo, q, q2, hgr, hw, hw2, rl, k13, k14, k15, h3, c, c69]
     all_goals rfl
   | cons x s =>
    rw [hx] at hdr
    have hjg := get_drop hdr
    have hjl : j < l.length := (List.getElem?_eq_some_iff.1 hjg).1
    have hxm : x ∈ l := List.mem_of_getElem? hjg
    have hxa := (allL_iff.1 hB x hxm).2
    have hxn : nodesL x.ks ≤ nodesL l := nodesL_get hjg
    have q2 : decide ((j : Int) < (l.length : Int)) = true := by rw [decide_eq_true_iff]; omega
    have hjr : (rowsC l)[j]? = some (rowV x) := by rw [rowsC_get, hjg]; rfl
    obtain ⟨t, ks⟩ := v
    obtain ⟨xt, xk⟩ := x
    have k13 : (t.k == 13) = false := k13
    have h3 : (t.k == 3) = true := h3
    have c69 : E lo 69 [.v (.string (Rul.bs t.b))] h = some (.tup [.v (.string (Rul.bs (small t.b))), .v (.bool (isGroup (small t.b)))], h) := c69
    have hk3 : t.k = 3 := hk3
    have k14 : (t.k == 14) = false := by rw [hk3]; rfl
    have k15 : (t.k == 15) = false := by rw [hk3]; rfl
    have hxa : allL BtT xk := hxa
    have hxn : nodesL xk ≤ nodesL l := hxn
    rw [rowV_eq] at hgr hjr
    show evCode _ _ _ _ = some (.normal, N44 l top d (out ++ (if (xt.k == 23 && isGroup (small t.b) && !deepL 64 P && decide (d ≤ 64)) = true then [Ru.mk 2 (small t.b) (trim P) [] (sub xk)] else [])) (j + 1), h)
    have e1 : ∀ b : Bool, top = b → (top && (t.k == 14 || t.k == 15)) = false := fun b _ => by rw [k14, k15]; simp
    simp only [N44]
    generalize rowsC l = R at *
    cases hk23 : (xt.k == 23) with
    | false =>
     simp only [Bool.false_and, Bool.false_eq_true, if_false, List.append_nil]
     cases top with
     | true =>
      simp only [go_sem, l44x0, b44, Tryz.f44, hlo, q, q2, hgr, hjr, hw, hw2, rl, k13, k14, k15, h3, c, c69, hk23]
      all_goals rfl
     | false =>
      simp only [go_sem, l44x0, b44, Tryz.f44, hlo, q, q2, hgr, hjr, hw, hw2, rl, k13, k14, k15, h3, c, c69, hk23]
      all_goals rfl
    | true =>
     cases hgp : isGroup (small t.b) with
     | false =>
      rw [hgp] at c69
      simp only [Bool.and_false, Bool.false_and, Bool.false_eq_true, if_false, List.append_nil]
      cases top with
      | true =>
       simp only [go_sem, l44x0, b44, Tryz.f44, hlo, q, q2, hgr, hjr, hw, hw2, rl, k13, k14, k15, h3, c, c69, hk23]
       all_goals rfl
      | false =>
       simp only [go_sem, l44x0, b44, Tryz.f44, hlo, q, q2, hgr, hjr, hw, hw2, rl, k13, k14, k15, h3, c, c69, hk23]
       all_goals rfl
     | true =>
      rw [hgp] at c69
      cases hdp : deepL 64 P with
      | true =>
       rw [hdp] at c70
       simp only [Bool.not_true, Bool.and_false, Bool.false_and, Bool.false_eq_true, if_false, List.append_nil]
       cases top with
       | true =>
        simp only [go_sem, l44x0, b44, Tryz.f44, hlo, q, q2, hgr, hjr, hw, hw2, rl, ra, k13, k14, k15, h3, c, c69, hk23, hle1, hle2, hrs, c70]
        all_goals rfl
       | false =>
        simp only [go_sem, l44x0, b44, Tryz.f44, hlo, q, q2, hgr, hjr, hw, hw2, rl, ra, k13, k14, k15, h3, c, c69, hk23, hle1, hle2, hrs, c70]
        all_goals rfl
      | false =>
       rw [hdp] at c70
       by_cases hlv : d ≤ 64
       ·have qlv : decide (d ≤ 64) = true := by simpa using hlv
        rw [qlv] at qd
        have c44 := fun lo hlo => hsub hlv xk hxa (by omega) lo h hlo
        have c44a := c44 lo hlo; have c44b := c44 h.length (Nat.le_refl _)
        clear c44 hsub
        rw [qlv, Bool.not_false, Bool.and_self, Bool.and_self, Bool.and_self, if_pos rfl, ← rusC_put, ruV, List.map_nil]
        generalize rusC out = O at *
        generalize rowsC (trim P) = W at *
        cases top with
        | true =>
         simp only [go_sem, l44x0, b44, Tryz.f44, hlo, q, q2, qd, hgr, hjr, hw, hw2, hwd, rl, ra, k13, k14, k15, h3, c, c69, hk23, hle1, hle2, hrs, c70, c35a, c35b, c44a, c44b, o1, o2, rao, rbo, rlo]
         all_goals rfl
        | false =>
         simp only [go_sem, l44x0, b44, Tryz.f44, hlo, q, q2, qd, hgr, hjr, hw, hw2, hwd, rl, ra, k13, k14, k15, h3, c, c69, hk23, hle1, hle2, hrs, c70, c35a, c35b, c44a, c44b, o1, o2, rao, rbo, rlo]
         all_goals rfl
       ·have qlv : decide (d ≤ 64) = false := by simpa using hlv
        rw [qlv] at qd
        rw [qlv, Bool.and_false, if_neg (by simp), List.append_nil]
        cases top with
        | true =>
         simp only [go_sem, l44x0, b44, Tryz.f44, hlo, q, q2, qd, hgr, hjr, hw, hw2, rl, ra, k13, k14, k15, h3, c, c69, hk23, hle1, hle2, hrs, c70]
         all_goals rfl
        | false =>
         simp only [go_sem, l44x0, b44, Tryz.f44, hlo, q, q2, qd, hgr, hjr, hw, hw2, rl, ra, k13, k14, k15, h3, c, c69, hk23, hle1, hle2, hrs, c70]
         all_goals rfl
  ·have es : (stepR sub (decide (d ≤ 64)) top v r).2 = ((v :: r).dropWhile (nor 17 23)).tail := by
    unfold stepR
    rw [if_neg h1, if_pos h3]
    cases (v :: r).dropWhile (nor 17 23) <;> rfl
   rw [es, ← List.drop_drop, hdr, List.drop_one]
 have k3 : (v.k == 3) = false := by simpa using h3
 have c := c68 23 23
 have hdr := drop_while l i (nor 23 23)
 have hsl := slice_take l i (nor 23 23)
 rw [hd] at c hdr hsl
 have hle2 : i + ((v :: r).takeWhile (nor 23 23)).length ≤ l.length := by
  have := (List.takeWhile_prefix (nor 23 23) (l := v :: r)).length_le
  have h5 := congrArg List.length hd
  rw [List.length_drop] at h5
  omega
 have hrs : ((rowsC l).take (i + ((v :: r).takeWhile (nor 23 23)).length)).drop i = rowsC ((v :: r).takeWhile (nor 23 23)) := by
  rw [rowsC_take, rowsC_drop, hsl]
 have hpn : nodesL ((v :: r).takeWhile (nor 23 23)) ≤ nodesL l := Nat.le_trans (nodesL_prefix (List.takeWhile_prefix _)) (nodesL_suffix hsuf)
 have hpl := nodesL_len ((v :: r).takeWhile (nor 23 23))
 have c70 := f70 (lo := lo) (h := h) (l := (v :: r).takeWhile (nor 23 23)) hlo (by omega)
 have c35 := fun lo hlo => f35 (lo := lo) (h := h) (l := (v :: r).takeWhile (nor 23 23)) hlo (by omega)
 have c35a := c35 lo hlo; have c35b := c35 h.length (Nat.le_refl _)
 clear c35
 have hle1 : i ≤ i + ((v :: r).takeWhile (nor 23 23)).length := by omega
 have hw2 : IntKind.i64.wrap (((i + ((v :: r).takeWhile (nor 23 23)).length : Nat) : Int) + 1) = ((i + ((v :: r).takeWhile (nor 23 23)).length + 1 : Nat) : Int) := wrap_succ (by omega)
 refine ⟨i + ((v :: r).takeWhile (nor 23 23)).length + 1, ?_, ?_⟩
 ·have es : (stepR sub (decide (d ≤ 64)) top v r).1 = match (v :: r).dropWhile (nor 23 23) with
    | [] => []
    | x :: s => if (!deepL 64 ((v :: r).takeWhile (nor 23 23)) && decide (d ≤ 64)) = true then [Ru.mk 1 [] (trim ((v :: r).takeWhile (nor 23 23))) (decls x.ks) []] else [] := by
   unfold stepR
   rw [if_neg h1, if_neg h3]
   cases (v :: r).dropWhile (nor 23 23) <;> rfl
  rw [es]
  generalize hj : i + ((v :: r).takeWhile (nor 23 23)).length = j at *
  generalize (v :: r).takeWhile (nor 23 23) = P at *
  obtain ⟨t, ks⟩ := v
  have k13 : (t.k == 13) = false := k13
  have k3 : (t.k == 3) = false := k3
  have k1 : (top && (t.k == 14 || t.k == 15)) = false := k1
  rw [rowV_eq] at hgr
  have ktop : (top = false) ∨ (top = true ∧ (t.k == 14) = false ∧ (t.k == 15) = false) := by
   cases top with
   | false => exact .inl rfl
   | true =>
    rw [Bool.true_and, Bool.or_eq_false_iff] at k1
    exact .inr ⟨rfl, k1.1, k1.2⟩
  cases hx : (CV.mk t ks :: r).dropWhile (nor 23 23) with
  | nil =>
   rw [hx] at hdr
   have hjl : l.length ≤ j := by
    have := congrArg List.length hdr
    rw [List.length_drop, List.length_nil] at this
    omega
   have q2 : decide ((j : Int) < (l.length : Int)) = false := by rw [decide_eq_false_iff_not]; omega
   simp only [List.append_nil, N44]
   generalize rowsC l = R at *
   rcases ktop with rfl | ⟨rfl, k14, k15⟩
   ·simp only [go_sem, l44x0, b44, Tryz.f44, hlo, q, q2, hgr, hw, hw2, rl, k13, k3, c]
    all_goals rfl
   ·simp only [go_sem, l44x0, b44, Tryz.f44, hlo, q, q2, hgr, hw, hw2, rl, k13, k14, k15, k3, c]
    all_goals rfl
  | cons x s =>
   rw [hx] at hdr
   have hjg := get_drop hdr
   have hjl : j < l.length := (List.getElem?_eq_some_iff.1 hjg).1
   have hxm : x ∈ l := List.mem_of_getElem? hjg
   have hxa := (allL_iff.1 hB x hxm).2
   have hxn : nodesL x.ks ≤ nodesL l := nodesL_get hjg
   have q2 : decide ((j : Int) < (l.length : Int)) = true := by rw [decide_eq_true_iff]; omega
   have hjr : (rowsC l)[j]? = some (rowV x) := by rw [rowsC_get, hjg]; rfl
   obtain ⟨xt, xk⟩ := x
   have hxa : allL BtT xk := hxa
   have hxn : nodesL xk ≤ nodesL l := hxn
   rw [rowV_eq] at hjr
   have c50 := fun lo hlo => f50 (lo := lo) (h := h) (l := xk) hlo (by omega) (fun y hy => (allL_iff.1 hxa y hy).1)
   have c50a := c50 lo hlo; have c50b := c50 h.length (Nat.le_refl _)
   clear c50
   show evCode _ _ _ _ = some (.normal, N44 l top d (out ++ (if (!deepL 64 P && decide (d ≤ 64)) = true then [Ru.mk 1 [] (trim P) (decls xk) []] else [])) (j + 1), h)
   simp only [N44]
   generalize rowsC l = R at *
   cases hdp : deepL 64 P with
   | true =>
    rw [hdp] at c70
    simp only [Bool.not_true, Bool.and_false, Bool.false_and, Bool.false_eq_true, if_false, List.append_nil]
    rcases ktop with rfl | ⟨rfl, k14, k15⟩
    ·simp only [go_sem, l44x0, b44, Tryz.f44, hlo, q, q2, hgr, hjr, hw, hw2, rl, ra, k13, k3, c, hle1, hle2, hrs, c70]
     all_goals rfl
    ·simp only [go_sem, l44x0, b44, Tryz.f44, hlo, q, q2, hgr, hjr, hw, hw2, rl, ra, k13, k14, k15, k3, c, hle1, hle2, hrs, c70]
     all_goals rfl
   | false =>
    rw [hdp] at c70
    by_cases hlv : d ≤ 64
    ·have qlv : decide (d ≤ 64) = true := by simpa using hlv
     rw [qlv] at qd
     have e0 : Rul.bs [] = ByteArray.empty := rfl
     rw [qlv, Bool.not_false, Bool.and_self, if_pos rfl, ← rusC_put, ruV, rusC_nil, e0]
     generalize rusC out = O at *
     generalize rowsC (trim P) = W at *
     generalize (decls xk).map declC = Z at *
     rcases ktop with rfl | ⟨rfl, k14, k15⟩
     ·simp only [go_sem, l44x0, b44, Tryz.f44, hlo, q, q2, qd, hgr, hjr, hw, hw2, rl, ra, k13, k3, c, hle1, hle2, hrs, c70, c35a, c35b, c50a, c50b, o1, o2, rao, rbo, rlo]
      all_goals rfl
     ·simp only [go_sem, l44x0, b44, Tryz.f44, hlo, q, q2, qd, hgr, hjr, hw, hw2, rl, ra, k13, k14, k15, k3, c, hle1, hle2, hrs, c70, c35a, c35b, c50a, c50b, o1, o2, rao, rbo, rlo]
      all_goals rfl
    ·have qlv : decide (d ≤ 64) = false := by simpa using hlv
     rw [qlv] at qd
     rw [qlv, Bool.and_false, if_neg (by simp), List.append_nil]
     rcases ktop with rfl | ⟨rfl, k14, k15⟩
     ·simp only [go_sem, l44x0, b44, Tryz.f44, hlo, q, q2, qd, hgr, hjr, hw, hw2, rl, ra, k13, k3, c, hle1, hle2, hrs, c70]
      all_goals rfl
     ·simp only [go_sem, l44x0, b44, Tryz.f44, hlo, q, q2, qd, hgr, hjr, hw, hw2, rl, ra, k13, k14, k15, k3, c, hle1, hle2, hrs, c70]
      all_goals rfl
 ·have es : (stepR sub (decide (d ≤ 64)) top v r).2 = ((v :: r).dropWhile (nor 23 23)).tail := by
   unfold stepR
   rw [if_neg h1, if_neg h3]
   cases (v :: r).dropWhile (nor 23 23) <;> rfl
  rw [es, ← List.drop_drop, hdr, List.drop_one]
end Go.Lift.P8
end

section
namespace Go.Lift.Rul
end Go.Lift.Rul
namespace Go.Proofs
end Go.Proofs
open Go.Proofs
namespace Go.Lift.P8
open Rul
variable [MX]
set_option maxRecDepth 20000
set_option maxHeartbeats 4000000
variable {lo : Nat} {h : Heap}
theorem f71a {p : List Ob} {F : List V} {n : Nat} {t : Tk4} {r ks : List CV} (hlo : lo ≤ p.length) (hn : n ≤ 1000000000)
  (h1 : F[n * 7 + 6]? = some (.list .yes (rowsC r))) (h2 : (F.drop ((n + 1) * 7)).take 7 = row t ++ [.list .yes (rowsC ks)]) (hl : (n + 2) * 7 ≤ F.length) (hr : r.length ≤ 1000000000) :
  E lo 71 [.stk p.length (n + 2) 7] (p ++ [.cells F]) =
   some (.stk p.length (n + 1) 7, p ++ [.cells (F.set (n * 7 + 6) (.list .yes (rowsC (r ++ [.mk t ks]))))]) := by
 have w1 : IntKind.i64.wrap (((n + 2 : Nat) : Int) - 1) = ((n + 1 : Nat) : Int) := by rw [wrap_i64] <;> omega
 have w2 : IntKind.i64.wrap (((n + 1 : Nat) : Int) - 1) = (n : Int) := by rw [wrap_i64] <;> omega
 have q1 : (n : Int) < ((n + 1 : Nat) : Int) := by omega
 have q2 : ((n + 1 : Nat) : Int) < ((n + 2 : Nat) : Int) := by omega
 have hs : n * 7 + 6 < F.length := by omega
 have hs1 : n * 7 + 6 + 1 ≤ F.length := hs
 have hs2 : n * 7 + 7 ≤ F.length := by omega
 have e2 : 7 ≤ (F.drop ((n + 1) * 7)).length := by rw [List.length_drop]; omega
 have hk : ∀ (x y : V), (F.set (n * 7 + 6) y).take (n * 7 + 6) ++ x :: (F.set (n * 7 + 6) y).drop (n * 7 + 6 + 1) = F.set (n * 7 + 6) x := fun x y => by rw [tk_set (by rw [List.length_set]; exact hs), List.set_set]
 have hk2 : ∀ (x y : V), (F.set (n * 7 + 6) y).take (n * 7 + 6) ++ x :: (F.set (n * 7 + 6) y).drop (n * 7 + 7) = F.set (n * 7 + 6) x := hk
 have o1 := lim72 hr
 have o2 := limC hr
 have ra := rowsC_all r
 have rl := rowsC_len r
 have rb := byteRow_rowsC r
 have l1 : lo ≤ p.length + 1 := by omega
 have l2 : lo ≤ p.length + 2 := by omega
 have l3 : lo ≤ p.length + 3 := by omega
 have l4 : lo ≤ p.length + 4 := by omega
 have l5 : lo ≤ p.length + 5 := by omega
 rw [rowsC_app, rowsC_cons, rowsC_nil, rowV_eq]
 generalize rowsC r = R at *
 rw [e71 (by simp) (by rfl)]
 simp only [row, List.cons_append, List.nil_append] at h2
 simp only [go_sem, b71, Tryz.f71, hlo, w1, w2, q1, q2, h1, h2, hs, hs1, hs2, hk, hk2, e2, o1, o2, ra, rl, rb, l1, l2, l3, l4, l5, List.length_set, List.set_set]
 all_goals rfl
theorem f71b {p : List Ob} {F xs : List V} {n : Nat} {t : Tk4} {r ks : List CV} (hlo : lo ≤ p.length) (hn : n ≤ 1000000000)
  (h1 : F[n * 7 + 6]? = some (.list .yes (rowsC r))) (h2 : (F.drop ((n + 1) * 7)).take 7 = row t ++ [.list .yes (rowsC ks)]) (hl : (n + 2) * 7 ≤ F.length) (hr : r.length ≤ 1000000000) :
  E lo 71 [.stk p.length (n + 2) 7] (p ++ [.cells F, .cells xs]) =
   some (.stk p.length (n + 1) 7, p ++ [.cells (F.set (n * 7 + 6) (.list .yes (rowsC (r ++ [.mk t ks])))), .cells xs]) := by
 have w1 : IntKind.i64.wrap (((n + 2 : Nat) : Int) - 1) = ((n + 1 : Nat) : Int) := by rw [wrap_i64] <;> omega
 have w2 : IntKind.i64.wrap (((n + 1 : Nat) : Int) - 1) = (n : Int) := by rw [wrap_i64] <;> omega
 have q1 : (n : Int) < ((n + 1 : Nat) : Int) := by omega
 have q2 : ((n + 1 : Nat) : Int) < ((n + 2 : Nat) : Int) := by omega
 have hs : n * 7 + 6 < F.length := by omega
 have hs1 : n * 7 + 6 + 1 ≤ F.length := hs
 have hs2 : n * 7 + 7 ≤ F.length := by omega
 have e2 : 7 ≤ (F.drop ((n + 1) * 7)).length := by rw [List.length_drop]; omega
 have hk : ∀ (x y : V), (F.set (n * 7 + 6) y).take (n * 7 + 6) ++ x :: (F.set (n * 7 + 6) y).drop (n * 7 + 6 + 1) = F.set (n * 7 + 6) x := fun x y => by rw [tk_set (by rw [List.length_set]; exact hs), List.set_set]
 have hk2 : ∀ (x y : V), (F.set (n * 7 + 6) y).take (n * 7 + 6) ++ x :: (F.set (n * 7 + 6) y).drop (n * 7 + 7) = F.set (n * 7 + 6) x := hk
 have o1 := lim72 hr
 have o2 := limC hr
 have ra := rowsC_all r
 have rl := rowsC_len r
 have rb := byteRow_rowsC r
 have l1 : lo ≤ p.length + 1 := by omega
 have l2 : lo ≤ p.length + 2 := by omega
 have l3 : lo ≤ p.length + 3 := by omega
 have l4 : lo ≤ p.length + 4 := by omega
 have l5 : lo ≤ p.length + 5 := by omega
 rw [rowsC_app, rowsC_cons, rowsC_nil, rowV_eq]
 generalize rowsC r = R at *
 rw [e71 (by simp) (by rfl)]
 simp only [row, List.cons_append, List.nil_append] at h2
 simp only [go_sem, b71, Tryz.f71, hlo, w1, w2, q1, q2, h1, h2, hs, hs1, hs2, hk, hk2, e2, o1, o2, ra, rl, rb, l1, l2, l3, l4, l5, List.length_set, List.set_set]
 all_goals rfl
end Go.Lift.P8
end

section
namespace Go.Lift.Rul
end Go.Lift.Rul
namespace Go.Proofs
end Go.Proofs
open Go.Proofs
namespace Go.Lift.P8
open Rul
variable [MX]
set_option maxRecDepth 20000
set_option maxHeartbeats 4000000
variable {lo : Nat} {h : Heap}
abbrev N45 (h : Heap) (l : List Tk4) (n i : Nat) : Env := [(3, .stk h.length n 7), (9, .list .no (l.map row)), (10, .v (.int .i64 l.length)), (11, .v (.int .i64 i))]
theorem jnk_fr (s : Stk) (b : List CV) : Jnk (frC s b) := fun i => ⟨frC_all _ (fun _ _ => rfl) (fun _ => rfl) s b, frC_all _ (fun _ _ => rfl) (fun _ => rfl) s b⟩
theorem lim72b {n : Nat} (h : n ≤ 1000000000) : (n + 1 + 1) * 72 ≤ 140737488355328 := by omega
def kindS : Stk → Int
 | [] => 0
 | (o, _) :: _ => o.k
theorem frC_kindS : ∀ (s : Stk) (b : List CV) (j : List V), (frC s b ++ j)[s.length * 7]? = some (.v (.int .i64 (kindS s)))
 | [], _, _ => rfl
 | (o, ks) :: r, b, j => frC_kind o ks r b j
theorem open45 {l : List Tk4} {t : Tk4} {i : Nat} {s : Stk} {b : List CV} {j : List V} (hlo : lo ≤ h.length) (hg : l[i]? = some t) (hl : l.length ≤ 1000000000) (hs : s.length ≤ 1000000000) (hj : Jnk j) (hc : closer t.k ≠ 0) (he : (decide (0 < s.length) && (t.k == closer (kindS s))) = false) :
  evCode ⟨Tryz.prog, E, lo, h.length, h45⟩ loopW l45x0 (N45 h l (s.length + 1) i, h ++ [.cells (frC s b ++ j)]) = some (.normal, N45 h l (s.length + 2) (i + 1), h ++ [.cells (frC ((t, []) :: s) b)]) := by
 have hlt : i < l.length := (List.getElem?_eq_some_iff.1 hg).1
 have q : decide ((i : Int) < (l.length : Int)) = true := by simpa using hlt
 have hgr : (l.map row)[i]? = some (row t) := by rw [List.getElem?_map, hg]; rfl
 have hw : IntKind.i64.wrap ((i : Int) + 1) = ((i + 1 : Nat) : Int) := wrap_succ (by omega)
 have w1 : IntKind.i64.wrap (((s.length + 1 : Nat) : Int) - 1) = (s.length : Int) := by rw [wrap_i64 (by omega) (by omega)]; omega
 have l1 : lo ≤ h.length + 1 := by omega
 have l2 : lo ≤ h.length + 2 := by omega
 have l3 : lo ≤ h.length + 3 := by omega
 have qc : (closer t.k != 0) = true := by simpa using hc
 have hF0 := frC_take s b j
 have hT := frC_stk h.length s b
 have hTk := (jnk_fr s b (h.length + 1)).2
 have hkd := frC_kindS s b j
 have hFl : (s.length + 1) * 7 ≤ (frC s b ++ j).length := by rw [List.length_append, frC_len]; omega
 have a2 : (s.length : Int) < ((s.length + 1 : Nat) : Int) := by omega
 have o1 := lim72b hs
 have o2 := limD hs
 simp only [N45, frC]
 generalize frC s b ++ j = F at *
 generalize frC s b = T at *
 have c48 := fun lo k hlo => f48 (lo := lo) (h := h ++ [.cells F, .cells (row t)]) hlo k
 have c48a := c48 lo t.k (by simp; omega); have c48b := c48 (h.length + 2) (kindS s) (by simp)
 clear c48
 simp only [row] at hgr c48a c48b
 cases hs0 : decide (0 < s.length) with
 | true =>
  rw [hs0, Bool.true_and] at he
  have hql : decide ((0 : Int) < (s.length : Int)) = true := by rw [decide_eq_true_iff] at hs0 ⊢; omega
  simp only [row, go_sem, l45x0, b45, Tryz.f45, hlo, l1, l2, l3, q, hgr, hw, w1, qc, hF0, hT, hTk, hkd, hFl, a2, o1, o2, c48a, c48b, hql, he, rowsC_nil, List.length_map]
  all_goals rfl
 | false =>
  have hql : decide ((0 : Int) < (s.length : Int)) = false := by rw [decide_eq_false_iff_not] at hs0 ⊢; omega
  simp only [row, go_sem, l45x0, b45, Tryz.f45, hlo, l1, l2, l3, q, hgr, hw, w1, qc, hF0, hT, hTk, hkd, hFl, a2, o1, o2, c48a, c48b, hql, he, rowsC_nil, List.length_map]
  all_goals rfl
theorem shut45 {l : List Tk4} {t o : Tk4} {i : Nat} {ks : List CV} {s : Stk} {b : List CV} {j : List V} (hlo : lo ≤ h.length) (hg : l[i]? = some t) (hl : l.length ≤ 1000000000) (hs : s.length ≤ 1000000000) (hr : (topL s b).length ≤ 1000000000) (hj : Jnk j) (he : closer o.k = t.k) :
  evCode ⟨Tryz.prog, E, lo, h.length, h45⟩ loopW l45x0 (N45 h l (s.length + 2) i, h ++ [.cells (frC ((o, ks) :: s) b ++ j)]) =
   some (.normal, N45 h l (s.length + 1) (i + 1), h ++ [.cells (frC (shutS ((o, ks) :: s) b).1 (shutS ((o, ks) :: s) b).2 ++ (row o ++ [.list .yes (rowsC ks)] ++ j))]) := by
 have hlt : i < l.length := (List.getElem?_eq_some_iff.1 hg).1
 have q : decide ((i : Int) < (l.length : Int)) = true := by simpa using hlt
 have hgr : (l.map row)[i]? = some (row t) := by rw [List.getElem?_map, hg]; rfl
 have hw : IntKind.i64.wrap ((i : Int) + 1) = ((i + 1 : Nat) : Int) := wrap_succ (by omega)
 have w1 : IntKind.i64.wrap (((s.length + 2 : Nat) : Int) - 1) = ((s.length + 1 : Nat) : Int) := by rw [wrap_i64 (by omega) (by omega)]; omega
 have l1 : lo ≤ h.length + 1 := by omega
 have l2 : lo ≤ h.length + 2 := by omega
 have l3 : lo ≤ h.length + 3 := by omega
 have hkd := frC_kind o ks s b j
 have hcl := frC_shut o ks s b j
 have h5 := f71b (lo := lo) (p := h) (xs := row t) (t := o) (ks := ks) (F := frC ((o, ks) :: s) b ++ j) hlo hs (frC_under (o, ks) s b j) (frC_frame o ks s b j) (by rw [List.length_append, frC_len, List.length_cons]; omega) hr
 rw [hcl] at h5
 have hSk := (jnk_app (jnk_fr (shutS ((o, ks) :: s) b).1 (shutS ((o, ks) :: s) b).2) (jnk_app (a := row o ++ [.list .yes (rowsC ks)]) (fun i => ⟨rfl, rfl⟩) hj) (h.length + 1)).2
 have hql : decide ((0 : Int) < ((s.length + 1 : Nat) : Int)) = true := by rw [decide_eq_true_iff]; omega
 have a2 : ((s.length + 1 : Nat) : Int) < ((s.length + 2 : Nat) : Int) := by omega
 have qe : (t.k == closer o.k) = true := by rw [he, beq_self_eq_true]
 simp only [N45]
 generalize frC ((o, ks) :: s) b ++ j = F at *
 generalize frC (shutS ((o, ks) :: s) b).1 (shutS ((o, ks) :: s) b).2 ++ (row o ++ [.list .yes (rowsC ks)] ++ j) = F2 at *
 have c48b := f48 (lo := h.length + 2) (h := h ++ [.cells F, .cells (row t)]) (by simp) o.k
 simp only [row] at hgr c48b h5
 simp only [row, go_sem, l45x0, b45, Tryz.f45, hlo, l1, l2, l3, q, hgr, hw, w1, hkd, h5, hSk, hql, a2, qe, c48b, List.length_map]
 all_goals rfl
theorem add45 {l : List Tk4} {t : Tk4} {i : Nat} {s : Stk} {b : List CV} {j : List V} (hlo : lo ≤ h.length) (hg : l[i]? = some t) (hl : l.length ≤ 1000000000) (hs : s.length ≤ 1000000000) (hr : (topL s b).length ≤ 1000000000) (hj : Jnk j) (hc : closer t.k = 0) (he : (decide (0 < s.length) && (t.k == closer (kindS s))) = false) :
  evCode ⟨Tryz.prog, E, lo, h.length, h45⟩ loopW l45x0 (N45 h l (s.length + 1) i, h ++ [.cells (frC s b ++ j)]) =
   some (.normal, N45 h l (s.length + 1) (i + 1), h ++ [.cells (frC (addTop (.mk t []) s b).1 (addTop (.mk t []) s b).2 ++ j)]) := by
 have hlt : i < l.length := (List.getElem?_eq_some_iff.1 hg).1
 have q : decide ((i : Int) < (l.length : Int)) = true := by simpa using hlt
 have hgr : (l.map row)[i]? = some (row t) := by rw [List.getElem?_map, hg]; rfl
 have hw : IntKind.i64.wrap ((i : Int) + 1) = ((i + 1 : Nat) : Int) := wrap_succ (by omega)
 have w1 : IntKind.i64.wrap (((s.length + 1 : Nat) : Int) - 1) = (s.length : Int) := by rw [wrap_i64 (by omega) (by omega)]; omega
 have l1 : lo ≤ h.length + 1 := by omega
 have l2 : lo ≤ h.length + 2 := by omega
 have l3 : lo ≤ h.length + 3 := by omega
 have qc : (closer t.k != 0) = false := by simpa using hc
 have hkd := frC_kindS s b j
 have htop := frC_top s b j
 have hset := frC_set s b j (.mk t [])
 have hTk := (jnk_app (jnk_fr (addTop (.mk t []) s b).1 (addTop (.mk t []) s b).2) hj (h.length + 1)).2
 have hFs : s.length * 7 + 6 < (frC s b ++ j).length := by rw [List.length_append, frC_len]; omega
 have hFs1 : s.length * 7 + 6 + 1 ≤ (frC s b ++ j).length := hFs
 have hFs2 : s.length * 7 + 7 ≤ (frC s b ++ j).length := hFs
 have hkk : ∀ (x y : V), ((frC s b ++ j).set (s.length * 7 + 6) y).take (s.length * 7 + 6) ++ x :: ((frC s b ++ j).set (s.length * 7 + 6) y).drop (s.length * 7 + 6 + 1) = (frC s b ++ j).set (s.length * 7 + 6) x := fun x y => by rw [tk_set (by rw [List.length_set]; exact hFs), List.set_set]
 have hk2 : ∀ (x y : V), ((frC s b ++ j).set (s.length * 7 + 6) y).take (s.length * 7 + 6) ++ x :: ((frC s b ++ j).set (s.length * 7 + 6) y).drop (s.length * 7 + 7) = (frC s b ++ j).set (s.length * 7 + 6) x := hkk
 have a2 : (s.length : Int) < ((s.length + 1 : Nat) : Int) := by omega
 have o1 := lim72 hr
 have o2 := limC hr
 have ra := rowsC_all (topL s b)
 have rl := rowsC_len (topL s b)
 have rb := byteRow_rowsC (topL s b)
 simp only [N45]
 rw [← hset] at hTk ⊢
 rw [rowsC_app, rowsC_cons, rowsC_nil, rowV_eq, rowsC_nil] at hTk ⊢
 generalize frC s b ++ j = F at *
 generalize rowsC (topL s b) = R at *
 have c48 := fun lo k hlo => f48 (lo := lo) (h := h ++ [.cells F, .cells (row t)]) hlo k
 have c48a := c48 lo t.k (by simp; omega); have c48b := c48 (h.length + 2) (kindS s) (by simp)
 clear c48
 simp only [row] at hgr c48a c48b
 cases hs0 : decide (0 < s.length) with
 | true =>
  rw [hs0, Bool.true_and] at he
  have hql : decide ((0 : Int) < (s.length : Int)) = true := by rw [decide_eq_true_iff] at hs0 ⊢; omega
  simp only [row, go_sem, l45x0, b45, Tryz.f45, hlo, l1, l2, l3, q, hgr, hw, w1, qc, hkd, htop, hTk, hFs, hFs1, hFs2, hkk, hk2, a2, o1, o2, ra, rl, rb, c48a, c48b, hql, he, rowsC_nil, List.length_map, List.length_set, List.set_set]
  all_goals rfl
 | false =>
  have hql : decide ((0 : Int) < (s.length : Int)) = false := by rw [decide_eq_false_iff_not] at hs0 ⊢; omega
  simp only [row, go_sem, l45x0, b45, Tryz.f45, hlo, l1, l2, l3, q, hgr, hw, w1, qc, hkd, htop, hTk, hFs, hFs1, hFs2, hkk, hk2, a2, o1, o2, ra, rl, rb, c48a, c48b, hql, he, rowsC_nil, List.length_map, List.length_set, List.set_set]
  all_goals rfl
end Go.Lift.P8
end

section
namespace Go.Lift.Rul
end Go.Lift.Rul
namespace Go.Proofs
end Go.Proofs
open Go.Proofs
namespace Go.Lift.P8
open Rul
variable [MX]
set_option maxRecDepth 20000
set_option maxHeartbeats 4000000
variable {lo : Nat} {h : Heap}
def H45 (h : Heap) (s : Stk) (b : List CV) (H : Heap) : Prop := ∃ j, Jnk j ∧ H = h ++ [.cells (frC s b ++ j)]
theorem round45 {l : List Tk4} {t : Tk4} {i : Nat} {s : Stk} {b : List CV} {H : Heap} (hlo : lo ≤ h.length) (hg : l[i]? = some t) (hl : l.length ≤ 1000000000) (hz : szS s + b.length ≤ 1000000000) (ho : Opn s) (hH : H45 h s b H) :
  ∃ H', evCode ⟨Tryz.prog, E, lo, h.length, h45⟩ loopW l45x0 (N45 h l (s.length + 1) i, H) = some (.normal, N45 h l ((stepS t s b).1.length + 1) (i + 1), H') ∧ H45 h (stepS t s b).1 (stepS t s b).2 H' := by
 obtain ⟨j, hj, rfl⟩ := hH
 have hsl := szS_len s
 by_cases hx : ctx s = some t.k
 ·cases s with
  | nil => cases hx
  | cons p r =>
   obtain ⟨o, ks⟩ := p
   have he : closer o.k = t.k := Option.some.inj hx
   simp only [szS] at hz
   have hrl := szS_len r
   have hrt := szS_top r b
   have := shut45 (h := h) (j := j) (b := b) (ks := ks) hlo hg hl (by omega : r.length ≤ 1000000000) (by omega) hj he
   have hst : stepS t ((o, ks) :: r) b = shutS ((o, ks) :: r) b := by unfold stepS; rw [if_pos hx]
   rw [hst, shutS_len]
   exact ⟨_, this, _, jnk_app (jnk_app (fun i => ⟨rfl, rfl⟩ : Jnk (row o)) (jnk_l jnk_nil)) hj, rfl⟩
 ·have he : (decide (0 < s.length) && (t.k == closer (kindS s))) = false := by
   cases s with
   | nil => rfl
   | cons p r =>
    obtain ⟨o, ks⟩ := p
    have : t.k ≠ closer o.k := fun e => hx (by show some (closer o.k) = some t.k; rw [e])
    simp only [kindS, List.length_cons]
    rw [beq_eq_false_iff_ne.2 this, Bool.and_false]
  by_cases hc : closer t.k = 0
  ·have hst : stepS t s b = addTop (.mk t []) s b := by unfold stepS; rw [if_neg hx, if_neg (by simp [hc])]
   have hrt := szS_top s b
   rw [hst, addTop_len]
   exact ⟨_, add45 hlo hg hl (by omega) (by omega) hj hc he, j, hj, rfl⟩
  ·have hst : stepS t s b = ((t, []) :: s, b) := by unfold stepS; rw [if_neg hx, if_pos hc]
   rw [hst]
   exact ⟨_, open45 hlo hg hl (by omega) hj hc he, [], jnk_nil, by simp⟩
theorem stop45 {l : List Tk4} {n : Nat} {s : Stk} {b : List CV} {H : Heap} (hlo : lo ≤ h.length) (hH : H45 h s b H) :
  evCode ⟨Tryz.prog, E, lo, h.length, h45⟩ loopW l45x0 (N45 h l n l.length, H) = some (.exit 0, N45 h l n l.length ++ [(12, .v (.bool false))], H) := by
 obtain ⟨j, _, rfl⟩ := hH
 have q : decide ((l.length : Int) < (l.length : Int)) = false := by simp
 simp only [N45, go_sem, l45x0, b45, Tryz.f45, hlo, q]
 all_goals rfl
theorem loop45 {l : List Tk4} (hlo : lo ≤ h.length) (hl : l.length ≤ 1000000000) : ∀ (m i : Nat) (s : Stk) (b : List CV) (H : Heap), i + m = l.length → szS s + b.length + m ≤ 1000000000 → Opn s → H45 h s b H →
  ∃ H', loopW (evCode ⟨Tryz.prog, E, lo, h.length, h45⟩ loopW l45x0) (N45 h l (s.length + 1) i, H) = some (.exit 0, N45 h l ((runS (l.drop i) s b).1.length + 1) l.length ++ [(12, .v (.bool false))], H') ∧ H45 h (runS (l.drop i) s b).1 (runS (l.drop i) s b).2 H' ∧ szS (runS (l.drop i) s b).1 + (runS (l.drop i) s b).2.length ≤ 1000000000
 | 0, i, s, b, H, hm, hz, ho, hH => by
  obtain rfl : i = l.length := by omega
  rw [List.drop_length, runS]
  exact ⟨H, by rw [loop_eq, stop45 hlo hH, loop_e], hH, by omega⟩
 | m + 1, i, s, b, H, hm, hz, ho, hH => by
  have hlt : i < l.length := by omega
  have hd : l.drop i = l[i] :: l.drop (i + 1) := List.drop_eq_getElem_cons hlt
  obtain ⟨H1, hr, h1⟩ := round45 hlo (List.getElem?_eq_getElem hlt) hl (by omega) ho hH
  have hz1 := szS_step l[i] s b
  obtain ⟨H2, h2, h3, h4⟩ := loop45 hlo hl m (i + 1) _ _ H1 (by omega) (by omega) (opn_step ho) h1
  rw [hd, runS]
  exact ⟨H2, by rw [loop_eq, hr, loop_n, h2], h3, h4⟩
abbrev M45 (h : Heap) (n : Nat) (ex : Env) : Env := (3, .stk h.length n 7) :: ex
def Ex45 (ex : Env) : Prop := (∃ a b c, ex = [(9, a), (10, b), (11, c)]) ∨ ∃ a b c d, ex = [(9, a), (10, b), (11, c), (12, d)]
theorem close45 {o : Tk4} {ks : List CV} {s : Stk} {b : List CV} {j : List V} {ex : Env} (he : Ex45 ex) (hlo : lo ≤ h.length) (hs : s.length ≤ 1000000000) (hr : (topL s b).length ≤ 1000000000) :
  evCode ⟨Tryz.prog, E, lo, h.length, h45⟩ loopW l45x1 (M45 h (s.length + 2) ex, h ++ [.cells (frC ((o, ks) :: s) b ++ j)]) =
   some (.normal, M45 h (s.length + 1) [(9, .undef), (10, .undef), (11, .undef)], h ++ [.cells (frC (shutS ((o, ks) :: s) b).1 (shutS ((o, ks) :: s) b).2 ++ (row o ++ [.list .yes (rowsC ks)] ++ j))]) := by
 have hcl := frC_shut o ks s b j
 have h5 := f71a (lo := lo) (p := h) (t := o) (ks := ks) (F := frC ((o, ks) :: s) b ++ j) hlo hs (frC_under (o, ks) s b j) (frC_frame o ks s b j) (by rw [List.length_append, frC_len, List.length_cons]; omega) hr
 rw [hcl] at h5
 have q : decide ((1 : Int) < ((s.length + 2 : Nat) : Int)) = true := by rw [decide_eq_true_iff]; omega
 generalize frC ((o, ks) :: s) b ++ j = F at *
 generalize frC (shutS ((o, ks) :: s) b).1 (shutS ((o, ks) :: s) b).2 ++ (row o ++ [.list .yes (rowsC ks)] ++ j) = F2 at *
 rcases he with ⟨x, y, z, rfl⟩ | ⟨x, y, z, w, rfl⟩
 ·simp only [M45, go_sem, l45x1, b45, Tryz.f45, hlo, q, h5]
  all_goals rfl
 ·simp only [M45, go_sem, l45x1, b45, Tryz.f45, hlo, q, h5]
  all_goals rfl
theorem end45 {H : Heap} {ex : Env} (he : Ex45 ex) (hlo : lo ≤ h.length) :
  evCode ⟨Tryz.prog, E, lo, h.length, h45⟩ loopW l45x1 (M45 h 1 ex, H) = some (.exit 2, M45 h 1 [(59, .v (.bool false))], H) := by
 have q : decide ((1 : Int) < ((1 : Nat) : Int)) = false := rfl
 rcases he with ⟨x, y, z, rfl⟩ | ⟨x, y, z, w, rfl⟩
 ·simp only [M45, go_sem, l45x1, b45, Tryz.f45, hlo, q, List.length_nil]
  all_goals rfl
 ·simp only [M45, go_sem, l45x1, b45, Tryz.f45, hlo, q, List.length_nil]
  all_goals rfl
theorem loop45b (hlo : lo ≤ h.length) : ∀ (n : Nat) (s : Stk) (b : List CV) (H : Heap) (ex : Env), s.length = n → szS s + b.length ≤ 1000000000 → Ex45 ex → H45 h s b H →
  ∃ H', loopW (evCode ⟨Tryz.prog, E, lo, h.length, h45⟩ loopW l45x1) (M45 h (s.length + 1) ex, H) = some (.exit 2, M45 h 1 [(59, .v (.bool false))], H') ∧ H45 h [] (shutAll s b) H'
 | 0, s, b, H, ex, hn, hz, he, hH => by
  obtain rfl := List.eq_nil_of_length_eq_zero hn
  exact ⟨H, by rw [loop_eq]; simp only [List.length_nil, Nat.zero_add]; rw [end45 he hlo, loop_e], hH⟩
 | n + 1, [], b, H, ex, hn, hz, he, hH => by cases hn
 | n + 1, (o, ks) :: r, b, H, ex, hn, hz, he, hH => by
  have hz1 := szS_shut o ks r b
  simp only [szS, List.length_cons] at hz hn
  have hrl := szS_len r
  have hrt := szS_top r b
  obtain ⟨j, hj, rfl⟩ := hH
  have hc := close45 (o := o) (ks := ks) (s := r) (b := b) (j := j) he hlo (by omega) (by omega)
  rw [shutAll_cons]
  have hlen := shutS_len (o, ks) r b
  obtain ⟨H2, h2, h3⟩ := loop45b hlo n (shutS ((o, ks) :: r) b).1 (shutS ((o, ks) :: r) b).2 _ [(9, .undef), (10, .undef), (11, .undef)] (by omega) (by simp only [szS] at hz1; omega) (.inl ⟨_, _, _, rfl⟩)
   ⟨row o ++ [.list .yes (rowsC ks)] ++ j, jnk_app (jnk_app (fun i => ⟨rfl, rfl⟩ : Jnk (row o)) (jnk_l jnk_nil)) hj, rfl⟩
  refine ⟨H2, ?_, h3⟩
  rw [hlen] at h2
  rw [loop_eq]
  simp only [List.length_cons]
  rw [hc, loop_n]
  exact h2
theorem f45 {l : List Tk4} (hlo : lo ≤ h.length) (hl : l.length ≤ 1000000000) : E lo 45 [.list .no (l.map row)] h = some (.list .no (rowsC (vals l)), h) := by
 obtain ⟨H1, h1, h2, h3⟩ := loop45 (lo := lo) (h := h) hlo hl l.length 0 [] [] (h ++ [.cells (frC [] [])]) (by omega) (by simp only [szS, List.length_nil]; omega) opn_nil ⟨[], jnk_nil, by simp⟩
 rw [List.drop_zero] at h1 h2 h3
 obtain ⟨H2, h4, h5⟩ := loop45b (lo := lo) (h := h) hlo _ _ _ H1 [(9, .list .no (l.map row)), (10, .v (.int .i64 l.length)), (11, .v (.int .i64 l.length)), (12, .v (.bool false))] rfl h3 (.inr ⟨_, _, _, _, rfl⟩) h2
 have hv : shutAll (runS l [] []).1 (runS l [] []).2 = vals l := rfl
 rw [hv] at h5
 have n0 : ((0 : Nat) : Int) = 0 := rfl
 have l1 : lo ≤ h.length + 1 := by omega
 have l2 : lo ≤ h.length + 2 := by omega
 have e0 : Rul.bs [] = ByteArray.empty := rfl
 have p1 : (0 : Int) < ((1 : Nat) : Int) := by decide
 rw [e45 (by simp) (by rfl)]
 simp only [l45x0, l45x1, b45, Tryz.f45, loopAt, loops, bodyOf, go_sem, N45, M45, frC, row, Rul.bare, e0, n0, rowsC_nil, List.cons_append, List.nil_append, List.length_nil, Nat.zero_add] at h1 h4
 obtain ⟨j, _, rfl⟩ := h5
 simp only [go_sem, b45, Tryz.f45, hlo, l1, l2, h1, h4, n0, p1, frC, row, Rul.bare, e0, rowsC_nil, List.length_map, List.cons_append, List.nil_append, List.length_nil, Nat.zero_add]
 all_goals rfl
end Go.Lift.P8
end
