/- The lifting: values, states, evaluation, and that it is sound. -/
import Derived.Test.YtnlekmkfgaolbaaGreatDoorGLc
set_option linter.unusedVariables false
set_option linter.unusedSimpArgs false
set_option linter.unusedSectionVars false
section
namespace Go.Lift
theorem hp_dropK (h l : List Ob) (k : Nat) : (h ++ l).drop (h.length + k) = l.drop k := by
 rw [List.drop_append, List.drop_of_length_le (by omega), List.nil_append, Nat.add_sub_cancel_left]
theorem hp_ltA (h : List Ob) (a b c : Nat) : decide (h.length + a < h.length + b + c) = decide (a < b + c) := by
 rw [decide_eq_decide]; omega
theorem hp_ltB (h : List Ob) (b c : Nat) : decide (h.length < h.length + b + c) = decide (0 < b + c) := by
 rw [decide_eq_decide]; omega
theorem hp_takeB (h l : List Ob) (a b : Nat) : (h ++ l).take (h.length + a + b) = h ++ l.take (a + b) := by rw [Nat.add_assoc]; exact hp_take h l (a + b)
theorem untag1_ud : untag1 .undef = .undef := rfl
theorem tk_set {α : Type} {l : List α} {n : Nat} {x : α} (hn : n < l.length) : l.take n ++ x :: l.drop (n + 1) = l.set n x := by rw [List.set_eq_take_append_cons_drop, if_pos hn]
theorem untag1_an : untag1 .any = .any := rfl
theorem untagC1_ud : untagC1 .undef = .undef := rfl
theorem untagC1_an : untagC1 .any = .any := rfl
attribute [go_sem] untag1_an untagC1_ud untagC1_an
theorem bn20 : ((2 : Nat) != 0) = true := rfl
theorem bn10 : ((1 : Nat) != 0) = true := rfl
theorem bn00 : ((0 : Nat) != 0) = false := rfl
attribute [go_sem] bn20 bn10 bn00
theorem sw_0_4 : sw 0 4 = 4 := rfl
theorem sw_0_5 : sw 0 5 = 5 := rfl
theorem sw_0_6 : sw 0 6 = 6 := rfl
theorem sw_0_7 : sw 0 7 = 7 := rfl
theorem sw_0_8 : sw 0 8 = 8 := rfl
theorem sw_0_9 : sw 0 9 = 9 := rfl
theorem sw_1_3 : sw 1 3 = 3 := rfl
theorem sw_1_4 : sw 1 4 = 4 := rfl
theorem sw_1_5 : sw 1 5 = 5 := rfl
theorem sw_1_6 : sw 1 6 = 6 := rfl
theorem sw_1_7 : sw 1 7 = 7 := rfl
theorem sw_1_8 : sw 1 8 = 8 := rfl
theorem sw_1_9 : sw 1 9 = 9 := rfl
theorem sw_2_4 : sw 2 4 = 4 := rfl
theorem sw_2_5 : sw 2 5 = 5 := rfl
theorem sw_2_6 : sw 2 6 = 6 := rfl
theorem sw_2_7 : sw 2 7 = 7 := rfl
theorem sw_2_8 : sw 2 8 = 8 := rfl
theorem sw_2_9 : sw 2 9 = 9 := rfl
theorem sw_3_0 : sw 3 0 = 0 := rfl
theorem sw_3_1 : sw 3 1 = 1 := rfl
theorem sw_3_2 : sw 3 2 = 2 := rfl
theorem sw_3_3 : sw 3 3 = 4 := rfl
theorem sw_3_4 : sw 3 4 = 3 := rfl
theorem sw_3_5 : sw 3 5 = 5 := rfl
theorem sw_3_6 : sw 3 6 = 6 := rfl
theorem sw_3_7 : sw 3 7 = 7 := rfl
theorem sw_3_8 : sw 3 8 = 8 := rfl
theorem sw_3_9 : sw 3 9 = 9 := rfl
theorem sw_4_0 : sw 4 0 = 0 := rfl
theorem sw_4_1 : sw 4 1 = 1 := rfl
theorem sw_4_2 : sw 4 2 = 2 := rfl
theorem sw_4_3 : sw 4 3 = 3 := rfl
theorem sw_4_4 : sw 4 4 = 5 := rfl
theorem sw_4_5 : sw 4 5 = 4 := rfl
theorem sw_4_6 : sw 4 6 = 6 := rfl
theorem sw_4_7 : sw 4 7 = 7 := rfl
theorem sw_4_8 : sw 4 8 = 8 := rfl
theorem sw_4_9 : sw 4 9 = 9 := rfl
theorem sw_5_0 : sw 5 0 = 0 := rfl
theorem sw_5_1 : sw 5 1 = 1 := rfl
theorem sw_5_2 : sw 5 2 = 2 := rfl
theorem sw_5_3 : sw 5 3 = 3 := rfl
theorem sw_5_4 : sw 5 4 = 4 := rfl
theorem sw_5_5 : sw 5 5 = 6 := rfl
theorem sw_5_6 : sw 5 6 = 5 := rfl
theorem sw_5_7 : sw 5 7 = 7 := rfl
theorem sw_5_8 : sw 5 8 = 8 := rfl
theorem sw_5_9 : sw 5 9 = 9 := rfl
theorem sw_6_0 : sw 6 0 = 0 := rfl
theorem sw_6_1 : sw 6 1 = 1 := rfl
theorem sw_6_2 : sw 6 2 = 2 := rfl
theorem sw_6_3 : sw 6 3 = 3 := rfl
theorem sw_6_4 : sw 6 4 = 4 := rfl
theorem sw_6_5 : sw 6 5 = 5 := rfl
theorem sw_6_6 : sw 6 6 = 7 := rfl
theorem sw_6_7 : sw 6 7 = 6 := rfl
theorem sw_6_8 : sw 6 8 = 8 := rfl
theorem sw_6_9 : sw 6 9 = 9 := rfl
theorem sw_7_0 : sw 7 0 = 0 := rfl
theorem sw_7_1 : sw 7 1 = 1 := rfl
theorem sw_7_2 : sw 7 2 = 2 := rfl
theorem sw_7_3 : sw 7 3 = 3 := rfl
theorem sw_7_4 : sw 7 4 = 4 := rfl
theorem sw_7_5 : sw 7 5 = 5 := rfl
theorem sw_7_6 : sw 7 6 = 6 := rfl
theorem sw_7_7 : sw 7 7 = 8 := rfl
theorem sw_7_8 : sw 7 8 = 7 := rfl
theorem sw_7_9 : sw 7 9 = 9 := rfl
theorem swL_3 {α : Type} (a b c x y : α) (l : List α) : swL 3 (a :: b :: c :: x :: y :: l) = a :: b :: c :: y :: x :: l := rfl
theorem swL_4 {α : Type} (a b c d x y : α) (l : List α) : swL 4 (a :: b :: c :: d :: x :: y :: l) = a :: b :: c :: d :: y :: x :: l := rfl
theorem swL_5 {α : Type} (a b c d e x y : α) (l : List α) : swL 5 (a :: b :: c :: d :: e :: x :: y :: l) = a :: b :: c :: d :: e :: y :: x :: l := rfl
theorem swL_6 {α : Type} (a b c d e f x y : α) (l : List α) : swL 6 (a :: b :: c :: d :: e :: f :: x :: y :: l) = a :: b :: c :: d :: e :: f :: y :: x :: l := rfl
theorem swL_7 {α : Type} (a b c d e f g x y : α) (l : List α) : swL 7 (a :: b :: c :: d :: e :: f :: g :: x :: y :: l) = a :: b :: c :: d :: e :: f :: g :: y :: x :: l := rfl
theorem swr_fn (j f : Nat) (cs : List V) : swr j (.fn f cs) = .fn f (cs.map (swc j)) := rfl
theorem swf_fn (j f : Nat) (cs : List V) : swf j (.fn f cs) = .fn f (cs.map (swc j)) := rfl
theorem swf_s (j b n z : Nat) : swf j (.stk b n z) = .stk (sw j b) n z := rfl
theorem swf_b (j b n z : Nat) : swf j (.buf b n z) = .buf (sw j b) n z := rfl
theorem swc_p (j b o : Nat) : swc j (.ptr b o) = .ptr (sw j b) o := rfl
theorem swc_st (j b n z : Nat) : swc j (.stk b n z) = .stk (sw j b) n z := rfl
theorem swc_l (j : Nat) (k : Own) (r : List (List V)) : swc j (.list k r) = .list k r := rfl
theorem swc_v (j : Nat) (x : Value) : swc j (.v x) = .v x := rfl
theorem swr_an (j : Nat) : swr j .any = .any := rfl
theorem swr_ag (j : Nat) (cs : List V) : swr j (.agg cs) = .agg (cs.map (swf j)) := rfl
attribute [go_sem] sw_0_4 sw_0_5 sw_0_6 sw_0_7 sw_0_8 sw_0_9 sw_1_3 sw_1_4 sw_1_5 sw_1_6 sw_1_7 sw_1_8 sw_1_9 sw_2_4 sw_2_5 sw_2_6 sw_2_7 sw_2_8 sw_2_9 sw_3_0 sw_3_1 sw_3_2 sw_3_3 sw_3_4 sw_3_5 sw_3_6 sw_3_7 sw_3_8 sw_3_9 sw_4_0 sw_4_1 sw_4_2 sw_4_3 sw_4_4 sw_4_5 sw_4_6 sw_4_7 sw_4_8 sw_4_9 sw_5_0 sw_5_1 sw_5_2 sw_5_3 sw_5_4 sw_5_5 sw_5_6 sw_5_7 sw_5_8 sw_5_9 sw_6_0 sw_6_1 sw_6_2 sw_6_3 sw_6_4 sw_6_5 sw_6_6 sw_6_7 sw_6_8 sw_6_9 sw_7_0 sw_7_1 sw_7_2 sw_7_3 sw_7_4 sw_7_5 sw_7_6 sw_7_7 sw_7_8 sw_7_9 swL_3 swL_4 swL_5 swL_6 swL_7 swr_fn swf_fn swf_s swf_b swc_p swc_st swc_l swc_v swr_an swr_ag Nat.add_sub_cancel_left Nat.sub_self
theorem hp_ltC (h : List Ob) (a b c : Nat) : (h.length + a + b < h.length + c) = (a + b < c) := by rw [eq_iff_iff]; omega
theorem hp_neA (h : List Ob) (k : Nat) : decide (h.length + (k + 1) ≠ h.length) = true := by rw [decide_eq_true_iff]; omega
theorem hp_neB (h : List Ob) : decide (h.length ≠ h.length) = false := by rw [decide_eq_false_iff_not]; omega
theorem hp_neC (h : List Ob) (a b : Nat) : decide (h.length + a ≠ h.length + b) = decide (a ≠ b) := by rw [decide_eq_decide]; omega
theorem hp_neD (h : List Ob) (k : Nat) : decide (h.length ≠ h.length + (k + 1)) = true := by rw [decide_eq_true_iff]; omega
theorem hp_ltD (h : List Ob) (a b : Nat) : decide (h.length + a < h.length + b) = decide (a < b) := by rw [decide_eq_decide]; omega
theorem hp_ltE (h : List Ob) (k : Nat) : decide (h.length < h.length + (k + 1)) = true := by rw [decide_eq_true_iff]; omega
theorem nat_neS (a : Nat) : decide (a ≠ a) = false := by simp
attribute [go_sem] nat_neS
theorem hp_eqA (h : List Ob) (k : Nat) : (h.length + (k + 1) = h.length) = False := by rw [eq_iff_iff, iff_false]; omega
theorem hp_ltG (h : List Ob) (a b : Nat) : (h.length + a < h.length + b) = (a < b) := by rw [eq_iff_iff]; omega
theorem sw_e (n a b : Nat) : sw n (n + a + b) = n + sw 0 (a + b) := by
 unfold sw
 repeat' split
 all_goals omega
theorem sw_f (n i a b : Nat) : sw (n + i) (n + a + b) = n + sw i (a + b) := by
 unfold sw
 repeat' split
 all_goals omega
attribute [go_sem] hp_ltG sw_e sw_f
attribute [go_sem] hp_eqA
attribute [go_sem] hp_ltC hp_ltD hp_ltE hp_neA hp_neB hp_neC hp_neD
attribute [go_sem] Nat.le_add_right Nat.le_refl Nat.add_le_add_iff_left
theorem nat_ne {a b : Nat} (h : (a == b) = false) : (a ≠ b) = True := by rw [eq_iff_iff, iff_true]; intro e; rw [e, beq_self_eq_true] at h; cases h
attribute [go_sem] nat_ne Option.isNone_none untag1_ud
attribute [go_sem] hp_dropK Nat.reduceSub hp_ltA hp_ltB hp_takeB
end Go.Lift
end

section
namespace Go.Lift
def flat : Code → List Code
 | .seq a b => flat a ++ flat b
 | c => [c]
variable [GTab] [BTy]
section
variable (c : Cx) (lp : LoopF) (s : St)
noncomputable def evL : List Code → St → Option (Ex × St)
 | [], s => some (.normal, s)
 | a :: l, s => match evCode c lp a s with
  | some (.normal, s') => evL l s'
  | r => r
noncomputable def thenL (l : List Code) : Option (Ex × St) → Option (Ex × St)
 | some (.normal, s') => evL c lp l s'
 | r => r
theorem l_nil : evL c lp [] s = some (.normal, s) := rfl
theorem l_cons (a : Code) (l : List Code) : evL c lp (a :: l) s = thenL c lp l (evCode c lp a s) := by
 simp only [evL]
 cases evCode c lp a s with
 | none => rfl
 | some p => obtain ⟨e, s'⟩ := p; cases e <;> rfl
theorem tl_n (l : List Code) : thenL c lp l (some (.normal, s)) = evL c lp l s := rfl
theorem tl_r (l : List Code) : thenL c lp l (some (.ret, s)) = some (.ret, s) := rfl
theorem tl_e (l : List Code) (id : Nat) : thenL c lp l (some (.exit id, s)) = some (.exit id, s) := rfl
theorem tl_0 (l : List Code) : thenL c lp l none = none := rfl
def pc (b : Code) (i n : Nat) : List Code := ((flat b).drop i).take n
end
theorem fl_s (a b : Code) : flat (.seq a b) = flat a ++ flat b := rfl
theorem fl_r (id : Nat) (ops : Array Oper) (d : Bool) : flat (.region id ops d) = [.region id ops d] := rfl
theorem fl_c (x : Operand) (a b : Code) : flat (.cond x a b) = [.cond x a b] := rfl
theorem fl_b (id : Nat) (a : Code) : flat (.block id a) = [.block id a] := rfl
theorem fl_l (a : Code) : flat (.loop a) = [.loop a] := rfl
theorem fl_e (id : Nat) : flat (.exit id) = [.exit id] := rfl
theorem fl_t : flat .ret = [.ret] := rfl
theorem fl_k : flat .skip = [.skip] := rfl
theorem fl_p (a : Code) : flat (.scope a) = [.scope a] := rfl
theorem dr_0 (l : List Code) : l.drop 0 = l := rfl
attribute [go_sem] l_nil l_cons tl_n tl_r tl_e tl_0 pc fl_s fl_r fl_c fl_b fl_l fl_e fl_t fl_k fl_p dr_0 List.drop_succ_cons List.take_succ_cons List.take_zero List.drop_nil List.take_nil
end Go.Lift
end
