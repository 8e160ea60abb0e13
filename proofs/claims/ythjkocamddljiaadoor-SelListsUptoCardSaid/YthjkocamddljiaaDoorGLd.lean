/- The lifting: values, states, evaluation, and that it is sound. -/
import Derived.Test.YthjkocamddljiaaDoorGLc
set_option linter.unusedVariables false
set_option linter.unusedSimpArgs false
set_option linter.unusedSectionVars false
section
namespace Go.Lift
def iand (k : IntKind) (a b : Int) : Int := ((BitVec.ofInt k.bits a &&& BitVec.ofInt k.bits b).toNat : Int)
def ior (k : IntKind) (a b : Int) : Int := ((BitVec.ofInt k.bits a ||| BitVec.ofInt k.bits b).toNat : Int)
def ixor (k : IntKind) (a b : Int) : Int := ((BitVec.ofInt k.bits a ^^^ BitVec.ofInt k.bits b).toNat : Int)
def ishl (k : IntKind) (a b : Int) : Int := a * 2 ^ (min b.toNat k.bits)
def ishr (k : IntKind) (a b : Int) : Int := a.fdiv (2 ^ (min b.toNat k.bits))
section bin
variable (k : IntKind) (a b : Int)
theorem b_add : binS .add (.int k a) (.int k b) = some (.int k (k.wrap (a + b))) := by unfold binS; exact if_pos rfl
theorem b_sub : binS .sub (.int k a) (.int k b) = some (.int k (k.wrap (a - b))) := by unfold binS; exact if_pos rfl
theorem b_mul : binS .mul (.int k a) (.int k b) = some (.int k (k.wrap (a * b))) := by unfold binS; exact if_pos rfl
theorem b_quo : binS .quo (.int k a) (.int k b) = if b = 0 then none else some (.int k (k.wrap (a.tdiv b))) := by unfold binS; exact if_pos rfl
theorem b_rem : binS .rem (.int k a) (.int k b) = if b = 0 then none else some (.int k (a.tmod b)) := by unfold binS; exact if_pos rfl
theorem b_and : binS .and (.int k a) (.int k b) = some (.int k (k.wrap (iand k a b))) := by unfold binS; exact if_pos rfl
theorem b_or : binS .or (.int k a) (.int k b) = some (.int k (k.wrap (ior k a b))) := by unfold binS; exact if_pos rfl
theorem b_xor : binS .xor (.int k a) (.int k b) = some (.int k (k.wrap (ixor k a b))) := by unfold binS; exact if_pos rfl
theorem b_eql : binS .eql (.int k a) (.int k b) = some (.bool (a == b)) := by unfold binS; exact if_pos rfl
theorem b_neq : binS .neq (.int k a) (.int k b) = some (.bool (a != b)) := by unfold binS; exact if_pos rfl
theorem b_lss : binS .lss (.int k a) (.int k b) = some (.bool (decide (a < b))) := by unfold binS; exact if_pos rfl
theorem b_leq : binS .leq (.int k a) (.int k b) = some (.bool (decide (a ≤ b))) := by unfold binS; exact if_pos rfl
theorem b_gtr : binS .gtr (.int k a) (.int k b) = some (.bool (decide (b < a))) := by unfold binS; exact if_pos rfl
theorem b_geq : binS .geq (.int k a) (.int k b) = some (.bool (decide (b ≤ a))) := by unfold binS; exact if_pos rfl
theorem b_shl (k' : IntKind) : binS .shl (.int k a) (.int k' b) = if 0 ≤ b then some (.int k (k.wrap (ishl k a b))) else none := by unfold binS; rfl
theorem b_shr (k' : IntKind) : binS .shr (.int k a) (.int k' b) = if 0 ≤ b then some (.int k (ishr k a b)) else none := by unfold binS; rfl
theorem b_sadd (s t : ByteArray) : binS .add (.string s) (.string t) = if s.size + t.size ≤ 9223372036854775807 then some (.string (s ++ t)) else none := by unfold binS; rfl
theorem b_seql (s t : ByteArray) : binS .eql (.string s) (.string t) = some (.bool (s.toList == t.toList)) := by unfold binS; rfl
theorem b_slss (s t : ByteArray) : binS .lss (.string s) (.string t) = some (.bool (Op.bytesLess s.toList t.toList)) := by unfold binS; rfl
theorem b_sleq (s t : ByteArray) : binS .leq (.string s) (.string t) = some (.bool (Op.bytesLess s.toList t.toList || s.toList == t.toList)) := by unfold binS; rfl
theorem b_sgtr (s t : ByteArray) : binS .gtr (.string s) (.string t) = some (.bool (!(Op.bytesLess s.toList t.toList || s.toList == t.toList))) := by unfold binS; rfl
theorem b_sgeq (s t : ByteArray) : binS .geq (.string s) (.string t) = some (.bool (!(Op.bytesLess s.toList t.toList))) := by unfold binS; rfl
theorem b_sneq (s t : ByteArray) : binS .neq (.string s) (.string t) = some (.bool (!(s.toList == t.toList))) := by unfold binS; rfl
theorem u_neg : unS .neg (.int k a) = some (.int k (k.wrap (0 - a))) := rfl
theorem u_not (x : Bool) : unS .not (.bool x) = some (.bool !x) := rfl
end bin
def loops : Code → List Code
 | .seq a b => loops a ++ loops b
 | .cond _ a b => loops a ++ loops b
 | .block _ a => loops a
 | .loop a => a :: loops a
 | .scope a => loops a
 | _ => []
def loopAt (b : Code) (i : Nat) : Code := ((loops b)[i]?).getD .skip
def bodyOf (f : Func) : Code := f.body.getD .skip
theorem wrap_i64 {n : Int} (h0 : -9223372036854775808 ≤ n) (h1 : n ≤ 9223372036854775807) : IntKind.i64.wrap n = n := by
 simp only [IntKind.wrap, IntKind.bits, IntKind.signed, Bool.true_and, Nat.reduceSub, Int.reducePow]
 split <;> simp_all <;> omega
theorem wrap_i32 {n : Int} (h0 : -2147483648 ≤ n) (h1 : n ≤ 2147483647) : IntKind.i32.wrap n = n := by
 simp only [IntKind.wrap, IntKind.bits, IntKind.signed, Bool.true_and, Nat.reduceSub, Int.reducePow]
 split <;> simp_all <;> omega
theorem wrap_u8 {n : Int} (h0 : 0 ≤ n) (h1 : n ≤ 255) : IntKind.u8.wrap n = n := by
 simp only [IntKind.wrap, IntKind.bits, IntKind.signed, Bool.false_and, Bool.false_eq_true, if_false, Int.reducePow]
 omega
theorem wrap_succ {i : Nat} (h : i ≤ 1000000000000000000) : IntKind.i64.wrap ((i : Int) + 1) = ((i + 1 : Nat) : Int) := by rw [wrap_i64] <;> omega
theorem n0 : ((0 : Nat) : Int) = 0 := rfl
def ri (k : IntKind) (l : List Int) : List (List V) := l.map fun n => [.v (.int k n)]
theorem ri_len (k : IntKind) (l : List Int) : (ri k l).length = l.length := by simp [ri]
theorem ri_get (k : IntKind) (l : List Int) (i : Nat) : (ri k l)[i]? = (l[i]?).map fun n => [V.v (.int k n)] := by simp [ri]
theorem ri_drop (k : IntKind) (l : List Int) (n : Nat) : (ri k l).drop n = ri k (l.drop n) := by simp [ri]
theorem ri_take (k : IntKind) (l : List Int) : (ri k l).take l.length = ri k l := by rw [← ri_len k l, List.take_length]
theorem hp_at (h l : List Ob) (x : Ob) : (h ++ x :: l)[h.length]? = some x := by simp
theorem hp_atk (h l : List Ob) (k : Nat) : (h ++ l)[h.length + k]? = l[k]? := by rw [List.getElem?_append_right (by omega)]; congr 1; omega
theorem hp_set (h l : List Ob) (x y : Ob) : (h ++ x :: l).set h.length y = h ++ y :: l := by rw [List.set_append, if_neg (by omega), Nat.sub_self]; rfl
theorem hp_setk (h l : List Ob) (k : Nat) (y : Ob) : (h ++ l).set (h.length + k) y = h ++ l.set k y := by rw [List.set_append, if_neg (by omega), Nat.add_sub_cancel_left]
theorem hl_app (h l : List Ob) : (h ++ l).length = h.length + l.length := List.length_append
theorem hl_cons (x : Ob) (l : List Ob) : (x :: l).length = l.length + 1 := rfl
theorem hl_nil : ([] : List Ob).length = 0 := rfl
theorem hp_take (h l : List Ob) (k : Nat) : (h ++ l).take (h.length + k) = h ++ l.take k := by rw [List.take_append, List.take_of_length_le (by omega), Nat.add_sub_cancel_left]
theorem hp_take0 (h l : List Ob) : (h ++ l).take h.length = h := List.take_left
theorem hp_tcons (x : Ob) (l : List Ob) (k : Nat) : (x :: l).take (k + 1) = x :: l.take k := rfl
theorem ri_nil (k : IntKind) : ri k [] = [] := rfl
theorem ri_cons (k : IntKind) (n : Int) (l : List Int) : ri k (n :: l) = [.v (.int k n)] :: ri k l := rfl
theorem ri_runes (l : List Int) : runesOf (ri .i32 l) = some l := by
 induction l with
 | nil => rfl
 | cons n l ih => rw [ri_cons]; unfold runesOf; rw [ih]; rfl
def u8s (l : List Int) : List UInt8 := l.map fun n => UInt8.ofNat n.toNat
theorem ri_bytes (l : List Int) : bytesOf (ri .u8 l) = some (u8s l) := by
 induction l with
 | nil => rfl
 | cons n l ih => rw [ri_cons]; unfold bytesOf; rw [ih]; rfl
theorem ri_all (k : IntKind) (l : List Int) : ((ri k l).all fun x => x.length == 1) = true := by simp [ri]
variable [GTab] [BTy]
section step
variable (c : Cx) (lp : LoopF) (s : St)
noncomputable def thenC (b : Code) : Option (Ex × St) → Option (Ex × St)
 | some (.normal, s') => evCode c lp b s'
 | r => r
noncomputable def lateC (a : Code) : Option (Nat × Array Oper × Nat × Array Oper) → Option (Ex × St)
 | some (k, ops, id', ops') => (evLate c k ops id' ops' s).map fun s' => (Ex.normal, s')
 | none => evCode c lp a s
noncomputable def condC (a b : Code) : V → Option (Ex × St)
 | .v (.bool t) => if t then evCode c lp a s else evCode c lp b s
 | .any => sameX (lateC c lp s a (lateOf c.P c.hint a)) (evCode c lp b s)
 | _ => none
def blockC (id : Nat) : Option (Ex × St) → Option (Ex × St)
 | some (.exit j, s') => if j = id then some (.normal, s') else some (.exit j, s')
 | r => r
def normC : Option St → Option (Ex × St)
 | some s => some (.normal, s)
 | none => none
theorem c_skip : evCode c lp .skip s = some (.normal, s) := rfl
theorem c_region (id : Nat) (ops : Array Oper) (draw : Bool) : evCode c lp (.region id ops draw) s = normC (evRegion c id ops draw s) := by
 simp only [evCode]
 cases evRegion c id ops draw s <;> rfl
theorem c_seq (a b : Code) : evCode c lp (.seq a b) s = thenC c lp b (evCode c lp a s) := by
 simp only [evCode]
 cases h : evCode c lp a s with
 | none => rfl
 | some p => obtain ⟨e, s'⟩ := p; cases e <;> rfl
theorem c_cond (x : Operand) (a b : Code) : evCode c lp (.cond x a b) s = condC c lp s a b (opd s.1 x) := by
 simp only [evCode]
 cases opd s.1 x with
 | any => simp only [condC]; congr 1
 | v x => cases x <;> rfl
 | _ => rfl
theorem c_block (id : Nat) (a : Code) : evCode c lp (.block id a) s = blockC id (evCode c lp a s) := by
 simp only [evCode]
 cases h : evCode c lp a s with
 | none => rfl
 | some p => obtain ⟨e, s'⟩ := p; cases e <;> rfl
theorem c_loop (a : Code) : evCode c lp (.loop a) s = lp (evCode c lp a) s := rfl
theorem c_exit (id : Nat) : evCode c lp (.exit id) s = some (.exit id, s) := rfl
theorem c_scope (a : Code) : evCode c lp (.scope a) s = evCode c lp a s := rfl
theorem c_label (l : Nat) : evCode c lp (.label l) s = some (.normal, s) := rfl
theorem c_ret : evCode c lp .ret s = some (.ret, s) := rfl
theorem then_n (b : Code) : thenC c lp b (some (.normal, s)) = evCode c lp b s := rfl
theorem then_e (b : Code) (id : Nat) : thenC c lp b (some (.exit id, s)) = some (.exit id, s) := rfl
theorem then_r (b : Code) : thenC c lp b (some (.ret, s)) = some (.ret, s) := rfl
theorem then_0 (b : Code) : thenC c lp b none = none := rfl
theorem cond_t (a b : Code) : condC c lp s a b (.v (.bool true)) = evCode c lp a s := rfl
theorem cond_f (a b : Code) : condC c lp s a b (.v (.bool false)) = evCode c lp b s := rfl
theorem cond_any (a b : Code) : condC c lp s a b .any = sameX (lateC c lp s a (lateOf c.P c.hint a)) (evCode c lp b s) := rfl
def lateM (k : Nat) (ops : Array Oper) (id' : Nat) (ops' : Array Oper) : Option Nat → Option Mix → Option (Nat × Array Oper × Nat × Array Oper)
 | some _, none => some (k, ops, id', ops')
 | _, _ => none
theorem la_t {P : Program} {hint : Hint} (id id' : Nat) (ops ops' : Array Oper) : lateOf P hint (.seq (.region id ops true) (.region id' ops' false)) = lateM (tailAt P hint id ops) ops id' ops' (hint.late id) (hint.mix id) := by
 simp only [lateOf]
 cases hint.late id <;> cases hint.mix id <;> rfl
theorem lm_t (k x : Nat) (ops : Array Oper) (id' : Nat) (ops' : Array Oper) : lateM k ops id' ops' (some x) none = some (k, ops, id', ops') := rfl
theorem lm_n (k : Nat) (ops : Array Oper) (id' : Nat) (ops' : Array Oper) (m : Option Mix) : lateM k ops id' ops' none m = none := by cases m <;> rfl
theorem lm_m (k : Nat) (x : Option Nat) (ops : Array Oper) (id' : Nat) (ops' : Array Oper) (m : Mix) : lateM k ops id' ops' x (some m) = none := by cases x <;> rfl
theorem la_r {P : Program} {hint : Hint} (id : Nat) (ops : Array Oper) (d : Bool) : lateOf P hint (.region id ops d) = none := rfl
theorem la_0 (a : Code) : lateC c lp s a none = evCode c lp a s := rfl
noncomputable def lateH (k : Nat) (ops : Array Oper) (id' : Nat) (ops' : Array Oper) : Option St → Option St
 | some s1 => evLate1 c.P c.lo c.base (c.hint.live id') (c.hint.keep id') k ops ops' s1
 | none => none
theorem la_s (a : Code) (k id' : Nat) (ops ops' : Array Oper) : lateC c lp s a (some (k, ops, id', ops')) = normC (lateH c k ops id' ops' (evHeads c ops (ops.toList.take k) s)) := by
 simp only [lateC, evLate]
 cases evHeads c ops (ops.toList.take k) s with
 | none => rfl
 | some s1 => simp only [lateH]; cases evLate1 c.P c.lo c.base (c.hint.live id') (c.hint.keep id') k ops ops' s1 <;> rfl
theorem lh_s (k id' : Nat) (ops ops' : Array Oper) : lateH c k ops id' ops' (some s) = evLate1 c.P c.lo c.base (c.hint.live id') (c.hint.keep id') k ops ops' s := rfl
theorem cond_b (a b : Code) (t : Bool) : condC c lp s a b (.v (.bool t)) = if t = true then evCode c lp a s else evCode c lp b s := rfl
theorem block_n (id : Nat) : blockC id (some (.normal, s)) = some (.normal, s) := rfl
theorem block_e (id j : Nat) : blockC id (some (.exit j, s)) = if j = id then some (.normal, s) else some (.exit j, s) := rfl
theorem block_r (id : Nat) : blockC id (some (.ret, s)) = some (.ret, s) := rfl
theorem block_0 (id : Nat) : blockC id none = none := rfl
theorem norm_s : normC (some s) = some (.normal, s) := rfl
theorem norm_0 : normC none = none := rfl
def loopC (lp : LoopF) (f : St → Option (Ex × St)) : Option (Ex × St) → Option (Ex × St)
 | some (.normal, s') => lp f s'
 | r => r
theorem loop_eq (f : St → Option (Ex × St)) : loopW f s = loopC loopW f (f s) := by
 rw [loopW_eq]
 cases h : f s with
 | none => rfl
 | some p => obtain ⟨e, s'⟩ := p; cases e <;> rfl
theorem loop_n (lp : LoopF) (f : St → Option (Ex × St)) : loopC lp f (some (.normal, s)) = lp f s := rfl
theorem loop_e (lp : LoopF) (f : St → Option (Ex × St)) (id : Nat) : loopC lp f (some (.exit id, s)) = some (.exit id, s) := rfl
theorem loop_r (lp : LoopF) (f : St → Option (Ex × St)) : loopC lp f (some (.ret, s)) = some (.ret, s) := rfl
noncomputable def regC (id : Nat) : Option St → Option St
 | some s' => keeps c.base (c.hint.keep id) (untag (lives (c.hint.live id) s'.1), s'.2)
 | none => none
theorem once_f (m : Option Mix) (k : Option Nat) : once m false k = k := by cases k <;> rfl
theorem once_0 (d : Bool) (k : Option Nat) : once none d k = k := by cases k <;> cases d <;> rfl
theorem once_n (m : Option Mix) (d : Bool) : once m d none = none := rfl
theorem once_s (mx : Mix) (n : Nat) : once (some mx) true (some n) = if (decide (1000 ≤ n) && decide (n < 2000)) = true then none else some n := rfl
noncomputable def regD (id : Nat) (k : Option Nat) : Option St → Option St
 | some s' => keeps c.base k (untag (lives (c.hint.live id) s'.1), s'.2)
 | none => none
theorem r_line (id : Nat) (ops : Array Oper) : evRegion c id ops false s = regC c id (evLine c ops s (c.hint.tail id)) := by
 unfold evRegion
 simp only [Bool.false_eq_true, if_false, once_f]
 cases evLine c ops s (c.hint.tail id) <;> rfl
theorem ln_none (ops : Array Oper) : evLine c ops s none = evOps c ops ops.toList s := rfl
def adoptC (ops : Array Oper) (k : Nat) : Option St → Option St
 | some s1 => evAdopt c ops k s1
 | none => none
theorem ln_some (ops : Array Oper) (k : Nat) : evLine c ops s (some k) = adoptC c ops k (evOps c ops (ops.toList.take k) s) := rfl
theorem ad_s (ops : Array Oper) (k : Nat) : adoptC c ops k (some s) = evAdopt c ops k s := rfl
noncomputable def tailC (ops : Array Oper) (l : List Oper) : Option St → Option St
 | some s' => evOps c ops l s'
 | none => none
noncomputable def treeC (id : Nat) (ops : Array Oper) : Option Mix → Option St
 | some mx => evT c mx id ops mx.tree s
 | none => tailC c ops (ops.toList.drop (tailAt c.P c.hint id ops)) (evHeads c ops (ops.toList.take (tailAt c.P c.hint id ops)) s)
theorem r_draw (id : Nat) (ops : Array Oper) : evRegion c id ops true s = regD c id (once (c.hint.mix id) true (c.hint.keep id)) (treeC c s id ops (c.hint.mix id)) := by
 unfold evRegion
 simp only [if_true]
 unfold evDraw treeC
 cases c.hint.mix id with
 | some mx => cases hq : evT c mx id ops mx.tree s <;> simp only [hq, regD]
 | none =>
 simp only
 unfold evDraw0
 cases evHeads c ops (ops.toList.take (tailAt c.P c.hint id ops)) s with
 | none => rfl
 | some s' =>
  simp only [tailC]
  cases evOps c ops (ops.toList.drop (tailAt c.P c.hint id ops)) s' <;> rfl
theorem tr_n (id : Nat) (ops : Array Oper) : treeC c s id ops none = tailC c ops (ops.toList.drop (tailAt c.P c.hint id ops)) (evHeads c ops (ops.toList.take (tailAt c.P c.hint id ops)) s) := rfl
theorem tr_s (id : Nat) (ops : Array Oper) (hd tk : List Nat) (T : Tr) : treeC c s id ops (some ⟨hd, tk, T⟩) = evT c ⟨hd, tk, T⟩ id ops T s := rfl
theorem t_fin (mx : Mix) (id : Nat) (ops : Array Oper) : evT c mx id ops .fin s = keeps c.base (c.hint.keep id) (untag (lives (c.hint.live id) s.1), s.2) := rfl
def keepO (base : Nat) (k : Option Nat) : Option St → Option St
 | some s => keeps base k s
 | none => none
theorem kp_s (base : Nat) (k : Option Nat) (s : St) : keepO base k (some s) = keeps base k s := rfl
def swsC (base : Nat) (l : List Nat) : Option St → Option St
 | some s => swSs base l s
 | none => none
theorem swc_s (base : Nat) (l : List Nat) (s : St) : swsC base l (some s) = swSs base l s := rfl
theorem sws_n (base : Nat) (s : St) : swSs base [] s = some s := rfl
theorem sws_c (base i : Nat) (l : List Nat) (s : St) : swSs base (i :: l) s = swsC base l (swS base i s) := by
 simp only [swSs]
 cases swS base i s <;> rfl
theorem t_finL (mx : Mix) (id : Nat) (ops : Array Oper) (l : List Nat) : evT c mx id ops (.finL l) s = keepO c.base (c.hint.keep id) (swSs c.base l (untag (lives (c.hint.live id) s.1), s.2)) := by
 simp only [evT, leafT]
 cases swSs c.base l (untag (lives (c.hint.live id) s.1), s.2) <;> rfl
theorem t_finS (mx : Mix) (id : Nat) (ops : Array Oper) (i : Nat) : evT c mx id ops (.finS i) s = keepO c.base (c.hint.keep id) (swS c.base i (untag (lives (c.hint.live id) s.1), s.2)) := by
 rw [show evT c mx id ops (.finS i) s = leafT c.base (c.hint.live id) (c.hint.keep id) [i] s from rfl]
 simp only [leafT, swSs]
 cases swS c.base i (untag (lives (c.hint.live id) s.1), s.2) <;> rfl
theorem kn_n (base : Nat) : keeps base none s = some s := rfl
theorem kn_s (base n : Nat) : keeps base (some n) s = if n < 1000 then keep1 base n s else if n < 2000 then keep1 base ((s.2.drop base).length - (n - 1000)) s else sinkS base s (look s.1 (n - 2000)) := rfl
noncomputable def twoC (id : Nat) : Option St → Option St
 | some s1 => keeps c.base (c.hint.keep id) (untag (lives (c.hint.live id) s1.1), s1.2)
 | none => none
theorem t_two (mx : Mix) (id : Nat) (ops : Array Oper) (k : Nat) : evT c mx id ops (.two k) s = twoC c id (evTwo c.P c.lo c.base k ops s) := by
 simp only [evT]; unfold twoC; cases evTwo c.P c.lo c.base k ops s <;> rfl
theorem two_s (id : Nat) : twoC c id (some s) = keeps c.base (c.hint.keep id) (untag (lives (c.hint.live id) s.1), s.2) := rfl
noncomputable def nextC (mx : Mix) (id : Nat) (ops : Array Oper) (T : Tr) : Option St → Option St
 | some s1 => evT c mx id ops T s1
 | none => none
theorem t_head (mx : Mix) (id : Nat) (ops : Array Oper) (k : Nat) (T : Tr) : evT c mx id ops (.head k T) s = nextC c mx id ops T (stepT c mx ops k s) := by
 simp only [evT]; unfold nextC; cases stepT c mx ops k s <;> rfl
theorem t_one (mx : Mix) (id : Nat) (ops : Array Oper) (k : Nat) (T : Tr) : evT c mx id ops (.one k T) s = nextC c mx id ops T (stepT c mx ops k s) := by
 simp only [evT]; unfold nextC; cases stepT c mx ops k s <;> rfl
theorem t_alt (mx : Mix) (id : Nat) (ops : Array Oper) (a b : Tr) : evT c mx id ops (.alt a b) s = joinS (evT c mx id ops a s) (evT c mx id ops b s) := rfl
theorem nx_s (mx : Mix) (id : Nat) (ops : Array Oper) (T : Tr) : nextC c mx id ops T (some s) = evT c mx id ops T s := rfl
theorem nx_0 (mx : Mix) (id : Nat) (ops : Array Oper) (T : Tr) : nextC c mx id ops T none = none := rfl
theorem sw_a (n i k : Nat) : sw (n + i) (n + k) = n + sw i k := by
 unfold sw
 repeat' split
 all_goals omega
theorem sw_b (n i : Nat) : sw (n + i) n = n + sw i 0 := sw_a n i 0
theorem sw_c (n k : Nat) : sw n (n + k) = n + sw 0 k := sw_a n 0 k
theorem sw_d (n : Nat) : sw n n = n + 1 := sw_a n 0 0
theorem sw_00 : sw 0 0 = 1 := rfl
theorem sw_01 : sw 0 1 = 0 := rfl
theorem sw_02 : sw 0 2 = 2 := rfl
theorem sw_03 : sw 0 3 = 3 := rfl
theorem sw_10 : sw 1 0 = 0 := rfl
theorem sw_11 : sw 1 1 = 2 := rfl
theorem sw_12 : sw 1 2 = 1 := rfl
theorem sw_20 : sw 2 0 = 0 := rfl
theorem sw_21 : sw 2 1 = 1 := rfl
theorem sw_22 : sw 2 2 = 3 := rfl
theorem sw_23 : sw 2 3 = 2 := rfl
theorem swE_n (j : Nat) : swE j [] = [] := rfl
theorem swE_c (j k : Nat) (v : V) (g : Env) : swE j ((k, v) :: g) = (k, swr j v) :: swE j g := rfl
theorem swr_p (j b o : Nat) : swr j (.ptr b o) = .ptr (sw j b) o := rfl
theorem swr_v (j : Nat) (x : Value) : swr j (.v x) = .v x := rfl
theorem swr_l (j : Nat) (k : Own) (r : List (List V)) : swr j (.list k r) = .list k r := rfl
theorem swr_u (j : Nat) : swr j .undef = .undef := rfl
theorem swr_n (j : Nat) : swr j .nil = .nil := rfl
theorem swr_r (j : Nat) (cs : List V) : swr j (.rp cs) = .rp cs := rfl
theorem swr_b (j b o n : Nat) : swr j (.buf b o n) = .buf (sw j b) o n := rfl
theorem swr_s (j b n z : Nat) : swr j (.stk b n z) = .stk (sw j b) n z := rfl
theorem swf_p (j b o : Nat) : swf j (.ptr b o) = .ptr (sw j b) o := rfl
theorem swf_v (j : Nat) (x : Value) : swf j (.v x) = .v x := rfl
theorem swf_l (j : Nat) (k : Own) (r : List (List V)) : swf j (.list k r) = .list k r := rfl
theorem swf_n (j : Nat) : swf j .nil = .nil := rfl
theorem swO_c (j : Nat) (cs : List V) : swO j (.cells cs) = .cells (cs.map (swf j)) := rfl
theorem swL_0 {α : Type} (x y : α) (l : List α) : swL 0 (x :: y :: l) = y :: x :: l := rfl
theorem swL_1 {α : Type} (u x y : α) (l : List α) : swL 1 (u :: x :: y :: l) = u :: y :: x :: l := rfl
theorem swL_2 {α : Type} (t u x y : α) (l : List α) : swL 2 (t :: u :: x :: y :: l) = t :: u :: y :: x :: l := rfl
theorem sws_eq (base i : Nat) (g : Env) (h : Heap) : swS base i (g, h) = if base + i + 1 < h.length then some (swE (base + i) g, h.take base ++ swL i ((h.drop base).map (swO (base + i)))) else none := rfl
theorem join_v (v : V) : joinV v v = v := by simp [joinV, veq_refl]
theorem join_e : ∀ g : Env, joinE g g = some g
 | [] => rfl
 | (k, v) :: g => by simp only [joinE, if_true, join_v, join_e g, Option.map_some]
theorem same_eq (x : Option St) : joinS x x = x := by
 cases x with
 | none => rfl
 | some s => simp only [joinS, heq_refl, if_true, join_e, Option.map_some]
theorem js_s (g q : Env) (h : Heap) : joinS (some (g, h)) (some (q, h)) = (joinE g q).map fun r => (r, h) := by simp only [joinS, heq_refl, if_true]
theorem je_n : joinE [] [] = some [] := rfl
theorem je_s (k : Nat) (v : V) (r q : Env) : joinE ((k, v) :: r) ((k, v) :: q) = (joinE r q).map ((k, v) :: ·) := by simp only [joinE, if_true, join_v]
theorem je_t (k : Nat) (r q : Env) : joinE ((k, .v (.bool true)) :: r) ((k, .v (.bool false)) :: q) = (joinE r q).map ((k, .any) :: ·) := by simp [joinE, joinV, isBoolV, veq, valeq]
theorem je_f (k : Nat) (r q : Env) : joinE ((k, .v (.bool false)) :: r) ((k, .v (.bool true)) :: q) = (joinE r q).map ((k, .any) :: ·) := by simp [joinE, joinV, isBoolV, veq, valeq]
theorem sx_eq (x : Option (Ex × St)) : sameX x x = x := by
 unfold sameX
 rw [if_pos (exeq_refl x)]
noncomputable def stepC (mx : Mix) (ops : Array Oper) (o : Oper) : Bool → Bool → Option St
 | true, _ => evHeads c ops [o] s
 | false, true => if o.guard.isNone && !isEff c.P o.op then evTake c s o else none
 | false, false => evOps c ops [o] s
noncomputable def stepO (hd tk : List Nat) (T : Tr) (ops : Array Oper) (k : Nat) : Option Oper → Option St
 | none => none
 | some o => stepC c s ⟨hd, tk, T⟩ ops o (hd.contains k) (tk.contains k)
theorem sp_eq {hd tk : List Nat} {T : Tr} {ops : Array Oper} {k : Nat} : stepT c ⟨hd, tk, T⟩ ops k s = stepO c s hd tk T ops k (ops[k]?) := by
 unfold stepT stepO
 cases ops[k]? with
 | none => rfl
 | some o =>
 simp only
 cases hd.contains k <;> cases tk.contains k <;> simp [stepC]
theorem so_s (hd tk : List Nat) (T : Tr) (ops : Array Oper) (k : Nat) (o : Oper) : stepO c s hd tk T ops k (some o) = stepC c s ⟨hd, tk, T⟩ ops o (hd.contains k) (tk.contains k) := rfl
theorem sp_h (mx : Mix) (ops : Array Oper) (o : Oper) (b : Bool) : stepC c s mx ops o true b = evHeads c ops [o] s := rfl
theorem sp_o (mx : Mix) (ops : Array Oper) (o : Oper) : stepC c s mx ops o false false = evOps c ops [o] s := rfl
noncomputable def takeC (d : Nat) : Option V → Option St
 | some v => match owner c.lo (ins d v s.1, s.2) (.tmp d) with
  | some (r, g, h) => some (ins d (.list .yes r) (untag g), h)
  | none => none
 | none => none
noncomputable def takeB (d : Nat) (v : Option V) : Bool → Option St
 | false => takeC c s d v
 | true => none
theorem sp_k (mx : Mix) (ops : Array Oper) (d : Nat) (op : Op) (ty : TypeId) (p : String) (a : Array Edge) : stepC c s mx ops ⟨some d, op, ty, p, a, none⟩ false true = takeB c s d (evPure c.P c.hint.vars s op) (isEff c.P op) := by
 simp only [stepC, Option.isNone_none]
 cases he : isEff c.P op with
 | true => simp [takeB]
 | false =>
  simp only [Bool.not_false, Bool.and_self, if_true, evTake]
  unfold takeB takeC
  cases evPure c.P c.hint.vars s op <;> rfl
theorem tb_f (d : Nat) (v : Option V) : takeB c s d v false = takeC c s d v := rfl
theorem tk_s (d : Nat) (v : V) : takeC c s d (some v) = match owner c.lo (ins d v s.1, s.2) (.tmp d) with
  | some (r, g, h) => some (ins d (.list .yes r) (untag g), h)
  | none => none := rfl
theorem tail_s (ops : Array Oper) (l : List Oper) : tailC c ops l (some s) = evOps c ops l s := rfl
theorem reg_s (id : Nat) : regC c id (some s) = keeps c.base (c.hint.keep id) (untag (lives (c.hint.live id) s.1), s.2) := rfl
theorem reg_0 (id : Nat) : regC c id none = none := rfl
theorem regd_s (id : Nat) (k : Option Nat) : regD c id k (some s) = keeps c.base k (untag (lives (c.hint.live id) s.1), s.2) := rfl
theorem regd_0 (id : Nat) (k : Option Nat) : regD c id k none = none := rfl
def aftC (ops : Array Oper) (d : Option Nat) (l : List Oper) : Option (V × St) → Option St
 | some (v, g, h) => evOps c ops l (put d v g, h)
 | none => none
def wantC (ops : Array Oper) (o : Oper) (l : List Oper) : Option Bool → Option St
 | some true => aftC c ops o.dst l (evOp c s o)
 | some false => if isAssign o.op then none else evOps c ops l (put o.dst (.v undef) s.1, s.2)
 | none => none
theorem o_nil (ops : Array Oper) : evOps c ops [] s = some s := rfl
theorem o_cons (ops : Array Oper) (o : Oper) (l : List Oper) : evOps c ops (o :: l) s = wantC c s ops o l (want ops s.1 o) := by
 simp only [evOps]
 unfold wantC
 split <;> simp_all
 cases h : evOp c s o with
 | none => rfl
 | some p => rfl
theorem w_t (ops : Array Oper) (o : Oper) (l : List Oper) : wantC c s ops o l (some true) = aftC c ops o.dst l (evOp c s o) := rfl
theorem w_f (ops : Array Oper) (o : Oper) (l : List Oper) : wantC c s ops o l (some false) = if isAssign o.op = true then none else evOps c ops l (put o.dst (.v undef) s.1, s.2) := rfl
theorem a_s (ops : Array Oper) (d : Option Nat) (l : List Oper) (v : V) (g : Env) (h : Heap) : aftC c ops d l (some (v, g, h)) = evOps c ops l (put d v g, h) := rfl
theorem a_0 (ops : Array Oper) (d : Option Nat) (l : List Oper) : aftC c ops d l none = none := rfl
def pureC : Option V → Option (V × St)
 | some v => some (v, s)
 | none => none
theorem pure_s (v : V) : pureC s (some v) = some (v, s) := rfl
theorem pure_0 : pureC s none = none := rfl
def opC (o : Op) : Bool → Option (V × St)
 | true => evEff c.P c.call c.lo c.hint.mutc s o
 | false => pureC s (evPure c.P c.hint.vars s o)
def newC (o : Oper) : Bool → Option (V × St)
 | true => evNew c.P c.base c.lo (c.hint.mode o.dst) s o.op
 | false => opC c s o.op (isEff c.P o.op)
theorem nw_t (o : Oper) : newC c s o true = evNew c.P c.base c.lo (c.hint.mode o.dst) s o.op := rfl
theorem nw_f (o : Oper) : newC c s o false = opC c s o.op (isEff c.P o.op) := rfl
theorem op_eq (o : Oper) : evOp c s o = newC c s o (isNew c.hint.mode o.dst o.op) := by
 unfold evOp
 cases isNew c.hint.mode o.dst o.op with
 | true => rfl
 | false =>
 simp only [Bool.false_eq_true, if_false, newC]
 cases isEff c.P o.op with
 | true => rfl
 | false =>
  simp only [Bool.false_eq_true, if_false]
  unfold opC
  cases evPure c.P c.hint.vars s o.op <;> rfl
theorem op_t (o : Op) : opC c s o true = evEff c.P c.call c.lo c.hint.mutc s o := rfl
theorem op_f (o : Op) : opC c s o false = pureC s (evPure c.P c.hint.vars s o) := rfl
def aftH (ops : Array Oper) (d : Option Nat) (l : List Oper) : Option V → Option St
 | some v => evHeads c ops l (put d v s.1, s.2)
 | none => none
def wantH (ops : Array Oper) (o : Oper) (l : List Oper) : Option Bool → Option St
 | some true => aftH c s ops o.dst l (evHead c s o)
 | some false => if isAssign o.op then none else evHeads c ops l (put o.dst (.v undef) s.1, s.2)
 | none => none
theorem h_nil (ops : Array Oper) : evHeads c ops [] s = some s := rfl
theorem h_cons (ops : Array Oper) (o : Oper) (l : List Oper) : evHeads c ops (o :: l) s = wantH c s ops o l (want ops s.1 o) := by
 simp only [evHeads]
 unfold wantH
 split <;> simp_all
 cases h : evHead c s o with
 | none => rfl
 | some p => rfl
theorem wh_t (ops : Array Oper) (o : Oper) (l : List Oper) : wantH c s ops o l (some true) = aftH c s ops o.dst l (evHead c s o) := rfl
theorem wh_f (ops : Array Oper) (o : Oper) (l : List Oper) : wantH c s ops o l (some false) = if isAssign o.op = true then none else evHeads c ops l (put o.dst (.v undef) s.1, s.2) := rfl
theorem ah_s (ops : Array Oper) (d : Option Nat) (l : List Oper) (v : V) : aftH c s ops d l (some v) = evHeads c ops l (put d v s.1, s.2) := rfl
def hdC (o : Oper) : Bool → Option V
 | true => match o.op with
  | .call d => match d.callee with
   | .value f => match opd s.1 f with
    | .fn f caps => sameH s.2.length (c.call s.2.length f (headB caps ++ ((d.args.toList.map (opd s.1)).map fzs ++ tailB caps)) s.2)
    | _ => none
   | _ => none
  | .convert a b x =>
   if c.hint.mutc || isRow c.P a b then none else (evEff c.P c.call c.lo false s (.convert a b x)).map (·.1)
  | .buildSlice t n parts => (evEff c.P c.call c.lo false s (.buildSlice t n parts)).map (·.1)
  | _ => none
 | false => evPure c.P c.hint.vars s o.op
theorem hd_eq (o : Oper) : evHead c s o = hdC c s o (isEff c.P o.op) := by
 unfold evHead
 cases isEff c.P o.op <;> rfl
theorem hd_f (o : Oper) : hdC c s o false = evPure c.P c.hint.vars s o.op := rfl
theorem hd_t (o : Oper) : hdC c s o true = match o.op with
  | .call d => match d.callee with
   | .value f => match opd s.1 f with
    | .fn f caps => sameH s.2.length (c.call s.2.length f (headB caps ++ ((d.args.toList.map (opd s.1)).map fzs ++ tailB caps)) s.2)
    | _ => none
   | _ => none
  | .convert a b x =>
   if c.hint.mutc || isRow c.P a b then none else (evEff c.P c.call c.lo false s (.convert a b x)).map (·.1)
  | .buildSlice t n parts => (evEff c.P c.call c.lo false s (.buildSlice t n parts)).map (·.1)
  | _ => none := rfl
end step
theorem sh_s (n : Nat) (v : V) (h : Heap) : sameH n (some (v, h)) = if h.length = n then some v else none := rfl
def fin (P : Program) (rs : List ResultVar) (base : Nat) : Option (Ex × St) → Option (V × Heap)
 | some (.exit _, _) => none
 | some (_, s) => match evResults P s rs with
  | some vs => if okr base (resV vs) then some (resV vs, s.2.take base) else none
  | none => none
 | none => none
def finR (P : Program) (rs : List ResultVar) (base ret : Nat) (rr : Bool) : Option (Ex × St) → Option (V × Heap)
 | some (.exit _, _) => none
 | some (_, s) => match (if rr then evResultsR P s rs else evResults P s rs) with
  | some vs => if okr (base + ret) (resV vs) && (((s.2.drop base).take ret).all (okO (base + ret)) && (ret == 0 || decide (base + ret ≤ s.2.length))) then some (resV vs, s.2.take (base + ret)) else none
  | none => none
 | none => none
theorem ev_bodyR {P : Program} {hints : Nat → Hint} {prim : Nat → Option (Nat → List V → Heap → Option (V × Heap))} {lo f nt ret : Nat} {rr : Bool} {args : List V} {h : Heap} {fn : Func} {b : Code} {rs : List ResultVar} {hi : Hint}
  (hp : prim f = none) (hf : P.funcs[f]? = some fn) (hb : fn.body = some b) (hn : fn.ntmps = nt) (hname : (fn.name != "runtime.NumGoroutine") = true) (hh : hints f = hi) (hcode : codeOk P hi nt b = true) (hrs : fn.results.toList = rs) (hret : hi.ret = ret) (hrr : hi.rawr = rr)
  (hargs : args.length ≤ nt) (hbare : args.all bare = true) :
  ev P hints prim lo f args h = finR P rs h.length ret rr (evCode ⟨P, ev P hints prim, lo, h.length, hi⟩ loopW b (args0 args, h)) := by
 rw [ev_eq hp]
 unfold evBody
 subst hh hn hrs hret hrr
 simp only [hf, hb]
 rw [if_pos (by simp [hcode, hargs, hbare, hname])]
 cases evCode ⟨P, ev P hints prim, lo, h.length, hints f⟩ loopW b (args0 args, h) with
 | none => rfl
 | some p =>
  obtain ⟨e, s⟩ := p
  cases e <;> rfl
theorem ev_body {P : Program} {hints : Nat → Hint} {prim : Nat → Option (Nat → List V → Heap → Option (V × Heap))} {lo f nt : Nat} {args : List V} {h : Heap} {fn : Func} {b : Code} {rs : List ResultVar} {hi : Hint}
  (hp : prim f = none) (hf : P.funcs[f]? = some fn) (hb : fn.body = some b) (hn : fn.ntmps = nt) (hname : (fn.name != "runtime.NumGoroutine") = true) (hh : hints f = hi) (hcode : codeOk P hi nt b = true) (hrs : fn.results.toList = rs) (hret : hi.ret = 0) (hrr : hi.rawr = false)
  (hargs : args.length ≤ nt) (hbare : args.all bare = true) :
  ev P hints prim lo f args h = fin P rs h.length (evCode ⟨P, ev P hints prim, lo, h.length, hi⟩ loopW b (args0 args, h)) := by
 rw [ev_bodyR hp hf hb hn hname hh hcode hrs hret hrr hargs hbare]
 cases evCode ⟨P, ev P hints prim, lo, h.length, hi⟩ loopW b (args0 args, h) with
 | none => rfl
 | some p =>
  obtain ⟨e, s⟩ := p
  have key : (match evResults P s rs with
    | some vs => if okr (h.length + 0) (resV vs) && (((s.2.drop h.length).take 0).all (okO (h.length + 0)) && ((0 : Nat) == 0 || decide (h.length + 0 ≤ s.2.length))) then some (resV vs, s.2.take (h.length + 0)) else none
    | none => none) = match evResults P s rs with
    | some vs => if okr h.length (resV vs) then some (resV vs, s.2.take h.length) else none
    | none => none := by
   simp only [List.take_zero, List.all_nil, Nat.add_zero, beq_self_eq_true, Bool.true_or, Bool.and_true]
  cases e <;> first | rfl | exact key
section merge
variable {p : Prop} [Decidable p]
theorem m_norm (s t : St) : (if p then some (Ex.normal, s) else some (Ex.normal, t)) = some (Ex.normal, if p then s else t) := by split <;> rfl
theorem m_ret (s t : St) : (if p then some (Ex.ret, s) else some (Ex.ret, t)) = some (Ex.ret, if p then s else t) := by split <;> rfl
theorem m_st (s t : St) : (if p then some s else some t) = some (if p then s else t) := by split <;> rfl
theorem m_pair (g g' : Env) (h h' : Heap) : (if p then ((g, h) : St) else (g', h')) = (if p then g else g', if p then h else h') := by split <;> rfl
theorem m_cons (k : Nat) (v v' : V) (g g' : Env) : (if p then ((k, v) :: g : Env) else (k, v') :: g') = (k, if p then v else v') :: (if p then g else g') := by split <;> rfl
theorem m_v (x y : Value) : (if p then V.v x else V.v y) = V.v (if p then x else y) := by split <;> rfl
theorem m_list (k : Own) (r q : List (List V)) : (if p then V.list k r else V.list k q) = V.list k (if p then r else q) := by split <;> rfl
theorem m_bool (x y : Bool) : (if p then Value.bool x else Value.bool y) = Value.bool (if p then x else y) := by split <;> rfl
theorem m_int (k : IntKind) (x y : Int) : (if p then Value.int k x else Value.int k y) = Value.int k (if p then x else y) := by split <;> rfl
theorem m_str (x y : ByteArray) : (if p then Value.string x else Value.string y) = Value.string (if p then x else y) := by split <;> rfl
theorem m_agg (x y : List V) : (if p then V.agg x else V.agg y) = V.agg (if p then x else y) := by split <;> rfl
theorem m_vcons (x y : V) (l m : List V) : (if p then x :: l else y :: m) = (if p then x else y) :: (if p then l else m) := by split <;> rfl
theorem m_same {α : Type} (x : α) : (if p then x else x) = x := by split <;> rfl
theorem m_reg (c : Cx) (id : Nat) (x y : Option St) : regC c id (if p then x else y) = if p then regC c id x else regC c id y := by split <;> rfl
theorem m_regd (c : Cx) (id : Nat) (k : Option Nat) (x y : Option St) : regD c id k (if p then x else y) = if p then regD c id k x else regD c id k y := by split <;> rfl
theorem m_then (c : Cx) (lp : LoopF) (b : Code) (x y : Option (Ex × St)) : thenC c lp b (if p then x else y) = if p then thenC c lp b x else thenC c lp b y := by split <;> rfl
theorem m_block (id : Nat) (x y : Option (Ex × St)) : blockC id (if p then x else y) = if p then blockC id x else blockC id y := by split <;> rfl
theorem m_nrm (x y : Option St) : normC (if p then x else y) = if p then normC x else normC y := by split <;> rfl
theorem m_loop (lp : LoopF) (f : St → Option (Ex × St)) (x y : Option (Ex × St)) : loopC lp f (if p then x else y) = if p then loopC lp f x else loopC lp f y := by split <;> rfl
theorem m_tail (c : Cx) (ops : Array Oper) (l : List Oper) (x y : Option St) : tailC c ops l (if p then x else y) = if p then tailC c ops l x else tailC c ops l y := by split <;> rfl
theorem m_fin (P : Program) (rs : List ResultVar) (b : Nat) (x y : Option (Ex × St)) : fin P rs b (if p then x else y) = if p then fin P rs b x else fin P rs b y := by split <;> rfl
end merge
def gV (b : Bool) (v : V) : V := if b then v else .v undef
theorem gV_t (v : V) : gV true v = v := rfl
theorem gV_f (v : V) : gV false v = .v undef := rfl
def gOp (b : Bool) (s : St) (r : Option (V × St)) : Option (V × St) := if b then r else some (.v undef, s)
theorem gOp_t (s : St) (r : Option (V × St)) : gOp true s r = r := rfl
theorem gOp_f (s : St) (r : Option (V × St)) : gOp false s r = some (.v undef, s) := rfl
theorem gOp_s (b : Bool) (s : St) (v : V) : gOp b s (some (v, s)) = some (gV b v, s) := by cases b <;> rfl
def gH (b : Bool) (r : Option V) : Option V := if b then r else some (.v undef)
theorem gH_t (r : Option V) : gH true r = r := rfl
theorem gH_f (r : Option V) : gH false r = some (.v undef) := rfl
theorem gH_s (b : Bool) (v : V) : gH b (some v) = some (gV b v) := by cases b <;> rfl
theorem w_b (c : Cx) (s : St) (ops : Array Oper) (o : Oper) (l : List Oper) (b : Bool) : wantC c s ops o l (some b) = if isAssign o.op = true then (if b = true then aftC c ops o.dst l (evOp c s o) else none) else aftC c ops o.dst l (gOp b s (evOp c s o)) := by
 cases b
 ·simp only [w_f, Bool.false_eq_true, if_false, gOp_f]
  rfl
 ·simp only [w_t, if_true, gOp_t]
  split <;> rfl
theorem wh_b (c : Cx) (s : St) (ops : Array Oper) (o : Oper) (l : List Oper) (b : Bool) : wantH c s ops o l (some b) = if isAssign o.op = true then (if b = true then aftH c s ops o.dst l (evHead c s o) else none) else aftH c s ops o.dst l (gH b (evHead c s o)) := by
 cases b
 ·simp only [wh_f, Bool.false_eq_true, if_false, gH_f]
  rfl
 ·simp only [wh_t, if_true, gH_t]
  split <;> rfl
def wantV (b : Bool) : V → Option Bool
 | .v (.bool x) => some (x == b)
 | .v (.tuple _) => some false
 | _ => none
theorem want_eq (ops : Array Oper) (g : Env) (o : Oper) : want ops g o = match o.guard with
  | none => some true
  | some (j, b) => match (ops[j]?).bind (·.dst) with
   | some t => wantV b (look g t)
   | none => some false := by
 unfold want
 cases o.guard with
 | none => rfl
 | some p =>
  obtain ⟨j, b⟩ := p
  simp only
  cases (ops[j]?).bind (·.dst) <;> rfl
theorem wv_b (b x : Bool) : wantV b (.v (.bool x)) = some (x == b) := rfl
theorem wv_u (b : Bool) : wantV b (.v undef) = some false := rfl
theorem wv_g (b c x : Bool) : wantV b (gV c (.v (.bool x))) = some (c && (x == b)) := by cases c <;> rfl
def pickC (b : Bool) (x y : V) : V := if b then x else y
theorem pk_t (x y : V) : pickC true x y = x := rfl
theorem pk_f (x y : V) : pickC false x y = y := rfl
theorem pk_or (b x : Bool) : pickC b (.v (.bool true)) (.v (.bool x)) = .v (.bool (b || x)) := by cases b <;> rfl
theorem pk_and (b x : Bool) : pickC b (.v (.bool x)) (.v (.bool false)) = .v (.bool (b && x)) := by cases b <;> rfl
theorem pk_v (b : Bool) (x y : Value) : pickC b (.v x) (.v y) = .v (if b = true then x else y) := by cases b <;> rfl
def pickV : V → V → V → Option V
 | .v (.bool x), p, q => some (pickC x p q)
 | _, _, _ => none
theorem p_pick {P : Program} {vars : List Nat} {s : St} {c a b : Operand} : evPure P vars s (.pick c a b) = pickV (opd s.1 c) (cps (opd s.1 a)) (cps (opd s.1 b)) := by
 show (match opd s.1 c with
  | .v (.bool x) => some (if x then cps (opd s.1 a) else cps (opd s.1 b))
  | _ => none) = _
 cases opd s.1 c with
 | v x => cases x <;> rfl
 | _ => rfl
theorem pv_b (x : Bool) (p q : V) : pickV (.v (.bool x)) p q = some (pickC x p q) := rfl
theorem cps_g (b : Bool) (v : V) : cps (gV b v) = gV b (cps v) := by cases b <;> rfl
section ops
variable (P : Program)
def moveV (vars : List Nat) (t : Nat) : V → Option V
 | .list .yes r => some (.list (if t ∈ vars then .slot t else .no) r)
 | y => some (cps y)
def binV (op : BinOp) (t : TypeId) : V → V → Option V
 | .v a, .v b => (binT P op t a b).map .v
 | .agg cs, .agg ds =>
  match flatOf P t with
  | some ks =>
   match op with
   | .eql => (eqCells ks cs ds).map fun r => .v (.bool r)
   | .neq => (eqCells ks cs ds).map fun r => .v (.bool !r)
   | _ => none
  | none => none
 | _, _ => none
def unV (op : UnOp) : V → Option V
 | .v a => (unS op a).map .v
 | _ => none
def nilCheckV : V → Option V
 | .ptr b o => some (.ptr b o)
 | .rp cs => some (.rp cs)
 | .fn f cs => some (.fn f cs)
 | _ => none
def convV (h : Heap) (a b : TypeId) : V → Option V
 | .v y => convS P a b (.v y)
 | .list _ rows =>
  if isStr P b then
   match P.underlying a with
   | some (.slice e) => if isU8 P e then (bytesOf rows).map fun l => .v (.string ⟨l.toArray⟩) else if isI32 P e then (runesOf rows).map fun l => .v (.string (runesBytes l)) else none
   | _ => none
  else none
 | .buf i o n =>
  if isStr P b then
   match P.underlying a, cellsOfOb h i with
   | some (.slice e), some cs =>
    if isU8 P e && decide (o + n ≤ cs.length) then (bytesOf (((cs.drop o).take n).map fun x => [x])).map fun l => .v (.string ⟨l.toArray⟩) else none
   | _, _ => none
  else none
 | _ => none
def fieldAddrV (t : TypeId) (f : Nat) (x : V) : Option V :=
 match x, fieldOff P t f with
  | .ptr b o, some (k, u) => if 0 < tsize P u then some (.ptr b (o + k)) else none
  | .rp cs, some (k, u) => if 0 < tsize P u ∧ k < cs.length then some (.rp (cs.drop k)) else none
  | _, _ => none
def fieldV (t : TypeId) (f : Nat) (x : V) : Option V :=
 match x, fieldOff P t f with
  | .agg cs, some (k, u) => takeCells P u (cs.drop k)
  | _, _ => none
def indexAddrV (t : TypeId) (x i : V) : Option V :=
 match x, idx i, P.underlying t with
  | .list _ rows, some n, some (.slice e) =>
   if 0 ≤ n then
    match rows[n.toNat]? with
    | some row => if row.length = tsize P e ∧ 0 < tsize P e then some (.rp row) else none
    | none => none
   else none
  | .buf b o m, some n, some (.slice e) => if 0 ≤ n ∧ n < m ∧ tsize P e = 1 then some (.ptr b (o + n.toNat)) else none
  | .stk b m sz, some n, some (.slice e) => if 0 ≤ n ∧ n < m ∧ tsize P e = sz ∧ 0 < sz then some (.ptr b (n.toNat * sz)) else none
  | .ptr b o, some n, some (.array m e) => if 0 ≤ n ∧ n < m ∧ 0 < tsize P e then some (.ptr b (o + n.toNat * tsize P e)) else none
  | .rp cs, some n, some (.array m e) => if 0 ≤ n ∧ n < m ∧ 0 < tsize P e ∧ n.toNat * tsize P e < cs.length then some (.rp (cs.drop (n.toNat * tsize P e))) else none
  | _, _, _ => none
def indexV (t : TypeId) (x i : V) : Option V :=
 match x, idx i, P.underlying t with
  | .v (.string b), some n, some .string =>
   if 0 ≤ n then (b.data[n.toNat]?).map fun c => .v (.int .u8 c.toNat) else none
  | .agg cs, some n, some (.array m e) =>
   if 0 ≤ n ∧ n < m then
    takeCells P e (cs.drop (n.toNat * tsize P e))
   else none
  | _, _, _ => none
def extractV (i : Nat) : V → Option V
 | .tup vs => (vs[i]?).map cps
 | _ => none
def lenV (u : Option TypeDesc) (x : V) : Option V :=
 match (some x : Option V), u with
   | some (.list _ rows), some (.slice _) => some (.v (.int .i64 rows.length))
   | some .nil, some (.slice _) => some (.v (.int .i64 0))
   | some (.buf _ _ n), some (.slice _) => some (.v (.int .i64 n))
   | some (.stk _ n _), some (.slice _) => some (.v (.int .i64 n))
   | some (.v (.string b)), some .string => some (.v (.int .i64 b.size))
   | _, _ => none
variable {P} {vars : List Nat} {s : St}
theorem p_move (t : Nat) : evPure P vars s (.move (.tmp t)) = moveV vars t (look s.1 t) := rfl
theorem p_movec (c : Value) : evPure P vars s (.move (.const c)) = some (ofC c) := rfl
theorem p_moveg (n : Nat) : evPure P vars s (.move (.global n)) = some (opd s.1 (.global n)) := rfl
theorem p_movef (n : Nat) : evPure P vars s (.move (.func n)) = some (.fn n []) := rfl
theorem p_load {t : TypeId} {a : Operand} : evPure P vars s (.load t a) = loadV P s.2 t (opd s.1 a) := rfl
theorem p_bin {op : BinOp} {t u : TypeId} {x y : Operand} : evPure P vars s (.binOp op t x y u) = binV P op t (opd s.1 x) (opd s.1 y) := rfl
theorem p_un {op : UnOp} {t : TypeId} {x : Operand} : evPure P vars s (.unOp op t x) = unV op (opd s.1 x) := rfl
theorem p_nil {x : Operand} : evPure P vars s (.nilCheck x) = nilCheckV (opd s.1 x) := rfl
theorem p_conv {a b : TypeId} {x : Operand} : evPure P vars s (.convert a b x) = convV P s.2 a b (opd s.1 x) := rfl
theorem p_fa {t : TypeId} {x : Operand} {f : Nat} : evPure P vars s (.fieldAddr t x f) = fieldAddrV P t f (opd s.1 x) := rfl
theorem p_fd {t : TypeId} {x : Operand} {f : Nat} : evPure P vars s (.field t x f) = fieldV P t f (opd s.1 x) := rfl
theorem p_ia {t : TypeId} {x i : Operand} : evPure P vars s (.indexAddr t x i) = indexAddrV P t (opd s.1 x) (opd s.1 i) := rfl
theorem p_ix {t : TypeId} {x i : Operand} : evPure P vars s (.index t x i) = indexV P t (opd s.1 x) (opd s.1 i) := rfl
theorem p_ex {x : Operand} {i : Nat} : evPure P vars s (.extract x i) = extractV i (opd s.1 x) := rfl
theorem p_len {x : Operand} {t : TypeId} : evPure P vars s (.call { callee := .builtin .len, args := #[x], argTypes := #[t] }) = lenV (P.underlying t) (opd s.1 x) := rfl
def minV (a b : V) : Option V :=
 match [a, b] with
 | [.v (.int k x), .v (.int k' y)] => if k = k' then some (.v (.int k (if y < x then y else x))) else none
 | _ => none
def maxV (a b : V) : Option V :=
 match [a, b] with
 | [.v (.int k x), .v (.int k' y)] => if k = k' then some (.v (.int k (if y > x then y else x))) else none
 | _ => none
theorem p_min {x y : Operand} {ts : Array TypeId} : evPure P vars s (.call { callee := .builtin .min, args := #[x, y], argTypes := ts }) = minV (opd s.1 x) (opd s.1 y) := rfl
theorem p_max {x y : Operand} {ts : Array TypeId} : evPure P vars s (.call { callee := .builtin .max, args := #[x, y], argTypes := ts }) = maxV (opd s.1 x) (opd s.1 y) := rfl
theorem mn_v (k : IntKind) (x y : Int) : minV (.v (.int k x)) (.v (.int k y)) = some (.v (.int k (if y < x then y else x))) := if_pos rfl
theorem mx_v (k : IntKind) (x y : Int) : maxV (.v (.int k x)) (.v (.int k y)) = some (.v (.int k (if y > x then y else x))) := if_pos rfl
theorem p_build {t : TypeId} {parts : Array (Nat × Operand)} : evPure P vars s (.build t parts) = (match tzero P t with
  | none => none
  | some z =>
   match P.underlying t with
   | some (.struct _) => if structOk P t then
    (buildV (fun i => (fieldOff P t i).map fun p => (p.1, tsize P p.2)) (parts.toList.map fun p => (p.1, opd s.1 p.2)) (z.map ofC1)).map .agg else none
   | some (.array _ e) => if (P.info? e).isSome then
    (buildV (fun i => some (i * tsize P e, tsize P e)) (parts.toList.map fun p => (p.1, opd s.1 p.2)) (z.map ofC1)).map .agg else none
   | _ => none) := rfl
theorem p_slice {t : TypeId} {x : Operand} {lo hi mx : Option Operand} : evPure P vars s (.slice t x lo hi mx) = (match mx, opd s.1 x, P.underlying t with
  | none, .v (.string b), some .string =>
   match bnd s.1 hi b.size with
   | some h => match bnd s.1 lo 0 with
    | some l => if l ≤ h ∧ h ≤ b.size then some (.v (.string (b.extract l h))) else none
    | none => none
   | none => none
  | none, .list _ rows, some (.slice e) =>
   match bnd s.1 hi rows.length with
   | some h => match bnd s.1 lo 0 with
    | some l => if l ≤ h ∧ h ≤ rows.length ∧ 0 < tsize P e ∧ (rows.all fun r => r.length == tsize P e) then some (.list .no ((rows.take h).drop l)) else none
    | none => none
   | none => none
  | none, .stk b n sz, some (.slice e) =>
   match bnd s.1 hi n with
   | some h => match bnd s.1 lo 0 with
    | some l => if l = 0 ∧ h ≤ n ∧ tsize P e = sz ∧ 0 < sz then some (.stk b h sz) else none
    | none => none
   | none => none
  | none, .ptr b o, some (.array n e) =>
   match bnd s.1 hi n with
   | some h => match bnd s.1 lo 0 with
    | some l => if l ≤ h ∧ h ≤ n ∧ l < n ∧ tsize P e = 1 then some (.buf b (o + l) (h - l)) else none
    | none => none
   | none => none
  | _, _, _ => none) := rfl
theorem p_mf {f : Nat} {first caps : Array Operand} : evPure P vars s (.makeFunc (.func f) first caps) = if ((first.toList ++ caps.toList).all fun c => leaf0 (opd s.1 c) && !isU (opd s.1 c)) = true then (if first.size = 0 then some (.fn f (caps.toList.map fun c => cp (opd s.1 c))) else if caps.size = 0 then some (.fn f (.undef :: first.toList.map fun c => cp (opd s.1 c))) else none) else none := rfl
theorem mv_v (t : Nat) (x : Value) : moveV vars t (.v x) = some (.v x) := rfl
theorem mv_y (t : Nat) (r : List (List V)) : moveV vars t (.list .yes r) = some (.list (if t ∈ vars then .slot t else .no) r) := rfl
theorem mv_n (t : Nat) (r : List (List V)) : moveV vars t (.list .no r) = some (.list .no r) := rfl
theorem mv_c (t b o : Nat) (r : List (List V)) : moveV vars t (.list (.cell b o) r) = some (.list .no r) := rfl
theorem mv_s (t u : Nat) (r : List (List V)) : moveV vars t (.list (.slot u) r) = some (.list .no r) := rfl
theorem mv_0 (t : Nat) : moveV vars t .nil = some .nil := rfl
theorem mv_p (t b o : Nat) : moveV vars t (.ptr b o) = some (.ptr b o) := rfl
theorem mv_r (t : Nat) (cs : List V) : moveV vars t (.rp cs) = some (.rp cs) := rfl
theorem mv_b (t b o n : Nat) : moveV vars t (.buf b o n) = some (.buf b o n) := rfl
theorem mv_k (t b n sz : Nat) : moveV vars t (.stk b n sz) = some (.stk b n sz) := rfl
theorem mv_a (t : Nat) (cs : List V) : moveV vars t (.agg cs) = some (.agg (cs.map cp)) := rfl
theorem mv_t (t : Nat) (cs : List V) : moveV vars t (.tup cs) = some (.tup cs) := rfl
theorem mv_f (t f : Nat) (cs : List V) : moveV vars t (.fn f cs) = some (.fn f cs) := rfl
theorem bv_v (op : BinOp) (t : TypeId) (k : IntKind) (a : Int) (b : Value) : binV P op t (.v (.int k a)) (.v b) = (binS op (.int k a) b).map .v := rfl
theorem bv_s (op : BinOp) (t : TypeId) (a : ByteArray) (b : Value) : binV P op t (.v (.string a)) (.v b) = (binS op (.string a) b).map .v := rfl
theorem bv_be (t : TypeId) (a b : Bool) (h : P.underlying t = some .bool) : binV P .eql t (.v (.bool a)) (.v (.bool b)) = some (.v (.bool (a == b))) := by simp only [binV, binT, h]; rfl
theorem bv_bn (t : TypeId) (a b : Bool) (h : P.underlying t = some .bool) : binV P .neq t (.v (.bool a)) (.v (.bool b)) = some (.v (.bool (!(a == b)))) := by simp only [binV, binT, h]; rfl
theorem bv_a (t : TypeId) (a b : List V) : binV P .eql t (.agg a) (.agg b) = match flatOf P t with
  | some ks => (eqCells ks a b).map fun r => .v (.bool r)
  | none => none := rfl
theorem bv_n (t : TypeId) (a b : List V) : binV P .neq t (.agg a) (.agg b) = match flatOf P t with
  | some ks => (eqCells ks a b).map fun r => .v (.bool !r)
  | none => none := rfl
theorem uv_v (op : UnOp) (a : Value) : unV op (.v a) = (unS op a).map .v := rfl
theorem nc_p (b o : Nat) : nilCheckV (.ptr b o) = some (V.ptr b o) := rfl
theorem nc_r (cs : List V) : nilCheckV (.rp cs) = some (.rp cs) := rfl
theorem nc_f (f : Nat) (cs : List V) : nilCheckV (.fn f cs) = some (.fn f cs) := rfl
theorem cv_v (h : Heap) (a b : TypeId) (y : Value) : convV P h a b (.v y) = convS P a b (.v y) := rfl
theorem cv_l (h : Heap) (a b : TypeId) (k : Own) (rows : List (List V)) : convV P h a b (.list k rows) = if isStr P b then
   match P.underlying a with
   | some (.slice e) => if isU8 P e then (bytesOf rows).map fun l => .v (.string ⟨l.toArray⟩) else if isI32 P e then (runesOf rows).map fun l => .v (.string (runesBytes l)) else none
   | _ => none
  else none := rfl
theorem cv_b (h : Heap) (a b : TypeId) (i o n : Nat) : convV P h a b (.buf i o n) = if isStr P b then
   match P.underlying a, cellsOfOb h i with
   | some (.slice e), some cs =>
    if isU8 P e && decide (o + n ≤ cs.length) then (bytesOf (((cs.drop o).take n).map fun x => [x])).map fun l => .v (.string ⟨l.toArray⟩) else none
   | _, _ => none
  else none := rfl
theorem fa_p (t : TypeId) (f b o : Nat) : fieldAddrV P t f (.ptr b o) = match fieldOff P t f with
  | some (k, u) => if 0 < tsize P u then some (V.ptr b (o + k)) else none
  | none => none := by unfold fieldAddrV; cases fieldOff P t f <;> rfl
theorem fa_r (t : TypeId) (f : Nat) (cs : List V) : fieldAddrV P t f (.rp cs) = match fieldOff P t f with
  | some (k, u) => if 0 < tsize P u ∧ k < cs.length then some (V.rp (cs.drop k)) else none
  | none => none := by unfold fieldAddrV; cases fieldOff P t f <;> rfl
theorem fd_a (t : TypeId) (f : Nat) (cs : List V) : fieldV P t f (.agg cs) = match fieldOff P t f with
  | some (k, u) => takeCells P u (cs.drop k)
  | none => none := by unfold fieldV; cases fieldOff P t f <;> rfl
theorem ia_l (t : TypeId) (k : Own) (rows : List (List V)) (kk : IntKind) (n : Int) : indexAddrV P t (.list k rows) (.v (.int kk n)) = match P.underlying t with
  | some (.slice e) => if 0 ≤ n then
    match rows[n.toNat]? with
    | some row => if row.length = tsize P e ∧ 0 < tsize P e then some (V.rp row) else none
    | none => none
   else none
  | _ => none := by
 show (match V.list k rows, some n, P.underlying t with
  | .list _ rows, some n, some (.slice e) =>
   if 0 ≤ n then
    match rows[n.toNat]? with
    | some row => if row.length = tsize P e ∧ 0 < tsize P e then some (V.rp row) else none
    | none => none
   else none
  | .buf b o m, some n, some (.slice e) => if 0 ≤ n ∧ n < m ∧ tsize P e = 1 then some (V.ptr b (o + n.toNat)) else none
  | .stk b m sz, some n, some (.slice e) => if 0 ≤ n ∧ n < m ∧ tsize P e = sz ∧ 0 < sz then some (V.ptr b (n.toNat * sz)) else none
  | .ptr b o, some n, some (.array m e) => if 0 ≤ n ∧ n < m ∧ 0 < tsize P e then some (V.ptr b (o + n.toNat * tsize P e)) else none
  | .rp cs, some n, some (.array m e) => if 0 ≤ n ∧ n < m ∧ 0 < tsize P e ∧ n.toNat * tsize P e < cs.length then some (.rp (cs.drop (n.toNat * tsize P e))) else none
  | _, _, _ => none) = _
 cases P.underlying t with
 | none => rfl
 | some d => cases d <;> rfl
theorem ia_b (t : TypeId) (b o m : Nat) (kk : IntKind) (n : Int) : indexAddrV P t (.buf b o m) (.v (.int kk n)) = match P.underlying t with
  | some (.slice e) => if 0 ≤ n ∧ n < m ∧ tsize P e = 1 then some (V.ptr b (o + n.toNat)) else none
  | _ => none := by
 unfold indexAddrV
 cases P.underlying t with
 | none => rfl
 | some d => cases d <;> rfl
theorem ia_k (t : TypeId) (b m sz : Nat) (kk : IntKind) (n : Int) : indexAddrV P t (.stk b m sz) (.v (.int kk n)) = match P.underlying t with
  | some (.slice e) => if 0 ≤ n ∧ n < m ∧ tsize P e = sz ∧ 0 < sz then some (V.ptr b (n.toNat * sz)) else none
  | _ => none := by
 unfold indexAddrV
 cases P.underlying t with
 | none => rfl
 | some d => cases d <;> rfl
theorem ia_p (t : TypeId) (b o : Nat) (kk : IntKind) (n : Int) : indexAddrV P t (.ptr b o) (.v (.int kk n)) = match P.underlying t with
  | some (.array m e) => if 0 ≤ n ∧ n < m ∧ 0 < tsize P e then some (V.ptr b (o + n.toNat * tsize P e)) else none
  | _ => none := by
 unfold indexAddrV
 cases P.underlying t with
 | none => rfl
 | some d => cases d <;> rfl
theorem ia_r (t : TypeId) (cs : List V) (kk : IntKind) (n : Int) : indexAddrV P t (.rp cs) (.v (.int kk n)) = match P.underlying t with
  | some (.array m e) => if 0 ≤ n ∧ n < m ∧ 0 < tsize P e ∧ n.toNat * tsize P e < cs.length then some (.rp (cs.drop (n.toNat * tsize P e))) else none
  | _ => none := by
 unfold indexAddrV
 cases P.underlying t with
 | none => rfl
 | some d => cases d <;> rfl
theorem ix_s (t : TypeId) (b : ByteArray) (kk : IntKind) (n : Int) (hu : P.underlying t = some .string) : indexV P t (.v (.string b)) (.v (.int kk n)) = if 0 ≤ n then (b.data[n.toNat]?).map fun c => .v (.int .u8 c.toNat) else none := by
 unfold indexV
 rw [hu]
 rfl
theorem ix_a (t : TypeId) (cs : List V) (kk : IntKind) (n : Int) : indexV P t (.agg cs) (.v (.int kk n)) = match P.underlying t with
  | some (.array m e) => if 0 ≤ n ∧ n < m then takeCells P e (cs.drop (n.toNat * tsize P e)) else none
  | _ => none := by
 unfold indexV
 cases P.underlying t with
 | none => rfl
 | some d => cases d <;> rfl
theorem ex_t (i : Nat) (vs : List V) : extractV i (.tup vs) = (vs[i]?).map cps := rfl
theorem ln_l (e : TypeId) (k : Own) (rows : List (List V)) : lenV (some (.slice e)) (.list k rows) = some (.v (.int .i64 rows.length)) := rfl
theorem ln_n (e : TypeId) : lenV (some (.slice e)) .nil = some (.v (.int .i64 0)) := rfl
theorem ln_b (e : TypeId) (b o n : Nat) : lenV (some (.slice e)) (.buf b o n) = some (.v (.int .i64 n)) := rfl
theorem ln_k (e : TypeId) (b n sz : Nat) : lenV (some (.slice e)) (.stk b n sz) = some (.v (.int .i64 n)) := rfl
theorem ln_s (b : ByteArray) : lenV (some .string) (.v (.string b)) = some (.v (.int .i64 b.size)) := rfl
theorem ld_r (h : Heap) (t : TypeId) (cs : List V) : loadV P h t (.rp cs) = takeCells P t cs := rfl
theorem ld_p (h : Heap) (t : TypeId) (b o : Nat) : loadV P h t (.ptr b o) = match cellsOfOb h b with
  | some cs => match ttag P t with
   | some true => takeCells P t (cs.drop o)
   | some false => (cs[o]?).map (tagC b o)
   | none => none
  | none => none := rfl
end ops
def pre (b c : Bool) : Prop := b = true → c = true
theorem pre_refl (b : Bool) : pre b b = True := eq_true fun h => h
theorem pre_and {a x c : Bool} (h : pre a c) : pre (a && x) c = True := eq_true fun g => h (by cases a <;> simp_all)
theorem gv_on {b c : Bool} (h : pre b c) (hb : b = true) (v : V) : gV c v = v := by rw [h hb]; rfl
def noG (_ : List V) : Bool := true
theorem noG_0 : noG [] = true := by unfold noG; rfl
theorem noG_v (x : Value) (l : List V) : noG (.v x :: l) = noG l := by unfold noG; rfl
theorem noG_n (l : List V) : noG (.nil :: l) = noG l := by unfold noG; rfl
theorem noG_l (k : Own) (r : List (List V)) (l : List V) : noG (.list k r :: l) = noG l := by unfold noG; rfl
theorem noG_p (b o : Nat) (l : List V) : noG (.ptr b o :: l) = noG l := by unfold noG; rfl
theorem noG_r (cs : List V) (l : List V) : noG (.rp cs :: l) = noG l := by unfold noG; rfl
theorem noG_b (b o n : Nat) (l : List V) : noG (.buf b o n :: l) = noG l := by unfold noG; rfl
theorem noG_s (b n sz : Nat) (l : List V) : noG (.stk b n sz :: l) = noG l := by unfold noG; rfl
theorem noG_a (cs : List V) (l : List V) : noG (.agg cs :: l) = noG l := by unfold noG; rfl
theorem noG_t (cs : List V) (l : List V) : noG (.tup cs :: l) = noG l := by unfold noG; rfl
theorem noG_f (f : Nat) (cs : List V) (l : List V) : noG (.fn f cs :: l) = noG l := by unfold noG; rfl
theorem noG_k (b : Bool) (x y : V) (l : List V) : noG (pickC b x y :: l) = noG l := by unfold noG; rfl
theorem noG_i (p : Prop) [Decidable p] (x y : V) (l : List V) : noG ((if p then x else y) :: l) = noG l := by unfold noG; rfl
theorem evCall_go (call : CallF) (lo : Nat) (s : St) (f : Operand) (args : List V) (_ : noG args = true) : evCall call lo s f args = match opd s.1 f with
 | .fn f caps => match call lo f (headB caps ++ (args.map fzs ++ tailB caps)) s.2 with
  | some (r, h) => some (r, (untagC s.1, h))
  | none => none
 | _ => none := by unfold evCall; rfl
section strip
variable {b c : Bool} {s : St} {P : Program} (h : pre b c)
include h
theorem st_v (v : V) : gOp b s (some (gV c v, s)) = some (gV b v, s) := by
 cases hb : b with
 | true => rw [gv_on h hb]; rfl
 | false => rfl
theorem st_moveV0 (vars : List Nat) (t : Nat) (x : V) : gOp b s (pureC s (moveV vars t (gV c x))) = gOp b s (pureC s (moveV vars t x)) := by
 cases hb : b with
 | true => rw [gv_on h hb]
 | false => rfl
theorem st_moveV0h (vars : List Nat) (t : Nat) (x : V) : gH b (moveV vars t (gV c x)) = gH b (moveV vars t x) := by
 cases hb : b with
 | true => rw [gv_on h hb]
 | false => rfl
theorem st_binV0 (op : BinOp) (t : TypeId) (x y : V) : gOp b s (pureC s (binV P op t (gV c x) y)) = gOp b s (pureC s (binV P op t x y)) := by
 cases hb : b with
 | true => rw [gv_on h hb]
 | false => rfl
theorem st_binV0h (op : BinOp) (t : TypeId) (x y : V) : gH b (binV P op t (gV c x) y) = gH b (binV P op t x y) := by
 cases hb : b with
 | true => rw [gv_on h hb]
 | false => rfl
theorem st_binV1 (op : BinOp) (t : TypeId) (x y : V) : gOp b s (pureC s (binV P op t x (gV c y))) = gOp b s (pureC s (binV P op t x y)) := by
 cases hb : b with
 | true => rw [gv_on h hb]
 | false => rfl
theorem st_binV1h (op : BinOp) (t : TypeId) (x y : V) : gH b (binV P op t x (gV c y)) = gH b (binV P op t x y) := by
 cases hb : b with
 | true => rw [gv_on h hb]
 | false => rfl
theorem st_unV0 (op : UnOp) (x : V) : gOp b s (pureC s (unV op (gV c x))) = gOp b s (pureC s (unV op x)) := by
 cases hb : b with
 | true => rw [gv_on h hb]
 | false => rfl
theorem st_unV0h (op : UnOp) (x : V) : gH b (unV op (gV c x)) = gH b (unV op x) := by
 cases hb : b with
 | true => rw [gv_on h hb]
 | false => rfl
theorem st_nilCheckV0  (x : V) : gOp b s (pureC s (nilCheckV (gV c x))) = gOp b s (pureC s (nilCheckV x)) := by
 cases hb : b with
 | true => rw [gv_on h hb]
 | false => rfl
theorem st_nilCheckV0h  (x : V) : gH b (nilCheckV (gV c x)) = gH b (nilCheckV x) := by
 cases hb : b with
 | true => rw [gv_on h hb]
 | false => rfl
theorem st_convV0 (hp : Heap) (t u : TypeId) (x : V) : gOp b s (pureC s (convV P hp t u (gV c x))) = gOp b s (pureC s (convV P hp t u x)) := by
 cases hb : b with
 | true => rw [gv_on h hb]
 | false => rfl
theorem st_convV0h (hp : Heap) (t u : TypeId) (x : V) : gH b (convV P hp t u (gV c x)) = gH b (convV P hp t u x) := by
 cases hb : b with
 | true => rw [gv_on h hb]
 | false => rfl
theorem st_fieldAddrV0 (t : TypeId) (f : Nat) (x : V) : gOp b s (pureC s (fieldAddrV P t f (gV c x))) = gOp b s (pureC s (fieldAddrV P t f x)) := by
 cases hb : b with
 | true => rw [gv_on h hb]
 | false => rfl
theorem st_fieldAddrV0h (t : TypeId) (f : Nat) (x : V) : gH b (fieldAddrV P t f (gV c x)) = gH b (fieldAddrV P t f x) := by
 cases hb : b with
 | true => rw [gv_on h hb]
 | false => rfl
theorem st_fieldV0 (t : TypeId) (f : Nat) (x : V) : gOp b s (pureC s (fieldV P t f (gV c x))) = gOp b s (pureC s (fieldV P t f x)) := by
 cases hb : b with
 | true => rw [gv_on h hb]
 | false => rfl
theorem st_fieldV0h (t : TypeId) (f : Nat) (x : V) : gH b (fieldV P t f (gV c x)) = gH b (fieldV P t f x) := by
 cases hb : b with
 | true => rw [gv_on h hb]
 | false => rfl
theorem st_indexAddrV0 (t : TypeId) (x y : V) : gOp b s (pureC s (indexAddrV P t (gV c x) y)) = gOp b s (pureC s (indexAddrV P t x y)) := by
 cases hb : b with
 | true => rw [gv_on h hb]
 | false => rfl
theorem st_indexAddrV0h (t : TypeId) (x y : V) : gH b (indexAddrV P t (gV c x) y) = gH b (indexAddrV P t x y) := by
 cases hb : b with
 | true => rw [gv_on h hb]
 | false => rfl
theorem st_indexAddrV1 (t : TypeId) (x y : V) : gOp b s (pureC s (indexAddrV P t x (gV c y))) = gOp b s (pureC s (indexAddrV P t x y)) := by
 cases hb : b with
 | true => rw [gv_on h hb]
 | false => rfl
theorem st_indexAddrV1h (t : TypeId) (x y : V) : gH b (indexAddrV P t x (gV c y)) = gH b (indexAddrV P t x y) := by
 cases hb : b with
 | true => rw [gv_on h hb]
 | false => rfl
theorem st_indexV0 (t : TypeId) (x y : V) : gOp b s (pureC s (indexV P t (gV c x) y)) = gOp b s (pureC s (indexV P t x y)) := by
 cases hb : b with
 | true => rw [gv_on h hb]
 | false => rfl
theorem st_indexV0h (t : TypeId) (x y : V) : gH b (indexV P t (gV c x) y) = gH b (indexV P t x y) := by
 cases hb : b with
 | true => rw [gv_on h hb]
 | false => rfl
theorem st_indexV1 (t : TypeId) (x y : V) : gOp b s (pureC s (indexV P t x (gV c y))) = gOp b s (pureC s (indexV P t x y)) := by
 cases hb : b with
 | true => rw [gv_on h hb]
 | false => rfl
theorem st_indexV1h (t : TypeId) (x y : V) : gH b (indexV P t x (gV c y)) = gH b (indexV P t x y) := by
 cases hb : b with
 | true => rw [gv_on h hb]
 | false => rfl
theorem st_extractV0 (i : Nat) (x : V) : gOp b s (pureC s (extractV i (gV c x))) = gOp b s (pureC s (extractV i x)) := by
 cases hb : b with
 | true => rw [gv_on h hb]
 | false => rfl
theorem st_extractV0h (i : Nat) (x : V) : gH b (extractV i (gV c x)) = gH b (extractV i x) := by
 cases hb : b with
 | true => rw [gv_on h hb]
 | false => rfl
theorem st_lenV0 (u : Option TypeDesc) (x : V) : gOp b s (pureC s (lenV u (gV c x))) = gOp b s (pureC s (lenV u x)) := by
 cases hb : b with
 | true => rw [gv_on h hb]
 | false => rfl
theorem st_lenV0h (u : Option TypeDesc) (x : V) : gH b (lenV u (gV c x)) = gH b (lenV u x) := by
 cases hb : b with
 | true => rw [gv_on h hb]
 | false => rfl
theorem st_loadV0 (hp : Heap) (t : TypeId) (x : V) : gOp b s (pureC s (loadV P hp t (gV c x))) = gOp b s (pureC s (loadV P hp t x)) := by
 cases hb : b with
 | true => rw [gv_on h hb]
 | false => rfl
theorem st_loadV0h (hp : Heap) (t : TypeId) (x : V) : gH b (loadV P hp t (gV c x)) = gH b (loadV P hp t x) := by
 cases hb : b with
 | true => rw [gv_on h hb]
 | false => rfl
theorem st_pickV0  (x y z : V) : gOp b s (pureC s (pickV (gV c x) y z)) = gOp b s (pureC s (pickV x y z)) := by
 cases hb : b with
 | true => rw [gv_on h hb]
 | false => rfl
theorem st_pickV0h  (x y z : V) : gH b (pickV (gV c x) y z) = gH b (pickV x y z) := by
 cases hb : b with
 | true => rw [gv_on h hb]
 | false => rfl
theorem st_pickV1  (x y z : V) : gOp b s (pureC s (pickV x (gV c y) z)) = gOp b s (pureC s (pickV x y z)) := by
 cases hb : b with
 | true => rw [gv_on h hb]
 | false => rfl
theorem st_pickV1h  (x y z : V) : gH b (pickV x (gV c y) z) = gH b (pickV x y z) := by
 cases hb : b with
 | true => rw [gv_on h hb]
 | false => rfl
theorem st_pickV2  (x y z : V) : gOp b s (pureC s (pickV x y (gV c z))) = gOp b s (pureC s (pickV x y z)) := by
 cases hb : b with
 | true => rw [gv_on h hb]
 | false => rfl
theorem st_pickV2h  (x y z : V) : gH b (pickV x y (gV c z)) = gH b (pickV x y z) := by
 cases hb : b with
 | true => rw [gv_on h hb]
 | false => rfl
theorem st_call0 (call : CallF) (lo : Nat) (s1 : St) (f : Operand) (w : V) (l : List V) : gOp b s (evCall call lo s1 f (gV c w :: l)) = gOp b s (evCall call lo s1 f (w :: l)) := by
 cases hb : b with
 | true => rw [gv_on h hb]
 | false => rfl
theorem st_call1 (call : CallF) (lo : Nat) (s1 : St) (f : Operand) (x w : V) (l : List V) : gOp b s (evCall call lo s1 f (x :: gV c w :: l)) = gOp b s (evCall call lo s1 f (x :: w :: l)) := by
 cases hb : b with
 | true => rw [gv_on h hb]
 | false => rfl
theorem st_call2 (call : CallF) (lo : Nat) (s1 : St) (f : Operand) (x y w : V) (l : List V) : gOp b s (evCall call lo s1 f (x :: y :: gV c w :: l)) = gOp b s (evCall call lo s1 f (x :: y :: w :: l)) := by
 cases hb : b with
 | true => rw [gv_on h hb]
 | false => rfl
theorem st_call3 (call : CallF) (lo : Nat) (s1 : St) (f : Operand) (x y z w : V) (l : List V) : gOp b s (evCall call lo s1 f (x :: y :: z :: gV c w :: l)) = gOp b s (evCall call lo s1 f (x :: y :: z :: w :: l)) := by
 cases hb : b with
 | true => rw [gv_on h hb]
 | false => rfl
theorem st_call4 (call : CallF) (lo : Nat) (s1 : St) (f : Operand) (x y z u w : V) (l : List V) : gOp b s (evCall call lo s1 f (x :: y :: z :: u :: gV c w :: l)) = gOp b s (evCall call lo s1 f (x :: y :: z :: u :: w :: l)) := by
 cases hb : b with
 | true => rw [gv_on h hb]
 | false => rfl
end strip
theorem pl_s {d c : Bool} (h : pre (d == true) c) (v q : V) : pickC d (gV c v) q = pickC d v q := by
 cases d with
 | true => rw [gv_on h (by rfl)]
 | false => rfl
theorem pr_s {d c : Bool} (h : pre (d == false) c) (p v : V) : pickC d p (gV c v) = pickC d p v := by
 cases d with
 | true => rfl
 | false => rw [gv_on h (by rfl)]
theorem plg_s {b d c : Bool} {s : St} (h : pre (b && (d == true)) c) (v q : V) : gOp b s (some (pickC d (gV c v) q, s)) = gOp b s (some (pickC d v q, s)) := by
 cases hb : b with
 | false => rfl
 | true =>
  cases hd : d with
  | false => rfl
  | true => rw [gv_on h (by simp [hb, hd])]
theorem prg_s {b d c : Bool} {s : St} (h : pre (b && (d == false)) c) (p v : V) : gOp b s (some (pickC d p (gV c v), s)) = gOp b s (some (pickC d p v, s)) := by
 cases hb : b with
 | false => rfl
 | true =>
  cases hd : d with
  | true => rfl
  | false => rw [gv_on h (by simp [hb, hd])]
theorem plh_s {b d c : Bool} (h : pre (b && (d == true)) c) (v q : V) : gH b (some (pickC d (gV c v) q)) = gH b (some (pickC d v q)) := by
 cases hb : b with
 | false => rfl
 | true =>
  cases hd : d with
  | false => rfl
  | true => rw [gv_on h (by simp [hb, hd])]
theorem prh_s {b d c : Bool} (h : pre (b && (d == false)) c) (p v : V) : gH b (some (pickC d p (gV c v))) = gH b (some (pickC d p v)) := by
 cases hb : b with
 | false => rfl
 | true =>
  cases hd : d with
  | true => rfl
  | false => rw [gv_on h (by simp [hb, hd])]
theorem cp_v (x : Value) : cp (.v x) = .v x := rfl
theorem cp_0  : cp (.nil) = .nil := rfl
theorem cp_no (r : List (List V)) : cp (.list .no r) = .list .no r := rfl
theorem cp_y (r : List (List V)) : cp (.list .yes r) = .list .no r := rfl
theorem cp_c (b o : Nat) (r : List (List V)) : cp (.list (.cell b o) r) = .list .no r := rfl
theorem cp_s (u : Nat) (r : List (List V)) : cp (.list (.slot u) r) = .list .no r := rfl
theorem cp_p (b o : Nat) : cp (.ptr b o) = .ptr b o := rfl
theorem cp_r (cs : List V) : cp (.rp cs) = .rp cs := rfl
theorem cp_b (b o n : Nat) : cp (.buf b o n) = .buf b o n := rfl
theorem cp_k (b n sz : Nat) : cp (.stk b n sz) = .stk b n sz := rfl
theorem cp_a (cs : List V) : cp (.agg cs) = .agg cs := rfl
theorem cp_t (vs : List V) : cp (.tup vs) = .tup vs := rfl
theorem cp_f (f : Nat) (cs : List V) : cp (.fn f cs) = .fn f cs := rfl
theorem cps_v (x : Value) : cps (.v x) = .v x := rfl
theorem cps_0  : cps (.nil) = .nil := rfl
theorem cps_no (r : List (List V)) : cps (.list .no r) = .list .no r := rfl
theorem cps_y (r : List (List V)) : cps (.list .yes r) = .list .no r := rfl
theorem cps_c (b o : Nat) (r : List (List V)) : cps (.list (.cell b o) r) = .list .no r := rfl
theorem cps_s (u : Nat) (r : List (List V)) : cps (.list (.slot u) r) = .list .no r := rfl
theorem cps_p (b o : Nat) : cps (.ptr b o) = .ptr b o := rfl
theorem cps_r (cs : List V) : cps (.rp cs) = .rp cs := rfl
theorem cps_b (b o n : Nat) : cps (.buf b o n) = .buf b o n := rfl
theorem cps_k (b n sz : Nat) : cps (.stk b n sz) = .stk b n sz := rfl
theorem cps_a (cs : List V) : cps (.agg cs) = .agg (cs.map cp) := rfl
theorem cps_t (vs : List V) : cps (.tup vs) = .tup vs := rfl
theorem cps_f (f : Nat) (cs : List V) : cps (.fn f cs) = .fn f cs := rfl
theorem own1_v (x : Value) : own1 (.v x) = .v x := rfl
theorem own1_0  : own1 (.nil) = .list .yes [] := rfl
theorem own1_no (r : List (List V)) : own1 (.list .no r) = .list .no r := rfl
theorem own1_y (r : List (List V)) : own1 (.list .yes r) = .list .yes r := rfl
theorem own1_c (b o : Nat) (r : List (List V)) : own1 (.list (.cell b o) r) = .list (.cell b o) r := rfl
theorem own1_s (u : Nat) (r : List (List V)) : own1 (.list (.slot u) r) = .list (.slot u) r := rfl
theorem own1_p (b o : Nat) : own1 (.ptr b o) = .ptr b o := rfl
theorem own1_r (cs : List V) : own1 (.rp cs) = .rp cs := rfl
theorem own1_b (b o n : Nat) : own1 (.buf b o n) = .buf b o n := rfl
theorem own1_k (b n sz : Nat) : own1 (.stk b n sz) = .stk b n sz := rfl
theorem own1_a (cs : List V) : own1 (.agg cs) = .agg cs := rfl
theorem own1_t (vs : List V) : own1 (.tup vs) = .tup vs := rfl
theorem own1_f (f : Nat) (cs : List V) : own1 (.fn f cs) = .fn f cs := rfl
theorem own1s_v (x : Value) : own1s (.v x) = .v x := rfl
theorem own1s_0  : own1s (.nil) = .list .yes [] := rfl
theorem own1s_no (r : List (List V)) : own1s (.list .no r) = .list .no r := rfl
theorem own1s_y (r : List (List V)) : own1s (.list .yes r) = .list .yes r := rfl
theorem own1s_c (b o : Nat) (r : List (List V)) : own1s (.list (.cell b o) r) = .list (.cell b o) r := rfl
theorem own1s_s (u : Nat) (r : List (List V)) : own1s (.list (.slot u) r) = .list (.slot u) r := rfl
theorem own1s_p (b o : Nat) : own1s (.ptr b o) = .ptr b o := rfl
theorem own1s_r (cs : List V) : own1s (.rp cs) = .rp cs := rfl
theorem own1s_b (b o n : Nat) : own1s (.buf b o n) = .buf b o n := rfl
theorem own1s_k (b n sz : Nat) : own1s (.stk b n sz) = .stk b n sz := rfl
theorem own1s_a (cs : List V) : own1s (.agg cs) = .agg (cs.map own1) := rfl
theorem own1s_t (vs : List V) : own1s (.tup vs) = .tup vs := rfl
theorem own1s_f (f : Nat) (cs : List V) : own1s (.fn f cs) = .fn f cs := rfl
theorem fz_v (x : Value) : fz (.v x) = .v x := rfl
theorem fz_0  : fz (.nil) = .list .no [] := rfl
theorem fz_no (r : List (List V)) : fz (.list .no r) = .list .no r := rfl
theorem fz_y (r : List (List V)) : fz (.list .yes r) = .list .no r := rfl
theorem fz_c (b o : Nat) (r : List (List V)) : fz (.list (.cell b o) r) = .list .no r := rfl
theorem fz_s (u : Nat) (r : List (List V)) : fz (.list (.slot u) r) = .list .no r := rfl
theorem fz_p (b o : Nat) : fz (.ptr b o) = .ptr b o := rfl
theorem fz_r (cs : List V) : fz (.rp cs) = .rp cs := rfl
theorem fz_b (b o n : Nat) : fz (.buf b o n) = .buf b o n := rfl
theorem fz_k (b n sz : Nat) : fz (.stk b n sz) = .stk b n sz := rfl
theorem fz_a (cs : List V) : fz (.agg cs) = .agg cs := rfl
theorem fz_t (vs : List V) : fz (.tup vs) = .tup vs := rfl
theorem fz_f (f : Nat) (cs : List V) : fz (.fn f cs) = .fn f cs := rfl
theorem fzs_v (x : Value) : fzs (.v x) = .v x := rfl
theorem fzs_0  : fzs (.nil) = .list .no [] := rfl
theorem fzs_no (r : List (List V)) : fzs (.list .no r) = .list .no r := rfl
theorem fzs_y (r : List (List V)) : fzs (.list .yes r) = .list .no r := rfl
theorem fzs_c (b o : Nat) (r : List (List V)) : fzs (.list (.cell b o) r) = .list .no r := rfl
theorem fzs_s (u : Nat) (r : List (List V)) : fzs (.list (.slot u) r) = .list .no r := rfl
theorem fzs_p (b o : Nat) : fzs (.ptr b o) = .ptr b o := rfl
theorem fzs_r (cs : List V) : fzs (.rp cs) = .rp cs := rfl
theorem fzs_b (b o n : Nat) : fzs (.buf b o n) = .buf b o n := rfl
theorem fzs_k (b n sz : Nat) : fzs (.stk b n sz) = .stk b n sz := rfl
theorem fzs_a (cs : List V) : fzs (.agg cs) = .agg (cs.map fz) := rfl
theorem fzs_t (vs : List V) : fzs (.tup vs) = .tup vs := rfl
theorem fzs_f (f : Nat) (cs : List V) : fzs (.fn f cs) = .fn f cs := rfl
theorem untag1_v (x : Value) : untag1 (.v x) = .v x := rfl
theorem untag1_0  : untag1 (.nil) = .nil := rfl
theorem untag1_no (r : List (List V)) : untag1 (.list .no r) = .list .no r := rfl
theorem untag1_y (r : List (List V)) : untag1 (.list .yes r) = .list .yes r := rfl
theorem untag1_c (b o : Nat) (r : List (List V)) : untag1 (.list (.cell b o) r) = .list .no r := rfl
theorem untag1_s (u : Nat) (r : List (List V)) : untag1 (.list (.slot u) r) = .list .no r := rfl
theorem untag1_p (b o : Nat) : untag1 (.ptr b o) = .ptr b o := rfl
theorem untag1_r (cs : List V) : untag1 (.rp cs) = .rp cs := rfl
theorem untag1_b (b o n : Nat) : untag1 (.buf b o n) = .buf b o n := rfl
theorem untag1_k (b n sz : Nat) : untag1 (.stk b n sz) = .stk b n sz := rfl
theorem untag1_a (cs : List V) : untag1 (.agg cs) = .agg cs := rfl
theorem untag1_t (vs : List V) : untag1 (.tup vs) = .tup vs := rfl
theorem untag1_f (f : Nat) (cs : List V) : untag1 (.fn f cs) = .fn f cs := rfl
theorem untagC1_v (x : Value) : untagC1 (.v x) = .v x := rfl
theorem untagC1_0  : untagC1 (.nil) = .nil := rfl
theorem untagC1_no (r : List (List V)) : untagC1 (.list .no r) = .list .no r := rfl
theorem untagC1_y (r : List (List V)) : untagC1 (.list .yes r) = .list .yes r := rfl
theorem untagC1_c (b o : Nat) (r : List (List V)) : untagC1 (.list (.cell b o) r) = .list .no r := rfl
theorem untagC1_s (u : Nat) (r : List (List V)) : untagC1 (.list (.slot u) r) = .list (.slot u) r := rfl
theorem untagC1_p (b o : Nat) : untagC1 (.ptr b o) = .ptr b o := rfl
theorem untagC1_r (cs : List V) : untagC1 (.rp cs) = .rp cs := rfl
theorem untagC1_b (b o n : Nat) : untagC1 (.buf b o n) = .buf b o n := rfl
theorem untagC1_k (b n sz : Nat) : untagC1 (.stk b n sz) = .stk b n sz := rfl
theorem untagC1_a (cs : List V) : untagC1 (.agg cs) = .agg cs := rfl
theorem untagC1_t (vs : List V) : untagC1 (.tup vs) = .tup vs := rfl
theorem untagC1_f (f : Nat) (cs : List V) : untagC1 (.fn f cs) = .fn f cs := rfl
theorem untagC1_g (b : Bool) (v : V) : untagC1 (gV b v) = gV b (untagC1 v) := by cases b <;> rfl
theorem untag1_g (b : Bool) (v : V) : untag1 (gV b v) = gV b (untag1 v) := by cases b <;> rfl
theorem fz_g (b : Bool) (v : V) : fz (gV b v) = gV b (fz v) := by cases b <;> rfl
theorem fzs_g (b : Bool) (v : V) : fzs (gV b v) = gV b (fzs v) := by cases b <;> rfl
theorem cp_g (b : Bool) (v : V) : cp (gV b v) = gV b (cp v) := by cases b <;> rfl
theorem look_in (t u : Nat) (x : V) : ∀ g : Env, look (ins t x g) u = if t = u then x else look g u
 | [] => by simp only [ins, look]
 | (k, y) :: g => by
  simp only [ins]
  split
  ·rfl
  ·split
   ·rename_i _ h
    subst h
    simp only [look]
    split <;> rfl
   ·rename_i _ h
    simp only [look, look_in t u x g]
    split
    ·rename_i h2
     subst h2
     rw [if_neg h]
    ·rfl
theorem untag_ins (t : Nat) (x : V) : ∀ g : Env, untag (ins t x g) = ins t (untag1 x) (untag g)
 | [] => rfl
 | (k, y) :: g => by
  simp only [ins]
  split
  ·rename_i h; simp only [untag, List.map_cons, ins, if_pos h]
  ·rename_i h1
   split
   ·rename_i h; simp only [untag, List.map_cons, ins, if_neg h1, if_pos h]
   ·rename_i h
    have := untag_ins t x g
    unfold untag at this ⊢
    simp only [List.map_cons, ins, if_neg h1, if_neg h, this]
theorem untag_nil : untag [] = [] := rfl
theorem untag_cons (k : Nat) (x : V) (g : Env) : untag ((k, x) :: g) = (k, untag1 x) :: untag g := rfl
theorem cps_pk (b : Bool) (x y : V) : cps (pickC b x y) = pickC b (cps x) (cps y) := by cases b <;> rfl
theorem untagC_ins (t : Nat) (x : V) : ∀ g : Env, untagC (ins t x g) = ins t (untagC1 x) (untagC g)
 | [] => rfl
 | (k, y) :: g => by
  simp only [ins]
  split
  ·rename_i h; simp only [untagC, List.map_cons, ins, if_pos h]
  ·rename_i h1
   split
   ·rename_i h; simp only [untagC, List.map_cons, ins, if_neg h1, if_pos h]
   ·rename_i h
    have := untagC_ins t x g
    unfold untagC at this ⊢
    simp only [List.map_cons, ins, if_neg h1, if_neg h, this]
theorem untagC_nil : untagC [] = [] := rfl
theorem untagC_cons (k : Nat) (x : V) (g : Env) : untagC ((k, x) :: g) = (k, untagC1 x) :: untagC g := rfl
theorem untagC1_pk (b : Bool) (x y : V) : untagC1 (pickC b x y) = pickC b (untagC1 x) (untagC1 y) := by cases b <;> rfl
theorem untag1_pk (b : Bool) (x y : V) : untag1 (pickC b x y) = pickC b (untag1 x) (untag1 y) := by cases b <;> rfl
theorem kilE_nil (i : Nat) : kilE i [] = [] := rfl
theorem kilE_cons (i k : Nat) (x : V) (g : Env) : kilE i ((k, x) :: g) = (k, kil i x) :: kilE i g := rfl
theorem kilE_ins (i t : Nat) (x : V) : ∀ g : Env, kilE i (ins t x g) = ins t (kil i x) (kilE i g)
 | [] => rfl
 | (k, y) :: g => by
  simp only [ins]
  split
  ·rename_i h; simp only [kilE, List.map_cons, ins, if_pos h]
  ·rename_i h1
   split
   ·rename_i h; simp only [kilE, List.map_cons, ins, if_neg h1, if_pos h]
   ·rename_i h
    have := kilE_ins i t x g
    unfold kilE at this ⊢
    simp only [List.map_cons, ins, if_neg h1, if_neg h, this]
theorem hp_drop0 (h l : List Ob) : (h ++ l).drop h.length = l := List.drop_left
theorem hp_dropN (h : List Ob) : h.drop h.length = [] := List.drop_length
theorem kil_v (i : Nat) (x : Value) : kil i (.v x) = .v x := rfl
theorem kil_0 (i : Nat) : kil i .nil = .nil := rfl
theorem kil_l (i : Nat) (k : Own) (r : List (List V)) : kil i (.list k r) = .list k r := rfl
theorem kil_r (i : Nat) (cs : List V) : kil i (.rp cs) = .rp cs := rfl
theorem kil_u (i : Nat) : kil i .undef = .undef := rfl
theorem kil_p (i b o : Nat) : kil i (.ptr b o) = if decide (b ≠ i) = true then .ptr b o else .undef := rfl
theorem kil_b (i b o n : Nat) : kil i (.buf b o n) = if decide (b ≠ i) = true then .buf b o n else .undef := rfl
theorem kil_k (i b n sz : Nat) : kil i (.stk b n sz) = if decide (b ≠ i) = true then .stk b n sz else .undef := rfl
theorem kil_a (i : Nat) (cs : List V) : kil i (.agg cs) = if cs.all (avf i) = true then .agg cs else .undef := rfl
theorem kil_f (i f : Nat) (cs : List V) : kil i (.fn f cs) = if cs.all (avc i) = true then .fn f cs else .undef := rfl
theorem kil_t (i : Nat) (cs : List V) : kil i (.tup cs) = if cs.all (avv i) = true then .tup cs else .undef := rfl
theorem kil_g (i : Nat) (b : Bool) (v : V) : kil i (gV b v) = gV b (kil i v) := by cases b <;> rfl
theorem rg0 : List.range 0 = [] := rfl
theorem rg1 : List.range 1 = [0] := rfl
theorem rg2 : List.range 2 = [0, 1] := rfl
theorem rg3 : List.range 3 = [0, 1, 2] := rfl
theorem rg4 : List.range 4 = [0, 1, 2, 3] := rfl
theorem rg5 : List.range 5 = [0, 1, 2, 3, 4] := rfl
theorem rg6 : List.range 6 = [0, 1, 2, 3, 4, 5] := rfl
theorem rg7 : List.range 7 = [0, 1, 2, 3, 4, 5, 6] := rfl
theorem rg8 : List.range 8 = [0, 1, 2, 3, 4, 5, 6, 7] := rfl
attribute [go_sem] List.mem_cons or_false false_or true_or or_true eq_self List.all_append rg0 rg1 rg2 rg3 rg4 rg5 rg6 rg7 rg8 Int.reduceLE Int.reduceLT Int.reduceToNat Int.reducePow Nat.reduceLeDiff Nat.reduceMul true_and and_true Option.isSome_some IntKind.bits List.all_nil Value.oneCell'
attribute [go_sem] look_in untag_ins untag_nil untag_cons cps_pk untag1_pk untagC_ins untagC_nil untagC_cons untagC1_pk untagC1_v untagC1_0 untagC1_no untagC1_y untagC1_c untagC1_s untagC1_p untagC1_r untagC1_b untagC1_a untagC1_t untagC1_f untagC1_g decide_true decide_false
attribute [go_sem high] st_v plg_s prg_s plh_s prh_s pk_or pk_and
attribute [go_sem low] pk_v gOp_s gH_s w_b wh_b
attribute [go_sem] cp_v cp_0 cp_no cp_y cp_c cp_s cp_p cp_r cp_b cp_a cp_t cp_f cps_v cps_0 cps_no cps_y cps_c cps_s cps_p cps_r cps_b cps_a cps_t cps_f own1_v own1_0 own1_no own1_y own1_c own1_s own1_p own1_r own1_b own1_a own1_t own1_f own1s_v own1s_0 own1s_no own1s_y own1s_c own1s_s own1s_p own1s_r own1s_b own1s_a own1s_t own1s_f fz_v fz_0 fz_no fz_y fz_c fz_s fz_p fz_r fz_b fz_a fz_t fz_f fzs_v fzs_0 fzs_no fzs_y fzs_c fzs_s fzs_p fzs_r fzs_b fzs_a fzs_t fzs_f untag1_v untag1_0 untag1_no untag1_y untag1_c untag1_s untag1_p untag1_r untag1_b untag1_a untag1_t untag1_f untag1_g fz_g fzs_g cp_g
attribute [go_sem] headB tailB isU isRow freezeV List.isEmpty_cons nw_t nw_f isNew sh_s ia_k ln_k mv_k noG_s cp_k cps_k own1_k own1s_k fz_k fzs_k untag1_k untagC1_k kilE_nil kilE_cons kilE_ins hp_drop0 hp_dropN kil_v kil_0 kil_l kil_r kil_u kil_p kil_b kil_k kil_a kil_f kil_t kil_g avc avf avv kilf kilO kilH keepC pure2 pure3 stkC evNew appNew finR evResR evResultsR okO Nat.add_zero List.drop_nil List.flatten_cons List.flatten_nil
attribute [go_sem] once_f once_0 once_n once_s regd_s regd_0 m_regd
attribute [go_sem] m_norm m_ret m_st m_pair m_cons m_v m_list m_bool m_int m_str m_agg m_vcons m_same m_reg m_then m_block m_nrm m_loop m_tail m_fin gV_t gV_f gOp_t gOp_f gH_t gH_f wv_b wv_u wv_g pk_t pk_f pv_b cps_g cond_b want_eq p_move p_movec p_moveg p_movef p_load p_bin p_un p_nil p_conv p_fa p_fd p_ia p_ix p_ex p_len p_min p_max mn_v mx_v p_build p_slice p_mf p_pick mv_v mv_y mv_n mv_c mv_s mv_0 mv_p mv_r mv_b mv_a mv_t mv_f bv_v bv_s bv_be bv_bn bv_a bv_n uv_v nc_p nc_r nc_f cv_v cv_l cv_b fa_p fa_r fd_a ia_l ia_b ia_p ia_r ix_s ix_a ex_t ln_l ln_n ln_b ln_s ld_r ld_p pre_refl pre_and st_moveV0 st_moveV0h st_binV0 st_binV0h st_binV1 st_binV1h st_unV0 st_unV0h st_nilCheckV0 st_nilCheckV0h st_convV0 st_convV0h st_fieldAddrV0 st_fieldAddrV0h st_fieldV0 st_fieldV0h st_indexAddrV0 st_indexAddrV0h st_indexAddrV1 st_indexAddrV1h st_indexV0 st_indexV0h st_indexV1 st_indexV1h st_extractV0 st_extractV0h st_lenV0 st_lenV0h st_loadV0 st_loadV0h st_pickV0 st_pickV0h st_pickV1 st_pickV1h st_pickV2 st_pickV2h st_call0 st_call1 st_call2 st_call3 st_call4 pl_s pr_s convS Bool.and_self Bool.or_true Bool.true_or Bool.or_false Bool.false_or Bool.and_false Bool.false_and Bool.true_beq Bool.false_beq c_skip c_region c_seq c_cond c_block c_loop c_exit c_scope c_label c_ret then_n then_e then_r then_0 cond_t cond_f block_n block_e block_r block_0 norm_s norm_0 loop_n loop_e loop_r
 r_line ln_none ln_some ad_s evAdopt notYes r_draw tr_n tr_s t_fin t_finS t_finL kp_s swc_s sws_n sws_c kn_n kn_s keep1 sinkS sw_a sw_b sw_c sw_d sw_00 sw_01 sw_02 sw_03 sw_10 sw_11 sw_12 sw_20 sw_21 sw_22 sw_23 swE_n swE_c swr_p swr_v swr_l swr_u swr_n swr_r swr_b swr_s swf_p swf_v swf_l swf_n swO_c swL_0 swL_1 swL_2 sws_eq t_head t_one t_alt nx_s nx_0 same_eq js_s je_n je_s je_t je_f sx_eq cond_any la_t lm_t lm_n lm_m la_r la_0 la_s lh_s t_two two_s evTwo evLate1 evMid sp_eq so_s sp_h sp_o sp_k tb_f tk_s List.contains_cons List.contains_nil tail_s reg_s reg_0 o_nil o_cons w_t w_f a_s a_0 pure_s pure_0 op_eq op_t op_f h_nil h_cons wh_t wh_f ah_s hd_eq hd_f hd_t
 b_add b_sub b_mul b_quo b_rem b_and b_or b_xor b_eql b_neq b_lss b_leq b_gtr b_geq b_shl b_shr b_sadd b_seql b_sneq b_slss b_sleq b_sgtr b_sgeq u_neg u_not
 keptO isEff opd look put lives isAssign evEff takeO ofC ofC1 tailAt idx bnd takeCells tagC cellsV partOk stoOk okc okv okr buildV fzr
 owner appRows notInt pure1 evCall_go noG_0 noG_v noG_n noG_l noG_p noG_r noG_b noG_a noG_t noG_f noG_k noG_i fin evRes evResults resV args0 setOb cellsOfOb bare leaf0 loops loopAt bodyOf List.zipIdx Option.getD_some List.nil_append List.append_nil List.cons_append ri_len ri_get ri_all ri_runes ri_bytes hl_app hl_cons hl_nil hp_take hp_take0 hp_tcons hp_at hp_atk hp_set hp_setk List.set_cons_zero List.set_cons_succ List.take_length List.take_left List.append_assoc n0 bne_self_eq_false beq_self_eq_true Bool.not_true Bool.not_false
attribute [go_sem] Nat.reduceEqDiff Nat.reduceLT Nat.reduceAdd Nat.lt_irrefl reduceIte if_true if_false Option.some.injEq Nat.not_lt_zero Nat.reduceBEq
attribute [go_sem] Option.map_some Option.map_none Option.bind_some List.map_cons List.map_nil List.take_succ_cons List.take_zero List.drop_succ_cons List.drop_zero List.take_nil List.drop_nil List.getElem?_cons_zero List.getElem?_cons_succ
 List.getElem?_toArray List.length_cons List.length_nil Int.toNat_natCast Bool.false_eq_true List.not_mem_nil List.size_toArray and_self List.all_cons List.all_nil Bool.and_true Bool.true_and Int.natCast_nonneg
@[go_sem] theorem byteRow_i32 (l : List Int) : isByteRow (ri .i32 l) = false := by cases l <;> rfl
@[go_sem] theorem ibr_c (r : List V) (l : List (List V)) : isByteRow (r :: l) = isByteV r := rfl
@[go_sem] theorem ibr_n : isByteRow [] = false := rfl
attribute [go_sem] bldT bldS isBld isNilP byT isByteV List.any_cons List.any_nil
end Go.Lift
end

section
namespace Go.Lift
theorem hp_dropK (h l : List Ob) (k : Nat) : (h ++ l).drop (h.length + k) = l.drop k := by
 rw [List.drop_append, List.drop_of_length_le (by omega), List.nil_append, Nat.add_sub_cancel_left]
theorem hp_ltA (h : List Ob) (a b c : Nat) : decide (h.length + a < h.length + b + c) = decide (a < b + c) := by
 rw [decide_eq_decide]; omega
theorem hp_ltB (h : List Ob) (b c : Nat) : decide (h.length < h.length + b + c) = decide (0 < b + c) := by
 rw [decide_eq_decide]; omega
theorem hp_takeB (h l : List Ob) (a b : Nat) : (h ++ l).take (h.length + a + b) = h ++ l.take (a + b) := by rw [Nat.add_assoc]; exact hp_take h l (a + b)
theorem untag1_ud : untag1 .undef = .undef := rfl
theorem untag1_an : untag1 .any = .any := rfl
theorem untagC1_ud : untagC1 .undef = .undef := rfl
theorem untagC1_an : untagC1 .any = .any := rfl
attribute [go_sem] untag1_an untagC1_ud untagC1_an
theorem bn20 : ((2 : Nat) != 0) = true := rfl
theorem bn10 : ((1 : Nat) != 0) = true := rfl
theorem bn00 : ((0 : Nat) != 0) = false := rfl
attribute [go_sem] bn20 bn10 bn00
theorem sw_0_4 : sw 0 4 = 4 := rfl
theorem sw_0_5 : sw 0 5 = 5 := rfl
theorem sw_0_6 : sw 0 6 = 6 := rfl
theorem sw_0_7 : sw 0 7 = 7 := rfl
theorem sw_0_8 : sw 0 8 = 8 := rfl
theorem sw_0_9 : sw 0 9 = 9 := rfl
theorem sw_1_3 : sw 1 3 = 3 := rfl
theorem sw_1_4 : sw 1 4 = 4 := rfl
theorem sw_1_5 : sw 1 5 = 5 := rfl
theorem sw_1_6 : sw 1 6 = 6 := rfl
theorem sw_1_7 : sw 1 7 = 7 := rfl
theorem sw_1_8 : sw 1 8 = 8 := rfl
theorem sw_1_9 : sw 1 9 = 9 := rfl
theorem sw_2_4 : sw 2 4 = 4 := rfl
theorem sw_2_5 : sw 2 5 = 5 := rfl
theorem sw_2_6 : sw 2 6 = 6 := rfl
theorem sw_2_7 : sw 2 7 = 7 := rfl
theorem sw_2_8 : sw 2 8 = 8 := rfl
theorem sw_2_9 : sw 2 9 = 9 := rfl
theorem sw_3_0 : sw 3 0 = 0 := rfl
theorem sw_3_1 : sw 3 1 = 1 := rfl
theorem sw_3_2 : sw 3 2 = 2 := rfl
theorem sw_3_3 : sw 3 3 = 4 := rfl
theorem sw_3_4 : sw 3 4 = 3 := rfl
theorem sw_3_5 : sw 3 5 = 5 := rfl
theorem sw_3_6 : sw 3 6 = 6 := rfl
theorem sw_3_7 : sw 3 7 = 7 := rfl
theorem sw_3_8 : sw 3 8 = 8 := rfl
theorem sw_3_9 : sw 3 9 = 9 := rfl
theorem sw_4_0 : sw 4 0 = 0 := rfl
theorem sw_4_1 : sw 4 1 = 1 := rfl
theorem sw_4_2 : sw 4 2 = 2 := rfl
theorem sw_4_3 : sw 4 3 = 3 := rfl
theorem sw_4_4 : sw 4 4 = 5 := rfl
theorem sw_4_5 : sw 4 5 = 4 := rfl
theorem sw_4_6 : sw 4 6 = 6 := rfl
theorem sw_4_7 : sw 4 7 = 7 := rfl
theorem sw_4_8 : sw 4 8 = 8 := rfl
theorem sw_4_9 : sw 4 9 = 9 := rfl
theorem sw_5_0 : sw 5 0 = 0 := rfl
theorem sw_5_1 : sw 5 1 = 1 := rfl
theorem sw_5_2 : sw 5 2 = 2 := rfl
theorem sw_5_3 : sw 5 3 = 3 := rfl
theorem sw_5_4 : sw 5 4 = 4 := rfl
theorem sw_5_5 : sw 5 5 = 6 := rfl
theorem sw_5_6 : sw 5 6 = 5 := rfl
theorem sw_5_7 : sw 5 7 = 7 := rfl
theorem sw_5_8 : sw 5 8 = 8 := rfl
theorem sw_5_9 : sw 5 9 = 9 := rfl
theorem sw_6_0 : sw 6 0 = 0 := rfl
theorem sw_6_1 : sw 6 1 = 1 := rfl
theorem sw_6_2 : sw 6 2 = 2 := rfl
theorem sw_6_3 : sw 6 3 = 3 := rfl
theorem sw_6_4 : sw 6 4 = 4 := rfl
theorem sw_6_5 : sw 6 5 = 5 := rfl
theorem sw_6_6 : sw 6 6 = 7 := rfl
theorem sw_6_7 : sw 6 7 = 6 := rfl
theorem sw_6_8 : sw 6 8 = 8 := rfl
theorem sw_6_9 : sw 6 9 = 9 := rfl
theorem sw_7_0 : sw 7 0 = 0 := rfl
theorem sw_7_1 : sw 7 1 = 1 := rfl
theorem sw_7_2 : sw 7 2 = 2 := rfl
theorem sw_7_3 : sw 7 3 = 3 := rfl
theorem sw_7_4 : sw 7 4 = 4 := rfl
theorem sw_7_5 : sw 7 5 = 5 := rfl
theorem sw_7_6 : sw 7 6 = 6 := rfl
theorem sw_7_7 : sw 7 7 = 8 := rfl
theorem sw_7_8 : sw 7 8 = 7 := rfl
theorem sw_7_9 : sw 7 9 = 9 := rfl
theorem swL_3 {α : Type} (a b c x y : α) (l : List α) : swL 3 (a :: b :: c :: x :: y :: l) = a :: b :: c :: y :: x :: l := rfl
theorem swL_4 {α : Type} (a b c d x y : α) (l : List α) : swL 4 (a :: b :: c :: d :: x :: y :: l) = a :: b :: c :: d :: y :: x :: l := rfl
theorem swL_5 {α : Type} (a b c d e x y : α) (l : List α) : swL 5 (a :: b :: c :: d :: e :: x :: y :: l) = a :: b :: c :: d :: e :: y :: x :: l := rfl
theorem swL_6 {α : Type} (a b c d e f x y : α) (l : List α) : swL 6 (a :: b :: c :: d :: e :: f :: x :: y :: l) = a :: b :: c :: d :: e :: f :: y :: x :: l := rfl
theorem swL_7 {α : Type} (a b c d e f g x y : α) (l : List α) : swL 7 (a :: b :: c :: d :: e :: f :: g :: x :: y :: l) = a :: b :: c :: d :: e :: f :: g :: y :: x :: l := rfl
theorem swr_fn (j f : Nat) (cs : List V) : swr j (.fn f cs) = .fn f (cs.map (swc j)) := rfl
theorem swf_fn (j f : Nat) (cs : List V) : swf j (.fn f cs) = .fn f (cs.map (swc j)) := rfl
theorem swf_s (j b n z : Nat) : swf j (.stk b n z) = .stk (sw j b) n z := rfl
theorem swf_b (j b n z : Nat) : swf j (.buf b n z) = .buf (sw j b) n z := rfl
theorem swc_p (j b o : Nat) : swc j (.ptr b o) = .ptr (sw j b) o := rfl
theorem swc_st (j b n z : Nat) : swc j (.stk b n z) = .stk (sw j b) n z := rfl
theorem swc_l (j : Nat) (k : Own) (r : List (List V)) : swc j (.list k r) = .list k r := rfl
theorem swc_v (j : Nat) (x : Value) : swc j (.v x) = .v x := rfl
theorem swr_an (j : Nat) : swr j .any = .any := rfl
theorem swr_ag (j : Nat) (cs : List V) : swr j (.agg cs) = .agg (cs.map (swf j)) := rfl
attribute [go_sem] sw_0_4 sw_0_5 sw_0_6 sw_0_7 sw_0_8 sw_0_9 sw_1_3 sw_1_4 sw_1_5 sw_1_6 sw_1_7 sw_1_8 sw_1_9 sw_2_4 sw_2_5 sw_2_6 sw_2_7 sw_2_8 sw_2_9 sw_3_0 sw_3_1 sw_3_2 sw_3_3 sw_3_4 sw_3_5 sw_3_6 sw_3_7 sw_3_8 sw_3_9 sw_4_0 sw_4_1 sw_4_2 sw_4_3 sw_4_4 sw_4_5 sw_4_6 sw_4_7 sw_4_8 sw_4_9 sw_5_0 sw_5_1 sw_5_2 sw_5_3 sw_5_4 sw_5_5 sw_5_6 sw_5_7 sw_5_8 sw_5_9 sw_6_0 sw_6_1 sw_6_2 sw_6_3 sw_6_4 sw_6_5 sw_6_6 sw_6_7 sw_6_8 sw_6_9 sw_7_0 sw_7_1 sw_7_2 sw_7_3 sw_7_4 sw_7_5 sw_7_6 sw_7_7 sw_7_8 sw_7_9 swL_3 swL_4 swL_5 swL_6 swL_7 swr_fn swf_fn swf_s swf_b swc_p swc_st swc_l swc_v swr_an swr_ag Nat.add_sub_cancel_left Nat.sub_self
theorem hp_ltC (h : List Ob) (a b c : Nat) : (h.length + a + b < h.length + c) = (a + b < c) := by rw [eq_iff_iff]; omega
theorem hp_neA (h : List Ob) (k : Nat) : decide (h.length + (k + 1) ≠ h.length) = true := by rw [decide_eq_true_iff]; omega
theorem hp_neB (h : List Ob) : decide (h.length ≠ h.length) = false := by rw [decide_eq_false_iff_not]; omega
theorem hp_neC (h : List Ob) (a b : Nat) : decide (h.length + a ≠ h.length + b) = decide (a ≠ b) := by rw [decide_eq_decide]; omega
theorem hp_neD (h : List Ob) (k : Nat) : decide (h.length ≠ h.length + (k + 1)) = true := by rw [decide_eq_true_iff]; omega
theorem hp_ltD (h : List Ob) (a b : Nat) : decide (h.length + a < h.length + b) = decide (a < b) := by rw [decide_eq_decide]; omega
theorem hp_ltE (h : List Ob) (k : Nat) : decide (h.length < h.length + (k + 1)) = true := by rw [decide_eq_true_iff]; omega
theorem nat_neS (a : Nat) : decide (a ≠ a) = false := by simp
attribute [go_sem] nat_neS
theorem hp_eqA (h : List Ob) (k : Nat) : (h.length + (k + 1) = h.length) = False := by rw [eq_iff_iff, iff_false]; omega
theorem hp_ltG (h : List Ob) (a b : Nat) : (h.length + a < h.length + b) = (a < b) := by rw [eq_iff_iff]; omega
theorem sw_e (n a b : Nat) : sw n (n + a + b) = n + sw 0 (a + b) := by
 unfold sw
 repeat' split
 all_goals omega
theorem sw_f (n i a b : Nat) : sw (n + i) (n + a + b) = n + sw i (a + b) := by
 unfold sw
 repeat' split
 all_goals omega
attribute [go_sem] hp_ltG sw_e sw_f
attribute [go_sem] hp_eqA
attribute [go_sem] hp_ltC hp_ltD hp_ltE hp_neA hp_neB hp_neC hp_neD
attribute [go_sem] Nat.le_add_right Nat.le_refl Nat.add_le_add_iff_left
theorem nat_ne {a b : Nat} (h : (a == b) = false) : (a ≠ b) = True := by rw [eq_iff_iff, iff_true]; intro e; rw [e, beq_self_eq_true] at h; cases h
attribute [go_sem] nat_ne Option.isNone_none untag1_ud
attribute [go_sem] hp_dropK Nat.reduceSub hp_ltA hp_ltB hp_takeB
end Go.Lift
end

section
namespace Go.Lift
def flat : Code -> List Code
 | .seq a b => flat a ++ flat b
 | c => [c]
variable [GTab] [BTy]
section
variable (c : Cx) (lp : LoopF) (s : St)
noncomputable def evL : List Code -> St -> Option (Ex × St)
 | [], s => some (.normal, s)
 | a :: l, s => match evCode c lp a s with
  | some (.normal, s') => evL l s'
  | r => r
noncomputable def thenL (l : List Code) : Option (Ex × St) -> Option (Ex × St)
 | some (.normal, s') => evL c lp l s'
 | r => r
theorem l_nil : evL c lp [] s = some (.normal, s) := rfl
theorem l_cons (a : Code) (l : List Code) : evL c lp (a :: l) s = thenL c lp l (evCode c lp a s) := by
 simp only [evL]
 cases evCode c lp a s with
 | none => rfl
 | some p => obtain ⟨e, s'⟩ := p; cases e <;> rfl
theorem tl_n (l : List Code) : thenL c lp l (some (.normal, s)) = evL c lp l s := rfl
theorem tl_r (l : List Code) : thenL c lp l (some (.ret, s)) = some (.ret, s) := rfl
theorem tl_e (l : List Code) (id : Nat) : thenL c lp l (some (.exit id, s)) = some (.exit id, s) := rfl
theorem tl_0 (l : List Code) : thenL c lp l none = none := rfl
theorem l_app (m : List Code) : ∀ (l : List Code) (s : St), evL c lp (l ++ m) s = thenL c lp m (evL c lp l s)
 | [], s => rfl
 | a :: l, s => by
  rw [List.cons_append, l_cons, l_cons]
  cases evCode c lp a s with
  | none => rfl
  | some p =>
   obtain ⟨e, s'⟩ := p
   cases e with
   | normal => rw [tl_n, tl_n]; exact l_app m l s'
   | exit j => rfl
   | ret => rfl
theorem one_l (a : Code) : evL c lp [a] s = evCode c lp a s := by
 rw [l_cons]
 cases evCode c lp a s with
 | none => rfl
 | some p => obtain ⟨e, s'⟩ := p; cases e <;> rfl
theorem ev_flat : ∀ (b : Code) (s : St), evCode c lp b s = evL c lp (flat b) s := by
 intro b
 induction b with
 | seq a b iha ihb =>
  intro s
  rw [c_seq, flat, l_app, <- iha]
  cases evCode c lp a s with
  | none => rfl
  | some p =>
   obtain ⟨e, s'⟩ := p
   cases e with
   | normal => rw [then_n, tl_n]; exact ihb s'
   | exit j => rfl
   | ret => rfl
 | _ => intro s; exact (one_l c lp s _).symm
def pc (b : Code) (i n : Nat) : List Code := ((flat b).drop i).take n
noncomputable def thenP (b : Code) (i : Nat) : Option (Ex × St) -> Option (Ex × St)
 | some (.normal, s') => evL c lp ((flat b).drop i) s'
 | r => r
theorem pc_in (b : Code) : evCode c lp b s = thenP c lp b 0 (some (.normal, s)) := by rw [ev_flat]; rfl
theorem pc_go (b : Code) (i n : Nat) : thenP c lp b i (some (.normal, s)) = thenP c lp b (i + n) (evL c lp (pc b i n) s) := by
 show evL c lp ((flat b).drop i) s = _
 have e : (flat b).drop i = pc b i n ++ (flat b).drop (i + n) := by
  unfold pc
  rw [<- List.drop_drop]
  exact (List.take_append_drop n _).symm
 rw [e, l_app]
 rfl
theorem pc_r (b : Code) (i : Nat) : thenP c lp b i (some (.ret, s)) = some (.ret, s) := rfl
end
theorem fl_s (a b : Code) : flat (.seq a b) = flat a ++ flat b := rfl
theorem fl_r (id : Nat) (ops : Array Oper) (d : Bool) : flat (.region id ops d) = [.region id ops d] := rfl
theorem fl_c (x : Operand) (a b : Code) : flat (.cond x a b) = [.cond x a b] := rfl
theorem fl_b (id : Nat) (a : Code) : flat (.block id a) = [.block id a] := rfl
theorem fl_l (a : Code) : flat (.loop a) = [.loop a] := rfl
theorem fl_e (id : Nat) : flat (.exit id) = [.exit id] := rfl
theorem fl_t : flat .ret = [.ret] := rfl
theorem fl_k : flat .skip = [.skip] := rfl
theorem fl_p (a : Code) : flat (.scope a) = [.scope a] := rfl
theorem dr_0 (l : List Code) : l.drop 0 = l := rfl
attribute [go_sem] l_nil l_cons tl_n tl_r tl_e tl_0 pc fl_s fl_r fl_c fl_b fl_l fl_e fl_t fl_k fl_p dr_0 List.drop_succ_cons List.take_succ_cons List.take_zero List.drop_nil List.take_nil
end Go.Lift
end
