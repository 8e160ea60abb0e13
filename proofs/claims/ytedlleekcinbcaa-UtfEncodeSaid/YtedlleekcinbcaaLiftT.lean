/- The lifting, twentieth part: the evaluation without a bound on its depth, and its equations. -/
import Derived.Test.YtedlleekcinbcaaLiftS
namespace Go.Lift
set_option linter.unusedVariables false
set_option linter.unusedSimpArgs false
set_option linter.unusedSectionVars false
variable [GTab]

def CLe (a b : CallF) : Prop := ∀ lo f args h r, a lo f args h = some r → b lo f args h = some r
def FLe (a b : St → Option (Ex × St)) : Prop := ∀ s r, a s = some r → b s = some r
def LLe (a b : LoopF) : Prop := ∀ f g, FLe f g → FLe (a f) (b g)

/-- a chain of evaluations, and what bounds it -/
structure Chain (a : Nat → CallF) (b : CallF) : Prop where
  cont : ∀ lo f args h r, b lo f args h = some r → ∃ N, ∀ n, N ≤ n → a n lo f args h = some r

section le
variable {P : Program} {call call' : CallF} (hc : CLe call call')
include hc

theorem evEff_le {lo : Nat} {mutc : Bool} {s : St} {op : Op} {r : V × St} (h : evEff P call lo mutc s op = some r) : evEff P call' lo mutc s op = some r := by
  cases op with
  | call c =>
    simp only [evEff] at h ⊢
    split at h
    · unfold evCall at h ⊢
      split at h
      · split at h
        · rename_i hcall
          rw [hc _ _ _ _ _ hcall]
          exact h
        · cases h
      · cases h
    · exact h
    · cases h
  | _ => exact h

theorem evOp_le {c : Cx} {s : St} {o : Oper} {r : V × St} (hcc : c.call = call) (h : evOp c s o = some r) : evOp { c with call := call' } s o = some r := by
  unfold evOp at h ⊢
  split at h
  · rename_i he
    rw [if_pos he]
    rw [hcc] at h
    exact evEff_le hc h
  · rename_i he
    rw [if_neg he]
    exact h

theorem evHead_le {c : Cx} {s : St} {o : Oper} {v : V} (hcc : c.call = call) (h : evHead c s o = some v) : evHead { c with call := call' } s o = some v := by
  unfold evHead at h ⊢
  split at h
  · rename_i he
    rw [if_pos he]
    split at h
    · split at h
      · split at h
        · obtain ⟨p, hp, hv⟩ := Option.map_eq_some_iff.mp h
          rw [hcc] at hp
          exact Option.map_eq_some_iff.mpr ⟨p, hc _ _ _ _ _ hp, hv⟩
        · cases h
      · cases h
    · split at h
      · cases h
      · rename_i hm
        obtain ⟨p, hp, hv⟩ := Option.map_eq_some_iff.mp h
        rw [if_neg hm]
        rw [hcc] at hp
        exact Option.map_eq_some_iff.mpr ⟨p, evEff_le hc hp, hv⟩
    · cases h
  · rename_i he
    rw [if_neg he]
    exact h

theorem evOps_le {c : Cx} (hcc : c.call = call) {ops : Array Oper} : ∀ {l : List Oper} {s r : St}, evOps c ops l s = some r → evOps { c with call := call' } ops l s = some r
  | [], _, _, h => h
  | o :: l, s, r, h => by
    simp only [evOps] at h ⊢
    split at h
    · split at h
      · rename_i hop
        simp only [evOp_le hc hcc hop]
        exact evOps_le hcc h
      · cases h
    · split at h
      · cases h
      · rename_i hna
        rw [if_neg hna]
        exact evOps_le hcc h
    · cases h

theorem evHeads_le {c : Cx} (hcc : c.call = call) {ops : Array Oper} : ∀ {l : List Oper} {s r : St}, evHeads c ops l s = some r → evHeads { c with call := call' } ops l s = some r
  | [], _, _, h => h
  | o :: l, s, r, h => by
    simp only [evHeads] at h ⊢
    split at h
    · split at h
      · rename_i hop
        simp only [evHead_le hc hcc hop]
        exact evHeads_le hcc h
      · cases h
    · split at h
      · cases h
      · rename_i hna
        rw [if_neg hna]
        exact evHeads_le hcc h
    · cases h

theorem evRegion_le {c : Cx} (hcc : c.call = call) {id : Nat} {ops : Array Oper} {draw : Bool} {s r : St} (h : evRegion c id ops draw s = some r) : evRegion { c with call := call' } id ops draw s = some r := by
  unfold evRegion at h ⊢
  split at h
  · rename_i s1 h1
    have : (if draw = true then evDraw { c with call := call' } id ops s else evOps { c with call := call' } ops ops.toList s) = some s1 := by
      cases draw with
      | false => simp only [Bool.false_eq_true, if_false] at h1 ⊢; exact evOps_le hc hcc h1
      | true =>
        simp only [if_true] at h1 ⊢
        unfold evDraw at h1 ⊢
        split at h1
        · rename_i s2 h2
          rw [evHeads_le hc hcc h2]
          exact evOps_le hc hcc h1
        · cases h1
    rw [this]
    exact h
  · cases h

theorem evCode_le {c : Cx} (hcc : c.call = call) {lp lp' : LoopF} (hl : LLe lp lp') : ∀ (b : Code) (s : St) (r : Ex × St), evCode c lp b s = some r → evCode { c with call := call' } lp' b s = some r := by
  intro b
  induction b with
  | region id ops draw =>
    intro s r h
    simp only [evCode, Option.map_eq_some_iff] at h ⊢
    obtain ⟨s1, h1, h2⟩ := h
    exact ⟨s1, evRegion_le hc hcc h1, h2⟩
  | seq x y ihx ihy =>
    intro s r h
    simp only [evCode] at h ⊢
    cases hx : evCode c lp x s with
    | none => rw [hx] at h; cases h
    | some p =>
      obtain ⟨e, s1⟩ := p
      rw [hx] at h
      rw [ihx s _ hx]
      cases e with
      | normal => exact ihy s1 r h
      | _ => exact h
  | cond x p q ihp ihq =>
    intro s r h
    simp only [evCode] at h ⊢
    split at h
    · split at h
      · rename_i ht
        rw [if_pos ht]
        exact ihp s r h
      · rename_i ht
        rw [if_neg ht]
        exact ihq s r h
    · cases h
  | block id p ih =>
    intro s r h
    simp only [evCode] at h ⊢
    cases hx : evCode c lp p s with
    | none => rw [hx] at h; cases h
    | some q =>
      rw [hx] at h
      rw [ih s _ hx]
      exact h
  | loop p ih =>
    intro s r h
    simp only [evCode] at h ⊢
    exact hl _ _ ih s r h
  | scope p ih => intro s r h; exact ih s r h
  | skip => intro s r h; exact h
  | exit id => intro s r h; exact h
  | label l => intro s r h; exact h
  | ret => intro s r h; exact h
  | rangeFunc f ps x y _ _ => intro s r h; cases h
  | goto l => intro s r h; cases h
  | refuse w => intro s r h; cases h

theorem evBody_le {hints : Nat → Hint} {lp lp' : LoopF} (hl : LLe lp lp') {lo f : Nat} {args : List V} {h : Heap} {r : V × Heap} (he : evBody P hints call lp lo f args h = some r) : evBody P hints call' lp' lo f args h = some r := by
  unfold evBody at he ⊢
  split at he
  · split at he
    · split at he
      · rename_i hck
        simp only [hck, if_true]
        split at he
        · cases he
        · rename_i hne hs
          rw [evCode_le hc (c := ⟨P, call, lo, h.length, hints f⟩) rfl hl _ _ _ hs]
          split
          · rename_i heq; cases heq; exact absurd rfl (hne _)
          · rename_i heq; cases heq; exact he
          · rename_i heq; cases heq
        · cases he
      · cases he
    · cases he
  · cases he
end le

theorem loopN_succ {n : Nat} {f : St → Option (Ex × St)} {s : St} : loopN (n + 1) f s = match f s with
    | some (.normal, s') => loopN n f s'
    | r => r := rfl
theorem loopN_le : ∀ {n k : Nat}, n ≤ k → LLe (loopN n) (loopN k)
  | 0, _, _, f, g, _, s, r, h => by cases h
  | n + 1, 0, hn, _, _, _, _, _, _ => by omega
  | n + 1, k + 1, hn, f, g, hfg, s, r, h => by
    simp only [loopN] at h ⊢
    cases hx : f s with
    | none => rw [hx] at h; cases h
    | some p =>
      obtain ⟨e, s1⟩ := p
      rw [hx] at h
      rw [hfg s _ hx]
      cases e with
      | normal => exact loopN_le (by omega) f g hfg s1 r h
      | _ => exact h

theorem evFun_le {P : Program} {hints : Nat → Hint} {prim : Nat → Option (Nat → List V → Heap → Option (V × Heap))} : ∀ {n k : Nat}, n ≤ k → CLe (evFun P hints prim n) (evFun P hints prim k)
  | 0, _, _, lo, f, args, h, r, he => by cases he
  | n + 1, 0, hn, _, _, _, _, _, _ => by omega
  | n + 1, k + 1, hn, lo, f, args, h, r, he => by
    simp only [evFun] at he ⊢
    split at he
    · exact he
    · exact evBody_le (evFun_le (by omega)) (loopN_le (by omega)) he

/-- the loop without a bound -/
noncomputable def loopW : LoopF := fun f s =>
  open Classical in if hx : ∃ n r, loopN n f s = some r then some (Classical.choose (Classical.choose_spec hx)) else none

theorem loopW_of {f : St → Option (Ex × St)} {s : St} {n : Nat} {r : Ex × St} (h : loopN n f s = some r) : loopW f s = some r := by
  have hx : ∃ n r, loopN n f s = some r := ⟨n, r, h⟩
  unfold loopW
  rw [dif_pos hx]
  have h1 := Classical.choose_spec (Classical.choose_spec hx)
  have e1 := loopN_le (Nat.le_max_left (Classical.choose hx) n) f f (fun _ _ h => h) s _ h1
  have e2 := loopN_le (Nat.le_max_right (Classical.choose hx) n) f f (fun _ _ h => h) s _ h
  rw [e1] at e2
  exact e2
theorem loopW_to {f : St → Option (Ex × St)} {s : St} {r : Ex × St} (h : loopW f s = some r) : ∃ n, loopN n f s = some r := by
  unfold loopW at h
  split at h
  · rename_i hx
    cases h
    exact ⟨_, Classical.choose_spec (Classical.choose_spec hx)⟩
  · cases h

/-- a round, and the rest -/
theorem loopW_eq (f : St → Option (Ex × St)) (s : St) : loopW f s = match f s with
    | some (.normal, s') => loopW f s'
    | r => r := by
  cases hx : f s with
  | none =>
    cases hw : loopW f s with
    | none => rfl
    | some r =>
      obtain ⟨n, hn⟩ := loopW_to hw
      cases n with
      | zero => cases hn
      | succ n => simp only [loopN, hx] at hn; cases hn
  | some p =>
    obtain ⟨e, s1⟩ := p
    cases e with
    | normal =>
      simp only
      cases hw : loopW f s1 with
      | some r =>
        obtain ⟨n, hn⟩ := loopW_to hw
        exact loopW_of (n := n + 1) (by simp only [loopN, hx]; exact hn)
      | none =>
        cases hw' : loopW f s with
        | none => rfl
        | some r =>
          obtain ⟨n, hn⟩ := loopW_to hw'
          cases n with
          | zero => cases hn
          | succ n =>
            simp only [loopN, hx] at hn
            rw [loopW_of hn] at hw
            cases hw
    | exit id => exact loopW_of (n := 1) (by simp only [loopN, hx])
    | ret => exact loopW_of (n := 1) (by simp only [loopN, hx])

theorem loopN_W {n : Nat} : LLe (loopN n) loopW := fun f g hfg s r h => loopW_of (loopN_le (Nat.le_refl n) f g hfg s r h)

section ev
variable (P : Program) (hints : Nat → Hint) (prim : Nat → Option (Nat → List V → Heap → Option (V × Heap)))

/-- THE EVALUATION, without a bound -/
noncomputable def ev : CallF := fun lo f args h =>
  open Classical in if hx : ∃ n r, evFun P hints prim n lo f args h = some r then some (Classical.choose (Classical.choose_spec hx)) else none

variable {P hints prim}
theorem ev_of {n lo f : Nat} {args : List V} {h : Heap} {r : V × Heap} (he : evFun P hints prim n lo f args h = some r) : ev P hints prim lo f args h = some r := by
  have hx : ∃ n r, evFun P hints prim n lo f args h = some r := ⟨n, r, he⟩
  unfold ev
  rw [dif_pos hx]
  have h1 := Classical.choose_spec (Classical.choose_spec hx)
  have e1 := evFun_le (Nat.le_max_left (Classical.choose hx) n) _ _ _ _ _ h1
  have e2 := evFun_le (Nat.le_max_right (Classical.choose hx) n) _ _ _ _ _ he
  rw [e1] at e2
  exact e2
theorem ev_to {lo f : Nat} {args : List V} {h : Heap} {r : V × Heap} (he : ev P hints prim lo f args h = some r) : ∃ n, evFun P hints prim n lo f args h = some r := by
  unfold ev at he
  split at he
  · rename_i hx
    cases he
    exact ⟨_, Classical.choose_spec (Classical.choose_spec hx)⟩
  · cases he

theorem ev_chain {lo f : Nat} {args : List V} {h : Heap} {r : V × Heap} (he : ev P hints prim lo f args h = some r) : ∃ N, ∀ n, N ≤ n → evFun P hints prim n lo f args h = some r := by
  obtain ⟨N, hN⟩ := ev_to he
  exact ⟨N, fun n hn => evFun_le hn _ _ _ _ _ hN⟩

/-- the surroundings at a bound -/
def cxN (P : Program) (hints : Nat → Hint) (prim : Nat → Option (Nat → List V → Heap → Option (V × Heap))) (c : Cx) (n : Nat) : Cx := { c with call := evFun P hints prim n }

theorem evEff_cont {lo : Nat} {mutc : Bool} {s : St} {op : Op} {r : V × St} (h : evEff P (ev P hints prim) lo mutc s op = some r) : ∃ N, ∀ n, N ≤ n → evEff P (evFun P hints prim n) lo mutc s op = some r := by
  cases op with
  | call c =>
    simp only [evEff] at h ⊢
    split at h
    · unfold evCall at h ⊢
      split at h
      · split at h
        · rename_i hcall
          obtain ⟨N, hN⟩ := ev_chain hcall
          exact ⟨N, fun n hn => by rw [hN n hn]; exact h⟩
        · cases h
      · cases h
    · exact ⟨0, fun _ _ => h⟩
    · cases h
  | _ => exact ⟨0, fun _ _ => h⟩

theorem evOp_cont {c : Cx} (hP : c.P = P) {s : St} {o : Oper} {r : V × St} (h : evOp { c with call := ev P hints prim } s o = some r) : ∃ N, ∀ n, N ≤ n → evOp (cxN P hints prim c n) s o = some r := by
  subst hP
  unfold evOp at h
  unfold evOp cxN
  split at h
  · rename_i he
    obtain ⟨N, hN⟩ := evEff_cont h
    exact ⟨N, fun n hn => by rw [if_pos he]; exact hN n hn⟩
  · rename_i he
    exact ⟨0, fun n _ => by rw [if_neg he]; exact h⟩

theorem evHead_cont {c : Cx} (hP : c.P = P) {s : St} {o : Oper} {v : V} (h : evHead { c with call := ev P hints prim } s o = some v) : ∃ N, ∀ n, N ≤ n → evHead (cxN P hints prim c n) s o = some v := by
  subst hP
  unfold evHead at h
  unfold evHead cxN
  split at h
  · rename_i he
    simp only [he, if_true]
    split at h
    · split at h
      · split at h
        · simp only [Option.map_eq_some_iff] at h ⊢
          obtain ⟨p, hp, rfl⟩ := h
          obtain ⟨N, hN⟩ := ev_chain hp
          exact ⟨N, fun n hn => ⟨p, hN n hn, rfl⟩⟩
        · cases h
      · cases h
    · split at h
      · cases h
      · rename_i hm
        simp only [Option.map_eq_some_iff] at h ⊢
        obtain ⟨p, hp, rfl⟩ := h
        obtain ⟨N, hN⟩ := evEff_cont hp
        refine ⟨N, fun n hn => ?_⟩
        rw [if_neg hm]
        simp only [Option.map_eq_some_iff]
        exact ⟨p, hN n hn, rfl⟩
    · cases h
  · rename_i he
    exact ⟨0, fun n _ => by rw [if_neg he]; exact h⟩

theorem evOps_cont {c : Cx} (hP : c.P = P) {ops : Array Oper} : ∀ {l : List Oper} {s r : St}, evOps { c with call := ev P hints prim } ops l s = some r → ∃ N, ∀ n, N ≤ n → evOps (cxN P hints prim c n) ops l s = some r
  | [], _, _, h => ⟨0, fun _ _ => h⟩
  | o :: l, s, r, h => by
    simp only [evOps] at h ⊢
    split at h
    · rename_i _
      split at h
      · rename_i hop
        obtain ⟨N, hN⟩ := evOp_cont hP hop
        obtain ⟨K, hK⟩ := evOps_cont hP h
        refine ⟨max N K, fun n hn => ?_⟩
        simp only [hN n (by omega)]
        exact hK n (by omega)
      · cases h
    · rename_i _
      split at h
      · cases h
      · rename_i hna
        obtain ⟨K, hK⟩ := evOps_cont hP h
        refine ⟨K, fun n hn => ?_⟩
        simp only [if_neg hna]
        exact hK n hn
    · cases h

theorem evHeads_cont {c : Cx} (hP : c.P = P) {ops : Array Oper} : ∀ {l : List Oper} {s r : St}, evHeads { c with call := ev P hints prim } ops l s = some r → ∃ N, ∀ n, N ≤ n → evHeads (cxN P hints prim c n) ops l s = some r
  | [], _, _, h => ⟨0, fun _ _ => h⟩
  | o :: l, s, r, h => by
    simp only [evHeads] at h ⊢
    split at h
    · rename_i _
      split at h
      · rename_i hop
        obtain ⟨N, hN⟩ := evHead_cont hP hop
        obtain ⟨K, hK⟩ := evHeads_cont hP h
        refine ⟨max N K, fun n hn => ?_⟩
        simp only [hN n (by omega)]
        exact hK n (by omega)
      · cases h
    · rename_i _
      split at h
      · cases h
      · rename_i hna
        obtain ⟨K, hK⟩ := evHeads_cont hP h
        refine ⟨K, fun n hn => ?_⟩
        simp only [if_neg hna]
        exact hK n hn
    · cases h

theorem evRegion_cont {c : Cx} (hP : c.P = P) {id : Nat} {ops : Array Oper} {draw : Bool} {s r : St} (h : evRegion { c with call := ev P hints prim } id ops draw s = some r) : ∃ N, ∀ n, N ≤ n → evRegion (cxN P hints prim c n) id ops draw s = some r := by
  unfold evRegion at h
  split at h
  · rename_i s1 h1
    have : ∃ N, ∀ n, N ≤ n → (if draw = true then evDraw (cxN P hints prim c n) id ops s else evOps (cxN P hints prim c n) ops ops.toList s) = some s1 := by
      cases draw with
      | false => simp only [Bool.false_eq_true, if_false] at h1 ⊢; exact evOps_cont hP h1
      | true =>
        simp only [if_true] at h1 ⊢
        unfold evDraw at h1
        split at h1
        · rename_i s2 h2
          obtain ⟨N, hN⟩ := evHeads_cont hP h2
          obtain ⟨K, hK⟩ := evOps_cont hP h1
          refine ⟨max N K, fun n hn => ?_⟩
          have e1 := hN n (by omega)
          have e2 := hK n (by omega)
          unfold evDraw
          exact (congrArg (fun x : Option St => match x with | some s' => evOps (cxN P hints prim c n) ops (ops.toList.drop (tailAt c.P c.hint id ops)) s' | none => none) e1).trans e2
        · cases h1
    obtain ⟨N, hN⟩ := this
    refine ⟨N, fun n hn => ?_⟩
    unfold evRegion
    rw [hN n hn]
    exact h
  · cases h

theorem evCode_cont {c : Cx} (hP : c.P = P) : ∀ (b : Code) (s : St) (r : Ex × St), evCode { c with call := ev P hints prim } loopW b s = some r → ∃ N, ∀ n, N ≤ n → evCode (cxN P hints prim c n) (loopN n) b s = some r := by
  intro b
  induction b with
  | region id ops draw =>
    intro s r h
    simp only [evCode, Option.map_eq_some_iff] at h ⊢
    obtain ⟨s1, h1, h2⟩ := h
    obtain ⟨N, hN⟩ := evRegion_cont hP h1
    exact ⟨N, fun n hn => ⟨s1, hN n hn, h2⟩⟩
  | seq x y ihx ihy =>
    intro s r h
    simp only [evCode] at h ⊢
    cases hx : evCode { c with call := ev P hints prim } loopW x s with
    | none => rw [hx] at h; cases h
    | some p =>
      obtain ⟨e, s1⟩ := p
      rw [hx] at h
      obtain ⟨N, hN⟩ := ihx s _ hx
      cases e with
      | normal =>
        obtain ⟨K, hK⟩ := ihy s1 r h
        refine ⟨max N K, fun n hn => ?_⟩
        rw [hN n (by omega)]
        exact hK n (by omega)
      | exit id => exact ⟨N, fun n hn => by rw [hN n hn]; exact h⟩
      | ret => exact ⟨N, fun n hn => by rw [hN n hn]; exact h⟩
  | cond x p q ihp ihq =>
    intro s r h
    simp only [evCode] at h ⊢
    split at h
    · split at h
      · rename_i ht
        obtain ⟨N, hN⟩ := ihp s r h
        exact ⟨N, fun n hn => by rw [if_pos ht]; exact hN n hn⟩
      · rename_i ht
        obtain ⟨N, hN⟩ := ihq s r h
        exact ⟨N, fun n hn => by rw [if_neg ht]; exact hN n hn⟩
    · cases h
  | block id p ih =>
    intro s r h
    simp only [evCode] at h ⊢
    cases hx : evCode { c with call := ev P hints prim } loopW p s with
    | none => rw [hx] at h; cases h
    | some q =>
      rw [hx] at h
      obtain ⟨N, hN⟩ := ih s _ hx
      exact ⟨N, fun n hn => by rw [hN n hn]; exact h⟩
  | loop p ih =>
    intro s r h
    simp only [evCode] at h ⊢
    obtain ⟨k, hk⟩ := loopW_to h
    clear h
    induction k generalizing s with
    | zero => cases hk
    | succ k ihk =>
      simp only [loopN] at hk
      cases hx : evCode { c with call := ev P hints prim } loopW p s with
      | none => rw [hx] at hk; cases hk
      | some q =>
        obtain ⟨e, s1⟩ := q
        rw [hx] at hk
        obtain ⟨N, hN⟩ := ih s _ hx
        cases e with
        | normal =>
          obtain ⟨K, hK⟩ := ihk s1 hk
          refine ⟨max N K + 1, fun n hn => ?_⟩
          obtain ⟨j, rfl⟩ : ∃ j, n = j + 1 := ⟨n - 1, by omega⟩
          -- the rounds behind the first one: at a bound one less, carried over
          have h2 := hK j (by omega)
          have h3 := loopN_le (Nat.le_refl j) _ (evCode (cxN P hints prim c (j + 1)) (loopN (j + 1)) p)
            (fun s r hr => evCode_le (c := cxN P hints prim c j) (call := evFun P hints prim j) (call' := evFun P hints prim (j + 1)) (evFun_le (by omega)) rfl (loopN_le (by omega)) p s r hr) s1 r h2
          rw [loopN_succ, hN (j + 1) (by omega)]
          exact h3
        | exit id => exact ⟨N + 1, fun n hn => by obtain ⟨j, rfl⟩ : ∃ j, n = j + 1 := ⟨n - 1, by omega⟩; rw [loopN_succ, hN (j + 1) (by omega)]; exact hk⟩
        | ret => exact ⟨N + 1, fun n hn => by obtain ⟨j, rfl⟩ : ∃ j, n = j + 1 := ⟨n - 1, by omega⟩; rw [loopN_succ, hN (j + 1) (by omega)]; exact hk⟩
  | scope p ih => intro s r h; exact ih s r h
  | skip => intro s r h; exact ⟨0, fun _ _ => h⟩
  | exit id => intro s r h; exact ⟨0, fun _ _ => h⟩
  | label l => intro s r h; exact ⟨0, fun _ _ => h⟩
  | ret => intro s r h; exact ⟨0, fun _ _ => h⟩
  | rangeFunc f ps x y _ _ => intro s r h; cases h
  | goto l => intro s r h; cases h
  | refuse w => intro s r h; cases h

theorem evBody_cont {lo f : Nat} {args : List V} {h : Heap} {r : V × Heap} (he : evBody P hints (ev P hints prim) loopW lo f args h = some r) : ∃ n, evBody P hints (evFun P hints prim n) (loopN n) lo f args h = some r := by
  unfold evBody at he
  split at he
  · rename_i fn hfn
    split at he
    · rename_i b hb
      split at he
      · rename_i hck
        split at he
        · cases he
        · rename_i e s hne hs
          obtain ⟨N, hN⟩ := evCode_cont (c := ⟨P, ev P hints prim, lo, h.length, hints f⟩) rfl b _ _ hs
          refine ⟨N, ?_⟩
          have := hN N (Nat.le_refl _)
          unfold cxN at this
          unfold evBody
          simp only [hfn, hb, hck, if_true]
          rw [this]
          split
          · rename_i heq; cases heq; exact absurd rfl (hne _)
          · rename_i heq; cases heq; exact he
          · rename_i heq; cases heq
        · cases he
      · cases he
    · cases he
  · cases he

/-- THE EQUATION of a function -/
theorem ev_eq {lo f : Nat} {args : List V} {h : Heap} (hp : prim f = none) : ev P hints prim lo f args h = evBody P hints (ev P hints prim) loopW lo f args h := by
  cases hb : evBody P hints (ev P hints prim) loopW lo f args h with
  | some r =>
    obtain ⟨n, hn⟩ := evBody_cont hb
    exact ev_of (n := n + 1) (by simp only [evFun, hp]; exact hn)
  | none =>
    cases he : ev P hints prim lo f args h with
    | none => rfl
    | some r =>
      obtain ⟨n, hn⟩ := ev_to he
      cases n with
      | zero => cases hn
      | succ n =>
        simp only [evFun, hp] at hn
        have := evBody_le (fun lo f args h r hr => ev_of (n := n) hr) loopN_W hn
        rw [this] at hb
        cases hb
theorem ev_prim {lo f : Nat} {args : List V} {h : Heap} {p : Nat → List V → Heap → Option (V × Heap)} (hp : prim f = some p) : ev P hints prim lo f args h = p lo args h := by
  cases hb : p lo args h with
  | some r => exact ev_of (n := 1) (by simp only [evFun, hp]; exact hb)
  | none =>
    cases he : ev P hints prim lo f args h with
    | none => rfl
    | some r =>
      obtain ⟨n, hn⟩ := ev_to he
      cases n with
      | zero => cases hn
      | succ n => simp only [evFun, hp] at hn; rw [hb] at hn; cases hn
end ev

end Go.Lift
