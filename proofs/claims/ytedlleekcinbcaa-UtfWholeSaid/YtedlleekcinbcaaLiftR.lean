/- The lifting, eighteenth part: code, and functions: what the evaluation gives, the machine does. -/
import Derived.Test.YtedlleekcinbcaaLiftQ
namespace Go.Lift
set_option linter.unusedVariables false
set_option linter.unusedSimpArgs false
set_option linter.unusedSectionVars false
variable [GTab]

def Ex.to : Ex → Exit
  | .normal => .normal
  | .exit id => .exit id
  | .ret => .ret

section
variable {m : List Nat} {c : Cl} {w : World} {g : Env} {h : Heap} {a : Act} {E : Entry} {cx : Cx}

theorem opsOK_of {hint : Hint} {nt : Nat} {l : List Oper} (hl : l.all (dstOk hint nt) = true) : ∀ o ∈ l, (∀ t, o.dst = some t → t < nt) ∧ ((∃ x, o.op = .assign x) ∨ ∀ t, o.dst = some t → t ∉ hint.vars) := fun o ho => by
  have := List.all_eq_true.1 hl o ho
  unfold dstOk at this
  cases hd : o.dst with
  | none => exact ⟨fun t e => (by cases e), .inr fun t e => (by cases e)⟩
  | some t =>
    rw [hd] at this
    simp only [Bool.and_eq_true, decide_eq_true_eq, Bool.or_eq_true] at this
    refine ⟨fun u e => by cases e; exact this.1, ?_⟩
    rcases this.2 with h1 | h1
    · refine .inl ?_
      unfold isAssign at h1
      split at h1
      · exact ⟨_, by assumption⟩
      · cases h1
    · refine .inr fun u e => ?_
      cases e
      simpa using h1

theorem code_ok (hX : CxOK cx E) (hm : cx.P.follows .mixedOrders = true) (k : Nat) : ∀ (b : Code) (m : List Nat) (c : Cl) (w : World) (g : Env) (h : Heap) (a : Act) (e : Ex) (s' : St) (Q : Exit → Act → World → Prop), codeOk cx.P cx.hint E.nt b = true → InvP cx.hint.vars E m c w g h a →
    evCode cx (loopN k) b (g, h) = some (e, s') → (∀ m' c' w' a', InvP cx.hint.vars E m' c' w' s'.1 s'.2 a' → Q e.to a' w') → b.wp cx.P Q a w := by
  intro b
  induction b with
  | skip =>
    intro m c w g h a e s' Q _ hI he hQ
    simp only [evCode, Option.some.injEq, Prod.mk.injEq] at he
    obtain ⟨rfl, rfl⟩ := he
    exact wp_skip (hQ m c w a hI)
  | region id ops draw =>
    intro m c w g h a e s' Q hok hI he hQ
    simp only [evCode, Option.map_eq_some_iff, Prod.mk.injEq] at he
    obtain ⟨s1, h1, rfl, rfl⟩ := he
    simp only [codeOk, Bool.and_eq_true, Bool.or_eq_true] at hok
    exact region_ok hX hm (opsOK_of hok.1) (fun hd => by subst hd; rcases hok.2 with h2 | h2; · cases h2
                                                         · exact h2) hI h1 hQ
  | seq x y ihx ihy =>
    intro m c w g h a e s' Q hok hI he hQ
    simp only [codeOk, Bool.and_eq_true] at hok
    simp only [evCode] at he
    refine wp_seq ?_
    split at he
    · rename_i s1 h1
      exact ihx m c w g h a .normal s1 _ hok.1 hI h1 fun m' c' w' a' hI' => ihy m' c' w' s1.1 s1.2 a' e s' Q hok.2 hI' he hQ
    · rename_i hne
      cases hr : evCode cx (loopN k) x (g, h) with
      | none => rw [hr] at he; cases he
      | some p =>
        obtain ⟨e1, s1⟩ := p
        rw [hr] at he
        simp only [Option.some.injEq, Prod.mk.injEq] at he
        obtain ⟨rfl, rfl⟩ := he
        refine ihx m c w g h a e1 s1 _ hok.1 hI hr fun m' c' w' a' hI' => ?_
        cases e1 with
        | normal => exact absurd hr (hne s1)
        | exit id => exact hQ m' c' w' a' hI'
        | ret => exact hQ m' c' w' a' hI'
  | cond x p q ihp ihq =>
    intro m c w g h a e s' Q hok hI he hQ
    simp only [codeOk, Bool.and_eq_true] at hok
    simp only [evCode] at he
    split at he
    · rename_i t ht
      have hv := hI.core.opd x
      rw [ht] at hv
      have hv' : a.eval x = .bool t := hv
      cases t with
      | true => simp only [if_true] at he; exact wp_cond_true hv' (ihp m c w g h a e s' Q hok.1 hI he hQ)
      | false => simp only [Bool.false_eq_true, if_false] at he; exact wp_cond_false hv' (ihq m c w g h a e s' Q hok.2 hI he hQ)
    · cases he
  | block id p ih =>
    intro m c w g h a e s' Q hok hI he hQ
    simp only [codeOk] at hok
    simp only [evCode] at he
    refine wp_block ?_
    split at he
    · rename_i j s1 h1
      refine ih m c w g h a (.exit j) s1 _ hok hI h1 fun m' c' w' a' hI' => ?_
      simp only [Ex.to, Exit.inBlock]
      split at he
      · rename_i hj
        simp only [Option.some.injEq, Prod.mk.injEq] at he
        obtain ⟨rfl, rfl⟩ := he
        rw [if_pos hj]
        exact hQ m' c' w' a' hI'
      · rename_i hj
        simp only [Option.some.injEq, Prod.mk.injEq] at he
        obtain ⟨rfl, rfl⟩ := he
        rw [if_neg hj]
        exact hQ m' c' w' a' hI'
    · rename_i hne
      refine ih m c w g h a e s' _ hok hI he fun m' c' w' a' hI' => ?_
      cases e with
      | normal => exact hQ m' c' w' a' hI'
      | exit j => exact absurd he (hne j s')
      | ret => exact hQ m' c' w' a' hI'
  | loop p ih =>
    intro m c w g h a e s' Q hok hI he hQ
    simp only [codeOk] at hok
    simp only [evCode] at he
    refine wp_loop_rounds k ?_
    clear hX
    have key : ∀ (n : Nat) (m : List Nat) (c : Cl) (w : World) (s : St) (a : Act), InvP cx.hint.vars E m c w s.1 s.2 a → loopN n (evCode cx (loopN k) p) s = some (e, s') → Code.rounds cx.P p Q n a w := by
      intro n
      induction n with
      | zero => intro m c w s a _ h0; cases h0
      | succ n ihn =>
        intro m c w s a hI h0
        rw [rounds_succ]
        simp only [loopN] at h0
        split at h0
        · rename_i s1 h1
          exact ih m c w s.1 s.2 a .normal s1 _ hok hI h1 fun m' c' w' a' hI' => ihn m' c' w' s1 a' hI' h0
        · rename_i hne
          refine ih m c w s.1 s.2 a e s' _ hok hI h0 fun m' c' w' a' hI' => ?_
          cases e with
          | normal => exact absurd h0 (hne s')
          | exit id => exact hQ m' c' w' a' hI'
          | ret => exact hQ m' c' w' a' hI'
    exact key k m c w (g, h) a hI he
  | rangeFunc f ps x y _ _ =>
    intro m c w g h a e s' Q _ _ he _
    cases he
  | exit id =>
    intro m c w g h a e s' Q _ hI he hQ
    simp only [evCode, Option.some.injEq, Prod.mk.injEq] at he
    obtain ⟨rfl, rfl⟩ := he
    exact wp_exit (hQ m c w a hI)
  | scope p ih =>
    intro m c w g h a e s' Q hok hI he hQ
    simp only [codeOk] at hok
    simp only [evCode] at he
    refine wp_scope_straight (ih m c w g h a e s' _ hok hI he fun m' c' w' a' hI' => ?_)
    cases e <;> exact hQ m' c' w' a' hI'
  | label l =>
    intro m c w g h a e s' Q _ hI he hQ
    simp only [evCode, Option.some.injEq, Prod.mk.injEq] at he
    obtain ⟨rfl, rfl⟩ := he
    exact wp_label (hQ m c w a hI)
  | goto l =>
    intro m c w g h a e s' Q _ _ he _
    cases he
  | ret =>
    intro m c w g h a e s' Q _ hI he hQ
    simp only [evCode, Option.some.injEq, Prod.mk.injEq] at he
    obtain ⟨rfl, rfl⟩ := he
    exact wp_ret (hQ m c w a hI)
  | refuse s =>
    intro m c w g h a e s' Q _ _ he _
    cases he

end
end Go.Lift
