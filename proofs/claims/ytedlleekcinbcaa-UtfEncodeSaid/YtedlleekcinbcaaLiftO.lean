/- The lifting, fifteenth part: an operation, whichever it is; operations one behind the other; operations in whatever order. -/
import Derived.Test.YtedlleekcinbcaaLiftN
namespace Go.Lift
set_option linter.unusedVariables false
set_option linter.unusedSimpArgs false
set_option linter.unusedSectionVars false
variable [GTab]

section
variable {vars : List Nat} {m : List Nat} {c : Cl} {w : World} {g : Env} {h : Heap} {a : Act} {E : Entry} {cx : Cx}

theorem opd_untag_ptr {x : Operand} {i o : Nat} (hx : opd g x = .ptr i o) : opd (untag g) x = .ptr i o := by
  cases x with
  | tmp t => simp only [opd] at hx ⊢; rw [look_untag, hx]; rfl
  | _ => exact hx

/-- how a step goes on -/
abbrev Goes (cx : Cx) (E : Entry) (a : Act) (w : World) (o : Oper) (v : V) (g' : Env) (h' : Heap) : Prop :=
  ∀ (next : Act → World → Prop) (Q : Exit → Act → World → Prop), (∀ x w' m' c', InvP cx.hint.vars E m' c' w' (put o.dst v g') h' (a.put o.dst x) → next (a.put o.dst x) w') → o.wp cx.P a w next Q

theorem Done.goes {o : Oper} {v : V} {g' : Env} {h' : Heap} (hd : Done cx.P cx.hint.vars E w a o v g' h') : Goes cx E a w o v g' h' := fun next Q hn => by
  obtain ⟨x, w', m', c', hdo, hI⟩ := hd
  exact hdo.wp (hn x w' m' c' hI)

theorem op_ok (hI : InvP cx.hint.vars E m c w g h a) (hX : CxOK cx E) {o : Oper} {v : V} {g' : Env} {h' : Heap} (he : evOp cx (g, h) o = some (v, g', h')) (hd : ∀ t, o.dst = some t → t < E.nt)
    (hv : (∃ x, o.op = .assign x) ∨ ∀ t, o.dst = some t → t ∉ cx.hint.vars) : Goes cx E a w o v g' h' := by
  unfold evOp at he
  split at he
  · rename_i heff
    generalize hop : o.op = op at he heff
    have hv' : (∀ x, op ≠ .assign x) → ∀ t, o.dst = some t → t ∉ cx.hint.vars := fun hne => by
      rcases hv with ⟨x, hx⟩ | hv
      · rw [hop] at hx; exact absurd hx (hne x)
      · exact hv
    cases op with
    | assign x =>
      simp only [evEff, Option.some.injEq, Prod.mk.injEq] at he
      obtain ⟨rfl, rfl, rfl⟩ := he
      exact (eff_assign hI hop hd).goes
    | alloc t =>
      simp only [evEff] at he
      split at he
      · rename_i z hz
        split at he
        · rename_i hs
          simp only [Option.some.injEq, Prod.mk.injEq] at he
          obtain ⟨rfl, rfl, rfl⟩ := he
          exact (eff_alloc hI hop hz hs hd (hv' (fun x e => by cases e))).goes
        · cases he
      · cases he
    | box t x =>
      simp only [evEff] at he
      split at he
      · rename_i hs
        simp only [Bool.and_eq_true] at hs
        simp only [Option.some.injEq, Prod.mk.injEq] at he
        obtain ⟨rfl, rfl, rfl⟩ := he
        exact (eff_box hI hop hs.1 hs.2 hd (hv' (fun x e => by cases e))).goes
      · cases he
    | buildSlice t n parts =>
      simp only [evEff] at he
      split at he
      · rename_i e hu
        split at he
        · rename_i hc
          simp only [Option.some.injEq, Prod.mk.injEq] at he
          obtain ⟨rfl, rfl, rfl⟩ := he
          exact (eff_buildSlice hI hop hu hc hd (hv' (fun x e => by cases e))).goes
        · cases he
      · cases he
    | store t p x =>
      simp only [evEff] at he
      split at he
      · rename_i b off hp
        split at he
        · rename_i cs hcs
          split at he
          · rename_i hc
            have hst := eff_store hI hop hp hcs (by rw [hX.lo] at hc; exact hc) hd
            split at he
            · rename_i ds hds
              simp only [Option.some.injEq, Prod.mk.injEq] at he
              obtain ⟨rfl, rfl, rfl⟩ := he
              rw [hds] at hst
              exact hst.goes
            · rename_i hna
              simp only [Option.some.injEq, Prod.mk.injEq] at he
              obtain ⟨rfl, rfl, rfl⟩ := he
              have h1 : cellsV (own1s (takeO g x).1) = [own1s (takeO g x).1] := by
                cases hq : own1s (takeO g x).1 <;> first | rfl | (exact absurd hq (hna _))
              have h2 : tsize cx.P t = 1 := by
                have h3 := hc.2.2.1
                have h4 := congrArg List.length h1
                rw [cellsV_own1s, List.length_map] at h4
                rw [h4] at h3
                simpa using h3.symm
              rw [h1, h2] at hst
              have h3 : off < cs.length := by have := hc.2.1; omega
              rw [show cs.take off ++ [own1s (takeO g x).1] ++ cs.drop (off + 1) = cs.set off (own1s (takeO g x).1) by rw [List.set_eq_take_append_cons_drop, if_pos h3]; simp] at hst
              exact hst.goes
          · cases he
        · cases he
      · cases he
    | range t x =>
      simp only [evEff] at he
      split at he
      · rename_i b hx hu
        simp only [Option.some.injEq, Prod.mk.injEq] at he
        obtain ⟨rfl, rfl, rfl⟩ := he
        exact (eff_range hI hop hx hu hd (hv' (fun x e => by cases e))).goes
      · cases he
    | next x str =>
      simp only [evEff] at he
      split at he
      · rename_i b hx
        split at he
        · rename_i s pos hs
          split at he
          · rename_i hlo
            have := eff_next (P := cx.P) hI.untag hop (opd_untag_ptr hx) hs (by rw [← hX.lo]; exact hlo) (fun t i j r => noTagC t i j r) hd (hv' (fun x e => by cases e))
            split at he
            · rename_i hlt
              rw [if_pos hlt] at this
              simp only [Option.some.injEq, Prod.mk.injEq] at he
              obtain ⟨rfl, rfl, rfl⟩ := he
              exact this.goes
            · rename_i hlt
              rw [if_neg hlt] at this
              simp only [Option.some.injEq, Prod.mk.injEq] at he
              obtain ⟨rfl, rfl, rfl⟩ := he
              exact this.goes
          · cases he
        · cases he
      · cases he
    | convert s d x =>
      exact (eff_convert hI hop (is_string (by simpa [isEff] using heff)) he hd (hv' (fun x e => by cases e))).goes
    | call k =>
      simp only [evEff] at he
      split at he
      · rename_i f hc
        unfold evCall at he
        split at he
        · rename_i fid caps hf
          split at he
          · rename_i r h2 hcall
            simp only [Option.some.injEq, Prod.mk.injEq] at he
            obtain ⟨rfl, rfl, rfl⟩ := he
            have hle : E.lo ≤ h.length := Nat.le_trans hI.lole hI.hlen
            rw [hX.lo] at hcall
            exact fun next Q hn => call_op hI hop hc hf (Nat.le_refl _) (hX.call _ _ _ _ _ _ hle hcall) hd hn
          · cases he
        · cases he
      · rename_i hc
        split at he
        · rename_i x y e u hargs htypes
          split at he
          · rename_i r s' q hown hq
            split at he
            · rename_i hcond
              simp only [Option.some.injEq, Prod.mk.injEq] at he
              obtain ⟨rfl, rfl, rfl⟩ := he
              rw [hX.lo] at hown
              exact (eff_append hI hop hc hargs htypes hown hq hcond hd (hv' (fun x e => by cases e))).goes
            · cases he
          · cases he
        · cases he
      · cases he
    | _ => cases heff
  · rename_i heff
    simp only [Option.map_eq_some_iff, Prod.mk.injEq] at he
    obtain ⟨v', hp, rfl, rfl, rfl⟩ := he
    have hna : ∀ t, o.dst = some t → t ∉ cx.hint.vars := by
      rcases hv with ⟨x, hx⟩ | hv
      · rw [hx] at heff; exact absurd rfl heff
      · exact hv
    obtain ⟨y, hy, hvr, ht⟩ := pure_ok hI.core hp
    intro next Q hn
    exact (show Does cx.P w a o y w from .inl hy).wp (hn y w m c (hI.put hd hvr ht (.inl hna)))

/-- what is asked of the operations of a region -/
def OpsOK (cx : Cx) (E : Entry) (l : List Oper) : Prop := ∀ o ∈ l, (∀ t, o.dst = some t → t < E.nt) ∧ ((∃ x, o.op = .assign x) ∨ ∀ t, o.dst = some t → t ∉ cx.hint.vars)

theorem undef_put (hI : InvP cx.hint.vars E m c w g h a) {o : Oper} (hd : ∀ t, o.dst = some t → t < E.nt) (hv : ∀ t, o.dst = some t → t ∉ cx.hint.vars) :
    InvP cx.hint.vars E m c w (put o.dst (.v undef) g) h (a.put o.dst undef) := hI.putBare hd rfl rfl (.inl hv)

theorem not_assign {o : Oper} (h : isAssign o.op = false) (hv : (∃ x, o.op = .assign x) ∨ ∀ t, o.dst = some t → t ∉ vars) : ∀ t, o.dst = some t → t ∉ vars := by
  rcases hv with ⟨x, hx⟩ | hv
  · rw [hx] at h; cases h
  · exact hv

/-- operations in the order of the text -/
theorem ops_ok (hX : CxOK cx E) {ops : Array Oper} {Q : Exit → Act → World → Prop} : ∀ (l : List Oper) (m : List Nat) (c : Cl) (w : World) (g : Env) (h : Heap) (a : Act) (s' : St), OpsOK cx E l → InvP cx.hint.vars E m c w g h a → evOps cx ops l (g, h) = some s' →
    (∀ m' c' w' a', InvP cx.hint.vars E m' c' w' s'.1 s'.2 a' → Q .normal a' w') → wpList cx.P ops Q l a w
  | [], m, c, w, g, h, a, s', _, hI, he, hQ => by
    simp only [evOps, Option.some.injEq] at he
    subst he
    exact hQ m c w a hI
  | o :: l, m, c, w, g, h, a, s', hO, hI, he, hQ => by
    have ho := hO o (by simp)
    have hO' : OpsOK cx E l := fun o' h' => hO o' (by simp [h'])
    refine wpList_step fun K hK => ?_
    simp only [evOps] at he
    split at he
    · rename_i hw
      rw [want_spec hI hw, if_pos rfl]
      split at he
      · rename_i v g' h' hop
        refine op_ok hI hX hop ho.1 ho.2 K Q fun x w' m' c' hI' => hK _ _ ?_
        exact ops_ok hX l m' c' w' _ _ _ s' hO' hI' he hQ
      · cases he
    · rename_i hw
      rw [want_spec hI hw, if_neg (by simp)]
      split at he
      · cases he
      · rename_i hna
        exact hK _ _ (ops_ok hX l m c w _ _ _ s' hO' (undef_put hI ho.1 (not_assign (by simpa using hna) ho.2)) he hQ)
    · cases he

end
end Go.Lift
