/- The lifting, third part: operations that leave the state alone. -/
import Derived.Test.YtedlleekcinbcaaLiftB
namespace Go.Lift
set_option linter.unusedVariables false
set_option linter.unusedSimpArgs false
set_option linter.unusedSectionVars false
variable [GTab]

section
variable {P : Program} {vars : List Nat} {m : List Nat} {c : Cl} {w : World} {g : Env} {h : Heap} {a : Act}

theorem Core.opd (hC : Core vars m c w g h a) (x : Operand) : VRr m c w (opd g x) (a.eval x) := by
  cases x with
  | tmp t => exact hC.env t
  | const v => exact (VR_ofC v).r
  | global n =>
    simp only [Lift.opd]
    split
    · rename_i cs hg
      exact ⟨_, rfl, rfl, hC.gt n cs hg⟩
    · rfl
  | func f => exact ⟨#[], rfl, R2.nil⟩

/-- what a new temporary may say of itself -/
def TagOK (vars : List Nat) (m : List Nat) (w : World) (g : Env) (h : Heap) (a : Act) (v : V) (x : Value) : Prop :=
  (∀ r, v ≠ .list .yes r) ∧ (∀ u r, v = .list (.slot u) r → u ∈ vars ∧ look g u = .list .yes r ∧ x = a.tmps.getD u undef) ∧
    (∀ i j r, v = .list (.cell i j) r → At m w g h a (.cell i j) r x)

theorem TagOK.bare {v : V} {x : Value} (hb : bare v = true) : TagOK vars m w g h a v x := by
  refine ⟨fun r e => ?_, fun u r e => ?_, fun i j r e => ?_⟩ <;> subst e <;> simp [Lift.bare] at hb
theorem bare_cps (v : V) : bare (cps v) = true := by
  cases v <;> rfl
theorem bare_cp (v : V) : bare (cp v) = true := by
  cases v <;> rfl

theorem bare_ofC (y : Value) : bare (ofC y) = true := by
  unfold ofC
  split
  · rfl
  · unfold ofC1
    split
    · rfl
    · split <;> rfl
    · rfl

theorem run_type {t : TypeId} {d : TypeDesc} (hd : P.underlying t = some d) : (underlying t).run P w = .ok d w := run_underlying hd w
theorem run_sizeOf {t : TypeId} {i : TypeInfo} (hi : P.info? t = some i) : (sizeOf t).run P w = .ok i.size w := by
  simp [sizeOf, typeInfo, hi]

/-- whatever the operation is: the run that its value comes of -/
def Yields (P : Program) (w : World) (a : Act) (o : Oper) (x : Value) : Prop := (execOp a.eval o).run P w = .ok (.value x) w

theorem yields_of {o : Oper} {s : Sem Value} {x : Value} (he : execOp a.eval o = (do pure (Next.value (← s)))) (hs : s.run P w = .ok x w) : Yields P w a o x := by
  unfold Yields
  rw [he, Sem.run_bind, hs]
  rfl

theorem pure_move (hC : Core vars m c w g h a) {o : Oper} {x : Operand} (ho : o.op = .move x) {v : V} (hv : evPure P vars (g, h) (.move x) = some v) :
    ∃ y, Yields P w a o y ∧ VRr m c w v y ∧ TagOK vars m w g h a v y := by
  refine ⟨a.eval x, by simp [Yields, execOp, ho], ?_⟩
  cases x with
  | tmp t =>
    have he := hC.env t
    simp only [evPure] at hv
    split at hv
    · rename_i r hr
      cases hv
      rw [hr] at he
      refine ⟨VP.flag he _, fun r' e => ?_, fun u r' e => ?_, fun i j r' e => ?_⟩
      · split at e <;> cases e
      · split at e
        · cases e; rename_i hm; exact ⟨hm, hr, rfl⟩
        · cases e
      · split at e <;> cases e
    · cases hv
      exact ⟨he.cps, TagOK.bare (bare_cps _)⟩
  | const y => simp only [evPure, Option.some.injEq] at hv; subst hv; exact ⟨(VR_ofC y).r, TagOK.bare (bare_ofC y)⟩
  | global n =>
    have h1 := hC.opd (.global n)
    simp only [evPure, Lift.opd] at hv
    simp only [Lift.opd] at h1
    cases hg : GTab.tab n with
    | none => rw [hg] at hv h1; cases hv; exact ⟨h1, TagOK.bare rfl⟩
    | some cs => rw [hg] at hv h1; cases hv; exact ⟨h1, TagOK.bare rfl⟩
  | func f => cases hv; exact ⟨⟨#[], rfl, R2.nil⟩, TagOK.bare rfl⟩

theorem VRr.bool {x : Value} {b : Bool} (h : VRr m c w (.v (.bool b)) x) : x = .bool b := h
theorem VRr.v {x y : Value} (h : VRr m c w (.v y) x) : x = y := h

theorem pure_pick (hC : Core vars m c w g h a) {o : Oper} {k x y : Operand} (ho : o.op = .pick k x y) {v : V} (hv : evPure P vars (g, h) (.pick k x y) = some v) :
    ∃ y, Yields P w a o y ∧ VRr m c w v y ∧ TagOK vars m w g h a v y := by
  simp only [evPure] at hv
  split at hv
  · rename_i b hb
    cases hv
    have hk := hC.opd k
    rw [hb] at hk
    have hk' : a.eval k = .bool b := hk
    refine ⟨if b then a.eval x else a.eval y, ?_, ?_, ?_⟩
    · refine yields_of (s := do pure (if ← asBool (a.eval k) then a.eval x else a.eval y)) (by simp [execOp, ho]) ?_
      simp [hk', asBool]
    · cases b
      · exact (hC.opd y).cps
      · exact (hC.opd x).cps
    · cases b
      · exact TagOK.bare (bare_cps _)
      · exact TagOK.bare (bare_cps _)
  · cases hv

theorem R2_take_cp {cs : List V} {xs : List Value} (hr : R2 (VR1 m c w) cs xs) (n : Nat) : R2 (VR1 m c w) ((cs.take n).map cp) (xs.take n) := by
  simpa using (hr.take n).map (f := cp) (g := id) fun _ _ => VR1.cp

theorem ttag_true {t : TypeId} (ht : ttag P t = some true) : ∃ d, P.underlying t = some d ∧ d.isRow = true := by
  unfold ttag at ht
  split at ht
  · rename_i fs hf; exact ⟨_, hf, rfl⟩
  · rename_i n e hf; exact ⟨_, hf, rfl⟩
  · cases ht
  · cases ht
theorem ttag_false {t : TypeId} (ht : ttag P t = some false) : ∃ d, P.underlying t = some d ∧ d.isRow = false := by
  unfold ttag at ht
  split at ht
  · cases ht
  · cases ht
  · rename_i d h1 h2 hf
    refine ⟨d, hf, ?_⟩
    cases d <;> first | rfl | (exact absurd rfl (h1 _)) | (exact absurd rfl (h2 _ _))
  · cases ht
theorem info_of_underlying {t : TypeId} {d : TypeDesc} (hd : P.underlying t = some d) : ∃ i, P.info? t = some i := by
  unfold Program.underlying at hd
  cases hi : P.info? t with
  | some i => exact ⟨i, rfl⟩
  | none => simp [hi] at hd
theorem size_of_info {t : TypeId} {i : TypeInfo} (hi : P.info? t = some i) : tsize P t = i.size := by
  simp [tsize, Program.cellsOf, hi]
theorem run_isAgg_row {t : TypeId} {d : TypeDesc} (hd : P.underlying t = some d) : (isAgg t).run P w = .ok d.isRow w := by
  unfold isAgg
  rw [Sem.run_bind, run_underlying hd]
  cases d <;> rfl

/-- cells at an address, each as told -/
def CellsAt (R : V → Value → Prop) (w : World) (b o : Nat) (cs : List V) : Prop := ∀ (j : Nat) v, cs[j]? = some v → ∃ x, w.cell? ⟨b, o + j, none⟩ = some x ∧ R v x

theorem CellsAt.list {R : V → Value → Prop} {b o : Nat} : ∀ {cs : List V}, CellsAt R w b o cs → ∃ xs : List Value, xs.length = cs.length ∧ w.rangeAt b o xs ∧ R2 R cs xs := by
  intro cs
  induction cs generalizing o with
  | nil => intro _; exact ⟨[], rfl, fun j v hj => by simp at hj, R2.nil⟩
  | cons v cs ih =>
    intro hc
    obtain ⟨x, hx, hv⟩ := hc 0 v rfl
    obtain ⟨xs, hl, hr, h2⟩ := ih (o := o + 1) (fun j u hj => by
      obtain ⟨y, hy, hu⟩ := hc (j + 1) u (by simpa using hj)
      exact ⟨y, by rw [show o + 1 + j = o + (j + 1) by omega]; exact hy, hu⟩)
    refine ⟨x :: xs, by simp [hl], fun j u hj => ?_, R2.cons hv h2⟩
    cases j with
    | zero => simp at hj; subst hj; exact hx
    | succ j => rw [show o + (j + 1) = o + 1 + j by omega]; exact hr j u (by simpa using hj)

theorem CellsAt.take {R : V → Value → Prop} {b o n : Nat} {cs : List V} (hc : CellsAt R w b o cs) : CellsAt R w b o (cs.take n) := fun j v hj => by
  rw [List.getElem?_take] at hj
  split at hj
  · exact hc j v hj
  · cases hj
theorem CellsAt.drop {R : V → Value → Prop} {b o n : Nat} {cs : List V} (hc : CellsAt R w b o cs) : CellsAt R w b (o + n) (cs.drop n) := fun j v hj => by
  rw [List.getElem?_drop] at hj
  obtain ⟨x, hx, hv⟩ := hc _ v hj
  exact ⟨x, by rw [show o + n + j = o + (n + j) by omega]; exact hx, hv⟩

theorem take_load {t : TypeId} {b o : Nat} {cs : List V} (hc : CellsAt (VR1 m c w) w b o cs) {v : V} (hv : takeCells P t cs = some v) :
    ∃ y, (loadVar t ⟨b, o, none⟩).run P w = .ok y w ∧ VR m c w v y ∧ bare v = true := by
  unfold takeCells at hv
  split at hv
  · rename_i ht
    obtain ⟨d, hd, hrow⟩ := ttag_true ht
    obtain ⟨i, hi⟩ := info_of_underlying hd
    split at hv
    · rename_i hle
      cases hv
      obtain ⟨xs, hl, hr, h2⟩ := CellsAt.list hc
      refine ⟨.agg (xs.take (tsize P t)).toArray, ?_, ⟨_, rfl, ?_⟩, rfl⟩
      · refine run_loadVar_mid (P := P) w b o t (xs.take (tsize P t)) d (fun j u hj => ?_) hd hrow ?_
        · rw [List.getElem?_take] at hj
          split at hj
          · exact hr j u hj
          · cases hj
        · rw [hi]
          have := size_of_info hi
          simp only [Option.map_some, List.length_take, hl]
          congr 1
          omega
      · exact R2_take_cp h2 _
    · cases hv
  · rename_i ht
    obtain ⟨d, hd, hrow⟩ := ttag_false ht
    cases hcs : cs[0]? with
    | none => simp [hcs] at hv
    | some u =>
      simp only [hcs, Option.map_some, Option.some.injEq] at hv
      subst hv
      obtain ⟨x, hx, hu⟩ := hc 0 u hcs
      refine ⟨x, ?_, hu.cp.r, bare_cp _⟩
      simp only [Nat.add_zero] at hx
      simp [loadVar, run_isAgg_row hd, hrow, hx]
  · cases hv

theorem ROs.cells {ad : Addr} {cs : List V} (h : ROs c w ad cs) : CellsAt (VR1 m c w) w ad.block ad.off cs := fun j v hj => by
  obtain ⟨x, hx, hv⟩ := h.2 j v hj
  exact ⟨x, hx, VR1_of_VP hv⟩

theorem Core.obCells (hC : Core vars m c w g h a) {i b : Nat} {cs : List V} (hh : cellsOfOb h i = some cs) (hm : m[i]? = some b) :
    CellsAt (VR1 m c w) w b 0 cs ∧ ∀ (j : Nat) v x, cs[j]? = some v → w.cell? ⟨b, j, none⟩ = some x → VR1 m c w v x ∧ x.oneCell' = true := by
  unfold cellsOfOb at hh
  split at hh
  · rename_i cs' hcs
    cases hh
    obtain ⟨arr, e, f, hb, hle, _, hall⟩ := hC.ob i _ b hcs hm
    have hcell : ∀ j, w.cell? ⟨b, j, none⟩ = arr[j]? := fun j => by simp [World.cell?, hb]
    refine ⟨fun j v hj => ?_, fun j v x hj hx => hall j v x hj (by rw [← hcell]; exact hx)⟩
    have hlt : j < cs.length := (List.getElem?_eq_some_iff.1 hj).1
    have ha : arr[j]? = some arr[j] := Array.getElem?_eq_getElem (by omega)
    exact ⟨arr[j], by rw [Nat.zero_add, hcell, ha], (hall j v _ hj ha).1⟩
  · cases hh

theorem addr_eta {ad : Addr} (hs : ad.spot = none) : ad = ⟨ad.block, ad.off, none⟩ := by
  cases ad; simp at hs; simp [hs]

theorem loadV_ok (hC : Core vars m c w g h a) {t : TypeId} {p v : V} {y : Value} (hp : VRr m c w p y) (hv : loadV P h t p = some v) :
    ∃ z, (Instr.loadAt t y).run P w = .ok z w ∧ VR m c w v z ∧ TagOK vars m w g h a v z := by
  unfold loadV at hv
  split at hv
  · rename_i b o
    obtain ⟨gb, hg, rfl⟩ := hp
    split at hv
    · rename_i cs hcs
      obtain ⟨hc1, hc2⟩ := hC.obCells hcs hg
      have hrun : ∀ z, (loadVar t ⟨gb, o, none⟩).run P w = .ok z w → (Instr.loadAt t (.pointer (some ⟨gb, o, none⟩))).run P w = .ok z w := fun z hz => by
        simp [Instr.loadAt, Instr.sureAddr, hz]
      split at hv
      · obtain ⟨z, hz, hr, hb⟩ := take_load (by simpa using hc1.drop (n := o)) hv
        exact ⟨z, hrun z hz, hr, TagOK.bare hb⟩
      · rename_i ht
        obtain ⟨d, hd, hrow⟩ := ttag_false ht
        cases hj : cs[o]? with
        | none => simp [hj] at hv
        | some u =>
          simp only [hj, Option.map_some, Option.some.injEq] at hv
          subst hv
          obtain ⟨x, hx, hu⟩ := hc1 o u hj
          rw [Nat.zero_add] at hx
          refine ⟨x, hrun x (by simp [loadVar, run_isAgg_row hd, hrow, hx]), ?_, ?_⟩
          · unfold tagC
            split
            · exact VP.flag hu _
            · exact hu.cp.r
          · unfold tagC
            split
            · rename_i r
              refine ⟨fun r' e => (by cases e), fun u r' e => (by cases e), fun i j r' e => ?_⟩
              cases e
              exact ⟨cs, gb, hcs, hj, hg, hx⟩
            · exact TagOK.bare (bare_cp _)
      · cases hv
    · cases hv
  · obtain ⟨ad, rfl, hs, hr⟩ := hp
    obtain ⟨z, hz, hr, hb⟩ := take_load (m := m) (hr.cells (m := m)) hv
    refine ⟨z, ?_, hr, TagOK.bare hb⟩
    rw [addr_eta hs]
    simp [Instr.loadAt, Instr.sureAddr, hz]
  · cases hv

theorem pure_load (hC : Core vars m c w g h a) {o : Oper} {t : TypeId} {x : Operand} (ho : o.op = .load t x) {v : V} (hv : evPure P vars (g, h) (.load t x) = some v) :
    ∃ y, Yields P w a o y ∧ VRr m c w v y ∧ TagOK vars m w g h a v y := by
  obtain ⟨z, hz, hr, ht⟩ := loadV_ok hC (hC.opd x) hv
  exact ⟨z, yields_of (by simp [execOp, ho]) hz, hr.r, ht⟩

end
end Go.Lift
