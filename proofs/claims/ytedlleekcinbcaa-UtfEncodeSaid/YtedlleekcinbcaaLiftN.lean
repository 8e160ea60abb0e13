/- The lifting, fourteenth part: calls; operations one behind the other. -/
import Derived.Test.YtedlleekcinbcaaLiftM
namespace Go.Lift
set_option linter.unusedVariables false
set_option linter.unusedSimpArgs false
set_option linter.unusedSectionVars false
variable [GTab]

def act0 : Act := ⟨#[], []⟩

/-- objects in order -/
def HOK (m : List Nat) (c : Cl) (w : World) (h : Heap) : Prop := Core [] m c w [] h act0 ∧ ∀ (i : Nat) cs, cellsOfOb h i = some cs → ∀ v ∈ cs, okv (i + 1) v = true

/-- what the cells of objects from lo on own -/
def hoOf (m : List Nat) (w : World) (h : Heap) (lo : Nat) : Nat → Prop := fun b => ∃ i j r x, lo ≤ i ∧ At m w [] h act0 (.cell i j) r x ∧ ownBlk x = some b

/-- what a call's evaluation says of the machine's call -/
def CallOK (P : Program) (lo f : Nat) (args : List V) (h : Heap) (r : V) (h' : Heap) : Prop :=
  bare r = true ∧ (∀ xs w, (callFunc f xs).run P w = .ok (.enter f xs) w) ∧
  ∀ m c w (xs : Array Value), HOK m c w h → R2 (VRr m c w) args xs.toList → (h'.length = h.length ∧ h'.take lo = h.take lo) ∧
    Calls P f xs w fun e w' => ∃ x c', e = .returned x ∧ VRr m c' w' r x ∧ HOK m c' w' h' ∧ Fr lo (hoOf m w h lo) w m c w' m c' ∧ Owned lo (hoOf m w h lo) w m w' [] h' act0

section
variable {P : Program} {vars : List Nat} {m : List Nat} {c : Cl} {w : World} {g : Env} {h : Heap} {a : Act} {E : Entry}

theorem InvP.hok (hI : InvP vars E m c w g h a) : HOK m c w h := by
  have hC := hI.core
  have hAt : ∀ {l r x}, At m w [] h act0 l r x → At m w g h a l r x := fun {l r x} hl => by
    cases l with
    | slot t => exact absurd hl.1 (by simp [look])
    | cell i j => exact hl
  refine ⟨⟨hC.wf1, hC.wf2, hC.nd, hC.len, fun t => trivial, hC.ob, fun l r x hl => hC.own l r x (hAt hl), fun l l' r r' x x' b h1 h2 => hC.uniq l l' r r' x x' b (hAt h1) (hAt h2), fun t u r ht => by simp [look] at ht, fun t i j r ht => by simp [look] at ht, hC.gt⟩, hI.old⟩

theorem take_get {α : Type} {l l' : List α} {n i : Nat} (h : l.take n = l'.take n) (hi : i < n) : l[i]? = l'[i]? := by
  have := congrArg (·[i]?) h
  simpa [List.getElem?_take, hi] using this

theorem call_step (hI : InvP vars E m c w g h a) {lo f : Nat} {args : List V} {r : V} {h' : Heap} {xs : Array Value} (hlo : E.lo ≤ lo) (hOK : CallOK P lo f args h r h') (hargs : R2 (VRr m c w) args xs.toList) :
    Calls P f xs w fun e w' => ∃ x c', e = .returned x ∧ VRr m c' w' r x ∧ InvP vars E m c' w' (Lift.untag g) h' a ∧ Ext c w c' w' ∧
      ∀ i j r x, i < lo → At m w g h a (.cell i j) r x → At m w' g h' a (.cell i j) r x := by
  obtain ⟨hbare, hcf, hcall⟩ := hOK
  obtain ⟨⟨hlen, htake⟩, hcall⟩ := hcall m c w xs hI.hok hargs
  refine hcall.mono fun e w' ⟨x, c', he, hr, ⟨hC', hold'⟩, hF, hO⟩ => ⟨x, c', he, hr, ?_, hF.ext, ?_⟩
  rotate_left
  · intro i j r x hi ⟨cs, b, k1, k2, k3, k4⟩
    have hC := hI.core
    refine ⟨cs, b, ?_, k2, k3, ?_⟩
    · unfold cellsOfOb at *
      rw [take_get htake hi]; exact k1
    · rw [cell_of_heap (hF.fix b (hC.m_lt k3) (fun k hk hkb => ?_) (fun ⟨i', j', r', x', _, hat, hb'⟩ => ?_)).1]
      · exact k4
      · obtain ⟨l1, e1⟩ := List.getElem?_eq_some_iff.1 k3
        obtain ⟨l2, e2⟩ := List.getElem?_eq_some_iff.1 hkb
        have := (List.getElem_inj hC.nd).1 (e1.trans e2.symm)
        omega
      · have hat' : At m w g h a (.cell i' j') r' x' := hat
        exact ((hC.own _ _ _ hat').lt hb').2 (List.mem_of_getElem? k3)
  have hC := hI.core
  have hslot : ∀ {t r x b}, At m w g h a (.slot t) r x → ownBlk x = some b → b < w.heap.size ∧ b ∉ m ∧ ¬ hoOf m w h lo b := fun {t r x b} hl hb => by
    have h1 := (hC.own _ _ _ hl).lt hb
    refine ⟨h1.1, h1.2, fun ⟨i, j, r', x', _, hat, hb'⟩ => ?_⟩
    have hat' : At m w g h a (.cell i j) r' x' := hat
    have := hC.uniq _ _ _ _ _ _ b hl hat' hb hb'
    cases this
  have hfix : ∀ {b}, b < w.heap.size → b ∉ m → ¬ hoOf m w h lo b → w'.heap[b]? = w.heap[b]? ∧ c' b = c b := fun {b} h1 h2 h3 => hF.fix b h1 (fun i _ hi => h2 (List.mem_of_getElem? hi)) h3
  have hnho : ∀ {b}, b ∈ m → ¬ hoOf m w h lo b := fun {b} hb ⟨i, j, r', x', _, hat, hb'⟩ => by
    have hat' : At m w g h a (.cell i j) r' x' := hat
    exact ((hC.own _ _ _ hat').lt hb').2 hb
  -- an object below lo is as it was
  have hlow : ∀ {i j r x}, i < lo → At m w' (Lift.untag g) h' a (.cell i j) r x → At m w g h a (.cell i j) r x := fun {i j r x} hi hl => by
    obtain ⟨cs, b, k1, k2, k3, k4⟩ := hl
    have e1 : cellsOfOb h i = some cs := by
      unfold cellsOfOb at *
      rw [← take_get htake hi]; exact k1
    refine ⟨cs, b, e1, k2, k3, ?_⟩
    rw [← cell_of_heap (hF.fix b (hC.m_lt k3) (fun k hk hkb => ?_) (hnho (List.mem_of_getElem? k3))).1]
    · exact k4
    · have h1 := List.getElem?_eq_some_iff.1 k3
      have h2 := List.getElem?_eq_some_iff.1 hkb
      obtain ⟨l1, e1⟩ := h1
      obtain ⟨l2, e2⟩ := h2
      have := (List.getElem_inj hC.nd).1 (e1.trans e2.symm)
      omega
  have hcell : ∀ {i j r x}, At m w' (Lift.untag g) h' a (.cell i j) r x → At m w' [] h' act0 (.cell i j) r x := fun hl => hl
  have hslot' : ∀ {t r x}, At m w' (Lift.untag g) h' a (.slot t) r x → At m w g h a (.slot t) r x := fun {t r x} hl => At_untag (h := h) hl
  -- a block that a slot owns is owned by no object's cell now
  have hnew : ∀ {t i j r r' x x' b}, At m w g h a (.slot t) r x → At m w' (Lift.untag g) h' a (.cell i j) r' x' → ownBlk x = some b → ownBlk x' = some b → False := fun {t i j r r' x x' b} h1 h2 hb hb' => by
    obtain ⟨k1, k2, k3⟩ := hslot h1 hb
    rcases Nat.lt_or_ge i lo with hi | hi
    · have := hC.uniq _ _ _ _ _ _ b h1 (hlow hi h2) hb hb'
      cases this
    · rcases hO _ _ _ b (hcell h2) hi hb' with h3 | h3
      · omega
      · exact k3 h3
  refine ⟨⟨hC'.wf1, hC'.wf2, hC'.nd, hC'.len, fun t => ?_, hC'.ob, fun l r x hl => ?_, fun l l' r r' x x' b h1 h2 hb hb' => ?_, fun t u r ht => absurd ht (noTags t u r), fun t i j r ht => absurd ht (noTagC t i j r), hC'.gt⟩, ?_, fun l r x b hl hu hb => ?_, ?_, by rw [hlen]; exact hI.hlen, hI.ml, hI.lole, hI.nt, hI.df, hold'⟩
  · rw [look_untag]
    exact ((hC.env t).mono (Pre.refl m) hF.ext).untag
  · cases l with
    | slot t =>
      have h1 := hslot' hl
      refine (hC.own _ _ _ h1).keep fun b hb => ?_
      obtain ⟨k1, k2, k3⟩ := hslot h1 hb
      have := hfix k1 k2 k3
      exact ⟨this.1, this.2, id⟩
    | cell i j => exact hC'.own _ _ _ (hcell hl)
  · cases l with
    | slot t =>
      cases l' with
      | slot u => exact hC.uniq _ _ _ _ _ _ b (hslot' h1) (hslot' h2) hb hb'
      | cell i j => exact (hnew (hslot' h1) h2 hb hb').elim
    | cell i j =>
      cases l' with
      | slot u => exact (hnew (hslot' h2) h1 hb' hb).elim
      | cell i' j' => exact hC'.uniq _ _ _ _ _ _ b (hcell h1) (hcell h2) hb hb'
  · refine ⟨hF.os.trans hI.fr.os, hF.tape.trans hI.fr.tape, hF.output.trans hI.fr.output, Nat.le_trans hI.fr.size hF.size, hI.fr.pre, hI.fr.new, hI.fr.ext.trans hF.ext, fun b hb h1 h2 => ?_⟩
    have := hF.fix b (Nat.lt_of_lt_of_le hb hI.fr.size) (fun i hi hib => ?_) (fun ⟨i, j, r', x', hi, hat, hb'⟩ => ?_)
    · have h3 := hI.fr.fix b hb h1 h2
      exact ⟨this.1.trans h3.1, this.2.trans h3.2⟩
    · by_cases hil : i < E.m.length
      · have := hI.fr.pre i _ (List.getElem?_eq_getElem hil)
        rw [hib] at this
        cases this
        exact h1 i (by omega) (List.getElem?_eq_getElem hil)
      · have := hI.fr.new i b (by omega) hib
        omega
    · have hat' : At m w g h a (.cell i j) r' x' := hat
      rcases hI.owned _ _ _ b hat' (show E.lo ≤ i by omega) hb' with h3 | h3
      · omega
      · exact h2 h3
  · cases l with
    | slot t => exact hI.owned _ _ _ b (hslot' hl) trivial hb
    | cell i j =>
      rcases Nat.lt_or_ge i lo with hi | hi
      · exact hI.owned _ _ _ b (hlow hi hl) hu hb
      · rcases hO _ _ _ b (hcell hl) hi hb with h3 | ⟨i', j', r', x', hi', hat, hb'⟩
        · exact .inl (Nat.le_trans hI.fr.size h3)
        · have hat' : At m w g h a (.cell i' j') r' x' := hat
          exact hI.owned _ _ _ b hat' (show E.lo ≤ i' by omega) hb'
  · have := congrArg (List.take E.lo) htake
    simp only [List.take_take, Nat.min_eq_left hlo] at this
    rw [this]
    exact hI.hlo

/-- the guard, as the machine sees it -/
theorem want_spec (hI : InvP vars E m c w g h a) {ops : Array Oper} {o : Oper} {b : Bool} (hw : want ops g o = some b) : Region.wanted o (yielded ops a.tmps) = b := by
  unfold want at hw
  unfold Region.wanted
  cases hg : o.guard with
  | none => rw [hg] at hw; simp only [Option.some.injEq] at hw; exact hw
  | some p =>
    obtain ⟨j, want⟩ := p
    rw [hg] at hw
    simp only at hw ⊢
    unfold yielded
    cases hd : (ops[j]?).bind (·.dst) with
    | none => rw [hd] at hw; simp at hw; simp [hw]
    | some t =>
      rw [hd] at hw
      simp only at hw
      have he := hI.core.env t
      split at hw
      · rename_i x hx
        rw [hx] at he
        have he' : a.tmps.getD t undef = .bool x := he
        simp only [Option.some.injEq] at hw
        subst hw
        have : a.tmps[t]? = some (.bool x) := by
          rw [Array.getD_eq_getD_getElem?] at he'
          cases hq : a.tmps[t]? with
          | none => rw [hq] at he'; simp [undef] at he'
          | some y => rw [hq] at he'; simpa using he'
        simp [this]
      · rename_i y hx
        rw [hx] at he
        have he' : a.tmps.getD t undef = .tuple y := he
        simp only [Option.some.injEq] at hw
        subst hw
        have : ∀ z, a.tmps[t]? = some z → z = .tuple y := fun z hz => by
          rw [Array.getD_eq_getD_getElem?, hz] at he'
          simpa using he'
        cases hq : a.tmps[t]? with
        | none => simp [hq]
        | some z => rw [this z hq] at hq; simp [hq]
      · cases hw

/-- what is asked of an evaluation's surroundings -/
structure CxOK (cx : Cx) (E : Entry) : Prop where
  lo : cx.lo = E.lo
  base : cx.base = E.base
  call : ∀ lo f args h r h', lo ≤ h.length → cx.call lo f args h = some (r, h') → CallOK cx.P lo f args h r h'

theorem Does.wp {o : Oper} {x : Value} {w' : World} {next : Act → World → Prop} {Q : Exit → Act → World → Prop} (hd : Does P w a o x w') (hn : next (a.put o.dst x) w') : o.wp P a w next Q := by
  unfold Oper.wp
  rcases hd with hd | ⟨hd, rfl⟩
  · rw [hd]; exact hn
  · rw [hd]; exact hn

theorem exec_call {o : Oper} {k : Call} {f : Operand} {fid : Nat} {caps : Array Value} (ho : o.op = .call k) (hc : k.callee = .value f) (hf : a.eval f = .func (.func fid) #[] caps) (hcf : ∀ xs w, (callFunc fid xs).run P w = .ok (.enter fid xs) w) :
    (execOp a.eval o).run P w = .ok (.enter fid (k.args.map a.eval ++ caps)) w := by
  simp [execOp, ho, resolve, hc, Deferred.ofValue, hf, invoke, hcf]

theorem args_rel (hC : Core vars m c w g h a) (args : Array Operand) : R2 (VRr m c w) ((args.toList.map (opd g)).map fzs) (args.map a.eval).toList := by
  refine ⟨by simp, fun i u y hu hy => ?_⟩
  simp only [List.getElem?_map, Option.map_eq_some_iff, Array.toList_map] at hu hy
  obtain ⟨v, ⟨x, hx, rfl⟩, rfl⟩ := hu
  obtain ⟨x', hx', rfl⟩ := hy
  rw [hx] at hx'
  cases hx'
  exact (hC.opd x).fzs

/-- a call, where the evaluation takes it -/
theorem call_op (hI : InvP vars E m c w g h a) {o : Oper} {k : Call} {f : Operand} {fid lo : Nat} {caps : List V} {r : V} {h' : Heap} (ho : o.op = .call k) (hc : k.callee = .value f) (hf : opd g f = .fn fid caps) (hlo : E.lo ≤ lo)
    (hOK : CallOK P lo fid ((k.args.toList.map (opd g)).map fzs ++ caps) h r h') {next : Act → World → Prop} {Q : Exit → Act → World → Prop}
    (hd : ∀ t, o.dst = some t → t < E.nt) (hn : ∀ x w' m' c', InvP vars E m' c' w' (put o.dst r (Lift.untag g)) h' (a.put o.dst x) → next (a.put o.dst x) w') : o.wp P a w next Q := by
  have hfv := hI.core.opd f
  rw [hf] at hfv
  obtain ⟨xs, hxs, hcaps⟩ := hfv
  unfold Oper.wp
  rw [exec_call ho hc hxs hOK.2.1]
  have hargs : R2 (VRr m c w) ((k.args.toList.map (opd g)).map fzs ++ caps) (k.args.map a.eval ++ xs).toList := by
    rw [Array.toList_append]
    exact (args_rel hI.core k.args).append (hcaps.mono fun _ _ hv => VR.r (VR1.r hv.r))
  refine (call_step hI hlo hOK hargs).mono fun e w' ⟨x, c', he, hr, hI', _, _⟩ => ?_
  subst he
  exact hn x w' m c' (hI'.putBare hd hr hOK.1 (.inr fun t u r => noTags t u r))

/-- marks that still hold -/
theorem InvP.retag (hI : InvP vars E m c w (Lift.untag g) h a) (henv : ∀ t, VRr m c w (look g t) (a.tmps.getD t undef)) (hS : ∀ t u r, look g t = .list (.slot u) r → u ∈ vars ∧ look g u = .list .yes r ∧ a.tmps.getD t undef = a.tmps.getD u undef)
    (hT : ∀ t i j r, look g t = .list (.cell i j) r → At m w g h a (.cell i j) r (a.tmps.getD t undef)) : InvP vars E m c w g h a := by
  have hC := hI.core
  have hAt : ∀ {l r x}, At m w g h a l r x → At m w (Lift.untag g) h a l r x := fun {l r x} hl => by
    cases l with
    | slot t => exact ⟨by rw [look_untag]; exact untag1_yes.2 hl.1, hl.2⟩
    | cell i j => exact hl
  exact ⟨⟨hC.wf1, hC.wf2, hC.nd, hC.len, henv, hC.ob, fun l r x hl => hC.own l r x (hAt hl), fun l l' r r' x x' b h1 h2 => hC.uniq l l' r r' x x' b (hAt h1) (hAt h2), hS, hT, hC.gt⟩,
    hI.fr, fun l r x b hl hu hb => hI.owned l r x b (hAt hl) hu hb, hI.hlo, hI.hlen, hI.ml, hI.lole, hI.nt, hI.df, hI.old⟩

theorem cellsOfOb_lt {h : Heap} {i : Nat} {cs : List V} (hi : cellsOfOb h i = some cs) : i < h.length := by
  unfold cellsOfOb at hi
  split at hi
  · rename_i h0; exact (List.getElem?_eq_some_iff.1 h0).1
  · cases hi

/-- a call that writes nothing that was there -/
theorem call_quiet (hI : InvP vars E m c w g h a) {o : Oper} {k : Call} {f : Operand} {fid : Nat} {caps : List V} {r : V} {h' : Heap} (ho : o.op = .call k) (hc : k.callee = .value f) (hf : opd g f = .fn fid caps)
    (hOK : CallOK P h.length fid ((k.args.toList.map (opd g)).map fzs ++ caps) h r h') {next : Act → World → Prop} {Q : Exit → Act → World → Prop}
    (hd : ∀ t, o.dst = some t → t < E.nt) (hv : ∀ t, o.dst = some t → t ∉ vars) (hn : ∀ x w' m' c', InvP vars E m' c' w' (put o.dst r g) h (a.put o.dst x) → next (a.put o.dst x) w') : o.wp P a w next Q := by
  have hfv := hI.core.opd f
  rw [hf] at hfv
  obtain ⟨xs, hxs, hcaps⟩ := hfv
  have hargs : R2 (VRr m c w) ((k.args.toList.map (opd g)).map fzs ++ caps) (k.args.map a.eval ++ xs).toList := by
    rw [Array.toList_append]
    exact (args_rel hI.core k.args).append (hcaps.mono fun _ _ hv => VR.r (VR1.r hv.r))
  have hh : h' = h := by
    obtain ⟨h2, h1⟩ := (hOK.2.2 m c w _ hI.hok hargs).1
    rw [List.take_length, List.take_of_length_le (by rw [h2]; exact Nat.le_refl _)] at h1
    exact h1
  subst hh
  unfold Oper.wp
  rw [exec_call ho hc hxs hOK.2.1]
  refine (call_step hI (Nat.le_trans hI.lole hI.hlen) hOK hargs).mono fun e w' ⟨x, c', he, hr, hI', hE, hAt⟩ => ?_
  subst he
  refine hn x w' m c' (InvP.putBare (hI'.retag (fun t => (hI.core.env t).mono (Pre.refl m) hE) hI.core.tagS fun t i j r ht => ?_) hd hr hOK.1 (.inl hv))
  have h1 := hI.core.tagC t i j r ht
  have h2 := h1
  obtain ⟨cs, b, k1, _⟩ := h2
  exact hAt i j r _ (cellsOfOb_lt k1) h1

end
end Go.Lift
