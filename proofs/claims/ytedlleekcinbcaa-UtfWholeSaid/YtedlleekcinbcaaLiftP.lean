/- The lifting, sixteenth part: regions whose order is open. -/
import Derived.Test.YtedlleekcinbcaaLiftO
namespace Go.Lift
set_option linter.unusedVariables false
set_option linter.unusedSimpArgs false
set_option linter.unusedSectionVars false
variable [GTab]

section
variable {m : List Nat} {c : Cl} {w : World} {g : Env} {h : Heap} {a : Act} {E : Entry} {cx : Cx}

theorem opd_ins {t : Nat} {v : V} {x : Operand} (hx : x ≠ .tmp t) : opd (ins t v g) x = opd g x := by
  cases x with
  | tmp u =>
    simp only [opd, look_ins]
    rw [if_neg (fun e => hx (by rw [e]))]
  | _ => rfl

theorem bnd_congr {g g' : Env} {o : Option Operand} {d : Nat} (ho : ∀ x, o = some x → opd g x = opd g' x) : bnd g o d = bnd g' o d := by
  cases o with
  | none => rfl
  | some x => simp only [bnd, ho x rfl]

/-- a value hangs on its operands alone -/
theorem evPure_congr {P : Program} {vars : List Nat} {g g' : Env} {op : Op} (hx : ∀ x ∈ op.operands, opd g x = opd g' x) : evPure P vars (g, h) op = evPure P vars (g', h) op := by
  have pairs : ∀ ps : Array (Nat × Operand), (∀ x ∈ (ps.toList.map (·.2)), opd g x = opd g' x) → (ps.toList.map fun p => (p.1, opd g p.2)) = ps.toList.map fun p => (p.1, opd g' p.2) := fun ps hp =>
    List.map_congr_left fun p hm => by rw [hp p.2 (List.mem_map.2 ⟨p, hm, rfl⟩)]
  cases op <;> simp only [Op.operands] at hx <;> simp only [evPure]
  case move x =>
    have := hx x (by simp)
    cases x with
    | tmp t => simp only [opd] at this; simp only [this]
    | const v => rfl
    | global n => rfl
    | func f => rfl
  case pick k x y => rw [hx k (by simp), hx x (by simp), hx y (by simp)]
  case build t ps => rw [pairs ps fun x hm => hx x (by simpa using hm)]
  case load t x => rw [hx x (by simp)]
  case nilCheck x => rw [hx x (by simp)]
  case binOp op t x y u => rw [hx x (by simp), hx y (by simp)]
  case unOp op t x => rw [hx x (by simp)]
  case convert s d x => rw [hx x (by simp)]
  case makeFunc fn first caps =>
    have h1 : (caps.toList.all fun k => leaf0 (opd g k)) = (caps.toList.all fun k => leaf0 (opd g' k)) := by
      rw [Bool.eq_iff_iff, List.all_eq_true, List.all_eq_true]
      exact ⟨fun hh k hk => by rw [← hx k (by simp at hk; simp [hk])]; exact hh k hk, fun hh k hk => by rw [hx k (by simp at hk; simp [hk])]; exact hh k hk⟩
    have h2 : (caps.toList.map fun k => cp (opd g k)) = caps.toList.map fun k => cp (opd g' k) := List.map_congr_left fun k hk => by rw [hx k (by simp at hk; simp [hk])]
    rw [h1, h2]
  case slice t x lo hi mx =>
    rw [hx x (by simp)]
    have hlo : ∀ d, bnd g lo d = bnd g' lo d := fun d => bnd_congr fun y hy => hx y (by subst hy; simp)
    have hhi : ∀ d, bnd g hi d = bnd g' hi d := fun d => bnd_congr fun y hy => hx y (by subst hy; simp)
    simp only [hlo, hhi]
  case fieldAddr t x f => rw [hx x (by simp)]
  case field t x f => rw [hx x (by simp)]
  case indexAddr t x i => rw [hx x (by simp), hx i (by simp)]
  case index t x i => rw [hx x (by simp), hx i (by simp)]
  case extract x i => rw [hx x (by simp)]
  case call k =>
    have h1 : (k.args[0]?).map (opd g) = (k.args[0]?).map (opd g') := by
      cases hq : k.args[0]? with
      | none => rfl
      | some x => simp only [Option.map_some]; rw [hx x (by simp [Call.operands]; exact .inr (Array.mem_of_getElem? hq))]
    have h2 : k.args.toList.map (opd g) = k.args.toList.map (opd g') := List.map_congr_left fun x hm => hx x (by simp [Call.operands]; simp at hm; exact .inr hm)
    rw [h1, h2]

theorem evHead_congr {g g' : Env} {o : Oper} (hx : ∀ x ∈ o.op.operands, opd g x = opd g' x) : evHead cx (g, h) o = evHead cx (g', h) o := by
  unfold evHead
  split
  · generalize o.op = op at *
    cases op with
    | call k =>
      simp only
      split
      · rename_i f hc
        rw [hx f (by simp [Op.operands, Call.operands, hc])]
        have h2 : k.args.toList.map (opd g) = k.args.toList.map (opd g') := List.map_congr_left fun x hm => hx x (by simp [Op.operands, Call.operands]; simp at hm; exact .inr hm)
        rw [h2]
      · rfl
    | convert s d x =>
      simp only [evEff]
      rw [hx x (by simp [Op.operands])]
      split
      · rfl
      · split
        · split
          · simp
          · rfl
        · rfl
        · rfl
    | _ => rfl
  · exact evPure_congr hx

theorem ins_comm (t u : Nat) (x y : V) (htu : t ≠ u) : ∀ g : Env, ins t x (ins u y g) = ins u y (ins t x g)
  | [] => by
    simp only [ins]
    rcases Nat.lt_or_gt_of_ne htu with h1 | h1
    · simp [h1, show ¬ u < t by omega, Ne.symm htu]
    · simp [h1, show ¬ t < u by omega, htu]
  | (k, z) :: l => by
    have ih := ins_comm t u x y htu l
    rcases Nat.lt_trichotomy t k with h1 | h1 | h1 <;> rcases Nat.lt_trichotomy u k with h2 | h2 | h2
    · rcases Nat.lt_or_gt_of_ne htu with h3 | h3
      · simp [ins, h1, h2, h3, show ¬ u < t by omega, Ne.symm htu]
      · simp [ins, h1, h2, h3, show ¬ t < u by omega, htu]
    · subst h2; simp [ins, h1, show ¬ u < t by omega, Ne.symm htu]
    · simp [ins, h1, show ¬ u < k by omega, show ¬ u = k by omega, show ¬ u < t by omega, Ne.symm htu]
    · subst h1; simp [ins, h2, show ¬ t < u by omega, htu]
    · omega
    · subst h1; simp [ins, show ¬ u < t by omega, Ne.symm htu]
    · simp [ins, h2, show ¬ t < k by omega, show ¬ t = k by omega, show ¬ t < u by omega, htu]
    · subst h2; simp [ins, show ¬ t < u by omega, htu]
    · simp [ins, show ¬ t < k by omega, show ¬ t = k by omega, show ¬ u < k by omega, show ¬ u = k by omega, ih]

theorem put_comm {d e : Option Nat} (x y : V) (h : ∀ t, d = some t → e ≠ some t) : put d x (put e y g) = put e y (put d x g) := by
  cases d with
  | none => rfl
  | some t => cases e with
    | none => rfl
    | some u => exact ins_comm t u x y (fun e => h t rfl (by rw [e])) g

/-- operation number i, ahead of all that writes -/
def opA (cx : Cx) (ops : Array Oper) (i : Nat) (s : St) : Option St :=
  match ops[i]? with
  | none => some s
  | some o =>
    match want ops s.1 o with
    | some true => match evHead cx s o with
      | some v => some (put o.dst v s.1, s.2)
      | none => none
    | some false => if isAssign o.op then none else some (put o.dst (.v undef) s.1, s.2)
    | none => none

theorem want_put {ops : Array Oper} {o : Oper} {d : Option Nat} {v : V} (h : ∀ t, d = some t → t ∉ o.looksAt ops) : want ops (put d v g) o = want ops g o := by
  cases d with
  | none => rfl
  | some t =>
    unfold want
    cases hg : o.guard with
    | none => rfl
    | some p =>
      obtain ⟨j, b⟩ := p
      simp only
      cases hd : (ops[j]?).bind (·.dst) with
      | none => rfl
      | some u =>
        have hne : u ≠ t := fun e => h t rfl (by subst e; simp [Oper.looksAt, hg, hd])
        simp only [put, look_ins, if_neg hne]

theorem evHead_put {ops : Array Oper} {o : Oper} {d : Option Nat} {v : V} (h' : ∀ t, d = some t → t ∉ o.looksAt ops) : evHead cx (put d v g, h) o = evHead cx (g, h) o := by
  cases d with
  | none => rfl
  | some t =>
    refine evHead_congr fun x hx => opd_ins fun e => h' t rfl ?_
    subst e
    exact List.mem_append_left _ (List.mem_filterMap.2 ⟨.tmp t, by simpa using hx, rfl⟩)

/-- two operations that are apart may change places -/
theorem opA_swap {ops : Array Oper} {i j : Nat} {oi oj : Oper} (hi : ops[i]? = some oi) (hj : ops[j]? = some oj) (hap : oi.apart ops oj = true) {s s1 s2 : St} (h1 : opA cx ops i s = some s1) (h2 : opA cx ops j s1 = some s2) :
    ∃ s1', opA cx ops j s = some s1' ∧ opA cx ops i s1' = some s2 := by
  obtain ⟨a1, a2, a3⟩ := Oper.apart_spec hap
  obtain ⟨g, h⟩ := s
  -- each step fills its temporary, by a value that the other one does not touch
  have hstep : ∀ {k : Nat} {o : Oper}, ops[k]? = some o → ∀ {s s' : St}, opA cx ops k s = some s' → ∃ v, s' = (put o.dst v s.1, s.2) ∧ ∀ (d : Option Nat) (u : V), (∀ t, d = some t → t ∉ o.looksAt ops) → opA cx ops k (put d u s.1, s.2) = some (put o.dst v (put d u s.1), s.2) := by
    intro k o hk s s' hs
    unfold opA at hs
    rw [hk] at hs
    simp only at hs
    split at hs
    · rename_i hw
      split at hs
      · rename_i v hv
        cases hs
        refine ⟨v, rfl, fun d u hd => ?_⟩
        unfold opA
        rw [hk]
        simp only [want_put hd, hw, evHead_put hd, hv]
      · cases hs
    · rename_i hw
      split at hs
      · cases hs
      · rename_i hna
        cases hs
        refine ⟨.v undef, rfl, fun d u hd => ?_⟩
        unfold opA
        rw [hk]
        simp only [want_put hd, hw, hna]
        simp
    · cases hs
  obtain ⟨v, rfl, hiv⟩ := hstep hi h1
  -- j, without i ahead of it
  have hj0 : ∃ u, opA cx ops j (g, h) = some (put oj.dst u g, h) ∧ s2 = (put oj.dst u (put oi.dst v g), h) := by
    unfold opA at h2
    rw [hj] at h2
    simp only [want_put a1, evHead_put a1] at h2
    split at h2
    · rename_i hw
      split at h2
      · rename_i u hu
        cases h2
        exact ⟨u, by unfold opA; rw [hj]; simp only [hw, hu], rfl⟩
      · cases h2
    · rename_i hw
      split at h2
      · cases h2
      · rename_i hna
        cases h2
        exact ⟨.v undef, by unfold opA; rw [hj]; simp only [hw, hna]; simp, rfl⟩
    · cases h2
  obtain ⟨u, hu1, rfl⟩ := hj0
  refine ⟨_, hu1, ?_⟩
  rw [hiv oj.dst u a3]
  rw [put_comm v u a2]

/-- whatever order is picked: the operations ahead of number n, then L -/
def anyL (cx : Cx) (md : Region.Mode) (ops : Array Oper) (n : Nat) (L : Array Bool → St → Prop) : Nat → Array Bool → St → Prop
  | 0, listed, s => L listed s
  | f + 1, listed, s => Region.ready md ops listed ≠ [] ∧ ∀ i ∈ Region.ready md ops listed, i < n ∧ ∃ s', opA cx ops i s = some s' ∧ anyL cx md ops n L f (listed.setIfInBounds i true) s'

theorem anyL_first {md : Region.Mode} {ops : Array Oper} {n i : Nat} {oi : Oper} {L : Array Bool → St → Prop} (hi : ops[i]? = some oi)
    (hsc : n < ops.size → Region.sinkB md ops n = true ∧ Region.chainB md ops n = true) (hn : n ≤ ops.size) (hin : i < n) (hdone : ∀ listed s, L listed s → ∀ j ∈ Region.ready md ops listed, n ≤ j) :
    ∀ (f : Nat) (listed : Array Bool) (s s1 : St), HeadInv md ops n listed →
      (∀ j oj, ops[j]? = some oj → j ≠ i → listed.getD j true = false → (∀ e ∈ oj.after, Region.binds md e = true → e.on ≠ i) → oi.apart ops oj = true) →
      i ∈ Region.ready md ops listed → opA cx ops i s = some s1 →
      anyL cx md ops n L f (listed.setIfInBounds i true) s1 → anyL cx md ops n L (f + 1) listed s := by
  have hjn : ∀ (listed : Array Bool), HeadInv md ops n listed → i ∈ Region.ready md ops listed → ∀ j ∈ Region.ready md ops listed, j < n := fun listed inv hr j hj => by
    rcases Nat.lt_or_ge j n with h | h
    · exact h
    · rcases Nat.lt_or_ge n ops.size with h' | h'
      · exact absurd hj (tail_waits (hsc h').1 (hsc h').2 h' inv _ i rfl hin (mem_ready.1 hr).1 j h)
      · have := (mem_ready.1 hj).2
        obtain ⟨o, ho, _⟩ := this
        have := (Array.getElem?_eq_some_iff.1 ho).1
        omega
  intro f
  induction f with
  | zero =>
    intro listed s s1 inv _ hr h1 H
    refine ⟨fun h => (by rw [h] at hr; cases hr), fun j hj => ⟨hjn listed inv hr j hj, ?_⟩⟩
    by_cases hji : j = i
    · subst hji; exact ⟨s1, h1, H⟩
    · have := hdone _ _ H j (ready_mono hj hji)
      have := hjn listed inv hr j hj
      omega
  | succ f ih =>
    intro listed s s1 inv hfree hr h1 H
    have hun := (mem_ready.1 hr).1
    refine ⟨fun h => (by rw [h] at hr; cases hr), fun j hj => ⟨hjn listed inv hr j hj, ?_⟩⟩
    by_cases hji : j = i
    · subst hji; exact ⟨s1, h1, H⟩
    · obtain ⟨s2, h2, H2⟩ := (H.2 j (ready_mono hj hji)).2
      obtain ⟨hjun, oj, hoj, hall⟩ := mem_ready.1 hj
      have hnot : ∀ e ∈ oj.after, Region.binds md e = true → e.on ≠ i := fun e he hb heq => by
        have h1 := hall e he hb
        rw [heq, getD_both hun] at h1
        cases h1
      obtain ⟨s1', hs1', hs2⟩ := opA_swap hi hoj (hfree j oj hoj hji hjun hnot) h1 h2
      refine ⟨s1', hs1', ?_⟩
      have hfree' : ∀ k ok, ops[k]? = some ok → k ≠ i → (listed.setIfInBounds j true).getD k true = false →
          (∀ e ∈ ok.after, Region.binds md e = true → e.on ≠ i) → oi.apart ops ok = true := fun k ok hk hki hun hno => by
        refine hfree k ok hk hki ?_ hno
        by_cases hjk : j = k
        · subst hjk; exact hjun
        · rw [getD_set_ne true hjk] at hun; exact hun
      refine ih (listed.setIfInBounds j true) s1' s2 (inv.set hj (hjn listed inv hr j hj)) hfree' (ready_mono hr (Ne.symm hji)) hs2 ?_
      rw [Array.setIfInBounds_comm _ _ hji]
      exact H2

theorem opA_of_heads {ops : Array Oper} {o : Oper} {l : List Oper} {k : Nat} {s s' : St} (hk : ops[k]? = some o) (he : evHeads cx ops (o :: l) s = some s') : ∃ s1, opA cx ops k s = some s1 ∧ evHeads cx ops l s1 = some s' := by
  simp only [evHeads] at he
  unfold opA
  rw [hk]
  simp only
  split at he
  · rename_i hw
    split at he
    · rename_i v hv
      exact ⟨_, by simp only [hw, hv], he⟩
    · cases he
  · rename_i hw
    split at he
    · cases he
    · rename_i hna
      exact ⟨_, by simp only [hw, hna]; simp, he⟩
  · cases he

theorem anyL_lex {md : Region.Mode} {ops : Array Oper} {n gg : Nat} {s' : St} (hsc : n < ops.size → Region.sinkB md ops n = true ∧ Region.chainB md ops n = true) (hn : n ≤ ops.size) :
    ∀ (l : List Oper) (k : Nat) (listed : Array Bool) (s : St), (∀ j, j < l.length → l[j]? = ops[k + j]?) → k + l.length = n → HeadInv md ops n listed →
    Region.lexHead md ops gg l.length k listed = true → evHeads cx ops l s = some s' →
    anyL cx md ops n (fun listed' s2 => Region.seqB md ops gg n listed' = true ∧ s2 = s') l.length listed s
  | [], k, listed, s, _, hk, _, hB, h => by
    have : k = n := by simpa using hk
    subst this
    simp only [evHeads, Option.some.injEq] at h
    exact ⟨by simpa [Region.lexHead] using hB, h⟩
  | o :: l, k, listed, s, hl, hk, inv, hB, h => by
    have h0 : ops[k]? = some o := by simpa using (hl 0 (by simp)).symm
    simp only [List.length_cons, Region.lexHead, Bool.and_eq_true] at hB
    obtain ⟨⟨hr, hf⟩, hB'⟩ := hB
    have hkn : k < n := by simp only [List.length_cons] at hk; omega
    have hr' : k ∈ Region.ready md ops listed := by simpa using hr
    obtain ⟨s1, h1, h2⟩ := opA_of_heads h0 h
    exact anyL_first h0 hsc hn hkn (fun listed' s2 hL => seqB_ready hL.1) l.length listed s s1 inv (Region.free_spec h0 hf) hr' h1
      (anyL_lex hsc hn l (k + 1) _ _ (fun j hj => by have := hl (j + 1) (by simp; omega); simpa [Nat.add_assoc, Nat.add_comm 1 j] using this) (by simp only [List.length_cons] at hk; omega) (inv.set hr' hkn) hB' h2)

end
end Go.Lift
