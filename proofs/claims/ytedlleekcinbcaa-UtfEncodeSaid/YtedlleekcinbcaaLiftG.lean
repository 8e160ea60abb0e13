/- The lifting, seventh part: temporaries are filled, marks go, memory is made. -/
import Derived.Test.YtedlleekcinbcaaLiftF
namespace Go.Lift
set_option linter.unusedVariables false
set_option linter.unusedSimpArgs false
set_option linter.unusedSectionVars false
variable [GTab]

theorem look_ins (t : Nat) (x : V) : ∀ (g : Env) (u : Nat), look (ins t x g) u = if u = t then x else look g u
  | [], u => by
    simp only [ins, look]
    by_cases h : u = t
    · simp [h]
    · simp [h, Ne.symm h]
  | (k, y) :: l, u => by
    unfold ins
    split
    · simp only [look]
      by_cases h : u = t
      · simp [h]
      · simp [h, Ne.symm h]
    · split
      · rename_i h1 h2
        subst h2
        simp only [look]
        by_cases h : u = t
        · simp [h]
        · simp [h, Ne.symm h]
      · rename_i h1 h2
        simp only [look, look_ins t x l u]
        by_cases hk : k = u
        · subst hk
          simp [Ne.symm h2]
        · simp [hk]

theorem look_untag : ∀ (g : Env) (u : Nat), look (untag g) u = untag1 (look g u)
  | [], u => rfl
  | (k, y) :: l, u => by
    simp only [untag, List.map_cons, look]
    split
    · rfl
    · exact look_untag l u

section
variable {P : Program} {vars : List Nat} {m : List Nat} {c : Cl} {w : World} {g : Env} {h : Heap} {a : Act}

theorem VRr.untag {v : V} {x : Value} (hv : VRr m c w v x) : VRr m c w (untag1 v) x := by
  cases v with
  | list k r => cases k <;> exact VP.flag hv _
  | _ => exact hv

theorem untag1_yes {v : V} {r : List (List V)} : untag1 v = .list .yes r ↔ v = .list .yes r := by
  cases v with
  | list k q => cases k <;> simp [untag1]
  | _ => simp [untag1]
theorem untag1_tag {v : V} {k : Own} {r : List (List V)} (hv : untag1 v = .list k r) : k = .yes ∨ k = .no := by
  cases v with
  | list k q => cases k <;> simp [untag1] at hv <;> simp [hv.1.symm]
  | _ => simp [untag1] at hv

/-- all marks go -/
theorem Core.untag (hC : Core vars m c w g h a) : Core vars m c w (untag g) h a := by
  have hAt : ∀ {l r x}, At m w (Lift.untag g) h a l r x → At m w g h a l r x := fun {l r x} hl => by
    cases l with
    | slot t => exact ⟨untag1_yes.1 (by rw [← look_untag]; exact hl.1), hl.2⟩
    | cell i j => exact hl
  refine ⟨hC.wf1, hC.wf2, hC.nd, hC.len, fun t => ?_, hC.ob, fun l r x hl => hC.own l r x (hAt hl), fun l l' r r' x x' b h1 h2 => hC.uniq l l' r r' x x' b (hAt h1) (hAt h2), fun t u r ht => ?_, fun t i j r ht => ?_, hC.gt⟩
  · rw [look_untag]; exact (hC.env t).untag
  · rw [look_untag] at ht; have := untag1_tag ht; simp at this
  · rw [look_untag] at ht; have := untag1_tag ht; simp at this

theorem noTags (t u : Nat) (r : List (List V)) : look (untag g) t ≠ .list (.slot u) r := fun ht => by
  rw [look_untag] at ht; have := untag1_tag ht; simp at this

theorem getD_set (tm : Array Value) (t u : Nat) (x : Value) (ht : t < tm.size) : (tm.setIfInBounds t x).getD u undef = if u = t then x else tm.getD u undef := by
  by_cases h : u = t
  · subst h; simp [Array.getD, ht]
  · simp only [if_neg h]
    simp only [Array.getD_eq_getD_getElem?, Array.getElem?_setIfInBounds_ne (Ne.symm h)]

/-- a slot is filled -/
theorem Core.ins (hC : Core vars m c w g h a) {t : Nat} {v : V} {x : Value} (ht : t < a.tmps.size) (hv : VRr m c w v x)
    (hown : ∀ r, v = .list .yes r → OwnB m c w r x ∧ ∀ l r' x' b, l ≠ .slot t → At m w g h a l r' x' → ownBlk x = some b → ownBlk x' ≠ some b)
    (htS : ∀ u r, v = .list (.slot u) r → u ∈ vars ∧ u ≠ t ∧ look g u = .list .yes r ∧ x = a.tmps.getD u undef)
    (htC : ∀ i j r, v = .list (.cell i j) r → At m w g h a (.cell i j) r x)
    (hno : t ∉ vars ∨ ∀ t' u r, look g t' ≠ .list (.slot u) r) :
    Core vars m c w (ins t v g) h { a with tmps := a.tmps.setIfInBounds t x } := by
  have hget := fun u => getD_set a.tmps t u x ht
  have hAt : ∀ {l r y}, At m w (Lift.ins t v g) h { a with tmps := a.tmps.setIfInBounds t x } l r y →
      (l = .slot t ∧ v = .list .yes r ∧ y = x) ∨ (l ≠ .slot t ∧ At m w g h a l r y) := fun {l r y} hl => by
    cases l with
    | slot u =>
      obtain ⟨h1, h2⟩ := hl
      rw [look_ins] at h1
      simp only [hget] at h2
      by_cases hu : u = t
      · subst hu
        simp only [if_true] at h1 h2
        exact .inl ⟨rfl, h1, h2⟩
      · simp only [if_neg hu] at h1 h2
        exact .inr ⟨fun e => hu (by cases e; rfl), h1, h2⟩
    | cell i j => exact .inr ⟨fun e => (by cases e), hl⟩
  refine ⟨hC.wf1, hC.wf2, hC.nd, hC.len, fun u => ?_, hC.ob, fun l r y hl => ?_, fun l l' r r' y y' b h1 h2 hb hb' => ?_, fun u s r hu => ?_, fun u i j r hu => ?_, hC.gt⟩
  · rw [look_ins]
    simp only [hget]
    split
    · exact hv
    · exact hC.env u
  · rcases hAt hl with ⟨_, he, rfl⟩ | ⟨_, hl⟩
    · exact (hown r he).1
    · exact hC.own l r y hl
  · rcases hAt h1 with ⟨e1, he, hy⟩ | ⟨n1, g1⟩
    · rcases hAt h2 with ⟨e2, _, _⟩ | ⟨n2, g2⟩
      · rw [e1, e2]
      · exact absurd hb' ((hown r he).2 l' r' y' b n2 g2 (hy ▸ hb))
    · rcases hAt h2 with ⟨e2, he, hy⟩ | ⟨n2, g2⟩
      · exact absurd hb ((hown r' he).2 l r y b n1 g1 (hy ▸ hb'))
      · exact hC.uniq l l' r r' y y' b g1 g2 hb hb'
  · rw [look_ins] at hu
    simp only [look_ins, hget]
    by_cases hut : u = t
    · simp only [hut, if_true] at hu ⊢
      obtain ⟨h1, h2, h3, h4⟩ := htS s r hu
      simp only [if_neg h2]
      exact ⟨h1, h3, h4⟩
    · simp only [if_neg hut] at hu ⊢
      obtain ⟨h1, h2, h3⟩ := hC.tagS u s r hu
      have hst : s ≠ t := by
        rcases hno with hno | hno
        · intro e; rw [e] at h1; exact hno h1
        · exact absurd hu (hno u s r)
      simp only [if_neg hst]
      exact ⟨h1, h2, h3⟩
  · rw [look_ins] at hu
    simp only [hget]
    by_cases hut : u = t
    · simp only [hut, if_true] at hu ⊢
      exact htC i j r hu
    · simp only [if_neg hut] at hu ⊢
      exact hC.tagC u i j r hu

/-- an owner's slot is left -/
theorem Core.release (hC : Core vars m c w g h a) {u : Nat} {r q : List (List V)} (hu : look g u = .list .yes r) (hq : q = r) : Core vars m c w (Lift.untag (Lift.ins u (.list .no q) g)) h a := by
  subst hq
  have hAt : ∀ {l r x}, At m w (Lift.untag (Lift.ins u (.list .no q) g)) h a l r x → l ≠ .slot u ∧ At m w g h a l r x := fun {l r x} hl => by
    cases l with
    | slot t =>
      obtain ⟨h1, h2⟩ := hl
      rw [look_untag, untag1_yes, look_ins] at h1
      split at h1
      · cases h1
      · rename_i ht
        exact ⟨fun e => ht (by cases e; rfl), h1, h2⟩
    | cell i j => exact ⟨fun e => (by cases e), hl⟩
  refine ⟨hC.wf1, hC.wf2, hC.nd, hC.len, fun t => ?_, hC.ob, fun l r x hl => hC.own l r x (hAt hl).2, fun l l' r r' x x' b h1 h2 => hC.uniq l l' r r' x x' b (hAt h1).2 (hAt h2).2, fun t s r ht => ?_, fun t i j r ht => ?_, hC.gt⟩
  · rw [look_untag, look_ins]
    apply VRr.untag
    split
    · rename_i ht
      subst ht
      have := hC.env t
      rw [hu] at this
      exact VP.flag this _
    · exact hC.env t
  · exact absurd ht (noTags t s r)
  · rw [look_untag] at ht; have := untag1_tag ht; simp at this

end
end Go.Lift
