/- The lifting, ninth part: an object is written; a row that nobody owns grows. -/
import Derived.Test.YtedlleekcinbcaaLiftH
namespace Go.Lift
set_option linter.unusedVariables false
set_option linter.unusedSimpArgs false
set_option linter.unusedSectionVars false
variable [GTab]

section
variable {P : Program} {vars : List Nat} {m : List Nat} {c : Cl} {w : World} {g : Env} {h : Heap} {a : Act}

theorem cellsOfOb_set {h : Heap} {i k : Nat} {o : Ob} {cs : List V} (hk : cellsOfOb (h.set i o) k = some cs) : (k = i ∧ o = .cells cs) ∨ (k ≠ i ∧ cellsOfOb h k = some cs) := by
  unfold cellsOfOb at *
  rw [List.getElem?_set] at hk
  by_cases hki : i = k
  · subst hki
    simp only [if_true] at hk
    by_cases hl : i < h.length
    · simp only [hl, if_true] at hk
      split at hk
      · rename_i cs' hcs
        cases hk; cases hcs
        exact .inl ⟨rfl, rfl⟩
      · cases hk
    · simp [hl] at hk
  · simp only [if_neg hki] at hk
    exact .inr ⟨Ne.symm hki, hk⟩

theorem InvP.setOb {E : Entry} (hI : InvP vars E m c w g h a) {i gb : Nat} {o' : Ob} {w' : World} (jf : Nat)
    (hlo : E.lo ≤ i) (hi : m[i]? = some gb)
    (hsz : w'.heap.size = w.heap.size) (hother : ∀ b, b ≠ gb → w'.heap[b]? = w.heap[b]?) (hos : w'.os = w.os) (htape : w'.tape = w.tape) (hout : w'.output = w.output)
    (hob : ObR m c w' o' gb)
    (hown : ∀ cs' (j : Nat) r x, o' = .cells cs' → cs'[j]? = some (.list .yes r) → w'.cell? ⟨gb, j, none⟩ = some x → (r = [] ∧ x = .slice none 0 0) ∨
      (j ≠ jf → At m w g h a (.cell i j) r x) ∧
      (j = jf → OwnB m c w r x ∧ (∀ l r' x' b, At m w g h a l r' x' → l ≠ .cell i j → ownBlk x = some b → ownBlk x' ≠ some b) ∧ ∀ b, ownBlk x = some b → E.w.heap.size ≤ b ∨ E.ho b))
    (hnt : ∀ t i j r, look g t ≠ .list (.cell i j) r)
    (hold : ∀ cs', o' = .cells cs' → ∀ v ∈ cs', okv (i + 1) v = true) :
    InvP vars E m c w' g (h.set i o') a := by
  have hC := hI.core
  have hc0 : c gb = 0 := hC.wf2 gb (List.mem_of_getElem? hi)
  have he : Ext c w c w' := ⟨fun _ => Nat.le_refl _, fun b o ho => by
    by_cases hb : b = gb
    · rw [hb, hc0] at ho; omega
    · exact cell_of_heap (hother b hb) o⟩
  have hmne : ∀ {k b}, m[k]? = some b → k ≠ i → b ≠ gb := fun {k b} hk hki e => by
    subst e
    have h1 := (List.getElem?_eq_some_iff.1 hk)
    have h2 := (List.getElem?_eq_some_iff.1 hi)
    obtain ⟨l1, e1⟩ := h1
    obtain ⟨l2, e2⟩ := h2
    exact hki ((List.getElem_inj hC.nd).1 (e1.trans e2.symm))
  have hAt : ∀ {l r x}, At m w' g (h.set i o') a l r x → (At m w g h a l r x ∧ l ≠ .cell i jf) ∨
      (l = .cell i jf ∧ OwnB m c w r x ∧ (∀ l r' x' b, At m w g h a l r' x' → l ≠ .cell i jf → ownBlk x = some b → ownBlk x' ≠ some b) ∧ ∀ b, ownBlk x = some b → E.w.heap.size ≤ b ∨ E.ho b) ∨ (r = [] ∧ x = .slice none 0 0) := fun {l r x} hl => by
    cases l with
    | slot t => exact .inl ⟨hl, fun e => by cases e⟩
    | cell k j =>
      obtain ⟨cs, b, h1, h2, h3, h4⟩ := hl
      rcases cellsOfOb_set h1 with ⟨rfl, ho⟩ | ⟨hki, hcs⟩
      · rw [hi] at h3
        cases h3
        rcases hown cs j r x ho h2 h4 with h0 | this
        · exact .inr (.inr h0)
        · by_cases hj : j = jf
          · subst hj
            exact .inr (.inl ⟨rfl, this.2 rfl⟩)
          · exact .inl ⟨this.1 hj, fun e => hj (by cases e; rfl)⟩
      · exact .inl ⟨⟨cs, b, hcs, h2, h3, by rw [← cell_of_heap (hother b (hmne h3 hki))]; exact h4⟩, fun e => hki (by cases e; rfl)⟩
  have hkeep : ∀ {r x}, OwnB m c w r x → OwnB m c w' r x := fun {r x} ho => ho.keep fun b hb => by
    have := ho.lt hb
    exact ⟨hother b (fun e => this.2 (e ▸ List.mem_of_getElem? hi)), rfl, id⟩
  refine ⟨⟨fun b hb => ?_, hC.wf2, hC.nd, by simp [hC.len], fun t => (hC.env t).mono (Pre.refl m) he, fun k o b ho hb => ?_, fun l r x hl => ?_, fun l l' r r' x x' b h1 h2 hb hb' => ?_, hC.tagS, fun t i j r ht => absurd ht (hnt t i j r), fun n cs hg => (hC.gt n cs hg).mono he⟩,
    ⟨hos.trans hI.fr.os, htape.trans hI.fr.tape, hout.trans hI.fr.output, by rw [hsz]; exact hI.fr.size, hI.fr.pre, hI.fr.new, hI.fr.ext.trans he, fun b hb h1 h2 => ?_⟩, fun l r x b hl hu hb => ?_, ?_, by simpa using hI.hlen, hI.ml, hI.lole, hI.nt, hI.df, fun k cs hcs v hv => ?_⟩
  · rw [hother b (fun e => by rw [e, hc0] at hb; omega)]
    exact hC.wf1 b hb
  · rw [List.getElem?_set] at ho
    by_cases hik : i = k
    · subst hik
      rw [hi] at hb
      cases hb
      by_cases hl : i < h.length
      · simp only [hl, if_true, Option.some.injEq] at ho
        subst ho
        exact hob
      · simp [hl] at ho
    · simp only [if_neg hik] at ho
      exact (hC.ob k o b ho hb).keep (hother b (hmne hb (Ne.symm hik))) (Pre.refl m) he
  · rcases hAt hl with ⟨hl, _⟩ | ⟨_, ho, _⟩ | h0
    · exact hkeep (hC.own l r x hl)
    · exact hkeep ho
    · exact .inl ⟨h0.2, h0.1⟩
  · rcases hAt h1 with ⟨g1, n1⟩ | ⟨e1, _, d1, _⟩ | ⟨_, rfl⟩
    · rcases hAt h2 with ⟨g2, n2⟩ | ⟨e2, _, d2, _⟩ | ⟨_, rfl⟩
      · exact hC.uniq l l' r r' x x' b g1 g2 hb hb'
      · exact absurd hb (d2 l r x b g1 n1 hb')
      · cases hb'
    · rcases hAt h2 with ⟨g2, n2⟩ | ⟨e2, _, d2, _⟩ | ⟨_, rfl⟩
      · exact absurd hb' (d1 l' r' x' b g2 n2 hb)
      · rw [e1, e2]
      · cases hb'
    · cases hb
  · by_cases hbg : b = gb
    · subst hbg
      by_cases hil : i < E.m.length
      · have := hI.fr.pre i _ (List.getElem?_eq_getElem hil)
        rw [hi] at this
        cases this
        exact absurd (List.getElem?_eq_getElem hil) (h1 i hlo)
      · have := hI.fr.new i b (by omega) hi
        omega
    · rw [hother b hbg]
      exact hI.fr.fix b hb h1 h2
  · rcases hAt hl with ⟨hl, _⟩ | ⟨_, _, _, ho⟩ | ⟨_, rfl⟩
    · exact hI.owned l r x b hl hu hb
    · exact ho b hb
    · cases hb
  · rw [List.take_set_of_le (by omega)]
    exact hI.hlo
  · rcases cellsOfOb_set hcs with ⟨rfl, ho⟩ | ⟨_, hcs⟩
    · exact hold cs ho v hv
    · exact hI.old k cs hcs v hv

/-- a row that nobody owns grows in place, or anew -/
theorem InvP.grown {E : Entry} (hI : InvP vars E m c w g h a) {c' : Cl} {w' : World} (fb : Option Nat)
    (hsz : w.heap.size ≤ w'.heap.size) (hold : ∀ b, b < w.heap.size → fb ≠ some b → w'.heap[b]? = w.heap[b]? ∧ c' b = c b)
    (hfb : ∀ b, fb = some b → b ∉ m ∧ (∀ l r x, At m w g h a l r x → ownBlk x ≠ some b) ∧ (E.w.heap.size ≤ b ∨ E.ho b) ∧ c b ≤ c' b ∧
      (∀ o, o < c b → w'.cell? ⟨b, o, none⟩ = w.cell? ⟨b, o, none⟩) ∧ ∃ arr e f, w'.heap[b]? = some (.cells arr e f) ∧ c' b ≤ arr.size)
    (hnew : ∀ b, w.heap.size ≤ b → fb ≠ some b → 0 < c' b → ∃ arr e f, w'.heap[b]? = some (.cells arr e f) ∧ c' b ≤ arr.size)
    (hos : w'.os = w.os) (htape : w'.tape = w.tape) (hout : w'.output = w.output) : InvP vars E m c' w' g h a := by
  have hC := hI.core
  have he : Ext c w c' w' := by
    refine ⟨fun b => ?_, fun b o ho => ?_⟩
    · by_cases hb : fb = some b
      · exact (hfb b hb).2.2.2.1
      · rcases Nat.lt_or_ge b w.heap.size with hl | hl
        · rw [(hold b hl hb).2]; exact Nat.le_refl _
        · rw [hC.c_zero hl]; exact Nat.zero_le _
    · by_cases hb : fb = some b
      · exact (hfb b hb).2.2.2.2.1 o ho
      · rcases Nat.lt_or_ge b w.heap.size with hl | hl
        · exact cell_of_heap (hold b hl hb).1 o
        · rw [hC.c_zero hl] at ho; omega
  have hm : ∀ {i b}, m[i]? = some b → w'.heap[b]? = w.heap[b]? ∧ c' b = c b := fun {i b} hi =>
    hold b (hC.m_lt hi) (fun e => (hfb b e).1 (List.mem_of_getElem? hi))
  have hAt : ∀ {l r x}, At m w' g h a l r x → At m w g h a l r x := fun {l r x} hl => by
    cases l with
    | slot t => exact hl
    | cell i j =>
      obtain ⟨cs, b, h1, h2, h3, h4⟩ := hl
      exact ⟨cs, b, h1, h2, h3, by rw [← cell_of_heap (hm h3).1]; exact h4⟩
  have hAt' : ∀ {l r x}, At m w g h a l r x → At m w' g h a l r x := fun {l r x} hl => by
    cases l with
    | slot t => exact hl
    | cell i j =>
      obtain ⟨cs, b, h1, h2, h3, h4⟩ := hl
      exact ⟨cs, b, h1, h2, h3, by rw [cell_of_heap (hm h3).1]; exact h4⟩
  refine ⟨⟨fun b hb => ?_, fun b hb => ?_, hC.nd, hC.len, fun t => (hC.env t).mono (Pre.refl m) he, fun i o b ho hb => (hC.ob i o b ho hb).keep (hm hb).1 (Pre.refl m) he, fun l r x hl => ?_, fun l l' r r' x x' b h1 h2 => hC.uniq l l' r r' x x' b (hAt h1) (hAt h2), hC.tagS, fun t i j r ht => hAt' (hC.tagC t i j r ht), fun n cs hg => (hC.gt n cs hg).mono he⟩,
    ⟨hos.trans hI.fr.os, htape.trans hI.fr.tape, hout.trans hI.fr.output, Nat.le_trans hI.fr.size hsz, hI.fr.pre, hI.fr.new, hI.fr.ext.trans he, fun b hb h1 h2 => ?_⟩, fun l r x b hl hu hb => hI.owned l r x b (hAt hl) hu hb, hI.hlo, hI.hlen, hI.ml, hI.lole, hI.nt, hI.df, hI.old⟩
  · by_cases hf : fb = some b
    · exact (hfb b hf).2.2.2.2.2
    · rcases Nat.lt_or_ge b w.heap.size with hl | hl
      · rw [(hold b hl hf).1, (hold b hl hf).2]
        exact hC.wf1 b (by rw [← (hold b hl hf).2]; exact hb)
      · exact hnew b hl hf hb
  · obtain ⟨i, hi, rfl⟩ := List.getElem_of_mem hb
    rw [(hm (List.getElem?_eq_getElem hi)).2]
    exact hC.wf2 _ hb
  · refine (hC.own l r x (hAt hl)).keep fun b hb => ?_
    have hb1 := (hC.own l r x (hAt hl)).lt hb
    have := hold b hb1.1 (fun e => (hfb b e).2.1 l r x (hAt hl) hb)
    exact ⟨this.1, this.2, id⟩
  · have hne : fb ≠ some b := fun e => by
      rcases (hfb b e).2.2.1 with h' | h'
      · omega
      · exact h2 h'
    have := hold b (Nat.lt_of_lt_of_le hb hI.fr.size) hne
    rw [this.1, this.2]
    exact hI.fr.fix b hb h1 h2

/-- fewer objects -/
theorem InvP.less {E : Entry} (hI : InvP vars E m c w g h a) {n : Nat} (hn : E.base ≤ n) (hg : ∀ p ∈ g, okv n p.2 = true ∧ untag1 p.2 = p.2 ∧ (∀ vs, p.2 ≠ .tup vs)) :
    InvP vars E (m.take n) c w g (h.take n) a := by
  have hC := hI.core
  have hget : ∀ {i b}, (m.take n)[i]? = some b → m[i]? = some b ∧ i < n := fun {i b} hi => by
    rw [List.getElem?_take] at hi
    split at hi
    · rename_i hl; exact ⟨hi, hl⟩
    · cases hi
  have hgeth : ∀ {i cs}, cellsOfOb (h.take n) i = some cs → cellsOfOb h i = some cs ∧ i < n := fun {i cs} hi => by
    unfold cellsOfOb at *
    rw [List.getElem?_take] at hi
    split at hi
    · rename_i cs' hcs
      split at hcs
      · rename_i hl; cases hi; rw [hcs]; exact ⟨rfl, hl⟩
      · cases hcs
    · cases hi
  have hlook : ∀ t, (look g t = .undef) ∨ ∃ p ∈ g, p.2 = look g t := by
    intro t
    clear hg hI hC
    induction g with
    | nil => exact .inl rfl
    | cons p g ih =>
      obtain ⟨k, y⟩ := p
      simp only [look]
      split
      · exact .inr ⟨_, List.mem_cons_self .., rfl⟩
      · rcases ih with h1 | ⟨p, hp, h1⟩
        · exact .inl h1
        · exact .inr ⟨p, List.mem_cons_of_mem _ hp, h1⟩
  have hAt : ∀ {l r x}, At (m.take n) w g (h.take n) a l r x → At m w g h a l r x := fun {l r x} hl => by
    cases l with
    | slot t => exact hl
    | cell i j =>
      obtain ⟨cs, b, h1, h2, h3, h4⟩ := hl
      exact ⟨cs, b, (hgeth h1).1, h2, (hget h3).1, h4⟩
  have hsub : ∀ {b}, b ∈ m.take n → b ∈ m := fun hb => List.mem_of_mem_take hb
  have hpl := hI.ml
  refine ⟨⟨hC.wf1, fun b hb => hC.wf2 b (hsub hb), hC.nd.sublist (List.take_sublist ..), by simp [hC.len], fun t => ?_, fun i o b ho hb => ?_, fun l r x hl => ?_, fun l l' r r' x x' b h1 h2 => hC.uniq l l' r r' x x' b (hAt h1) (hAt h2), hC.tagS, fun t i j r ht => ?_, hC.gt⟩,
    ⟨hI.fr.os, hI.fr.tape, hI.fr.output, hI.fr.size, fun i b hi => ?_, fun i b hi hb => hI.fr.new i b hi (hget hb).1, hI.fr.ext, hI.fr.fix⟩, fun l r x b hl hu hb => hI.owned l r x b (hAt hl) hu hb, ?_, ?_, hI.ml, hI.lole, hI.nt, hI.df, fun i cs hcs v hv => hI.old i cs (hgeth hcs).1 v hv⟩
  · rcases hlook t with h1 | ⟨p, hp, h1⟩
    · rw [h1]; trivial
    · have := hC.env t
      rw [← h1] at this ⊢
      refine VRr.less this ?_
      have h2 := (hg p hp)
      cases hq : p.2 <;> first | (rw [hq] at h2; exact h2.1) | (exact absurd hq (h2.2.2 _))
  · obtain ⟨h1, h2⟩ := hget hb
    rw [List.getElem?_take, if_pos h2] at ho
    have := hC.ob i o b ho h1
    cases o with
    | cells cs =>
      obtain ⟨arr, e, f, k1, k2, k3, k4⟩ := this
      refine ⟨arr, e, f, k1, k2, k3, fun j v x hv hx => ⟨?_, (k4 j v x hv hx).2⟩⟩
      have hok := okv_mono (hI.old i cs (by unfold cellsOfOb; rw [ho]) v (List.mem_of_getElem? hv)) (show i + 1 ≤ n from h2)
      have h5 := VR.less (k4 j v x hv hx).1.r hok
      have h6 := (k4 j v x hv hx).1
      cases v <;> first | exact h5 | exact h6.elim
    | iter s p => exact this
  · refine (hC.own l r x (hAt hl)).keep fun b hb => ⟨rfl, rfl, fun hn hb' => hn (hsub hb')⟩
  · rcases hlook t with h1 | ⟨p, hp, h1⟩
    · rw [h1] at ht; cases ht
    · have h2 := (hg p hp).2.1
      rw [h1, ht] at h2
      cases h2
  · rw [List.getElem?_take, if_pos]
    · exact hI.fr.pre i b hi
    · have := (List.getElem?_eq_some_iff.1 hi).1; omega
  · rw [List.take_take, Nat.min_eq_left (by have := hI.lole; omega)]
    exact hI.hlo
  · have := hI.hlen; simp; omega

end
end Go.Lift
