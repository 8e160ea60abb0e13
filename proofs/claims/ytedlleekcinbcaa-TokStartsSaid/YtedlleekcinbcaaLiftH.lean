/- The lifting, eighth part: the memory grows, objects are written, owners go from place to place. -/
import Derived.Test.YtedlleekcinbcaaLiftG
namespace Go.Lift
set_option linter.unusedVariables false
set_option linter.unusedSimpArgs false
set_option linter.unusedSectionVars false
variable [GTab]

section
variable {P : Program} {vars : List Nat} {m : List Nat} {c : Cl} {w : World} {g : Env} {h : Heap} {a : Act}

theorem Core.c_zero (hC : Core vars m c w g h a) {b : Nat} (hb : w.heap.size ≤ b) : c b = 0 := by
  rcases Nat.eq_zero_or_pos (c b) with h0 | h0
  · exact h0
  · obtain ⟨arr, e, f, he, _⟩ := hC.wf1 b h0
    have := (Array.getElem?_eq_some_iff.1 he).1
    omega

theorem ObR.lt {o : Ob} {b : Nat} (ho : ObR m c w o b) : b < w.heap.size := by
  cases o with
  | cells cs => obtain ⟨arr, e, f, he, _⟩ := ho; exact (Array.getElem?_eq_some_iff.1 he).1
  | iter s p => exact (Array.getElem?_eq_some_iff.1 ho).1

theorem Core.m_lt (hC : Core vars m c w g h a) {i b : Nat} (hi : m[i]? = some b) : b < w.heap.size := by
  have hl : i < h.length := by rw [← hC.len]; exact (List.getElem?_eq_some_iff.1 hi).1
  exact (hC.ob i h[i] b (List.getElem?_eq_getElem hl) hi).lt

theorem cell_of_heap {w w' : World} {b : Nat} (hb : w'.heap[b]? = w.heap[b]?) (o : Nat) : w'.cell? ⟨b, o, none⟩ = w.cell? ⟨b, o, none⟩ := by
  simp [World.cell?, hb]
theorem frozen_of_heap {w w' : World} {b : Nat} (hb : w'.heap[b]? = w.heap[b]?) (o : Nat) : w'.frozen? ⟨b, o, none⟩ = w.frozen? ⟨b, o, none⟩ := by
  simp [World.frozen?, hb]

theorem ObR.keep {w' : World} {m' : List Nat} {c' : Cl} {o : Ob} {b : Nat} (ho : ObR m c w o b) (hb : w'.heap[b]? = w.heap[b]?) (hm : Pre m m') (e : Ext c w c' w') : ObR m' c' w' o b := by
  cases o with
  | cells cs =>
    obtain ⟨arr, el, f, he, hle, hfr, hall⟩ := ho
    exact ⟨arr, el, f, by rw [hb]; exact he, hle, fun j hj => by rw [frozen_of_heap hb]; exact hfr j hj, fun j v x hv hx => ⟨(hall j v x hv hx).1.mono hm e, (hall j v x hv hx).2⟩⟩
  | iter s p => show w'.heap[b]? = _; rw [hb]; exact ho

theorem OwnB.keep {w' : World} {m' : List Nat} {c' : Cl} {r : List (List V)} {x : Value} (ho : OwnB m c w r x) (hb : ∀ b, ownBlk x = some b → w'.heap[b]? = w.heap[b]? ∧ c' b = c b ∧ (b ∉ m → b ∉ m')) : OwnB m' c' w' r x := by
  rcases ho with h0 | ⟨b, cap, cur, e, sz, rfl, h1, h2, h3, h4, h5, h6, h7, h8, h9⟩
  · exact .inl h0
  · obtain ⟨k1, k2, k3⟩ := hb b rfl
    exact .inr ⟨b, cap, cur, e, sz, rfl, by rw [k1]; exact h1, h2, h3, h4, h5, h6, by rw [k2]; exact h7, k3 h8, h9⟩

theorem OwnB.lt {r : List (List V)} {x : Value} (ho : OwnB m c w r x) {b : Nat} (hb : ownBlk x = some b) : b < w.heap.size ∧ b ∉ m := by
  rcases ho with ⟨rfl, _⟩ | ⟨b', cap, cur, e, sz, rfl, h1, h2, h3, h4, h5, h6, h7, h8, h9⟩
  · cases hb
  · cases hb; exact ⟨(Array.getElem?_eq_some_iff.1 h1).1, h8⟩

theorem okc_mono {n k : Nat} (hn : n ≤ k) {v : V} (hv : okc n v = true) : okc k v = true := by
  cases v <;> first | exact hv | (simp [okc] at hv ⊢; omega)
theorem okv_mono {n k : Nat} {v : V} (hv : okv n v = true) (hn : n ≤ k) : okv k v = true := by
  cases v with
  | agg cs => simp only [okv, List.all_eq_true] at hv ⊢; exact fun x hx => okc_mono hn (hv x hx)
  | fn f cs => simp only [okv, List.all_eq_true] at hv ⊢; exact fun x hx => okc_mono hn (hv x hx)
  | undef => rfl
  | v y => rfl
  | nil => rfl
  | list k r => rfl
  | rp cs => rfl
  | tup vs => cases hv
  | ptr b o => exact okc_mono (v := .ptr b o) hn hv
  | buf b o k => exact okc_mono (v := .buf b o k) hn hv
theorem VR0.okc {v : V} {x : Value} (hv : VR0 m c w v x) : okc m.length v = true := by
  cases v with
  | ptr b o => obtain ⟨g, hg, _⟩ := hv; simp [Lift.okc]; exact (List.getElem?_eq_some_iff.1 hg).1
  | buf b o n => obtain ⟨g, cap, hg, _⟩ := hv; simp [Lift.okc]; exact (List.getElem?_eq_some_iff.1 hg).1
  | agg cs => exact hv.elim
  | tup cs => exact hv.elim
  | fn f cs => exact hv.elim
  | _ => rfl
theorem VR1.okv {v : V} {x : Value} (hv : VR1 m c w v x) : okv m.length v = true := by
  cases v with
  | fn f cs =>
    obtain ⟨xs, rfl, hr⟩ := hv
    simp only [Lift.okv, List.all_eq_true]
    intro y hy
    obtain ⟨i, hi, rfl⟩ := List.getElem_of_mem hy
    obtain ⟨z, hz, hv⟩ := hr.get (List.getElem?_eq_getElem hi)
    exact hv.okc
  | agg cs => exact hv.elim
  | tup cs => exact hv.elim
  | undef => rfl
  | v y => rfl
  | nil => rfl
  | list k r => rfl
  | ptr b o => exact VR0.okc (c := c) (w := w) (v := .ptr b o) (x := x) hv
  | rp cs => rfl
  | buf b o n => exact VR0.okc (c := c) (w := w) (v := .buf b o n) (x := x) hv

/-- what is new when the memory grows -/
structure Grow (m : List Nat) (c : Cl) (w : World) (h : Heap) (nm : List Nat) (c' : Cl) (w' : World) (nh : Heap) : Prop where
  size : w.heap.size ≤ w'.heap.size
  old : ∀ b, b < w.heap.size → w'.heap[b]? = w.heap[b]?
  oldc : ∀ b, b < w.heap.size → c' b = c b
  newc : ∀ b, w.heap.size ≤ b → 0 < c' b → ∃ arr e f, w'.heap[b]? = some (.cells arr e f) ∧ c' b ≤ arr.size
  nm1 : ∀ b ∈ nm, w.heap.size ≤ b ∧ c' b = 0
  nd : nm.Nodup
  len : nm.length = nh.length
  ob : ∀ (i : Nat) o b, nh[i]? = some o → nm[i]? = some b → ObR (m ++ nm) c' w' o b
  one : nm.length ≤ 1
  noOwn : ∀ (i : Nat) (cs : List V) (j : Nat) (r : List (List V)) (b : Nat), nh[i]? = some (.cells cs) → cs[j]? = some (.list .yes r) → nm[i]? = some b → r = [] ∧ w'.cell? ⟨b, j, none⟩ = some (.slice none 0 0)
  os : w'.os = w.os
  tape : w'.tape = w.tape
  output : w'.output = w.output

theorem Grow.ext {nm : List Nat} {c' : Cl} {w' : World} {nh : Heap} (hG : Grow m c w h nm c' w' nh) (hC : Core vars m c w g h a) : Ext c w c' w' := by
  refine ⟨fun b => ?_, fun b o ho => ?_⟩
  · rcases Nat.lt_or_ge b w.heap.size with hb | hb
    · rw [hG.oldc b hb]; exact Nat.le_refl _
    · rw [hC.c_zero hb]; exact Nat.zero_le _
  · rcases Nat.lt_or_ge b w.heap.size with hb | hb
    · exact cell_of_heap (hG.old b hb) o
    · rw [hC.c_zero hb] at ho; omega

theorem cellsOfOb_append {h nh : Heap} {i : Nat} {cs : List V} (hi : cellsOfOb (h ++ nh) i = some cs) : (i < h.length ∧ cellsOfOb h i = some cs) ∨ (h.length ≤ i ∧ nh[i - h.length]? = some (.cells cs)) := by
  unfold cellsOfOb at *
  rw [List.getElem?_append] at hi
  split at hi
  · rename_i cs' hcs
    cases hi
    split at hcs
    · rename_i hl; rw [hcs]; exact .inl ⟨hl, rfl⟩
    · rename_i hl; exact .inr ⟨by omega, hcs⟩
  · cases hi

theorem Core.grow {nm : List Nat} {c' : Cl} {w' : World} {nh : Heap} (hC : Core vars m c w g h a) (hG : Grow m c w h nm c' w' nh) :
    Core vars (m ++ nm) c' w' g (h ++ nh) a := by
  have he := hG.ext hC
  have hmm : ∀ {i b}, m[i]? = some b → b ∉ nm := fun hi hb => by have := hC.m_lt hi; have := (hG.nm1 _ hb).1; omega
  have hAt : ∀ {l r x}, At (m ++ nm) w' g (h ++ nh) a l r x → At m w g h a l r x ∨ (r = [] ∧ x = .slice none 0 0) := fun {l r x} hl => by
    cases l with
    | slot t => exact .inl hl
    | cell i j =>
      obtain ⟨cs, b, h1, h2, h3, h4⟩ := hl
      rcases cellsOfOb_append h1 with ⟨hi, hcs⟩ | ⟨hi, hcs⟩
      · rw [List.getElem?_append_left (by rw [hC.len]; exact hi)] at h3
        exact .inl ⟨cs, b, hcs, h2, h3, by rw [← cell_of_heap (hG.old b (hC.m_lt h3))]; exact h4⟩
      · rw [List.getElem?_append_right (by rw [hC.len]; exact hi), hC.len] at h3
        obtain ⟨k1, k2⟩ := hG.noOwn _ cs j r b hcs h2 h3
        rw [h4] at k2
        exact .inr ⟨k1, Option.some.inj k2⟩
  have hAt' : ∀ {l r x}, At m w g h a l r x → At (m ++ nm) w' g (h ++ nh) a l r x := fun {l r x} hl => by
    cases l with
    | slot t => exact hl
    | cell i j =>
      obtain ⟨cs, b, h1, h2, h3, h4⟩ := hl
      refine ⟨cs, b, ?_, h2, Pre.append m nm i b h3, by rw [cell_of_heap (hG.old b (hC.m_lt h3))]; exact h4⟩
      unfold cellsOfOb at *
      split at h1
      · rename_i cs' hcs
        cases h1
        rw [List.getElem?_append_left (List.getElem?_eq_some_iff.1 hcs).1, hcs]
      · cases h1
  refine ⟨fun b hb => ?_, fun b hb => ?_, ?_, by simp [hC.len, hG.len], fun t => (hC.env t).mono (Pre.append m nm) he, fun i o b ho hb => ?_, fun l r x hl => ?_, fun l l' r r' x x' b h1 h2 hb hb' => ?_, hC.tagS, fun t i j r ht => hAt' (hC.tagC t i j r ht), fun n cs hg => (hC.gt n cs hg).mono he⟩
  · rcases Nat.lt_or_ge b w.heap.size with hl | hl
    · rw [hG.oldc b hl] at hb
      rw [hG.oldc b hl, hG.old b hl]
      exact hC.wf1 b hb
    · exact hG.newc b hl hb
  · rcases List.mem_append.1 hb with hb | hb
    · obtain ⟨i, hi, rfl⟩ := List.getElem_of_mem hb
      rw [hG.oldc _ (hC.m_lt (List.getElem?_eq_getElem hi))]
      exact hC.wf2 _ hb
    · exact (hG.nm1 b hb).2
  · rw [List.nodup_append]
    refine ⟨hC.nd, hG.nd, fun x hx y hy e => ?_⟩
    obtain ⟨i, hi, rfl⟩ := List.getElem_of_mem hx
    subst e
    exact hmm (List.getElem?_eq_getElem hi) hy
  · rw [List.getElem?_append] at ho hb
    rw [hC.len] at hb
    split at ho
    · rename_i hl
      rw [if_pos hl] at hb
      exact (hC.ob i o b ho hb).keep (hG.old b (hC.m_lt hb)) (Pre.append m nm) he
    · rename_i hl
      rw [if_neg hl] at hb
      exact hG.ob _ o b ho hb
  · rcases hAt hl with hl | ⟨rfl, rfl⟩
    · refine (hC.own l r x hl).keep fun b hb => ?_
      have := (hC.own l r x hl).lt hb
      exact ⟨hG.old b this.1, hG.oldc b this.1, fun hn hb' => by
        rcases List.mem_append.1 hb' with h' | h'
        · exact hn h'
        · have := (hG.nm1 b h').1; omega⟩
    · exact .inl ⟨rfl, rfl⟩
  · rcases hAt h1 with h1 | ⟨rfl, rfl⟩
    · rcases hAt h2 with h2 | ⟨rfl, rfl⟩
      · exact hC.uniq l l' r r' x x' b h1 h2 hb hb'
      · cases hb'
    · cases hb

/-- all that is asked of a state on its way from a call's begin -/
structure Entry where
  lo : Nat
  base : Nat
  w : World
  m : List Nat
  c : Cl
  ho : Nat → Prop
  h : Heap
  nt : Nat

structure InvP (vars : List Nat) (E : Entry) (m : List Nat) (c : Cl) (w : World) (g : Env) (h : Heap) (a : Act) : Prop where
  core : Core vars m c w g h a
  fr : Fr E.lo E.ho E.w E.m E.c w m c
  owned : Owned E.lo E.ho E.w m w g h a
  hlo : h.take E.lo = E.h.take E.lo
  hlen : E.base ≤ h.length
  ml : E.m.length = E.base
  lole : E.lo ≤ E.base
  nt : a.tmps.size = E.nt
  df : a.defers = []
  old : ∀ (i : Nat) cs, cellsOfOb h i = some cs → ∀ v ∈ cs, okv (i + 1) v = true

theorem InvP.grow {E : Entry} {nm : List Nat} {c' : Cl} {w' : World} {nh : Heap} (hI : InvP vars E m c w g h a) (hG : Grow m c w h nm c' w' nh) :
    InvP vars E (m ++ nm) c' w' g (h ++ nh) a := by
  have hC := hI.core
  refine ⟨hC.grow hG, ?_, ?_, ?_, by simp; have := hI.hlen; omega, hI.ml, hI.lole, hI.nt, hI.df, fun i cs hcs v hv => ?_⟩
  · refine ⟨hG.os.trans hI.fr.os, hG.tape.trans hI.fr.tape, hG.output.trans hI.fr.output, Nat.le_trans hI.fr.size hG.size, hI.fr.pre.trans (Pre.append m nm), fun i b hi hb => ?_, hI.fr.ext.trans (hG.ext hC), fun b hb h1 h2 => ?_⟩
    · rw [List.getElem?_append] at hb
      split at hb
      · exact hI.fr.new i b hi hb
      · exact Nat.le_trans hI.fr.size (hG.nm1 b (List.mem_of_getElem? hb)).1
    · have hl := Nat.lt_of_lt_of_le hb hI.fr.size
      rw [hG.old b hl, hG.oldc b hl]
      exact hI.fr.fix b hb h1 h2
  · intro l r x b hl hu hb
    cases l with
    | slot t => exact hI.owned (.slot t) r x b hl hu hb
    | cell i j =>
      obtain ⟨cs, bb, h1, h2, h3, h4⟩ := hl
      rcases cellsOfOb_append h1 with ⟨hi, hcs⟩ | ⟨hi, hcs⟩
      · rw [List.getElem?_append_left (by rw [hC.len]; exact hi)] at h3
        exact hI.owned (.cell i j) r x b ⟨cs, bb, hcs, h2, h3, by rw [← cell_of_heap (hG.old bb (hC.m_lt h3))]; exact h4⟩ hu hb
      · rw [List.getElem?_append_right (by rw [hC.len]; exact hi), hC.len] at h3
        obtain ⟨k1, k2⟩ := hG.noOwn _ cs j r bb hcs h2 h3
        rw [h4] at k2
        cases k2
        cases hb
  · rw [List.take_append_of_le_length (by have := hI.hlen; have := hI.lole; omega)]
    exact hI.hlo
  · rcases cellsOfOb_append hcs with ⟨_, hcs⟩ | ⟨hi', hcs⟩
    · exact hI.old i cs hcs v hv
    · have hl : i - h.length < nm.length := by rw [hG.len]; exact (List.getElem?_eq_some_iff.1 hcs).1
      obtain ⟨arr, e, f, k1, k2, k3, k4⟩ := hG.ob _ _ _ hcs (List.getElem?_eq_getElem hl)
      obtain ⟨j, hj, rfl⟩ := List.getElem_of_mem hv
      have hok := (k4 j _ _ (List.getElem?_eq_getElem hj) (Array.getElem?_eq_getElem (by omega))).1.okv
      refine okv_mono hok ?_
      have := hC.len
      simp
      have := hG.one
      omega

/-- a slot is filled: what else is asked -/
theorem InvP.ins {E : Entry} (hI : InvP vars E m c w g h a) {t : Nat} {v : V} {x : Value} (ht : t < E.nt) (hv : VRr m c w v x)
    (hown : ∀ r, v = .list .yes r → (OwnB m c w r x ∧ ∀ l r' x' b, l ≠ .slot t → At m w g h a l r' x' → ownBlk x = some b → ownBlk x' ≠ some b) ∧ ∀ b, ownBlk x = some b → E.w.heap.size ≤ b ∨ E.ho b)
    (htS : ∀ u r, v = .list (.slot u) r → u ∈ vars ∧ u ≠ t ∧ look g u = .list .yes r ∧ x = a.tmps.getD u undef)
    (htC : ∀ i j r, v = .list (.cell i j) r → At m w g h a (.cell i j) r x)
    (hno : t ∉ vars ∨ ∀ t' u r, look g t' ≠ .list (.slot u) r) :
    InvP vars E m c w (Lift.ins t v g) h (a.put (some t) x) := by
  have ht' : t < a.tmps.size := by rw [hI.nt]; exact ht
  refine ⟨hI.core.ins ht' hv (fun r hr => (hown r hr).1) htS htC hno, hI.fr, ?_, hI.hlo, hI.hlen, hI.ml, hI.lole, by simp [Act.put, hI.nt], hI.df, hI.old⟩
  intro l r y b hl hu hb
  cases l with
  | slot u =>
    obtain ⟨h1, h2⟩ := hl
    rw [look_ins] at h1
    simp only [Act.put, getD_set a.tmps t u x ht'] at h2
    by_cases hut : u = t
    · simp only [hut, if_true] at h1 h2
      subst h2
      exact (hown r h1).2 b hb
    · simp only [if_neg hut] at h1 h2
      exact hI.owned (.slot u) r y b ⟨h1, h2⟩ trivial hb
  | cell i j => exact hI.owned (.cell i j) r y b hl hu hb

/-- a temporary that owns nothing -/
theorem InvP.put {E : Entry} (hI : InvP vars E m c w g h a) {d : Option Nat} {v : V} {x : Value} (hd : ∀ t, d = some t → t < E.nt) (hv : VRr m c w v x) (ht : TagOK vars m w g h a v x)
    (hno : (∀ t, d = some t → t ∉ vars) ∨ ((∀ t' u r, look g t' ≠ .list (.slot u) r) ∧ bare v = true)) : InvP vars E m c w (Lift.put d v g) h (a.put d x) := by
  cases d with
  | none => exact hI
  | some t =>
    refine hI.ins (hd t rfl) hv (fun r e => absurd e (ht.1 r)) (fun u r e => ?_) (fun i j r e => ht.2.2 i j r e) (hno.imp (fun h1 => h1 t rfl) (fun h1 => h1.1))
    obtain ⟨h1, h2, h3⟩ := ht.2.1 u r e
    refine ⟨h1, ?_, h2, h3⟩
    rcases hno with hno | hno
    · intro e'; exact hno t rfl (e' ▸ h1)
    · rw [e] at hno; simp [Lift.bare] at hno

theorem InvP.untag {E : Entry} (hI : InvP vars E m c w g h a) : InvP vars E m c w (Lift.untag g) h a :=
  ⟨hI.core.untag, hI.fr, fun l r x b hl hu hb => by
    cases l with
    | slot t => exact hI.owned (.slot t) r x b ⟨untag1_yes.1 (by rw [← look_untag]; exact hl.1), hl.2⟩ trivial hb
    | cell i j => exact hI.owned (.cell i j) r x b hl hu hb, hI.hlo, hI.hlen, hI.ml, hI.lole, hI.nt, hI.df, hI.old⟩

theorem InvP.release {E : Entry} (hI : InvP vars E m c w g h a) {u : Nat} {r : List (List V)} (hu : look g u = .list .yes r) : InvP vars E m c w (Lift.untag (Lift.ins u (.list .no r) g)) h a :=
  ⟨hI.core.release hu rfl, hI.fr, fun l q x b hl hup hb => by
    cases l with
    | slot t =>
      obtain ⟨h1, h2⟩ := hl
      rw [look_untag, untag1_yes, look_ins] at h1
      split at h1
      · cases h1
      · exact hI.owned (.slot t) q x b ⟨h1, h2⟩ trivial hb
    | cell i j => exact hI.owned (.cell i j) q x b hl hup hb, hI.hlo, hI.hlen, hI.ml, hI.lole, hI.nt, hI.df, hI.old⟩

end
end Go.Lift
