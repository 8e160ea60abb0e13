/- The lifting, second part: what it means that a value and a state of the evaluation stand for the machine's. -/
import Derived.Test.YtedlleekcinbcaaLiftA
namespace Go.Lift
set_option linter.unusedVariables false
set_option linter.unusedSimpArgs false
set_option linter.unusedSectionVars false

def R2 {α β : Type} (R : α → β → Prop) (l : List α) (m : List β) : Prop :=
  l.length = m.length ∧ ∀ (i : Nat) x y, l[i]? = some x → m[i]? = some y → R x y

theorem R2.mono {α β : Type} {R S : α → β → Prop} {l : List α} {m : List β} (h : R2 R l m) (hs : ∀ x y, R x y → S x y) : R2 S l m :=
  ⟨h.1, fun i x y hx hy => hs x y (h.2 i x y hx hy)⟩
theorem R2.nil {α β : Type} {R : α → β → Prop} : R2 R ([] : List α) ([] : List β) := ⟨rfl, fun i x y hx _ => by simp at hx⟩
theorem R2.cons {α β : Type} {R : α → β → Prop} {x : α} {y : β} {l : List α} {m : List β} (h : R x y) (hs : R2 R l m) : R2 R (x :: l) (y :: m) :=
  ⟨by simp [hs.1], fun i u v hu hv => by
    cases i with
    | zero => simp at hu hv; subst hu; subst hv; exact h
    | succ i => exact hs.2 i u v (by simpa using hu) (by simpa using hv)⟩
theorem R2.head {α β : Type} {R : α → β → Prop} {x : α} {y : β} {l : List α} {m : List β} (h : R2 R (x :: l) (y :: m)) : R x y :=
  h.2 0 x y rfl rfl
theorem R2.tail {α β : Type} {R : α → β → Prop} {x : α} {y : β} {l : List α} {m : List β} (h : R2 R (x :: l) (y :: m)) : R2 R l m :=
  ⟨by simpa using h.1, fun i u v hu hv => h.2 (i + 1) u v (by simpa using hu) (by simpa using hv)⟩
theorem R2.get {α β : Type} {R : α → β → Prop} {l : List α} {m : List β} (h : R2 R l m) {i : Nat} {x : α} (hx : l[i]? = some x) : ∃ y, m[i]? = some y ∧ R x y := by
  have hi : i < l.length := (List.getElem?_eq_some_iff.1 hx).1
  have hm : i < m.length := by rw [← h.1]; exact hi
  exact ⟨m[i], List.getElem?_eq_getElem hm, h.2 i x _ hx (List.getElem?_eq_getElem hm)⟩
theorem R2.take {α β : Type} {R : α → β → Prop} {l : List α} {m : List β} (h : R2 R l m) (n : Nat) : R2 R (l.take n) (m.take n) :=
  ⟨by simp [h.1], fun i x y hx hy => by
    rw [List.getElem?_take] at hx hy
    split at hx
    · exact h.2 i x y hx (by simpa [*] using hy)
    · cases hx⟩
theorem R2.drop {α β : Type} {R : α → β → Prop} {l : List α} {m : List β} (h : R2 R l m) (n : Nat) : R2 R (l.drop n) (m.drop n) :=
  ⟨by simp [h.1], fun i x y hx hy => by
    rw [List.getElem?_drop] at hx hy
    exact h.2 _ x y hx hy⟩
theorem R2.append {α β : Type} {R : α → β → Prop} {l l' : List α} {m m' : List β} (h : R2 R l m) (h' : R2 R l' m') : R2 R (l ++ l') (m ++ m') :=
  ⟨by simp [h.1, h'.1], fun i x y hx hy => by
    rw [List.getElem?_append] at hx hy
    rw [h.1] at hx
    split at hx
    · rename_i hi; rw [if_pos hi] at hy; exact h.2 i x y hx hy
    · rename_i hi; rw [if_neg hi] at hy; exact h'.2 _ x y hx hy⟩
theorem R2.map {α β α' β' : Type} {R : α → β → Prop} {S : α' → β' → Prop} {f : α → α'} {g : β → β'} {l : List α} {m : List β} (h : R2 R l m) (hs : ∀ x y, R x y → S (f x) (g y)) : R2 S (l.map f) (m.map g) :=
  ⟨by simp [h.1], fun i x y hx hy => by
    simp only [List.getElem?_map, Option.map_eq_some_iff] at hx hy
    obtain ⟨x', hx', rfl⟩ := hx
    obtain ⟨y', hy', rfl⟩ := hy
    exact hs _ _ (h.2 i x' y' hx' hy')⟩
theorem R2.set {α β : Type} {R : α → β → Prop} {l : List α} {m : List β} (h : R2 R l m) {x : α} {y : β} (n : Nat) (hxy : R x y) : R2 R (l.set n x) (m.set n y) :=
  ⟨by simp [h.1], fun i u v hu hv => by
    rw [List.getElem?_set] at hu hv
    by_cases hi : n = i
    · subst hi
      by_cases hl : n < l.length
      · have hl' : n < m.length := by rw [← h.1]; exact hl
        simp [hl] at hu; simp [hl'] at hv; subst hu; subst hv; exact hxy
      · simp [hl] at hu
    · simp [hi] at hu hv; exact h.2 i u v hu hv⟩

abbrev Cl := Nat → Nat

/-- plain data: it lies below the claims, where nothing is written any more -/
inductive VP (c : Cl) (w : World) : V → Value → Prop
  | v (x : Value) (h : x.oneCell' = true) : VP c w (.v x) x
  | empty (k : Own) (ao : Option Addr) (cap : Nat) : VP c w (.list k []) (.slice ao 0 cap)
  | list (k : Own) (rows : List (List V)) (a : Addr) (cap sz : Nat) (xs : Nat → Nat → Value)
      (hne : rows ≠ []) (hsz : 0 < sz) (hspot : a.spot = none) (hcap : rows.length ≤ cap) (hcl : a.off + rows.length * sz ≤ c a.block)
      (hrow : ∀ (i : Nat) (row : List V), rows[i]? = some row → row.length = sz)
      (hcell : ∀ (i j : Nat) (row : List V) (v : V), rows[i]? = some row → row[j]? = some v → w.cell? ⟨a.block, a.off + i * sz + j, none⟩ = some (xs i j))
      (hrec : ∀ (i j : Nat) (row : List V) (v : V), rows[i]? = some row → row[j]? = some v → VP c w v (xs i j)) : VP c w (.list k rows) (.slice (some a) rows.length cap)

structure Ext (c : Cl) (w : World) (c' : Cl) (w' : World) : Prop where
  cl : ∀ b, c b ≤ c' b
  cell : ∀ b off, off < c b → w'.cell? ⟨b, off, none⟩ = w.cell? ⟨b, off, none⟩

theorem Ext.refl (c : Cl) (w : World) : Ext c w c w := ⟨fun _ => Nat.le_refl _, fun _ _ _ => rfl⟩
theorem Ext.trans {c c' c'' : Cl} {w w' w'' : World} (h : Ext c w c' w') (h' : Ext c' w' c'' w'') : Ext c w c'' w'' :=
  ⟨fun b => Nat.le_trans (h.cl b) (h'.cl b), fun b o ho => (h'.cell b o (Nat.lt_of_lt_of_le ho (h.cl b))).trans (h.cell b o ho)⟩

theorem VP.mono {c c' : Cl} {w w' : World} {v : V} {x : Value} (h : VP c w v x) (e : Ext c w c' w') : VP c' w' v x := by
  induction h with
  | v x h => exact .v x h
  | empty k ao cap => exact .empty k ao cap
  | list k rows a cap sz xs hne hsz hspot hcap hcl hrow hcell hrec ih =>
    refine .list k rows a cap sz xs hne hsz hspot hcap (Nat.le_trans hcl (e.cl _)) hrow ?_ ih
    intro i j row v hi hj
    rw [e.cell]
    · exact hcell i j row v hi hj
    · have h1 : j < row.length := (List.getElem?_eq_some_iff.1 hj).1
      have h2 : i < rows.length := (List.getElem?_eq_some_iff.1 hi).1
      rw [hrow i row hi] at h1
      have h3 : (i + 1) * sz ≤ rows.length * sz := Nat.mul_le_mul_right _ h2
      rw [Nat.add_mul] at h3
      omega

theorem VP.flag {c : Cl} {w : World} {k : Own} {r : List (List V)} {x : Value} (h : VP c w (.list k r) x) (k' : Own) : VP c w (.list k' r) x := by
  cases h with
  | empty k ao cap => exact .empty k' ao cap
  | list k rows a cap sz xs hne hsz hspot hcap hcl hrow hcell hrec => exact .list k' _ a cap sz xs hne hsz hspot hcap hcl hrow hcell hrec

theorem VP.oneCell {c : Cl} {w : World} {v : V} {x : Value} (h : VP c w v x) : x.oneCell' = true := by
  cases h with
  | v x h => exact h
  | empty => rfl
  | list => rfl

/-- cells that lie protected from an address on -/
def ROs (c : Cl) (w : World) (a : Addr) (cs : List V) : Prop :=
  a.off + cs.length ≤ c a.block ∧ ∀ (j : Nat) v, cs[j]? = some v → ∃ x, w.cell? ⟨a.block, a.off + j, none⟩ = some x ∧ VP c w v x

theorem ROs.mono {c c' : Cl} {w w' : World} {a : Addr} {cs : List V} (h : ROs c w a cs) (e : Ext c w c' w') : ROs c' w' a cs :=
  ⟨Nat.le_trans h.1 (e.cl _), fun j v hj => by
    obtain ⟨x, hx, hv⟩ := h.2 j v hj
    have hl : j < cs.length := (List.getElem?_eq_some_iff.1 hj).1
    exact ⟨x, by rw [e.cell _ _ (by have := h.1; omega)]; exact hx, hv.mono e⟩⟩

def VR0 (m : List Nat) (c : Cl) (w : World) : V → Value → Prop
  | .v x, y => y = x
  | .nil, y => y = .slice none 0 0
  | .list k r, y => VP c w (.list k r) y
  | .ptr b o, y => ∃ g, m[b]? = some g ∧ y = .pointer (some ⟨g, o, none⟩)
  | .rp cs, y => ∃ a : Addr, y = .pointer (some a) ∧ a.spot = none ∧ ROs c w a cs
  | .buf b o n, y => ∃ g cap, m[b]? = some g ∧ y = .slice (some ⟨g, o, none⟩) n cap ∧ n ≤ cap
  | .undef, _ => True
  | .agg _, _ => False
  | .tup _, _ => False
  | .fn _ _, _ => False

def VR1 (m : List Nat) (c : Cl) (w : World) : V → Value → Prop
  | .fn f cs, y => ∃ xs : Array Value, y = .func (.func f) #[] xs ∧ R2 (VR0 m c w) cs xs.toList
  | x, y => VR0 m c w x y

def VR (m : List Nat) (c : Cl) (w : World) : V → Value → Prop
  | .agg cs, y => ∃ xs : Array Value, y = .agg xs ∧ R2 (VR1 m c w) cs xs.toList
  | x, y => VR1 m c w x y

def VRr (m : List Nat) (c : Cl) (w : World) : V → Value → Prop
  | .tup vs, y => ∃ xs : Array Value, y = .tuple xs ∧ R2 (VR m c w) vs xs.toList
  | x, y => VR m c w x y

def Pre (m m' : List Nat) : Prop := ∀ (i : Nat) b, m[i]? = some b → m'[i]? = some b
theorem Pre.refl (m : List Nat) : Pre m m := fun _ _ h => h
theorem Pre.trans {m m' m'' : List Nat} (h : Pre m m') (h' : Pre m' m'') : Pre m m'' := fun i b hb => h' i b (h i b hb)
theorem Pre.append (m l : List Nat) : Pre m (m ++ l) := fun i b h => by
  have hi := (List.getElem?_eq_some_iff.1 h).1
  rw [List.getElem?_append_left hi]; exact h

section mono
variable {m m' : List Nat} {c c' : Cl} {w w' : World}
theorem VR0.mono (hm : Pre m m') (e : Ext c w c' w') {v : V} {x : Value} (h : VR0 m c w v x) : VR0 m' c' w' v x := by
  cases v with
  | v y => exact h
  | nil => exact h
  | list k r => exact VP.mono h e
  | ptr b o => obtain ⟨g, hg, rfl⟩ := h; exact ⟨g, hm _ _ hg, rfl⟩
  | rp cs => obtain ⟨a, rfl, hs, hr⟩ := h; exact ⟨a, rfl, hs, hr.mono e⟩
  | buf b o n => obtain ⟨g, cap, hg, rfl, hc⟩ := h; exact ⟨g, cap, hm _ _ hg, rfl, hc⟩
  | undef => trivial
  | agg cs => exact h.elim
  | tup cs => exact h.elim
  | fn f cs => exact h.elim
theorem VR1.mono (hm : Pre m m') (e : Ext c w c' w') {v : V} {x : Value} (h : VR1 m c w v x) : VR1 m' c' w' v x := by
  cases v with
  | fn f cs => obtain ⟨xs, rfl, hr⟩ := h; exact ⟨xs, rfl, hr.mono fun _ _ => VR0.mono hm e⟩
  | v y => exact VR0.mono (v := (.v y)) (x := x) hm e h
  | nil => exact VR0.mono (v := .nil) (x := x) hm e h
  | list k r => exact VR0.mono (v := (.list k r)) (x := x) hm e h
  | ptr b o => exact VR0.mono (v := (.ptr b o)) (x := x) hm e h
  | rp cs => exact VR0.mono (v := (.rp cs)) (x := x) hm e h
  | buf b o n => exact VR0.mono (v := (.buf b o n)) (x := x) hm e h
  | agg cs => exact VR0.mono (v := (.agg cs)) (x := x) hm e h
  | tup vs => exact VR0.mono (v := (.tup vs)) (x := x) hm e h
  | undef => exact VR0.mono (v := .undef) (x := x) hm e h
theorem VR.mono (hm : Pre m m') (e : Ext c w c' w') {v : V} {x : Value} (h : VR m c w v x) : VR m' c' w' v x := by
  cases v with
  | agg cs => obtain ⟨xs, rfl, hr⟩ := h; exact ⟨xs, rfl, hr.mono fun _ _ => VR1.mono hm e⟩
  | v y => exact VR1.mono (v := (.v y)) (x := x) hm e h
  | nil => exact VR1.mono (v := .nil) (x := x) hm e h
  | list k r => exact VR1.mono (v := (.list k r)) (x := x) hm e h
  | ptr b o => exact VR1.mono (v := (.ptr b o)) (x := x) hm e h
  | rp cs => exact VR1.mono (v := (.rp cs)) (x := x) hm e h
  | buf b o n => exact VR1.mono (v := (.buf b o n)) (x := x) hm e h
  | tup vs => exact VR1.mono (v := (.tup vs)) (x := x) hm e h
  | fn f cs => exact VR1.mono (v := (.fn f cs)) (x := x) hm e h
  | undef => exact VR1.mono (v := .undef) (x := x) hm e h
theorem VRr.mono (hm : Pre m m') (e : Ext c w c' w') {v : V} {x : Value} (h : VRr m c w v x) : VRr m' c' w' v x := by
  cases v with
  | tup cs => obtain ⟨xs, rfl, hr⟩ := h; exact ⟨xs, rfl, hr.mono fun _ _ => VR.mono hm e⟩
  | v y => exact VR.mono (v := (.v y)) hm e h
  | nil => exact VR.mono (v := .nil) hm e h
  | list k r => exact VR.mono (v := (.list k r)) hm e h
  | ptr b o => exact VR.mono (v := (.ptr b o)) hm e h
  | rp cs => exact VR.mono (v := (.rp cs)) hm e h
  | buf b o n => exact VR.mono (v := (.buf b o n)) hm e h
  | agg cs => exact VR.mono (v := (.agg cs)) hm e h
  | fn f cs => exact VR.mono (v := (.fn f cs)) hm e h
  | undef => exact VR.mono (v := .undef) (x := x) hm e h
end mono

section flags
variable {m : List Nat} {c : Cl} {w : World} {v : V} {x : Value}
theorem VR0.cp (h : VR0 m c w v x) : VR0 m c w (cp v) x := by
  cases v with
  | list k r => exact VP.flag h .no
  | _ => exact h
theorem VR1.cp (h : VR1 m c w v x) : VR1 m c w (cp v) x := by
  cases v with
  | list k r => exact VP.flag h .no
  | _ => exact h
theorem VR1.fz (h : VR1 m c w v x) : VR1 m c w (fz v) x := by
  cases v with
  | list k r => exact VP.flag h .no
  | nil => have h' : x = .slice none 0 0 := h; subst h'; exact VP.empty .no none 0
  | _ => exact h
theorem VRr.cps (h : VRr m c w v x) : VRr m c w (cps v) x := by
  cases v with
  | list k r => exact VP.flag h .no
  | agg cs => obtain ⟨xs, rfl, hr⟩ := h; exact ⟨xs, rfl, by simpa using hr.map (g := id) fun _ _ => VR1.cp⟩
  | _ => exact h
theorem VR.cps (h : VR m c w v x) : VR m c w (cps v) x := by
  cases v with
  | list k r => exact VP.flag h .no
  | agg cs => obtain ⟨xs, rfl, hr⟩ := h; exact ⟨xs, rfl, by simpa using hr.map (g := id) fun _ _ => VR1.cp⟩
  | _ => exact h
theorem VR.fzs (h : VR m c w v x) : VR m c w (fzs v) x := by
  cases v with
  | list k r => exact VP.flag h .no
  | nil => have h' : x = .slice none 0 0 := h; subst h'; exact VP.empty .no none 0
  | agg cs => obtain ⟨xs, rfl, hr⟩ := h; exact ⟨xs, rfl, by simpa using hr.map (g := id) fun _ _ => VR1.fz⟩
  | _ => exact h
theorem VRr.fzs (h : VRr m c w v x) : VRr m c w (fzs v) x := by
  cases v with
  | tup vs => exact h
  | list k r => exact VP.flag h .no
  | nil => have h' : x = .slice none 0 0 := h; subst h'; exact VP.empty .no none 0
  | agg cs => obtain ⟨xs, rfl, hr⟩ := h; exact ⟨xs, rfl, by simpa using hr.map (g := id) fun _ _ => VR1.fz⟩
  | _ => exact h
end flags

/- fewer objects: what reaches none of those that go -/
section less
variable {m : List Nat} {c : Cl} {w : World} {n : Nat}
theorem getElem?_take_lt {m : List Nat} {n b g : Nat} (h : m[b]? = some g) (hb : b < n) : (m.take n)[b]? = some g := by
  rw [List.getElem?_take, if_pos hb]; exact h
theorem VR0.less {v : V} {x : Value} (h : VR0 m c w v x) (hk : okc n v = true ∨ v = .undef) : VR0 (m.take n) c w v x := by
  cases v with
  | ptr b o => obtain ⟨g, hg, rfl⟩ := h; exact ⟨g, getElem?_take_lt hg (by simpa [okc] using hk), rfl⟩
  | buf b o k => obtain ⟨g, cap, hg, rfl, hc⟩ := h; exact ⟨g, cap, getElem?_take_lt hg (by simpa [okc] using hk), rfl, hc⟩
  | _ => exact h
theorem VR1.less {v : V} {x : Value} (h : VR1 m c w v x) (hk : okc n v = true ∨ v = .undef) : VR1 (m.take n) c w v x := by
  cases v with
  | fn f cs => rcases hk with hk | hk <;> simp [okc] at hk
  | v y => exact VR0.less (m := m) (c := c) (w := w) (n := n) (v := (.v y)) (x := x) h hk
  | nil => exact VR0.less (m := m) (c := c) (w := w) (n := n) (v := .nil) (x := x) h hk
  | list k r => exact VR0.less (m := m) (c := c) (w := w) (n := n) (v := (.list k r)) (x := x) h hk
  | ptr b o => exact VR0.less (m := m) (c := c) (w := w) (n := n) (v := (.ptr b o)) (x := x) h hk
  | rp cs => exact VR0.less (m := m) (c := c) (w := w) (n := n) (v := (.rp cs)) (x := x) h hk
  | buf b o k => exact VR0.less (m := m) (c := c) (w := w) (n := n) (v := (.buf b o k)) (x := x) h hk
  | agg cs => exact VR0.less (m := m) (c := c) (w := w) (n := n) (v := (.agg cs)) (x := x) h hk
  | tup vs => exact VR0.less (m := m) (c := c) (w := w) (n := n) (v := (.tup vs)) (x := x) h hk
  | undef => exact VR0.less (m := m) (c := c) (w := w) (n := n) (v := .undef) (x := x) h hk
theorem VR.less {v : V} {x : Value} (h : VR m c w v x) (hk : okv n v = true) : VR (m.take n) c w v x := by
  cases v with
  | agg cs =>
    obtain ⟨xs, rfl, hr⟩ := h
    simp only [okv, List.all_eq_true] at hk
    exact ⟨xs, rfl, hr.1, fun i u y hu hy => (hr.2 i u y hu hy).less (.inl (hk u (List.mem_of_getElem? hu)))⟩
  | fn f cs =>
    obtain ⟨xs, rfl, hr⟩ := h
    simp only [okv, List.all_eq_true] at hk
    exact ⟨xs, rfl, hr.1, fun i u y hu hy => (hr.2 i u y hu hy).less (.inl (hk u (List.mem_of_getElem? hu)))⟩
  | undef => trivial
  | v y => exact VR1.less (m := m) (c := c) (w := w) (n := n) (v := (.v y)) (x := x) h (.inl (by exact hk))
  | nil => exact VR1.less (m := m) (c := c) (w := w) (n := n) (v := .nil) (x := x) h (.inl (by exact hk))
  | list k r => exact VR1.less (m := m) (c := c) (w := w) (n := n) (v := (.list k r)) (x := x) h (.inl (by exact hk))
  | ptr b o => exact VR1.less (m := m) (c := c) (w := w) (n := n) (v := (.ptr b o)) (x := x) h (.inl (by exact hk))
  | rp cs => exact VR1.less (m := m) (c := c) (w := w) (n := n) (v := (.rp cs)) (x := x) h (.inl (by exact hk))
  | buf b o k => exact VR1.less (m := m) (c := c) (w := w) (n := n) (v := (.buf b o k)) (x := x) h (.inl (by exact hk))
  | tup vs => exact VR1.less (m := m) (c := c) (w := w) (n := n) (v := (.tup vs)) (x := x) h (.inl (by exact hk))
theorem VRr.less {v : V} {x : Value} (h : VRr m c w v x) (hk : okr n v = true) : VRr (m.take n) c w v x := by
  cases v with
  | tup vs =>
    obtain ⟨xs, rfl, hr⟩ := h
    simp only [okr, List.all_eq_true] at hk
    exact ⟨xs, rfl, hr.1, fun i u y hu hy => (hr.2 i u y hu hy).less (hk u (List.mem_of_getElem? hu))⟩
  | v y => exact VR.less (m := m) (c := c) (w := w) (n := n) (v := (.v y)) (x := x) h hk
  | nil => exact VR.less (m := m) (c := c) (w := w) (n := n) (v := .nil) (x := x) h hk
  | list k r => exact VR.less (m := m) (c := c) (w := w) (n := n) (v := (.list k r)) (x := x) h hk
  | ptr b o => exact VR.less (m := m) (c := c) (w := w) (n := n) (v := (.ptr b o)) (x := x) h hk
  | rp cs => exact VR.less (m := m) (c := c) (w := w) (n := n) (v := (.rp cs)) (x := x) h hk
  | buf b o k => exact VR.less (m := m) (c := c) (w := w) (n := n) (v := (.buf b o k)) (x := x) h hk
  | agg cs => exact VR.less (m := m) (c := c) (w := w) (n := n) (v := (.agg cs)) (x := x) h hk
  | fn f cs => exact VR.less (m := m) (c := c) (w := w) (n := n) (v := (.fn f cs)) (x := x) h hk
  | undef => exact VR.less (m := m) (c := c) (w := w) (n := n) (v := .undef) (x := x) h hk
end less

theorem VR.r {m : List Nat} {c : Cl} {w : World} {v : V} {x : Value} (h : VR m c w v x) : VRr m c w v x := by
  cases v with
  | tup cs => exact h.elim
  | _ => exact h
theorem VR1.r {m : List Nat} {c : Cl} {w : World} {v : V} {x : Value} (h : VR1 m c w v x) : VR m c w v x := by
  cases v with
  | agg cs => exact h.elim
  | _ => exact h
theorem VR0.r {m : List Nat} {c : Cl} {w : World} {v : V} {x : Value} (h : VR0 m c w v x) : VR1 m c w v x := by
  cases v with
  | fn f cs => exact h.elim
  | _ => exact h

theorem VR1_of_VP {m : List Nat} {c : Cl} {w : World} {v : V} {x : Value} (h : VP c w v x) : VR1 m c w v x := by
  cases h with
  | v x h => rfl
  | empty => exact VP.empty _ _ _
  | list k rows a cap sz xs hne hsz hspot hcap hcl hrow hcell hrec => exact VP.list k rows a cap sz xs hne hsz hspot hcap hcl hrow hcell hrec

/-- constants -/
theorem VR1_ofC1 {m : List Nat} {c : Cl} {w : World} (x : Value) : VR1 m c w (ofC1 x) x := by
  unfold ofC1
  split
  · rfl
  · rename_i f a b
    split
    · rename_i h
      have ha : a = #[] := Array.eq_empty_of_size_eq_zero h.1
      have hb : b = #[] := Array.eq_empty_of_size_eq_zero h.2
      subst ha; subst hb
      exact ⟨#[], rfl, R2.nil⟩
    · rfl
  · rfl
theorem VR_ofC {m : List Nat} {c : Cl} {w : World} (x : Value) : VR m c w (ofC x) x := by
  unfold ofC
  split
  · refine ⟨_, rfl, ?_⟩
    refine ⟨by simp, fun i u y hu hy => ?_⟩
    simp only [List.getElem?_map, Option.map_eq_some_iff] at hu
    obtain ⟨z, hz, rfl⟩ := hu
    rw [hy] at hz
    cases hz
    exact VR1_ofC1 _
  · exact (VR1_ofC1 _).r

/-! what an owner is -/
def ownBlk : Value → Option Nat
  | .slice (some a) _ _ => some a.block
  | _ => none

def OwnB (m : List Nat) (c : Cl) (w : World) (r : List (List V)) (x : Value) : Prop :=
  (x = .slice none 0 0 ∧ r = []) ∨
  ∃ b cap cur e sz, x = .slice (some ⟨b, 0, none⟩) r.length cap ∧ w.heap[b]? = some (.cells cur e (0, 0)) ∧ r.length ≤ cap ∧ cap ≤ maxLen ∧ cur.size = cap * sz ∧
    0 < sz ∧ (∀ row ∈ r, row.length = sz) ∧ c b = r.length * sz ∧ b ∉ m ∧ (r = [] → cap = 0)

inductive Loc where
  | slot (t : Nat)
  | cell (i j : Nat)

def At (m : List Nat) (w : World) (g : Env) (h : Heap) (a : Act) : Loc → List (List V) → Value → Prop
  | .slot t, r, x => look g t = .list .yes r ∧ x = a.tmps.getD t undef
  | .cell i j, r, x => ∃ cs b, cellsOfOb h i = some cs ∧ cs[j]? = some (.list .yes r) ∧ m[i]? = some b ∧ w.cell? ⟨b, j, none⟩ = some x

def ObR (m : List Nat) (c : Cl) (w : World) : Ob → Nat → Prop
  | .cells cs, b => ∃ arr e f, w.heap[b]? = some (.cells arr e f) ∧ cs.length ≤ arr.size ∧ (∀ j, j < cs.length → w.frozen? ⟨b, j, none⟩ = false) ∧
      ∀ (j : Nat) v x, cs[j]? = some v → arr[j]? = some x → VR1 m c w v x ∧ x.oneCell' = true
  | .iter s pos, b => w.heap[b]? = some (.stringIter s pos)

variable [GTab]
structure Core (vars : List Nat) (m : List Nat) (c : Cl) (w : World) (g : Env) (h : Heap) (a : Act) : Prop where
  wf1 : ∀ b, 0 < c b → ∃ arr e f, w.heap[b]? = some (.cells arr e f) ∧ c b ≤ arr.size
  wf2 : ∀ b ∈ m, c b = 0
  nd : m.Nodup
  len : m.length = h.length
  env : ∀ t, VRr m c w (look g t) (a.tmps.getD t undef)
  ob : ∀ (i : Nat) o b, h[i]? = some o → m[i]? = some b → ObR m c w o b
  own : ∀ l r x, At m w g h a l r x → OwnB m c w r x
  uniq : ∀ l l' r r' x x' b, At m w g h a l r x → At m w g h a l' r' x' → ownBlk x = some b → ownBlk x' = some b → l = l'
  tagS : ∀ t u r, look g t = .list (.slot u) r → u ∈ vars ∧ look g u = .list .yes r ∧ a.tmps.getD t undef = a.tmps.getD u undef
  tagC : ∀ t i j r, look g t = .list (.cell i j) r → At m w g h a (.cell i j) r (a.tmps.getD t undef)
  gt : ∀ n cs, GTab.tab n = some cs → ROs c w ⟨n, 0, none⟩ cs

/-- what a call may turn: new blocks, objects from lo on, and what their cells own -/
structure Fr (lo : Nat) (ho : Nat → Prop) (w0 : World) (m0 : List Nat) (c0 : Cl) (w : World) (m : List Nat) (c : Cl) : Prop where
  os : w.os = w0.os
  tape : w.tape = w0.tape
  output : w.output = w0.output
  size : w0.heap.size ≤ w.heap.size
  pre : Pre m0 m
  new : ∀ (i : Nat) b, m0.length ≤ i → m[i]? = some b → w0.heap.size ≤ b
  ext : Ext c0 w0 c w
  fix : ∀ b, b < w0.heap.size → (∀ i : Nat, lo ≤ i → m0[i]? ≠ some b) → ¬ ho b → w.heap[b]? = w0.heap[b]? ∧ c b = c0 b

def upper (lo : Nat) : Loc → Prop
  | .slot _ => True
  | .cell i _ => lo ≤ i

/-- whoever owns, owns a new block, or one that was owned by an object's cell -/
def Owned (lo : Nat) (ho : Nat → Prop) (w0 : World) (m : List Nat) (w : World) (g : Env) (h : Heap) (a : Act) : Prop :=
  ∀ l r x b, At m w g h a l r x → upper lo l → ownBlk x = some b → w0.heap.size ≤ b ∨ ho b

theorem Fr.refl (lo : Nat) (ho : Nat → Prop) (w : World) (m : List Nat) (c : Cl) : Fr lo ho w m c w m c :=
  ⟨rfl, rfl, rfl, Nat.le_refl _, Pre.refl m, fun i b hi hb => by
    have := (List.getElem?_eq_some_iff.1 hb).1; omega, Ext.refl c w, fun _ _ _ _ => ⟨rfl, rfl⟩⟩

end Go.Lift
