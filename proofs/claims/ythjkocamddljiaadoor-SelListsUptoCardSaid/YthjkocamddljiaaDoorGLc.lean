/- The lifting: values, states, evaluation, and that it is sound. -/
import Derived.ProofKit
import Derived.JoinedCond
import Derived.Test.YthjkocamddljiaaDoorGLb
set_option linter.unusedVariables false
set_option linter.unusedSimpArgs false
set_option linter.unusedSectionVars false
section
namespace Go.Lift
variable [GTab] [BTy]
section
variable {vars : List Nat} {m : List Nat} {c : Cl} {w : World} {g : Env} {h : Heap} {a : Act} {E : Entry}
theorem InvP.weak (hI : InvP vars E m c w g h a) {g' : Env} (hw : ∀ t, WeakV (look g t) (look g' t)) (hS : ∀ t u r, look g' t ≠ .list (.slot u) r) (hT : ∀ t i j r, look g' t ≠ .list (.cell i j) r) : InvP vars E m c w g' h a := by
 have hC := hI.core
 have hAt : ∀ {k r x}, At m w g' h a k r x -> At m w g h a k r x := fun {k r x} hl => by
  cases k with
  | slot t =>
   refine ⟨?_, hl.2⟩
   rcases hw t with e | e | ⟨e, _⟩
   ·exact e.symm.trans hl.1
   ·have := hl.1; rw [e] at this; cases this
   ·have := hl.1; rw [e] at this; cases this
  | cell i j => exact hl
 refine ⟨⟨hC.wf1, hC.wf2, hC.nd, hC.len, fun t => ?_, hC.ob, fun k r x hl => hC.own k r x (hAt hl), fun k k' r r' x x' b h1 h2 => hC.uniq k k' r r' x x' b (hAt h1) (hAt h2), fun t u r ht => absurd ht (hS t u r), fun t i j r ht => absurd ht (hT t i j r), hC.gt⟩,
  hI.fr, fun k r x b hl hu hb => hI.owned k r x b (hAt hl) hu hb, hI.hlo, hI.hlen, hI.ml, hI.lole, hI.nt, hI.df, hI.old, hI.ent⟩
 have h0 := hC.env t
 rcases hw t with e | e | ⟨e, b, e2⟩
 ·rw [e]; exact h0
 ·rw [e]; trivial
 ·rw [e]
  rw [e2] at h0
  exact ⟨b, h0⟩
theorem sw_sw (j i : Nat) : sw j (sw j i) = i := by
 unfold sw
 split
 ·rename_i h1
  rw [if_neg (by omega), if_pos rfl]; exact h1.symm
 ·split
  ·rename_i h1 h2
   rw [if_pos rfl]; exact h2.symm
  ·rfl
theorem sw_lt {j i n : Nat} (hj : j + 1 < n) (hi : i < n) : sw j i < n := by
 unfold sw
 split
 ·omega
 ·split <;> omega
theorem swL_len {α : Type} (j : Nat) (l : List α) : (swL j l).length = l.length := by
 unfold swL
 split <;> simp
theorem swL_get {α : Type} {j : Nat} {l : List α} (hj : j + 1 < l.length) (i : Nat) : (swL j l)[i]? = l[sw j i]? := by
 have e1 : l[j]? = some l[j] := List.getElem?_eq_getElem (by omega)
 have e2 : l[j + 1]? = some l[j + 1] := List.getElem?_eq_getElem hj
 unfold swL sw
 rw [e1, e2]
 simp only
 rw [List.getElem?_set, List.getElem?_set]
 by_cases h1 : i = j
 ·subst h1
  rw [if_neg (by omega), if_pos rfl, if_pos rfl, if_pos (by omega), e2]
 ·by_cases h2 : i = j + 1
  ·subst h2
   rw [if_pos rfl, if_neg h1, if_pos rfl, if_pos (by simpa using hj), e1]
  ·rw [if_neg (by omega), if_neg (by omega), if_neg h1, if_neg h2]
theorem swL_mem {α : Type} {j : Nat} {l : List α} (hj : j + 1 < l.length) {x : α} (hx : x ∈ swL j l) : x ∈ l := by
 obtain ⟨i, hi⟩ := List.getElem?_of_mem hx
 rw [swL_get hj] at hi
 exact List.mem_of_getElem? hi
theorem swL_nodup {j : Nat} {l : List Nat} (hj : j + 1 < l.length) (hl : l.Nodup) : (swL j l).Nodup := by
 show List.Pairwise _ _
 rw [List.pairwise_iff_getElem]
 intro i k hi hk hik e
 rw [swL_len] at hi hk
 have h1 := swL_get hj i
 have h2 := swL_get hj k
 rw [List.getElem?_eq_getElem (by rw [swL_len]; exact hi)] at h1
 rw [List.getElem?_eq_getElem (by rw [swL_len]; exact hk)] at h2
 have h3 : l[sw j i]? = l[sw j k]? := by rw [<- h1, <- h2, e]
 have h4 := (List.getElem?_inj (sw_lt hj hi) hl).1 h3
 have h5 := congrArg (sw j) h4
 rw [sw_sw, sw_sw] at h5
 omega
theorem look_swE (j : Nat) : ∀ (g : Env) (t : Nat), look (swE j g) t = swr j (look g t)
 | [], _ => rfl
 | (k, v) :: g, t => by
  simp only [swE, List.map_cons, look]
  split
  ·rfl
  ·exact look_swE j g t
section
variable {m' : List Nat} {j : Nat}
theorem VR0.sw (hm : ∀ (i : Nat) b, m[i]? = some b -> m'[Lift.sw j i]? = some b) {v : V} {x : Value} (h : VR0 m c w v x) : VR0 m' c w (swc j v) x := by
 cases v with
 | ptr b o => obtain ⟨g, hg, rfl⟩ := h; exact ⟨g, hm _ _ hg, rfl⟩
 | mp b => obtain ⟨g, hg, rfl⟩ := h; exact ⟨g, hm _ _ hg, rfl⟩
 | buf b o n => obtain ⟨g, cap, hg, rfl, hc⟩ := h; exact ⟨g, cap, hm _ _ hg, rfl, hc⟩
 | stk b n z => obtain ⟨g, cap, hg, rfl, hc⟩ := h; exact ⟨g, cap, hm _ _ hg, rfl, hc⟩
 | _ => exact h
theorem head_sw (cs : List V) : headB (cs.map (swc j)) = (headB cs).map (swc j) := by
 cases cs with
 | nil => rfl
 | cons v r => cases v <;> rfl
theorem tail_sw (cs : List V) : tailB (cs.map (swc j)) = (tailB cs).map (swc j) := by
 cases cs with
 | nil => rfl
 | cons v r => cases v <;> rfl
theorem VR1.sw (hm : ∀ (i : Nat) b, m[i]? = some b -> m'[Lift.sw j i]? = some b) {v : V} {x : Value} (h : VR1 m c w v x) : VR1 m' c w (swf j v) x := by
 cases v with
 | fn f cs =>
  obtain ⟨fs, xs, rfl, h1, h2⟩ := h
  refine ⟨fs, xs, rfl, ?_, ?_⟩
  ·rw [head_sw]; simpa using h1.map (g := id) fun _ _ => VR0.sw hm
  ·rw [tail_sw]; simpa using h2.map (g := id) fun _ _ => VR0.sw hm
 | v y => exact VR0.sw (m := m) (c := c) (w := w) (v := .v y) (x := x) hm h
 | nil => exact VR0.sw (m := m) (c := c) (w := w) (v := .nil) (x := x) hm h
 | list k r => exact VR0.sw (m := m) (c := c) (w := w) (v := .list k r) (x := x) hm h
 | ptr b o => exact VR0.sw (m := m) (c := c) (w := w) (v := .ptr b o) (x := x) hm h
 | mp b => exact VR0.sw (m := m) (c := c) (w := w) (v := .mp b) (x := x) hm h
 | rp cs => exact VR0.sw (m := m) (c := c) (w := w) (v := .rp cs) (x := x) hm h
 | buf b o n => exact VR0.sw (m := m) (c := c) (w := w) (v := .buf b o n) (x := x) hm h
 | stk b n z => exact VR0.sw (m := m) (c := c) (w := w) (v := .stk b n z) (x := x) hm h
 | agg cs => exact h.elim
 | tup cs => exact h.elim
 | undef => exact VR0.sw (m := m) (c := c) (w := w) (v := .undef) (x := x) hm h
 | any => exact VR0.sw (m := m) (c := c) (w := w) (v := .any) (x := x) hm h
theorem VR.sw (hm : ∀ (i : Nat) b, m[i]? = some b -> m'[Lift.sw j i]? = some b) {v : V} {x : Value} (h : VR m c w v x) : VR m' c w (swv j v) x := by
 cases v with
 | agg cs =>
  obtain ⟨xs, rfl, h1⟩ := h
  exact ⟨xs, rfl, by simpa using h1.map (g := id) fun _ _ => VR1.sw hm⟩
 | v y => exact VR1.sw (m := m) (c := c) (w := w) (v := .v y) (x := x) hm h
 | nil => exact VR1.sw (m := m) (c := c) (w := w) (v := .nil) (x := x) hm h
 | list k r => exact VR1.sw (m := m) (c := c) (w := w) (v := .list k r) (x := x) hm h
 | ptr b o => exact VR1.sw (m := m) (c := c) (w := w) (v := .ptr b o) (x := x) hm h
 | mp b => exact VR1.sw (m := m) (c := c) (w := w) (v := .mp b) (x := x) hm h
 | rp cs => exact VR1.sw (m := m) (c := c) (w := w) (v := .rp cs) (x := x) hm h
 | buf b o n => exact VR1.sw (m := m) (c := c) (w := w) (v := .buf b o n) (x := x) hm h
 | stk b n z => exact VR1.sw (m := m) (c := c) (w := w) (v := .stk b n z) (x := x) hm h
 | fn f cs => exact VR1.sw (m := m) (c := c) (w := w) (v := .fn f cs) (x := x) hm h
 | tup cs => exact h.elim
 | undef => exact VR1.sw (m := m) (c := c) (w := w) (v := .undef) (x := x) hm h
 | any => exact VR1.sw (m := m) (c := c) (w := w) (v := .any) (x := x) hm h
theorem VRr.sw (hm : ∀ (i : Nat) b, m[i]? = some b -> m'[Lift.sw j i]? = some b) {v : V} {x : Value} (h : VRr m c w v x) : VRr m' c w (swr j v) x := by
 cases v with
 | tup cs =>
  obtain ⟨xs, rfl, h1⟩ := h
  exact ⟨xs, rfl, by simpa using h1.map (g := id) fun _ _ => VR.sw hm⟩
 | v y => exact VR.sw (m := m) (c := c) (w := w) (v := .v y) (x := x) hm h
 | nil => exact VR.sw (m := m) (c := c) (w := w) (v := .nil) (x := x) hm h
 | list k r => exact VR.sw (m := m) (c := c) (w := w) (v := .list k r) (x := x) hm h
 | ptr b o => exact VR.sw (m := m) (c := c) (w := w) (v := .ptr b o) (x := x) hm h
 | mp b => exact VR.sw (m := m) (c := c) (w := w) (v := .mp b) (x := x) hm h
 | rp cs => exact VR.sw (m := m) (c := c) (w := w) (v := .rp cs) (x := x) hm h
 | buf b o n => exact VR.sw (m := m) (c := c) (w := w) (v := .buf b o n) (x := x) hm h
 | stk b n z => exact VR.sw (m := m) (c := c) (w := w) (v := .stk b n z) (x := x) hm h
 | fn f cs => exact VR.sw (m := m) (c := c) (w := w) (v := .fn f cs) (x := x) hm h
 | agg cs => exact VR.sw (m := m) (c := c) (w := w) (v := .agg cs) (x := x) hm h
 | undef => exact VR.sw (m := m) (c := c) (w := w) (v := .undef) (x := x) hm h
 | any => exact VR.sw (m := m) (c := c) (w := w) (v := .any) (x := x) hm h
theorem swf_list {v : V} {k : Own} {r : List (List V)} : swf j v = .list k r ↔ v = .list k r := by
 cases v <;> simp [swf, swc]
theorem swr_list {v : V} {k : Own} {r : List (List V)} : swr j v = .list k r ↔ v = .list k r := by
 cases v <;> simp [swr, swv, swf, swc]
theorem swc_id {B : Nat} (hB : B <= j) {v : V} (h : okc B v = true) : swc j v = v := by
 have e : ∀ {b : Nat}, b < B -> Lift.sw j b = b := fun {b} hb => by unfold Lift.sw; rw [if_neg (by omega), if_neg (by omega)]
 cases v with
 | ptr b o => simp only [okc, decide_eq_true_eq] at h; simp only [swc, e h]
 | mp b => simp only [okc, decide_eq_true_eq] at h; simp only [swc, e h]
 | buf b o n => simp only [okc, decide_eq_true_eq] at h; simp only [swc, e h]
 | stk b n z => simp only [okc, decide_eq_true_eq] at h; simp only [swc, e h]
 | _ => rfl
theorem swf_id {B : Nat} (hB : B <= j) {v : V} (h : okv B v = true) : swf j v = v := by
 cases v with
 | fn f cs =>
  simp only [okv, List.all_eq_true] at h
  simp only [swf]
  congr 1
  conv => rhs; rw [<- List.map_id cs]
  exact List.map_congr_left fun u hu => by rw [swc_id hB (h u hu)]; rfl
 | agg cs => rfl
 | undef => rfl
 | v x => rfl
 | nil => rfl
 | list k r => rfl
 | rp cs => rfl
 | tup vs => rfl
 | any => rfl
 | ptr b o => exact swc_id (v := .ptr b o) hB h
 | mp b => exact swc_id (v := .mp b) hB h
 | buf b o n => exact swc_id (v := .buf b o n) hB h
 | stk b n z => exact swc_id (v := .stk b n z) hB h
end
theorem cellsOfOb_sw {j i : Nat} {h : Heap} (hj : j + 1 < h.length) {cs : List V} (hc : cellsOfOb (swL j (h.map (swO j))) i = some cs) : ∃ cs0, cellsOfOb h (sw j i) = some cs0 /\ cs = cs0.map (swf j) := by
 unfold cellsOfOb at hc
 rw [swL_get (by simpa using hj), List.getElem?_map] at hc
 cases hq : h[sw j i]? with
 | none => rw [hq] at hc; cases hc
 | some o =>
  rw [hq] at hc
  cases o with
  | cells cs0 =>
   simp only [Option.map_some, swO, Option.some.injEq] at hc
   exact ⟨cs0, by unfold cellsOfOb; rw [hq], hc.symm⟩
  | iter s p => cases hc
  | tab es => cases hc
theorem InvP.swap (hI : InvP vars E m c w g h a) {j : Nat} (hj : E.base <= j) (hl : j + 1 < h.length) (hT : ∀ t i k r, look g t ≠ .list (.cell i k) r) :
  InvP vars E (swL j m) c w (swE j g) (swL j (h.map (swO j))) a := by
 have hC := hI.core
 have hlm : j + 1 < m.length := by rw [hC.len]; exact hl
 have hm : ∀ (i : Nat) b, m[i]? = some b -> (swL j m)[sw j i]? = some b := fun i b hi => by rw [swL_get hlm, sw_sw]; exact hi
 have hold : ∀ {i}, i < E.base -> sw j i = i := fun {i} hi => by unfold sw; rw [if_neg (by omega), if_neg (by omega)]
 have hlow : ∀ {i cs}, i < E.base -> cellsOfOb h i = some cs -> cs.map (swf j) = cs := fun {i cs} hi hcs => by
  conv => rhs; rw [<- List.map_id cs]
  refine List.map_congr_left fun v hv => ?_
  exact swf_id hj (hI.old E.base i cs hi hi hcs (fun cs0 h0 u hu => hI.ent i cs0 h0 u hu) v hv)
 have hob : ∀ {i}, i < E.base -> (swL j (h.map (swO j)))[i]? = h[i]? := fun {i} hi => by
  rw [swL_get (by simpa using hl), hold hi, List.getElem?_map]
  cases hq : h[i]? with
  | none => rfl
  | some o =>
   cases o with
   | cells cs =>
    have := hlow hi (show cellsOfOb h i = some cs by unfold cellsOfOb; rw [hq])
    simp only [Option.map_some, swO, this]
   | iter s p => rfl
   | tab es => rfl
 have hAt : ∀ {l r x}, At (swL j m) w (swE j g) (swL j (h.map (swO j))) a l r x -> ∃ l', At m w g h a l' r x /\ (l' = match l with | .slot t => .slot t | .cell i k => .cell (sw j i) k) := fun {l r x} hl' => by
  cases l with
  | slot t =>
   obtain ⟨h1, h2⟩ := hl'
   rw [look_swE] at h1
   exact ⟨.slot t, ⟨swr_list.1 h1, h2⟩, rfl⟩
  | cell i k =>
   obtain ⟨cs, b, h1, h2, h3, h4⟩ := hl'
   obtain ⟨cs0, h5, rfl⟩ := cellsOfOb_sw hl h1
   rw [List.getElem?_map, Option.map_eq_some_iff] at h2
   obtain ⟨v, hv, hv2⟩ := h2
   rw [swL_get hlm] at h3
   exact ⟨.cell (sw j i) k, ⟨cs0, b, h5, by rw [hv, swf_list.1 hv2], h3, h4⟩, rfl⟩
 have hml := hI.ml
 refine ⟨⟨hC.wf1, fun b hb => hC.wf2 b (swL_mem hlm hb), swL_nodup hlm hC.nd, by rw [swL_len, swL_len, List.length_map]; exact hC.len, fun t => ?_, fun i o b ho hb => ?_, fun l r x hl' => ?_, fun l l' r r' x x' b h1 h2 hb hb' => ?_, fun t u r ht => ?_, fun t i k r ht => ?_, hC.gt⟩,
  ⟨hI.fr.os, hI.fr.tape, hI.fr.output, hI.fr.size, fun i b hi => ?_, fun i b hi hb => ?_, hI.fr.ext, hI.fr.fix⟩, fun l r x b hl' hu hb => ?_, ?_, by rw [swL_len, List.length_map]; exact hI.hlen, hI.ml, hI.lole, hI.nt, hI.df, fun n i cs hib hin hcs h0 => ?_, hI.ent⟩
 ·rw [look_swE]; exact (hC.env t).sw hm
 ·rw [swL_get (by simpa using hl), List.getElem?_map, Option.map_eq_some_iff] at ho
  obtain ⟨o0, ho0, rfl⟩ := ho
  rw [swL_get hlm] at hb
  have := hC.ob (sw j i) o0 b ho0 hb
  cases o0 with
  | cells cs =>
   obtain ⟨arr, e, f, k1, k2, k3, k4, k5⟩ := this
   refine ⟨arr, e, f, k1, by rw [List.length_map]; exact k2, fun k hk => k3 k (by rw [List.length_map] at hk; exact hk), fun k v x hv hx => ?_, fun T hT' hb' => ?_⟩
   ·rw [List.getElem?_map, Option.map_eq_some_iff] at hv
    obtain ⟨v0, hv0, rfl⟩ := hv
    exact ⟨(k4 k v0 x hv0 hx).1.sw hm, (k4 k v0 x hv0 hx).2⟩
   ·rw [List.length_map] at hT' ⊢
    refine k5 T hT' ?_
    cases cs with
    | nil => exact hb'
    | cons v r =>
     simp only [List.map_cons, isBld] at hb' ⊢
     cases v <;> first | exact hb' | (simp [swf, swc, isNilP] at hb')
  | iter s p => exact this
  | tab es => exact this
 ·obtain ⟨l', h1, _⟩ := hAt hl'
  rcases hC.own l' r x h1 with h2 | ⟨b, cap, cur, e, z, q1, q2, q3, q4, q5, q6, q7, q8, q9, q10⟩
  ·exact .inl h2
  ·exact .inr ⟨b, cap, cur, e, z, q1, q2, q3, q4, q5, q6, q7, q8, fun hb => q9 (swL_mem hlm hb), q10⟩
 ·obtain ⟨k1, h3, e1⟩ := hAt h1
  obtain ⟨k2, h4, e2⟩ := hAt h2
  have e3 := hC.uniq k1 k2 r r' x x' b h3 h4 hb hb'
  rw [e1, e2] at e3
  cases l with
  | slot t =>
   cases l' with
   | slot t' => exact e3
   | cell i k => cases e3
  | cell i k =>
   cases l' with
   | slot t' => cases e3
   | cell i' k' =>
    simp only [Loc.cell.injEq] at e3
    have := congrArg (sw j) e3.1
    rw [sw_sw, sw_sw] at this
    rw [this, e3.2]
 ·rw [look_swE] at ht
  have := hC.tagS t u r (swr_list.1 ht)
  exact ⟨this.1, by rw [look_swE, this.2.1]; rfl, this.2.2⟩
 ·rw [look_swE] at ht
  exact absurd (swr_list.1 ht) (hT t i k r)
 ·have hib : i < E.base := by
   have := (List.getElem?_eq_some_iff.1 hi).1
   omega
  rw [swL_get hlm, hold hib]
  exact hI.fr.pre i b hi
 ·rw [swL_get hlm] at hb
  refine hI.fr.new (sw j i) b ?_ hb
  unfold sw
  split
  ·omega
  ·split <;> omega
 ·obtain ⟨l', h1, e1⟩ := hAt hl'
  refine hI.owned l' r x b h1 ?_ hb
  cases l with
  | slot t => subst e1; trivial
  | cell i k =>
   subst e1
   show E.lo <= sw j i
   have h0 : E.lo <= i := hu
   have := hI.lole
   unfold sw
   split
   ·omega
   ·split <;> omega
 ·rw [<- hI.hlo]
  apply List.ext_getElem?
  intro i
  rw [List.getElem?_take, List.getElem?_take]
  split
  ·rename_i hi
   exact hob (Nat.lt_of_lt_of_le hi hI.lole)
  ·rfl
 ·refine hI.old n i cs hib hin ?_ h0
  unfold cellsOfOb at hcs ⊢
  rw [hob hib] at hcs
  exact hcs
theorem InvP.swapS (hI : InvP vars E m c w g h a) {i : Nat} (hl : E.base + i + 1 < h.length) (hT : ∀ t i k r, look g t ≠ .list (.cell i k) r) :
  InvP vars E (swL (E.base + i) m) c w (swE (E.base + i) g) (h.take E.base ++ swL i ((h.drop E.base).map (swO (E.base + i)))) a := by
 have hS := hI.swap (j := E.base + i) (Nat.le_add_right _ _) hl hT
 have e : h.take E.base ++ swL i ((h.drop E.base).map (swO (E.base + i))) = swL (E.base + i) (h.map (swO (E.base + i))) := by
  have hlen := hI.hlen
  apply List.ext_getElem?
  intro k
  rw [swL_get (by simpa using hl)]
  by_cases hk : k < E.base
  ·rw [List.getElem?_append_left (by rw [List.length_take]; omega), List.getElem?_take, if_pos hk]
   have e1 : sw (E.base + i) k = k := by unfold sw; rw [if_neg (by omega), if_neg (by omega)]
   rw [e1, List.getElem?_map]
   cases hq : h[k]? with
   | none => rfl
   | some o =>
    cases o with
    | cells cs =>
     have hcs : cellsOfOb h k = some cs := by unfold cellsOfOb; rw [hq]
     have : cs.map (swf (E.base + i)) = cs := by
      conv => rhs; rw [<- List.map_id cs]
      refine List.map_congr_left fun v hv => ?_
      exact swf_id (Nat.le_add_right _ _) (hI.old E.base k cs hk hk hcs (fun cs0 h0 u hu => hI.ent k cs0 h0 u hu) v hv)
     simp only [Option.map_some, swO, this]
    | iter s p => rfl
    | tab es => rfl
  ·rw [List.getElem?_append_right (by rw [List.length_take]; omega), List.length_take, Nat.min_eq_left hlen, swL_get (by rw [List.length_map, List.length_drop]; omega)]
   rw [List.getElem?_map, List.getElem?_map, List.getElem?_drop]
   have e2 : E.base + sw i (k - E.base) = sw (E.base + i) k := by
    unfold sw
    repeat' split
    all_goals omega
   rw [e2]
 rw [e]
 exact hS
end
end Go.Lift
end

section
namespace Go.Lift
variable [GTab] [BTy]
section
variable {P : Program} {vars : List Nat} {m : List Nat} {c : Cl} {w : World} {g : Env} {h : Heap} {a : Act} {E : Entry}
theorem grow_inv (hI : InvP vars E m c w g h a) {o : Oper} {r q : List (List V)} {olds news : List Value} {rest : Array Value} {e : TypeId} {cap sz : Nat} (hsz : 0 < sz)
  (hlo : olds.length = r.length * sz) (hln : news.length = q.length * sz) (hr : ∀ row ∈ r, row.length = sz) (hq : ∀ row ∈ q, row.length = sz)
  (h1 : ∀ (i j : Nat) row v, r[i]? = some row -> row[j]? = some v -> ∃ x, olds[i * sz + j]? = some x /\ VP c w v x) (h2 : ∀ (i j : Nat) row v, q[i]? = some row -> row[j]? = some v -> ∃ x, news[i * sz + j]? = some x /\ VP c w v x)
  (hbt : ∀ T, BTy.bb = some T -> isByteRow (r ++ q) = true -> e = T) (hcap : r.length + q.length <= cap) (hrest : rest.size = (cap - (r.length + q.length)) * sz) (hmax : cap <= maxLen) (hne : r ++ q ≠ [])
  (hd : ∀ t, o.dst = some t -> t < E.nt) (hv : ∀ t, o.dst = some t -> t ∉ vars) : InvP vars E m (fun b => if b = w.heap.size then (r.length + q.length) * sz else c b) (w.drew.alloc (.cells (olds.toArray ++ news.toArray ++ rest) e)) (put o.dst (.list .yes (r ++ q)) g) h (a.put o.dst (.slice (some ⟨w.heap.size, 0, none⟩) (r.length + q.length) cap)) := by
 have hasz : (olds.toArray ++ news.toArray ++ rest).size = cap * sz := by
  simp only [Array.size_append, List.size_toArray, hlo, hln, hrest]
  rw [<- Nat.add_mul, <- Nat.add_mul]
  congr 1
  omega
 have hnle : (r.length + q.length) * sz <= cap * sz := Nat.mul_le_mul_right _ hcap
 have hI' := grow_claim hI (arr := olds.toArray ++ news.toArray ++ rest) (e := e) (f := (0, 0)) (w' := w.drew.alloc (.cells (olds.toArray ++ news.toArray ++ rest) e)) ((r.length + q.length) * sz) rfl rfl rfl rfl (by rw [hasz]; exact hnle)
 have hheap : (w.drew.alloc (.cells (olds.toArray ++ news.toArray ++ rest) e)).heap[w.heap.size]? = some (.cells (olds.toArray ++ news.toArray ++ rest) e (0, 0)) := heap_alloc_new w.drew _
 have hold : ∀ b, b < w.heap.size -> (w.drew.alloc (.cells (olds.toArray ++ news.toArray ++ rest) e)).heap[b]? = w.heap[b]? := fun b hb => by
  show (w.heap.push _)[b]? = _
  rw [Array.getElem?_push]; simp [show ¬ b = w.heap.size by omega]
 have hext : Ext c w (fun b => if b = w.heap.size then (r.length + q.length) * sz else c b) (w.drew.alloc (.cells (olds.toArray ++ news.toArray ++ rest) e)) := by
  refine ⟨fun b => ?_, fun b o ho => ?_, fun b _ => Shp.old hold b⟩
  ·by_cases hb : b = w.heap.size
   ·subst hb; rw [hI.core.c_zero (Nat.le_refl _)]; exact Nat.zero_le _
   ·simp [hb]
  ·rcases Nat.lt_or_ge b w.heap.size with hb | hb
   ·exact cell_of_heap (hold b hb) o
   ·rw [hI.core.c_zero hb] at ho; omega
 have hl2 : (r ++ q).length = r.length + q.length := by simp
 have hrq : ∀ row ∈ r ++ q, row.length = sz := fun row hm => by
  rcases List.mem_append.1 hm with hm | hm
  ·exact hr row hm
  ·exact hq row hm
 have hvp := VP_new (k := .yes) (cap := cap) (c := fun b => if b = w.heap.size then (r.length + q.length) * sz else c b) (rows := r ++ q) hheap hsz hrq (by rw [hl2]; exact hcap) (by simp only [hl2, if_true]; exact Nat.le_refl _) (fun i j row v hi hj => by
  obtain ⟨x, hx, hxv⟩ := rows_append hlo h1 h2 i j row v hi hj
  refine ⟨x, ?_, hxv.mono hext⟩
  rw [Array.getElem?_append_left]
  ·rw [<- Array.getElem?_toList]; simpa using hx
  ·have := (List.getElem?_eq_some_iff.1 hx).1
   simpa using this)
 rw [hl2] at hvp
 refine hI'.putOwn hd hvp ?_ ?_ ?_ (.inl hv)
 ·refine .inr ⟨w.heap.size, cap, _, e, sz, by rw [hl2], hheap, by rw [hl2]; exact hcap, hmax, hasz, hsz, hrq, by simp, ?_, fun h0 => absurd h0 hne, hbt⟩
  intro hb
  obtain ⟨i, hi, hb⟩ := List.getElem_of_mem hb
  have := hI.core.m_lt (List.getElem?_eq_getElem hi)
  omega
 ·intro l r' x' b hl hb hb'
  cases hb
  have hl' : At m w g h a l r' x' := by
   cases l with
   | slot t => exact hl
   | cell i j =>
    obtain ⟨cs, b, k1, k2, k3, k4⟩ := hl
    exact ⟨cs, b, k1, k2, k3, by rw [<- cell_of_heap (hold b (hI.core.m_lt k3))]; exact k4⟩
  exact absurd ((hI.core.own l r' x' hl').lt hb').1 (Nat.lt_irrefl _)
 ·intro b hb
  cases hb
  exact .inl hI.fr.size
theorem room_inv (hI : InvP vars E m c w g h a) {o : Oper} {r q : List (List V)} {news : List Value} {b cap sz : Nat} {cur : Array Value} {e : TypeId} (hb : w.heap[b]? = some (.cells cur e (0, 0)))
  (hO : Owns E m c w g h a r (.slice (some ⟨b, 0, none⟩) r.length cap)) (hcur : cur.size = cap * sz) (hsz : 0 < sz) (hr : ∀ row ∈ r, row.length = sz) (hq : ∀ row ∈ q, row.length = sz) (hc : c b = r.length * sz) (hbm : b ∉ m) (hmax : cap <= maxLen)
  (hln : news.length = q.length * sz) (h2 : ∀ (i j : Nat) row v, q[i]? = some row -> row[j]? = some v -> ∃ x, news[i * sz + j]? = some x /\ VP c w v x) (hbt : ∀ T, BTy.bb = some T -> isByteRow (r ++ q) = true -> e = T) (hcap : r.length + q.length <= cap) (hne : r ++ q = [] -> cap = 0)
  (hd : ∀ t, o.dst = some t -> t < E.nt) (hv : ∀ t, o.dst = some t -> t ∉ vars) : InvP vars E m (fun k => if k = b then (r.length + q.length) * sz else c k) (w.setCells b (r.length * sz) news) (put o.dst (.list .yes (r ++ q)) g) h (a.put o.dst (.slice (some ⟨b, 0, none⟩) (r.length + q.length) cap)) := by
 have hnle : (r.length + q.length) * sz <= cap * sz := Nat.mul_le_mul_right _ hcap
 have hfit : r.length * sz + news.length <= cur.size := by rw [hln, hcur, <- Nat.add_mul]; exact hnle
 obtain ⟨k1, k2, k3, k4, k5, arr', k6, k7⟩ := setCells_spec b news (r.length * sz) w cur e (0, 0) hb hfit
 have hbl : b < w.heap.size := (Array.getElem?_eq_some_iff.1 hb).1
 have hasz : arr'.size = cap * sz := by
  rw [<- hcur, <- Array.length_toList, k7]
  simp only [List.length_append, List.length_take, List.length_drop, Array.length_toList]
  omega
 have hget : ∀ k, k < r.length * sz -> arr'[k]? = cur[k]? := fun k hk => by
  rw [<- Array.getElem?_toList, k7, getElem?_splice (by simpa using hfit), if_neg (by omega)]
  simp
 have hI' := hI.grown (c' := fun k => if k = b then (r.length + q.length) * sz else c k) (w' := w.setCells b (r.length * sz) news) (some b) (by rw [k1]; exact Nat.le_refl _)
  (fun k hk hne => ⟨k2 k (fun e => hne (by rw [e])), by simp [show ¬ k = b from fun e => hne (by rw [e])]⟩)
  (fun k hk => by
   cases hk
   refine ⟨hbm, fun l r' x' hl => ?_, hO.2.2.2 b rfl, ?_, fun o ho => ?_, ⟨arr', e, (0, 0), k6, by simp only [if_true]; rw [hasz]; exact hnle⟩, fun _ => setCells_shp hb hfit⟩
   ·exact hO.2.2.1 l r' x' b hl rfl
   ·simp only [if_true, hc]; exact Nat.mul_le_mul_right _ (by omega)
   ·rw [cell_arr k6, cell_arr hb]
    exact hget o (by rw [<- hc]; exact ho))
  (fun k hk hne h0 => by
   have : ¬ k = b := fun e => hne (by rw [e])
   simp only [if_neg this] at h0
   rw [hI.core.c_zero hk] at h0; omega) k3 k4 k5
 have hext : Ext c w (fun k => if k = b then (r.length + q.length) * sz else c k) (w.setCells b (r.length * sz) news) := by
  refine ⟨fun k => ?_, fun k o ho => ?_, fun k _ => ?_⟩
  rotate_left 2
  ·by_cases hk : k = b
   ·rw [hk]; exact setCells_shp hb hfit
   ·exact Shp.same (k2 k hk)
  ·by_cases hk : k = b
   ·subst hk; simp only [if_true, hc]; exact Nat.mul_le_mul_right _ (by omega)
   ·simp [hk]
  ·by_cases hk : k = b
   ·subst hk
    rw [cell_arr k6, cell_arr hb]
    exact hget o (by rw [<- hc]; exact ho)
   ·exact cell_of_heap (k2 k hk) o
 have hl2 : (r ++ q).length = r.length + q.length := by simp
 have hrq : ∀ row ∈ r ++ q, row.length = sz := fun row hm => by
  rcases List.mem_append.1 hm with hm | hm
  ·exact hr row hm
  ·exact hq row hm
 have holds := own_cells hO.1 rfl hb hr
 have holdl : (cur.toList.take (r.length * sz)).length = r.length * sz := by
  rw [List.length_take, Array.length_toList]
  exact Nat.min_eq_left (Nat.le_trans (Nat.le_add_right _ _) hfit)
 have hvp := VP_new (k := .yes) (cap := cap) (c := fun k => if k = b then (r.length + q.length) * sz else c k) (rows := r ++ q) k6 hsz hrq (by rw [hl2]; exact hcap) (by simp only [hl2, if_true]; exact Nat.le_refl _) (fun i j row v hi hj => by
  obtain ⟨x, hx, hxv⟩ := rows_append (olds := cur.toList.take (r.length * sz)) (news := news) holdl (fun i j row v hi hj => by
   obtain ⟨x, hx, hxv⟩ := holds i j row v hi hj
   refine ⟨x, ?_, hxv⟩
   have hjl : j < sz := by rw [<- hr row (List.mem_of_getElem? hi)]; exact (List.getElem?_eq_some_iff.1 hj).1
   have hil : i < r.length := (List.getElem?_eq_some_iff.1 hi).1
   have : (i + 1) * sz <= r.length * sz := Nat.mul_le_mul_right _ hil
   rw [Nat.add_mul] at this
   rw [List.getElem?_take, if_pos (by omega)]
   simpa using hx) h2 i j row v hi hj
  refine ⟨x, ?_, hxv.mono hext⟩
  rw [<- Array.getElem?_toList, k7, List.getElem?_append_left (List.getElem?_eq_some_iff.1 hx).1]
  exact hx)
 rw [hl2] at hvp
 refine hI'.putOwn hd hvp ?_ ?_ ?_ (.inl hv)
 ·exact .inr ⟨b, cap, arr', e, sz, by rw [hl2], k6, by rw [hl2]; exact hcap, hmax, hasz, hsz, hrq, by simp, hbm, hne, hbt⟩
 ·intro l r' x' k hl hk
  cases hk
  have hl' : At m w g h a l r' x' := by
   cases l with
   | slot t => exact hl
   | cell i j =>
    obtain ⟨cs, b', q1, q2, q3, q4⟩ := hl
    exact ⟨cs, b', q1, q2, q3, by rw [<- cell_of_heap (k2 b' (fun e => hbm (e ▸ List.mem_of_getElem? q3)))]; exact q4⟩
  exact hO.2.2.1 l r' x' b hl' rfl
 ·intro k hk
  cases hk
  exact hO.2.2.2 b rfl
theorem world_ext {w w' : World} (h1 : ∀ k : Nat, w.heap[k]? = w'.heap[k]?) (h2 : w.os = w'.os) (h3 : w.tape = w'.tape) (h4 : w.output = w'.output) (h5 : w.drawn = w'.drawn) : w = w' := by
 obtain ⟨hp, tp, dr, os, out⟩ := w
 obtain ⟨hp', tp', dr', os', out'⟩ := w'
 simp only at h1 h2 h3 h4 h5
 subst h2 h3 h4 h5
 congr 1
 exact Array.ext_getElem? h1
theorem setCells_drawn (b : Nat) : ∀ (vs : List Value) (o : Nat) (w : World), (w.setCells b o vs).drawn = w.drawn
 | [], o, w => rfl
 | v :: vs, o, w => by rw [World.setCells, setCells_drawn b vs]; rfl
theorem setCells_over {b o : Nat} {vs us : List Value} {w : World} {cur : Array Value} {e : TypeId} {f : Nat × Nat} (hb : w.heap[b]? = some (.cells cur e f)) (hfit : o + vs.length <= cur.size) (hl : vs.length = us.length) : (w.setCells b o vs).setCells b o us = w.setCells b o us := by
 obtain ⟨a1, a2, a3, a4, a5, ar, a6, a7⟩ := setCells_spec b vs o w cur e f hb hfit
 have hs : ar.size = cur.size := by
  have := congrArg List.length a7
  simp only [List.length_append, List.length_take, List.length_drop, Array.length_toList] at this
  omega
 obtain ⟨b1, b2, b3, b4, b5, br, b6, b7⟩ := setCells_spec b us o (w.setCells b o vs) ar e f a6 (by omega)
 obtain ⟨c1, c2, c3, c4, c5, cr, c6, c7⟩ := setCells_spec b us o w cur e f hb (by omega)
 refine world_ext (fun k => ?_) (by rw [b3, a3, c3]) (by rw [b4, a4, c4]) (by rw [b5, a5, c5]) (by rw [setCells_drawn, setCells_drawn, setCells_drawn])
 by_cases hk : k = b
 ·subst hk
  rw [b6, c6]
  congr 2
  apply Array.toList_inj.1
  rw [b7, c7, a7]
  have e1 : (cur.toList.take o ++ vs ++ cur.toList.drop (o + vs.length)).take o = cur.toList.take o := by
   rw [List.append_assoc, List.take_append_of_le_length (by rw [List.length_take, Array.length_toList]; omega), List.take_take, Nat.min_self]
  have e2 : (cur.toList.take o ++ vs ++ cur.toList.drop (o + vs.length)).drop (o + us.length) = cur.toList.drop (o + us.length) := by
   have hlen : (cur.toList.take o ++ vs).length = o + us.length := by rw [List.length_append, List.length_take, Array.length_toList]; omega
   rw [<- hlen, List.drop_left, hlen, hl]
  rw [e1, e2]
 ·rw [b2 k hk, a2 k hk, c2 k hk]
theorem setCells_apart {b k o p : Nat} {vs us : List Value} {w : World} {cur cur' : Array Value} {e e' : TypeId} {f f' : Nat × Nat} (hbk : b ≠ k) (hb : w.heap[b]? = some (.cells cur e f)) (hfit : o + vs.length <= cur.size) (hk : w.heap[k]? = some (.cells cur' e' f')) (hfit' : p + us.length <= cur'.size) :
  (w.setCells b o vs).setCells k p us = (w.setCells k p us).setCells b o vs := by
 obtain ⟨a1, a2, a3, a4, a5, ar, a6, a7⟩ := setCells_spec b vs o w cur e f hb hfit
 obtain ⟨b1, b2, b3, b4, b5, br, b6, b7⟩ := setCells_spec k us p (w.setCells b o vs) cur' e' f' (by rw [a2 k (Ne.symm hbk)]; exact hk) hfit'
 obtain ⟨c1, c2, c3, c4, c5, cr, c6, c7⟩ := setCells_spec k us p w cur' e' f' hk hfit'
 obtain ⟨d1, d2, d3, d4, d5, dr, d6, d7⟩ := setCells_spec b vs o (w.setCells k p us) cur e f (by rw [c2 b hbk]; exact hb) hfit
 refine world_ext (fun j => ?_) (by rw [b3, a3, d3, c3]) (by rw [b4, a4, d4, c4]) (by rw [b5, a5, d5, c5]) (by rw [setCells_drawn, setCells_drawn, setCells_drawn, setCells_drawn])
 by_cases h1 : j = k
 ·subst h1
  rw [b6, d2 j (Ne.symm hbk), c6]
  congr 2
  apply Array.toList_inj.1
  rw [b7, c7]
 ·by_cases h2 : j = b
  ·subst h2
   rw [b2 j hbk, a6, d6]
   congr 2
   apply Array.toList_inj.1
   rw [a7, d7]
  ·rw [b2 j h1, a2 j h2, d2 j h2, c2 j h1]
theorem setCells_alloc {vs us : List Value} {w : World} {xs : List Value} {rest : Array Value} {e : TypeId} (hl : vs.length = us.length) :
  (w.alloc (.cells (xs.toArray ++ vs.toArray ++ rest) e)).setCells w.heap.size xs.length us = w.alloc (.cells (xs.toArray ++ us.toArray ++ rest) e) := by
 obtain ⟨a1, a2, a3, a4, a5, ar, a6, a7⟩ := setCells_spec w.heap.size us xs.length (w.alloc (.cells (xs.toArray ++ vs.toArray ++ rest) e)) _ e (0, 0) (heap_alloc_new w _) (by simp; omega)
 refine world_ext (fun j => ?_) a3 a4 a5 (setCells_drawn _ _ _ _)
 by_cases hj : j = w.heap.size
 ·subst hj
  rw [a6, heap_alloc_new w _]
  congr 2
  apply Array.toList_inj.1
  rw [a7]
  have e1 : (xs.toArray ++ vs.toArray ++ rest).toList = xs ++ vs ++ rest.toList := by simp
  have e2 : (xs.toArray ++ us.toArray ++ rest).toList = xs ++ us ++ rest.toList := by simp
  rw [e1, e2]
  have e3 : (xs ++ vs ++ rest.toList).take xs.length = xs := by rw [List.append_assoc, List.take_left]
  have e4 : (xs ++ vs ++ rest.toList).drop (xs.length + us.length) = rest.toList := by
   have : xs.length + us.length = (xs ++ vs).length := by rw [List.length_append, hl]
   rw [this, List.drop_left]
  rw [e3, e4]
 ·rw [a2 j hj]
  show (w.heap.push _)[j]? = (w.heap.push _)[j]?
  rw [Array.getElem?_push, Array.getElem?_push, if_neg hj, if_neg hj]
theorem late_append (hI : InvP vars E m c w g h a) {o : Oper} {k : Call} {x y : Operand} {e : TypeId} {du : TypeDesc} {r : List (List V)} {z ev : List V} {es : List Value} {g1 : Env} {h1 : Heap} (ho : o.op = .call k) (hc : k.callee = .builtin .append) (hargs : k.args.toList = [x, y])
  (htypes : k.argTypes.toList.map P.underlying = [some (.slice e), some du]) (hown : owner E.lo (g, h) x = some (r, g1, h1)) (hq : appRows P e (opd g y) = some [z])
  (hcond : (tzero P e).map (·.length) = some (tsize P e) /\ 0 < tsize P e /\ (r.all fun z => z.length == tsize P e) = true /\ (r.length + 1) * P.bytesOf e <= 140737488355328 /\ r.length + 1 <= 9223372036854775807 /\ notInt du = true /\ byT e r [ev] = true)
  (hev : ev.length = tsize P e) (hes : es.length = tsize P e) (hrel : ∀ (j : Nat) v, ev[j]? = some v -> ∃ x, es[j]? = some x /\ VP c w v x)
  (hd : ∀ t, o.dst = some t -> t < E.nt) (hv : ∀ t, o.dst = some t -> t ∉ vars) :
  ∃ b cap wz c' arr ty, Does P w a o (.slice (some ⟨b, 0, none⟩) (r.length + 1) cap) wz /\ InvP vars E m c' (wz.setCells b (r.length * tsize P e) es) (put o.dst (.list .yes (r ++ [ev])) (Lift.untag g1)) h1 (a.put o.dst (.slice (some ⟨b, 0, none⟩) (r.length + 1) cap)) /\
   wz.heap[b]? = some (.cells arr ty (0, 0)) /\ (r.length + 1) * tsize P e <= arr.size /\ b ∉ m := by
 obtain ⟨c1, c2, c3, c4, c5, c6, c7⟩ := hcond
 obtain ⟨hI1, hO⟩ := owner_spec hI hown
 obtain ⟨ie, hie⟩ : ∃ ie, P.info? e = some ie := by
  cases hie : P.info? e with
  | some ie => exact ⟨ie, rfl⟩
  | none => simp [tsize, Program.cellsOf, hie] at c2
 have hsz := size_of_info hie
 have hsz0 : 0 < ie.size := by rw [<- hsz]; exact c2
 obtain ⟨z0, hz, hzl⟩ : ∃ z, ie.zero = some z /\ z.cells.size = ie.size := by
  unfold tzero at c1
  rw [hie] at c1
  cases hz : ie.zero with
  | none => simp [hz] at c1
  | some z => simp [hz] at c1; exact ⟨z, rfl, by rw [c1, hsz]⟩
 have hby : P.bytesOf e = ie.bytes := by simp [Program.bytesOf, hie]
 rw [hby] at c4
 obtain ⟨news, hsrc, hnl, hqr, hnew⟩ := src_rows hie (hI.core.opd y) hq hsz0
 rw [List.length_singleton, Nat.one_mul] at hnl
 rw [hsz] at hev hes ⊢
 have hrr : ∀ row ∈ r, row.length = ie.size := fun row hr => by
  have := List.all_eq_true.1 c3 row hr
  rw [hsz] at this
  simpa using this
 have hqq : ∀ row ∈ [ev], row.length = ie.size := fun row hr => by rw [List.mem_singleton.1 hr]; exact hev
 have hrel' : ∀ (i j : Nat) row v, [ev][i]? = some row -> row[j]? = some v -> ∃ x, es[i * ie.size + j]? = some x /\ VP c w v x := fun i j row v hi hj => by
  cases i with
  | zero =>
   simp at hi
   subst hi
   rw [Nat.zero_mul, Nat.zero_add]
   exact hrel j v hj
  | succ i => simp at hi
 obtain ⟨t, u, ht2, htu, huu⟩ : ∃ t u, k.argTypes = #[t, u] /\ P.underlying t = some (.slice e) /\ P.underlying u = some du := by
  rcases hl : k.argTypes.toList with _ | ⟨t, _ | ⟨u, _ | ⟨v, l⟩⟩⟩ <;> rw [hl] at htypes <;> simp at htypes
  exact ⟨t, u, by rw [<- Array.toArray_toList (xs := k.argTypes), hl], htypes.1, htypes.2⟩
 have hdu : ∀ kk, du ≠ .int kk := fun kk e => by subst e; cases c6
 have hargs' : k.args.map a.eval = #[a.eval x, a.eval y] := by
  rw [<- Array.toArray_toList (xs := k.args), hargs]; simp
 have hdo : ∀ v w', (Builtin.append_ #[t, u] o.type #[a.eval x, a.eval y]).run P w = .ok v w' -> Does P w a o v w' := fun v w' hr => by
  refine does_of (exec_append a.eval ho hc) ?_
  rw [ht2, hargs']
  exact hr
 have hone : ∀ v ∈ news, v.oneCell' = true := fun v hv => by
  obtain ⟨p, hp, rfl⟩ := List.getElem_of_mem hv
  have hm : p < z.length := by rw [hqr z (by simp)]; rw [hnl] at hp; exact hp
  obtain ⟨z', hz', hvp⟩ := hnew 0 p z _ rfl (List.getElem?_eq_getElem hm)
  rw [Nat.zero_mul, Nat.zero_add, List.getElem?_eq_getElem hp] at hz'
  cases hz'
  exact hvp.oneCell
 have hnes : news.length = es.length := by rw [hnl, hes]
 have hgrow : ∀ {base : Option Addr} {cap : Nat} {olds : List Value}, a.eval x = .slice base r.length cap -> (∀ w', w'.heap = w.heap -> (Builtin.firstCells ie.size r.length (.slice base r.length cap)).run P w' = .ok olds.toArray w') ->
   olds.length = r.length * ie.size -> (∀ (i j : Nat) row v, r[i]? = some row -> row[j]? = some v -> ∃ x, olds[i * ie.size + j]? = some x /\ VP c w v x) -> cap < r.length + 1 ->
   ∃ b cap wz c' arr ty, Does P w a o (.slice (some ⟨b, 0, none⟩) (r.length + 1) cap) wz /\ InvP vars E m c' (wz.setCells b (r.length * ie.size) es) (put o.dst (.list .yes (r ++ [ev])) (Lift.untag g1)) h1 (a.put o.dst (.slice (some ⟨b, 0, none⟩) (r.length + 1) cap)) /\
   wz.heap[b]? = some (.cells arr ty (0, 0)) /\ (r.length + 1) * ie.size <= arr.size /\ b ∉ m := fun {base cap olds} hx hf hol hoc hlt => by
  have hrun := app_grow (P := P) (w := w) (ty := o.type) htu huu hdu hie hz hsrc hf hlt c5 c4
  rw [<- hx] at hrun
  have hge := grownCap_ge w (r.length + 1) cap e
  have hrest : (Builtin.zeroCells z0.cells (grownCap w (r.length + 1) cap e - (r.length + 1))).size = (grownCap w (r.length + 1) cap e - (r.length + 1)) * ie.size := by rw [size_zeroCells, hzl]
  have hinv := grow_inv (q := [ev]) (news := es) hI1 (o := o) hsz0 hol (by rw [hes]; simp) hrr hqq hoc hrel' (byT_of c7) hge hrest (grownCap_le_maxLen w _ _ e (by unfold maxLen; exact c5)) (by simp) hd hv
  rw [<- setCells_alloc (vs := news) hnes, hol] at hinv
  refine ⟨_, _, _, _, _, _, hdo _ _ hrun, hinv, heap_alloc_new w.drew _, ?_, fun hb => ?_⟩
  ·simp only [Array.size_append, List.size_toArray, hol, hnl, hrest]
   rw [Nat.add_mul, Nat.one_mul]
   exact Nat.le_add_right _ _
  ·obtain ⟨i, hi, hb⟩ := List.getElem_of_mem hb
   have := hI1.core.m_lt (List.getElem?_eq_getElem hi)
   rw [hb] at this
   exact absurd this (Nat.lt_irrefl _)
 rcases hO.2.1 with ⟨hx, hr0⟩ | ⟨b, cap, cur, e', sz, hx, k1, k2, k3, k4, k5, k6, k7, k8, k9, k10⟩
 ·subst hr0
  exact hgrow (base := none) (cap := 0) (olds := []) hx (fun w' _ => by simp [Builtin.firstCells]) (by simp) (fun i j row v hi => by simp at hi) (by simp)
 ·by_cases hroom : r.length + 1 <= cap
  ·by_cases hr0 : r = []
   ·subst hr0
    have hcap0 := k9 rfl
    subst hcap0
    simp at hroom
   ·have hse : sz = ie.size := by
     obtain ⟨r0, hm⟩ := List.exists_mem_of_ne_nil _ hr0
     rw [<- k6 r0 hm, hrr r0 hm]
    subst hse
    have hfit : r.length * ie.size + news.length <= cur.size := by rw [hnl, k4, show r.length * ie.size + ie.size = (r.length + 1) * ie.size by rw [Nat.add_mul, Nat.one_mul]]; exact Nat.mul_le_mul_right _ hroom
    rw [hx] at hO
    have hrun := app_room (P := P) (w := w) (ty := o.type) htu huu hdu hie hsrc k1 hroom hfit hone
    have hinv := room_inv (q := [ev]) (news := es) hI1 (o := o) k1 hO k4 k5 hrr hqq k7 k8 k3 (by rw [hes]; simp) hrel' (fun T hT hb => k10 T hT (by rw [isByteRow_app hr0] at hb; exact hb)) hroom (fun h0 => absurd (List.append_eq_nil_iff.1 h0).1 hr0) hd hv
    rw [<- setCells_over k1 hfit hnes] at hinv
    obtain ⟨_, _, _, _, _, arr', j6, j7⟩ := setCells_spec b news (r.length * ie.size) w cur e' (0, 0) k1 hfit
    refine ⟨b, cap, _, _, arr', e', hdo _ _ (by rw [hx]; exact hrun), hinv, j6, ?_, k8⟩
    have := congrArg List.length j7
    simp only [List.length_append, List.length_take, List.length_drop, Array.length_toList] at this
    rw [Nat.add_mul, Nat.one_mul]
    omega
  ·by_cases hr0 : r = []
   ·subst hr0
    exact hgrow (olds := []) hx (fun w' _ => run_firstCells_some w' ie.size 0 ⟨b, 0, none⟩ 0 cap [] (by simp) (fun j v hj => by simp at hj)) (by simp) (fun i j row v hi => by simp at hi) (by omega)
   ·have hse : sz = ie.size := by
     obtain ⟨r0, hm⟩ := List.exists_mem_of_ne_nil _ hr0
     rw [<- k6 r0 hm, hrr r0 hm]
    subst hse
    rw [hx] at hO
    have hle : r.length * ie.size <= cur.size := by rw [k4]; exact Nat.mul_le_mul_right _ k2
    have hol : (cur.toList.take (r.length * ie.size)).length = r.length * ie.size := by
     rw [List.length_take, Array.length_toList]
     exact Nat.min_eq_left hle
    refine hgrow (olds := cur.toList.take (r.length * ie.size)) hx (fun w' hw' => run_firstCells_some w' ie.size r.length ⟨b, 0, none⟩ r.length cap _ hol (fun j v hj => ?_)) hol (fun i j row v hi hj => ?_) (by omega)
    ·rw [add_none, Nat.zero_add, cell_of_heap (w := w) (w' := w') (by rw [hw']), cell_arr k1]
     rw [List.getElem?_take] at hj
     split at hj
     ·simpa using hj
     ·cases hj
    ·obtain ⟨x', hx', hxv⟩ := own_cells hO.1 rfl k1 hrr i j row v hi hj
     refine ⟨x', ?_, hxv⟩
     have hjl : j < ie.size := by rw [<- hrr row (List.mem_of_getElem? hi)]; exact (List.getElem?_eq_some_iff.1 hj).1
     have hil : i < r.length := (List.getElem?_eq_some_iff.1 hi).1
     have : (i + 1) * ie.size <= r.length * ie.size := Nat.mul_le_mul_right _ hil
     rw [Nat.add_mul] at this
     rw [List.getElem?_take, if_pos (by omega)]
     simpa using hx'
end
end Go.Lift
end

section
namespace Go.Lift
variable [GTab] [BTy]
section
variable {P : Program} {vars : List Nat} {m : List Nat} {c : Cl} {w : World} {g : Env} {h : Heap} {a : Act} {E : Entry}
theorem stk_idx (hC : Core vars m c w g h a) {o : Oper} {t : TypeId} {x i : Operand} (ho : o.op = .indexAddr t x i) {b mm sz : Nat} (hx0 : opd g x = .stk b mm sz) {v : V} (hv : evPure P vars (g, h) (.indexAddr t x i) = some v) :
  ∃ y, (∀ w' : World, Yields P w' a o y) /\ VRr m c w v y /\ bare v = true := by
 have hx := hC.opd x
 have hi := hC.opd i
 simp only [evPure] at hv
 rw [hx0] at hv hx
 split at hv
 ·rename_i he _ _; cases he
 ·rename_i he _ _; cases he
 ·rename_i b mm sz n e he hn hu
  cases he
  obtain ⟨kk, hkk⟩ := idx_spec hn
  rw [hkk] at hi
  have hi' : a.eval i = .int kk n := hi
  split at hv
  ·rename_i hb
   cases hv
   obtain ⟨gb, cap, hg, hy, hcap, _⟩ := hx
   obtain ⟨ie, hie⟩ : ∃ ie, P.info? e = some ie := by
    cases hie : P.info? e with
    | some ie => exact ⟨ie, rfl⟩
    | none =>
     have h1 := hb.2.2.1
     have h2 := hb.2.2.2
     simp [tsize, Program.cellsOf, hie] at h1
     omega
   refine ⟨.pointer (some ((⟨gb, 0, none⟩ : Addr).add (n.toNat * tsize P e))), fun w' => yields_of (by simp [execOp, ho, hy, hi']; rfl) ?_, ⟨gb, hg, by rw [add_none, Nat.zero_add, hb.2.2.1]⟩, rfl⟩
   have hb' : 0 <= n /\ n < (mm : Int) := ⟨hb.1, hb.2.1⟩
   simp [Instr.indexAt, asIntOf, run_underlying hu, hb', sizeOf, typeInfo, hie, size_of_info hie]
  ·cases hv
 ·rename_i he _ _; cases he
 ·rename_i he _ _; cases he
 ·cases hv
theorem ptr_field (hC : Core vars m c w g h a) {o : Oper} {t : TypeId} {x : Operand} {f : Nat} (ho : o.op = .fieldAddr t x f) {b k : Nat} (hx0 : opd g x = .ptr b k) {v : V} (hv : evPure P vars (g, h) (.fieldAddr t x f) = some v) :
  ∃ y, (∀ w' : World, Yields P w' a o y) /\ VRr m c w v y /\ bare v = true := by
 have hx := hC.opd x
 simp only [evPure] at hv
 rw [hx0] at hv hx
 split at hv
 ·rename_i b k off u he hf
  cases he
  split at hv
  ·rename_i hs
   cases hv
   obtain ⟨fs, fd, hu, hfd, rfl, rfl⟩ := fieldOff_spec hf
   obtain ⟨gb, hg, hy⟩ := hx
   exact ⟨_, fun w' => yields_of (by simp [execOp, ho, hy]; rfl) (run_fieldAt hu hfd hs _), ⟨gb, hg, by rw [add_none]⟩, rfl⟩
  ·cases hv
 ·rename_i he _; cases he
 ·cases hv
theorem ptr_nil (hC : Core vars m c w g h a) {o : Oper} {x : Operand} (ho : o.op = .nilCheck x) {b k : Nat} (hx0 : opd g x = .ptr b k) :
  ∃ y, (∀ w' : World, Yields P w' a o y) /\ VRr m c w (.ptr b k) y /\ bare (V.ptr b k) = true := by
 have hx := hC.opd x
 rw [hx0] at hx
 obtain ⟨gb, hg, hy⟩ := hx
 exact ⟨_, fun w' => by simp [Yields, execOp, ho, hy], ⟨gb, hg, rfl⟩, rfl⟩
theorem row_addr {o : Oper} {t e : TypeId} {u nn n b cap : Nat} {kk : IntKind} (ho : o.op = .indexAddr t (.tmp u) (.tmp nn)) (hu : P.underlying t = some (.slice e)) (hi : (P.info? e).isSome) (hy : a.eval (.tmp u) = .slice (some ⟨b, 0, none⟩) (n + 1) cap) (hn : a.eval (.tmp nn) = .int kk n) (w' : World) :
  Yields P w' a o (.pointer (some ⟨b, n * tsize P e, none⟩)) := by
 obtain ⟨ie, hie⟩ := Option.isSome_iff_exists.1 hi
 refine yields_of (by simp [execOp, ho, hy, hn]; rfl) ?_
 have hb' : (0 : Int) <= (n : Int) /\ (n : Int) < ((n + 1 : Nat) : Int) := ⟨by omega, by omega⟩
 simp [Instr.indexAt, asIntOf, run_underlying hu, hb', sizeOf, typeInfo, hie, size_of_info hie]
 rw [add_none, Nat.zero_add]
theorem late_store (hI : InvP vars E m c w g h a) {p : Operand} {u i off : Nat} {cs : List V} {r : List (List V)} {t : TypeId} (hp : opd g p = .ptr i off) (hcs : cellsOfOb h i = some cs) (hl : look g u = .list .yes r)
  (c1 : E.lo <= i) (c2 : off + 1 <= cs.length) (ht : tsize P t = 1) (hinfo : (P.info? t).isSome) (c7 : bldS [V.list .yes r] = true) :
  ∃ gb arr e f, m[i]? = some gb /\ w.heap[gb]? = some (.cells arr e f) /\ off + 1 <= arr.size /\
   InvP vars E m c (w.setCells gb off [a.tmps.getD u undef]) (Lift.untag (Lift.ins u (.list .no r) g)) (Lift.setOb h i (cs.take off ++ [.list .yes r] ++ cs.drop (off + 1))) a /\
   ∀ (o : Oper) (w1 : World) (arr1 : Array Value), o.op = .store t p (.tmp u) -> w1.heap[gb]? = some (.cells arr1 e f) -> off + 1 <= arr1.size -> Does P w1 a o undef (w1.setCells gb off [a.tmps.getD u undef]) := by
 obtain ⟨gb, hm, hpv⟩ := (by have := hI.core.opd p; rw [hp] at this; exact this : ∃ gb, m[i]? = some gb /\ a.eval p = .pointer (some ⟨gb, off, none⟩))
 obtain ⟨ie, hie⟩ := Option.isSome_iff_exists.1 hinfo
 have hcs0 : h[i]? = some (.cells cs) := by
  unfold cellsOfOb at hcs
  split at hcs
  ·rename_i h0; cases hcs; exact h0
  ·cases hcs
 obtain ⟨arr, e, f, hw, hle, hfr, hall, hbld⟩ := hI.core.ob i _ gb hcs0 hm
 have hat : At m w g h a (.slot u) r (a.tmps.getD u undef) := ⟨hl, rfl⟩
 have hv := hI.core.env u
 rw [hl] at hv
 have hv' : VP c w (.list .yes r) (a.tmps.getD u undef) := hv
 have hone : (a.tmps.getD u undef).oneCell' = true := hv'.oneCell
 have hI1 := hI.release hl
 obtain ⟨hI', _⟩ := store_cells (P := P) (vs := [.list .yes r]) (ys := [a.tmps.getD u undef]) hI1 off hcs hm c1 c2 ⟨rfl, fun j v x hj hx => by
   cases j with
   | succ j => simp at hj
   | zero =>
    simp only [List.getElem?_cons_zero, Option.some.injEq] at hj hx
    subst hj hx
    exact hv'⟩ (fun y hy => by rw [List.mem_singleton.1 hy]; exact hone) (fun j q y hj hy => by
   cases j with
   | succ j => simp at hj
   | zero =>
    simp only [List.getElem?_cons_zero, Option.some.injEq, V.list.injEq, true_and] at hj hy
    subst hj hy
    refine .inr ⟨by omega, hI.core.own _ _ _ hat, fun l r' x' b hl' hb hb' => ?_, fun b hb => hI.owned _ _ _ b hat trivial hb⟩
    obtain ⟨n1, hl''⟩ := At_release hl'
    exact n1 (hI.core.uniq l _ r' _ x' _ b hl'' hat hb' hb)) (.inl ⟨Nat.le_refl _, by simp⟩) (fun t i j r => noTagC t i j r) (fun _ v hv => .inl (by rw [List.mem_singleton.1 hv]; rfl)) c7
 refine ⟨gb, arr, e, f, hm, hw, by omega, hI', fun o w1 arr1 ho hw1 hs1 => ?_⟩
 have hfz : w1.frozen? ⟨gb, off, none⟩ = false := by
  have := hfr off (by omega)
  simp only [World.frozen?, hw, hw1] at this ⊢
  exact this
 have hrun := run_storeCells_cells (P := P) gb off [a.tmps.getD u undef] 0 w1 (fun j hj => by
  have hj0 : j = 0 := by simpa using hj
  subst hj0
  show (w1.cell? ⟨gb, off, none⟩).isSome = true
  rw [cell_arr hw1]
  simp only [Option.isSome_iff_exists]
  exact ⟨_, Array.getElem?_eq_getElem (by omega)⟩) (fun j hj => by
  have hj0 : j = 0 := by simpa using hj
  subst hj0
  exact hfz) (fun v hv => by rw [List.mem_singleton.1 hv]; exact hone)
 have hcells : (a.eval (.tmp u)).cells = #[a.tmps.getD u undef] := by
  show (a.tmps.getD u undef).cells = _
  generalize a.tmps.getD u undef = z at hv'
  cases hv' <;> rfl
 refine .inr ⟨?_, rfl⟩
 have hsz : ie.size = 1 := by rw [<- size_of_info hie]; exact ht
 have hsz2 : (a.eval (.tmp u)).cells.size = ie.size := by rw [hcells, hsz]; rfl
 have hcl : (a.eval (.tmp u)).cells.toList = [a.tmps.getD u undef] := by rw [hcells]
 obtain ⟨zz, hz⟩ : ∃ zz, a.tmps.getD u undef = zz := ⟨_, rfl⟩
 rw [hz] at hrun hcl ⊢
 simp [execOp, ho, Instr.storeAt, hpv, Instr.sureAddr, storeVar, sizeOf, typeInfo, hie, hsz2, hcl, hrun]
structure Pend (vars : List Nat) (E : Entry) (b off : Nat) (es : List Value) (u nn ex : Nat) (yu yn ye : Value) (m : List Nat) (c : Cl) (w : World) (g : Env) (h : Heap) (a : Act) : Prop where
 inv : InvP vars E m c (w.setCells b off es) g h a
 blk : ∃ arr ty, w.heap[b]? = some (.cells arr ty (0, 0)) /\ off + es.length <= arr.size
 nm : b ∉ m
 su : a.eval (.tmp u) = yu
 sn : a.eval (.tmp nn) = yn
 se : a.eval (.tmp ex) = ye
theorem eval_put_ne {a : Act} {d t : Nat} {y : Value} (h : d ≠ t) : (a.put (some d) y).eval (.tmp t) = a.eval (.tmp t) := by
 simp [Act.eval, Act.put, Array.getD_eq_getD_getElem?, Array.getElem?_setIfInBounds_ne h]
def NT (g : Env) : Prop := (∀ t u r, look g t ≠ .list (.slot u) r) /\ ∀ t i j r, look g t ≠ .list (.cell i j) r
theorem mid1 {b off u nn ex : Nat} {es : List Value} {yu yn ye : Value} {o : Oper} {l : List Oper} {s' : St} (hO : (∀ t, o.dst = some t -> t < E.nt) /\ ((∃ x, o.op = .assign x) \/ ∀ t, o.dst = some t -> t ∉ vars)) (hP : Pend vars E b off es u nn ex yu yn ye m c w g h a)
  (he : evMid P E.lo E.base u nn ex (o :: l) (g, h) = some s') : o.guard = none /\ ∃ y w' g' h', Does P w a o y w' /\ Pend vars E b off es u nn ex yu yn ye m c w' g' h' (a.put o.dst y) /\ (NT g -> NT g') /\
   (∀ t, look g t = .undef -> o.dst ≠ some t -> t ≠ u -> look g' t = .undef) /\ (l = [] -> (g', h') = s') /\ (l ≠ [] -> evMid P E.lo E.base u nn ex l (g', h') = some s') /\ (w.setCells b off es = w -> w'.setCells b off es = w') := by
 have step : ∀ {d : Nat} {v : V} {y : Value}, l ≠ [] -> o.dst = some d -> (∀ x, o.op ≠ .assign x) -> o.guard = none -> d ≠ u -> d ≠ nn -> d ≠ ex -> (∀ w' : World, Yields P w' a o y) -> VRr m c (w.setCells b off es) v y -> bare v = true -> evMid P E.lo E.base u nn ex l (ins d v g, h) = some s' -> o.guard = none /\ ∃ y w' g' h', Does P w a o y w' /\ Pend vars E b off es u nn ex yu yn ye m c w' g' h' (a.put o.dst y) /\ (NT g -> NT g') /\
   (∀ t, look g t = .undef -> o.dst ≠ some t -> t ≠ u -> look g' t = .undef) /\ (l = [] -> (g', h') = s') /\ (l ≠ [] -> evMid P E.lo E.base u nn ex l (g', h') = some s') /\ (w.setCells b off es = w -> w'.setCells b off es = w') := fun {d v y} hl hdst hna hgd h1 h2 h3 hy hv hb hrest => by
  have hd : d < E.nt /\ d ∉ vars := ⟨hO.1 d hdst, by
   rcases hO.2 with ⟨x, hx⟩ | h'
   ·exact absurd hx (hna x)
   ·exact h' d hdst⟩
  have hI2 := hP.inv.put (d := some d) (fun t e => by cases e; exact hd.1) hv (TagOK.bare hb) (.inl fun t e => by cases e; exact hd.2)
  refine ⟨hgd, y, w, ins d v g, h, .inl (hy w), ?_, fun hn => ⟨fun t u r e => ?_, fun t i j r e => ?_⟩, fun t ht hne htu => ?_, fun e => absurd e hl, fun _ => hrest, id⟩
  ·rw [hdst]
   exact ⟨hI2, hP.blk, hP.nm, (eval_put_ne h1).trans hP.su, (eval_put_ne h2).trans hP.sn, (eval_put_ne h3).trans hP.se⟩
  ·rw [look_ins] at e
   split at e
   ·rw [e] at hb; cases hb
   ·exact hn.1 t u r e
  ·rw [look_ins] at e
   split at e
   ·rw [e] at hb; cases hb
   ·exact hn.2 t i j r e
  ·rw [look_ins, if_neg (fun e => hne (by rw [hdst, e]))]
   exact ht
 cases l with
 | nil =>
  simp only [evMid] at he
  split at he
  ·rename_i t p u' hop hgd hdst
   split at he
   ·rename_i i off' r hp hl
    split at he
    ·rename_i cs hcs
     split at he
     ·rename_i hcond
      obtain ⟨rfl, c1, c2, c3, c4, c5⟩ := hcond
      simp only [Option.some.injEq] at he
      subst he
      obtain ⟨gb, arr, e, f, hm, hw, hle, hI', hdo⟩ := late_store hP.inv hp hcs hl c1 c2 c3 c4 c5
      obtain ⟨arr0, ty0, hb0, hf0⟩ := hP.blk
      have hne : b ≠ gb := fun e => hP.nm (e ▸ List.mem_of_getElem? hm)
      obtain ⟨k1, k2, _⟩ := setCells_spec b es off w arr0 ty0 (0, 0) hb0 hf0
      have hwg : w.heap[gb]? = some (.cells arr e f) := by rw [<- k2 gb (Ne.symm hne)]; exact hw
      have hap := setCells_apart hne hb0 hf0 hwg (show off' + [a.tmps.getD u' undef].length <= arr.size by simpa using hle)
      refine ⟨hgd, _, _, _, _, hdo o w arr hop hwg hle, ?_, fun _ => ⟨fun t u r => noTags t u r, fun t i j r => noTagC t i j r⟩, fun t ht _ htu => ?_, fun _ => rfl, fun e => absurd rfl e, fun e => ?_⟩
      ·rw [hdst]
       refine ⟨?_, ?_, hP.nm, hP.su, hP.sn, hP.se⟩
       ·rw [<- hap]
        exact hI'
       ·obtain ⟨_, q2, _⟩ := setCells_spec gb [a.tmps.getD u' undef] off' w arr e f hwg (by simpa using hle)
        exact ⟨arr0, ty0, by rw [q2 b hne]; exact hb0, hf0⟩
      ·rw [look_untag, look_ins, if_neg htu, ht]
       rfl
      ·rw [<- hap, e]
     ·cases he
    ·cases he
   ·cases he
  ·cases he
 | cons q l =>
  simp only [evMid] at he
  split at he
  ·rename_i t x i d hop hgd hdst
   split at he
   ·rename_i b' mm sz hx
    split at he
    ·rename_i hne
     split at he
     ·rename_i v hv
      obtain ⟨y, hy, hvr, hb⟩ := stk_idx hP.inv.core hop hx (show evPure P vars (g, h) (.indexAddr t x i) = some v from hv)
      exact step (by simp) hdst (fun x e => by rw [hop] at e; cases e) hgd hne.1 hne.2.1 hne.2.2 hy hvr hb he
     ·cases he
    ·cases he
   ·cases he
  ·rename_i t x f d hop hgd hdst
   split at he
   ·rename_i b' kk hx
    split at he
    ·rename_i hne
     split at he
     ·rename_i v hv
      obtain ⟨y, hy, hvr, hb⟩ := ptr_field hP.inv.core hop hx (show evPure P vars (g, h) (.fieldAddr t x f) = some v from hv)
      exact step (by simp) hdst (fun x e => by rw [hop] at e; cases e) hgd hne.1 hne.2.1 hne.2.2 hy hvr hb he
     ·cases he
    ·cases he
   ·cases he
  ·rename_i x d hop hgd hdst
   split at he
   ·rename_i b' kk hx
    split at he
    ·rename_i hne
     obtain ⟨y, hy, hvr, hb⟩ := ptr_nil hP.inv.core hop hx
     exact step (by simp) hdst (fun x e => by rw [hop] at e; cases e) hgd hne.1 hne.2.1 hne.2.2 hy hvr hb he
    ·cases he
   ·cases he
  ·cases he
theorem mid_ok {b off u nn ex : Nat} {es : List Value} {yu yn ye : Value} {ops : Array Oper} {Q : Exit -> Act -> World -> Prop} : ∀ (l : List Oper) (m : List Nat) (c : Cl) (w : World) (g : Env) (h : Heap) (a : Act) (s' : St),
  (∀ o ∈ l, (∀ t, o.dst = some t -> t < E.nt) /\ ((∃ x, o.op = .assign x) \/ ∀ t, o.dst = some t -> t ∉ vars)) -> Pend vars E b off es u nn ex yu yn ye m c w g h a -> evMid P E.lo E.base u nn ex l (g, h) = some s' ->
  (∀ m' c' w' a', Pend vars E b off es u nn ex yu yn ye m' c' w' s'.1 s'.2 a' -> Q .normal a' w') -> wpList P ops Q l a w
 | [], m, c, w, g, h, a, s', hO, hP, he, hQ => by simp [evMid] at he
 | o :: l, m, c, w, g, h, a, s', hO, hP, he, hQ => by
  obtain ⟨hgd, y, w', g', h', hdo, hP', _, _, h1, h2, _⟩ := mid1 (hO o (by simp)) hP he
  refine wpList_step fun K hK => ?_
  have hwant : Region.wanted o (yielded ops a.tmps) = true := by simp [Region.wanted, hgd]
  rw [if_pos hwant]
  refine hdo.wp (hK _ _ ?_)
  cases l with
  | nil =>
   have := h1 rfl
   subst this
   exact wpList_nil (hQ m c _ _ hP')
  | cons q l => exact mid_ok (q :: l) m c w' g' h' _ s' (fun o' ho' => hO o' (List.mem_cons_of_mem _ ho')) hP' (h2 (by simp)) hQ
theorem pure1_VP {v : V} {x : Value} (hp : pure1 v = true) (h : VR1 m c w v x) : VP c w v x := by
 cases v with
 | v y =>
  have h' : x = y := h
  subst h'
  exact .v _ (by simpa [pure1] using hp)
 | list k r => exact h
 | _ => simp [pure1] at hp
theorem cellsV_fzs (v : V) : cellsV (fzs v) = (cellsV v).map fz := by
 cases v <;> rfl
theorem eval_put_eq {a : Act} {d : Nat} {y : Value} (h : d < a.tmps.size) : (a.put (some d) y).eval (.tmp d) = y := by
 simp [Act.eval, Act.put, Array.getD, h]
theorem untag_put (u : Nat) (r : List (List V)) (g : Env) : NT (put (some u) (.list .yes r) (Lift.untag g)) := by
 refine ⟨fun t u' r' e => ?_, fun t i j r' e => ?_⟩
 ·rw [show put (some u) (V.list .yes r) (Lift.untag g) = ins u (V.list .yes r) (Lift.untag g) from rfl, look_ins] at e
  split at e
  ·cases e
  ·exact noTags t u' r' e
 ·rw [show put (some u) (V.list .yes r) (Lift.untag g) = ins u (V.list .yes r) (Lift.untag g) from rfl, look_ins] at e
  split at e
  ·cases e
  ·exact noTagC t i j r' e
theorem NT.forget (hn : NT g) (d : Nat) : NT (Lift.ins d .undef g) := by
 refine ⟨fun t u' r' e => ?_, fun t i j r' e => ?_⟩
 ·rw [look_ins] at e
  split at e
  ·cases e
  ·exact hn.1 t u' r' e
 ·rw [look_ins] at e
  split at e
  ·cases e
  ·exact hn.2 t i j r' e
theorem InvP.forget (hI : InvP vars E m c w g h a) {d : Nat} (hn : NT g) : InvP vars E m c w (Lift.ins d .undef g) h a := by
 refine hI.weak (fun t => ?_) (hn.forget d).1 (hn.forget d).2
 rw [look_ins]
 split
 ·exact .inr (.inl rfl)
 ·exact .inl rfl
structure Two (P : Program) (vars : List Nat) (E : Entry) (b off : Nat) (es : List Value) (u nn ex d1 : Nat) (yu yn ye y1 : Value) (mid : List Oper) (s2 : St) (p j : Nat) (a : Act) (w : World) : Prop where
 it : ∃ m c g h, Pend vars E b off es u nn ex yu yn ye m c w g h a /\ NT g /\ look g d1 = .undef /\ (mid.drop j = [] -> (g, h) = s2) /\ (mid.drop j ≠ [] -> evMid P E.lo E.base u nn ex (mid.drop j) (g, h) = some s2)
 one : p = 1 -> a.eval (.tmp d1) = y1
 two : p = 2 -> w.setCells b off es = w
theorem two_run {b off u nn ex d1 k : Nat} {es : List Value} {yu yn ye y1 : Value} {ops : Array Oper} {mid : List Oper} {s2 : St} {o1 o2 : Oper} {Q : Exit -> Act -> World -> Prop} (hk : ops.toList.drop (k + 1) = o1 :: o2 :: mid)
  (hdx : d1 ≠ ex) (hdu : d1 ≠ u) (hdn : d1 ≠ nn) (hdst1 : o1.dst = some d1) (hd2 : o2.dst = none) (hg1 : o1.guard = none) (hg2 : o2.guard = none) (hd1 : d1 < E.nt) (hd1v : d1 ∉ vars) (hmd : ∀ o ∈ mid, o.dst ≠ some d1)
  (hmo : ∀ o ∈ mid, (∀ t, o.dst = some t -> t < E.nt) /\ ((∃ x, o.op = .assign x) \/ ∀ t, o.dst = some t -> t ∉ vars))
  (h1 : ∀ (w : World) (a : Act), a.eval (.tmp u) = yu -> a.eval (.tmp nn) = yn -> Does P w a o1 y1 w) (h2 : ∀ (w : World) (a : Act), a.eval (.tmp d1) = y1 -> a.eval (.tmp ex) = ye -> (∃ arr ty, w.heap[b]? = some (.cells arr ty (0, 0)) /\ off + es.length <= arr.size) -> Does P w a o2 undef (w.setCells b off es))
  (hQ : ∀ m' c' w' a', NT s2.1 -> InvP vars E m' c' w' s2.1 s2.2 a' -> Q .normal a' w') :
  ∀ (f p j : Nat) (listed : Array Bool) (a : Act) (w : World), twoB ops k mid.length f p j listed = true -> p <= 2 -> j <= mid.length -> Two P vars E b off es u nn ex d1 yu yn ye y1 mid s2 p j a w -> wpAny P .any ops Q f listed a w := by
 have hat : ∀ i, ops[k + 1 + i]? = (o1 :: o2 :: mid)[i]? := fun i => by
  rw [<- hk, List.getElem?_drop]
  simp
 intro f
 induction f with
 | zero =>
  intro p j listed a w hb hp hj hT
  simp only [twoB, Bool.and_eq_true, beq_iff_eq, List.isEmpty_iff] at hb
  obtain ⟨⟨rfl, rfl⟩, hr⟩ := hb
  obtain ⟨m, c, g, h, hP, hn, _, he, _⟩ := hT.it
  have := he (by simp)
  subst this
  have hI := hP.inv
  rw [hT.two rfl] at hI
  exact ⟨hr, hQ m c w a hn hI⟩
 | succ f ih =>
  intro p j listed a w hb hp hj hT
  simp only [twoB, Bool.and_eq_true, Bool.or_eq_true, Bool.not_eq_true', List.all_eq_true, decide_eq_true_eq, beq_iff_eq, List.isEmpty_eq_false_iff] at hb
  obtain ⟨⟨⟨hne, hall⟩, hbp⟩, hbj⟩ := hb
  refine ⟨fun e => absurd e hne, fun i hi => ?_⟩
  obtain ⟨m, c, g, h, hP, hn, hu, he0, he1⟩ := hT.it
  rcases hall i hi with ⟨rfl, hp2⟩ | ⟨rfl, hjm⟩
  ·have hb' := hbp.resolve_left (by omega)
   unfold wpOp
   have hp01 : p = 0 \/ p = 1 := by omega
   rcases hp01 with rfl | rfl
   ·rw [show k + 1 + 0 = k + 1 + 0 from rfl, hat 0]
    simp only [List.getElem?_cons_zero]
    rw [if_pos (by simp [Region.wanted, hg1])]
    refine .inl ((h1 w a hP.su hP.sn).wp (ih 1 j _ _ _ hb' (by omega) hj ⟨⟨m, c, g, h, ⟨?_, hP.blk, hP.nm, ?_, ?_, ?_⟩, hn, hu, he0, he1⟩, fun _ => ?_, fun e => by omega⟩))
    ·rw [hdst1]
     refine (hP.inv.put (d := some d1) (v := .undef) (x := y1) (fun t e => by cases e; exact hd1) trivial (TagOK.bare rfl) (.inl fun t e => by cases e; exact hd1v)).weak (fun t => .inl ?_) hn.1 hn.2
     show look g t = look (ins d1 .undef g) t
     rw [look_ins]
     split
     ·rename_i e; rw [e, hu]
     ·rfl
    ·rw [hdst1]; exact (eval_put_ne hdu).trans hP.su
    ·rw [hdst1]; exact (eval_put_ne hdn).trans hP.sn
    ·rw [hdst1]; exact (eval_put_ne hdx).trans hP.se
    ·rw [hdst1]; exact eval_put_eq (by rw [hP.inv.nt]; exact hd1)
   ·rw [hat 1]
    simp only [List.getElem?_cons_succ, List.getElem?_cons_zero]
    rw [if_pos (by simp [Region.wanted, hg2])]
    obtain ⟨arr, ty, hb0, hf0⟩ := hP.blk
    refine .inl ((h2 w a (hT.one rfl) hP.se hP.blk).wp (ih 2 j _ _ _ hb' (by omega) hj ⟨⟨m, c, g, h, ⟨?_, ?_, hP.nm, ?_, ?_, ?_⟩, hn, hu, he0, he1⟩, fun e => by omega, fun _ => setCells_over hb0 hf0 rfl⟩))
    ·rw [setCells_over hb0 hf0 rfl, hd2]
     exact hP.inv
    ·obtain ⟨a1, a2, a3, a4, a5, ar, a6, a7⟩ := setCells_spec b es off w arr ty (0, 0) hb0 hf0
     have hs : ar.size = arr.size := by
      have := congrArg List.length a7
      simp only [List.length_append, List.length_take, List.length_drop, Array.length_toList] at this
      omega
     exact ⟨ar, ty, a6, by omega⟩
    ·rw [hd2]; exact hP.su
    ·rw [hd2]; exact hP.sn
    ·rw [hd2]; exact hP.se
  ·have hb' := hbj.resolve_left (by omega)
   obtain ⟨o, ho⟩ : ∃ o, mid[j]? = some o := ⟨mid[j], List.getElem?_eq_getElem hjm⟩
   have hcut : mid.drop j = o :: mid.drop (j + 1) := by
    rw [List.drop_eq_getElem_cons hjm]
    rw [List.getElem?_eq_getElem hjm] at ho
    cases ho
    rfl
   have hom : o ∈ mid := List.mem_of_getElem? ho
   have hev := he1 (by rw [hcut]; simp)
   rw [hcut] at hev
   obtain ⟨hgd, y, w', g', h', hdo, hP', hn', hu', e0, e1, hsame⟩ := mid1 (hmo o hom) hP hev
   unfold wpOp
   rw [show k + 3 + j = k + 1 + (j + 2) by omega, hat (j + 2)]
   simp only [List.getElem?_cons_succ]
   rw [ho]
   simp only
   rw [if_pos (by simp [Region.wanted, hgd])]
   rw [show k + 1 + (j + 2) = k + 3 + j by omega]
   refine .inl (hdo.wp (ih p (j + 1) _ _ _ hb' hp (by omega) ⟨⟨m, c, g', h', hP', hn' hn, hu' d1 hu (hmd o hom) hdu, e0, e1⟩, fun e => ?_, fun e => hsame (hT.two e)⟩))
   have h3 := hT.one e
   cases hd : o.dst with
   | none => exact h3
   | some t => exact (eval_put_ne (fun e => hmd o hom (by rw [hd, e]))).trans h3
theorem two_ok {cx : Cx} (hX : CxOK cx E) {ops : Array Oper} (hO : OpsOK cx E ops.toList) {mx : Mix} {k n : Nat} {listed : Array Bool} (hI : InvP cx.hint.vars E m c w g h a) (hok : twoOk mx ops k n listed = true) {r : St} (he : evTwo cx.P cx.lo cx.base k ops (g, h) = some r) {Q : Exit -> Act -> World -> Prop} :
  ∃ g2, r.1 = Lift.untag g2 /\ ((∀ m' c' w' a', InvP cx.hint.vars E m' c' w' g2 r.2 a' -> Q .normal a' w') -> wpAny cx.P .any ops Q n listed a w) := by
 simp only [twoOk, Bool.and_eq_true, beq_iff_eq, decide_eq_true_eq, Bool.not_eq_true'] at hok
 obtain ⟨⟨⟨⟨⟨⟨hready, _⟩, _⟩, hsz3⟩, hn⟩, hmd0⟩, hrun⟩ := hok
 unfold evTwo at he
 split at he
 case h_2 => cases he
 rename_i p1 p2 mid hdrop
 have hat : ∀ i, ops[k + 1 + i]? = (p1 :: p2 :: mid)[i]? := fun i => by
  rw [<- hdrop, List.getElem?_drop]
  simp
 have hml : mid.length = ops.size - (k + 3) := by
  have := congrArg List.length hdrop
  simp only [List.length_drop, Array.length_toList, List.length_cons] at this
  omega
 have hmid3 : ops.toList.drop (k + 3) = mid := by
  rw [show k + 3 = (k + 1) + 2 by omega, <- List.drop_drop, hdrop]
  rfl
 have htk : (ops.toList.take (k + 1)).length = k + 1 := by simp; omega
 unfold evLate1 at he
 split at he
 ·rename_i o o1 o2 hok hl'
  simp only [List.cons.injEq, and_true] at hl'
  obtain ⟨rfl, rfl⟩ := hl'
  have hok : ops[k]? = some o := by
   rw [List.getElem?_toArray, List.getElem?_append_left (by omega), List.getElem?_take, if_pos (by omega)] at hok
   simpa using hok
  have hdk : (ops.toList.take (k + 1) ++ mid).toArray.toList.drop (k + 1) = mid := by
   show (ops.toList.take (k + 1) ++ mid).drop (k + 1) = mid
   rw [List.drop_append_of_le_length (by omega), List.drop_eq_nil_of_le (by omega)]
   rfl
  rw [hdk] at he
  split at he
  ·rename_i cl u tt u1 nn d1 t2 d2 ex hop hdst hop1 hdst1 hop2
   split at he
   ·rename_i x y e0 du e hcal hargs htys htt
    split at he
    ·rename_i hcond
     obtain ⟨rfl, rfl, rfl, hdx, hdu, hdn, hun, hux, hg0, hg1, hg2, hd2, hts2, hi2, hie, hks⟩ := hcond
     rw [Option.isNone_iff_eq_none] at hg0 hg1 hg2 hd2
     split at he
     ·rename_i r0 g1 h1' z kk nlen how hrows hnn
      split at he
      ·rename_i hc
       obtain ⟨rfl, hpart, hlen, hpure, hsto, htz, hsz, hall, hby, hlen2, hnot, hbyt⟩ := hc
       split at he
       ·rename_i s2 hmid
        simp only [keeps, lives, Option.some.injEq] at he
        subst he
        refine ⟨_, rfl, fun hQ => ?_⟩
        rw [hX.lo] at how hmid
        rw [hX.base] at hmid
        have hv := hI.core.opd (.tmp ex)
        have hrel0 := cells_rel (v := look g ex) hv hpart
        have hrel1 : R2 (VR1 m c w) (cellsV (fzs (look g ex))) (a.eval (.tmp ex)).cells.toList := by
         rw [cellsV_fzs]
         simpa using hrel0.map (g := id) fun _ _ => VR1.fz
        have hes : (a.eval (.tmp ex)).cells.toList.length = tsize cx.P e := by rw [<- hrel1.1]; exact hlen
        have hone : ∀ y ∈ (a.eval (.tmp ex)).cells.toList, y.oneCell' = true := fun y hy => by
         obtain ⟨j, hj, rfl⟩ := List.getElem_of_mem hy
         have hj' : j < (cellsV (look g ex)).length := by rw [hrel0.1]; exact hj
         exact stoOk_oneCell (hrel0.2 j _ _ (List.getElem?_eq_getElem hj') (List.getElem?_eq_getElem hj)) (List.all_eq_true.1 hsto _ (List.getElem_mem hj'))
        have hoo := hO o (Array.mem_toList_iff.2 (Array.mem_of_getElem? hok))
        have hnv : ∀ t, o.dst = some t -> t ∉ cx.hint.vars := by
         rcases hoo.2 with ⟨x, hx⟩ | h'
         ·rw [hop] at hx; cases hx
         ·exact h'
        obtain ⟨b, cap, wz, c', arr, ty, hdo, hinv, hblk, hsize, hnm⟩ := late_append hI hop hcal hargs htys how hrows ⟨htz, hsz, hall, hby, hlen2, hnot, hbyt⟩ hlen hes (fun j v hj => by
         obtain ⟨x, hx, hvx⟩ := hrel1.get hj
         exact ⟨x, hx, pure1_VP (List.all_eq_true.1 hpure _ (List.mem_of_getElem? hj)) hvx⟩) hoo.1 hnv
        have hua : u1 < a.tmps.size := by rw [hI.nt]; exact hoo.1 u1 hdst
        have hnv0 : a.eval (.tmp nn) = .int kk r0.length := by
         have := hI.core.opd (.tmp nn)
         rw [show opd g (.tmp nn) = look g nn from rfl, hnn] at this
         exact this
        have ho1 := hO p1 (List.mem_of_mem_drop (i := k + 1) (by rw [hdrop]; simp))
        have hd1 : d2 < E.nt := ho1.1 d2 hdst1
        have hd1v : d2 ∉ cx.hint.vars := by
         rcases ho1.2 with ⟨x, hx⟩ | h'
         ·rw [hop1] at hx; cases hx
         ·exact h' d2 hdst1
        have hmd : ∀ o ∈ mid, o.dst ≠ some d2 := by
         have e0 : ops[k + 1]? = some p1 := by rw [show k + 1 = k + 1 + 0 from rfl, hat 0]; rfl
         rw [e0] at hmd0
         simp only [hdst1, List.all_eq_true, bne_iff_ne, hmid3] at hmd0
         exact hmd0
        rw [hn, show ops.size - k = (ops.size - (k + 1)) + 1 by omega]
        refine ⟨fun e0 => (by rw [hready] at e0; cases e0), fun i hi => ?_⟩
        rw [hready] at hi
        have hik : i = k := by simpa using hi
        subst hik
        unfold wpOp
        rw [hok]
        simp only
        rw [if_pos (by simp [Region.wanted, hg0])]
        refine .inl (hdo.wp ?_)
        rw [hdst] at hinv ⊢
        obtain ⟨ie2, hie2⟩ := Option.isSome_iff_exists.1 hi2
        have hsz2 : (a.eval (.tmp ex)).cells.size = ie2.size := by
         have h3 := size_of_info hie2
         have h4 : (a.eval (.tmp ex)).cells.size = (a.eval (.tmp ex)).cells.toList.length := by simp
         rw [h4, hes, <- hts2, h3]
        refine two_run (P := cx.P) (vars := cx.hint.vars) (E := E) (b := b) (off := r0.length * tsize cx.P e) (es := (a.eval (.tmp ex)).cells.toList) (u := u1) (nn := nn) (ex := ex) (d1 := d2) (yu := .slice (some ⟨b, 0, none⟩) (r0.length + 1) cap) (yn := .int kk r0.length) (ye := a.eval (.tmp ex)) (y1 := .pointer (some ⟨b, r0.length * tsize cx.P e, none⟩)) (s2 := s2)
         hdrop hdx hdu hdn hdst1 hd2 hg1 hg2 hd1 hd1v hmd (fun o' ho' => hO o' (List.mem_of_mem_drop (i := i + 3) (by rw [hmid3]; exact ho'))) (fun w a hu hn => .inl (row_addr hop1 htt hie hu hn w)) (fun w0 a0 ha1 ha2 hb => ?_) ?_ _ 0 0 _ _ _ (by rw [hml]; exact hrun) (by omega) (by omega) ⟨⟨m, c', _, h1', ⟨?_, ⟨arr, ty, hblk, by rw [hes]; rw [Nat.add_mul, Nat.one_mul] at hsize; exact hsize⟩, hnm, eval_put_eq hua, (eval_put_ne hun).trans hnv0, eval_put_ne hux⟩, ?_, ?_, fun e0 => ?_, fun _ => hmid⟩, fun e0 => by omega, fun e0 => by omega⟩
        ·obtain ⟨arr2, ty2, hb2, hf2⟩ := hb
         have hrun := run_storeCells_cells (P := cx.P) b (r0.length * tsize cx.P e) (a.eval (.tmp ex)).cells.toList 0 w0 (fun j hj => by
          rw [cell_arr hb2]
          simp only [Option.isSome_iff_exists]
          exact ⟨_, Array.getElem?_eq_getElem (by omega)⟩) (fun j hj => by
          simp [World.frozen?, hb2]) hone
         rw [Nat.add_zero] at hrun
         refine .inr ⟨?_, rfl⟩
         generalize a.eval (.tmp ex) = ye at *
         simp [execOp, hop2, Instr.storeAt, ha1, ha2, Instr.sureAddr, storeVar, sizeOf, typeInfo, hie2, hsz2, hrun]
        ·intro m' c2 w' a' hnt hI2
         exact hQ m' c2 w' a' (hI2.forget hnt)
        ·exact hinv.forget (untag_put _ _ _)
        ·exact (untag_put _ _ _).forget d2
        ·rw [look_ins, if_pos rfl]
        ·rw [show mid.drop 0 = mid from rfl] at e0
         rw [e0] at hmid
         simp [evMid] at hmid
       ·cases he
      ·cases he
     ·cases he
    ·cases he
   ·cases he
  ·cases he
 ·cases he
end
end Go.Lift
end

section
namespace Go.Lift
variable [GTab] [BTy]
theorem fill_last {place : Nat -> Option (Nat × Nat)} {i off : Nat} {y : Value} (hp : place i = some (off, 1)) (hy : y.cells = #[y]) : ∀ (init : List (Nat × Value)) (zs us : Array Value),
  Instr.fill place zs (init ++ [(i, y)]) = some us -> us[off]? = some y
 | [], zs, us, h => by
  simp only [List.nil_append, Instr.fill, hp, hy] at h
  split at h
  ·cases h
  ·rename_i hc
   simp only [Option.some.injEq] at h
   subst h
   simp only [ne_eq, Bool.or_eq_true, decide_eq_true_eq, not_or, Nat.not_lt] at hc
   have h2 := hc.2
   simp at h2
   simp [Array.zipIdx, Array.getElem?_setIfInBounds]
   omega
 | (j, z) :: init, zs, us, h => by
  simp only [List.cons_append, Instr.fill] at h
  split at h
  ·cases h
  ·split at h
   ·cases h
   ·exact fill_last hp hy init _ us h
section
variable {vars : List Nat} {m : List Nat} {c : Cl} {w : World} {g : Env} {h : Heap} {a : Act} {E : Entry} {cx : Cx} {P : Program}
theorem build_last (hC : Core vars m c w g h a) {o : Oper} {t : TypeId} {parts : Array (Nat × Operand)} (ho : o.op = .build t parts) {ds : List V} (hv : evPure P vars (g, h) (.build t parts) = some (.agg ds))
  {i off : Nat} {et : TypeId} {x : Operand} (hl : parts.toList.getLast? = some (i, x)) (hf : fieldOff P t i = some (off, et)) (ht : tsize P et = 1) (hx : (a.eval x).cells = #[a.eval x]) :
  ∃ ys : Array Value, Yields P w a o (.agg ys) /\ R2 (VR1 m c w) ds ys.toList /\ ys[off]? = some (a.eval x) := by
 simp only [evPure] at hv
 split at hv
 ·cases hv
 ·rename_i z hz
  obtain ⟨zv, hzv, rfl⟩ := tzero_spec (w := w) hz
  have hparts : R2 (fun (p : Nat × V) (q : Nat × Value) => p.1 = q.1 /\ VRr m c w p.2 q.2) (parts.toList.map fun p => (p.1, opd g p.2)) (parts.map fun (i, x) => (i, a.eval x)).toList := by
   refine ⟨by simp, fun i u y hu hy => ?_⟩
   simp only [Array.toList_map, List.getElem?_map, Option.map_eq_some_iff] at hu hy
   obtain ⟨p, hp, rfl⟩ := hu
   obtain ⟨q, hq, rfl⟩ := hy
   rw [hp] at hq
   cases hq
   exact ⟨rfl, hC.opd _⟩
  have hlist : ∃ init, (parts.map fun (i, x) => (i, a.eval x)).toList = init ++ [(i, a.eval x)] := by
   obtain ⟨init, hi⟩ := List.getLast?_eq_some_iff.1 hl
   refine ⟨init.map fun (i, x) => (i, a.eval x), ?_⟩
   rw [Array.toList_map, hi]
   simp
  obtain ⟨init, hlist⟩ := hlist
  split at hv
  ·rename_i fs hu
   split at hv
   ·rename_i hok
    simp only [Option.map_eq_some_iff] at hv
    obtain ⟨ds', hds, hde⟩ := hv
    cases hde
    have hall : ∀ f ∈ fs.toList, ∃ i, P.info? f.type = some i := by
     intro f hf
     unfold structOk tfields at hok
     simp only [hu, List.all_map, List.all_eq_true] at hok
     exact Option.isSome_iff_exists.1 (hok f hf)
    have hm := run_places fs.toList hall (w := w)
    rw [Array.toArray_toList] at hm
    have hplace : (fun i => (fieldOff P t i).map fun p => (p.1, tsize P p.2)) = fun i => (fs.toList.map fun f => (f.offset, tsize P f.type)).toArray[i]? := by
     funext i
     unfold fieldOff tfields
     simp only [hu]
     simp only [List.getElem?_map, Option.map_map, List.getElem?_toArray]
     rfl
    have hpl : (fun i => (fs.toList.map fun f => (f.offset, tsize P f.type)).toArray[i]?) i = some (off, 1) := by
     rw [<- hplace]
     simp only [hf, Option.map_some, ht]
    rw [hplace] at hds
    obtain ⟨ys, hys, hr⟩ := buildV_spec _ _ _ zv.cells ds hparts (ofC1_cells zv) hds
    refine ⟨ys, yields_of (by simp [execOp, ho]; rfl) ?_, hr, ?_⟩
    ·unfold Instr.build
     simp only [Sem.run_bind, hzv, Result.andThen_ok, run_underlying hu, hm, hys]
     rfl
    ·rw [hlist] at hys
     exact fill_last hpl hx init _ _ hys
   ·cases hv
  ·rename_i n e hu
   unfold fieldOff tfields at hf
   simp [hu] at hf
  ·cases hv
theorem not_yes {ds : List V} (h : ds.all notYes = true) : ∀ r, V.list .yes r ∉ ds := fun r hr => by
 have := List.all_eq_true.1 h _ hr
 cases this
theorem eff_storeA (hI : InvP vars E m c w g h a) {o : Oper} {t : TypeId} {p x : Operand} {i j tA : Nat} {cs ds : List V} {r : List (List V)} {ys : Array Value} (ho : o.op = .store t p x) (hp : opd g p = .ptr i 0) (hcs : cellsOfOb h i = some cs)
  (hx : opd g x = .agg ds) (hxa : a.eval x = .agg ys) (hA : look g tA = .list .yes r) (hj : ys[j]? = some (a.eval (.tmp tA))) (c0 : E.lo <= i) (cb : E.base <= i) (c1 : cs.length = tsize P t) (c2 : ds.length = tsize P t) (c3 : (P.info? t).isSome)
  (c4 : ds.all stoOk = true) (c5 : ds.all notYes = true) (c6 : bldS ((ds.map own1).set j (.list .yes r)) = true) (hd : ∀ t, o.dst = some t -> t < E.nt) :
  Done P vars E w a o (.v undef) (Lift.untag (Lift.ins tA (.list .no r) g)) (Lift.setOb h i ((ds.map own1).set j (.list .yes r))) := by
 obtain ⟨gb, hm, hpv⟩ := (by have := hI.core.opd p; rw [hp] at this; exact this : ∃ gb, m[i]? = some gb /\ a.eval p = .pointer (some ⟨gb, 0, none⟩))
 obtain ⟨ie, hie⟩ := Option.isSome_iff_exists.1 c3
 have hrel : R2 (VR1 m c w) ds ys.toList := by
  have h1 := hI.core.opd x
  rw [hx] at h1
  obtain ⟨xs, he, hr⟩ := (h1 : ∃ xs : Array Value, a.eval x = .agg xs /\ R2 (VR1 m c w) ds xs.toList)
  rw [hxa] at he
  cases he
  exact hr
 have hv : VP c w (.list .yes r) (a.eval (.tmp tA)) := by
  have h1 := hI.core.env tA
  rw [hA] at h1
  exact h1
 have hat : At m w g h a (.slot tA) r (a.eval (.tmp tA)) := ⟨hA, rfl⟩
 have hone : ∀ y ∈ ys.toList, y.oneCell' = true := fun y hy => by
  obtain ⟨k, hk, rfl⟩ := List.getElem_of_mem hy
  have hk' : k < ds.length := by rw [hrel.1]; exact hk
  exact stoOk_oneCell (hrel.2 k _ _ (List.getElem?_eq_getElem hk') (List.getElem?_eq_getElem hk)) (List.all_eq_true.1 c4 _ (List.getElem_mem hk'))
 obtain ⟨hrel1, hno⟩ := own_cells1 hrel (not_yes c5)
 have hjl : ys.toList[j]? = some (a.eval (.tmp tA)) := by simpa using hj
 have hrel2 : R2 (VR1 m c w) ((ds.map own1).set j (.list .yes r)) ys.toList := by
  refine ⟨by simpa using hrel.1, fun n u y hu hy => ?_⟩
  rw [List.getElem?_set] at hu
  split at hu
  ·rename_i hjn
   subst hjn
   split at hu
   ·cases hu
    rw [hjl] at hy
    cases hy
    exact hv
   ·cases hu
  ·exact hrel1.2 n u y hu hy
 have hlen : ((ds.map own1).set j (.list .yes r)).length = tsize P t := by simpa using c2
 have hjd : j < ds.length := by
  rw [hrel.1]
  exact (List.getElem?_eq_some_iff.1 hjl).1
 have hI1 := hI.release hA
 obtain ⟨hI', hst⟩ := store_cells (P := P) (vs := (ds.map own1).set j (.list .yes r)) (ys := ys.toList) (off := 0) hI1 j hcs hm c0 (by rw [hlen, c1]; omega) hrel2 hone (fun n q y hn hy => by
  rw [List.getElem?_set] at hn
  split at hn
  ·rename_i hjn
   subst hjn
   split at hn
   ·cases hn
    rw [hjl] at hy
    cases hy
    refine .inr ⟨by omega, hI.core.own _ _ _ hat, fun l r' x' b hl' hb hb' => ?_, fun b hb => hI.owned _ _ _ b hat trivial hb⟩
    obtain ⟨n1, hl''⟩ := At_release hl'
    exact n1 (hI.core.uniq l _ r' _ x' _ b hl'' hat hb' hb)
   ·cases hn
  ·obtain ⟨k1, k2⟩ := hno n q hn
   rw [hy] at k2
   exact .inl ⟨k1, Option.some.inj k2⟩) (.inl ⟨Nat.zero_le _, by rw [hlen, <- c2]; omega⟩) (fun t i j r => noTagC t i j r) (fun hib => by omega) c6
 rw [hlen] at hI'
 have hcut : cs.take 0 ++ (ds.map own1).set j (.list .yes r) ++ cs.drop (0 + tsize P t) = (ds.map own1).set j (.list .yes r) := by
  rw [List.take_zero, List.nil_append, List.drop_eq_nil_of_le (by omega), List.append_nil]
 rw [hcut] at hI'
 have hdo : Does P w a o undef (w.setCells gb 0 ys.toList) := by
  refine .inr ⟨?_, rfl⟩
  have hsz : ys.size = ie.size := by have := hrel.1; rw [<- size_of_info hie]; simp at this; omega
  have hcl : (a.eval x).cells = ys := by rw [hxa]; rfl
  simp [execOp, ho, Instr.storeAt, hpv, Instr.sureAddr, storeVar, sizeOf, typeInfo, hie, hcl, hsz, hst]
 exact ⟨_, _, m, c, hdo, hI'.putBare hd rfl rfl (.inr fun t u r => noTags t u r)⟩
theorem act_ne {a : Act} {d t : Nat} {y : Value} (h : d ≠ t) : (a.put (some d) y).eval (.tmp t) = a.eval (.tmp t) := by
 simp [Act.eval, Act.put, Array.getD_eq_getD_getElem?, Array.getElem?_setIfInBounds_ne h]
theorem act_eq {a : Act} {d : Nat} {y : Value} (h : d < a.tmps.size) : (a.put (some d) y).eval (.tmp d) = y := by
 simp [Act.eval, Act.put, Array.getD, h]
theorem adopt_ok (hX : CxOK cx E) {ops : Array Oper} {k : Nat} (hO : OpsOK cx E ops.toList) (hI : InvP cx.hint.vars E m c w g h a) {s' : St} (he : evAdopt cx ops k (g, h) = some s') {Q : Exit -> Act -> World -> Prop}
  (hQ : ∀ m' c' w' a', InvP cx.hint.vars E m' c' w' s'.1 s'.2 a' -> Q .normal a' w') : wpList cx.P ops Q (ops.toList.drop k) a w := by
 unfold evAdopt at he
 split at he
 ·rename_i _ _ _ tB T parts y1 p1 a1 tC T1 y2 p2 a2 T2 u1 u2 y3 p3 a3 hB hC hD
  split at he
  ·rename_i _ i tA hl
   split at he
   ·rename_i _ _ _ _ off et r z ds hf hA hz hb
    split at he
    ·rename_i hc
     obtain ⟨⟨rfl, rfl, rfl, rfl, n1, n2, n3⟩, ⟨e1, e2, e3, e4, e5⟩, hall, b1, b2, hk⟩ := hc
     simp only [Option.some.injEq] at he
     subst he
     simp only [Bool.and_eq_true] at hall
     obtain ⟨d1, d2, d3, d4, d5⟩ := hall
     rw [hX.base] at b1
     rw [hX.lo] at b2
     have hdrop : ops.toList.drop k = [⟨some u2, .build T2 parts, y1, p1, a1, none⟩, ⟨some u1, .alloc T2, y2, p2, a2, none⟩, ⟨none, .store T2 (.tmp u1) (.tmp u2), y3, p3, a3, none⟩] := by
      apply List.ext_getElem?
      intro n
      rw [List.getElem?_drop, Array.getElem?_toList]
      match n with
      | 0 => exact hB
      | 1 => exact hC
      | 2 => exact hD
      | n + 3 =>
       rw [Array.getElem?_eq_none (by omega)]
       rfl
     have hmem : ∀ o ∈ ops.toList.drop k, o ∈ ops.toList := fun o ho => List.mem_of_mem_drop ho
     rw [hdrop] at hmem ⊢
     have oB := hO _ (hmem _ (List.mem_cons_self ..))
     have oC := hO _ (hmem _ (List.mem_cons_of_mem _ (List.mem_cons_self ..)))
     have oD := hO _ (hmem _ (List.mem_cons_of_mem _ (List.mem_cons_of_mem _ (List.mem_cons_self ..))))
     have vB := not_assign (by rfl) oB.2
     have vC := not_assign (by rfl) oC.2
     have hv : VP c w (.list .yes r) (a.eval (.tmp tA)) := by
      have h1 := hI.core.env tA
      simp only at hA
      rw [hA] at h1
      exact h1
     have hcell : (a.eval (.tmp tA)).cells = #[a.eval (.tmp tA)] := by
      generalize a.eval (.tmp tA) = x at hv
      cases hv <;> rfl
     obtain ⟨ys, hy, hr, hyo⟩ := build_last (o := ⟨some u2, .build T2 parts, y1, p1, a1, none⟩) hI.core rfl hb hl hf e1 hcell
     have hI1 := hI.putBare (d := some u2) (v := .agg ds) (x := .agg ys) oB.1 ⟨ys, rfl, hr⟩ rfl (.inl vB)
     refine wpList_step fun K hK => ?_
     rw [if_pos (by simp [Region.wanted])]
     refine (show Does cx.P w a _ _ w from .inl hy).wp (hK _ _ ?_)
     obtain ⟨x, w2, m2, c2, hdo, hI2⟩ := eff_alloc (P := cx.P) (o := ⟨some u1, .alloc T2, y2, p2, a2, none⟩) hI1 rfl hz d4 d5 oC.1 vC
     refine wpList_step fun K hK => ?_
     rw [if_pos (by simp [Region.wanted])]
     refine hdo.wp (hK _ _ ?_)
     have hsz : (a.put (some u2) (.agg ys)).tmps.size = a.tmps.size := by simp [Act.put]
     have hu2 : u2 < a.tmps.size := by rw [hI.nt]; exact oB.1 _ rfl
     have hst := eff_storeA (P := cx.P) (o := ⟨none, .store T2 (.tmp u1) (.tmp u2), y3, p3, a3, none⟩) (p := .tmp u1) (x := .tmp u2) (i := h.length) (j := off) (tA := tA) (cs := (z.map ofC1).map own1) (ds := ds) (r := r) (ys := ys) hI2 rfl
      (by show look (ins u1 _ _) u1 = _; rw [look_ins, if_pos rfl])
      (by unfold cellsOfOb; rw [List.getElem?_append_right (Nat.le_refl _), Nat.sub_self]; rfl)
      (by show look (ins u1 _ (ins u2 _ g)) u2 = _; rw [look_ins, if_neg (by intro e; first | exact n1 e | exact n1 e.symm | exact n2 e | exact n2 e.symm | exact n3 e | exact n3 e.symm), look_ins, if_pos rfl])
      (by rw [act_ne (by intro e; first | exact n1 e | exact n1 e.symm | exact n2 e | exact n2 e.symm | exact n3 e | exact n3 e.symm)]; exact act_eq hu2)
      (by show look (ins u1 _ (ins u2 _ g)) tA = _; rw [look_ins, if_neg (by intro e; first | exact n1 e | exact n1 e.symm | exact n2 e | exact n2 e.symm | exact n3 e | exact n3 e.symm), look_ins, if_neg (by intro e; first | exact n1 e | exact n1 e.symm | exact n2 e | exact n2 e.symm | exact n3 e | exact n3 e.symm)]; exact hA)
      (by rw [act_ne (by intro e; first | exact n1 e | exact n1 e.symm | exact n2 e | exact n2 e.symm | exact n3 e | exact n3 e.symm), act_ne (by intro e; first | exact n1 e | exact n1 e.symm | exact n2 e | exact n2 e.symm | exact n3 e | exact n3 e.symm)]; exact hyo) b2 b1 (by simpa using e4) e3 e5 d1 d2 d3 oD.1
     obtain ⟨x3, w3, m3, c3, hdo3, hI3⟩ := hst
     refine wpList_step fun K hK => ?_
     rw [if_pos (by simp [Region.wanted])]
     refine hdo3.wp (hK _ _ ?_)
     refine hQ m3 c3 w3 _ ?_
     have hh : Lift.setOb (h ++ [.cells ((z.map ofC1).map own1)]) h.length ((ds.map own1).set off (.list .yes r)) = h ++ [.cells ((ds.map own1).set off (.list .yes r))] := by
      unfold Lift.setOb
      rw [List.set_append_right _ _ (Nat.le_refl _), Nat.sub_self]
      rfl
     rw [hh] at hI3
     exact hI3
    ·cases he
   ·cases he
  ·cases he
 ·cases he
theorem ops_then (hX : CxOK cx E) {ops : Array Oper} {Q : Exit -> Act -> World -> Prop} {l2 : List Oper} : ∀ (l : List Oper) (m : List Nat) (c : Cl) (w : World) (g : Env) (h : Heap) (a : Act) (s' : St), OpsOK cx E l -> InvP cx.hint.vars E m c w g h a -> evOps cx ops l (g, h) = some s' ->
  (∀ m' c' w' a', InvP cx.hint.vars E m' c' w' s'.1 s'.2 a' -> wpList cx.P ops Q l2 a' w') -> wpList cx.P ops Q (l ++ l2) a w
 | [], m, c, w, g, h, a, s', _, hI, he, hQ => by
  simp only [evOps, Option.some.injEq] at he
  subst he
  exact hQ m c w a hI
 | o :: l, m, c, w, g, h, a, s', hO, hI, he, hQ => by
  have ho := hO o (by simp)
  have hO' : OpsOK cx E l := fun o' h' => hO o' (by simp [h'])
  refine wpList_step fun K hK => ?_
  simp only [evOps] at he
  split at he
  ·rename_i hw
   rw [want_spec hI hw, if_pos rfl]
   split at he
   ·rename_i v g' h' hop
    refine op_ok hI hX hop ho.1 ho.2 K Q fun x w' m' c' hI' => hK _ _ ?_
    exact ops_then hX l m' c' w' _ _ _ s' hO' hI' he hQ
   ·cases he
  ·rename_i hw
   rw [want_spec hI hw, if_neg (by simp)]
   split at he
   ·cases he
   ·rename_i hna
    exact hK _ _ (ops_then hX l m c w _ _ _ s' hO' (undef_put hI ho.1 (not_assign (by simpa using hna) ho.2)) he hQ)
  ·cases he
theorem line_ok (hX : CxOK cx E) {ops : Array Oper} {t : Option Nat} (hO : OpsOK cx E ops.toList) (hI : InvP cx.hint.vars E m c w g h a) {s' : St} (he : evLine cx ops (g, h) t = some s') {Q : Exit -> Act -> World -> Prop}
  (hQ : ∀ m' c' w' a', InvP cx.hint.vars E m' c' w' s'.1 s'.2 a' -> Q .normal a' w') : wpList cx.P ops Q ops.toList a w := by
 cases t with
 | none => exact ops_ok hX ops.toList m c w g h a s' hO hI he hQ
 | some k =>
  simp only [evLine] at he
  split at he
  ·rename_i s1 h1
   rw [<- List.take_append_drop k ops.toList]
   exact ops_then hX _ m c w g h a s1 (fun o ho => hO o (List.mem_of_mem_take ho)) hI h1 fun m' c' w' a' hI' => adopt_ok hX hO hI' he hQ
  ·cases he
end
end Go.Lift
end

section
namespace Go.Lift
variable [GTab] [BTy]
section
variable {m : List Nat} {c : Cl} {w : World} {g : Env} {h : Heap} {a : Act} {E : Entry} {cx : Cx}
theorem head_ok (hI : InvP cx.hint.vars E m c w g h a) (hX : CxOK cx E) {o : Oper} {v : V} (he : evHead cx (g, h) o = some v) (hd : ∀ t, o.dst = some t -> t < E.nt)
  (hv : (∃ x, o.op = .assign x) \/ ∀ t, o.dst = some t -> t ∉ cx.hint.vars) : Goes cx E a w o v g h := by
 unfold evHead at he
 split at he
 ·rename_i heff
  generalize hop : o.op = op at he heff
  have hv' : (∀ x, op ≠ .assign x) -> ∀ t, o.dst = some t -> t ∉ cx.hint.vars := fun hne => by
   rcases hv with ⟨x, hx⟩ | hv
   ·rw [hop] at hx; exact absurd hx (hne x)
   ·exact hv
  cases op with
  | call k =>
   simp only at he
   split at he
   ·rename_i f hc
    split at he
    ·rename_i fid caps hf
     unfold sameH at he
     split at he
     ·rename_i r h2 hcall
      split at he
      ·rename_i hsm
       cases he
       exact fun next Q hn => call_quiet hI hop hc hf (hX.call _ _ _ _ _ _ (Nat.le_refl _) hcall) hsm hd (hv' (fun x e => by cases e)) hn
      ·cases he
     ·cases he
    ·cases he
   ·cases he
  | convert s d x =>
   simp only at he
   split at he
   ·cases he
   ·rename_i hnr
    have hr2 : isRow cx.P s d = false := by
     rw [Bool.not_eq_true, Bool.or_eq_false_iff] at hnr; exact hnr.2
    simp only [Option.map_eq_some_iff] at he
    obtain ⟨⟨v', g', h'⟩, hev, rfl⟩ := he
    have hs := is_string (P := cx.P) (by simpa [isEff, hr2] using heff)
    simp only [evEff, hr2, Bool.false_eq_true, if_false] at hev
    have hgh : g' = g /\ h' = h := by
     split at hev
     ·split at hev
      ·simp only [Bool.false_eq_true, if_false, Option.some.injEq, Prod.mk.injEq] at hev
       exact ⟨hev.2.1.symm, hev.2.2.symm⟩
      ·cases hev
     ·simp only [Option.some.injEq, Prod.mk.injEq] at hev
      exact ⟨hev.2.1.symm, hev.2.2.symm⟩
     ·cases hev
    obtain ⟨rfl, rfl⟩ := hgh
    exact (eff_convert (mutc := false) hI hop hs (by simp only [Bool.false_eq_true, if_false]; exact hev) hd (hv' (fun x e => by cases e))).goes
  | buildSlice t n parts =>
   simp only [Option.map_eq_some_iff] at he
   obtain ⟨⟨v', g', h'⟩, hev, rfl⟩ := he
   simp only [evEff] at hev
   split at hev
   ·rename_i e hu
    split at hev
    ·rename_i hc
     simp only [Option.some.injEq, Prod.mk.injEq] at hev
     obtain ⟨rfl, rfl, rfl⟩ := hev
     exact (eff_buildSlice hI hop hu hc hd (hv' (fun x e => by cases e))).goes
    ·cases hev
   ·cases hev
  | _ => cases he
 ·rename_i heff
  have hna : ∀ t, o.dst = some t -> t ∉ cx.hint.vars := by
   rcases hv with ⟨x, hx⟩ | hv
   ·rw [hx] at heff; exact absurd rfl heff
   ·exact hv
  obtain ⟨y, hy, hvr, ht⟩ := pure_ok hI.core he
  intro next Q hn
  exact (show Does cx.P w a o y w from .inl hy).wp (hn y w m c (hI.put hd hvr ht (.inl hna)))
theorem opA_ok (hI : InvP cx.hint.vars E m c w g h a) (hX : CxOK cx E) {ops : Array Oper} (hO : OpsOK cx E ops.toList) {i : Nat} {s1 : St} (he : opA cx ops i (g, h) = some s1) {K : Act -> World -> Prop} {Q : Exit -> Act -> World -> Prop}
  (hK : ∀ m' c' w' a', InvP cx.hint.vars E m' c' w' s1.1 s1.2 a' -> K a' w') : wpOp cx.P ops Q i K a w := by
 unfold opA at he
 unfold wpOp
 split
 ·rename_i hn
  rw [hn] at he
  simp only [Option.some.injEq] at he
  subst he
  exact hK m c w a hI
 ·rename_i o ho
  rw [ho] at he
  simp only at he
  have hoo := hO o (Array.mem_toList_iff.2 (Array.mem_of_getElem? ho))
  split at he
  ·rename_i hw
   split at he
   ·rename_i v hv
    simp only [Option.some.injEq] at he
    subst he
    rw [want_spec hI hw, if_pos rfl]
    exact .inl (head_ok hI hX hv hoo.1 hoo.2 _ Q fun x w' m' c' hI' => hK m' c' w' _ hI')
   ·cases he
  ·rename_i hw
   split at he
   ·cases he
   ·rename_i hna
    simp only [Option.some.injEq] at he
    subst he
    rw [want_spec hI hw, if_neg (by simp)]
    exact hK m c w _ (undef_put hI hoo.1 (not_assign (by simpa using hna) hoo.2))
  ·cases he
theorem any_ok (hX : CxOK cx E) {ops : Array Oper} (hO : OpsOK cx E ops.toList) {md : Region.Mode} {n gg : Nat} {s' : St} {Q : Exit -> Act -> World -> Prop}
  (hL : ∀ listed m c w a, Region.seqB md ops gg n listed = true -> InvP cx.hint.vars E m c w s'.1 s'.2 a -> wpAny cx.P md ops Q gg listed a w) :
  ∀ (f : Nat) (listed : Array Bool) (s : St) (m : List Nat) (c : Cl) (w : World) (a : Act), anyL cx md ops n (fun listed' s2 => Region.seqB md ops gg n listed' = true /\ s2 = s') f listed s -> InvP cx.hint.vars E m c w s.1 s.2 a -> wpAny cx.P md ops Q (f + gg) listed a w
 | 0, listed, s, m, c, w, a, h, hI => by
  obtain ⟨h1, rfl⟩ := h
  rw [Nat.zero_add]
  exact hL listed m c w a h1 hI
 | f + 1, listed, s, m, c, w, a, h, hI => by
  rw [show f + 1 + gg = (f + gg) + 1 by omega]
  refine ⟨fun h0 => absurd h0 h.1, fun i hi => ?_⟩
  obtain ⟨_, s1, h1, h2⟩ := h.2 i hi
  exact opA_ok (g := s.1) (h := s.2) hI hX hO h1 fun m' c' w' a' hI' => any_ok hX hO hL f _ s1 m' c' w' a' h2 hI'
theorem lexFrom_head {md : Region.Mode} {ops : Array Oper} : ∀ (f k : Nat) (listed : Array Bool), Region.lexFrom md ops f k listed = Region.lexHead md ops 0 f k listed
 | 0, k, listed => rfl
 | f + 1, k, listed => by simp only [Region.lexFrom, Region.lexHead, lexFrom_head f (k + 1)]
theorem headInv0 {md : Region.Mode} (ops : Array Oper) (n : Nat) : HeadInv md ops n (Array.replicate ops.size false) :=
 ⟨by simp, fun j oj _ hl => (by rw [getD_replicate_false] at hl; cases hl), fun t _ ht => getD_in (by simpa using ht) (getD_replicate_false _ _)⟩
theorem heads_all (hX : CxOK cx E) (hm : cx.P.follows .mixedOrders = true) {id : Nat} {ops : Array Oper} (hO : OpsOK cx E ops.toList) (hdr : drawOk0 cx.P cx.hint id ops = true) (hI : InvP cx.hint.vars E m c w g h a) {s' : St} (he : evDraw0 cx id ops (g, h) = some s') {Q : Exit -> Act -> World -> Prop}
  (hQ : ∀ m' c' w' a', InvP cx.hint.vars E m' c' w' s'.1 s'.2 a' -> Q .normal a' w') : (Code.region id ops true).wp cx.P Q a w := by
 have hI0 : InvP cx.hint.vars E m c { w with drawn := w.drawn + 1 } g h a := hI.grown (c' := c) none (Nat.le_refl _) (fun b _ _ => ⟨rfl, rfl⟩) (fun b hb => by cases hb) (fun b hb _ h0 => by rw [hI.core.c_zero hb] at h0; omega) rfl rfl rfl
 unfold evDraw0 at he
 split at he
 ·rename_i s1 h1
  refine wp_region_any hm ?_
  unfold drawOk0 at hdr
  split at hdr
  ·-- all of them
   rename_i hn
   rw [hn] at h1 he
   have ht : ops.toList.take ops.size = ops.toList := List.take_of_length_le (by simp)
   have hdp : ops.toList.drop ops.size = [] := List.drop_eq_nil_of_le (by simp)
   rw [ht] at h1
   rw [hdp] at he
   simp only [evOps, Option.some.injEq] at he
   subst he
   simp only [Region.lexB, Bool.and_eq_true] at hdr
   have hany := anyL_lex (cx := cx) (md := .any) (n := ops.size) (gg := 0) (s' := s1) (fun h0 => absurd h0 (Nat.lt_irrefl _)) (Nat.le_refl _) ops.toList 0 _ (g, h) (fun j _ => by simp) (by simp) (headInv0 ops ops.size) (by rw [<- lexFrom_head]; simpa using hdr.2) h1
   have := any_ok (Q := Q) hX hO (fun listed m c w a hs hI' => by
    refine ⟨?_, hQ m c w a hI'⟩
    simpa [Region.seqB] using hs) _ _ (g, h) m c _ a hany hI0
   simpa using this
  ·rename_i hn
   simp only [Region.lexTailB, Bool.and_eq_true, decide_eq_true_eq] at hdr
   obtain ⟨⟨⟨⟨hsel, hlt⟩, hs⟩, hc⟩, hlex⟩ := hdr
   have htl : (ops.toList.take (tailAt cx.P cx.hint id ops)).length = tailAt cx.P cx.hint id ops := by simp; omega
   have hdl : (ops.toList.drop (tailAt cx.P cx.hint id ops)).length = ops.size - tailAt cx.P cx.hint id ops := by simp
   have hany := anyL_lex (cx := cx) (md := .any) (n := tailAt cx.P cx.hint id ops) (gg := ops.size - tailAt cx.P cx.hint id ops) (s' := s1) (fun _ => ⟨hs, hc⟩) (Nat.le_of_lt hlt) (ops.toList.take (tailAt cx.P cx.hint id ops)) 0 _ (g, h)
    (fun j hj => by rw [List.getElem?_take, if_pos (by omega)]; simp) (by rw [Nat.zero_add, htl]) (headInv0 ops _) (by rw [htl]; exact hlex) h1
   have := any_ok (Q := Q) hX hO (fun listed m c w a hsq hI' => by
    have hw := ops_ok hX (ops := ops) (Q := Q) (ops.toList.drop (tailAt cx.P cx.hint id ops)) m c w s1.1 s1.2 a s' (fun o ho => hO o (List.mem_of_mem_drop ho)) hI' he hQ
    have := wpAny_of_seq (md := .any) (ops.toList.drop (tailAt cx.P cx.hint id ops)) (tailAt cx.P cx.hint id ops) listed a w (fun j => by rw [List.getElem?_drop]; simp) (by rw [hdl]; exact hsq) hw
    rw [hdl] at this
    exact this) _ _ (g, h) m c _ a hany hI0
   rw [htl, show tailAt cx.P cx.hint id ops + (ops.size - tailAt cx.P cx.hint id ops) = ops.size by omega] at this
   exact this
 ·cases he
theorem look_lives {l : List Nat} {t : Nat} : look (l.map fun u => (u, look g u)) t = if t ∈ l then look g t else .undef := by
 induction l with
 | nil => rfl
 | cons u l ih =>
  simp only [List.map_cons, look, ih, List.mem_cons]
  by_cases h : u = t
  ·simp [h]
  ·simp [h, Ne.symm h]
theorem InvP.lives {vars : List Nat} (hI : InvP vars E m c w g h a) (l : Option (List Nat)) : InvP vars E m c w (Lift.untag (Lift.lives l g)) h a := by
 cases l with
 | none => exact hI.untag
 | some l =>
  have hlk : ∀ t v, look (Lift.untag (Lift.lives (some l) g)) t = v -> v = .undef \/ v = untag1 (look g t) := fun t v hv => by
   rw [look_untag, Lift.lives, look_lives] at hv
   split at hv
   ·exact .inr hv.symm
   ·exact .inl hv.symm
  have hC := hI.core
  have hAt : ∀ {k r x}, At m w (Lift.untag (Lift.lives (some l) g)) h a k r x -> At m w g h a k r x := fun {k r x} hl => by
   cases k with
   | slot t =>
    rcases hlk t _ hl.1 with h1 | h1
    ·cases h1
    ·exact ⟨untag1_yes.1 h1.symm, hl.2⟩
   | cell i j => exact hl
  refine ⟨⟨hC.wf1, hC.wf2, hC.nd, hC.len, fun t => ?_, hC.ob, fun k r x hl => hC.own k r x (hAt hl), fun k k' r r' x x' b h1 h2 => hC.uniq k k' r r' x x' b (hAt h1) (hAt h2), fun t u r ht => absurd ht (noTags t u r), fun t i j r ht => absurd ht (noTagC t i j r), hC.gt⟩,
   hI.fr, fun k r x b hl hu hb => hI.owned k r x b (hAt hl) hu hb, hI.hlo, hI.hlen, hI.ml, hI.lole, hI.nt, hI.df, hI.old, hI.ent⟩
  rcases hlk t _ rfl with h1 | h1
  ·rw [h1]; trivial
  ·rw [h1]; exact (hC.env t).untag
theorem take_ok (hI : InvP cx.hint.vars E m c w g h a) (hX : CxOK cx E) {o : Oper} {s1 : St} (he : evTake cx (g, h) o = some s1) (hd : ∀ t, o.dst = some t -> t < E.nt)
  (hv : ∀ t, o.dst = some t -> t ∉ cx.hint.vars) {next : Act -> World -> Prop} {Q : Exit -> Act -> World -> Prop}
  (hn : ∀ x w' m' c', InvP cx.hint.vars E m' c' w' s1.1 s1.2 (a.put o.dst x) -> next (a.put o.dst x) w') : o.wp cx.P a w next Q := by
 unfold evTake at he
 split at he
 ·rename_i t ht
  split at he
  ·rename_i v hp
   split at he
   ·rename_i r g1 h1 how
    simp only [Option.some.injEq] at he
    subst he
    obtain ⟨y, hy, hvr, htag⟩ := pure_ok hI.core hp
    have hI1 := hI.put (d := some t) (fun u e => hd u (ht.trans e)) hvr htag (.inl fun u e => hv u (ht.trans e))
    rw [hX.lo] at how
    obtain ⟨hI2, hvp, hob, huq, how2⟩ := owner_spec hI1 how
    have hts : t < a.tmps.size := by rw [hI.nt]; exact hd t ht
    have hev : (a.put (some t) y).eval (.tmp t) = y := by
     simp [Act.eval, Act.put, Array.getD, hts]
    rw [hev] at hvp hob huq how2
    have hI3 := hI2.putOwn (d := some t) (fun u e => hd u (ht.trans e)) hvp hob huq how2 (.inl fun u e => hv u (ht.trans e))
    have hpp : (a.put (some t) y).put (some t) y = a.put o.dst y := by
     rw [ht]
     simp [Act.put]
    rw [hpp] at hI3
    exact (show Does cx.P w a o y w from .inl hy).wp (hn y w m c hI3)
   ·cases he
  ·cases he
 ·cases he
theorem stepT_ok (hI : InvP cx.hint.vars E m c w g h a) (hX : CxOK cx E) {mx : Mix} {ops : Array Oper} (hO : OpsOK cx E ops.toList) {i : Nat} {s1 : St} (he : stepT cx mx ops i (g, h) = some s1) {K : Act -> World -> Prop} {Q : Exit -> Act -> World -> Prop}
  (hK : ∀ m' c' w' a', InvP cx.hint.vars E m' c' w' s1.1 s1.2 a' -> K a' w') : wpOp cx.P ops Q i K a w := by
 have he0 := he
 unfold stepT at he
 split at he
 ·cases he
 ·rename_i o ho
  have hoo := hO o (Array.mem_toList_iff.2 (Array.mem_of_getElem? ho))
  split at he
  ·rename_i hh
   rw [stepT_head ho hh] at he0
   exact opA_ok hI hX hO he0 hK
  ·split at he
   ·split at he
    ·rename_i hgd
     simp only [Bool.and_eq_true, Option.isNone_iff_eq_none, Bool.not_eq_true'] at hgd
     unfold wpOp
     rw [ho]
     simp only
     have hw : Region.wanted o (yielded ops a.tmps) = true := by simp [Region.wanted, hgd.1]
     rw [hw, if_pos rfl]
     refine .inl (take_ok hI hX he hoo.1 ?_ fun x w' m' c' hI' => hK m' c' w' _ hI')
     rcases hoo.2 with ⟨x, hx⟩ | hv
     ·rw [hx] at hgd; exact absurd hgd.2 (by simp [isEff])
     ·exact hv
    ·cases he
   ·unfold wpOp
    rw [ho]
    simp only [evOps] at he
    simp only
    split at he
    ·rename_i hw
     split at he
     ·rename_i v g' h' hop
      simp only [Option.some.injEq] at he
      subst he
      rw [want_spec hI hw, if_pos rfl]
      exact .inl (op_ok hI hX hop hoo.1 hoo.2 _ Q fun x w' m' c' hI' => hK m' c' w' _ hI')
     ·cases he
    ·rename_i hw
     split at he
     ·cases he
     ·rename_i hna
      simp only [Option.some.injEq] at he
      subst he
      rw [want_spec hI hw, if_neg (by simp)]
      exact hK m c w _ (undef_put hI hoo.1 (not_assign (by simpa using hna) hoo.2))
    ·cases he
theorem anyE_ok (hX : CxOK cx E) {mx : Mix} {ops : Array Oper} (hO : OpsOK cx E ops.toList) {K : St -> Prop} {Q : Exit -> Act -> World -> Prop}
  (hQ : ∀ s m c w a, K s -> InvP cx.hint.vars E m c w s.1 s.2 a -> Q .normal a w) :
  ∀ (f : Nat) (listed : Array Bool) (s : St) (m : List Nat) (c : Cl) (w : World) (a : Act), anyE cx mx ops K f listed s -> InvP cx.hint.vars E m c w s.1 s.2 a -> wpAny cx.P .any ops Q f listed a w
 | 0, listed, s, m, c, w, a, h, hI => ⟨h.1, hQ s m c w a h.2 hI⟩
 | f + 1, listed, s, m, c, w, a, h, hI => by
  rcases h with ⟨k, r, he, hK, hok⟩ | h
  ·obtain ⟨g2, hg2, H⟩ := two_ok (g := s.1) (h := s.2) (Q := Q) hX hO hI hok he
   refine H fun m' c' w' a' hI' => hQ r m' c' w' a' hK ?_
   rw [hg2]
   exact hI'.lives none
  refine ⟨fun h0 => absurd h0 h.1, fun i hi => ?_⟩
  obtain ⟨s1, h1, h2⟩ := h.2 i hi
  exact stepT_ok (g := s.1) (h := s.2) hI hX hO h1 fun m' c' w' a' hI' => anyE_ok hX hO hQ f _ s1 m' c' w' a' h2 hI'
theorem obs_ok {h : Heap} {B n : Nat} (hk : ((h.drop B).take n).all (okO (B + n)) = true) {i : Nat} {cs : List V} (hcs : cellsOfOb h i = some cs) (hbi : B <= i) (hin : i < B + n) : ∀ v ∈ cs, okv (B + n) v = true := by
 have hcs0 : h[i]? = some (.cells cs) := by
  unfold cellsOfOb at hcs
  split at hcs
  ·rename_i h0; cases hcs; exact h0
  ·cases hcs
 have hm : Ob.cells cs ∈ (h.drop B).take n := by
  apply List.mem_of_getElem? (i := i - B)
  rw [List.getElem?_take, if_pos (by omega), List.getElem?_drop, show B + (i - B) = i by omega]
  exact hcs0
 have := List.all_eq_true.1 hk _ hm
 exact List.all_eq_true.1 this
theorem untag_fix {g : Env} : ∀ p ∈ Lift.untag g, untag1 p.2 = p.2 := fun p hp => by
 simp only [Lift.untag, List.mem_map] at hp
 obtain ⟨q, _, rfl⟩ := hp
 cases hq : q.2 with
 | list k r => cases k <;> simp [untag1]
 | _ => simp [untag1]
theorem swE_fix {j : Nat} {g : Env} (h : ∀ p ∈ g, untag1 p.2 = p.2) : ∀ p ∈ swE j g, untag1 p.2 = p.2 := fun p hp => by
 simp only [swE, List.mem_map] at hp
 obtain ⟨q, hq, rfl⟩ := hp
 have := h q hq
 cases hv : q.2 with
 | list k r => rw [hv] at this; exact this
 | _ => simp [swr, swv, swf, swc, untag1]
theorem fix_noTag {g : Env} (h : ∀ p ∈ g, untag1 p.2 = p.2) (t : Nat) : untag1 (look g t) = look g t := by
 induction g with
 | nil => rfl
 | cons p g ih =>
  obtain ⟨k, v⟩ := p
  simp only [look]
  split
  ·exact h _ (List.mem_cons_self ..)
  ·exact ih fun p hp => h p (List.mem_cons_of_mem _ hp)
theorem keep1_ok {vars : List Nat} (hI : InvP vars E m c w g h a) (hn : ∀ p ∈ g, untag1 p.2 = p.2) {n : Nat} {s' : St} (he : keep1 E.base n (g, h) = some s') : ∃ m', InvP vars E m' c w s'.1 s'.2 a /\ ∀ p ∈ s'.1, untag1 p.2 = p.2 := by
 unfold keep1 at he
 split at he
 ·rename_i hok
  simp only [Option.some.injEq] at he
  subst he
  simp only [Bool.and_eq_true] at hok
  refine ⟨_, hI.less (Nat.le_add_right _ _) (fun i cs hcs hbi hin => obs_ok hok.2 hcs hbi hin) fun p hp => ?_, hn⟩
  have h2 := List.all_eq_true.1 hok.1 p hp
  exact ⟨h2, hn p hp, fun vs e => by rw [e] at h2; cases h2⟩
 ·cases he
theorem swS_ok {vars : List Nat} (hI : InvP vars E m c w g h a) (hn : ∀ p ∈ g, untag1 p.2 = p.2) {i : Nat} {s' : St} (he : swS E.base i (g, h) = some s') : ∃ m', InvP vars E m' c w s'.1 s'.2 a /\ ∀ p ∈ s'.1, untag1 p.2 = p.2 := by
 unfold swS at he
 split at he
 ·rename_i hlt
  simp only [Option.some.injEq] at he
  subst he
  exact ⟨_, hI.swapS (i := i) hlt (fun t i k r e => by have := fix_noTag hn t; rw [e] at this; simp [untag1] at this), swE_fix hn⟩
 ·cases he
theorem keeps_ok {vars : List Nat} (hI : InvP vars E m c w g h a) (hn : ∀ p ∈ g, untag1 p.2 = p.2) {k : Option Nat} {s' : St} (he : keeps E.base k (g, h) = some s') : ∃ m', InvP vars E m' c w s'.1 s'.2 a /\ ∀ p ∈ s'.1, untag1 p.2 = p.2 := by
 unfold keeps at he
 split at he
 ·simp only [Option.some.injEq] at he
  subst he
  exact ⟨m, hI, hn⟩
 ·rename_i n
  split at he
  ·exact keep1_ok hI hn he
  ·split at he
   ·exact keep1_ok hI hn he
   ·unfold sinkS at he
    split at he
    ·split at he
     ·exact swS_ok hI hn he
     ·simp only [Option.some.injEq] at he
      subst he
      exact ⟨m, hI, hn⟩
    ·simp only [Option.some.injEq] at he
     subst he
     exact ⟨m, hI, hn⟩
theorem swSs_ok {vars : List Nat} : ∀ (l : List Nat) {m : List Nat} {g : Env} {h : Heap} (hI : InvP vars E m c w g h a) (hn : ∀ p ∈ g, untag1 p.2 = p.2) {s' : St} (he : swSs E.base l (g, h) = some s'), ∃ m', InvP vars E m' c w s'.1 s'.2 a /\ ∀ p ∈ s'.1, untag1 p.2 = p.2
 | [], m, g, h, hI, hn, s', he => by
  simp only [swSs, Option.some.injEq] at he
  subst he
  exact ⟨m, hI, hn⟩
 | i :: l, m, g, h, hI, hn, s', he => by
  simp only [swSs] at he
  split at he
  ·rename_i s1 h1
   obtain ⟨m1, hI1, hn1⟩ := swS_ok hI hn h1
   exact swSs_ok l hI1 hn1 he
  ·cases he
theorem leaf_ok {vars : List Nat} (hI : InvP vars E m c w g h a) {live : Option (List Nat)} {k : Option Nat} {sw : List Nat} {s1 : St} (he : leafT E.base live k sw (g, h) = some s1) :
  ∃ m', InvP vars E m' c w s1.1 s1.2 a /\ ∀ t, untag1 (look s1.1 t) = look s1.1 t := by
 have hI1 := hI.lives live
 unfold leafT at he
 split at he
 ·rename_i s2 h2
  obtain ⟨m1, hI2, hn2⟩ := swSs_ok sw hI1 untag_fix h2
  obtain ⟨m2, hI3, hn3⟩ := keeps_ok hI2 hn2 he
  exact ⟨m2, hI3, fun t => fix_noTag hn3 t⟩
 ·cases he
theorem untag_weak {v u : V} (h : WeakV v u) : WeakV (untag1 v) (untag1 u) := by
 rcases h with rfl | rfl | ⟨rfl, b, rfl⟩
 ·exact .inl rfl
 ·exact .inr (.inl rfl)
 ·exact .inr (.inr ⟨rfl, b, rfl⟩)
theorem lives_weak {g g' : Env} (h : ∀ t, WeakV (look g t) (look g' t)) (l : Option (List Nat)) (t : Nat) : WeakV (look (Lift.untag (Lift.lives l g)) t) (look (Lift.untag (Lift.lives l g')) t) := by
 rw [look_untag, look_untag]
 refine untag_weak ?_
 cases l with
 | none => exact h t
 | some l =>
  rw [Lift.lives, look_lives, Lift.lives, look_lives]
  split
  ·exact h t
  ·exact .inl rfl
theorem draw_all (hX : CxOK cx E) (hm : cx.P.follows .mixedOrders = true) {id : Nat} {ops : Array Oper} (hO : OpsOK cx E ops.toList) (hdr : drawOk cx.P cx.hint id ops = true) (hI : InvP cx.hint.vars E m c w g h a) {s' : St} (he : evDraw cx id ops (g, h) = some s') {Q : Exit -> Act -> World -> Prop}
  (hQ : ∀ m' c' w' a', InvP cx.hint.vars E m' c' w' (Lift.untag (Lift.lives (cx.hint.live id) s'.1)) s'.2 a' -> Q .normal a' w') : (Code.region id ops true).wp cx.P Q a w := by
 unfold evDraw at he
 unfold drawOk at hdr
 split at he
 ·rename_i hm0
  rw [hm0] at hdr
  exact heads_all hX hm hO hdr hI he fun m' c' w' a' hI' => hQ m' c' w' a' (hI'.lives _)
 ·rename_i mx hmx
  rw [hmx] at hdr
  simp only [Bool.and_eq_true] at hdr
  have hI0 : InvP cx.hint.vars E m c { w with drawn := w.drawn + 1 } g h a := hI.grown (c' := c) none (Nat.le_refl _) (fun b _ _ => ⟨rfl, rfl⟩) (fun b hb => by cases hb) (fun b hb _ h0 => by rw [hI.core.c_zero hb] at h0; omega) rfl rfl rfl
  refine wp_region_any hm ?_
  refine anyE_ok (mx := mx) hX hO (K := EndsAs cx id s') (fun s m c w a hs hI' => ?_) _ _ (g, h) m c _ a ((tree_any mx.tree ops.size _ (g, h) s' (closed0 ops) he (Weak.refl s')).1 hdr.2) hI0
  obtain ⟨k, s1, h1, hw⟩ := hs
  rw [hX.base] at h1
  obtain ⟨m', hI1, _⟩ := leaf_ok hI' h1
  have hI2 := (hI1.lives (cx.hint.live id)).weak (lives_weak hw.env (cx.hint.live id)) (fun t u r => noTags t u r) (fun t i k r => noTagC t i k r)
  rw [<- hw.heap] at hI2
  exact hQ m' c w a hI2
theorem region_ok (hX : CxOK cx E) (hm : cx.P.follows .mixedOrders = true) {id : Nat} {ops : Array Oper} {draw : Bool} (hO : OpsOK cx E ops.toList) (hdr : draw = true -> drawOk cx.P cx.hint id ops = true) (hI : InvP cx.hint.vars E m c w g h a) {s' : St} (he : evRegion cx id ops draw (g, h) = some s') {Q : Exit -> Act -> World -> Prop}
  (hQ : ∀ m' c' w' a', InvP cx.hint.vars E m' c' w' s'.1 s'.2 a' -> Q .normal a' w') : (Code.region id ops draw).wp cx.P Q a w := by
 unfold evRegion at he
 split at he
 ·rename_i s1 h1
  have hfin : ∀ m' c' w' a', InvP cx.hint.vars E m' c' w' (Lift.untag (Lift.lives (cx.hint.live id) s1.1)) s1.2 a' -> Q .normal a' w' := fun m' c' w' a' hI2 => by
   rw [hX.base] at he
   obtain ⟨m2, hI3, _⟩ := keeps_ok hI2 untag_fix he
   exact hQ _ _ _ _ hI3
  cases draw with
  | false =>
   simp only [Bool.false_eq_true, if_false] at h1
   exact wp_region_list (line_ok hX hO hI h1 fun m' c' w' a' hI' => hfin m' c' w' a' (hI'.lives _))
  | true =>
   simp only [if_true] at h1
   exact draw_all hX hm hO (hdr rfl) hI h1 hfin
 ·cases he
end
end Go.Lift
end

section
namespace Go.Lift
variable [GTab] [BTy]
section
variable {P : Program} {vars : List Nat} {m : List Nat} {c : Cl} {w : World} {g : Env} {h : Heap} {a : Act} {E : Entry}
theorem late_tail {cx : Cx} (hX : CxOK cx E) {id' : Nat} {ops ops' : Array Oper} (hO : OpsOK cx E ops.toList) (hO' : OpsOK cx E ops'.toList) {s1 s2 s' : St} (hI' : InvP cx.hint.vars E m c w s1.1 s1.2 a) {o o1 o2 : Oper} {cl : Call} {u nn d1 ex tt t2 e : Nat} {du : TypeDesc} {x y : Operand} {r : List (List V)} {z : List V} {g1 : Env} {h1 : Heap} {kk : IntKind}
  (hop : o.op = .call cl) (hdst : o.dst = some u) (hop1 : o1.op = .indexAddr tt (.tmp u) (.tmp nn)) (hdst1 : o1.dst = some d1) (hop2 : o2.op = .store t2 (.tmp d1) (.tmp ex)) (hcal : cl.callee = .builtin .append) (hargs : cl.args.toList = [x, y]) (htys : cl.argTypes.toList.map cx.P.underlying = [some (.slice e), some du]) (htt : cx.P.underlying tt = some (.slice e))
  (hdx : d1 ≠ ex) (hun : u ≠ nn) (hux : u ≠ ex) (hg0 : o.guard = none) (hg1 : o1.guard = none) (hg2 : o2.guard = none) (hd2 : o2.dst = none) (hts2 : tsize cx.P t2 = tsize cx.P e) (hi2 : (cx.P.info? t2).isSome) (hie : (cx.P.info? e).isSome)
  (how : owner cx.lo s1 x = some (r, g1, h1)) (hrows : appRows cx.P e (opd s1.1 y) = some [z]) (hnn : look s1.1 nn = .v (.int kk r.length)) (hpart : partOk (look s1.1 ex) = true) (hlen : (cellsV (fzs (look s1.1 ex))).length = tsize cx.P e) (hpure : (cellsV (fzs (look s1.1 ex))).all pure1 = true) (hsto : (cellsV (look s1.1 ex)).all stoOk = true)
  (htz : (tzero cx.P e).map (·.length) = some (tsize cx.P e)) (hsz : 0 < tsize cx.P e) (hall : (r.all fun z => z.length == tsize cx.P e) = true) (hby : (r.length + 1) * cx.P.bytesOf e <= 140737488355328) (hlen2 : r.length + 1 <= 9223372036854775807) (hnot : notInt du = true) (hbyt : byT e r [cellsV (fzs (look s1.1 ex))] = true)
  (hoo : (∀ t, o.dst = some t -> t < E.nt) /\ ((∃ x, o.op = .assign x) \/ ∀ t, o.dst = some t -> t ∉ cx.hint.vars)) (hl' : ops'.toList = [o1, o2]) {mid : List Oper} (hmo : ∀ o ∈ mid, (∀ t, o.dst = some t -> t < E.nt) /\ ((∃ x, o.op = .assign x) \/ ∀ t, o.dst = some t -> t ∉ cx.hint.vars))
  (hmid : evMid cx.P cx.lo cx.base u nn ex mid (ins d1 .undef (ins u (.list .yes (r ++ [cellsV (fzs (look s1.1 ex))])) (untag g1)), h1) = some s2) (he : keeps cx.base (cx.hint.keep id') (untag (lives (cx.hint.live id') (ins d1 .undef s2.1)), s2.2) = some s')
  {Q : Exit -> Act -> World -> Prop} (hQ : ∀ m' c' w' a', InvP cx.hint.vars E m' c' w' s'.1 s'.2 a' -> Q .normal a' w') : wpList cx.P ops (Exit.then (Code.wp cx.P (Code.region id' ops' false) Q) Q) (o :: mid) a w := by
 rw [hX.lo] at how hmid
 rw [hX.base] at hmid he
 have hv := hI'.core.opd (.tmp ex)
 have hrel0 := cells_rel (v := look s1.1 ex) hv hpart
 have hrel1 : R2 (VR1 m c w) (cellsV (fzs (look s1.1 ex))) (a.eval (.tmp ex)).cells.toList := by
  rw [cellsV_fzs]
  simpa using hrel0.map (g := id) fun _ _ => VR1.fz
 have hes : (a.eval (.tmp ex)).cells.toList.length = tsize cx.P e := by rw [<- hrel1.1]; exact hlen
 have hone : ∀ y ∈ (a.eval (.tmp ex)).cells.toList, y.oneCell' = true := fun y hy => by
  obtain ⟨j, hj, rfl⟩ := List.getElem_of_mem hy
  have hj' : j < (cellsV (look s1.1 ex)).length := by rw [hrel0.1]; exact hj
  exact stoOk_oneCell (hrel0.2 j _ _ (List.getElem?_eq_getElem hj') (List.getElem?_eq_getElem hj)) (List.all_eq_true.1 hsto _ (List.getElem_mem hj'))
 have hnv : ∀ t, o.dst = some t -> t ∉ cx.hint.vars := by
  rcases hoo.2 with ⟨x, hx⟩ | h'
  ·rw [hop] at hx; cases hx
  ·exact h'
 obtain ⟨b, cap, wz, c', arr, ty, hdo, hinv, hblk, hsize, hnm⟩ := late_append hI' hop hcal hargs htys how hrows ⟨htz, hsz, hall, hby, hlen2, hnot, hbyt⟩ hlen hes (fun j v hj => by
  obtain ⟨x, hx, hvx⟩ := hrel1.get hj
  exact ⟨x, hx, pure1_VP (List.all_eq_true.1 hpure _ (List.mem_of_getElem? hj)) hvx⟩) hoo.1 hnv
 have hua : u < a.tmps.size := by rw [hI'.nt]; exact hoo.1 u hdst
 have hnv0 : a.eval (.tmp nn) = .int kk r.length := by
  have := hI'.core.opd (.tmp nn)
  rw [show opd s1.1 (.tmp nn) = look s1.1 nn from rfl, hnn] at this
  exact this
 refine wpList_step fun K hK => ?_
 have hwant : Region.wanted o (yielded ops a.tmps) = true := by simp [Region.wanted, hg0]
 rw [if_pos hwant]
 refine hdo.wp (hK _ _ ?_)
 rw [hdst] at hinv ⊢
 have hinv' := hinv.forget (d := d1) (untag_put _ _ _)
 refine mid_ok (E := E) (vars := cx.hint.vars) (yu := .slice (some ⟨b, 0, none⟩) (r.length + 1) cap) (yn := .int kk r.length) (ye := a.eval (.tmp ex)) mid m c' wz _ h1 _ s2 hmo ⟨hinv', ⟨arr, ty, hblk, by rw [hes]; rw [Nat.add_mul, Nat.one_mul] at hsize; exact hsize⟩, hnm, eval_put_eq hua, (eval_put_ne hun).trans hnv0, eval_put_ne hux⟩ hmid fun m2 c2 w2 a2 hP => ?_
 show (Code.region id' ops' false).wp cx.P Q a2 w2
 refine wp_region_list ?_
 rw [hl']
 have ho1 := hO' o1 (by rw [hl']; simp)
 have hd1 : d1 < E.nt := ho1.1 d1 hdst1
 have hd1v : d1 ∉ cx.hint.vars := by
  rcases ho1.2 with ⟨x, hx⟩ | h'
  ·rw [hop1] at hx; cases hx
  ·exact h' d1 hdst1
 refine wpList_step fun K hK => ?_
 have hwant1 : Region.wanted o1 (yielded ops' a2.tmps) = true := by simp [Region.wanted, hg1]
 rw [if_pos hwant1]
 have hy1 := row_addr (P := cx.P) hop1 htt hie hP.su hP.sn w2
 refine (show Does cx.P w2 a2 o1 _ w2 from .inl hy1).wp (hK _ _ ?_)
 rw [hdst1]
 refine wpList_step fun K hK => ?_
 have hwant2 : Region.wanted o2 (yielded ops' (a2.put (some d1) (.pointer (some ⟨b, r.length * tsize cx.P e, none⟩))).tmps) = true := by simp [Region.wanted, hg2]
 rw [if_pos hwant2]
 obtain ⟨arr2, ty2, hb2, hf2⟩ := hP.blk
 have ha2 : d1 < a2.tmps.size := by rw [hP.inv.nt]; exact hd1
 obtain ⟨ie2, hie2⟩ := Option.isSome_iff_exists.1 hi2
 have hrun := run_storeCells_cells (P := cx.P) b (r.length * tsize cx.P e) (a.eval (.tmp ex)).cells.toList 0 w2 (fun j hj => by
  rw [cell_arr hb2]
  simp only [Option.isSome_iff_exists]
  exact ⟨_, Array.getElem?_eq_getElem (by omega)⟩) (fun j hj => by
  simp [World.frozen?, hb2]) hone
 rw [Nat.add_zero] at hrun
 have hpv : (a2.put (some d1) (.pointer (some ⟨b, r.length * tsize cx.P e, none⟩))).eval (.tmp d1) = .pointer (some ⟨b, r.length * tsize cx.P e, none⟩) := eval_put_eq ha2
 have hxv : (a2.put (some d1) (.pointer (some ⟨b, r.length * tsize cx.P e, none⟩))).eval (.tmp ex) = a.eval (.tmp ex) := (eval_put_ne hdx).trans hP.se
 have hsz2 : (a.eval (.tmp ex)).cells.size = ie2.size := by
  have h3 := size_of_info hie2
  have h4 : (a.eval (.tmp ex)).cells.size = (a.eval (.tmp ex)).cells.toList.length := by simp
  rw [h4, hes, <- hts2, h3]
 have hdo2 : Does cx.P w2 (a2.put (some d1) (.pointer (some ⟨b, r.length * tsize cx.P e, none⟩))) o2 undef (w2.setCells b (r.length * tsize cx.P e) (a.eval (.tmp ex)).cells.toList) := by
  refine .inr ⟨?_, rfl⟩
  generalize a.eval (.tmp ex) = ye at *
  simp [execOp, hop2, Instr.storeAt, hpv, hxv, Instr.sureAddr, storeVar, sizeOf, typeInfo, hie2, hsz2, hrun]
 refine hdo2.wp (hK _ _ (wpList_nil ?_))
 rw [hd2]
 have hI3 := hP.inv.put (d := some d1) (v := .undef) (x := .pointer (some ⟨b, r.length * tsize cx.P e, none⟩)) (fun t e => by cases e; exact hd1) trivial (TagOK.bare rfl) (.inl fun t e => by cases e; exact hd1v)
 obtain ⟨m4, hI4, _⟩ := keeps_ok (hI3.lives (cx.hint.live id')) untag_fix he
 exact hQ m4 c2 _ _ hI4
theorem late_ok {cx : Cx} (hX : CxOK cx E) (hm : cx.P.follows .mixedOrders = true) {id id' : Nat} {ops ops' : Array Oper} (hO : OpsOK cx E ops.toList) (hO' : OpsOK cx E ops'.toList) (hdr : drawOk0 cx.P cx.hint id ops = true) (hI : InvP cx.hint.vars E m c w g h a) {s' : St}
  (he : evLate cx (tailAt cx.P cx.hint id ops) ops id' ops' (g, h) = some s') {Q : Exit -> Act -> World -> Prop} (hQ : ∀ m' c' w' a', InvP cx.hint.vars E m' c' w' s'.1 s'.2 a' -> Q .normal a' w') :
  ((Code.region id ops true).seq (.region id' ops' false)).wp cx.P Q a w := by
 have hI0 : InvP cx.hint.vars E m c { w with drawn := w.drawn + 1 } g h a := hI.grown (c' := c) none (Nat.le_refl _) (fun b _ _ => ⟨rfl, rfl⟩) (fun b hb => by cases hb) (fun b hb _ h0 => by rw [hI.core.c_zero hb] at h0; omega) rfl rfl rfl
 unfold evLate at he
 split at he
 case h_2 => cases he
 rename_i s1 h1
 unfold evLate1 at he
 split at he
 ·rename_i o o1 o2 hok hl'
  split at he
  ·rename_i cl u tt u1 nn d1 t2 d2 ex hop hdst hop1 hdst1 hop2
   split at he
   ·rename_i x y e du e' hcal hargs htys htt
    split at he
    ·rename_i hcond
     obtain ⟨rfl, rfl, rfl, hdx, hdu, hdn, hun, hux, hg0, hg1, hg2, hd2, hts2, hi2, hie, hks⟩ := hcond
     rw [Option.isNone_iff_eq_none] at hg0 hg1 hg2 hd2
     ·split at he
      ·rename_i r g1 h1' z kk n how hrows hnn
       split at he
       ·rename_i hc
        obtain ⟨rfl, hpart, hlen, hpure, hsto, htz, hsz, hall, hby, hlen2, hnot, hbyt⟩ := hc
        split at he
        ·rename_i s2 hmid
         refine wp_seq (wp_region_any hm ?_)
         unfold drawOk0 at hdr
         split at hdr
         ·rename_i hn; omega
         ·rename_i hn
          simp only [Region.lexTailB, Bool.and_eq_true, decide_eq_true_eq] at hdr
          obtain ⟨⟨⟨⟨hsel, hlt⟩, hs⟩, hcc⟩, hlex⟩ := hdr
          have htl : (ops.toList.take (tailAt cx.P cx.hint id ops)).length = tailAt cx.P cx.hint id ops := by simp; omega
          have hdl : (ops.toList.drop (tailAt cx.P cx.hint id ops)).length = ops.size - tailAt cx.P cx.hint id ops := by simp
          have hany := anyL_lex (cx := cx) (md := .any) (n := tailAt cx.P cx.hint id ops) (gg := ops.size - tailAt cx.P cx.hint id ops) (s' := s1) (fun _ => ⟨hs, hcc⟩) (Nat.le_of_lt hlt) (ops.toList.take (tailAt cx.P cx.hint id ops)) 0 _ (g, h)
           (fun j hj => by rw [List.getElem?_take, if_pos (by omega)]; simp) (by rw [Nat.zero_add, htl]) (headInv0 ops _) (by rw [htl]; exact hlex) h1
          have hcut : ops.toList.drop (tailAt cx.P cx.hint id ops) = o :: ops.toList.drop (tailAt cx.P cx.hint id ops + 1) := by
           have : ops.toList[tailAt cx.P cx.hint id ops]? = some o := by simpa using hok
           exact List.drop_eq_getElem?_toList_append.trans (by rw [this]; rfl)
          have := any_ok hX hO (fun listed m c w a hsq hI' => by
           have hw : wpList cx.P ops (Exit.then (Code.wp cx.P (Code.region id' ops' false) Q) Q) (ops.toList.drop (tailAt cx.P cx.hint id ops)) a w := by
            rw [hcut]
            have hoo := hO o (by rw [<- List.take_append_drop (tailAt cx.P cx.hint id ops) ops.toList, hcut]; simp)
            exact late_tail hX hO hO' hI' hop hdst hop1 hdst1 hop2 hcal hargs htys htt hdx hun hux hg0 hg1 hg2 hd2 hts2 hi2 hie how hrows hnn hpart hlen hpure hsto htz hsz hall hby hlen2 hnot hbyt hoo hl' (fun o' ho' => hO o' (List.mem_of_mem_drop ho')) hmid he hQ
           have := wpAny_of_seq (md := .any) (ops.toList.drop (tailAt cx.P cx.hint id ops)) (tailAt cx.P cx.hint id ops) listed a w (fun j => by rw [List.getElem?_drop]; simp) (by rw [hdl]; exact hsq) hw
           rw [hdl] at this
           exact this) _ _ (g, h) m c _ a hany hI0
          rw [htl, show tailAt cx.P cx.hint id ops + (ops.size - tailAt cx.P cx.hint id ops) = ops.size by omega] at this
          exact this
        ·cases he
       ·cases he
      ·cases he
    ·cases he
   ·cases he
  ·cases he
 ·cases he
end
end Go.Lift
end

section
namespace Go.Lift
variable [GTab] [BTy]
def Ex.to : Ex -> Exit
 | .normal => .normal
 | .exit id => .exit id
 | .ret => .ret
section
variable {m : List Nat} {c : Cl} {w : World} {g : Env} {h : Heap} {a : Act} {E : Entry} {cx : Cx}
theorem opsOK_of {hint : Hint} {nt : Nat} {l : List Oper} (hl : l.all (dstOk hint nt) = true) : ∀ o ∈ l, (∀ t, o.dst = some t -> t < nt) /\ ((∃ x, o.op = .assign x) \/ ∀ t, o.dst = some t -> t ∉ hint.vars) := fun o ho => by
 have := List.all_eq_true.1 hl o ho
 unfold dstOk at this
 cases hd : o.dst with
 | none => exact ⟨fun t e => (by cases e), .inr fun t e => (by cases e)⟩
 | some t =>
  rw [hd] at this
  simp only [Bool.and_eq_true, decide_eq_true_eq, Bool.or_eq_true] at this
  refine ⟨fun u e => by cases e; exact this.1, ?_⟩
  rcases this.2 with h1 | h1
  ·refine .inl ?_
   unfold isAssign at h1
   split at h1
   ·exact ⟨_, by assumption⟩
   ·cases h1
  ·refine .inr fun u e => ?_
   cases e
   simpa using h1
theorem sameX_some {x y : Option (Ex × St)} {r : Ex × St} (h : sameX x y = some r) : x = some r /\ y = some r := by
 unfold sameX at h
 split at h
 ·rename_i e
  obtain rfl := exeq_eq e
  exact ⟨h, h⟩
 ·cases h
theorem sameX_of {r : Ex × St} : sameX (some r) (some r) = some r := by simp [sameX, exeq_refl]
theorem lateOf_spec {P : Program} {hint : Hint} {a : Code} {k id' : Nat} {ops ops' : Array Oper} (h : lateOf P hint a = some (k, ops, id', ops')) : ∃ id, a = .seq (.region id ops true) (.region id' ops' false) /\ k = tailAt P hint id ops /\ hint.mix id = none := by
 unfold lateOf at h
 split at h
 ·rename_i id ops0 id0 ops0'
  split at h
  ·rename_i x hl hm
   simp only [Option.some.injEq, Prod.mk.injEq] at h
   obtain ⟨rfl, rfl, rfl, rfl⟩ := h
   exact ⟨id, rfl, rfl, hm⟩
  ·cases h
 ·cases h
theorem code_ok (hX : CxOK cx E) (hm : cx.P.follows .mixedOrders = true) (k : Nat) : ∀ (b : Code) (m : List Nat) (c : Cl) (w : World) (g : Env) (h : Heap) (a : Act) (e : Ex) (s' : St) (Q : Exit -> Act -> World -> Prop), codeOk cx.P cx.hint E.nt b = true -> InvP cx.hint.vars E m c w g h a ->
  evCode cx (loopN k) b (g, h) = some (e, s') -> (∀ m' c' w' a', InvP cx.hint.vars E m' c' w' s'.1 s'.2 a' -> Q e.to a' w') -> b.wp cx.P Q a w := by
 intro b
 induction b with
 | skip =>
  intro m c w g h a e s' Q _ hI he hQ
  simp only [evCode, Option.some.injEq, Prod.mk.injEq] at he
  obtain ⟨rfl, rfl⟩ := he
  exact wp_skip (hQ m c w a hI)
 | region id ops draw =>
  intro m c w g h a e s' Q hok hI he hQ
  simp only [evCode, Option.map_eq_some_iff, Prod.mk.injEq] at he
  obtain ⟨s1, h1, rfl, rfl⟩ := he
  simp only [codeOk, Bool.and_eq_true, Bool.or_eq_true] at hok
  exact region_ok hX hm (opsOK_of hok.1) (fun hd => by
    subst hd
    rcases hok.2 with h2 | h2
    ·cases h2
    ·exact h2) hI h1 hQ
 | seq x y ihx ihy =>
  intro m c w g h a e s' Q hok hI he hQ
  simp only [codeOk, Bool.and_eq_true] at hok
  simp only [evCode] at he
  refine wp_seq ?_
  split at he
  ·rename_i s1 h1
   exact ihx m c w g h a .normal s1 _ hok.1 hI h1 fun m' c' w' a' hI' => ihy m' c' w' s1.1 s1.2 a' e s' Q hok.2 hI' he hQ
  ·rename_i hne
   cases hr : evCode cx (loopN k) x (g, h) with
   | none => rw [hr] at he; cases he
   | some p =>
    obtain ⟨e1, s1⟩ := p
    rw [hr] at he
    simp only [Option.some.injEq, Prod.mk.injEq] at he
    obtain ⟨rfl, rfl⟩ := he
    refine ihx m c w g h a e1 s1 _ hok.1 hI hr fun m' c' w' a' hI' => ?_
    cases e1 with
    | normal => exact absurd hr (hne s1)
    | exit id => exact hQ m' c' w' a' hI'
    | ret => exact hQ m' c' w' a' hI'
 | cond x p q ihp ihq =>
  intro m c w g h a e s' Q hok hI he hQ
  simp only [codeOk, Bool.and_eq_true] at hok
  simp only [evCode] at he
  split at he
  ·rename_i t ht
   have hv := hI.core.opd x
   rw [ht] at hv
   have hv' : a.eval x = .bool t := hv
   cases t with
   | true => simp only [if_true] at he; exact wp_cond_true hv' (ihp m c w g h a e s' Q hok.1 hI he hQ)
   | false => simp only [Bool.false_eq_true, if_false] at he; exact wp_cond_false hv' (ihq m c w g h a e s' Q hok.2 hI he hQ)
  ·rename_i ht
   have hv := hI.core.opd x
   rw [ht] at hv
   obtain ⟨t, hv'⟩ := hv
   obtain ⟨he1, he2⟩ := sameX_some he
   cases t with
   | true =>
    refine wp_cond_true hv' ?_
    split at he1
    ·rename_i k ops id' ops' hla
     rw [Option.map_eq_some_iff] at he1
     obtain ⟨s1, hs1, hs2⟩ := he1
     simp only [Prod.mk.injEq] at hs2
     obtain ⟨rfl, rfl⟩ := hs2
     obtain ⟨id, rfl, rfl, hmx⟩ := lateOf_spec hla
     have hok1 := hok.1
     simp only [codeOk, Bool.and_eq_true, Bool.or_eq_true] at hok1
     have hdr : drawOk0 cx.P cx.hint id ops = true := by
      have := hok1.1.2
      unfold drawOk at this
      rw [hmx] at this
      simpa using this
     exact late_ok hX hm (opsOK_of hok1.1.1) (opsOK_of hok1.2.1) hdr hI hs1 hQ
    ·exact ihp m c w g h a e s' Q hok.1 hI he1 hQ
   | false => exact wp_cond_false hv' (ihq m c w g h a e s' Q hok.2 hI he2 hQ)
  ·cases he
 | block id p ih =>
  intro m c w g h a e s' Q hok hI he hQ
  simp only [codeOk] at hok
  simp only [evCode] at he
  refine wp_block ?_
  split at he
  ·rename_i j s1 h1
   refine ih m c w g h a (.exit j) s1 _ hok hI h1 fun m' c' w' a' hI' => ?_
   simp only [Ex.to, Exit.inBlock]
   split at he
   ·rename_i hj
    simp only [Option.some.injEq, Prod.mk.injEq] at he
    obtain ⟨rfl, rfl⟩ := he
    rw [if_pos hj]
    exact hQ m' c' w' a' hI'
   ·rename_i hj
    simp only [Option.some.injEq, Prod.mk.injEq] at he
    obtain ⟨rfl, rfl⟩ := he
    rw [if_neg hj]
    exact hQ m' c' w' a' hI'
  ·rename_i hne
   refine ih m c w g h a e s' _ hok hI he fun m' c' w' a' hI' => ?_
   cases e with
   | normal => exact hQ m' c' w' a' hI'
   | exit j => exact absurd he (hne j s')
   | ret => exact hQ m' c' w' a' hI'
 | loop p ih =>
  intro m c w g h a e s' Q hok hI he hQ
  simp only [codeOk] at hok
  simp only [evCode] at he
  refine wp_loop_rounds k ?_
  clear hX
  have key : ∀ (n : Nat) (m : List Nat) (c : Cl) (w : World) (s : St) (a : Act), InvP cx.hint.vars E m c w s.1 s.2 a -> loopN n (evCode cx (loopN k) p) s = some (e, s') -> Code.rounds cx.P p Q n a w := by
   intro n
   induction n with
   | zero => intro m c w s a _ h0; cases h0
   | succ n ihn =>
    intro m c w s a hI h0
    rw [rounds_succ]
    simp only [loopN] at h0
    split at h0
    ·rename_i s1 h1
     exact ih m c w s.1 s.2 a .normal s1 _ hok hI h1 fun m' c' w' a' hI' => ihn m' c' w' s1 a' hI' h0
    ·rename_i hne
     refine ih m c w s.1 s.2 a e s' _ hok hI h0 fun m' c' w' a' hI' => ?_
     cases e with
     | normal => exact absurd h0 (hne s')
     | exit id => exact hQ m' c' w' a' hI'
     | ret => exact hQ m' c' w' a' hI'
  exact key k m c w (g, h) a hI he
 | rangeFunc f ps x y _ _ =>
  intro m c w g h a e s' Q _ _ he _
  cases he
 | exit id =>
  intro m c w g h a e s' Q _ hI he hQ
  simp only [evCode, Option.some.injEq, Prod.mk.injEq] at he
  obtain ⟨rfl, rfl⟩ := he
  exact wp_exit (hQ m c w a hI)
 | scope p ih =>
  intro m c w g h a e s' Q hok hI he hQ
  simp only [codeOk] at hok
  simp only [evCode] at he
  refine wp_scope_straight (ih m c w g h a e s' _ hok hI he fun m' c' w' a' hI' => ?_)
  cases e <;> exact hQ m' c' w' a' hI'
 | label l =>
  intro m c w g h a e s' Q _ hI he hQ
  simp only [evCode, Option.some.injEq, Prod.mk.injEq] at he
  obtain ⟨rfl, rfl⟩ := he
  exact wp_label (hQ m c w a hI)
 | goto l =>
  intro m c w g h a e s' Q _ _ he _
  cases he
 | ret =>
  intro m c w g h a e s' Q _ hI he hQ
  simp only [evCode, Option.some.injEq, Prod.mk.injEq] at he
  obtain ⟨rfl, rfl⟩ := he
  exact wp_ret (hQ m c w a hI)
 | refuse s =>
  intro m c w g h a e s' Q _ _ he _
  cases he
theorem join_le {x y x' y' : Option St} {r : St} (hx : ∀ r, x = some r -> x' = some r) (hy : ∀ r, y = some r -> y' = some r) (h : joinS x y = some r) : joinS x' y' = some r := by
 obtain ⟨s1, s2, rfl, rfl, _, _⟩ := joinS_weak h
 rw [hx s1 rfl, hy s2 rfl]
 exact h
end
end Go.Lift
end

section
namespace Go.Lift
variable [GTab] [BTy]
section
variable {vars : List Nat} {P : Program} {m : List Nat} {c : Cl} {w : World} {g : Env} {h : Heap} {a : Act} {E : Entry}
theorem VRr.noTup {v : V} {x : Value} (hv : VRr m c w v x) (hn : ∀ vs, v ≠ .tup vs) : VR m c w v x := by
 cases v with
 | tup vs => exact absurd rfl (hn vs)
 | _ => exact hv
theorem bare_fzs {v : V} : bare (fzs v) = true := by cases v <;> rfl
def resF (tmps : Array Value) : ResultVar -> Sem Value
 | .tmp t => pure (tmps.getD t undef)
 | .cell b t => do loadVar t (<- asAddr (tmps.getD b undef))
theorem results_eq (fn : Func) (tmps : Array Value) : results fn tmps = (do
  let vs <- fn.results.mapM (resF tmps)
  pure (if h : vs.size = 1 then vs[0] else .tuple vs)) := by
 unfold results
 have : (fun (x : ResultVar) => (match x with | .tmp t => pure (tmps.getD t undef) | .cell a t => do loadVar t (<- asAddr (tmps.getD a undef)) : Sem Value)) = resF tmps := by
  funext r
  cases r <;> rfl
 rw [<- this]
 rfl
theorem res_one (hI : InvP vars E m c w g h a) {r : ResultVar} {v : V} (hr : evRes P (g, h) r = some v) :
  ∃ x, (resF a.tmps r).run P w = .ok x w /\ VR m c w v x /\ bare v = true := by
 cases r with
 | tmp t =>
  simp only [evRes] at hr
  split at hr
  ·cases hr
  ·rename_i hn
   simp only [Option.some.injEq] at hr
   subst hr
   exact ⟨a.tmps.getD t undef, rfl, ((hI.core.env t).noTup hn).fzs, bare_fzs⟩
 | cell b t =>
  simp only [evRes] at hr
  split at hr
  ·rename_i i o hl
   simp only [Option.map_eq_some_iff] at hr
   obtain ⟨u, hu, rfl⟩ := hr
   have he := hI.core.env b
   rw [hl] at he
   obtain ⟨z, hz, hv, _⟩ := loadV_ok (P := P) hI.core he hu
   obtain ⟨gb, hg, hy⟩ := he
   refine ⟨z, ?_, hv.fzs, bare_fzs⟩
   rw [hy] at hz
   simp only [resF, hy]
   simpa [Instr.loadAt, Instr.sureAddr, asAddr] using hz
  ·cases hr
theorem res_list (hI : InvP vars E m c w g h a) : ∀ (rs : List ResultVar) (vs : List V), evResults P (g, h) rs = some vs ->
  ∃ xs : List Value, (rs.mapM (resF a.tmps)).run P w = .ok xs w /\ R2 (VR m c w) vs xs /\ ∀ v ∈ vs, bare v = true
 | [], vs, hr => by
  simp only [evResults, Option.some.injEq] at hr
  subst hr
  exact ⟨[], rfl, R2.nil, fun v hv => by cases hv⟩
 | r :: rs, vs, hr => by
  simp only [evResults] at hr
  split at hr
  ·rename_i x xs h1 h2
   simp only [Option.some.injEq] at hr
   subst hr
   obtain ⟨y, hy, hv, hb⟩ := res_one hI h1
   obtain ⟨ys, hys, hvs, hbs⟩ := res_list hI rs xs h2
   refine ⟨y :: ys, ?_, R2.cons hv hvs, fun v hv => ?_⟩
   ·rw [List.mapM_cons]
    simp only [Sem.run_bind, hy, Result.andThen_ok, hys]
    rfl
   ·rcases List.mem_cons.1 hv with rfl | hv
    ·exact hb
    ·exact hbs v hv
  ·cases hr
theorem res_listR (hI : InvP vars E m c w g h a) : ∀ (rs : List ResultVar) (vs : List V), evResultsR P (g, h) rs = some vs ->
  ∃ xs : List Value, (rs.mapM (resF a.tmps)).run P w = .ok xs w /\ R2 (VR m c w) vs xs /\ ∀ v ∈ vs, bare v = true
 | [], vs, hr => by
  simp only [evResultsR, Option.some.injEq] at hr
  subst hr
  exact ⟨[], rfl, R2.nil, fun v hv => by cases hv⟩
 | r :: rs, vs, hr => by
  simp only [evResultsR] at hr
  split at hr
  ·rename_i x xs h1 h2
   simp only [Option.some.injEq] at hr
   subst hr
   obtain ⟨y, hy, hv, hb⟩ : ∃ y, (resF a.tmps r).run P w = .ok y w /\ VR m c w x y /\ bare x = true := by
    cases r with
    | tmp t =>
     simp only [evResR] at h1
     split at h1
     ·cases h1
     ·rename_i hn
      simp only [Option.some.injEq] at h1
      subst h1
      exact ⟨a.tmps.getD t undef, rfl, ((hI.core.env t).noTup hn).cps, bare_cps _⟩
    | cell b t =>
     simp only [evResR] at h1
     split at h1
     ·rename_i i o hl
      split at h1
      ·rename_i htt
       have he := hI.core.env b
       rw [hl] at he
       obtain ⟨z, hz, hv, _⟩ := loadV_ok (P := P) hI.core he h1
       have hx : ∃ cs, x = .agg cs := by
        simp only [loadV] at h1
        split at h1
        ·rw [htt] at h1
         simp only [takeCells, htt] at h1
         split at h1
         ·cases h1; exact ⟨_, rfl⟩
         ·cases h1
        ·cases h1
       obtain ⟨cs, rfl⟩ := hx
       obtain ⟨gb, hg, hy⟩ := he
       refine ⟨z, ?_, hv, rfl⟩
       rw [hy] at hz
       simp only [resF, hy]
       simpa [Instr.loadAt, Instr.sureAddr, asAddr] using hz
      ·cases h1
     ·cases h1
   obtain ⟨ys, hys, hvs, hbs⟩ := res_listR hI rs xs h2
   refine ⟨y :: ys, ?_, R2.cons hv hvs, fun v hv => ?_⟩
   ·rw [List.mapM_cons]
    simp only [Sem.run_bind, hy, Result.andThen_ok, hys]
    rfl
   ·rcases List.mem_cons.1 hv with rfl | hv
    ·exact hb
    ·exact hbs v hv
  ·cases hr
theorem results_ok (hI : InvP vars E m c w g h a) {fn : Func} {vs : List V} {rr : Bool} (hr : (if rr then evResultsR P (g, h) fn.results.toList else evResults P (g, h) fn.results.toList) = some vs) :
  ∃ x, (results fn a.tmps).run P w = .ok x w /\ VRr m c w (resV vs) x /\ bare (resV vs) = true := by
 obtain ⟨xs, hxs, hv, hb⟩ : ∃ xs : List Value, (fn.results.toList.mapM (resF a.tmps)).run P w = .ok xs w /\ R2 (VR m c w) vs xs /\ ∀ v ∈ vs, bare v = true := by
  cases rr with
  | true => simp only [if_true] at hr; exact res_listR hI _ _ hr
  | false => simp only [Bool.false_eq_true, if_false] at hr; exact res_list hI _ _ hr
 have hrun : (results fn a.tmps).run P w = .ok (if h : xs.toArray.size = 1 then xs.toArray[0] else .tuple xs.toArray) w := by
  rw [results_eq, <- Array.toArray_toList (xs := fn.results), List.mapM_toArray]
  simp only [Sem.run_bind, Sem.run_map, hxs, Result.andThen_ok]
  rfl
 match vs, xs, hv, hb, hrun with
 | [], [], _, _, hrun => exact ⟨_, hrun, ⟨#[], rfl, R2.nil⟩, rfl⟩
 | [v], [x], hv, hb, hrun => exact ⟨x, by simpa using hrun, hv.head.r, hb v (by simp)⟩
 | u :: v :: vs, x :: y :: xs, hv, _, hrun => exact ⟨.tuple (x :: y :: xs).toArray, by simpa using hrun, ⟨_, rfl, by simpa using hv⟩, rfl⟩
 | [], _ :: _, hv, _, _ => simp [R2] at hv
 | [_], [], hv, _, _ => simp [R2] at hv
 | [_], _ :: _ :: _, hv, _, _ => simp [R2] at hv
 | _ :: _ :: _, [], hv, _, _ => simp [R2] at hv
 | _ :: _ :: _, [_], hv, _, _ => simp [R2] at hv
theorem res_bare {s : St} : ∀ (rs : List ResultVar) (vs : List V), evResults P s rs = some vs -> ∀ v ∈ vs, bare v = true
 | [], vs, hr => by
  simp only [evResults, Option.some.injEq] at hr
  subst hr
  exact fun v hv => by cases hv
 | r :: rs, vs, hr => by
  simp only [evResults] at hr
  split at hr
  ·rename_i x xs h1 h2
   simp only [Option.some.injEq] at hr
   subst hr
   have hx : bare x = true := by
    unfold evRes at h1
    split at h1
    ·split at h1
     ·cases h1
     ·simp only [Option.some.injEq] at h1; subst h1; exact bare_fzs
    ·split at h1
     ·simp only [Option.map_eq_some_iff] at h1
      obtain ⟨u, _, rfl⟩ := h1
      exact bare_fzs
     ·cases h1
   exact fun v hv => by
    rcases List.mem_cons.1 hv with rfl | hv
    ·exact hx
    ·exact res_bare rs xs h2 v hv
  ·cases hr
theorem res_bareR {s : St} : ∀ (rs : List ResultVar) (vs : List V), evResultsR P s rs = some vs -> ∀ v ∈ vs, bare v = true
 | [], vs, hr => by
  simp only [evResultsR, Option.some.injEq] at hr
  subst hr
  exact fun v hv => by cases hv
 | r :: rs, vs, hr => by
  simp only [evResultsR] at hr
  split at hr
  ·rename_i x xs h1 h2
   simp only [Option.some.injEq] at hr
   subst hr
   have hx : bare x = true := by
    unfold evResR at h1
    split at h1
    ·split at h1
     ·cases h1
     ·simp only [Option.some.injEq] at h1; subst h1; exact bare_cps _
    ·split at h1
     ·split at h1
      ·rename_i htt
       simp only [loadV] at h1
       split at h1
       ·rw [htt] at h1
        simp only [takeCells, htt] at h1
        split at h1
        ·cases h1; rfl
        ·cases h1
       ·cases h1
      ·cases h1
     ·cases h1
   exact fun v hv => by
    rcases List.mem_cons.1 hv with rfl | hv
    ·exact hx
    ·exact res_bareR rs xs h2 v hv
  ·cases hr
theorem finish_bare {s : St} {fn : Func} {b k : Nat} {rr : Bool} {r : V} {h' : Heap} (hf : finish P fn b k rr s = some (r, h')) : bare r = true := by
 unfold finish at hf
 split at hf
 ·rename_i vs hvs
  split at hf
  ·simp only [Option.some.injEq, Prod.mk.injEq] at hf
   obtain ⟨rfl, _⟩ := hf
   have : ∀ v ∈ vs, bare v = true := by
    cases rr with
    | true => simp only [if_true] at hvs; exact res_bareR _ _ hvs
    | false => simp only [Bool.false_eq_true, if_false] at hvs; exact res_bare _ _ hvs
   match vs, this with
   | [], _ => rfl
   | [v], h1 => exact h1 v (by simp)
   | _ :: _ :: _, _ => rfl
  ·cases hf
 ·cases hf
theorem look_args (args : List V) : ∀ (t : Nat), look (args0 args) t = args.getD t .undef := by
 have key : ∀ (l : List V) (k t : Nat), look ((l.zipIdx k).map fun p => (p.2, p.1)) t = if k <= t then l.getD (t - k) .undef else .undef := by
  intro l
  induction l with
  | nil => intro k t; simp [look]
  | cons x l ih =>
   intro k t
   simp only [List.zipIdx_cons, List.map_cons, look, ih]
   by_cases h : k = t
   ·subst h; simp
   ·by_cases h2 : k <= t
    ·rw [if_neg h, if_pos (by omega), if_pos h2]
     rw [show t - k = (t - (k + 1)) + 1 by omega]
     simp
    ·rw [if_neg h, if_neg (by omega), if_neg h2]
 intro t
 have := key args 0 t
 simpa [args0] using this
theorem start_ok {args : List V} {xs : Array Value} {nt lo : Nat} (hH : HOK m c w h) (hargs : R2 (VRr m c w) args xs.toList) (hb : args.all bare = true) (hn : args.length <= nt) (hlo : lo <= h.length) :
  InvP vars ⟨lo, h.length, w, m, c, hoOf m w h lo, h, nt⟩ m c w (args0 args) h ⟨xs ++ Array.replicate (nt - xs.size) undef, []⟩ := by
 obtain ⟨hC, hold⟩ := hH
 have hbl : ∀ t k r, look (args0 args) t = .list k r -> k = .no := fun t k r ht => by
  rw [look_args] at ht
  by_cases hl : t < args.length
  ·rw [List.getD_eq_getElem?_getD, List.getElem?_eq_getElem hl] at ht
   have := List.all_eq_true.1 hb _ (List.getElem_mem hl)
   simp only [Option.getD_some] at ht
   rw [ht] at this
   cases k <;> simp [bare] at this
   rfl
  ·rw [List.getD_eq_getElem?_getD, List.getElem?_eq_none (by omega)] at ht
   cases ht
 have hAt : ∀ {l r x}, At m w (args0 args) h ⟨xs ++ Array.replicate (nt - xs.size) undef, []⟩ l r x -> At m w [] h act0 l r x := fun {l r x} hl => by
  cases l with
  | slot t => have := hbl t _ r hl.1; cases this
  | cell i j => exact hl
 refine ⟨⟨hC.wf1, hC.wf2, hC.nd, hC.len, fun t => ?_, hC.ob, fun l r x hl => hC.own l r x (hAt hl), fun l l' r r' x x' b h1 h2 => hC.uniq l l' r r' x x' b (hAt h1) (hAt h2), fun t u r ht => (by have := hbl t _ r ht; cases this), fun t i j r ht => (by have := hbl t _ r ht; cases this), hC.gt⟩,
  Fr.refl _ _ _ _ _, fun l r x b hl hu hb' => ?_, rfl, Nat.le_refl _, hC.len, hlo, ?_, rfl, Keeps.refl _ _, hold⟩
 ·rw [look_args]
  by_cases hl : t < args.length
  ·obtain ⟨y, hy, hv⟩ := hargs.get (List.getElem?_eq_getElem hl)
   rw [List.getD_eq_getElem?_getD, List.getElem?_eq_getElem hl, Option.getD_some]
   have hxs : t < xs.size := by have := hargs.1; simp at this; omega
   have : (xs ++ Array.replicate (nt - xs.size) undef).getD t undef = y := by
    rw [Array.getD_eq_getD_getElem?, Array.getElem?_append_left hxs]
    have : xs[t]? = some y := by simpa using hy
    simp [this]
   rw [this]
   exact hv
  ·rw [List.getD_eq_getElem?_getD, List.getElem?_eq_none (by omega)]
   trivial
 ·cases l with
  | slot t => have := hbl t _ r hl.1; cases this
  | cell i j => exact .inr ⟨i, j, r, x, hu, hl, hb'⟩
 ·have := hargs.1
  simp at this ⊢
  omega
theorem finish_ok (hI : InvP vars E m c w g h a) {fn : Func} {r : V} {h' : Heap} {k : Nat} {rr : Bool} (hf : finish P fn E.base k rr (g, h) = some (r, h')) :
  ∃ x m', (results fn a.tmps).run P w = .ok x w /\ VRr m' c w r x /\ bare r = true /\ HOK m' c w h' /\ Fr E.lo E.ho E.w E.m E.c w m' c /\ Owned E.lo E.ho E.w m' w [] h' act0 /\ h' = h.take (E.base + k) /\ E.base + k <= h.length /\ Keeps E.base E.h h' := by
 unfold finish at hf
 split at hf
 ·rename_i vs hvs
  split at hf
  ·rename_i hok
   simp only [Bool.and_eq_true, Bool.or_eq_true, beq_iff_eq, decide_eq_true_eq] at hok
   simp only [Option.some.injEq, Prod.mk.injEq] at hf
   obtain ⟨rfl, rfl⟩ := hf
   obtain ⟨x, hx, hv, hb⟩ := results_ok hI hvs
   have hle : E.base + k <= h.length := by
    rcases hok.2.2 with h0 | h0
    ·have := hI.hlen; omega
    ·exact h0
   have hv' := hv.less (n := E.base + k) hok.1
   have hI2 := (hI.lives (some [])).less (n := E.base + k) (Nat.le_add_right _ _) (fun i cs hcs hbi hin => obs_ok hok.2.1 hcs hbi hin) (fun p hp => by simp [Lift.lives, Lift.untag] at hp)
   refine ⟨x, m.take (E.base + k), hx, hv', hb, hI2.hok, hI2.fr, fun l r y b hl hu hb' => ?_, rfl, hle, hI2.old⟩
   cases l with
   | slot t => exact absurd hl.1 (by simp [look])
   | cell i j => exact hI2.owned (.cell i j) r y b hl hu hb'
  ·cases hf
 ·cases hf
theorem fun_ok {hints : Nat -> Hint} {prim : Nat -> Option (Nat -> List V -> Heap -> Option (V × Heap))} (hm : P.follows .mixedOrders = true)
  (hprim : ∀ f p, prim f = some p -> ∀ lo args h r h', lo <= h.length -> p lo args h = some (r, h') -> CallOK P lo f args h r h') :
  ∀ (n lo f : Nat) (args : List V) (h : Heap) (r : V) (h' : Heap), lo <= h.length -> evFun P hints prim n lo f args h = some (r, h') -> CallOK P lo f args h r h' := by
 intro n
 induction n with
 | zero => intro lo f args h r h' _ he; cases he
 | succ n ih =>
  intro lo f args h r h' hlo he
  simp only [evFun] at he
  split at he
  ·rename_i p hp
   exact hprim f p hp lo args h r h' hlo he
  ·unfold evBody at he
   split at he
   ·rename_i fn hfn
    split at he
    ·rename_i b hb
     split at he
     ·rename_i hck
      simp only [Bool.and_eq_true, decide_eq_true_eq, bne_iff_ne, ne_eq] at hck
      obtain ⟨⟨⟨hco, hle⟩, hba⟩, hname⟩ := hck
      have hX : ∀ m c w, CxOK ⟨P, evFun P hints prim n, lo, h.length, hints f⟩ ⟨lo, h.length, w, m, c, hoOf m w h lo, h, fn.ntmps⟩ := fun m c w =>
       ⟨rfl, rfl, fun lo f args h r h' hl hc => ih lo f args h r h' hl hc⟩
      have hcf : ∀ xs w, (callFunc f xs).run P w = .ok (.enter f xs) w := fun xs w => by
       simp [callFunc, hfn, hname, hb]
      have hend : ∀ (e : Ex) (s : St), (e = .normal \/ e = .ret) -> evCode ⟨P, evFun P hints prim n, lo, h.length, hints f⟩ (loopN n) b (args0 args, h) = some (e, s) -> finish P fn h.length (hints f).ret (hints f).rawr s = some (r, h') -> CallOK P lo f args h r h' := fun e s hes hev hfin => by
       refine ⟨finish_bare hfin, hcf, fun m c w xs hH hargs => ⟨?_, ?_⟩⟩
       ·have hI := start_ok (vars := (hints f).vars) hH hargs hba hle hlo
        have hwp := code_ok (hX m c w) hm n b m c w (args0 args) h _ e s (fun _ _ _ => h.length <= h'.length /\ h'.take lo = h.take lo /\ Keeps h.length h h') hco hI hev fun m' c' w' a' hI' => by
         obtain ⟨_, _, _, _, _, _, _, _, rfl, hbl, hkp⟩ := finish_ok (P := P) hI' hfin
         have hbl' : h.length + (hints f).ret <= s.2.length := hbl
         refine ⟨?_, ?_, hkp⟩
         ·simp only [List.length_take]
          show h.length <= min (h.length + (hints f).ret) s.2.length
          omega
         ·rw [List.take_take, Nat.min_eq_left (show lo <= h.length + (hints f).ret by omega)]
          exact hI'.hlo
        obtain ⟨_, _, _, hq, _⟩ := hwp default [] []
        exact hq
       have hI := start_ok (vars := (hints f).vars) hH hargs hba hle hlo
       refine calls_of_wp hfn hb ?_
       refine code_ok (hX m c w) hm n b m c w (args0 args) h _ e s _ hco hI hev fun m' c' w' a' hI' => ?_
       obtain ⟨x, mm, hx, hv, _, hH', hF, hO, _⟩ := finish_ok (P := P) hI' hfin
       have : bodyPost P fn (fun e w' => ∃ x c' m', e = .returned x /\ VRr m' c' w' r x /\ HOK m' c' w' h' /\ Fr lo (hoOf m w h lo) w m c w' m' c' /\ Owned lo (hoOf m w h lo) w m' w' [] h' act0) .normal a' w' :=
        ⟨hI'.df, x, hx, x, c', mm, rfl, hv, hH', hF, hO⟩
       rcases hes with rfl | rfl
       ·exact this
       ·exact this
      split at he
      ·cases he
      ·rename_i e s hne hs
       cases e with
       | normal => exact hend .normal s (.inl rfl) hs he
       | exit j => exact absurd rfl (hne j)
       | ret => exact hend .ret s (.inr rfl) hs he
      ·cases he
     ·cases he
    ·cases he
   ·cases he
end
end Go.Lift
end

section
namespace Go.Lift
variable [GTab] [BTy]
def CLe (a b : CallF) : Prop := ∀ lo f args h r, a lo f args h = some r -> b lo f args h = some r
def FLe (a b : St -> Option (Ex × St)) : Prop := ∀ s r, a s = some r -> b s = some r
def LLe (a b : LoopF) : Prop := ∀ f g, FLe f g -> FLe (a f) (b g)
section le
variable {P : Program} {call call' : CallF} (hc : CLe call call')
include hc
theorem evEff_le {lo : Nat} {mutc : Bool} {s : St} {op : Op} {r : V × St} (h : evEff P call lo mutc s op = some r) : evEff P call' lo mutc s op = some r := by
 cases op with
 | call c =>
  simp only [evEff] at h ⊢
  split at h
  ·unfold evCall at h ⊢
   split at h
   ·split at h
    ·rename_i hcall
     rw [hc _ _ _ _ _ hcall]
     exact h
    ·cases h
   ·cases h
  ·exact h
  ·cases h
 | makeMap t r => cases r <;> exact h
 | _ => exact h
theorem evOp_le {c : Cx} {s : St} {o : Oper} {r : V × St} (hcc : c.call = call) (h : evOp c s o = some r) : evOp { c with call := call' } s o = some r := by
 unfold evOp at h ⊢
 split at h
 ·rename_i hn
  rw [if_pos hn]
  exact h
 rename_i hn
 rw [if_neg hn]
 split at h
 ·rename_i he
  rw [if_pos he]
  rw [hcc] at h
  exact evEff_le hc h
 ·rename_i he
  rw [if_neg he]
  exact h
theorem evHead_le {c : Cx} {s : St} {o : Oper} {v : V} (hcc : c.call = call) (h : evHead c s o = some v) : evHead { c with call := call' } s o = some v := by
 unfold evHead at h ⊢
 split at h
 ·rename_i he
  rw [if_pos he]
  split at h
  ·split at h
   ·split at h
    ·rw [hcc] at h
     unfold sameH at h ⊢
     split at h
     ·rename_i hp
      simp only [hc _ _ _ _ _ hp]
      exact h
     ·cases h
    ·cases h
   ·cases h
  ·split at h
   ·cases h
   ·rename_i hm
    obtain ⟨p, hp, hv⟩ := Option.map_eq_some_iff.mp h
    rw [if_neg hm]
    rw [hcc] at hp
    exact Option.map_eq_some_iff.mpr ⟨p, evEff_le hc hp, hv⟩
  ·obtain ⟨p, hp, hv⟩ := Option.map_eq_some_iff.mp h
   rw [hcc] at hp
   exact Option.map_eq_some_iff.mpr ⟨p, evEff_le hc hp, hv⟩
  ·cases h
 ·rename_i he
  rw [if_neg he]
  exact h
theorem evOps_le {c : Cx} (hcc : c.call = call) {ops : Array Oper} : ∀ {l : List Oper} {s r : St}, evOps c ops l s = some r -> evOps { c with call := call' } ops l s = some r
 | [], _, _, h => h
 | o :: l, s, r, h => by
  simp only [evOps] at h ⊢
  split at h
  ·split at h
   ·rename_i hop
    simp only [evOp_le hc hcc hop]
    exact evOps_le hcc h
   ·cases h
  ·split at h
   ·cases h
   ·rename_i hna
    rw [if_neg hna]
    exact evOps_le hcc h
  ·cases h
theorem evHeads_le {c : Cx} (hcc : c.call = call) {ops : Array Oper} : ∀ {l : List Oper} {s r : St}, evHeads c ops l s = some r -> evHeads { c with call := call' } ops l s = some r
 | [], _, _, h => h
 | o :: l, s, r, h => by
  simp only [evHeads] at h ⊢
  split at h
  ·split at h
   ·rename_i hop
    simp only [evHead_le hc hcc hop]
    exact evHeads_le hcc h
   ·cases h
  ·split at h
   ·cases h
   ·rename_i hna
    rw [if_neg hna]
    exact evHeads_le hcc h
  ·cases h
theorem stepT_le {c : Cx} (hcc : c.call = call) {mx : Mix} {ops : Array Oper} {k : Nat} {s r : St} (h : stepT c mx ops k s = some r) : stepT { c with call := call' } mx ops k s = some r := by
 unfold stepT at h ⊢
 split at h
 ·cases h
 ·rename_i o ho
  split at h
  ·rename_i hh
   rw [if_pos hh]
   exact evHeads_le hc hcc h
  ·rename_i hh
   rw [if_neg hh]
   split at h
   ·rename_i ht
    rw [if_pos ht]
    exact h
   ·rename_i ht
    rw [if_neg ht]
    exact evOps_le hc hcc h
theorem evT_le {c : Cx} (hcc : c.call = call) {mx : Mix} {id : Nat} {ops : Array Oper} : ∀ {T : Tr} {s r : St}, evT c mx id ops T s = some r -> evT { c with call := call' } mx id ops T s = some r
 | .fin, s, r, h => h
 | .finS _, s, r, h => h
 | .finL _, s, r, h => h
 | .two k, s, r, h => h
 | .head k t, s, r, h => by
  simp only [evT] at h ⊢
  split at h
  ·rename_i h1
   rw [stepT_le hc hcc h1]
   exact evT_le hcc h
  ·cases h
 | .one k t, s, r, h => by
  simp only [evT] at h ⊢
  split at h
  ·rename_i h1
   rw [stepT_le hc hcc h1]
   exact evT_le hcc h
  ·cases h
 | .alt a b, s, r, h => by
  simp only [evT] at h ⊢
  exact join_le (fun r h => evT_le hcc h) (fun r h => evT_le hcc h) h
theorem evLate_le {c : Cx} (hcc : c.call = call) {k id' : Nat} {ops ops' : Array Oper} {s r : St} (h : evLate c k ops id' ops' s = some r) : evLate { c with call := call' } k ops id' ops' s = some r := by
 unfold evLate at h ⊢
 split at h
 ·rename_i s1 h1
  rw [evHeads_le hc hcc h1]
  exact h
 ·cases h
theorem evRegion_le {c : Cx} (hcc : c.call = call) {id : Nat} {ops : Array Oper} {draw : Bool} {s r : St} (h : evRegion c id ops draw s = some r) : evRegion { c with call := call' } id ops draw s = some r := by
 unfold evRegion at h ⊢
 split at h
 ·rename_i s1 h1
  have : (if draw = true then evDraw { c with call := call' } id ops s else evLine { c with call := call' } ops s (c.hint.tail id)) = some s1 := by
   cases draw with
   | false =>
    simp only [Bool.false_eq_true, if_false] at h1 ⊢
    cases ht : c.hint.tail id with
    | none => rw [ht] at h1; exact evOps_le hc hcc h1
    | some k =>
     rw [ht] at h1
     simp only [evLine] at h1 ⊢
     split at h1
     ·rename_i s2 h2
      rw [evOps_le hc hcc h2]
      exact h1
     ·cases h1
   | true =>
    simp only [if_true] at h1 ⊢
    unfold evDraw at h1 ⊢
    split at h1
    ·rename_i hmx
     simp only [hmx]
     unfold evDraw0 at h1 ⊢
     split at h1
     ·rename_i s2 h2
      rw [evHeads_le hc hcc h2]
      exact evOps_le hc hcc h1
     ·cases h1
    ·rename_i mx hmx
     simp only [hmx]
     exact evT_le hc hcc h1
  rw [this]
  exact h
 ·cases h
theorem evCode_le {c : Cx} (hcc : c.call = call) {lp lp' : LoopF} (hl : LLe lp lp') : ∀ (b : Code) (s : St) (r : Ex × St), evCode c lp b s = some r -> evCode { c with call := call' } lp' b s = some r := by
 intro b
 induction b with
 | region id ops draw =>
  intro s r h
  simp only [evCode, Option.map_eq_some_iff] at h ⊢
  obtain ⟨s1, h1, h2⟩ := h
  exact ⟨s1, evRegion_le hc hcc h1, h2⟩
 | seq x y ihx ihy =>
  intro s r h
  simp only [evCode] at h ⊢
  cases hx : evCode c lp x s with
  | none => rw [hx] at h; cases h
  | some p =>
   obtain ⟨e, s1⟩ := p
   rw [hx] at h
   rw [ihx s _ hx]
   cases e with
   | normal => exact ihy s1 r h
   | _ => exact h
 | cond x p q ihp ihq =>
  intro s r h
  simp only [evCode] at h ⊢
  split at h
  ·split at h
   ·rename_i ht
    rw [if_pos ht]
    exact ihp s r h
   ·rename_i ht
    rw [if_neg ht]
    exact ihq s r h
  ·obtain ⟨h1, h2⟩ := sameX_some h
   rw [ihq s r h2]
   split at h1
   ·rename_i k ops id' ops' hla
    rw [Option.map_eq_some_iff] at h1
    obtain ⟨s1, hs1, rfl⟩ := h1
    have := evLate_le hc hcc hs1
    simp only [hla, this, Option.map_some]
    exact sameX_of
   ·rename_i hla
    simp only [hla, ihp s r h1]
    exact sameX_of
  ·cases h
 | block id p ih =>
  intro s r h
  simp only [evCode] at h ⊢
  cases hx : evCode c lp p s with
  | none => rw [hx] at h; cases h
  | some q =>
   rw [hx] at h
   rw [ih s _ hx]
   exact h
 | loop p ih =>
  intro s r h
  simp only [evCode] at h ⊢
  exact hl _ _ ih s r h
 | scope p ih => intro s r h; exact ih s r h
 | skip => intro s r h; exact h
 | exit id => intro s r h; exact h
 | label l => intro s r h; exact h
 | ret => intro s r h; exact h
 | rangeFunc f ps x y _ _ => intro s r h; cases h
 | goto l => intro s r h; cases h
 | refuse w => intro s r h; cases h
theorem evBody_le {hints : Nat -> Hint} {lp lp' : LoopF} (hl : LLe lp lp') {lo f : Nat} {args : List V} {h : Heap} {r : V × Heap} (he : evBody P hints call lp lo f args h = some r) : evBody P hints call' lp' lo f args h = some r := by
 unfold evBody at he ⊢
 split at he
 ·split at he
  ·split at he
   ·rename_i hck
    simp only [hck, if_true]
    split at he
    ·cases he
    ·rename_i hne hs
     rw [evCode_le hc (c := ⟨P, call, lo, h.length, hints f⟩) rfl hl _ _ _ hs]
     split
     ·rename_i heq; cases heq; exact absurd rfl (hne _)
     ·rename_i heq; cases heq; exact he
     ·rename_i heq; cases heq
    ·cases he
   ·cases he
  ·cases he
 ·cases he
end le
theorem loopN_succ {n : Nat} {f : St -> Option (Ex × St)} {s : St} : loopN (n + 1) f s = match f s with
  | some (.normal, s') => loopN n f s'
  | r => r := rfl
theorem loopN_le : ∀ {n k : Nat}, n <= k -> LLe (loopN n) (loopN k)
 | 0, _, _, f, g, _, s, r, h => by cases h
 | n + 1, 0, hn, _, _, _, _, _, _ => by omega
 | n + 1, k + 1, hn, f, g, hfg, s, r, h => by
  simp only [loopN] at h ⊢
  cases hx : f s with
  | none => rw [hx] at h; cases h
  | some p =>
   obtain ⟨e, s1⟩ := p
   rw [hx] at h
   rw [hfg s _ hx]
   cases e with
   | normal => exact loopN_le (by omega) f g hfg s1 r h
   | _ => exact h
theorem evFun_le {P : Program} {hints : Nat -> Hint} {prim : Nat -> Option (Nat -> List V -> Heap -> Option (V × Heap))} : ∀ {n k : Nat}, n <= k -> CLe (evFun P hints prim n) (evFun P hints prim k)
 | 0, _, _, lo, f, args, h, r, he => by cases he
 | n + 1, 0, hn, _, _, _, _, _, _ => by omega
 | n + 1, k + 1, hn, lo, f, args, h, r, he => by
  simp only [evFun] at he ⊢
  split at he
  ·exact he
  ·exact evBody_le (evFun_le (by omega)) (loopN_le (by omega)) he
noncomputable def loopW : LoopF := fun f s =>
 open Classical in if hx : ∃ n r, loopN n f s = some r then some (Classical.choose (Classical.choose_spec hx)) else none
theorem loopW_of {f : St -> Option (Ex × St)} {s : St} {n : Nat} {r : Ex × St} (h : loopN n f s = some r) : loopW f s = some r := by
 have hx : ∃ n r, loopN n f s = some r := ⟨n, r, h⟩
 unfold loopW
 rw [dif_pos hx]
 have h1 := Classical.choose_spec (Classical.choose_spec hx)
 have e1 := loopN_le (Nat.le_max_left (Classical.choose hx) n) f f (fun _ _ h => h) s _ h1
 have e2 := loopN_le (Nat.le_max_right (Classical.choose hx) n) f f (fun _ _ h => h) s _ h
 rw [e1] at e2
 exact e2
theorem loopW_to {f : St -> Option (Ex × St)} {s : St} {r : Ex × St} (h : loopW f s = some r) : ∃ n, loopN n f s = some r := by
 unfold loopW at h
 split at h
 ·rename_i hx
  cases h
  exact ⟨_, Classical.choose_spec (Classical.choose_spec hx)⟩
 ·cases h
theorem loopW_eq (f : St -> Option (Ex × St)) (s : St) : loopW f s = match f s with
  | some (.normal, s') => loopW f s'
  | r => r := by
 cases hx : f s with
 | none =>
  cases hw : loopW f s with
  | none => rfl
  | some r =>
   obtain ⟨n, hn⟩ := loopW_to hw
   cases n with
   | zero => cases hn
   | succ n => simp only [loopN, hx] at hn; cases hn
 | some p =>
  obtain ⟨e, s1⟩ := p
  cases e with
  | normal =>
   simp only
   cases hw : loopW f s1 with
   | some r =>
    obtain ⟨n, hn⟩ := loopW_to hw
    exact loopW_of (n := n + 1) (by simp only [loopN, hx]; exact hn)
   | none =>
    cases hw' : loopW f s with
    | none => rfl
    | some r =>
     obtain ⟨n, hn⟩ := loopW_to hw'
     cases n with
     | zero => cases hn
     | succ n =>
      simp only [loopN, hx] at hn
      rw [loopW_of hn] at hw
      cases hw
  | exit id => exact loopW_of (n := 1) (by simp only [loopN, hx])
  | ret => exact loopW_of (n := 1) (by simp only [loopN, hx])
theorem loopN_W {n : Nat} : LLe (loopN n) loopW := fun f g hfg s r h => loopW_of (loopN_le (Nat.le_refl n) f g hfg s r h)
section ev
variable (P : Program) (hints : Nat -> Hint) (prim : Nat -> Option (Nat -> List V -> Heap -> Option (V × Heap)))
noncomputable def ev : CallF := fun lo f args h =>
 open Classical in if hx : ∃ n r, evFun P hints prim n lo f args h = some r then some (Classical.choose (Classical.choose_spec hx)) else none
variable {P hints prim}
theorem ev_of {n lo f : Nat} {args : List V} {h : Heap} {r : V × Heap} (he : evFun P hints prim n lo f args h = some r) : ev P hints prim lo f args h = some r := by
 have hx : ∃ n r, evFun P hints prim n lo f args h = some r := ⟨n, r, he⟩
 unfold ev
 rw [dif_pos hx]
 have h1 := Classical.choose_spec (Classical.choose_spec hx)
 have e1 := evFun_le (Nat.le_max_left (Classical.choose hx) n) _ _ _ _ _ h1
 have e2 := evFun_le (Nat.le_max_right (Classical.choose hx) n) _ _ _ _ _ he
 rw [e1] at e2
 exact e2
theorem ev_to {lo f : Nat} {args : List V} {h : Heap} {r : V × Heap} (he : ev P hints prim lo f args h = some r) : ∃ n, evFun P hints prim n lo f args h = some r := by
 unfold ev at he
 split at he
 ·rename_i hx
  cases he
  exact ⟨_, Classical.choose_spec (Classical.choose_spec hx)⟩
 ·cases he
theorem ev_chain {lo f : Nat} {args : List V} {h : Heap} {r : V × Heap} (he : ev P hints prim lo f args h = some r) : ∃ N, ∀ n, N <= n -> evFun P hints prim n lo f args h = some r := by
 obtain ⟨N, hN⟩ := ev_to he
 exact ⟨N, fun n hn => evFun_le hn _ _ _ _ _ hN⟩
noncomputable def cxN (P : Program) (hints : Nat -> Hint) (prim : Nat -> Option (Nat -> List V -> Heap -> Option (V × Heap))) (c : Cx) (n : Nat) : Cx := { c with call := evFun P hints prim n }
theorem evEff_cont {lo : Nat} {mutc : Bool} {s : St} {op : Op} {r : V × St} (h : evEff P (ev P hints prim) lo mutc s op = some r) : ∃ N, ∀ n, N <= n -> evEff P (evFun P hints prim n) lo mutc s op = some r := by
 cases op with
 | call c =>
  simp only [evEff] at h ⊢
  split at h
  ·unfold evCall at h ⊢
   split at h
   ·split at h
    ·rename_i hcall
     obtain ⟨N, hN⟩ := ev_chain hcall
     exact ⟨N, fun n hn => by rw [hN n hn]; exact h⟩
    ·cases h
   ·cases h
  ·exact ⟨0, fun _ _ => h⟩
  ·cases h
 | makeMap t r => exact ⟨0, fun _ _ => by cases r <;> exact h⟩
 | _ => exact ⟨0, fun _ _ => h⟩
theorem evOp_cont {c : Cx} (hP : c.P = P) {s : St} {o : Oper} {r : V × St} (h : evOp { c with call := ev P hints prim } s o = some r) : ∃ N, ∀ n, N <= n -> evOp (cxN P hints prim c n) s o = some r := by
 subst hP
 unfold evOp at h
 unfold evOp cxN
 split at h
 ·rename_i hn
  exact ⟨0, fun n _ => by rw [if_pos hn]; exact h⟩
 rename_i hn
 simp only [if_neg hn]
 split at h
 ·rename_i he
  obtain ⟨N, hN⟩ := evEff_cont h
  exact ⟨N, fun n hn => by rw [if_pos he]; exact hN n hn⟩
 ·rename_i he
  exact ⟨0, fun n _ => by rw [if_neg he]; exact h⟩
theorem evHead_cont {c : Cx} (hP : c.P = P) {s : St} {o : Oper} {v : V} (h : evHead { c with call := ev P hints prim } s o = some v) : ∃ N, ∀ n, N <= n -> evHead (cxN P hints prim c n) s o = some v := by
 subst hP
 unfold evHead at h
 unfold evHead cxN
 split at h
 ·rename_i he
  simp only [he, if_true]
  split at h
  ·split at h
   ·split at h
    ·unfold sameH at h
     split at h
     ·rename_i hp
      obtain ⟨N, hN⟩ := ev_chain hp
      exact ⟨N, fun n hn => by simp only [hN n hn, sameH]; exact h⟩
     ·cases h
    ·cases h
   ·cases h
  ·split at h
   ·cases h
   ·rename_i hm
    simp only [Option.map_eq_some_iff] at h ⊢
    obtain ⟨p, hp, rfl⟩ := h
    obtain ⟨N, hN⟩ := evEff_cont hp
    refine ⟨N, fun n hn => ?_⟩
    rw [if_neg hm]
    simp only [Option.map_eq_some_iff]
    exact ⟨p, hN n hn, rfl⟩
  ·simp only [Option.map_eq_some_iff] at h ⊢
   obtain ⟨p, hp, rfl⟩ := h
   obtain ⟨N, hN⟩ := evEff_cont hp
   exact ⟨N, fun n hn => ⟨p, hN n hn, rfl⟩⟩
  ·cases h
 ·rename_i he
  exact ⟨0, fun n _ => by rw [if_neg he]; exact h⟩
theorem evOps_cont {c : Cx} (hP : c.P = P) {ops : Array Oper} : ∀ {l : List Oper} {s r : St}, evOps { c with call := ev P hints prim } ops l s = some r -> ∃ N, ∀ n, N <= n -> evOps (cxN P hints prim c n) ops l s = some r
 | [], _, _, h => ⟨0, fun _ _ => h⟩
 | o :: l, s, r, h => by
  simp only [evOps] at h ⊢
  split at h
  ·rename_i _
   split at h
   ·rename_i hop
    obtain ⟨N, hN⟩ := evOp_cont hP hop
    obtain ⟨K, hK⟩ := evOps_cont hP h
    refine ⟨max N K, fun n hn => ?_⟩
    simp only [hN n (by omega)]
    exact hK n (by omega)
   ·cases h
  ·rename_i _
   split at h
   ·cases h
   ·rename_i hna
    obtain ⟨K, hK⟩ := evOps_cont hP h
    refine ⟨K, fun n hn => ?_⟩
    simp only [if_neg hna]
    exact hK n hn
  ·cases h
theorem evHeads_cont {c : Cx} (hP : c.P = P) {ops : Array Oper} : ∀ {l : List Oper} {s r : St}, evHeads { c with call := ev P hints prim } ops l s = some r -> ∃ N, ∀ n, N <= n -> evHeads (cxN P hints prim c n) ops l s = some r
 | [], _, _, h => ⟨0, fun _ _ => h⟩
 | o :: l, s, r, h => by
  simp only [evHeads] at h ⊢
  split at h
  ·rename_i _
   split at h
   ·rename_i hop
    obtain ⟨N, hN⟩ := evHead_cont hP hop
    obtain ⟨K, hK⟩ := evHeads_cont hP h
    refine ⟨max N K, fun n hn => ?_⟩
    simp only [hN n (by omega)]
    exact hK n (by omega)
   ·cases h
  ·rename_i _
   split at h
   ·cases h
   ·rename_i hna
    obtain ⟨K, hK⟩ := evHeads_cont hP h
    refine ⟨K, fun n hn => ?_⟩
    simp only [if_neg hna]
    exact hK n hn
  ·cases h
theorem stepT_cont {c : Cx} (hP : c.P = P) {mx : Mix} {ops : Array Oper} {k : Nat} {s r : St} (h : stepT { c with call := ev P hints prim } mx ops k s = some r) : ∃ N, ∀ n, N <= n -> stepT (cxN P hints prim c n) mx ops k s = some r := by
 unfold stepT at h ⊢
 split at h
 ·cases h
 ·rename_i o ho
  split at h
  ·rename_i hh
   obtain ⟨N, hN⟩ := evHeads_cont hP h
   exact ⟨N, fun n hn => by rw [if_pos hh]; exact hN n hn⟩
  ·rename_i hh
   split at h
   ·rename_i ht
    exact ⟨0, fun n _ => by rw [if_neg hh, if_pos ht]; exact h⟩
   ·rename_i ht
    obtain ⟨N, hN⟩ := evOps_cont hP h
    exact ⟨N, fun n hn => by rw [if_neg hh, if_neg ht]; exact hN n hn⟩
theorem evT_cont {c : Cx} (hP : c.P = P) {mx : Mix} {id : Nat} {ops : Array Oper} : ∀ {T : Tr} {s r : St}, evT { c with call := ev P hints prim } mx id ops T s = some r -> ∃ N, ∀ n, N <= n -> evT (cxN P hints prim c n) mx id ops T s = some r
 | .fin, s, r, h => ⟨0, fun _ _ => h⟩
 | .finS _, s, r, h => ⟨0, fun _ _ => h⟩
 | .finL _, s, r, h => ⟨0, fun _ _ => h⟩
 | .two k, s, r, h => ⟨0, fun _ _ => h⟩
 | .head k t, s, r, h => by
  simp only [evT] at h
  split at h
  ·rename_i h1
   obtain ⟨N, hN⟩ := stepT_cont hP h1
   obtain ⟨K, hK⟩ := evT_cont hP h
   refine ⟨max N K, fun n hn => ?_⟩
   simp only [evT, hN n (by omega)]
   exact hK n (by omega)
  ·cases h
 | .one k t, s, r, h => by
  simp only [evT] at h
  split at h
  ·rename_i h1
   obtain ⟨N, hN⟩ := stepT_cont hP h1
   obtain ⟨K, hK⟩ := evT_cont hP h
   refine ⟨max N K, fun n hn => ?_⟩
   simp only [evT, hN n (by omega)]
   exact hK n (by omega)
  ·cases h
 | .alt a b, s, r, h => by
  simp only [evT] at h
  obtain ⟨r1, r2, h1, h2, _, _⟩ := joinS_weak h
  obtain ⟨N, hN⟩ := evT_cont hP h1
  obtain ⟨K, hK⟩ := evT_cont hP h2
  refine ⟨max N K, fun n hn => ?_⟩
  simp only [evT, hN n (by omega), hK n (by omega)]
  rw [h1, h2] at h
  exact h
theorem evLate_cont {c : Cx} (hP : c.P = P) {k id' : Nat} {ops ops' : Array Oper} {s r : St} (h : evLate { c with call := ev P hints prim } k ops id' ops' s = some r) : ∃ N, ∀ n, N <= n -> evLate (cxN P hints prim c n) k ops id' ops' s = some r := by
 unfold evLate at h
 split at h
 ·rename_i s1 h1
  obtain ⟨N, hN⟩ := evHeads_cont hP h1
  refine ⟨N, fun n hn => ?_⟩
  unfold evLate
  rw [hN n hn]
  exact h
 ·cases h
theorem evDraw_cont {c : Cx} (hP : c.P = P) {id : Nat} {ops : Array Oper} {s s1 : St} (h1 : evDraw { c with call := ev P hints prim } id ops s = some s1) : ∃ N, ∀ n, N <= n -> evDraw (cxN P hints prim c n) id ops s = some s1 := by
 unfold evDraw at h1
 split at h1
 ·rename_i hmx
  unfold evDraw0 at h1
  split at h1
  ·rename_i s2 h2
   obtain ⟨N, hN⟩ := evHeads_cont hP h2
   obtain ⟨K, hK⟩ := evOps_cont hP h1
   refine ⟨max N K, fun n hn => ?_⟩
   have e1 := hN n (by omega)
   have e2 := hK n (by omega)
   unfold evDraw
   rw [show (cxN P hints prim c n).hint.mix id = none from hmx]
   unfold evDraw0
   exact (congrArg (fun x : Option St => match x with | some s' => evOps (cxN P hints prim c n) ops (ops.toList.drop (tailAt c.P c.hint id ops)) s' | none => none) e1).trans e2
  ·cases h1
 ·rename_i mx hmx
  obtain ⟨N, hN⟩ := evT_cont hP h1
  refine ⟨N, fun n hn => ?_⟩
  unfold evDraw
  rw [show (cxN P hints prim c n).hint.mix id = some mx from hmx]
  exact hN n hn
theorem evRegion_cont {c : Cx} (hP : c.P = P) {id : Nat} {ops : Array Oper} {draw : Bool} {s r : St} (h : evRegion { c with call := ev P hints prim } id ops draw s = some r) : ∃ N, ∀ n, N <= n -> evRegion (cxN P hints prim c n) id ops draw s = some r := by
 unfold evRegion at h
 split at h
 ·rename_i s1 h1
  have : ∃ N, ∀ n, N <= n -> (if draw = true then evDraw (cxN P hints prim c n) id ops s else evLine (cxN P hints prim c n) ops s (c.hint.tail id)) = some s1 := by
   cases draw with
   | false =>
    simp only [Bool.false_eq_true, if_false] at h1 ⊢
    cases ht : c.hint.tail id with
    | none => rw [show ({ c with call := ev P hints prim } : Cx).hint.tail id = none from ht] at h1; exact evOps_cont hP h1
    | some k =>
     rw [show ({ c with call := ev P hints prim } : Cx).hint.tail id = some k from ht] at h1
     simp only [evLine] at h1 ⊢
     split at h1
     ·rename_i s2 h2
      obtain ⟨N, hN⟩ := evOps_cont hP h2
      refine ⟨N, fun n hn => ?_⟩
      rw [hN n hn]
      exact h1
     ·cases h1
   | true =>
    simp only [if_true] at h1 ⊢
    exact evDraw_cont hP h1
  obtain ⟨N, hN⟩ := this
  refine ⟨N, fun n hn => ?_⟩
  unfold evRegion
  rw [show (cxN P hints prim c n).hint.tail id = c.hint.tail id from rfl, hN n hn]
  exact h
 ·cases h
theorem evCode_cont {c : Cx} (hP : c.P = P) : ∀ (b : Code) (s : St) (r : Ex × St), evCode { c with call := ev P hints prim } loopW b s = some r -> ∃ N, ∀ n, N <= n -> evCode (cxN P hints prim c n) (loopN n) b s = some r := by
 intro b
 induction b with
 | region id ops draw =>
  intro s r h
  simp only [evCode, Option.map_eq_some_iff] at h ⊢
  obtain ⟨s1, h1, h2⟩ := h
  obtain ⟨N, hN⟩ := evRegion_cont hP h1
  exact ⟨N, fun n hn => ⟨s1, hN n hn, h2⟩⟩
 | seq x y ihx ihy =>
  intro s r h
  simp only [evCode] at h ⊢
  cases hx : evCode { c with call := ev P hints prim } loopW x s with
  | none => rw [hx] at h; cases h
  | some p =>
   obtain ⟨e, s1⟩ := p
   rw [hx] at h
   obtain ⟨N, hN⟩ := ihx s _ hx
   cases e with
   | normal =>
    obtain ⟨K, hK⟩ := ihy s1 r h
    refine ⟨max N K, fun n hn => ?_⟩
    rw [hN n (by omega)]
    exact hK n (by omega)
   | exit id => exact ⟨N, fun n hn => by rw [hN n hn]; exact h⟩
   | ret => exact ⟨N, fun n hn => by rw [hN n hn]; exact h⟩
 | cond x p q ihp ihq =>
  intro s r h
  simp only [evCode] at h ⊢
  split at h
  ·split at h
   ·rename_i ht
    obtain ⟨N, hN⟩ := ihp s r h
    exact ⟨N, fun n hn => by rw [if_pos ht]; exact hN n hn⟩
   ·rename_i ht
    obtain ⟨N, hN⟩ := ihq s r h
    exact ⟨N, fun n hn => by rw [if_neg ht]; exact hN n hn⟩
  ·obtain ⟨h1, h2⟩ := sameX_some h
   obtain ⟨K, hK⟩ := ihq s r h2
   split at h1
   ·rename_i k ops id' ops' hla
    rw [Option.map_eq_some_iff] at h1
    obtain ⟨s1, hs1, rfl⟩ := h1
    obtain ⟨N, hN⟩ := evLate_cont hP hs1
    exact ⟨max N K, fun n hn => by
     have e1 := hN n (by omega)
     have e2 := hK n (by omega)
     have e3 : lateOf (cxN P hints prim c n).P (cxN P hints prim c n).hint p = some (k, ops, id', ops') := hla
     simp only [e3, e1, e2, Option.map_some]
     exact sameX_of⟩
   ·rename_i hla
    obtain ⟨N, hN⟩ := ihp s r h1
    exact ⟨max N K, fun n hn => by
     have e3 : lateOf (cxN P hints prim c n).P (cxN P hints prim c n).hint p = none := hla
     simp only [e3, hN n (by omega), hK n (by omega)]
     exact sameX_of⟩
  ·cases h
 | block id p ih =>
  intro s r h
  simp only [evCode] at h ⊢
  cases hx : evCode { c with call := ev P hints prim } loopW p s with
  | none => rw [hx] at h; cases h
  | some q =>
   rw [hx] at h
   obtain ⟨N, hN⟩ := ih s _ hx
   exact ⟨N, fun n hn => by rw [hN n hn]; exact h⟩
 | loop p ih =>
  intro s r h
  simp only [evCode] at h ⊢
  obtain ⟨k, hk⟩ := loopW_to h
  clear h
  induction k generalizing s with
  | zero => cases hk
  | succ k ihk =>
   simp only [loopN] at hk
   cases hx : evCode { c with call := ev P hints prim } loopW p s with
   | none => rw [hx] at hk; cases hk
   | some q =>
    obtain ⟨e, s1⟩ := q
    rw [hx] at hk
    obtain ⟨N, hN⟩ := ih s _ hx
    cases e with
    | normal =>
     obtain ⟨K, hK⟩ := ihk s1 hk
     refine ⟨max N K + 1, fun n hn => ?_⟩
     obtain ⟨j, rfl⟩ : ∃ j, n = j + 1 := ⟨n - 1, by omega⟩
     have h2 := hK j (by omega)
     have h3 := loopN_le (Nat.le_refl j) _ (evCode (cxN P hints prim c (j + 1)) (loopN (j + 1)) p)
      (fun s r hr => evCode_le (c := cxN P hints prim c j) (call := evFun P hints prim j) (call' := evFun P hints prim (j + 1)) (evFun_le (by omega)) rfl (loopN_le (by omega)) p s r hr) s1 r h2
     rw [loopN_succ, hN (j + 1) (by omega)]
     exact h3
    | exit id => exact ⟨N + 1, fun n hn => by obtain ⟨j, rfl⟩ : ∃ j, n = j + 1 := ⟨n - 1, by omega⟩; rw [loopN_succ, hN (j + 1) (by omega)]; exact hk⟩
    | ret => exact ⟨N + 1, fun n hn => by obtain ⟨j, rfl⟩ : ∃ j, n = j + 1 := ⟨n - 1, by omega⟩; rw [loopN_succ, hN (j + 1) (by omega)]; exact hk⟩
 | scope p ih => intro s r h; exact ih s r h
 | skip => intro s r h; exact ⟨0, fun _ _ => h⟩
 | exit id => intro s r h; exact ⟨0, fun _ _ => h⟩
 | label l => intro s r h; exact ⟨0, fun _ _ => h⟩
 | ret => intro s r h; exact ⟨0, fun _ _ => h⟩
 | rangeFunc f ps x y _ _ => intro s r h; cases h
 | goto l => intro s r h; cases h
 | refuse w => intro s r h; cases h
theorem evBody_cont {lo f : Nat} {args : List V} {h : Heap} {r : V × Heap} (he : evBody P hints (ev P hints prim) loopW lo f args h = some r) : ∃ n, evBody P hints (evFun P hints prim n) (loopN n) lo f args h = some r := by
 unfold evBody at he
 split at he
 ·rename_i fn hfn
  split at he
  ·rename_i b hb
   split at he
   ·rename_i hck
    split at he
    ·cases he
    ·rename_i e s hne hs
     obtain ⟨N, hN⟩ := evCode_cont (c := ⟨P, ev P hints prim, lo, h.length, hints f⟩) rfl b _ _ hs
     refine ⟨N, ?_⟩
     have := hN N (Nat.le_refl _)
     unfold cxN at this
     unfold evBody
     simp only [hfn, hb, hck, if_true]
     rw [this]
     split
     ·rename_i heq; cases heq; exact absurd rfl (hne _)
     ·rename_i heq; cases heq; exact he
     ·rename_i heq; cases heq
    ·cases he
   ·cases he
  ·cases he
 ·cases he
theorem ev_eq {lo f : Nat} {args : List V} {h : Heap} (hp : prim f = none) : ev P hints prim lo f args h = evBody P hints (ev P hints prim) loopW lo f args h := by
 cases hb : evBody P hints (ev P hints prim) loopW lo f args h with
 | some r =>
  obtain ⟨n, hn⟩ := evBody_cont hb
  exact ev_of (n := n + 1) (by simp only [evFun, hp]; exact hn)
 | none =>
  cases he : ev P hints prim lo f args h with
  | none => rfl
  | some r =>
   obtain ⟨n, hn⟩ := ev_to he
   cases n with
   | zero => cases hn
   | succ n =>
    simp only [evFun, hp] at hn
    have := evBody_le (fun lo f args h r hr => ev_of (n := n) hr) loopN_W hn
    rw [this] at hb
    cases hb
theorem ev_prim {lo f : Nat} {args : List V} {h : Heap} {p : Nat -> List V -> Heap -> Option (V × Heap)} (hp : prim f = some p) : ev P hints prim lo f args h = p lo args h := by
 cases hb : p lo args h with
 | some r => exact ev_of (n := 1) (by simp only [evFun, hp]; exact hb)
 | none =>
  cases he : ev P hints prim lo f args h with
  | none => rfl
  | some r =>
   obtain ⟨n, hn⟩ := ev_to he
   cases n with
   | zero => cases hn
   | succ n => simp only [evFun, hp] at hn; rw [hb] at hn; cases hn
end ev
end Go.Lift
end

section
namespace Go.Lift
open Go.ChangeShapes Go.WideShapes Go.RowKit
mutual
inductive Ty (P : Program) : TypeId -> List V -> Prop
 | bool {t : TypeId} (b : Bool) : P.underlying t = some .bool -> Ty P t [.v (.bool b)]
 | int {t : TypeId} (k : IntKind) (n : Int) : P.underlying t = some (.int k) -> (Lit.int k n).wf = true -> Ty P t [.v (.int k n)]
 | string {t : TypeId} (s : ByteArray) : P.underlying t = some .string -> Ty P t [.v (.string s)]
 | slice {t e : TypeId} (rows : List (List V)) : P.underlying t = some (.slice e) -> (∀ row ∈ rows, Ty P e row) -> Ty P t [.list .no rows]
 | struct {t : TypeId} (fs : Array Field) (cells : List V) : P.underlying t = some (.struct fs) -> TyFs P fs.toList cells -> Ty P t cells
inductive TyFs (P : Program) : List Field -> List V -> Prop
 | nil : TyFs P [] []
 | cons {f : Field} {fs : List Field} {p q : List V} : Ty P f.type p -> TyFs P fs q -> TyFs P (f :: fs) (p ++ q)
end
mutual
def vsize : V -> Nat
 | .v (.string s) => s.size + 1
 | .list _ rows => vsRows rows + 1
 | _ => 1
def vsRow : List V -> Nat
 | [] => 0
 | v :: r => vsize v + vsRow r
def vsRows : List (List V) -> Nat
 | [] => 0
 | r :: rs => vsRow r + vsRows rs
end
theorem vsRow_append (l r : List V) : vsRow (l ++ r) = vsRow l + vsRow r := by
 induction l with
 | nil => simp [vsRow]
 | cons x l ih => simp only [List.cons_append, vsRow, ih]; omega
def fieldsFlat (P : Program) (ts : List Nat) : Nat -> List Field -> Nat -> Bool
 | o, [], n => o == n
 | o, f :: fs, n => ts.contains f.type && f.offset == o && fieldsFlat P ts (o + P.cellsOf f.type) fs n
def plainTy (P : Program) (ts : List Nat) (t : Nat) : Bool := match P.underlying t with
 | some .bool => true
 | some (.int _) => true
 | some .string => true
 | some (.slice e) => ts.contains e && decide (0 < P.cellsOf e)
 | some (.struct fs) => fieldsFlat P ts 0 fs.toList (P.cellsOf t)
 | _ => false
structure IsBulk {H : Type} (B : DataW H -> Nat) (BA : List (DataW H) -> Nat) : Prop where
 nil : BA [] = 0
 cons : ∀ d r, BA (d :: r) = B d + BA r
 str : ∀ b, B (.lit (.string b)) = b.length + 1
 bool : ∀ b, B (.lit (.bool b)) = 1
 int : ∀ k n, B (.lit (.int k n)) = 1
 none : B .nil = 1
 slice : ∀ e s, BA e + 1 <= B (.slice e s)
 agg : ∀ p, B (.agg p) = BA p + 1
theorem bulk_get {H : Type} {B : DataW H -> Nat} {BA : List (DataW H) -> Nat} (hB : IsBulk B BA) : ∀ (l : List (DataW H)) (rows : List (List V)), l.length = rows.length ->
  (∀ (i : Nat) d row, l[i]? = some d -> rows[i]? = some row -> vsRow row <= B d) -> vsRows rows <= BA l
 | [], [], _, _ => by simp [vsRows, hB.nil]
 | d :: l, row :: rows, hl, h => by
  have h0 := h 0 d row rfl rfl
  have h1 := bulk_get hB l rows (by simpa using hl) (fun i d' row' a b => h (i + 1) d' row' (by simpa using a) (by simpa using b))
  simp only [vsRows, hB.cons]
  omega
section
variable {H : Type} {enc : TypeId × Value -> H} {P : Program} {w : World} {c : Cl}
def wholeCl (w : World) : Cl := fun b => match w.heap[b]? with
 | some (.cells arr _ _) => arr.size
 | _ => 0
theorem cell_spot {a : Addr} {x : Value} (h : w.cell? a = some x) : a.spot = none /\ a.off < wholeCl w a.block := by
 unfold World.cell? at h
 unfold wholeCl
 split at h
 ·rename_i arr _ _ hb
  rw [hb]
  split at h
  ·cases h
  ·rename_i hs
   refine ⟨by simpa using hs, ?_⟩
   exact (Array.getElem?_eq_some_iff.1 h).1
 ·cases h
theorem open_fields {B : DataW H -> Nat} {BA : List (DataW H) -> Nat} (hB : IsBulk B BA) {ts : List Nat} {fuel n : Nat} {cs : List Value}
  (ih : ∀ t cs d p, ts.contains t = true -> DataW.trod enc P w 0 (fun _ => true) true fuel t cs = some (d, p) -> ∃ vs, R2 (VP (wholeCl w) w) vs cs /\ Ty P t vs /\ vsRow vs <= B d) :
  ∀ (fs : List Field) (o : Nat) (xs : List (DataW H × List MemPlace)), fieldsFlat P ts o fs n = true -> cs.length = n -> xs.length = fs.length ->
   (∀ (i : Nat) (f : Field), fs[i]? = some f -> DataW.trod enc P w 0 (fun _ => true) true fuel f.type ((cs.drop f.offset).take (P.cellsOf f.type)) = xs[i]?) ->
   (∀ (i : Nat) (f : Field), fs[i]? = some f -> f.offset + P.cellsOf f.type <= n) ->
   ∃ vs, R2 (VP (wholeCl w) w) vs (cs.drop o) /\ TyFs P fs vs /\ vsRow vs <= BA (xs.map (·.1))
 | [], o, xs, hf, hc, hx, _, _ => by
  simp only [fieldsFlat, beq_iff_eq] at hf
  refine ⟨[], ?_, .nil, by simp [vsRow]⟩
  rw [List.drop_eq_nil_of_le (by omega)]
  exact R2.nil
 | f :: fs, o, x :: xs, hf, hc, hx, hg, hin => by
  simp only [fieldsFlat, Bool.and_eq_true, beq_iff_eq] at hf
  obtain ⟨⟨hm, ho⟩, hr⟩ := hf
  have h0 := hg 0 f rfl
  simp only [List.getElem?_cons_zero] at h0
  obtain ⟨p, hp1, hp2, hp3⟩ := ih f.type _ x.1 x.2 hm h0
  obtain ⟨q, hq1, hq2, hq3⟩ := open_fields hB ih fs _ xs hr hc (by simpa using hx) (fun i g h => hg (i + 1) g (by simpa using h)) (fun i g h => hin (i + 1) g (by simpa using h))
  refine ⟨p ++ q, ?_, .cons hp2 hq2, ?_⟩
  ·have : cs.drop o = (cs.drop f.offset).take (P.cellsOf f.type) ++ cs.drop (o + P.cellsOf f.type) := by
    rw [<- ho, <- List.drop_drop, List.take_append_drop]
   rw [this]
   exact hp1.append hq1
  ·rw [vsRow_append, List.map_cons, hB.cons]
   omega
theorem flat_in {ts : List Nat} {n : Nat} : ∀ {fs : List Field} {o : Nat}, fieldsFlat P ts o fs n = true -> o <= n /\ ∀ (i : Nat) (f : Field), fs[i]? = some f -> f.offset + P.cellsOf f.type <= n
 | [], o, h => by
  simp only [fieldsFlat, beq_iff_eq] at h
  exact ⟨by omega, fun i f hf => by simp at hf⟩
 | f :: fs, o, h => by
  simp only [fieldsFlat, Bool.and_eq_true, beq_iff_eq] at h
  obtain ⟨⟨_, ho⟩, hr⟩ := h
  obtain ⟨h1, h2⟩ := flat_in hr
  refine ⟨by omega, fun i g hg => ?_⟩
  cases i with
  | zero => simp at hg; subst hg; omega
  | succ i => exact h2 i g (by simpa using hg)
theorem open_ty {B : DataW H -> Nat} {BA : List (DataW H) -> Nat} (hB : IsBulk B BA) {ts : List Nat} (hts : ts.all (plainTy P ts) = true) :
  ∀ (fuel : Nat) (t : TypeId) (cs : List Value) (d : DataW H) (p : List MemPlace), ts.contains t = true -> DataW.trod enc P w 0 (fun _ => true) true fuel t cs = some (d, p) ->
   ∃ vs, R2 (VP (wholeCl w) w) vs cs /\ Ty P t vs /\ vsRow vs <= B d := by
 intro fuel
 induction fuel with
 | zero => intro t cs d p _ h; simp [DataW.trod] at h
 | succ fuel ih =>
  intro t cs d p ht h
  have hp : plainTy P ts t = true := List.all_eq_true.1 hts t (by simpa using ht)
  unfold plainTy at hp
  split at hp
  ·rename_i hu
   obtain ⟨b, rfl, hx⟩ := DataW.trod_bool hu h
   cases hx
   exact ⟨[.v (.bool b)], .cons (.v _ rfl) .nil, .bool b hu, by simp [vsRow, vsize, hB.bool]⟩
  ·rename_i k hu
   obtain ⟨n, rfl, hx, hw⟩ := DataW.trod_int hu h
   cases hx
   exact ⟨[.v (.int k n)], .cons (.v _ rfl) .nil, .int k n hu hw, by simp [vsRow, vsize, hB.int]⟩
  ·rename_i hu
   obtain ⟨s, rfl, hx, hw⟩ := DataW.trod_string hu h
   cases hx
   refine ⟨[.v (.string s)], .cons (.v _ rfl) .nil, .string s hu, ?_⟩
   rw [hB.str]
   simp [vsRow, vsize]
  ·rename_i e hu
   simp only [Bool.and_eq_true, decide_eq_true_eq] at hp
   rcases DataW.trod_slice hu h with ⟨rfl, hx⟩ | ⟨a, len, cap, elems, rest, n, hn, rfl, hx, _, hl, hm, hlen, hel, _, _⟩
   ·cases hx
    exact ⟨[.list .no []], .cons (.empty _ _ _) .nil, .slice [] hu (by simp), by simp [vsRow, vsize, vsRows, hB.none]⟩
   ·obtain rfl : fuel = n := by omega
    cases hx
    have each : ∀ i : Nat, i < len -> ∃ r : List V × List Value, w.cells? 0 (a.add (i * P.cellsOf e)) (P.cellsOf e) = some r.2 /\ R2 (VP (wholeCl w) w) r.1 r.2 /\ Ty P e r.1 /\
      ∀ y, elems[i]? = some y -> vsRow r.1 <= B y.1 := by
     intro i hi
     have hy := hel i hi
     have hi' : i < elems.length := by omega
     rw [List.getElem?_eq_getElem hi'] at hy
     obtain ⟨cs', h1, h2⟩ := Option.bind_eq_some_iff.1 hy
     obtain ⟨vs, g1, g2, g3⟩ := ih e cs' elems[i].1 elems[i].2 (by simpa using hp.1) h2
     refine ⟨(vs, cs'), h1, g1, g2, fun y hy => ?_⟩
     rw [List.getElem?_eq_getElem hi'] at hy
     cases hy
     exact g3
    have hch : ∃ F : Nat -> List V × List Value, ∀ i, i < len -> w.cells? 0 (a.add (i * P.cellsOf e)) (P.cellsOf e) = some (F i).2 /\ R2 (VP (wholeCl w) w) (F i).1 (F i).2 /\ Ty P e (F i).1 /\
      ∀ y, elems[i]? = some y -> vsRow (F i).1 <= B y.1 := by
     classical
     refine ⟨fun i => if hi : i < len then Classical.choose (each i hi) else ([], []), fun i hi => ?_⟩
     simp only [dif_pos hi]
     exact Classical.choose_spec (each i hi)
    obtain ⟨F, hF⟩ := hch
    have hget : ∀ (i : Nat) (row : List V), ((List.range len).map fun i => (F i).1)[i]? = some row -> i < len /\ row = (F i).1 := by
     intro i row hr
     simp only [List.getElem?_map, Option.map_eq_some_iff] at hr
     obtain ⟨j, hj, rfl⟩ := hr
     obtain ⟨hj1, rfl⟩ := List.getElem?_eq_some_iff.1 hj
     simp at hj1 ⊢
     exact hj1
    have hrows : ∀ row ∈ (List.range len).map fun i => (F i).1, Ty P e row := by
     intro row hr
     simp only [List.mem_map, List.mem_range] at hr
     obtain ⟨i, hi, rfl⟩ := hr
     exact (hF i hi).2.2.1
    have hbulk : vsRow [V.list .no ((List.range len).map fun i => (F i).1)] <= B (DataW.slice (elems.map (·.1)) (rest.map (·.1))) := by
     have := bulk_get hB (elems.map (·.1)) ((List.range len).map fun i => (F i).1) (by simp [hlen]) (fun i d row hd hr => by
      obtain ⟨hi, rfl⟩ := hget i row hr
      simp only [List.getElem?_map, Option.map_eq_some_iff] at hd
      obtain ⟨y, hy, rfl⟩ := hd
      exact (hF i hi).2.2.2 y hy)
     have h9 := hB.slice (elems.map (·.1)) (rest.map (·.1))
     simp only [vsRow, vsize]
     omega
    by_cases h0 : len = 0
    ·subst h0
     exact ⟨[.list .no []], .cons (.empty _ _ _) .nil, .slice [] hu (by simp), by simpa using hbulk⟩
    ·refine ⟨[.list .no ((List.range len).map fun i => (F i).1)], .cons ?_ .nil, .slice _ hu hrows, hbulk⟩
     have hcell : ∀ i j, i < len -> j < P.cellsOf e -> ∃ x, (F i).2[j]? = some x /\ w.cell? ⟨a.block, a.off + i * P.cellsOf e + j, none⟩ = some x /\ a.spot = none /\ a.off + i * P.cellsOf e + j < wholeCl w a.block := by
      intro i j hi hj
      obtain ⟨h1, h2, h3⟩ := World.cells?_some (hF i hi).1
      have hx := h3 j hj
      have hj' : j < (F i).2.length := by omega
      rw [List.getElem?_eq_getElem hj'] at hx
      refine ⟨(F i).2[j], List.getElem?_eq_getElem hj', ?_⟩
      obtain ⟨hs, ho⟩ := cell_spot hx
      have hsp : a.spot = none := by
       obtain ⟨_, _, k3⟩ := World.cells?_some (hF 0 (by omega)).1
       have kx := k3 0 hp.2
       have kj : 0 < (F 0).2.length := by
        obtain ⟨_, k2, _⟩ := World.cells?_some (hF 0 (by omega)).1
        omega
       rw [List.getElem?_eq_getElem kj] at kx
       have := (cell_spot kx).1
       simpa [Addr.add] using this
      have hadr : (a.add (i * P.cellsOf e)).add j = ⟨a.block, a.off + i * P.cellsOf e + j, none⟩ := by
       obtain ⟨ab, ao, as⟩ := a
       simp only at hsp
       subst hsp
       unfold Addr.add
       by_cases e1 : i * P.cellsOf e = 0 <;> by_cases e2 : j = 0 <;> simp [e1, e2, Nat.add_assoc]
      rw [hadr] at hx ho
      exact ⟨hx, hsp, ho⟩
     obtain ⟨x0, _, _, hsp, _⟩ := hcell 0 0 (by omega) hp.2
     have hlen2 : ((List.range len).map fun i => (F i).1).length = len := by simp
     have hrec : ∀ (i j : Nat) (row : List V) (v : V), ((List.range len).map fun i => (F i).1)[i]? = some row -> row[j]? = some v -> j < P.cellsOf e /\ w.cell? ⟨a.block, a.off + i * P.cellsOf e + j, none⟩ = some ((F i).2.getD j default) /\ VP (wholeCl w) w v ((F i).2.getD j default) := by
      intro i j row v hr hv
      obtain ⟨hi, rfl⟩ := hget i row hr
      obtain ⟨_, k2, _⟩ := World.cells?_some (hF i hi).1
      have hj : j < P.cellsOf e := by
       have := (List.getElem?_eq_some_iff.1 hv).1
       rw [(hF i hi).2.1.1] at this
       omega
      obtain ⟨x, hx1, hx2, _, _⟩ := hcell i j hi hj
      have hx3 : (F i).2.getD j default = x := by simp [List.getD, hx1]
      rw [hx3]
      exact ⟨hj, hx2, (hF i hi).2.1.2 j v x hv hx1⟩
     have key := VP.list (c := wholeCl w) (w := w) .no ((List.range len).map fun i => (F i).1) a cap (P.cellsOf e) (fun i j => (F i).2.getD j default)
      (by intro he; have := congrArg List.length he; simp at this; omega) hp.2 hsp (by rw [hlen2]; exact hl)
      (by
       rw [hlen2]
       obtain ⟨_, _, _, _, hb⟩ := hcell (len - 1) (P.cellsOf e - 1) (by omega) (by omega)
       have e1 : len * P.cellsOf e = (len - 1) * P.cellsOf e + P.cellsOf e := by
        rw [<- Nat.succ_mul, show (len - 1).succ = len by omega]
       omega)
      (fun i row hr => by
       obtain ⟨hi, rfl⟩ := hget i row hr
       obtain ⟨_, k2, _⟩ := World.cells?_some (hF i hi).1
       rw [(hF i hi).2.1.1]; omega)
      (fun i j row v hr hv => (hrec i j row v hr hv).2.1) (fun i j row v hr hv => (hrec i j row v hr hv).2.2)
     rw [hlen2] at key
     exact key
  ·rename_i fs hu
   obtain ⟨xs, n, hn, hx, hcs, hxs, hg⟩ := DataW.trod_struct hu h
   obtain rfl : fuel = n := by omega
   cases hx
   obtain ⟨vs, h1, h2, h3⟩ := open_fields hB ih fs.toList 0 xs hp hcs (by simpa using hxs) (fun i f hf => hg i f (by simpa using hf)) (flat_in hp).2
   refine ⟨vs, by simpa using h1, .struct fs vs hu h2, ?_⟩
   rw [hB.agg]
   omega
  ·cases hp
def TyV (P : Program) (t : TypeId) (v : V) : Prop := match P.underlying t with
 | some (.struct _) => ∃ cs, v = .agg cs /\ Ty P t cs
 | _ => Ty P t [v]
theorem VP.vr0 {m : List Nat} {v : V} {x : Value} (h : VP c w v x) : VR0 m c w v x := by
 cases h with
 | v x h => rfl
 | nil => rfl
 | empty k ao cap => exact .empty k ao cap
 | list k rows a cap sz xs h1 h2 h3 h4 h5 h6 h7 h8 => exact .list k rows a cap sz xs h1 h2 h3 h4 h5 h6 h7 h8
theorem VP.vr1 {m : List Nat} {v : V} {x : Value} (h : VP c w v x) : VR1 m c w v x := by
 have h0 := h.vr0 (m := m)
 cases h with
 | v x h => exact h0
 | nil => exact h0
 | empty k ao cap => exact h0
 | list k rows a cap sz xs h1 h2 h3 h4 h5 h6 h7 h8 => exact h0
theorem VP.vrr {m : List Nat} {v : V} {x : Value} (h : VP c w v x) : VRr m c w v x := by
 have h0 := h.vr0 (m := m)
 cases h with
 | v x h => exact h0
 | nil => exact h0
 | empty k ao cap => exact h0
 | list k rows a cap sz xs h1 h2 h3 h4 h5 h6 h7 h8 => exact h0
def asize : V -> Nat
 | .agg cs => vsRow cs
 | v => vsize v
def asizes : List V -> Nat
 | [] => 0
 | v :: r => asize v + asizes r
end
end Go.Lift
end

section
namespace Go.Lift
open Go.ChangeShapes Go.WideShapes Go.RowKit
def TysV (P : Program) : List TypeId -> List V -> Prop
 | [], [] => True
 | t :: ts, v :: vs => TyV P t v /\ TysV P ts vs
 | _, _ => False
theorem size1 (v : V) (h : ∀ cs, v ≠ .agg cs) : asize v = vsRow [v] := by
 cases v with
 | agg cs => exact absurd rfl (h cs)
 | _ => simp [asize, vsRow]
section
variable {H : Type} {enc : TypeId × Value -> H} {P : Program} {w : World}
theorem r2_one {c : Cl} {vs : List V} {y : Value} (h : R2 (VP c w) vs [y]) : ∃ v, vs = [v] /\ VP c w v y := by
 match vs, h.1 with
 | [v], _ => exact ⟨v, rfl, h.head⟩
theorem open_arg {B : DataW H -> Nat} {BA : List (DataW H) -> Nat} (hB : IsBulk B BA) {ts : List Nat} (hts : ts.all (plainTy P ts) = true) {t : TypeId} {y : Value} {d : DataW H} {p : List MemPlace}
  (ht : ts.contains t = true) (hok : Value.okWide P w .any 0 t y) (h : DataW.Trod enc P w 0 (fun _ => true) true t y d p) :
  ∃ v, VRr [] (wholeCl w) w v y /\ TyV P t v /\ asize v <= B d := by
 obtain ⟨fuel, hf⟩ := h
 obtain ⟨vs, h1, h2, h3⟩ := open_ty hB hts fuel t _ d p ht hf
 have hp : plainTy P ts t = true := List.all_eq_true.1 hts t (by simpa using ht)
 have one : (∀ xs, y ≠ .agg xs) -> (∀ fs, P.underlying t ≠ some (.struct fs)) -> ∃ v, VRr [] (wholeCl w) w v y /\ TyV P t v /\ asize v <= B d := by
  intro hy hn
  have : y.cells.toList = [y] := by
   cases y with
   | agg xs => exact absurd rfl (hy xs)
   | _ => rfl
  rw [this] at h1
  obtain ⟨v, rfl, hv⟩ := r2_one h1
  refine ⟨v, hv.vrr, ?_, ?_⟩
  ·unfold TyV
   split
   ·rename_i fs he
    exact absurd he (hn fs)
   ·exact h2
  ·rw [size1]
   ·exact h3
   ·intro cs hc
    subst hc
    cases hv
 unfold plainTy at hp
 split at hp
 ·rename_i hu
  obtain ⟨b, rfl⟩ := okWide_bool hu hok
  exact one (fun _ h => by cases h) (fun fs h => by rw [hu] at h; cases h)
 ·rename_i k hu
  obtain ⟨b, rfl⟩ := okWide_int hu hok
  exact one (fun _ h => by cases h) (fun fs h => by rw [hu] at h; cases h)
 ·rename_i hu
  obtain ⟨b, rfl⟩ := okWide_string hu hok
  exact one (fun _ h => by cases h) (fun fs h => by rw [hu] at h; cases h)
 ·rename_i e hu
  obtain ⟨a, len, cap, rfl⟩ := okWide_slice hu hok
  exact one (fun _ h => by cases h) (fun fs h => by rw [hu] at h; cases h)
 ·rename_i fs hu
  obtain ⟨xs, rfl, _⟩ := okWide_struct hu hok
  refine ⟨.agg vs, ⟨xs, rfl, h1.mono fun _ _ hv => hv.vr1⟩, ?_, h3⟩
  unfold TyV
  rw [hu]
  exact ⟨vs, rfl, h2⟩
 ·cases hp
theorem open_args {B : DataW H -> Nat} {BA : List (DataW H) -> Nat} (hB : IsBulk B BA) {ts : List Nat} (hts : ts.all (plainTy P ts) = true) :
  ∀ {us : List TypeId} {ys : List Value} {ds : List (DataW H)} {p : List MemPlace}, us.all ts.contains = true -> (∀ (j : Nat) t v, us[j]? = some t -> ys[j]? = some v -> Value.okWide P w .any 0 t v) ->
   DataW.TrodAll enc P w 0 (fun _ => true) true us ys ds p -> ∃ vs, R2 (VRr [] (wholeCl w) w) vs ys /\ TysV P us vs /\ asizes vs <= BA ds
 | [], ys, ds, p, _, _, h => by
  obtain ⟨rfl, rfl, rfl⟩ := trodAll_nil h
  exact ⟨[], R2.nil, trivial, by simp [asizes]⟩
 | u :: us, ys, ds, p, hu, hok, h => by
  obtain ⟨y, ys', d, ds', a, b, rfl, rfl, rfl, h1, h2⟩ := trodAll_cons h
  simp only [List.all_cons, Bool.and_eq_true] at hu
  obtain ⟨v, v1, v2, v3⟩ := open_arg hB hts hu.1 (hok 0 u y rfl rfl) h1
  obtain ⟨vs, w1, w2, w3⟩ := open_args hB hts hu.2 (fun j t x hj hx => hok (j + 1) t x (by simpa using hj) (by simpa using hx)) h2
  refine ⟨v :: vs, R2.cons v1 w1, ⟨v2, w2⟩, ?_⟩
  simp only [asizes, hB.cons]
  omega
variable [GTab] [BTy]
def GOK (w : World) : Prop := ∀ n cs, GTab.tab n = some cs -> ROs (wholeCl w) w ⟨n, 0, none⟩ cs
theorem whole_hok (w : World) (hG : GOK w) : HOK [] (wholeCl w) w [] := by
 refine ⟨⟨?_, ?_, List.nodup_nil, rfl, ?_, ?_, ?_, ?_, ?_, ?_, hG⟩, ?_⟩
 ·intro b hb
  unfold wholeCl at hb ⊢
  split at hb
  ·rename_i arr e f he
   exact ⟨arr, e, f, he, by simp⟩
  ·cases hb
 ·intro b hb; cases hb
 ·intro t; trivial
 ·intro i o b ho; simp at ho
 ·intro l r x hl
  cases l with
  | slot t => exact absurd hl.1 (by simp [look])
  | cell i j => obtain ⟨os, b, ho, _⟩ := hl; simp [cellsOfOb] at ho
 ·intro l l' r r' x x' b hl
  cases l with
  | slot t => exact absurd hl.1 (by simp [look])
  | cell i j => obtain ⟨os, b, ho, _⟩ := hl; simp [cellsOfOb] at ho
 ·intro t u r ht; simp [look] at ht
 ·intro t i j r ht; simp [look] at ht
 ·intro i cs hi; simp [cellsOfOb] at hi
theorem call_of {hints : Nat -> Hint} {prim : Nat -> Option (Nat -> List V -> Heap -> Option (V × Heap))} (hm : P.follows .mixedOrders = true)
  (hprim : ∀ f p, prim f = some p -> ∀ lo args h r h', lo <= h.length -> p lo args h = some (r, h') -> CallOK P lo f args h r h')
  {f : Nat} {vs : List V} {x : Value} {args : Array Value} (hG : GOK w) (he : ev P hints prim 0 f vs [] = some (.v x, [])) (ha : R2 (VRr [] (wholeCl w) w) vs args.toList) :
  Calls P f args w fun e w' => e = .returned x /\ Below w.heap.size w w' := by
 obtain ⟨n, hn⟩ := ev_to he
 have hc := fun_ok hm hprim n 0 f vs [] (.v x) [] (Nat.le_refl _) hn
 obtain ⟨_, hcall⟩ := hc.2.2 [] (wholeCl w) w args (whole_hok w hG) ha
 refine hcall.mono fun e w' ⟨y, c', m', h1, h2, _, h4, _⟩ => ?_
 obtain rfl : y = x := h2
 refine ⟨h1, h4.os, h4.tape, h4.output, h4.size, fun k hk => (h4.fix k hk (fun i _ h => by simp at h) ?_).1⟩
 rintro ⟨i, j, r, z, _, hl, _⟩
 obtain ⟨os, b, ho, _⟩ := hl
 simp [cellsOfOb] at ho
theorem post_of_below {f : Func} {s : ChangeSpec} {apart fresh handsOn again : Bool} {W W' : World} {args : Array Value} {v : Value} {ds gs : List (DataW H)} {before pa pv : List MemPlace}
  (hW : DataW.Whole enc P f.params.toList s.vars apart W args.toList ds gs before)
  (hres : ∀ (b : Nat) (sp : Nat -> Bool) (hd : Bool), DataW.TrodAll enc P W' b sp hd f.resultTypes.toList (v.resultList f.resultTypes.size) (s.fn H (ds ++ gs)).results [])
  (hargs : DataW.TrodAll enc P W' 0 (fun b => decide (b < W.heap.size)) true f.params.toList args.toList (s.fn H (ds ++ gs)).args pa)
  (hargs2 : DataW.TrodAll enc P W' 0 (fun _ => true) true f.params.toList args.toList (s.fn H (ds ++ gs)).args pa)
  (hvars : ∀ sp : Nat -> Bool, (∀ p ∈ before, sp p.block = true) -> DataW.TrodVars enc P W' sp s.vars (s.fn H (ds ++ gs)).vars pv)
  (hps : before = pa ++ pv) (hb : Below W.heap.size W W')
  (hok : ∀ (j : Nat) (t : TypeId) (r : Value), f.resultTypes[j]? = some t -> (v.resultList f.resultTypes.size)[j]? = some r -> Value.okWide P W' .any 0 t r) :
  s.post enc P f apart fresh handsOn again W args v W' := by
 have hold : ∀ p ∈ before, (fun b => decide (b < W.heap.size)) p.block = true := fun p hp => by simpa using hW.lt p hp
 refine ⟨ds, gs, before, [], pa, pv, hW, hres _ _ _, hargs, hvars _ hold, World.keptBut_mono (fun p hp => ⟨hp, ?_⟩) (hb.frame _), fun _ => ?_⟩
 ·rw [hps, List.mem_append] at hp
  exact Or.inr hp
 ·have hlt := hW.lt
  obtain ⟨_, _, _, _, _, hz, hn⟩ := hW
  refine ⟨hok, _, _, ([] ++ pa) ++ pv, ⟨[] ++ pa, pv, trodAll_append hargs2 (hres _ _ _), hvars _ (fun _ _ => rfl), rfl, ?_, ?_⟩, ?_⟩
  ·intro b off hp
   have hm : MemPlace.cell b off ∈ before := by rw [hps]; simpa using hp
   rw [hb.frozen (p := ⟨b, off, none⟩) (show b < W.heap.size from hlt _ hm)]
   exact hz b off hm
  ·intro ha
   have := hn ha
   rw [hps] at this
   simpa using this
  ·intro p hp _
   rw [hps]
   simpa using hp
theorem trod_stays {t : TypeId} (hl : laidOutB P = true) (hr : P.readableRec t = true) (hrow : t < P.types.size) {W W' : World} {v : Value} {d : DataW H} {ps : List MemPlace}
  (h : DataW.Trod enc P W 0 (fun _ => true) true t v d ps) (hb : Below W.heap.size W W') (hlt : ∀ x ∈ ps, x.block < W.heap.size) (sp : Nat -> Bool) (hsp : ∀ x ∈ ps, sp x.block = true) :
  DataW.Trod enc P W' 0 sp true t v d ps :=
 WideElems.Trod_stays hl hr hrow h (fun x hx => hb.same (hlt x hx)) (fun x hx => by simpa using hsp x hx)
theorem trodAll_stays (hl : laidOutB P = true) {W W' : World} (hb : Below W.heap.size W W') :
  ∀ {us : List TypeId} {ys : List Value} {ds : List (DataW H)} {p : List MemPlace}, us.all (fun t => P.readableRec t && decide (t < P.types.size)) = true ->
   DataW.TrodAll enc P W 0 (fun _ => true) true us ys ds p -> (∀ x ∈ p, x.block < W.heap.size) -> ∀ (sp : Nat -> Bool), (∀ x ∈ p, sp x.block = true) -> DataW.TrodAll enc P W' 0 sp true us ys ds p
 | [], ys, ds, p, _, h, _, sp, _ => by
  obtain ⟨rfl, rfl, rfl⟩ := trodAll_nil h
  rfl
 | u :: us, ys, ds, p, hu, h, hlt, sp, hsp => by
  obtain ⟨y, ys', d, ds', a, b, rfl, rfl, rfl, h1, h2⟩ := trodAll_cons h
  simp only [List.all_cons, Bool.and_eq_true, decide_eq_true_eq] at hu
  exact ⟨a, b, trod_stays hl hu.1.1 hu.1.2 h1 hb (fun x hx => hlt x (by simp [hx])) sp (fun x hx => hsp x (by simp [hx])),
   trodAll_stays hl hb (by simpa using hu.2) h2 (fun x hx => hlt x (by simp [hx])) sp (fun x hx => hsp x (by simp [hx])), rfl⟩
theorem law_of {hints : Nat -> Hint} {prim : Nat -> Option (Nat -> List V -> Heap -> Option (V × Heap))} (hm : P.follows .mixedOrders = true)
  (hprim : ∀ f p, prim f = some p -> ∀ lo args h r h', lo <= h.length -> p lo args h = some (r, h') -> CallOK P lo f args h r h')
  {B : DataW H -> Nat} {BA : List (DataW H) -> Nat} (hB : IsBulk B BA) {ts : List Nat} (hts : ts.all (plainTy P ts) = true) {fn : Func} {f bt N : Nat}
  (hin : fn.params.toList.all ts.contains = true) (hrd : fn.params.toList.all (fun t => P.readableRec t && decide (t < P.types.size)) = true) (hlaid : laidOutB P = true)
  (hrt : fn.resultTypes = #[bt]) (hbt : P.underlying bt = some .bool)
  {s : ChangeSpec} (hv : s.vars = []) (hs : ∀ l : List (DataW H), l.length = fn.params.size -> s.fn H l = { results := [.lit (.bool true)], args := l })
  (he : ∀ vs, TysV P fn.params.toList vs -> asizes vs <= N -> ev P hints prim 0 f vs [] = some (.v (.bool true), []))
  {W : World} (hG : GOK W) {args : Array Value} {ds gs : List (DataW H)} {before : List MemPlace} {fresh handsOn again : Bool}
  (hval : ∀ (j : Nat) t v, fn.params[j]? = some t -> args[j]? = some v -> Value.okWide P W .any 0 t v)
  (hW : DataW.Whole enc P fn.params.toList s.vars false W args.toList ds gs before) (hk : BA (ds ++ gs) <= N) :
  Calls P f args W fun e W' => ∃ v, e = .returned v /\ s.post enc P fn false fresh handsOn again W args v W' := by
 have hW' := hW
 have hlt := hW.lt
 obtain ⟨p, q, hA, hV, rfl, hfz, hnd⟩ := hW
 rw [hv] at hV
 obtain ⟨rfl, rfl⟩ := trodVars_none hV
 simp only [List.append_nil] at hW' hk hlt
 obtain ⟨vs, h1, h2, h3⟩ := open_args hB hts hin (fun j t v hj hx => hval j t v (by simpa using hj) (by simpa using hx)) hA
 refine (call_of hm hprim hG (he vs h2 (by omega)) h1).mono fun e W' ⟨he, hb⟩ => ?_
 subst he
 refine ⟨_, rfl, ?_⟩
 have hlen : ∀ {us : List TypeId} {ys : List Value} {ds : List (DataW H)} {p : List MemPlace}, DataW.TrodAll enc P W 0 (fun _ => true) true us ys ds p -> ds.length = us.length := by
  intro us
  induction us with
  | nil => intro ys ds p h; obtain ⟨rfl, rfl, rfl⟩ := trodAll_nil h; rfl
  | cons u us ih =>
   intro ys ds p h
   obtain ⟨y, ys', d, ds', a, b, rfl, rfl, rfl, h1, h2⟩ := trodAll_cons h
   simp [ih h2]
 have hs' := hs ds (by simpa using hlen hA)
 refine post_of_below (gs := []) (pa := p) (pv := []) hW' ?_ ?_ ?_ ?_ (by simp) hb ?_
 ·intro b sp hd
  rw [List.append_nil, hs', hrt]
  exact trodAll_mk1 (shut_bool hbt _)
 ·rw [List.append_nil, hs']
  exact trodAll_stays hlaid hb hrd hA hlt _ (fun x hx => by simpa using hlt x hx)
 ·rw [List.append_nil, hs']
  exact trodAll_stays hlaid hb hrd hA hlt _ (fun x hx => rfl)
 ·intro sp _
  rw [List.append_nil, hs', hv]
  rfl
 ·exact ok_one hrt rfl (okWide_bool_mk hbt _)
end
end Go.Lift
end
