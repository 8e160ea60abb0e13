/- The lifting, tenth part: the operations that turn the state, each for itself. -/
import Derived.Test.YtedlleekcinbcaaLiftI
namespace Go.Lift
set_option linter.unusedVariables false
set_option linter.unusedSimpArgs false
set_option linter.unusedSectionVars false
variable [GTab]

/-- the operation yields x, or nothing -/
def Does (P : Program) (w : World) (a : Act) (o : Oper) (x : Value) (w' : World) : Prop :=
  (execOp a.eval o).run P w = .ok (.value x) w' ∨ ((execOp a.eval o).run P w = .ok .skip w' ∧ x = undef)

theorem does_of {P : Program} {w w' : World} {a : Act} {o : Oper} {s : Sem Value} {x : Value} (he : execOp a.eval o = (do pure (Next.value (← s)))) (hs : s.run P w = .ok x w') : Does P w a o x w' := by
  refine .inl ?_
  rw [he, Sem.run_bind, hs]
  rfl

section
variable {P : Program} {vars : List Nat} {m : List Nat} {c : Cl} {w : World} {g : Env} {h : Heap} {a : Act} {E : Entry}

/-- what each lemma of this part says -/
def Done (P : Program) (vars : List Nat) (E : Entry) (w : World) (a : Act) (o : Oper) (v : V) (g' : Env) (h' : Heap) : Prop :=
  ∃ x w' m' c', Does P w a o x w' ∧ InvP vars E m' c' w' (put o.dst v g') h' (a.put o.dst x)

theorem At_release {u : Nat} {q r : List (List V)} {l : Loc} {x : Value} (hl : At m w (Lift.untag (Lift.ins u (.list .no q) g)) h a l r x) : l ≠ .slot u ∧ At m w g h a l r x := by
  cases l with
  | slot t =>
    obtain ⟨h1, h2⟩ := hl
    rw [look_untag, untag1_yes, look_ins] at h1
    split at h1
    · cases h1
    · rename_i ht
      exact ⟨fun e => ht (by cases e; rfl), h1, h2⟩
  | cell i j => exact ⟨fun e => (by cases e), hl⟩

theorem At_untag {r : List (List V)} {l : Loc} {x : Value} (hl : At m w (Lift.untag g) h a l r x) : At m w g h a l r x := by
  cases l with
  | slot t => exact ⟨untag1_yes.1 (by rw [← look_untag]; exact hl.1), hl.2⟩
  | cell i j => exact hl

theorem noTagC (t i j : Nat) (r : List (List V)) : look (untag g) t ≠ .list (.cell i j) r := fun ht => by
  rw [look_untag] at ht; have := untag1_tag ht; simp at this

theorem noYes_cps (v : V) (r : List (List V)) : V.list .yes r ∉ cellsV (cps v) := by
  cases v with
  | agg cs =>
    simp only [cps, cellsV, List.mem_map, not_exists, not_and]
    intro x _ hx
    cases x <;> simp [cp] at hx
  | _ => simp [cps, cp, cellsV]
theorem noYes_ofC (y : Value) (r : List (List V)) : V.list .yes r ∉ cellsV (ofC y) := by
  have h1 : ∀ z, ofC1 z ≠ .list .yes r := fun z hz => by
    unfold ofC1 at hz
    split at hz
    · cases hz
    · split at hz <;> cases hz
    · cases hz
  unfold ofC
  split
  · simp only [cellsV, List.mem_map, not_exists, not_and]
    intro z _
    exact h1 z
  · have : ∀ z, cellsV (ofC1 z) = [ofC1 z] := fun z => by
      unfold ofC1
      split
      · rfl
      · split <;> rfl
      · rfl
    rw [this]
    simp only [List.mem_singleton]
    exact fun e => h1 _ e.symm

/-- what is taken over: a value that is bare, the state without marks; or an owner, and the state without it -/
theorem takeO_spec (hI : InvP vars E m c w g h a) (x : Operand) :
    (bare (takeO g x).1 = true ∧ VRr m c w (takeO g x).1 (a.eval x) ∧ (takeO g x).2 = g ∧ ∀ r, V.list .yes r ∉ cellsV (takeO g x).1) ∨
    (∃ t r, x = .tmp t ∧ look g t = .list .yes r ∧ (takeO g x).1 = .list .yes r ∧ (takeO g x).2 = Lift.ins t (.list .no r) g ∧ VRr m c w (.list .yes r) (a.eval x) ∧ At m w g h a (.slot t) r (a.eval x)) := by
  cases x with
  | tmp t =>
    have he := hI.core.env t
    cases hl : look g t with
    | list k r =>
      cases k with
      | yes =>
        right
        rw [hl] at he
        exact ⟨t, r, rfl, hl, by simp [takeO, hl], by simp [takeO, hl], he, hl, rfl⟩
      | _ =>
        left
        rw [hl] at he
        simp only [takeO, hl]
        exact ⟨rfl, VRr.cps he, trivial, noYes_cps (.list _ r)⟩
    | _ =>
      left
      rw [hl] at he
      simp only [takeO, hl]
      exact ⟨bare_cps _, VRr.cps he, trivial, noYes_cps _⟩
  | const v => exact .inl ⟨bare_ofC v, hI.core.opd (.const v), rfl, noYes_ofC v⟩
  | global n =>
    refine .inl ⟨?_, hI.core.opd (.global n), rfl, fun r => ?_⟩
    · simp only [takeO, opd]
      split <;> rfl
    · simp only [takeO, opd]
      split <;> simp [cellsV]
  | func f => exact .inl ⟨rfl, hI.core.opd (.func f), rfl, fun r => by simp [takeO, opd, cellsV]⟩

theorem InvP.putBare {E : Entry} (hI : InvP vars E m c w g h a) {d : Option Nat} {v : V} {x : Value} (hd : ∀ t, d = some t → t < E.nt) (hv : VRr m c w v x) (hb : bare v = true)
    (hno : (∀ t, d = some t → t ∉ vars) ∨ (∀ t' u r, look g t' ≠ .list (.slot u) r)) : InvP vars E m c w (Lift.put d v g) h (a.put d x) :=
  hI.put hd hv (TagOK.bare hb) (hno.imp id fun h1 => ⟨h1, hb⟩)

theorem InvP.putOwn {E : Entry} (hI : InvP vars E m c w g h a) {d : Option Nat} {r : List (List V)} {x : Value} (hd : ∀ t, d = some t → t < E.nt) (hv : VRr m c w (.list .yes r) x)
    (ho : OwnB m c w r x) (hu : ∀ l r' x' b, At m w g h a l r' x' → ownBlk x = some b → ownBlk x' ≠ some b) (hE : ∀ b, ownBlk x = some b → E.w.heap.size ≤ b ∨ E.ho b)
    (hno : (∀ t, d = some t → t ∉ vars) ∨ (∀ t' u r, look g t' ≠ .list (.slot u) r)) : InvP vars E m c w (Lift.put d (.list .yes r) g) h (a.put d x) := by
  cases d with
  | none => exact hI
  | some t =>
    refine hI.ins (hd t rfl) hv (fun q e => ?_) (fun u q e => (by cases e)) (fun i j q e => (by cases e)) (hno.imp (fun h1 => h1 t rfl) id)
    cases e
    exact ⟨⟨ho, fun l r' x' b _ hl hb => hu l r' x' b hl hb⟩, hE⟩

theorem eff_assign (hI : InvP vars E m c w g h a) {o : Oper} {x : Operand} (ho : o.op = .assign x) (hd : ∀ t, o.dst = some t → t < E.nt) :
    Done P vars E w a o (own1 (takeO g x).1) (Lift.untag (takeO g x).2) h := by
  have hr : Does P w a o (a.eval x) w := .inl (by simp [execOp, ho])
  rcases takeO_spec hI x with ⟨hb, hv, hg, hny⟩ | ⟨t, r, rfl, hl, h1, h2, hv, hat⟩
  · rw [hg]
    by_cases hn : (takeO g x).1 = .nil
    · rw [hn] at hv ⊢
      have hv' : a.eval x = .slice none 0 0 := hv
      rw [hv'] at hr
      exact ⟨_, _, m, c, hr, hI.untag.putOwn hd (.empty _ _ _) (.inl ⟨rfl, rfl⟩) (fun _ _ _ _ _ hb => by cases hb) (fun _ hb => by cases hb) (.inr fun t u r => noTags t u r)⟩
    · have : own1 (takeO g x).1 = (takeO g x).1 := by cases hq : (takeO g x).1 <;> first | rfl | exact absurd hq hn
      rw [this]
      exact ⟨_, _, m, c, hr, hI.untag.putBare hd hv hb (.inr fun t u r => noTags t u r)⟩
  · rw [h1, h2]
    refine ⟨_, _, m, c, hr, (hI.release hl).putOwn hd hv (hI.core.own _ _ _ hat) (fun l r' x' b hl' hb hb' => ?_) (fun b hb => hI.owned _ _ _ b hat trivial hb) (.inr fun t u r => noTags t u r)⟩
    obtain ⟨n1, hl''⟩ := At_release hl'
    exact n1 (hI.core.uniq l (.slot t) r' r x' _ b hl'' hat hb' hb)

/-- a new object: its cells, its block -/
theorem grow_cells (hI : InvP vars E m c w g h a) {cs : List V} {arr : Array Value} {e : TypeId} {f : Nat × Nat} {w' : World} (hw : w'.heap = w.heap.push (.cells arr e f)) (hos : w'.os = w.os) (htape : w'.tape = w.tape) (hout : w'.output = w.output)
    (hf : ∀ j, j < cs.length → ¬ (f.1 ≤ j ∧ j < f.2)) (hle : cs.length ≤ arr.size) (hrel : ∀ (j : Nat) v x, cs[j]? = some v → arr[j]? = some x → VR1 m c w v x ∧ x.oneCell' = true)
    (hno : ∀ (j : Nat) (r : List (List V)), cs[j]? = some (.list .yes r) → r = [] ∧ arr[j]? = some (.slice none 0 0)) : InvP vars E (m ++ [w.heap.size]) c w' g (h ++ [.cells cs]) a := by
  have hnew : w'.heap[w.heap.size]? = some (.cells arr e f) := by rw [hw]; simp
  have hold : ∀ b, b < w.heap.size → w'.heap[b]? = w.heap[b]? := fun b hb => by rw [hw, Array.getElem?_push]; simp [show ¬ b = w.heap.size by omega]
  have hext : Ext c w c w' := ⟨fun _ => Nat.le_refl _, fun b o ho => by
    rcases Nat.lt_or_ge b w.heap.size with hb | hb
    · exact cell_of_heap (hold b hb) o
    · rw [hI.core.c_zero hb] at ho; omega⟩
  refine hI.grow ⟨by rw [hw]; simp, hold, fun _ _ => rfl, fun b hb h0 => ?_, fun b hb => ?_, by simp, rfl, fun i o b ho hb => ?_, Nat.le_refl _, fun i cs' j r b ho hj hb => ?_, hos, htape, hout⟩
  · rw [hI.core.c_zero hb] at h0; omega
  · simp at hb; subst hb; exact ⟨Nat.le_refl _, hI.core.c_zero (Nat.le_refl _)⟩
  · cases i with
    | zero =>
      simp at ho hb
      subst ho; subst hb
      refine ⟨arr, e, f, hnew, hle, fun j hj => ?_, fun j v x hv hx => ⟨(hrel j v x hv hx).1.mono (Pre.append m _) hext, (hrel j v x hv hx).2⟩⟩
      have := hf j hj
      simp only [World.frozen?, hnew]
      simpa using this
    | succ i => simp at ho
  · cases i with
    | zero =>
      simp at ho hb
      subst ho; subst hb
      obtain ⟨k1, k2⟩ := hno j r hj
      refine ⟨k1, ?_⟩
      simp only [World.cell?, hnew]
      simpa using k2
    | succ i => simp at ho

theorem new_ptr {w' : World} (hl : m.length = h.length) : VRr (m ++ [w.heap.size]) c w' (.ptr h.length 0) (.pointer (some ⟨w.heap.size, 0, none⟩)) :=
  ⟨w.heap.size, by rw [← hl]; simp, rfl⟩

theorem VR1.own1 {v : V} {x : Value} (hv : VR1 m c w v x) : VR1 m c w (Lift.own1 v) x := by
  cases v with
  | nil => have : x = .slice none 0 0 := hv; subst this; exact VP.empty _ _ _
  | _ => exact hv
/-- cells as they are kept -/
theorem own_cells1 {cs : List V} {xs : List Value} (hr : R2 (VR1 m c w) cs xs) (hno : ∀ r, V.list .yes r ∉ cs) : R2 (VR1 m c w) (cs.map Lift.own1) xs ∧
    ∀ (j : Nat) (r : List (List V)), (cs.map Lift.own1)[j]? = some (.list .yes r) → r = [] ∧ xs[j]? = some (.slice none 0 0) := by
  refine ⟨by simpa using hr.map (g := id) fun _ _ h => VR1.own1 h, fun j r hj => ?_⟩
  simp only [List.getElem?_map, Option.map_eq_some_iff] at hj
  obtain ⟨v, hv, he⟩ := hj
  obtain ⟨y, hy, hvy⟩ := hr.get hv
  cases v with
  | nil =>
    have : y = .slice none 0 0 := hvy
    subst this
    simp [Lift.own1] at he
    exact ⟨he, hy⟩
  | list k q =>
    simp only [Lift.own1] at he
    cases he
    exact absurd (List.mem_of_getElem? hv) (hno r)
  | _ => simp [Lift.own1] at he

theorem stoOk_oneCell {v : V} {x : Value} (hv : VR1 m c w v x) (hs : stoOk v = true) : x.oneCell' = true := by
  cases v with
  | v z => have : x = z := hv; subst this; exact hs
  | nil => have : x = .slice none 0 0 := hv; subst this; rfl
  | list k r => exact VP.oneCell hv
  | ptr b o => obtain ⟨g, hg, rfl⟩ := hv; rfl
  | rp cs => obtain ⟨ad, rfl, _⟩ := hv; rfl
  | buf b o n => obtain ⟨g, cap, hg, rfl, _⟩ := hv; rfl
  | agg cs => cases hs
  | tup vs => cases hs
  | fn f cs => obtain ⟨xs, rfl, _⟩ := hv; rfl
  | undef => cases hs

theorem eff_alloc (hI : InvP vars E m c w g h a) {o : Oper} {t : TypeId} {z : List Value} (ho : o.op = .alloc t) (hz : tzero P t = some z) (hs : (z.map ofC1).all stoOk = true) (hd : ∀ t, o.dst = some t → t < E.nt) (hv : ∀ t, o.dst = some t → t ∉ vars) :
    Done P vars E w a o (.ptr h.length 0) g (h ++ [.cells ((z.map ofC1).map own1)]) := by
  obtain ⟨zv, hzv, rfl⟩ := tzero_spec (w := w) hz
  have hrel := ofC1_cells (m := m) (c := c) (w := w) zv
  obtain ⟨hrel1, hno⟩ := own_cells1 hrel (fun r hr => by
    obtain ⟨y, _, hy⟩ := List.mem_map.1 hr
    unfold ofC1 at hy
    split at hy
    · cases hy
    · split at hy <;> cases hy
    · cases hy)
  have hone : ∀ (j : Nat) x, zv.cells[j]? = some x → x.oneCell' = true := fun j x hx => by
    have hx' : zv.cells.toList[j]? = some x := by simpa using hx
    have hj : (zv.cells.toList.map ofC1)[j]? = some (ofC1 x) := by simp [hx]
    exact stoOk_oneCell (hrel.2 j _ _ hj hx') (List.all_eq_true.1 hs _ (List.mem_of_getElem? hj))
  have hI' := grow_cells hI (cs := (zv.cells.toList.map ofC1).map own1) (arr := zv.cells) (e := t) (f := (0, 0)) (w' := { w with heap := w.heap.push (.cells zv.cells t) }) rfl rfl rfl rfl (fun j _ => by simp) (by simp)
    (fun j v x hv hx => ⟨hrel1.2 j v x hv (by simpa using hx), hone j x hx⟩) (fun j r hj => by simpa using hno j r hj)
  refine ⟨_, _, _, _, does_of (s := Instr.alloc t true (.tuple #[])) (by simp [execOp, ho]) (x := .pointer (some ⟨w.heap.size, 0, none⟩)) (w' := { w with heap := w.heap.push (.cells zv.cells t) }) ?_, hI'.putBare hd (new_ptr hI.core.len) rfl (.inl hv)⟩
  simp [Instr.alloc, hzv, newVar, newRow]

theorem eff_box (hI : InvP vars E m c w g h a) {o : Oper} {t : TypeId} {x : Operand} (ho : o.op = .box t x) (hp : partOk (cps (opd g x)) = true) (hs : (cellsV (cps (opd g x))).all stoOk = true) (hd : ∀ t, o.dst = some t → t < E.nt) (hv : ∀ t, o.dst = some t → t ∉ vars) :
    Done P vars E w a o (.ptr h.length 0) g (h ++ [.cells ((cellsV (cps (opd g x))).map own1)]) := by
  have hx := (hI.core.opd x).cps
  have hrel := cells_rel hx hp
  obtain ⟨hrel1, hno⟩ := own_cells1 hrel (fun r hr => noYes_cps _ r hr)
  have hone : ∀ (j : Nat) y, (a.eval x).cells[j]? = some y → y.oneCell' = true := fun j y hy => by
    have hy' : (a.eval x).cells.toList[j]? = some y := by simpa using hy
    have hj : j < (cellsV (cps (opd g x))).length := by rw [hrel.1]; exact (List.getElem?_eq_some_iff.1 hy').1
    exact stoOk_oneCell (hrel.2 j _ _ (List.getElem?_eq_getElem hj) hy') (List.all_eq_true.1 hs _ (List.getElem_mem hj))
  have hI' := grow_cells hI (cs := (cellsV (cps (opd g x))).map own1) (arr := (a.eval x).cells) (e := t) (f := (0, 0)) (w' := { w with heap := w.heap.push (.cells (a.eval x).cells t) }) rfl rfl rfl rfl (fun j _ => by simp) (by have := hrel.1; simp at this ⊢; omega)
    (fun j v y hv hy => ⟨hrel1.2 j v y hv (by simpa using hy), hone j y hy⟩) (fun j r hj => by simpa using hno j r hj)
  refine ⟨_, _, _, _, does_of (s := Instr.box t (a.eval x)) (by simp [execOp, ho]) (x := .pointer (some ⟨w.heap.size, 0, none⟩)) (w' := { w with heap := w.heap.push (.cells (a.eval x).cells t) }) ?_, hI'.putBare hd (new_ptr hI.core.len) rfl (.inl hv)⟩
  simp [Instr.box, newVar, newRow]

theorem getElem?_splice {α : Type} {l vs : List α} {o j : Nat} (hb : o + vs.length ≤ l.length) :
    (l.take o ++ vs ++ l.drop (o + vs.length))[j]? = if o ≤ j ∧ j < o + vs.length then vs[j - o]? else l[j]? := by
  have ho : (l.take o).length = o := by simp; omega
  by_cases h1 : j < o
  · rw [if_neg (by omega), List.append_assoc, List.getElem?_append_left (by omega), List.getElem?_take, if_pos h1]
  · by_cases h2 : j < o + vs.length
    · rw [if_pos ⟨by omega, h2⟩, List.getElem?_append_left (by simp; omega), List.getElem?_append_right (by omega), ho]
    · rw [if_neg (by omega), List.getElem?_append_right (by simp; omega), List.getElem?_drop]
      congr 1
      simp only [List.length_append, ho]
      omega

theorem setCells_spec (b : Nat) : ∀ (vs : List Value) (o : Nat) (w : World) (arr : Array Value) (e : TypeId) (f : Nat × Nat), w.heap[b]? = some (.cells arr e f) → o + vs.length ≤ arr.size →
    (w.setCells b o vs).heap.size = w.heap.size ∧ (∀ k, k ≠ b → (w.setCells b o vs).heap[k]? = w.heap[k]?) ∧ (w.setCells b o vs).os = w.os ∧ (w.setCells b o vs).tape = w.tape ∧ (w.setCells b o vs).output = w.output ∧
    ∃ arr' : Array Value, (w.setCells b o vs).heap[b]? = some (.cells arr' e f) ∧ arr'.toList = arr.toList.take o ++ vs ++ arr.toList.drop (o + vs.length)
  | [], o, w, arr, e, f, hw, hb => ⟨rfl, fun _ _ => rfl, rfl, rfl, rfl, arr, hw, by simp⟩
  | v :: vs, o, w, arr, e, f, hw, hb => by
    simp only [List.length_cons] at hb
    have hset : (w.setCell ⟨b, o, none⟩ v).heap[b]? = some (.cells (arr.setIfInBounds o v) e f) := by
      simp [World.setCell, Array.getElem?_modify, hw]
    obtain ⟨h1, h2, h3, h4, h5, arr', h6, h7⟩ := setCells_spec b vs (o + 1) (w.setCell ⟨b, o, none⟩ v) _ e f hset (by simp; omega)
    refine ⟨by rw [World.setCells, h1]; simp [World.setCell], fun k hk => ?_, h3, h4, h5, arr', h6, ?_⟩
    · rw [World.setCells, h2 k hk]
      simp [World.setCell, Array.getElem?_modify, Ne.symm hk]
    · rw [h7]
      have hlt : o < arr.toList.length := by simp; omega
      simp only [Array.toList_setIfInBounds, List.length_cons]
      rw [List.take_succ_eq_append_getElem (by simpa using hlt), List.getElem_set_self, List.take_set_of_le (by omega), List.drop_set_of_lt (by omega)]
      simp only [List.append_assoc, List.cons_append, List.nil_append]
      rw [show o + 1 + vs.length = o + (vs.length + 1) by omega]

theorem cell_arr {b j : Nat} {arr : Array Value} {e : TypeId} {f : Nat × Nat} (hw : w.heap[b]? = some (.cells arr e f)) : w.cell? ⟨b, j, none⟩ = arr[j]? := by
  simp [World.cell?, hw]

/-- cells of an object are written -/
theorem store_cells (hI : InvP vars E m c w g h a) {i gb off : Nat} {cs vs : List V} {ys : List Value} (jf : Nat) (hcs : cellsOfOb h i = some cs) (hm : m[i]? = some gb) (hlo : E.lo ≤ i)
    (hb : off + vs.length ≤ cs.length) (hr : R2 (VR1 m c w) vs ys) (hone : ∀ y ∈ ys, y.oneCell' = true)
    (hown : ∀ (j : Nat) r x, vs[j]? = some (.list .yes r) → ys[j]? = some x → (r = [] ∧ x = .slice none 0 0) ∨ off + j = jf ∧ OwnB m c w r x ∧ (∀ l r' x' b, At m w g h a l r' x' → ownBlk x = some b → ownBlk x' ≠ some b) ∧ ∀ b, ownBlk x = some b → E.w.heap.size ≤ b ∨ E.ho b)
    (hjf : off ≤ jf ∧ jf < off + vs.length ∨ cs.length ≤ jf)
    (hnt : ∀ t i j r, look g t ≠ .list (.cell i j) r) (hok : ∀ v ∈ vs, okv (i + 1) v = true) :
    InvP vars E m c (w.setCells gb off ys) g (Lift.setOb h i (cs.take off ++ vs ++ cs.drop (off + vs.length))) a ∧
    (storeCells ⟨gb, off, none⟩ ys).run P w = .ok () (w.setCells gb off ys) := by
  have hcs0 : h[i]? = some (.cells cs) := by
    unfold cellsOfOb at hcs
    split at hcs
    · rename_i h0; cases hcs; exact h0
    · cases hcs
  obtain ⟨arr, e, f, hw, hle, hfr, hall⟩ := hI.core.ob i _ gb hcs0 hm
  have hlen : ys.length = vs.length := hr.1.symm
  obtain ⟨h1, h2, h3, h4, h5, arr', h6, h7⟩ := setCells_spec gb ys off w arr e f hw (by omega)
  have hc0 : c gb = 0 := hI.core.wf2 gb (List.mem_of_getElem? hm)
  have hext : Ext c w c (w.setCells gb off ys) := ⟨fun _ => Nat.le_refl _, fun b o ho => by
    by_cases hb' : b = gb
    · rw [hb', hc0] at ho; omega
    · exact cell_of_heap (h2 b hb') o⟩
  have hget : ∀ j, arr'[j]? = if off ≤ j ∧ j < off + vs.length then ys[j - off]? else arr[j]? := fun j => by
    rw [← Array.getElem?_toList, h7, getElem?_splice (by simp; omega), hlen]
    simp
  have hgetc : ∀ j, (cs.take off ++ vs ++ cs.drop (off + vs.length))[j]? = if off ≤ j ∧ j < off + vs.length then vs[j - off]? else cs[j]? := fun j => getElem?_splice hb
  have hsize : arr'.size = arr.size := by
    have := congrArg List.length h7
    simp only [Array.length_toList, List.length_append, List.length_take, List.length_drop] at this
    omega
  have hlen' : (cs.take off ++ vs ++ cs.drop (off + vs.length)).length = cs.length := by simp; omega
  refine ⟨hI.setOb (w' := w.setCells gb off ys) jf hlo hm h1 h2 h3 h4 h5 ?_ ?_ hnt ?_, ?_⟩
  · refine ⟨arr', e, f, h6, by rw [hlen', hsize]; exact hle, fun j hj => ?_, fun j v x hv hx => ?_⟩
    · rw [hlen'] at hj
      have := hfr j hj
      simp only [World.frozen?, hw, h6] at this ⊢
      exact this
    · rw [hgetc] at hv
      rw [hget] at hx
      split at hv
      · rename_i hj
        rw [if_pos hj] at hx
        exact ⟨(hr.2 _ v x hv hx).mono (Pre.refl m) hext, hone x (List.mem_of_getElem? hx)⟩
      · rename_i hj
        rw [if_neg hj] at hx
        exact ⟨(hall j v x hv hx).1.mono (Pre.refl m) hext, (hall j v x hv hx).2⟩
  · intro cs' j r x hcs' hj hx
    cases hcs'
    rw [cell_arr h6, hget] at hx
    rw [hgetc] at hj
    split at hj
    · rename_i hjb
      rw [if_pos hjb] at hx
      rcases hown (j - off) r x hj hx with h0 | ⟨k1, k2, k3, k4⟩
      · exact .inl h0
      · exact .inr ⟨fun hne => absurd (by omega) hne, fun _ => ⟨k2, fun l r' x' b hl _ hb => k3 l r' x' b hl hb, k4⟩⟩
    · rename_i hjb
      rw [if_neg hjb] at hx
      refine .inr ⟨fun _ => ⟨cs, gb, hcs, hj, hm, by rw [cell_arr hw]; exact hx⟩, fun hjj => ?_⟩
      have := (List.getElem?_eq_some_iff.1 hj).1
      omega
  · intro cs' hcs' v hv
    cases hcs'
    rw [List.mem_append, List.mem_append] at hv
    rcases hv with (hv | hv) | hv
    · exact hI.old i cs hcs v (List.mem_of_mem_take hv)
    · exact hok v hv
    · exact hI.old i cs hcs v (List.mem_of_mem_drop hv)
  · have := run_storeCells_cells (P := P) gb off ys 0 w (fun j hj => by
        rw [cell_arr hw]
        have : off + j < arr.size := by omega
        simp [this]) (fun j hj => hfr _ (by omega)) hone
    simpa using this

theorem cellsV_own1s (v : V) : cellsV (own1s v) = (cellsV v).map own1 := by
  cases v <;> rfl
theorem okv_own1s {n : Nat} {v : V} (hv : okv n v = true) : ∀ u ∈ cellsV (own1s v), okv n u = true := by
  intro u hu
  rw [cellsV_own1s, List.mem_map] at hu
  obtain ⟨y, hy, rfl⟩ := hu
  have hy' : okv n y = true := by
    cases v with
    | agg ds =>
      have := List.all_eq_true.1 hv y hy
      cases y <;> first | exact this | (simp [okc] at this)
    | _ =>
      simp only [cellsV, List.mem_singleton] at hy
      subst hy
      exact hv
  cases y <;> first | rfl | exact hy'

theorem eff_store (hI : InvP vars E m c w g h a) {o : Oper} {t : TypeId} {p x : Operand} {i off : Nat} {cs : List V} (ho : o.op = .store t p x) (hp : opd g p = .ptr i off) (hcs : cellsOfOb h i = some cs)
    (hc : E.lo ≤ i ∧ off + tsize P t ≤ cs.length ∧ (cellsV (takeO g x).1).length = tsize P t ∧ (P.info? t).isSome ∧ ((cellsV (takeO g x).1).all stoOk = true) ∧ okv (i + 1) (takeO g x).1 = true)
    (hd : ∀ t, o.dst = some t → t < E.nt) :
    Done P vars E w a o (.v undef) (Lift.untag (takeO g x).2) (Lift.setOb h i (cs.take off ++ cellsV (own1s (takeO g x).1) ++ cs.drop (off + tsize P t))) := by
  obtain ⟨c1, c2, c3, c4, c5, c6⟩ := hc
  obtain ⟨gb, hm, hpv⟩ := (by have := hI.core.opd p; rw [hp] at this; exact this : ∃ gb, m[i]? = some gb ∧ a.eval p = .pointer (some ⟨gb, off, none⟩))
  obtain ⟨ie, hie⟩ := Option.isSome_iff_exists.1 c4
  have hx : VRr m c w (takeO g x).1 (a.eval x) := by
    rcases takeO_spec hI x with ⟨_, hv, _, _⟩ | ⟨t', r, rfl, hl, h1, h2, hv, hat⟩
    · exact hv
    · rw [h1]; exact hv
  have hpart : partOk (takeO g x).1 = true := by
    cases hq : (takeO g x).1 <;> first | rfl | (rw [hq] at c5; simp only [cellsV, List.all_cons, List.all_nil, stoOk, Bool.and_true] at c5; first | exact c5 | cases c5)
  have hrel := cells_rel hx hpart
  have hone : ∀ y ∈ (a.eval x).cells.toList, y.oneCell' = true := fun y hy => by
    obtain ⟨j, hj, rfl⟩ := List.getElem_of_mem hy
    have hj' : j < (cellsV (takeO g x).1).length := by rw [hrel.1]; exact hj
    exact stoOk_oneCell (hrel.2 j _ _ (List.getElem?_eq_getElem hj') (List.getElem?_eq_getElem hj)) (List.all_eq_true.1 c5 _ (List.getElem_mem hj'))
  have hok := okv_own1s c6
  have c3' : (cellsV (own1s (takeO g x).1)).length = tsize P t := by rw [cellsV_own1s, List.length_map]; exact c3
  have hrun : ∀ w', (storeCells ⟨gb, off, none⟩ (a.eval x).cells.toList).run P w = .ok () w' → Does P w a o undef w' := fun w' hw' => by
    refine .inr ⟨?_, rfl⟩
    have hsz : (a.eval x).cells.size = ie.size := by have := hrel.1; rw [← size_of_info hie]; simp at this; omega
    simp [execOp, ho, Instr.storeAt, hpv, Instr.sureAddr, storeVar, sizeOf, typeInfo, hie, hsz, hw']
  rcases takeO_spec hI x with ⟨hb, hv, hg, hny⟩ | ⟨t', r, rfl, hl, h1, h2, hv, hat⟩
  · rw [hg]
    obtain ⟨hrel1, hno⟩ := own_cells1 hrel hny
    rw [← cellsV_own1s] at hrel1 hno
    obtain ⟨hI', hst⟩ := store_cells (P := P) hI.untag cs.length hcs hm c1 (by rw [c3']; exact c2) hrel1 hone (fun j r y hj hy => by
      obtain ⟨k1, k2⟩ := hno j r hj
      rw [hy] at k2
      exact .inl ⟨k1, Option.some.inj k2⟩) (.inr (Nat.le_refl _)) (fun t i j r => noTagC t i j r) hok
    rw [c3'] at hI'
    exact ⟨_, _, m, c, hrun _ hst, hI'.putBare hd rfl rfl (.inr fun t u r => noTags t u r)⟩
  · have h1' : own1s (takeO g (.tmp t')).1 = .list .yes r := by rw [h1]; rfl
    rw [h1'] at hok c3' ⊢
    rw [h1] at hrel
    rw [h2]
    have hI1 := hI.release hl
    obtain ⟨hI', hst⟩ := store_cells (P := P) (vs := [.list .yes r]) hI1 off hcs hm c1 (by rw [show [V.list .yes r].length = tsize P t from c3']; exact c2) hrel hone (fun j q y hj hy => by
      cases j with
      | succ j => simp at hj
      | zero =>
        simp only [List.getElem?_cons_zero, Option.some.injEq] at hj
        cases hj
        have hy' : y = a.eval (.tmp t') := by
          have : (a.eval (.tmp t')).cells = #[a.eval (.tmp t')] := by
            have hv' : VP c w (.list .yes r) (a.eval (.tmp t')) := hv
            generalize a.eval (.tmp t') = z at hv'
            cases hv' <;> rfl
          rw [this] at hy
          simpa using hy.symm
        subst hy'
        refine .inr ⟨by omega, hI.core.own _ _ _ hat, fun l r' x' b hl' hb hb' => ?_, fun b hb => hI.owned _ _ _ b hat trivial hb⟩
        obtain ⟨n1, hl''⟩ := At_release hl'
        exact n1 (hI.core.uniq l _ r' _ x' _ b hl'' hat hb' hb)) (.inl ⟨Nat.le_refl _, by simp⟩) (fun t i j r => noTagC t i j r) hok
    rw [show [V.list .yes r].length = tsize P t from c3'] at hI'
    exact ⟨_, _, m, c, hrun _ hst, hI'.putBare hd rfl rfl (.inr fun t u r => noTags t u r)⟩

end
end Go.Lift
