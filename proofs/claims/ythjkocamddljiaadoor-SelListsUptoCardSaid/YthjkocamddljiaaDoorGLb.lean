/- The lifting: values, states, evaluation, and that it is sound. -/
import Derived.Laws.IdiomStrings
import Derived.MapKept
import Derived.Laws.StructEq
import Derived.Laws.MakeOwn
import Derived.Test.YthjkocamddljiaaDoorGLa
set_option linter.unusedVariables false
set_option linter.unusedSimpArgs false
set_option linter.unusedSectionVars false
section
namespace Go.Lift
variable [GTab] [BTy]
def Does (P : Program) (w : World) (a : Act) (o : Oper) (x : Value) (w' : World) : Prop :=
 (execOp a.eval o).run P w = .ok (.value x) w' \/ ((execOp a.eval o).run P w = .ok .skip w' /\ x = undef)
theorem does_of {P : Program} {w w' : World} {a : Act} {o : Oper} {s : Sem Value} {x : Value} (he : execOp a.eval o = (do pure (Next.value (<- s)))) (hs : s.run P w = .ok x w') : Does P w a o x w' := by
 refine .inl ?_
 rw [he, Sem.run_bind, hs]
 rfl
section
variable {P : Program} {vars : List Nat} {m : List Nat} {c : Cl} {w : World} {g : Env} {h : Heap} {a : Act} {E : Entry}
def Done (P : Program) (vars : List Nat) (E : Entry) (w : World) (a : Act) (o : Oper) (v : V) (g' : Env) (h' : Heap) : Prop :=
 ∃ x w' m' c', Does P w a o x w' /\ InvP vars E m' c' w' (put o.dst v g') h' (a.put o.dst x)
theorem At_release {u : Nat} {q r : List (List V)} {l : Loc} {x : Value} (hl : At m w (Lift.untag (Lift.ins u (.list .no q) g)) h a l r x) : l ≠ .slot u /\ At m w g h a l r x := by
 cases l with
 | slot t =>
  obtain ⟨h1, h2⟩ := hl
  rw [look_untag, untag1_yes, look_ins] at h1
  split at h1
  ·cases h1
  ·rename_i ht
   exact ⟨fun e => ht (by cases e; rfl), h1, h2⟩
 | cell i j => exact ⟨fun e => (by cases e), hl⟩
theorem At_untag {r : List (List V)} {l : Loc} {x : Value} (hl : At m w (Lift.untag g) h a l r x) : At m w g h a l r x := by
 cases l with
 | slot t => exact ⟨untag1_yes.1 (by rw [<- look_untag]; exact hl.1), hl.2⟩
 | cell i j => exact hl
theorem noTagC (t i j : Nat) (r : List (List V)) : look (untag g) t ≠ .list (.cell i j) r := fun ht => by
 rw [look_untag] at ht; have := untag1_tag ht; simp at this
theorem noYes_cps (v : V) (r : List (List V)) : V.list .yes r ∉ cellsV (cps v) := by
 cases v with
 | agg cs =>
  simp only [cps, cellsV, List.mem_map, not_exists, not_and]
  intro x _ hx
  cases x <;> simp [cp] at hx
 | _ => simp [cps, cp, cellsV]
theorem noYes_ofC (y : Value) (r : List (List V)) : V.list .yes r ∉ cellsV (ofC y) := by
 have h1 : ∀ z, ofC1 z ≠ .list .yes r := fun z hz => by
  unfold ofC1 at hz
  split at hz
  ·cases hz
  ·split at hz <;> cases hz
  ·cases hz
 unfold ofC
 split
 ·simp only [cellsV, List.mem_map, not_exists, not_and]
  intro z _
  exact h1 z
 ·have : ∀ z, cellsV (ofC1 z) = [ofC1 z] := fun z => by
   unfold ofC1
   split
   ·rfl
   ·split <;> rfl
   ·rfl
  rw [this]
  simp only [List.mem_singleton]
  exact fun e => h1 _ e.symm
theorem takeO_spec (hI : InvP vars E m c w g h a) (x : Operand) :
  (bare (takeO g x).1 = true /\ VRr m c w (takeO g x).1 (a.eval x) /\ (takeO g x).2 = g /\ ∀ r, V.list .yes r ∉ cellsV (takeO g x).1) \/
  (∃ t r, x = .tmp t /\ look g t = .list .yes r /\ (takeO g x).1 = .list .yes r /\ (takeO g x).2 = Lift.ins t (.list .no r) g /\ VRr m c w (.list .yes r) (a.eval x) /\ At m w g h a (.slot t) r (a.eval x)) := by
 cases x with
 | tmp t =>
  have he := hI.core.env t
  cases hl : look g t with
  | list k r =>
   cases k with
   | yes =>
    right
    rw [hl] at he
    exact ⟨t, r, rfl, hl, by simp [takeO, hl], by simp [takeO, hl], he, hl, rfl⟩
   | _ =>
    left
    rw [hl] at he
    simp only [takeO, hl]
    exact ⟨rfl, VRr.cps he, trivial, noYes_cps (.list _ r)⟩
  | _ =>
   left
   rw [hl] at he
   simp only [takeO, hl]
   exact ⟨bare_cps _, VRr.cps he, trivial, noYes_cps _⟩
 | const v => exact .inl ⟨bare_ofC v, hI.core.opd (.const v), rfl, noYes_ofC v⟩
 | global n =>
  refine .inl ⟨?_, hI.core.opd (.global n), rfl, fun r => ?_⟩
  ·simp only [takeO, opd]
   split <;> rfl
  ·simp only [takeO, opd]
   split <;> simp [cellsV]
 | func f => exact .inl ⟨rfl, hI.core.opd (.func f), rfl, fun r => by simp [takeO, opd, cellsV]⟩
theorem InvP.putBare {E : Entry} (hI : InvP vars E m c w g h a) {d : Option Nat} {v : V} {x : Value} (hd : ∀ t, d = some t -> t < E.nt) (hv : VRr m c w v x) (hb : bare v = true)
  (hno : (∀ t, d = some t -> t ∉ vars) \/ (∀ t' u r, look g t' ≠ .list (.slot u) r)) : InvP vars E m c w (Lift.put d v g) h (a.put d x) :=
 hI.put hd hv (TagOK.bare hb) (hno.imp id fun h1 => ⟨h1, hb⟩)
theorem InvP.putOwn {E : Entry} (hI : InvP vars E m c w g h a) {d : Option Nat} {r : List (List V)} {x : Value} (hd : ∀ t, d = some t -> t < E.nt) (hv : VRr m c w (.list .yes r) x)
  (ho : OwnB m c w r x) (hu : ∀ l r' x' b, At m w g h a l r' x' -> ownBlk x = some b -> ownBlk x' ≠ some b) (hE : ∀ b, ownBlk x = some b -> E.w.heap.size <= b \/ E.ho b)
  (hno : (∀ t, d = some t -> t ∉ vars) \/ (∀ t' u r, look g t' ≠ .list (.slot u) r)) : InvP vars E m c w (Lift.put d (.list .yes r) g) h (a.put d x) := by
 cases d with
 | none => exact hI
 | some t =>
  refine hI.ins (hd t rfl) hv (fun q e => ?_) (fun u q e => (by cases e)) (fun i j q e => (by cases e)) (hno.imp (fun h1 => h1 t rfl) id)
  cases e
  exact ⟨⟨ho, fun l r' x' b _ hl hb => hu l r' x' b hl hb⟩, hE⟩
theorem eff_assign (hI : InvP vars E m c w g h a) {o : Oper} {x : Operand} (ho : o.op = .assign x) (hd : ∀ t, o.dst = some t -> t < E.nt) :
  Done P vars E w a o (own1 (takeO g x).1) (Lift.untag (takeO g x).2) h := by
 have hr : Does P w a o (a.eval x) w := .inl (by simp [execOp, ho])
 rcases takeO_spec hI x with ⟨hb, hv, hg, hny⟩ | ⟨t, r, rfl, hl, h1, h2, hv, hat⟩
 ·rw [hg]
  by_cases hn : (takeO g x).1 = .nil
  ·rw [hn] at hv ⊢
   have hv' : a.eval x = .slice none 0 0 := hv
   rw [hv'] at hr
   exact ⟨_, _, m, c, hr, hI.untag.putOwn hd (.empty _ _ _) (.inl ⟨rfl, rfl⟩) (fun _ _ _ _ _ hb => by cases hb) (fun _ hb => by cases hb) (.inr fun t u r => noTags t u r)⟩
  ·have : own1 (takeO g x).1 = (takeO g x).1 := by cases hq : (takeO g x).1 <;> first | rfl | exact absurd hq hn
   rw [this]
   exact ⟨_, _, m, c, hr, hI.untag.putBare hd hv hb (.inr fun t u r => noTags t u r)⟩
 ·rw [h1, h2]
  refine ⟨_, _, m, c, hr, (hI.release hl).putOwn hd hv (hI.core.own _ _ _ hat) (fun l r' x' b hl' hb hb' => ?_) (fun b hb => hI.owned _ _ _ b hat trivial hb) (.inr fun t u r => noTags t u r)⟩
  obtain ⟨n1, hl''⟩ := At_release hl'
  exact n1 (hI.core.uniq l (.slot t) r' r x' _ b hl'' hat hb' hb)
theorem isBld_iff {cs : List V} : isBld cs = true ↔ ∃ x, cs[0]? = some x /\ isNilP x = true := by
 match cs with
 | [] => simp [isBld]
 | x :: l => simp [isBld]
theorem isNilP_own1 (v : V) : isNilP (Lift.own1 v) = isNilP v := by
 cases v <;> rfl
theorem isBld_own1 (cs : List V) : isBld (cs.map Lift.own1) = isBld cs := by
 match cs with
 | [] => rfl
 | x :: l => exact isNilP_own1 x
theorem bldT_of {t : TypeId} {cs : List V} (hb : bldT t cs = true) : ∀ T, btOf cs.length = some T -> isBld cs = true -> t = T := fun T hT hc => by
 unfold bldT at hb
 rw [hT] at hb
 simp only [Bool.or_eq_true, beq_iff_eq, Bool.not_eq_true'] at hb
 rcases hb with hb | hb
 ·rw [hb] at hc; cases hc
 ·exact hb
theorem grow_cells (hI : InvP vars E m c w g h a) {cs : List V} {arr : Array Value} {e : TypeId} {f : Nat × Nat} {w' : World} (hw : w'.heap = w.heap.push (.cells arr e f)) (hos : w'.os = w.os) (htape : w'.tape = w.tape) (hout : w'.output = w.output)
  (hf : ∀ j, j < cs.length -> ¬ (f.1 <= j /\ j < f.2)) (hle : cs.length <= arr.size) (hrel : ∀ (j : Nat) v x, cs[j]? = some v -> arr[j]? = some x -> VR1 m c w v x /\ x.oneCell' = true)
  (hno : ∀ (j : Nat) (r : List (List V)), cs[j]? = some (.list .yes r) -> r = [] /\ arr[j]? = some (.slice none 0 0)) (hbt : ∀ T, btOf cs.length = some T -> isBld cs = true -> e = T /\ arr.size = cs.length) : InvP vars E (m ++ [w.heap.size]) c w' g (h ++ [.cells cs]) a := by
 have hnew : w'.heap[w.heap.size]? = some (.cells arr e f) := by rw [hw]; simp
 have hold : ∀ b, b < w.heap.size -> w'.heap[b]? = w.heap[b]? := fun b hb => by rw [hw, Array.getElem?_push]; simp [show ¬ b = w.heap.size by omega]
 have hext : Ext c w c w' := ⟨fun _ => Nat.le_refl _, fun b o ho => by
  rcases Nat.lt_or_ge b w.heap.size with hb | hb
  ·exact cell_of_heap (hold b hb) o
  ·rw [hI.core.c_zero hb] at ho; omega, fun b _ => Shp.old hold b⟩
 refine hI.grow ⟨by rw [hw]; simp, hold, fun _ _ => rfl, fun b hb h0 => ?_, fun b hb => ?_, by simp, rfl, fun i o b ho hb => ?_, Nat.le_refl _, fun i cs' j r b ho hj hb => ?_, hos, htape, hout⟩
 ·rw [hI.core.c_zero hb] at h0; omega
 ·simp at hb; subst hb; exact ⟨Nat.le_refl _, hI.core.c_zero (Nat.le_refl _)⟩
 ·cases i with
  | zero =>
   simp at ho hb
   subst ho; subst hb
   refine ⟨arr, e, f, hnew, hle, fun j hj => ?_, fun j v x hv hx => ⟨(hrel j v x hv hx).1.mono (Pre.append m _) hext, (hrel j v x hv hx).2⟩, hbt⟩
   have := hf j hj
   simp only [World.frozen?, hnew]
   simpa using this
  | succ i => simp at ho
 ·cases i with
  | zero =>
   simp at ho hb
   subst ho; subst hb
   obtain ⟨k1, k2⟩ := hno j r hj
   refine ⟨k1, ?_⟩
   simp only [World.cell?, hnew]
   simpa using k2
  | succ i => simp at ho
theorem new_ptr {w' : World} (hl : m.length = h.length) : VRr (m ++ [w.heap.size]) c w' (.ptr h.length 0) (.pointer (some ⟨w.heap.size, 0, none⟩)) :=
 ⟨w.heap.size, by rw [<- hl]; simp, rfl⟩
theorem VR1.own1 {v : V} {x : Value} (hv : VR1 m c w v x) : VR1 m c w (Lift.own1 v) x := by
 cases v with
 | nil => have : x = .slice none 0 0 := hv; subst this; exact VP.empty _ _ _
 | _ => exact hv
theorem own_cells1 {cs : List V} {xs : List Value} (hr : R2 (VR1 m c w) cs xs) (hno : ∀ r, V.list .yes r ∉ cs) : R2 (VR1 m c w) (cs.map Lift.own1) xs /\
  ∀ (j : Nat) (r : List (List V)), (cs.map Lift.own1)[j]? = some (.list .yes r) -> r = [] /\ xs[j]? = some (.slice none 0 0) := by
 refine ⟨by simpa using hr.map (g := id) fun _ _ h => VR1.own1 h, fun j r hj => ?_⟩
 simp only [List.getElem?_map, Option.map_eq_some_iff] at hj
 obtain ⟨v, hv, he⟩ := hj
 obtain ⟨y, hy, hvy⟩ := hr.get hv
 cases v with
 | nil =>
  have : y = .slice none 0 0 := hvy
  subst this
  simp [Lift.own1] at he
  exact ⟨he, hy⟩
 | list k q =>
  simp only [Lift.own1] at he
  cases he
  exact absurd (List.mem_of_getElem? hv) (hno r)
 | _ => simp [Lift.own1] at he
theorem stoOk_oneCell {v : V} {x : Value} (hv : VR1 m c w v x) (hs : stoOk v = true) : x.oneCell' = true := by
 cases v with
 | v z => have : x = z := hv; subst this; exact hs
 | nil => have : x = .slice none 0 0 := hv; subst this; rfl
 | list k r => exact VP.oneCell hv
 | ptr b o => obtain ⟨g, hg, rfl⟩ := hv; rfl
 | mp b => obtain ⟨g, hg, rfl⟩ := hv; rfl
 | rp cs => obtain ⟨ad, rfl, _⟩ := hv; rfl
 | buf b o n => obtain ⟨g, cap, hg, rfl, _⟩ := hv; rfl
 | stk b n sz => obtain ⟨g, cap, hg, rfl, _⟩ := hv; rfl
 | agg cs => cases hs
 | tup vs => cases hs
 | fn f cs => obtain ⟨fs, xs, rfl, _⟩ := hv; rfl
 | undef => cases hs
 | any => cases hs
theorem eff_alloc (hI : InvP vars E m c w g h a) {o : Oper} {t : TypeId} {z : List Value} (ho : o.op = .alloc t) (hz : tzero P t = some z) (hs : (z.map ofC1).all stoOk = true) (hbl : bldT t (z.map ofC1) = true) (hd : ∀ t, o.dst = some t -> t < E.nt) (hv : ∀ t, o.dst = some t -> t ∉ vars) :
  Done P vars E w a o (.ptr h.length 0) g (h ++ [.cells ((z.map ofC1).map own1)]) := by
 obtain ⟨zv, hzv, rfl⟩ := tzero_spec (w := w) hz
 have hrel := ofC1_cells (m := m) (c := c) (w := w) zv
 obtain ⟨hrel1, hno⟩ := own_cells1 hrel (fun r hr => by
  obtain ⟨y, _, hy⟩ := List.mem_map.1 hr
  unfold ofC1 at hy
  split at hy
  ·cases hy
  ·split at hy <;> cases hy
  ·cases hy)
 have hone : ∀ (j : Nat) x, zv.cells[j]? = some x -> x.oneCell' = true := fun j x hx => by
  have hx' : zv.cells.toList[j]? = some x := by simpa using hx
  have hj : (zv.cells.toList.map ofC1)[j]? = some (ofC1 x) := by simp [hx]
  exact stoOk_oneCell (hrel.2 j _ _ hj hx') (List.all_eq_true.1 hs _ (List.mem_of_getElem? hj))
 have hI' := grow_cells hI (cs := (zv.cells.toList.map ofC1).map own1) (arr := zv.cells) (e := t) (f := (0, 0)) (w' := { w with heap := w.heap.push (.cells zv.cells t) }) rfl rfl rfl rfl (fun j _ => by simp) (by simp)
  (fun j v x hv hx => ⟨hrel1.2 j v x hv (by simpa using hx), hone j x hx⟩) (fun j r hj => by simpa using hno j r hj)
  (fun T hT hc => by
   rw [isBld_own1] at hc
   rw [List.length_map] at hT
   exact ⟨bldT_of hbl T hT hc, by simp⟩)
 refine ⟨_, _, _, _, does_of (s := Instr.alloc t true (.tuple #[])) (by simp [execOp, ho]) (x := .pointer (some ⟨w.heap.size, 0, none⟩)) (w' := { w with heap := w.heap.push (.cells zv.cells t) }) ?_, hI'.putBare hd (new_ptr hI.core.len) rfl (.inl hv)⟩
 simp [Instr.alloc, hzv, newVar, newRow]
theorem eff_box (hI : InvP vars E m c w g h a) {o : Oper} {t : TypeId} {x : Operand} (ho : o.op = .box t x) (hp : partOk (cps (opd g x)) = true) (hs : (cellsV (cps (opd g x))).all stoOk = true) (hbl : bldT t (cellsV (cps (opd g x))) = true) (hd : ∀ t, o.dst = some t -> t < E.nt) (hv : ∀ t, o.dst = some t -> t ∉ vars) :
  Done P vars E w a o (.ptr h.length 0) g (h ++ [.cells ((cellsV (cps (opd g x))).map own1)]) := by
 have hx := (hI.core.opd x).cps
 have hrel := cells_rel hx hp
 obtain ⟨hrel1, hno⟩ := own_cells1 hrel (fun r hr => noYes_cps _ r hr)
 have hone : ∀ (j : Nat) y, (a.eval x).cells[j]? = some y -> y.oneCell' = true := fun j y hy => by
  have hy' : (a.eval x).cells.toList[j]? = some y := by simpa using hy
  have hj : j < (cellsV (cps (opd g x))).length := by rw [hrel.1]; exact (List.getElem?_eq_some_iff.1 hy').1
  exact stoOk_oneCell (hrel.2 j _ _ (List.getElem?_eq_getElem hj) hy') (List.all_eq_true.1 hs _ (List.getElem_mem hj))
 have hI' := grow_cells hI (cs := (cellsV (cps (opd g x))).map own1) (arr := (a.eval x).cells) (e := t) (f := (0, 0)) (w' := { w with heap := w.heap.push (.cells (a.eval x).cells t) }) rfl rfl rfl rfl (fun j _ => by simp) (by have := hrel.1; simp at this ⊢; omega)
  (fun j v y hv hy => ⟨hrel1.2 j v y hv (by simpa using hy), hone j y hy⟩) (fun j r hj => by simpa using hno j r hj)
  (fun T hT hc => by
   rw [isBld_own1] at hc
   rw [List.length_map] at hT
   have := hrel.1
   simp at this
   exact ⟨bldT_of hbl T hT hc, by simp; omega⟩)
 refine ⟨_, _, _, _, does_of (s := Instr.box t (a.eval x)) (by simp [execOp, ho]) (x := .pointer (some ⟨w.heap.size, 0, none⟩)) (w' := { w with heap := w.heap.push (.cells (a.eval x).cells t) }) ?_, hI'.putBare hd (new_ptr hI.core.len) rfl (.inl hv)⟩
 simp [Instr.box, newVar, newRow]
theorem getElem?_splice {α : Type} {l vs : List α} {o j : Nat} (hb : o + vs.length <= l.length) :
  (l.take o ++ vs ++ l.drop (o + vs.length))[j]? = if o <= j /\ j < o + vs.length then vs[j - o]? else l[j]? := by
 have ho : (l.take o).length = o := by simp; omega
 by_cases h1 : j < o
 ·rw [if_neg (by omega), List.append_assoc, List.getElem?_append_left (by omega), List.getElem?_take, if_pos h1]
 ·by_cases h2 : j < o + vs.length
  ·rw [if_pos ⟨by omega, h2⟩, List.getElem?_append_left (by simp; omega), List.getElem?_append_right (by omega), ho]
  ·rw [if_neg (by omega), List.getElem?_append_right (by simp; omega), List.getElem?_drop]
   congr 1
   simp only [List.length_append, ho]
   omega
theorem setCells_spec (b : Nat) : ∀ (vs : List Value) (o : Nat) (w : World) (arr : Array Value) (e : TypeId) (f : Nat × Nat), w.heap[b]? = some (.cells arr e f) -> o + vs.length <= arr.size ->
  (w.setCells b o vs).heap.size = w.heap.size /\ (∀ k, k ≠ b -> (w.setCells b o vs).heap[k]? = w.heap[k]?) /\ (w.setCells b o vs).os = w.os /\ (w.setCells b o vs).tape = w.tape /\ (w.setCells b o vs).output = w.output /\
  ∃ arr' : Array Value, (w.setCells b o vs).heap[b]? = some (.cells arr' e f) /\ arr'.toList = arr.toList.take o ++ vs ++ arr.toList.drop (o + vs.length)
 | [], o, w, arr, e, f, hw, hb => ⟨rfl, fun _ _ => rfl, rfl, rfl, rfl, arr, hw, by simp⟩
 | v :: vs, o, w, arr, e, f, hw, hb => by
  simp only [List.length_cons] at hb
  have hset : (w.setCell ⟨b, o, none⟩ v).heap[b]? = some (.cells (arr.setIfInBounds o v) e f) := by
   simp [World.setCell, Array.getElem?_modify, hw]
  obtain ⟨h1, h2, h3, h4, h5, arr', h6, h7⟩ := setCells_spec b vs (o + 1) (w.setCell ⟨b, o, none⟩ v) _ e f hset (by simp; omega)
  refine ⟨by rw [World.setCells, h1]; simp [World.setCell], fun k hk => ?_, h3, h4, h5, arr', h6, ?_⟩
  ·rw [World.setCells, h2 k hk]
   simp [World.setCell, Array.getElem?_modify, Ne.symm hk]
  ·rw [h7]
   have hlt : o < arr.toList.length := by simp; omega
   simp only [Array.toList_setIfInBounds, List.length_cons]
   rw [List.take_succ_eq_append_getElem (by simpa using hlt), List.getElem_set_self, List.take_set_of_le (by omega), List.drop_set_of_lt (by omega)]
   simp only [List.append_assoc, List.cons_append, List.nil_append]
   rw [show o + 1 + vs.length = o + (vs.length + 1) by omega]
theorem setCells_shp {b o : Nat} {vs : List Value} {arr : Array Value} {e : TypeId} {f : Nat × Nat} (hw : w.heap[b]? = some (.cells arr e f)) (hle : o + vs.length <= arr.size) : Shp w (w.setCells b o vs) b := fun arr0 e0 f0 h0 => by
 rw [hw] at h0
 cases h0
 obtain ⟨_, _, _, _, _, arr', h6, h7⟩ := setCells_spec b vs o w arr e f hw hle
 refine ⟨arr', f, h6, ?_, fun j hj hf => ?_⟩
 ·have := congrArg List.length h7
  simp only [Array.length_toList, List.length_append, List.length_take, List.length_drop] at this
  omega
 ·simp only [World.frozen?, hw, h6] at hf ⊢
  exact hf
theorem cell_arr {b j : Nat} {arr : Array Value} {e : TypeId} {f : Nat × Nat} (hw : w.heap[b]? = some (.cells arr e f)) : w.cell? ⟨b, j, none⟩ = arr[j]? := by
 simp [World.cell?, hw]
theorem keptO_ok {cs : List V} {v : V} {n : Nat} (hk : keptO cs v = true) (h : ∀ u ∈ cs, okv n u = true) : okv n v = true := by
 cases v with
 | stk j k z =>
  simp only [keptO, List.any_eq_true] at hk
  obtain ⟨u, hu, hj⟩ := hk
  have h1 := h u hu
  cases u with
  | stk i k' z' =>
   simp only [beq_iff_eq] at hj
   subst hj
   exact h1
  | _ => cases hj
 | _ => cases hk
theorem keptO_own1s {cs : List V} {v : V} (hk : keptO cs v = true) : ∀ u ∈ cellsV (own1s v), keptO cs u = true := by
 cases v with
 | stk j k z =>
  intro u hu
  have : u = .stk j k z := by simpa [own1s, own1, cellsV] using hu
  rw [this]; exact hk
 | _ => cases hk
theorem store_cells (hI : InvP vars E m c w g h a) {i gb off : Nat} {cs vs : List V} {ys : List Value} (jf : Nat) (hcs : cellsOfOb h i = some cs) (hm : m[i]? = some gb) (hlo : E.lo <= i)
  (hb : off + vs.length <= cs.length) (hr : R2 (VR1 m c w) vs ys) (hone : ∀ y ∈ ys, y.oneCell' = true)
  (hown : ∀ (j : Nat) r x, vs[j]? = some (.list .yes r) -> ys[j]? = some x -> (r = [] /\ x = .slice none 0 0) \/ off + j = jf /\ OwnB m c w r x /\ (∀ l r' x' b, At m w g h a l r' x' -> ownBlk x = some b -> ownBlk x' ≠ some b) /\ ∀ b, ownBlk x = some b -> E.w.heap.size <= b \/ E.ho b)
  (hjf : off <= jf /\ jf < off + vs.length \/ cs.length <= jf)
  (hnt : ∀ t i j r, look g t ≠ .list (.cell i j) r) (hok : i < E.base -> ∀ v ∈ vs, okv (i + 1) v = true \/ keptO cs v = true) (hbl : bldS vs = true) :
  InvP vars E m c (w.setCells gb off ys) g (Lift.setOb h i (cs.take off ++ vs ++ cs.drop (off + vs.length))) a /\
  (storeCells ⟨gb, off, none⟩ ys).run P w = .ok () (w.setCells gb off ys) := by
 have hcs0 : h[i]? = some (.cells cs) := by
  unfold cellsOfOb at hcs
  split at hcs
  ·rename_i h0; cases hcs; exact h0
  ·cases hcs
 obtain ⟨arr, e, f, hw, hle, hfr, hall, hbld⟩ := hI.core.ob i _ gb hcs0 hm
 have hlen : ys.length = vs.length := hr.1.symm
 obtain ⟨h1, h2, h3, h4, h5, arr', h6, h7⟩ := setCells_spec gb ys off w arr e f hw (by omega)
 have hc0 : c gb = 0 := hI.core.wf2 gb (List.mem_of_getElem? hm)
 have hext : Ext c w c (w.setCells gb off ys) := ⟨fun _ => Nat.le_refl _, fun b o ho => by
  by_cases hb' : b = gb
  ·rw [hb', hc0] at ho; omega
  ·exact cell_of_heap (h2 b hb') o, fun b _ => by
  by_cases hb' : b = gb
  ·rw [hb']; exact setCells_shp hw (by omega)
  ·exact Shp.same (h2 b hb')⟩
 have hget : ∀ j, arr'[j]? = if off <= j /\ j < off + vs.length then ys[j - off]? else arr[j]? := fun j => by
  rw [<- Array.getElem?_toList, h7, getElem?_splice (by simp; omega), hlen]
  simp
 have hgetc : ∀ j, (cs.take off ++ vs ++ cs.drop (off + vs.length))[j]? = if off <= j /\ j < off + vs.length then vs[j - off]? else cs[j]? := fun j => getElem?_splice hb
 have hsize : arr'.size = arr.size := by
  have := congrArg List.length h7
  simp only [Array.length_toList, List.length_append, List.length_take, List.length_drop] at this
  omega
 have hlen' : (cs.take off ++ vs ++ cs.drop (off + vs.length)).length = cs.length := by simp; omega
 refine ⟨hI.setOb (w' := w.setCells gb off ys) jf hlo hm h1 h2 h3 h4 h5 ?_ ?_ hnt ?_ (setCells_shp hw (by omega)), ?_⟩
 ·refine ⟨arr', e, f, h6, by rw [hlen', hsize]; exact hle, fun j hj => ?_, fun j v x hv hx => ?_, fun T hT hc => ?_⟩
  ·rw [hlen'] at hj
   have := hfr j hj
   simp only [World.frozen?, hw, h6] at this ⊢
   exact this
  ·rw [hgetc] at hv
   rw [hget] at hx
   split at hv
   ·rename_i hj
    rw [if_pos hj] at hx
    exact ⟨(hr.2 _ v x hv hx).mono (Pre.refl m) hext, hone x (List.mem_of_getElem? hx)⟩
   ·rename_i hj
    rw [if_neg hj] at hx
    exact ⟨(hall j v x hv hx).1.mono (Pre.refl m) hext, (hall j v x hv hx).2⟩
  ·rw [hsize]
   obtain ⟨x, k2, k3⟩ := isBld_iff.1 hc
   rw [hlen'] at hT ⊢
   rw [hgetc] at k2
   split at k2
   ·exfalso
    have hne : BTy.bt.isEmpty = false := by
     unfold btOf at hT
     cases hb : BTy.bt with
     | nil => rw [hb] at hT; cases hT
     | cons x l => rfl
    unfold bldS at hbl
    rw [hne, Bool.false_or] at hbl
    have := List.any_eq_true.2 ⟨x, List.mem_of_getElem? k2, k3⟩
    rw [this] at hbl
    cases hbl
   ·exact hbld T hT (isBld_iff.2 ⟨x, k2, k3⟩)
 ·intro cs' j r x hcs' hj hx
  cases hcs'
  rw [cell_arr h6, hget] at hx
  rw [hgetc] at hj
  split at hj
  ·rename_i hjb
   rw [if_pos hjb] at hx
   rcases hown (j - off) r x hj hx with h0 | ⟨k1, k2, k3, k4⟩
   ·exact .inl h0
   ·exact .inr ⟨fun hne => absurd (by omega) hne, fun _ => ⟨k2, fun l r' x' b hl _ hb => k3 l r' x' b hl hb, k4⟩⟩
  ·rename_i hjb
   rw [if_neg hjb] at hx
   refine .inr ⟨fun _ => ⟨cs, gb, hcs, hj, hm, by rw [cell_arr hw]; exact hx⟩, fun hjj => ?_⟩
   have := (List.getElem?_eq_some_iff.1 hj).1
   omega
 ·intro cs' hcs' hib n hin h0 v hv
  cases hcs'
  rw [List.mem_append, List.mem_append] at hv
  rcases hv with (hv | hv) | hv
  ·exact h0 cs hcs v (List.mem_of_mem_take hv)
  ·rcases hok hib v hv with h8 | h8
   ·exact okv_mono h8 hin
   ·exact keptO_ok h8 (h0 cs hcs)
  ·exact h0 cs hcs v (List.mem_of_mem_drop hv)
 ·have := run_storeCells_cells (P := P) gb off ys 0 w (fun j hj => by
    rw [cell_arr hw]
    have : off + j < arr.size := by omega
    simp [this]) (fun j hj => hfr _ (by omega)) hone
  simpa using this
theorem cellsV_own1s (v : V) : cellsV (own1s v) = (cellsV v).map own1 := by
 cases v <;> rfl
theorem okv_own1s {n : Nat} {v : V} (hv : okv n v = true) : ∀ u ∈ cellsV (own1s v), okv n u = true := by
 intro u hu
 rw [cellsV_own1s, List.mem_map] at hu
 obtain ⟨y, hy, rfl⟩ := hu
 have hy' : okv n y = true := by
  cases v with
  | agg ds =>
   have := List.all_eq_true.1 hv y hy
   cases y <;> first | exact this | (simp [okc] at this)
  | _ =>
   simp only [cellsV, List.mem_singleton] at hy
   subst hy
   exact hv
 cases y <;> first | rfl | exact hy'
theorem eff_store (hI : InvP vars E m c w g h a) {o : Oper} {t : TypeId} {p x : Operand} {i off : Nat} {cs : List V} (ho : o.op = .store t p x) (hp : opd g p = .ptr i off) (hcs : cellsOfOb h i = some cs)
  (hc : E.lo <= i /\ off + tsize P t <= cs.length /\ (cellsV (takeO g x).1).length = tsize P t /\ (P.info? t).isSome /\ ((cellsV (takeO g x).1).all stoOk && bldS (cellsV (takeO g x).1)) = true /\ (i < E.base -> (okv (i + 1) (takeO g x).1 || keptO cs (takeO g x).1) = true))
  (hd : ∀ t, o.dst = some t -> t < E.nt) :
  Done P vars E w a o (.v undef) (Lift.untag (takeO g x).2) (Lift.setOb h i (cs.take off ++ cellsV (own1s (takeO g x).1) ++ cs.drop (off + tsize P t))) := by
 obtain ⟨c1, c2, c3, c4, c57, c6⟩ := hc
 rw [Bool.and_eq_true] at c57
 obtain ⟨c5, c7⟩ := c57
 have c8 : bldS (cellsV (own1s (takeO g x).1)) = true := by
  rw [cellsV_own1s]
  unfold bldS at c7 ⊢
  cases hT : BTy.bt.isEmpty with
  | true => rfl
  | false =>
   rw [hT] at c7
   simpa [List.any_map, Function.comp_def, isNilP_own1] using c7
 obtain ⟨gb, hm, hpv⟩ := (by have := hI.core.opd p; rw [hp] at this; exact this : ∃ gb, m[i]? = some gb /\ a.eval p = .pointer (some ⟨gb, off, none⟩))
 obtain ⟨ie, hie⟩ := Option.isSome_iff_exists.1 c4
 have hx : VRr m c w (takeO g x).1 (a.eval x) := by
  rcases takeO_spec hI x with ⟨_, hv, _, _⟩ | ⟨t', r, rfl, hl, h1, h2, hv, hat⟩
  ·exact hv
  ·rw [h1]; exact hv
 have hpart : partOk (takeO g x).1 = true := by
  cases hq : (takeO g x).1 <;> first | rfl | (rw [hq] at c5; simp only [cellsV, List.all_cons, List.all_nil, stoOk, Bool.and_true] at c5; first | exact c5 | cases c5)
 have hrel := cells_rel hx hpart
 have hone : ∀ y ∈ (a.eval x).cells.toList, y.oneCell' = true := fun y hy => by
  obtain ⟨j, hj, rfl⟩ := List.getElem_of_mem hy
  have hj' : j < (cellsV (takeO g x).1).length := by rw [hrel.1]; exact hj
  exact stoOk_oneCell (hrel.2 j _ _ (List.getElem?_eq_getElem hj') (List.getElem?_eq_getElem hj)) (List.all_eq_true.1 c5 _ (List.getElem_mem hj'))
 have hok : i < E.base -> ∀ u ∈ cellsV (own1s (takeO g x).1), okv (i + 1) u = true \/ keptO cs u = true := fun hib u hu => by
  rcases Bool.or_eq_true_iff.1 (c6 hib) with h8 | h8
  ·exact .inl (okv_own1s h8 u hu)
  ·exact .inr (keptO_own1s h8 u hu)
 have c3' : (cellsV (own1s (takeO g x).1)).length = tsize P t := by rw [cellsV_own1s, List.length_map]; exact c3
 have hrun : ∀ w', (storeCells ⟨gb, off, none⟩ (a.eval x).cells.toList).run P w = .ok () w' -> Does P w a o undef w' := fun w' hw' => by
  refine .inr ⟨?_, rfl⟩
  have hsz : (a.eval x).cells.size = ie.size := by have := hrel.1; rw [<- size_of_info hie]; simp at this; omega
  simp [execOp, ho, Instr.storeAt, hpv, Instr.sureAddr, storeVar, sizeOf, typeInfo, hie, hsz, hw']
 rcases takeO_spec hI x with ⟨hb, hv, hg, hny⟩ | ⟨t', r, rfl, hl, h1, h2, hv, hat⟩
 ·rw [hg]
  obtain ⟨hrel1, hno⟩ := own_cells1 hrel hny
  rw [<- cellsV_own1s] at hrel1 hno
  obtain ⟨hI', hst⟩ := store_cells (P := P) hI.untag cs.length hcs hm c1 (by rw [c3']; exact c2) hrel1 hone (fun j r y hj hy => by
   obtain ⟨k1, k2⟩ := hno j r hj
   rw [hy] at k2
   exact .inl ⟨k1, Option.some.inj k2⟩) (.inr (Nat.le_refl _)) (fun t i j r => noTagC t i j r) hok c8
  rw [c3'] at hI'
  exact ⟨_, _, m, c, hrun _ hst, hI'.putBare hd rfl rfl (.inr fun t u r => noTags t u r)⟩
 ·have h1' : own1s (takeO g (.tmp t')).1 = .list .yes r := by rw [h1]; rfl
  rw [h1'] at hok c3' c8 ⊢
  rw [h1] at hrel
  rw [h2]
  have hI1 := hI.release hl
  obtain ⟨hI', hst⟩ := store_cells (P := P) (vs := [.list .yes r]) hI1 off hcs hm c1 (by rw [show [V.list .yes r].length = tsize P t from c3']; exact c2) hrel hone (fun j q y hj hy => by
   cases j with
   | succ j => simp at hj
   | zero =>
    simp only [List.getElem?_cons_zero, Option.some.injEq] at hj
    cases hj
    have hy' : y = a.eval (.tmp t') := by
     have : (a.eval (.tmp t')).cells = #[a.eval (.tmp t')] := by
      have hv' : VP c w (.list .yes r) (a.eval (.tmp t')) := hv
      generalize a.eval (.tmp t') = z at hv'
      cases hv' <;> rfl
     rw [this] at hy
     simpa using hy.symm
    subst hy'
    refine .inr ⟨by omega, hI.core.own _ _ _ hat, fun l r' x' b hl' hb hb' => ?_, fun b hb => hI.owned _ _ _ b hat trivial hb⟩
    obtain ⟨n1, hl''⟩ := At_release hl'
    exact n1 (hI.core.uniq l _ r' _ x' _ b hl'' hat hb' hb)) (.inl ⟨Nat.le_refl _, by simp⟩) (fun t i j r => noTagC t i j r) hok c8
  rw [show [V.list .yes r].length = tsize P t from c3'] at hI'
  exact ⟨_, _, m, c, hrun _ hst, hI'.putBare hd rfl rfl (.inr fun t u r => noTags t u r)⟩
theorem eff_allocR (hI : InvP vars E m c w g h a) {o : Oper} {t : TypeId} {z : List Value} (ho : o.op = .alloc t) (hz : tzero P t = some z) (hs : (z.map ofC1).all stoOk = true) (hbl : bldT t (z.map ofC1) = true) (hd : ∀ t, o.dst = some t -> t < E.nt) (hv : ∀ t, o.dst = some t -> t ∉ vars) :
  Done P vars E w a o (.ptr h.length 0) g (h ++ [.cells (z.map ofC1)]) := by
 obtain ⟨zv, hzv, rfl⟩ := tzero_spec (w := w) hz
 have hrel := ofC1_cells (m := m) (c := c) (w := w) zv
 have hno : ∀ r, V.list .yes r ∉ zv.cells.toList.map ofC1 := fun r hr => by
  obtain ⟨y, _, hy⟩ := List.mem_map.1 hr
  unfold ofC1 at hy
  split at hy
  ·cases hy
  ·split at hy <;> cases hy
  ·cases hy
 have hone : ∀ (j : Nat) x, zv.cells[j]? = some x -> x.oneCell' = true := fun j x hx => by
  have hx' : zv.cells.toList[j]? = some x := by simpa using hx
  have hj : (zv.cells.toList.map ofC1)[j]? = some (ofC1 x) := by simp [hx]
  exact stoOk_oneCell (hrel.2 j _ _ hj hx') (List.all_eq_true.1 hs _ (List.mem_of_getElem? hj))
 have hI' := grow_cells hI (cs := zv.cells.toList.map ofC1) (arr := zv.cells) (e := t) (f := (0, 0)) (w' := { w with heap := w.heap.push (.cells zv.cells t) }) rfl rfl rfl rfl (fun j _ => by simp) (by simp)
  (fun j v x hv hx => ⟨hrel.2 j v x hv (by simpa using hx), hone j x hx⟩) (fun j r hj => absurd (List.mem_of_getElem? hj) (hno r))
  (fun T hT hc => by
   rw [List.length_map] at hT
   exact ⟨bldT_of hbl T (by rw [List.length_map]; exact hT) hc, by simp⟩)
 refine ⟨_, _, _, _, does_of (s := Instr.alloc t true (.tuple #[])) (by simp [execOp, ho]) (x := .pointer (some ⟨w.heap.size, 0, none⟩)) (w' := { w with heap := w.heap.push (.cells zv.cells t) }) ?_, hI'.putBare hd (new_ptr hI.core.len) rfl (.inl hv)⟩
 simp [Instr.alloc, hzv, newVar, newRow]
theorem okv_cells {n : Nat} {v : V} (hv : okv n v = true) : ∀ u ∈ cellsV v, okv n u = true := by
 intro y hy
 cases v with
 | agg ds =>
  have := List.all_eq_true.1 hv y hy
  cases y <;> first | exact this | (simp [okc] at this)
 | _ =>
  simp only [cellsV, List.mem_singleton] at hy
  subst hy
  exact hv
theorem keptO_cells {cs : List V} {v : V} (hk : keptO cs v = true) : ∀ u ∈ cellsV v, keptO cs u = true := by
 cases v with
 | stk b n z => intro u hu; simp only [cellsV, List.mem_singleton] at hu; subst hu; exact hk
 | _ => cases hk
theorem eff_storeR (hI : InvP vars E m c w g h a) {o : Oper} {t : TypeId} {p x : Operand} {i off : Nat} {cs : List V} (ho : o.op = .store t p x) (hp : opd g p = .ptr i off) (hcs : cellsOfOb h i = some cs)
  (hc : E.lo <= i /\ off + tsize P t <= cs.length /\ (cellsV (takeO g x).1).length = tsize P t /\ (P.info? t).isSome /\ ((cellsV (takeO g x).1).all stoOk && bldS (cellsV (takeO g x).1)) = true /\ (i < E.base -> (okv (i + 1) (takeO g x).1 || keptO cs (takeO g x).1) = true))
  (hd : ∀ t, o.dst = some t -> t < E.nt) :
  Done P vars E w a o (.v undef) (Lift.untag (takeO g x).2) (Lift.setOb h i (cs.take off ++ cellsV (takeO g x).1 ++ cs.drop (off + tsize P t))) := by
 have hst0 := eff_store hI ho hp hcs hc hd
 obtain ⟨c1, c2, c3, c4, c57, c6⟩ := hc
 rw [Bool.and_eq_true] at c57
 obtain ⟨c5, c7⟩ := c57
 obtain ⟨gb, hm, hpv⟩ := (by have := hI.core.opd p; rw [hp] at this; exact this : ∃ gb, m[i]? = some gb /\ a.eval p = .pointer (some ⟨gb, off, none⟩))
 obtain ⟨ie, hie⟩ := Option.isSome_iff_exists.1 c4
 rcases takeO_spec hI x with ⟨hb, hx, hg, hny⟩ | ⟨t', r, rfl, hl, h1, h2, hv, hat⟩
 case inr =>
  rw [h1] at hst0 ⊢
  exact hst0
 rw [hg]
 have hpart : partOk (takeO g x).1 = true := by
  cases hq : (takeO g x).1 <;> first | rfl | (rw [hq] at c5; simp only [cellsV, List.all_cons, List.all_nil, stoOk, Bool.and_true] at c5; first | exact c5 | cases c5)
 have hrel := cells_rel hx hpart
 have hone : ∀ y ∈ (a.eval x).cells.toList, y.oneCell' = true := fun y hy => by
  obtain ⟨j, hj, rfl⟩ := List.getElem_of_mem hy
  have hj' : j < (cellsV (takeO g x).1).length := by rw [hrel.1]; exact hj
  exact stoOk_oneCell (hrel.2 j _ _ (List.getElem?_eq_getElem hj') (List.getElem?_eq_getElem hj)) (List.all_eq_true.1 c5 _ (List.getElem_mem hj'))
 have hok : i < E.base -> ∀ u ∈ cellsV (takeO g x).1, okv (i + 1) u = true \/ keptO cs u = true := fun hib u hu => by
  rcases Bool.or_eq_true_iff.1 (c6 hib) with h8 | h8
  ·exact .inl (okv_cells h8 u hu)
  ·exact .inr (keptO_cells h8 u hu)
 have hrun : ∀ w', (storeCells ⟨gb, off, none⟩ (a.eval x).cells.toList).run P w = .ok () w' -> Does P w a o undef w' := fun w' hw' => by
  refine .inr ⟨?_, rfl⟩
  have hsz : (a.eval x).cells.size = ie.size := by have := hrel.1; rw [<- size_of_info hie]; simp at this; omega
  simp [execOp, ho, Instr.storeAt, hpv, Instr.sureAddr, storeVar, sizeOf, typeInfo, hie, hsz, hw']
 obtain ⟨hI', hst⟩ := store_cells (P := P) hI.untag cs.length hcs hm c1 (by rw [c3]; exact c2) hrel hone (fun j r y hj hy => absurd (List.mem_of_getElem? hj) (hny r)) (.inr (Nat.le_refl _)) (fun t i j r => noTagC t i j r) hok c7
 rw [c3] at hI'
 exact ⟨_, _, m, c, hrun _ hst, hI'.putBare hd rfl rfl (.inr fun t u r => noTags t u r)⟩
end
end Go.Lift
end

section
namespace Go.Lift
variable [GTab] [BTy]
section
variable {P : Program} {vars : List Nat} {m : List Nat} {c : Cl} {w : World} {g : Env} {h : Heap} {a : Act} {E : Entry}
theorem eff_range (hI : InvP vars E m c w g h a) {o : Oper} {t : TypeId} {x : Operand} {b : ByteArray} (ho : o.op = .range t x) (hx : opd g x = .v (.string b)) (hu : P.underlying t = some .string) (hd : ∀ t, o.dst = some t -> t < E.nt) (hv : ∀ t, o.dst = some t -> t ∉ vars) :
  Done P vars E w a o (.ptr h.length 0) g (h ++ [.iter b 0]) := by
 have hx' : a.eval x = .string b := by have := hI.core.opd x; rw [hx] at this; exact this
 have hw : ∀ k, k < w.heap.size -> ({ w with heap := w.heap.push (.stringIter b 0) } : World).heap[k]? = w.heap[k]? := fun k hk => by
  show (w.heap.push _)[k]? = _
  rw [Array.getElem?_push]; simp [show ¬ k = w.heap.size by omega]
 have hI' : InvP vars E (m ++ [w.heap.size]) c { w with heap := w.heap.push (.stringIter b 0) } g (h ++ [.iter b 0]) a := by
  refine hI.grow ⟨by simp, hw, fun _ _ => rfl, fun k hk h0 => ?_, fun k hk => ?_, by simp, rfl, fun i o k ho hk => ?_, Nat.le_refl _, fun i cs j r b ho => ?_, rfl, rfl, rfl⟩
  ·rw [hI.core.c_zero hk] at h0; omega
  ·simp at hk; subst hk; exact ⟨Nat.le_refl _, hI.core.c_zero (Nat.le_refl _)⟩
  ·cases i with
   | zero => simp at ho hk; subst ho; subst hk; simp [ObR]
   | succ i => simp at ho
  ·cases i with
   | zero => simp at ho
   | succ i => simp at ho
 refine ⟨_, _, _, _, does_of (s := Instr.range t (a.eval x)) (by simp [execOp, ho]) (x := .pointer (some ⟨w.heap.size, 0, none⟩)) (w' := { w with heap := w.heap.push (.stringIter b 0) }) ?_, hI'.putBare hd (new_ptr hI.core.len) rfl (.inl hv)⟩
 simp [Instr.range, hx', run_underlying hu]
theorem eff_next (hI : InvP vars E m c w g h a) {o : Oper} {x : Operand} {i pos : Nat} {s : ByteArray} (ho : o.op = .next x true) (hx : opd g x = .ptr i 0) (hh : h[i]? = some (.iter s pos)) (hlo : E.lo <= i) (hnt : ∀ t i j r, look g t ≠ .list (.cell i j) r)
  (hd : ∀ t, o.dst = some t -> t < E.nt) (hv : ∀ t, o.dst = some t -> t ∉ vars) :
  if pos < s.size then Done P vars E w a o (.tup [.v (.bool true), .v (.int .i64 pos), .v (.int .i32 (Utf8.decode s pos).1)]) g (h.set i (.iter s (pos + (Utf8.decode s pos).2)))
  else Done P vars E w a o (.tup [.v (.bool false)]) g h := by
 obtain ⟨gb, hm, hxv⟩ := (by have := hI.core.opd x; rw [hx] at this; exact this : ∃ gb, m[i]? = some gb /\ a.eval x = .pointer (some ⟨gb, 0, none⟩))
 have hob : w.heap[gb]? = some (.stringIter s pos) := hI.core.ob i _ gb hh hm
 have hget : (getObj gb).run P w = .ok (.stringIter s pos) w := by simp [getObj, Sem.run, hob]
 split
 ·rename_i hlt
  have hset : ∀ o', ({ w with heap := w.heap.setIfInBounds gb o' } : World).heap[gb]? = some o' := fun o' => by
   have := (Array.getElem?_eq_some_iff.1 hob).1
   simp [this]
  have hoth : ∀ o' k, k ≠ gb -> ({ w with heap := w.heap.setIfInBounds gb o' } : World).heap[k]? = w.heap[k]? := fun o' k hk => by
   show (w.heap.setIfInBounds gb o')[k]? = _
   rw [Array.getElem?_setIfInBounds_ne (Ne.symm hk)]
  have hI' := hI.setOb (o' := .iter s (pos + (Utf8.decode s pos).2)) (w' := { w with heap := w.heap.setIfInBounds gb (.stringIter s (pos + (Utf8.decode s pos).2)) }) 0 hlo hm (by simp) (hoth _) rfl rfl rfl (hset _)
   (fun cs' j r x hc => by cases hc) hnt (fun cs' hc => by cases hc) (fun arr e f hb => by rw [hob] at hb; cases hb)
  refine ⟨.tuple #[.bool true, .int .i64 pos, .int .i32 (Utf8.decode s pos).1], _, m, c, does_of (s := Instr.next (a.eval x) true o.type) (by simp [execOp, ho]) ?_, hI'.putBare hd ?_ rfl (.inl hv)⟩
  ·simp only [Instr.next, hxv, Sem.run_bind, hget, Result.andThen_ok, hlt, if_true]
   simp [setObj, Sem.run, hob, goInt]
  ·exact ⟨_, rfl, R2.cons rfl (R2.cons rfl (R2.cons rfl R2.nil))⟩
 ·rename_i hge
  refine ⟨.tuple #[.bool false], w, m, c, does_of (s := Instr.next (a.eval x) true o.type) (by simp [execOp, ho]) ?_, hI.putBare hd ⟨_, rfl, R2.cons rfl R2.nil⟩ rfl (.inl hv)⟩
  simp only [Instr.next, hxv, Sem.run_bind, hget, Result.andThen_ok, if_neg hge]
  rfl
theorem VP_new {k : Own} {rows : List (List V)} {b cap sz : Nat} {arr : Array Value} {e : TypeId} {f : Nat × Nat} (hw : w.heap[b]? = some (.cells arr e f)) (hsz : 0 < sz) (hrow : ∀ row ∈ rows, row.length = sz) (hcap : rows.length <= cap) (hc : rows.length * sz <= c b)
  (hrel : ∀ (i j : Nat) row v, rows[i]? = some row -> row[j]? = some v -> ∃ x, arr[i * sz + j]? = some x /\ VP c w v x) : VP c w (.list k rows) (.slice (some ⟨b, 0, none⟩) rows.length cap) := by
 by_cases hne : rows = []
 ·subst hne; exact .empty _ _ _
 ·refine .list k rows ⟨b, 0, none⟩ cap sz (fun i j => arr.getD (i * sz + j) undef) hne hsz rfl hcap (by simpa using hc) (fun i row hi => hrow row (List.mem_of_getElem? hi)) (fun i j row v hi hj => ?_) (fun i j row v hi hj => ?_)
  ·obtain ⟨x, hx, hv⟩ := hrel i j row v hi hj
   rw [cell_arr hw]
   simp [hx]
  ·obtain ⟨x, hx, hv⟩ := hrel i j row v hi hj
   simpa [hx] using hv
theorem VP_of_pure {v : V} {x : Value} (hv : VR1 m c w v x) (hp : pure1 v = true) : VP c w v x := by
 cases v with
 | v z => have : x = z := hv; subst this; exact .v _ hp
 | list k r => exact hv
 | _ => cases hp
theorem grow_claim (hI : InvP vars E m c w g h a) {arr : Array Value} {e : TypeId} {f : Nat × Nat} {w' : World} (n : Nat) (hw : w'.heap = w.heap.push (.cells arr e f)) (hos : w'.os = w.os) (htape : w'.tape = w.tape) (hout : w'.output = w.output) (hn : n <= arr.size) :
  InvP vars E m (fun b => if b = w.heap.size then n else c b) w' g h a := by
 have hold : ∀ b, b < w.heap.size -> w'.heap[b]? = w.heap[b]? := fun b hb => by rw [hw, Array.getElem?_push]; simp [show ¬ b = w.heap.size by omega]
 refine hI.grown none (by rw [hw]; simp) (fun b hb _ => ⟨hold b hb, by simp [show ¬ b = w.heap.size by omega]⟩) (fun b hb => by cases hb) (fun b hb _ h0 => ?_) hos htape hout
 by_cases hbe : b = w.heap.size
 ·subst hbe
  exact ⟨arr, e, f, by rw [hw]; simp, by simpa using hn⟩
 ·simp only [if_neg hbe] at h0
  rw [hI.core.c_zero hb] at h0; omega
theorem byteRows_get {s : ByteArray} {i j : Nat} {row : List V} {v : V} (hi : (byteRows s)[i]? = some row) (hj : row[j]? = some v) : ∃ c : UInt8, s.data[i]? = some c /\ j = 0 /\ v = .v (.int .u8 c.toNat) := by
 unfold byteRows at hi
 simp only [List.getElem?_map, Option.map_eq_some_iff] at hi
 obtain ⟨c, hc, rfl⟩ := hi
 cases j with
 | zero => simp at hj; exact ⟨c, by simpa using hc, rfl, hj.symm⟩
 | succ j => simp at hj
theorem eff_convert (hI : InvP vars E m c w g h a) {o : Oper} {s d : TypeId} {x : Operand} {mutc : Bool} {v : V} {g' : Env} {h' : Heap} (ho : o.op = .convert s d x) (hs : P.underlying s = some .string)
  (he : (match P.underlying s, P.underlying d, opd g x with
   | some .string, some (.slice e), .v (.string y) =>
    if isU8 P e then
     if mutc then some (V.buf h.length 0 y.size, (g, h ++ [Ob.cells (byteCells y)]))
     else some (.list .no (byteRows y), (g, h))
    else none
   | some .string, some .string, .v (.string y) => some (.v (.string y), (g, h))
   | _, _, _ => none) = some (v, g', h')) (hd : ∀ t, o.dst = some t -> t < E.nt) (hv : ∀ t, o.dst = some t -> t ∉ vars) :
  Done P vars E w a o v g' h' := by
 split at he
 ·rename_i e y h1 h2 h3
  have hx' : a.eval x = .string y := by have := hI.core.opd x; rw [h3] at this; exact this
  split at he
  ·rename_i hu
   have hu := is_u8 hu
   have hrun := run_bytes_of_string (P := P) w s d e y hs h2 hu
   have hdo : Does P w a o (.slice (some ⟨w.heap.size, 0, none⟩) y.size (grownCap w y.size 0 e)) _ := does_of (s := convert s d (a.eval x)) (by simp [execOp, ho]) (by rw [hx']; exact hrun)
   have hge : y.size <= grownCap w y.size 0 e := grownCap_ge w y.size 0 e
   have hrowget : ∀ (j : Nat) (c : UInt8), y.data[j]? = some c -> (bytesRow y (grownCap w y.size 0 e))[j]? = some (.int .u8 c.toNat) := fun j c hc => by
    have hl := (Array.getElem?_eq_some_iff.1 hc).1
    unfold bytesRow
    rw [Array.getElem?_append_left (by simpa using hl)]
    simp [hc]
   have hrowsz : y.size <= (bytesRow y (grownCap w y.size 0 e)).size := by
    unfold bytesRow
    simp
   split at he
   ·cases he
    have hI' := grow_cells hI (cs := byteCells y) (arr := bytesRow y (grownCap w y.size 0 e)) (e := e) (f := ((bytesRow y (grownCap w y.size 0 e)).size, (bytesRow y (grownCap w y.size 0 e)).size + 1)) (w' := w.drew.alloc (.cells (bytesRow y (grownCap w y.size 0 e)) e ((bytesRow y (grownCap w y.size 0 e)).size, (bytesRow y (grownCap w y.size 0 e)).size + 1))) rfl rfl rfl rfl
     (fun j hj => by
      have : (byteCells y).length = y.size := by simp [byteCells]
      omega) (by simp [byteCells]; exact hrowsz)
     (fun j v x hv hx => by
      unfold byteCells at hv
      simp only [List.getElem?_map, Option.map_eq_some_iff] at hv
      obtain ⟨c, hc, rfl⟩ := hv
      rw [hrowget j c (by simpa using hc)] at hx
      cases hx
      exact ⟨rfl, rfl⟩)
     (fun j r hj => by
      unfold byteCells at hj
      simp only [List.getElem?_map, Option.map_eq_some_iff] at hj
      obtain ⟨c, _, hc⟩ := hj
      cases hc)
     (fun T hT hc => by
      exfalso
      obtain ⟨x, k2, k3⟩ := isBld_iff.1 hc
      unfold byteCells at k2
      simp only [List.getElem?_map, Option.map_eq_some_iff] at k2
      obtain ⟨c, _, rfl⟩ := k2
      cases k3)
    refine ⟨_, _, _, _, hdo, hI'.putBare hd ⟨w.heap.size, _, by rw [<- hI.core.len]; simp, rfl, hge⟩ rfl (.inl hv)⟩
   ·cases he
    have hI' := grow_claim hI (arr := bytesRow y (grownCap w y.size 0 e)) (e := e) (f := ((bytesRow y (grownCap w y.size 0 e)).size, (bytesRow y (grownCap w y.size 0 e)).size + 1)) (w' := w.drew.alloc (.cells (bytesRow y (grownCap w y.size 0 e)) e ((bytesRow y (grownCap w y.size 0 e)).size, (bytesRow y (grownCap w y.size 0 e)).size + 1))) y.size rfl rfl rfl rfl hrowsz
    refine ⟨_, _, _, _, hdo, hI'.putBare hd ?_ rfl (.inl hv)⟩
    have hlen : (byteRows y).length = y.size := by simp [byteRows]
    have key : VP (fun b => if b = w.heap.size then y.size else c b) (w.drew.alloc (.cells (bytesRow y (grownCap w y.size 0 e)) e ((bytesRow y (grownCap w y.size 0 e)).size, (bytesRow y (grownCap w y.size 0 e)).size + 1)))
      (.list .no (byteRows y)) (.slice (some ⟨w.heap.size, 0, none⟩) (byteRows y).length (grownCap w y.size 0 e)) := by
     refine VP_new (sz := 1) (hw := heap_alloc_new w.drew _) Nat.one_pos (fun row hr => ?_) (by rw [hlen]; exact hge) (by simp [hlen]) (fun i j row v hi hj => ?_)
     ·unfold byteRows at hr
      simp only [List.mem_map] at hr
      obtain ⟨c, _, rfl⟩ := hr
      rfl
     ·obtain ⟨c, hc, rfl, rfl⟩ := byteRows_get hi hj
      exact ⟨_, by simpa using hrowget i c hc, .v _ rfl⟩
    rw [hlen] at key
    exact key
  ·cases he
 ·rename_i y h1 h2 h3
  cases he
  have hx' : a.eval x = .string y := by have := hI.core.opd x; rw [h3] at this; exact this
  exact ⟨.string y, w, m, c, does_of (s := convert s d (a.eval x)) (by simp [execOp, ho]) (by simp [hx', convert, run_underlying h1, run_underlying h2]), hI.putBare hd rfl rfl (.inl hv)⟩
 ·cases he
end
end Go.Lift
end

section
namespace Go.Lift
open Go.MapKept
variable [GTab] [BTy]
theorem sameT_now {d : TypeDesc} {k : Value} (hk : keyT d k = true) (j : Value) : Instr.sameNow d k j = sameT d k j := by
 cases d <;> cases k <;> simp [keyT] at hk <;> cases j <;> simp [Instr.sameNow, sameT]
 rw [beq_toListBytes]
theorem findT_now {d : TypeDesc} {k : Value} (hk : keyT d k = true) : ∀ (l : List MapEntry) (i : Nat), Instr.findNow d k l i = findT d k (l.map fun e => (e.key, e.val)) i
 | [], _ => rfl
 | e :: es, i => by
  simp only [Instr.findNow, List.map_cons, findT, sameT_now hk]
  rw [findT_now hk es (i + 1)]
  split <;> simp_all
theorem keyT_is {d : TypeDesc} {k : Value} (h : keyT d k = true) : IsKey d k := by
 cases d <;> cases k <;> simp [keyT] at h <;> simp [IsKey]
 exact h.symm
theorem sameT_eq {d : TypeDesc} {k j : Value} (hk : keyT d k = true) (h : sameT d k j = some true) : k = j := by
 cases d <;> cases k <;> simp [keyT] at hk <;> cases j <;> simp [sameT] at h
 ·rw [h.1, h.2]
 ·rename_i a b
  have : (a == b) = true := by rw [beq_toListBytes]; simpa using h
  rw [(bytes_beq a b).1 this]
theorem findT_get {d : TypeDesc} {k : Value} (hk : keyT d k = true) : ∀ {l : List (Value × Value)} {i n : Nat} {x : Value}, findT d k l i = some (some (n, x)) -> ∃ j, n = i + j /\ l[j]? = some (k, x)
 | [], _, _, _, h => by simp [findT] at h
 | e :: es, i, n, x, h => by
  simp only [findT] at h
  split at h
  ·rename_i hs
   simp only [Option.some.injEq, Prod.mk.injEq] at h
   obtain ⟨rfl, rfl⟩ := h
   refine ⟨0, rfl, ?_⟩
   have := sameT_eq hk hs
   obtain ⟨a, b⟩ := e
   simp only at this
   rw [this]; rfl
  ·obtain ⟨j, hj, hl⟩ := findT_get hk h
   exact ⟨j + 1, by omega, by simpa using hl⟩
  ·cases h
theorem zero1_spec {P : Program} {w : World} {t : TypeId} {z : Value} (hz : zero1 P t = some z) : (zeroValue t).run P w = .ok z w := by
 unfold zero1 at hz
 cases hi : P.info? t with
 | none => simp [hi] at hz
 | some i =>
  cases hz0 : i.zero with
  | none => simp [hi, hz0] at hz
  | some zv =>
   simp only [hi, Option.bind_some, hz0] at hz
   have : zv = z := by
    split at hz <;> first | (rename_i q; cases q; cases hz; rfl) | cases hz
   subst this
   simp [zeroValue, typeInfo, hi, hz0]
section
variable {P : Program} {vars : List Nat} {m : List Nat} {c : Cl} {w : World} {g : Env} {h : Heap} {a : Act} {E : Entry}
theorem eff_makeMap (hI : InvP vars E m c w g h a) {o : Oper} {t kt et : TypeId} (ho : o.op = .makeMap t none) (hd : ∀ t, o.dst = some t -> t < E.nt) (hv : ∀ t, o.dst = some t -> t ∉ vars) :
  Done P vars E w a o (.mp h.length) g (h ++ [.tab []]) := by
 have hw : ∀ k, k < w.heap.size -> ({ w with heap := w.heap.push (.map #[] 0) } : World).heap[k]? = w.heap[k]? := fun k hk => by
  show (w.heap.push _)[k]? = _
  rw [Array.getElem?_push]; simp [show ¬ k = w.heap.size by omega]
 have hI' : InvP vars E (m ++ [w.heap.size]) c { w with heap := w.heap.push (.map #[] 0) } g (h ++ [.tab []]) a := by
  refine hI.grow ⟨by simp, hw, fun _ _ => rfl, fun k hk h0 => ?_, fun k hk => ?_, by simp, rfl, fun i o k ho hk => ?_, Nat.le_refl _, fun i cs j r b ho => ?_, rfl, rfl, rfl⟩
  ·rw [hI.core.c_zero hk] at h0; omega
  ·simp at hk; subst hk; exact ⟨Nat.le_refl _, hI.core.c_zero (Nat.le_refl _)⟩
  ·cases i with
   | zero => simp at ho hk; subst ho; subst hk; exact ⟨#[], 0, by simp, rfl⟩
   | succ i => simp at ho
  ·cases i with
   | zero => simp at ho
   | succ i => simp at ho
 refine ⟨.map (some w.heap.size), _, _, _, does_of (s := Instr.makeMap t none) (by simp [execOp, ho]) (w' := { w with heap := w.heap.push (.map #[] 0) }) rfl, hI'.putBare hd ⟨w.heap.size, ?_, rfl⟩ rfl (.inl hv)⟩
 have := hI.core.len
 rw [<- this]; simp
theorem map_at (hI : InvP vars E m c w g h a) {x : Operand} {i : Nat} {es : List (Value × Value)} (hx : opd g x = .mp i) (hh : h[i]? = some (.tab es)) :
  ∃ gb arr clock, m[i]? = some gb /\ a.eval x = .map (some gb) /\ w.heap[gb]? = some (.map arr clock) /\ arr.toList.map (fun e => (e.key, e.val)) = es := by
 obtain ⟨gb, hm, hxv⟩ := (by have := hI.core.opd x; rw [hx] at this; exact this : ∃ gb, m[i]? = some gb /\ a.eval x = .map (some gb))
 obtain ⟨arr, clock, h1, h2⟩ := hI.core.ob i _ gb hh hm
 exact ⟨gb, arr, clock, hm, hxv, h1, h2⟩
theorem eff_lookup (hI : InvP vars E m c w g h a) {o : Oper} {t : TypeId} {x k : Operand} {two : Bool} {v : V} (ho : o.op = .lookup t x k two) (hl : lookupV P (g, h) t two (opd g x) (opd g k) = some v)
  (hd : ∀ t, o.dst = some t -> t < E.nt) (hv : ∀ t, o.dst = some t -> t ∉ vars) : Done P vars E w a o v g h := by
 unfold lookupV at hl
 split at hl
 ·rename_i b kv hx hk
  split at hl
  ·rename_i es kt et hes hu
   obtain ⟨gb, arr, clock, hm, hxv, hb, he⟩ := map_at hI hx hes
   have hkv : a.eval k = kv := by have := hI.core.opd k; rw [hk] at this; exact this
   unfold lookT at hl
   split at hl
   ·rename_i d hdd
    split at hl
    ·rename_i hkey
     have hIs := keyT_is hkey
     have hfe := findT_now hkey arr.toList 0
     rw [he] at hfe
     split at hl
     ·rename_i _ n y hf
      rw [hf] at hfe
      simp only [Option.some.injEq] at hl
      subst hl
      cases two with
      | true =>
       refine ⟨.tuple #[y, .bool true], w, m, c, does_of (s := Instr.lookup t (a.eval x) (a.eval k) true) (by simp [execOp, ho]) ?_, hI.putBare hd ⟨_, rfl, R2.cons rfl (R2.cons rfl R2.nil)⟩ rfl (.inl hv)⟩
       rw [hxv, hkv]
       simp [Instr.lookup, run_underlying hu, MapKept.run_getObj_map hb, run_checkKey hdd hIs, run_findKey hdd hfe, Result.andThen]
      | false =>
       refine ⟨y, w, m, c, does_of (s := Instr.lookup t (a.eval x) (a.eval k) false) (by simp [execOp, ho]) ?_, hI.putBare hd rfl rfl (.inl hv)⟩
       rw [hxv, hkv]
       simp [Instr.lookup, run_underlying hu, MapKept.run_getObj_map hb, run_checkKey hdd hIs, run_findKey hdd hfe, Result.andThen]
     ·rename_i z hf hz
      rw [hf] at hfe
      simp only [Option.some.injEq] at hl
      subst hl
      have hz1 := zero1_spec (w := w) hz
      cases two with
      | true =>
       refine ⟨.tuple #[z, .bool false], w, m, c, does_of (s := Instr.lookup t (a.eval x) (a.eval k) true) (by simp [execOp, ho]) ?_, hI.putBare hd ⟨_, rfl, R2.cons rfl (R2.cons rfl R2.nil)⟩ rfl (.inl hv)⟩
       rw [hxv, hkv]
       simp [Instr.lookup, run_underlying hu, MapKept.run_getObj_map hb, run_checkKey hdd hIs, run_findKey hdd hfe, hz1, Result.andThen]
      | false =>
       refine ⟨z, w, m, c, does_of (s := Instr.lookup t (a.eval x) (a.eval k) false) (by simp [execOp, ho]) ?_, hI.putBare hd rfl rfl (.inl hv)⟩
       rw [hxv, hkv]
       simp [Instr.lookup, run_underlying hu, MapKept.run_getObj_map hb, run_checkKey hdd hIs, run_findKey hdd hfe, hz1, Result.andThen]
     ·cases hl
    ·cases hl
   ·cases hl
  ·cases hl
 ·cases hl
theorem eff_insert (hI : InvP vars E m c w g h a) {o : Oper} {t : TypeId} {x k y : Operand} {s' : St} (ho : o.op = .insert t x k y \/ o.op = .mapUpdate t x k y) (hl : insertV P E.lo (g, h) t (opd g x) (opd g k) (opd g y) = some s')
  (hd : ∀ t, o.dst = some t -> t < E.nt) (hv : ∀ t, o.dst = some t -> t ∉ vars) : Done P vars E w a o (.v undef) s'.1 s'.2 := by
 unfold insertV at hl
 split at hl
 ·rename_i b kv xv hx hk hy
  split at hl
  ·rename_i es kt et hes hu
   split at hl
   ·rename_i hlo
    simp only [Option.map_eq_some_iff] at hl
    obtain ⟨es', hp, rfl⟩ := hl
    obtain ⟨gb, arr, clock, hm, hxv, hb, he⟩ := map_at hI hx hes
    have hkv : a.eval k = kv := by have := hI.core.opd k; rw [hk] at this; exact this
    have hyv : a.eval y = xv := by have := hI.core.opd y; rw [hy] at this; exact this
    have hsz : ∀ o', ({ w with heap := w.heap.setIfInBounds gb o' } : World).heap.size = w.heap.size := fun o' => by simp
    have hset : ∀ o', ({ w with heap := w.heap.setIfInBounds gb o' } : World).heap[gb]? = some o' := fun o' => (heap_set hb).1
    have hoth : ∀ o' k, k ≠ gb -> ({ w with heap := w.heap.setIfInBounds gb o' } : World).heap[k]? = w.heap[k]? := fun o' k hk => (heap_set hb).2 k hk
    have fin : ∀ (arr' : Array MapEntry) (clock' : Nat), (Instr.mapUpdate t (.map (some gb)) kv xv).run P w = .ok () { w with heap := w.heap.setIfInBounds gb (.map arr' clock') } -> arr'.toList.map (fun e => (e.key, e.val)) = es' ->
      Done P vars E w a o (.v undef) (untag g) (h.set b (.tab es')) := by
     intro arr' clock' hrun hes'
     have hI' := hI.untag.setOb (o' := .tab es') (w' := { w with heap := w.heap.setIfInBounds gb (.map arr' clock') }) 0 hlo hm (by simp) (hoth _) rfl rfl rfl ⟨arr', clock', hset _, hes'⟩
      (fun cs' j r x hc => by cases hc) (fun t i j r => noTagC t i j r) (fun cs' hc => by cases hc) (fun arr e f hb' => by rw [hb] at hb'; cases hb')
     refine ⟨undef, _, m, c, ?_, hI'.putBare hd rfl rfl (.inl hv)⟩
     refine .inr ⟨?_, rfl⟩
     have he : execOp a.eval o = (do Instr.mapUpdate t (a.eval x) (a.eval k) (a.eval y); pure Next.skip) := by
      rcases ho with ho | ho <;> simp [execOp, ho]
     rw [he, hxv, hkv, hyv, Sem.run_bind, hrun]
     rfl
    unfold putT at hp
    split at hp
    ·rename_i d hdd
     split at hp
     ·rename_i hkey
      have hIs := keyT_is hkey
      have hfe := findT_now hkey arr.toList 0
      rw [he] at hfe
      split at hp
      ·rename_i n y hf
       rw [hf] at hfe
       simp only [Option.some.injEq] at hp
       obtain ⟨j, hj, hge⟩ := findT_get hkey hf
       rw [Nat.zero_add] at hj
       subst hj
       have hgj : ∃ e, arr[n]? = some e /\ e.key = kv := by
        rw [<- he, List.getElem?_map, Option.map_eq_some_iff] at hge
        obtain ⟨e, h1, h2⟩ := hge
        exact ⟨e, by simpa using h1, (Prod.mk.inj h2).1⟩
       obtain ⟨e, hen, hek⟩ := hgj
       refine fin (arr.modify n fun e => { e with key := kv, val := xv }) clock ?_ ?_
       ·simp [Instr.mapUpdate, run_underlying hu, MapKept.run_getObj_map hb, run_checkKey hdd hIs, run_findKey hdd hfe, hen, hek, run_keyThatStays hIs, run_setObj_map _ hb, Result.andThen]
       ·rw [<- hp, <- he]
        apply List.ext_getElem?
        intro q
        simp only [List.getElem?_map, Array.getElem?_toList, Array.getElem?_modify, List.getElem?_set, List.length_map, Array.length_toList]
        by_cases hq : n = q
        ·subst hq
         simp [hen, (Array.getElem?_eq_some_iff.1 hen).1]
        ·simp [hq]
      ·rename_i hf
       rw [hf] at hfe
       simp only [Option.some.injEq] at hp
       refine fin (arr.push { key := kv, val := xv, born := clock }) (clock + 1) ?_ ?_
       ·simp [Instr.mapUpdate, run_underlying hu, MapKept.run_getObj_map hb, run_checkKey hdd hIs, run_findKey hdd hfe, run_setObj_map _ hb, Result.andThen]
       ·rw [<- hp, <- he]; simp
      ·cases hp
     ·cases hp
    ·cases hp
   ·cases hl
  ·cases hl
 ·cases hl
end
end Go.Lift
end

section
namespace Go.Lift
variable [GTab] [BTy]
section
variable {P : Program} {vars : List Nat} {m : List Nat} {c : Cl} {w : World} {g : Env} {h : Heap} {a : Act} {E : Entry}
theorem fill_rows (sz : Nat) : ∀ (qs : List (Nat × Value)) (k : Nat) (zs : Array Value), qs.map (·.1) = List.range' k qs.length -> (∀ q ∈ qs, q.2.cells.size = sz) -> (k + qs.length) * sz <= zs.size ->
  ∃ ys : Array Value, Instr.fill (fun i => some (i * sz, sz)) zs qs = some ys /\ ys.toList = zs.toList.take (k * sz) ++ (qs.map (fun q => q.2.cells.toList)).flatten ++ zs.toList.drop ((k + qs.length) * sz)
 | [], k, zs, _, _, _ => ⟨zs, rfl, by simp⟩
 | (i, v) :: qs, k, zs, hi, hs, hz => by
  simp only [List.map_cons, List.length_cons, List.range'_succ, List.cons.injEq] at hi
  obtain ⟨rfl, hi⟩ := hi
  have hv : v.cells.size = sz := hs (i, v) (by simp)
  simp only [List.length_cons] at hz
  have hb : (i + 1) * sz <= zs.size := Nat.le_trans (Nat.mul_le_mul_right _ (by omega)) hz
  rw [Nat.add_mul, Nat.one_mul] at hb
  have hfold : (v.cells.zipIdx.foldl (fun cs (x, j) => cs.setIfInBounds (i * sz + j) x) zs).toList = zs.toList.take (i * sz) ++ v.cells.toList ++ zs.toList.drop (i * sz + sz) := by
   have hf := fold_splice (i * sz) v.cells.toList 0 zs (by simp [hv]; omega)
   simp only [Nat.add_zero, Array.length_toList, hv] at hf
   rw [<- hf, <- Array.foldl_toList, Array.toList_zipIdx]
  obtain ⟨ys, hy1, hy2⟩ := fill_rows sz qs (i + 1) (v.cells.zipIdx.foldl (fun cs (x, j) => cs.setIfInBounds (i * sz + j) x) zs) hi (fun q hq => hs q (by simp [hq])) (by
   have := congrArg List.length hfold
   simp only [Array.length_toList, List.length_append, List.length_take, List.length_drop, hv] at this
   rw [this, show i + 1 + qs.length = i + (qs.length + 1) by omega]
   omega)
  refine ⟨ys, ?_, ?_⟩
  ·unfold Instr.fill
   simp only [hv]
   rw [if_neg (by simp; omega)]
   exact hy1
  ·rw [hy2, hfold]
   have hl1 : (zs.toList.take (i * sz) ++ v.cells.toList).length = (i + 1) * sz := by
    simp only [List.length_append, List.length_take, Array.length_toList, hv]
    rw [Nat.add_mul]; omega
   rw [List.take_append_of_le_length (by rw [hl1]; exact Nat.le_refl _), List.take_of_length_le (by rw [hl1]; exact Nat.le_refl _)]
   rw [List.drop_append, hl1]
   have hd : (zs.toList.take (i * sz) ++ v.cells.toList).drop ((i + 1 + qs.length) * sz) = [] := by
    apply List.drop_eq_nil_of_le
    rw [hl1]
    exact Nat.mul_le_mul_right _ (by omega)
   rw [hd, List.nil_append, List.drop_drop]
   simp only [List.map_cons, List.flatten_cons, List.length_cons, List.append_assoc]
   congr 4
   rw [show i + (qs.length + 1) = (i + 1 + qs.length) by omega]
   have : (i + 1) * sz <= (i + 1 + qs.length) * sz := Nat.mul_le_mul_right _ (by omega)
   rw [Nat.add_mul i 1] at this ⊢
   omega
theorem flat_get {α : Type} {sz : Nat} : ∀ {l : List (List α)} {i j : Nat} {row : List α}, (∀ r ∈ l, r.length = sz) -> l[i]? = some row -> j < sz -> l.flatten[i * sz + j]? = row[j]?
 | [], i, j, row, _, hi, _ => by simp at hi
 | r :: l, i, j, row, hs, hi, hj => by
  have hr : r.length = sz := hs r (by simp)
  rw [List.flatten_cons]
  cases i with
  | zero =>
   simp at hi
   subst hi
   rw [Nat.zero_mul, Nat.zero_add, List.getElem?_append_left (by omega)]
  | succ i =>
   rw [List.getElem?_append_right (by rw [hr, Nat.add_mul]; omega), hr, show (i + 1) * sz + j - sz = i * sz + j by rw [Nat.add_mul]; omega]
   exact flat_get (fun q hq => hs q (by simp [hq])) (by simpa using hi) hj
theorem flat_len {α : Type} {sz : Nat} : ∀ {l : List (List α)}, (∀ r ∈ l, r.length = sz) -> l.flatten.length = l.length * sz
 | [], _ => by simp
 | r :: l, hs => by
  rw [List.flatten_cons, List.length_append, hs r (by simp), flat_len (fun q hq => hs q (by simp [hq])), List.length_cons, Nat.add_mul]
  omega
theorem exec_buildSlice (ρ : Operand -> Value) {o : Oper} {t : TypeId} {n : Nat} {parts : Array (Nat × Operand)} (ho : o.op = .buildSlice t n parts) :
  execOp ρ o = (do pure (Next.value (<- Instr.buildSlice t n (parts.map fun p => (p.1, ρ p.2))))) := by
 unfold execOp
 rw [ho]
theorem does_build {w' : World} {o : Oper} {t : TypeId} {n : Nat} {parts : Array (Nat × Operand)} (ho : o.op = .buildSlice t n parts) {x : Value}
  (hr : (Instr.buildSlice t n (parts.map fun p => (p.1, a.eval p.2))).run P w = .ok x w') : Does P w a o x w' := does_of (exec_buildSlice a.eval ho) hr
theorem run_build (w : World) {t e : TypeId} {n : Nat} {qs : Array (Nat × Value)} {ie : TypeInfo} {zv : Value} (hu : P.underlying t = some (.slice e)) (hie : P.info? e = some ie) (hzv : (zeroValue e).run P w = .ok zv w)
  (hn : qs.size = n) (hi : qs.toList.map (·.1) = List.range n) (hs : ∀ q ∈ qs.toList, q.2.cells.size = ie.size) (hle : n * ie.size <= 16777216) :
  ∃ arr : Array Value, arr.toList = (qs.toList.map fun q => q.2.cells.toList).flatten /\
   (Instr.buildSlice t n qs).run P w = .ok (.slice (some ⟨w.heap.size, 0, none⟩) n n) { w with heap := w.heap.push (.cells arr e) } := by
 have hle' : ¬ n * ie.size > 2 ^ 24 := by
  have : (2 : Nat) ^ 24 = 16777216 := by decide
  omega
 have hfill := fun z : Array Value => fill_rows ie.size qs.toList 0 ((Array.range (n * ie.size)).map (z[· % z.size]!)) (by rw [hi, List.range_eq_range', Array.length_toList, hn]) hs (by simp [hn])
 by_cases h0 : n * ie.size = 0
 ·obtain ⟨ys, h1, h2⟩ := hfill #[]
  refine ⟨ys, ?_, ?_⟩
  ·rw [h2]
   have hz1 : ((Array.range (n * ie.size)).map ((#[] : Array Value)[· % (#[] : Array Value).size]!)).toList = [] := by rw [h0]; simp
   rw [hz1]
   simp
  ·unfold Instr.buildSlice
   simp only [Sem.run_bind, run_underlying hu, Result.andThen_ok, run_sizeOf hie, if_neg hle', if_pos h0, Sem.run_pure]
   simp only [h1]
   rfl
 ·obtain ⟨ys, h1, h2⟩ := hfill zv.cells
  refine ⟨ys, ?_, ?_⟩
  ·rw [h2, Nat.zero_mul, List.take_zero, List.nil_append, List.drop_eq_nil_of_le, List.append_nil]
   simp [hn]
  ·unfold Instr.buildSlice
   simp only [Sem.run_bind, run_underlying hu, Result.andThen_ok, run_sizeOf hie, if_neg hle', if_neg h0, Sem.run_pure, hzv]
   simp only [h1]
   rfl
set_option maxHeartbeats 400000 in
theorem byT_of {e : TypeId} {r q : List (List V)} (hb : byT e r q = true) : ∀ T, BTy.bb = some T -> isByteRow (r ++ q) = true -> e = T := fun T hT hc => by
 unfold byT at hb
 rw [hT] at hb
 simp only [Bool.or_eq_true, beq_iff_eq, Bool.and_eq_true, Bool.not_eq_true'] at hb
 rcases hb with hb | ⟨h1, h2⟩
 ·exact hb
 ·exfalso
  cases r with
  | nil => rw [List.nil_append, h2] at hc; cases hc
  | cons x r =>
   have : isByteRow (x :: r ++ q) = isByteRow (x :: r) := rfl
   rw [this, h1] at hc
   cases hc
theorem isByteRow_app {r q : List (List V)} (h : r ≠ []) : isByteRow (r ++ q) = isByteRow r := by
 cases r with
 | nil => exact absurd rfl h
 | cons x r => rfl
theorem eff_buildSlice (hI : InvP vars E m c w g h a) {o : Oper} {t e : TypeId} {n : Nat} {parts : Array (Nat × Operand)} (ho : o.op = .buildSlice t n parts) (hu : P.underlying t = some (.slice e))
  (hc : (parts.toList.map (·.1)) = List.range n /\ (tzero P e).isSome = true /\ 0 < tsize P e /\ n * tsize P e <= 16777216 /\ ((parts.toList.map fun p => cellsV (fzs (opd g p.2))).all fun r => r.length == tsize P e && r.all pure1) = true /\ byT e [] (parts.toList.map fun p => cellsV (fzs (opd g p.2))) = true)
  (hd : ∀ t, o.dst = some t -> t < E.nt) (hv : ∀ t, o.dst = some t -> t ∉ vars) :
  Done P vars E w a o (.list .yes (parts.toList.map fun p => cellsV (fzs (opd g p.2)))) g h := by
 obtain ⟨c1, c2, c3, c4, c5, c6⟩ := hc
 have hn : parts.toList.length = n := by have := congrArg List.length c1; simpa using this
 have hall : ∀ p ∈ parts.toList, (cellsV (fzs (opd g p.2))).length = tsize P e /\ ∀ v ∈ cellsV (fzs (opd g p.2)), pure1 v = true := fun p hp => by
  have := List.all_eq_true.1 c5 _ (List.mem_map.2 ⟨p, hp, rfl⟩)
  simpa using this
 have hrel : ∀ p ∈ parts.toList, R2 (VR1 m c w) (cellsV (fzs (opd g p.2))) (a.eval p.2).cells.toList := fun p hp => by
  refine cells_rel (hI.core.opd p.2).fzs ?_
  have h2 := (hall p hp).2
  cases hq : fzs (opd g p.2) <;> first | rfl | (rw [hq] at h2; have := h2 _ (List.mem_singleton.2 rfl); first | exact this | cases this)
 obtain ⟨ie, hie⟩ : ∃ ie, P.info? e = some ie := by
  cases hie : P.info? e with
  | some ie => exact ⟨ie, rfl⟩
  | none => simp [tsize, Program.cellsOf, hie] at c3
 have hsz := size_of_info hie
 obtain ⟨z0, hz0⟩ := Option.isSome_iff_exists.1 c2
 obtain ⟨zv, hzv, rfl⟩ := tzero_spec (w := w) hz0
 have hflat : (((parts.map fun p => (p.1, a.eval p.2)).toList).map (fun q => q.2.cells.toList)) = parts.toList.map fun p => (a.eval p.2).cells.toList := by
  simp only [Array.toList_map, List.map_map]
  apply List.map_congr_left
  intro p _
  rfl
 have hlen2 : ∀ r ∈ parts.toList.map fun p => (a.eval p.2).cells.toList, r.length = tsize P e := fun r hr => by
  obtain ⟨p, hp, rfl⟩ := List.mem_map.1 hr
  rw [<- (hrel p hp).1, (hall p hp).1]
 obtain ⟨arr, harr, hrun⟩ := run_build w (qs := parts.map fun p => (p.1, a.eval p.2)) hu hie hzv (by simpa using hn) (by
   simp only [Array.toList_map, List.map_map]
   have : (parts.toList.map ((fun x => x.1) ∘ fun x : Nat × Operand => (x.1, a.eval x.2))) = parts.toList.map (·.1) := by apply List.map_congr_left; intro p _; rfl
   rw [this, c1]) (fun q hq => by
   simp only [Array.toList_map, List.mem_map] at hq
   obtain ⟨p, hp, rfl⟩ := hq
   have := (hrel p hp).1
   rw [(hall p hp).1, hsz] at this
   simpa using this.symm) (by rw [<- hsz]; exact c4)
 rw [hflat] at harr
 have hasz : arr.size = n * tsize P e := by
  rw [<- Array.length_toList, harr, flat_len hlen2, List.length_map, hn]
 have hI' := grow_claim hI (arr := arr) (e := e) (f := (0, 0)) (w' := { w with heap := w.heap.push (.cells arr e) }) (n * tsize P e) rfl rfl rfl rfl (by rw [hasz]; exact Nat.le_refl _)
 have hheap : ({ w with heap := w.heap.push (.cells arr e) } : World).heap[w.heap.size]? = some (.cells arr e (0, 0)) := by simp
 have hlr : (parts.toList.map fun p => cellsV (fzs (opd g p.2))).length = n := by simpa using hn
 have hold : ∀ b, b < w.heap.size -> ({ w with heap := w.heap.push (.cells arr e) } : World).heap[b]? = w.heap[b]? := fun b hb => by
  show (w.heap.push _)[b]? = _
  rw [Array.getElem?_push]; simp [show ¬ b = w.heap.size by omega]
 have hext : Ext c w (fun b => if b = w.heap.size then n * tsize P e else c b) { w with heap := w.heap.push (.cells arr e) } := by
  refine ⟨fun b => ?_, fun b o ho => ?_, fun b _ => Shp.old hold b⟩
  ·by_cases hb : b = w.heap.size
   ·subst hb; rw [hI.core.c_zero (Nat.le_refl _)]; exact Nat.zero_le _
   ·simp [hb]
  ·rcases Nat.lt_or_ge b w.heap.size with hb | hb
   ·exact cell_of_heap (hold b hb) o
   ·rw [hI.core.c_zero hb] at ho; omega
 have hvp : VP (fun b => if b = w.heap.size then n * tsize P e else c b) { w with heap := w.heap.push (.cells arr e) } (.list .yes (parts.toList.map fun p => cellsV (fzs (opd g p.2)))) (.slice (some ⟨w.heap.size, 0, none⟩) n n) := by
  have := VP_new (k := .yes) (cap := n) (c := fun b => if b = w.heap.size then n * tsize P e else c b) (rows := parts.toList.map fun p => cellsV (fzs (opd g p.2))) hheap c3 (fun row hr => by
    obtain ⟨p, hp, rfl⟩ := List.mem_map.1 hr
    exact (hall p hp).1) (by rw [hlr]; exact Nat.le_refl _) (by simp only [hlr, if_true]; exact Nat.le_refl _) (fun i j row v hi hj => by
    simp only [List.getElem?_map, Option.map_eq_some_iff] at hi
    obtain ⟨p, hp, rfl⟩ := hi
    have hpm := List.mem_of_getElem? hp
    obtain ⟨x, hx, hvx⟩ := (hrel p hpm).get hj
    have hjl : j < tsize P e := by rw [<- (hall p hpm).1]; exact (List.getElem?_eq_some_iff.1 hj).1
    refine ⟨x, ?_, (VP_of_pure hvx ((hall p hpm).2 v (List.mem_of_getElem? hj))).mono hext⟩
    rw [<- Array.getElem?_toList, harr, flat_get hlen2 (i := i) (row := (a.eval p.2).cells.toList) (by simp [hp]) hjl]
    exact hx)
  rwa [hlr] at this
 have hdo : Does P w a o (.slice (some ⟨w.heap.size, 0, none⟩) n n) { w with heap := w.heap.push (.cells arr e) } := does_build ho hrun
 refine ⟨.slice (some ⟨w.heap.size, 0, none⟩) n n, { w with heap := w.heap.push (.cells arr e) }, m, fun b => if b = w.heap.size then n * tsize P e else c b, hdo, ?_⟩
 refine hI'.putOwn hd hvp ?_ ?_ ?_ (.inl hv)
 ·refine .inr ⟨w.heap.size, n, arr, e, tsize P e, by rw [hlr], hheap, by rw [hlr]; exact Nat.le_refl _, ?_, hasz, c3, fun row hr => ?_, by simp [hlr], ?_, fun h0 => ?_, fun T hT hb => byT_of c6 T hT hb⟩
  ·have : n * 1 <= n * tsize P e := Nat.mul_le_mul_left _ c3
   unfold maxLen
   omega
  ·obtain ⟨p, hp, rfl⟩ := List.mem_map.1 hr
   exact (hall p hp).1
  ·intro hb
   obtain ⟨i, hi, hb⟩ := List.getElem_of_mem hb
   have := hI.core.m_lt (List.getElem?_eq_getElem hi)
   omega
  ·have := congrArg List.length h0
   rw [hlr] at this
   simpa using this
 ·intro l r' x' b hl hb hb'
  cases hb
  have hl' : At m w g h a l r' x' := by
   cases l with
   | slot t => exact hl
   | cell i j =>
    obtain ⟨cs, b, k1, k2, k3, k4⟩ := hl
    exact ⟨cs, b, k1, k2, k3, by rw [<- cell_of_heap (hold b (hI.core.m_lt k3))]; exact k4⟩
  exact absurd ((hI.core.own l r' x' hl').lt hb').1 (Nat.lt_irrefl _)
 ·intro b hb
  cases hb
  exact .inl hI.fr.size
end
end Go.Lift
end

section
namespace Go.Lift
variable [GTab] [BTy]
section
variable {P : Program} {vars : List Nat} {m : List Nat} {c : Cl} {w : World} {g : Env} {h : Heap} {a : Act} {E : Entry}
def Src (P : Program) (w : World) (size k : Nat) (x : Value) (news : List Value) : Prop :=
 ∀ w', w'.heap = w.heap -> (Builtin.lenOf x).run P w' = .ok k w' /\ (Builtin.firstCells size k x).run P w' = .ok news.toArray w'
theorem app_room {t u e ty : TypeId} {ie : TypeInfo} {du : TypeDesc} (ht : P.underlying t = some (.slice e)) (hu : P.underlying u = some du) (hdu : ∀ k, du ≠ .int k) (hi : P.info? e = some ie)
  {b n cap k : Nat} {x : Value} {news : List Value} {cur : Array Value} {e' : TypeId} (hs : Src P w ie.size k x news) (hb : w.heap[b]? = some (.cells cur e' (0, 0)))
  (hroom : n + k <= cap) (hfit : n * ie.size + news.length <= cur.size) (hone : ∀ y ∈ news, y.oneCell' = true) :
  (Builtin.append_ #[t, u] ty #[.slice (some ⟨b, 0, none⟩) n cap, x]).run P w = .ok (.slice (some ⟨b, 0, none⟩) (n + k) cap) (w.setCells b (n * ie.size) news) := by
 obtain ⟨h1, h2⟩ := hs w rfl
 have hst := run_storeCells_cells (P := P) b (n * ie.size) news 0 w (fun j hj => by
   rw [cell_arr hb]
   have : n * ie.size + j < cur.size := by omega
   simp [this]) (fun j hj => by simp [World.frozen?, hb]) hone
 unfold Builtin.append_
 simp only [Sem.run_bind, run_underlying ht, run_underlying hu, Result.andThen_ok, run_sizeOf hi, Sem.run_pure, List.getElem?_toArray, List.getElem?_cons_zero, List.getElem?_cons_succ, h1, Bool.false_eq_true, if_false, if_pos hroom, add_none, Nat.zero_add, Bool.not_false, if_true, h2]
 simp only [Nat.add_zero] at hst
 simp [hst]
theorem app_grow {t u e ty : TypeId} {ie : TypeInfo} {z : Value} {du : TypeDesc} (ht : P.underlying t = some (.slice e)) (hu : P.underlying u = some du) (hdu : ∀ k, du ≠ .int k) (hi : P.info? e = some ie) (hz : ie.zero = some z)
  {base : Option Addr} {n cap k : Nat} {x : Value} {olds news : List Value} (hs : Src P w ie.size k x news) (ho : ∀ w', w'.heap = w.heap -> (Builtin.firstCells ie.size n (.slice base n cap)).run P w' = .ok olds.toArray w')
  (hroom : cap < n + k) (h63 : n + k <= 9223372036854775807) (hfit : (n + k) * ie.bytes <= 140737488355328) :
  (Builtin.append_ #[t, u] ty #[.slice base n cap, x]).run P w =
   .ok (.slice (some ⟨w.heap.size, 0, none⟩) (n + k) (grownCap w (n + k) cap e)) (w.drew.alloc (.cells (olds.toArray ++ news.toArray ++ Builtin.zeroCells z.cells (grownCap w (n + k) cap e - (n + k))) e)) := by
 obtain ⟨h1, _⟩ := hs w rfl
 obtain ⟨_, h2⟩ := hs w.drew rfl
 have h3 := ho w.drew rfl
 have hn : ¬ (n + k <= cap) := by omega
 have h63' : ¬ (9223372036854775807 < ((n : Int) + (k : Int))) := by omega
 have h48 := growslice_fits hroom hfit
 have h48' : ¬ (281474976710656 < Builtin.nextslicecap (n + k) cap * ie.bytes) := by omega
 simp [Builtin.append_, run_underlying ht, run_underlying hu, sizeOf, typeInfo, zeroValue, hi, hz, h1, hn, h63', h48', Question.forced, newRow, grownCap, h3, h2]
 congr 2
 apply Array.ext'
 simp [List.append_assoc]
theorem src_rows {e : TypeId} {ie : TypeInfo} (hie : P.info? e = some ie) {v : V} {x : Value} {q : List (List V)} (hv : VRr m c w v x) (hq : appRows P e v = some q) (hsz : 0 < ie.size) :
  ∃ news : List Value, Src P w ie.size q.length x news /\ news.length = q.length * ie.size /\ (∀ row ∈ q, row.length = ie.size) /\
   ∀ (i j : Nat) row u, q[i]? = some row -> row[j]? = some u -> ∃ y, news[i * ie.size + j]? = some y /\ VP c w u y := by
 have hts := size_of_info hie
 unfold appRows at hq
 split at hq
 ·cases hq
  have : x = .slice none 0 0 := hv
  subst this
  exact ⟨[], fun w' _ => ⟨rfl, rfl⟩, by simp, fun row hr => by simp at hr, fun i j row u hi => by simp at hi⟩
 ·rename_i k r
  split at hq
  ·rename_i hall
   have hq' := Option.some.inj hq
   subst hq'
   have hall' : ∀ row ∈ r, row.length = ie.size := fun row hr => by
    have := List.all_eq_true.1 hall row hr
    rw [hts] at this
    simpa using this
   have hp : VP c w (.list k r) x := hv
   cases hp with
   | empty k ao cap =>
    refine ⟨[], fun w' _ => ⟨rfl, ?_⟩, by simp, hall', fun i j row u hi => by simp at hi⟩
    cases ao <;> simp [Builtin.firstCells, loadCells, loadCellsFrom]
   | list k rows ad cap sz xs hne hsz' hspot hcap hcl hrow hcell hrec =>
    have hseq : sz = ie.size := by
     obtain ⟨r0, hr0⟩ := List.exists_mem_of_ne_nil _ hne
     obtain ⟨i0, hi0, hi1⟩ := List.getElem_of_mem hr0
     have h2 := hrow i0 r0 (by rw [List.getElem?_eq_getElem hi0, hi1])
     rw [<- h2, hall' r0 hr0]
    subst hseq
    have hlt : ∀ j, j < r.length * ie.size -> j / ie.size < r.length := fun j hj => Nat.div_lt_of_lt_mul (by rw [Nat.mul_comm]; exact hj)
    have hdm : ∀ j, j / ie.size * ie.size + j % ie.size = j := fun j => by rw [Nat.mul_comm]; exact Nat.div_add_mod j ie.size
    have hcells : ∀ j, j < r.length * ie.size -> ∀ w' : World, w'.heap = w.heap -> w'.cell? (ad.add j) = some (xs (j / ie.size) (j % ie.size)) := fun j hj w' hw' => by
     have h1 : r[j / ie.size]? = some (r[j / ie.size]'(hlt j hj)) := List.getElem?_eq_getElem (hlt j hj)
     have h2 := hrow _ _ h1
     have h3 : j % ie.size < (r[j / ie.size]'(hlt j hj)).length := by rw [h2]; exact Nat.mod_lt _ hsz
     have h4 := hcell _ _ _ _ h1 (List.getElem?_eq_getElem h3)
     rw [Nat.add_assoc, hdm] at h4
     rw [add_eta hspot, cell_of_heap (w := w) (w' := w') (by rw [hw'])]
     exact h4
    refine ⟨(List.range (r.length * ie.size)).map fun j => xs (j / ie.size) (j % ie.size), fun w' hw' => ⟨rfl, ?_⟩, by simp, hall', fun i j row u hi hj => ?_⟩
    ·simp only [Builtin.firstCells]
     exact run_loadCells w' ad _ _ (fun j hj => hcells j hj w' hw')
    ·have h1 := hrow i row hi
     have hjl : j < ie.size := by rw [<- h1]; exact (List.getElem?_eq_some_iff.1 hj).1
     have hil : i < r.length := (List.getElem?_eq_some_iff.1 hi).1
     have hb : i * ie.size + j < r.length * ie.size := by
      have : (i + 1) * ie.size <= r.length * ie.size := Nat.mul_le_mul_right _ hil
      rw [Nat.add_mul] at this
      omega
     have hd : (i * ie.size + j) / ie.size = i := by rw [Nat.mul_comm, Nat.mul_add_div hsz, Nat.div_eq_of_lt hjl, Nat.add_zero]
     have hm : (i * ie.size + j) % ie.size = j := by rw [Nat.mul_comm, Nat.mul_add_mod, Nat.mod_eq_of_lt hjl]
     refine ⟨xs i j, ?_, hrec i j row u hi hj⟩
     simp [hb, hd, hm]
  ·cases hq
 ·rename_i s
  split at hq
  ·rename_i hu
   cases hq
   have : x = .string s := hv
   subst this
   have h1 : ie.size = 1 := by rw [<- hts]; exact hu.2
   rw [h1]
   have hl : (byteRows s).length = s.size := by simp [byteRows]
   refine ⟨s.data.toList.map fun b => .int .u8 b.toNat, fun w' _ => ⟨by rw [hl]; rfl, ?_⟩, by simp [byteRows], fun row hr => ?_, fun i j row u hi hj => ?_⟩
   ·rw [hl]
    simp only [Builtin.firstCells, Sem.run_pure]
    congr 1
    apply Array.ext'
    simp
   ·unfold byteRows at hr
    simp only [List.mem_map] at hr
    obtain ⟨c, _, rfl⟩ := hr
    rfl
   ·obtain ⟨c, hc, rfl, rfl⟩ := byteRows_get hi hj
    exact ⟨.int .u8 c.toNat, by simp [hc], .v _ rfl⟩
  ·cases hq
 ·cases hq
def Owns (E : Entry) (m : List Nat) (c : Cl) (w : World) (g : Env) (h : Heap) (a : Act) (r : List (List V)) (y : Value) : Prop :=
 VP c w (.list .yes r) y /\ OwnB m c w r y /\ (∀ l r' x' b, At m w g h a l r' x' -> ownBlk y = some b -> ownBlk x' ≠ some b) /\ ∀ b, ownBlk y = some b -> E.w.heap.size <= b \/ E.ho b
theorem owner_nil (hI : InvP vars E m c w g h a) : InvP vars E m c w (Lift.untag g) h a /\ Owns E m c w (Lift.untag g) h a [] (.slice none 0 0) :=
 ⟨hI.untag, .empty _ _ _, .inl ⟨rfl, rfl⟩, fun _ _ _ _ _ hb => (by cases hb), fun _ hb => (by cases hb)⟩
theorem owner_slot (hI : InvP vars E m c w g h a) {u : Nat} {r : List (List V)} (hu : look g u = .list .yes r) : InvP vars E m c w (Lift.untag (Lift.ins u (.list .no r) g)) h a /\ Owns E m c w (Lift.untag (Lift.ins u (.list .no r) g)) h a r (a.tmps.getD u undef) := by
 have hat : At m w g h a (.slot u) r (a.tmps.getD u undef) := ⟨hu, rfl⟩
 have hv := hI.core.env u
 rw [hu] at hv
 refine ⟨hI.release hu, hv, hI.core.own _ _ _ hat, fun l r' x' b hl hb hb' => ?_, fun b hb => hI.owned _ _ _ b hat trivial hb⟩
 obtain ⟨n1, hl'⟩ := At_release hl
 exact n1 (hI.core.uniq l _ r' r x' _ b hl' hat hb' hb)
theorem set_obj_flag (hI : InvP vars E m c w g h a) {i j : Nat} {cs : List V} {q : List (List V)} (hcs : cellsOfOb h i = some cs) (hj : cs[j]? = some (.list .yes q)) (hlo : E.lo <= i) :
  ∃ y, At m w g h a (.cell i j) q y /\ InvP vars E m c w (Lift.untag g) (Lift.setOb h i (cs.set j (.list .no q))) a /\ Owns E m c w (Lift.untag g) (Lift.setOb h i (cs.set j (.list .no q))) a q y := by
 have hcs0 : h[i]? = some (.cells cs) := by
  unfold cellsOfOb at hcs
  split at hcs
  ·rename_i h0; cases hcs; exact h0
  ·cases hcs
 have hil : i < m.length := by rw [hI.core.len]; exact (List.getElem?_eq_some_iff.1 hcs0).1
 have hm := List.getElem?_eq_getElem hil
 obtain ⟨arr, e, f, hw, hle, hfr, hall, hbld⟩ := hI.core.ob i _ _ hcs0 hm
 have hjl : j < cs.length := (List.getElem?_eq_some_iff.1 hj).1
 have haj : arr[j]? = some arr[j] := Array.getElem?_eq_getElem (by omega)
 have hat : At m w g h a (.cell i j) q arr[j] := ⟨cs, m[i], hcs, hj, hm, by rw [cell_arr hw]; exact haj⟩
 have hcq : ∀ (k : Nat) (r : List (List V)), (cs.set j (.list .no q))[k]? = some (.list .yes r) -> k ≠ j /\ cs[k]? = some (.list .yes r) := fun k r hk => by
  rw [List.getElem?_set] at hk
  by_cases hjk : j = k
  ·subst hjk; simp [hjl] at hk
  ·exact ⟨Ne.symm hjk, by simpa [hjk] using hk⟩
 refine ⟨arr[j], hat, hI.untag.setOb (w' := w) cs.length hlo hm rfl (fun _ _ => rfl) rfl rfl rfl ?_ ?_ (fun t i j r => noTagC t i j r) ?_ (Shp.refl w _), ?_⟩
 ·refine ⟨arr, e, f, hw, by simpa using hle, fun k hk => hfr k (by simpa using hk), fun k v x hv hx => ?_, fun T hT hc => ?_⟩
  ·rw [List.getElem?_set] at hv
   by_cases hjk : j = k
   ·subst hjk
    simp only [if_true, hjl, Option.some.injEq] at hv
    subst hv
    have := hall j _ x hj hx
    exact ⟨VP.flag this.1 _, this.2⟩
   ·simp only [if_neg hjk] at hv
    exact hall k v x hv hx
  ·obtain ⟨x, k2, k3⟩ := isBld_iff.1 hc
   rw [List.length_set] at hT ⊢
   rw [List.getElem?_set] at k2
   by_cases hj0 : j = 0
   ·subst hj0
    simp only [if_true, hjl, Option.some.injEq] at k2
    subst k2
    cases k3
   ·simp only [if_neg hj0] at k2
    exact hbld T hT (isBld_iff.2 ⟨x, k2, k3⟩)
 ·intro cs' k r x hc hk hx
  cases hc
  obtain ⟨hne, hk'⟩ := hcq k r hk
  refine .inr ⟨fun _ => ⟨cs, m[i], hcs, hk', hm, hx⟩, fun hkl => ?_⟩
  have := (List.getElem?_eq_some_iff.1 hk').1
  omega
 ·intro cs' hc hib n hin h0 v hv
  cases hc
  rcases List.mem_or_eq_of_mem_set hv with hv | rfl
  ·exact h0 cs hcs v hv
  ·rfl
 ·have h1 := (hall j _ _ hj haj).1
  refine ⟨h1, hI.core.own _ _ _ hat, fun l r' x' b hl hb hb' => ?_, fun b hb => hI.owned _ _ _ b hat hlo hb⟩
  have : At m w g h a l r' x' /\ l ≠ .cell i j := by
   cases l with
   | slot t => exact ⟨At_untag (h := h) hl, fun e => by cases e⟩
   | cell k s =>
    obtain ⟨cs', b', k1, k2, k3, k4⟩ := hl
    rcases cellsOfOb_set k1 with ⟨rfl, ho⟩ | ⟨hki, hcs'⟩
    ·cases ho
     obtain ⟨hne, hk'⟩ := hcq s r' k2
     exact ⟨⟨cs, b', hcs, hk', k3, k4⟩, fun e => hne (by cases e; rfl)⟩
    ·exact ⟨⟨cs', b', hcs', k2, k3, k4⟩, fun e => hki (by cases e; rfl)⟩
  exact this.2 (hI.core.uniq l _ r' q x' _ b this.1 hat hb' hb)
theorem owner_spec (hI : InvP vars E m c w g h a) {x : Operand} {r : List (List V)} {g1 : Env} {h1 : Heap} (ho : owner E.lo (g, h) x = some (r, g1, h1)) :
  InvP vars E m c w (Lift.untag g1) h1 a /\ Owns E m c w (Lift.untag g1) h1 a r (a.eval x) := by
 unfold owner at ho
 split at ho
 ·rename_i t
  split at ho
  ·rename_i hl
   cases ho
   have hv := hI.core.env t
   rw [hl] at hv
   have hv' : a.eval (.tmp t) = .slice none 0 0 := hv
   rw [hv']
   exact owner_nil hI
  ·rename_i q hl
   cases ho
   exact owner_slot hI hl
  ·rename_i u q hl
   split at ho
   ·rename_i q' hu
    cases ho
    obtain ⟨_, k1, k2⟩ := hI.core.tagS t u r hl
    simp only at hu
    rw [hu] at k1
    cases k1
    have := owner_slot hI hu
    rw [show a.eval (.tmp t) = a.tmps.getD u undef from k2]
    exact this
   ·cases ho
  ·rename_i i j q hl
   split at ho
   ·rename_i cs hcs
    split at ho
    ·rename_i q' hj
     split at ho
     ·rename_i hlo
      cases ho
      have hat := hI.core.tagC t i j r hl
      obtain ⟨cs2, b2, k1, k2, k3, k4⟩ := hat
      simp only at hcs
      rw [hcs] at k1
      cases k1
      rw [hj] at k2
      cases k2
      obtain ⟨y, hy, hI', hO⟩ := set_obj_flag hI hcs hj hlo
      obtain ⟨cs3, b3, e1, e2, e3, e4⟩ := hy
      rw [k3] at e3
      cases e3
      rw [k4] at e4
      have : a.eval (.tmp t) = y := Option.some.inj e4
      rw [this]
      exact ⟨hI', hO⟩
     ·cases ho
    ·cases ho
   ·cases ho
  ·cases ho
 ·rename_i k
  split at ho
  ·rename_i hk
   cases ho
   have : a.eval (.const k) = .slice none 0 0 := by
    have := hI.core.opd (.const k)
    simp only [opd, hk] at this
    exact this
   rw [this]
   exact owner_nil hI
  ·cases ho
 ·cases ho
theorem own_cells {r : List (List V)} {b cap sz : Nat} {cur : Array Value} {e : TypeId} {f : Nat × Nat} {ao : Option Addr} (hp : VP c w (.list .yes r) (.slice ao r.length cap)) (ha : ao = some ⟨b, 0, none⟩) (hb : w.heap[b]? = some (.cells cur e f)) (hrow : ∀ row ∈ r, row.length = sz) :
  ∀ (i j : Nat) row v, r[i]? = some row -> row[j]? = some v -> ∃ x, cur[i * sz + j]? = some x /\ VP c w v x := by
 intro i j row v hi hj
 generalize hn : r.length = n at hp
 cases hp with
 | empty => simp at hi
 | list k rows ad cap sz' xs hne hsz hspot hcap hcl hrow' hcell hrec =>
  cases ha
  have h1 := hrow' i row hi
  have h2 := hrow row (List.mem_of_getElem? hi)
  rw [h2] at h1
  subst h1
  have h3 := hcell i j row v hi hj
  rw [cell_arr hb, Nat.zero_add] at h3
  exact ⟨_, h3, hrec i j row v hi hj⟩
theorem rows_append {r q : List (List V)} {olds news : List Value} {sz : Nat} {R : V -> Value -> Prop} (hl : olds.length = r.length * sz)
  (h1 : ∀ (i j : Nat) row v, r[i]? = some row -> row[j]? = some v -> ∃ x, olds[i * sz + j]? = some x /\ R v x) (h2 : ∀ (i j : Nat) row v, q[i]? = some row -> row[j]? = some v -> ∃ x, news[i * sz + j]? = some x /\ R v x) :
  ∀ (i j : Nat) row v, (r ++ q)[i]? = some row -> row[j]? = some v -> ∃ x, (olds ++ news)[i * sz + j]? = some x /\ R v x := by
 intro i j row v hi hj
 rw [List.getElem?_append] at hi
 split at hi
 ·rename_i hlt
  obtain ⟨x, hx, hv⟩ := h1 i j row v hi hj
  exact ⟨x, by rw [List.getElem?_append_left (List.getElem?_eq_some_iff.1 hx).1]; exact hx, hv⟩
 ·rename_i hge
  obtain ⟨x, hx, hv⟩ := h2 _ j row v hi hj
  refine ⟨x, ?_, hv⟩
  have : r.length * sz <= i * sz := Nat.mul_le_mul_right _ (by omega)
  rw [List.getElem?_append_right (by rw [hl]; omega), hl]
  rw [Nat.sub_mul] at hx
  rw [show i * sz + j - r.length * sz = i * sz - r.length * sz + j by omega]
  exact hx
theorem done_grow (hI : InvP vars E m c w g h a) {o : Oper} {r q : List (List V)} {olds news : List Value} {rest : Array Value} {e : TypeId} {cap sz : Nat} (hsz : 0 < sz)
  (hlo : olds.length = r.length * sz) (hln : news.length = q.length * sz) (hr : ∀ row ∈ r, row.length = sz) (hq : ∀ row ∈ q, row.length = sz)
  (h1 : ∀ (i j : Nat) row v, r[i]? = some row -> row[j]? = some v -> ∃ x, olds[i * sz + j]? = some x /\ VP c w v x) (h2 : ∀ (i j : Nat) row v, q[i]? = some row -> row[j]? = some v -> ∃ x, news[i * sz + j]? = some x /\ VP c w v x)
  (hbt : ∀ T, BTy.bb = some T -> isByteRow (r ++ q) = true -> e = T) (hcap : r.length + q.length <= cap) (hrest : rest.size = (cap - (r.length + q.length)) * sz) (hmax : cap <= maxLen) (hne : r ++ q ≠ [])
  (hdo : Does P w a o (.slice (some ⟨w.heap.size, 0, none⟩) (r.length + q.length) cap) (w.drew.alloc (.cells (olds.toArray ++ news.toArray ++ rest) e)))
  (hd : ∀ t, o.dst = some t -> t < E.nt) (hv : ∀ t, o.dst = some t -> t ∉ vars) : Done P vars E w a o (.list .yes (r ++ q)) g h := by
 have hasz : (olds.toArray ++ news.toArray ++ rest).size = cap * sz := by
  simp only [Array.size_append, List.size_toArray, hlo, hln, hrest]
  rw [<- Nat.add_mul, <- Nat.add_mul]
  congr 1
  omega
 have hnle : (r.length + q.length) * sz <= cap * sz := Nat.mul_le_mul_right _ hcap
 have hI' := grow_claim hI (arr := olds.toArray ++ news.toArray ++ rest) (e := e) (f := (0, 0)) (w' := w.drew.alloc (.cells (olds.toArray ++ news.toArray ++ rest) e)) ((r.length + q.length) * sz) rfl rfl rfl rfl (by rw [hasz]; exact hnle)
 have hheap : (w.drew.alloc (.cells (olds.toArray ++ news.toArray ++ rest) e)).heap[w.heap.size]? = some (.cells (olds.toArray ++ news.toArray ++ rest) e (0, 0)) := heap_alloc_new w.drew _
 have hold : ∀ b, b < w.heap.size -> (w.drew.alloc (.cells (olds.toArray ++ news.toArray ++ rest) e)).heap[b]? = w.heap[b]? := fun b hb => by
  show (w.heap.push _)[b]? = _
  rw [Array.getElem?_push]; simp [show ¬ b = w.heap.size by omega]
 have hext : Ext c w (fun b => if b = w.heap.size then (r.length + q.length) * sz else c b) (w.drew.alloc (.cells (olds.toArray ++ news.toArray ++ rest) e)) := by
  refine ⟨fun b => ?_, fun b o ho => ?_, fun b _ => Shp.old hold b⟩
  ·by_cases hb : b = w.heap.size
   ·subst hb; rw [hI.core.c_zero (Nat.le_refl _)]; exact Nat.zero_le _
   ·simp [hb]
  ·rcases Nat.lt_or_ge b w.heap.size with hb | hb
   ·exact cell_of_heap (hold b hb) o
   ·rw [hI.core.c_zero hb] at ho; omega
 have hl2 : (r ++ q).length = r.length + q.length := by simp
 have hrq : ∀ row ∈ r ++ q, row.length = sz := fun row hm => by
  rcases List.mem_append.1 hm with hm | hm
  ·exact hr row hm
  ·exact hq row hm
 have hvp := VP_new (k := .yes) (cap := cap) (c := fun b => if b = w.heap.size then (r.length + q.length) * sz else c b) (rows := r ++ q) hheap hsz hrq (by rw [hl2]; exact hcap) (by simp only [hl2, if_true]; exact Nat.le_refl _) (fun i j row v hi hj => by
  obtain ⟨x, hx, hxv⟩ := rows_append hlo h1 h2 i j row v hi hj
  refine ⟨x, ?_, hxv.mono hext⟩
  rw [Array.getElem?_append_left]
  ·rw [<- Array.getElem?_toList]; simpa using hx
  ·have := (List.getElem?_eq_some_iff.1 hx).1
   simpa using this)
 rw [hl2] at hvp
 refine ⟨_, _, m, fun b => if b = w.heap.size then (r.length + q.length) * sz else c b, hdo, ?_⟩
 refine hI'.putOwn hd hvp ?_ ?_ ?_ (.inl hv)
 ·refine .inr ⟨w.heap.size, cap, _, e, sz, by rw [hl2], hheap, by rw [hl2]; exact hcap, hmax, hasz, hsz, hrq, by simp, ?_, fun h0 => absurd h0 hne, hbt⟩
  intro hb
  obtain ⟨i, hi, hb⟩ := List.getElem_of_mem hb
  have := hI.core.m_lt (List.getElem?_eq_getElem hi)
  omega
 ·intro l r' x' b hl hb hb'
  cases hb
  have hl' : At m w g h a l r' x' := by
   cases l with
   | slot t => exact hl
   | cell i j =>
    obtain ⟨cs, b, k1, k2, k3, k4⟩ := hl
    exact ⟨cs, b, k1, k2, k3, by rw [<- cell_of_heap (hold b (hI.core.m_lt k3))]; exact k4⟩
  exact absurd ((hI.core.own l r' x' hl').lt hb').1 (Nat.lt_irrefl _)
 ·intro b hb
  cases hb
  exact .inl hI.fr.size
theorem done_room (hI : InvP vars E m c w g h a) {o : Oper} {r q : List (List V)} {news : List Value} {b cap sz : Nat} {cur : Array Value} {e : TypeId} (hb : w.heap[b]? = some (.cells cur e (0, 0)))
  (hO : Owns E m c w g h a r (.slice (some ⟨b, 0, none⟩) r.length cap)) (hcur : cur.size = cap * sz) (hsz : 0 < sz) (hr : ∀ row ∈ r, row.length = sz) (hq : ∀ row ∈ q, row.length = sz) (hc : c b = r.length * sz) (hbm : b ∉ m) (hmax : cap <= maxLen)
  (hln : news.length = q.length * sz) (h2 : ∀ (i j : Nat) row v, q[i]? = some row -> row[j]? = some v -> ∃ x, news[i * sz + j]? = some x /\ VP c w v x) (hbt : ∀ T, BTy.bb = some T -> isByteRow (r ++ q) = true -> e = T) (hcap : r.length + q.length <= cap) (hne : r ++ q = [] -> cap = 0)
  (hdo : Does P w a o (.slice (some ⟨b, 0, none⟩) (r.length + q.length) cap) (w.setCells b (r.length * sz) news))
  (hd : ∀ t, o.dst = some t -> t < E.nt) (hv : ∀ t, o.dst = some t -> t ∉ vars) : Done P vars E w a o (.list .yes (r ++ q)) g h := by
 have hnle : (r.length + q.length) * sz <= cap * sz := Nat.mul_le_mul_right _ hcap
 have hfit : r.length * sz + news.length <= cur.size := by rw [hln, hcur, <- Nat.add_mul]; exact hnle
 obtain ⟨k1, k2, k3, k4, k5, arr', k6, k7⟩ := setCells_spec b news (r.length * sz) w cur e (0, 0) hb hfit
 have hbl : b < w.heap.size := (Array.getElem?_eq_some_iff.1 hb).1
 have hasz : arr'.size = cap * sz := by
  rw [<- hcur, <- Array.length_toList, k7]
  simp only [List.length_append, List.length_take, List.length_drop, Array.length_toList]
  omega
 have hget : ∀ k, k < r.length * sz -> arr'[k]? = cur[k]? := fun k hk => by
  rw [<- Array.getElem?_toList, k7, getElem?_splice (by simpa using hfit), if_neg (by omega)]
  simp
 have hI' := hI.grown (c' := fun k => if k = b then (r.length + q.length) * sz else c k) (w' := w.setCells b (r.length * sz) news) (some b) (by rw [k1]; exact Nat.le_refl _)
  (fun k hk hne => ⟨k2 k (fun e => hne (by rw [e])), by simp [show ¬ k = b from fun e => hne (by rw [e])]⟩)
  (fun k hk => by
   cases hk
   refine ⟨hbm, fun l r' x' hl => ?_, hO.2.2.2 b rfl, ?_, fun o ho => ?_, ⟨arr', e, (0, 0), k6, by simp only [if_true]; rw [hasz]; exact hnle⟩, fun _ => setCells_shp hb hfit⟩
   ·exact hO.2.2.1 l r' x' b hl rfl
   ·simp only [if_true, hc]; exact Nat.mul_le_mul_right _ (by omega)
   ·rw [cell_arr k6, cell_arr hb]
    exact hget o (by rw [<- hc]; exact ho))
  (fun k hk hne h0 => by
   have : ¬ k = b := fun e => hne (by rw [e])
   simp only [if_neg this] at h0
   rw [hI.core.c_zero hk] at h0; omega) k3 k4 k5
 have hext : Ext c w (fun k => if k = b then (r.length + q.length) * sz else c k) (w.setCells b (r.length * sz) news) := by
  refine ⟨fun k => ?_, fun k o ho => ?_, fun k _ => ?_⟩
  rotate_left 2
  ·by_cases hk : k = b
   ·rw [hk]; exact setCells_shp hb hfit
   ·exact Shp.same (k2 k hk)
  ·by_cases hk : k = b
   ·subst hk; simp only [if_true, hc]; exact Nat.mul_le_mul_right _ (by omega)
   ·simp [hk]
  ·by_cases hk : k = b
   ·subst hk
    rw [cell_arr k6, cell_arr hb]
    exact hget o (by rw [<- hc]; exact ho)
   ·exact cell_of_heap (k2 k hk) o
 have hl2 : (r ++ q).length = r.length + q.length := by simp
 have hrq : ∀ row ∈ r ++ q, row.length = sz := fun row hm => by
  rcases List.mem_append.1 hm with hm | hm
  ·exact hr row hm
  ·exact hq row hm
 have holds := own_cells hO.1 rfl hb hr
 have holdl : (cur.toList.take (r.length * sz)).length = r.length * sz := by
  rw [List.length_take, Array.length_toList]
  exact Nat.min_eq_left (Nat.le_trans (Nat.le_add_right _ _) hfit)
 have hvp := VP_new (k := .yes) (cap := cap) (c := fun k => if k = b then (r.length + q.length) * sz else c k) (rows := r ++ q) k6 hsz hrq (by rw [hl2]; exact hcap) (by simp only [hl2, if_true]; exact Nat.le_refl _) (fun i j row v hi hj => by
  obtain ⟨x, hx, hxv⟩ := rows_append (olds := cur.toList.take (r.length * sz)) (news := news) holdl (fun i j row v hi hj => by
   obtain ⟨x, hx, hxv⟩ := holds i j row v hi hj
   refine ⟨x, ?_, hxv⟩
   have hjl : j < sz := by rw [<- hr row (List.mem_of_getElem? hi)]; exact (List.getElem?_eq_some_iff.1 hj).1
   have hil : i < r.length := (List.getElem?_eq_some_iff.1 hi).1
   have : (i + 1) * sz <= r.length * sz := Nat.mul_le_mul_right _ hil
   rw [Nat.add_mul] at this
   rw [List.getElem?_take, if_pos (by omega)]
   simpa using hx) h2 i j row v hi hj
  refine ⟨x, ?_, hxv.mono hext⟩
  rw [<- Array.getElem?_toList, k7, List.getElem?_append_left (List.getElem?_eq_some_iff.1 hx).1]
  exact hx)
 rw [hl2] at hvp
 refine ⟨_, _, m, fun k => if k = b then (r.length + q.length) * sz else c k, hdo, ?_⟩
 refine hI'.putOwn hd hvp ?_ ?_ ?_ (.inl hv)
 ·exact .inr ⟨b, cap, arr', e, sz, by rw [hl2], k6, by rw [hl2]; exact hcap, hmax, hasz, hsz, hrq, by simp, hbm, hne, hbt⟩
 ·intro l r' x' k hl hk
  cases hk
  have hl' : At m w g h a l r' x' := by
   cases l with
   | slot t => exact hl
   | cell i j =>
    obtain ⟨cs, b', q1, q2, q3, q4⟩ := hl
    exact ⟨cs, b', q1, q2, q3, by rw [<- cell_of_heap (k2 b' (fun e => hbm (e ▸ List.mem_of_getElem? q3)))]; exact q4⟩
  exact hO.2.2.1 l r' x' b hl' rfl
 ·intro k hk
  cases hk
  exact hO.2.2.2 b rfl
theorem exec_append (ρ : Operand -> Value) {o : Oper} {k : Call} (ho : o.op = .call k) (hc : k.callee = .builtin .append) : execOp ρ o = (do pure (Next.value (<- Builtin.append_ k.argTypes o.type (k.args.map ρ)))) := by
 simp [execOp, ho, resolve, hc, invoke, builtin]
theorem eff_append (hI : InvP vars E m c w g h a) {o : Oper} {k : Call} {x y : Operand} {e : TypeId} {du : TypeDesc} {r q : List (List V)} {g1 : Env} {h1 : Heap} (ho : o.op = .call k) (hc : k.callee = .builtin .append) (hargs : k.args.toList = [x, y])
  (htypes : k.argTypes.toList.map P.underlying = [some (.slice e), some du]) (hown : owner E.lo (g, h) x = some (r, g1, h1)) (hq : appRows P e (opd g y) = some q)
  (hcond : (tzero P e).map (·.length) = some (tsize P e) /\ 0 < tsize P e /\ (r.all fun z => z.length == tsize P e) = true /\ (r.length + q.length) * P.bytesOf e <= 140737488355328 /\ r.length + q.length <= 9223372036854775807 /\ notInt du = true /\ byT e r q = true)
  (hd : ∀ t, o.dst = some t -> t < E.nt) (hv : ∀ t, o.dst = some t -> t ∉ vars) : Done P vars E w a o (.list .yes (r ++ q)) (Lift.untag g1) h1 := by
 obtain ⟨c1, c2, c3, c4, c5, c6, c7⟩ := hcond
 obtain ⟨hI1, hO⟩ := owner_spec hI hown
 obtain ⟨ie, hie⟩ : ∃ ie, P.info? e = some ie := by
  cases hie : P.info? e with
  | some ie => exact ⟨ie, rfl⟩
  | none => simp [tsize, Program.cellsOf, hie] at c2
 have hsz := size_of_info hie
 have hsz0 : 0 < ie.size := by rw [<- hsz]; exact c2
 obtain ⟨z, hz, hzl⟩ : ∃ z, ie.zero = some z /\ z.cells.size = ie.size := by
  unfold tzero at c1
  rw [hie] at c1
  cases hz : ie.zero with
  | none => simp [hz] at c1
  | some z => simp [hz] at c1; exact ⟨z, rfl, by rw [c1, hsz]⟩
 have hby : P.bytesOf e = ie.bytes := by simp [Program.bytesOf, hie]
 rw [hby] at c4
 obtain ⟨news, hsrc, hnl, hqr, hnew⟩ := src_rows hie (hI.core.opd y) hq hsz0
 have hrr : ∀ row ∈ r, row.length = ie.size := fun row hr => by
  have := List.all_eq_true.1 c3 row hr
  rw [hsz] at this
  simpa using this
 obtain ⟨t, u, ht2, htu, huu⟩ : ∃ t u, k.argTypes = #[t, u] /\ P.underlying t = some (.slice e) /\ P.underlying u = some du := by
  rcases hl : k.argTypes.toList with _ | ⟨t, _ | ⟨u, _ | ⟨v, l⟩⟩⟩ <;> rw [hl] at htypes <;> simp at htypes
  exact ⟨t, u, by rw [<- Array.toArray_toList (xs := k.argTypes), hl], htypes.1, htypes.2⟩
 have hdu : ∀ kk, du ≠ .int kk := fun kk e => by subst e; cases c6
 have hargs' : k.args.map a.eval = #[a.eval x, a.eval y] := by
  rw [<- Array.toArray_toList (xs := k.args), hargs]; simp
 have hdo : ∀ v w', (Builtin.append_ #[t, u] o.type #[a.eval x, a.eval y]).run P w = .ok v w' -> Does P w a o v w' := fun v w' hr => by
  refine does_of (exec_append a.eval ho hc) ?_
  rw [ht2, hargs']
  exact hr
 have hone : ∀ v ∈ news, v.oneCell' = true := fun v hv => by
  obtain ⟨p, hp, rfl⟩ := List.getElem_of_mem hv
  have hp' : p / ie.size < q.length := Nat.div_lt_of_lt_mul (by rw [Nat.mul_comm, <- hnl]; exact hp)
  have hrow := hqr _ (List.getElem_mem hp')
  have hm : p % ie.size < (q[p / ie.size]).length := by rw [hrow]; exact Nat.mod_lt _ hsz0
  obtain ⟨z', hz', hvp⟩ := hnew _ _ _ _ (List.getElem?_eq_getElem hp') (List.getElem?_eq_getElem hm)
  rw [Nat.mul_comm, Nat.div_add_mod, List.getElem?_eq_getElem hp] at hz'
  cases hz'
  exact hvp.oneCell
 have hgrow : ∀ {base : Option Addr} {cap : Nat} {olds : List Value}, a.eval x = .slice base r.length cap -> (∀ w', w'.heap = w.heap -> (Builtin.firstCells ie.size r.length (.slice base r.length cap)).run P w' = .ok olds.toArray w') ->
   olds.length = r.length * ie.size -> (∀ (i j : Nat) row v, r[i]? = some row -> row[j]? = some v -> ∃ x, olds[i * ie.size + j]? = some x /\ VP c w v x) -> cap < r.length + q.length -> Done P vars E w a o (.list .yes (r ++ q)) (Lift.untag g1) h1 := fun {base cap olds} hx hf hol hoc hlt => by
  have hrun := app_grow (P := P) (w := w) (ty := o.type) htu huu hdu hie hz hsrc hf hlt c5 c4
  rw [<- hx] at hrun
  have hge := grownCap_ge w (r.length + q.length) cap e
  refine done_grow hI1 hsz0 hol hnl hrr hqr hoc hnew (byT_of c7) hge ?_ (grownCap_le_maxLen w _ _ e (by unfold maxLen; exact c5)) ?_ (hdo _ _ hrun) hd hv
  ·rw [size_zeroCells, hzl]
  ·intro h0
   have := congrArg List.length h0
   rw [List.length_append, List.length_nil] at this
   omega
 rcases hO.2.1 with ⟨hx, hr0⟩ | ⟨b, cap, cur, e', sz, hx, k1, k2, k3, k4, k5, k6, k7, k8, k9, k10⟩
 ·subst hr0
  by_cases hk : q.length = 0
  ·have hq0 : q = [] := List.eq_nil_of_length_eq_zero hk
   subst hq0
   refine ⟨.slice none 0 0, w, m, c, hdo _ _ ?_, hI1.putOwn hd (.empty _ _ _) (.inl ⟨rfl, rfl⟩) (fun _ _ _ _ _ hb => by cases hb) (fun _ hb => by cases hb) (.inl hv)⟩
   obtain ⟨s1, s2⟩ := hsrc w rfl
   have hzz : (match du with | .int _ => true | _ => false) = false := by
    cases du <;> first | rfl | (exact absurd rfl (hdu _))
   have hnews : news = [] := List.eq_nil_of_length_eq_zero (by rw [hnl]; simp)
   subst hnews
   rw [hx]
   simp only [List.length_nil] at s1 s2
   simp [Builtin.append_, run_underlying htu, run_underlying huu, sizeOf, typeInfo, hie, s1, s2]
  ·exact hgrow (base := none) (cap := 0) (olds := []) hx (fun w' _ => by simp [Builtin.firstCells]) (by simp) (fun i j row v hi => by simp at hi) (by simp; omega)
 ·by_cases hroom : r.length + q.length <= cap
  ·by_cases hr0 : r = []
   ·subst hr0
    have hcap0 := k9 rfl
    subst hcap0
    have hq0 : q = [] := List.eq_nil_of_length_eq_zero (by rw [List.length_nil] at hroom; omega)
    subst hq0
    have hnews : news = [] := List.eq_nil_of_length_eq_zero (by rw [hnl]; simp)
    subst hnews
    rw [hx] at hO
    refine done_room (news := []) hI1 k1 hO k4 k5 (fun _ h0 => by cases h0) (fun _ h0 => by cases h0) k7 k8 k3 (by simp) (fun i j row v hi => by simp at hi) (fun T hT hb => by cases hb) hroom (fun _ => rfl) (hdo _ _ ?_) hd hv
    have := app_room (P := P) (w := w) (ty := o.type) htu huu hdu hie hsrc k1 hroom (by simp) (fun _ h0 => by cases h0)
    rw [hx]
    simpa using this
   ·have hse : sz = ie.size := by
     obtain ⟨r0, hm⟩ := List.exists_mem_of_ne_nil _ hr0
     rw [<- k6 r0 hm, hrr r0 hm]
    subst hse
    have hfit : r.length * ie.size + news.length <= cur.size := by rw [hnl, k4, <- Nat.add_mul]; exact Nat.mul_le_mul_right _ hroom
    rw [hx] at hO
    refine done_room hI1 k1 hO k4 k5 hrr hqr k7 k8 k3 hnl hnew (fun T hT hb => k10 T hT (by rw [isByteRow_app hr0] at hb; exact hb)) hroom (fun h0 => absurd (List.append_eq_nil_iff.1 h0).1 hr0) (hdo _ _ ?_) hd hv
    rw [hx]
    exact app_room (P := P) (w := w) (ty := o.type) htu huu hdu hie hsrc k1 hroom hfit hone
  ·by_cases hr0 : r = []
   ·subst hr0
    exact hgrow (olds := []) hx (fun w' _ => run_firstCells_some w' ie.size 0 ⟨b, 0, none⟩ 0 cap [] (by simp) (fun j v hj => by simp at hj)) (by simp) (fun i j row v hi => by simp at hi) (by omega)
   ·have hse : sz = ie.size := by
     obtain ⟨r0, hm⟩ := List.exists_mem_of_ne_nil _ hr0
     rw [<- k6 r0 hm, hrr r0 hm]
    subst hse
    rw [hx] at hO
    have hle : r.length * ie.size <= cur.size := by rw [k4]; exact Nat.mul_le_mul_right _ k2
    have hol : (cur.toList.take (r.length * ie.size)).length = r.length * ie.size := by
     rw [List.length_take, Array.length_toList]
     exact Nat.min_eq_left hle
    refine hgrow (olds := cur.toList.take (r.length * ie.size)) hx (fun w' hw' => run_firstCells_some w' ie.size r.length ⟨b, 0, none⟩ r.length cap _ hol (fun j v hj => ?_)) hol (fun i j row v hi hj => ?_) (by omega)
    ·rw [add_none, Nat.zero_add, cell_of_heap (w := w) (w' := w') (by rw [hw']), cell_arr k1]
     rw [List.getElem?_take] at hj
     split at hj
     ·simpa using hj
     ·cases hj
    ·obtain ⟨x', hx', hxv⟩ := own_cells hO.1 rfl k1 hrr i j row v hi hj
     refine ⟨x', ?_, hxv⟩
     have hjl : j < ie.size := by rw [<- hrr row (List.mem_of_getElem? hi)]; exact (List.getElem?_eq_some_iff.1 hj).1
     have hil : i < r.length := (List.getElem?_eq_some_iff.1 hi).1
     have : (i + 1) * ie.size <= r.length * ie.size := Nat.mul_le_mul_right _ hil
     rw [Nat.add_mul] at this
     rw [List.getElem?_take, if_pos (by omega)]
     simpa using hx'
theorem eff_freeze (hI : InvP vars E m c w g h a) {o : Oper} {s d : TypeId} {x : Operand} {v : V} {g' : Env} {h' : Heap} (ho : o.op = .convert s d x) (hr : isRow P s d = true)
  (he : freezeV (g, h) x = some (v, g', h')) (hd : ∀ t, o.dst = some t -> t < E.nt) (hv : ∀ t, o.dst = some t -> t ∉ vars) : Done P vars E w a o v g' h' := by
 unfold isRow at hr
 simp only [Bool.and_eq_true, beq_iff_eq] at hr
 obtain ⟨rfl, hr⟩ := hr
 split at hr
 ·rename_i e hs
  have hu := is_u8 hr
  unfold freezeV at he
  split at he
  ·rename_i t
   split at he
   ·rename_i r hl
    split at he
    ·cases he
    ·rename_i hre
     simp only [Option.some.injEq, Prod.mk.injEq] at he
     obtain ⟨rfl, rfl, rfl⟩ := he
     have hne : r ≠ [] := fun h => hre (by rw [h]; rfl)
     obtain ⟨hI1, hO⟩ := owner_slot hI hl
     rcases hO.2.1 with ⟨_, h0⟩ | ⟨b, cap, cur, e', sz, hy, hb, hcap, hmax, hcur, hsz, hrow, hc, hbm, _⟩
     ·exact absurd h0 hne
     ·have hbl : b < w.heap.size := (Array.getElem?_eq_some_iff.1 hb).1
      have hmod : ∀ k, (w.freeze ⟨b, cur.size, none⟩ 1).heap[k]? = if k = b then some (.cells cur e' (cur.size, cur.size + 1)) else w.heap[k]? := by
       intro k
       unfold World.freeze
       rw [if_neg (by decide)]
       simp only
       by_cases hk : k = b
       ·subst hk
        rw [if_pos rfl, Array.getElem?_modify, if_pos rfl, hb]
        rfl
       ·rw [if_neg hk, Array.getElem?_modify, if_neg (fun e => hk e.symm)]
      have hrest : (w.freeze ⟨b, cur.size, none⟩ 1).os = w.os /\ (w.freeze ⟨b, cur.size, none⟩ 1).tape = w.tape /\ (w.freeze ⟨b, cur.size, none⟩ 1).output = w.output /\ (w.freeze ⟨b, cur.size, none⟩ 1).heap.size = w.heap.size := by
       unfold World.freeze
       rw [if_neg (by decide)]
       exact ⟨rfl, rfl, rfl, by simp⟩
      have hcell : ∀ k o, (w.freeze ⟨b, cur.size, none⟩ 1).cell? ⟨k, o, none⟩ = w.cell? ⟨k, o, none⟩ := fun k o => by
       by_cases hk : k = b
       ·subst hk
        rw [cell_arr (by rw [hmod, if_pos rfl]), cell_arr hb]
       ·exact cell_of_heap (by rw [hmod, if_neg hk]) o
      have hrun : (convert s s (a.eval (.tmp t))).run P w = .ok (.slice (some ⟨b, 0, none⟩) r.length cap) (w.freeze ⟨b, cur.size, none⟩ 1) := by
       have hsh : w.shape? b = some (e', cur.size) := by unfold World.shape?; rw [hb]
       have hyy : a.eval (.tmp t) = .slice (some ⟨b, 0, none⟩) r.length cap := hy
       rw [hyy]
       simp [convert, run_underlying hs, run_underlying hu, markStringish, hsh]
      have hdo : Does P w a o (.slice (some ⟨b, 0, none⟩) r.length cap) (w.freeze ⟨b, cur.size, none⟩ 1) := does_of (s := convert s s (a.eval (.tmp t))) (by simp [execOp, ho]) hrun
      have hshp : Shp w (w.freeze ⟨b, cur.size, none⟩ 1) b := fun arr0 e0 f0 h0 => by
       rw [hb] at h0
       cases h0
       refine ⟨cur, _, by rw [hmod, if_pos rfl], rfl, fun j hj _ => ?_⟩
       have h1 : (w.freeze ⟨b, cur.size, none⟩ 1).heap[b]? = some (.cells cur e' (cur.size, cur.size + 1)) := by rw [hmod, if_pos rfl]
       simp only [World.frozen?, h1]
       simp
       omega
      have hI' := hI1.grown (c' := c) (w' := w.freeze ⟨b, cur.size, none⟩ 1) (some b) (by rw [hrest.2.2.2]; exact Nat.le_refl _)
       (fun k hk hkb => ⟨by rw [hmod, if_neg (fun e => hkb (by rw [e]))], rfl⟩)
       (fun k hk => by
        cases hk
        refine ⟨hbm, fun l r' x' hl' => ?_, ?_, Nat.le_refl _, fun o _ => hcell b o, ⟨cur, e', _, by rw [hmod, if_pos rfl], ?_⟩, fun _ => hshp⟩
        ·exact hO.2.2.1 l r' x' b hl' (by rw [hy]; rfl)
        ·exact hO.2.2.2 b (by rw [hy]; rfl)
        ·rw [hc, hcur]; exact Nat.mul_le_mul_right _ hcap)
       (fun k hk hkb h0 => by rw [hI.core.c_zero hk] at h0; omega) hrest.1 hrest.2.1 hrest.2.2.1
      have hext : Ext c w c (w.freeze ⟨b, cur.size, none⟩ 1) := ⟨fun _ => Nat.le_refl _, fun k o _ => hcell k o, fun k _ => by
       by_cases hk : k = b
       ·rw [hk]; exact hshp
       ·exact Shp.same (by rw [hmod, if_neg hk])⟩
      have hvp : VP c w (.list .yes r) (.slice (some ⟨b, 0, none⟩) r.length cap) := by rw [<- hy]; exact hO.1
      have hvn : VP c w (.list .no r) (.slice (some ⟨b, 0, none⟩) r.length cap) := by
       cases hvp with
       | empty k ao cap => exact .empty _ _ _
       | list k rows ad cap sz xs q1 q2 q3 q4 q5 q6 q7 q8 => exact .list _ _ _ _ _ xs q1 q2 q3 q4 q5 q6 q7 q8
      exact ⟨_, _, m, c, hdo, hI'.putBare hd (hvn.mono hext) rfl (.inl hv)⟩
   ·cases he
  ·cases he
 ·cases hr
end
end Go.Lift
end

section
namespace Go.Lift
variable [GTab] [BTy]
def act0 : Act := ⟨#[], []⟩
def HOK (m : List Nat) (c : Cl) (w : World) (h : Heap) : Prop := Core [] m c w [] h act0 /\ ∀ (i : Nat) cs, cellsOfOb h i = some cs -> ∀ v ∈ cs, okv h.length v = true
def hoOf (m : List Nat) (w : World) (h : Heap) (lo : Nat) : Nat -> Prop := fun b => ∃ i j r x, lo <= i /\ At m w [] h act0 (.cell i j) r x /\ ownBlk x = some b
def CallOK (P : Program) (lo f : Nat) (args : List V) (h : Heap) (r : V) (h' : Heap) : Prop :=
 bare r = true /\ (∀ xs w, (callFunc f xs).run P w = .ok (.enter f xs) w) /\
 ∀ m c w (xs : Array Value), HOK m c w h -> R2 (VRr m c w) args xs.toList -> (h.length <= h'.length /\ h'.take lo = h.take lo /\ Keeps h.length h h') /\
  Calls P f xs w fun e w' => ∃ x c' m', e = .returned x /\ VRr m' c' w' r x /\ HOK m' c' w' h' /\ Fr lo (hoOf m w h lo) w m c w' m' c' /\ Owned lo (hoOf m w h lo) w m' w' [] h' act0
def CallOK0 (P : Program) (lo f : Nat) (args : List V) (h : Heap) (r : V) (h' : Heap) : Prop :=
 bare r = true /\ (∀ xs w, (callFunc f xs).run P w = .ok (.enter f xs) w) /\
 ∀ m c w (xs : Array Value), HOK m c w h -> R2 (VRr m c w) args xs.toList -> (h'.length = h.length /\ h'.take lo = h.take lo /\ Keeps h.length h h') /\
  Calls P f xs w fun e w' => ∃ x c', e = .returned x /\ VRr m c' w' r x /\ HOK m c' w' h' /\ Fr lo (hoOf m w h lo) w m c w' m c' /\ Owned lo (hoOf m w h lo) w m w' [] h' act0
theorem Keeps.refl (B : Nat) (h : Heap) : Keeps B h h := fun _ _ cs _ _ hcs h0 => h0 cs hcs
theorem Keeps.trans {B C : Nat} {h h' h'' : Heap} (k : Keeps B h h') (k' : Keeps C h' h'') (hBC : B <= C) : Keeps B h h'' := fun n i cs hi hn hcs h0 =>
 k' n i cs (Nat.lt_of_lt_of_le hi hBC) hn hcs fun cs1 h1 => k n i cs1 hi hn h1 h0
theorem CallOK0.ok {P : Program} {lo f : Nat} {args : List V} {h h' : Heap} {r : V} (hk : CallOK0 P lo f args h r h') : CallOK P lo f args h r h' :=
 ⟨hk.1, hk.2.1, fun m c w xs hH hargs => by
  obtain ⟨⟨h1, h2, h3⟩, h4⟩ := hk.2.2 m c w xs hH hargs
  exact ⟨⟨by omega, h2, h3⟩, h4.mono fun e w' ⟨x, c', k⟩ => ⟨x, c', m, k⟩⟩⟩
section
variable {P : Program} {vars : List Nat} {m : List Nat} {c : Cl} {w : World} {g : Env} {h : Heap} {a : Act} {E : Entry}
theorem Core.okAll (hC : Core vars m c w g h a) : ∀ (i : Nat) cs, cellsOfOb h i = some cs -> ∀ v ∈ cs, okv h.length v = true := fun i cs hcs v hv => by
 have hcs0 : h[i]? = some (.cells cs) := by
  unfold cellsOfOb at hcs
  split at hcs
  ·rename_i h0; cases hcs; exact h0
  ·cases hcs
 have hil : i < m.length := by rw [hC.len]; exact (List.getElem?_eq_some_iff.1 hcs0).1
 obtain ⟨arr, e, f, hw, hle, _, hall, _⟩ := hC.ob i _ _ hcs0 (List.getElem?_eq_getElem hil)
 obtain ⟨j, hj, rfl⟩ := List.getElem_of_mem hv
 have := (hall j _ _ (List.getElem?_eq_getElem hj) (Array.getElem?_eq_getElem (by omega))).1.okv
 rw [hC.len] at this
 exact this
theorem InvP.hok (hI : InvP vars E m c w g h a) : HOK m c w h := by
 have hC := hI.core
 have hAt : ∀ {l r x}, At m w [] h act0 l r x -> At m w g h a l r x := fun {l r x} hl => by
  cases l with
  | slot t => exact absurd hl.1 (by simp [look])
  | cell i j => exact hl
 refine ⟨⟨hC.wf1, hC.wf2, hC.nd, hC.len, fun t => trivial, hC.ob, fun l r x hl => hC.own l r x (hAt hl), fun l l' r r' x x' b h1 h2 => hC.uniq l l' r r' x x' b (hAt h1) (hAt h2), fun t u r ht => by simp [look] at ht, fun t i j r ht => by simp [look] at ht, hC.gt⟩, hC.okAll⟩
theorem take_get {α : Type} {l l' : List α} {n i : Nat} (h : l.take n = l'.take n) (hi : i < n) : l[i]? = l'[i]? := by
 have := congrArg (·[i]?) h
 simpa [List.getElem?_take, hi] using this
theorem call_step (hI : InvP vars E m c w g h a) {lo f : Nat} {args : List V} {r : V} {h' : Heap} {xs : Array Value} (hlo : E.lo <= lo) (hll : lo <= h.length) (hOK : CallOK P lo f args h r h') (hargs : R2 (VRr m c w) args xs.toList) :
  Calls P f xs w fun e w' => ∃ x c' m', e = .returned x /\ VRr m' c' w' r x /\ InvP vars E m' c' w' (Lift.untag g) h' a /\ Ext c w c' w' /\ Pre m m' /\ (m'.length = h'.length) /\
   ∀ i j r x, i < lo -> At m w g h a (.cell i j) r x -> At m' w' g h' a (.cell i j) r x := by
 obtain ⟨hbare, hcf, hcall⟩ := hOK
 obtain ⟨⟨hlen, htake, hkeep⟩, hcall⟩ := hcall m c w xs hI.hok hargs
 refine hcall.mono fun e w' ⟨x, c', m', he, hr, ⟨hC', hold'⟩, hF, hO⟩ => ⟨x, c', m', he, hr, ?_, hF.ext, hF.pre, hC'.len, ?_⟩
 rotate_left
 ·intro i j r x hi ⟨cs, b, k1, k2, k3, k4⟩
  have hC := hI.core
  refine ⟨cs, b, ?_, k2, hF.pre i b k3, ?_⟩
  ·unfold cellsOfOb at *
   rw [take_get htake hi]; exact k1
  ·rw [cell_of_heap (hF.fix b (hC.m_lt k3) (fun k hk hkb => ?_) (fun ⟨i', j', r', x', _, hat, hb'⟩ => ?_)).1]
   ·exact k4
   ·obtain ⟨l1, e1⟩ := List.getElem?_eq_some_iff.1 k3
    obtain ⟨l2, e2⟩ := List.getElem?_eq_some_iff.1 hkb
    have := (List.getElem_inj hC.nd).1 (e1.trans e2.symm)
    omega
   ·have hat' : At m w g h a (.cell i' j') r' x' := hat
    exact ((hC.own _ _ _ hat').lt hb').2 (List.mem_of_getElem? k3)
 have hC := hI.core
 have hml : m.length = h.length := hC.len
 have hslot : ∀ {t r x b}, At m w g h a (.slot t) r x -> ownBlk x = some b -> b < w.heap.size /\ b ∉ m /\ ¬ hoOf m w h lo b := fun {t r x b} hl hb => by
  have h1 := (hC.own _ _ _ hl).lt hb
  refine ⟨h1.1, h1.2, fun ⟨i, j, r', x', _, hat, hb'⟩ => ?_⟩
  have hat' : At m w g h a (.cell i j) r' x' := hat
  have := hC.uniq _ _ _ _ _ _ b hl hat' hb hb'
  cases this
 have hfix : ∀ {b}, b < w.heap.size -> b ∉ m -> ¬ hoOf m w h lo b -> w'.heap[b]? = w.heap[b]? /\ c' b = c b := fun {b} h1 h2 h3 => hF.fix b h1 (fun i _ hi => h2 (List.mem_of_getElem? hi)) h3
 have hnm : ∀ {b}, b < w.heap.size -> b ∉ m -> b ∉ m' := fun {b} h1 h2 h3 => by
  obtain ⟨i, hi, e⟩ := List.getElem_of_mem h3
  have hi' : m'[i]? = some b := by rw [List.getElem?_eq_getElem hi, e]
  by_cases hil : i < m.length
  ·have := hF.pre i _ (List.getElem?_eq_getElem hil)
   rw [hi'] at this
   exact h2 (Option.some.inj this ▸ List.getElem_mem hil)
  ·have := hF.new i b (by omega) hi'
   omega
 have hnho : ∀ {b}, b ∈ m -> ¬ hoOf m w h lo b := fun {b} hb ⟨i, j, r', x', _, hat, hb'⟩ => by
  have hat' : At m w g h a (.cell i j) r' x' := hat
  exact ((hC.own _ _ _ hat').lt hb').2 hb
 have hlow : ∀ {i j r x}, i < lo -> At m' w' (Lift.untag g) h' a (.cell i j) r x -> At m w g h a (.cell i j) r x := fun {i j r x} hi hl => by
  obtain ⟨cs, b, k1, k2, k3', k4⟩ := hl
  have e1 : cellsOfOb h i = some cs := by
   unfold cellsOfOb at *
   rw [<- take_get htake hi]; exact k1
  have k3 : m[i]? = some b := by
   have hil : i < m.length := by omega
   have := hF.pre i _ (List.getElem?_eq_getElem hil)
   rw [k3'] at this
   rw [List.getElem?_eq_getElem hil, Option.some.inj this]
  refine ⟨cs, b, e1, k2, k3, ?_⟩
  rw [<- cell_of_heap (hF.fix b (hC.m_lt k3) (fun k hk hkb => ?_) (hnho (List.mem_of_getElem? k3))).1]
  ·exact k4
  ·have h1 := List.getElem?_eq_some_iff.1 k3
   have h2 := List.getElem?_eq_some_iff.1 hkb
   obtain ⟨l1, e1⟩ := h1
   obtain ⟨l2, e2⟩ := h2
   have := (List.getElem_inj hC.nd).1 (e1.trans e2.symm)
   omega
 have hcell : ∀ {i j r x}, At m' w' (Lift.untag g) h' a (.cell i j) r x -> At m' w' [] h' act0 (.cell i j) r x := fun hl => hl
 have hslot' : ∀ {t r x}, At m' w' (Lift.untag g) h' a (.slot t) r x -> At m w g h a (.slot t) r x := fun {t r x} hl => At_untag (h := h) hl
 have hnew : ∀ {t i j r r' x x' b}, At m w g h a (.slot t) r x -> At m' w' (Lift.untag g) h' a (.cell i j) r' x' -> ownBlk x = some b -> ownBlk x' = some b -> False := fun {t i j r r' x x' b} h1 h2 hb hb' => by
  obtain ⟨k1, k2, k3⟩ := hslot h1 hb
  rcases Nat.lt_or_ge i lo with hi | hi
  ·have := hC.uniq _ _ _ _ _ _ b h1 (hlow hi h2) hb hb'
   cases this
  ·rcases hO _ _ _ b (hcell h2) hi hb' with h3 | h3
   ·omega
   ·exact k3 h3
 refine ⟨⟨hC'.wf1, hC'.wf2, hC'.nd, hC'.len, fun t => ?_, hC'.ob, fun l r x hl => ?_, fun l l' r r' x x' b h1 h2 hb hb' => ?_, fun t u r ht => absurd ht (noTags t u r), fun t i j r ht => absurd ht (noTagC t i j r), hC'.gt⟩, ?_, fun l r x b hl hu hb => ?_, ?_, Nat.le_trans hI.hlen hlen, hI.ml, hI.lole, hI.nt, hI.df, hI.old.trans hkeep hI.hlen, hI.ent⟩
 ·rw [look_untag]
  exact ((hC.env t).mono hF.pre hF.ext).untag
 ·cases l with
  | slot t =>
   have h1 := hslot' hl
   refine (hC.own _ _ _ h1).keep fun b hb => ?_
   obtain ⟨k1, k2, k3⟩ := hslot h1 hb
   have := hfix k1 k2 k3
   exact ⟨this.1, this.2, hnm k1⟩
  | cell i j => exact hC'.own _ _ _ (hcell hl)
 ·cases l with
  | slot t =>
   cases l' with
   | slot u => exact hC.uniq _ _ _ _ _ _ b (hslot' h1) (hslot' h2) hb hb'
   | cell i j => exact (hnew (hslot' h1) h2 hb hb').elim
  | cell i j =>
   cases l' with
   | slot u => exact (hnew (hslot' h2) h1 hb' hb).elim
   | cell i' j' => exact hC'.uniq _ _ _ _ _ _ b (hcell h1) (hcell h2) hb hb'
 ·refine ⟨hF.os.trans hI.fr.os, hF.tape.trans hI.fr.tape, hF.output.trans hI.fr.output, Nat.le_trans hI.fr.size hF.size, hI.fr.pre.trans hF.pre, fun i b hi hb => ?_, hI.fr.ext.trans hF.ext, fun b hb h1 h2 => ?_⟩
  ·by_cases hil : i < m.length
   ·have := hF.pre i _ (List.getElem?_eq_getElem hil)
    rw [hb] at this
    exact hI.fr.new i b hi (by rw [List.getElem?_eq_getElem hil, Option.some.inj this])
   ·exact Nat.le_trans hI.fr.size (hF.new i b (by omega) hb)
  have := hF.fix b (Nat.lt_of_lt_of_le hb hI.fr.size) (fun i hi hib => ?_) (fun ⟨i, j, r', x', hi, hat, hb'⟩ => ?_)
  ·have h3 := hI.fr.fix b hb h1 h2
   exact ⟨this.1.trans h3.1, this.2.trans h3.2⟩
  ·by_cases hil : i < E.m.length
   ·have := hI.fr.pre i _ (List.getElem?_eq_getElem hil)
    rw [hib] at this
    cases this
    exact h1 i (by omega) (List.getElem?_eq_getElem hil)
   ·have := hI.fr.new i b (by omega) hib
    omega
  ·have hat' : At m w g h a (.cell i j) r' x' := hat
   rcases hI.owned _ _ _ b hat' (show E.lo <= i by omega) hb' with h3 | h3
   ·omega
   ·exact h2 h3
 ·cases l with
  | slot t => exact hI.owned _ _ _ b (hslot' hl) trivial hb
  | cell i j =>
   rcases Nat.lt_or_ge i lo with hi | hi
   ·exact hI.owned _ _ _ b (hlow hi hl) hu hb
   ·rcases hO _ _ _ b (hcell hl) hi hb with h3 | ⟨i', j', r', x', hi', hat, hb'⟩
    ·exact .inl (Nat.le_trans hI.fr.size h3)
    ·have hat' : At m w g h a (.cell i' j') r' x' := hat
     exact hI.owned _ _ _ b hat' (show E.lo <= i' by omega) hb'
 ·have := congrArg (List.take E.lo) htake
  simp only [List.take_take, Nat.min_eq_left hlo] at this
  rw [this]
  exact hI.hlo
theorem want_spec (hI : InvP vars E m c w g h a) {ops : Array Oper} {o : Oper} {b : Bool} (hw : want ops g o = some b) : Region.wanted o (yielded ops a.tmps) = b := by
 unfold want at hw
 unfold Region.wanted
 cases hg : o.guard with
 | none => rw [hg] at hw; simp only [Option.some.injEq] at hw; exact hw
 | some p =>
  obtain ⟨j, want⟩ := p
  rw [hg] at hw
  simp only at hw ⊢
  unfold yielded
  cases hd : (ops[j]?).bind (·.dst) with
  | none => rw [hd] at hw; simp at hw; simp [hw]
  | some t =>
   rw [hd] at hw
   simp only at hw
   have he := hI.core.env t
   split at hw
   ·rename_i x hx
    rw [hx] at he
    have he' : a.tmps.getD t undef = .bool x := he
    simp only [Option.some.injEq] at hw
    subst hw
    have : a.tmps[t]? = some (.bool x) := by
     rw [Array.getD_eq_getD_getElem?] at he'
     cases hq : a.tmps[t]? with
     | none => rw [hq] at he'; simp [undef] at he'
     | some y => rw [hq] at he'; simpa using he'
    simp [this]
   ·rename_i y hx
    rw [hx] at he
    have he' : a.tmps.getD t undef = .tuple y := he
    simp only [Option.some.injEq] at hw
    subst hw
    have : ∀ z, a.tmps[t]? = some z -> z = .tuple y := fun z hz => by
     rw [Array.getD_eq_getD_getElem?, hz] at he'
     simpa using he'
    cases hq : a.tmps[t]? with
    | none => simp [hq]
    | some z => rw [this z hq] at hq; simp [hq]
   ·cases hw
structure CxOK (cx : Cx) (E : Entry) : Prop where
 lo : cx.lo = E.lo
 base : cx.base = E.base
 call : ∀ lo f args h r h', lo <= h.length -> cx.call lo f args h = some (r, h') -> CallOK cx.P lo f args h r h'
theorem Does.wp {o : Oper} {x : Value} {w' : World} {next : Act -> World -> Prop} {Q : Exit -> Act -> World -> Prop} (hd : Does P w a o x w') (hn : next (a.put o.dst x) w') : o.wp P a w next Q := by
 unfold Oper.wp
 rcases hd with hd | ⟨hd, rfl⟩
 ·rw [hd]; exact hn
 ·rw [hd]; exact hn
theorem exec_call {o : Oper} {k : Call} {f : Operand} {fid : Nat} {caps : Array Value} (ho : o.op = .call k) (hc : k.callee = .value f) {fs : Array Value} (hf : a.eval f = .func (.func fid) fs caps) (hcf : ∀ xs w, (callFunc fid xs).run P w = .ok (.enter fid xs) w) :
  (execOp a.eval o).run P w = .ok (.enter fid (fs ++ (k.args.map a.eval ++ caps))) w := by
 simp [execOp, ho, resolve, hc, Deferred.ofValue, hf, invoke, hcf, Array.append_assoc]
theorem args_rel (hC : Core vars m c w g h a) (args : Array Operand) : R2 (VRr m c w) ((args.toList.map (opd g)).map fzs) (args.map a.eval).toList := by
 refine ⟨by simp, fun i u y hu hy => ?_⟩
 simp only [List.getElem?_map, Option.map_eq_some_iff, Array.toList_map] at hu hy
 obtain ⟨v, ⟨x, hx, rfl⟩, rfl⟩ := hu
 obtain ⟨x', hx', rfl⟩ := hy
 rw [hx] at hx'
 cases hx'
 exact (hC.opd x).fzs
theorem InvP.retag (hI : InvP vars E m c w (Lift.untag g) h a) (henv : ∀ t, VRr m c w (look g t) (a.tmps.getD t undef)) (hS : ∀ t u r, look g t = .list (.slot u) r -> u ∈ vars /\ look g u = .list .yes r /\ a.tmps.getD t undef = a.tmps.getD u undef)
  (hT : ∀ t i j r, look g t = .list (.cell i j) r -> At m w g h a (.cell i j) r (a.tmps.getD t undef)) : InvP vars E m c w g h a := by
 have hC := hI.core
 have hAt : ∀ {l r x}, At m w g h a l r x -> At m w (Lift.untag g) h a l r x := fun {l r x} hl => by
  cases l with
  | slot t => exact ⟨by rw [look_untag]; exact untag1_yes.2 hl.1, hl.2⟩
  | cell i j => exact hl
 exact ⟨⟨hC.wf1, hC.wf2, hC.nd, hC.len, henv, hC.ob, fun l r x hl => hC.own l r x (hAt hl), fun l l' r r' x x' b h1 h2 => hC.uniq l l' r r' x x' b (hAt h1) (hAt h2), hS, hT, hC.gt⟩,
  hI.fr, fun l r x b hl hu hb => hI.owned l r x b (hAt hl) hu hb, hI.hlo, hI.hlen, hI.ml, hI.lole, hI.nt, hI.df, hI.old, hI.ent⟩
theorem call_op (hI : InvP vars E m c w g h a) {o : Oper} {k : Call} {f : Operand} {fid lo : Nat} {caps : List V} {r : V} {h' : Heap} (ho : o.op = .call k) (hc : k.callee = .value f) (hf : opd g f = .fn fid caps) (hlo : E.lo <= lo) (hll : lo <= h.length)
  (hOK : CallOK P lo fid (headB caps ++ ((k.args.toList.map (opd g)).map fzs ++ tailB caps)) h r h') {next : Act -> World -> Prop} {Q : Exit -> Act -> World -> Prop}
  (hd : ∀ t, o.dst = some t -> t < E.nt) (hv : ∀ t, o.dst = some t -> t ∉ vars) (hn : ∀ x w' m' c', InvP vars E m' c' w' (put o.dst r (Lift.untagC g)) h' (a.put o.dst x) -> next (a.put o.dst x) w') : o.wp P a w next Q := by
 have hfv := hI.core.opd f
 rw [hf] at hfv
 obtain ⟨fs, xs, hxs, hfst, hcaps⟩ := hfv
 unfold Oper.wp
 rw [exec_call ho hc hxs hOK.2.1]
 have hargs : R2 (VRr m c w) (headB caps ++ ((k.args.toList.map (opd g)).map fzs ++ tailB caps)) (fs ++ (k.args.map a.eval ++ xs)).toList := by
  rw [Array.toList_append, Array.toList_append]
  exact (hfst.mono fun _ _ hv => VR.r (VR1.r hv.r)).append ((args_rel hI.core k.args).append (hcaps.mono fun _ _ hv => VR.r (VR1.r hv.r)))
 refine (call_step hI hlo hll hOK hargs).mono fun e w' ⟨x, c', m', he, hr, hI', hE, hP, _, _⟩ => ?_
 subst he
 have hI2 : InvP vars E m' c' w' (Lift.untagC g) h' a := InvP.retag (by rw [untag_untagC]; exact hI')
  (fun t => by rw [look_untagC]; exact ((hI.core.env t).mono hP hE).untagC)
  (fun t u r ht => by
   rw [look_untagC] at ht
   obtain ⟨h1, h2, h3⟩ := hI.core.tagS t u r (untagC1_slot ht)
   exact ⟨h1, by rw [look_untagC, h2]; rfl, h3⟩)
  (fun t i j r ht => by rw [look_untagC] at ht; exact absurd ht untagC1_cell)
 exact hn x w' m' c' (hI2.putBare hd hr hOK.1 (.inl hv))
theorem cellsOfOb_lt {h : Heap} {i : Nat} {cs : List V} (hi : cellsOfOb h i = some cs) : i < h.length := by
 unfold cellsOfOb at hi
 split at hi
 ·rename_i h0; exact (List.getElem?_eq_some_iff.1 h0).1
 ·cases hi
theorem call_quiet (hI : InvP vars E m c w g h a) {o : Oper} {k : Call} {f : Operand} {fid : Nat} {caps : List V} {r : V} {h' : Heap} (ho : o.op = .call k) (hc : k.callee = .value f) (hf : opd g f = .fn fid caps)
  (hOK : CallOK P h.length fid (headB caps ++ ((k.args.toList.map (opd g)).map fzs ++ tailB caps)) h r h') (hsm : h'.length = h.length) {next : Act -> World -> Prop} {Q : Exit -> Act -> World -> Prop}
  (hd : ∀ t, o.dst = some t -> t < E.nt) (hv : ∀ t, o.dst = some t -> t ∉ vars) (hn : ∀ x w' m' c', InvP vars E m' c' w' (put o.dst r g) h (a.put o.dst x) -> next (a.put o.dst x) w') : o.wp P a w next Q := by
 have hfv := hI.core.opd f
 rw [hf] at hfv
 obtain ⟨fs, xs, hxs, hfst, hcaps⟩ := hfv
 have hargs : R2 (VRr m c w) (headB caps ++ ((k.args.toList.map (opd g)).map fzs ++ tailB caps)) (fs ++ (k.args.map a.eval ++ xs)).toList := by
  rw [Array.toList_append, Array.toList_append]
  exact (hfst.mono fun _ _ hv => VR.r (VR1.r hv.r)).append ((args_rel hI.core k.args).append (hcaps.mono fun _ _ hv => VR.r (VR1.r hv.r)))
 have hh : h' = h := by
  obtain ⟨_, h1, _⟩ := (hOK.2.2 m c w _ hI.hok hargs).1
  rw [List.take_length, List.take_of_length_le (by rw [hsm]; exact Nat.le_refl _)] at h1
  exact h1
 subst hh
 unfold Oper.wp
 rw [exec_call ho hc hxs hOK.2.1]
 refine (call_step hI (Nat.le_trans hI.lole hI.hlen) (Nat.le_refl _) hOK hargs).mono fun e w' ⟨x, c', m', he, hr, hI', hE, hP, hl', hAt⟩ => ?_
 subst he
 refine hn x w' m' c' (InvP.putBare (hI'.retag (fun t => (hI.core.env t).mono hP hE) hI.core.tagS fun t i j r ht => ?_) hd hr hOK.1 (.inl hv))
 have h1 := hI.core.tagC t i j r ht
 have h2 := h1
 obtain ⟨cs, b, k1, _⟩ := h2
 exact hAt i j r _ (cellsOfOb_lt k1) h1
end
end Go.Lift
end

section
namespace Go.Lift
variable [GTab] [BTy]
section kill
variable {m : List Nat} {c : Cl} {w : World} {i nb : Nat}
theorem get_set_ne {m : List Nat} {i k nb g : Nat} (h : m[k]? = some g) (hk : k ≠ i) : (m.set i nb)[k]? = some g := by
 rw [List.getElem?_set, if_neg (Ne.symm hk)]; exact h
theorem VR0.kil {v : V} {x : Value} (h : VR0 m c w v x) (hk : avc i v = true) : VR0 (m.set i nb) c w v x := by
 cases v with
 | ptr b o => obtain ⟨g, hg, rfl⟩ := h; exact ⟨g, get_set_ne hg (by simpa [avc] using hk), rfl⟩
 | mp b => obtain ⟨g, hg, rfl⟩ := h; exact ⟨g, get_set_ne hg (by simpa [avc] using hk), rfl⟩
 | buf b o k => obtain ⟨g, cap, hg, rfl, hc⟩ := h; exact ⟨g, cap, get_set_ne hg (by simpa [avc] using hk), rfl, hc⟩
 | stk b k sz => obtain ⟨g, cap, hg, rfl, hc⟩ := h; exact ⟨g, cap, get_set_ne hg (by simpa [avc] using hk), rfl, hc⟩
 | _ => exact h
theorem VR1.kil {v : V} {x : Value} (h : VR1 m c w v x) (hk : avf i v = true) : VR1 (m.set i nb) c w v x := by
 cases v with
 | fn f cs =>
  obtain ⟨fs, xs, rfl, hr1, hr⟩ := h
  simp only [avf, List.all_eq_true] at hk
  exact ⟨fs, xs, rfl, ⟨hr1.1, fun j u y hu hy => (hr1.2 j u y hu hy).kil (hk u (headB_mem (List.mem_of_getElem? hu)))⟩, ⟨hr.1, fun j u y hu hy => (hr.2 j u y hu hy).kil (hk u (tailB_mem (List.mem_of_getElem? hu)))⟩⟩
 | ptr b o => exact VR0.kil (c := c) (w := w) (v := .ptr b o) (x := x) h hk
 | mp b => exact VR0.kil (c := c) (w := w) (v := .mp b) (x := x) h hk
 | buf b o k => exact VR0.kil (c := c) (w := w) (v := .buf b o k) (x := x) h hk
 | stk b k sz => exact VR0.kil (c := c) (w := w) (v := .stk b k sz) (x := x) h hk
 | v y => exact h
 | nil => exact h
 | list k r => exact h
 | rp cs => exact h
 | undef => exact h
 | any => exact h
 | agg cs => exact h.elim
 | tup vs => exact h.elim
theorem VR.kil {v : V} {x : Value} (h : VR m c w v x) (hk : avv i v = true) : VR (m.set i nb) c w v x := by
 cases v with
 | agg cs =>
  obtain ⟨xs, rfl, hr⟩ := h
  simp only [avv, List.all_eq_true] at hk
  exact ⟨xs, rfl, hr.1, fun j u y hu hy => (hr.2 j u y hu hy).kil (hk u (List.mem_of_getElem? hu))⟩
 | tup vs => exact h.elim
 | ptr b o => exact VR1.kil (c := c) (w := w) (v := .ptr b o) (x := x) h hk
 | mp b => exact VR1.kil (c := c) (w := w) (v := .mp b) (x := x) h hk
 | buf b o k => exact VR1.kil (c := c) (w := w) (v := .buf b o k) (x := x) h hk
 | stk b k sz => exact VR1.kil (c := c) (w := w) (v := .stk b k sz) (x := x) h hk
 | fn f cs => exact VR1.kil (c := c) (w := w) (v := .fn f cs) (x := x) h hk
 | v y => exact h
 | nil => exact h
 | list k r => exact h
 | rp cs => exact h
 | undef => exact h
 | any => exact h
theorem VRr.kil0 {v : V} {x : Value} (h : VRr m c w v x) (hk : avr i v = true) : VRr (m.set i nb) c w v x := by
 cases v with
 | tup vs =>
  obtain ⟨xs, rfl, hr⟩ := h
  simp only [avr, List.all_eq_true] at hk
  exact ⟨xs, rfl, hr.1, fun j u y hu hy => (hr.2 j u y hu hy).kil (hk u (List.mem_of_getElem? hu))⟩
 | agg cs => exact VR.kil (c := c) (w := w) (v := .agg cs) (x := x) h hk
 | ptr b o => exact VR.kil (c := c) (w := w) (v := .ptr b o) (x := x) h hk
 | mp b => exact VR.kil (c := c) (w := w) (v := .mp b) (x := x) h hk
 | buf b o k => exact VR.kil (c := c) (w := w) (v := .buf b o k) (x := x) h hk
 | stk b k sz => exact VR.kil (c := c) (w := w) (v := .stk b k sz) (x := x) h hk
 | fn f cs => exact VR.kil (c := c) (w := w) (v := .fn f cs) (x := x) h hk
 | v y => exact h
 | nil => exact h
 | list k r => exact h
 | rp cs => exact h
 | undef => exact h
 | any => exact h
theorem VRr.kil {v : V} {x : Value} (h : VRr m c w v x) : VRr (m.set i nb) c w (Lift.kil i v) x := by
 unfold Lift.kil
 split
 ·rename_i hk; exact h.kil0 hk
 ·trivial
theorem VR1.kilf {v : V} {x : Value} (h : VR1 m c w v x) : VR1 (m.set i nb) c w (Lift.kilf i v) x := by
 unfold Lift.kilf
 split
 ·rename_i hk; exact h.kil hk
 ·trivial
theorem look_kilE : ∀ (g : Env) (u : Nat), look (kilE i g) u = Lift.kil i (look g u)
 | [], u => rfl
 | (k, y) :: l, u => by
  simp only [kilE, List.map_cons, look]
  split
  ·rfl
  ·exact look_kilE l u
theorem kil_list {v : V} {k : Own} {r : List (List V)} (h : Lift.kil i v = .list k r) : v = .list k r := by
 unfold Lift.kil at h
 split at h
 ·exact h
 ·cases h
theorem kilf_list {v : V} {k : Own} {r : List (List V)} (h : Lift.kilf i v = .list k r) : v = .list k r := by
 unfold Lift.kilf at h
 split at h
 ·exact h
 ·cases h
theorem okc_avc {n : Nat} (hn : n <= i) {v : V} (h : okc n v = true) : avc i v = true := by
 cases v <;> first | rfl | (simp [okc, avc] at h ⊢; omega)
theorem okv_avf {n : Nat} (hn : n <= i) {v : V} (h : okv n v = true) : avf i v = true := by
 cases v with
 | fn f cs => simp only [okv, avf, List.all_eq_true] at h ⊢; exact fun x hx => okc_avc hn (h x hx)
 | ptr b o => exact okc_avc hn (v := .ptr b o) h
 | mp b => exact okc_avc hn (v := .mp b) h
 | buf b o k => exact okc_avc hn (v := .buf b o k) h
 | stk b k sz => exact okc_avc hn (v := .stk b k sz) h
 | _ => rfl
theorem isNilP_kilf (v : V) : isNilP (Lift.kilf i v) = true -> isNilP v = true := fun h => by
 unfold Lift.kilf at h
 split at h
 ·exact h
 ·cases h
theorem ObR.kil {o : Ob} {b : Nat} (h : ObR m c w o b) : ObR (m.set i nb) c w (kilO i o) b := by
 cases o with
 | iter s p => exact h
 | tab es => exact h
 | cells cs =>
  obtain ⟨arr, e, f, h1, h2, h3, h4, h5⟩ := h
  unfold kilO
  simp only
  split
  ·rename_i hk
   simp only [List.all_eq_true] at hk
   exact ⟨arr, e, f, h1, h2, h3, fun j v x hv hx => ⟨(h4 j v x hv hx).1.kil (hk v (List.mem_of_getElem? hv)), (h4 j v x hv hx).2⟩, h5⟩
  ·refine ⟨arr, e, f, h1, by simpa using h2, fun j hj => h3 j (by simpa using hj), fun j v x hv hx => ?_, fun T hT hb => ?_⟩
   ·simp only [List.getElem?_map, Option.map_eq_some_iff] at hv
    obtain ⟨u, hu, rfl⟩ := hv
    exact ⟨(h4 j u x hu hx).1.kilf, (h4 j u x hu hx).2⟩
   ·obtain ⟨x, k2, k3⟩ := isBld_iff.1 hb
    rw [List.length_map] at hT ⊢
    simp only [List.getElem?_map, Option.map_eq_some_iff] at k2
    obtain ⟨u, hu, rfl⟩ := k2
    exact h5 T hT (isBld_iff.2 ⟨u, hu, isNilP_kilf u k3⟩)
theorem kilO_cells {o : Ob} {cs : List V} (h : kilO i o = .cells cs) : ∃ cs0, o = .cells cs0 /\ ∀ (j : Nat) (k : Own) (r : List (List V)), cs[j]? = some (.list k r) -> cs0[j]? = some (.list k r) := by
 cases o with
 | iter s p => cases h
 | tab es => cases h
 | cells cs0 =>
  refine ⟨cs0, rfl, ?_⟩
  unfold kilO at h
  simp only at h
  split at h
  ·cases h; exact fun _ _ _ h => h
  ·cases h
   intro j k r hj
   simp only [List.getElem?_map, Option.map_eq_some_iff] at hj
   obtain ⟨u, hu, he⟩ := hj
   rw [hu, kilf_list he]
theorem nodup_set : ∀ {l : List Nat} {i x : Nat}, l.Nodup -> x ∉ l -> (l.set i x).Nodup
 | [], i, x, _, _ => by simp
 | a :: l, 0, x, h, hx => by
  rw [List.nodup_cons] at h
  simp only [List.set_cons_zero, List.nodup_cons]
  exact ⟨fun hm => hx (List.mem_cons_of_mem _ hm), h.2⟩
 | a :: l, i + 1, x, h, hx => by
  rw [List.nodup_cons] at h
  simp only [List.set_cons_succ, List.nodup_cons]
  refine ⟨fun hm => ?_, nodup_set h.2 fun hm => hx (List.mem_cons_of_mem _ hm)⟩
  rcases List.mem_or_eq_of_mem_set hm with hm | rfl
  ·exact h.1 hm
  ·exact hx (List.mem_cons_self ..)
end kill
section
variable {P : Program} {vars : List Nat} {m : List Nat} {c : Cl} {w : World} {g : Env} {h : Heap} {a : Act} {E : Entry}
theorem InvP.restk (hI : InvP vars E m c w g h a) {i gb nb : Nat} {cs' : List V} {w' : World} (hib : E.base <= i) (hi : m[i]? = some gb) (hnb : nb = gb \/ w.heap.size <= nb)
  (hsz : w.heap.size <= w'.heap.size) (hother : ∀ b, b < w.heap.size -> b ≠ nb -> w'.heap[b]? = w.heap[b]?) (hos : w'.os = w.os) (htape : w'.tape = w.tape) (hout : w'.output = w.output)
  (hob : ∃ arr e f, w'.heap[nb]? = some (.cells arr e f) /\ cs'.length <= arr.size /\ (∀ j, j < cs'.length -> w'.frozen? ⟨nb, j, none⟩ = false) /\
   (∀ (j : Nat) v x, cs'[j]? = some v -> arr[j]? = some x -> VR1 m c w v x /\ avf i v = true /\ x.oneCell' = true))
  (hnil : ∀ v ∈ cs', isNilP v = false) (hshp : nb = gb -> Shp w w' gb)
  (hown : ∀ (j : Nat) r x, cs'[j]? = some (.list .yes r) -> w'.cell? ⟨nb, j, none⟩ = some x -> (r = [] /\ x = .slice none 0 0) \/ At m w g h a (.cell i j) r x)
  (hnS : ∀ t u r, look g t ≠ .list (.slot u) r) (hnC : ∀ t i j r, look g t ≠ .list (.cell i j) r) :
  InvP vars E (m.set i nb) c w' (kilE i g) ((kilH E.base i h).set i (.cells cs')) a := by
 have hC := hI.core
 have him : i < m.length := (List.getElem?_eq_some_iff.1 hi).1
 have hgl : gb < w.heap.size := hC.m_lt hi
 have hc0 : c nb = 0 := by
  rcases hnb with rfl | hnb
  ·exact hC.wf2 nb (List.mem_of_getElem? hi)
  ·exact hC.c_zero hnb
 have hmi : (m.set i nb)[i]? = some nb := by simp [him]
 have hmk : ∀ {k b}, (m.set i nb)[k]? = some b -> k ≠ i -> m[k]? = some b := fun {k b} hk hne => by
  rw [List.getElem?_set, if_neg (Ne.symm hne)] at hk; exact hk
 have hEb : E.w.heap.size <= nb := by
  rcases hnb with rfl | hnb
  ·exact hI.fr.new i _ (by rw [hI.ml]; exact hib) hi
  ·exact Nat.le_trans hI.fr.size hnb
 have hkl : (kilH E.base i h).length = h.length := by
  have := hI.hlen
  simp [kilH]; omega
 have hbase : ∀ {k : Nat} {o : Ob}, k < E.base -> h[k]? = some o -> kilO i o = o := fun {k o} hk ho => by
  cases o with
  | iter s p => rfl
  | tab es => rfl
  | cells cs =>
   unfold kilO
   simp only
   rw [if_pos]
   rw [List.all_eq_true]
   intro v hv
   refine okv_avf hib (hI.old E.base k cs hk hk (by unfold cellsOfOb; rw [ho]) (fun cs0 h0 => hI.ent k cs0 h0) v hv)
 have hhk : ∀ {k : Nat} {o : Ob}, ((kilH E.base i h).set i (.cells cs'))[k]? = some o -> k ≠ i -> ∃ o0, h[k]? = some o0 /\ o = kilO i o0 := fun {k o} hk hne => by
  rw [List.getElem?_set, if_neg (Ne.symm hne)] at hk
  unfold kilH at hk
  have hlen := hI.hlen
  rw [List.getElem?_append, List.length_take, Nat.min_eq_left hlen] at hk
  split at hk
  ·rename_i hlt
   rw [List.getElem?_take, if_pos hlt] at hk
   exact ⟨o, hk, (hbase hlt hk).symm⟩
  ·rename_i hge
   simp only [List.getElem?_map, Option.map_eq_some_iff, List.getElem?_drop] at hk
   obtain ⟨o0, h0, rfl⟩ := hk
   rw [show E.base + (k - E.base) = k by omega] at h0
   exact ⟨o0, h0, rfl⟩
 have hhi : ∀ {o : Ob}, ((kilH E.base i h).set i (.cells cs'))[i]? = some o -> o = .cells cs' := fun {o} ho => by
  rw [List.getElem?_set, if_pos rfl] at ho
  split at ho
  ·exact (Option.some.inj ho).symm
  ·cases ho
 have hmne : ∀ {k b}, m[k]? = some b -> k ≠ i -> b ≠ nb := fun {k b} hk hki e => by
  subst e
  rcases hnb with rfl | hnb
  ·obtain ⟨l1, e1⟩ := List.getElem?_eq_some_iff.1 hk
   obtain ⟨l2, e2⟩ := List.getElem?_eq_some_iff.1 hi
   exact hki ((List.getElem_inj hC.nd).1 (e1.trans e2.symm))
  ·have := hC.m_lt hk
   omega
 have hext : Ext c w c w' := by
  refine ⟨fun _ => Nat.le_refl _, fun b o ho => ?_, fun b _ => ?_⟩
  ·have hb : b ≠ nb := fun e => by rw [e, hc0] at ho; omega
   have hl : b < w.heap.size := by
    rcases Nat.lt_or_ge b w.heap.size with hl | hl
    ·exact hl
    ·rw [hC.c_zero hl] at ho; omega
   exact cell_of_heap (hother b hl hb) o
  ·rcases Nat.lt_or_ge b w.heap.size with hl | hl
   ·by_cases hb : b = nb
    ·rcases hnb with e | e
     ·rw [hb, e]; exact hshp e
     ·omega
    ·exact Shp.same (hother b hl hb)
   ·exact Shp.none hl
 have hAt : ∀ {l r x}, At (m.set i nb) w' (kilE i g) ((kilH E.base i h).set i (.cells cs')) a l r x -> At m w g h a l r x \/ (r = [] /\ x = .slice none 0 0) := fun {l r x} hl => by
  cases l with
  | slot t =>
   obtain ⟨h1, h2⟩ := hl
   rw [look_kilE] at h1
   exact .inl ⟨kil_list h1, h2⟩
  | cell k j =>
   obtain ⟨cs, b, h1, h2, h3, h4⟩ := hl
   have h1' : ((kilH E.base i h).set i (.cells cs'))[k]? = some (.cells cs) := by
    unfold cellsOfOb at h1
    split at h1
    ·rename_i hq; cases h1; exact hq
    ·cases h1
   by_cases hki : k = i
   ·subst hki
    have := hhi h1'
    cases this
    rw [hmi] at h3
    cases h3
    rcases hown j r x h2 h4 with h0 | h0
    ·exact .inr h0
    ·exact .inl h0
   ·obtain ⟨o0, ho0, he⟩ := hhk h1' hki
    obtain ⟨cs0, rfl, hq⟩ := kilO_cells he.symm
    have h3' := hmk h3 hki
    refine .inl ⟨cs0, b, by unfold cellsOfOb; rw [ho0], hq j _ _ h2, h3', ?_⟩
    rw [<- cell_of_heap (hother b (hC.m_lt h3') (hmne h3' hki))]
    exact h4
 have hblk : ∀ {l r x b}, At m w g h a l r x -> ownBlk x = some b -> b < w.heap.size /\ b ≠ nb /\ b ∉ m.set i nb := fun {l r x b} hl hb => by
  have h1 := (hC.own l r x hl).lt hb
  have h2 : b ≠ nb := fun e => by
   rcases hnb with e' | e'
   ·rw [e, e'] at h1; exact h1.2 (List.mem_of_getElem? hi)
   ·omega
  refine ⟨h1.1, h2, fun hm => ?_⟩
  rcases List.mem_or_eq_of_mem_set hm with hm | e
  ·exact h1.2 hm
  ·exact h2 e
 refine ⟨⟨fun b hb => ?_, fun b hb => ?_, ?_, by rw [List.length_set, List.length_set, hkl]; exact hC.len, fun t => ?_, fun k o b ho hb => ?_, fun l r x hl => ?_, fun l l' r r' x x' b h1 h2 hb hb' => ?_, fun t u r ht => ?_, fun t k j r ht => ?_, fun n cs hg => (hC.gt n cs hg).mono hext⟩,
  ⟨hos.trans hI.fr.os, htape.trans hI.fr.tape, hout.trans hI.fr.output, Nat.le_trans hI.fr.size hsz, fun k b hk => ?_, fun k b hk hb => ?_, hI.fr.ext.trans hext, fun b hb h1 h2 => ?_⟩, fun l r x b hl hu hb => ?_, ?_, ?_, hI.ml, hI.lole, hI.nt, hI.df, fun n k cs hkb hkn hcs h0 => ?_, hI.ent⟩
 ·have hbn : b ≠ nb := fun e => by rw [e, hc0] at hb; omega
  have hl : b < w.heap.size := by
   rcases Nat.lt_or_ge b w.heap.size with hl | hl
   ·exact hl
   ·rw [hC.c_zero hl] at hb; omega
  rw [hother b hl hbn]
  exact hC.wf1 b hb
 ·rcases List.mem_or_eq_of_mem_set hb with hb | rfl
  ·exact hC.wf2 b hb
  ·exact hc0
 ·rcases hnb with rfl | hnb
  ·have : m.set i nb = m := by
    apply List.ext_getElem?
    intro k
    rw [List.getElem?_set]
    by_cases hk : i = k
    ·subst hk; rw [if_pos rfl, if_pos him, hi]
    ·rw [if_neg hk]
   rw [this]
   exact hC.nd
  ·refine nodup_set hC.nd fun hm => ?_
   obtain ⟨k, hk, e⟩ := List.getElem_of_mem hm
   have := hC.m_lt (i := k) (b := nb) (by rw [List.getElem?_eq_getElem hk, e])
   omega
 ·rw [look_kilE]
  exact ((hC.env t).kil).mono (Pre.refl _) hext
 ·by_cases hki : k = i
  ·subst hki
   have := hhi ho
   subst this
   rw [hmi] at hb
   cases hb
   obtain ⟨arr, e, f, k1, k2, k3, k4⟩ := hob
   refine ⟨arr, e, f, k1, k2, k3, fun j v x hv hx => ⟨((k4 j v x hv hx).1.kil (k4 j v x hv hx).2.1).mono (Pre.refl _) hext, (k4 j v x hv hx).2.2⟩, fun T hT hc => ?_⟩
   obtain ⟨x, q2, q3⟩ := isBld_iff.1 hc
   rw [hnil x (List.mem_of_getElem? q2)] at q3
   cases q3
  ·obtain ⟨o0, ho0, rfl⟩ := hhk ho hki
   have hb' := hmk hb hki
   exact ((hC.ob k o0 b ho0 hb').kil).keep (hother b (hC.m_lt hb') (hmne hb' hki)) (Pre.refl _) hext
 ·rcases hAt hl with hl | h0
  ·refine (hC.own l r x hl).keep fun b hb => ?_
   obtain ⟨k1, k2, k3⟩ := hblk hl hb
   exact ⟨hother b k1 k2, rfl, fun _ => k3⟩
  ·exact .inl ⟨h0.2, h0.1⟩
 ·rcases hAt h1 with g1 | ⟨_, rfl⟩
  ·rcases hAt h2 with g2 | ⟨_, rfl⟩
   ·exact hC.uniq l l' r r' x x' b g1 g2 hb hb'
   ·cases hb'
  ·cases hb
 ·rw [look_kilE] at ht
  exact absurd (kil_list ht) (hnS t u r)
 ·rw [look_kilE] at ht
  exact absurd (kil_list ht) (hnC t k j r)
 ·exact get_set_ne (hI.fr.pre k b hk) (fun e => by
   have := (List.getElem?_eq_some_iff.1 hk).1
   rw [hI.ml] at this
   omega)
 ·by_cases hki : k = i
  ·subst hki
   rw [hmi] at hb
   cases hb
   exact hEb
  ·exact hI.fr.new k b hk (hmk hb hki)
 ·have hbn : b ≠ nb := fun e => by omega
  have hl := Nat.lt_of_lt_of_le hb hI.fr.size
  rw [hother b hl hbn]
  exact hI.fr.fix b hb h1 h2
 ·rcases hAt hl with hl | ⟨_, rfl⟩
  ·exact hI.owned l r x b hl hu hb
  ·cases hb
 ·have h1 := hI.lole
  have h2 := hI.hlen
  rw [List.take_set_of_le (by omega)]
  unfold kilH
  rw [List.take_append_of_le_length (by simp; omega), List.take_take, Nat.min_eq_left h1]
  exact hI.hlo
 ·rw [List.length_set, hkl]; exact hI.hlen
 ·have h1' : ((kilH E.base i h).set i (.cells cs'))[k]? = some (.cells cs) := by
   unfold cellsOfOb at hcs
   split at hcs
   ·rename_i hq; cases hcs; exact hq
   ·cases hcs
  obtain ⟨o0, ho0, he⟩ := hhk h1' (by omega)
  rw [hbase hkb ho0] at he
  subst he
  exact hI.old n k cs hkb hkn (by unfold cellsOfOb; rw [ho0]) h0
end
end Go.Lift
end

section
namespace Go.Lift
variable [GTab] [BTy]
section
variable {P : Program} {vars : List Nat} {m : List Nat} {c : Cl} {w : World} {g : Env} {h : Heap} {a : Act} {E : Entry}
theorem new_stk {w' : World} {arr : Array Value} {e : TypeId} {n cap sz : Nat} (hl : m.length = h.length) (hw : w'.heap = w.heap.push (.cells arr e)) (hn : n <= cap) (hm : cap <= maxLen) (hs : arr.size = cap * sz) :
  VRr (m ++ [w.heap.size]) c w' (.stk h.length n sz) (.slice (some ⟨w.heap.size, 0, none⟩) n cap) := by
 have hnew : w'.heap[w.heap.size]? = some (.cells arr e (0, 0)) := by rw [hw]; simp
 exact ⟨w.heap.size, cap, by rw [<- hl]; simp, rfl, hn, hm, fun _ => ⟨arr, e, (0, 0), hnew, hs, fun j _ => by simp [World.frozen?, hnew]⟩⟩
theorem keepC_list {v : V} {r : List (List V)} (h : keepC v = .list .yes r) : v = .nil /\ r = [] := by
 cases v <;> simp [keepC, own1, cp] at h
 exact ⟨rfl, h⟩
theorem pure2_keep {v : V} {x : Value} (hv : VP c w v x) : VR1 m c w (keepC v) x := VR1.own1 (VR1.cp (VR1_of_VP hv))
theorem nilP_keepC (v : V) : isNilP (keepC v) = isNilP v := by
 unfold keepC
 rw [isNilP_own1]
 cases v <;> rfl
theorem avf_keepC {i : Nat} {v : V} (h : pure2 v = true) : avf i (keepC v) = true := by
 cases v <;> first | rfl | cases h
theorem pure3_spec {v : V} (h : pure3 v = true) : pure2 v = true /\ isNilP v = false := by
 unfold pure3 at h
 simpa using h
theorem stoOk_pure2 {v : V} (h : pure2 v = true) : stoOk v = true := by
 cases v <;> first | exact h | rfl | cases h
theorem nilBld {cs : List V} (h : ∀ v ∈ cs, isNilP v = false) : isBld cs = false := by
 cases hb : isBld cs with
 | false => rfl
 | true =>
  obtain ⟨x, h2, h3⟩ := isBld_iff.1 hb
  rw [h x (List.mem_of_getElem? h2)] at h3
  cases h3
theorem mkRows_length {z : List V} : ∀ (n : Nat), (mkRows n z).length = n * z.length
 | 0 => by simp [mkRows]
 | n + 1 => by rw [mkRows, List.length_append, mkRows_length n, Nat.add_mul]; omega
theorem mkRows_get {z : List V} : ∀ (n j : Nat), j < n * z.length -> (mkRows n z)[j]? = z[j % z.length]?
 | 0, j, h => by simp at h
 | n + 1, j, h => by
  rw [mkRows, List.getElem?_append]
  split
  ·rename_i hl; rw [Nat.mod_eq_of_lt hl]
  ·rename_i hl
   rw [mkRows_get n (j - z.length) (by rw [Nat.add_mul] at h; omega)]
   congr 1
   exact (Nat.mod_eq_sub_mod (by omega)).symm
theorem mem_mkRows {z : List V} {v : V} : ∀ (n : Nat), v ∈ mkRows n z -> v ∈ z
 | 0, h => by cases h
 | n + 1, h => by
  rw [mkRows, List.mem_append] at h
  rcases h with h | h
  ·exact h
  ·exact mem_mkRows n h
theorem eff_make (hI : InvP vars E m c w g h a) {o : Oper} {t e : TypeId} {n k : Operand} {na : Int} {z : List Value} (ho : o.op = .makeSlice t n k) (h1 : idx (opd g n) = some na) (h2 : idx (opd g k) = some na) (hu : P.underlying t = some (.slice e)) (hz : tzero P e = some z)
  (c1 : 0 <= na) (c3 : z.length = tsize P e) (c4 : 0 < tsize P e) (c5 : na.toNat * P.bytesOf e <= 140737488355328) (c6 : na <= 9223372036854775807) (c7 : (z.map ofC1).all pure3 = true)
  (hd : ∀ t, o.dst = some t -> t < E.nt) (hv : ∀ t, o.dst = some t -> t ∉ vars) :
  Done P vars E w a o (.stk h.length na.toNat (tsize P e)) g (h ++ [.cells (mkRows na.toNat ((z.map ofC1).map own1))]) := by
 obtain ⟨ie, hie⟩ : ∃ ie, P.info? e = some ie := by
  cases hie : P.info? e with
  | some ie => exact ⟨ie, rfl⟩
  | none => simp [tsize, Program.cellsOf, hie] at c4
 have hsz := size_of_info hie
 obtain ⟨zv, hzv, hzc⟩ : ∃ zv, ie.zero = some zv /\ z = zv.cells.toList := by
  unfold tzero at hz
  rw [hie] at hz
  cases hz0 : ie.zero with
  | none => simp [hz0] at hz
  | some zv => simp [hz0] at hz; exact ⟨zv, rfl, hz.symm⟩
 obtain ⟨k1, hk1⟩ := idx_spec h1
 obtain ⟨k2, hk2⟩ := idx_spec h2
 have e1 : a.eval n = .int k1 na := by have := hI.core.opd n; rw [hk1] at this; exact this
 have e2 : a.eval k = .int k2 na := by have := hI.core.opd k; rw [hk2] at this; exact this
 have hby : P.bytesOf e = ie.bytes := by simp [Program.bytesOf, hie]
 rw [hby] at c5
 have hb' : (ie.bytes : Int) * na <= 281474976710656 := by
  have h3 : ((na.toNat * ie.bytes : Nat) : Int) <= 281474976710656 := by omega
  rw [Int.natCast_mul, Int.toNat_of_nonneg c1, Int.mul_comm] at h3
  exact h3
 have hrun := run_make (P := P) w t e ie zv hu hie hzv k1 k2 na na c1 (Int.le_refl _) hb' c6
 subst hzc
 have hzs : zv.cells.size = ie.size := by rw [<- hsz]; simpa using c3
 have hrel := ofC1_cells (m := m) (c := c) (w := w) zv
 obtain ⟨hrel1, hno⟩ := own_cells1 hrel (fun r hr => by
  obtain ⟨y, _, hy⟩ := List.mem_map.1 hr
  unfold ofC1 at hy
  split at hy
  ·cases hy
  ·split at hy <;> cases hy
  ·cases hy)
 have hmc : ∀ j x, (madeCells zv.cells (na.toNat * ie.size))[j]? = some x -> j < na.toNat * ie.size /\ zv.cells[j % ie.size]? = some x := fun j x hx => by
  have hj : j < na.toNat * ie.size := by have := (Array.getElem?_eq_some_iff.1 hx).1; simpa [madeCells] using this
  have h0 : 0 < ie.size := by rw [<- hsz]; exact c4
  have hm : j % ie.size < zv.cells.size := by rw [hzs]; exact Nat.mod_lt _ h0
  refine ⟨hj, ?_⟩
  simp only [madeCells, Array.getElem?_map, Array.getElem?_range, hj, if_true, Option.map_some, hzs, Option.some.injEq] at hx
  rw [<- hx, getElem!_pos zv.cells _ hm, Array.getElem?_eq_getElem hm]
 have hzl : ((zv.cells.toList.map ofC1).map own1).length = ie.size := by simp [hzs]
 have hone : ∀ (j : Nat) x, zv.cells[j]? = some x -> x.oneCell' = true := fun j x hx => by
  have hx' : zv.cells.toList[j]? = some x := by simpa using hx
  have hj : (zv.cells.toList.map ofC1)[j]? = some (ofC1 x) := by simp [hx]
  exact stoOk_oneCell (hrel.2 j _ _ hj hx') (stoOk_pure2 (pure3_spec (List.all_eq_true.1 c7 _ (List.mem_of_getElem? hj))).1)
 have hl : (mkRows na.toNat ((zv.cells.toList.map ofC1).map own1)).length = na.toNat * ie.size := by rw [mkRows_length, hzl]
 have hnil : ∀ v ∈ mkRows na.toNat ((zv.cells.toList.map ofC1).map own1), isNilP v = false := fun v hv => by
  obtain ⟨u, hu, rfl⟩ := List.mem_map.1 (mem_mkRows _ hv)
  rw [isNilP_own1]
  exact (pure3_spec (List.all_eq_true.1 c7 _ hu)).2
 have hI' := grow_cells hI (cs := mkRows na.toNat ((zv.cells.toList.map ofC1).map own1)) (arr := madeCells zv.cells (na.toNat * ie.size)) (e := e) (f := (0, 0)) (w' := w.alloc (.cells (madeCells zv.cells (na.toNat * ie.size)) e)) rfl rfl rfl rfl (fun j _ => by simp)
  (by rw [hl, size_madeCells]; exact Nat.le_refl _)
  (fun j v x hv hx => by
   obtain ⟨hj, hx'⟩ := hmc j x hx
   rw [mkRows_get _ _ (by rw [hzl]; exact hj), hzl] at hv
   exact ⟨hrel1.2 _ v x hv (by simpa using hx'), hone _ x hx'⟩)
  (fun j r hj => by
   have hjl : j < na.toNat * ie.size := by rw [<- hl]; exact (List.getElem?_eq_some_iff.1 hj).1
   rw [mkRows_get _ _ (by rw [hzl]; exact hjl), hzl] at hj
   obtain ⟨q1, q2⟩ := hno _ r hj
   refine ⟨q1, ?_⟩
   have hx : (madeCells zv.cells (na.toNat * ie.size))[j]? = some ((madeCells zv.cells (na.toNat * ie.size))[j]'(by rw [size_madeCells]; exact hjl)) := Array.getElem?_eq_getElem _
   have h3 := (hmc j _ hx).2
   have h4 : zv.cells[j % ie.size]? = some (.slice none 0 0) := by simpa using q2
   rw [h4] at h3
   rw [hx, <- Option.some.inj h3])
  (fun T hT hc => by rw [nilBld hnil] at hc; cases hc)
 have hstk := new_stk (c := c) (n := na.toNat) (cap := na.toNat) (sz := ie.size) (w' := w.alloc (.cells (madeCells zv.cells (na.toNat * ie.size)) e)) (arr := madeCells zv.cells (na.toNat * ie.size)) (e := e) hI.core.len rfl (Nat.le_refl _) (by unfold maxLen; omega) (size_madeCells _ _)
 rw [hsz]
 refine ⟨_, _, _, _, does_of (s := Instr.makeSlice t (a.eval n) (a.eval k)) (by simp [execOp, ho]) (by rw [e1, e2]; exact hrun), hI'.putBare hd hstk rfl (.inl hv)⟩
theorem eff_build1 (hI : InvP vars E m c w g h a) {o : Oper} {t e : TypeId} {n : Nat} {parts : Array (Nat × Operand)} (ho : o.op = .buildSlice t n parts) (hu : P.underlying t = some (.slice e))
  (hc : (parts.toList.map (·.1)) = List.range n /\ (tzero P e).isSome = true /\ 0 < tsize P e /\ n * tsize P e <= 16777216 /\ ((parts.toList.map fun p => cellsV (cps (opd g p.2))).all fun r => r.length == tsize P e && r.all pure2) = true)
  (hn3 : ((parts.toList.map fun p => cellsV (cps (opd g p.2))).flatten).all pure3 = true) (hd : ∀ t, o.dst = some t -> t < E.nt) (hv : ∀ t, o.dst = some t -> t ∉ vars) :
  Done P vars E w a o (.stk h.length n (tsize P e)) g (h ++ [.cells (((parts.toList.map fun p => cellsV (cps (opd g p.2))).flatten).map own1)]) := by
 obtain ⟨c1, c2, c3, c4, c5⟩ := hc
 have hn : parts.toList.length = n := by have := congrArg List.length c1; simpa using this
 have hall : ∀ p ∈ parts.toList, (cellsV (cps (opd g p.2))).length = tsize P e /\ ∀ v ∈ cellsV (cps (opd g p.2)), pure2 v = true := fun p hp => by
  have := List.all_eq_true.1 c5 _ (List.mem_map.2 ⟨p, hp, rfl⟩)
  simpa using this
 have hrel : ∀ p ∈ parts.toList, R2 (VR1 m c w) (cellsV (cps (opd g p.2))) (a.eval p.2).cells.toList := fun p hp => by
  refine cells_rel (hI.core.opd p.2).cps ?_
  have h2 := (hall p hp).2
  cases hq : cps (opd g p.2) <;> first | rfl | (rw [hq] at h2; have := h2 _ (List.mem_singleton.2 rfl); first | exact this | cases this)
 obtain ⟨ie, hie⟩ : ∃ ie, P.info? e = some ie := by
  cases hie : P.info? e with
  | some ie => exact ⟨ie, rfl⟩
  | none => simp [tsize, Program.cellsOf, hie] at c3
 have hsz := size_of_info hie
 obtain ⟨z0, hz0⟩ := Option.isSome_iff_exists.1 c2
 obtain ⟨zv, hzv, rfl⟩ := tzero_spec (w := w) hz0
 have hflat : (((parts.map fun p => (p.1, a.eval p.2)).toList).map (fun q => q.2.cells.toList)) = parts.toList.map fun p => (a.eval p.2).cells.toList := by
  simp only [Array.toList_map, List.map_map]
  apply List.map_congr_left
  intro p _
  rfl
 have hlen2 : ∀ r ∈ parts.toList.map fun p => (a.eval p.2).cells.toList, r.length = tsize P e := fun r hr => by
  obtain ⟨p, hp, rfl⟩ := List.mem_map.1 hr
  rw [<- (hrel p hp).1, (hall p hp).1]
 obtain ⟨arr, harr, hrun⟩ := run_build w (qs := parts.map fun p => (p.1, a.eval p.2)) hu hie hzv (by simpa using hn) (by
   simp only [Array.toList_map, List.map_map]
   have : (parts.toList.map ((fun x => x.1) ∘ fun x : Nat × Operand => (x.1, a.eval x.2))) = parts.toList.map (·.1) := by apply List.map_congr_left; intro p _; rfl
   rw [this, c1]) (fun q hq => by
   simp only [Array.toList_map, List.mem_map] at hq
   obtain ⟨p, hp, rfl⟩ := hq
   have := (hrel p hp).1
   rw [(hall p hp).1, hsz] at this
   simpa using this.symm) (by rw [<- hsz]; exact c4)
 rw [hflat] at harr
 have hasz : arr.size = n * tsize P e := by
  rw [<- Array.length_toList, harr, flat_len hlen2, List.length_map, hn]
 have hcells : ∀ (l : List (Nat × Operand)), (∀ p ∈ l, R2 (VR1 m c w) (cellsV (cps (opd g p.2))) (a.eval p.2).cells.toList) -> R2 (VR1 m c w) ((l.map fun p => cellsV (cps (opd g p.2))).flatten) ((l.map fun p => (a.eval p.2).cells.toList).flatten) := by
  intro l
  induction l with
  | nil => intro _; exact R2.nil
  | cons p l ih =>
   intro hl
   simp only [List.map_cons, List.flatten_cons]
   exact (hl p (by simp)).append (ih fun q hq => hl q (by simp [hq]))
 have hR := hcells parts.toList hrel
 rw [<- harr] at hR
 obtain ⟨hR1, hno⟩ := own_cells1 hR (fun r hr => by
  obtain ⟨l, hl, hr⟩ := List.mem_flatten.1 hr
  obtain ⟨p, hp, rfl⟩ := List.mem_map.1 hl
  exact noYes_cps _ r hr)
 have hone : ∀ (j : Nat) x, arr[j]? = some x -> x.oneCell' = true := fun j x hx => by
  have hx' : arr.toList[j]? = some x := by simpa using hx
  have hj : j < ((parts.toList.map fun p => cellsV (cps (opd g p.2))).flatten).length := by rw [hR.1]; exact (List.getElem?_eq_some_iff.1 hx').1
  exact stoOk_oneCell (hR.2 j _ _ (List.getElem?_eq_getElem hj) hx') (stoOk_pure2 (pure3_spec (List.all_eq_true.1 hn3 _ (List.getElem_mem hj))).1)
 have hnil : ∀ v ∈ ((parts.toList.map fun p => cellsV (cps (opd g p.2))).flatten).map own1, isNilP v = false := fun v hv => by
  obtain ⟨u, hu, rfl⟩ := List.mem_map.1 hv
  rw [isNilP_own1]
  exact (pure3_spec (List.all_eq_true.1 hn3 _ hu)).2
 have hI' := grow_cells hI (cs := ((parts.toList.map fun p => cellsV (cps (opd g p.2))).flatten).map own1) (arr := arr) (e := e) (f := (0, 0)) (w' := { w with heap := w.heap.push (.cells arr e) }) rfl rfl rfl rfl (fun j _ => by simp)
  (by rw [List.length_map, hR.1]; simp) (fun j v x hv hx => ⟨hR1.2 j v x hv (by simpa using hx), hone j x hx⟩) (fun j r hj => by
   obtain ⟨q1, q2⟩ := hno j r hj
   exact ⟨q1, by simpa using q2⟩) (fun T hT hc => by rw [nilBld hnil] at hc; cases hc)
 have hle : n <= maxLen := by
  have : n * 1 <= n * tsize P e := Nat.mul_le_mul_left _ c3
  unfold maxLen
  omega
 have hstk := new_stk (c := c) (n := n) (cap := n) (sz := tsize P e) (w' := { w with heap := w.heap.push (.cells arr e) }) (arr := arr) (e := e) hI.core.len rfl (Nat.le_refl _) hle hasz
 exact ⟨_, _, _, _, does_build ho hrun, hI'.putBare hd hstk rfl (.inl hv)⟩
theorem VP_of_pure2 {v : V} {x : Value} (hv : VR1 m c w v x) (hp : pure2 v = true) : VP c w v x := by
 cases v with
 | v z => have : x = z := hv; subst this; exact .v _ hp
 | list k r => exact hv
 | nil => have : x = .slice none 0 0 := hv; subst this; exact .nil
 | _ => cases hp
theorem eff_build2 (hI : InvP vars E m c w g h a) {o : Oper} {t e : TypeId} {n : Nat} {parts : Array (Nat × Operand)} (ho : o.op = .buildSlice t n parts) (hu : P.underlying t = some (.slice e))
  (hc : (parts.toList.map (·.1)) = List.range n /\ (tzero P e).isSome = true /\ 0 < tsize P e /\ n * tsize P e <= 16777216 /\ ((parts.toList.map fun p => cellsV (cps (opd g p.2))).all fun r => r.length == tsize P e && r.all pure2) = true /\ byT e [] (parts.toList.map fun p => cellsV (cps (opd g p.2))) = true)
  (hd : ∀ t, o.dst = some t -> t < E.nt) (hv : ∀ t, o.dst = some t -> t ∉ vars) :
  Done P vars E w a o (.list .yes (parts.toList.map fun p => cellsV (cps (opd g p.2)))) g h := by
 obtain ⟨c1, c2, c3, c4, c5, c6⟩ := hc
 have hn : parts.toList.length = n := by have := congrArg List.length c1; simpa using this
 have hall : ∀ p ∈ parts.toList, (cellsV (cps (opd g p.2))).length = tsize P e /\ ∀ v ∈ cellsV (cps (opd g p.2)), pure2 v = true := fun p hp => by
  have := List.all_eq_true.1 c5 _ (List.mem_map.2 ⟨p, hp, rfl⟩)
  simpa using this
 have hrel : ∀ p ∈ parts.toList, R2 (VR1 m c w) (cellsV (cps (opd g p.2))) (a.eval p.2).cells.toList := fun p hp => by
  refine cells_rel (hI.core.opd p.2).cps ?_
  have h2 := (hall p hp).2
  cases hq : cps (opd g p.2) <;> first | rfl | (rw [hq] at h2; have := h2 _ (List.mem_singleton.2 rfl); first | exact this | cases this)
 obtain ⟨ie, hie⟩ : ∃ ie, P.info? e = some ie := by
  cases hie : P.info? e with
  | some ie => exact ⟨ie, rfl⟩
  | none => simp [tsize, Program.cellsOf, hie] at c3
 have hsz := size_of_info hie
 obtain ⟨z0, hz0⟩ := Option.isSome_iff_exists.1 c2
 obtain ⟨zv, hzv, rfl⟩ := tzero_spec (w := w) hz0
 have hflat : (((parts.map fun p => (p.1, a.eval p.2)).toList).map (fun q => q.2.cells.toList)) = parts.toList.map fun p => (a.eval p.2).cells.toList := by
  simp only [Array.toList_map, List.map_map]
  apply List.map_congr_left
  intro p _
  rfl
 have hlen2 : ∀ r ∈ parts.toList.map fun p => (a.eval p.2).cells.toList, r.length = tsize P e := fun r hr => by
  obtain ⟨p, hp, rfl⟩ := List.mem_map.1 hr
  rw [<- (hrel p hp).1, (hall p hp).1]
 obtain ⟨arr, harr, hrun⟩ := run_build w (qs := parts.map fun p => (p.1, a.eval p.2)) hu hie hzv (by simpa using hn) (by
   simp only [Array.toList_map, List.map_map]
   have : (parts.toList.map ((fun x => x.1) ∘ fun x : Nat × Operand => (x.1, a.eval x.2))) = parts.toList.map (·.1) := by apply List.map_congr_left; intro p _; rfl
   rw [this, c1]) (fun q hq => by
   simp only [Array.toList_map, List.mem_map] at hq
   obtain ⟨p, hp, rfl⟩ := hq
   have := (hrel p hp).1
   rw [(hall p hp).1, hsz] at this
   simpa using this.symm) (by rw [<- hsz]; exact c4)
 rw [hflat] at harr
 have hasz : arr.size = n * tsize P e := by
  rw [<- Array.length_toList, harr, flat_len hlen2, List.length_map, hn]
 have hI' := grow_claim hI (arr := arr) (e := e) (f := (0, 0)) (w' := { w with heap := w.heap.push (.cells arr e) }) (n * tsize P e) rfl rfl rfl rfl (by rw [hasz]; exact Nat.le_refl _)
 have hheap : ({ w with heap := w.heap.push (.cells arr e) } : World).heap[w.heap.size]? = some (.cells arr e (0, 0)) := by simp
 have hlr : (parts.toList.map fun p => cellsV (cps (opd g p.2))).length = n := by simpa using hn
 have hold : ∀ b, b < w.heap.size -> ({ w with heap := w.heap.push (.cells arr e) } : World).heap[b]? = w.heap[b]? := fun b hb => by
  show (w.heap.push _)[b]? = _
  rw [Array.getElem?_push]; simp [show ¬ b = w.heap.size by omega]
 have hext : Ext c w (fun b => if b = w.heap.size then n * tsize P e else c b) { w with heap := w.heap.push (.cells arr e) } := by
  refine ⟨fun b => ?_, fun b o ho => ?_, fun b _ => Shp.old hold b⟩
  ·by_cases hb : b = w.heap.size
   ·subst hb; rw [hI.core.c_zero (Nat.le_refl _)]; exact Nat.zero_le _
   ·simp [hb]
  ·rcases Nat.lt_or_ge b w.heap.size with hb | hb
   ·exact cell_of_heap (hold b hb) o
   ·rw [hI.core.c_zero hb] at ho; omega
 have hvp : VP (fun b => if b = w.heap.size then n * tsize P e else c b) { w with heap := w.heap.push (.cells arr e) } (.list .yes (parts.toList.map fun p => cellsV (cps (opd g p.2)))) (.slice (some ⟨w.heap.size, 0, none⟩) n n) := by
  have := VP_new (k := .yes) (cap := n) (c := fun b => if b = w.heap.size then n * tsize P e else c b) (rows := parts.toList.map fun p => cellsV (cps (opd g p.2))) hheap c3 (fun row hr => by
    obtain ⟨p, hp, rfl⟩ := List.mem_map.1 hr
    exact (hall p hp).1) (by rw [hlr]; exact Nat.le_refl _) (by simp only [hlr, if_true]; exact Nat.le_refl _) (fun i j row v hi hj => by
    simp only [List.getElem?_map, Option.map_eq_some_iff] at hi
    obtain ⟨p, hp, rfl⟩ := hi
    have hpm := List.mem_of_getElem? hp
    obtain ⟨x, hx, hvx⟩ := (hrel p hpm).get hj
    have hjl : j < tsize P e := by rw [<- (hall p hpm).1]; exact (List.getElem?_eq_some_iff.1 hj).1
    refine ⟨x, ?_, (VP_of_pure2 hvx ((hall p hpm).2 v (List.mem_of_getElem? hj))).mono hext⟩
    rw [<- Array.getElem?_toList, harr, flat_get hlen2 (i := i) (row := (a.eval p.2).cells.toList) (by simp [hp]) hjl]
    exact hx)
  rwa [hlr] at this
 have hdo : Does P w a o (.slice (some ⟨w.heap.size, 0, none⟩) n n) { w with heap := w.heap.push (.cells arr e) } := does_build ho hrun
 refine ⟨.slice (some ⟨w.heap.size, 0, none⟩) n n, { w with heap := w.heap.push (.cells arr e) }, m, fun b => if b = w.heap.size then n * tsize P e else c b, hdo, ?_⟩
 refine hI'.putOwn hd hvp ?_ ?_ ?_ (.inl hv)
 ·refine .inr ⟨w.heap.size, n, arr, e, tsize P e, by rw [hlr], hheap, by rw [hlr]; exact Nat.le_refl _, ?_, hasz, c3, fun row hr => ?_, by simp [hlr], ?_, fun h0 => ?_, fun T hT hb => byT_of c6 T hT hb⟩
  ·have : n * 1 <= n * tsize P e := Nat.mul_le_mul_left _ c3
   unfold maxLen
   omega
  ·obtain ⟨p, hp, rfl⟩ := List.mem_map.1 hr
   exact (hall p hp).1
  ·intro hb
   obtain ⟨i, hi, hb⟩ := List.getElem_of_mem hb
   have := hI.core.m_lt (List.getElem?_eq_getElem hi)
   omega
  ·have := congrArg List.length h0
   rw [hlr] at this
   simpa using this
 ·intro l r' x' b hl hb hb'
  cases hb
  have hl' : At m w g h a l r' x' := by
   cases l with
   | slot t => exact hl
   | cell i j =>
    obtain ⟨cs, b, k1, k2, k3, k4⟩ := hl
    exact ⟨cs, b, k1, k2, k3, by rw [<- cell_of_heap (hold b (hI.core.m_lt k3))]; exact k4⟩
  exact absurd ((hI.core.own l r' x' hl').lt hb').1 (Nat.lt_irrefl _)
 ·intro b hb
  cases hb
  exact .inl hI.fr.size
theorem src_cells {q : List (List V)} {news : List Value} {sz : Nat} (hq : ∀ row ∈ q, row.length = sz) (hn : news.length = q.length * sz) (h2 : ∀ (i j : Nat) row v, q[i]? = some row -> row[j]? = some v -> ∃ x, news[i * sz + j]? = some x /\ VP c w v x) (hsz : 0 < sz) :
  R2 (VP c w) q.flatten news := by
 refine ⟨by rw [flat_len hq, hn], fun k v x hv hx => ?_⟩
 have hk : k < q.length * sz := by rw [<- hn]; exact (List.getElem?_eq_some_iff.1 hx).1
 have hi : k / sz < q.length := Nat.div_lt_of_lt_mul (by rw [Nat.mul_comm]; exact hk)
 have hm : k % sz < sz := Nat.mod_lt _ hsz
 have hrow := List.getElem?_eq_getElem hi
 have hfl := flat_get hq hrow hm
 have hdm : k / sz * sz + k % sz = k := by rw [Nat.mul_comm]; exact Nat.div_add_mod k sz
 rw [hdm, hv] at hfl
 obtain ⟨y, hy, hvy⟩ := h2 _ _ _ v hrow hfl.symm
 rw [hdm, hx] at hy
 cases hy
 exact hvy
theorem keep_R2 {q : List V} {news : List Value} (h : R2 (VP c w) q news) : R2 (VR1 m c w) (q.map keepC) news /\ (∀ (j : Nat) (r : List (List V)), (q.map keepC)[j]? = some (.list .yes r) -> r = [] /\ news[j]? = some (.slice none 0 0)) /\ ∀ (j : Nat) x, news[j]? = some x -> x.oneCell' = true := by
 refine ⟨by simpa using h.map (f := keepC) (g := id) fun _ _ => pure2_keep, fun j r hj => ?_, fun j x hx => ?_⟩
 ·simp only [List.getElem?_map, Option.map_eq_some_iff] at hj
  obtain ⟨u, hu, he⟩ := hj
  obtain ⟨rfl, rfl⟩ := keepC_list he
  obtain ⟨y, hy, hvy⟩ := h.get hu
  cases hvy
  exact ⟨rfl, hy⟩
 ·have hj : j < q.length := by rw [h.1]; exact (List.getElem?_eq_some_iff.1 hx).1
  exact (h.2 j _ x (List.getElem?_eq_getElem hj) hx).oneCell
theorem app_room2 {t u e ty : TypeId} {ie : TypeInfo} {du : TypeDesc} (ht : P.underlying t = some (.slice e)) (hu : P.underlying u = some du) (hdu : ∀ k, du ≠ .int k) (hi : P.info? e = some ie)
  {b n cap k : Nat} {x : Value} {news : List Value} {cur : Array Value} {e' : TypeId} {f : Nat × Nat} (hs : Src P w ie.size k x news) (hb : w.heap[b]? = some (.cells cur e' f)) (hfr : ∀ j, j < cur.size -> w.frozen? ⟨b, j, none⟩ = false)
  (hroom : n + k <= cap) (hfit : n * ie.size + news.length <= cur.size) (hone : ∀ y ∈ news, y.oneCell' = true) :
  (Builtin.append_ #[t, u] ty #[.slice (some ⟨b, 0, none⟩) n cap, x]).run P w = .ok (.slice (some ⟨b, 0, none⟩) (n + k) cap) (w.setCells b (n * ie.size) news) := by
 obtain ⟨h1, h2⟩ := hs w rfl
 have hst := run_storeCells_cells (P := P) b (n * ie.size) news 0 w (fun j hj => by
   rw [cell_arr hb]
   have : n * ie.size + j < cur.size := by omega
   simp [this]) (fun j hj => hfr _ (by omega)) hone
 unfold Builtin.append_
 simp only [Sem.run_bind, run_underlying ht, run_underlying hu, Result.andThen_ok, run_sizeOf hi, Sem.run_pure, List.getElem?_toArray, List.getElem?_cons_zero, List.getElem?_cons_succ, h1, Bool.false_eq_true, if_false, if_pos hroom, add_none, Nat.zero_add, Bool.not_false, if_true, h2]
 simp only [Nat.add_zero] at hst
 simp [hst]
structure AppT (P : Program) (o : Oper) (k : Call) (x y : Operand) (e : TypeId) (du : TypeDesc) : Prop where
 ho : o.op = .call k
 hc : k.callee = .builtin .append
 hargs : k.args.toList = [x, y]
 htypes : k.argTypes.toList.map P.underlying = [some (.slice e), some du]
 c1 : (tzero P e).map (·.length) = some (tsize P e)
 c2 : 0 < tsize P e
 c3 : notInt du = true
theorem AppT.spec {o : Oper} {k : Call} {x y : Operand} {e : TypeId} {du : TypeDesc} (hT : AppT P o k x y e du) :
  ∃ t u ie z, P.info? e = some ie /\ P.underlying t = some (.slice e) /\ P.underlying u = some du /\ (∀ kk, du ≠ .int kk) /\ ie.zero = some z /\ z.cells.size = ie.size /\
   ∀ v w', (Builtin.append_ #[t, u] o.type #[a.eval x, a.eval y]).run P w = .ok v w' -> Does P w a o v w' := by
 obtain ⟨ho, hc, hargs, htypes, c1, c2, c3⟩ := hT
 obtain ⟨ie, hie⟩ : ∃ ie, P.info? e = some ie := by
  cases hie : P.info? e with
  | some ie => exact ⟨ie, rfl⟩
  | none => simp [tsize, Program.cellsOf, hie] at c2
 have hsz := size_of_info hie
 obtain ⟨z, hz, hzl⟩ : ∃ z, ie.zero = some z /\ z.cells.size = ie.size := by
  unfold tzero at c1
  rw [hie] at c1
  cases hz : ie.zero with
  | none => simp [hz] at c1
  | some z => simp [hz] at c1; exact ⟨z, rfl, by rw [c1, hsz]⟩
 obtain ⟨t, u, ht2, htu, huu⟩ : ∃ t u, k.argTypes = #[t, u] /\ P.underlying t = some (.slice e) /\ P.underlying u = some du := by
  rcases hl : k.argTypes.toList with _ | ⟨t, _ | ⟨u, _ | ⟨v, l⟩⟩⟩ <;> rw [hl] at htypes <;> simp at htypes
  exact ⟨t, u, by rw [<- Array.toArray_toList (xs := k.argTypes), hl], htypes.1, htypes.2⟩
 have hargs' : k.args.map a.eval = #[a.eval x, a.eval y] := by
  rw [<- Array.toArray_toList (xs := k.args), hargs]; simp
 refine ⟨t, u, ie, z, hie, htu, huu, fun kk e => (by subst e; cases c3), hz, hzl, fun v w' hr => ?_⟩
 refine does_of (exec_append a.eval ho hc) ?_
 rw [ht2, hargs']
 exact hr
theorem eff_app1 (hI : InvP vars E m c w g h a) {o : Oper} {k : Call} {x y : Operand} {e : TypeId} {du : TypeDesc} {q : List (List V)} {g1 : Env} {h1 : Heap} (hT : AppT P o k x y e du) (hown : owner E.lo (g, h) x = some ([], g1, h1)) (hq : appRows P e (opd g y) = some q)
  (c5 : q.flatten.all pure3 = true) (c6 : 0 < q.length) (c7 : q.length * P.bytesOf e <= 140737488355328) (c8 : q.length <= 9223372036854775807)
  (hd : ∀ t, o.dst = some t -> t < E.nt) (hv : ∀ t, o.dst = some t -> t ∉ vars) : Done P vars E w a o (.stk h1.length q.length (tsize P e)) (Lift.untag g1) (h1 ++ [.cells (q.flatten.map keepC)]) := by
 obtain ⟨hI1, hO⟩ := owner_spec hI hown
 obtain ⟨t, u, ie, z, hie, htu, huu, hdu, hz, hzl, hdo⟩ := hT.spec (a := a) (w := w)
 have hsz := size_of_info hie
 have hsz0 : 0 < ie.size := by rw [<- hsz]; exact hT.c2
 have hby : P.bytesOf e = ie.bytes := by simp [Program.bytesOf, hie]
 rw [hby] at c7
 obtain ⟨news, hsrc, hnl, hqr, hnew⟩ := src_rows hie (hI.core.opd y) hq hsz0
 obtain ⟨k1, k2, k3⟩ := keep_R2 (m := m) (src_cells hqr hnl hnew hsz0)
 have key : ∀ {base : Option Addr}, a.eval x = .slice base 0 0 -> (∀ w', w'.heap = w.heap -> (Builtin.firstCells ie.size 0 (.slice base 0 0)).run P w' = .ok #[] w') -> Done P vars E w a o (.stk h1.length q.length (tsize P e)) (Lift.untag g1) (h1 ++ [.cells (q.flatten.map keepC)]) := fun {base} hx hf => by
  have hrun := app_grow (P := P) (w := w) (ty := o.type) (n := 0) (cap := 0) (olds := []) htu huu hdu hie hz hsrc hf (by omega) (by omega) (by rw [Nat.zero_add]; exact c7)
  rw [<- hx] at hrun
  rw [Nat.zero_add] at hrun
  have hge := grownCap_ge w q.length 0 e
  have hasz : (([] : List Value).toArray ++ news.toArray ++ Builtin.zeroCells z.cells (grownCap w q.length 0 e - q.length)).size = grownCap w q.length 0 e * ie.size := by
   simp only [Array.size_append, List.size_toArray, List.length_nil, hnl, size_zeroCells, hzl]
   rw [Nat.zero_add, <- Nat.add_mul]
   congr 1
   omega
  have hnil : ∀ v ∈ q.flatten.map keepC, isNilP v = false := fun v hv => by
   obtain ⟨u, hu, rfl⟩ := List.mem_map.1 hv
   rw [nilP_keepC]
   exact (pure3_spec (List.all_eq_true.1 c5 _ hu)).2
  have hnlt : ∀ (j : Nat) y, news[j]? = some y -> (([] : List Value).toArray ++ news.toArray ++ Builtin.zeroCells z.cells (grownCap w q.length 0 e - q.length))[j]? = some y := fun j y hy => by
   have hjl := (List.getElem?_eq_some_iff.1 hy).1
   rw [Array.getElem?_append_left (by simpa using hjl)]
   simpa using hy
  have hklen : (q.flatten.map keepC).length = q.length * ie.size := by rw [List.length_map, flat_len hqr]
  have hI' := grow_cells hI1 (cs := q.flatten.map keepC) (arr := ([] : List Value).toArray ++ news.toArray ++ Builtin.zeroCells z.cells (grownCap w q.length 0 e - q.length)) (e := e) (f := (0, 0)) (w' := w.drew.alloc (.cells (([] : List Value).toArray ++ news.toArray ++ Builtin.zeroCells z.cells (grownCap w q.length 0 e - q.length)) e)) rfl rfl rfl rfl (fun j _ => by simp)
   (by rw [hasz, hklen]; exact Nat.mul_le_mul_right _ hge)
   (fun j v y hv hy => by
    have hj : j < news.length := by rw [<- k1.1]; exact (List.getElem?_eq_some_iff.1 hv).1
    have h3 := hnlt j _ (List.getElem?_eq_getElem hj)
    rw [hy] at h3
    cases h3
    exact ⟨k1.2 j v _ hv (List.getElem?_eq_getElem hj), k3 j _ (List.getElem?_eq_getElem hj)⟩)
   (fun j r hj => by
    obtain ⟨q1, q2⟩ := k2 j r hj
    exact ⟨q1, hnlt j _ q2⟩) (fun T hT hc => by rw [nilBld hnil] at hc; cases hc)
  have hstk := new_stk (c := c) (n := q.length) (cap := grownCap w q.length 0 e) (sz := ie.size) (w := w) (w' := w.drew.alloc (.cells (([] : List Value).toArray ++ news.toArray ++ Builtin.zeroCells z.cells (grownCap w q.length 0 e - q.length)) e)) (e := e) hI1.core.len rfl hge (grownCap_le_maxLen w _ _ e (by unfold maxLen; exact c8)) hasz
  rw [hsz]
  exact ⟨_, _, _, _, hdo _ _ hrun, hI'.putBare hd hstk rfl (.inl hv)⟩
 rcases hO.2.1 with ⟨hx, _⟩ | ⟨b, cap, cur, e', sz, hx, _, _, _, _, _, _, _, _, k9, _⟩
 ·exact key hx (fun w' _ => by simp [Builtin.firstCells])
 ·have := k9 rfl
  subst this
  exact key hx (fun w' _ => run_firstCells_some w' ie.size 0 ⟨b, 0, none⟩ 0 0 [] (by simp) (fun j v hj => by simp at hj))
theorem eff_app2 (hI : InvP vars E m c w g h a) {o : Oper} {k : Call} {x y : Operand} {e : TypeId} {du : TypeDesc} {q : List (List V)} {i n : Nat} {cs : List V} (hT : AppT P o k x y e du) (hx : opd g x = .stk i n (tsize P e)) (hcs : cellsOfOb h i = some cs) (hq : appRows P e (opd g y) = some q)
  (hib : E.base <= i) (c4 : n * tsize P e <= cs.length) (c5 : (cs.take (n * tsize P e)).all (stkC i) = true) (c6 : q.flatten.all pure3 = true) (c7 : (n + q.length) * P.bytesOf e <= 140737488355328) (c8 : n + q.length <= 9223372036854775807)
  (hd : ∀ t, o.dst = some t -> t < E.nt) (hv : ∀ t, o.dst = some t -> t ∉ vars) :
  Done P vars E w a o (.stk i (n + q.length) (tsize P e)) (kilE i (Lift.untag g)) ((kilH E.base i h).set i (.cells (cs.take (n * tsize P e) ++ q.flatten.map keepC))) := by
 obtain ⟨t, u, ie, z, hie, htu, huu, hdu, hz, hzl, hdo⟩ := hT.spec (a := a) (w := w)
 have hsz := size_of_info hie
 have hsz0 : 0 < ie.size := by rw [<- hsz]; exact hT.c2
 have hby : P.bytesOf e = ie.bytes := by simp [Program.bytesOf, hie]
 rw [hby] at c7
 rw [hsz] at hx c4 c5 ⊢
 obtain ⟨news, hsrc, hnl, hqr, hnew⟩ := src_rows hie (hI.core.opd y) hq hsz0
 obtain ⟨k1, k2, k3⟩ := keep_R2 (m := m) (src_cells hqr hnl hnew hsz0)
 have hxv := hI.core.opd x
 rw [hx] at hxv
 obtain ⟨gb, cap, hm, hy, hncap, hmx, hshp⟩ := hxv
 obtain ⟨arr, e', f, hw, hasz, hfr⟩ := hshp (hI.core.wf2 gb (List.mem_of_getElem? hm))
 have hcs0 : h[i]? = some (.cells cs) := by
  unfold cellsOfOb at hcs
  split at hcs
  ·rename_i h0; cases hcs; exact h0
  ·cases hcs
 obtain ⟨arr0, e0, f0, hw0, hle, _, hall, _⟩ := hI.core.ob i _ gb hcs0 hm
 rw [hw] at hw0
 cases hw0
 have hIu := hI.untag
 have htl : (cs.take (n * ie.size)).length = n * ie.size := by simp; omega
 have hql : (q.flatten.map keepC).length = q.length * ie.size := by rw [List.length_map, flat_len hqr]
 have hcl : (cs.take (n * ie.size) ++ q.flatten.map keepC).length = (n + q.length) * ie.size := by rw [List.length_append, htl, hql, Nat.add_mul]
 have hnil : ∀ v ∈ cs.take (n * ie.size) ++ q.flatten.map keepC, isNilP v = false := fun v hv => by
  rcases List.mem_append.1 hv with hv | hv
  ·have := List.all_eq_true.1 c5 _ hv
   unfold stkC at this
   simp at this
   exact this.2
  ·obtain ⟨u, hu, rfl⟩ := List.mem_map.1 hv
   rw [nilP_keepC]
   exact (pure3_spec (List.all_eq_true.1 c6 _ hu)).2
 have hone : ∀ v ∈ news, v.oneCell' = true := fun v hv => by
  obtain ⟨j, hj, rfl⟩ := List.getElem_of_mem hv
  exact k3 j _ (List.getElem?_eq_getElem hj)
 have hcell : ∀ {arr' : Array Value}, (∀ j, j < n * ie.size -> arr'[j]? = arr[j]?) -> (∀ j y, news[j]? = some y -> arr'[n * ie.size + j]? = some y) ->
   ∀ (j : Nat) v x, (cs.take (n * ie.size) ++ q.flatten.map keepC)[j]? = some v -> arr'[j]? = some x -> VR1 m c w v x /\ avf i v = true /\ x.oneCell' = true := fun {arr'} ha hb j v x hv hx => by
  rw [List.getElem?_append, htl] at hv
  split at hv
  ·rename_i hj
   rw [ha j hj] at hx
   have h3 := List.all_eq_true.1 c5 _ (List.mem_of_getElem? hv)
   rw [List.getElem?_take, if_pos hj] at hv
   unfold stkC at h3
   simp at h3
   exact ⟨(hall j v x hv hx).1, h3.1, (hall j v x hv hx).2⟩
  ·rename_i hj
   have hjl : j - n * ie.size < news.length := by rw [<- k1.1]; exact (List.getElem?_eq_some_iff.1 hv).1
   have h3 := hb _ _ (List.getElem?_eq_getElem hjl)
   rw [show n * ie.size + (j - n * ie.size) = j by omega, hx] at h3
   cases h3
   refine ⟨k1.2 _ v _ hv (List.getElem?_eq_getElem hjl), ?_, k3 _ _ (List.getElem?_eq_getElem hjl)⟩
   simp only [List.getElem?_map, Option.map_eq_some_iff] at hv
   obtain ⟨u, hu, rfl⟩ := hv
   exact avf_keepC (pure3_spec (List.all_eq_true.1 c6 _ (List.mem_of_getElem? hu))).1
 have hownc : ∀ {arr' : Array Value} {w' : World} {nb : Nat} {e2 : TypeId} {f2 : Nat × Nat}, w'.heap[nb]? = some (.cells arr' e2 f2) -> (∀ j, j < n * ie.size -> arr'[j]? = arr[j]?) -> (∀ j y, news[j]? = some y -> arr'[n * ie.size + j]? = some y) ->
   ∀ (j : Nat) r x, (cs.take (n * ie.size) ++ q.flatten.map keepC)[j]? = some (.list .yes r) -> w'.cell? ⟨nb, j, none⟩ = some x -> (r = [] /\ x = .slice none 0 0) \/ At m w (Lift.untag g) h a (.cell i j) r x := fun {arr' w' nb e2 f2} hw' ha hb j r x hv hx => by
  rw [cell_arr hw'] at hx
  rw [List.getElem?_append, htl] at hv
  split at hv
  ·rename_i hj
   rw [ha j hj] at hx
   rw [List.getElem?_take, if_pos hj] at hv
   exact .inr ⟨cs, gb, hcs, hv, hm, by rw [cell_arr hw]; exact hx⟩
  ·rename_i hj
   obtain ⟨q1, q2⟩ := k2 _ r hv
   have h3 := hb _ _ q2
   rw [show n * ie.size + (j - n * ie.size) = j by omega, hx] at h3
   exact .inl ⟨q1, Option.some.inj h3⟩
 have him : i < m.length := (List.getElem?_eq_some_iff.1 hm).1
 by_cases hroom : n + q.length <= cap
 ·have hle2 : (n + q.length) * ie.size <= cap * ie.size := Nat.mul_le_mul_right _ hroom
  have hfit : n * ie.size + news.length <= arr.size := by rw [hnl, <- Nat.add_mul, hasz]; exact hle2
  have hrun := app_room2 (P := P) (w := w) (ty := o.type) htu huu hdu hie hsrc hw hfr hroom hfit hone
  rw [<- hy] at hrun
  obtain ⟨s1, s2, s3, s4, s5, arr', s6, s7⟩ := setCells_spec gb news (n * ie.size) w arr e' f hw hfit
  have hsize : arr'.size = arr.size := by
   have := congrArg List.length s7
   simp only [Array.length_toList, List.length_append, List.length_take, List.length_drop] at this
   omega
  have ha : ∀ j, j < n * ie.size -> arr'[j]? = arr[j]? := fun j hj => by
   rw [<- Array.getElem?_toList, s7, getElem?_splice (by simpa using hfit), if_neg (by omega)]
   simp
  have hb : ∀ j y, news[j]? = some y -> arr'[n * ie.size + j]? = some y := fun j y hy => by
   have hjl := (List.getElem?_eq_some_iff.1 hy).1
   rw [<- Array.getElem?_toList, s7, getElem?_splice (by simpa using hfit), if_pos (by omega), Nat.add_sub_cancel_left]
   exact hy
  have hI' := hIu.restk (nb := gb) (cs' := cs.take (n * ie.size) ++ q.flatten.map keepC) (w' := w.setCells gb (n * ie.size) news) hib hm (.inl rfl) (by rw [s1]; exact Nat.le_refl _) (fun b _ hb => s2 b hb) s3 s4 s5
   ⟨arr', e', f, s6, by rw [hcl, hsize, hasz]; exact hle2, fun j hj => by
    have h3 := hfr j (by rw [hcl] at hj; rw [hasz]; omega)
    simp only [World.frozen?, hw, s6] at h3 ⊢
    exact h3, hcell ha hb⟩ hnil (fun _ => setCells_shp hw hfit) (hownc s6 ha hb) (fun t u r => noTags t u r) (fun t i j r => noTagC t i j r)
  refine ⟨_, _, _, _, hdo _ _ hrun, hI'.putBare hd ?_ rfl (.inl hv)⟩
  exact ⟨gb, cap, by simp [him], rfl, hroom, hmx, fun _ => ⟨arr', e', f, s6, by rw [hsize, hasz], fun j hj => by
   have h3 := hfr j (by rw [<- hsize]; exact hj)
   simp only [World.frozen?, hw, s6] at h3 ⊢
   exact h3⟩⟩
 ·have hole : n * ie.size <= arr.size := by rw [hasz]; exact Nat.mul_le_mul_right _ hncap
  have hol : (arr.toList.take (n * ie.size)).length = n * ie.size := by
   rw [List.length_take, Array.length_toList]
   exact Nat.min_eq_left hole
  have hrun := app_grow (P := P) (w := w) (ty := o.type) (base := some ⟨gb, 0, none⟩) (n := n) (cap := cap) (olds := arr.toList.take (n * ie.size)) htu huu hdu hie hz hsrc (fun w' hw' => run_firstCells_some w' ie.size n ⟨gb, 0, none⟩ n cap _ hol (fun j v hj => by
   rw [add_none, Nat.zero_add, cell_of_heap (w := w) (w' := w') (by rw [hw']), cell_arr hw]
   rw [List.getElem?_take] at hj
   split at hj
   ·simpa using hj
   ·cases hj)) (by omega) c8 c7
  rw [<- hy] at hrun
  have hge := grownCap_ge w (n + q.length) cap e
  have hasz' : ((arr.toList.take (n * ie.size)).toArray ++ news.toArray ++ Builtin.zeroCells z.cells (grownCap w (n + q.length) cap e - (n + q.length))).size = grownCap w (n + q.length) cap e * ie.size := by
   simp only [Array.size_append, List.size_toArray, hol, hnl, size_zeroCells, hzl]
   rw [<- Nat.add_mul, <- Nat.add_mul]
   congr 1
   omega
  have ha : ∀ j, j < n * ie.size -> ((arr.toList.take (n * ie.size)).toArray ++ news.toArray ++ Builtin.zeroCells z.cells (grownCap w (n + q.length) cap e - (n + q.length)))[j]? = arr[j]? := fun j hj => by
   rw [Array.append_assoc, Array.getElem?_append_left (by simp only [List.size_toArray, hol]; exact hj)]
   simp [List.getElem?_take, hj]
  have hb : ∀ j y, news[j]? = some y -> ((arr.toList.take (n * ie.size)).toArray ++ news.toArray ++ Builtin.zeroCells z.cells (grownCap w (n + q.length) cap e - (n + q.length)))[n * ie.size + j]? = some y := fun j y hy => by
   have hjl := (List.getElem?_eq_some_iff.1 hy).1
   rw [Array.getElem?_append_left (by simp only [Array.size_append, List.size_toArray, hol]; omega), Array.getElem?_append_right (by simp only [List.size_toArray, hol]; omega)]
   simp only [List.size_toArray, hol, Nat.add_sub_cancel_left]
   simpa using hy
  have hnew2 : (w.drew.alloc (.cells ((arr.toList.take (n * ie.size)).toArray ++ news.toArray ++ Builtin.zeroCells z.cells (grownCap w (n + q.length) cap e - (n + q.length))) e)).heap[w.heap.size]? = some (.cells ((arr.toList.take (n * ie.size)).toArray ++ news.toArray ++ Builtin.zeroCells z.cells (grownCap w (n + q.length) cap e - (n + q.length))) e (0, 0)) := heap_alloc_new w.drew _
  have hold : ∀ b, b < w.heap.size -> (w.drew.alloc (.cells ((arr.toList.take (n * ie.size)).toArray ++ news.toArray ++ Builtin.zeroCells z.cells (grownCap w (n + q.length) cap e - (n + q.length))) e)).heap[b]? = w.heap[b]? := fun b hb => by
   show (w.heap.push _)[b]? = _
   rw [Array.getElem?_push]; simp [show ¬ b = w.heap.size by omega]
  have hI' := hIu.restk (nb := w.heap.size) (cs' := cs.take (n * ie.size) ++ q.flatten.map keepC) (w' := w.drew.alloc (.cells ((arr.toList.take (n * ie.size)).toArray ++ news.toArray ++ Builtin.zeroCells z.cells (grownCap w (n + q.length) cap e - (n + q.length))) e)) hib hm (.inr (Nat.le_refl _))
   (by show w.heap.size <= (w.heap.push _).size; simp) (fun b hb _ => hold b hb) rfl rfl rfl
   ⟨_, e, (0, 0), hnew2, by rw [hcl, hasz']; exact Nat.mul_le_mul_right _ hge, fun j hj => by simp only [World.frozen?, hnew2]; simp, hcell ha hb⟩ hnil (fun he => by
    have := hI.core.m_lt hm
    omega) (hownc hnew2 ha hb) (fun t u r => noTags t u r) (fun t i j r => noTagC t i j r)
  refine ⟨_, _, _, _, hdo _ _ hrun, hI'.putBare hd ?_ rfl (.inl hv)⟩
  exact ⟨w.heap.size, grownCap w (n + q.length) cap e, by simp [him], rfl, hge, grownCap_le_maxLen w _ _ e (by unfold maxLen; exact c8), fun _ => ⟨_, e, (0, 0), hnew2, hasz', fun j hj => by simp only [World.frozen?, hnew2]; simp⟩⟩
theorem eff_new (hI : InvP vars E m c w g h a) {o : Oper} {md : Option Nat -> Nat} {v : V} {g' : Env} {h' : Heap} (hn : isNew md o.dst o.op = true) (he : evNew P E.base E.lo (md o.dst) (g, h) o.op = some (v, g', h')) (hd : ∀ t, o.dst = some t -> t < E.nt)
  (hv : (∃ x, o.op = .assign x) \/ ∀ t, o.dst = some t -> t ∉ vars) : Done P vars E w a o v g' h' := by
 generalize hop : o.op = op at he hn hv
 have hv' : (∀ x, op ≠ .assign x) -> ∀ t, o.dst = some t -> t ∉ vars := fun hne => by
  rcases hv with ⟨x, hx⟩ | hv
  ·exact absurd hx (hne x)
  ·exact hv
 cases op with
 | makeSlice t n k =>
  simp only [evNew] at he
  split at he
  ·rename_i na nb e h1 h2 hu
   split at he
   ·rename_i z hz
    split at he
    ·rename_i hc
     obtain ⟨c1, rfl, c3, c4, c5, c6, c7⟩ := hc
     simp only [Option.some.injEq, Prod.mk.injEq] at he
     obtain ⟨rfl, rfl, rfl⟩ := he
     exact eff_make hI hop h1 h2 hu hz c1 c3 c4 c5 c6 c7 hd (hv' (fun x e => by cases e))
    ·cases he
   ·cases he
  ·cases he
 | buildSlice t n parts =>
  simp only [evNew] at he
  split at he
  ·rename_i e hu
   split at he
   ·rename_i hc
    split at he
    ·simp only [Option.some.injEq, Prod.mk.injEq] at he
     obtain ⟨rfl, rfl, rfl⟩ := he
     exact eff_build2 hI hop hu hc hd (hv' (fun x e => by cases e))
    ·split at he
     ·rename_i h3
      simp only [Option.some.injEq, Prod.mk.injEq] at he
      obtain ⟨rfl, rfl, rfl⟩ := he
      exact eff_build1 hI hop hu ⟨hc.1, hc.2.1, hc.2.2.1, hc.2.2.2.1, hc.2.2.2.2.1⟩ h3 hd (hv' (fun x e => by cases e))
     ·cases he
   ·cases he
  ·cases he
 | alloc t =>
  simp only [evNew] at he
  split at he
  ·rename_i z hz
   split at he
   ·rename_i hc
    rw [Bool.and_eq_true] at hc
    simp only [Option.some.injEq, Prod.mk.injEq] at he
    obtain ⟨rfl, rfl, rfl⟩ := he
    exact eff_allocR hI hop hz hc.1 hc.2 hd (hv' (fun x e => by cases e))
   ·cases he
  ·cases he
 | store t p x =>
  simp only [evNew] at he
  split at he
  ·rename_i b off hp
   split at he
   ·rename_i cs hcs
    split at he
    ·split at he
     ·rename_i hc
      simp only [Option.some.injEq, Prod.mk.injEq] at he
      obtain ⟨rfl, rfl, rfl⟩ := he
      exact eff_storeR hI hop hp hcs (⟨hc.1, hc.2.1, hc.2.2.1, hc.2.2.2.1, hc.2.2.2.2.1, fun hib => by
       have := hc.2.2.2.2.2
       simp only [Bool.or_eq_true, decide_eq_true_eq] at this
       rcases this with h1 | h1
       ·omega
       ·rw [Bool.or_eq_true]; exact h1⟩) hd
     ·cases he
    ·split at he
     ·rename_i hc
      have hst := eff_store hI hop hp hcs (⟨hc.1, hc.2.1, hc.2.2.1, hc.2.2.2.1, hc.2.2.2.2.1, fun hib => by
       have := hc.2.2.2.2.2
       simp only [Bool.or_eq_true, decide_eq_true_eq] at this
       rcases this with h1 | h1
       ·omega
       ·rw [Bool.or_eq_true]; exact h1⟩) hd
      split at he
      ·rename_i ds hds
       simp only [Option.some.injEq, Prod.mk.injEq] at he
       obtain ⟨rfl, rfl, rfl⟩ := he
       rw [hds] at hst
       exact hst
      ·rename_i hna
       simp only [Option.some.injEq, Prod.mk.injEq] at he
       obtain ⟨rfl, rfl, rfl⟩ := he
       have h1 : cellsV (own1s (takeO g x).1) = [own1s (takeO g x).1] := by
        cases hq : own1s (takeO g x).1 <;> first | rfl | (exact absurd hq (hna _))
       have h2 : tsize P t = 1 := by
        have h3 := hc.2.2.1
        have h4 := congrArg List.length h1
        rw [cellsV_own1s, List.length_map] at h4
        rw [h4] at h3
        simpa using h3.symm
       rw [h1, h2] at hst
       have h3 : off < cs.length := by have := hc.2.1; omega
       rw [show cs.take off ++ [own1s (takeO g x).1] ++ cs.drop (off + 1) = cs.set off (own1s (takeO g x).1) by rw [List.set_eq_take_append_cons_drop, if_pos h3]; simp] at hst
       exact hst
     ·cases he
   ·cases he
  ·cases he
 | call k =>
  have hc : k.callee = .builtin .append := by
   simp only [isNew] at hn
   split at hn
   ·assumption
   ·cases hn
  simp only [evNew] at he
  split at he
  ·rename_i x y e u hargs htypes
   split at he
   ·rename_i q hq
    split at he
    ·rename_i hcond
     have hT : AppT P o k x y e u := ⟨hop, hc, hargs, htypes, hcond.1, hcond.2.1, hcond.2.2⟩
     unfold appNew at he
     split at he
     ·rename_i i n z hx
      split at he
      ·rename_i cs hcs
       split at he
       ·rename_i hcc
        obtain ⟨d1, rfl, d3, d4, d5, d6⟩ := hcc
        simp only [Bool.and_eq_true] at d4
        simp only [Option.some.injEq, Prod.mk.injEq] at he
        obtain ⟨rfl, rfl, rfl⟩ := he
        exact eff_app2 hI hT hx hcs hq d1 d3 d4.1 d4.2 d5 d6 hd (hv' (fun x e => by cases e))
       ·cases he
      ·cases he
     ·split at he
      ·rename_i s' hown
       split at he
       ·rename_i hcc
        simp only [Option.some.injEq, Prod.mk.injEq] at he
        obtain ⟨rfl, rfl, rfl⟩ := he
        exact eff_app1 hI hT hown hq hcc.1 hcc.2.1 hcc.2.2.1 hcc.2.2.2 hd (hv' (fun x e => by cases e))
       ·cases he
      ·cases he
    ·cases he
   ·cases he
  ·cases he
 | _ => cases hn
end
end Go.Lift
end

section
namespace Go.Lift
variable [GTab] [BTy]
section
variable {vars : List Nat} {m : List Nat} {c : Cl} {w : World} {g : Env} {h : Heap} {a : Act} {E : Entry} {cx : Cx}
theorem opd_untag_ptr {x : Operand} {i o : Nat} (hx : opd g x = .ptr i o) : opd (untag g) x = .ptr i o := by
 cases x with
 | tmp t => simp only [opd] at hx ⊢; rw [look_untag, hx]; rfl
 | _ => exact hx
abbrev Goes (cx : Cx) (E : Entry) (a : Act) (w : World) (o : Oper) (v : V) (g' : Env) (h' : Heap) : Prop :=
 ∀ (next : Act -> World -> Prop) (Q : Exit -> Act -> World -> Prop), (∀ x w' m' c', InvP cx.hint.vars E m' c' w' (put o.dst v g') h' (a.put o.dst x) -> next (a.put o.dst x) w') -> o.wp cx.P a w next Q
theorem Done.goes {o : Oper} {v : V} {g' : Env} {h' : Heap} (hd : Done cx.P cx.hint.vars E w a o v g' h') : Goes cx E a w o v g' h' := fun next Q hn => by
 obtain ⟨x, w', m', c', hdo, hI⟩ := hd
 exact hdo.wp (hn x w' m' c' hI)
theorem op_ok (hI : InvP cx.hint.vars E m c w g h a) (hX : CxOK cx E) {o : Oper} {v : V} {g' : Env} {h' : Heap} (he : evOp cx (g, h) o = some (v, g', h')) (hd : ∀ t, o.dst = some t -> t < E.nt)
  (hv : (∃ x, o.op = .assign x) \/ ∀ t, o.dst = some t -> t ∉ cx.hint.vars) : Goes cx E a w o v g' h' := by
 unfold evOp at he
 split at he
 ·rename_i hnew
  rw [hX.base, hX.lo] at he
  exact (eff_new hI hnew he hd hv).goes
 split at he
 ·rename_i heff
  generalize hop : o.op = op at he heff
  have hv' : (∀ x, op ≠ .assign x) -> ∀ t, o.dst = some t -> t ∉ cx.hint.vars := fun hne => by
   rcases hv with ⟨x, hx⟩ | hv
   ·rw [hop] at hx; exact absurd hx (hne x)
   ·exact hv
  cases op with
  | assign x =>
   simp only [evEff, Option.some.injEq, Prod.mk.injEq] at he
   obtain ⟨rfl, rfl, rfl⟩ := he
   exact (eff_assign hI hop hd).goes
  | alloc t =>
   simp only [evEff] at he
   split at he
   ·rename_i z hz
    split at he
    ·rename_i hs
     simp only [Option.some.injEq, Prod.mk.injEq] at he
     obtain ⟨rfl, rfl, rfl⟩ := he
     rw [Bool.and_eq_true] at hs
     exact (eff_alloc hI hop hz hs.1 hs.2 hd (hv' (fun x e => by cases e))).goes
    ·cases he
   ·cases he
  | box t x =>
   simp only [evEff] at he
   split at he
   ·rename_i hs
    simp only [Bool.and_eq_true] at hs
    simp only [Option.some.injEq, Prod.mk.injEq] at he
    obtain ⟨rfl, rfl, rfl⟩ := he
    exact (eff_box hI hop hs.1 hs.2.1 hs.2.2 hd (hv' (fun x e => by cases e))).goes
   ·cases he
  | buildSlice t n parts =>
   simp only [evEff] at he
   split at he
   ·rename_i e hu
    split at he
    ·rename_i hc
     simp only [Option.some.injEq, Prod.mk.injEq] at he
     obtain ⟨rfl, rfl, rfl⟩ := he
     exact (eff_buildSlice hI hop hu hc hd (hv' (fun x e => by cases e))).goes
    ·cases he
   ·cases he
  | store t p x =>
   simp only [evEff] at he
   split at he
   ·rename_i b off hp
    split at he
    ·rename_i cs hcs
     split at he
     ·rename_i hc
      have hst := eff_store hI hop hp hcs (by rw [hX.lo] at hc; exact ⟨hc.1, hc.2.1, hc.2.2.1, hc.2.2.2.1, hc.2.2.2.2.1, fun _ => hc.2.2.2.2.2⟩) hd
      split at he
      ·rename_i ds hds
       simp only [Option.some.injEq, Prod.mk.injEq] at he
       obtain ⟨rfl, rfl, rfl⟩ := he
       rw [hds] at hst
       exact hst.goes
      ·rename_i hna
       simp only [Option.some.injEq, Prod.mk.injEq] at he
       obtain ⟨rfl, rfl, rfl⟩ := he
       have h1 : cellsV (own1s (takeO g x).1) = [own1s (takeO g x).1] := by
        cases hq : own1s (takeO g x).1 <;> first | rfl | (exact absurd hq (hna _))
       have h2 : tsize cx.P t = 1 := by
        have h3 := hc.2.2.1
        have h4 := congrArg List.length h1
        rw [cellsV_own1s, List.length_map] at h4
        rw [h4] at h3
        simpa using h3.symm
       rw [h1, h2] at hst
       have h3 : off < cs.length := by have := hc.2.1; omega
       rw [show cs.take off ++ [own1s (takeO g x).1] ++ cs.drop (off + 1) = cs.set off (own1s (takeO g x).1) by rw [List.set_eq_take_append_cons_drop, if_pos h3]; simp] at hst
       exact hst.goes
     ·cases he
    ·cases he
   ·cases he
  | range t x =>
   simp only [evEff] at he
   split at he
   ·rename_i b hx hu
    simp only [Option.some.injEq, Prod.mk.injEq] at he
    obtain ⟨rfl, rfl, rfl⟩ := he
    exact (eff_range hI hop hx hu hd (hv' (fun x e => by cases e))).goes
   ·cases he
  | next x str =>
   simp only [evEff] at he
   split at he
   ·rename_i b hx
    split at he
    ·rename_i s pos hs
     split at he
     ·rename_i hlo
      have := eff_next (P := cx.P) hI.untag hop (opd_untag_ptr hx) hs (by rw [<- hX.lo]; exact hlo) (fun t i j r => noTagC t i j r) hd (hv' (fun x e => by cases e))
      split at he
      ·rename_i hlt
       rw [if_pos hlt] at this
       simp only [Option.some.injEq, Prod.mk.injEq] at he
       obtain ⟨rfl, rfl, rfl⟩ := he
       exact this.goes
      ·rename_i hlt
       rw [if_neg hlt] at this
       simp only [Option.some.injEq, Prod.mk.injEq] at he
       obtain ⟨rfl, rfl, rfl⟩ := he
       exact this.goes
     ·cases he
    ·cases he
   ·cases he
  | convert s d x =>
   cases hr2 : isRow cx.P s d with
   | true =>
    simp only [evEff, hr2, if_true] at he
    exact (eff_freeze hI hop hr2 he hd (hv' (fun x e => by cases e))).goes
   | false =>
    simp only [evEff, hr2, Bool.false_eq_true, if_false] at he
    exact (eff_convert hI hop (is_string (by simpa [isEff, hr2] using heff)) he hd (hv' (fun x e => by cases e))).goes
  | call k =>
   simp only [evEff] at he
   split at he
   ·rename_i f hc
    unfold evCall at he
    split at he
    ·rename_i fid caps hf
     split at he
     ·rename_i r h2 hcall
      simp only [Option.some.injEq, Prod.mk.injEq] at he
      obtain ⟨rfl, rfl, rfl⟩ := he
      have hle : E.lo <= h.length := Nat.le_trans hI.lole hI.hlen
      rw [hX.lo] at hcall
      exact fun next Q hn => call_op hI hop hc hf (Nat.le_refl _) hle (hX.call _ _ _ _ _ _ hle hcall) hd (hv' (fun x e => by cases e)) hn
     ·cases he
    ·cases he
   ·rename_i hc
    split at he
    ·rename_i x y e u hargs htypes
     split at he
     ·rename_i r s' q hown hq
      split at he
      ·rename_i hcond
       simp only [Option.some.injEq, Prod.mk.injEq] at he
       obtain ⟨rfl, rfl, rfl⟩ := he
       rw [hX.lo] at hown
       exact (eff_append hI hop hc hargs htypes hown hq hcond hd (hv' (fun x e => by cases e))).goes
      ·cases he
     ·cases he
    ·cases he
   ·cases he
  | makeSlice t n k =>
   simp only [evEff] at he
   cases he
  | makeMap t r =>
   cases r with
   | some x => simp only [evEff] at he; cases he
   | none =>
    simp only [evEff] at he
    split at he
    ·rename_i kt et hu
     simp only [Option.some.injEq, Prod.mk.injEq] at he
     obtain ⟨rfl, rfl, rfl⟩ := he
     exact (eff_makeMap (kt := kt) (et := et) hI hop hd (hv' (fun x e => by cases e))).goes
    ·cases he
  | insert t x k y =>
   simp only [evEff, Option.map_eq_some_iff, Prod.mk.injEq] at he
   obtain ⟨s', hs, rfl, rfl, rfl⟩ := he
   exact (eff_insert hI (.inl hop) (by rw [<- hX.lo]; exact hs) hd (hv' (fun x e => by cases e))).goes
  | mapUpdate t x k y =>
   simp only [evEff, Option.map_eq_some_iff, Prod.mk.injEq] at he
   obtain ⟨s', hs, rfl, rfl, rfl⟩ := he
   exact (eff_insert hI (.inr hop) (by rw [<- hX.lo]; exact hs) hd (hv' (fun x e => by cases e))).goes
  | lookup t x k two =>
   simp only [evEff, Option.map_eq_some_iff, Prod.mk.injEq] at he
   obtain ⟨v', hs, rfl, rfl, rfl⟩ := he
   exact (eff_lookup hI hop hs hd (hv' (fun x e => by cases e))).goes
  | _ => cases heff
 ·rename_i heff
  simp only [Option.map_eq_some_iff, Prod.mk.injEq] at he
  obtain ⟨v', hp, rfl, rfl, rfl⟩ := he
  have hna : ∀ t, o.dst = some t -> t ∉ cx.hint.vars := by
   rcases hv with ⟨x, hx⟩ | hv
   ·rw [hx] at heff; exact absurd rfl heff
   ·exact hv
  obtain ⟨y, hy, hvr, ht⟩ := pure_ok hI.core hp
  intro next Q hn
  exact (show Does cx.P w a o y w from .inl hy).wp (hn y w m c (hI.put hd hvr ht (.inl hna)))
def OpsOK (cx : Cx) (E : Entry) (l : List Oper) : Prop := ∀ o ∈ l, (∀ t, o.dst = some t -> t < E.nt) /\ ((∃ x, o.op = .assign x) \/ ∀ t, o.dst = some t -> t ∉ cx.hint.vars)
theorem undef_put (hI : InvP cx.hint.vars E m c w g h a) {o : Oper} (hd : ∀ t, o.dst = some t -> t < E.nt) (hv : ∀ t, o.dst = some t -> t ∉ cx.hint.vars) :
  InvP cx.hint.vars E m c w (put o.dst (.v undef) g) h (a.put o.dst undef) := hI.putBare hd rfl rfl (.inl hv)
theorem not_assign {o : Oper} (h : isAssign o.op = false) (hv : (∃ x, o.op = .assign x) \/ ∀ t, o.dst = some t -> t ∉ vars) : ∀ t, o.dst = some t -> t ∉ vars := by
 rcases hv with ⟨x, hx⟩ | hv
 ·rw [hx] at h; cases h
 ·exact hv
theorem ops_ok (hX : CxOK cx E) {ops : Array Oper} {Q : Exit -> Act -> World -> Prop} : ∀ (l : List Oper) (m : List Nat) (c : Cl) (w : World) (g : Env) (h : Heap) (a : Act) (s' : St), OpsOK cx E l -> InvP cx.hint.vars E m c w g h a -> evOps cx ops l (g, h) = some s' ->
  (∀ m' c' w' a', InvP cx.hint.vars E m' c' w' s'.1 s'.2 a' -> Q .normal a' w') -> wpList cx.P ops Q l a w
 | [], m, c, w, g, h, a, s', _, hI, he, hQ => by
  simp only [evOps, Option.some.injEq] at he
  subst he
  exact hQ m c w a hI
 | o :: l, m, c, w, g, h, a, s', hO, hI, he, hQ => by
  have ho := hO o (by simp)
  have hO' : OpsOK cx E l := fun o' h' => hO o' (by simp [h'])
  refine wpList_step fun K hK => ?_
  simp only [evOps] at he
  split at he
  ·rename_i hw
   rw [want_spec hI hw, if_pos rfl]
   split at he
   ·rename_i v g' h' hop
    refine op_ok hI hX hop ho.1 ho.2 K Q fun x w' m' c' hI' => hK _ _ ?_
    exact ops_ok hX l m' c' w' _ _ _ s' hO' hI' he hQ
   ·cases he
  ·rename_i hw
   rw [want_spec hI hw, if_neg (by simp)]
   split at he
   ·cases he
   ·rename_i hna
    exact hK _ _ (ops_ok hX l m c w _ _ _ s' hO' (undef_put hI ho.1 (not_assign (by simpa using hna) ho.2)) he hQ)
  ·cases he
end
end Go.Lift
end

section
namespace Go.Lift
variable [GTab] [BTy]
section
variable {m : List Nat} {c : Cl} {w : World} {g : Env} {h : Heap} {a : Act} {E : Entry} {cx : Cx}
theorem opd_ins {t : Nat} {v : V} {x : Operand} (hx : x ≠ .tmp t) : opd (ins t v g) x = opd g x := by
 cases x with
 | tmp u =>
  simp only [opd, look_ins]
  rw [if_neg (fun e => hx (by rw [e]))]
 | _ => rfl
theorem bnd_congr {g g' : Env} {o : Option Operand} {d : Nat} (ho : ∀ x, o = some x -> opd g x = opd g' x) : bnd g o d = bnd g' o d := by
 cases o with
 | none => rfl
 | some x => simp only [bnd, ho x rfl]
theorem evPure_congr {P : Program} {vars : List Nat} {g g' : Env} {op : Op} (hx : ∀ x ∈ op.operands, opd g x = opd g' x) : evPure P vars (g, h) op = evPure P vars (g', h) op := by
 have pairs : ∀ ps : Array (Nat × Operand), (∀ x ∈ (ps.toList.map (·.2)), opd g x = opd g' x) -> (ps.toList.map fun p => (p.1, opd g p.2)) = ps.toList.map fun p => (p.1, opd g' p.2) := fun ps hp =>
  List.map_congr_left fun p hm => by rw [hp p.2 (List.mem_map.2 ⟨p, hm, rfl⟩)]
 cases op <;> simp only [Op.operands] at hx <;> simp only [evPure]
 case move x =>
  have := hx x (by simp)
  cases x with
  | tmp t => simp only [opd] at this; simp only [this]
  | const v => rfl
  | global n => rfl
  | func f => rfl
 case pick k x y => rw [hx k (by simp), hx x (by simp), hx y (by simp)]
 case build t ps => rw [pairs ps fun x hm => hx x (by simpa using hm)]
 case load t x => rw [hx x (by simp)]
 case nilCheck x => rw [hx x (by simp)]
 case binOp op t x y u => rw [hx x (by simp), hx y (by simp)]
 case unOp op t x => rw [hx x (by simp)]
 case convert s d x => rw [hx x (by simp)]
 case makeFunc fn first caps =>
  have hx1 : ∀ k, k ∈ first.toList ++ caps.toList -> opd g k = opd g' k := fun k hk => hx k (by
   rcases List.mem_append.1 hk with hk | hk
   ·exact Array.mem_append.2 (.inl (Array.mem_toList_iff.1 hk))
   ·exact Array.mem_append.2 (.inr (Array.mem_toList_iff.1 hk)))
  have h1 : ((first.toList ++ caps.toList).all fun k => leaf0 (opd g k) && !isU (opd g k)) = ((first.toList ++ caps.toList).all fun k => leaf0 (opd g' k) && !isU (opd g' k)) := by
   rw [Bool.eq_iff_iff, List.all_eq_true, List.all_eq_true]
   exact ⟨fun hh k hk => by rw [<- hx1 k hk]; exact hh k hk, fun hh k hk => by rw [hx1 k hk]; exact hh k hk⟩
  have h2 : (caps.toList.map fun k => cp (opd g k)) = caps.toList.map fun k => cp (opd g' k) := List.map_congr_left fun k hk => by rw [hx1 k (List.mem_append.2 (.inr hk))]
  have h3 : (first.toList.map fun k => cp (opd g k)) = first.toList.map fun k => cp (opd g' k) := List.map_congr_left fun k hk => by rw [hx1 k (List.mem_append.2 (.inl hk))]
  rw [h1, h2, h3]
 case slice t x lo hi mx =>
  rw [hx x (by simp)]
  have hlo : ∀ d, bnd g lo d = bnd g' lo d := fun d => bnd_congr fun y hy => hx y (by subst hy; simp)
  have hhi : ∀ d, bnd g hi d = bnd g' hi d := fun d => bnd_congr fun y hy => hx y (by subst hy; simp)
  simp only [hlo, hhi]
 case fieldAddr t x f => rw [hx x (by simp)]
 case field t x f => rw [hx x (by simp)]
 case indexAddr t x i => rw [hx x (by simp), hx i (by simp)]
 case index t x i => rw [hx x (by simp), hx i (by simp)]
 case extract x i => rw [hx x (by simp)]
 case call k =>
  have h1 : (k.args[0]?).map (opd g) = (k.args[0]?).map (opd g') := by
   cases hq : k.args[0]? with
   | none => rfl
   | some x => simp only [Option.map_some]; rw [hx x (by simp [Call.operands]; exact .inr (Array.mem_of_getElem? hq))]
  have h2 : k.args.toList.map (opd g) = k.args.toList.map (opd g') := List.map_congr_left fun x hm => hx x (by simp [Call.operands]; simp at hm; exact .inr hm)
  rw [h1, h2]
theorem evHead_congr {g g' : Env} {o : Oper} (hx : ∀ x ∈ o.op.operands, opd g x = opd g' x) : evHead cx (g, h) o = evHead cx (g', h) o := by
 unfold evHead
 split
 ·generalize o.op = op at *
  cases op with
  | call k =>
   simp only
   split
   ·rename_i f hc
    rw [hx f (by simp [Op.operands, Call.operands, hc])]
    have h2 : k.args.toList.map (opd g) = k.args.toList.map (opd g') := List.map_congr_left fun x hm => hx x (by simp [Op.operands, Call.operands]; simp at hm; exact .inr hm)
    rw [h2]
   ·rfl
  | convert s d x =>
   cases hr : (cx.hint.mutc || isRow cx.P s d) with
   | true => simp only [hr, if_true]
   | false =>
   simp only [hr, Bool.false_eq_true, if_false]
   have hr2 : isRow cx.P s d = false := by rw [Bool.or_eq_false_iff] at hr; exact hr.2
   simp only [evEff, hr2, Bool.false_eq_true, if_false]
   rw [hx x (by simp [Op.operands])]
   split
   ·split
    ·simp
    ·rfl
   ·rfl
   ·rfl
  | buildSlice t n parts =>
   have h2 : (parts.toList.map fun p => cellsV (fzs (opd g p.2))) = parts.toList.map fun p => cellsV (fzs (opd g' p.2)) := List.map_congr_left fun p hm => by
    rw [hx p.2 (by simp [Op.operands]; exact ⟨p.1, by simpa using hm⟩)]
   simp only [evEff, h2]
   split
   ·split <;> rfl
   ·rfl
  | _ => rfl
 ·exact evPure_congr hx
theorem ins_comm (t u : Nat) (x y : V) (htu : t ≠ u) : ∀ g : Env, ins t x (ins u y g) = ins u y (ins t x g)
 | [] => by
  simp only [ins]
  rcases Nat.lt_or_gt_of_ne htu with h1 | h1
  ·simp [h1, show ¬ u < t by omega, Ne.symm htu]
  ·simp [h1, show ¬ t < u by omega, htu]
 | (k, z) :: l => by
  have ih := ins_comm t u x y htu l
  rcases Nat.lt_trichotomy t k with h1 | h1 | h1 <;> rcases Nat.lt_trichotomy u k with h2 | h2 | h2
  ·rcases Nat.lt_or_gt_of_ne htu with h3 | h3
   ·simp [ins, h1, h2, h3, show ¬ u < t by omega, Ne.symm htu]
   ·simp [ins, h1, h2, h3, show ¬ t < u by omega, htu]
  ·subst h2; simp [ins, h1, show ¬ u < t by omega, Ne.symm htu]
  ·simp [ins, h1, show ¬ u < k by omega, show ¬ u = k by omega, show ¬ u < t by omega, Ne.symm htu]
  ·subst h1; simp [ins, h2, show ¬ t < u by omega, htu]
  ·omega
  ·subst h1; simp [ins, show ¬ u < t by omega, Ne.symm htu]
  ·simp [ins, h2, show ¬ t < k by omega, show ¬ t = k by omega, show ¬ t < u by omega, htu]
  ·subst h2; simp [ins, show ¬ t < u by omega, htu]
  ·simp [ins, show ¬ t < k by omega, show ¬ t = k by omega, show ¬ u < k by omega, show ¬ u = k by omega, ih]
theorem put_comm {d e : Option Nat} (x y : V) (h : ∀ t, d = some t -> e ≠ some t) : put d x (put e y g) = put e y (put d x g) := by
 cases d with
 | none => rfl
 | some t => cases e with
  | none => rfl
  | some u => exact ins_comm t u x y (fun e => h t rfl (by rw [e])) g
def opA (cx : Cx) (ops : Array Oper) (i : Nat) (s : St) : Option St :=
 match ops[i]? with
 | none => some s
 | some o =>
  match want ops s.1 o with
  | some true => match evHead cx s o with
   | some v => some (put o.dst v s.1, s.2)
   | none => none
  | some false => if isAssign o.op then none else some (put o.dst (.v undef) s.1, s.2)
  | none => none
theorem want_put {ops : Array Oper} {o : Oper} {d : Option Nat} {v : V} (h : ∀ t, d = some t -> t ∉ o.looksAt ops) : want ops (put d v g) o = want ops g o := by
 cases d with
 | none => rfl
 | some t =>
  unfold want
  cases hg : o.guard with
  | none => rfl
  | some p =>
   obtain ⟨j, b⟩ := p
   simp only
   cases hd : (ops[j]?).bind (·.dst) with
   | none => rfl
   | some u =>
    have hne : u ≠ t := fun e => h t rfl (by subst e; simp [Oper.looksAt, hg, hd])
    simp only [put, look_ins, if_neg hne]
theorem evHead_put {ops : Array Oper} {o : Oper} {d : Option Nat} {v : V} (h' : ∀ t, d = some t -> t ∉ o.looksAt ops) : evHead cx (put d v g, h) o = evHead cx (g, h) o := by
 cases d with
 | none => rfl
 | some t =>
  refine evHead_congr fun x hx => opd_ins fun e => h' t rfl ?_
  subst e
  exact List.mem_append_left _ (List.mem_filterMap.2 ⟨.tmp t, by simpa using hx, rfl⟩)
theorem opA_swap {ops : Array Oper} {i j : Nat} {oi oj : Oper} (hi : ops[i]? = some oi) (hj : ops[j]? = some oj) (hap : oi.apart ops oj = true) {s s1 s2 : St} (h1 : opA cx ops i s = some s1) (h2 : opA cx ops j s1 = some s2) :
  ∃ s1', opA cx ops j s = some s1' /\ opA cx ops i s1' = some s2 := by
 obtain ⟨a1, a2, a3⟩ := Oper.apart_spec hap
 obtain ⟨g, h⟩ := s
 have hstep : ∀ {k : Nat} {o : Oper}, ops[k]? = some o -> ∀ {s s' : St}, opA cx ops k s = some s' -> ∃ v, s' = (put o.dst v s.1, s.2) /\ ∀ (d : Option Nat) (u : V), (∀ t, d = some t -> t ∉ o.looksAt ops) -> opA cx ops k (put d u s.1, s.2) = some (put o.dst v (put d u s.1), s.2) := by
  intro k o hk s s' hs
  unfold opA at hs
  rw [hk] at hs
  simp only at hs
  split at hs
  ·rename_i hw
   split at hs
   ·rename_i v hv
    cases hs
    refine ⟨v, rfl, fun d u hd => ?_⟩
    unfold opA
    rw [hk]
    simp only [want_put hd, hw, evHead_put hd, hv]
   ·cases hs
  ·rename_i hw
   split at hs
   ·cases hs
   ·rename_i hna
    cases hs
    refine ⟨.v undef, rfl, fun d u hd => ?_⟩
    unfold opA
    rw [hk]
    simp only [want_put hd, hw, hna]
    simp
  ·cases hs
 obtain ⟨v, rfl, hiv⟩ := hstep hi h1
 have hj0 : ∃ u, opA cx ops j (g, h) = some (put oj.dst u g, h) /\ s2 = (put oj.dst u (put oi.dst v g), h) := by
  unfold opA at h2
  rw [hj] at h2
  simp only [want_put a1, evHead_put a1] at h2
  split at h2
  ·rename_i hw
   split at h2
   ·rename_i u hu
    cases h2
    exact ⟨u, by unfold opA; rw [hj]; simp only [hw, hu], rfl⟩
   ·cases h2
  ·rename_i hw
   split at h2
   ·cases h2
   ·rename_i hna
    cases h2
    exact ⟨.v undef, by unfold opA; rw [hj]; simp only [hw, hna]; simp, rfl⟩
  ·cases h2
 obtain ⟨u, hu1, rfl⟩ := hj0
 refine ⟨_, hu1, ?_⟩
 rw [hiv oj.dst u a3]
 rw [put_comm v u a2]
def anyL (cx : Cx) (md : Region.Mode) (ops : Array Oper) (n : Nat) (L : Array Bool -> St -> Prop) : Nat -> Array Bool -> St -> Prop
 | 0, listed, s => L listed s
 | f + 1, listed, s => Region.ready md ops listed ≠ [] /\ ∀ i ∈ Region.ready md ops listed, i < n /\ ∃ s', opA cx ops i s = some s' /\ anyL cx md ops n L f (listed.setIfInBounds i true) s'
theorem anyL_first {md : Region.Mode} {ops : Array Oper} {n i : Nat} {oi : Oper} {L : Array Bool -> St -> Prop} (hi : ops[i]? = some oi)
  (hsc : n < ops.size -> Region.sinkB md ops n = true /\ Region.chainB md ops n = true) (hn : n <= ops.size) (hin : i < n) (hdone : ∀ listed s, L listed s -> ∀ j ∈ Region.ready md ops listed, n <= j) :
  ∀ (f : Nat) (listed : Array Bool) (s s1 : St), HeadInv md ops n listed ->
   (∀ j oj, ops[j]? = some oj -> j ≠ i -> listed.getD j true = false -> (∀ e ∈ oj.after, Region.binds md e = true -> e.on ≠ i) -> oi.apart ops oj = true) ->
   i ∈ Region.ready md ops listed -> opA cx ops i s = some s1 ->
   anyL cx md ops n L f (listed.setIfInBounds i true) s1 -> anyL cx md ops n L (f + 1) listed s := by
 have hjn : ∀ (listed : Array Bool), HeadInv md ops n listed -> i ∈ Region.ready md ops listed -> ∀ j ∈ Region.ready md ops listed, j < n := fun listed inv hr j hj => by
  rcases Nat.lt_or_ge j n with h | h
  ·exact h
  ·rcases Nat.lt_or_ge n ops.size with h' | h'
   ·exact absurd hj (tail_waits (hsc h').1 (hsc h').2 h' inv _ i rfl hin (mem_ready.1 hr).1 j h)
   ·have := (mem_ready.1 hj).2
    obtain ⟨o, ho, _⟩ := this
    have := (Array.getElem?_eq_some_iff.1 ho).1
    omega
 intro f
 induction f with
 | zero =>
  intro listed s s1 inv _ hr h1 H
  refine ⟨fun h => (by rw [h] at hr; cases hr), fun j hj => ⟨hjn listed inv hr j hj, ?_⟩⟩
  by_cases hji : j = i
  ·subst hji; exact ⟨s1, h1, H⟩
  ·have := hdone _ _ H j (ready_mono hj hji)
   have := hjn listed inv hr j hj
   omega
 | succ f ih =>
  intro listed s s1 inv hfree hr h1 H
  have hun := (mem_ready.1 hr).1
  refine ⟨fun h => (by rw [h] at hr; cases hr), fun j hj => ⟨hjn listed inv hr j hj, ?_⟩⟩
  by_cases hji : j = i
  ·subst hji; exact ⟨s1, h1, H⟩
  ·obtain ⟨s2, h2, H2⟩ := (H.2 j (ready_mono hj hji)).2
   obtain ⟨hjun, oj, hoj, hall⟩ := mem_ready.1 hj
   have hnot : ∀ e ∈ oj.after, Region.binds md e = true -> e.on ≠ i := fun e he hb heq => by
    have h1 := hall e he hb
    rw [heq, getD_both hun] at h1
    cases h1
   obtain ⟨s1', hs1', hs2⟩ := opA_swap hi hoj (hfree j oj hoj hji hjun hnot) h1 h2
   refine ⟨s1', hs1', ?_⟩
   have hfree' : ∀ k ok, ops[k]? = some ok -> k ≠ i -> (listed.setIfInBounds j true).getD k true = false ->
     (∀ e ∈ ok.after, Region.binds md e = true -> e.on ≠ i) -> oi.apart ops ok = true := fun k ok hk hki hun hno => by
    refine hfree k ok hk hki ?_ hno
    by_cases hjk : j = k
    ·subst hjk; exact hjun
    ·rw [getD_set_ne true hjk] at hun; exact hun
   refine ih (listed.setIfInBounds j true) s1' s2 (inv.set hj (hjn listed inv hr j hj)) hfree' (ready_mono hr (Ne.symm hji)) hs2 ?_
   rw [Array.setIfInBounds_comm _ _ hji]
   exact H2
theorem opA_of_heads {ops : Array Oper} {o : Oper} {l : List Oper} {k : Nat} {s s' : St} (hk : ops[k]? = some o) (he : evHeads cx ops (o :: l) s = some s') : ∃ s1, opA cx ops k s = some s1 /\ evHeads cx ops l s1 = some s' := by
 simp only [evHeads] at he
 unfold opA
 rw [hk]
 simp only
 split at he
 ·rename_i hw
  split at he
  ·rename_i v hv
   exact ⟨_, by simp only [hw, hv], he⟩
  ·cases he
 ·rename_i hw
  split at he
  ·cases he
  ·rename_i hna
   exact ⟨_, by simp only [hw, hna]; simp, he⟩
 ·cases he
theorem anyL_lex {md : Region.Mode} {ops : Array Oper} {n gg : Nat} {s' : St} (hsc : n < ops.size -> Region.sinkB md ops n = true /\ Region.chainB md ops n = true) (hn : n <= ops.size) :
  ∀ (l : List Oper) (k : Nat) (listed : Array Bool) (s : St), (∀ j, j < l.length -> l[j]? = ops[k + j]?) -> k + l.length = n -> HeadInv md ops n listed ->
  Region.lexHead md ops gg l.length k listed = true -> evHeads cx ops l s = some s' ->
  anyL cx md ops n (fun listed' s2 => Region.seqB md ops gg n listed' = true /\ s2 = s') l.length listed s
 | [], k, listed, s, _, hk, _, hB, h => by
  have : k = n := by simpa using hk
  subst this
  simp only [evHeads, Option.some.injEq] at h
  exact ⟨by simpa [Region.lexHead] using hB, h⟩
 | o :: l, k, listed, s, hl, hk, inv, hB, h => by
  have h0 : ops[k]? = some o := by simpa using (hl 0 (by simp)).symm
  simp only [List.length_cons, Region.lexHead, Bool.and_eq_true] at hB
  obtain ⟨⟨hr, hf⟩, hB'⟩ := hB
  have hkn : k < n := by simp only [List.length_cons] at hk; omega
  have hr' : k ∈ Region.ready md ops listed := by simpa using hr
  obtain ⟨s1, h1, h2⟩ := opA_of_heads h0 h
  exact anyL_first h0 hsc hn hkn (fun listed' s2 hL => seqB_ready hL.1) l.length listed s s1 inv (Region.free_spec h0 hf) hr' h1
   (anyL_lex hsc hn l (k + 1) _ _ (fun j hj => by have := hl (j + 1) (by simp; omega); simpa [Nat.add_assoc, Nat.add_comm 1 j] using this) (by simp only [List.length_cons] at hk; omega) (inv.set hr' hkn) hB' h2)
structure Closed (ops : Array Oper) (listed : Array Bool) : Prop where
 size : listed.size = ops.size
 closed : ∀ j oj, ops[j]? = some oj -> listed.getD j false = true -> ∀ e ∈ oj.after, Region.binds .any e = true -> listed.getD e.on false = true
theorem closed0 (ops : Array Oper) : Closed ops (Array.replicate ops.size false) :=
 ⟨by simp, fun j oj _ hl => (by rw [getD_replicate_false] at hl; cases hl)⟩
theorem Closed.set {ops : Array Oper} {listed : Array Bool} {i : Nat} (inv : Closed ops listed) (hi : i ∈ Region.ready .any ops listed) : Closed ops (listed.setIfInBounds i true) := by
 obtain ⟨_, oi, hoi, hall⟩ := mem_ready.1 hi
 refine ⟨by simp [inv.size], fun j oj hj hl e he hb => ?_⟩
 by_cases hij : i = j
 ·subst hij
  have : oj = oi := Option.some.inj (hj.symm.trans hoi)
  subst this
  exact getD_set_true (hall e he hb)
 ·rw [getD_set_ne false hij] at hl
  exact getD_set_true (inv.closed j oj hj hl e he hb)
theorem behind_waits {ops : Array Oper} {k : Nat} {listed : Array Bool} (inv : Closed ops listed) (hk : listed.getD k true = false) : ∀ j ∈ behind ops k, listed.getD j false = false /\ j ∉ Region.ready .any ops listed := by
 have step : ∀ (l acc : List Nat), (∀ j ∈ acc, listed.getD j false = false /\ j ∉ Region.ready .any ops listed) ->
   ∀ j ∈ l.foldl (fun acc j => match ops[j]? with
    | some o => if o.after.any (fun e => Region.binds .any e && (e.on == k || acc.contains e.on)) then j :: acc else acc
    | none => acc) acc, listed.getD j false = false /\ j ∉ Region.ready .any ops listed := by
  intro l
  induction l with
  | nil => intro acc hacc; exact hacc
  | cons x l ih =>
   intro acc hacc
   rw [List.foldl_cons]
   refine ih _ ?_
   split
   ·rename_i o ho
    split
    ·rename_i hany
     intro j hj
     rcases List.mem_cons.1 hj with rfl | hj
     ·obtain ⟨e, he, hb⟩ := Array.any_eq_true'.1 hany
      simp only [Bool.and_eq_true, Bool.or_eq_true, beq_iff_eq, List.contains_iff_mem] at hb
      have hoff : listed.getD e.on false = false := by
       rcases hb.2 with h1 | h1
       ·rw [h1]; exact getD_both hk
       ·exact (hacc _ h1).1
      refine ⟨?_, fun hr => ?_⟩
      ·cases hl : listed.getD j false with
       | false => rfl
       | true =>
        have := inv.closed j o ho hl e he hb.1
        rw [hoff] at this
        cases this
      ·obtain ⟨_, o', ho', hall⟩ := mem_ready.1 hr
       have : o' = o := Option.some.inj (ho'.symm.trans ho)
       subst this
       have := hall e he hb.1
       rw [hoff] at this
       cases this
     ·exact hacc j hj
    ·exact hacc
   ·exact hacc
 exact step _ [] (fun j hj => by cases hj)
def anyE (cx : Cx) (mx : Mix) (ops : Array Oper) (K : St -> Prop) : Nat -> Array Bool -> St -> Prop
 | 0, listed, s => Region.ready .any ops listed = [] /\ K s
 | f + 1, listed, s => (∃ k r, evTwo cx.P cx.lo cx.base k ops s = some r /\ K r /\ twoOk mx ops k (f + 1) listed = true) \/
  (Region.ready .any ops listed ≠ [] /\ ∀ i ∈ Region.ready .any ops listed, ∃ s', stepT cx mx ops i s = some s' /\ anyE cx mx ops K f (listed.setIfInBounds i true) s')
theorem stepT_head {mx : Mix} {ops : Array Oper} {k : Nat} {o : Oper} (ho : ops[k]? = some o) (hk : mx.heads.contains k = true) (s : St) : stepT cx mx ops k s = opA cx ops k s := by
 unfold stepT opA
 rw [ho]
 simp only [hk, if_true, evHeads]
 rfl
def LetsBy (mx : Mix) (ops : Array Oper) (ok : Oper) (j : Nat) (oj : Oper) : Prop :=
 (mx.heads.contains j = true \/ (mx.heads.contains j = false /\ mx.takes.contains j = false /\ plainOp ok.op = true /\ isAlloc oj.op = true)) /\ ok.apart ops oj = true
theorem headFree_spec {mx : Mix} {ops : Array Oper} {listed : Array Bool} {k : Nat} (h : headFree mx ops listed k = true) : ∃ ok, ops[k]? = some ok /\ mx.heads.contains k = true /\
  ∀ j oj, ops[j]? = some oj -> j ≠ k -> listed.getD j true = false -> j ∈ behind ops k \/ LetsBy mx ops ok j oj := by
 unfold headFree at h
 split at h
 ·cases h
 ·rename_i ok hok
  simp only [Bool.and_eq_true, List.all_eq_true, List.mem_range] at h
  refine ⟨ok, hok, h.1, fun j oj hj hne hun => ?_⟩
  have h1 := h.2 j (Array.getElem?_eq_some_iff.1 hj).1
  simp only [hj, Bool.or_eq_true, beq_iff_eq, hne, false_or, hun, Bool.false_eq_true, List.contains_iff_mem, Bool.and_eq_true, Bool.not_eq_true'] at h1
  rcases h1 with h1 | ⟨h1, h2⟩
  ·exact .inl h1
  ·refine .inr ⟨?_, h2⟩
   cases hh : mx.heads.contains j with
   | true => exact .inl rfl
   | false =>
    rcases h1 with h1 | h1
    ·have : mx.heads.contains j = true := by simpa using h1
     rw [hh] at this; cases this
    ·exact .inr ⟨rfl, h1.1.1, h1.1.2, h1.2⟩
theorem hl_more {h z : Heap} {b : Nat} {cs : List V} (hc : cellsOfOb h b = some cs) : cellsOfOb (h ++ z) b = some cs := by
 unfold cellsOfOb at hc ⊢
 rcases Nat.lt_or_ge b h.length with hb | hb
 ·rw [List.getElem?_append_left hb]; exact hc
 ·rw [List.getElem?_eq_none hb] at hc; cases hc
theorem load_more {P : Program} {h z : Heap} {t : TypeId} {a v : V} (hl : loadV P h t a = some v) : loadV P (h ++ z) t a = some v := by
 unfold loadV at hl ⊢
 cases a with
 | ptr b o =>
  simp only at hl ⊢
  cases hc : cellsOfOb h b with
  | none => rw [hc] at hl; cases hl
  | some cs => rw [hl_more hc]; rw [hc] at hl; exact hl
 | _ => exact hl
theorem plain_more {o : Oper} (hp : plainOp o.op = true) {g : Env} {h z : Heap} {v : V} (he : evHead cx (g, h) o = some v) : evHead cx (g, h ++ z) o = some v := by
 unfold evHead at he ⊢
 generalize o.op = op at hp he ⊢
 cases op
 case call c =>
  have hc : c.callee = .builtin .len := by
   simp only [plainOp] at hp
   split at hp
   ·assumption
   ·cases hp
  have hne : isEff cx.P (.call c) = false := by simp [isEff, hc]
  rw [if_neg (by rw [hne]; decide)] at he ⊢
  simp only [evPure, hc] at he ⊢
  exact he
 all_goals simp only [plainOp, Bool.false_eq_true] at hp <;> simp only [isEff, Bool.false_eq_true, if_false, evPure] at he ⊢ <;> first | exact he | exact load_more he
theorem alloc_swap {ops : Array Oper} {i : Nat} {oi oj : Oper} (hi : ops[i]? = some oi) (hp : plainOp oi.op = true) (hal : isAlloc oj.op = true) (hap : oi.apart ops oj = true) {s s1 s2 : St}
  (h1 : opA cx ops i s = some s1) (h2 : evOps cx ops [oj] s1 = some s2) : ∃ s1', evOps cx ops [oj] s = some s1' /\ opA cx ops i s1' = some s2 := by
 obtain ⟨a1, a2, a3⟩ := Oper.apart_spec hap
 obtain ⟨g, h⟩ := s
 have hstep : ∃ v, s1 = (put oi.dst v g, h) /\ ∀ (u : V) (z : Heap), opA cx ops i (put oj.dst u g, h ++ z) = some (put oi.dst v (put oj.dst u g), h ++ z) := by
  unfold opA at h1
  rw [hi] at h1
  simp only at h1
  split at h1
  ·rename_i hw
   split at h1
   ·rename_i v hv
    cases h1
    refine ⟨v, rfl, fun u z => ?_⟩
    unfold opA
    rw [hi]
    simp only [want_put a3, hw, evHead_put a3, plain_more hp hv]
   ·cases h1
  ·rename_i hw
   split at h1
   ·cases h1
   ·rename_i hna
    cases h1
    refine ⟨.v undef, rfl, fun u z => ?_⟩
    unfold opA
    rw [hi]
    simp only [want_put a3, hw, hna]
    simp
  ·cases h1
 obtain ⟨v, rfl, hiv⟩ := hstep
 cases hop : oj.op with
 | alloc t =>
  have hE : ∃ A : Option Ob, ∀ (g : Env), evOp cx (g, h) oj = A.map fun z => (.ptr h.length 0, (g, h ++ [z])) := by
   cases hm : (cx.hint.mode oj.dst == 4) with
   | false =>
    cases hz : tzero cx.P t with
    | none => exact ⟨none, fun g => by unfold evOp; rw [hop]; simp only [isNew, hm, Bool.false_eq_true, if_false, isEff, if_true, evEff, hz]; rfl⟩
    | some z =>
     by_cases hs : ((z.map ofC1).all stoOk && bldT t (z.map ofC1)) = true
     ·exact ⟨some (.cells ((z.map ofC1).map own1)), fun g => by unfold evOp; rw [hop]; simp only [isNew, hm, Bool.false_eq_true, if_false, isEff, if_true, evEff, hz, hs]; rfl⟩
     ·exact ⟨none, fun g => by unfold evOp; rw [hop]; simp only [isNew, hm, Bool.false_eq_true, if_false, isEff, if_true, evEff, hz]; rw [if_neg hs]; rfl⟩
   | true =>
    cases hz : tzero cx.P t with
    | none => exact ⟨none, fun g => by unfold evOp; rw [hop]; simp only [isNew, hm, if_true, evNew, hz]; rfl⟩
    | some z =>
     by_cases hs : ((z.map ofC1).all stoOk && bldT t (z.map ofC1)) = true
     ·exact ⟨some (.cells (z.map ofC1)), fun g => by unfold evOp; rw [hop]; simp only [isNew, hm, if_true, evNew, hz, hs]; rfl⟩
     ·exact ⟨none, fun g => by unfold evOp; rw [hop]; simp only [isNew, hm, if_true, evNew, hz]; rw [if_neg hs]; rfl⟩
  obtain ⟨A, hE⟩ := hE
  have hna : isAssign oj.op = false := by rw [hop]; rfl
  simp only [evOps, want_put a1, hE, hna] at h2
  simp only [evOps, hE, hna]
  cases hw : want ops g oj with
  | none => rw [hw] at h2; cases h2
  | some b =>
   rw [hw] at h2
   cases b with
   | true =>
    cases A with
    | none => cases h2
    | some z =>
     simp only [Option.map_some] at h2 ⊢
     cases h2
     exact ⟨_, rfl, by rw [hiv]; rw [put_comm _ _ a2]⟩
   | false =>
    simp only [Bool.false_eq_true, if_false] at h2 ⊢
    cases h2
    refine ⟨_, rfl, ?_⟩
    have := hiv (.v undef) []
    rw [List.append_nil] at this
    rw [this, put_comm _ _ a2]
 | makeSlice t n k =>
  have hE : ∃ A : Option (V × Ob), evOp cx (g, h) oj = A.map (fun z => (z.1, (g, h ++ [z.2]))) /\ evOp cx (put oi.dst v g, h) oj = A.map (fun z => (z.1, (put oi.dst v g, h ++ [z.2]))) := by
   have hn : ∀ x ∈ oj.op.operands, opd (put oi.dst v g) x = opd g x := fun x hx => by
    cases hd : oi.dst with
    | none => rfl
    | some t => exact opd_ins fun e => a1 t hd (by subst e; simp [Oper.looksAt]; exact .inl ⟨_, hx, rfl⟩)
   have e1 := hn n (by rw [hop]; simp [Op.operands])
   have e2 := hn k (by rw [hop]; simp [Op.operands])
   unfold evOp
   rw [hop]
   simp only [isNew, if_true, evNew, e1, e2]
   split
   ·split
    ·split
     ·exact ⟨some (_, _), rfl, rfl⟩
     ·exact ⟨none, rfl, rfl⟩
    ·exact ⟨none, rfl, rfl⟩
   ·exact ⟨none, rfl, rfl⟩
  obtain ⟨A, hE1, hE2⟩ := hE
  have hna : isAssign oj.op = false := by rw [hop]; rfl
  simp only [evOps, want_put a1, hE2, hna] at h2
  simp only [evOps, hE1, hna]
  cases hw : want ops g oj with
  | none => rw [hw] at h2; cases h2
  | some b =>
   rw [hw] at h2
   cases b with
   | true =>
    cases A with
    | none => cases h2
    | some z =>
     simp only [Option.map_some] at h2 ⊢
     cases h2
     exact ⟨_, rfl, by rw [hiv]; rw [put_comm _ _ a2]⟩
   | false =>
    simp only [Bool.false_eq_true, if_false] at h2 ⊢
    cases h2
    refine ⟨_, rfl, ?_⟩
    have := hiv (.v undef) []
    rw [List.append_nil] at this
    rw [this, put_comm _ _ a2]
 | _ => rw [hop] at hal; cases hal
theorem stepT_plain {mx : Mix} {ops : Array Oper} {k : Nat} {o : Oper} (ho : ops[k]? = some o) (hk : mx.heads.contains k = false) (ht : mx.takes.contains k = false) (s : St) : stepT cx mx ops k s = evOps cx ops [o] s := by
 unfold stepT
 rw [ho]
 simp only [hk, ht, Bool.false_eq_true, if_false]
theorem anyE_first {mx : Mix} {ops : Array Oper} {k : Nat} {ok : Oper} {K : St -> Prop} (hk : ops[k]? = some ok) (hkh : mx.heads.contains k = true) :
  ∀ (f : Nat) (listed : Array Bool) (s s1 : St), Closed ops listed ->
   (∀ j oj, ops[j]? = some oj -> j ≠ k -> listed.getD j true = false -> j ∈ behind ops k \/ LetsBy mx ops ok j oj) ->
   k ∈ Region.ready .any ops listed -> stepT cx mx ops k s = some s1 -> anyE cx mx ops K f (listed.setIfInBounds k true) s1 -> anyE cx mx ops K (f + 1) listed s := by
 intro f
 induction f with
 | zero =>
  intro listed s s1 inv hfree hr h1 H
  refine .inr ⟨fun h => (by rw [h] at hr; cases hr), fun j hj => ?_⟩
  by_cases hjk : j = k
  ·subst hjk; exact ⟨s1, h1, H⟩
  ·have := ready_mono hj hjk
   rw [H.1] at this
   cases this
 | succ f ih =>
  intro listed s s1 inv hfree hr h1 H
  have hun := (mem_ready.1 hr).1
  refine .inr ⟨fun h => (by rw [h] at hr; cases hr), fun j hj => ?_⟩
  by_cases hjk : j = k
  ·subst hjk; exact ⟨s1, h1, H⟩
  ·rcases H with ⟨k', r, _, _, hok⟩ | H
   ·exfalso
    have hj2 := ready_mono hj hjk
    simp only [twoOk, Bool.and_eq_true, beq_iff_eq, Bool.not_eq_true'] at hok
    rw [hok.1.1.1.1.1.1] at hj2
    have hjk' : j = k' := by simpa using hj2
    subst hjk'
    obtain ⟨hjun, oj, hoj, hall⟩ := mem_ready.1 hj
    rcases hfree j oj hoj hjk hjun with hb | ⟨hjh, hap⟩
    ·exact absurd hj (behind_waits inv hun j hb).2
    ·have h3 := hok.1.1.1.1.2
     rw [hoj] at h3
     simp only [Bool.not_eq_true'] at h3
     rcases hjh with hjh | ⟨_, _, _, hal⟩
     ·rw [hok.1.1.1.1.1.2] at hjh; cases hjh
     ·rw [h3] at hal; cases hal
   obtain ⟨s2, h2, H2⟩ := H.2 j (ready_mono hj hjk)
   obtain ⟨hjun, oj, hoj, hall⟩ := mem_ready.1 hj
   rcases hfree j oj hoj hjk hjun with hb | ⟨hjh, hap⟩
   ·exact absurd hj (behind_waits inv hun j hb).2
   ·rw [stepT_head hk hkh] at h1
    have hsw : ∃ s1', stepT cx mx ops j s = some s1' /\ opA cx ops k s1' = some s2 := by
     rcases hjh with hjh | ⟨hjh, hjt, hp, hal⟩
     ·rw [stepT_head hoj hjh] at h2
      obtain ⟨s1', hs1', hs2⟩ := opA_swap hk hoj hap h1 h2
      exact ⟨s1', by rw [stepT_head hoj hjh]; exact hs1', hs2⟩
     ·rw [stepT_plain hoj hjh hjt] at h2
      obtain ⟨s1', hs1', hs2⟩ := alloc_swap hk hp hal hap h1 h2
      exact ⟨s1', by rw [stepT_plain hoj hjh hjt]; exact hs1', hs2⟩
    obtain ⟨s1', hs1', hs2⟩ := hsw
    refine ⟨s1', hs1', ?_⟩
    have hfree' : ∀ i oi, ops[i]? = some oi -> i ≠ k -> (listed.setIfInBounds j true).getD i true = false -> i ∈ behind ops k \/ LetsBy mx ops ok i oi := fun i oi hi hik hun => by
     refine hfree i oi hi hik ?_
     by_cases hji : j = i
     ·subst hji; exact hjun
     ·rw [getD_set_ne true hji] at hun; exact hun
    refine ih (listed.setIfInBounds j true) s1' s2 (inv.set hj) hfree' (ready_mono hr (Ne.symm hjk)) (by rw [stepT_head hk hkh]; exact hs2) ?_
    rw [Array.setIfInBounds_comm _ _ hjk]
    exact H2
def WeakV (v u : V) : Prop := u = v \/ u = .undef \/ (u = .any /\ ∃ b, v = .v (.bool b))
theorem WeakV.trans {v u t : V} (h : WeakV v u) (h' : WeakV u t) : WeakV v t := by
 rcases h' with rfl | rfl | ⟨rfl, b, rfl⟩
 ·exact h
 ·exact .inr (.inl rfl)
 ·rcases h with h | h | ⟨h, _⟩
  ·exact .inr (.inr ⟨rfl, b, h.symm⟩)
  ·cases h
  ·cases h
structure Weak (s s' : St) : Prop where
 env : ∀ t, WeakV (look s.1 t) (look s'.1 t)
 heap : s'.2 = s.2
theorem Weak.refl (s : St) : Weak s s := ⟨fun _ => .inl rfl, rfl⟩
theorem Weak.trans {s s' s'' : St} (h : Weak s s') (h' : Weak s' s'') : Weak s s'' := ⟨fun t => (h.env t).trans (h'.env t), h'.heap.trans h.heap⟩
theorem joinV_weak {v u : V} : WeakV v (joinV v u) /\ WeakV u (joinV v u) := by
 unfold joinV
 split
 ·rename_i e
  obtain rfl := veq_eq _ _ e
  exact ⟨.inl rfl, .inl rfl⟩
 ·split
  ·rename_i hb
   have key : ∀ {x : V}, isBoolV x = true -> WeakV x .any := fun {x} hx => by
    unfold isBoolV at hx
    split at hx
    ·exact .inr (.inr ⟨rfl, _, rfl⟩)
    ·exact .inl rfl
    ·cases hx
   exact ⟨key hb.1, key hb.2⟩
  ·exact ⟨.inr (.inl rfl), .inr (.inl rfl)⟩
theorem joinE_weak : ∀ {g q r : Env}, joinE g q = some r -> ∀ t, WeakV (look g t) (look r t) /\ WeakV (look q t) (look r t)
 | [], [], r, h, t => by
  simp only [joinE, Option.some.injEq] at h
  subst h
  exact ⟨.inl rfl, .inl rfl⟩
 | (k, v) :: g, (j, u) :: q, r, h, t => by
  simp only [joinE] at h
  split at h
  ·rename_i e
   subst e
   rw [Option.map_eq_some_iff] at h
   obtain ⟨r', hr, rfl⟩ := h
   have ih := joinE_weak hr t
   simp only [look]
   split
   ·exact joinV_weak
   ·exact ih
  ·cases h
 | [], _ :: _, r, h, t => by simp [joinE] at h
 | _ :: _, [], r, h, t => by simp [joinE] at h
theorem joinS_weak {x y : Option St} {s : St} (h : joinS x y = some s) : ∃ s1 s2, x = some s1 /\ y = some s2 /\ Weak s1 s /\ Weak s2 s := by
 unfold joinS at h
 split at h
 ·rename_i s1 s2
  split at h
  ·rename_i e
   have e := heq_eq _ _ e
   rw [Option.map_eq_some_iff] at h
   obtain ⟨g, hg, rfl⟩ := h
   exact ⟨s1, s2, rfl, rfl, ⟨fun t => (joinE_weak hg t).1, rfl⟩, ⟨fun t => (joinE_weak hg t).2, e⟩⟩
  ·cases h
 ·cases h
def EndsAs (cx : Cx) (id : Nat) (s' : St) (s2 : St) : Prop := ∃ (k : List Nat) (s1 : St), leafT cx.base (cx.hint.live id) (cx.hint.keep id) k s2 = some s1 /\ Weak s1 s'
theorem tree_any {mx : Mix} {id : Nat} {ops : Array Oper} {s' : St} : ∀ (T : Tr) (n : Nat) (listed : Array Bool) (s r : St), Closed ops listed -> evT cx mx id ops T s = some r -> Weak r s' ->
  (trOk mx ops T n true listed = true -> anyE cx mx ops (EndsAs cx id s') n listed s) /\
  (trOk mx ops T n false listed = true -> ∀ k ∈ T.firsts, k ∈ Region.ready .any ops listed -> ∃ m, n = m + 1 /\ ∃ s1, stepT cx mx ops k s = some s1 /\ anyE cx mx ops (EndsAs cx id s') m (listed.setIfInBounds k true) s1)
 | .fin, n, listed, s, r, inv, he, hw => by
  simp only [evT] at he
  refine ⟨fun h => ?_, fun h => by simp [trOk] at h⟩
  simp only [trOk, Bool.and_eq_true, beq_iff_eq, List.isEmpty_iff] at h
  obtain ⟨⟨_, rfl⟩, hr⟩ := h
  exact ⟨hr, [], r, he, hw⟩
 | .finS i, n, listed, s, r, inv, he, hw => by
  simp only [evT] at he
  refine ⟨fun h => ?_, fun h => by simp [trOk] at h⟩
  simp only [trOk, Bool.and_eq_true, beq_iff_eq, List.isEmpty_iff] at h
  obtain ⟨⟨_, rfl⟩, hr⟩ := h
  exact ⟨hr, [i], r, he, hw⟩
 | .finL l, n, listed, s, r, inv, he, hw => by
  simp only [evT] at he
  refine ⟨fun h => ?_, fun h => by simp [trOk] at h⟩
  simp only [trOk, Bool.and_eq_true, beq_iff_eq, List.isEmpty_iff] at h
  obtain ⟨⟨_, rfl⟩, hr⟩ := h
  exact ⟨hr, l, r, he, hw⟩
 | .head k t, n, listed, s, r, inv, he, hw => by
  simp only [evT] at he
  refine ⟨fun h => ?_, fun h => ?_⟩
  ·cases n with
   | zero => simp [trOk] at h
   | succ n =>
    simp only [trOk, Bool.and_eq_true, List.contains_iff_mem] at h
    obtain ⟨⟨⟨_, hr⟩, hf⟩, ht⟩ := h
    obtain ⟨ok, hok, hkh, hfree⟩ := headFree_spec hf
    split at he
    ·rename_i s1 h1
     exact anyE_first hok hkh n listed s s1 inv hfree hr h1 ((tree_any t n _ s1 r (inv.set hr) he hw).1 ht)
    ·cases he
  ·cases n <;> simp [trOk] at h
 | .one k t, n, listed, s, r, inv, he, hw => by
  simp only [evT] at he
  have key : ∀ {top : Bool} {n : Nat}, trOk mx ops (.one k t) n top listed = true -> k ∈ Region.ready .any ops listed -> ∃ m, n = m + 1 /\ ∃ s1, stepT cx mx ops k s = some s1 /\ anyE cx mx ops (EndsAs cx id s') m (listed.setIfInBounds k true) s1 := fun {top n} h hr => by
   cases n with
   | zero => simp [trOk] at h
   | succ n =>
    simp only [trOk, Bool.and_eq_true] at h
    split at he
    ·rename_i s1 h1
     exact ⟨n, rfl, s1, h1, (tree_any t n _ s1 r (inv.set hr) he hw).1 h.2⟩
    ·cases he
  refine ⟨fun h => ?_, fun h j hj hr => ?_⟩
  ·have h0 := h
   cases n with
   | zero => simp [trOk] at h
   | succ n =>
    simp only [trOk, Bool.and_eq_true, Bool.or_eq_true, Bool.not_true, Bool.false_eq_true, false_or, Bool.not_eq_true', List.isEmpty_eq_false_iff, List.all_eq_true, beq_iff_eq] at h
    refine .inr ⟨h.1.1, fun i hi => ?_⟩
    have := h.1.2 i hi
    subst this
    obtain ⟨m, hm, r⟩ := key h0 hi
    cases hm
    exact r
  ·simp only [Tr.firsts, List.mem_singleton] at hj
   subst hj
   exact key h hr
 | .alt a b, n, listed, s, r, inv, he, hw => by
  simp only [evT] at he
  obtain ⟨r1, r2, ha, hb, hw1, hw2⟩ := joinS_weak he
  have key : ∀ {top : Bool}, trOk mx ops (.alt a b) n top listed = true -> ∀ k ∈ a.firsts ++ b.firsts, k ∈ Region.ready .any ops listed -> ∃ m, n = m + 1 /\ ∃ s1, stepT cx mx ops k s = some s1 /\ anyE cx mx ops (EndsAs cx id s') m (listed.setIfInBounds k true) s1 := fun {top} h k hk hr => by
   simp only [trOk, Bool.and_eq_true] at h
   rcases List.mem_append.1 hk with hk | hk
   ·exact (tree_any a n listed s r1 inv ha (hw1.trans hw)).2 h.1.2 k hk hr
   ·exact (tree_any b n listed s r2 inv hb (hw2.trans hw)).2 h.2 k hk hr
  refine ⟨fun h => ?_, fun h j hj hr => key h j hj hr⟩
  have h0 := h
  simp only [trOk, Bool.and_eq_true, Bool.or_eq_true, Bool.not_true, Bool.false_eq_true, false_or, Bool.not_eq_true', List.isEmpty_eq_false_iff, List.all_eq_true, List.contains_iff_mem] at h
  obtain ⟨i0, l, hl⟩ := List.exists_cons_of_ne_nil h.1.1.1
  obtain ⟨m, hm, _⟩ := key h0 i0 (h.1.1.2 i0 (by rw [hl]; simp)) (by rw [hl]; simp)
  subst hm
  refine .inr ⟨h.1.1.1, fun i hi => ?_⟩
  obtain ⟨m', hm', r⟩ := key h0 i (h.1.1.2 i hi) hi
  cases hm'
  exact r
 | .two k, n, listed, s, r, inv, he, hw => by
  simp only [evT] at he
  refine ⟨fun h => ?_, fun h => by simp [trOk] at h⟩
  simp only [trOk, Bool.true_and] at h
  split at he
  ·rename_i s1 h1
   have h0 := h
   simp only [twoOk, Bool.and_eq_true, decide_eq_true_eq, beq_iff_eq] at h0
   obtain ⟨n', rfl⟩ : ∃ n', n = n' + 1 := ⟨n - 1, by have := h0.1.1.2; have := h0.1.1.1.2; omega⟩
   exact .inl ⟨k, s1, h1, ⟨[], r, he, hw⟩, h⟩
  ·cases he
end
end Go.Lift
end
