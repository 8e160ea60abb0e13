/- The lifting: values, states, evaluation, and that it is sound. -/
import Derived.ProofKit
import Derived.JoinedCond
import Derived.Test.YtnlekmkfgaolbaaGreatDoorGLb
set_option linter.unusedVariables false
set_option linter.unusedSimpArgs false
set_option linter.unusedSectionVars false
section
namespace Go.Lift
variable [GTab] [BTy]
section
variable {P : Program} {vars : List Nat} {m : List Nat} {c : Cl} {w : World} {g : Env} {h : Heap} {a : Act} {E : Entry}
theorem stk_idx (hC : Core vars m c w g h a) {o : Oper} {t : TypeId} {x i : Operand} (ho : o.op = .indexAddr t x i) {b mm sz : Nat} (hx0 : opd g x = .stk b mm sz) {v : V} (hv : evPure P vars (g, h) (.indexAddr t x i) = some v) :
  ∃ y, (∀ w' : World, Yields P w' a o y) /\ VRr m c w v y /\ bare v = true := by
 have hx := hC.opd x
 have hi := hC.opd i
 simp only [evPure] at hv
 rw [hx0] at hv hx
 split at hv
 ·rename_i he _ _; cases he
 ·rename_i he _ _; cases he
 ·rename_i b mm sz n e he hn hu
  cases he
  obtain ⟨kk, hkk⟩ := idx_spec hn
  rw [hkk] at hi
  have hi' : a.eval i = .int kk n := hi
  split at hv
  ·rename_i hb
   cases hv
   obtain ⟨gb, cap, hg, hy, hcap, _⟩ := hx
   obtain ⟨ie, hie⟩ : ∃ ie, P.info? e = some ie := by
    cases hie : P.info? e with
    | some ie => exact ⟨ie, rfl⟩
    | none =>
     have h1 := hb.2.2.1
     have h2 := hb.2.2.2
     simp [tsize, Program.cellsOf, hie] at h1
     omega
   refine ⟨.pointer (some ((⟨gb, 0, none⟩ : Addr).add (n.toNat * tsize P e))), fun w' => yields_of (by simp [execOp, ho, hy, hi']; rfl) ?_, ⟨gb, hg, by rw [add_none, Nat.zero_add, hb.2.2.1]⟩, rfl⟩
   have hb' : 0 <= n /\ n < (mm : Int) := ⟨hb.1, hb.2.1⟩
   simp [Instr.indexAt, asIntOf, run_underlying hu, hb', sizeOf, typeInfo, hie, size_of_info hie]
  ·cases hv
 ·rename_i he _ _; cases he
 ·rename_i he _ _; cases he
 ·cases hv
theorem ptr_field (hC : Core vars m c w g h a) {o : Oper} {t : TypeId} {x : Operand} {f : Nat} (ho : o.op = .fieldAddr t x f) {b k : Nat} (hx0 : opd g x = .ptr b k) {v : V} (hv : evPure P vars (g, h) (.fieldAddr t x f) = some v) :
  ∃ y, (∀ w' : World, Yields P w' a o y) /\ VRr m c w v y /\ bare v = true := by
 have hx := hC.opd x
 simp only [evPure] at hv
 rw [hx0] at hv hx
 split at hv
 ·rename_i b k off u he hf
  cases he
  split at hv
  ·rename_i hs
   cases hv
   obtain ⟨fs, fd, hu, hfd, rfl, rfl⟩ := fieldOff_spec hf
   obtain ⟨gb, hg, hy⟩ := hx
   exact ⟨_, fun w' => yields_of (by simp [execOp, ho, hy]; rfl) (run_fieldAt hu hfd hs _), ⟨gb, hg, by rw [add_none]⟩, rfl⟩
  ·cases hv
 ·rename_i he _; cases he
 ·cases hv
theorem ptr_nil (hC : Core vars m c w g h a) {o : Oper} {x : Operand} (ho : o.op = .nilCheck x) {b k : Nat} (hx0 : opd g x = .ptr b k) :
  ∃ y, (∀ w' : World, Yields P w' a o y) /\ VRr m c w (.ptr b k) y /\ bare (V.ptr b k) = true := by
 have hx := hC.opd x
 rw [hx0] at hx
 obtain ⟨gb, hg, hy⟩ := hx
 exact ⟨_, fun w' => by simp [Yields, execOp, ho, hy], ⟨gb, hg, rfl⟩, rfl⟩
theorem row_addr {o : Oper} {t e : TypeId} {u nn n b cap : Nat} {kk : IntKind} (ho : o.op = .indexAddr t (.tmp u) (.tmp nn)) (hu : P.underlying t = some (.slice e)) (hi : (P.info? e).isSome) (hy : a.eval (.tmp u) = .slice (some ⟨b, 0, none⟩) (n + 1) cap) (hn : a.eval (.tmp nn) = .int kk n) (w' : World) :
  Yields P w' a o (.pointer (some ⟨b, n * tsize P e, none⟩)) := by
 obtain ⟨ie, hie⟩ := Option.isSome_iff_exists.1 hi
 refine yields_of (by simp [execOp, ho, hy, hn]; rfl) ?_
 have hb' : (0 : Int) <= (n : Int) /\ (n : Int) < ((n + 1 : Nat) : Int) := ⟨by omega, by omega⟩
 simp [Instr.indexAt, asIntOf, run_underlying hu, hb', sizeOf, typeInfo, hie, size_of_info hie]
 rw [add_none, Nat.zero_add]
theorem late_store (hI : InvP vars E m c w g h a) {p : Operand} {u i off : Nat} {cs : List V} {r : List (List V)} {t : TypeId} (hp : opd g p = .ptr i off) (hcs : cellsOfOb h i = some cs) (hl : look g u = .list .yes r)
  (c1 : E.lo <= i) (c2 : off + 1 <= cs.length) (ht : tsize P t = 1) (hinfo : (P.info? t).isSome) (c7 : bldS [V.list .yes r] = true) :
  ∃ gb arr e f, m[i]? = some gb /\ w.heap[gb]? = some (.cells arr e f) /\ off + 1 <= arr.size /\
   InvP vars E m c (w.setCells gb off [a.tmps.getD u undef]) (Lift.untag (Lift.ins u (.list .no r) g)) (Lift.setOb h i (cs.take off ++ [.list .yes r] ++ cs.drop (off + 1))) a /\
   ∀ (o : Oper) (w1 : World) (arr1 : Array Value), o.op = .store t p (.tmp u) -> w1.heap[gb]? = some (.cells arr1 e f) -> off + 1 <= arr1.size -> Does P w1 a o undef (w1.setCells gb off [a.tmps.getD u undef]) := by
 obtain ⟨gb, hm, hpv⟩ := (by have := hI.core.opd p; rw [hp] at this; exact this : ∃ gb, m[i]? = some gb /\ a.eval p = .pointer (some ⟨gb, off, none⟩))
 obtain ⟨ie, hie⟩ := Option.isSome_iff_exists.1 hinfo
 have hcs0 : h[i]? = some (.cells cs) := by
  unfold cellsOfOb at hcs
  split at hcs
  ·rename_i h0; cases hcs; exact h0
  ·cases hcs
 obtain ⟨arr, e, f, hw, hle, hfr, hall, hbld⟩ := hI.core.ob i _ gb hcs0 hm
 have hat : At m w g h a (.slot u) r (a.tmps.getD u undef) := ⟨hl, rfl⟩
 have hv := hI.core.env u
 rw [hl] at hv
 have hv' : VP c w (.list .yes r) (a.tmps.getD u undef) := hv
 have hone : (a.tmps.getD u undef).oneCell' = true := hv'.oneCell
 have hI1 := hI.release hl
 obtain ⟨hI', _⟩ := store_cells (P := P) (vs := [.list .yes r]) (ys := [a.tmps.getD u undef]) hI1 off hcs hm c1 c2 ⟨rfl, fun j v x hj hx => by
   cases j with
   | succ j => simp at hj
   | zero =>
    simp only [List.getElem?_cons_zero, Option.some.injEq] at hj hx
    subst hj hx
    exact hv'⟩ (fun y hy => by rw [List.mem_singleton.1 hy]; exact hone) (fun j q y hj hy => by
   cases j with
   | succ j => simp at hj
   | zero =>
    simp only [List.getElem?_cons_zero, Option.some.injEq, V.list.injEq, true_and] at hj hy
    subst hj hy
    refine .inr ⟨by omega, hI.core.own _ _ _ hat, fun l r' x' b hl' hb hb' => ?_, fun b hb => hI.owned _ _ _ b hat trivial hb⟩
    obtain ⟨n1, hl''⟩ := At_release hl'
    exact n1 (hI.core.uniq l _ r' _ x' _ b hl'' hat hb' hb)) (.inl ⟨Nat.le_refl _, by simp⟩) (fun t i j r => noTagC t i j r) (fun _ v hv => .inl (by rw [List.mem_singleton.1 hv]; rfl)) c7
 refine ⟨gb, arr, e, f, hm, hw, by omega, hI', fun o w1 arr1 ho hw1 hs1 => ?_⟩
 have hfz : w1.frozen? ⟨gb, off, none⟩ = false := by
  have := hfr off (by omega)
  simp only [World.frozen?, hw, hw1] at this ⊢
  exact this
 have hrun := run_storeCells_cells (P := P) gb off [a.tmps.getD u undef] 0 w1 (fun j hj => by
  have hj0 : j = 0 := by simpa using hj
  subst hj0
  show (w1.cell? ⟨gb, off, none⟩).isSome = true
  rw [cell_arr hw1]
  simp only [Option.isSome_iff_exists]
  exact ⟨_, Array.getElem?_eq_getElem (by omega)⟩) (fun j hj => by
  have hj0 : j = 0 := by simpa using hj
  subst hj0
  exact hfz) (fun v hv => by rw [List.mem_singleton.1 hv]; exact hone)
 have hcells : (a.eval (.tmp u)).cells = #[a.tmps.getD u undef] := by
  show (a.tmps.getD u undef).cells = _
  generalize a.tmps.getD u undef = z at hv'
  cases hv' <;> rfl
 refine .inr ⟨?_, rfl⟩
 have hsz : ie.size = 1 := by rw [<- size_of_info hie]; exact ht
 have hsz2 : (a.eval (.tmp u)).cells.size = ie.size := by rw [hcells, hsz]; rfl
 have hcl : (a.eval (.tmp u)).cells.toList = [a.tmps.getD u undef] := by rw [hcells]
 obtain ⟨zz, hz⟩ : ∃ zz, a.tmps.getD u undef = zz := ⟨_, rfl⟩
 rw [hz] at hrun hcl ⊢
 simp [execOp, ho, Instr.storeAt, hpv, Instr.sureAddr, storeVar, sizeOf, typeInfo, hie, hsz2, hcl, hrun]
structure Pend (vars : List Nat) (E : Entry) (b off : Nat) (es : List Value) (u nn ex : Nat) (yu yn ye : Value) (m : List Nat) (c : Cl) (w : World) (g : Env) (h : Heap) (a : Act) : Prop where
 inv : InvP vars E m c (w.setCells b off es) g h a
 blk : ∃ arr ty, w.heap[b]? = some (.cells arr ty (0, 0)) /\ off + es.length <= arr.size
 nm : b ∉ m
 su : a.eval (.tmp u) = yu
 sn : a.eval (.tmp nn) = yn
 se : a.eval (.tmp ex) = ye
theorem eval_put_ne {a : Act} {d t : Nat} {y : Value} (h : d ≠ t) : (a.put (some d) y).eval (.tmp t) = a.eval (.tmp t) := by
 simp [Act.eval, Act.put, Array.getD_eq_getD_getElem?, Array.getElem?_setIfInBounds_ne h]
def NT (g : Env) : Prop := (∀ t u r, look g t ≠ .list (.slot u) r) /\ ∀ t i j r, look g t ≠ .list (.cell i j) r
theorem mid1 {b off u nn ex : Nat} {es : List Value} {yu yn ye : Value} {o : Oper} {l : List Oper} {s' : St} (hO : (∀ t, o.dst = some t -> t < E.nt) /\ ((∃ x, o.op = .assign x) \/ ∀ t, o.dst = some t -> t ∉ vars)) (hP : Pend vars E b off es u nn ex yu yn ye m c w g h a)
  (he : evMid P E.lo E.base u nn ex (o :: l) (g, h) = some s') : o.guard = none /\ ∃ y w' g' h', Does P w a o y w' /\ Pend vars E b off es u nn ex yu yn ye m c w' g' h' (a.put o.dst y) /\ (NT g -> NT g') /\
   (∀ t, look g t = .undef -> o.dst ≠ some t -> t ≠ u -> look g' t = .undef) /\ (l = [] -> (g', h') = s') /\ (l ≠ [] -> evMid P E.lo E.base u nn ex l (g', h') = some s') /\ (w.setCells b off es = w -> w'.setCells b off es = w') := by
 have step : ∀ {d : Nat} {v : V} {y : Value}, l ≠ [] -> o.dst = some d -> (∀ x, o.op ≠ .assign x) -> o.guard = none -> d ≠ u -> d ≠ nn -> d ≠ ex -> (∀ w' : World, Yields P w' a o y) -> VRr m c (w.setCells b off es) v y -> bare v = true -> evMid P E.lo E.base u nn ex l (ins d v g, h) = some s' -> o.guard = none /\ ∃ y w' g' h', Does P w a o y w' /\ Pend vars E b off es u nn ex yu yn ye m c w' g' h' (a.put o.dst y) /\ (NT g -> NT g') /\
   (∀ t, look g t = .undef -> o.dst ≠ some t -> t ≠ u -> look g' t = .undef) /\ (l = [] -> (g', h') = s') /\ (l ≠ [] -> evMid P E.lo E.base u nn ex l (g', h') = some s') /\ (w.setCells b off es = w -> w'.setCells b off es = w') := fun {d v y} hl hdst hna hgd h1 h2 h3 hy hv hb hrest => by
  have hd : d < E.nt /\ d ∉ vars := ⟨hO.1 d hdst, by
   rcases hO.2 with ⟨x, hx⟩ | h'
   ·exact absurd hx (hna x)
   ·exact h' d hdst⟩
  have hI2 := hP.inv.put (d := some d) (fun t e => by cases e; exact hd.1) hv (TagOK.bare hb) (.inl fun t e => by cases e; exact hd.2)
  refine ⟨hgd, y, w, ins d v g, h, .inl (hy w), ?_, fun hn => ⟨fun t u r e => ?_, fun t i j r e => ?_⟩, fun t ht hne htu => ?_, fun e => absurd e hl, fun _ => hrest, id⟩
  ·rw [hdst]
   exact ⟨hI2, hP.blk, hP.nm, (eval_put_ne h1).trans hP.su, (eval_put_ne h2).trans hP.sn, (eval_put_ne h3).trans hP.se⟩
  ·rw [look_ins] at e
   split at e
   ·rw [e] at hb; cases hb
   ·exact hn.1 t u r e
  ·rw [look_ins] at e
   split at e
   ·rw [e] at hb; cases hb
   ·exact hn.2 t i j r e
  ·rw [look_ins, if_neg (fun e => hne (by rw [hdst, e]))]
   exact ht
 cases l with
 | nil =>
  simp only [evMid] at he
  split at he
  ·rename_i t p u' hop hgd hdst
   split at he
   ·rename_i i off' r hp hl
    split at he
    ·rename_i cs hcs
     split at he
     ·rename_i hcond
      obtain ⟨rfl, c1, c2, c3, c4, c5⟩ := hcond
      simp only [Option.some.injEq] at he
      subst he
      obtain ⟨gb, arr, e, f, hm, hw, hle, hI', hdo⟩ := late_store hP.inv hp hcs hl c1 c2 c3 c4 c5
      obtain ⟨arr0, ty0, hb0, hf0⟩ := hP.blk
      have hne : b ≠ gb := fun e => hP.nm (e ▸ List.mem_of_getElem? hm)
      obtain ⟨k1, k2, _⟩ := setCells_spec b es off w arr0 ty0 (0, 0) hb0 hf0
      have hwg : w.heap[gb]? = some (.cells arr e f) := by rw [<- k2 gb (Ne.symm hne)]; exact hw
      have hap := setCells_apart hne hb0 hf0 hwg (show off' + [a.tmps.getD u' undef].length <= arr.size by simpa using hle)
      refine ⟨hgd, _, _, _, _, hdo o w arr hop hwg hle, ?_, fun _ => ⟨fun t u r => noTags t u r, fun t i j r => noTagC t i j r⟩, fun t ht _ htu => ?_, fun _ => rfl, fun e => absurd rfl e, fun e => ?_⟩
      ·rw [hdst]
       refine ⟨?_, ?_, hP.nm, hP.su, hP.sn, hP.se⟩
       ·rw [<- hap]
        exact hI'
       ·obtain ⟨_, q2, _⟩ := setCells_spec gb [a.tmps.getD u' undef] off' w arr e f hwg (by simpa using hle)
        exact ⟨arr0, ty0, by rw [q2 b hne]; exact hb0, hf0⟩
      ·rw [look_untag, look_ins, if_neg htu, ht]
       rfl
      ·rw [<- hap, e]
     ·cases he
    ·cases he
   ·cases he
  ·cases he
 | cons q l =>
  simp only [evMid] at he
  split at he
  ·rename_i t x i d hop hgd hdst
   split at he
   ·rename_i b' mm sz hx
    split at he
    ·rename_i hne
     split at he
     ·rename_i v hv
      obtain ⟨y, hy, hvr, hb⟩ := stk_idx hP.inv.core hop hx (show evPure P vars (g, h) (.indexAddr t x i) = some v from hv)
      exact step (by simp) hdst (fun x e => by rw [hop] at e; cases e) hgd hne.1 hne.2.1 hne.2.2 hy hvr hb he
     ·cases he
    ·cases he
   ·cases he
  ·rename_i t x f d hop hgd hdst
   split at he
   ·rename_i b' kk hx
    split at he
    ·rename_i hne
     split at he
     ·rename_i v hv
      obtain ⟨y, hy, hvr, hb⟩ := ptr_field hP.inv.core hop hx (show evPure P vars (g, h) (.fieldAddr t x f) = some v from hv)
      exact step (by simp) hdst (fun x e => by rw [hop] at e; cases e) hgd hne.1 hne.2.1 hne.2.2 hy hvr hb he
     ·cases he
    ·cases he
   ·cases he
  ·rename_i x d hop hgd hdst
   split at he
   ·rename_i b' kk hx
    split at he
    ·rename_i hne
     obtain ⟨y, hy, hvr, hb⟩ := ptr_nil hP.inv.core hop hx
     exact step (by simp) hdst (fun x e => by rw [hop] at e; cases e) hgd hne.1 hne.2.1 hne.2.2 hy hvr hb he
    ·cases he
   ·cases he
  ·cases he
theorem mid_ok {b off u nn ex : Nat} {es : List Value} {yu yn ye : Value} {ops : Array Oper} {Q : Exit -> Act -> World -> Prop} : ∀ (l : List Oper) (m : List Nat) (c : Cl) (w : World) (g : Env) (h : Heap) (a : Act) (s' : St),
  (∀ o ∈ l, (∀ t, o.dst = some t -> t < E.nt) /\ ((∃ x, o.op = .assign x) \/ ∀ t, o.dst = some t -> t ∉ vars)) -> Pend vars E b off es u nn ex yu yn ye m c w g h a -> evMid P E.lo E.base u nn ex l (g, h) = some s' ->
  (∀ m' c' w' a', Pend vars E b off es u nn ex yu yn ye m' c' w' s'.1 s'.2 a' -> Q .normal a' w') -> wpList P ops Q l a w
 | [], m, c, w, g, h, a, s', hO, hP, he, hQ => by simp [evMid] at he
 | o :: l, m, c, w, g, h, a, s', hO, hP, he, hQ => by
  obtain ⟨hgd, y, w', g', h', hdo, hP', _, _, h1, h2, _⟩ := mid1 (hO o (by simp)) hP he
  refine wpList_step fun K hK => ?_
  have hwant : Region.wanted o (yielded ops a.tmps) = true := by simp [Region.wanted, hgd]
  rw [if_pos hwant]
  refine hdo.wp (hK _ _ ?_)
  cases l with
  | nil =>
   have := h1 rfl
   subst this
   exact wpList_nil (hQ m c _ _ hP')
  | cons q l => exact mid_ok (q :: l) m c w' g' h' _ s' (fun o' ho' => hO o' (List.mem_cons_of_mem _ ho')) hP' (h2 (by simp)) hQ
theorem pure1_VP {v : V} {x : Value} (hp : pure1 v = true) (h : VR1 m c w v x) : VP c w v x := by
 cases v with
 | v y =>
  have h' : x = y := h
  subst h'
  exact .v _ (by simpa [pure1] using hp)
 | list k r => exact h
 | _ => simp [pure1] at hp
theorem cellsV_fzs (v : V) : cellsV (fzs v) = (cellsV v).map fz := by
 cases v <;> rfl
theorem eval_put_eq {a : Act} {d : Nat} {y : Value} (h : d < a.tmps.size) : (a.put (some d) y).eval (.tmp d) = y := by
 simp [Act.eval, Act.put, Array.getD, h]
theorem untag_put (u : Nat) (r : List (List V)) (g : Env) : NT (put (some u) (.list .yes r) (Lift.untag g)) := by
 refine ⟨fun t u' r' e => ?_, fun t i j r' e => ?_⟩
 ·rw [show put (some u) (V.list .yes r) (Lift.untag g) = ins u (V.list .yes r) (Lift.untag g) from rfl, look_ins] at e
  split at e
  ·cases e
  ·exact noTags t u' r' e
 ·rw [show put (some u) (V.list .yes r) (Lift.untag g) = ins u (V.list .yes r) (Lift.untag g) from rfl, look_ins] at e
  split at e
  ·cases e
  ·exact noTagC t i j r' e
theorem NT.forget (hn : NT g) (d : Nat) : NT (Lift.ins d .undef g) := by
 refine ⟨fun t u' r' e => ?_, fun t i j r' e => ?_⟩
 ·rw [look_ins] at e
  split at e
  ·cases e
  ·exact hn.1 t u' r' e
 ·rw [look_ins] at e
  split at e
  ·cases e
  ·exact hn.2 t i j r' e
theorem InvP.forget (hI : InvP vars E m c w g h a) {d : Nat} (hn : NT g) : InvP vars E m c w (Lift.ins d .undef g) h a := by
 refine hI.weak (fun t => ?_) (hn.forget d).1 (hn.forget d).2
 rw [look_ins]
 split
 ·exact .inr (.inl rfl)
 ·exact .inl rfl
structure Two (P : Program) (vars : List Nat) (E : Entry) (b off : Nat) (es : List Value) (u nn ex d1 : Nat) (yu yn ye y1 : Value) (mid : List Oper) (s2 : St) (p j : Nat) (a : Act) (w : World) : Prop where
 it : ∃ m c g h, Pend vars E b off es u nn ex yu yn ye m c w g h a /\ NT g /\ look g d1 = .undef /\ (mid.drop j = [] -> (g, h) = s2) /\ (mid.drop j ≠ [] -> evMid P E.lo E.base u nn ex (mid.drop j) (g, h) = some s2)
 one : p = 1 -> a.eval (.tmp d1) = y1
 two : p = 2 -> w.setCells b off es = w
theorem two_run {b off u nn ex d1 k : Nat} {es : List Value} {yu yn ye y1 : Value} {ops : Array Oper} {mid : List Oper} {s2 : St} {o1 o2 : Oper} {Q : Exit -> Act -> World -> Prop} (hk : ops.toList.drop (k + 1) = o1 :: o2 :: mid)
  (hdx : d1 ≠ ex) (hdu : d1 ≠ u) (hdn : d1 ≠ nn) (hdst1 : o1.dst = some d1) (hd2 : o2.dst = none) (hg1 : o1.guard = none) (hg2 : o2.guard = none) (hd1 : d1 < E.nt) (hd1v : d1 ∉ vars) (hmd : ∀ o ∈ mid, o.dst ≠ some d1)
  (hmo : ∀ o ∈ mid, (∀ t, o.dst = some t -> t < E.nt) /\ ((∃ x, o.op = .assign x) \/ ∀ t, o.dst = some t -> t ∉ vars))
  (h1 : ∀ (w : World) (a : Act), a.eval (.tmp u) = yu -> a.eval (.tmp nn) = yn -> Does P w a o1 y1 w) (h2 : ∀ (w : World) (a : Act), a.eval (.tmp d1) = y1 -> a.eval (.tmp ex) = ye -> (∃ arr ty, w.heap[b]? = some (.cells arr ty (0, 0)) /\ off + es.length <= arr.size) -> Does P w a o2 undef (w.setCells b off es))
  (hQ : ∀ m' c' w' a', NT s2.1 -> InvP vars E m' c' w' s2.1 s2.2 a' -> Q .normal a' w') :
  ∀ (f p j : Nat) (listed : Array Bool) (a : Act) (w : World), twoB ops k mid.length f p j listed = true -> p <= 2 -> j <= mid.length -> Two P vars E b off es u nn ex d1 yu yn ye y1 mid s2 p j a w -> wpAny P .any ops Q f listed a w := by
 have hat : ∀ i, ops[k + 1 + i]? = (o1 :: o2 :: mid)[i]? := fun i => by
  rw [<- hk, List.getElem?_drop]
  simp
 intro f
 induction f with
 | zero =>
  intro p j listed a w hb hp hj hT
  simp only [twoB, Bool.and_eq_true, beq_iff_eq, List.isEmpty_iff] at hb
  obtain ⟨⟨rfl, rfl⟩, hr⟩ := hb
  obtain ⟨m, c, g, h, hP, hn, _, he, _⟩ := hT.it
  have := he (by simp)
  subst this
  have hI := hP.inv
  rw [hT.two rfl] at hI
  exact ⟨hr, hQ m c w a hn hI⟩
 | succ f ih =>
  intro p j listed a w hb hp hj hT
  simp only [twoB, Bool.and_eq_true, Bool.or_eq_true, Bool.not_eq_true', List.all_eq_true, decide_eq_true_eq, beq_iff_eq, List.isEmpty_eq_false_iff] at hb
  obtain ⟨⟨⟨hne, hall⟩, hbp⟩, hbj⟩ := hb
  refine ⟨fun e => absurd e hne, fun i hi => ?_⟩
  obtain ⟨m, c, g, h, hP, hn, hu, he0, he1⟩ := hT.it
  rcases hall i hi with ⟨rfl, hp2⟩ | ⟨rfl, hjm⟩
  ·have hb' := hbp.resolve_left (by omega)
   unfold wpOp
   have hp01 : p = 0 \/ p = 1 := by omega
   rcases hp01 with rfl | rfl
   ·rw [show k + 1 + 0 = k + 1 + 0 from rfl, hat 0]
    simp only [List.getElem?_cons_zero]
    rw [if_pos (by simp [Region.wanted, hg1])]
    refine .inl ((h1 w a hP.su hP.sn).wp (ih 1 j _ _ _ hb' (by omega) hj ⟨⟨m, c, g, h, ⟨?_, hP.blk, hP.nm, ?_, ?_, ?_⟩, hn, hu, he0, he1⟩, fun _ => ?_, fun e => by omega⟩))
    ·rw [hdst1]
     refine (hP.inv.put (d := some d1) (v := .undef) (x := y1) (fun t e => by cases e; exact hd1) trivial (TagOK.bare rfl) (.inl fun t e => by cases e; exact hd1v)).weak (fun t => .inl ?_) hn.1 hn.2
     show look g t = look (ins d1 .undef g) t
     rw [look_ins]
     split
     ·rename_i e; rw [e, hu]
     ·rfl
    ·rw [hdst1]; exact (eval_put_ne hdu).trans hP.su
    ·rw [hdst1]; exact (eval_put_ne hdn).trans hP.sn
    ·rw [hdst1]; exact (eval_put_ne hdx).trans hP.se
    ·rw [hdst1]; exact eval_put_eq (by rw [hP.inv.nt]; exact hd1)
   ·rw [hat 1]
    simp only [List.getElem?_cons_succ, List.getElem?_cons_zero]
    rw [if_pos (by simp [Region.wanted, hg2])]
    obtain ⟨arr, ty, hb0, hf0⟩ := hP.blk
    refine .inl ((h2 w a (hT.one rfl) hP.se hP.blk).wp (ih 2 j _ _ _ hb' (by omega) hj ⟨⟨m, c, g, h, ⟨?_, ?_, hP.nm, ?_, ?_, ?_⟩, hn, hu, he0, he1⟩, fun e => by omega, fun _ => setCells_over hb0 hf0 rfl⟩))
    ·rw [setCells_over hb0 hf0 rfl, hd2]
     exact hP.inv
    ·obtain ⟨a1, a2, a3, a4, a5, ar, a6, a7⟩ := setCells_spec b es off w arr ty (0, 0) hb0 hf0
     have hs : ar.size = arr.size := by
      have := congrArg List.length a7
      simp only [List.length_append, List.length_take, List.length_drop, Array.length_toList] at this
      omega
     exact ⟨ar, ty, a6, by omega⟩
    ·rw [hd2]; exact hP.su
    ·rw [hd2]; exact hP.sn
    ·rw [hd2]; exact hP.se
  ·have hb' := hbj.resolve_left (by omega)
   obtain ⟨o, ho⟩ : ∃ o, mid[j]? = some o := ⟨mid[j], List.getElem?_eq_getElem hjm⟩
   have hcut : mid.drop j = o :: mid.drop (j + 1) := by
    rw [List.drop_eq_getElem_cons hjm]
    rw [List.getElem?_eq_getElem hjm] at ho
    cases ho
    rfl
   have hom : o ∈ mid := List.mem_of_getElem? ho
   have hev := he1 (by rw [hcut]; simp)
   rw [hcut] at hev
   obtain ⟨hgd, y, w', g', h', hdo, hP', hn', hu', e0, e1, hsame⟩ := mid1 (hmo o hom) hP hev
   unfold wpOp
   rw [show k + 3 + j = k + 1 + (j + 2) by omega, hat (j + 2)]
   simp only [List.getElem?_cons_succ]
   rw [ho]
   simp only
   rw [if_pos (by simp [Region.wanted, hgd])]
   rw [show k + 1 + (j + 2) = k + 3 + j by omega]
   refine .inl (hdo.wp (ih p (j + 1) _ _ _ hb' hp (by omega) ⟨⟨m, c, g', h', hP', hn' hn, hu' d1 hu (hmd o hom) hdu, e0, e1⟩, fun e => ?_, fun e => hsame (hT.two e)⟩))
   have h3 := hT.one e
   cases hd : o.dst with
   | none => exact h3
   | some t => exact (eval_put_ne (fun e => hmd o hom (by rw [hd, e]))).trans h3
theorem two_ok {cx : Cx} (hX : CxOK cx E) {ops : Array Oper} (hO : OpsOK cx E ops.toList) {mx : Mix} {k n : Nat} {listed : Array Bool} (hI : InvP cx.hint.vars E m c w g h a) (hok : twoOk mx ops k n listed = true) {r : St} (he : evTwo cx.P cx.lo cx.base k ops (g, h) = some r) {Q : Exit -> Act -> World -> Prop} :
  ∃ g2, r.1 = Lift.untag g2 /\ ((∀ m' c' w' a', InvP cx.hint.vars E m' c' w' g2 r.2 a' -> Q .normal a' w') -> wpAny cx.P .any ops Q n listed a w) := by
 simp only [twoOk, Bool.and_eq_true, beq_iff_eq, decide_eq_true_eq, Bool.not_eq_true'] at hok
 obtain ⟨⟨⟨⟨⟨⟨hready, _⟩, _⟩, hsz3⟩, hn⟩, hmd0⟩, hrun⟩ := hok
 unfold evTwo at he
 split at he
 case h_2 => cases he
 rename_i p1 p2 mid hdrop
 have hat : ∀ i, ops[k + 1 + i]? = (p1 :: p2 :: mid)[i]? := fun i => by
  rw [<- hdrop, List.getElem?_drop]
  simp
 have hml : mid.length = ops.size - (k + 3) := by
  have := congrArg List.length hdrop
  simp only [List.length_drop, Array.length_toList, List.length_cons] at this
  omega
 have hmid3 : ops.toList.drop (k + 3) = mid := by
  rw [show k + 3 = (k + 1) + 2 by omega, <- List.drop_drop, hdrop]
  rfl
 have htk : (ops.toList.take (k + 1)).length = k + 1 := by simp; omega
 unfold evLate1 at he
 split at he
 ·rename_i o o1 o2 hok hl'
  simp only [List.cons.injEq, and_true] at hl'
  obtain ⟨rfl, rfl⟩ := hl'
  have hok : ops[k]? = some o := by
   rw [List.getElem?_toArray, List.getElem?_append_left (by omega), List.getElem?_take, if_pos (by omega)] at hok
   simpa using hok
  have hdk : (ops.toList.take (k + 1) ++ mid).toArray.toList.drop (k + 1) = mid := by
   show (ops.toList.take (k + 1) ++ mid).drop (k + 1) = mid
   rw [List.drop_append_of_le_length (by omega), List.drop_eq_nil_of_le (by omega)]
   rfl
  rw [hdk] at he
  split at he
  ·rename_i cl u tt u1 nn d1 t2 d2 ex hop hdst hop1 hdst1 hop2
   split at he
   ·rename_i x y e0 du e hcal hargs htys htt
    split at he
    ·rename_i hcond
     obtain ⟨rfl, rfl, rfl, hdx, hdu, hdn, hun, hux, hg0, hg1, hg2, hd2, hts2, hi2, hie, hks⟩ := hcond
     rw [Option.isNone_iff_eq_none] at hg0 hg1 hg2 hd2
     split at he
     ·rename_i r0 g1 h1' z kk nlen how hrows hnn
      split at he
      ·rename_i hc
       obtain ⟨rfl, hpart, hlen, hpure, hsto, htz, hsz, hall, hby, hlen2, hnot, hbyt⟩ := hc
       split at he
       ·rename_i s2 hmid
        simp only [keeps, lives, Option.some.injEq] at he
        subst he
        refine ⟨_, rfl, fun hQ => ?_⟩
        rw [hX.lo] at how hmid
        rw [hX.base] at hmid
        have hv := hI.core.opd (.tmp ex)
        have hrel0 := cells_rel (v := look g ex) hv hpart
        have hrel1 : R2 (VR1 m c w) (cellsV (fzs (look g ex))) (a.eval (.tmp ex)).cells.toList := by
         rw [cellsV_fzs]
         simpa using hrel0.map (g := id) fun _ _ => VR1.fz
        have hes : (a.eval (.tmp ex)).cells.toList.length = tsize cx.P e := by rw [<- hrel1.1]; exact hlen
        have hone : ∀ y ∈ (a.eval (.tmp ex)).cells.toList, y.oneCell' = true := fun y hy => by
         obtain ⟨j, hj, rfl⟩ := List.getElem_of_mem hy
         have hj' : j < (cellsV (look g ex)).length := by rw [hrel0.1]; exact hj
         exact stoOk_oneCell (hrel0.2 j _ _ (List.getElem?_eq_getElem hj') (List.getElem?_eq_getElem hj)) (List.all_eq_true.1 hsto _ (List.getElem_mem hj'))
        have hoo := hO o (Array.mem_toList_iff.2 (Array.mem_of_getElem? hok))
        have hnv : ∀ t, o.dst = some t -> t ∉ cx.hint.vars := by
         rcases hoo.2 with ⟨x, hx⟩ | h'
         ·rw [hop] at hx; cases hx
         ·exact h'
        obtain ⟨b, cap, wz, c', arr, ty, hdo, hinv, hblk, hsize, hnm⟩ := late_append hI hop hcal hargs htys how hrows ⟨htz, hsz, hall, hby, hlen2, hnot, hbyt⟩ hlen hes (fun j v hj => by
         obtain ⟨x, hx, hvx⟩ := hrel1.get hj
         exact ⟨x, hx, pure1_VP (List.all_eq_true.1 hpure _ (List.mem_of_getElem? hj)) hvx⟩) hoo.1 hnv
        have hua : u1 < a.tmps.size := by rw [hI.nt]; exact hoo.1 u1 hdst
        have hnv0 : a.eval (.tmp nn) = .int kk r0.length := by
         have := hI.core.opd (.tmp nn)
         rw [show opd g (.tmp nn) = look g nn from rfl, hnn] at this
         exact this
        have ho1 := hO p1 (List.mem_of_mem_drop (i := k + 1) (by rw [hdrop]; simp))
        have hd1 : d2 < E.nt := ho1.1 d2 hdst1
        have hd1v : d2 ∉ cx.hint.vars := by
         rcases ho1.2 with ⟨x, hx⟩ | h'
         ·rw [hop1] at hx; cases hx
         ·exact h' d2 hdst1
        have hmd : ∀ o ∈ mid, o.dst ≠ some d2 := by
         have e0 : ops[k + 1]? = some p1 := by rw [show k + 1 = k + 1 + 0 from rfl, hat 0]; rfl
         rw [e0] at hmd0
         simp only [hdst1, List.all_eq_true, bne_iff_ne, hmid3] at hmd0
         exact hmd0
        rw [hn, show ops.size - k = (ops.size - (k + 1)) + 1 by omega]
        refine ⟨fun e0 => (by rw [hready] at e0; cases e0), fun i hi => ?_⟩
        rw [hready] at hi
        have hik : i = k := by simpa using hi
        subst hik
        unfold wpOp
        rw [hok]
        simp only
        rw [if_pos (by simp [Region.wanted, hg0])]
        refine .inl (hdo.wp ?_)
        rw [hdst] at hinv ⊢
        obtain ⟨ie2, hie2⟩ := Option.isSome_iff_exists.1 hi2
        have hsz2 : (a.eval (.tmp ex)).cells.size = ie2.size := by
         have h3 := size_of_info hie2
         have h4 : (a.eval (.tmp ex)).cells.size = (a.eval (.tmp ex)).cells.toList.length := by simp
         rw [h4, hes, <- hts2, h3]
        refine two_run (P := cx.P) (vars := cx.hint.vars) (E := E) (b := b) (off := r0.length * tsize cx.P e) (es := (a.eval (.tmp ex)).cells.toList) (u := u1) (nn := nn) (ex := ex) (d1 := d2) (yu := .slice (some ⟨b, 0, none⟩) (r0.length + 1) cap) (yn := .int kk r0.length) (ye := a.eval (.tmp ex)) (y1 := .pointer (some ⟨b, r0.length * tsize cx.P e, none⟩)) (s2 := s2)
         hdrop hdx hdu hdn hdst1 hd2 hg1 hg2 hd1 hd1v hmd (fun o' ho' => hO o' (List.mem_of_mem_drop (i := i + 3) (by rw [hmid3]; exact ho'))) (fun w a hu hn => .inl (row_addr hop1 htt hie hu hn w)) (fun w0 a0 ha1 ha2 hb => ?_) ?_ _ 0 0 _ _ _ (by rw [hml]; exact hrun) (by omega) (by omega) ⟨⟨m, c', _, h1', ⟨?_, ⟨arr, ty, hblk, by rw [hes]; rw [Nat.add_mul, Nat.one_mul] at hsize; exact hsize⟩, hnm, eval_put_eq hua, (eval_put_ne hun).trans hnv0, eval_put_ne hux⟩, ?_, ?_, fun e0 => ?_, fun _ => hmid⟩, fun e0 => by omega, fun e0 => by omega⟩
        ·obtain ⟨arr2, ty2, hb2, hf2⟩ := hb
         have hrun := run_storeCells_cells (P := cx.P) b (r0.length * tsize cx.P e) (a.eval (.tmp ex)).cells.toList 0 w0 (fun j hj => by
          rw [cell_arr hb2]
          simp only [Option.isSome_iff_exists]
          exact ⟨_, Array.getElem?_eq_getElem (by omega)⟩) (fun j hj => by
          simp [World.frozen?, hb2]) hone
         rw [Nat.add_zero] at hrun
         refine .inr ⟨?_, rfl⟩
         generalize a.eval (.tmp ex) = ye at *
         simp [execOp, hop2, Instr.storeAt, ha1, ha2, Instr.sureAddr, storeVar, sizeOf, typeInfo, hie2, hsz2, hrun]
        ·intro m' c2 w' a' hnt hI2
         exact hQ m' c2 w' a' (hI2.forget hnt)
        ·exact hinv.forget (untag_put _ _ _)
        ·exact (untag_put _ _ _).forget d2
        ·rw [look_ins, if_pos rfl]
        ·rw [show mid.drop 0 = mid from rfl] at e0
         rw [e0] at hmid
         simp [evMid] at hmid
       ·cases he
      ·cases he
     ·cases he
    ·cases he
   ·cases he
  ·cases he
 ·cases he
end
end Go.Lift
end

section
namespace Go.Lift
variable [GTab] [BTy]
section
variable {m : List Nat} {c : Cl} {w : World} {g : Env} {h : Heap} {a : Act} {E : Entry} {cx : Cx}
theorem head_ok (hI : InvP cx.hint.vars E m c w g h a) (hX : CxOK cx E) {o : Oper} {v : V} (he : evHead cx (g, h) o = some v) (hd : ∀ t, o.dst = some t -> t < E.nt)
  (hv : (∃ x, o.op = .assign x) \/ ∀ t, o.dst = some t -> t ∉ cx.hint.vars) : Goes cx E a w o v g h := by
 unfold evHead at he
 split at he
 ·rename_i heff
  generalize hop : o.op = op at he heff
  have hv' : (∀ x, op ≠ .assign x) -> ∀ t, o.dst = some t -> t ∉ cx.hint.vars := fun hne => by
   rcases hv with ⟨x, hx⟩ | hv
   ·rw [hop] at hx; exact absurd hx (hne x)
   ·exact hv
  cases op with
  | call k =>
   simp only at he
   split at he
   ·rename_i f hc
    split at he
    ·rename_i fid caps hf
     unfold sameH at he
     split at he
     ·rename_i r h2 hcall
      split at he
      ·rename_i hsm
       cases he
       exact fun next Q hn => call_quiet hI hop hc hf (hX.call _ _ _ _ _ _ (Nat.le_refl _) hcall) hsm hd (hv' (fun x e => by cases e)) hn
      ·cases he
     ·cases he
    ·cases he
   ·cases he
  | convert s d x =>
   simp only at he
   split at he
   ·cases he
   ·rename_i hnr
    have hr2 : isRow cx.P s d = false := by
     rw [Bool.not_eq_true, Bool.or_eq_false_iff] at hnr; exact hnr.2
    simp only [Option.map_eq_some_iff] at he
    obtain ⟨⟨v', g', h'⟩, hev, rfl⟩ := he
    have hs := is_string (P := cx.P) (by simpa [isEff, hr2] using heff)
    simp only [evEff, hr2, Bool.false_eq_true, if_false] at hev
    have hgh : g' = g /\ h' = h := by
     split at hev
     ·split at hev
      ·simp only [Bool.false_eq_true, if_false, Option.some.injEq, Prod.mk.injEq] at hev
       exact ⟨hev.2.1.symm, hev.2.2.symm⟩
      ·cases hev
     ·simp only [Option.some.injEq, Prod.mk.injEq] at hev
      exact ⟨hev.2.1.symm, hev.2.2.symm⟩
     ·cases hev
    obtain ⟨rfl, rfl⟩ := hgh
    exact (eff_convert (mutc := false) hI hop hs (by simp only [Bool.false_eq_true, if_false]; exact hev) hd (hv' (fun x e => by cases e))).goes
  | buildSlice t n parts =>
   simp only [Option.map_eq_some_iff] at he
   obtain ⟨⟨v', g', h'⟩, hev, rfl⟩ := he
   simp only [evEff] at hev
   split at hev
   ·rename_i e hu
    split at hev
    ·rename_i hc
     simp only [Option.some.injEq, Prod.mk.injEq] at hev
     obtain ⟨rfl, rfl, rfl⟩ := hev
     exact (eff_buildSlice hI hop hu hc hd (hv' (fun x e => by cases e))).goes
    ·cases hev
   ·cases hev
  | _ => cases he
 ·rename_i heff
  have hna : ∀ t, o.dst = some t -> t ∉ cx.hint.vars := by
   rcases hv with ⟨x, hx⟩ | hv
   ·rw [hx] at heff; exact absurd rfl heff
   ·exact hv
  obtain ⟨y, hy, hvr, ht⟩ := pure_ok hI.core he
  intro next Q hn
  exact (show Does cx.P w a o y w from .inl hy).wp (hn y w m c (hI.put hd hvr ht (.inl hna)))
theorem opA_ok (hI : InvP cx.hint.vars E m c w g h a) (hX : CxOK cx E) {ops : Array Oper} (hO : OpsOK cx E ops.toList) {i : Nat} {s1 : St} (he : opA cx ops i (g, h) = some s1) {K : Act -> World -> Prop} {Q : Exit -> Act -> World -> Prop}
  (hK : ∀ m' c' w' a', InvP cx.hint.vars E m' c' w' s1.1 s1.2 a' -> K a' w') : wpOp cx.P ops Q i K a w := by
 unfold opA at he
 unfold wpOp
 split
 ·rename_i hn
  rw [hn] at he
  simp only [Option.some.injEq] at he
  subst he
  exact hK m c w a hI
 ·rename_i o ho
  rw [ho] at he
  simp only at he
  have hoo := hO o (Array.mem_toList_iff.2 (Array.mem_of_getElem? ho))
  split at he
  ·rename_i hw
   split at he
   ·rename_i v hv
    simp only [Option.some.injEq] at he
    subst he
    rw [want_spec hI hw, if_pos rfl]
    exact .inl (head_ok hI hX hv hoo.1 hoo.2 _ Q fun x w' m' c' hI' => hK m' c' w' _ hI')
   ·cases he
  ·rename_i hw
   split at he
   ·cases he
   ·rename_i hna
    simp only [Option.some.injEq] at he
    subst he
    rw [want_spec hI hw, if_neg (by simp)]
    exact hK m c w _ (undef_put hI hoo.1 (not_assign (by simpa using hna) hoo.2))
  ·cases he
theorem any_ok (hX : CxOK cx E) {ops : Array Oper} (hO : OpsOK cx E ops.toList) {md : Region.Mode} {n gg : Nat} {s' : St} {Q : Exit -> Act -> World -> Prop}
  (hL : ∀ listed m c w a, Region.seqB md ops gg n listed = true -> InvP cx.hint.vars E m c w s'.1 s'.2 a -> wpAny cx.P md ops Q gg listed a w) :
  ∀ (f : Nat) (listed : Array Bool) (s : St) (m : List Nat) (c : Cl) (w : World) (a : Act), anyL cx md ops n (fun listed' s2 => Region.seqB md ops gg n listed' = true /\ s2 = s') f listed s -> InvP cx.hint.vars E m c w s.1 s.2 a -> wpAny cx.P md ops Q (f + gg) listed a w
 | 0, listed, s, m, c, w, a, h, hI => by
  obtain ⟨h1, rfl⟩ := h
  rw [Nat.zero_add]
  exact hL listed m c w a h1 hI
 | f + 1, listed, s, m, c, w, a, h, hI => by
  rw [show f + 1 + gg = (f + gg) + 1 by omega]
  refine ⟨fun h0 => absurd h0 h.1, fun i hi => ?_⟩
  obtain ⟨_, s1, h1, h2⟩ := h.2 i hi
  exact opA_ok (g := s.1) (h := s.2) hI hX hO h1 fun m' c' w' a' hI' => any_ok hX hO hL f _ s1 m' c' w' a' h2 hI'
theorem lexFrom_head {md : Region.Mode} {ops : Array Oper} : ∀ (f k : Nat) (listed : Array Bool), Region.lexFrom md ops f k listed = Region.lexHead md ops 0 f k listed
 | 0, k, listed => rfl
 | f + 1, k, listed => by simp only [Region.lexFrom, Region.lexHead, lexFrom_head f (k + 1)]
theorem headInv0 {md : Region.Mode} (ops : Array Oper) (n : Nat) : HeadInv md ops n (Array.replicate ops.size false) :=
 ⟨by simp, fun j oj _ hl => (by rw [getD_replicate_false] at hl; cases hl), fun t _ ht => getD_in (by simpa using ht) (getD_replicate_false _ _)⟩
theorem heads_all (hX : CxOK cx E) (hm : cx.P.follows .mixedOrders = true) {id : Nat} {ops : Array Oper} (hO : OpsOK cx E ops.toList) (hdr : drawOk0 cx.P cx.hint id ops = true) (hI : InvP cx.hint.vars E m c w g h a) {s' : St} (he : evDraw0 cx id ops (g, h) = some s') {Q : Exit -> Act -> World -> Prop}
  (hQ : ∀ m' c' w' a', InvP cx.hint.vars E m' c' w' s'.1 s'.2 a' -> Q .normal a' w') : (Code.region id ops true).wp cx.P Q a w := by
 have hI0 : InvP cx.hint.vars E m c { w with drawn := w.drawn + 1 } g h a := hI.grown (c' := c) none (Nat.le_refl _) (fun b _ _ => ⟨rfl, rfl⟩) (fun b hb => by cases hb) (fun b hb _ h0 => by rw [hI.core.c_zero hb] at h0; omega) rfl rfl rfl
 unfold evDraw0 at he
 split at he
 ·rename_i s1 h1
  refine wp_region_any hm ?_
  unfold drawOk0 at hdr
  split at hdr
  ·-- all of them
   rename_i hn
   rw [hn] at h1 he
   have ht : ops.toList.take ops.size = ops.toList := List.take_of_length_le (by simp)
   have hdp : ops.toList.drop ops.size = [] := List.drop_eq_nil_of_le (by simp)
   rw [ht] at h1
   rw [hdp] at he
   simp only [evOps, Option.some.injEq] at he
   subst he
   simp only [Region.lexB, Bool.and_eq_true] at hdr
   have hany := anyL_lex (cx := cx) (md := .any) (n := ops.size) (gg := 0) (s' := s1) (fun h0 => absurd h0 (Nat.lt_irrefl _)) (Nat.le_refl _) ops.toList 0 _ (g, h) (fun j _ => by simp) (by simp) (headInv0 ops ops.size) (by rw [<- lexFrom_head]; simpa using hdr.2) h1
   have := any_ok (Q := Q) hX hO (fun listed m c w a hs hI' => by
    refine ⟨?_, hQ m c w a hI'⟩
    simpa [Region.seqB] using hs) _ _ (g, h) m c _ a hany hI0
   simpa using this
  ·rename_i hn
   simp only [Region.lexTailB, Bool.and_eq_true, decide_eq_true_eq] at hdr
   obtain ⟨⟨⟨⟨hsel, hlt⟩, hs⟩, hc⟩, hlex⟩ := hdr
   have htl : (ops.toList.take (tailAt cx.P cx.hint id ops)).length = tailAt cx.P cx.hint id ops := by simp; omega
   have hdl : (ops.toList.drop (tailAt cx.P cx.hint id ops)).length = ops.size - tailAt cx.P cx.hint id ops := by simp
   have hany := anyL_lex (cx := cx) (md := .any) (n := tailAt cx.P cx.hint id ops) (gg := ops.size - tailAt cx.P cx.hint id ops) (s' := s1) (fun _ => ⟨hs, hc⟩) (Nat.le_of_lt hlt) (ops.toList.take (tailAt cx.P cx.hint id ops)) 0 _ (g, h)
    (fun j hj => by rw [List.getElem?_take, if_pos (by omega)]; simp) (by rw [Nat.zero_add, htl]) (headInv0 ops _) (by rw [htl]; exact hlex) h1
   have := any_ok (Q := Q) hX hO (fun listed m c w a hsq hI' => by
    have hw := ops_ok hX (ops := ops) (Q := Q) (ops.toList.drop (tailAt cx.P cx.hint id ops)) m c w s1.1 s1.2 a s' (fun o ho => hO o (List.mem_of_mem_drop ho)) hI' he hQ
    have := wpAny_of_seq (md := .any) (ops.toList.drop (tailAt cx.P cx.hint id ops)) (tailAt cx.P cx.hint id ops) listed a w (fun j => by rw [List.getElem?_drop]; simp) (by rw [hdl]; exact hsq) hw
    rw [hdl] at this
    exact this) _ _ (g, h) m c _ a hany hI0
   rw [htl, show tailAt cx.P cx.hint id ops + (ops.size - tailAt cx.P cx.hint id ops) = ops.size by omega] at this
   exact this
 ·cases he
theorem look_lives {l : List Nat} {t : Nat} : look (l.map fun u => (u, look g u)) t = if t ∈ l then look g t else .undef := by
 induction l with
 | nil => rfl
 | cons u l ih =>
  simp only [List.map_cons, look, ih, List.mem_cons]
  by_cases h : u = t
  ·simp [h]
  ·simp [h, Ne.symm h]
theorem InvP.lives {vars : List Nat} (hI : InvP vars E m c w g h a) (l : Option (List Nat)) : InvP vars E m c w (Lift.untag (Lift.lives l g)) h a := by
 cases l with
 | none => exact hI.untag
 | some l =>
  have hlk : ∀ t v, look (Lift.untag (Lift.lives (some l) g)) t = v -> v = .undef \/ v = untag1 (look g t) := fun t v hv => by
   rw [look_untag, Lift.lives, look_lives] at hv
   split at hv
   ·exact .inr hv.symm
   ·exact .inl hv.symm
  have hC := hI.core
  have hAt : ∀ {k r x}, At m w (Lift.untag (Lift.lives (some l) g)) h a k r x -> At m w g h a k r x := fun {k r x} hl => by
   cases k with
   | slot t =>
    rcases hlk t _ hl.1 with h1 | h1
    ·cases h1
    ·exact ⟨untag1_yes.1 h1.symm, hl.2⟩
   | cell i j => exact hl
  refine ⟨⟨hC.wf1, hC.wf2, hC.nd, hC.len, fun t => ?_, hC.ob, fun k r x hl => hC.own k r x (hAt hl), fun k k' r r' x x' b h1 h2 => hC.uniq k k' r r' x x' b (hAt h1) (hAt h2), fun t u r ht => absurd ht (noTags t u r), fun t i j r ht => absurd ht (noTagC t i j r), hC.gt⟩,
   hI.fr, fun k r x b hl hu hb => hI.owned k r x b (hAt hl) hu hb, hI.hlo, hI.hlen, hI.ml, hI.lole, hI.nt, hI.df, hI.old, hI.ent⟩
  rcases hlk t _ rfl with h1 | h1
  ·rw [h1]; trivial
  ·rw [h1]; exact (hC.env t).untag
theorem take_ok (hI : InvP cx.hint.vars E m c w g h a) (hX : CxOK cx E) {o : Oper} {s1 : St} (he : evTake cx (g, h) o = some s1) (hd : ∀ t, o.dst = some t -> t < E.nt)
  (hv : ∀ t, o.dst = some t -> t ∉ cx.hint.vars) {next : Act -> World -> Prop} {Q : Exit -> Act -> World -> Prop}
  (hn : ∀ x w' m' c', InvP cx.hint.vars E m' c' w' s1.1 s1.2 (a.put o.dst x) -> next (a.put o.dst x) w') : o.wp cx.P a w next Q := by
 unfold evTake at he
 split at he
 ·rename_i t ht
  split at he
  ·rename_i v hp
   split at he
   ·rename_i r g1 h1 how
    simp only [Option.some.injEq] at he
    subst he
    obtain ⟨y, hy, hvr, htag⟩ := pure_ok hI.core hp
    have hI1 := hI.put (d := some t) (fun u e => hd u (ht.trans e)) hvr htag (.inl fun u e => hv u (ht.trans e))
    rw [hX.lo] at how
    obtain ⟨hI2, hvp, hob, huq, how2⟩ := owner_spec hI1 how
    have hts : t < a.tmps.size := by rw [hI.nt]; exact hd t ht
    have hev : (a.put (some t) y).eval (.tmp t) = y := by
     simp [Act.eval, Act.put, Array.getD, hts]
    rw [hev] at hvp hob huq how2
    have hI3 := hI2.putOwn (d := some t) (fun u e => hd u (ht.trans e)) hvp hob huq how2 (.inl fun u e => hv u (ht.trans e))
    have hpp : (a.put (some t) y).put (some t) y = a.put o.dst y := by
     rw [ht]
     simp [Act.put]
    rw [hpp] at hI3
    exact (show Does cx.P w a o y w from .inl hy).wp (hn y w m c hI3)
   ·cases he
  ·cases he
 ·cases he
theorem stepT_ok (hI : InvP cx.hint.vars E m c w g h a) (hX : CxOK cx E) {mx : Mix} {ops : Array Oper} (hO : OpsOK cx E ops.toList) {i : Nat} {s1 : St} (he : stepT cx mx ops i (g, h) = some s1) {K : Act -> World -> Prop} {Q : Exit -> Act -> World -> Prop}
  (hK : ∀ m' c' w' a', InvP cx.hint.vars E m' c' w' s1.1 s1.2 a' -> K a' w') : wpOp cx.P ops Q i K a w := by
 have he0 := he
 unfold stepT at he
 split at he
 ·cases he
 ·rename_i o ho
  have hoo := hO o (Array.mem_toList_iff.2 (Array.mem_of_getElem? ho))
  split at he
  ·rename_i hh
   rw [stepT_head ho hh] at he0
   exact opA_ok hI hX hO he0 hK
  ·split at he
   ·split at he
    ·rename_i hgd
     simp only [Bool.and_eq_true, Option.isNone_iff_eq_none, Bool.not_eq_true'] at hgd
     unfold wpOp
     rw [ho]
     simp only
     have hw : Region.wanted o (yielded ops a.tmps) = true := by simp [Region.wanted, hgd.1]
     rw [hw, if_pos rfl]
     refine .inl (take_ok hI hX he hoo.1 ?_ fun x w' m' c' hI' => hK m' c' w' _ hI')
     rcases hoo.2 with ⟨x, hx⟩ | hv
     ·rw [hx] at hgd; exact absurd hgd.2 (by simp [isEff])
     ·exact hv
    ·cases he
   ·unfold wpOp
    rw [ho]
    simp only [evOps] at he
    simp only
    split at he
    ·rename_i hw
     split at he
     ·rename_i v g' h' hop
      simp only [Option.some.injEq] at he
      subst he
      rw [want_spec hI hw, if_pos rfl]
      exact .inl (op_ok hI hX hop hoo.1 hoo.2 _ Q fun x w' m' c' hI' => hK m' c' w' _ hI')
     ·cases he
    ·rename_i hw
     split at he
     ·cases he
     ·rename_i hna
      simp only [Option.some.injEq] at he
      subst he
      rw [want_spec hI hw, if_neg (by simp)]
      exact hK m c w _ (undef_put hI hoo.1 (not_assign (by simpa using hna) hoo.2))
    ·cases he
theorem anyE_ok (hX : CxOK cx E) {mx : Mix} {ops : Array Oper} (hO : OpsOK cx E ops.toList) {K : St -> Prop} {Q : Exit -> Act -> World -> Prop}
  (hQ : ∀ s m c w a, K s -> InvP cx.hint.vars E m c w s.1 s.2 a -> Q .normal a w) :
  ∀ (f : Nat) (listed : Array Bool) (s : St) (m : List Nat) (c : Cl) (w : World) (a : Act), anyE cx mx ops K f listed s -> InvP cx.hint.vars E m c w s.1 s.2 a -> wpAny cx.P .any ops Q f listed a w
 | 0, listed, s, m, c, w, a, h, hI => ⟨h.1, hQ s m c w a h.2 hI⟩
 | f + 1, listed, s, m, c, w, a, h, hI => by
  rcases h with ⟨k, r, he, hK, hok⟩ | h
  ·obtain ⟨g2, hg2, H⟩ := two_ok (g := s.1) (h := s.2) (Q := Q) hX hO hI hok he
   refine H fun m' c' w' a' hI' => hQ r m' c' w' a' hK ?_
   rw [hg2]
   exact hI'.lives none
  refine ⟨fun h0 => absurd h0 h.1, fun i hi => ?_⟩
  obtain ⟨s1, h1, h2⟩ := h.2 i hi
  exact stepT_ok (g := s.1) (h := s.2) hI hX hO h1 fun m' c' w' a' hI' => anyE_ok hX hO hQ f _ s1 m' c' w' a' h2 hI'
theorem obs_ok {h : Heap} {B n : Nat} (hk : ((h.drop B).take n).all (okO (B + n)) = true) {i : Nat} {cs : List V} (hcs : cellsOfOb h i = some cs) (hbi : B <= i) (hin : i < B + n) : ∀ v ∈ cs, okv (B + n) v = true := by
 have hcs0 : h[i]? = some (.cells cs) := by
  unfold cellsOfOb at hcs
  split at hcs
  ·rename_i h0; cases hcs; exact h0
  ·cases hcs
 have hm : Ob.cells cs ∈ (h.drop B).take n := by
  apply List.mem_of_getElem? (i := i - B)
  rw [List.getElem?_take, if_pos (by omega), List.getElem?_drop, show B + (i - B) = i by omega]
  exact hcs0
 have := List.all_eq_true.1 hk _ hm
 exact List.all_eq_true.1 this
theorem untag_fix {g : Env} : ∀ p ∈ Lift.untag g, untag1 p.2 = p.2 := fun p hp => by
 simp only [Lift.untag, List.mem_map] at hp
 obtain ⟨q, _, rfl⟩ := hp
 cases hq : q.2 with
 | list k r => cases k <;> simp [untag1]
 | _ => simp [untag1]
theorem swE_fix {j : Nat} {g : Env} (h : ∀ p ∈ g, untag1 p.2 = p.2) : ∀ p ∈ swE j g, untag1 p.2 = p.2 := fun p hp => by
 simp only [swE, List.mem_map] at hp
 obtain ⟨q, hq, rfl⟩ := hp
 have := h q hq
 cases hv : q.2 with
 | list k r => rw [hv] at this; exact this
 | _ => simp [swr, swv, swf, swc, untag1]
theorem fix_noTag {g : Env} (h : ∀ p ∈ g, untag1 p.2 = p.2) (t : Nat) : untag1 (look g t) = look g t := by
 induction g with
 | nil => rfl
 | cons p g ih =>
  obtain ⟨k, v⟩ := p
  simp only [look]
  split
  ·exact h _ (List.mem_cons_self ..)
  ·exact ih fun p hp => h p (List.mem_cons_of_mem _ hp)
theorem keep1_ok {vars : List Nat} (hI : InvP vars E m c w g h a) (hn : ∀ p ∈ g, untag1 p.2 = p.2) {n : Nat} {s' : St} (he : keep1 E.base n (g, h) = some s') : ∃ m', InvP vars E m' c w s'.1 s'.2 a /\ ∀ p ∈ s'.1, untag1 p.2 = p.2 := by
 unfold keep1 at he
 split at he
 ·rename_i hok
  simp only [Option.some.injEq] at he
  subst he
  simp only [Bool.and_eq_true] at hok
  refine ⟨_, hI.less (Nat.le_add_right _ _) (fun i cs hcs hbi hin => obs_ok hok.2 hcs hbi hin) fun p hp => ?_, hn⟩
  have h2 := List.all_eq_true.1 hok.1 p hp
  exact ⟨h2, hn p hp, fun vs e => by rw [e] at h2; cases h2⟩
 ·cases he
theorem swS_ok {vars : List Nat} (hI : InvP vars E m c w g h a) (hn : ∀ p ∈ g, untag1 p.2 = p.2) {i : Nat} {s' : St} (he : swS E.base i (g, h) = some s') : ∃ m', InvP vars E m' c w s'.1 s'.2 a /\ ∀ p ∈ s'.1, untag1 p.2 = p.2 := by
 unfold swS at he
 split at he
 ·rename_i hlt
  simp only [Option.some.injEq] at he
  subst he
  exact ⟨_, hI.swapS (i := i) hlt (fun t i k r e => by have := fix_noTag hn t; rw [e] at this; simp [untag1] at this), swE_fix hn⟩
 ·cases he
theorem keeps_ok {vars : List Nat} (hI : InvP vars E m c w g h a) (hn : ∀ p ∈ g, untag1 p.2 = p.2) {k : Option Nat} {s' : St} (he : keeps E.base k (g, h) = some s') : ∃ m', InvP vars E m' c w s'.1 s'.2 a /\ ∀ p ∈ s'.1, untag1 p.2 = p.2 := by
 unfold keeps at he
 split at he
 ·simp only [Option.some.injEq] at he
  subst he
  exact ⟨m, hI, hn⟩
 ·rename_i n
  split at he
  ·exact keep1_ok hI hn he
  ·split at he
   ·exact keep1_ok hI hn he
   ·unfold sinkS at he
    split at he
    ·split at he
     ·exact swS_ok hI hn he
     ·simp only [Option.some.injEq] at he
      subst he
      exact ⟨m, hI, hn⟩
    ·simp only [Option.some.injEq] at he
     subst he
     exact ⟨m, hI, hn⟩
theorem swSs_ok {vars : List Nat} : ∀ (l : List Nat) {m : List Nat} {g : Env} {h : Heap} (hI : InvP vars E m c w g h a) (hn : ∀ p ∈ g, untag1 p.2 = p.2) {s' : St} (he : swSs E.base l (g, h) = some s'), ∃ m', InvP vars E m' c w s'.1 s'.2 a /\ ∀ p ∈ s'.1, untag1 p.2 = p.2
 | [], m, g, h, hI, hn, s', he => by
  simp only [swSs, Option.some.injEq] at he
  subst he
  exact ⟨m, hI, hn⟩
 | i :: l, m, g, h, hI, hn, s', he => by
  simp only [swSs] at he
  split at he
  ·rename_i s1 h1
   obtain ⟨m1, hI1, hn1⟩ := swS_ok hI hn h1
   exact swSs_ok l hI1 hn1 he
  ·cases he
theorem leaf_ok {vars : List Nat} (hI : InvP vars E m c w g h a) {live : Option (List Nat)} {k : Option Nat} {sw : List Nat} {s1 : St} (he : leafT E.base live k sw (g, h) = some s1) :
  ∃ m', InvP vars E m' c w s1.1 s1.2 a /\ ∀ t, untag1 (look s1.1 t) = look s1.1 t := by
 have hI1 := hI.lives live
 unfold leafT at he
 split at he
 ·rename_i s2 h2
  obtain ⟨m1, hI2, hn2⟩ := swSs_ok sw hI1 untag_fix h2
  obtain ⟨m2, hI3, hn3⟩ := keeps_ok hI2 hn2 he
  exact ⟨m2, hI3, fun t => fix_noTag hn3 t⟩
 ·cases he
theorem untag_weak {v u : V} (h : WeakV v u) : WeakV (untag1 v) (untag1 u) := by
 rcases h with rfl | rfl | ⟨rfl, b, rfl⟩
 ·exact .inl rfl
 ·exact .inr (.inl rfl)
 ·exact .inr (.inr ⟨rfl, b, rfl⟩)
theorem lives_weak {g g' : Env} (h : ∀ t, WeakV (look g t) (look g' t)) (l : Option (List Nat)) (t : Nat) : WeakV (look (Lift.untag (Lift.lives l g)) t) (look (Lift.untag (Lift.lives l g')) t) := by
 rw [look_untag, look_untag]
 refine untag_weak ?_
 cases l with
 | none => exact h t
 | some l =>
  rw [Lift.lives, look_lives, Lift.lives, look_lives]
  split
  ·exact h t
  ·exact .inl rfl
theorem draw_all (hX : CxOK cx E) (hm : cx.P.follows .mixedOrders = true) {id : Nat} {ops : Array Oper} (hO : OpsOK cx E ops.toList) (hdr : drawOk cx.P cx.hint id ops = true) (hI : InvP cx.hint.vars E m c w g h a) {s' : St} (he : evDraw cx id ops (g, h) = some s') {Q : Exit -> Act -> World -> Prop}
  (hQ : ∀ m' c' w' a', InvP cx.hint.vars E m' c' w' (Lift.untag (Lift.lives (cx.hint.live id) s'.1)) s'.2 a' -> Q .normal a' w') : (Code.region id ops true).wp cx.P Q a w := by
 unfold evDraw at he
 unfold drawOk at hdr
 split at he
 ·rename_i hm0
  rw [hm0] at hdr
  exact heads_all hX hm hO hdr hI he fun m' c' w' a' hI' => hQ m' c' w' a' (hI'.lives _)
 ·rename_i mx hmx
  rw [hmx] at hdr
  simp only [Bool.and_eq_true] at hdr
  have hI0 : InvP cx.hint.vars E m c { w with drawn := w.drawn + 1 } g h a := hI.grown (c' := c) none (Nat.le_refl _) (fun b _ _ => ⟨rfl, rfl⟩) (fun b hb => by cases hb) (fun b hb _ h0 => by rw [hI.core.c_zero hb] at h0; omega) rfl rfl rfl
  refine wp_region_any hm ?_
  refine anyE_ok (mx := mx) hX hO (K := EndsAs cx id s') (fun s m c w a hs hI' => ?_) _ _ (g, h) m c _ a ((tree_any mx.tree ops.size _ (g, h) s' (closed0 ops) he (Weak.refl s')).1 hdr.2) hI0
  obtain ⟨k, s1, h1, hw⟩ := hs
  rw [hX.base] at h1
  obtain ⟨m', hI1, _⟩ := leaf_ok hI' h1
  have hI2 := (hI1.lives (cx.hint.live id)).weak (lives_weak hw.env (cx.hint.live id)) (fun t u r => noTags t u r) (fun t i k r => noTagC t i k r)
  rw [<- hw.heap] at hI2
  exact hQ m' c w a hI2
theorem region_ok (hX : CxOK cx E) (hm : cx.P.follows .mixedOrders = true) {id : Nat} {ops : Array Oper} {draw : Bool} (hO : OpsOK cx E ops.toList) (hdr : draw = true -> drawOk cx.P cx.hint id ops = true) (hI : InvP cx.hint.vars E m c w g h a) {s' : St} (he : evRegion cx id ops draw (g, h) = some s') {Q : Exit -> Act -> World -> Prop}
  (hQ : ∀ m' c' w' a', InvP cx.hint.vars E m' c' w' s'.1 s'.2 a' -> Q .normal a' w') : (Code.region id ops draw).wp cx.P Q a w := by
 unfold evRegion at he
 split at he
 ·rename_i s1 h1
  have hfin : ∀ m' c' w' a', InvP cx.hint.vars E m' c' w' (Lift.untag (Lift.lives (cx.hint.live id) s1.1)) s1.2 a' -> Q .normal a' w' := fun m' c' w' a' hI2 => by
   rw [hX.base] at he
   obtain ⟨m2, hI3, _⟩ := keeps_ok hI2 untag_fix he
   exact hQ _ _ _ _ hI3
  cases draw with
  | false =>
   simp only [Bool.false_eq_true, if_false] at h1
   exact wp_region_list (ops_ok hX ops.toList m c w g h a s1 hO hI h1 fun m' c' w' a' hI' => hfin m' c' w' a' (hI'.lives _))
  | true =>
   simp only [if_true] at h1
   exact draw_all hX hm hO (hdr rfl) hI h1 hfin
 ·cases he
end
end Go.Lift
end

section
namespace Go.Lift
variable [GTab] [BTy]
section
variable {P : Program} {vars : List Nat} {m : List Nat} {c : Cl} {w : World} {g : Env} {h : Heap} {a : Act} {E : Entry}
theorem late_tail {cx : Cx} (hX : CxOK cx E) {id' : Nat} {ops ops' : Array Oper} (hO : OpsOK cx E ops.toList) (hO' : OpsOK cx E ops'.toList) {s1 s2 s' : St} (hI' : InvP cx.hint.vars E m c w s1.1 s1.2 a) {o o1 o2 : Oper} {cl : Call} {u nn d1 ex tt t2 e : Nat} {du : TypeDesc} {x y : Operand} {r : List (List V)} {z : List V} {g1 : Env} {h1 : Heap} {kk : IntKind}
  (hop : o.op = .call cl) (hdst : o.dst = some u) (hop1 : o1.op = .indexAddr tt (.tmp u) (.tmp nn)) (hdst1 : o1.dst = some d1) (hop2 : o2.op = .store t2 (.tmp d1) (.tmp ex)) (hcal : cl.callee = .builtin .append) (hargs : cl.args.toList = [x, y]) (htys : cl.argTypes.toList.map cx.P.underlying = [some (.slice e), some du]) (htt : cx.P.underlying tt = some (.slice e))
  (hdx : d1 ≠ ex) (hun : u ≠ nn) (hux : u ≠ ex) (hg0 : o.guard = none) (hg1 : o1.guard = none) (hg2 : o2.guard = none) (hd2 : o2.dst = none) (hts2 : tsize cx.P t2 = tsize cx.P e) (hi2 : (cx.P.info? t2).isSome) (hie : (cx.P.info? e).isSome)
  (how : owner cx.lo s1 x = some (r, g1, h1)) (hrows : appRows cx.P e (opd s1.1 y) = some [z]) (hnn : look s1.1 nn = .v (.int kk r.length)) (hpart : partOk (look s1.1 ex) = true) (hlen : (cellsV (fzs (look s1.1 ex))).length = tsize cx.P e) (hpure : (cellsV (fzs (look s1.1 ex))).all pure1 = true) (hsto : (cellsV (look s1.1 ex)).all stoOk = true)
  (htz : (tzero cx.P e).map (·.length) = some (tsize cx.P e)) (hsz : 0 < tsize cx.P e) (hall : (r.all fun z => z.length == tsize cx.P e) = true) (hby : (r.length + 1) * cx.P.bytesOf e <= 140737488355328) (hlen2 : r.length + 1 <= 9223372036854775807) (hnot : notInt du = true) (hbyt : byT e r [cellsV (fzs (look s1.1 ex))] = true)
  (hoo : (∀ t, o.dst = some t -> t < E.nt) /\ ((∃ x, o.op = .assign x) \/ ∀ t, o.dst = some t -> t ∉ cx.hint.vars)) (hl' : ops'.toList = [o1, o2]) {mid : List Oper} (hmo : ∀ o ∈ mid, (∀ t, o.dst = some t -> t < E.nt) /\ ((∃ x, o.op = .assign x) \/ ∀ t, o.dst = some t -> t ∉ cx.hint.vars))
  (hmid : evMid cx.P cx.lo cx.base u nn ex mid (ins d1 .undef (ins u (.list .yes (r ++ [cellsV (fzs (look s1.1 ex))])) (untag g1)), h1) = some s2) (he : keeps cx.base (cx.hint.keep id') (untag (lives (cx.hint.live id') (ins d1 .undef s2.1)), s2.2) = some s')
  {Q : Exit -> Act -> World -> Prop} (hQ : ∀ m' c' w' a', InvP cx.hint.vars E m' c' w' s'.1 s'.2 a' -> Q .normal a' w') : wpList cx.P ops (Exit.then (Code.wp cx.P (Code.region id' ops' false) Q) Q) (o :: mid) a w := by
 rw [hX.lo] at how hmid
 rw [hX.base] at hmid he
 have hv := hI'.core.opd (.tmp ex)
 have hrel0 := cells_rel (v := look s1.1 ex) hv hpart
 have hrel1 : R2 (VR1 m c w) (cellsV (fzs (look s1.1 ex))) (a.eval (.tmp ex)).cells.toList := by
  rw [cellsV_fzs]
  simpa using hrel0.map (g := id) fun _ _ => VR1.fz
 have hes : (a.eval (.tmp ex)).cells.toList.length = tsize cx.P e := by rw [<- hrel1.1]; exact hlen
 have hone : ∀ y ∈ (a.eval (.tmp ex)).cells.toList, y.oneCell' = true := fun y hy => by
  obtain ⟨j, hj, rfl⟩ := List.getElem_of_mem hy
  have hj' : j < (cellsV (look s1.1 ex)).length := by rw [hrel0.1]; exact hj
  exact stoOk_oneCell (hrel0.2 j _ _ (List.getElem?_eq_getElem hj') (List.getElem?_eq_getElem hj)) (List.all_eq_true.1 hsto _ (List.getElem_mem hj'))
 have hnv : ∀ t, o.dst = some t -> t ∉ cx.hint.vars := by
  rcases hoo.2 with ⟨x, hx⟩ | h'
  ·rw [hop] at hx; cases hx
  ·exact h'
 obtain ⟨b, cap, wz, c', arr, ty, hdo, hinv, hblk, hsize, hnm⟩ := late_append hI' hop hcal hargs htys how hrows ⟨htz, hsz, hall, hby, hlen2, hnot, hbyt⟩ hlen hes (fun j v hj => by
  obtain ⟨x, hx, hvx⟩ := hrel1.get hj
  exact ⟨x, hx, pure1_VP (List.all_eq_true.1 hpure _ (List.mem_of_getElem? hj)) hvx⟩) hoo.1 hnv
 have hua : u < a.tmps.size := by rw [hI'.nt]; exact hoo.1 u hdst
 have hnv0 : a.eval (.tmp nn) = .int kk r.length := by
  have := hI'.core.opd (.tmp nn)
  rw [show opd s1.1 (.tmp nn) = look s1.1 nn from rfl, hnn] at this
  exact this
 refine wpList_step fun K hK => ?_
 have hwant : Region.wanted o (yielded ops a.tmps) = true := by simp [Region.wanted, hg0]
 rw [if_pos hwant]
 refine hdo.wp (hK _ _ ?_)
 rw [hdst] at hinv ⊢
 have hinv' := hinv.forget (d := d1) (untag_put _ _ _)
 refine mid_ok (E := E) (vars := cx.hint.vars) (yu := .slice (some ⟨b, 0, none⟩) (r.length + 1) cap) (yn := .int kk r.length) (ye := a.eval (.tmp ex)) mid m c' wz _ h1 _ s2 hmo ⟨hinv', ⟨arr, ty, hblk, by rw [hes]; rw [Nat.add_mul, Nat.one_mul] at hsize; exact hsize⟩, hnm, eval_put_eq hua, (eval_put_ne hun).trans hnv0, eval_put_ne hux⟩ hmid fun m2 c2 w2 a2 hP => ?_
 show (Code.region id' ops' false).wp cx.P Q a2 w2
 refine wp_region_list ?_
 rw [hl']
 have ho1 := hO' o1 (by rw [hl']; simp)
 have hd1 : d1 < E.nt := ho1.1 d1 hdst1
 have hd1v : d1 ∉ cx.hint.vars := by
  rcases ho1.2 with ⟨x, hx⟩ | h'
  ·rw [hop1] at hx; cases hx
  ·exact h' d1 hdst1
 refine wpList_step fun K hK => ?_
 have hwant1 : Region.wanted o1 (yielded ops' a2.tmps) = true := by simp [Region.wanted, hg1]
 rw [if_pos hwant1]
 have hy1 := row_addr (P := cx.P) hop1 htt hie hP.su hP.sn w2
 refine (show Does cx.P w2 a2 o1 _ w2 from .inl hy1).wp (hK _ _ ?_)
 rw [hdst1]
 refine wpList_step fun K hK => ?_
 have hwant2 : Region.wanted o2 (yielded ops' (a2.put (some d1) (.pointer (some ⟨b, r.length * tsize cx.P e, none⟩))).tmps) = true := by simp [Region.wanted, hg2]
 rw [if_pos hwant2]
 obtain ⟨arr2, ty2, hb2, hf2⟩ := hP.blk
 have ha2 : d1 < a2.tmps.size := by rw [hP.inv.nt]; exact hd1
 obtain ⟨ie2, hie2⟩ := Option.isSome_iff_exists.1 hi2
 have hrun := run_storeCells_cells (P := cx.P) b (r.length * tsize cx.P e) (a.eval (.tmp ex)).cells.toList 0 w2 (fun j hj => by
  rw [cell_arr hb2]
  simp only [Option.isSome_iff_exists]
  exact ⟨_, Array.getElem?_eq_getElem (by omega)⟩) (fun j hj => by
  simp [World.frozen?, hb2]) hone
 rw [Nat.add_zero] at hrun
 have hpv : (a2.put (some d1) (.pointer (some ⟨b, r.length * tsize cx.P e, none⟩))).eval (.tmp d1) = .pointer (some ⟨b, r.length * tsize cx.P e, none⟩) := eval_put_eq ha2
 have hxv : (a2.put (some d1) (.pointer (some ⟨b, r.length * tsize cx.P e, none⟩))).eval (.tmp ex) = a.eval (.tmp ex) := (eval_put_ne hdx).trans hP.se
 have hsz2 : (a.eval (.tmp ex)).cells.size = ie2.size := by
  have h3 := size_of_info hie2
  have h4 : (a.eval (.tmp ex)).cells.size = (a.eval (.tmp ex)).cells.toList.length := by simp
  rw [h4, hes, <- hts2, h3]
 have hdo2 : Does cx.P w2 (a2.put (some d1) (.pointer (some ⟨b, r.length * tsize cx.P e, none⟩))) o2 undef (w2.setCells b (r.length * tsize cx.P e) (a.eval (.tmp ex)).cells.toList) := by
  refine .inr ⟨?_, rfl⟩
  generalize a.eval (.tmp ex) = ye at *
  simp [execOp, hop2, Instr.storeAt, hpv, hxv, Instr.sureAddr, storeVar, sizeOf, typeInfo, hie2, hsz2, hrun]
 refine hdo2.wp (hK _ _ (wpList_nil ?_))
 rw [hd2]
 have hI3 := hP.inv.put (d := some d1) (v := .undef) (x := .pointer (some ⟨b, r.length * tsize cx.P e, none⟩)) (fun t e => by cases e; exact hd1) trivial (TagOK.bare rfl) (.inl fun t e => by cases e; exact hd1v)
 obtain ⟨m4, hI4, _⟩ := keeps_ok (hI3.lives (cx.hint.live id')) untag_fix he
 exact hQ m4 c2 _ _ hI4
theorem late_ok {cx : Cx} (hX : CxOK cx E) (hm : cx.P.follows .mixedOrders = true) {id id' : Nat} {ops ops' : Array Oper} (hO : OpsOK cx E ops.toList) (hO' : OpsOK cx E ops'.toList) (hdr : drawOk0 cx.P cx.hint id ops = true) (hI : InvP cx.hint.vars E m c w g h a) {s' : St}
  (he : evLate cx (tailAt cx.P cx.hint id ops) ops id' ops' (g, h) = some s') {Q : Exit -> Act -> World -> Prop} (hQ : ∀ m' c' w' a', InvP cx.hint.vars E m' c' w' s'.1 s'.2 a' -> Q .normal a' w') :
  ((Code.region id ops true).seq (.region id' ops' false)).wp cx.P Q a w := by
 have hI0 : InvP cx.hint.vars E m c { w with drawn := w.drawn + 1 } g h a := hI.grown (c' := c) none (Nat.le_refl _) (fun b _ _ => ⟨rfl, rfl⟩) (fun b hb => by cases hb) (fun b hb _ h0 => by rw [hI.core.c_zero hb] at h0; omega) rfl rfl rfl
 unfold evLate at he
 split at he
 case h_2 => cases he
 rename_i s1 h1
 unfold evLate1 at he
 split at he
 ·rename_i o o1 o2 hok hl'
  split at he
  ·rename_i cl u tt u1 nn d1 t2 d2 ex hop hdst hop1 hdst1 hop2
   split at he
   ·rename_i x y e du e' hcal hargs htys htt
    split at he
    ·rename_i hcond
     obtain ⟨rfl, rfl, rfl, hdx, hdu, hdn, hun, hux, hg0, hg1, hg2, hd2, hts2, hi2, hie, hks⟩ := hcond
     rw [Option.isNone_iff_eq_none] at hg0 hg1 hg2 hd2
     ·split at he
      ·rename_i r g1 h1' z kk n how hrows hnn
       split at he
       ·rename_i hc
        obtain ⟨rfl, hpart, hlen, hpure, hsto, htz, hsz, hall, hby, hlen2, hnot, hbyt⟩ := hc
        split at he
        ·rename_i s2 hmid
         refine wp_seq (wp_region_any hm ?_)
         unfold drawOk0 at hdr
         split at hdr
         ·rename_i hn; omega
         ·rename_i hn
          simp only [Region.lexTailB, Bool.and_eq_true, decide_eq_true_eq] at hdr
          obtain ⟨⟨⟨⟨hsel, hlt⟩, hs⟩, hcc⟩, hlex⟩ := hdr
          have htl : (ops.toList.take (tailAt cx.P cx.hint id ops)).length = tailAt cx.P cx.hint id ops := by simp; omega
          have hdl : (ops.toList.drop (tailAt cx.P cx.hint id ops)).length = ops.size - tailAt cx.P cx.hint id ops := by simp
          have hany := anyL_lex (cx := cx) (md := .any) (n := tailAt cx.P cx.hint id ops) (gg := ops.size - tailAt cx.P cx.hint id ops) (s' := s1) (fun _ => ⟨hs, hcc⟩) (Nat.le_of_lt hlt) (ops.toList.take (tailAt cx.P cx.hint id ops)) 0 _ (g, h)
           (fun j hj => by rw [List.getElem?_take, if_pos (by omega)]; simp) (by rw [Nat.zero_add, htl]) (headInv0 ops _) (by rw [htl]; exact hlex) h1
          have hcut : ops.toList.drop (tailAt cx.P cx.hint id ops) = o :: ops.toList.drop (tailAt cx.P cx.hint id ops + 1) := by
           have : ops.toList[tailAt cx.P cx.hint id ops]? = some o := by simpa using hok
           exact List.drop_eq_getElem?_toList_append.trans (by rw [this]; rfl)
          have := any_ok hX hO (fun listed m c w a hsq hI' => by
           have hw : wpList cx.P ops (Exit.then (Code.wp cx.P (Code.region id' ops' false) Q) Q) (ops.toList.drop (tailAt cx.P cx.hint id ops)) a w := by
            rw [hcut]
            have hoo := hO o (by rw [<- List.take_append_drop (tailAt cx.P cx.hint id ops) ops.toList, hcut]; simp)
            exact late_tail hX hO hO' hI' hop hdst hop1 hdst1 hop2 hcal hargs htys htt hdx hun hux hg0 hg1 hg2 hd2 hts2 hi2 hie how hrows hnn hpart hlen hpure hsto htz hsz hall hby hlen2 hnot hbyt hoo hl' (fun o' ho' => hO o' (List.mem_of_mem_drop ho')) hmid he hQ
           have := wpAny_of_seq (md := .any) (ops.toList.drop (tailAt cx.P cx.hint id ops)) (tailAt cx.P cx.hint id ops) listed a w (fun j => by rw [List.getElem?_drop]; simp) (by rw [hdl]; exact hsq) hw
           rw [hdl] at this
           exact this) _ _ (g, h) m c _ a hany hI0
          rw [htl, show tailAt cx.P cx.hint id ops + (ops.size - tailAt cx.P cx.hint id ops) = ops.size by omega] at this
          exact this
        ·cases he
       ·cases he
      ·cases he
    ·cases he
   ·cases he
  ·cases he
 ·cases he
end
end Go.Lift
end

section
namespace Go.Lift
variable [GTab] [BTy]
def Ex.to : Ex -> Exit
 | .normal => .normal
 | .exit id => .exit id
 | .ret => .ret
section
variable {m : List Nat} {c : Cl} {w : World} {g : Env} {h : Heap} {a : Act} {E : Entry} {cx : Cx}
theorem opsOK_of {hint : Hint} {nt : Nat} {l : List Oper} (hl : l.all (dstOk hint nt) = true) : ∀ o ∈ l, (∀ t, o.dst = some t -> t < nt) /\ ((∃ x, o.op = .assign x) \/ ∀ t, o.dst = some t -> t ∉ hint.vars) := fun o ho => by
 have := List.all_eq_true.1 hl o ho
 unfold dstOk at this
 cases hd : o.dst with
 | none => exact ⟨fun t e => (by cases e), .inr fun t e => (by cases e)⟩
 | some t =>
  rw [hd] at this
  simp only [Bool.and_eq_true, decide_eq_true_eq, Bool.or_eq_true] at this
  refine ⟨fun u e => by cases e; exact this.1, ?_⟩
  rcases this.2 with h1 | h1
  ·refine .inl ?_
   unfold isAssign at h1
   split at h1
   ·exact ⟨_, by assumption⟩
   ·cases h1
  ·refine .inr fun u e => ?_
   cases e
   simpa using h1
theorem sameX_some {x y : Option (Ex × St)} {r : Ex × St} (h : sameX x y = some r) : x = some r /\ y = some r := by
 unfold sameX at h
 split at h
 ·rename_i e
  subst e
  exact ⟨h, h⟩
 ·cases h
theorem sameX_of {r : Ex × St} : sameX (some r) (some r) = some r := by simp [sameX]
theorem lateOf_spec {P : Program} {hint : Hint} {a : Code} {k id' : Nat} {ops ops' : Array Oper} (h : lateOf P hint a = some (k, ops, id', ops')) : ∃ id, a = .seq (.region id ops true) (.region id' ops' false) /\ k = tailAt P hint id ops /\ hint.mix id = none := by
 unfold lateOf at h
 split at h
 ·rename_i id ops0 id0 ops0'
  split at h
  ·rename_i x hl hm
   simp only [Option.some.injEq, Prod.mk.injEq] at h
   obtain ⟨rfl, rfl, rfl, rfl⟩ := h
   exact ⟨id, rfl, rfl, hm⟩
  ·cases h
 ·cases h
theorem code_ok (hX : CxOK cx E) (hm : cx.P.follows .mixedOrders = true) (k : Nat) : ∀ (b : Code) (m : List Nat) (c : Cl) (w : World) (g : Env) (h : Heap) (a : Act) (e : Ex) (s' : St) (Q : Exit -> Act -> World -> Prop), codeOk cx.P cx.hint E.nt b = true -> InvP cx.hint.vars E m c w g h a ->
  evCode cx (loopN k) b (g, h) = some (e, s') -> (∀ m' c' w' a', InvP cx.hint.vars E m' c' w' s'.1 s'.2 a' -> Q e.to a' w') -> b.wp cx.P Q a w := by
 intro b
 induction b with
 | skip =>
  intro m c w g h a e s' Q _ hI he hQ
  simp only [evCode, Option.some.injEq, Prod.mk.injEq] at he
  obtain ⟨rfl, rfl⟩ := he
  exact wp_skip (hQ m c w a hI)
 | region id ops draw =>
  intro m c w g h a e s' Q hok hI he hQ
  simp only [evCode, Option.map_eq_some_iff, Prod.mk.injEq] at he
  obtain ⟨s1, h1, rfl, rfl⟩ := he
  simp only [codeOk, Bool.and_eq_true, Bool.or_eq_true] at hok
  exact region_ok hX hm (opsOK_of hok.1) (fun hd => by
    subst hd
    rcases hok.2 with h2 | h2
    ·cases h2
    ·exact h2) hI h1 hQ
 | seq x y ihx ihy =>
  intro m c w g h a e s' Q hok hI he hQ
  simp only [codeOk, Bool.and_eq_true] at hok
  simp only [evCode] at he
  refine wp_seq ?_
  split at he
  ·rename_i s1 h1
   exact ihx m c w g h a .normal s1 _ hok.1 hI h1 fun m' c' w' a' hI' => ihy m' c' w' s1.1 s1.2 a' e s' Q hok.2 hI' he hQ
  ·rename_i hne
   cases hr : evCode cx (loopN k) x (g, h) with
   | none => rw [hr] at he; cases he
   | some p =>
    obtain ⟨e1, s1⟩ := p
    rw [hr] at he
    simp only [Option.some.injEq, Prod.mk.injEq] at he
    obtain ⟨rfl, rfl⟩ := he
    refine ihx m c w g h a e1 s1 _ hok.1 hI hr fun m' c' w' a' hI' => ?_
    cases e1 with
    | normal => exact absurd hr (hne s1)
    | exit id => exact hQ m' c' w' a' hI'
    | ret => exact hQ m' c' w' a' hI'
 | cond x p q ihp ihq =>
  intro m c w g h a e s' Q hok hI he hQ
  simp only [codeOk, Bool.and_eq_true] at hok
  simp only [evCode] at he
  split at he
  ·rename_i t ht
   have hv := hI.core.opd x
   rw [ht] at hv
   have hv' : a.eval x = .bool t := hv
   cases t with
   | true => simp only [if_true] at he; exact wp_cond_true hv' (ihp m c w g h a e s' Q hok.1 hI he hQ)
   | false => simp only [Bool.false_eq_true, if_false] at he; exact wp_cond_false hv' (ihq m c w g h a e s' Q hok.2 hI he hQ)
  ·rename_i ht
   have hv := hI.core.opd x
   rw [ht] at hv
   obtain ⟨t, hv'⟩ := hv
   obtain ⟨he1, he2⟩ := sameX_some he
   cases t with
   | true =>
    refine wp_cond_true hv' ?_
    split at he1
    ·rename_i k ops id' ops' hla
     rw [Option.map_eq_some_iff] at he1
     obtain ⟨s1, hs1, hs2⟩ := he1
     simp only [Prod.mk.injEq] at hs2
     obtain ⟨rfl, rfl⟩ := hs2
     obtain ⟨id, rfl, rfl, hmx⟩ := lateOf_spec hla
     have hok1 := hok.1
     simp only [codeOk, Bool.and_eq_true, Bool.or_eq_true] at hok1
     have hdr : drawOk0 cx.P cx.hint id ops = true := by
      have := hok1.1.2
      unfold drawOk at this
      rw [hmx] at this
      simpa using this
     exact late_ok hX hm (opsOK_of hok1.1.1) (opsOK_of hok1.2.1) hdr hI hs1 hQ
    ·exact ihp m c w g h a e s' Q hok.1 hI he1 hQ
   | false => exact wp_cond_false hv' (ihq m c w g h a e s' Q hok.2 hI he2 hQ)
  ·cases he
 | block id p ih =>
  intro m c w g h a e s' Q hok hI he hQ
  simp only [codeOk] at hok
  simp only [evCode] at he
  refine wp_block ?_
  split at he
  ·rename_i j s1 h1
   refine ih m c w g h a (.exit j) s1 _ hok hI h1 fun m' c' w' a' hI' => ?_
   simp only [Ex.to, Exit.inBlock]
   split at he
   ·rename_i hj
    simp only [Option.some.injEq, Prod.mk.injEq] at he
    obtain ⟨rfl, rfl⟩ := he
    rw [if_pos hj]
    exact hQ m' c' w' a' hI'
   ·rename_i hj
    simp only [Option.some.injEq, Prod.mk.injEq] at he
    obtain ⟨rfl, rfl⟩ := he
    rw [if_neg hj]
    exact hQ m' c' w' a' hI'
  ·rename_i hne
   refine ih m c w g h a e s' _ hok hI he fun m' c' w' a' hI' => ?_
   cases e with
   | normal => exact hQ m' c' w' a' hI'
   | exit j => exact absurd he (hne j s')
   | ret => exact hQ m' c' w' a' hI'
 | loop p ih =>
  intro m c w g h a e s' Q hok hI he hQ
  simp only [codeOk] at hok
  simp only [evCode] at he
  refine wp_loop_rounds k ?_
  clear hX
  have key : ∀ (n : Nat) (m : List Nat) (c : Cl) (w : World) (s : St) (a : Act), InvP cx.hint.vars E m c w s.1 s.2 a -> loopN n (evCode cx (loopN k) p) s = some (e, s') -> Code.rounds cx.P p Q n a w := by
   intro n
   induction n with
   | zero => intro m c w s a _ h0; cases h0
   | succ n ihn =>
    intro m c w s a hI h0
    rw [rounds_succ]
    simp only [loopN] at h0
    split at h0
    ·rename_i s1 h1
     exact ih m c w s.1 s.2 a .normal s1 _ hok hI h1 fun m' c' w' a' hI' => ihn m' c' w' s1 a' hI' h0
    ·rename_i hne
     refine ih m c w s.1 s.2 a e s' _ hok hI h0 fun m' c' w' a' hI' => ?_
     cases e with
     | normal => exact absurd h0 (hne s')
     | exit id => exact hQ m' c' w' a' hI'
     | ret => exact hQ m' c' w' a' hI'
  exact key k m c w (g, h) a hI he
 | rangeFunc f ps x y _ _ =>
  intro m c w g h a e s' Q _ _ he _
  cases he
 | exit id =>
  intro m c w g h a e s' Q _ hI he hQ
  simp only [evCode, Option.some.injEq, Prod.mk.injEq] at he
  obtain ⟨rfl, rfl⟩ := he
  exact wp_exit (hQ m c w a hI)
 | scope p ih =>
  intro m c w g h a e s' Q hok hI he hQ
  simp only [codeOk] at hok
  simp only [evCode] at he
  refine wp_scope_straight (ih m c w g h a e s' _ hok hI he fun m' c' w' a' hI' => ?_)
  cases e <;> exact hQ m' c' w' a' hI'
 | label l =>
  intro m c w g h a e s' Q _ hI he hQ
  simp only [evCode, Option.some.injEq, Prod.mk.injEq] at he
  obtain ⟨rfl, rfl⟩ := he
  exact wp_label (hQ m c w a hI)
 | goto l =>
  intro m c w g h a e s' Q _ _ he _
  cases he
 | ret =>
  intro m c w g h a e s' Q _ hI he hQ
  simp only [evCode, Option.some.injEq, Prod.mk.injEq] at he
  obtain ⟨rfl, rfl⟩ := he
  exact wp_ret (hQ m c w a hI)
 | refuse s =>
  intro m c w g h a e s' Q _ _ he _
  cases he
theorem join_le {x y x' y' : Option St} {r : St} (hx : ∀ r, x = some r -> x' = some r) (hy : ∀ r, y = some r -> y' = some r) (h : joinS x y = some r) : joinS x' y' = some r := by
 obtain ⟨s1, s2, rfl, rfl, _, _⟩ := joinS_weak h
 rw [hx s1 rfl, hy s2 rfl]
 exact h
end
end Go.Lift
end

section
namespace Go.Lift
variable [GTab] [BTy]
section
variable {vars : List Nat} {P : Program} {m : List Nat} {c : Cl} {w : World} {g : Env} {h : Heap} {a : Act} {E : Entry}
theorem VRr.noTup {v : V} {x : Value} (hv : VRr m c w v x) (hn : ∀ vs, v ≠ .tup vs) : VR m c w v x := by
 cases v with
 | tup vs => exact absurd rfl (hn vs)
 | _ => exact hv
theorem bare_fzs {v : V} : bare (fzs v) = true := by cases v <;> rfl
def resF (tmps : Array Value) : ResultVar -> Sem Value
 | .tmp t => pure (tmps.getD t undef)
 | .cell b t => do loadVar t (<- asAddr (tmps.getD b undef))
theorem results_eq (fn : Func) (tmps : Array Value) : results fn tmps = (do
  let vs <- fn.results.mapM (resF tmps)
  pure (if h : vs.size = 1 then vs[0] else .tuple vs)) := by
 unfold results
 have : (fun (x : ResultVar) => (match x with | .tmp t => pure (tmps.getD t undef) | .cell a t => do loadVar t (<- asAddr (tmps.getD a undef)) : Sem Value)) = resF tmps := by
  funext r
  cases r <;> rfl
 rw [<- this]
 rfl
theorem res_one (hI : InvP vars E m c w g h a) {r : ResultVar} {v : V} (hr : evRes P (g, h) r = some v) :
  ∃ x, (resF a.tmps r).run P w = .ok x w /\ VR m c w v x /\ bare v = true := by
 cases r with
 | tmp t =>
  simp only [evRes] at hr
  split at hr
  ·cases hr
  ·rename_i hn
   simp only [Option.some.injEq] at hr
   subst hr
   exact ⟨a.tmps.getD t undef, rfl, ((hI.core.env t).noTup hn).fzs, bare_fzs⟩
 | cell b t =>
  simp only [evRes] at hr
  split at hr
  ·rename_i i o hl
   simp only [Option.map_eq_some_iff] at hr
   obtain ⟨u, hu, rfl⟩ := hr
   have he := hI.core.env b
   rw [hl] at he
   obtain ⟨z, hz, hv, _⟩ := loadV_ok (P := P) hI.core he hu
   obtain ⟨gb, hg, hy⟩ := he
   refine ⟨z, ?_, hv.fzs, bare_fzs⟩
   rw [hy] at hz
   simp only [resF, hy]
   simpa [Instr.loadAt, Instr.sureAddr, asAddr] using hz
  ·cases hr
theorem res_list (hI : InvP vars E m c w g h a) : ∀ (rs : List ResultVar) (vs : List V), evResults P (g, h) rs = some vs ->
  ∃ xs : List Value, (rs.mapM (resF a.tmps)).run P w = .ok xs w /\ R2 (VR m c w) vs xs /\ ∀ v ∈ vs, bare v = true
 | [], vs, hr => by
  simp only [evResults, Option.some.injEq] at hr
  subst hr
  exact ⟨[], rfl, R2.nil, fun v hv => by cases hv⟩
 | r :: rs, vs, hr => by
  simp only [evResults] at hr
  split at hr
  ·rename_i x xs h1 h2
   simp only [Option.some.injEq] at hr
   subst hr
   obtain ⟨y, hy, hv, hb⟩ := res_one hI h1
   obtain ⟨ys, hys, hvs, hbs⟩ := res_list hI rs xs h2
   refine ⟨y :: ys, ?_, R2.cons hv hvs, fun v hv => ?_⟩
   ·rw [List.mapM_cons]
    simp only [Sem.run_bind, hy, Result.andThen_ok, hys]
    rfl
   ·rcases List.mem_cons.1 hv with rfl | hv
    ·exact hb
    ·exact hbs v hv
  ·cases hr
theorem res_listR (hI : InvP vars E m c w g h a) : ∀ (rs : List ResultVar) (vs : List V), evResultsR P (g, h) rs = some vs ->
  ∃ xs : List Value, (rs.mapM (resF a.tmps)).run P w = .ok xs w /\ R2 (VR m c w) vs xs /\ ∀ v ∈ vs, bare v = true
 | [], vs, hr => by
  simp only [evResultsR, Option.some.injEq] at hr
  subst hr
  exact ⟨[], rfl, R2.nil, fun v hv => by cases hv⟩
 | r :: rs, vs, hr => by
  simp only [evResultsR] at hr
  split at hr
  ·rename_i x xs h1 h2
   simp only [Option.some.injEq] at hr
   subst hr
   obtain ⟨y, hy, hv, hb⟩ : ∃ y, (resF a.tmps r).run P w = .ok y w /\ VR m c w x y /\ bare x = true := by
    cases r with
    | tmp t =>
     simp only [evResR] at h1
     split at h1
     ·cases h1
     ·rename_i hn
      simp only [Option.some.injEq] at h1
      subst h1
      exact ⟨a.tmps.getD t undef, rfl, ((hI.core.env t).noTup hn).cps, bare_cps _⟩
    | cell b t =>
     simp only [evResR] at h1
     split at h1
     ·rename_i i o hl
      split at h1
      ·rename_i htt
       have he := hI.core.env b
       rw [hl] at he
       obtain ⟨z, hz, hv, _⟩ := loadV_ok (P := P) hI.core he h1
       have hx : ∃ cs, x = .agg cs := by
        simp only [loadV] at h1
        split at h1
        ·rw [htt] at h1
         simp only [takeCells, htt] at h1
         split at h1
         ·cases h1; exact ⟨_, rfl⟩
         ·cases h1
        ·cases h1
       obtain ⟨cs, rfl⟩ := hx
       obtain ⟨gb, hg, hy⟩ := he
       refine ⟨z, ?_, hv, rfl⟩
       rw [hy] at hz
       simp only [resF, hy]
       simpa [Instr.loadAt, Instr.sureAddr, asAddr] using hz
      ·cases h1
     ·cases h1
   obtain ⟨ys, hys, hvs, hbs⟩ := res_listR hI rs xs h2
   refine ⟨y :: ys, ?_, R2.cons hv hvs, fun v hv => ?_⟩
   ·rw [List.mapM_cons]
    simp only [Sem.run_bind, hy, Result.andThen_ok, hys]
    rfl
   ·rcases List.mem_cons.1 hv with rfl | hv
    ·exact hb
    ·exact hbs v hv
  ·cases hr
theorem results_ok (hI : InvP vars E m c w g h a) {fn : Func} {vs : List V} {rr : Bool} (hr : (if rr then evResultsR P (g, h) fn.results.toList else evResults P (g, h) fn.results.toList) = some vs) :
  ∃ x, (results fn a.tmps).run P w = .ok x w /\ VRr m c w (resV vs) x /\ bare (resV vs) = true := by
 obtain ⟨xs, hxs, hv, hb⟩ : ∃ xs : List Value, (fn.results.toList.mapM (resF a.tmps)).run P w = .ok xs w /\ R2 (VR m c w) vs xs /\ ∀ v ∈ vs, bare v = true := by
  cases rr with
  | true => simp only [if_true] at hr; exact res_listR hI _ _ hr
  | false => simp only [Bool.false_eq_true, if_false] at hr; exact res_list hI _ _ hr
 have hrun : (results fn a.tmps).run P w = .ok (if h : xs.toArray.size = 1 then xs.toArray[0] else .tuple xs.toArray) w := by
  rw [results_eq, <- Array.toArray_toList (xs := fn.results), List.mapM_toArray]
  simp only [Sem.run_bind, Sem.run_map, hxs, Result.andThen_ok]
  rfl
 match vs, xs, hv, hb, hrun with
 | [], [], _, _, hrun => exact ⟨_, hrun, ⟨#[], rfl, R2.nil⟩, rfl⟩
 | [v], [x], hv, hb, hrun => exact ⟨x, by simpa using hrun, hv.head.r, hb v (by simp)⟩
 | u :: v :: vs, x :: y :: xs, hv, _, hrun => exact ⟨.tuple (x :: y :: xs).toArray, by simpa using hrun, ⟨_, rfl, by simpa using hv⟩, rfl⟩
 | [], _ :: _, hv, _, _ => simp [R2] at hv
 | [_], [], hv, _, _ => simp [R2] at hv
 | [_], _ :: _ :: _, hv, _, _ => simp [R2] at hv
 | _ :: _ :: _, [], hv, _, _ => simp [R2] at hv
 | _ :: _ :: _, [_], hv, _, _ => simp [R2] at hv
theorem res_bare {s : St} : ∀ (rs : List ResultVar) (vs : List V), evResults P s rs = some vs -> ∀ v ∈ vs, bare v = true
 | [], vs, hr => by
  simp only [evResults, Option.some.injEq] at hr
  subst hr
  exact fun v hv => by cases hv
 | r :: rs, vs, hr => by
  simp only [evResults] at hr
  split at hr
  ·rename_i x xs h1 h2
   simp only [Option.some.injEq] at hr
   subst hr
   have hx : bare x = true := by
    unfold evRes at h1
    split at h1
    ·split at h1
     ·cases h1
     ·simp only [Option.some.injEq] at h1; subst h1; exact bare_fzs
    ·split at h1
     ·simp only [Option.map_eq_some_iff] at h1
      obtain ⟨u, _, rfl⟩ := h1
      exact bare_fzs
     ·cases h1
   exact fun v hv => by
    rcases List.mem_cons.1 hv with rfl | hv
    ·exact hx
    ·exact res_bare rs xs h2 v hv
  ·cases hr
theorem res_bareR {s : St} : ∀ (rs : List ResultVar) (vs : List V), evResultsR P s rs = some vs -> ∀ v ∈ vs, bare v = true
 | [], vs, hr => by
  simp only [evResultsR, Option.some.injEq] at hr
  subst hr
  exact fun v hv => by cases hv
 | r :: rs, vs, hr => by
  simp only [evResultsR] at hr
  split at hr
  ·rename_i x xs h1 h2
   simp only [Option.some.injEq] at hr
   subst hr
   have hx : bare x = true := by
    unfold evResR at h1
    split at h1
    ·split at h1
     ·cases h1
     ·simp only [Option.some.injEq] at h1; subst h1; exact bare_cps _
    ·split at h1
     ·split at h1
      ·rename_i htt
       simp only [loadV] at h1
       split at h1
       ·rw [htt] at h1
        simp only [takeCells, htt] at h1
        split at h1
        ·cases h1; rfl
        ·cases h1
       ·cases h1
      ·cases h1
     ·cases h1
   exact fun v hv => by
    rcases List.mem_cons.1 hv with rfl | hv
    ·exact hx
    ·exact res_bareR rs xs h2 v hv
  ·cases hr
theorem finish_bare {s : St} {fn : Func} {b k : Nat} {rr : Bool} {r : V} {h' : Heap} (hf : finish P fn b k rr s = some (r, h')) : bare r = true := by
 unfold finish at hf
 split at hf
 ·rename_i vs hvs
  split at hf
  ·simp only [Option.some.injEq, Prod.mk.injEq] at hf
   obtain ⟨rfl, _⟩ := hf
   have : ∀ v ∈ vs, bare v = true := by
    cases rr with
    | true => simp only [if_true] at hvs; exact res_bareR _ _ hvs
    | false => simp only [Bool.false_eq_true, if_false] at hvs; exact res_bare _ _ hvs
   match vs, this with
   | [], _ => rfl
   | [v], h1 => exact h1 v (by simp)
   | _ :: _ :: _, _ => rfl
  ·cases hf
 ·cases hf
theorem look_args (args : List V) : ∀ (t : Nat), look (args0 args) t = args.getD t .undef := by
 have key : ∀ (l : List V) (k t : Nat), look ((l.zipIdx k).map fun p => (p.2, p.1)) t = if k <= t then l.getD (t - k) .undef else .undef := by
  intro l
  induction l with
  | nil => intro k t; simp [look]
  | cons x l ih =>
   intro k t
   simp only [List.zipIdx_cons, List.map_cons, look, ih]
   by_cases h : k = t
   ·subst h; simp
   ·by_cases h2 : k <= t
    ·rw [if_neg h, if_pos (by omega), if_pos h2]
     rw [show t - k = (t - (k + 1)) + 1 by omega]
     simp
    ·rw [if_neg h, if_neg (by omega), if_neg h2]
 intro t
 have := key args 0 t
 simpa [args0] using this
theorem start_ok {args : List V} {xs : Array Value} {nt lo : Nat} (hH : HOK m c w h) (hargs : R2 (VRr m c w) args xs.toList) (hb : args.all bare = true) (hn : args.length <= nt) (hlo : lo <= h.length) :
  InvP vars ⟨lo, h.length, w, m, c, hoOf m w h lo, h, nt⟩ m c w (args0 args) h ⟨xs ++ Array.replicate (nt - xs.size) undef, []⟩ := by
 obtain ⟨hC, hold⟩ := hH
 have hbl : ∀ t k r, look (args0 args) t = .list k r -> k = .no := fun t k r ht => by
  rw [look_args] at ht
  by_cases hl : t < args.length
  ·rw [List.getD_eq_getElem?_getD, List.getElem?_eq_getElem hl] at ht
   have := List.all_eq_true.1 hb _ (List.getElem_mem hl)
   simp only [Option.getD_some] at ht
   rw [ht] at this
   cases k <;> simp [bare] at this
   rfl
  ·rw [List.getD_eq_getElem?_getD, List.getElem?_eq_none (by omega)] at ht
   cases ht
 have hAt : ∀ {l r x}, At m w (args0 args) h ⟨xs ++ Array.replicate (nt - xs.size) undef, []⟩ l r x -> At m w [] h act0 l r x := fun {l r x} hl => by
  cases l with
  | slot t => have := hbl t _ r hl.1; cases this
  | cell i j => exact hl
 refine ⟨⟨hC.wf1, hC.wf2, hC.nd, hC.len, fun t => ?_, hC.ob, fun l r x hl => hC.own l r x (hAt hl), fun l l' r r' x x' b h1 h2 => hC.uniq l l' r r' x x' b (hAt h1) (hAt h2), fun t u r ht => (by have := hbl t _ r ht; cases this), fun t i j r ht => (by have := hbl t _ r ht; cases this), hC.gt⟩,
  Fr.refl _ _ _ _ _, fun l r x b hl hu hb' => ?_, rfl, Nat.le_refl _, hC.len, hlo, ?_, rfl, Keeps.refl _ _, hold⟩
 ·rw [look_args]
  by_cases hl : t < args.length
  ·obtain ⟨y, hy, hv⟩ := hargs.get (List.getElem?_eq_getElem hl)
   rw [List.getD_eq_getElem?_getD, List.getElem?_eq_getElem hl, Option.getD_some]
   have hxs : t < xs.size := by have := hargs.1; simp at this; omega
   have : (xs ++ Array.replicate (nt - xs.size) undef).getD t undef = y := by
    rw [Array.getD_eq_getD_getElem?, Array.getElem?_append_left hxs]
    have : xs[t]? = some y := by simpa using hy
    simp [this]
   rw [this]
   exact hv
  ·rw [List.getD_eq_getElem?_getD, List.getElem?_eq_none (by omega)]
   trivial
 ·cases l with
  | slot t => have := hbl t _ r hl.1; cases this
  | cell i j => exact .inr ⟨i, j, r, x, hu, hl, hb'⟩
 ·have := hargs.1
  simp at this ⊢
  omega
theorem finish_ok (hI : InvP vars E m c w g h a) {fn : Func} {r : V} {h' : Heap} {k : Nat} {rr : Bool} (hf : finish P fn E.base k rr (g, h) = some (r, h')) :
  ∃ x m', (results fn a.tmps).run P w = .ok x w /\ VRr m' c w r x /\ bare r = true /\ HOK m' c w h' /\ Fr E.lo E.ho E.w E.m E.c w m' c /\ Owned E.lo E.ho E.w m' w [] h' act0 /\ h' = h.take (E.base + k) /\ E.base + k <= h.length /\ Keeps E.base E.h h' := by
 unfold finish at hf
 split at hf
 ·rename_i vs hvs
  split at hf
  ·rename_i hok
   simp only [Bool.and_eq_true, Bool.or_eq_true, beq_iff_eq, decide_eq_true_eq] at hok
   simp only [Option.some.injEq, Prod.mk.injEq] at hf
   obtain ⟨rfl, rfl⟩ := hf
   obtain ⟨x, hx, hv, hb⟩ := results_ok hI hvs
   have hle : E.base + k <= h.length := by
    rcases hok.2.2 with h0 | h0
    ·have := hI.hlen; omega
    ·exact h0
   have hv' := hv.less (n := E.base + k) hok.1
   have hI2 := (hI.lives (some [])).less (n := E.base + k) (Nat.le_add_right _ _) (fun i cs hcs hbi hin => obs_ok hok.2.1 hcs hbi hin) (fun p hp => by simp [Lift.lives, Lift.untag] at hp)
   refine ⟨x, m.take (E.base + k), hx, hv', hb, hI2.hok, hI2.fr, fun l r y b hl hu hb' => ?_, rfl, hle, hI2.old⟩
   cases l with
   | slot t => exact absurd hl.1 (by simp [look])
   | cell i j => exact hI2.owned (.cell i j) r y b hl hu hb'
  ·cases hf
 ·cases hf
theorem fun_ok {hints : Nat -> Hint} {prim : Nat -> Option (Nat -> List V -> Heap -> Option (V × Heap))} (hm : P.follows .mixedOrders = true)
  (hprim : ∀ f p, prim f = some p -> ∀ lo args h r h', lo <= h.length -> p lo args h = some (r, h') -> CallOK P lo f args h r h') :
  ∀ (n lo f : Nat) (args : List V) (h : Heap) (r : V) (h' : Heap), lo <= h.length -> evFun P hints prim n lo f args h = some (r, h') -> CallOK P lo f args h r h' := by
 intro n
 induction n with
 | zero => intro lo f args h r h' _ he; cases he
 | succ n ih =>
  intro lo f args h r h' hlo he
  simp only [evFun] at he
  split at he
  ·rename_i p hp
   exact hprim f p hp lo args h r h' hlo he
  ·unfold evBody at he
   split at he
   ·rename_i fn hfn
    split at he
    ·rename_i b hb
     split at he
     ·rename_i hck
      simp only [Bool.and_eq_true, decide_eq_true_eq, bne_iff_ne, ne_eq] at hck
      obtain ⟨⟨⟨hco, hle⟩, hba⟩, hname⟩ := hck
      have hX : ∀ m c w, CxOK ⟨P, evFun P hints prim n, lo, h.length, hints f⟩ ⟨lo, h.length, w, m, c, hoOf m w h lo, h, fn.ntmps⟩ := fun m c w =>
       ⟨rfl, rfl, fun lo f args h r h' hl hc => ih lo f args h r h' hl hc⟩
      have hcf : ∀ xs w, (callFunc f xs).run P w = .ok (.enter f xs) w := fun xs w => by
       simp [callFunc, hfn, hname, hb]
      have hend : ∀ (e : Ex) (s : St), (e = .normal \/ e = .ret) -> evCode ⟨P, evFun P hints prim n, lo, h.length, hints f⟩ (loopN n) b (args0 args, h) = some (e, s) -> finish P fn h.length (hints f).ret (hints f).rawr s = some (r, h') -> CallOK P lo f args h r h' := fun e s hes hev hfin => by
       refine ⟨finish_bare hfin, hcf, fun m c w xs hH hargs => ⟨?_, ?_⟩⟩
       ·have hI := start_ok (vars := (hints f).vars) hH hargs hba hle hlo
        have hwp := code_ok (hX m c w) hm n b m c w (args0 args) h _ e s (fun _ _ _ => h.length <= h'.length /\ h'.take lo = h.take lo /\ Keeps h.length h h') hco hI hev fun m' c' w' a' hI' => by
         obtain ⟨_, _, _, _, _, _, _, _, rfl, hbl, hkp⟩ := finish_ok (P := P) hI' hfin
         have hbl' : h.length + (hints f).ret <= s.2.length := hbl
         refine ⟨?_, ?_, hkp⟩
         ·simp only [List.length_take]
          show h.length <= min (h.length + (hints f).ret) s.2.length
          omega
         ·rw [List.take_take, Nat.min_eq_left (show lo <= h.length + (hints f).ret by omega)]
          exact hI'.hlo
        obtain ⟨_, _, _, hq, _⟩ := hwp default [] []
        exact hq
       have hI := start_ok (vars := (hints f).vars) hH hargs hba hle hlo
       refine calls_of_wp hfn hb ?_
       refine code_ok (hX m c w) hm n b m c w (args0 args) h _ e s _ hco hI hev fun m' c' w' a' hI' => ?_
       obtain ⟨x, mm, hx, hv, _, hH', hF, hO, _⟩ := finish_ok (P := P) hI' hfin
       have : bodyPost P fn (fun e w' => ∃ x c' m', e = .returned x /\ VRr m' c' w' r x /\ HOK m' c' w' h' /\ Fr lo (hoOf m w h lo) w m c w' m' c' /\ Owned lo (hoOf m w h lo) w m' w' [] h' act0) .normal a' w' :=
        ⟨hI'.df, x, hx, x, c', mm, rfl, hv, hH', hF, hO⟩
       rcases hes with rfl | rfl
       ·exact this
       ·exact this
      split at he
      ·cases he
      ·rename_i e s hne hs
       cases e with
       | normal => exact hend .normal s (.inl rfl) hs he
       | exit j => exact absurd rfl (hne j)
       | ret => exact hend .ret s (.inr rfl) hs he
      ·cases he
     ·cases he
    ·cases he
   ·cases he
end
end Go.Lift
end

section
namespace Go.Lift
variable [GTab] [BTy]
def CLe (a b : CallF) : Prop := ∀ lo f args h r, a lo f args h = some r -> b lo f args h = some r
def FLe (a b : St -> Option (Ex × St)) : Prop := ∀ s r, a s = some r -> b s = some r
def LLe (a b : LoopF) : Prop := ∀ f g, FLe f g -> FLe (a f) (b g)
section le
variable {P : Program} {call call' : CallF} (hc : CLe call call')
include hc
theorem evEff_le {lo : Nat} {mutc : Bool} {s : St} {op : Op} {r : V × St} (h : evEff P call lo mutc s op = some r) : evEff P call' lo mutc s op = some r := by
 cases op with
 | call c =>
  simp only [evEff] at h ⊢
  split at h
  ·unfold evCall at h ⊢
   split at h
   ·split at h
    ·rename_i hcall
     rw [hc _ _ _ _ _ hcall]
     exact h
    ·cases h
   ·cases h
  ·exact h
  ·cases h
 | _ => exact h
theorem evOp_le {c : Cx} {s : St} {o : Oper} {r : V × St} (hcc : c.call = call) (h : evOp c s o = some r) : evOp { c with call := call' } s o = some r := by
 unfold evOp at h ⊢
 split at h
 ·rename_i hn
  rw [if_pos hn]
  exact h
 rename_i hn
 rw [if_neg hn]
 split at h
 ·rename_i he
  rw [if_pos he]
  rw [hcc] at h
  exact evEff_le hc h
 ·rename_i he
  rw [if_neg he]
  exact h
theorem evHead_le {c : Cx} {s : St} {o : Oper} {v : V} (hcc : c.call = call) (h : evHead c s o = some v) : evHead { c with call := call' } s o = some v := by
 unfold evHead at h ⊢
 split at h
 ·rename_i he
  rw [if_pos he]
  split at h
  ·split at h
   ·split at h
    ·rw [hcc] at h
     unfold sameH at h ⊢
     split at h
     ·rename_i hp
      simp only [hc _ _ _ _ _ hp]
      exact h
     ·cases h
    ·cases h
   ·cases h
  ·split at h
   ·cases h
   ·rename_i hm
    obtain ⟨p, hp, hv⟩ := Option.map_eq_some_iff.mp h
    rw [if_neg hm]
    rw [hcc] at hp
    exact Option.map_eq_some_iff.mpr ⟨p, evEff_le hc hp, hv⟩
  ·obtain ⟨p, hp, hv⟩ := Option.map_eq_some_iff.mp h
   rw [hcc] at hp
   exact Option.map_eq_some_iff.mpr ⟨p, evEff_le hc hp, hv⟩
  ·cases h
 ·rename_i he
  rw [if_neg he]
  exact h
theorem evOps_le {c : Cx} (hcc : c.call = call) {ops : Array Oper} : ∀ {l : List Oper} {s r : St}, evOps c ops l s = some r -> evOps { c with call := call' } ops l s = some r
 | [], _, _, h => h
 | o :: l, s, r, h => by
  simp only [evOps] at h ⊢
  split at h
  ·split at h
   ·rename_i hop
    simp only [evOp_le hc hcc hop]
    exact evOps_le hcc h
   ·cases h
  ·split at h
   ·cases h
   ·rename_i hna
    rw [if_neg hna]
    exact evOps_le hcc h
  ·cases h
theorem evHeads_le {c : Cx} (hcc : c.call = call) {ops : Array Oper} : ∀ {l : List Oper} {s r : St}, evHeads c ops l s = some r -> evHeads { c with call := call' } ops l s = some r
 | [], _, _, h => h
 | o :: l, s, r, h => by
  simp only [evHeads] at h ⊢
  split at h
  ·split at h
   ·rename_i hop
    simp only [evHead_le hc hcc hop]
    exact evHeads_le hcc h
   ·cases h
  ·split at h
   ·cases h
   ·rename_i hna
    rw [if_neg hna]
    exact evHeads_le hcc h
  ·cases h
theorem stepT_le {c : Cx} (hcc : c.call = call) {mx : Mix} {ops : Array Oper} {k : Nat} {s r : St} (h : stepT c mx ops k s = some r) : stepT { c with call := call' } mx ops k s = some r := by
 unfold stepT at h ⊢
 split at h
 ·cases h
 ·rename_i o ho
  split at h
  ·rename_i hh
   rw [if_pos hh]
   exact evHeads_le hc hcc h
  ·rename_i hh
   rw [if_neg hh]
   split at h
   ·rename_i ht
    rw [if_pos ht]
    exact h
   ·rename_i ht
    rw [if_neg ht]
    exact evOps_le hc hcc h
theorem evT_le {c : Cx} (hcc : c.call = call) {mx : Mix} {id : Nat} {ops : Array Oper} : ∀ {T : Tr} {s r : St}, evT c mx id ops T s = some r -> evT { c with call := call' } mx id ops T s = some r
 | .fin, s, r, h => h
 | .finS _, s, r, h => h
 | .finL _, s, r, h => h
 | .two k, s, r, h => h
 | .head k t, s, r, h => by
  simp only [evT] at h ⊢
  split at h
  ·rename_i h1
   rw [stepT_le hc hcc h1]
   exact evT_le hcc h
  ·cases h
 | .one k t, s, r, h => by
  simp only [evT] at h ⊢
  split at h
  ·rename_i h1
   rw [stepT_le hc hcc h1]
   exact evT_le hcc h
  ·cases h
 | .alt a b, s, r, h => by
  simp only [evT] at h ⊢
  exact join_le (fun r h => evT_le hcc h) (fun r h => evT_le hcc h) h
theorem evLate_le {c : Cx} (hcc : c.call = call) {k id' : Nat} {ops ops' : Array Oper} {s r : St} (h : evLate c k ops id' ops' s = some r) : evLate { c with call := call' } k ops id' ops' s = some r := by
 unfold evLate at h ⊢
 split at h
 ·rename_i s1 h1
  rw [evHeads_le hc hcc h1]
  exact h
 ·cases h
theorem evRegion_le {c : Cx} (hcc : c.call = call) {id : Nat} {ops : Array Oper} {draw : Bool} {s r : St} (h : evRegion c id ops draw s = some r) : evRegion { c with call := call' } id ops draw s = some r := by
 unfold evRegion at h ⊢
 split at h
 ·rename_i s1 h1
  have : (if draw = true then evDraw { c with call := call' } id ops s else evOps { c with call := call' } ops ops.toList s) = some s1 := by
   cases draw with
   | false => simp only [Bool.false_eq_true, if_false] at h1 ⊢; exact evOps_le hc hcc h1
   | true =>
    simp only [if_true] at h1 ⊢
    unfold evDraw at h1 ⊢
    split at h1
    ·rename_i hmx
     simp only [hmx]
     unfold evDraw0 at h1 ⊢
     split at h1
     ·rename_i s2 h2
      rw [evHeads_le hc hcc h2]
      exact evOps_le hc hcc h1
     ·cases h1
    ·rename_i mx hmx
     simp only [hmx]
     exact evT_le hc hcc h1
  rw [this]
  exact h
 ·cases h
theorem evCode_le {c : Cx} (hcc : c.call = call) {lp lp' : LoopF} (hl : LLe lp lp') : ∀ (b : Code) (s : St) (r : Ex × St), evCode c lp b s = some r -> evCode { c with call := call' } lp' b s = some r := by
 intro b
 induction b with
 | region id ops draw =>
  intro s r h
  simp only [evCode, Option.map_eq_some_iff] at h ⊢
  obtain ⟨s1, h1, h2⟩ := h
  exact ⟨s1, evRegion_le hc hcc h1, h2⟩
 | seq x y ihx ihy =>
  intro s r h
  simp only [evCode] at h ⊢
  cases hx : evCode c lp x s with
  | none => rw [hx] at h; cases h
  | some p =>
   obtain ⟨e, s1⟩ := p
   rw [hx] at h
   rw [ihx s _ hx]
   cases e with
   | normal => exact ihy s1 r h
   | _ => exact h
 | cond x p q ihp ihq =>
  intro s r h
  simp only [evCode] at h ⊢
  split at h
  ·split at h
   ·rename_i ht
    rw [if_pos ht]
    exact ihp s r h
   ·rename_i ht
    rw [if_neg ht]
    exact ihq s r h
  ·obtain ⟨h1, h2⟩ := sameX_some h
   rw [ihq s r h2]
   split at h1
   ·rename_i k ops id' ops' hla
    rw [Option.map_eq_some_iff] at h1
    obtain ⟨s1, hs1, rfl⟩ := h1
    have := evLate_le hc hcc hs1
    simp only [hla, this, Option.map_some]
    exact sameX_of
   ·rename_i hla
    simp only [hla, ihp s r h1]
    exact sameX_of
  ·cases h
 | block id p ih =>
  intro s r h
  simp only [evCode] at h ⊢
  cases hx : evCode c lp p s with
  | none => rw [hx] at h; cases h
  | some q =>
   rw [hx] at h
   rw [ih s _ hx]
   exact h
 | loop p ih =>
  intro s r h
  simp only [evCode] at h ⊢
  exact hl _ _ ih s r h
 | scope p ih => intro s r h; exact ih s r h
 | skip => intro s r h; exact h
 | exit id => intro s r h; exact h
 | label l => intro s r h; exact h
 | ret => intro s r h; exact h
 | rangeFunc f ps x y _ _ => intro s r h; cases h
 | goto l => intro s r h; cases h
 | refuse w => intro s r h; cases h
theorem evBody_le {hints : Nat -> Hint} {lp lp' : LoopF} (hl : LLe lp lp') {lo f : Nat} {args : List V} {h : Heap} {r : V × Heap} (he : evBody P hints call lp lo f args h = some r) : evBody P hints call' lp' lo f args h = some r := by
 unfold evBody at he ⊢
 split at he
 ·split at he
  ·split at he
   ·rename_i hck
    simp only [hck, if_true]
    split at he
    ·cases he
    ·rename_i hne hs
     rw [evCode_le hc (c := ⟨P, call, lo, h.length, hints f⟩) rfl hl _ _ _ hs]
     split
     ·rename_i heq; cases heq; exact absurd rfl (hne _)
     ·rename_i heq; cases heq; exact he
     ·rename_i heq; cases heq
    ·cases he
   ·cases he
  ·cases he
 ·cases he
end le
theorem loopN_succ {n : Nat} {f : St -> Option (Ex × St)} {s : St} : loopN (n + 1) f s = match f s with
  | some (.normal, s') => loopN n f s'
  | r => r := rfl
theorem loopN_le : ∀ {n k : Nat}, n <= k -> LLe (loopN n) (loopN k)
 | 0, _, _, f, g, _, s, r, h => by cases h
 | n + 1, 0, hn, _, _, _, _, _, _ => by omega
 | n + 1, k + 1, hn, f, g, hfg, s, r, h => by
  simp only [loopN] at h ⊢
  cases hx : f s with
  | none => rw [hx] at h; cases h
  | some p =>
   obtain ⟨e, s1⟩ := p
   rw [hx] at h
   rw [hfg s _ hx]
   cases e with
   | normal => exact loopN_le (by omega) f g hfg s1 r h
   | _ => exact h
theorem evFun_le {P : Program} {hints : Nat -> Hint} {prim : Nat -> Option (Nat -> List V -> Heap -> Option (V × Heap))} : ∀ {n k : Nat}, n <= k -> CLe (evFun P hints prim n) (evFun P hints prim k)
 | 0, _, _, lo, f, args, h, r, he => by cases he
 | n + 1, 0, hn, _, _, _, _, _, _ => by omega
 | n + 1, k + 1, hn, lo, f, args, h, r, he => by
  simp only [evFun] at he ⊢
  split at he
  ·exact he
  ·exact evBody_le (evFun_le (by omega)) (loopN_le (by omega)) he
noncomputable def loopW : LoopF := fun f s =>
 open Classical in if hx : ∃ n r, loopN n f s = some r then some (Classical.choose (Classical.choose_spec hx)) else none
theorem loopW_of {f : St -> Option (Ex × St)} {s : St} {n : Nat} {r : Ex × St} (h : loopN n f s = some r) : loopW f s = some r := by
 have hx : ∃ n r, loopN n f s = some r := ⟨n, r, h⟩
 unfold loopW
 rw [dif_pos hx]
 have h1 := Classical.choose_spec (Classical.choose_spec hx)
 have e1 := loopN_le (Nat.le_max_left (Classical.choose hx) n) f f (fun _ _ h => h) s _ h1
 have e2 := loopN_le (Nat.le_max_right (Classical.choose hx) n) f f (fun _ _ h => h) s _ h
 rw [e1] at e2
 exact e2
theorem loopW_to {f : St -> Option (Ex × St)} {s : St} {r : Ex × St} (h : loopW f s = some r) : ∃ n, loopN n f s = some r := by
 unfold loopW at h
 split at h
 ·rename_i hx
  cases h
  exact ⟨_, Classical.choose_spec (Classical.choose_spec hx)⟩
 ·cases h
theorem loopW_eq (f : St -> Option (Ex × St)) (s : St) : loopW f s = match f s with
  | some (.normal, s') => loopW f s'
  | r => r := by
 cases hx : f s with
 | none =>
  cases hw : loopW f s with
  | none => rfl
  | some r =>
   obtain ⟨n, hn⟩ := loopW_to hw
   cases n with
   | zero => cases hn
   | succ n => simp only [loopN, hx] at hn; cases hn
 | some p =>
  obtain ⟨e, s1⟩ := p
  cases e with
  | normal =>
   simp only
   cases hw : loopW f s1 with
   | some r =>
    obtain ⟨n, hn⟩ := loopW_to hw
    exact loopW_of (n := n + 1) (by simp only [loopN, hx]; exact hn)
   | none =>
    cases hw' : loopW f s with
    | none => rfl
    | some r =>
     obtain ⟨n, hn⟩ := loopW_to hw'
     cases n with
     | zero => cases hn
     | succ n =>
      simp only [loopN, hx] at hn
      rw [loopW_of hn] at hw
      cases hw
  | exit id => exact loopW_of (n := 1) (by simp only [loopN, hx])
  | ret => exact loopW_of (n := 1) (by simp only [loopN, hx])
theorem loopN_W {n : Nat} : LLe (loopN n) loopW := fun f g hfg s r h => loopW_of (loopN_le (Nat.le_refl n) f g hfg s r h)
section ev
variable (P : Program) (hints : Nat -> Hint) (prim : Nat -> Option (Nat -> List V -> Heap -> Option (V × Heap)))
noncomputable def ev : CallF := fun lo f args h =>
 open Classical in if hx : ∃ n r, evFun P hints prim n lo f args h = some r then some (Classical.choose (Classical.choose_spec hx)) else none
variable {P hints prim}
theorem ev_of {n lo f : Nat} {args : List V} {h : Heap} {r : V × Heap} (he : evFun P hints prim n lo f args h = some r) : ev P hints prim lo f args h = some r := by
 have hx : ∃ n r, evFun P hints prim n lo f args h = some r := ⟨n, r, he⟩
 unfold ev
 rw [dif_pos hx]
 have h1 := Classical.choose_spec (Classical.choose_spec hx)
 have e1 := evFun_le (Nat.le_max_left (Classical.choose hx) n) _ _ _ _ _ h1
 have e2 := evFun_le (Nat.le_max_right (Classical.choose hx) n) _ _ _ _ _ he
 rw [e1] at e2
 exact e2
theorem ev_to {lo f : Nat} {args : List V} {h : Heap} {r : V × Heap} (he : ev P hints prim lo f args h = some r) : ∃ n, evFun P hints prim n lo f args h = some r := by
 unfold ev at he
 split at he
 ·rename_i hx
  cases he
  exact ⟨_, Classical.choose_spec (Classical.choose_spec hx)⟩
 ·cases he
theorem ev_chain {lo f : Nat} {args : List V} {h : Heap} {r : V × Heap} (he : ev P hints prim lo f args h = some r) : ∃ N, ∀ n, N <= n -> evFun P hints prim n lo f args h = some r := by
 obtain ⟨N, hN⟩ := ev_to he
 exact ⟨N, fun n hn => evFun_le hn _ _ _ _ _ hN⟩
noncomputable def cxN (P : Program) (hints : Nat -> Hint) (prim : Nat -> Option (Nat -> List V -> Heap -> Option (V × Heap))) (c : Cx) (n : Nat) : Cx := { c with call := evFun P hints prim n }
theorem evEff_cont {lo : Nat} {mutc : Bool} {s : St} {op : Op} {r : V × St} (h : evEff P (ev P hints prim) lo mutc s op = some r) : ∃ N, ∀ n, N <= n -> evEff P (evFun P hints prim n) lo mutc s op = some r := by
 cases op with
 | call c =>
  simp only [evEff] at h ⊢
  split at h
  ·unfold evCall at h ⊢
   split at h
   ·split at h
    ·rename_i hcall
     obtain ⟨N, hN⟩ := ev_chain hcall
     exact ⟨N, fun n hn => by rw [hN n hn]; exact h⟩
    ·cases h
   ·cases h
  ·exact ⟨0, fun _ _ => h⟩
  ·cases h
 | _ => exact ⟨0, fun _ _ => h⟩
theorem evOp_cont {c : Cx} (hP : c.P = P) {s : St} {o : Oper} {r : V × St} (h : evOp { c with call := ev P hints prim } s o = some r) : ∃ N, ∀ n, N <= n -> evOp (cxN P hints prim c n) s o = some r := by
 subst hP
 unfold evOp at h
 unfold evOp cxN
 split at h
 ·rename_i hn
  exact ⟨0, fun n _ => by rw [if_pos hn]; exact h⟩
 rename_i hn
 simp only [if_neg hn]
 split at h
 ·rename_i he
  obtain ⟨N, hN⟩ := evEff_cont h
  exact ⟨N, fun n hn => by rw [if_pos he]; exact hN n hn⟩
 ·rename_i he
  exact ⟨0, fun n _ => by rw [if_neg he]; exact h⟩
theorem evHead_cont {c : Cx} (hP : c.P = P) {s : St} {o : Oper} {v : V} (h : evHead { c with call := ev P hints prim } s o = some v) : ∃ N, ∀ n, N <= n -> evHead (cxN P hints prim c n) s o = some v := by
 subst hP
 unfold evHead at h
 unfold evHead cxN
 split at h
 ·rename_i he
  simp only [he, if_true]
  split at h
  ·split at h
   ·split at h
    ·unfold sameH at h
     split at h
     ·rename_i hp
      obtain ⟨N, hN⟩ := ev_chain hp
      exact ⟨N, fun n hn => by simp only [hN n hn, sameH]; exact h⟩
     ·cases h
    ·cases h
   ·cases h
  ·split at h
   ·cases h
   ·rename_i hm
    simp only [Option.map_eq_some_iff] at h ⊢
    obtain ⟨p, hp, rfl⟩ := h
    obtain ⟨N, hN⟩ := evEff_cont hp
    refine ⟨N, fun n hn => ?_⟩
    rw [if_neg hm]
    simp only [Option.map_eq_some_iff]
    exact ⟨p, hN n hn, rfl⟩
  ·simp only [Option.map_eq_some_iff] at h ⊢
   obtain ⟨p, hp, rfl⟩ := h
   obtain ⟨N, hN⟩ := evEff_cont hp
   exact ⟨N, fun n hn => ⟨p, hN n hn, rfl⟩⟩
  ·cases h
 ·rename_i he
  exact ⟨0, fun n _ => by rw [if_neg he]; exact h⟩
theorem evOps_cont {c : Cx} (hP : c.P = P) {ops : Array Oper} : ∀ {l : List Oper} {s r : St}, evOps { c with call := ev P hints prim } ops l s = some r -> ∃ N, ∀ n, N <= n -> evOps (cxN P hints prim c n) ops l s = some r
 | [], _, _, h => ⟨0, fun _ _ => h⟩
 | o :: l, s, r, h => by
  simp only [evOps] at h ⊢
  split at h
  ·rename_i _
   split at h
   ·rename_i hop
    obtain ⟨N, hN⟩ := evOp_cont hP hop
    obtain ⟨K, hK⟩ := evOps_cont hP h
    refine ⟨max N K, fun n hn => ?_⟩
    simp only [hN n (by omega)]
    exact hK n (by omega)
   ·cases h
  ·rename_i _
   split at h
   ·cases h
   ·rename_i hna
    obtain ⟨K, hK⟩ := evOps_cont hP h
    refine ⟨K, fun n hn => ?_⟩
    simp only [if_neg hna]
    exact hK n hn
  ·cases h
theorem evHeads_cont {c : Cx} (hP : c.P = P) {ops : Array Oper} : ∀ {l : List Oper} {s r : St}, evHeads { c with call := ev P hints prim } ops l s = some r -> ∃ N, ∀ n, N <= n -> evHeads (cxN P hints prim c n) ops l s = some r
 | [], _, _, h => ⟨0, fun _ _ => h⟩
 | o :: l, s, r, h => by
  simp only [evHeads] at h ⊢
  split at h
  ·rename_i _
   split at h
   ·rename_i hop
    obtain ⟨N, hN⟩ := evHead_cont hP hop
    obtain ⟨K, hK⟩ := evHeads_cont hP h
    refine ⟨max N K, fun n hn => ?_⟩
    simp only [hN n (by omega)]
    exact hK n (by omega)
   ·cases h
  ·rename_i _
   split at h
   ·cases h
   ·rename_i hna
    obtain ⟨K, hK⟩ := evHeads_cont hP h
    refine ⟨K, fun n hn => ?_⟩
    simp only [if_neg hna]
    exact hK n hn
  ·cases h
theorem stepT_cont {c : Cx} (hP : c.P = P) {mx : Mix} {ops : Array Oper} {k : Nat} {s r : St} (h : stepT { c with call := ev P hints prim } mx ops k s = some r) : ∃ N, ∀ n, N <= n -> stepT (cxN P hints prim c n) mx ops k s = some r := by
 unfold stepT at h ⊢
 split at h
 ·cases h
 ·rename_i o ho
  split at h
  ·rename_i hh
   obtain ⟨N, hN⟩ := evHeads_cont hP h
   exact ⟨N, fun n hn => by rw [if_pos hh]; exact hN n hn⟩
  ·rename_i hh
   split at h
   ·rename_i ht
    exact ⟨0, fun n _ => by rw [if_neg hh, if_pos ht]; exact h⟩
   ·rename_i ht
    obtain ⟨N, hN⟩ := evOps_cont hP h
    exact ⟨N, fun n hn => by rw [if_neg hh, if_neg ht]; exact hN n hn⟩
theorem evT_cont {c : Cx} (hP : c.P = P) {mx : Mix} {id : Nat} {ops : Array Oper} : ∀ {T : Tr} {s r : St}, evT { c with call := ev P hints prim } mx id ops T s = some r -> ∃ N, ∀ n, N <= n -> evT (cxN P hints prim c n) mx id ops T s = some r
 | .fin, s, r, h => ⟨0, fun _ _ => h⟩
 | .finS _, s, r, h => ⟨0, fun _ _ => h⟩
 | .finL _, s, r, h => ⟨0, fun _ _ => h⟩
 | .two k, s, r, h => ⟨0, fun _ _ => h⟩
 | .head k t, s, r, h => by
  simp only [evT] at h
  split at h
  ·rename_i h1
   obtain ⟨N, hN⟩ := stepT_cont hP h1
   obtain ⟨K, hK⟩ := evT_cont hP h
   refine ⟨max N K, fun n hn => ?_⟩
   simp only [evT, hN n (by omega)]
   exact hK n (by omega)
  ·cases h
 | .one k t, s, r, h => by
  simp only [evT] at h
  split at h
  ·rename_i h1
   obtain ⟨N, hN⟩ := stepT_cont hP h1
   obtain ⟨K, hK⟩ := evT_cont hP h
   refine ⟨max N K, fun n hn => ?_⟩
   simp only [evT, hN n (by omega)]
   exact hK n (by omega)
  ·cases h
 | .alt a b, s, r, h => by
  simp only [evT] at h
  obtain ⟨r1, r2, h1, h2, _, _⟩ := joinS_weak h
  obtain ⟨N, hN⟩ := evT_cont hP h1
  obtain ⟨K, hK⟩ := evT_cont hP h2
  refine ⟨max N K, fun n hn => ?_⟩
  simp only [evT, hN n (by omega), hK n (by omega)]
  rw [h1, h2] at h
  exact h
theorem evLate_cont {c : Cx} (hP : c.P = P) {k id' : Nat} {ops ops' : Array Oper} {s r : St} (h : evLate { c with call := ev P hints prim } k ops id' ops' s = some r) : ∃ N, ∀ n, N <= n -> evLate (cxN P hints prim c n) k ops id' ops' s = some r := by
 unfold evLate at h
 split at h
 ·rename_i s1 h1
  obtain ⟨N, hN⟩ := evHeads_cont hP h1
  refine ⟨N, fun n hn => ?_⟩
  unfold evLate
  rw [hN n hn]
  exact h
 ·cases h
theorem evDraw_cont {c : Cx} (hP : c.P = P) {id : Nat} {ops : Array Oper} {s s1 : St} (h1 : evDraw { c with call := ev P hints prim } id ops s = some s1) : ∃ N, ∀ n, N <= n -> evDraw (cxN P hints prim c n) id ops s = some s1 := by
 unfold evDraw at h1
 split at h1
 ·rename_i hmx
  unfold evDraw0 at h1
  split at h1
  ·rename_i s2 h2
   obtain ⟨N, hN⟩ := evHeads_cont hP h2
   obtain ⟨K, hK⟩ := evOps_cont hP h1
   refine ⟨max N K, fun n hn => ?_⟩
   have e1 := hN n (by omega)
   have e2 := hK n (by omega)
   unfold evDraw
   rw [show (cxN P hints prim c n).hint.mix id = none from hmx]
   unfold evDraw0
   exact (congrArg (fun x : Option St => match x with | some s' => evOps (cxN P hints prim c n) ops (ops.toList.drop (tailAt c.P c.hint id ops)) s' | none => none) e1).trans e2
  ·cases h1
 ·rename_i mx hmx
  obtain ⟨N, hN⟩ := evT_cont hP h1
  refine ⟨N, fun n hn => ?_⟩
  unfold evDraw
  rw [show (cxN P hints prim c n).hint.mix id = some mx from hmx]
  exact hN n hn
theorem evRegion_cont {c : Cx} (hP : c.P = P) {id : Nat} {ops : Array Oper} {draw : Bool} {s r : St} (h : evRegion { c with call := ev P hints prim } id ops draw s = some r) : ∃ N, ∀ n, N <= n -> evRegion (cxN P hints prim c n) id ops draw s = some r := by
 unfold evRegion at h
 split at h
 ·rename_i s1 h1
  have : ∃ N, ∀ n, N <= n -> (if draw = true then evDraw (cxN P hints prim c n) id ops s else evOps (cxN P hints prim c n) ops ops.toList s) = some s1 := by
   cases draw with
   | false => simp only [Bool.false_eq_true, if_false] at h1 ⊢; exact evOps_cont hP h1
   | true =>
    simp only [if_true] at h1 ⊢
    exact evDraw_cont hP h1
  obtain ⟨N, hN⟩ := this
  refine ⟨N, fun n hn => ?_⟩
  unfold evRegion
  rw [hN n hn]
  exact h
 ·cases h
theorem evCode_cont {c : Cx} (hP : c.P = P) : ∀ (b : Code) (s : St) (r : Ex × St), evCode { c with call := ev P hints prim } loopW b s = some r -> ∃ N, ∀ n, N <= n -> evCode (cxN P hints prim c n) (loopN n) b s = some r := by
 intro b
 induction b with
 | region id ops draw =>
  intro s r h
  simp only [evCode, Option.map_eq_some_iff] at h ⊢
  obtain ⟨s1, h1, h2⟩ := h
  obtain ⟨N, hN⟩ := evRegion_cont hP h1
  exact ⟨N, fun n hn => ⟨s1, hN n hn, h2⟩⟩
 | seq x y ihx ihy =>
  intro s r h
  simp only [evCode] at h ⊢
  cases hx : evCode { c with call := ev P hints prim } loopW x s with
  | none => rw [hx] at h; cases h
  | some p =>
   obtain ⟨e, s1⟩ := p
   rw [hx] at h
   obtain ⟨N, hN⟩ := ihx s _ hx
   cases e with
   | normal =>
    obtain ⟨K, hK⟩ := ihy s1 r h
    refine ⟨max N K, fun n hn => ?_⟩
    rw [hN n (by omega)]
    exact hK n (by omega)
   | exit id => exact ⟨N, fun n hn => by rw [hN n hn]; exact h⟩
   | ret => exact ⟨N, fun n hn => by rw [hN n hn]; exact h⟩
 | cond x p q ihp ihq =>
  intro s r h
  simp only [evCode] at h ⊢
  split at h
  ·split at h
   ·rename_i ht
    obtain ⟨N, hN⟩ := ihp s r h
    exact ⟨N, fun n hn => by rw [if_pos ht]; exact hN n hn⟩
   ·rename_i ht
    obtain ⟨N, hN⟩ := ihq s r h
    exact ⟨N, fun n hn => by rw [if_neg ht]; exact hN n hn⟩
  ·obtain ⟨h1, h2⟩ := sameX_some h
   obtain ⟨K, hK⟩ := ihq s r h2
   split at h1
   ·rename_i k ops id' ops' hla
    rw [Option.map_eq_some_iff] at h1
    obtain ⟨s1, hs1, rfl⟩ := h1
    obtain ⟨N, hN⟩ := evLate_cont hP hs1
    exact ⟨max N K, fun n hn => by
     have e1 := hN n (by omega)
     have e2 := hK n (by omega)
     have e3 : lateOf (cxN P hints prim c n).P (cxN P hints prim c n).hint p = some (k, ops, id', ops') := hla
     simp only [e3, e1, e2, Option.map_some]
     exact sameX_of⟩
   ·rename_i hla
    obtain ⟨N, hN⟩ := ihp s r h1
    exact ⟨max N K, fun n hn => by
     have e3 : lateOf (cxN P hints prim c n).P (cxN P hints prim c n).hint p = none := hla
     simp only [e3, hN n (by omega), hK n (by omega)]
     exact sameX_of⟩
  ·cases h
 | block id p ih =>
  intro s r h
  simp only [evCode] at h ⊢
  cases hx : evCode { c with call := ev P hints prim } loopW p s with
  | none => rw [hx] at h; cases h
  | some q =>
   rw [hx] at h
   obtain ⟨N, hN⟩ := ih s _ hx
   exact ⟨N, fun n hn => by rw [hN n hn]; exact h⟩
 | loop p ih =>
  intro s r h
  simp only [evCode] at h ⊢
  obtain ⟨k, hk⟩ := loopW_to h
  clear h
  induction k generalizing s with
  | zero => cases hk
  | succ k ihk =>
   simp only [loopN] at hk
   cases hx : evCode { c with call := ev P hints prim } loopW p s with
   | none => rw [hx] at hk; cases hk
   | some q =>
    obtain ⟨e, s1⟩ := q
    rw [hx] at hk
    obtain ⟨N, hN⟩ := ih s _ hx
    cases e with
    | normal =>
     obtain ⟨K, hK⟩ := ihk s1 hk
     refine ⟨max N K + 1, fun n hn => ?_⟩
     obtain ⟨j, rfl⟩ : ∃ j, n = j + 1 := ⟨n - 1, by omega⟩
     have h2 := hK j (by omega)
     have h3 := loopN_le (Nat.le_refl j) _ (evCode (cxN P hints prim c (j + 1)) (loopN (j + 1)) p)
      (fun s r hr => evCode_le (c := cxN P hints prim c j) (call := evFun P hints prim j) (call' := evFun P hints prim (j + 1)) (evFun_le (by omega)) rfl (loopN_le (by omega)) p s r hr) s1 r h2
     rw [loopN_succ, hN (j + 1) (by omega)]
     exact h3
    | exit id => exact ⟨N + 1, fun n hn => by obtain ⟨j, rfl⟩ : ∃ j, n = j + 1 := ⟨n - 1, by omega⟩; rw [loopN_succ, hN (j + 1) (by omega)]; exact hk⟩
    | ret => exact ⟨N + 1, fun n hn => by obtain ⟨j, rfl⟩ : ∃ j, n = j + 1 := ⟨n - 1, by omega⟩; rw [loopN_succ, hN (j + 1) (by omega)]; exact hk⟩
 | scope p ih => intro s r h; exact ih s r h
 | skip => intro s r h; exact ⟨0, fun _ _ => h⟩
 | exit id => intro s r h; exact ⟨0, fun _ _ => h⟩
 | label l => intro s r h; exact ⟨0, fun _ _ => h⟩
 | ret => intro s r h; exact ⟨0, fun _ _ => h⟩
 | rangeFunc f ps x y _ _ => intro s r h; cases h
 | goto l => intro s r h; cases h
 | refuse w => intro s r h; cases h
theorem evBody_cont {lo f : Nat} {args : List V} {h : Heap} {r : V × Heap} (he : evBody P hints (ev P hints prim) loopW lo f args h = some r) : ∃ n, evBody P hints (evFun P hints prim n) (loopN n) lo f args h = some r := by
 unfold evBody at he
 split at he
 ·rename_i fn hfn
  split at he
  ·rename_i b hb
   split at he
   ·rename_i hck
    split at he
    ·cases he
    ·rename_i e s hne hs
     obtain ⟨N, hN⟩ := evCode_cont (c := ⟨P, ev P hints prim, lo, h.length, hints f⟩) rfl b _ _ hs
     refine ⟨N, ?_⟩
     have := hN N (Nat.le_refl _)
     unfold cxN at this
     unfold evBody
     simp only [hfn, hb, hck, if_true]
     rw [this]
     split
     ·rename_i heq; cases heq; exact absurd rfl (hne _)
     ·rename_i heq; cases heq; exact he
     ·rename_i heq; cases heq
    ·cases he
   ·cases he
  ·cases he
 ·cases he
theorem ev_eq {lo f : Nat} {args : List V} {h : Heap} (hp : prim f = none) : ev P hints prim lo f args h = evBody P hints (ev P hints prim) loopW lo f args h := by
 cases hb : evBody P hints (ev P hints prim) loopW lo f args h with
 | some r =>
  obtain ⟨n, hn⟩ := evBody_cont hb
  exact ev_of (n := n + 1) (by simp only [evFun, hp]; exact hn)
 | none =>
  cases he : ev P hints prim lo f args h with
  | none => rfl
  | some r =>
   obtain ⟨n, hn⟩ := ev_to he
   cases n with
   | zero => cases hn
   | succ n =>
    simp only [evFun, hp] at hn
    have := evBody_le (fun lo f args h r hr => ev_of (n := n) hr) loopN_W hn
    rw [this] at hb
    cases hb
theorem ev_prim {lo f : Nat} {args : List V} {h : Heap} {p : Nat -> List V -> Heap -> Option (V × Heap)} (hp : prim f = some p) : ev P hints prim lo f args h = p lo args h := by
 cases hb : p lo args h with
 | some r => exact ev_of (n := 1) (by simp only [evFun, hp]; exact hb)
 | none =>
  cases he : ev P hints prim lo f args h with
  | none => rfl
  | some r =>
   obtain ⟨n, hn⟩ := ev_to he
   cases n with
   | zero => cases hn
   | succ n => simp only [evFun, hp] at hn; rw [hb] at hn; cases hn
end ev
end Go.Lift
end

section
namespace Go.Lift
open Go.ChangeShapes Go.WideShapes Go.RowKit
mutual
inductive Ty (P : Program) : TypeId -> List V -> Prop
 | bool {t : TypeId} (b : Bool) : P.underlying t = some .bool -> Ty P t [.v (.bool b)]
 | int {t : TypeId} (k : IntKind) (n : Int) : P.underlying t = some (.int k) -> (Lit.int k n).wf = true -> Ty P t [.v (.int k n)]
 | string {t : TypeId} (s : ByteArray) : P.underlying t = some .string -> Ty P t [.v (.string s)]
 | slice {t e : TypeId} (rows : List (List V)) : P.underlying t = some (.slice e) -> (∀ row ∈ rows, Ty P e row) -> Ty P t [.list .no rows]
 | struct {t : TypeId} (fs : Array Field) (cells : List V) : P.underlying t = some (.struct fs) -> TyFs P fs.toList cells -> Ty P t cells
inductive TyFs (P : Program) : List Field -> List V -> Prop
 | nil : TyFs P [] []
 | cons {f : Field} {fs : List Field} {p q : List V} : Ty P f.type p -> TyFs P fs q -> TyFs P (f :: fs) (p ++ q)
end
mutual
def vsize : V -> Nat
 | .v (.string s) => s.size + 1
 | .list _ rows => vsRows rows + 1
 | _ => 1
def vsRow : List V -> Nat
 | [] => 0
 | v :: r => vsize v + vsRow r
def vsRows : List (List V) -> Nat
 | [] => 0
 | r :: rs => vsRow r + vsRows rs
end
theorem vsRow_append (l r : List V) : vsRow (l ++ r) = vsRow l + vsRow r := by
 induction l with
 | nil => simp [vsRow]
 | cons x l ih => simp only [List.cons_append, vsRow, ih]; omega
def fieldsFlat (P : Program) (ts : List Nat) : Nat -> List Field -> Nat -> Bool
 | o, [], n => o == n
 | o, f :: fs, n => ts.contains f.type && f.offset == o && fieldsFlat P ts (o + P.cellsOf f.type) fs n
def plainTy (P : Program) (ts : List Nat) (t : Nat) : Bool := match P.underlying t with
 | some .bool => true
 | some (.int _) => true
 | some .string => true
 | some (.slice e) => ts.contains e && decide (0 < P.cellsOf e)
 | some (.struct fs) => fieldsFlat P ts 0 fs.toList (P.cellsOf t)
 | _ => false
structure IsBulk {H : Type} (B : DataW H -> Nat) (BA : List (DataW H) -> Nat) : Prop where
 nil : BA [] = 0
 cons : ∀ d r, BA (d :: r) = B d + BA r
 str : ∀ b, B (.lit (.string b)) = b.length + 1
 bool : ∀ b, B (.lit (.bool b)) = 1
 int : ∀ k n, B (.lit (.int k n)) = 1
 none : B .nil = 1
 slice : ∀ e s, BA e + 1 <= B (.slice e s)
 agg : ∀ p, B (.agg p) = BA p + 1
theorem bulk_get {H : Type} {B : DataW H -> Nat} {BA : List (DataW H) -> Nat} (hB : IsBulk B BA) : ∀ (l : List (DataW H)) (rows : List (List V)), l.length = rows.length ->
  (∀ (i : Nat) d row, l[i]? = some d -> rows[i]? = some row -> vsRow row <= B d) -> vsRows rows <= BA l
 | [], [], _, _ => by simp [vsRows, hB.nil]
 | d :: l, row :: rows, hl, h => by
  have h0 := h 0 d row rfl rfl
  have h1 := bulk_get hB l rows (by simpa using hl) (fun i d' row' a b => h (i + 1) d' row' (by simpa using a) (by simpa using b))
  simp only [vsRows, hB.cons]
  omega
section
variable {H : Type} {enc : TypeId × Value -> H} {P : Program} {w : World} {c : Cl}
def wholeCl (w : World) : Cl := fun b => match w.heap[b]? with
 | some (.cells arr _ _) => arr.size
 | _ => 0
theorem cell_spot {a : Addr} {x : Value} (h : w.cell? a = some x) : a.spot = none /\ a.off < wholeCl w a.block := by
 unfold World.cell? at h
 unfold wholeCl
 split at h
 ·rename_i arr _ _ hb
  rw [hb]
  split at h
  ·cases h
  ·rename_i hs
   refine ⟨by simpa using hs, ?_⟩
   exact (Array.getElem?_eq_some_iff.1 h).1
 ·cases h
theorem open_fields {B : DataW H -> Nat} {BA : List (DataW H) -> Nat} (hB : IsBulk B BA) {ts : List Nat} {fuel n : Nat} {cs : List Value}
  (ih : ∀ t cs d p, ts.contains t = true -> DataW.trod enc P w 0 (fun _ => true) true fuel t cs = some (d, p) -> ∃ vs, R2 (VP (wholeCl w) w) vs cs /\ Ty P t vs /\ vsRow vs <= B d) :
  ∀ (fs : List Field) (o : Nat) (xs : List (DataW H × List MemPlace)), fieldsFlat P ts o fs n = true -> cs.length = n -> xs.length = fs.length ->
   (∀ (i : Nat) (f : Field), fs[i]? = some f -> DataW.trod enc P w 0 (fun _ => true) true fuel f.type ((cs.drop f.offset).take (P.cellsOf f.type)) = xs[i]?) ->
   (∀ (i : Nat) (f : Field), fs[i]? = some f -> f.offset + P.cellsOf f.type <= n) ->
   ∃ vs, R2 (VP (wholeCl w) w) vs (cs.drop o) /\ TyFs P fs vs /\ vsRow vs <= BA (xs.map (·.1))
 | [], o, xs, hf, hc, hx, _, _ => by
  simp only [fieldsFlat, beq_iff_eq] at hf
  refine ⟨[], ?_, .nil, by simp [vsRow]⟩
  rw [List.drop_eq_nil_of_le (by omega)]
  exact R2.nil
 | f :: fs, o, x :: xs, hf, hc, hx, hg, hin => by
  simp only [fieldsFlat, Bool.and_eq_true, beq_iff_eq] at hf
  obtain ⟨⟨hm, ho⟩, hr⟩ := hf
  have h0 := hg 0 f rfl
  simp only [List.getElem?_cons_zero] at h0
  obtain ⟨p, hp1, hp2, hp3⟩ := ih f.type _ x.1 x.2 hm h0
  obtain ⟨q, hq1, hq2, hq3⟩ := open_fields hB ih fs _ xs hr hc (by simpa using hx) (fun i g h => hg (i + 1) g (by simpa using h)) (fun i g h => hin (i + 1) g (by simpa using h))
  refine ⟨p ++ q, ?_, .cons hp2 hq2, ?_⟩
  ·have : cs.drop o = (cs.drop f.offset).take (P.cellsOf f.type) ++ cs.drop (o + P.cellsOf f.type) := by
    rw [<- ho, <- List.drop_drop, List.take_append_drop]
   rw [this]
   exact hp1.append hq1
  ·rw [vsRow_append, List.map_cons, hB.cons]
   omega
theorem flat_in {ts : List Nat} {n : Nat} : ∀ {fs : List Field} {o : Nat}, fieldsFlat P ts o fs n = true -> o <= n /\ ∀ (i : Nat) (f : Field), fs[i]? = some f -> f.offset + P.cellsOf f.type <= n
 | [], o, h => by
  simp only [fieldsFlat, beq_iff_eq] at h
  exact ⟨by omega, fun i f hf => by simp at hf⟩
 | f :: fs, o, h => by
  simp only [fieldsFlat, Bool.and_eq_true, beq_iff_eq] at h
  obtain ⟨⟨_, ho⟩, hr⟩ := h
  obtain ⟨h1, h2⟩ := flat_in hr
  refine ⟨by omega, fun i g hg => ?_⟩
  cases i with
  | zero => simp at hg; subst hg; omega
  | succ i => exact h2 i g (by simpa using hg)
theorem open_ty {B : DataW H -> Nat} {BA : List (DataW H) -> Nat} (hB : IsBulk B BA) {ts : List Nat} (hts : ts.all (plainTy P ts) = true) :
  ∀ (fuel : Nat) (t : TypeId) (cs : List Value) (d : DataW H) (p : List MemPlace), ts.contains t = true -> DataW.trod enc P w 0 (fun _ => true) true fuel t cs = some (d, p) ->
   ∃ vs, R2 (VP (wholeCl w) w) vs cs /\ Ty P t vs /\ vsRow vs <= B d := by
 intro fuel
 induction fuel with
 | zero => intro t cs d p _ h; simp [DataW.trod] at h
 | succ fuel ih =>
  intro t cs d p ht h
  have hp : plainTy P ts t = true := List.all_eq_true.1 hts t (by simpa using ht)
  unfold plainTy at hp
  split at hp
  ·rename_i hu
   obtain ⟨b, rfl, hx⟩ := DataW.trod_bool hu h
   cases hx
   exact ⟨[.v (.bool b)], .cons (.v _ rfl) .nil, .bool b hu, by simp [vsRow, vsize, hB.bool]⟩
  ·rename_i k hu
   obtain ⟨n, rfl, hx, hw⟩ := DataW.trod_int hu h
   cases hx
   exact ⟨[.v (.int k n)], .cons (.v _ rfl) .nil, .int k n hu hw, by simp [vsRow, vsize, hB.int]⟩
  ·rename_i hu
   obtain ⟨s, rfl, hx, hw⟩ := DataW.trod_string hu h
   cases hx
   refine ⟨[.v (.string s)], .cons (.v _ rfl) .nil, .string s hu, ?_⟩
   rw [hB.str]
   simp [vsRow, vsize]
  ·rename_i e hu
   simp only [Bool.and_eq_true, decide_eq_true_eq] at hp
   rcases DataW.trod_slice hu h with ⟨rfl, hx⟩ | ⟨a, len, cap, elems, rest, n, hn, rfl, hx, _, hl, hm, hlen, hel, _, _⟩
   ·cases hx
    exact ⟨[.list .no []], .cons (.empty _ _ _) .nil, .slice [] hu (by simp), by simp [vsRow, vsize, vsRows, hB.none]⟩
   ·obtain rfl : fuel = n := by omega
    cases hx
    have each : ∀ i : Nat, i < len -> ∃ r : List V × List Value, w.cells? 0 (a.add (i * P.cellsOf e)) (P.cellsOf e) = some r.2 /\ R2 (VP (wholeCl w) w) r.1 r.2 /\ Ty P e r.1 /\
      ∀ y, elems[i]? = some y -> vsRow r.1 <= B y.1 := by
     intro i hi
     have hy := hel i hi
     have hi' : i < elems.length := by omega
     rw [List.getElem?_eq_getElem hi'] at hy
     obtain ⟨cs', h1, h2⟩ := Option.bind_eq_some_iff.1 hy
     obtain ⟨vs, g1, g2, g3⟩ := ih e cs' elems[i].1 elems[i].2 (by simpa using hp.1) h2
     refine ⟨(vs, cs'), h1, g1, g2, fun y hy => ?_⟩
     rw [List.getElem?_eq_getElem hi'] at hy
     cases hy
     exact g3
    have hch : ∃ F : Nat -> List V × List Value, ∀ i, i < len -> w.cells? 0 (a.add (i * P.cellsOf e)) (P.cellsOf e) = some (F i).2 /\ R2 (VP (wholeCl w) w) (F i).1 (F i).2 /\ Ty P e (F i).1 /\
      ∀ y, elems[i]? = some y -> vsRow (F i).1 <= B y.1 := by
     classical
     refine ⟨fun i => if hi : i < len then Classical.choose (each i hi) else ([], []), fun i hi => ?_⟩
     simp only [dif_pos hi]
     exact Classical.choose_spec (each i hi)
    obtain ⟨F, hF⟩ := hch
    have hget : ∀ (i : Nat) (row : List V), ((List.range len).map fun i => (F i).1)[i]? = some row -> i < len /\ row = (F i).1 := by
     intro i row hr
     simp only [List.getElem?_map, Option.map_eq_some_iff] at hr
     obtain ⟨j, hj, rfl⟩ := hr
     obtain ⟨hj1, rfl⟩ := List.getElem?_eq_some_iff.1 hj
     simp at hj1 ⊢
     exact hj1
    have hrows : ∀ row ∈ (List.range len).map fun i => (F i).1, Ty P e row := by
     intro row hr
     simp only [List.mem_map, List.mem_range] at hr
     obtain ⟨i, hi, rfl⟩ := hr
     exact (hF i hi).2.2.1
    have hbulk : vsRow [V.list .no ((List.range len).map fun i => (F i).1)] <= B (DataW.slice (elems.map (·.1)) (rest.map (·.1))) := by
     have := bulk_get hB (elems.map (·.1)) ((List.range len).map fun i => (F i).1) (by simp [hlen]) (fun i d row hd hr => by
      obtain ⟨hi, rfl⟩ := hget i row hr
      simp only [List.getElem?_map, Option.map_eq_some_iff] at hd
      obtain ⟨y, hy, rfl⟩ := hd
      exact (hF i hi).2.2.2 y hy)
     have h9 := hB.slice (elems.map (·.1)) (rest.map (·.1))
     simp only [vsRow, vsize]
     omega
    by_cases h0 : len = 0
    ·subst h0
     exact ⟨[.list .no []], .cons (.empty _ _ _) .nil, .slice [] hu (by simp), by simpa using hbulk⟩
    ·refine ⟨[.list .no ((List.range len).map fun i => (F i).1)], .cons ?_ .nil, .slice _ hu hrows, hbulk⟩
     have hcell : ∀ i j, i < len -> j < P.cellsOf e -> ∃ x, (F i).2[j]? = some x /\ w.cell? ⟨a.block, a.off + i * P.cellsOf e + j, none⟩ = some x /\ a.spot = none /\ a.off + i * P.cellsOf e + j < wholeCl w a.block := by
      intro i j hi hj
      obtain ⟨h1, h2, h3⟩ := World.cells?_some (hF i hi).1
      have hx := h3 j hj
      have hj' : j < (F i).2.length := by omega
      rw [List.getElem?_eq_getElem hj'] at hx
      refine ⟨(F i).2[j], List.getElem?_eq_getElem hj', ?_⟩
      obtain ⟨hs, ho⟩ := cell_spot hx
      have hsp : a.spot = none := by
       obtain ⟨_, _, k3⟩ := World.cells?_some (hF 0 (by omega)).1
       have kx := k3 0 hp.2
       have kj : 0 < (F 0).2.length := by
        obtain ⟨_, k2, _⟩ := World.cells?_some (hF 0 (by omega)).1
        omega
       rw [List.getElem?_eq_getElem kj] at kx
       have := (cell_spot kx).1
       simpa [Addr.add] using this
      have hadr : (a.add (i * P.cellsOf e)).add j = ⟨a.block, a.off + i * P.cellsOf e + j, none⟩ := by
       obtain ⟨ab, ao, as⟩ := a
       simp only at hsp
       subst hsp
       unfold Addr.add
       by_cases e1 : i * P.cellsOf e = 0 <;> by_cases e2 : j = 0 <;> simp [e1, e2, Nat.add_assoc]
      rw [hadr] at hx ho
      exact ⟨hx, hsp, ho⟩
     obtain ⟨x0, _, _, hsp, _⟩ := hcell 0 0 (by omega) hp.2
     have hlen2 : ((List.range len).map fun i => (F i).1).length = len := by simp
     have hrec : ∀ (i j : Nat) (row : List V) (v : V), ((List.range len).map fun i => (F i).1)[i]? = some row -> row[j]? = some v -> j < P.cellsOf e /\ w.cell? ⟨a.block, a.off + i * P.cellsOf e + j, none⟩ = some ((F i).2.getD j default) /\ VP (wholeCl w) w v ((F i).2.getD j default) := by
      intro i j row v hr hv
      obtain ⟨hi, rfl⟩ := hget i row hr
      obtain ⟨_, k2, _⟩ := World.cells?_some (hF i hi).1
      have hj : j < P.cellsOf e := by
       have := (List.getElem?_eq_some_iff.1 hv).1
       rw [(hF i hi).2.1.1] at this
       omega
      obtain ⟨x, hx1, hx2, _, _⟩ := hcell i j hi hj
      have hx3 : (F i).2.getD j default = x := by simp [List.getD, hx1]
      rw [hx3]
      exact ⟨hj, hx2, (hF i hi).2.1.2 j v x hv hx1⟩
     have key := VP.list (c := wholeCl w) (w := w) .no ((List.range len).map fun i => (F i).1) a cap (P.cellsOf e) (fun i j => (F i).2.getD j default)
      (by intro he; have := congrArg List.length he; simp at this; omega) hp.2 hsp (by rw [hlen2]; exact hl)
      (by
       rw [hlen2]
       obtain ⟨_, _, _, _, hb⟩ := hcell (len - 1) (P.cellsOf e - 1) (by omega) (by omega)
       have e1 : len * P.cellsOf e = (len - 1) * P.cellsOf e + P.cellsOf e := by
        rw [<- Nat.succ_mul, show (len - 1).succ = len by omega]
       omega)
      (fun i row hr => by
       obtain ⟨hi, rfl⟩ := hget i row hr
       obtain ⟨_, k2, _⟩ := World.cells?_some (hF i hi).1
       rw [(hF i hi).2.1.1]; omega)
      (fun i j row v hr hv => (hrec i j row v hr hv).2.1) (fun i j row v hr hv => (hrec i j row v hr hv).2.2)
     rw [hlen2] at key
     exact key
  ·rename_i fs hu
   obtain ⟨xs, n, hn, hx, hcs, hxs, hg⟩ := DataW.trod_struct hu h
   obtain rfl : fuel = n := by omega
   cases hx
   obtain ⟨vs, h1, h2, h3⟩ := open_fields hB ih fs.toList 0 xs hp hcs (by simpa using hxs) (fun i f hf => hg i f (by simpa using hf)) (flat_in hp).2
   refine ⟨vs, by simpa using h1, .struct fs vs hu h2, ?_⟩
   rw [hB.agg]
   omega
  ·cases hp
def TyV (P : Program) (t : TypeId) (v : V) : Prop := match P.underlying t with
 | some (.struct _) => ∃ cs, v = .agg cs /\ Ty P t cs
 | _ => Ty P t [v]
theorem VP.vr0 {m : List Nat} {v : V} {x : Value} (h : VP c w v x) : VR0 m c w v x := by
 cases h with
 | v x h => rfl
 | nil => rfl
 | empty k ao cap => exact .empty k ao cap
 | list k rows a cap sz xs h1 h2 h3 h4 h5 h6 h7 h8 => exact .list k rows a cap sz xs h1 h2 h3 h4 h5 h6 h7 h8
theorem VP.vr1 {m : List Nat} {v : V} {x : Value} (h : VP c w v x) : VR1 m c w v x := by
 have h0 := h.vr0 (m := m)
 cases h with
 | v x h => exact h0
 | nil => exact h0
 | empty k ao cap => exact h0
 | list k rows a cap sz xs h1 h2 h3 h4 h5 h6 h7 h8 => exact h0
theorem VP.vrr {m : List Nat} {v : V} {x : Value} (h : VP c w v x) : VRr m c w v x := by
 have h0 := h.vr0 (m := m)
 cases h with
 | v x h => exact h0
 | nil => exact h0
 | empty k ao cap => exact h0
 | list k rows a cap sz xs h1 h2 h3 h4 h5 h6 h7 h8 => exact h0
def asize : V -> Nat
 | .agg cs => vsRow cs
 | v => vsize v
def asizes : List V -> Nat
 | [] => 0
 | v :: r => asize v + asizes r
end
end Go.Lift
end

section
namespace Go.Lift
open Go.ChangeShapes Go.WideShapes Go.RowKit
def TysV (P : Program) : List TypeId -> List V -> Prop
 | [], [] => True
 | t :: ts, v :: vs => TyV P t v /\ TysV P ts vs
 | _, _ => False
theorem size1 (v : V) (h : ∀ cs, v ≠ .agg cs) : asize v = vsRow [v] := by
 cases v with
 | agg cs => exact absurd rfl (h cs)
 | _ => simp [asize, vsRow]
section
variable {H : Type} {enc : TypeId × Value -> H} {P : Program} {w : World}
theorem r2_one {c : Cl} {vs : List V} {y : Value} (h : R2 (VP c w) vs [y]) : ∃ v, vs = [v] /\ VP c w v y := by
 match vs, h.1 with
 | [v], _ => exact ⟨v, rfl, h.head⟩
theorem open_arg {B : DataW H -> Nat} {BA : List (DataW H) -> Nat} (hB : IsBulk B BA) {ts : List Nat} (hts : ts.all (plainTy P ts) = true) {t : TypeId} {y : Value} {d : DataW H} {p : List MemPlace}
  (ht : ts.contains t = true) (hok : Value.okWide P w .any 0 t y) (h : DataW.Trod enc P w 0 (fun _ => true) true t y d p) :
  ∃ v, VRr [] (wholeCl w) w v y /\ TyV P t v /\ asize v <= B d := by
 obtain ⟨fuel, hf⟩ := h
 obtain ⟨vs, h1, h2, h3⟩ := open_ty hB hts fuel t _ d p ht hf
 have hp : plainTy P ts t = true := List.all_eq_true.1 hts t (by simpa using ht)
 have one : (∀ xs, y ≠ .agg xs) -> (∀ fs, P.underlying t ≠ some (.struct fs)) -> ∃ v, VRr [] (wholeCl w) w v y /\ TyV P t v /\ asize v <= B d := by
  intro hy hn
  have : y.cells.toList = [y] := by
   cases y with
   | agg xs => exact absurd rfl (hy xs)
   | _ => rfl
  rw [this] at h1
  obtain ⟨v, rfl, hv⟩ := r2_one h1
  refine ⟨v, hv.vrr, ?_, ?_⟩
  ·unfold TyV
   split
   ·rename_i fs he
    exact absurd he (hn fs)
   ·exact h2
  ·rw [size1]
   ·exact h3
   ·intro cs hc
    subst hc
    cases hv
 unfold plainTy at hp
 split at hp
 ·rename_i hu
  obtain ⟨b, rfl⟩ := okWide_bool hu hok
  exact one (fun _ h => by cases h) (fun fs h => by rw [hu] at h; cases h)
 ·rename_i k hu
  obtain ⟨b, rfl⟩ := okWide_int hu hok
  exact one (fun _ h => by cases h) (fun fs h => by rw [hu] at h; cases h)
 ·rename_i hu
  obtain ⟨b, rfl⟩ := okWide_string hu hok
  exact one (fun _ h => by cases h) (fun fs h => by rw [hu] at h; cases h)
 ·rename_i e hu
  obtain ⟨a, len, cap, rfl⟩ := okWide_slice hu hok
  exact one (fun _ h => by cases h) (fun fs h => by rw [hu] at h; cases h)
 ·rename_i fs hu
  obtain ⟨xs, rfl, _⟩ := okWide_struct hu hok
  refine ⟨.agg vs, ⟨xs, rfl, h1.mono fun _ _ hv => hv.vr1⟩, ?_, h3⟩
  unfold TyV
  rw [hu]
  exact ⟨vs, rfl, h2⟩
 ·cases hp
theorem open_args {B : DataW H -> Nat} {BA : List (DataW H) -> Nat} (hB : IsBulk B BA) {ts : List Nat} (hts : ts.all (plainTy P ts) = true) :
  ∀ {us : List TypeId} {ys : List Value} {ds : List (DataW H)} {p : List MemPlace}, us.all ts.contains = true -> (∀ (j : Nat) t v, us[j]? = some t -> ys[j]? = some v -> Value.okWide P w .any 0 t v) ->
   DataW.TrodAll enc P w 0 (fun _ => true) true us ys ds p -> ∃ vs, R2 (VRr [] (wholeCl w) w) vs ys /\ TysV P us vs /\ asizes vs <= BA ds
 | [], ys, ds, p, _, _, h => by
  obtain ⟨rfl, rfl, rfl⟩ := trodAll_nil h
  exact ⟨[], R2.nil, trivial, by simp [asizes]⟩
 | u :: us, ys, ds, p, hu, hok, h => by
  obtain ⟨y, ys', d, ds', a, b, rfl, rfl, rfl, h1, h2⟩ := trodAll_cons h
  simp only [List.all_cons, Bool.and_eq_true] at hu
  obtain ⟨v, v1, v2, v3⟩ := open_arg hB hts hu.1 (hok 0 u y rfl rfl) h1
  obtain ⟨vs, w1, w2, w3⟩ := open_args hB hts hu.2 (fun j t x hj hx => hok (j + 1) t x (by simpa using hj) (by simpa using hx)) h2
  refine ⟨v :: vs, R2.cons v1 w1, ⟨v2, w2⟩, ?_⟩
  simp only [asizes, hB.cons]
  omega
variable [GTab] [BTy]
def GOK (w : World) : Prop := ∀ n cs, GTab.tab n = some cs -> ROs (wholeCl w) w ⟨n, 0, none⟩ cs
theorem whole_hok (w : World) (hG : GOK w) : HOK [] (wholeCl w) w [] := by
 refine ⟨⟨?_, ?_, List.nodup_nil, rfl, ?_, ?_, ?_, ?_, ?_, ?_, hG⟩, ?_⟩
 ·intro b hb
  unfold wholeCl at hb ⊢
  split at hb
  ·rename_i arr e f he
   exact ⟨arr, e, f, he, by simp⟩
  ·cases hb
 ·intro b hb; cases hb
 ·intro t; trivial
 ·intro i o b ho; simp at ho
 ·intro l r x hl
  cases l with
  | slot t => exact absurd hl.1 (by simp [look])
  | cell i j => obtain ⟨os, b, ho, _⟩ := hl; simp [cellsOfOb] at ho
 ·intro l l' r r' x x' b hl
  cases l with
  | slot t => exact absurd hl.1 (by simp [look])
  | cell i j => obtain ⟨os, b, ho, _⟩ := hl; simp [cellsOfOb] at ho
 ·intro t u r ht; simp [look] at ht
 ·intro t i j r ht; simp [look] at ht
 ·intro i cs hi; simp [cellsOfOb] at hi
theorem call_of {hints : Nat -> Hint} {prim : Nat -> Option (Nat -> List V -> Heap -> Option (V × Heap))} (hm : P.follows .mixedOrders = true)
  (hprim : ∀ f p, prim f = some p -> ∀ lo args h r h', lo <= h.length -> p lo args h = some (r, h') -> CallOK P lo f args h r h')
  {f : Nat} {vs : List V} {x : Value} {args : Array Value} (hG : GOK w) (he : ev P hints prim 0 f vs [] = some (.v x, [])) (ha : R2 (VRr [] (wholeCl w) w) vs args.toList) :
  Calls P f args w fun e w' => e = .returned x /\ Below w.heap.size w w' := by
 obtain ⟨n, hn⟩ := ev_to he
 have hc := fun_ok hm hprim n 0 f vs [] (.v x) [] (Nat.le_refl _) hn
 obtain ⟨_, hcall⟩ := hc.2.2 [] (wholeCl w) w args (whole_hok w hG) ha
 refine hcall.mono fun e w' ⟨y, c', m', h1, h2, _, h4, _⟩ => ?_
 obtain rfl : y = x := h2
 refine ⟨h1, h4.os, h4.tape, h4.output, h4.size, fun k hk => (h4.fix k hk (fun i _ h => by simp at h) ?_).1⟩
 rintro ⟨i, j, r, z, _, hl, _⟩
 obtain ⟨os, b, ho, _⟩ := hl
 simp [cellsOfOb] at ho
theorem post_of_below {f : Func} {s : ChangeSpec} {apart fresh handsOn again : Bool} {W W' : World} {args : Array Value} {v : Value} {ds gs : List (DataW H)} {before pa pv : List MemPlace}
  (hW : DataW.Whole enc P f.params.toList s.vars apart W args.toList ds gs before)
  (hres : ∀ (b : Nat) (sp : Nat -> Bool) (hd : Bool), DataW.TrodAll enc P W' b sp hd f.resultTypes.toList (v.resultList f.resultTypes.size) (s.fn H (ds ++ gs)).results [])
  (hargs : DataW.TrodAll enc P W' 0 (fun b => decide (b < W.heap.size)) true f.params.toList args.toList (s.fn H (ds ++ gs)).args pa)
  (hargs2 : DataW.TrodAll enc P W' 0 (fun _ => true) true f.params.toList args.toList (s.fn H (ds ++ gs)).args pa)
  (hvars : ∀ sp : Nat -> Bool, (∀ p ∈ before, sp p.block = true) -> DataW.TrodVars enc P W' sp s.vars (s.fn H (ds ++ gs)).vars pv)
  (hps : before = pa ++ pv) (hb : Below W.heap.size W W')
  (hok : ∀ (j : Nat) (t : TypeId) (r : Value), f.resultTypes[j]? = some t -> (v.resultList f.resultTypes.size)[j]? = some r -> Value.okWide P W' .any 0 t r) :
  s.post enc P f apart fresh handsOn again W args v W' := by
 have hold : ∀ p ∈ before, (fun b => decide (b < W.heap.size)) p.block = true := fun p hp => by simpa using hW.lt p hp
 refine ⟨ds, gs, before, [], pa, pv, hW, hres _ _ _, hargs, hvars _ hold, World.keptBut_mono (fun p hp => ⟨hp, ?_⟩) (hb.frame _), fun _ => ?_⟩
 ·rw [hps, List.mem_append] at hp
  exact Or.inr hp
 ·have hlt := hW.lt
  obtain ⟨_, _, _, _, _, hz, hn⟩ := hW
  refine ⟨hok, _, _, ([] ++ pa) ++ pv, ⟨[] ++ pa, pv, trodAll_append hargs2 (hres _ _ _), hvars _ (fun _ _ => rfl), rfl, ?_, ?_⟩, ?_⟩
  ·intro b off hp
   have hm : MemPlace.cell b off ∈ before := by rw [hps]; simpa using hp
   rw [hb.frozen (p := ⟨b, off, none⟩) (show b < W.heap.size from hlt _ hm)]
   exact hz b off hm
  ·intro ha
   have := hn ha
   rw [hps] at this
   simpa using this
  ·intro p hp _
   rw [hps]
   simpa using hp
theorem trod_stays {t : TypeId} (hl : laidOutB P = true) (hr : P.readableRec t = true) (hrow : t < P.types.size) {W W' : World} {v : Value} {d : DataW H} {ps : List MemPlace}
  (h : DataW.Trod enc P W 0 (fun _ => true) true t v d ps) (hb : Below W.heap.size W W') (hlt : ∀ x ∈ ps, x.block < W.heap.size) (sp : Nat -> Bool) (hsp : ∀ x ∈ ps, sp x.block = true) :
  DataW.Trod enc P W' 0 sp true t v d ps :=
 WideElems.Trod_stays hl hr hrow h (fun x hx => hb.same (hlt x hx)) (fun x hx => by simpa using hsp x hx)
theorem trodAll_stays (hl : laidOutB P = true) {W W' : World} (hb : Below W.heap.size W W') :
  ∀ {us : List TypeId} {ys : List Value} {ds : List (DataW H)} {p : List MemPlace}, us.all (fun t => P.readableRec t && decide (t < P.types.size)) = true ->
   DataW.TrodAll enc P W 0 (fun _ => true) true us ys ds p -> (∀ x ∈ p, x.block < W.heap.size) -> ∀ (sp : Nat -> Bool), (∀ x ∈ p, sp x.block = true) -> DataW.TrodAll enc P W' 0 sp true us ys ds p
 | [], ys, ds, p, _, h, _, sp, _ => by
  obtain ⟨rfl, rfl, rfl⟩ := trodAll_nil h
  rfl
 | u :: us, ys, ds, p, hu, h, hlt, sp, hsp => by
  obtain ⟨y, ys', d, ds', a, b, rfl, rfl, rfl, h1, h2⟩ := trodAll_cons h
  simp only [List.all_cons, Bool.and_eq_true, decide_eq_true_eq] at hu
  exact ⟨a, b, trod_stays hl hu.1.1 hu.1.2 h1 hb (fun x hx => hlt x (by simp [hx])) sp (fun x hx => hsp x (by simp [hx])),
   trodAll_stays hl hb (by simpa using hu.2) h2 (fun x hx => hlt x (by simp [hx])) sp (fun x hx => hsp x (by simp [hx])), rfl⟩
theorem law_of {hints : Nat -> Hint} {prim : Nat -> Option (Nat -> List V -> Heap -> Option (V × Heap))} (hm : P.follows .mixedOrders = true)
  (hprim : ∀ f p, prim f = some p -> ∀ lo args h r h', lo <= h.length -> p lo args h = some (r, h') -> CallOK P lo f args h r h')
  {B : DataW H -> Nat} {BA : List (DataW H) -> Nat} (hB : IsBulk B BA) {ts : List Nat} (hts : ts.all (plainTy P ts) = true) {fn : Func} {f bt N : Nat}
  (hin : fn.params.toList.all ts.contains = true) (hrd : fn.params.toList.all (fun t => P.readableRec t && decide (t < P.types.size)) = true) (hlaid : laidOutB P = true)
  (hrt : fn.resultTypes = #[bt]) (hbt : P.underlying bt = some .bool)
  {s : ChangeSpec} (hv : s.vars = []) (hs : ∀ l : List (DataW H), l.length = fn.params.size -> s.fn H l = { results := [.lit (.bool true)], args := l })
  (he : ∀ vs, TysV P fn.params.toList vs -> asizes vs <= N -> ev P hints prim 0 f vs [] = some (.v (.bool true), []))
  {W : World} (hG : GOK W) {args : Array Value} {ds gs : List (DataW H)} {before : List MemPlace} {fresh handsOn again : Bool}
  (hval : ∀ (j : Nat) t v, fn.params[j]? = some t -> args[j]? = some v -> Value.okWide P W .any 0 t v)
  (hW : DataW.Whole enc P fn.params.toList s.vars false W args.toList ds gs before) (hk : BA (ds ++ gs) <= N) :
  Calls P f args W fun e W' => ∃ v, e = .returned v /\ s.post enc P fn false fresh handsOn again W args v W' := by
 have hW' := hW
 have hlt := hW.lt
 obtain ⟨p, q, hA, hV, rfl, hfz, hnd⟩ := hW
 rw [hv] at hV
 obtain ⟨rfl, rfl⟩ := trodVars_none hV
 simp only [List.append_nil] at hW' hk hlt
 obtain ⟨vs, h1, h2, h3⟩ := open_args hB hts hin (fun j t v hj hx => hval j t v (by simpa using hj) (by simpa using hx)) hA
 refine (call_of hm hprim hG (he vs h2 (by omega)) h1).mono fun e W' ⟨he, hb⟩ => ?_
 subst he
 refine ⟨_, rfl, ?_⟩
 have hlen : ∀ {us : List TypeId} {ys : List Value} {ds : List (DataW H)} {p : List MemPlace}, DataW.TrodAll enc P W 0 (fun _ => true) true us ys ds p -> ds.length = us.length := by
  intro us
  induction us with
  | nil => intro ys ds p h; obtain ⟨rfl, rfl, rfl⟩ := trodAll_nil h; rfl
  | cons u us ih =>
   intro ys ds p h
   obtain ⟨y, ys', d, ds', a, b, rfl, rfl, rfl, h1, h2⟩ := trodAll_cons h
   simp [ih h2]
 have hs' := hs ds (by simpa using hlen hA)
 refine post_of_below (gs := []) (pa := p) (pv := []) hW' ?_ ?_ ?_ ?_ (by simp) hb ?_
 ·intro b sp hd
  rw [List.append_nil, hs', hrt]
  exact trodAll_mk1 (shut_bool hbt _)
 ·rw [List.append_nil, hs']
  exact trodAll_stays hlaid hb hrd hA hlt _ (fun x hx => by simpa using hlt x hx)
 ·rw [List.append_nil, hs']
  exact trodAll_stays hlaid hb hrd hA hlt _ (fun x hx => rfl)
 ·intro sp _
  rw [List.append_nil, hs', hv]
  rfl
 ·exact ok_one hrt rfl (okWide_bool_mk hbt _)
end
end Go.Lift
end

section
namespace Go.Lift
def iand (k : IntKind) (a b : Int) : Int := ((BitVec.ofInt k.bits a &&& BitVec.ofInt k.bits b).toNat : Int)
def ior (k : IntKind) (a b : Int) : Int := ((BitVec.ofInt k.bits a ||| BitVec.ofInt k.bits b).toNat : Int)
def ixor (k : IntKind) (a b : Int) : Int := ((BitVec.ofInt k.bits a ^^^ BitVec.ofInt k.bits b).toNat : Int)
def ishl (k : IntKind) (a b : Int) : Int := a * 2 ^ (min b.toNat k.bits)
def ishr (k : IntKind) (a b : Int) : Int := a.fdiv (2 ^ (min b.toNat k.bits))
section bin
variable (k : IntKind) (a b : Int)
theorem b_add : binS .add (.int k a) (.int k b) = some (.int k (k.wrap (a + b))) := by unfold binS; exact if_pos rfl
theorem b_sub : binS .sub (.int k a) (.int k b) = some (.int k (k.wrap (a - b))) := by unfold binS; exact if_pos rfl
theorem b_mul : binS .mul (.int k a) (.int k b) = some (.int k (k.wrap (a * b))) := by unfold binS; exact if_pos rfl
theorem b_quo : binS .quo (.int k a) (.int k b) = if b = 0 then none else some (.int k (k.wrap (a.tdiv b))) := by unfold binS; exact if_pos rfl
theorem b_rem : binS .rem (.int k a) (.int k b) = if b = 0 then none else some (.int k (a.tmod b)) := by unfold binS; exact if_pos rfl
theorem b_and : binS .and (.int k a) (.int k b) = some (.int k (k.wrap (iand k a b))) := by unfold binS; exact if_pos rfl
theorem b_or : binS .or (.int k a) (.int k b) = some (.int k (k.wrap (ior k a b))) := by unfold binS; exact if_pos rfl
theorem b_eql : binS .eql (.int k a) (.int k b) = some (.bool (a == b)) := by unfold binS; exact if_pos rfl
theorem b_neq : binS .neq (.int k a) (.int k b) = some (.bool (a != b)) := by unfold binS; exact if_pos rfl
theorem b_lss : binS .lss (.int k a) (.int k b) = some (.bool (decide (a < b))) := by unfold binS; exact if_pos rfl
theorem b_leq : binS .leq (.int k a) (.int k b) = some (.bool (decide (a ≤ b))) := by unfold binS; exact if_pos rfl
theorem b_gtr : binS .gtr (.int k a) (.int k b) = some (.bool (decide (b < a))) := by unfold binS; exact if_pos rfl
theorem b_geq : binS .geq (.int k a) (.int k b) = some (.bool (decide (b ≤ a))) := by unfold binS; exact if_pos rfl
theorem b_shl (k' : IntKind) : binS .shl (.int k a) (.int k' b) = if 0 ≤ b then some (.int k (k.wrap (ishl k a b))) else none := by unfold binS; rfl
theorem b_shr (k' : IntKind) : binS .shr (.int k a) (.int k' b) = if 0 ≤ b then some (.int k (ishr k a b)) else none := by unfold binS; rfl
theorem b_sadd (s t : ByteArray) : binS .add (.string s) (.string t) = if s.size + t.size ≤ 9223372036854775807 then some (.string (s ++ t)) else none := by unfold binS; rfl
theorem b_seql (s t : ByteArray) : binS .eql (.string s) (.string t) = some (.bool (s.toList == t.toList)) := by unfold binS; rfl
theorem b_sneq (s t : ByteArray) : binS .neq (.string s) (.string t) = some (.bool (!(s.toList == t.toList))) := by unfold binS; rfl
theorem u_neg : unS .neg (.int k a) = some (.int k (k.wrap (0 - a))) := rfl
theorem u_not (x : Bool) : unS .not (.bool x) = some (.bool !x) := rfl
end bin
def loops : Code → List Code
 | .seq a b => loops a ++ loops b
 | .cond _ a b => loops a ++ loops b
 | .block _ a => loops a
 | .loop a => a :: loops a
 | .scope a => loops a
 | _ => []
def loopAt (b : Code) (i : Nat) : Code := ((loops b)[i]?).getD .skip
def bodyOf (f : Func) : Code := f.body.getD .skip
theorem wrap_i64 {n : Int} (h0 : -9223372036854775808 ≤ n) (h1 : n ≤ 9223372036854775807) : IntKind.i64.wrap n = n := by
 simp only [IntKind.wrap, IntKind.bits, IntKind.signed, Bool.true_and, Nat.reduceSub, Int.reducePow]
 split <;> simp_all <;> omega
theorem wrap_i32 {n : Int} (h0 : -2147483648 ≤ n) (h1 : n ≤ 2147483647) : IntKind.i32.wrap n = n := by
 simp only [IntKind.wrap, IntKind.bits, IntKind.signed, Bool.true_and, Nat.reduceSub, Int.reducePow]
 split <;> simp_all <;> omega
theorem wrap_u8 {n : Int} (h0 : 0 ≤ n) (h1 : n ≤ 255) : IntKind.u8.wrap n = n := by
 simp only [IntKind.wrap, IntKind.bits, IntKind.signed, Bool.false_and, Bool.false_eq_true, if_false, Int.reducePow]
 omega
theorem wrap_succ {i : Nat} (h : i ≤ 1000000000000000000) : IntKind.i64.wrap ((i : Int) + 1) = ((i + 1 : Nat) : Int) := by rw [wrap_i64] <;> omega
theorem n0 : ((0 : Nat) : Int) = 0 := rfl
def ri (k : IntKind) (l : List Int) : List (List V) := l.map fun n => [.v (.int k n)]
theorem ri_len (k : IntKind) (l : List Int) : (ri k l).length = l.length := by simp [ri]
theorem ri_get (k : IntKind) (l : List Int) (i : Nat) : (ri k l)[i]? = (l[i]?).map fun n => [V.v (.int k n)] := by simp [ri]
theorem ri_app (k : IntKind) (l m : List Int) : ri k l ++ ri k m = ri k (l ++ m) := by simp [ri]
theorem ri_drop (k : IntKind) (l : List Int) (n : Nat) : (ri k l).drop n = ri k (l.drop n) := by simp [ri]
theorem ri_take (k : IntKind) (l : List Int) : (ri k l).take l.length = ri k l := by rw [← ri_len k l, List.take_length]
theorem hp_at (h l : List Ob) (x : Ob) : (h ++ x :: l)[h.length]? = some x := by simp
theorem hp_atk (h l : List Ob) (k : Nat) : (h ++ l)[h.length + k]? = l[k]? := by rw [List.getElem?_append_right (by omega)]; congr 1; omega
theorem hp_set (h l : List Ob) (x y : Ob) : (h ++ x :: l).set h.length y = h ++ y :: l := by rw [List.set_append, if_neg (by omega), Nat.sub_self]; rfl
theorem hp_setk (h l : List Ob) (k : Nat) (y : Ob) : (h ++ l).set (h.length + k) y = h ++ l.set k y := by rw [List.set_append, if_neg (by omega), Nat.add_sub_cancel_left]
theorem hl_app (h l : List Ob) : (h ++ l).length = h.length + l.length := List.length_append
theorem hl_cons (x : Ob) (l : List Ob) : (x :: l).length = l.length + 1 := rfl
theorem hp_take (h l : List Ob) (k : Nat) : (h ++ l).take (h.length + k) = h ++ l.take k := by rw [List.take_append, List.take_of_length_le (by omega), Nat.add_sub_cancel_left]
theorem ri_nil (k : IntKind) : ri k [] = [] := rfl
theorem ri_cons (k : IntKind) (n : Int) (l : List Int) : ri k (n :: l) = [.v (.int k n)] :: ri k l := rfl
theorem ri_runes (l : List Int) : runesOf (ri .i32 l) = some l := by
 induction l with
 | nil => rfl
 | cons n l ih => rw [ri_cons]; unfold runesOf; rw [ih]; rfl
def u8s (l : List Int) : List UInt8 := l.map fun n => UInt8.ofNat n.toNat
theorem ri_bytes (l : List Int) : bytesOf (ri .u8 l) = some (u8s l) := by
 induction l with
 | nil => rfl
 | cons n l ih => rw [ri_cons]; unfold bytesOf; rw [ih]; rfl
theorem ri_all (k : IntKind) (l : List Int) : ((ri k l).all fun x => x.length == 1) = true := by simp [ri]
variable [GTab] [BTy]
section step
variable (c : Cx) (lp : LoopF) (s : St)
noncomputable def thenC (b : Code) : Option (Ex × St) → Option (Ex × St)
 | some (.normal, s') => evCode c lp b s'
 | r => r
noncomputable def lateC (a : Code) : Option (Nat × Array Oper × Nat × Array Oper) → Option (Ex × St)
 | some (k, ops, id', ops') => (evLate c k ops id' ops' s).map fun s' => (Ex.normal, s')
 | none => evCode c lp a s
noncomputable def condC (a b : Code) : V → Option (Ex × St)
 | .v (.bool t) => if t then evCode c lp a s else evCode c lp b s
 | .any => sameX (lateC c lp s a (lateOf c.P c.hint a)) (evCode c lp b s)
 | _ => none
def blockC (id : Nat) : Option (Ex × St) → Option (Ex × St)
 | some (.exit j, s') => if j = id then some (.normal, s') else some (.exit j, s')
 | r => r
def normC : Option St → Option (Ex × St)
 | some s => some (.normal, s)
 | none => none
theorem c_skip : evCode c lp .skip s = some (.normal, s) := rfl
theorem c_region (id : Nat) (ops : Array Oper) (draw : Bool) : evCode c lp (.region id ops draw) s = normC (evRegion c id ops draw s) := by
 simp only [evCode]
 cases evRegion c id ops draw s <;> rfl
theorem c_seq (a b : Code) : evCode c lp (.seq a b) s = thenC c lp b (evCode c lp a s) := by
 simp only [evCode]
 cases h : evCode c lp a s with
 | none => rfl
 | some p => obtain ⟨e, s'⟩ := p; cases e <;> rfl
theorem c_cond (x : Operand) (a b : Code) : evCode c lp (.cond x a b) s = condC c lp s a b (opd s.1 x) := by
 simp only [evCode]
 cases opd s.1 x with
 | any => simp only [condC]; congr 1
 | v x => cases x <;> rfl
 | _ => rfl
theorem c_block (id : Nat) (a : Code) : evCode c lp (.block id a) s = blockC id (evCode c lp a s) := by
 simp only [evCode]
 cases h : evCode c lp a s with
 | none => rfl
 | some p => obtain ⟨e, s'⟩ := p; cases e <;> rfl
theorem c_loop (a : Code) : evCode c lp (.loop a) s = lp (evCode c lp a) s := rfl
theorem c_exit (id : Nat) : evCode c lp (.exit id) s = some (.exit id, s) := rfl
theorem c_scope (a : Code) : evCode c lp (.scope a) s = evCode c lp a s := rfl
theorem c_label (l : Nat) : evCode c lp (.label l) s = some (.normal, s) := rfl
theorem c_ret : evCode c lp .ret s = some (.ret, s) := rfl
theorem then_n (b : Code) : thenC c lp b (some (.normal, s)) = evCode c lp b s := rfl
theorem then_e (b : Code) (id : Nat) : thenC c lp b (some (.exit id, s)) = some (.exit id, s) := rfl
theorem then_r (b : Code) : thenC c lp b (some (.ret, s)) = some (.ret, s) := rfl
theorem cond_any (a b : Code) : condC c lp s a b .any = sameX (lateC c lp s a (lateOf c.P c.hint a)) (evCode c lp b s) := rfl
def lateM (k : Nat) (ops : Array Oper) (id' : Nat) (ops' : Array Oper) : Option Nat → Option Mix → Option (Nat × Array Oper × Nat × Array Oper)
 | some _, none => some (k, ops, id', ops')
 | _, _ => none
theorem la_t {P : Program} {hint : Hint} (id id' : Nat) (ops ops' : Array Oper) : lateOf P hint (.seq (.region id ops true) (.region id' ops' false)) = lateM (tailAt P hint id ops) ops id' ops' (hint.late id) (hint.mix id) := by
 simp only [lateOf]
 cases hint.late id <;> cases hint.mix id <;> rfl
theorem lm_t (k x : Nat) (ops : Array Oper) (id' : Nat) (ops' : Array Oper) : lateM k ops id' ops' (some x) none = some (k, ops, id', ops') := rfl
noncomputable def lateH (k : Nat) (ops : Array Oper) (id' : Nat) (ops' : Array Oper) : Option St → Option St
 | some s1 => evLate1 c.P c.lo c.base (c.hint.live id') (c.hint.keep id') k ops ops' s1
 | none => none
theorem la_s (a : Code) (k id' : Nat) (ops ops' : Array Oper) : lateC c lp s a (some (k, ops, id', ops')) = normC (lateH c k ops id' ops' (evHeads c ops (ops.toList.take k) s)) := by
 simp only [lateC, evLate]
 cases evHeads c ops (ops.toList.take k) s with
 | none => rfl
 | some s1 => simp only [lateH]; cases evLate1 c.P c.lo c.base (c.hint.live id') (c.hint.keep id') k ops ops' s1 <;> rfl
theorem lh_s (k id' : Nat) (ops ops' : Array Oper) : lateH c k ops id' ops' (some s) = evLate1 c.P c.lo c.base (c.hint.live id') (c.hint.keep id') k ops ops' s := rfl
theorem cond_b (a b : Code) (t : Bool) : condC c lp s a b (.v (.bool t)) = if t = true then evCode c lp a s else evCode c lp b s := rfl
theorem block_n (id : Nat) : blockC id (some (.normal, s)) = some (.normal, s) := rfl
theorem block_e (id j : Nat) : blockC id (some (.exit j, s)) = if j = id then some (.normal, s) else some (.exit j, s) := rfl
theorem block_r (id : Nat) : blockC id (some (.ret, s)) = some (.ret, s) := rfl
theorem norm_s : normC (some s) = some (.normal, s) := rfl
def loopC (lp : LoopF) (f : St → Option (Ex × St)) : Option (Ex × St) → Option (Ex × St)
 | some (.normal, s') => lp f s'
 | r => r
theorem loop_eq (f : St → Option (Ex × St)) : loopW f s = loopC loopW f (f s) := by
 rw [loopW_eq]
 cases h : f s with
 | none => rfl
 | some p => obtain ⟨e, s'⟩ := p; cases e <;> rfl
theorem loop_n (lp : LoopF) (f : St → Option (Ex × St)) : loopC lp f (some (.normal, s)) = lp f s := rfl
theorem loop_e (lp : LoopF) (f : St → Option (Ex × St)) (id : Nat) : loopC lp f (some (.exit id, s)) = some (.exit id, s) := rfl
theorem loop_r (lp : LoopF) (f : St → Option (Ex × St)) : loopC lp f (some (.ret, s)) = some (.ret, s) := rfl
noncomputable def regC (id : Nat) : Option St → Option St
 | some s' => keeps c.base (c.hint.keep id) (untag (lives (c.hint.live id) s'.1), s'.2)
 | none => none
theorem once_f (m : Option Mix) (k : Option Nat) : once m false k = k := by cases k <;> rfl
theorem once_n (m : Option Mix) (d : Bool) : once m d none = none := rfl
theorem once_s (mx : Mix) (n : Nat) : once (some mx) true (some n) = if (decide (1000 ≤ n) && decide (n < 2000)) = true then none else some n := rfl
noncomputable def regD (id : Nat) (k : Option Nat) : Option St → Option St
 | some s' => keeps c.base k (untag (lives (c.hint.live id) s'.1), s'.2)
 | none => none
theorem r_line (id : Nat) (ops : Array Oper) : evRegion c id ops false s = regC c id (evOps c ops ops.toList s) := by
 unfold evRegion
 simp only [Bool.false_eq_true, if_false, once_f]
 cases evOps c ops ops.toList s <;> rfl
noncomputable def tailC (ops : Array Oper) (l : List Oper) : Option St → Option St
 | some s' => evOps c ops l s'
 | none => none
noncomputable def treeC (id : Nat) (ops : Array Oper) : Option Mix → Option St
 | some mx => evT c mx id ops mx.tree s
 | none => tailC c ops (ops.toList.drop (tailAt c.P c.hint id ops)) (evHeads c ops (ops.toList.take (tailAt c.P c.hint id ops)) s)
theorem r_draw (id : Nat) (ops : Array Oper) : evRegion c id ops true s = regD c id (once (c.hint.mix id) true (c.hint.keep id)) (treeC c s id ops (c.hint.mix id)) := by
 unfold evRegion
 simp only [if_true]
 unfold evDraw treeC
 cases c.hint.mix id with
 | some mx => cases hq : evT c mx id ops mx.tree s <;> simp only [hq, regD]
 | none =>
 simp only
 unfold evDraw0
 cases evHeads c ops (ops.toList.take (tailAt c.P c.hint id ops)) s with
 | none => rfl
 | some s' =>
  simp only [tailC]
  cases evOps c ops (ops.toList.drop (tailAt c.P c.hint id ops)) s' <;> rfl
theorem tr_n (id : Nat) (ops : Array Oper) : treeC c s id ops none = tailC c ops (ops.toList.drop (tailAt c.P c.hint id ops)) (evHeads c ops (ops.toList.take (tailAt c.P c.hint id ops)) s) := rfl
theorem tr_s (id : Nat) (ops : Array Oper) (hd tk : List Nat) (T : Tr) : treeC c s id ops (some ⟨hd, tk, T⟩) = evT c ⟨hd, tk, T⟩ id ops T s := rfl
theorem t_fin (mx : Mix) (id : Nat) (ops : Array Oper) : evT c mx id ops .fin s = keeps c.base (c.hint.keep id) (untag (lives (c.hint.live id) s.1), s.2) := rfl
def keepO (base : Nat) (k : Option Nat) : Option St → Option St
 | some s => keeps base k s
 | none => none
theorem kp_s (base : Nat) (k : Option Nat) (s : St) : keepO base k (some s) = keeps base k s := rfl
def swsC (base : Nat) (l : List Nat) : Option St → Option St
 | some s => swSs base l s
 | none => none
theorem swc_s (base : Nat) (l : List Nat) (s : St) : swsC base l (some s) = swSs base l s := rfl
theorem sws_n (base : Nat) (s : St) : swSs base [] s = some s := rfl
theorem sws_c (base i : Nat) (l : List Nat) (s : St) : swSs base (i :: l) s = swsC base l (swS base i s) := by
 simp only [swSs]
 cases swS base i s <;> rfl
theorem t_finL (mx : Mix) (id : Nat) (ops : Array Oper) (l : List Nat) : evT c mx id ops (.finL l) s = keepO c.base (c.hint.keep id) (swSs c.base l (untag (lives (c.hint.live id) s.1), s.2)) := by
 simp only [evT, leafT]
 cases swSs c.base l (untag (lives (c.hint.live id) s.1), s.2) <;> rfl
theorem t_finS (mx : Mix) (id : Nat) (ops : Array Oper) (i : Nat) : evT c mx id ops (.finS i) s = keepO c.base (c.hint.keep id) (swS c.base i (untag (lives (c.hint.live id) s.1), s.2)) := by
 rw [show evT c mx id ops (.finS i) s = leafT c.base (c.hint.live id) (c.hint.keep id) [i] s from rfl]
 simp only [leafT, swSs]
 cases swS c.base i (untag (lives (c.hint.live id) s.1), s.2) <;> rfl
theorem kn_n (base : Nat) : keeps base none s = some s := rfl
theorem kn_s (base n : Nat) : keeps base (some n) s = if n < 1000 then keep1 base n s else if n < 2000 then keep1 base ((s.2.drop base).length - (n - 1000)) s else sinkS base s (look s.1 (n - 2000)) := rfl
noncomputable def twoC (id : Nat) : Option St → Option St
 | some s1 => keeps c.base (c.hint.keep id) (untag (lives (c.hint.live id) s1.1), s1.2)
 | none => none
theorem t_two (mx : Mix) (id : Nat) (ops : Array Oper) (k : Nat) : evT c mx id ops (.two k) s = twoC c id (evTwo c.P c.lo c.base k ops s) := by
 simp only [evT]; unfold twoC; cases evTwo c.P c.lo c.base k ops s <;> rfl
theorem two_s (id : Nat) : twoC c id (some s) = keeps c.base (c.hint.keep id) (untag (lives (c.hint.live id) s.1), s.2) := rfl
noncomputable def nextC (mx : Mix) (id : Nat) (ops : Array Oper) (T : Tr) : Option St → Option St
 | some s1 => evT c mx id ops T s1
 | none => none
theorem t_head (mx : Mix) (id : Nat) (ops : Array Oper) (k : Nat) (T : Tr) : evT c mx id ops (.head k T) s = nextC c mx id ops T (stepT c mx ops k s) := by
 simp only [evT]; unfold nextC; cases stepT c mx ops k s <;> rfl
theorem t_one (mx : Mix) (id : Nat) (ops : Array Oper) (k : Nat) (T : Tr) : evT c mx id ops (.one k T) s = nextC c mx id ops T (stepT c mx ops k s) := by
 simp only [evT]; unfold nextC; cases stepT c mx ops k s <;> rfl
theorem t_alt (mx : Mix) (id : Nat) (ops : Array Oper) (a b : Tr) : evT c mx id ops (.alt a b) s = joinS (evT c mx id ops a s) (evT c mx id ops b s) := rfl
theorem nx_s (mx : Mix) (id : Nat) (ops : Array Oper) (T : Tr) : nextC c mx id ops T (some s) = evT c mx id ops T s := rfl
theorem sw_a (n i k : Nat) : sw (n + i) (n + k) = n + sw i k := by
 unfold sw
 repeat' split
 all_goals omega
theorem sw_b (n i : Nat) : sw (n + i) n = n + sw i 0 := sw_a n i 0
theorem sw_c (n k : Nat) : sw n (n + k) = n + sw 0 k := sw_a n 0 k
theorem sw_d (n : Nat) : sw n n = n + 1 := sw_a n 0 0
theorem sw_01 : sw 0 1 = 0 := rfl
theorem sw_02 : sw 0 2 = 2 := rfl
theorem sw_03 : sw 0 3 = 3 := rfl
theorem sw_10 : sw 1 0 = 0 := rfl
theorem sw_12 : sw 1 2 = 1 := rfl
theorem sw_20 : sw 2 0 = 0 := rfl
theorem sw_21 : sw 2 1 = 1 := rfl
theorem sw_23 : sw 2 3 = 2 := rfl
theorem swE_n (j : Nat) : swE j [] = [] := rfl
theorem swE_c (j k : Nat) (v : V) (g : Env) : swE j ((k, v) :: g) = (k, swr j v) :: swE j g := rfl
theorem swr_p (j b o : Nat) : swr j (.ptr b o) = .ptr (sw j b) o := rfl
theorem swr_v (j : Nat) (x : Value) : swr j (.v x) = .v x := rfl
theorem swr_l (j : Nat) (k : Own) (r : List (List V)) : swr j (.list k r) = .list k r := rfl
theorem swf_p (j b o : Nat) : swf j (.ptr b o) = .ptr (sw j b) o := rfl
theorem swf_v (j : Nat) (x : Value) : swf j (.v x) = .v x := rfl
theorem swf_l (j : Nat) (k : Own) (r : List (List V)) : swf j (.list k r) = .list k r := rfl
theorem swO_c (j : Nat) (cs : List V) : swO j (.cells cs) = .cells (cs.map (swf j)) := rfl
theorem swL_0 {α : Type} (x y : α) (l : List α) : swL 0 (x :: y :: l) = y :: x :: l := rfl
theorem swL_1 {α : Type} (u x y : α) (l : List α) : swL 1 (u :: x :: y :: l) = u :: y :: x :: l := rfl
theorem swL_2 {α : Type} (t u x y : α) (l : List α) : swL 2 (t :: u :: x :: y :: l) = t :: u :: y :: x :: l := rfl
theorem sws_eq (base i : Nat) (g : Env) (h : Heap) : swS base i (g, h) = if base + i + 1 < h.length then some (swE (base + i) g, h.take base ++ swL i ((h.drop base).map (swO (base + i)))) else none := rfl
theorem join_v (v : V) : joinV v v = v := by simp [joinV]
theorem join_e : ∀ g : Env, joinE g g = some g
 | [] => rfl
 | (k, v) :: g => by simp only [joinE, if_true, join_v, join_e g, Option.map_some]
theorem same_eq (x : Option St) : joinS x x = x := by
 cases x with
 | none => rfl
 | some s => simp only [joinS, if_true, join_e, Option.map_some]
theorem js_s (g q : Env) (h : Heap) : joinS (some (g, h)) (some (q, h)) = (joinE g q).map fun r => (r, h) := by simp only [joinS, if_true]
theorem je_n : joinE [] [] = some [] := rfl
theorem je_s (k : Nat) (v : V) (r q : Env) : joinE ((k, v) :: r) ((k, v) :: q) = (joinE r q).map ((k, v) :: ·) := by simp only [joinE, if_true, join_v]
theorem je_f (k : Nat) (r q : Env) : joinE ((k, .v (.bool false)) :: r) ((k, .v (.bool true)) :: q) = (joinE r q).map ((k, .any) :: ·) := by simp [joinE, joinV, isBoolV]
theorem sx_eq (x : Option (Ex × St)) : sameX x x = x := by
 unfold sameX
 rw [if_pos rfl]
noncomputable def stepC (mx : Mix) (ops : Array Oper) (o : Oper) : Bool → Bool → Option St
 | true, _ => evHeads c ops [o] s
 | false, true => if o.guard.isNone && !isEff c.P o.op then evTake c s o else none
 | false, false => evOps c ops [o] s
noncomputable def stepO (hd tk : List Nat) (T : Tr) (ops : Array Oper) (k : Nat) : Option Oper → Option St
 | none => none
 | some o => stepC c s ⟨hd, tk, T⟩ ops o (hd.contains k) (tk.contains k)
theorem sp_eq {hd tk : List Nat} {T : Tr} {ops : Array Oper} {k : Nat} : stepT c ⟨hd, tk, T⟩ ops k s = stepO c s hd tk T ops k (ops[k]?) := by
 unfold stepT stepO
 cases ops[k]? with
 | none => rfl
 | some o =>
 simp only
 cases hd.contains k <;> cases tk.contains k <;> simp [stepC]
theorem so_s (hd tk : List Nat) (T : Tr) (ops : Array Oper) (k : Nat) (o : Oper) : stepO c s hd tk T ops k (some o) = stepC c s ⟨hd, tk, T⟩ ops o (hd.contains k) (tk.contains k) := rfl
theorem sp_h (mx : Mix) (ops : Array Oper) (o : Oper) (b : Bool) : stepC c s mx ops o true b = evHeads c ops [o] s := rfl
theorem sp_o (mx : Mix) (ops : Array Oper) (o : Oper) : stepC c s mx ops o false false = evOps c ops [o] s := rfl
noncomputable def takeC (d : Nat) : Option V → Option St
 | some v => match owner c.lo (ins d v s.1, s.2) (.tmp d) with
  | some (r, g, h) => some (ins d (.list .yes r) (untag g), h)
  | none => none
 | none => none
noncomputable def takeB (d : Nat) (v : Option V) : Bool → Option St
 | false => takeC c s d v
 | true => none
theorem sp_k (mx : Mix) (ops : Array Oper) (d : Nat) (op : Op) (ty : TypeId) (p : String) (a : Array Edge) : stepC c s mx ops ⟨some d, op, ty, p, a, none⟩ false true = takeB c s d (evPure c.P c.hint.vars s op) (isEff c.P op) := by
 simp only [stepC, Option.isNone_none]
 cases he : isEff c.P op with
 | true => simp [takeB]
 | false =>
  simp only [Bool.not_false, Bool.and_self, if_true, evTake]
  unfold takeB takeC
  cases evPure c.P c.hint.vars s op <;> rfl
theorem tb_f (d : Nat) (v : Option V) : takeB c s d v false = takeC c s d v := rfl
theorem tk_s (d : Nat) (v : V) : takeC c s d (some v) = match owner c.lo (ins d v s.1, s.2) (.tmp d) with
  | some (r, g, h) => some (ins d (.list .yes r) (untag g), h)
  | none => none := rfl
theorem tail_s (ops : Array Oper) (l : List Oper) : tailC c ops l (some s) = evOps c ops l s := rfl
theorem reg_s (id : Nat) : regC c id (some s) = keeps c.base (c.hint.keep id) (untag (lives (c.hint.live id) s.1), s.2) := rfl
theorem regd_s (id : Nat) (k : Option Nat) : regD c id k (some s) = keeps c.base k (untag (lives (c.hint.live id) s.1), s.2) := rfl
def aftC (ops : Array Oper) (d : Option Nat) (l : List Oper) : Option (V × St) → Option St
 | some (v, g, h) => evOps c ops l (put d v g, h)
 | none => none
def wantC (ops : Array Oper) (o : Oper) (l : List Oper) : Option Bool → Option St
 | some true => aftC c ops o.dst l (evOp c s o)
 | some false => if isAssign o.op then none else evOps c ops l (put o.dst (.v undef) s.1, s.2)
 | none => none
theorem o_nil (ops : Array Oper) : evOps c ops [] s = some s := rfl
theorem o_cons (ops : Array Oper) (o : Oper) (l : List Oper) : evOps c ops (o :: l) s = wantC c s ops o l (want ops s.1 o) := by
 simp only [evOps]
 unfold wantC
 split <;> simp_all
 cases h : evOp c s o with
 | none => rfl
 | some p => rfl
theorem w_t (ops : Array Oper) (o : Oper) (l : List Oper) : wantC c s ops o l (some true) = aftC c ops o.dst l (evOp c s o) := rfl
theorem w_f (ops : Array Oper) (o : Oper) (l : List Oper) : wantC c s ops o l (some false) = if isAssign o.op = true then none else evOps c ops l (put o.dst (.v undef) s.1, s.2) := rfl
theorem a_s (ops : Array Oper) (d : Option Nat) (l : List Oper) (v : V) (g : Env) (h : Heap) : aftC c ops d l (some (v, g, h)) = evOps c ops l (put d v g, h) := rfl
def pureC : Option V → Option (V × St)
 | some v => some (v, s)
 | none => none
theorem pure_s (v : V) : pureC s (some v) = some (v, s) := rfl
def opC (o : Op) : Bool → Option (V × St)
 | true => evEff c.P c.call c.lo c.hint.mutc s o
 | false => pureC s (evPure c.P c.hint.vars s o)
def newC (o : Oper) : Bool → Option (V × St)
 | true => evNew c.P c.base c.lo (c.hint.mode o.dst) s o.op
 | false => opC c s o.op (isEff c.P o.op)
theorem nw_t (o : Oper) : newC c s o true = evNew c.P c.base c.lo (c.hint.mode o.dst) s o.op := rfl
theorem nw_f (o : Oper) : newC c s o false = opC c s o.op (isEff c.P o.op) := rfl
theorem op_eq (o : Oper) : evOp c s o = newC c s o (isNew c.hint.mode o.dst o.op) := by
 unfold evOp
 cases isNew c.hint.mode o.dst o.op with
 | true => rfl
 | false =>
 simp only [Bool.false_eq_true, if_false, newC]
 cases isEff c.P o.op with
 | true => rfl
 | false =>
  simp only [Bool.false_eq_true, if_false]
  unfold opC
  cases evPure c.P c.hint.vars s o.op <;> rfl
theorem op_t (o : Op) : opC c s o true = evEff c.P c.call c.lo c.hint.mutc s o := rfl
theorem op_f (o : Op) : opC c s o false = pureC s (evPure c.P c.hint.vars s o) := rfl
def aftH (ops : Array Oper) (d : Option Nat) (l : List Oper) : Option V → Option St
 | some v => evHeads c ops l (put d v s.1, s.2)
 | none => none
def wantH (ops : Array Oper) (o : Oper) (l : List Oper) : Option Bool → Option St
 | some true => aftH c s ops o.dst l (evHead c s o)
 | some false => if isAssign o.op then none else evHeads c ops l (put o.dst (.v undef) s.1, s.2)
 | none => none
theorem h_nil (ops : Array Oper) : evHeads c ops [] s = some s := rfl
theorem h_cons (ops : Array Oper) (o : Oper) (l : List Oper) : evHeads c ops (o :: l) s = wantH c s ops o l (want ops s.1 o) := by
 simp only [evHeads]
 unfold wantH
 split <;> simp_all
 cases h : evHead c s o with
 | none => rfl
 | some p => rfl
theorem wh_t (ops : Array Oper) (o : Oper) (l : List Oper) : wantH c s ops o l (some true) = aftH c s ops o.dst l (evHead c s o) := rfl
theorem wh_f (ops : Array Oper) (o : Oper) (l : List Oper) : wantH c s ops o l (some false) = if isAssign o.op = true then none else evHeads c ops l (put o.dst (.v undef) s.1, s.2) := rfl
theorem ah_s (ops : Array Oper) (d : Option Nat) (l : List Oper) (v : V) : aftH c s ops d l (some v) = evHeads c ops l (put d v s.1, s.2) := rfl
def hdC (o : Oper) : Bool → Option V
 | true => match o.op with
  | .call d => match d.callee with
   | .value f => match opd s.1 f with
    | .fn f caps => sameH s.2.length (c.call s.2.length f (headB caps ++ ((d.args.toList.map (opd s.1)).map fzs ++ tailB caps)) s.2)
    | _ => none
   | _ => none
  | .convert a b x =>
   if c.hint.mutc || isRow c.P a b then none else (evEff c.P c.call c.lo false s (.convert a b x)).map (·.1)
  | .buildSlice t n parts => (evEff c.P c.call c.lo false s (.buildSlice t n parts)).map (·.1)
  | _ => none
 | false => evPure c.P c.hint.vars s o.op
theorem hd_eq (o : Oper) : evHead c s o = hdC c s o (isEff c.P o.op) := by
 unfold evHead
 cases isEff c.P o.op <;> rfl
theorem hd_f (o : Oper) : hdC c s o false = evPure c.P c.hint.vars s o.op := rfl
theorem hd_t (o : Oper) : hdC c s o true = match o.op with
  | .call d => match d.callee with
   | .value f => match opd s.1 f with
    | .fn f caps => sameH s.2.length (c.call s.2.length f (headB caps ++ ((d.args.toList.map (opd s.1)).map fzs ++ tailB caps)) s.2)
    | _ => none
   | _ => none
  | .convert a b x =>
   if c.hint.mutc || isRow c.P a b then none else (evEff c.P c.call c.lo false s (.convert a b x)).map (·.1)
  | .buildSlice t n parts => (evEff c.P c.call c.lo false s (.buildSlice t n parts)).map (·.1)
  | _ => none := rfl
end step
theorem sh_s (n : Nat) (v : V) (h : Heap) : sameH n (some (v, h)) = if h.length = n then some v else none := rfl
def fin (P : Program) (rs : List ResultVar) (base : Nat) : Option (Ex × St) → Option (V × Heap)
 | some (.exit _, _) => none
 | some (_, s) => match evResults P s rs with
  | some vs => if okr base (resV vs) then some (resV vs, s.2.take base) else none
  | none => none
 | none => none
def finR (P : Program) (rs : List ResultVar) (base ret : Nat) (rr : Bool) : Option (Ex × St) → Option (V × Heap)
 | some (.exit _, _) => none
 | some (_, s) => match (if rr then evResultsR P s rs else evResults P s rs) with
  | some vs => if okr (base + ret) (resV vs) && (((s.2.drop base).take ret).all (okO (base + ret)) && (ret == 0 || decide (base + ret ≤ s.2.length))) then some (resV vs, s.2.take (base + ret)) else none
  | none => none
 | none => none
theorem ev_bodyR {P : Program} {hints : Nat → Hint} {prim : Nat → Option (Nat → List V → Heap → Option (V × Heap))} {lo f nt ret : Nat} {rr : Bool} {args : List V} {h : Heap} {fn : Func} {b : Code} {rs : List ResultVar} {hi : Hint}
  (hp : prim f = none) (hf : P.funcs[f]? = some fn) (hb : fn.body = some b) (hn : fn.ntmps = nt) (hname : (fn.name != "runtime.NumGoroutine") = true) (hh : hints f = hi) (hcode : codeOk P hi nt b = true) (hrs : fn.results.toList = rs) (hret : hi.ret = ret) (hrr : hi.rawr = rr)
  (hargs : args.length ≤ nt) (hbare : args.all bare = true) :
  ev P hints prim lo f args h = finR P rs h.length ret rr (evCode ⟨P, ev P hints prim, lo, h.length, hi⟩ loopW b (args0 args, h)) := by
 rw [ev_eq hp]
 unfold evBody
 subst hh hn hrs hret hrr
 simp only [hf, hb]
 rw [if_pos (by simp [hcode, hargs, hbare, hname])]
 cases evCode ⟨P, ev P hints prim, lo, h.length, hints f⟩ loopW b (args0 args, h) with
 | none => rfl
 | some p =>
  obtain ⟨e, s⟩ := p
  cases e <;> rfl
theorem ev_body {P : Program} {hints : Nat → Hint} {prim : Nat → Option (Nat → List V → Heap → Option (V × Heap))} {lo f nt : Nat} {args : List V} {h : Heap} {fn : Func} {b : Code} {rs : List ResultVar} {hi : Hint}
  (hp : prim f = none) (hf : P.funcs[f]? = some fn) (hb : fn.body = some b) (hn : fn.ntmps = nt) (hname : (fn.name != "runtime.NumGoroutine") = true) (hh : hints f = hi) (hcode : codeOk P hi nt b = true) (hrs : fn.results.toList = rs) (hret : hi.ret = 0) (hrr : hi.rawr = false)
  (hargs : args.length ≤ nt) (hbare : args.all bare = true) :
  ev P hints prim lo f args h = fin P rs h.length (evCode ⟨P, ev P hints prim, lo, h.length, hi⟩ loopW b (args0 args, h)) := by
 rw [ev_bodyR hp hf hb hn hname hh hcode hrs hret hrr hargs hbare]
 cases evCode ⟨P, ev P hints prim, lo, h.length, hi⟩ loopW b (args0 args, h) with
 | none => rfl
 | some p =>
  obtain ⟨e, s⟩ := p
  have key : (match evResults P s rs with
    | some vs => if okr (h.length + 0) (resV vs) && (((s.2.drop h.length).take 0).all (okO (h.length + 0)) && ((0 : Nat) == 0 || decide (h.length + 0 ≤ s.2.length))) then some (resV vs, s.2.take (h.length + 0)) else none
    | none => none) = match evResults P s rs with
    | some vs => if okr h.length (resV vs) then some (resV vs, s.2.take h.length) else none
    | none => none := by
   simp only [List.take_zero, List.all_nil, Nat.add_zero, beq_self_eq_true, Bool.true_or, Bool.and_true]
  cases e <;> first | rfl | exact key
section merge
variable {p : Prop} [Decidable p]
theorem m_norm (s t : St) : (if p then some (Ex.normal, s) else some (Ex.normal, t)) = some (Ex.normal, if p then s else t) := by split <;> rfl
theorem m_ret (s t : St) : (if p then some (Ex.ret, s) else some (Ex.ret, t)) = some (Ex.ret, if p then s else t) := by split <;> rfl
theorem m_pair (g g' : Env) (h h' : Heap) : (if p then ((g, h) : St) else (g', h')) = (if p then g else g', if p then h else h') := by split <;> rfl
theorem m_cons (k : Nat) (v v' : V) (g g' : Env) : (if p then ((k, v) :: g : Env) else (k, v') :: g') = (k, if p then v else v') :: (if p then g else g') := by split <;> rfl
theorem m_v (x y : Value) : (if p then V.v x else V.v y) = V.v (if p then x else y) := by split <;> rfl
theorem m_list (k : Own) (r q : List (List V)) : (if p then V.list k r else V.list k q) = V.list k (if p then r else q) := by split <;> rfl
theorem m_bool (x y : Bool) : (if p then Value.bool x else Value.bool y) = Value.bool (if p then x else y) := by split <;> rfl
theorem m_int (k : IntKind) (x y : Int) : (if p then Value.int k x else Value.int k y) = Value.int k (if p then x else y) := by split <;> rfl
theorem m_str (x y : ByteArray) : (if p then Value.string x else Value.string y) = Value.string (if p then x else y) := by split <;> rfl
theorem m_vcons (x y : V) (l m : List V) : (if p then x :: l else y :: m) = (if p then x else y) :: (if p then l else m) := by split <;> rfl
theorem m_same {α : Type} (x : α) : (if p then x else x) = x := by split <;> rfl
theorem m_then (c : Cx) (lp : LoopF) (b : Code) (x y : Option (Ex × St)) : thenC c lp b (if p then x else y) = if p then thenC c lp b x else thenC c lp b y := by split <;> rfl
theorem m_block (id : Nat) (x y : Option (Ex × St)) : blockC id (if p then x else y) = if p then blockC id x else blockC id y := by split <;> rfl
end merge
def gV (b : Bool) (v : V) : V := if b then v else .v undef
def gOp (b : Bool) (s : St) (r : Option (V × St)) : Option (V × St) := if b then r else some (.v undef, s)
theorem gOp_t (s : St) (r : Option (V × St)) : gOp true s r = r := rfl
theorem gOp_f (s : St) (r : Option (V × St)) : gOp false s r = some (.v undef, s) := rfl
theorem gOp_s (b : Bool) (s : St) (v : V) : gOp b s (some (v, s)) = some (gV b v, s) := by cases b <;> rfl
def gH (b : Bool) (r : Option V) : Option V := if b then r else some (.v undef)
theorem gH_t (r : Option V) : gH true r = r := rfl
theorem gH_f (r : Option V) : gH false r = some (.v undef) := rfl
theorem gH_s (b : Bool) (v : V) : gH b (some v) = some (gV b v) := by cases b <;> rfl
theorem w_b (c : Cx) (s : St) (ops : Array Oper) (o : Oper) (l : List Oper) (b : Bool) : wantC c s ops o l (some b) = if isAssign o.op = true then (if b = true then aftC c ops o.dst l (evOp c s o) else none) else aftC c ops o.dst l (gOp b s (evOp c s o)) := by
 cases b
 ·simp only [w_f, Bool.false_eq_true, if_false, gOp_f]
  rfl
 ·simp only [w_t, if_true, gOp_t]
  split <;> rfl
theorem wh_b (c : Cx) (s : St) (ops : Array Oper) (o : Oper) (l : List Oper) (b : Bool) : wantH c s ops o l (some b) = if isAssign o.op = true then (if b = true then aftH c s ops o.dst l (evHead c s o) else none) else aftH c s ops o.dst l (gH b (evHead c s o)) := by
 cases b
 ·simp only [wh_f, Bool.false_eq_true, if_false, gH_f]
  rfl
 ·simp only [wh_t, if_true, gH_t]
  split <;> rfl
def wantV (b : Bool) : V → Option Bool
 | .v (.bool x) => some (x == b)
 | .v (.tuple _) => some false
 | _ => none
theorem want_eq (ops : Array Oper) (g : Env) (o : Oper) : want ops g o = match o.guard with
  | none => some true
  | some (j, b) => match (ops[j]?).bind (·.dst) with
   | some t => wantV b (look g t)
   | none => some false := by
 unfold want
 cases o.guard with
 | none => rfl
 | some p =>
  obtain ⟨j, b⟩ := p
  simp only
  cases (ops[j]?).bind (·.dst) <;> rfl
theorem wv_b (b x : Bool) : wantV b (.v (.bool x)) = some (x == b) := rfl
theorem wv_u (b : Bool) : wantV b (.v undef) = some false := rfl
theorem wv_g (b c x : Bool) : wantV b (gV c (.v (.bool x))) = some (c && (x == b)) := by cases c <;> rfl
def pickC (b : Bool) (x y : V) : V := if b then x else y
theorem pk_t (x y : V) : pickC true x y = x := rfl
theorem pk_f (x y : V) : pickC false x y = y := rfl
theorem pk_or (b x : Bool) : pickC b (.v (.bool true)) (.v (.bool x)) = .v (.bool (b || x)) := by cases b <;> rfl
theorem pk_and (b x : Bool) : pickC b (.v (.bool x)) (.v (.bool false)) = .v (.bool (b && x)) := by cases b <;> rfl
def pickV : V → V → V → Option V
 | .v (.bool x), p, q => some (pickC x p q)
 | _, _, _ => none
theorem p_pick {P : Program} {vars : List Nat} {s : St} {c a b : Operand} : evPure P vars s (.pick c a b) = pickV (opd s.1 c) (cps (opd s.1 a)) (cps (opd s.1 b)) := by
 show (match opd s.1 c with
  | .v (.bool x) => some (if x then cps (opd s.1 a) else cps (opd s.1 b))
  | _ => none) = _
 cases opd s.1 c with
 | v x => cases x <;> rfl
 | _ => rfl
theorem pv_b (x : Bool) (p q : V) : pickV (.v (.bool x)) p q = some (pickC x p q) := rfl
theorem cps_g (b : Bool) (v : V) : cps (gV b v) = gV b (cps v) := by cases b <;> rfl
section ops
variable (P : Program)
def moveV (vars : List Nat) (t : Nat) : V → Option V
 | .list .yes r => some (.list (if t ∈ vars then .slot t else .no) r)
 | y => some (cps y)
def binV (op : BinOp) (t : TypeId) : V → V → Option V
 | .v a, .v b => (binT P op t a b).map .v
 | .agg cs, .agg ds =>
  match flatOf P t with
  | some ks =>
   match op with
   | .eql => (eqCells ks cs ds).map fun r => .v (.bool r)
   | .neq => (eqCells ks cs ds).map fun r => .v (.bool !r)
   | _ => none
  | none => none
 | _, _ => none
def unV (op : UnOp) : V → Option V
 | .v a => (unS op a).map .v
 | _ => none
def nilCheckV : V → Option V
 | .ptr b o => some (.ptr b o)
 | .rp cs => some (.rp cs)
 | .fn f cs => some (.fn f cs)
 | _ => none
def convV (h : Heap) (a b : TypeId) : V → Option V
 | .v y => convS P a b (.v y)
 | .list _ rows =>
  if isStr P b then
   match P.underlying a with
   | some (.slice e) => if isU8 P e then (bytesOf rows).map fun l => .v (.string ⟨l.toArray⟩) else if isI32 P e then (runesOf rows).map fun l => .v (.string (runesBytes l)) else none
   | _ => none
  else none
 | .buf i o n =>
  if isStr P b then
   match P.underlying a, cellsOfOb h i with
   | some (.slice e), some cs =>
    if isU8 P e && decide (o + n ≤ cs.length) then (bytesOf (((cs.drop o).take n).map fun x => [x])).map fun l => .v (.string ⟨l.toArray⟩) else none
   | _, _ => none
  else none
 | _ => none
def fieldAddrV (t : TypeId) (f : Nat) (x : V) : Option V :=
 match x, fieldOff P t f with
  | .ptr b o, some (k, u) => if 0 < tsize P u then some (.ptr b (o + k)) else none
  | .rp cs, some (k, u) => if 0 < tsize P u ∧ k < cs.length then some (.rp (cs.drop k)) else none
  | _, _ => none
def fieldV (t : TypeId) (f : Nat) (x : V) : Option V :=
 match x, fieldOff P t f with
  | .agg cs, some (k, u) => takeCells P u (cs.drop k)
  | _, _ => none
def indexAddrV (t : TypeId) (x i : V) : Option V :=
 match x, idx i, P.underlying t with
  | .list _ rows, some n, some (.slice e) =>
   if 0 ≤ n then
    match rows[n.toNat]? with
    | some row => if row.length = tsize P e ∧ 0 < tsize P e then some (.rp row) else none
    | none => none
   else none
  | .buf b o m, some n, some (.slice e) => if 0 ≤ n ∧ n < m ∧ tsize P e = 1 then some (.ptr b (o + n.toNat)) else none
  | .stk b m sz, some n, some (.slice e) => if 0 ≤ n ∧ n < m ∧ tsize P e = sz ∧ 0 < sz then some (.ptr b (n.toNat * sz)) else none
  | .ptr b o, some n, some (.array m e) => if 0 ≤ n ∧ n < m ∧ 0 < tsize P e then some (.ptr b (o + n.toNat * tsize P e)) else none
  | .rp cs, some n, some (.array m e) => if 0 ≤ n ∧ n < m ∧ 0 < tsize P e ∧ n.toNat * tsize P e < cs.length then some (.rp (cs.drop (n.toNat * tsize P e))) else none
  | _, _, _ => none
def indexV (t : TypeId) (x i : V) : Option V :=
 match x, idx i, P.underlying t with
  | .v (.string b), some n, some .string =>
   if 0 ≤ n then (b.data[n.toNat]?).map fun c => .v (.int .u8 c.toNat) else none
  | .agg cs, some n, some (.array m e) =>
   if 0 ≤ n ∧ n < m then
    takeCells P e (cs.drop (n.toNat * tsize P e))
   else none
  | _, _, _ => none
def extractV (i : Nat) : V → Option V
 | .tup vs => (vs[i]?).map cps
 | _ => none
def lenV (u : Option TypeDesc) (x : V) : Option V :=
 match (some x : Option V), u with
   | some (.list _ rows), some (.slice _) => some (.v (.int .i64 rows.length))
   | some .nil, some (.slice _) => some (.v (.int .i64 0))
   | some (.buf _ _ n), some (.slice _) => some (.v (.int .i64 n))
   | some (.stk _ n _), some (.slice _) => some (.v (.int .i64 n))
   | some (.v (.string b)), some .string => some (.v (.int .i64 b.size))
   | _, _ => none
variable {P} {vars : List Nat} {s : St}
theorem p_move (t : Nat) : evPure P vars s (.move (.tmp t)) = moveV vars t (look s.1 t) := rfl
theorem p_movec (c : Value) : evPure P vars s (.move (.const c)) = some (ofC c) := rfl
theorem p_load {t : TypeId} {a : Operand} : evPure P vars s (.load t a) = loadV P s.2 t (opd s.1 a) := rfl
theorem p_bin {op : BinOp} {t u : TypeId} {x y : Operand} : evPure P vars s (.binOp op t x y u) = binV P op t (opd s.1 x) (opd s.1 y) := rfl
theorem p_un {op : UnOp} {t : TypeId} {x : Operand} : evPure P vars s (.unOp op t x) = unV op (opd s.1 x) := rfl
theorem p_nil {x : Operand} : evPure P vars s (.nilCheck x) = nilCheckV (opd s.1 x) := rfl
theorem p_conv {a b : TypeId} {x : Operand} : evPure P vars s (.convert a b x) = convV P s.2 a b (opd s.1 x) := rfl
theorem p_fa {t : TypeId} {x : Operand} {f : Nat} : evPure P vars s (.fieldAddr t x f) = fieldAddrV P t f (opd s.1 x) := rfl
theorem p_ia {t : TypeId} {x i : Operand} : evPure P vars s (.indexAddr t x i) = indexAddrV P t (opd s.1 x) (opd s.1 i) := rfl
theorem p_ix {t : TypeId} {x i : Operand} : evPure P vars s (.index t x i) = indexV P t (opd s.1 x) (opd s.1 i) := rfl
theorem p_ex {x : Operand} {i : Nat} : evPure P vars s (.extract x i) = extractV i (opd s.1 x) := rfl
theorem p_len {x : Operand} {t : TypeId} : evPure P vars s (.call { callee := .builtin .len, args := #[x], argTypes := #[t] }) = lenV (P.underlying t) (opd s.1 x) := rfl
def minV (a b : V) : Option V :=
 match [a, b] with
 | [.v (.int k x), .v (.int k' y)] => if k = k' then some (.v (.int k (if y < x then y else x))) else none
 | _ => none
def maxV (a b : V) : Option V :=
 match [a, b] with
 | [.v (.int k x), .v (.int k' y)] => if k = k' then some (.v (.int k (if y > x then y else x))) else none
 | _ => none
theorem p_min {x y : Operand} {ts : Array TypeId} : evPure P vars s (.call { callee := .builtin .min, args := #[x, y], argTypes := ts }) = minV (opd s.1 x) (opd s.1 y) := rfl
theorem p_max {x y : Operand} {ts : Array TypeId} : evPure P vars s (.call { callee := .builtin .max, args := #[x, y], argTypes := ts }) = maxV (opd s.1 x) (opd s.1 y) := rfl
theorem mn_v (k : IntKind) (x y : Int) : minV (.v (.int k x)) (.v (.int k y)) = some (.v (.int k (if y < x then y else x))) := if_pos rfl
theorem mx_v (k : IntKind) (x y : Int) : maxV (.v (.int k x)) (.v (.int k y)) = some (.v (.int k (if y > x then y else x))) := if_pos rfl
theorem p_build {t : TypeId} {parts : Array (Nat × Operand)} : evPure P vars s (.build t parts) = (match tzero P t with
  | none => none
  | some z =>
   match P.underlying t with
   | some (.struct _) => if structOk P t then
    (buildV (fun i => (fieldOff P t i).map fun p => (p.1, tsize P p.2)) (parts.toList.map fun p => (p.1, opd s.1 p.2)) (z.map ofC1)).map .agg else none
   | some (.array _ e) => if (P.info? e).isSome then
    (buildV (fun i => some (i * tsize P e, tsize P e)) (parts.toList.map fun p => (p.1, opd s.1 p.2)) (z.map ofC1)).map .agg else none
   | _ => none) := rfl
theorem p_slice {t : TypeId} {x : Operand} {lo hi mx : Option Operand} : evPure P vars s (.slice t x lo hi mx) = (match mx, opd s.1 x, P.underlying t with
  | none, .v (.string b), some .string =>
   match bnd s.1 hi b.size with
   | some h => match bnd s.1 lo 0 with
    | some l => if l ≤ h ∧ h ≤ b.size then some (.v (.string (b.extract l h))) else none
    | none => none
   | none => none
  | none, .list _ rows, some (.slice e) =>
   match bnd s.1 hi rows.length with
   | some h => match bnd s.1 lo 0 with
    | some l => if l ≤ h ∧ h ≤ rows.length ∧ 0 < tsize P e ∧ (rows.all fun r => r.length == tsize P e) then some (.list .no ((rows.take h).drop l)) else none
    | none => none
   | none => none
  | none, .stk b n sz, some (.slice e) =>
   match bnd s.1 hi n with
   | some h => match bnd s.1 lo 0 with
    | some l => if l = 0 ∧ h ≤ n ∧ tsize P e = sz ∧ 0 < sz then some (.stk b h sz) else none
    | none => none
   | none => none
  | none, .ptr b o, some (.array n e) =>
   match bnd s.1 hi n with
   | some h => match bnd s.1 lo 0 with
    | some l => if l ≤ h ∧ h ≤ n ∧ l < n ∧ tsize P e = 1 then some (.buf b (o + l) (h - l)) else none
    | none => none
   | none => none
  | _, _, _ => none) := rfl
theorem p_mf {f : Nat} {first caps : Array Operand} : evPure P vars s (.makeFunc (.func f) first caps) = if ((first.toList ++ caps.toList).all fun c => leaf0 (opd s.1 c) && !isU (opd s.1 c)) = true then (if first.size = 0 then some (.fn f (caps.toList.map fun c => cp (opd s.1 c))) else if caps.size = 0 then some (.fn f (.undef :: first.toList.map fun c => cp (opd s.1 c))) else none) else none := rfl
theorem mv_v (t : Nat) (x : Value) : moveV vars t (.v x) = some (.v x) := rfl
theorem mv_y (t : Nat) (r : List (List V)) : moveV vars t (.list .yes r) = some (.list (if t ∈ vars then .slot t else .no) r) := rfl
theorem mv_n (t : Nat) (r : List (List V)) : moveV vars t (.list .no r) = some (.list .no r) := rfl
theorem mv_p (t b o : Nat) : moveV vars t (.ptr b o) = some (.ptr b o) := rfl
theorem mv_b (t b o n : Nat) : moveV vars t (.buf b o n) = some (.buf b o n) := rfl
theorem mv_k (t b n sz : Nat) : moveV vars t (.stk b n sz) = some (.stk b n sz) := rfl
theorem mv_t (t : Nat) (cs : List V) : moveV vars t (.tup cs) = some (.tup cs) := rfl
theorem mv_f (t f : Nat) (cs : List V) : moveV vars t (.fn f cs) = some (.fn f cs) := rfl
theorem bv_v (op : BinOp) (t : TypeId) (k : IntKind) (a : Int) (b : Value) : binV P op t (.v (.int k a)) (.v b) = (binS op (.int k a) b).map .v := rfl
theorem bv_s (op : BinOp) (t : TypeId) (a : ByteArray) (b : Value) : binV P op t (.v (.string a)) (.v b) = (binS op (.string a) b).map .v := rfl
theorem bv_bn (t : TypeId) (a b : Bool) (h : P.underlying t = some .bool) : binV P .neq t (.v (.bool a)) (.v (.bool b)) = some (.v (.bool (!(a == b)))) := by simp only [binV, binT, h]; rfl
theorem bv_n (t : TypeId) (a b : List V) : binV P .neq t (.agg a) (.agg b) = match flatOf P t with
  | some ks => (eqCells ks a b).map fun r => .v (.bool !r)
  | none => none := rfl
theorem uv_v (op : UnOp) (a : Value) : unV op (.v a) = (unS op a).map .v := rfl
theorem nc_p (b o : Nat) : nilCheckV (.ptr b o) = some (V.ptr b o) := rfl
theorem cv_v (h : Heap) (a b : TypeId) (y : Value) : convV P h a b (.v y) = convS P a b (.v y) := rfl
theorem cv_l (h : Heap) (a b : TypeId) (k : Own) (rows : List (List V)) : convV P h a b (.list k rows) = if isStr P b then
   match P.underlying a with
   | some (.slice e) => if isU8 P e then (bytesOf rows).map fun l => .v (.string ⟨l.toArray⟩) else if isI32 P e then (runesOf rows).map fun l => .v (.string (runesBytes l)) else none
   | _ => none
  else none := rfl
theorem cv_b (h : Heap) (a b : TypeId) (i o n : Nat) : convV P h a b (.buf i o n) = if isStr P b then
   match P.underlying a, cellsOfOb h i with
   | some (.slice e), some cs =>
    if isU8 P e && decide (o + n ≤ cs.length) then (bytesOf (((cs.drop o).take n).map fun x => [x])).map fun l => .v (.string ⟨l.toArray⟩) else none
   | _, _ => none
  else none := rfl
theorem fa_p (t : TypeId) (f b o : Nat) : fieldAddrV P t f (.ptr b o) = match fieldOff P t f with
  | some (k, u) => if 0 < tsize P u then some (V.ptr b (o + k)) else none
  | none => none := by unfold fieldAddrV; cases fieldOff P t f <;> rfl
theorem fa_r (t : TypeId) (f : Nat) (cs : List V) : fieldAddrV P t f (.rp cs) = match fieldOff P t f with
  | some (k, u) => if 0 < tsize P u ∧ k < cs.length then some (V.rp (cs.drop k)) else none
  | none => none := by unfold fieldAddrV; cases fieldOff P t f <;> rfl
theorem ia_l (t : TypeId) (k : Own) (rows : List (List V)) (kk : IntKind) (n : Int) : indexAddrV P t (.list k rows) (.v (.int kk n)) = match P.underlying t with
  | some (.slice e) => if 0 ≤ n then
    match rows[n.toNat]? with
    | some row => if row.length = tsize P e ∧ 0 < tsize P e then some (V.rp row) else none
    | none => none
   else none
  | _ => none := by
 show (match V.list k rows, some n, P.underlying t with
  | .list _ rows, some n, some (.slice e) =>
   if 0 ≤ n then
    match rows[n.toNat]? with
    | some row => if row.length = tsize P e ∧ 0 < tsize P e then some (V.rp row) else none
    | none => none
   else none
  | .buf b o m, some n, some (.slice e) => if 0 ≤ n ∧ n < m ∧ tsize P e = 1 then some (V.ptr b (o + n.toNat)) else none
  | .stk b m sz, some n, some (.slice e) => if 0 ≤ n ∧ n < m ∧ tsize P e = sz ∧ 0 < sz then some (V.ptr b (n.toNat * sz)) else none
  | .ptr b o, some n, some (.array m e) => if 0 ≤ n ∧ n < m ∧ 0 < tsize P e then some (V.ptr b (o + n.toNat * tsize P e)) else none
  | .rp cs, some n, some (.array m e) => if 0 ≤ n ∧ n < m ∧ 0 < tsize P e ∧ n.toNat * tsize P e < cs.length then some (.rp (cs.drop (n.toNat * tsize P e))) else none
  | _, _, _ => none) = _
 cases P.underlying t with
 | none => rfl
 | some d => cases d <;> rfl
theorem ia_b (t : TypeId) (b o m : Nat) (kk : IntKind) (n : Int) : indexAddrV P t (.buf b o m) (.v (.int kk n)) = match P.underlying t with
  | some (.slice e) => if 0 ≤ n ∧ n < m ∧ tsize P e = 1 then some (V.ptr b (o + n.toNat)) else none
  | _ => none := by
 unfold indexAddrV
 cases P.underlying t with
 | none => rfl
 | some d => cases d <;> rfl
theorem ia_k (t : TypeId) (b m sz : Nat) (kk : IntKind) (n : Int) : indexAddrV P t (.stk b m sz) (.v (.int kk n)) = match P.underlying t with
  | some (.slice e) => if 0 ≤ n ∧ n < m ∧ tsize P e = sz ∧ 0 < sz then some (V.ptr b (n.toNat * sz)) else none
  | _ => none := by
 unfold indexAddrV
 cases P.underlying t with
 | none => rfl
 | some d => cases d <;> rfl
theorem ia_r (t : TypeId) (cs : List V) (kk : IntKind) (n : Int) : indexAddrV P t (.rp cs) (.v (.int kk n)) = match P.underlying t with
  | some (.array m e) => if 0 ≤ n ∧ n < m ∧ 0 < tsize P e ∧ n.toNat * tsize P e < cs.length then some (.rp (cs.drop (n.toNat * tsize P e))) else none
  | _ => none := by
 unfold indexAddrV
 cases P.underlying t with
 | none => rfl
 | some d => cases d <;> rfl
theorem ix_s (t : TypeId) (b : ByteArray) (kk : IntKind) (n : Int) (hu : P.underlying t = some .string) : indexV P t (.v (.string b)) (.v (.int kk n)) = if 0 ≤ n then (b.data[n.toNat]?).map fun c => .v (.int .u8 c.toNat) else none := by
 unfold indexV
 rw [hu]
 rfl
theorem ex_t (i : Nat) (vs : List V) : extractV i (.tup vs) = (vs[i]?).map cps := rfl
theorem ln_l (e : TypeId) (k : Own) (rows : List (List V)) : lenV (some (.slice e)) (.list k rows) = some (.v (.int .i64 rows.length)) := rfl
theorem ln_b (e : TypeId) (b o n : Nat) : lenV (some (.slice e)) (.buf b o n) = some (.v (.int .i64 n)) := rfl
theorem ln_k (e : TypeId) (b n sz : Nat) : lenV (some (.slice e)) (.stk b n sz) = some (.v (.int .i64 n)) := rfl
theorem ln_s (b : ByteArray) : lenV (some .string) (.v (.string b)) = some (.v (.int .i64 b.size)) := rfl
theorem ld_r (h : Heap) (t : TypeId) (cs : List V) : loadV P h t (.rp cs) = takeCells P t cs := rfl
theorem ld_p (h : Heap) (t : TypeId) (b o : Nat) : loadV P h t (.ptr b o) = match cellsOfOb h b with
  | some cs => match ttag P t with
   | some true => takeCells P t (cs.drop o)
   | some false => (cs[o]?).map (tagC b o)
   | none => none
  | none => none := rfl
end ops
def pre (b c : Bool) : Prop := b = true → c = true
theorem pre_refl (b : Bool) : pre b b = True := eq_true fun h => h
theorem gv_on {b c : Bool} (h : pre b c) (hb : b = true) (v : V) : gV c v = v := by rw [h hb]; rfl
def noG (_ : List V) : Bool := true
theorem noG_0 : noG [] = true := by unfold noG; rfl
theorem noG_v (x : Value) (l : List V) : noG (.v x :: l) = noG l := by unfold noG; rfl
theorem noG_n (l : List V) : noG (.nil :: l) = noG l := by unfold noG; rfl
theorem noG_l (k : Own) (r : List (List V)) (l : List V) : noG (.list k r :: l) = noG l := by unfold noG; rfl
theorem noG_p (b o : Nat) (l : List V) : noG (.ptr b o :: l) = noG l := by unfold noG; rfl
theorem noG_a (cs : List V) (l : List V) : noG (.agg cs :: l) = noG l := by unfold noG; rfl
theorem noG_f (f : Nat) (cs : List V) (l : List V) : noG (.fn f cs :: l) = noG l := by unfold noG; rfl
theorem evCall_go (call : CallF) (lo : Nat) (s : St) (f : Operand) (args : List V) (_ : noG args = true) : evCall call lo s f args = match opd s.1 f with
 | .fn f caps => match call lo f (headB caps ++ (args.map fzs ++ tailB caps)) s.2 with
  | some (r, h) => some (r, (untagC s.1, h))
  | none => none
 | _ => none := by unfold evCall; rfl
section strip
variable {b c : Bool} {s : St} {P : Program} (h : pre b c)
include h
theorem st_moveV0 (vars : List Nat) (t : Nat) (x : V) : gOp b s (pureC s (moveV vars t (gV c x))) = gOp b s (pureC s (moveV vars t x)) := by
 cases hb : b with
 | true => rw [gv_on h hb]
 | false => rfl
theorem st_binV0 (op : BinOp) (t : TypeId) (x y : V) : gOp b s (pureC s (binV P op t (gV c x) y)) = gOp b s (pureC s (binV P op t x y)) := by
 cases hb : b with
 | true => rw [gv_on h hb]
 | false => rfl
theorem st_binV0h (op : BinOp) (t : TypeId) (x y : V) : gH b (binV P op t (gV c x) y) = gH b (binV P op t x y) := by
 cases hb : b with
 | true => rw [gv_on h hb]
 | false => rfl
theorem st_nilCheckV0  (x : V) : gOp b s (pureC s (nilCheckV (gV c x))) = gOp b s (pureC s (nilCheckV x)) := by
 cases hb : b with
 | true => rw [gv_on h hb]
 | false => rfl
theorem st_fieldAddrV0 (t : TypeId) (f : Nat) (x : V) : gOp b s (pureC s (fieldAddrV P t f (gV c x))) = gOp b s (pureC s (fieldAddrV P t f x)) := by
 cases hb : b with
 | true => rw [gv_on h hb]
 | false => rfl
theorem st_indexAddrV0h (t : TypeId) (x y : V) : gH b (indexAddrV P t (gV c x) y) = gH b (indexAddrV P t x y) := by
 cases hb : b with
 | true => rw [gv_on h hb]
 | false => rfl
theorem st_indexAddrV1h (t : TypeId) (x y : V) : gH b (indexAddrV P t x (gV c y)) = gH b (indexAddrV P t x y) := by
 cases hb : b with
 | true => rw [gv_on h hb]
 | false => rfl
theorem st_indexV0 (t : TypeId) (x y : V) : gOp b s (pureC s (indexV P t (gV c x) y)) = gOp b s (pureC s (indexV P t x y)) := by
 cases hb : b with
 | true => rw [gv_on h hb]
 | false => rfl
theorem st_indexV1 (t : TypeId) (x y : V) : gOp b s (pureC s (indexV P t x (gV c y))) = gOp b s (pureC s (indexV P t x y)) := by
 cases hb : b with
 | true => rw [gv_on h hb]
 | false => rfl
theorem st_loadV0 (hp : Heap) (t : TypeId) (x : V) : gOp b s (pureC s (loadV P hp t (gV c x))) = gOp b s (pureC s (loadV P hp t x)) := by
 cases hb : b with
 | true => rw [gv_on h hb]
 | false => rfl
theorem st_pickV0  (x y z : V) : gOp b s (pureC s (pickV (gV c x) y z)) = gOp b s (pureC s (pickV x y z)) := by
 cases hb : b with
 | true => rw [gv_on h hb]
 | false => rfl
theorem st_call0 (call : CallF) (lo : Nat) (s1 : St) (f : Operand) (w : V) (l : List V) : gOp b s (evCall call lo s1 f (gV c w :: l)) = gOp b s (evCall call lo s1 f (w :: l)) := by
 cases hb : b with
 | true => rw [gv_on h hb]
 | false => rfl
theorem st_call1 (call : CallF) (lo : Nat) (s1 : St) (f : Operand) (x w : V) (l : List V) : gOp b s (evCall call lo s1 f (x :: gV c w :: l)) = gOp b s (evCall call lo s1 f (x :: w :: l)) := by
 cases hb : b with
 | true => rw [gv_on h hb]
 | false => rfl
end strip
theorem pl_s {d c : Bool} (h : pre (d == true) c) (v q : V) : pickC d (gV c v) q = pickC d v q := by
 cases d with
 | true => rw [gv_on h (by rfl)]
 | false => rfl
theorem pr_s {d c : Bool} (h : pre (d == false) c) (p v : V) : pickC d p (gV c v) = pickC d p v := by
 cases d with
 | true => rfl
 | false => rw [gv_on h (by rfl)]
theorem plg_s {b d c : Bool} {s : St} (h : pre (b && (d == true)) c) (v q : V) : gOp b s (some (pickC d (gV c v) q, s)) = gOp b s (some (pickC d v q, s)) := by
 cases hb : b with
 | false => rfl
 | true =>
  cases hd : d with
  | false => rfl
  | true => rw [gv_on h (by simp [hb, hd])]
theorem prg_s {b d c : Bool} {s : St} (h : pre (b && (d == false)) c) (p v : V) : gOp b s (some (pickC d p (gV c v), s)) = gOp b s (some (pickC d p v, s)) := by
 cases hb : b with
 | false => rfl
 | true =>
  cases hd : d with
  | true => rfl
  | false => rw [gv_on h (by simp [hb, hd])]
theorem cp_v (x : Value) : cp (.v x) = .v x := rfl
theorem cp_0  : cp (.nil) = .nil := rfl
theorem cp_no (r : List (List V)) : cp (.list .no r) = .list .no r := rfl
theorem cp_y (r : List (List V)) : cp (.list .yes r) = .list .no r := rfl
theorem cp_c (b o : Nat) (r : List (List V)) : cp (.list (.cell b o) r) = .list .no r := rfl
theorem cp_p (b o : Nat) : cp (.ptr b o) = .ptr b o := rfl
theorem cp_k (b n sz : Nat) : cp (.stk b n sz) = .stk b n sz := rfl
theorem cps_v (x : Value) : cps (.v x) = .v x := rfl
theorem cps_0  : cps (.nil) = .nil := rfl
theorem cps_no (r : List (List V)) : cps (.list .no r) = .list .no r := rfl
theorem cps_c (b o : Nat) (r : List (List V)) : cps (.list (.cell b o) r) = .list .no r := rfl
theorem cps_s (u : Nat) (r : List (List V)) : cps (.list (.slot u) r) = .list .no r := rfl
theorem cps_p (b o : Nat) : cps (.ptr b o) = .ptr b o := rfl
theorem cps_b (b o n : Nat) : cps (.buf b o n) = .buf b o n := rfl
theorem cps_k (b n sz : Nat) : cps (.stk b n sz) = .stk b n sz := rfl
theorem cps_a (cs : List V) : cps (.agg cs) = .agg (cs.map cp) := rfl
theorem cps_f (f : Nat) (cs : List V) : cps (.fn f cs) = .fn f cs := rfl
theorem own1_v (x : Value) : own1 (.v x) = .v x := rfl
theorem own1_0  : own1 (.nil) = .list .yes [] := rfl
theorem own1_no (r : List (List V)) : own1 (.list .no r) = .list .no r := rfl
theorem own1_y (r : List (List V)) : own1 (.list .yes r) = .list .yes r := rfl
theorem own1_p (b o : Nat) : own1 (.ptr b o) = .ptr b o := rfl
theorem own1_b (b o n : Nat) : own1 (.buf b o n) = .buf b o n := rfl
theorem own1_k (b n sz : Nat) : own1 (.stk b n sz) = .stk b n sz := rfl
theorem own1_f (f : Nat) (cs : List V) : own1 (.fn f cs) = .fn f cs := rfl
theorem own1s_v (x : Value) : own1s (.v x) = .v x := rfl
theorem own1s_no (r : List (List V)) : own1s (.list .no r) = .list .no r := rfl
theorem own1s_y (r : List (List V)) : own1s (.list .yes r) = .list .yes r := rfl
theorem own1s_p (b o : Nat) : own1s (.ptr b o) = .ptr b o := rfl
theorem own1s_k (b n sz : Nat) : own1s (.stk b n sz) = .stk b n sz := rfl
theorem own1s_a (cs : List V) : own1s (.agg cs) = .agg (cs.map own1) := rfl
theorem fz_v (x : Value) : fz (.v x) = .v x := rfl
theorem fz_0  : fz (.nil) = .list .no [] := rfl
theorem fz_no (r : List (List V)) : fz (.list .no r) = .list .no r := rfl
theorem fzs_v (x : Value) : fzs (.v x) = .v x := rfl
theorem fzs_0  : fzs (.nil) = .list .no [] := rfl
theorem fzs_no (r : List (List V)) : fzs (.list .no r) = .list .no r := rfl
theorem fzs_y (r : List (List V)) : fzs (.list .yes r) = .list .no r := rfl
theorem fzs_c (b o : Nat) (r : List (List V)) : fzs (.list (.cell b o) r) = .list .no r := rfl
theorem fzs_s (u : Nat) (r : List (List V)) : fzs (.list (.slot u) r) = .list .no r := rfl
theorem fzs_p (b o : Nat) : fzs (.ptr b o) = .ptr b o := rfl
theorem fzs_a (cs : List V) : fzs (.agg cs) = .agg (cs.map fz) := rfl
theorem fzs_f (f : Nat) (cs : List V) : fzs (.fn f cs) = .fn f cs := rfl
theorem untag1_v (x : Value) : untag1 (.v x) = .v x := rfl
theorem untag1_no (r : List (List V)) : untag1 (.list .no r) = .list .no r := rfl
theorem untag1_y (r : List (List V)) : untag1 (.list .yes r) = .list .yes r := rfl
theorem untag1_c (b o : Nat) (r : List (List V)) : untag1 (.list (.cell b o) r) = .list .no r := rfl
theorem untag1_s (u : Nat) (r : List (List V)) : untag1 (.list (.slot u) r) = .list .no r := rfl
theorem untag1_p (b o : Nat) : untag1 (.ptr b o) = .ptr b o := rfl
theorem untag1_r (cs : List V) : untag1 (.rp cs) = .rp cs := rfl
theorem untag1_b (b o n : Nat) : untag1 (.buf b o n) = .buf b o n := rfl
theorem untag1_k (b n sz : Nat) : untag1 (.stk b n sz) = .stk b n sz := rfl
theorem untag1_a (cs : List V) : untag1 (.agg cs) = .agg cs := rfl
theorem untag1_t (vs : List V) : untag1 (.tup vs) = .tup vs := rfl
theorem untag1_f (f : Nat) (cs : List V) : untag1 (.fn f cs) = .fn f cs := rfl
theorem untagC1_v (x : Value) : untagC1 (.v x) = .v x := rfl
theorem untagC1_no (r : List (List V)) : untagC1 (.list .no r) = .list .no r := rfl
theorem untagC1_y (r : List (List V)) : untagC1 (.list .yes r) = .list .yes r := rfl
theorem untagC1_c (b o : Nat) (r : List (List V)) : untagC1 (.list (.cell b o) r) = .list .no r := rfl
theorem untagC1_s (u : Nat) (r : List (List V)) : untagC1 (.list (.slot u) r) = .list (.slot u) r := rfl
theorem untagC1_p (b o : Nat) : untagC1 (.ptr b o) = .ptr b o := rfl
theorem untagC1_r (cs : List V) : untagC1 (.rp cs) = .rp cs := rfl
theorem untagC1_k (b n sz : Nat) : untagC1 (.stk b n sz) = .stk b n sz := rfl
theorem untagC1_a (cs : List V) : untagC1 (.agg cs) = .agg cs := rfl
theorem untagC1_f (f : Nat) (cs : List V) : untagC1 (.fn f cs) = .fn f cs := rfl
theorem untagC1_g (b : Bool) (v : V) : untagC1 (gV b v) = gV b (untagC1 v) := by cases b <;> rfl
theorem untag1_g (b : Bool) (v : V) : untag1 (gV b v) = gV b (untag1 v) := by cases b <;> rfl
theorem look_in (t u : Nat) (x : V) : ∀ g : Env, look (ins t x g) u = if t = u then x else look g u
 | [] => by simp only [ins, look]
 | (k, y) :: g => by
  simp only [ins]
  split
  ·rfl
  ·split
   ·rename_i _ h
    subst h
    simp only [look]
    split <;> rfl
   ·rename_i _ h
    simp only [look, look_in t u x g]
    split
    ·rename_i h2
     subst h2
     rw [if_neg h]
    ·rfl
theorem untag_ins (t : Nat) (x : V) : ∀ g : Env, untag (ins t x g) = ins t (untag1 x) (untag g)
 | [] => rfl
 | (k, y) :: g => by
  simp only [ins]
  split
  ·rename_i h; simp only [untag, List.map_cons, ins, if_pos h]
  ·rename_i h1
   split
   ·rename_i h; simp only [untag, List.map_cons, ins, if_neg h1, if_pos h]
   ·rename_i h
    have := untag_ins t x g
    unfold untag at this ⊢
    simp only [List.map_cons, ins, if_neg h1, if_neg h, this]
theorem untag_nil : untag [] = [] := rfl
theorem untag_cons (k : Nat) (x : V) (g : Env) : untag ((k, x) :: g) = (k, untag1 x) :: untag g := rfl
theorem untagC_ins (t : Nat) (x : V) : ∀ g : Env, untagC (ins t x g) = ins t (untagC1 x) (untagC g)
 | [] => rfl
 | (k, y) :: g => by
  simp only [ins]
  split
  ·rename_i h; simp only [untagC, List.map_cons, ins, if_pos h]
  ·rename_i h1
   split
   ·rename_i h; simp only [untagC, List.map_cons, ins, if_neg h1, if_pos h]
   ·rename_i h
    have := untagC_ins t x g
    unfold untagC at this ⊢
    simp only [List.map_cons, ins, if_neg h1, if_neg h, this]
theorem untagC_nil : untagC [] = [] := rfl
theorem untagC_cons (k : Nat) (x : V) (g : Env) : untagC ((k, x) :: g) = (k, untagC1 x) :: untagC g := rfl
theorem kilE_nil (i : Nat) : kilE i [] = [] := rfl
theorem kilE_cons (i k : Nat) (x : V) (g : Env) : kilE i ((k, x) :: g) = (k, kil i x) :: kilE i g := rfl
theorem kilE_ins (i t : Nat) (x : V) : ∀ g : Env, kilE i (ins t x g) = ins t (kil i x) (kilE i g)
 | [] => rfl
 | (k, y) :: g => by
  simp only [ins]
  split
  ·rename_i h; simp only [kilE, List.map_cons, ins, if_pos h]
  ·rename_i h1
   split
   ·rename_i h; simp only [kilE, List.map_cons, ins, if_neg h1, if_pos h]
   ·rename_i h
    have := kilE_ins i t x g
    unfold kilE at this ⊢
    simp only [List.map_cons, ins, if_neg h1, if_neg h, this]
theorem hp_drop0 (h l : List Ob) : (h ++ l).drop h.length = l := List.drop_left
theorem kil_v (i : Nat) (x : Value) : kil i (.v x) = .v x := rfl
theorem kil_l (i : Nat) (k : Own) (r : List (List V)) : kil i (.list k r) = .list k r := rfl
theorem kil_p (i b o : Nat) : kil i (.ptr b o) = if decide (b ≠ i) = true then .ptr b o else .undef := rfl
theorem kil_k (i b n sz : Nat) : kil i (.stk b n sz) = if decide (b ≠ i) = true then .stk b n sz else .undef := rfl
theorem kil_a (i : Nat) (cs : List V) : kil i (.agg cs) = if cs.all (avf i) = true then .agg cs else .undef := rfl
theorem kil_f (i f : Nat) (cs : List V) : kil i (.fn f cs) = if cs.all (avc i) = true then .fn f cs else .undef := rfl
theorem rg0 : List.range 0 = [] := rfl
attribute [go_sem] List.mem_cons or_false false_or true_or or_true eq_self List.all_append rg0 Int.reduceLE Int.reduceLT Int.reduceToNat Int.reducePow Nat.reduceLeDiff Nat.reduceMul true_and and_true Option.isSome_some IntKind.bits List.all_nil Value.oneCell'
attribute [go_sem] look_in untag_ins untag_nil untag_cons untagC_ins untagC_nil untagC_cons untagC1_v untagC1_no untagC1_y untagC1_c untagC1_s untagC1_p untagC1_r untagC1_a untagC1_f untagC1_g decide_true decide_false
attribute [go_sem high] plg_s prg_s pk_or pk_and
attribute [go_sem low] gOp_s gH_s w_b wh_b
attribute [go_sem] cp_v cp_0 cp_no cp_y cp_c cp_p cps_v cps_0 cps_no cps_c cps_s cps_p cps_b cps_a cps_f own1_v own1_0 own1_no own1_y own1_p own1_b own1_f own1s_v own1s_no own1s_y own1s_p own1s_a fz_v fz_0 fz_no fzs_v fzs_0 fzs_no fzs_y fzs_c fzs_s fzs_p fzs_a fzs_f untag1_v untag1_no untag1_y untag1_c untag1_s untag1_p untag1_r untag1_b untag1_a untag1_t untag1_f untag1_g
attribute [go_sem] headB tailB isU isRow freezeV List.isEmpty_cons nw_t nw_f isNew sh_s ia_k ln_k mv_k cp_k cps_k own1_k own1s_k untag1_k untagC1_k kilE_nil kilE_cons kilE_ins hp_drop0 kil_v kil_l kil_p kil_k kil_a kil_f avc avf avv kilf kilO kilH keepC pure2 pure3 stkC evNew appNew finR evResR evResultsR okO Nat.add_zero List.drop_nil List.flatten_cons List.flatten_nil
attribute [go_sem] once_f once_n once_s regd_s
attribute [go_sem] m_norm m_ret m_pair m_cons m_v m_list m_bool m_int m_str m_vcons m_same m_then m_block gOp_t gOp_f gH_t gH_f wv_b wv_u wv_g pk_t pk_f pv_b cps_g cond_b want_eq p_move p_movec p_load p_bin p_un p_nil p_conv p_fa p_ia p_ix p_ex p_len p_min p_max mn_v mx_v p_build p_slice p_mf p_pick mv_v mv_y mv_n mv_p mv_b mv_t mv_f bv_v bv_s bv_bn bv_n uv_v nc_p cv_v cv_l cv_b fa_p fa_r ia_l ia_b ia_r ix_s ex_t ln_l ln_b ln_s ld_r ld_p pre_refl st_moveV0 st_binV0 st_binV0h st_nilCheckV0 st_fieldAddrV0 st_indexAddrV0h st_indexAddrV1h st_indexV0 st_indexV1 st_loadV0 st_pickV0 st_call0 st_call1 pl_s pr_s convS Bool.and_self Bool.or_true Bool.true_or Bool.or_false Bool.false_or Bool.and_false Bool.false_and Bool.true_beq Bool.false_beq c_skip c_region c_seq c_cond c_block c_loop c_exit c_scope c_label c_ret then_n then_e then_r block_n block_e block_r norm_s loop_n loop_e loop_r r_line r_draw tr_n tr_s t_fin t_finS t_finL kp_s swc_s sws_n sws_c kn_n kn_s keep1 sinkS sw_a sw_b sw_c sw_d sw_01 sw_02 sw_03 sw_10 sw_12 sw_20 sw_21 sw_23 swE_n swE_c swr_p swr_v swr_l swf_p swf_v swf_l swO_c swL_0 swL_1 swL_2 sws_eq t_head t_one t_alt nx_s same_eq js_s je_n je_s je_f sx_eq cond_any la_t lm_t la_s lh_s t_two two_s evTwo evLate1 evMid sp_eq so_s sp_h sp_o sp_k tb_f tk_s List.contains_cons List.contains_nil tail_s reg_s o_nil o_cons w_t w_f a_s pure_s op_eq op_t op_f h_nil h_cons wh_t wh_f ah_s hd_eq hd_f hd_t b_add b_sub b_mul b_quo b_rem b_and b_or b_eql b_neq b_lss b_leq b_gtr b_geq b_shl b_shr b_sadd b_seql b_sneq u_neg u_not keptO isEff opd look put lives isAssign evEff takeO ofC ofC1 tailAt idx bnd takeCells tagC cellsV partOk stoOk okc okv okr buildV fzr owner appRows notInt pure1 evCall_go noG_0 noG_v noG_n noG_l noG_p noG_a noG_f fin evRes evResults resV args0 setOb cellsOfOb bare leaf0 loops loopAt bodyOf List.zipIdx Option.getD_some List.nil_append List.append_nil List.cons_append ri_len ri_get ri_all ri_runes ri_bytes hl_app hl_cons hp_take hp_at hp_atk hp_set hp_setk List.set_cons_zero List.set_cons_succ List.take_length List.take_left List.append_assoc n0 bne_self_eq_false beq_self_eq_true Bool.not_true Bool.not_false
attribute [go_sem] Nat.reduceEqDiff Nat.reduceLT Nat.reduceAdd Nat.lt_irrefl reduceIte if_true if_false Option.some.injEq Nat.not_lt_zero Nat.reduceBEq
attribute [go_sem] Option.map_some Option.map_none Option.bind_some List.map_cons List.map_nil List.take_succ_cons List.take_zero List.drop_succ_cons List.drop_zero List.take_nil List.drop_nil List.getElem?_cons_zero List.getElem?_cons_succ List.getElem?_toArray List.length_cons List.length_nil Int.toNat_natCast Bool.false_eq_true List.not_mem_nil List.size_toArray and_self List.all_cons List.all_nil Bool.and_true Bool.true_and Int.natCast_nonneg
@[go_sem] theorem byteRow_i32 (l : List Int) : isByteRow (ri .i32 l) = false := by cases l <;> rfl
@[go_sem] theorem ibr_c (r : List V) (l : List (List V)) : isByteRow (r :: l) = isByteV r := rfl
@[go_sem] theorem ibr_n : isByteRow [] = false := rfl
attribute [go_sem] bldT bldS isBld isNilP byT isByteV List.any_cons List.any_nil
end Go.Lift
end

section
namespace Go.Lift
theorem hp_dropK (h l : List Ob) (k : Nat) : (h ++ l).drop (h.length + k) = l.drop k := by
 rw [List.drop_append, List.drop_of_length_le (by omega), List.nil_append, Nat.add_sub_cancel_left]
theorem hp_ltA (h : List Ob) (a b c : Nat) : decide (h.length + a < h.length + b + c) = decide (a < b + c) := by
 rw [decide_eq_decide]; omega
theorem hp_ltB (h : List Ob) (b c : Nat) : decide (h.length < h.length + b + c) = decide (0 < b + c) := by
 rw [decide_eq_decide]; omega
theorem hp_takeB (h l : List Ob) (a b : Nat) : (h ++ l).take (h.length + a + b) = h ++ l.take (a + b) := by rw [Nat.add_assoc]; exact hp_take h l (a + b)
theorem untag1_ud : untag1 .undef = .undef := rfl
theorem tk_set {α : Type} {l : List α} {n : Nat} {x : α} (hn : n < l.length) : l.take n ++ x :: l.drop (n + 1) = l.set n x := by rw [List.set_eq_take_append_cons_drop, if_pos hn]
theorem untag1_an : untag1 .any = .any := rfl
attribute [go_sem] untag1_an
theorem bn20 : ((2 : Nat) != 0) = true := rfl
theorem bn10 : ((1 : Nat) != 0) = true := rfl
attribute [go_sem] bn20 bn10
theorem sw_1_3 : sw 1 3 = 3 := rfl
theorem sw_3_0 : sw 3 0 = 0 := rfl
theorem sw_3_1 : sw 3 1 = 1 := rfl
theorem sw_3_2 : sw 3 2 = 2 := rfl
theorem sw_3_4 : sw 3 4 = 3 := rfl
theorem sw_4_0 : sw 4 0 = 0 := rfl
theorem sw_4_1 : sw 4 1 = 1 := rfl
theorem sw_4_2 : sw 4 2 = 2 := rfl
theorem sw_4_3 : sw 4 3 = 3 := rfl
theorem sw_5_0 : sw 5 0 = 0 := rfl
theorem sw_5_1 : sw 5 1 = 1 := rfl
theorem sw_5_2 : sw 5 2 = 2 := rfl
theorem sw_5_3 : sw 5 3 = 3 := rfl
theorem sw_5_4 : sw 5 4 = 4 := rfl
theorem sw_5_6 : sw 5 6 = 5 := rfl
theorem sw_6_0 : sw 6 0 = 0 := rfl
theorem sw_6_1 : sw 6 1 = 1 := rfl
theorem sw_6_2 : sw 6 2 = 2 := rfl
theorem sw_6_3 : sw 6 3 = 3 := rfl
theorem sw_6_4 : sw 6 4 = 4 := rfl
theorem sw_6_5 : sw 6 5 = 5 := rfl
theorem swL_3 {α : Type} (a b c x y : α) (l : List α) : swL 3 (a :: b :: c :: x :: y :: l) = a :: b :: c :: y :: x :: l := rfl
theorem swL_5 {α : Type} (a b c d e x y : α) (l : List α) : swL 5 (a :: b :: c :: d :: e :: x :: y :: l) = a :: b :: c :: d :: e :: y :: x :: l := rfl
theorem swr_fn (j f : Nat) (cs : List V) : swr j (.fn f cs) = .fn f (cs.map (swc j)) := rfl
theorem swf_s (j b n z : Nat) : swf j (.stk b n z) = .stk (sw j b) n z := rfl
theorem swc_p (j b o : Nat) : swc j (.ptr b o) = .ptr (sw j b) o := rfl
attribute [go_sem] sw_1_3 sw_3_0 sw_3_1 sw_3_2 sw_3_4 sw_4_0 sw_4_1 sw_4_2 sw_4_3 sw_5_0 sw_5_1 sw_5_2 sw_5_3 sw_5_4 sw_5_6 sw_6_0 sw_6_1 sw_6_2 sw_6_3 sw_6_4 sw_6_5 swL_3 swL_5 swr_fn swf_s swc_p Nat.add_sub_cancel_left Nat.sub_self
theorem hp_ltC (h : List Ob) (a b c : Nat) : (h.length + a + b < h.length + c) = (a + b < c) := by rw [eq_iff_iff]; omega
theorem hp_neA (h : List Ob) (k : Nat) : decide (h.length + (k + 1) ≠ h.length) = true := by rw [decide_eq_true_iff]; omega
theorem hp_neC (h : List Ob) (a b : Nat) : decide (h.length + a ≠ h.length + b) = decide (a ≠ b) := by rw [decide_eq_decide]; omega
theorem hp_neD (h : List Ob) (k : Nat) : decide (h.length ≠ h.length + (k + 1)) = true := by rw [decide_eq_true_iff]; omega
theorem hp_ltE (h : List Ob) (k : Nat) : decide (h.length < h.length + (k + 1)) = true := by rw [decide_eq_true_iff]; omega
theorem nat_neS (a : Nat) : decide (a ≠ a) = false := by simp
attribute [go_sem] nat_neS
theorem hp_eqA (h : List Ob) (k : Nat) : (h.length + (k + 1) = h.length) = False := by rw [eq_iff_iff, iff_false]; omega
theorem hp_ltG (h : List Ob) (a b : Nat) : (h.length + a < h.length + b) = (a < b) := by rw [eq_iff_iff]; omega
theorem sw_e (n a b : Nat) : sw n (n + a + b) = n + sw 0 (a + b) := by
 unfold sw
 repeat' split
 all_goals omega
attribute [go_sem] hp_ltG sw_e
attribute [go_sem] hp_eqA
attribute [go_sem] hp_ltC hp_ltE hp_neA hp_neC hp_neD
attribute [go_sem] Nat.le_add_right Nat.le_refl Nat.add_le_add_iff_left
theorem nat_ne {a b : Nat} (h : (a == b) = false) : (a ≠ b) = True := by rw [eq_iff_iff, iff_true]; intro e; rw [e, beq_self_eq_true] at h; cases h
attribute [go_sem] nat_ne Option.isNone_none untag1_ud
attribute [go_sem] hp_dropK Nat.reduceSub hp_ltA hp_ltB hp_takeB
end Go.Lift
end

section
namespace Go.Lift
def flat : Code -> List Code
 | .seq a b => flat a ++ flat b
 | c => [c]
variable [GTab] [BTy]
section
variable (c : Cx) (lp : LoopF) (s : St)
noncomputable def evL : List Code -> St -> Option (Ex × St)
 | [], s => some (.normal, s)
 | a :: l, s => match evCode c lp a s with
  | some (.normal, s') => evL l s'
  | r => r
noncomputable def thenL (l : List Code) : Option (Ex × St) -> Option (Ex × St)
 | some (.normal, s') => evL c lp l s'
 | r => r
theorem l_nil : evL c lp [] s = some (.normal, s) := rfl
theorem l_cons (a : Code) (l : List Code) : evL c lp (a :: l) s = thenL c lp l (evCode c lp a s) := by
 simp only [evL]
 cases evCode c lp a s with
 | none => rfl
 | some p => obtain ⟨e, s'⟩ := p; cases e <;> rfl
theorem tl_n (l : List Code) : thenL c lp l (some (.normal, s)) = evL c lp l s := rfl
theorem tl_r (l : List Code) : thenL c lp l (some (.ret, s)) = some (.ret, s) := rfl
theorem l_app (m : List Code) : ∀ (l : List Code) (s : St), evL c lp (l ++ m) s = thenL c lp m (evL c lp l s)
 | [], s => rfl
 | a :: l, s => by
  rw [List.cons_append, l_cons, l_cons]
  cases evCode c lp a s with
  | none => rfl
  | some p =>
   obtain ⟨e, s'⟩ := p
   cases e with
   | normal => rw [tl_n, tl_n]; exact l_app m l s'
   | exit j => rfl
   | ret => rfl
theorem one_l (a : Code) : evL c lp [a] s = evCode c lp a s := by
 rw [l_cons]
 cases evCode c lp a s with
 | none => rfl
 | some p => obtain ⟨e, s'⟩ := p; cases e <;> rfl
theorem ev_flat : ∀ (b : Code) (s : St), evCode c lp b s = evL c lp (flat b) s := by
 intro b
 induction b with
 | seq a b iha ihb =>
  intro s
  rw [c_seq, flat, l_app, <- iha]
  cases evCode c lp a s with
  | none => rfl
  | some p =>
   obtain ⟨e, s'⟩ := p
   cases e with
   | normal => rw [then_n, tl_n]; exact ihb s'
   | exit j => rfl
   | ret => rfl
 | _ => intro s; exact (one_l c lp s _).symm
def pc (b : Code) (i n : Nat) : List Code := ((flat b).drop i).take n
noncomputable def thenP (b : Code) (i : Nat) : Option (Ex × St) -> Option (Ex × St)
 | some (.normal, s') => evL c lp ((flat b).drop i) s'
 | r => r
theorem pc_in (b : Code) : evCode c lp b s = thenP c lp b 0 (some (.normal, s)) := by rw [ev_flat]; rfl
theorem pc_go (b : Code) (i n : Nat) : thenP c lp b i (some (.normal, s)) = thenP c lp b (i + n) (evL c lp (pc b i n) s) := by
 show evL c lp ((flat b).drop i) s = _
 have e : (flat b).drop i = pc b i n ++ (flat b).drop (i + n) := by
  unfold pc
  rw [<- List.drop_drop]
  exact (List.take_append_drop n _).symm
 rw [e, l_app]
 rfl
theorem pc_r (b : Code) (i : Nat) : thenP c lp b i (some (.ret, s)) = some (.ret, s) := rfl
end
theorem fl_s (a b : Code) : flat (.seq a b) = flat a ++ flat b := rfl
theorem fl_r (id : Nat) (ops : Array Oper) (d : Bool) : flat (.region id ops d) = [.region id ops d] := rfl
theorem fl_c (x : Operand) (a b : Code) : flat (.cond x a b) = [.cond x a b] := rfl
theorem fl_b (id : Nat) (a : Code) : flat (.block id a) = [.block id a] := rfl
theorem fl_t : flat .ret = [.ret] := rfl
theorem dr_0 (l : List Code) : l.drop 0 = l := rfl
attribute [go_sem] l_nil l_cons tl_n tl_r pc fl_s fl_r fl_c fl_b fl_t dr_0 List.drop_succ_cons List.take_succ_cons List.take_zero List.drop_nil List.take_nil
end Go.Lift
end
