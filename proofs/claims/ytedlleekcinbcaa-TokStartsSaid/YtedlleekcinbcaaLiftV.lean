/- The lifting, twenty-second part: a law's call, and what its statement asks behind it. -/
import Derived.Test.YtedlleekcinbcaaLiftU
namespace Go.Lift
set_option linter.unusedVariables false
set_option linter.unusedSimpArgs false
set_option linter.unusedSectionVars false
open Go.ChangeShapes Go.WideShapes Go.RowKit

def TysV (P : Program) : List TypeId → List V → Prop
  | [], [] => True
  | t :: ts, v :: vs => TyV P t v ∧ TysV P ts vs
  | _, _ => False

theorem size1 (v : V) (h : ∀ cs, v ≠ .agg cs) : asize v = vsRow [v] := by
  cases v with
  | agg cs => exact absurd rfl (h cs)
  | _ => simp [asize, vsRow]

section
variable {H : Type} {enc : TypeId × Value → H} {P : Program} {w : World}

theorem r2_one {c : Cl} {vs : List V} {y : Value} (h : R2 (VP c w) vs [y]) : ∃ v, vs = [v] ∧ VP c w v y := by
  match vs, h.1 with
  | [v], _ => exact ⟨v, rfl, h.head⟩

theorem open_arg {B : DataW H → Nat} {BA : List (DataW H) → Nat} (hB : IsBulk B BA) {ts : List Nat} (hts : ts.all (plainTy P ts) = true) {t : TypeId} {y : Value} {d : DataW H} {p : List MemPlace}
    (ht : ts.contains t = true) (hok : Value.okWide P w .any 0 t y) (h : DataW.Trod enc P w 0 (fun _ => true) true t y d p) :
    ∃ v, VRr [] (wholeCl w) w v y ∧ TyV P t v ∧ asize v ≤ B d := by
  obtain ⟨fuel, hf⟩ := h
  obtain ⟨vs, h1, h2, h3⟩ := open_ty hB hts fuel t _ d p ht hf
  have hp : plainTy P ts t = true := List.all_eq_true.1 hts t (by simpa using ht)
  have one : (∀ xs, y ≠ .agg xs) → (∀ fs, P.underlying t ≠ some (.struct fs)) → ∃ v, VRr [] (wholeCl w) w v y ∧ TyV P t v ∧ asize v ≤ B d := by
    intro hy hn
    have : y.cells.toList = [y] := by
      cases y with
      | agg xs => exact absurd rfl (hy xs)
      | _ => rfl
    rw [this] at h1
    obtain ⟨v, rfl, hv⟩ := r2_one h1
    refine ⟨v, hv.vrr, ?_, ?_⟩
    · unfold TyV
      split
      · rename_i fs he
        exact absurd he (hn fs)
      · exact h2
    · rw [size1]
      · exact h3
      · intro cs hc
        subst hc
        cases hv
  unfold plainTy at hp
  split at hp
  · rename_i hu
    obtain ⟨b, rfl⟩ := okWide_bool hu hok
    exact one (fun _ h => by cases h) (fun fs h => by rw [hu] at h; cases h)
  · rename_i k hu
    obtain ⟨b, rfl⟩ := okWide_int hu hok
    exact one (fun _ h => by cases h) (fun fs h => by rw [hu] at h; cases h)
  · rename_i hu
    obtain ⟨b, rfl⟩ := okWide_string hu hok
    exact one (fun _ h => by cases h) (fun fs h => by rw [hu] at h; cases h)
  · rename_i e hu
    obtain ⟨a, len, cap, rfl⟩ := okWide_slice hu hok
    exact one (fun _ h => by cases h) (fun fs h => by rw [hu] at h; cases h)
  · rename_i fs hu
    obtain ⟨xs, rfl, _⟩ := okWide_struct hu hok
    refine ⟨.agg vs, ⟨xs, rfl, h1.mono fun _ _ hv => hv.vr1⟩, ?_, h3⟩
    unfold TyV
    rw [hu]
    exact ⟨vs, rfl, h2⟩
  · cases hp

theorem open_args {B : DataW H → Nat} {BA : List (DataW H) → Nat} (hB : IsBulk B BA) {ts : List Nat} (hts : ts.all (plainTy P ts) = true) :
    ∀ {us : List TypeId} {ys : List Value} {ds : List (DataW H)} {p : List MemPlace}, us.all ts.contains = true → (∀ (j : Nat) t v, us[j]? = some t → ys[j]? = some v → Value.okWide P w .any 0 t v) →
      DataW.TrodAll enc P w 0 (fun _ => true) true us ys ds p → ∃ vs, R2 (VRr [] (wholeCl w) w) vs ys ∧ TysV P us vs ∧ asizes vs ≤ BA ds
  | [], ys, ds, p, _, _, h => by
    obtain ⟨rfl, rfl, rfl⟩ := trodAll_nil h
    exact ⟨[], R2.nil, trivial, by simp [asizes]⟩
  | u :: us, ys, ds, p, hu, hok, h => by
    obtain ⟨y, ys', d, ds', a, b, rfl, rfl, rfl, h1, h2⟩ := trodAll_cons h
    simp only [List.all_cons, Bool.and_eq_true] at hu
    obtain ⟨v, v1, v2, v3⟩ := open_arg hB hts hu.1 (hok 0 u y rfl rfl) h1
    obtain ⟨vs, w1, w2, w3⟩ := open_args hB hts hu.2 (fun j t x hj hx => hok (j + 1) t x (by simpa using hj) (by simpa using hx)) h2
    refine ⟨v :: vs, R2.cons v1 w1, ⟨v2, w2⟩, ?_⟩
    simp only [asizes, hB.cons]
    omega

variable [GTab]
/-- the package-level variables of the table hold what it says -/
def GOK (w : World) : Prop := ∀ n cs, GTab.tab n = some cs → ROs (wholeCl w) w ⟨n, 0, none⟩ cs
theorem whole_hok (w : World) (hG : GOK w) : HOK [] (wholeCl w) w [] := by
  refine ⟨⟨?_, ?_, List.nodup_nil, rfl, ?_, ?_, ?_, ?_, ?_, ?_, hG⟩, ?_⟩
  · intro b hb
    unfold wholeCl at hb ⊢
    split at hb
    · rename_i arr e f he
      exact ⟨arr, e, f, he, by simp⟩
    · cases hb
  · intro b hb; cases hb
  · intro t; trivial
  · intro i o b ho; simp at ho
  · intro l r x hl
    cases l with
    | slot t => exact absurd hl.1 (by simp [look])
    | cell i j => obtain ⟨os, b, ho, _⟩ := hl; simp [cellsOfOb] at ho
  · intro l l' r r' x x' b hl
    cases l with
    | slot t => exact absurd hl.1 (by simp [look])
    | cell i j => obtain ⟨os, b, ho, _⟩ := hl; simp [cellsOfOb] at ho
  · intro t u r ht; simp [look] at ht
  · intro t i j r ht; simp [look] at ht
  · intro i cs hi; simp [cellsOfOb] at hi

/-- A CALL, from its evaluation: what it answers, and that nothing old has turned -/
theorem call_of {hints : Nat → Hint} {prim : Nat → Option (Nat → List V → Heap → Option (V × Heap))} (hm : P.follows .mixedOrders = true)
    (hprim : ∀ f p, prim f = some p → ∀ lo args h r h', lo ≤ h.length → p lo args h = some (r, h') → CallOK P lo f args h r h')
    {f : Nat} {vs : List V} {x : Value} {args : Array Value} (hG : GOK w) (he : ev P hints prim 0 f vs [] = some (.v x, [])) (ha : R2 (VRr [] (wholeCl w) w) vs args.toList) :
    Calls P f args w fun e w' => e = .returned x ∧ Below w.heap.size w w' := by
  obtain ⟨n, hn⟩ := ev_to he
  have hc := fun_ok hm hprim n 0 f vs [] (.v x) [] (Nat.le_refl _) hn
  obtain ⟨_, hcall⟩ := hc.2.2 [] (wholeCl w) w args (whole_hok w hG) ha
  refine hcall.mono fun e w' ⟨y, c', h1, h2, _, h4, _⟩ => ?_
  obtain rfl : y = x := h2
  refine ⟨h1, h4.os, h4.tape, h4.output, h4.size, fun k hk => (h4.fix k hk (fun i _ h => by simp at h) ?_).1⟩
  rintro ⟨i, j, r, z, _, hl, _⟩
  obtain ⟨os, b, ho, _⟩ := hl
  simp [cellsOfOb] at ho

/-- WHAT THE STATEMENT ASKS, where nothing old has turned and the answer is true -/
theorem post_of_below {f : Func} {s : ChangeSpec} {apart fresh handsOn again : Bool} {W W' : World} {args : Array Value} {v : Value} {ds gs : List (DataW H)} {before pa pv : List MemPlace}
    (hW : DataW.Whole enc P f.params.toList s.vars apart W args.toList ds gs before)
    (hres : ∀ (b : Nat) (sp : Nat → Bool) (hd : Bool), DataW.TrodAll enc P W' b sp hd f.resultTypes.toList (v.resultList f.resultTypes.size) (s.fn H (ds ++ gs)).results [])
    (hargs : DataW.TrodAll enc P W' 0 (fun b => decide (b < W.heap.size)) true f.params.toList args.toList (s.fn H (ds ++ gs)).args pa)
    (hargs2 : DataW.TrodAll enc P W' 0 (fun _ => true) true f.params.toList args.toList (s.fn H (ds ++ gs)).args pa)
    (hvars : ∀ sp : Nat → Bool, (∀ p ∈ before, sp p.block = true) → DataW.TrodVars enc P W' sp s.vars (s.fn H (ds ++ gs)).vars pv)
    (hps : before = pa ++ pv) (hb : Below W.heap.size W W')
    (hok : ∀ (j : Nat) (t : TypeId) (r : Value), f.resultTypes[j]? = some t → (v.resultList f.resultTypes.size)[j]? = some r → Value.okWide P W' .any 0 t r) :
    s.post enc P f apart fresh handsOn again W args v W' := by
  have hold : ∀ p ∈ before, (fun b => decide (b < W.heap.size)) p.block = true := fun p hp => by simpa using hW.lt p hp
  refine ⟨ds, gs, before, [], pa, pv, hW, hres _ _ _, hargs, hvars _ hold, World.keptBut_mono (fun p hp => ⟨hp, ?_⟩) (hb.frame _), fun _ => ?_⟩
  · rw [hps, List.mem_append] at hp
    exact Or.inr hp
  · have hlt := hW.lt
    obtain ⟨_, _, _, _, _, hz, hn⟩ := hW
    refine ⟨hok, _, _, ([] ++ pa) ++ pv, ⟨[] ++ pa, pv, trodAll_append hargs2 (hres _ _ _), hvars _ (fun _ _ => rfl), rfl, ?_, ?_⟩, ?_⟩
    · intro b off hp
      have hm : MemPlace.cell b off ∈ before := by rw [hps]; simpa using hp
      rw [hb.frozen (p := ⟨b, off, none⟩) (show b < W.heap.size from hlt _ hm)]
      exact hz b off hm
    · intro ha
      have := hn ha
      rw [hps] at this
      simpa using this
    · intro p hp _
      rw [hps]
      simpa using hp

theorem trod_stays {t : TypeId} (hl : laidOutB P = true) (hr : P.readableRec t = true) (hrow : t < P.types.size) {W W' : World} {v : Value} {d : DataW H} {ps : List MemPlace}
    (h : DataW.Trod enc P W 0 (fun _ => true) true t v d ps) (hb : Below W.heap.size W W') (hlt : ∀ x ∈ ps, x.block < W.heap.size) (sp : Nat → Bool) (hsp : ∀ x ∈ ps, sp x.block = true) :
    DataW.Trod enc P W' 0 sp true t v d ps :=
  WideElems.Trod_stays hl hr hrow h (fun x hx => hb.same (hlt x hx)) (fun x hx => by simpa using hsp x hx)

theorem trodAll_stays (hl : laidOutB P = true) {W W' : World} (hb : Below W.heap.size W W') :
    ∀ {us : List TypeId} {ys : List Value} {ds : List (DataW H)} {p : List MemPlace}, us.all (fun t => P.readableRec t && decide (t < P.types.size)) = true →
      DataW.TrodAll enc P W 0 (fun _ => true) true us ys ds p → (∀ x ∈ p, x.block < W.heap.size) → ∀ (sp : Nat → Bool), (∀ x ∈ p, sp x.block = true) → DataW.TrodAll enc P W' 0 sp true us ys ds p
  | [], ys, ds, p, _, h, _, sp, _ => by
    obtain ⟨rfl, rfl, rfl⟩ := trodAll_nil h
    rfl
  | u :: us, ys, ds, p, hu, h, hlt, sp, hsp => by
    obtain ⟨y, ys', d, ds', a, b, rfl, rfl, rfl, h1, h2⟩ := trodAll_cons h
    simp only [List.all_cons, Bool.and_eq_true, decide_eq_true_eq] at hu
    exact ⟨a, b, trod_stays hl hu.1.1 hu.1.2 h1 hb (fun x hx => hlt x (by simp [hx])) sp (fun x hx => hsp x (by simp [hx])),
      trodAll_stays hl hb (by simpa using hu.2) h2 (fun x hx => hlt x (by simp [hx])) sp (fun x hx => hsp x (by simp [hx])), rfl⟩

/-- THE LAW: from its evaluation to what its statement asks -/
theorem law_of {hints : Nat → Hint} {prim : Nat → Option (Nat → List V → Heap → Option (V × Heap))} (hm : P.follows .mixedOrders = true)
    (hprim : ∀ f p, prim f = some p → ∀ lo args h r h', lo ≤ h.length → p lo args h = some (r, h') → CallOK P lo f args h r h')
    {B : DataW H → Nat} {BA : List (DataW H) → Nat} (hB : IsBulk B BA) {ts : List Nat} (hts : ts.all (plainTy P ts) = true) {fn : Func} {f bt N : Nat}
    (hin : fn.params.toList.all ts.contains = true) (hrd : fn.params.toList.all (fun t => P.readableRec t && decide (t < P.types.size)) = true) (hlaid : laidOutB P = true)
    (hrt : fn.resultTypes = #[bt]) (hbt : P.underlying bt = some .bool)
    {s : ChangeSpec} (hv : s.vars = []) (hs : ∀ l : List (DataW H), l.length = fn.params.size → s.fn H l = { results := [.lit (.bool true)], args := l })
    (he : ∀ vs, TysV P fn.params.toList vs → asizes vs ≤ N → ev P hints prim 0 f vs [] = some (.v (.bool true), []))
    {W : World} (hG : GOK W) {args : Array Value} {ds gs : List (DataW H)} {before : List MemPlace} {fresh handsOn again : Bool}
    (hval : ∀ (j : Nat) t v, fn.params[j]? = some t → args[j]? = some v → Value.okWide P W .any 0 t v)
    (hW : DataW.Whole enc P fn.params.toList s.vars false W args.toList ds gs before) (hk : BA (ds ++ gs) ≤ N) :
    Calls P f args W fun e W' => ∃ v, e = .returned v ∧ s.post enc P fn false fresh handsOn again W args v W' := by
  have hW' := hW
  have hlt := hW.lt
  obtain ⟨p, q, hA, hV, rfl, hfz, hnd⟩ := hW
  rw [hv] at hV
  obtain ⟨rfl, rfl⟩ := trodVars_none hV
  simp only [List.append_nil] at hW' hk hlt
  obtain ⟨vs, h1, h2, h3⟩ := open_args hB hts hin (fun j t v hj hx => hval j t v (by simpa using hj) (by simpa using hx)) hA
  refine (call_of hm hprim hG (he vs h2 (by omega)) h1).mono fun e W' ⟨he, hb⟩ => ?_
  subst he
  refine ⟨_, rfl, ?_⟩
  have hlen : ∀ {us : List TypeId} {ys : List Value} {ds : List (DataW H)} {p : List MemPlace}, DataW.TrodAll enc P W 0 (fun _ => true) true us ys ds p → ds.length = us.length := by
    intro us
    induction us with
    | nil => intro ys ds p h; obtain ⟨rfl, rfl, rfl⟩ := trodAll_nil h; rfl
    | cons u us ih =>
      intro ys ds p h
      obtain ⟨y, ys', d, ds', a, b, rfl, rfl, rfl, h1, h2⟩ := trodAll_cons h
      simp [ih h2]
  have hs' := hs ds (by simpa using hlen hA)
  refine post_of_below (gs := []) (pa := p) (pv := []) hW' ?_ ?_ ?_ ?_ (by simp) hb ?_
  · intro b sp hd
    rw [List.append_nil, hs', hrt]
    exact trodAll_mk1 (shut_bool hbt _)
  · rw [List.append_nil, hs']
    exact trodAll_stays hlaid hb hrd hA hlt _ (fun x hx => by simpa using hlt x hx)
  · rw [List.append_nil, hs']
    exact trodAll_stays hlaid hb hrd hA hlt _ (fun x hx => rfl)
  · intro sp _
    rw [List.append_nil, hs', hv]
    rfl
  · exact ok_one hrt rfl (okWide_bool_mk hbt _)
end

end Go.Lift
