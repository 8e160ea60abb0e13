/- The lifting, second part: plain operations, states and their changes, effects. -/
import Derived.Laws.IdiomStrings
import Derived.Test.YtnfdhgadidacaaaGreatDoorLa
section
/- The lifting, sixth part: operators of two operands; all pure operations together. -/
namespace Go.Lift
set_option linter.unusedVariables false
set_option linter.unusedSimpArgs false
set_option linter.unusedSectionVars false
variable [GTab] [BTy]

section
variable {P : Program} {vars : List Nat} {m : List Nat} {c : Cl} {w : World} {g : Env} {h : Heap} {a : Act}

theorem run_eqGuard_int (op : BinOp) (t : TypeId) (x y : Operand) (k k' : IntKind) (p q : Int) : (eqGuard op t x y (.int k p) (.int k' q)).run P w = .ok () w := by
  cases op <;> simp [eqGuard]
theorem run_eqGuard_string (op : BinOp) (t : TypeId) (x y : Operand) (p q : ByteArray) : (eqGuard op t x y (.string p) (.string q)).run P w = .ok () w := by
  cases op <;> simp [eqGuard]

theorem binS_run {op : BinOp} {t : TypeId} {p q r : Value} (hr : binS op p q = some r) : (binOp op t p q).run P w = .ok r w ∧ (∀ x y, (eqGuard op t x y p q).run P w = .ok () w) := by
  unfold binS at hr
  split at hr
  · rename_i k u k' v
    refine ⟨?_, fun x y => run_eqGuard_int op t x y k k' u v⟩
    split at hr
    · split at hr
      · rename_i h0; cases hr; simp [binOp, Op.shift, show ¬ v < 0 by omega]
      · cases hr
    · split at hr
      · rename_i h0; cases hr; simp [binOp, Op.shift, show ¬ v < 0 by omega]
      · cases hr
    · rename_i h1 h2
      split at hr
      · rename_i hk
        subst hk
        cases op <;> simp only [Option.some.injEq] at hr
        case quo =>
          split at hr
          · cases hr
          · rename_i h0; cases hr; simp [binOp, Op.intDiv, h0]
        case rem =>
          split at hr
          · cases hr
          · rename_i h0; cases hr; simp [binOp, Op.intDiv, h0]
        all_goals first
          | (subst hr; simp [binOp, Op.intArith, Op.intBits, Op.intCmp]; done)
          | (subst hr; simp [binOp, Op.intArith, Op.intBits, Op.intCmp]; rfl)
          | exact absurd rfl h1
          | exact absurd rfl h2
          | cases hr
      · cases hr
  · rename_i p q
    refine ⟨?_, fun x y => run_eqGuard_string op t x y p q⟩
    cases op <;> simp only [Option.some.injEq] at hr
    case add =>
      split at hr
      · rename_i hb
        cases hr
        have : ¬ (IntKind.i64.max : Int) < ((p.size + q.size : Nat) : Int) := by
          have : (IntKind.i64.max : Int) = 9223372036854775807 := by decide
          rw [this]
          omega
        simp only [binOp, Op.stringOp]
        rw [if_neg (by simpa using this)]
        rfl
      · cases hr
    all_goals first
      | (subst hr; simp [binOp, Op.stringOp]; done)
      | cases hr
  · cases hr

theorem binT_run {op : BinOp} {t : TypeId} {p q r : Value} (hr : binT P op t p q = some r) : (binOp op t p q).run P w = .ok r w ∧ (∀ x y, (eqGuard op t x y p q).run P w = .ok () w) := by
  unfold binT at hr
  split at hr
  · rename_i x y
    split at hr
    · rename_i hu
      refine ⟨?_, fun x y => by cases op <;> simp [eqGuard]⟩
      have hq : (Op.equal t (.bool x) (.bool y)).run P w = .ok (x == y) w := by
        have h1 : ∀ d, (Op.equalIn (d + 1) t (.bool x) (.bool y)).run P w = .ok (x == y) w := by
          intro d
          unfold Op.equalIn
          simp [run_underlying hu]
        exact h1 9999
      split at hr
      · cases hr
        show (do pure (.bool (← Op.equal t (.bool x) (.bool y)))  : Sem Value).run P w = _
        simp only [Sem.run_bind, hq, Result.andThen_ok]
        rfl
      · cases hr
        show (do pure (.bool (!(← Op.equal t (.bool x) (.bool y))))  : Sem Value).run P w = _
        simp only [Sem.run_bind, hq, Result.andThen_ok]
        rfl
      · cases hr
    · cases hr
  · exact binS_run hr

/-- the same of the machine's cells -/
def eqL : List Nat → List Value → List Value → Option Bool
  | [], [], [] => some true
  | k :: ks, x :: l, y :: m =>
    match eqS k x y, eqL ks l m with
    | some a, some b => some (a && b)
    | _, _ => none
  | _, _, _ => none

theorem eqCells_eqL : ∀ {ks : List Nat} {cs ds : List V} {xs ys : List Value} {r : Bool}, R2 (VR1 m c w) cs xs → R2 (VR1 m c w) ds ys → eqCells ks cs ds = some r → eqL ks xs ys = some r := by
  intro ks
  induction ks with
  | nil =>
    intro cs ds xs ys r h1 h2 he
    unfold eqCells at he
    split at he
    · have hx : xs = [] := List.eq_nil_of_length_eq_zero h1.1.symm
      have hy : ys = [] := List.eq_nil_of_length_eq_zero h2.1.symm
      subst hx; subst hy
      exact he
    · rename_i h0; cases h0
    · cases he
  | cons k ks ih =>
    intro cs ds xs ys r h1 h2 he
    unfold eqCells at he
    split at he
    · rename_i h0; cases h0
    · rename_i k' ks' x l y q h0
      cases h0
      match xs, ys, h1, h2 with
      | [], _, h1, _ => simp [R2] at h1
      | _ :: _, [], _, h2 => simp [R2] at h2
      | x' :: xs, y' :: ys, h1, h2 =>
        have e1 : x' = x := h1.head
        have e2 : y' = y := h2.head
        subst e1; subst e2
        split at he
        · rename_i b b' hb hb'
          have := ih h1.tail h2.tail hb'
          simp only [eqL, hb, this]
          exact he
        · cases he
    · cases he

theorem eqL_len : ∀ {ks : List Nat} {xs ys : List Value} {r : Bool}, eqL ks xs ys = some r → xs.length = ks.length ∧ ys.length = ks.length := by
  intro ks
  induction ks with
  | nil =>
    intro xs ys r he
    unfold eqL at he
    split at he
    · exact ⟨rfl, rfl⟩
    · rename_i h0; cases h0
    · cases he
  | cons k ks ih =>
    intro xs ys r he
    unfold eqL at he
    split at he
    · rename_i h0; cases h0
    · rename_i h0
      cases h0
      split at he
      · rename_i hb'
        have := ih hb'
        exact ⟨by simp [this.1], by simp [this.2]⟩
      · cases he
    · cases he

theorem eqL_append : ∀ {k1 k2 : List Nat} {xs ys : List Value} {r : Bool}, eqL (k1 ++ k2) xs ys = some r →
    ∃ a b, eqL k1 (xs.take k1.length) (ys.take k1.length) = some a ∧ eqL k2 (xs.drop k1.length) (ys.drop k1.length) = some b ∧ r = (a && b) := by
  intro k1
  induction k1 with
  | nil => intro k2 xs ys r he; exact ⟨true, r, by simp [eqL], by simpa using he, by simp⟩
  | cons k ks ih =>
    intro k2 xs ys r he
    rw [List.cons_append] at he
    unfold eqL at he
    split at he
    · rename_i h0; cases h0
    · rename_i k' ks' x l y q h0
      cases h0
      split at he
      · rename_i p p' hp hp'
        obtain ⟨u, v, hu, hv, rfl⟩ := ih hp'
        cases he
        refine ⟨p && u, v, ?_, by simpa using hv, by simp [Bool.and_assoc]⟩
        simp [eqL, hp, hu]
      · cases he
    · cases he

def valOf (P : Program) (t : TypeId) (xs : List Value) : Value := if ttag P t = some true then .agg xs.toArray else xs.headD undef

theorem run_part_val {t : TypeId} {d : TypeDesc} (hd : P.underlying t = some d) {xs : List Value} {off : Nat} (h1 : ttag P t = some false → tsize P t = 1 ∧ off < xs.length) :
    (part t xs.toArray off).run P w = .ok (valOf P t ((xs.drop off).take (tsize P t))) w := by
  obtain ⟨i, hi⟩ := info_of_underlying hd
  unfold valOf
  cases hr : d.isRow
  · have ht : ttag P t = some false := by
      unfold ttag; rw [hd]; cases d <;> first | rfl | (simp [TypeDesc.isRow] at hr)
    obtain ⟨h0, hlt⟩ := h1 ht
    rw [ht]
    simp [part, run_isAgg_row hd, hr, List.head?_take, List.head?_drop, hlt, h0]
  · have ht : ttag P t = some true := by
      unfold ttag; rw [hd]; cases d <;> first | rfl | (simp [TypeDesc.isRow] at hr)
    rw [ht]
    simp [part, run_isAgg_row hd, hr, sizeOf, typeInfo, hi, size_of_info hi, List.extract]

theorem flatK_leaf {d : Nat} {t : TypeId} {l : List Nat} (hf : flatK P d t = some l) (ht : ttag P t = some false) : l.length = 1 := by
  cases d with
  | zero => cases hf
  | succ d =>
    unfold flatK at hf
    unfold ttag at ht
    split at hf
    · cases hf; rfl
    · cases hf; rfl
    · cases hf; rfl
    · rename_i hu; rw [hu] at ht; cases ht
    · rename_i hu; rw [hu] at ht; cases ht
    · cases hf
theorem flatK_under {d : Nat} {t : TypeId} {l : List Nat} (hf : flatK P d t = some l) : ∃ u, P.underlying t = some u := by
  cases d with
  | zero => cases hf
  | succ d =>
    unfold flatK at hf
    split at hf <;> first | exact ⟨_, by assumption⟩ | cases hf

theorem eqL_nil {xs ys : List Value} {r : Bool} (he : eqL [] xs ys = some r) : r = true := by
  cases xs <;> cases ys <;> simp [eqL] at he
  exact he

theorem eqL_one {k : Nat} {xs ys : List Value} {r : Bool} (he : eqL [k] xs ys = some r) : ∃ x y, xs = [x] ∧ ys = [y] ∧ eqS k x y = some r := by
  unfold eqL at he
  split at he
  · rename_i h0; cases h0
  · rename_i k' ks' x l y q h0
    cases h0
    split at he
    · rename_i u v hu hv
      have := eqL_len hv
      have hl : l = [] := List.eq_nil_of_length_eq_zero this.1
      have hq : q = [] := List.eq_nil_of_length_eq_zero this.2
      subst hl; subst hq
      cases hv; cases he
      exact ⟨x, y, rfl, rfl, by simpa using hu⟩
    · cases he
  · cases he

theorem run_all_list (f : Nat → Sem Bool) (b : Nat → Bool) : ∀ (l : List Nat), (∀ i ∈ l, (f i).run P w = .ok (b i) w) →
    (do
      for i in l do
        if !(← f i) then return false
      pure true : Sem Bool).run P w = .ok (l.all b) w := by
  intro l
  induction l with
  | nil => intro _; rfl
  | cons i l ih =>
    intro hf
    have h1 := hf i (by simp)
    have h2 := ih (fun j hj => hf j (by simp [hj]))
    simp only [List.forIn_cons, Sem.run_bind, h1, Result.andThen_ok, Sem.run_ite, Sem.run_pure] at h2 ⊢
    cases hb : b i
    · simp [hb]
    · simp only [hb, Bool.not_true, Bool.false_eq_true, if_false, Result.andThen_ok, List.all_cons, Bool.true_and]
      exact h2

theorem run_forIn_all {n : Nat} (f : Nat → Sem Bool) (b : Nat → Bool) (hf : ∀ i, i < n → (f i).run P w = .ok (b i) w) :
    (do
      for i in [0:n] do
        if !(← f i) then return false
      pure true : Sem Bool).run P w = .ok ((List.range n).all b) w := by
  have := run_all_list (P := P) (w := w) f b (List.range n) (fun i hi => hf i (List.mem_range.1 hi))
  simp only [Std.Legacy.Range.forIn_eq_forIn_range', Std.Legacy.Range.size, Nat.sub_zero, Nat.add_sub_cancel, Nat.div_one] at this ⊢
  rw [← List.range_eq_range']
  exact this

/-- a part of two structs or arrays, compared -/
theorem part_run {d n o : Nat} {t : TypeId} {l : List Nat} (hf : flatK P d t = some l) (hs : tsize P t = l.length) {xs ys : List Value} {r : Bool}
    (he : eqL l ((xs.drop o).take l.length) ((ys.drop o).take l.length) = some r)
    (ih : ∀ {xs ys : List Value} {r : Bool}, eqL l xs ys = some r → (Op.equalIn n t (valOf P t xs) (valOf P t ys)).run P w = .ok r w) :
    ∃ x y, (part t xs.toArray o).run P w = .ok x w ∧ (part t ys.toArray o).run P w = .ok y w ∧ (Op.equalIn n t x y).run P w = .ok r w := by
  obtain ⟨u, hu⟩ := flatK_under hf
  have hl := eqL_len he
  have hb : ∀ zs : List Value, ((zs.drop o).take l.length).length = l.length → ttag P t = some false → tsize P t = 1 ∧ o < zs.length := fun zs hz ht => by
    have h1 := flatK_leaf hf ht
    rw [h1] at hz
    simp only [List.length_take, List.length_drop] at hz
    exact ⟨by omega, by omega⟩
  have hx := run_part_val (P := P) (w := w) hu (hb xs hl.1)
  have hy := run_part_val (P := P) (w := w) hu (hb ys hl.2)
  rw [hs] at hx hy
  exact ⟨_, _, hx, hy, ih he⟩

theorem fields_run {d n : Nat} (ih : ∀ {t : TypeId} {l : List Nat}, flatK P d t = some l → ∀ {xs ys : List Value} {r : Bool}, eqL l xs ys = some r → (Op.equalIn n t (valOf P t xs) (valOf P t ys)).run P w = .ok r w) (xs ys : List Value) :
    ∀ (fs : List Field) (o : Nat) (ks : List Nat) (r : Bool), flatFs (flatK P d) fs o = some ks → (∀ f ∈ fs, ∀ l, flatK P d f.type = some l → tsize P f.type = l.length) → eqL ks (xs.drop o) (ys.drop o) = some r →
    (Op.eqFields n xs.toArray ys.toArray fs).run P w = .ok r w := by
  intro fs
  induction fs with
  | nil => intro o ks r hf _ he; cases hf; rw [eqL_nil he]; rfl
  | cons f fs ihf =>
    intro o ks r hf hs he
    unfold flatFs at hf
    split at hf
    · rename_i hb
      split at hf
      · rename_i l hl
        split at hf
        · rename_i l' hl'
          cases hf
          obtain ⟨p, q, hp, hq, rfl⟩ := eqL_append he
          obtain ⟨x, y, hx, hy, hxy⟩ := part_run hl (hs f (by simp) l hl) hp (fun h => ih hl h)
          have := ihf (o + l.length) l' q hl' (fun f hf => hs f (by simp [hf])) (by simpa [List.drop_drop] using hq)
          unfold Op.eqFields
          rw [if_pos hb.2, hb.1]
          simp only [Sem.run_bind, hx, hy, hxy, Result.andThen_ok, Sem.run_ite, this]
          cases p <;> simp
        · cases hf
      · cases hf
    · cases hf

theorem flat_run : ∀ (d : Nat) {t : TypeId} {l : List Nat}, flatK P d t = some l → ∀ n, d ≤ n → ∀ {xs ys : List Value} {r : Bool}, eqL l xs ys = some r →
    (Op.equalIn n t (valOf P t xs) (valOf P t ys)).run P w = .ok r w := by
  intro d
  induction d with
  | zero => intro t l hf; cases hf
  | succ d ih =>
    intro t l hf n hn xs ys r he
    obtain ⟨n, rfl⟩ : ∃ k, n = k + 1 := ⟨n - 1, by omega⟩
    unfold flatK at hf
    split at hf
    · rename_i hu
      cases hf
      obtain ⟨x, y, rfl, rfl, hs⟩ := eqL_one he
      have ht : ttag P t = some false := by unfold ttag; rw [hu]
      simp only [valOf, ht]
      unfold eqS at hs
      split at hs
      · cases hs; simp [Op.equalIn, run_underlying hu]
      · rename_i h0; cases h0
      · rename_i h0; cases h0
      · cases hs
    · rename_i k hu
      cases hf
      obtain ⟨x, y, rfl, rfl, hs⟩ := eqL_one he
      have ht : ttag P t = some false := by unfold ttag; rw [hu]
      simp only [valOf, ht]
      unfold eqS at hs
      split at hs
      · rename_i h0; cases h0
      · split at hs
        · rename_i hk; cases hs; subst hk; simp [Op.equalIn, run_underlying hu]
        · cases hs
      · rename_i h0; cases h0
      · cases hs
    · rename_i hu
      cases hf
      obtain ⟨x, y, rfl, rfl, hs⟩ := eqL_one he
      have ht : ttag P t = some false := by unfold ttag; rw [hu]
      simp only [valOf, ht]
      unfold eqS at hs
      split at hs
      · rename_i h0; cases h0
      · rename_i h0; cases h0
      · cases hs; simp [Op.equalIn, run_underlying hu, beq_toListBytes]
      · cases hs
    · rename_i k e hu
      split at hf
      · rename_i l0 hl0
        split at hf
        · rename_i hsz
          cases hf
          have ht : ttag P t = some true := by unfold ttag; rw [hu]
          obtain ⟨ue, hue⟩ := flatK_under hl0
          obtain ⟨ie, hie⟩ := info_of_underlying hue
          simp only [valOf, ht, if_true]
          have hall : ∃ b : Nat → Bool, (∀ i, i < k → eqL l0 ((xs.drop (i * l0.length)).take l0.length) ((ys.drop (i * l0.length)).take l0.length) = some (b i)) ∧ r = (List.range k).all b := by
            clear hu
            induction k generalizing xs ys r with
            | zero =>
              refine ⟨fun _ => true, fun i hi => by omega, ?_⟩
              simp only [List.replicate_zero, List.flatten_nil] at he
              rw [eqL_nil he]
              rfl
            | succ k ihk =>
              rw [List.replicate_succ, List.flatten_cons] at he
              obtain ⟨p, q, hp, hq, rfl⟩ := eqL_append he
              obtain ⟨b, hb, rfl⟩ := ihk hq
              refine ⟨fun i => if i = 0 then p else b (i - 1), fun i hi => ?_, ?_⟩
              · cases i with
                | zero => simpa using hp
                | succ i =>
                  have := hb i (by omega)
                  simp only [List.drop_drop] at this
                  simp only [Nat.add_one_ne_zero, if_false, Nat.add_sub_cancel]
                  rw [show (i + 1) * l0.length = l0.length + i * l0.length by rw [Nat.add_mul]; omega]
                  exact this
              · rw [List.range_succ_eq_map, List.all_cons, List.all_map]
                simp
                rfl
          obtain ⟨b, hb, rfl⟩ := hall
          have hrun := run_forIn_all (P := P) (w := w) (n := k) (fun i => do Op.equalIn n e (← part e xs.toArray (i * l0.length)) (← part e ys.toArray (i * l0.length))) b (fun i hi => by
            obtain ⟨x, y, hx, hy, hxy⟩ := part_run (n := n) (w := w) hl0 hsz (hb i hi) (fun h => ih hl0 n (by omega) h)
            simp [hx, hy, hxy])
          unfold Op.equalIn
          simp only [Sem.run_bind, run_underlying hu, Result.andThen_ok, run_sizeOf hie, ← size_of_info hie, hsz]
          simpa using hrun
        · cases hf
      · cases hf
    · rename_i fs hu
      split at hf
      · rename_i hb
        have ht : ttag P t = some true := by unfold ttag; rw [hu]
        simp only [valOf, ht, if_true]
        have hfo : P.fieldsOf t = fs := by unfold Program.fieldsOf; rw [hu]
        rw [run_equalIn_struct w n t xs.toArray ys.toArray (by rw [hfo]; exact hu) hb.1, hfo]
        refine fields_run (fun {_ _} h {_ _ _} he => ih h n (by omega) he) xs ys fs.toList 0 l r hf (fun f hm l hl => ?_) (by simpa using he)
        have := List.all_eq_true.1 hb.2 f hm
        rw [hl] at this
        simpa using this
      · cases hf
    · cases hf

theorem flatK_noGuard : ∀ (d : Nat) {t : TypeId} {l : List Nat}, flatK P d t = some l → ∀ n, d ≤ n → P.eqGuardType n t = false := by
  intro d
  induction d with
  | zero => intro t l hf; cases hf
  | succ d ih =>
    intro t l hf n hn
    obtain ⟨n, rfl⟩ : ∃ k, n = k + 1 := ⟨n - 1, by omega⟩
    unfold flatK at hf
    unfold Program.eqGuardType
    split at hf
    · rename_i hu; rw [hu]
    · rename_i hu; rw [hu]
    · rename_i hu; rw [hu]
    · rename_i hu
      rw [hu]
      split at hf
      · rename_i l0 hl0
        exact ih hl0 n (by omega)
      · cases hf
    · rename_i fs hu
      rw [hu]
      split at hf
      · rename_i hb
        simp only [Array.any_eq_false']
        intro f hm
        have := List.all_eq_true.1 hb.2 f (by simpa using hm)
        split at this
        · rename_i l hl
          rw [ih hl n (by omega)]
          simp
        · cases this
      · cases hf
    · cases hf

theorem pure_binOp (hC : Core vars m c w g h a) {o : Oper} {op : BinOp} {t u : TypeId} {x y : Operand} (ho : o.op = .binOp op t x y u) {v : V} (hv : evPure P vars (g, h) (.binOp op t x y u) = some v) :
    Fine P vars m c w g h a o v := by
  have hx := hC.opd x
  have hy := hC.opd y
  simp only [evPure] at hv
  split at hv
  · rename_i p q hp hq
    rw [hp] at hx
    rw [hq] at hy
    have hx' : a.eval x = p := hx
    have hy' : a.eval y = q := hy
    simp only [Option.map_eq_some_iff] at hv
    obtain ⟨r, hr, rfl⟩ := hv
    obtain ⟨h1, h2⟩ := binT_run (P := P) (w := w) (t := t) hr
    exact ⟨r, yields_of (s := do eqGuard op t x y (a.eval x) (a.eval y); binOp op t (a.eval x) (a.eval y)) (by simp [execOp, ho]) (by simp [hx', hy', h1, h2]), rfl, TagOK.bare rfl⟩
  · rename_i cs ds hp hq
    rw [hp] at hx
    rw [hq] at hy
    obtain ⟨xs, hx', hrx⟩ := hx
    obtain ⟨ys, hy', hry⟩ := hy
    split at hv
    · rename_i ks hks
      unfold flatOf at hks
      split at hks
      · rename_i hd
        have hg := flatK_noGuard 20 hks P.depth hd.1
        have key : ∀ r, eqCells ks cs ds = some r → (Op.equalIn 10000 t (.agg xs) (.agg ys)).run P w = .ok r w := fun r hr => by
          have := flat_run (w := w) 20 hks 10000 (by omega) (eqCells_eqL hrx hry hr)
          simpa [valOf, hd.2] using this
        split at hv
        · simp only [Option.map_eq_some_iff] at hv
          obtain ⟨r, hr, rfl⟩ := hv
          refine ⟨.bool r, yields_of (s := do eqGuard .eql t x y (a.eval x) (a.eval y); binOp .eql t (a.eval x) (a.eval y)) (by simp [execOp, ho]) ?_, rfl, TagOK.bare rfl⟩
          simp only [hx', hy', Sem.run_bind, run_eqGuard_agg w .eql t x y xs ys hg, Result.andThen_ok, run_eql_struct, key r hr]
        · simp only [Option.map_eq_some_iff] at hv
          obtain ⟨r, hr, rfl⟩ := hv
          refine ⟨.bool !r, yields_of (s := do eqGuard .neq t x y (a.eval x) (a.eval y); binOp .neq t (a.eval x) (a.eval y)) (by simp [execOp, ho]) ?_, rfl, TagOK.bare rfl⟩
          simp only [hx', hy', Sem.run_bind, run_eqGuard_agg w .neq t x y xs ys hg, Result.andThen_ok, run_neq_struct, key r hr]
        · cases hv
      · cases hks
    · cases hv
  · cases hv

/-- all of them -/
theorem pure_ok (hC : Core vars m c w g h a) {o : Oper} {v : V} (hv : evPure P vars (g, h) o.op = some v) : Fine P vars m c w g h a o v := by
  generalize hop : o.op = op at hv
  cases op with
  | move x => exact pure_move hC hop hv
  | pick k x y => exact pure_pick hC hop hv
  | build t parts => exact pure_build hC hop hv
  | load t x => exact pure_load hC hop hv
  | nilCheck x => exact pure_nilCheck hC hop hv
  | binOp op t x y u => exact pure_binOp hC hop hv
  | unOp op t x => exact pure_unOp hC hop hv
  | convert s d x => exact pure_convert hC hop hv
  | fieldAddr t x f => exact pure_fieldAddr hC hop hv
  | field t x f => exact pure_field hC hop hv
  | indexAddr t x i => exact pure_indexAddr hC hop hv
  | index t x i => exact pure_index hC hop hv
  | slice t x lo hi mx => exact pure_slice hC hop hv
  | extract x i => exact pure_extract hC hop hv
  | makeFunc fn first caps => exact pure_makeFunc hC hop hv
  | call k => exact pure_len hC hop hv
  | _ => cases hv

end
end Go.Lift
end

section
/- The lifting, seventh part: temporaries are filled, marks go, memory is made. -/
namespace Go.Lift
set_option linter.unusedVariables false
set_option linter.unusedSimpArgs false
set_option linter.unusedSectionVars false
variable [GTab] [BTy]

theorem look_ins (t : Nat) (x : V) : ∀ (g : Env) (u : Nat), look (ins t x g) u = if u = t then x else look g u
  | [], u => by
    simp only [ins, look]
    by_cases h : u = t
    · simp [h]
    · simp [h, Ne.symm h]
  | (k, y) :: l, u => by
    unfold ins
    split
    · simp only [look]
      by_cases h : u = t
      · simp [h]
      · simp [h, Ne.symm h]
    · split
      · rename_i h1 h2
        subst h2
        simp only [look]
        by_cases h : u = t
        · simp [h]
        · simp [h, Ne.symm h]
      · rename_i h1 h2
        simp only [look, look_ins t x l u]
        by_cases hk : k = u
        · subst hk
          simp [Ne.symm h2]
        · simp [hk]

theorem look_untag : ∀ (g : Env) (u : Nat), look (untag g) u = untag1 (look g u)
  | [], u => rfl
  | (k, y) :: l, u => by
    simp only [untag, List.map_cons, look]
    split
    · rfl
    · exact look_untag l u

theorem look_untagC : ∀ (g : Env) (u : Nat), look (untagC g) u = untagC1 (look g u)
  | [], u => rfl
  | (k, y) :: l, u => by
    simp only [untagC, List.map_cons, look]
    split
    · rfl
    · exact look_untagC l u
theorem untag1_C1 (v : V) : untag1 (untagC1 v) = untag1 v := by
  cases v with
  | list k r => cases k <;> rfl
  | _ => rfl
theorem untag_untagC (g : Env) : untag (untagC g) = untag g := by
  simp only [untag, untagC, List.map_map]
  exact List.map_congr_left fun p _ => by simp only [Function.comp, untag1_C1]
theorem untagC1_slot {v : V} {u : Nat} {r : List (List V)} (hv : untagC1 v = .list (.slot u) r) : v = .list (.slot u) r := by
  cases v with
  | list k q => cases k <;> simp [untagC1] at hv ⊢; exact hv
  | _ => simp [untagC1] at hv
theorem untagC1_cell {v : V} {i j : Nat} {r : List (List V)} : untagC1 v ≠ .list (.cell i j) r := by
  cases v with
  | list k q => cases k <;> simp [untagC1]
  | _ => simp [untagC1]

section
variable {P : Program} {vars : List Nat} {m : List Nat} {c : Cl} {w : World} {g : Env} {h : Heap} {a : Act}

theorem VRr.untagC {v : V} {x : Value} (hv : VRr m c w v x) : VRr m c w (untagC1 v) x := by
  cases v with
  | list k r => cases k <;> exact VP.flag hv _
  | _ => exact hv
theorem VRr.untag {v : V} {x : Value} (hv : VRr m c w v x) : VRr m c w (untag1 v) x := by
  cases v with
  | list k r => cases k <;> exact VP.flag hv _
  | _ => exact hv

theorem untag1_yes {v : V} {r : List (List V)} : untag1 v = .list .yes r ↔ v = .list .yes r := by
  cases v with
  | list k q => cases k <;> simp [untag1]
  | _ => simp [untag1]
theorem untag1_tag {v : V} {k : Own} {r : List (List V)} (hv : untag1 v = .list k r) : k = .yes ∨ k = .no := by
  cases v with
  | list k q => cases k <;> simp [untag1] at hv <;> simp [hv.1.symm]
  | _ => simp [untag1] at hv

/-- all marks go -/
theorem Core.untag (hC : Core vars m c w g h a) : Core vars m c w (untag g) h a := by
  have hAt : ∀ {l r x}, At m w (Lift.untag g) h a l r x → At m w g h a l r x := fun {l r x} hl => by
    cases l with
    | slot t => exact ⟨untag1_yes.1 (by rw [← look_untag]; exact hl.1), hl.2⟩
    | cell i j => exact hl
  refine ⟨hC.wf1, hC.wf2, hC.nd, hC.len, fun t => ?_, hC.ob, fun l r x hl => hC.own l r x (hAt hl), fun l l' r r' x x' b h1 h2 => hC.uniq l l' r r' x x' b (hAt h1) (hAt h2), fun t u r ht => ?_, fun t i j r ht => ?_, hC.gt⟩
  · rw [look_untag]; exact (hC.env t).untag
  · rw [look_untag] at ht; have := untag1_tag ht; simp at this
  · rw [look_untag] at ht; have := untag1_tag ht; simp at this

theorem noTags (t u : Nat) (r : List (List V)) : look (untag g) t ≠ .list (.slot u) r := fun ht => by
  rw [look_untag] at ht; have := untag1_tag ht; simp at this

theorem getD_set (tm : Array Value) (t u : Nat) (x : Value) (ht : t < tm.size) : (tm.setIfInBounds t x).getD u undef = if u = t then x else tm.getD u undef := by
  by_cases h : u = t
  · subst h; simp [Array.getD, ht]
  · simp only [if_neg h]
    simp only [Array.getD_eq_getD_getElem?, Array.getElem?_setIfInBounds_ne (Ne.symm h)]

/-- a slot is filled -/
theorem Core.ins (hC : Core vars m c w g h a) {t : Nat} {v : V} {x : Value} (ht : t < a.tmps.size) (hv : VRr m c w v x)
    (hown : ∀ r, v = .list .yes r → OwnB m c w r x ∧ ∀ l r' x' b, l ≠ .slot t → At m w g h a l r' x' → ownBlk x = some b → ownBlk x' ≠ some b)
    (htS : ∀ u r, v = .list (.slot u) r → u ∈ vars ∧ u ≠ t ∧ look g u = .list .yes r ∧ x = a.tmps.getD u undef)
    (htC : ∀ i j r, v = .list (.cell i j) r → At m w g h a (.cell i j) r x)
    (hno : t ∉ vars ∨ ∀ t' u r, look g t' ≠ .list (.slot u) r) :
    Core vars m c w (ins t v g) h { a with tmps := a.tmps.setIfInBounds t x } := by
  have hget := fun u => getD_set a.tmps t u x ht
  have hAt : ∀ {l r y}, At m w (Lift.ins t v g) h { a with tmps := a.tmps.setIfInBounds t x } l r y →
      (l = .slot t ∧ v = .list .yes r ∧ y = x) ∨ (l ≠ .slot t ∧ At m w g h a l r y) := fun {l r y} hl => by
    cases l with
    | slot u =>
      obtain ⟨h1, h2⟩ := hl
      rw [look_ins] at h1
      simp only [hget] at h2
      by_cases hu : u = t
      · subst hu
        simp only [if_true] at h1 h2
        exact .inl ⟨rfl, h1, h2⟩
      · simp only [if_neg hu] at h1 h2
        exact .inr ⟨fun e => hu (by cases e; rfl), h1, h2⟩
    | cell i j => exact .inr ⟨fun e => (by cases e), hl⟩
  refine ⟨hC.wf1, hC.wf2, hC.nd, hC.len, fun u => ?_, hC.ob, fun l r y hl => ?_, fun l l' r r' y y' b h1 h2 hb hb' => ?_, fun u s r hu => ?_, fun u i j r hu => ?_, hC.gt⟩
  · rw [look_ins]
    simp only [hget]
    split
    · exact hv
    · exact hC.env u
  · rcases hAt hl with ⟨_, he, rfl⟩ | ⟨_, hl⟩
    · exact (hown r he).1
    · exact hC.own l r y hl
  · rcases hAt h1 with ⟨e1, he, hy⟩ | ⟨n1, g1⟩
    · rcases hAt h2 with ⟨e2, _, _⟩ | ⟨n2, g2⟩
      · rw [e1, e2]
      · exact absurd hb' ((hown r he).2 l' r' y' b n2 g2 (hy ▸ hb))
    · rcases hAt h2 with ⟨e2, he, hy⟩ | ⟨n2, g2⟩
      · exact absurd hb ((hown r' he).2 l r y b n1 g1 (hy ▸ hb'))
      · exact hC.uniq l l' r r' y y' b g1 g2 hb hb'
  · rw [look_ins] at hu
    simp only [look_ins, hget]
    by_cases hut : u = t
    · simp only [hut, if_true] at hu ⊢
      obtain ⟨h1, h2, h3, h4⟩ := htS s r hu
      simp only [if_neg h2]
      exact ⟨h1, h3, h4⟩
    · simp only [if_neg hut] at hu ⊢
      obtain ⟨h1, h2, h3⟩ := hC.tagS u s r hu
      have hst : s ≠ t := by
        rcases hno with hno | hno
        · intro e; rw [e] at h1; exact hno h1
        · exact absurd hu (hno u s r)
      simp only [if_neg hst]
      exact ⟨h1, h2, h3⟩
  · rw [look_ins] at hu
    simp only [hget]
    by_cases hut : u = t
    · simp only [hut, if_true] at hu ⊢
      exact htC i j r hu
    · simp only [if_neg hut] at hu ⊢
      exact hC.tagC u i j r hu

/-- an owner's slot is left -/
theorem Core.release (hC : Core vars m c w g h a) {u : Nat} {r q : List (List V)} (hu : look g u = .list .yes r) (hq : q = r) : Core vars m c w (Lift.untag (Lift.ins u (.list .no q) g)) h a := by
  subst hq
  have hAt : ∀ {l r x}, At m w (Lift.untag (Lift.ins u (.list .no q) g)) h a l r x → l ≠ .slot u ∧ At m w g h a l r x := fun {l r x} hl => by
    cases l with
    | slot t =>
      obtain ⟨h1, h2⟩ := hl
      rw [look_untag, untag1_yes, look_ins] at h1
      split at h1
      · cases h1
      · rename_i ht
        exact ⟨fun e => ht (by cases e; rfl), h1, h2⟩
    | cell i j => exact ⟨fun e => (by cases e), hl⟩
  refine ⟨hC.wf1, hC.wf2, hC.nd, hC.len, fun t => ?_, hC.ob, fun l r x hl => hC.own l r x (hAt hl).2, fun l l' r r' x x' b h1 h2 => hC.uniq l l' r r' x x' b (hAt h1).2 (hAt h2).2, fun t s r ht => ?_, fun t i j r ht => ?_, hC.gt⟩
  · rw [look_untag, look_ins]
    apply VRr.untag
    split
    · rename_i ht
      subst ht
      have := hC.env t
      rw [hu] at this
      exact VP.flag this _
    · exact hC.env t
  · exact absurd ht (noTags t s r)
  · rw [look_untag] at ht; have := untag1_tag ht; simp at this

end
end Go.Lift
end

section
/- The lifting, eighth part: the memory grows, objects are written, owners go from place to place. -/
namespace Go.Lift
set_option linter.unusedVariables false
set_option linter.unusedSimpArgs false
set_option linter.unusedSectionVars false
variable [GTab] [BTy]

section
variable {P : Program} {vars : List Nat} {m : List Nat} {c : Cl} {w : World} {g : Env} {h : Heap} {a : Act}

theorem Core.c_zero (hC : Core vars m c w g h a) {b : Nat} (hb : w.heap.size ≤ b) : c b = 0 := by
  rcases Nat.eq_zero_or_pos (c b) with h0 | h0
  · exact h0
  · obtain ⟨arr, e, f, he, _⟩ := hC.wf1 b h0
    have := (Array.getElem?_eq_some_iff.1 he).1
    omega

theorem ObR.lt {o : Ob} {b : Nat} (ho : ObR m c w o b) : b < w.heap.size := by
  cases o with
  | cells cs => obtain ⟨arr, e, f, he, _⟩ := ho; exact (Array.getElem?_eq_some_iff.1 he).1
  | iter s p => exact (Array.getElem?_eq_some_iff.1 ho).1

theorem Core.m_lt (hC : Core vars m c w g h a) {i b : Nat} (hi : m[i]? = some b) : b < w.heap.size := by
  have hl : i < h.length := by rw [← hC.len]; exact (List.getElem?_eq_some_iff.1 hi).1
  exact (hC.ob i h[i] b (List.getElem?_eq_getElem hl) hi).lt

theorem cell_of_heap {w w' : World} {b : Nat} (hb : w'.heap[b]? = w.heap[b]?) (o : Nat) : w'.cell? ⟨b, o, none⟩ = w.cell? ⟨b, o, none⟩ := by
  simp [World.cell?, hb]
theorem frozen_of_heap {w w' : World} {b : Nat} (hb : w'.heap[b]? = w.heap[b]?) (o : Nat) : w'.frozen? ⟨b, o, none⟩ = w.frozen? ⟨b, o, none⟩ := by
  simp [World.frozen?, hb]

theorem ObR.keep {w' : World} {m' : List Nat} {c' : Cl} {o : Ob} {b : Nat} (ho : ObR m c w o b) (hb : w'.heap[b]? = w.heap[b]?) (hm : Pre m m') (e : Ext c w c' w') : ObR m' c' w' o b := by
  cases o with
  | cells cs =>
    obtain ⟨arr, el, f, he, hle, hfr, hall, hbld⟩ := ho
    exact ⟨arr, el, f, by rw [hb]; exact he, hle, fun j hj => by rw [frozen_of_heap hb]; exact hfr j hj, fun j v x hv hx => ⟨(hall j v x hv hx).1.mono hm e, (hall j v x hv hx).2⟩, hbld⟩
  | iter s p => show w'.heap[b]? = _; rw [hb]; exact ho

theorem OwnB.keep {w' : World} {m' : List Nat} {c' : Cl} {r : List (List V)} {x : Value} (ho : OwnB m c w r x) (hb : ∀ b, ownBlk x = some b → w'.heap[b]? = w.heap[b]? ∧ c' b = c b ∧ (b ∉ m → b ∉ m')) : OwnB m' c' w' r x := by
  rcases ho with h0 | ⟨b, cap, cur, e, sz, rfl, h1, h2, h3, h4, h5, h6, h7, h8, h9, h10⟩
  · exact .inl h0
  · obtain ⟨k1, k2, k3⟩ := hb b rfl
    exact .inr ⟨b, cap, cur, e, sz, rfl, by rw [k1]; exact h1, h2, h3, h4, h5, h6, by rw [k2]; exact h7, k3 h8, h9, h10⟩

theorem OwnB.lt {r : List (List V)} {x : Value} (ho : OwnB m c w r x) {b : Nat} (hb : ownBlk x = some b) : b < w.heap.size ∧ b ∉ m := by
  rcases ho with ⟨rfl, _⟩ | ⟨b', cap, cur, e, sz, rfl, h1, h2, h3, h4, h5, h6, h7, h8, h9, h10⟩
  · cases hb
  · cases hb; exact ⟨(Array.getElem?_eq_some_iff.1 h1).1, h8⟩

theorem okc_mono {n k : Nat} (hn : n ≤ k) {v : V} (hv : okc n v = true) : okc k v = true := by
  cases v <;> first | exact hv | (simp [okc] at hv ⊢; omega)
theorem okv_mono {n k : Nat} {v : V} (hv : okv n v = true) (hn : n ≤ k) : okv k v = true := by
  cases v with
  | agg cs => simp only [okv, List.all_eq_true] at hv ⊢; exact fun x hx => okc_mono hn (hv x hx)
  | fn f cs => simp only [okv, List.all_eq_true] at hv ⊢; exact fun x hx => okc_mono hn (hv x hx)
  | undef => rfl
  | v y => rfl
  | nil => rfl
  | list k r => rfl
  | rp cs => rfl
  | tup vs => cases hv
  | ptr b o => exact okc_mono (v := .ptr b o) hn hv
  | buf b o k => exact okc_mono (v := .buf b o k) hn hv
theorem VR0.okc {v : V} {x : Value} (hv : VR0 m c w v x) : okc m.length v = true := by
  cases v with
  | ptr b o => obtain ⟨g, hg, _⟩ := hv; simp [Lift.okc]; exact (List.getElem?_eq_some_iff.1 hg).1
  | buf b o n => obtain ⟨g, cap, hg, _⟩ := hv; simp [Lift.okc]; exact (List.getElem?_eq_some_iff.1 hg).1
  | agg cs => exact hv.elim
  | tup cs => exact hv.elim
  | fn f cs => exact hv.elim
  | _ => rfl
theorem VR1.okv {v : V} {x : Value} (hv : VR1 m c w v x) : okv m.length v = true := by
  cases v with
  | fn f cs =>
    obtain ⟨xs, rfl, hr⟩ := hv
    simp only [Lift.okv, List.all_eq_true]
    intro y hy
    obtain ⟨i, hi, rfl⟩ := List.getElem_of_mem hy
    obtain ⟨z, hz, hv⟩ := hr.get (List.getElem?_eq_getElem hi)
    exact hv.okc
  | agg cs => exact hv.elim
  | tup cs => exact hv.elim
  | undef => rfl
  | v y => rfl
  | nil => rfl
  | list k r => rfl
  | ptr b o => exact VR0.okc (c := c) (w := w) (v := .ptr b o) (x := x) hv
  | rp cs => rfl
  | buf b o n => exact VR0.okc (c := c) (w := w) (v := .buf b o n) (x := x) hv

/-- what is new when the memory grows -/
structure Grow (m : List Nat) (c : Cl) (w : World) (h : Heap) (nm : List Nat) (c' : Cl) (w' : World) (nh : Heap) : Prop where
  size : w.heap.size ≤ w'.heap.size
  old : ∀ b, b < w.heap.size → w'.heap[b]? = w.heap[b]?
  oldc : ∀ b, b < w.heap.size → c' b = c b
  newc : ∀ b, w.heap.size ≤ b → 0 < c' b → ∃ arr e f, w'.heap[b]? = some (.cells arr e f) ∧ c' b ≤ arr.size
  nm1 : ∀ b ∈ nm, w.heap.size ≤ b ∧ c' b = 0
  nd : nm.Nodup
  len : nm.length = nh.length
  ob : ∀ (i : Nat) o b, nh[i]? = some o → nm[i]? = some b → ObR (m ++ nm) c' w' o b
  one : nm.length ≤ 1
  noOwn : ∀ (i : Nat) (cs : List V) (j : Nat) (r : List (List V)) (b : Nat), nh[i]? = some (.cells cs) → cs[j]? = some (.list .yes r) → nm[i]? = some b → r = [] ∧ w'.cell? ⟨b, j, none⟩ = some (.slice none 0 0)
  os : w'.os = w.os
  tape : w'.tape = w.tape
  output : w'.output = w.output

theorem Grow.ext {nm : List Nat} {c' : Cl} {w' : World} {nh : Heap} (hG : Grow m c w h nm c' w' nh) (hC : Core vars m c w g h a) : Ext c w c' w' := by
  refine ⟨fun b => ?_, fun b o ho => ?_⟩
  · rcases Nat.lt_or_ge b w.heap.size with hb | hb
    · rw [hG.oldc b hb]; exact Nat.le_refl _
    · rw [hC.c_zero hb]; exact Nat.zero_le _
  · rcases Nat.lt_or_ge b w.heap.size with hb | hb
    · exact cell_of_heap (hG.old b hb) o
    · rw [hC.c_zero hb] at ho; omega

theorem cellsOfOb_append {h nh : Heap} {i : Nat} {cs : List V} (hi : cellsOfOb (h ++ nh) i = some cs) : (i < h.length ∧ cellsOfOb h i = some cs) ∨ (h.length ≤ i ∧ nh[i - h.length]? = some (.cells cs)) := by
  unfold cellsOfOb at *
  rw [List.getElem?_append] at hi
  split at hi
  · rename_i cs' hcs
    cases hi
    split at hcs
    · rename_i hl; rw [hcs]; exact .inl ⟨hl, rfl⟩
    · rename_i hl; exact .inr ⟨by omega, hcs⟩
  · cases hi

theorem Core.grow {nm : List Nat} {c' : Cl} {w' : World} {nh : Heap} (hC : Core vars m c w g h a) (hG : Grow m c w h nm c' w' nh) :
    Core vars (m ++ nm) c' w' g (h ++ nh) a := by
  have he := hG.ext hC
  have hmm : ∀ {i b}, m[i]? = some b → b ∉ nm := fun hi hb => by have := hC.m_lt hi; have := (hG.nm1 _ hb).1; omega
  have hAt : ∀ {l r x}, At (m ++ nm) w' g (h ++ nh) a l r x → At m w g h a l r x ∨ (r = [] ∧ x = .slice none 0 0) := fun {l r x} hl => by
    cases l with
    | slot t => exact .inl hl
    | cell i j =>
      obtain ⟨cs, b, h1, h2, h3, h4⟩ := hl
      rcases cellsOfOb_append h1 with ⟨hi, hcs⟩ | ⟨hi, hcs⟩
      · rw [List.getElem?_append_left (by rw [hC.len]; exact hi)] at h3
        exact .inl ⟨cs, b, hcs, h2, h3, by rw [← cell_of_heap (hG.old b (hC.m_lt h3))]; exact h4⟩
      · rw [List.getElem?_append_right (by rw [hC.len]; exact hi), hC.len] at h3
        obtain ⟨k1, k2⟩ := hG.noOwn _ cs j r b hcs h2 h3
        rw [h4] at k2
        exact .inr ⟨k1, Option.some.inj k2⟩
  have hAt' : ∀ {l r x}, At m w g h a l r x → At (m ++ nm) w' g (h ++ nh) a l r x := fun {l r x} hl => by
    cases l with
    | slot t => exact hl
    | cell i j =>
      obtain ⟨cs, b, h1, h2, h3, h4⟩ := hl
      refine ⟨cs, b, ?_, h2, Pre.append m nm i b h3, by rw [cell_of_heap (hG.old b (hC.m_lt h3))]; exact h4⟩
      unfold cellsOfOb at *
      split at h1
      · rename_i cs' hcs
        cases h1
        rw [List.getElem?_append_left (List.getElem?_eq_some_iff.1 hcs).1, hcs]
      · cases h1
  refine ⟨fun b hb => ?_, fun b hb => ?_, ?_, by simp [hC.len, hG.len], fun t => (hC.env t).mono (Pre.append m nm) he, fun i o b ho hb => ?_, fun l r x hl => ?_, fun l l' r r' x x' b h1 h2 hb hb' => ?_, hC.tagS, fun t i j r ht => hAt' (hC.tagC t i j r ht), fun n cs hg => (hC.gt n cs hg).mono he⟩
  · rcases Nat.lt_or_ge b w.heap.size with hl | hl
    · rw [hG.oldc b hl] at hb
      rw [hG.oldc b hl, hG.old b hl]
      exact hC.wf1 b hb
    · exact hG.newc b hl hb
  · rcases List.mem_append.1 hb with hb | hb
    · obtain ⟨i, hi, rfl⟩ := List.getElem_of_mem hb
      rw [hG.oldc _ (hC.m_lt (List.getElem?_eq_getElem hi))]
      exact hC.wf2 _ hb
    · exact (hG.nm1 b hb).2
  · rw [List.nodup_append]
    refine ⟨hC.nd, hG.nd, fun x hx y hy e => ?_⟩
    obtain ⟨i, hi, rfl⟩ := List.getElem_of_mem hx
    subst e
    exact hmm (List.getElem?_eq_getElem hi) hy
  · rw [List.getElem?_append] at ho hb
    rw [hC.len] at hb
    split at ho
    · rename_i hl
      rw [if_pos hl] at hb
      exact (hC.ob i o b ho hb).keep (hG.old b (hC.m_lt hb)) (Pre.append m nm) he
    · rename_i hl
      rw [if_neg hl] at hb
      exact hG.ob _ o b ho hb
  · rcases hAt hl with hl | ⟨rfl, rfl⟩
    · refine (hC.own l r x hl).keep fun b hb => ?_
      have := (hC.own l r x hl).lt hb
      exact ⟨hG.old b this.1, hG.oldc b this.1, fun hn hb' => by
        rcases List.mem_append.1 hb' with h' | h'
        · exact hn h'
        · have := (hG.nm1 b h').1; omega⟩
    · exact .inl ⟨rfl, rfl⟩
  · rcases hAt h1 with h1 | ⟨rfl, rfl⟩
    · rcases hAt h2 with h2 | ⟨rfl, rfl⟩
      · exact hC.uniq l l' r r' x x' b h1 h2 hb hb'
      · cases hb'
    · cases hb

/-- all that is asked of a state on its way from a call's begin -/
structure Entry where
  lo : Nat
  base : Nat
  w : World
  m : List Nat
  c : Cl
  ho : Nat → Prop
  h : Heap
  nt : Nat

structure InvP (vars : List Nat) (E : Entry) (m : List Nat) (c : Cl) (w : World) (g : Env) (h : Heap) (a : Act) : Prop where
  core : Core vars m c w g h a
  fr : Fr E.lo E.ho E.w E.m E.c w m c
  owned : Owned E.lo E.ho E.w m w g h a
  hlo : h.take E.lo = E.h.take E.lo
  hlen : E.base ≤ h.length
  ml : E.m.length = E.base
  lole : E.lo ≤ E.base
  nt : a.tmps.size = E.nt
  df : a.defers = []
  old : ∀ (i : Nat) cs, cellsOfOb h i = some cs → ∀ v ∈ cs, okv (i + 1) v = true

theorem InvP.grow {E : Entry} {nm : List Nat} {c' : Cl} {w' : World} {nh : Heap} (hI : InvP vars E m c w g h a) (hG : Grow m c w h nm c' w' nh) :
    InvP vars E (m ++ nm) c' w' g (h ++ nh) a := by
  have hC := hI.core
  refine ⟨hC.grow hG, ?_, ?_, ?_, by simp; have := hI.hlen; omega, hI.ml, hI.lole, hI.nt, hI.df, fun i cs hcs v hv => ?_⟩
  · refine ⟨hG.os.trans hI.fr.os, hG.tape.trans hI.fr.tape, hG.output.trans hI.fr.output, Nat.le_trans hI.fr.size hG.size, hI.fr.pre.trans (Pre.append m nm), fun i b hi hb => ?_, hI.fr.ext.trans (hG.ext hC), fun b hb h1 h2 => ?_⟩
    · rw [List.getElem?_append] at hb
      split at hb
      · exact hI.fr.new i b hi hb
      · exact Nat.le_trans hI.fr.size (hG.nm1 b (List.mem_of_getElem? hb)).1
    · have hl := Nat.lt_of_lt_of_le hb hI.fr.size
      rw [hG.old b hl, hG.oldc b hl]
      exact hI.fr.fix b hb h1 h2
  · intro l r x b hl hu hb
    cases l with
    | slot t => exact hI.owned (.slot t) r x b hl hu hb
    | cell i j =>
      obtain ⟨cs, bb, h1, h2, h3, h4⟩ := hl
      rcases cellsOfOb_append h1 with ⟨hi, hcs⟩ | ⟨hi, hcs⟩
      · rw [List.getElem?_append_left (by rw [hC.len]; exact hi)] at h3
        exact hI.owned (.cell i j) r x b ⟨cs, bb, hcs, h2, h3, by rw [← cell_of_heap (hG.old bb (hC.m_lt h3))]; exact h4⟩ hu hb
      · rw [List.getElem?_append_right (by rw [hC.len]; exact hi), hC.len] at h3
        obtain ⟨k1, k2⟩ := hG.noOwn _ cs j r bb hcs h2 h3
        rw [h4] at k2
        cases k2
        cases hb
  · rw [List.take_append_of_le_length (by have := hI.hlen; have := hI.lole; omega)]
    exact hI.hlo
  · rcases cellsOfOb_append hcs with ⟨_, hcs⟩ | ⟨hi', hcs⟩
    · exact hI.old i cs hcs v hv
    · have hl : i - h.length < nm.length := by rw [hG.len]; exact (List.getElem?_eq_some_iff.1 hcs).1
      obtain ⟨arr, e, f, k1, k2, k3, k4, _⟩ := hG.ob _ _ _ hcs (List.getElem?_eq_getElem hl)
      obtain ⟨j, hj, rfl⟩ := List.getElem_of_mem hv
      have hok := (k4 j _ _ (List.getElem?_eq_getElem hj) (Array.getElem?_eq_getElem (by omega))).1.okv
      refine okv_mono hok ?_
      have := hC.len
      simp
      have := hG.one
      omega

/-- a slot is filled: what else is asked -/
theorem InvP.ins {E : Entry} (hI : InvP vars E m c w g h a) {t : Nat} {v : V} {x : Value} (ht : t < E.nt) (hv : VRr m c w v x)
    (hown : ∀ r, v = .list .yes r → (OwnB m c w r x ∧ ∀ l r' x' b, l ≠ .slot t → At m w g h a l r' x' → ownBlk x = some b → ownBlk x' ≠ some b) ∧ ∀ b, ownBlk x = some b → E.w.heap.size ≤ b ∨ E.ho b)
    (htS : ∀ u r, v = .list (.slot u) r → u ∈ vars ∧ u ≠ t ∧ look g u = .list .yes r ∧ x = a.tmps.getD u undef)
    (htC : ∀ i j r, v = .list (.cell i j) r → At m w g h a (.cell i j) r x)
    (hno : t ∉ vars ∨ ∀ t' u r, look g t' ≠ .list (.slot u) r) :
    InvP vars E m c w (Lift.ins t v g) h (a.put (some t) x) := by
  have ht' : t < a.tmps.size := by rw [hI.nt]; exact ht
  refine ⟨hI.core.ins ht' hv (fun r hr => (hown r hr).1) htS htC hno, hI.fr, ?_, hI.hlo, hI.hlen, hI.ml, hI.lole, by simp [Act.put, hI.nt], hI.df, hI.old⟩
  intro l r y b hl hu hb
  cases l with
  | slot u =>
    obtain ⟨h1, h2⟩ := hl
    rw [look_ins] at h1
    simp only [Act.put, getD_set a.tmps t u x ht'] at h2
    by_cases hut : u = t
    · simp only [hut, if_true] at h1 h2
      subst h2
      exact (hown r h1).2 b hb
    · simp only [if_neg hut] at h1 h2
      exact hI.owned (.slot u) r y b ⟨h1, h2⟩ trivial hb
  | cell i j => exact hI.owned (.cell i j) r y b hl hu hb

/-- a temporary that owns nothing -/
theorem InvP.put {E : Entry} (hI : InvP vars E m c w g h a) {d : Option Nat} {v : V} {x : Value} (hd : ∀ t, d = some t → t < E.nt) (hv : VRr m c w v x) (ht : TagOK vars m w g h a v x)
    (hno : (∀ t, d = some t → t ∉ vars) ∨ ((∀ t' u r, look g t' ≠ .list (.slot u) r) ∧ bare v = true)) : InvP vars E m c w (Lift.put d v g) h (a.put d x) := by
  cases d with
  | none => exact hI
  | some t =>
    refine hI.ins (hd t rfl) hv (fun r e => absurd e (ht.1 r)) (fun u r e => ?_) (fun i j r e => ht.2.2 i j r e) (hno.imp (fun h1 => h1 t rfl) (fun h1 => h1.1))
    obtain ⟨h1, h2, h3⟩ := ht.2.1 u r e
    refine ⟨h1, ?_, h2, h3⟩
    rcases hno with hno | hno
    · intro e'; exact hno t rfl (e' ▸ h1)
    · rw [e] at hno; simp [Lift.bare] at hno

theorem InvP.untag {E : Entry} (hI : InvP vars E m c w g h a) : InvP vars E m c w (Lift.untag g) h a :=
  ⟨hI.core.untag, hI.fr, fun l r x b hl hu hb => by
    cases l with
    | slot t => exact hI.owned (.slot t) r x b ⟨untag1_yes.1 (by rw [← look_untag]; exact hl.1), hl.2⟩ trivial hb
    | cell i j => exact hI.owned (.cell i j) r x b hl hu hb, hI.hlo, hI.hlen, hI.ml, hI.lole, hI.nt, hI.df, hI.old⟩

theorem InvP.release {E : Entry} (hI : InvP vars E m c w g h a) {u : Nat} {r : List (List V)} (hu : look g u = .list .yes r) : InvP vars E m c w (Lift.untag (Lift.ins u (.list .no r) g)) h a :=
  ⟨hI.core.release hu rfl, hI.fr, fun l q x b hl hup hb => by
    cases l with
    | slot t =>
      obtain ⟨h1, h2⟩ := hl
      rw [look_untag, untag1_yes, look_ins] at h1
      split at h1
      · cases h1
      · exact hI.owned (.slot t) q x b ⟨h1, h2⟩ trivial hb
    | cell i j => exact hI.owned (.cell i j) q x b hl hup hb, hI.hlo, hI.hlen, hI.ml, hI.lole, hI.nt, hI.df, hI.old⟩

end
end Go.Lift
end

section
/- The lifting, ninth part: an object is written; a row that nobody owns grows. -/
namespace Go.Lift
set_option linter.unusedVariables false
set_option linter.unusedSimpArgs false
set_option linter.unusedSectionVars false
variable [GTab] [BTy]

section
variable {P : Program} {vars : List Nat} {m : List Nat} {c : Cl} {w : World} {g : Env} {h : Heap} {a : Act}

theorem cellsOfOb_set {h : Heap} {i k : Nat} {o : Ob} {cs : List V} (hk : cellsOfOb (h.set i o) k = some cs) : (k = i ∧ o = .cells cs) ∨ (k ≠ i ∧ cellsOfOb h k = some cs) := by
  unfold cellsOfOb at *
  rw [List.getElem?_set] at hk
  by_cases hki : i = k
  · subst hki
    simp only [if_true] at hk
    by_cases hl : i < h.length
    · simp only [hl, if_true] at hk
      split at hk
      · rename_i cs' hcs
        cases hk; cases hcs
        exact .inl ⟨rfl, rfl⟩
      · cases hk
    · simp [hl] at hk
  · simp only [if_neg hki] at hk
    exact .inr ⟨Ne.symm hki, hk⟩

theorem InvP.setOb {E : Entry} (hI : InvP vars E m c w g h a) {i gb : Nat} {o' : Ob} {w' : World} (jf : Nat)
    (hlo : E.lo ≤ i) (hi : m[i]? = some gb)
    (hsz : w'.heap.size = w.heap.size) (hother : ∀ b, b ≠ gb → w'.heap[b]? = w.heap[b]?) (hos : w'.os = w.os) (htape : w'.tape = w.tape) (hout : w'.output = w.output)
    (hob : ObR m c w' o' gb)
    (hown : ∀ cs' (j : Nat) r x, o' = .cells cs' → cs'[j]? = some (.list .yes r) → w'.cell? ⟨gb, j, none⟩ = some x → (r = [] ∧ x = .slice none 0 0) ∨
      (j ≠ jf → At m w g h a (.cell i j) r x) ∧
      (j = jf → OwnB m c w r x ∧ (∀ l r' x' b, At m w g h a l r' x' → l ≠ .cell i j → ownBlk x = some b → ownBlk x' ≠ some b) ∧ ∀ b, ownBlk x = some b → E.w.heap.size ≤ b ∨ E.ho b))
    (hnt : ∀ t i j r, look g t ≠ .list (.cell i j) r)
    (hold : ∀ cs', o' = .cells cs' → ∀ v ∈ cs', okv (i + 1) v = true) :
    InvP vars E m c w' g (h.set i o') a := by
  have hC := hI.core
  have hc0 : c gb = 0 := hC.wf2 gb (List.mem_of_getElem? hi)
  have he : Ext c w c w' := ⟨fun _ => Nat.le_refl _, fun b o ho => by
    by_cases hb : b = gb
    · rw [hb, hc0] at ho; omega
    · exact cell_of_heap (hother b hb) o⟩
  have hmne : ∀ {k b}, m[k]? = some b → k ≠ i → b ≠ gb := fun {k b} hk hki e => by
    subst e
    have h1 := (List.getElem?_eq_some_iff.1 hk)
    have h2 := (List.getElem?_eq_some_iff.1 hi)
    obtain ⟨l1, e1⟩ := h1
    obtain ⟨l2, e2⟩ := h2
    exact hki ((List.getElem_inj hC.nd).1 (e1.trans e2.symm))
  have hAt : ∀ {l r x}, At m w' g (h.set i o') a l r x → (At m w g h a l r x ∧ l ≠ .cell i jf) ∨
      (l = .cell i jf ∧ OwnB m c w r x ∧ (∀ l r' x' b, At m w g h a l r' x' → l ≠ .cell i jf → ownBlk x = some b → ownBlk x' ≠ some b) ∧ ∀ b, ownBlk x = some b → E.w.heap.size ≤ b ∨ E.ho b) ∨ (r = [] ∧ x = .slice none 0 0) := fun {l r x} hl => by
    cases l with
    | slot t => exact .inl ⟨hl, fun e => by cases e⟩
    | cell k j =>
      obtain ⟨cs, b, h1, h2, h3, h4⟩ := hl
      rcases cellsOfOb_set h1 with ⟨rfl, ho⟩ | ⟨hki, hcs⟩
      · rw [hi] at h3
        cases h3
        rcases hown cs j r x ho h2 h4 with h0 | this
        · exact .inr (.inr h0)
        · by_cases hj : j = jf
          · subst hj
            exact .inr (.inl ⟨rfl, this.2 rfl⟩)
          · exact .inl ⟨this.1 hj, fun e => hj (by cases e; rfl)⟩
      · exact .inl ⟨⟨cs, b, hcs, h2, h3, by rw [← cell_of_heap (hother b (hmne h3 hki))]; exact h4⟩, fun e => hki (by cases e; rfl)⟩
  have hkeep : ∀ {r x}, OwnB m c w r x → OwnB m c w' r x := fun {r x} ho => ho.keep fun b hb => by
    have := ho.lt hb
    exact ⟨hother b (fun e => this.2 (e ▸ List.mem_of_getElem? hi)), rfl, id⟩
  refine ⟨⟨fun b hb => ?_, hC.wf2, hC.nd, by simp [hC.len], fun t => (hC.env t).mono (Pre.refl m) he, fun k o b ho hb => ?_, fun l r x hl => ?_, fun l l' r r' x x' b h1 h2 hb hb' => ?_, hC.tagS, fun t i j r ht => absurd ht (hnt t i j r), fun n cs hg => (hC.gt n cs hg).mono he⟩,
    ⟨hos.trans hI.fr.os, htape.trans hI.fr.tape, hout.trans hI.fr.output, by rw [hsz]; exact hI.fr.size, hI.fr.pre, hI.fr.new, hI.fr.ext.trans he, fun b hb h1 h2 => ?_⟩, fun l r x b hl hu hb => ?_, ?_, by simpa using hI.hlen, hI.ml, hI.lole, hI.nt, hI.df, fun k cs hcs v hv => ?_⟩
  · rw [hother b (fun e => by rw [e, hc0] at hb; omega)]
    exact hC.wf1 b hb
  · rw [List.getElem?_set] at ho
    by_cases hik : i = k
    · subst hik
      rw [hi] at hb
      cases hb
      by_cases hl : i < h.length
      · simp only [hl, if_true, Option.some.injEq] at ho
        subst ho
        exact hob
      · simp [hl] at ho
    · simp only [if_neg hik] at ho
      exact (hC.ob k o b ho hb).keep (hother b (hmne hb (Ne.symm hik))) (Pre.refl m) he
  · rcases hAt hl with ⟨hl, _⟩ | ⟨_, ho, _⟩ | h0
    · exact hkeep (hC.own l r x hl)
    · exact hkeep ho
    · exact .inl ⟨h0.2, h0.1⟩
  · rcases hAt h1 with ⟨g1, n1⟩ | ⟨e1, _, d1, _⟩ | ⟨_, rfl⟩
    · rcases hAt h2 with ⟨g2, n2⟩ | ⟨e2, _, d2, _⟩ | ⟨_, rfl⟩
      · exact hC.uniq l l' r r' x x' b g1 g2 hb hb'
      · exact absurd hb (d2 l r x b g1 n1 hb')
      · cases hb'
    · rcases hAt h2 with ⟨g2, n2⟩ | ⟨e2, _, d2, _⟩ | ⟨_, rfl⟩
      · exact absurd hb' (d1 l' r' x' b g2 n2 hb)
      · rw [e1, e2]
      · cases hb'
    · cases hb
  · by_cases hbg : b = gb
    · subst hbg
      by_cases hil : i < E.m.length
      · have := hI.fr.pre i _ (List.getElem?_eq_getElem hil)
        rw [hi] at this
        cases this
        exact absurd (List.getElem?_eq_getElem hil) (h1 i hlo)
      · have := hI.fr.new i b (by omega) hi
        omega
    · rw [hother b hbg]
      exact hI.fr.fix b hb h1 h2
  · rcases hAt hl with ⟨hl, _⟩ | ⟨_, _, _, ho⟩ | ⟨_, rfl⟩
    · exact hI.owned l r x b hl hu hb
    · exact ho b hb
    · cases hb
  · rw [List.take_set_of_le (by omega)]
    exact hI.hlo
  · rcases cellsOfOb_set hcs with ⟨rfl, ho⟩ | ⟨_, hcs⟩
    · exact hold cs ho v hv
    · exact hI.old k cs hcs v hv

/-- a row that nobody owns grows in place, or anew -/
theorem InvP.grown {E : Entry} (hI : InvP vars E m c w g h a) {c' : Cl} {w' : World} (fb : Option Nat)
    (hsz : w.heap.size ≤ w'.heap.size) (hold : ∀ b, b < w.heap.size → fb ≠ some b → w'.heap[b]? = w.heap[b]? ∧ c' b = c b)
    (hfb : ∀ b, fb = some b → b ∉ m ∧ (∀ l r x, At m w g h a l r x → ownBlk x ≠ some b) ∧ (E.w.heap.size ≤ b ∨ E.ho b) ∧ c b ≤ c' b ∧
      (∀ o, o < c b → w'.cell? ⟨b, o, none⟩ = w.cell? ⟨b, o, none⟩) ∧ ∃ arr e f, w'.heap[b]? = some (.cells arr e f) ∧ c' b ≤ arr.size)
    (hnew : ∀ b, w.heap.size ≤ b → fb ≠ some b → 0 < c' b → ∃ arr e f, w'.heap[b]? = some (.cells arr e f) ∧ c' b ≤ arr.size)
    (hos : w'.os = w.os) (htape : w'.tape = w.tape) (hout : w'.output = w.output) : InvP vars E m c' w' g h a := by
  have hC := hI.core
  have he : Ext c w c' w' := by
    refine ⟨fun b => ?_, fun b o ho => ?_⟩
    · by_cases hb : fb = some b
      · exact (hfb b hb).2.2.2.1
      · rcases Nat.lt_or_ge b w.heap.size with hl | hl
        · rw [(hold b hl hb).2]; exact Nat.le_refl _
        · rw [hC.c_zero hl]; exact Nat.zero_le _
    · by_cases hb : fb = some b
      · exact (hfb b hb).2.2.2.2.1 o ho
      · rcases Nat.lt_or_ge b w.heap.size with hl | hl
        · exact cell_of_heap (hold b hl hb).1 o
        · rw [hC.c_zero hl] at ho; omega
  have hm : ∀ {i b}, m[i]? = some b → w'.heap[b]? = w.heap[b]? ∧ c' b = c b := fun {i b} hi =>
    hold b (hC.m_lt hi) (fun e => (hfb b e).1 (List.mem_of_getElem? hi))
  have hAt : ∀ {l r x}, At m w' g h a l r x → At m w g h a l r x := fun {l r x} hl => by
    cases l with
    | slot t => exact hl
    | cell i j =>
      obtain ⟨cs, b, h1, h2, h3, h4⟩ := hl
      exact ⟨cs, b, h1, h2, h3, by rw [← cell_of_heap (hm h3).1]; exact h4⟩
  have hAt' : ∀ {l r x}, At m w g h a l r x → At m w' g h a l r x := fun {l r x} hl => by
    cases l with
    | slot t => exact hl
    | cell i j =>
      obtain ⟨cs, b, h1, h2, h3, h4⟩ := hl
      exact ⟨cs, b, h1, h2, h3, by rw [cell_of_heap (hm h3).1]; exact h4⟩
  refine ⟨⟨fun b hb => ?_, fun b hb => ?_, hC.nd, hC.len, fun t => (hC.env t).mono (Pre.refl m) he, fun i o b ho hb => (hC.ob i o b ho hb).keep (hm hb).1 (Pre.refl m) he, fun l r x hl => ?_, fun l l' r r' x x' b h1 h2 => hC.uniq l l' r r' x x' b (hAt h1) (hAt h2), hC.tagS, fun t i j r ht => hAt' (hC.tagC t i j r ht), fun n cs hg => (hC.gt n cs hg).mono he⟩,
    ⟨hos.trans hI.fr.os, htape.trans hI.fr.tape, hout.trans hI.fr.output, Nat.le_trans hI.fr.size hsz, hI.fr.pre, hI.fr.new, hI.fr.ext.trans he, fun b hb h1 h2 => ?_⟩, fun l r x b hl hu hb => hI.owned l r x b (hAt hl) hu hb, hI.hlo, hI.hlen, hI.ml, hI.lole, hI.nt, hI.df, hI.old⟩
  · by_cases hf : fb = some b
    · exact (hfb b hf).2.2.2.2.2
    · rcases Nat.lt_or_ge b w.heap.size with hl | hl
      · rw [(hold b hl hf).1, (hold b hl hf).2]
        exact hC.wf1 b (by rw [← (hold b hl hf).2]; exact hb)
      · exact hnew b hl hf hb
  · obtain ⟨i, hi, rfl⟩ := List.getElem_of_mem hb
    rw [(hm (List.getElem?_eq_getElem hi)).2]
    exact hC.wf2 _ hb
  · refine (hC.own l r x (hAt hl)).keep fun b hb => ?_
    have hb1 := (hC.own l r x (hAt hl)).lt hb
    have := hold b hb1.1 (fun e => (hfb b e).2.1 l r x (hAt hl) hb)
    exact ⟨this.1, this.2, id⟩
  · have hne : fb ≠ some b := fun e => by
      rcases (hfb b e).2.2.1 with h' | h'
      · omega
      · exact h2 h'
    have := hold b (Nat.lt_of_lt_of_le hb hI.fr.size) hne
    rw [this.1, this.2]
    exact hI.fr.fix b hb h1 h2

/-- fewer objects -/
theorem InvP.less {E : Entry} (hI : InvP vars E m c w g h a) {n : Nat} (hn : E.base ≤ n) (hg : ∀ p ∈ g, okv n p.2 = true ∧ untag1 p.2 = p.2 ∧ (∀ vs, p.2 ≠ .tup vs)) :
    InvP vars E (m.take n) c w g (h.take n) a := by
  have hC := hI.core
  have hget : ∀ {i b}, (m.take n)[i]? = some b → m[i]? = some b ∧ i < n := fun {i b} hi => by
    rw [List.getElem?_take] at hi
    split at hi
    · rename_i hl; exact ⟨hi, hl⟩
    · cases hi
  have hgeth : ∀ {i cs}, cellsOfOb (h.take n) i = some cs → cellsOfOb h i = some cs ∧ i < n := fun {i cs} hi => by
    unfold cellsOfOb at *
    rw [List.getElem?_take] at hi
    split at hi
    · rename_i cs' hcs
      split at hcs
      · rename_i hl; cases hi; rw [hcs]; exact ⟨rfl, hl⟩
      · cases hcs
    · cases hi
  have hlook : ∀ t, (look g t = .undef) ∨ ∃ p ∈ g, p.2 = look g t := by
    intro t
    clear hg hI hC
    induction g with
    | nil => exact .inl rfl
    | cons p g ih =>
      obtain ⟨k, y⟩ := p
      simp only [look]
      split
      · exact .inr ⟨_, List.mem_cons_self .., rfl⟩
      · rcases ih with h1 | ⟨p, hp, h1⟩
        · exact .inl h1
        · exact .inr ⟨p, List.mem_cons_of_mem _ hp, h1⟩
  have hAt : ∀ {l r x}, At (m.take n) w g (h.take n) a l r x → At m w g h a l r x := fun {l r x} hl => by
    cases l with
    | slot t => exact hl
    | cell i j =>
      obtain ⟨cs, b, h1, h2, h3, h4⟩ := hl
      exact ⟨cs, b, (hgeth h1).1, h2, (hget h3).1, h4⟩
  have hsub : ∀ {b}, b ∈ m.take n → b ∈ m := fun hb => List.mem_of_mem_take hb
  have hpl := hI.ml
  refine ⟨⟨hC.wf1, fun b hb => hC.wf2 b (hsub hb), hC.nd.sublist (List.take_sublist ..), by simp [hC.len], fun t => ?_, fun i o b ho hb => ?_, fun l r x hl => ?_, fun l l' r r' x x' b h1 h2 => hC.uniq l l' r r' x x' b (hAt h1) (hAt h2), hC.tagS, fun t i j r ht => ?_, hC.gt⟩,
    ⟨hI.fr.os, hI.fr.tape, hI.fr.output, hI.fr.size, fun i b hi => ?_, fun i b hi hb => hI.fr.new i b hi (hget hb).1, hI.fr.ext, hI.fr.fix⟩, fun l r x b hl hu hb => hI.owned l r x b (hAt hl) hu hb, ?_, ?_, hI.ml, hI.lole, hI.nt, hI.df, fun i cs hcs v hv => hI.old i cs (hgeth hcs).1 v hv⟩
  · rcases hlook t with h1 | ⟨p, hp, h1⟩
    · rw [h1]; trivial
    · have := hC.env t
      rw [← h1] at this ⊢
      refine VRr.less this ?_
      have h2 := (hg p hp)
      cases hq : p.2 <;> first | (rw [hq] at h2; exact h2.1) | (exact absurd hq (h2.2.2 _))
  · obtain ⟨h1, h2⟩ := hget hb
    rw [List.getElem?_take, if_pos h2] at ho
    have := hC.ob i o b ho h1
    cases o with
    | cells cs =>
      obtain ⟨arr, e, f, k1, k2, k3, k4, k5⟩ := this
      refine ⟨arr, e, f, k1, k2, k3, fun j v x hv hx => ⟨?_, (k4 j v x hv hx).2⟩, k5⟩
      have hok := okv_mono (hI.old i cs (by unfold cellsOfOb; rw [ho]) v (List.mem_of_getElem? hv)) (show i + 1 ≤ n from h2)
      have h5 := VR.less (k4 j v x hv hx).1.r hok
      have h6 := (k4 j v x hv hx).1
      cases v <;> first | exact h5 | exact h6.elim
    | iter s p => exact this
  · refine (hC.own l r x (hAt hl)).keep fun b hb => ⟨rfl, rfl, fun hn hb' => hn (hsub hb')⟩
  · rcases hlook t with h1 | ⟨p, hp, h1⟩
    · rw [h1] at ht; cases ht
    · have h2 := (hg p hp).2.1
      rw [h1, ht] at h2
      cases h2
  · rw [List.getElem?_take, if_pos]
    · exact hI.fr.pre i b hi
    · have := (List.getElem?_eq_some_iff.1 hi).1; omega
  · rw [List.take_take, Nat.min_eq_left (by have := hI.lole; omega)]
    exact hI.hlo
  · have := hI.hlen; simp; omega

end
end Go.Lift
end

section
/- The lifting, tenth part: the operations that turn the state, each for itself. -/
namespace Go.Lift
set_option linter.unusedVariables false
set_option linter.unusedSimpArgs false
set_option linter.unusedSectionVars false
variable [GTab] [BTy]

/-- the operation yields x, or nothing -/
def Does (P : Program) (w : World) (a : Act) (o : Oper) (x : Value) (w' : World) : Prop :=
  (execOp a.eval o).run P w = .ok (.value x) w' ∨ ((execOp a.eval o).run P w = .ok .skip w' ∧ x = undef)

theorem does_of {P : Program} {w w' : World} {a : Act} {o : Oper} {s : Sem Value} {x : Value} (he : execOp a.eval o = (do pure (Next.value (← s)))) (hs : s.run P w = .ok x w') : Does P w a o x w' := by
  refine .inl ?_
  rw [he, Sem.run_bind, hs]
  rfl

section
variable {P : Program} {vars : List Nat} {m : List Nat} {c : Cl} {w : World} {g : Env} {h : Heap} {a : Act} {E : Entry}

/-- what each lemma of this part says -/
def Done (P : Program) (vars : List Nat) (E : Entry) (w : World) (a : Act) (o : Oper) (v : V) (g' : Env) (h' : Heap) : Prop :=
  ∃ x w' m' c', Does P w a o x w' ∧ InvP vars E m' c' w' (put o.dst v g') h' (a.put o.dst x)

theorem At_release {u : Nat} {q r : List (List V)} {l : Loc} {x : Value} (hl : At m w (Lift.untag (Lift.ins u (.list .no q) g)) h a l r x) : l ≠ .slot u ∧ At m w g h a l r x := by
  cases l with
  | slot t =>
    obtain ⟨h1, h2⟩ := hl
    rw [look_untag, untag1_yes, look_ins] at h1
    split at h1
    · cases h1
    · rename_i ht
      exact ⟨fun e => ht (by cases e; rfl), h1, h2⟩
  | cell i j => exact ⟨fun e => (by cases e), hl⟩

theorem At_untag {r : List (List V)} {l : Loc} {x : Value} (hl : At m w (Lift.untag g) h a l r x) : At m w g h a l r x := by
  cases l with
  | slot t => exact ⟨untag1_yes.1 (by rw [← look_untag]; exact hl.1), hl.2⟩
  | cell i j => exact hl

theorem noTagC (t i j : Nat) (r : List (List V)) : look (untag g) t ≠ .list (.cell i j) r := fun ht => by
  rw [look_untag] at ht; have := untag1_tag ht; simp at this

theorem noYes_cps (v : V) (r : List (List V)) : V.list .yes r ∉ cellsV (cps v) := by
  cases v with
  | agg cs =>
    simp only [cps, cellsV, List.mem_map, not_exists, not_and]
    intro x _ hx
    cases x <;> simp [cp] at hx
  | _ => simp [cps, cp, cellsV]
theorem noYes_ofC (y : Value) (r : List (List V)) : V.list .yes r ∉ cellsV (ofC y) := by
  have h1 : ∀ z, ofC1 z ≠ .list .yes r := fun z hz => by
    unfold ofC1 at hz
    split at hz
    · cases hz
    · split at hz <;> cases hz
    · cases hz
  unfold ofC
  split
  · simp only [cellsV, List.mem_map, not_exists, not_and]
    intro z _
    exact h1 z
  · have : ∀ z, cellsV (ofC1 z) = [ofC1 z] := fun z => by
      unfold ofC1
      split
      · rfl
      · split <;> rfl
      · rfl
    rw [this]
    simp only [List.mem_singleton]
    exact fun e => h1 _ e.symm

/-- what is taken over: a value that is bare, the state without marks; or an owner, and the state without it -/
theorem takeO_spec (hI : InvP vars E m c w g h a) (x : Operand) :
    (bare (takeO g x).1 = true ∧ VRr m c w (takeO g x).1 (a.eval x) ∧ (takeO g x).2 = g ∧ ∀ r, V.list .yes r ∉ cellsV (takeO g x).1) ∨
    (∃ t r, x = .tmp t ∧ look g t = .list .yes r ∧ (takeO g x).1 = .list .yes r ∧ (takeO g x).2 = Lift.ins t (.list .no r) g ∧ VRr m c w (.list .yes r) (a.eval x) ∧ At m w g h a (.slot t) r (a.eval x)) := by
  cases x with
  | tmp t =>
    have he := hI.core.env t
    cases hl : look g t with
    | list k r =>
      cases k with
      | yes =>
        right
        rw [hl] at he
        exact ⟨t, r, rfl, hl, by simp [takeO, hl], by simp [takeO, hl], he, hl, rfl⟩
      | _ =>
        left
        rw [hl] at he
        simp only [takeO, hl]
        exact ⟨rfl, VRr.cps he, trivial, noYes_cps (.list _ r)⟩
    | _ =>
      left
      rw [hl] at he
      simp only [takeO, hl]
      exact ⟨bare_cps _, VRr.cps he, trivial, noYes_cps _⟩
  | const v => exact .inl ⟨bare_ofC v, hI.core.opd (.const v), rfl, noYes_ofC v⟩
  | global n =>
    refine .inl ⟨?_, hI.core.opd (.global n), rfl, fun r => ?_⟩
    · simp only [takeO, opd]
      split <;> rfl
    · simp only [takeO, opd]
      split <;> simp [cellsV]
  | func f => exact .inl ⟨rfl, hI.core.opd (.func f), rfl, fun r => by simp [takeO, opd, cellsV]⟩

theorem InvP.putBare {E : Entry} (hI : InvP vars E m c w g h a) {d : Option Nat} {v : V} {x : Value} (hd : ∀ t, d = some t → t < E.nt) (hv : VRr m c w v x) (hb : bare v = true)
    (hno : (∀ t, d = some t → t ∉ vars) ∨ (∀ t' u r, look g t' ≠ .list (.slot u) r)) : InvP vars E m c w (Lift.put d v g) h (a.put d x) :=
  hI.put hd hv (TagOK.bare hb) (hno.imp id fun h1 => ⟨h1, hb⟩)

theorem InvP.putOwn {E : Entry} (hI : InvP vars E m c w g h a) {d : Option Nat} {r : List (List V)} {x : Value} (hd : ∀ t, d = some t → t < E.nt) (hv : VRr m c w (.list .yes r) x)
    (ho : OwnB m c w r x) (hu : ∀ l r' x' b, At m w g h a l r' x' → ownBlk x = some b → ownBlk x' ≠ some b) (hE : ∀ b, ownBlk x = some b → E.w.heap.size ≤ b ∨ E.ho b)
    (hno : (∀ t, d = some t → t ∉ vars) ∨ (∀ t' u r, look g t' ≠ .list (.slot u) r)) : InvP vars E m c w (Lift.put d (.list .yes r) g) h (a.put d x) := by
  cases d with
  | none => exact hI
  | some t =>
    refine hI.ins (hd t rfl) hv (fun q e => ?_) (fun u q e => (by cases e)) (fun i j q e => (by cases e)) (hno.imp (fun h1 => h1 t rfl) id)
    cases e
    exact ⟨⟨ho, fun l r' x' b _ hl hb => hu l r' x' b hl hb⟩, hE⟩

theorem eff_assign (hI : InvP vars E m c w g h a) {o : Oper} {x : Operand} (ho : o.op = .assign x) (hd : ∀ t, o.dst = some t → t < E.nt) :
    Done P vars E w a o (own1 (takeO g x).1) (Lift.untag (takeO g x).2) h := by
  have hr : Does P w a o (a.eval x) w := .inl (by simp [execOp, ho])
  rcases takeO_spec hI x with ⟨hb, hv, hg, hny⟩ | ⟨t, r, rfl, hl, h1, h2, hv, hat⟩
  · rw [hg]
    by_cases hn : (takeO g x).1 = .nil
    · rw [hn] at hv ⊢
      have hv' : a.eval x = .slice none 0 0 := hv
      rw [hv'] at hr
      exact ⟨_, _, m, c, hr, hI.untag.putOwn hd (.empty _ _ _) (.inl ⟨rfl, rfl⟩) (fun _ _ _ _ _ hb => by cases hb) (fun _ hb => by cases hb) (.inr fun t u r => noTags t u r)⟩
    · have : own1 (takeO g x).1 = (takeO g x).1 := by cases hq : (takeO g x).1 <;> first | rfl | exact absurd hq hn
      rw [this]
      exact ⟨_, _, m, c, hr, hI.untag.putBare hd hv hb (.inr fun t u r => noTags t u r)⟩
  · rw [h1, h2]
    refine ⟨_, _, m, c, hr, (hI.release hl).putOwn hd hv (hI.core.own _ _ _ hat) (fun l r' x' b hl' hb hb' => ?_) (fun b hb => hI.owned _ _ _ b hat trivial hb) (.inr fun t u r => noTags t u r)⟩
    obtain ⟨n1, hl''⟩ := At_release hl'
    exact n1 (hI.core.uniq l (.slot t) r' r x' _ b hl'' hat hb' hb)

/-- a new object: its cells, its block -/
theorem isBld_iff {cs : List V} : isBld cs = true ↔ cs.length = 2 ∧ ∃ x, cs[0]? = some x ∧ isNilP x = true := by
  match cs with
  | [] => simp [isBld]
  | [x] => simp [isBld]
  | [x, y] => simp [isBld]
  | x :: y :: z :: l => simp [isBld]
theorem isNilP_own1 (v : V) : isNilP (Lift.own1 v) = isNilP v := by
  cases v <;> rfl
theorem isBld_own1 (cs : List V) : isBld (cs.map Lift.own1) = isBld cs := by
  match cs with
  | [] => rfl
  | [x] => rfl
  | [x, y] => exact isNilP_own1 x
  | x :: y :: z :: l => rfl
theorem bldT_of {t : TypeId} {cs : List V} (hb : bldT t cs = true) : ∀ T, BTy.bt = some T → isBld cs = true → t = T ∧ cs.length = 2 := fun T hT hc => by
  unfold bldT at hb
  rw [hT] at hb
  simp only [Bool.or_eq_true, beq_iff_eq, Bool.not_eq_true'] at hb
  rcases hb with hb | hb
  · rw [hb] at hc; cases hc
  · exact ⟨hb, (isBld_iff.1 hc).1⟩
theorem grow_cells (hI : InvP vars E m c w g h a) {cs : List V} {arr : Array Value} {e : TypeId} {f : Nat × Nat} {w' : World} (hw : w'.heap = w.heap.push (.cells arr e f)) (hos : w'.os = w.os) (htape : w'.tape = w.tape) (hout : w'.output = w.output)
    (hf : ∀ j, j < cs.length → ¬ (f.1 ≤ j ∧ j < f.2)) (hle : cs.length ≤ arr.size) (hrel : ∀ (j : Nat) v x, cs[j]? = some v → arr[j]? = some x → VR1 m c w v x ∧ x.oneCell' = true)
    (hno : ∀ (j : Nat) (r : List (List V)), cs[j]? = some (.list .yes r) → r = [] ∧ arr[j]? = some (.slice none 0 0)) (hbt : ∀ T, BTy.bt = some T → isBld cs = true → e = T ∧ arr.size = 2) : InvP vars E (m ++ [w.heap.size]) c w' g (h ++ [.cells cs]) a := by
  have hnew : w'.heap[w.heap.size]? = some (.cells arr e f) := by rw [hw]; simp
  have hold : ∀ b, b < w.heap.size → w'.heap[b]? = w.heap[b]? := fun b hb => by rw [hw, Array.getElem?_push]; simp [show ¬ b = w.heap.size by omega]
  have hext : Ext c w c w' := ⟨fun _ => Nat.le_refl _, fun b o ho => by
    rcases Nat.lt_or_ge b w.heap.size with hb | hb
    · exact cell_of_heap (hold b hb) o
    · rw [hI.core.c_zero hb] at ho; omega⟩
  refine hI.grow ⟨by rw [hw]; simp, hold, fun _ _ => rfl, fun b hb h0 => ?_, fun b hb => ?_, by simp, rfl, fun i o b ho hb => ?_, Nat.le_refl _, fun i cs' j r b ho hj hb => ?_, hos, htape, hout⟩
  · rw [hI.core.c_zero hb] at h0; omega
  · simp at hb; subst hb; exact ⟨Nat.le_refl _, hI.core.c_zero (Nat.le_refl _)⟩
  · cases i with
    | zero =>
      simp at ho hb
      subst ho; subst hb
      refine ⟨arr, e, f, hnew, hle, fun j hj => ?_, fun j v x hv hx => ⟨(hrel j v x hv hx).1.mono (Pre.append m _) hext, (hrel j v x hv hx).2⟩, hbt⟩
      have := hf j hj
      simp only [World.frozen?, hnew]
      simpa using this
    | succ i => simp at ho
  · cases i with
    | zero =>
      simp at ho hb
      subst ho; subst hb
      obtain ⟨k1, k2⟩ := hno j r hj
      refine ⟨k1, ?_⟩
      simp only [World.cell?, hnew]
      simpa using k2
    | succ i => simp at ho

theorem new_ptr {w' : World} (hl : m.length = h.length) : VRr (m ++ [w.heap.size]) c w' (.ptr h.length 0) (.pointer (some ⟨w.heap.size, 0, none⟩)) :=
  ⟨w.heap.size, by rw [← hl]; simp, rfl⟩

theorem VR1.own1 {v : V} {x : Value} (hv : VR1 m c w v x) : VR1 m c w (Lift.own1 v) x := by
  cases v with
  | nil => have : x = .slice none 0 0 := hv; subst this; exact VP.empty _ _ _
  | _ => exact hv
/-- cells as they are kept -/
theorem own_cells1 {cs : List V} {xs : List Value} (hr : R2 (VR1 m c w) cs xs) (hno : ∀ r, V.list .yes r ∉ cs) : R2 (VR1 m c w) (cs.map Lift.own1) xs ∧
    ∀ (j : Nat) (r : List (List V)), (cs.map Lift.own1)[j]? = some (.list .yes r) → r = [] ∧ xs[j]? = some (.slice none 0 0) := by
  refine ⟨by simpa using hr.map (g := id) fun _ _ h => VR1.own1 h, fun j r hj => ?_⟩
  simp only [List.getElem?_map, Option.map_eq_some_iff] at hj
  obtain ⟨v, hv, he⟩ := hj
  obtain ⟨y, hy, hvy⟩ := hr.get hv
  cases v with
  | nil =>
    have : y = .slice none 0 0 := hvy
    subst this
    simp [Lift.own1] at he
    exact ⟨he, hy⟩
  | list k q =>
    simp only [Lift.own1] at he
    cases he
    exact absurd (List.mem_of_getElem? hv) (hno r)
  | _ => simp [Lift.own1] at he

theorem stoOk_oneCell {v : V} {x : Value} (hv : VR1 m c w v x) (hs : stoOk v = true) : x.oneCell' = true := by
  cases v with
  | v z => have : x = z := hv; subst this; exact hs
  | nil => have : x = .slice none 0 0 := hv; subst this; rfl
  | list k r => exact VP.oneCell hv
  | ptr b o => obtain ⟨g, hg, rfl⟩ := hv; rfl
  | rp cs => obtain ⟨ad, rfl, _⟩ := hv; rfl
  | buf b o n => obtain ⟨g, cap, hg, rfl, _⟩ := hv; rfl
  | agg cs => cases hs
  | tup vs => cases hs
  | fn f cs => obtain ⟨xs, rfl, _⟩ := hv; rfl
  | undef => cases hs

theorem eff_alloc (hI : InvP vars E m c w g h a) {o : Oper} {t : TypeId} {z : List Value} (ho : o.op = .alloc t) (hz : tzero P t = some z) (hs : (z.map ofC1).all stoOk = true) (hbl : bldT t (z.map ofC1) = true) (hd : ∀ t, o.dst = some t → t < E.nt) (hv : ∀ t, o.dst = some t → t ∉ vars) :
    Done P vars E w a o (.ptr h.length 0) g (h ++ [.cells ((z.map ofC1).map own1)]) := by
  obtain ⟨zv, hzv, rfl⟩ := tzero_spec (w := w) hz
  have hrel := ofC1_cells (m := m) (c := c) (w := w) zv
  obtain ⟨hrel1, hno⟩ := own_cells1 hrel (fun r hr => by
    obtain ⟨y, _, hy⟩ := List.mem_map.1 hr
    unfold ofC1 at hy
    split at hy
    · cases hy
    · split at hy <;> cases hy
    · cases hy)
  have hone : ∀ (j : Nat) x, zv.cells[j]? = some x → x.oneCell' = true := fun j x hx => by
    have hx' : zv.cells.toList[j]? = some x := by simpa using hx
    have hj : (zv.cells.toList.map ofC1)[j]? = some (ofC1 x) := by simp [hx]
    exact stoOk_oneCell (hrel.2 j _ _ hj hx') (List.all_eq_true.1 hs _ (List.mem_of_getElem? hj))
  have hI' := grow_cells hI (cs := (zv.cells.toList.map ofC1).map own1) (arr := zv.cells) (e := t) (f := (0, 0)) (w' := { w with heap := w.heap.push (.cells zv.cells t) }) rfl rfl rfl rfl (fun j _ => by simp) (by simp)
    (fun j v x hv hx => ⟨hrel1.2 j v x hv (by simpa using hx), hone j x hx⟩) (fun j r hj => by simpa using hno j r hj)
    (fun T hT hc => by
      rw [isBld_own1] at hc
      obtain ⟨k1, k2⟩ := bldT_of hbl T hT hc
      exact ⟨k1, by simpa using k2⟩)
  refine ⟨_, _, _, _, does_of (s := Instr.alloc t true (.tuple #[])) (by simp [execOp, ho]) (x := .pointer (some ⟨w.heap.size, 0, none⟩)) (w' := { w with heap := w.heap.push (.cells zv.cells t) }) ?_, hI'.putBare hd (new_ptr hI.core.len) rfl (.inl hv)⟩
  simp [Instr.alloc, hzv, newVar, newRow]

theorem eff_box (hI : InvP vars E m c w g h a) {o : Oper} {t : TypeId} {x : Operand} (ho : o.op = .box t x) (hp : partOk (cps (opd g x)) = true) (hs : (cellsV (cps (opd g x))).all stoOk = true) (hbl : bldT t (cellsV (cps (opd g x))) = true) (hd : ∀ t, o.dst = some t → t < E.nt) (hv : ∀ t, o.dst = some t → t ∉ vars) :
    Done P vars E w a o (.ptr h.length 0) g (h ++ [.cells ((cellsV (cps (opd g x))).map own1)]) := by
  have hx := (hI.core.opd x).cps
  have hrel := cells_rel hx hp
  obtain ⟨hrel1, hno⟩ := own_cells1 hrel (fun r hr => noYes_cps _ r hr)
  have hone : ∀ (j : Nat) y, (a.eval x).cells[j]? = some y → y.oneCell' = true := fun j y hy => by
    have hy' : (a.eval x).cells.toList[j]? = some y := by simpa using hy
    have hj : j < (cellsV (cps (opd g x))).length := by rw [hrel.1]; exact (List.getElem?_eq_some_iff.1 hy').1
    exact stoOk_oneCell (hrel.2 j _ _ (List.getElem?_eq_getElem hj) hy') (List.all_eq_true.1 hs _ (List.getElem_mem hj))
  have hI' := grow_cells hI (cs := (cellsV (cps (opd g x))).map own1) (arr := (a.eval x).cells) (e := t) (f := (0, 0)) (w' := { w with heap := w.heap.push (.cells (a.eval x).cells t) }) rfl rfl rfl rfl (fun j _ => by simp) (by have := hrel.1; simp at this ⊢; omega)
    (fun j v y hv hy => ⟨hrel1.2 j v y hv (by simpa using hy), hone j y hy⟩) (fun j r hj => by simpa using hno j r hj)
    (fun T hT hc => by
      rw [isBld_own1] at hc
      obtain ⟨k1, k2⟩ := bldT_of hbl T hT hc
      have := hrel.1
      simp at this
      exact ⟨k1, by omega⟩)
  refine ⟨_, _, _, _, does_of (s := Instr.box t (a.eval x)) (by simp [execOp, ho]) (x := .pointer (some ⟨w.heap.size, 0, none⟩)) (w' := { w with heap := w.heap.push (.cells (a.eval x).cells t) }) ?_, hI'.putBare hd (new_ptr hI.core.len) rfl (.inl hv)⟩
  simp [Instr.box, newVar, newRow]

theorem getElem?_splice {α : Type} {l vs : List α} {o j : Nat} (hb : o + vs.length ≤ l.length) :
    (l.take o ++ vs ++ l.drop (o + vs.length))[j]? = if o ≤ j ∧ j < o + vs.length then vs[j - o]? else l[j]? := by
  have ho : (l.take o).length = o := by simp; omega
  by_cases h1 : j < o
  · rw [if_neg (by omega), List.append_assoc, List.getElem?_append_left (by omega), List.getElem?_take, if_pos h1]
  · by_cases h2 : j < o + vs.length
    · rw [if_pos ⟨by omega, h2⟩, List.getElem?_append_left (by simp; omega), List.getElem?_append_right (by omega), ho]
    · rw [if_neg (by omega), List.getElem?_append_right (by simp; omega), List.getElem?_drop]
      congr 1
      simp only [List.length_append, ho]
      omega

theorem setCells_spec (b : Nat) : ∀ (vs : List Value) (o : Nat) (w : World) (arr : Array Value) (e : TypeId) (f : Nat × Nat), w.heap[b]? = some (.cells arr e f) → o + vs.length ≤ arr.size →
    (w.setCells b o vs).heap.size = w.heap.size ∧ (∀ k, k ≠ b → (w.setCells b o vs).heap[k]? = w.heap[k]?) ∧ (w.setCells b o vs).os = w.os ∧ (w.setCells b o vs).tape = w.tape ∧ (w.setCells b o vs).output = w.output ∧
    ∃ arr' : Array Value, (w.setCells b o vs).heap[b]? = some (.cells arr' e f) ∧ arr'.toList = arr.toList.take o ++ vs ++ arr.toList.drop (o + vs.length)
  | [], o, w, arr, e, f, hw, hb => ⟨rfl, fun _ _ => rfl, rfl, rfl, rfl, arr, hw, by simp⟩
  | v :: vs, o, w, arr, e, f, hw, hb => by
    simp only [List.length_cons] at hb
    have hset : (w.setCell ⟨b, o, none⟩ v).heap[b]? = some (.cells (arr.setIfInBounds o v) e f) := by
      simp [World.setCell, Array.getElem?_modify, hw]
    obtain ⟨h1, h2, h3, h4, h5, arr', h6, h7⟩ := setCells_spec b vs (o + 1) (w.setCell ⟨b, o, none⟩ v) _ e f hset (by simp; omega)
    refine ⟨by rw [World.setCells, h1]; simp [World.setCell], fun k hk => ?_, h3, h4, h5, arr', h6, ?_⟩
    · rw [World.setCells, h2 k hk]
      simp [World.setCell, Array.getElem?_modify, Ne.symm hk]
    · rw [h7]
      have hlt : o < arr.toList.length := by simp; omega
      simp only [Array.toList_setIfInBounds, List.length_cons]
      rw [List.take_succ_eq_append_getElem (by simpa using hlt), List.getElem_set_self, List.take_set_of_le (by omega), List.drop_set_of_lt (by omega)]
      simp only [List.append_assoc, List.cons_append, List.nil_append]
      rw [show o + 1 + vs.length = o + (vs.length + 1) by omega]

theorem cell_arr {b j : Nat} {arr : Array Value} {e : TypeId} {f : Nat × Nat} (hw : w.heap[b]? = some (.cells arr e f)) : w.cell? ⟨b, j, none⟩ = arr[j]? := by
  simp [World.cell?, hw]

/-- cells of an object are written -/
theorem store_cells (hI : InvP vars E m c w g h a) {i gb off : Nat} {cs vs : List V} {ys : List Value} (jf : Nat) (hcs : cellsOfOb h i = some cs) (hm : m[i]? = some gb) (hlo : E.lo ≤ i)
    (hb : off + vs.length ≤ cs.length) (hr : R2 (VR1 m c w) vs ys) (hone : ∀ y ∈ ys, y.oneCell' = true)
    (hown : ∀ (j : Nat) r x, vs[j]? = some (.list .yes r) → ys[j]? = some x → (r = [] ∧ x = .slice none 0 0) ∨ off + j = jf ∧ OwnB m c w r x ∧ (∀ l r' x' b, At m w g h a l r' x' → ownBlk x = some b → ownBlk x' ≠ some b) ∧ ∀ b, ownBlk x = some b → E.w.heap.size ≤ b ∨ E.ho b)
    (hjf : off ≤ jf ∧ jf < off + vs.length ∨ cs.length ≤ jf)
    (hnt : ∀ t i j r, look g t ≠ .list (.cell i j) r) (hok : ∀ v ∈ vs, okv (i + 1) v = true) (hbl : bldS vs = true) :
    InvP vars E m c (w.setCells gb off ys) g (Lift.setOb h i (cs.take off ++ vs ++ cs.drop (off + vs.length))) a ∧
    (storeCells ⟨gb, off, none⟩ ys).run P w = .ok () (w.setCells gb off ys) := by
  have hcs0 : h[i]? = some (.cells cs) := by
    unfold cellsOfOb at hcs
    split at hcs
    · rename_i h0; cases hcs; exact h0
    · cases hcs
  obtain ⟨arr, e, f, hw, hle, hfr, hall, hbld⟩ := hI.core.ob i _ gb hcs0 hm
  have hlen : ys.length = vs.length := hr.1.symm
  obtain ⟨h1, h2, h3, h4, h5, arr', h6, h7⟩ := setCells_spec gb ys off w arr e f hw (by omega)
  have hc0 : c gb = 0 := hI.core.wf2 gb (List.mem_of_getElem? hm)
  have hext : Ext c w c (w.setCells gb off ys) := ⟨fun _ => Nat.le_refl _, fun b o ho => by
    by_cases hb' : b = gb
    · rw [hb', hc0] at ho; omega
    · exact cell_of_heap (h2 b hb') o⟩
  have hget : ∀ j, arr'[j]? = if off ≤ j ∧ j < off + vs.length then ys[j - off]? else arr[j]? := fun j => by
    rw [← Array.getElem?_toList, h7, getElem?_splice (by simp; omega), hlen]
    simp
  have hgetc : ∀ j, (cs.take off ++ vs ++ cs.drop (off + vs.length))[j]? = if off ≤ j ∧ j < off + vs.length then vs[j - off]? else cs[j]? := fun j => getElem?_splice hb
  have hsize : arr'.size = arr.size := by
    have := congrArg List.length h7
    simp only [Array.length_toList, List.length_append, List.length_take, List.length_drop] at this
    omega
  have hlen' : (cs.take off ++ vs ++ cs.drop (off + vs.length)).length = cs.length := by simp; omega
  refine ⟨hI.setOb (w' := w.setCells gb off ys) jf hlo hm h1 h2 h3 h4 h5 ?_ ?_ hnt ?_, ?_⟩
  · refine ⟨arr', e, f, h6, by rw [hlen', hsize]; exact hle, fun j hj => ?_, fun j v x hv hx => ?_, fun T hT hc => ?_⟩
    · rw [hlen'] at hj
      have := hfr j hj
      simp only [World.frozen?, hw, h6] at this ⊢
      exact this
    · rw [hgetc] at hv
      rw [hget] at hx
      split at hv
      · rename_i hj
        rw [if_pos hj] at hx
        exact ⟨(hr.2 _ v x hv hx).mono (Pre.refl m) hext, hone x (List.mem_of_getElem? hx)⟩
      · rename_i hj
        rw [if_neg hj] at hx
        exact ⟨(hall j v x hv hx).1.mono (Pre.refl m) hext, (hall j v x hv hx).2⟩
    · rw [hsize]
      obtain ⟨k1, x, k2, k3⟩ := isBld_iff.1 hc
      rw [hlen'] at k1
      rw [hgetc] at k2
      split at k2
      · exfalso
        unfold bldS at hbl
        rw [hT] at hbl
        have := List.any_eq_true.2 ⟨x, List.mem_of_getElem? k2, k3⟩
        rw [this] at hbl
        cases hbl
      · exact hbld T hT (isBld_iff.2 ⟨k1, x, k2, k3⟩)
  · intro cs' j r x hcs' hj hx
    cases hcs'
    rw [cell_arr h6, hget] at hx
    rw [hgetc] at hj
    split at hj
    · rename_i hjb
      rw [if_pos hjb] at hx
      rcases hown (j - off) r x hj hx with h0 | ⟨k1, k2, k3, k4⟩
      · exact .inl h0
      · exact .inr ⟨fun hne => absurd (by omega) hne, fun _ => ⟨k2, fun l r' x' b hl _ hb => k3 l r' x' b hl hb, k4⟩⟩
    · rename_i hjb
      rw [if_neg hjb] at hx
      refine .inr ⟨fun _ => ⟨cs, gb, hcs, hj, hm, by rw [cell_arr hw]; exact hx⟩, fun hjj => ?_⟩
      have := (List.getElem?_eq_some_iff.1 hj).1
      omega
  · intro cs' hcs' v hv
    cases hcs'
    rw [List.mem_append, List.mem_append] at hv
    rcases hv with (hv | hv) | hv
    · exact hI.old i cs hcs v (List.mem_of_mem_take hv)
    · exact hok v hv
    · exact hI.old i cs hcs v (List.mem_of_mem_drop hv)
  · have := run_storeCells_cells (P := P) gb off ys 0 w (fun j hj => by
        rw [cell_arr hw]
        have : off + j < arr.size := by omega
        simp [this]) (fun j hj => hfr _ (by omega)) hone
    simpa using this

theorem cellsV_own1s (v : V) : cellsV (own1s v) = (cellsV v).map own1 := by
  cases v <;> rfl
theorem okv_own1s {n : Nat} {v : V} (hv : okv n v = true) : ∀ u ∈ cellsV (own1s v), okv n u = true := by
  intro u hu
  rw [cellsV_own1s, List.mem_map] at hu
  obtain ⟨y, hy, rfl⟩ := hu
  have hy' : okv n y = true := by
    cases v with
    | agg ds =>
      have := List.all_eq_true.1 hv y hy
      cases y <;> first | exact this | (simp [okc] at this)
    | _ =>
      simp only [cellsV, List.mem_singleton] at hy
      subst hy
      exact hv
  cases y <;> first | rfl | exact hy'

theorem eff_store (hI : InvP vars E m c w g h a) {o : Oper} {t : TypeId} {p x : Operand} {i off : Nat} {cs : List V} (ho : o.op = .store t p x) (hp : opd g p = .ptr i off) (hcs : cellsOfOb h i = some cs)
    (hc : E.lo ≤ i ∧ off + tsize P t ≤ cs.length ∧ (cellsV (takeO g x).1).length = tsize P t ∧ (P.info? t).isSome ∧ ((cellsV (takeO g x).1).all stoOk && bldS (cellsV (takeO g x).1)) = true ∧ okv (i + 1) (takeO g x).1 = true)
    (hd : ∀ t, o.dst = some t → t < E.nt) :
    Done P vars E w a o (.v undef) (Lift.untag (takeO g x).2) (Lift.setOb h i (cs.take off ++ cellsV (own1s (takeO g x).1) ++ cs.drop (off + tsize P t))) := by
  obtain ⟨c1, c2, c3, c4, c57, c6⟩ := hc
  rw [Bool.and_eq_true] at c57
  obtain ⟨c5, c7⟩ := c57
  have c8 : bldS (cellsV (own1s (takeO g x).1)) = true := by
    rw [cellsV_own1s]
    unfold bldS at c7 ⊢
    split
    · rfl
    · rename_i T hT
      rw [hT] at c7
      simpa [List.any_map, Function.comp_def, isNilP_own1] using c7
  obtain ⟨gb, hm, hpv⟩ := (by have := hI.core.opd p; rw [hp] at this; exact this : ∃ gb, m[i]? = some gb ∧ a.eval p = .pointer (some ⟨gb, off, none⟩))
  obtain ⟨ie, hie⟩ := Option.isSome_iff_exists.1 c4
  have hx : VRr m c w (takeO g x).1 (a.eval x) := by
    rcases takeO_spec hI x with ⟨_, hv, _, _⟩ | ⟨t', r, rfl, hl, h1, h2, hv, hat⟩
    · exact hv
    · rw [h1]; exact hv
  have hpart : partOk (takeO g x).1 = true := by
    cases hq : (takeO g x).1 <;> first | rfl | (rw [hq] at c5; simp only [cellsV, List.all_cons, List.all_nil, stoOk, Bool.and_true] at c5; first | exact c5 | cases c5)
  have hrel := cells_rel hx hpart
  have hone : ∀ y ∈ (a.eval x).cells.toList, y.oneCell' = true := fun y hy => by
    obtain ⟨j, hj, rfl⟩ := List.getElem_of_mem hy
    have hj' : j < (cellsV (takeO g x).1).length := by rw [hrel.1]; exact hj
    exact stoOk_oneCell (hrel.2 j _ _ (List.getElem?_eq_getElem hj') (List.getElem?_eq_getElem hj)) (List.all_eq_true.1 c5 _ (List.getElem_mem hj'))
  have hok := okv_own1s c6
  have c3' : (cellsV (own1s (takeO g x).1)).length = tsize P t := by rw [cellsV_own1s, List.length_map]; exact c3
  have hrun : ∀ w', (storeCells ⟨gb, off, none⟩ (a.eval x).cells.toList).run P w = .ok () w' → Does P w a o undef w' := fun w' hw' => by
    refine .inr ⟨?_, rfl⟩
    have hsz : (a.eval x).cells.size = ie.size := by have := hrel.1; rw [← size_of_info hie]; simp at this; omega
    simp [execOp, ho, Instr.storeAt, hpv, Instr.sureAddr, storeVar, sizeOf, typeInfo, hie, hsz, hw']
  rcases takeO_spec hI x with ⟨hb, hv, hg, hny⟩ | ⟨t', r, rfl, hl, h1, h2, hv, hat⟩
  · rw [hg]
    obtain ⟨hrel1, hno⟩ := own_cells1 hrel hny
    rw [← cellsV_own1s] at hrel1 hno
    obtain ⟨hI', hst⟩ := store_cells (P := P) hI.untag cs.length hcs hm c1 (by rw [c3']; exact c2) hrel1 hone (fun j r y hj hy => by
      obtain ⟨k1, k2⟩ := hno j r hj
      rw [hy] at k2
      exact .inl ⟨k1, Option.some.inj k2⟩) (.inr (Nat.le_refl _)) (fun t i j r => noTagC t i j r) hok c8
    rw [c3'] at hI'
    exact ⟨_, _, m, c, hrun _ hst, hI'.putBare hd rfl rfl (.inr fun t u r => noTags t u r)⟩
  · have h1' : own1s (takeO g (.tmp t')).1 = .list .yes r := by rw [h1]; rfl
    rw [h1'] at hok c3' c8 ⊢
    rw [h1] at hrel
    rw [h2]
    have hI1 := hI.release hl
    obtain ⟨hI', hst⟩ := store_cells (P := P) (vs := [.list .yes r]) hI1 off hcs hm c1 (by rw [show [V.list .yes r].length = tsize P t from c3']; exact c2) hrel hone (fun j q y hj hy => by
      cases j with
      | succ j => simp at hj
      | zero =>
        simp only [List.getElem?_cons_zero, Option.some.injEq] at hj
        cases hj
        have hy' : y = a.eval (.tmp t') := by
          have : (a.eval (.tmp t')).cells = #[a.eval (.tmp t')] := by
            have hv' : VP c w (.list .yes r) (a.eval (.tmp t')) := hv
            generalize a.eval (.tmp t') = z at hv'
            cases hv' <;> rfl
          rw [this] at hy
          simpa using hy.symm
        subst hy'
        refine .inr ⟨by omega, hI.core.own _ _ _ hat, fun l r' x' b hl' hb hb' => ?_, fun b hb => hI.owned _ _ _ b hat trivial hb⟩
        obtain ⟨n1, hl''⟩ := At_release hl'
        exact n1 (hI.core.uniq l _ r' _ x' _ b hl'' hat hb' hb)) (.inl ⟨Nat.le_refl _, by simp⟩) (fun t i j r => noTagC t i j r) hok c8
    rw [show [V.list .yes r].length = tsize P t from c3'] at hI'
    exact ⟨_, _, m, c, hrun _ hst, hI'.putBare hd rfl rfl (.inr fun t u r => noTags t u r)⟩

end
end Go.Lift
end

section
/- The lifting, eleventh part: iterators over strings, conversions to bytes, slices written out, append. -/
namespace Go.Lift
set_option linter.unusedVariables false
set_option linter.unusedSimpArgs false
set_option linter.unusedSectionVars false
variable [GTab] [BTy]

section
variable {P : Program} {vars : List Nat} {m : List Nat} {c : Cl} {w : World} {g : Env} {h : Heap} {a : Act} {E : Entry}

theorem eff_range (hI : InvP vars E m c w g h a) {o : Oper} {t : TypeId} {x : Operand} {b : ByteArray} (ho : o.op = .range t x) (hx : opd g x = .v (.string b)) (hu : P.underlying t = some .string) (hd : ∀ t, o.dst = some t → t < E.nt) (hv : ∀ t, o.dst = some t → t ∉ vars) :
    Done P vars E w a o (.ptr h.length 0) g (h ++ [.iter b 0]) := by
  have hx' : a.eval x = .string b := by have := hI.core.opd x; rw [hx] at this; exact this
  have hw : ∀ k, k < w.heap.size → ({ w with heap := w.heap.push (.stringIter b 0) } : World).heap[k]? = w.heap[k]? := fun k hk => by
    show (w.heap.push _)[k]? = _
    rw [Array.getElem?_push]; simp [show ¬ k = w.heap.size by omega]
  have hI' : InvP vars E (m ++ [w.heap.size]) c { w with heap := w.heap.push (.stringIter b 0) } g (h ++ [.iter b 0]) a := by
    refine hI.grow ⟨by simp, hw, fun _ _ => rfl, fun k hk h0 => ?_, fun k hk => ?_, by simp, rfl, fun i o k ho hk => ?_, Nat.le_refl _, fun i cs j r b ho => ?_, rfl, rfl, rfl⟩
    · rw [hI.core.c_zero hk] at h0; omega
    · simp at hk; subst hk; exact ⟨Nat.le_refl _, hI.core.c_zero (Nat.le_refl _)⟩
    · cases i with
      | zero => simp at ho hk; subst ho; subst hk; simp [ObR]
      | succ i => simp at ho
    · cases i with
      | zero => simp at ho
      | succ i => simp at ho
  refine ⟨_, _, _, _, does_of (s := Instr.range t (a.eval x)) (by simp [execOp, ho]) (x := .pointer (some ⟨w.heap.size, 0, none⟩)) (w' := { w with heap := w.heap.push (.stringIter b 0) }) ?_, hI'.putBare hd (new_ptr hI.core.len) rfl (.inl hv)⟩
  simp [Instr.range, hx', run_underlying hu]

theorem eff_next (hI : InvP vars E m c w g h a) {o : Oper} {x : Operand} {i pos : Nat} {s : ByteArray} (ho : o.op = .next x true) (hx : opd g x = .ptr i 0) (hh : h[i]? = some (.iter s pos)) (hlo : E.lo ≤ i) (hnt : ∀ t i j r, look g t ≠ .list (.cell i j) r)
    (hd : ∀ t, o.dst = some t → t < E.nt) (hv : ∀ t, o.dst = some t → t ∉ vars) :
    if pos < s.size then Done P vars E w a o (.tup [.v (.bool true), .v (.int .i64 pos), .v (.int .i32 (Utf8.decode s pos).1)]) g (h.set i (.iter s (pos + (Utf8.decode s pos).2)))
    else Done P vars E w a o (.tup [.v (.bool false)]) g h := by
  obtain ⟨gb, hm, hxv⟩ := (by have := hI.core.opd x; rw [hx] at this; exact this : ∃ gb, m[i]? = some gb ∧ a.eval x = .pointer (some ⟨gb, 0, none⟩))
  have hob : w.heap[gb]? = some (.stringIter s pos) := hI.core.ob i _ gb hh hm
  have hget : (getObj gb).run P w = .ok (.stringIter s pos) w := by simp [getObj, Sem.run, hob]
  split
  · rename_i hlt
    have hset : ∀ o', ({ w with heap := w.heap.setIfInBounds gb o' } : World).heap[gb]? = some o' := fun o' => by
      have := (Array.getElem?_eq_some_iff.1 hob).1
      simp [this]
    have hoth : ∀ o' k, k ≠ gb → ({ w with heap := w.heap.setIfInBounds gb o' } : World).heap[k]? = w.heap[k]? := fun o' k hk => by
      show (w.heap.setIfInBounds gb o')[k]? = _
      rw [Array.getElem?_setIfInBounds_ne (Ne.symm hk)]
    have hI' := hI.setOb (o' := .iter s (pos + (Utf8.decode s pos).2)) (w' := { w with heap := w.heap.setIfInBounds gb (.stringIter s (pos + (Utf8.decode s pos).2)) }) 0 hlo hm (by simp) (hoth _) rfl rfl rfl (hset _)
      (fun cs' j r x hc => by cases hc) hnt (fun cs' hc => by cases hc)
    refine ⟨.tuple #[.bool true, .int .i64 pos, .int .i32 (Utf8.decode s pos).1], _, m, c, does_of (s := Instr.next (a.eval x) true o.type) (by simp [execOp, ho]) ?_, hI'.putBare hd ?_ rfl (.inl hv)⟩
    · simp only [Instr.next, hxv, Sem.run_bind, hget, Result.andThen_ok, hlt, if_true]
      simp [setObj, Sem.run, hob, goInt]
    · exact ⟨_, rfl, R2.cons rfl (R2.cons rfl (R2.cons rfl R2.nil))⟩
  · rename_i hge
    refine ⟨.tuple #[.bool false], w, m, c, does_of (s := Instr.next (a.eval x) true o.type) (by simp [execOp, ho]) ?_, hI.putBare hd ⟨_, rfl, R2.cons rfl R2.nil⟩ rfl (.inl hv)⟩
    simp only [Instr.next, hxv, Sem.run_bind, hget, Result.andThen_ok, if_neg hge]
    rfl

/-- rows laid in new protected memory -/
theorem VP_new {k : Own} {rows : List (List V)} {b cap sz : Nat} {arr : Array Value} {e : TypeId} {f : Nat × Nat} (hw : w.heap[b]? = some (.cells arr e f)) (hsz : 0 < sz) (hrow : ∀ row ∈ rows, row.length = sz) (hcap : rows.length ≤ cap) (hc : rows.length * sz ≤ c b)
    (hrel : ∀ (i j : Nat) row v, rows[i]? = some row → row[j]? = some v → ∃ x, arr[i * sz + j]? = some x ∧ VP c w v x) : VP c w (.list k rows) (.slice (some ⟨b, 0, none⟩) rows.length cap) := by
  by_cases hne : rows = []
  · subst hne; exact .empty _ _ _
  · refine .list k rows ⟨b, 0, none⟩ cap sz (fun i j => arr.getD (i * sz + j) undef) hne hsz rfl hcap (by simpa using hc) (fun i row hi => hrow row (List.mem_of_getElem? hi)) (fun i j row v hi hj => ?_) (fun i j row v hi hj => ?_)
    · obtain ⟨x, hx, hv⟩ := hrel i j row v hi hj
      rw [cell_arr hw]
      simp [hx]
    · obtain ⟨x, hx, hv⟩ := hrel i j row v hi hj
      simpa [hx] using hv

theorem VP_of_pure {v : V} {x : Value} (hv : VR1 m c w v x) (hp : pure1 v = true) : VP c w v x := by
  cases v with
  | v z => have : x = z := hv; subst this; exact .v _ hp
  | list k r => exact hv
  | _ => cases hp

theorem grow_claim (hI : InvP vars E m c w g h a) {arr : Array Value} {e : TypeId} {f : Nat × Nat} {w' : World} (n : Nat) (hw : w'.heap = w.heap.push (.cells arr e f)) (hos : w'.os = w.os) (htape : w'.tape = w.tape) (hout : w'.output = w.output) (hn : n ≤ arr.size) :
    InvP vars E m (fun b => if b = w.heap.size then n else c b) w' g h a := by
  have hold : ∀ b, b < w.heap.size → w'.heap[b]? = w.heap[b]? := fun b hb => by rw [hw, Array.getElem?_push]; simp [show ¬ b = w.heap.size by omega]
  refine hI.grown none (by rw [hw]; simp) (fun b hb _ => ⟨hold b hb, by simp [show ¬ b = w.heap.size by omega]⟩) (fun b hb => by cases hb) (fun b hb _ h0 => ?_) hos htape hout
  by_cases hbe : b = w.heap.size
  · subst hbe
    exact ⟨arr, e, f, by rw [hw]; simp, by simpa using hn⟩
  · simp only [if_neg hbe] at h0
    rw [hI.core.c_zero hb] at h0; omega

theorem byteRows_get {s : ByteArray} {i j : Nat} {row : List V} {v : V} (hi : (byteRows s)[i]? = some row) (hj : row[j]? = some v) : ∃ c : UInt8, s.data[i]? = some c ∧ j = 0 ∧ v = .v (.int .u8 c.toNat) := by
  unfold byteRows at hi
  simp only [List.getElem?_map, Option.map_eq_some_iff] at hi
  obtain ⟨c, hc, rfl⟩ := hi
  cases j with
  | zero => simp at hj; exact ⟨c, by simpa using hc, rfl, hj.symm⟩
  | succ j => simp at hj

theorem eff_convert (hI : InvP vars E m c w g h a) {o : Oper} {s d : TypeId} {x : Operand} {mutc : Bool} {v : V} {g' : Env} {h' : Heap} (ho : o.op = .convert s d x) (hs : P.underlying s = some .string)
    (he : (match P.underlying s, P.underlying d, opd g x with
      | some .string, some (.slice e), .v (.string y) =>
        if isU8 P e then
          if mutc then some (V.buf h.length 0 y.size, (g, h ++ [Ob.cells (byteCells y)]))
          else some (.list .no (byteRows y), (g, h))
        else none
      | some .string, some .string, .v (.string y) => some (.v (.string y), (g, h))
      | _, _, _ => none) = some (v, g', h')) (hd : ∀ t, o.dst = some t → t < E.nt) (hv : ∀ t, o.dst = some t → t ∉ vars) :
    Done P vars E w a o v g' h' := by
  split at he
  · rename_i e y h1 h2 h3
    have hx' : a.eval x = .string y := by have := hI.core.opd x; rw [h3] at this; exact this
    split at he
    · rename_i hu
      have hu := is_u8 hu
      have hrun := run_bytes_of_string (P := P) w s d e y hs h2 hu
      have hdo : Does P w a o (.slice (some ⟨w.heap.size, 0, none⟩) y.size (grownCap w y.size 0 e)) _ := does_of (s := convert s d (a.eval x)) (by simp [execOp, ho]) (by rw [hx']; exact hrun)
      have hge : y.size ≤ grownCap w y.size 0 e := grownCap_ge w y.size 0 e
      have hrowget : ∀ (j : Nat) (c : UInt8), y.data[j]? = some c → (bytesRow y (grownCap w y.size 0 e))[j]? = some (.int .u8 c.toNat) := fun j c hc => by
        have hl := (Array.getElem?_eq_some_iff.1 hc).1
        unfold bytesRow
        rw [Array.getElem?_append_left (by simpa using hl)]
        simp [hc]
      have hrowsz : y.size ≤ (bytesRow y (grownCap w y.size 0 e)).size := by
        unfold bytesRow
        simp
      split at he
      · cases he
        have hI' := grow_cells hI (cs := byteCells y) (arr := bytesRow y (grownCap w y.size 0 e)) (e := e) (f := ((bytesRow y (grownCap w y.size 0 e)).size, (bytesRow y (grownCap w y.size 0 e)).size + 1)) (w' := w.drew.alloc (.cells (bytesRow y (grownCap w y.size 0 e)) e ((bytesRow y (grownCap w y.size 0 e)).size, (bytesRow y (grownCap w y.size 0 e)).size + 1))) rfl rfl rfl rfl
          (fun j hj => by
            have : (byteCells y).length = y.size := by simp [byteCells]
            omega) (by simp [byteCells]; exact hrowsz)
          (fun j v x hv hx => by
            unfold byteCells at hv
            simp only [List.getElem?_map, Option.map_eq_some_iff] at hv
            obtain ⟨c, hc, rfl⟩ := hv
            rw [hrowget j c (by simpa using hc)] at hx
            cases hx
            exact ⟨rfl, rfl⟩)
          (fun j r hj => by
            unfold byteCells at hj
            simp only [List.getElem?_map, Option.map_eq_some_iff] at hj
            obtain ⟨c, _, hc⟩ := hj
            cases hc)
          (fun T hT hc => by
            exfalso
            obtain ⟨_, x, k2, k3⟩ := isBld_iff.1 hc
            unfold byteCells at k2
            simp only [List.getElem?_map, Option.map_eq_some_iff] at k2
            obtain ⟨c, _, rfl⟩ := k2
            cases k3)
        refine ⟨_, _, _, _, hdo, hI'.putBare hd ⟨w.heap.size, _, by rw [← hI.core.len]; simp, rfl, hge⟩ rfl (.inl hv)⟩
      · cases he
        have hI' := grow_claim hI (arr := bytesRow y (grownCap w y.size 0 e)) (e := e) (f := ((bytesRow y (grownCap w y.size 0 e)).size, (bytesRow y (grownCap w y.size 0 e)).size + 1)) (w' := w.drew.alloc (.cells (bytesRow y (grownCap w y.size 0 e)) e ((bytesRow y (grownCap w y.size 0 e)).size, (bytesRow y (grownCap w y.size 0 e)).size + 1))) y.size rfl rfl rfl rfl hrowsz
        refine ⟨_, _, _, _, hdo, hI'.putBare hd ?_ rfl (.inl hv)⟩
        have hlen : (byteRows y).length = y.size := by simp [byteRows]
        have key : VP (fun b => if b = w.heap.size then y.size else c b) (w.drew.alloc (.cells (bytesRow y (grownCap w y.size 0 e)) e ((bytesRow y (grownCap w y.size 0 e)).size, (bytesRow y (grownCap w y.size 0 e)).size + 1)))
            (.list .no (byteRows y)) (.slice (some ⟨w.heap.size, 0, none⟩) (byteRows y).length (grownCap w y.size 0 e)) := by
          refine VP_new (sz := 1) (hw := heap_alloc_new w.drew _) Nat.one_pos (fun row hr => ?_) (by rw [hlen]; exact hge) (by simp [hlen]) (fun i j row v hi hj => ?_)
          · unfold byteRows at hr
            simp only [List.mem_map] at hr
            obtain ⟨c, _, rfl⟩ := hr
            rfl
          · obtain ⟨c, hc, rfl, rfl⟩ := byteRows_get hi hj
            exact ⟨_, by simpa using hrowget i c hc, .v _ rfl⟩
        rw [hlen] at key
        exact key
    · cases he
  · rename_i y h1 h2 h3
    cases he
    have hx' : a.eval x = .string y := by have := hI.core.opd x; rw [h3] at this; exact this
    exact ⟨.string y, w, m, c, does_of (s := convert s d (a.eval x)) (by simp [execOp, ho]) (by simp [hx', convert, run_underlying h1, run_underlying h2]), hI.putBare hd rfl rfl (.inl hv)⟩
  · cases he

end
end Go.Lift
end

section
/- The lifting, twelfth part: slices written out; append. -/
namespace Go.Lift
set_option linter.unusedVariables false
set_option linter.unusedSimpArgs false
set_option linter.unusedSectionVars false
variable [GTab] [BTy]

section
variable {P : Program} {vars : List Nat} {m : List Nat} {c : Cl} {w : World} {g : Env} {h : Heap} {a : Act} {E : Entry}

theorem fill_rows (sz : Nat) : ∀ (qs : List (Nat × Value)) (k : Nat) (zs : Array Value), qs.map (·.1) = List.range' k qs.length → (∀ q ∈ qs, q.2.cells.size = sz) → (k + qs.length) * sz ≤ zs.size →
    ∃ ys : Array Value, Instr.fill (fun i => some (i * sz, sz)) zs qs = some ys ∧ ys.toList = zs.toList.take (k * sz) ++ (qs.map (fun q => q.2.cells.toList)).flatten ++ zs.toList.drop ((k + qs.length) * sz)
  | [], k, zs, _, _, _ => ⟨zs, rfl, by simp⟩
  | (i, v) :: qs, k, zs, hi, hs, hz => by
    simp only [List.map_cons, List.length_cons, List.range'_succ, List.cons.injEq] at hi
    obtain ⟨rfl, hi⟩ := hi
    have hv : v.cells.size = sz := hs (i, v) (by simp)
    simp only [List.length_cons] at hz
    have hb : (i + 1) * sz ≤ zs.size := Nat.le_trans (Nat.mul_le_mul_right _ (by omega)) hz
    rw [Nat.add_mul, Nat.one_mul] at hb
    have hfold : (v.cells.zipIdx.foldl (fun cs (x, j) => cs.setIfInBounds (i * sz + j) x) zs).toList = zs.toList.take (i * sz) ++ v.cells.toList ++ zs.toList.drop (i * sz + sz) := by
      have hf := fold_splice (i * sz) v.cells.toList 0 zs (by simp [hv]; omega)
      simp only [Nat.add_zero, Array.length_toList, hv] at hf
      rw [← hf, ← Array.foldl_toList, Array.toList_zipIdx]
    obtain ⟨ys, hy1, hy2⟩ := fill_rows sz qs (i + 1) (v.cells.zipIdx.foldl (fun cs (x, j) => cs.setIfInBounds (i * sz + j) x) zs) hi (fun q hq => hs q (by simp [hq])) (by
      have := congrArg List.length hfold
      simp only [Array.length_toList, List.length_append, List.length_take, List.length_drop, hv] at this
      rw [this, show i + 1 + qs.length = i + (qs.length + 1) by omega]
      omega)
    refine ⟨ys, ?_, ?_⟩
    · unfold Instr.fill
      simp only [hv]
      rw [if_neg (by simp; omega)]
      exact hy1
    · rw [hy2, hfold]
      have hl1 : (zs.toList.take (i * sz) ++ v.cells.toList).length = (i + 1) * sz := by
        simp only [List.length_append, List.length_take, Array.length_toList, hv]
        rw [Nat.add_mul]; omega
      rw [List.take_append_of_le_length (by rw [hl1]; exact Nat.le_refl _), List.take_of_length_le (by rw [hl1]; exact Nat.le_refl _)]
      rw [List.drop_append, hl1]
      have hd : (zs.toList.take (i * sz) ++ v.cells.toList).drop ((i + 1 + qs.length) * sz) = [] := by
        apply List.drop_eq_nil_of_le
        rw [hl1]
        exact Nat.mul_le_mul_right _ (by omega)
      rw [hd, List.nil_append, List.drop_drop]
      simp only [List.map_cons, List.flatten_cons, List.length_cons, List.append_assoc]
      congr 4
      rw [show i + (qs.length + 1) = (i + 1 + qs.length) by omega]
      have : (i + 1) * sz ≤ (i + 1 + qs.length) * sz := Nat.mul_le_mul_right _ (by omega)
      rw [Nat.add_mul i 1] at this ⊢
      omega

theorem flat_get {α : Type} {sz : Nat} : ∀ {l : List (List α)} {i j : Nat} {row : List α}, (∀ r ∈ l, r.length = sz) → l[i]? = some row → j < sz → l.flatten[i * sz + j]? = row[j]?
  | [], i, j, row, _, hi, _ => by simp at hi
  | r :: l, i, j, row, hs, hi, hj => by
    have hr : r.length = sz := hs r (by simp)
    rw [List.flatten_cons]
    cases i with
    | zero =>
      simp at hi
      subst hi
      rw [Nat.zero_mul, Nat.zero_add, List.getElem?_append_left (by omega)]
    | succ i =>
      rw [List.getElem?_append_right (by rw [hr, Nat.add_mul]; omega), hr, show (i + 1) * sz + j - sz = i * sz + j by rw [Nat.add_mul]; omega]
      exact flat_get (fun q hq => hs q (by simp [hq])) (by simpa using hi) hj

theorem flat_len {α : Type} {sz : Nat} : ∀ {l : List (List α)}, (∀ r ∈ l, r.length = sz) → l.flatten.length = l.length * sz
  | [], _ => by simp
  | r :: l, hs => by
    rw [List.flatten_cons, List.length_append, hs r (by simp), flat_len (fun q hq => hs q (by simp [hq])), List.length_cons, Nat.add_mul]
    omega

theorem exec_buildSlice (ρ : Operand → Value) {o : Oper} {t : TypeId} {n : Nat} {parts : Array (Nat × Operand)} (ho : o.op = .buildSlice t n parts) :
    execOp ρ o = (do pure (Next.value (← Instr.buildSlice t n (parts.map fun p => (p.1, ρ p.2))))) := by
  unfold execOp
  rw [ho]
theorem does_build {w' : World} {o : Oper} {t : TypeId} {n : Nat} {parts : Array (Nat × Operand)} (ho : o.op = .buildSlice t n parts) {x : Value}
    (hr : (Instr.buildSlice t n (parts.map fun p => (p.1, a.eval p.2))).run P w = .ok x w') : Does P w a o x w' := does_of (exec_buildSlice a.eval ho) hr

/-- the run of a slice written out -/
theorem run_build (w : World) {t e : TypeId} {n : Nat} {qs : Array (Nat × Value)} {ie : TypeInfo} {zv : Value} (hu : P.underlying t = some (.slice e)) (hie : P.info? e = some ie) (hzv : (zeroValue e).run P w = .ok zv w)
    (hn : qs.size = n) (hi : qs.toList.map (·.1) = List.range n) (hs : ∀ q ∈ qs.toList, q.2.cells.size = ie.size) (hle : n * ie.size ≤ 16777216) :
    ∃ arr : Array Value, arr.toList = (qs.toList.map fun q => q.2.cells.toList).flatten ∧
      (Instr.buildSlice t n qs).run P w = .ok (.slice (some ⟨w.heap.size, 0, none⟩) n n) { w with heap := w.heap.push (.cells arr e) } := by
  have hle' : ¬ n * ie.size > 2 ^ 24 := by
    have : (2 : Nat) ^ 24 = 16777216 := by decide
    omega
  have hfill := fun z : Array Value => fill_rows ie.size qs.toList 0 ((Array.range (n * ie.size)).map (z[· % z.size]!)) (by rw [hi, List.range_eq_range', Array.length_toList, hn]) hs (by simp [hn])
  by_cases h0 : n * ie.size = 0
  · obtain ⟨ys, h1, h2⟩ := hfill #[]
    refine ⟨ys, ?_, ?_⟩
    · rw [h2]
      have hz1 : ((Array.range (n * ie.size)).map ((#[] : Array Value)[· % (#[] : Array Value).size]!)).toList = [] := by rw [h0]; simp
      rw [hz1]
      simp
    · unfold Instr.buildSlice
      simp only [Sem.run_bind, run_underlying hu, Result.andThen_ok, run_sizeOf hie, if_neg hle', if_pos h0, Sem.run_pure]
      simp only [h1]
      rfl
  · obtain ⟨ys, h1, h2⟩ := hfill zv.cells
    refine ⟨ys, ?_, ?_⟩
    · rw [h2, Nat.zero_mul, List.take_zero, List.nil_append, List.drop_eq_nil_of_le, List.append_nil]
      simp [hn]
    · unfold Instr.buildSlice
      simp only [Sem.run_bind, run_underlying hu, Result.andThen_ok, run_sizeOf hie, if_neg hle', if_neg h0, Sem.run_pure, hzv]
      simp only [h1]
      rfl

set_option maxHeartbeats 400000 in
theorem byT_of {e : TypeId} {r q : List (List V)} (hb : byT e r q = true) : ∀ T, BTy.bb = some T → isByteRow (r ++ q) = true → e = T := fun T hT hc => by
  unfold byT at hb
  rw [hT] at hb
  simp only [Bool.or_eq_true, beq_iff_eq, Bool.and_eq_true, Bool.not_eq_true'] at hb
  rcases hb with hb | ⟨h1, h2⟩
  · exact hb
  · exfalso
    cases r with
    | nil => rw [List.nil_append, h2] at hc; cases hc
    | cons x r =>
      have : isByteRow (x :: r ++ q) = isByteRow (x :: r) := rfl
      rw [this, h1] at hc
      cases hc
theorem isByteRow_app {r q : List (List V)} (h : r ≠ []) : isByteRow (r ++ q) = isByteRow r := by
  cases r with
  | nil => exact absurd rfl h
  | cons x r => rfl
theorem eff_buildSlice (hI : InvP vars E m c w g h a) {o : Oper} {t e : TypeId} {n : Nat} {parts : Array (Nat × Operand)} (ho : o.op = .buildSlice t n parts) (hu : P.underlying t = some (.slice e))
    (hc : (parts.toList.map (·.1)) = List.range n ∧ (tzero P e).isSome = true ∧ 0 < tsize P e ∧ n * tsize P e ≤ 16777216 ∧ ((parts.toList.map fun p => cellsV (fzs (opd g p.2))).all fun r => r.length == tsize P e && r.all pure1) = true ∧ byT e [] (parts.toList.map fun p => cellsV (fzs (opd g p.2))) = true)
    (hd : ∀ t, o.dst = some t → t < E.nt) (hv : ∀ t, o.dst = some t → t ∉ vars) :
    Done P vars E w a o (.list .yes (parts.toList.map fun p => cellsV (fzs (opd g p.2)))) g h := by
  obtain ⟨c1, c2, c3, c4, c5, c6⟩ := hc
  have hn : parts.toList.length = n := by have := congrArg List.length c1; simpa using this
  have hall : ∀ p ∈ parts.toList, (cellsV (fzs (opd g p.2))).length = tsize P e ∧ ∀ v ∈ cellsV (fzs (opd g p.2)), pure1 v = true := fun p hp => by
    have := List.all_eq_true.1 c5 _ (List.mem_map.2 ⟨p, hp, rfl⟩)
    simpa using this
  have hrel : ∀ p ∈ parts.toList, R2 (VR1 m c w) (cellsV (fzs (opd g p.2))) (a.eval p.2).cells.toList := fun p hp => by
    refine cells_rel (hI.core.opd p.2).fzs ?_
    have h2 := (hall p hp).2
    cases hq : fzs (opd g p.2) <;> first | rfl | (rw [hq] at h2; have := h2 _ (List.mem_singleton.2 rfl); first | exact this | cases this)
  obtain ⟨ie, hie⟩ : ∃ ie, P.info? e = some ie := by
    cases hie : P.info? e with
    | some ie => exact ⟨ie, rfl⟩
    | none => simp [tsize, Program.cellsOf, hie] at c3
  have hsz := size_of_info hie
  obtain ⟨z0, hz0⟩ := Option.isSome_iff_exists.1 c2
  obtain ⟨zv, hzv, rfl⟩ := tzero_spec (w := w) hz0
  have hflat : (((parts.map fun p => (p.1, a.eval p.2)).toList).map (fun q => q.2.cells.toList)) = parts.toList.map fun p => (a.eval p.2).cells.toList := by
    simp only [Array.toList_map, List.map_map]
    apply List.map_congr_left
    intro p _
    rfl
  have hlen2 : ∀ r ∈ parts.toList.map fun p => (a.eval p.2).cells.toList, r.length = tsize P e := fun r hr => by
    obtain ⟨p, hp, rfl⟩ := List.mem_map.1 hr
    rw [← (hrel p hp).1, (hall p hp).1]
  obtain ⟨arr, harr, hrun⟩ := run_build w (qs := parts.map fun p => (p.1, a.eval p.2)) hu hie hzv (by simpa using hn) (by
      simp only [Array.toList_map, List.map_map]
      have : (parts.toList.map ((fun x => x.1) ∘ fun x : Nat × Operand => (x.1, a.eval x.2))) = parts.toList.map (·.1) := by apply List.map_congr_left; intro p _; rfl
      rw [this, c1]) (fun q hq => by
      simp only [Array.toList_map, List.mem_map] at hq
      obtain ⟨p, hp, rfl⟩ := hq
      have := (hrel p hp).1
      rw [(hall p hp).1, hsz] at this
      simpa using this.symm) (by rw [← hsz]; exact c4)
  rw [hflat] at harr
  have hasz : arr.size = n * tsize P e := by
    rw [← Array.length_toList, harr, flat_len hlen2, List.length_map, hn]
  have hI' := grow_claim hI (arr := arr) (e := e) (f := (0, 0)) (w' := { w with heap := w.heap.push (.cells arr e) }) (n * tsize P e) rfl rfl rfl rfl (by rw [hasz]; exact Nat.le_refl _)
  have hheap : ({ w with heap := w.heap.push (.cells arr e) } : World).heap[w.heap.size]? = some (.cells arr e (0, 0)) := by simp
  have hlr : (parts.toList.map fun p => cellsV (fzs (opd g p.2))).length = n := by simpa using hn
  have hold : ∀ b, b < w.heap.size → ({ w with heap := w.heap.push (.cells arr e) } : World).heap[b]? = w.heap[b]? := fun b hb => by
    show (w.heap.push _)[b]? = _
    rw [Array.getElem?_push]; simp [show ¬ b = w.heap.size by omega]
  have hext : Ext c w (fun b => if b = w.heap.size then n * tsize P e else c b) { w with heap := w.heap.push (.cells arr e) } := by
    refine ⟨fun b => ?_, fun b o ho => ?_⟩
    · by_cases hb : b = w.heap.size
      · subst hb; rw [hI.core.c_zero (Nat.le_refl _)]; exact Nat.zero_le _
      · simp [hb]
    · rcases Nat.lt_or_ge b w.heap.size with hb | hb
      · exact cell_of_heap (hold b hb) o
      · rw [hI.core.c_zero hb] at ho; omega
  have hvp : VP (fun b => if b = w.heap.size then n * tsize P e else c b) { w with heap := w.heap.push (.cells arr e) } (.list .yes (parts.toList.map fun p => cellsV (fzs (opd g p.2)))) (.slice (some ⟨w.heap.size, 0, none⟩) n n) := by
    have := VP_new (k := .yes) (cap := n) (c := fun b => if b = w.heap.size then n * tsize P e else c b) (rows := parts.toList.map fun p => cellsV (fzs (opd g p.2))) hheap c3 (fun row hr => by
        obtain ⟨p, hp, rfl⟩ := List.mem_map.1 hr
        exact (hall p hp).1) (by rw [hlr]; exact Nat.le_refl _) (by simp only [hlr, if_true]; exact Nat.le_refl _) (fun i j row v hi hj => by
        simp only [List.getElem?_map, Option.map_eq_some_iff] at hi
        obtain ⟨p, hp, rfl⟩ := hi
        have hpm := List.mem_of_getElem? hp
        obtain ⟨x, hx, hvx⟩ := (hrel p hpm).get hj
        have hjl : j < tsize P e := by rw [← (hall p hpm).1]; exact (List.getElem?_eq_some_iff.1 hj).1
        refine ⟨x, ?_, (VP_of_pure hvx ((hall p hpm).2 v (List.mem_of_getElem? hj))).mono hext⟩
        rw [← Array.getElem?_toList, harr, flat_get hlen2 (i := i) (row := (a.eval p.2).cells.toList) (by simp [hp]) hjl]
        exact hx)
    rwa [hlr] at this
  have hdo : Does P w a o (.slice (some ⟨w.heap.size, 0, none⟩) n n) { w with heap := w.heap.push (.cells arr e) } := does_build ho hrun
  refine ⟨.slice (some ⟨w.heap.size, 0, none⟩) n n, { w with heap := w.heap.push (.cells arr e) }, m, fun b => if b = w.heap.size then n * tsize P e else c b, hdo, ?_⟩
  refine hI'.putOwn hd hvp ?_ ?_ ?_ (.inl hv)
  · refine .inr ⟨w.heap.size, n, arr, e, tsize P e, by rw [hlr], hheap, by rw [hlr]; exact Nat.le_refl _, ?_, hasz, c3, fun row hr => ?_, by simp [hlr], ?_, fun h0 => ?_, fun T hT hb => byT_of c6 T hT hb⟩
    · have : n * 1 ≤ n * tsize P e := Nat.mul_le_mul_left _ c3
      unfold maxLen
      omega
    · obtain ⟨p, hp, rfl⟩ := List.mem_map.1 hr
      exact (hall p hp).1
    · intro hb
      obtain ⟨i, hi, hb⟩ := List.getElem_of_mem hb
      have := hI.core.m_lt (List.getElem?_eq_getElem hi)
      omega
    · have := congrArg List.length h0
      rw [hlr] at this
      simpa using this
  · intro l r' x' b hl hb hb'
    cases hb
    have hl' : At m w g h a l r' x' := by
      cases l with
      | slot t => exact hl
      | cell i j =>
        obtain ⟨cs, b, k1, k2, k3, k4⟩ := hl
        exact ⟨cs, b, k1, k2, k3, by rw [← cell_of_heap (hold b (hI.core.m_lt k3))]; exact k4⟩
    exact absurd ((hI.core.own l r' x' hl').lt hb').1 (Nat.lt_irrefl _)
  · intro b hb
    cases hb
    exact .inl hI.fr.size

end
end Go.Lift
end
