/- The lifting, sixth part: operators of two operands; all pure operations together. -/
import Derived.Test.YtedlleekcinbcaaLiftE
namespace Go.Lift
set_option linter.unusedVariables false
set_option linter.unusedSimpArgs false
set_option linter.unusedSectionVars false
variable [GTab]

section
variable {P : Program} {vars : List Nat} {m : List Nat} {c : Cl} {w : World} {g : Env} {h : Heap} {a : Act}

theorem run_eqGuard_int (op : BinOp) (t : TypeId) (x y : Operand) (k k' : IntKind) (p q : Int) : (eqGuard op t x y (.int k p) (.int k' q)).run P w = .ok () w := by
  cases op <;> simp [eqGuard]
theorem run_eqGuard_string (op : BinOp) (t : TypeId) (x y : Operand) (p q : ByteArray) : (eqGuard op t x y (.string p) (.string q)).run P w = .ok () w := by
  cases op <;> simp [eqGuard]

theorem binS_run {op : BinOp} {t : TypeId} {p q r : Value} (hr : binS op p q = some r) : (binOp op t p q).run P w = .ok r w ∧ (∀ x y, (eqGuard op t x y p q).run P w = .ok () w) := by
  unfold binS at hr
  split at hr
  · rename_i k u k' v
    refine ⟨?_, fun x y => run_eqGuard_int op t x y k k' u v⟩
    split at hr
    · split at hr
      · rename_i h0; cases hr; simp [binOp, Op.shift, show ¬ v < 0 by omega]
      · cases hr
    · split at hr
      · rename_i h0; cases hr; simp [binOp, Op.shift, show ¬ v < 0 by omega]
      · cases hr
    · rename_i h1 h2
      split at hr
      · rename_i hk
        subst hk
        cases op <;> simp only [Option.some.injEq] at hr
        case quo =>
          split at hr
          · cases hr
          · rename_i h0; cases hr; simp [binOp, Op.intDiv, h0]
        case rem =>
          split at hr
          · cases hr
          · rename_i h0; cases hr; simp [binOp, Op.intDiv, h0]
        all_goals first
          | (subst hr; simp [binOp, Op.intArith, Op.intBits, Op.intCmp]; done)
          | (subst hr; simp [binOp, Op.intArith, Op.intBits, Op.intCmp]; rfl)
          | exact absurd rfl h1
          | exact absurd rfl h2
          | cases hr
      · cases hr
  · rename_i p q
    refine ⟨?_, fun x y => run_eqGuard_string op t x y p q⟩
    cases op <;> simp only [Option.some.injEq] at hr
    case add =>
      split at hr
      · rename_i hb
        cases hr
        have : ¬ (IntKind.i64.max : Int) < ((p.size + q.size : Nat) : Int) := by
          have : (IntKind.i64.max : Int) = 9223372036854775807 := by decide
          rw [this]
          omega
        simp only [binOp, Op.stringOp]
        rw [if_neg (by simpa using this)]
        rfl
      · cases hr
    all_goals first
      | (subst hr; simp [binOp, Op.stringOp]; done)
      | cases hr
  · cases hr

theorem binT_run {op : BinOp} {t : TypeId} {p q r : Value} (hr : binT P op t p q = some r) : (binOp op t p q).run P w = .ok r w ∧ (∀ x y, (eqGuard op t x y p q).run P w = .ok () w) := by
  unfold binT at hr
  split at hr
  · rename_i x y
    split at hr
    · rename_i hu
      refine ⟨?_, fun x y => by cases op <;> simp [eqGuard]⟩
      have hq : (Op.equal t (.bool x) (.bool y)).run P w = .ok (x == y) w := by
        have h1 : ∀ d, (Op.equalIn (d + 1) t (.bool x) (.bool y)).run P w = .ok (x == y) w := by
          intro d
          unfold Op.equalIn
          simp [run_underlying hu]
        exact h1 9999
      split at hr
      · cases hr
        show (do pure (.bool (← Op.equal t (.bool x) (.bool y)))  : Sem Value).run P w = _
        simp only [Sem.run_bind, hq, Result.andThen_ok]
        rfl
      · cases hr
        show (do pure (.bool (!(← Op.equal t (.bool x) (.bool y))))  : Sem Value).run P w = _
        simp only [Sem.run_bind, hq, Result.andThen_ok]
        rfl
      · cases hr
    · cases hr
  · exact binS_run hr

/-- the same of the machine's cells -/
def eqL : List Nat → List Value → List Value → Option Bool
  | [], [], [] => some true
  | k :: ks, x :: l, y :: m =>
    match eqS k x y, eqL ks l m with
    | some a, some b => some (a && b)
    | _, _ => none
  | _, _, _ => none

theorem eqCells_eqL : ∀ {ks : List Nat} {cs ds : List V} {xs ys : List Value} {r : Bool}, R2 (VR1 m c w) cs xs → R2 (VR1 m c w) ds ys → eqCells ks cs ds = some r → eqL ks xs ys = some r := by
  intro ks
  induction ks with
  | nil =>
    intro cs ds xs ys r h1 h2 he
    unfold eqCells at he
    split at he
    · have hx : xs = [] := List.eq_nil_of_length_eq_zero h1.1.symm
      have hy : ys = [] := List.eq_nil_of_length_eq_zero h2.1.symm
      subst hx; subst hy
      exact he
    · rename_i h0; cases h0
    · cases he
  | cons k ks ih =>
    intro cs ds xs ys r h1 h2 he
    unfold eqCells at he
    split at he
    · rename_i h0; cases h0
    · rename_i k' ks' x l y q h0
      cases h0
      match xs, ys, h1, h2 with
      | [], _, h1, _ => simp [R2] at h1
      | _ :: _, [], _, h2 => simp [R2] at h2
      | x' :: xs, y' :: ys, h1, h2 =>
        have e1 : x' = x := h1.head
        have e2 : y' = y := h2.head
        subst e1; subst e2
        split at he
        · rename_i b b' hb hb'
          have := ih h1.tail h2.tail hb'
          simp only [eqL, hb, this]
          exact he
        · cases he
    · cases he

theorem eqL_len : ∀ {ks : List Nat} {xs ys : List Value} {r : Bool}, eqL ks xs ys = some r → xs.length = ks.length ∧ ys.length = ks.length := by
  intro ks
  induction ks with
  | nil =>
    intro xs ys r he
    unfold eqL at he
    split at he
    · exact ⟨rfl, rfl⟩
    · rename_i h0; cases h0
    · cases he
  | cons k ks ih =>
    intro xs ys r he
    unfold eqL at he
    split at he
    · rename_i h0; cases h0
    · rename_i h0
      cases h0
      split at he
      · rename_i hb'
        have := ih hb'
        exact ⟨by simp [this.1], by simp [this.2]⟩
      · cases he
    · cases he

theorem eqL_append : ∀ {k1 k2 : List Nat} {xs ys : List Value} {r : Bool}, eqL (k1 ++ k2) xs ys = some r →
    ∃ a b, eqL k1 (xs.take k1.length) (ys.take k1.length) = some a ∧ eqL k2 (xs.drop k1.length) (ys.drop k1.length) = some b ∧ r = (a && b) := by
  intro k1
  induction k1 with
  | nil => intro k2 xs ys r he; exact ⟨true, r, by simp [eqL], by simpa using he, by simp⟩
  | cons k ks ih =>
    intro k2 xs ys r he
    rw [List.cons_append] at he
    unfold eqL at he
    split at he
    · rename_i h0; cases h0
    · rename_i k' ks' x l y q h0
      cases h0
      split at he
      · rename_i p p' hp hp'
        obtain ⟨u, v, hu, hv, rfl⟩ := ih hp'
        cases he
        refine ⟨p && u, v, ?_, by simpa using hv, by simp [Bool.and_assoc]⟩
        simp [eqL, hp, hu]
      · cases he
    · cases he

def valOf (P : Program) (t : TypeId) (xs : List Value) : Value := if ttag P t = some true then .agg xs.toArray else xs.headD undef

theorem run_part_val {t : TypeId} {d : TypeDesc} (hd : P.underlying t = some d) {xs : List Value} {off : Nat} (h1 : ttag P t = some false → tsize P t = 1 ∧ off < xs.length) :
    (part t xs.toArray off).run P w = .ok (valOf P t ((xs.drop off).take (tsize P t))) w := by
  obtain ⟨i, hi⟩ := info_of_underlying hd
  unfold valOf
  cases hr : d.isRow
  · have ht : ttag P t = some false := by
      unfold ttag; rw [hd]; cases d <;> first | rfl | (simp [TypeDesc.isRow] at hr)
    obtain ⟨h0, hlt⟩ := h1 ht
    rw [ht]
    simp [part, run_isAgg_row hd, hr, List.head?_take, List.head?_drop, hlt, h0]
  · have ht : ttag P t = some true := by
      unfold ttag; rw [hd]; cases d <;> first | rfl | (simp [TypeDesc.isRow] at hr)
    rw [ht]
    simp [part, run_isAgg_row hd, hr, sizeOf, typeInfo, hi, size_of_info hi, List.extract]

theorem flatK_leaf {d : Nat} {t : TypeId} {l : List Nat} (hf : flatK P d t = some l) (ht : ttag P t = some false) : l.length = 1 := by
  cases d with
  | zero => cases hf
  | succ d =>
    unfold flatK at hf
    unfold ttag at ht
    split at hf
    · cases hf; rfl
    · cases hf; rfl
    · cases hf; rfl
    · rename_i hu; rw [hu] at ht; cases ht
    · rename_i hu; rw [hu] at ht; cases ht
    · cases hf
theorem flatK_under {d : Nat} {t : TypeId} {l : List Nat} (hf : flatK P d t = some l) : ∃ u, P.underlying t = some u := by
  cases d with
  | zero => cases hf
  | succ d =>
    unfold flatK at hf
    split at hf <;> first | exact ⟨_, by assumption⟩ | cases hf

theorem eqL_nil {xs ys : List Value} {r : Bool} (he : eqL [] xs ys = some r) : r = true := by
  cases xs <;> cases ys <;> simp [eqL] at he
  exact he

theorem eqL_one {k : Nat} {xs ys : List Value} {r : Bool} (he : eqL [k] xs ys = some r) : ∃ x y, xs = [x] ∧ ys = [y] ∧ eqS k x y = some r := by
  unfold eqL at he
  split at he
  · rename_i h0; cases h0
  · rename_i k' ks' x l y q h0
    cases h0
    split at he
    · rename_i u v hu hv
      have := eqL_len hv
      have hl : l = [] := List.eq_nil_of_length_eq_zero this.1
      have hq : q = [] := List.eq_nil_of_length_eq_zero this.2
      subst hl; subst hq
      cases hv; cases he
      exact ⟨x, y, rfl, rfl, by simpa using hu⟩
    · cases he
  · cases he

theorem run_all_list (f : Nat → Sem Bool) (b : Nat → Bool) : ∀ (l : List Nat), (∀ i ∈ l, (f i).run P w = .ok (b i) w) →
    (do
      for i in l do
        if !(← f i) then return false
      pure true : Sem Bool).run P w = .ok (l.all b) w := by
  intro l
  induction l with
  | nil => intro _; rfl
  | cons i l ih =>
    intro hf
    have h1 := hf i (by simp)
    have h2 := ih (fun j hj => hf j (by simp [hj]))
    simp only [List.forIn_cons, Sem.run_bind, h1, Result.andThen_ok, Sem.run_ite, Sem.run_pure] at h2 ⊢
    cases hb : b i
    · simp [hb]
    · simp only [hb, Bool.not_true, Bool.false_eq_true, if_false, Result.andThen_ok, List.all_cons, Bool.true_and]
      exact h2

theorem run_forIn_all {n : Nat} (f : Nat → Sem Bool) (b : Nat → Bool) (hf : ∀ i, i < n → (f i).run P w = .ok (b i) w) :
    (do
      for i in [0:n] do
        if !(← f i) then return false
      pure true : Sem Bool).run P w = .ok ((List.range n).all b) w := by
  have := run_all_list (P := P) (w := w) f b (List.range n) (fun i hi => hf i (List.mem_range.1 hi))
  simp only [Std.Legacy.Range.forIn_eq_forIn_range', Std.Legacy.Range.size, Nat.sub_zero, Nat.add_sub_cancel, Nat.div_one] at this ⊢
  rw [← List.range_eq_range']
  exact this

/-- a part of two structs or arrays, compared -/
theorem part_run {d n o : Nat} {t : TypeId} {l : List Nat} (hf : flatK P d t = some l) (hs : tsize P t = l.length) {xs ys : List Value} {r : Bool}
    (he : eqL l ((xs.drop o).take l.length) ((ys.drop o).take l.length) = some r)
    (ih : ∀ {xs ys : List Value} {r : Bool}, eqL l xs ys = some r → (Op.equalIn n t (valOf P t xs) (valOf P t ys)).run P w = .ok r w) :
    ∃ x y, (part t xs.toArray o).run P w = .ok x w ∧ (part t ys.toArray o).run P w = .ok y w ∧ (Op.equalIn n t x y).run P w = .ok r w := by
  obtain ⟨u, hu⟩ := flatK_under hf
  have hl := eqL_len he
  have hb : ∀ zs : List Value, ((zs.drop o).take l.length).length = l.length → ttag P t = some false → tsize P t = 1 ∧ o < zs.length := fun zs hz ht => by
    have h1 := flatK_leaf hf ht
    rw [h1] at hz
    simp only [List.length_take, List.length_drop] at hz
    exact ⟨by omega, by omega⟩
  have hx := run_part_val (P := P) (w := w) hu (hb xs hl.1)
  have hy := run_part_val (P := P) (w := w) hu (hb ys hl.2)
  rw [hs] at hx hy
  exact ⟨_, _, hx, hy, ih he⟩

theorem fields_run {d n : Nat} (ih : ∀ {t : TypeId} {l : List Nat}, flatK P d t = some l → ∀ {xs ys : List Value} {r : Bool}, eqL l xs ys = some r → (Op.equalIn n t (valOf P t xs) (valOf P t ys)).run P w = .ok r w) (xs ys : List Value) :
    ∀ (fs : List Field) (o : Nat) (ks : List Nat) (r : Bool), flatFs (flatK P d) fs o = some ks → (∀ f ∈ fs, ∀ l, flatK P d f.type = some l → tsize P f.type = l.length) → eqL ks (xs.drop o) (ys.drop o) = some r →
    (Op.eqFields n xs.toArray ys.toArray fs).run P w = .ok r w := by
  intro fs
  induction fs with
  | nil => intro o ks r hf _ he; cases hf; rw [eqL_nil he]; rfl
  | cons f fs ihf =>
    intro o ks r hf hs he
    unfold flatFs at hf
    split at hf
    · rename_i hb
      split at hf
      · rename_i l hl
        split at hf
        · rename_i l' hl'
          cases hf
          obtain ⟨p, q, hp, hq, rfl⟩ := eqL_append he
          obtain ⟨x, y, hx, hy, hxy⟩ := part_run hl (hs f (by simp) l hl) hp (fun h => ih hl h)
          have := ihf (o + l.length) l' q hl' (fun f hf => hs f (by simp [hf])) (by simpa [List.drop_drop] using hq)
          unfold Op.eqFields
          rw [if_pos hb.2, hb.1]
          simp only [Sem.run_bind, hx, hy, hxy, Result.andThen_ok, Sem.run_ite, this]
          cases p <;> simp
        · cases hf
      · cases hf
    · cases hf

theorem flat_run : ∀ (d : Nat) {t : TypeId} {l : List Nat}, flatK P d t = some l → ∀ n, d ≤ n → ∀ {xs ys : List Value} {r : Bool}, eqL l xs ys = some r →
    (Op.equalIn n t (valOf P t xs) (valOf P t ys)).run P w = .ok r w := by
  intro d
  induction d with
  | zero => intro t l hf; cases hf
  | succ d ih =>
    intro t l hf n hn xs ys r he
    obtain ⟨n, rfl⟩ : ∃ k, n = k + 1 := ⟨n - 1, by omega⟩
    unfold flatK at hf
    split at hf
    · rename_i hu
      cases hf
      obtain ⟨x, y, rfl, rfl, hs⟩ := eqL_one he
      have ht : ttag P t = some false := by unfold ttag; rw [hu]
      simp only [valOf, ht]
      unfold eqS at hs
      split at hs
      · cases hs; simp [Op.equalIn, run_underlying hu]
      · rename_i h0; cases h0
      · rename_i h0; cases h0
      · cases hs
    · rename_i k hu
      cases hf
      obtain ⟨x, y, rfl, rfl, hs⟩ := eqL_one he
      have ht : ttag P t = some false := by unfold ttag; rw [hu]
      simp only [valOf, ht]
      unfold eqS at hs
      split at hs
      · rename_i h0; cases h0
      · split at hs
        · rename_i hk; cases hs; subst hk; simp [Op.equalIn, run_underlying hu]
        · cases hs
      · rename_i h0; cases h0
      · cases hs
    · rename_i hu
      cases hf
      obtain ⟨x, y, rfl, rfl, hs⟩ := eqL_one he
      have ht : ttag P t = some false := by unfold ttag; rw [hu]
      simp only [valOf, ht]
      unfold eqS at hs
      split at hs
      · rename_i h0; cases h0
      · rename_i h0; cases h0
      · cases hs; simp [Op.equalIn, run_underlying hu, beq_toListBytes]
      · cases hs
    · rename_i k e hu
      split at hf
      · rename_i l0 hl0
        split at hf
        · rename_i hsz
          cases hf
          have ht : ttag P t = some true := by unfold ttag; rw [hu]
          obtain ⟨ue, hue⟩ := flatK_under hl0
          obtain ⟨ie, hie⟩ := info_of_underlying hue
          simp only [valOf, ht, if_true]
          have hall : ∃ b : Nat → Bool, (∀ i, i < k → eqL l0 ((xs.drop (i * l0.length)).take l0.length) ((ys.drop (i * l0.length)).take l0.length) = some (b i)) ∧ r = (List.range k).all b := by
            clear hu
            induction k generalizing xs ys r with
            | zero =>
              refine ⟨fun _ => true, fun i hi => by omega, ?_⟩
              simp only [List.replicate_zero, List.flatten_nil] at he
              rw [eqL_nil he]
              rfl
            | succ k ihk =>
              rw [List.replicate_succ, List.flatten_cons] at he
              obtain ⟨p, q, hp, hq, rfl⟩ := eqL_append he
              obtain ⟨b, hb, rfl⟩ := ihk hq
              refine ⟨fun i => if i = 0 then p else b (i - 1), fun i hi => ?_, ?_⟩
              · cases i with
                | zero => simpa using hp
                | succ i =>
                  have := hb i (by omega)
                  simp only [List.drop_drop] at this
                  simp only [Nat.add_one_ne_zero, if_false, Nat.add_sub_cancel]
                  rw [show (i + 1) * l0.length = l0.length + i * l0.length by rw [Nat.add_mul]; omega]
                  exact this
              · rw [List.range_succ_eq_map, List.all_cons, List.all_map]
                simp
                rfl
          obtain ⟨b, hb, rfl⟩ := hall
          have hrun := run_forIn_all (P := P) (w := w) (n := k) (fun i => do Op.equalIn n e (← part e xs.toArray (i * l0.length)) (← part e ys.toArray (i * l0.length))) b (fun i hi => by
            obtain ⟨x, y, hx, hy, hxy⟩ := part_run (n := n) (w := w) hl0 hsz (hb i hi) (fun h => ih hl0 n (by omega) h)
            simp [hx, hy, hxy])
          unfold Op.equalIn
          simp only [Sem.run_bind, run_underlying hu, Result.andThen_ok, run_sizeOf hie, ← size_of_info hie, hsz]
          simpa using hrun
        · cases hf
      · cases hf
    · rename_i fs hu
      split at hf
      · rename_i hb
        have ht : ttag P t = some true := by unfold ttag; rw [hu]
        simp only [valOf, ht, if_true]
        have hfo : P.fieldsOf t = fs := by unfold Program.fieldsOf; rw [hu]
        rw [run_equalIn_struct w n t xs.toArray ys.toArray (by rw [hfo]; exact hu) hb.1, hfo]
        refine fields_run (fun {_ _} h {_ _ _} he => ih h n (by omega) he) xs ys fs.toList 0 l r hf (fun f hm l hl => ?_) (by simpa using he)
        have := List.all_eq_true.1 hb.2 f hm
        rw [hl] at this
        simpa using this
      · cases hf
    · cases hf

theorem flatK_noGuard : ∀ (d : Nat) {t : TypeId} {l : List Nat}, flatK P d t = some l → ∀ n, d ≤ n → P.eqGuardType n t = false := by
  intro d
  induction d with
  | zero => intro t l hf; cases hf
  | succ d ih =>
    intro t l hf n hn
    obtain ⟨n, rfl⟩ : ∃ k, n = k + 1 := ⟨n - 1, by omega⟩
    unfold flatK at hf
    unfold Program.eqGuardType
    split at hf
    · rename_i hu; rw [hu]
    · rename_i hu; rw [hu]
    · rename_i hu; rw [hu]
    · rename_i hu
      rw [hu]
      split at hf
      · rename_i l0 hl0
        exact ih hl0 n (by omega)
      · cases hf
    · rename_i fs hu
      rw [hu]
      split at hf
      · rename_i hb
        simp only [Array.any_eq_false']
        intro f hm
        have := List.all_eq_true.1 hb.2 f (by simpa using hm)
        split at this
        · rename_i l hl
          rw [ih hl n (by omega)]
          simp
        · cases this
      · cases hf
    · cases hf

theorem pure_binOp (hC : Core vars m c w g h a) {o : Oper} {op : BinOp} {t u : TypeId} {x y : Operand} (ho : o.op = .binOp op t x y u) {v : V} (hv : evPure P vars (g, h) (.binOp op t x y u) = some v) :
    Fine P vars m c w g h a o v := by
  have hx := hC.opd x
  have hy := hC.opd y
  simp only [evPure] at hv
  split at hv
  · rename_i p q hp hq
    rw [hp] at hx
    rw [hq] at hy
    have hx' : a.eval x = p := hx
    have hy' : a.eval y = q := hy
    simp only [Option.map_eq_some_iff] at hv
    obtain ⟨r, hr, rfl⟩ := hv
    obtain ⟨h1, h2⟩ := binT_run (P := P) (w := w) (t := t) hr
    exact ⟨r, yields_of (s := do eqGuard op t x y (a.eval x) (a.eval y); binOp op t (a.eval x) (a.eval y)) (by simp [execOp, ho]) (by simp [hx', hy', h1, h2]), rfl, TagOK.bare rfl⟩
  · rename_i cs ds hp hq
    rw [hp] at hx
    rw [hq] at hy
    obtain ⟨xs, hx', hrx⟩ := hx
    obtain ⟨ys, hy', hry⟩ := hy
    split at hv
    · rename_i ks hks
      unfold flatOf at hks
      split at hks
      · rename_i hd
        have hg := flatK_noGuard 20 hks P.depth hd.1
        have key : ∀ r, eqCells ks cs ds = some r → (Op.equalIn 10000 t (.agg xs) (.agg ys)).run P w = .ok r w := fun r hr => by
          have := flat_run (w := w) 20 hks 10000 (by omega) (eqCells_eqL hrx hry hr)
          simpa [valOf, hd.2] using this
        split at hv
        · simp only [Option.map_eq_some_iff] at hv
          obtain ⟨r, hr, rfl⟩ := hv
          refine ⟨.bool r, yields_of (s := do eqGuard .eql t x y (a.eval x) (a.eval y); binOp .eql t (a.eval x) (a.eval y)) (by simp [execOp, ho]) ?_, rfl, TagOK.bare rfl⟩
          simp only [hx', hy', Sem.run_bind, run_eqGuard_agg w .eql t x y xs ys hg, Result.andThen_ok, run_eql_struct, key r hr]
        · simp only [Option.map_eq_some_iff] at hv
          obtain ⟨r, hr, rfl⟩ := hv
          refine ⟨.bool !r, yields_of (s := do eqGuard .neq t x y (a.eval x) (a.eval y); binOp .neq t (a.eval x) (a.eval y)) (by simp [execOp, ho]) ?_, rfl, TagOK.bare rfl⟩
          simp only [hx', hy', Sem.run_bind, run_eqGuard_agg w .neq t x y xs ys hg, Result.andThen_ok, run_neq_struct, key r hr]
        · cases hv
      · cases hks
    · cases hv
  · cases hv

/-- all of them -/
theorem pure_ok (hC : Core vars m c w g h a) {o : Oper} {v : V} (hv : evPure P vars (g, h) o.op = some v) : Fine P vars m c w g h a o v := by
  generalize hop : o.op = op at hv
  cases op with
  | move x => exact pure_move hC hop hv
  | pick k x y => exact pure_pick hC hop hv
  | build t parts => exact pure_build hC hop hv
  | load t x => exact pure_load hC hop hv
  | nilCheck x => exact pure_nilCheck hC hop hv
  | binOp op t x y u => exact pure_binOp hC hop hv
  | unOp op t x => exact pure_unOp hC hop hv
  | convert s d x => exact pure_convert hC hop hv
  | fieldAddr t x f => exact pure_fieldAddr hC hop hv
  | field t x f => exact pure_field hC hop hv
  | indexAddr t x i => exact pure_indexAddr hC hop hv
  | index t x i => exact pure_index hC hop hv
  | slice t x lo hi mx => exact pure_slice hC hop hv
  | extract x i => exact pure_extract hC hop hv
  | makeFunc fn first caps => exact pure_makeFunc hC hop hv
  | call k => exact pure_len hC hop hv
  | _ => cases hv

end
end Go.Lift
