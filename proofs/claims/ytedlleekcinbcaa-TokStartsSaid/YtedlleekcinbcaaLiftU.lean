/- The lifting, twenty-first part: from the evaluation of a law to its statement. -/
import Derived.Test.YtedlleekcinbcaaLiftT
import Derived.ProofKit
import Derived.JoinedCond
namespace Go.Lift
set_option linter.unusedVariables false
set_option linter.unusedSimpArgs false
set_option linter.unusedSectionVars false
open Go.ChangeShapes Go.WideShapes Go.RowKit

mutual
/-- what an argument of plain data is, as a value of the evaluation -/
inductive Ty (P : Program) : TypeId → List V → Prop
  | bool {t : TypeId} (b : Bool) : P.underlying t = some .bool → Ty P t [.v (.bool b)]
  | int {t : TypeId} (k : IntKind) (n : Int) : P.underlying t = some (.int k) → (Lit.int k n).wf = true → Ty P t [.v (.int k n)]
  | string {t : TypeId} (s : ByteArray) : P.underlying t = some .string → Ty P t [.v (.string s)]
  | slice {t e : TypeId} (rows : List (List V)) : P.underlying t = some (.slice e) → (∀ row ∈ rows, Ty P e row) → Ty P t [.list .no rows]
  | struct {t : TypeId} (fs : Array Field) (cells : List V) : P.underlying t = some (.struct fs) → TyFs P fs.toList cells → Ty P t cells
inductive TyFs (P : Program) : List Field → List V → Prop
  | nil : TyFs P [] []
  | cons {f : Field} {fs : List Field} {p q : List V} : Ty P f.type p → TyFs P fs q → TyFs P (f :: fs) (p ++ q)
end

mutual
/-- how many values and letters -/
def vsize : V → Nat
  | .v (.string s) => s.size + 1
  | .list _ rows => vsRows rows + 1
  | _ => 1
def vsRow : List V → Nat
  | [] => 0
  | v :: r => vsize v + vsRow r
def vsRows : List (List V) → Nat
  | [] => 0
  | r :: rs => vsRow r + vsRows rs
end

theorem vsRow_append (l r : List V) : vsRow (l ++ r) = vsRow l + vsRow r := by
  induction l with
  | nil => simp [vsRow]
  | cons x l ih => simp only [List.cons_append, vsRow, ih]; omega

def fieldsFlat (P : Program) (ts : List Nat) : Nat → List Field → Nat → Bool
  | o, [], n => o == n
  | o, f :: fs, n => ts.contains f.type && f.offset == o && fieldsFlat P ts (o + P.cellsOf f.type) fs n

def plainTy (P : Program) (ts : List Nat) (t : Nat) : Bool := match P.underlying t with
  | some .bool => true
  | some (.int _) => true
  | some .string => true
  | some (.slice e) => ts.contains e && decide (0 < P.cellsOf e)
  | some (.struct fs) => fieldsFlat P ts 0 fs.toList (P.cellsOf t)
  | _ => false

/-- a measure of readings that has the given one's equations -/
structure IsBulk {H : Type} (B : DataW H → Nat) (BA : List (DataW H) → Nat) : Prop where
  nil : BA [] = 0
  cons : ∀ d r, BA (d :: r) = B d + BA r
  str : ∀ b, B (.lit (.string b)) = b.length + 1
  bool : ∀ b, B (.lit (.bool b)) = 1
  int : ∀ k n, B (.lit (.int k n)) = 1
  none : B .nil = 1
  slice : ∀ e s, BA e + 1 ≤ B (.slice e s)
  agg : ∀ p, B (.agg p) = BA p + 1

theorem bulk_get {H : Type} {B : DataW H → Nat} {BA : List (DataW H) → Nat} (hB : IsBulk B BA) : ∀ (l : List (DataW H)) (rows : List (List V)), l.length = rows.length →
    (∀ (i : Nat) d row, l[i]? = some d → rows[i]? = some row → vsRow row ≤ B d) → vsRows rows ≤ BA l
  | [], [], _, _ => by simp [vsRows, hB.nil]
  | d :: l, row :: rows, hl, h => by
    have h0 := h 0 d row rfl rfl
    have h1 := bulk_get hB l rows (by simpa using hl) (fun i d' row' a b => h (i + 1) d' row' (by simpa using a) (by simpa using b))
    simp only [vsRows, hB.cons]
    omega

section
variable {H : Type} {enc : TypeId × Value → H} {P : Program} {w : World} {c : Cl}

/-- every old block is claimed whole -/
def wholeCl (w : World) : Cl := fun b => match w.heap[b]? with
  | some (.cells arr _ _) => arr.size
  | _ => 0

theorem cell_spot {a : Addr} {x : Value} (h : w.cell? a = some x) : a.spot = none ∧ a.off < wholeCl w a.block := by
  unfold World.cell? at h
  unfold wholeCl
  split at h
  · rename_i arr _ _ hb
    rw [hb]
    split at h
    · cases h
    · rename_i hs
      refine ⟨by simpa using hs, ?_⟩
      exact (Array.getElem?_eq_some_iff.1 h).1
  · cases h

theorem open_fields {B : DataW H → Nat} {BA : List (DataW H) → Nat} (hB : IsBulk B BA) {ts : List Nat} {fuel n : Nat} {cs : List Value}
    (ih : ∀ t cs d p, ts.contains t = true → DataW.trod enc P w 0 (fun _ => true) true fuel t cs = some (d, p) → ∃ vs, R2 (VP (wholeCl w) w) vs cs ∧ Ty P t vs ∧ vsRow vs ≤ B d) :
    ∀ (fs : List Field) (o : Nat) (xs : List (DataW H × List MemPlace)), fieldsFlat P ts o fs n = true → cs.length = n → xs.length = fs.length →
      (∀ (i : Nat) (f : Field), fs[i]? = some f → DataW.trod enc P w 0 (fun _ => true) true fuel f.type ((cs.drop f.offset).take (P.cellsOf f.type)) = xs[i]?) →
      (∀ (i : Nat) (f : Field), fs[i]? = some f → f.offset + P.cellsOf f.type ≤ n) →
      ∃ vs, R2 (VP (wholeCl w) w) vs (cs.drop o) ∧ TyFs P fs vs ∧ vsRow vs ≤ BA (xs.map (·.1))
  | [], o, xs, hf, hc, hx, _, _ => by
    simp only [fieldsFlat, beq_iff_eq] at hf
    refine ⟨[], ?_, .nil, by simp [vsRow]⟩
    rw [List.drop_eq_nil_of_le (by omega)]
    exact R2.nil
  | f :: fs, o, x :: xs, hf, hc, hx, hg, hin => by
    simp only [fieldsFlat, Bool.and_eq_true, beq_iff_eq] at hf
    obtain ⟨⟨hm, ho⟩, hr⟩ := hf
    have h0 := hg 0 f rfl
    simp only [List.getElem?_cons_zero] at h0
    obtain ⟨p, hp1, hp2, hp3⟩ := ih f.type _ x.1 x.2 hm h0
    obtain ⟨q, hq1, hq2, hq3⟩ := open_fields hB ih fs _ xs hr hc (by simpa using hx) (fun i g h => hg (i + 1) g (by simpa using h)) (fun i g h => hin (i + 1) g (by simpa using h))
    refine ⟨p ++ q, ?_, .cons hp2 hq2, ?_⟩
    · have : cs.drop o = (cs.drop f.offset).take (P.cellsOf f.type) ++ cs.drop (o + P.cellsOf f.type) := by
        rw [← ho, ← List.drop_drop, List.take_append_drop]
      rw [this]
      exact hp1.append hq1
    · rw [vsRow_append, List.map_cons, hB.cons]
      omega

theorem flat_in {ts : List Nat} {n : Nat} : ∀ {fs : List Field} {o : Nat}, fieldsFlat P ts o fs n = true → o ≤ n ∧ ∀ (i : Nat) (f : Field), fs[i]? = some f → f.offset + P.cellsOf f.type ≤ n
  | [], o, h => by
    simp only [fieldsFlat, beq_iff_eq] at h
    exact ⟨by omega, fun i f hf => by simp at hf⟩
  | f :: fs, o, h => by
    simp only [fieldsFlat, Bool.and_eq_true, beq_iff_eq] at h
    obtain ⟨⟨_, ho⟩, hr⟩ := h
    obtain ⟨h1, h2⟩ := flat_in hr
    refine ⟨by omega, fun i g hg => ?_⟩
    cases i with
    | zero => simp at hg; subst hg; omega
    | succ i => exact h2 i g (by simpa using hg)

/-- AN ARGUMENT OPENED -/
theorem open_ty {B : DataW H → Nat} {BA : List (DataW H) → Nat} (hB : IsBulk B BA) {ts : List Nat} (hts : ts.all (plainTy P ts) = true) :
    ∀ (fuel : Nat) (t : TypeId) (cs : List Value) (d : DataW H) (p : List MemPlace), ts.contains t = true → DataW.trod enc P w 0 (fun _ => true) true fuel t cs = some (d, p) →
      ∃ vs, R2 (VP (wholeCl w) w) vs cs ∧ Ty P t vs ∧ vsRow vs ≤ B d := by
  intro fuel
  induction fuel with
  | zero => intro t cs d p _ h; simp [DataW.trod] at h
  | succ fuel ih =>
    intro t cs d p ht h
    have hp : plainTy P ts t = true := List.all_eq_true.1 hts t (by simpa using ht)
    unfold plainTy at hp
    split at hp
    · rename_i hu
      obtain ⟨b, rfl, hx⟩ := DataW.trod_bool hu h
      cases hx
      exact ⟨[.v (.bool b)], .cons (.v _ rfl) .nil, .bool b hu, by simp [vsRow, vsize, hB.bool]⟩
    · rename_i k hu
      obtain ⟨n, rfl, hx, hw⟩ := DataW.trod_int hu h
      cases hx
      exact ⟨[.v (.int k n)], .cons (.v _ rfl) .nil, .int k n hu hw, by simp [vsRow, vsize, hB.int]⟩
    · rename_i hu
      obtain ⟨s, rfl, hx, hw⟩ := DataW.trod_string hu h
      cases hx
      refine ⟨[.v (.string s)], .cons (.v _ rfl) .nil, .string s hu, ?_⟩
      rw [hB.str]
      simp [vsRow, vsize]
    · rename_i e hu
      simp only [Bool.and_eq_true, decide_eq_true_eq] at hp
      rcases DataW.trod_slice hu h with ⟨rfl, hx⟩ | ⟨a, len, cap, elems, rest, n, hn, rfl, hx, _, hl, hm, hlen, hel, _, _⟩
      · cases hx
        exact ⟨[.list .no []], .cons (.empty _ _ _) .nil, .slice [] hu (by simp), by simp [vsRow, vsize, vsRows, hB.none]⟩
      · obtain rfl : fuel = n := by omega
        cases hx
        have each : ∀ i : Nat, i < len → ∃ r : List V × List Value, w.cells? 0 (a.add (i * P.cellsOf e)) (P.cellsOf e) = some r.2 ∧ R2 (VP (wholeCl w) w) r.1 r.2 ∧ Ty P e r.1 ∧
            ∀ y, elems[i]? = some y → vsRow r.1 ≤ B y.1 := by
          intro i hi
          have hy := hel i hi
          have hi' : i < elems.length := by omega
          rw [List.getElem?_eq_getElem hi'] at hy
          obtain ⟨cs', h1, h2⟩ := Option.bind_eq_some_iff.1 hy
          obtain ⟨vs, g1, g2, g3⟩ := ih e cs' elems[i].1 elems[i].2 (by simpa using hp.1) h2
          refine ⟨(vs, cs'), h1, g1, g2, fun y hy => ?_⟩
          rw [List.getElem?_eq_getElem hi'] at hy
          cases hy
          exact g3
        have hch : ∃ F : Nat → List V × List Value, ∀ i, i < len → w.cells? 0 (a.add (i * P.cellsOf e)) (P.cellsOf e) = some (F i).2 ∧ R2 (VP (wholeCl w) w) (F i).1 (F i).2 ∧ Ty P e (F i).1 ∧
            ∀ y, elems[i]? = some y → vsRow (F i).1 ≤ B y.1 := by
          classical
          refine ⟨fun i => if hi : i < len then Classical.choose (each i hi) else ([], []), fun i hi => ?_⟩
          simp only [dif_pos hi]
          exact Classical.choose_spec (each i hi)
        obtain ⟨F, hF⟩ := hch
        have hget : ∀ (i : Nat) (row : List V), ((List.range len).map fun i => (F i).1)[i]? = some row → i < len ∧ row = (F i).1 := by
          intro i row hr
          simp only [List.getElem?_map, Option.map_eq_some_iff] at hr
          obtain ⟨j, hj, rfl⟩ := hr
          obtain ⟨hj1, rfl⟩ := List.getElem?_eq_some_iff.1 hj
          simp at hj1 ⊢
          exact hj1
        have hrows : ∀ row ∈ (List.range len).map fun i => (F i).1, Ty P e row := by
          intro row hr
          simp only [List.mem_map, List.mem_range] at hr
          obtain ⟨i, hi, rfl⟩ := hr
          exact (hF i hi).2.2.1
        have hbulk : vsRow [V.list .no ((List.range len).map fun i => (F i).1)] ≤ B (DataW.slice (elems.map (·.1)) (rest.map (·.1))) := by
          have := bulk_get hB (elems.map (·.1)) ((List.range len).map fun i => (F i).1) (by simp [hlen]) (fun i d row hd hr => by
            obtain ⟨hi, rfl⟩ := hget i row hr
            simp only [List.getElem?_map, Option.map_eq_some_iff] at hd
            obtain ⟨y, hy, rfl⟩ := hd
            exact (hF i hi).2.2.2 y hy)
          have h9 := hB.slice (elems.map (·.1)) (rest.map (·.1))
          simp only [vsRow, vsize]
          omega
        by_cases h0 : len = 0
        · subst h0
          exact ⟨[.list .no []], .cons (.empty _ _ _) .nil, .slice [] hu (by simp), by simpa using hbulk⟩
        · refine ⟨[.list .no ((List.range len).map fun i => (F i).1)], .cons ?_ .nil, .slice _ hu hrows, hbulk⟩
          have hcell : ∀ i j, i < len → j < P.cellsOf e → ∃ x, (F i).2[j]? = some x ∧ w.cell? ⟨a.block, a.off + i * P.cellsOf e + j, none⟩ = some x ∧ a.spot = none ∧ a.off + i * P.cellsOf e + j < wholeCl w a.block := by
            intro i j hi hj
            obtain ⟨h1, h2, h3⟩ := World.cells?_some (hF i hi).1
            have hx := h3 j hj
            have hj' : j < (F i).2.length := by omega
            rw [List.getElem?_eq_getElem hj'] at hx
            refine ⟨(F i).2[j], List.getElem?_eq_getElem hj', ?_⟩
            obtain ⟨hs, ho⟩ := cell_spot hx
            have hsp : a.spot = none := by
              -- the first cell's address is the slice's own
              obtain ⟨_, _, k3⟩ := World.cells?_some (hF 0 (by omega)).1
              have kx := k3 0 hp.2
              have kj : 0 < (F 0).2.length := by
                obtain ⟨_, k2, _⟩ := World.cells?_some (hF 0 (by omega)).1
                omega
              rw [List.getElem?_eq_getElem kj] at kx
              have := (cell_spot kx).1
              simpa [Addr.add] using this
            have hadr : (a.add (i * P.cellsOf e)).add j = ⟨a.block, a.off + i * P.cellsOf e + j, none⟩ := by
              obtain ⟨ab, ao, as⟩ := a
              simp only at hsp
              subst hsp
              unfold Addr.add
              by_cases e1 : i * P.cellsOf e = 0 <;> by_cases e2 : j = 0 <;> simp [e1, e2, Nat.add_assoc]
            rw [hadr] at hx ho
            exact ⟨hx, hsp, ho⟩
          obtain ⟨x0, _, _, hsp, _⟩ := hcell 0 0 (by omega) hp.2
          have hlen2 : ((List.range len).map fun i => (F i).1).length = len := by simp
          have hrec : ∀ (i j : Nat) (row : List V) (v : V), ((List.range len).map fun i => (F i).1)[i]? = some row → row[j]? = some v → j < P.cellsOf e ∧ w.cell? ⟨a.block, a.off + i * P.cellsOf e + j, none⟩ = some ((F i).2.getD j default) ∧ VP (wholeCl w) w v ((F i).2.getD j default) := by
            intro i j row v hr hv
            obtain ⟨hi, rfl⟩ := hget i row hr
            obtain ⟨_, k2, _⟩ := World.cells?_some (hF i hi).1
            have hj : j < P.cellsOf e := by
              have := (List.getElem?_eq_some_iff.1 hv).1
              rw [(hF i hi).2.1.1] at this
              omega
            obtain ⟨x, hx1, hx2, _, _⟩ := hcell i j hi hj
            have hx3 : (F i).2.getD j default = x := by simp [List.getD, hx1]
            rw [hx3]
            exact ⟨hj, hx2, (hF i hi).2.1.2 j v x hv hx1⟩
          have key := VP.list (c := wholeCl w) (w := w) .no ((List.range len).map fun i => (F i).1) a cap (P.cellsOf e) (fun i j => (F i).2.getD j default)
            (by intro he; have := congrArg List.length he; simp at this; omega) hp.2 hsp (by rw [hlen2]; exact hl)
            (by
              rw [hlen2]
              obtain ⟨_, _, _, _, hb⟩ := hcell (len - 1) (P.cellsOf e - 1) (by omega) (by omega)
              have e1 : len * P.cellsOf e = (len - 1) * P.cellsOf e + P.cellsOf e := by
                rw [← Nat.succ_mul, show (len - 1).succ = len by omega]
              omega)
            (fun i row hr => by
              obtain ⟨hi, rfl⟩ := hget i row hr
              obtain ⟨_, k2, _⟩ := World.cells?_some (hF i hi).1
              rw [(hF i hi).2.1.1]; omega)
            (fun i j row v hr hv => (hrec i j row v hr hv).2.1) (fun i j row v hr hv => (hrec i j row v hr hv).2.2)
          rw [hlen2] at key
          exact key
    · rename_i fs hu
      obtain ⟨xs, n, hn, hx, hcs, hxs, hg⟩ := DataW.trod_struct hu h
      obtain rfl : fuel = n := by omega
      cases hx
      obtain ⟨vs, h1, h2, h3⟩ := open_fields hB ih fs.toList 0 xs hp hcs (by simpa using hxs) (fun i f hf => hg i f (by simpa using hf)) (flat_in hp).2
      refine ⟨vs, by simpa using h1, .struct fs vs hu h2, ?_⟩
      rw [hB.agg]
      omega
    · cases hp

/-- an argument as one value: a struct of more cells than one, or of one, is an aggregate -/
def TyV (P : Program) (t : TypeId) (v : V) : Prop := match P.underlying t with
  | some (.struct _) => ∃ cs, v = .agg cs ∧ Ty P t cs
  | _ => Ty P t [v]

theorem VP.vr0 {m : List Nat} {v : V} {x : Value} (h : VP c w v x) : VR0 m c w v x := by
  cases h with
  | v x h => rfl
  | empty k ao cap => exact .empty k ao cap
  | list k rows a cap sz xs h1 h2 h3 h4 h5 h6 h7 h8 => exact .list k rows a cap sz xs h1 h2 h3 h4 h5 h6 h7 h8
theorem VP.vr1 {m : List Nat} {v : V} {x : Value} (h : VP c w v x) : VR1 m c w v x := by
  have h0 := h.vr0 (m := m)
  cases h with
  | v x h => exact h0
  | empty k ao cap => exact h0
  | list k rows a cap sz xs h1 h2 h3 h4 h5 h6 h7 h8 => exact h0
theorem VP.vrr {m : List Nat} {v : V} {x : Value} (h : VP c w v x) : VRr m c w v x := by
  have h0 := h.vr0 (m := m)
  cases h with
  | v x h => exact h0
  | empty k ao cap => exact h0
  | list k rows a cap sz xs h1 h2 h3 h4 h5 h6 h7 h8 => exact h0

/-- how many values and letters an argument holds -/
def asize : V → Nat
  | .agg cs => vsRow cs
  | v => vsize v
def asizes : List V → Nat
  | [] => 0
  | v :: r => asize v + asizes r
end

end Go.Lift
