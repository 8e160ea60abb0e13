/- The lifting, twenty-fourth part: a law of one row of numbers, of whatever length a process holds. -/
import Derived.Test.YtedlleekcinbcaaLiftV
import Derived.SizedLaws
namespace Go.Lift
set_option linter.unusedVariables false
set_option linter.unusedSimpArgs false
set_option linter.unusedSectionVars false
open Go.ChangeShapes Go.WideShapes Go.RowKit

mutual
/-- how many values and letters, but for a row's spare places -/
def tight {H : Type} : DataW H → Nat
  | .lit (.string bytes) => bytes.length + 1
  | .lit _ => 1
  | .nil => 1
  | .ptr d => tight d + 1
  | .slice elems _ => tightAll elems + 1
  | .agg parts => tightAll parts + 1
  | .iface _ d => tight d + 1
  | .map _ => 1
  | .held _ => 1
def tightAll {H : Type} : List (DataW H) → Nat
  | [] => 0
  | d :: r => tight d + tightAll r
end
theorem tight_isBulk (H : Type) : IsBulk (H := H) tight tightAll :=
  ⟨rfl, fun _ _ => rfl, fun _ => rfl, fun _ => rfl, fun _ _ => rfl, rfl, fun _ _ => Nat.le_refl _, fun _ => rfl⟩

theorem tightAll_ones {H : Type} : ∀ l : List (DataW H), (∀ d ∈ l, tight d = 1) → tightAll l = l.length
  | [], _ => rfl
  | d :: l, h => by
    have := tightAll_ones l fun x hx => h x (List.mem_cons_of_mem _ hx)
    show tight d + tightAll l = _
    rw [h d (List.mem_cons_self ..), this, List.length_cons]
    omega

section
variable [GTab]
variable {H : Type} {enc : TypeId × Value → H} {P : Program} {w : World}
theorem tight_row {t e : TypeId} {k : IntKind} (ht : P.underlying t = some (.slice e)) (he : P.underlying e = some (.int k)) {y : Value} {d : DataW H} {p : List MemPlace}
    (h : DataW.Trod enc P w 0 (fun _ => true) true t y d p) (hz : (DataW.weightsEach P [t] [d]).all (· ≤ reachBytes) = true) (hby : 0 < P.bytesOf e) : tight d ≤ reachBytes / P.bytesOf e + 1 := by
  obtain ⟨fuel, hf⟩ := h
  rcases DataW.trod_slice ht hf with ⟨_, hx⟩ | ⟨a, len, cap, elems, rest, n, hn, _, hx, _, _, _, hlen, hel, _, _⟩
  · cases hx
    exact Nat.succ_le_succ (Nat.zero_le _)
  · cases hx
    have h1 := sized_slice hz (j := 0) (t := t) (e := e) rfl rfl ht
    have h2 : tightAll (elems.map (·.1)) = (elems.map (·.1)).length := by
      refine tightAll_ones _ fun d hd => ?_
      obtain ⟨x, hx, rfl⟩ := List.mem_map.mp hd
      obtain ⟨i, hi, rfl⟩ := List.getElem_of_mem hx
      have h3 := hel i (by omega)
      rw [List.getElem?_eq_getElem hi] at h3
      obtain ⟨cs', _, h4⟩ := Option.bind_eq_some_iff.1 h3
      obtain ⟨m, _, h5, _⟩ := DataW.trod_int he h4
      rw [h5]
      rfl
    show tightAll (elems.map (·.1)) + 1 ≤ _
    rw [h2]
    have h6 : (elems.map (·.1)).length * P.bytesOf e ≤ reachBytes := Nat.le_trans (Nat.mul_le_mul_right _ (by omega)) h1
    exact Nat.succ_le_succ ((Nat.le_div_iff_mul_le hby).mpr h6)

theorem law_of_row {hints : Nat → Hint} {prim : Nat → Option (Nat → List V → Heap → Option (V × Heap))} (hm : P.follows .mixedOrders = true)
    (hprim : ∀ f p, prim f = some p → ∀ lo args h r h', lo ≤ h.length → p lo args h = some (r, h') → CallOK P lo f args h r h')
    {ts : List Nat} (hts : ts.all (plainTy P ts) = true) {fn : Func} {f bt : Nat}
    (hin : fn.params.toList.all ts.contains = true) (hrd : fn.params.toList.all (fun t => P.readableRec t && decide (t < P.types.size)) = true) (hlaid : laidOutB P = true)
    (hrt : fn.resultTypes = #[bt]) (hbt : P.underlying bt = some .bool)
    {s : ChangeSpec} (hv : s.vars = []) (hs : ∀ l : List (DataW H), l.length = fn.params.size → s.fn H l = { results := [.lit (.bool true)], args := l })
    {t e : TypeId} {k : IntKind} (hps : fn.params = #[t]) (ht : P.underlying t = some (.slice e)) (hee : P.underlying e = some (.int k)) (hby : 0 < P.bytesOf e)
    (he : ∀ vs, TysV P fn.params.toList vs → asizes vs ≤ reachBytes / P.bytesOf e + 1 → ev P hints prim 0 f vs [] = some (.v (.bool true), []))
    {W : World} (hG : GOK W) {args : Array Value} {ds gs : List (DataW H)} {before : List MemPlace} {fresh handsOn again : Bool}
    (hval : ∀ (j : Nat) t v, fn.params[j]? = some t → args[j]? = some v → Value.okWide P W .any 0 t v)
    (hW : DataW.Whole enc P fn.params.toList s.vars false W args.toList ds gs before)
    (hz : (DataW.weightsEach P (fn.params.toList ++ s.plain.varTypes P) (ds ++ gs)).all (· ≤ reachBytes) = true) :
    Calls P f args W fun e W' => ∃ v, e = .returned v ∧ s.post enc P fn false fresh handsOn again W args v W' := by
  refine law_of hm hprim (tight_isBulk H) hts hin hrd hlaid hrt hbt hv hs he hG hval hW ?_
  obtain ⟨p, q, hA, hV, rfl, hfz, hnd⟩ := hW
  rw [hv] at hV
  obtain ⟨rfl, rfl⟩ := trodVars_none hV
  rw [hps] at hA hz
  obtain ⟨y, ys', d, ds', a, b, h1, rfl, rfl, h3, h4⟩ := trodAll_cons hA
  have h5 : ds' = [] := by
    have : ys' = [] ∨ True := .inr trivial
    cases ys' with
    | nil => obtain ⟨_, h, _⟩ := trodAll_nil h4; exact h
    | cons _ _ => simp [DataW.TrodAll] at h4
  subst h5
  have hz' : (DataW.weightsEach P [t] [d]).all (· ≤ reachBytes) = true := by
    have e0 : ∀ l, DataW.weightsEach P l ([] : List (DataW H)) = [] := by intro l; cases l <;> rfl
    have e1 : ∀ l, DataW.weightsEach P ([t] ++ l) [d] = d.weights P t ++ DataW.weightsEach P l [] := fun _ => rfl
    have e2 : DataW.weightsEach P [t] [d] = d.weights P t ++ [] := rfl
    simp only [List.append_nil] at hz
    rw [e1, e0] at hz
    rw [e2]
    exact hz
  have := tight_row ht hee h3 hz' hby
  show tight d + 0 ≤ _
  omega
end
end Go.Lift
