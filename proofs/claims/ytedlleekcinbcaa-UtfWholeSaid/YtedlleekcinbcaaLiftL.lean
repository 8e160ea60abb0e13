/- The lifting, twelfth part: slices written out; append. -/
import Derived.Test.YtedlleekcinbcaaLiftK
namespace Go.Lift
set_option linter.unusedVariables false
set_option linter.unusedSimpArgs false
set_option linter.unusedSectionVars false
variable [GTab]

section
variable {P : Program} {vars : List Nat} {m : List Nat} {c : Cl} {w : World} {g : Env} {h : Heap} {a : Act} {E : Entry}

theorem fill_rows (sz : Nat) : ∀ (qs : List (Nat × Value)) (k : Nat) (zs : Array Value), qs.map (·.1) = List.range' k qs.length → (∀ q ∈ qs, q.2.cells.size = sz) → (k + qs.length) * sz ≤ zs.size →
    ∃ ys : Array Value, Instr.fill (fun i => some (i * sz, sz)) zs qs = some ys ∧ ys.toList = zs.toList.take (k * sz) ++ (qs.map (fun q => q.2.cells.toList)).flatten ++ zs.toList.drop ((k + qs.length) * sz)
  | [], k, zs, _, _, _ => ⟨zs, rfl, by simp⟩
  | (i, v) :: qs, k, zs, hi, hs, hz => by
    simp only [List.map_cons, List.length_cons, List.range'_succ, List.cons.injEq] at hi
    obtain ⟨rfl, hi⟩ := hi
    have hv : v.cells.size = sz := hs (i, v) (by simp)
    simp only [List.length_cons] at hz
    have hb : (i + 1) * sz ≤ zs.size := Nat.le_trans (Nat.mul_le_mul_right _ (by omega)) hz
    rw [Nat.add_mul, Nat.one_mul] at hb
    have hfold : (v.cells.zipIdx.foldl (fun cs (x, j) => cs.setIfInBounds (i * sz + j) x) zs).toList = zs.toList.take (i * sz) ++ v.cells.toList ++ zs.toList.drop (i * sz + sz) := by
      have hf := fold_splice (i * sz) v.cells.toList 0 zs (by simp [hv]; omega)
      simp only [Nat.add_zero, Array.length_toList, hv] at hf
      rw [← hf, ← Array.foldl_toList, Array.toList_zipIdx]
    obtain ⟨ys, hy1, hy2⟩ := fill_rows sz qs (i + 1) (v.cells.zipIdx.foldl (fun cs (x, j) => cs.setIfInBounds (i * sz + j) x) zs) hi (fun q hq => hs q (by simp [hq])) (by
      have := congrArg List.length hfold
      simp only [Array.length_toList, List.length_append, List.length_take, List.length_drop, hv] at this
      rw [this, show i + 1 + qs.length = i + (qs.length + 1) by omega]
      omega)
    refine ⟨ys, ?_, ?_⟩
    · unfold Instr.fill
      simp only [hv]
      rw [if_neg (by simp; omega)]
      exact hy1
    · rw [hy2, hfold]
      have hl1 : (zs.toList.take (i * sz) ++ v.cells.toList).length = (i + 1) * sz := by
        simp only [List.length_append, List.length_take, Array.length_toList, hv]
        rw [Nat.add_mul]; omega
      rw [List.take_append_of_le_length (by rw [hl1]; exact Nat.le_refl _), List.take_of_length_le (by rw [hl1]; exact Nat.le_refl _)]
      rw [List.drop_append, hl1]
      have hd : (zs.toList.take (i * sz) ++ v.cells.toList).drop ((i + 1 + qs.length) * sz) = [] := by
        apply List.drop_eq_nil_of_le
        rw [hl1]
        exact Nat.mul_le_mul_right _ (by omega)
      rw [hd, List.nil_append, List.drop_drop]
      simp only [List.map_cons, List.flatten_cons, List.length_cons, List.append_assoc]
      congr 4
      rw [show i + (qs.length + 1) = (i + 1 + qs.length) by omega]
      have : (i + 1) * sz ≤ (i + 1 + qs.length) * sz := Nat.mul_le_mul_right _ (by omega)
      rw [Nat.add_mul i 1] at this ⊢
      omega

theorem flat_get {α : Type} {sz : Nat} : ∀ {l : List (List α)} {i j : Nat} {row : List α}, (∀ r ∈ l, r.length = sz) → l[i]? = some row → j < sz → l.flatten[i * sz + j]? = row[j]?
  | [], i, j, row, _, hi, _ => by simp at hi
  | r :: l, i, j, row, hs, hi, hj => by
    have hr : r.length = sz := hs r (by simp)
    rw [List.flatten_cons]
    cases i with
    | zero =>
      simp at hi
      subst hi
      rw [Nat.zero_mul, Nat.zero_add, List.getElem?_append_left (by omega)]
    | succ i =>
      rw [List.getElem?_append_right (by rw [hr, Nat.add_mul]; omega), hr, show (i + 1) * sz + j - sz = i * sz + j by rw [Nat.add_mul]; omega]
      exact flat_get (fun q hq => hs q (by simp [hq])) (by simpa using hi) hj

theorem flat_len {α : Type} {sz : Nat} : ∀ {l : List (List α)}, (∀ r ∈ l, r.length = sz) → l.flatten.length = l.length * sz
  | [], _ => by simp
  | r :: l, hs => by
    rw [List.flatten_cons, List.length_append, hs r (by simp), flat_len (fun q hq => hs q (by simp [hq])), List.length_cons, Nat.add_mul]
    omega

theorem exec_buildSlice (ρ : Operand → Value) {o : Oper} {t : TypeId} {n : Nat} {parts : Array (Nat × Operand)} (ho : o.op = .buildSlice t n parts) :
    execOp ρ o = (do pure (Next.value (← Instr.buildSlice t n (parts.map fun p => (p.1, ρ p.2))))) := by
  unfold execOp
  rw [ho]
theorem does_build {w' : World} {o : Oper} {t : TypeId} {n : Nat} {parts : Array (Nat × Operand)} (ho : o.op = .buildSlice t n parts) {x : Value}
    (hr : (Instr.buildSlice t n (parts.map fun p => (p.1, a.eval p.2))).run P w = .ok x w') : Does P w a o x w' := does_of (exec_buildSlice a.eval ho) hr

/-- the run of a slice written out -/
theorem run_build (w : World) {t e : TypeId} {n : Nat} {qs : Array (Nat × Value)} {ie : TypeInfo} {zv : Value} (hu : P.underlying t = some (.slice e)) (hie : P.info? e = some ie) (hzv : (zeroValue e).run P w = .ok zv w)
    (hn : qs.size = n) (hi : qs.toList.map (·.1) = List.range n) (hs : ∀ q ∈ qs.toList, q.2.cells.size = ie.size) (hle : n * ie.size ≤ 16777216) :
    ∃ arr : Array Value, arr.toList = (qs.toList.map fun q => q.2.cells.toList).flatten ∧
      (Instr.buildSlice t n qs).run P w = .ok (.slice (some ⟨w.heap.size, 0, none⟩) n n) { w with heap := w.heap.push (.cells arr e) } := by
  have hle' : ¬ n * ie.size > 2 ^ 24 := by
    have : (2 : Nat) ^ 24 = 16777216 := by decide
    omega
  have hfill := fun z : Array Value => fill_rows ie.size qs.toList 0 ((Array.range (n * ie.size)).map (z[· % z.size]!)) (by rw [hi, List.range_eq_range', Array.length_toList, hn]) hs (by simp [hn])
  by_cases h0 : n * ie.size = 0
  · obtain ⟨ys, h1, h2⟩ := hfill #[]
    refine ⟨ys, ?_, ?_⟩
    · rw [h2]
      have hz1 : ((Array.range (n * ie.size)).map ((#[] : Array Value)[· % (#[] : Array Value).size]!)).toList = [] := by rw [h0]; simp
      rw [hz1]
      simp
    · unfold Instr.buildSlice
      simp only [Sem.run_bind, run_underlying hu, Result.andThen_ok, run_sizeOf hie, if_neg hle', if_pos h0, Sem.run_pure]
      simp only [h1]
      rfl
  · obtain ⟨ys, h1, h2⟩ := hfill zv.cells
    refine ⟨ys, ?_, ?_⟩
    · rw [h2, Nat.zero_mul, List.take_zero, List.nil_append, List.drop_eq_nil_of_le, List.append_nil]
      simp [hn]
    · unfold Instr.buildSlice
      simp only [Sem.run_bind, run_underlying hu, Result.andThen_ok, run_sizeOf hie, if_neg hle', if_neg h0, Sem.run_pure, hzv]
      simp only [h1]
      rfl

set_option maxHeartbeats 400000 in
theorem eff_buildSlice (hI : InvP vars E m c w g h a) {o : Oper} {t e : TypeId} {n : Nat} {parts : Array (Nat × Operand)} (ho : o.op = .buildSlice t n parts) (hu : P.underlying t = some (.slice e))
    (hc : (parts.toList.map (·.1)) = List.range n ∧ (tzero P e).isSome = true ∧ 0 < tsize P e ∧ n * tsize P e ≤ 16777216 ∧ ((parts.toList.map fun p => cellsV (fzs (opd g p.2))).all fun r => r.length == tsize P e && r.all pure1) = true)
    (hd : ∀ t, o.dst = some t → t < E.nt) (hv : ∀ t, o.dst = some t → t ∉ vars) :
    Done P vars E w a o (.list .yes (parts.toList.map fun p => cellsV (fzs (opd g p.2)))) g h := by
  obtain ⟨c1, c2, c3, c4, c5⟩ := hc
  have hn : parts.toList.length = n := by have := congrArg List.length c1; simpa using this
  have hall : ∀ p ∈ parts.toList, (cellsV (fzs (opd g p.2))).length = tsize P e ∧ ∀ v ∈ cellsV (fzs (opd g p.2)), pure1 v = true := fun p hp => by
    have := List.all_eq_true.1 c5 _ (List.mem_map.2 ⟨p, hp, rfl⟩)
    simpa using this
  have hrel : ∀ p ∈ parts.toList, R2 (VR1 m c w) (cellsV (fzs (opd g p.2))) (a.eval p.2).cells.toList := fun p hp => by
    refine cells_rel (hI.core.opd p.2).fzs ?_
    have h2 := (hall p hp).2
    cases hq : fzs (opd g p.2) <;> first | rfl | (rw [hq] at h2; have := h2 _ (List.mem_singleton.2 rfl); first | exact this | cases this)
  obtain ⟨ie, hie⟩ : ∃ ie, P.info? e = some ie := by
    cases hie : P.info? e with
    | some ie => exact ⟨ie, rfl⟩
    | none => simp [tsize, Program.cellsOf, hie] at c3
  have hsz := size_of_info hie
  obtain ⟨z0, hz0⟩ := Option.isSome_iff_exists.1 c2
  obtain ⟨zv, hzv, rfl⟩ := tzero_spec (w := w) hz0
  have hflat : (((parts.map fun p => (p.1, a.eval p.2)).toList).map (fun q => q.2.cells.toList)) = parts.toList.map fun p => (a.eval p.2).cells.toList := by
    simp only [Array.toList_map, List.map_map]
    apply List.map_congr_left
    intro p _
    rfl
  have hlen2 : ∀ r ∈ parts.toList.map fun p => (a.eval p.2).cells.toList, r.length = tsize P e := fun r hr => by
    obtain ⟨p, hp, rfl⟩ := List.mem_map.1 hr
    rw [← (hrel p hp).1, (hall p hp).1]
  obtain ⟨arr, harr, hrun⟩ := run_build w (qs := parts.map fun p => (p.1, a.eval p.2)) hu hie hzv (by simpa using hn) (by
      simp only [Array.toList_map, List.map_map]
      have : (parts.toList.map ((fun x => x.1) ∘ fun x : Nat × Operand => (x.1, a.eval x.2))) = parts.toList.map (·.1) := by apply List.map_congr_left; intro p _; rfl
      rw [this, c1]) (fun q hq => by
      simp only [Array.toList_map, List.mem_map] at hq
      obtain ⟨p, hp, rfl⟩ := hq
      have := (hrel p hp).1
      rw [(hall p hp).1, hsz] at this
      simpa using this.symm) (by rw [← hsz]; exact c4)
  rw [hflat] at harr
  have hasz : arr.size = n * tsize P e := by
    rw [← Array.length_toList, harr, flat_len hlen2, List.length_map, hn]
  have hI' := grow_claim hI (arr := arr) (e := e) (f := (0, 0)) (w' := { w with heap := w.heap.push (.cells arr e) }) (n * tsize P e) rfl rfl rfl rfl (by rw [hasz]; exact Nat.le_refl _)
  have hheap : ({ w with heap := w.heap.push (.cells arr e) } : World).heap[w.heap.size]? = some (.cells arr e (0, 0)) := by simp
  have hlr : (parts.toList.map fun p => cellsV (fzs (opd g p.2))).length = n := by simpa using hn
  have hold : ∀ b, b < w.heap.size → ({ w with heap := w.heap.push (.cells arr e) } : World).heap[b]? = w.heap[b]? := fun b hb => by
    show (w.heap.push _)[b]? = _
    rw [Array.getElem?_push]; simp [show ¬ b = w.heap.size by omega]
  have hext : Ext c w (fun b => if b = w.heap.size then n * tsize P e else c b) { w with heap := w.heap.push (.cells arr e) } := by
    refine ⟨fun b => ?_, fun b o ho => ?_⟩
    · by_cases hb : b = w.heap.size
      · subst hb; rw [hI.core.c_zero (Nat.le_refl _)]; exact Nat.zero_le _
      · simp [hb]
    · rcases Nat.lt_or_ge b w.heap.size with hb | hb
      · exact cell_of_heap (hold b hb) o
      · rw [hI.core.c_zero hb] at ho; omega
  have hvp : VP (fun b => if b = w.heap.size then n * tsize P e else c b) { w with heap := w.heap.push (.cells arr e) } (.list .yes (parts.toList.map fun p => cellsV (fzs (opd g p.2)))) (.slice (some ⟨w.heap.size, 0, none⟩) n n) := by
    have := VP_new (k := .yes) (cap := n) (c := fun b => if b = w.heap.size then n * tsize P e else c b) (rows := parts.toList.map fun p => cellsV (fzs (opd g p.2))) hheap c3 (fun row hr => by
        obtain ⟨p, hp, rfl⟩ := List.mem_map.1 hr
        exact (hall p hp).1) (by rw [hlr]; exact Nat.le_refl _) (by simp only [hlr, if_true]; exact Nat.le_refl _) (fun i j row v hi hj => by
        simp only [List.getElem?_map, Option.map_eq_some_iff] at hi
        obtain ⟨p, hp, rfl⟩ := hi
        have hpm := List.mem_of_getElem? hp
        obtain ⟨x, hx, hvx⟩ := (hrel p hpm).get hj
        have hjl : j < tsize P e := by rw [← (hall p hpm).1]; exact (List.getElem?_eq_some_iff.1 hj).1
        refine ⟨x, ?_, (VP_of_pure hvx ((hall p hpm).2 v (List.mem_of_getElem? hj))).mono hext⟩
        rw [← Array.getElem?_toList, harr, flat_get hlen2 (i := i) (row := (a.eval p.2).cells.toList) (by simp [hp]) hjl]
        exact hx)
    rwa [hlr] at this
  have hdo : Does P w a o (.slice (some ⟨w.heap.size, 0, none⟩) n n) { w with heap := w.heap.push (.cells arr e) } := does_build ho hrun
  refine ⟨.slice (some ⟨w.heap.size, 0, none⟩) n n, { w with heap := w.heap.push (.cells arr e) }, m, fun b => if b = w.heap.size then n * tsize P e else c b, hdo, ?_⟩
  refine hI'.putOwn hd hvp ?_ ?_ ?_ (.inl hv)
  · refine .inr ⟨w.heap.size, n, arr, e, tsize P e, by rw [hlr], hheap, by rw [hlr]; exact Nat.le_refl _, ?_, hasz, c3, fun row hr => ?_, by simp [hlr], ?_, fun h0 => ?_⟩
    · have : n * 1 ≤ n * tsize P e := Nat.mul_le_mul_left _ c3
      unfold maxLen
      omega
    · obtain ⟨p, hp, rfl⟩ := List.mem_map.1 hr
      exact (hall p hp).1
    · intro hb
      obtain ⟨i, hi, hb⟩ := List.getElem_of_mem hb
      have := hI.core.m_lt (List.getElem?_eq_getElem hi)
      omega
    · have := congrArg List.length h0
      rw [hlr] at this
      simpa using this
  · intro l r' x' b hl hb hb'
    cases hb
    have hl' : At m w g h a l r' x' := by
      cases l with
      | slot t => exact hl
      | cell i j =>
        obtain ⟨cs, b, k1, k2, k3, k4⟩ := hl
        exact ⟨cs, b, k1, k2, k3, by rw [← cell_of_heap (hold b (hI.core.m_lt k3))]; exact k4⟩
    exact absurd ((hI.core.own l r' x' hl').lt hb').1 (Nat.lt_irrefl _)
  · intro b hb
    cases hb
    exact .inl hI.fr.size

end
end Go.Lift
