/- The lifting, thirteenth part: append. -/
import Derived.Test.YtedlleekcinbcaaLiftL
namespace Go.Lift
set_option linter.unusedVariables false
set_option linter.unusedSimpArgs false
set_option linter.unusedSectionVars false
variable [GTab]

section
variable {P : Program} {vars : List Nat} {m : List Nat} {c : Cl} {w : World} {g : Env} {h : Heap} {a : Act} {E : Entry}

/-- what is appended: so many elements, these cells, in whatever world of the same memory -/
def Src (P : Program) (w : World) (size k : Nat) (x : Value) (news : List Value) : Prop :=
  ∀ w', w'.heap = w.heap → (Builtin.lenOf x).run P w' = .ok k w' ∧ (Builtin.firstCells size k x).run P w' = .ok news.toArray w'

theorem app_room {t u e ty : TypeId} {ie : TypeInfo} {du : TypeDesc} (ht : P.underlying t = some (.slice e)) (hu : P.underlying u = some du) (hdu : ∀ k, du ≠ .int k) (hi : P.info? e = some ie)
    {b n cap k : Nat} {x : Value} {news : List Value} {cur : Array Value} {e' : TypeId} (hs : Src P w ie.size k x news) (hb : w.heap[b]? = some (.cells cur e' (0, 0)))
    (hroom : n + k ≤ cap) (hfit : n * ie.size + news.length ≤ cur.size) (hone : ∀ y ∈ news, y.oneCell' = true) :
    (Builtin.append_ #[t, u] ty #[.slice (some ⟨b, 0, none⟩) n cap, x]).run P w = .ok (.slice (some ⟨b, 0, none⟩) (n + k) cap) (w.setCells b (n * ie.size) news) := by
  obtain ⟨h1, h2⟩ := hs w rfl
  have hst := run_storeCells_cells (P := P) b (n * ie.size) news 0 w (fun j hj => by
      rw [cell_arr hb]
      have : n * ie.size + j < cur.size := by omega
      simp [this]) (fun j hj => by simp [World.frozen?, hb]) hone
  unfold Builtin.append_
  simp only [Sem.run_bind, run_underlying ht, run_underlying hu, Result.andThen_ok, run_sizeOf hi, Sem.run_pure, List.getElem?_toArray, List.getElem?_cons_zero, List.getElem?_cons_succ, h1, Bool.false_eq_true, if_false, if_pos hroom, add_none, Nat.zero_add, Bool.not_false, if_true, h2]
  simp only [Nat.add_zero] at hst
  simp [hst]

theorem app_grow {t u e ty : TypeId} {ie : TypeInfo} {z : Value} {du : TypeDesc} (ht : P.underlying t = some (.slice e)) (hu : P.underlying u = some du) (hdu : ∀ k, du ≠ .int k) (hi : P.info? e = some ie) (hz : ie.zero = some z)
    {base : Option Addr} {n cap k : Nat} {x : Value} {olds news : List Value} (hs : Src P w ie.size k x news) (ho : ∀ w', w'.heap = w.heap → (Builtin.firstCells ie.size n (.slice base n cap)).run P w' = .ok olds.toArray w')
    (hroom : cap < n + k) (h63 : n + k ≤ 9223372036854775807) (hfit : (n + k) * ie.bytes ≤ 140737488355328) :
    (Builtin.append_ #[t, u] ty #[.slice base n cap, x]).run P w =
      .ok (.slice (some ⟨w.heap.size, 0, none⟩) (n + k) (grownCap w (n + k) cap e)) (w.drew.alloc (.cells (olds.toArray ++ news.toArray ++ Builtin.zeroCells z.cells (grownCap w (n + k) cap e - (n + k))) e)) := by
  obtain ⟨h1, _⟩ := hs w rfl
  obtain ⟨_, h2⟩ := hs w.drew rfl
  have h3 := ho w.drew rfl
  have hn : ¬ (n + k ≤ cap) := by omega
  have h63' : ¬ (9223372036854775807 < ((n : Int) + (k : Int))) := by omega
  have h48 := growslice_fits hroom hfit
  have h48' : ¬ (281474976710656 < Builtin.nextslicecap (n + k) cap * ie.bytes) := by omega
  simp [Builtin.append_, run_underlying ht, run_underlying hu, sizeOf, typeInfo, zeroValue, hi, hz, h1, hn, h63', h48', Question.forced, newRow, grownCap, h3, h2]
  congr 2
  apply Array.ext'
  simp [List.append_assoc]

theorem src_rows {e : TypeId} {ie : TypeInfo} (hie : P.info? e = some ie) {v : V} {x : Value} {q : List (List V)} (hv : VRr m c w v x) (hq : appRows P e v = some q) (hsz : 0 < ie.size) :
    ∃ news : List Value, Src P w ie.size q.length x news ∧ news.length = q.length * ie.size ∧ (∀ row ∈ q, row.length = ie.size) ∧
      ∀ (i j : Nat) row u, q[i]? = some row → row[j]? = some u → ∃ y, news[i * ie.size + j]? = some y ∧ VP c w u y := by
  have hts := size_of_info hie
  unfold appRows at hq
  split at hq
  · cases hq
    have : x = .slice none 0 0 := hv
    subst this
    exact ⟨[], fun w' _ => ⟨rfl, rfl⟩, by simp, fun row hr => by simp at hr, fun i j row u hi => by simp at hi⟩
  · rename_i k r
    split at hq
    · rename_i hall
      have hq' := Option.some.inj hq
      subst hq'
      have hall' : ∀ row ∈ r, row.length = ie.size := fun row hr => by
        have := List.all_eq_true.1 hall row hr
        rw [hts] at this
        simpa using this
      have hp : VP c w (.list k r) x := hv
      cases hp with
      | empty k ao cap =>
        refine ⟨[], fun w' _ => ⟨rfl, ?_⟩, by simp, hall', fun i j row u hi => by simp at hi⟩
        cases ao <;> simp [Builtin.firstCells, loadCells, loadCellsFrom]
      | list k rows ad cap sz xs hne hsz' hspot hcap hcl hrow hcell hrec =>
        have hseq : sz = ie.size := by
          obtain ⟨r0, hr0⟩ := List.exists_mem_of_ne_nil _ hne
          obtain ⟨i0, hi0, hi1⟩ := List.getElem_of_mem hr0
          have h2 := hrow i0 r0 (by rw [List.getElem?_eq_getElem hi0, hi1])
          rw [← h2, hall' r0 hr0]
        subst hseq
        have hlt : ∀ j, j < r.length * ie.size → j / ie.size < r.length := fun j hj => Nat.div_lt_of_lt_mul (by rw [Nat.mul_comm]; exact hj)
        have hdm : ∀ j, j / ie.size * ie.size + j % ie.size = j := fun j => by rw [Nat.mul_comm]; exact Nat.div_add_mod j ie.size
        have hcells : ∀ j, j < r.length * ie.size → ∀ w' : World, w'.heap = w.heap → w'.cell? (ad.add j) = some (xs (j / ie.size) (j % ie.size)) := fun j hj w' hw' => by
          have h1 : r[j / ie.size]? = some (r[j / ie.size]'(hlt j hj)) := List.getElem?_eq_getElem (hlt j hj)
          have h2 := hrow _ _ h1
          have h3 : j % ie.size < (r[j / ie.size]'(hlt j hj)).length := by rw [h2]; exact Nat.mod_lt _ hsz
          have h4 := hcell _ _ _ _ h1 (List.getElem?_eq_getElem h3)
          rw [Nat.add_assoc, hdm] at h4
          rw [add_eta hspot, cell_of_heap (w := w) (w' := w') (by rw [hw'])]
          exact h4
        refine ⟨(List.range (r.length * ie.size)).map fun j => xs (j / ie.size) (j % ie.size), fun w' hw' => ⟨rfl, ?_⟩, by simp, hall', fun i j row u hi hj => ?_⟩
        · simp only [Builtin.firstCells]
          exact run_loadCells w' ad _ _ (fun j hj => hcells j hj w' hw')
        · have h1 := hrow i row hi
          have hjl : j < ie.size := by rw [← h1]; exact (List.getElem?_eq_some_iff.1 hj).1
          have hil : i < r.length := (List.getElem?_eq_some_iff.1 hi).1
          have hb : i * ie.size + j < r.length * ie.size := by
            have : (i + 1) * ie.size ≤ r.length * ie.size := Nat.mul_le_mul_right _ hil
            rw [Nat.add_mul] at this
            omega
          have hd : (i * ie.size + j) / ie.size = i := by rw [Nat.mul_comm, Nat.mul_add_div hsz, Nat.div_eq_of_lt hjl, Nat.add_zero]
          have hm : (i * ie.size + j) % ie.size = j := by rw [Nat.mul_comm, Nat.mul_add_mod, Nat.mod_eq_of_lt hjl]
          refine ⟨xs i j, ?_, hrec i j row u hi hj⟩
          simp [hb, hd, hm]
    · cases hq
  · rename_i s
    split at hq
    · rename_i hu
      cases hq
      have : x = .string s := hv
      subst this
      have h1 : ie.size = 1 := by rw [← hts]; exact hu.2
      rw [h1]
      have hl : (byteRows s).length = s.size := by simp [byteRows]
      refine ⟨s.data.toList.map fun b => .int .u8 b.toNat, fun w' _ => ⟨by rw [hl]; rfl, ?_⟩, by simp [byteRows], fun row hr => ?_, fun i j row u hi hj => ?_⟩
      · rw [hl]
        simp only [Builtin.firstCells, Sem.run_pure]
        congr 1
        apply Array.ext'
        simp
      · unfold byteRows at hr
        simp only [List.mem_map] at hr
        obtain ⟨c, _, rfl⟩ := hr
        rfl
      · obtain ⟨c, hc, rfl, rfl⟩ := byteRows_get hi hj
        exact ⟨.int .u8 c.toNat, by simp [hc], .v _ rfl⟩
    · cases hq
  · cases hq

/-- what an owner's place says -/
def Owns (E : Entry) (m : List Nat) (c : Cl) (w : World) (g : Env) (h : Heap) (a : Act) (r : List (List V)) (y : Value) : Prop :=
  VP c w (.list .yes r) y ∧ OwnB m c w r y ∧ (∀ l r' x' b, At m w g h a l r' x' → ownBlk y = some b → ownBlk x' ≠ some b) ∧ ∀ b, ownBlk y = some b → E.w.heap.size ≤ b ∨ E.ho b

theorem owner_nil (hI : InvP vars E m c w g h a) : InvP vars E m c w (Lift.untag g) h a ∧ Owns E m c w (Lift.untag g) h a [] (.slice none 0 0) :=
  ⟨hI.untag, .empty _ _ _, .inl ⟨rfl, rfl⟩, fun _ _ _ _ _ hb => (by cases hb), fun _ hb => (by cases hb)⟩

theorem owner_slot (hI : InvP vars E m c w g h a) {u : Nat} {r : List (List V)} (hu : look g u = .list .yes r) : InvP vars E m c w (Lift.untag (Lift.ins u (.list .no r) g)) h a ∧ Owns E m c w (Lift.untag (Lift.ins u (.list .no r) g)) h a r (a.tmps.getD u undef) := by
  have hat : At m w g h a (.slot u) r (a.tmps.getD u undef) := ⟨hu, rfl⟩
  have hv := hI.core.env u
  rw [hu] at hv
  refine ⟨hI.release hu, hv, hI.core.own _ _ _ hat, fun l r' x' b hl hb hb' => ?_, fun b hb => hI.owned _ _ _ b hat trivial hb⟩
  obtain ⟨n1, hl'⟩ := At_release hl
  exact n1 (hI.core.uniq l _ r' r x' _ b hl' hat hb' hb)

theorem set_obj_flag (hI : InvP vars E m c w g h a) {i j : Nat} {cs : List V} {q : List (List V)} (hcs : cellsOfOb h i = some cs) (hj : cs[j]? = some (.list .yes q)) (hlo : E.lo ≤ i) :
    ∃ y, At m w g h a (.cell i j) q y ∧ InvP vars E m c w (Lift.untag g) (Lift.setOb h i (cs.set j (.list .no q))) a ∧ Owns E m c w (Lift.untag g) (Lift.setOb h i (cs.set j (.list .no q))) a q y := by
  have hcs0 : h[i]? = some (.cells cs) := by
    unfold cellsOfOb at hcs
    split at hcs
    · rename_i h0; cases hcs; exact h0
    · cases hcs
  have hil : i < m.length := by rw [hI.core.len]; exact (List.getElem?_eq_some_iff.1 hcs0).1
  have hm := List.getElem?_eq_getElem hil
  obtain ⟨arr, e, f, hw, hle, hfr, hall⟩ := hI.core.ob i _ _ hcs0 hm
  have hjl : j < cs.length := (List.getElem?_eq_some_iff.1 hj).1
  have haj : arr[j]? = some arr[j] := Array.getElem?_eq_getElem (by omega)
  have hat : At m w g h a (.cell i j) q arr[j] := ⟨cs, m[i], hcs, hj, hm, by rw [cell_arr hw]; exact haj⟩
  have hcq : ∀ (k : Nat) (r : List (List V)), (cs.set j (.list .no q))[k]? = some (.list .yes r) → k ≠ j ∧ cs[k]? = some (.list .yes r) := fun k r hk => by
    rw [List.getElem?_set] at hk
    by_cases hjk : j = k
    · subst hjk; simp [hjl] at hk
    · exact ⟨Ne.symm hjk, by simpa [hjk] using hk⟩
  refine ⟨arr[j], hat, hI.untag.setOb (w' := w) cs.length hlo hm rfl (fun _ _ => rfl) rfl rfl rfl ?_ ?_ (fun t i j r => noTagC t i j r) ?_, ?_⟩
  · refine ⟨arr, e, f, hw, by simpa using hle, fun k hk => hfr k (by simpa using hk), fun k v x hv hx => ?_⟩
    rw [List.getElem?_set] at hv
    by_cases hjk : j = k
    · subst hjk
      simp only [if_true, hjl, Option.some.injEq] at hv
      subst hv
      have := hall j _ x hj hx
      exact ⟨VP.flag this.1 _, this.2⟩
    · simp only [if_neg hjk] at hv
      exact hall k v x hv hx
  · intro cs' k r x hc hk hx
    cases hc
    obtain ⟨hne, hk'⟩ := hcq k r hk
    refine .inr ⟨fun _ => ⟨cs, m[i], hcs, hk', hm, hx⟩, fun hkl => ?_⟩
    have := (List.getElem?_eq_some_iff.1 hk').1
    omega
  · intro cs' hc v hv
    cases hc
    rcases List.mem_or_eq_of_mem_set hv with hv | rfl
    · exact hI.old i cs hcs v hv
    · rfl
  · have h1 := (hall j _ _ hj haj).1
    refine ⟨h1, hI.core.own _ _ _ hat, fun l r' x' b hl hb hb' => ?_, fun b hb => hI.owned _ _ _ b hat hlo hb⟩
    have : At m w g h a l r' x' ∧ l ≠ .cell i j := by
      cases l with
      | slot t => exact ⟨At_untag (h := h) hl, fun e => by cases e⟩
      | cell k s =>
        obtain ⟨cs', b', k1, k2, k3, k4⟩ := hl
        rcases cellsOfOb_set k1 with ⟨rfl, ho⟩ | ⟨hki, hcs'⟩
        · cases ho
          obtain ⟨hne, hk'⟩ := hcq s r' k2
          exact ⟨⟨cs, b', hcs, hk', k3, k4⟩, fun e => hne (by cases e; rfl)⟩
        · exact ⟨⟨cs', b', hcs', k2, k3, k4⟩, fun e => hki (by cases e; rfl)⟩
    exact this.2 (hI.core.uniq l _ r' q x' _ b this.1 hat hb' hb)

theorem owner_spec (hI : InvP vars E m c w g h a) {x : Operand} {r : List (List V)} {g1 : Env} {h1 : Heap} (ho : owner E.lo (g, h) x = some (r, g1, h1)) :
    InvP vars E m c w (Lift.untag g1) h1 a ∧ Owns E m c w (Lift.untag g1) h1 a r (a.eval x) := by
  unfold owner at ho
  split at ho
  · rename_i t
    split at ho
    · rename_i hl
      cases ho
      have hv := hI.core.env t
      rw [hl] at hv
      have hv' : a.eval (.tmp t) = .slice none 0 0 := hv
      rw [hv']
      exact owner_nil hI
    · rename_i q hl
      cases ho
      exact owner_slot hI hl
    · rename_i u q hl
      split at ho
      · rename_i q' hu
        cases ho
        obtain ⟨_, k1, k2⟩ := hI.core.tagS t u r hl
        simp only at hu
        rw [hu] at k1
        cases k1
        have := owner_slot hI hu
        rw [show a.eval (.tmp t) = a.tmps.getD u undef from k2]
        exact this
      · cases ho
    · rename_i i j q hl
      split at ho
      · rename_i cs hcs
        split at ho
        · rename_i q' hj
          split at ho
          · rename_i hlo
            cases ho
            have hat := hI.core.tagC t i j r hl
            obtain ⟨cs2, b2, k1, k2, k3, k4⟩ := hat
            simp only at hcs
            rw [hcs] at k1
            cases k1
            rw [hj] at k2
            cases k2
            obtain ⟨y, hy, hI', hO⟩ := set_obj_flag hI hcs hj hlo
            obtain ⟨cs3, b3, e1, e2, e3, e4⟩ := hy
            rw [k3] at e3
            cases e3
            rw [k4] at e4
            have : a.eval (.tmp t) = y := Option.some.inj e4
            rw [this]
            exact ⟨hI', hO⟩
          · cases ho
        · cases ho
      · cases ho
    · cases ho
  · rename_i k
    split at ho
    · rename_i hk
      cases ho
      have : a.eval (.const k) = .slice none 0 0 := by
        have := hI.core.opd (.const k)
        simp only [opd, hk] at this
        exact this
      rw [this]
      exact owner_nil hI
    · cases ho
  · cases ho

/-- the cells of an owner's rows -/
theorem own_cells {r : List (List V)} {b cap sz : Nat} {cur : Array Value} {e : TypeId} {f : Nat × Nat} {ao : Option Addr} (hp : VP c w (.list .yes r) (.slice ao r.length cap)) (ha : ao = some ⟨b, 0, none⟩) (hb : w.heap[b]? = some (.cells cur e f)) (hrow : ∀ row ∈ r, row.length = sz) :
    ∀ (i j : Nat) row v, r[i]? = some row → row[j]? = some v → ∃ x, cur[i * sz + j]? = some x ∧ VP c w v x := by
  intro i j row v hi hj
  generalize hn : r.length = n at hp
  cases hp with
  | empty => simp at hi
  | list k rows ad cap sz' xs hne hsz hspot hcap hcl hrow' hcell hrec =>
    cases ha
    have h1 := hrow' i row hi
    have h2 := hrow row (List.mem_of_getElem? hi)
    rw [h2] at h1
    subst h1
    have h3 := hcell i j row v hi hj
    rw [cell_arr hb, Nat.zero_add] at h3
    exact ⟨_, h3, hrec i j row v hi hj⟩

/-- two parts of rows, one behind the other -/
theorem rows_append {r q : List (List V)} {olds news : List Value} {sz : Nat} {R : V → Value → Prop} (hl : olds.length = r.length * sz)
    (h1 : ∀ (i j : Nat) row v, r[i]? = some row → row[j]? = some v → ∃ x, olds[i * sz + j]? = some x ∧ R v x) (h2 : ∀ (i j : Nat) row v, q[i]? = some row → row[j]? = some v → ∃ x, news[i * sz + j]? = some x ∧ R v x) :
    ∀ (i j : Nat) row v, (r ++ q)[i]? = some row → row[j]? = some v → ∃ x, (olds ++ news)[i * sz + j]? = some x ∧ R v x := by
  intro i j row v hi hj
  rw [List.getElem?_append] at hi
  split at hi
  · rename_i hlt
    obtain ⟨x, hx, hv⟩ := h1 i j row v hi hj
    exact ⟨x, by rw [List.getElem?_append_left (List.getElem?_eq_some_iff.1 hx).1]; exact hx, hv⟩
  · rename_i hge
    obtain ⟨x, hx, hv⟩ := h2 _ j row v hi hj
    refine ⟨x, ?_, hv⟩
    have : r.length * sz ≤ i * sz := Nat.mul_le_mul_right _ (by omega)
    rw [List.getElem?_append_right (by rw [hl]; omega), hl]
    rw [Nat.sub_mul] at hx
    rw [show i * sz + j - r.length * sz = i * sz - r.length * sz + j by omega]
    exact hx

/-- the new array of an append -/
theorem done_grow (hI : InvP vars E m c w g h a) {o : Oper} {r q : List (List V)} {olds news : List Value} {rest : Array Value} {e : TypeId} {cap sz : Nat} (hsz : 0 < sz)
    (hlo : olds.length = r.length * sz) (hln : news.length = q.length * sz) (hr : ∀ row ∈ r, row.length = sz) (hq : ∀ row ∈ q, row.length = sz)
    (h1 : ∀ (i j : Nat) row v, r[i]? = some row → row[j]? = some v → ∃ x, olds[i * sz + j]? = some x ∧ VP c w v x) (h2 : ∀ (i j : Nat) row v, q[i]? = some row → row[j]? = some v → ∃ x, news[i * sz + j]? = some x ∧ VP c w v x)
    (hcap : r.length + q.length ≤ cap) (hrest : rest.size = (cap - (r.length + q.length)) * sz) (hmax : cap ≤ maxLen) (hne : r ++ q ≠ [])
    (hdo : Does P w a o (.slice (some ⟨w.heap.size, 0, none⟩) (r.length + q.length) cap) (w.drew.alloc (.cells (olds.toArray ++ news.toArray ++ rest) e)))
    (hd : ∀ t, o.dst = some t → t < E.nt) (hv : ∀ t, o.dst = some t → t ∉ vars) : Done P vars E w a o (.list .yes (r ++ q)) g h := by
  have hasz : (olds.toArray ++ news.toArray ++ rest).size = cap * sz := by
    simp only [Array.size_append, List.size_toArray, hlo, hln, hrest]
    rw [← Nat.add_mul, ← Nat.add_mul]
    congr 1
    omega
  have hnle : (r.length + q.length) * sz ≤ cap * sz := Nat.mul_le_mul_right _ hcap
  have hI' := grow_claim hI (arr := olds.toArray ++ news.toArray ++ rest) (e := e) (f := (0, 0)) (w' := w.drew.alloc (.cells (olds.toArray ++ news.toArray ++ rest) e)) ((r.length + q.length) * sz) rfl rfl rfl rfl (by rw [hasz]; exact hnle)
  have hheap : (w.drew.alloc (.cells (olds.toArray ++ news.toArray ++ rest) e)).heap[w.heap.size]? = some (.cells (olds.toArray ++ news.toArray ++ rest) e (0, 0)) := heap_alloc_new w.drew _
  have hold : ∀ b, b < w.heap.size → (w.drew.alloc (.cells (olds.toArray ++ news.toArray ++ rest) e)).heap[b]? = w.heap[b]? := fun b hb => by
    show (w.heap.push _)[b]? = _
    rw [Array.getElem?_push]; simp [show ¬ b = w.heap.size by omega]
  have hext : Ext c w (fun b => if b = w.heap.size then (r.length + q.length) * sz else c b) (w.drew.alloc (.cells (olds.toArray ++ news.toArray ++ rest) e)) := by
    refine ⟨fun b => ?_, fun b o ho => ?_⟩
    · by_cases hb : b = w.heap.size
      · subst hb; rw [hI.core.c_zero (Nat.le_refl _)]; exact Nat.zero_le _
      · simp [hb]
    · rcases Nat.lt_or_ge b w.heap.size with hb | hb
      · exact cell_of_heap (hold b hb) o
      · rw [hI.core.c_zero hb] at ho; omega
  have hl2 : (r ++ q).length = r.length + q.length := by simp
  have hrq : ∀ row ∈ r ++ q, row.length = sz := fun row hm => by
    rcases List.mem_append.1 hm with hm | hm
    · exact hr row hm
    · exact hq row hm
  have hvp := VP_new (k := .yes) (cap := cap) (c := fun b => if b = w.heap.size then (r.length + q.length) * sz else c b) (rows := r ++ q) hheap hsz hrq (by rw [hl2]; exact hcap) (by simp only [hl2, if_true]; exact Nat.le_refl _) (fun i j row v hi hj => by
    obtain ⟨x, hx, hxv⟩ := rows_append hlo h1 h2 i j row v hi hj
    refine ⟨x, ?_, hxv.mono hext⟩
    rw [Array.getElem?_append_left]
    · rw [← Array.getElem?_toList]; simpa using hx
    · have := (List.getElem?_eq_some_iff.1 hx).1
      simpa using this)
  rw [hl2] at hvp
  refine ⟨_, _, m, fun b => if b = w.heap.size then (r.length + q.length) * sz else c b, hdo, ?_⟩
  refine hI'.putOwn hd hvp ?_ ?_ ?_ (.inl hv)
  · refine .inr ⟨w.heap.size, cap, _, e, sz, by rw [hl2], hheap, by rw [hl2]; exact hcap, hmax, hasz, hsz, hrq, by simp, ?_, fun h0 => absurd h0 hne⟩
    intro hb
    obtain ⟨i, hi, hb⟩ := List.getElem_of_mem hb
    have := hI.core.m_lt (List.getElem?_eq_getElem hi)
    omega
  · intro l r' x' b hl hb hb'
    cases hb
    have hl' : At m w g h a l r' x' := by
      cases l with
      | slot t => exact hl
      | cell i j =>
        obtain ⟨cs, b, k1, k2, k3, k4⟩ := hl
        exact ⟨cs, b, k1, k2, k3, by rw [← cell_of_heap (hold b (hI.core.m_lt k3))]; exact k4⟩
    exact absurd ((hI.core.own l r' x' hl').lt hb').1 (Nat.lt_irrefl _)
  · intro b hb
    cases hb
    exact .inl hI.fr.size

/-- the same array: what is appended goes behind -/
theorem done_room (hI : InvP vars E m c w g h a) {o : Oper} {r q : List (List V)} {news : List Value} {b cap sz : Nat} {cur : Array Value} {e : TypeId} (hb : w.heap[b]? = some (.cells cur e (0, 0)))
    (hO : Owns E m c w g h a r (.slice (some ⟨b, 0, none⟩) r.length cap)) (hcur : cur.size = cap * sz) (hsz : 0 < sz) (hr : ∀ row ∈ r, row.length = sz) (hq : ∀ row ∈ q, row.length = sz) (hc : c b = r.length * sz) (hbm : b ∉ m) (hmax : cap ≤ maxLen)
    (hln : news.length = q.length * sz) (h2 : ∀ (i j : Nat) row v, q[i]? = some row → row[j]? = some v → ∃ x, news[i * sz + j]? = some x ∧ VP c w v x) (hcap : r.length + q.length ≤ cap) (hne : r ++ q = [] → cap = 0)
    (hdo : Does P w a o (.slice (some ⟨b, 0, none⟩) (r.length + q.length) cap) (w.setCells b (r.length * sz) news))
    (hd : ∀ t, o.dst = some t → t < E.nt) (hv : ∀ t, o.dst = some t → t ∉ vars) : Done P vars E w a o (.list .yes (r ++ q)) g h := by
  have hnle : (r.length + q.length) * sz ≤ cap * sz := Nat.mul_le_mul_right _ hcap
  have hfit : r.length * sz + news.length ≤ cur.size := by rw [hln, hcur, ← Nat.add_mul]; exact hnle
  obtain ⟨k1, k2, k3, k4, k5, arr', k6, k7⟩ := setCells_spec b news (r.length * sz) w cur e (0, 0) hb hfit
  have hbl : b < w.heap.size := (Array.getElem?_eq_some_iff.1 hb).1
  have hasz : arr'.size = cap * sz := by
    rw [← hcur, ← Array.length_toList, k7]
    simp only [List.length_append, List.length_take, List.length_drop, Array.length_toList]
    omega
  have hget : ∀ k, k < r.length * sz → arr'[k]? = cur[k]? := fun k hk => by
    rw [← Array.getElem?_toList, k7, getElem?_splice (by simpa using hfit), if_neg (by omega)]
    simp
  have hI' := hI.grown (c' := fun k => if k = b then (r.length + q.length) * sz else c k) (w' := w.setCells b (r.length * sz) news) (some b) (by rw [k1]; exact Nat.le_refl _)
    (fun k hk hne => ⟨k2 k (fun e => hne (by rw [e])), by simp [show ¬ k = b from fun e => hne (by rw [e])]⟩)
    (fun k hk => by
      cases hk
      refine ⟨hbm, fun l r' x' hl => ?_, hO.2.2.2 b rfl, ?_, fun o ho => ?_, arr', e, (0, 0), k6, by simp only [if_true]; rw [hasz]; exact hnle⟩
      · exact hO.2.2.1 l r' x' b hl rfl
      · simp only [if_true, hc]; exact Nat.mul_le_mul_right _ (by omega)
      · rw [cell_arr k6, cell_arr hb]
        exact hget o (by rw [← hc]; exact ho))
    (fun k hk hne h0 => by
      have : ¬ k = b := fun e => hne (by rw [e])
      simp only [if_neg this] at h0
      rw [hI.core.c_zero hk] at h0; omega) k3 k4 k5
  have hext : Ext c w (fun k => if k = b then (r.length + q.length) * sz else c k) (w.setCells b (r.length * sz) news) := by
    refine ⟨fun k => ?_, fun k o ho => ?_⟩
    · by_cases hk : k = b
      · subst hk; simp only [if_true, hc]; exact Nat.mul_le_mul_right _ (by omega)
      · simp [hk]
    · by_cases hk : k = b
      · subst hk
        rw [cell_arr k6, cell_arr hb]
        exact hget o (by rw [← hc]; exact ho)
      · exact cell_of_heap (k2 k hk) o
  have hl2 : (r ++ q).length = r.length + q.length := by simp
  have hrq : ∀ row ∈ r ++ q, row.length = sz := fun row hm => by
    rcases List.mem_append.1 hm with hm | hm
    · exact hr row hm
    · exact hq row hm
  have holds := own_cells hO.1 rfl hb hr
  have holdl : (cur.toList.take (r.length * sz)).length = r.length * sz := by
    rw [List.length_take, Array.length_toList]
    exact Nat.min_eq_left (Nat.le_trans (Nat.le_add_right _ _) hfit)
  have hvp := VP_new (k := .yes) (cap := cap) (c := fun k => if k = b then (r.length + q.length) * sz else c k) (rows := r ++ q) k6 hsz hrq (by rw [hl2]; exact hcap) (by simp only [hl2, if_true]; exact Nat.le_refl _) (fun i j row v hi hj => by
    obtain ⟨x, hx, hxv⟩ := rows_append (olds := cur.toList.take (r.length * sz)) (news := news) holdl (fun i j row v hi hj => by
      obtain ⟨x, hx, hxv⟩ := holds i j row v hi hj
      refine ⟨x, ?_, hxv⟩
      have hjl : j < sz := by rw [← hr row (List.mem_of_getElem? hi)]; exact (List.getElem?_eq_some_iff.1 hj).1
      have hil : i < r.length := (List.getElem?_eq_some_iff.1 hi).1
      have : (i + 1) * sz ≤ r.length * sz := Nat.mul_le_mul_right _ hil
      rw [Nat.add_mul] at this
      rw [List.getElem?_take, if_pos (by omega)]
      simpa using hx) h2 i j row v hi hj
    refine ⟨x, ?_, hxv.mono hext⟩
    rw [← Array.getElem?_toList, k7, List.getElem?_append_left (List.getElem?_eq_some_iff.1 hx).1]
    exact hx)
  rw [hl2] at hvp
  refine ⟨_, _, m, fun k => if k = b then (r.length + q.length) * sz else c k, hdo, ?_⟩
  refine hI'.putOwn hd hvp ?_ ?_ ?_ (.inl hv)
  · exact .inr ⟨b, cap, arr', e, sz, by rw [hl2], k6, by rw [hl2]; exact hcap, hmax, hasz, hsz, hrq, by simp, hbm, hne⟩
  · intro l r' x' k hl hk
    cases hk
    have hl' : At m w g h a l r' x' := by
      cases l with
      | slot t => exact hl
      | cell i j =>
        obtain ⟨cs, b', q1, q2, q3, q4⟩ := hl
        exact ⟨cs, b', q1, q2, q3, by rw [← cell_of_heap (k2 b' (fun e => hbm (e ▸ List.mem_of_getElem? q3)))]; exact q4⟩
    exact hO.2.2.1 l r' x' b hl' rfl
  · intro k hk
    cases hk
    exact hO.2.2.2 b rfl

theorem exec_append (ρ : Operand → Value) {o : Oper} {k : Call} (ho : o.op = .call k) (hc : k.callee = .builtin .append) : execOp ρ o = (do pure (Next.value (← Builtin.append_ k.argTypes o.type (k.args.map ρ)))) := by
  simp [execOp, ho, resolve, hc, invoke, builtin]

theorem eff_append (hI : InvP vars E m c w g h a) {o : Oper} {k : Call} {x y : Operand} {e : TypeId} {du : TypeDesc} {r q : List (List V)} {g1 : Env} {h1 : Heap} (ho : o.op = .call k) (hc : k.callee = .builtin .append) (hargs : k.args.toList = [x, y])
    (htypes : k.argTypes.toList.map P.underlying = [some (.slice e), some du]) (hown : owner E.lo (g, h) x = some (r, g1, h1)) (hq : appRows P e (opd g y) = some q)
    (hcond : (tzero P e).map (·.length) = some (tsize P e) ∧ 0 < tsize P e ∧ (r.all fun z => z.length == tsize P e) = true ∧ (r.length + q.length) * P.bytesOf e ≤ 140737488355328 ∧ r.length + q.length ≤ 9223372036854775807 ∧ notInt du = true)
    (hd : ∀ t, o.dst = some t → t < E.nt) (hv : ∀ t, o.dst = some t → t ∉ vars) : Done P vars E w a o (.list .yes (r ++ q)) (Lift.untag g1) h1 := by
  obtain ⟨c1, c2, c3, c4, c5, c6⟩ := hcond
  obtain ⟨hI1, hO⟩ := owner_spec hI hown
  obtain ⟨ie, hie⟩ : ∃ ie, P.info? e = some ie := by
    cases hie : P.info? e with
    | some ie => exact ⟨ie, rfl⟩
    | none => simp [tsize, Program.cellsOf, hie] at c2
  have hsz := size_of_info hie
  have hsz0 : 0 < ie.size := by rw [← hsz]; exact c2
  obtain ⟨z, hz, hzl⟩ : ∃ z, ie.zero = some z ∧ z.cells.size = ie.size := by
    unfold tzero at c1
    rw [hie] at c1
    cases hz : ie.zero with
    | none => simp [hz] at c1
    | some z => simp [hz] at c1; exact ⟨z, rfl, by rw [c1, hsz]⟩
  have hby : P.bytesOf e = ie.bytes := by simp [Program.bytesOf, hie]
  rw [hby] at c4
  obtain ⟨news, hsrc, hnl, hqr, hnew⟩ := src_rows hie (hI.core.opd y) hq hsz0
  have hrr : ∀ row ∈ r, row.length = ie.size := fun row hr => by
    have := List.all_eq_true.1 c3 row hr
    rw [hsz] at this
    simpa using this
  obtain ⟨t, u, ht2, htu, huu⟩ : ∃ t u, k.argTypes = #[t, u] ∧ P.underlying t = some (.slice e) ∧ P.underlying u = some du := by
    rcases hl : k.argTypes.toList with _ | ⟨t, _ | ⟨u, _ | ⟨v, l⟩⟩⟩ <;> rw [hl] at htypes <;> simp at htypes
    exact ⟨t, u, by rw [← Array.toArray_toList (xs := k.argTypes), hl], htypes.1, htypes.2⟩
  have hdu : ∀ kk, du ≠ .int kk := fun kk e => by subst e; cases c6
  have hargs' : k.args.map a.eval = #[a.eval x, a.eval y] := by
    rw [← Array.toArray_toList (xs := k.args), hargs]; simp
  have hdo : ∀ v w', (Builtin.append_ #[t, u] o.type #[a.eval x, a.eval y]).run P w = .ok v w' → Does P w a o v w' := fun v w' hr => by
    refine does_of (exec_append a.eval ho hc) ?_
    rw [ht2, hargs']
    exact hr
  have hone : ∀ v ∈ news, v.oneCell' = true := fun v hv => by
    obtain ⟨p, hp, rfl⟩ := List.getElem_of_mem hv
    have hp' : p / ie.size < q.length := Nat.div_lt_of_lt_mul (by rw [Nat.mul_comm, ← hnl]; exact hp)
    have hrow := hqr _ (List.getElem_mem hp')
    have hm : p % ie.size < (q[p / ie.size]).length := by rw [hrow]; exact Nat.mod_lt _ hsz0
    obtain ⟨z', hz', hvp⟩ := hnew _ _ _ _ (List.getElem?_eq_getElem hp') (List.getElem?_eq_getElem hm)
    rw [Nat.mul_comm, Nat.div_add_mod, List.getElem?_eq_getElem hp] at hz'
    cases hz'
    exact hvp.oneCell
  have hgrow : ∀ {base : Option Addr} {cap : Nat} {olds : List Value}, a.eval x = .slice base r.length cap → (∀ w', w'.heap = w.heap → (Builtin.firstCells ie.size r.length (.slice base r.length cap)).run P w' = .ok olds.toArray w') →
      olds.length = r.length * ie.size → (∀ (i j : Nat) row v, r[i]? = some row → row[j]? = some v → ∃ x, olds[i * ie.size + j]? = some x ∧ VP c w v x) → cap < r.length + q.length → Done P vars E w a o (.list .yes (r ++ q)) (Lift.untag g1) h1 := fun {base cap olds} hx hf hol hoc hlt => by
    have hrun := app_grow (P := P) (w := w) (ty := o.type) htu huu hdu hie hz hsrc hf hlt c5 c4
    rw [← hx] at hrun
    have hge := grownCap_ge w (r.length + q.length) cap e
    refine done_grow hI1 hsz0 hol hnl hrr hqr hoc hnew hge ?_ (grownCap_le_maxLen w _ _ e (by unfold maxLen; exact c5)) ?_ (hdo _ _ hrun) hd hv
    · rw [size_zeroCells, hzl]
    · intro h0
      have := congrArg List.length h0
      rw [List.length_append, List.length_nil] at this
      omega
  rcases hO.2.1 with ⟨hx, hr0⟩ | ⟨b, cap, cur, e', sz, hx, k1, k2, k3, k4, k5, k6, k7, k8, k9⟩
  · subst hr0
    by_cases hk : q.length = 0
    · have hq0 : q = [] := List.eq_nil_of_length_eq_zero hk
      subst hq0
      refine ⟨.slice none 0 0, w, m, c, hdo _ _ ?_, hI1.putOwn hd (.empty _ _ _) (.inl ⟨rfl, rfl⟩) (fun _ _ _ _ _ hb => by cases hb) (fun _ hb => by cases hb) (.inl hv)⟩
      obtain ⟨s1, s2⟩ := hsrc w rfl
      have hzz : (match du with | .int _ => true | _ => false) = false := by
        cases du <;> first | rfl | (exact absurd rfl (hdu _))
      have hnews : news = [] := List.eq_nil_of_length_eq_zero (by rw [hnl]; simp)
      subst hnews
      rw [hx]
      simp only [List.length_nil] at s1 s2
      simp [Builtin.append_, run_underlying htu, run_underlying huu, sizeOf, typeInfo, hie, s1, s2]
    · exact hgrow (base := none) (cap := 0) (olds := []) hx (fun w' _ => by simp [Builtin.firstCells]) (by simp) (fun i j row v hi => by simp at hi) (by simp; omega)
  · by_cases hroom : r.length + q.length ≤ cap
    · by_cases hr0 : r = []
      · subst hr0
        have hcap0 := k9 rfl
        subst hcap0
        have hq0 : q = [] := List.eq_nil_of_length_eq_zero (by rw [List.length_nil] at hroom; omega)
        subst hq0
        have hnews : news = [] := List.eq_nil_of_length_eq_zero (by rw [hnl]; simp)
        subst hnews
        rw [hx] at hO
        refine done_room (news := []) hI1 k1 hO k4 k5 (fun _ h0 => by cases h0) (fun _ h0 => by cases h0) k7 k8 k3 (by simp) (fun i j row v hi => by simp at hi) hroom (fun _ => rfl) (hdo _ _ ?_) hd hv
        have := app_room (P := P) (w := w) (ty := o.type) htu huu hdu hie hsrc k1 hroom (by simp) (fun _ h0 => by cases h0)
        rw [hx]
        simpa using this
      · have hse : sz = ie.size := by
          obtain ⟨r0, hm⟩ := List.exists_mem_of_ne_nil _ hr0
          rw [← k6 r0 hm, hrr r0 hm]
        subst hse
        have hfit : r.length * ie.size + news.length ≤ cur.size := by rw [hnl, k4, ← Nat.add_mul]; exact Nat.mul_le_mul_right _ hroom
        rw [hx] at hO
        refine done_room hI1 k1 hO k4 k5 hrr hqr k7 k8 k3 hnl hnew hroom (fun h0 => absurd (List.append_eq_nil_iff.1 h0).1 hr0) (hdo _ _ ?_) hd hv
        rw [hx]
        exact app_room (P := P) (w := w) (ty := o.type) htu huu hdu hie hsrc k1 hroom hfit hone
    · by_cases hr0 : r = []
      · subst hr0
        exact hgrow (olds := []) hx (fun w' _ => run_firstCells_some w' ie.size 0 ⟨b, 0, none⟩ 0 cap [] (by simp) (fun j v hj => by simp at hj)) (by simp) (fun i j row v hi => by simp at hi) (by omega)
      · have hse : sz = ie.size := by
          obtain ⟨r0, hm⟩ := List.exists_mem_of_ne_nil _ hr0
          rw [← k6 r0 hm, hrr r0 hm]
        subst hse
        rw [hx] at hO
        have hle : r.length * ie.size ≤ cur.size := by rw [k4]; exact Nat.mul_le_mul_right _ k2
        have hol : (cur.toList.take (r.length * ie.size)).length = r.length * ie.size := by
          rw [List.length_take, Array.length_toList]
          exact Nat.min_eq_left hle
        refine hgrow (olds := cur.toList.take (r.length * ie.size)) hx (fun w' hw' => run_firstCells_some w' ie.size r.length ⟨b, 0, none⟩ r.length cap _ hol (fun j v hj => ?_)) hol (fun i j row v hi hj => ?_) (by omega)
        · rw [add_none, Nat.zero_add, cell_of_heap (w := w) (w' := w') (by rw [hw']), cell_arr k1]
          rw [List.getElem?_take] at hj
          split at hj
          · simpa using hj
          · cases hj
        · obtain ⟨x', hx', hxv⟩ := own_cells hO.1 rfl k1 hrr i j row v hi hj
          refine ⟨x', ?_, hxv⟩
          have hjl : j < ie.size := by rw [← hrr row (List.mem_of_getElem? hi)]; exact (List.getElem?_eq_some_iff.1 hj).1
          have hil : i < r.length := (List.getElem?_eq_some_iff.1 hi).1
          have : (i + 1) * ie.size ≤ r.length * ie.size := Nat.mul_le_mul_right _ hil
          rw [Nat.add_mul] at this
          rw [List.getElem?_take, if_pos (by omega)]
          simpa using hx'

end
end Go.Lift
