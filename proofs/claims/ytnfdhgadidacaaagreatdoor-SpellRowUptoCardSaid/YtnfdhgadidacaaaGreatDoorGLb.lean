/- The lifting: values, states, evaluation, and that it is sound. -/
import Derived.ProofKit
import Derived.JoinedCond
import Derived.Test.YtnfdhgadidacaaaGreatDoorGLa
section
namespace Go.Lift
set_option linter.unusedVariables false
set_option linter.unusedSimpArgs false
set_option linter.unusedSectionVars false
variable [GTab] [BTy]
section
variable {P : Program} {vars : List Nat} {m : List Nat} {c : Cl} {w : World} {g : Env} {h : Heap} {a : Act} {E : Entry}
def Src (P : Program) (w : World) (size k : Nat) (x : Value) (news : List Value) : Prop :=
 ∀ w', w'.heap = w.heap → (Builtin.lenOf x).run P w' = .ok k w' ∧ (Builtin.firstCells size k x).run P w' = .ok news.toArray w'
theorem app_room {t u e ty : TypeId} {ie : TypeInfo} {du : TypeDesc} (ht : P.underlying t = some (.slice e)) (hu : P.underlying u = some du) (hdu : ∀ k, du ≠ .int k) (hi : P.info? e = some ie)
  {b n cap k : Nat} {x : Value} {news : List Value} {cur : Array Value} {e' : TypeId} (hs : Src P w ie.size k x news) (hb : w.heap[b]? = some (.cells cur e' (0, 0)))
  (hroom : n + k ≤ cap) (hfit : n * ie.size + news.length ≤ cur.size) (hone : ∀ y ∈ news, y.oneCell' = true) :
  (Builtin.append_ #[t, u] ty #[.slice (some ⟨b, 0, none⟩) n cap, x]).run P w = .ok (.slice (some ⟨b, 0, none⟩) (n + k) cap) (w.setCells b (n * ie.size) news) := by
 obtain ⟨h1, h2⟩ := hs w rfl
 have hst := run_storeCells_cells (P := P) b (n * ie.size) news 0 w (fun j hj => by
   rw [cell_arr hb]
   have : n * ie.size + j < cur.size := by omega
   simp [this]) (fun j hj => by simp [World.frozen?, hb]) hone
 unfold Builtin.append_
 simp only [Sem.run_bind, run_underlying ht, run_underlying hu, Result.andThen_ok, run_sizeOf hi, Sem.run_pure, List.getElem?_toArray, List.getElem?_cons_zero, List.getElem?_cons_succ, h1, Bool.false_eq_true, if_false, if_pos hroom, add_none, Nat.zero_add, Bool.not_false, if_true, h2]
 simp only [Nat.add_zero] at hst
 simp [hst]
theorem app_grow {t u e ty : TypeId} {ie : TypeInfo} {z : Value} {du : TypeDesc} (ht : P.underlying t = some (.slice e)) (hu : P.underlying u = some du) (hdu : ∀ k, du ≠ .int k) (hi : P.info? e = some ie) (hz : ie.zero = some z)
  {base : Option Addr} {n cap k : Nat} {x : Value} {olds news : List Value} (hs : Src P w ie.size k x news) (ho : ∀ w', w'.heap = w.heap → (Builtin.firstCells ie.size n (.slice base n cap)).run P w' = .ok olds.toArray w')
  (hroom : cap < n + k) (h63 : n + k ≤ 9223372036854775807) (hfit : (n + k) * ie.bytes ≤ 140737488355328) :
  (Builtin.append_ #[t, u] ty #[.slice base n cap, x]).run P w =
   .ok (.slice (some ⟨w.heap.size, 0, none⟩) (n + k) (grownCap w (n + k) cap e)) (w.drew.alloc (.cells (olds.toArray ++ news.toArray ++ Builtin.zeroCells z.cells (grownCap w (n + k) cap e - (n + k))) e)) := by
 obtain ⟨h1, _⟩ := hs w rfl
 obtain ⟨_, h2⟩ := hs w.drew rfl
 have h3 := ho w.drew rfl
 have hn : ¬ (n + k ≤ cap) := by omega
 have h63' : ¬ (9223372036854775807 < ((n : Int) + (k : Int))) := by omega
 have h48 := growslice_fits hroom hfit
 have h48' : ¬ (281474976710656 < Builtin.nextslicecap (n + k) cap * ie.bytes) := by omega
 simp [Builtin.append_, run_underlying ht, run_underlying hu, sizeOf, typeInfo, zeroValue, hi, hz, h1, hn, h63', h48', Question.forced, newRow, grownCap, h3, h2]
 congr 2
 apply Array.ext'
 simp [List.append_assoc]
theorem src_rows {e : TypeId} {ie : TypeInfo} (hie : P.info? e = some ie) {v : V} {x : Value} {q : List (List V)} (hv : VRr m c w v x) (hq : appRows P e v = some q) (hsz : 0 < ie.size) :
  ∃ news : List Value, Src P w ie.size q.length x news ∧ news.length = q.length * ie.size ∧ (∀ row ∈ q, row.length = ie.size) ∧
   ∀ (i j : Nat) row u, q[i]? = some row → row[j]? = some u → ∃ y, news[i * ie.size + j]? = some y ∧ VP c w u y := by
 have hts := size_of_info hie
 unfold appRows at hq
 split at hq
 ·cases hq
  have : x = .slice none 0 0 := hv
  subst this
  exact ⟨[], fun w' _ => ⟨rfl, rfl⟩, by simp, fun row hr => by simp at hr, fun i j row u hi => by simp at hi⟩
 ·rename_i k r
  split at hq
  ·rename_i hall
   have hq' := Option.some.inj hq
   subst hq'
   have hall' : ∀ row ∈ r, row.length = ie.size := fun row hr => by
    have := List.all_eq_true.1 hall row hr
    rw [hts] at this
    simpa using this
   have hp : VP c w (.list k r) x := hv
   cases hp with
   | empty k ao cap =>
    refine ⟨[], fun w' _ => ⟨rfl, ?_⟩, by simp, hall', fun i j row u hi => by simp at hi⟩
    cases ao <;> simp [Builtin.firstCells, loadCells, loadCellsFrom]
   | list k rows ad cap sz xs hne hsz' hspot hcap hcl hrow hcell hrec =>
    have hseq : sz = ie.size := by
     obtain ⟨r0, hr0⟩ := List.exists_mem_of_ne_nil _ hne
     obtain ⟨i0, hi0, hi1⟩ := List.getElem_of_mem hr0
     have h2 := hrow i0 r0 (by rw [List.getElem?_eq_getElem hi0, hi1])
     rw [← h2, hall' r0 hr0]
    subst hseq
    have hlt : ∀ j, j < r.length * ie.size → j / ie.size < r.length := fun j hj => Nat.div_lt_of_lt_mul (by rw [Nat.mul_comm]; exact hj)
    have hdm : ∀ j, j / ie.size * ie.size + j % ie.size = j := fun j => by rw [Nat.mul_comm]; exact Nat.div_add_mod j ie.size
    have hcells : ∀ j, j < r.length * ie.size → ∀ w' : World, w'.heap = w.heap → w'.cell? (ad.add j) = some (xs (j / ie.size) (j % ie.size)) := fun j hj w' hw' => by
     have h1 : r[j / ie.size]? = some (r[j / ie.size]'(hlt j hj)) := List.getElem?_eq_getElem (hlt j hj)
     have h2 := hrow _ _ h1
     have h3 : j % ie.size < (r[j / ie.size]'(hlt j hj)).length := by rw [h2]; exact Nat.mod_lt _ hsz
     have h4 := hcell _ _ _ _ h1 (List.getElem?_eq_getElem h3)
     rw [Nat.add_assoc, hdm] at h4
     rw [add_eta hspot, cell_of_heap (w := w) (w' := w') (by rw [hw'])]
     exact h4
    refine ⟨(List.range (r.length * ie.size)).map fun j => xs (j / ie.size) (j % ie.size), fun w' hw' => ⟨rfl, ?_⟩, by simp, hall', fun i j row u hi hj => ?_⟩
    ·simp only [Builtin.firstCells]
     exact run_loadCells w' ad _ _ (fun j hj => hcells j hj w' hw')
    ·have h1 := hrow i row hi
     have hjl : j < ie.size := by rw [← h1]; exact (List.getElem?_eq_some_iff.1 hj).1
     have hil : i < r.length := (List.getElem?_eq_some_iff.1 hi).1
     have hb : i * ie.size + j < r.length * ie.size := by
      have : (i + 1) * ie.size ≤ r.length * ie.size := Nat.mul_le_mul_right _ hil
      rw [Nat.add_mul] at this
      omega
     have hd : (i * ie.size + j) / ie.size = i := by rw [Nat.mul_comm, Nat.mul_add_div hsz, Nat.div_eq_of_lt hjl, Nat.add_zero]
     have hm : (i * ie.size + j) % ie.size = j := by rw [Nat.mul_comm, Nat.mul_add_mod, Nat.mod_eq_of_lt hjl]
     refine ⟨xs i j, ?_, hrec i j row u hi hj⟩
     simp [hb, hd, hm]
  ·cases hq
 ·rename_i s
  split at hq
  ·rename_i hu
   cases hq
   have : x = .string s := hv
   subst this
   have h1 : ie.size = 1 := by rw [← hts]; exact hu.2
   rw [h1]
   have hl : (byteRows s).length = s.size := by simp [byteRows]
   refine ⟨s.data.toList.map fun b => .int .u8 b.toNat, fun w' _ => ⟨by rw [hl]; rfl, ?_⟩, by simp [byteRows], fun row hr => ?_, fun i j row u hi hj => ?_⟩
   ·rw [hl]
    simp only [Builtin.firstCells, Sem.run_pure]
    congr 1
    apply Array.ext'
    simp
   ·unfold byteRows at hr
    simp only [List.mem_map] at hr
    obtain ⟨c, _, rfl⟩ := hr
    rfl
   ·obtain ⟨c, hc, rfl, rfl⟩ := byteRows_get hi hj
    exact ⟨.int .u8 c.toNat, by simp [hc], .v _ rfl⟩
  ·cases hq
 ·cases hq
def Owns (E : Entry) (m : List Nat) (c : Cl) (w : World) (g : Env) (h : Heap) (a : Act) (r : List (List V)) (y : Value) : Prop :=
 VP c w (.list .yes r) y ∧ OwnB m c w r y ∧ (∀ l r' x' b, At m w g h a l r' x' → ownBlk y = some b → ownBlk x' ≠ some b) ∧ ∀ b, ownBlk y = some b → E.w.heap.size ≤ b ∨ E.ho b
theorem owner_nil (hI : InvP vars E m c w g h a) : InvP vars E m c w (Lift.untag g) h a ∧ Owns E m c w (Lift.untag g) h a [] (.slice none 0 0) :=
 ⟨hI.untag, .empty _ _ _, .inl ⟨rfl, rfl⟩, fun _ _ _ _ _ hb => (by cases hb), fun _ hb => (by cases hb)⟩
theorem owner_slot (hI : InvP vars E m c w g h a) {u : Nat} {r : List (List V)} (hu : look g u = .list .yes r) : InvP vars E m c w (Lift.untag (Lift.ins u (.list .no r) g)) h a ∧ Owns E m c w (Lift.untag (Lift.ins u (.list .no r) g)) h a r (a.tmps.getD u undef) := by
 have hat : At m w g h a (.slot u) r (a.tmps.getD u undef) := ⟨hu, rfl⟩
 have hv := hI.core.env u
 rw [hu] at hv
 refine ⟨hI.release hu, hv, hI.core.own _ _ _ hat, fun l r' x' b hl hb hb' => ?_, fun b hb => hI.owned _ _ _ b hat trivial hb⟩
 obtain ⟨n1, hl'⟩ := At_release hl
 exact n1 (hI.core.uniq l _ r' r x' _ b hl' hat hb' hb)
theorem set_obj_flag (hI : InvP vars E m c w g h a) {i j : Nat} {cs : List V} {q : List (List V)} (hcs : cellsOfOb h i = some cs) (hj : cs[j]? = some (.list .yes q)) (hlo : E.lo ≤ i) :
  ∃ y, At m w g h a (.cell i j) q y ∧ InvP vars E m c w (Lift.untag g) (Lift.setOb h i (cs.set j (.list .no q))) a ∧ Owns E m c w (Lift.untag g) (Lift.setOb h i (cs.set j (.list .no q))) a q y := by
 have hcs0 : h[i]? = some (.cells cs) := by
  unfold cellsOfOb at hcs
  split at hcs
  ·rename_i h0; cases hcs; exact h0
  ·cases hcs
 have hil : i < m.length := by rw [hI.core.len]; exact (List.getElem?_eq_some_iff.1 hcs0).1
 have hm := List.getElem?_eq_getElem hil
 obtain ⟨arr, e, f, hw, hle, hfr, hall, hbld⟩ := hI.core.ob i _ _ hcs0 hm
 have hjl : j < cs.length := (List.getElem?_eq_some_iff.1 hj).1
 have haj : arr[j]? = some arr[j] := Array.getElem?_eq_getElem (by omega)
 have hat : At m w g h a (.cell i j) q arr[j] := ⟨cs, m[i], hcs, hj, hm, by rw [cell_arr hw]; exact haj⟩
 have hcq : ∀ (k : Nat) (r : List (List V)), (cs.set j (.list .no q))[k]? = some (.list .yes r) → k ≠ j ∧ cs[k]? = some (.list .yes r) := fun k r hk => by
  rw [List.getElem?_set] at hk
  by_cases hjk : j = k
  ·subst hjk; simp [hjl] at hk
  ·exact ⟨Ne.symm hjk, by simpa [hjk] using hk⟩
 refine ⟨arr[j], hat, hI.untag.setOb (w' := w) cs.length hlo hm rfl (fun _ _ => rfl) rfl rfl rfl ?_ ?_ (fun t i j r => noTagC t i j r) ?_, ?_⟩
 ·refine ⟨arr, e, f, hw, by simpa using hle, fun k hk => hfr k (by simpa using hk), fun k v x hv hx => ?_, fun T hT hc => ?_⟩
  ·rw [List.getElem?_set] at hv
   by_cases hjk : j = k
   ·subst hjk
    simp only [if_true, hjl, Option.some.injEq] at hv
    subst hv
    have := hall j _ x hj hx
    exact ⟨VP.flag this.1 _, this.2⟩
   ·simp only [if_neg hjk] at hv
    exact hall k v x hv hx
  ·obtain ⟨k1, x, k2, k3⟩ := isBld_iff.1 hc
   rw [List.length_set] at k1
   rw [List.getElem?_set] at k2
   by_cases hj0 : j = 0
   ·subst hj0
    simp only [if_true, hjl, Option.some.injEq] at k2
    subst k2
    cases k3
   ·simp only [if_neg hj0] at k2
    exact hbld T hT (isBld_iff.2 ⟨k1, x, k2, k3⟩)
 ·intro cs' k r x hc hk hx
  cases hc
  obtain ⟨hne, hk'⟩ := hcq k r hk
  refine .inr ⟨fun _ => ⟨cs, m[i], hcs, hk', hm, hx⟩, fun hkl => ?_⟩
  have := (List.getElem?_eq_some_iff.1 hk').1
  omega
 ·intro cs' hc v hv
  cases hc
  rcases List.mem_or_eq_of_mem_set hv with hv | rfl
  ·exact hI.old i cs hcs v hv
  ·rfl
 ·have h1 := (hall j _ _ hj haj).1
  refine ⟨h1, hI.core.own _ _ _ hat, fun l r' x' b hl hb hb' => ?_, fun b hb => hI.owned _ _ _ b hat hlo hb⟩
  have : At m w g h a l r' x' ∧ l ≠ .cell i j := by
   cases l with
   | slot t => exact ⟨At_untag (h := h) hl, fun e => by cases e⟩
   | cell k s =>
    obtain ⟨cs', b', k1, k2, k3, k4⟩ := hl
    rcases cellsOfOb_set k1 with ⟨rfl, ho⟩ | ⟨hki, hcs'⟩
    ·cases ho
     obtain ⟨hne, hk'⟩ := hcq s r' k2
     exact ⟨⟨cs, b', hcs, hk', k3, k4⟩, fun e => hne (by cases e; rfl)⟩
    ·exact ⟨⟨cs', b', hcs', k2, k3, k4⟩, fun e => hki (by cases e; rfl)⟩
  exact this.2 (hI.core.uniq l _ r' q x' _ b this.1 hat hb' hb)
theorem owner_spec (hI : InvP vars E m c w g h a) {x : Operand} {r : List (List V)} {g1 : Env} {h1 : Heap} (ho : owner E.lo (g, h) x = some (r, g1, h1)) :
  InvP vars E m c w (Lift.untag g1) h1 a ∧ Owns E m c w (Lift.untag g1) h1 a r (a.eval x) := by
 unfold owner at ho
 split at ho
 ·rename_i t
  split at ho
  ·rename_i hl
   cases ho
   have hv := hI.core.env t
   rw [hl] at hv
   have hv' : a.eval (.tmp t) = .slice none 0 0 := hv
   rw [hv']
   exact owner_nil hI
  ·rename_i q hl
   cases ho
   exact owner_slot hI hl
  ·rename_i u q hl
   split at ho
   ·rename_i q' hu
    cases ho
    obtain ⟨_, k1, k2⟩ := hI.core.tagS t u r hl
    simp only at hu
    rw [hu] at k1
    cases k1
    have := owner_slot hI hu
    rw [show a.eval (.tmp t) = a.tmps.getD u undef from k2]
    exact this
   ·cases ho
  ·rename_i i j q hl
   split at ho
   ·rename_i cs hcs
    split at ho
    ·rename_i q' hj
     split at ho
     ·rename_i hlo
      cases ho
      have hat := hI.core.tagC t i j r hl
      obtain ⟨cs2, b2, k1, k2, k3, k4⟩ := hat
      simp only at hcs
      rw [hcs] at k1
      cases k1
      rw [hj] at k2
      cases k2
      obtain ⟨y, hy, hI', hO⟩ := set_obj_flag hI hcs hj hlo
      obtain ⟨cs3, b3, e1, e2, e3, e4⟩ := hy
      rw [k3] at e3
      cases e3
      rw [k4] at e4
      have : a.eval (.tmp t) = y := Option.some.inj e4
      rw [this]
      exact ⟨hI', hO⟩
     ·cases ho
    ·cases ho
   ·cases ho
  ·cases ho
 ·rename_i k
  split at ho
  ·rename_i hk
   cases ho
   have : a.eval (.const k) = .slice none 0 0 := by
    have := hI.core.opd (.const k)
    simp only [opd, hk] at this
    exact this
   rw [this]
   exact owner_nil hI
  ·cases ho
 ·cases ho
theorem own_cells {r : List (List V)} {b cap sz : Nat} {cur : Array Value} {e : TypeId} {f : Nat × Nat} {ao : Option Addr} (hp : VP c w (.list .yes r) (.slice ao r.length cap)) (ha : ao = some ⟨b, 0, none⟩) (hb : w.heap[b]? = some (.cells cur e f)) (hrow : ∀ row ∈ r, row.length = sz) :
  ∀ (i j : Nat) row v, r[i]? = some row → row[j]? = some v → ∃ x, cur[i * sz + j]? = some x ∧ VP c w v x := by
 intro i j row v hi hj
 generalize hn : r.length = n at hp
 cases hp with
 | empty => simp at hi
 | list k rows ad cap sz' xs hne hsz hspot hcap hcl hrow' hcell hrec =>
  cases ha
  have h1 := hrow' i row hi
  have h2 := hrow row (List.mem_of_getElem? hi)
  rw [h2] at h1
  subst h1
  have h3 := hcell i j row v hi hj
  rw [cell_arr hb, Nat.zero_add] at h3
  exact ⟨_, h3, hrec i j row v hi hj⟩
theorem rows_append {r q : List (List V)} {olds news : List Value} {sz : Nat} {R : V → Value → Prop} (hl : olds.length = r.length * sz)
  (h1 : ∀ (i j : Nat) row v, r[i]? = some row → row[j]? = some v → ∃ x, olds[i * sz + j]? = some x ∧ R v x) (h2 : ∀ (i j : Nat) row v, q[i]? = some row → row[j]? = some v → ∃ x, news[i * sz + j]? = some x ∧ R v x) :
  ∀ (i j : Nat) row v, (r ++ q)[i]? = some row → row[j]? = some v → ∃ x, (olds ++ news)[i * sz + j]? = some x ∧ R v x := by
 intro i j row v hi hj
 rw [List.getElem?_append] at hi
 split at hi
 ·rename_i hlt
  obtain ⟨x, hx, hv⟩ := h1 i j row v hi hj
  exact ⟨x, by rw [List.getElem?_append_left (List.getElem?_eq_some_iff.1 hx).1]; exact hx, hv⟩
 ·rename_i hge
  obtain ⟨x, hx, hv⟩ := h2 _ j row v hi hj
  refine ⟨x, ?_, hv⟩
  have : r.length * sz ≤ i * sz := Nat.mul_le_mul_right _ (by omega)
  rw [List.getElem?_append_right (by rw [hl]; omega), hl]
  rw [Nat.sub_mul] at hx
  rw [show i * sz + j - r.length * sz = i * sz - r.length * sz + j by omega]
  exact hx
theorem done_grow (hI : InvP vars E m c w g h a) {o : Oper} {r q : List (List V)} {olds news : List Value} {rest : Array Value} {e : TypeId} {cap sz : Nat} (hsz : 0 < sz)
  (hlo : olds.length = r.length * sz) (hln : news.length = q.length * sz) (hr : ∀ row ∈ r, row.length = sz) (hq : ∀ row ∈ q, row.length = sz)
  (h1 : ∀ (i j : Nat) row v, r[i]? = some row → row[j]? = some v → ∃ x, olds[i * sz + j]? = some x ∧ VP c w v x) (h2 : ∀ (i j : Nat) row v, q[i]? = some row → row[j]? = some v → ∃ x, news[i * sz + j]? = some x ∧ VP c w v x)
  (hbt : ∀ T, BTy.bb = some T → isByteRow (r ++ q) = true → e = T) (hcap : r.length + q.length ≤ cap) (hrest : rest.size = (cap - (r.length + q.length)) * sz) (hmax : cap ≤ maxLen) (hne : r ++ q ≠ [])
  (hdo : Does P w a o (.slice (some ⟨w.heap.size, 0, none⟩) (r.length + q.length) cap) (w.drew.alloc (.cells (olds.toArray ++ news.toArray ++ rest) e)))
  (hd : ∀ t, o.dst = some t → t < E.nt) (hv : ∀ t, o.dst = some t → t ∉ vars) : Done P vars E w a o (.list .yes (r ++ q)) g h := by
 have hasz : (olds.toArray ++ news.toArray ++ rest).size = cap * sz := by
  simp only [Array.size_append, List.size_toArray, hlo, hln, hrest]
  rw [← Nat.add_mul, ← Nat.add_mul]
  congr 1
  omega
 have hnle : (r.length + q.length) * sz ≤ cap * sz := Nat.mul_le_mul_right _ hcap
 have hI' := grow_claim hI (arr := olds.toArray ++ news.toArray ++ rest) (e := e) (f := (0, 0)) (w' := w.drew.alloc (.cells (olds.toArray ++ news.toArray ++ rest) e)) ((r.length + q.length) * sz) rfl rfl rfl rfl (by rw [hasz]; exact hnle)
 have hheap : (w.drew.alloc (.cells (olds.toArray ++ news.toArray ++ rest) e)).heap[w.heap.size]? = some (.cells (olds.toArray ++ news.toArray ++ rest) e (0, 0)) := heap_alloc_new w.drew _
 have hold : ∀ b, b < w.heap.size → (w.drew.alloc (.cells (olds.toArray ++ news.toArray ++ rest) e)).heap[b]? = w.heap[b]? := fun b hb => by
  show (w.heap.push _)[b]? = _
  rw [Array.getElem?_push]; simp [show ¬ b = w.heap.size by omega]
 have hext : Ext c w (fun b => if b = w.heap.size then (r.length + q.length) * sz else c b) (w.drew.alloc (.cells (olds.toArray ++ news.toArray ++ rest) e)) := by
  refine ⟨fun b => ?_, fun b o ho => ?_⟩
  ·by_cases hb : b = w.heap.size
   ·subst hb; rw [hI.core.c_zero (Nat.le_refl _)]; exact Nat.zero_le _
   ·simp [hb]
  ·rcases Nat.lt_or_ge b w.heap.size with hb | hb
   ·exact cell_of_heap (hold b hb) o
   ·rw [hI.core.c_zero hb] at ho; omega
 have hl2 : (r ++ q).length = r.length + q.length := by simp
 have hrq : ∀ row ∈ r ++ q, row.length = sz := fun row hm => by
  rcases List.mem_append.1 hm with hm | hm
  ·exact hr row hm
  ·exact hq row hm
 have hvp := VP_new (k := .yes) (cap := cap) (c := fun b => if b = w.heap.size then (r.length + q.length) * sz else c b) (rows := r ++ q) hheap hsz hrq (by rw [hl2]; exact hcap) (by simp only [hl2, if_true]; exact Nat.le_refl _) (fun i j row v hi hj => by
  obtain ⟨x, hx, hxv⟩ := rows_append hlo h1 h2 i j row v hi hj
  refine ⟨x, ?_, hxv.mono hext⟩
  rw [Array.getElem?_append_left]
  ·rw [← Array.getElem?_toList]; simpa using hx
  ·have := (List.getElem?_eq_some_iff.1 hx).1
   simpa using this)
 rw [hl2] at hvp
 refine ⟨_, _, m, fun b => if b = w.heap.size then (r.length + q.length) * sz else c b, hdo, ?_⟩
 refine hI'.putOwn hd hvp ?_ ?_ ?_ (.inl hv)
 ·refine .inr ⟨w.heap.size, cap, _, e, sz, by rw [hl2], hheap, by rw [hl2]; exact hcap, hmax, hasz, hsz, hrq, by simp, ?_, fun h0 => absurd h0 hne, hbt⟩
  intro hb
  obtain ⟨i, hi, hb⟩ := List.getElem_of_mem hb
  have := hI.core.m_lt (List.getElem?_eq_getElem hi)
  omega
 ·intro l r' x' b hl hb hb'
  cases hb
  have hl' : At m w g h a l r' x' := by
   cases l with
   | slot t => exact hl
   | cell i j =>
    obtain ⟨cs, b, k1, k2, k3, k4⟩ := hl
    exact ⟨cs, b, k1, k2, k3, by rw [← cell_of_heap (hold b (hI.core.m_lt k3))]; exact k4⟩
  exact absurd ((hI.core.own l r' x' hl').lt hb').1 (Nat.lt_irrefl _)
 ·intro b hb
  cases hb
  exact .inl hI.fr.size
theorem done_room (hI : InvP vars E m c w g h a) {o : Oper} {r q : List (List V)} {news : List Value} {b cap sz : Nat} {cur : Array Value} {e : TypeId} (hb : w.heap[b]? = some (.cells cur e (0, 0)))
  (hO : Owns E m c w g h a r (.slice (some ⟨b, 0, none⟩) r.length cap)) (hcur : cur.size = cap * sz) (hsz : 0 < sz) (hr : ∀ row ∈ r, row.length = sz) (hq : ∀ row ∈ q, row.length = sz) (hc : c b = r.length * sz) (hbm : b ∉ m) (hmax : cap ≤ maxLen)
  (hln : news.length = q.length * sz) (h2 : ∀ (i j : Nat) row v, q[i]? = some row → row[j]? = some v → ∃ x, news[i * sz + j]? = some x ∧ VP c w v x) (hbt : ∀ T, BTy.bb = some T → isByteRow (r ++ q) = true → e = T) (hcap : r.length + q.length ≤ cap) (hne : r ++ q = [] → cap = 0)
  (hdo : Does P w a o (.slice (some ⟨b, 0, none⟩) (r.length + q.length) cap) (w.setCells b (r.length * sz) news))
  (hd : ∀ t, o.dst = some t → t < E.nt) (hv : ∀ t, o.dst = some t → t ∉ vars) : Done P vars E w a o (.list .yes (r ++ q)) g h := by
 have hnle : (r.length + q.length) * sz ≤ cap * sz := Nat.mul_le_mul_right _ hcap
 have hfit : r.length * sz + news.length ≤ cur.size := by rw [hln, hcur, ← Nat.add_mul]; exact hnle
 obtain ⟨k1, k2, k3, k4, k5, arr', k6, k7⟩ := setCells_spec b news (r.length * sz) w cur e (0, 0) hb hfit
 have hbl : b < w.heap.size := (Array.getElem?_eq_some_iff.1 hb).1
 have hasz : arr'.size = cap * sz := by
  rw [← hcur, ← Array.length_toList, k7]
  simp only [List.length_append, List.length_take, List.length_drop, Array.length_toList]
  omega
 have hget : ∀ k, k < r.length * sz → arr'[k]? = cur[k]? := fun k hk => by
  rw [← Array.getElem?_toList, k7, getElem?_splice (by simpa using hfit), if_neg (by omega)]
  simp
 have hI' := hI.grown (c' := fun k => if k = b then (r.length + q.length) * sz else c k) (w' := w.setCells b (r.length * sz) news) (some b) (by rw [k1]; exact Nat.le_refl _)
  (fun k hk hne => ⟨k2 k (fun e => hne (by rw [e])), by simp [show ¬ k = b from fun e => hne (by rw [e])]⟩)
  (fun k hk => by
   cases hk
   refine ⟨hbm, fun l r' x' hl => ?_, hO.2.2.2 b rfl, ?_, fun o ho => ?_, arr', e, (0, 0), k6, by simp only [if_true]; rw [hasz]; exact hnle⟩
   ·exact hO.2.2.1 l r' x' b hl rfl
   ·simp only [if_true, hc]; exact Nat.mul_le_mul_right _ (by omega)
   ·rw [cell_arr k6, cell_arr hb]
    exact hget o (by rw [← hc]; exact ho))
  (fun k hk hne h0 => by
   have : ¬ k = b := fun e => hne (by rw [e])
   simp only [if_neg this] at h0
   rw [hI.core.c_zero hk] at h0; omega) k3 k4 k5
 have hext : Ext c w (fun k => if k = b then (r.length + q.length) * sz else c k) (w.setCells b (r.length * sz) news) := by
  refine ⟨fun k => ?_, fun k o ho => ?_⟩
  ·by_cases hk : k = b
   ·subst hk; simp only [if_true, hc]; exact Nat.mul_le_mul_right _ (by omega)
   ·simp [hk]
  ·by_cases hk : k = b
   ·subst hk
    rw [cell_arr k6, cell_arr hb]
    exact hget o (by rw [← hc]; exact ho)
   ·exact cell_of_heap (k2 k hk) o
 have hl2 : (r ++ q).length = r.length + q.length := by simp
 have hrq : ∀ row ∈ r ++ q, row.length = sz := fun row hm => by
  rcases List.mem_append.1 hm with hm | hm
  ·exact hr row hm
  ·exact hq row hm
 have holds := own_cells hO.1 rfl hb hr
 have holdl : (cur.toList.take (r.length * sz)).length = r.length * sz := by
  rw [List.length_take, Array.length_toList]
  exact Nat.min_eq_left (Nat.le_trans (Nat.le_add_right _ _) hfit)
 have hvp := VP_new (k := .yes) (cap := cap) (c := fun k => if k = b then (r.length + q.length) * sz else c k) (rows := r ++ q) k6 hsz hrq (by rw [hl2]; exact hcap) (by simp only [hl2, if_true]; exact Nat.le_refl _) (fun i j row v hi hj => by
  obtain ⟨x, hx, hxv⟩ := rows_append (olds := cur.toList.take (r.length * sz)) (news := news) holdl (fun i j row v hi hj => by
   obtain ⟨x, hx, hxv⟩ := holds i j row v hi hj
   refine ⟨x, ?_, hxv⟩
   have hjl : j < sz := by rw [← hr row (List.mem_of_getElem? hi)]; exact (List.getElem?_eq_some_iff.1 hj).1
   have hil : i < r.length := (List.getElem?_eq_some_iff.1 hi).1
   have : (i + 1) * sz ≤ r.length * sz := Nat.mul_le_mul_right _ hil
   rw [Nat.add_mul] at this
   rw [List.getElem?_take, if_pos (by omega)]
   simpa using hx) h2 i j row v hi hj
  refine ⟨x, ?_, hxv.mono hext⟩
  rw [← Array.getElem?_toList, k7, List.getElem?_append_left (List.getElem?_eq_some_iff.1 hx).1]
  exact hx)
 rw [hl2] at hvp
 refine ⟨_, _, m, fun k => if k = b then (r.length + q.length) * sz else c k, hdo, ?_⟩
 refine hI'.putOwn hd hvp ?_ ?_ ?_ (.inl hv)
 ·exact .inr ⟨b, cap, arr', e, sz, by rw [hl2], k6, by rw [hl2]; exact hcap, hmax, hasz, hsz, hrq, by simp, hbm, hne, hbt⟩
 ·intro l r' x' k hl hk
  cases hk
  have hl' : At m w g h a l r' x' := by
   cases l with
   | slot t => exact hl
   | cell i j =>
    obtain ⟨cs, b', q1, q2, q3, q4⟩ := hl
    exact ⟨cs, b', q1, q2, q3, by rw [← cell_of_heap (k2 b' (fun e => hbm (e ▸ List.mem_of_getElem? q3)))]; exact q4⟩
  exact hO.2.2.1 l r' x' b hl' rfl
 ·intro k hk
  cases hk
  exact hO.2.2.2 b rfl
theorem exec_append (ρ : Operand → Value) {o : Oper} {k : Call} (ho : o.op = .call k) (hc : k.callee = .builtin .append) : execOp ρ o = (do pure (Next.value (← Builtin.append_ k.argTypes o.type (k.args.map ρ)))) := by
 simp [execOp, ho, resolve, hc, invoke, builtin]
theorem eff_append (hI : InvP vars E m c w g h a) {o : Oper} {k : Call} {x y : Operand} {e : TypeId} {du : TypeDesc} {r q : List (List V)} {g1 : Env} {h1 : Heap} (ho : o.op = .call k) (hc : k.callee = .builtin .append) (hargs : k.args.toList = [x, y])
  (htypes : k.argTypes.toList.map P.underlying = [some (.slice e), some du]) (hown : owner E.lo (g, h) x = some (r, g1, h1)) (hq : appRows P e (opd g y) = some q)
  (hcond : (tzero P e).map (·.length) = some (tsize P e) ∧ 0 < tsize P e ∧ (r.all fun z => z.length == tsize P e) = true ∧ (r.length + q.length) * P.bytesOf e ≤ 140737488355328 ∧ r.length + q.length ≤ 9223372036854775807 ∧ notInt du = true ∧ byT e r q = true)
  (hd : ∀ t, o.dst = some t → t < E.nt) (hv : ∀ t, o.dst = some t → t ∉ vars) : Done P vars E w a o (.list .yes (r ++ q)) (Lift.untag g1) h1 := by
 obtain ⟨c1, c2, c3, c4, c5, c6, c7⟩ := hcond
 obtain ⟨hI1, hO⟩ := owner_spec hI hown
 obtain ⟨ie, hie⟩ : ∃ ie, P.info? e = some ie := by
  cases hie : P.info? e with
  | some ie => exact ⟨ie, rfl⟩
  | none => simp [tsize, Program.cellsOf, hie] at c2
 have hsz := size_of_info hie
 have hsz0 : 0 < ie.size := by rw [← hsz]; exact c2
 obtain ⟨z, hz, hzl⟩ : ∃ z, ie.zero = some z ∧ z.cells.size = ie.size := by
  unfold tzero at c1
  rw [hie] at c1
  cases hz : ie.zero with
  | none => simp [hz] at c1
  | some z => simp [hz] at c1; exact ⟨z, rfl, by rw [c1, hsz]⟩
 have hby : P.bytesOf e = ie.bytes := by simp [Program.bytesOf, hie]
 rw [hby] at c4
 obtain ⟨news, hsrc, hnl, hqr, hnew⟩ := src_rows hie (hI.core.opd y) hq hsz0
 have hrr : ∀ row ∈ r, row.length = ie.size := fun row hr => by
  have := List.all_eq_true.1 c3 row hr
  rw [hsz] at this
  simpa using this
 obtain ⟨t, u, ht2, htu, huu⟩ : ∃ t u, k.argTypes = #[t, u] ∧ P.underlying t = some (.slice e) ∧ P.underlying u = some du := by
  rcases hl : k.argTypes.toList with _ | ⟨t, _ | ⟨u, _ | ⟨v, l⟩⟩⟩ <;> rw [hl] at htypes <;> simp at htypes
  exact ⟨t, u, by rw [← Array.toArray_toList (xs := k.argTypes), hl], htypes.1, htypes.2⟩
 have hdu : ∀ kk, du ≠ .int kk := fun kk e => by subst e; cases c6
 have hargs' : k.args.map a.eval = #[a.eval x, a.eval y] := by
  rw [← Array.toArray_toList (xs := k.args), hargs]; simp
 have hdo : ∀ v w', (Builtin.append_ #[t, u] o.type #[a.eval x, a.eval y]).run P w = .ok v w' → Does P w a o v w' := fun v w' hr => by
  refine does_of (exec_append a.eval ho hc) ?_
  rw [ht2, hargs']
  exact hr
 have hone : ∀ v ∈ news, v.oneCell' = true := fun v hv => by
  obtain ⟨p, hp, rfl⟩ := List.getElem_of_mem hv
  have hp' : p / ie.size < q.length := Nat.div_lt_of_lt_mul (by rw [Nat.mul_comm, ← hnl]; exact hp)
  have hrow := hqr _ (List.getElem_mem hp')
  have hm : p % ie.size < (q[p / ie.size]).length := by rw [hrow]; exact Nat.mod_lt _ hsz0
  obtain ⟨z', hz', hvp⟩ := hnew _ _ _ _ (List.getElem?_eq_getElem hp') (List.getElem?_eq_getElem hm)
  rw [Nat.mul_comm, Nat.div_add_mod, List.getElem?_eq_getElem hp] at hz'
  cases hz'
  exact hvp.oneCell
 have hgrow : ∀ {base : Option Addr} {cap : Nat} {olds : List Value}, a.eval x = .slice base r.length cap → (∀ w', w'.heap = w.heap → (Builtin.firstCells ie.size r.length (.slice base r.length cap)).run P w' = .ok olds.toArray w') →
   olds.length = r.length * ie.size → (∀ (i j : Nat) row v, r[i]? = some row → row[j]? = some v → ∃ x, olds[i * ie.size + j]? = some x ∧ VP c w v x) → cap < r.length + q.length → Done P vars E w a o (.list .yes (r ++ q)) (Lift.untag g1) h1 := fun {base cap olds} hx hf hol hoc hlt => by
  have hrun := app_grow (P := P) (w := w) (ty := o.type) htu huu hdu hie hz hsrc hf hlt c5 c4
  rw [← hx] at hrun
  have hge := grownCap_ge w (r.length + q.length) cap e
  refine done_grow hI1 hsz0 hol hnl hrr hqr hoc hnew (byT_of c7) hge ?_ (grownCap_le_maxLen w _ _ e (by unfold maxLen; exact c5)) ?_ (hdo _ _ hrun) hd hv
  ·rw [size_zeroCells, hzl]
  ·intro h0
   have := congrArg List.length h0
   rw [List.length_append, List.length_nil] at this
   omega
 rcases hO.2.1 with ⟨hx, hr0⟩ | ⟨b, cap, cur, e', sz, hx, k1, k2, k3, k4, k5, k6, k7, k8, k9, k10⟩
 ·subst hr0
  by_cases hk : q.length = 0
  ·have hq0 : q = [] := List.eq_nil_of_length_eq_zero hk
   subst hq0
   refine ⟨.slice none 0 0, w, m, c, hdo _ _ ?_, hI1.putOwn hd (.empty _ _ _) (.inl ⟨rfl, rfl⟩) (fun _ _ _ _ _ hb => by cases hb) (fun _ hb => by cases hb) (.inl hv)⟩
   obtain ⟨s1, s2⟩ := hsrc w rfl
   have hzz : (match du with | .int _ => true | _ => false) = false := by
    cases du <;> first | rfl | (exact absurd rfl (hdu _))
   have hnews : news = [] := List.eq_nil_of_length_eq_zero (by rw [hnl]; simp)
   subst hnews
   rw [hx]
   simp only [List.length_nil] at s1 s2
   simp [Builtin.append_, run_underlying htu, run_underlying huu, sizeOf, typeInfo, hie, s1, s2]
  ·exact hgrow (base := none) (cap := 0) (olds := []) hx (fun w' _ => by simp [Builtin.firstCells]) (by simp) (fun i j row v hi => by simp at hi) (by simp; omega)
 ·by_cases hroom : r.length + q.length ≤ cap
  ·by_cases hr0 : r = []
   ·subst hr0
    have hcap0 := k9 rfl
    subst hcap0
    have hq0 : q = [] := List.eq_nil_of_length_eq_zero (by rw [List.length_nil] at hroom; omega)
    subst hq0
    have hnews : news = [] := List.eq_nil_of_length_eq_zero (by rw [hnl]; simp)
    subst hnews
    rw [hx] at hO
    refine done_room (news := []) hI1 k1 hO k4 k5 (fun _ h0 => by cases h0) (fun _ h0 => by cases h0) k7 k8 k3 (by simp) (fun i j row v hi => by simp at hi) (fun T hT hb => by cases hb) hroom (fun _ => rfl) (hdo _ _ ?_) hd hv
    have := app_room (P := P) (w := w) (ty := o.type) htu huu hdu hie hsrc k1 hroom (by simp) (fun _ h0 => by cases h0)
    rw [hx]
    simpa using this
   ·have hse : sz = ie.size := by
     obtain ⟨r0, hm⟩ := List.exists_mem_of_ne_nil _ hr0
     rw [← k6 r0 hm, hrr r0 hm]
    subst hse
    have hfit : r.length * ie.size + news.length ≤ cur.size := by rw [hnl, k4, ← Nat.add_mul]; exact Nat.mul_le_mul_right _ hroom
    rw [hx] at hO
    refine done_room hI1 k1 hO k4 k5 hrr hqr k7 k8 k3 hnl hnew (fun T hT hb => k10 T hT (by rw [isByteRow_app hr0] at hb; exact hb)) hroom (fun h0 => absurd (List.append_eq_nil_iff.1 h0).1 hr0) (hdo _ _ ?_) hd hv
    rw [hx]
    exact app_room (P := P) (w := w) (ty := o.type) htu huu hdu hie hsrc k1 hroom hfit hone
  ·by_cases hr0 : r = []
   ·subst hr0
    exact hgrow (olds := []) hx (fun w' _ => run_firstCells_some w' ie.size 0 ⟨b, 0, none⟩ 0 cap [] (by simp) (fun j v hj => by simp at hj)) (by simp) (fun i j row v hi => by simp at hi) (by omega)
   ·have hse : sz = ie.size := by
     obtain ⟨r0, hm⟩ := List.exists_mem_of_ne_nil _ hr0
     rw [← k6 r0 hm, hrr r0 hm]
    subst hse
    rw [hx] at hO
    have hle : r.length * ie.size ≤ cur.size := by rw [k4]; exact Nat.mul_le_mul_right _ k2
    have hol : (cur.toList.take (r.length * ie.size)).length = r.length * ie.size := by
     rw [List.length_take, Array.length_toList]
     exact Nat.min_eq_left hle
    refine hgrow (olds := cur.toList.take (r.length * ie.size)) hx (fun w' hw' => run_firstCells_some w' ie.size r.length ⟨b, 0, none⟩ r.length cap _ hol (fun j v hj => ?_)) hol (fun i j row v hi hj => ?_) (by omega)
    ·rw [add_none, Nat.zero_add, cell_of_heap (w := w) (w' := w') (by rw [hw']), cell_arr k1]
     rw [List.getElem?_take] at hj
     split at hj
     ·simpa using hj
     ·cases hj
    ·obtain ⟨x', hx', hxv⟩ := own_cells hO.1 rfl k1 hrr i j row v hi hj
     refine ⟨x', ?_, hxv⟩
     have hjl : j < ie.size := by rw [← hrr row (List.mem_of_getElem? hi)]; exact (List.getElem?_eq_some_iff.1 hj).1
     have hil : i < r.length := (List.getElem?_eq_some_iff.1 hi).1
     have : (i + 1) * ie.size ≤ r.length * ie.size := Nat.mul_le_mul_right _ hil
     rw [Nat.add_mul] at this
     rw [List.getElem?_take, if_pos (by omega)]
     simpa using hx'
theorem eff_freeze (hI : InvP vars E m c w g h a) {o : Oper} {s d : TypeId} {x : Operand} {v : V} {g' : Env} {h' : Heap} (ho : o.op = .convert s d x) (hr : isRow P s d = true)
  (he : freezeV (g, h) x = some (v, g', h')) (hd : ∀ t, o.dst = some t → t < E.nt) (hv : ∀ t, o.dst = some t → t ∉ vars) : Done P vars E w a o v g' h' := by
 unfold isRow at hr
 simp only [Bool.and_eq_true, beq_iff_eq] at hr
 obtain ⟨rfl, hr⟩ := hr
 split at hr
 ·rename_i e hs
  have hu := is_u8 hr
  unfold freezeV at he
  split at he
  ·rename_i t
   split at he
   ·rename_i r hl
    split at he
    ·cases he
    ·rename_i hre
     simp only [Option.some.injEq, Prod.mk.injEq] at he
     obtain ⟨rfl, rfl, rfl⟩ := he
     have hne : r ≠ [] := fun h => hre (by rw [h]; rfl)
     obtain ⟨hI1, hO⟩ := owner_slot hI hl
     rcases hO.2.1 with ⟨_, h0⟩ | ⟨b, cap, cur, e', sz, hy, hb, hcap, hmax, hcur, hsz, hrow, hc, hbm, _⟩
     ·exact absurd h0 hne
     ·have hbl : b < w.heap.size := (Array.getElem?_eq_some_iff.1 hb).1
      have hmod : ∀ k, (w.freeze ⟨b, cur.size, none⟩ 1).heap[k]? = if k = b then some (.cells cur e' (cur.size, cur.size + 1)) else w.heap[k]? := by
       intro k
       unfold World.freeze
       rw [if_neg (by decide)]
       simp only
       by_cases hk : k = b
       ·subst hk
        rw [if_pos rfl, Array.getElem?_modify, if_pos rfl, hb]
        rfl
       ·rw [if_neg hk, Array.getElem?_modify, if_neg (fun e => hk e.symm)]
      have hrest : (w.freeze ⟨b, cur.size, none⟩ 1).os = w.os ∧ (w.freeze ⟨b, cur.size, none⟩ 1).tape = w.tape ∧ (w.freeze ⟨b, cur.size, none⟩ 1).output = w.output ∧ (w.freeze ⟨b, cur.size, none⟩ 1).heap.size = w.heap.size := by
       unfold World.freeze
       rw [if_neg (by decide)]
       exact ⟨rfl, rfl, rfl, by simp⟩
      have hcell : ∀ k o, (w.freeze ⟨b, cur.size, none⟩ 1).cell? ⟨k, o, none⟩ = w.cell? ⟨k, o, none⟩ := fun k o => by
       by_cases hk : k = b
       ·subst hk
        rw [cell_arr (by rw [hmod, if_pos rfl]), cell_arr hb]
       ·exact cell_of_heap (by rw [hmod, if_neg hk]) o
      have hrun : (convert s s (a.eval (.tmp t))).run P w = .ok (.slice (some ⟨b, 0, none⟩) r.length cap) (w.freeze ⟨b, cur.size, none⟩ 1) := by
       have hsh : w.shape? b = some (e', cur.size) := by unfold World.shape?; rw [hb]
       have hyy : a.eval (.tmp t) = .slice (some ⟨b, 0, none⟩) r.length cap := hy
       rw [hyy]
       simp [convert, run_underlying hs, run_underlying hu, markStringish, hsh]
      have hdo : Does P w a o (.slice (some ⟨b, 0, none⟩) r.length cap) (w.freeze ⟨b, cur.size, none⟩ 1) := does_of (s := convert s s (a.eval (.tmp t))) (by simp [execOp, ho]) hrun
      have hI' := hI1.grown (c' := c) (w' := w.freeze ⟨b, cur.size, none⟩ 1) (some b) (by rw [hrest.2.2.2]; exact Nat.le_refl _)
       (fun k hk hkb => ⟨by rw [hmod, if_neg (fun e => hkb (by rw [e]))], rfl⟩)
       (fun k hk => by
        cases hk
        refine ⟨hbm, fun l r' x' hl' => ?_, ?_, Nat.le_refl _, fun o _ => hcell b o, cur, e', _, by rw [hmod, if_pos rfl], ?_⟩
        ·exact hO.2.2.1 l r' x' b hl' (by rw [hy]; rfl)
        ·exact hO.2.2.2 b (by rw [hy]; rfl)
        ·rw [hc, hcur]; exact Nat.mul_le_mul_right _ hcap)
       (fun k hk hkb h0 => by rw [hI.core.c_zero hk] at h0; omega) hrest.1 hrest.2.1 hrest.2.2.1
      have hext : Ext c w c (w.freeze ⟨b, cur.size, none⟩ 1) := ⟨fun _ => Nat.le_refl _, fun k o _ => hcell k o⟩
      have hvp : VP c w (.list .yes r) (.slice (some ⟨b, 0, none⟩) r.length cap) := by rw [← hy]; exact hO.1
      have hvn : VP c w (.list .no r) (.slice (some ⟨b, 0, none⟩) r.length cap) := by
       cases hvp with
       | empty k ao cap => exact .empty _ _ _
       | list k rows ad cap sz xs q1 q2 q3 q4 q5 q6 q7 q8 => exact .list _ _ _ _ _ xs q1 q2 q3 q4 q5 q6 q7 q8
      exact ⟨_, _, m, c, hdo, hI'.putBare hd (hvn.mono hext) rfl (.inl hv)⟩
   ·cases he
  ·cases he
 ·cases hr
end
end Go.Lift
end

section
namespace Go.Lift
set_option linter.unusedVariables false
set_option linter.unusedSimpArgs false
set_option linter.unusedSectionVars false
variable [GTab] [BTy]
def act0 : Act := ⟨#[], []⟩
def HOK (m : List Nat) (c : Cl) (w : World) (h : Heap) : Prop := Core [] m c w [] h act0 ∧ ∀ (i : Nat) cs, cellsOfOb h i = some cs → ∀ v ∈ cs, okv (i + 1) v = true
def hoOf (m : List Nat) (w : World) (h : Heap) (lo : Nat) : Nat → Prop := fun b => ∃ i j r x, lo ≤ i ∧ At m w [] h act0 (.cell i j) r x ∧ ownBlk x = some b
def CallOK (P : Program) (lo f : Nat) (args : List V) (h : Heap) (r : V) (h' : Heap) : Prop :=
 bare r = true ∧ (∀ xs w, (callFunc f xs).run P w = .ok (.enter f xs) w) ∧
 ∀ m c w (xs : Array Value), HOK m c w h → R2 (VRr m c w) args xs.toList → (h'.length = h.length ∧ h'.take lo = h.take lo) ∧
  Calls P f xs w fun e w' => ∃ x c', e = .returned x ∧ VRr m c' w' r x ∧ HOK m c' w' h' ∧ Fr lo (hoOf m w h lo) w m c w' m c' ∧ Owned lo (hoOf m w h lo) w m w' [] h' act0
section
variable {P : Program} {vars : List Nat} {m : List Nat} {c : Cl} {w : World} {g : Env} {h : Heap} {a : Act} {E : Entry}
theorem InvP.hok (hI : InvP vars E m c w g h a) : HOK m c w h := by
 have hC := hI.core
 have hAt : ∀ {l r x}, At m w [] h act0 l r x → At m w g h a l r x := fun {l r x} hl => by
  cases l with
  | slot t => exact absurd hl.1 (by simp [look])
  | cell i j => exact hl
 refine ⟨⟨hC.wf1, hC.wf2, hC.nd, hC.len, fun t => trivial, hC.ob, fun l r x hl => hC.own l r x (hAt hl), fun l l' r r' x x' b h1 h2 => hC.uniq l l' r r' x x' b (hAt h1) (hAt h2), fun t u r ht => by simp [look] at ht, fun t i j r ht => by simp [look] at ht, hC.gt⟩, hI.old⟩
theorem take_get {α : Type} {l l' : List α} {n i : Nat} (h : l.take n = l'.take n) (hi : i < n) : l[i]? = l'[i]? := by
 have := congrArg (·[i]?) h
 simpa [List.getElem?_take, hi] using this
theorem call_step (hI : InvP vars E m c w g h a) {lo f : Nat} {args : List V} {r : V} {h' : Heap} {xs : Array Value} (hlo : E.lo ≤ lo) (hOK : CallOK P lo f args h r h') (hargs : R2 (VRr m c w) args xs.toList) :
  Calls P f xs w fun e w' => ∃ x c', e = .returned x ∧ VRr m c' w' r x ∧ InvP vars E m c' w' (Lift.untag g) h' a ∧ Ext c w c' w' ∧
   ∀ i j r x, i < lo → At m w g h a (.cell i j) r x → At m w' g h' a (.cell i j) r x := by
 obtain ⟨hbare, hcf, hcall⟩ := hOK
 obtain ⟨⟨hlen, htake⟩, hcall⟩ := hcall m c w xs hI.hok hargs
 refine hcall.mono fun e w' ⟨x, c', he, hr, ⟨hC', hold'⟩, hF, hO⟩ => ⟨x, c', he, hr, ?_, hF.ext, ?_⟩
 rotate_left
 ·intro i j r x hi ⟨cs, b, k1, k2, k3, k4⟩
  have hC := hI.core
  refine ⟨cs, b, ?_, k2, k3, ?_⟩
  ·unfold cellsOfOb at *
   rw [take_get htake hi]; exact k1
  ·rw [cell_of_heap (hF.fix b (hC.m_lt k3) (fun k hk hkb => ?_) (fun ⟨i', j', r', x', _, hat, hb'⟩ => ?_)).1]
   ·exact k4
   ·obtain ⟨l1, e1⟩ := List.getElem?_eq_some_iff.1 k3
    obtain ⟨l2, e2⟩ := List.getElem?_eq_some_iff.1 hkb
    have := (List.getElem_inj hC.nd).1 (e1.trans e2.symm)
    omega
   ·have hat' : At m w g h a (.cell i' j') r' x' := hat
    exact ((hC.own _ _ _ hat').lt hb').2 (List.mem_of_getElem? k3)
 have hC := hI.core
 have hslot : ∀ {t r x b}, At m w g h a (.slot t) r x → ownBlk x = some b → b < w.heap.size ∧ b ∉ m ∧ ¬ hoOf m w h lo b := fun {t r x b} hl hb => by
  have h1 := (hC.own _ _ _ hl).lt hb
  refine ⟨h1.1, h1.2, fun ⟨i, j, r', x', _, hat, hb'⟩ => ?_⟩
  have hat' : At m w g h a (.cell i j) r' x' := hat
  have := hC.uniq _ _ _ _ _ _ b hl hat' hb hb'
  cases this
 have hfix : ∀ {b}, b < w.heap.size → b ∉ m → ¬ hoOf m w h lo b → w'.heap[b]? = w.heap[b]? ∧ c' b = c b := fun {b} h1 h2 h3 => hF.fix b h1 (fun i _ hi => h2 (List.mem_of_getElem? hi)) h3
 have hnho : ∀ {b}, b ∈ m → ¬ hoOf m w h lo b := fun {b} hb ⟨i, j, r', x', _, hat, hb'⟩ => by
  have hat' : At m w g h a (.cell i j) r' x' := hat
  exact ((hC.own _ _ _ hat').lt hb').2 hb
 have hlow : ∀ {i j r x}, i < lo → At m w' (Lift.untag g) h' a (.cell i j) r x → At m w g h a (.cell i j) r x := fun {i j r x} hi hl => by
  obtain ⟨cs, b, k1, k2, k3, k4⟩ := hl
  have e1 : cellsOfOb h i = some cs := by
   unfold cellsOfOb at *
   rw [← take_get htake hi]; exact k1
  refine ⟨cs, b, e1, k2, k3, ?_⟩
  rw [← cell_of_heap (hF.fix b (hC.m_lt k3) (fun k hk hkb => ?_) (hnho (List.mem_of_getElem? k3))).1]
  ·exact k4
  ·have h1 := List.getElem?_eq_some_iff.1 k3
   have h2 := List.getElem?_eq_some_iff.1 hkb
   obtain ⟨l1, e1⟩ := h1
   obtain ⟨l2, e2⟩ := h2
   have := (List.getElem_inj hC.nd).1 (e1.trans e2.symm)
   omega
 have hcell : ∀ {i j r x}, At m w' (Lift.untag g) h' a (.cell i j) r x → At m w' [] h' act0 (.cell i j) r x := fun hl => hl
 have hslot' : ∀ {t r x}, At m w' (Lift.untag g) h' a (.slot t) r x → At m w g h a (.slot t) r x := fun {t r x} hl => At_untag (h := h) hl
 have hnew : ∀ {t i j r r' x x' b}, At m w g h a (.slot t) r x → At m w' (Lift.untag g) h' a (.cell i j) r' x' → ownBlk x = some b → ownBlk x' = some b → False := fun {t i j r r' x x' b} h1 h2 hb hb' => by
  obtain ⟨k1, k2, k3⟩ := hslot h1 hb
  rcases Nat.lt_or_ge i lo with hi | hi
  ·have := hC.uniq _ _ _ _ _ _ b h1 (hlow hi h2) hb hb'
   cases this
  ·rcases hO _ _ _ b (hcell h2) hi hb' with h3 | h3
   ·omega
   ·exact k3 h3
 refine ⟨⟨hC'.wf1, hC'.wf2, hC'.nd, hC'.len, fun t => ?_, hC'.ob, fun l r x hl => ?_, fun l l' r r' x x' b h1 h2 hb hb' => ?_, fun t u r ht => absurd ht (noTags t u r), fun t i j r ht => absurd ht (noTagC t i j r), hC'.gt⟩, ?_, fun l r x b hl hu hb => ?_, ?_, by rw [hlen]; exact hI.hlen, hI.ml, hI.lole, hI.nt, hI.df, hold'⟩
 ·rw [look_untag]
  exact ((hC.env t).mono (Pre.refl m) hF.ext).untag
 ·cases l with
  | slot t =>
   have h1 := hslot' hl
   refine (hC.own _ _ _ h1).keep fun b hb => ?_
   obtain ⟨k1, k2, k3⟩ := hslot h1 hb
   have := hfix k1 k2 k3
   exact ⟨this.1, this.2, id⟩
  | cell i j => exact hC'.own _ _ _ (hcell hl)
 ·cases l with
  | slot t =>
   cases l' with
   | slot u => exact hC.uniq _ _ _ _ _ _ b (hslot' h1) (hslot' h2) hb hb'
   | cell i j => exact (hnew (hslot' h1) h2 hb hb').elim
  | cell i j =>
   cases l' with
   | slot u => exact (hnew (hslot' h2) h1 hb' hb).elim
   | cell i' j' => exact hC'.uniq _ _ _ _ _ _ b (hcell h1) (hcell h2) hb hb'
 ·refine ⟨hF.os.trans hI.fr.os, hF.tape.trans hI.fr.tape, hF.output.trans hI.fr.output, Nat.le_trans hI.fr.size hF.size, hI.fr.pre, hI.fr.new, hI.fr.ext.trans hF.ext, fun b hb h1 h2 => ?_⟩
  have := hF.fix b (Nat.lt_of_lt_of_le hb hI.fr.size) (fun i hi hib => ?_) (fun ⟨i, j, r', x', hi, hat, hb'⟩ => ?_)
  ·have h3 := hI.fr.fix b hb h1 h2
   exact ⟨this.1.trans h3.1, this.2.trans h3.2⟩
  ·by_cases hil : i < E.m.length
   ·have := hI.fr.pre i _ (List.getElem?_eq_getElem hil)
    rw [hib] at this
    cases this
    exact h1 i (by omega) (List.getElem?_eq_getElem hil)
   ·have := hI.fr.new i b (by omega) hib
    omega
  ·have hat' : At m w g h a (.cell i j) r' x' := hat
   rcases hI.owned _ _ _ b hat' (show E.lo ≤ i by omega) hb' with h3 | h3
   ·omega
   ·exact h2 h3
 ·cases l with
  | slot t => exact hI.owned _ _ _ b (hslot' hl) trivial hb
  | cell i j =>
   rcases Nat.lt_or_ge i lo with hi | hi
   ·exact hI.owned _ _ _ b (hlow hi hl) hu hb
   ·rcases hO _ _ _ b (hcell hl) hi hb with h3 | ⟨i', j', r', x', hi', hat, hb'⟩
    ·exact .inl (Nat.le_trans hI.fr.size h3)
    ·have hat' : At m w g h a (.cell i' j') r' x' := hat
     exact hI.owned _ _ _ b hat' (show E.lo ≤ i' by omega) hb'
 ·have := congrArg (List.take E.lo) htake
  simp only [List.take_take, Nat.min_eq_left hlo] at this
  rw [this]
  exact hI.hlo
theorem want_spec (hI : InvP vars E m c w g h a) {ops : Array Oper} {o : Oper} {b : Bool} (hw : want ops g o = some b) : Region.wanted o (yielded ops a.tmps) = b := by
 unfold want at hw
 unfold Region.wanted
 cases hg : o.guard with
 | none => rw [hg] at hw; simp only [Option.some.injEq] at hw; exact hw
 | some p =>
  obtain ⟨j, want⟩ := p
  rw [hg] at hw
  simp only at hw ⊢
  unfold yielded
  cases hd : (ops[j]?).bind (·.dst) with
  | none => rw [hd] at hw; simp at hw; simp [hw]
  | some t =>
   rw [hd] at hw
   simp only at hw
   have he := hI.core.env t
   split at hw
   ·rename_i x hx
    rw [hx] at he
    have he' : a.tmps.getD t undef = .bool x := he
    simp only [Option.some.injEq] at hw
    subst hw
    have : a.tmps[t]? = some (.bool x) := by
     rw [Array.getD_eq_getD_getElem?] at he'
     cases hq : a.tmps[t]? with
     | none => rw [hq] at he'; simp [undef] at he'
     | some y => rw [hq] at he'; simpa using he'
    simp [this]
   ·rename_i y hx
    rw [hx] at he
    have he' : a.tmps.getD t undef = .tuple y := he
    simp only [Option.some.injEq] at hw
    subst hw
    have : ∀ z, a.tmps[t]? = some z → z = .tuple y := fun z hz => by
     rw [Array.getD_eq_getD_getElem?, hz] at he'
     simpa using he'
    cases hq : a.tmps[t]? with
    | none => simp [hq]
    | some z => rw [this z hq] at hq; simp [hq]
   ·cases hw
structure CxOK (cx : Cx) (E : Entry) : Prop where
 lo : cx.lo = E.lo
 base : cx.base = E.base
 call : ∀ lo f args h r h', lo ≤ h.length → cx.call lo f args h = some (r, h') → CallOK cx.P lo f args h r h'
theorem Does.wp {o : Oper} {x : Value} {w' : World} {next : Act → World → Prop} {Q : Exit → Act → World → Prop} (hd : Does P w a o x w') (hn : next (a.put o.dst x) w') : o.wp P a w next Q := by
 unfold Oper.wp
 rcases hd with hd | ⟨hd, rfl⟩
 ·rw [hd]; exact hn
 ·rw [hd]; exact hn
theorem exec_call {o : Oper} {k : Call} {f : Operand} {fid : Nat} {caps : Array Value} (ho : o.op = .call k) (hc : k.callee = .value f) (hf : a.eval f = .func (.func fid) #[] caps) (hcf : ∀ xs w, (callFunc fid xs).run P w = .ok (.enter fid xs) w) :
  (execOp a.eval o).run P w = .ok (.enter fid (k.args.map a.eval ++ caps)) w := by
 simp [execOp, ho, resolve, hc, Deferred.ofValue, hf, invoke, hcf]
theorem args_rel (hC : Core vars m c w g h a) (args : Array Operand) : R2 (VRr m c w) ((args.toList.map (opd g)).map fzs) (args.map a.eval).toList := by
 refine ⟨by simp, fun i u y hu hy => ?_⟩
 simp only [List.getElem?_map, Option.map_eq_some_iff, Array.toList_map] at hu hy
 obtain ⟨v, ⟨x, hx, rfl⟩, rfl⟩ := hu
 obtain ⟨x', hx', rfl⟩ := hy
 rw [hx] at hx'
 cases hx'
 exact (hC.opd x).fzs
theorem InvP.retag (hI : InvP vars E m c w (Lift.untag g) h a) (henv : ∀ t, VRr m c w (look g t) (a.tmps.getD t undef)) (hS : ∀ t u r, look g t = .list (.slot u) r → u ∈ vars ∧ look g u = .list .yes r ∧ a.tmps.getD t undef = a.tmps.getD u undef)
  (hT : ∀ t i j r, look g t = .list (.cell i j) r → At m w g h a (.cell i j) r (a.tmps.getD t undef)) : InvP vars E m c w g h a := by
 have hC := hI.core
 have hAt : ∀ {l r x}, At m w g h a l r x → At m w (Lift.untag g) h a l r x := fun {l r x} hl => by
  cases l with
  | slot t => exact ⟨by rw [look_untag]; exact untag1_yes.2 hl.1, hl.2⟩
  | cell i j => exact hl
 exact ⟨⟨hC.wf1, hC.wf2, hC.nd, hC.len, henv, hC.ob, fun l r x hl => hC.own l r x (hAt hl), fun l l' r r' x x' b h1 h2 => hC.uniq l l' r r' x x' b (hAt h1) (hAt h2), hS, hT, hC.gt⟩,
  hI.fr, fun l r x b hl hu hb => hI.owned l r x b (hAt hl) hu hb, hI.hlo, hI.hlen, hI.ml, hI.lole, hI.nt, hI.df, hI.old⟩
theorem call_op (hI : InvP vars E m c w g h a) {o : Oper} {k : Call} {f : Operand} {fid lo : Nat} {caps : List V} {r : V} {h' : Heap} (ho : o.op = .call k) (hc : k.callee = .value f) (hf : opd g f = .fn fid caps) (hlo : E.lo ≤ lo)
  (hOK : CallOK P lo fid ((k.args.toList.map (opd g)).map fzs ++ caps) h r h') {next : Act → World → Prop} {Q : Exit → Act → World → Prop}
  (hd : ∀ t, o.dst = some t → t < E.nt) (hv : ∀ t, o.dst = some t → t ∉ vars) (hn : ∀ x w' m' c', InvP vars E m' c' w' (put o.dst r (Lift.untagC g)) h' (a.put o.dst x) → next (a.put o.dst x) w') : o.wp P a w next Q := by
 have hfv := hI.core.opd f
 rw [hf] at hfv
 obtain ⟨xs, hxs, hcaps⟩ := hfv
 unfold Oper.wp
 rw [exec_call ho hc hxs hOK.2.1]
 have hargs : R2 (VRr m c w) ((k.args.toList.map (opd g)).map fzs ++ caps) (k.args.map a.eval ++ xs).toList := by
  rw [Array.toList_append]
  exact (args_rel hI.core k.args).append (hcaps.mono fun _ _ hv => VR.r (VR1.r hv.r))
 refine (call_step hI hlo hOK hargs).mono fun e w' ⟨x, c', he, hr, hI', hE, _⟩ => ?_
 subst he
 have hI2 : InvP vars E m c' w' (Lift.untagC g) h' a := InvP.retag (by rw [untag_untagC]; exact hI')
  (fun t => by rw [look_untagC]; exact ((hI.core.env t).mono (Pre.refl m) hE).untagC)
  (fun t u r ht => by
   rw [look_untagC] at ht
   obtain ⟨h1, h2, h3⟩ := hI.core.tagS t u r (untagC1_slot ht)
   exact ⟨h1, by rw [look_untagC, h2]; rfl, h3⟩)
  (fun t i j r ht => by rw [look_untagC] at ht; exact absurd ht untagC1_cell)
 exact hn x w' m c' (hI2.putBare hd hr hOK.1 (.inl hv))
theorem cellsOfOb_lt {h : Heap} {i : Nat} {cs : List V} (hi : cellsOfOb h i = some cs) : i < h.length := by
 unfold cellsOfOb at hi
 split at hi
 ·rename_i h0; exact (List.getElem?_eq_some_iff.1 h0).1
 ·cases hi
theorem call_quiet (hI : InvP vars E m c w g h a) {o : Oper} {k : Call} {f : Operand} {fid : Nat} {caps : List V} {r : V} {h' : Heap} (ho : o.op = .call k) (hc : k.callee = .value f) (hf : opd g f = .fn fid caps)
  (hOK : CallOK P h.length fid ((k.args.toList.map (opd g)).map fzs ++ caps) h r h') {next : Act → World → Prop} {Q : Exit → Act → World → Prop}
  (hd : ∀ t, o.dst = some t → t < E.nt) (hv : ∀ t, o.dst = some t → t ∉ vars) (hn : ∀ x w' m' c', InvP vars E m' c' w' (put o.dst r g) h (a.put o.dst x) → next (a.put o.dst x) w') : o.wp P a w next Q := by
 have hfv := hI.core.opd f
 rw [hf] at hfv
 obtain ⟨xs, hxs, hcaps⟩ := hfv
 have hargs : R2 (VRr m c w) ((k.args.toList.map (opd g)).map fzs ++ caps) (k.args.map a.eval ++ xs).toList := by
  rw [Array.toList_append]
  exact (args_rel hI.core k.args).append (hcaps.mono fun _ _ hv => VR.r (VR1.r hv.r))
 have hh : h' = h := by
  obtain ⟨h2, h1⟩ := (hOK.2.2 m c w _ hI.hok hargs).1
  rw [List.take_length, List.take_of_length_le (by rw [h2]; exact Nat.le_refl _)] at h1
  exact h1
 subst hh
 unfold Oper.wp
 rw [exec_call ho hc hxs hOK.2.1]
 refine (call_step hI (Nat.le_trans hI.lole hI.hlen) hOK hargs).mono fun e w' ⟨x, c', he, hr, hI', hE, hAt⟩ => ?_
 subst he
 refine hn x w' m c' (InvP.putBare (hI'.retag (fun t => (hI.core.env t).mono (Pre.refl m) hE) hI.core.tagS fun t i j r ht => ?_) hd hr hOK.1 (.inl hv))
 have h1 := hI.core.tagC t i j r ht
 have h2 := h1
 obtain ⟨cs, b, k1, _⟩ := h2
 exact hAt i j r _ (cellsOfOb_lt k1) h1
end
end Go.Lift
end

section
namespace Go.Lift
set_option linter.unusedVariables false
set_option linter.unusedSimpArgs false
set_option linter.unusedSectionVars false
variable [GTab] [BTy]
section
variable {vars : List Nat} {m : List Nat} {c : Cl} {w : World} {g : Env} {h : Heap} {a : Act} {E : Entry} {cx : Cx}
theorem opd_untag_ptr {x : Operand} {i o : Nat} (hx : opd g x = .ptr i o) : opd (untag g) x = .ptr i o := by
 cases x with
 | tmp t => simp only [opd] at hx ⊢; rw [look_untag, hx]; rfl
 | _ => exact hx
abbrev Goes (cx : Cx) (E : Entry) (a : Act) (w : World) (o : Oper) (v : V) (g' : Env) (h' : Heap) : Prop :=
 ∀ (next : Act → World → Prop) (Q : Exit → Act → World → Prop), (∀ x w' m' c', InvP cx.hint.vars E m' c' w' (put o.dst v g') h' (a.put o.dst x) → next (a.put o.dst x) w') → o.wp cx.P a w next Q
theorem Done.goes {o : Oper} {v : V} {g' : Env} {h' : Heap} (hd : Done cx.P cx.hint.vars E w a o v g' h') : Goes cx E a w o v g' h' := fun next Q hn => by
 obtain ⟨x, w', m', c', hdo, hI⟩ := hd
 exact hdo.wp (hn x w' m' c' hI)
theorem op_ok (hI : InvP cx.hint.vars E m c w g h a) (hX : CxOK cx E) {o : Oper} {v : V} {g' : Env} {h' : Heap} (he : evOp cx (g, h) o = some (v, g', h')) (hd : ∀ t, o.dst = some t → t < E.nt)
  (hv : (∃ x, o.op = .assign x) ∨ ∀ t, o.dst = some t → t ∉ cx.hint.vars) : Goes cx E a w o v g' h' := by
 unfold evOp at he
 split at he
 ·rename_i heff
  generalize hop : o.op = op at he heff
  have hv' : (∀ x, op ≠ .assign x) → ∀ t, o.dst = some t → t ∉ cx.hint.vars := fun hne => by
   rcases hv with ⟨x, hx⟩ | hv
   ·rw [hop] at hx; exact absurd hx (hne x)
   ·exact hv
  cases op with
  | assign x =>
   simp only [evEff, Option.some.injEq, Prod.mk.injEq] at he
   obtain ⟨rfl, rfl, rfl⟩ := he
   exact (eff_assign hI hop hd).goes
  | alloc t =>
   simp only [evEff] at he
   split at he
   ·rename_i z hz
    split at he
    ·rename_i hs
     simp only [Option.some.injEq, Prod.mk.injEq] at he
     obtain ⟨rfl, rfl, rfl⟩ := he
     rw [Bool.and_eq_true] at hs
     exact (eff_alloc hI hop hz hs.1 hs.2 hd (hv' (fun x e => by cases e))).goes
    ·cases he
   ·cases he
  | box t x =>
   simp only [evEff] at he
   split at he
   ·rename_i hs
    simp only [Bool.and_eq_true] at hs
    simp only [Option.some.injEq, Prod.mk.injEq] at he
    obtain ⟨rfl, rfl, rfl⟩ := he
    exact (eff_box hI hop hs.1 hs.2.1 hs.2.2 hd (hv' (fun x e => by cases e))).goes
   ·cases he
  | buildSlice t n parts =>
   simp only [evEff] at he
   split at he
   ·rename_i e hu
    split at he
    ·rename_i hc
     simp only [Option.some.injEq, Prod.mk.injEq] at he
     obtain ⟨rfl, rfl, rfl⟩ := he
     exact (eff_buildSlice hI hop hu hc hd (hv' (fun x e => by cases e))).goes
    ·cases he
   ·cases he
  | store t p x =>
   simp only [evEff] at he
   split at he
   ·rename_i b off hp
    split at he
    ·rename_i cs hcs
     split at he
     ·rename_i hc
      have hst := eff_store hI hop hp hcs (by rw [hX.lo] at hc; exact hc) hd
      split at he
      ·rename_i ds hds
       simp only [Option.some.injEq, Prod.mk.injEq] at he
       obtain ⟨rfl, rfl, rfl⟩ := he
       rw [hds] at hst
       exact hst.goes
      ·rename_i hna
       simp only [Option.some.injEq, Prod.mk.injEq] at he
       obtain ⟨rfl, rfl, rfl⟩ := he
       have h1 : cellsV (own1s (takeO g x).1) = [own1s (takeO g x).1] := by
        cases hq : own1s (takeO g x).1 <;> first | rfl | (exact absurd hq (hna _))
       have h2 : tsize cx.P t = 1 := by
        have h3 := hc.2.2.1
        have h4 := congrArg List.length h1
        rw [cellsV_own1s, List.length_map] at h4
        rw [h4] at h3
        simpa using h3.symm
       rw [h1, h2] at hst
       have h3 : off < cs.length := by have := hc.2.1; omega
       rw [show cs.take off ++ [own1s (takeO g x).1] ++ cs.drop (off + 1) = cs.set off (own1s (takeO g x).1) by rw [List.set_eq_take_append_cons_drop, if_pos h3]; simp] at hst
       exact hst.goes
     ·cases he
    ·cases he
   ·cases he
  | range t x =>
   simp only [evEff] at he
   split at he
   ·rename_i b hx hu
    simp only [Option.some.injEq, Prod.mk.injEq] at he
    obtain ⟨rfl, rfl, rfl⟩ := he
    exact (eff_range hI hop hx hu hd (hv' (fun x e => by cases e))).goes
   ·cases he
  | next x str =>
   simp only [evEff] at he
   split at he
   ·rename_i b hx
    split at he
    ·rename_i s pos hs
     split at he
     ·rename_i hlo
      have := eff_next (P := cx.P) hI.untag hop (opd_untag_ptr hx) hs (by rw [← hX.lo]; exact hlo) (fun t i j r => noTagC t i j r) hd (hv' (fun x e => by cases e))
      split at he
      ·rename_i hlt
       rw [if_pos hlt] at this
       simp only [Option.some.injEq, Prod.mk.injEq] at he
       obtain ⟨rfl, rfl, rfl⟩ := he
       exact this.goes
      ·rename_i hlt
       rw [if_neg hlt] at this
       simp only [Option.some.injEq, Prod.mk.injEq] at he
       obtain ⟨rfl, rfl, rfl⟩ := he
       exact this.goes
     ·cases he
    ·cases he
   ·cases he
  | convert s d x =>
   cases hr2 : isRow cx.P s d with
   | true =>
    simp only [evEff, hr2, if_true] at he
    exact (eff_freeze hI hop hr2 he hd (hv' (fun x e => by cases e))).goes
   | false =>
    simp only [evEff, hr2, Bool.false_eq_true, if_false] at he
    exact (eff_convert hI hop (is_string (by simpa [isEff, hr2] using heff)) he hd (hv' (fun x e => by cases e))).goes
  | call k =>
   simp only [evEff] at he
   split at he
   ·rename_i f hc
    unfold evCall at he
    split at he
    ·rename_i fid caps hf
     split at he
     ·rename_i r h2 hcall
      simp only [Option.some.injEq, Prod.mk.injEq] at he
      obtain ⟨rfl, rfl, rfl⟩ := he
      have hle : E.lo ≤ h.length := Nat.le_trans hI.lole hI.hlen
      rw [hX.lo] at hcall
      exact fun next Q hn => call_op hI hop hc hf (Nat.le_refl _) (hX.call _ _ _ _ _ _ hle hcall) hd (hv' (fun x e => by cases e)) hn
     ·cases he
    ·cases he
   ·rename_i hc
    split at he
    ·rename_i x y e u hargs htypes
     split at he
     ·rename_i r s' q hown hq
      split at he
      ·rename_i hcond
       simp only [Option.some.injEq, Prod.mk.injEq] at he
       obtain ⟨rfl, rfl, rfl⟩ := he
       rw [hX.lo] at hown
       exact (eff_append hI hop hc hargs htypes hown hq hcond hd (hv' (fun x e => by cases e))).goes
      ·cases he
     ·cases he
    ·cases he
   ·cases he
  | _ => cases heff
 ·rename_i heff
  simp only [Option.map_eq_some_iff, Prod.mk.injEq] at he
  obtain ⟨v', hp, rfl, rfl, rfl⟩ := he
  have hna : ∀ t, o.dst = some t → t ∉ cx.hint.vars := by
   rcases hv with ⟨x, hx⟩ | hv
   ·rw [hx] at heff; exact absurd rfl heff
   ·exact hv
  obtain ⟨y, hy, hvr, ht⟩ := pure_ok hI.core hp
  intro next Q hn
  exact (show Does cx.P w a o y w from .inl hy).wp (hn y w m c (hI.put hd hvr ht (.inl hna)))
def OpsOK (cx : Cx) (E : Entry) (l : List Oper) : Prop := ∀ o ∈ l, (∀ t, o.dst = some t → t < E.nt) ∧ ((∃ x, o.op = .assign x) ∨ ∀ t, o.dst = some t → t ∉ cx.hint.vars)
theorem undef_put (hI : InvP cx.hint.vars E m c w g h a) {o : Oper} (hd : ∀ t, o.dst = some t → t < E.nt) (hv : ∀ t, o.dst = some t → t ∉ cx.hint.vars) :
  InvP cx.hint.vars E m c w (put o.dst (.v undef) g) h (a.put o.dst undef) := hI.putBare hd rfl rfl (.inl hv)
theorem not_assign {o : Oper} (h : isAssign o.op = false) (hv : (∃ x, o.op = .assign x) ∨ ∀ t, o.dst = some t → t ∉ vars) : ∀ t, o.dst = some t → t ∉ vars := by
 rcases hv with ⟨x, hx⟩ | hv
 ·rw [hx] at h; cases h
 ·exact hv
theorem ops_ok (hX : CxOK cx E) {ops : Array Oper} {Q : Exit → Act → World → Prop} : ∀ (l : List Oper) (m : List Nat) (c : Cl) (w : World) (g : Env) (h : Heap) (a : Act) (s' : St), OpsOK cx E l → InvP cx.hint.vars E m c w g h a → evOps cx ops l (g, h) = some s' →
  (∀ m' c' w' a', InvP cx.hint.vars E m' c' w' s'.1 s'.2 a' → Q .normal a' w') → wpList cx.P ops Q l a w
 | [], m, c, w, g, h, a, s', _, hI, he, hQ => by
  simp only [evOps, Option.some.injEq] at he
  subst he
  exact hQ m c w a hI
 | o :: l, m, c, w, g, h, a, s', hO, hI, he, hQ => by
  have ho := hO o (by simp)
  have hO' : OpsOK cx E l := fun o' h' => hO o' (by simp [h'])
  refine wpList_step fun K hK => ?_
  simp only [evOps] at he
  split at he
  ·rename_i hw
   rw [want_spec hI hw, if_pos rfl]
   split at he
   ·rename_i v g' h' hop
    refine op_ok hI hX hop ho.1 ho.2 K Q fun x w' m' c' hI' => hK _ _ ?_
    exact ops_ok hX l m' c' w' _ _ _ s' hO' hI' he hQ
   ·cases he
  ·rename_i hw
   rw [want_spec hI hw, if_neg (by simp)]
   split at he
   ·cases he
   ·rename_i hna
    exact hK _ _ (ops_ok hX l m c w _ _ _ s' hO' (undef_put hI ho.1 (not_assign (by simpa using hna) ho.2)) he hQ)
  ·cases he
end
end Go.Lift
end

section
namespace Go.Lift
set_option linter.unusedVariables false
set_option linter.unusedSimpArgs false
set_option linter.unusedSectionVars false
variable [GTab] [BTy]
section
variable {m : List Nat} {c : Cl} {w : World} {g : Env} {h : Heap} {a : Act} {E : Entry} {cx : Cx}
theorem opd_ins {t : Nat} {v : V} {x : Operand} (hx : x ≠ .tmp t) : opd (ins t v g) x = opd g x := by
 cases x with
 | tmp u =>
  simp only [opd, look_ins]
  rw [if_neg (fun e => hx (by rw [e]))]
 | _ => rfl
theorem bnd_congr {g g' : Env} {o : Option Operand} {d : Nat} (ho : ∀ x, o = some x → opd g x = opd g' x) : bnd g o d = bnd g' o d := by
 cases o with
 | none => rfl
 | some x => simp only [bnd, ho x rfl]
theorem evPure_congr {P : Program} {vars : List Nat} {g g' : Env} {op : Op} (hx : ∀ x ∈ op.operands, opd g x = opd g' x) : evPure P vars (g, h) op = evPure P vars (g', h) op := by
 have pairs : ∀ ps : Array (Nat × Operand), (∀ x ∈ (ps.toList.map (·.2)), opd g x = opd g' x) → (ps.toList.map fun p => (p.1, opd g p.2)) = ps.toList.map fun p => (p.1, opd g' p.2) := fun ps hp =>
  List.map_congr_left fun p hm => by rw [hp p.2 (List.mem_map.2 ⟨p, hm, rfl⟩)]
 cases op <;> simp only [Op.operands] at hx <;> simp only [evPure]
 case move x =>
  have := hx x (by simp)
  cases x with
  | tmp t => simp only [opd] at this; simp only [this]
  | const v => rfl
  | global n => rfl
  | func f => rfl
 case pick k x y => rw [hx k (by simp), hx x (by simp), hx y (by simp)]
 case build t ps => rw [pairs ps fun x hm => hx x (by simpa using hm)]
 case load t x => rw [hx x (by simp)]
 case nilCheck x => rw [hx x (by simp)]
 case binOp op t x y u => rw [hx x (by simp), hx y (by simp)]
 case unOp op t x => rw [hx x (by simp)]
 case convert s d x => rw [hx x (by simp)]
 case makeFunc fn first caps =>
  have h1 : (caps.toList.all fun k => leaf0 (opd g k)) = (caps.toList.all fun k => leaf0 (opd g' k)) := by
   rw [Bool.eq_iff_iff, List.all_eq_true, List.all_eq_true]
   exact ⟨fun hh k hk => by rw [← hx k (by simp at hk; simp [hk])]; exact hh k hk, fun hh k hk => by rw [hx k (by simp at hk; simp [hk])]; exact hh k hk⟩
  have h2 : (caps.toList.map fun k => cp (opd g k)) = caps.toList.map fun k => cp (opd g' k) := List.map_congr_left fun k hk => by rw [hx k (by simp at hk; simp [hk])]
  rw [h1, h2]
 case slice t x lo hi mx =>
  rw [hx x (by simp)]
  have hlo : ∀ d, bnd g lo d = bnd g' lo d := fun d => bnd_congr fun y hy => hx y (by subst hy; simp)
  have hhi : ∀ d, bnd g hi d = bnd g' hi d := fun d => bnd_congr fun y hy => hx y (by subst hy; simp)
  simp only [hlo, hhi]
 case fieldAddr t x f => rw [hx x (by simp)]
 case field t x f => rw [hx x (by simp)]
 case indexAddr t x i => rw [hx x (by simp), hx i (by simp)]
 case index t x i => rw [hx x (by simp), hx i (by simp)]
 case extract x i => rw [hx x (by simp)]
 case call k =>
  have h1 : (k.args[0]?).map (opd g) = (k.args[0]?).map (opd g') := by
   cases hq : k.args[0]? with
   | none => rfl
   | some x => simp only [Option.map_some]; rw [hx x (by simp [Call.operands]; exact .inr (Array.mem_of_getElem? hq))]
  have h2 : k.args.toList.map (opd g) = k.args.toList.map (opd g') := List.map_congr_left fun x hm => hx x (by simp [Call.operands]; simp at hm; exact .inr hm)
  rw [h1, h2]
theorem evHead_congr {g g' : Env} {o : Oper} (hx : ∀ x ∈ o.op.operands, opd g x = opd g' x) : evHead cx (g, h) o = evHead cx (g', h) o := by
 unfold evHead
 split
 ·generalize o.op = op at *
  cases op with
  | call k =>
   simp only
   split
   ·rename_i f hc
    rw [hx f (by simp [Op.operands, Call.operands, hc])]
    have h2 : k.args.toList.map (opd g) = k.args.toList.map (opd g') := List.map_congr_left fun x hm => hx x (by simp [Op.operands, Call.operands]; simp at hm; exact .inr hm)
    rw [h2]
   ·rfl
  | convert s d x =>
   cases hr : (cx.hint.mutc || isRow cx.P s d) with
   | true => simp only [hr, if_true]
   | false =>
   simp only [hr, Bool.false_eq_true, if_false]
   have hr2 : isRow cx.P s d = false := by rw [Bool.or_eq_false_iff] at hr; exact hr.2
   simp only [evEff, hr2, Bool.false_eq_true, if_false]
   rw [hx x (by simp [Op.operands])]
   split
   ·split
    ·simp
    ·rfl
   ·rfl
   ·rfl
  | _ => rfl
 ·exact evPure_congr hx
theorem ins_comm (t u : Nat) (x y : V) (htu : t ≠ u) : ∀ g : Env, ins t x (ins u y g) = ins u y (ins t x g)
 | [] => by
  simp only [ins]
  rcases Nat.lt_or_gt_of_ne htu with h1 | h1
  ·simp [h1, show ¬ u < t by omega, Ne.symm htu]
  ·simp [h1, show ¬ t < u by omega, htu]
 | (k, z) :: l => by
  have ih := ins_comm t u x y htu l
  rcases Nat.lt_trichotomy t k with h1 | h1 | h1 <;> rcases Nat.lt_trichotomy u k with h2 | h2 | h2
  ·rcases Nat.lt_or_gt_of_ne htu with h3 | h3
   ·simp [ins, h1, h2, h3, show ¬ u < t by omega, Ne.symm htu]
   ·simp [ins, h1, h2, h3, show ¬ t < u by omega, htu]
  ·subst h2; simp [ins, h1, show ¬ u < t by omega, Ne.symm htu]
  ·simp [ins, h1, show ¬ u < k by omega, show ¬ u = k by omega, show ¬ u < t by omega, Ne.symm htu]
  ·subst h1; simp [ins, h2, show ¬ t < u by omega, htu]
  ·omega
  ·subst h1; simp [ins, show ¬ u < t by omega, Ne.symm htu]
  ·simp [ins, h2, show ¬ t < k by omega, show ¬ t = k by omega, show ¬ t < u by omega, htu]
  ·subst h2; simp [ins, show ¬ t < u by omega, htu]
  ·simp [ins, show ¬ t < k by omega, show ¬ t = k by omega, show ¬ u < k by omega, show ¬ u = k by omega, ih]
theorem put_comm {d e : Option Nat} (x y : V) (h : ∀ t, d = some t → e ≠ some t) : put d x (put e y g) = put e y (put d x g) := by
 cases d with
 | none => rfl
 | some t => cases e with
  | none => rfl
  | some u => exact ins_comm t u x y (fun e => h t rfl (by rw [e])) g
def opA (cx : Cx) (ops : Array Oper) (i : Nat) (s : St) : Option St :=
 match ops[i]? with
 | none => some s
 | some o =>
  match want ops s.1 o with
  | some true => match evHead cx s o with
   | some v => some (put o.dst v s.1, s.2)
   | none => none
  | some false => if isAssign o.op then none else some (put o.dst (.v undef) s.1, s.2)
  | none => none
theorem want_put {ops : Array Oper} {o : Oper} {d : Option Nat} {v : V} (h : ∀ t, d = some t → t ∉ o.looksAt ops) : want ops (put d v g) o = want ops g o := by
 cases d with
 | none => rfl
 | some t =>
  unfold want
  cases hg : o.guard with
  | none => rfl
  | some p =>
   obtain ⟨j, b⟩ := p
   simp only
   cases hd : (ops[j]?).bind (·.dst) with
   | none => rfl
   | some u =>
    have hne : u ≠ t := fun e => h t rfl (by subst e; simp [Oper.looksAt, hg, hd])
    simp only [put, look_ins, if_neg hne]
theorem evHead_put {ops : Array Oper} {o : Oper} {d : Option Nat} {v : V} (h' : ∀ t, d = some t → t ∉ o.looksAt ops) : evHead cx (put d v g, h) o = evHead cx (g, h) o := by
 cases d with
 | none => rfl
 | some t =>
  refine evHead_congr fun x hx => opd_ins fun e => h' t rfl ?_
  subst e
  exact List.mem_append_left _ (List.mem_filterMap.2 ⟨.tmp t, by simpa using hx, rfl⟩)
theorem opA_swap {ops : Array Oper} {i j : Nat} {oi oj : Oper} (hi : ops[i]? = some oi) (hj : ops[j]? = some oj) (hap : oi.apart ops oj = true) {s s1 s2 : St} (h1 : opA cx ops i s = some s1) (h2 : opA cx ops j s1 = some s2) :
  ∃ s1', opA cx ops j s = some s1' ∧ opA cx ops i s1' = some s2 := by
 obtain ⟨a1, a2, a3⟩ := Oper.apart_spec hap
 obtain ⟨g, h⟩ := s
 have hstep : ∀ {k : Nat} {o : Oper}, ops[k]? = some o → ∀ {s s' : St}, opA cx ops k s = some s' → ∃ v, s' = (put o.dst v s.1, s.2) ∧ ∀ (d : Option Nat) (u : V), (∀ t, d = some t → t ∉ o.looksAt ops) → opA cx ops k (put d u s.1, s.2) = some (put o.dst v (put d u s.1), s.2) := by
  intro k o hk s s' hs
  unfold opA at hs
  rw [hk] at hs
  simp only at hs
  split at hs
  ·rename_i hw
   split at hs
   ·rename_i v hv
    cases hs
    refine ⟨v, rfl, fun d u hd => ?_⟩
    unfold opA
    rw [hk]
    simp only [want_put hd, hw, evHead_put hd, hv]
   ·cases hs
  ·rename_i hw
   split at hs
   ·cases hs
   ·rename_i hna
    cases hs
    refine ⟨.v undef, rfl, fun d u hd => ?_⟩
    unfold opA
    rw [hk]
    simp only [want_put hd, hw, hna]
    simp
  ·cases hs
 obtain ⟨v, rfl, hiv⟩ := hstep hi h1
 have hj0 : ∃ u, opA cx ops j (g, h) = some (put oj.dst u g, h) ∧ s2 = (put oj.dst u (put oi.dst v g), h) := by
  unfold opA at h2
  rw [hj] at h2
  simp only [want_put a1, evHead_put a1] at h2
  split at h2
  ·rename_i hw
   split at h2
   ·rename_i u hu
    cases h2
    exact ⟨u, by unfold opA; rw [hj]; simp only [hw, hu], rfl⟩
   ·cases h2
  ·rename_i hw
   split at h2
   ·cases h2
   ·rename_i hna
    cases h2
    exact ⟨.v undef, by unfold opA; rw [hj]; simp only [hw, hna]; simp, rfl⟩
  ·cases h2
 obtain ⟨u, hu1, rfl⟩ := hj0
 refine ⟨_, hu1, ?_⟩
 rw [hiv oj.dst u a3]
 rw [put_comm v u a2]
def anyL (cx : Cx) (md : Region.Mode) (ops : Array Oper) (n : Nat) (L : Array Bool → St → Prop) : Nat → Array Bool → St → Prop
 | 0, listed, s => L listed s
 | f + 1, listed, s => Region.ready md ops listed ≠ [] ∧ ∀ i ∈ Region.ready md ops listed, i < n ∧ ∃ s', opA cx ops i s = some s' ∧ anyL cx md ops n L f (listed.setIfInBounds i true) s'
theorem anyL_first {md : Region.Mode} {ops : Array Oper} {n i : Nat} {oi : Oper} {L : Array Bool → St → Prop} (hi : ops[i]? = some oi)
  (hsc : n < ops.size → Region.sinkB md ops n = true ∧ Region.chainB md ops n = true) (hn : n ≤ ops.size) (hin : i < n) (hdone : ∀ listed s, L listed s → ∀ j ∈ Region.ready md ops listed, n ≤ j) :
  ∀ (f : Nat) (listed : Array Bool) (s s1 : St), HeadInv md ops n listed →
   (∀ j oj, ops[j]? = some oj → j ≠ i → listed.getD j true = false → (∀ e ∈ oj.after, Region.binds md e = true → e.on ≠ i) → oi.apart ops oj = true) →
   i ∈ Region.ready md ops listed → opA cx ops i s = some s1 →
   anyL cx md ops n L f (listed.setIfInBounds i true) s1 → anyL cx md ops n L (f + 1) listed s := by
 have hjn : ∀ (listed : Array Bool), HeadInv md ops n listed → i ∈ Region.ready md ops listed → ∀ j ∈ Region.ready md ops listed, j < n := fun listed inv hr j hj => by
  rcases Nat.lt_or_ge j n with h | h
  ·exact h
  ·rcases Nat.lt_or_ge n ops.size with h' | h'
   ·exact absurd hj (tail_waits (hsc h').1 (hsc h').2 h' inv _ i rfl hin (mem_ready.1 hr).1 j h)
   ·have := (mem_ready.1 hj).2
    obtain ⟨o, ho, _⟩ := this
    have := (Array.getElem?_eq_some_iff.1 ho).1
    omega
 intro f
 induction f with
 | zero =>
  intro listed s s1 inv _ hr h1 H
  refine ⟨fun h => (by rw [h] at hr; cases hr), fun j hj => ⟨hjn listed inv hr j hj, ?_⟩⟩
  by_cases hji : j = i
  ·subst hji; exact ⟨s1, h1, H⟩
  ·have := hdone _ _ H j (ready_mono hj hji)
   have := hjn listed inv hr j hj
   omega
 | succ f ih =>
  intro listed s s1 inv hfree hr h1 H
  have hun := (mem_ready.1 hr).1
  refine ⟨fun h => (by rw [h] at hr; cases hr), fun j hj => ⟨hjn listed inv hr j hj, ?_⟩⟩
  by_cases hji : j = i
  ·subst hji; exact ⟨s1, h1, H⟩
  ·obtain ⟨s2, h2, H2⟩ := (H.2 j (ready_mono hj hji)).2
   obtain ⟨hjun, oj, hoj, hall⟩ := mem_ready.1 hj
   have hnot : ∀ e ∈ oj.after, Region.binds md e = true → e.on ≠ i := fun e he hb heq => by
    have h1 := hall e he hb
    rw [heq, getD_both hun] at h1
    cases h1
   obtain ⟨s1', hs1', hs2⟩ := opA_swap hi hoj (hfree j oj hoj hji hjun hnot) h1 h2
   refine ⟨s1', hs1', ?_⟩
   have hfree' : ∀ k ok, ops[k]? = some ok → k ≠ i → (listed.setIfInBounds j true).getD k true = false →
     (∀ e ∈ ok.after, Region.binds md e = true → e.on ≠ i) → oi.apart ops ok = true := fun k ok hk hki hun hno => by
    refine hfree k ok hk hki ?_ hno
    by_cases hjk : j = k
    ·subst hjk; exact hjun
    ·rw [getD_set_ne true hjk] at hun; exact hun
   refine ih (listed.setIfInBounds j true) s1' s2 (inv.set hj (hjn listed inv hr j hj)) hfree' (ready_mono hr (Ne.symm hji)) hs2 ?_
   rw [Array.setIfInBounds_comm _ _ hji]
   exact H2
theorem opA_of_heads {ops : Array Oper} {o : Oper} {l : List Oper} {k : Nat} {s s' : St} (hk : ops[k]? = some o) (he : evHeads cx ops (o :: l) s = some s') : ∃ s1, opA cx ops k s = some s1 ∧ evHeads cx ops l s1 = some s' := by
 simp only [evHeads] at he
 unfold opA
 rw [hk]
 simp only
 split at he
 ·rename_i hw
  split at he
  ·rename_i v hv
   exact ⟨_, by simp only [hw, hv], he⟩
  ·cases he
 ·rename_i hw
  split at he
  ·cases he
  ·rename_i hna
   exact ⟨_, by simp only [hw, hna]; simp, he⟩
 ·cases he
theorem anyL_lex {md : Region.Mode} {ops : Array Oper} {n gg : Nat} {s' : St} (hsc : n < ops.size → Region.sinkB md ops n = true ∧ Region.chainB md ops n = true) (hn : n ≤ ops.size) :
  ∀ (l : List Oper) (k : Nat) (listed : Array Bool) (s : St), (∀ j, j < l.length → l[j]? = ops[k + j]?) → k + l.length = n → HeadInv md ops n listed →
  Region.lexHead md ops gg l.length k listed = true → evHeads cx ops l s = some s' →
  anyL cx md ops n (fun listed' s2 => Region.seqB md ops gg n listed' = true ∧ s2 = s') l.length listed s
 | [], k, listed, s, _, hk, _, hB, h => by
  have : k = n := by simpa using hk
  subst this
  simp only [evHeads, Option.some.injEq] at h
  exact ⟨by simpa [Region.lexHead] using hB, h⟩
 | o :: l, k, listed, s, hl, hk, inv, hB, h => by
  have h0 : ops[k]? = some o := by simpa using (hl 0 (by simp)).symm
  simp only [List.length_cons, Region.lexHead, Bool.and_eq_true] at hB
  obtain ⟨⟨hr, hf⟩, hB'⟩ := hB
  have hkn : k < n := by simp only [List.length_cons] at hk; omega
  have hr' : k ∈ Region.ready md ops listed := by simpa using hr
  obtain ⟨s1, h1, h2⟩ := opA_of_heads h0 h
  exact anyL_first h0 hsc hn hkn (fun listed' s2 hL => seqB_ready hL.1) l.length listed s s1 inv (Region.free_spec h0 hf) hr' h1
   (anyL_lex hsc hn l (k + 1) _ _ (fun j hj => by have := hl (j + 1) (by simp; omega); simpa [Nat.add_assoc, Nat.add_comm 1 j] using this) (by simp only [List.length_cons] at hk; omega) (inv.set hr' hkn) hB' h2)
structure Closed (ops : Array Oper) (listed : Array Bool) : Prop where
 size : listed.size = ops.size
 closed : ∀ j oj, ops[j]? = some oj → listed.getD j false = true → ∀ e ∈ oj.after, Region.binds .any e = true → listed.getD e.on false = true
theorem closed0 (ops : Array Oper) : Closed ops (Array.replicate ops.size false) :=
 ⟨by simp, fun j oj _ hl => (by rw [getD_replicate_false] at hl; cases hl)⟩
theorem Closed.set {ops : Array Oper} {listed : Array Bool} {i : Nat} (inv : Closed ops listed) (hi : i ∈ Region.ready .any ops listed) : Closed ops (listed.setIfInBounds i true) := by
 obtain ⟨_, oi, hoi, hall⟩ := mem_ready.1 hi
 refine ⟨by simp [inv.size], fun j oj hj hl e he hb => ?_⟩
 by_cases hij : i = j
 ·subst hij
  have : oj = oi := Option.some.inj (hj.symm.trans hoi)
  subst this
  exact getD_set_true (hall e he hb)
 ·rw [getD_set_ne false hij] at hl
  exact getD_set_true (inv.closed j oj hj hl e he hb)
theorem behind_waits {ops : Array Oper} {k : Nat} {listed : Array Bool} (inv : Closed ops listed) (hk : listed.getD k true = false) : ∀ j ∈ behind ops k, listed.getD j false = false ∧ j ∉ Region.ready .any ops listed := by
 have step : ∀ (l acc : List Nat), (∀ j ∈ acc, listed.getD j false = false ∧ j ∉ Region.ready .any ops listed) →
   ∀ j ∈ l.foldl (fun acc j => match ops[j]? with
    | some o => if o.after.any (fun e => Region.binds .any e && (e.on == k || acc.contains e.on)) then j :: acc else acc
    | none => acc) acc, listed.getD j false = false ∧ j ∉ Region.ready .any ops listed := by
  intro l
  induction l with
  | nil => intro acc hacc; exact hacc
  | cons x l ih =>
   intro acc hacc
   rw [List.foldl_cons]
   refine ih _ ?_
   split
   ·rename_i o ho
    split
    ·rename_i hany
     intro j hj
     rcases List.mem_cons.1 hj with rfl | hj
     ·obtain ⟨e, he, hb⟩ := Array.any_eq_true'.1 hany
      simp only [Bool.and_eq_true, Bool.or_eq_true, beq_iff_eq, List.contains_iff_mem] at hb
      have hoff : listed.getD e.on false = false := by
       rcases hb.2 with h1 | h1
       ·rw [h1]; exact getD_both hk
       ·exact (hacc _ h1).1
      refine ⟨?_, fun hr => ?_⟩
      ·cases hl : listed.getD j false with
       | false => rfl
       | true =>
        have := inv.closed j o ho hl e he hb.1
        rw [hoff] at this
        cases this
      ·obtain ⟨_, o', ho', hall⟩ := mem_ready.1 hr
       have : o' = o := Option.some.inj (ho'.symm.trans ho)
       subst this
       have := hall e he hb.1
       rw [hoff] at this
       cases this
     ·exact hacc j hj
    ·exact hacc
   ·exact hacc
 exact step _ [] (fun j hj => by cases hj)
def anyE (cx : Cx) (mx : Mix) (ops : Array Oper) (K : St → Prop) : Nat → Array Bool → St → Prop
 | 0, listed, s => Region.ready .any ops listed = [] ∧ K s
 | f + 1, listed, s => Region.ready .any ops listed ≠ [] ∧ ∀ i ∈ Region.ready .any ops listed, ∃ s', stepT cx mx ops i s = some s' ∧ anyE cx mx ops K f (listed.setIfInBounds i true) s'
theorem stepT_head {mx : Mix} {ops : Array Oper} {k : Nat} {o : Oper} (ho : ops[k]? = some o) (hk : mx.heads.contains k = true) (s : St) : stepT cx mx ops k s = opA cx ops k s := by
 unfold stepT opA
 rw [ho]
 simp only [hk, if_true, evHeads]
 rfl
def LetsBy (mx : Mix) (ops : Array Oper) (ok : Oper) (j : Nat) (oj : Oper) : Prop :=
 (mx.heads.contains j = true ∨ (mx.heads.contains j = false ∧ mx.takes.contains j = false ∧ plainOp ok.op = true ∧ isAlloc oj.op = true)) ∧ ok.apart ops oj = true
theorem headFree_spec {mx : Mix} {ops : Array Oper} {listed : Array Bool} {k : Nat} (h : headFree mx ops listed k = true) : ∃ ok, ops[k]? = some ok ∧ mx.heads.contains k = true ∧
  ∀ j oj, ops[j]? = some oj → j ≠ k → listed.getD j true = false → j ∈ behind ops k ∨ LetsBy mx ops ok j oj := by
 unfold headFree at h
 split at h
 ·cases h
 ·rename_i ok hok
  simp only [Bool.and_eq_true, List.all_eq_true, List.mem_range] at h
  refine ⟨ok, hok, h.1, fun j oj hj hne hun => ?_⟩
  have h1 := h.2 j (Array.getElem?_eq_some_iff.1 hj).1
  simp only [hj, Bool.or_eq_true, beq_iff_eq, hne, false_or, hun, Bool.false_eq_true, List.contains_iff_mem, Bool.and_eq_true, Bool.not_eq_true'] at h1
  rcases h1 with h1 | ⟨h1, h2⟩
  ·exact .inl h1
  ·refine .inr ⟨?_, h2⟩
   cases hh : mx.heads.contains j with
   | true => exact .inl rfl
   | false =>
    rcases h1 with h1 | h1
    ·have : mx.heads.contains j = true := by simpa using h1
     rw [hh] at this; cases this
    ·exact .inr ⟨rfl, h1.1.1, h1.1.2, h1.2⟩
theorem hl_more {h z : Heap} {b : Nat} {cs : List V} (hc : cellsOfOb h b = some cs) : cellsOfOb (h ++ z) b = some cs := by
 unfold cellsOfOb at hc ⊢
 rcases Nat.lt_or_ge b h.length with hb | hb
 ·rw [List.getElem?_append_left hb]; exact hc
 ·rw [List.getElem?_eq_none hb] at hc; cases hc
theorem load_more {P : Program} {h z : Heap} {t : TypeId} {a v : V} (hl : loadV P h t a = some v) : loadV P (h ++ z) t a = some v := by
 unfold loadV at hl ⊢
 cases a with
 | ptr b o =>
  simp only at hl ⊢
  cases hc : cellsOfOb h b with
  | none => rw [hc] at hl; cases hl
  | some cs => rw [hl_more hc]; rw [hc] at hl; exact hl
 | _ => exact hl
theorem plain_more {o : Oper} (hp : plainOp o.op = true) {g : Env} {h z : Heap} {v : V} (he : evHead cx (g, h) o = some v) : evHead cx (g, h ++ z) o = some v := by
 unfold evHead at he ⊢
 generalize o.op = op at hp he ⊢
 cases op <;> simp only [plainOp, Bool.false_eq_true] at hp <;> simp only [isEff, Bool.false_eq_true, if_false, evPure] at he ⊢ <;> first | exact he | exact load_more he
theorem alloc_swap {ops : Array Oper} {i : Nat} {oi oj : Oper} (hi : ops[i]? = some oi) (hp : plainOp oi.op = true) (hal : isAlloc oj.op = true) (hap : oi.apart ops oj = true) {s s1 s2 : St}
  (h1 : opA cx ops i s = some s1) (h2 : evOps cx ops [oj] s1 = some s2) : ∃ s1', evOps cx ops [oj] s = some s1' ∧ opA cx ops i s1' = some s2 := by
 obtain ⟨a1, a2, a3⟩ := Oper.apart_spec hap
 obtain ⟨g, h⟩ := s
 have hstep : ∃ v, s1 = (put oi.dst v g, h) ∧ ∀ (u : V) (z : Heap), opA cx ops i (put oj.dst u g, h ++ z) = some (put oi.dst v (put oj.dst u g), h ++ z) := by
  unfold opA at h1
  rw [hi] at h1
  simp only at h1
  split at h1
  ·rename_i hw
   split at h1
   ·rename_i v hv
    cases h1
    refine ⟨v, rfl, fun u z => ?_⟩
    unfold opA
    rw [hi]
    simp only [want_put a3, hw, evHead_put a3, plain_more hp hv]
   ·cases h1
  ·rename_i hw
   split at h1
   ·cases h1
   ·rename_i hna
    cases h1
    refine ⟨.v undef, rfl, fun u z => ?_⟩
    unfold opA
    rw [hi]
    simp only [want_put a3, hw, hna]
    simp
  ·cases h1
 obtain ⟨v, rfl, hiv⟩ := hstep
 cases hop : oj.op with
 | alloc t =>
  have hE : ∃ A : Option Ob, ∀ (g : Env), evOp cx (g, h) oj = A.map fun z => (.ptr h.length 0, (g, h ++ [z])) := by
   cases hz : tzero cx.P t with
   | none => exact ⟨none, fun g => by unfold evOp; rw [hop]; simp only [isEff, if_true, evEff, hz]; rfl⟩
   | some z =>
    by_cases hs : ((z.map ofC1).all stoOk && bldT t (z.map ofC1)) = true
    ·exact ⟨some (.cells ((z.map ofC1).map own1)), fun g => by unfold evOp; rw [hop]; simp only [isEff, if_true, evEff, hz, hs]; rfl⟩
    ·exact ⟨none, fun g => by unfold evOp; rw [hop]; simp only [isEff, if_true, evEff, hz]; rw [if_neg hs]; rfl⟩
  obtain ⟨A, hE⟩ := hE
  have hna : isAssign oj.op = false := by rw [hop]; rfl
  simp only [evOps, want_put a1, hE, hna] at h2
  simp only [evOps, hE, hna]
  cases hw : want ops g oj with
  | none => rw [hw] at h2; cases h2
  | some b =>
   rw [hw] at h2
   cases b with
   | true =>
    cases A with
    | none => cases h2
    | some z =>
     simp only [Option.map_some] at h2 ⊢
     cases h2
     exact ⟨_, rfl, by rw [hiv]; rw [put_comm _ _ a2]⟩
   | false =>
    simp only [Bool.false_eq_true, if_false] at h2 ⊢
    cases h2
    refine ⟨_, rfl, ?_⟩
    have := hiv (.v undef) []
    rw [List.append_nil] at this
    rw [this, put_comm _ _ a2]
 | _ => rw [hop] at hal; cases hal
theorem stepT_plain {mx : Mix} {ops : Array Oper} {k : Nat} {o : Oper} (ho : ops[k]? = some o) (hk : mx.heads.contains k = false) (ht : mx.takes.contains k = false) (s : St) : stepT cx mx ops k s = evOps cx ops [o] s := by
 unfold stepT
 rw [ho]
 simp only [hk, ht, Bool.false_eq_true, if_false]
theorem anyE_first {mx : Mix} {ops : Array Oper} {k : Nat} {ok : Oper} {K : St → Prop} (hk : ops[k]? = some ok) (hkh : mx.heads.contains k = true) :
  ∀ (f : Nat) (listed : Array Bool) (s s1 : St), Closed ops listed →
   (∀ j oj, ops[j]? = some oj → j ≠ k → listed.getD j true = false → j ∈ behind ops k ∨ LetsBy mx ops ok j oj) →
   k ∈ Region.ready .any ops listed → stepT cx mx ops k s = some s1 → anyE cx mx ops K f (listed.setIfInBounds k true) s1 → anyE cx mx ops K (f + 1) listed s := by
 intro f
 induction f with
 | zero =>
  intro listed s s1 inv hfree hr h1 H
  refine ⟨fun h => (by rw [h] at hr; cases hr), fun j hj => ?_⟩
  by_cases hjk : j = k
  ·subst hjk; exact ⟨s1, h1, H⟩
  ·have := ready_mono hj hjk
   rw [H.1] at this
   cases this
 | succ f ih =>
  intro listed s s1 inv hfree hr h1 H
  have hun := (mem_ready.1 hr).1
  refine ⟨fun h => (by rw [h] at hr; cases hr), fun j hj => ?_⟩
  by_cases hjk : j = k
  ·subst hjk; exact ⟨s1, h1, H⟩
  ·obtain ⟨s2, h2, H2⟩ := H.2 j (ready_mono hj hjk)
   obtain ⟨hjun, oj, hoj, hall⟩ := mem_ready.1 hj
   rcases hfree j oj hoj hjk hjun with hb | ⟨hjh, hap⟩
   ·exact absurd hj (behind_waits inv hun j hb).2
   ·rw [stepT_head hk hkh] at h1
    have hsw : ∃ s1', stepT cx mx ops j s = some s1' ∧ opA cx ops k s1' = some s2 := by
     rcases hjh with hjh | ⟨hjh, hjt, hp, hal⟩
     ·rw [stepT_head hoj hjh] at h2
      obtain ⟨s1', hs1', hs2⟩ := opA_swap hk hoj hap h1 h2
      exact ⟨s1', by rw [stepT_head hoj hjh]; exact hs1', hs2⟩
     ·rw [stepT_plain hoj hjh hjt] at h2
      obtain ⟨s1', hs1', hs2⟩ := alloc_swap hk hp hal hap h1 h2
      exact ⟨s1', by rw [stepT_plain hoj hjh hjt]; exact hs1', hs2⟩
    obtain ⟨s1', hs1', hs2⟩ := hsw
    refine ⟨s1', hs1', ?_⟩
    have hfree' : ∀ i oi, ops[i]? = some oi → i ≠ k → (listed.setIfInBounds j true).getD i true = false → i ∈ behind ops k ∨ LetsBy mx ops ok i oi := fun i oi hi hik hun => by
     refine hfree i oi hi hik ?_
     by_cases hji : j = i
     ·subst hji; exact hjun
     ·rw [getD_set_ne true hji] at hun; exact hun
    refine ih (listed.setIfInBounds j true) s1' s2 (inv.set hj) hfree' (ready_mono hr (Ne.symm hjk)) (by rw [stepT_head hk hkh]; exact hs2) ?_
    rw [Array.setIfInBounds_comm _ _ hjk]
    exact H2
theorem same_some {x y : Option St} {s : St} (h : same x y = some s) : x = some s ∧ y = some s := by
 unfold same at h
 split at h
 ·rename_i e
  subst e
  exact ⟨h, h⟩
 ·cases h
theorem tree_any {mx : Mix} {id : Nat} {ops : Array Oper} {s' : St} : ∀ (T : Tr) (n : Nat) (listed : Array Bool) (s : St), Closed ops listed → evT cx mx id ops T s = some s' →
  (trOk mx ops T n true listed = true → anyE cx mx ops (fun s2 => (Lift.untag (Lift.lives (cx.hint.live id) s2.1), s2.2) = s') n listed s) ∧
  (trOk mx ops T n false listed = true → ∀ k ∈ T.firsts, k ∈ Region.ready .any ops listed → ∃ m, n = m + 1 ∧ ∃ s1, stepT cx mx ops k s = some s1 ∧ anyE cx mx ops (fun s2 => (Lift.untag (Lift.lives (cx.hint.live id) s2.1), s2.2) = s') m (listed.setIfInBounds k true) s1)
 | .fin, n, listed, s, inv, he => by
  simp only [evT, Option.some.injEq] at he
  refine ⟨fun h => ?_, fun h => by simp [trOk] at h⟩
  simp only [trOk, Bool.and_eq_true, beq_iff_eq, List.isEmpty_iff] at h
  obtain ⟨⟨_, rfl⟩, hr⟩ := h
  exact ⟨hr, he⟩
 | .head k t, n, listed, s, inv, he => by
  simp only [evT] at he
  refine ⟨fun h => ?_, fun h => ?_⟩
  ·cases n with
   | zero => simp [trOk] at h
   | succ n =>
    simp only [trOk, Bool.and_eq_true, List.contains_iff_mem] at h
    obtain ⟨⟨⟨_, hr⟩, hf⟩, ht⟩ := h
    obtain ⟨ok, hok, hkh, hfree⟩ := headFree_spec hf
    split at he
    ·rename_i s1 h1
     exact anyE_first hok hkh n listed s s1 inv hfree hr h1 ((tree_any t n _ s1 (inv.set hr) he).1 ht)
    ·cases he
  ·cases n <;> simp [trOk] at h
 | .one k t, n, listed, s, inv, he => by
  simp only [evT] at he
  have key : ∀ {top : Bool} {n : Nat}, trOk mx ops (.one k t) n top listed = true → k ∈ Region.ready .any ops listed → ∃ m, n = m + 1 ∧ ∃ s1, stepT cx mx ops k s = some s1 ∧ anyE cx mx ops (fun s2 => (Lift.untag (Lift.lives (cx.hint.live id) s2.1), s2.2) = s') m (listed.setIfInBounds k true) s1 := fun {top n} h hr => by
   cases n with
   | zero => simp [trOk] at h
   | succ n =>
    simp only [trOk, Bool.and_eq_true] at h
    split at he
    ·rename_i s1 h1
     exact ⟨n, rfl, s1, h1, (tree_any t n _ s1 (inv.set hr) he).1 h.2⟩
    ·cases he
  refine ⟨fun h => ?_, fun h j hj hr => ?_⟩
  ·have h0 := h
   cases n with
   | zero => simp [trOk] at h
   | succ n =>
    simp only [trOk, Bool.and_eq_true, Bool.or_eq_true, Bool.not_true, Bool.false_eq_true, false_or, Bool.not_eq_true', List.isEmpty_eq_false_iff, List.all_eq_true, beq_iff_eq] at h
    refine ⟨h.1.1, fun i hi => ?_⟩
    have := h.1.2 i hi
    subst this
    obtain ⟨m, hm, r⟩ := key h0 hi
    cases hm
    exact r
  ·simp only [Tr.firsts, List.mem_singleton] at hj
   subst hj
   exact key h hr
 | .alt a b, n, listed, s, inv, he => by
  simp only [evT] at he
  obtain ⟨ha, hb⟩ := same_some he
  have key : ∀ {top : Bool}, trOk mx ops (.alt a b) n top listed = true → ∀ k ∈ a.firsts ++ b.firsts, k ∈ Region.ready .any ops listed → ∃ m, n = m + 1 ∧ ∃ s1, stepT cx mx ops k s = some s1 ∧ anyE cx mx ops (fun s2 => (Lift.untag (Lift.lives (cx.hint.live id) s2.1), s2.2) = s') m (listed.setIfInBounds k true) s1 := fun {top} h k hk hr => by
   simp only [trOk, Bool.and_eq_true] at h
   rcases List.mem_append.1 hk with hk | hk
   ·exact (tree_any a n listed s inv ha).2 h.1.2 k hk hr
   ·exact (tree_any b n listed s inv hb).2 h.2 k hk hr
  refine ⟨fun h => ?_, fun h j hj hr => key h j hj hr⟩
  have h0 := h
  simp only [trOk, Bool.and_eq_true, Bool.or_eq_true, Bool.not_true, Bool.false_eq_true, false_or, Bool.not_eq_true', List.isEmpty_eq_false_iff, List.all_eq_true, List.contains_iff_mem] at h
  obtain ⟨i0, l, hl⟩ := List.exists_cons_of_ne_nil h.1.1.1
  obtain ⟨m, hm, _⟩ := key h0 i0 (h.1.1.2 i0 (by rw [hl]; simp)) (by rw [hl]; simp)
  subst hm
  refine ⟨h.1.1.1, fun i hi => ?_⟩
  obtain ⟨m', hm', r⟩ := key h0 i (h.1.1.2 i hi) hi
  cases hm'
  exact r
end
end Go.Lift
end

section
namespace Go.Lift
set_option linter.unusedVariables false
set_option linter.unusedSimpArgs false
set_option linter.unusedSectionVars false
variable [GTab] [BTy]
section
variable {m : List Nat} {c : Cl} {w : World} {g : Env} {h : Heap} {a : Act} {E : Entry} {cx : Cx}
theorem head_ok (hI : InvP cx.hint.vars E m c w g h a) (hX : CxOK cx E) {o : Oper} {v : V} (he : evHead cx (g, h) o = some v) (hd : ∀ t, o.dst = some t → t < E.nt)
  (hv : (∃ x, o.op = .assign x) ∨ ∀ t, o.dst = some t → t ∉ cx.hint.vars) : Goes cx E a w o v g h := by
 unfold evHead at he
 split at he
 ·rename_i heff
  generalize hop : o.op = op at he heff
  have hv' : (∀ x, op ≠ .assign x) → ∀ t, o.dst = some t → t ∉ cx.hint.vars := fun hne => by
   rcases hv with ⟨x, hx⟩ | hv
   ·rw [hop] at hx; exact absurd hx (hne x)
   ·exact hv
  cases op with
  | call k =>
   simp only at he
   split at he
   ·rename_i f hc
    split at he
    ·rename_i fid caps hf
     simp only [Option.map_eq_some_iff] at he
     obtain ⟨⟨r, h2⟩, hcall, rfl⟩ := he
     exact fun next Q hn => call_quiet hI hop hc hf (hX.call _ _ _ _ _ _ (Nat.le_refl _) hcall) hd (hv' (fun x e => by cases e)) hn
    ·cases he
   ·cases he
  | convert s d x =>
   simp only at he
   split at he
   ·cases he
   ·rename_i hnr
    have hr2 : isRow cx.P s d = false := by
     rw [Bool.not_eq_true, Bool.or_eq_false_iff] at hnr; exact hnr.2
    simp only [Option.map_eq_some_iff] at he
    obtain ⟨⟨v', g', h'⟩, hev, rfl⟩ := he
    have hs := is_string (P := cx.P) (by simpa [isEff, hr2] using heff)
    simp only [evEff, hr2, Bool.false_eq_true, if_false] at hev
    have hgh : g' = g ∧ h' = h := by
     split at hev
     ·split at hev
      ·simp only [Bool.false_eq_true, if_false, Option.some.injEq, Prod.mk.injEq] at hev
       exact ⟨hev.2.1.symm, hev.2.2.symm⟩
      ·cases hev
     ·simp only [Option.some.injEq, Prod.mk.injEq] at hev
      exact ⟨hev.2.1.symm, hev.2.2.symm⟩
     ·cases hev
    obtain ⟨rfl, rfl⟩ := hgh
    exact (eff_convert (mutc := false) hI hop hs (by simp only [Bool.false_eq_true, if_false]; exact hev) hd (hv' (fun x e => by cases e))).goes
  | _ => cases he
 ·rename_i heff
  have hna : ∀ t, o.dst = some t → t ∉ cx.hint.vars := by
   rcases hv with ⟨x, hx⟩ | hv
   ·rw [hx] at heff; exact absurd rfl heff
   ·exact hv
  obtain ⟨y, hy, hvr, ht⟩ := pure_ok hI.core he
  intro next Q hn
  exact (show Does cx.P w a o y w from .inl hy).wp (hn y w m c (hI.put hd hvr ht (.inl hna)))
theorem opA_ok (hI : InvP cx.hint.vars E m c w g h a) (hX : CxOK cx E) {ops : Array Oper} (hO : OpsOK cx E ops.toList) {i : Nat} {s1 : St} (he : opA cx ops i (g, h) = some s1) {K : Act → World → Prop} {Q : Exit → Act → World → Prop}
  (hK : ∀ m' c' w' a', InvP cx.hint.vars E m' c' w' s1.1 s1.2 a' → K a' w') : wpOp cx.P ops Q i K a w := by
 unfold opA at he
 unfold wpOp
 split
 ·rename_i hn
  rw [hn] at he
  simp only [Option.some.injEq] at he
  subst he
  exact hK m c w a hI
 ·rename_i o ho
  rw [ho] at he
  simp only at he
  have hoo := hO o (Array.mem_toList_iff.2 (Array.mem_of_getElem? ho))
  split at he
  ·rename_i hw
   split at he
   ·rename_i v hv
    simp only [Option.some.injEq] at he
    subst he
    rw [want_spec hI hw, if_pos rfl]
    exact .inl (head_ok hI hX hv hoo.1 hoo.2 _ Q fun x w' m' c' hI' => hK m' c' w' _ hI')
   ·cases he
  ·rename_i hw
   split at he
   ·cases he
   ·rename_i hna
    simp only [Option.some.injEq] at he
    subst he
    rw [want_spec hI hw, if_neg (by simp)]
    exact hK m c w _ (undef_put hI hoo.1 (not_assign (by simpa using hna) hoo.2))
  ·cases he
theorem any_ok (hX : CxOK cx E) {ops : Array Oper} (hO : OpsOK cx E ops.toList) {md : Region.Mode} {n gg : Nat} {s' : St} {Q : Exit → Act → World → Prop}
  (hL : ∀ listed m c w a, Region.seqB md ops gg n listed = true → InvP cx.hint.vars E m c w s'.1 s'.2 a → wpAny cx.P md ops Q gg listed a w) :
  ∀ (f : Nat) (listed : Array Bool) (s : St) (m : List Nat) (c : Cl) (w : World) (a : Act), anyL cx md ops n (fun listed' s2 => Region.seqB md ops gg n listed' = true ∧ s2 = s') f listed s → InvP cx.hint.vars E m c w s.1 s.2 a → wpAny cx.P md ops Q (f + gg) listed a w
 | 0, listed, s, m, c, w, a, h, hI => by
  obtain ⟨h1, rfl⟩ := h
  rw [Nat.zero_add]
  exact hL listed m c w a h1 hI
 | f + 1, listed, s, m, c, w, a, h, hI => by
  rw [show f + 1 + gg = (f + gg) + 1 by omega]
  refine ⟨fun h0 => absurd h0 h.1, fun i hi => ?_⟩
  obtain ⟨_, s1, h1, h2⟩ := h.2 i hi
  exact opA_ok (g := s.1) (h := s.2) hI hX hO h1 fun m' c' w' a' hI' => any_ok hX hO hL f _ s1 m' c' w' a' h2 hI'
theorem lexFrom_head {md : Region.Mode} {ops : Array Oper} : ∀ (f k : Nat) (listed : Array Bool), Region.lexFrom md ops f k listed = Region.lexHead md ops 0 f k listed
 | 0, k, listed => rfl
 | f + 1, k, listed => by simp only [Region.lexFrom, Region.lexHead, lexFrom_head f (k + 1)]
theorem headInv0 {md : Region.Mode} (ops : Array Oper) (n : Nat) : HeadInv md ops n (Array.replicate ops.size false) :=
 ⟨by simp, fun j oj _ hl => (by rw [getD_replicate_false] at hl; cases hl), fun t _ ht => getD_in (by simpa using ht) (getD_replicate_false _ _)⟩
theorem heads_all (hX : CxOK cx E) (hm : cx.P.follows .mixedOrders = true) {id : Nat} {ops : Array Oper} (hO : OpsOK cx E ops.toList) (hdr : drawOk0 cx.P cx.hint id ops = true) (hI : InvP cx.hint.vars E m c w g h a) {s' : St} (he : evDraw0 cx id ops (g, h) = some s') {Q : Exit → Act → World → Prop}
  (hQ : ∀ m' c' w' a', InvP cx.hint.vars E m' c' w' s'.1 s'.2 a' → Q .normal a' w') : (Code.region id ops true).wp cx.P Q a w := by
 have hI0 : InvP cx.hint.vars E m c { w with drawn := w.drawn + 1 } g h a := hI.grown (c' := c) none (Nat.le_refl _) (fun b _ _ => ⟨rfl, rfl⟩) (fun b hb => by cases hb) (fun b hb _ h0 => by rw [hI.core.c_zero hb] at h0; omega) rfl rfl rfl
 unfold evDraw0 at he
 split at he
 ·rename_i s1 h1
  refine wp_region_any hm ?_
  unfold drawOk0 at hdr
  split at hdr
  ·-- all of them
   rename_i hn
   rw [hn] at h1 he
   have ht : ops.toList.take ops.size = ops.toList := List.take_of_length_le (by simp)
   have hdp : ops.toList.drop ops.size = [] := List.drop_eq_nil_of_le (by simp)
   rw [ht] at h1
   rw [hdp] at he
   simp only [evOps, Option.some.injEq] at he
   subst he
   simp only [Region.lexB, Bool.and_eq_true] at hdr
   have hany := anyL_lex (cx := cx) (md := .any) (n := ops.size) (gg := 0) (s' := s1) (fun h0 => absurd h0 (Nat.lt_irrefl _)) (Nat.le_refl _) ops.toList 0 _ (g, h) (fun j _ => by simp) (by simp) (headInv0 ops ops.size) (by rw [← lexFrom_head]; simpa using hdr.2) h1
   have := any_ok (Q := Q) hX hO (fun listed m c w a hs hI' => by
    refine ⟨?_, hQ m c w a hI'⟩
    simpa [Region.seqB] using hs) _ _ (g, h) m c _ a hany hI0
   simpa using this
  ·rename_i hn
   simp only [Region.lexTailB, Bool.and_eq_true, decide_eq_true_eq] at hdr
   obtain ⟨⟨⟨⟨hsel, hlt⟩, hs⟩, hc⟩, hlex⟩ := hdr
   have htl : (ops.toList.take (tailAt cx.P cx.hint id ops)).length = tailAt cx.P cx.hint id ops := by simp; omega
   have hdl : (ops.toList.drop (tailAt cx.P cx.hint id ops)).length = ops.size - tailAt cx.P cx.hint id ops := by simp
   have hany := anyL_lex (cx := cx) (md := .any) (n := tailAt cx.P cx.hint id ops) (gg := ops.size - tailAt cx.P cx.hint id ops) (s' := s1) (fun _ => ⟨hs, hc⟩) (Nat.le_of_lt hlt) (ops.toList.take (tailAt cx.P cx.hint id ops)) 0 _ (g, h)
    (fun j hj => by rw [List.getElem?_take, if_pos (by omega)]; simp) (by rw [Nat.zero_add, htl]) (headInv0 ops _) (by rw [htl]; exact hlex) h1
   have := any_ok (Q := Q) hX hO (fun listed m c w a hsq hI' => by
    have hw := ops_ok hX (ops := ops) (Q := Q) (ops.toList.drop (tailAt cx.P cx.hint id ops)) m c w s1.1 s1.2 a s' (fun o ho => hO o (List.mem_of_mem_drop ho)) hI' he hQ
    have := wpAny_of_seq (md := .any) (ops.toList.drop (tailAt cx.P cx.hint id ops)) (tailAt cx.P cx.hint id ops) listed a w (fun j => by rw [List.getElem?_drop]; simp) (by rw [hdl]; exact hsq) hw
    rw [hdl] at this
    exact this) _ _ (g, h) m c _ a hany hI0
   rw [htl, show tailAt cx.P cx.hint id ops + (ops.size - tailAt cx.P cx.hint id ops) = ops.size by omega] at this
   exact this
 ·cases he
theorem look_lives {l : List Nat} {t : Nat} : look (l.map fun u => (u, look g u)) t = if t ∈ l then look g t else .undef := by
 induction l with
 | nil => rfl
 | cons u l ih =>
  simp only [List.map_cons, look, ih, List.mem_cons]
  by_cases h : u = t
  ·simp [h]
  ·simp [h, Ne.symm h]
theorem InvP.lives {vars : List Nat} (hI : InvP vars E m c w g h a) (l : Option (List Nat)) : InvP vars E m c w (Lift.untag (Lift.lives l g)) h a := by
 cases l with
 | none => exact hI.untag
 | some l =>
  have hlk : ∀ t v, look (Lift.untag (Lift.lives (some l) g)) t = v → v = .undef ∨ v = untag1 (look g t) := fun t v hv => by
   rw [look_untag, Lift.lives, look_lives] at hv
   split at hv
   ·exact .inr hv.symm
   ·exact .inl hv.symm
  have hC := hI.core
  have hAt : ∀ {k r x}, At m w (Lift.untag (Lift.lives (some l) g)) h a k r x → At m w g h a k r x := fun {k r x} hl => by
   cases k with
   | slot t =>
    rcases hlk t _ hl.1 with h1 | h1
    ·cases h1
    ·exact ⟨untag1_yes.1 h1.symm, hl.2⟩
   | cell i j => exact hl
  refine ⟨⟨hC.wf1, hC.wf2, hC.nd, hC.len, fun t => ?_, hC.ob, fun k r x hl => hC.own k r x (hAt hl), fun k k' r r' x x' b h1 h2 => hC.uniq k k' r r' x x' b (hAt h1) (hAt h2), fun t u r ht => absurd ht (noTags t u r), fun t i j r ht => absurd ht (noTagC t i j r), hC.gt⟩,
   hI.fr, fun k r x b hl hu hb => hI.owned k r x b (hAt hl) hu hb, hI.hlo, hI.hlen, hI.ml, hI.lole, hI.nt, hI.df, hI.old⟩
  rcases hlk t _ rfl with h1 | h1
  ·rw [h1]; trivial
  ·rw [h1]; exact (hC.env t).untag
theorem take_ok (hI : InvP cx.hint.vars E m c w g h a) (hX : CxOK cx E) {o : Oper} {s1 : St} (he : evTake cx (g, h) o = some s1) (hd : ∀ t, o.dst = some t → t < E.nt)
  (hv : ∀ t, o.dst = some t → t ∉ cx.hint.vars) {next : Act → World → Prop} {Q : Exit → Act → World → Prop}
  (hn : ∀ x w' m' c', InvP cx.hint.vars E m' c' w' s1.1 s1.2 (a.put o.dst x) → next (a.put o.dst x) w') : o.wp cx.P a w next Q := by
 unfold evTake at he
 split at he
 ·rename_i t ht
  split at he
  ·rename_i v hp
   split at he
   ·rename_i r g1 h1 how
    simp only [Option.some.injEq] at he
    subst he
    obtain ⟨y, hy, hvr, htag⟩ := pure_ok hI.core hp
    have hI1 := hI.put (d := some t) (fun u e => hd u (ht.trans e)) hvr htag (.inl fun u e => hv u (ht.trans e))
    rw [hX.lo] at how
    obtain ⟨hI2, hvp, hob, huq, how2⟩ := owner_spec hI1 how
    have hts : t < a.tmps.size := by rw [hI.nt]; exact hd t ht
    have hev : (a.put (some t) y).eval (.tmp t) = y := by
     simp [Act.eval, Act.put, Array.getD, hts]
    rw [hev] at hvp hob huq how2
    have hI3 := hI2.putOwn (d := some t) (fun u e => hd u (ht.trans e)) hvp hob huq how2 (.inl fun u e => hv u (ht.trans e))
    have hpp : (a.put (some t) y).put (some t) y = a.put o.dst y := by
     rw [ht]
     simp [Act.put]
    rw [hpp] at hI3
    exact (show Does cx.P w a o y w from .inl hy).wp (hn y w m c hI3)
   ·cases he
  ·cases he
 ·cases he
theorem stepT_ok (hI : InvP cx.hint.vars E m c w g h a) (hX : CxOK cx E) {mx : Mix} {ops : Array Oper} (hO : OpsOK cx E ops.toList) {i : Nat} {s1 : St} (he : stepT cx mx ops i (g, h) = some s1) {K : Act → World → Prop} {Q : Exit → Act → World → Prop}
  (hK : ∀ m' c' w' a', InvP cx.hint.vars E m' c' w' s1.1 s1.2 a' → K a' w') : wpOp cx.P ops Q i K a w := by
 have he0 := he
 unfold stepT at he
 split at he
 ·cases he
 ·rename_i o ho
  have hoo := hO o (Array.mem_toList_iff.2 (Array.mem_of_getElem? ho))
  split at he
  ·rename_i hh
   rw [stepT_head ho hh] at he0
   exact opA_ok hI hX hO he0 hK
  ·split at he
   ·split at he
    ·rename_i hgd
     simp only [Bool.and_eq_true, Option.isNone_iff_eq_none, Bool.not_eq_true'] at hgd
     unfold wpOp
     rw [ho]
     simp only
     have hw : Region.wanted o (yielded ops a.tmps) = true := by simp [Region.wanted, hgd.1]
     rw [hw, if_pos rfl]
     refine .inl (take_ok hI hX he hoo.1 ?_ fun x w' m' c' hI' => hK m' c' w' _ hI')
     rcases hoo.2 with ⟨x, hx⟩ | hv
     ·rw [hx] at hgd; exact absurd hgd.2 (by simp [isEff])
     ·exact hv
    ·cases he
   ·unfold wpOp
    rw [ho]
    simp only [evOps] at he
    simp only
    split at he
    ·rename_i hw
     split at he
     ·rename_i v g' h' hop
      simp only [Option.some.injEq] at he
      subst he
      rw [want_spec hI hw, if_pos rfl]
      exact .inl (op_ok hI hX hop hoo.1 hoo.2 _ Q fun x w' m' c' hI' => hK m' c' w' _ hI')
     ·cases he
    ·rename_i hw
     split at he
     ·cases he
     ·rename_i hna
      simp only [Option.some.injEq] at he
      subst he
      rw [want_spec hI hw, if_neg (by simp)]
      exact hK m c w _ (undef_put hI hoo.1 (not_assign (by simpa using hna) hoo.2))
    ·cases he
theorem anyE_ok (hX : CxOK cx E) {mx : Mix} {ops : Array Oper} (hO : OpsOK cx E ops.toList) {K : St → Prop} {Q : Exit → Act → World → Prop}
  (hQ : ∀ s m c w a, K s → InvP cx.hint.vars E m c w s.1 s.2 a → Q .normal a w) :
  ∀ (f : Nat) (listed : Array Bool) (s : St) (m : List Nat) (c : Cl) (w : World) (a : Act), anyE cx mx ops K f listed s → InvP cx.hint.vars E m c w s.1 s.2 a → wpAny cx.P .any ops Q f listed a w
 | 0, listed, s, m, c, w, a, h, hI => ⟨h.1, hQ s m c w a h.2 hI⟩
 | f + 1, listed, s, m, c, w, a, h, hI => by
  refine ⟨fun h0 => absurd h0 h.1, fun i hi => ?_⟩
  obtain ⟨s1, h1, h2⟩ := h.2 i hi
  exact stepT_ok (g := s.1) (h := s.2) hI hX hO h1 fun m' c' w' a' hI' => anyE_ok hX hO hQ f _ s1 m' c' w' a' h2 hI'
theorem draw_all (hX : CxOK cx E) (hm : cx.P.follows .mixedOrders = true) {id : Nat} {ops : Array Oper} (hO : OpsOK cx E ops.toList) (hdr : drawOk cx.P cx.hint id ops = true) (hI : InvP cx.hint.vars E m c w g h a) {s' : St} (he : evDraw cx id ops (g, h) = some s') {Q : Exit → Act → World → Prop}
  (hQ : ∀ m' c' w' a', InvP cx.hint.vars E m' c' w' (Lift.untag (Lift.lives (cx.hint.live id) s'.1)) s'.2 a' → Q .normal a' w') : (Code.region id ops true).wp cx.P Q a w := by
 unfold evDraw at he
 unfold drawOk at hdr
 split at he
 ·rename_i hm0
  rw [hm0] at hdr
  exact heads_all hX hm hO hdr hI he fun m' c' w' a' hI' => hQ m' c' w' a' (hI'.lives _)
 ·rename_i mx hmx
  rw [hmx] at hdr
  simp only [Bool.and_eq_true] at hdr
  have hI0 : InvP cx.hint.vars E m c { w with drawn := w.drawn + 1 } g h a := hI.grown (c' := c) none (Nat.le_refl _) (fun b _ _ => ⟨rfl, rfl⟩) (fun b hb => by cases hb) (fun b hb _ h0 => by rw [hI.core.c_zero hb] at h0; omega) rfl rfl rfl
  refine wp_region_any hm ?_
  refine anyE_ok (mx := mx) hX hO (K := fun s2 => (Lift.untag (Lift.lives (cx.hint.live id) s2.1), s2.2) = s') (fun s m c w a hs hI' => ?_) _ _ (g, h) m c _ a ((tree_any mx.tree ops.size _ (g, h) (closed0 ops) he).1 hdr.2) hI0
  subst hs
  exact hQ m c w a ((hI'.lives (cx.hint.live id)).lives (cx.hint.live id))
theorem region_ok (hX : CxOK cx E) (hm : cx.P.follows .mixedOrders = true) {id : Nat} {ops : Array Oper} {draw : Bool} (hO : OpsOK cx E ops.toList) (hdr : draw = true → drawOk cx.P cx.hint id ops = true) (hI : InvP cx.hint.vars E m c w g h a) {s' : St} (he : evRegion cx id ops draw (g, h) = some s') {Q : Exit → Act → World → Prop}
  (hQ : ∀ m' c' w' a', InvP cx.hint.vars E m' c' w' s'.1 s'.2 a' → Q .normal a' w') : (Code.region id ops draw).wp cx.P Q a w := by
 unfold evRegion at he
 split at he
 ·rename_i s1 h1
  have hfin : ∀ m' c' w' a', InvP cx.hint.vars E m' c' w' (Lift.untag (Lift.lives (cx.hint.live id) s1.1)) s1.2 a' → Q .normal a' w' := fun m' c' w' a' hI2 => by
   unfold keeps at he
   split at he
   ·simp only [Option.some.injEq] at he
    subst he
    exact hQ _ _ _ _ hI2
   ·rename_i n hn
    split at he
    ·rename_i hok
     simp only [Option.some.injEq] at he
     subst he
     rw [hX.base] at hok hQ
     refine hQ _ _ _ _ (hI2.less (Nat.le_add_right _ _) fun p hp => ?_)
     have h2 := List.all_eq_true.1 hok p hp
     refine ⟨h2, ?_, fun vs e => by rw [e] at h2; cases h2⟩
     simp only [Lift.untag, List.mem_map] at hp
     obtain ⟨q, _, rfl⟩ := hp
     cases hq : q.2 with
     | list k r => cases k <;> simp [untag1]
     | _ => simp [untag1]
    ·cases he
  cases draw with
  | false =>
   simp only [Bool.false_eq_true, if_false] at h1
   exact wp_region_list (ops_ok hX ops.toList m c w g h a s1 hO hI h1 fun m' c' w' a' hI' => hfin m' c' w' a' (hI'.lives _))
  | true =>
   simp only [if_true] at h1
   exact draw_all hX hm hO (hdr rfl) hI h1 hfin
 ·cases he
end
end Go.Lift
end

section
namespace Go.Lift
set_option linter.unusedVariables false
set_option linter.unusedSimpArgs false
set_option linter.unusedSectionVars false
variable [GTab] [BTy]
def Ex.to : Ex → Exit
 | .normal => .normal
 | .exit id => .exit id
 | .ret => .ret
section
variable {m : List Nat} {c : Cl} {w : World} {g : Env} {h : Heap} {a : Act} {E : Entry} {cx : Cx}
theorem opsOK_of {hint : Hint} {nt : Nat} {l : List Oper} (hl : l.all (dstOk hint nt) = true) : ∀ o ∈ l, (∀ t, o.dst = some t → t < nt) ∧ ((∃ x, o.op = .assign x) ∨ ∀ t, o.dst = some t → t ∉ hint.vars) := fun o ho => by
 have := List.all_eq_true.1 hl o ho
 unfold dstOk at this
 cases hd : o.dst with
 | none => exact ⟨fun t e => (by cases e), .inr fun t e => (by cases e)⟩
 | some t =>
  rw [hd] at this
  simp only [Bool.and_eq_true, decide_eq_true_eq, Bool.or_eq_true] at this
  refine ⟨fun u e => by cases e; exact this.1, ?_⟩
  rcases this.2 with h1 | h1
  ·refine .inl ?_
   unfold isAssign at h1
   split at h1
   ·exact ⟨_, by assumption⟩
   ·cases h1
  ·refine .inr fun u e => ?_
   cases e
   simpa using h1
theorem code_ok (hX : CxOK cx E) (hm : cx.P.follows .mixedOrders = true) (k : Nat) : ∀ (b : Code) (m : List Nat) (c : Cl) (w : World) (g : Env) (h : Heap) (a : Act) (e : Ex) (s' : St) (Q : Exit → Act → World → Prop), codeOk cx.P cx.hint E.nt b = true → InvP cx.hint.vars E m c w g h a →
  evCode cx (loopN k) b (g, h) = some (e, s') → (∀ m' c' w' a', InvP cx.hint.vars E m' c' w' s'.1 s'.2 a' → Q e.to a' w') → b.wp cx.P Q a w := by
 intro b
 induction b with
 | skip =>
  intro m c w g h a e s' Q _ hI he hQ
  simp only [evCode, Option.some.injEq, Prod.mk.injEq] at he
  obtain ⟨rfl, rfl⟩ := he
  exact wp_skip (hQ m c w a hI)
 | region id ops draw =>
  intro m c w g h a e s' Q hok hI he hQ
  simp only [evCode, Option.map_eq_some_iff, Prod.mk.injEq] at he
  obtain ⟨s1, h1, rfl, rfl⟩ := he
  simp only [codeOk, Bool.and_eq_true, Bool.or_eq_true] at hok
  exact region_ok hX hm (opsOK_of hok.1) (fun hd => by
    subst hd
    rcases hok.2 with h2 | h2
    ·cases h2
    ·exact h2) hI h1 hQ
 | seq x y ihx ihy =>
  intro m c w g h a e s' Q hok hI he hQ
  simp only [codeOk, Bool.and_eq_true] at hok
  simp only [evCode] at he
  refine wp_seq ?_
  split at he
  ·rename_i s1 h1
   exact ihx m c w g h a .normal s1 _ hok.1 hI h1 fun m' c' w' a' hI' => ihy m' c' w' s1.1 s1.2 a' e s' Q hok.2 hI' he hQ
  ·rename_i hne
   cases hr : evCode cx (loopN k) x (g, h) with
   | none => rw [hr] at he; cases he
   | some p =>
    obtain ⟨e1, s1⟩ := p
    rw [hr] at he
    simp only [Option.some.injEq, Prod.mk.injEq] at he
    obtain ⟨rfl, rfl⟩ := he
    refine ihx m c w g h a e1 s1 _ hok.1 hI hr fun m' c' w' a' hI' => ?_
    cases e1 with
    | normal => exact absurd hr (hne s1)
    | exit id => exact hQ m' c' w' a' hI'
    | ret => exact hQ m' c' w' a' hI'
 | cond x p q ihp ihq =>
  intro m c w g h a e s' Q hok hI he hQ
  simp only [codeOk, Bool.and_eq_true] at hok
  simp only [evCode] at he
  split at he
  ·rename_i t ht
   have hv := hI.core.opd x
   rw [ht] at hv
   have hv' : a.eval x = .bool t := hv
   cases t with
   | true => simp only [if_true] at he; exact wp_cond_true hv' (ihp m c w g h a e s' Q hok.1 hI he hQ)
   | false => simp only [Bool.false_eq_true, if_false] at he; exact wp_cond_false hv' (ihq m c w g h a e s' Q hok.2 hI he hQ)
  ·cases he
 | block id p ih =>
  intro m c w g h a e s' Q hok hI he hQ
  simp only [codeOk] at hok
  simp only [evCode] at he
  refine wp_block ?_
  split at he
  ·rename_i j s1 h1
   refine ih m c w g h a (.exit j) s1 _ hok hI h1 fun m' c' w' a' hI' => ?_
   simp only [Ex.to, Exit.inBlock]
   split at he
   ·rename_i hj
    simp only [Option.some.injEq, Prod.mk.injEq] at he
    obtain ⟨rfl, rfl⟩ := he
    rw [if_pos hj]
    exact hQ m' c' w' a' hI'
   ·rename_i hj
    simp only [Option.some.injEq, Prod.mk.injEq] at he
    obtain ⟨rfl, rfl⟩ := he
    rw [if_neg hj]
    exact hQ m' c' w' a' hI'
  ·rename_i hne
   refine ih m c w g h a e s' _ hok hI he fun m' c' w' a' hI' => ?_
   cases e with
   | normal => exact hQ m' c' w' a' hI'
   | exit j => exact absurd he (hne j s')
   | ret => exact hQ m' c' w' a' hI'
 | loop p ih =>
  intro m c w g h a e s' Q hok hI he hQ
  simp only [codeOk] at hok
  simp only [evCode] at he
  refine wp_loop_rounds k ?_
  clear hX
  have key : ∀ (n : Nat) (m : List Nat) (c : Cl) (w : World) (s : St) (a : Act), InvP cx.hint.vars E m c w s.1 s.2 a → loopN n (evCode cx (loopN k) p) s = some (e, s') → Code.rounds cx.P p Q n a w := by
   intro n
   induction n with
   | zero => intro m c w s a _ h0; cases h0
   | succ n ihn =>
    intro m c w s a hI h0
    rw [rounds_succ]
    simp only [loopN] at h0
    split at h0
    ·rename_i s1 h1
     exact ih m c w s.1 s.2 a .normal s1 _ hok hI h1 fun m' c' w' a' hI' => ihn m' c' w' s1 a' hI' h0
    ·rename_i hne
     refine ih m c w s.1 s.2 a e s' _ hok hI h0 fun m' c' w' a' hI' => ?_
     cases e with
     | normal => exact absurd h0 (hne s')
     | exit id => exact hQ m' c' w' a' hI'
     | ret => exact hQ m' c' w' a' hI'
  exact key k m c w (g, h) a hI he
 | rangeFunc f ps x y _ _ =>
  intro m c w g h a e s' Q _ _ he _
  cases he
 | exit id =>
  intro m c w g h a e s' Q _ hI he hQ
  simp only [evCode, Option.some.injEq, Prod.mk.injEq] at he
  obtain ⟨rfl, rfl⟩ := he
  exact wp_exit (hQ m c w a hI)
 | scope p ih =>
  intro m c w g h a e s' Q hok hI he hQ
  simp only [codeOk] at hok
  simp only [evCode] at he
  refine wp_scope_straight (ih m c w g h a e s' _ hok hI he fun m' c' w' a' hI' => ?_)
  cases e <;> exact hQ m' c' w' a' hI'
 | label l =>
  intro m c w g h a e s' Q _ hI he hQ
  simp only [evCode, Option.some.injEq, Prod.mk.injEq] at he
  obtain ⟨rfl, rfl⟩ := he
  exact wp_label (hQ m c w a hI)
 | goto l =>
  intro m c w g h a e s' Q _ _ he _
  cases he
 | ret =>
  intro m c w g h a e s' Q _ hI he hQ
  simp only [evCode, Option.some.injEq, Prod.mk.injEq] at he
  obtain ⟨rfl, rfl⟩ := he
  exact wp_ret (hQ m c w a hI)
 | refuse s =>
  intro m c w g h a e s' Q _ _ he _
  cases he
end
end Go.Lift
end

section
namespace Go.Lift
set_option linter.unusedVariables false
set_option linter.unusedSimpArgs false
set_option linter.unusedSectionVars false
variable [GTab] [BTy]
section
variable {vars : List Nat} {P : Program} {m : List Nat} {c : Cl} {w : World} {g : Env} {h : Heap} {a : Act} {E : Entry}
theorem VRr.noTup {v : V} {x : Value} (hv : VRr m c w v x) (hn : ∀ vs, v ≠ .tup vs) : VR m c w v x := by
 cases v with
 | tup vs => exact absurd rfl (hn vs)
 | _ => exact hv
theorem bare_fzs {v : V} : bare (fzs v) = true := by cases v <;> rfl
def resF (tmps : Array Value) : ResultVar → Sem Value
 | .tmp t => pure (tmps.getD t undef)
 | .cell b t => do loadVar t (← asAddr (tmps.getD b undef))
theorem results_eq (fn : Func) (tmps : Array Value) : results fn tmps = (do
  let vs ← fn.results.mapM (resF tmps)
  pure (if h : vs.size = 1 then vs[0] else .tuple vs)) := by
 unfold results
 have : (fun (x : ResultVar) => (match x with | .tmp t => pure (tmps.getD t undef) | .cell a t => do loadVar t (← asAddr (tmps.getD a undef)) : Sem Value)) = resF tmps := by
  funext r
  cases r <;> rfl
 rw [← this]
 rfl
theorem res_one (hI : InvP vars E m c w g h a) {r : ResultVar} {v : V} (hr : evRes P (g, h) r = some v) :
  ∃ x, (resF a.tmps r).run P w = .ok x w ∧ VR m c w v x ∧ bare v = true := by
 cases r with
 | tmp t =>
  simp only [evRes] at hr
  split at hr
  ·cases hr
  ·rename_i hn
   simp only [Option.some.injEq] at hr
   subst hr
   exact ⟨a.tmps.getD t undef, rfl, ((hI.core.env t).noTup hn).fzs, bare_fzs⟩
 | cell b t =>
  simp only [evRes] at hr
  split at hr
  ·rename_i i o hl
   simp only [Option.map_eq_some_iff] at hr
   obtain ⟨u, hu, rfl⟩ := hr
   have he := hI.core.env b
   rw [hl] at he
   obtain ⟨z, hz, hv, _⟩ := loadV_ok (P := P) hI.core he hu
   obtain ⟨gb, hg, hy⟩ := he
   refine ⟨z, ?_, hv.fzs, bare_fzs⟩
   rw [hy] at hz
   simp only [resF, hy]
   simpa [Instr.loadAt, Instr.sureAddr, asAddr] using hz
  ·cases hr
theorem res_list (hI : InvP vars E m c w g h a) : ∀ (rs : List ResultVar) (vs : List V), evResults P (g, h) rs = some vs →
  ∃ xs : List Value, (rs.mapM (resF a.tmps)).run P w = .ok xs w ∧ R2 (VR m c w) vs xs ∧ ∀ v ∈ vs, bare v = true
 | [], vs, hr => by
  simp only [evResults, Option.some.injEq] at hr
  subst hr
  exact ⟨[], rfl, R2.nil, fun v hv => by cases hv⟩
 | r :: rs, vs, hr => by
  simp only [evResults] at hr
  split at hr
  ·rename_i x xs h1 h2
   simp only [Option.some.injEq] at hr
   subst hr
   obtain ⟨y, hy, hv, hb⟩ := res_one hI h1
   obtain ⟨ys, hys, hvs, hbs⟩ := res_list hI rs xs h2
   refine ⟨y :: ys, ?_, R2.cons hv hvs, fun v hv => ?_⟩
   ·rw [List.mapM_cons]
    simp only [Sem.run_bind, hy, Result.andThen_ok, hys]
    rfl
   ·rcases List.mem_cons.1 hv with rfl | hv
    ·exact hb
    ·exact hbs v hv
  ·cases hr
theorem results_ok (hI : InvP vars E m c w g h a) {fn : Func} {vs : List V} (hr : evResults P (g, h) fn.results.toList = some vs) :
  ∃ x, (results fn a.tmps).run P w = .ok x w ∧ VRr m c w (resV vs) x ∧ bare (resV vs) = true := by
 obtain ⟨xs, hxs, hv, hb⟩ := res_list hI _ _ hr
 have hrun : (results fn a.tmps).run P w = .ok (if h : xs.toArray.size = 1 then xs.toArray[0] else .tuple xs.toArray) w := by
  rw [results_eq, ← Array.toArray_toList (xs := fn.results), List.mapM_toArray]
  simp only [Sem.run_bind, Sem.run_map, hxs, Result.andThen_ok]
  rfl
 match vs, xs, hv, hb, hrun with
 | [], [], _, _, hrun => exact ⟨_, hrun, ⟨#[], rfl, R2.nil⟩, rfl⟩
 | [v], [x], hv, hb, hrun => exact ⟨x, by simpa using hrun, hv.head.r, hb v (by simp)⟩
 | u :: v :: vs, x :: y :: xs, hv, _, hrun => exact ⟨.tuple (x :: y :: xs).toArray, by simpa using hrun, ⟨_, rfl, by simpa using hv⟩, rfl⟩
 | [], _ :: _, hv, _, _ => simp [R2] at hv
 | [_], [], hv, _, _ => simp [R2] at hv
 | [_], _ :: _ :: _, hv, _, _ => simp [R2] at hv
 | _ :: _ :: _, [], hv, _, _ => simp [R2] at hv
 | _ :: _ :: _, [_], hv, _, _ => simp [R2] at hv
theorem res_bare {s : St} : ∀ (rs : List ResultVar) (vs : List V), evResults P s rs = some vs → ∀ v ∈ vs, bare v = true
 | [], vs, hr => by
  simp only [evResults, Option.some.injEq] at hr
  subst hr
  exact fun v hv => by cases hv
 | r :: rs, vs, hr => by
  simp only [evResults] at hr
  split at hr
  ·rename_i x xs h1 h2
   simp only [Option.some.injEq] at hr
   subst hr
   have hx : bare x = true := by
    unfold evRes at h1
    split at h1
    ·split at h1
     ·cases h1
     ·simp only [Option.some.injEq] at h1; subst h1; exact bare_fzs
    ·split at h1
     ·simp only [Option.map_eq_some_iff] at h1
      obtain ⟨u, _, rfl⟩ := h1
      exact bare_fzs
     ·cases h1
   exact fun v hv => by
    rcases List.mem_cons.1 hv with rfl | hv
    ·exact hx
    ·exact res_bare rs xs h2 v hv
  ·cases hr
theorem finish_bare {s : St} {fn : Func} {b : Nat} {r : V} {h' : Heap} (hf : finish P fn b s = some (r, h')) : bare r = true := by
 unfold finish at hf
 split at hf
 ·rename_i vs hvs
  split at hf
  ·simp only [Option.some.injEq, Prod.mk.injEq] at hf
   obtain ⟨rfl, _⟩ := hf
   have := res_bare _ _ hvs
   match vs, this with
   | [], _ => rfl
   | [v], h1 => exact h1 v (by simp)
   | _ :: _ :: _, _ => rfl
  ·cases hf
 ·cases hf
theorem look_args (args : List V) : ∀ (t : Nat), look (args0 args) t = args.getD t .undef := by
 have key : ∀ (l : List V) (k t : Nat), look ((l.zipIdx k).map fun p => (p.2, p.1)) t = if k ≤ t then l.getD (t - k) .undef else .undef := by
  intro l
  induction l with
  | nil => intro k t; simp [look]
  | cons x l ih =>
   intro k t
   simp only [List.zipIdx_cons, List.map_cons, look, ih]
   by_cases h : k = t
   ·subst h; simp
   ·by_cases h2 : k ≤ t
    ·rw [if_neg h, if_pos (by omega), if_pos h2]
     rw [show t - k = (t - (k + 1)) + 1 by omega]
     simp
    ·rw [if_neg h, if_neg (by omega), if_neg h2]
 intro t
 have := key args 0 t
 simpa [args0] using this
theorem start_ok {args : List V} {xs : Array Value} {nt lo : Nat} (hH : HOK m c w h) (hargs : R2 (VRr m c w) args xs.toList) (hb : args.all bare = true) (hn : args.length ≤ nt) (hlo : lo ≤ h.length) :
  InvP vars ⟨lo, h.length, w, m, c, hoOf m w h lo, h, nt⟩ m c w (args0 args) h ⟨xs ++ Array.replicate (nt - xs.size) undef, []⟩ := by
 obtain ⟨hC, hold⟩ := hH
 have hbl : ∀ t k r, look (args0 args) t = .list k r → k = .no := fun t k r ht => by
  rw [look_args] at ht
  by_cases hl : t < args.length
  ·rw [List.getD_eq_getElem?_getD, List.getElem?_eq_getElem hl] at ht
   have := List.all_eq_true.1 hb _ (List.getElem_mem hl)
   simp only [Option.getD_some] at ht
   rw [ht] at this
   cases k <;> simp [bare] at this
   rfl
  ·rw [List.getD_eq_getElem?_getD, List.getElem?_eq_none (by omega)] at ht
   cases ht
 have hAt : ∀ {l r x}, At m w (args0 args) h ⟨xs ++ Array.replicate (nt - xs.size) undef, []⟩ l r x → At m w [] h act0 l r x := fun {l r x} hl => by
  cases l with
  | slot t => have := hbl t _ r hl.1; cases this
  | cell i j => exact hl
 refine ⟨⟨hC.wf1, hC.wf2, hC.nd, hC.len, fun t => ?_, hC.ob, fun l r x hl => hC.own l r x (hAt hl), fun l l' r r' x x' b h1 h2 => hC.uniq l l' r r' x x' b (hAt h1) (hAt h2), fun t u r ht => (by have := hbl t _ r ht; cases this), fun t i j r ht => (by have := hbl t _ r ht; cases this), hC.gt⟩,
  Fr.refl _ _ _ _ _, fun l r x b hl hu hb' => ?_, rfl, Nat.le_refl _, hC.len, hlo, ?_, rfl, hold⟩
 ·rw [look_args]
  by_cases hl : t < args.length
  ·obtain ⟨y, hy, hv⟩ := hargs.get (List.getElem?_eq_getElem hl)
   rw [List.getD_eq_getElem?_getD, List.getElem?_eq_getElem hl, Option.getD_some]
   have hxs : t < xs.size := by have := hargs.1; simp at this; omega
   have : (xs ++ Array.replicate (nt - xs.size) undef).getD t undef = y := by
    rw [Array.getD_eq_getD_getElem?, Array.getElem?_append_left hxs]
    have : xs[t]? = some y := by simpa using hy
    simp [this]
   rw [this]
   exact hv
  ·rw [List.getD_eq_getElem?_getD, List.getElem?_eq_none (by omega)]
   trivial
 ·cases l with
  | slot t => have := hbl t _ r hl.1; cases this
  | cell i j => exact .inr ⟨i, j, r, x, hu, hl, hb'⟩
 ·have := hargs.1
  simp at this ⊢
  omega
theorem take_pre {m0 m' : List Nat} (hp : Pre m0 m') : m'.take m0.length = m0 := by
 apply List.ext_getElem?
 intro i
 rw [List.getElem?_take]
 by_cases h : i < m0.length
 ·rw [if_pos h, hp i _ (List.getElem?_eq_getElem h), List.getElem?_eq_getElem h]
 ·rw [if_neg h, List.getElem?_eq_none (by omega)]
theorem finish_ok (hI : InvP vars E m c w g h a) {fn : Func} {r : V} {h' : Heap} (hf : finish P fn E.base (g, h) = some (r, h')) :
  ∃ x, (results fn a.tmps).run P w = .ok x w ∧ VRr E.m c w r x ∧ bare r = true ∧ HOK E.m c w h' ∧ Fr E.lo E.ho E.w E.m E.c w E.m c ∧ Owned E.lo E.ho E.w E.m w [] h' act0 ∧ h' = h.take E.base := by
 unfold finish at hf
 split at hf
 ·rename_i vs hvs
  split at hf
  ·rename_i hok
   simp only [Option.some.injEq, Prod.mk.injEq] at hf
   obtain ⟨rfl, rfl⟩ := hf
   obtain ⟨x, hx, hv, hb⟩ := results_ok hI hvs
   have hm : m.take E.base = E.m := by rw [← hI.ml]; exact take_pre hI.fr.pre
   have hv' := hv.less (n := E.base) hok
   rw [hm] at hv'
   have hI2 := (hI.lives (some [])).less (n := E.base) (Nat.le_refl _) (fun p hp => by simp [Lift.lives, Lift.untag] at hp)
   rw [hm] at hI2
   refine ⟨x, hx, hv', hb, hI2.hok, hI2.fr, fun l r y b hl hu hb' => ?_, rfl⟩
   cases l with
   | slot t => exact absurd hl.1 (by simp [look])
   | cell i j => exact hI2.owned (.cell i j) r y b hl hu hb'
  ·cases hf
 ·cases hf
theorem fun_ok {hints : Nat → Hint} {prim : Nat → Option (Nat → List V → Heap → Option (V × Heap))} (hm : P.follows .mixedOrders = true)
  (hprim : ∀ f p, prim f = some p → ∀ lo args h r h', lo ≤ h.length → p lo args h = some (r, h') → CallOK P lo f args h r h') :
  ∀ (n lo f : Nat) (args : List V) (h : Heap) (r : V) (h' : Heap), lo ≤ h.length → evFun P hints prim n lo f args h = some (r, h') → CallOK P lo f args h r h' := by
 intro n
 induction n with
 | zero => intro lo f args h r h' _ he; cases he
 | succ n ih =>
  intro lo f args h r h' hlo he
  simp only [evFun] at he
  split at he
  ·rename_i p hp
   exact hprim f p hp lo args h r h' hlo he
  ·unfold evBody at he
   split at he
   ·rename_i fn hfn
    split at he
    ·rename_i b hb
     split at he
     ·rename_i hck
      simp only [Bool.and_eq_true, decide_eq_true_eq, bne_iff_ne, ne_eq] at hck
      obtain ⟨⟨⟨hco, hle⟩, hba⟩, hname⟩ := hck
      have hX : ∀ m c w, CxOK ⟨P, evFun P hints prim n, lo, h.length, hints f⟩ ⟨lo, h.length, w, m, c, hoOf m w h lo, h, fn.ntmps⟩ := fun m c w =>
       ⟨rfl, rfl, fun lo f args h r h' hl hc => ih lo f args h r h' hl hc⟩
      have hcf : ∀ xs w, (callFunc f xs).run P w = .ok (.enter f xs) w := fun xs w => by
       simp [callFunc, hfn, hname, hb]
      have hend : ∀ (e : Ex) (s : St), (e = .normal ∨ e = .ret) → evCode ⟨P, evFun P hints prim n, lo, h.length, hints f⟩ (loopN n) b (args0 args, h) = some (e, s) → finish P fn h.length s = some (r, h') → CallOK P lo f args h r h' := fun e s hes hev hfin => by
       refine ⟨finish_bare hfin, hcf, fun m c w xs hH hargs => ⟨?_, ?_⟩⟩
       ·have hI := start_ok (vars := (hints f).vars) hH hargs hba hle hlo
        have hwp := code_ok (hX m c w) hm n b m c w (args0 args) h _ e s (fun _ _ _ => h'.length = h.length ∧ h'.take lo = h.take lo) hco hI hev fun m' c' w' a' hI' => by
         obtain ⟨_, _, _, _, _, _, _, rfl⟩ := finish_ok (P := P) hI' hfin
         refine ⟨?_, ?_⟩
         ·have : h.length ≤ s.2.length := hI'.hlen
          simp only [List.length_take]
          exact Nat.min_eq_left this
         ·rw [List.take_take, Nat.min_eq_left (show lo ≤ h.length from hlo)]
          exact hI'.hlo
        obtain ⟨_, _, _, hq, _⟩ := hwp default [] []
        exact hq
       have hI := start_ok (vars := (hints f).vars) hH hargs hba hle hlo
       refine calls_of_wp hfn hb ?_
       refine code_ok (hX m c w) hm n b m c w (args0 args) h _ e s _ hco hI hev fun m' c' w' a' hI' => ?_
       obtain ⟨x, hx, hv, _, hH', hF, hO, _⟩ := finish_ok (P := P) hI' hfin
       have : bodyPost P fn (fun e w' => ∃ x c', e = .returned x ∧ VRr m c' w' r x ∧ HOK m c' w' h' ∧ Fr lo (hoOf m w h lo) w m c w' m c' ∧ Owned lo (hoOf m w h lo) w m w' [] h' act0) .normal a' w' :=
        ⟨hI'.df, x, hx, x, c', rfl, hv, hH', hF, hO⟩
       rcases hes with rfl | rfl
       ·exact this
       ·exact this
      split at he
      ·cases he
      ·rename_i e s hne hs
       cases e with
       | normal => exact hend .normal s (.inl rfl) hs he
       | exit j => exact absurd rfl (hne j)
       | ret => exact hend .ret s (.inr rfl) hs he
      ·cases he
     ·cases he
    ·cases he
   ·cases he
end
end Go.Lift
end

section
namespace Go.Lift
set_option linter.unusedVariables false
set_option linter.unusedSimpArgs false
set_option linter.unusedSectionVars false
variable [GTab] [BTy]
def CLe (a b : CallF) : Prop := ∀ lo f args h r, a lo f args h = some r → b lo f args h = some r
def FLe (a b : St → Option (Ex × St)) : Prop := ∀ s r, a s = some r → b s = some r
def LLe (a b : LoopF) : Prop := ∀ f g, FLe f g → FLe (a f) (b g)
structure Chain (a : Nat → CallF) (b : CallF) : Prop where
 cont : ∀ lo f args h r, b lo f args h = some r → ∃ N, ∀ n, N ≤ n → a n lo f args h = some r
section le
variable {P : Program} {call call' : CallF} (hc : CLe call call')
include hc
theorem evEff_le {lo : Nat} {mutc : Bool} {s : St} {op : Op} {r : V × St} (h : evEff P call lo mutc s op = some r) : evEff P call' lo mutc s op = some r := by
 cases op with
 | call c =>
  simp only [evEff] at h ⊢
  split at h
  ·unfold evCall at h ⊢
   split at h
   ·split at h
    ·rename_i hcall
     rw [hc _ _ _ _ _ hcall]
     exact h
    ·cases h
   ·cases h
  ·exact h
  ·cases h
 | _ => exact h
theorem evOp_le {c : Cx} {s : St} {o : Oper} {r : V × St} (hcc : c.call = call) (h : evOp c s o = some r) : evOp { c with call := call' } s o = some r := by
 unfold evOp at h ⊢
 split at h
 ·rename_i he
  rw [if_pos he]
  rw [hcc] at h
  exact evEff_le hc h
 ·rename_i he
  rw [if_neg he]
  exact h
theorem evHead_le {c : Cx} {s : St} {o : Oper} {v : V} (hcc : c.call = call) (h : evHead c s o = some v) : evHead { c with call := call' } s o = some v := by
 unfold evHead at h ⊢
 split at h
 ·rename_i he
  rw [if_pos he]
  split at h
  ·split at h
   ·split at h
    ·obtain ⟨p, hp, hv⟩ := Option.map_eq_some_iff.mp h
     rw [hcc] at hp
     exact Option.map_eq_some_iff.mpr ⟨p, hc _ _ _ _ _ hp, hv⟩
    ·cases h
   ·cases h
  ·split at h
   ·cases h
   ·rename_i hm
    obtain ⟨p, hp, hv⟩ := Option.map_eq_some_iff.mp h
    rw [if_neg hm]
    rw [hcc] at hp
    exact Option.map_eq_some_iff.mpr ⟨p, evEff_le hc hp, hv⟩
  ·cases h
 ·rename_i he
  rw [if_neg he]
  exact h
theorem evOps_le {c : Cx} (hcc : c.call = call) {ops : Array Oper} : ∀ {l : List Oper} {s r : St}, evOps c ops l s = some r → evOps { c with call := call' } ops l s = some r
 | [], _, _, h => h
 | o :: l, s, r, h => by
  simp only [evOps] at h ⊢
  split at h
  ·split at h
   ·rename_i hop
    simp only [evOp_le hc hcc hop]
    exact evOps_le hcc h
   ·cases h
  ·split at h
   ·cases h
   ·rename_i hna
    rw [if_neg hna]
    exact evOps_le hcc h
  ·cases h
theorem evHeads_le {c : Cx} (hcc : c.call = call) {ops : Array Oper} : ∀ {l : List Oper} {s r : St}, evHeads c ops l s = some r → evHeads { c with call := call' } ops l s = some r
 | [], _, _, h => h
 | o :: l, s, r, h => by
  simp only [evHeads] at h ⊢
  split at h
  ·split at h
   ·rename_i hop
    simp only [evHead_le hc hcc hop]
    exact evHeads_le hcc h
   ·cases h
  ·split at h
   ·cases h
   ·rename_i hna
    rw [if_neg hna]
    exact evHeads_le hcc h
  ·cases h
theorem stepT_le {c : Cx} (hcc : c.call = call) {mx : Mix} {ops : Array Oper} {k : Nat} {s r : St} (h : stepT c mx ops k s = some r) : stepT { c with call := call' } mx ops k s = some r := by
 unfold stepT at h ⊢
 split at h
 ·cases h
 ·rename_i o ho
  split at h
  ·rename_i hh
   rw [if_pos hh]
   exact evHeads_le hc hcc h
  ·rename_i hh
   rw [if_neg hh]
   split at h
   ·rename_i ht
    rw [if_pos ht]
    exact h
   ·rename_i ht
    rw [if_neg ht]
    exact evOps_le hc hcc h
theorem same_le {x y x' y' : Option St} {r : St} (hx : x = some r → x' = some r) (hy : y = some r → y' = some r) (h : same x y = some r) : same x' y' = some r := by
 obtain ⟨h1, h2⟩ := same_some h
 rw [hx h1, hy h2]
 simp [same]
theorem evT_le {c : Cx} (hcc : c.call = call) {mx : Mix} {id : Nat} {ops : Array Oper} : ∀ {T : Tr} {s r : St}, evT c mx id ops T s = some r → evT { c with call := call' } mx id ops T s = some r
 | .fin, s, r, h => h
 | .head k t, s, r, h => by
  simp only [evT] at h ⊢
  split at h
  ·rename_i h1
   rw [stepT_le hc hcc h1]
   exact evT_le hcc h
  ·cases h
 | .one k t, s, r, h => by
  simp only [evT] at h ⊢
  split at h
  ·rename_i h1
   rw [stepT_le hc hcc h1]
   exact evT_le hcc h
  ·cases h
 | .alt a b, s, r, h => by
  simp only [evT] at h ⊢
  exact same_le hc (r := r) (fun h => evT_le hcc h) (fun h => evT_le hcc h) h
theorem evRegion_le {c : Cx} (hcc : c.call = call) {id : Nat} {ops : Array Oper} {draw : Bool} {s r : St} (h : evRegion c id ops draw s = some r) : evRegion { c with call := call' } id ops draw s = some r := by
 unfold evRegion at h ⊢
 split at h
 ·rename_i s1 h1
  have : (if draw = true then evDraw { c with call := call' } id ops s else evOps { c with call := call' } ops ops.toList s) = some s1 := by
   cases draw with
   | false => simp only [Bool.false_eq_true, if_false] at h1 ⊢; exact evOps_le hc hcc h1
   | true =>
    simp only [if_true] at h1 ⊢
    unfold evDraw at h1 ⊢
    split at h1
    ·rename_i hmx
     simp only [hmx]
     unfold evDraw0 at h1 ⊢
     split at h1
     ·rename_i s2 h2
      rw [evHeads_le hc hcc h2]
      exact evOps_le hc hcc h1
     ·cases h1
    ·rename_i mx hmx
     simp only [hmx]
     exact evT_le hc hcc h1
  rw [this]
  exact h
 ·cases h
theorem evCode_le {c : Cx} (hcc : c.call = call) {lp lp' : LoopF} (hl : LLe lp lp') : ∀ (b : Code) (s : St) (r : Ex × St), evCode c lp b s = some r → evCode { c with call := call' } lp' b s = some r := by
 intro b
 induction b with
 | region id ops draw =>
  intro s r h
  simp only [evCode, Option.map_eq_some_iff] at h ⊢
  obtain ⟨s1, h1, h2⟩ := h
  exact ⟨s1, evRegion_le hc hcc h1, h2⟩
 | seq x y ihx ihy =>
  intro s r h
  simp only [evCode] at h ⊢
  cases hx : evCode c lp x s with
  | none => rw [hx] at h; cases h
  | some p =>
   obtain ⟨e, s1⟩ := p
   rw [hx] at h
   rw [ihx s _ hx]
   cases e with
   | normal => exact ihy s1 r h
   | _ => exact h
 | cond x p q ihp ihq =>
  intro s r h
  simp only [evCode] at h ⊢
  split at h
  ·split at h
   ·rename_i ht
    rw [if_pos ht]
    exact ihp s r h
   ·rename_i ht
    rw [if_neg ht]
    exact ihq s r h
  ·cases h
 | block id p ih =>
  intro s r h
  simp only [evCode] at h ⊢
  cases hx : evCode c lp p s with
  | none => rw [hx] at h; cases h
  | some q =>
   rw [hx] at h
   rw [ih s _ hx]
   exact h
 | loop p ih =>
  intro s r h
  simp only [evCode] at h ⊢
  exact hl _ _ ih s r h
 | scope p ih => intro s r h; exact ih s r h
 | skip => intro s r h; exact h
 | exit id => intro s r h; exact h
 | label l => intro s r h; exact h
 | ret => intro s r h; exact h
 | rangeFunc f ps x y _ _ => intro s r h; cases h
 | goto l => intro s r h; cases h
 | refuse w => intro s r h; cases h
theorem evBody_le {hints : Nat → Hint} {lp lp' : LoopF} (hl : LLe lp lp') {lo f : Nat} {args : List V} {h : Heap} {r : V × Heap} (he : evBody P hints call lp lo f args h = some r) : evBody P hints call' lp' lo f args h = some r := by
 unfold evBody at he ⊢
 split at he
 ·split at he
  ·split at he
   ·rename_i hck
    simp only [hck, if_true]
    split at he
    ·cases he
    ·rename_i hne hs
     rw [evCode_le hc (c := ⟨P, call, lo, h.length, hints f⟩) rfl hl _ _ _ hs]
     split
     ·rename_i heq; cases heq; exact absurd rfl (hne _)
     ·rename_i heq; cases heq; exact he
     ·rename_i heq; cases heq
    ·cases he
   ·cases he
  ·cases he
 ·cases he
end le
theorem loopN_succ {n : Nat} {f : St → Option (Ex × St)} {s : St} : loopN (n + 1) f s = match f s with
  | some (.normal, s') => loopN n f s'
  | r => r := rfl
theorem loopN_le : ∀ {n k : Nat}, n ≤ k → LLe (loopN n) (loopN k)
 | 0, _, _, f, g, _, s, r, h => by cases h
 | n + 1, 0, hn, _, _, _, _, _, _ => by omega
 | n + 1, k + 1, hn, f, g, hfg, s, r, h => by
  simp only [loopN] at h ⊢
  cases hx : f s with
  | none => rw [hx] at h; cases h
  | some p =>
   obtain ⟨e, s1⟩ := p
   rw [hx] at h
   rw [hfg s _ hx]
   cases e with
   | normal => exact loopN_le (by omega) f g hfg s1 r h
   | _ => exact h
theorem evFun_le {P : Program} {hints : Nat → Hint} {prim : Nat → Option (Nat → List V → Heap → Option (V × Heap))} : ∀ {n k : Nat}, n ≤ k → CLe (evFun P hints prim n) (evFun P hints prim k)
 | 0, _, _, lo, f, args, h, r, he => by cases he
 | n + 1, 0, hn, _, _, _, _, _, _ => by omega
 | n + 1, k + 1, hn, lo, f, args, h, r, he => by
  simp only [evFun] at he ⊢
  split at he
  ·exact he
  ·exact evBody_le (evFun_le (by omega)) (loopN_le (by omega)) he
noncomputable def loopW : LoopF := fun f s =>
 open Classical in if hx : ∃ n r, loopN n f s = some r then some (Classical.choose (Classical.choose_spec hx)) else none
theorem loopW_of {f : St → Option (Ex × St)} {s : St} {n : Nat} {r : Ex × St} (h : loopN n f s = some r) : loopW f s = some r := by
 have hx : ∃ n r, loopN n f s = some r := ⟨n, r, h⟩
 unfold loopW
 rw [dif_pos hx]
 have h1 := Classical.choose_spec (Classical.choose_spec hx)
 have e1 := loopN_le (Nat.le_max_left (Classical.choose hx) n) f f (fun _ _ h => h) s _ h1
 have e2 := loopN_le (Nat.le_max_right (Classical.choose hx) n) f f (fun _ _ h => h) s _ h
 rw [e1] at e2
 exact e2
theorem loopW_to {f : St → Option (Ex × St)} {s : St} {r : Ex × St} (h : loopW f s = some r) : ∃ n, loopN n f s = some r := by
 unfold loopW at h
 split at h
 ·rename_i hx
  cases h
  exact ⟨_, Classical.choose_spec (Classical.choose_spec hx)⟩
 ·cases h
theorem loopW_eq (f : St → Option (Ex × St)) (s : St) : loopW f s = match f s with
  | some (.normal, s') => loopW f s'
  | r => r := by
 cases hx : f s with
 | none =>
  cases hw : loopW f s with
  | none => rfl
  | some r =>
   obtain ⟨n, hn⟩ := loopW_to hw
   cases n with
   | zero => cases hn
   | succ n => simp only [loopN, hx] at hn; cases hn
 | some p =>
  obtain ⟨e, s1⟩ := p
  cases e with
  | normal =>
   simp only
   cases hw : loopW f s1 with
   | some r =>
    obtain ⟨n, hn⟩ := loopW_to hw
    exact loopW_of (n := n + 1) (by simp only [loopN, hx]; exact hn)
   | none =>
    cases hw' : loopW f s with
    | none => rfl
    | some r =>
     obtain ⟨n, hn⟩ := loopW_to hw'
     cases n with
     | zero => cases hn
     | succ n =>
      simp only [loopN, hx] at hn
      rw [loopW_of hn] at hw
      cases hw
  | exit id => exact loopW_of (n := 1) (by simp only [loopN, hx])
  | ret => exact loopW_of (n := 1) (by simp only [loopN, hx])
theorem loopN_W {n : Nat} : LLe (loopN n) loopW := fun f g hfg s r h => loopW_of (loopN_le (Nat.le_refl n) f g hfg s r h)
section ev
variable (P : Program) (hints : Nat → Hint) (prim : Nat → Option (Nat → List V → Heap → Option (V × Heap)))
noncomputable def ev : CallF := fun lo f args h =>
 open Classical in if hx : ∃ n r, evFun P hints prim n lo f args h = some r then some (Classical.choose (Classical.choose_spec hx)) else none
variable {P hints prim}
theorem ev_of {n lo f : Nat} {args : List V} {h : Heap} {r : V × Heap} (he : evFun P hints prim n lo f args h = some r) : ev P hints prim lo f args h = some r := by
 have hx : ∃ n r, evFun P hints prim n lo f args h = some r := ⟨n, r, he⟩
 unfold ev
 rw [dif_pos hx]
 have h1 := Classical.choose_spec (Classical.choose_spec hx)
 have e1 := evFun_le (Nat.le_max_left (Classical.choose hx) n) _ _ _ _ _ h1
 have e2 := evFun_le (Nat.le_max_right (Classical.choose hx) n) _ _ _ _ _ he
 rw [e1] at e2
 exact e2
theorem ev_to {lo f : Nat} {args : List V} {h : Heap} {r : V × Heap} (he : ev P hints prim lo f args h = some r) : ∃ n, evFun P hints prim n lo f args h = some r := by
 unfold ev at he
 split at he
 ·rename_i hx
  cases he
  exact ⟨_, Classical.choose_spec (Classical.choose_spec hx)⟩
 ·cases he
theorem ev_chain {lo f : Nat} {args : List V} {h : Heap} {r : V × Heap} (he : ev P hints prim lo f args h = some r) : ∃ N, ∀ n, N ≤ n → evFun P hints prim n lo f args h = some r := by
 obtain ⟨N, hN⟩ := ev_to he
 exact ⟨N, fun n hn => evFun_le hn _ _ _ _ _ hN⟩
noncomputable def cxN (P : Program) (hints : Nat → Hint) (prim : Nat → Option (Nat → List V → Heap → Option (V × Heap))) (c : Cx) (n : Nat) : Cx := { c with call := evFun P hints prim n }
theorem evEff_cont {lo : Nat} {mutc : Bool} {s : St} {op : Op} {r : V × St} (h : evEff P (ev P hints prim) lo mutc s op = some r) : ∃ N, ∀ n, N ≤ n → evEff P (evFun P hints prim n) lo mutc s op = some r := by
 cases op with
 | call c =>
  simp only [evEff] at h ⊢
  split at h
  ·unfold evCall at h ⊢
   split at h
   ·split at h
    ·rename_i hcall
     obtain ⟨N, hN⟩ := ev_chain hcall
     exact ⟨N, fun n hn => by rw [hN n hn]; exact h⟩
    ·cases h
   ·cases h
  ·exact ⟨0, fun _ _ => h⟩
  ·cases h
 | _ => exact ⟨0, fun _ _ => h⟩
theorem evOp_cont {c : Cx} (hP : c.P = P) {s : St} {o : Oper} {r : V × St} (h : evOp { c with call := ev P hints prim } s o = some r) : ∃ N, ∀ n, N ≤ n → evOp (cxN P hints prim c n) s o = some r := by
 subst hP
 unfold evOp at h
 unfold evOp cxN
 split at h
 ·rename_i he
  obtain ⟨N, hN⟩ := evEff_cont h
  exact ⟨N, fun n hn => by rw [if_pos he]; exact hN n hn⟩
 ·rename_i he
  exact ⟨0, fun n _ => by rw [if_neg he]; exact h⟩
theorem evHead_cont {c : Cx} (hP : c.P = P) {s : St} {o : Oper} {v : V} (h : evHead { c with call := ev P hints prim } s o = some v) : ∃ N, ∀ n, N ≤ n → evHead (cxN P hints prim c n) s o = some v := by
 subst hP
 unfold evHead at h
 unfold evHead cxN
 split at h
 ·rename_i he
  simp only [he, if_true]
  split at h
  ·split at h
   ·split at h
    ·simp only [Option.map_eq_some_iff] at h ⊢
     obtain ⟨p, hp, rfl⟩ := h
     obtain ⟨N, hN⟩ := ev_chain hp
     exact ⟨N, fun n hn => ⟨p, hN n hn, rfl⟩⟩
    ·cases h
   ·cases h
  ·split at h
   ·cases h
   ·rename_i hm
    simp only [Option.map_eq_some_iff] at h ⊢
    obtain ⟨p, hp, rfl⟩ := h
    obtain ⟨N, hN⟩ := evEff_cont hp
    refine ⟨N, fun n hn => ?_⟩
    rw [if_neg hm]
    simp only [Option.map_eq_some_iff]
    exact ⟨p, hN n hn, rfl⟩
  ·cases h
 ·rename_i he
  exact ⟨0, fun n _ => by rw [if_neg he]; exact h⟩
theorem evOps_cont {c : Cx} (hP : c.P = P) {ops : Array Oper} : ∀ {l : List Oper} {s r : St}, evOps { c with call := ev P hints prim } ops l s = some r → ∃ N, ∀ n, N ≤ n → evOps (cxN P hints prim c n) ops l s = some r
 | [], _, _, h => ⟨0, fun _ _ => h⟩
 | o :: l, s, r, h => by
  simp only [evOps] at h ⊢
  split at h
  ·rename_i _
   split at h
   ·rename_i hop
    obtain ⟨N, hN⟩ := evOp_cont hP hop
    obtain ⟨K, hK⟩ := evOps_cont hP h
    refine ⟨max N K, fun n hn => ?_⟩
    simp only [hN n (by omega)]
    exact hK n (by omega)
   ·cases h
  ·rename_i _
   split at h
   ·cases h
   ·rename_i hna
    obtain ⟨K, hK⟩ := evOps_cont hP h
    refine ⟨K, fun n hn => ?_⟩
    simp only [if_neg hna]
    exact hK n hn
  ·cases h
theorem evHeads_cont {c : Cx} (hP : c.P = P) {ops : Array Oper} : ∀ {l : List Oper} {s r : St}, evHeads { c with call := ev P hints prim } ops l s = some r → ∃ N, ∀ n, N ≤ n → evHeads (cxN P hints prim c n) ops l s = some r
 | [], _, _, h => ⟨0, fun _ _ => h⟩
 | o :: l, s, r, h => by
  simp only [evHeads] at h ⊢
  split at h
  ·rename_i _
   split at h
   ·rename_i hop
    obtain ⟨N, hN⟩ := evHead_cont hP hop
    obtain ⟨K, hK⟩ := evHeads_cont hP h
    refine ⟨max N K, fun n hn => ?_⟩
    simp only [hN n (by omega)]
    exact hK n (by omega)
   ·cases h
  ·rename_i _
   split at h
   ·cases h
   ·rename_i hna
    obtain ⟨K, hK⟩ := evHeads_cont hP h
    refine ⟨K, fun n hn => ?_⟩
    simp only [if_neg hna]
    exact hK n hn
  ·cases h
theorem stepT_cont {c : Cx} (hP : c.P = P) {mx : Mix} {ops : Array Oper} {k : Nat} {s r : St} (h : stepT { c with call := ev P hints prim } mx ops k s = some r) : ∃ N, ∀ n, N ≤ n → stepT (cxN P hints prim c n) mx ops k s = some r := by
 unfold stepT at h ⊢
 split at h
 ·cases h
 ·rename_i o ho
  split at h
  ·rename_i hh
   obtain ⟨N, hN⟩ := evHeads_cont hP h
   exact ⟨N, fun n hn => by rw [if_pos hh]; exact hN n hn⟩
  ·rename_i hh
   split at h
   ·rename_i ht
    exact ⟨0, fun n _ => by rw [if_neg hh, if_pos ht]; exact h⟩
   ·rename_i ht
    obtain ⟨N, hN⟩ := evOps_cont hP h
    exact ⟨N, fun n hn => by rw [if_neg hh, if_neg ht]; exact hN n hn⟩
theorem evT_cont {c : Cx} (hP : c.P = P) {mx : Mix} {id : Nat} {ops : Array Oper} : ∀ {T : Tr} {s r : St}, evT { c with call := ev P hints prim } mx id ops T s = some r → ∃ N, ∀ n, N ≤ n → evT (cxN P hints prim c n) mx id ops T s = some r
 | .fin, s, r, h => ⟨0, fun _ _ => h⟩
 | .head k t, s, r, h => by
  simp only [evT] at h
  split at h
  ·rename_i h1
   obtain ⟨N, hN⟩ := stepT_cont hP h1
   obtain ⟨K, hK⟩ := evT_cont hP h
   refine ⟨max N K, fun n hn => ?_⟩
   simp only [evT, hN n (by omega)]
   exact hK n (by omega)
  ·cases h
 | .one k t, s, r, h => by
  simp only [evT] at h
  split at h
  ·rename_i h1
   obtain ⟨N, hN⟩ := stepT_cont hP h1
   obtain ⟨K, hK⟩ := evT_cont hP h
   refine ⟨max N K, fun n hn => ?_⟩
   simp only [evT, hN n (by omega)]
   exact hK n (by omega)
  ·cases h
 | .alt a b, s, r, h => by
  simp only [evT] at h
  obtain ⟨h1, h2⟩ := same_some h
  obtain ⟨N, hN⟩ := evT_cont hP h1
  obtain ⟨K, hK⟩ := evT_cont hP h2
  refine ⟨max N K, fun n hn => ?_⟩
  simp only [evT, hN n (by omega), hK n (by omega)]
  simp [same]
theorem evDraw_cont {c : Cx} (hP : c.P = P) {id : Nat} {ops : Array Oper} {s s1 : St} (h1 : evDraw { c with call := ev P hints prim } id ops s = some s1) : ∃ N, ∀ n, N ≤ n → evDraw (cxN P hints prim c n) id ops s = some s1 := by
 unfold evDraw at h1
 split at h1
 ·rename_i hmx
  unfold evDraw0 at h1
  split at h1
  ·rename_i s2 h2
   obtain ⟨N, hN⟩ := evHeads_cont hP h2
   obtain ⟨K, hK⟩ := evOps_cont hP h1
   refine ⟨max N K, fun n hn => ?_⟩
   have e1 := hN n (by omega)
   have e2 := hK n (by omega)
   unfold evDraw
   rw [show (cxN P hints prim c n).hint.mix id = none from hmx]
   unfold evDraw0
   exact (congrArg (fun x : Option St => match x with | some s' => evOps (cxN P hints prim c n) ops (ops.toList.drop (tailAt c.P c.hint id ops)) s' | none => none) e1).trans e2
  ·cases h1
 ·rename_i mx hmx
  obtain ⟨N, hN⟩ := evT_cont hP h1
  refine ⟨N, fun n hn => ?_⟩
  unfold evDraw
  rw [show (cxN P hints prim c n).hint.mix id = some mx from hmx]
  exact hN n hn
theorem evRegion_cont {c : Cx} (hP : c.P = P) {id : Nat} {ops : Array Oper} {draw : Bool} {s r : St} (h : evRegion { c with call := ev P hints prim } id ops draw s = some r) : ∃ N, ∀ n, N ≤ n → evRegion (cxN P hints prim c n) id ops draw s = some r := by
 unfold evRegion at h
 split at h
 ·rename_i s1 h1
  have : ∃ N, ∀ n, N ≤ n → (if draw = true then evDraw (cxN P hints prim c n) id ops s else evOps (cxN P hints prim c n) ops ops.toList s) = some s1 := by
   cases draw with
   | false => simp only [Bool.false_eq_true, if_false] at h1 ⊢; exact evOps_cont hP h1
   | true =>
    simp only [if_true] at h1 ⊢
    exact evDraw_cont hP h1
  obtain ⟨N, hN⟩ := this
  refine ⟨N, fun n hn => ?_⟩
  unfold evRegion
  rw [hN n hn]
  exact h
 ·cases h
theorem evCode_cont {c : Cx} (hP : c.P = P) : ∀ (b : Code) (s : St) (r : Ex × St), evCode { c with call := ev P hints prim } loopW b s = some r → ∃ N, ∀ n, N ≤ n → evCode (cxN P hints prim c n) (loopN n) b s = some r := by
 intro b
 induction b with
 | region id ops draw =>
  intro s r h
  simp only [evCode, Option.map_eq_some_iff] at h ⊢
  obtain ⟨s1, h1, h2⟩ := h
  obtain ⟨N, hN⟩ := evRegion_cont hP h1
  exact ⟨N, fun n hn => ⟨s1, hN n hn, h2⟩⟩
 | seq x y ihx ihy =>
  intro s r h
  simp only [evCode] at h ⊢
  cases hx : evCode { c with call := ev P hints prim } loopW x s with
  | none => rw [hx] at h; cases h
  | some p =>
   obtain ⟨e, s1⟩ := p
   rw [hx] at h
   obtain ⟨N, hN⟩ := ihx s _ hx
   cases e with
   | normal =>
    obtain ⟨K, hK⟩ := ihy s1 r h
    refine ⟨max N K, fun n hn => ?_⟩
    rw [hN n (by omega)]
    exact hK n (by omega)
   | exit id => exact ⟨N, fun n hn => by rw [hN n hn]; exact h⟩
   | ret => exact ⟨N, fun n hn => by rw [hN n hn]; exact h⟩
 | cond x p q ihp ihq =>
  intro s r h
  simp only [evCode] at h ⊢
  split at h
  ·split at h
   ·rename_i ht
    obtain ⟨N, hN⟩ := ihp s r h
    exact ⟨N, fun n hn => by rw [if_pos ht]; exact hN n hn⟩
   ·rename_i ht
    obtain ⟨N, hN⟩ := ihq s r h
    exact ⟨N, fun n hn => by rw [if_neg ht]; exact hN n hn⟩
  ·cases h
 | block id p ih =>
  intro s r h
  simp only [evCode] at h ⊢
  cases hx : evCode { c with call := ev P hints prim } loopW p s with
  | none => rw [hx] at h; cases h
  | some q =>
   rw [hx] at h
   obtain ⟨N, hN⟩ := ih s _ hx
   exact ⟨N, fun n hn => by rw [hN n hn]; exact h⟩
 | loop p ih =>
  intro s r h
  simp only [evCode] at h ⊢
  obtain ⟨k, hk⟩ := loopW_to h
  clear h
  induction k generalizing s with
  | zero => cases hk
  | succ k ihk =>
   simp only [loopN] at hk
   cases hx : evCode { c with call := ev P hints prim } loopW p s with
   | none => rw [hx] at hk; cases hk
   | some q =>
    obtain ⟨e, s1⟩ := q
    rw [hx] at hk
    obtain ⟨N, hN⟩ := ih s _ hx
    cases e with
    | normal =>
     obtain ⟨K, hK⟩ := ihk s1 hk
     refine ⟨max N K + 1, fun n hn => ?_⟩
     obtain ⟨j, rfl⟩ : ∃ j, n = j + 1 := ⟨n - 1, by omega⟩
     have h2 := hK j (by omega)
     have h3 := loopN_le (Nat.le_refl j) _ (evCode (cxN P hints prim c (j + 1)) (loopN (j + 1)) p)
      (fun s r hr => evCode_le (c := cxN P hints prim c j) (call := evFun P hints prim j) (call' := evFun P hints prim (j + 1)) (evFun_le (by omega)) rfl (loopN_le (by omega)) p s r hr) s1 r h2
     rw [loopN_succ, hN (j + 1) (by omega)]
     exact h3
    | exit id => exact ⟨N + 1, fun n hn => by obtain ⟨j, rfl⟩ : ∃ j, n = j + 1 := ⟨n - 1, by omega⟩; rw [loopN_succ, hN (j + 1) (by omega)]; exact hk⟩
    | ret => exact ⟨N + 1, fun n hn => by obtain ⟨j, rfl⟩ : ∃ j, n = j + 1 := ⟨n - 1, by omega⟩; rw [loopN_succ, hN (j + 1) (by omega)]; exact hk⟩
 | scope p ih => intro s r h; exact ih s r h
 | skip => intro s r h; exact ⟨0, fun _ _ => h⟩
 | exit id => intro s r h; exact ⟨0, fun _ _ => h⟩
 | label l => intro s r h; exact ⟨0, fun _ _ => h⟩
 | ret => intro s r h; exact ⟨0, fun _ _ => h⟩
 | rangeFunc f ps x y _ _ => intro s r h; cases h
 | goto l => intro s r h; cases h
 | refuse w => intro s r h; cases h
theorem evBody_cont {lo f : Nat} {args : List V} {h : Heap} {r : V × Heap} (he : evBody P hints (ev P hints prim) loopW lo f args h = some r) : ∃ n, evBody P hints (evFun P hints prim n) (loopN n) lo f args h = some r := by
 unfold evBody at he
 split at he
 ·rename_i fn hfn
  split at he
  ·rename_i b hb
   split at he
   ·rename_i hck
    split at he
    ·cases he
    ·rename_i e s hne hs
     obtain ⟨N, hN⟩ := evCode_cont (c := ⟨P, ev P hints prim, lo, h.length, hints f⟩) rfl b _ _ hs
     refine ⟨N, ?_⟩
     have := hN N (Nat.le_refl _)
     unfold cxN at this
     unfold evBody
     simp only [hfn, hb, hck, if_true]
     rw [this]
     split
     ·rename_i heq; cases heq; exact absurd rfl (hne _)
     ·rename_i heq; cases heq; exact he
     ·rename_i heq; cases heq
    ·cases he
   ·cases he
  ·cases he
 ·cases he
theorem ev_eq {lo f : Nat} {args : List V} {h : Heap} (hp : prim f = none) : ev P hints prim lo f args h = evBody P hints (ev P hints prim) loopW lo f args h := by
 cases hb : evBody P hints (ev P hints prim) loopW lo f args h with
 | some r =>
  obtain ⟨n, hn⟩ := evBody_cont hb
  exact ev_of (n := n + 1) (by simp only [evFun, hp]; exact hn)
 | none =>
  cases he : ev P hints prim lo f args h with
  | none => rfl
  | some r =>
   obtain ⟨n, hn⟩ := ev_to he
   cases n with
   | zero => cases hn
   | succ n =>
    simp only [evFun, hp] at hn
    have := evBody_le (fun lo f args h r hr => ev_of (n := n) hr) loopN_W hn
    rw [this] at hb
    cases hb
theorem ev_prim {lo f : Nat} {args : List V} {h : Heap} {p : Nat → List V → Heap → Option (V × Heap)} (hp : prim f = some p) : ev P hints prim lo f args h = p lo args h := by
 cases hb : p lo args h with
 | some r => exact ev_of (n := 1) (by simp only [evFun, hp]; exact hb)
 | none =>
  cases he : ev P hints prim lo f args h with
  | none => rfl
  | some r =>
   obtain ⟨n, hn⟩ := ev_to he
   cases n with
   | zero => cases hn
   | succ n => simp only [evFun, hp] at hn; rw [hb] at hn; cases hn
end ev
end Go.Lift
end

section
namespace Go.Lift
set_option linter.unusedVariables false
set_option linter.unusedSimpArgs false
set_option linter.unusedSectionVars false
open Go.ChangeShapes Go.WideShapes Go.RowKit
mutual
inductive Ty (P : Program) : TypeId → List V → Prop
 | bool {t : TypeId} (b : Bool) : P.underlying t = some .bool → Ty P t [.v (.bool b)]
 | int {t : TypeId} (k : IntKind) (n : Int) : P.underlying t = some (.int k) → (Lit.int k n).wf = true → Ty P t [.v (.int k n)]
 | string {t : TypeId} (s : ByteArray) : P.underlying t = some .string → Ty P t [.v (.string s)]
 | slice {t e : TypeId} (rows : List (List V)) : P.underlying t = some (.slice e) → (∀ row ∈ rows, Ty P e row) → Ty P t [.list .no rows]
 | struct {t : TypeId} (fs : Array Field) (cells : List V) : P.underlying t = some (.struct fs) → TyFs P fs.toList cells → Ty P t cells
inductive TyFs (P : Program) : List Field → List V → Prop
 | nil : TyFs P [] []
 | cons {f : Field} {fs : List Field} {p q : List V} : Ty P f.type p → TyFs P fs q → TyFs P (f :: fs) (p ++ q)
end
mutual
def vsize : V → Nat
 | .v (.string s) => s.size + 1
 | .list _ rows => vsRows rows + 1
 | _ => 1
def vsRow : List V → Nat
 | [] => 0
 | v :: r => vsize v + vsRow r
def vsRows : List (List V) → Nat
 | [] => 0
 | r :: rs => vsRow r + vsRows rs
end
theorem vsRow_append (l r : List V) : vsRow (l ++ r) = vsRow l + vsRow r := by
 induction l with
 | nil => simp [vsRow]
 | cons x l ih => simp only [List.cons_append, vsRow, ih]; omega
def fieldsFlat (P : Program) (ts : List Nat) : Nat → List Field → Nat → Bool
 | o, [], n => o == n
 | o, f :: fs, n => ts.contains f.type && f.offset == o && fieldsFlat P ts (o + P.cellsOf f.type) fs n
def plainTy (P : Program) (ts : List Nat) (t : Nat) : Bool := match P.underlying t with
 | some .bool => true
 | some (.int _) => true
 | some .string => true
 | some (.slice e) => ts.contains e && decide (0 < P.cellsOf e)
 | some (.struct fs) => fieldsFlat P ts 0 fs.toList (P.cellsOf t)
 | _ => false
structure IsBulk {H : Type} (B : DataW H → Nat) (BA : List (DataW H) → Nat) : Prop where
 nil : BA [] = 0
 cons : ∀ d r, BA (d :: r) = B d + BA r
 str : ∀ b, B (.lit (.string b)) = b.length + 1
 bool : ∀ b, B (.lit (.bool b)) = 1
 int : ∀ k n, B (.lit (.int k n)) = 1
 none : B .nil = 1
 slice : ∀ e s, BA e + 1 ≤ B (.slice e s)
 agg : ∀ p, B (.agg p) = BA p + 1
theorem bulk_get {H : Type} {B : DataW H → Nat} {BA : List (DataW H) → Nat} (hB : IsBulk B BA) : ∀ (l : List (DataW H)) (rows : List (List V)), l.length = rows.length →
  (∀ (i : Nat) d row, l[i]? = some d → rows[i]? = some row → vsRow row ≤ B d) → vsRows rows ≤ BA l
 | [], [], _, _ => by simp [vsRows, hB.nil]
 | d :: l, row :: rows, hl, h => by
  have h0 := h 0 d row rfl rfl
  have h1 := bulk_get hB l rows (by simpa using hl) (fun i d' row' a b => h (i + 1) d' row' (by simpa using a) (by simpa using b))
  simp only [vsRows, hB.cons]
  omega
section
variable {H : Type} {enc : TypeId × Value → H} {P : Program} {w : World} {c : Cl}
def wholeCl (w : World) : Cl := fun b => match w.heap[b]? with
 | some (.cells arr _ _) => arr.size
 | _ => 0
theorem cell_spot {a : Addr} {x : Value} (h : w.cell? a = some x) : a.spot = none ∧ a.off < wholeCl w a.block := by
 unfold World.cell? at h
 unfold wholeCl
 split at h
 ·rename_i arr _ _ hb
  rw [hb]
  split at h
  ·cases h
  ·rename_i hs
   refine ⟨by simpa using hs, ?_⟩
   exact (Array.getElem?_eq_some_iff.1 h).1
 ·cases h
theorem open_fields {B : DataW H → Nat} {BA : List (DataW H) → Nat} (hB : IsBulk B BA) {ts : List Nat} {fuel n : Nat} {cs : List Value}
  (ih : ∀ t cs d p, ts.contains t = true → DataW.trod enc P w 0 (fun _ => true) true fuel t cs = some (d, p) → ∃ vs, R2 (VP (wholeCl w) w) vs cs ∧ Ty P t vs ∧ vsRow vs ≤ B d) :
  ∀ (fs : List Field) (o : Nat) (xs : List (DataW H × List MemPlace)), fieldsFlat P ts o fs n = true → cs.length = n → xs.length = fs.length →
   (∀ (i : Nat) (f : Field), fs[i]? = some f → DataW.trod enc P w 0 (fun _ => true) true fuel f.type ((cs.drop f.offset).take (P.cellsOf f.type)) = xs[i]?) →
   (∀ (i : Nat) (f : Field), fs[i]? = some f → f.offset + P.cellsOf f.type ≤ n) →
   ∃ vs, R2 (VP (wholeCl w) w) vs (cs.drop o) ∧ TyFs P fs vs ∧ vsRow vs ≤ BA (xs.map (·.1))
 | [], o, xs, hf, hc, hx, _, _ => by
  simp only [fieldsFlat, beq_iff_eq] at hf
  refine ⟨[], ?_, .nil, by simp [vsRow]⟩
  rw [List.drop_eq_nil_of_le (by omega)]
  exact R2.nil
 | f :: fs, o, x :: xs, hf, hc, hx, hg, hin => by
  simp only [fieldsFlat, Bool.and_eq_true, beq_iff_eq] at hf
  obtain ⟨⟨hm, ho⟩, hr⟩ := hf
  have h0 := hg 0 f rfl
  simp only [List.getElem?_cons_zero] at h0
  obtain ⟨p, hp1, hp2, hp3⟩ := ih f.type _ x.1 x.2 hm h0
  obtain ⟨q, hq1, hq2, hq3⟩ := open_fields hB ih fs _ xs hr hc (by simpa using hx) (fun i g h => hg (i + 1) g (by simpa using h)) (fun i g h => hin (i + 1) g (by simpa using h))
  refine ⟨p ++ q, ?_, .cons hp2 hq2, ?_⟩
  ·have : cs.drop o = (cs.drop f.offset).take (P.cellsOf f.type) ++ cs.drop (o + P.cellsOf f.type) := by
    rw [← ho, ← List.drop_drop, List.take_append_drop]
   rw [this]
   exact hp1.append hq1
  ·rw [vsRow_append, List.map_cons, hB.cons]
   omega
theorem flat_in {ts : List Nat} {n : Nat} : ∀ {fs : List Field} {o : Nat}, fieldsFlat P ts o fs n = true → o ≤ n ∧ ∀ (i : Nat) (f : Field), fs[i]? = some f → f.offset + P.cellsOf f.type ≤ n
 | [], o, h => by
  simp only [fieldsFlat, beq_iff_eq] at h
  exact ⟨by omega, fun i f hf => by simp at hf⟩
 | f :: fs, o, h => by
  simp only [fieldsFlat, Bool.and_eq_true, beq_iff_eq] at h
  obtain ⟨⟨_, ho⟩, hr⟩ := h
  obtain ⟨h1, h2⟩ := flat_in hr
  refine ⟨by omega, fun i g hg => ?_⟩
  cases i with
  | zero => simp at hg; subst hg; omega
  | succ i => exact h2 i g (by simpa using hg)
theorem open_ty {B : DataW H → Nat} {BA : List (DataW H) → Nat} (hB : IsBulk B BA) {ts : List Nat} (hts : ts.all (plainTy P ts) = true) :
  ∀ (fuel : Nat) (t : TypeId) (cs : List Value) (d : DataW H) (p : List MemPlace), ts.contains t = true → DataW.trod enc P w 0 (fun _ => true) true fuel t cs = some (d, p) →
   ∃ vs, R2 (VP (wholeCl w) w) vs cs ∧ Ty P t vs ∧ vsRow vs ≤ B d := by
 intro fuel
 induction fuel with
 | zero => intro t cs d p _ h; simp [DataW.trod] at h
 | succ fuel ih =>
  intro t cs d p ht h
  have hp : plainTy P ts t = true := List.all_eq_true.1 hts t (by simpa using ht)
  unfold plainTy at hp
  split at hp
  ·rename_i hu
   obtain ⟨b, rfl, hx⟩ := DataW.trod_bool hu h
   cases hx
   exact ⟨[.v (.bool b)], .cons (.v _ rfl) .nil, .bool b hu, by simp [vsRow, vsize, hB.bool]⟩
  ·rename_i k hu
   obtain ⟨n, rfl, hx, hw⟩ := DataW.trod_int hu h
   cases hx
   exact ⟨[.v (.int k n)], .cons (.v _ rfl) .nil, .int k n hu hw, by simp [vsRow, vsize, hB.int]⟩
  ·rename_i hu
   obtain ⟨s, rfl, hx, hw⟩ := DataW.trod_string hu h
   cases hx
   refine ⟨[.v (.string s)], .cons (.v _ rfl) .nil, .string s hu, ?_⟩
   rw [hB.str]
   simp [vsRow, vsize]
  ·rename_i e hu
   simp only [Bool.and_eq_true, decide_eq_true_eq] at hp
   rcases DataW.trod_slice hu h with ⟨rfl, hx⟩ | ⟨a, len, cap, elems, rest, n, hn, rfl, hx, _, hl, hm, hlen, hel, _, _⟩
   ·cases hx
    exact ⟨[.list .no []], .cons (.empty _ _ _) .nil, .slice [] hu (by simp), by simp [vsRow, vsize, vsRows, hB.none]⟩
   ·obtain rfl : fuel = n := by omega
    cases hx
    have each : ∀ i : Nat, i < len → ∃ r : List V × List Value, w.cells? 0 (a.add (i * P.cellsOf e)) (P.cellsOf e) = some r.2 ∧ R2 (VP (wholeCl w) w) r.1 r.2 ∧ Ty P e r.1 ∧
      ∀ y, elems[i]? = some y → vsRow r.1 ≤ B y.1 := by
     intro i hi
     have hy := hel i hi
     have hi' : i < elems.length := by omega
     rw [List.getElem?_eq_getElem hi'] at hy
     obtain ⟨cs', h1, h2⟩ := Option.bind_eq_some_iff.1 hy
     obtain ⟨vs, g1, g2, g3⟩ := ih e cs' elems[i].1 elems[i].2 (by simpa using hp.1) h2
     refine ⟨(vs, cs'), h1, g1, g2, fun y hy => ?_⟩
     rw [List.getElem?_eq_getElem hi'] at hy
     cases hy
     exact g3
    have hch : ∃ F : Nat → List V × List Value, ∀ i, i < len → w.cells? 0 (a.add (i * P.cellsOf e)) (P.cellsOf e) = some (F i).2 ∧ R2 (VP (wholeCl w) w) (F i).1 (F i).2 ∧ Ty P e (F i).1 ∧
      ∀ y, elems[i]? = some y → vsRow (F i).1 ≤ B y.1 := by
     classical
     refine ⟨fun i => if hi : i < len then Classical.choose (each i hi) else ([], []), fun i hi => ?_⟩
     simp only [dif_pos hi]
     exact Classical.choose_spec (each i hi)
    obtain ⟨F, hF⟩ := hch
    have hget : ∀ (i : Nat) (row : List V), ((List.range len).map fun i => (F i).1)[i]? = some row → i < len ∧ row = (F i).1 := by
     intro i row hr
     simp only [List.getElem?_map, Option.map_eq_some_iff] at hr
     obtain ⟨j, hj, rfl⟩ := hr
     obtain ⟨hj1, rfl⟩ := List.getElem?_eq_some_iff.1 hj
     simp at hj1 ⊢
     exact hj1
    have hrows : ∀ row ∈ (List.range len).map fun i => (F i).1, Ty P e row := by
     intro row hr
     simp only [List.mem_map, List.mem_range] at hr
     obtain ⟨i, hi, rfl⟩ := hr
     exact (hF i hi).2.2.1
    have hbulk : vsRow [V.list .no ((List.range len).map fun i => (F i).1)] ≤ B (DataW.slice (elems.map (·.1)) (rest.map (·.1))) := by
     have := bulk_get hB (elems.map (·.1)) ((List.range len).map fun i => (F i).1) (by simp [hlen]) (fun i d row hd hr => by
      obtain ⟨hi, rfl⟩ := hget i row hr
      simp only [List.getElem?_map, Option.map_eq_some_iff] at hd
      obtain ⟨y, hy, rfl⟩ := hd
      exact (hF i hi).2.2.2 y hy)
     have h9 := hB.slice (elems.map (·.1)) (rest.map (·.1))
     simp only [vsRow, vsize]
     omega
    by_cases h0 : len = 0
    ·subst h0
     exact ⟨[.list .no []], .cons (.empty _ _ _) .nil, .slice [] hu (by simp), by simpa using hbulk⟩
    ·refine ⟨[.list .no ((List.range len).map fun i => (F i).1)], .cons ?_ .nil, .slice _ hu hrows, hbulk⟩
     have hcell : ∀ i j, i < len → j < P.cellsOf e → ∃ x, (F i).2[j]? = some x ∧ w.cell? ⟨a.block, a.off + i * P.cellsOf e + j, none⟩ = some x ∧ a.spot = none ∧ a.off + i * P.cellsOf e + j < wholeCl w a.block := by
      intro i j hi hj
      obtain ⟨h1, h2, h3⟩ := World.cells?_some (hF i hi).1
      have hx := h3 j hj
      have hj' : j < (F i).2.length := by omega
      rw [List.getElem?_eq_getElem hj'] at hx
      refine ⟨(F i).2[j], List.getElem?_eq_getElem hj', ?_⟩
      obtain ⟨hs, ho⟩ := cell_spot hx
      have hsp : a.spot = none := by
       obtain ⟨_, _, k3⟩ := World.cells?_some (hF 0 (by omega)).1
       have kx := k3 0 hp.2
       have kj : 0 < (F 0).2.length := by
        obtain ⟨_, k2, _⟩ := World.cells?_some (hF 0 (by omega)).1
        omega
       rw [List.getElem?_eq_getElem kj] at kx
       have := (cell_spot kx).1
       simpa [Addr.add] using this
      have hadr : (a.add (i * P.cellsOf e)).add j = ⟨a.block, a.off + i * P.cellsOf e + j, none⟩ := by
       obtain ⟨ab, ao, as⟩ := a
       simp only at hsp
       subst hsp
       unfold Addr.add
       by_cases e1 : i * P.cellsOf e = 0 <;> by_cases e2 : j = 0 <;> simp [e1, e2, Nat.add_assoc]
      rw [hadr] at hx ho
      exact ⟨hx, hsp, ho⟩
     obtain ⟨x0, _, _, hsp, _⟩ := hcell 0 0 (by omega) hp.2
     have hlen2 : ((List.range len).map fun i => (F i).1).length = len := by simp
     have hrec : ∀ (i j : Nat) (row : List V) (v : V), ((List.range len).map fun i => (F i).1)[i]? = some row → row[j]? = some v → j < P.cellsOf e ∧ w.cell? ⟨a.block, a.off + i * P.cellsOf e + j, none⟩ = some ((F i).2.getD j default) ∧ VP (wholeCl w) w v ((F i).2.getD j default) := by
      intro i j row v hr hv
      obtain ⟨hi, rfl⟩ := hget i row hr
      obtain ⟨_, k2, _⟩ := World.cells?_some (hF i hi).1
      have hj : j < P.cellsOf e := by
       have := (List.getElem?_eq_some_iff.1 hv).1
       rw [(hF i hi).2.1.1] at this
       omega
      obtain ⟨x, hx1, hx2, _, _⟩ := hcell i j hi hj
      have hx3 : (F i).2.getD j default = x := by simp [List.getD, hx1]
      rw [hx3]
      exact ⟨hj, hx2, (hF i hi).2.1.2 j v x hv hx1⟩
     have key := VP.list (c := wholeCl w) (w := w) .no ((List.range len).map fun i => (F i).1) a cap (P.cellsOf e) (fun i j => (F i).2.getD j default)
      (by intro he; have := congrArg List.length he; simp at this; omega) hp.2 hsp (by rw [hlen2]; exact hl)
      (by
       rw [hlen2]
       obtain ⟨_, _, _, _, hb⟩ := hcell (len - 1) (P.cellsOf e - 1) (by omega) (by omega)
       have e1 : len * P.cellsOf e = (len - 1) * P.cellsOf e + P.cellsOf e := by
        rw [← Nat.succ_mul, show (len - 1).succ = len by omega]
       omega)
      (fun i row hr => by
       obtain ⟨hi, rfl⟩ := hget i row hr
       obtain ⟨_, k2, _⟩ := World.cells?_some (hF i hi).1
       rw [(hF i hi).2.1.1]; omega)
      (fun i j row v hr hv => (hrec i j row v hr hv).2.1) (fun i j row v hr hv => (hrec i j row v hr hv).2.2)
     rw [hlen2] at key
     exact key
  ·rename_i fs hu
   obtain ⟨xs, n, hn, hx, hcs, hxs, hg⟩ := DataW.trod_struct hu h
   obtain rfl : fuel = n := by omega
   cases hx
   obtain ⟨vs, h1, h2, h3⟩ := open_fields hB ih fs.toList 0 xs hp hcs (by simpa using hxs) (fun i f hf => hg i f (by simpa using hf)) (flat_in hp).2
   refine ⟨vs, by simpa using h1, .struct fs vs hu h2, ?_⟩
   rw [hB.agg]
   omega
  ·cases hp
def TyV (P : Program) (t : TypeId) (v : V) : Prop := match P.underlying t with
 | some (.struct _) => ∃ cs, v = .agg cs ∧ Ty P t cs
 | _ => Ty P t [v]
theorem VP.vr0 {m : List Nat} {v : V} {x : Value} (h : VP c w v x) : VR0 m c w v x := by
 cases h with
 | v x h => rfl
 | empty k ao cap => exact .empty k ao cap
 | list k rows a cap sz xs h1 h2 h3 h4 h5 h6 h7 h8 => exact .list k rows a cap sz xs h1 h2 h3 h4 h5 h6 h7 h8
theorem VP.vr1 {m : List Nat} {v : V} {x : Value} (h : VP c w v x) : VR1 m c w v x := by
 have h0 := h.vr0 (m := m)
 cases h with
 | v x h => exact h0
 | empty k ao cap => exact h0
 | list k rows a cap sz xs h1 h2 h3 h4 h5 h6 h7 h8 => exact h0
theorem VP.vrr {m : List Nat} {v : V} {x : Value} (h : VP c w v x) : VRr m c w v x := by
 have h0 := h.vr0 (m := m)
 cases h with
 | v x h => exact h0
 | empty k ao cap => exact h0
 | list k rows a cap sz xs h1 h2 h3 h4 h5 h6 h7 h8 => exact h0
def asize : V → Nat
 | .agg cs => vsRow cs
 | v => vsize v
def asizes : List V → Nat
 | [] => 0
 | v :: r => asize v + asizes r
end
end Go.Lift
end

section
namespace Go.Lift
set_option linter.unusedVariables false
set_option linter.unusedSimpArgs false
set_option linter.unusedSectionVars false
open Go.ChangeShapes Go.WideShapes Go.RowKit
def TysV (P : Program) : List TypeId → List V → Prop
 | [], [] => True
 | t :: ts, v :: vs => TyV P t v ∧ TysV P ts vs
 | _, _ => False
theorem size1 (v : V) (h : ∀ cs, v ≠ .agg cs) : asize v = vsRow [v] := by
 cases v with
 | agg cs => exact absurd rfl (h cs)
 | _ => simp [asize, vsRow]
section
variable {H : Type} {enc : TypeId × Value → H} {P : Program} {w : World}
theorem r2_one {c : Cl} {vs : List V} {y : Value} (h : R2 (VP c w) vs [y]) : ∃ v, vs = [v] ∧ VP c w v y := by
 match vs, h.1 with
 | [v], _ => exact ⟨v, rfl, h.head⟩
theorem open_arg {B : DataW H → Nat} {BA : List (DataW H) → Nat} (hB : IsBulk B BA) {ts : List Nat} (hts : ts.all (plainTy P ts) = true) {t : TypeId} {y : Value} {d : DataW H} {p : List MemPlace}
  (ht : ts.contains t = true) (hok : Value.okWide P w .any 0 t y) (h : DataW.Trod enc P w 0 (fun _ => true) true t y d p) :
  ∃ v, VRr [] (wholeCl w) w v y ∧ TyV P t v ∧ asize v ≤ B d := by
 obtain ⟨fuel, hf⟩ := h
 obtain ⟨vs, h1, h2, h3⟩ := open_ty hB hts fuel t _ d p ht hf
 have hp : plainTy P ts t = true := List.all_eq_true.1 hts t (by simpa using ht)
 have one : (∀ xs, y ≠ .agg xs) → (∀ fs, P.underlying t ≠ some (.struct fs)) → ∃ v, VRr [] (wholeCl w) w v y ∧ TyV P t v ∧ asize v ≤ B d := by
  intro hy hn
  have : y.cells.toList = [y] := by
   cases y with
   | agg xs => exact absurd rfl (hy xs)
   | _ => rfl
  rw [this] at h1
  obtain ⟨v, rfl, hv⟩ := r2_one h1
  refine ⟨v, hv.vrr, ?_, ?_⟩
  ·unfold TyV
   split
   ·rename_i fs he
    exact absurd he (hn fs)
   ·exact h2
  ·rw [size1]
   ·exact h3
   ·intro cs hc
    subst hc
    cases hv
 unfold plainTy at hp
 split at hp
 ·rename_i hu
  obtain ⟨b, rfl⟩ := okWide_bool hu hok
  exact one (fun _ h => by cases h) (fun fs h => by rw [hu] at h; cases h)
 ·rename_i k hu
  obtain ⟨b, rfl⟩ := okWide_int hu hok
  exact one (fun _ h => by cases h) (fun fs h => by rw [hu] at h; cases h)
 ·rename_i hu
  obtain ⟨b, rfl⟩ := okWide_string hu hok
  exact one (fun _ h => by cases h) (fun fs h => by rw [hu] at h; cases h)
 ·rename_i e hu
  obtain ⟨a, len, cap, rfl⟩ := okWide_slice hu hok
  exact one (fun _ h => by cases h) (fun fs h => by rw [hu] at h; cases h)
 ·rename_i fs hu
  obtain ⟨xs, rfl, _⟩ := okWide_struct hu hok
  refine ⟨.agg vs, ⟨xs, rfl, h1.mono fun _ _ hv => hv.vr1⟩, ?_, h3⟩
  unfold TyV
  rw [hu]
  exact ⟨vs, rfl, h2⟩
 ·cases hp
theorem open_args {B : DataW H → Nat} {BA : List (DataW H) → Nat} (hB : IsBulk B BA) {ts : List Nat} (hts : ts.all (plainTy P ts) = true) :
  ∀ {us : List TypeId} {ys : List Value} {ds : List (DataW H)} {p : List MemPlace}, us.all ts.contains = true → (∀ (j : Nat) t v, us[j]? = some t → ys[j]? = some v → Value.okWide P w .any 0 t v) →
   DataW.TrodAll enc P w 0 (fun _ => true) true us ys ds p → ∃ vs, R2 (VRr [] (wholeCl w) w) vs ys ∧ TysV P us vs ∧ asizes vs ≤ BA ds
 | [], ys, ds, p, _, _, h => by
  obtain ⟨rfl, rfl, rfl⟩ := trodAll_nil h
  exact ⟨[], R2.nil, trivial, by simp [asizes]⟩
 | u :: us, ys, ds, p, hu, hok, h => by
  obtain ⟨y, ys', d, ds', a, b, rfl, rfl, rfl, h1, h2⟩ := trodAll_cons h
  simp only [List.all_cons, Bool.and_eq_true] at hu
  obtain ⟨v, v1, v2, v3⟩ := open_arg hB hts hu.1 (hok 0 u y rfl rfl) h1
  obtain ⟨vs, w1, w2, w3⟩ := open_args hB hts hu.2 (fun j t x hj hx => hok (j + 1) t x (by simpa using hj) (by simpa using hx)) h2
  refine ⟨v :: vs, R2.cons v1 w1, ⟨v2, w2⟩, ?_⟩
  simp only [asizes, hB.cons]
  omega
variable [GTab] [BTy]
def GOK (w : World) : Prop := ∀ n cs, GTab.tab n = some cs → ROs (wholeCl w) w ⟨n, 0, none⟩ cs
theorem whole_hok (w : World) (hG : GOK w) : HOK [] (wholeCl w) w [] := by
 refine ⟨⟨?_, ?_, List.nodup_nil, rfl, ?_, ?_, ?_, ?_, ?_, ?_, hG⟩, ?_⟩
 ·intro b hb
  unfold wholeCl at hb ⊢
  split at hb
  ·rename_i arr e f he
   exact ⟨arr, e, f, he, by simp⟩
  ·cases hb
 ·intro b hb; cases hb
 ·intro t; trivial
 ·intro i o b ho; simp at ho
 ·intro l r x hl
  cases l with
  | slot t => exact absurd hl.1 (by simp [look])
  | cell i j => obtain ⟨os, b, ho, _⟩ := hl; simp [cellsOfOb] at ho
 ·intro l l' r r' x x' b hl
  cases l with
  | slot t => exact absurd hl.1 (by simp [look])
  | cell i j => obtain ⟨os, b, ho, _⟩ := hl; simp [cellsOfOb] at ho
 ·intro t u r ht; simp [look] at ht
 ·intro t i j r ht; simp [look] at ht
 ·intro i cs hi; simp [cellsOfOb] at hi
theorem call_of {hints : Nat → Hint} {prim : Nat → Option (Nat → List V → Heap → Option (V × Heap))} (hm : P.follows .mixedOrders = true)
  (hprim : ∀ f p, prim f = some p → ∀ lo args h r h', lo ≤ h.length → p lo args h = some (r, h') → CallOK P lo f args h r h')
  {f : Nat} {vs : List V} {x : Value} {args : Array Value} (hG : GOK w) (he : ev P hints prim 0 f vs [] = some (.v x, [])) (ha : R2 (VRr [] (wholeCl w) w) vs args.toList) :
  Calls P f args w fun e w' => e = .returned x ∧ Below w.heap.size w w' := by
 obtain ⟨n, hn⟩ := ev_to he
 have hc := fun_ok hm hprim n 0 f vs [] (.v x) [] (Nat.le_refl _) hn
 obtain ⟨_, hcall⟩ := hc.2.2 [] (wholeCl w) w args (whole_hok w hG) ha
 refine hcall.mono fun e w' ⟨y, c', h1, h2, _, h4, _⟩ => ?_
 obtain rfl : y = x := h2
 refine ⟨h1, h4.os, h4.tape, h4.output, h4.size, fun k hk => (h4.fix k hk (fun i _ h => by simp at h) ?_).1⟩
 rintro ⟨i, j, r, z, _, hl, _⟩
 obtain ⟨os, b, ho, _⟩ := hl
 simp [cellsOfOb] at ho
theorem post_of_below {f : Func} {s : ChangeSpec} {apart fresh handsOn again : Bool} {W W' : World} {args : Array Value} {v : Value} {ds gs : List (DataW H)} {before pa pv : List MemPlace}
  (hW : DataW.Whole enc P f.params.toList s.vars apart W args.toList ds gs before)
  (hres : ∀ (b : Nat) (sp : Nat → Bool) (hd : Bool), DataW.TrodAll enc P W' b sp hd f.resultTypes.toList (v.resultList f.resultTypes.size) (s.fn H (ds ++ gs)).results [])
  (hargs : DataW.TrodAll enc P W' 0 (fun b => decide (b < W.heap.size)) true f.params.toList args.toList (s.fn H (ds ++ gs)).args pa)
  (hargs2 : DataW.TrodAll enc P W' 0 (fun _ => true) true f.params.toList args.toList (s.fn H (ds ++ gs)).args pa)
  (hvars : ∀ sp : Nat → Bool, (∀ p ∈ before, sp p.block = true) → DataW.TrodVars enc P W' sp s.vars (s.fn H (ds ++ gs)).vars pv)
  (hps : before = pa ++ pv) (hb : Below W.heap.size W W')
  (hok : ∀ (j : Nat) (t : TypeId) (r : Value), f.resultTypes[j]? = some t → (v.resultList f.resultTypes.size)[j]? = some r → Value.okWide P W' .any 0 t r) :
  s.post enc P f apart fresh handsOn again W args v W' := by
 have hold : ∀ p ∈ before, (fun b => decide (b < W.heap.size)) p.block = true := fun p hp => by simpa using hW.lt p hp
 refine ⟨ds, gs, before, [], pa, pv, hW, hres _ _ _, hargs, hvars _ hold, World.keptBut_mono (fun p hp => ⟨hp, ?_⟩) (hb.frame _), fun _ => ?_⟩
 ·rw [hps, List.mem_append] at hp
  exact Or.inr hp
 ·have hlt := hW.lt
  obtain ⟨_, _, _, _, _, hz, hn⟩ := hW
  refine ⟨hok, _, _, ([] ++ pa) ++ pv, ⟨[] ++ pa, pv, trodAll_append hargs2 (hres _ _ _), hvars _ (fun _ _ => rfl), rfl, ?_, ?_⟩, ?_⟩
  ·intro b off hp
   have hm : MemPlace.cell b off ∈ before := by rw [hps]; simpa using hp
   rw [hb.frozen (p := ⟨b, off, none⟩) (show b < W.heap.size from hlt _ hm)]
   exact hz b off hm
  ·intro ha
   have := hn ha
   rw [hps] at this
   simpa using this
  ·intro p hp _
   rw [hps]
   simpa using hp
theorem trod_stays {t : TypeId} (hl : laidOutB P = true) (hr : P.readableRec t = true) (hrow : t < P.types.size) {W W' : World} {v : Value} {d : DataW H} {ps : List MemPlace}
  (h : DataW.Trod enc P W 0 (fun _ => true) true t v d ps) (hb : Below W.heap.size W W') (hlt : ∀ x ∈ ps, x.block < W.heap.size) (sp : Nat → Bool) (hsp : ∀ x ∈ ps, sp x.block = true) :
  DataW.Trod enc P W' 0 sp true t v d ps :=
 WideElems.Trod_stays hl hr hrow h (fun x hx => hb.same (hlt x hx)) (fun x hx => by simpa using hsp x hx)
theorem trodAll_stays (hl : laidOutB P = true) {W W' : World} (hb : Below W.heap.size W W') :
  ∀ {us : List TypeId} {ys : List Value} {ds : List (DataW H)} {p : List MemPlace}, us.all (fun t => P.readableRec t && decide (t < P.types.size)) = true →
   DataW.TrodAll enc P W 0 (fun _ => true) true us ys ds p → (∀ x ∈ p, x.block < W.heap.size) → ∀ (sp : Nat → Bool), (∀ x ∈ p, sp x.block = true) → DataW.TrodAll enc P W' 0 sp true us ys ds p
 | [], ys, ds, p, _, h, _, sp, _ => by
  obtain ⟨rfl, rfl, rfl⟩ := trodAll_nil h
  rfl
 | u :: us, ys, ds, p, hu, h, hlt, sp, hsp => by
  obtain ⟨y, ys', d, ds', a, b, rfl, rfl, rfl, h1, h2⟩ := trodAll_cons h
  simp only [List.all_cons, Bool.and_eq_true, decide_eq_true_eq] at hu
  exact ⟨a, b, trod_stays hl hu.1.1 hu.1.2 h1 hb (fun x hx => hlt x (by simp [hx])) sp (fun x hx => hsp x (by simp [hx])),
   trodAll_stays hl hb (by simpa using hu.2) h2 (fun x hx => hlt x (by simp [hx])) sp (fun x hx => hsp x (by simp [hx])), rfl⟩
theorem law_of {hints : Nat → Hint} {prim : Nat → Option (Nat → List V → Heap → Option (V × Heap))} (hm : P.follows .mixedOrders = true)
  (hprim : ∀ f p, prim f = some p → ∀ lo args h r h', lo ≤ h.length → p lo args h = some (r, h') → CallOK P lo f args h r h')
  {B : DataW H → Nat} {BA : List (DataW H) → Nat} (hB : IsBulk B BA) {ts : List Nat} (hts : ts.all (plainTy P ts) = true) {fn : Func} {f bt N : Nat}
  (hin : fn.params.toList.all ts.contains = true) (hrd : fn.params.toList.all (fun t => P.readableRec t && decide (t < P.types.size)) = true) (hlaid : laidOutB P = true)
  (hrt : fn.resultTypes = #[bt]) (hbt : P.underlying bt = some .bool)
  {s : ChangeSpec} (hv : s.vars = []) (hs : ∀ l : List (DataW H), l.length = fn.params.size → s.fn H l = { results := [.lit (.bool true)], args := l })
  (he : ∀ vs, TysV P fn.params.toList vs → asizes vs ≤ N → ev P hints prim 0 f vs [] = some (.v (.bool true), []))
  {W : World} (hG : GOK W) {args : Array Value} {ds gs : List (DataW H)} {before : List MemPlace} {fresh handsOn again : Bool}
  (hval : ∀ (j : Nat) t v, fn.params[j]? = some t → args[j]? = some v → Value.okWide P W .any 0 t v)
  (hW : DataW.Whole enc P fn.params.toList s.vars false W args.toList ds gs before) (hk : BA (ds ++ gs) ≤ N) :
  Calls P f args W fun e W' => ∃ v, e = .returned v ∧ s.post enc P fn false fresh handsOn again W args v W' := by
 have hW' := hW
 have hlt := hW.lt
 obtain ⟨p, q, hA, hV, rfl, hfz, hnd⟩ := hW
 rw [hv] at hV
 obtain ⟨rfl, rfl⟩ := trodVars_none hV
 simp only [List.append_nil] at hW' hk hlt
 obtain ⟨vs, h1, h2, h3⟩ := open_args hB hts hin (fun j t v hj hx => hval j t v (by simpa using hj) (by simpa using hx)) hA
 refine (call_of hm hprim hG (he vs h2 (by omega)) h1).mono fun e W' ⟨he, hb⟩ => ?_
 subst he
 refine ⟨_, rfl, ?_⟩
 have hlen : ∀ {us : List TypeId} {ys : List Value} {ds : List (DataW H)} {p : List MemPlace}, DataW.TrodAll enc P W 0 (fun _ => true) true us ys ds p → ds.length = us.length := by
  intro us
  induction us with
  | nil => intro ys ds p h; obtain ⟨rfl, rfl, rfl⟩ := trodAll_nil h; rfl
  | cons u us ih =>
   intro ys ds p h
   obtain ⟨y, ys', d, ds', a, b, rfl, rfl, rfl, h1, h2⟩ := trodAll_cons h
   simp [ih h2]
 have hs' := hs ds (by simpa using hlen hA)
 refine post_of_below (gs := []) (pa := p) (pv := []) hW' ?_ ?_ ?_ ?_ (by simp) hb ?_
 ·intro b sp hd
  rw [List.append_nil, hs', hrt]
  exact trodAll_mk1 (shut_bool hbt _)
 ·rw [List.append_nil, hs']
  exact trodAll_stays hlaid hb hrd hA hlt _ (fun x hx => by simpa using hlt x hx)
 ·rw [List.append_nil, hs']
  exact trodAll_stays hlaid hb hrd hA hlt _ (fun x hx => rfl)
 ·intro sp _
  rw [List.append_nil, hs', hv]
  rfl
 ·exact ok_one hrt rfl (okWide_bool_mk hbt _)
end
end Go.Lift
end
