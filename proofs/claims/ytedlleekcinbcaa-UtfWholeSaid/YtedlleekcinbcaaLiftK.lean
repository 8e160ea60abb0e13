/- The lifting, eleventh part: iterators over strings, conversions to bytes, slices written out, append. -/
import Derived.Test.YtedlleekcinbcaaLiftJ
import Derived.Laws.IdiomStrings
namespace Go.Lift
set_option linter.unusedVariables false
set_option linter.unusedSimpArgs false
set_option linter.unusedSectionVars false
variable [GTab]

section
variable {P : Program} {vars : List Nat} {m : List Nat} {c : Cl} {w : World} {g : Env} {h : Heap} {a : Act} {E : Entry}

theorem eff_range (hI : InvP vars E m c w g h a) {o : Oper} {t : TypeId} {x : Operand} {b : ByteArray} (ho : o.op = .range t x) (hx : opd g x = .v (.string b)) (hu : P.underlying t = some .string) (hd : ∀ t, o.dst = some t → t < E.nt) (hv : ∀ t, o.dst = some t → t ∉ vars) :
    Done P vars E w a o (.ptr h.length 0) g (h ++ [.iter b 0]) := by
  have hx' : a.eval x = .string b := by have := hI.core.opd x; rw [hx] at this; exact this
  have hw : ∀ k, k < w.heap.size → ({ w with heap := w.heap.push (.stringIter b 0) } : World).heap[k]? = w.heap[k]? := fun k hk => by
    show (w.heap.push _)[k]? = _
    rw [Array.getElem?_push]; simp [show ¬ k = w.heap.size by omega]
  have hI' : InvP vars E (m ++ [w.heap.size]) c { w with heap := w.heap.push (.stringIter b 0) } g (h ++ [.iter b 0]) a := by
    refine hI.grow ⟨by simp, hw, fun _ _ => rfl, fun k hk h0 => ?_, fun k hk => ?_, by simp, rfl, fun i o k ho hk => ?_, Nat.le_refl _, fun i cs j r b ho => ?_, rfl, rfl, rfl⟩
    · rw [hI.core.c_zero hk] at h0; omega
    · simp at hk; subst hk; exact ⟨Nat.le_refl _, hI.core.c_zero (Nat.le_refl _)⟩
    · cases i with
      | zero => simp at ho hk; subst ho; subst hk; simp [ObR]
      | succ i => simp at ho
    · cases i with
      | zero => simp at ho
      | succ i => simp at ho
  refine ⟨_, _, _, _, does_of (s := Instr.range t (a.eval x)) (by simp [execOp, ho]) (x := .pointer (some ⟨w.heap.size, 0, none⟩)) (w' := { w with heap := w.heap.push (.stringIter b 0) }) ?_, hI'.putBare hd (new_ptr hI.core.len) rfl (.inl hv)⟩
  simp [Instr.range, hx', run_underlying hu]

theorem eff_next (hI : InvP vars E m c w g h a) {o : Oper} {x : Operand} {i pos : Nat} {s : ByteArray} (ho : o.op = .next x true) (hx : opd g x = .ptr i 0) (hh : h[i]? = some (.iter s pos)) (hlo : E.lo ≤ i) (hnt : ∀ t i j r, look g t ≠ .list (.cell i j) r)
    (hd : ∀ t, o.dst = some t → t < E.nt) (hv : ∀ t, o.dst = some t → t ∉ vars) :
    if pos < s.size then Done P vars E w a o (.tup [.v (.bool true), .v (.int .i64 pos), .v (.int .i32 (Utf8.decode s pos).1)]) g (h.set i (.iter s (pos + (Utf8.decode s pos).2)))
    else Done P vars E w a o (.tup [.v (.bool false)]) g h := by
  obtain ⟨gb, hm, hxv⟩ := (by have := hI.core.opd x; rw [hx] at this; exact this : ∃ gb, m[i]? = some gb ∧ a.eval x = .pointer (some ⟨gb, 0, none⟩))
  have hob : w.heap[gb]? = some (.stringIter s pos) := hI.core.ob i _ gb hh hm
  have hget : (getObj gb).run P w = .ok (.stringIter s pos) w := by simp [getObj, Sem.run, hob]
  split
  · rename_i hlt
    have hset : ∀ o', ({ w with heap := w.heap.setIfInBounds gb o' } : World).heap[gb]? = some o' := fun o' => by
      have := (Array.getElem?_eq_some_iff.1 hob).1
      simp [this]
    have hoth : ∀ o' k, k ≠ gb → ({ w with heap := w.heap.setIfInBounds gb o' } : World).heap[k]? = w.heap[k]? := fun o' k hk => by
      show (w.heap.setIfInBounds gb o')[k]? = _
      rw [Array.getElem?_setIfInBounds_ne (Ne.symm hk)]
    have hI' := hI.setOb (o' := .iter s (pos + (Utf8.decode s pos).2)) (w' := { w with heap := w.heap.setIfInBounds gb (.stringIter s (pos + (Utf8.decode s pos).2)) }) 0 hlo hm (by simp) (hoth _) rfl rfl rfl (hset _)
      (fun cs' j r x hc => by cases hc) hnt (fun cs' hc => by cases hc)
    refine ⟨.tuple #[.bool true, .int .i64 pos, .int .i32 (Utf8.decode s pos).1], _, m, c, does_of (s := Instr.next (a.eval x) true o.type) (by simp [execOp, ho]) ?_, hI'.putBare hd ?_ rfl (.inl hv)⟩
    · simp only [Instr.next, hxv, Sem.run_bind, hget, Result.andThen_ok, hlt, if_true]
      simp [setObj, Sem.run, hob, goInt]
    · exact ⟨_, rfl, R2.cons rfl (R2.cons rfl (R2.cons rfl R2.nil))⟩
  · rename_i hge
    refine ⟨.tuple #[.bool false], w, m, c, does_of (s := Instr.next (a.eval x) true o.type) (by simp [execOp, ho]) ?_, hI.putBare hd ⟨_, rfl, R2.cons rfl R2.nil⟩ rfl (.inl hv)⟩
    simp only [Instr.next, hxv, Sem.run_bind, hget, Result.andThen_ok, if_neg hge]
    rfl

/-- rows laid in new protected memory -/
theorem VP_new {k : Own} {rows : List (List V)} {b cap sz : Nat} {arr : Array Value} {e : TypeId} {f : Nat × Nat} (hw : w.heap[b]? = some (.cells arr e f)) (hsz : 0 < sz) (hrow : ∀ row ∈ rows, row.length = sz) (hcap : rows.length ≤ cap) (hc : rows.length * sz ≤ c b)
    (hrel : ∀ (i j : Nat) row v, rows[i]? = some row → row[j]? = some v → ∃ x, arr[i * sz + j]? = some x ∧ VP c w v x) : VP c w (.list k rows) (.slice (some ⟨b, 0, none⟩) rows.length cap) := by
  by_cases hne : rows = []
  · subst hne; exact .empty _ _ _
  · refine .list k rows ⟨b, 0, none⟩ cap sz (fun i j => arr.getD (i * sz + j) undef) hne hsz rfl hcap (by simpa using hc) (fun i row hi => hrow row (List.mem_of_getElem? hi)) (fun i j row v hi hj => ?_) (fun i j row v hi hj => ?_)
    · obtain ⟨x, hx, hv⟩ := hrel i j row v hi hj
      rw [cell_arr hw]
      simp [hx]
    · obtain ⟨x, hx, hv⟩ := hrel i j row v hi hj
      simpa [hx] using hv

theorem VP_of_pure {v : V} {x : Value} (hv : VR1 m c w v x) (hp : pure1 v = true) : VP c w v x := by
  cases v with
  | v z => have : x = z := hv; subst this; exact .v _ hp
  | list k r => exact hv
  | _ => cases hp

theorem grow_claim (hI : InvP vars E m c w g h a) {arr : Array Value} {e : TypeId} {f : Nat × Nat} {w' : World} (n : Nat) (hw : w'.heap = w.heap.push (.cells arr e f)) (hos : w'.os = w.os) (htape : w'.tape = w.tape) (hout : w'.output = w.output) (hn : n ≤ arr.size) :
    InvP vars E m (fun b => if b = w.heap.size then n else c b) w' g h a := by
  have hold : ∀ b, b < w.heap.size → w'.heap[b]? = w.heap[b]? := fun b hb => by rw [hw, Array.getElem?_push]; simp [show ¬ b = w.heap.size by omega]
  refine hI.grown none (by rw [hw]; simp) (fun b hb _ => ⟨hold b hb, by simp [show ¬ b = w.heap.size by omega]⟩) (fun b hb => by cases hb) (fun b hb _ h0 => ?_) hos htape hout
  by_cases hbe : b = w.heap.size
  · subst hbe
    exact ⟨arr, e, f, by rw [hw]; simp, by simpa using hn⟩
  · simp only [if_neg hbe] at h0
    rw [hI.core.c_zero hb] at h0; omega

theorem byteRows_get {s : ByteArray} {i j : Nat} {row : List V} {v : V} (hi : (byteRows s)[i]? = some row) (hj : row[j]? = some v) : ∃ c : UInt8, s.data[i]? = some c ∧ j = 0 ∧ v = .v (.int .u8 c.toNat) := by
  unfold byteRows at hi
  simp only [List.getElem?_map, Option.map_eq_some_iff] at hi
  obtain ⟨c, hc, rfl⟩ := hi
  cases j with
  | zero => simp at hj; exact ⟨c, by simpa using hc, rfl, hj.symm⟩
  | succ j => simp at hj

theorem eff_convert (hI : InvP vars E m c w g h a) {o : Oper} {s d : TypeId} {x : Operand} {mutc : Bool} {v : V} {g' : Env} {h' : Heap} (ho : o.op = .convert s d x) (hs : P.underlying s = some .string)
    (he : (match P.underlying s, P.underlying d, opd g x with
      | some .string, some (.slice e), .v (.string y) =>
        if isU8 P e then
          if mutc then some (V.buf h.length 0 y.size, (g, h ++ [Ob.cells (byteCells y)]))
          else some (.list .no (byteRows y), (g, h))
        else none
      | some .string, some .string, .v (.string y) => some (.v (.string y), (g, h))
      | _, _, _ => none) = some (v, g', h')) (hd : ∀ t, o.dst = some t → t < E.nt) (hv : ∀ t, o.dst = some t → t ∉ vars) :
    Done P vars E w a o v g' h' := by
  split at he
  · rename_i e y h1 h2 h3
    have hx' : a.eval x = .string y := by have := hI.core.opd x; rw [h3] at this; exact this
    split at he
    · rename_i hu
      have hu := is_u8 hu
      have hrun := run_bytes_of_string (P := P) w s d e y hs h2 hu
      have hdo : Does P w a o (.slice (some ⟨w.heap.size, 0, none⟩) y.size (grownCap w y.size 0 e)) _ := does_of (s := convert s d (a.eval x)) (by simp [execOp, ho]) (by rw [hx']; exact hrun)
      have hge : y.size ≤ grownCap w y.size 0 e := grownCap_ge w y.size 0 e
      have hrowget : ∀ (j : Nat) (c : UInt8), y.data[j]? = some c → (bytesRow y (grownCap w y.size 0 e))[j]? = some (.int .u8 c.toNat) := fun j c hc => by
        have hl := (Array.getElem?_eq_some_iff.1 hc).1
        unfold bytesRow
        rw [Array.getElem?_append_left (by simpa using hl)]
        simp [hc]
      have hrowsz : y.size ≤ (bytesRow y (grownCap w y.size 0 e)).size := by
        unfold bytesRow
        simp
      split at he
      · cases he
        have hI' := grow_cells hI (cs := byteCells y) (arr := bytesRow y (grownCap w y.size 0 e)) (e := e) (f := ((bytesRow y (grownCap w y.size 0 e)).size, (bytesRow y (grownCap w y.size 0 e)).size + 1)) (w' := w.drew.alloc (.cells (bytesRow y (grownCap w y.size 0 e)) e ((bytesRow y (grownCap w y.size 0 e)).size, (bytesRow y (grownCap w y.size 0 e)).size + 1))) rfl rfl rfl rfl
          (fun j hj => by
            have : (byteCells y).length = y.size := by simp [byteCells]
            omega) (by simp [byteCells]; exact hrowsz)
          (fun j v x hv hx => by
            unfold byteCells at hv
            simp only [List.getElem?_map, Option.map_eq_some_iff] at hv
            obtain ⟨c, hc, rfl⟩ := hv
            rw [hrowget j c (by simpa using hc)] at hx
            cases hx
            exact ⟨rfl, rfl⟩)
          (fun j r hj => by
            unfold byteCells at hj
            simp only [List.getElem?_map, Option.map_eq_some_iff] at hj
            obtain ⟨c, _, hc⟩ := hj
            cases hc)
        refine ⟨_, _, _, _, hdo, hI'.putBare hd ⟨w.heap.size, _, by rw [← hI.core.len]; simp, rfl, hge⟩ rfl (.inl hv)⟩
      · cases he
        have hI' := grow_claim hI (arr := bytesRow y (grownCap w y.size 0 e)) (e := e) (f := ((bytesRow y (grownCap w y.size 0 e)).size, (bytesRow y (grownCap w y.size 0 e)).size + 1)) (w' := w.drew.alloc (.cells (bytesRow y (grownCap w y.size 0 e)) e ((bytesRow y (grownCap w y.size 0 e)).size, (bytesRow y (grownCap w y.size 0 e)).size + 1))) y.size rfl rfl rfl rfl hrowsz
        refine ⟨_, _, _, _, hdo, hI'.putBare hd ?_ rfl (.inl hv)⟩
        have hlen : (byteRows y).length = y.size := by simp [byteRows]
        have key : VP (fun b => if b = w.heap.size then y.size else c b) (w.drew.alloc (.cells (bytesRow y (grownCap w y.size 0 e)) e ((bytesRow y (grownCap w y.size 0 e)).size, (bytesRow y (grownCap w y.size 0 e)).size + 1)))
            (.list .no (byteRows y)) (.slice (some ⟨w.heap.size, 0, none⟩) (byteRows y).length (grownCap w y.size 0 e)) := by
          refine VP_new (sz := 1) (hw := heap_alloc_new w.drew _) Nat.one_pos (fun row hr => ?_) (by rw [hlen]; exact hge) (by simp [hlen]) (fun i j row v hi hj => ?_)
          · unfold byteRows at hr
            simp only [List.mem_map] at hr
            obtain ⟨c, _, rfl⟩ := hr
            rfl
          · obtain ⟨c, hc, rfl, rfl⟩ := byteRows_get hi hj
            exact ⟨_, by simpa using hrowget i c hc, .v _ rfl⟩
        rw [hlen] at key
        exact key
    · cases he
  · rename_i y h1 h2 h3
    cases he
    have hx' : a.eval x = .string y := by have := hI.core.opd x; rw [h3] at this; exact this
    exact ⟨.string y, w, m, c, does_of (s := convert s d (a.eval x)) (by simp [execOp, ho]) (by simp [hx', convert, run_underlying h1, run_underlying h2]), hI.putBare hd rfl rfl (.inl hv)⟩
  · cases he

end
end Go.Lift
