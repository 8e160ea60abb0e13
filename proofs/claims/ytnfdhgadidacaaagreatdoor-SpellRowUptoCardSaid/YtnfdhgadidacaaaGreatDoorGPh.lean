/- What the claims of this seat share: the readings of their arguments. -/
import Derived.Lib.LaidU8
import Derived.Lib.LaidTab
import Derived.Lib.LaidIn
import Derived.Deep.DeepHandedRow
import Derived.Deep.DeepWitnessRowRef
import Derived.Test.YtnfdhgadidacaaaGreatDoorGPf
import Derived.Test.YtnfdhgadidacaaaGreatDoorGRa
import Derived.Test.YtnfdhgadidacaaaGreatDoorGPg
namespace Go.Proofs.YtnfdhgadidacaaaGreatDoor
set_option linter.unusedVariables false
set_option linter.unusedSimpArgs false
open Go.Lift Go.Lift.R4 Go.ChangeShapes Go.WideShapes Go.ChangeAt Go.RowKit
set_option maxRecDepth 100000
theorem isBulk (H : Type) : IsBulk (H := H) Rows.uptoBulk Rows.uptoBulkAll :=
 ⟨rfl, fun _ _ => rfl, fun _ => rfl, fun _ => rfl, fun _ _ => rfl, rfl, fun e s => by show Rows.uptoBulkAll e + 1 ≤ Rows.uptoBulkAll e + Rows.uptoBulkAll s + 1; omega, fun _ => rfl⟩
theorem own : ownKnob Tryz.prog.godebug = none := by kernel_rfl
theorem laidOut : laidOutB Tryz.prog = true := by kernel_rfl
theorem follows : Tryz.prog.follows .mixedOrders = true := by kernel_rfl
theorem tyRow {t e : TypeId} {k : IntKind} (ht : Tryz.prog.underlying t = some (.slice e)) (hk : Tryz.prog.underlying e = some (.int k)) {v : V} (h : TyV Tryz.prog t v) :
  ∃ l : List Int, v = .list .no (ri k l) ∧ ∀ c ∈ l, (Lit.int k c).wf = true := by
 unfold TyV at h
 rw [ht] at h
 simp only at h
 cases h with
 | slice rows hu hr =>
  rw [ht] at hu
  cases hu
  have each : ∀ rows : List (List V), (∀ row ∈ rows, Ty Tryz.prog e row) → ∃ l : List Int, rows = ri k l ∧ ∀ c ∈ l, (Lit.int k c).wf = true := by
   intro rows
   induction rows with
   | nil => intro _; exact ⟨[], rfl, fun _ hc => by cases hc⟩
   | cons r rs ih =>
    intro h
    obtain ⟨l, rfl, hl⟩ := ih fun row hm => h row (List.mem_cons_of_mem _ hm)
    have h0 := h r (List.mem_cons_self ..)
    cases h0 with
    | int k' n hk' hw =>
     rw [hk] at hk'
     cases hk'
     refine ⟨n :: l, rfl, fun c hc => ?_⟩
     rcases List.mem_cons.mp hc with rfl | hc
     ·exact hw
     ·exact hl c hc
    | bool b hk' => rw [hk] at hk'; cases hk'
    | string s hk' => rw [hk] at hk'; cases hk'
    | slice rows hk' _ => rw [hk] at hk'; cases hk'
    | struct fs cells hk' _ => rw [hk] at hk'; cases hk'
  obtain ⟨l, rfl, hl⟩ := each rows hr
  exact ⟨l, rfl, hl⟩
 | struct fs cells hu _ => rw [ht] at hu; cases hu
 | bool b hu => rw [ht] at hu; cases hu
 | int k n hu _ => rw [ht] at hu; cases hu
 | string s hu => rw [ht] at hu; cases hu
theorem ty22 {v : V} (h : TyV Tryz.prog 22 v) : ∃ l : List Int, v = .list .no (ri .i32 l) ∧ ∀ c ∈ l, -2147483648 ≤ c ∧ c ≤ 2147483647 := by
 obtain ⟨l, h1, h2⟩ := tyRow Tryz.underlying22 Tryz.underlying21 h
 refine ⟨l, h1, fun c hc => ?_⟩
 have := h2 c hc
 simp [Lit.wf, IntKind.min, IntKind.max, IntKind.signed, IntKind.bits] at this
 omega
theorem ty28 {v : V} (h : TyV Tryz.prog 28 v) : ∃ l : List Int, v = .list .no (ri .u8 l) ∧ ∀ c ∈ l, 0 ≤ c ∧ c ≤ 255 := by
 obtain ⟨l, h1, h2⟩ := tyRow Tryz.underlying28 Tryz.underlying5 h
 refine ⟨l, h1, fun c hc => ?_⟩
 have := h2 c hc
 simp [Lit.wf, IntKind.min, IntKind.max, IntKind.signed, IntKind.bits] at this
 omega
theorem rows_len (k : IntKind) (l : List Int) : l.length ≤ vsRows (ri k l) := by
 induction l with
 | nil => simp
 | cons n l ih => simp only [ri_cons, vsRows, vsRow, vsize, List.length_cons]; omega
theorem sizes1 {k : IntKind} {l : List Int} {vs : List V} {n : Nat} (h : asizes (.list .no (ri k l) :: vs) ≤ n) : l.length ≤ n ∧ asizes vs ≤ n := by
 have := rows_len k l
 simp only [asizes, asize, vsize] at h
 omega
theorem ros_of {w : World} {g : Nat} {cs : List V} (h : ∀ (j : Nat) v, cs[j]? = some v → ∃ x, w.cell? ⟨g, j, none⟩ = some x ∧ VP (wholeCl w) w v x) : ROs (wholeCl w) w ⟨g, 0, none⟩ cs := by
 refine ⟨?_, fun j v hj => by simpa using h j v hj⟩
 cases cs with
 | nil => exact Nat.zero_le _
 | cons c t =>
  have hl : (c :: t)[t.length]? = some ((c :: t)[t.length]'(by simp)) := List.getElem?_eq_getElem (by simp)
  obtain ⟨x, hx, _⟩ := h t.length _ hl
  unfold World.cell? at hx
  unfold wholeCl
  simp only at hx ⊢
  split at hx
  ·rename_i arr e f he
   rw [he]
   simp only [List.length_cons]
   have := (Array.getElem?_eq_some_iff.1 hx).1
   omega
  ·cases hx
theorem first_data : Rows.laid_unicode_utf8_first = Lib.firstData := by kernel_rfl
theorem accept_data : (Rows.laid_unicode_utf8_acceptRanges : DataW Unit) = Lib.acceptData := by kernel_rfl
theorem g3 : Tryz.lays230_ren.g 3 = 4 := rfl
theorem g4 : Tryz.lays230_ren.g 4 = 5 := rfl
section
variable [MX]
theorem tab1 : GTab.tab 1 = some (Go.Lib.deBruijn64tab.map fun c : Nat => V.v (.int .u8 (c : Int))) := rfl
theorem tab2 : GTab.tab 2 = some [V.v (.int .i64 MX.m)] := rfl
theorem tab4 : GTab.tab 4 = some ((List.range 256).map fun c => V.v (.int .u8 (Go.Lib.firstT c))) := rfl
theorem tab5 : GTab.tab 5 = some ((List.range 16).flatMap fun i => [V.v (.int .u8 (Go.Lib.accLo i)), V.v (.int .u8 (Go.Lib.accHi i))]) := rfl
end
theorem pairs_get {f g : Nat → V} : ∀ (n i : Nat), i < n → ((List.range n).flatMap fun i => [f i, g i])[2 * i]? = some (f i) ∧ ((List.range n).flatMap fun i => [f i, g i])[2 * i + 1]? = some (g i) := by
 intro n
 have hlen : ∀ n, ((List.range n).flatMap fun i => [f i, g i]).length = 2 * n := by
  intro n
  induction n with
  | zero => rfl
  | succ n ih => rw [List.range_succ, List.flatMap_append, List.length_append, ih]; simp; omega
 induction n with
 | zero => intro i hi; omega
 | succ n ih =>
  intro i hi
  rw [List.range_succ, List.flatMap_append]
  by_cases h : i < n
  ·obtain ⟨a, b⟩ := ih i h
   rw [List.getElem?_append_left (by rw [hlen]; omega), List.getElem?_append_left (by rw [hlen]; omega)]
   exact ⟨a, b⟩
  ·obtain rfl : i = n := by omega
   rw [List.getElem?_append_right (by rw [hlen]; omega), List.getElem?_append_right (by rw [hlen]; omega), hlen]
   have e1 : 2 * i - 2 * i = 0 := by omega
   have e2 : 2 * i + 1 - 2 * i = 1 := by omega
   rw [e1, e2]
   exact ⟨rfl, rfl⟩theorem bruijn_data : (Rows.laid_math_bits_deBruijn64tab : DataW Unit) = Lib.tabData .u8 (Lib.deBruijn64tab.map fun c : Nat => (c : Int)) := by kernel_rfl
theorem tab_cells {w : World} {name : String} {k : IntKind} {zs : List Int} {g : Nat} {t e : TypeId} {n : Nat} (hn : Tryz.prog.globalNamed name = some g) (hy : (Tryz.prog.globals[g]?).map (·.type) = some t)
  (ht : Tryz.prog.underlying t = some (.array n e)) (he : Tryz.prog.underlying e = some (.int k)) (hce : Tryz.prog.cellsOf e = 1) (hct : Tryz.prog.cellsOf t = n) (h : Lib.VarReads Tryz.prog w name (Lib.tabData k zs)) :
  ∀ (j : Nat) (z : Int), zs[j]? = some z → w.cell? ⟨g, j, none⟩ = some (.int k z) := fun j z hz => by
 obtain ⟨g', t', cs, fuel, p, h1, h2, h3, h4⟩ := h
 obtain rfl := Option.some.inj (hn.symm.trans h1)
 obtain rfl := Option.some.inj (hy.symm.trans h2)
 have hcs := Lib.cells_of_tab ht he hce hct h4
 have := World.var?_cell hn h3 j
 rw [this, ← Array.getElem?_toList, hcs]
 simp [hz]
theorem gok [MX] {W : World} (hm : W.cell? ⟨2, 0, none⟩ = some (.int .i64 MX.m)) (h0 : Lib.VarReads Tryz.prog W "math/bits.deBruijn64tab" Rows.laid_math_bits_deBruijn64tab)
  (h2 : Lib.VarReads Tryz.prog W "unicode/utf8.first" Rows.laid_unicode_utf8_first)
  (h3 : Lib.VarReads Tryz.prog W "unicode/utf8.acceptRanges" Rows.laid_unicode_utf8_acceptRanges) : GOK W := by
 rw [first_data] at h2
 rw [accept_data] at h3
 rw [bruijn_data] at h0
 have c1 := tab_cells (g := 1) (t := 144) (e := 5) (n := 64) (by kernel_rfl) (by kernel_rfl) (by kernel_rfl) (by kernel_rfl) (by kernel_rfl) (by kernel_rfl) h0
 have hU : Lib.Utf8Tabs (Tryz.lays230_ren.g 3) (Tryz.lays230_ren.g 4) W :=
  utf8Tabs_of_reads (ρ := Tryz.lays230_ren) { Tryz.lays230 with } ⟨by kernel_rfl, by kernel_rfl, by kernel_rfl, by kernel_rfl, by kernel_rfl, by kernel_rfl, by kernel_rfl⟩ h2 h3
 rw [g3, g4] at hU
 intro n cs hn
 have hc : n = 1 ∨ n = 2 ∨ n = 4 ∨ n = 5 := by
  have : GTab.tab n = gtab.1 n := rfl
  rw [this] at hn
  unfold gtab at hn
  simp only at hn
  split at hn
  ·exact .inl rfl
  ·exact .inr (.inl rfl)
  ·exact .inr (.inr (.inl rfl))
  ·exact .inr (.inr (.inr rfl))
  ·cases hn
 rcases hc with rfl | rfl | rfl | rfl
 ·rw [tab1] at hn
  cases hn
  refine ros_of fun j v hj => ?_
  simp only [List.getElem?_map, Option.map_eq_some_iff] at hj
  obtain ⟨k, hk2, rfl⟩ := hj
  exact ⟨_, c1 j k (by simp [hk2]), .v _ rfl⟩
 ·rw [tab2] at hn
  cases hn
  refine ros_of fun j v hj => ?_
  cases j with
  | zero =>
   cases hj
   exact ⟨_, hm, .v _ rfl⟩
  | succ j => simp at hj
 ·rw [tab4] at hn
  cases hn
  refine ros_of fun j v hj => ?_
  simp only [List.getElem?_map, Option.map_eq_some_iff] at hj
  obtain ⟨k, hk2, rfl⟩ := hj
  have hlt : j < 256 := by
   have := (List.getElem?_eq_some_iff.1 hk2).1
   simpa using this
  rw [List.getElem?_range hlt] at hk2
  cases hk2
  exact ⟨_, hU.1 j hlt, .v _ rfl⟩
 ·rw [tab5] at hn
  cases hn
  refine ros_of fun j v hj => ?_
  have hjl : j < 32 := by
   rcases Nat.lt_or_ge j 32 with h | h
   ·exact h
   ·exfalso
    have hl : ((List.range 16).flatMap fun i => [V.v (.int .u8 (Go.Lib.accLo i)), V.v (.int .u8 (Go.Lib.accHi i))]).length = 32 := rfl
    rw [List.getElem?_eq_none (by rw [hl]; exact h)] at hj
    cases hj
  obtain ⟨i, hi, hj2⟩ : ∃ i, i < 16 ∧ (j = 2 * i ∨ j = 2 * i + 1) := ⟨j / 2, by omega, by omega⟩
  obtain ⟨p1, p2⟩ := pairs_get (f := fun i => V.v (.int .u8 (Go.Lib.accLo i))) (g := fun i => V.v (.int .u8 (Go.Lib.accHi i))) 16 i hi
  rcases hj2 with rfl | rfl
  ·rw [p1] at hj
   cases hj
   exact ⟨_, (hU.2 i hi).1, .v _ rfl⟩
  ·rw [p2] at hj
   cases hj
   exact ⟨_, (hU.2 i hi).2, .v _ rfl⟩
noncomputable def laidWorld (os : Os) : World :=
 let w0 := World.holding Tryz.prog os ⟨#[], #[], []⟩
 let put (h : Array Obj) (g : Nat) (cs : Array Value) : Array Obj := h.modify g fun
  | .cells _ t frozen => .cells cs t frozen
  | o => o
 let h1 := put w0.heap 4 (Lib.firstTab.map fun z => Value.int .u8 z).toArray
 let h2 := put h1 5 ((List.range 16).flatMap fun i => [Value.int .u8 (Lib.accLo i), Value.int .u8 (Lib.accHi i)]).toArray
 let h3 := put h2 1 (Lib.deBruijn64tab.map fun z : Nat => Value.int .u8 (z : Int)).toArray
 { w0 with heap := h3 }
theorem laid3 (os : Os) (args : Array Value) : LaidIn Tryz.prog ((laidWorld os).forCall (fun _ _ => 0) ⟨#[], args, []⟩).memory [("math/bits.deBruijn64tab", Rows.laid_math_bits_deBruijn64tab), ("unicode/utf8.acceptRanges", Rows.laid_unicode_utf8_acceptRanges), ("unicode/utf8.first", Rows.laid_unicode_utf8_first)] [1, 5, 4] :=
 LaidIn.of_run [1, 5, 4] 8 (by kernel_rfl) (by kernel_rfl) (by kernel_rfl) (by kernel_rfl)
theorem ty_int {t : TypeId} {k : IntKind} {p : List V} (ht : Tryz.prog.underlying t = some (.int k)) (h : Ty Tryz.prog t p) : ∃ n, p = [.v (.int k n)] ∧ (Lit.int k n).wf = true := by
 cases h with
 | int k' n hu hw => rw [ht] at hu; cases hu; exact ⟨n, rfl, hw⟩
 | bool b hu => rw [ht] at hu; cases hu
 | string s hu => rw [ht] at hu; cases hu
 | slice rows hu _ => rw [ht] at hu; cases hu
 | struct fs cells hu _ => rw [ht] at hu; cases hu
theorem ty_bool {t : TypeId} {p : List V} (ht : Tryz.prog.underlying t = some .bool) (h : Ty Tryz.prog t p) : ∃ b, p = [.v (.bool b)] := by
 cases h with
 | int k' n hu hw => rw [ht] at hu; cases hu
 | bool b hu => exact ⟨b, rfl⟩
 | string s hu => rw [ht] at hu; cases hu
 | slice rows hu _ => rw [ht] at hu; cases hu
 | struct fs cells hu _ => rw [ht] at hu; cases hu
theorem ty_str {t : TypeId} {p : List V} (ht : Tryz.prog.underlying t = some .string) (h : Ty Tryz.prog t p) : ∃ s, p = [.v (.string s)] := by
 cases h with
 | int k' n hu hw => rw [ht] at hu; cases hu
 | bool b hu => rw [ht] at hu; cases hu
 | string s hu => exact ⟨s, rfl⟩
 | slice rows hu _ => rw [ht] at hu; cases hu
 | struct fs cells hu _ => rw [ht] at hu; cases hu
theorem ty_fields {t : TypeId} {fs : Array Field} {p : List V} (ht : Tryz.prog.underlying t = some (.struct fs)) (h : Ty Tryz.prog t p) : TyFs Tryz.prog fs.toList p := by
 cases h with
 | int k' n hu hw => rw [ht] at hu; cases hu
 | bool b hu => rw [ht] at hu; cases hu
 | string s hu => rw [ht] at hu; cases hu
 | slice rows hu _ => rw [ht] at hu; cases hu
 | struct fs' cells hu hf => rw [ht] at hu; cases hu; exact hf
theorem fs_cons {f : Field} {fs : List Field} {p : List V} (h : TyFs Tryz.prog (f :: fs) p) : ∃ a b, p = a ++ b ∧ Ty Tryz.prog f.type a ∧ TyFs Tryz.prog fs b := by
 cases h with
 | cons h1 h2 => exact ⟨_, _, rfl, h1, h2⟩
theorem fs_nil {p : List V} (h : TyFs Tryz.prog [] p) : p = [] := by
 cases h; rfl
theorem wf_i64 {n : Int} (h : (Lit.int .i64 n).wf = true) : -9223372036854775808 ≤ n ∧ n ≤ 9223372036854775807 := by
 simp [Lit.wf, IntKind.min, IntKind.max, IntKind.signed, IntKind.bits] at h
 omega
theorem any_bs (s : ByteArray) : ∃ l : List Int, Utf.By l ∧ s = bs l ∧ l.length = s.size := by
 refine ⟨s.data.toList.map fun c => (c.toNat : Int), ?_, ?_, ?_⟩
 ·intro c hc
  obtain ⟨x, _, rfl⟩ := List.mem_map.1 hc
  have := x.toNat_lt
  omega
 ·apply ByteArray.ext
  unfold bs u8s
  simp only [List.map_map]
  apply Array.toList_inj.1
  conv => lhs; rw [← List.map_id s.data.toList]
  apply List.map_congr_left
  intro c _
  simp
 ·rw [List.length_map, Array.length_toList]; rfl
theorem tyTk {p : List V} (hc : Ty Tryz.prog 34 p) : ∃ t : Tk4, p = row t ∧ Utf.By t.b ∧ (-9223372036854775808 ≤ t.n ∧ t.n ≤ 9223372036854775807) ∧ (-9223372036854775808 ≤ t.d ∧ t.d ≤ 9223372036854775807) ∧ vsRow p = t.b.length + 6 := by
 have h1 := ty_fields Tryz.underlying34 hc
 obtain ⟨p1, q1, rfl, t1, h1⟩ := fs_cons h1
 obtain ⟨p2, q2, rfl, t2, h1⟩ := fs_cons h1
 obtain ⟨p3, q3, rfl, t3, h1⟩ := fs_cons h1
 obtain ⟨p4, q4, rfl, t4, h1⟩ := fs_cons h1
 obtain ⟨p5, q5, rfl, t5, h1⟩ := fs_cons h1
 obtain rfl := fs_nil h1
 obtain ⟨k, rfl, _⟩ := ty_int Tryz.underlying3 t1
 obtain ⟨s, rfl⟩ := ty_str Tryz.underlying9 t2
 have h2 := ty_fields Tryz.underlying32 t3
 obtain ⟨p6, q6, rfl, t6, h2⟩ := fs_cons h2
 obtain ⟨p7, q7, rfl, t7, h2⟩ := fs_cons h2
 obtain rfl := fs_nil h2
 obtain ⟨n, rfl, hn⟩ := ty_int Tryz.underlying2 t6
 obtain ⟨d, rfl, hd⟩ := ty_int Tryz.underlying2 t7
 obtain ⟨w, rfl⟩ := ty_bool Tryz.underlying4 t4
 obtain ⟨i, rfl⟩ := ty_bool Tryz.underlying4 t5
 obtain ⟨b, hb, rfl, hl⟩ := any_bs s
 refine ⟨⟨k, b, n, d, w, i⟩, rfl, hb, wf_i64 hn, wf_i64 hd, ?_⟩
 simp [vsRow, vsize]
 omega
theorem ty34 {v : V} (h : TyV Tryz.prog 34 v) : ∃ t : Tk4, v = .agg (row t) ∧ Utf.By t.b ∧ (-9223372036854775808 ≤ t.n ∧ t.n ≤ 9223372036854775807) ∧ (-9223372036854775808 ≤ t.d ∧ t.d ≤ 9223372036854775807) ∧ asize v = t.b.length + 6 := by
 unfold TyV at h
 rw [Tryz.underlying34] at h
 obtain ⟨cs, rfl, hc⟩ := h
 obtain ⟨t, rfl, a, b, c, d⟩ := tyTk hc
 exact ⟨t, rfl, a, b, c, d⟩
theorem ty24 {v : V} {n : Nat} (h : TyV Tryz.prog 24 v) (hs : asize v ≤ n) (hn : n ≤ 1048576) : ∃ l : List Tk4, v = .list .no (l.map row) ∧ l.length ≤ n ∧ (∀ t ∈ l, TokOk t) ∧ cost l ≤ 304 * n := by
 unfold TyV at h
 rw [Tryz.underlying24] at h
 simp only at h
 cases h with
 | slice rows hu hr =>
  rw [Tryz.underlying24] at hu
  cases hu
  have each : ∀ rows : List (List V), (∀ row ∈ rows, Ty Tryz.prog 34 row) → ∃ l : List Tk4, rows = l.map row ∧ (∀ t ∈ l, Utf.By t.b ∧ (-9223372036854775808 ≤ t.n ∧ t.n ≤ 9223372036854775807) ∧ (-9223372036854775808 ≤ t.d ∧ t.d ≤ 9223372036854775807) ∧ t.b.length ≤ vsRows rows) ∧ l.length ≤ vsRows rows ∧ cost l ≤ 304 * vsRows rows := by
   intro rows
   induction rows with
   | nil =>
    intro _
    refine ⟨[], rfl, ?_, Nat.zero_le _, Nat.zero_le _⟩
    intro t ht
    cases ht
   | cons r rs ih =>
    intro h
    obtain ⟨l, rfl, hl, h1, h2⟩ := ih fun row hm => h row (List.mem_cons_of_mem _ hm)
    obtain ⟨t, rfl, a, b, c, e⟩ := tyTk (h r (List.mem_cons_self ..))
    refine ⟨t :: l, rfl, fun x hx => ?_, ?_, ?_⟩
    ·rcases List.mem_cons.mp hx with rfl | hx
     ·refine ⟨a, b, c, ?_⟩
      simp only [vsRows]
      omega
     ·obtain ⟨u1, u2, u3, u4⟩ := hl x hx
      refine ⟨u1, u2, u3, ?_⟩
      simp only [vsRows]
      omega
    ·simp only [vsRows, List.length_cons]
     omega
    ·simp only [vsRows, cost]
     omega
  obtain ⟨l, rfl, hl, h1, h2⟩ := each rows hr
  have hsz : vsRows (l.map row) ≤ n := by
   simp only [asize, vsize] at hs
   omega
  refine ⟨l, rfl, by omega, fun t ht => ?_, by omega⟩
  obtain ⟨u1, u2, u3, u4⟩ := hl t ht
  exact ⟨u1, by omega, u2.1, u2.2, u3.1, u3.2⟩
 | struct fs cells hu _ => rw [Tryz.underlying24] at hu; cases hu
 | bool b hu => rw [Tryz.underlying24] at hu; cases hu
 | int k n hu _ => rw [Tryz.underlying24] at hu; cases hu
 | string s hu => rw [Tryz.underlying24] at hu; cases hu
theorem ty9 {v : V} {n : Nat} (h : TyV Tryz.prog 9 v) (hs : asize v ≤ n) : ∃ b : List Int, v = .v (.string (bs b)) ∧ Utf.By b ∧ b.length ≤ n := by
 unfold TyV at h
 rw [Tryz.underlying9] at h
 simp only at h
 obtain ⟨s, hp⟩ := ty_str Tryz.underlying9 h
 obtain rfl : v = .v (.string s) := by simpa using hp
 obtain ⟨b, hb, rfl, hl⟩ := any_bs s
 refine ⟨b, rfl, hb, ?_⟩
 simp [asize, vsize] at hs
 omega
end Go.Proofs.YtnfdhgadidacaaaGreatDoor
