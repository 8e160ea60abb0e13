/- What is taken from the shelf; what the package variables hold. -/
import Derived.Test.YtnfdhgadidacaaaDoorProg
import Derived.Shelf.Strings.MapAny
import Derived.WalkKit
import Derived.Lib.LaidU8
import Derived.Lib.LaidIn
import Derived.Deep.DeepHandedRow
import Derived.Deep.DeepWitnessRowRef
import Derived.Test.YtnfdhgadidacaaaDoorRb
import Derived.Test.YtnfdhgadidacaaaDoorRh
section
/-
  DERIVED: THE SHELF's CONTRACTS AT THIS DUMP, IN PLAIN WORDS (tools/lay-plain.mjs out of 'D3LayH.lean', which tools/lay-shelf.mjs wrote): THE SAME DECLARATIONS UNDER THE SAME NAMES: 'import', 'namespace', 'open', 'def', 'theorem' AND NOTHING ELSE: no command of the shelf's: FOR A HAND-IN. Each laying: the table of numbers ('.._ren') and one theorem, a field a fact of the dump's own or the kernel's comparison; each contract: ONE APPLICATION.
-/
namespace Go.Proofs
open Go.Shelf
def Tryd.lays230_ren : Go.Shelf.Ren := ⟨fun | 230 => 73 | 197 => 101 | 118 => 102 | 165 => 82 | 166 => 83 | 168 => 103 | 270 => 104 | 167 => 105 | 169 => 85 | 260 => 124 | 240 => 114 | 241 => 115 | 242 => 125 | 276 => 128 | 277 => 129 | 278 => 133 | n => n, fun | 107 => 83 | 9 => 9 | 72 => 94 | 0 => 0 | 4 => 4 | 3 => 3 | 21 => 21 | 105 => 70 | 76 => 98 | 5 => 5 | 75 => 97 | 70 => 92 | 20 => 20 | 37 => 31 | 127 => 130 | 119 => 145 | 46 => 69 | 139 => 148 | 138 => 147 | 164 => 140 | 51 => 125 | 80 => 58 | n => n, fun | 3 => 3 | 4 => 4 | n => n⟩
theorem Tryd.lays230 : Go.Proofs.Lays.n230 Tryd.prog Tryd.lays230_ren := {
  mixed := by kernel_rfl
  f118 := Tryd.func102.trans (congrArg some (by kernel_rfl))
  f165 := Tryd.func82.trans (congrArg some (by kernel_rfl))
  f166 := Tryd.func83.trans (congrArg some (by kernel_rfl))
  f167 := Tryd.func105.trans (congrArg some (by kernel_rfl))
  f168 := Tryd.func103.trans (congrArg some (by kernel_rfl))
  f169 := Tryd.func85.trans (congrArg some (by kernel_rfl))
  f197 := Tryd.func101.trans (congrArg some (by kernel_rfl))
  f230 := Tryd.func73.trans (congrArg some (by kernel_rfl))
  f240 := Tryd.func114.trans (congrArg some (by kernel_rfl))
  f241 := Tryd.func115.trans (congrArg some (by kernel_rfl))
  f242 := Tryd.func125.trans (congrArg some (by kernel_rfl))
  f260 := Tryd.func124.trans (congrArg some (by kernel_rfl))
  f270 := Tryd.func104.trans (congrArg some (by kernel_rfl))
  f276 := Tryd.func128.trans (congrArg some (by kernel_rfl))
  f277 := Tryd.func129.trans (congrArg some (by kernel_rfl))
  f278 := Tryd.func133.trans (congrArg some (by kernel_rfl))
  t0 := Tryd.underlying0
  a0 := Tryd.isAgg0
  z0 := Tryd.sizeOf0
  v0 := Tryd.zeroValue0
  t3 := Tryd.underlying3
  a3 := Tryd.isAgg3
  z3 := Tryd.sizeOf3
  v3 := Tryd.zeroValue3
  t4 := Tryd.underlying4
  a4 := Tryd.isAgg4
  z4 := Tryd.sizeOf4
  v4 := Tryd.zeroValue4
  t5 := Tryd.underlying5
  a5 := Tryd.isAgg5
  z5 := Tryd.sizeOf5
  v5 := Tryd.zeroValue5
  t9 := Tryd.underlying9
  a9 := Tryd.isAgg9
  z9 := Tryd.sizeOf9
  v9 := Tryd.zeroValue9
  t20 := Tryd.underlying20
  a20 := Tryd.isAgg20
  z20 := Tryd.sizeOf20
  v20 := Tryd.zeroValue20
  t21 := Tryd.underlying21
  a21 := Tryd.isAgg21
  z21 := Tryd.sizeOf21
  v21 := Tryd.zeroValue21
  t37 := Tryd.underlying31
  a37 := Tryd.isAgg31
  z37 := Tryd.sizeOf31
  v37 := Tryd.zeroValue31
  t46 := Tryd.underlying69
  a46 := Tryd.isAgg69
  z46 := Tryd.sizeOf69
  v46 := Tryd.zeroValue69
  t51 := Tryd.underlying125
  a51 := Tryd.isAgg125
  z51 := Tryd.sizeOf125
  v51 := Tryd.zeroValue125
  t70 := Tryd.underlying92
  a70 := Tryd.isAgg92
  z70 := Tryd.sizeOf92
  v70 := Tryd.zeroValue92
  t72 := Tryd.underlying94
  a72 := Tryd.isAgg94
  z72 := Tryd.sizeOf94
  v72 := Tryd.zeroValue94
  t75 := Tryd.underlying97
  a75 := Tryd.isAgg97
  z75 := Tryd.sizeOf97
  v75 := Tryd.zeroValue97
  t76 := Tryd.underlying98
  a76 := Tryd.isAgg98
  z76 := Tryd.sizeOf98
  v76 := Tryd.zeroValue98
  t105 := Tryd.underlying70
  a105 := Tryd.isAgg70
  z105 := Tryd.sizeOf70
  v105 := Tryd.zeroValue70
  t107 := Tryd.underlying83
  a107 := Tryd.isAgg83
  z107 := Tryd.sizeOf83
  v107 := Tryd.zeroValue83
  t119 := Tryd.underlying145
  a119 := Tryd.isAgg145
  z119 := Tryd.sizeOf145
  t127 := Tryd.underlying130
  a127 := Tryd.isAgg130
  z127 := Tryd.sizeOf130
  v127 := Tryd.zeroValue130
  t138 := Tryd.underlying147
  a138 := Tryd.isAgg147
  z138 := Tryd.sizeOf147
  v138 := Tryd.zeroValue147
  t139 := Tryd.underlying148
  a139 := Tryd.isAgg148
  z139 := Tryd.sizeOf148
  v139 := Tryd.zeroValue148
  t164 := Tryd.underlying140
  a164 := Tryd.isAgg140
  z164 := Tryd.sizeOf140
  v164 := Tryd.zeroValue140
  g3 := by kernel_rfl
  g4 := by kernel_rfl }
end Go.Proofs
end

section
/- strings.Map by its contract on the shelf: what a call's evaluation says of the machine's call. -/
namespace Go.Lift.D3
open Go.Proofs Go.RowKit
set_option maxRecDepth 20000
set_option linter.unusedSimpArgs false
set_option linter.unusedVariables false

/-- at most new blocks: all that was said stays -/
theorem quiet_ok {m : List Nat} {c : Cl} {w w' : World} {h : Heap} {lo : Nat} (hH : HOK m c w h) (hb : Below w.heap.size w w') :
    HOK m c w' h ∧ Fr lo (hoOf m w h lo) w m c w' m c ∧ Owned lo (hoOf m w h lo) w m w' [] h act0 := by
  obtain ⟨hC, hold⟩ := hH
  have hcell : ∀ b o, b < w.heap.size → w'.cell? ⟨b, o, none⟩ = w.cell? ⟨b, o, none⟩ := fun b o hl => cell_of_heap (hb.block b hl) o
  have hce : ∀ b, 0 < c b → b < w.heap.size := fun b h0 => by
    rcases Nat.lt_or_ge b w.heap.size with hl | hl
    · exact hl
    · rw [hC.c_zero hl] at h0; omega
  have he : Ext c w c w' := ⟨fun _ => Nat.le_refl _, fun b o ho => hcell b o (hce b (by omega))⟩
  have hm : ∀ {i b}, m[i]? = some b → w'.heap[b]? = w.heap[b]? ∧ c b = c b := fun {i b} hi => ⟨hb.block b (hC.m_lt hi), rfl⟩
  have hAt : ∀ {l r x}, At m w' [] h act0 l r x → At m w [] h act0 l r x := fun {l r x} hl => by
    cases l with
    | slot t => exact hl
    | cell i j =>
      obtain ⟨cs, b, h1, h2, h3, h4⟩ := hl
      exact ⟨cs, b, h1, h2, h3, by rw [← cell_of_heap (hm h3).1]; exact h4⟩
  have hAt' : ∀ {l r x}, At m w [] h act0 l r x → At m w' [] h act0 l r x := fun {l r x} hl => by
    cases l with
    | slot t => exact hl
    | cell i j =>
      obtain ⟨cs, b, h1, h2, h3, h4⟩ := hl
      exact ⟨cs, b, h1, h2, h3, by rw [cell_of_heap (hm h3).1]; exact h4⟩
  refine ⟨⟨⟨fun b h0 => ?_, hC.wf2, hC.nd, hC.len, fun t => (hC.env t).mono (Pre.refl m) he, fun i o b ho hbm => (hC.ob i o b ho hbm).keep (hm hbm).1 (Pre.refl m) he, fun l r x hl => ?_,
      fun l l' r r' x x' b h1 h2 => hC.uniq l l' r r' x x' b (hAt h1) (hAt h2), hC.tagS, fun t i j r ht => hAt' (hC.tagC t i j r ht), fun n cs hg => (hC.gt n cs hg).mono he⟩, hold⟩,
    ⟨hb.os, hb.tape, hb.output, hb.size, Pre.refl m, fun i b hi hbm => ?_, he, fun b hl _ _ => ⟨hb.block b hl, rfl⟩⟩, fun l r x b hl hu hbx => ?_⟩
  · rw [hb.block b (hce b h0)]
    exact hC.wf1 b h0
  · refine (hC.own l r x (hAt hl)).keep fun b hbx => ?_
    exact ⟨hb.block b ((hC.own l r x (hAt hl)).lt hbx).1, rfl, id⟩
  · have := (List.getElem?_eq_some_iff.1 hbm).1
    omega
  · right
    cases l with
    | slot t => exact absurd hl.1 (by simp [look])
    | cell i j => exact ⟨i, j, r, x, hu, hAt hl, hbx⟩

theorem extra : Builder.Extra Tryd.prog Tryd.lays230_ren where
  sizeBuilder := by kernel_rfl
  liesBuilder := by kernel_rfl
  t5 := by kernel_rfl
  a5 := Tryd.lays230.a5
  z5 := Tryd.lays230.z5
  v5 := Tryd.lays230.v5
  infoByte := by kernel_rfl
  cellsByte := by kernel_rfl
  sizeByte := by kernel_rfl
  neB5 := by decide

/-- what is made of a character -/
theorem walk74 (x : Int) (w : World) : Calls Tryd.prog 74 #[.int .i32 x] w fun e w' => e = .returned (.int .i32 (lowU x)) ∧ ∃ q, w' = w.drewN q := by
  by_cases h1 : 65 ≤ x
  · by_cases h2 : x ≤ 90
    · have e1 : IntKind.i32.wrap (x + 97) = x + 97 := wrap_i32 (by omega) (by omega)
      have e2 : IntKind.i32.wrap (x + 97 - 65) = x + 32 := by rw [wrap_i32 (by omega) (by omega)]; omega
      have e3 : lowU x = x + 32 := by unfold lowU; rw [if_pos (by simp [h1, h2])]
      rw [e3]
      go_enter Tryd.func74, Tryd.ntmps74
      go_wp2
      all_goals go_ret
      exact ⟨rfl, 0, rfl⟩
    · have e3 : lowU x = x := by unfold lowU; rw [if_neg (by simp [h2])]
      rw [e3]
      go_enter Tryd.func74, Tryd.ntmps74
      go_wp2
      all_goals go_ret
      exact ⟨rfl, 0, rfl⟩
  · have e3 : lowU x = x := by unfold lowU; rw [if_neg (by simp [h1])]
    rw [e3]
    go_enter Tryd.func74, Tryd.ntmps74
    go_wp2
    all_goals go_ret
    exact ⟨rfl, 0, rfl⟩
theorem g3 : Tryd.lays230_ren.g 3 = 3 := rfl
theorem g4 : Tryd.lays230_ren.g 4 = 4 := rfl
theorem tab4 : GTab.tab 3 = some ((List.range 256).map fun c => V.v (.int .u8 (Go.Lib.firstT c))) := rfl
theorem tab5 : GTab.tab 4 = some ((List.range 16).flatMap fun i => [V.v (.int .u8 (Go.Lib.accLo i)), V.v (.int .u8 (Go.Lib.accHi i))]) := rfl
theorem pairs_get {f g : Nat → V} : ∀ (n i : Nat), i < n → ((List.range n).flatMap fun i => [f i, g i])[2 * i]? = some (f i) ∧ ((List.range n).flatMap fun i => [f i, g i])[2 * i + 1]? = some (g i) := by
  intro n
  have hlen : ∀ n, ((List.range n).flatMap fun i => [f i, g i]).length = 2 * n := by
    intro n
    induction n with
    | zero => rfl
    | succ n ih => rw [List.range_succ, List.flatMap_append, List.length_append, ih]; simp; omega
  induction n with
  | zero => intro i hi; omega
  | succ n ih =>
    intro i hi
    rw [List.range_succ, List.flatMap_append]
    by_cases h : i < n
    · obtain ⟨a, b⟩ := ih i h
      rw [List.getElem?_append_left (by rw [hlen]; omega), List.getElem?_append_left (by rw [hlen]; omega)]
      exact ⟨a, b⟩
    · obtain rfl : i = n := by omega
      rw [List.getElem?_append_right (by rw [hlen]; omega), List.getElem?_append_right (by rw [hlen]; omega), hlen]
      have e1 : 2 * i - 2 * i = 0 := by omega
      have e2 : 2 * i + 1 - 2 * i = 1 := by omega
      rw [e1, e2]
      exact ⟨rfl, rfl⟩
/-- the tables of unicode/utf8, wherever the package variables hold what is said -/
theorem tabs_of {c : Cl} {w : World} (hg : ∀ n cs, GTab.tab n = some cs → ROs c w ⟨n, 0, none⟩ cs) : Go.Lib.Utf8Tabs 3 4 w := by
  refine ⟨fun k hk => ?_, fun i hi => ?_⟩
  · obtain ⟨_, h⟩ := hg 3 _ tab4
    obtain ⟨x, hx, hv⟩ := h k (.v (.int .u8 (Go.Lib.firstT k))) (by simp [hk])
    rw [Nat.zero_add] at hx
    rw [hx, VP.v_eq hv]
  · obtain ⟨_, h⟩ := hg 4 _ tab5
    obtain ⟨p1, p2⟩ := pairs_get (f := fun i => V.v (.int .u8 (Go.Lib.accLo i))) (g := fun i => V.v (.int .u8 (Go.Lib.accHi i))) 16 i hi
    obtain ⟨x, hx, hv⟩ := h _ _ p1
    obtain ⟨y, hy, hu⟩ := h _ _ p2
    rw [Nat.zero_add] at hx hy
    rw [hx, hy, VP.v_eq hv, VP.v_eq hu]
    exact ⟨rfl, rfl⟩

/-- WHAT IS TAKEN FROM THE SHELF SAYS THE TRUTH -/
theorem prim_ok : ∀ f p, primz f = some p → ∀ lo args h r h', lo ≤ h.length → p lo args h = some (r, h') → CallOK Tryd.prog lo f args h r h' := by
  intro f p hp lo args h r h' hlo he
  have hf : f = 73 := by
    unfold primz at hp
    split at hp
    · rfl
    · cases hp
  subst hf
  have hpm : p = mapP := by
    have : primz 73 = some mapP := rfl
    rw [this] at hp
    cases hp; rfl
  subst hpm
  unfold mapP at he
  split at he
  · rename_i g s
    split at he
    · rename_i hc
      obtain ⟨rfl, hs⟩ := hc
      simp only [Option.some.injEq, Prod.mk.injEq] at he
      obtain ⟨rfl, rfl⟩ := he
      refine ⟨rfl, enters_of Tryd.func73 (by kernel_rfl) rfl, fun m c w xs hH hargs => ⟨⟨rfl, rfl⟩, ?_⟩⟩
      obtain ⟨hlen, hall⟩ := hargs
      have hx2 : ∃ x y, xs = #[x, y] := by
        obtain ⟨l⟩ := xs
        match l, hlen with
        | [x, y], _ => exact ⟨x, y, rfl⟩
      obtain ⟨x, y, rfl⟩ := hx2
      have h0 := hall 0 _ _ rfl rfl
      have h1 := hall 1 _ _ rfl rfl
      obtain ⟨cs, rfl, hcs⟩ := h0
      obtain rfl : y = .string s := h1
      have hcs0 : cs = #[] := by
        obtain ⟨l⟩ := cs
        match l, hcs.1 with
        | [], _ => rfl
      subst hcs0
      have hT : Go.Lib.Utf8Tabs (Tryd.lays230_ren.g 3) (Tryd.lays230_ren.g 4) w := by
        rw [g3, g4]
        exact tabs_of hH.1.gt
      have hM : MapAtRunes Tryd.prog 74 #[] lowU w := fun W k hk _ => walk74 k W
      have hcall := Any.strings_Map_runes Tryd.lays230 extra 74 #[] (enters_of Tryd.func74 (by kernel_rfl) rfl) lowU s w hs hM (fun k hk => by unfold lowU; split <;> omega) hT
      refine hcall.mono fun e w' ⟨he, hb⟩ => ?_
      obtain ⟨q1, q2, q3⟩ := quiet_ok (lo := lo) hH hb
      exact ⟨_, c, he, rfl, q1, q2, q3⟩
    · cases he
  · cases he
end Go.Lift.D3
end

section
/- What the claims of this seat share: the readings of their arguments. -/
namespace Go.Proofs.YtnfdhgadidacaaaDoor
set_option linter.unusedVariables false
set_option linter.unusedSimpArgs false
open Go.Lift Go.Lift.D3 Go.ChangeShapes Go.WideShapes Go.ChangeAt Go.RowKit
set_option maxRecDepth 100000

theorem isBulk (H : Type) : IsBulk (H := H) Rows.uptoBulk Rows.uptoBulkAll :=
  ⟨rfl, fun _ _ => rfl, fun _ => rfl, fun _ => rfl, fun _ _ => rfl, rfl, fun e s => by show Rows.uptoBulkAll e + 1 ≤ Rows.uptoBulkAll e + Rows.uptoBulkAll s + 1; omega, fun _ => rfl⟩
theorem own : ownKnob Tryd.prog.godebug = none := by kernel_rfl
theorem laidOut : laidOutB Tryd.prog = true := by kernel_rfl
theorem follows : Tryd.prog.follows .mixedOrders = true := by kernel_rfl

/-- a row of numbers -/
theorem tyRow {t e : TypeId} {k : IntKind} (ht : Tryd.prog.underlying t = some (.slice e)) (hk : Tryd.prog.underlying e = some (.int k)) {v : V} (h : TyV Tryd.prog t v) :
    ∃ l : List Int, v = .list .no (ri k l) ∧ ∀ c ∈ l, (Lit.int k c).wf = true := by
  unfold TyV at h
  rw [ht] at h
  simp only at h
  cases h with
  | slice rows hu hr =>
    rw [ht] at hu
    cases hu
    have each : ∀ rows : List (List V), (∀ row ∈ rows, Ty Tryd.prog e row) → ∃ l : List Int, rows = ri k l ∧ ∀ c ∈ l, (Lit.int k c).wf = true := by
      intro rows
      induction rows with
      | nil => intro _; exact ⟨[], rfl, fun _ hc => by cases hc⟩
      | cons r rs ih =>
        intro h
        obtain ⟨l, rfl, hl⟩ := ih fun row hm => h row (List.mem_cons_of_mem _ hm)
        have h0 := h r (List.mem_cons_self ..)
        cases h0 with
        | int k' n hk' hw =>
          rw [hk] at hk'
          cases hk'
          refine ⟨n :: l, rfl, fun c hc => ?_⟩
          rcases List.mem_cons.mp hc with rfl | hc
          · exact hw
          · exact hl c hc
        | bool b hk' => rw [hk] at hk'; cases hk'
        | string s hk' => rw [hk] at hk'; cases hk'
        | slice rows hk' _ => rw [hk] at hk'; cases hk'
        | struct fs cells hk' _ => rw [hk] at hk'; cases hk'
    obtain ⟨l, rfl, hl⟩ := each rows hr
    exact ⟨l, rfl, hl⟩
  | struct fs cells hu _ => rw [ht] at hu; cases hu
  | bool b hu => rw [ht] at hu; cases hu
  | int k n hu _ => rw [ht] at hu; cases hu
  | string s hu => rw [ht] at hu; cases hu

theorem ty22 {v : V} (h : TyV Tryd.prog 22 v) : ∃ l : List Int, v = .list .no (ri .i32 l) ∧ ∀ c ∈ l, -2147483648 ≤ c ∧ c ≤ 2147483647 := by
  obtain ⟨l, h1, h2⟩ := tyRow Tryd.underlying22 Tryd.underlying21 h
  refine ⟨l, h1, fun c hc => ?_⟩
  have := h2 c hc
  simp [Lit.wf, IntKind.min, IntKind.max, IntKind.signed, IntKind.bits] at this
  omega
theorem ty31 {v : V} (h : TyV Tryd.prog 31 v) : ∃ l : List Int, v = .list .no (ri .u8 l) ∧ ∀ c ∈ l, 0 ≤ c ∧ c ≤ 255 := by
  obtain ⟨l, h1, h2⟩ := tyRow Tryd.underlying31 Tryd.underlying5 h
  refine ⟨l, h1, fun c hc => ?_⟩
  have := h2 c hc
  simp [Lit.wf, IntKind.min, IntKind.max, IntKind.signed, IntKind.bits] at this
  omega

theorem rows_len (k : IntKind) (l : List Int) : l.length ≤ vsRows (ri k l) := by
  induction l with
  | nil => simp
  | cons n l ih => simp only [ri_cons, vsRows, vsRow, vsize, List.length_cons]; omega
theorem sizes1 {k : IntKind} {l : List Int} {vs : List V} {n : Nat} (h : asizes (.list .no (ri k l) :: vs) ≤ n) : l.length ≤ n ∧ asizes vs ≤ n := by
  have := rows_len k l
  simp only [asizes, asize, vsize] at h
  omega

/-! ### What the package variables hold -/
theorem ros_of {w : World} {g : Nat} {cs : List V} (h : ∀ (j : Nat) v, cs[j]? = some v → ∃ x, w.cell? ⟨g, j, none⟩ = some x ∧ VP (wholeCl w) w v x) : ROs (wholeCl w) w ⟨g, 0, none⟩ cs := by
  refine ⟨?_, fun j v hj => by simpa using h j v hj⟩
  cases cs with
  | nil => exact Nat.zero_le _
  | cons c t =>
    have hl : (c :: t)[t.length]? = some ((c :: t)[t.length]'(by simp)) := List.getElem?_eq_getElem (by simp)
    obtain ⟨x, hx, _⟩ := h t.length _ hl
    unfold World.cell? at hx
    unfold wholeCl
    simp only at hx ⊢
    split at hx
    · rename_i arr e f he
      rw [he]
      simp only [List.length_cons]
      have := (Array.getElem?_eq_some_iff.1 hx).1
      omega
    · cases hx
theorem first_data : Rows.laid_unicode_utf8_first = Lib.firstData := by kernel_rfl
theorem accept_data : (Rows.laid_unicode_utf8_acceptRanges : DataW Unit) = Lib.acceptData := by kernel_rfl
/-- from what a row lists to what the evaluation asks -/
theorem gok {W : World} (h2 : Lib.VarReads Tryd.prog W "unicode/utf8.first" Rows.laid_unicode_utf8_first)
    (h3 : Lib.VarReads Tryd.prog W "unicode/utf8.acceptRanges" Rows.laid_unicode_utf8_acceptRanges) : GOK W := by
  rw [first_data] at h2
  rw [accept_data] at h3
  have hU : Lib.Utf8Tabs (Tryd.lays230_ren.g 3) (Tryd.lays230_ren.g 4) W :=
    utf8Tabs_of_reads (ρ := Tryd.lays230_ren) { Tryd.lays230 with } ⟨by kernel_rfl, by kernel_rfl, by kernel_rfl, by kernel_rfl, by kernel_rfl, by kernel_rfl, by kernel_rfl⟩ h2 h3
  rw [g3, g4] at hU
  intro n cs hn
  have hc : n = 3 ∨ n = 4 := by
    have : GTab.tab n = gtab.1 n := rfl
    rw [this] at hn
    unfold gtab at hn
    simp only at hn
    split at hn
    · exact .inl rfl
    · exact .inr rfl
    · cases hn
  rcases hc with rfl | rfl
  · rw [tab4] at hn
    cases hn
    refine ros_of fun j v hj => ?_
    simp only [List.getElem?_map, Option.map_eq_some_iff] at hj
    obtain ⟨k, hk2, rfl⟩ := hj
    have hlt : j < 256 := by
      have := (List.getElem?_eq_some_iff.1 hk2).1
      simpa using this
    rw [List.getElem?_range hlt] at hk2
    cases hk2
    exact ⟨_, hU.1 j hlt, .v _ rfl⟩
  · rw [tab5] at hn
    cases hn
    refine ros_of fun j v hj => ?_
    have hjl : j < 32 := by
      rcases Nat.lt_or_ge j 32 with h | h
      · exact h
      · exfalso
        have hl : ((List.range 16).flatMap fun i => [V.v (.int .u8 (Go.Lib.accLo i)), V.v (.int .u8 (Go.Lib.accHi i))]).length = 32 := rfl
        rw [List.getElem?_eq_none (by rw [hl]; exact h)] at hj
        cases hj
    obtain ⟨i, hi, hj2⟩ : ∃ i, i < 16 ∧ (j = 2 * i ∨ j = 2 * i + 1) := ⟨j / 2, by omega, by omega⟩
    obtain ⟨p1, p2⟩ := pairs_get (f := fun i => V.v (.int .u8 (Go.Lib.accLo i))) (g := fun i => V.v (.int .u8 (Go.Lib.accHi i))) 16 i hi
    rcases hj2 with rfl | rfl
    · rw [p1] at hj
      cases hj
      exact ⟨_, (hU.2 i hi).1, .v _ rfl⟩
    · rw [p2] at hj
      cases hj
      exact ⟨_, (hU.2 i hi).2, .v _ rfl⟩

/-- a world for the witness: the variables hold what their initialisers lay -/
noncomputable def laidWorld (os : Os) : World :=
  let w0 := World.holding Tryd.prog os ⟨#[], #[], []⟩
  let put (h : Array Obj) (g : Nat) (cs : Array Value) : Array Obj := h.modify g fun
    | .cells _ t frozen => .cells cs t frozen
    | o => o
  let h1 := put w0.heap 3 (Lib.firstTab.map fun z => Value.int .u8 z).toArray
  let h2 := put h1 4 ((List.range 16).flatMap fun i => [Value.int .u8 (Lib.accLo i), Value.int .u8 (Lib.accHi i)]).toArray
  { w0 with heap := h2 }
theorem laid3 (os : Os) (args : Array Value) : LaidIn Tryd.prog ((laidWorld os).forCall (fun _ _ => 0) ⟨#[], args, []⟩).memory [("unicode/utf8.acceptRanges", Rows.laid_unicode_utf8_acceptRanges), ("unicode/utf8.first", Rows.laid_unicode_utf8_first)] [4, 3] :=
  LaidIn.of_run [4, 3] 8 (by kernel_rfl) (by kernel_rfl) (by kernel_rfl) (by kernel_rfl)
end Go.Proofs.YtnfdhgadidacaaaDoor
end
