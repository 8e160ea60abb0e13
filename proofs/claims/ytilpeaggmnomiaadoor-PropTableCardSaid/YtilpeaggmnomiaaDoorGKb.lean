/- PropTable: what is taken from the library's contracts, and the known answers. -/
import Derived.WalkKit
import Derived.Laws.Externs
import Derived.MapKept
import Derived.Deep.MidRow
import Derived.ProofKit
import Derived.Lib.LaidTab
import Derived.Lib.LaidU8
import Derived.Lib.LaidIn
import Derived.Deep.DeepHandedRow
import Derived.Deep.DeepWitnessRowRef
import Derived.Test.YtilpeaggmnomiaaDoorRows
import Derived.JoinedOf
import Derived.Test.YtilpeaggmnomiaaDoorGLc
import Derived.Test.YtilpeaggmnomiaaDoorGKa
import Derived.Test.YtilpeaggmnomiaaDoorK1Div0
import Derived.Test.YtilpeaggmnomiaaDoorK1Div1
import Derived.Test.YtilpeaggmnomiaaDoorK1Div2
import Derived.Test.YtilpeaggmnomiaaDoorK1Div3
set_option linter.unusedVariables false
set_option linter.unusedSimpArgs false
set_option linter.unusedSectionVars false
set_option maxRecDepth 100000
section
namespace Go.Lift.T1
open Go.Proofs Go.RowKit
def subE : Array Value → Sem Value := fun args => do
  let (x, y, b) ← Extern.MathBitsCarry.three "Sub64" args
  pure (Extern.MathBitsCarry.pair ((x + Extern.MathBitsCarry.m64 - y - b) % Extern.MathBitsCarry.m64) (if x < y + b then 1 else 0))
theorem run_sub0 (x y : Nat) (w : World) : (subE #[.int .u64 x, .int .u64 y, .int .u64 0]).run Tryd.prog w = .ok (.tuple #[.int .u64 (Int.ofNat ((x + 2 ^ 64 - y - 0) % 2 ^ 64)), .int .u64 (Int.ofNat (if x < y + 0 then 1 else 0))]) w := rfl
theorem sub_c (x y : Nat) (h : y ≤ x) (hx : x < 18446744073709551616) : (Int.ofNat ((x + 2 ^ 64 - y - 0) % 2 ^ 64)) = ((x - y : Nat) : Int) ∧ (Int.ofNat (if x < y + 0 then 1 else 0)) = 0 := by
 refine ⟨?_, ?_⟩
 ·show (((x + 2 ^ 64 - y - 0) % 2 ^ 64 : Nat) : Int) = _
  congr 1
  omega
 ·rw [if_neg (by omega)]; rfl
theorem walk89 (x y : Nat) (h : y ≤ x) (hx : x < 18446744073709551616) (w : World) :
  Calls Tryd.prog 89 #[.agg #[.int .u64 0, .int .u64 x], .agg #[.int .u64 0, .int .u64 y]] w fun e w' => e = .returned (.agg #[.int .u64 0, .int .u64 ((x - y : Nat) : Int)]) ∧ Below w.heap.size w w' := by
 have r1 := run_sub0 x y
 rw [(sub_c x y h hx).1, (sub_c x y h hx).2] at r1
 have r2 : ∀ w, (subE #[.int .u64 0, .int .u64 0, .int .u64 0]).run Tryd.prog w = .ok (.tuple #[.int .u64 0, .int .u64 0]) w := fun w => rfl
 go_enter Tryd.func89, Tryd.ntmps89
 go_wp2
 rw [run_callFunc_extern Tryd.func103 (by kernel_rfl) (by kernel_rfl) (by kernel_rfl) (e := subE) (by kernel_rfl), r1]
 simp only [Result.andThen]
 rw [Oper.upon_value]
 go_wp2
 rw [run_callFunc_extern Tryd.func103 (by kernel_rfl) (by kernel_rfl) (by kernel_rfl) (e := subE) (by kernel_rfl), r2]
 simp only [Result.andThen]
 rw [Oper.upon_value]
 go_wp2
 generalize hW : (((w.alloc (Obj.cells #[Value.int IntKind.u64 0, Value.int IntKind.u64 ↑x] 104)).alloc (Obj.cells #[Value.int IntKind.u64 0, Value.int IntKind.u64 ↑y] 104)).alloc (Obj.cells #[Value.int IntKind.u64 0, Value.int IntKind.u64 ↑(x - y)] 104)) = W
 have hb : Below w.heap.size w W := by
  subst hW
  refine ⟨rfl, rfl, rfl, ?_, fun k hk => ?_⟩
  ·show _ ≤ (((w.heap.push _).push _).push _).size
   simp; omega
  ·show (((w.heap.push _).push _).push _)[k]? = _
   rw [Array.getElem?_push_lt (by simp; omega), Array.getElem_push_lt (by simp; omega), Array.getElem_push_lt hk]
   exact (Array.getElem?_eq_getElem hk).symm
 have hh : W.heap[w.heap.size + 1 + 1]? = some (Obj.cells #[Value.int IntKind.u64 0, Value.int IntKind.u64 ↑(x - y)] 104) := by
  subst hW
  have e : ((w.alloc (Obj.cells #[Value.int IntKind.u64 0, Value.int IntKind.u64 ↑x] 104)).alloc (Obj.cells #[Value.int IntKind.u64 0, Value.int IntKind.u64 ↑y] 104)).heap.size = w.heap.size + 1 + 1 := by
   show ((w.heap.push _).push _).size = _
   simp
  rw [← e]
  exact (MapKept.heap_alloc _ _).1
 have hl := run_loadVar_mid (P := Tryd.prog) W (w.heap.size + 1 + 1) 0 104 [.int .u64 0, .int .u64 ((x - y : Nat) : Int)] _ (fun j v hj => by
  match j, hj with
  | 0, hj => cases hj; simp [World.cell?, hh]
  | 1, hj => cases hj; simp [World.cell?, hh]
  | j + 2, hj => simp at hj) Tryd.underlying104 rfl (by kernel_rfl)
 refine ⟨rfl, .agg #[.int .u64 0, .int .u64 ((x - y : Nat) : Int)], ?_, rfl, hb⟩
 rw [results_eq, show Tryd.f89.results = #[.cell 4 104] from rfl]
 simp [resF, asAddr, hl, Result.andThen]
theorem one_arg {m : List Nat} {c : Cl} {w : World} {a : Value} {xs : Array Value} (h : R2 (VRr m c w) [.v a] xs.toList) : xs = #[a] := by
 obtain ⟨l⟩ := xs
 match l, h.1 with
 | [x], _ =>
  have h0 : x = a := h.2 0 _ _ rfl rfl
  rw [h0]
theorem cell_of {c : Cl} {w : World} {n : Nat} {cs : List V} (hg : ROs c w ⟨n, 0, none⟩ cs) {j : Nat} {x : Value} (hj : cs[j]? = some (.v x)) : w.cell? ⟨n, j, none⟩ = some x := by
 obtain ⟨_, h⟩ := hg
 obtain ⟨y, hy, hv⟩ := h j _ hj
 rw [Nat.zero_add] at hy
 rw [hy, VP.v_eq hv]
theorem space {m : List Nat} {c : Cl} {w : World} {h : Heap} (hH : HOK m c w h) : ∀ j, j < 256 → w.cell? ⟨0, j, none⟩ = some (.int .u8 (if Go.Lib.isSp (UInt8.ofNat j) then 1 else 0)) := fun j hj => by
 have e : GTab.tab 0 = some ((List.range 256).map fun c => V.v (.int .u8 (if Go.Lib.isSp (UInt8.ofNat c) then 1 else 0))) := rfl
 exact cell_of (hH.1.gt 0 _ e) (by simp [hj])
theorem fields_ok {lo : Nat} {s : ByteArray} {h : Heap} (hlo : lo ≤ h.length) (hs : s.size < 4294967281) (ha : (s.data.toList.all fun b => decide (b.toNat < 128)) = true) :
  CallOK Tryd.prog lo 16 [.v (.string s)] h (.list .no ((Go.Lib.fields s.data.toList).map fun l => [.v (.string ⟨l.toArray⟩)])) h := by
 have k := prim_fresh (P := Tryd.prog) (f := 16) (args := [.v (.string s)]) (xs := (Go.Lib.fields s.data.toList).map fun l => Value.string ⟨l.toArray⟩) hlo (enters_of Tryd.func16 (by kernel_rfl) rfl)
  (fun x hx => by obtain ⟨l, _, rfl⟩ := List.mem_map.1 hx; rfl) fun m c w ys hH hy => by
  rw [one_arg hy]
  refine (Any.strings_Fields_core (P := Tryd.prog) (ρ := Tryd.lays157_ren) Tryd.lays157 (by kernel_rfl) s w hs (fun j b hb => by simpa using List.all_eq_true.1 ha b (List.mem_of_getElem? hb)) (space hH)).mono fun e w' ⟨h1, h2⟩ => ?_
  subst h2
  have ka := MapKept.heap_alloc w (.cells ((Go.Lib.fields s.data.toList).map fun l => Value.string ⟨l.toArray⟩).toArray (Tryd.lays157_ren.t 9))
  refine ⟨w.heap.size, _, _, _, _, by rw [List.length_map]; exact h1, Nat.le_refl _, by rw [List.length_map]; exact Nat.le_refl _, ka.1, fun i x hx => by simpa using hx, rfl, rfl, rfl, ?_, fun k hk => ka.2 k hk⟩
  show _ ≤ (w.heap.push _).size
  simp
 rw [List.map_map] at k
 exact k
theorem pair_of {m : List Nat} {c : Cl} {w : World} {a b : Value} {xs : Array Value} (h : R2 (VR1 m c w) [.v a, .v b] xs.toList) : xs = #[a, b] := by
 obtain ⟨l⟩ := xs
 match l, h.1 with
 | [x, y], _ =>
  have h0 : x = a := h.2 0 _ _ rfl rfl
  have h1 : y = b := h.2 1 _ _ rfl rfl
  rw [h0, h1]
theorem sub_ok {lo : Nat} {x y : Int} {h : Heap} (hlo : lo ≤ h.length) (h0 : 0 ≤ y) (h1 : y ≤ x) (h2 : x < 18446744073709551616) :
  CallOK Tryd.prog lo 89 [.agg [.v (.int .u64 0), .v (.int .u64 x)], .agg [.v (.int .u64 0), .v (.int .u64 y)]] h (.agg [.v (.int .u64 0), .v (.int .u64 (x - y))]) h :=
 CallOK0.ok ⟨rfl, enters_of Tryd.func89 (by kernel_rfl) rfl, fun m c w ys hH hy => ⟨⟨rfl, rfl, Keeps.refl _ _⟩, by
  have hys : ys = #[.agg #[.int .u64 0, .int .u64 x], .agg #[.int .u64 0, .int .u64 y]] := by
   obtain ⟨l⟩ := ys
   match l, hy.1 with
   | [p, q], _ =>
    have e1 : VRr m c w (.agg [.v (.int .u64 0), .v (.int .u64 x)]) p := hy.2 0 _ _ rfl rfl
    have e2 : VRr m c w (.agg [.v (.int .u64 0), .v (.int .u64 y)]) q := hy.2 1 _ _ rfl rfl
    obtain ⟨xs, rfl, r1⟩ := e1
    obtain ⟨zs, rfl, r2⟩ := e2
    rw [pair_of r1, pair_of r2]
  obtain ⟨a, rfl⟩ : ∃ a : Nat, x = a := ⟨x.toNat, by omega⟩
  obtain ⟨b, rfl⟩ : ∃ b : Nat, y = b := ⟨y.toNat, by omega⟩
  rw [hys]
  refine (walk89 a b (by omega) (by omega) w).mono fun e w' ⟨h1', hb⟩ => ?_
  have hI := start_ok (vars := []) (args := []) (xs := #[]) (nt := 0) (lo := lo) hH R2.nil (by rfl) (Nat.le_refl _) hlo
  have hI' := hI.grown (c' := c) (w' := w') none hb.size (fun k hk _ => ⟨hb.block k hk, rfl⟩) (fun k hk => by cases hk) (fun k hk _ h0 => by rw [hI.core.c_zero hk] at h0; omega) hb.os hb.tape hb.output
  refine ⟨_, c, h1', ⟨_, rfl, ?_⟩, hI'.hok, hI'.fr, hI'.owned⟩
  have e : ((a - b : Nat) : Int) = (a : Int) - b := by omega
  rw [e]
  exact R2.cons rfl (R2.cons rfl R2.nil)⟩⟩
theorem prim_ok0 : ∀ f p, primz f = some p → ∀ lo args h r h', lo ≤ h.length → p lo args h = some (r, h') → CallOK Tryd.prog lo f args h r h' := by
 intro f p hp lo args h r h' hlo he
 unfold primz at hp
 split at hp
 ·cases hp
  unfold fieldsP at he
  split at he
  ·split at he
   ·rename_i hc
    cases he
    exact fields_ok hlo hc.1 hc.2
   ·cases he
  ·cases he
 ·cases hp
  unfold subP at he
  split at he
  ·split at he
   ·rename_i hc
    obtain ⟨rfl, rfl, h0, h1, h2⟩ := hc
    cases he
    exact sub_ok hlo h0 h1 h2
   ·cases he
  ·cases he
 ·cases hp
theorem follows : Tryd.prog.follows .mixedOrders = true := by kernel_rfl
theorem known {prim : Nat → Option (Nat → List V → Heap → Option (V × Heap))} (hp : ∀ f p, prim f = some p → ∀ lo args h r h', lo ≤ h.length → p lo args h = some (r, h') → CallOK Tryd.prog lo f args h r h') {n f : Nat} {args : List V} {r : V}
  (he : evFun Tryd.prog hints prim n 0 f args [] = some (r, [])) : CallOK Tryd.prog 0 f args [] r [] := fun_ok follows hp n 0 f args [] r [] (Nat.le_refl _) he
theorem tw_all : ∀ p ∈ twM, CallOK Tryd.prog 0 90 p.1 [] p.2 [] := by
 unfold twM
 simp only [List.mem_cons, List.not_mem_nil, or_false, forall_eq_or_imp, forall_eq]
 exact ⟨known prim_ok0 tw0, known prim_ok0 tw1, known prim_ok0 tw2, known prim_ok0 tw3⟩
theorem ls_all : ∀ p ∈ lsM, CallOK Tryd.prog 0 88 p.1 [] p.2 [] := by
 unfold lsM
 simp only [List.mem_cons, List.not_mem_nil, or_false, forall_eq_or_imp, forall_eq]
 exact ⟨known prim_ok0 ls0, known prim_ok0 ls1⟩
theorem gc_all : ∀ p ∈ gcM, CallOK Tryd.prog 0 64 p.1 [] p.2 [] := by
 unfold gcM
 simp only [List.mem_cons, List.not_mem_nil, or_false, forall_eq_or_imp, forall_eq]
 exact ⟨known prim_ok0 gc0, known prim_ok0 gc1, known prim_ok0 gc2⟩
theorem spec_all : ∀ p ∈ specM, CallOK Tryd.prog 0 7 p.1 [] p.2 [] := by
 unfold specM
 simp only [List.mem_cons, List.not_mem_nil, or_false, forall_eq_or_imp, forall_eq]
 exact ⟨known prim_ok0 spec0, known prim_ok0 spec1, known prim_ok0 spec2, known prim_ok0 spec3, known prim_ok0 spec4, known prim_ok0 spec5, known prim_ok0 spec6, known prim_ok0 spec7, known prim_ok0 spec8, known prim_ok0 spec9, known prim_ok0 spec10, known prim_ok0 spec11, known prim_ok0 spec12, known prim_ok0 spec13⟩
theorem place_all : ∀ p ∈ placeM, CallOK Tryd.prog 0 9 p.1 [] p.2 [] := by
 unfold placeM
 simp only [List.mem_cons, List.not_mem_nil, or_false, forall_eq_or_imp, forall_eq]
 exact ⟨known prim_ok0 place0, known prim_ok0 place1, known prim_ok0 place2, known prim_ok0 place3, known prim_ok0 place4, known prim_ok0 place5, known prim_ok0 place6, known prim_ok0 place7, known prim_ok0 place8, known prim_ok0 place9, known prim_ok0 place10, known prim_ok0 place11, known prim_ok0 place12, known prim_ok0 place13⟩
theorem prim_okA : ∀ f p, primA f = some p → ∀ lo args h r h', lo ≤ h.length → p lo args h = some (r, h') → CallOK Tryd.prog lo f args h r h' := by
 intro f p hp lo args h r h' hlo he
 unfold primA at hp
 split at hp
 ·cases hp
  exact memo_ok tw_all (by kernel_rfl) lo args h r h' hlo he
 ·cases hp
  exact memo_ok ls_all (by kernel_rfl) lo args h r h' hlo he
 ·cases hp
  exact prim_ok0 16 _ rfl lo args h r h' hlo he
 ·cases hp
  exact prim_ok0 89 _ rfl lo args h r h' hlo he
 ·cases hp
theorem dv_all : ∀ p ∈ dvM, CallOK Tryd.prog 0 65 p.1 [] p.2 [] := by
 unfold dvM
 simp only [List.mem_cons, List.not_mem_nil, or_false, forall_eq_or_imp, forall_eq]
 exact ⟨known prim_okA dv0, known prim_okA dv1, known prim_okA dv2, known prim_okA dv3⟩
theorem prim_okB : ∀ f p, primB f = some p → ∀ lo args h r h', lo ≤ h.length → p lo args h = some (r, h') → CallOK Tryd.prog lo f args h r h' := by
 intro f p hp lo args h r h' hlo he
 unfold primB at hp
 split at hp
 ·cases hp
  exact memo_ok gc_all (by kernel_rfl) lo args h r h' hlo he
 ·cases hp
  exact memo_ok dv_all (by kernel_rfl) lo args h r h' hlo he
 ·cases hp
  exact prim_ok0 16 _ rfl lo args h r h' hlo he
 ·cases hp
  exact prim_ok0 89 _ rfl lo args h r h' hlo he
 ·cases hp
theorem q_all : ∀ p ∈ qM, CallOK Tryd.prog 0 30 p.1 [] p.2 [] := by
 unfold qM
 simp only [List.mem_cons, List.not_mem_nil, or_false, forall_eq_or_imp, forall_eq]
 exact ⟨known prim_okB q0, known prim_okB q1, known prim_okB q2⟩
theorem prim_okC : ∀ f p, primC f = some p → ∀ lo args h r h', lo ≤ h.length → p lo args h = some (r, h') → CallOK Tryd.prog lo f args h r h' := by
 intro f p hp lo args h r h' hlo he
 unfold primC at hp
 split at hp
 ·cases hp
  exact memo_ok spec_all (by kernel_rfl) lo args h r h' hlo he
 ·cases hp
  exact memo_ok place_all (by kernel_rfl) lo args h r h' hlo he
 ·cases hp
  exact memo_ok q_all (by kernel_rfl) lo args h r h' hlo he
 ·cases hp
  exact prim_ok0 16 _ rfl lo args h r h' hlo he
 ·cases hp
  exact prim_ok0 89 _ rfl lo args h r h' hlo he
 ·cases hp
end Go.Lift.T1
end

section
open Go.Proofs
namespace Go.Lift.T1
theorem law3 : evFun Tryd.prog hints primC 200 0 3 [] [] = some (.v (.bool true), []) := by kernel_rfl
end Go.Lift.T1
end

section
namespace Go.Proofs.YtilpeaggmnomiaaDoor
open Go.Lift Go.Lift.T1 Go.ChangeShapes Go.WideShapes Go.ChangeAt Go.RowKit
theorem isBulk (H : Type) : IsBulk (H := H) Rows.uptoBulk Rows.uptoBulkAll :=
 ⟨rfl, fun _ _ => rfl, fun _ => rfl, fun _ => rfl, fun _ _ => rfl, rfl, fun e s => by show Rows.uptoBulkAll e + 1 ≤ Rows.uptoBulkAll e + Rows.uptoBulkAll s + 1; omega, fun _ => rfl⟩
theorem own : ownKnob Tryd.prog.godebug = none := by kernel_rfl
theorem laidOut : laidOutB Tryd.prog = true := by kernel_rfl
theorem ros_of {w : World} {g : Nat} {cs : List V} (h : ∀ (j : Nat) v, cs[j]? = some v → ∃ x, w.cell? ⟨g, j, none⟩ = some x ∧ VP (wholeCl w) w v x) : ROs (wholeCl w) w ⟨g, 0, none⟩ cs := by
 refine ⟨?_, fun j v hj => by simpa using h j v hj⟩
 cases cs with
 | nil => exact Nat.zero_le _
 | cons c t =>
  have hl : (c :: t)[t.length]? = some ((c :: t)[t.length]'(by simp)) := List.getElem?_eq_getElem (by simp)
  obtain ⟨x, hx, _⟩ := h t.length _ hl
  unfold World.cell? at hx
  unfold wholeCl
  simp only at hx ⊢
  split at hx
  ·rename_i arr e f he
   rw [he]
   simp only [List.length_cons]
   have := (Array.getElem?_eq_some_iff.1 hx).1
   omega
  ·cases hx
theorem space_data : (Rows.laid_strings_asciiSpace : DataW Unit) = Lib.tabData .u8 Lib.asciiSpaceTab := by kernel_rfl
theorem tab_cells {w : World} {name : String} {k : IntKind} {zs : List Int} {g : Nat} {t e : TypeId} {n : Nat} (hn : Tryd.prog.globalNamed name = some g) (hy : (Tryd.prog.globals[g]?).map (·.type) = some t)
  (ht : Tryd.prog.underlying t = some (.array n e)) (he : Tryd.prog.underlying e = some (.int k)) (hce : Tryd.prog.cellsOf e = 1) (hct : Tryd.prog.cellsOf t = n) (h : Lib.VarReads Tryd.prog w name (Lib.tabData k zs)) :
  ∀ (j : Nat) (z : Int), zs[j]? = some z → w.cell? ⟨g, j, none⟩ = some (.int k z) := fun j z hz => by
 obtain ⟨g', t', cs, fuel, p, h1, h2, h3, h4⟩ := h
 obtain rfl := Option.some.inj (hn.symm.trans h1)
 obtain rfl := Option.some.inj (hy.symm.trans h2)
 have hcs := Lib.cells_of_tab ht he hce hct h4
 have := World.var?_cell hn h3 j
 rw [this, ← Array.getElem?_toList, hcs]
 simp [hz]
theorem gok {W : World} (hs : Lib.VarReads Tryd.prog W "strings.asciiSpace" Rows.laid_strings_asciiSpace) : GOK W := by
 rw [space_data] at hs
 intro n cs hc
 have e : GTab.tab n = gtab.1 n := rfl
 rw [e] at hc
 unfold gtab at hc
 simp only at hc
 split at hc
 ·have c0 := tab_cells (g := 0) (t := 76) (e := 5) (n := 256) (by kernel_rfl) (by kernel_rfl) (by kernel_rfl) (by kernel_rfl) (by kernel_rfl) (by kernel_rfl) hs
  cases hc
  refine ros_of fun j v hj => ?_
  simp only [List.getElem?_map, Option.map_eq_some_iff] at hj
  obtain ⟨k, hk2, rfl⟩ := hj
  obtain ⟨hj1, rfl⟩ := List.getElem?_eq_some_iff.1 hk2
  simp only [List.length_range] at hj1
  rw [List.getElem_range]
  exact ⟨_, c0 j _ (by unfold Lib.asciiSpaceTab; rw [List.getElem?_map, List.getElem?_range hj1]; rfl), .v _ rfl⟩
 ·cases hc
noncomputable def laidWorld (os : Os) : World :=
 let N := (World.settled Tryd.prog os).heap.size
 let w0 := World.holding Tryd.prog os ⟨#[.cells ([9, 13, 1, 32, 133, 101, 160, 5760, 5600, 8192, 8202, 1, 8232, 8233, 1, 8239, 8287, 48, 12288, 12288, 1].map fun z => Value.int .u16 z).toArray 130, .cells #[.slice (some ⟨N, 0, none⟩) 7 7, .slice none 0 0, .int .i64 2] 127], #[], []⟩
 let put (h : Array Obj) (g : Nat) (cs : Array Value) : Array Obj := h.modify g fun
  | .cells _ t frozen => .cells cs t frozen
  | o => o
 let h1 := put w0.heap 0 (Lib.asciiSpaceTab.map fun z => Value.int .u8 z).toArray
 let h3 := put h1 1 #[.pointer (some ⟨N + 1, 0, none⟩)]
 { w0 with heap := h3 }
theorem laid3 (os : Os) (args : Array Value) : LaidIn Tryd.prog ((laidWorld os).forCall (fun _ _ => 0) ⟨#[], args, []⟩).memory [("unicode.White_Space", Rows.laid_unicode_White_Space), ("strings.asciiSpace", Rows.laid_strings_asciiSpace)] (List.range 200) :=
 LaidIn.of_run (List.range 200) 8 (by kernel_rfl) (by kernel_rfl) (by kernel_rfl) (by kernel_rfl)
end Go.Proofs.YtilpeaggmnomiaaDoor
end

section
namespace Go.Proofs.YtilpeaggmnomiaaDoor
theorem and_tt {a b : Bool} (ha : a = true) (hb : b = true) : (a && b) = true := by rw [ha, hb]; rfl
theorem fact2 : laidOutB Tryd.prog = true := by kernel_rfl
theorem fact3 : mapsRowed Tryd.prog = true := by kernel_rfl
theorem fact7 : (Tryd.prog.stops == []) = true := by kernel_rfl
theorem fact9 : (Tryd.prog.stopKnobs == []) = true := by kernel_rfl
theorem fact23 : (Rows.propTableRow.plainKeys == Tryd.prog.plainKeys) = true := by kernel_rfl
theorem fact25 : Tryd.prog.stopsHeard = true := by kernel_rfl
theorem fact26 : Tryd.prog.mayEnter = true := by kernel_rfl
theorem fact27 : (Rows.propTableRow.lifted == Tryd.prog.liftsFinal) = true := by kernel_rfl
theorem fact28 : (Tryd.prog.make == some Rows.propTableRow.make) = true := by kernel_rfl
end Go.Proofs.YtilpeaggmnomiaaDoor
end
