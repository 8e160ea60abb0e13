/- SelWeighs answers true, whatever the selector and weights, where the arguments' bulk is at most 1048576 and the package's variables hold what their initialisers lay. -/
import Derived.Test.YtkbhmelfbekieaaGreatDoorCards
import Derived.Test.YtkbhmelfbekieaaGreatDoorTie
import Derived.Test.YtkbhmelfbekieaaGreatDoorGKc
import Derived.Test.YtkbhmelfbekieaaGreatDoorGKd
set_option linter.unusedVariables false
set_option linter.unusedSimpArgs false
set_option linter.unusedSectionVars false
set_option maxRecDepth 100000
namespace Go.Proofs.YtkbhmelfbekieaaGreatDoor
open Go.Lift Go.Lift.Z9 Go.ChangeShapes Go.WideShapes Go.ChangeAt Go.RowKit
theorem selWeighs_ev [MX] (vs : List V) (ht : Ar.TysV Tryz.prog Tryz.f3.params.toList vs) (hs : asizes vs <= 1048576) : E 0 3 vs [] = some (.v (.bool true), []) := by
 rw [Tryz.params3] at ht
 match vs, ht with
 | [v0, v1, v2, v3], ht =>
  have h0 : asize v0 <= 1048576 := by simp only [asizes] at hs; omega
  have h1 : asize v1 <= 1048576 := by simp only [asizes] at hs; omega
  have h2 : asize v2 <= 1048576 := by simp only [asizes] at hs; omega
  have h3 : asize v3 <= 1048576 := by simp only [asizes] at hs; omega
  obtain ⟨ps, rfl, hB0, hl0, hn0⟩ := ty24 ht.1 h0 (Nat.le_refl _)
  obtain ⟨a, rfl⟩ := ty26 ht.2.1 h1 (Nat.le_refl _)
  obtain ⟨b, rfl⟩ := ty26 ht.2.2.1 h2 (Nat.le_refl _)
  obtain ⟨l, rfl, hl⟩ := ty27 ht.2.2.2.1 h3 (Nat.le_refl _)
  exact Go.Lift.Z9.f3 (by omega) hB0 (by omega) (by omega)
theorem selWeighs_reads (os : Os) {H : Type} (enc : TypeId × Value -> H) : ∃ places, DataW.whole enc Tryz.prog ((laidWorld os).forCall (fun _ _ => 0) ⟨#[], #[Value.agg #[Value.slice none 0 0], Value.agg #[.int .i64 0, .int .i64 0, .int .i64 0], Value.agg #[.int .i64 0, .int .i64 0, .int .i64 0], Value.slice none 0 0], []⟩).memory Tryz.f3.params.toList Rows.selWeighsSpec.vars false #[Value.agg #[Value.slice none 0 0], Value.agg #[.int .i64 0, .int .i64 0, .int .i64 0], Value.agg #[.int .i64 0, .int .i64 0, .int .i64 0], Value.slice none 0 0].toList 8 = some ([.agg [.nil], .agg [.lit (.int .i64 0), .lit (.int .i64 0), .lit (.int .i64 0)], .agg [.lit (.int .i64 0), .lit (.int .i64 0), .lit (.int .i64 0)], .nil], [], places) :=
 ⟨[], by kernel_rfl⟩
theorem selWeighs_lifted (os : Os) (started : os.Started) (H : Type) (enc : TypeId × Value -> H) (F : Stop.Interp) :
  ReturnsInHanded {} Tryz.checked os 3 .any ((Rows.OpenSpec.upto Rows.selWeighsSpec).preRow enc Tryz.prog Tryz.f3 Rows.selWeighsUptoRow.domain false Rows.selWeighsUptoRow.laid) (((Rows.OpenSpec.upto Rows.selWeighsSpec).at F).post enc Tryz.prog Tryz.f3 false true false false) := by
 obtain ⟨places, hx⟩ := selWeighs_reads os enc
 refine returnsInHanded_of_row (C := Tryz.checked) (s := Rows.OpenSpec.upto Rows.selWeighsSpec) own started (by kernel_rfl) Tryz.func3
  (witness_row_at (enc := enc) (C := Tryz.checked) false (laidWorld os) #[Value.agg #[Value.slice none 0 0], Value.agg #[.int .i64 0, .int .i64 0, .int .i64 0], Value.agg #[.int .i64 0, .int .i64 0, .int .i64 0], Value.slice none 0 0] rfl (by kernel_rfl) (by kernel_rfl) (by kernel_rfl)
   (OpenSpec.preRow_of_cond 8 hx (by kernel_rfl) (fun k hk => by cases hk; kernel_rfl) (by kernel_rfl) (laid1 os _).met)) ?_
 intro W base args ds gs before hval hW hA hcond hB hL hC hD
 have hL' : laidMet Tryz.prog Rows.selWeighsUptoRow.laid W := hL
 obtain ⟨m, hm⟩ := Tryz.lays219.s1_3 W (by first | exact hB | exact hC | exact hD | assumption)
 letI : MX := ⟨m⟩
 exact Ar.law_of (P := Tryz.prog) (hints := hints) (prim := primz) follows prim_ok (isBulk H) (ts := [3, 4, 9, 22, 24, 26, 27, 32, 49, 51, 53]) (by kernel_rfl) (fn := Tryz.f3) (f := 3) (bt := 4) (N := 1048576)
  (by kernel_rfl) (by kernel_rfl) laidOut rfl Tryz.underlying4 (s := Rows.selWeighsSpec) rfl
  (fun l hl => by
   match l, hl with
   | [d0, d1, d2, d3], _ => rfl) selWeighs_ev (gok hm (Lib.laidMet.reads hL' (.head _))) hval hW (of_decide_eq_true (hcond _ rfl))
theorem selWeighs_fact10 : (Rows.selWeighsUptoRow.inPlace == Tryz.prog.inPlace 3) = true := by kernel_rfl
theorem selWeighs_fact11 : (Rows.selWeighsUptoRow.unfollowed == Tryz.prog.unfollowed 3) = true := by kernel_rfl
theorem selWeighs_fact12 : (Rows.selWeighsUptoRow.recurses == Tryz.prog.recurses 3) = true := by kernel_rfl
theorem selWeighs_fact13 : (Rows.selWeighsUptoRow.named == Tryz.prog.varsNamed 3) = true := by kernel_rfl
theorem selWeighs_facts : joinedFacts Tryz.prog 3 Tryz.f3 (Rows.OpenSpec.upto Rows.selWeighsSpec).bare Rows.selWeighsUptoRow = true := by
 unfold joinedFacts
 refine and_tt (and_tt (and_tt (and_tt (and_tt (and_tt (and_tt (and_tt (and_tt (and_tt (and_tt (and_tt (and_tt (and_tt (and_tt (and_tt (and_tt (and_tt (and_tt (and_tt (and_tt (and_tt (and_tt (and_tt (and_tt (and_tt (and_tt (and_tt (and_tt (and_tt (and_tt ?_ fact2) fact3) ?_) ?_) ?_) fact7) ?_) fact9) selWeighs_fact10) selWeighs_fact11) selWeighs_fact12) selWeighs_fact13) ?_) ?_) ?_) ?_) ?_) ?_) ?_) ?_) ?_) fact23) ?_) fact25) fact26) fact27) fact28) ?_) ?_) ?_) ?_ <;> kernel_rfl
theorem selWeighs_upto : Rows.SelWeighsUptoSaid :=
 OpenClaim.holds_of_cond 3 Tryz.f3 rfl rfl rfl rfl rfl rfl rfl ⟨rfl, rfl, rfl, rfl, rfl⟩ rfl rfl rfl rfl rfl (by kernel_rfl) Tryz.func3 selWeighs_facts
  (of_decide_eq_true (by kernel_rfl)) (by unfold Func.isWrapper; first | (rw [if_pos (by decide +kernel)]; kernel_rfl) | (rw [if_neg (by decide +kernel)]; exact ⟨rfl, rfl⟩))
  (fun os started H enc _ F => by rw [OpenClaim.pre_eq_preRow]; exact selWeighs_lifted os started H enc F)
theorem selWeighs_plain (f : FuncId) (fn : Func) (hf : Tryz.pinned.checked.prog.funcNamed Tryz.f3.name = some f) (hfn : Tryz.pinned.checked.prog.funcs[f]? = some fn) :
  false = Tryz.pinned.checked.prog.looks [] /\ ∀ (j : Nat) t, fn.params[j]? = some t -> Tryz.pinned.checked.prog.wantsStandIn t = false := by
 obtain rfl : f = 3 := Option.some.inj ((show Tryz.prog.funcNamed Tryz.f3.name = some 3 by kernel_rfl).symm.trans hf) |>.symm
 obtain rfl : fn = Tryz.f3 := (Option.some.inj (Tryz.func3.symm.trans hfn)).symm
 refine ⟨by kernel_rfl, fun j t ht => ?_⟩
 rw [Tryz.params3] at ht
 have h := Array.mem_of_getElem? ht
 simp at h
 rcases h with rfl | rfl | rfl
 ·exact (show Tryz.prog.wantsStandIn 24 = false by kernel_rfl)
 ·exact (show Tryz.prog.wantsStandIn 26 = false by kernel_rfl)
 ·exact (show Tryz.prog.wantsStandIn 27 = false by kernel_rfl)
theorem selWeighs_card : Rows.SelWeighsUptoCardSaid :=
 Claim7.holds_tied_plain_at .later [] _ _ _ _ selWeighs_upto (fun _ h => by cases h) (by kernel_rfl) (fun _ h => by cases h) selWeighsUpto_row_tie rfl ⟨rfl, rfl⟩ (by kernel_rfl) rfl selWeighs_plain (by kernel_rfl)
end Go.Proofs.YtkbhmelfbekieaaGreatDoor
