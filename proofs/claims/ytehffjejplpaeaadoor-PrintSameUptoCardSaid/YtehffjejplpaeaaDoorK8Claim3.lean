/- PrintSame answers true, whatever the two lists of rules, where the arguments' bulk is at most 1048576 and the package's variables hold what their initialisers lay. -/
import Derived.Test.YtehffjejplpaeaaDoorCards
import Derived.Test.YtehffjejplpaeaaDoorTie
import Derived.Test.YtehffjejplpaeaaDoorGKj
import Derived.Test.YtehffjejplpaeaaDoorGKk
set_option linter.unusedVariables false
set_option linter.unusedSimpArgs false
set_option linter.unusedSectionVars false
namespace Go.Proofs.YtehffjejplpaeaaDoor
open Go.Lift Go.Lift.D7 Go.ChangeShapes Go.WideShapes Go.ChangeAt Go.RowKit
set_option maxRecDepth 100000
theorem printSame_ev [MX] (vs : List V) (ht : TysV Tryd.prog Tryd.f3.params.toList vs) (hs : asizes vs ≤ 1048576) : E 0 3 vs [] = some (.v (.bool true), []) := by
 rw [Tryd.params3] at ht
 match vs, ht with
 | [v, u], ht =>
  have h1 : asize v + asize u ≤ 1048576 := by simp only [asizes] at hs; omega
  obtain ⟨a, rfl, ha, oa, ca⟩ := ty22 (n := asize v) ht.1 (Nat.le_refl _) (by omega)
  obtain ⟨b, rfl, hb, ob, cb⟩ := ty22 (n := asize u) ht.2.1 (Nat.le_refl _) (by omega)
  exact Go.Lift.D7.f3 (Nat.zero_le _) (by omega) (by omega) oa ob
theorem printSame_reads (os : Os) {H : Type} (enc : TypeId × Value → H) : ∃ places, DataW.whole enc Tryd.prog ((laidWorld os).forCall (fun _ _ => 0) ⟨#[], #[Value.slice none 0 0, Value.slice none 0 0], []⟩).memory Tryd.f3.params.toList Rows.printSameSpec.vars false #[Value.slice none 0 0, Value.slice none 0 0].toList 8 = some ([.nil, .nil], [], places) :=
 ⟨[], by kernel_rfl⟩
theorem printSame_lifted (os : Os) (started : os.Started) (H : Type) (enc : TypeId × Value → H) (F : Stop.Interp) :
  ReturnsInHanded {} Tryd.checked os 3 .any ((Rows.OpenSpec.upto Rows.printSameSpec).preRow enc Tryd.prog Tryd.f3 Rows.printSameUptoRow.domain false Rows.printSameUptoRow.laid) (((Rows.OpenSpec.upto Rows.printSameSpec).at F).post enc Tryd.prog Tryd.f3 false true false false) := by
 obtain ⟨places, hx⟩ := printSame_reads os enc
 refine returnsInHanded_of_row (C := Tryd.checked) (s := Rows.OpenSpec.upto Rows.printSameSpec) own started (by kernel_rfl) Tryd.func3
  (witness_row_at (enc := enc) (C := Tryd.checked) false (laidWorld os) #[Value.slice none 0 0, Value.slice none 0 0] rfl (by kernel_rfl) (by kernel_rfl) (by kernel_rfl)
   (OpenSpec.preRow_of_cond 8 hx (by kernel_rfl) (fun k hk => by cases hk; kernel_rfl) (by kernel_rfl) (laid3 os _).met)) ?_
 intro W base args ds gs before hval hW hA hcond hB hL hC hD
 have hL' : laidMet Tryd.prog Rows.printSameUptoRow.laid W := hL
 obtain ⟨m, hm⟩ := Tryd.lays219.s1_3 W (by first | exact hB | exact hC | exact hD | assumption)
 letI : MX := ⟨m⟩
 exact law_of (P := Tryd.prog) (hints := hints) (prim := primz) follows prim_ok (isBulk H) (ts := [2, 3, 4, 9, 22, 28, 29, 31, 34, 38, 40, 42]) (by kernel_rfl) (fn := Tryd.f3) (f := 3) (bt := 4) (N := 1048576)
  (by kernel_rfl) (by kernel_rfl) laidOut rfl Tryd.underlying4 (s := Rows.printSameSpec) rfl
  (fun l hl => by
   match l, hl with
   | [d0, d1], _ => rfl) printSame_ev (gok hm (Lib.laidMet.reads hL' (.head _)) (Lib.laidMet.reads hL' (.tail _ (.tail _ (.head _)))) (Lib.laidMet.reads hL' (.tail _ (.head _)))) hval hW (of_decide_eq_true (hcond _ rfl))
theorem printSame_upto : Rows.PrintSameUptoSaid :=
 OpenClaim.holds_of_cond 3 Tryd.f3 rfl rfl rfl rfl rfl rfl rfl ⟨rfl, rfl, rfl, rfl, rfl⟩ rfl rfl rfl rfl rfl (by kernel_rfl) Tryd.func3 (by kernel_rfl)
  (of_decide_eq_true (by kernel_rfl)) (by unfold Func.isWrapper; first | (rw [if_pos (by decide +kernel)]; kernel_rfl) | (rw [if_neg (by decide +kernel)]; exact ⟨rfl, rfl⟩))
  (fun os started H enc _ F => by rw [OpenClaim.pre_eq_preRow]; exact printSame_lifted os started H enc F)
theorem printSame_plain (f : FuncId) (fn : Func) (hf : Tryd.pinned.checked.prog.funcNamed Tryd.f3.name = some f) (hfn : Tryd.pinned.checked.prog.funcs[f]? = some fn) :
  false = Tryd.pinned.checked.prog.looks [] ∧ ∀ (j : Nat) t, fn.params[j]? = some t → Tryd.pinned.checked.prog.wantsStandIn t = false := by
 obtain rfl : f = 3 := Option.some.inj ((show Tryd.prog.funcNamed Tryd.f3.name = some 3 by kernel_rfl).symm.trans hf) |>.symm
 obtain rfl : fn = Tryd.f3 := (Option.some.inj (Tryd.func3.symm.trans hfn)).symm
 refine ⟨by kernel_rfl, fun j t ht => ?_⟩
 rw [Tryd.params3] at ht
 obtain rfl : t = 22 := by simpa using Array.mem_of_getElem? ht
 exact (show Tryd.prog.wantsStandIn 22 = false by kernel_rfl)
theorem printSame_card : Rows.PrintSameUptoCardSaid :=
 Claim7.holds_tied_plain_at .later [] _ _ _ _ printSame_upto (fun _ h => by cases h) (by kernel_rfl) (fun _ h => by cases h) printSameUpto_row_tie rfl ⟨rfl, rfl⟩ (by kernel_rfl) rfl printSame_plain (by kernel_rfl)
end Go.Proofs.YtehffjejplpaeaaDoor
