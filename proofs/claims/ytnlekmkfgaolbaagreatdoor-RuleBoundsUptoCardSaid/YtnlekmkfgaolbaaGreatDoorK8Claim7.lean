/- RuleBounds answers true, whatever the bytes, where the arguments' bulk is at most 1048576 and the package's variables hold what their initialisers lay. -/
import Derived.Test.YtnlekmkfgaolbaaGreatDoorCards
import Derived.Test.YtnlekmkfgaolbaaGreatDoorTie
import Derived.Test.YtnlekmkfgaolbaaGreatDoorGKg
import Derived.Test.YtnlekmkfgaolbaaGreatDoorGKh
set_option linter.unusedVariables false
set_option linter.unusedSimpArgs false
set_option linter.unusedSectionVars false
set_option maxRecDepth 100000
namespace Go.Proofs.YtnlekmkfgaolbaaGreatDoor
open Go.Lift Go.Lift.P8 Go.ChangeShapes Go.WideShapes Go.ChangeAt Go.RowKit
theorem ruleBounds_ev [MX] (vs : List V) (ht : TysV Tryz.prog Tryz.f7.params.toList vs) (hs : asizes vs <= 1048576) : E 0 7 vs [] = some (.v (.bool true), []) := by
 rw [Tryz.params7] at ht
 match vs, ht with
 | [v0], ht =>
  have h0 : asize v0 <= 1048576 := by simp only [asizes] at hs; omega
  obtain ⟨l0, rfl, hB0, hl0⟩ := ty28 ht.1 h0 (Nat.le_refl _)
  exact Go.Lift.P8.f7 (by omega) hB0
theorem ruleBounds_reads (os : Os) {H : Type} (enc : TypeId × Value -> H) : ∃ places, DataW.whole enc Tryz.prog ((laidWorld os).forCall (fun _ _ => 0) ⟨#[], #[Value.slice none 0 0], []⟩).memory Tryz.f7.params.toList Rows.ruleBoundsSpec.vars false #[Value.slice none 0 0].toList 8 = some ([.nil], [], places) :=
 ⟨[], by kernel_rfl⟩
theorem ruleBounds_lifted (os : Os) (started : os.Started) (H : Type) (enc : TypeId × Value -> H) (F : Stop.Interp) :
  ReturnsInHanded {} Tryz.checked os 7 .any ((Rows.OpenSpec.upto Rows.ruleBoundsSpec).preRow enc Tryz.prog Tryz.f7 Rows.ruleBoundsUptoRow.domain false Rows.ruleBoundsUptoRow.laid) (((Rows.OpenSpec.upto Rows.ruleBoundsSpec).at F).post enc Tryz.prog Tryz.f7 false true false false) := by
 obtain ⟨places, hx⟩ := ruleBounds_reads os enc
 refine returnsInHanded_of_row (C := Tryz.checked) (s := Rows.OpenSpec.upto Rows.ruleBoundsSpec) own started (by kernel_rfl) Tryz.func7
  (witness_row_at (enc := enc) (C := Tryz.checked) false (laidWorld os) #[Value.slice none 0 0] rfl (by kernel_rfl) (by kernel_rfl) (by kernel_rfl)
   (OpenSpec.preRow_of_cond 8 hx (by kernel_rfl) (fun k hk => by cases hk; kernel_rfl) (by kernel_rfl) (laid2 os _).met)) ?_
 intro W base args ds gs before hval hW hA hcond hB hL hC hD
 have hL' : laidMet Tryz.prog Rows.ruleBoundsUptoRow.laid W := hL
 obtain ⟨m, hm⟩ := Tryz.lays219.s1_3 W (by first | exact hB | exact hC | exact hD | assumption)
 letI : MX := ⟨m, false, false, false⟩
 exact law_of (P := Tryz.prog) (hints := hints) (prim := primz) follows prim_ok (isBulk H) (ts := [5, 28]) (by kernel_rfl) (fn := Tryz.f7) (f := 7) (bt := 4) (N := 1048576)
  (by kernel_rfl) (by kernel_rfl) laidOut rfl Tryz.underlying4 (s := Rows.ruleBoundsSpec) rfl
  (fun l hl => by
   match l, hl with
   | [d0], _ => rfl) ruleBounds_ev (gok hm (fun h => absurd h Bool.false_ne_true) (fun h => absurd h Bool.false_ne_true) (fun h => absurd h Bool.false_ne_true) (Lib.laidMet.reads hL' (.tail _ (.head _))) (Lib.laidMet.reads hL' (.head _))) hval hW (of_decide_eq_true (hcond _ rfl))
theorem ruleBounds_fact10 : (Rows.ruleBoundsUptoRow.inPlace == Tryz.prog.inPlace 7) = true := by kernel_rfl
theorem ruleBounds_fact11 : (Rows.ruleBoundsUptoRow.unfollowed == Tryz.prog.unfollowed 7) = true := by kernel_rfl
theorem ruleBounds_fact12 : (Rows.ruleBoundsUptoRow.recurses == Tryz.prog.recurses 7) = true := by kernel_rfl
theorem ruleBounds_fact13 : (Rows.ruleBoundsUptoRow.named == Tryz.prog.varsNamed 7) = true := by kernel_rfl
theorem ruleBounds_facts : joinedFacts Tryz.prog 7 Tryz.f7 (Rows.OpenSpec.upto Rows.ruleBoundsSpec).bare Rows.ruleBoundsUptoRow = true := by
 unfold joinedFacts
 refine and_tt (and_tt (and_tt (and_tt (and_tt (and_tt (and_tt (and_tt (and_tt (and_tt (and_tt (and_tt (and_tt (and_tt (and_tt (and_tt (and_tt (and_tt (and_tt (and_tt (and_tt (and_tt (and_tt (and_tt (and_tt (and_tt (and_tt (and_tt (and_tt (and_tt (and_tt ?_ fact2) fact3) ?_) ?_) ?_) fact7) ?_) fact9) ruleBounds_fact10) ruleBounds_fact11) ruleBounds_fact12) ruleBounds_fact13) ?_) ?_) ?_) ?_) ?_) ?_) ?_) ?_) ?_) fact23) ?_) fact25) fact26) fact27) fact28) ?_) ?_) ?_) ?_ <;> kernel_rfl
theorem ruleBounds_upto : Rows.RuleBoundsUptoSaid :=
 OpenClaim.holds_of_cond 7 Tryz.f7 rfl rfl rfl rfl rfl rfl rfl ⟨rfl, rfl, rfl, rfl, rfl⟩ rfl rfl rfl rfl rfl (by kernel_rfl) Tryz.func7 ruleBounds_facts
  (of_decide_eq_true (by kernel_rfl)) (by unfold Func.isWrapper; first | (rw [if_pos (by decide +kernel)]; kernel_rfl) | (rw [if_neg (by decide +kernel)]; exact ⟨rfl, rfl⟩))
  (fun os started H enc _ F => by rw [OpenClaim.pre_eq_preRow]; exact ruleBounds_lifted os started H enc F)
theorem ruleBounds_plain (f : FuncId) (fn : Func) (hf : Tryz.pinned.checked.prog.funcNamed Tryz.f7.name = some f) (hfn : Tryz.pinned.checked.prog.funcs[f]? = some fn) :
  false = Tryz.pinned.checked.prog.looks [] /\ ∀ (j : Nat) t, fn.params[j]? = some t -> Tryz.pinned.checked.prog.wantsStandIn t = false := by
 obtain rfl : f = 7 := Option.some.inj ((show Tryz.prog.funcNamed Tryz.f7.name = some 7 by kernel_rfl).symm.trans hf) |>.symm
 obtain rfl : fn = Tryz.f7 := (Option.some.inj (Tryz.func7.symm.trans hfn)).symm
 refine ⟨by kernel_rfl, fun j t ht => ?_⟩
 rw [Tryz.params7] at ht
 obtain rfl : t = 28 := by simpa using Array.mem_of_getElem? ht
 exact (show Tryz.prog.wantsStandIn 28 = false by kernel_rfl)
theorem ruleBounds_card : Rows.RuleBoundsUptoCardSaid :=
 Claim7.holds_tied_plain_at .later [] _ _ _ _ ruleBounds_upto (fun _ h => by cases h) (by kernel_rfl) (fun _ h => by cases h) ruleBoundsUpto_row_tie rfl ⟨rfl, rfl⟩ (by kernel_rfl) rfl ruleBounds_plain (by kernel_rfl)
end Go.Proofs.YtnlekmkfgaolbaaGreatDoor
