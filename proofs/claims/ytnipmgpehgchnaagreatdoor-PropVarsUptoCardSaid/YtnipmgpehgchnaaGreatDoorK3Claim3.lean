/- PropVars answers true, whatever the component values, where the arguments' bulk is at most 1048576 and the package's variables hold what their initialisers lay. -/
import Derived.Test.YtnipmgpehgchnaaGreatDoorCards
import Derived.Test.YtnipmgpehgchnaaGreatDoorTie
import Derived.Test.YtnipmgpehgchnaaGreatDoorGKb
set_option linter.unusedVariables false
set_option linter.unusedSimpArgs false
set_option linter.unusedSectionVars false
set_option maxRecDepth 100000
namespace Go.Proofs.YtnipmgpehgchnaaGreatDoor
open Go.Lift Go.Lift.V1 Go.ChangeShapes Go.WideShapes Go.ChangeAt Go.RowKit
theorem propVars_ev (vs : List V) (ht : TysV Tryz.prog Tryz.f3.params.toList vs) (hs : asizes vs <= 1048576) : E 0 3 vs [] = some (.v (.bool true), []) := by
 rw [Tryz.params3] at ht
 match vs, ht with
 | [v0], ht =>
  have h0 : asize v0 <= 1048576 := by simp only [asizes] at hs; omega
  obtain ⟨l0, rfl, hB0, hl0⟩ := ty22 ht.1 h0 (Nat.le_refl _)
  exact Go.Lift.V1.f3 (Nat.le_refl _) (by omega) hB0
theorem propVars_reads (os : Os) {H : Type} (enc : TypeId × Value -> H) : ∃ places, DataW.whole enc Tryz.prog ((laidWorld os).forCall (fun _ _ => 0) ⟨#[], #[Value.slice none 0 0], []⟩).memory Tryz.f3.params.toList Rows.propVarsSpec.vars false #[Value.slice none 0 0].toList 8 = some ([.nil], [], places) :=
 ⟨[], by kernel_rfl⟩
theorem propVars_lifted (os : Os) (started : os.Started) (H : Type) (enc : TypeId × Value -> H) (F : Stop.Interp) :
  ReturnsInHanded {} Tryz.checked os 3 .any ((Rows.OpenSpec.upto Rows.propVarsSpec).preRow enc Tryz.prog Tryz.f3 Rows.propVarsUptoRow.domain false Rows.propVarsUptoRow.laid) (((Rows.OpenSpec.upto Rows.propVarsSpec).at F).post enc Tryz.prog Tryz.f3 false true false false) := by
 obtain ⟨places, hx⟩ := propVars_reads os enc
 refine returnsInHanded_of_row (C := Tryz.checked) (s := Rows.OpenSpec.upto Rows.propVarsSpec) own started (by kernel_rfl) Tryz.func3
  (witness_row_atRef (enc := enc) (C := Tryz.checked) false (laidWorld os) #[Value.slice none 0 0] rfl (by kernel_rfl) (by kernel_rfl) (by kernel_rfl)
   (OpenSpec.preRow_of_cond 8 hx (by kernel_rfl) (fun k hk => by cases hk; kernel_rfl) (by kernel_rfl) (laid3 os _).met)) ?_
 intro W base args ds gs before hval hW hA hcond hB hL hC hD
 have hL' : laidMet Tryz.prog Rows.propVarsUptoRow.laid W := hL
 exact law_of (P := Tryz.prog) (hints := hints) (prim := primz) follows prim_ok (isBulk H) (ts := [2, 3, 4, 9, 22, 28, 55, 57]) (by kernel_rfl) (fn := Tryz.f3) (f := 3) (bt := 4) (N := 1048576)
  (by kernel_rfl) (by kernel_rfl) laidOut rfl Tryz.underlying4 (s := Rows.propVarsSpec) rfl
  (fun l hl => by
   match l, hl with
   | [d0], _ => rfl) propVars_ev (gok (Lib.laidMet.reads hL' (.head _)) (Lib.laidMet.reads hL' (.tail _ (.tail _ (.head _))))) hval hW (of_decide_eq_true (hcond _ rfl))
theorem propVars_fact10 : (Rows.propVarsUptoRow.inPlace == Tryz.prog.inPlace 3) = true := by kernel_rfl
theorem propVars_fact11 : (Rows.propVarsUptoRow.unfollowed == Tryz.prog.unfollowed 3) = true := by kernel_rfl
theorem propVars_fact12 : (Rows.propVarsUptoRow.recurses == Tryz.prog.recurses 3) = true := by kernel_rfl
theorem propVars_fact13 : (Rows.propVarsUptoRow.named == Tryz.prog.varsNamed 3) = true := by kernel_rfl
theorem propVars_facts : joinedFacts Tryz.prog 3 Tryz.f3 (Rows.OpenSpec.upto Rows.propVarsSpec).bare Rows.propVarsUptoRow = true := by
 unfold joinedFacts
 refine and_tt (and_tt (and_tt (and_tt (and_tt (and_tt (and_tt (and_tt (and_tt (and_tt (and_tt (and_tt (and_tt (and_tt (and_tt (and_tt (and_tt (and_tt (and_tt (and_tt (and_tt (and_tt (and_tt (and_tt (and_tt (and_tt (and_tt (and_tt (and_tt (and_tt (and_tt ?_ fact2) fact3) ?_) ?_) ?_) fact7) ?_) fact9) propVars_fact10) propVars_fact11) propVars_fact12) propVars_fact13) ?_) ?_) ?_) ?_) ?_) ?_) ?_) ?_) ?_) fact23) ?_) fact25) fact26) fact27) fact28) ?_) ?_) ?_) ?_ <;> kernel_rfl
theorem propVars_upto : Rows.PropVarsUptoSaid :=
 OpenClaim.holds_of_cond 3 Tryz.f3 rfl rfl rfl rfl rfl rfl rfl ⟨rfl, rfl, rfl, rfl, rfl⟩ rfl rfl rfl rfl rfl (by kernel_rfl) Tryz.func3 propVars_facts
  (of_decide_eq_true (by kernel_rfl)) (by unfold Func.isWrapper; first | (rw [if_pos (by decide +kernel)]; kernel_rfl) | (rw [if_neg (by decide +kernel)]; exact ⟨rfl, rfl⟩))
  (fun os started H enc _ F => by rw [OpenClaim.pre_eq_preRow]; exact propVars_lifted os started H enc F)
theorem propVars_plain (f : FuncId) (fn : Func) (hf : Tryz.pinned.checked.prog.funcNamed Tryz.f3.name = some f) (hfn : Tryz.pinned.checked.prog.funcs[f]? = some fn) :
  false = Tryz.pinned.checked.prog.looks [] /\ ∀ (j : Nat) t, fn.params[j]? = some t -> Tryz.pinned.checked.prog.wantsStandIn t = false := by
 obtain rfl : f = 3 := Option.some.inj ((show Tryz.prog.funcNamed Tryz.f3.name = some 3 by kernel_rfl).symm.trans hf) |>.symm
 obtain rfl : fn = Tryz.f3 := (Option.some.inj (Tryz.func3.symm.trans hfn)).symm
 refine ⟨by kernel_rfl, fun j t ht => ?_⟩
 rw [Tryz.params3] at ht
 obtain rfl : t = 22 := by simpa using Array.mem_of_getElem? ht
 exact (show Tryz.prog.wantsStandIn 22 = false by kernel_rfl)
theorem propVars_card : Rows.PropVarsUptoCardSaid :=
 Claim7.holds_tied_plain_at .later [] _ _ _ _ propVars_upto (fun _ h => by cases h) (by kernel_rfl) (fun _ h => by cases h) propVarsUpto_row_tie rfl ⟨rfl, rfl⟩ (by kernel_rfl) rfl propVars_plain (by kernel_rfl)
end Go.Proofs.YtnipmgpehgchnaaGreatDoor
