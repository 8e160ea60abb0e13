/- PropTable answers true, where the package's variables hold what their initialisers lay. -/
import Derived.Test.YtilpeaggmnomiaaDoorCards
import Derived.Test.YtilpeaggmnomiaaDoorTie
import Derived.Test.YtilpeaggmnomiaaDoorGKb
set_option linter.unusedVariables false
set_option linter.unusedSimpArgs false
set_option linter.unusedSectionVars false
set_option maxRecDepth 100000
namespace Go.Proofs.YtilpeaggmnomiaaDoor
open Go.Lift Go.Lift.T1 Go.ChangeShapes Go.WideShapes Go.ChangeAt Go.RowKit
theorem propTable_ev (vs : List V) (ht : TysV Tryd.prog Tryd.f3.params.toList vs) (hs : asizes vs <= 1048576) : ev Tryd.prog hints primC 0 3 vs [] = some (.v (.bool true), []) := by
 rw [Tryd.params3] at ht
 match vs, ht with
 | [], ht => exact ev_of law3
theorem propTable_reads (os : Os) {H : Type} (enc : TypeId × Value -> H) : ∃ places, DataW.whole enc Tryd.prog ((laidWorld os).forCall (fun _ _ => 0) ⟨#[], #[], []⟩).memory Tryd.f3.params.toList Rows.propTableSpec.vars false #[].toList 8 = some ([], [], places) :=
 ⟨[], by kernel_rfl⟩
theorem bulk0 {H : Type} {enc : TypeId × Value -> H} {W : World} {args : List Value} {ds gs : List (DataW H)} {before : List MemPlace} (hW : DataW.Whole enc Tryd.prog Tryd.f3.params.toList Rows.propTableSpec.vars false W args ds gs before) : Rows.uptoBulkAll (ds ++ gs) <= 1048576 := by
 obtain ⟨p, q, hA, hV, rfl, _, _⟩ := hW
 rw [Tryd.params3] at hA
 obtain ⟨rfl, rfl, rfl⟩ := trodAll_nil hA
 obtain ⟨rfl, rfl⟩ := trodVars_none hV
 exact Nat.le_trans (Nat.le_of_eq (isBulk H).nil) (Nat.zero_le _)
theorem propTable_lifted (os : Os) (started : os.Started) (H : Type) (enc : TypeId × Value -> H) (F : Stop.Interp) :
  ReturnsInHanded {} Tryd.checked os 3 .any ((OpenSpec.ofChange Rows.propTableSpec).preRow enc Tryd.prog Tryd.f3 Rows.propTableRow.domain false Rows.propTableRow.laid) (((OpenSpec.ofChange Rows.propTableSpec).at F).post enc Tryd.prog Tryd.f3 false true false false) := by
 obtain ⟨places, hx⟩ := propTable_reads os enc
 refine returnsInHanded_of_row (C := Tryd.checked) (s := OpenSpec.ofChange Rows.propTableSpec) own started (by kernel_rfl) Tryd.func3
  (witness_row_atRef (enc := enc) (C := Tryd.checked) false (laidWorld os) #[] rfl (by kernel_rfl) (by kernel_rfl) (by kernel_rfl)
   (OpenSpec.preRow_of_cond 8 hx (by kernel_rfl) (fun k hk => by cases hk) (by kernel_rfl) (laid3 os _).met)) ?_
 intro W base args ds gs before hval hW hA hcond hB hL hC hD
 have hL' : laidMet Tryd.prog Rows.propTableRow.laid W := hL
 exact law_of (P := Tryd.prog) (hints := hints) (prim := primC) follows prim_okC (isBulk H) (ts := []) (by kernel_rfl) (fn := Tryd.f3) (f := 3) (bt := 4) (N := 1048576)
  (by kernel_rfl) (by kernel_rfl) laidOut rfl Tryd.underlying4 (s := Rows.propTableSpec) rfl
  (fun l hl => by
   match l, hl with
   | [], _ => rfl) propTable_ev (gok (Lib.laidMet.reads hL' (.tail _ (.head _)))) hval hW (bulk0 hW)
theorem propTable_fact10 : (Rows.propTableRow.inPlace == Tryd.prog.inPlace 3) = true := by kernel_rfl
theorem propTable_fact11 : (Rows.propTableRow.unfollowed == Tryd.prog.unfollowed 3) = true := by kernel_rfl
theorem propTable_fact12 : (Rows.propTableRow.recurses == Tryd.prog.recurses 3) = true := by kernel_rfl
theorem propTable_fact13 : (Rows.propTableRow.named == Tryd.prog.varsNamed 3) = true := by kernel_rfl
theorem propTable_facts : joinedFacts Tryd.prog 3 Tryd.f3 (OpenSpec.ofChange Rows.propTableSpec).bare Rows.propTableRow = true := by
 unfold joinedFacts
 refine and_tt (and_tt (and_tt (and_tt (and_tt (and_tt (and_tt (and_tt (and_tt (and_tt (and_tt (and_tt (and_tt (and_tt (and_tt (and_tt (and_tt (and_tt (and_tt (and_tt (and_tt (and_tt (and_tt (and_tt (and_tt (and_tt (and_tt (and_tt (and_tt (and_tt (and_tt ?_ fact2) fact3) ?_) ?_) ?_) fact7) ?_) fact9) propTable_fact10) propTable_fact11) propTable_fact12) propTable_fact13) ?_) ?_) ?_) ?_) ?_) ?_) ?_) ?_) ?_) fact23) ?_) fact25) fact26) fact27) fact28) ?_) ?_) ?_) ?_ <;> kernel_rfl
theorem propTable_said : Rows.PropTableSaid :=
 OpenClaim.holds_of_cond 3 Tryd.f3 rfl rfl rfl rfl rfl rfl rfl ⟨rfl, rfl, rfl, rfl, rfl⟩ rfl rfl rfl rfl rfl (by kernel_rfl) Tryd.func3 propTable_facts
  (of_decide_eq_true (by kernel_rfl)) (by unfold Func.isWrapper; first | (rw [if_pos (by decide +kernel)]; kernel_rfl) | (rw [if_neg (by decide +kernel)]; exact ⟨rfl, rfl⟩))
  (fun os started H enc _ F => by rw [OpenClaim.pre_eq_preRow]; exact propTable_lifted os started H enc F)
theorem propTable_plain (f : FuncId) (fn : Func) (hf : Tryd.pinned.checked.prog.funcNamed Tryd.f3.name = some f) (hfn : Tryd.pinned.checked.prog.funcs[f]? = some fn) :
  false = Tryd.pinned.checked.prog.looks [] /\ ∀ (j : Nat) t, fn.params[j]? = some t -> Tryd.pinned.checked.prog.wantsStandIn t = false := by
 obtain rfl : f = 3 := Option.some.inj ((show Tryd.prog.funcNamed Tryd.f3.name = some 3 by kernel_rfl).symm.trans hf) |>.symm
 obtain rfl : fn = Tryd.f3 := (Option.some.inj (Tryd.func3.symm.trans hfn)).symm
 refine ⟨by kernel_rfl, fun j t ht => ?_⟩
 rw [Tryd.params3] at ht
 simp at ht
theorem propTable_card : Rows.PropTableCardSaid :=
 Claim7.holds_tied_plain_at .later [] _ _ _ _ propTable_said (fun _ h => by cases h) (by kernel_rfl) (fun _ h => by cases h) propTable_row_tie rfl ⟨rfl, rfl⟩ (by kernel_rfl) rfl propTable_plain (by kernel_rfl)
end Go.Proofs.YtilpeaggmnomiaaDoor
