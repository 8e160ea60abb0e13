/- PropInitial answers true, where the package's variables hold what their initialisers lay. -/
import Derived.Test.YtilpeaggmnomiaaDoorCards
import Derived.Test.YtilpeaggmnomiaaDoorTie
import Derived.Test.YtilpeaggmnomiaaDoorGKa
set_option linter.unusedVariables false
set_option linter.unusedSimpArgs false
set_option linter.unusedSectionVars false
set_option maxRecDepth 100000
namespace Go.Proofs.YtilpeaggmnomiaaDoor
open Go.Lift Go.Lift.T2 Go.ChangeShapes Go.WideShapes Go.ChangeAt Go.RowKit
theorem propInitial_ev (vs : List V) (ht : TysV Tryd.prog Tryd.f4.params.toList vs) (hs : asizes vs <= 1048576) : ev Tryd.prog hints primB 0 4 vs [] = some (.v (.bool true), []) := by
 rw [Tryd.params4] at ht
 match vs, ht with
 | [], ht => exact ev_of law4
theorem propInitial_reads (os : Os) {H : Type} (enc : TypeId × Value -> H) : ∃ places, DataW.whole enc Tryd.prog ((laidWorld os).forCall (fun _ _ => 0) ⟨#[], #[], []⟩).memory Tryd.f4.params.toList Rows.propInitialSpec.vars false #[].toList 8 = some ([], [], places) :=
 ⟨[], by kernel_rfl⟩
theorem bulk0 {H : Type} {enc : TypeId × Value -> H} {W : World} {args : List Value} {ds gs : List (DataW H)} {before : List MemPlace} (hW : DataW.Whole enc Tryd.prog Tryd.f4.params.toList Rows.propInitialSpec.vars false W args ds gs before) : Rows.uptoBulkAll (ds ++ gs) <= 1048576 := by
 obtain ⟨p, q, hA, hV, rfl, _, _⟩ := hW
 rw [Tryd.params4] at hA
 obtain ⟨rfl, rfl, rfl⟩ := trodAll_nil hA
 obtain ⟨rfl, rfl⟩ := trodVars_none hV
 exact Nat.le_trans (Nat.le_of_eq (isBulk H).nil) (Nat.zero_le _)
theorem propInitial_lifted (os : Os) (started : os.Started) (H : Type) (enc : TypeId × Value -> H) (F : Stop.Interp) :
  ReturnsInHanded {} Tryd.checked os 4 .any ((OpenSpec.ofChange Rows.propInitialSpec).preRow enc Tryd.prog Tryd.f4 Rows.propInitialRow.domain false Rows.propInitialRow.laid) (((OpenSpec.ofChange Rows.propInitialSpec).at F).post enc Tryd.prog Tryd.f4 false true false false) := by
 obtain ⟨places, hx⟩ := propInitial_reads os enc
 refine returnsInHanded_of_row (C := Tryd.checked) (s := OpenSpec.ofChange Rows.propInitialSpec) own started (by kernel_rfl) Tryd.func4
  (witness_row_atRef (enc := enc) (C := Tryd.checked) false (laidWorld os) #[] rfl (by kernel_rfl) (by kernel_rfl) (by kernel_rfl)
   (OpenSpec.preRow_of_cond 8 hx (by kernel_rfl) (fun k hk => by cases hk) (by kernel_rfl) (laid3 os _).met)) ?_
 intro W base args ds gs before hval hW hA hcond hB hL hC hD
 have hL' : laidMet Tryd.prog Rows.propInitialRow.laid W := hL
 exact law_of (P := Tryd.prog) (hints := hints) (prim := primB) follows prim_okB (isBulk H) (ts := []) (by kernel_rfl) (fn := Tryd.f4) (f := 4) (bt := 4) (N := 1048576)
  (by kernel_rfl) (by kernel_rfl) laidOut rfl Tryd.underlying4 (s := Rows.propInitialSpec) rfl
  (fun l hl => by
   match l, hl with
   | [], _ => rfl) propInitial_ev (gok (Lib.laidMet.reads hL' (.head _)) (Lib.laidMet.reads hL' (.tail _ (.tail _ (.head _))))) hval hW (bulk0 hW)
theorem propInitial_fact10 : (Rows.propInitialRow.inPlace == Tryd.prog.inPlace 4) = true := by kernel_rfl
theorem propInitial_fact11 : (Rows.propInitialRow.unfollowed == Tryd.prog.unfollowed 4) = true := by kernel_rfl
theorem propInitial_fact12 : (Rows.propInitialRow.recurses == Tryd.prog.recurses 4) = true := by kernel_rfl
theorem propInitial_fact13 : (Rows.propInitialRow.named == Tryd.prog.varsNamed 4) = true := by kernel_rfl
theorem propInitial_facts : joinedFacts Tryd.prog 4 Tryd.f4 (OpenSpec.ofChange Rows.propInitialSpec).bare Rows.propInitialRow = true := by
 unfold joinedFacts
 refine and_tt (and_tt (and_tt (and_tt (and_tt (and_tt (and_tt (and_tt (and_tt (and_tt (and_tt (and_tt (and_tt (and_tt (and_tt (and_tt (and_tt (and_tt (and_tt (and_tt (and_tt (and_tt (and_tt (and_tt (and_tt (and_tt (and_tt (and_tt (and_tt (and_tt (and_tt ?_ fact2) fact3) ?_) ?_) ?_) fact7) ?_) fact9) propInitial_fact10) propInitial_fact11) propInitial_fact12) propInitial_fact13) ?_) ?_) ?_) ?_) ?_) ?_) ?_) ?_) ?_) fact23) ?_) fact25) fact26) fact27) fact28) ?_) ?_) ?_) ?_ <;> kernel_rfl
theorem propInitial_said : Rows.PropInitialSaid :=
 OpenClaim.holds_of_cond 4 Tryd.f4 rfl rfl rfl rfl rfl rfl rfl ⟨rfl, rfl, rfl, rfl, rfl⟩ rfl rfl rfl rfl rfl (by kernel_rfl) Tryd.func4 propInitial_facts
  (of_decide_eq_true (by kernel_rfl)) (by unfold Func.isWrapper; first | (rw [if_pos (by decide +kernel)]; kernel_rfl) | (rw [if_neg (by decide +kernel)]; exact ⟨rfl, rfl⟩))
  (fun os started H enc _ F => by rw [OpenClaim.pre_eq_preRow]; exact propInitial_lifted os started H enc F)
theorem propInitial_plain (f : FuncId) (fn : Func) (hf : Tryd.pinned.checked.prog.funcNamed Tryd.f4.name = some f) (hfn : Tryd.pinned.checked.prog.funcs[f]? = some fn) :
  false = Tryd.pinned.checked.prog.looks [] /\ ∀ (j : Nat) t, fn.params[j]? = some t -> Tryd.pinned.checked.prog.wantsStandIn t = false := by
 obtain rfl : f = 4 := Option.some.inj ((show Tryd.prog.funcNamed Tryd.f4.name = some 4 by kernel_rfl).symm.trans hf) |>.symm
 obtain rfl : fn = Tryd.f4 := (Option.some.inj (Tryd.func4.symm.trans hfn)).symm
 refine ⟨by kernel_rfl, fun j t ht => ?_⟩
 rw [Tryd.params4] at ht
 simp at ht
theorem propInitial_card : Rows.PropInitialCardSaid :=
 Claim7.holds_tied_plain_at .later [] _ _ _ _ propInitial_said (fun _ h => by cases h) (by kernel_rfl) (fun _ h => by cases h) propInitial_row_tie rfl ⟨rfl, rfl⟩ (by kernel_rfl) rfl propInitial_plain (by kernel_rfl)
end Go.Proofs.YtilpeaggmnomiaaDoor
