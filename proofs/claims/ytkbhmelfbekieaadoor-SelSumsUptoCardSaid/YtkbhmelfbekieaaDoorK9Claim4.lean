/- SelSums answers true, whatever the selector, where the arguments' bulk is at most 1048576 and the package's variables hold what their initialisers lay. -/
import Derived.Test.YtkbhmelfbekieaaDoorCards
import Derived.Test.YtkbhmelfbekieaaDoorTie
import Derived.Test.YtkbhmelfbekieaaDoorGKc
set_option linter.unusedVariables false
set_option linter.unusedSimpArgs false
set_option linter.unusedSectionVars false
set_option maxRecDepth 100000
namespace Go.Proofs.YtkbhmelfbekieaaDoor
open Go.Lift Go.Lift.S9 Go.ChangeShapes Go.WideShapes Go.ChangeAt Go.RowKit
theorem selSums_ev [MX] (vs : List V) (ht : TysV Tryd.prog Tryd.f4.params.toList vs) (hs : asizes vs <= 1048576) : E 0 4 vs [] = some (.v (.bool true), []) := by
 rw [Tryd.params4] at ht
 match vs, ht with
 | [v0], ht =>
  have h0 : asize v0 <= 1048576 := by simp only [asizes] at hs; omega
  obtain ⟨l0, rfl, hB0, hl0⟩ := ty27 ht.1 h0 (Nat.le_refl _)
  exact Go.Lift.S9.f4 (by omega) hB0
theorem selSums_reads (os : Os) {H : Type} (enc : TypeId × Value -> H) : ∃ places, DataW.whole enc Tryd.prog ((laidWorld os).forCall (fun _ _ => 0) ⟨#[], #[Value.agg #[Value.slice none 0 0]], []⟩).memory Tryd.f4.params.toList Rows.selSumsSpec.vars false #[Value.agg #[Value.slice none 0 0]].toList 8 = some ([.agg [.nil]], [], places) :=
 ⟨[], by kernel_rfl⟩
theorem selSums_lifted (os : Os) (started : os.Started) (H : Type) (enc : TypeId × Value -> H) (F : Stop.Interp) :
  ReturnsInHanded {} Tryd.checked os 4 .any ((Rows.OpenSpec.upto Rows.selSumsSpec).preRow enc Tryd.prog Tryd.f4 Rows.selSumsUptoRow.domain false Rows.selSumsUptoRow.laid) (((Rows.OpenSpec.upto Rows.selSumsSpec).at F).post enc Tryd.prog Tryd.f4 false true false false) := by
 obtain ⟨places, hx⟩ := selSums_reads os enc
 refine returnsInHanded_of_row (C := Tryd.checked) (s := Rows.OpenSpec.upto Rows.selSumsSpec) own started (by kernel_rfl) Tryd.func4
  (witness_row_at (enc := enc) (C := Tryd.checked) false (laidWorld os) #[Value.agg #[Value.slice none 0 0]] rfl (by kernel_rfl) (by kernel_rfl) (by kernel_rfl)
   (OpenSpec.preRow_of_cond 8 hx (by kernel_rfl) (fun k hk => by cases hk; kernel_rfl) (by kernel_rfl) (laid1 os _).met)) ?_
 intro W base args ds gs before hval hW hA hcond hB hL hC hD
 have hL' : laidMet Tryd.prog Rows.selSumsUptoRow.laid W := hL
 obtain ⟨m, hm⟩ := Tryd.lays219.s1_3 W (by first | exact hB | exact hC | exact hD | assumption)
 letI : MX := ⟨m⟩
 exact law_of (P := Tryd.prog) (hints := hints) (prim := primz) follows prim_ok (isBulk H) (ts := [3, 4, 9, 22, 25, 27, 33, 35, 38]) (by kernel_rfl) (fn := Tryd.f4) (f := 4) (bt := 4) (N := 1048576)
  (by kernel_rfl) (by kernel_rfl) laidOut rfl Tryd.underlying4 (s := Rows.selSumsSpec) rfl
  (fun l hl => by
   match l, hl with
   | [d0], _ => rfl) selSums_ev (gok hm (Lib.laidMet.reads hL' (.head _))) hval hW (of_decide_eq_true (hcond _ rfl))
theorem selSums_fact10 : (Rows.selSumsUptoRow.inPlace == Tryd.prog.inPlace 4) = true := by kernel_rfl
theorem selSums_fact11 : (Rows.selSumsUptoRow.unfollowed == Tryd.prog.unfollowed 4) = true := by kernel_rfl
theorem selSums_fact12 : (Rows.selSumsUptoRow.recurses == Tryd.prog.recurses 4) = true := by kernel_rfl
theorem selSums_fact13 : (Rows.selSumsUptoRow.named == Tryd.prog.varsNamed 4) = true := by kernel_rfl
theorem selSums_facts : joinedFacts Tryd.prog 4 Tryd.f4 (Rows.OpenSpec.upto Rows.selSumsSpec).bare Rows.selSumsUptoRow = true := by
 unfold joinedFacts
 refine and_tt (and_tt (and_tt (and_tt (and_tt (and_tt (and_tt (and_tt (and_tt (and_tt (and_tt (and_tt (and_tt (and_tt (and_tt (and_tt (and_tt (and_tt (and_tt (and_tt (and_tt (and_tt (and_tt (and_tt (and_tt (and_tt (and_tt (and_tt (and_tt (and_tt (and_tt ?_ fact2) fact3) ?_) ?_) ?_) fact7) ?_) fact9) selSums_fact10) selSums_fact11) selSums_fact12) selSums_fact13) ?_) ?_) ?_) ?_) ?_) ?_) ?_) ?_) ?_) fact23) ?_) fact25) fact26) fact27) fact28) ?_) ?_) ?_) ?_ <;> kernel_rfl
theorem selSums_upto : Rows.SelSumsUptoSaid :=
 OpenClaim.holds_of_cond 4 Tryd.f4 rfl rfl rfl rfl rfl rfl rfl ⟨rfl, rfl, rfl, rfl, rfl⟩ rfl rfl rfl rfl rfl (by kernel_rfl) Tryd.func4 selSums_facts
  (of_decide_eq_true (by kernel_rfl)) (by unfold Func.isWrapper; first | (rw [if_pos (by decide +kernel)]; kernel_rfl) | (rw [if_neg (by decide +kernel)]; exact ⟨rfl, rfl⟩))
  (fun os started H enc _ F => by rw [OpenClaim.pre_eq_preRow]; exact selSums_lifted os started H enc F)
theorem selSums_plain (f : FuncId) (fn : Func) (hf : Tryd.pinned.checked.prog.funcNamed Tryd.f4.name = some f) (hfn : Tryd.pinned.checked.prog.funcs[f]? = some fn) :
  false = Tryd.pinned.checked.prog.looks [] /\ ∀ (j : Nat) t, fn.params[j]? = some t -> Tryd.pinned.checked.prog.wantsStandIn t = false := by
 obtain rfl : f = 4 := Option.some.inj ((show Tryd.prog.funcNamed Tryd.f4.name = some 4 by kernel_rfl).symm.trans hf) |>.symm
 obtain rfl : fn = Tryd.f4 := (Option.some.inj (Tryd.func4.symm.trans hfn)).symm
 refine ⟨by kernel_rfl, fun j t ht => ?_⟩
 rw [Tryd.params4] at ht
 obtain rfl : t = 27 := by simpa using Array.mem_of_getElem? ht
 exact (show Tryd.prog.wantsStandIn 27 = false by kernel_rfl)
theorem selSums_card : Rows.SelSumsUptoCardSaid :=
 Claim7.holds_tied_plain_at .later [] _ _ _ _ selSums_upto (fun _ h => by cases h) (by kernel_rfl) (fun _ h => by cases h) selSumsUpto_row_tie rfl ⟨rfl, rfl⟩ (by kernel_rfl) rfl selSums_plain (by kernel_rfl)
end Go.Proofs.YtkbhmelfbekieaaDoor
