/- SelLists answers true, whatever the component values, where the arguments' bulk is at most 1048576 and the package's variables hold what their initialisers lay. -/
import Derived.Test.YthjkocamddljiaaDoorCards
import Derived.Test.YthjkocamddljiaaDoorTie
import Derived.Test.YthjkocamddljiaaDoorGKe
set_option linter.unusedVariables false
set_option linter.unusedSimpArgs false
set_option linter.unusedSectionVars false
set_option maxRecDepth 100000
namespace Go.Proofs.YthjkocamddljiaaDoor
open Go.Lift Go.Lift.Q1 Go.ChangeShapes Go.WideShapes Go.ChangeAt Go.RowKit
theorem selLists_ev [MX] (vs : List V) (ht : TysV Tryd.prog Tryd.f3.params.toList vs) (hs : asizes vs <= 1048576) : E 0 3 vs [] = some (.v (.bool true), []) := by
 rw [Tryd.params3] at ht
 match vs, ht with
 | [v0], ht =>
  have h0 : asize v0 <= 1048576 := by simp only [asizes] at hs; omega
  obtain ⟨l0, rfl, hB0, hl0⟩ := ty22 ht.1 h0 (Nat.le_refl _)
  exact Go.Lift.Q1.f3 (by omega) hB0
theorem selLists_reads (os : Os) {H : Type} (enc : TypeId × Value -> H) : ∃ places, DataW.whole enc Tryd.prog ((laidWorld os).forCall (fun _ _ => 0) ⟨#[], #[Value.slice none 0 0], []⟩).memory Tryd.f3.params.toList Rows.selListsSpec.vars false #[Value.slice none 0 0].toList 8 = some ([.nil], [], places) :=
 ⟨[], by kernel_rfl⟩
theorem selLists_lifted (os : Os) (started : os.Started) (H : Type) (enc : TypeId × Value -> H) (F : Stop.Interp) :
  ReturnsInHanded {} Tryd.checked os 3 .any ((Rows.OpenSpec.upto Rows.selListsSpec).preRow enc Tryd.prog Tryd.f3 Rows.selListsUptoRow.domain false Rows.selListsUptoRow.laid) (((Rows.OpenSpec.upto Rows.selListsSpec).at F).post enc Tryd.prog Tryd.f3 false true false false) := by
 obtain ⟨places, hx⟩ := selLists_reads os enc
 refine returnsInHanded_of_row (C := Tryd.checked) (s := Rows.OpenSpec.upto Rows.selListsSpec) own started (by kernel_rfl) Tryd.func3
  (witness_row_at (enc := enc) (C := Tryd.checked) false (laidWorld os) #[Value.slice none 0 0] rfl (by kernel_rfl) (by kernel_rfl) (by kernel_rfl)
   (OpenSpec.preRow_of_cond 8 hx (by kernel_rfl) (fun k hk => by cases hk; kernel_rfl) (by kernel_rfl) (laid1 os _).met)) ?_
 intro W base args ds gs before hval hW hA hcond hB hL hC hD
 have hL' : laidMet Tryd.prog Rows.selListsUptoRow.laid W := hL
 obtain ⟨m, hm⟩ := Tryd.lays219.s1_3 W (by first | exact hB | exact hC | exact hD | assumption)
 letI : MX := ⟨m⟩
 exact law_of (P := Tryd.prog) (hints := hints) (prim := primz) follows prim_ok (isBulk H) (ts := [2, 3, 4, 9, 22, 44, 46, 48]) (by kernel_rfl) (fn := Tryd.f3) (f := 3) (bt := 4) (N := 1048576)
  (by kernel_rfl) (by kernel_rfl) laidOut rfl Tryd.underlying4 (s := Rows.selListsSpec) rfl
  (fun l hl => by
   match l, hl with
   | [d0], _ => rfl) selLists_ev (gok hm (Lib.laidMet.reads hL' (.head _))) hval hW (of_decide_eq_true (hcond _ rfl))
theorem selLists_fact10 : (Rows.selListsUptoRow.inPlace == Tryd.prog.inPlace 3) = true := by kernel_rfl
theorem selLists_fact11 : (Rows.selListsUptoRow.unfollowed == Tryd.prog.unfollowed 3) = true := by kernel_rfl
theorem selLists_fact12 : (Rows.selListsUptoRow.recurses == Tryd.prog.recurses 3) = true := by kernel_rfl
theorem selLists_fact13 : (Rows.selListsUptoRow.named == Tryd.prog.varsNamed 3) = true := by kernel_rfl
theorem selLists_facts : joinedFacts Tryd.prog 3 Tryd.f3 (Rows.OpenSpec.upto Rows.selListsSpec).bare Rows.selListsUptoRow = true := by
 unfold joinedFacts
 refine and_tt (and_tt (and_tt (and_tt (and_tt (and_tt (and_tt (and_tt (and_tt (and_tt (and_tt (and_tt (and_tt (and_tt (and_tt (and_tt (and_tt (and_tt (and_tt (and_tt (and_tt (and_tt (and_tt (and_tt (and_tt (and_tt (and_tt (and_tt (and_tt (and_tt (and_tt ?_ fact2) fact3) ?_) ?_) ?_) fact7) ?_) fact9) selLists_fact10) selLists_fact11) selLists_fact12) selLists_fact13) ?_) ?_) ?_) ?_) ?_) ?_) ?_) ?_) ?_) fact23) ?_) fact25) fact26) fact27) fact28) ?_) ?_) ?_) ?_ <;> kernel_rfl
theorem selLists_upto : Rows.SelListsUptoSaid :=
 OpenClaim.holds_of_cond 3 Tryd.f3 rfl rfl rfl rfl rfl rfl rfl ⟨rfl, rfl, rfl, rfl, rfl⟩ rfl rfl rfl rfl rfl (by kernel_rfl) Tryd.func3 selLists_facts
  (of_decide_eq_true (by kernel_rfl)) (by unfold Func.isWrapper; first | (rw [if_pos (by decide +kernel)]; kernel_rfl) | (rw [if_neg (by decide +kernel)]; exact ⟨rfl, rfl⟩))
  (fun os started H enc _ F => by rw [OpenClaim.pre_eq_preRow]; exact selLists_lifted os started H enc F)
theorem selLists_plain (f : FuncId) (fn : Func) (hf : Tryd.pinned.checked.prog.funcNamed Tryd.f3.name = some f) (hfn : Tryd.pinned.checked.prog.funcs[f]? = some fn) :
  false = Tryd.pinned.checked.prog.looks [] /\ ∀ (j : Nat) t, fn.params[j]? = some t -> Tryd.pinned.checked.prog.wantsStandIn t = false := by
 obtain rfl : f = 3 := Option.some.inj ((show Tryd.prog.funcNamed Tryd.f3.name = some 3 by kernel_rfl).symm.trans hf) |>.symm
 obtain rfl : fn = Tryd.f3 := (Option.some.inj (Tryd.func3.symm.trans hfn)).symm
 refine ⟨by kernel_rfl, fun j t ht => ?_⟩
 rw [Tryd.params3] at ht
 obtain rfl : t = 22 := by simpa using Array.mem_of_getElem? ht
 exact (show Tryd.prog.wantsStandIn 22 = false by kernel_rfl)
theorem selLists_card : Rows.SelListsUptoCardSaid :=
 Claim7.holds_tied_plain_at .later [] _ _ _ _ selLists_upto (fun _ h => by cases h) (by kernel_rfl) (fun _ h => by cases h) selListsUpto_row_tie rfl ⟨rfl, rfl⟩ (by kernel_rfl) rfl selLists_plain (by kernel_rfl)
end Go.Proofs.YthjkocamddljiaaDoor
