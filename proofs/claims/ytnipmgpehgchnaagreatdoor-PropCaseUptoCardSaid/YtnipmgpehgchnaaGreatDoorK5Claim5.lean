/- PropCase answers true, whatever the name and the component values, where the arguments' bulk is at most 1048576 and the package's variables hold what their initialisers lay. -/
import Derived.Test.YtnipmgpehgchnaaGreatDoorCards
import Derived.Test.YtnipmgpehgchnaaGreatDoorTie
import Derived.Test.YtnipmgpehgchnaaGreatDoorGKd
import Derived.Test.YtnipmgpehgchnaaGreatDoorGKe
set_option linter.unusedVariables false
set_option linter.unusedSimpArgs false
set_option linter.unusedSectionVars false
set_option maxRecDepth 100000
namespace Go.Proofs.YtnipmgpehgchnaaGreatDoor
open Go.Lift Go.Lift.V1 Go.ChangeShapes Go.WideShapes Go.ChangeAt Go.RowKit
theorem ty9 {v : V} {n : Nat} (h : TyV Tryz.prog 9 v) (hs : asize v <= n) : ∃ b : List Int, v = .v (.string (Rul.bs b)) /\ Utf.By b /\ b.length <= n := by
 match v, h with
 | .v (.string s), _ =>
  obtain ⟨l, hy, rfl, hl⟩ := any_bs s
  refine ⟨l, rfl, hy, ?_⟩
  simp only [asize, vsize] at hs
  omega
theorem propCase_ev (vs : List V) (ht : TysV Tryz.prog Tryz.f5.params.toList vs) (hs : asizes vs <= 1048576) : E 0 5 vs [] = some (.v (.bool true), []) := by
 rw [Tryz.params5] at ht
 match vs, ht with
 | [v0, v1], ht =>
  have h0 : asize v0 + asize v1 <= 1048576 := by simp only [asizes] at hs; omega
  obtain ⟨b, rfl, hy, hl⟩ := ty9 (n := 1048576) ht.1 (by omega)
  obtain ⟨l, rfl, ho, hn⟩ := ty22w (n := 1048576) ht.2.1 (by omega) (Nat.le_refl _)
  exact Go.Lift.V1.f5 (Nat.le_refl _) hy (by omega) (by omega) ho
theorem propCase_reads (os : Os) {H : Type} (enc : TypeId × Value -> H) : ∃ places, DataW.whole enc Tryz.prog ((laidWorld os).forCall (fun _ _ => 0) ⟨#[], #[Value.string ByteArray.empty, Value.slice none 0 0], []⟩).memory Tryz.f5.params.toList Rows.propCaseSpec.vars false #[Value.string ByteArray.empty, Value.slice none 0 0].toList 8 = some ([.lit (.string []), .nil], [], places) :=
 ⟨[], by kernel_rfl⟩
theorem propCase_lifted (os : Os) (started : os.Started) (H : Type) (enc : TypeId × Value -> H) (F : Stop.Interp) :
  ReturnsInHanded {} Tryz.checked os 5 .any ((Rows.OpenSpec.upto Rows.propCaseSpec).preRow enc Tryz.prog Tryz.f5 Rows.propCaseUptoRow.domain false Rows.propCaseUptoRow.laid) (((Rows.OpenSpec.upto Rows.propCaseSpec).at F).post enc Tryz.prog Tryz.f5 false true false false) := by
 obtain ⟨places, hx⟩ := propCase_reads os enc
 refine returnsInHanded_of_row (C := Tryz.checked) (s := Rows.OpenSpec.upto Rows.propCaseSpec) own started (by kernel_rfl) Tryz.func5
  (witness_row_atRef (enc := enc) (C := Tryz.checked) false (laidWorld os) #[Value.string ByteArray.empty, Value.slice none 0 0] rfl (by kernel_rfl) (by kernel_rfl) (by kernel_rfl)
   (OpenSpec.preRow_of_cond 8 hx (by kernel_rfl) (fun k hk => by cases hk; kernel_rfl) (by kernel_rfl) (laid3 os _).met)) ?_
 intro W base args ds gs before hval hW hA hcond hB hL hC hD
 have hL' : laidMet Tryz.prog Rows.propCaseUptoRow.laid W := hL
 exact law_of (P := Tryz.prog) (hints := hints) (prim := primz) follows prim_ok (isBulk H) (ts := [2, 3, 4, 9, 22, 28, 55, 57]) (by kernel_rfl) (fn := Tryz.f5) (f := 5) (bt := 4) (N := 1048576)
  (by kernel_rfl) (by kernel_rfl) laidOut rfl Tryz.underlying4 (s := Rows.propCaseSpec) rfl
  (fun l hl => by
   match l, hl with
   | [d0, d1], _ => rfl) propCase_ev (gok (Lib.laidMet.reads hL' (.head _)) (Lib.laidMet.reads hL' (.tail _ (.tail _ (.head _))))) hval hW (of_decide_eq_true (hcond _ rfl))
theorem propCase_fact10 : (Rows.propCaseUptoRow.inPlace == Tryz.prog.inPlace 5) = true := by kernel_rfl
theorem propCase_fact11 : (Rows.propCaseUptoRow.unfollowed == Tryz.prog.unfollowed 5) = true := by kernel_rfl
theorem propCase_fact12 : (Rows.propCaseUptoRow.recurses == Tryz.prog.recurses 5) = true := by kernel_rfl
theorem propCase_fact13 : (Rows.propCaseUptoRow.named == Tryz.prog.varsNamed 5) = true := by kernel_rfl
theorem propCase_facts : joinedFacts Tryz.prog 5 Tryz.f5 (Rows.OpenSpec.upto Rows.propCaseSpec).bare Rows.propCaseUptoRow = true := by
 unfold joinedFacts
 refine and_tt (and_tt (and_tt (and_tt (and_tt (and_tt (and_tt (and_tt (and_tt (and_tt (and_tt (and_tt (and_tt (and_tt (and_tt (and_tt (and_tt (and_tt (and_tt (and_tt (and_tt (and_tt (and_tt (and_tt (and_tt (and_tt (and_tt (and_tt (and_tt (and_tt (and_tt ?_ fact2) fact3) ?_) ?_) ?_) fact7) ?_) fact9) propCase_fact10) propCase_fact11) propCase_fact12) propCase_fact13) ?_) ?_) ?_) ?_) ?_) ?_) ?_) ?_) ?_) fact23) ?_) fact25) fact26) fact27) fact28) ?_) ?_) ?_) ?_ <;> kernel_rfl
theorem propCase_upto : Rows.PropCaseUptoSaid :=
 OpenClaim.holds_of_cond 5 Tryz.f5 rfl rfl rfl rfl rfl rfl rfl ⟨rfl, rfl, rfl, rfl, rfl⟩ rfl rfl rfl rfl rfl (by kernel_rfl) Tryz.func5 propCase_facts
  (of_decide_eq_true (by kernel_rfl)) (by unfold Func.isWrapper; first | (rw [if_pos (by decide +kernel)]; kernel_rfl) | (rw [if_neg (by decide +kernel)]; exact ⟨rfl, rfl⟩))
  (fun os started H enc _ F => by rw [OpenClaim.pre_eq_preRow]; exact propCase_lifted os started H enc F)
theorem propCase_plain (f : FuncId) (fn : Func) (hf : Tryz.pinned.checked.prog.funcNamed Tryz.f5.name = some f) (hfn : Tryz.pinned.checked.prog.funcs[f]? = some fn) :
  false = Tryz.pinned.checked.prog.looks [] /\ ∀ (j : Nat) t, fn.params[j]? = some t -> Tryz.pinned.checked.prog.wantsStandIn t = false := by
 obtain rfl : f = 5 := Option.some.inj ((show Tryz.prog.funcNamed Tryz.f5.name = some 5 by kernel_rfl).symm.trans hf) |>.symm
 obtain rfl : fn = Tryz.f5 := (Option.some.inj (Tryz.func5.symm.trans hfn)).symm
 refine ⟨by kernel_rfl, fun j t ht => ?_⟩
 rw [Tryz.params5] at ht
 match j, ht with
 | 0, ht => cases ht; exact (show Tryz.prog.wantsStandIn 9 = false by kernel_rfl)
 | 1, ht => cases ht; exact (show Tryz.prog.wantsStandIn 22 = false by kernel_rfl)
 | j + 2, ht => simp at ht
theorem propCase_card : Rows.PropCaseUptoCardSaid :=
 Claim7.holds_tied_plain_at .later [] _ _ _ _ propCase_upto (fun _ h => by cases h) (by kernel_rfl) (fun _ h => by cases h) propCaseUpto_row_tie rfl ⟨rfl, rfl⟩ (by kernel_rfl) rfl propCase_plain (by kernel_rfl)
end Go.Proofs.YtnipmgpehgchnaaGreatDoor
