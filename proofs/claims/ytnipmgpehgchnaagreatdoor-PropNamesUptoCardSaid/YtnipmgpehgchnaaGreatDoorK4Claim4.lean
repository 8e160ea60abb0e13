/- PropNames answers true, whatever the name, where the arguments' bulk is at most 1048576 and the package's variables hold what their initialisers lay. -/
import Derived.Test.YtnipmgpehgchnaaGreatDoorCards
import Derived.Test.YtnipmgpehgchnaaGreatDoorTie
import Derived.Test.YtnipmgpehgchnaaGreatDoorGKb
set_option linter.unusedVariables false
set_option linter.unusedSimpArgs false
set_option linter.unusedSectionVars false
set_option maxRecDepth 100000
namespace Go.Proofs.YtnipmgpehgchnaaGreatDoor
open Go.Lift Go.Lift.V1 Go.ChangeShapes Go.WideShapes Go.ChangeAt Go.RowKit
theorem ty9 {v : V} {n : Nat} (h : TyV Tryz.prog 9 v) (hs : asize v <= n) : ∃ b : List Int, v = .v (.string (Rul.bs b)) /\ Utf.By b /\ b.length <= n := by
 match v, h with
 | .v (.string s), _ =>
  obtain ⟨l, hy, rfl, hl⟩ := any_bs s
  refine ⟨l, rfl, hy, ?_⟩
  simp only [asize, vsize] at hs
  omega
theorem propNames_ev (vs : List V) (ht : TysV Tryz.prog Tryz.f4.params.toList vs) (hs : asizes vs <= 1048576) : E 0 4 vs [] = some (.v (.bool true), []) := by
 rw [Tryz.params4] at ht
 match vs, ht with
 | [v0], ht =>
  have h0 : asize v0 <= 1048576 := by simp only [asizes] at hs; omega
  obtain ⟨b, rfl, hy, hl⟩ := ty9 ht.1 h0
  exact Go.Lift.V1.f4 (Nat.le_refl _) hy (by omega)
theorem propNames_reads (os : Os) {H : Type} (enc : TypeId × Value -> H) : ∃ places, DataW.whole enc Tryz.prog ((laidWorld os).forCall (fun _ _ => 0) ⟨#[], #[Value.string ByteArray.empty], []⟩).memory Tryz.f4.params.toList Rows.propNamesSpec.vars false #[Value.string ByteArray.empty].toList 8 = some ([.lit (.string [])], [], places) :=
 ⟨[], by kernel_rfl⟩
theorem propNames_lifted (os : Os) (started : os.Started) (H : Type) (enc : TypeId × Value -> H) (F : Stop.Interp) :
  ReturnsInHanded {} Tryz.checked os 4 .any ((Rows.OpenSpec.upto Rows.propNamesSpec).preRow enc Tryz.prog Tryz.f4 Rows.propNamesUptoRow.domain false Rows.propNamesUptoRow.laid) (((Rows.OpenSpec.upto Rows.propNamesSpec).at F).post enc Tryz.prog Tryz.f4 false true false false) := by
 obtain ⟨places, hx⟩ := propNames_reads os enc
 refine returnsInHanded_of_row (C := Tryz.checked) (s := Rows.OpenSpec.upto Rows.propNamesSpec) own started (by kernel_rfl) Tryz.func4
  (witness_row_atRef (enc := enc) (C := Tryz.checked) false (laidWorld os) #[Value.string ByteArray.empty] rfl (by kernel_rfl) (by kernel_rfl) (by kernel_rfl)
   (OpenSpec.preRow_of_cond 8 hx (by kernel_rfl) (fun k hk => by cases hk; kernel_rfl) (by kernel_rfl) (laid3 os _).met)) ?_
 intro W base args ds gs before hval hW hA hcond hB hL hC hD
 have hL' : laidMet Tryz.prog Rows.propNamesUptoRow.laid W := hL
 exact law_of (P := Tryz.prog) (hints := hints) (prim := primz) follows prim_ok (isBulk H) (ts := [9]) (by kernel_rfl) (fn := Tryz.f4) (f := 4) (bt := 4) (N := 1048576)
  (by kernel_rfl) (by kernel_rfl) laidOut rfl Tryz.underlying4 (s := Rows.propNamesSpec) rfl
  (fun l hl => by
   match l, hl with
   | [d0], _ => rfl) propNames_ev (gok (Lib.laidMet.reads hL' (.head _)) (Lib.laidMet.reads hL' (.tail _ (.tail _ (.head _))))) hval hW (of_decide_eq_true (hcond _ rfl))
theorem propNames_fact10 : (Rows.propNamesUptoRow.inPlace == Tryz.prog.inPlace 4) = true := by kernel_rfl
theorem propNames_fact11 : (Rows.propNamesUptoRow.unfollowed == Tryz.prog.unfollowed 4) = true := by kernel_rfl
theorem propNames_fact12 : (Rows.propNamesUptoRow.recurses == Tryz.prog.recurses 4) = true := by kernel_rfl
theorem propNames_fact13 : (Rows.propNamesUptoRow.named == Tryz.prog.varsNamed 4) = true := by kernel_rfl
theorem propNames_facts : joinedFacts Tryz.prog 4 Tryz.f4 (Rows.OpenSpec.upto Rows.propNamesSpec).bare Rows.propNamesUptoRow = true := by
 unfold joinedFacts
 refine and_tt (and_tt (and_tt (and_tt (and_tt (and_tt (and_tt (and_tt (and_tt (and_tt (and_tt (and_tt (and_tt (and_tt (and_tt (and_tt (and_tt (and_tt (and_tt (and_tt (and_tt (and_tt (and_tt (and_tt (and_tt (and_tt (and_tt (and_tt (and_tt (and_tt (and_tt ?_ fact2) fact3) ?_) ?_) ?_) fact7) ?_) fact9) propNames_fact10) propNames_fact11) propNames_fact12) propNames_fact13) ?_) ?_) ?_) ?_) ?_) ?_) ?_) ?_) ?_) fact23) ?_) fact25) fact26) fact27) fact28) ?_) ?_) ?_) ?_ <;> kernel_rfl
theorem propNames_upto : Rows.PropNamesUptoSaid :=
 OpenClaim.holds_of_cond 4 Tryz.f4 rfl rfl rfl rfl rfl rfl rfl ⟨rfl, rfl, rfl, rfl, rfl⟩ rfl rfl rfl rfl rfl (by kernel_rfl) Tryz.func4 propNames_facts
  (of_decide_eq_true (by kernel_rfl)) (by unfold Func.isWrapper; first | (rw [if_pos (by decide +kernel)]; kernel_rfl) | (rw [if_neg (by decide +kernel)]; exact ⟨rfl, rfl⟩))
  (fun os started H enc _ F => by rw [OpenClaim.pre_eq_preRow]; exact propNames_lifted os started H enc F)
theorem propNames_plain (f : FuncId) (fn : Func) (hf : Tryz.pinned.checked.prog.funcNamed Tryz.f4.name = some f) (hfn : Tryz.pinned.checked.prog.funcs[f]? = some fn) :
  false = Tryz.pinned.checked.prog.looks [] /\ ∀ (j : Nat) t, fn.params[j]? = some t -> Tryz.pinned.checked.prog.wantsStandIn t = false := by
 obtain rfl : f = 4 := Option.some.inj ((show Tryz.prog.funcNamed Tryz.f4.name = some 4 by kernel_rfl).symm.trans hf) |>.symm
 obtain rfl : fn = Tryz.f4 := (Option.some.inj (Tryz.func4.symm.trans hfn)).symm
 refine ⟨by kernel_rfl, fun j t ht => ?_⟩
 rw [Tryz.params4] at ht
 obtain rfl : t = 9 := by simpa using Array.mem_of_getElem? ht
 exact (show Tryz.prog.wantsStandIn 9 = false by kernel_rfl)
theorem propNames_card : Rows.PropNamesUptoCardSaid :=
 Claim7.holds_tied_plain_at .later [] _ _ _ _ propNames_upto (fun _ h => by cases h) (by kernel_rfl) (fun _ h => by cases h) propNamesUpto_row_tie rfl ⟨rfl, rfl⟩ (by kernel_rfl) rfl propNames_plain (by kernel_rfl)
end Go.Proofs.YtnipmgpehgchnaaGreatDoor
