/- PropKinds answers true, whatever the name and the component values, where the arguments' bulk is at most 1048576 and the package's variables hold what their initialisers lay. -/
import Derived.Test.YtnipmgpehgchnaaGreatDoorCards
import Derived.Test.YtnipmgpehgchnaaGreatDoorTie
import Derived.Test.YtnipmgpehgchnaaGreatDoorGKd
import Derived.Test.YtnipmgpehgchnaaGreatDoorGKe
set_option linter.unusedVariables false
set_option linter.unusedSimpArgs false
set_option linter.unusedSectionVars false
set_option maxRecDepth 100000
namespace Go.Proofs.YtnipmgpehgchnaaGreatDoor
open Go.Lift Go.Lift.V1 Go.ChangeShapes Go.WideShapes Go.ChangeAt Go.RowKit
theorem ty9 {v : V} {n : Nat} (h : TyV Tryz.prog 9 v) (hs : asize v <= n) : ∃ b : List Int, v = .v (.string (Rul.bs b)) /\ Utf.By b /\ b.length <= n := by
 match v, h with
 | .v (.string s), _ =>
  obtain ⟨l, hy, rfl, hl⟩ := any_bs s
  refine ⟨l, rfl, hy, ?_⟩
  simp only [asize, vsize] at hs
  omega
theorem propKinds_ev (vs : List V) (ht : TysV Tryz.prog Tryz.f6.params.toList vs) (hs : asizes vs <= 1048576) : E 0 6 vs [] = some (.v (.bool true), []) := by
 rw [Tryz.params6] at ht
 match vs, ht with
 | [v0, v1], ht =>
  have h0 : asize v0 + asize v1 <= 1048576 := by simp only [asizes] at hs; omega
  obtain ⟨b, rfl, hy, hl⟩ := ty9 (n := 1048576) ht.1 (by omega)
  obtain ⟨l, rfl, ho, hn⟩ := ty22w (n := 1048576) ht.2.1 (by omega) (Nat.le_refl _)
  exact Go.Lift.V1.f6 (Nat.le_refl _) hy (by omega) (by omega) ho
theorem propKinds_reads (os : Os) {H : Type} (enc : TypeId × Value -> H) : ∃ places, DataW.whole enc Tryz.prog ((laidWorld os).forCall (fun _ _ => 0) ⟨#[], #[Value.string ByteArray.empty, Value.slice none 0 0], []⟩).memory Tryz.f6.params.toList Rows.propKindsSpec.vars false #[Value.string ByteArray.empty, Value.slice none 0 0].toList 8 = some ([.lit (.string []), .nil], [], places) :=
 ⟨[], by kernel_rfl⟩
theorem propKinds_lifted (os : Os) (started : os.Started) (H : Type) (enc : TypeId × Value -> H) (F : Stop.Interp) :
  ReturnsInHanded {} Tryz.checked os 6 .any ((Rows.OpenSpec.upto Rows.propKindsSpec).preRow enc Tryz.prog Tryz.f6 Rows.propKindsUptoRow.domain false Rows.propKindsUptoRow.laid) (((Rows.OpenSpec.upto Rows.propKindsSpec).at F).post enc Tryz.prog Tryz.f6 false true false false) := by
 obtain ⟨places, hx⟩ := propKinds_reads os enc
 refine returnsInHanded_of_row (C := Tryz.checked) (s := Rows.OpenSpec.upto Rows.propKindsSpec) own started (by kernel_rfl) Tryz.func6
  (witness_row_atRef (enc := enc) (C := Tryz.checked) false (laidWorld os) #[Value.string ByteArray.empty, Value.slice none 0 0] rfl (by kernel_rfl) (by kernel_rfl) (by kernel_rfl)
   (OpenSpec.preRow_of_cond 8 hx (by kernel_rfl) (fun k hk => by cases hk; kernel_rfl) (by kernel_rfl) (laid3 os _).met)) ?_
 intro W base args ds gs before hval hW hA hcond hB hL hC hD
 have hL' : laidMet Tryz.prog Rows.propKindsUptoRow.laid W := hL
 exact law_of (P := Tryz.prog) (hints := hints) (prim := primz) follows prim_ok (isBulk H) (ts := [2, 3, 4, 9, 22, 28, 55, 57]) (by kernel_rfl) (fn := Tryz.f6) (f := 6) (bt := 4) (N := 1048576)
  (by kernel_rfl) (by kernel_rfl) laidOut rfl Tryz.underlying4 (s := Rows.propKindsSpec) rfl
  (fun l hl => by
   match l, hl with
   | [d0, d1], _ => rfl) propKinds_ev (gok (Lib.laidMet.reads hL' (.head _)) (Lib.laidMet.reads hL' (.tail _ (.tail _ (.head _))))) hval hW (of_decide_eq_true (hcond _ rfl))
theorem propKinds_fact10 : (Rows.propKindsUptoRow.inPlace == Tryz.prog.inPlace 6) = true := by kernel_rfl
theorem propKinds_fact11 : (Rows.propKindsUptoRow.unfollowed == Tryz.prog.unfollowed 6) = true := by kernel_rfl
theorem propKinds_fact12 : (Rows.propKindsUptoRow.recurses == Tryz.prog.recurses 6) = true := by kernel_rfl
theorem propKinds_fact13 : (Rows.propKindsUptoRow.named == Tryz.prog.varsNamed 6) = true := by kernel_rfl
theorem propKinds_facts : joinedFacts Tryz.prog 6 Tryz.f6 (Rows.OpenSpec.upto Rows.propKindsSpec).bare Rows.propKindsUptoRow = true := by
 unfold joinedFacts
 refine and_tt (and_tt (and_tt (and_tt (and_tt (and_tt (and_tt (and_tt (and_tt (and_tt (and_tt (and_tt (and_tt (and_tt (and_tt (and_tt (and_tt (and_tt (and_tt (and_tt (and_tt (and_tt (and_tt (and_tt (and_tt (and_tt (and_tt (and_tt (and_tt (and_tt (and_tt ?_ fact2) fact3) ?_) ?_) ?_) fact7) ?_) fact9) propKinds_fact10) propKinds_fact11) propKinds_fact12) propKinds_fact13) ?_) ?_) ?_) ?_) ?_) ?_) ?_) ?_) ?_) fact23) ?_) fact25) fact26) fact27) fact28) ?_) ?_) ?_) ?_ <;> kernel_rfl
theorem propKinds_upto : Rows.PropKindsUptoSaid :=
 OpenClaim.holds_of_cond 6 Tryz.f6 rfl rfl rfl rfl rfl rfl rfl ⟨rfl, rfl, rfl, rfl, rfl⟩ rfl rfl rfl rfl rfl (by kernel_rfl) Tryz.func6 propKinds_facts
  (of_decide_eq_true (by kernel_rfl)) (by unfold Func.isWrapper; first | (rw [if_pos (by decide +kernel)]; kernel_rfl) | (rw [if_neg (by decide +kernel)]; exact ⟨rfl, rfl⟩))
  (fun os started H enc _ F => by rw [OpenClaim.pre_eq_preRow]; exact propKinds_lifted os started H enc F)
theorem propKinds_plain (f : FuncId) (fn : Func) (hf : Tryz.pinned.checked.prog.funcNamed Tryz.f6.name = some f) (hfn : Tryz.pinned.checked.prog.funcs[f]? = some fn) :
  false = Tryz.pinned.checked.prog.looks [] /\ ∀ (j : Nat) t, fn.params[j]? = some t -> Tryz.pinned.checked.prog.wantsStandIn t = false := by
 obtain rfl : f = 6 := Option.some.inj ((show Tryz.prog.funcNamed Tryz.f6.name = some 6 by kernel_rfl).symm.trans hf) |>.symm
 obtain rfl : fn = Tryz.f6 := (Option.some.inj (Tryz.func6.symm.trans hfn)).symm
 refine ⟨by kernel_rfl, fun j t ht => ?_⟩
 rw [Tryz.params6] at ht
 match j, ht with
 | 0, ht => cases ht; exact (show Tryz.prog.wantsStandIn 9 = false by kernel_rfl)
 | 1, ht => cases ht; exact (show Tryz.prog.wantsStandIn 22 = false by kernel_rfl)
 | j + 2, ht => simp at ht
theorem propKinds_card : Rows.PropKindsUptoCardSaid :=
 Claim7.holds_tied_plain_at .later [] _ _ _ _ propKinds_upto (fun _ h => by cases h) (by kernel_rfl) (fun _ h => by cases h) propKindsUpto_row_tie rfl ⟨rfl, rfl⟩ (by kernel_rfl) rfl propKinds_plain (by kernel_rfl)
end Go.Proofs.YtnipmgpehgchnaaGreatDoor
