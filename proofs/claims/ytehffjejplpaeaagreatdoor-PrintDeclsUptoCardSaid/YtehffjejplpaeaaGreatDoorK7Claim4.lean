/- PrintDecls answers true, whatever the declarations, where the arguments' bulk is at most 1048576 and the package's variables hold what their initialisers lay. -/
import Derived.Test.YtehffjejplpaeaaGreatDoorCards
import Derived.Test.YtehffjejplpaeaaGreatDoorTie
import Derived.Test.YtehffjejplpaeaaGreatDoorGKg
import Derived.Test.YtehffjejplpaeaaGreatDoorGKh
set_option linter.unusedVariables false
set_option linter.unusedSimpArgs false
set_option linter.unusedSectionVars false
namespace Go.Proofs.YtehffjejplpaeaaGreatDoor
open Go.Lift Go.Lift.P7 Go.ChangeShapes Go.WideShapes Go.ChangeAt Go.RowKit
set_option maxRecDepth 100000
theorem printDecls_ev [MX] (vs : List V) (ht : TysV Tryz.prog Tryz.f4.params.toList vs) (hs : asizes vs ≤ 1048576) : E 0 4 vs [] = some (.v (.bool true), []) := by
 rw [Tryz.params4] at ht
 match vs, ht with
 | [v], ht =>
  have h1 : asize v ≤ 1048576 := by simp only [asizes] at hs; omega
  obtain ⟨l, rfl, hl, hok, hc⟩ := ty28 ht.1 h1 (Nat.le_refl _)
  exact Go.Lift.P7.f4 (Nat.zero_le _) (by omega) hok (by omega)
theorem printDecls_reads (os : Os) {H : Type} (enc : TypeId × Value → H) : ∃ places, DataW.whole enc Tryz.prog ((laidWorld os).forCall (fun _ _ => 0) ⟨#[], #[Value.slice none 0 0], []⟩).memory Tryz.f4.params.toList Rows.printDeclsSpec.vars false #[Value.slice none 0 0].toList 8 = some ([.nil], [], places) :=
 ⟨[], by kernel_rfl⟩
theorem printDecls_lifted (os : Os) (started : os.Started) (H : Type) (enc : TypeId × Value → H) (F : Stop.Interp) :
  ReturnsInHanded {} Tryz.checked os 4 .any ((Rows.OpenSpec.upto Rows.printDeclsSpec).preRow enc Tryz.prog Tryz.f4 Rows.printDeclsUptoRow.domain false Rows.printDeclsUptoRow.laid) (((Rows.OpenSpec.upto Rows.printDeclsSpec).at F).post enc Tryz.prog Tryz.f4 false true false false) := by
 obtain ⟨places, hx⟩ := printDecls_reads os enc
 refine returnsInHanded_of_row (C := Tryz.checked) (s := Rows.OpenSpec.upto Rows.printDeclsSpec) own started (by kernel_rfl) Tryz.func4
  (witness_row_at (enc := enc) (C := Tryz.checked) false (laidWorld os) #[Value.slice none 0 0] rfl (by kernel_rfl) (by kernel_rfl) (by kernel_rfl)
   (OpenSpec.preRow_of_cond 8 hx (by kernel_rfl) (fun k hk => by cases hk; kernel_rfl) (by kernel_rfl) (laid5 os _).met)) ?_
 intro W base args ds gs before hval hW hA hcond hB hL hC hD
 have hL' : laidMet Tryz.prog Rows.printDeclsUptoRow.laid W := hL
 obtain ⟨m, hm⟩ := Tryz.lays219.s1_3 W (by first | exact hB | exact hC | exact hD | assumption)
 letI : MX := ⟨m⟩
 exact law_of (P := Tryz.prog) (hints := hints) (prim := primz) follows prim_ok (isBulk H) (ts := [2, 3, 4, 9, 22, 28, 38, 40, 42, 44]) (by kernel_rfl) (fn := Tryz.f4) (f := 4) (bt := 4) (N := 1048576)
  (by kernel_rfl) (by kernel_rfl) laidOut rfl Tryz.underlying4 (s := Rows.printDeclsSpec) rfl
  (fun l hl => by
   match l, hl with
   | [d0], _ => rfl) printDecls_ev (gok hm (Lib.laidMet.reads hL' (.tail _ (.head _))) (Lib.laidMet.reads hL' (.tail _ (.tail _ (.head _)))) (Lib.laidMet.reads hL' (.tail _ (.tail _ (.tail _ (.tail _ (.head _)))))) (Lib.laidMet.reads hL' (.tail _ (.tail _ (.tail _ (.head _)))))) hval hW (of_decide_eq_true (hcond _ rfl))
theorem printDecls_upto : Rows.PrintDeclsUptoSaid :=
 OpenClaim.holds_of_cond 4 Tryz.f4 rfl rfl rfl rfl rfl rfl rfl ⟨rfl, rfl, rfl, rfl, rfl⟩ rfl rfl rfl rfl rfl (by kernel_rfl) Tryz.func4 (by kernel_rfl)
  (of_decide_eq_true (by kernel_rfl)) (by unfold Func.isWrapper; first | (rw [if_pos (by decide +kernel)]; kernel_rfl) | (rw [if_neg (by decide +kernel)]; exact ⟨rfl, rfl⟩))
  (fun os started H enc _ F => by rw [OpenClaim.pre_eq_preRow]; exact printDecls_lifted os started H enc F)
theorem printDecls_plain (f : FuncId) (fn : Func) (hf : Tryz.pinned.checked.prog.funcNamed Tryz.f4.name = some f) (hfn : Tryz.pinned.checked.prog.funcs[f]? = some fn) :
  false = Tryz.pinned.checked.prog.looks [] ∧ ∀ (j : Nat) t, fn.params[j]? = some t → Tryz.pinned.checked.prog.wantsStandIn t = false := by
 obtain rfl : f = 4 := Option.some.inj ((show Tryz.prog.funcNamed Tryz.f4.name = some 4 by kernel_rfl).symm.trans hf) |>.symm
 obtain rfl : fn = Tryz.f4 := (Option.some.inj (Tryz.func4.symm.trans hfn)).symm
 refine ⟨by kernel_rfl, fun j t ht => ?_⟩
 rw [Tryz.params4] at ht
 obtain rfl : t = 28 := by simpa using Array.mem_of_getElem? ht
 exact (show Tryz.prog.wantsStandIn 28 = false by kernel_rfl)
theorem printDecls_card : Rows.PrintDeclsUptoCardSaid :=
 Claim7.holds_tied_plain_at .later [] _ _ _ _ printDecls_upto (fun _ h => by cases h) (by kernel_rfl) (fun _ h => by cases h) printDeclsUpto_row_tie rfl ⟨rfl, rfl⟩ (by kernel_rfl) rfl printDecls_plain (by kernel_rfl)
end Go.Proofs.YtehffjejplpaeaaGreatDoor
