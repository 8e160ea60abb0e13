/- TokBytes answers true, whatever the bytes, where the arguments' bulk is at most 1048576 and the package's variables hold what their initialisers lay. -/
import Derived.Test.YtnfdhgadidacaaaGreatDoorCards
import Derived.Test.YtnfdhgadidacaaaGreatDoorTie
import Derived.Test.YtnfdhgadidacaaaGreatDoorRh
import Derived.Test.YtnfdhgadidacaaaGreatDoorRi
namespace Go.Proofs.YtnfdhgadidacaaaGreatDoor
open Go.Lift Go.Lift.R3 Go.ChangeShapes Go.WideShapes Go.ChangeAt Go.RowKit
set_option maxRecDepth 100000
set_option linter.unusedVariables false

theorem tokBytes_ev (vs : List V) (ht : TysV Tryz.prog Tryz.f4.params.toList vs) (hs : asizes vs ≤ 1048576) : E 0 4 vs [] = some (.v (.bool true), []) := by
  rw [Tryz.params4] at ht
  match vs, ht with
  | [v], ht =>
    obtain ⟨l, rfl, hl⟩ := ty28 ht.1
    exact Go.Lift.R3.f4 (by have := (sizes1 hs).1; omega) hl (Nat.zero_le _)

theorem tokBytes_reads (os : Os) {H : Type} (enc : TypeId × Value → H) : ∃ places, DataW.whole enc Tryz.prog ((laidWorld os).forCall (fun _ _ => 0) ⟨#[], #[.slice none 0 0], []⟩).memory Tryz.f4.params.toList Rows.tokBytesSpec.vars false #[Value.slice none 0 0].toList 8 = some ([.nil], [], places) :=
  ⟨[], by kernel_rfl⟩

theorem tokBytes_lifted (os : Os) (started : os.Started) (H : Type) (enc : TypeId × Value → H) (F : Stop.Interp) :
    ReturnsInHanded {} Tryz.checked os 4 .any ((Rows.OpenSpec.upto Rows.tokBytesSpec).preRow enc Tryz.prog Tryz.f4 Rows.tokBytesUptoRow.domain false Rows.tokBytesUptoRow.laid) (((Rows.OpenSpec.upto Rows.tokBytesSpec).at F).post enc Tryz.prog Tryz.f4 false true false false) := by
  obtain ⟨places, hx⟩ := tokBytes_reads os enc
  refine returnsInHanded_of_row (C := Tryz.checked) (s := Rows.OpenSpec.upto Rows.tokBytesSpec) own started (by kernel_rfl) Tryz.func4
    (witness_row_at (enc := enc) (C := Tryz.checked) false (laidWorld os) #[.slice none 0 0] rfl (by kernel_rfl) (by kernel_rfl) (by kernel_rfl)
      (OpenSpec.preRow_of_cond 8 hx (by kernel_rfl) (fun k hk => by cases hk; kernel_rfl) (by kernel_rfl) (laid3 os _).met)) ?_
  intro W base args ds gs before hval hW _ hcond _ hL _ _
  have hL' : laidMet Tryz.prog Rows.tokBytesUptoRow.laid W := hL
  exact law_of (P := Tryz.prog) (hints := hints) (prim := primz) follows prim_ok (isBulk H) (ts := [5, 28]) (by kernel_rfl) (fn := Tryz.f4) (f := 4) (bt := 4) (N := 1048576)
    (by kernel_rfl) (by kernel_rfl) laidOut rfl Tryz.underlying4 (s := Rows.tokBytesSpec) rfl
    (fun l hl => by
      match l, hl with
      | [d0], _ => rfl) tokBytes_ev (gok (Lib.laidMet.reads hL' (.tail _ (.head _))) (Lib.laidMet.reads hL' (.tail _ (.tail _ (.head _)))) (Lib.laidMet.reads hL' (.head _))) hval hW (of_decide_eq_true (hcond _ rfl))

theorem tokBytes_upto : Rows.TokBytesUptoSaid :=
  OpenClaim.holds_of_cond 4 Tryz.f4 rfl rfl rfl rfl rfl rfl rfl ⟨rfl, rfl, rfl, rfl, rfl⟩ rfl rfl rfl rfl rfl (by kernel_rfl) Tryz.func4 (by kernel_rfl)
    (of_decide_eq_true (by kernel_rfl)) (by unfold Func.isWrapper; first | (rw [if_pos (by decide +kernel)]; kernel_rfl) | (rw [if_neg (by decide +kernel)]; exact ⟨rfl, rfl⟩))
    (fun os started H enc _ F => by rw [OpenClaim.pre_eq_preRow]; exact tokBytes_lifted os started H enc F)

theorem tokBytes_plain (f : FuncId) (fn : Func) (hf : Tryz.pinned.checked.prog.funcNamed Tryz.f4.name = some f) (hfn : Tryz.pinned.checked.prog.funcs[f]? = some fn) :
    false = Tryz.pinned.checked.prog.looks [] ∧ ∀ (j : Nat) t, fn.params[j]? = some t → Tryz.pinned.checked.prog.wantsStandIn t = false := by
  obtain rfl : f = 4 := Option.some.inj ((show Tryz.prog.funcNamed Tryz.f4.name = some 4 by kernel_rfl).symm.trans hf) |>.symm
  obtain rfl : fn = Tryz.f4 := (Option.some.inj (Tryz.func4.symm.trans hfn)).symm
  refine ⟨by kernel_rfl, fun j t ht => ?_⟩
  rw [Tryz.params4] at ht
  obtain rfl : t = 28 := by simpa using Array.mem_of_getElem? ht
  exact (show Tryz.prog.wantsStandIn 28 = false by kernel_rfl)

theorem tokBytes_card : Rows.TokBytesUptoCardSaid :=
  Claim7.holds_tied_plain_at .later [] _ _ _ _ tokBytes_upto (fun _ h => by cases h) (by kernel_rfl) (fun _ h => by cases h) tokBytesUpto_row_tie rfl ⟨rfl, rfl⟩ (by kernel_rfl) rfl tokBytes_plain (by kernel_rfl)
end Go.Proofs.YtnfdhgadidacaaaGreatDoor
