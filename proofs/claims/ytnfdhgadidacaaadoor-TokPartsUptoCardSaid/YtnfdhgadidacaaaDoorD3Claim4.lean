/- TokParts answers true, whatever the bytes, where the arguments' bulk is at most 1048576 and the package's variables hold what their initialisers lay. -/
import Derived.Test.YtnfdhgadidacaaaDoorCards
import Derived.Test.YtnfdhgadidacaaaDoorTie
import Derived.Test.YtnfdhgadidacaaaDoorRk
import Derived.Test.YtnfdhgadidacaaaDoorRi
namespace Go.Proofs.YtnfdhgadidacaaaDoor
open Go.Lift Go.Lift.D3 Go.ChangeShapes Go.WideShapes Go.ChangeAt Go.RowKit
set_option maxRecDepth 100000
set_option linter.unusedVariables false

theorem tokParts_ev (vs : List V) (ht : TysV Tryd.prog Tryd.f4.params.toList vs) (hs : asizes vs ≤ 1048576) : E 0 4 vs [] = some (.v (.bool true), []) := by
  rw [Tryd.params4] at ht
  match vs, ht with
  | [v, u], ht =>
    obtain ⟨l, rfl, hl⟩ := ty31 ht.1
    obtain ⟨m, rfl, hm⟩ := ty31 ht.2.1
    have s1 := (sizes1 hs).1
    have s2 := (sizes1 (sizes1 hs).2).1
    exact Go.Lift.D3.f4 (by omega) hl (by omega) hm (Nat.zero_le _)

theorem tokParts_reads (os : Os) {H : Type} (enc : TypeId × Value → H) : ∃ places, DataW.whole enc Tryd.prog ((laidWorld os).forCall (fun _ _ => 0) ⟨#[], #[.slice none 0 0, .slice none 0 0], []⟩).memory Tryd.f4.params.toList Rows.tokPartsSpec.vars false #[Value.slice none 0 0, Value.slice none 0 0].toList 8 = some ([.nil, .nil], [], places) :=
  ⟨[], by kernel_rfl⟩

theorem tokParts_lifted (os : Os) (started : os.Started) (H : Type) (enc : TypeId × Value → H) (F : Stop.Interp) :
    ReturnsInHanded {} Tryd.checked os 4 .any ((Rows.OpenSpec.upto Rows.tokPartsSpec).preRow enc Tryd.prog Tryd.f4 Rows.tokPartsUptoRow.domain false Rows.tokPartsUptoRow.laid) (((Rows.OpenSpec.upto Rows.tokPartsSpec).at F).post enc Tryd.prog Tryd.f4 false true false false) := by
  obtain ⟨places, hx⟩ := tokParts_reads os enc
  refine returnsInHanded_of_row (C := Tryd.checked) (s := Rows.OpenSpec.upto Rows.tokPartsSpec) own started (by kernel_rfl) Tryd.func4
    (witness_row_at (enc := enc) (C := Tryd.checked) false (laidWorld os) #[.slice none 0 0, .slice none 0 0] rfl (by kernel_rfl) (by kernel_rfl) (by kernel_rfl)
      (OpenSpec.preRow_of_cond 8 hx (by kernel_rfl) (fun k hk => by cases hk; kernel_rfl) (by kernel_rfl) (laid3 os _).met)) ?_
  intro W base args ds gs before hval hW _ hcond _ hL _ _
  have hL' : laidMet Tryd.prog Rows.tokPartsUptoRow.laid W := hL
  exact law_of (P := Tryd.prog) (hints := hints) (prim := primz) follows prim_ok (isBulk H) (ts := [5, 31]) (by kernel_rfl) (fn := Tryd.f4) (f := 4) (bt := 4) (N := 1048576)
    (by kernel_rfl) (by kernel_rfl) laidOut rfl Tryd.underlying4 (s := Rows.tokPartsSpec) rfl
    (fun l hl => by
      match l, hl with
      | [d0, d1], _ => rfl) tokParts_ev (gok (Lib.laidMet.reads hL' (.tail _ (.head _))) (Lib.laidMet.reads hL' (.head _))) hval hW (of_decide_eq_true (hcond _ rfl))

theorem tokParts_upto : Rows.TokPartsUptoSaid :=
  OpenClaim.holds_of_cond 4 Tryd.f4 rfl rfl rfl rfl rfl rfl rfl ⟨rfl, rfl, rfl, rfl, rfl⟩ rfl rfl rfl rfl rfl (by kernel_rfl) Tryd.func4 (by kernel_rfl)
    (of_decide_eq_true (by kernel_rfl)) (by unfold Func.isWrapper; first | (rw [if_pos (by decide +kernel)]; kernel_rfl) | (rw [if_neg (by decide +kernel)]; exact ⟨rfl, rfl⟩))
    (fun os started H enc _ F => by rw [OpenClaim.pre_eq_preRow]; exact tokParts_lifted os started H enc F)

theorem tokParts_plain (f : FuncId) (fn : Func) (hf : Tryd.pinned.checked.prog.funcNamed Tryd.f4.name = some f) (hfn : Tryd.pinned.checked.prog.funcs[f]? = some fn) :
    false = Tryd.pinned.checked.prog.looks [] ∧ ∀ (j : Nat) t, fn.params[j]? = some t → Tryd.pinned.checked.prog.wantsStandIn t = false := by
  obtain rfl : f = 4 := Option.some.inj ((show Tryd.prog.funcNamed Tryd.f4.name = some 4 by kernel_rfl).symm.trans hf) |>.symm
  obtain rfl : fn = Tryd.f4 := (Option.some.inj (Tryd.func4.symm.trans hfn)).symm
  refine ⟨by kernel_rfl, fun j t ht => ?_⟩
  rw [Tryd.params4] at ht
  obtain rfl : t = 31 := by simpa using Array.mem_of_getElem? ht
  exact (show Tryd.prog.wantsStandIn 31 = false by kernel_rfl)

theorem tokParts_card : Rows.TokPartsUptoCardSaid :=
  Claim7.holds_tied_plain_at .later [] _ _ _ _ tokParts_upto (fun _ h => by cases h) (by kernel_rfl) (fun _ h => by cases h) tokPartsUpto_row_tie rfl ⟨rfl, rfl⟩ (by kernel_rfl) rfl tokParts_plain (by kernel_rfl)
end Go.Proofs.YtnfdhgadidacaaaDoor
