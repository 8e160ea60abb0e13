/- TokFew answers true, whatever the characters, where the arguments' bulk is at most 1048576 and the package's variables hold what their initialisers lay. -/
import Derived.Test.YtnfdhgadidacaaaDoorCards
import Derived.Test.YtnfdhgadidacaaaDoorTie
import Derived.Test.YtnfdhgadidacaaaDoorRj
import Derived.Test.YtnfdhgadidacaaaDoorRi
namespace Go.Proofs.YtnfdhgadidacaaaDoor
open Go.Lift Go.Lift.D3 Go.ChangeShapes Go.WideShapes Go.ChangeAt Go.RowKit
set_option maxRecDepth 100000
set_option linter.unusedVariables false

theorem tokFew_ev (vs : List V) (ht : TysV Tryd.prog Tryd.f3.params.toList vs) (hs : asizes vs ≤ 1048576) : E 0 3 vs [] = some (.v (.bool true), []) := by
  rw [Tryd.params3] at ht
  match vs, ht with
  | [v], ht =>
    obtain ⟨l, rfl, hl⟩ := ty22 ht.1
    exact Go.Lift.D3.f3 (by have := (sizes1 hs).1; omega) (Nat.zero_le _)

theorem tokFew_reads (os : Os) {H : Type} (enc : TypeId × Value → H) : ∃ places, DataW.whole enc Tryd.prog ((laidWorld os).forCall (fun _ _ => 0) ⟨#[], #[.slice none 0 0], []⟩).memory Tryd.f3.params.toList Rows.tokFewSpec.vars false #[Value.slice none 0 0].toList 8 = some ([.nil], [], places) :=
  ⟨[], by kernel_rfl⟩

theorem tokFew_lifted (os : Os) (started : os.Started) (H : Type) (enc : TypeId × Value → H) (F : Stop.Interp) :
    ReturnsInHanded {} Tryd.checked os 3 .any ((Rows.OpenSpec.upto Rows.tokFewSpec).preRow enc Tryd.prog Tryd.f3 Rows.tokFewUptoRow.domain false Rows.tokFewUptoRow.laid) (((Rows.OpenSpec.upto Rows.tokFewSpec).at F).post enc Tryd.prog Tryd.f3 false true false false) := by
  obtain ⟨places, hx⟩ := tokFew_reads os enc
  refine returnsInHanded_of_row (C := Tryd.checked) (s := Rows.OpenSpec.upto Rows.tokFewSpec) own started (by kernel_rfl) Tryd.func3
    (witness_row_at (enc := enc) (C := Tryd.checked) false (laidWorld os) #[.slice none 0 0] rfl (by kernel_rfl) (by kernel_rfl) (by kernel_rfl)
      (OpenSpec.preRow_of_cond 8 hx (by kernel_rfl) (fun k hk => by cases hk; kernel_rfl) (by kernel_rfl) (laid3 os _).met)) ?_
  intro W base args ds gs before hval hW _ hcond _ hL _ _
  have hL' : laidMet Tryd.prog Rows.tokFewUptoRow.laid W := hL
  exact law_of (P := Tryd.prog) (hints := hints) (prim := primz) follows prim_ok (isBulk H) (ts := [21, 22]) (by kernel_rfl) (fn := Tryd.f3) (f := 3) (bt := 4) (N := 1048576)
    (by kernel_rfl) (by kernel_rfl) laidOut rfl Tryd.underlying4 (s := Rows.tokFewSpec) rfl
    (fun l hl => by
      match l, hl with
      | [d0], _ => rfl) tokFew_ev (gok (Lib.laidMet.reads hL' (.tail _ (.head _))) (Lib.laidMet.reads hL' (.head _))) hval hW (of_decide_eq_true (hcond _ rfl))

theorem tokFew_upto : Rows.TokFewUptoSaid :=
  OpenClaim.holds_of_cond 3 Tryd.f3 rfl rfl rfl rfl rfl rfl rfl ⟨rfl, rfl, rfl, rfl, rfl⟩ rfl rfl rfl rfl rfl (by kernel_rfl) Tryd.func3 (by kernel_rfl)
    (of_decide_eq_true (by kernel_rfl)) (by unfold Func.isWrapper; first | (rw [if_pos (by decide +kernel)]; kernel_rfl) | (rw [if_neg (by decide +kernel)]; exact ⟨rfl, rfl⟩))
    (fun os started H enc _ F => by rw [OpenClaim.pre_eq_preRow]; exact tokFew_lifted os started H enc F)

theorem tokFew_plain (f : FuncId) (fn : Func) (hf : Tryd.pinned.checked.prog.funcNamed Tryd.f3.name = some f) (hfn : Tryd.pinned.checked.prog.funcs[f]? = some fn) :
    false = Tryd.pinned.checked.prog.looks [] ∧ ∀ (j : Nat) t, fn.params[j]? = some t → Tryd.pinned.checked.prog.wantsStandIn t = false := by
  obtain rfl : f = 3 := Option.some.inj ((show Tryd.prog.funcNamed Tryd.f3.name = some 3 by kernel_rfl).symm.trans hf) |>.symm
  obtain rfl : fn = Tryd.f3 := (Option.some.inj (Tryd.func3.symm.trans hfn)).symm
  refine ⟨by kernel_rfl, fun j t ht => ?_⟩
  rw [Tryd.params3] at ht
  obtain rfl : t = 22 := by simpa using Array.mem_of_getElem? ht
  exact (show Tryd.prog.wantsStandIn 22 = false by kernel_rfl)

theorem tokFew_card : Rows.TokFewUptoCardSaid :=
  Claim7.holds_tied_plain_at .later [] _ _ _ _ tokFew_upto (fun _ h => by cases h) (by kernel_rfl) (fun _ h => by cases h) tokFewUpto_row_tie rfl ⟨rfl, rfl⟩ (by kernel_rfl) rfl tokFew_plain (by kernel_rfl)
end Go.Proofs.YtnfdhgadidacaaaDoor
