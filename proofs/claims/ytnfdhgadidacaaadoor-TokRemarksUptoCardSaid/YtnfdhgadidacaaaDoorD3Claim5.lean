/- TokRemarks answers true, whatever the bytes, where the arguments' bulk is at most 1048576 and the package's variables hold what their initialisers lay. -/
import Derived.Test.YtnfdhgadidacaaaDoorCards
import Derived.Test.YtnfdhgadidacaaaDoorTie
import Derived.Test.YtnfdhgadidacaaaDoorRl
import Derived.Test.YtnfdhgadidacaaaDoorRi
namespace Go.Proofs.YtnfdhgadidacaaaDoor
open Go.Lift Go.Lift.D3 Go.ChangeShapes Go.WideShapes Go.ChangeAt Go.RowKit
set_option maxRecDepth 100000
set_option linter.unusedVariables false

theorem tokRemarks_ev (vs : List V) (ht : TysV Tryd.prog Tryd.f5.params.toList vs) (hs : asizes vs ≤ 1048576) : E 0 5 vs [] = some (.v (.bool true), []) := by
  rw [Tryd.params5] at ht
  match vs, ht with
  | [v, u, w], ht =>
    obtain ⟨l, rfl, hl⟩ := ty31 ht.1
    obtain ⟨m, rfl, hm⟩ := ty31 ht.2.1
    obtain ⟨k, rfl, hk⟩ := ty31 ht.2.2.1
    have s1 := (sizes1 hs).1
    have s2 := (sizes1 (sizes1 hs).2).1
    have s3 := (sizes1 (sizes1 (sizes1 hs).2).2).1
    exact Go.Lift.D3.f5 (by omega) hl (by omega) hm (by omega) hk (Nat.zero_le _)

theorem tokRemarks_reads (os : Os) {H : Type} (enc : TypeId × Value → H) : ∃ places, DataW.whole enc Tryd.prog ((laidWorld os).forCall (fun _ _ => 0) ⟨#[], #[.slice none 0 0, .slice none 0 0, .slice none 0 0], []⟩).memory Tryd.f5.params.toList Rows.tokRemarksSpec.vars false #[Value.slice none 0 0, Value.slice none 0 0, Value.slice none 0 0].toList 8 = some ([.nil, .nil, .nil], [], places) :=
  ⟨[], by kernel_rfl⟩

theorem tokRemarks_lifted (os : Os) (started : os.Started) (H : Type) (enc : TypeId × Value → H) (F : Stop.Interp) :
    ReturnsInHanded {} Tryd.checked os 5 .any ((Rows.OpenSpec.upto Rows.tokRemarksSpec).preRow enc Tryd.prog Tryd.f5 Rows.tokRemarksUptoRow.domain false Rows.tokRemarksUptoRow.laid) (((Rows.OpenSpec.upto Rows.tokRemarksSpec).at F).post enc Tryd.prog Tryd.f5 false true false false) := by
  obtain ⟨places, hx⟩ := tokRemarks_reads os enc
  refine returnsInHanded_of_row (C := Tryd.checked) (s := Rows.OpenSpec.upto Rows.tokRemarksSpec) own started (by kernel_rfl) Tryd.func5
    (witness_row_at (enc := enc) (C := Tryd.checked) false (laidWorld os) #[.slice none 0 0, .slice none 0 0, .slice none 0 0] rfl (by kernel_rfl) (by kernel_rfl) (by kernel_rfl)
      (OpenSpec.preRow_of_cond 8 hx (by kernel_rfl) (fun k hk => by cases hk; kernel_rfl) (by kernel_rfl) (laid3 os _).met)) ?_
  intro W base args ds gs before hval hW _ hcond _ hL _ _
  have hL' : laidMet Tryd.prog Rows.tokRemarksUptoRow.laid W := hL
  exact law_of (P := Tryd.prog) (hints := hints) (prim := primz) follows prim_ok (isBulk H) (ts := [5, 31]) (by kernel_rfl) (fn := Tryd.f5) (f := 5) (bt := 4) (N := 1048576)
    (by kernel_rfl) (by kernel_rfl) laidOut rfl Tryd.underlying4 (s := Rows.tokRemarksSpec) rfl
    (fun l hl => by
      match l, hl with
      | [d0, d1, d2], _ => rfl) tokRemarks_ev (gok (Lib.laidMet.reads hL' (.tail _ (.head _))) (Lib.laidMet.reads hL' (.head _))) hval hW (of_decide_eq_true (hcond _ rfl))

theorem tokRemarks_upto : Rows.TokRemarksUptoSaid :=
  OpenClaim.holds_of_cond 5 Tryd.f5 rfl rfl rfl rfl rfl rfl rfl ⟨rfl, rfl, rfl, rfl, rfl⟩ rfl rfl rfl rfl rfl (by kernel_rfl) Tryd.func5 (by kernel_rfl)
    (of_decide_eq_true (by kernel_rfl)) (by unfold Func.isWrapper; first | (rw [if_pos (by decide +kernel)]; kernel_rfl) | (rw [if_neg (by decide +kernel)]; exact ⟨rfl, rfl⟩))
    (fun os started H enc _ F => by rw [OpenClaim.pre_eq_preRow]; exact tokRemarks_lifted os started H enc F)

theorem tokRemarks_plain (f : FuncId) (fn : Func) (hf : Tryd.pinned.checked.prog.funcNamed Tryd.f5.name = some f) (hfn : Tryd.pinned.checked.prog.funcs[f]? = some fn) :
    false = Tryd.pinned.checked.prog.looks [] ∧ ∀ (j : Nat) t, fn.params[j]? = some t → Tryd.pinned.checked.prog.wantsStandIn t = false := by
  obtain rfl : f = 5 := Option.some.inj ((show Tryd.prog.funcNamed Tryd.f5.name = some 5 by kernel_rfl).symm.trans hf) |>.symm
  obtain rfl : fn = Tryd.f5 := (Option.some.inj (Tryd.func5.symm.trans hfn)).symm
  refine ⟨by kernel_rfl, fun j t ht => ?_⟩
  rw [Tryd.params5] at ht
  obtain rfl : t = 31 := by simpa using Array.mem_of_getElem? ht
  exact (show Tryd.prog.wantsStandIn 31 = false by kernel_rfl)

theorem tokRemarks_card : Rows.TokRemarksUptoCardSaid :=
  Claim7.holds_tied_plain_at .later [] _ _ _ _ tokRemarks_upto (fun _ h => by cases h) (by kernel_rfl) (fun _ h => by cases h) tokRemarksUpto_row_tie rfl ⟨rfl, rfl⟩ (by kernel_rfl) rfl tokRemarks_plain (by kernel_rfl)
end Go.Proofs.YtnfdhgadidacaaaDoor
