/- TokStarts answers true, whatever the characters, where the arguments' bulk is at most 1048576. -/
import Derived.Test.YtedlleekcinbcaaR1Tok2
import Derived.Test.YtedlleekcinbcaaR1Open
namespace Go.Proofs.Ytedlleekcinbcaa
open Go.Lift Go.Lift.R1 Go.ChangeShapes Go.WideShapes Go.ChangeAt Go.RowKit
set_option maxRecDepth 100000

theorem tokStarts_ev (vs : List V) (ht : TysV Try.prog Try.f4.params.toList vs) (hs : asizes vs ≤ 1048576) : E 0 4 vs [] = some (.v (.bool true), []) := by
  rw [Try.params4] at ht
  match vs, ht with
  | [v], ht =>
    obtain ⟨l, rfl, hl⟩ := ty22 ht.1
    exact Go.Lift.R1.f4 (Nat.zero_le _) (sizes1 hs).1

theorem tokStarts_lifted (os : Os) (started : os.Started) (H : Type) (enc : TypeId × Value → H) (F : Stop.Interp) :
    ReturnsInHanded {} Try.checked os 4 .any ((Rows.OpenSpec.upto Rows.tokStartsSpec).pre6 enc Try.prog Try.f4 Rows.tokStartsUptoRow.domain false) (((Rows.OpenSpec.upto Rows.tokStartsSpec).at F).post enc Try.prog Try.f4 false true false false) := by
  refine returnsInHanded_of_cond (C := Try.checked) (s := Rows.OpenSpec.upto Rows.tokStartsSpec) (k := Rows.uptoSmall) rfl own started (by kernel_rfl) Try.func4
    (OpenSpec.witness (enc := enc) (C := Try.checked) (s := Rows.OpenSpec.upto Rows.tokStartsSpec) (k := Rows.uptoSmall) rfl false ⟨#[], #[.slice none 0 0], []⟩ 8 (by kernel_rfl) (by kernel_rfl) (by kernel_rfl)
      (x := ([.nil], [], [])) (by kernel_rfl) rfl (by kernel_rfl)) ?_
  intro W base args ds gs before hval hW _ hk _
  exact law_of (P := Try.prog) (hints := hints) (prim := fun _ => none) follows (fun f p h => by cases h) (isBulk H) (ts := [21, 22]) (by kernel_rfl) (fn := Try.f4) (f := 4) (bt := 4) (N := 1048576)
    (by kernel_rfl) (by kernel_rfl) laidOut rfl Try.underlying4 (s := Rows.tokStartsSpec) rfl
    (fun l hl => by
      match l, hl with
      | [d0], _ => rfl) tokStarts_ev hval hW (of_decide_eq_true hk)

theorem tokStarts_upto : Rows.TokStartsUptoSaid :=
  OpenClaim.holds_of_cond 4 Try.f4 rfl rfl rfl rfl rfl rfl rfl ⟨rfl, rfl, rfl, rfl, rfl⟩ rfl rfl rfl rfl rfl (by kernel_rfl) Try.func4 (by kernel_rfl)
    (of_decide_eq_true (by kernel_rfl)) (by unfold Func.isWrapper; first | (rw [if_pos (by decide +kernel)]; kernel_rfl) | (rw [if_neg (by decide +kernel)]; exact ⟨rfl, rfl⟩))
    (fun os started H enc _ F => tokStarts_lifted os started H enc F)
end Go.Proofs.Ytedlleekcinbcaa
