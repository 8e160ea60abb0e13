/- UtfDecode answers true, whatever the bytes, where the arguments' bulk is at most 1048576. -/
import Derived.Test.YtedlleekcinbcaaR1UtfB
import Derived.Test.YtedlleekcinbcaaR1Open
namespace Go.Proofs.Ytedlleekcinbcaa
set_option linter.unusedVariables false
set_option linter.unusedSimpArgs false
open Go.Lift Go.Lift.R1 Go.ChangeShapes Go.WideShapes Go.ChangeAt Go.RowKit
set_option maxRecDepth 100000

theorem utfDecode_ev (vs : List V) (ht : TysV Try.prog Try.f8.params.toList vs) (hs : asizes vs ≤ 1048576) : E 0 8 vs [] = some (.v (.bool true), []) := by
  rw [Try.params8] at ht
  match vs, ht with
  | [v], ht =>
    obtain ⟨l, rfl, hl⟩ := ty24 ht.1
    exact Go.Lift.R1.f8 (sizes1 hs).1 hl

theorem utfDecode_lifted (os : Os) (started : os.Started) (H : Type) (enc : TypeId × Value → H) (F : Stop.Interp) :
    ReturnsInHanded {} Try.checked os 8 .any ((Rows.OpenSpec.upto Rows.utfDecodeSpec).pre6 enc Try.prog Try.f8 Rows.utfDecodeUptoRow.domain false) (((Rows.OpenSpec.upto Rows.utfDecodeSpec).at F).post enc Try.prog Try.f8 false true false false) := by
  refine returnsInHanded_of_cond (C := Try.checked) (s := Rows.OpenSpec.upto Rows.utfDecodeSpec) (k := Rows.uptoSmall) rfl own started (by kernel_rfl) Try.func8
    (OpenSpec.witness (enc := enc) (C := Try.checked) (s := Rows.OpenSpec.upto Rows.utfDecodeSpec) (k := Rows.uptoSmall) rfl false ⟨#[], #[.slice none 0 0], []⟩ 8 (by kernel_rfl) (by kernel_rfl) (by kernel_rfl)
      (x := ([.nil], [], [])) (by kernel_rfl) rfl (by kernel_rfl)) ?_
  intro W base args ds gs before hval hW _ hk _
  exact law_of (P := Try.prog) (hints := hints) (prim := fun _ => none) follows (fun f p h => by cases h) (isBulk H) (ts := [5, 24]) (by kernel_rfl) (fn := Try.f8) (f := 8) (bt := 4) (N := 1048576)
    (by kernel_rfl) (by kernel_rfl) laidOut rfl Try.underlying4 (s := Rows.utfDecodeSpec) rfl
    (fun l hl => by
      match l, hl with
      | [d0], _ => rfl) utfDecode_ev hval hW (of_decide_eq_true hk)

theorem utfDecode_upto : Rows.UtfDecodeUptoSaid :=
  OpenClaim.holds_of_cond 8 Try.f8 rfl rfl rfl rfl rfl rfl rfl ⟨rfl, rfl, rfl, rfl, rfl⟩ rfl rfl rfl rfl rfl (by kernel_rfl) Try.func8 (by kernel_rfl)
    (of_decide_eq_true (by kernel_rfl)) (by unfold Func.isWrapper; first | (rw [if_pos (by decide +kernel)]; kernel_rfl) | (rw [if_neg (by decide +kernel)]; exact ⟨rfl, rfl⟩))
    (fun os started H enc _ F => utfDecode_lifted os started H enc F)
end Go.Proofs.Ytedlleekcinbcaa
