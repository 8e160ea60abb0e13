/- UtfBack answers true, whatever the characters and the bytes, where the arguments' bulk is at most 1048576. -/
import Derived.Test.YtedlleekcinbcaaR1UtfB
import Derived.Test.YtedlleekcinbcaaR1Open
namespace Go.Proofs.Ytedlleekcinbcaa
set_option linter.unusedVariables false
set_option linter.unusedSimpArgs false
open Go.Lift Go.Lift.R1 Go.ChangeShapes Go.WideShapes Go.ChangeAt Go.RowKit
set_option maxRecDepth 100000

theorem utfBack_ev (vs : List V) (ht : TysV Try.prog Try.f9.params.toList vs) (hs : asizes vs ≤ 1048576) : E 0 9 vs [] = some (.v (.bool true), []) := by
  rw [Try.params9] at ht
  match vs, ht with
  | [v, u], ht =>
    obtain ⟨l, rfl, hl⟩ := ty22 ht.1
    obtain ⟨m, rfl, hm⟩ := ty24 ht.2.1
    exact Go.Lift.R1.f9 (sizes1 hs).1 (sizes1 (sizes1 hs).2).1 hm

theorem utfBack_lifted (os : Os) (started : os.Started) (H : Type) (enc : TypeId × Value → H) (F : Stop.Interp) :
    ReturnsInHanded {} Try.checked os 9 .any ((Rows.OpenSpec.upto Rows.utfBackSpec).pre6 enc Try.prog Try.f9 Rows.utfBackUptoRow.domain false) (((Rows.OpenSpec.upto Rows.utfBackSpec).at F).post enc Try.prog Try.f9 false true false false) := by
  refine returnsInHanded_of_cond (C := Try.checked) (s := Rows.OpenSpec.upto Rows.utfBackSpec) (k := Rows.uptoSmall) rfl own started (by kernel_rfl) Try.func9
    (OpenSpec.witness (enc := enc) (C := Try.checked) (s := Rows.OpenSpec.upto Rows.utfBackSpec) (k := Rows.uptoSmall) rfl false ⟨#[], #[.slice none 0 0, .slice none 0 0], []⟩ 8 (by kernel_rfl) (by kernel_rfl) (by kernel_rfl)
      (x := ([.nil, .nil], [], [])) (by kernel_rfl) rfl (by kernel_rfl)) ?_
  intro W base args ds gs before hval hW _ hk _
  exact law_of (P := Try.prog) (hints := hints) (prim := fun _ => none) follows (fun f p h => by cases h) (isBulk H) (ts := [5, 21, 22, 24]) (by kernel_rfl) (fn := Try.f9) (f := 9) (bt := 4) (N := 1048576)
    (by kernel_rfl) (by kernel_rfl) laidOut rfl Try.underlying4 (s := Rows.utfBackSpec) rfl
    (fun l hl => by
      match l, hl with
      | [d0, d1], _ => rfl) utfBack_ev hval hW (of_decide_eq_true hk)

theorem utfBack_upto : Rows.UtfBackUptoSaid :=
  OpenClaim.holds_of_cond 9 Try.f9 rfl rfl rfl rfl rfl rfl rfl ⟨rfl, rfl, rfl, rfl, rfl⟩ rfl rfl rfl rfl rfl (by kernel_rfl) Try.func9 (by kernel_rfl)
    (of_decide_eq_true (by kernel_rfl)) (by unfold Func.isWrapper; first | (rw [if_pos (by decide +kernel)]; kernel_rfl) | (rw [if_neg (by decide +kernel)]; exact ⟨rfl, rfl⟩))
    (fun os started H enc _ F => utfBack_lifted os started H enc F)
end Go.Proofs.Ytedlleekcinbcaa
