/- UtfEncode answers true, whatever the characters. -/
import Derived.Test.YtedlleekcinbcaaR1Law3
import Derived.Test.YtedlleekcinbcaaR1Open
import Derived.Test.YtedlleekcinbcaaLiftX
namespace Go.Proofs.Ytedlleekcinbcaa
open Go.Lift Go.Lift.R1 Go.ChangeShapes Go.WideShapes Go.ChangeAt Go.RowKit
set_option maxRecDepth 100000

theorem utfEncode_ev (vs : List V) (ht : TysV Try.prog Try.f3.params.toList vs) (hs : asizes vs ≤ reachBytes / Try.prog.bytesOf 21 + 1) : E 0 3 vs [] = some (.v (.bool true), []) := by
  have hn : reachBytes / Try.prog.bytesOf 21 + 1 = 35184372087809 := by rw [Go.Lift.R1.y21]; decide
  rw [hn] at hs
  rw [Try.params3] at ht
  match vs, ht with
  | [v], ht =>
    obtain ⟨l, rfl, hl⟩ := ty22 ht.1
    have := (sizes1 hs).1
    exact Go.Lift.R1.f3 (by omega)

theorem utfEncode_lifted (os : Os) (started : os.Started) (H : Type) (enc : TypeId × Value → H) :
    ReturnsInHanded {} Try.checked os 3 .any (Rows.utfEncodeSpec.pre6 enc Try.prog Try.f3 Rows.utfEncodeRow.domain false) (Rows.utfEncodeSpec.post enc Try.prog Try.f3 false true false false) := by
  refine returnsInHanded_of_change_sized (C := Try.checked) own started (by kernel_rfl) Try.func3
    (ChangeSpec.witness6 (enc := enc) (C := Try.checked) false ⟨#[], #[.slice none 0 0], []⟩ 8 (by kernel_rfl) (by kernel_rfl) (by kernel_rfl) (by kernel_rfl)) ?_
  intro W base args ds gs before hval hW _ hz _
  exact law_of_row (P := Try.prog) (hints := hints) (prim := fun _ => none) follows (fun f p h => by cases h) (ts := [21, 22]) (by kernel_rfl) (fn := Try.f3) (f := 3) (bt := 4)
    (by kernel_rfl) (by kernel_rfl) laidOut rfl Try.underlying4 (s := Rows.utfEncodeSpec) rfl
    (fun l hl => by
      match l, hl with
      | [d0], _ => rfl) (t := 22) (e := 21) (k := .i32) rfl Try.underlying22 Try.underlying21 (by rw [Go.Lift.R1.y21]; decide) utfEncode_ev (fun _ _ h => by cases h) hval hW hz

theorem utfEncode_said : Rows.UtfEncodeSaid :=
  OpenClaim.holds_of_wide 3 Try.f3 rfl rfl rfl rfl rfl rfl rfl ⟨rfl, rfl, rfl, rfl, rfl⟩ rfl rfl rfl rfl rfl (by kernel_rfl) Try.func3 (by kernel_rfl)
    (of_decide_eq_true (by kernel_rfl)) (by unfold Func.isWrapper; first | (rw [if_pos (by decide +kernel)]; kernel_rfl) | (rw [if_neg (by decide +kernel)]; exact ⟨rfl, rfl⟩))
    (fun os started H enc _ => utfEncode_lifted os started H enc)
end Go.Proofs.Ytedlleekcinbcaa
