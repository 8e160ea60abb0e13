/- UtfWhole answers true, whatever the bytes. -/
import Derived.Test.YtedlleekcinbcaaR1UtfB
import Derived.Test.YtedlleekcinbcaaR1Open
import Derived.Test.YtedlleekcinbcaaLiftX
namespace Go.Proofs.Ytedlleekcinbcaa
open Go.Lift Go.Lift.R1 Go.ChangeShapes Go.WideShapes Go.ChangeAt Go.RowKit
set_option maxRecDepth 100000

theorem utfWhole_ev (vs : List V) (ht : TysV Try.prog Try.f6.params.toList vs) (hs : asizes vs ≤ reachBytes / Try.prog.bytesOf 5 + 1) : E 0 6 vs [] = some (.v (.bool true), []) := by
  have hn : reachBytes / Try.prog.bytesOf 5 + 1 = 140737488351233 := by rw [Go.Lift.R1.y5]; decide
  rw [hn] at hs
  rw [Try.params6] at ht
  match vs, ht with
  | [v], ht =>
    obtain ⟨l, rfl, hl⟩ := ty24 ht.1
    have := (sizes1 hs).1
    exact Go.Lift.R1.f6 (by omega) hl

theorem utfWhole_lifted (os : Os) (started : os.Started) (H : Type) (enc : TypeId × Value → H) :
    ReturnsInHanded {} Try.checked os 6 .any (Rows.utfWholeSpec.pre6 enc Try.prog Try.f6 Rows.utfWholeRow.domain false) (Rows.utfWholeSpec.post enc Try.prog Try.f6 false true false false) := by
  refine returnsInHanded_of_change_sized (C := Try.checked) own started (by kernel_rfl) Try.func6
    (ChangeSpec.witness6 (enc := enc) (C := Try.checked) false ⟨#[], #[.slice none 0 0], []⟩ 8 (by kernel_rfl) (by kernel_rfl) (by kernel_rfl) (by kernel_rfl)) ?_
  intro W base args ds gs before hval hW _ hz _
  exact law_of_row (P := Try.prog) (hints := hints) (prim := fun _ => none) follows (fun f p h => by cases h) (ts := [5, 24]) (by kernel_rfl) (fn := Try.f6) (f := 6) (bt := 4)
    (by kernel_rfl) (by kernel_rfl) laidOut rfl Try.underlying4 (s := Rows.utfWholeSpec) rfl
    (fun l hl => by
      match l, hl with
      | [d0], _ => rfl) (t := 24) (e := 5) (k := .u8) rfl Try.underlying24 Try.underlying5 (by rw [Go.Lift.R1.y5]; decide) utfWhole_ev (fun _ _ h => by cases h) hval hW hz

theorem utfWhole_said : Rows.UtfWholeSaid :=
  OpenClaim.holds_of_wide 6 Try.f6 rfl rfl rfl rfl rfl rfl rfl ⟨rfl, rfl, rfl, rfl, rfl⟩ rfl rfl rfl rfl rfl (by kernel_rfl) Try.func6 (by kernel_rfl)
    (of_decide_eq_true (by kernel_rfl)) (by unfold Func.isWrapper; first | (rw [if_pos (by decide +kernel)]; kernel_rfl) | (rw [if_neg (by decide +kernel)]; exact ⟨rfl, rfl⟩))
    (fun os started H enc _ => utfWhole_lifted os started H enc)
end Go.Proofs.Ytedlleekcinbcaa
