/- SpellBack answers true, whatever the bytes, where the arguments' bulk is at most 1048576 and the package's variables hold what their initialisers lay. -/
import Derived.Test.YtnfdhgadidacaaaGreatDoorCards
import Derived.Test.YtnfdhgadidacaaaGreatDoorTie
import Derived.Test.YtnfdhgadidacaaaGreatDoorGPf
import Derived.Test.YtnfdhgadidacaaaGreatDoorGPh
namespace Go.Proofs.YtnfdhgadidacaaaGreatDoor
open Go.Lift Go.Lift.R4 Go.ChangeShapes Go.WideShapes Go.ChangeAt Go.RowKit
set_option maxRecDepth 100000
set_option linter.unusedVariables false
theorem spellBack_ev [MX] (vs : List V) (ht : TysV Tryz.prog Tryz.f8.params.toList vs) (hs : asizes vs ≤ 1048576) : E 0 8 vs [] = some (.v (.bool true), []) := by
 rw [Tryz.params8] at ht
 match vs, ht with
 | [v], ht =>
  obtain ⟨l, rfl, hl⟩ := ty28 ht.1
  exact Go.Lift.R4.f8 (Nat.zero_le _) hl (sizes1 hs).1
theorem spellBack_reads (os : Os) {H : Type} (enc : TypeId × Value → H) : ∃ places, DataW.whole enc Tryz.prog ((laidWorld os).forCall (fun _ _ => 0) ⟨#[], #[Value.slice none 0 0], []⟩).memory Tryz.f8.params.toList Rows.spellBackSpec.vars false #[Value.slice none 0 0].toList 8 = some ([.nil], [], places) :=
 ⟨[], by kernel_rfl⟩
theorem spellBack_lifted (os : Os) (started : os.Started) (H : Type) (enc : TypeId × Value → H) (F : Stop.Interp) :
  ReturnsInHanded {} Tryz.checked os 8 .any ((Rows.OpenSpec.upto Rows.spellBackSpec).preRow enc Tryz.prog Tryz.f8 Rows.spellBackUptoRow.domain false Rows.spellBackUptoRow.laid) (((Rows.OpenSpec.upto Rows.spellBackSpec).at F).post enc Tryz.prog Tryz.f8 false true false false) := by
 obtain ⟨places, hx⟩ := spellBack_reads os enc
 refine returnsInHanded_of_row (C := Tryz.checked) (s := Rows.OpenSpec.upto Rows.spellBackSpec) own started (by kernel_rfl) Tryz.func8
  (witness_row_at (enc := enc) (C := Tryz.checked) false (laidWorld os) #[Value.slice none 0 0] rfl (by kernel_rfl) (by kernel_rfl) (by kernel_rfl)
   (OpenSpec.preRow_of_cond 8 hx (by kernel_rfl) (fun k hk => by cases hk; kernel_rfl) (by kernel_rfl) (laid3 os _).met)) ?_
 intro W base args ds gs before hval hW hA hcond hB hL hC hD
 have hL' : laidMet Tryz.prog Rows.spellBackUptoRow.laid W := hL
 obtain ⟨m, hm⟩ := Tryz.lays219.s1_3 W (by first | exact hB | exact hC | exact hD | assumption)
 letI : MX := ⟨m⟩
 exact law_of (P := Tryz.prog) (hints := hints) (prim := primz) follows prim_ok (isBulk H) (ts := [5, 28]) (by kernel_rfl) (fn := Tryz.f8) (f := 8) (bt := 4) (N := 1048576)
  (by kernel_rfl) (by kernel_rfl) laidOut rfl Tryz.underlying4 (s := Rows.spellBackSpec) rfl
  (fun l hl => by
   match l, hl with
   | [d0], _ => rfl) spellBack_ev (gok hm (Lib.laidMet.reads hL' (.head _)) (Lib.laidMet.reads hL' (.tail _ (.tail _ (.head _)))) (Lib.laidMet.reads hL' (.tail _ (.head _)))) hval hW (of_decide_eq_true (hcond _ rfl))
theorem spellBack_upto : Rows.SpellBackUptoSaid :=
 OpenClaim.holds_of_cond 8 Tryz.f8 rfl rfl rfl rfl rfl rfl rfl ⟨rfl, rfl, rfl, rfl, rfl⟩ rfl rfl rfl rfl rfl (by kernel_rfl) Tryz.func8 (by kernel_rfl)
  (of_decide_eq_true (by kernel_rfl)) (by unfold Func.isWrapper; first | (rw [if_pos (by decide +kernel)]; kernel_rfl) | (rw [if_neg (by decide +kernel)]; exact ⟨rfl, rfl⟩))
  (fun os started H enc _ F => by rw [OpenClaim.pre_eq_preRow]; exact spellBack_lifted os started H enc F)
theorem spellBack_plain (f : FuncId) (fn : Func) (hf : Tryz.pinned.checked.prog.funcNamed Tryz.f8.name = some f) (hfn : Tryz.pinned.checked.prog.funcs[f]? = some fn) :
  false = Tryz.pinned.checked.prog.looks [] ∧ ∀ (j : Nat) t, fn.params[j]? = some t → Tryz.pinned.checked.prog.wantsStandIn t = false := by
 obtain rfl : f = 8 := Option.some.inj ((show Tryz.prog.funcNamed Tryz.f8.name = some 8 by kernel_rfl).symm.trans hf) |>.symm
 obtain rfl : fn = Tryz.f8 := (Option.some.inj (Tryz.func8.symm.trans hfn)).symm
 refine ⟨by kernel_rfl, fun j t ht => ?_⟩
 rw [Tryz.params8] at ht
 obtain rfl : t = 28 := by simpa using Array.mem_of_getElem? ht
 exact (show Tryz.prog.wantsStandIn 28 = false by kernel_rfl)
theorem spellBack_card : Rows.SpellBackUptoCardSaid :=
 Claim7.holds_tied_plain_at .later [] _ _ _ _ spellBack_upto (fun _ h => by cases h) (by kernel_rfl) (fun _ h => by cases h) spellBackUpto_row_tie rfl ⟨rfl, rfl⟩ (by kernel_rfl) rfl spellBack_plain (by kernel_rfl)
end Go.Proofs.YtnfdhgadidacaaaGreatDoor
