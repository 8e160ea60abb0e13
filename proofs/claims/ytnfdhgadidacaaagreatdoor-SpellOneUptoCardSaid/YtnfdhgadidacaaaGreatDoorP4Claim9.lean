/- SpellOne answers true, whatever the token, where the arguments' bulk is at most 1048576 and the package's variables hold what their initialisers lay. -/
import Derived.Test.YtnfdhgadidacaaaGreatDoorCards
import Derived.Test.YtnfdhgadidacaaaGreatDoorTie
import Derived.Test.YtnfdhgadidacaaaGreatDoorGPf
import Derived.Test.YtnfdhgadidacaaaGreatDoorGPh
import Derived.Test.YtnfdhgadidacaaaGreatDoorP4One
namespace Go.Proofs.YtnfdhgadidacaaaGreatDoor
open Go.Lift Go.Lift.R4 Go.ChangeShapes Go.WideShapes Go.ChangeAt Go.RowKit
set_option maxRecDepth 100000
set_option linter.unusedVariables false
theorem spellOne_ev [MX] (vs : List V) (ht : TysV Tryz.prog Tryz.f9.params.toList vs) (hs : asizes vs ≤ 1048576) : E 0 9 vs [] = some (.v (.bool true), []) := by
 rw [Tryz.params9] at ht
 match vs, ht with
 | [v], ht =>
  have h1 : asize v ≤ 1048576 := by simp only [asizes] at hs; omega
  obtain ⟨t, rfl, hy, hn, hd, hsz⟩ := ty34 ht.1
  exact Go.Lift.R4.f9 (Nat.zero_le _) hy (by omega) hn.1 hn.2 hd.1 hd.2
theorem spellOne_reads (os : Os) {H : Type} (enc : TypeId × Value → H) : ∃ places, DataW.whole enc Tryz.prog ((laidWorld os).forCall (fun _ _ => 0) ⟨#[], #[Value.agg #[.int .i64 0, .string ByteArray.empty, .int .i64 0, .int .i64 0, .bool false, .bool false]], []⟩).memory Tryz.f9.params.toList Rows.spellOneSpec.vars false #[Value.agg #[.int .i64 0, .string ByteArray.empty, .int .i64 0, .int .i64 0, .bool false, .bool false]].toList 8 = some ([.agg [.lit (.int .i64 0), .lit (.string []), .agg [.lit (.int .i64 0), .lit (.int .i64 0)], .lit (.bool false), .lit (.bool false)]], [], places) :=
 ⟨[], by kernel_rfl⟩
theorem spellOne_lifted (os : Os) (started : os.Started) (H : Type) (enc : TypeId × Value → H) (F : Stop.Interp) :
  ReturnsInHanded {} Tryz.checked os 9 .any ((Rows.OpenSpec.upto Rows.spellOneSpec).preRow enc Tryz.prog Tryz.f9 Rows.spellOneUptoRow.domain false Rows.spellOneUptoRow.laid) (((Rows.OpenSpec.upto Rows.spellOneSpec).at F).post enc Tryz.prog Tryz.f9 false true false false) := by
 obtain ⟨places, hx⟩ := spellOne_reads os enc
 refine returnsInHanded_of_row (C := Tryz.checked) (s := Rows.OpenSpec.upto Rows.spellOneSpec) own started (by kernel_rfl) Tryz.func9
  (witness_row_at (enc := enc) (C := Tryz.checked) false (laidWorld os) #[Value.agg #[.int .i64 0, .string ByteArray.empty, .int .i64 0, .int .i64 0, .bool false, .bool false]] rfl (by kernel_rfl) (by kernel_rfl) (by kernel_rfl)
   (OpenSpec.preRow_of_cond 8 hx (by kernel_rfl) (fun k hk => by cases hk; kernel_rfl) (by kernel_rfl) (laid3 os _).met)) ?_
 intro W base args ds gs before hval hW hA hcond hB hL hC hD
 have hL' : laidMet Tryz.prog Rows.spellOneUptoRow.laid W := hL
 obtain ⟨m, hm⟩ := Tryz.lays219.s1_3 W (by first | exact hB | exact hC | exact hD | assumption)
 letI : MX := ⟨m⟩
 exact law_of (P := Tryz.prog) (hints := hints) (prim := primz) follows prim_ok (isBulk H) (ts := [2, 3, 4, 9, 32, 34]) (by kernel_rfl) (fn := Tryz.f9) (f := 9) (bt := 4) (N := 1048576)
  (by kernel_rfl) (by kernel_rfl) laidOut rfl Tryz.underlying4 (s := Rows.spellOneSpec) rfl
  (fun l hl => by
   match l, hl with
   | [d0], _ => rfl) spellOne_ev (gok hm (Lib.laidMet.reads hL' (.head _)) (Lib.laidMet.reads hL' (.tail _ (.tail _ (.head _)))) (Lib.laidMet.reads hL' (.tail _ (.head _)))) hval hW (of_decide_eq_true (hcond _ rfl))
theorem spellOne_upto : Rows.SpellOneUptoSaid :=
 OpenClaim.holds_of_cond 9 Tryz.f9 rfl rfl rfl rfl rfl rfl rfl ⟨rfl, rfl, rfl, rfl, rfl⟩ rfl rfl rfl rfl rfl (by kernel_rfl) Tryz.func9 (by kernel_rfl)
  (of_decide_eq_true (by kernel_rfl)) (by unfold Func.isWrapper; first | (rw [if_pos (by decide +kernel)]; kernel_rfl) | (rw [if_neg (by decide +kernel)]; exact ⟨rfl, rfl⟩))
  (fun os started H enc _ F => by rw [OpenClaim.pre_eq_preRow]; exact spellOne_lifted os started H enc F)
theorem spellOne_plain (f : FuncId) (fn : Func) (hf : Tryz.pinned.checked.prog.funcNamed Tryz.f9.name = some f) (hfn : Tryz.pinned.checked.prog.funcs[f]? = some fn) :
  false = Tryz.pinned.checked.prog.looks [] ∧ ∀ (j : Nat) t, fn.params[j]? = some t → Tryz.pinned.checked.prog.wantsStandIn t = false := by
 obtain rfl : f = 9 := Option.some.inj ((show Tryz.prog.funcNamed Tryz.f9.name = some 9 by kernel_rfl).symm.trans hf) |>.symm
 obtain rfl : fn = Tryz.f9 := (Option.some.inj (Tryz.func9.symm.trans hfn)).symm
 refine ⟨by kernel_rfl, fun j t ht => ?_⟩
 rw [Tryz.params9] at ht
 obtain rfl : t = 34 := by simpa using Array.mem_of_getElem? ht
 exact (show Tryz.prog.wantsStandIn 34 = false by kernel_rfl)
theorem spellOne_card : Rows.SpellOneUptoCardSaid :=
 Claim7.holds_tied_plain_at .later [] _ _ _ _ spellOne_upto (fun _ h => by cases h) (by kernel_rfl) (fun _ h => by cases h) spellOneUpto_row_tie rfl ⟨rfl, rfl⟩ (by kernel_rfl) rfl spellOne_plain (by kernel_rfl)
end Go.Proofs.YtnfdhgadidacaaaGreatDoor
