/- SpellMay answers true, whatever the tokens, where the arguments' bulk is at most 1048576 and the package's variables hold what their initialisers lay. -/
import Derived.Test.YtnfdhgadidacaaaDoorCards
import Derived.Test.YtnfdhgadidacaaaDoorTie
import Derived.Test.YtnfdhgadidacaaaDoorSj
import Derived.Test.YtnfdhgadidacaaaDoorSk
namespace Go.Proofs.YtnfdhgadidacaaaDoor
open Go.Lift Go.Lift.D4 Go.ChangeShapes Go.WideShapes Go.ChangeAt Go.RowKit
set_option maxRecDepth 100000
set_option linter.unusedVariables false

theorem spellMay_ev (vs : List V) (ht : TysV Tryd.prog Tryd.f6.params.toList vs) (hs : asizes vs ≤ 1048576) : E 0 6 vs [] = some (.v (.bool true), []) := by
  rw [Tryd.params6] at ht
  match vs, ht with
  | [v, u], ht =>
    obtain ⟨ka, na, da, ba, wa, ia, rfl, hya, hna, hda, hsa⟩ := ty28 ht.1
    obtain ⟨kb, nb, db, bb, wb, ib, rfl, hyb, hnb, hdb, hsb⟩ := ty28 ht.2.1
    have h1 : asize (.agg (tokV ka ba na da wa ia)) ≤ 1048576 := by simp only [asizes] at hs; omega
    exact Go.Lift.D4.f6 (Nat.zero_le _) hya (by omega) hna hda

theorem spellMay_reads (os : Os) {H : Type} (enc : TypeId × Value → H) : ∃ places, DataW.whole enc Tryd.prog ((laidWorld os).forCall (fun _ _ => 0) ⟨#[], #[Value.agg #[.int .i64 0, .string ByteArray.empty, .int .i64 0, .int .i64 0, .bool false, .bool false], Value.agg #[.int .i64 0, .string ByteArray.empty, .int .i64 0, .int .i64 0, .bool false, .bool false]], []⟩).memory Tryd.f6.params.toList Rows.spellMaySpec.vars false #[Value.agg #[.int .i64 0, .string ByteArray.empty, .int .i64 0, .int .i64 0, .bool false, .bool false], Value.agg #[.int .i64 0, .string ByteArray.empty, .int .i64 0, .int .i64 0, .bool false, .bool false]].toList 8 = some ([.agg [.lit (.int .i64 0), .lit (.string []), .agg [.lit (.int .i64 0), .lit (.int .i64 0)], .lit (.bool false), .lit (.bool false)], .agg [.lit (.int .i64 0), .lit (.string []), .agg [.lit (.int .i64 0), .lit (.int .i64 0)], .lit (.bool false), .lit (.bool false)]], [], places) :=
  ⟨[], by kernel_rfl⟩

theorem spellMay_lifted (os : Os) (started : os.Started) (H : Type) (enc : TypeId × Value → H) (F : Stop.Interp) :
    ReturnsInHanded {} Tryd.checked os 6 .any ((Rows.OpenSpec.upto Rows.spellMaySpec).preRow enc Tryd.prog Tryd.f6 Rows.spellMayUptoRow.domain false Rows.spellMayUptoRow.laid) (((Rows.OpenSpec.upto Rows.spellMaySpec).at F).post enc Tryd.prog Tryd.f6 false true false false) := by
  obtain ⟨places, hx⟩ := spellMay_reads os enc
  refine returnsInHanded_of_row (C := Tryd.checked) (s := Rows.OpenSpec.upto Rows.spellMaySpec) own started (by kernel_rfl) Tryd.func6
    (witness_row_at (enc := enc) (C := Tryd.checked) false (laidWorld os) #[Value.agg #[.int .i64 0, .string ByteArray.empty, .int .i64 0, .int .i64 0, .bool false, .bool false], Value.agg #[.int .i64 0, .string ByteArray.empty, .int .i64 0, .int .i64 0, .bool false, .bool false]] rfl (by kernel_rfl) (by kernel_rfl) (by kernel_rfl)
      (OpenSpec.preRow_of_cond 8 hx (by kernel_rfl) (fun k hk => by cases hk; kernel_rfl) (by kernel_rfl) (laid5 os _).met)) ?_
  intro W base args ds gs before hval hW _ hcond _ hL _ _
  have hL' : laidMet Tryd.prog Rows.spellMayUptoRow.laid W := hL
  exact law_of (P := Tryd.prog) (hints := hints) (prim := primz) follows prim_ok (isBulk H) (ts := [2, 3, 4, 9, 26, 28]) (by kernel_rfl) (fn := Tryd.f6) (f := 6) (bt := 4) (N := 1048576)
    (by kernel_rfl) (by kernel_rfl) laidOut rfl Tryd.underlying4 (s := Rows.spellMaySpec) rfl
    (fun l hl => by
      match l, hl with
      | [d0, d1], _ => rfl) spellMay_ev (gok (Lib.laidMet.reads hL' (.tail _ (.head _))) (Lib.laidMet.reads hL' (.tail _ (.tail _ (.head _)))) (Lib.laidMet.reads hL' (.tail _ (.tail _ (.tail _ (.tail _ (.head _)))))) (Lib.laidMet.reads hL' (.tail _ (.tail _ (.tail _ (.head _)))))) hval hW (of_decide_eq_true (hcond _ rfl))

theorem spellMay_upto : Rows.SpellMayUptoSaid :=
  OpenClaim.holds_of_cond 6 Tryd.f6 rfl rfl rfl rfl rfl rfl rfl ⟨rfl, rfl, rfl, rfl, rfl⟩ rfl rfl rfl rfl rfl (by kernel_rfl) Tryd.func6 (by kernel_rfl)
    (of_decide_eq_true (by kernel_rfl)) (by unfold Func.isWrapper; first | (rw [if_pos (by decide +kernel)]; kernel_rfl) | (rw [if_neg (by decide +kernel)]; exact ⟨rfl, rfl⟩))
    (fun os started H enc _ F => by rw [OpenClaim.pre_eq_preRow]; exact spellMay_lifted os started H enc F)

theorem spellMay_plain (f : FuncId) (fn : Func) (hf : Tryd.pinned.checked.prog.funcNamed Tryd.f6.name = some f) (hfn : Tryd.pinned.checked.prog.funcs[f]? = some fn) :
    false = Tryd.pinned.checked.prog.looks [] ∧ ∀ (j : Nat) t, fn.params[j]? = some t → Tryd.pinned.checked.prog.wantsStandIn t = false := by
  obtain rfl : f = 6 := Option.some.inj ((show Tryd.prog.funcNamed Tryd.f6.name = some 6 by kernel_rfl).symm.trans hf) |>.symm
  obtain rfl : fn = Tryd.f6 := (Option.some.inj (Tryd.func6.symm.trans hfn)).symm
  refine ⟨by kernel_rfl, fun j t ht => ?_⟩
  rw [Tryd.params6] at ht
  obtain rfl : t = 28 := by simpa using Array.mem_of_getElem? ht
  exact (show Tryd.prog.wantsStandIn 28 = false by kernel_rfl)

theorem spellMay_card : Rows.SpellMayUptoCardSaid :=
  Claim7.holds_tied_plain_at .later [] _ _ _ _ spellMay_upto (fun _ h => by cases h) (by kernel_rfl) (fun _ h => by cases h) spellMayUpto_row_tie rfl ⟨rfl, rfl⟩ (by kernel_rfl) rfl spellMay_plain (by kernel_rfl)
end Go.Proofs.YtnfdhgadidacaaaDoor
