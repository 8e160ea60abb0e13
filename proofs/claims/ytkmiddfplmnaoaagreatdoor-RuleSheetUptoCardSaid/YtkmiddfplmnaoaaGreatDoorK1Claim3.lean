/- RuleSheet answers true, whatever the bytes, where the arguments' bulk is at most 1048576 and the package's variables hold what their initialisers lay. -/
import Derived.Test.YtkmiddfplmnaoaaGreatDoorCards
import Derived.Test.YtkmiddfplmnaoaaGreatDoorTie
import Derived.Test.YtkmiddfplmnaoaaGreatDoorGKk
open Go.Proofs.Tryz renaming prog->Aa
set_option linter.unusedVariables false
set_option linter.unusedSimpArgs false
set_option linter.unusedSectionVars false
set_option maxRecDepth 100000
namespace Go.Proofs.YtkmiddfplmnaoaaGreatDoor
open Go.Lift Go.Lift.W1 Go.ChangeShapes Go.WideShapes Go.ChangeAt Go.RowKit
theorem JHC[MX][HasK](vs:List V)(ht:JPP Aa Tryz.f3.params.toList vs)(hs:GM vs<=1048576):E 0 3 vs []=some (.v (.bool true),[]):=by
 rw[Tryz.params3]at ht
 match vs,ht with
 |[v0],ht=>
  have h0:ZN v0<=1048576:=by simp only[GM]at hs;omega
  obtain⟨l0,rfl,hB0,hl0⟩:=Jm7 ht.1 h0 (Nat.le_refl _);exact Go.Lift.W1.f3 om hB0
theorem zb(os:Os){H:Type}(enc:TypeId×Value->H):∃places,DataW.whole enc Aa ((GD os).forCall (λ_ _=>0) ⟨#[],#[Value.slice none 0 0],[]⟩).memory Tryz.f3.params.toList Rows.ruleSheetSpec.vars false #[Value.slice none 0 0].toList 8=some ([.nil],[],places):=
 ⟨[],by kernel_rfl⟩
theorem yZ(os:Os)(started:os.Started)(H:Type)(enc:TypeId×Value->H)(F:Stop.Interp):
  ReturnsInHanded {} Tryz.checked os 3 .any ((Rows.OpenSpec.upto Rows.ruleSheetSpec).preRow enc Aa Tryz.f3 Rows.ruleSheetUptoRow.domain false Rows.ruleSheetUptoRow.laid) (((Rows.OpenSpec.upto Rows.ruleSheetSpec).at F).post enc Aa Tryz.f3 false true false false):=by
 obtain⟨places,hx⟩:=zb os enc
 refine returnsInHanded_of_row (C:=Tryz.checked) (s:=Rows.OpenSpec.upto Rows.ruleSheetSpec) own started kr Tryz.func3
  (witness_row_at (enc:=enc) (C:=Tryz.checked) false (GD os) #[Value.slice none 0 0] rfl kr kr kr
   (OpenSpec.preRow_of_cond 8 hx kr (λk hk=>by cases hk;kernel_rfl) kr (JVq os _).met)) ?_
 intro W base args ds gs before hval hW hA hcond hB hL hC hD;have hL':laidMet Aa Rows.ruleSheetUptoRow.laid W:=hL
 letI:MX:=⟨0,true,false,false⟩
 haveI:HasK:=⟨rfl⟩
 exact JPR (P:=Aa) (hints:=hints) (prim:=primz) follows JMs (JSL H) (ts:=[5,22]) kr (fn:=Tryz.f3) (f:=3) (bt:=4) (N:=1048576)
  kr kr JMt rfl Tryz.underlying4 (s:=Rows.ruleSheetSpec) rfl
  (λl hl=>by
   match l,hl with
   |[d0],_=>rfl) JHC (gok (λ_=>Lib.laidMet.reads hL' (.tail _ (.head _))) (Lib.laidMet.reads hL' (.tail _ (.tail _ (.head _)))) (Lib.laidMet.reads hL' (.head _))) hval hW (of_decide_eq_true (hcond _ rfl))
theorem ya:(Rows.ruleSheetUptoRow.inPlace==Aa.inPlace 3)=true:=kr
theorem yb:(Rows.ruleSheetUptoRow.unfollowed==Aa.unfollowed 3)=true:=kr
theorem yc:(Rows.ruleSheetUptoRow.recurses==Aa.recurses 3)=true:=kr
theorem yd:(Rows.ruleSheetUptoRow.named==Aa.varsNamed 3)=true:=kr
theorem zc:joinedFacts Aa 3 Tryz.f3 (Rows.OpenSpec.upto Rows.ruleSheetSpec).bare Rows.ruleSheetUptoRow=true:=by unfold joinedFacts;refine JY (JY (JY (JY (JY (JY (JY (JY (JY (JY (JY (JY (JY (JY (JY (JY (JY (JY (JY (JY (JY (JY (JY (JY (JY (JY (JY (JY (JY (JY (JY ?_ JVr) JVs) ?_) ?_) ?_) JVt) ?_) JVu) ya) yb) yc) yd) ?_) ?_) ?_) ?_) ?_) ?_) ?_) ?_) ?_) JSN) ?_) JSO) JSP) JSQ) JSR) ?_) ?_) ?_) ?_<;>kernel_rfl
theorem JCQ:Rows.RuleSheetUptoSaid:=
 OpenClaim.holds_of_cond 3 Tryz.f3 rfl rfl rfl rfl rfl rfl rfl ⟨rfl,rfl,rfl,rfl,rfl⟩ rfl rfl rfl rfl rfl kr Tryz.func3 zc
  (of_decide_eq_true kr) (by unfold Func.isWrapper;first|(rw[if_pos (by decide+kernel)];kernel_rfl)|(rw[if_neg (by decide+kernel)];exact⟨rfl,rfl⟩))
  (λos started H enc _ F=>by rw[OpenClaim.pre_eq_preRow];exact yZ os started H enc F)
theorem ze(f:FuncId)(fn:Func)(hf:Tryz.pinned.checked.prog.funcNamed Tryz.f3.name=some f)(hfn:Tryz.pinned.checked.prog.funcs[f]? =some fn):
  false=Tryz.pinned.checked.prog.looks []/\ ∀(j:Nat) t,fn.params[j]? =some t->Tryz.pinned.checked.prog.wantsStandIn t=false:=by
 obtain rfl:f=3:=Option.some.inj ((show Aa.funcNamed Tryz.f3.name=some 3 by kernel_rfl).symm.trans hf)|>.symm
 obtain rfl:fn=Tryz.f3:=(Option.some.inj (Tryz.func3.symm.trans hfn)).symm;refine⟨by kernel_rfl,λj t ht=>?_⟩
 rw[Tryz.params3]at ht;obtain rfl:t=22:=by simpa using Array.mem_of_getElem? ht
 exact(show Aa.wantsStandIn 22=false by kernel_rfl)
theorem ruleSheet_card:Rows.RuleSheetUptoCardSaid:=
 Claim7.holds_tied_plain_at .later [] _ _ _ _ JCQ (λ_ h=>by cases h) kr (λ_ h=>by cases h) ruleSheetUpto_row_tie rfl ⟨rfl,rfl⟩ kr rfl ze kr
end Go.Proofs.YtkmiddfplmnaoaaGreatDoor
