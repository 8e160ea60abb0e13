/- RuleNests answers true, whatever the numbers and the text, where the arguments' bulk is at most 1048576 and the package's variables hold what their initialisers lay. -/
import Derived.Test.YtkmiddfplmnaoaaGreatDoorCards
import Derived.Test.YtkmiddfplmnaoaaGreatDoorTie
import Derived.Test.YtkmiddfplmnaoaaGreatDoorGKk
open ByteArray renaming empty->A6
open Go.Proofs.Tryz renaming prog->Aa
open Go.Value renaming int->Bp,string->C5
set_option linter.unusedVariables false
set_option linter.unusedSimpArgs false
set_option linter.unusedSectionVars false
set_option maxRecDepth 100000
namespace Go.Proofs.YtkmiddfplmnaoaaGreatDoor
open Go.Lift Go.Lift.W1 Go.ChangeShapes Go.WideShapes Go.ChangeAt Go.RowKit
theorem JHD[MX][HasK](vs:List V)(ht:JPP Aa Tryz.f4.params.toList vs)(hs:GM vs<=1048576):E 0 4 vs []=some (.v (.bool true),[]):=by
 rw[Tryz.params4]at ht
 match vs,ht with
 |[v0,v1,v2],ht=>
  have h0:ZN v0+(ZN v1+ZN v2)<=1048576:=by simp only[GM]at hs;omega
  obtain⟨a,rfl,a0,a1⟩:=ty3 (n:=1048576) ht.1 om (Nat.le_refl _);obtain⟨c,rfl,c0,c1⟩:=ty3 (n:=1048576) ht.2.1 om (Nat.le_refl _);obtain⟨x,rfl,hx,hl⟩:=ty9 (n:=1048576) ht.2.2.1 om (Nat.le_refl _);exact Go.Lift.W1.f4 a0 a1 c0 c1 hx hl
theorem zf(os:Os){H:Type}(enc:TypeId×Value->H):∃places,DataW.whole enc Aa ((GD os).forCall (λ_ _=>0) ⟨#[],#[Bp .i64 0,Bp .i64 0,C5 A6],[]⟩).memory Tryz.f4.params.toList Rows.ruleNestsSpec.vars false #[Bp .i64 0,Bp .i64 0,C5 A6].toList 8=some ([.lit (.int .i64 0),.lit (.int .i64 0),.lit (.string [])],[],places):=
 ⟨[],by kernel_rfl⟩
theorem yf(os:Os)(started:os.Started)(H:Type)(enc:TypeId×Value->H)(F:Stop.Interp):
  ReturnsInHanded {} Tryz.checked os 4 .any ((Rows.OpenSpec.upto Rows.ruleNestsSpec).preRow enc Aa Tryz.f4 Rows.ruleNestsUptoRow.domain false Rows.ruleNestsUptoRow.laid) (((Rows.OpenSpec.upto Rows.ruleNestsSpec).at F).post enc Aa Tryz.f4 false true false false):=by
 obtain⟨places,hx⟩:=zf os enc
 refine returnsInHanded_of_row (C:=Tryz.checked) (s:=Rows.OpenSpec.upto Rows.ruleNestsSpec) own started kr Tryz.func4
  (witness_row_at (enc:=enc) (C:=Tryz.checked) false (GD os) #[Bp .i64 0,Bp .i64 0,C5 A6] rfl kr kr kr
   (OpenSpec.preRow_of_cond 8 hx kr (λk hk=>by cases hk;kernel_rfl) kr (JVq os _).met)) ?_
 intro W base args ds gs before hval hW hA hcond hB hL hC hD;have hL':laidMet Aa Rows.ruleNestsUptoRow.laid W:=hL
 letI:MX:=⟨0,true,false,false⟩
 haveI:HasK:=⟨rfl⟩
 exact JPR (P:=Aa) (hints:=hints) (prim:=primz) follows JMs (JSL H) (ts:=[3,9]) kr (fn:=Tryz.f4) (f:=4) (bt:=4) (N:=1048576)
  kr kr JMt rfl Tryz.underlying4 (s:=Rows.ruleNestsSpec) rfl
  (λl hl=>by
   match l,hl with
   |[d0,d1,d2],_=>rfl) JHD (gok (λ_=>Lib.laidMet.reads hL' (.tail _ (.head _))) (Lib.laidMet.reads hL' (.tail _ (.tail _ (.head _)))) (Lib.laidMet.reads hL' (.head _))) hval hW (of_decide_eq_true (hcond _ rfl))
theorem yg:(Rows.ruleNestsUptoRow.inPlace==Aa.inPlace 4)=true:=kr
theorem yh:(Rows.ruleNestsUptoRow.unfollowed==Aa.unfollowed 4)=true:=kr
theorem yi:(Rows.ruleNestsUptoRow.recurses==Aa.recurses 4)=true:=kr
theorem yj:(Rows.ruleNestsUptoRow.named==Aa.varsNamed 4)=true:=kr
theorem zg:joinedFacts Aa 4 Tryz.f4 (Rows.OpenSpec.upto Rows.ruleNestsSpec).bare Rows.ruleNestsUptoRow=true:=by unfold joinedFacts;refine JY (JY (JY (JY (JY (JY (JY (JY (JY (JY (JY (JY (JY (JY (JY (JY (JY (JY (JY (JY (JY (JY (JY (JY (JY (JY (JY (JY (JY (JY (JY ?_ JVr) JVs) ?_) ?_) ?_) JVt) ?_) JVu) yg) yh) yi) yj) ?_) ?_) ?_) ?_) ?_) ?_) ?_) ?_) ?_) JSN) ?_) JSO) JSP) JSQ) JSR) ?_) ?_) ?_) ?_<;>kernel_rfl
theorem JCR:Rows.RuleNestsUptoSaid:=
 OpenClaim.holds_of_cond 4 Tryz.f4 rfl rfl rfl rfl rfl rfl rfl ⟨rfl,rfl,rfl,rfl,rfl⟩ rfl rfl rfl rfl rfl kr Tryz.func4 zg
  (of_decide_eq_true kr) (by unfold Func.isWrapper;first|(rw[if_pos (by decide+kernel)];kernel_rfl)|(rw[if_neg (by decide+kernel)];exact⟨rfl,rfl⟩))
  (λos started H enc _ F=>by rw[OpenClaim.pre_eq_preRow];exact yf os started H enc F)
theorem zh(f:FuncId)(fn:Func)(hf:Tryz.pinned.checked.prog.funcNamed Tryz.f4.name=some f)(hfn:Tryz.pinned.checked.prog.funcs[f]? =some fn):
  false=Tryz.pinned.checked.prog.looks []/\ ∀(j:Nat) t,fn.params[j]? =some t->Tryz.pinned.checked.prog.wantsStandIn t=false:=by
 obtain rfl:f=4:=Option.some.inj ((show Aa.funcNamed Tryz.f4.name=some 4 by kernel_rfl).symm.trans hf)|>.symm
 obtain rfl:fn=Tryz.f4:=(Option.some.inj (Tryz.func4.symm.trans hfn)).symm;refine⟨by kernel_rfl,λj t ht=>?_⟩
 rw[Tryz.params4]at ht
 match j,ht with
 |0,ht=>cases ht;exact(show Aa.wantsStandIn 3=false by kernel_rfl)
 |1,ht=>cases ht;exact(show Aa.wantsStandIn 3=false by kernel_rfl)
 |2,ht=>cases ht;exact(show Aa.wantsStandIn 9=false by kernel_rfl)
 |j+3,ht=>simp at ht
theorem ruleNests_card:Rows.RuleNestsUptoCardSaid:=
 Claim7.holds_tied_plain_at .later [] _ _ _ _ JCR (λ_ h=>by cases h) kr (λ_ h=>by cases h) ruleNestsUpto_row_tie rfl ⟨rfl,rfl⟩ kr rfl zh kr
end Go.Proofs.YtkmiddfplmnaoaaGreatDoor
