/- PropParses answers true, whatever the name and the component values, where the arguments' bulk is at most 1048576 and the package's variables hold what their initialisers lay. -/
import Derived.Test.YtolidijpmnompaaGreatDoorCards
import Derived.Test.YtolidijpmnompaaGreatDoorTie
import Derived.Test.YtolidijpmnompaaGreatDoorGKg
open ByteArray renaming empty->AE
open Go.Proofs.Tryz renaming prog->Aa
open Go.Value renaming slice->GF,string->BX
set_option linter.unusedVariables false
set_option linter.unusedSimpArgs false
set_option linter.unusedSectionVars false
set_option maxRecDepth 100000
namespace Go.Proofs.YtolidijpmnompaaGreatDoor
open Go.Lift Go.Lift.Y1 Go.ChangeShapes Go.WideShapes Go.ChangeAt Go.RowKit
theorem ty9{v:V}{n:Nat}(h:TyV Aa 9 v)(hs:Gy v<=n):∃b:List Int,v= .v (.string (Rul.bs b))/\Utf.By b/\b.length<=n:=by
 match v,h with
 | .v (.string s),_=>
  obtain⟨l,hy,rfl,hl⟩:=JPu s;refine⟨l,rfl,hy,?_⟩
  simp only[Gy,Gx]at hs;omega
theorem JA8(vs:List V)(ht:JQV Aa Tryz.f4.params.toList vs)(hs:jQ vs<=1048576):E 0 4 vs []=some (.v (.bool true),[]):=by
 rw[Tryz.params4]at ht
 match vs,ht with
 |[v0,v1],ht=>
  have h0:Gy v0+Gy v1<=1048576:=by simp only[jQ]at hs;omega
  obtain⟨b,rfl,hy,hl⟩:=ty9 (n:=1048576) ht.1 om;obtain⟨l,rfl,ho,hn⟩:=Jdt (n:=1048576) ht.2.1 om (Nat.le_refl _);exact Go.Lift.Y1.f4 (Nat.le_refl _) hy om om ho
theorem qr(os:Os){H:Type}(enc:TypeId×Value->H):∃places,DataW.whole enc Aa ((qp os).forCall (λ_ _=>0) ⟨#[],#[BX AE,GF none 0 0],[]⟩).memory Tryz.f4.params.toList Rows.propParsesSpec.vars false #[BX AE,GF none 0 0].toList 8=some ([.lit (.string []),.nil],[],places):=
 ⟨[],by kernel_rfl⟩
theorem km(os:Os)(started:os.Started)(H:Type)(enc:TypeId×Value->H)(F:Stop.Interp):
  ReturnsInHanded {} Tryz.checked os 4 .any ((Rows.OpenSpec.upto Rows.propParsesSpec).preRow enc Aa Tryz.f4 Rows.propParsesUptoRow.domain false Rows.propParsesUptoRow.laid) (((Rows.OpenSpec.upto Rows.propParsesSpec).at F).post enc Aa Tryz.f4 false true false false):=by
 obtain⟨places,hx⟩:=qr os enc
 refine returnsInHanded_of_row (C:=Tryz.checked) (s:=Rows.OpenSpec.upto Rows.propParsesSpec) own started kr Tryz.func4
  (witness_row_atRef (enc:=enc) (C:=Tryz.checked) false (qp os) #[BX AE,GF none 0 0] rfl kr kr kr
   (OpenSpec.preRow_of_cond 8 hx kr (λk hk=>by cases hk;kernel_rfl) kr (Jdr os _).met)) ?_
 intro W base args ds gs before hval hW hA hcond hB hL hC hD;have hL':laidMet Aa Rows.propParsesUptoRow.laid W:=hL
 exact JSy (P:=Aa) (hints:=hints) (prim:=primz) follows JR6 (JXg H) (ts:=[2,3,4,9,28,33,53,60]) kr (fn:=Tryz.f4) (f:=4) (bt:=4) (N:=1048576)
  kr kr JR7 rfl Tryz.underlying4 (s:=Rows.propParsesSpec) rfl
  (λl hl=>by
   match l,hl with
   |[d0,d1],_=>rfl) JA8 (gok (Lib.laidMet.reads hL' (.head _)) (Lib.laidMet.reads hL' (.tail _ (.tail _ (.head _))))) hval hW (of_decide_eq_true (hcond _ rfl))
theorem ko:(Rows.propParsesUptoRow.inPlace==Aa.inPlace 4)=true:=kr
theorem kp:(Rows.propParsesUptoRow.unfollowed==Aa.unfollowed 4)=true:=kr
theorem kq:(Rows.propParsesUptoRow.recurses==Aa.recurses 4)=true:=kr
theorem kw:(Rows.propParsesUptoRow.named==Aa.varsNamed 4)=true:=kr
theorem qt:joinedFacts Aa 4 Tryz.f4 (Rows.OpenSpec.upto Rows.propParsesSpec).bare Rows.propParsesUptoRow=true:=by unfold joinedFacts;refine KK (KK (KK (KK (KK (KK (KK (KK (KK (KK (KK (KK (KK (KK (KK (KK (KK (KK (KK (KK (KK (KK (KK (KK (KK (KK (KK (KK (KK (KK (KK ?_ Jdu) Jdv) ?_) ?_) ?_) Jdw) ?_) Jdx) ko) kp) kq) kw) ?_) ?_) ?_) ?_) ?_) ?_) ?_) ?_) ?_) JXi) ?_) JXj) JXk) JXl) JXm) ?_) ?_) ?_) ?_<;>kernel_rfl
theorem yZ:Rows.PropParsesUptoSaid:=
 OpenClaim.holds_of_cond 4 Tryz.f4 rfl rfl rfl rfl rfl rfl rfl ⟨rfl,rfl,rfl,rfl,rfl⟩ rfl rfl rfl rfl rfl kr Tryz.func4 qt
  (of_decide_eq_true kr) (by unfold Func.isWrapper;first|(rw[if_pos (by decide+kernel)];kernel_rfl)|(rw[if_neg (by decide+kernel)];exact⟨rfl,rfl⟩))
  (λos started H enc _ F=>by rw[OpenClaim.pre_eq_preRow];exact km os started H enc F)
theorem qu(f:FuncId)(fn:Func)(hf:Tryz.pinned.checked.prog.funcNamed Tryz.f4.name=some f)(hfn:Tryz.pinned.checked.prog.funcs[f]? =some fn):
  false=Tryz.pinned.checked.prog.looks []/\ ∀(j:Nat) t,fn.params[j]? =some t->Tryz.pinned.checked.prog.wantsStandIn t=false:=by
 obtain rfl:f=4:=Option.some.inj ((show Aa.funcNamed Tryz.f4.name=some 4 by kernel_rfl).symm.trans hf)|>.symm
 obtain rfl:fn=Tryz.f4:=(Option.some.inj (Tryz.func4.symm.trans hfn)).symm;refine⟨by kernel_rfl,λj t ht=>?_⟩
 rw[Tryz.params4]at ht
 match j,ht with
 |0,ht=>cases ht;exact(show Aa.wantsStandIn 9=false by kernel_rfl)
 |1,ht=>cases ht;exact(show Aa.wantsStandIn 33=false by kernel_rfl)
 |j+2,ht=>simp at ht
theorem propParses_card:Rows.PropParsesUptoCardSaid:=
 Claim7.holds_tied_plain_at .later [] _ _ _ _ yZ (λ_ h=>by cases h) kr (λ_ h=>by cases h) propParsesUpto_row_tie rfl ⟨rfl,rfl⟩ kr rfl qu kr
end Go.Proofs.YtolidijpmnompaaGreatDoor
