/- PrintSheets answers true, whatever the bytes, where the arguments' bulk is at most 1048576 and the package's variables hold what their initialisers lay. -/
import Derived.Test.YtppjlemmgpnliaaGreatDoorCards
import Derived.Test.YtppjlemmgpnliaaGreatDoorTie
import Derived.Test.YtppjlemmgpnliaaGreatDoorGKk
import Derived.Test.YtppjlemmgpnliaaGreatDoorGKl
open Go.Proofs.Tryz renaming prog->Aa
set_option linter.unusedVariables false
set_option linter.unusedSimpArgs false
set_option linter.unusedSectionVars false
set_option maxRecDepth 100000
namespace Go.Proofs.YtppjlemmgpnliaaGreatDoor
open Go.Lift Go.Lift.M1 Go.ChangeShapes Go.WideShapes Go.ChangeAt Go.RowKit
theorem JDN[MX][HasK][HasD][HasN](vs:List V)(ht:JUk Aa Tryz.f3.params.toList vs)(hs:kV vs<=1048576):E 0 3 vs []=some (.v (.bool true),[]):=by
 rw[Tryz.params3]at ht
 match vs,ht with
 |[v0],ht=>
  have h0:JAV v0<=1048576:=by simp only[kV]at hs;omega
  obtain⟨l0,rfl,hB0,hl0⟩:=JqC ht.1 h0 (Nat.le_refl _);exact Go.Lift.M1.f3 om hB0
theorem yv(os:Os){H:Type}(enc:TypeId×Value->H):∃places,DataW.whole enc Aa ((JAK os).forCall (λ_ _=>0) ⟨#[],#[Value.slice none 0 0],[]⟩).memory Tryz.f3.params.toList Rows.printSheetsSpec.vars false #[Value.slice none 0 0].toList 8=some ([.nil],[],places):=
 ⟨[],by kernel_rfl⟩
theorem qS(os:Os)(started:os.Started)(H:Type)(enc:TypeId×Value->H)(F:Stop.Interp):
  ReturnsInHanded {} Tryz.checked os 3 .any ((Rows.OpenSpec.upto Rows.printSheetsSpec).preRow enc Aa Tryz.f3 Rows.printSheetsUptoRow.domain false Rows.printSheetsUptoRow.laid) (((Rows.OpenSpec.upto Rows.printSheetsSpec).at F).post enc Aa Tryz.f3 false true false false):=by
 obtain⟨places,hx⟩:=yv os enc
 refine returnsInHanded_of_row (C:=Tryz.checked) (s:=Rows.OpenSpec.upto Rows.printSheetsSpec) own started kr Tryz.func3
  (witness_row_at (enc:=enc) (C:=Tryz.checked) false (JAK os) #[Value.slice none 0 0] rfl kr kr kr
   (OpenSpec.preRow_of_cond 8 hx kr (λk hk=>by cases hk;kernel_rfl) kr (Jih os _).met)) ?_
 intro W base args ds gs before hval hW hA hcond hB hL hC hD;have hL':laidMet Aa Rows.printSheetsUptoRow.laid W:=hL;obtain⟨m,hm⟩:=Tryz.lays219.s1_3 W (by first|exact hB|exact hC|exact hD|assumption)
 letI:MX:=⟨m,true,true,true⟩
 haveI:HasK:=⟨rfl⟩
 haveI:HasD:=⟨rfl⟩
 haveI:HasN:=⟨rfl⟩
 exact JYW (P:=Aa) (hints:=hints) (prim:=primz) follows JXe (Jcu H) (ts:=[5,22]) kr (fn:=Tryz.f3) (f:=3) (bt:=4) (N:=1048576)
  kr kr JXf rfl Tryz.underlying4 (s:=Rows.printSheetsSpec) rfl
  (λl hl=>by
   match l,hl with
   |[d0],_=>rfl) JDN (gok hm (λ_=>Lib.laidMet.reads hL' (.tail _ (.tail _ (.tail _ (.tail _ (.head _)))))) (λ_=>Lib.laidMet.reads hL' (.tail _ (.head _))) (λ_=>Lib.laidMet.reads hL' (.tail _ (.tail _ (.head _))))) hval hW (of_decide_eq_true (hcond _ rfl))
theorem qT:(Rows.printSheetsUptoRow.inPlace==Aa.inPlace 3)=true:=kr
theorem qU:(Rows.printSheetsUptoRow.unfollowed==Aa.unfollowed 3)=true:=kr
theorem qV:(Rows.printSheetsUptoRow.recurses==Aa.recurses 3)=true:=kr
theorem qW:(Rows.printSheetsUptoRow.named==Aa.varsNamed 3)=true:=kr
theorem yw:joinedFacts Aa 3 Tryz.f3 (Rows.OpenSpec.upto Rows.printSheetsSpec).bare Rows.printSheetsUptoRow=true:=by unfold joinedFacts;refine KA (KA (KA (KA (KA (KA (KA (KA (KA (KA (KA (KA (KA (KA (KA (KA (KA (KA (KA (KA (KA (KA (KA (KA (KA (KA (KA (KA (KA (KA (KA ?_ Jik) Jil) ?_) ?_) ?_) Jim) ?_) Jin) qT) qU) qV) qW) ?_) ?_) ?_) ?_) ?_) ?_) ?_) ?_) ?_) Jcv) ?_) Jcw) Jcx) Jcy) Jcz) ?_) ?_) ?_) ?_<;>kernel_rfl
theorem JAL:Rows.PrintSheetsUptoSaid:=
 OpenClaim.holds_of_cond 3 Tryz.f3 rfl rfl rfl rfl rfl rfl rfl ⟨rfl,rfl,rfl,rfl,rfl⟩ rfl rfl rfl rfl rfl kr Tryz.func3 yw
  (of_decide_eq_true kr) (by unfold Func.isWrapper;first|(rw[if_pos (by decide+kernel)];kernel_rfl)|(rw[if_neg (by decide+kernel)];exact⟨rfl,rfl⟩))
  (λos started H enc _ F=>by rw[OpenClaim.pre_eq_preRow];exact qS os started H enc F)
theorem yx(f:FuncId)(fn:Func)(hf:Tryz.pinned.checked.prog.funcNamed Tryz.f3.name=some f)(hfn:Tryz.pinned.checked.prog.funcs[f]? =some fn):
  false=Tryz.pinned.checked.prog.looks []/\ ∀(j:Nat) t,fn.params[j]? =some t->Tryz.pinned.checked.prog.wantsStandIn t=false:=by
 obtain rfl:f=3:=Option.some.inj ((show Aa.funcNamed Tryz.f3.name=some 3 by kernel_rfl).symm.trans hf)|>.symm
 obtain rfl:fn=Tryz.f3:=(Option.some.inj (Tryz.func3.symm.trans hfn)).symm;refine⟨by kernel_rfl,λj t ht=>?_⟩
 rw[Tryz.params3]at ht;obtain rfl:t=22:=by simpa using Array.mem_of_getElem? ht
 exact(show Aa.wantsStandIn 22=false by kernel_rfl)
theorem printSheets_card:Rows.PrintSheetsUptoCardSaid:=
 Claim7.holds_tied_plain_at .later [] _ _ _ _ JAL (λ_ h=>by cases h) kr (λ_ h=>by cases h) printSheetsUpto_row_tie rfl ⟨rfl,rfl⟩ kr rfl yx kr
end Go.Proofs.YtppjlemmgpnliaaGreatDoor
