/- PropReads answers true, whatever the place and the bytes, where the arguments' bulk is at most 1048576 and the package's variables hold what their initialisers lay. -/
import Derived.Test.YtolidijpmnompaaGreatDoorCards
import Derived.Test.YtolidijpmnompaaGreatDoorTie
import Derived.Test.YtolidijpmnompaaGreatDoorGKj
open Go.Proofs.Tryz renaming prog->Aa
open Go.Value renaming int->A9,slice->LK
set_option linter.unusedVariables false
set_option linter.unusedSimpArgs false
set_option linter.unusedSectionVars false
set_option maxRecDepth 100000
namespace Go.Proofs.YtolidijpmnompaaGreatDoor
open Go.Lift Go.Lift.Y1 Go.ChangeShapes Go.WideShapes Go.ChangeAt Go.RowKit
theorem Jlc{t e:TypeId}{k:IntKind}(ht:Aa.underlying t=some (.slice e))(hk:Aa.underlying e=some (.int k)){v:V}(h:TyV Aa t v):
  ∃l:List Int,v= .list .no (ri k l)/\ ∀c∈l,(Lit.int k c).wf=true:=by
 unfold TyV at h;rw[ht]at h;simp only at h
 cases h with
 |slice rows hu hr=>
  rw[ht]at hu;cases hu
  have each:∀rows:List (List V),(∀row∈rows,Ty Aa e row)->∃l:List Int,rows=ri k l/\ ∀c∈l,(Lit.int k c).wf=true:=by
   intro rows
   induction rows with
   |nil=>intro _;exact⟨[],rfl,λ_ hc=>by cases hc⟩
   |cons r rs ih=>
    intro h;obtain⟨l,rfl,hl⟩:=ih λrow hm=>h row (List.mem_cons_of_mem _ hm)
    have h0:=h r (List.mem_cons_self ..)
    cases h0 with
    |int k' n hk' hw=>
     rw[hk]at hk';cases hk';refine⟨n::l,rfl,λc hc=>?_⟩
     rcases List.mem_cons.mp hc with rfl|hc
     ·exact hw
     ·exact hl c hc
    |bool b hk'=>rw[hk]at hk';cases hk'
    |string s hk'=>rw[hk]at hk';cases hk'
    |slice rows hk' _=>rw[hk]at hk';cases hk'
    |struct fs cells hk' _=>rw[hk]at hk';cases hk'
  obtain⟨l,rfl,hl⟩:=each rows hr
  exact⟨l,rfl,hl⟩
 |struct fs cells hu _=>rw[ht]at hu;cases hu
 |bool b hu=>rw[ht]at hu;cases hu
 |int k n hu _=>rw[ht]at hu;cases hu
 |string s hu=>rw[ht]at hu;cases hu
theorem Jld{v:V}(h:TyV Aa 22 v):∃l:List Int,v= .list .no (ri .u8 l)/\ ∀c∈l,0<=c/\c<=255:=by
 obtain⟨l,h1,h2⟩:=Jlc Tryz.underlying22 Tryz.underlying5 h;refine⟨l,h1,λc hc=>?_⟩
 have:=h2 c hc;simp[Lit.wf,IntKind.min,IntKind.max,IntKind.signed,IntKind.bits]at this;omega
theorem JVz(k:IntKind)(l:List Int):l.length<=jN (ri k l):=by
 induction l with
 |nil=>simp
 |cons n l ih=>simp only[GZ,jN,Ql,yf,List.length_cons];omega
theorem Js8{v:V}{n:Nat}(h:TyV Aa 22 v)(hs:ky v<=n)(hn:n<=1048576):∃l:List Int,v= .list .no (ri .u8 l)/\Utf.By l/\l.length<=n:=by obtain⟨l,rfl,hl⟩:=Jld h;have:=JVz .u8 l;exact⟨l,rfl,hl,by simp only[ky,yf]at hs;omega⟩
theorem ty3{v:V}{n:Nat}(h:TyV Aa 3 v)(hs:ky v<=n)(hn:n<=1048576):∃a:Int,v= .v (.int .i64 a)/\ -9223372036854775808<=a/\a<=9223372036854775807:=by
 unfold TyV at h;rw[Tryz.underlying3]at h;obtain⟨a,hp,hw⟩:=Je2 Tryz.underlying3 h;obtain rfl:v= .v (.int .i64 a):=by simpa using hp
 have:=JlX hw;exact⟨a,rfl,this.1,this.2⟩
theorem JKT(vs:List V)(ht:JWY Aa Tryz.f3.params.toList vs)(hs:qg vs<=1048576):E 0 3 vs []=some (.v (.bool true),[]):=by
 rw[Tryz.params3]at ht
 match vs,ht with
 |[v0,v1],ht=>
  have h0:ky v0+ky v1<=1048576:=by simp only[qg]at hs;omega
  obtain⟨a,rfl,ha,hb⟩:=ty3 (n:=1048576) ht.1 om (Nat.le_refl _);obtain⟨l,rfl,hy,hl⟩:=Js8 (n:=1048576) ht.2.1 om (Nat.le_refl _);exact Go.Lift.Y1.f3 ha hb (Nat.le_refl _) hy
theorem JBA(os:Os){H:Type}(enc:TypeId×Value->H):∃places,DataW.whole enc Aa ((JAX os).forCall (λ_ _=>0) ⟨#[],#[A9 .i64 0,LK none 0 0],[]⟩).memory Tryz.f3.params.toList Rows.propReadsSpec.vars false #[A9 .i64 0,LK none 0 0].toList 8=some ([.lit (.int .i64 0),.nil],[],places):=
 ⟨[],by kernel_rfl⟩
theorem JAY(os:Os)(started:os.Started)(H:Type)(enc:TypeId×Value->H)(F:Stop.Interp):
  ReturnsInHanded {} Tryz.checked os 3 .any ((Rows.OpenSpec.upto Rows.propReadsSpec).preRow enc Aa Tryz.f3 Rows.propReadsUptoRow.domain false Rows.propReadsUptoRow.laid) (((Rows.OpenSpec.upto Rows.propReadsSpec).at F).post enc Aa Tryz.f3 false true false false):=by
 obtain⟨places,hx⟩:=JBA os enc
 refine returnsInHanded_of_row (C:=Tryz.checked) (s:=Rows.OpenSpec.upto Rows.propReadsSpec) own started kr Tryz.func3
  (witness_row_atRef (enc:=enc) (C:=Tryz.checked) false (JAX os) #[A9 .i64 0,LK none 0 0] rfl kr kr kr
   (OpenSpec.preRow_of_cond 8 hx kr (λk hk=>by cases hk;kernel_rfl) kr (JlW os _).met)) ?_
 intro W base args ds gs before hval hW hA hcond hB hL hC hD;have hL':laidMet Aa Rows.propReadsUptoRow.laid W:=hL
 exact JZo (P:=Aa) (hints:=hints) (prim:=primz) follows JYn (Je1 H) (ts:=[3,5,22]) kr (fn:=Tryz.f3) (f:=3) (bt:=4) (N:=1048576)
  kr kr JYo rfl Tryz.underlying4 (s:=Rows.propReadsSpec) rfl
  (λl hl=>by
   match l,hl with
   |[d0,d1],_=>rfl) JKT (gok (Lib.laidMet.reads hL' (.head _)) (Lib.laidMet.reads hL' (.tail _ (.tail _ (.head _))))) hval hW (of_decide_eq_true (hcond _ rfl))
theorem JAZ:(Rows.propReadsUptoRow.inPlace==Aa.inPlace 3)=true:=kr
theorem JAa:(Rows.propReadsUptoRow.unfollowed==Aa.unfollowed 3)=true:=kr
theorem JAb:(Rows.propReadsUptoRow.recurses==Aa.recurses 3)=true:=kr
theorem JAc:(Rows.propReadsUptoRow.named==Aa.varsNamed 3)=true:=kr
theorem JBB:joinedFacts Aa 3 Tryz.f3 (Rows.OpenSpec.upto Rows.propReadsSpec).bare Rows.propReadsUptoRow=true:=by unfold joinedFacts;refine KQ (KQ (KQ (KQ (KQ (KQ (KQ (KQ (KQ (KQ (KQ (KQ (KQ (KQ (KQ (KQ (KQ (KQ (KQ (KQ (KQ (KQ (KQ (KQ (KQ (KQ (KQ (KQ (KQ (KQ (KQ ?_ JlY) JlZ) ?_) ?_) ?_) Jla) ?_) Jlb) JAZ) JAa) JAb) JAc) ?_) ?_) ?_) ?_) ?_) ?_) ?_) ?_) ?_) Je3) ?_) Je4) Je5) Je6) Je7) ?_) ?_) ?_) ?_<;>kernel_rfl
theorem JDg:Rows.PropReadsUptoSaid:=
 OpenClaim.holds_of_cond 3 Tryz.f3 rfl rfl rfl rfl rfl rfl rfl ⟨rfl,rfl,rfl,rfl,rfl⟩ rfl rfl rfl rfl rfl kr Tryz.func3 JBB
  (of_decide_eq_true kr) (by unfold Func.isWrapper;first|(rw[if_pos (by decide+kernel)];kernel_rfl)|(rw[if_neg (by decide+kernel)];exact⟨rfl,rfl⟩))
  (λos started H enc _ F=>by rw[OpenClaim.pre_eq_preRow];exact JAY os started H enc F)
theorem JBC(f:FuncId)(fn:Func)(hf:Tryz.pinned.checked.prog.funcNamed Tryz.f3.name=some f)(hfn:Tryz.pinned.checked.prog.funcs[f]? =some fn):
  false=Tryz.pinned.checked.prog.looks []/\ ∀(j:Nat) t,fn.params[j]? =some t->Tryz.pinned.checked.prog.wantsStandIn t=false:=by
 obtain rfl:f=3:=Option.some.inj ((show Aa.funcNamed Tryz.f3.name=some 3 by kernel_rfl).symm.trans hf)|>.symm
 obtain rfl:fn=Tryz.f3:=(Option.some.inj (Tryz.func3.symm.trans hfn)).symm;refine⟨by kernel_rfl,λj t ht=>?_⟩
 rw[Tryz.params3]at ht
 match j,ht with
 |0,ht=>cases ht;exact(show Aa.wantsStandIn 3=false by kernel_rfl)
 |1,ht=>cases ht;exact(show Aa.wantsStandIn 22=false by kernel_rfl)
 |j+2,ht=>simp at ht
theorem propReads_card:Rows.PropReadsUptoCardSaid:=
 Claim7.holds_tied_plain_at .later [] _ _ _ _ JDg (λ_ h=>by cases h) kr (λ_ h=>by cases h) propReadsUpto_row_tie rfl ⟨rfl,rfl⟩ kr rfl JBC kr
end Go.Proofs.YtolidijpmnompaaGreatDoor
