/- spell.fixed. -/
import Derived.Test.YtppjlemmgpnliaaGreatDoorGKc
import Derived.Test.YtppjlemmgpnliaaGreatDoorGKd
import Derived.Test.YtppjlemmgpnliaaGreatDoorGKe
open Bool renaming and_eq_true->Af,false_and->Aw,false_eq_true->Am,true_and->AB
open Go.IntKind renaming i64->Aq
open Go.Proofs.Tryz renaming prog->Aa
open Int renaming reduceBEq->Ap,reduceBNe->Bd,reduceLE->Cv,reduceLT->Bu,reduceToNat->Bn
open List renaming all_cons->Bg,append_assoc->Ao,append_nil->Av,cons_append->Al,drop_eq_getElem_cons->AD,drop_length->Be,drop_zero->Az,eq_of_mem_replicate->Lm,getElem?_append_right->AZ,getElem?_eq_getElem->Ac,getElem?_eq_some_iff->Ad,getElem_mem->Ba,length->AW,length_append->Ah,length_cons->Ae,length_map->Ag,nil_append->Ai,replicate->A0,singleton_append->A1
open Nat renaming le_refl->Ab,reduceLeDiff->Cb
open Option renaming getD_some->BJ
set_option linter.unusedVariables false
set_option linter.unusedSimpArgs false
set_option linter.unusedSectionVars false
set_option maxRecDepth 20000
set_option maxHeartbeats 4000000
section
open Go.Proofs
namespace Go.Lift.M1
variable[MX][HasD][HasN]
open Utf Tok Spell
section
variable{lo:Nat}{h:JC}{k:Int}
abbrev A38:List V:=[.v (.int .i64 13),.v (.int .i64 16),.v (.int .i64 17),.v (.int .i64 18),.v (.int .i64 19),.v (.int .i64 20),.v (.int .i64 21),.v (.int .i64 22),.v (.int .i64 23),.v (.int .i64 24)]
abbrev K38:List Int:=[13,16,17,18,19,20,21,22,23,24]
abbrev S38:List Int:=[32,58,59,44,91,93,40,41,123,125]
abbrev N38(k:Int)(j:Int):Jj:=[(0,.v (.int .i64 k)),(16,.agg A38),(17,.v (.int .i64 j))]
theorem GC:(⟨#[32,58,59,44,91,93,40,41,123,125]⟩:ByteArray)=bs S38:=rfl
theorem JSn(hlo:lo<=h.length)(j:Fin 10):
  evCode ⟨Aa,E,lo,h.length,JVZ⟩ JA Kx (N38 k (j.val:Int),h++[.cells A38])=
   if(K38[j.val]==k)=true then some (.ret,[(2,.v (.string (bs [S38[j.val]])))],h++[.cells A38])else some (.normal,N38 k ((j.val:Int)+1),h++[.cells A38]):=by
 have sz:(bs S38).size=10:=bs_size S38;have hl:S38.length=10:=rfl;have n10:((10:Nat):Int)=10:=rfl;rcases j with⟨j,hj⟩
 simp only;have hc:j=0\/j=1\/j=2\/j=3\/j=4\/j=5\/j=6\/j=7\/j=8\/j=9:=om;rcases hc with rfl|rfl|rfl|rfl|rfl|rfl|rfl|rfl|rfl|rfl
 ·have w1:Aq.wrap (0+1)=1:=rfl
  have n0:((0:Nat):Int)=0:=rfl;have ed:((S38.take 1).drop 0)=[32]:=rfl;show _=if((13:Int)==k)=true then some (Ex.ret,[(2,V.v (.string (bs [32])))],_)else some (Ex.normal,N38 k 1,_)
  rw[n0]
  cases q:((13:Int)==k)with
  |true=>simp only[go_sem,Kx,YV,Tryz.f105,Bu,Cv,Bn,Cb,decide_true,if_true,n10,hl,q,w1,GC,KN,ed]<;>rfl
  |false=>simp only[go_sem,Kx,YV,Tryz.f105,Bu,Bn,decide_true,if_true,n10,q,w1,Am,if_false]<;>rfl
 ·have w1:Aq.wrap (1+1)=2:=rfl
  have n0:((1:Nat):Int)=1:=rfl;have ed:((S38.take 2).drop 1)=[58]:=rfl;show _=if((16:Int)==k)=true then some (Ex.ret,[(2,V.v (.string (bs [58])))],_)else some (Ex.normal,N38 k 2,_)
  rw[n0]
  cases q:((16:Int)==k)with
  |true=>simp only[go_sem,Kx,YV,Tryz.f105,Bu,Cv,Bn,Cb,decide_true,if_true,n10,hl,q,w1,GC,KN,ed]<;>rfl
  |false=>simp only[go_sem,Kx,YV,Tryz.f105,Bu,Bn,decide_true,if_true,n10,q,w1,Am,if_false]<;>rfl
 ·have w1:Aq.wrap (2+1)=3:=rfl
  have n0:((2:Nat):Int)=2:=rfl;have ed:((S38.take 3).drop 2)=[59]:=rfl;show _=if((17:Int)==k)=true then some (Ex.ret,[(2,V.v (.string (bs [59])))],_)else some (Ex.normal,N38 k 3,_)
  rw[n0]
  cases q:((17:Int)==k)with
  |true=>simp only[go_sem,Kx,YV,Tryz.f105,Bu,Cv,Bn,Cb,decide_true,if_true,n10,hl,q,w1,GC,KN,ed]<;>rfl
  |false=>simp only[go_sem,Kx,YV,Tryz.f105,Bu,Bn,decide_true,if_true,n10,q,w1,Am,if_false]<;>rfl
 ·have w1:Aq.wrap (3+1)=4:=rfl
  have n0:((3:Nat):Int)=3:=rfl;have ed:((S38.take 4).drop 3)=[44]:=rfl;show _=if((18:Int)==k)=true then some (Ex.ret,[(2,V.v (.string (bs [44])))],_)else some (Ex.normal,N38 k 4,_)
  rw[n0]
  cases q:((18:Int)==k)with
  |true=>simp only[go_sem,Kx,YV,Tryz.f105,Bu,Cv,Bn,Cb,decide_true,if_true,n10,hl,q,w1,GC,KN,ed]<;>rfl
  |false=>simp only[go_sem,Kx,YV,Tryz.f105,Bu,Bn,decide_true,if_true,n10,q,w1,Am,if_false]<;>rfl
 ·have w1:Aq.wrap (4+1)=5:=rfl
  have n0:((4:Nat):Int)=4:=rfl;have ed:((S38.take 5).drop 4)=[91]:=rfl;show _=if((19:Int)==k)=true then some (Ex.ret,[(2,V.v (.string (bs [91])))],_)else some (Ex.normal,N38 k 5,_)
  rw[n0]
  cases q:((19:Int)==k)with
  |true=>simp only[go_sem,Kx,YV,Tryz.f105,Bu,Cv,Bn,Cb,decide_true,if_true,n10,hl,q,w1,GC,KN,ed]<;>rfl
  |false=>simp only[go_sem,Kx,YV,Tryz.f105,Bu,Bn,decide_true,if_true,n10,q,w1,Am,if_false]<;>rfl
 ·have w1:Aq.wrap (5+1)=6:=rfl
  have n0:((5:Nat):Int)=5:=rfl;have ed:((S38.take 6).drop 5)=[93]:=rfl;show _=if((20:Int)==k)=true then some (Ex.ret,[(2,V.v (.string (bs [93])))],_)else some (Ex.normal,N38 k 6,_)
  rw[n0]
  cases q:((20:Int)==k)with
  |true=>simp only[go_sem,Kx,YV,Tryz.f105,Bu,Cv,Bn,Cb,decide_true,if_true,n10,hl,q,w1,GC,KN,ed]<;>rfl
  |false=>simp only[go_sem,Kx,YV,Tryz.f105,Bu,Bn,decide_true,if_true,n10,q,w1,Am,if_false]<;>rfl
 ·have w1:Aq.wrap (6+1)=7:=rfl
  have n0:((6:Nat):Int)=6:=rfl;have ed:((S38.take 7).drop 6)=[40]:=rfl;show _=if((21:Int)==k)=true then some (Ex.ret,[(2,V.v (.string (bs [40])))],_)else some (Ex.normal,N38 k 7,_)
  rw[n0]
  cases q:((21:Int)==k)with
  |true=>simp only[go_sem,Kx,YV,Tryz.f105,Bu,Cv,Bn,Cb,decide_true,if_true,n10,hl,q,w1,GC,KN,ed]<;>rfl
  |false=>simp only[go_sem,Kx,YV,Tryz.f105,Bu,Bn,decide_true,if_true,n10,q,w1,Am,if_false]<;>rfl
 ·have w1:Aq.wrap (7+1)=8:=rfl
  have n0:((7:Nat):Int)=7:=rfl;have ed:((S38.take 8).drop 7)=[41]:=rfl;show _=if((22:Int)==k)=true then some (Ex.ret,[(2,V.v (.string (bs [41])))],_)else some (Ex.normal,N38 k 8,_)
  rw[n0]
  cases q:((22:Int)==k)with
  |true=>simp only[go_sem,Kx,YV,Tryz.f105,Bu,Cv,Bn,Cb,decide_true,if_true,n10,hl,q,w1,GC,KN,ed]<;>rfl
  |false=>simp only[go_sem,Kx,YV,Tryz.f105,Bu,Bn,decide_true,if_true,n10,q,w1,Am,if_false]<;>rfl
 ·have w1:Aq.wrap (8+1)=9:=rfl
  have n0:((8:Nat):Int)=8:=rfl;have ed:((S38.take 9).drop 8)=[123]:=rfl;show _=if((23:Int)==k)=true then some (Ex.ret,[(2,V.v (.string (bs [123])))],_)else some (Ex.normal,N38 k 9,_)
  rw[n0]
  cases q:((23:Int)==k)with
  |true=>simp only[go_sem,Kx,YV,Tryz.f105,Bu,Cv,Bn,Cb,decide_true,if_true,n10,hl,q,w1,GC,KN,ed]<;>rfl
  |false=>simp only[go_sem,Kx,YV,Tryz.f105,Bu,Bn,decide_true,if_true,n10,q,w1,Am,if_false]<;>rfl
 ·have w1:Aq.wrap (9+1)=10:=rfl
  have n0:((9:Nat):Int)=9:=rfl;have ed:((S38.take 10).drop 9)=[125]:=rfl;show _=if((24:Int)==k)=true then some (Ex.ret,[(2,V.v (.string (bs [125])))],_)else some (Ex.normal,N38 k 10,_)
  rw[n0]
  cases q:((24:Int)==k)with
  |true=>simp only[go_sem,Kx,YV,Tryz.f105,Bu,Cv,Bn,Cb,decide_true,if_true,n10,hl,q,w1,GC,KN,ed]<;>rfl
  |false=>simp only[go_sem,Kx,YV,Tryz.f105,Bu,Bn,decide_true,if_true,n10,q,w1,Am,if_false]<;>rfl
theorem Jh4:∀j:Fin 10,JA0 K38[j.val]=[S38[j.val]]:=by decide
theorem JWX(hlo:lo<=h.length):∀(m j:Nat),j+m=10->k∈K38.drop j->
  JA (evCode ⟨Aa,E,lo,h.length,JVZ⟩ JA Kx) (N38 k (j:Int),h++[.cells A38])=some (.ret,[(2,.v (.string (bs (JA0 k))))],h++[.cells A38]):=by
 intro m
 induction m with
 |zero=>
  intro j hj hk;obtain rfl:j=10:=om
  cases hk
 |succ m ih=>
  intro j hj hk;have hjl:j<K38.length:=by show j<10;omega
  have hr:=JSn (lo:=lo) (h:=h) (k:=k) hlo ⟨j,om⟩;simp only at hr;rw[loop_eq,hr];have hd:K38.drop j=K38[j]::K38.drop (j+1):=AD hjl
  cases q:(K38[j]==k)with
  |true=>
   have hf:=Jh4 ⟨j,om⟩;simp only at hf;have e:K38[j]=k:=by simpa using q
   rw[if_pos rfl,<-e,hf]<;>rfl
  |false=>
   rw[if_neg (by simp),JK]
   rw[hd]at hk;rcases List.mem_cons.1 hk with hk|hk
   ·rw[<-hk]at q
    simp at q
   ·exact ih (j+1) om hk
theorem f105(hlo:lo<=h.length)(hk:k=6\/k=8\/k=13\/k=14\/k=15\/k=16\/k=17\/k=18\/k=19\/k=20\/k=21\/k=22\/k=23\/k=24):
  E lo 105 [.v (.int .i64 k)] h=some (.v (.string (bs (JA0 k))),h):=by
 have hL:=λ(hk:k∈K38)=>JWX (lo:=lo) (h:=h) (k:=k) hlo 10 0 rfl hk
 have n0:((0:Nat):Int)=0:=rfl;rw[n0]at hL;simp only[Kx,YV,Tryz.f105,JD,JT,JB,go_sem,A38,N38]at hL;rw[Jn5];rcases hk with rfl|rfl|rfl|rfl|rfl|rfl|rfl|rfl|rfl|rfl|rfl|rfl|rfl|rfl
 all_goals first
  |(
    have hL:=hL (by decide)
    simp only[go_sem,YV,Tryz.f105,Ap,hlo,hL]
    all_goals rfl)
  |(
    simp only[go_sem,YV,Tryz.f105,Ap,hlo]
    all_goals rfl)
end
theorem JMp{b w:Bool}{m:Int}{p:Nat}{t:List Int}(m0:0<=m)(m1:m<=9223372036854775808)(hp:p<=64)(h:G0 b w m p=some t):By t/\t.length<=200:=by
 obtain⟨g1,g2⟩:=G2 19 m m0 (by
                     have:(10:Int)^ (19+1)=100000000000000000000:=by decide
                     omega)
 have h2:t=(if b=true then[45]else[])++(((A0 (p+1-(Qr m).length) 48++Qr m).take ((A0 (p+1-(Qr m).length) 48++Qr m).length-p)++(if w=true then[]else 46::((A0 (p+1-(Qr m).length) 48++Qr m).drop ((A0 (p+1-(Qr m).length) 48++Qr m).length-p)++if p=0 then[48]else[])))):=by
  unfold G0 at h
  split at h
  ·cases h
  ·exact(Option.some.inj h).symm
 have hT:By (A0 (p+1-(Qr m).length) 48++Qr m):=by
  refine J6 (λc hc=>?_) (JMd m)
  have:=Lm hc;omega
 have hTl:(A0 (p+1-(Qr m).length) (48:Int)++Qr m).length<=90:=by simp;omega
 generalize A0 (p+1-(Qr m).length) (48:Int)++Qr m=T at*;subst h2
 constructor
 ·refine J6 ?_ (J6 (λc hc=>hT c (List.mem_of_mem_take hc)) ?_)
  ·split
   ·exact Jh om om J9
   ·exact J9
  ·split
   ·exact J9
   ·refine Jh om om (J6 (λc hc=>hT c (List.mem_of_mem_drop hc)) ?_)
    split
    ·exact Jh om om J9
    ·exact J9
 ·have a1:(if b=true then[(45:Int)]else[]).length<=1:=by split<;>simp
  have a2:(if w=true then[]else 46::(T.drop (T.length-p)++if p=0 then[(48:Int)]else[])).length<=95:=by
   split
   ·simp
   ·have a3:(if p=0 then[(48:Int)]else[]).length<=1:=by split<;>simp
    simp only[Ae,Ah,List.length_drop];omega
  simp only[Ah,List.length_take];omega
theorem WU{n d:Int}{w:Bool}(h0: -9223372036854775808<=n)(h1:n<=9223372036854775807)(h2: -9223372036854775808<=d)(h3:d<=9223372036854775807):By ((Ji n d w).getD [])/\((Ji n d w).getD []).length<=200:=by
 cases ht:Ji n d w with
 |none=>exact⟨J9,by simp⟩
 |some t=>
  simp only[BJ];unfold Ji at ht
  split at ht
  ·cases ht
  ·rename_i hc
   split at ht
   ·cases ht
    split
    ·refine⟨λc hc=>?_,by simp⟩
     have:=Lm hc;omega
    ·exact⟨Jh om om (Jh om om (Jh om om (Jh om om J9))),by simp⟩
   ·rename_i hd
    have hm:ko n d=true:=by
     cases q:ko n d with
     |true=>rfl
     |false=>rw[q]at hc;simp at hc
    have h1d:=JHi hm hd
    split at ht
    ·cases ht
    ·rename_i m p hp
     obtain⟨m0,m1,p1⟩:=JCk om om h1d h3 hp;exact JMp m0 m1 p1 ht
section
variable{lo:Nat}{h:JC}{k n d:Int}{b:List Int}{w i:Bool}
theorem JX9:(⟨#[40]⟩:ByteArray)=bs [40]:=rfl
theorem JYA:(⟨#[64]⟩:ByteArray)=bs [64]:=rfl
theorem JNv:(⟨#[35]⟩:ByteArray)=bs [35]:=rfl
theorem JYB:(⟨#[37]⟩:ByteArray)=bs [37]:=rfl
theorem Jh5:(⟨#[34,92]⟩:ByteArray)=bs sg5:=rfl
theorem Jh6:(⟨#[34,39,40,41,92]⟩:ByteArray)=bs sg7:=rfl
theorem JNw:(⟨#[92,10]⟩:ByteArray)=bs [92,10]:=rfl
theorem JYC:By [92]:=λx hx=>by simp at hx;omega
theorem Jbk:∀c∈sg5,0<=c/\c<128:=by decide
theorem Jbl:∀c∈sg7,0<=c/\c<128:=by decide
def Yh(t:List Int):V:= .tup [.v (.string (bs t)),.v (.int .i64 0)]
def ZR:V:= .tup [.v (.string (bs [])),.v (.int .i64 1)]
def ZS(k:Int)(b:List Int)(n d:Int)(w i:Bool):V:=if KL k b n d w i=true then Yh (JY k b n d w i)else ZR
theorem JAj(hy:By b)(hs:KD b=true):∃L,b=JJ L/\WJ b=L/\(∀x∈L,JQ x=x)/\L.contains 0=false/\L.length<=b.length:=by
 have h2:=hs;unfold KD at h2;rw[Af]at h2;refine⟨WJ b,(JCA b hy h2.1).symm,rfl,JB9 b hy,?_,JA5 b⟩
 rw[JCi hy h2.1];simpa using h2.2
theorem JGd(h:KL k b n d w i=true)(hk:k=1\/k=2\/k=3\/k=4\/k=5\/k=7\/k=12):KD b=true:=by unfold KL at h;rcases hk with rfl|rfl|rfl|rfl|rfl|rfl|rfl<;>simp at h<;>simp[h]
theorem JSo(h:KL k b n d w i=true)(hk:k=1\/k=2\/k=3\/k=4\/k=12):b≠[]:=by unfold KL at h;rcases hk with rfl|rfl|rfl|rfl|rfl<;>simp at h<;>simp[h]
theorem Yq(h:KL k b n d w i=true)(hk:k=10\/k=11\/k=12):∃t,Ji n d w=some t:=by
 unfold KL at h;have:(Ji n d w).isSome=true:=by rcases hk with rfl|rfl|rfl<;>simp at h<;>simp[h]
 exact Option.isSome_iff_exists.1 this
theorem JKf(h:KL k b n d w i=true):1<=k/\k<=24:=by
 unfold KL at h;rcases kinds k with hk|hk|hk|hk|hk|hk|hk|hk
 all_goals first
  |omega
  |(
    exfalso;rw[if_neg om,if_neg om,if_neg om,if_neg om,if_neg om,if_neg om,if_neg om]at h
    cases h)
theorem Jpn(hlo:lo<=h.length)(hy:By b)(hl:b.length<=10000000)(h0: -9223372036854775808<=n)(h1:n<=9223372036854775807)(h2: -9223372036854775808<=d)(h3:d<=9223372036854775807)(hm:KL k b n d w i=false):
  E lo 76 [.agg (JM k b n d w i)] h=some (ZR,h):=by
 have hl1:lo<=(h++[Ob.cells (JM k b n d w i)]).length:=by simp;omega
 have hl2:h.length<=(h++[Ob.cells (JM k b n d w i)]).length:=by simp
 have hl3:h.length+1<=(h++[Ob.cells (JM k b n d w i)]).length:=by simp
 have km:=λlo hlo=>f40 (lo:=lo) (h:=h++[Ob.cells (JM k b n d w i)]) (k:=k) (b:=b) (n:=n) (d:=d) (w:=w) (i:=i) hlo hy om h0 h1 h2 h3
 rw[hm]at km;have kma:=km lo hl1;have kmb:=km h.length hl2;have kmc:=km (h.length+1) hl3;rw[e76];unfold JM at*;simp only[go_sem,b76,Tryz.f76,hlo,kma,kmb,kmc]<;>rfl
theorem p1(hlo:lo<=h.length){L:List Int}(hs:∀x∈L,JQ x=x)(hz:L.contains 0=false)(hl:L.length<=10000000)(hb:(JJ L).length<=10000000)(h0: -9223372036854775808<=n)(h1:n<=9223372036854775807)(h2: -9223372036854775808<=d)(h3:d<=9223372036854775807)(hm:KL 1 (JJ L) n d w i=true):
  E lo 76 [.agg (JM 1 (JJ L) n d w i)] h=some (Yh (Ja L),h):=by
 have hl1:lo<=(h++[Ob.cells (JM 1 (JJ L) n d w i)]).length:=by simp;omega
 have hl2:h.length<=(h++[Ob.cells (JM 1 (JJ L) n d w i)]).length:=by simp
 have hl3:h.length+1<=(h++[Ob.cells (JM 1 (JJ L) n d w i)]).length:=by simp
 have km:=λlo hlo=>f40 (lo:=lo) (h:=h++[Ob.cells (JM 1 (JJ L) n d w i)]) (k:=1) (b:=(JJ L)) (n:=n) (d:=d) (w:=w) (i:=i) hlo (J8 L) om h0 h1 h2 h3
 rw[hm]at km;have ki:=λlo hlo=>f101 (lo:=lo) (h:=h++[Ob.cells (JM 1 (JJ L) n d w i)]) hlo hs hl
 have kma:=km lo hl1;have kmb:=km h.length hl2;have kmc:=km (h.length+1) hl3;have kia:=ki lo hl1;have kib:=ki h.length hl2;have kic:=ki (h.length+1) hl3;have hil:=QN L;rw[e76];unfold JM at*;simp only[go_sem,b76,Tryz.f76,Ap,hlo,kma,kmb,kmc,kia,kib,kic]<;>rfl
theorem p2(hlo:lo<=h.length){L:List Int}(hs:∀x∈L,JQ x=x)(hz:L.contains 0=false)(hl:L.length<=10000000)(hb:(JJ L).length<=10000000)(h0: -9223372036854775808<=n)(h1:n<=9223372036854775807)(h2: -9223372036854775808<=d)(h3:d<=9223372036854775807)(hm:KL 2 (JJ L) n d w i=true):
  E lo 76 [.agg (JM 2 (JJ L) n d w i)] h=some (Yh (Ja L++[40]),h):=by
 have hl1:lo<=(h++[Ob.cells (JM 2 (JJ L) n d w i)]).length:=by simp;omega
 have hl2:h.length<=(h++[Ob.cells (JM 2 (JJ L) n d w i)]).length:=by simp
 have hl3:h.length+1<=(h++[Ob.cells (JM 2 (JJ L) n d w i)]).length:=by simp
 have km:=λlo hlo=>f40 (lo:=lo) (h:=h++[Ob.cells (JM 2 (JJ L) n d w i)]) (k:=2) (b:=(JJ L)) (n:=n) (d:=d) (w:=w) (i:=i) hlo (J8 L) om h0 h1 h2 h3
 rw[hm]at km;have ki:=λlo hlo=>f101 (lo:=lo) (h:=h++[Ob.cells (JM 2 (JJ L) n d w i)]) hlo hs hl
 have kma:=km lo hl1;have kmb:=km h.length hl2;have kmc:=km (h.length+1) hl3;have kia:=ki lo hl1;have kib:=ki h.length hl2;have kic:=ki (h.length+1) hl3;have hil:=QN L;have z1:(bs (Ja L)).size+(bs [40]).size<=9223372036854775807:=by rw[bs_size,bs_size];simp;omega
 rw[e76];unfold JM at*;simp only[go_sem,b76,Tryz.f76,Ap,hlo,kma,kmb,kmc,kia,kib,kic,JX9,Jb,z1]<;>rfl
theorem p3(hlo:lo<=h.length){L:List Int}(hs:∀x∈L,JQ x=x)(hz:L.contains 0=false)(hl:L.length<=10000000)(hb:(JJ L).length<=10000000)(h0: -9223372036854775808<=n)(h1:n<=9223372036854775807)(h2: -9223372036854775808<=d)(h3:d<=9223372036854775807)(hm:KL 3 (JJ L) n d w i=true):
  E lo 76 [.agg (JM 3 (JJ L) n d w i)] h=some (Yh (64::Ja L),h):=by
 have hl1:lo<=(h++[Ob.cells (JM 3 (JJ L) n d w i)]).length:=by simp;omega
 have hl2:h.length<=(h++[Ob.cells (JM 3 (JJ L) n d w i)]).length:=by simp
 have hl3:h.length+1<=(h++[Ob.cells (JM 3 (JJ L) n d w i)]).length:=by simp
 have km:=λlo hlo=>f40 (lo:=lo) (h:=h++[Ob.cells (JM 3 (JJ L) n d w i)]) (k:=3) (b:=(JJ L)) (n:=n) (d:=d) (w:=w) (i:=i) hlo (J8 L) om h0 h1 h2 h3
 rw[hm]at km;have ki:=λlo hlo=>f101 (lo:=lo) (h:=h++[Ob.cells (JM 3 (JJ L) n d w i)]) hlo hs hl
 have kma:=km lo hl1;have kmb:=km h.length hl2;have kmc:=km (h.length+1) hl3;have kia:=ki lo hl1;have kib:=ki h.length hl2;have kic:=ki (h.length+1) hl3;have hil:=QN L;have z1:(bs [64]).size+(bs (Ja L)).size<=9223372036854775807:=by rw[bs_size,bs_size];simp;omega
 rw[e76];unfold JM at*;simp only[go_sem,b76,Tryz.f76,Ap,hlo,kma,kmb,kmc,kia,kib,kic,JYA,Jb,z1,A1]<;>rfl
theorem p4t(hlo:lo<=h.length){L:List Int}(hs:∀x∈L,JQ x=x)(hz:L.contains 0=false)(hl:L.length<=10000000)(hb:(JJ L).length<=10000000)(h0: -9223372036854775808<=n)(h1:n<=9223372036854775807)(h2: -9223372036854775808<=d)(h3:d<=9223372036854775807)(hm:KL 4 (JJ L) n d w true=true):
  E lo 76 [.agg (JM 4 (JJ L) n d w true)] h=some (Yh (35::Ja L),h):=by
 have hl1:lo<=(h++[Ob.cells (JM 4 (JJ L) n d w true)]).length:=by simp;omega
 have hl2:h.length<=(h++[Ob.cells (JM 4 (JJ L) n d w true)]).length:=by simp
 have hl3:h.length+1<=(h++[Ob.cells (JM 4 (JJ L) n d w true)]).length:=by simp
 have km:=λlo hlo=>f40 (lo:=lo) (h:=h++[Ob.cells (JM 4 (JJ L) n d w true)]) (k:=4) (b:=(JJ L)) (n:=n) (d:=d) (w:=w) (i:=true) hlo (J8 L) om h0 h1 h2 h3
 rw[hm]at km;have ki:=λlo hlo=>f101 (lo:=lo) (h:=h++[Ob.cells (JM 4 (JJ L) n d w true)]) hlo hs hl
 have kma:=km lo hl1;have kmb:=km h.length hl2;have kmc:=km (h.length+1) hl3;have kia:=ki lo hl1;have kib:=ki h.length hl2;have kic:=ki (h.length+1) hl3;have hil:=QN L;have z1:(bs [35]).size+(bs (Ja L)).size<=9223372036854775807:=by rw[bs_size,bs_size];simp;omega
 rw[e76];unfold JM at*;simp only[go_sem,b76,Tryz.f76,Ap,hlo,kma,kmb,kmc,kia,kib,kic,JNv,Jb,z1,A1]<;>rfl
theorem p4f(hlo:lo<=h.length){L:List Int}(hs:∀x∈L,JQ x=x)(hz:L.contains 0=false)(hl:L.length<=10000000)(hb:(JJ L).length<=10000000)(h0: -9223372036854775808<=n)(h1:n<=9223372036854775807)(h2: -9223372036854775808<=d)(h3:d<=9223372036854775807)(hm:KL 4 (JJ L) n d w false=true):
  E lo 76 [.agg (JM 4 (JJ L) n d w false)] h=some (Yh (35::Jl L),h):=by
 have hl1:lo<=(h++[Ob.cells (JM 4 (JJ L) n d w false)]).length:=by simp;omega
 have hl2:h.length<=(h++[Ob.cells (JM 4 (JJ L) n d w false)]).length:=by simp
 have hl3:h.length+1<=(h++[Ob.cells (JM 4 (JJ L) n d w false)]).length:=by simp
 have km:=λlo hlo=>f40 (lo:=lo) (h:=h++[Ob.cells (JM 4 (JJ L) n d w false)]) (k:=4) (b:=(JJ L)) (n:=n) (d:=d) (w:=w) (i:=false) hlo (J8 L) om h0 h1 h2 h3
 rw[hm]at km;have ki:=λlo hlo=>f102 (lo:=lo) (h:=h++[Ob.cells (JM 4 (JJ L) n d w false)]) hlo hs hl
 have kma:=km lo hl1;have kmb:=km h.length hl2;have kmc:=km (h.length+1) hl3;have kia:=ki lo hl1;have kib:=ki h.length hl2;have kic:=ki (h.length+1) hl3;have hil:=KV L;have z1:(bs [35]).size+(bs (Jl L)).size<=9223372036854775807:=by rw[bs_size,bs_size];simp;omega
 rw[e76];unfold JM at*;simp only[go_sem,b76,Tryz.f76,Ap,hlo,kma,kmb,kmc,kia,kib,kic,JNv,Jb,z1,A1]<;>rfl
theorem p5(hlo:lo<=h.length){L:List Int}(hs:∀x∈L,JQ x=x)(hz:L.contains 0=false)(hl:L.length<=10000000)(hb:(JJ L).length<=10000000)(h0: -9223372036854775808<=n)(h1:n<=9223372036854775807)(h2: -9223372036854775808<=d)(h3:d<=9223372036854775807)(hm:KL 5 (JJ L) n d w i=true):
  E lo 76 [.agg (JM 5 (JJ L) n d w i)] h=some (Yh (34::(KS sg5 false L++[34])),h):=by
 have hl1:lo<=(h++[Ob.cells (JM 5 (JJ L) n d w i)]).length:=by simp;omega
 have hl2:h.length<=(h++[Ob.cells (JM 5 (JJ L) n d w i)]).length:=by simp
 have hl3:h.length+1<=(h++[Ob.cells (JM 5 (JJ L) n d w i)]).length:=by simp
 have km:=λlo hlo=>f40 (lo:=lo) (h:=h++[Ob.cells (JM 5 (JJ L) n d w i)]) (k:=5) (b:=(JJ L)) (n:=n) (d:=d) (w:=w) (i:=i) hlo (J8 L) om h0 h1 h2 h3
 rw[hm]at km;have ki:=λlo hlo=>f103 (lo:=lo) (h:=h++[Ob.cells (JM 5 (JJ L) n d w i)]) (sg:=sg5) (sp:=false) hlo Jbk (by decide) hs hl
 have kma:=km lo hl1;have kmb:=km h.length hl2;have kmc:=km (h.length+1) hl3;have kia:=ki lo hl1;have kib:=ki h.length hl2;have kic:=ki (h.length+1) hl3;have hil:=WT sg5 false L;have z1:(bs [34]).size+(bs (KS sg5 false L)).size<=9223372036854775807:=by rw[bs_size,bs_size];simp;omega
 have z2:(bs (34::KS sg5 false L)).size+(bs [34]).size<=9223372036854775807:=by rw[bs_size,bs_size];simp;omega
 rw[e76];unfold JM at*;simp only[go_sem,b76,Tryz.f76,Ap,hlo,kma,kmb,kmc,kia,kib,kic,Jh5,JX7,Jb,z1,z2,Al,Ai]<;>rfl
theorem p7(hlo:lo<=h.length){L:List Int}(hs:∀x∈L,JQ x=x)(hz:L.contains 0=false)(hl:L.length<=10000000)(hb:(JJ L).length<=10000000)(h0: -9223372036854775808<=n)(h1:n<=9223372036854775807)(h2: -9223372036854775808<=d)(h3:d<=9223372036854775807)(hm:KL 7 (JJ L) n d w i=true):
  E lo 76 [.agg (JM 7 (JJ L) n d w i)] h=some (Yh (117::114::108::40::(KS sg7 true L++[41])),h):=by
 have hl1:lo<=(h++[Ob.cells (JM 7 (JJ L) n d w i)]).length:=by simp;omega
 have hl2:h.length<=(h++[Ob.cells (JM 7 (JJ L) n d w i)]).length:=by simp
 have hl3:h.length+1<=(h++[Ob.cells (JM 7 (JJ L) n d w i)]).length:=by simp
 have km:=λlo hlo=>f40 (lo:=lo) (h:=h++[Ob.cells (JM 7 (JJ L) n d w i)]) (k:=7) (b:=(JJ L)) (n:=n) (d:=d) (w:=w) (i:=i) hlo (J8 L) om h0 h1 h2 h3
 rw[hm]at km;have ki:=λlo hlo=>f103 (lo:=lo) (h:=h++[Ob.cells (JM 7 (JJ L) n d w i)]) (sg:=sg7) (sp:=true) hlo Jbl (by decide) hs hl
 have kma:=km lo hl1;have kmb:=km h.length hl2;have kmc:=km (h.length+1) hl3;have kia:=ki lo hl1;have kib:=ki h.length hl2;have kic:=ki (h.length+1) hl3;have hil:=WT sg7 true L;have z1:(bs [117,114,108,40]).size+(bs (KS sg7 true L)).size<=9223372036854775807:=by rw[bs_size,bs_size];simp;omega
 have z2:(bs (117::114::108::40::KS sg7 true L)).size+(bs [41]).size<=9223372036854775807:=by rw[bs_size,bs_size];simp;omega
 rw[e76];unfold JM at*;simp only[go_sem,b76,Tryz.f76,Ap,hlo,kma,kmb,kmc,kia,kib,kic,Jh6,JSm,JX8,Jb,z1,z2,Al,Ai]<;>rfl
theorem p9(hlo:lo<=h.length)(hy:By b)(hl:b.length<=10000000)(h0: -9223372036854775808<=n)(h1:n<=9223372036854775807)(h2: -9223372036854775808<=d)(h3:d<=9223372036854775807)(hm:KL 9 b n d w i=true):
  E lo 76 [.agg (JM 9 b n d w i)] h=some (Yh (if b=[92]then[92,10]else b),h):=by
 have hl1:lo<=(h++[Ob.cells (JM 9 b n d w i)]).length:=by simp;omega
 have hl2:h.length<=(h++[Ob.cells (JM 9 b n d w i)]).length:=by simp
 have hl3:h.length+1<=(h++[Ob.cells (JM 9 b n d w i)]).length:=by simp
 have km:=λlo hlo=>f40 (lo:=lo) (h:=h++[Ob.cells (JM 9 b n d w i)]) (k:=9) (b:=b) (n:=n) (d:=d) (w:=w) (i:=i) hlo hy om h0 h1 h2 h3
 rw[hm]at km;have kma:=km lo hl1;have kmb:=km h.length hl2;have kmc:=km (h.length+1) hl3;have hb:=W1 hy JYC;rw[e76];unfold JM at*;by_cases hc:b=[92]
 ·have q:(b==[92])=true:=by simp[hc]
  rw[q]at hb;rw[if_pos hc];simp only[go_sem,b76,Tryz.f76,Ap,hlo,kma,kmb,kmc,GY,hb,JNw]<;>rfl
 ·have q:(b==[92])=false:=by simp[hc]
  rw[q]at hb;rw[if_neg hc];simp only[go_sem,b76,Tryz.f76,Ap,hlo,kma,kmb,kmc,GY,hb]<;>rfl
theorem p10(hlo:lo<=h.length)(hy:By b)(hl:b.length<=10000000)(h0: -9223372036854775808<=n)(h1:n<=9223372036854775807)(h2: -9223372036854775808<=d)(h3:d<=9223372036854775807)(hm:KL 10 b n d w i=true){t:List Int}(ht:Ji n d w=some t):
  E lo 76 [.agg (JM 10 b n d w i)] h=some (Yh (t),h):=by
 have hl1:lo<=(h++[Ob.cells (JM 10 b n d w i)]).length:=by simp;omega
 have hl2:h.length<=(h++[Ob.cells (JM 10 b n d w i)]).length:=by simp
 have hl3:h.length+1<=(h++[Ob.cells (JM 10 b n d w i)]).length:=by simp
 have km:=λlo hlo=>f40 (lo:=lo) (h:=h++[Ob.cells (JM 10 b n d w i)]) (k:=10) (b:=b) (n:=n) (d:=d) (w:=w) (i:=i) hlo hy om h0 h1 h2 h3
 rw[hm]at km;have kp:=λlo hlo=>f97 (lo:=lo) (h:=h++[Ob.cells (JM 10 b n d w i)]) hlo (n:=n) (d:=d) (w:=w) h0 h1 h2 h3
 have ep:Qs (some t)= .tup [.v (.string (bs t)),.v (.int .i64 0)]:=rfl;rw[ht,ep]at kp;have kma:=km lo hl1;have kmb:=km h.length hl2;have kmc:=km (h.length+1) hl3;have kpa:=kp lo hl1;have kpb:=kp h.length hl2;have kpc:=kp (h.length+1) hl3;have hok:=(WU (n:=n) (d:=d) (w:=w) h0 h1 h2 h3).2;rw[ht]at hok;simp only[BJ]at hok;rw[e76];unfold JM at*
 simp only[go_sem,b76,Tryz.f76,Ap,hlo,kma,kmb,kmc,kpa,kpb,kpc]<;>rfl
theorem p11(hlo:lo<=h.length)(hy:By b)(hl:b.length<=10000000)(h0: -9223372036854775808<=n)(h1:n<=9223372036854775807)(h2: -9223372036854775808<=d)(h3:d<=9223372036854775807)(hm:KL 11 b n d w i=true){t:List Int}(ht:Ji n d w=some t):
  E lo 76 [.agg (JM 11 b n d w i)] h=some (Yh (t++[37]),h):=by
 have hl1:lo<=(h++[Ob.cells (JM 11 b n d w i)]).length:=by simp;omega
 have hl2:h.length<=(h++[Ob.cells (JM 11 b n d w i)]).length:=by simp
 have hl3:h.length+1<=(h++[Ob.cells (JM 11 b n d w i)]).length:=by simp
 have km:=λlo hlo=>f40 (lo:=lo) (h:=h++[Ob.cells (JM 11 b n d w i)]) (k:=11) (b:=b) (n:=n) (d:=d) (w:=w) (i:=i) hlo hy om h0 h1 h2 h3
 rw[hm]at km;have kp:=λlo hlo=>f97 (lo:=lo) (h:=h++[Ob.cells (JM 11 b n d w i)]) hlo (n:=n) (d:=d) (w:=w) h0 h1 h2 h3
 have ep:Qs (some t)= .tup [.v (.string (bs t)),.v (.int .i64 0)]:=rfl;rw[ht,ep]at kp;have kma:=km lo hl1;have kmb:=km h.length hl2;have kmc:=km (h.length+1) hl3;have kpa:=kp lo hl1;have kpb:=kp h.length hl2;have kpc:=kp (h.length+1) hl3;have hok:=(WU (n:=n) (d:=d) (w:=w) h0 h1 h2 h3).2;rw[ht]at hok;simp only[BJ]at hok;have z1:(bs t).size+(bs [37]).size<=9223372036854775807:=by rw[bs_size,bs_size];simp;omega
 rw[e76];unfold JM at*;simp only[go_sem,b76,Tryz.f76,Ap,hlo,kma,kmb,kmc,kpa,kpb,kpc,JYB,Jb,z1]<;>rfl
theorem p12(hlo:lo<=h.length){L:List Int}(hs:∀x∈L,JQ x=x)(hz:L.contains 0=false)(hl:L.length<=10000000)(hb:(JJ L).length<=10000000)(h0: -9223372036854775808<=n)(h1:n<=9223372036854775807)(h2: -9223372036854775808<=d)(h3:d<=9223372036854775807)(hn:L≠[])(hm:KL 12 (JJ L) n d w i=true){t:List Int}(ht:Ji n d w=some t):
  E lo 76 [.agg (JM 12 (JJ L) n d w i)] h=some (Yh (t++YM L),h):=by
 have hl1:lo<=(h++[Ob.cells (JM 12 (JJ L) n d w i)]).length:=by simp;omega
 have hl2:h.length<=(h++[Ob.cells (JM 12 (JJ L) n d w i)]).length:=by simp
 have hl3:h.length+1<=(h++[Ob.cells (JM 12 (JJ L) n d w i)]).length:=by simp
 have km:=λlo hlo=>f40 (lo:=lo) (h:=h++[Ob.cells (JM 12 (JJ L) n d w i)]) (k:=12) (b:=(JJ L)) (n:=n) (d:=d) (w:=w) (i:=i) hlo (J8 L) om h0 h1 h2 h3
 rw[hm]at km;have kp:=λlo hlo=>f97 (lo:=lo) (h:=h++[Ob.cells (JM 12 (JJ L) n d w i)]) hlo (n:=n) (d:=d) (w:=w) h0 h1 h2 h3
 have ep:Qs (some t)= .tup [.v (.string (bs t)),.v (.int .i64 0)]:=rfl;rw[ht,ep]at kp;have ku:=λlo hlo=>f104 (lo:=lo) (h:=h++[Ob.cells (JM 12 (JJ L) n d w i)]) hlo hs hn hl
 have kma:=km lo hl1;have kmb:=km h.length hl2;have kmc:=km (h.length+1) hl3;have kpa:=kp lo hl1;have kpb:=kp h.length hl2;have kpc:=kp (h.length+1) hl3;have kua:=ku lo hl1;have kub:=ku h.length hl2;have kuc:=ku (h.length+1) hl3;have hok:=(WU (n:=n) (d:=d) (w:=w) h0 h1 h2 h3).2;rw[ht]at hok;simp only[BJ]at hok;have hul:=zt L;have z1:(bs t).size+(bs (YM L)).size<=9223372036854775807:=by rw[bs_size,bs_size];omega
 rw[e76];unfold JM at*;simp only[go_sem,b76,Tryz.f76,Ap,hlo,kma,kmb,kmc,kpa,kpb,kpc,kua,kub,kuc,Jb,z1]<;>rfl
theorem Jpo(hlo:lo<=h.length)(hy:By b)(hl:b.length<=10000000)(h0: -9223372036854775808<=n)(h1:n<=9223372036854775807)(h2: -9223372036854775808<=d)(h3:d<=9223372036854775807)(hm:KL k b n d w i=true)(hk:k=6\/k=8\/k=13\/k=14\/k=15\/k=16\/k=17\/k=18\/k=19\/k=20\/k=21\/k=22\/k=23\/k=24):
  E lo 76 [.agg (JM k b n d w i)] h=some (Yh (JA0 k),h):=by
 have hl1:lo<=(h++[Ob.cells (JM k b n d w i)]).length:=by simp;omega
 have hl2:h.length<=(h++[Ob.cells (JM k b n d w i)]).length:=by simp
 have hl3:h.length+1<=(h++[Ob.cells (JM k b n d w i)]).length:=by simp
 have km:=λlo hlo=>f40 (lo:=lo) (h:=h++[Ob.cells (JM k b n d w i)]) (k:=k) (b:=b) (n:=n) (d:=d) (w:=w) (i:=i) hlo hy om h0 h1 h2 h3
 rw[hm]at km;have kf:=λlo hlo=>f105 (lo:=lo) (h:=h++[Ob.cells (JM k b n d w i)]) (k:=k) hlo hk
 have kma:=km lo hl1;have kmb:=km h.length hl2;have kmc:=km (h.length+1) hl3;have kfa:=kf lo hl1;have kfb:=kf h.length hl2;have kfc:=kf (h.length+1) hl3;rw[e76];unfold JM at*;rcases hk with rfl|rfl|rfl|rfl|rfl|rfl|rfl|rfl|rfl|rfl|rfl|rfl|rfl|rfl<;>
 simp only[go_sem,b76,Tryz.f76,Ap,hlo,kma,kmb,kmc,kfa,kfb,kfc]<;>rfl
theorem f76(hlo:lo<=h.length)(hy:By b)(hl:b.length<=10000000)(h0: -9223372036854775808<=n)(h1:n<=9223372036854775807)(h2: -9223372036854775808<=d)(h3:d<=9223372036854775807):E lo 76 [.agg (JM k b n d w i)] h=some (ZS k b n d w i,h):=by
 unfold ZS
 cases hm:KL k b n d w i with
 |false=>rw[if_neg (by simp)];exact Jpn hlo hy hl h0 h1 h2 h3 hm
 |true=>
  rw[if_pos rfl];have hk:=JKf hm;rcases(by omega:(k=1\/k=2\/k=3\/k=4\/k=5\/k=7\/k=12)\/k=9\/k=10\/k=11\/(k=6\/k=8\/k=13\/k=14\/k=15\/k=16\/k=17\/k=18\/k=19\/k=20\/k=21\/k=22\/k=23\/k=24))with hk|rfl|rfl|rfl|hk
  ·obtain⟨L,rfl,eL,hs,hz,hL⟩:=JAj hy (JGd hm hk)
   have hn:(k=1\/k=2\/k=3\/k=4\/k=12)->L≠[]:=λh e=>JSo hm h (by rw[e]<;>rfl)
   rcases hk with rfl|rfl|rfl|rfl|rfl|rfl|rfl
   ·have e:JY 1 (JJ L) n d w i=Ja L:=by unfold JY;rw[if_pos rfl,eL]
    rw[e];exact p1 hlo hs hz om hl h0 h1 h2 h3 hm
   ·have e:JY 2 (JJ L) n d w i=Ja L++[40]:=by unfold JY;rw[if_neg (by decide),if_pos rfl,eL]
    rw[e];exact p2 hlo hs hz om hl h0 h1 h2 h3 hm
   ·have e:JY 3 (JJ L) n d w i=64::Ja L:=by unfold JY;rw[if_neg (by decide),if_neg (by decide),if_pos rfl,eL]
    rw[e];exact p3 hlo hs hz om hl h0 h1 h2 h3 hm
   ·have e:JY 4 (JJ L) n d w i=35::(if i=true then Ja L else Jl L):=by unfold JY;rw[if_neg (by decide),if_neg (by decide),if_neg (by decide),if_pos rfl,eL]
    rw[e]
    cases i with
    |true=>rw[if_pos rfl];exact p4t hlo hs hz om hl h0 h1 h2 h3 hm
    |false=>rw[if_neg (by simp)];exact p4f hlo hs hz om hl h0 h1 h2 h3 hm
   ·have e:JY 5 (JJ L) n d w i=34::(KS [34,92] false L++[34]):=by unfold JY;rw[if_neg (by decide),if_neg (by decide),if_neg (by decide),if_neg (by decide),if_pos rfl,eL]
    rw[e];exact p5 hlo hs hz om hl h0 h1 h2 h3 hm
   ·have e:JY 7 (JJ L) n d w i=117::114::108::40::(KS [34,39,40,41,92] true L++[41]):=by unfold JY;rw[if_neg (by decide),if_neg (by decide),if_neg (by decide),if_neg (by decide),if_neg (by decide),if_pos rfl,eL]
    rw[e];exact p7 hlo hs hz om hl h0 h1 h2 h3 hm
   ·obtain⟨t,ht⟩:=Yq hm om
    have e:JY 12 (JJ L) n d w i=t++YM L:=by unfold JY;rw[if_neg (by decide),if_neg (by decide),if_neg (by decide),if_neg (by decide),if_neg (by decide),if_neg (by decide),if_neg (by decide),if_neg (by decide),if_neg (by decide),if_pos rfl,eL,ht]<;>rfl
    rw[e];exact p12 hlo hs hz om hl h0 h1 h2 h3 (hn om) hm ht
  ·have e:JY 9 b n d w i=if b=[92]then[92,10]else b:=by unfold JY;rw[if_neg (by decide),if_neg (by decide),if_neg (by decide),if_neg (by decide),if_neg (by decide),if_neg (by decide),if_pos rfl]
   rw[e];exact p9 hlo hy hl h0 h1 h2 h3 hm
  ·obtain⟨t,ht⟩:=Yq hm om
   have e:JY 10 b n d w i=t:=by unfold JY;rw[if_neg (by decide),if_neg (by decide),if_neg (by decide),if_neg (by decide),if_neg (by decide),if_neg (by decide),if_neg (by decide),if_pos rfl,ht]<;>rfl
   rw[e];exact p10 hlo hy hl h0 h1 h2 h3 hm ht
  ·obtain⟨t,ht⟩:=Yq hm om
   have e:JY 11 b n d w i=t++[37]:=by unfold JY;rw[if_neg (by decide),if_neg (by decide),if_neg (by decide),if_neg (by decide),if_neg (by decide),if_neg (by decide),if_neg (by decide),if_neg (by decide),if_pos rfl,ht]<;>rfl
   rw[e];exact p11 hlo hy hl h0 h1 h2 h3 hm ht
  ·have e:JY k b n d w i=JA0 k:=by unfold JY;rw[if_neg om,if_neg om,if_neg om,if_neg om,if_neg om,if_neg om,if_neg om,if_neg om,if_neg om,if_neg om]
   rw[e];exact Jpo hlo hy hl h0 h1 h2 h3 hm hk
end
structure Tk4 where
 k:Int
 b:List Int
 n:Int
 d:Int
 w:Bool
 i:Bool
def row(t:Tk4):List V:=JM t.k t.b t.n t.d t.w t.i
structure TokOk(t:Tk4):Prop where
 hy:By t.b
 hl:t.b.length<=10000000
 h0: -9223372036854775808<=t.n
 h1:t.n<=9223372036854775807
 h2: -9223372036854775808<=t.d
 h3:t.d<=9223372036854775807
def Ze(t:Tk4):Bool:=KL t.k t.b t.n t.d t.w t.i
def WV(t:Tk4):List Int:=JY t.k t.b t.n t.d t.w t.i
def qD(p:Option Int)(k:Int):List Int:=match p with
 |none=>[]
 |some j=>if qA j k=true then[47,42,42,47]else[]
def KZ(p:Option Int):List Tk4->List Int
 |[]=>[]
 |t::l=>qD p t.k++(WV t++KZ (some t.k) l)
def Zf:List Tk4->Nat
 |[]=>0
 |t::l=>10*t.b.length+304+Zf l
theorem JHo(p:Option Int)(k:Int):(qD p k).length<=4:=by
 unfold qD
 split
 ·simp
 ·split<;>simp
theorem Jbm(p:Option Int)(k:Int):By (qD p k):=by
 unfold qD
 split
 ·exact J9
 ·split
  ·exact Jh om om (Jh om om (Jh om om (Jh om om J9)))
  ·exact J9
theorem Yi{t:Tk4}(h:TokOk t):(WV t).length<=10*t.b.length+300:=JMm (WU h.h0 h.h1 h.h2 h.h3).2
theorem jA{t:Tk4}(h:TokOk t):By (WV t):=JPn h.hy (WU h.h0 h.h1 h.h2 h.h3).1
theorem ZT:∀(l:List Tk4) (p:Option Int),(∀t∈l,TokOk t)->(KZ p l).length<=Zf l
 |[],_,_=>by simp[KZ,Zf]
 |t::l,p,h=>by
  have:=Yi (h t (by simp))
  have:=JHo p t.k;have:=ZT l (some t.k) λx hx=>h x (by simp[hx])
  simp only[KZ,Zf,Ah];omega
theorem jd:∀(l:List Tk4) (p:Option Int),(∀t∈l,TokOk t)->By (KZ p l)
 |[],_,_=>J9
 |t::l,p,h=>J6 (Jbm p t.k) (J6 (jA (h t (by simp))) (jd l _ λx hx=>h x (by simp[hx])))
def Wn(l:List Tk4):Nat->Option Int
 |0=>none
 |j+1=>(l[j]?).map (·.k)
section
variable{lo:Nat}{h:JC}{l:List Tk4}{t:Tk4}{p0:V}{out:List Int}{Y:JC}{k:Nat}
theorem JNx:(⟨#[47,42,42,47]⟩:ByteArray)=bs [47,42,42,47]:=rfl
abbrev N20(h:JC)(l:List Tk4)(k:Nat):Jj:=[(0,.list .no (l.map row)),(4,.ptr h.length 0),(9,.list .no (l.map row)),(10,.v (.int .i64 l.length)),(11,.v (.int .i64 k))]
abbrev yg(h:JC)(p0:V)(out:List Int)(Y:JC):JC:=h++ .cells [p0,.list .yes (ri .u8 out)]::Y
theorem JMq(o c:Ob):(h++o::(Y++[c]))[h.length+(Y.length+1)]? =some c:=by
 rw[AZ om]
 simp
theorem JWY(hlo:lo<=h.length)(hp:H0 h.length p0=true)(hg:l[0]? =some t)(hok:TokOk t)(hm:Ze t=true)(hl:l.length<=1000000000)(ho:out.length<=900000000):
  evCode ⟨Aa,E,lo,h.length,h75⟩ JA Zt (N20 h l 0,yg h p0 out Y)=
   some (.normal,N20 h l 1,yg h (.ptr h.length 0) (out++WV t) (Y++[.cells (row t)])):=by
 have hlt:0<l.length:=(Ad.1 hg).1
 have hgr:(l.map row)[0]? =some (row t):=by simp[hg]
 have q:decide ((0:Int)<(l.length:Int))=true:=by simp;omega
 have q0:decide ((0:Int)<0)=false:=rfl;have w1:Aq.wrap (0+1)=1:=rfl;have k17:=λlo hlo=>f76 (lo:=lo) (h:=yg h p0 out (Y++[.cells (row t)])) (k:=t.k) (b:=t.b) (n:=t.n) (d:=t.d) (w:=t.w) (i:=t.i) hlo hok.hy hok.hl hok.h0 hok.h1 hok.h2 hok.h3
 have er:ZS t.k t.b t.n t.d t.w t.i= .tup [.v (.string (bs (WV t))),.v (.int .i64 0)]:=by unfold ZS Yh;unfold Ze at hm;rw[hm]<;>rfl
 rw[er]at k17;have hl1:lo<=(yg h p0 out (Y++[.cells (row t)])).length:=by simp;omega
 have hl2:h.length<=(yg h p0 out (Y++[.cells (row t)])).length:=by simp
 have k17a:=k17 lo hl1;have k17b:=k17 h.length hl2;have k17c:=k17 (yg h p0 out (Y++[.cells (row t)])).length (Ab _);have htl:=Yi hok;have hbl:=hok.hl;have c48:=λlo hlo=>f21 (lo:=lo) (p:=h) (q:=Y++[.cells (row t)]) (p0:=p0) (out:=out) hlo hp (s:=WV t) (jA hok) om om
 have c48a:=c48 lo hlo;have c48b:=c48 h.length (Ab _);clear k17 c48;have n0:((0:Nat):Int)=0:=rfl;have n1:((1:Nat):Int)=1:=rfl;have hlo2:lo<=AW h+(AW Y+1):=om;have hat:∀o c:Ob,(h++o::(Y++[c]))[h.length+(Y.length+1)]? =some c:=JMq;rw[N20,n0,N20,n1];unfold row JM at*;simp only[go_sem,Zt,b75,Tryz.f75,q,q0,hgr,w1,hlo,hlo2,hat,k17a,k17b,k17c,c48a,c48b,Bd,Ao,Al,Ai]
theorem JWZ{j:Nat}{t0:Tk4}(hlo:lo<=h.length)(hp:H0 h.length p0=true)(hg0:l[j]? =some t0)(hg:l[j+1]? =some t)(hok:TokOk t)(hm:Ze t=true)(hl:l.length<=1000000000)(ho:out.length<=900000000):
  evCode ⟨Aa,E,lo,h.length,h75⟩ JA Zt (N20 h l (j+1),yg h p0 out Y)=
   some (.normal,N20 h l (j+1+1),yg h (.ptr h.length 0) (out++(qD (some t0.k) t.k++WV t)) (Y++[.cells (row t)])):=by
 have hlt:j+1<l.length:=(Ad.1 hg).1
 have hgr:(l.map row)[j+1]? =some (row t):=by simp[hg]
 have hgr0:(l.map row)[j]? =some (row t0):=by simp[hg0]
 have q:decide (((j+1:Nat):Int)<(l.length:Int))=true:=by simp;omega
 have q0:decide ((0:Int)<((j+1:Nat):Int))=true:=by rw[decide_eq_true_iff];omega
 have w1:Aq.wrap (((j+1:Nat):Int)+1)=((j+1+1:Nat):Int):=JH om
 have w2:Aq.wrap (((j+1:Nat):Int)-1)=(j:Int):=by have e:((j+1:Nat):Int)-1=(j:Int):=om;rw[e];exact JN om om
 have k17:=λlo hlo=>f76 (lo:=lo) (h:=yg h p0 out (Y++[.cells (row t)])) (k:=t.k) (b:=t.b) (n:=t.n) (d:=t.d) (w:=t.w) (i:=t.i) hlo hok.hy hok.hl hok.h0 hok.h1 hok.h2 hok.h3
 have er:ZS t.k t.b t.n t.d t.w t.i= .tup [.v (.string (bs (WV t))),.v (.int .i64 0)]:=by unfold ZS Yh;unfold Ze at hm;rw[hm]<;>rfl
 rw[er]at k17;have hl1:lo<=(yg h p0 out (Y++[.cells (row t)])).length:=by simp;omega
 have hl2:h.length<=(yg h p0 out (Y++[.cells (row t)])).length:=by simp
 have k17a:=k17 lo hl1;have k17b:=k17 h.length hl2;have k17c:=k17 (yg h p0 out (Y++[.cells (row t)])).length (Ab _);have k47:=λlo hlo=>f100 (lo:=lo) (h:=yg h p0 out (Y++[.cells (row t)])) (ka:=t0.k) (ta:=t0.b) (na:=t0.n) (da:=t0.d) (wa:=t0.w) (ia:=t0.i) (kb:=t.k) (tb:=t.b) (nb:=t.n) (db:=t.d) (wb:=t.w) (ib:=t.i) hlo
 have k47a:=k47 lo hl1;have k47b:=k47 h.length hl2;have k47c:=k47 (h.length+(Y.length+1+1)) (by simp)
 have htl:=Yi hok;have hbl:=hok.hl;have c48:=λlo hlo=>f21 (lo:=lo) (p:=h) (q:=Y++[.cells (row t)]) (p0:=p0) (out:=out) hlo hp (s:=WV t) (jA hok) om om
 have c48a:=c48 lo hlo;have c48b:=c48 h.length (Ab _);have d48:=λlo hlo=>f21 (lo:=lo) (p:=h) (q:=Y++[.cells (row t)]) (p0:=p0) (out:=out) hlo hp (s:=[47,42,42,47]) (Jh om om (Jh om om (Jh om om (Jh om om J9)))) om (by simp)
 have d48a:=d48 lo hlo;have d48b:=d48 h.length (Ab _);have g48:=λlo hlo=>f21 (lo:=lo) (p:=h) (q:=Y++[.cells (row t)]) (p0:= .ptr h.length 0) (out:=out++[47,42,42,47]) hlo KJ (s:=WV t) (jA hok) (by simp;omega) om
 have g48a:=g48 lo hlo;have g48b:=g48 h.length (Ab _);clear k17 c48 d48 g48 k47;have hlo2:lo<=AW h+(AW Y+1):=om;have hat:∀o c:Ob,(h++o::(Y++[c]))[h.length+(Y.length+1)]? =some c:=JMq;rw[N20,N20];unfold row JM at*;unfold qD;simp only
 cases qa:qA t0.k t.k with
 |true=>
  rw[qa]at k47a k47b k47c;rw[if_pos rfl];rw[Ao]at g48a g48b
  simp only[go_sem,Zt,b75,Tryz.f75,q,q0,hgr,hgr0,w1,w2,hlo,hlo2,hat,k17a,k17b,k17c,k47a,k47b,k47c,JNx,d48a,d48b,g48a,g48b,Bd,Ao,Al,Ai]<;>rfl
 |false=>
  rw[qa]at k47a k47b k47c;rw[if_neg (by simp),Ai]
  simp only[go_sem,Zt,b75,Tryz.f75,q,q0,hgr,hgr0,w1,w2,hlo,hlo2,hat,k17a,k17b,k17c,k47a,k47b,k47c,c48a,c48b,Bd,Ao,Al,Ai]<;>rfl
theorem Jh7{k:Nat}(hlo:lo<=h.length)(hg:l[k]? =some t)(hok:TokOk t)(hm:Ze t=false)(hl:l.length<=1000000000):
  evCode ⟨Aa,E,lo,h.length,h75⟩ JA Zt (N20 h l k,yg h p0 out Y)=
   some (.ret,[(2,.v (.string (bs []))),(3,.v (.int .i64 1))],yg h p0 out (Y++[.cells (row t)])):=by
 have hlt:k<l.length:=(Ad.1 hg).1
 have hgr:(l.map row)[k]? =some (row t):=by simp[hg]
 have q:decide ((k:Int)<(l.length:Int))=true:=by simp;omega
 have k17:=λlo hlo=>f76 (lo:=lo) (h:=yg h p0 out (Y++[.cells (row t)])) (k:=t.k) (b:=t.b) (n:=t.n) (d:=t.d) (w:=t.w) (i:=t.i) hlo hok.hy hok.hl hok.h0 hok.h1 hok.h2 hok.h3
 have er:ZS t.k t.b t.n t.d t.w t.i= .tup [.v (.string (bs [])),.v (.int .i64 1)]:=by unfold ZS ZR;unfold Ze at hm;rw[hm]<;>rfl
 rw[er]at k17;have hl1:lo<=(yg h p0 out (Y++[.cells (row t)])).length:=by simp;omega
 have hl2:h.length<=(yg h p0 out (Y++[.cells (row t)])).length:=by simp
 have k17a:=k17 lo hl1;have k17b:=k17 h.length hl2;have k17c:=k17 (yg h p0 out (Y++[.cells (row t)])).length (Ab _);clear k17;have hlo2:lo<=AW h+(AW Y+1):=om;have hat:∀o c:Ob,(h++o::(Y++[c]))[h.length+(Y.length+1)]? =some c:=JMq;rw[N20];unfold row JM at*;simp only[go_sem,Zt,b75,Tryz.f75,q,hgr,hlo,hlo2,hat,k17a,k17b,k17c,Bd,Ao,Al,Ai]<;>rfl
theorem Jbn(hlo:lo<=h.length):JA (evCode ⟨Aa,E,lo,h.length,h75⟩ JA Zt) (N20 h l l.length,yg h p0 out Y)=
   some (.exit 0,N20 h l l.length++[(12,.v (.bool false))],yg h p0 out Y):=by
 have q:decide ((l.length:Int)<(l.length:Int))=false:=by simp
 rw[loop_eq];simp only[go_sem,Zt,b75,Tryz.f75,hlo,q]<;>rfl
theorem Jbo(hlo:lo<=h.length)(hl:l.length<=1000000000)(hok:∀t∈l,TokOk t):∀(m k:Nat) (p0:V) (out:List Int) (Y:JC),k+m=l.length->H0 h.length p0=true->out.length+Zf (l.drop k)<=900000000->
  if(l.drop k).all Ze=true then
   ∃p1 Z,H0 h.length p1=true/\JA (evCode ⟨Aa,E,lo,h.length,h75⟩ JA Zt) (N20 h l k,yg h p0 out Y)=some (.exit 0,N20 h l l.length++[(12,.v (.bool false))],yg h p1 (out++KZ (Wn l k) (l.drop k)) Z)
  else∃p1 o Z,JA (evCode ⟨Aa,E,lo,h.length,h75⟩ JA Zt) (N20 h l k,yg h p0 out Y)=some (.ret,[(2,.v (.string (bs []))),(3,.v (.int .i64 1))],yg h p1 o Z):=by
 intro m
 induction m with
 |zero=>
  intro k p0 out Y hk hp _;obtain rfl:k=l.length:=om;rw[Be,if_pos (show([]:List Tk4).all Ze=true from rfl)]
  exact⟨p0,Y,hp,by rw[Jbn hlo,KZ,Av]⟩
 |succ m ih=>
  intro k p0 out Y hk hp ho;have hlt:k<l.length:=om;have hg:l[k]? =some l[k]:=Ac hlt
  have hd:l.drop k=l[k]::l.drop (k+1):=AD hlt;have hok1:=hok l[k] (Ba hlt);rw[hd]at ho⊢;generalize l[k]=t at*;simp only[Zf]at ho
  cases hm:Ze t with
  |false=>
   rw[Bg,hm,Aw,if_neg (by simp)]
   exact⟨p0,out,Y++[.cells (row t)],by rw[loop_eq,Jh7 hlo hg hok1 hm hl,QY]⟩
  |true=>
   have htl:=Yi hok1;have hsl:=JHo (Wn l k) t.k
   have er:evCode ⟨Aa,E,lo,h.length,h75⟩ JA Zt (N20 h l k,yg h p0 out Y)=some (.normal,N20 h l (k+1),yg h (.ptr h.length 0) (out++(qD (Wn l k) t.k++WV t)) (Y++[.cells (row t)])):=by
    cases k with
    |zero=>exact JWY hlo hp hg hok1 hm hl om
    |succ j=>
     have hg0:l[j]? =some l[j]:=Ac om
     have e:Wn l (j+1)=some l[j].k:=by show(l[j]?).map (·.k)=_;rw[hg0]<;>rfl
     rw[e];exact JWZ hlo hp hg0 hg hok1 hm hl om
   have ek:Wn l (k+1)=some t.k:=by show(l[k]?).map (·.k)=_;rw[hg]<;>rfl
   have et:KZ (Wn l k) (t::l.drop (k+1))=(qD (Wn l k) t.k++WV t)++KZ (some t.k) (l.drop (k+1)):=by simp[KZ]
   have:=ih (k+1) (.ptr h.length 0) (out++(qD (Wn l k) t.k++WV t)) (Y++[.cells (row t)]) om KJ (by simp only[Ah];omega)
   rw[Bg,hm,AB,loop_eq,er,JK,et];rw[ek,Ao]at this;exact this
def JGe(l:List Tk4):V:=if l.all Ze=true then Yh (KZ none l)else ZR
theorem f75(hlo:lo<=h.length)(hl:l.length<=1000000000)(hok:∀t∈l,TokOk t)(hc:Zf l<=900000000):E lo 75 [.list .no (l.map row)] h=some (JGe l,h):=by
 have hL:=Jbo (lo:=lo) (h:=h) hlo hl hok l.length 0 (.v (.pointer none)) [] [] om rfl (by rw[Az];simpa using hc)
 have n0:((0:Nat):Int)=0:=rfl;have hlen:=ZT l none hok;rw[Az]at hL;unfold JGe;rw[e75]
 cases hm:l.all Ze with
 |false=>
  rw[hm,if_neg (by simp)]at hL
  obtain⟨p1,o,Z,hL⟩:=hL;rw[if_neg (by simp)]
  simp only[Zt,b75,Tryz.f75,JD,JT,JB,go_sem,Ko,yg,N20,n0,Ag]at hL
  simp only[go_sem,b75,Tryz.f75,hlo,hL,Ag]<;>rfl
 |true=>
  rw[hm,if_pos rfl]at hL;obtain⟨p1,Z,hp1,hL⟩:=hL;rw[if_pos rfl];have e:Wn l 0=none:=rfl;rw[e,Ai]at hL;have k:=λlo hlo=>f24 (lo:=lo) (p:=h) (q:=Z) (p0:=p1) (out:=KZ none l) hlo (jd l none hok) om
  have ka:=k lo hlo;have kb:=k h.length (Ab _);simp only[Zt,b75,Tryz.f75,JD,JT,JB,go_sem,Ko,yg,N20,n0,Ag,Al,Ai]at hL;simp only[go_sem,b75,Tryz.f75,hlo,hL,ka,kb,Ag]<;>rfl
end
section
variable{lo:Nat}{h:JC}{k n d:Int}{b:List Int}{w i:Bool}
theorem Jpp(hlo:lo<=h.length)(hy:By b)(hl:b.length<=10000000)(h0: -9223372036854775808<=n)(h1:n<=9223372036854775807)(h2: -9223372036854775808<=d)(h3:d<=9223372036854775807)(hm:KL k b n d w i=false):
  E lo 48 [.agg (JM k b n d w i)] h=some (ZR,h):=by
 have hl1:lo<=(h++[Ob.cells (JM k b n d w i)]).length:=by simp;omega
 have hl2:h.length<=(h++[Ob.cells (JM k b n d w i)]).length:=by simp
 have hl3:h.length+1<=(h++[Ob.cells (JM k b n d w i)]).length:=by simp
 have km:=λlo hlo=>f79 (lo:=lo) (h:=h++[Ob.cells (JM k b n d w i)]) (k:=k) (b:=b) (n:=n) (d:=d) (w:=w) (i:=i) hlo hy om h0 h1 h2 h3
 rw[hm]at km;have kma:=km lo hl1;have kmb:=km h.length hl2;have kmc:=km (h.length+1) hl3;rw[e48];unfold JM at*;simp only[go_sem,b48,Tryz.f48,hlo,kma,kmb,kmc]<;>rfl
theorem r1(hlo:lo<=h.length){L:List Int}(hs:∀x∈L,JQ x=x)(hz:L.contains 0=false)(hl:L.length<=10000000)(hb:(JJ L).length<=10000000)(h0: -9223372036854775808<=n)(h1:n<=9223372036854775807)(h2: -9223372036854775808<=d)(h3:d<=9223372036854775807)(hm:KL 1 (JJ L) n d w i=true):
  E lo 48 [.agg (JM 1 (JJ L) n d w i)] h=some (Yh (Ja L),h):=by
 have hl1:lo<=(h++[Ob.cells (JM 1 (JJ L) n d w i)]).length:=by simp;omega
 have hl2:h.length<=(h++[Ob.cells (JM 1 (JJ L) n d w i)]).length:=by simp
 have hl3:h.length+1<=(h++[Ob.cells (JM 1 (JJ L) n d w i)]).length:=by simp
 have km:=λlo hlo=>f79 (lo:=lo) (h:=h++[Ob.cells (JM 1 (JJ L) n d w i)]) (k:=1) (b:=(JJ L)) (n:=n) (d:=d) (w:=w) (i:=i) hlo (J8 L) om h0 h1 h2 h3
 rw[hm]at km;have ki:=λlo hlo=>f81 (lo:=lo) (h:=h++[Ob.cells (JM 1 (JJ L) n d w i)]) hlo hs hz hl
 have kma:=km lo hl1;have kmb:=km h.length hl2;have kmc:=km (h.length+1) hl3;have kia:=ki lo hl1;have kib:=ki h.length hl2;have kic:=ki (h.length+1) hl3;have hil:=QN L;rw[e48];unfold JM at*;simp only[go_sem,b48,Tryz.f48,Ap,hlo,kma,kmb,kmc,kia,kib,kic]<;>rfl
theorem r2(hlo:lo<=h.length){L:List Int}(hs:∀x∈L,JQ x=x)(hz:L.contains 0=false)(hl:L.length<=10000000)(hb:(JJ L).length<=10000000)(h0: -9223372036854775808<=n)(h1:n<=9223372036854775807)(h2: -9223372036854775808<=d)(h3:d<=9223372036854775807)(hm:KL 2 (JJ L) n d w i=true):
  E lo 48 [.agg (JM 2 (JJ L) n d w i)] h=some (Yh (Ja L++[40]),h):=by
 have hl1:lo<=(h++[Ob.cells (JM 2 (JJ L) n d w i)]).length:=by simp;omega
 have hl2:h.length<=(h++[Ob.cells (JM 2 (JJ L) n d w i)]).length:=by simp
 have hl3:h.length+1<=(h++[Ob.cells (JM 2 (JJ L) n d w i)]).length:=by simp
 have km:=λlo hlo=>f79 (lo:=lo) (h:=h++[Ob.cells (JM 2 (JJ L) n d w i)]) (k:=2) (b:=(JJ L)) (n:=n) (d:=d) (w:=w) (i:=i) hlo (J8 L) om h0 h1 h2 h3
 rw[hm]at km;have ki:=λlo hlo=>f81 (lo:=lo) (h:=h++[Ob.cells (JM 2 (JJ L) n d w i)]) hlo hs hz hl
 have kma:=km lo hl1;have kmb:=km h.length hl2;have kmc:=km (h.length+1) hl3;have kia:=ki lo hl1;have kib:=ki h.length hl2;have kic:=ki (h.length+1) hl3;have hil:=QN L;have z1:(bs (Ja L)).size+(bs [40]).size<=9223372036854775807:=by rw[bs_size,bs_size];simp;omega
 rw[e48];unfold JM at*;simp only[go_sem,b48,Tryz.f48,Ap,hlo,kma,kmb,kmc,kia,kib,kic,JX9,Jb,z1]<;>rfl
theorem r3(hlo:lo<=h.length){L:List Int}(hs:∀x∈L,JQ x=x)(hz:L.contains 0=false)(hl:L.length<=10000000)(hb:(JJ L).length<=10000000)(h0: -9223372036854775808<=n)(h1:n<=9223372036854775807)(h2: -9223372036854775808<=d)(h3:d<=9223372036854775807)(hm:KL 3 (JJ L) n d w i=true):
  E lo 48 [.agg (JM 3 (JJ L) n d w i)] h=some (Yh (64::Ja L),h):=by
 have hl1:lo<=(h++[Ob.cells (JM 3 (JJ L) n d w i)]).length:=by simp;omega
 have hl2:h.length<=(h++[Ob.cells (JM 3 (JJ L) n d w i)]).length:=by simp
 have hl3:h.length+1<=(h++[Ob.cells (JM 3 (JJ L) n d w i)]).length:=by simp
 have km:=λlo hlo=>f79 (lo:=lo) (h:=h++[Ob.cells (JM 3 (JJ L) n d w i)]) (k:=3) (b:=(JJ L)) (n:=n) (d:=d) (w:=w) (i:=i) hlo (J8 L) om h0 h1 h2 h3
 rw[hm]at km;have ki:=λlo hlo=>f81 (lo:=lo) (h:=h++[Ob.cells (JM 3 (JJ L) n d w i)]) hlo hs hz hl
 have kma:=km lo hl1;have kmb:=km h.length hl2;have kmc:=km (h.length+1) hl3;have kia:=ki lo hl1;have kib:=ki h.length hl2;have kic:=ki (h.length+1) hl3;have hil:=QN L;have z1:(bs [64]).size+(bs (Ja L)).size<=9223372036854775807:=by rw[bs_size,bs_size];simp;omega
 rw[e48];unfold JM at*;simp only[go_sem,b48,Tryz.f48,Ap,hlo,kma,kmb,kmc,kia,kib,kic,JYA,Jb,z1,A1]<;>rfl
theorem r4t(hlo:lo<=h.length){L:List Int}(hs:∀x∈L,JQ x=x)(hz:L.contains 0=false)(hl:L.length<=10000000)(hb:(JJ L).length<=10000000)(h0: -9223372036854775808<=n)(h1:n<=9223372036854775807)(h2: -9223372036854775808<=d)(h3:d<=9223372036854775807)(hm:KL 4 (JJ L) n d w true=true):
  E lo 48 [.agg (JM 4 (JJ L) n d w true)] h=some (Yh (35::Ja L),h):=by
 have hl1:lo<=(h++[Ob.cells (JM 4 (JJ L) n d w true)]).length:=by simp;omega
 have hl2:h.length<=(h++[Ob.cells (JM 4 (JJ L) n d w true)]).length:=by simp
 have hl3:h.length+1<=(h++[Ob.cells (JM 4 (JJ L) n d w true)]).length:=by simp
 have km:=λlo hlo=>f79 (lo:=lo) (h:=h++[Ob.cells (JM 4 (JJ L) n d w true)]) (k:=4) (b:=(JJ L)) (n:=n) (d:=d) (w:=w) (i:=true) hlo (J8 L) om h0 h1 h2 h3
 rw[hm]at km;have ki:=λlo hlo=>f81 (lo:=lo) (h:=h++[Ob.cells (JM 4 (JJ L) n d w true)]) hlo hs hz hl
 have kma:=km lo hl1;have kmb:=km h.length hl2;have kmc:=km (h.length+1) hl3;have kia:=ki lo hl1;have kib:=ki h.length hl2;have kic:=ki (h.length+1) hl3;have hil:=QN L;have z1:(bs [35]).size+(bs (Ja L)).size<=9223372036854775807:=by rw[bs_size,bs_size];simp;omega
 rw[e48];unfold JM at*;simp only[go_sem,b48,Tryz.f48,Ap,hlo,kma,kmb,kmc,kia,kib,kic,JNv,Jb,z1,A1]<;>rfl
theorem r4f(hlo:lo<=h.length){L:List Int}(hs:∀x∈L,JQ x=x)(hz:L.contains 0=false)(hl:L.length<=10000000)(hb:(JJ L).length<=10000000)(h0: -9223372036854775808<=n)(h1:n<=9223372036854775807)(h2: -9223372036854775808<=d)(h3:d<=9223372036854775807)(hm:KL 4 (JJ L) n d w false=true):
  E lo 48 [.agg (JM 4 (JJ L) n d w false)] h=some (Yh (35::Jl L),h):=by
 have hl1:lo<=(h++[Ob.cells (JM 4 (JJ L) n d w false)]).length:=by simp;omega
 have hl2:h.length<=(h++[Ob.cells (JM 4 (JJ L) n d w false)]).length:=by simp
 have hl3:h.length+1<=(h++[Ob.cells (JM 4 (JJ L) n d w false)]).length:=by simp
 have km:=λlo hlo=>f79 (lo:=lo) (h:=h++[Ob.cells (JM 4 (JJ L) n d w false)]) (k:=4) (b:=(JJ L)) (n:=n) (d:=d) (w:=w) (i:=false) hlo (J8 L) om h0 h1 h2 h3
 rw[hm]at km;have ki:=λlo hlo=>f83 (lo:=lo) (h:=h++[Ob.cells (JM 4 (JJ L) n d w false)]) hlo hl hs
 have kc:=λlo=>yf (lo:=lo) (h:=h++[Ob.cells (JM 4 (JJ L) n d w false)]) hs hz hl
 have kma:=km lo hl1;have kmb:=km h.length hl2;have kmc:=km (h.length+1) hl3;have kia:=ki lo hl1;have kib:=ki h.length hl2;have kic:=ki (h.length+1) hl3;have hil:=KV L;have z1:(bs [35]).size+(bs (Jl L)).size<=9223372036854775807:=by rw[bs_size,bs_size];simp;omega
 rw[e48];unfold JM at*;simp only[go_sem,b48,Tryz.f48,Ap,hlo,kma,kmb,kmc,kia,kib,kic,kc,JNv,Jb,z1,A1]<;>rfl
theorem r5(hlo:lo<=h.length){L:List Int}(hs:∀x∈L,JQ x=x)(hz:L.contains 0=false)(hl:L.length<=10000000)(hb:(JJ L).length<=10000000)(h0: -9223372036854775808<=n)(h1:n<=9223372036854775807)(h2: -9223372036854775808<=d)(h3:d<=9223372036854775807)(hm:KL 5 (JJ L) n d w i=true):
  E lo 48 [.agg (JM 5 (JJ L) n d w i)] h=some (Yh (34::(KS sg5 false L++[34])),h):=by
 have hl1:lo<=(h++[Ob.cells (JM 5 (JJ L) n d w i)]).length:=by simp;omega
 have hl2:h.length<=(h++[Ob.cells (JM 5 (JJ L) n d w i)]).length:=by simp
 have hl3:h.length+1<=(h++[Ob.cells (JM 5 (JJ L) n d w i)]).length:=by simp
 have km:=λlo hlo=>f79 (lo:=lo) (h:=h++[Ob.cells (JM 5 (JJ L) n d w i)]) (k:=5) (b:=(JJ L)) (n:=n) (d:=d) (w:=w) (i:=i) hlo (J8 L) om h0 h1 h2 h3
 rw[hm]at km;have ki:=λlo hlo=>f84 (lo:=lo) (h:=h++[Ob.cells (JM 5 (JJ L) n d w i)]) hlo hl hs hz
 have kma:=km lo hl1;have kmb:=km h.length hl2;have kmc:=km (h.length+1) hl3;have kia:=ki lo hl1;have kib:=ki h.length hl2;have kic:=ki (h.length+1) hl3;rw[e48];unfold JM at*;simp only[go_sem,b48,Tryz.f48,Ap,hlo,kma,kmb,kmc,kia,kib,kic]<;>rfl
theorem r7(hlo:lo<=h.length){L:List Int}(hs:∀x∈L,JQ x=x)(hz:L.contains 0=false)(hl:L.length<=10000000)(hb:(JJ L).length<=10000000)(h0: -9223372036854775808<=n)(h1:n<=9223372036854775807)(h2: -9223372036854775808<=d)(h3:d<=9223372036854775807)(hm:KL 7 (JJ L) n d w i=true):
  E lo 48 [.agg (JM 7 (JJ L) n d w i)] h=some (Yh (117::114::108::40::(KS sg7 true L++[41])),h):=by
 have hl1:lo<=(h++[Ob.cells (JM 7 (JJ L) n d w i)]).length:=by simp;omega
 have hl2:h.length<=(h++[Ob.cells (JM 7 (JJ L) n d w i)]).length:=by simp
 have hl3:h.length+1<=(h++[Ob.cells (JM 7 (JJ L) n d w i)]).length:=by simp
 have km:=λlo hlo=>f79 (lo:=lo) (h:=h++[Ob.cells (JM 7 (JJ L) n d w i)]) (k:=7) (b:=(JJ L)) (n:=n) (d:=d) (w:=w) (i:=i) hlo (J8 L) om h0 h1 h2 h3
 rw[hm]at km;have ki:=λlo hlo=>f85 (lo:=lo) (h:=h++[Ob.cells (JM 7 (JJ L) n d w i)]) hlo hl hs hz
 have kma:=km lo hl1;have kmb:=km h.length hl2;have kmc:=km (h.length+1) hl3;have kia:=ki lo hl1;have kib:=ki h.length hl2;have kic:=ki (h.length+1) hl3;rw[e48];unfold JM at*;simp only[go_sem,b48,Tryz.f48,Ap,hlo,kma,kmb,kmc,kia,kib,kic]<;>rfl
theorem r9(hlo:lo<=h.length)(hy:By b)(hl:b.length<=10000000)(h0: -9223372036854775808<=n)(h1:n<=9223372036854775807)(h2: -9223372036854775808<=d)(h3:d<=9223372036854775807)(hm:KL 9 b n d w i=true):
  E lo 48 [.agg (JM 9 b n d w i)] h=some (Yh (if b=[92]then[92,10]else b),h):=by
 have hl1:lo<=(h++[Ob.cells (JM 9 b n d w i)]).length:=by simp;omega
 have hl2:h.length<=(h++[Ob.cells (JM 9 b n d w i)]).length:=by simp
 have hl3:h.length+1<=(h++[Ob.cells (JM 9 b n d w i)]).length:=by simp
 have km:=λlo hlo=>f79 (lo:=lo) (h:=h++[Ob.cells (JM 9 b n d w i)]) (k:=9) (b:=b) (n:=n) (d:=d) (w:=w) (i:=i) hlo hy om h0 h1 h2 h3
 rw[hm]at km;have kma:=km lo hl1;have kmb:=km h.length hl2;have kmc:=km (h.length+1) hl3;have hb:=W1 hy JYC;rw[e48];unfold JM at*;by_cases hc:b=[92]
 ·have q:(b==[92])=true:=by simp[hc]
  rw[q]at hb;rw[if_pos hc];simp only[go_sem,b48,Tryz.f48,Ap,hlo,kma,kmb,kmc,GY,hb,JNw]<;>rfl
 ·have q:(b==[92])=false:=by simp[hc]
  rw[q]at hb;rw[if_neg hc];simp only[go_sem,b48,Tryz.f48,Ap,hlo,kma,kmb,kmc,GY,hb]<;>rfl
theorem r10(hlo:lo<=h.length)(hy:By b)(hl:b.length<=10000000)(h0: -9223372036854775808<=n)(h1:n<=9223372036854775807)(h2: -9223372036854775808<=d)(h3:d<=9223372036854775807)(hm:KL 10 b n d w i=true){t:List Int}(ht:Ji n d w=some t):
  E lo 48 [.agg (JM 10 b n d w i)] h=some (Yh (t),h):=by
 have hl1:lo<=(h++[Ob.cells (JM 10 b n d w i)]).length:=by simp;omega
 have hl2:h.length<=(h++[Ob.cells (JM 10 b n d w i)]).length:=by simp
 have hl3:h.length+1<=(h++[Ob.cells (JM 10 b n d w i)]).length:=by simp
 have km:=λlo hlo=>f79 (lo:=lo) (h:=h++[Ob.cells (JM 10 b n d w i)]) (k:=10) (b:=b) (n:=n) (d:=d) (w:=w) (i:=i) hlo hy om h0 h1 h2 h3
 rw[hm]at km;have kp:=λlo hlo=>f80 (lo:=lo) (h:=h++[Ob.cells (JM 10 b n d w i)]) hlo (n:=n) (d:=d) (w:=w) h0 h1 h2 h3
 have ep:Qs (some t)= .tup [.v (.string (bs t)),.v (.int .i64 0)]:=rfl;rw[ht,ep]at kp;have kma:=km lo hl1;have kmb:=km h.length hl2;have kmc:=km (h.length+1) hl3;have kpa:=kp lo hl1;have kpb:=kp h.length hl2;have kpc:=kp (h.length+1) hl3;have hok:=(WU (n:=n) (d:=d) (w:=w) h0 h1 h2 h3).2;rw[ht]at hok;simp only[BJ]at hok;rw[e48];unfold JM at*
 simp only[go_sem,b48,Tryz.f48,Ap,hlo,kma,kmb,kmc,kpa,kpb,kpc]<;>rfl
theorem r11(hlo:lo<=h.length)(hy:By b)(hl:b.length<=10000000)(h0: -9223372036854775808<=n)(h1:n<=9223372036854775807)(h2: -9223372036854775808<=d)(h3:d<=9223372036854775807)(hm:KL 11 b n d w i=true){t:List Int}(ht:Ji n d w=some t):
  E lo 48 [.agg (JM 11 b n d w i)] h=some (Yh (t++[37]),h):=by
 have hl1:lo<=(h++[Ob.cells (JM 11 b n d w i)]).length:=by simp;omega
 have hl2:h.length<=(h++[Ob.cells (JM 11 b n d w i)]).length:=by simp
 have hl3:h.length+1<=(h++[Ob.cells (JM 11 b n d w i)]).length:=by simp
 have km:=λlo hlo=>f79 (lo:=lo) (h:=h++[Ob.cells (JM 11 b n d w i)]) (k:=11) (b:=b) (n:=n) (d:=d) (w:=w) (i:=i) hlo hy om h0 h1 h2 h3
 rw[hm]at km;have kp:=λlo hlo=>f80 (lo:=lo) (h:=h++[Ob.cells (JM 11 b n d w i)]) hlo (n:=n) (d:=d) (w:=w) h0 h1 h2 h3
 have ep:Qs (some t)= .tup [.v (.string (bs t)),.v (.int .i64 0)]:=rfl;rw[ht,ep]at kp;have kma:=km lo hl1;have kmb:=km h.length hl2;have kmc:=km (h.length+1) hl3;have kpa:=kp lo hl1;have kpb:=kp h.length hl2;have kpc:=kp (h.length+1) hl3;have hok:=(WU (n:=n) (d:=d) (w:=w) h0 h1 h2 h3).2;rw[ht]at hok;simp only[BJ]at hok;have z1:(bs t).size+(bs [37]).size<=9223372036854775807:=by rw[bs_size,bs_size];simp;omega
 rw[e48];unfold JM at*;simp only[go_sem,b48,Tryz.f48,Ap,hlo,kma,kmb,kmc,kpa,kpb,kpc,JYB,Jb,z1]<;>rfl
theorem r12(hlo:lo<=h.length){L:List Int}(hs:∀x∈L,JQ x=x)(hz:L.contains 0=false)(hl:L.length<=10000000)(hb:(JJ L).length<=10000000)(h0: -9223372036854775808<=n)(h1:n<=9223372036854775807)(h2: -9223372036854775808<=d)(h3:d<=9223372036854775807)(hn:L≠[])(hm:KL 12 (JJ L) n d w i=true){t:List Int}(ht:Ji n d w=some t):
  E lo 48 [.agg (JM 12 (JJ L) n d w i)] h=some (Yh (t++YM L),h):=by
 have hl1:lo<=(h++[Ob.cells (JM 12 (JJ L) n d w i)]).length:=by simp;omega
 have hl2:h.length<=(h++[Ob.cells (JM 12 (JJ L) n d w i)]).length:=by simp
 have hl3:h.length+1<=(h++[Ob.cells (JM 12 (JJ L) n d w i)]).length:=by simp
 have km:=λlo hlo=>f79 (lo:=lo) (h:=h++[Ob.cells (JM 12 (JJ L) n d w i)]) (k:=12) (b:=(JJ L)) (n:=n) (d:=d) (w:=w) (i:=i) hlo (J8 L) om h0 h1 h2 h3
 rw[hm]at km;have kp:=λlo hlo=>f80 (lo:=lo) (h:=h++[Ob.cells (JM 12 (JJ L) n d w i)]) hlo (n:=n) (d:=d) (w:=w) h0 h1 h2 h3
 have ep:Qs (some t)= .tup [.v (.string (bs t)),.v (.int .i64 0)]:=rfl;rw[ht,ep]at kp;have ku:=λlo hlo=>f86 (lo:=lo) (h:=h++[Ob.cells (JM 12 (JJ L) n d w i)]) hlo hs hz hn hl
 have kma:=km lo hl1;have kmb:=km h.length hl2;have kmc:=km (h.length+1) hl3;have kpa:=kp lo hl1;have kpb:=kp h.length hl2;have kpc:=kp (h.length+1) hl3;have kua:=ku lo hl1;have kub:=ku h.length hl2;have kuc:=ku (h.length+1) hl3;have hok:=(WU (n:=n) (d:=d) (w:=w) h0 h1 h2 h3).2;rw[ht]at hok;simp only[BJ]at hok;have hul:=zt L;have z1:(bs t).size+(bs (YM L)).size<=9223372036854775807:=by rw[bs_size,bs_size];omega
 rw[e48];unfold JM at*;simp only[go_sem,b48,Tryz.f48,Ap,hlo,kma,kmb,kmc,kpa,kpb,kpc,kua,kub,kuc,Jb,z1]<;>rfl
theorem Jpq(hlo:lo<=h.length)(hy:By b)(hl:b.length<=10000000)(h0: -9223372036854775808<=n)(h1:n<=9223372036854775807)(h2: -9223372036854775808<=d)(h3:d<=9223372036854775807)(hm:KL k b n d w i=true)(hk:k=6\/k=8\/k=13\/k=14\/k=15\/k=16\/k=17\/k=18\/k=19\/k=20\/k=21\/k=22\/k=23\/k=24):
  E lo 48 [.agg (JM k b n d w i)] h=some (Yh (JA0 k),h):=by
 have hl1:lo<=(h++[Ob.cells (JM k b n d w i)]).length:=by simp;omega
 have hl2:h.length<=(h++[Ob.cells (JM k b n d w i)]).length:=by simp
 have hl3:h.length+1<=(h++[Ob.cells (JM k b n d w i)]).length:=by simp
 have km:=λlo hlo=>f79 (lo:=lo) (h:=h++[Ob.cells (JM k b n d w i)]) (k:=k) (b:=b) (n:=n) (d:=d) (w:=w) (i:=i) hlo hy om h0 h1 h2 h3
 rw[hm]at km;have kma:=km lo hl1;have kmb:=km h.length hl2;have kmc:=km (h.length+1) hl3;have n25:((25:Nat):Int)=25:=rfl;rw[e48];unfold JM at*;rcases hk with rfl|rfl|rfl|rfl|rfl|rfl|rfl|rfl|rfl|rfl|rfl|rfl|rfl|rfl<;>
 simp only[go_sem,b48,Tryz.f48,Ap,hlo,kma,kmb,kmc,n25,Bu,if_true]<;>rfl
theorem f48(hlo:lo<=h.length)(hy:By b)(hl:b.length<=10000000)(h0: -9223372036854775808<=n)(h1:n<=9223372036854775807)(h2: -9223372036854775808<=d)(h3:d<=9223372036854775807):E lo 48 [.agg (JM k b n d w i)] h=some (ZS k b n d w i,h):=by
 unfold ZS
 cases hm:KL k b n d w i with
 |false=>rw[if_neg (by simp)];exact Jpp hlo hy hl h0 h1 h2 h3 hm
 |true=>
  rw[if_pos rfl];have hk:=JKf hm;rcases(by omega:(k=1\/k=2\/k=3\/k=4\/k=5\/k=7\/k=12)\/k=9\/k=10\/k=11\/(k=6\/k=8\/k=13\/k=14\/k=15\/k=16\/k=17\/k=18\/k=19\/k=20\/k=21\/k=22\/k=23\/k=24))with hk|rfl|rfl|rfl|hk
  ·obtain⟨L,rfl,eL,hs,hz,hL⟩:=JAj hy (JGd hm hk)
   have hn:(k=1\/k=2\/k=3\/k=4\/k=12)->L≠[]:=λh e=>JSo hm h (by rw[e]<;>rfl)
   rcases hk with rfl|rfl|rfl|rfl|rfl|rfl|rfl
   ·have e:JY 1 (JJ L) n d w i=Ja L:=by unfold JY;rw[if_pos rfl,eL]
    rw[e];exact r1 hlo hs hz om hl h0 h1 h2 h3 hm
   ·have e:JY 2 (JJ L) n d w i=Ja L++[40]:=by unfold JY;rw[if_neg (by decide),if_pos rfl,eL]
    rw[e];exact r2 hlo hs hz om hl h0 h1 h2 h3 hm
   ·have e:JY 3 (JJ L) n d w i=64::Ja L:=by unfold JY;rw[if_neg (by decide),if_neg (by decide),if_pos rfl,eL]
    rw[e];exact r3 hlo hs hz om hl h0 h1 h2 h3 hm
   ·have e:JY 4 (JJ L) n d w i=35::(if i=true then Ja L else Jl L):=by unfold JY;rw[if_neg (by decide),if_neg (by decide),if_neg (by decide),if_pos rfl,eL]
    rw[e]
    cases i with
    |true=>rw[if_pos rfl];exact r4t hlo hs hz om hl h0 h1 h2 h3 hm
    |false=>rw[if_neg (by simp)];exact r4f hlo hs hz om hl h0 h1 h2 h3 hm
   ·have e:JY 5 (JJ L) n d w i=34::(KS [34,92] false L++[34]):=by unfold JY;rw[if_neg (by decide),if_neg (by decide),if_neg (by decide),if_neg (by decide),if_pos rfl,eL]
    rw[e];exact r5 hlo hs hz om hl h0 h1 h2 h3 hm
   ·have e:JY 7 (JJ L) n d w i=117::114::108::40::(KS [34,39,40,41,92] true L++[41]):=by unfold JY;rw[if_neg (by decide),if_neg (by decide),if_neg (by decide),if_neg (by decide),if_neg (by decide),if_pos rfl,eL]
    rw[e];exact r7 hlo hs hz om hl h0 h1 h2 h3 hm
   ·obtain⟨t,ht⟩:=Yq hm om
    have e:JY 12 (JJ L) n d w i=t++YM L:=by unfold JY;rw[if_neg (by decide),if_neg (by decide),if_neg (by decide),if_neg (by decide),if_neg (by decide),if_neg (by decide),if_neg (by decide),if_neg (by decide),if_neg (by decide),if_pos rfl,eL,ht]<;>rfl
    rw[e];exact r12 hlo hs hz om hl h0 h1 h2 h3 (hn om) hm ht
  ·have e:JY 9 b n d w i=if b=[92]then[92,10]else b:=by unfold JY;rw[if_neg (by decide),if_neg (by decide),if_neg (by decide),if_neg (by decide),if_neg (by decide),if_neg (by decide),if_pos rfl]
   rw[e];exact r9 hlo hy hl h0 h1 h2 h3 hm
  ·obtain⟨t,ht⟩:=Yq hm om
   have e:JY 10 b n d w i=t:=by unfold JY;rw[if_neg (by decide),if_neg (by decide),if_neg (by decide),if_neg (by decide),if_neg (by decide),if_neg (by decide),if_neg (by decide),if_pos rfl,ht]<;>rfl
   rw[e];exact r10 hlo hy hl h0 h1 h2 h3 hm ht
  ·obtain⟨t,ht⟩:=Yq hm om
   have e:JY 11 b n d w i=t++[37]:=by unfold JY;rw[if_neg (by decide),if_neg (by decide),if_neg (by decide),if_neg (by decide),if_neg (by decide),if_neg (by decide),if_neg (by decide),if_neg (by decide),if_pos rfl,ht]<;>rfl
   rw[e];exact r11 hlo hy hl h0 h1 h2 h3 hm ht
  ·have e:JY k b n d w i=JA0 k:=by unfold JY;rw[if_neg om,if_neg om,if_neg om,if_neg om,if_neg om,if_neg om,if_neg om,if_neg om,if_neg om,if_neg om]
   rw[e];exact Jpq hlo hy hl h0 h1 h2 h3 hm hk
end
section
variable{lo:Nat}{h:JC}{l:List Tk4}{t:Tk4}{out:List Int}{Y:JC}{k:Nat}
abbrev N21(l:List Tk4)(out:List Int)(k:Nat):Jj:=[(0,.list .no (l.map row)),(4,.list .yes (ri .u8 out)),(9,.list .no (l.map row)),(10,.v (.int .i64 l.length)),(11,.v (.int .i64 k))]
theorem JHr(c:Ob):(h++(Y++[c]))[h.length+Y.length]? =some c:=by
 rw[AZ om]
 simp
theorem JMr(hlo:lo<=h.length)(hg:l[0]? =some t)(hok:TokOk t)(hm:Ze t=true)(hl:l.length<=1000000000)(ho:out.length<=900000000):
  evCode ⟨Aa,E,lo,h.length,h46⟩ JA Zr (N21 l out 0,h++Y)=
   some (.normal,N21 l (out++WV t) 1,h++(Y++[Ob.cells (row t)])):=by
 have hlt:0<l.length:=(Ad.1 hg).1
 have hgr:(l.map row)[0]? =some (row t):=by simp[hg]
 have q:decide ((0:Int)<(l.length:Int))=true:=by simp;omega
 have q0:decide ((0:Int)<0)=false:=rfl;have w1:Aq.wrap (0+1)=1:=rfl;have k18:=λlo hlo=>f48 (lo:=lo) (h:=h++(Y++[Ob.cells (row t)])) (k:=t.k) (b:=t.b) (n:=t.n) (d:=t.d) (w:=t.w) (i:=t.i) hlo hok.hy hok.hl hok.h0 hok.h1 hok.h2 hok.h3
 have er:ZS t.k t.b t.n t.d t.w t.i= .tup [.v (.string (bs (WV t))),.v (.int .i64 0)]:=by unfold ZS Yh;unfold Ze at hm;rw[hm]<;>rfl
 rw[er]at k18;have hl1:lo<=(h++(Y++[Ob.cells (row t)])).length:=by simp;omega
 have hl2:h.length<=(h++(Y++[Ob.cells (row t)])).length:=by simp
 have k18a:=k18 lo hl1;have k18b:=k18 h.length hl2;have k18c:=k18 (h.length+(Y.length+1)) (by simp)
 have htl:=Yi hok;have hbl:=hok.hl;have sz:=bs_size (WV t);have hb:=QT (jA hok);have z1:(out.length+(WV t).length)*1<=140737488355328:=om;have z2:out.length+(WV t).length<=9223372036854775807:=om;clear k18;have n0:((0:Nat):Int)=0:=rfl;have n1:((1:Nat):Int)=1:=rfl;have hlo2:lo<=AW h+AW Y:=om;have hat:∀c:Ob,(h++(Y++[c]))[h.length+Y.length]? =some c:=JHr
 have e:ri .u8 (out++WV t)=ri .u8 out++ri .u8 (WV t):=by rw[<-ri_app]
 rw[N21,n0,N21,n1,e];unfold row JM at*;simp only[go_sem,Zr,b46,Tryz.f46,q,q0,hgr,w1,hlo,hlo2,hat,k18a,k18b,k18c,sz,hb,z1,z2,Bd,Ao,Al,Ai]<;>rfl
theorem JMs{j:Nat}{t0:Tk4}(hlo:lo<=h.length)(hg0:l[j]? =some t0)(hg:l[j+1]? =some t)(hok:TokOk t)(hm:Ze t=true)(hl:l.length<=1000000000)(ho:out.length<=900000000):
  evCode ⟨Aa,E,lo,h.length,h46⟩ JA Zr (N21 l out (j+1),h++Y)=
   some (.normal,N21 l (out++(qD (some t0.k) t.k++WV t)) (j+1+1),h++(Y++[Ob.cells (row t)])):=by
 have hlt:j+1<l.length:=(Ad.1 hg).1
 have hgr:(l.map row)[j+1]? =some (row t):=by simp[hg]
 have hgr0:(l.map row)[j]? =some (row t0):=by simp[hg0]
 have q:decide (((j+1:Nat):Int)<(l.length:Int))=true:=by simp;omega
 have q0:decide ((0:Int)<((j+1:Nat):Int))=true:=by rw[decide_eq_true_iff];omega
 have w1:Aq.wrap (((j+1:Nat):Int)+1)=((j+1+1:Nat):Int):=JH om
 have w2:Aq.wrap (((j+1:Nat):Int)-1)=(j:Int):=by have e:((j+1:Nat):Int)-1=(j:Int):=om;rw[e];exact JN om om
 have k18:=λlo hlo=>f48 (lo:=lo) (h:=h++(Y++[Ob.cells (row t)])) (k:=t.k) (b:=t.b) (n:=t.n) (d:=t.d) (w:=t.w) (i:=t.i) hlo hok.hy hok.hl hok.h0 hok.h1 hok.h2 hok.h3
 have er:ZS t.k t.b t.n t.d t.w t.i= .tup [.v (.string (bs (WV t))),.v (.int .i64 0)]:=by unfold ZS Yh;unfold Ze at hm;rw[hm]<;>rfl
 rw[er]at k18;have hl1:lo<=(h++(Y++[Ob.cells (row t)])).length:=by simp;omega
 have hl2:h.length<=(h++(Y++[Ob.cells (row t)])).length:=by simp
 have k18a:=k18 lo hl1;have k18b:=k18 h.length hl2;have k18c:=k18 (h.length+(Y.length+1)) (by simp)
 have k50:=λlo hlo=>f78 (lo:=lo) (h:=h++(Y++[Ob.cells (row t)])) (ka:=t0.k) (ta:=t0.b) (na:=t0.n) (da:=t0.d) (wa:=t0.w) (ia:=t0.i) (kb:=t.k) (tb:=t.b) (nb:=t.n) (db:=t.d) (wb:=t.w) (ib:=t.i) hlo
 have k50a:=k50 lo hl1;have k50b:=k50 h.length hl2;have k50c:=k50 (h.length+(Y.length+1)) (by simp)
 have htl:=Yi hok;have hbl:=hok.hl;have sz:=bs_size (WV t);have hb:=QT (jA hok);have z1:(out.length+(WV t).length)*1<=140737488355328:=om;have z2:out.length+(WV t).length<=9223372036854775807:=om;have z3:(out.length+4+(WV t).length)*1<=140737488355328:=om;have z4:out.length+4+(WV t).length<=9223372036854775807:=om;have sz4:(bs [47,42,42,47]).size=4:=bs_size [47,42,42,47]
 have hb4:=QT (l:=[47,42,42,47]) (Jh om om (Jh om om (Jh om om (Jh om om J9))));have z5:(out.length+4)*1<=140737488355328:=om;have z6:out.length+4<=9223372036854775807:=om;clear k18 k50;have hlo2:lo<=AW h+AW Y:=om;have hat:∀c:Ob,(h++(Y++[c]))[h.length+Y.length]? =some c:=JHr;have e:∀a b:List Int,ri .u8 (a++b)=ri .u8 a++ri .u8 b:=λa b=>by rw[<-ri_app]
 have e4:(ri .u8 [47,42,42,47]).length=4:=rfl;rw[N21,N21];unfold row JM at*;unfold qD;simp only
 cases qa:qA t0.k t.k with
 |true=>
  rw[qa]at k50a k50b k50c;rw[if_pos rfl,e,e]
  simp only[go_sem,Zr,b46,Tryz.f46,q,q0,hgr,hgr0,w1,w2,hlo,hlo2,hat,k18a,k18b,k18c,k50a,k50b,k50c,JNx,sz,hb,sz4,hb4,e4,z1,z2,z3,z4,z5,z6,Bd,Ao,Ah]<;>rfl
 |false=>
  rw[qa]at k50a k50b k50c;rw[if_neg (by simp),Ai,e]
  simp only[go_sem,Zr,b46,Tryz.f46,q,q0,hgr,hgr0,w1,w2,hlo,hlo2,hat,k18a,k18b,k18c,k50a,k50b,k50c,sz,hb,z1,z2,Bd,Ao,Al,Ai]<;>rfl
theorem Jh8{k:Nat}(hlo:lo<=h.length)(hg:l[k]? =some t)(hok:TokOk t)(hm:Ze t=false)(hl:l.length<=1000000000):
  evCode ⟨Aa,E,lo,h.length,h46⟩ JA Zr (N21 l out k,h++Y)=
   some (.ret,[(2,.v (.string (bs []))),(3,.v (.int .i64 1))],h++(Y++[Ob.cells (row t)])):=by
 have hlt:k<l.length:=(Ad.1 hg).1
 have hgr:(l.map row)[k]? =some (row t):=by simp[hg]
 have q:decide ((k:Int)<(l.length:Int))=true:=by simp;omega
 have k18:=λlo hlo=>f48 (lo:=lo) (h:=h++(Y++[Ob.cells (row t)])) (k:=t.k) (b:=t.b) (n:=t.n) (d:=t.d) (w:=t.w) (i:=t.i) hlo hok.hy hok.hl hok.h0 hok.h1 hok.h2 hok.h3
 have er:ZS t.k t.b t.n t.d t.w t.i= .tup [.v (.string (bs [])),.v (.int .i64 1)]:=by unfold ZS ZR;unfold Ze at hm;rw[hm]<;>rfl
 rw[er]at k18;have hl1:lo<=(h++(Y++[Ob.cells (row t)])).length:=by simp;omega
 have hl2:h.length<=(h++(Y++[Ob.cells (row t)])).length:=by simp
 have k18a:=k18 lo hl1;have k18b:=k18 h.length hl2;have k18c:=k18 (h.length+(Y.length+1)) (by simp)
 clear k18;have hlo2:lo<=AW h+AW Y:=om;have hat:∀c:Ob,(h++(Y++[c]))[h.length+Y.length]? =some c:=JHr;rw[N21];unfold row JM at*;simp only[go_sem,Zr,b46,Tryz.f46,q,hgr,hlo,hlo2,hat,k18a,k18b,k18c,Bd,Ao,Al,Ai]<;>rfl
theorem Jbp(hlo:lo<=h.length):JA (evCode ⟨Aa,E,lo,h.length,h46⟩ JA Zr) (N21 l out l.length,h++Y)=
   some (.exit 0,N21 l out l.length++[(12,.v (.bool false))],h++Y):=by
 have q:decide ((l.length:Int)<(l.length:Int))=false:=by simp
 rw[loop_eq];simp only[go_sem,Zr,b46,Tryz.f46,hlo,q]<;>rfl
theorem Jbq(hlo:lo<=h.length)(hl:l.length<=1000000000)(hok:∀t∈l,TokOk t):∀(m k:Nat) (out:List Int) (Y:JC),k+m=l.length->out.length+Zf (l.drop k)<=900000000->
  if(l.drop k).all Ze=true then
   ∃Z,JA (evCode ⟨Aa,E,lo,h.length,h46⟩ JA Zr) (N21 l out k,h++Y)=some (.exit 0,N21 l (out++KZ (Wn l k) (l.drop k)) l.length++[(12,.v (.bool false))],h++Z)
  else∃Z,JA (evCode ⟨Aa,E,lo,h.length,h46⟩ JA Zr) (N21 l out k,h++Y)=some (.ret,[(2,.v (.string (bs []))),(3,.v (.int .i64 1))],h++Z):=by
 intro m
 induction m with
 |zero=>
  intro k out Y hk _;obtain rfl:k=l.length:=om;rw[Be,if_pos (show([]:List Tk4).all Ze=true from rfl)]
  exact⟨Y,by rw[Jbp hlo,KZ,Av]⟩
 |succ m ih=>
  intro k out Y hk ho;have hlt:k<l.length:=om;have hg:l[k]? =some l[k]:=Ac hlt
  have hd:l.drop k=l[k]::l.drop (k+1):=AD hlt;have hok1:=hok l[k] (Ba hlt);rw[hd]at ho⊢;generalize l[k]=t at*;simp only[Zf]at ho
  cases hm:Ze t with
  |false=>
   rw[Bg,hm,Aw,if_neg (by simp)]
   exact⟨Y++[Ob.cells (row t)],by rw[loop_eq,Jh8 hlo hg hok1 hm hl,QY]⟩
  |true=>
   have htl:=Yi hok1;have hsl:=JHo (Wn l k) t.k
   have er:evCode ⟨Aa,E,lo,h.length,h46⟩ JA Zr (N21 l out k,h++Y)=some (.normal,N21 l (out++(qD (Wn l k) t.k++WV t)) (k+1),h++(Y++[Ob.cells (row t)])):=by
    cases k with
    |zero=>exact JMr hlo hg hok1 hm hl om
    |succ j=>
     have hg0:l[j]? =some l[j]:=Ac om
     have e:Wn l (j+1)=some l[j].k:=by show(l[j]?).map (·.k)=_;rw[hg0]<;>rfl
     rw[e];exact JMs hlo hg0 hg hok1 hm hl om
   have ek:Wn l (k+1)=some t.k:=by show(l[k]?).map (·.k)=_;rw[hg]<;>rfl
   have et:KZ (Wn l k) (t::l.drop (k+1))=(qD (Wn l k) t.k++WV t)++KZ (some t.k) (l.drop (k+1)):=by simp[KZ]
   have:=ih (k+1) (out++(qD (Wn l k) t.k++WV t)) (Y++[Ob.cells (row t)]) om (by simp only[Ah];omega)
   rw[Bg,hm,AB,loop_eq,er,JK,et];rw[ek,Ao]at this;exact this
theorem f46(hlo:lo<=h.length)(hl:l.length<=1000000000)(hok:∀t∈l,TokOk t)(hc:Zf l<=900000000):E lo 46 [.list .no (l.map row)] h=some (JGe l,h):=by
 have hL:=Jbq (lo:=lo) (h:=h) hlo hl hok l.length 0 [] [] om (by rw[Az];simpa using hc)
 have n0:((0:Nat):Int)=0:=rfl;have hlen:=ZT l none hok;rw[Az]at hL;unfold JGe;rw[e46]
 cases hm:l.all Ze with
 |false=>
  rw[hm,if_neg (by simp)]at hL
  obtain⟨Z,hL⟩:=hL;rw[if_neg (by simp)]
  simp only[Zr,b46,Tryz.f46,JD,JT,JB,go_sem,Ko,N21,n0,Ag,Av]at hL
  simp only[go_sem,b46,Tryz.f46,hlo,hL,Ag]<;>rfl
 |true=>rw[hm,if_pos rfl]at hL;obtain⟨Z,hL⟩:=hL;rw[if_pos rfl];have e:Wn l 0=none:=rfl;rw[e,Ai]at hL;simp only[Zr,b46,Tryz.f46,JD,JT,JB,go_sem,Ko,N21,n0,Ag,Al,Ai,Av]at hL;have e3:(⟨(Q1 (KZ none l)).toArray⟩:ByteArray)=bs (KZ none l):=rfl;simp only[go_sem,b46,Tryz.f46,hlo,hL,Ag,Hs,e3]<;>rfl
end
end Go.Lift.M1
end

section
open Go.Proofs
namespace Go.Lift.M1
variable[MX][HasD][HasN]
open Utf Tok Spell
variable{lo:Nat}{h:JC}
def ofR(t:Rul.Tk4):Tk4:=⟨t.k,t.b,t.n,t.d,t.w,t.i⟩
theorem JKg(l:List Rul.Tk4):l.map Rul.row=(l.map ofR).map row:=by rw[List.map_map]<;>rfl
theorem JWa(l:List Rul.Tk4):(l.map ofR).all Ze=l.all zl:=by rw[List.all_map]<;>rfl
theorem zu{l:List Rul.Tk4}(hok:∀t∈l,OkT t):∀t∈l.map ofR,TokOk t:=λt ht=>by obtain⟨u,hu,rfl⟩:=List.mem_map.1 ht;have:=hok u hu;exact⟨this.hy,this.hl,this.h0,this.h1,this.h2,this.h3⟩
def Km(l:List Rul.CV):List Int:=KZ none ((Rul.Je l).map ofR)
def JGf(l:List Rul.CV):V:=if Q7 l=true then Yh (Km l)else ZR
structure OkL(l:List Rul.CV):Prop where
 hn:Rul.JO l<=100000000
 hok:∀t∈Rul.Je l,OkT t
 hc:Zf ((Rul.Je l).map ofR)<=900000000
theorem JKh(l:List Rul.CV):JGe ((Rul.Je l).map ofR)=if(Rul.Je l).all zl=true then Yh (Km l)else ZR:=by unfold JGe;rw[JWa]<;>rfl
theorem f43{l:List Rul.CV}(hlo:lo<=h.length)(hL:OkL l):E lo 43 [.list .no (Rul.JL l)] h=some (JGf l,h):=by
 have hfl:=Rul.Wz l;have hnn:=hL.hn;have c13:=λlo hlo=>f19 (lo:=lo) (h:=h) (l:=l) hlo hL.hn hL.hok
 have c13a:=c13 lo hlo;have c13b:=c13 h.length (Ab _);have c15:=λlo hlo=>f39 (lo:=lo) (h:=h) (l:=l) hlo hL.hn
 have c15a:=c15 lo hlo;have c15b:=c15 h.length (Ab _);have c14:=λlo hlo=>f75 (lo:=lo) (h:=h) (l:=(Rul.Je l).map ofR) hlo (by rw[Ag];omega) (zu hL.hok) hL.hc
 rw[JKh,<-JKg]at c14;have c14a:=c14 lo hlo;have c14b:=c14 h.length (Ab _);clear c13 c14 c15;unfold JGf;rw[e43]
 cases hm:Q7 l with
 |false=>
  rw[hm]at c13a c13b;rw[if_neg (by simp)]
  unfold ZR
  simp only[go_sem,b43,Tryz.f43,hlo,c13a,c13b]<;>rfl
 |true=>
  rw[hm]at c13a c13b
  have ha:(Rul.Je l).all zl=true:=by unfold Q7 at hm;rw[Af]at hm;exact hm.2
  rw[if_pos ha]at c14a c14b;rw[if_pos rfl];unfold Yh at*;simp only[go_sem,b43,Tryz.f43,hlo,c13a,c13b,c14a,c14b,c15a,c15b]<;>rfl
theorem f25{l:List Rul.CV}(hlo:lo<=h.length)(hL:OkL l):E lo 25 [.list .no (Rul.JL l)] h=some (JGf l,h):=by
 have hfl:=Rul.Wz l;have hnn:=hL.hn;have c16:=λlo hlo=>f45 (lo:=lo) (h:=h) (l:=l) hlo om
 have c16a:=c16 lo hlo;have c16b:=c16 h.length (Ab _);have c18:=λlo hlo=>f47 (Rul.JO l) l (Ab _) hL.hn lo h hlo
 have c18a:=c18 lo hlo;have c18b:=c18 h.length (Ab _);have c17:=λlo hlo=>f46 (lo:=lo) (h:=h) (l:=(Rul.Je l).map ofR) hlo (by rw[Ag];omega) (zu hL.hok) hL.hc
 rw[JKh,<-JKg]at c17;have c17a:=c17 lo hlo;have c17b:=c17 h.length (Ab _);clear c16 c17 c18;unfold JGf;rw[e25];unfold Q7
 cases hm:Rul.Q5 64 l with
 |false=>
  rw[hm]at c16a c16b;rw[Aw,if_neg (by simp)]
  unfold ZR
  simp only[go_sem,b25,Tryz.f25,hlo,c16a,c16b]<;>rfl
 |true=>
  rw[hm]at c16a c16b;rw[AB]
  cases ha:(Rul.Je l).all zl with
  |false=>
   rw[ha,if_neg (by simp)]at c17a c17b
   rw[if_neg (by simp)]
   unfold ZR at*
   simp only[go_sem,b25,Tryz.f25,hlo,c16a,c16b,c17a,c17b,c18a,c18b]<;>rfl
  |true=>rw[ha,if_pos rfl]at c17a c17b;rw[if_pos rfl];unfold Yh at*;simp only[go_sem,b25,Tryz.f25,hlo,c16a,c16b,c17a,c17b,c18a,c18b]<;>rfl
def Jl(b:List Int):Bool:= !b.isEmpty&&KD b
theorem f41{b:List Int}(hy:By b)(hl:b.length<=1000000000):E lo 41 [.v (.string (bs b))] h=some (.v (.bool (Jl b)),h):=by
 have k1:=λlo h=>f72 (lo:=lo) (h:=h) (b:=b) om hy
 have k2:=λlo h=>f73 (lo:=lo) (h:=h) hy (c:=0) om om
 have t1:=Ky b;unfold Jl KD;rw[e41];by_cases hb:b=[]
 ·rw[decide_eq_true hb]at t1
  have eb:b.isEmpty=true:=by simp[hb]
  rw[eb];simp only[go_sem,b41,Tryz.f41,t1]<;>rfl
 ·rw[decide_eq_false hb]at t1
  rw[ZO hb]
  cases q:whole b with
  |true=>
   rw[q]at k1
   simp only[go_sem,b41,Tryz.f41,t1,QT hy,k1,Jhx,k2]<;>rfl
  |false=>rw[q]at k1;simp only[go_sem,b41,Tryz.f41,t1,QT hy,k1]<;>rfl
structure OkD(d:Rul.Dc):Prop where
 hy:By d.name
 hl:d.name.length<=10000000
 hv:OkL d.val
def Kb(d:Rul.Dc):Bool:=Jl d.name&&Q7 d.val
abbrev N19(l:List Rul.Dc)(k:Int):Jj:=[(5,.list .no (l.map Rul.Jv)),(6,.v (.int .i64 l.length)),(7,.v (.int .i64 k))]
theorem JWc{l:List Rul.Dc}{d:Rul.Dc}{k:Nat}(hlo:lo<=h.length)(hl:l.length<=1000000000)(hg:l[k]? =some d)(hok:OkD d):
  evCode ⟨Aa,E,lo,h.length,h20⟩ JA jx (N19 l k,h)=
   if Kb d=true then some (.normal,N19 l (k+1:Nat),h)else some (.ret,[(2,.v (.bool false))],h++[.cells (Rul.Jv d)]):=by
 have hlt:k<l.length:=(Ad.1 hg).1
 have hgr:(l.map Rul.Jv)[k]? =some (Rul.Jv d):=by simp[hg]
 have q:decide ((k:Int)<(l.length:Int))=true:=by simp;omega
 have hw:=JH (i:=k) om;have hlo':lo<=h.length+1:=om;have hb:d.name.length<=1000000000:=by have:=hok.hl;omega
 have c36:=λlo=>f41 (lo:=lo) (h:=h++[.cells (Rul.Jv d)]) hok.hy hb
 have c13:=λlo hlo=>f19 (lo:=lo) (h:=h++[.cells (Rul.Jv d)]) (l:=d.val) hlo hok.hv.hn hok.hv.hok
 have c13a:=c13 lo (by simp;omega);have c13b:=c13 h.length (by simp);have c13c:=c13 (h.length+1) (by simp)
 clear c13;unfold Kb;have ed:Rul.Jv d=[.v (.string (bs d.name)),.list .no (Rul.JL d.val),.v (.bool d.imp)]:=rfl;rw[ed]at hgr c13a c13b c13c⊢;simp only[ed]at c36
 cases hn:Jl d.name with
 |false=>
  rw[hn]at c36;rw[Aw,if_neg (show¬false=true by simp)]
  simp only[go_sem,jx,b20,Tryz.f20,hlo,hlo',q,hgr,hw,c36,Ag]<;>rfl
 |true=>
  rw[hn]at c36;rw[AB]
  cases hf:Q7 d.val with
  |true=>
   rw[hf]at c13a c13b c13c;rw[if_pos rfl]
   simp only[go_sem,jx,b20,Tryz.f20,hlo,hlo',q,hgr,hw,c36,c13a,c13b,c13c,Ag]<;>rfl
  |false=>
   rw[hf]at c13a c13b c13c;rw[if_neg (show¬false=true by simp)]
   simp only[go_sem,jx,b20,Tryz.f20,hlo,hlo',q,hgr,hw,c36,c13a,c13b,c13c,Ag]<;>rfl
end Go.Lift.M1
end

section
open Go.Proofs
namespace Go.Lift.M1
variable[MX][HasD][HasN]
open Utf Tok Spell
section
variable{lo:Nat}{h:JC}
theorem JPo(k:Int)(b:List Int)(n d:Int)(w i:Bool):∃s e,ZS k b n d w i= .tup [.v (.string (bs s)),.v (.int .i64 e)]:=by
 unfold ZS
 split
 ·exact⟨_,_,rfl⟩
 ·exact⟨_,_,rfl⟩
theorem JGg{c:Int}(hc:1<=c/\c<128):WJ [c]=[c]/\KD [c]=true:=by
 have hs:∀x∈[c],JQ x=x:=by intro x hx;simp at hx;subst hx;exact scal_ok om om om
 have e:JJ [c]=[c]:=by
  rw[KT,hs c (by simp),Zz hc.2]<;>rfl
 have h1:=JNq hs;rw[e]at h1;have h2:=(Hv [c]).2;rw[e]at h2;refine⟨h1,?_⟩
 unfold KD;rw[h2];have:([c]:List Int).contains 0=false:=by simp;omega
 rw[this]<;>rfl
theorem f44(hlo:lo<=h.length){b:List Int}(hy:By b)(hl:b.length<=10000000):E lo 44 [.v (.string (bs b))] h=some (ZS 1 b 0 0 false false,h):=by
 have k:=λlo hlo=>f76 (lo:=lo) (h:=h) (k:=1) (b:=b) (n:=0) (d:=0) (w:=false) (i:=false) hlo hy hl om om om om
 obtain⟨s,e,he⟩:=JPo 1 b 0 0 false false;rw[he]at k⊢;unfold JM at k;have ka:=k lo hlo;have kb:=k h.length (Ab _);rw[e44];simp only[go_sem,b44,Tryz.f44,ka,kb]<;>rfl
end
end Go.Lift.M1
end

section
open Go.Proofs
namespace Go.Lift.M1
variable[MX][HasD][HasN]
open Utf Tok Spell
variable{lo:Nat}{p q:JC}{p0:V}{out:List Int}{n:Int}
def GZ(l:List Rul.CV):List Int:=if Q7 l=true then Km l else[]
def GD(l:List Rul.CV):Int:=if Q7 l=true then 0 else 1
theorem JCs(l:List Rul.CV):JGf l= .tup [.v (.string (bs (GZ l))),.v (.int .i64 (GD l))]:=by
 unfold JGf GZ GD
 split<;>rfl
theorem JWd{l:List Rul.CV}(hL:OkL l):By (GZ l):=by
 unfold GZ
 split
 ·exact jd _ _ (zu hL.hok)
 ·exact J9
theorem JKi{l:List Rul.CV}(hL:OkL l):(GZ l).length<=Zf ((Rul.Je l).map ofR):=by
 unfold GZ
 split
 ·exact ZT _ _ (zu hL.hok)
 ·simp
def e1(n e:Int):Int:=if n=0 then e else n
theorem f22{l:List Rul.CV}(hlo:lo<=p.length)(hp:H0 p.length p0=true)(hL:OkL l)(ho:out.length<=1000000000):
  E lo 22 [.ptr p.length 0,.list .no (Rul.JL l)] (p++ .cells [p0,.list .yes (ri .u8 out),.v (.int .i64 n)]::q)=
   some (.tup [],p++ .cells [.ptr p.length 0,.list .yes (ri .u8 (out++GZ l)),.v (.int .i64 (e1 n (GD l)))]::q):=by
 have c6:=λlo hlo=>f43 (lo:=lo) (h:=p++ .cells [p0,.list .yes (ri .u8 out),.v (.int .i64 n)]::q) (l:=l) hlo hL
 rw[JCs]at c6;have c6a:=c6 lo (by simp;omega);have c6b:=c6 (p++ .cells [p0,.list .yes (ri .u8 out),.v (.int .i64 n)]::q).length (Ab _)
 rw[Ah,Ae]at c6b;have hvl:=JKi hL;have hcc:=hL.hc;have c30:=λn=>ZP (lo:=lo) (p:=p) (q:=q) (p0:=p0) (out:=out) (n:=n) hlo hp (s:=GZ l) (JWd hL) ho om
 clear c6;unfold e1;rw[e22];by_cases hn:n=0
 ·have qn:(n==0)=true:=by simpa using hn
  rw[if_pos hn];subst hn;simp only[go_sem,b22,Tryz.f22,hlo,qn,c6a,c6b,c30,Ap]<;>rfl
 ·have qn:(n==0)=false:=by simpa using hn
  rw[if_neg hn];simp only[go_sem,b22,Tryz.f22,hlo,qn,c6a,c6b,c30]<;>rfl
end Go.Lift.M1
end
