/- May component values be? the reference's. -/
import Derived.Test.YtolidijpmnompaaGreatDoorGKb
import Derived.Test.YtolidijpmnompaaGreatDoorGKc
import Derived.Test.YtolidijpmnompaaGreatDoorGKd
open Bool renaming and_eq_true->Af,and_false->Bg,and_true->BR,eq_iff_iff->BJ,false_and->An,false_eq_true->Al,false_or->A2,or_eq_true->A7,true_and->Au,true_or->Bv
open ByteArray renaming empty->AE
open Go.IntKind renaming i64->AQ,u64->Bm
open Go.Proofs.Tryz renaming prog->Aa
open List renaming all_cons->Bj,append_assoc->AM,append_nil->AH,cons_append->AK,dropWhile_cons->AV,dropWhile_suffix->BC,drop_drop->BZ,drop_eq_getElem_cons->Ap,drop_eq_nil_of_le->A6,drop_length->AY,drop_nil->Ce,drop_zero->AJ,getElem?_eq_getElem->Ac,getElem?_eq_some_iff->Ab,getElem_mem->AN,head?_drop->C8,length_append->Ax,length_cons->Ai,length_map->Ao,length_nil->Ak,length_take->As,map_nil->BG,mem_singleton->AL,nil_append->Aq,takeWhile_cons->Cg
open Nat renaming gcd->CM,le_refl->Ag,lt_or_ge->Ba,not_lt_zero->CW,zero_add->AA
open Option renaming map_some->AD
set_option linter.unusedVariables false
set_option linter.unusedSimpArgs false
set_option linter.unusedSectionVars false
set_option maxRecDepth 100000
set_option maxHeartbeats 4000000
section
open Go.Proofs
namespace Go.Lift.Y1
open Rul
variable{lo:Nat}{h:JM}
abbrev N48(l:List CV)(d k:Int):Jr:=[(1,.v (.int .i64 d)),(7,.list .no (JH l)),(8,.v (.int .i64 l.length)),(9,.v (.int .i64 k))]
theorem JRo{l:List CV}{v:CV}{n k:Nat}(hn:n<=64)(hlo:lo<=h.length)(hl:JL l<=1000000000000000000)(hg:l[k]? =some v)
  (ih:∀m,n=m+1->∀lo ks h,lo<=h.length->JL ks<=1000000000000000000->E lo 65 [.list .no (JH ks),.v (.int .i64 ((m:Int)))] h=some (.v (.bool (Ky m ks)),h)):
  evCode ⟨Aa,E,lo,h.length,h65⟩ JA W2 (N48 l ((n:Int)) k,h)=
   if JDO n v=true then some (.normal,N48 l ((n:Int)) (k+1:Nat),h)else some (.ret,[(4,.v (.bool false))],h++[.cells (Jp v)]):=by
 obtain⟨t,ks⟩:=v;have hlt:k<l.length:=(Ab.1 hg).1
 have hgr:(JH l)[k]? =some (Jp (.mk t ks)):=by rw[Jm,hg]<;>rfl
 have q:decide ((k:Int)<(l.length:Int))=true:=by simp;omega
 have hll:=JT l;have hkk:JL ks<=JL l:=zx (v:= .mk t ks) hg;have hw:=Jd (i:=k) om;have hlo':lo<=h.length+1:=om;have c42:=λlo hlo=>f17 (lo:=lo) (h:=h++[.cells (Jp (.mk t ks))]) hlo t.k
 have c42a:=c42 lo (by simp;omega);have c42b:=c42 h.length (by simp);have c42c:=c42 (h.length+1) (by simp)
 clear c42;rw[JDa];rw[JN]at*;by_cases a1:t.k<1
 ·have q1:decide (t.k<1)=true:=by simpa using a1
  have:decide (1<=t.k/\t.k<=24)=false:=by rw[decide_eq_false_iff_not];omega
  rw[this,An,if_neg (by simp)]
  simp only[go_sem,W2,b65,Tryz.f65,hlo,hlo',q,hgr,q1,JC]<;>rfl
 have q1:decide (t.k<1)=false:=by simpa using a1
 by_cases a2:24<t.k
 ·have q2:decide (24<t.k)=true:=by simpa using a2
  have:decide (1<=t.k/\t.k<=24)=false:=by rw[decide_eq_false_iff_not];omega
  rw[this,An,if_neg (by simp)]
  simp only[go_sem,W2,b65,Tryz.f65,hlo,hlo',q,hgr,q1,q2,JC]<;>rfl
 have q2:decide (24<t.k)=false:=by simpa using a2
 have:decide (1<=t.k/\t.k<=24)=true:=by rw[decide_eq_true_iff];omega
 rw[this,Au];by_cases a3:Jj t.k=0
 ·rw[if_pos a3]
  have q3:(Jj t.k==0)=true:=by simpa using a3
  cases ks with
  |nil=>
   have q4:decide ((0:Int)<((0:Nat):Int))=false:=rfl;rw[if_pos (show([]:List CV).isEmpty=true from rfl)]
   simp only[go_sem,W2,b65,Tryz.f65,hlo,hlo',q,hgr,q1,q2,q3,q4,hw,c42a,c42b,c42c,JC,Ak]<;>rfl
  |cons x r=>
   have q4:decide ((0:Int)<((r.length+1:Nat):Int))=true:=by rw[decide_eq_true_iff];omega
   rw[if_neg (show¬(x::r).isEmpty=true by simp)]
   simp only[go_sem,W2,b65,Tryz.f65,hlo,hlo',q,hgr,q1,q2,q3,q4,hw,c42a,c42b,c42c,JC,Ai]<;>rfl
 ·rw[if_neg a3]
  have q3:(Jj t.k==0)=false:=by simpa using a3
  cases n with
  |zero=>
   have q5:(((0:Nat):Int)==0)=true:=rfl;rw[if_neg (show¬false=true by simp)]
   simp only[go_sem,W2,b65,Tryz.f65,hlo,hlo',q,hgr,q1,q2,q3,q5,hw,c42a,c42b,c42c,JC]<;>rfl
  |succ m=>
   have q5:(((m+1:Nat):Int)==0)=false:=by rw[beq_eq_false_iff_ne];omega
   have w2:AQ.wrap (((m+1:Nat):Int)-1)=(m:Int):=by rw[KY om om];omega
   have c17:=λlo hlo=>ih m rfl lo ks (h++[.cells (Jp (.mk t ks))]) hlo om
   rw[JN]at c17;have c17a:=c17 lo (by simp;omega);have c17b:=c17 h.length (by simp);have c17c:=c17 (h.length+1) (by simp)
   clear c17 ih;show _=if Ky m ks=true then _ else _
   cases hm:Ky m ks with
   |true=>
    rw[hm]at c17a c17b c17c;rw[if_pos rfl]
    simp only[go_sem,W2,b65,Tryz.f65,hlo,hlo',q,hgr,q1,q2,q3,q5,hw,w2,c42a,c42b,c42c,c17a,c17b,c17c,JC]<;>rfl
   |false=>
    rw[hm]at c17a c17b c17c;rw[if_neg (by simp)]
    simp only[go_sem,W2,b65,Tryz.f65,hlo,hlo',q,hgr,q1,q2,q3,q5,hw,w2,c42a,c42b,c42c,c17a,c17b,c17c,JC]<;>rfl
theorem JXO{l:List CV}{d:Int}(hlo:lo<=h.length):evCode ⟨Aa,E,lo,h.length,h65⟩ JA W2 (N48 l d l.length,h)=
   some (.exit 0,N48 l d l.length++[(10,.v (.bool false))],h):=by
 have q:decide ((l.length:Int)<(l.length:Int))=false:=by simp
 simp only[go_sem,W2,b65,Tryz.f65,hlo,q]<;>rfl
theorem JPZ{l:List CV}{n:Nat}(hn:n<=64)(hlo:lo<=h.length)(hl:JL l<=1000000000000000000)
  (ih:∀m,n=m+1->∀lo ks h,lo<=h.length->JL ks<=1000000000000000000->E lo 65 [.list .no (JH ks),.v (.int .i64 ((m:Int)))] h=some (.v (.bool (Ky m ks)),h)):
  ∀(m k:Nat),k+m=l.length->if Ky n (l.drop k)=true then
    JA (evCode ⟨Aa,E,lo,h.length,h65⟩ JA W2) (N48 l ((n:Int)) k,h)=some (.exit 0,N48 l ((n:Int)) l.length++[(10,.v (.bool false))],h)
   else∃X,JA (evCode ⟨Aa,E,lo,h.length,h65⟩ JA W2) (N48 l ((n:Int)) k,h)=some (.ret,[(4,.v (.bool false))],h++X):=by
 intro m
 induction m with
 |zero=>
  intro k hk;obtain rfl:k=l.length:=om
  rw[AY,if_pos (JAQ n),JJ,JXO hlo,Jx]
 |succ m ihm=>
  intro k hk;have hlt:k<l.length:=om;have hg:l[k]? =some l[k]:=Ac hlt
  have hd:l.drop k=l[k]::l.drop (k+1):=Ap hlt;rw[hd,qY];generalize l[k]=v at*;have hr:=JRo hn hlo hl hg ih
  cases hm:JDO n v with
  |false=>
   rw[hm,if_neg (by simp)]at hr
   rw[An,if_neg (by simp)]
   exact⟨_,by rw[JJ,hr,Ki]⟩
  |true=>rw[hm,if_pos rfl]at hr;rw[Au,JJ,hr,Jg];exact ihm (k+1) om
theorem f65:∀(n:Nat),n<=64->∀(lo:Nat) (l:List CV) (h:JM),lo<=h.length->JL l<=1000000000000000000->E lo 65 [.list .no (JH l),.v (.int .i64 ((n:Int)))] h=some (.v (.bool (Ky n l)),h):=by
 intro n
 induction n with
 |zero=>
  intro hn lo l h hlo hl;have hL:=JPZ (lo:=lo) (h:=h) hn hlo hl (λm hm=>by omega) l.length 0 om
  have n0:((0:Nat):Int)=0:=rfl;rw[AJ]at hL;rw[e65]
  cases hm:Ky 0 l with
  |false=>
   rw[hm,if_neg (by simp)]at hL
   obtain⟨X,hL⟩:=hL;simp only[W2,b65,Tryz.f65,JK,loops,JB,go_sem,N48,n0]at hL
   simp only[go_sem,b65,Tryz.f65,hlo,hL,JC,n0]<;>rfl
  |true=>
   rw[hm,if_pos rfl]at hL;simp only[W2,b65,Tryz.f65,JK,loops,JB,go_sem,N48,n0,AK,Aq]at hL
   simp only[go_sem,b65,Tryz.f65,hlo,hL,JC,n0]<;>rfl
 |succ n ih=>
  intro hn lo l h hlo hl
  have hL:=JPZ (lo:=lo) (h:=h) hn hlo hl (λm hm=>by
   obtain rfl:n=m:=om
   exact λlo ks h hlo hk=>ih om lo ks h hlo hk) l.length 0 om
  have n0:((0:Nat):Int)=0:=rfl;rw[AJ]at hL;rw[e65]
  cases hm:Ky (n+1) l with
  |false=>
   rw[hm,if_neg (by simp)]at hL
   obtain⟨X,hL⟩:=hL;simp only[W2,b65,Tryz.f65,JK,loops,JB,go_sem,N48,n0]at hL
   simp only[go_sem,b65,Tryz.f65,hlo,hL,JC,n0]<;>rfl
  |true=>rw[hm,if_pos rfl]at hL;simp only[W2,b65,Tryz.f65,JK,loops,JB,go_sem,N48,n0,AK,Aq]at hL;simp only[go_sem,b65,Tryz.f65,hlo,hL,JC,n0]<;>rfl
theorem f33{l:List CV}(hlo:lo<=h.length)(hl:JL l<=1000000000000000000):E lo 33 [.list .no (JH l)] h=some (.v (.bool (Ky 64 l)),h):=by
 have k:=λlo hlo=>f65 64 om lo l h hlo hl
 rw[show((64:Nat):Int)=64 from rfl]at k
 have ka:=k lo hlo;have kb:=k h.length (Ag _);rw[e33];simp only[go_sem,b33,Tryz.f33,hlo,ka,kb]<;>rfl
abbrev JHG(out:List Tk4)(l:List CV)(k:Int):Jr:=[(3,.list .yes (out.map row)),(7,.list .no (JH l)),(8,.v (.int .i64 l.length)),(9,.v (.int .i64 k))]
theorem JKw(out m:List Tk4):out.map row++m.map row=(out++m).map row:=by rw[List.map_append]
theorem JSh{n:Nat}(h:n<=1000000000):n*48<=140737488355328:=om
theorem JSi{n:Nat}(h:n<=1000000000):n<=9223372036854775807:=om
theorem JRp{l ks:List CV}{t:Tk4}{out:List Tk4}{k:Nat}(hlo:lo<=h.length)(hl:l.length<=1000000000)(hg:l[k]? =some (.mk t ks))(ho:out.length+(KT ks).length+2<=1000000000)
  (ih:∀lo h,lo<=h.length->E lo 38 [.list .no (JH ks)] h=some (.list .no ((KT ks).map row),h)):
  evCode ⟨Aa,E,lo,h.length,h38⟩ JA yJ (JHG out l k,h)=some (.normal,JHG (out++zq (.mk t ks)) l (k+1:Nat),h):=by
 have hlt:k<l.length:=(Ab.1 hg).1
 have hgr:(JH l)[k]? =some (Jp (.mk t ks)):=by rw[Jm,hg]<;>rfl
 have q:decide ((k:Int)<(l.length:Int))=true:=by simp;omega
 have hw:=Jd (i:=k) om;have hlo':lo<=h.length+1:=om;have c42:=λlo hlo=>f17 (lo:=lo) (h:=h++[.cells (Jp (.mk t ks))]) hlo t.k
 have c42a:=c42 lo (by simp;omega);have c42b:=c42 h.length (by simp);have c42c:=c42 (h.length+1) (by simp)
 have c30:=λlo hlo=>ih lo (h++[.cells (Jp (.mk t ks))]) hlo
 have c30a:=c30 lo (by simp;omega);have c30b:=c30 h.length (by simp);have c30c:=c30 (h.length+1) (by simp)
 clear c42 c30 ih
 have hf:zq (.mk t ks)=[t]++(KT ks++clT (Jj t.k)):=by have:=JAV t ks [];rw[Q3,AH,KT,Q3,AH]at this;exact this
 rw[hf];rw[JN]at*;have ra:=GH out;have rb:=GH (out++[t]);have rc:=GH (out++[t]++KT ks);have rk:=GH (KT ks);have rd:=GH (out++t::KT ks);have o8:(out.length+((KT ks).length+1)+1)*48<=140737488355328:=JKr om;have o9:out.length+((KT ks).length+1)<=9223372036854775806:=JPT om;have o1:(out.length+1)*48<=140737488355328:=JKr om
 have o2:out.length<=9223372036854775806:=JPT om;have o3:(out.length+1+(KT ks).length)*48<=140737488355328:=JSh om;have o4:out.length+1+(KT ks).length<=9223372036854775807:=JSi om;have o5:(out.length+1+(KT ks).length+1)*48<=140737488355328:=JSh om;have o6:out.length+1+(KT ks).length<=9223372036854775806:=JPT om;have o7:out.length+1<=9223372036854775807:=JSi om
 have hn:=qQ t.k;by_cases hc:Jj t.k=0
 ·have qc:(Jj t.k !=0)=false:=by rw[hc]<;>rfl
  have e:clT (Jj t.k)=[]:=by rw[hc]<;>rfl
  rw[e,AH,<-AM];simp only[go_sem,yJ,b38,Tryz.f38,hlo,hlo',q,hgr,hw,qc,c42a,c42b,c42c,c30a,c30b,c30c,ra,rb,rc,rk,o1,o2,o3,o4,o5,o6,o7,o8,o9,rd,ZX,JKw,kU,JC,Ao,Ax,Ai,Ak,AA]<;>rfl
 ·have qc:(Jj t.k !=0)=true:=by rw[bne_iff_ne];exact hc
  have e:clT (Jj t.k)=[Rul.bare (Jj t.k)]:=by unfold clT;rw[if_pos om]
  rw[e,<-AM,<-AM];simp only[go_sem,yJ,b38,Tryz.f38,hlo,hlo',q,hgr,hw,qc,c42a,c42b,c42c,c30a,c30b,c30c,ra,rb,rc,rk,o1,o2,o3,o4,o5,o6,o7,o8,o9,rd,ZX,JKw,kU,JC,Ao,Ax,Ai,Ak,AA]<;>rfl
theorem JXP{l:List CV}{out:List Tk4}(hlo:lo<=h.length):evCode ⟨Aa,E,lo,h.length,h38⟩ JA yJ (JHG out l l.length,h)=
   some (.exit 0,JHG out l l.length++[(10,.v (.bool false))],h):=by
 have q:decide ((l.length:Int)<(l.length:Int))=false:=by simp
 simp only[go_sem,yJ,b38,Tryz.f38,hlo,q]<;>rfl
theorem JMq(v:CV)(r:List CV):KT (v::r)=zq v++KT r:=by rw[KT]
theorem JPa{l:List CV}(hlo:lo<=h.length)(hl:JL l<=100000000)(ih:∀v∈l,∀lo h,lo<=h.length->E lo 38 [.list .no (JH v.ks)] h=some (.list .no ((KT v.ks).map row),h)):
  ∀(m k:Nat) (out:List Tk4),k+m=l.length->out.length+2*JL (l.drop k)<=900000000->
   JA (evCode ⟨Aa,E,lo,h.length,h38⟩ JA yJ) (JHG out l k,h)=some (.exit 0,JHG (out++KT (l.drop k)) l l.length++[(10,.v (.bool false))],h):=by
 have hlen:=JT l;intro m
 induction m with
 |zero=>
  intro k out hk _;obtain rfl:k=l.length:=om
  rw[AY,Q3,AH,JJ,JXP hlo,Jx]
 |succ m ihm=>
  intro k out hk ho;have hlt:k<l.length:=om;have hg:l[k]? =some l[k]:=Ac hlt
  have hd:l.drop k=l[k]::l.drop (k+1):=Ap hlt;have him:=ih l[k] (AN hlt);rw[hd,JMq];rw[hd,J4]at ho;generalize l[k]=v at*;obtain⟨t,ks⟩:=v;rw[Km]at ho;have hfl:=Zt ks;have hfv:=JBo (.mk t ks);rw[Km]at hfv;rw[JJ,JRp hlo om hg om him,Jg,ihm (k+1) _ om (by rw[Ax];omega),AM]
theorem f38:∀(n:Nat) (l:List CV),JL l<=n->n<=100000000->∀(lo:Nat) (h:JM),lo<=h.length->E lo 38 [.list .no (JH l)] h=some (.list .no ((KT l).map row),h):=by
 intro n
 induction n with
 |zero=>
  intro l hl hn lo h hlo
  have:l=[]:=by have:=JT l;exact List.eq_nil_of_length_eq_zero om
  subst this;have hL:=JPa (lo:=lo) (h:=h) (l:=[]) hlo om (λv hv=>by cases hv) 0 0 [] rfl (by rw[Ce,QG];simp)
  have n0:((0:Nat):Int)=0:=rfl;rw[e38];simp only[yJ,b38,Tryz.f38,JK,loops,JB,go_sem,JHG,n0,BG,AK,Aq,Ce,Q3,JZ,Ak]at hL
  simp only[go_sem,b38,Tryz.f38,hlo,hL,JZ,Ak,n0,Q3,BG]<;>rfl
 |succ n ihn=>
  intro l hl hn lo h hlo;have hL:=JPa (lo:=lo) (h:=h) (l:=l) hlo om (λv hv lo h hlo=>ihn v.ks (by have:=KH hv;rw[QA]at this;omega) om lo h hlo) l.length 0 [] om (by rw[AJ];simp;omega)
  have n0:((0:Nat):Int)=0:=rfl;rw[AJ,Aq]at hL;rw[e38];simp only[yJ,b38,Tryz.f38,JK,loops,JB,go_sem,JHG,n0,BG,AK,Aq]at hL;simp only[go_sem,b38,Tryz.f38,hlo,hL,JC,n0]<;>rfl
end Go.Lift.Y1
end

section
open Go.Proofs
namespace Go.Lift.Y1
variable{lo:Nat}{h:JM}
theorem JXQ{a b:Int}{r:V}(hm:GC qM lo [.v (.int .i64 a),.v (.int .i64 b)] h=some (r,h)):E lo 45 [.v (.int .i64 a),.v (.int .i64 b)] h=some (r,h):=(JDK (p:=GC qM) rfl).trans hm
theorem q65:E lo 45 [.v (.int .i64 6),.v (.int .i64 5)] h=some (rt 6 5,h):=JXQ (by unfold qM GC;rw[if_pos kr])
theorem v1:Ht [.v (.int .i64 1),.v (.int .i64 1)] [.v (.int .i64 6),.v (.int .i64 5)]=false:=kr
theorem v2:Ht [.v (.int .i64 0),.v (.int .i64 1)] [.v (.int .i64 6),.v (.int .i64 5)]=false:=kr
theorem v3:Ht [.v (.int .i64 0),.v (.int .i64 1)] [.v (.int .i64 1),.v (.int .i64 1)]=false:=kr
theorem q11:E lo 45 [.v (.int .i64 1),.v (.int .i64 1)] h=some (rt 1 1,h):=JXQ (by unfold qM GC;rw[v1,if_neg (by simp)];unfold GC;rw[if_pos kr])
theorem q01:E lo 45 [.v (.int .i64 0),.v (.int .i64 1)] h=some (rt 0 1,h):=JXQ (by unfold qM GC;rw[v2,if_neg (by simp)];unfold GC;rw[v3,if_neg (by simp)];unfold GC;rw[if_pos kr])
theorem f40{n:Int}(hlo:lo<=h.length):E lo 40 [.v (.int .i64 n)] h=some (rt n 1,h):=by rw[e40];simp only[go_sem,b40,Tryz.f40,hlo]<;>rfl
theorem f15{n:Int}(hlo:lo<=h.length):E lo 15 [.v (.int .i64 n)] h=some (.agg [.v (.int .i64 1),.v (.int .i64 n),.v (.int .i64 1),.v (.string ⟨#[]⟩)],h):=by
 have l1:lo<=h.length+1:=om;have c:=λlo h hlo=>f40 (lo:=lo) (h:=h) (n:=n) hlo
 unfold rt at c;rw[e15];simp only[go_sem,b15,Tryz.f15,hlo,l1,c,Ag]<;>rfl
theorem f14{s:ByteArray}(hlo:lo<=h.length):E lo 14 [.v (.string s)] h=some (.agg [.v (.int .i64 3),.v (.int .i64 0),.v (.int .i64 0),.v (.string s)],h):=by rw[e14];simp only[go_sem,b14,Tryz.f14,hlo]<;>rfl
theorem f16{a b:Int}(hlo:lo<=h.length)(hq:∀lo h,E lo 45 [.v (.int .i64 a),.v (.int .i64 b)] h=some (rt a b,h)):E lo 16 [.v (.int .i64 a),.v (.int .i64 b)] h=some (.agg [.v (.int .i64 2),.v (.int .i64 a),.v (.int .i64 b),.v (.string ⟨#[]⟩)],h):=by unfold rt at hq;rw[e16];simp only[go_sem,b16,Tryz.f16,hlo,hq]<;>rfl
theorem f6(hlo:lo<=h.length):E lo 6 [] h=some (.list .no (tblP.map Y9),h):=by
 have k48:=λlo h s hlo=>f14 (lo:=lo) (h:=h) hlo (s:=s)
 have k49:=λlo h n hlo=>f15 (lo:=lo) (h:=h) hlo (n:=n)
 have k65:=λlo h hlo=>f16 (lo:=lo) (h:=h) hlo (a:=6) (b:=5) λ_ _=>q65
 have k11:=λlo h hlo=>f16 (lo:=lo) (h:=h) hlo (a:=1) (b:=1) λ_ _=>q11
 have k01:=λlo h hlo=>f16 (lo:=lo) (h:=h) hlo (a:=0) (b:=1) λ_ _=>q01
 rw[e6];simp only[go_sem,b6,Tryz.f6,hlo,k48,k49,k65,k11,k01];all_goals(refine congrArg (λx=>(x,h)) ?_;show _=_;kernel_rfl)
end Go.Lift.Y1
end

section
open Go.Proofs
namespace Go.Lift.Y1
open Rul
open Utf (By)
variable{lo:Nat}{h:JM}
noncomputable abbrev N11(h:JM)(s:ByteArray)(j:Int):Jr:=[(0,.v (.string s)),(2,.ptr h.length 0),(6,.list .no (tblP.map Y9)),(7,.v (.int .i64 14)),(8,.v (.int .i64 j))]
def GZ:List V:=[.v (.string AE),.v (.int .i64 0),.v (.bool false),.v (.bool false),.list .yes [],.v (.int .i64 0),.v (.int .i64 0),.v (.int .i64 0),.v (.string AE)]
theorem JAY(p:PR):∃a b c d,Y9 p=[.v (.string p.n),.v (.int .i64 p.k),.v (.bool p.d),.v (.bool p.l),.list .no (JDU p.w),.v (.int .i64 a),.v (.int .i64 b),.v (.int .i64 c),.v (.string d)]:=by
 unfold Y9 JO5
 split
 ·exact⟨_,_,_,_,rfl⟩
 ·split
  ·exact⟨_,_,_,_,rfl⟩
  ·exact⟨_,_,_,_,rfl⟩
theorem r31{s:ByteArray}{j:Nat}{p:PR}(hlo:lo<=h.length)(hp:tblP[j]? =some p):
  evCode ⟨Aa,E,lo,h.length,h31⟩ JA kG (N11 h s j,h++[.cells GZ])=if(s.toList==p.n.toList)=true then some (.ret,[(2,.ptr h.length 0),(3,.v (.int .i64 j))],h++[.cells (Y9 p),.cells (Y9 p)])else some (.normal,N11 h s (j+1:Nat),h++[.cells GZ]):=by
 have l1:lo<=h.length+1:=om;have hlt:j<14:=(Ab.1 hp).1
 have hgr:(tblP.map Y9)[j]? =some (Y9 p):=by simp[hp]
 have q1:decide ((j:Int)<14)=true:=by rw[decide_eq_true_iff];omega
 have t1:Int.toNat (j:Int)=j:=om;have hw:=Jd (i:=j) om;have hs:(p.n.toList==s.toList)=(s.toList==p.n.toList):=by rw[BJ,beq_iff_eq,beq_iff_eq];exact⟨Eq.symm,Eq.symm⟩
 obtain⟨a,b,c,d,e⟩:=JAY p;rw[e]at hgr⊢
 cases hq:s.toList==p.n.toList with
 |true=>
  rw[hq]at hs;rw[if_pos rfl]
  simp only[N11,GZ,go_sem,kG,b31,Tryz.f31,hlo,l1,q1,hgr,t1,hw,hs]<;>rfl
 |false=>
  rw[hq]at hs;rw[if_neg (by simp)]
  simp only[N11,GZ,go_sem,kG,b31,Tryz.f31,hlo,l1,q1,hgr,t1,hw,hs]<;>rfl
theorem JXR{s:ByteArray}(hlo:lo<=h.length):
  evCode ⟨Aa,E,lo,h.length,h31⟩ JA kG (N11 h s (14:Nat),h++[.cells GZ])=some (.exit 0,N11 h s (14:Nat)++[(9,.v (.bool false))],h++[.cells GZ]):=by
 have l1:lo<=h.length+1:=om;have q1:decide (((14:Nat):Int)<14)=false:=rfl;simp only[N11,GZ,go_sem,kG,b31,Tryz.f31,hlo,l1,q1]<;>rfl
theorem JPb{s:ByteArray}{j:Nat}{p:PR}(hp:tblP[j]? =some p):atL s (tblP.drop j) j=if(s.toList==p.n.toList)=true then some j else atL s (tblP.drop (j+1)) (j+1):=by
 obtain⟨hlt,rfl⟩:=Ab.1 hp
 rw[Ap hlt]<;>rfl
theorem JPc{s:ByteArray}(hlo:lo<=h.length):∀m j:Nat,j+m=14->
  (∃i p,atL s (tblP.drop j) j=some i/\tblP[i]? =some p/\JA (evCode ⟨Aa,E,lo,h.length,h31⟩ JA kG) (N11 h s j,h++[.cells GZ])=some (.ret,[(2,.ptr h.length 0),(3,.v (.int .i64 i))],h++[.cells (Y9 p),.cells (Y9 p)]))\/
  (atL s (tblP.drop j) j=none/\JA (evCode ⟨Aa,E,lo,h.length,h31⟩ JA kG) (N11 h s j,h++[.cells GZ])=some (.exit 0,N11 h s (14:Nat)++[(9,.v (.bool false))],h++[.cells GZ]))
 |0,j,hk=>by
  obtain rfl:j=14:=om
  exact .inr ⟨rfl,by rw[JJ,JXR hlo,Jx]⟩
 |m+1,j,hk=>by
  have hlt:j<tblP.length:=by show j<14;omega
  have hp:=Ac hlt
  rw[JPb hp,JJ,r31 hlo hp];by_cases hq:(s.toList==tblP[j].n.toList)=true
  ·rw[if_pos hq,if_pos hq,Ki]
   exact .inl ⟨j,_,rfl,hp,rfl⟩
  ·rw[if_neg hq,if_neg hq,Jg]
   exact JPc hlo m (j+1) om
theorem f31{s:ByteArray}(hlo:lo<=h.length):
  (∃i p,atL s tblP 0=some i/\tblP[i]? =some p/\E lo 31 [.v (.string s)] h=some (.tup [.agg (Y9 p),.v (.int .i64 i)],h))\/
  (atL s tblP 0=none/\E lo 31 [.v (.string s)] h=some (.tup [.agg JAJ,.v (.int .i64 (-1))],h)):=by
 have l1:lo<=h.length+1:=om;have c6:=λlo h hlo=>f6 (lo:=lo) (h:=h) hlo
 have hn:((tblP.map Y9).length:Int)=14:=rfl;have hL:=JPc (s:=s) hlo 14 0 rfl;rw[AJ]at hL;rw[e31];rcases hL with⟨i,p,h1,h2,hL⟩|⟨h1,hL⟩
 ·refine .inl ⟨i,p,h1,h2,?_⟩
  obtain⟨a,b,c,d,e⟩:=JAY p;rw[e]at hL⊢;simp only[kG,b31,Tryz.f31,JK,loops,JB,N11,GZ,go_sem]at hL;simp only[go_sem,b31,Tryz.f31,hlo,l1,c6,hn,hL]<;>rfl
 ·refine .inr ⟨h1,?_⟩
  simp only[kG,b31,Tryz.f31,JK,loops,JB,N11,GZ,go_sem]at hL;simp only[go_sem,b31,Tryz.f31,hlo,l1,c6,hn,hL]<;>rfl
theorem JMr:(tblP.all λp=>decide ((Go.Lib.fields p.w.data.toList).length<=1000000000))=true:=kr
theorem JJm:JAJ=JG ⟨#[]⟩ 0 false false [] 0 0 0 ⟨#[]⟩:=rfl
theorem JJn{p:PR}(hp:p∈tblP):∃n k d l ws ck a b w,Y9 p=JG n k d l ws ck a b w/\ws.length<=1000000000:=by
 have hw:=List.all_eq_true.1 JMr p hp;obtain⟨a,b,c,d,e⟩:=JAY p;refine⟨p.n,p.k,p.d,p.l,(Go.Lib.fields p.w.data.toList).map λl=>⟨l.toArray⟩,a,b,c,d,?_,?_⟩
 rotate_left
 ·rw[Ao]
  exact of_decide_eq_true hw
 ·rw[e]
  unfold JG;rw[List.map_map]<;>rfl
end Go.Lift.Y1
end

section
open Go.Proofs
namespace Go.Lift.Y1
open Utf Tok Spell
section
variable{lo:Nat}{h:JM}
theorem f72{n:Int}(h0: -9223372036854775808<=n)(h1:n<=9223372036854775807):E lo 72 [.v (.int .i64 n)] h=some (.v (.int .u64 n.natAbs),h):=by
 rw[e72];by_cases hn:n<0
 ·have q:decide (n<0)=true:=by simp[hn]
  have w1:AQ.wrap (n+1)=n+1:=KY om om;have w2:AQ.wrap (0-(n+1))=0-(n+1):=KY om om;have w3:Bm.wrap (0-(n+1))=0-(n+1):=Zy om om;have w4:Bm.wrap (0-(n+1)+1)=(n.natAbs:Int):=by rw[Zy om om];omega
  simp only[go_sem,b72,Tryz.f72,q,w1,w2,w3,w4]<;>rfl
 ·have q:decide (n<0)=false:=by simp;omega
  have w1:Bm.wrap n=(n.natAbs:Int):=by rw[Zy om om];omega
  simp only[go_sem,b72,Tryz.f72,q,w1]<;>rfl
theorem JRq:∀(m a b:Nat),b<=m->JA (evCode ⟨Aa,E,lo,h.length,JOx⟩ JA qU) ([(0,.v (.int .u64 a)),(1,.v (.int .u64 b))],h)=
  some (.exit 0,[(0,.v (.int .u64 (CM a b))),(1,.v (.int .u64 0)),(6,.v (.bool false))],h):=by
 have stop:∀a:Nat,JA (evCode ⟨Aa,E,lo,h.length,JOx⟩ JA qU) ([(0,.v (.int .u64 a)),(1,.v (.int .u64 (0:Nat)))],h)=
  some (.exit 0,[(0,.v (.int .u64 (CM a 0))),(1,.v (.int .u64 0)),(6,.v (.bool false))],h):=by
  intro a;have q:decide (0<((0:Nat):Int))=false:=rfl;rw[JJ,Nat.gcd_zero_right];simp only[go_sem,qU,JMd,Tryz.f124,q]<;>rfl
 intro m
 induction m with
 |zero=>
  intro a b ha;obtain rfl:b=0:=om
  exact stop a
 |succ m ih=>
  intro a b ha;by_cases h0:b=0
  ·subst h0;exact stop a
  have q:decide (0<(b:Int))=true:=by simp;omega
  have z:¬((b:Int)=0):=om;have t:=JG0 b a
  have er:evCode ⟨Aa,E,lo,h.length,JOx⟩ JA qU ([(0,.v (.int .u64 a)),(1,.v (.int .u64 b))],h)=some (.normal,[(0,.v (.int .u64 b)),(1,.v (.int .u64 ((a%b:Nat):Int)))],h):=by simp only[go_sem,qU,JMd,Tryz.f124,q,z,t]<;>rfl
  rw[JJ,er,Jg,ih b (a%b) (by have:=Nat.mod_lt a (by omega:0<b);omega),Nat.gcd_comm a b,Nat.gcd_rec b a,Nat.gcd_comm (a%b) b]
theorem f124{a b:Nat}:E lo 124 [.v (.int .u64 a),.v (.int .u64 b)] h=some (.v (.int .u64 (CM a b)),h):=by have hL:=JRq (lo:=lo) (h:=h) b a b (Ag _);simp only[qU,JMd,Tryz.f124,JK,loops,JB,go_sem]at hL;rw[JjU];simp only[go_sem,JMd,Tryz.f124,hL]<;>rfl
theorem f101{n d:Int}(h0: -9223372036854775808<=n)(h1:n<=9223372036854775807)(h2:d<=9223372036854775807)(hlo:lo<=h.length):
  E lo 101 [.agg [.v (.int .i64 n),.v (.int .i64 d)]] h=some (.v (.bool (kK n d)),h):=by
 unfold kK JKc;rw[Ji2]
 cases q0:(n==0&&d==0)with
 |true=>
  rw[Af]at q0;obtain⟨qn,qd⟩:=q0
  simp only[go_sem,JDP,Tryz.f101,qn,qd,hlo,Bv]<;>rfl
 |false=>
  rw[A2];have k1:=λlo h=>f72 (lo:=lo) (h:=h) h0 h1
  have k2:=λlo h=>f124 (lo:=lo) (h:=h) (a:=n.natAbs) (b:=d.toNat)
  have k3:((CM n.natAbs d.toNat:Int)==1)=(CM n.natAbs d.toNat==1):=by rw[BJ,beq_iff_eq,beq_iff_eq];omega
  have main:∀b1 b2:Bool,(n==0)=b1->(d==0)=b2->(b1&&b2)=false->fin Aa [.tmp 2] h.length (evCode ⟨Aa,E,lo,h.length,JVo⟩ JA JDP (QJ [.agg [.v (.int .i64 n),.v (.int .i64 d)]],h))=
    some (.v (.bool (decide (1<=d)&&n != -9223372036854775808&&CM n.natAbs d.toNat==1)),h):=by
   intro b1 b2 e1 e2 e3;by_cases hd:1<=d
   rotate_left
   ·have q:decide (1<=d)=false:=by simp;omega
    rw[q]
    cases b1 with
    |false=>simp only[go_sem,JDP,Tryz.f101,e1,q,hlo,An]
    |true=>
     cases b2 with
     |true=>cases e3
     |false=>simp only[go_sem,JDP,Tryz.f101,e1,e2,q,hlo,An]
   have q:decide (1<=d)=true:=by simp[hd]
   by_cases hn:n= -9223372036854775808
   ·have q2:(n != -9223372036854775808)=false:=by simp[hn]
    rw[q,q2]
    cases b1 with
    |false=>simp only[go_sem,JDP,Tryz.f101,e1,q,q2,hlo,An,Bg]
    |true=>
     cases b2 with
     |true=>cases e3
     |false=>simp only[go_sem,JDP,Tryz.f101,e1,e2,q,q2,hlo,An,Bg]
   have q2:(n != -9223372036854775808)=true:=by simp[hn]
   have w1:Bm.wrap d=(d.toNat:Int):=by rw[Zy om om];omega
   rw[q,q2]
   cases b1 with
   |false=>simp only[go_sem,JDP,Tryz.f101,e1,q,q2,w1,k1,k2,k3,hlo,Au,BR]
   |true=>
    cases b2 with
    |true=>cases e3
    |false=>simp only[go_sem,JDP,Tryz.f101,e1,e2,q,q2,w1,k1,k2,k3,hlo,Au,BR]
  exact main _ _ rfl rfl q0
end
section
variable{lo:Nat}{h:JM}
theorem f96{n d:Int}(h0: -9223372036854775808<=n)(h1:n<=9223372036854775807)(h2:d<=9223372036854775807)(hlo:lo<=h.length):
  E lo 96 [.agg [.v (.int .i64 n),.v (.int .i64 d)]] h=some (.agg (if kK n d=true then[.v (.int .i64 n),.v (.int .i64 d)]else[.v (.int .i64 0),.v (.int .i64 0)]),h):=by
 have l1:lo<=h.length+1:=om;have l2:lo<=h.length+1+1:=om;have c:=λlo h hlo=>f101 (lo:=lo) (h:=h) h0 h1 h2 hlo
 have c103:∀lo h,lo<=h.length->E lo 103 [] h=some (.agg [.v (.int .i64 0),.v (.int .i64 0)],h):=λlo h hlo=>by rw[Ji4];simp only[go_sem,Jce,Tryz.f103,hlo]<;>rfl
 rw[e96]
 cases hm:kK n d with
 |true=>
  rw[hm]at c;rw[if_pos rfl]
  simp only[go_sem,b96,Tryz.f96,hlo,l1,l2,c]<;>rfl
 |false=>
  rw[hm]at c;rw[if_neg (by simp)]
  simp only[go_sem,b96,Tryz.f96,hlo,l1,l2,c,c103]<;>rfl
end
end Go.Lift.Y1
end

section
namespace Go.Lift.Rul
def Gd(r:X×Bool):Option X:=if r.2=true then some r.1 else none
def jd:Option X->X×Bool
 |none=>(Jq,false)
 |some e=>(e,true)
theorem JDj(o:Option X):Gd (jd o)=o:=by cases o<;>rfl
def mdC(v:CV):Bool:=v.k==9&&(v.t.b==[42]||v.t.b==[47])
def pmC(v:CV):Bool:=v.k==9&&(v.t.b==[43]||v.t.b==[45])
def Hp(k:Int)(b:Bool)(x:X):X:=if b=true then .mk k 0 0 0 [x]else x
def Ka(op:CV->Option X)(c:List CV)(over:Bool)(ks:List X):Option (List X):=
 match Je c with
 |[v]=>(op v).map λx=>ks++[Hp 5 over x]
 |_=>none
def kV(op:CV->Option X):List CV->Bool->List X->List CV->Option (List X)
 |c,over,ks,[]=>Ka op c over ks
 |c,over,ks,v::r=>if mdC v=true then(match Ka op c over ks with
   |some ks'=>kV op [] (v.t.b==[47]) ks' r
   |none=>none)
  else kV op (c++[v]) over ks r
def Z2(op:CV->Option X)(l:List CV):Option X:=(kV op [] false [] l).map λks=>J8 (.mk 4 0 0 0 ks)
def Kx:List CV->Bool
 |[]=>false
 |v::_=>JS v
def Qi(op:CV->Option X):List CV->Bool->Bool->List X->List CV->Option (List X)
 |c,sp,m,ks,[]=>(Z2 op c).map λx=>ks++[Hp 3 m x]
 |c,sp,m,ks,v::r=>if(pmC v&&(sp&&Kx r))=true then(match Z2 op c with
   |some x=>Qi op [] false (v.t.b==[45]) (ks++[Hp 3 m x]) r
   |none=>none)
  else Qi op (c++[v]) (JS v) m ks r
def JJo(op:CV->Option X)(l:List CV):Option X:=(Qi op [] false false [] (Je l)).map λks=>J8 (.mk 2 0 0 0 ks)
def G4:Nat->List CV->Option X
 |0,_=>none
 |n+1,l=>JJo (λv=>Gd (kz (λp=>jd (G4 n p)) v)) l
def JDk(op:CV->Option X):Nat->Bool->List X->List X->List CV->Option (List X)
 |0,_,_,_,_=>none
 |n+1,m,ks,ps,s=>
  match Js s with
  |[]=>if s.isEmpty=true then some (ks++[Hp 3 m (J8 (.mk 4 0 0 0 ps))])else none
  |v::r=>
   match Js r with
   |[]=>none
   |u::r'=>
    match op u with
    |none=>none
    |some x=>
     if mdC v=true then JDk op n m ks (ps++[Hp 5 (v.t.b==[47]) x]) r'
     else if(pmC v&&(Kx s&&Kx r))=true then JDk op n (v.t.b==[45]) (ks++[Hp 3 m (J8 (.mk 4 0 0 0 ps))]) [x] r'
     else none
theorem JMs(l:List CV):l.drop (l.takeWhile JS).length=Js l:=by
 unfold Js
 induction l with
 |nil=>rfl
 |cons v l ih=>
  rw[Cg,AV]
  split
  ·rw[Ai,List.drop_succ_cons];exact ih
  ·rfl
theorem qi(t:List CV)(a:Nat):t.drop (skipS t a)=Js (t.drop a):=by unfold skipS;rw[<-BZ,JMs]
theorem JHH(t:List CV)(a:Nat):t[skipS t a]? =(Js (t.drop a)).head? :=by rw[<-qi,C8]
theorem JHJ(t:List CV)(a:Nat):decide (a<skipS t a)=Kx (t.drop a):=by
 unfold skipS
 cases t.drop a with
 |nil=>simp[Kx]
 |cons v r=>
  rw[Cg];unfold Kx
  split
  ·rename_i h;simp[h]
  ·rename_i h;simp at h;simp[h]
theorem kW{l:List CV}{v:CV}{r:List CV}(h:Js l=v::r):JS v=false:=by
 unfold Js at h;have:=List.head?_dropWhile_not JS l
 rw[h]at this;simpa using this
theorem JHK{t:List CV}{a:Nat}{x y:Int}{ap:Bool}(h:Js (t.drop a)=[]):KM t a x y ap=(none,a):=by unfold KM;rw[JHH,h]<;>rfl
theorem JCh{t:List CV}{a:Nat}{x y:Int}{ap:Bool}{v:CV}{r:List CV}(h:Js (t.drop a)=v::r):
  ∃p,t.drop p=Js r/\a<p/\KM t a x y ap=if(v.k==9&&((v.t.b==[x]||v.t.b==[y])&&(!ap||(Kx (t.drop a)&&Kx r))))=true then(some (!(v.t.b==[x])),p)else(none,a):=by
 have hd:t.drop (skipS t a+1)=r:=by rw[<-BZ,qi,h]<;>rfl
 refine⟨skipS t (skipS t a+1),?_,?_,?_⟩
 ·rw[qi,hd]
 ·unfold skipS;omega
 ·unfold KM
  rw[JHH,h];simp only[List.head?_cons]
  rw[JHJ,JHJ,hd]
  cases v.k==9 with
  |false=>simp
  |true=>simp
section
variable{op':CV->X×Bool}{t:List CV}
def Qq(op':CV->X×Bool)(t:List CV)(f a:Nat)(ps:List X):X×Bool×Nat:=
 match KJ (J2 op' t) (λa=>KM t a 42 47 false) 5 f a ps with
 | .inl (e',a')=>(e',false,a')
 | .inr (ks,a')=>(J8 (.mk 4 0 0 0 ks),true,a')
def G9(op':CV->X×Bool)(t:List CV)(g:Nat)(m:Bool)(ks:List X):X×Bool×Nat->Option (List X)
 |(_,false,_)=>none
 |(e,true,a)=>match KJ (Qn op' t) (λa=>KM t a 43 45 true) 3 g a (ks++[Hp 3 m e])with
  | .inl _=>none
  | .inr (ks',a')=>if a'=t.length then some ks' else none
theorem GS{a:Nat}(h:t.drop a=[]):J2 op' t a=(Jq,false,a):=by unfold J2;rw[show t[a]? =none by rw[<-C8,h]<;>rfl]
theorem GT{a:Nat}{u:CV}{r:List CV}(h:t.drop a=u::r):J2 op' t a=((op' u).1,(op' u).2,a+1):=by unfold J2;rw[show t[a]? =some u by rw[<-C8,h]<;>rfl]
theorem JAa{r:X×Bool}(h:r.2=false):Gd r=none:=by unfold Gd;rw[h]<;>rfl
theorem JAb{r:X×Bool}(h:r.2=true):Gd r=some r.1:=by unfold Gd;rw[h]<;>rfl
theorem JXS{v:CV}(h:mdC v=true):(!(v.t.b==[42]))=(v.t.b==[47]):=by
 unfold mdC at h;rw[Af,A7]at h;rcases h.2 with h|h
 ·have e:v.t.b=[42]:=by simpa using h
  rw[e]<;>rfl
 ·have e:v.t.b=[47]:=by simpa using h
  rw[e]<;>rfl
theorem JXT{v:CV}(h:pmC v=true):(!(v.t.b==[43]))=(v.t.b==[45]):=by
 unfold pmC at h;rw[Af,A7]at h;rcases h.2 with h|h
 ·have e:v.t.b=[43]:=by simpa using h
  rw[e]<;>rfl
 ·have e:v.t.b=[45]:=by simpa using h
  rw[e]<;>rfl
theorem JAc:∀(d a f g:Nat) (m:Bool) (ks ps:List X),a<=t.length->t.length-a<d->t.length-a<f->t.length-a<g->
  G9 op' t g m ks (Qq op' t f a ps)=JDk (λv=>Gd (op' v)) d m ks ps (t.drop a)
 |0,_,_,_,_,_,_,_,h,_,_=>absurd h (CW _)
 |_+1,_,0,_,_,_,_,_,_,h,_=>absurd h (CW _)
 |_+1,_,_+1,0,_,_,_,_,_,_,h=>absurd h (CW _)
 |d+1,a,f+1,g+1,m,ks,ps,ha,hd,hf,hg=>by
  have stop:∀(hs:KM t a 42 47 false=(none,a)),Qq op' t (f+1) a ps=(J8 (.mk 4 0 0 0 ps),true,a):=λhs=>by unfold Qq;rw[KJ,hs]
  have stop2:∀(e:X) (hs:KM t a 43 45 true=(none,a)),G9 op' t (g+1) m ks (e,true,a)=if a=t.length then some (ks++[Hp 3 m e])else none:=λe hs=>by unfold G9;simp only;rw[KJ,hs]
  cases hl:Js (t.drop a)with
  |nil=>
   rw[stop (JHK hl),stop2 _ (JHK hl)];rw[JDk,hl];simp only
   have:(a=t.length)↔((t.drop a).isEmpty=true):=by rw[List.isEmpty_iff,List.drop_eq_nil_iff];omega
   by_cases q:a=t.length
   ·rw[if_pos q,if_pos (this.1 q)]
   ·rw[if_neg q,if_neg (λc=>q (this.2 c))]
  |cons v r=>
   have hne:a≠t.length:=λq=>by rw[q,AY]at hl;cases hl
   obtain⟨p,hp,hap,hs⟩:=JCh (x:=42) (y:=47) (ap:=false) hl;obtain⟨p2,hp2,hap2,hs2⟩:=JCh (x:=43) (y:=45) (ap:=true) hl;rw[show(v.k==9&&((v.t.b==[42]||v.t.b==[47])&&(!false||(Kx (t.drop a)&&Kx r))))=mdC v by unfold mdC;simp]at hs
   rw[show(v.k==9&&((v.t.b==[43]||v.t.b==[45])&&(!true||(Kx (t.drop a)&&Kx r))))=(pmC v&&(Kx (t.drop a)&&Kx r))by unfold pmC;simp[Bool.and_assoc]]at hs2
   rw[JDk,hl];simp only;by_cases hm:mdC v=true
   ·rw[if_pos hm]at hs
    have eP:Qq op' t (f+1) a ps=(match J2 op' t p with
      |(e,false,a')=>(e,false,a')
      |(e,true,a')=>Qq op' t f a' (ps++[Hp 5 (v.t.b==[47]) e])):=by
     unfold Qq;rw[KJ,hs];simp only;rcases J2 op' t p with⟨e,b,a'⟩
     cases b with
     |false=>rfl
     |true=>simp only;rw[JXS hm]<;>rfl
    rw[eP]
    cases hr:Js r with
    |nil=>rw[GS (hp.trans hr)]<;>rfl
    |cons u r'=>
     have hu:=hp.trans hr
     have hlen:p<t.length:=by
      rcases Ba p t.length with h|h
      ·exact h
      ·rw[A6 h]at hu;cases hu
     rw[GT hu]
     cases ho:(op' u).2 with
     |false=>simp only;rw[JAa ho]<;>rfl
     |true=>simp only;rw[JAb ho];simp only;rw[if_pos hm,JAc d (p+1) f (g+1) m ks _ om om om om];rw[<-BZ,hu]<;>rfl
   ·rw[if_neg hm]at hs
    rw[stop hs];by_cases hq:(pmC v&&(Kx (t.drop a)&&Kx r))=true
    ·rw[if_pos hq]at hs2
     have hpm:pmC v=true:=by rw[Af]at hq;exact hq.1
     have eS:G9 op' t (g+1) m ks (J8 (.mk 4 0 0 0 ps),true,a)=(match J2 op' t p2 with
       |(e,false,a')=>none
       |(e,true,a')=>G9 op' t g (v.t.b==[45]) (ks++[Hp 3 m (J8 (.mk 4 0 0 0 ps))]) (Qq op' t (t.length+1) a' [e])):=by
      rw[show G9 op' t (g+1) m ks (J8 (.mk 4 0 0 0 ps),true,a)=(match KJ (Qn op' t) (λa=>KM t a 43 45 true) 3 (g+1) a (ks++[Hp 3 m (J8 (.mk 4 0 0 0 ps))])with
       | .inl _=>none
       | .inr (ks',a')=>if a'=t.length then some ks' else none)from rfl]
      rw[KJ,hs2];simp only
      have ep:Qn op' t p2=(match J2 op' t p2 with
       |(e,false,a)=>(e,false,a)
       |(e,true,a)=>Qq op' t (t.length+1) a [e]):=by
       unfold Qn Qa;rcases J2 op' t p2 with⟨e,b,a'⟩
       cases b<;>rfl
      rw[ep];rcases J2 op' t p2 with⟨e,b,a'⟩
      cases b with
      |false=>rfl
      |true=>
       simp only;rcases Qq op' t (t.length+1) a' [e]with⟨e2,b2,a2⟩
       cases b2 with
       |false=>rfl
       |true=>simp only[G9];rw[JXT hpm]<;>rfl
     rw[eS]
     cases hr:Js r with
     |nil=>rw[GS (hp2.trans hr)]
     |cons u r'=>
      have hu:=hp2.trans hr
      have hlen:p2<t.length:=by
       rcases Ba p2 t.length with h|h
       ·exact h
       ·rw[A6 h]at hu;cases hu
      rw[GT hu]
      cases ho:(op' u).2 with
      |false=>simp only;rw[JAa ho]
      |true=>simp only;rw[JAb ho];simp only;rw[if_neg hm,if_pos hq,JAc d (p2+1) (t.length+1) g _ _ _ om om om om];rw[<-BZ,hu]<;>rfl
    ·rw[if_neg hq]at hs2
     rw[stop2 _ hs2,if_neg hne]
     cases Js r with
     |nil=>rfl
     |cons u r'=>
      simp only
      cases Gd (op' u)with
      |none=>rfl
      |some x=>simp only;rw[if_neg hm,if_neg hq]
theorem JMt{n:Nat}{l:List CV}:Gd (KZ (n+1) l)=(match Je l with
  |[]=>none
  |u::r=>match Gd (kz (KZ n) u)with
   |none=>none
   |some x=>(JDk (λv=>Gd (kz (KZ n) v)) (r.length+1) false [] [x] r).map λks=>J8 (.mk 2 0 0 0 ks)):=by
 rw[KZ];generalize Je l=t;generalize kz (KZ n)=op'
 have e:JJc op' t 0=(match J2 op' t 0 with
   |(e,false,a)=>(e,false,a)
   |(e,true,a)=>match Qq op' t (t.length+1) a [e]with
    |(e,false,a)=>(e,false,a)
    |(e,true,a)=>match KJ (Qn op' t) (λa=>KM t a 43 45 true) 3 (t.length+1) a [e]with
     | .inl (e',a')=>(e',false,a')
     | .inr (ks,a')=>(J8 (.mk 2 0 0 0 ks),true,a')):=by
  unfold JJc Qa
  rw[show Qn op' t 0=(match J2 op' t 0 with
   |(e,false,a)=>(e,false,a)
   |(e,true,a)=>Qq op' t (t.length+1) a [e])by
    unfold Qn Qa;rcases J2 op' t 0 with⟨e,b,a'⟩
    cases b<;>rfl]
  rcases J2 op' t 0 with⟨e,b,a'⟩
  cases b<;>rfl
 cases t with
 |nil=>
  simp only;rw[e,GS rfl]
  rfl
 |cons u r=>
  simp only;rw[e,GT rfl]
  cases ho:(op' u).2 with
  |false=>simp only;rw[JAa ho]<;>rfl
  |true=>
   simp only;rw[JAb ho];simp only;have h:=JAc (op':=op') (t:=u::r) (r.length+1) 1 (r.length+1+1) (r.length+1+1) false [] [(op' u).1] (by simp) (by simp) (by simp;omega) (by simp;omega)
   rw[show(u::r).drop 1=r from rfl]at h
   rw[<-h];simp only[Ai,AA];rcases Qq op' (u::r) (r.length+1+1) 1 [(op' u).1]with⟨e2,b2,a2⟩
   cases b2 with
   |false=>rfl
   |true=>
    simp only[G9,Aq,Hp,Al,if_false,Ai];rcases KJ (Qn op' (u::r)) (λa=>KM (u::r) a 43 45 true) 3 (r.length+1+1) a2 [e2]with⟨e3,a3⟩|⟨ks,a3⟩
    ·rfl
    ·simp only
     by_cases q:a3=r.length+1
     ·rw[if_pos q]
      simp[Gd,q]
     ·rw[if_neg q]
      simp[Gd,q]
end
section
variable{op:CV->Option X}
def Z3(op:CV->Option X):List CV->Bool->List X->List CV->Option (List X×Bool×List CV)
 |c,o,ks,[]=>some (ks,o,c)
 |c,o,ks,v::r=>if mdC v=true then(match Ka op c o ks with
   |some ks'=>Z3 op [] (v.t.b==[47]) ks' r
   |none=>none)
  else Z3 op (c++[v]) o ks r
theorem Hq:∀(a b c:List CV) (o:Bool) (ks:List X),Z3 op c o ks (a++b)=(Z3 op c o ks a).bind λs=>Z3 op s.2.2 s.2.1 s.1 b
 |[],b,c,o,ks=>rfl
 |v::r,b,c,o,ks=>by
  rw[AK,Z3,Z3]
  split
  ·cases Ka op c o ks with
   |none=>rfl
   |some ks'=>exact Hq r b _ _ _
  ·exact Hq r b _ _ _
theorem kX:∀(a c:List CV) (o:Bool) (ks:List X),kV op c o ks a=(Z3 op c o ks a).bind λs=>Ka op s.2.2 s.2.1 s.1
 |[],c,o,ks=>rfl
 |v::r,c,o,ks=>by
  rw[kV,Z3]
  split
  ·cases Ka op c o ks with
   |none=>rfl
   |some ks'=>exact kX r _ _ _
  ·exact kX r _ _ _
abbrev St(op:CV->Option X)(c:List CV):Option (List X×Bool×List CV):=Z3 op [] false [] c
theorem kY{c:List CV}{v:CV}{ks:List X}{o:Bool}{k:List CV}(h:St op c=some (ks,o,k)):
  St op (c++[v])=if mdC v=true then(Ka op k o ks).map (λks'=>(ks',v.t.b==[47],[]))else some (ks,o,k++[v]):=by
 unfold St at*;rw[Hq,h];simp only[Option.bind_some];rw[Z3]
 split
 ·cases Ka op k o ks<;>rfl
 ·rfl
theorem Hr:∀(sp:List CV),sp.all JS=true->∀{c:List CV} {ks:List X} {o:Bool} {k:List CV},St op c=some (ks,o,k)->St op (c++sp)=some (ks,o,k++sp)
 |[],_,c,ks,o,k,h=>by rw[AH,AH];exact h
 |v::r,hs,c,ks,o,k,h=>by
  rw[Bj,Af]at hs
  have hv:mdC v=false:=by
   have:v.k=13:=by simpa[JS]using hs.1
   unfold mdC;rw[this]<;>rfl
  have:=kY (v:=v) h;rw[hv]at this;simp only[Al,if_false]at this;rw[show c++v::r=(c++[v])++r by simp,show k++v::r=(k++[v])++r by simp]
  exact Hr r hs.2 this
theorem Z4{c:List CV}{ks:List X}{o:Bool}{k:List CV}(h:St op c=some (ks,o,k)):Z2 op c=(Ka op k o ks).map λks=>J8 (.mk 4 0 0 0 ks):=by
 unfold Z2;rw[kX,show Z3 op [] false [] c=some (ks,o,k)from h]
 rfl
def JMu(op:CV->Option X)(c:List CV):Prop:=St op c=none\/ ∃ks o k,St op c=some (ks,o,k)/\ ∀x o ks,Ka op (k++x) o ks=none
theorem JCi{c:List CV}(h:JMu op c):Z2 op c=none:=by
 rcases h with h|⟨ks,o,k,h,hd⟩
 ·unfold Z2
  rw[kX,show Z3 op [] false [] c=none from h]<;>rfl
 ·rw[Z4 h]
  have:=hd [] o ks;rw[AH]at this;rw[this]<;>rfl
theorem JMv{c:List CV}(v:CV)(h:JMu op c):JMu op (c++[v]):=by
 rcases h with h|⟨ks,o,k,h,hd⟩
 ·left
  unfold St at*;rw[Hq,h]<;>rfl
 ·rw[JMu,kY h]
  have:=hd [] o ks;rw[AH]at this
  split
  ·left;rw[this]<;>rfl
  ·right
   exact⟨ks,o,_,rfl,λx o ks=>by rw[AM];exact hd _ o ks⟩
theorem JAd:∀(s:List CV) {c:List CV} {b m:Bool} {ks:List X},JMu op c->Qi op c b m ks s=none
 |[],c,b,m,ks,h=>by rw[Qi,JCi h]<;>rfl
 |v::r,c,b,m,ks,h=>by
  rw[Qi]
  split
  ·rw[JCi h]
  ·exact JAd r (JMv v h)
theorem GU{sp:List CV}{u:CV}{x:List CV}(hs:sp.all JS=true)(hu:JS u=false):Je (sp++u::x)=u::Kk x:=by
 rw[HP]
 have:Js (sp++u::x)=u::x:=by
  unfold Js
  induction sp with
  |nil=>rw[Aq,AV,hu]<;>rfl
  |cons a l ih=>rw[Bj,Af]at hs;rw[AK,AV,hs.1];exact ih hs.2
 rw[this,GG hu]
theorem JJp{sp:List CV}{u:CV}{x:List CV}{o:Bool}{ks:List X}(hs:sp.all JS=true)(hu:JS u=false)(ho:op u=none):Ka op (sp++u::x) o ks=none:=by
 unfold Ka;rw[GU hs hu]
 split
 ·rename_i v e
  injection e with e1 e2
  subst e1;rw[ho]<;>rfl
 ·rfl
theorem JMw{sp sp2:List CV}{u v:CV}{x:List CV}{o:Bool}{ks:List X}(hs:sp.all JS=true)(hu:JS u=false)(hv:JS v=false):Ka op (sp++u::(sp2++v::x)) o ks=none:=by
 unfold Ka;rw[GU hs hu]
 split
 ·rename_i w e
  injection e with e1 e2
  exfalso;rw[JBn,List.all_append,Bj,hv]at e2;simp at e2
 ·rfl
theorem W6{sp:List CV}{o:Bool}{ks:List X}(hs:sp.all JS=true):Ka op sp o ks=none:=by
 unfold Ka;rw[HP,show Js sp=[]from j8 hs]
 rfl
theorem qj{sp sp2:List CV}{u:CV}{x:X}{o:Bool}{ks:List X}(hs:sp.all JS=true)(hs2:sp2.all JS=true)(hu:JS u=false)(ho:op u=some x):Ka op (sp++u::sp2) o ks=some (ks++[Hp 5 o x]):=by unfold Ka;rw[GU hs hu,j9 hs2];simp only;rw[ho]<;>rfl
def JdP(op:CV->Option X)(c:List CV)(ps:List X):Prop:=∃ks o sp u x,St op c=some (ks,o,sp++[u])/\sp.all JS=true/\JS u=false/\op u=some x/\ps=ks++[Hp 5 o x]
theorem JAe{v:CV}(h:JS v=true):pmC v=false:=by
 have:v.k=13:=by simpa[JS]using h
 unfold pmC;rw[this]<;>rfl
theorem JCj:∀(sp:List CV),sp.all JS=true->∀{c s:List CV} {b m:Bool} {ks:List X},sp≠[]->Qi op c b m ks (sp++s)=Qi op (c++sp) true m ks s
 |[],_,c,s,b,m,ks,h=>absurd rfl h
 |[v],hs,c,s,b,m,ks,_=>by
  have hv:JS v=true:=by simpa using hs
  rw[AK,Aq,Qi,JAe hv,An,if_neg (by simp),hv]
 |v::w::r,hs,c,s,b,m,ks,_=>by
  have hv:JS v=true:=by rw[Bj,Af]at hs;exact hs.1
  have hr:(w::r).all JS=true:=by rw[Bj,Af]at hs;exact hs.2
  rw[AK,Qi,JAe hv,An,if_neg (by simp),hv,JCj (w::r) hr (by simp)]
  congr 1
  simp
theorem JJq{sp:List CV}(hs:sp.all JS=true){c s:List CV}{b m:Bool}{ks:List X}:Qi op c b m ks (sp++s)=Qi op (c++sp) (b|| !sp.isEmpty) m ks s:=by
 cases sp with
 |nil=>simp
 |cons v r=>rw[JCj (v::r) hs (by simp)];simp
theorem JAf{c sp r':List CV}{u:CV}{b m o:Bool}{ks ps:List X}(h9:∀v,(v.k==9)=true->op v=none)(h:St op c=some (ps,o,sp))(hs:sp.all JS=true)(hu:JS u=false):
  (op u=none->Qi op c b m ks (u::r')=none)/\(∀x,op u=some x->Qi op c b m ks (u::r')=Qi op (c++[u]) false m ks r'/\JdP op (c++[u]) (ps++[Hp 5 o x])):=by
 have hst:=kY (v:=u) h;refine⟨λho=>?_,λx ho=>?_⟩
 ·rw[Qi]
  split
  ·rw[Z4 h,W6 hs]<;>rfl
  ·refine JAd _ ?_
   rw[JMu,hst]
   split
   ·left;rw[W6 hs]<;>rfl
   ·right
    exact⟨_,_,_,rfl,λx o ks=>by rw[AM];exact JJp hs hu ho⟩
 ·have h9':(u.k==9)=false:=by
   cases q:u.k==9 with
   |false=>rfl
   |true=>rw[h9 u q]at ho;cases ho
  have hm:mdC u=false:=by unfold mdC;rw[h9']<;>rfl
  have hp:pmC u=false:=by unfold pmC;rw[h9']<;>rfl
  rw[Qi,hp,An,if_neg (by simp),hu]
  refine⟨rfl,?_⟩
  rw[hm]at hst;simp only[Al,if_false]at hst;exact⟨ps,o,sp,u,x,hst,hs,hu,ho,rfl⟩
theorem Zi(l:List CV):(l.takeWhile JS).all JS=true:=by
 induction l with
 |nil=>rfl
 |cons v l ih=>
  rw[Cg]
  split
  ·rename_i h;rw[Bj,h,ih]<;>rfl
  ·rfl
theorem JCk(l:List CV):Kx l= !(l.takeWhile JS).isEmpty:=by
 cases l with
 |nil=>rfl
 |cons v r=>
  rw[Cg,Kx]
  split
  ·rename_i h;simp[h]
  ·rename_i h;simp at h;simp[h]
theorem JAg(l:List CV):l=l.takeWhile JS++Js l:=(List.takeWhile_append_dropWhile ..).symm
theorem JRr{l:List CV}(h:Kk l=l)(hl:Js l=[]):l=[]:=by
 rw[<-h];refine JBn.2 ?_
 have e:=JAg l;rw[hl,AH]at e;rw[e];exact Zi l
theorem GV{v:CV}{r:List CV}(h:Kk (v::r)=v::r):Kk r=r:=by
 cases hv:JS v with
 |false=>
  rw[GG hv]at h
  injection h
 |true=>
  rw[zt hv]at h
  split at h
  ·cases h
  ·injection h
theorem ja{l:List CV}(h:Kk l=l):Kk (Js l)=Js l:=by rw[<-G1,h]
theorem JDl(h9:∀v,(v.k==9)=true->op v=none):∀(n:Nat) (s c:List CV) (m:Bool) (ks ps:List X),s.length<n->Kk s=s->JdP op c ps->
  Qi op c false m ks s=JDk op n m ks ps s
 |0,_,_,_,_,_,h,_,_=>absurd h (CW _)
 |n+1,s,c,m,ks,ps,hn,hr,hg=>by
  obtain⟨k0,o0,sp0,u0,x0,hst,hs0,hu0,hx0,rfl⟩:=hg;have hsp:=Zi s;have hst1:=Hr (op:=op) _ hsp hst;have e:=JAg s;have hnx:=JCk s;rw[JDk]
  cases hl:Js s with
  |nil=>
   have:s=[]:=JRr hr hl;subst this;simp only;rw[show([]:List CV).isEmpty=true from rfl,if_pos rfl,Qi,Z4 hst]
   rw[show Ka op (sp0++[u0]) o0 k0=some (k0++[Hp 5 o0 x0])from qj hs0 rfl hu0 hx0]<;>rfl
  |cons v r=>
   have hv:=kW hl
   have hrr:Kk r=r:=by have:=ja hr;rw[hl]at this;exact GV this
   have hlen:r.length+1<=s.length:=by
    have:(Js s).length<=s.length:=by unfold Js;exact(BC _).length_le
    rw[hl]at this;simpa using this
   have hlr:(Js r).length<=r.length:=by unfold Js;exact(BC _).length_le
   have e0:Qi op c false m ks s=Qi op (c++s.takeWhile JS) (Kx s) m ks (v::r):=by
    conv=>lhs;rw[e,hl]
    rw[JJq hsp,hnx,A2]
   rw[e0];generalize hSP:s.takeWhile JS=sp at*;have hspr:=Zi r;have er:=JAg r;have hnr:=JCk r;generalize hSPr:r.takeWhile JS=spr at*;simp only;by_cases hm:mdC v=true
   ·have hp:pmC v=false:=by
     unfold mdC at hm;unfold pmC;rw[Af,A7]at hm;rcases hm.2 with h|h
     ·rw[show v.t.b=[42]by simpa using h];simp
     ·rw[show v.t.b=[47]by simpa using h];simp
    have hcl:Ka op (sp0++[u0]++sp) o0 k0=some (k0++[Hp 5 o0 x0]):=by rw[AM];exact qj hs0 hsp hu0 hx0
    have hst2:=kY (v:=v) hst1;rw[if_pos hm,hcl]at hst2;simp only[AD]at hst2;have hst3:=Hr (op:=op) spr hspr hst2;rw[Aq]at hst3;rw[Qi,hp,An,if_neg (by simp),hv]
    rw[show Qi op (c++sp++[v]) false m ks r=Qi op (c++sp++[v]++spr) (Kx r) m ks (Js r)by
     conv=>lhs;rw[er]
     rw[JJq hspr,hnr,A2]]
    cases hr2:Js r with
    |nil=>
     simp only;rw[Qi,Z4 hst3,W6 hspr]
     rfl
    |cons u r'=>
     have hu:=kW hr2;obtain⟨a1,a2⟩:=JAf (b:=Kx r) (m:=m) (ks:=ks) (r':=r') h9 hst3 hspr hu;simp only
     cases ho:op u with
     |none=>exact a1 ho
     |some x=>
      obtain⟨b1,b2⟩:=a2 x ho;simp only;rw[b1,if_pos hm];refine JDl h9 n r' _ m ks _ ?_ ?_ b2
      ·rw[hr2,Ai]at hlr;omega
      ·have:=ja hrr
       rw[hr2]at this;exact GV this
   ·have dead:Qi op (c++sp++[v]) (JS v) m ks r=none:=by
     refine JAd _ ?_
     have hst2:=kY (v:=v) hst1;rw[if_neg hm]at hst2
     exact .inr ⟨_,_,_,hst2,λx o ks=>by
      rw[show sp0++[u0]++sp++[v]++x=sp0++u0::(sp++v::x)by simp]
      exact JMw hs0 hu0 hv⟩
    rw[Qi];by_cases hq:(pmC v&&(Kx s&&Kx r))=true
    ·rw[if_pos hq,Z4 hst1,show Ka op (sp0++[u0]++sp) o0 k0=some (k0++[Hp 5 o0 x0])by rw[AM];exact qj hs0 hsp hu0 hx0]
     simp only[AD]
     have hst3:St op spr=some ([],false,spr):=by have:=Hr (op:=op) spr hspr (c:=[]) (ks:=[]) (o:=false) (k:=[]) rfl;simpa using this
     rw[show Qi op [] false (v.t.b==[45]) (ks++[Hp 3 m (J8 (.mk 4 0 0 0 (k0++[Hp 5 o0 x0])))]) r=Qi op spr (Kx r) (v.t.b==[45]) (ks++[Hp 3 m (J8 (.mk 4 0 0 0 (k0++[Hp 5 o0 x0])))]) (Js r)by
      conv=>lhs;rw[er]
      rw[JJq hspr,hnr,A2,Aq]]
     cases hr2:Js r with
     |nil=>
      simp only;rw[Qi,Z4 hst3,W6 hspr]
      rfl
     |cons u r'=>
      have hu:=kW hr2;obtain⟨a1,a2⟩:=JAf (b:=Kx r) (m:=v.t.b==[45]) (ks:=ks++[Hp 3 m (J8 (.mk 4 0 0 0 (k0++[Hp 5 o0 x0])))]) (r':=r') h9 hst3 hspr hu;simp only
      cases ho:op u with
      |none=>exact a1 ho
      |some x=>
       obtain⟨b1,b2⟩:=a2 x ho;simp only;rw[b1,if_neg hm,if_pos hq];refine JDl h9 n r' _ _ _ _ ?_ ?_ b2
       ·rw[hr2,Ai]at hlr;omega
       ·have:=ja hrr
        rw[hr2]at this;exact GV this
    ·rw[if_neg hq,dead]
     cases Js r with
     |nil=>rfl
     |cons u r'=>
      simp only
      cases op u with
      |none=>rfl
      |some x=>simp only;rw[if_neg hm,if_neg hq]
theorem JPd(h9:∀v,(v.k==9)=true->op v=none)(l:List CV):JJo op l=(match Je l with
  |[]=>none
  |u::r=>match op u with
   |none=>none
   |some x=>(JDk op (r.length+1) false [] [x] r).map λks=>J8 (.mk 2 0 0 0 ks)):=by
 unfold JJo
 cases hl:Je l with
 |nil=>rfl
 |cons u r=>
  have ht:Kk (u::r)=u::r:=by rw[<-hl,HP,JGp]
  have hu:JS u=false:=by
   have h1:Js (Je l)=Je l:=by rw[HP,G1,JGq]
   rw[hl]at h1;exact kW h1
  obtain⟨a1,a2⟩:=JAf (op:=op) (c:=[]) (sp:=[]) (r':=r) (u:=u) (b:=false) (m:=false) (o:=false) (ks:=[]) (ps:=[]) h9 rfl rfl hu;simp only
  cases ho:op u with
  |none=>rw[a1 ho]<;>rfl
  |some x=>obtain⟨b1,b2⟩:=a2 x ho;rw[b1,JDl h9 (r.length+1) r _ false [] _ (Nat.lt_succ_self _) (GV ht) b2]<;>rfl
end
theorem kZ{w w':List CV->X×Bool}(h:∀l,Gd (w l)=Gd (w' l)):∀ps,K5 w ps=K5 w' ps
 |[]=>rfl
 |p::r=>by
  have hp:=h p;unfold Gd at hp;rw[K5,K5,kZ h r];rcases hw:w p with⟨e,b⟩
  rcases hw':w' p with⟨e',b'⟩
  rw[hw,hw']at hp;cases b<;>cases b'<;>simp_all
theorem JHL{w w':List CV->X×Bool}(h:∀l,Gd (w l)=Gd (w' l))(k:Int)(l:List CV):Wo k w l=Wo k w' l:=by unfold Wo;rw[kZ h]
theorem yN{w w':List CV->X×Bool}(h:∀l,Gd (w l)=Gd (w' l)):∀v,Gd (KA w v)=Gd (KA w' v)
 | .mk t kids=>by
  unfold KA;simp only[JHL h]
  repeat' split
  all_goals first|rfl|exact h _
theorem JMx{w w':List CV->X×Bool}(h:∀l,Gd (w l)=Gd (w' l))(v:CV):Gd (kz w v)=Gd (kz w' v):=by
 unfold kz
 split
 ·exact h _
 ·exact yN h v
theorem op9{w:List CV->X×Bool}(v:CV)(h:(v.k==9)=true):Gd (kz w v)=none:=by
 obtain⟨t,kids⟩:=v;obtain⟨k,b,n,d,i,w⟩:=t;have hk:k=9:=by have:(k==9)=true:=h;simpa using this
 subst hk;rfl
theorem JCl:∀(n:Nat) (l:List CV),Gd (KZ n l)=G4 n l
 |0,l=>rfl
 |n+1,l=>by
  have e:(λv=>Gd (kz (λp=>jd (G4 n p)) v))=λv=>Gd (kz (KZ n) v):=by
   funext v
   refine JMx (λp=>?_) v
   rw[JDj,JCl n p]
  rw[G4,e,JPd op9,JMt]<;>rfl
theorem JMy(n:Nat)(v:CV):Gd (JG2 n v)=Gd (KA (λp=>jd (G4 n p)) v):=
 yN (λp=>by rw[JDj,JCl]) v
end Go.Lift.Rul
end

section
open Go.Proofs
namespace Go.Lift.Y1
open Rul
open Utf (By)
variable{lo:Nat}{h:JM}
theorem f122{t:Tk4}{kids:List CV}(hlo:lo<=h.length):E lo 122 [.agg (Jp (.mk t kids))] h=some (.v (.bool (JS (.mk t kids))),h):=by
 have l1:lo<=h.length+1:=om;rw[JjS,JN];show _=some (V.v (Value.bool (t.k==13)),h)
 simp only[go_sem,Jcl,Tryz.f122,hlo,l1]<;>rfl
theorem JDm{x:Int}(h0:0<=x)(h1:x<256):By [x]:=by intro c hc;rw[AL]at hc;omega
theorem f121{t:Tk4}{kids:List CV}{x y:Int}(hlo:lo<=h.length)(hy:By t.b)(hx:By [x])(hz:By [y]):
  E lo 121 [.agg (Jp (.mk t kids)),.v (.string (Rul.bs [x])),.v (.string (Rul.bs [y]))] h=some (.v (.bool (t.k==9&&(t.b==[x]||t.b==[y]))),h):=by
 have l1:lo<=h.length+1:=om;have e1:=K1 hy hx;have e2:=K1 hy hz;rw[JjR,JN];generalize (t.b==[x])=b1 at e1⊢;generalize (t.b==[y])=b2 at e2⊢
 cases hk:t.k==9 with
 |false=>simp only[go_sem,JRP,Tryz.f121,hlo,l1,hk,An]<;>rfl
 |true=>
  rw[Au]
  cases b1 with
  |true=>simp only[go_sem,JRP,Tryz.f121,hlo,l1,hk,e1,Bv]<;>rfl
  |false=>simp only[go_sem,JRP,Tryz.f121,hlo,l1,hk,e1,e2,A2]<;>rfl
theorem f98{t:Tk4}{kids:List CV}{K:Int}{w:List Int}(hlo:lo<=h.length)(ht:okT t)(hw:By w)(hl:w.length<=1000)(hs:Jc w=w):
  E lo 98 [.agg (Jp (.mk t kids)),.v (.int .i64 K),.v (.string (Rul.bs w))] h=some (.v (.bool (t.k==K&&Jc t.b==w)),h):=by
 have l1:lo<=h.length+1:=om;have c95:=λlo h hlo=>f95 (lo:=lo) (h:=h) (a:=t.b) (b:=w) hlo (by have:=ht.2.1;omega) ht.1 om hw
 rw[jV ht.1 hw,hs]at c95;unfold Rul.bs;rw[e98,JN]
 cases hk:t.k==K with
 |false=>simp only[go_sem,b98,Tryz.f98,hlo,l1,hk,An]<;>rfl
 |true=>rw[Au];simp only[go_sem,b98,Tryz.f98,hlo,l1,hk,c95,Rul.bs]<;>rfl
def JCm:List (List Int):=[]::WB
def JCn:List V:=JCm.map λn=> .v (.string (Rul.bs n))
theorem JHM:JCn=[.v (.string AE),.v (.string ⟨#[112,120]⟩),.v (.string ⟨#[101,109]⟩),.v (.string ⟨#[114,101,109]⟩),.v (.string ⟨#[118,119]⟩),.v (.string ⟨#[118,104]⟩),.v (.string ⟨#[99,113,119]⟩),.v (.string ⟨#[99,113,104]⟩)]:=rfl
abbrev kc(b:List Int)(j:Int):Jr:=[(0,.v (.string (Rul.bs b))),(5,.agg JCn),(6,.v (.int .i64 j))]
theorem JRs{j:Nat}{n:List Int}(hg:JCm[j]? =some n):By n/\n.length<=3/\Jc n=n:=by have hm:=List.mem_of_getElem? hg;simp only[JCm,WB,List.mem_cons,List.not_mem_nil,or_false]at hm;rcases hm with rfl|rfl|rfl|rfl|rfl|rfl|rfl|rfl<;>(refine⟨?_,by decide,by decide⟩;intro c hc;simp at hc;try omega)
theorem JdQ{b n:List Int}{j:Nat}(hlo:lo<=h.length)(hy:By b)(hl:b.length<=1000000000)(hg:JCm[j]? =some n):
  evCode ⟨Aa,E,lo,h.length,h97⟩ JA GX (kc b j,h)=if(decide (0<j)&&n==Jc b)=true then some (.ret,[(2,.v (.int .i64 j))],h)else some (.normal,kc b (j+1:Nat),h):=by
 have hlt:j<8:=(Ab.1 hg).1
 have hgr:JCn[j]? =some (.v (.string (Rul.bs n))):=by unfold JCn;rw[List.getElem?_map,hg]<;>rfl
 obtain⟨hn,hnl,hns⟩:=JRs hg;have q1:decide ((j:Int)<8)=true:=by rw[decide_eq_true_iff];omega
 have t1:Int.toNat (j:Int)=j:=om;have hw:=Jd (i:=j) om;have c95:=λlo h hlo=>f95 (lo:=lo) (h:=h) (a:=b) (b:=n) hlo om hy om hn
 rw[jV hy hn,hns,Bool.beq_comm]at c95;have a1:(0:Int)<=(j:Int)/\(j:Int)<((8:Nat):Int):=om;have ls:JCn.length=8:=rfl;unfold Rul.bs at hgr;simp only[kc,Rul.bs];generalize JCn=S at hgr ls⊢;have hg2:(List.drop (j*1) S)[0]? =some (.v (.string ⟨(j4 n).toArray⟩)):=by rw[Nat.mul_one,List.getElem?_drop];exact hgr
 cases q:decide (0<j)with
 |false=>
  have q2:decide ((0:Int)<(j:Int))=false:=by rw[decide_eq_false_iff_not]at q⊢;omega
  rw[An,if_neg (by simp)]
  simp only[go_sem,GX,b97,Tryz.f97,hlo,q1,q2,hg2,t1,hw,a1,ls]<;>rfl
 |true=>
  have q2:decide ((0:Int)<(j:Int))=true:=by rw[decide_eq_true_iff]at q⊢;omega
  rw[Au];generalize (n==Jc b)=bb at c95⊢
  cases bb with
  |true=>
   rw[if_pos rfl]
   simp only[go_sem,GX,b97,Tryz.f97,hlo,q1,q2,hg2,t1,hw,a1,ls,c95]<;>rfl
  |false=>
   rw[if_neg (by simp)]
   simp only[go_sem,GX,b97,Tryz.f97,hlo,q1,q2,hg2,t1,hw,a1,ls,c95]<;>rfl
theorem JRt{b:List Int}(hlo:lo<=h.length):
  evCode ⟨Aa,E,lo,h.length,h97⟩ JA GX (kc b (8:Nat),h)=some (.exit 0,kc b (8:Nat)++[(7,.v (.bool false))],h):=by
 have q1:decide (((8:Nat):Int)<8)=false:=rfl;simp only[kc,go_sem,GX,b97,Tryz.f97,hlo,q1]<;>rfl
theorem JKx{b:List Int}(hlo:lo<=h.length)(hy:By b)(hl:b.length<=1000000000):∀m j:Nat,j+m=7->
  JA (evCode ⟨Aa,E,lo,h.length,h97⟩ JA GX) (kc b (j+1:Nat),h)=some (.ret,[(2,.v (.int .i64 (unitF (Jc b) (WB.drop j) j)))],h)\/
  (unitF (Jc b) (WB.drop j) j=0/\JA (evCode ⟨Aa,E,lo,h.length,h97⟩ JA GX) (kc b (j+1:Nat),h)=some (.exit 0,kc b (8:Nat)++[(7,.v (.bool false))],h))
 |0,j,hk=>by
  obtain rfl:j=7:=om
  exact .inr ⟨rfl,by rw[JJ,JRt hlo,Jx]⟩
 |m+1,j,hk=>by
  have hlt:j<WB.length:=by show j<7;omega
  have hp:=Ac hlt
  have hp2:JCm[j+1]? =some WB[j]:=hp;rw[JCb hp,JJ,JdQ hlo hy hl hp2];rw[show decide (0<j+1)=true by simp,Au]
  by_cases hq:(WB[j]==Jc b)=true
  ·rw[if_pos hq,if_pos hq,Ki]
   exact .inl rfl
  ·rw[if_neg hq,if_neg hq,Jg]
   exact JKx hlo hy hl m (j+1) om
theorem f97{b:List Int}(hlo:lo<=h.length)(hy:By b)(hl:b.length<=1000000000):E lo 97 [.v (.string (Rul.bs b))] h=some (.v (.int .i64 (ZC b)),h):=by
 have h0:JCm[0]? =some []:=rfl;have e0:=JdQ (lo:=lo) (h:=h) (b:=b) (j:=0) hlo hy hl h0;rw[show decide (0<0)=false from rfl,An,if_neg (by simp)]at e0
 unfold ZC;rw[e97];rcases JKx (lo:=lo) (h:=h) hlo hy hl 7 0 rfl with hL|⟨z,hL⟩
 ·rw[AJ]at hL
  have hL2:JA (evCode ⟨Aa,E,lo,h.length,h97⟩ JA GX) (kc b (0:Nat),h)=some (.ret,[(2,.v (.int .i64 (unitF (Jc b) WB 0)))],h):=by rw[JJ,e0,Jg];exact hL
  simp only[GX,b97,Tryz.f97,JK,loops,JB,kc,JHM,show((0:Nat):Int)=0 from rfl,go_sem]at hL2
  simp only[go_sem,b97,Tryz.f97,hlo,hL2]<;>rfl
 ·rw[AJ]at z
  rw[z];have hL2:JA (evCode ⟨Aa,E,lo,h.length,h97⟩ JA GX) (kc b (0:Nat),h)=some (.exit 0,kc b (8:Nat)++[(7,.v (.bool false))],h):=by rw[JJ,e0,Jg];exact hL
  simp only[GX,b97,Tryz.f97,JK,loops,JB,kc,JHM,show((0:Nat):Int)=0 from rfl,go_sem]at hL2
  simp only[go_sem,b97,Tryz.f97,hlo,hL2]<;>rfl
def W99(w:List CV->Option X)(l:List CV):Prop:=∀lo h,lo<=h.length->E lo 99 [.list .no (JH l)] h=some (.tup [.agg (xC (jd (w l)).1),.v (.bool (jd (w l)).2)],h)
def W69(w:List CV->Option X)(v:CV):Prop:=∀lo h,lo<=h.length->E lo 69 [.agg (Jp v)] h=some (.tup [.agg (xC (KA (λp=>jd (w p)) v).1),.v (.bool (KA (λp=>jd (w p)) v).2)],h)
abbrev opR(w:List CV->Option X)(v:CV):Option X:=Gd (kz (λp=>jd (w p)) v)
noncomputable abbrev W7(lo:Nat)(h:JM):Go.Lift.Cx:=⟨Aa,E,lo,h.length,JWp⟩
abbrev WG(h:JM)(l:List CV)(ks:List X)(f:Int)(o:Bool)(i:Int):Jr:=[(0,.list .no (JH l)),(2,.ptr h.length 0),(4,.list .yes (ZG ks)),(5,.v (.int .i64 f)),(6,.v (.bool o)),(7,.v (.int .i64 i))]
abbrev KO(h:JM):JM:=h++[.cells xZ]
section
variable{l:List CV}{ks:List X}{f i:Nat}{o:Bool}{w:List CV->Option X}
theorem JDn:By [42]:=JDm om om
theorem kg:By [47]:=JDm om om
theorem JdR{v:CV}(hlo:lo<=h.length)(hl:l.length<=1000000000)(hg:l[i]? =some v)(hy:By v.t.b)(hm:mdC v=false):
  evCode (W7 lo h) JA Ko (WG h l ks f o i,KO h)=some (.normal,WG h l ks f o (i+1:Nat),KO h):=by
 obtain⟨t,kids⟩:=v;have hlt:i<l.length:=(Ab.1 hg).1
 have hgr:(JH l)[i]? =some (Jp (.mk t kids)):=by rw[Jm,hg]<;>rfl
 have l1:lo<=h.length+1:=om;have q0:decide ((i:Int)<=(l.length:Int))=true:=by rw[decide_eq_true_iff];omega
 have q:decide ((i:Int)<(l.length:Int))=true:=by simpa using hlt
 have hw:=Jd (i:=i) om;have c121:=λlo h hlo=>f121 (lo:=lo) (h:=h) (t:=t) (kids:=kids) (x:=42) (y:=47) hlo hy JDn kg
 rw[show(t.k==9&&(t.b==[42]||t.b==[47]))=false from hm,show Rul.bs [42]=⟨#[42]⟩from rfl,show Rul.bs [47]=⟨#[47]⟩from rfl]at c121
 rw[JN]at*;simp only[W7,WG,KO,xZ,go_sem,Ko,ZH,Tryz.f123,hlo,l1,q0,q,hgr,hw,c121,JC]<;>rfl
def Top(l:List CV)(i:Nat)(ov:Bool):Prop:=(i=l.length/\ov=false)\/ ∃t k,l[i]? =some (.mk t k)/\mdC (.mk t k)=true/\By t.b/\(t.b==[47])=ov
abbrev HA(h:JM)(tl:JM):Option (Ex×Jr×JM):=some (.ret,[(2,.ptr h.length 0),(3,.v (.bool false))],h++ .cells xZ::tl)
theorem Jkg{b:List Int}(hy:By b):((Rul.bs b).toList==(⟨#[47]⟩:ByteArray).toList)=(b==[47]):=K1 hy kg
theorem JSj{ov:Bool}{P:List CV}(hlo:lo<=h.length)(hl:JL l<=1000000000)(hf:f<=i)(hi:i<=l.length)(ht:Top l i ov)(hP:Je ((l.take i).drop f)=P)(h1:P.length≠1):
  evCode (W7 lo h) JA Ko (WG h l ks f o i,KO h)=HA h []:=by
 have hll:l.length<=1000000000:=by have:=JT l;omega
 have l1:lo<=h.length+1:=om;have q0:decide ((i:Int)<=(l.length:Int))=true:=by rw[decide_eq_true_iff];omega
 have c36:=λlo h hlo=>f36 (lo:=lo) (h:=h) (l:=(l.take i).drop f) hlo (by have:=Wb (l:=l) (i:=i) (f:=f);have:=JT ((l.take i).drop f);omega)
 rw[hP]at c36;have ed:((JH l).take i).drop f=JH ((l.take i).drop f):=by rw[Ku,K3]
 have ra:=Jn ((l.take i).drop f);have rl:=Jn l;have pl:=JC P;have q1:((P.length:Int) !=1)=true:=by rw[bne_iff_ne];omega
 rcases ht with⟨he,_⟩|⟨t,k,hg,hm,hy,_⟩
 ·have q:decide ((i:Int)<(l.length:Int))=false:=by rw[decide_eq_false_iff_not];omega
  simp only[W7,WG,KO,HA,xZ,go_sem,Ko,ZH,Tryz.f123,hlo,l1,q0,q,hi,hf,c36,ed,ra,rl,pl,q1,JC]<;>rfl
 ·have hlt:i<l.length:=(Ab.1 hg).1
  have hgr:(JH l)[i]? =some (Jp (.mk t k)):=by rw[Jm,hg]<;>rfl
  have q:decide ((i:Int)<(l.length:Int))=true:=by simpa using hlt
  have c121:=λlo h hlo=>f121 (lo:=lo) (h:=h) (t:=t) (kids:=k) (x:=42) (y:=47) hlo hy JDn kg
  rw[show(t.k==9&&(t.b==[42]||t.b==[47]))=true from hm,show Rul.bs [42]=⟨#[42]⟩from rfl,show Rul.bs [47]=⟨#[47]⟩from rfl]at c121
  rw[JN]at hgr c121;simp only[W7,WG,KO,HA,xZ,go_sem,Ko,ZH,Tryz.f123,hlo,l1,q0,q,hgr,c121,hi,hf,c36,ed,ra,rl,pl,q1,JC]<;>rfl
theorem JSk{ov:Bool}{t:Tk4}{kids:List CV}{x:X}{b:Bool}{y:X}(hlo:lo<=h.length)(hl:JL l<=1000000000)(hf:f<=i)(hi:i<=l.length)(htp:Top l i ov)(hP:Je ((l.take i).drop f)=[.mk t kids])
  (c69:∀lo h,lo<=h.length->E lo 69 [.agg (Jp (.mk t kids))] h=some (.tup [.agg (xC x),.v (.bool b)],h))(hb:(t.k==21)=false->b=false)
  (c99:(t.k==21)=true->∀lo h,lo<=h.length->E lo 99 [.list .no (JH kids)] h=some (.tup [.agg (xC y),.v (.bool false)],h)):
  ∃e,evCode (W7 lo h) JA Ko (WG h l ks f o i,KO h)=HA h [.cells (xC e)]:=by
 have hll:l.length<=1000000000:=by have:=JT l;omega
 have l1:lo<=h.length+1:=om;have l2:lo<=h.length+1+1:=om;have q0:decide ((i:Int)<=(l.length:Int))=true:=by rw[decide_eq_true_iff];omega
 have c36:=λlo h hlo=>f36 (lo:=lo) (h:=h) (l:=(l.take i).drop f) hlo (by have:=Wb (l:=l) (i:=i) (f:=f);have:=JT ((l.take i).drop f);omega)
 rw[hP,JY,JZ,JN]at c36;rw[JN]at c69;have ed:((JH l).take i).drop f=JH ((l.take i).drop f):=by rw[Ku,K3]
 have ra:=Jn ((l.take i).drop f);have rl:=Jn l;have q1:(((0+1:Nat):Int) !=1)=false:=rfl;have q1':((1:Int) !=1)=false:=rfl;obtain⟨xk,xn,xd,xu,xl⟩:=x;obtain⟨yk,yn,yd,yu,yl⟩:=y;simp only[JP]at c69 c99;rcases htp with⟨he,_⟩|⟨t',k',hg,hm,hy,_⟩
 ·have q:decide ((i:Int)<(l.length:Int))=false:=by rw[decide_eq_false_iff_not];omega
  cases hk:t.k==21 with
  |false=>
   have:=hb hk;subst this;refine⟨.mk xk xn xd xu xl,?_⟩
   simp only[JP,W7,WG,KO,HA,xZ,go_sem,Ko,ZH,Tryz.f123,hlo,l1,l2,q0,q,hi,hf,c36,c69,hk,ed,ra,rl,q1,q1',JC,Ai,Ak]<;>rfl
  |true=>
   have c99:=c99 hk;refine⟨.mk yk yn yd yu yl,?_⟩
   simp only[JP,W7,WG,KO,HA,xZ,go_sem,Ko,ZH,Tryz.f123,hlo,l1,l2,q0,q,hi,hf,c36,c69,c99,hk,ed,ra,rl,q1,q1',JC,Ai,Ak]<;>rfl
 ·have hlt:i<l.length:=(Ab.1 hg).1
  have hgr:(JH l)[i]? =some (Jp (.mk t' k')):=by rw[Jm,hg]<;>rfl
  have q:decide ((i:Int)<(l.length:Int))=true:=by simpa using hlt
  have c121:=λlo h hlo=>f121 (lo:=lo) (h:=h) (t:=t') (kids:=k') (x:=42) (y:=47) hlo hy JDn kg
  rw[show(t'.k==9&&(t'.b==[42]||t'.b==[47]))=true from hm,show Rul.bs [42]=⟨#[42]⟩from rfl,show Rul.bs [47]=⟨#[47]⟩from rfl]at c121
  rw[JN]at hgr c121
  cases hk:t.k==21 with
  |false=>
   have:=hb hk;subst this;refine⟨.mk xk xn xd xu xl,?_⟩
   simp only[JP,W7,WG,KO,HA,xZ,go_sem,Ko,ZH,Tryz.f123,hlo,l1,l2,q0,q,hgr,c121,hi,hf,c36,c69,hk,ed,ra,rl,q1,q1',JC,Ai,Ak]<;>rfl
  |true=>
   have c99:=c99 hk;refine⟨.mk yk yn yd yu yl,?_⟩
   simp only[JP,W7,WG,KO,HA,xZ,go_sem,Ko,ZH,Tryz.f123,hlo,l1,l2,q0,q,hgr,c121,hi,hf,c36,c69,c99,hk,ed,ra,rl,q1,q1',JC,Ai,Ak]<;>rfl
theorem JSl{ov:Bool}{t:Tk4}{kids:List CV}{x:X}{b:Bool}{y z:X}(hlo:lo<=h.length)(hl:JL l<=1000000000)(hf:f<=i)(hi:i<=l.length)(hks:ks.length<=1000000000)(htp:Top l i ov)(hP:Je ((l.take i).drop f)=[.mk t kids])
  (c69:∀lo h,lo<=h.length->E lo 69 [.agg (Jp (.mk t kids))] h=some (.tup [.agg (xC x),.v (.bool b)],h))(hb:(t.k==21)=false->b=true/\x=z)
  (c99:(t.k==21)=true->∀lo h,lo<=h.length->E lo 99 [.list .no (JH kids)] h=some (.tup [.agg (xC z),.v (.bool true)],h)):
  evCode (W7 lo h) JA Ko (WG h l ks f o i,KO h)=some (.normal,WG h l (ks++[Hp 5 o z]) (i+1:Nat) ov (i+1:Nat),KO h):=by
 have hll:l.length<=1000000000:=by have:=JT l;omega
 have l1:lo<=h.length+1:=om;have l2:lo<=h.length+1+1:=om;have q0:decide ((i:Int)<=(l.length:Int))=true:=by rw[decide_eq_true_iff];omega
 have c36:=λlo h hlo=>f36 (lo:=lo) (h:=h) (l:=(l.take i).drop f) hlo (by have:=Wb (l:=l) (i:=i) (f:=f);have:=JT ((l.take i).drop f);omega)
 rw[hP,JY,JZ,JN]at c36;rw[JN]at c69;have ed:((JH l).take i).drop f=JH ((l.take i).drop f):=by rw[Ku,K3]
 have ra:=Jn ((l.take i).drop f);have rl:=Jn l;have q1:(((0+1:Nat):Int) !=1)=false:=rfl;have q1':((1:Int) !=1)=false:=rfl;have hw:=Jd (i:=i) om;have o1:=JCc hks;have o2:=JCd hks;have ka:=Hk ks;have kl:=Jf ks;have kb:=Hl ks;rcases htp with⟨he,rfl⟩|⟨t',k',hg,hm,hy,hov⟩
 ·have q:decide ((i:Int)<(l.length:Int))=false:=by rw[decide_eq_false_iff_not];omega
  cases hk:t.k==21 with
  |false=>
   obtain⟨rfl,rfl⟩:=hb hk;obtain⟨xk,xn,xd,xu,xl⟩:=x;simp only[JP]at c69;unfold Hp;cases o<;>
   simp only[WG,<-Qp,J6,JW,JP,if_true,if_false,Al]<;>
   generalize ZG ks=K at ka kl kb⊢ <;>
   simp only[W7,KO,xZ,go_sem,Ko,ZH,Tryz.f123,hlo,l1,l2,q0,q,hi,hf,c36,c69,hk,ed,ra,rl,q1,q1',hw,o1,o2,ka,kl,kb,JC,Ai,Ak]<;>rfl
  |true=>
   have c99:=c99 hk;obtain⟨xk,xn,xd,xu,xl⟩:=x;obtain⟨zk,zn,zd,zu,zl⟩:=z;simp only[JP]at c69 c99;unfold Hp;cases o<;>
   simp only[WG,<-Qp,J6,JW,JP,if_true,if_false,Al]<;>
   generalize ZG ks=K at ka kl kb⊢ <;>
   simp only[W7,KO,xZ,go_sem,Ko,ZH,Tryz.f123,hlo,l1,l2,q0,q,hi,hf,c36,c69,c99,hk,ed,ra,rl,q1,q1',hw,o1,o2,ka,kl,kb,JC,Ai,Ak]<;>rfl
 ·have hlt:i<l.length:=(Ab.1 hg).1
  have hgr:(JH l)[i]? =some (Jp (.mk t' k')):=by rw[Jm,hg]<;>rfl
  have q:decide ((i:Int)<(l.length:Int))=true:=by simpa using hlt
  have c121:=λlo h hlo=>f121 (lo:=lo) (h:=h) (t:=t') (kids:=k') (x:=42) (y:=47) hlo hy JDn kg
  rw[show(t'.k==9&&(t'.b==[42]||t'.b==[47]))=true from hm,show Rul.bs [42]=⟨#[42]⟩from rfl,show Rul.bs [47]=⟨#[47]⟩from rfl]at c121
  have e7:=Jkg hy;rw[hov]at e7;rw[JN]at hgr c121
  cases hk:t.k==21 with
  |false=>
   obtain⟨rfl,rfl⟩:=hb hk;obtain⟨xk,xn,xd,xu,xl⟩:=x;simp only[JP]at c69;unfold Hp;cases o<;>
   simp only[WG,<-Qp,J6,JW,JP,if_true,if_false,Al]<;>
   generalize ZG ks=K at ka kl kb⊢ <;>
   simp only[W7,KO,xZ,go_sem,Ko,ZH,Tryz.f123,hlo,l1,l2,q0,q,hgr,c121,e7,hi,hf,c36,c69,hk,ed,ra,rl,q1,q1',hw,o1,o2,ka,kl,kb,JC,Ai,Ak]<;>rfl
  |true=>
   have c99:=c99 hk;obtain⟨xk,xn,xd,xu,xl⟩:=x;obtain⟨zk,zn,zd,zu,zl⟩:=z;simp only[JP]at c69 c99;unfold Hp;cases o<;>
   simp only[WG,<-Qp,J6,JW,JP,if_true,if_false,Al]<;>
   generalize ZG ks=K at ka kl kb⊢ <;>
   simp only[W7,KO,xZ,go_sem,Ko,ZH,Tryz.f123,hlo,l1,l2,q0,q,hgr,c121,e7,hi,hf,c36,c69,c99,hk,ed,ra,rl,q1,q1',hw,o1,o2,ka,kl,kb,JC,Ai,Ak]<;>rfl
end
section
variable{l:List CV}{w:List CV->Option X}
def Wv(w:List CV->Option X)(l:List CV):Prop:=∀v∈l,By v.t.b/\W69 w v/\((v.k==21)=true->W99 w v.ks)
theorem JPe{l:List CV}{i f:Nat}{v:CV}(h:v∈Je ((l.take i).drop f)):v∈l:=List.mem_of_mem_take (List.mem_of_mem_drop (J9 h))
theorem JHO{ks:List X}{f i:Nat}{o ov:Bool}(hlo:lo<=h.length)(hl:JL l<=1000000000)(hw:Wv w l)(hf:f<=i)(hi:i<=l.length)(hks:ks.length<=1000000000)(ht:Top l i ov):
  match Ka (opR w) ((l.take i).drop f) o ks with
  |none=>∃tl,(tl=[]\/ ∃e,tl=[.cells (xC e)])/\evCode (W7 lo h) JA Ko (WG h l ks f o i,KO h)=HA h tl
  |some ks'=>evCode (W7 lo h) JA Ko (WG h l ks f o i,KO h)=some (.normal,WG h l ks' (i+1:Nat) ov (i+1:Nat),KO h):=by
 unfold Ka;have hm:∀v∈Je ((l.take i).drop f),v∈l:=λv hv=>JPe hv
 generalize hP:Je ((l.take i).drop f)=P at hm
 match P,hP,hm with
 |[],hP,_=>exact⟨[],.inl rfl,JSj hlo hl hf hi ht hP (by simp)⟩
 |v::u::r,hP,_=>exact⟨[],.inl rfl,JSj hlo hl hf hi ht hP (by simp)⟩
 |[.mk t kids],hP,hm=>
  obtain⟨hy,c69,c99⟩:=hw _ (hm _ (AL.2 rfl));have c99':(t.k==21)=true->W99 w kids:=c99;have c69':∀lo h,lo<=h.length->E lo 69 [.agg (Jp (.mk t kids))] h=some (.tup [.agg (xC (KA (λp=>jd (w p)) (.mk t kids)).1),.v (.bool (KA (λp=>jd (w p)) (.mk t kids)).2)],h):=c69
  simp only;have ho:opR w (.mk t kids)=Gd (if(t.k==21)=true then jd (w kids)else KA (λp=>jd (w p)) (.mk t kids)):=rfl
  rw[ho];clear ho c69 c99;generalize KA (λp=>jd (w p)) (.mk t kids)=R at c69'⊢
  obtain⟨x,b⟩:=R
  cases hk:t.k==21 with
  |false=>
   rw[if_neg (by simp)]
   cases b with
   |false=>
    show∃tl,_
    obtain⟨e,he⟩:=JSk (ks:=ks) (o:=o) (y:=Jq) hlo hl hf hi ht hP c69' (λ_=>rfl) (λh=>by rw[hk]at h;cases h)
    exact⟨_,.inr ⟨e,rfl⟩,he⟩
   |true=>exact JSl (ks:=ks) (o:=o) (y:=Jq) (z:=x) hlo hl hf hi hks ht hP c69' (λ_=>⟨rfl,rfl⟩) (λh=>by rw[hk]at h;cases h)
  |true=>
   rw[if_pos rfl,JDj];have c:=c99' hk;unfold W99 at c;generalize w kids=wk at c⊢
   cases wk with
   |none=>
    show∃tl,_
    obtain⟨e,he⟩:=JSk (ks:=ks) (o:=o) (y:=Jq) hlo hl hf hi ht hP c69' (λh=>by rw[hk]at h;cases h) (λ_=>c)
    exact⟨_,.inr ⟨e,rfl⟩,he⟩
   |some z=>exact JSl (ks:=ks) (o:=o) (y:=Jq) (z:=z) hlo hl hf hi hks ht hP c69' (λh=>by rw[hk]at h;cases h) (λ_=>c)
theorem JRu{ks:List X}{f:Int}(hlo:lo<=h.length)(hl:l.length<=1000000000):
  JA (evCode (W7 lo h) JA Ko) (WG h l ks f false (l.length+1:Nat),KO h)=some (.exit 0,WG h l ks f false (l.length+1:Nat)++[(14,.v (.bool false))],KO h):=by
 have q0:decide (((l.length+1:Nat):Int)<=(l.length:Int))=false:=by rw[decide_eq_false_iff_not];omega
 rw[JJ];simp only[W7,WG,KO,xZ,go_sem,Ko,ZH,Tryz.f123,hlo,q0,JC]<;>rfl
theorem JMz{op:CV->Option X}{c:List CV}{o:Bool}{ks ks':List X}(h:Ka op c o ks=some ks'):ks'.length=ks.length+1:=by
 unfold Ka at h
 split at h
 ·obtain⟨x,_,rfl⟩:=Option.map_eq_some_iff.1 h
  simp
 ·cases h
theorem JDo(hlo:lo<=h.length)(hl:JL l<=100000000)(hw:Wv w l):∀(m i f:Nat) (o:Bool) (ks:List X),i+m=l.length->f<=i->ks.length<=i->
  match kV (opR w) ((l.take i).drop f) o ks (l.drop i)with
  |none=>∃tl,(tl=[]\/ ∃e,tl=[.cells (xC e)])/\JA (evCode (W7 lo h) JA Ko) (WG h l ks f o i,KO h)=HA h tl
  |some ks'=>JA (evCode (W7 lo h) JA Ko) (WG h l ks f o i,KO h)=some (.exit 0,WG h l ks' (l.length+1:Nat) false (l.length+1:Nat)++[(14,.v (.bool false))],KO h)
 |0,i,f,o,ks,hm,hf,hk=>by
  have hll:=JT l;obtain rfl:i=l.length:=om;rw[AY,kV];have hc:=JHO (ks:=ks) (f:=f) (i:=l.length) (o:=o) (ov:=false) hlo om hw hf (Ag _) om (.inl ⟨rfl,rfl⟩)
  cases hq:Ka (opR w) ((l.take l.length).drop f) o ks with
  |none=>
   rw[hq]at hc;obtain⟨tl,h1,h2⟩:=hc
   exact⟨tl,h1,by rw[JJ,h2,Ki]⟩
  |some ks'=>
   rw[hq]at hc;simp only at hc⊢
   rw[JJ,hc,Jg,JRu hlo om]
 |m+1,i,f,o,ks,hm,hf,hk=>by
  have hll:=JT l;have hlt:i<l.length:=om;have hg:=Ac hlt
  have hv:=hw _ (AN hlt);rw[Ap hlt,kV];by_cases hmd:mdC l[i]=true
  ·rw[if_pos hmd]
   have ht:Top l i (l[i].t.b==[47]):=by
    refine .inr ⟨l[i].t,l[i].ks,?_,?_,hv.1,rfl⟩
    ·rw[hg]
     cases l[i];rfl
    ·generalize l[i]=v at hmd
     cases v;exact hmd
   have hc:=JHO (ks:=ks) (f:=f) (o:=o) hlo om hw hf om om ht
   cases hq:Ka (opR w) ((l.take i).drop f) o ks with
   |none=>
    rw[hq]at hc;obtain⟨tl,h1,h2⟩:=hc
    exact⟨tl,h1,by rw[JJ,h2,Ki]⟩
   |some ks'=>
    rw[hq]at hc;simp only at hc⊢;have hkl:=JMz hq;have ih:=JDo hlo hl hw m (i+1) (i+1) (l[i].t.b==[47]) ks' om (Ag _) om;have e0:(l.take (i+1)).drop (i+1)=[]:=A6 (by rw[As];omega)
    rw[e0]at ih;rw[JJ,hc,Jg];exact ih
  ·rw[if_neg hmd]
   have hd:(l.take (i+1)).drop f=(l.take i).drop f++[l[i]]:=by rw[List.take_succ_eq_append_getElem hlt,List.drop_append_of_le_length (by rw[As];omega)]
   have ih:=JDo hlo hl hw m (i+1) f o ks om om om;rw[hd]at ih;have hr:=JdR (lo:=lo) (h:=h) (ks:=ks) (f:=f) (o:=o) hlo om hg hv.1 (by simpa using hmd)
   rw[JJ,hr,Jg];exact ih
theorem f123(hlo:lo<=h.length)(hl:JL l<=100000000)(hw:Wv w l):
  E lo 123 [.list .no (JH l)] h=some (.tup [.agg (xC (jd (Z2 (opR w) l)).1),.v (.bool (jd (Z2 (opR w) l)).2)],h):=by
 have hll:=JT l;have l1:lo<=h.length+1:=om;have hL:=JDo (lo:=lo) (h:=h) hlo hl hw l.length 0 0 false [] om (Ag _) (Ag _);rw[List.take_zero,Ce,AJ]at hL;unfold Z2;rw[JjT]
 cases hq:kV (opR w) [] false [] l with
 |none=>
  rw[hq]at hL;obtain⟨tl,h1,hL⟩:=hL;simp only[Option.map_none,jd,Jq,JP,JW];rcases h1 with rfl|⟨e,rfl⟩
  ·simp only[Ko,ZH,Tryz.f123,JK,loops,JB,W7,WG,KO,HA,xZ,JW,show((0:Nat):Int)=0 from rfl,go_sem]at hL
   simp only[go_sem,ZH,Tryz.f123,hlo,l1,hL]<;>rfl
  ·obtain⟨ek,en,ed,eu,el⟩:=e
   simp only[Ko,ZH,Tryz.f123,JK,loops,JB,W7,WG,KO,HA,xZ,JP,JW,show((0:Nat):Int)=0 from rfl,go_sem]at hL
   simp only[go_sem,ZH,Tryz.f123,hlo,l1,hL]<;>rfl
 |some ks'=>
  rw[hq]at hL;simp only[Ko,ZH,Tryz.f123,JK,loops,JB,W7,WG,KO,xZ,JW,show((0:Nat):Int)=0 from rfl,go_sem]at hL
  simp only[AD,jd]
  match ks',hL with
  |[],hL=>
   have q:(((0:Nat):Int)==1)=false:=rfl;have q':((0:Int)==1)=false:=rfl;rw[show J8 (.mk 4 0 0 0 [])= .mk 4 0 0 0 []from rfl,JP]
   simp only[JW]at hL⊢
   simp only[go_sem,ZH,Tryz.f123,hlo,l1,hL,q,q',Ak]<;>rfl
  |[x],hL=>
   obtain⟨k',n',d',u',kids'⟩:=x;have q:(((0+1:Nat):Int)==1)=true:=rfl;have q':((1:Int)==1)=true:=rfl;rw[show J8 (.mk 4 0 0 0 [.mk k' n' d' u' kids'])= .mk k' n' d' u' kids' from rfl]
   simp only[J6,JW,JP]at hL⊢
   simp only[go_sem,ZH,Tryz.f123,hlo,l1,hL,q,q',Ai,Ak]<;>rfl
  |x::y::r,hL=>
   have q:(((r.length+1+1:Nat):Int)==1)=false:=by rw[beq_eq_false_iff_ne];omega
   rw[show J8 (.mk 4 0 0 0 (x::y::r))= .mk 4 0 0 0 (x::y::r)from rfl,JP]
   simp only[J6]at hL⊢;simp only[go_sem,ZH,Tryz.f123,hlo,l1,hL,q,Ai,Jf]<;>rfl
end
noncomputable abbrev yj(lo:Nat)(h:JM):Go.Lift.Cx:=⟨Aa,E,lo,h.length,h99⟩
abbrev Qx(h:JM)(l:List CV)(ks:List X)(f:Int)(m:Bool)(i:Int):Jr:=[(0,.list .no (JH l)),(2,.ptr h.length 0),(4,.list .yes (ZG ks)),(5,.v (.int .i64 f)),(6,.v (.bool m)),(7,.v (.int .i64 i))]
theorem JXU:By [43]:=JDm om om
theorem JKy:By [45]:=JDm om om
theorem Jkh{b:List Int}(hy:By b):((Rul.bs b).toList==(⟨#[45]⟩:ByteArray).toList)=(b==[45]):=K1 hy JKy
section
variable{l:List CV}{ks:List X}{f i:Nat}{m:Bool}
theorem JSm{t:Tk4}{kids:List CV}(hy:By t.b):∀lo h,lo<=h.length->E lo 121 [.agg (Jp (.mk t kids)),.v (.string ⟨#[43]⟩),.v (.string ⟨#[45]⟩)] h=some (.v (.bool (pmC (.mk t kids))),h):=λlo h hlo=>by
 have c121:=f121 (lo:=lo) (h:=h) (t:=t) (kids:=kids) (x:=43) (y:=45) hlo hy JXU JKy;rw[show Rul.bs [43]=⟨#[43]⟩from rfl,show Rul.bs [45]=⟨#[45]⟩from rfl]at c121
 exact c121
theorem JdT(hlo:lo<=h.length)(hl:l.length<=1000000000)(h0:0<l.length):
  evCode (yj lo h) JA QO (Qx h l ks f m (0:Int),KO h)=some (.normal,Qx h l ks f m (1:Int),KO h):=by
 have q0:decide ((0:Int)<=(l.length:Int))=true:=by rw[decide_eq_true_iff];omega
 have q:decide ((0:Int)<(l.length:Int))=true:=by rw[decide_eq_true_iff];omega
 have q2:decide ((0:Int)<(0:Int))=false:=rfl;have hw:AQ.wrap ((0:Int)+1)=1:=rfl;simp only[yj,Qx,KO,xZ,go_sem,QO,b99,Tryz.f99,hlo,q0,q,q2,hw,JC]<;>rfl
theorem JdU(hlo:lo<=h.length)(hl:l.length<=1000000000)(h0:0<i)(h1:i+1=l.length):
  evCode (yj lo h) JA QO (Qx h l ks f m i,KO h)=some (.normal,Qx h l ks f m (i+1:Nat),KO h):=by
 have q0:decide ((i:Int)<=(l.length:Int))=true:=by rw[decide_eq_true_iff];omega
 have q:decide ((i:Int)<(l.length:Int))=true:=by rw[decide_eq_true_iff];omega
 have q2:decide ((0:Int)<(i:Int))=true:=by rw[decide_eq_true_iff];omega
 have q3:decide (((i+1:Nat):Int)<(l.length:Int))=false:=by rw[decide_eq_false_iff_not];omega
 have hw:=Jd (i:=i) om;simp only[yj,Qx,KO,xZ,go_sem,QO,b99,Tryz.f99,hlo,q0,q,q2,q3,hw,JC]<;>rfl
theorem JdV{p:Nat}{u v n:CV}(hlo:lo<=h.length)(hl:l.length<=1000000000)(hi:i=p+1)(hgu:l[p]? =some u)(hg:l[i]? =some v)(hgn:l[i+1]? =some n)(hy:By v.t.b)(hc:(pmC v&&(JS u&&JS n))=false):
  evCode (yj lo h) JA QO (Qx h l ks f m i,KO h)=some (.normal,Qx h l ks f m (i+1:Nat),KO h):=by
 obtain⟨t,kids⟩:=v;obtain⟨tu,ku⟩:=u;obtain⟨tn,kn⟩:=n;have h1:i+1<l.length:=(Ab.1 hgn).1
 have l1:lo<=h.length+1:=om;have q0:decide ((i:Int)<=(l.length:Int))=true:=by rw[decide_eq_true_iff];omega
 have q:decide ((i:Int)<(l.length:Int))=true:=by rw[decide_eq_true_iff];omega
 have q2:decide ((0:Int)<(i:Int))=true:=by rw[decide_eq_true_iff];omega
 have q3:decide (((i+1:Nat):Int)<(l.length:Int))=true:=by rw[decide_eq_true_iff];omega
 have hw:=Jd (i:=i) om;have hw1:AQ.wrap ((i:Int)-1)=(p:Int):=by rw[KY om om];omega
 have g0:(JH l)[i]? =some (Jp (.mk t kids)):=by rw[Jm,hg]<;>rfl
 have g1:(JH l)[p]? =some (Jp (.mk tu ku)):=by rw[Jm,hgu]<;>rfl
 have g2:(JH l)[i+1]? =some (Jp (.mk tn kn)):=by rw[Jm,hgn]<;>rfl
 have c1:=JSm (t:=t) (kids:=kids) hy;have c2:=λlo h hlo=>f122 (lo:=lo) (h:=h) (t:=tu) (kids:=ku) hlo
 have c3:=λlo h hlo=>f122 (lo:=lo) (h:=h) (t:=tn) (kids:=kn) hlo
 rw[JN]at g0 g1 g2 c1 c2 c3;generalize pmC (.mk t kids)=b1 at c1 hc;generalize JS (.mk tu ku)=b2 at c2 hc;generalize JS (.mk tn kn)=b3 at c3 hc
 cases b1 with
 |false=>simp only[yj,Qx,KO,xZ,go_sem,QO,b99,Tryz.f99,hlo,l1,q0,q,q2,q3,hw,g0,c1,JC]<;>rfl
 |true=>
  cases b2 with
  |false=>simp only[yj,Qx,KO,xZ,go_sem,QO,b99,Tryz.f99,hlo,l1,q0,q,q2,q3,hw,hw1,g0,g1,c1,c2,JC]<;>rfl
  |true=>
   cases b3 with
   |true=>cases hc
   |false=>simp only[yj,Qx,KO,xZ,go_sem,QO,b99,Tryz.f99,hlo,l1,q0,q,q2,q3,hw,hw1,g0,g1,g2,c1,c2,c3,JC]<;>rfl
def JdW(l:List CV)(i:Nat)(m m':Bool):Prop:=(i=l.length/\m'=m)\/ ∃p u v n,i=p+1/\l[p]? =some u/\l[i]? =some v/\l[i+1]? =some n/\By v.t.b/\pmC v=true/\JS u=true/\JS n=true/\(v.t.b==[45])=m'
theorem JdX{m' b:Bool}{x:X}(hlo:lo<=h.length)(hl:JL l<=1000000000)(hf:f<=i)(hi:i<=l.length)(hks:ks.length<=1000000000)(htp:JdW l i m m')
  (c123:∀lo h,lo<=h.length->E lo 123 [.list .no (JH ((l.take i).drop f))] h=some (.tup [.agg (xC x),.v (.bool b)],h)):
  evCode (yj lo h) JA QO (Qx h l ks f m i,KO h)=if b=true then some (.normal,Qx h l (ks++[Hp 3 m x]) (i+1:Nat) m' (i+1:Nat),KO h)else HA h [.cells (xC x)]:=by
 have hll:l.length<=1000000000:=by have:=JT l;omega
 have l1:lo<=h.length+1:=om;have l2:lo<=h.length+1+1:=om;have q0:decide ((i:Int)<=(l.length:Int))=true:=by rw[decide_eq_true_iff];omega
 have ed:((JH l).take i).drop f=JH ((l.take i).drop f):=by rw[Ku,K3]
 have ra:=Jn ((l.take i).drop f);have rl:=Jn l;have hw:=Jd (i:=i) om;have o1:=JCc hks;have o2:=JCd hks;have ka:=Hk ks;have kl:=Jf ks;have kb:=Hl ks;obtain⟨xk,xn,xd,xu,xl⟩:=x;simp only[JP]at c123;rcases htp with⟨he,rfl⟩|⟨p,u,v,n,hip,hgu,hg,hgn,hy,hpm,hu,hn,hm'⟩
 ·have q:decide ((i:Int)<(l.length:Int))=false:=by rw[decide_eq_false_iff_not];omega
  cases b with
  |false=>
   rw[if_neg (by simp)]
   simp only[JP,yj,Qx,KO,HA,xZ,go_sem,QO,b99,Tryz.f99,hlo,l1,l2,q0,q,hi,hf,c123,ed,ra,rl,JC]<;>rfl
  |true=>
   rw[if_pos rfl];unfold Hp;cases m'<;>
   simp only[Qx,<-Qp,J6,JW,JP,if_true,if_false,Al]<;>
   generalize ZG ks=K at ka kl kb⊢ <;>
   simp only[yj,KO,xZ,go_sem,QO,b99,Tryz.f99,hlo,l1,l2,q0,q,hi,hf,c123,ed,ra,rl,hw,o1,o2,ka,kl,kb,JC]<;>rfl
 ·obtain⟨t,kids⟩:=v
  obtain⟨tu,ku⟩:=u;obtain⟨tn,kn⟩:=n;have h1:i+1<l.length:=(Ab.1 hgn).1
  have q:decide ((i:Int)<(l.length:Int))=true:=by rw[decide_eq_true_iff];omega
  have q2:decide ((0:Int)<(i:Int))=true:=by rw[decide_eq_true_iff];omega
  have q3:decide (((i+1:Nat):Int)<(l.length:Int))=true:=by rw[decide_eq_true_iff];omega
  have hw1:AQ.wrap ((i:Int)-1)=(p:Int):=by rw[KY om om];omega
  have g0:(JH l)[i]? =some (Jp (.mk t kids)):=by rw[Jm,hg]<;>rfl
  have g1:(JH l)[p]? =some (Jp (.mk tu ku)):=by rw[Jm,hgu]<;>rfl
  have g2:(JH l)[i+1]? =some (Jp (.mk tn kn)):=by rw[Jm,hgn]<;>rfl
  have c1:=JSm (t:=t) (kids:=kids) hy;have c2:=λlo h hlo=>f122 (lo:=lo) (h:=h) (t:=tu) (kids:=ku) hlo
  have c3:=λlo h hlo=>f122 (lo:=lo) (h:=h) (t:=tn) (kids:=kn) hlo
  rw[hpm]at c1;rw[hu]at c2;rw[hn]at c3;have e4:=Jkh hy;rw[hm']at e4;have e4':((Rul.bs t.b).toList==(⟨#[45]⟩:ByteArray).toList)=m':=e4;rw[JN]at g0 g1 g2 c1 c2 c3
  cases b with
  |false=>
   rw[if_neg (by simp)]
   simp only[JP,yj,Qx,KO,HA,xZ,go_sem,QO,b99,Tryz.f99,hlo,l1,l2,q0,q,q2,q3,hw,hw1,g0,g1,g2,c1,c2,c3,hi,hf,c123,ed,ra,rl,JC]<;>rfl
  |true=>
   rw[if_pos rfl];unfold Hp;cases m<;>
   simp only[Qx,<-Qp,J6,JW,JP,if_true,if_false,Al]<;>
   generalize ZG ks=K at ka kl kb⊢ <;>
   simp only[yj,KO,xZ,go_sem,QO,b99,Tryz.f99,hlo,l1,l2,q0,q,q2,q3,hw,hw1,g0,g1,g2,c1,c2,c3,e4',hi,hf,c123,ed,ra,rl,o1,o2,ka,kl,kb,JC]<;>rfl
end
end Go.Lift.Y1
end
