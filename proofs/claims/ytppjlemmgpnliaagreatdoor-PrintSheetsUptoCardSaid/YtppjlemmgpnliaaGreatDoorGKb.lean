/- May component values be? -/
import Derived.Lib.TrailingZeros
import Derived.Lib.ItoaNum
import Derived.Lib.IndexLaws
import Derived.Test.YtppjlemmgpnliaaGreatDoorGLd
import Derived.Test.YtppjlemmgpnliaaGreatDoorGKa
import Derived.Test.YtppjlemmgpnliaaGreatDoorGK5Basea
open Bool renaming and_eq_true->Af,and_false->BG,and_true->Cz,eq_iff_iff->CJ,false_and->Aw,false_or->Bb,or_eq_true->A7,true_and->AB
open ByteArray renaming data_extract->Ls,empty->AA,ext->DQ,size->Lx
open Go.IntKind renaming bits->B6,i64->Aq,signed->BW,u64->AJ,wrap->Ch
open Go.Proofs.Tryz renaming prog->Aa
open Go.Value renaming bool->DI,int->AQ,string->D6
open Int renaming mul_assoc->B0,mul_comm->Cg,pow_add->La,pow_succ->Bc,pow_zero->D8
open List renaming all_cons->Bg,append_assoc->Ao,append_eq_nil_iff->CW,append_nil->Av,cons_append->Al,dropWhile_cons_of_neg->Br,dropWhile_sublist->Cp,drop_eq_getElem_cons->AD,drop_eq_nil_of_le->Bo,drop_length->Be,drop_succ_cons->Cd,drop_zero->Az,eq_nil_of_length_eq_zero->AC,getElem?_append_right->AZ,getElem?_eq_getElem->Ac,getElem?_eq_some_iff->Ad,length_append->Ah,length_cons->Ae,length_map->Ag,length_nil->An,map->Cy,map_append->DD,map_congr_left->A4,map_map->Cn,nil_append->Ai,replicate->A0,takeWhile_cons_of_pos->Bl,take_append_drop->CG
open Nat renaming add_zero->BH,gcd->Do,le_refl->Ab,le_total->L5,le_trans->AY,mod_lt->DY,sub_self->Dn,zero_add->AE
open UInt8 renaming ofNat->Bh,toNat->Cj,toNat_ofNat'->BU
set_option linter.unusedVariables false
set_option linter.unusedSimpArgs false
set_option linter.unusedSectionVars false
set_option maxRecDepth 20000
set_option maxHeartbeats 4000000
section
open Go.Proofs
namespace Go.Lift.M1
open Rul
variable[MX]
variable{lo:Nat}{h:JC}
theorem f67(hlo:lo<=h.length)(k:Int):E lo 67 [.v (.int .i64 k)] h=some (.v (.int .i64 (JS k)),h):=by
 rw[e67];unfold JS;by_cases a:k=19
 ·subst a;simp only[go_sem,b67,Tryz.f67,hlo];all_goals rfl
 ·by_cases b:k=23
  ·subst b;simp only[go_sem,b67,Tryz.f67,hlo];all_goals rfl
  ·by_cases c:k=2
   ·subst c;simp only[go_sem,b67,Tryz.f67,hlo];all_goals rfl
   ·by_cases d:k=21
    ·subst d;simp only[go_sem,b67,Tryz.f67,hlo];all_goals rfl
    ·have ha:(k==19)=false:=by simpa using a
     have hb:(k==23)=false:=by simpa using b
     have hc:(k==2)=false:=by simpa using c
     have hd:(k==21)=false:=by simpa using d
     simp only[go_sem,b67,Tryz.f67,hlo,ha,hb,hc,hd,a,b,c,d,or_self,if_false]
theorem f32(hlo:lo<=h.length)(k:Int):E lo 32 [.v (.int .i64 k)] h=some (.v (.int .i64 (JS k)),h):=by
 rw[e32];unfold JS;by_cases a:k=19
 ·subst a;simp only[go_sem,b32,Tryz.f32,hlo];all_goals rfl
 ·by_cases b:k=23
  ·subst b;simp only[go_sem,b32,Tryz.f32,hlo];all_goals rfl
  ·by_cases c:k=2
   ·subst c;simp only[go_sem,b32,Tryz.f32,hlo];all_goals rfl
   ·by_cases d:k=21
    ·subst d;simp only[go_sem,b32,Tryz.f32,hlo];all_goals rfl
    ·have ha:(k==19)=false:=by simpa using a
     have hb:(k==23)=false:=by simpa using b
     have hc:(k==2)=false:=by simpa using c
     have hd:(k==21)=false:=by simpa using d
     simp only[go_sem,b32,Tryz.f32,hlo,ha,hb,hc,hd,a,b,c,d,or_self,if_false]
abbrev N47(l:List CV)(d k:Int):Jj:=[(1,.v (.int .i64 d)),(7,.list .no (JL l)),(8,.v (.int .i64 l.length)),(9,.v (.int .i64 k))]
theorem JNd(n:Nat)(t:Tk4)(ks:List CV):KL n (.mk t ks)=(decide (1<=t.k/\t.k<=24)&&(if JS t.k=0 then ks.isEmpty else match n with
  |0=>false
  |n+1=>Q5 n ks)):=by
 cases n<;>rw[KL]
theorem JVp{l:List CV}{v:CV}{n k:Nat}(hn:n<=64)(hlo:lo<=h.length)(hl:JO l<=1000000000000000000)(hg:l[k]? =some v)
  (ih:∀m,n=m+1->∀lo ks h,lo<=h.length->JO ks<=1000000000000000000->E lo 66 [.list .no (JL ks),.v (.int .i64 (64-(m:Int)))] h=some (.v (.bool (Q5 m ks)),h)):
  evCode ⟨Aa,E,lo,h.length,h66⟩ JA Ye (N47 l (64-(n:Int)) k,h)=
   if KL n v=true then some (.normal,N47 l (64-(n:Int)) (k+1:Nat),h)else some (.ret,[(4,.v (.bool false))],h++[.cells (Qa v)]):=by
 obtain⟨t,ks⟩:=v;have hlt:k<l.length:=(Ad.1 hg).1
 have hgr:(JL l)[k]? =some (Qa (.mk t ks)):=by rw[Ks,hg]<;>rfl
 have q:decide ((k:Int)<(l.length:Int))=true:=by simp;omega
 have hll:=Jq l;have hkk:JO ks<=JO l:=ZD (v:= .mk t ks) hg;have hw:=JH (i:=k) om;have hlo':lo<=h.length+1:=om;have c46:=λlo hlo=>f67 (lo:=lo) (h:=h++[.cells (Qa (.mk t ks))]) hlo t.k
 have c46a:=c46 lo (by simp;omega);have c46b:=c46 h.length (by simp);have c46c:=c46 (h.length+1) (by simp)
 clear c46;rw[JNd];rw[Jr]at*;by_cases a1:t.k<1
 ·have q1:decide (t.k<1)=true:=by simpa using a1
  have:decide (1<=t.k/\t.k<=24)=false:=by rw[decide_eq_false_iff_not];omega
  rw[this,Aw,if_neg (by simp)]
  simp only[go_sem,Ye,b66,Tryz.f66,hlo,hlo',q,hgr,q1,JP]<;>rfl
 have q1:decide (t.k<1)=false:=by simpa using a1
 by_cases a2:24<t.k
 ·have q2:decide (24<t.k)=true:=by simpa using a2
  have:decide (1<=t.k/\t.k<=24)=false:=by rw[decide_eq_false_iff_not];omega
  rw[this,Aw,if_neg (by simp)]
  simp only[go_sem,Ye,b66,Tryz.f66,hlo,hlo',q,hgr,q1,q2,JP]<;>rfl
 have q2:decide (24<t.k)=false:=by simpa using a2
 have:decide (1<=t.k/\t.k<=24)=true:=by rw[decide_eq_true_iff];omega
 rw[this,AB];by_cases a3:JS t.k=0
 ·rw[if_pos a3]
  have q3:(JS t.k==0)=true:=by simpa using a3
  cases ks with
  |nil=>
   have q4:decide ((0:Int)<((0:Nat):Int))=false:=rfl;rw[if_pos (show([]:List CV).isEmpty=true from rfl)]
   simp only[go_sem,Ye,b66,Tryz.f66,hlo,hlo',q,hgr,q1,q2,q3,q4,hw,c46a,c46b,c46c,JP,An]<;>rfl
  |cons x r=>
   have q4:decide ((0:Int)<((r.length+1:Nat):Int))=true:=by rw[decide_eq_true_iff];omega
   rw[if_neg (show¬(x::r).isEmpty=true by simp)]
   simp only[go_sem,Ye,b66,Tryz.f66,hlo,hlo',q,hgr,q1,q2,q3,q4,hw,c46a,c46b,c46c,JP,Ae]<;>rfl
 ·rw[if_neg a3]
  have q3:(JS t.k==0)=false:=by simpa using a3
  cases n with
  |zero=>
   have q5:decide ((64:Int)<=64-((0:Nat):Int))=true:=rfl;rw[if_neg (show¬false=true by simp)]
   simp only[go_sem,Ye,b66,Tryz.f66,hlo,hlo',q,hgr,q1,q2,q3,q5,hw,c46a,c46b,c46c,JP]<;>rfl
  |succ m=>
   have q5:decide ((64:Int)<=64-((m+1:Nat):Int))=false:=by rw[decide_eq_false_iff_not];omega
   have w2:Aq.wrap (64-((m+1:Nat):Int)+1)=64-(m:Int):=by rw[JN om om];omega
   have c47:=λlo hlo=>ih m rfl lo ks (h++[.cells (Qa (.mk t ks))]) hlo om
   rw[Jr]at c47;have c47a:=c47 lo (by simp;omega);have c47b:=c47 h.length (by simp);have c47c:=c47 (h.length+1) (by simp)
   clear c47 ih;show _=if Q5 m ks=true then _ else _
   cases hm:Q5 m ks with
   |true=>
    rw[hm]at c47a c47b c47c;rw[if_pos rfl]
    simp only[go_sem,Ye,b66,Tryz.f66,hlo,hlo',q,hgr,q1,q2,q3,q5,hw,w2,c46a,c46b,c46c,c47a,c47b,c47c,JP]<;>rfl
   |false=>
    rw[hm]at c47a c47b c47c;rw[if_neg (by simp)]
    simp only[go_sem,Ye,b66,Tryz.f66,hlo,hlo',q,hgr,q1,q2,q3,q5,hw,w2,c46a,c46b,c46c,c47a,c47b,c47c,JP]<;>rfl
theorem JbG{l:List CV}{d:Int}(hlo:lo<=h.length):evCode ⟨Aa,E,lo,h.length,h66⟩ JA Ye (N47 l d l.length,h)=
   some (.exit 0,N47 l d l.length++[(10,.v (.bool false))],h):=by
 have q:decide ((l.length:Int)<(l.length:Int))=false:=by simp
 simp only[go_sem,Ye,b66,Tryz.f66,hlo,q]<;>rfl
theorem JGT(n:Nat)(v:CV)(r:List CV):Q5 n (v::r)=(KL n v&&Q5 n r):=by rw[Q5]
theorem JKM(n:Nat):Q5 n []=true:=by rw[Q5]
theorem JR4{l:List CV}{n:Nat}(hn:n<=64)(hlo:lo<=h.length)(hl:JO l<=1000000000000000000)
  (ih:∀m,n=m+1->∀lo ks h,lo<=h.length->JO ks<=1000000000000000000->E lo 66 [.list .no (JL ks),.v (.int .i64 (64-(m:Int)))] h=some (.v (.bool (Q5 m ks)),h)):
  ∀(m k:Nat),k+m=l.length->if Q5 n (l.drop k)=true then
    JA (evCode ⟨Aa,E,lo,h.length,h66⟩ JA Ye) (N47 l (64-(n:Int)) k,h)=some (.exit 0,N47 l (64-(n:Int)) l.length++[(10,.v (.bool false))],h)
   else∃X,JA (evCode ⟨Aa,E,lo,h.length,h66⟩ JA Ye) (N47 l (64-(n:Int)) k,h)=some (.ret,[(4,.v (.bool false))],h++X):=by
 intro m
 induction m with
 |zero=>
  intro k hk;obtain rfl:k=l.length:=om
  rw[Be,if_pos (JKM n),loop_eq,JbG hlo,Kv]
 |succ m ihm=>
  intro k hk;have hlt:k<l.length:=om;have hg:l[k]? =some l[k]:=Ac hlt
  have hd:l.drop k=l[k]::l.drop (k+1):=AD hlt;rw[hd,JGT];generalize l[k]=v at*;have hr:=JVp hn hlo hl hg ih
  cases hm:KL n v with
  |false=>
   rw[hm,if_neg (by simp)]at hr
   rw[Aw,if_neg (by simp)]
   exact⟨_,by rw[loop_eq,hr,QY]⟩
  |true=>rw[hm,if_pos rfl]at hr;rw[AB,loop_eq,hr,JK];exact ihm (k+1) om
theorem f66:∀(n:Nat),n<=64->∀(lo:Nat) (l:List CV) (h:JC),lo<=h.length->JO l<=1000000000000000000->E lo 66 [.list .no (JL l),.v (.int .i64 (64-(n:Int)))] h=some (.v (.bool (Q5 n l)),h):=by
 intro n
 induction n with
 |zero=>
  intro hn lo l h hlo hl;have hL:=JR4 (lo:=lo) (h:=h) hn hlo hl (λm hm=>by omega) l.length 0 om
  have n0:((0:Nat):Int)=0:=rfl;rw[Az]at hL;rw[e66]
  cases hm:Q5 0 l with
  |false=>
   rw[hm,if_neg (by simp)]at hL
   obtain⟨X,hL⟩:=hL;simp only[Ye,b66,Tryz.f66,JD,JT,JB,go_sem,N47,n0]at hL
   simp only[go_sem,b66,Tryz.f66,hlo,hL,JP,n0]<;>rfl
  |true=>
   rw[hm,if_pos rfl]at hL;simp only[Ye,b66,Tryz.f66,JD,JT,JB,go_sem,N47,n0,Al,Ai]at hL
   simp only[go_sem,b66,Tryz.f66,hlo,hL,JP,n0]<;>rfl
 |succ n ih=>
  intro hn lo l h hlo hl
  have hL:=JR4 (lo:=lo) (h:=h) hn hlo hl (λm hm=>by
   obtain rfl:n=m:=om
   exact λlo ks h hlo hk=>ih om lo ks h hlo hk) l.length 0 om
  have n0:((0:Nat):Int)=0:=rfl;rw[Az]at hL;rw[e66]
  cases hm:Q5 (n+1) l with
  |false=>
   rw[hm,if_neg (by simp)]at hL
   obtain⟨X,hL⟩:=hL;simp only[Ye,b66,Tryz.f66,JD,JT,JB,go_sem,N47,n0]at hL
   simp only[go_sem,b66,Tryz.f66,hlo,hL,JP,n0]<;>rfl
  |true=>rw[hm,if_pos rfl]at hL;simp only[Ye,b66,Tryz.f66,JD,JT,JB,go_sem,N47,n0,Al,Ai]at hL;simp only[go_sem,b66,Tryz.f66,hlo,hL,JP,n0]<;>rfl
theorem JNe{n:Nat}(h:n<=1000000000):(n+1)*48<=140737488355328:=om
theorem Jhs{n:Nat}(h:n<=1000000000):(n+1+1)*32<=140737488355328:=om
theorem JR5{n:Nat}(h:n<=1000000000):n<=9223372036854775806:=om
theorem Jo2{n:Nat}(h:n<=1000000000):n+1+1<=9223372036854775807:=om
def HV:List (List CV×Int)->List V
 |[]=>[]
 |p::r=> .list .no (JL p.1):: .v (.int .i64 p.2)::HV r
theorem W7:∀l,(HV l).length=l.length*2
 |[]=>rfl
 |p::r=>by simp[HV,W7 r];omega
theorem Zu:∀l m,HV (l++m)=HV l++HV m
 |[],m=>rfl
 |p::r,m=>by simp[HV,Zu r m]
theorem JHZ(n:Nat):∀l,(HV l).all (okv n)=true
 |[]=>rfl
 |p::r=>by simp only[HV,Bg,JHZ n r];rfl
theorem JNf(n:Nat):∀l,(HV l).all (JDR n)=true
 |[]=>rfl
 |p::r=>by simp only[HV,Bg,JNf n r];rfl
theorem JNg(f:List (List CV×Int))(p:List CV×Int)(r:List (List CV×Int)):(HV (f++p::r))[f.length*2]? =some (.list .no (JL p.1)):=by
 rw[Zu,AZ (by rw[W7];omega),W7,Dn]
 rfl
theorem JNh(f:List (List CV×Int))(p:List CV×Int)(r:List (List CV×Int)):(HV (f++p::r))[f.length*2+1]? =some (.v (.int .i64 p.2)):=by
 rw[Zu,AZ (by rw[W7];omega),W7,Nat.add_sub_cancel_left]
 rfl
theorem JVq(f:List (List CV×Int))(p:List CV×Int)(r:List (List CV×Int))(l:List CV):(HV (f++p::r)).set (f.length*2) (.list .no (JL l))=HV (f++(l,p.2)::r):=by
 rw[Zu,List.set_append,if_neg (by rw[W7];omega),W7,Dn,Zu]
 rfl
theorem JR6(f r:List (List CV×Int)):(HV (f++r)).take (f.length*2)=HV f:=by rw[Zu,<-W7,List.take_left]
abbrev N24(h:JC)(out:List Tk4)(n:Nat)(ex:Jj):Jj:=(3,.list .yes (out.map row))::(4,.stk h.length n 2)::ex
def JVr(ex:Jj):Prop:=ex=[]\/ ∃p c b,ex=[(6,p),(7,c),(73,b)]
theorem yW(out:List Tk4)(c:Int):out.map row++[[V.v (AQ Aq c),V.v (D6 AA),V.v (AQ Aq 0),V.v (AQ Aq 0),V.v (DI false),V.v (DI false)]]=(out++[Rul.bare c]).map row:=by rw[DD]<;>rfl
theorem JKN{fs js:List (List CV×Int)}{c:Int}{Y:JC}{out:List Tk4}{ex:Jj}(hlo:lo<=h.length)(hn:fs.length<=1000000000000000000)(ho:out.length<=1000000000)(he:JVr ex):
  evCode ⟨Aa,E,lo,h.length,h39⟩ JA YJ (N24 h out (fs.length+1) ex,h++ .cells (HV (fs++([],c)::js))::Y)=
   some (.normal,N24 h (out++(if 0<c then[Rul.bare c]else[])) fs.length [],h++[.cells (HV (fs++([],c)::js))]):=by
 have hgr:=JNg fs ([],c) js;have hgc:=JNh fs ([],c) js;have hok:=JHZ (h.length+1) (fs++([],c)::js);have hlt:h.length<h.length+1:=om;have hle:fs.length<=fs.length+1:=om;generalize HV (fs++([],c)::js)=C at*;rw[Jt]at hgr;have q:decide ((0:Int)<((fs.length+1:Nat):Int))=true:=by rw[decide_eq_true_iff];omega
 have w1:Aq.wrap (((fs.length+1:Nat):Int)-1)=(fs.length:Int):=by rw[JN om om];omega
 have a1:(0:Int)<=(fs.length:Int)/\(fs.length:Int)<((fs.length+1:Nat):Int):=om;have ra:=Gt out;have o1:(out.length+1)*48<=140737488355328:=JNe ho;have o2:out.length<=9223372036854775806:=JR5 ho;have q3:(((0:Nat):Int)==0)=true:=rfl;by_cases hc:0<c
 ·have qc:decide (0<c)=true:=by simpa using hc
  rw[if_pos hc];rcases he with rfl|⟨x,y,b,rfl⟩
  ·simp only[go_sem,YJ,b39,Tryz.f39,hlo,hlt,hle,q,q3,w1,a1,hgr,hgc,hok,ra,o1,o2,qc,yW,Ag]<;>rfl
  ·simp only[go_sem,YJ,b39,Tryz.f39,hlo,hlt,hle,q,q3,w1,a1,hgr,hgc,hok,ra,o1,o2,qc,yW,Ag]<;>rfl
 ·have qc:decide (0<c)=false:=by simpa using hc
  rw[if_neg hc,Av];rcases he with rfl|⟨x,y,b,rfl⟩
  ·simp only[go_sem,YJ,b39,Tryz.f39,hlo,hlt,hle,q,q3,w1,a1,hgr,hgc,hok,qc,Ag]<;>rfl
  ·simp only[go_sem,YJ,b39,Tryz.f39,hlo,hlt,hle,q,q3,w1,a1,hgr,hgc,hok,qc,Ag]<;>rfl
theorem Zv(out:List Tk4)(t:Tk4):out.map row++[[V.v (AQ Aq t.k),V.v (D6 (Rul.bs t.b)),V.v (AQ Aq t.n),V.v (AQ Aq t.d),V.v (DI t.w),V.v (DI t.i)]]=(out++[t]).map row:=by rw[DD]<;>rfl
theorem JVs{fs js:List (List CV×Int)}{l ks:List CV}{t:Tk4}{c:Int}{Y:JC}{out:List Tk4}{ex:Jj}(hlo:lo<=h.length)(hn:fs.length<=1000000000)(ho:out.length<=1000000000)(he:JVr ex):
  ∃ex' Y',JVr ex'/\evCode ⟨Aa,E,lo,h.length,h39⟩ JA YJ (N24 h out (fs.length+1) ex,h++ .cells (HV (fs++(.mk t ks::l,c)::js))::Y)=
   if(decide (JS t.k=0)&&ks.isEmpty)=true then some (.normal,N24 h (out++[t]) (fs.length+1) ex',h++ .cells (HV (fs++(l,c)::js))::Y')
   else some (.normal,N24 h (out++[t]) (fs.length+1+1) ex',h++ .cells (HV (fs++[(l,c),(ks,JS t.k)]))::Y'):=by
 have hgr:=JNg fs (.mk t ks::l,c) js;have hgc:=JNh fs (.mk t ks::l,c) js;have hok:=JHZ (h.length+1) (fs++(.mk t ks::l,c)::js);have hst:=JVq fs (.mk t ks::l,c) js l
 have htk:(HV (fs++(l,c)::js)).take ((fs.length+1)*2)=HV (fs++[(l,c)]):=by
  have e:fs++(l,c)::js=(fs++[(l,c)])++js:=by simp
  rw[e,<-JR6 (fs++[(l,c)]) js,Ah]<;>rfl
 have hC:fs.length*2+1<=(HV (fs++(.mk t ks::l,c)::js)).length:=by rw[W7];simp;omega
 have hsk:=JNf h.length (fs++[(l,c)]);have hln:(fs.length+1)*2<=(HV (fs++(l,c)::js)).length:=by rw[W7];simp;omega
 have hpp:HV (fs++[(l,c)])++[.list .no (JL ks),.v (.int .i64 (JS t.k))]=HV (fs++[(l,c),(ks,JS t.k)]):=by rw[Zu,Zu,Ao]<;>rfl
 have hlt:h.length<h.length+1:=om;have hle:fs.length<=fs.length+1:=om;generalize HV (fs++(.mk t ks::l,c)::js)=C at*;generalize HV (fs++(l,c)::js)=D at*;generalize HV (fs++[(l,c)])=F at*;simp only[QL,Jr,Jt]at hgr;have q:decide ((0:Int)<((fs.length+1:Nat):Int))=true:=by rw[decide_eq_true_iff];omega
 have w1:Aq.wrap (((fs.length+1:Nat):Int)-1)=(fs.length:Int):=by rw[JN om om];omega
 have a1:(0:Int)<=(fs.length:Int)/\(fs.length:Int)<((fs.length+1:Nat):Int):=om;have ra:=Gt out;have q3:(((l.length+1:Nat):Int)==0)=false:=by rw[beq_eq_false_iff_ne];omega
 have c46:=λlo hlo=>f67 (lo:=lo) (h:=h++[.cells D,.cells (Qa (.mk t ks))]) hlo t.k
 rw[Jr]at c46;have c46a:=c46 lo (by simp;omega);have c46b:=c46 h.length (by simp);have c46c:=c46 (h.length+1) (by simp);have c46d:=c46 (h.length+2) (by simp)
 clear c46;have hcl:=GS t.k;have hlo1:lo<=h.length+1:=om;have rl:=QA l;have tl:(JL l).take l.length=JL l:=by rw[<-JP l,List.take_length]
 have hne:0<JS t.k->¬(decide (JS t.k=0)&&ks.isEmpty)=true:=λhc=>by rw[show decide (JS t.k=0)=false by rw[decide_eq_false_iff_not];omega,Aw];simp
 have o1:(out.length+1)*48<=140737488355328:=JNe ho;have o2:out.length<=9223372036854775806:=JR5 ho;have o3:(fs.length+1+1)*32<=140737488355328:=Jhs hn;have o4:fs.length+1+1<=9223372036854775807:=Jo2 hn;by_cases hc:0<JS t.k
 ·have qc:decide (0<JS t.k)=true:=by simpa using hc
  refine⟨[],[.cells (Qa (.mk t ks))],.inl rfl,?_⟩
  rw[if_neg (hne hc),Jr];rcases he with rfl|⟨x,y,b,rfl⟩
  ·simp only[go_sem,YJ,b39,Tryz.f39,hlo,hlo1,rl,tl,Ab,hC,hlt,hle,q,q3,w1,a1,hgr,hgc,hok,ra,o1,o2,o3,o4,hst,htk,hsk,hln,hpp,qc,c46a,c46b,c46c,c46d,Zv,Ag,JP,Ae]<;>rfl
  ·simp only[go_sem,YJ,b39,Tryz.f39,hlo,hlo1,rl,tl,Ab,hC,hlt,hle,q,q3,w1,a1,hgr,hgc,hok,ra,o1,o2,o3,o4,hst,htk,hsk,hln,hpp,qc,c46a,c46b,c46c,c46d,Zv,Ag,JP,Ae]<;>rfl
 ·have qc:decide (0<JS t.k)=false:=by simpa using hc
  have q0:decide (JS t.k=0)=true:=by rw[decide_eq_true_iff];omega
  rw[q0,AB]
  cases ks with
  |nil=>
   refine⟨[(6,.ptr (h.length+1) 0),(7,.v (.int .i64 (JS t.k))),(73,.v (.bool false))],[.cells (Qa (.mk t []))],.inr ⟨_,_,_,rfl⟩,?_⟩
   have q4:decide ((0:Int)<((0:Nat):Int))=false:=rfl;rw[if_pos (show([]:List CV).isEmpty=true from rfl),Jr]
   rcases he with rfl|⟨x,y,b,rfl⟩
   ·simp only[go_sem,YJ,b39,Tryz.f39,hlo,hlo1,rl,tl,Ab,hC,hlt,hle,q,q3,q4,w1,a1,hgr,hgc,hok,ra,o1,o2,o3,o4,hst,htk,hsk,hln,hpp,qc,c46a,c46b,c46c,c46d,Zv,Ag,JP,Ae,An]<;>rfl
   ·simp only[go_sem,YJ,b39,Tryz.f39,hlo,hlo1,rl,tl,Ab,hC,hlt,hle,q,q3,q4,w1,a1,hgr,hgc,hok,ra,o1,o2,o3,o4,hst,htk,hsk,hln,hpp,qc,c46a,c46b,c46c,c46d,Zv,Ag,JP,Ae,An]<;>rfl
  |cons z ks=>
   refine⟨[],[.cells (Qa (.mk t (z::ks)))],.inl rfl,?_⟩
   have q4:decide ((0:Int)<((ks.length+1:Nat):Int))=true:=by rw[decide_eq_true_iff];omega
   rw[if_neg (show¬(z::ks).isEmpty=true by simp),Jr]
   rcases he with rfl|⟨x,y,b,rfl⟩
   ·simp only[go_sem,YJ,b39,Tryz.f39,hlo,hlo1,rl,tl,Ab,hC,hlt,hle,q,q3,q4,w1,a1,hgr,hgc,hok,ra,o1,o2,o3,o4,hst,htk,hsk,hln,hpp,qc,c46a,c46b,c46c,c46d,Zv,Ag,JP,Ae]<;>rfl
   ·simp only[go_sem,YJ,b39,Tryz.f39,hlo,hlo1,rl,tl,Ab,hC,hlt,hle,q,q3,q4,w1,a1,hgr,hgc,hok,ra,o1,o2,o3,o4,hst,htk,hsk,hln,hpp,qc,c46a,c46b,c46c,c46d,Zv,Ag,JP,Ae]<;>rfl
def clT(c:Int):List Tk4:=if 0<c then[Rul.bare c]else[]
theorem ZK(t:Tk4)(ks r:List CV):Je (.mk t ks::r)=t::(Je ks++(clT (JS t.k)++Je r)):=by
 rw[Je,GT];unfold clT;have hcl:=GS t.k;by_cases hc:JS t.k=0
 ·rw[if_pos hc,if_neg om];simp
 ·rw[if_neg hc,if_pos om];simp
theorem KU:Je []=[]:=by rw[Je]
theorem JPd(hlo:lo<=h.length):∀(n:Nat) (l:List CV),JO l<=n->∀(fs js:List (List CV×Int)) (c:Int) (Y:JC) (out:List Tk4) (ex:Jj),JVr ex->fs.length+JO l<=1000000000->out.length+2*JO l<=1000000000->
  ∃js',JA (evCode ⟨Aa,E,lo,h.length,h39⟩ JA YJ) (N24 h out (fs.length+1) ex,h++ .cells (HV (fs++(l,c)::js))::Y)=
   JA (evCode ⟨Aa,E,lo,h.length,h39⟩ JA YJ) (N24 h (out++(Je l++clT c)) fs.length [],h++[.cells (HV (fs++js'))]):=by
 intro n
 induction n with
 |zero=>
  intro l hl fs js c Y out ex he hf ho
  have:l=[]:=by have:=Jq l;exact AC om
  subst this;refine⟨([],c)::js,?_⟩
  rw[loop_eq,JKN hlo om om he,JK,KU,Ai]<;>rfl
 |succ n ih=>
  intro l hl fs js c Y out ex he hf ho
  cases l with
  |nil=>
   refine⟨([],c)::js,?_⟩
   rw[loop_eq,JKN hlo om om he,JK,KU,Ai]<;>rfl
  |cons v r=>
   obtain⟨t,ks⟩:=v;rw[J5,Wy]at hl hf ho;obtain⟨ex',Y',he',hr⟩:=JVs (js:=js) (l:=r) (ks:=ks) (t:=t) (c:=c) (Y:=Y) (out:=out) hlo (by omega:fs.length<=1000000000) om he
   rw[ZK];by_cases hq:(decide (JS t.k=0)&&ks.isEmpty)=true
   ·rw[if_pos hq]at hr
    simp only[Af,decide_eq_true_eq,List.isEmpty_iff]at hq;obtain⟨hq,rfl⟩:=hq;obtain⟨js',h1⟩:=ih r om fs js c Y' (out++[t]) ex' he' om (by simp only[Ah,Ae,An];omega)
    refine⟨js',?_⟩
    rw[loop_eq,hr,JK,h1,hq,KU];have:clT 0=[]:=rfl;rw[this];simp only[Ao,Ai,Al]
   ·rw[if_neg hq]at hr
    have e1:fs++[(r,c),(ks,JS t.k)]=(fs++[(r,c)])++(ks,JS t.k)::[]:=by simp
    have e2:fs.length+1=(fs++[(r,c)]).length:=by simp
    obtain⟨js1,h1⟩:=ih ks om (fs++[(r,c)]) [] (JS t.k) Y' (out++[t]) ex' he' (by simp only[Ah,Ae,An];omega) (by simp only[Ah,Ae,An];omega)
    have hfl:=Wz ks;have hcl:(clT (JS t.k)).length<=1:=by unfold clT;split<;>simp
    obtain⟨js2,h2⟩:=ih r om fs js1 c [] (out++[t]++(Je ks++clT (JS t.k))) [] (.inl rfl) om (by simp only[Ah,Ae,An];omega)
    refine⟨js2,?_⟩
    rw[loop_eq,hr,JK,e1];rw[<-e2]at h1;rw[h1];have e3:(fs++[(r,c)])++js1=fs++(r,c)::js1:=by simp
    rw[e3,h2];simp only[Ao,Ai,Al]
theorem JbH{js:List (List CV×Int)}{out:List Tk4}(hlo:lo<=h.length):evCode ⟨Aa,E,lo,h.length,h39⟩ JA YJ (N24 h out 0 [],h++[.cells (HV js)])=
   some (.exit 0,N24 h out 0 [(13,.v (.bool false))],h++[.cells (HV js)]):=by
 have q:decide ((0:Int)<((0:Nat):Int))=false:=rfl;have hok:=JHZ (h.length+1) js;have hlt:h.length<h.length+1:=om;simp only[go_sem,YJ,b39,Tryz.f39,hlo,q,hok,hlt]<;>rfl
theorem f39{l:List CV}(hlo:lo<=h.length)(hl:JO l<=100000000):E lo 39 [.list .no (JL l)] h=some (.list .no ((Je l).map row),h):=by
 obtain⟨js,hL⟩:=JPd hlo (JO l) l (Ab _) [] [] 0 [] [] [] (.inl rfl) (by simp;omega) (by simp;omega)
 rw[loop_eq (s:=(N24 h _ ([]:List (List CV×Int)).length _,_)),An,Ai js,JbH hlo,Kv]at hL;have e:clT 0=[]:=rfl;rw[e,Av,Ai]at hL;have e2:HV [(l,0)]=[.list .no (JL l),.v (.int .i64 0)]:=rfl;rw[e2]at hL;rw[e39];simp only[YJ,b39,Tryz.f39,JD,JT,JB,go_sem,N24,List.map_nil,Al,Ai,AE]at hL
 have nb:((1:Nat) !=0)=true:=rfl;have rl:=QA l;simp only[go_sem,b39,Tryz.f39,hlo,hL,nb,rl]<;>rfl
abbrev N48(l:List CV)(d k:Int):Jj:=[(1,.v (.int .i64 d)),(7,.list .no (JL l)),(8,.v (.int .i64 l.length)),(9,.v (.int .i64 k))]
theorem JVt{l:List CV}{v:CV}{n k:Nat}(hn:n<=64)(hlo:lo<=h.length)(hl:JO l<=1000000000000000000)(hg:l[k]? =some v)
  (ih:∀m,n=m+1->∀lo ks h,lo<=h.length->JO ks<=1000000000000000000->E lo 77 [.list .no (JL ks),.v (.int .i64 ((m:Int)))] h=some (.v (.bool (Q5 m ks)),h)):
  evCode ⟨Aa,E,lo,h.length,h77⟩ JA Yf (N48 l ((n:Int)) k,h)=
   if KL n v=true then some (.normal,N48 l ((n:Int)) (k+1:Nat),h)else some (.ret,[(4,.v (.bool false))],h++[.cells (Qa v)]):=by
 obtain⟨t,ks⟩:=v;have hlt:k<l.length:=(Ad.1 hg).1
 have hgr:(JL l)[k]? =some (Qa (.mk t ks)):=by rw[Ks,hg]<;>rfl
 have q:decide ((k:Int)<(l.length:Int))=true:=by simp;omega
 have hll:=Jq l;have hkk:JO ks<=JO l:=ZD (v:= .mk t ks) hg;have hw:=JH (i:=k) om;have hlo':lo<=h.length+1:=om;have c42:=λlo hlo=>f32 (lo:=lo) (h:=h++[.cells (Qa (.mk t ks))]) hlo t.k
 have c42a:=c42 lo (by simp;omega);have c42b:=c42 h.length (by simp);have c42c:=c42 (h.length+1) (by simp)
 clear c42;rw[JNd];rw[Jr]at*;by_cases a1:t.k<1
 ·have q1:decide (t.k<1)=true:=by simpa using a1
  have:decide (1<=t.k/\t.k<=24)=false:=by rw[decide_eq_false_iff_not];omega
  rw[this,Aw,if_neg (by simp)]
  simp only[go_sem,Yf,b77,Tryz.f77,hlo,hlo',q,hgr,q1,JP]<;>rfl
 have q1:decide (t.k<1)=false:=by simpa using a1
 by_cases a2:24<t.k
 ·have q2:decide (24<t.k)=true:=by simpa using a2
  have:decide (1<=t.k/\t.k<=24)=false:=by rw[decide_eq_false_iff_not];omega
  rw[this,Aw,if_neg (by simp)]
  simp only[go_sem,Yf,b77,Tryz.f77,hlo,hlo',q,hgr,q1,q2,JP]<;>rfl
 have q2:decide (24<t.k)=false:=by simpa using a2
 have:decide (1<=t.k/\t.k<=24)=true:=by rw[decide_eq_true_iff];omega
 rw[this,AB];by_cases a3:JS t.k=0
 ·rw[if_pos a3]
  have q3:(JS t.k==0)=true:=by simpa using a3
  cases ks with
  |nil=>
   have q4:decide ((0:Int)<((0:Nat):Int))=false:=rfl;rw[if_pos (show([]:List CV).isEmpty=true from rfl)]
   simp only[go_sem,Yf,b77,Tryz.f77,hlo,hlo',q,hgr,q1,q2,q3,q4,hw,c42a,c42b,c42c,JP,An]<;>rfl
  |cons x r=>
   have q4:decide ((0:Int)<((r.length+1:Nat):Int))=true:=by rw[decide_eq_true_iff];omega
   rw[if_neg (show¬(x::r).isEmpty=true by simp)]
   simp only[go_sem,Yf,b77,Tryz.f77,hlo,hlo',q,hgr,q1,q2,q3,q4,hw,c42a,c42b,c42c,JP,Ae]<;>rfl
 ·rw[if_neg a3]
  have q3:(JS t.k==0)=false:=by simpa using a3
  cases n with
  |zero=>
   have q5:(((0:Nat):Int)==0)=true:=rfl;rw[if_neg (show¬false=true by simp)]
   simp only[go_sem,Yf,b77,Tryz.f77,hlo,hlo',q,hgr,q1,q2,q3,q5,hw,c42a,c42b,c42c,JP]<;>rfl
  |succ m=>
   have q5:(((m+1:Nat):Int)==0)=false:=by rw[beq_eq_false_iff_ne];omega
   have w2:Aq.wrap (((m+1:Nat):Int)-1)=(m:Int):=by rw[JN om om];omega
   have c32:=λlo hlo=>ih m rfl lo ks (h++[.cells (Qa (.mk t ks))]) hlo om
   rw[Jr]at c32;have c32a:=c32 lo (by simp;omega);have c32b:=c32 h.length (by simp);have c32c:=c32 (h.length+1) (by simp)
   clear c32 ih;show _=if Q5 m ks=true then _ else _
   cases hm:Q5 m ks with
   |true=>
    rw[hm]at c32a c32b c32c;rw[if_pos rfl]
    simp only[go_sem,Yf,b77,Tryz.f77,hlo,hlo',q,hgr,q1,q2,q3,q5,hw,w2,c42a,c42b,c42c,c32a,c32b,c32c,JP]<;>rfl
   |false=>
    rw[hm]at c32a c32b c32c;rw[if_neg (by simp)]
    simp only[go_sem,Yf,b77,Tryz.f77,hlo,hlo',q,hgr,q1,q2,q3,q5,hw,w2,c42a,c42b,c42c,c32a,c32b,c32c,JP]<;>rfl
theorem JbJ{l:List CV}{d:Int}(hlo:lo<=h.length):evCode ⟨Aa,E,lo,h.length,h77⟩ JA Yf (N48 l d l.length,h)=
   some (.exit 0,N48 l d l.length++[(10,.v (.bool false))],h):=by
 have q:decide ((l.length:Int)<(l.length:Int))=false:=by simp
 simp only[go_sem,Yf,b77,Tryz.f77,hlo,q]<;>rfl
theorem JR9{l:List CV}{n:Nat}(hn:n<=64)(hlo:lo<=h.length)(hl:JO l<=1000000000000000000)
  (ih:∀m,n=m+1->∀lo ks h,lo<=h.length->JO ks<=1000000000000000000->E lo 77 [.list .no (JL ks),.v (.int .i64 ((m:Int)))] h=some (.v (.bool (Q5 m ks)),h)):
  ∀(m k:Nat),k+m=l.length->if Q5 n (l.drop k)=true then
    JA (evCode ⟨Aa,E,lo,h.length,h77⟩ JA Yf) (N48 l ((n:Int)) k,h)=some (.exit 0,N48 l ((n:Int)) l.length++[(10,.v (.bool false))],h)
   else∃X,JA (evCode ⟨Aa,E,lo,h.length,h77⟩ JA Yf) (N48 l ((n:Int)) k,h)=some (.ret,[(4,.v (.bool false))],h++X):=by
 intro m
 induction m with
 |zero=>
  intro k hk;obtain rfl:k=l.length:=om
  rw[Be,if_pos (JKM n),loop_eq,JbJ hlo,Kv]
 |succ m ihm=>
  intro k hk;have hlt:k<l.length:=om;have hg:l[k]? =some l[k]:=Ac hlt
  have hd:l.drop k=l[k]::l.drop (k+1):=AD hlt;rw[hd,JGT];generalize l[k]=v at*;have hr:=JVt hn hlo hl hg ih
  cases hm:KL n v with
  |false=>
   rw[hm,if_neg (by simp)]at hr
   rw[Aw,if_neg (by simp)]
   exact⟨_,by rw[loop_eq,hr,QY]⟩
  |true=>rw[hm,if_pos rfl]at hr;rw[AB,loop_eq,hr,JK];exact ihm (k+1) om
theorem f77:∀(n:Nat),n<=64->∀(lo:Nat) (l:List CV) (h:JC),lo<=h.length->JO l<=1000000000000000000->E lo 77 [.list .no (JL l),.v (.int .i64 ((n:Int)))] h=some (.v (.bool (Q5 n l)),h):=by
 intro n
 induction n with
 |zero=>
  intro hn lo l h hlo hl;have hL:=JR9 (lo:=lo) (h:=h) hn hlo hl (λm hm=>by omega) l.length 0 om
  have n0:((0:Nat):Int)=0:=rfl;rw[Az]at hL;rw[e77]
  cases hm:Q5 0 l with
  |false=>
   rw[hm,if_neg (by simp)]at hL
   obtain⟨X,hL⟩:=hL;simp only[Yf,b77,Tryz.f77,JD,JT,JB,go_sem,N48,n0]at hL
   simp only[go_sem,b77,Tryz.f77,hlo,hL,JP,n0]<;>rfl
  |true=>
   rw[hm,if_pos rfl]at hL;simp only[Yf,b77,Tryz.f77,JD,JT,JB,go_sem,N48,n0,Al,Ai]at hL
   simp only[go_sem,b77,Tryz.f77,hlo,hL,JP,n0]<;>rfl
 |succ n ih=>
  intro hn lo l h hlo hl
  have hL:=JR9 (lo:=lo) (h:=h) hn hlo hl (λm hm=>by
   obtain rfl:n=m:=om
   exact λlo ks h hlo hk=>ih om lo ks h hlo hk) l.length 0 om
  have n0:((0:Nat):Int)=0:=rfl;rw[Az]at hL;rw[e77]
  cases hm:Q5 (n+1) l with
  |false=>
   rw[hm,if_neg (by simp)]at hL
   obtain⟨X,hL⟩:=hL;simp only[Yf,b77,Tryz.f77,JD,JT,JB,go_sem,N48,n0]at hL
   simp only[go_sem,b77,Tryz.f77,hlo,hL,JP,n0]<;>rfl
  |true=>rw[hm,if_pos rfl]at hL;simp only[Yf,b77,Tryz.f77,JD,JT,JB,go_sem,N48,n0,Al,Ai]at hL;simp only[go_sem,b77,Tryz.f77,hlo,hL,JP,n0]<;>rfl
theorem f38{l:List CV}(hlo:lo<=h.length)(hl:JO l<=1000000000000000000):E lo 38 [.list .no (JL l)] h=some (.v (.bool (Q5 64 l)),h):=by
 have k:=λlo hlo=>f66 64 om lo l h hlo hl
 rw[show(64:Int)-((64:Nat):Int)=0 from rfl]at k
 have ka:=k lo hlo;have kb:=k h.length (Ab _);rw[e38];simp only[go_sem,b38,Tryz.f38,hlo,ka,kb]<;>rfl
theorem f45{l:List CV}(hlo:lo<=h.length)(hl:JO l<=1000000000000000000):E lo 45 [.list .no (JL l)] h=some (.v (.bool (Q5 64 l)),h):=by
 have k:=λlo hlo=>f77 64 om lo l h hlo hl
 rw[show((64:Nat):Int)=64 from rfl]at k
 have ka:=k lo hlo;have kb:=k h.length (Ab _);rw[e45];simp only[go_sem,b45,Tryz.f45,hlo,ka,kb]<;>rfl
end Go.Lift.M1
end

section
namespace Go.Lift.Tok
open Utf
theorem Zw{a b:Int}(ha:0<=a)(hb:1<=b):a<=a*b:=by have:=Int.mul_le_mul_of_nonneg_left hb ha;omega
theorem JHa{a b:Int}(ha:0<=a)(hb:1<=b):a<=b*a:=by rw[Cg];exact Zw ha hb
theorem Ki{y:Int}(hy:1<=y):∀j:Nat,1<=y^j
 |0=>by simp
 |j+1=>by rw[Bc];exact Int.le_trans (Ki hy j) (Zw (by have:=Ki hy j;omega) hy)
def jm(n:Int):List Int->Int
 |[]=>n
 |c::t=>jm (if 1099511627776<n*10+(c-48)then 1099511627776 else n*10+(c-48)) t
def ZL(n:Int):List Int->Int
 |[]=>n
 |c::t=>ZL (n*10+(c-48)) t
theorem ke:∀(l:List Int) (n:Int) (k:Nat),(∀c∈l,dig c=true)->0<=n->n<10^k->0<=ZL n l/\ZL n l<10^ (k+l.length)/\n<=ZL n l
 |[],n,k,_,h0,h1=>⟨h0,by simpa[ZL]using h1,Int.le_refl _⟩
 |c::t,n,k,hl,h0,h1=>by
  have hc:dig c=true:=hl c (by simp)
  simp only[dig,Af,decide_eq_true_eq]at hc;have h2:(10:Int)^ (k+1)=10^k*10:=Bc 10 k;obtain⟨a,b,d⟩:=ke t (n*10+(c-48)) (k+1) (λx hx=>hl x (by simp[hx])) om om
  refine⟨a,?_,?_⟩
  ·have e:k+(c::t).length=k+1+t.length:=by simp;omega
   rw[e];exact b
  ·simp only[ZL];omega
def upN:Nat->Int->Option Int
 |0,n=>some n
 |k+1,n=>if 922337203685477580<n then none else upN k (n*10)
def Kk(y:Int):Nat->Int->Nat×Int
 |0,n=>(0,n)
 |k+1,n=>if n%y=0 then Kk y k (n/y)else(k+1,n)
def jn(y b:Int):Nat->Int->Option Int
 |0,d=>some d
 |k+1,d=>if b<d then none else jn y b k (d*y)
theorem JKO:∀(k:Nat) (n m:Int),upN k n=some m->m=n*10^k/\(k=0\/m<=9223372036854775800)
 |0,n,m,h=>by simp only[upN,Option.some.injEq]at h;exact⟨by simp[h],.inl rfl⟩
 |k+1,n,m,h=>by
  simp only[upN]at h
  split at h
  ·cases h
  ·rename_i h1
   obtain⟨a,b⟩:=JKO k (n*10) m h;refine⟨by rw[a,Bc,B0,Cg 10],.inr ?_⟩
   rcases b with b|b
   ·subst b
    simp at a;omega
   ·exact b
theorem JGU{y b:Int}(hy:0<y):∀(k:Nat) (n m:Int),jn y b k n=some m->m=n*y^k/\(k=0\/m<=b*y)
 |0,n,m,h=>by simp only[jn,Option.some.injEq]at h;exact⟨by simp[h],.inl rfl⟩
 |k+1,n,m,h=>by
  simp only[jn]at h
  split at h
  ·cases h
  ·rename_i h1
   obtain⟨a,c⟩:=JGU hy k (n*y) m h;refine⟨by rw[a,Bc,B0,Cg y],.inr ?_⟩
   rcases c with c|c
   ·subst c
    simp at a;rw[a];exact Int.mul_le_mul_of_nonneg_right om om
   ·exact c
theorem kg{a c:Nat}(h:a<=c):(2:Int)^a<=2^c:=by obtain⟨j,rfl⟩:∃j,c=a+j:=⟨c-a,om⟩;rw[La];have h0:(0:Int)<2^a:=Ki om a;have:(1:Int)<=2^j:=Ki om j;exact Zw om this
theorem Yp{y:Int}(hy:0<y):∀(k:Nat) (n:Int),1<=n->(Kk y k n).1<=k/\1<=(Kk y k n).2/\(Kk y k n).2<=n/\n=(Kk y k n).2*y^ (k-(Kk y k n).1)
 |0,n,h=>by simp[Kk,h]
 |k+1,n,h=>by
  simp only[Kk]
  split
  ·rename_i h1
   have h2:n=n/y*y:=by have:=Int.mul_ediv_add_emod n y;rw[h1,Int.add_zero]at this;rw[Cg];exact this.symm
   have h3:1<=n/y:=by
    rcases Int.lt_or_le (n/y) 1 with h4|h4
    ·have:n/y*y<=0:=Int.mul_nonpos_of_nonpos_of_nonneg om om
     omega
    ·exact h4
   obtain⟨a,b,c,d⟩:=Yp hy k (n/y) h3;have h5:n/y<=n:=Int.ediv_le_self y om;refine⟨om,b,om,?_⟩
   have e:k+1-(Kk y k (n/y)).1=k-(Kk y k (n/y)).1+1:=om;rw[e,Bc,<-B0,<-d];exact h2
  ·simp[h]
def zi(n p:Int):Option (Int×Int):=
 match upN p.toNat n with
 |none=>none
 |some m=>
  if 62<(Kk 2 (-p).toNat m).1\/27<(Kk 5 (-p).toNat (Kk 2 (-p).toNat m).2).1 then none
  else(jn 5 1844674407370955161 (Kk 5 (-p).toNat (Kk 2 (-p).toNat m).2).1 (2^ (Kk 2 (-p).toNat m).1)).map λd=>((Kk 5 (-p).toNat (Kk 2 (-p).toNat m).2).2,d)
structure Wr where
 below:Bool
 digits:List Int
 behind:Nat
 exp:Int
 whole:Bool
def core(d:List Int):List Int:=(d.reverse.dropWhile (· ==48)).reverse
def turn(below:Bool)(x:Option (Int×Int)):Int×Int:=match x with
 |none=>(0,0)
 |some (n,d)=>(if below=true then-n else n,d)
def JSA(w:Wr):Int×Int:=
 let d:=w.digits.dropWhile (· ==48)
 if d=[]then(0,1)else
 if 18<(core d).length then(0,0)else
 turn w.below (zi (ZL 0 (core d)) (w.exp-w.behind+(d.length-(core d).length)))
structure Nm where
 sg:List Int
 d1:List Int
 fr:List Int
 ex:List Int
 d3:List Int
def Nm.text(n:Nm):List Int:=n.sg++n.d1++(if n.fr=[]then[]else 46::n.fr)++n.ex++n.d3
def Nm.wr(n:Nm):Wr:=⟨n.sg==[45],n.d1++n.fr,n.fr.length,if chr n.ex 1=45 then-jm 0 n.d3 else jm 0 n.d3,n.fr.isEmpty&&n.ex.isEmpty⟩
def Nm.num(n:Nm):(Int×Int)×Bool:=(JSA n.wr,n.wr.whole)
structure Nm.Ok(n:Nm):Prop where
 sg:n.sg=[]\/n.sg=[43]\/n.sg=[45]
 d1:n.d1.all dig=true
 fr:n.fr.all dig=true
 some:n.d1++n.fr≠[]
 ex:(n.ex=[]/\n.d3=[])\/((∃e,(e=101\/e=69)/\(n.ex=[e]\/n.ex=[e,43]\/n.ex=[e,45]))/\n.d3≠[])
 d3:n.d3.all dig=true
def HW(s:List Int):Nm×List Int:=
 let a:=if(chr s 0==43||chr s 0==45)=true then s.drop 1 else s
 let b:=a.dropWhile dig
 let f:=(chr b 0==46&&dig (chr b 1))
 let c:=if f=true then(b.drop 1).dropWhile dig else b
 let k:=if(chr c 1==43||chr c 1==45)=true then 2 else 1
 let x:=((chr c 0==101||chr c 0==69)&&dig (chr c k))
 (⟨if(chr s 0==43||chr s 0==45)=true then s.take 1 else[],a.takeWhile dig,if f=true then(b.drop 1).takeWhile dig else[],
  if x=true then c.take k else[],if x=true then(c.drop k).takeWhile dig else[]⟩,if x=true then(c.drop k).dropWhile dig else c)
def JKP(c:Int):Int:=if(decide (65<=c)&&decide (c<=90))=true then c+32 else c
def JGV(n:List Int):Bool:=n.map JKP==[117,114,108]
def kn:Nat->List Int->List Int
 |0,s=>s
 |n+1,s=>if(blk (chr s 0)&&blk (chr s 1))=true then kn n (s.drop 1)else s
def Q0(s:List Int):List Int:=kn s.length s
def tk(k:Int)(t:List Int):Tk:=⟨k,t,(0,0),false,false⟩
def JCe(x:Bool×List Int×List Int):Tk:=if x.1=true then tk 7 x.2.1 else tk 8 []
def JKQ(x:Bool×List Int×List Int):Tk:=if x.1=true then tk 5 x.2.1 else tk 6 []
def JCf(s:List Int):Tk×List Int:=
 let n:=(name s).1
 let r:=(name s).2
 if chr r 0=40 then
  if JGV n=true then
   let b:=Q0 (r.drop 1)
   if quo (if blk (chr b 0)=true then chr b 1 else chr b 0)=true then(tk 2 n,b)else(JCe (url b),(url b).2.2)
  else(tk 2 n,r.drop 1)
 else(tk 1 n,r)
def YW(s:List Int):Tk×List Int:=
 let d:=(HW s).1.num
 let r:=(HW s).2
 if beg (chr r 0) (chr r 1) (chr r 2)=true then(⟨12,(name r).1,d.1,d.2,false⟩,(name r).2)
 else if chr r 0=37 then(⟨11,[],d.1,d.2,false⟩,r.drop 1)
 else(⟨10,[],d.1,d.2,false⟩,r)
def plK(c:Int):Int:=
 if c=40 then 21 else if c=41 then 22 else if c=44 then 18 else if c=58 then 16 else if c=59 then 17
 else if c=91 then 19 else if c=93 then 20 else if c=123 then 23 else if c=125 then 24 else 0
def Q6(s:List Int):Tk×List Int:=
 let c:=chr s 0
 let d:=chr s 1
 let e:=chr s 2
 if blk c=true then(tk 13 [],K5 s)
 else if quo c=true then(JKQ (txt c (s.drop 1)),(txt c (s.drop 1)).2.2)
 else if 0<plK c then(tk (plK c) [],s.drop 1)
 else if num c d e=true then YW s
 else if c=45/\d=45/\e=62 then(tk 15 [],s.drop 3)
 else if c=60/\d=33/\e=45/\chr s 3=45 then(tk 14 [],s.drop 4)
 else if c=35/\(GR d||esc d e)=true then(⟨4,(name (s.drop 1)).1,(0,0),false,beg d e (chr s 3)⟩,(name (s.drop 1)).2)
 else if c=64/\beg d e (chr s 3)=true then(tk 3 (name (s.drop 1)).1,(name (s.drop 1)).2)
 else if beg c d e=true then JCf s
 else(tk 9 [c],s.drop 1)
def toksN:Nat->List Int->List Tk
 |0,_=>[]
 |n+1,s=>if Gp s=[]then[]else(Q6 (Gp s)).1::toksN n (Q6 (Gp s)).2
def JCg(s:List Int):List Tk:=toksN s.length s
theorem JMY{s:List Int}{c:Int}(h:chr s 0=c)(hc:c≠ -1):∃t,s=c::t:=by
 cases s with
 |nil=>simp only[chr,List.getElem?_nil]at h;exact absurd h.symm hc
 |cons x t=>simp only[chr,List.getElem?_cons_zero]at h;exact⟨t,by rw[h]⟩
theorem JHb{s:List Int}(h:dig (chr s 1)=true):∃a b t,s=a::b::t/\dig b=true:=by
 match s with
 |[]=>simp[chr,dig]at h
 |[x]=>simp[chr,dig]at h
 |a::b::t=>exact⟨a,b,t,rfl,by simpa[chr]using h⟩
theorem JCh(s:List Int)(n k:Nat):chr (s.drop n) k=chr s (n+k):=by simp[chr]
theorem JSB(p:Int->Bool)(l:List Int):l.takeWhile p++l.dropWhile p=l:=List.takeWhile_append_dropWhile
theorem JMZ:∀l:List Int,(l.takeWhile dig).all dig=true
 |[]=>rfl
 |c::t=>by
  cases hc:dig c with
  |true=>rw[Bl hc,Bg,hc,JMZ t]<;>rfl
  |false=>rw[List.takeWhile_cons_of_neg (by simp[hc])]<;>rfl
theorem JSC{b:Bool}{l:List Int}:(if b=true then l.takeWhile dig else[]).all dig=true:=by
 cases b with
 |true=>exact JMZ l
 |false=>rfl
theorem zj(s:List Int):(HW s).1.text++(HW s).2=s:=by
 unfold HW Nm.text;simp only;generalize hf:(chr ((if(chr s 0==43||chr s 0==45)=true then s.drop 1 else s).dropWhile dig) 0==46&&dig (chr ((if(chr s 0==43||chr s 0==45)=true then s.drop 1 else s).dropWhile dig) 1))=f
 have hs:(if(chr s 0==43||chr s 0==45)=true then s.take 1 else[])++(if(chr s 0==43||chr s 0==45)=true then s.drop 1 else s)=s:=by
  split
  ·exact CG 1 s
  ·rfl
 generalize (if(chr s 0==43||chr s 0==45)=true then s.drop 1 else s)=a at*
 generalize (if(chr s 0==43||chr s 0==45)=true then s.take 1 else[])=sg at*
 have ha:=JSB dig a;generalize a.takeWhile dig=d1 at*;generalize a.dropWhile dig=b at*
 have hb:(if(if f=true then(b.drop 1).takeWhile dig else[])=[]then[]else 46::(if f=true then(b.drop 1).takeWhile dig else[]))++(if f=true then(b.drop 1).dropWhile dig else b)=b:=by
  cases f with
  |false=>simp
  |true=>
   simp only[Af,beq_iff_eq]at hf;obtain⟨u,hu⟩:=JMY hf.1 (by decide)
   obtain⟨x,y,v,hv,hy⟩:=JHb hf.2;rw[hu]at hv;cases hv;rw[hu];simp only[Cd,Az,if_true];rw[if_neg (by rw[Bl hy];simp),Al,JSB]
 generalize (if f=true then(b.drop 1).takeWhile dig else[])=fr at*
 generalize (if f=true then(b.drop 1).dropWhile dig else b)=c at*
 generalize (if(chr c 1==43||chr c 1==45)=true then 2 else 1)=k at*
 have hc:(if((chr c 0==101||chr c 0==69)&&dig (chr c k))=true then c.take k else[])++((if((chr c 0==101||chr c 0==69)&&dig (chr c k))=true then(c.drop k).takeWhile dig else[])++(if((chr c 0==101||chr c 0==69)&&dig (chr c k))=true then(c.drop k).dropWhile dig else c))=c:=by
  split
  ·rw[JSB,CG]
  ·rfl
 simp only[Ao];rw[hc,hb,ha,hs]
theorem JHc{s:List Int}(hn:num (chr s 0) (chr s 1) (chr s 2)=true):(HW s).1.Ok:=by
 unfold HW;simp only;refine⟨?_,JMZ _,?_,?_,?_,?_⟩
 ·simp only
  split
  ·rename_i h
   simp only[A7,beq_iff_eq]at h;rcases h with h|h
   ·obtain⟨t,ht⟩:=JMY h (by decide)
    right;left;rw[ht]<;>rfl
   ·obtain⟨t,ht⟩:=JMY h (by decide)
    right;right;rw[ht]<;>rfl
  ·exact .inl rfl
 ·exact JSC
 ·simp only
  unfold num at hn;by_cases hsg:(chr s 0==43||chr s 0==45)=true
  ·rw[if_pos hsg]at hn⊢
   have e0:chr (s.drop 1) 0=chr s 1:=JCh s 1 0;have e1:chr (s.drop 1) 1=chr s 2:=JCh s 1 1;rw[<-e0,<-e1]at hn;generalize s.drop 1=a at*;rw[A7,Af,beq_iff_eq]at hn;intro h0;rw[CW]at h0;obtain⟨h1,h2⟩:=h0
   cases a with
   |nil=>rcases hn with hn|⟨hn,_⟩<;>simp[chr,dig]at hn
   |cons c t=>
    have hc0:dig c=false:=by
     cases hc:dig c with
     |true=>rw[Bl hc]at h1;cases h1
     |false=>rfl
    rw[Br (by simp[hc0])]at h2
    rcases hn with hn|⟨hn,hm⟩
    ·have:dig c=true:=hn
     rw[hc0]at this;cases this
    ·have hf:(chr (c::t) 0==46&&dig (chr (c::t) 1))=true:=by simp[hn,hm]
     rw[if_pos hf]at h2;obtain⟨x,y,v,hv,hy⟩:=JHb hm;cases hv;simp only[Cd,Az]at h2;rw[Bl hy]at h2;cases h2
  ·rw[if_neg hsg]at hn⊢
   rw[A7,Af,beq_iff_eq]at hn;intro h0;rw[CW]at h0;obtain⟨h1,h2⟩:=h0
   cases s with
   |nil=>rcases hn with hn|⟨hn,_⟩<;>simp[chr,dig]at hn
   |cons c t=>
    have hc0:dig c=false:=by
     cases hc:dig c with
     |true=>rw[Bl hc]at h1;cases h1
     |false=>rfl
    rw[Br (by simp[hc0])]at h2
    rcases hn with hn|⟨hn,hm⟩
    ·have:dig c=true:=hn
     rw[hc0]at this;cases this
    ·have hf:(chr (c::t) 0==46&&dig (chr (c::t) 1))=true:=by simp[hn,hm]
     rw[if_pos hf]at h2;obtain⟨x,y,v,hv,hy⟩:=JHb hm;cases hv;simp only[Cd,Az]at h2;rw[Bl hy]at h2;cases h2
 ·simp only
  generalize (if(chr ((if(chr s 0==43||chr s 0==45)=true then s.drop 1 else s).dropWhile dig) 0==46&&dig (chr ((if(chr s 0==43||chr s 0==45)=true then s.drop 1 else s).dropWhile dig) 1))=true then(((if(chr s 0==43||chr s 0==45)=true then s.drop 1 else s).dropWhile dig).drop 1).dropWhile dig else(if(chr s 0==43||chr s 0==45)=true then s.drop 1 else s).dropWhile dig)=c
  by_cases hx:((chr c 0==101||chr c 0==69)&&dig (chr c (if(chr c 1==43||chr c 1==45)=true then 2 else 1)))=true
  ·rw[if_pos hx,if_pos hx]
   right
   rw[Af]at hx;obtain⟨he,hd⟩:=hx;rw[A7,beq_iff_eq,beq_iff_eq]at he
   obtain⟨e,t,hc⟩:∃e t,c=e::t:=by
    cases c with
    |nil=>simp[chr]at he
    |cons e t=>exact⟨e,t,rfl⟩
   subst hc;have he':e=101\/e=69:=by simpa[chr]using he
   by_cases hk:(chr (e::t) 1==43||chr (e::t) 1==45)=true
   ·rw[if_pos hk]
    rw[if_pos hk]at hd;rw[A7,beq_iff_eq,beq_iff_eq]at hk
    cases t with
    |nil=>simp[chr]at hk
    |cons s2 t2=>
     have hs2:s2=43\/s2=45:=by simpa[chr]using hk
     refine⟨⟨e,he',?_⟩,?_⟩
     ·rcases hs2 with rfl|rfl
      ·right;left;rfl
      ·right;right;rfl
     ·simp only[Cd,Az]
      cases t2 with
      |nil=>simp[chr,dig]at hd
      |cons y v=>
       have hy:dig y=true:=by simpa[chr]using hd
       rw[Bl hy];simp
   ·rw[if_neg hk]
    rw[if_neg hk]at hd;refine⟨⟨e,he',.inl rfl⟩,?_⟩
    simp only[Cd,Az]
    cases t with
    |nil=>simp[chr,dig]at hd
    |cons y v=>
     have hy:dig y=true:=by simpa[chr]using hd
     rw[Bl hy];simp
  ·rw[if_neg hx,if_neg hx]
   exact .inl ⟨rfl,rfl⟩
 ·exact JSC
theorem JNj:∀(k:Nat) (n:Int) (s:List Int),(YU k n s).2.length<=s.length
 |0,n,s=>Ab _
 |k+1,n,[]=>Ab _
 |k+1,n,c::t=>by
  simp only[YU]
  split
  ·exact Ab _
  ·have:=JNj k (n*16+hex c) t
   simp;omega
theorem JVu(s:List Int):(JDe s).length<=s.length:=by
 cases s with
 |nil=>exact Ab _
 |cons d u=>simp only[JDe];split<;>simp
theorem Zx(s:List Int):(K6 s).2.length<=s.length:=by
 cases s with
 |nil=>exact Ab _
 |cons c t=>
  simp only[K6]
  split
  ·simp
  ·have:=JVu (YU 6 0 (c::t)).2
   have:=JNj 6 0 (c::t);simp only at*;omega
theorem H6:∀(n:Nat) (s:List Int),(QD n s).2.length<=s.length
 |0,s=>Ab _
 |n+1,[]=>Ab _
 |n+1,c::t=>by
  simp only[QD]
  split
  ·have:=H6 n t
   simp;omega
  ·split
   ·have:=H6 n (K6 t).2
    have:=Zx t;simp;omega
   ·simp
theorem JHd(s:List Int):(name s).2.length<=s.length:=H6 _ _
theorem JVv{c:Int}{t:List Int}(h:(GR c||esc c (chr t 0))=true):(name (c::t)).2.length<=t.length:=by
 unfold name;simp only[Ae,QD]
 split
 ·exact H6 _ _
 ·rename_i h2
  rw[if_pos (by simpa[h2]using h)]
  exact AY (H6 _ _) (Zx t)
theorem JA8(sign:Int):∀(n:Nat) (s:List Int),(QP sign n s).2.2.length<=s.length
 |0,s=>Ab _
 |n+1,[]=>Ab _
 |n+1,c::t=>by
  simp only[QP]
  split
  ·exact Ab _
  ·split
   ·simp
   ·split
    ·cases t with
     |nil=>simp
     |cons d u=>
      simp only
      split
      ·have:=JA8 sign n u
       simp;omega
      ·have:=JA8 sign n (K6 (d::u)).2
       have:=Zx (d::u);simp at*;omega
    ·have:=JA8 sign n t
     simp;omega
theorem Zy:∀(n:Nat) (s:List Int),(jl n s).length<=s.length
 |0,s=>Ab _
 |n+1,[]=>Ab _
 |n+1,c::t=>by
  simp only[jl]
  split
  ·simp
  ·split
   ·have:=Zy n (K6 t).2
    have:=Zx t;simp;omega
   ·have:=Zy n t
    simp;omega
theorem GX(s:List Int):(K5 s).length<=s.length:=(Cp _).length_le
theorem JHe:∀(n:Nat) (s:List Int),(QU n s).2.2.length<=s.length
 |0,s=>Ab _
 |n+1,[]=>Ab _
 |n+1,c::t=>by
  simp only[QU]
  split
  ·simp
  ·split
   ·have:=GX t
    split
    ·simp
     omega
    ·have:=Zy (K5 t).length (K5 t)
     simp[JCC];omega
   ·split
    ·exact Zy _ _
    ·split
     ·split
      ·have:=JHe n (K6 t).2
       have:=Zx t;simp;omega
      ·exact Zy _ _
     ·have:=JHe n t
      simp;omega
theorem JbK(s:List Int):(url s).2.2.length<=s.length:=AY (JHe _ _) (GX s)
theorem JGW:∀(n:Nat) (s:List Int),(kn n s).length<=s.length
 |0,s=>Ab _
 |n+1,s=>by
  simp only[kn]
  split
  ·have:=JGW n (s.drop 1)
   simp at*;omega
  ·exact Ab _
theorem JKR(s:List Int):(Q0 s).length<=s.length:=JGW _ _
theorem JKS:∀s:List Int,(yO s).length<=s.length
 |[]=>Ab _
 |[_]=>by simp[yO]
 |c::d::t=>by
  simp only[yO]
  split
  ·simp;omega
  ·have:=JKS (d::t)
   simp at*;omega
theorem JNk:∀(n:Nat) (s:List Int),(JCB n s).length<=s.length
 |0,s=>Ab _
 |n+1,[]=>Ab _
 |n+1,[_]=>Ab _
 |n+1,c::d::t=>by
  simp only[JCB]
  split
  ·have:=JNk n (yO t)
   have:=JKS t;simp;omega
  ·exact Ab _
theorem JA9(s:List Int):(Gp s).length<=s.length:=JNk _ _
theorem JVw{c d e:Int}(h:beg c d e=true):(GR c||esc c d)=true:=by
 unfold beg at h
 split at h
 ·rename_i h45
  simp only[beq_iff_eq]at h45;subst h45;rfl
 ·rw[A7]at h
  rcases h with h|h
  ·unfold GR;simp[h]
  ·simp[h]
theorem JVx{c:Int}{t:List Int}(h:beg c (chr t 0) (chr t 1)=true):(JCf (c::t)).2.length<=t.length:=by
 have h1:=JVv (JVw h);unfold JCf;simp only
 split
 ·split
  ·have h2:=JKR ((name (c::t)).2.drop 1)
   rw[List.length_drop]at h2;have h3:=JbK (Q0 ((name (c::t)).2.drop 1))
   have key:∀b:Bool,(if b=true then(tk 2 (name (c::t)).1,Q0 ((name (c::t)).2.drop 1))else(JCe (url (Q0 ((name (c::t)).2.drop 1))),(url (Q0 ((name (c::t)).2.drop 1))).2.2)).2.length<=t.length:=by
    intro b
    cases b with
    |true=>rw[if_pos rfl];show(Q0 ((name (c::t)).2.drop 1)).length<=_;omega
    |false=>rw[if_neg (by simp)];show(url (Q0 ((name (c::t)).2.drop 1))).2.2.length<=_;omega
   exact key _
  ·simp
   omega
 ·exact h1
theorem JPe{c:Int}{t:List Int}(h:num c (chr t 0) (chr t 1)=true):(YW (c::t)).2.length<=t.length:=by
 have h0:num (chr (c::t) 0) (chr (c::t) 1) (chr (c::t) 2)=true:=by
  have e1:chr (c::t) 1=chr t 0:=by simp[chr]
  have e2:chr (c::t) 2=chr t 1:=by simp[chr]
  rw[e1,e2];exact h
 have hok:=JHc h0;have ht:=congrArg List.length (zj (c::t));rw[Ah,Ae]at ht
 have hpos:0<(HW (c::t)).1.text.length:=by
  have:=hok.some;rcases Nat.eq_zero_or_pos (HW (c::t)).1.text.length with h2|h2
  ·exfalso
   have h3:=AC h2;unfold Nm.text at h3;simp only[CW]at h3
   have h4:(HW (c::t)).1.fr=[]:=by
    have:=h3.1.1.2
    split at this
    ·assumption
    ·cases this
   exact this (by rw[h3.1.1.1.2,h4]<;>rfl)
  ·exact h2
 unfold YW;simp only
 split
 ·have:=JHd (HW (c::t)).2
  simp only;omega
 ·split
  ·simp
   omega
  ·simp only
   omega
theorem yX{s:List Int}(h:s≠[]):(Q6 s).2.length<s.length:=by
 obtain⟨c,t,rfl⟩:∃c t,s=c::t:=by
  cases s with
  |nil=>exact absurd rfl h
  |cons c t=>exact⟨c,t,rfl⟩
 have e0:chr (c::t) 0=c:=rfl;have e1:chr (c::t) 1=chr t 0:=by simp[chr]
 have e2:chr (c::t) 2=chr t 1:=by simp[chr]
 have e3:chr (c::t) 3=chr t 2:=by simp[chr]
 unfold Q6;simp only[e0,e1,e2,e3,Ae,Cd,Az]
 split
 ·rename_i hb
  have:(K5 (c::t)).length<=t.length:=by unfold K5;rw[List.dropWhile_cons_of_pos hb];exact(Cp _).length_le
  simp only;omega
 ·split
  ·have:=JA8 c t.length t
   unfold txt;simp only;omega
  ·split
   ·simp
   ·split
    ·rename_i hn
     have:=JPe hn;omega
    ·split
     ·simp;omega
     ·split
      ·simp;omega
      ·split
       ·have:=JHd t
        simp only;omega
       ·split
        ·have:=JHd t
         simp only;omega
        ·split
         ·rename_i hb
          have:=JVx hb;omega
         ·simp
end Go.Lift.Tok
end

section
namespace Go.Lift.Spell
open Utf Tok
def big:Int:=1000000000000000000
def refN:Nat->Int->Int->Nat->Option (Int×Nat)
 |0,_,_,_=>none
 |k+1,n,d,p=>if d<=1 then some (n,p)else if d%2≠0/\d%5≠0 then none else if d%10=0 then refN k n (d/10) (p+1)
  else if big<=n then none else if d%5=0 then refN k (n*2) (d/5) (p+1)else refN k (n*5) (d/2) (p+1)
def zk(x:Int):Nat->Int->Option Int
 |0,m=>some m
 |k+1,m=>if big<m then none else zk x k (m*x)
def upR(x:Int):Nat->Int->Option Int
 |0,m=>some m
 |k+1,m=>if big<=m then none else upR x k (m*x)
def fv:Nat->Int->Nat×Int
 |0,d=>(0,d)
 |k+1,d=>if d%5=0 then((fv k (d/5)).1+1,(fv k (d/5)).2)else(0,d)
def ZM(n d:Int):Option (Int×Nat):=
 let a:=Go.Lib.ctz 64 d.toNat
 let b:=(fv 64 (d/2^a)).1
 if(fv 64 (d/2^a)).2=1 then((zk 2 (max a b-a) n).bind (zk 5 (max a b-b))).map λm=>(m,max a b)else none
theorem pow_pos{x:Int}(hx:0<x)(k:Nat):0<x^k:=by
 induction k with
 |zero=>simp
 |succ k ih=>rw[Bc];exact Int.mul_pos ih hx
theorem JNl:∀(k:Nat) (d:Int),1<=d->d<5^k->d=5^ (fv k d).1*(fv k d).2/\(fv k d).2%5≠0/\1<=(fv k d).2
 |0,d,h1,h2=>by simp at h2;omega
 |k+1,d,h1,h2=>by
  simp only[fv]
  split
  ·rename_i h
   obtain⟨a,b,c⟩:=JNl k (d/5) om (by rw[Bc]at h2;omega)
   refine⟨?_,b,c⟩
   have e:d=d/5*5:=om;rw[Bc,B0,Cg 5,<-B0,<-a];exact e
  ·rename_i h
   exact⟨by simp,h,h1⟩
theorem yY{r:Int}(h2:r%2≠0)(h5:r%5≠0)(h1:1<r):∀(k a b:Nat) (n:Int) (p:Nat),refN k n (2^a*5^b*r) p=none
 |0,_,_,_,_=>rfl
 |k+1,a,b,n,p=>by
  have pa:=pow_pos (x:=2) om a;have pb:=pow_pos (x:=5) om b
  have hd:1<2^a*5^b*r:=by have h3:(1:Int)<=2^a*5^b:=Int.mul_pos pa pb;have h4:r<=2^a*5^b*r:=JHa om h3;omega
  simp only[refN];rw[if_neg om]
  cases a with
  |zero=>
   cases b with
   |zero=>
    have e:(2:Int)^0*5^0*r=r:=by simp
    rw[e,if_pos ⟨h2,h5⟩]
   |succ b=>
    have e:(2:Int)^0*5^ (b+1)*r=5*(2^0*5^b*r):=by rw[Bc];ac_rfl
    have hodd:(2^0*5^ (b+1)*r)%2≠0:=by
     have h3:∀b:Nat,((5:Int)^b*r)%2≠0:=by
      intro b
      induction b with
      |zero=>simpa using h2
      |succ b ih=>rw[Bc,B0,Cg 5,<-B0];omega
     simpa using h3 (b+1)
    have hm:(2^0*5^ (b+1)*r)%5=0:=by rw[e];omega
    rw[if_neg om,if_neg om]
    split
    ·rfl
    ·skip
     have e2:(2^0*5^ (b+1)*r)/5=2^0*5^b*r:=by rw[e];omega
     rw[e2]
     exact yY h2 h5 h1 k 0 b _ _
  |succ a=>
   have e0:(2:Int)^ (a+1)*5^b*r=2*(2^a*5^b*r):=by rw[Bc];ac_rfl
   have heven:(2^ (a+1)*5^b*r)%2=0:=by rw[e0];omega
   rw[if_neg om]
   cases b with
   |zero=>
    have h3:(2^ (a+1)*5^0*r)%5≠0:=by
     have h3:∀a:Nat,((2:Int)^a*r)%5≠0:=by
      intro a
      induction a with
      |zero=>simpa using h5
      |succ a ih=>rw[Bc,B0,Cg 2,<-B0];omega
     simpa using h3 (a+1)
    rw[if_neg om]
    split
    ·rfl
    ·skip
     have e2:(2^ (a+1)*5^0*r)/2=2^a*5^0*r:=by rw[e0];omega
     rw[e2]
     exact yY h2 h5 h1 k a 0 _ _
   |succ b=>
    have e:(2:Int)^ (a+1)*5^ (b+1)*r=10*(2^a*5^b*r):=by rw[Bc,Bc,show(10:Int)=2*5 from rfl];ac_rfl
    rw[if_pos (by rw[e];omega)]
    have e2:(2^ (a+1)*5^ (b+1)*r)/10=2^a*5^b*r:=by rw[e];omega
    rw[e2];exact yY h2 h5 h1 k a b _ _
theorem JSG:∀(k:Nat) (n:Int),n%2≠0->upR 5 k n=zk 5 k n
 |0,_,_=>rfl
 |k+1,n,h=>by
  simp only[upR,zk];have e:n≠big:=by unfold big;omega
  rw[JSG k (n*5) om];by_cases hb:big<n
  ·rw[if_pos om,if_pos hb]
  ·rw[if_neg om,if_neg hb]
theorem JSH:∀(k:Nat) (n:Int),n%5≠0->upR 2 k n=zk 2 k n
 |0,_,_=>rfl
 |k+1,n,h=>by
  simp only[upR,zk];have e:n≠big:=by unfold big;omega
  rw[JSH k (n*2) om];by_cases hb:big<n
  ·rw[if_pos om,if_pos hb]
  ·rw[if_neg om,if_neg hb]
theorem JKT(b:Nat):((5:Int)^b)%2=1:=by
 induction b with
 |zero=>simp
 |succ b ih=>rw[Bc];omega
theorem JSJ(a:Nat):((2:Int)^a)%5≠0:=by
 induction a with
 |zero=>simp
 |succ a ih=>rw[Bc];omega
theorem JKU:∀(b k:Nat) (n:Int) (p:Nat),b<k->refN k n (5^b) p=(upR 2 b n).map λm=>(m,p+b)
 |b,0,n,p,h=>by omega
 |0,k+1,n,p,h=>by
  simp only[refN,upR];rw[if_pos (by simp)]
  simp
 |b+1,k+1,n,p,h=>by
  have pb:=pow_pos (x:=5) om b;have e:(5:Int)^ (b+1)=5*5^b:=by rw[Bc,Cg]
  have o:=JKT (b+1);simp only[refN,upR];rw[if_neg om,if_neg om,if_neg om]
  split
  ·rfl
  ·rw[if_pos om]
   have e2:(5:Int)^ (b+1)/5=5^b:=om;rw[e2,JKU b k _ _ om];have e3:p+1+b=p+(b+1):=om;rw[e3]
theorem JNm:∀(a k:Nat) (n:Int) (p:Nat),a<k->refN k n (2^a) p=(upR 5 a n).map λm=>(m,p+a)
 |a,0,n,p,h=>by omega
 |0,k+1,n,p,h=>by
  simp only[refN,upR];rw[if_pos (by simp)]
  simp
 |a+1,k+1,n,p,h=>by
  have pa:=pow_pos (x:=2) om a;have e:(2:Int)^ (a+1)=2*2^a:=by rw[Bc,Cg]
  have o:=JSJ (a+1);simp only[refN,upR];rw[if_neg om,if_neg om,if_neg om]
  split
  ·rfl
  ·skip
   have e2:(2:Int)^ (a+1)/2=2^a:=om;rw[e2,JNm a k _ _ om];have e3:p+1+a=p+(a+1):=om;rw[e3]
theorem JHf:∀(j a b k:Nat) (n:Int) (p:Nat),j+max a b<k->refN k n (2^ (j+a)*5^ (j+b)) p=refN (k-j) n (2^a*5^b) (p+j)
 |0,a,b,k,n,p,h=>by simp
 |j+1,a,b,0,n,p,h=>by omega
 |j+1,a,b,k+1,n,p,h=>by
  have pa:=pow_pos (x:=2) om (j+a);have pb:=pow_pos (x:=5) om (j+b)
  have e:(2:Int)^ (j+1+a)*5^ (j+1+b)=10*(2^ (j+a)*5^ (j+b)):=by have e1:j+1+a=j+a+1:=om;have e2:j+1+b=j+b+1:=om;rw[e1,e2,Bc,Bc,show(10:Int)=2*5 from rfl];ac_rfl
  have h3:(1:Int)<=2^ (j+a)*5^ (j+b):=Int.mul_pos pa pb;simp only[refN];rw[e,if_neg om,if_neg om,if_pos om];have e2:10*((2:Int)^ (j+a)*5^ (j+b))/10=2^ (j+a)*5^ (j+b):=om;rw[e2,JHf j a b k n (p+1) om];have e3:p+1+j=p+(j+1):=om;have e4:k+1-(j+1)=k-j:=om;rw[e3,e4]
theorem JMa{n d:Int}(h1:1<=d)(h2:d<9223372036854775808)(hg:∀x,(x=2\/x=5)->d%x=0->n%x≠0):refN 64 n d 0=ZM n d:=by
 unfold ZM;simp only;have hlow:=Go.Lib.ctzFrom_spec 64 d.toNat om om;have hctz:Go.Lib.ctz 64 d.toNat=Go.Lib.ctzFrom 64 d.toNat:=by unfold Go.Lib.ctz;rw[if_neg om]
 rw[<-hctz]at hlow;generalize Go.Lib.ctz 64 d.toNat=a at*;obtain⟨m,hm,ha⟩:=hlow
 have hd:d=2^a*(2*(m:Int)+1):=by
  have:(d.toNat:Int)=((2^a*(2*m+1):Nat):Int):=by rw[hm]
  have e:(d.toNat:Int)=d:=om;rw[e]at this;rw[this];push_cast;rfl
 have pa:=pow_pos (x:=2) om a;have hq:d/2^a=2*(m:Int)+1:=by rw[hd];exact Int.mul_ediv_cancel_left _ om
 rw[hq];have hle:2*(m:Int)+1<=d:=by rw[hd];exact JHa om om
 have h64:(9223372036854775808:Int)<=5^64:=by decide
 obtain⟨f1,f2,f3⟩:=JNl 64 (2*(m:Int)+1) om om;generalize hb:(fv 64 (2*(m:Int)+1)).1=b at*;generalize hr:(fv 64 (2*(m:Int)+1)).2=r at*;have hd2:d=2^a*5^b*r:=by rw[hd,f1,B0]
 by_cases h:r=1
 ·rw[if_pos h]
  rw[h,Int.mul_one]at hd2;have ha64:a<64:=ha
  have hb64:b<64:=by
   rcases Nat.lt_or_ge b 64 with h|h
   ·exact h
   ·exfalso
    have h3:(5:Int)^64<=5^b:=by obtain⟨j,rfl⟩:∃j,b=64+j:=⟨b-64,om⟩;rw[La];exact Zw (by decide) (pow_pos om j)
    have h4:(5:Int)^b<=2^a*5^b:=JHa (by have:=pow_pos (x:=5) om b;omega) pa
    omega
  rcases L5 a b with hab|hab
  ·obtain⟨j,rfl⟩:∃j,b=a+j:=⟨b-a,om⟩
   have e:=JHf a 0 j 64 n 0 om;simp only[BH,D8,Int.one_mul,AE]at e;rw[hd2,e,JKU j (64-a) n a om];have e1:max a (a+j)=a+j:=om;have e2:a+j-a=j:=om;rw[e1,e2,Dn]
   cases j with
   |zero=>rfl
   |succ j=>
    have h5:n%5≠0:=hg 5 (.inr rfl) (by
     rw[hd2,show a+(j+1)=a+j+1 by omega,Bc,<-B0];omega)
    rw[JSH _ n h5];cases zk 2 (j+1) n<;>rfl
  ·obtain⟨j,rfl⟩:∃j,a=b+j:=⟨a-b,om⟩
   have e:=JHf b j 0 64 n 0 om;simp only[BH,D8,Int.mul_one,AE]at e;rw[hd2,e,JNm j (64-b) n b om];have e1:max (b+j) b=b+j:=om;have e2:b+j-b=j:=om;rw[e1,e2,Dn]
   cases j with
   |zero=>rfl
   |succ j=>
    have h5:n%2≠0:=hg 2 (.inl rfl) (by
     rw[hd2,show b+(j+1)=b+j+1 by omega,Bc,B0,Cg 2,<-B0];omega)
    rw[JSG _ n h5];simp only[zk,Option.bind_some]
 ·rw[if_neg h,hd2]
  have hodd:r%2≠0:=by intro h0;have e:(2*(m:Int)+1)%2=1:=om;rw[f1]at e;have e2:r=2*(r/2):=om;rw[e2,Cg 2,<-B0]at e;omega
  exact yY hodd f2 om 64 a b n 0
def JGX(n d:Int):Bool:=decide (1<=d)&&n != -9223372036854775808&&Do n.natAbs d.toNat==1
def ko(n d:Int):Bool:=(n==0&&d==0)||JGX n d
def Qr(m:Int):List Int:=(Go.Lib.decDigits m.toNat).map λc=>(c.toNat:Int)
def G0(below whole:Bool)(m:Int)(p:Nat):Option (List Int):=
 if 18<(core (Qr m)).length then none else
 let t:=A0 (p+1-(Qr m).length) 48++Qr m
 some ((if below=true then[45]else[])++(t.take (t.length-p)++(if whole=true then[]else 46::(t.drop (t.length-p)++if p=0 then[48]else[]))))
def Ji(n d:Int)(whole:Bool):Option (List Int):=
 if(!(ko n d)||whole&&decide (1<d))=true then none
 else if d=0 then some (if whole=true then A0 20 57 else[49,101,57,57])
 else match ZM n.natAbs d with
  |none=>none
  |some (m,p)=>G0 (decide (n<0)) whole m p
end Go.Lift.Spell
end

section
open Go.Proofs
namespace Go.Lift.M1
variable[MX]
open Utf Tok Spell
theorem Jc{n:Int}(h0:0<=n)(h1:n<=18446744073709551615):AJ.wrap n=n:=by simp only[Ch,BW,B6];simp;omega
theorem JPf{n:Int}(h0: -9223372036854775808<=n)(h1:n<0):AJ.wrap n=n+18446744073709551616:=by simp only[Ch,BW,B6];simp;omega
section
variable{lo:Nat}{h:JC}
theorem f123{n:Int}(h0: -9223372036854775808<=n)(h1:n<=9223372036854775807):E lo 123 [.v (.int .i64 n)] h=some (.v (.int .u64 n.natAbs),h):=by
 rw[JoO];by_cases hn:n<0
 ·have q:decide (n<0)=true:=by simp[hn]
  have w1:AJ.wrap n=n+18446744073709551616:=JPf h0 hn
  have w2:AJ.wrap (0-(n+18446744073709551616))=(n.natAbs:Int):=by simp only[Ch,BW,B6];simp;omega
  simp only[go_sem,Ja9,Tryz.f123,q,w1,w2]<;>rfl
 ·have q:decide (n<0)=false:=by simp;omega
  have w1:AJ.wrap n=(n.natAbs:Int):=by rw[Jc om om];omega
  simp only[go_sem,Ja9,Tryz.f123,q,w1]<;>rfl
theorem f109{n:Int}(h0: -9223372036854775808<=n)(h1:n<=9223372036854775807):E lo 109 [.v (.int .i64 n)] h=some (.v (.int .u64 n.natAbs),h):=by
 rw[Jn9];by_cases hn:n<0
 ·have q:decide (n<0)=true:=by simp[hn]
  have w1:Aq.wrap (n+1)=n+1:=JN om om;have w2:Aq.wrap (0-(n+1))=0-(n+1):=JN om om;have w3:AJ.wrap (0-(n+1))=0-(n+1):=Jc om om;have w4:AJ.wrap (0-(n+1)+1)=(n.natAbs:Int):=by rw[Jc om om];omega
  simp only[go_sem,Ja7,Tryz.f109,q,w1,w2,w3,w4]<;>rfl
 ·have q:decide (n<0)=false:=by simp;omega
  have w1:AJ.wrap n=(n.natAbs:Int):=by rw[Jc om om];omega
  simp only[go_sem,Ja7,Tryz.f109,q,w1]<;>rfl
theorem JKV(a b:Nat):((b:Int).tmod (a:Int))=((b%a:Nat):Int):=by rw[Int.tmod_eq_emod_of_nonneg om]<;>rfl
theorem JVy:∀(m a b:Nat),a<=m->JA (evCode ⟨Aa,E,lo,h.length,JRu⟩ JA zh) ([(0,.v (.int .u64 a)),(1,.v (.int .u64 b))],h)=
  some (.exit 0,[(0,.v (.int .u64 0)),(1,.v (.int .u64 (Do a b))),(6,.v (.bool false))],h):=by
 have stop:∀b:Nat,JA (evCode ⟨Aa,E,lo,h.length,JRu⟩ JA zh) ([(0,.v (.int .u64 (0:Nat))),(1,.v (.int .u64 b))],h)=
  some (.exit 0,[(0,.v (.int .u64 0)),(1,.v (.int .u64 (Do 0 b))),(6,.v (.bool false))],h):=by
  intro b;have q:(((0:Nat):Int) !=0)=false:=rfl;rw[loop_eq,Nat.gcd_zero_left];simp only[go_sem,zh,JPc,Tryz.f160,q]<;>rfl
 intro m
 induction m with
 |zero=>
  intro a b ha;obtain rfl:a=0:=om
  exact stop b
 |succ m ih=>
  intro a b ha;by_cases h0:a=0
  ·subst h0;exact stop b
  have q:((a:Int) !=0)=true:=by simp;omega
  have z:¬((a:Int)=0):=om;have t:=JKV a b
  have er:evCode ⟨Aa,E,lo,h.length,JRu⟩ JA zh ([(0,.v (.int .u64 a)),(1,.v (.int .u64 b))],h)=some (.normal,[(0,.v (.int .u64 ((b%a:Nat):Int))),(1,.v (.int .u64 a))],h):=by simp only[go_sem,zh,JPc,Tryz.f160,q,z,t]<;>rfl
  rw[loop_eq,er,JK,ih (b%a) a (by have:=DY b (by omega:0<a);omega),Nat.gcd_rec a b]
theorem f160{a b:Nat}:E lo 160 [.v (.int .u64 a),.v (.int .u64 b)] h=some (.v (.int .u64 (Do a b)),h):=by have hL:=JVy (lo:=lo) (h:=h) a a b (Ab _);simp only[zh,JPc,Tryz.f160,JD,JT,JB,go_sem]at hL;rw[Jor];simp only[go_sem,JPc,Tryz.f160,hL]<;>rfl
theorem JVz:∀(m a b:Nat),b<=m->JA (evCode ⟨Aa,E,lo,h.length,JRs⟩ JA ze) ([(0,.v (.int .u64 a)),(1,.v (.int .u64 b))],h)=
  some (.exit 0,[(0,.v (.int .u64 (Do a b))),(1,.v (.int .u64 0)),(6,.v (.bool false))],h):=by
 have stop:∀a:Nat,JA (evCode ⟨Aa,E,lo,h.length,JRs⟩ JA ze) ([(0,.v (.int .u64 a)),(1,.v (.int .u64 (0:Nat)))],h)=
  some (.exit 0,[(0,.v (.int .u64 (Do a 0))),(1,.v (.int .u64 0)),(6,.v (.bool false))],h):=by
  intro a;have q:decide (0<((0:Nat):Int))=false:=rfl;rw[loop_eq,Nat.gcd_zero_right];simp only[go_sem,ze,JPb,Tryz.f134,q]<;>rfl
 intro m
 induction m with
 |zero=>
  intro a b ha;obtain rfl:b=0:=om
  exact stop a
 |succ m ih=>
  intro a b ha;by_cases h0:b=0
  ·subst h0;exact stop a
  have q:decide (0<(b:Int))=true:=by simp;omega
  have z:¬((b:Int)=0):=om;have t:=JKV b a
  have er:evCode ⟨Aa,E,lo,h.length,JRs⟩ JA ze ([(0,.v (.int .u64 a)),(1,.v (.int .u64 b))],h)=some (.normal,[(0,.v (.int .u64 b)),(1,.v (.int .u64 ((a%b:Nat):Int)))],h):=by simp only[go_sem,ze,JPb,Tryz.f134,q,z,t]<;>rfl
  rw[loop_eq,er,JK,ih b (a%b) (by have:=DY a (by omega:0<b);omega),Nat.gcd_comm a b,Nat.gcd_rec b a,Nat.gcd_comm (a%b) b]
theorem f134{a b:Nat}:E lo 134 [.v (.int .u64 a),.v (.int .u64 b)] h=some (.v (.int .u64 (Do a b)),h):=by have hL:=JVz (lo:=lo) (h:=h) b a b (Ab _);simp only[ze,JPb,Tryz.f134,JD,JT,JB,go_sem]at hL;rw[JoX];simp only[go_sem,JPb,Tryz.f134,hL]<;>rfl
theorem f139{n d:Int}(h0: -9223372036854775808<=n)(h1:n<=9223372036854775807)(h2:d<=9223372036854775807)(hlo:lo<=h.length):
  E lo 139 [.agg [.v (.int .i64 n),.v (.int .i64 d)]] h=some (.v (.bool (JGX n d)),h):=by
 unfold JGX;rw[Job];by_cases hd:1<=d
 rotate_left
 ·have q:decide (1<=d)=false:=by simp;omega
  rw[q];simp only[go_sem,JVo,Tryz.f139,q,Aw]<;>rfl
 have q:decide (1<=d)=true:=by simp[hd]
 by_cases hn:n= -9223372036854775808
 ·have q2:(n != -9223372036854775808)=false:=by simp[hn]
  rw[q,q2];simp only[go_sem,JVo,Tryz.f139,q,q2,Aw,BG]<;>rfl
 have q2:(n != -9223372036854775808)=true:=by simp[hn]
 have w1:AJ.wrap d=(d.toNat:Int):=by rw[Jc om om];omega
 have k1:=λlo h=>f123 (lo:=lo) (h:=h) h0 h1
 have k2:=λlo h=>f160 (lo:=lo) (h:=h) (a:=n.natAbs) (b:=d.toNat)
 have k3:((Do n.natAbs d.toNat:Int)==1)=(Do n.natAbs d.toNat==1):=by rw[CJ,beq_iff_eq,beq_iff_eq];omega
 rw[q,q2];simp only[go_sem,JVo,Tryz.f139,q,q2,w1,k1,k2,k3,hlo,AB,Cz]<;>rfl
theorem Jht:kC Aa 46=some [1,1]:=kr
theorem JbL(n d x y:Int):eqCells [1,1] [.v (.int .i64 n),.v (.int .i64 d)] [.v (.int .i64 x),.v (.int .i64 y)]=some (n==x&&d==y):=by simp[eqCells,eqS]
theorem f120{n d:Int}(h0: -9223372036854775808<=n)(h1:n<=9223372036854775807)(h2:d<=9223372036854775807)(hlo:lo<=h.length):
  E lo 120 [.agg [.v (.int .i64 n),.v (.int .i64 d)]] h=some (.v (.bool (ko n d)),h):=by
 have k:=λlo h hlo=>f139 (lo:=lo) (h:=h) h0 h1 h2 hlo
 have e:=JbL n d 0 0;have hlo2:lo<=h.length+1:=om;unfold ko;rw[JoM]
 cases q:(n==0&&d==0)with
 |true=>
  rw[q]at e
  simp only[go_sem,Ja8,Tryz.f120,Jht,e,hlo]<;>rfl
 |false=>
  rw[q]at e;have k':=k lo (h++[.cells [.v (.int .i64 n),.v (.int .i64 d)]]) (by simp;omega)
  simp only[go_sem,Ja8,Tryz.f120,Jht,e,k',hlo,Bb]<;>rfl
theorem f108{n d:Int}(h0: -9223372036854775808<=n)(h1:n<=9223372036854775807)(h2:d<=9223372036854775807)(hlo:lo<=h.length):
  E lo 108 [.agg [.v (.int .i64 n),.v (.int .i64 d)]] h=some (.v (.bool (ko n d)),h):=by
 unfold ko JGX;rw[Jn8]
 cases q0:(n==0&&d==0)with
 |true=>
  rw[Af]at q0;obtain⟨qn,qd⟩:=q0
  simp only[go_sem,JHW,Tryz.f108,qn,qd,hlo,Bool.true_or]<;>rfl
 |false=>
  rw[Bb];have k1:=λlo h=>f109 (lo:=lo) (h:=h) h0 h1
  have k2:=λlo h=>f134 (lo:=lo) (h:=h) (a:=n.natAbs) (b:=d.toNat)
  have k3:((Do n.natAbs d.toNat:Int)==1)=(Do n.natAbs d.toNat==1):=by rw[CJ,beq_iff_eq,beq_iff_eq];omega
  have main:∀b1 b2:Bool,(n==0)=b1->(d==0)=b2->(b1&&b2)=false->fin Aa [.tmp 2] h.length (evCode ⟨Aa,E,lo,h.length,Ja2⟩ JA JHW (Ku [.agg [.v (.int .i64 n),.v (.int .i64 d)]],h))=
    some (.v (.bool (decide (1<=d)&&n != -9223372036854775808&&Do n.natAbs d.toNat==1)),h):=by
   intro b1 b2 e1 e2 e3;by_cases hd:1<=d
   rotate_left
   ·have q:decide (1<=d)=false:=by simp;omega
    rw[q]
    cases b1 with
    |false=>simp only[go_sem,JHW,Tryz.f108,e1,q,hlo,Aw]
    |true=>
     cases b2 with
     |true=>cases e3
     |false=>simp only[go_sem,JHW,Tryz.f108,e1,e2,q,hlo,Aw]
   have q:decide (1<=d)=true:=by simp[hd]
   by_cases hn:n= -9223372036854775808
   ·have q2:(n != -9223372036854775808)=false:=by simp[hn]
    rw[q,q2]
    cases b1 with
    |false=>simp only[go_sem,JHW,Tryz.f108,e1,q,q2,hlo,Aw,BG]
    |true=>
     cases b2 with
     |true=>cases e3
     |false=>simp only[go_sem,JHW,Tryz.f108,e1,e2,q,q2,hlo,Aw,BG]
   have q2:(n != -9223372036854775808)=true:=by simp[hn]
   have w1:AJ.wrap d=(d.toNat:Int):=by rw[Jc om om];omega
   rw[q,q2]
   cases b1 with
   |false=>simp only[go_sem,JHW,Tryz.f108,e1,q,q2,w1,k1,k2,k3,hlo,AB,Cz]
   |true=>
    cases b2 with
    |true=>cases e3
    |false=>simp only[go_sem,JHW,Tryz.f108,e1,e2,q,q2,w1,k1,k2,k3,hlo,AB,Cz]
  exact main _ _ rfl rfl q0
end
end Go.Lift.M1
end

section
namespace Go.Lift.Spell
open Utf Tok
def KD(b:List Int):Bool:=whole b&& !b.contains 0
def Wm:List Int:=[35,36,37,38,42,43,45,46,47,60,61,62,63,64,92,94,96,124,126,33]
def H7(b:List Int):Bool:=match b with
 |[c]=>Wm.contains c||(decide (1<=c)&&decide (c<=8)||c==11||decide (14<=c)&&decide (c<=31)||c==127)
 |_=>false
def Qi(l:List Int):Bool:=match l with
 |[]=>false
 |x::t=>dig x||x==45&&(match t with
  |[]=>true
  |y::_=>dig y)
def zl(k:Int)(b:List Int)(n d:Int)(w i:Bool):Bool:=
 if k=1\/k=2\/k=3 then !b.isEmpty&&KD b&&(n==0&&d==0&& !w&& !i)
 else if k=4 then !b.isEmpty&&KD b&&(i||Qi b)&&(n==0&&d==0&& !w)
 else if k=5\/k=7 then KD b&&(n==0&&d==0&& !w&& !i)
 else if k=9 then H7 b&&(n==0&&d==0&& !w&& !i)
 else if k=12 then !b.isEmpty&&KD b&&(Ji n d w).isSome&& !i
 else if k=10\/k=11 then(Ji n d w).isSome&&(b.isEmpty&& !i)
 else decide (1<=k/\k<=24)&&(b.isEmpty&&n==0&&d==0&& !w&& !i)
theorem Zz{x:Int}(h:x<128):enc x=[x]:=by unfold enc;rw[if_pos h]
theorem ZN{x:Int}(h0:128<=x)(h1:x<=1114111):∃c t,enc x=c::t/\t≠[]/\ ∀y∈enc x,128<=y:=by
 unfold enc;rw[if_neg om]
 split
 ·exact⟨_,_,rfl,by simp,by intro y hy;simp at hy;omega⟩
 ·split
  ·exact⟨_,_,rfl,by simp,by intro y hy;simp at hy;omega⟩
  ·exact⟨_,_,rfl,by simp,by intro y hy;simp at hy;omega⟩
theorem zm:∀l:List Int,(∀x∈l,JQ x=x)->(JJ l).contains 0=l.contains 0
 |[],_=>rfl
 |x::l,h=>by
  have ih:=zm l λy hy=>h y (by simp[hy])
  have hs:=h x (by simp)
  have hb:=KO x;rw[hs]at hb;rw[KT,hs,CJ];rw[CJ]at ih;simp only[List.contains_iff_mem,List.mem_append,List.mem_cons]at ih⊢;rw[ih];by_cases h1:x<128
  ·rw[Zz h1];simp
  ·obtain⟨c,t,e,_,hh⟩:=ZN om hb.2
   constructor
   ·rintro(h0|h0)
    ·have:=hh 0 h0;omega
    ·exact .inr h0
   ·rintro(h0|h0)
    ·omega
    ·exact .inr h0
theorem JCi{b:List Int}(hy:By b)(hw:whole b=true):(WJ b).contains 0=b.contains 0:=by have h:=zm (WJ b) (JB9 b hy);rw[JCA b hy hw]at h;exact h.symm
theorem Qe{x:Int}(h:128<=x):dig x=false:=by simp[dig];omega
theorem JMb(l:List Int)(h:∀x∈l,JQ x=x):Qi (JJ l)=Qi l:=by
 cases l with
 |nil=>rfl
 |cons x t=>
  have hs:=h x (by simp)
  have hb:=KO x;rw[hs]at hb;rw[KT,hs];by_cases h1:x<128
  ·rw[Zz h1]
   simp only[Al,Ai,Qi]
   congr 2
   cases t with
   |nil=>rfl
   |cons y u=>
    have hs2:=h y (by simp)
    have hb2:=KO y;rw[hs2]at hb2;rw[KT,hs2];by_cases h2:y<128
    ·rw[Zz h2]<;>rfl
    ·obtain⟨c,v,e,_,hh⟩:=ZN om hb2.2
     rw[e];simp only[Al];rw[Qe (hh c (by rw[e];simp)),Qe (x:=y) om]
  ·obtain⟨c,v,e,_,hh⟩:=ZN om hb.2
   have hc:=hh c (by rw[e];simp)
   rw[e];simp only[Al,Qi];have e1:(x==45)=false:=by simp;omega
   have e2:(c==45)=false:=by simp;omega
   rw[Qe hc,Qe (x:=x) om,e1,e2]<;>rfl
theorem JPg{b:List Int}(hy:By b)(hw:whole b=true):Qi (WJ b)=Qi b:=by have h:=JMb (WJ b) (JB9 b hy);rw[JCA b hy hw]at h;exact h.symm
theorem JPh{b:List Int}(hy:By b):(if(WJ b).contains 0=true then false else whole b)=KD b:=by
 unfold KD
 cases hw:whole b with
 |false=>simp
 |true=>rw[JCi hy hw];cases b.contains 0<;>rfl
end Go.Lift.Spell
end

section
open Go.Proofs
namespace Go.Lift.M1
variable[MX]
open Utf Tok Spell
def bs(l:List Int):ByteArray:=⟨(Q1 l).toArray⟩
theorem bs_size(l:List Int):(bs l).size=l.length:=by simp[bs,Lx,Q1]
theorem KN(l:List Int)(a b:Nat):(bs l).extract a b=bs ((l.take b).drop a):=by
 apply DQ;simp only[bs,Ls];apply Array.toList_inj.1;rw[Array.toList_extract];simp only[List.extract,Q1,List.toList_toArray,List.map_drop,List.map_take];rw[List.take_drop];rcases L5 a b with h|h
 ·rw[Nat.add_sub_cancel' h]
 ·rw[Bo (by simp;omega),Bo (by simp;omega)]
theorem Jb(a b:List Int):bs a++bs b=bs (a++b):=by apply DQ;simp[bs,Q1]
theorem Kl{l:List Int}(hy:By l)(i:Nat):((bs l).data[i]?).map (λc=>V.v (.int .u8 c.toNat))=(l[i]?).map λc=>V.v (.int .u8 c):=by
 simp only[bs,List.getElem?_toArray,Q1,List.getElem?_map]
 cases h:l[i]? with
 |none=>rfl
 |some c=>
  have:=hy c (List.mem_of_getElem? h);simp only[Option.map_some]
  congr 4
  show((Bh c.toNat).toNat:Int)=c
  simp only[BU];omega
theorem G1(l:List Int):(bs l).toList=Q1 l:=by simp[bs,ByteArray.toList_eq]
theorem JMc:bs []=AA:=rfl
theorem WS(l:List Int):((bs l).toList==(AA).toList)=decide (l=[]):=by
 rw[<-JMc,G1,G1]
 cases l with
 |nil=>rfl
 |cons c t=>simp[Q1]
theorem By.take{l:List Int}(h:By l)(n:Nat):By (l.take n):=λc hc=>h c (List.mem_of_mem_take hc)
theorem By.drop{l:List Int}(h:By l)(n:Nat):By (l.drop n):=λc hc=>h c (List.mem_of_mem_drop hc)
theorem jZ(l:List Int)(c:Int):core (l++[c])=if c=48 then core l else l++[c]:=by
 unfold core;rw[List.reverse_append];simp only[List.reverse_cons,List.reverse_nil,Ai,Al,List.dropWhile_cons,beq_iff_eq]
 split<;>simp
theorem QT{l:List Int}(hy:By l):KP (bs l)=ri .u8 l:=by
 unfold KP bs Q1 ri;simp only[Cn];apply A4;intro c hc;have:=hy c hc;simp only[Function.comp]
 congr 4
 show((Bh c.toNat).toNat:Int)=c
 simp only[BU];omega
theorem JbM(m:Int):(⟨(Go.Lib.decDigits m.toNat).toArray⟩:ByteArray)=bs (Qr m):=by
 unfold bs Qr Q1
 congr 2
 rw[Cn]
 conv=>lhs;rw[<-List.map_id (Go.Lib.decDigits m.toNat)]
 apply A4;intro c _;simp
theorem JKW(c:UInt8):∀n:Nat,Go.Lib.repeatL [c] n=A0 n c
 |0=>rfl
 |n+1=>by rw[Go.Lib.repeatL,JKW c n]<;>rfl
theorem JbN(c:UInt8)(n:Nat):(⟨(Go.Lib.repeatL [c] n).toArray⟩:ByteArray)=bs (A0 n (c.toNat:Int)):=by
 rw[JKW];unfold bs Q1
 congr 2
 rw[List.map_replicate];simp
theorem JbO{l:List Int}(hy:By l){c:Int}(h0:0<=c)(h1:c<=255):decide (0<=Go.Lib.indexByte (bs l).data.toList c.toNat.toUInt8)=l.contains c:=by
 unfold bs;simp only
 induction l with
 |nil=>rfl
 |cons x t ih=>
  have hx:=hy x (by simp)
  have ih:=ih λy hy2=>hy y (by simp[hy2])
  have hge:=Go.Lib.indexByte_ge (Q1 t) c.toNat.toUInt8;simp only[Q1,List.map_cons,Go.Lib.indexByte,List.contains_cons]at ih hge⊢
  have e:(Bh x.toNat==c.toNat.toUInt8)=(c==x):=by
   rw[CJ,beq_iff_eq,beq_iff_eq]
   constructor
   ·intro h
    have h2:=congrArg Cj h;simp only[BU,Nat.toUInt8_eq]at h2;omega
   ·rintro rfl
    rfl
  rw[e]
  cases c==x with
  |true=>rw[if_pos rfl];simp
  |false=>
   rw[if_neg (by simp),Bb,<-ih]
   by_cases h:Go.Lib.indexByte (Cy (λn=>Bh n.toNat) t) c.toNat.toUInt8= -1
   ·rw[if_pos (by simpa using h)]
    refine decide_eq_decide.2 ⟨λh9=>by omega,λh9=>?_⟩
    have h8:0<=Go.Lib.indexByte (Cy (λn=>Bh n.toNat) t) c.toNat.toUInt8:=h9
    omega
   ·rw[if_neg (by simpa using h)]
    refine decide_eq_decide.2 ⟨λh9=>?_,λh9=>?_⟩
    ·show 0<=Go.Lib.indexByte (Cy (λn=>Bh n.toNat) t) c.toNat.toUInt8
     omega
    ·have h8:0<=Go.Lib.indexByte (Cy (λn=>Bh n.toNat) t) c.toNat.toUInt8:=h9
     omega
theorem JSK:core []=[]:=rfl
theorem JV0{lo:Nat}{h:JC}:∀(m:Nat) (l:List Int),l.length=m->By l->l.length<=100000000000->
  JA (evCode ⟨Aa,E,lo,h.length,JVd⟩ JA zf) ([(0,.v (.string (bs l))),(1,.v (.int .u8 48))],h)=
   some (.exit 0,[(0,.v (.string (bs (core l)))),(1,.v (.int .u8 48)),(16,.v (.bool false))],h):=by
 intro m
 induction m with
 |zero=>
  intro l hm hy hl;obtain rfl:=AC hm;have hd:decide ((0:Int)<0)=false:=rfl;rw[loop_eq]
  simp only[go_sem,zf,JMV,Tryz.f144,bs_size,hd,JSK]
 |succ m ih=>
  intro l hm hy hl
  obtain⟨t,c,rfl⟩:∃t c,l=t++[c]:=by
   rcases List.eq_nil_or_concat l with h|⟨t,c,h⟩
   ·rw[h]at hm;cases hm
   ·exact⟨t,c,by simpa using h⟩
  have hsz:(t++[c]).length=t.length+1:=by simp
  have htm:t.length=m:=om;have hd:decide ((0:Int)<((t.length+1:Nat):Int))=true:=by simp
  have hc:(t++[c])[t.length]? =some c:=by simp
  have hw:Aq.wrap (((t.length+1:Nat):Int)-1)=(t.length:Int):=by rw[JN om om];omega
  have hix:=Kl hy t.length;rw[hc]at hix;have htk:(t++[c]).take t.length=t:=by simp
  rw[loop_eq,jZ]
  cases hb:(c==48)with
  |false=>
   rw[if_neg (by simpa using hb)]
   simp only[go_sem,zf,JMV,Tryz.f144,bs_size,hsz,hd,hw,hix,hb]
  |true=>
   rw[if_pos (by simpa using hb)]
   have h1:t.length<=t.length+1:=om
   have e:evCode ⟨Aa,E,lo,h.length,JVd⟩ JA zf ([(0,.v (.string (bs (t++[c])))),(1,.v (.int .u8 48))],h)=some (.normal,[(0,.v (.string (bs t))),(1,.v (.int .u8 48))],h):=by simp only[go_sem,zf,JMV,Tryz.f144,bs_size,hsz,hd,hw,hix,hb,h1,Nat.zero_le,KN,htk]
   rw[e,JK];exact ih t htm (λx hx=>hy x (by simp[hx])) om
theorem f144{lo:Nat}{l:List Int}{h:JC}(hy:By l)(hl:l.length<=100000000000):E lo 144 [.v (.string (bs l)),.v (.int .u8 48)] h=some (.v (.string (bs (core l))),h):=by have hL:=JV0 (lo:=lo) (h:=h) l.length l rfl hy hl;rw[Joc];simp only[zf,JMV,Tryz.f144,JD,JT,JB,go_sem]at hL;simp only[go_sem,JMV,Tryz.f144,hL]
theorem Ky(l:List Int):((bs l).toList==(⟨#[]⟩:ByteArray).toList)=decide (l=[]):=WS l
theorem Jhu:((⟨#[48]⟩:ByteArray).toList==(⟨#[]⟩:ByteArray).toList)=false:=(Ky [48]).trans (by simp)
theorem f125{lo:Nat}{l:List Int}{h:JC}(hy:By l)(hl:l.length<=100000000000):E lo 125 [.v (.string (bs l)),.v (.string ⟨#[48]⟩)] h=some (.v (.string (bs (core l))),h):=by
 rw[JoQ]
 cases l with
 |nil=>
  have t1:=Ky [];simp only[decide_true]at t1;simp only[go_sem,JbA,Tryz.f125,t1]
  rfl
 |cons c t=>
  have t1:=Ky (c::t);rw[decide_eq_false (by simp)]at t1
  have t2:((1:Nat):Int)=1:=rfl;have t3:((1:Int)==1)=true:=rfl;have t4:decide ((48:Int)<128)=true:=rfl;have t5:((Cj 48:Nat):Int)=48:=rfl;have t6:(⟨#[48]⟩:ByteArray).size=1:=rfl;simp only[go_sem,JbA,Tryz.f125,t1,Jhu,t2,t3,t4,t5,t6,f144 hy hl]
section
variable{lo:Nat}{h:JC}
theorem Jhv[HasD]{x:Int}(h0:0<=x)(h1:x<18446744073709551616):E lo 143 [.v (.int .u64 x)] h=some (.v (.int .i64 (Go.Lib.ctz 64 x.toNat)),h):=by
 show ev Aa hints primz lo 143 _ h=_
 rw[W6 (p:=JPQ) (by show(if MX.d=true then some JPQ else none)=some JPQ;rw[if_pos HasD.h])]
 unfold JPQ;simp only;rw[if_pos ⟨h0,h1⟩]
theorem Jhw{c:UInt8}{n:Int}(h0:0<=n)(h1:n<=1000000):E lo 121 [.v (.string ⟨#[c]⟩),.v (.int .i64 n)] h=some (.v (.string (bs (A0 n.toNat (c.toNat:Int)))),h):=by
 show ev Aa hints primz lo 121 _ h=_
 rw[W6 (p:=JVX) rfl];unfold JVX;simp only;rw[if_pos ⟨rfl,h0,h1⟩];rw[<-JbN]
theorem Jo3[HasN]{x:Int}(h0:0<=x)(h1:x<18446744073709551616):E lo 110 [.v (.int .u64 x),.v (.int .i64 10)] h=some (.v (.string (bs (Qr x))),h):=by
 show ev Aa hints primz lo 110 _ h=_
 rw[W6 (p:=JPR) (by show(if MX.n=true then some JPR else none)=some JPR;rw[if_pos HasN.h])]
 unfold JPR;simp only;rw[if_pos ⟨trivial,h0,h1⟩,JbM]
theorem JV1{c:Int}:(bs [c]).data.toList=[c.toNat.toUInt8]:=rfl
theorem Jo4{l:List Int}(hy:By l){c:Int}(h0:0<=c)(h1:c<=255):
  E lo 126 [.v (.string (bs l)),.v (.string (bs [c]))] h=some (.v (.int .i64 (Go.Lib.indexByte (bs l).data.toList c.toNat.toUInt8)),h):=by
 show ev Aa hints primz lo 126 _ h=_
 rw[W6 (p:=ixP) rfl];unfold ixP;simp only[JV1]
theorem f99{l:List Int}(hy:By l){c:Int}(h0:0<=c)(h1:c<=255):
  E lo 99 [.v (.string (bs l)),.v (.string (bs [c]))] h=some (.v (.int .i64 (Go.Lib.indexByte (bs l).data.toList c.toNat.toUInt8)),h):=by
 rw[e99];simp only[go_sem,b99,Tryz.f99,Jo4 hy h0 h1]<;>rfl
theorem f73{l:List Int}(hy:By l){c:Int}(h0:0<=c)(h1:c<=255):
  E lo 73 [.v (.string (bs l)),.v (.string (bs [c]))] h=some (.v (.bool (l.contains c)),h):=by
 rw[e73];have t:=JbO hy h0 h1;simp only[go_sem,b73,Tryz.f73,f99 hy h0 h1,t]<;>rfl
end
end Go.Lift.M1
end
