/- jalousieref5.decl: is it important, is it too deep? -/
import Derived.Test.YtppjlemmgpnliaaGreatDoorGKa
import Derived.Test.YtppjlemmgpnliaaGreatDoorGKg
import Derived.Test.YtppjlemmgpnliaaGreatDoorGKh
open Bool renaming and_eq_true->Af,and_false->BG,and_self->B3,false_and->Aw,false_eq_true->Am,false_or->Bb,not_false->DH,not_true->Dt,or_eq_true->A7,true_and->AB
open ByteArray renaming empty->AA
open Go.IntKind renaming i64->Aq
open Go.Proofs.Tryz renaming prog->Aa
open List renaming append_assoc->Ao,append_nil->Av,cons_append->Al,dropWhile_cons->A5,dropWhile_suffix->AR,drop_drop->AV,drop_one->Lg,drop_suffix->Mo,drop_zero->Az,getElem?_drop->Bm,getElem?_eq_some_iff->Ad,getElem?_map->Ax,length->AW,length_append->Ah,length_cons->Ae,length_drop->Ay,length_map->Ag,length_nil->An,length_set->Ca,length_tail->Ln,map_nil->CB,mem_append->AN,mem_cons_of_mem->Bt,mem_of_getElem? ->Ar,mem_of_mem_drop->BI,mem_singleton->Bp,nil_append->Ai,nil_suffix->Mt,not_mem_nil->Cc,reverse_cons->BS,set_set->C9,suffix_cons->Dr,suffix_refl->Mp,tail_suffix->DU,takeWhile_append_dropWhile->Co,takeWhile_cons->Dz,takeWhile_prefix->Bw,take_length->BD
open Nat renaming le_refl->Ab,le_succ->Ma,le_trans->AY,zero_add->AE,zero_le->A9
set_option linter.unusedVariables false
set_option linter.unusedSimpArgs false
set_option linter.unusedSectionVars false
set_option maxRecDepth 20000
set_option maxHeartbeats 4000000
section
open Go.Proofs
namespace Go.Lift.M1
open Rul
open Utf (By)
variable[MX]
variable{lo:Nat}{h:JC}
abbrev YY:Ob:= .cells [.v (.string AA),.list .yes [],.v (.bool false)]
theorem JcJ{n:List Int}{v:List CV}{i:Bool}{ex:Jj}(hlo:lo<=h.length)(hy:By n)(hl:n.length<=1000000000)(hv:JO v<=1000000000):
  evCode ⟨Aa,E,lo,h.length,h52⟩ JA (rgt 7 b52) ((2,.ptr h.length 0)::(4,.ptr (h.length+1) 0)::(6,.list .no (JL v))::ex,h++[YY,.cells [.v (.string (Rul.bs n)),.list .yes [],.v (.bool i)]])=
   if Js 64 v=true then some (.ret,[(2,.ptr h.length 0),(3,.v (.bool false))],h++[YY,.cells [.v (.string (Rul.bs n)),.list .yes [],.v (.bool i)]])
   else some (.ret,[(2,.ptr h.length 0),(3,.v (.bool true))],h++[.cells [.v (.string (Rul.bs (nameOf n))),.list .no (JL v),.v (.bool i)],.cells [.v (.string (Rul.bs (nameOf n))),.list .no (JL v),.v (.bool i)]]):=by
 have l1:lo<=h.length+1:=om;have c29:=f29 (lo:=lo) (h:=h++[YY,.cells [.v (.string (Rul.bs n)),.list .yes [],.v (.bool i)]]) (l:=v) (by simp;omega) om
 have hn:=JcH (lo:=lo) (h:=h) (n:=n) (i:=i) (R:=JL v) (ex:=[]) hlo hy hl;simp only[rgt,b52,Tryz.f52,JB,Option.getD_some]at hn;generalize JL v=R at*
 cases hd:Js 64 v with
 |true=>
  rw[hd]at c29;rw[if_pos rfl]
  simp only[go_sem,YY,rgt,b52,Tryz.f52,hlo,l1,c29]<;>rfl
 |false=>
  rw[hd]at c29;rw[if_neg (by simp)]
  simp only[go_sem,YY,rgt,b52,Tryz.f52,hlo,l1,c29,↓hn]
theorem JCy(l:List CV):JO (impOf l).1<=JO l:=by
 unfold impOf
 split
 ·rename_i x y r e
  split
  ·split
   ·rename_i z s e2
    split
    ·show JO (trim s.reverse)<=_
     have h1:=Z0 s.reverse;rw[ZZ]at h1;have h2:JO (z::s)<=JO (y::r):=by rw[<-e2];exact Kr (AR _)
     rw[J5]at h2;have h3:JO l=JO (x::y::r):=by rw[<-e,ZZ]
     rw[J5]at h3;omega
    ·exact Ab _
   ·exact Ab _
  ·exact Ab _
 ·exact Ab _
theorem JTQ(u:List CV)(x:CV)(hu:u≠[]):impOf (u++[x])=if(x.k==1&&KR x.t.b==Qx)=true then(match u.reverse.dropWhile J3 with
  |z::s=>if(z.k==9&&z.t.b==[33])=true then(trim s.reverse,true)else(u++[x],false)
  |[]=>(u++[x],false))else(u++[x],false):=by
 unfold impOf;have e:(u++[x]).reverse=x::u.reverse:=by simp
 obtain⟨y,r,hr⟩:∃y r,u.reverse=y::r:=by
  cases hh:u.reverse with
  |nil=>exact absurd (List.reverse_eq_nil_iff.1 hh) hu
  |cons y r=>exact⟨y,r,rfl⟩
 rw[e,hr]<;>rfl
theorem JKx{u m:List CV}(h:ltrim (u++m)=u++m):ltrim u=u:=by
 cases u with
 |nil=>rfl
 |cons a u=>
  have ha:J3 a=false:=by
   cases hs:J3 a with
   |false=>rfl
   |true=>exfalso;unfold ltrim at h;rw[Al,A5,hs,if_pos rfl]at h;have:=(AR (p:=J3) (l:=u++m)).length_le;rw[h]at this;simp at this;omega
  unfold ltrim;rw[A5,ha]<;>rfl
theorem JMx(l:List CV):ltrim (trim l)=trim l:=by rw[yQ,Hz,JKB]
def BtV(v:CV):Prop:=BtT v.t
theorem JiB{n:List Int}{v:List CV}(hlo:lo<=h.length)(hb:∀x∈v,BtV x)(hl:v.length<=1000000000)(ht:ltrim v=v):
  ∃ex,evCode ⟨Aa,E,lo,h.length,h52⟩ JA (lft (rgt 6 b52)) ([(2,.ptr h.length 0),(4,.ptr (h.length+1) 0),(6,.list .no (JL v))],h++[YY,.cells [.v (.string (Rul.bs n)),.list .yes [],.v (.bool false)]])=
   some (.normal,(2,.ptr h.length 0)::(4,.ptr (h.length+1) 0)::(6,.list .no (JL (impOf v).1))::ex,h++[YY,.cells [.v (.string (Rul.bs n)),.list .yes [],.v (.bool (impOf v).2)]]):=by
 have l1:lo<=h.length+1:=om;have hlh:∀X:Ob,lo<=(h++[YY,X]).length:=λX=>by simp;omega
 rcases List.eq_nil_or_concat v with rfl|⟨u,x,rfl⟩
 ·have q:decide ((1:Int)<((0:Nat):Int))=false:=rfl
  have ei:impOf []=([],false):=rfl;rw[ei];refine⟨[(7,.v (.int .i64 0)),(64,.v (.bool false))],?_⟩
  simp only[go_sem,YY,lft,rgt,b52,Tryz.f52,hlo,l1,q,Jt,An]
 ·simp only[List.concat_eq_append]at*
  have hlen:(u++[x]).length=u.length+1:=by simp
  have rl:(JL (u++[x])).length=u.length+1:=by rw[JP,hlen]
  by_cases hu:u=[]
  ·subst hu
   have q:decide ((1:Int)<((0+1:Nat):Int))=false:=rfl;have ei:impOf ([]++[x])=([x],false):=rfl;rw[ei];refine⟨[(7,.v (.int .i64 1)),(64,.v (.bool false))],?_⟩
   simp only[Ai,An,AE]at rl q⊢;generalize JL [x]=R at*;simp only[go_sem,YY,lft,rgt,b52,Tryz.f52,hlo,l1,q,rl]<;>rfl
  ·have hup:0<u.length:=List.length_pos_iff.2 hu
   have q:decide ((1:Int)<((u.length+1:Nat):Int))=true:=by rw[decide_eq_true_iff];omega
   have w1:Aq.wrap (((u.length+1:Nat):Int)-1)=(u.length:Int):=by rw[JN om om];omega
   have hg:(JL (u++[x]))[u.length]? =some (Qa x):=by rw[Ks];simp
   have htk:(JL (u++[x])).take u.length=JL u:=by rw[Wx,List.take_left]
   have ra:=QA (u++[x]);have hle:u.length<=u.length+1:=Ma _;have hbx:=hb x (by simp)
   have htu:=JKx ht;have ei:=JTQ u x hu;have hum:∀y∈u,BtV y:=λy hy=>hb y (by simp[hy])
   obtain⟨t,ks⟩:=x;rw[Jr]at hg;have c30:=λX=>f30 (lo:=lo) (h:=h++[YY,.cells X]) (l:=u) (hlh _) om
   generalize hR:JL (u++[CV.mk t ks])=R at*
   have ei:impOf (u++[CV.mk t ks])=if(t.k==1&&KR t.b==Qx)=true then(match u.reverse.dropWhile J3 with
     |z::s=>if(z.k==9&&z.t.b==[33])=true then(trim s.reverse,true)else(u++[CV.mk t ks],false)
     |[]=>(u++[CV.mk t ks],false))else(u++[CV.mk t ks],false):=ei
   cases hk:(t.k==1)with
   |false=>
    rw[hk,Aw,if_neg (by simp)]at ei
    rw[ei];simp only[hR];refine⟨[(7,.v (.int .i64 (u.length+1:Nat))),(64,.v (.bool false))],?_⟩
    simp only[go_sem,YY,lft,rgt,b52,Tryz.f52,hlo,l1,q,w1,rl,hg,hk]<;>rfl
   |true=>
    rw[hk,AB]at ei;have c98:=λX=>r87 (lo:=lo) (h:=h++[YY,.cells X]) (a:=t.b) (b:=Qx) (hlh _) (by have:=hbx.2;show t.b.length<=_;exact AY this (by decide)) hbx.1 (by decide) JH4
    have esi:KR Qx=Qx:=rfl;rw[esi]at c98
    cases hi:(KR t.b==Qx)with
    |false=>
     rw[hi,if_neg (by simp)]at ei
     rw[ei];simp only[hR];rw[hi]at c98;refine⟨[(7,.v (.int .i64 (u.length+1:Nat))),(64,.v (.bool false))],?_⟩
     simp only[go_sem,YY,lft,rgt,b52,Tryz.f52,hlo,l1,q,w1,rl,hg,hk,YO,c98]<;>rfl
    |true=>
     rw[hi,if_pos rfl]at ei;rw[hi]at c98;have etr:trim u=(u.reverse.dropWhile J3).reverse:=by rw[yQ,htu]<;>rfl
     cases hz:u.reverse.dropWhile J3 with
     |nil=>
      rw[hz]at etr;have e0:trim u=[]:=etr;rw[e0,Jt]at c30;have q0:decide ((0:Int)<((0:Nat):Int))=false:=rfl;rw[hz]at ei;simp only at ei;rw[ei];simp only[hR];refine⟨[(8,.list .no []),(9,.v (.int .i64 0)),(93,.v (.bool false))],?_⟩
      simp only[go_sem,YY,lft,rgt,b52,Tryz.f52,hlo,l1,A9,q,q0,w1,rl,hg,hk,hle,htk,ra,YO,c98,c30,An]<;>rfl
     |cons z s=>
      rw[hz,BS]at etr
      have hzm:z∈u:=by
       have:z∈u.reverse:=(AR J3).subset (by rw[hz];simp)
       simpa using this
      have hsl:s.length+1<=u.length:=by have:=(AR (p:=J3) (l:=u.reverse)).length_le;rw[hz]at this;simpa using this
      have hbz:=hum z hzm;rw[etr]at c30;have rl2:(JL (s.reverse++[z])).length=s.length+1:=by rw[JP];simp
      have hg2:(JL (s.reverse++[z]))[s.length]? =some (Qa z):=by rw[Ks];simp
      have htk2:(JL (s.reverse++[z])).take s.length=JL s.reverse:=by rw[Wx,List.take_left' (by simp)]
      have ra2:=QA (s.reverse++[z]);have hle2:s.length<=s.length+1:=Ma _;have q2:decide ((0:Int)<((s.length+1:Nat):Int))=true:=by rw[decide_eq_true_iff];omega
      have w2:Aq.wrap (((s.length+1:Nat):Int)-1)=(s.length:Int):=by rw[JN om om];omega
      have c30b:=λX=>f30 (lo:=lo) (h:=h++[YY,.cells X]) (l:=s.reverse) (hlh _) (by rw[List.length_reverse];omega)
      obtain⟨tz,kz⟩:=z;rw[Jr]at hg2;generalize hR2:JL (s.reverse++[CV.mk tz kz])=R2 at*;have hbe:=yi hbz.1 JWw;have hbe:((Rul.bs tz.b).toList==(Rul.bs [33]).toList)=(tz.b==[33]):=hbe;rw[hz]at ei;have ei:impOf (u++[CV.mk t ks])=if(tz.k==9&&tz.b==[33])=true then(trim s.reverse,true)else(u++[CV.mk t ks],false):=ei
      cases hk9:(tz.k==9)with
      |false=>
       rw[hk9,Aw,if_neg (by simp)]at ei
       rw[ei];simp only[hR];refine⟨[(8,.list .no R2),(9,.v (.int .i64 (s.length+1:Nat))),(93,.v (.bool false))],?_⟩
       simp only[go_sem,YY,lft,rgt,b52,Tryz.f52,hlo,l1,A9,q,q2,w1,w2,rl,rl2,hg,hg2,hk,hk9,hle,htk,ra,YO,c98,c30]<;>rfl
      |true=>
       rw[hk9,AB]at ei
       cases hb33:(tz.b==[33])with
       |false=>
        rw[hb33]at hbe;rw[hb33,if_neg (by simp)]at ei
        rw[ei];simp only[hR];refine⟨[(8,.list .no R2),(9,.v (.int .i64 (s.length+1:Nat))),(93,.v (.bool false))],?_⟩
        simp only[go_sem,YY,lft,rgt,b52,Tryz.f52,hlo,l1,A9,q,q2,w1,w2,rl,rl2,hg,hg2,hk,hk9,hle,htk,ra,YO,JTK,hbe,c98,c30]<;>rfl
       |true=>
        rw[hb33]at hbe;rw[hb33,if_pos rfl]at ei;rw[ei];simp only;refine⟨[(7,.undef),(64,.undef)],?_⟩
        simp only[go_sem,YY,lft,rgt,b52,Tryz.f52,hlo,l1,A9,q,q2,w1,w2,rl,rl2,hg,hg2,hk,hk9,hle,hle2,htk,htk2,ra,ra2,YO,JTK,hbe,c98,c30,c30b]<;>rfl
theorem f52{x:CV}{m:List CV}(hlo:lo<=h.length)(hb:∀y∈x::m,BtV y)(hl:JO (x::m)<=1000000000):E lo 52 [.list .no (JL (x::m))] h=some (dcR (Z8 (x::m)),h):=by
 have l1:lo<=h.length+1:=om;have hll:=Jq (x::m);rw[J5]at hl;simp only[Ae]at hll;have hbx:=hb x (by simp)
 have hbm:∀y∈m,BtV y:=λy hy=>hb y (by simp[hy])
 have hml:=Jq m;have c30:=λX=>f30 (lo:=lo) (h:=h++[YY,.cells X]) (l:=m) (by simp;omega) om
 have ts:=JPO m;obtain⟨t,ks⟩:=x;have hrl:(JL (.mk t ks::m)).length=m.length+1:=by rw[JP]<;>rfl
 have hr0:(JL (.mk t ks::m))[0]? =some (Qa (.mk t ks)):=by rw[QL]<;>rfl
 have hr1:(JL (.mk t ks::m)).drop 1=JL m:=by rw[QL]<;>rfl
 have htk:(JL (.mk t ks::m)).take (m.length+1)=JL (.mk t ks::m):=by rw[<-hrl,BD]
 have ra:=QA (.mk t ks::m);have h1l:1<=m.length+1:=om;rw[Jr]at hr0
 have ed:Z8 (.mk t ks::m)=if(t.k !=1)=true then none else
  match ltrim m with
  |[]=>none
  |c::r=>if(c.k !=16)=true then none else if Js 64 r=true then none else
   some ⟨nameOf t.b,(impOf (trim r)).1,(impOf (trim r)).2⟩:=by
  rw[Z8]<;>rfl
 rw[ed]
 have ez:Jv zd=[.v (.string AA),.list .no [],.v (.bool false)]:=by have e0:Rul.bs []=AA:=rfl;simp only[Jv,zd,e0,Jt]
 generalize JL (.mk t ks::m)=R at*;rw[e52]
 cases hk:(t.k !=1)with
 |true=>
  rw[if_pos rfl];simp only[dcR,ez]
  simp only[go_sem,b52,Tryz.f52,hlo,l1,hr0,hk]<;>rfl
 |false=>
  rw[if_neg (by simp)]
  cases hm:ltrim m with
  |nil=>
   rw[hm]at ts;rw[ts,Jt]at c30;have q0:(((0:Nat):Int)==0)=true:=rfl;simp only[dcR,ez];simp only[YY]at c30
   simp only[go_sem,b52,Tryz.f52,hlo,l1,hr0,hr1,hrl,htk,ra,h1l,hk,c30,q0,An]<;>rfl
  |cons c r=>
   rw[hm]at ts;obtain⟨q,tq,tr⟩:=ts;have hcm:c∈m:=JJ9 (p:=J3) (by show c∈ltrim m;rw[hm];simp)
   have hqm:∀y∈q,y∈m:=λy hy=>Hy (by rw[tq];simp[hy])
   have hql:JO (c::q)<=JO m:=by rw[<-tq];exact Z0 m
   rw[J5]at hql;have hqn:=Jq q;rw[tq]at c30;have c30b:=λX=>f30 (lo:=lo) (h:=h++[YY,.cells X]) (l:=q) (by simp;omega) om
   rw[tr]at c30b;obtain⟨tc,kc⟩:=c;have hql2:(JL (.mk tc kc::q)).length=q.length+1:=by rw[JP]<;>rfl
   have hq0:(JL (.mk tc kc::q))[0]? =some (Qa (.mk tc kc)):=by rw[QL]<;>rfl
   have hq1:(JL (.mk tc kc::q)).drop 1=JL q:=by rw[QL]<;>rfl
   have hqt:(JL (.mk tc kc::q)).take (q.length+1)=JL (.mk tc kc::q):=by rw[<-hql2,BD]
   have raq:=QA (.mk tc kc::q);have q1l:1<=q.length+1:=om;have q0:(((q.length+1:Nat):Int)==0)=false:=by rw[beq_eq_false_iff_ne];omega
   rw[Jr]at hq0;generalize JL (.mk tc kc::q)=Q at*;simp only;show _=some (dcR (if(tc.k !=16)=true then none else _),h)
   cases hc16:(tc.k !=16)with
   |true=>
    rw[if_pos rfl];simp only[dcR,ez];simp only[YY]at c30
    simp only[go_sem,b52,Tryz.f52,hlo,l1,hr0,hr1,hrl,htk,ra,h1l,hk,c30,q0,hql2,hq0,hc16]<;>rfl
   |false=>
    rw[if_neg (by simp)]
    have hvb:∀y∈trim r,BtV y:=λy hy=>by rw[<-tr]at hy;exact hbm y (hqm y (Hy hy))
    have hvn:JO (trim r)<=JO q:=by rw[<-tr];exact Z0 q
    have hvl:=Jq (trim r);obtain⟨ex,hI⟩:=JiB (lo:=lo) (h:=h) (n:=t.b) (v:=trim r) hlo hvb om (JMx r);have hT:=JcJ (lo:=lo) (h:=h) (n:=t.b) (v:=(impOf (trim r)).1) (i:=(impOf (trim r)).2) (ex:=ex) hlo hbx.1 hbx.2 (by have:=JCy (trim r);omega)
    rw[JRj,JGM]at hT;simp only[lft,rgt,b52,Tryz.f52,JB,Option.getD_some,YY]at hI hT;simp only[YY]at c30 c30b
    cases hdp:Js 64 r with
    |true=>
     rw[hdp,if_pos rfl]at hT;rw[if_pos rfl];simp only[dcR,ez]
     simp only[go_sem,b52,Tryz.f52,hlo,l1,hr0,hr1,hrl,htk,ra,h1l,hk,c30,q0,hql2,hq0,hq1,hqt,raq,q1l,hc16,c30b,↓hI,↓hT]<;>rfl
    |false=>
     rw[hdp,if_neg (by simp)]at hT
     rw[if_neg (by simp)]
     simp only[dcR,Jv];generalize JL (impOf (trim r)).1=W at*;simp only[go_sem,b52,Tryz.f52,hlo,l1,hr0,hr1,hrl,htk,ra,h1l,hk,c30,q0,hql2,hq0,hq1,hqt,raq,q1l,hc16,c30b,↓hI,↓hT]<;>rfl
abbrev N50(l:List CV)(out:List Dc)(i:Nat):Jj:=[(0,.list .no (JL l)),(3,.list .yes (out.map Jv)),(4,.v (.int .i64 i))]
theorem JcK{n:Nat}(h:n<=1000000000):(n+1)*48<=140737488355328:=om
theorem qM{α:Type}(l:List α)(i:Nat)(f:α->Bool):(l.take (i+((l.drop i).takeWhile f).length)).drop i=(l.drop i).takeWhile f:=by rw[List.drop_take,Nat.add_sub_cancel_left];exact(List.prefix_iff_eq_take.1 (Bw f)).symm
theorem G9{α:Type}(l:List α)(i:Nat)(f:α->Bool):l.drop (i+((l.drop i).takeWhile f).length)=(l.drop i).dropWhile f:=by
 rw[<-AV];have h:(l.drop i).takeWhile f++(l.drop i).dropWhile f=l.drop i:=Co;generalize l.drop i=m at*
 conv=>lhs;rw[<-h]
 rw[List.drop_left'];rw[h]
theorem JW2{l:List CV}{out:List Dc}{i:Nat}{v:CV}{r:List CV}{X:JC}(hlo:lo<=h.length)(hl:JO l<=1000000000)(ho:out.length<=1000000000)(hd:l.drop i=v::r)(hB:∀y∈l,BtV y):
  ∃X',evCode ⟨Aa,E,lo,h.length,h31⟩ JA jz (N50 l out i,h++X)=some (.normal,
   (
    if(v.k==13||v.k==17)=true then N50 l out (i+1)
    else if(v.k==3)=true then N50 l out (i+((v::r).takeWhile (J4 17 23)).length+1)
    else N50 l (out++(Z8 ((v::r).takeWhile (J4 17 17))).toList) (i+((v::r).takeWhile (J4 17 17)).length)),h++X'):=by
 have hll:=Jq l
 have hlt:i<l.length:=by
  rcases Nat.lt_or_ge i l.length with hi|hi
  ·exact hi
  ·rw[List.drop_eq_nil_of_le hi]at hd;cases hd
 have hg:l[i]? =some v:=by
  have:=Bm (xs:=l) (i:=i) (j:=0)
  rw[hd]at this;simpa using this.symm
 have hgr:(JL l)[i]? =some (Qa v):=by rw[Ks,hg]<;>rfl
 have q:decide ((i:Int)<(l.length:Int))=true:=by simpa using hlt
 have hw:=JH (i:=i) om;have rl:=JP l
 have htw:∀f,((l.drop i).takeWhile f).length<=l.length:=λf=>by have:=(Bw f (l:=l.drop i)).length_le;rw[Ay]at this;omega
 have c27:=λa b=>f27 (lo:=lo) (h:=h) (l:=l) (i:=i) (a:=a) (b:=b) hlo om om
 by_cases h1:(v.k==13)=true
 ·rw[if_pos (by rw[h1]<;>rfl)]
  refine⟨[],?_⟩
  obtain⟨t,ks⟩:=v;have h1:(t.k==13)=true:=h1;rw[Jr]at hgr;simp only[N50];generalize JL l=R at*;simp only[N50,go_sem,jz,b31,Tryz.f31,hlo,q,hgr,hw,rl,h1,Av]<;>rfl
 have h1:(v.k==13)=false:=by simpa using h1
 by_cases h2:(v.k==17)=true
 ·rw[if_pos (by rw[h2];simp)]
  refine⟨[],?_⟩
  obtain⟨t,ks⟩:=v;have h1:(t.k==13)=false:=h1;have h2:(t.k==17)=true:=h2;rw[Jr]at hgr;simp only[N50];generalize JL l=R at*;simp only[N50,go_sem,jz,b31,Tryz.f31,hlo,q,hgr,hw,rl,h1,h2,Av]<;>rfl
 have h2:(v.k==17)=false:=by simpa using h2
 rw[if_neg (by rw[h1,h2];simp)]
 by_cases h3:(v.k==3)=true
 ·rw[if_pos h3]
  refine⟨[],?_⟩
  have c:=c27 17 23;have hx:=htw (J4 17 23);rw[hd]at c hx;have hw2:Aq.wrap (((i+((v::r).takeWhile (J4 17 23)).length:Nat):Int)+1)=((i+((v::r).takeWhile (J4 17 23)).length+1:Nat):Int):=JH om;generalize ((v::r).takeWhile (J4 17 23)).length=n at*;obtain⟨t,ks⟩:=v;have h1:(t.k==13)=false:=h1;have h2:(t.k==17)=false:=h2;have h3:(t.k==3)=true:=h3
  rw[Jr]at hgr;simp only[N50];generalize JL l=R at*;simp only[N50,go_sem,jz,b31,Tryz.f31,hlo,q,hgr,hw2,rl,h1,h2,h3,c,Av]<;>rfl
 have h3:(v.k==3)=false:=by simpa using h3
 rw[if_neg (by rw[h3];simp)]
 have c:=c27 17 17;have hx:=htw (J4 17 17);have hsl:=qM l i (J4 17 17);rw[hd]at c hx hsl;have hnv:J4 17 17 v=true:=by unfold J4;simp[bne,h2]
 have etw:(v::r).takeWhile (J4 17 17)=v::r.takeWhile (J4 17 17):=by rw[Dz,if_pos hnv]
 have hsub:∀y∈(v::r).takeWhile (J4 17 17),y∈l:=λy hy=>by have:=(Bw _).subset hy;rw[<-hd]at this;exact BI this
 have hnn:JO ((v::r).takeWhile (J4 17 17))<=JO l:=by
  refine AY (YA (Bw _)) ?_
  rw[<-hd];exact Kr (Mo _ _)
 have c52:=f52 (lo:=lo) (h:=h) (x:=v) (m:=r.takeWhile (J4 17 17)) hlo (λy hy=>hB y (hsub y (by rw[etw];exact hy))) (by rw[<-etw];omega)
 rw[<-etw]at c52;have hle1:i<=i+((v::r).takeWhile (J4 17 17)).length:=om
 have hle2:i+((v::r).takeWhile (J4 17 17)).length<=l.length:=by have:=(Bw (J4 17 17) (l:=l.drop i)).length_le;rw[Ay,hd]at this;omega
 have hrs:((JL l).take (i+((v::r).takeWhile (J4 17 17)).length)).drop i=JL ((v::r).takeWhile (J4 17 17)):=by rw[Wx,ZC,hsl]
 have ra:=QA l;have l1:lo<=h.length+1:=om;generalize (v::r).takeWhile (J4 17 17)=m at*;obtain⟨t,ks⟩:=v;have h1:(t.k==13)=false:=h1;have h2:(t.k==17)=false:=h2;have h3:(t.k==3)=false:=h3;rw[Jr]at hgr;simp only[N50];generalize JL l=R at*;generalize i+m.length=j at*
 cases hdc:Z8 m with
 |none=>
  rw[hdc]at c52;simp only[dcR,Jv,zd,Jt]at c52;refine⟨[.cells [.v (.string (Rul.bs [])),.list .no [],.v (.bool false)]],?_⟩
  rw[Option.toList_none,Av]
  simp only[N50,go_sem,jz,b31,Tryz.f31,hlo,l1,q,hgr,rl,h1,h2,h3,c,hle1,hle2,hrs,ra,c52]<;>rfl
 |some dd=>
  rw[hdc]at c52;simp only[dcR,Jv]at c52;have eo:out.map Jv++[[.v (.string (Rul.bs dd.name)),.list .no (JL dd.val),.v (.bool dd.imp)]]=(out++[dd]).map Jv:=by rw[List.map_append]<;>rfl
  have o1:=JcK ho;have o2:=JS5 ho;have rao:=JPP out;have rbo:=JHV out;refine⟨[.cells [.v (.string (Rul.bs dd.name)),.list .no (JL dd.val),.v (.bool dd.imp)]],?_⟩
  rw[Option.toList_some,<-eo];have rlo:(out.map Jv).length=out.length:=Ag _;generalize out.map Jv=O at*;simp only[N50,go_sem,jz,b31,Tryz.f31,hlo,l1,q,hgr,rl,h1,h2,h3,c,hle1,hle2,hrs,ra,c52,o1,o2,rao,rbo,rlo]<;>rfl
theorem JcL{l:List CV}{out:List Dc}{i:Nat}{X:JC}(hlo:lo<=h.length)(hi:l.length<=i):
  evCode ⟨Aa,E,lo,h.length,h31⟩ JA jz (N50 l out i,h++X)=some (.exit 0,N50 l out i++[(11,.v (.bool false))],h):=by
 have q:decide ((i:Int)<(l.length:Int))=false:=by rw[decide_eq_false_iff_not];omega
 have rl:=JP l;simp only[N50];generalize JL l=R at*;simp only[N50,go_sem,jz,b31,Tryz.f31,hlo,q,rl]<;>rfl
theorem HA:∀(n:Nat) (l:List CV),(QZ n l).length<=l.length
 |0,l=>by rw[QZ];exact A9 _
 |n+1,[]=>Ab _
 |n+1,v::r=>by
  rw[QZ]
  split
  ·have:=HA n r;rw[Ae];omega
  ·rename_i h1
   split
   ·have:=HA n ((v::r).dropWhile (J4 17 23)).tail
    have h2:=(AR (p:=J4 17 23) (l:=v::r)).length_le;rw[Ln]at this;omega
   ·have hnv:J4 17 17 v=true:=by
     simp only[A7,beq_iff_eq,not_or]at h1;simp[J4,h1.2]
    have:=HA n ((v::r).dropWhile (J4 17 17))
    have h3:((v::r).dropWhile (J4 17 17)).length<=r.length:=by rw[A5,if_pos hnv];exact(AR _).length_le
    rw[Ah,Ae];have h4:(Z8 ((v::r).takeWhile (J4 17 17))).toList.length<=1:=by cases Z8 ((v::r).takeWhile (J4 17 17))<;>simp
    omega
theorem JH6{l:List CV}(hlo:lo<=h.length)(hl:JO l<=1000000000)(hB:∀y∈l,BtV y):∀(n i:Nat) (out:List Dc) (X:JC),(l.drop i).length<n->out.length+(l.drop i).length<=1000000000->
  ∃i',JA (evCode ⟨Aa,E,lo,h.length,h31⟩ JA jz) (N50 l out i,h++X)=some (.exit 0,N50 l (out++QZ n (l.drop i)) i'++[(11,.v (.bool false))],h)
 |0,i,out,X,hn,_=>by omega
 |n+1,i,out,X,hn,ho=>by
  cases hd:l.drop i with
  |nil=>
   have hi:l.length<=i:=by have:=congrArg AW hd;rw[Ay,An]at this;omega
   refine⟨i,?_⟩
   rw[loop_eq,JcL hlo hi,Kv,QZ,Av]
  |cons v r=>
   rw[hd]at hn ho;simp only[Ae]at hn ho;obtain⟨X',hr⟩:=JW2 (X:=X) (out:=out) hlo hl om hd hB;have hd1:l.drop (i+1)=r:=by rw[<-AV,hd]<;>rfl
   rw[loop_eq,hr,JK,QZ];by_cases h1:(v.k==13||v.k==17)=true
   ·rw[if_pos h1,if_pos h1]
    have:=JH6 hlo hl hB n (i+1) out X' (by rw[hd1];omega) (by rw[hd1];omega)
    rw[hd1]at this;exact this
   ·rw[if_neg h1,if_neg h1]
    by_cases h3:(v.k==3)=true
    ·rw[if_pos h3,if_pos h3]
     have e1:=G9 l i (J4 17 23);rw[hd]at e1
     have e2:l.drop (i+((v::r).takeWhile (J4 17 23)).length+1)=((v::r).dropWhile (J4 17 23)).tail:=by rw[<-AV,e1,Lg]
     have hlen:=(AR (p:=J4 17 23) (l:=v::r)).length_le;simp only[Ae]at hlen;have:=JH6 hlo hl hB n (i+((v::r).takeWhile (J4 17 23)).length+1) out X' (by rw[e2,Ln];omega) (by rw[e2,Ln];omega)
     rw[e2]at this;exact this
    ·rw[if_neg h3,if_neg h3]
     have e1:=G9 l i (J4 17 17);rw[hd]at e1
     have hnv:J4 17 17 v=true:=by simp only[A7,beq_iff_eq,not_or]at h1;simp[J4,h1.2]
     have hlen:((v::r).dropWhile (J4 17 17)).length<=r.length:=by rw[A5,if_pos hnv];exact(AR _).length_le
     have h4:(Z8 ((v::r).takeWhile (J4 17 17))).toList.length<=1:=by cases Z8 ((v::r).takeWhile (J4 17 17))<;>simp
     have:=JH6 hlo hl hB n (i+((v::r).takeWhile (J4 17 17)).length) (out++(Z8 ((v::r).takeWhile (J4 17 17))).toList) X' (by rw[e1];omega) (by rw[e1,Ah];omega)
     rw[e1,Ao]at this;exact this
theorem f31{l:List CV}(hlo:lo<=h.length)(hl:JO l<=1000000000)(hB:∀y∈l,BtV y):E lo 31 [.list .no (JL l)] h=some (.list .no ((decls l).map Jv),h):=by
 have hll:=Jq l;obtain⟨i',hL⟩:=JH6 (lo:=lo) (h:=h) hlo hl hB (l.length+1) 0 [] [] (by rw[Az];omega) (by rw[Az,An];omega)
 rw[Az,Ai]at hL;have ed:QZ (l.length+1) l=decls l:=rfl;rw[ed]at hL;have n0:((0:Nat):Int)=0:=rfl;rw[e31];simp only[jz,b31,Tryz.f31,JD,JT,JB,go_sem,N50,n0,CB,Av,Al,Ai]at hL;simp only[go_sem,b31,Tryz.f31,hlo,hL,n0]<;>rfl
end Go.Lift.M1
end

section
namespace Go.Lift.Rul
mutual
def JKy(P:Tk4->Prop):CV->Prop
 | .mk t ks=>P t/\Yl P ks
def Yl(P:Tk4->Prop):List CV->Prop
 |[]=>True
 |v::r=>JKy P v/\Yl P r
end
theorem JW3{P:Tk4->Prop}{v:CV}:JKy P v↔P v.t/\Yl P v.ks:=by cases v;rw[JKy]<;>rfl
theorem Wg{P:Tk4->Prop}:∀{l:List CV},Yl P l↔ ∀v∈l,P v.t/\Yl P v.ks
 |[]=>by rw[Yl];simp
 |v::r=>by rw[Yl,JW3,Wg (l:=r)];simp
theorem yj{P:Tk4->Prop}{l m:List CV}(h:Yl P l)(hs:∀v∈m,v∈l):Yl P m:=Wg.2 λv hv=>Wg.1 h v (hs v hv)
mutual
theorem JPu{P:Tk4->Prop}:∀v:PV,(∀t∈QS v,P t)->JKy P (cvV v)
 | .leaf t,h=>by rw[cvV,JKy,Yl];exact⟨h t (by rw[QS];simp),trivial⟩
 | .node t ks c,h=>by rw[QS]at h;rw[cvV,JKy];exact⟨h t (by simp),z8 ks λu hu=>h u (by simp[hu])⟩
theorem z8{P:Tk4->Prop}:∀F:List PV,(∀t∈Ka F,P t)->Yl P (cvL F)
 |[],_=>by rw[cvL,Yl];trivial
 |v::r,h=>by rw[Ka]at h;rw[cvL,Yl];exact⟨JPu v λt ht=>h t (by simp[ht]),z8 r λt ht=>h t (by simp[ht])⟩
end
mutual
theorem JKz:∀v:PV,Wy (cvV v)<=(QS v).length
 | .leaf t=>by rw[cvV,Wy,WM,QS];simp
 | .node t ks c=>by have:=jM ks;rw[cvV,Wy,QS];simp only[Ae,Ah];omega
theorem jM:∀F:List PV,JO (cvL F)<=(Ka F).length
 |[]=>by rw[cvL,WM];exact A9 _
 |v::r=>by have:=jM r;have:=JKz v;rw[cvL,J5,Ka,Ah];omega
end
theorem JGp{P:Tk4->Prop}{l:List Tk4}(h:∀t∈l,P t):Yl P (Hw l):=by obtain⟨F,rfl,hg⟩:=JHT l;rw[zV hg];exact z8 F h
theorem JCz(l:List Tk4):JO (Hw l)<=l.length:=by obtain⟨F,rfl,hg⟩:=JHT l;rw[zV hg];exact jM F
def QO(sub:List CV->List Ru)(live top:Bool)(v:CV)(r:List CV):List Ru×List CV:=
 if(v.k==13||(top&&(v.k==14||v.k==15)))=true then([],r)
 else if(v.k==3)=true then
  match(v::r).dropWhile (J4 17 23)with
  |[]=>([],[])
  |x::s=>(if(x.k==23&&WC (KR v.t.b)&& !Js 64 (((v::r).takeWhile (J4 17 23)).tail)&&live)=true then[Ru.mk 2 (KR v.t.b) (trim ((v::r).takeWhile (J4 17 23)).tail) [] (sub x.ks)]else[],s)
 else
  match(v::r).dropWhile (J4 23 23)with
  |[]=>([],[])
  |x::s=>(if(!Js 64 ((v::r).takeWhile (J4 23 23))&&live)=true then[Ru.mk 1 [] (trim ((v::r).takeWhile (J4 23 23))) (decls x.ks) []]else[],s)
theorem qN(sub:List CV->List Ru)(live top:Bool)(n:Nat):K7 sub live top n []=[]:=by cases n<;>rw[K7]
theorem jN(sub:List CV->List Ru)(live top:Bool)(n:Nat)(v:CV)(r:List CV):K7 sub live top (n+1) (v::r)=(QO sub live top v r).1++K7 sub live top n (QO sub live top v r).2:=by
 rw[K7];unfold QO;by_cases a:(v.k==13||(top&&(v.k==14||v.k==15)))=true
 ·rw[if_pos a,if_pos a]<;>rfl
 ·rw[if_neg a,if_neg a]
  by_cases b:(v.k==3)=true
  ·rw[if_pos b,if_pos b]
   cases hx:(v::r).dropWhile (J4 17 23)with
   |nil=>simp only[qN,Av]
   |cons x s=>rfl
  ·rw[if_neg b,if_neg b]
   cases hx:(v::r).dropWhile (J4 23 23)with
   |nil=>simp only[qN,Av]
   |cons x s=>rfl
theorem JAA(sub:List CV->List Ru)(live top:Bool)(v:CV)(r:List CV):(QO sub live top v r).2<:+r/\(QO sub live top v r).1.length<=1:=by
 have key:∀(f:CV->Bool) (x:CV) (s:List CV),(v::r).dropWhile f=x::s->s<:+r:=λf x s e=>by
  rw[A5]at e
  split at e
  ·have h1:=AR (p:=f) (l:=r)
   rw[e]at h1;exact(Dr x s).trans h1
  ·cases e;exact Mp _
 unfold QO
 split
 ·exact⟨Mp _,A9 _⟩
 ·split
  ·split
   ·exact⟨Mt,A9 _⟩
   ·rename_i x s e
    refine⟨key _ x s e,?_⟩
    split<;>simp
  ·split
   ·exact⟨Mt,A9 _⟩
   ·rename_i x s e
    refine⟨key _ x s e,?_⟩
    split<;>simp
theorem JPv(sub:List CV->List Ru)(live top:Bool)(v:CV)(r:List CV):(QO sub live top v r).2.length<=r.length/\(QO sub live top v r).1.length<=1:=
 ⟨(JAA sub live top v r).1.length_le,(JAA sub live top v r).2⟩
end Go.Lift.Rul
end

section
open Go.Proofs
namespace Go.Lift.M1
open Rul
open Utf (By)
variable[MX]
variable{lo:Nat}{h:JC}
theorem JiC{n:Nat}(h:n<=1000000000):(n+1)*96<=140737488355328:=om
abbrev N44(l:List CV)(top:Bool)(d:Nat)(out:List Ru)(i:Nat):Jj:=[(0,.list .no (JL l)),(1,.v (.bool top)),(2,.v (.int .i64 d)),(7,.list .yes (Kq out)),(8,.v (.int .i64 i))]
theorem yk:Kq []=[]:=by rw[Kq]
theorem JK0(out:List Ru)(r:Ru):Kq out++[HU r]=Kq (out++[r]):=by rw[JRm,Kq,yk]
theorem JC0{α:Type}{l:List α}{i:Nat}{v:α}{r:List α}(hd:l.drop i=v::r):l[i]? =some v:=by
 have:=Bm (xs:=l) (i:=i) (j:=0)
 rw[hd]at this;simpa using this.symm
theorem JW4{l:List CV}{top:Bool}{d:Nat}{out:List Ru}{i:Nat}{v:CV}{r:List CV}{sub:List CV->List Ru}(hlo:lo<=h.length)(hl:JO l<=1000000000)(ho:out.length<=1000000000)(hd:l.drop i=v::r)(hB:Yl BtT l)(hdd:d<=1000)
  (hsub:d<=64->∀ks,Yl BtT ks->JO ks<=1000000000->∀lo h,lo<=h.length->E lo 15 [.list .no (JL ks),.v (.bool false),.v (.int .i64 (d+1:Nat))] h=some (.list .no (Kq (sub ks)),h)):
  ∃i',evCode ⟨Aa,E,lo,h.length,h15⟩ JA QH (N44 l top d out i,h)=some (.normal,N44 l top d (out++(QO sub (decide (d<=64)) top v r).1) i',h)/\l.drop i'=(QO sub (decide (d<=64)) top v r).2:=by
 have hll:=Jq l;have hg:=JC0 hd;have hlt:i<l.length:=(Ad.1 hg).1
 have hgr:(JL l)[i]? =some (Qa v):=by rw[Ks,hg]<;>rfl
 have q:decide ((i:Int)<(l.length:Int))=true:=by simpa using hlt
 have hw:=JH (i:=i) om;have hd1:l.drop (i+1)=r:=by rw[<-AV,hd]<;>rfl
 have rl:=JP l;have ra:=QA l;have qd:decide ((d:Int)<=64)=decide (d<=64):=by rw[decide_eq_decide];omega
 have hwd:=JH (i:=d) om;have c27:=λa b=>f27 (lo:=lo) (h:=h) (l:=l) (i:=i) (a:=a) (b:=b) hlo om om
 have hvm:v∈l:=Ar hg;have hBv:=(Wg.1 hB v hvm).1;have hmem:∀y∈v::r,y∈l:=λy hy=>by rw[<-hd]at hy;exact BI hy
 have hsuf:(v::r)<:+l:=by rw[<-hd];exact Mo _ _
 have o1:=JiC ho;have o2:=JS5 ho;have rao:=JRl out;have rbo:=JKD out;have rlo:=JW out;by_cases h1:(v.k==13||(top&&(v.k==14||v.k==15)))=true
 ·refine⟨i+1,?_,?_⟩
  ·unfold QO
   rw[if_pos h1,Av];obtain⟨t,ks⟩:=v;have g1:(t.k==13||(top&&(t.k==14||t.k==15)))=true:=h1;rw[Jr]at hgr;simp only[N44];generalize JL l=R at*
   cases k13:(t.k==13)with
   |true=>simp only[go_sem,QH,qX,Tryz.f15,hlo,q,hgr,hw,rl,k13]<;>rfl
   |false=>
    rw[k13,Bb,Af]at g1;obtain⟨ht,g1⟩:=g1;subst ht
    cases k14:(t.k==14)with
    |true=>simp only[go_sem,QH,qX,Tryz.f15,hlo,q,hgr,hw,rl,k13,k14]<;>rfl
    |false=>rw[k14,Bb]at g1;simp only[go_sem,QH,qX,Tryz.f15,hlo,q,hgr,hw,rl,k13,k14,g1]<;>rfl
  ·unfold QO
   rw[if_pos h1];exact hd1
 have k1:(v.k==13||(top&&(v.k==14||v.k==15)))=false:=by simpa using h1
 have k13:(v.k==13)=false:=by cases hh:(v.k==13)with|false=>rfl|true=>rw[hh]at k1;cases k1
 rw[k13,Bb]at k1;by_cases h3:(v.k==3)=true
 ·have hk3:v.k=3:=by simpa using h3
  have hnv:J4 17 23 v=true:=by unfold J4;rw[hk3]<;>rfl
  have c:=c27 17 23;have hdr:=G9 l i (J4 17 23);have hsl:=qM l i (J4 17 23);rw[hd]at c hdr hsl;have etw:(v::r).takeWhile (J4 17 23)=v::r.takeWhile (J4 17 23):=by rw[Dz,if_pos hnv]
  have hn1:1<=((v::r).takeWhile (J4 17 23)).length:=by rw[etw];simp
  have hle2:i+((v::r).takeWhile (J4 17 23)).length<=l.length:=by have:=(Bw (J4 17 23) (l:=v::r)).length_le;have h5:=congrArg AW hd;rw[Ay]at h5;omega
  have hrs:((JL l).take (i+((v::r).takeWhile (J4 17 23)).length)).drop (i+1)=JL ((v::r).takeWhile (J4 17 23)).tail:=by rw[Wx,ZC,<-AV,hsl,Lg]
  have hpm:∀y∈((v::r).takeWhile (J4 17 23)).tail,y∈v::r:=λy hy=>JRg (List.mem_of_mem_tail hy)
  have hpn:JO ((v::r).takeWhile (J4 17 23)).tail<=JO l:=by refine AY (Kr (DU _)) (AY (YA (Bw _)) (Kr hsuf))
  have hpl:=Jq ((v::r).takeWhile (J4 17 23)).tail;have c29:=f29 (lo:=lo) (h:=h) (l:=((v::r).takeWhile (J4 17 23)).tail) hlo om;have c30:=λlo hlo=>f30 (lo:=lo) (h:=h) (l:=((v::r).takeWhile (J4 17 23)).tail) hlo om
  have c30a:=c30 lo hlo;have c30b:=c30 h.length (Ab _);clear c30;have c28:=f28 (lo:=lo) (h:=h) (n:=v.t.b) hlo (by have:=hBv.2;omega) hBv.1
  have hle1:i+1<=i+((v::r).takeWhile (J4 17 23)).length:=om;have hw2:Aq.wrap (((i+((v::r).takeWhile (J4 17 23)).length:Nat):Int)+1)=((i+((v::r).takeWhile (J4 17 23)).length+1:Nat):Int):=JH om;refine⟨i+((v::r).takeWhile (J4 17 23)).length+1,?_,?_⟩
  ·have es:(QO sub (decide (d<=64)) top v r).1=match(v::r).dropWhile (J4 17 23)with
     |[]=>[]
     |x::s=>if(x.k==23&&WC (KR v.t.b)&& !Js 64 (((v::r).takeWhile (J4 17 23)).tail)&&decide (d<=64))=true then[Ru.mk 2 (KR v.t.b) (trim ((v::r).takeWhile (J4 17 23)).tail) [] (sub x.ks)]else[]:=by
    unfold QO;rw[if_neg h1,if_pos h3];cases(v::r).dropWhile (J4 17 23)<;>rfl
   rw[es];generalize hj:i+((v::r).takeWhile (J4 17 23)).length=j at*;generalize ((v::r).takeWhile (J4 17 23)).tail=P at*
   cases hx:(v::r).dropWhile (J4 17 23)with
   |nil=>
    rw[hx]at hdr
    have hjl:l.length<=j:=by have:=congrArg AW hdr;rw[Ay,An]at this;omega
    have q2:decide ((j:Int)<(l.length:Int))=false:=by rw[decide_eq_false_iff_not];omega
    simp only[Av];obtain⟨t,ks⟩:=v;have k13:(t.k==13)=false:=k13;have k1:(top&&(t.k==14||t.k==15))=false:=k1;have h3:(t.k==3)=true:=h3;have c28:E lo 28 [.v (.string (Rul.bs t.b))] h=some (.tup [.v (.string (Rul.bs (KR t.b))),.v (.bool (WC (KR t.b)))],h):=c28;have hk3:t.k=3:=hk3;have k14:(t.k==14)=false:=by rw[hk3]<;>rfl
    have k15:(t.k==15)=false:=by rw[hk3]<;>rfl
    rw[Jr]at hgr;simp only[N44];generalize JL l=R at*
    cases top with
    |true=>simp only[go_sem,QH,qX,Tryz.f15,hlo,q,q2,hgr,hw,hw2,rl,k13,k14,k15,h3,c,c28]<;>rfl
    |false=>simp only[go_sem,QH,qX,Tryz.f15,hlo,q,q2,hgr,hw,hw2,rl,k13,k14,k15,h3,c,c28]<;>rfl
   |cons x s=>
    rw[hx]at hdr;have hjg:=JC0 hdr;have hjl:j<l.length:=(Ad.1 hjg).1
    have hxm:x∈l:=Ar hjg;have hxa:=(Wg.1 hB x hxm).2;have hxn:JO x.ks<=JO l:=ZD hjg;have q2:decide ((j:Int)<(l.length:Int))=true:=by rw[decide_eq_true_iff];omega
    have hjr:(JL l)[j]? =some (Qa x):=by rw[Ks,hjg]<;>rfl
    obtain⟨t,ks⟩:=v;obtain⟨xt,xk⟩:=x;have k13:(t.k==13)=false:=k13;have h3:(t.k==3)=true:=h3;have c28:E lo 28 [.v (.string (Rul.bs t.b))] h=some (.tup [.v (.string (Rul.bs (KR t.b))),.v (.bool (WC (KR t.b)))],h):=c28;have hk3:t.k=3:=hk3;have k14:(t.k==14)=false:=by rw[hk3]<;>rfl
    have k15:(t.k==15)=false:=by rw[hk3]<;>rfl
    have hxa:Yl BtT xk:=hxa;have hxn:JO xk<=JO l:=hxn;rw[Jr]at hgr hjr;show evCode _ _ _ _=some (.normal,N44 l top d (out++(if(xt.k==23&&WC (KR t.b)&& !Js 64 P&&decide (d<=64))=true then[Ru.mk 2 (KR t.b) (trim P) [] (sub xk)]else[])) (j+1),h)
    have e1:∀b:Bool,top=b->(top&&(t.k==14||t.k==15))=false:=λb _=>by rw[k14,k15];simp
    simp only[N44];generalize JL l=R at*
    cases hk23:(xt.k==23)with
    |false=>
     simp only[Aw,Am,if_false,Av]
     cases top with
     |true=>simp only[go_sem,QH,qX,Tryz.f15,hlo,q,q2,hgr,hjr,hw,hw2,rl,k13,k14,k15,h3,c,c28,hk23]<;>rfl
     |false=>simp only[go_sem,QH,qX,Tryz.f15,hlo,q,q2,hgr,hjr,hw,hw2,rl,k13,k14,k15,h3,c,c28,hk23]<;>rfl
    |true=>
     cases hgp:WC (KR t.b)with
     |false=>
      rw[hgp]at c28;simp only[BG,Aw,Am,if_false,Av]
      cases top with
      |true=>simp only[go_sem,QH,qX,Tryz.f15,hlo,q,q2,hgr,hjr,hw,hw2,rl,k13,k14,k15,h3,c,c28,hk23]<;>rfl
      |false=>simp only[go_sem,QH,qX,Tryz.f15,hlo,q,q2,hgr,hjr,hw,hw2,rl,k13,k14,k15,h3,c,c28,hk23]<;>rfl
     |true=>
      rw[hgp]at c28
      cases hdp:Js 64 P with
      |true=>
       rw[hdp]at c29;simp only[Dt,BG,Aw,Am,if_false,Av]
       cases top with
       |true=>simp only[go_sem,QH,qX,Tryz.f15,hlo,q,q2,hgr,hjr,hw,hw2,rl,ra,k13,k14,k15,h3,c,c28,hk23,hle1,hle2,hrs,c29]<;>rfl
       |false=>simp only[go_sem,QH,qX,Tryz.f15,hlo,q,q2,hgr,hjr,hw,hw2,rl,ra,k13,k14,k15,h3,c,c28,hk23,hle1,hle2,hrs,c29]<;>rfl
      |false=>
       rw[hdp]at c29;by_cases hlv:d<=64
       ·have qlv:decide (d<=64)=true:=by simpa using hlv
        rw[qlv]at qd;have c15:=λlo hlo=>hsub hlv xk hxa om lo h hlo
        have c15a:=c15 lo hlo;have c15b:=c15 h.length (Ab _);clear c15 hsub;rw[qlv,DH,B3,B3,B3,if_pos rfl,<-JK0,HU,CB];generalize Kq out=O at*;generalize JL (trim P)=W at*
        cases top with
        |true=>simp only[go_sem,QH,qX,Tryz.f15,hlo,q,q2,qd,hgr,hjr,hw,hw2,hwd,rl,ra,k13,k14,k15,h3,c,c28,hk23,hle1,hle2,hrs,c29,c30a,c30b,c15a,c15b,o1,o2,rao,rbo,rlo]<;>rfl
        |false=>simp only[go_sem,QH,qX,Tryz.f15,hlo,q,q2,qd,hgr,hjr,hw,hw2,hwd,rl,ra,k13,k14,k15,h3,c,c28,hk23,hle1,hle2,hrs,c29,c30a,c30b,c15a,c15b,o1,o2,rao,rbo,rlo]<;>rfl
       ·have qlv:decide (d<=64)=false:=by simpa using hlv
        rw[qlv]at qd;rw[qlv,BG,if_neg (by simp),Av]
        cases top with
        |true=>simp only[go_sem,QH,qX,Tryz.f15,hlo,q,q2,qd,hgr,hjr,hw,hw2,rl,ra,k13,k14,k15,h3,c,c28,hk23,hle1,hle2,hrs,c29]<;>rfl
        |false=>simp only[go_sem,QH,qX,Tryz.f15,hlo,q,q2,qd,hgr,hjr,hw,hw2,rl,ra,k13,k14,k15,h3,c,c28,hk23,hle1,hle2,hrs,c29]<;>rfl
  ·have es:(QO sub (decide (d<=64)) top v r).2=((v::r).dropWhile (J4 17 23)).tail:=by
    unfold QO;rw[if_neg h1,if_pos h3];cases(v::r).dropWhile (J4 17 23)<;>rfl
   rw[es,<-AV,hdr,Lg]
 have k3:(v.k==3)=false:=by simpa using h3
 have c:=c27 23 23;have hdr:=G9 l i (J4 23 23);have hsl:=qM l i (J4 23 23);rw[hd]at c hdr hsl
 have hle2:i+((v::r).takeWhile (J4 23 23)).length<=l.length:=by have:=(Bw (J4 23 23) (l:=v::r)).length_le;have h5:=congrArg AW hd;rw[Ay]at h5;omega
 have hrs:((JL l).take (i+((v::r).takeWhile (J4 23 23)).length)).drop i=JL ((v::r).takeWhile (J4 23 23)):=by rw[Wx,ZC,hsl]
 have hpn:JO ((v::r).takeWhile (J4 23 23))<=JO l:=AY (YA (Bw _)) (Kr hsuf);have hpl:=Jq ((v::r).takeWhile (J4 23 23));have c29:=f29 (lo:=lo) (h:=h) (l:=(v::r).takeWhile (J4 23 23)) hlo om;have c30:=λlo hlo=>f30 (lo:=lo) (h:=h) (l:=(v::r).takeWhile (J4 23 23)) hlo om
 have c30a:=c30 lo hlo;have c30b:=c30 h.length (Ab _);clear c30;have hle1:i<=i+((v::r).takeWhile (J4 23 23)).length:=om;have hw2:Aq.wrap (((i+((v::r).takeWhile (J4 23 23)).length:Nat):Int)+1)=((i+((v::r).takeWhile (J4 23 23)).length+1:Nat):Int):=JH om;refine⟨i+((v::r).takeWhile (J4 23 23)).length+1,?_,?_⟩
 ·have es:(QO sub (decide (d<=64)) top v r).1=match(v::r).dropWhile (J4 23 23)with
    |[]=>[]
    |x::s=>if(!Js 64 ((v::r).takeWhile (J4 23 23))&&decide (d<=64))=true then[Ru.mk 1 [] (trim ((v::r).takeWhile (J4 23 23))) (decls x.ks) []]else[]:=by
   unfold QO;rw[if_neg h1,if_neg h3];cases(v::r).dropWhile (J4 23 23)<;>rfl
  rw[es];generalize hj:i+((v::r).takeWhile (J4 23 23)).length=j at*;generalize (v::r).takeWhile (J4 23 23)=P at*;obtain⟨t,ks⟩:=v;have k13:(t.k==13)=false:=k13;have k3:(t.k==3)=false:=k3;have k1:(top&&(t.k==14||t.k==15))=false:=k1;rw[Jr]at hgr
  have ktop:(top=false)\/(top=true/\(t.k==14)=false/\(t.k==15)=false):=by
   cases top with
   |false=>exact .inl rfl
   |true=>rw[AB,Bool.or_eq_false_iff]at k1;exact .inr ⟨rfl,k1.1,k1.2⟩
  cases hx:(CV.mk t ks::r).dropWhile (J4 23 23)with
  |nil=>
   rw[hx]at hdr
   have hjl:l.length<=j:=by have:=congrArg AW hdr;rw[Ay,An]at this;omega
   have q2:decide ((j:Int)<(l.length:Int))=false:=by rw[decide_eq_false_iff_not];omega
   simp only[Av,N44];generalize JL l=R at*;rcases ktop with rfl|⟨rfl,k14,k15⟩
   ·simp only[go_sem,QH,qX,Tryz.f15,hlo,q,q2,hgr,hw,hw2,rl,k13,k3,c]<;>rfl
   ·simp only[go_sem,QH,qX,Tryz.f15,hlo,q,q2,hgr,hw,hw2,rl,k13,k14,k15,k3,c]<;>rfl
  |cons x s=>
   rw[hx]at hdr;have hjg:=JC0 hdr;have hjl:j<l.length:=(Ad.1 hjg).1
   have hxm:x∈l:=Ar hjg;have hxa:=(Wg.1 hB x hxm).2;have hxn:JO x.ks<=JO l:=ZD hjg;have q2:decide ((j:Int)<(l.length:Int))=true:=by rw[decide_eq_true_iff];omega
   have hjr:(JL l)[j]? =some (Qa x):=by rw[Ks,hjg]<;>rfl
   obtain⟨xt,xk⟩:=x;have hxa:Yl BtT xk:=hxa;have hxn:JO xk<=JO l:=hxn;rw[Jr]at hjr;have c31:=λlo hlo=>f31 (lo:=lo) (h:=h) (l:=xk) hlo om (λy hy=>(Wg.1 hxa y hy).1)
   have c31a:=c31 lo hlo;have c31b:=c31 h.length (Ab _);clear c31;show evCode _ _ _ _=some (.normal,N44 l top d (out++(if(!Js 64 P&&decide (d<=64))=true then[Ru.mk 1 [] (trim P) (decls xk) []]else[])) (j+1),h)
   simp only[N44];generalize JL l=R at*
   cases hdp:Js 64 P with
   |true=>
    rw[hdp]at c29;simp only[Dt,BG,Aw,Am,if_false,Av];rcases ktop with rfl|⟨rfl,k14,k15⟩
    ·simp only[go_sem,QH,qX,Tryz.f15,hlo,q,q2,hgr,hjr,hw,hw2,rl,ra,k13,k3,c,hle1,hle2,hrs,c29]<;>rfl
    ·simp only[go_sem,QH,qX,Tryz.f15,hlo,q,q2,hgr,hjr,hw,hw2,rl,ra,k13,k14,k15,k3,c,hle1,hle2,hrs,c29]<;>rfl
   |false=>
    rw[hdp]at c29;by_cases hlv:d<=64
    ·have qlv:decide (d<=64)=true:=by simpa using hlv
     rw[qlv]at qd;have e0:Rul.bs []=AA:=rfl;rw[qlv,DH,B3,if_pos rfl,<-JK0,HU,yk,e0];generalize Kq out=O at*;generalize JL (trim P)=W at*;generalize (decls xk).map Jv=Z at*;rcases ktop with rfl|⟨rfl,k14,k15⟩
     ·simp only[go_sem,QH,qX,Tryz.f15,hlo,q,q2,qd,hgr,hjr,hw,hw2,rl,ra,k13,k3,c,hle1,hle2,hrs,c29,c30a,c30b,c31a,c31b,o1,o2,rao,rbo,rlo]<;>rfl
     ·simp only[go_sem,QH,qX,Tryz.f15,hlo,q,q2,qd,hgr,hjr,hw,hw2,rl,ra,k13,k14,k15,k3,c,hle1,hle2,hrs,c29,c30a,c30b,c31a,c31b,o1,o2,rao,rbo,rlo]<;>rfl
    ·have qlv:decide (d<=64)=false:=by simpa using hlv
     rw[qlv]at qd;rw[qlv,BG,if_neg (by simp),Av]
     rcases ktop with rfl|⟨rfl,k14,k15⟩
     ·simp only[go_sem,QH,qX,Tryz.f15,hlo,q,q2,qd,hgr,hjr,hw,hw2,rl,ra,k13,k3,c,hle1,hle2,hrs,c29]<;>rfl
     ·simp only[go_sem,QH,qX,Tryz.f15,hlo,q,q2,qd,hgr,hjr,hw,hw2,rl,ra,k13,k14,k15,k3,c,hle1,hle2,hrs,c29]<;>rfl
 ·have es:(QO sub (decide (d<=64)) top v r).2=((v::r).dropWhile (J4 23 23)).tail:=by
   unfold QO;rw[if_neg h1,if_neg h3];cases(v::r).dropWhile (J4 23 23)<;>rfl
  rw[es,<-AV,hdr,Lg]
end Go.Lift.M1
end

section
open Go.Proofs
namespace Go.Lift.M1
open Rul
variable[MX]
variable{lo:Nat}{h:JC}
theorem Jpt{p:List Ob}{F:List V}{n:Nat}{t:Rul.Tk4}{r ks:List CV}(hlo:lo<=p.length)(hn:n<=1000000000)
  (h1:F[n*7+6]? =some (.list .yes (JL r)))(h2:(F.drop ((n+1)*7)).take 7=Rul.row t++[.list .yes (JL ks)])(hl:(n+2)*7<=F.length)(hr:r.length<=1000000000):
  E lo 33 [.stk p.length (n+2) 7] (p++[.cells F])=
   some (.stk p.length (n+1) 7,p++[.cells (F.set (n*7+6) (.list .yes (JL (r++[.mk t ks]))))]):=by
 have w1:Aq.wrap (((n+2:Nat):Int)-1)=((n+1:Nat):Int):=by rw[JN]<;>omega
 have w2:Aq.wrap (((n+1:Nat):Int)-1)=(n:Int):=by rw[JN]<;>omega
 have q1:(n:Int)<((n+1:Nat):Int):=om;have q2:((n+1:Nat):Int)<((n+2:Nat):Int):=om;have hs:n*7+6<F.length:=om;have hs1:n*7+6+1<=F.length:=hs;have hs2:n*7+7<=F.length:=om;have e2:7<=(F.drop ((n+1)*7)).length:=by rw[Ay];omega
 have hk:∀(x y:V),(F.set (n*7+6) y).take (n*7+6)++x::(F.set (n*7+6) y).drop (n*7+6+1)=F.set (n*7+6) x:=λx y=>by rw[JL7 (by rw[Ca];exact hs),C9]
 have hk2:∀(x y:V),(F.set (n*7+6) y).take (n*7+6)++x::(F.set (n*7+6) y).drop (n*7+7)=F.set (n*7+6) x:=hk;have o1:=JS4 hr;have o2:=JS5 hr;have ra:=QA r;have rl:=JP r;have rb:=GA r;have l1:lo<=p.length+1:=om;have l2:lo<=p.length+2:=om;have l3:lo<=p.length+3:=om;have l4:lo<=p.length+4:=om;have l5:lo<=p.length+5:=om
 rw[zW,QL,Jt,Jr];generalize JL r=R at*;rw[e33];simp only[Rul.row,Al,Ai]at h2;simp only[go_sem,b33,Tryz.f33,hlo,w1,w2,q1,q2,h1,h2,hs,hs1,hs2,hk,hk2,e2,o1,o2,ra,rl,rb,l1,l2,l3,l4,l5,Ca,C9]<;>rfl
theorem Jpu{p:List Ob}{F xs:List V}{n:Nat}{t:Rul.Tk4}{r ks:List CV}(hlo:lo<=p.length)(hn:n<=1000000000)
  (h1:F[n*7+6]? =some (.list .yes (JL r)))(h2:(F.drop ((n+1)*7)).take 7=Rul.row t++[.list .yes (JL ks)])(hl:(n+2)*7<=F.length)(hr:r.length<=1000000000):
  E lo 33 [.stk p.length (n+2) 7] (p++[.cells F,.cells xs])=
   some (.stk p.length (n+1) 7,p++[.cells (F.set (n*7+6) (.list .yes (JL (r++[.mk t ks])))),.cells xs]):=by
 have w1:Aq.wrap (((n+2:Nat):Int)-1)=((n+1:Nat):Int):=by rw[JN]<;>omega
 have w2:Aq.wrap (((n+1:Nat):Int)-1)=(n:Int):=by rw[JN]<;>omega
 have q1:(n:Int)<((n+1:Nat):Int):=om;have q2:((n+1:Nat):Int)<((n+2:Nat):Int):=om;have hs:n*7+6<F.length:=om;have hs1:n*7+6+1<=F.length:=hs;have hs2:n*7+7<=F.length:=om;have e2:7<=(F.drop ((n+1)*7)).length:=by rw[Ay];omega
 have hk:∀(x y:V),(F.set (n*7+6) y).take (n*7+6)++x::(F.set (n*7+6) y).drop (n*7+6+1)=F.set (n*7+6) x:=λx y=>by rw[JL7 (by rw[Ca];exact hs),C9]
 have hk2:∀(x y:V),(F.set (n*7+6) y).take (n*7+6)++x::(F.set (n*7+6) y).drop (n*7+7)=F.set (n*7+6) x:=hk;have o1:=JS4 hr;have o2:=JS5 hr;have ra:=QA r;have rl:=JP r;have rb:=GA r;have l1:lo<=p.length+1:=om;have l2:lo<=p.length+2:=om;have l3:lo<=p.length+3:=om;have l4:lo<=p.length+4:=om;have l5:lo<=p.length+5:=om
 rw[zW,QL,Jt,Jr];generalize JL r=R at*;rw[e33];simp only[Rul.row,Al,Ai]at h2;simp only[go_sem,b33,Tryz.f33,hlo,w1,w2,q1,q2,h1,h2,hs,hs1,hs2,hk,hk2,e2,o1,o2,ra,rl,rb,l1,l2,l3,l4,l5,Ca,C9]<;>rfl
abbrev N45(h:JC)(l:List Rul.Tk4)(n i:Nat):Jj:=[(3,.stk h.length n 7),(9,.list .no (l.map Rul.row)),(10,.v (.int .i64 l.length)),(11,.v (.int .i64 i))]
theorem JMy(s:Wh)(b:List CV):Jnk (Wi s b):=λi=>⟨JBB _ (λ_ _=>rfl) (λ_=>rfl) s b,JBB _ (λ_ _=>rfl) (λ_=>rfl) s b⟩
theorem JcM{n:Nat}(h:n<=1000000000):(n+1+1)*72<=140737488355328:=om
def JC1:Wh->Int
 |[]=>0
 |(o,_)::_=>o.k
theorem JGq:∀(s:Wh) (b:List CV) (j:List V),(Wi s b++j)[s.length*7]? =some (.v (.int .i64 (JC1 s)))
 |[],_,_=>rfl
 |(o,ks)::r,b,j=>JKq o ks r b j
theorem JcN{l:List Rul.Tk4}{t:Rul.Tk4}{i:Nat}{s:Wh}{b:List CV}{j:List V}(hlo:lo<=h.length)(hg:l[i]? =some t)(hl:l.length<=1000000000)(hs:s.length<=1000000000)(hj:Jnk j)(hc:JS t.k≠0)(he:(decide (0<s.length)&&(t.k==JS (JC1 s)))=false):
  evCode ⟨Aa,E,lo,h.length,h16⟩ JA GV (N45 h l (s.length+1) i,h++[.cells (Wi s b++j)])=some (.normal,N45 h l (s.length+2) (i+1),h++[.cells (Wi ((t,[])::s) b)]):=by
 have hlt:i<l.length:=(Ad.1 hg).1
 have q:decide ((i:Int)<(l.length:Int))=true:=by simpa using hlt
 have hgr:(l.map Rul.row)[i]? =some (Rul.row t):=by rw[Ax,hg]<;>rfl
 have hw:=JH (i:=i) om;have w1:Aq.wrap (((s.length+1:Nat):Int)-1)=(s.length:Int):=by rw[JN om om];omega
 have l1:lo<=h.length+1:=om;have l2:lo<=h.length+2:=om;have l3:lo<=h.length+3:=om;have qc:(JS t.k !=0)=true:=by simpa using hc
 have hF0:=JS0 s b j;have hT:=JWo h.length s b;have hTk:=(JMy s b (h.length+1)).2;have hkd:=JGq s b j;have hFl:(s.length+1)*7<=(Wi s b++j).length:=by rw[Ah,W9];omega
 have a2:(s.length:Int)<((s.length+1:Nat):Int):=om;have o1:=JcM hs;have o2:=Jpr hs;simp only[N45,Wi];generalize Wi s b++j=F at*;generalize Wi s b=T at*;have c32:=λlo k hlo=>f32 (lo:=lo) (h:=h++[.cells F,.cells (Rul.row t)]) hlo k
 have c32a:=c32 lo t.k (by simp;omega);have c32b:=c32 (h.length+2) (JC1 s) (by simp)
 clear c32;simp only[Rul.row]at hgr c32a c32b
 cases hs0:decide (0<s.length)with
 |true=>
  rw[hs0,AB]at he;have hql:decide ((0:Int)<(s.length:Int))=true:=by rw[decide_eq_true_iff]at hs0⊢;omega
  simp only[Rul.row,go_sem,GV,b16,Tryz.f16,hlo,l1,l2,l3,q,hgr,hw,w1,qc,hF0,hT,hTk,hkd,hFl,a2,o1,o2,c32a,c32b,hql,he,Jt,Ag]<;>rfl
 |false=>
  have hql:decide ((0:Int)<(s.length:Int))=false:=by rw[decide_eq_false_iff_not]at hs0⊢;omega
  simp only[Rul.row,go_sem,GV,b16,Tryz.f16,hlo,l1,l2,l3,q,hgr,hw,w1,qc,hF0,hT,hTk,hkd,hFl,a2,o1,o2,c32a,c32b,hql,he,Jt,Ag]<;>rfl
theorem JcO{l:List Rul.Tk4}{t o:Rul.Tk4}{i:Nat}{ks:List CV}{s:Wh}{b:List CV}{j:List V}(hlo:lo<=h.length)(hg:l[i]? =some t)(hl:l.length<=1000000000)(hs:s.length<=1000000000)(hr:(qJ s b).length<=1000000000)(hj:Jnk j)(he:JS o.k=t.k):
  evCode ⟨Aa,E,lo,h.length,h16⟩ JA GV (N45 h l (s.length+2) i,h++[.cells (Wi ((o,ks)::s) b++j)])=
   some (.normal,N45 h l (s.length+1) (i+1),h++[.cells (Wi (Qc ((o,ks)::s) b).1 (Qc ((o,ks)::s) b).2++(Rul.row o++[.list .yes (JL ks)]++j))]):=by
 have hlt:i<l.length:=(Ad.1 hg).1
 have q:decide ((i:Int)<(l.length:Int))=true:=by simpa using hlt
 have hgr:(l.map Rul.row)[i]? =some (Rul.row t):=by rw[Ax,hg]<;>rfl
 have hw:=JH (i:=i) om;have w1:Aq.wrap (((s.length+2:Nat):Int)-1)=((s.length+1:Nat):Int):=by rw[JN om om];omega
 have l1:lo<=h.length+1:=om;have l2:lo<=h.length+2:=om;have l3:lo<=h.length+3:=om;have hkd:=JKq o ks s b j;have hcl:=JKp o ks s b j;have h5:=Jpu (lo:=lo) (p:=h) (xs:=Rul.row t) (t:=o) (ks:=ks) (F:=Wi ((o,ks)::s) b++j) hlo hs (JGj (o,ks) s b j) (JGk o ks s b j) (by rw[Ah,W9,Ae];omega) hr
 rw[hcl]at h5;have hSk:=(G8 (JMy (Qc ((o,ks)::s) b).1 (Qc ((o,ks)::s) b).2) (G8 (a:=Rul.row o++[.list .yes (JL ks)]) (λi=>⟨rfl,rfl⟩) hj) (h.length+1)).2
 have hql:decide ((0:Int)<((s.length+1:Nat):Int))=true:=by rw[decide_eq_true_iff];omega
 have a2:((s.length+1:Nat):Int)<((s.length+2:Nat):Int):=om;have qe:(t.k==JS o.k)=true:=by rw[he,beq_self_eq_true]
 simp only[N45];generalize Wi ((o,ks)::s) b++j=F at*;generalize Wi (Qc ((o,ks)::s) b).1 (Qc ((o,ks)::s) b).2++(Rul.row o++[.list .yes (JL ks)]++j)=F2 at*;have c32b:=f32 (lo:=h.length+2) (h:=h++[.cells F,.cells (Rul.row t)]) (by simp) o.k
 simp only[Rul.row]at hgr c32b h5;simp only[Rul.row,go_sem,GV,b16,Tryz.f16,hlo,l1,l2,l3,q,hgr,hw,w1,hkd,h5,hSk,hql,a2,qe,c32b,Ag]<;>rfl
theorem JiD{l:List Rul.Tk4}{t:Rul.Tk4}{i:Nat}{s:Wh}{b:List CV}{j:List V}(hlo:lo<=h.length)(hg:l[i]? =some t)(hl:l.length<=1000000000)(hs:s.length<=1000000000)(hr:(qJ s b).length<=1000000000)(hj:Jnk j)(hc:JS t.k=0)(he:(decide (0<s.length)&&(t.k==JS (JC1 s)))=false):
  evCode ⟨Aa,E,lo,h.length,h16⟩ JA GV (N45 h l (s.length+1) i,h++[.cells (Wi s b++j)])=
   some (.normal,N45 h l (s.length+1) (i+1),h++[.cells (Wi (Kp (.mk t []) s b).1 (Kp (.mk t []) s b).2++j)]):=by
 have hlt:i<l.length:=(Ad.1 hg).1
 have q:decide ((i:Int)<(l.length:Int))=true:=by simpa using hlt
 have hgr:(l.map Rul.row)[i]? =some (Rul.row t):=by rw[Ax,hg]<;>rfl
 have hw:=JH (i:=i) om;have w1:Aq.wrap (((s.length+1:Nat):Int)-1)=(s.length:Int):=by rw[JN om om];omega
 have l1:lo<=h.length+1:=om;have l2:lo<=h.length+2:=om;have l3:lo<=h.length+3:=om;have qc:(JS t.k !=0)=false:=by simpa using hc
 have hkd:=JGq s b j;have htop:=JN5 s b j;have hset:=JN6 s b j (.mk t []);have hTk:=(G8 (JMy (Kp (.mk t []) s b).1 (Kp (.mk t []) s b).2) hj (h.length+1)).2;have hFs:s.length*7+6<(Wi s b++j).length:=by rw[Ah,W9];omega
 have hFs1:s.length*7+6+1<=(Wi s b++j).length:=hFs;have hFs2:s.length*7+7<=(Wi s b++j).length:=hFs;have hkk:∀(x y:V),((Wi s b++j).set (s.length*7+6) y).take (s.length*7+6)++x::((Wi s b++j).set (s.length*7+6) y).drop (s.length*7+6+1)=(Wi s b++j).set (s.length*7+6) x:=λx y=>by rw[JL7 (by rw[Ca];exact hFs),C9]
 have hk2:∀(x y:V),((Wi s b++j).set (s.length*7+6) y).take (s.length*7+6)++x::((Wi s b++j).set (s.length*7+6) y).drop (s.length*7+7)=(Wi s b++j).set (s.length*7+6) x:=hkk;have a2:(s.length:Int)<((s.length+1:Nat):Int):=om;have o1:=JS4 hr;have o2:=JS5 hr;have ra:=QA (qJ s b);have rl:=JP (qJ s b);have rb:=GA (qJ s b)
 simp only[N45];rw[<-hset]at hTk⊢;rw[zW,QL,Jt,Jr,Jt]at hTk⊢;generalize Wi s b++j=F at*;generalize JL (qJ s b)=R at*;have c32:=λlo k hlo=>f32 (lo:=lo) (h:=h++[.cells F,.cells (Rul.row t)]) hlo k
 have c32a:=c32 lo t.k (by simp;omega);have c32b:=c32 (h.length+2) (JC1 s) (by simp)
 clear c32;simp only[Rul.row]at hgr c32a c32b
 cases hs0:decide (0<s.length)with
 |true=>
  rw[hs0,AB]at he;have hql:decide ((0:Int)<(s.length:Int))=true:=by rw[decide_eq_true_iff]at hs0⊢;omega
  simp only[Rul.row,go_sem,GV,b16,Tryz.f16,hlo,l1,l2,l3,q,hgr,hw,w1,qc,hkd,htop,hTk,hFs,hFs1,hFs2,hkk,hk2,a2,o1,o2,ra,rl,rb,c32a,c32b,hql,he,Jt,Ag,Ca,C9]<;>rfl
 |false=>
  have hql:decide ((0:Int)<(s.length:Int))=false:=by rw[decide_eq_false_iff_not]at hs0⊢;omega
  simp only[Rul.row,go_sem,GV,b16,Tryz.f16,hlo,l1,l2,l3,q,hgr,hw,w1,qc,hkd,htop,hTk,hFs,hFs1,hFs2,hkk,hk2,a2,o1,o2,ra,rl,rb,c32a,c32b,hql,he,Jt,Ag,Ca,C9]<;>rfl
def H45(h:JC)(s:Wh)(b:List CV)(H:JC):Prop:=∃j,Jnk j/\H=h++[.cells (Wi s b++j)]
theorem JW5{l:List Rul.Tk4}{t:Rul.Tk4}{i:Nat}{s:Wh}{b:List CV}{H:JC}(hlo:lo<=h.length)(hg:l[i]? =some t)(hl:l.length<=1000000000)(hz:szS s+b.length<=1000000000)(ho:Opn s)(hH:H45 h s b H):
  ∃H',evCode ⟨Aa,E,lo,h.length,h16⟩ JA GV (N45 h l (s.length+1) i,H)=some (.normal,N45 h l ((Qz t s b).1.length+1) (i+1),H')/\H45 h (Qz t s b).1 (Qz t s b).2 H':=by
 obtain⟨j,hj,rfl⟩:=hH;have hsl:=JBC s;by_cases hx:ctx s=some t.k
 ·cases s with
  |nil=>cases hx
  |cons p r=>
   obtain⟨o,ks⟩:=p;have he:JS o.k=t.k:=Option.some.inj hx;simp only[szS]at hz;have hrl:=JBC r;have hrt:=JH0 r b;have:=JcO (h:=h) (j:=j) (b:=b) (ks:=ks) hlo hg hl (by omega:r.length<=1000000000) om hj he
   have hst:Qz t ((o,ks)::r) b=Qc ((o,ks)::r) b:=by unfold Qz;rw[if_pos hx]
   rw[hst,zT];exact⟨_,this,_,G8 (G8 (λi=>⟨rfl,rfl⟩:Jnk (Rul.row o)) (JYJ JBD)) hj,rfl⟩
 ·have he:(decide (0<s.length)&&(t.k==JS (JC1 s)))=false:=by
   cases s with
   |nil=>rfl
   |cons p r=>
    obtain⟨o,ks⟩:=p;have:t.k≠JS o.k:=λe=>hx (by show some (JS o.k)=some t.k;rw[e])
    simp only[JC1,Ae];rw[beq_eq_false_iff_ne.2 this,BG]
  by_cases hc:JS t.k=0
  ·have hst:Qz t s b=Kp (.mk t []) s b:=by unfold Qz;rw[if_neg hx,if_neg (by simp[hc])]
   have hrt:=JH0 s b;rw[hst,JCD];exact⟨_,JiD hlo hg hl om om hj hc he,j,hj,rfl⟩
  ·have hst:Qz t s b=((t,[])::s,b):=by unfold Qz;rw[if_neg hx,if_pos hc]
   rw[hst];exact⟨_,JcN hlo hg hl om hj hc he,[],JBD,by simp⟩
theorem JcQ{l:List Rul.Tk4}{n:Nat}{s:Wh}{b:List CV}{H:JC}(hlo:lo<=h.length)(hH:H45 h s b H):
  evCode ⟨Aa,E,lo,h.length,h16⟩ JA GV (N45 h l n l.length,H)=some (.exit 0,N45 h l n l.length++[(12,.v (.bool false))],H):=by
 obtain⟨j,_,rfl⟩:=hH;have q:decide ((l.length:Int)<(l.length:Int))=false:=by simp
 simp only[N45,go_sem,GV,b16,Tryz.f16,hlo,q]<;>rfl
theorem JTR{l:List Rul.Tk4}(hlo:lo<=h.length)(hl:l.length<=1000000000):∀(m i:Nat) (s:Wh) (b:List CV) (H:JC),i+m=l.length->szS s+b.length+m<=1000000000->Opn s->H45 h s b H->
  ∃H',JA (evCode ⟨Aa,E,lo,h.length,h16⟩ JA GV) (N45 h l (s.length+1) i,H)=some (.exit 0,N45 h l ((runS (l.drop i) s b).1.length+1) l.length++[(12,.v (.bool false))],H')/\H45 h (runS (l.drop i) s b).1 (runS (l.drop i) s b).2 H'/\szS (runS (l.drop i) s b).1+(runS (l.drop i) s b).2.length<=1000000000
 |0,i,s,b,H,hm,hz,ho,hH=>by
  obtain rfl:i=l.length:=om;rw[List.drop_length,runS]
  exact⟨H,by rw[loop_eq,JcQ hlo hH,Kv],hH,om⟩
 |m+1,i,s,b,H,hm,hz,ho,hH=>by
  have hlt:i<l.length:=om;have hd:l.drop i=l[i]::l.drop (i+1):=List.drop_eq_getElem_cons hlt;obtain⟨H1,hr,h1⟩:=JW5 hlo (List.getElem?_eq_getElem hlt) hl om ho hH
  have hz1:=JS3 l[i] s b;obtain⟨H2,h2,h3,h4⟩:=JTR hlo hl m (i+1) _ _ H1 om om (JS2 ho) h1;rw[hd,runS];exact⟨H2,by rw[loop_eq,hr,JK,h2],h3,h4⟩
abbrev M45(h:JC)(n:Nat)(ex:Jj):Jj:=(3,.stk h.length n 7)::ex
def JcR(ex:Jj):Prop:=(∃a b c,ex=[(9,a),(10,b),(11,c)])\/ ∃a b c d,ex=[(9,a),(10,b),(11,c),(12,d)]
theorem JW6{o:Rul.Tk4}{ks:List CV}{s:Wh}{b:List CV}{j:List V}{ex:Jj}(he:JcR ex)(hlo:lo<=h.length)(hs:s.length<=1000000000)(hr:(qJ s b).length<=1000000000):
  evCode ⟨Aa,E,lo,h.length,h16⟩ JA JAa (M45 h (s.length+2) ex,h++[.cells (Wi ((o,ks)::s) b++j)])=
   some (.normal,M45 h (s.length+1) [(9,.undef),(10,.undef),(11,.undef)],h++[.cells (Wi (Qc ((o,ks)::s) b).1 (Qc ((o,ks)::s) b).2++(Rul.row o++[.list .yes (JL ks)]++j))]):=by
 have hcl:=JKp o ks s b j;have h5:=Jpt (lo:=lo) (p:=h) (t:=o) (ks:=ks) (F:=Wi ((o,ks)::s) b++j) hlo hs (JGj (o,ks) s b j) (JGk o ks s b j) (by rw[Ah,W9,Ae];omega) hr
 rw[hcl]at h5;have q:decide ((1:Int)<((s.length+2:Nat):Int))=true:=by rw[decide_eq_true_iff];omega
 generalize Wi ((o,ks)::s) b++j=F at*;generalize Wi (Qc ((o,ks)::s) b).1 (Qc ((o,ks)::s) b).2++(Rul.row o++[.list .yes (JL ks)]++j)=F2 at*;rcases he with⟨x,y,z,rfl⟩|⟨x,y,z,w,rfl⟩
 ·simp only[M45,go_sem,JAa,b16,Tryz.f16,hlo,q,h5]<;>rfl
 ·simp only[M45,go_sem,JAa,b16,Tryz.f16,hlo,q,h5]<;>rfl
theorem JiG{H:JC}{ex:Jj}(he:JcR ex)(hlo:lo<=h.length):
  evCode ⟨Aa,E,lo,h.length,h16⟩ JA JAa (M45 h 1 ex,H)=some (.exit 2,M45 h 1 [(59,.v (.bool false))],H):=by
 have q:decide ((1:Int)<((1:Nat):Int))=false:=rfl;rcases he with⟨x,y,z,rfl⟩|⟨x,y,z,w,rfl⟩
 ·simp only[M45,go_sem,JAa,b16,Tryz.f16,hlo,q,An]<;>rfl
 ·simp only[M45,go_sem,JAa,b16,Tryz.f16,hlo,q,An]<;>rfl
theorem JOC(hlo:lo<=h.length):∀(n:Nat) (s:Wh) (b:List CV) (H:JC) (ex:Jj),s.length=n->szS s+b.length<=1000000000->JcR ex->H45 h s b H->
  ∃H',JA (evCode ⟨Aa,E,lo,h.length,h16⟩ JA JAa) (M45 h (s.length+1) ex,H)=some (.exit 2,M45 h 1 [(59,.v (.bool false))],H')/\H45 h [] (Wd s b) H'
 |0,s,b,H,ex,hn,hz,he,hH=>by
  obtain rfl:=List.eq_nil_of_length_eq_zero hn
  exact⟨H,by rw[loop_eq];simp only[An,AE];rw[JiG he hlo,Kv],hH⟩
 |n+1,[],b,H,ex,hn,hz,he,hH=>by cases hn
 |n+1,(o,ks)::r,b,H,ex,hn,hz,he,hH=>by
  have hz1:=JKr o ks r b;simp only[szS,Ae]at hz hn;have hrl:=JBC r;have hrt:=JH0 r b;obtain⟨j,hj,rfl⟩:=hH;have hc:=JW6 (o:=o) (ks:=ks) (s:=r) (b:=b) (j:=j) he hlo om om;rw[yP];have hlen:=zT (o,ks) r b
  obtain⟨H2,h2,h3⟩:=JOC hlo n (Qc ((o,ks)::r) b).1 (Qc ((o,ks)::r) b).2 _ [(9,.undef),(10,.undef),(11,.undef)] om (by simp only[szS]at hz1;omega) (.inl ⟨_,_,_,rfl⟩)
   ⟨Rul.row o++[.list .yes (JL ks)]++j,G8 (G8 (λi=>⟨rfl,rfl⟩:Jnk (Rul.row o)) (JYJ JBD)) hj,rfl⟩
  refine⟨H2,?_,h3⟩
  rw[hlen]at h2;rw[loop_eq];simp only[Ae];rw[hc,JK];exact h2
theorem f16{l:List Rul.Tk4}(hlo:lo<=h.length)(hl:l.length<=1000000000):E lo 16 [.list .no (l.map Rul.row)] h=some (.list .no (JL (Hw l)),h):=by
 obtain⟨H1,h1,h2,h3⟩:=JTR (lo:=lo) (h:=h) hlo hl l.length 0 [] [] (h++[.cells (Wi [] [])]) om (by simp only[szS,An];omega) JWq ⟨[],JBD,by simp⟩
 rw[Az]at h1 h2 h3;obtain⟨H2,h4,h5⟩:=JOC (lo:=lo) (h:=h) hlo _ _ _ H1 [(9,.list .no (l.map Rul.row)),(10,.v (.int .i64 l.length)),(11,.v (.int .i64 l.length)),(12,.v (.bool false))] rfl h3 (.inr ⟨_,_,_,_,rfl⟩) h2;have hv:Wd (runS l [] []).1 (runS l [] []).2=Hw l:=rfl;rw[hv]at h5;have n0:((0:Nat):Int)=0:=rfl;have l1:lo<=h.length+1:=om
 have l2:lo<=h.length+2:=om;have e0:Rul.bs []=AA:=rfl;have p1:(0:Int)<((1:Nat):Int):=by decide
 rw[e16];simp only[GV,JAa,b16,Tryz.f16,JD,JT,JB,go_sem,N45,M45,Wi,Rul.row,Rul.bare,e0,n0,Jt,Al,Ai,An,AE]at h1 h4;obtain⟨j,_,rfl⟩:=h5;simp only[go_sem,b16,Tryz.f16,hlo,l1,l2,h1,h4,n0,p1,Wi,Rul.row,Rul.bare,e0,Jt,Ag,Al,Ai,An,AE]<;>rfl
end Go.Lift.M1
end

section
open Go.Proofs
namespace Go.Lift.M1
open Rul
open Utf (By)
variable[MX]
variable{lo:Nat}{h:JC}
theorem JcS{l:List CV}{top:Bool}{d:Nat}{out:List Ru}{i:Nat}(hlo:lo<=h.length)(hi:l.length<=i):
  evCode ⟨Aa,E,lo,h.length,h15⟩ JA QH (N44 l top d out i,h)=some (.exit 0,N44 l top d out i++[(17,.v (.bool false))],h):=by
 have q:decide ((i:Int)<(l.length:Int))=false:=by rw[decide_eq_false_iff_not];omega
 have rl:=JP l;simp only[N44];generalize JL l=R at*;simp only[go_sem,QH,qX,Tryz.f15,hlo,q,rl]<;>rfl
theorem JMz{l:List CV}{top:Bool}{d:Nat}{sub:List CV->List Ru}(hlo:lo<=h.length)(hl:JO l<=1000000000)(hB:Yl BtT l)(hdd:d<=1000)
  (hsub:d<=64->∀ks,Yl BtT ks->JO ks<=1000000000->∀lo h,lo<=h.length->E lo 15 [.list .no (JL ks),.v (.bool false),.v (.int .i64 (d+1:Nat))] h=some (.list .no (Kq (sub ks)),h)):
  ∀(n i:Nat) (out:List Ru),(l.drop i).length<n->out.length+(l.drop i).length<=1000000000->
  ∃i',JA (evCode ⟨Aa,E,lo,h.length,h15⟩ JA QH) (N44 l top d out i,h)=some (.exit 0,N44 l top d (out++K7 sub (decide (d<=64)) top n (l.drop i)) i'++[(17,.v (.bool false))],h)
 |0,i,out,hn,_=>by omega
 |n+1,i,out,hn,ho=>by
  cases hd:l.drop i with
  |nil=>
   have hi:l.length<=i:=by have:=congrArg AW hd;rw[Ay,An]at this;omega
   refine⟨i,?_⟩
   rw[loop_eq,JcS hlo hi,Kv,qN,Av]
  |cons v r=>
   rw[hd]at hn ho;simp only[Ae]at hn ho;obtain⟨i1,hr,h1⟩:=JW4 (top:=top) (out:=out) hlo hl om hd hB hdd hsub;have hs:=JPv sub (decide (d<=64)) top v r;obtain⟨i2,h2⟩:=JMz hlo hl hB hdd hsub n i1 (out++(QO sub (decide (d<=64)) top v r).1) (by rw[h1];omega) (by rw[h1,Ah];omega)
   refine⟨i2,?_⟩
   rw[loop_eq,hr,JK,h2,h1,jN,Ao]
theorem f15:∀(f:Nat),f<=64->∀(top:Bool) (l:List CV),Yl BtT l->JO l<=1000000000->∀(lo:Nat) (h:JC),lo<=h.length->
  E lo 15 [.list .no (JL l),.v (.bool top),.v (.int .i64 (65-f:Nat))] h=some (.list .no (Kq (Qh f top l)),h):=by
 intro f
 induction f with
 |zero=>
  intro hf top l hB hl lo h hlo;have hll:=Jq l;obtain⟨i',hL⟩:=JMz (lo:=lo) (h:=h) (top:=top) (d:=65) (sub:=λ_=>[]) hlo hl hB om (λh=>by omega) (l.length+1) 0 [] (by rw[Az];omega) (by rw[Az,An];omega)
  rw[Az,Ai]at hL;have ed:decide (65<=64)=false:=rfl;rw[ed]at hL;have er:Qh 0 top l=K7 (λ_=>[]) false top (l.length+1) l:=by rw[Qh]
  rw[er];generalize K7 (λ_=>[]) false top (l.length+1) l=Z at*
  have n0:((0:Nat):Int)=0:=rfl;rw[e15];simp only[QH,qX,Tryz.f15,JD,JT,JB,go_sem,N44,n0,yk,Al,Ai]at hL
  simp only[go_sem,qX,Tryz.f15,hlo,hL,n0]<;>rfl
 |succ f ih=>
  intro hf top l hB hl lo h hlo;have hll:=Jq l;have e1:65-(f+1)=64-f:=om;have e2:64-f+1=65-f:=om;rw[e1];obtain⟨i',hL⟩:=JMz (lo:=lo) (h:=h) (top:=top) (d:=64-f) (sub:=Qh f false) hlo hl hB om (λ_ ks hk hn lo h hlo=>by rw[e2];exact ih om false ks hk hn lo h hlo) (l.length+1) 0 [] (by rw[Az];omega) (by rw[Az,An];omega)
  rw[Az,Ai]at hL;have ed:decide (64-f<=64)=true:=by rw[decide_eq_true_iff];omega
  rw[ed]at hL;have er:Qh (f+1) top l=K7 (Qh f false) true top (l.length+1) l:=by rw[Qh]
  rw[er];generalize K7 (Qh f false) true top (l.length+1) l=Z at*;have n0:((0:Nat):Int)=0:=rfl;rw[e15];simp only[QH,qX,Tryz.f15,JD,JT,JB,go_sem,N44,n0,yk,Al,Ai]at hL;simp only[go_sem,qX,Tryz.f15,hlo,hL,n0]<;>rfl
theorem f8{l:List Rul.Tk4}(hlo:lo<=h.length)(hl:l.length<=500000000)(hB:∀t∈l,BtT t):E lo 8 [.list .no (l.map Rul.row)] h=some (.list .no (Kq (rules (Hw l))),h):=by have hn:=JCz l;have c16:=f16 (lo:=lo) (h:=h) (l:=l) hlo om;have c15:=f15 64 (Ab _) true (Hw l) (JGp hB) om lo h hlo;have e1:((65-64:Nat):Int)=1:=rfl;rw[e1]at c15;rw[e8];simp only[go_sem,b8,Tryz.f8,hlo,c16,c15]<;>rfl
end Go.Lift.M1
end

section
open Go.Proofs
namespace Go.Lift.M1
open Rul
open Utf (By)
variable[MX]
theorem JNb{l:List CV}{v:CV}(h:v∈(impOf l).1):v∈l:=by
 revert h;unfold impOf
 split
 ·rename_i x y r e
  split
  ·split
   ·rename_i z s e2
    split
    ·intro h
     have h1:=Hy h;have h2:v∈s:=by simpa using h1
     have h3:v∈y::r:=by
      have h4:v∈(y::r).dropWhile J3:=by rw[e2];exact Bt _ h2
      exact(AR _).subset h4
     have h5:v∈l.reverse:=by rw[e];exact Bt _ h3
     simpa using h5
    ·exact id
   ·exact id
  ·exact id
 ·exact id
theorem JPw{b:List Int}(h:By b):By (nameOf b):=by
 unfold nameOf
 split
 ·exact h
 ·exact jJ h
end Go.Lift.M1
end

section
namespace Go.Lift.Rul
def cT:List Tk4->Nat
 |[]=>0
 |t::l=>10*t.b.length+304+cT l
def cD(d:Dc):Nat:=10*d.name.length+cT (Je d.val)+400
def cDs:List Dc->Nat
 |[]=>0
 |d::r=>cD d+cDs r
mutual
def cR:Ru->Nat
 | .mk k n p ds rs=>n.length+cT (Je p)+cDs ds+qZ rs+100
def qZ:List Ru->Nat
 |[]=>0
 |r::l=>cR r+qZ l
end
mutual
def wtV:CV->Nat
 | .mk t ks=>20*t.b.length+1200+Wj ks
def Wj:List CV->Nat
 |[]=>0
 |v::r=>wtV v+Wj r
end
def wtT:List Tk4->Nat
 |[]=>0
 |t::l=>20*t.b.length+1200+wtT l
theorem jj:Wj []=0:=by rw[Wj]
theorem wtL_cons(v:CV)(r:List CV):Wj (v::r)=wtV v+Wj r:=by rw[Wj]
theorem JC2(v:CV):wtV v=20*v.t.b.length+1200+Wj v.ks:=by cases v;rw[wtV]<;>rfl
theorem JBJ(a b:List CV):Wj (a++b)=Wj a+Wj b:=by
 induction a with
 |nil=>rw[Ai,jj];omega
 |cons x r ih=>rw[Al,wtL_cons,wtL_cons,ih];omega
theorem jk{l m:List CV}(h:m<:+l):Wj m<=Wj l:=by obtain⟨p,rfl⟩:=h;rw[JBJ];omega
theorem JW7{l m:List CV}(h:m<+:l):Wj m<=Wj l:=by obtain⟨p,rfl⟩:=h;rw[JBJ];omega
theorem JBK(l:List CV):Wj l.reverse=Wj l:=by
 induction l with
 |nil=>rfl
 |cons x r ih=>rw[BS,JBJ,ih,wtL_cons,wtL_cons,jj];omega
theorem jO(l:List CV):Wj (trim l)<=Wj l:=by
 unfold trim;rw[JBK];refine AY (jk (AR _)) ?_
 rw[JBK];exact jk (AR _)
theorem JOD(l:List CV):Wj (impOf l).1<=Wj l:=by
 unfold impOf
 split
 ·rename_i x y r e
  split
  ·split
   ·rename_i z s e2
    split
    ·refine AY (jO _) ?_
     rw[JBK];have h1:Wj s<=Wj (z::s):=by rw[wtL_cons];omega
     have h2:Wj (z::s)<=Wj (y::r):=by rw[<-e2];exact jk (AR _)
     have h3:Wj (y::r)<=Wj (x::y::r):=by rw[wtL_cons x];omega
     have h4:Wj (x::y::r)=Wj l:=by rw[<-e,JBK]
     omega
    ·exact Ab _
   ·exact Ab _
  ·exact Ab _
 ·exact Ab _
def clT(c:Int):List Tk4:=if 0<c then[Rul.bare c]else[]
theorem ZK(t:Tk4)(ks r:List CV):Je (.mk t ks::r)=t::(Je ks++(clT (JS t.k)++Je r)):=by
 rw[Je,GT];unfold clT;have hcl:=GS t.k;by_cases hc:JS t.k=0
 ·rw[if_pos hc,if_neg om];simp
 ·rw[if_neg hc,if_pos om];simp
theorem KU:Je []=[]:=by rw[Je]
theorem JM0(a b:List Tk4):cT (a++b)=cT a+cT b:=by
 induction a with
 |nil=>rw[Ai,cT];omega
 |cons x r ih=>rw[Al,cT,cT,ih];omega
theorem JiH(k:Int):cT (clT k)<=304:=by
 unfold clT
 split
 ·show 10*0+304+cT []<=304
  rw[cT];exact Ab _
 ·rw[cT];exact A9 _
mutual
theorem JcT:∀v:CV,cT (GT v)<=wtV v
 | .mk t ks=>by
  have h:=JAB ks;have h2:=JiH (JS t.k)
  have e:GT (.mk t ks)=[t]++(Je ks++clT (JS t.k)):=by have:=ZK t ks [];rw[KU,Av,Je,KU,Av]at this;exact this
  rw[e,wtV,JM0,JM0,cT,cT];omega
theorem JAB:∀l:List CV,cT (Je l)<=Wj l
 |[]=>by rw[KU,cT];exact A9 _
 |v::r=>by have h1:=JcT v;have h2:=JAB r;rw[Je,JM0,wtL_cons];omega
end
theorem jh(b:List Int):(KR b).length=b.length:=by unfold KR;rw[Ag]
theorem JC3(b:List Int):(nameOf b).length=b.length:=by
 unfold nameOf
 split
 ·rfl
 ·exact jh b
theorem JW8{l:List CV}{d:Dc}(h:Z8 l=some d):cD d<=Wj l:=by
 cases l with
 |nil=>rw[Z8]at h;cases h
 |cons x l=>
  rw[Z8]at h
  split at h
  ·cases h
  ·split at h
   ·cases h
   ·rename_i c r e
    split at h
    ·cases h
    ·split at h
     ·cases h
     ·cases h
      have h1:=JOD (trim r);have h2:=jO r;have h3:Wj (c::r)<=Wj l:=by rw[<-e];exact jk (AR _)
      have h4:=JAB (impOf (trim r)).1;rw[wtL_cons]at h3;rw[wtL_cons,JC2];unfold cD;simp only[JC3];omega
theorem JW9(a b:List Dc):cDs (a++b)=cDs a+cDs b:=by
 induction a with
 |nil=>rw[Ai,cDs];omega
 |cons x r ih=>rw[Al,cDs,cDs,ih];omega
theorem JC4(f:CV->Bool)(l:List CV):Wj (l.takeWhile f)+Wj (l.dropWhile f)=Wj l:=by rw[<-JBJ,Co]
theorem HB:∀(n:Nat) (l:List CV),cDs (QZ n l)<=Wj l
 |0,l=>by rw[QZ,cDs];exact A9 _
 |n+1,[]=>by rw[QZ,cDs];exact A9 _
 |n+1,v::r=>by
  rw[QZ]
  split
  ·have:=HB n r
   rw[wtL_cons];omega
  ·split
   ·have h1:=HB n ((v::r).dropWhile (J4 17 23)).tail
    have h2:=jk ((DU _).trans (AR (p:=J4 17 23) (l:=v::r)));omega
   ·have h1:=HB n ((v::r).dropWhile (J4 17 17))
    have h2:=JC4 (J4 17 17) (v::r);rw[JW9]
    have h3:cDs (Z8 ((v::r).takeWhile (J4 17 17))).toList<=Wj ((v::r).takeWhile (J4 17 17)):=by
     cases hh:Z8 ((v::r).takeWhile (J4 17 17))with
     |none=>show cDs []<=_;rw[cDs];exact A9 _
     |some d=>
      show cDs [d]<=_
      rw[cDs,cDs];exact JW8 hh
    omega
theorem JPx(l:List CV):cDs (decls l)<=Wj l:=HB _ l
theorem JXA(a b:List Ru):qZ (a++b)=qZ a+qZ b:=by
 induction a with
 |nil=>rw[Ai,qZ];omega
 |cons x r ih=>rw[Al,qZ,qZ,ih];omega
theorem Ym:qZ []=0:=by rw[qZ]
theorem JOG(k:Int)(n:List Int)(p:List CV)(ds:List Dc)(rs:List Ru):qZ [.mk k n p ds rs]=n.length+cT (Je p)+cDs ds+qZ rs+100:=by rw[qZ,qZ,cR];all_goals omega
theorem JTU{sub:List CV->List Ru}(hs:∀l,qZ (sub l)<=Wj l)(live top:Bool)(v:CV)(r:List CV):qZ (QO sub live top v r).1+Wj (QO sub live top v r).2<=Wj (v::r):=by
 unfold QO
 split
 ·show qZ []+Wj r<=_
  rw[Ym,wtL_cons];omega
 ·split
  ·rename_i hk
   have hv:J4 17 23 v=true:=by
    have:v.k=3:=by simpa using hk
    unfold J4;rw[this]<;>rfl
   have h1:=JC4 (J4 17 23) (v::r);have ht:(v::r).takeWhile (J4 17 23)=v::r.takeWhile (J4 17 23):=by rw[Dz,if_pos hv]
   split
   ·show qZ []+Wj []<=_
    rw[Ym,jj];omega
   ·rename_i x s e
    rw[e,wtL_cons x]at h1
    split
    ·show qZ [_]+Wj s<=_
     rw[JOG,jh];have h2:=JAB (trim ((v::r).takeWhile (J4 17 23)).tail);have h3:=jO ((v::r).takeWhile (J4 17 23)).tail;have h4:=hs x.ks;have h5:=JC2 x;have h6:=JC2 v;rw[ht,wtL_cons]at h1;rw[ht,List.tail_cons]at h2 h3⊢;rw[cDs];omega
    ·show qZ []+Wj s<=_
     rw[Ym];omega
  ·have h1:=JC4 (J4 23 23) (v::r)
   split
   ·show qZ []+Wj []<=_
    rw[Ym,jj];omega
   ·rename_i x s e
    rw[e,wtL_cons x]at h1
    split
    ·show qZ [_]+Wj s<=_
     rw[JOG];have h2:=JAB (trim ((v::r).takeWhile (J4 23 23)));have h3:=jO ((v::r).takeWhile (J4 23 23));have h4:=JPx x.ks;have h5:=JC2 x;rw[Ym];simp only[An];omega
    ·show qZ []+Wj s<=_
     rw[Ym];omega
theorem qO{sub:List CV->List Ru}(hs:∀l,qZ (sub l)<=Wj l)(live top:Bool):∀(n:Nat) (l:List CV),qZ (K7 sub live top n l)<=Wj l
 |0,l=>by rw[K7,Ym];exact A9 _
 |n+1,[]=>by rw[K7,Ym];exact A9 _
 |n+1,v::r=>by have h1:=JTU hs live top v r;have h2:=qO hs live top n (QO sub live top v r).2;rw[jN,JXA];omega
theorem JC5:∀(f:Nat) (top:Bool) (l:List CV),qZ (Qh f top l)<=Wj l
 |0,top,l=>by
  rw[Qh]
  exact qO (λl=>by rw[Ym];exact A9 _) _ _ _ _
 |f+1,top,l=>by rw[Qh];exact qO (λl=>JC5 f false l) _ _ _ _
theorem JOH(a b:List Tk4):wtT (a++b)=wtT a+wtT b:=by
 induction a with
 |nil=>rw[Ai,wtT];omega
 |cons x r ih=>rw[Al,wtT,wtT,ih];omega
mutual
theorem JTV:∀v:PV,wtV (cvV v)<=wtT (QS v)
 | .leaf t=>by
  rw[cvV,wtV,QS,jj,wtT,wtT]
  omega
 | .node t ks c=>by have:=JC6 ks;rw[cvV,wtV,QS,wtT,JOH];omega
theorem JC6:∀F:List PV,Wj (cvL F)<=wtT (Ka F)
 |[]=>by rw[cvL,jj];exact A9 _
 |v::r=>by have:=JC6 r;have:=JTV v;rw[cvL,wtL_cons,Ka,JOH];omega
end
theorem JOJ(l:List Tk4):Wj (Hw l)<=wtT l:=by obtain⟨F,rfl,hg⟩:=JHT l;rw[zV hg];exact JC6 F
theorem JPy(l:List Tk4):qZ (rules (Hw l))<=wtT l:=AY (JC5 64 true (Hw l)) (JOJ l)
end Go.Lift.Rul
end

section
open Go.Proofs
namespace Go.Lift.M1
open Rul
open Utf (By)
variable[MX][HasD][HasN]
theorem JTW(k:Int):OkT (Rul.bare k):=⟨λc hc=>(Cc hc).elim,by simp[Rul.bare],by simp[Rul.bare],by simp[Rul.bare],by simp[Rul.bare],by simp[Rul.bare]⟩
theorem JcU(k:Int):∀t∈Rul.clT k,OkT t:=by
 intro t ht;unfold Rul.clT at ht
 split at ht
 ·rw[Bp]at ht
  subst ht;exact JTW _
 ·cases ht
mutual
theorem JPz:∀v:CV,JKy OkT v->∀t∈GT v,OkT t
 | .mk t ks,h=>by
  rw[JKy]at h
  have e:GT (.mk t ks)=[t]++(Je ks++clT (JS t.k)):=by have:=ZK t ks [];rw[KU,Av,Je,KU,Av]at this;exact this
  rw[e];intro u hu;rcases AN.1 hu with hu|hu
  ·rw[Bp]at hu
   subst hu;exact h.1
  ·rcases AN.1 hu with hu|hu
   ·exact JAC ks h.2 u hu
   ·exact JcU _ u hu
theorem JAC:∀l:List CV,Yl OkT l->∀t∈Je l,OkT t
 |[],_=>by rw[KU];intro t ht;cases ht
 |v::r,h=>by
  rw[Yl]at h;rw[Je];intro t ht;rcases AN.1 ht with ht|ht
  ·exact JPz v h.1 t ht
  ·exact JAC r h.2 t ht
end
theorem JBL:∀l:List Rul.Tk4,Zf (l.map ofR)=cT l
 |[]=>rfl
 |t::l=>by rw[List.map_cons,Zf,cT,JBL l]<;>rfl
def Okw(l:List CV):Prop:=Yl OkT l/\JO l<=100000000/\Wj l<=900000000
theorem JM1{l:List CV}(h:Okw l):OkL l:=⟨h.2.1,JAC l h.1,by rw[JBL];have:=JAB l;have:=h.2.2;omega⟩
theorem Z1{l m:List CV}(h:Okw l)(hs:m<:+l):Okw m:=⟨yj h.1 λv hv=>hs.subset hv,AY (Kr hs) h.2.1,AY (jk hs) h.2.2⟩
theorem JH7{l m:List CV}(h:Okw l)(hs:m<+:l):Okw m:=⟨yj h.1 λv hv=>hs.subset hv,AY (YA hs) h.2.1,AY (JW7 hs) h.2.2⟩
theorem JC7{l:List CV}(h:Okw l):Okw (trim l):=⟨yj h.1 λv hv=>Hy hv,AY (Z0 l) h.2.1,AY (jO l) h.2.2⟩
theorem JXB{l:List CV}(h:Okw l):Okw (impOf l).1:=⟨yj h.1 λv hv=>JNb hv,AY (JCy l) h.2.1,AY (JOD l) h.2.2⟩
theorem JOK{l:List CV}{v:CV}(h:Okw l)(hv:v∈l):OkT v.t:=(Wg.1 h.1 v hv).1
theorem JcV{l:List CV}{v:CV}(h:Okw l)(hv:v∈l):Okw v.ks:=by
 have h1:=Gu hv;rw[GU]at h1
 have h2:wtV v<=Wj l:=by
  have:∀l:List CV,v∈l->wtV v<=Wj l:=by
   intro l
   induction l with
   |nil=>intro h;cases h
   |cons x r ih=>
    intro h;rw[wtL_cons];rcases List.mem_cons.1 h with rfl|h
    ·omega
    ·have:=ih h;omega
  exact this l hv
 rw[JC2]at h2;have h3:=h.2;exact⟨(Wg.1 h.1 v hv).2,om,om⟩
theorem JTX{l:List CV}{d:Dc}(hB:Okw l)(h:Z8 l=some d):OkD d:=by
 cases l with
 |nil=>rw[Z8]at h;cases h
 |cons x l=>
  rw[Z8]at h
  split at h
  ·cases h
  ·split at h
   ·cases h
   ·rename_i c r e
    split at h
    ·cases h
    ·split at h
     ·cases h
     ·cases h
      have hx:=JOK hB (v:=x) (by simp)
      have hl:Okw l:=Z1 hB (Dr ..);have hc:Okw (c::r):=by rw[<-e];exact Z1 hl (AR _)
      have hr:Okw r:=Z1 hc (Dr ..);exact⟨JPw hx.hy,by show(nameOf x.t.b).length<=_;rw[JC3];exact hx.hl,JM1 (JXB (JC7 hr))⟩
theorem HD:∀(n:Nat) (l:List CV),Okw l->∀d∈QZ n l,OkD d
 |0,l,_,d,hd=>by rw[QZ]at hd;cases hd
 |n+1,[],_,d,hd=>by rw[QZ]at hd;cases hd
 |n+1,v::r,hB,d,hd=>by
  rw[QZ]at hd
  split at hd
  ·exact HD n r (Z1 hB (Dr ..)) d hd
  ·split at hd
   ·exact HD n _ (Z1 hB ((DU _).trans (AR _))) d hd
   ·rcases AN.1 hd with hd|hd
    ·have hd:Z8 ((v::r).takeWhile (J4 17 17))=some d:=by
      cases hh:Z8 ((v::r).takeWhile (J4 17 17))with
      |none=>rw[hh]at hd;cases hd
      |some y=>rw[hh]at hd;simp only[Option.toList,Bp]at hd;rw[hd]
     exact JTX (JH7 hB (Bw ..)) hd
    ·exact HD n _ (Z1 hB (AR ..)) d hd
theorem JP0{l:List CV}(hB:Okw l):(decls l).length<=1000000000/\ ∀d∈decls l,OkD d:=by
 have h1:=HA (l.length+1) l;have h2:=Jq l;have h3:=hB.2.1;refine⟨?_,HD _ l hB⟩
 unfold decls;omega
theorem JP1{sub:List CV->List Ru}{live top:Bool}{v:CV}{r:List CV}(hB:Okw (v::r))
  (hsub:live=true->∀l,Okw l->(sub l).length<=1000000000/\ ∀x∈sub l,OkR x):∀x∈(QO sub live top v r).1,OkR x:=by
 intro u hu
 have kid:∀(f:CV->Bool) (x:CV) (s:List CV),(v::r).dropWhile f=x::s->Okw x.ks:=λf x s e=>JcV hB ((AR f).subset (by rw[e];simp))
 unfold QO at hu
 split at hu
 ·cases hu
 ·split at hu
  ·split at hu
   ·cases hu
   ·rename_i x s e
    simp only at hu
    split at hu
    ·rename_i hc
     have hl:live=true:=by simp only[Af]at hc;exact hc.2
     rw[Bp]at hu;subst hu;have hs:=hsub hl x.ks (kid _ x s e);have hv:=JOK hB (v:=v) (by simp)
     have hp:Okw ((v::r).takeWhile (J4 17 23)).tail:=Z1 (JH7 hB (Bw ..)) (DU _);exact G4.2 ⟨jJ hv.hy,by rw[jh];exact hv.hl,JM1 (JC7 hp),by simp,λd hd=>(Cc hd).elim,hs.1,JBA hs.2⟩
    ·cases hu
  ·split at hu
   ·cases hu
   ·rename_i x s e
    simp only at hu
    split at hu
    ·rw[Bp]at hu
     subst hu;have hd:=JP0 (kid _ x s e);have hp:Okw ((v::r).takeWhile (J4 23 23)):=JH7 hB (Bw ..);exact G4.2 ⟨λc hc=>(Cc hc).elim,by simp,JM1 (JC7 hp),hd.1,hd.2,by simp,JBA λy hy=>(Cc hy).elim⟩
    ·cases hu
theorem qP{sub:List CV->List Ru}{live top:Bool}(hsub:live=true->∀l,Okw l->(sub l).length<=1000000000/\ ∀x∈sub l,OkR x):∀(n:Nat) (l:List CV),Okw l->
  (K7 sub live top n l).length<=l.length/\ ∀x∈K7 sub live top n l,OkR x
 |0,l,_=>by rw[K7];exact⟨A9 _,λx hx=>(Cc hx).elim⟩
 |n+1,[],_=>by rw[K7];exact⟨A9 _,λx hx=>(Cc hx).elim⟩
 |n+1,v::r,hB=>by
  have hs:=JAA sub live top v r;have hw:=JP1 (top:=top) hB hsub;have h1:=hs.1.length_le;obtain⟨h3,h4⟩:=qP (top:=top) hsub n (QO sub live top v r).2 (Z1 hB (hs.1.trans (Dr ..)));rw[jN];refine⟨?_,λx hx=>?_⟩
  ·rw[Ah,Ae]
   have:=hs.2;omega
  ·rcases AN.1 hx with hx|hx
   ·exact hw x hx
   ·exact h4 x hx
theorem JC8:∀(f:Nat) (top:Bool) (l:List CV),Okw l->(Qh f top l).length<=1000000000/\ ∀x∈Qh f top l,OkR x
 |0,top,l,hB=>by
  have h1:=Jq l;have h2:=hB.2.1;rw[Qh];have:=qP (sub:=λ_=>[]) (live:=false) (top:=top) (λh=>by cases h) (l.length+1) l hB
  exact⟨om,this.2⟩
 |f+1,top,l,hB=>by
  have h1:=Jq l;have h2:=hB.2.1;rw[Qh];have:=qP (sub:=Qh f false) (live:=true) (top:=top) (λ_=>JC8 f false) (l.length+1) l hB
  exact⟨om,this.2⟩
mutual
theorem JTY:∀r:Ru,HR r=cR r
 | .mk k n p ds rs=>by
  rw[HR,cR,qQ rs,JBL]
  congr 3
  induction ds with
  |nil=>rfl
  |cons d ds ih=>rw[Q2,cDs,ih];unfold JAk cD;rw[JBL]
theorem qQ:∀l:List Ru,J7 l=qZ l
 |[]=>by rw[J7,qZ]
 |r::l=>by rw[J7,qZ,JTY r,qQ l]
end
theorem JP2{l:List Rul.Tk4}(hl:l.length<=100000000)(hw:wtT l<=900000000)(hB:∀t∈l,OkT t):(rules (Hw l)).length<=1000000000/\ZV (rules (Hw l))/\J7 (rules (Hw l))<=900000000:=by have hn:=JCz l;have h1:=JOJ l;have:=JC8 64 true (Hw l) ⟨JGp hB,om,om⟩;have h2:=JPy l;exact⟨this.1,JBA this.2,by rw[qQ];omega⟩
end Go.Lift.M1
end
