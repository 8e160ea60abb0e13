/- jalousieref11.sum. -/
import Derived.Test.YtolidijpmnompaaGreatDoorGKb
import Derived.Test.YtolidijpmnompaaGreatDoorGKc
import Derived.Test.YtolidijpmnompaaGreatDoorGKd
import Derived.Test.YtolidijpmnompaaGreatDoorGKe
open Bool renaming and_eq_true->Af,and_false->Bg,eq_iff_iff->BJ,false_and->An,false_eq_true->Al,not_false->AO,not_true->AB,true_and->Au
open Go.IntKind renaming i64->AQ
open Go.Proofs.Tryz renaming prog->Aa
open Int renaming add_zero->D5,toNat->Bp,zero_add->Dw
open List renaming append_assoc->AM,drop_append_of_le_length->BL,drop_eq_getElem_cons->Ap,drop_eq_nil_of_le->A6,drop_length->AY,drop_nil->Ce,drop_zero->AJ,forall_mem_cons->Ct,getElem?_eq_getElem->Ac,getElem?_eq_some_iff->Ab,getElem?_map->Am,getElem_mem->AN,length_cons->Ai,length_nil->Ak,length_take->As,mem_singleton->AL,nil_append->Aq,take_length->BQ,take_succ_eq_append_getElem->Bk,take_zero->B0
open Nat renaming le_refl->Ag
set_option linter.unusedVariables false
set_option linter.unusedSimpArgs false
set_option linter.unusedSectionVars false
set_option maxRecDepth 20000
set_option maxHeartbeats 4000000
section
open Go.Proofs
namespace Go.Lift.Y1
open Rul
open Utf (By)
variable{lo:Nat}{h:JM}
section
variable{l:List CV}{w:List CV->Option X}
def JA7(l:List CV):Nat->Bool
 |0=>false
 |p+1=>match l[p]? with
  |some v=>JS v
  |none=>false
theorem ql(l:List CV)(p:Nat):JA7 l (p+1)=match l[p]? with
  |some v=>JS v
  |none=>false:=rfl
abbrev JdY(w:List CV->Option X)(l:List CV):Prop:=∀lo h,lo<=h.length->E lo 123 [.list .no (JH l)] h=some (.tup [.agg (xC (jd (Z2 (opR w) l)).1),.v (.bool (jd (Z2 (opR w) l)).2)],h)
theorem JRv{ks:List X}{f:Int}{m:Bool}(hlo:lo<=h.length)(hl:l.length<=1000000000):
  JA (evCode (yj lo h) JA QO) (Qx h l ks f m (l.length+1:Nat),KO h)=some (.exit 0,Qx h l ks f m (l.length+1:Nat)++[(16,.v (.bool false))],KO h):=by
 have q0:decide (((l.length+1:Nat):Int)<=(l.length:Int))=false:=by rw[decide_eq_false_iff_not];omega
 rw[JJ];simp only[yj,Qx,KO,xZ,go_sem,QO,b99,Tryz.f99,hlo,q0,JC]<;>rfl
theorem Jki{ks:List X}{f i:Nat}{m:Bool}(hlo:lo<=h.length)(hl:l.length<=1000000000)(hy:∀v∈l,By v.t.b)(hlt:i<l.length)(hc:(pmC l[i]&&(JA7 l i&&Kx (l.drop (i+1))))=false):
  evCode (yj lo h) JA QO (Qx h l ks f m i,KO h)=some (.normal,Qx h l ks f m (i+1:Nat),KO h):=by
 cases i with
 |zero=>exact JdT hlo hl hlt
 |succ p=>
  by_cases h1:p+1+1=l.length
  ·exact JdU hlo hl om h1
  ·have hp:p<l.length:=om
   have h2:p+1+1<l.length:=om;refine JdV (p:=p) (u:=l[p]) (v:=l[p+1]) (n:=l[p+1+1]) hlo hl rfl (Ac hp) (Ac hlt) (Ac h2) (hy _ (AN hlt)) ?_
   have e1:JA7 l (p+1)=JS l[p]:=by rw[ql,Ac hp]
   have e2:Kx (l.drop (p+1+1))=JS l[p+1+1]:=by rw[Ap h2]<;>rfl
   rw[e1,e2]at hc;exact hc
theorem JRw{i:Nat}{m:Bool}(hy:∀v∈l,By v.t.b)(hlt:i<l.length)(hc:(pmC l[i]&&(JA7 l i&&Kx (l.drop (i+1))))=true):JdW l i m (l[i].t.b==[45]):=by
 simp only[Af]at hc;obtain⟨h1,h2,h3⟩:=hc
 cases i with
 |zero=>cases h2
 |succ p=>
  have hp:p<l.length:=om
  have hn:p+1+1<l.length:=by
   rcases Nat.lt_or_ge (p+1+1) l.length with h|h
   ·exact h
   ·rw[A6 h]at h3;cases h3
  have e1:JA7 l (p+1)=JS l[p]:=by rw[ql,Ac hp]
  have e2:Kx (l.drop (p+1+1))=JS l[p+1+1]:=by rw[Ap hn]<;>rfl
  rw[e1]at h2;rw[e2]at h3;exact .inr ⟨p,l[p],l[p+1],l[p+1+1],rfl,Ac hp,Ac hlt,Ac hn,hy _ (AN hlt),h1,h2,h3,rfl⟩
theorem JHP{v:CV}(h:pmC v=true):JS v=false:=by
 cases q:JS v with
 |false=>rfl
 |true=>rw[JAe q]at h;cases h
theorem JCo{i:Nat}(hlt:i<l.length):JA7 l (i+1)=JS l[i]:=by rw[ql,Ac hlt]
theorem JDp(hlo:lo<=h.length)(hl:JL l<=100000000)(hy:∀v∈l,By v.t.b)(hp:∀i f,JdY w ((l.take i).drop f)):∀(n i f:Nat) (m:Bool) (ks:List X),i+n=l.length->f<=i->ks.length<=i->
  match Qi (opR w) ((l.take i).drop f) (JA7 l i) m ks (l.drop i)with
  |none=>∃tl,(∃e,tl=[.cells (xC e)])/\JA (evCode (yj lo h) JA QO) (Qx h l ks f m i,KO h)=HA h tl
  |some ks'=>∃m',JA (evCode (yj lo h) JA QO) (Qx h l ks f m i,KO h)=some (.exit 0,Qx h l ks' (l.length+1:Nat) m' (l.length+1:Nat)++[(16,.v (.bool false))],KO h)
 |0,i,f,m,ks,hm,hf,hk=>by
  have hll:=JT l;obtain rfl:i=l.length:=om;rw[AY,Qi];have hr:=JdX (lo:=lo) (h:=h) (ks:=ks) (f:=f) (i:=l.length) (m:=m) (m':=m) hlo om hf (Ag _) om (.inl ⟨rfl,rfl⟩) (hp l.length f)
  cases hq:Z2 (opR w) ((l.take l.length).drop f)with
  |none=>
   rw[hq]at hr
   exact⟨_,⟨_,rfl⟩,by rw[JJ,hr];exact Ki ..⟩
  |some x=>
   rw[hq]at hr;simp only[jd,↓reduceIte]at hr
   exact⟨m,by rw[JJ,hr,Jg,JRv hlo om]⟩
 |n+1,i,f,m,ks,hm,hf,hk=>by
  have hll:=JT l;have hlt:i<l.length:=om;rw[Ap hlt,Qi];by_cases hc:(pmC l[i]&&(JA7 l i&&Kx (l.drop (i+1))))=true
  ·rw[if_pos hc]
   have hr:=JdX (lo:=lo) (h:=h) (ks:=ks) (f:=f) (i:=i) (m:=m) hlo om hf om om (JRw hy hlt hc) (hp i f)
   cases hq:Z2 (opR w) ((l.take i).drop f)with
   |none=>
    rw[hq]at hr
    exact⟨_,⟨_,rfl⟩,by rw[JJ,hr];exact Ki ..⟩
   |some x=>
    rw[hq]at hr;simp only[jd,↓reduceIte]at hr;simp only;have ih:=JDp hlo hl hy hp n (i+1) (i+1) (l[i].t.b==[45]) (ks++[Hp 3 m x]) om (Ag _) (by simp;omega)
    have e0:(l.take (i+1)).drop (i+1)=[]:=A6 (by rw[As];omega)
    have es:JA7 l (i+1)=false:=by rw[JCo hlt];exact JHP (by rw[Af]at hc;exact hc.1)
    rw[e0,es]at ih
    have e1:JA (evCode (yj lo h) JA QO) (Qx h l ks f m i,KO h)=JA (evCode (yj lo h) JA QO) (Qx h l (ks++[Hp 3 m x]) (i+1:Nat) (l[i].t.b==[45]) (i+1:Nat),KO h):=by conv=>lhs;rw[JJ,hr,Jg]
    rw[e1];exact ih
  ·rw[if_neg hc]
   have hd:(l.take (i+1)).drop f=(l.take i).drop f++[l[i]]:=by rw[Bk hlt,BL (by rw[As];omega)]
   have ih:=JDp hlo hl hy hp n (i+1) f m ks om om om;rw[hd,JCo hlt]at ih;have hr:=Jki (lo:=lo) (h:=h) (ks:=ks) (f:=f) (m:=m) hlo om hy hlt (by simpa using hc)
   have e1:JA (evCode (yj lo h) JA QO) (Qx h l ks f m i,KO h)=JA (evCode (yj lo h) JA QO) (Qx h l ks f m (i+1:Nat),KO h):=by conv=>lhs;rw[JJ,hr,Jg]
   rw[e1];exact ih
theorem Jkj{L:List CV}(hlo:lo<=h.length)(hl:JL L<=100000000)(hw:Wv w (Je L)):
  E lo 99 [.list .no (JH L)] h=some (.tup [.agg (xC (jd (JJo (opR w) L)).1),.v (.bool (jd (JJo (opR w) L)).2)],h):=by
 have htl:=KX L;have hLl:=JT L;have l1:lo<=h.length+1:=om;have c36:=λlo h hlo=>f36 (lo:=lo) (h:=h) (l:=L) hlo om
 unfold JJo;generalize Je L=l at hw htl c36⊢;have hll:=JT l;have hp:∀i f,JdY w ((l.take i).drop f):=λi f lo h hlo=>f123 hlo (by have:=Wb (l:=l) (i:=i) (f:=f);omega) (λv hv=>hw v (List.mem_of_mem_take (List.mem_of_mem_drop hv)))
 have hL:=JDp (lo:=lo) (h:=h) (w:=w) hlo om (λv hv=>(hw v hv).1) hp l.length 0 0 false [] om (Ag _) (Ag _)
 rw[B0,Ce,AJ,show JA7 l 0=false from rfl]at hL
 rw[e99]
 cases hq:Qi (opR w) [] false false [] l with
 |none=>
  rw[hq]at hL;obtain⟨tl,⟨e,rfl⟩,hL⟩:=hL;simp only[Option.map_none,jd,Jq,JP,JW];obtain⟨ek,en,ed,eu,el⟩:=e;simp only[QO,b99,Tryz.f99,JK,loops,JB,yj,Qx,KO,HA,xZ,JP,JW,show((0:Nat):Int)=0 from rfl,go_sem]at hL
  simp only[go_sem,b99,Tryz.f99,hlo,l1,c36,hL]<;>rfl
 |some ks'=>
  rw[hq]at hL;obtain⟨m',hL⟩:=hL;simp only[QO,b99,Tryz.f99,JK,loops,JB,yj,Qx,KO,xZ,JW,show((0:Nat):Int)=0 from rfl,go_sem]at hL
  simp only[Option.map_some,jd]
  match ks',hL with
  |[],hL=>
   have q:(((0:Nat):Int)==1)=false:=rfl;have q':((0:Int)==1)=false:=rfl;rw[show J8 (.mk 2 0 0 0 [])= .mk 2 0 0 0 []from rfl,JP]
   simp only[JW]at hL⊢
   simp only[go_sem,b99,Tryz.f99,hlo,l1,c36,hL,q,q',Ak]<;>rfl
  |[x],hL=>
   obtain⟨k',n',d',u',kids'⟩:=x;have q:(((0+1:Nat):Int)==1)=true:=rfl;have q':((1:Int)==1)=true:=rfl;rw[show J8 (.mk 2 0 0 0 [.mk k' n' d' u' kids'])= .mk k' n' d' u' kids' from rfl]
   simp only[J6,JW,JP]at hL⊢
   simp only[go_sem,b99,Tryz.f99,hlo,l1,c36,hL,q,q',Ai,Ak]<;>rfl
  |x::y::r,hL=>
   have q:(((r.length+1+1:Nat):Int)==1)=false:=by rw[beq_eq_false_iff_ne];omega
   rw[show J8 (.mk 2 0 0 0 (x::y::r))= .mk 2 0 0 0 (x::y::r)from rfl,JP]
   simp only[J6]at hL⊢;simp only[go_sem,b99,Tryz.f99,hlo,l1,c36,hL,q,Ai,Jf]<;>rfl
end
end Go.Lift.Y1
end

section
open Go.Proofs
namespace Go.Lift.Y1
open Rul
variable{lo:Nat}{h:JM}
theorem JdZ{l:List CV}(hlo:lo<=h.length)(hl:JL l<=1000000000):E lo 36 [.list .no (JH l)] h=some (.list .no (JH (Je l)),h):=f36 hlo (by have:=JT l;omega)
abbrev H9(l:List CV)(out:List (List CV))(f i:Nat):Jr:=[(0,.list .no (JH l)),(3,.list .yes (Wn out)),(4,.v (.int .i64 f)),(7,.list .no (JH l)),(8,.v (.int .i64 l.length)),(9,.v (.int .i64 i))]
theorem JPf{l:List CV}{out:List (List CV)}{v:CV}{f i:Nat}(hlo:lo<=h.length)(hl:JL l<=1000000000)(hg:l[i]? =some v)(hf:f<=i)(ho:out.length<=1000000000)(hk:v.k=18):
  evCode ⟨Aa,E,lo,h.length,JOv⟩ JA jS (H9 l out f i,h)=some (.normal,H9 l (out++[Je ((l.take i).drop f)]) (i+1) (i+1),h):=by
 obtain⟨t,ks⟩:=v;have hlt:i<l.length:=(Ab.1 hg).1
 have hll:l.length<=1000000000:=by have:=JT l;omega
 have hgr:(JH l)[i]? =some (Jp (.mk t ks)):=by rw[Jm,hg]<;>rfl
 have q:decide ((i:Int)<(l.length:Int))=true:=by simpa using hlt
 have hw:=Jd (i:=i) om;have qk:(t.k==18)=true:=by rw[beq_iff_eq];exact hk
 have l1:lo<=h.length+1:=om;have hi:i<=l.length:=om;have hc:=λlo hlo=>JdZ (lo:=lo) (h:=h++[.cells (Jp (.mk t ks))]) (l:=(l.take i).drop f) hlo (by have:=Wb (l:=l) (i:=i) (f:=f);omega)
 rw[JN]at*;have ca:=hc lo (by simp;omega);have cb:=hc (h.length+1) (by simp)
 clear hc;have ed:((JH l).take i).drop f=JH ((l.take i).drop f):=by rw[Ku,K3]
 have ra:=Jn ((l.take i).drop f);have rl:=Jn l;have pa:=yg out;have pl:=Hj out;have pi:=yh out;have o1:(out.length+1)*24<=140737488355328:=om;have o2:out.length<=9223372036854775806:=om;simp only[H9];rw[kL];generalize Wn out=R at*;simp only[go_sem,jS,JJV,Tryz.f100,hlo,q,hgr,hw,qk,l1,hi,hf,ca,cb,ed,ra,rl,pa,pl,pi,o1,o2,JC]<;>rfl
theorem JRx{l:List CV}{out:List (List CV)}{v:CV}{f i:Nat}(hlo:lo<=h.length)(hl:l.length<=1000000000)(hg:l[i]? =some v)(hk:v.k≠18):
  evCode ⟨Aa,E,lo,h.length,JOv⟩ JA jS (H9 l out f i,h)=some (.normal,H9 l out f (i+1),h):=by
 obtain⟨t,ks⟩:=v;have hlt:i<l.length:=(Ab.1 hg).1
 have hgr:(JH l)[i]? =some (Jp (.mk t ks)):=by rw[Jm,hg]<;>rfl
 have q:decide ((i:Int)<(l.length:Int))=true:=by simpa using hlt
 have hw:=Jd (i:=i) om;have qk:(t.k==18)=false:=by rw[beq_eq_false_iff_ne];exact hk
 have l1:lo<=h.length+1:=om;rw[JN]at*;simp only[H9,go_sem,jS,JJV,Tryz.f100,hlo,q,hgr,hw,qk,l1,JC]<;>rfl
theorem JAh{l:List CV}(hlo:lo<=h.length)(hl:JL l<=1000000000):∀(m i f:Nat) (out:List (List CV)),m=l.length-i->i<=l.length->f<=i->out.length<=i->
  ∃(f':Nat) (o:List (List CV)),f'<=l.length/\o.length<=l.length/\out++QZ ((l.take i).drop f) (l.drop i)=o++[Je (l.drop f')]/\
   JA (evCode ⟨Aa,E,lo,h.length,JOv⟩ JA jS) (H9 l out f i,h)=some (.exit 0,H9 l o f' l.length++[(10,.v (.bool false))],h)
 |0,i,f,out,hm,hi,hf,ho=>by
  obtain rfl:i=l.length:=om;have hd:decide ((l.length:Int)<(l.length:Int))=false:=by simp
  refine⟨f,out,hf,ho,?_,?_⟩
  ·rw[AY,QZ,BQ]
  ·rw[JJ]
   simp only[H9,go_sem,jS,JJV,Tryz.f100,hlo,hd]<;>rfl
 |m+1,i,f,out,hm,hi,hf,ho=>by
  have hlt:i<l.length:=om;have hll:l.length<=1000000000:=by have:=JT l;omega
  have hg:=Ac hlt
  rw[Ap hlt,QZ,JJ];by_cases hk:(l[i]).k=18
  ·rw[if_pos hk,JPf hlo hl hg hf om hk,Jg]
   obtain⟨f',o,h1,h2,h3,h4⟩:=JAh hlo hl m (i+1) (i+1) (out++[Je ((l.take i).drop f)]) om om (Ag _) (by rw[List.length_append,List.length_singleton];omega)
   have e0:(l.take (i+1)).drop (i+1)=[]:=A6 (by rw[As];omega)
   rw[e0,AM,List.singleton_append]at h3;exact⟨f',o,h1,h2,h3,h4⟩
  ·rw[if_neg hk,JRx hlo hll hg hk,Jg]
   obtain⟨f',o,h1,h2,h3,h4⟩:=JAh hlo hl m (i+1) f out om om om om
   have hd:(l.take (i+1)).drop f=(l.take i).drop f++[l[i]]:=by rw[Bk hlt,BL (by rw[As];omega)]
   rw[hd]at h3;exact⟨f',o,h1,h2,h3,h4⟩
theorem f100{l:List CV}(hlo:lo<=h.length)(hl:JL l<=1000000000):E lo 100 [.list .no (JH l)] h=some (.list .no (Wn (J1 l)),h):=by
 have hll:l.length<=1000000000:=by have:=JT l;omega
 obtain⟨f',o,h1,h2,h3,h4⟩:=JAh (lo:=lo) (h:=h) hlo hl l.length 0 0 [] om (Nat.zero_le _) (Ag _) (Ag _);simp only[Aq,AJ,B0,Ce]at h3;have e:J1 l=o++[Je (l.drop f')]:=h3;rw[e,kL];simp only[H9,jS,JJV,Tryz.f100,JK,loops,JB,go_sem,Wn,List.map_nil]at h4;have hc:=λlo hlo=>JdZ (lo:=lo) (h:=h) (l:=l.drop f') hlo (by have:=yM (l:=l) (f:=f');omega)
 have ca:=hc lo hlo;have cb:=hc h.length (Ag _);have n0:((0:Nat):Int)=0:=rfl;have ed:(JH l).drop f'=JH (l.drop f'):=K3 l f';have et:(JH l).take l.length=JH l:=by rw[Ku,BQ]
 have ra:=Jn (l.drop f');have rl:=Jn l;have pa:=yg o;have pl:=Hj o;have pi:=yh o;have o1:(o.length+1)*24<=140737488355328:=om;have o2:o.length<=9223372036854775806:=om;unfold Wn at pa pl pi⊢;rw[Ji1];simp only[go_sem,JJV,Tryz.f100,hlo,n0,h4,h1,ca,cb,ed,et,ra,rl,pa,pl,pi,o1,o2,JC]<;>rfl
end Go.Lift.Y1
end

section
open Go.Proofs
namespace Go.Lift.Y1
open Rul
open Utf (By)
variable{lo:Nat}{h:JM}
theorem Jkk{t:Tk4}{kids:List CV}{w:List CV->X×Bool}(hlo:lo<=h.length)(ht:okT t)(hk:(t.k==10)=true):
  E lo 69 [.agg (Jp (.mk t kids))] h=some (.tup [.agg (xC (KA w (.mk t kids)).1),.v (.bool (KA w (.mk t kids)).2)],h):=by
 have l1:lo<=h.length+1:=om;have l2:lo<=h.length+1+1:=om;have l3:lo<=h.length+3:=om;have c96:=λlo h hlo=>f96 (lo:=lo) (h:=h) (n:=t.n) (d:=t.d) ht.2.2.1.1 ht.2.2.1.2 ht.2.2.2.2 hlo
 rw[qX hk,e69];unfold yW
 cases hm:Spell.kK t.n t.d with
 |true=>
  simp only[hm,if_true]at c96;simp only[if_true,JP,JN,JW]
  simp only[go_sem,b69,Tryz.f69,hlo,l1,l2,l3,hk,c96]<;>rfl
 |false=>simp only[hm,if_false,Al]at c96;simp only[if_false,Al,JP,JN,JW];simp only[go_sem,b69,Tryz.f69,hlo,l1,l2,l3,hk,c96]<;>rfl
theorem Jkl{t:Tk4}{kids:List CV}{w:List CV->X×Bool}(hlo:lo<=h.length)(ht:okT t)(h0:(t.k==10)=false)(hk:(t.k==12)=true):
  E lo 69 [.agg (Jp (.mk t kids))] h=some (.tup [.agg (xC (KA w (.mk t kids)).1),.v (.bool (KA w (.mk t kids)).2)],h):=by
 have l1:lo<=h.length+1:=om;have l2:lo<=h.length+1+1:=om;have l3:lo<=h.length+3:=om;have c96:=λlo h hlo=>f96 (lo:=lo) (h:=h) (n:=t.n) (d:=t.d) ht.2.2.1.1 ht.2.2.1.2 ht.2.2.2.2 hlo
 have c97:=λlo h hlo=>f97 (lo:=lo) (h:=h) (b:=t.b) hlo ht.1 ht.2.1
 have hu:decide (0<ZC t.b)=(ZC t.b !=0):=by
  have:0<=ZC t.b:=by
   unfold ZC
   have:∀(l:List (List Int)) (i:Nat),0<=unitF (Jc t.b) l i:=by
    intro l
    induction l with
    |nil=>intro i;exact Int.le_refl _
    |cons a r ih=>
     intro i;unfold unitF
     split
     ·omega
     ·exact ih _
   exact this _ _
  rw[BJ,decide_eq_true_iff,bne_iff_ne];omega
 rw[JCa h0 hk,e69];rw[<-hu];unfold yW;generalize ZC t.b=un at c97⊢
 cases hm:Spell.kK t.n t.d with
 |true=>
  simp only[hm,if_true]at c96;simp only[if_true,JP,JN,JW]
  simp only[go_sem,b69,Tryz.f69,hlo,l1,l2,l3,h0,hk,c96,c97]<;>rfl
 |false=>simp only[hm,if_false,Al]at c96;simp only[if_false,Al,JP,JN,JW];simp only[go_sem,b69,Tryz.f69,hlo,l1,l2,l3,h0,hk,c96,c97]<;>rfl
theorem JRy{b:List Int}(h:b.all (λc=>decide (0<=c)&&decide (c<256))=true):By b:=λc hc=>by have:=List.all_eq_true.1 h c hc;simp only[Af,decide_eq_true_eq]at this;omega
theorem JXV{t:Tk4}{kids:List CV}(ht:okT t):∀lo h,lo<=h.length->E lo 98 [.agg (Jp (.mk t kids)),.v (.int .i64 2),.v (.string ⟨#[99,97,108,99]⟩)] h=some (.v (.bool (t.k==2&&Jc t.b==W3)),h):=
 λlo h hlo=>f98 (w:=W3) hlo ht (JRy (by decide)) (by decide) (by decide)
theorem Jda{t:Tk4}{kids:List CV}(ht:okT t):∀lo h,lo<=h.length->E lo 98 [.agg (Jp (.mk t kids)),.v (.int .i64 2),.v (.string ⟨#[109,105,110]⟩)] h=some (.v (.bool (t.k==2&&Jc t.b==G5)),h):=
 λlo h hlo=>f98 (w:=G5) hlo ht (JRy (by decide)) (by decide) (by decide)
theorem Jdb{t:Tk4}{kids:List CV}(ht:okT t):∀lo h,lo<=h.length->E lo 98 [.agg (Jp (.mk t kids)),.v (.int .i64 2),.v (.string ⟨#[109,97,120]⟩)] h=some (.v (.bool (t.k==2&&Jc t.b==G6)),h):=
 λlo h hlo=>f98 (w:=G6) hlo ht (JRy (by decide)) (by decide) (by decide)
theorem Jdc{t:Tk4}{kids:List CV}(ht:okT t):∀lo h,lo<=h.length->E lo 98 [.agg (Jp (.mk t kids)),.v (.int .i64 2),.v (.string ⟨#[99,108,97,109,112]⟩)] h=some (.v (.bool (t.k==2&&Jc t.b==Qb)),h):=
 λlo h hlo=>f98 (w:=Qb) hlo ht (JRy (by decide)) (by decide) (by decide)
section
variable{t:Tk4}{kids:List CV}{w:List CV->X×Bool}
theorem Jdd(hlo:lo<=h.length)(ht:okT t)(h0:(t.k==10)=false)(h1:(t.k==12)=false)(n1:(t.k==2&&Jc t.b==W3)=false)(n2:(t.k==2&&Jc t.b==G5)=false)(n3:(t.k==2&&Jc t.b==G6)=false)(n4:(t.k==2&&Jc t.b==Qb)=false):
  E lo 69 [.agg (Jp (.mk t kids))] h=some (.tup [.agg (xC Jq),.v (.bool false)],h):=by
 have l1:lo<=h.length+1:=om;have l2:lo<=h.length+1+1:=om;have l3:lo<=h.length+3:=om;have q1:=JXV (kids:=kids) ht;have q2:=Jda (kids:=kids) ht;have q3:=Jdb (kids:=kids) ht;have q4:=Jdc (kids:=kids) ht;rw[n1]at q1;rw[n2]at q2;rw[n3]at q3;rw[n4]at q4;rw[e69];simp only[JN]at q1 q2 q3 q4;simp only[Jq,JP,JN,JW];simp only[go_sem,b69,Tryz.f69,hlo,l1,l2,l3,h0,h1,q1,q2,q3,q4]<;>rfl
def JJr(w:List CV->X×Bool)(l:List CV):Prop:=∀lo h,lo<=h.length->E lo 99 [.list .no (JH l)] h=some (.tup [.agg (xC (w l).1),.v (.bool (w l).2)],h)
theorem Jkm(hlo:lo<=h.length)(ht:okT t)(h0:(t.k==10)=false)(h1:(t.k==12)=false)(n1:(t.k==2&&Jc t.b==W3)=true)(hw:JJr w kids):
  E lo 69 [.agg (Jp (.mk t kids))] h=some (.tup [.agg (xC (w kids).1),.v (.bool (w kids).2)],h):=by
 have l1:lo<=h.length+1:=om;have l2:lo<=h.length+1+1:=om;have l3:lo<=h.length+3:=om;have q1:=JXV (kids:=kids) ht;rw[n1]at q1;have c99:∀lo h,lo<=h.length->E lo 99 [.list .no (JH kids)] h=some (.tup [.agg (xC (w kids).1),.v (.bool (w kids).2)],h):=hw;rw[e69];generalize w kids=r at c99⊢;obtain⟨⟨ek,en,ed,eu,el⟩,eb⟩:=r;simp only[JP,JN]at c99 q1⊢
 simp only[go_sem,b69,Tryz.f69,hlo,l1,l2,l3,h0,h1,q1,c99]<;>rfl
abbrev N69(h:JM)(K:Int)(ps:List (List CV))(j:Int):Jr:=[(2,.ptr (h.length+1) 0),(6,.v (.int .i64 K)),(7,.ptr (h.length+3) 0),(58,.list .no (Wn ps)),(59,.v (.int .i64 ps.length)),(60,.v (.int .i64 j))]
abbrev H69(h:JM)(t:Tk4)(kids:List CV)(K:Int)(ks:List X):JM:=h++[.cells (Jp (.mk t kids)),.cells xZ,.cells [.v (.int .i64 t.k),.v (.string (Rul.bs t.b)),.v (.int .i64 t.n),.v (.int .i64 t.d),.v (.bool t.w),.v (.bool t.i)],.cells (xO K ks)]
theorem Jkn{K:Int}{ps:List (List CV)}{p:List CV}{j:Nat}{ks:List X}{e:X}(hlo:lo<=h.length)(hl:ps.length<=1000000000)(hks:ks.length<=1000000000)(hg:ps[j]? =some p)
  (hw:∀lo h,lo<=h.length->E lo 99 [.list .no (JH p)] h=some (.tup [.agg (xC e),.v (.bool true)],h)):
  evCode ⟨Aa,E,lo,h.length,h69⟩ JA H5 (N69 h K ps j,H69 h t kids K ks)=some (.normal,N69 h K ps (j+1:Nat),H69 h t kids K (ks++[e])):=by
 have l1:lo<=h.length+1:=om;have l2:lo<=h.length+1+1:=om;have l3:lo<=h.length+3:=om;have l4:lo<=h.length+4:=om;have hlt:j<ps.length:=(Ab.1 hg).1
 have hgr:(Wn ps)[j]? =some [.list .no (JH p)]:=by unfold Wn;rw[Am,hg]<;>rfl
 have q1:decide ((j:Int)<(ps.length:Int))=true:=by rw[decide_eq_true_iff];omega
 have t1:Bp (j:Int)=j:=om;have hwr:=Jd (i:=j) om;obtain⟨ek,en,ed,eu,el⟩:=e;simp only[JP]at hw;have o1:=JCc hks;have o2:=JCd hks;have ra:=Hk ks;have rl:=Jf ks;have rb:=Hl ks;simp only[N69,H69,JN,xZ,xO,<-Qp,J6,JW,JP];generalize ZG ks=Q at ra rl rb⊢;simp only[go_sem,H5,b69,Tryz.f69,hlo,l1,l2,l3,l4,hgr,q1,t1,hwr,hw,o1,o2,ra,rl,rb]<;>rfl
abbrev R69(h:JM)(t:Tk4)(kids:List CV)(K:Int)(ks:List X)(e:X):Option (Ex×Jr×JM):=some (.ret,[(2,.ptr (h.length+1) 0),(3,.v (.bool false))],h++[.cells (Jp (.mk t kids)),.cells xZ,.cells [.v (.int .i64 t.k),.v (.string (Rul.bs t.b)),.v (.int .i64 t.n),.v (.int .i64 t.d),.v (.bool t.w),.v (.bool t.i)],.cells (xO K ks),.cells (xC e)])
theorem Jko{K:Int}{ps:List (List CV)}{p:List CV}{j:Nat}{ks:List X}{e:X}(hlo:lo<=h.length)(hl:ps.length<=1000000000)(hg:ps[j]? =some p)
  (hw:∀lo h,lo<=h.length->E lo 99 [.list .no (JH p)] h=some (.tup [.agg (xC e),.v (.bool false)],h)):
  evCode ⟨Aa,E,lo,h.length,h69⟩ JA H5 (N69 h K ps j,H69 h t kids K ks)=R69 h t kids K ks e:=by
 have l1:lo<=h.length+1:=om;have l2:lo<=h.length+1+1:=om;have l3:lo<=h.length+3:=om;have l4:lo<=h.length+4:=om;have hlt:j<ps.length:=(Ab.1 hg).1
 have hgr:(Wn ps)[j]? =some [.list .no (JH p)]:=by unfold Wn;rw[Am,hg]<;>rfl
 have q1:decide ((j:Int)<(ps.length:Int))=true:=by rw[decide_eq_true_iff];omega
 have t1:Bp (j:Int)=j:=om;obtain⟨ek,en,ed,eu,el⟩:=e;simp only[JP]at hw;simp only[N69,H69,R69,JN,xZ,xO,JP,Jq,JW];simp only[go_sem,H5,b69,Tryz.f69,hlo,l1,l2,l3,l4,hgr,q1,t1,hw]<;>rfl
theorem JXW{K:Int}{ps:List (List CV)}{ks:List X}(hlo:lo<=h.length):
  evCode ⟨Aa,E,lo,h.length,h69⟩ JA H5 (N69 h K ps (ps.length:Nat),H69 h t kids K ks)=some (.exit 2,N69 h K ps (ps.length:Nat)++[(61,.v (.bool false))],H69 h t kids K ks):=by
 have l1:lo<=h.length+1:=om;have l3:lo<=h.length+3:=om;have q1:decide ((ps.length:Int)<(ps.length:Int))=false:=by rw[decide_eq_false_iff_not];omega
 simp only[N69,H69,JN,xZ,xO,go_sem,H5,b69,Tryz.f69,hlo,l1,l3,q1]<;>rfl
theorem JPg{K:Int}{ps:List (List CV)}(hlo:lo<=h.length)(hl:ps.length<=100000000)(hw:∀p∈ps,JJr w p):∀(m j:Nat) (ks:List X),j+m=ps.length->ks.length+m<=1000000000->
  match K5 w (ps.drop j)with
  |none=>∃e ks',JA (evCode ⟨Aa,E,lo,h.length,h69⟩ JA H5) (N69 h K ps j,H69 h t kids K ks)=R69 h t kids K ks' e
  |some xs=>JA (evCode ⟨Aa,E,lo,h.length,h69⟩ JA H5) (N69 h K ps j,H69 h t kids K ks)=some (.exit 2,N69 h K ps (ps.length:Nat)++[(61,.v (.bool false))],H69 h t kids K (ks++xs))
 |0,j,ks,hj,hk=>by
  obtain rfl:j=ps.length:=om;rw[AY];show JA _ _=_
  rw[JJ,JXW hlo,Jx,List.append_nil]
 |m+1,j,ks,hj,hk=>by
  have hlt:j<ps.length:=om;have hg:=Ac hlt
  have hp:JJr w ps[j]:=hw _ (AN hlt);rw[JAP hg];unfold JJr at hp;generalize w ps[j]=r at hp⊢;obtain⟨e,b⟩:=r
  cases b with
  |false=>
   simp only
   exact⟨e,ks,by rw[JJ,Jko hlo om hg hp,R69,Ki]⟩
  |true=>
   simp only;have ih:=JPg (K:=K) hlo hl hw m (j+1) (ks++[e]) om (by simp;omega)
   rw[JJ,Jkn hlo om om hg hp,Jg]
   cases hx:K5 w (ps.drop (j+1))with
   |none=>rw[hx]at ih;exact ih
   |some xs=>rw[hx]at ih;simp only[Option.map_some];rw[ih,AM]<;>rfl
theorem n68:((8:Int) !=8)=false:=rfl
theorem n66:((6:Int) !=8)=true:=rfl
theorem n67:((7:Int) !=8)=true:=rfl
theorem JXX{K:Int}(hK:K=6\/K=7\/K=8)(hlo:lo<=h.length)(ht:okT t)(hl:JL kids<=10000000)(h0:(t.k==10)=false)(h1:(t.k==12)=false)
  (n1:(t.k==2&&Jc t.b==W3)=false)(n2:(t.k==2&&Jc t.b==G5)=decide (K=6))(n3:(t.k==2&&Jc t.b==G6)=decide (K=7))(n4:(t.k==2&&Jc t.b==Qb)=decide (K=8))(hw:∀p∈J1 kids,JJr w p):
  E lo 69 [.agg (Jp (.mk t kids))] h=some (.tup [.agg (xC (Wo K w kids).1),.v (.bool (Wo K w kids).2)],h):=by
 have l1:lo<=h.length+1:=om;have l2:lo<=h.length+1+1:=om;have l3:lo<=h.length+3:=om;have l4:lo<=h.length+4:=om;have hln:=JT kids;have hsl:=ZB [] kids;have c100:=λlo h hlo=>f100 (lo:=lo) (h:=h) (l:=kids) hlo om
 have hL:=JPg (t:=t) (kids:=kids) (w:=w) (K:=K) hlo (show(J1 kids).length<=_ by unfold J1;omega) hw (J1 kids).length 0 [] om (by show 0+(J1 kids).length<=_;unfold J1;omega)
 have q1:=JXV (kids:=kids) ht;have q2:=Jda (kids:=kids) ht;have q3:=Jdb (kids:=kids) ht;have q4:=Jdc (kids:=kids) ht;have pl:=Hj (J1 kids);rw[n1]at q1;rw[n2]at q2;rw[n3]at q3;rw[n4]at q4;simp only[JN]at q1 q2 q3 q4;rw[AJ]at hL;rw[e69]
 have hkl:∀xs,K5 w (J1 kids)=some xs->xs.length<=1000000000:=λxs hx=>by have:=GO hx;unfold J1 at this;omega
 unfold Wo
 cases hx:K5 w (J1 kids)with
 |none=>
  rw[hx]at hL;obtain⟨e,ks',hL⟩:=hL;obtain⟨ek,en,ed,eu,el⟩:=e;generalize J1 kids=PS at c100 pl hL;simp only[Jq,JP,JW];rcases hK with rfl|rfl|rfl<;>
  simp only[H5,b69,Tryz.f69,JK,loops,JB,N69,H69,R69,JN,xZ,xO,JP,JW,show((0:Nat):Int)=0 from rfl,go_sem]at hL<;>
  simp only[JN,go_sem,b69,Tryz.f69,hlo,l1,l2,l3,l4,h0,h1,c100,pl,q1,q2,q3,q4,d66,d67,d68,d76,d77,d78,d86,d87,d88,hL]<;>rfl
 |some xs=>
  rw[hx]at hL;have hxl:=hkl xs hx;simp only[Aq]at hL;generalize J1 kids=PS at c100 pl hL;simp only[JP];have xl:=Jf xs;rcases hK with rfl|rfl|rfl<;>
  simp only[H5,b69,Tryz.f69,JK,loops,JB,N69,H69,JN,xZ,xO,JW,show((0:Nat):Int)=0 from rfl,go_sem]at hL<;>
  simp only[JN,go_sem,b69,Tryz.f69,hlo,l1,l2,l3,l4,h0,h1,c100,pl,q1,q2,q3,q4,d66,d67,d68,d76,d77,d78,d86,d87,d88,n66,n67,n68,hL,xl]<;>rfl
end
theorem JKz{b:Bool}(h:b=false)(c:Bool):(b&&c)=false:=by rw[h]<;>rfl
theorem JPh{w:List CV->Option X}{v:CV}(hv:Wp v)(hl:Km v<=10000000)(h1:W99 w v.ks)(h2:∀p∈J1 v.ks,W99 w p):W69 w v:=by
 obtain⟨t,kids⟩:=v;rw[Wp]at hv
 have hk:JL kids<=10000000:=by
  rw[QA,show(CV.mk t kids).ks=kids from rfl]at hl
  omega
 have h2':∀p∈J1 kids,JJr (λp=>jd (w p)) p:=h2
 have h1':JJr (λp=>jd (w p)) kids:=h1
 intro lo h hlo
 cases q0:t.k==10 with
 |true=>exact Jkk hlo hv.1 q0
 |false=>
  cases q1:t.k==12 with
  |true=>exact Jkl hlo hv.1 q0 q1
  |false=>
   cases q2:t.k==2 with
   |false=>
    rw[JG1 q0 q1 q2]
    exact Jdd hlo hv.1 q0 q1 (JKz q2 _) (JKz q2 _) (JKz q2 _) (JKz q2 _)
   |true=>
    rw[Yo q0 q1 q2]
    cases n1:Jc t.b==W3 with
    |true=>
     rw[if_pos rfl]
     exact Jkm hlo hv.1 q0 q1 (by rw[q2,n1]<;>rfl) h1'
    |false=>
     rw[if_neg (by simp)]
     cases n2:Jc t.b==G5 with
     |true=>
      have n3:=qZ n2 (show G5≠G6 by decide)
      have n4:=qZ n2 (show G5≠Qb by decide)
      rw[if_pos rfl]
      exact JXX (K:=6) (.inl rfl) hlo hv.1 hk q0 q1 (by rw[n1,Bg]) (by rw[q2,n2]<;>rfl) (by rw[n3,Bg]<;>rfl) (by rw[n4,Bg]<;>rfl) h2'
     |false=>
      rw[if_neg (by simp)]
      cases n3:Jc t.b==G6 with
      |true=>
       have n4:=qZ n3 (show G6≠Qb by decide)
       rw[if_pos rfl]
       exact JXX (K:=7) (.inr (.inl rfl)) hlo hv.1 hk q0 q1 (by rw[n1,Bg]) (by rw[n2,Bg]<;>rfl) (by rw[q2,n3]<;>rfl) (by rw[n4,Bg]<;>rfl) h2'
      |false=>
       rw[if_neg (by simp)]
       cases n4:Jc t.b==Qb with
       |true=>
        rw[if_pos rfl]
        exact JXX (K:=8) (.inr (.inr rfl)) hlo hv.1 hk q0 q1 (by rw[n1,Bg]) (by rw[n2,Bg]<;>rfl) (by rw[n3,Bg]<;>rfl) (by rw[q2,n4]<;>rfl) h2'
       |false=>
        rw[if_neg (by simp)]
        exact Jdd hlo hv.1 q0 q1 (by rw[n1,Bg]) (by rw[n2,Bg]) (by rw[n3,Bg]) (by rw[n4,Bg])
theorem JDq:∀(n:Nat) (l:List CV),JL l<n->JL l<=10000000->Kq l->W99 (G4 n) l
 |0,l,hn,_,_=>by omega
 |n+1,l,hn,hl,ho=>by
  intro lo h hlo;have hm:∀v∈Je l,Wp v/\Km v<=JL l:=λv hv=>⟨KU ho v (J9 hv),KH (J9 hv)⟩
  have e:G4 (n+1) l=JJo (opR (G4 n)) l:=by rw[G4]
  rw[e];refine Jkj (w:=G4 n) hlo om λv hv=>?_
  obtain⟨o,hnv⟩:=hm v hv;have hk:=WD v;have a1:=JDq n v.ks om om (ZV o);exact⟨(jZ o).1,JPh o om a1 (λp hp=>JDq n p (by have:=Kp hp;omega) (by have:=Kp hp;omega) (Zz (ZV o) hp)),λ_=>a1⟩
theorem JOr{n:Nat}{v:CV}(hn:Km v<=n)(hl:Km v<=10000000)(ho:Wp v):W69 (G4 n) v:=by have hk:=WD v;exact JPh ho hl (JDq n v.ks om om (ZV ho)) λp hp=>JDq n p (by have:=Kp hp;omega) (by have:=Kp hp;omega) (Zz (ZV ho) hp)
def JCp(r:X×Bool):X×Int:=if r.2=true then(r.1,0)else(Jq,3)
theorem JPi{a b:X×Bool}(h:Gd a=Gd b):JCp a=JCp b:=by unfold Gd at h;unfold JCp;obtain⟨e,x⟩:=a;obtain⟨e',x'⟩:=b;cases x<;>cases x'<;>simp_all
theorem JM2{n:Nat}{l:List CV}(hm:Ky 64 l=false):Jk n l=(Jq,1):=by unfold Jk;rw[hm,if_neg (by simp)]
theorem JCq{n:Nat}{l:List CV}{v:CV}(hm:Ky 64 l=true)(ht:Je l=[v]):Jk n l=JCp (KA (λp=>jd (G4 n p)) v):=by
 rw[<-JPi (JMy n v)];unfold Jk JCp;rw[hm,if_pos rfl,ht];simp only;rcases JG2 n v with⟨e,b⟩
 cases b<;>rfl
theorem JM3{n:Nat}{l:List CV}(hm:Ky 64 l=true)(ht:(Je l).length≠1):Jk n l=(Jq,3):=by
 unfold Jk;rw[hm,if_pos rfl];generalize Je l=L at ht⊢
 match L,ht with
 |[],_=>rfl
 |[v],h=>exact absurd rfl h
 |v::u::r,_=>rfl
theorem f39{l:List CV}{n:Nat}(hlo:lo<=h.length)(hn:JL l<=n)(hl:JL l<=10000000)(ho:Kq l):
  E lo 39 [.list .no (JH l)] h=some (.tup [.agg (xC (Jk n l).1),.v (.int .i64 (Jk n l).2)],h):=by
 have l1:lo<=h.length+1:=om;have l2:lo<=h.length+1+1:=om;have c33:=λlo h hlo=>f33 (lo:=lo) (h:=h) (l:=l) hlo om
 have c36:=λlo h hlo=>f36 (lo:=lo) (h:=h) (l:=l) hlo (by have:=JT l;omega)
 have hm:∀v∈Je l,Wp v/\Km v<=JL l:=λv hv=>⟨KU ho v (J9 hv),KH (J9 hv)⟩
 have hll:=JT (Je l);have htl:=KX l;rw[e39]
 cases q:Ky 64 l with
 |false=>
  rw[q]at c33;rw[JM2 q];simp only[Jq,JP,JW]
  simp only[go_sem,b39,Tryz.f39,hlo,l1,l2,c33]<;>rfl
 |true=>
  rw[q]at c33;by_cases h1:(Je l).length=1
  ·obtain⟨v,hv1⟩:=List.length_eq_one_iff.1 h1
   rw[JCq q hv1];have hv:=hm v (by rw[hv1];exact AL.2 rfl)
   have c69:=JOr (n:=n) (v:=v) om om hv.1;unfold W69 at c69;have q1:(((0+1:Nat):Int) !=1)=false:=rfl;have q1':((1:Int) !=1)=false:=rfl;rw[hv1,JY,JZ]at c36;unfold JCp;generalize KA (λp=>jd (G4 n p)) v=r at c69⊢
   obtain⟨⟨ek,en,ed,eu,el⟩,b⟩:=r;obtain⟨t,kids⟩:=v
   cases b with
   |true=>
    rw[if_pos rfl];simp only[JP,JN]at c36 c69⊢
    simp only[go_sem,b39,Tryz.f39,hlo,l1,l2,c33,c36,c69,q1,q1',Ak,Ai]<;>rfl
   |false=>
    rw[if_neg (by simp)]
    simp only[Jq,JP,JN,JW]at c36 c69⊢;simp only[go_sem,b39,Tryz.f39,hlo,l1,l2,c33,c36,c69,q1,q1',Ak,Ai]<;>rfl
  ·rw[JM3 q h1]
   have q1:(((Je l).length:Int) !=1)=true:=by rw[bne_iff_ne];omega
   simp only[Jq,JP,JW];simp only[go_sem,b39,Tryz.f39,hlo,l1,l2,c33,c36,q1,JC]<;>rfl
noncomputable abbrev WH(lo:Nat)(h:JM):Go.Lift.Cx:=⟨Aa,E,lo,h.length,h10⟩
section
variable{nm:ByteArray}{k:Int}{dn low kn:Bool}{ws:List ByteArray}{ck a b:Int}{w:ByteArray}{l:List CV}{n:Nat}{name:List Int}{at':Int}
abbrev N10(h:JM)(l:List CV)(cu sm:Bool)(ex:Jr):Jr:=[(1,.list .no (JH l)),(4,.ptr h.length 0),(6,.ptr (h.length+1) 0),(8,.v (.bool cu)),(9,.v (.bool sm))]++ex
theorem Jkp(hlo:lo<=h.length)(hy:By name)(hnl:name.length<=1000000000)(hl:JL l<=2000000)(ho:Kq l)
  (c31:∀lo h,lo<=h.length->E lo 31 [.v (.string (Rul.bs name))] h=some (.tup [.agg (JG nm k dn low ws ck a b w),.v (.int .i64 at')],h))(hat:decide (at'<0)= !kn):
  H0 (WH lo h) JA (pc WJ 0 10) (QJ [.v (.string (Rul.bs name)),.list .no (JH l)],h)=
   if(!kn&& !Kw name)=true then Qe h (JG nm k dn low ws ck a b w) vZ 10
   else if(!Ky 64 l)=true then Qe h (JG nm k dn low ws ck a b w) vZ 1
   else if(ZJ l true||Qm l)=true then Qe h (JG nm k dn low ws ck a b w) vZ 3
   else some (.normal,N10 h l (Kw name) (QY l) [(44,.v (.bool false))],WL h (JG nm k dn low ws ck a b w)):=by
 have l1:lo<=h.length+1:=om;have l2:lo<=h.length+1+1:=om;have hll:=JT l;have c32:=λlo h=>f32 (lo:=lo) (h:=h) hy
 have c33:=λlo h hlo=>f33 (lo:=lo) (h:=h) (l:=l) hlo om
 have c34:∀lo h,lo<=h.length->E lo 34 [.list .no (JH l)] h=some (.tup [.v (.bool (QY l)),.v (.bool (Qm l))],h):=f34 om (yi ho om);have c35:=λlo h hlo=>f35 (JL l+1) l om om true lo h hlo
 simp only[JG]at c31;generalize Kw name=cu at c32⊢;generalize Ky 64 l=my at c33⊢;generalize ZJ l true=bd at c35⊢;generalize QY l=vl at c34⊢;generalize Qm l=wl at c34⊢
 have rest:∀(q:(!kn&& !cu)=false),H0 (WH lo h) JA (pc WJ 0 10) (QJ [.v (.string (Rul.bs name)),.list .no (JH l)],h)=if(!my)=true then Qe h (JG nm k dn low ws ck a b w) vZ 1
   else if(bd||wl)=true then Qe h (JG nm k dn low ws ck a b w) vZ 3
   else some (.normal,N10 h l cu vl [(44,.v (.bool false))],WL h (JG nm k dn low ws ck a b w)):=by
  intro q
  cases kn with
  |true=>
   rw[AB]at hat
   cases my with
   |false=>
    rw[if_pos (by simp)]
    simp only[WH,Qe,vZ,JG,go_sem,WJ,Tryz.f10,hlo,l1,l2,c31,c32,c33,hat]<;>rfl
   |true=>
    rw[if_neg (by simp)]
    cases bd with
    |true=>
     rw[if_pos (by simp)]
     simp only[WH,Qe,vZ,JG,go_sem,WJ,Tryz.f10,hlo,l1,l2,c31,c32,c33,c34,c35,hat]<;>rfl
    |false=>
     cases wl with
     |true=>
      rw[if_pos (by simp)]
      simp only[WH,Qe,vZ,JG,go_sem,WJ,Tryz.f10,hlo,l1,l2,c31,c32,c33,c34,c35,hat]<;>rfl
     |false=>
      rw[if_neg (by simp)]
      simp only[WH,N10,WL,vZ,JG,go_sem,WJ,Tryz.f10,hlo,l1,l2,c31,c32,c33,c34,c35,hat]<;>rfl
  |false=>
   rw[AO]at hat
   cases cu with
   |false=>cases q
   |true=>
    cases my with
    |false=>
     rw[if_pos (by simp)]
     simp only[WH,Qe,vZ,JG,go_sem,WJ,Tryz.f10,hlo,l1,l2,c31,c32,c33,hat,AB]<;>rfl
    |true=>
     rw[if_neg (by simp)]
     cases bd with
     |true=>
      rw[if_pos (by simp)]
      simp only[WH,Qe,vZ,JG,go_sem,WJ,Tryz.f10,hlo,l1,l2,c31,c32,c33,c34,c35,hat,AB]<;>rfl
     |false=>
      cases wl with
      |true=>
       rw[if_pos (by simp)]
       simp only[WH,Qe,vZ,JG,go_sem,WJ,Tryz.f10,hlo,l1,l2,c31,c32,c33,c34,c35,hat,AB]<;>rfl
      |false=>
       rw[if_neg (by simp)]
       simp only[WH,N10,WL,vZ,JG,go_sem,WJ,Tryz.f10,hlo,l1,l2,c31,c32,c33,c34,c35,hat,AB]<;>rfl
 by_cases q:(!kn&& !cu)=true
 ·rw[if_pos q]
  cases kn with
  |true=>cases q
  |false=>
   cases cu with
   |true=>cases q
   |false=>rw[AO]at hat;simp only[WH,Qe,vZ,JG,go_sem,WJ,Tryz.f10,hlo,l1,l2,c31,c32,hat,AO]<;>rfl
 ·rw[if_neg q]
  exact rest (by simpa using q)
theorem Jkq{L:List CV}{cu sm:Bool}(hlo:lo<=h.length)(hl:JL l<=2000000)(ho:Kq l)(hL:Je l=L):
  ∃q:Bool,H0 (WH lo h) JA (pc WJ 10 4) (N10 h l cu sm [(44,.v (.bool false))],WL h (JG nm k dn low ws ck a b w))=
   some (.normal,N10 h L cu sm [(11,.v (.string (Rul.bs (QL L)))),(58,.v (.bool q))],WL h (JG nm k dn low ws ck a b w)):=by
 have l1:lo<=h.length+1:=om;have l2:lo<=h.length+1+1:=om;have hm:∀v∈L,Wp v:=λv hv=>by rw[<-hL]at hv;exact KU ho v (J9 hv)
 have c36:=λlo h hlo=>f36 (lo:=lo) (h:=h) (l:=l) hlo (by have:=JT l;omega)
 rw[hL]at c36
 match L,c36,hm with
 |[],c36,hm=>
  have q1:(((0:Nat):Int)==1)=false:=rfl;have q1':((0:Int)==1)=false:=rfl;rw[JZ]at c36;refine⟨false,?_⟩
  simp only[WH,N10,WL,vZ,JG,JZ,go_sem,WJ,Tryz.f10,hlo,l1,l2,c36,q1,q1',Ak]<;>rfl
 |v::u::r,c36,hm=>
  have q1:(((r.length+1+1:Nat):Int)==1)=false:=by rw[beq_eq_false_iff_ne];omega
  rw[JY,JY]at c36;refine⟨false,?_⟩
  rw[show QL (v::u::r)=[]by obtain⟨t,ks⟩:=v;rfl]
  simp only[WH,N10,WL,vZ,JG,JY,go_sem,WJ,Tryz.f10,hlo,l1,l2,c36,q1,Ai,JC]<;>rfl
 |[.mk t kids],c36,hm=>
  have ht:okT t:=jZ (hm _ (AL.2 rfl));have q1:(((0+1:Nat):Int)==1)=true:=rfl;have q1':((1:Int)==1)=true:=rfl
  have c37:∀lo h,lo<=h.length->E lo 37 [.v (.string (Rul.bs t.b))] h=some (.v (.string (Rul.bs (Jc t.b))),h):=λlo h hlo=>by
   have c:=f37 (lo:=lo) (h:=h) (l:=t.b) hlo (by have:=ht.2.1;omega) ht.1
   rw[qW]at c;exact c
  rw[JY,JZ,JN]at c36;unfold QL;simp only
  cases z1:t.k==1 with
  |false=>
   rw[if_neg (by simp)]
   refine⟨false,?_⟩
   simp only[WH,N10,WL,vZ,JG,JY,JZ,JN,go_sem,WJ,Tryz.f10,hlo,l1,l2,c36,q1,q1',z1,Ai,Ak]<;>rfl
  |true=>
   rw[if_pos rfl];refine⟨true,?_⟩
   simp only[WH,N10,WL,vZ,JG,JY,JZ,JN,go_sem,WJ,Tryz.f10,hlo,l1,l2,c36,c37,q1,q1',z1,Ai,Ak]<;>rfl
abbrev M10(h:JM)(l:List CV)(wd:List Int):Jr:=[(1,.list .no (JH l)),(4,.ptr h.length 0),(6,.ptr (h.length+1) 0),(11,.v (.string (Rul.bs wd))),(80,.v (.bool false))]
theorem Jkr{L:List CV}{q cu sm:Bool}{wd:List Int}(hlo:lo<=h.length)(hl:JL L<=2000000)(ho:Kq L)(hwd:By wd):
  H0 (WH lo h) JA (pc WJ 14 4) (N10 h L cu sm [(11,.v (.string (Rul.bs wd))),(58,.v (.bool q))],WL h (JG nm k dn low ws ck a b w))=
   (
    if JAW wd=true then Qe h (JG nm k dn low ws ck a b w) (G8 3 (Rul.bs wd)) 0
    else if(cu||sm)=true then Qe h (JG nm k dn low ws ck a b w) (JHD ((KT L).map row)) 0
    else some (.normal,M10 h L wd,WL h (JG nm k dn low ws ck a b w))):=by
 have l1:lo<=h.length+1:=om;have l2:lo<=h.length+1+1:=om;have e1:=K1 hwd (byW (b:=JJj) (by decide))
 have e2:=K1 hwd (byW (b:=JJk) (by decide))
 have e3:=K1 hwd (byW (b:=JJl) (by decide))
 rw[show Rul.bs JJj=⟨#[105,110,104,101,114,105,116]⟩from rfl]at e1
 rw[show Rul.bs JJk=⟨#[105,110,105,116,105,97,108]⟩from rfl]at e2
 rw[show Rul.bs JJl=⟨#[117,110,115,101,116]⟩from rfl]at e3
 have c38:=λlo h hlo=>f38 (JL L) L (Ag _) om lo h hlo
 unfold JAW;generalize (wd==JJj)=b1 at e1⊢;generalize (wd==JJk)=b2 at e2⊢;generalize (wd==JJl)=b3 at e3⊢;generalize (KT L).map row=FL at c38⊢
 cases b1 with
 |true=>
  rw[if_pos (by simp)]
  simp only[WH,N10,WL,Qe,vZ,G8,JG,go_sem,WJ,Tryz.f10,hlo,l1,l2,e1]<;>rfl
 |false=>
  cases b2 with
  |true=>
   rw[if_pos (by simp)]
   simp only[WH,N10,WL,Qe,vZ,G8,JG,go_sem,WJ,Tryz.f10,hlo,l1,l2,e1,e2]<;>rfl
  |false=>
   cases b3 with
   |true=>
    rw[if_pos (by simp)]
    simp only[WH,N10,WL,Qe,vZ,G8,JG,go_sem,WJ,Tryz.f10,hlo,l1,l2,e1,e2,e3]<;>rfl
   |false=>
    rw[if_neg (by simp)]
    cases cu with
    |true=>
     rw[if_pos (by simp)]
     simp only[WH,N10,WL,Qe,vZ,JHD,JG,go_sem,WJ,Tryz.f10,hlo,l1,l2,e1,e2,e3,c38]<;>rfl
    |false=>
     cases sm with
     |true=>
      rw[if_pos (by simp)]
      simp only[WH,N10,WL,Qe,vZ,JHD,JG,go_sem,WJ,Tryz.f10,hlo,l1,l2,e1,e2,e3,c38]<;>rfl
     |false=>
      rw[if_neg (by simp)]
      simp only[WH,N10,M10,WL,vZ,JG,go_sem,WJ,Tryz.f10,hlo,l1,l2,e1,e2,e3]<;>rfl
end
def P70(x:X):Prop:=∀(dep:Int) (lo:Nat) (h:JM),0<=dep->dep<=341->lo<=h.length->E lo 70 [.agg (xC x),.v (.int .i64 (341-dep))] h=some (.v (.bool (W5 x dep)),h)
abbrev qm(dep:Int)(kids:List X)(i:Int):Jr:=[(1,.v (.int .i64 (341-dep))),(80,.list .no (ZG kids)),(81,.v (.int .i64 kids.length)),(82,.v (.int .i64 i))]
section
variable{k n d u dep:Int}{kids:List X}
theorem r70{x:X}{i:Nat}(hlo:lo<=h.length)(hl:kids.length<=100000000)(hd:0<=dep/\dep<=340)(hg:kids[i]? =some x)(hx:P70 x):
  evCode ⟨Aa,E,lo,h.length,h70⟩ JA QW (qm dep kids i,h++[.cells (xC (.mk k n d u kids))])=if W5 x (dep+1)=true then some (.normal,qm dep kids (i+1:Nat),h++[.cells (xC (.mk k n d u kids))])else some (.ret,[(4,.v (.bool false))],h++[.cells (xC (.mk k n d u kids)),.cells (xC x)]):=by
 have l1:lo<=h.length+1:=om;have l2:lo<=h.length+1+1:=om;have hlt:i<kids.length:=(Ab.1 hg).1
 have hgr:(ZG kids)[i]? =some (xC x):=by rw[kS,hg]<;>rfl
 have q1:decide ((i:Int)<(kids.length:Int))=true:=by rw[decide_eq_true_iff];omega
 have t1:Bp (i:Int)=i:=om;have hw:=Jd (i:=i) om;have hw2:AQ.wrap (341-dep-1)=341-(dep+1):=by rw[KY om om];omega
 have c:=λlo h hlo=>hx (dep+1) lo h om om hlo
 obtain⟨xk,xn,xd,xu,xl⟩:=x;generalize W5 (.mk xk xn xd xu xl) (dep+1)=b at c⊢;simp only[JP]at hgr c⊢
 cases b with
 |true=>
  rw[if_pos rfl]
  simp only[qm,go_sem,QW,Wr,Tryz.f70,hlo,l1,l2,q1,hgr,t1,hw,hw2,c]<;>rfl
 |false=>
  rw[if_neg (by simp)]
  simp only[qm,go_sem,QW,Wr,Tryz.f70,hlo,l1,l2,q1,hgr,t1,hw,hw2,c]<;>rfl
theorem s70(hlo:lo<=h.length):
  evCode ⟨Aa,E,lo,h.length,h70⟩ JA QW (qm dep kids (kids.length:Nat),h++[.cells (xC (.mk k n d u kids))])=some (.exit 0,qm dep kids (kids.length:Nat)++[(83,.v (.bool false))],h++[.cells (xC (.mk k n d u kids))]):=by
 have q1:decide ((kids.length:Int)<(kids.length:Int))=false:=by rw[decide_eq_false_iff_not];omega
 simp only[qm,JP,go_sem,QW,Wr,Tryz.f70,hlo,q1]<;>rfl
theorem JPj(hlo:lo<=h.length)(hl:kids.length<=100000000)(hd:0<=dep/\dep<=340)(hk:∀x∈kids,P70 x):∀(m i:Nat),i+m=kids.length->
  if Z0 (kids.drop i) (dep+1)=true then JA (evCode ⟨Aa,E,lo,h.length,h70⟩ JA QW) (qm dep kids i,h++[.cells (xC (.mk k n d u kids))])=some (.exit 0,qm dep kids (kids.length:Nat)++[(83,.v (.bool false))],h++[.cells (xC (.mk k n d u kids))])
  else∃x,JA (evCode ⟨Aa,E,lo,h.length,h70⟩ JA QW) (qm dep kids i,h++[.cells (xC (.mk k n d u kids))])=some (.ret,[(4,.v (.bool false))],h++[.cells (xC (.mk k n d u kids)),.cells (xC x)])
 |0,i,hm=>by
  obtain rfl:i=kids.length:=om
  rw[AY,Z0,if_pos rfl,JJ,s70 hlo,Jx]
 |m+1,i,hm=>by
  have hlt:i<kids.length:=om;have hg:=Ac hlt
  have ih:=JPj hlo hl hd hk m (i+1) om;have hr:=r70 (k:=k) (n:=n) (d:=d) (u:=u) (lo:=lo) (h:=h) hlo hl hd hg (hk _ (AN hlt));rw[JAR hg]
  cases hb:W5 kids[i] (dep+1)with
  |false=>
   rw[hb,if_neg (by simp)]at hr
   rw[An,if_neg (by simp)]
   exact⟨_,by rw[JJ,hr,Ki]⟩
  |true=>
   rw[hb,if_pos rfl]at hr;rw[Au]
   have e:JA (evCode ⟨Aa,E,lo,h.length,h70⟩ JA QW) (qm dep kids i,h++[.cells (xC (.mk k n d u kids))])=JA (evCode ⟨Aa,E,lo,h.length,h70⟩ JA QW) (qm dep kids (i+1:Nat),h++[.cells (xC (.mk k n d u kids))]):=by conv=>lhs;rw[JJ,hr,Jg]
   rw[e];exact ih
theorem Jks(hlo:lo<=h.length)(hl:kids.length<=100000000)(hd0:0<=dep)(hd1:dep<=340)(hk:∀x∈kids,P70 x)(hr:2<=k/\k<=8):
  E lo 70 [.agg (xC (.mk k 0 0 0 kids)),.v (.int .i64 (341-dep))] h=some (.v (.bool (ZD k kids.length&&Z0 kids (dep+1))),h):=by
 have l1:lo<=h.length+1:=om;have e:=Zh 0 0 0 0;have z0:((0:Int)==0&&(0:Int)==0)=true:=rfl;have z1:((0:Int) !=0)=false:=rfl;rw[z0]at e;have q0:((341-dep:Int)==0)=false:=by rw[beq_eq_false_iff_ne];omega
 have hL:=JPj (k:=k) (n:=0) (d:=0) (u:=0) (dep:=dep) (h:=h) hlo hl ⟨hd0,hd1⟩ hk kids.length 0 om;rw[AJ]at hL;simp only[show((0:Nat):Int)=0 from rfl]at hL
 have xl:=Jf kids;rw[e70];unfold ZD;simp only[JP,qm]at hL⊢;generalize Z0 kids (dep+1)=mb at hL⊢;generalize ZG kids=K at hL xl⊢;have h7:k=2\/k=3\/k=4\/k=5\/k=6\/k=7\/k=8:=om
 cases n0:((kids.length:Int)==0)with
 |true=>
  have nn:(kids.length:Int)=0:=by simpa using n0
  have o1:decide ((kids.length:Int)>=1)=false:=by rw[decide_eq_false_iff_not];omega
  have o2:((kids.length:Int)==1)=false:=by rw[beq_eq_false_iff_ne];omega
  have o3:((kids.length:Int)==3)=false:=by rw[beq_eq_false_iff_ne];omega
  rw[o1,o2,o3];rcases h7 with rfl|rfl|rfl|rfl|rfl|rfl|rfl
  ·have k1:decide ((2:Int)<1)=false:=rfl
   have k9:decide ((8:Int)<2)=false:=rfl;have ke:((2:Int)==1)=false:=rfl;have k3:((2:Int)==3)=false:=rfl;have k5:((2:Int)==5)=false:=rfl;have k8:((2:Int)==8)=false:=rfl;simp only[go_sem,Wr,Tryz.f70,hlo,l1,q0,k1,k9,ke,k3,k5,k8,K4,e,z1,n0,xl]<;>rfl
  ·have k1:decide ((3:Int)<1)=false:=rfl
   have k9:decide ((8:Int)<3)=false:=rfl;have ke:((3:Int)==1)=false:=rfl;have k3:((3:Int)==3)=true:=rfl;have k5:((3:Int)==5)=false:=rfl;have k8:((3:Int)==8)=false:=rfl;simp only[go_sem,Wr,Tryz.f70,hlo,l1,q0,k1,k9,ke,k3,k5,k8,K4,e,z1,n0,xl]<;>rfl
  ·have k1:decide ((4:Int)<1)=false:=rfl
   have k9:decide ((8:Int)<4)=false:=rfl;have ke:((4:Int)==1)=false:=rfl;have k3:((4:Int)==3)=false:=rfl;have k5:((4:Int)==5)=false:=rfl;have k8:((4:Int)==8)=false:=rfl;simp only[go_sem,Wr,Tryz.f70,hlo,l1,q0,k1,k9,ke,k3,k5,k8,K4,e,z1,n0,xl]<;>rfl
  ·have k1:decide ((5:Int)<1)=false:=rfl
   have k9:decide ((8:Int)<5)=false:=rfl;have ke:((5:Int)==1)=false:=rfl;have k3:((5:Int)==3)=false:=rfl;have k5:((5:Int)==5)=true:=rfl;have k8:((5:Int)==8)=false:=rfl;simp only[go_sem,Wr,Tryz.f70,hlo,l1,q0,k1,k9,ke,k3,k5,k8,K4,e,z1,n0,xl]<;>rfl
  ·have k1:decide ((6:Int)<1)=false:=rfl
   have k9:decide ((8:Int)<6)=false:=rfl;have ke:((6:Int)==1)=false:=rfl;have k3:((6:Int)==3)=false:=rfl;have k5:((6:Int)==5)=false:=rfl;have k8:((6:Int)==8)=false:=rfl;simp only[go_sem,Wr,Tryz.f70,hlo,l1,q0,k1,k9,ke,k3,k5,k8,K4,e,z1,n0,xl]<;>rfl
  ·have k1:decide ((7:Int)<1)=false:=rfl
   have k9:decide ((8:Int)<7)=false:=rfl;have ke:((7:Int)==1)=false:=rfl;have k3:((7:Int)==3)=false:=rfl;have k5:((7:Int)==5)=false:=rfl;have k8:((7:Int)==8)=false:=rfl;simp only[go_sem,Wr,Tryz.f70,hlo,l1,q0,k1,k9,ke,k3,k5,k8,K4,e,z1,n0,xl]<;>rfl
  ·have k1:decide ((8:Int)<1)=false:=rfl
   have k9:decide ((8:Int)<8)=false:=rfl;have ke:((8:Int)==1)=false:=rfl;have k3:((8:Int)==3)=false:=rfl;have k5:((8:Int)==5)=false:=rfl;have k8:((8:Int)==8)=true:=rfl
   simp only[go_sem,Wr,Tryz.f70,hlo,l1,q0,k1,k9,ke,k3,k5,k8,K4,e,z1,n0,xl]<;>rfl
 |false=>
  have nn:(kids.length:Int)≠0:=by simpa using n0
  have o1:decide ((kids.length:Int)>=1)=true:=by rw[decide_eq_true_iff];omega
  rw[o1];rcases h7 with rfl|rfl|rfl|rfl|rfl|rfl|rfl
  ·have k1:decide ((2:Int)<1)=false:=rfl
   have k9:decide ((8:Int)<2)=false:=rfl;have ke:((2:Int)==1)=false:=rfl;have k3:((2:Int)==3)=false:=rfl;have k5:((2:Int)==5)=false:=rfl;have k8:((2:Int)==8)=false:=rfl
   cases mb with
   |true=>
    rw[if_pos rfl]at hL;simp only[QW,Wr,Tryz.f70,JK,loops,JB,qm,go_sem]at hL
    simp only[go_sem,Wr,Tryz.f70,hlo,l1,q0,k1,k9,ke,k3,k5,k8,K4,e,z1,n0,xl,hL]<;>rfl
   |false=>
    rw[if_neg (by simp)]at hL
    obtain⟨⟨xk,xn,xd,xu,xxl⟩,hL⟩:=hL;simp only[JP,QW,Wr,Tryz.f70,JK,loops,JB,qm,go_sem]at hL;simp only[go_sem,Wr,Tryz.f70,hlo,l1,q0,k1,k9,ke,k3,k5,k8,K4,e,z1,n0,xl,hL]<;>rfl
  ·have k1:decide ((3:Int)<1)=false:=rfl
   have k9:decide ((8:Int)<3)=false:=rfl;have ke:((3:Int)==1)=false:=rfl;have k3:((3:Int)==3)=true:=rfl;have k5:((3:Int)==5)=false:=rfl;have k8:((3:Int)==8)=false:=rfl
   cases o2:((kids.length:Int)==1)with
   |false=>
    have o4:((kids.length:Int) !=1)=true:=by unfold bne;rw[o2]<;>rfl
    simp only[go_sem,Wr,Tryz.f70,hlo,l1,q0,k1,k9,ke,k3,k5,k8,K4,e,z1,n0,xl,o4]<;>rfl
   |true=>
    have o4:((kids.length:Int) !=1)=false:=by unfold bne;rw[o2]<;>rfl
    cases mb with
    |true=>
     rw[if_pos rfl]at hL;simp only[QW,Wr,Tryz.f70,JK,loops,JB,qm,go_sem]at hL
     simp only[go_sem,Wr,Tryz.f70,hlo,l1,q0,k1,k9,ke,k3,k5,k8,K4,e,z1,n0,xl,o4,hL]<;>rfl
    |false=>
     rw[if_neg (by simp)]at hL
     obtain⟨⟨xk,xn,xd,xu,xxl⟩,hL⟩:=hL;simp only[JP,QW,Wr,Tryz.f70,JK,loops,JB,qm,go_sem]at hL;simp only[go_sem,Wr,Tryz.f70,hlo,l1,q0,k1,k9,ke,k3,k5,k8,K4,e,z1,n0,xl,o4,hL]<;>rfl
  ·have k1:decide ((4:Int)<1)=false:=rfl
   have k9:decide ((8:Int)<4)=false:=rfl;have ke:((4:Int)==1)=false:=rfl;have k3:((4:Int)==3)=false:=rfl;have k5:((4:Int)==5)=false:=rfl;have k8:((4:Int)==8)=false:=rfl
   cases mb with
   |true=>
    rw[if_pos rfl]at hL;simp only[QW,Wr,Tryz.f70,JK,loops,JB,qm,go_sem]at hL
    simp only[go_sem,Wr,Tryz.f70,hlo,l1,q0,k1,k9,ke,k3,k5,k8,K4,e,z1,n0,xl,hL]<;>rfl
   |false=>
    rw[if_neg (by simp)]at hL
    obtain⟨⟨xk,xn,xd,xu,xxl⟩,hL⟩:=hL;simp only[JP,QW,Wr,Tryz.f70,JK,loops,JB,qm,go_sem]at hL;simp only[go_sem,Wr,Tryz.f70,hlo,l1,q0,k1,k9,ke,k3,k5,k8,K4,e,z1,n0,xl,hL]<;>rfl
  ·have k1:decide ((5:Int)<1)=false:=rfl
   have k9:decide ((8:Int)<5)=false:=rfl;have ke:((5:Int)==1)=false:=rfl;have k3:((5:Int)==3)=false:=rfl;have k5:((5:Int)==5)=true:=rfl;have k8:((5:Int)==8)=false:=rfl
   cases o2:((kids.length:Int)==1)with
   |false=>
    have o4:((kids.length:Int) !=1)=true:=by unfold bne;rw[o2]<;>rfl
    simp only[go_sem,Wr,Tryz.f70,hlo,l1,q0,k1,k9,ke,k3,k5,k8,K4,e,z1,n0,xl,o4]<;>rfl
   |true=>
    have o4:((kids.length:Int) !=1)=false:=by unfold bne;rw[o2]<;>rfl
    cases mb with
    |true=>
     rw[if_pos rfl]at hL;simp only[QW,Wr,Tryz.f70,JK,loops,JB,qm,go_sem]at hL
     simp only[go_sem,Wr,Tryz.f70,hlo,l1,q0,k1,k9,ke,k3,k5,k8,K4,e,z1,n0,xl,o4,hL]<;>rfl
    |false=>
     rw[if_neg (by simp)]at hL
     obtain⟨⟨xk,xn,xd,xu,xxl⟩,hL⟩:=hL;simp only[JP,QW,Wr,Tryz.f70,JK,loops,JB,qm,go_sem]at hL;simp only[go_sem,Wr,Tryz.f70,hlo,l1,q0,k1,k9,ke,k3,k5,k8,K4,e,z1,n0,xl,o4,hL]<;>rfl
  ·have k1:decide ((6:Int)<1)=false:=rfl
   have k9:decide ((8:Int)<6)=false:=rfl;have ke:((6:Int)==1)=false:=rfl;have k3:((6:Int)==3)=false:=rfl;have k5:((6:Int)==5)=false:=rfl;have k8:((6:Int)==8)=false:=rfl
   cases mb with
   |true=>
    rw[if_pos rfl]at hL;simp only[QW,Wr,Tryz.f70,JK,loops,JB,qm,go_sem]at hL
    simp only[go_sem,Wr,Tryz.f70,hlo,l1,q0,k1,k9,ke,k3,k5,k8,K4,e,z1,n0,xl,hL]<;>rfl
   |false=>
    rw[if_neg (by simp)]at hL
    obtain⟨⟨xk,xn,xd,xu,xxl⟩,hL⟩:=hL;simp only[JP,QW,Wr,Tryz.f70,JK,loops,JB,qm,go_sem]at hL;simp only[go_sem,Wr,Tryz.f70,hlo,l1,q0,k1,k9,ke,k3,k5,k8,K4,e,z1,n0,xl,hL]<;>rfl
  ·have k1:decide ((7:Int)<1)=false:=rfl
   have k9:decide ((8:Int)<7)=false:=rfl;have ke:((7:Int)==1)=false:=rfl;have k3:((7:Int)==3)=false:=rfl;have k5:((7:Int)==5)=false:=rfl;have k8:((7:Int)==8)=false:=rfl
   cases mb with
   |true=>
    rw[if_pos rfl]at hL;simp only[QW,Wr,Tryz.f70,JK,loops,JB,qm,go_sem]at hL
    simp only[go_sem,Wr,Tryz.f70,hlo,l1,q0,k1,k9,ke,k3,k5,k8,K4,e,z1,n0,xl,hL]<;>rfl
   |false=>
    rw[if_neg (by simp)]at hL
    obtain⟨⟨xk,xn,xd,xu,xxl⟩,hL⟩:=hL;simp only[JP,QW,Wr,Tryz.f70,JK,loops,JB,qm,go_sem]at hL;simp only[go_sem,Wr,Tryz.f70,hlo,l1,q0,k1,k9,ke,k3,k5,k8,K4,e,z1,n0,xl,hL]<;>rfl
  ·have k1:decide ((8:Int)<1)=false:=rfl
   have k9:decide ((8:Int)<8)=false:=rfl;have ke:((8:Int)==1)=false:=rfl;have k3:((8:Int)==3)=false:=rfl;have k5:((8:Int)==5)=false:=rfl;have k8:((8:Int)==8)=true:=rfl
   cases o2:((kids.length:Int)==3)with
   |false=>
    have o4:((kids.length:Int) !=3)=true:=by unfold bne;rw[o2]<;>rfl
    simp only[go_sem,Wr,Tryz.f70,hlo,l1,q0,k1,k9,ke,k3,k5,k8,K4,e,z1,n0,xl,o4]<;>rfl
   |true=>
    have o4:((kids.length:Int) !=3)=false:=by unfold bne;rw[o2]<;>rfl
    cases mb with
    |true=>
     rw[if_pos rfl]at hL;simp only[QW,Wr,Tryz.f70,JK,loops,JB,qm,go_sem]at hL
     simp only[go_sem,Wr,Tryz.f70,hlo,l1,q0,k1,k9,ke,k3,k5,k8,K4,e,z1,n0,xl,o4,hL]<;>rfl
    |false=>
     rw[if_neg (by simp)]at hL
     obtain⟨⟨xk,xn,xd,xu,xxl⟩,hL⟩:=hL;simp only[JP,QW,Wr,Tryz.f70,JK,loops,JB,qm,go_sem]at hL;simp only[go_sem,Wr,Tryz.f70,hlo,l1,q0,k1,k9,ke,k3,k5,k8,K4,e,z1,n0,xl,o4,hL]<;>rfl
theorem Jkt(hl:kids.length<=100000000)(hn:(-9223372036854775808<=n/\n<=9223372036854775807)/\d<=9223372036854775807)(hk:∀x∈kids,P70 x):P70 (.mk k n d u kids):=by
 intro dep lo h hd0 hd1 hlo;have l1:lo<=h.length+1:=om;rw[JDb];by_cases hd:dep>340
 ·obtain rfl:dep=341:=om
  have q0:((341-341:Int)==0)=true:=rfl;have q0':((0:Int)==0)=true:=rfl;rw[if_pos hd,e70,JP];simp only[go_sem,Wr,Tryz.f70,hlo,l1,q0,q0']<;>rfl
 have q0:((341-dep:Int)==0)=false:=by rw[beq_eq_false_iff_ne];omega
 rw[if_neg hd];by_cases hk1:k<1
 ·have d1:decide (k<1)=true:=by rw[decide_eq_true_iff];exact hk1
  have a1:(k==1)=false:=by rw[beq_eq_false_iff_ne];omega
  have a2:ZD k kids.length=false:=by unfold ZD;rw[if_neg (by simp;omega),if_neg (by simp;omega),if_neg (by simp;omega)]
  rw[a1,if_neg (by simp),a2,An,e70,JP]
  simp only[go_sem,Wr,Tryz.f70,hlo,l1,q0,d1,ite_self]<;>rfl
 have d1:decide (k<1)=false:=by rw[decide_eq_false_iff_not];exact hk1
 by_cases hk8:8<k
 ·have d8:decide (8<k)=true:=by rw[decide_eq_true_iff];exact hk8
  have a1:(k==1)=false:=by rw[beq_eq_false_iff_ne];omega
  have a2:ZD k kids.length=false:=by unfold ZD;rw[if_neg (by simp;omega),if_neg (by simp;omega),if_neg (by simp;omega)]
  rw[a1,if_neg (by simp),a2,An,e70,JP]
  simp only[go_sem,Wr,Tryz.f70,hlo,l1,q0,d1,d8,ite_self]<;>rfl
 have d8:decide (8<k)=false:=by rw[decide_eq_false_iff_not];exact hk8
 cases h1:k==1 with
 |true=>
  rw[if_pos rfl];have hz:(((kids.length:Nat):Int)==0)=(kids.length==0):=by rw[BJ,beq_iff_eq,beq_iff_eq];omega
  have c101:=λlo h hlo=>f101 (lo:=lo) (h:=h) hn.1.1 hn.1.2 hn.2 hlo
  rw[e70,JP]
  cases q1:kids.length==0 with
  |false=>
   rw[q1]at hz
   simp only[go_sem,Wr,Tryz.f70,hlo,l1,q0,d1,d8,h1,Jf,hz,An]<;>rfl
  |true=>
   rw[q1]at hz
   cases q2:Spell.kK n d with
   |false=>
    rw[q2]at c101
    simp only[go_sem,Wr,Tryz.f70,hlo,l1,q0,d1,d8,h1,Jf,hz,c101,An,Au]<;>rfl
   |true=>
    rw[q2]at c101
    cases q3:decide (u>=0)with
    |false=>
     have q3':decide (0<=u)=false:=q3
     simp only[go_sem,Wr,Tryz.f70,hlo,l1,q0,d1,d8,h1,Jf,hz,c101,q3',An,Au]<;>rfl
    |true=>
     have q3':decide (0<=u)=true:=q3
     simp only[go_sem,Wr,Tryz.f70,hlo,l1,q0,d1,d8,h1,Jf,hz,c101,q3',An,Au]<;>rfl
 |false=>
  rw[if_neg (by simp)]
  have e:=Zh n d 0 0
  cases q1:(n==0&&d==0)with
  |false=>
   rw[q1]at e;rw[if_pos (by simp),e70,JP]
   simp only[go_sem,Wr,Tryz.f70,hlo,l1,q0,d1,d8,h1,Jf,K4,e,AO]<;>rfl
  |true=>
   cases q2:u !=0 with
   |true=>
    rw[q1]at e;rw[if_pos (by simp),e70,JP]
    simp only[go_sem,Wr,Tryz.f70,hlo,l1,q0,d1,d8,h1,Jf,K4,e,q2,AB]<;>rfl
   |false=>
    rw[if_neg (by simp)]
    simp only[Af,beq_iff_eq]at q1;obtain⟨rfl,rfl⟩:=q1;obtain rfl:u=0:=by simpa using q2
    have:k≠1:=by simpa using h1
    exact Jks hlo hl hd0 om hk ⟨om,om⟩
end
mutual
theorem Jdf:∀(x:X),Ws x->P70 x
 | .mk k n d u kids,h=>by rw[Ws]at h;exact Jkt h.2.1 h.1 (Jdg kids h.2.2)
theorem Jdg:∀(l:List X),Qc l->∀x∈l,P70 x
 |[],_=>λx hx=>nomatch hx
 |y::r,h=>by rw[Qc]at h;exact Ct.2 ⟨Jdf y h.1,Jdg r h.2⟩
end
theorem f41{x:X}(hlo:lo<=h.length)(hx:Ws x):E lo 41 [.agg (xC x)] h=some (.v (.bool (W5 x 1)),h):=by
 have l1:lo<=h.length+1:=om;have c70:∀lo h,lo<=h.length->E lo 70 [.agg (xC x),.v (.int .i64 340)] h=some (.v (.bool (W5 x 1)),h):=λlo h hlo=>Jdf x hx 1 lo h om om hlo
 obtain⟨k,n,d,u,l⟩:=x;rw[JP]at c70;rw[e41,JP];simp only[go_sem,b41,Tryz.f41,hlo,l1,c70]<;>rfl
def P39(x:X):Prop:=∀(lo:Nat) (h:JM),lo<=h.length->E lo 43 [.agg (xC x),.agg (xC x)] h=some (.v (.bool true),h)
abbrev N39(h:JM)(m i:Int):Jr:=[(2,.ptr h.length 0),(3,.ptr (h.length+1) 0),(36,.v (.int .i64 m)),(37,.v (.int .i64 i))]
section
variable{k n d u:Int}{kids:List X}
theorem r43{x:X}{i:Nat}(hlo:lo<=h.length)(hl:kids.length<=100000000)(hg:kids[i]? =some x)(hx:P39 x):
  evCode ⟨Aa,E,lo,h.length,h43⟩ JA JBp (N39 h kids.length i,h++[.cells (xC (.mk k n d u kids)),.cells (xC (.mk k n d u kids))])=some (.normal,N39 h kids.length (i+1:Nat),h++[.cells (xC (.mk k n d u kids)),.cells (xC (.mk k n d u kids))]):=by
 have l1:lo<=h.length+1:=om;have l2:lo<=h.length+1+1:=om;have hlt:i<kids.length:=(Ab.1 hg).1
 have hgr:(ZG kids)[i]? =some (xC x):=by rw[kS,hg]<;>rfl
 have q1:decide ((i:Int)<(kids.length:Int))=true:=by rw[decide_eq_true_iff];omega
 have t1:Bp (i:Int)=i:=om;have hwr:=Jd (i:=i) om;unfold P39 at hx;obtain⟨ek,en,ed,eu,el⟩:=x;simp only[JP]at hx hgr⊢;simp only[N39,go_sem,JBp,b43,Tryz.f43,hlo,l1,l2,hgr,q1,t1,hwr,hx,AB]<;>rfl
theorem Jku(hlo:lo<=h.length):
  evCode ⟨Aa,E,lo,h.length,h43⟩ JA JBp (N39 h kids.length (kids.length:Nat),h++[.cells (xC (.mk k n d u kids)),.cells (xC (.mk k n d u kids))])=some (.exit 0,N39 h kids.length (kids.length:Nat)++[(38,.v (.bool false))],h++[.cells (xC (.mk k n d u kids)),.cells (xC (.mk k n d u kids))]):=by
 have l1:lo<=h.length+1:=om;have q1:decide ((kids.length:Int)<(kids.length:Int))=false:=by rw[decide_eq_false_iff_not];omega
 simp only[N39,JP,go_sem,JBp,b43,Tryz.f43,hlo,l1,q1]<;>rfl
theorem JPk(hlo:lo<=h.length)(hl:kids.length<=100000000)(hk:∀x∈kids,P39 x):∀m i:Nat,i+m=kids.length->
  JA (evCode ⟨Aa,E,lo,h.length,h43⟩ JA JBp) (N39 h kids.length i,h++[.cells (xC (.mk k n d u kids)),.cells (xC (.mk k n d u kids))])=some (.exit 0,N39 h kids.length (kids.length:Nat)++[(38,.v (.bool false))],h++[.cells (xC (.mk k n d u kids)),.cells (xC (.mk k n d u kids))])
 |0,i,hm=>by
  obtain rfl:i=kids.length:=om
  rw[JJ,Jku hlo,Jx]
 |m+1,i,hm=>by
  have hlt:i<kids.length:=om;rw[JJ,r43 hlo hl (Ac hlt) (hk _ (AN hlt)),Jg]
  exact JPk hlo hl hk m (i+1) om
theorem Jkv(hl:kids.length<=100000000)(hk:∀x∈kids,P39 x):P39 (.mk k n d u kids):=by
 intro lo h hlo;have l1:lo<=h.length+1:=om;have l2:lo<=h.length+1+1:=om;have hL:=JPk (k:=k) (n:=n) (d:=d) (u:=u) (lo:=lo) (h:=h) hlo hl hk kids.length 0 om;have e:=Zh n d n d;have z1:(n==n&&d==d)=true:=by simp
 have z2:(k !=k)=false:=by simp
 have z3:(u !=u)=false:=by simp
 have z4:((kids.length:Int) !=(kids.length:Int))=false:=by simp
 rw[z1]at e;rw[e43,JP];simp only[JBp,b43,Tryz.f43,JK,loops,JB,N39,JP,show((0:Nat):Int)=0 from rfl,go_sem]at hL
 simp only[go_sem,b43,Tryz.f43,hlo,l1,l2,Jf,K4,e,z2,z3,z4,hL,AB]<;>rfl
end
mutual
theorem Jdh:∀(x:X),Ws x->P39 x
 | .mk k n d u kids,h=>by rw[Ws]at h;exact Jkv h.2.1 (Jdi kids h.2.2)
theorem Jdi:∀(l:List X),Qc l->∀x∈l,P39 x
 |[],_=>λx hx=>nomatch hx
 |y::r,h=>by rw[Qc]at h;exact Ct.2 ⟨Jdh y h.1,Jdi r h.2⟩
end
def Hs(j:Int):List X->Int
 |[]=>0
 |x::r=>(if(K2 x==j)=true then 1 else 0)+Hs j r
theorem kh(j:Int):∀l:List X,0<=Hs j l/\Hs j l<=l.length
 |[]=>by simp[Hs]
 |x::r=>by
  have:=kh j r;rw[Hs,Ai]
  split<;>omega
theorem JK0:∀l:List X,Hs 0 l+Hs 1 l+Hs 2 l=l.length
 |[]=>rfl
 |x::r=>by have:=JK0 r;rw[Hs,Hs,Hs,Ai];rcases kR x with h|h|h<;>rw[h]<;>simp<;>omega
theorem JDr:∀(l:List X) (c:Int),GY l c=if Hs 0 l=0 then some (c+Hs 2 l)else none
 |[],c=>by rw[GY];simp[Hs]
 |x::r,c=>by
  have h0:=kh 0 r;rw[GY,Hs,Hs];have a0:((0:Int)==0)=true:=rfl;have a2:((0:Int)==2)=false:=rfl;have b0:((1:Int)==0)=false:=rfl;have b2:((1:Int)==2)=false:=rfl;have c0:((2:Int)==0)=false:=rfl;have c2:((2:Int)==2)=true:=rfl;rcases kR x with h|h|h
  ·rw[h]
   simp only[a0,a2,if_true];rw[if_neg om]
  ·rw[h]
   simp only[b0,b2,Al,if_false,Dw];exact JDr r c
  ·rw[h]
   simp only[c0,c2,Al,if_false,if_true,Dw];rw[JDr r (c+1),Int.add_assoc]
def P20(x:X):Prop:=∀(lo:Nat) (h:JM),lo<=h.length->E lo 42 [.agg (xC x)] h=some (.v (.int .i64 (K2 x)),h)
abbrev N20(h:JM)(kids:List X)(i:Int):Jr:=[(1,.ptr h.length 0),(3,.ptr (h.length+1) 0),(15,.list .no (ZG kids)),(16,.v (.int .i64 kids.length)),(17,.v (.int .i64 i))]
abbrev C20(a b c:Int):Ob:= .cells [.v (.int .i64 a),.v (.int .i64 b),.v (.int .i64 c)]
section
variable{k n d u:Int}{kids:List X}
theorem r42{x:X}{i:Nat}{a b c:Int}(hlo:lo<=h.length)(hl:kids.length<=100000000)(hc:(0<=a/\a<=1000000000)/\(0<=b/\b<=1000000000)/\(0<=c/\c<=1000000000))(hg:kids[i]? =some x)(hx:P20 x):
  evCode ⟨Aa,E,lo,h.length,h42⟩ JA yK (N20 h kids i,h++[.cells (xC (.mk k n d u kids)),C20 a b c])=
   some (.normal,N20 h kids (i+1:Nat),h++[.cells (xC (.mk k n d u kids)),C20 (if(K2 x==0)=true then a+1 else a) (if(K2 x==1)=true then b+1 else b) (if(K2 x==2)=true then c+1 else c)]):=by
 have l1:lo<=h.length+1:=om;have l2:lo<=h.length+1+1:=om;have l3:lo<=h.length+3:=om;have hlt:i<kids.length:=(Ab.1 hg).1
 have hgr:(ZG kids)[i]? =some (xC x):=by rw[kS,hg]<;>rfl
 have q1:decide ((i:Int)<(kids.length:Int))=true:=by rw[decide_eq_true_iff];omega
 have t1:Bp (i:Int)=i:=om;have hwr:=Jd (i:=i) om;have wa:AQ.wrap (a+1)=a+1:=KY om om;have wb:AQ.wrap (b+1)=b+1:=KY om om;have wc:AQ.wrap (c+1)=c+1:=KY om om;have i0:((0:Int)<((3:Nat):Int))=True:=by simp
 have i1:((1:Int)<((3:Nat):Int))=True:=by simp
 have i2:((2:Int)<((3:Nat):Int))=True:=by simp
 have p1:((0:Int)<=1)=True:=by simp
 have p2:((0:Int)<=2)=True:=by simp
 have p0:((0:Int)<=0)=True:=by simp
 unfold P20 at hx;have hK:=kR x;generalize K2 x=K at hx hK⊢;obtain⟨ek,en,ed,eu,el⟩:=x;simp only[JP]at hx hgr⊢;rcases hK with rfl|rfl|rfl
 ·rw[if_pos (by rfl),if_neg (by decide),if_neg (by decide)]
  simp only[N20,C20,go_sem,yK,b42,Tryz.f42,hlo,l1,l2,l3,hgr,q1,t1,hwr,wa,hx,i0,p0]<;>rfl
 ·rw[if_neg (by decide),if_pos (by rfl),if_neg (by decide)]
  simp only[N20,C20,go_sem,yK,b42,Tryz.f42,hlo,l1,l2,l3,hgr,q1,t1,hwr,wb,hx,i1,p1]<;>rfl
 ·rw[if_neg (by decide),if_neg (by decide),if_pos (by rfl)]
  simp only[N20,C20,go_sem,yK,b42,Tryz.f42,hlo,l1,l2,l3,hgr,q1,t1,hwr,wc,hx,i2,p2]<;>rfl
theorem s20{a b c:Int}(hlo:lo<=h.length):
  evCode ⟨Aa,E,lo,h.length,h42⟩ JA yK (N20 h kids (kids.length:Nat),h++[.cells (xC (.mk k n d u kids)),C20 a b c])=some (.exit 0,N20 h kids (kids.length:Nat)++[(18,.v (.bool false))],h++[.cells (xC (.mk k n d u kids)),C20 a b c]):=by
 have l1:lo<=h.length+1:=om;have q1:decide ((kids.length:Int)<(kids.length:Int))=false:=by rw[decide_eq_false_iff_not];omega
 simp only[N20,C20,JP,go_sem,yK,b42,Tryz.f42,hlo,l1,q1]<;>rfl
theorem JPn(hlo:lo<=h.length)(hl:kids.length<=100000000)(hk:∀x∈kids,P20 x):∀(m i:Nat) (a b c:Int),i+m=kids.length->(0<=a/\a+m<=1000000000)->(0<=b/\b+m<=1000000000)->(0<=c/\c+m<=1000000000)->
  JA (evCode ⟨Aa,E,lo,h.length,h42⟩ JA yK) (N20 h kids i,h++[.cells (xC (.mk k n d u kids)),C20 a b c])=
   some (.exit 0,N20 h kids (kids.length:Nat)++[(18,.v (.bool false))],h++[.cells (xC (.mk k n d u kids)),C20 (a+Hs 0 (kids.drop i)) (b+Hs 1 (kids.drop i)) (c+Hs 2 (kids.drop i))])
 |0,i,a,b,c,hm,h1,h2,h3=>by
  obtain rfl:i=kids.length:=om
  rw[JJ,s20 hlo,Jx,AY,Hs,Hs,Hs,D5,D5,D5]
 |m+1,i,a,b,c,hm,h1,h2,h3=>by
  have hlt:i<kids.length:=om;rw[JJ,r42 hlo hl ⟨⟨h1.1,om⟩,⟨h2.1,om⟩,h3.1,om⟩ (Ac hlt) (hk _ (AN hlt)),Jg]
  rw[JPn hlo hl hk m (i+1) _ _ _ om (by split<;>omega) (by split<;>omega) (by split<;>omega),Ap hlt,Hs,Hs,Hs]
  have e:∀(q:Bool) (a z:Int),(if q=true then a+1 else a)+z=a+((if q=true then 1 else 0)+z):=λq a z=>by cases q<;>simp<;>omega
  rw[e,e,e]
def JXZ(k:Int)(n:Nat)(c0 c1 c2:Int):Int:=
 if decide (c0>0)=true then 0
 else if(k==4&&c2==1)=true then 2
 else if(c1==(n:Int))=true then 1
 else if(c2==(n:Int)&&(!(k==4)&& !(k==5)))=true then 2
 else 0
theorem JR0(hk1:(k==1)=false):JXZ k kids.length (Hs 0 kids) (Hs 1 kids) (Hs 2 kids)=K2 (.mk k n d u kids):=by
 rw[kT,if_neg (by rw[hk1];simp)]
 have h0:=kh 0 kids;have h1:=kh 1 kids;have h2:=kh 2 kids;have ha:=JK0 kids;rw[JDr];unfold JXZ;generalize Hs 0 kids=a at*;generalize Hs 1 kids=b at*;generalize Hs 2 kids=c at*;by_cases z0:a=0
 ·subst z0
  rw[if_pos rfl,if_neg (by simp)]
  simp only[Dw];by_cases z2:c=0
  ·subst z2
   rw[if_neg (by simp),if_pos (by rw[beq_iff_eq];omega),if_pos (by rfl)]
  ·rw[if_neg (show¬((c==0)=true)by simpa using z2)]
   by_cases k4:k=4
   ·subst k4
    by_cases c1:c=1
    ·subst c1;rw[if_pos (by rfl),if_pos (by rfl)]
    ·rw[if_neg (by simp[c1]),if_neg (by rw[beq_iff_eq];omega),if_neg (by simp),if_neg (by simp[c1])]
   ·have e4:(k==4)=false:=by simpa using k4
    rw[if_neg (by rw[e4];simp),if_neg (by rw[beq_iff_eq];omega)]
    have n4:(k !=4)=true:=by simpa using k4
    by_cases k5:k=5
    ·subst k5;rw[if_neg (by simp),if_neg (by simp)]
    ·have e5:(k==5)=false:=by simpa using k5
     have n5:(k !=5)=true:=by simpa using k5
     rw[e4,e5,n4,n5];simp
 ·rw[if_neg z0,if_pos (by rw[decide_eq_true_iff];omega)]
theorem Jkw(hl:kids.length<=100000000)(hk:∀x∈kids,P20 x):P20 (.mk k n d u kids):=by
 intro lo h hlo;have l1:lo<=h.length+1:=om;have l2:lo<=h.length+1+1:=om;rw[e42]
 cases h1:k==1 with
 |true=>
  rw[kT,if_pos h1]
  cases h2:u==0 with
  |true=>
   rw[if_pos rfl,JP]
   simp only[go_sem,b42,Tryz.f42,hlo,l1,h1,h2]<;>rfl
  |false=>
   rw[if_neg (by simp),JP]
   simp only[go_sem,b42,Tryz.f42,hlo,l1,h1,h2]<;>rfl
 |false=>
  rw[<-JR0 h1];have hL:=JPn (k:=k) (n:=n) (d:=d) (u:=u) (lo:=lo) (h:=h) hlo hl hk kids.length 0 0 0 0 om om om om;rw[AJ]at hL;simp only[show((0:Nat):Int)=0 from rfl,Dw]at hL
  generalize Hs 0 kids=A at hL⊢;generalize Hs 1 kids=B at hL⊢;generalize Hs 2 kids=C at hL⊢;have i0:((0:Int)<((3:Nat):Int))=True:=by simp
  have i1:((1:Int)<((3:Nat):Int))=True:=by simp
  have i2:((2:Int)<((3:Nat):Int))=True:=by simp
  have p1:((0:Int)<=1)=True:=by simp
  have p2:((0:Int)<=2)=True:=by simp
  have p0:((0:Int)<=0)=True:=by simp
  have n4:(k !=4)= !(k==4):=rfl;have n5:(k !=5)= !(k==5):=rfl;simp only[yK,b42,Tryz.f42,JK,loops,JB,N20,C20,JP,go_sem]at hL;unfold JXZ;simp only[JP]
  cases qa:decide (A>0)with
  |true=>
   have qa':decide (0<A)=true:=qa;rw[if_pos rfl]
   simp only[go_sem,b42,Tryz.f42,hlo,l1,l2,h1,Jf,hL,qa',i0,p0]<;>rfl
  |false=>
   have qa':decide (0<A)=false:=qa;rw[if_neg (by simp)]
   cases q4:k==4 with
   |true=>
    rw[q4]at n4
    cases qc:C==1 with
    |true=>
     rw[if_pos (by simp)]
     simp only[go_sem,b42,Tryz.f42,hlo,l1,l2,h1,Jf,hL,qa',q4,qc,i0,p0,i1,p1,i2,p2]<;>rfl
    |false=>
     rw[if_neg (by simp)]
     cases qb:B==(kids.length:Int)with
     |true=>
      rw[if_pos rfl]
      simp only[go_sem,b42,Tryz.f42,hlo,l1,l2,h1,Jf,hL,qa',q4,qc,qb,i0,p0,i1,p1,i2,p2]<;>rfl
     |false=>
      rw[if_neg (by simp),if_neg (by simp)]
      cases qn:C==(kids.length:Int)with
      |true=>simp only[go_sem,b42,Tryz.f42,hlo,l1,l2,h1,Jf,hL,qa',q4,qc,qb,qn,n4,i0,p0,i1,p1,i2,p2,AB]<;>rfl
      |false=>simp only[go_sem,b42,Tryz.f42,hlo,l1,l2,h1,Jf,hL,qa',q4,qc,qb,qn,n4,i0,p0,i1,p1,i2,p2,AB]<;>rfl
   |false=>
    rw[q4]at n4;rw[if_neg (by simp)]
    cases qb:B==(kids.length:Int)with
    |true=>
     rw[if_pos rfl]
     simp only[go_sem,b42,Tryz.f42,hlo,l1,l2,h1,Jf,hL,qa',q4,qb,i0,p0,i1,p1,i2,p2]<;>rfl
    |false=>
     rw[if_neg (by simp)]
     cases qn:C==(kids.length:Int)with
     |false=>
      rw[if_neg (by simp)]
      simp only[go_sem,b42,Tryz.f42,hlo,l1,l2,h1,Jf,hL,qa',q4,qb,qn,n4,i0,p0,i1,p1,i2,p2,AO]<;>rfl
     |true=>
      cases q5:k==5 with
      |true=>
       rw[q5]at n5;rw[if_neg (by simp)]
       simp only[go_sem,b42,Tryz.f42,hlo,l1,l2,h1,Jf,hL,qa',q4,qb,qn,n4,n5,i0,p0,i1,p1,i2,p2,AO,AB]<;>rfl
      |false=>
       rw[q5]at n5;rw[if_pos (by simp)]
       simp only[go_sem,b42,Tryz.f42,hlo,l1,l2,h1,Jf,hL,qa',q4,qb,qn,n4,n5,i0,p0,i1,p1,i2,p2,AO,AB]<;>rfl
end
mutual
theorem Jdj:∀(x:X),Ws x->P20 x
 | .mk k n d u kids,h=>by rw[Ws]at h;exact Jkw h.2.1 (Jdk kids h.2.2)
theorem Jdk:∀(l:List X),Qc l->∀x∈l,P20 x
 |[],_=>λx hx=>nomatch hx
 |y::r,h=>by rw[Qc]at h;exact Ct.2 ⟨Jdj y h.1,Jdk r h.2⟩
end
section
variable{nm:ByteArray}{k:Int}{dn low:Bool}{ws:List ByteArray}{ck a b:Int}{w:ByteArray}{L:List CV}{n:Nat}{wd:List Int}
abbrev W10(h:JM)(L:List CV)(ws:List ByteArray)(wd:List Int)(i:Int):Jr:=[(1,.list .no (JH L)),(4,.ptr h.length 0),(6,.ptr (h.length+1) 0),(11,.v (.string (Rul.bs wd))),(85,.list .no (WO ws)),(86,.v (.int .i64 ws.length)),(87,.v (.int .i64 i))]
theorem Jkx{x:ByteArray}{i:Nat}(hlo:lo<=h.length)(hl:ws.length<=1000000000)(hwd:By wd)(hg:ws[i]? =some x):
  evCode (WH lo h) JA kD (W10 h L ws wd i,WL h (JG nm k dn low ws ck a b w))=if(!(wd==[])&&(x.toList==(Rul.bs wd).toList))=true then Qe h (JG nm k dn low ws ck a b w) (G8 2 x) 0 else some (.normal,W10 h L ws wd (i+1:Nat),WL h (JG nm k dn low ws ck a b w)):=by
 have hlt:i<ws.length:=(Ab.1 hg).1
 have hgr:(WO ws)[i]? =some [.v (.string x)]:=by unfold WO;rw[Am,hg]<;>rfl
 have l1:lo<=h.length+1:=om;have q1:decide ((i:Int)<(ws.length:Int))=true:=by rw[decide_eq_true_iff];omega
 have t1:Bp (i:Int)=i:=om;have hwr:=Jd (i:=i) om;have e4:=K1 hwd (byW (b:=[]) (by decide))
 rw[show Rul.bs []=⟨#[]⟩from rfl]at e4
 have e4':((Rul.bs wd).toList !=(⟨#[]⟩:ByteArray).toList)= !(wd==[]):=by unfold bne;rw[e4]
 simp only[W10,WL,Qe,G8,vZ,JG];generalize WO ws=S at hgr⊢
 cases z:wd==[]with
 |true=>
  rw[z]at e4 e4';rw[AB]at e4';rw[AB,An,if_neg (by simp)]
  simp only[WH,go_sem,kD,WJ,Tryz.f10,hlo,l1,q1,hgr,t1,hwr,e4,e4',AB]<;>rfl
 |false=>
  rw[z]at e4 e4';rw[AO]at e4';rw[AO,Au]
  cases z2:x.toList==(Rul.bs wd).toList with
  |true=>
   rw[if_pos rfl]
   simp only[WH,go_sem,kD,WJ,Tryz.f10,hlo,l1,q1,hgr,t1,hwr,e4,e4',z2,AO]<;>rfl
  |false=>
   rw[if_neg (by simp)]
   simp only[WH,go_sem,kD,WJ,Tryz.f10,hlo,l1,q1,hgr,t1,hwr,e4,e4',z2,AO]<;>rfl
theorem Jky(hlo:lo<=h.length):evCode (WH lo h) JA kD (W10 h L ws wd (ws.length:Nat),WL h (JG nm k dn low ws ck a b w))=some (.exit 0,W10 h L ws wd (ws.length:Nat)++[(88,.v (.bool false))],WL h (JG nm k dn low ws ck a b w)):=by
 have q1:decide ((ws.length:Int)<(ws.length:Int))=false:=by rw[decide_eq_false_iff_not];omega
 simp only[WH,W10,WL,vZ,JG,go_sem,kD,WJ,Tryz.f10,hlo,q1]<;>rfl
theorem JPo{x y:ByteArray}(h:(x.toList==y.toList)=true):x=y:=by rw[beq_iff_eq,ByteArray.toList_eq,ByteArray.toList_eq]at h;obtain⟨⟨a⟩⟩:=x;obtain⟨⟨b⟩⟩:=y;have:a=b:=h;rw[this]
theorem JK1(hlo:lo<=h.length)(hl:ws.length<=1000000000)(hwd:By wd):∀m i:Nat,i+m=ws.length->
  JA (evCode (WH lo h) JA kD) (W10 h L ws wd i,WL h (JG nm k dn low ws ck a b w))=
   if(!(wd==[])&&W4 (ws.drop i) (Rul.bs wd))=true then Qe h (JG nm k dn low ws ck a b w) (G8 2 (Rul.bs wd)) 0
   else some (.exit 0,W10 h L ws wd (ws.length:Nat)++[(88,.v (.bool false))],WL h (JG nm k dn low ws ck a b w))
 |0,i,hm=>by
  obtain rfl:i=ws.length:=om
  rw[AY,show W4 [] (Rul.bs wd)=false from rfl,Bg,if_neg (by simp),JJ,Jky hlo,Jx]
 |m+1,i,hm=>by
  have hlt:i<ws.length:=om;rw[JJ,Jkx hlo hl hwd (Ac hlt),Ap hlt]
  have e:W4 (ws[i]::ws.drop (i+1)) (Rul.bs wd)=((ws[i].toList==(Rul.bs wd).toList)||W4 (ws.drop (i+1)) (Rul.bs wd)):=by unfold W4;rw[List.any_cons,Bool.beq_comm]
  rw[e];by_cases z:(!(wd==[])&&(ws[i].toList==(Rul.bs wd).toList))=true
  ·have z1:(!(wd==[]))=true:=by rw[Af]at z;exact z.1
   have z2:(ws[i].toList==(Rul.bs wd).toList)=true:=by rw[Af]at z;exact z.2
   rw[if_pos z,z1,z2,if_pos (by simp),JPo z2,Qe,Ki]
  ·rw[if_neg z,Jg,JK1 hlo hl hwd m (i+1) om]
   have e2:(!(wd==[])&&((ws[i].toList==(Rul.bs wd).toList)||W4 (ws.drop (i+1)) (Rul.bs wd)))=(!(wd==[])&&W4 (ws.drop (i+1)) (Rul.bs wd)):=by
    cases z1:wd==[]with
    |true=>rfl
    |false=>
     rw[z1]at z;have z3:(ws[i].toList==(Rul.bs wd).toList)=false:=by simpa using z
     rw[z3,Bool.false_or]
   rw[e2]
theorem Jkz(hlo:lo<=h.length)(hl:ws.length<=1000000000)(hwd:By wd):H0 (WH lo h) JA (pc WJ 18 2) (M10 h L wd,WL h (JG nm k dn low ws ck a b w))=
  if(!(wd==[])&&W4 ws (Rul.bs wd))=true then Qe h (JG nm k dn low ws ck a b w) (G8 2 (Rul.bs wd)) 0
  else some (.normal,W10 h L ws wd (ws.length:Nat)++[(88,.v (.bool false))],WL h (JG nm k dn low ws ck a b w)):=by
 have l1:lo<=h.length+1:=om;have hL:=JK1 (nm:=nm) (k:=k) (dn:=dn) (low:=low) (ck:=ck) (a:=a) (b:=b) (w:=w) (L:=L) (lo:=lo) (h:=h) hlo hl hwd ws.length 0 om;rw[AJ]at hL;have sl:(WO ws).length=ws.length:=by unfold WO;rw[List.length_map]
 have se:(ws.map λx=>[V.v (Value.string x)])=WO ws:=rfl
 simp only[W10,M10,WL,vZ,JG,se]at hL⊢;generalize WO ws=S at hL sl⊢;by_cases z:(!(wd==[])&&W4 ws (Rul.bs wd))=true
 ·rw[if_pos z]at hL⊢
  simp only[Qe,G8,se,kD,WJ,Tryz.f10,JK,loops,JB,WH,show((0:Nat):Int)=0 from rfl,go_sem]at hL⊢
  simp only[WH,go_sem,WJ,Tryz.f10,hlo,l1,sl,hL]<;>rfl
 ·rw[if_neg z]at hL⊢
  simp only[kD,WJ,Tryz.f10,JK,loops,JB,WH,show((0:Nat):Int)=0 from rfl,go_sem]at hL
  simp only[WH,go_sem,WJ,Tryz.f10,hlo,l1,sl,hL]<;>rfl
end
section
variable{nm:ByteArray}{k:Int}{dn low:Bool}{ws:List ByteArray}{ck a b:Int}{w:ByteArray}{L:List CV}{n:Nat}{wd:List Int}
abbrev K10(h:JM)(L:List CV):Jr:=[(1,.list .no (JH L)),(4,.ptr h.length 0),(6,.ptr (h.length+1) 0),(103,.v (.bool false))]
theorem Jk0(hlo:lo<=h.length):H0 (WH lo h) JA (pc WJ 20 2) (W10 h L ws wd (ws.length:Nat)++[(88,.v (.bool false))],WL h (JG nm k dn low ws ck a b w))=
  if(k==3)=true then Qe h (JG nm k dn low ws ck a b w) vZ 3
  else some (.normal,K10 h L,WL h (JG nm k dn low ws ck a b w)):=by
 have l1:lo<=h.length+1:=om;simp only[W10,WL,vZ,JG];generalize WO ws=S
 cases z:k==3 with
 |true=>
  rw[if_pos rfl]
  simp only[WH,Qe,vZ,go_sem,WJ,Tryz.f10,hlo,l1,z]<;>rfl
 |false=>
  rw[if_neg (by simp)]
  simp only[WH,go_sem,WJ,Tryz.f10,hlo,l1,z]<;>rfl
abbrev H10(h:JM)(cs:List V)(e:X):JM:=h++[.cells vZ,.cells cs,.cells (xC e)]
abbrev J10(h:JM)(L:List CV)(er:Int)(z:Bool):Jr:=[(1,.list .no (JH L)),(4,.ptr h.length 0),(6,.ptr (h.length+1) 0),(14,.ptr (h.length+2) 0),(15,.v (.int .i64 er)),(16,.v (.int .i64 1)),(112,.v (.bool z))]
theorem Jk1(hlo:lo<=h.length)(hn:JL L<=n)(hl:JL L<=2000000)(ho:Kq L):H0 (WH lo h) JA (pc WJ 22 3) (K10 h L,WL h (JG nm k dn low ws ck a b w))=
  some (.normal,J10 h L (Jk n L).2 (k==1),H10 h (JG nm k dn low ws ck a b w) (Jk n L).1):=by
 have l1:lo<=h.length+1:=om;have l2:lo<=h.length+1+1:=om;have c39:=λlo h hlo=>f39 (lo:=lo) (h:=h) (l:=L) (n:=n) hlo hn om ho
 generalize Jk n L=r at c39⊢;obtain⟨⟨ek,en,ed,eu,el⟩,er⟩:=r;simp only[JP]at c39;simp only[WH,K10,J10,H10,WL,vZ,JG,JP,go_sem,WJ,Tryz.f10,hlo,l1,l2,c39]<;>rfl
abbrev G10(h:JM)(er want:Int)(z:Bool):Jr:=[(4,.ptr h.length 0),(6,.ptr (h.length+1) 0),(14,.ptr (h.length+2) 0),(15,.v (.int .i64 er)),(16,.v (.int .i64 want)),(132,.v (.bool z))]
abbrev U10(h:JM)(er:Int):Jr:=[(1,.undef),(4,.ptr h.length 0),(6,.ptr (h.length+1) 0),(14,.ptr (h.length+2) 0),(15,.v (.int .i64 er)),(16,.v (.int .i64 2)),(112,.undef)]
def Kn(h:JM)(L:List CV)(er want:Int)(g:Jr):Prop:=(g=J10 h L er false/\want=1)\/(g=G10 h er 2 false/\want=2)\/(g=U10 h er/\want=2)
theorem Jdl{er:Int}{e:X}(hlo:lo<=h.length)(hk:(k==1)=false):∃g,Kn h L er 1 g/\H0 (WH lo h) JA (pc WJ 25 1) (J10 h L er (k==1),H10 h (JG nm k dn low ws ck a b w) e)=some (.normal,g,H10 h (JG nm k dn low ws ck a b w) e):=by
 rw[hk];refine⟨J10 h L er false,.inl ⟨rfl,rfl⟩,?_⟩
 obtain⟨ek,en,ed,eu,el⟩:=e;simp only[WH,J10,H10,vZ,JG,JP,go_sem,WJ,Tryz.f10,hlo]<;>rfl
theorem Jdm:∀lo h,lo<=h.length->E lo 40 [.v (.int .i64 0)] h=some (.agg [.v (.int .i64 0),.v (.int .i64 1)],h):=λlo h hlo=>f40 hlo
theorem Jdn{er:Int}{e:X}(hlo:lo<=h.length)(hk:(k==1)=true)(hz:Z1 L=false):∃g,Kn h L er 2 g/\H0 (WH lo h) JA (pc WJ 25 1) (J10 h L er (k==1),H10 h (JG nm k dn low ws ck a b w) e)=some (.normal,g,H10 h (JG nm k dn low ws ck a b w) e):=by
 have l1:lo<=h.length+1:=om;have l2:lo<=h.length+1+1:=om;have l3:lo<=h.length+3:=om;have c:=Jdm;rw[hk];refine⟨G10 h er 2 false,.inr (.inl ⟨rfl,rfl⟩),?_⟩
 obtain⟨ek,en,ed,eu,el⟩:=e
 match L,hz with
 |[],_=>
  have q1:(((0:Nat):Int)==1)=false:=rfl;have q1':((0:Int)==1)=false:=rfl
  simp only[WH,J10,G10,H10,vZ,JG,JP,JZ,go_sem,WJ,Tryz.f10,hlo,l1,l2,l3,q1,q1',Ak]<;>rfl
 |v::u::r,_=>
  have q1:(((r.length+1+1:Nat):Int)==1)=false:=by rw[beq_eq_false_iff_ne];omega
  simp only[WH,J10,G10,H10,vZ,JG,JP,JY,go_sem,WJ,Tryz.f10,hlo,l1,l2,l3,q1,Ai,JC]<;>rfl
 |[.mk t kids],hz=>
  have q1:(((0+1:Nat):Int)==1)=true:=rfl;have q1':((1:Int)==1)=true:=rfl;have hz':(t.k==10&&(t.n==0&&t.d==1))=false:=hz
  cases z1:t.k==10 with
  |false=>simp only[WH,J10,G10,H10,vZ,JG,JP,JY,JZ,JN,go_sem,WJ,Tryz.f10,hlo,l1,l2,l3,q1,q1',z1,Ai,Ak]<;>rfl
  |true=>rw[z1,Au]at hz';have e:=Zh t.n t.d 0 1;rw[hz']at e;simp only[WH,J10,G10,H10,vZ,JG,JP,JY,JZ,JN,go_sem,WJ,Tryz.f10,hlo,l1,l2,l3,q1,q1',z1,c,K4,e,Ai,Ak]<;>rfl
def eC(ow:Own):X->List V
 | .mk ek en ed eu el=>[.v (.int .i64 ek),.v (.int .i64 en),.v (.int .i64 ed),.v (.int .i64 eu),.list ow (ZG el)]
theorem JSp(e:X):eC .no e=xC e:=by obtain⟨ek,en,ed,eu,el⟩:=e;rw[JP]<;>rfl
abbrev qo(h:JM)(cs:List V)(ow:Own)(e:X):JM:=h++[.cells vZ,.cells cs,.cells (eC ow e)]
theorem Jdo{er:Int}{e:X}(hlo:lo<=h.length)(hk:(k==1)=true)(hz:Z1 L=true):∃g,Kn h L er 2 g/\H0 (WH lo h) JA (pc WJ 25 1) (J10 h L er (k==1),H10 h (JG nm k dn low ws ck a b w) e)=some (.normal,g,qo h (JG nm k dn low ws ck a b w) .yes (.mk 1 0 1 1 [])):=by
 have l1:lo<=h.length+1:=om;have l2:lo<=h.length+1+1:=om;have l3:lo<=h.length+3:=om;have c:=Jdm;rw[hk];refine⟨U10 h er,.inr (.inr ⟨rfl,rfl⟩),?_⟩
 obtain⟨ek,en,ed,eu,el⟩:=e
 match L,hz with
 |[.mk t kids],hz=>have q1:(((0+1:Nat):Int)==1)=true:=rfl;have q1':((1:Int)==1)=true:=rfl;unfold Z1 at hz;simp only[Af]at hz;obtain⟨z1,z2,z3⟩:=hz;have e:=Zh t.n t.d 0 1;rw[z2,z3]at e;simp only[WH,J10,U10,H10,qo,eC,vZ,JG,JP,JW,JY,JZ,JN,go_sem,WJ,Tryz.f10,hlo,l1,l2,l3,q1,q1',z1,c,K4,e,Ai,Ak,Bool.and_true]<;>rfl
abbrev R10(h:JM)(cs vc:List V)(ow:Own)(e:X)(er:Int):Option (Ex×Jr×JM):=some (.ret,[(4,.ptr h.length 0),(5,.v (.int .i64 er))],h++[.cells vc,.cells cs,.cells (eC ow e)])
def JAi(low:Bool)(er want:Int)(e:X):Option X:=
 if(er !=0)=true then none
 else if(!W5 e 1)=true then none
 else if(K2 e !=want)=true then none
 else if(!low&&(e.k==1&&decide (JHC e<0)))=true then none
 else some e
theorem Jk2{g:Jr}{er want:Int}{e:X}{ow:Own}(how:ow= .no\/ow= .yes)(hlo:lo<=h.length)(hg:Kn h L er want g)(hx:Ws e):
  H0 (WH lo h) JA (pc WJ 26 4) (g,qo h (JG nm k dn low ws ck a b w) ow e)=
   match JAi low er want e with
   |none=>R10 h (JG nm k dn low ws ck a b w) vZ ow e 3
   |some x=>R10 h (JG nm k dn low ws ck a b w) (JDf 1 x) ow e 0:=by
 have l1:lo<=h.length+1:=om;have l2:lo<=h.length+1+1:=om;have l3:lo<=h.length+3:=om;have c41:=λlo h hlo=>f41 (lo:=lo) (h:=h) hlo hx
 have c42:=Jdj e hx;unfold P20 at c42;unfold JAi;obtain⟨ek,en,ed,eu,el⟩:=e;generalize W5 (.mk ek en ed eu el) 1=my at c41⊢;generalize K2 (.mk ek en ed eu el)=kx at c42⊢;simp only[JP]at c41 c42;rw[show(X.mk ek en ed eu el).k=ek from rfl,show JHC (X.mk ek en ed eu el)=en from rfl]
 cases z1:er !=0 with
 |true=>
  rw[if_pos rfl];rcases hg with⟨rfl,rfl⟩|⟨rfl,rfl⟩|⟨rfl,rfl⟩<;>rcases how with rfl|rfl<;>
  simp only[WH,J10,G10,U10,qo,R10,eC,vZ,JG,go_sem,WJ,Tryz.f10,hlo,l1,l2,l3,z1]<;>rfl
 |false=>
 rw[if_neg (by simp)]
 cases my with
 |false=>
  rw[if_pos (by simp)]
  rcases hg with⟨rfl,rfl⟩|⟨rfl,rfl⟩|⟨rfl,rfl⟩<;>rcases how with rfl|rfl<;>
  simp only[WH,J10,G10,U10,qo,R10,eC,vZ,JG,go_sem,WJ,Tryz.f10,hlo,l1,l2,l3,z1,c41]<;>rfl
 |true=>
 rw[if_neg (by simp)]
 cases z2:kx !=want with
 |true=>
  rw[if_pos rfl];rcases hg with⟨rfl,rfl⟩|⟨rfl,rfl⟩|⟨rfl,rfl⟩<;>rcases how with rfl|rfl<;>
  simp only[WH,J10,G10,U10,qo,R10,eC,vZ,JG,go_sem,WJ,Tryz.f10,hlo,l1,l2,l3,z1,c41,c42,z2,AB]<;>rfl
 |false=>
 rw[if_neg (by simp)]
 cases low with
 |true=>
  rw[if_neg (by simp)]
  rcases hg with⟨rfl,rfl⟩|⟨rfl,rfl⟩|⟨rfl,rfl⟩<;>rcases how with rfl|rfl<;>
  simp only[WH,J10,G10,U10,qo,R10,eC,vZ,GQ,JG,go_sem,WJ,Tryz.f10,hlo,l1,l2,l3,z1,c41,c42,z2,AB]<;>rfl
 |false=>
  cases z3:ek==1 with
  |false=>
   rw[if_neg (by simp)]
   rcases hg with⟨rfl,rfl⟩|⟨rfl,rfl⟩|⟨rfl,rfl⟩<;>rcases how with rfl|rfl<;>
   simp only[WH,J10,G10,U10,qo,R10,eC,vZ,GQ,JG,go_sem,WJ,Tryz.f10,hlo,l1,l2,l3,z1,c41,c42,z2,z3,AB,AO]<;>rfl
  |true=>
   cases z4:decide (en<0)with
   |true=>
    rw[if_pos (by simp)]
    rcases hg with⟨rfl,rfl⟩|⟨rfl,rfl⟩|⟨rfl,rfl⟩<;>rcases how with rfl|rfl<;>
    simp only[WH,J10,G10,U10,qo,R10,eC,vZ,GQ,JG,go_sem,WJ,Tryz.f10,hlo,l1,l2,l3,z1,c41,c42,z2,z3,z4,AB,AO]<;>rfl
   |false=>
    rw[if_neg (by simp)]
    rcases hg with⟨rfl,rfl⟩|⟨rfl,rfl⟩|⟨rfl,rfl⟩<;>rcases how with rfl|rfl<;>
    simp only[WH,J10,G10,U10,qo,R10,eC,vZ,GQ,JG,go_sem,WJ,Tryz.f10,hlo,l1,l2,l3,z1,c41,c42,z2,z3,z4,AB,AO]<;>rfl
end
end Go.Lift.Y1
end
