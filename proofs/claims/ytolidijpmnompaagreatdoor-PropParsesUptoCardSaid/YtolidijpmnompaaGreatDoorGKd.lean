/- prop.good. -/
import Derived.Test.YtolidijpmnompaaGreatDoorGLd
import Derived.Test.YtolidijpmnompaaGreatDoorGKb
import Derived.Test.YtolidijpmnompaaGreatDoorGKc
open Bool renaming and_eq_true->Af,and_true->BR,false_and->An,false_eq_true->Al,false_or->A2,not_false->AO,not_true->AB,or_assoc->Lq,or_false->Cz,or_true->D3,true_and->Au,true_or->Bv
open ByteArray renaming empty->AE
open Go.IntKind renaming i64->AQ
open Go.Proofs.Tryz renaming prog->Aa
open Go.Value renaming bool->Cs,int->Bb,string->BX
open List renaming all_cons->Bj,append_assoc->AM,append_nil->AH,cons_append->AK,drop_eq_getElem_cons->Ap,drop_length->AY,drop_zero->AJ,forall_mem_cons->Ct,getElem?_append_right->A8,getElem?_eq_getElem->Ac,getElem?_eq_some_iff->Ab,getElem_mem->AN,length_append->Ax,length_cons->Ai,length_map->Ao,length_nil->Ak,map_append->Dh,mem_cons->A1,mem_of_getElem? ->Ah,mem_singleton->AL,nil_append->Aq
open Nat renaming le_refl->Ag,sub_self->CY
set_option linter.unusedVariables false
set_option linter.unusedSimpArgs false
set_option linter.unusedSectionVars false
set_option maxRecDepth 20000
set_option maxHeartbeats 4000000
section
open Go.Proofs
namespace Go.Lift.Y1
open Rul
open Utf (By)
variable{lo:Nat}{h:JM}
def JMm(k:Int):Bool:=k==6||(k==8||(k==22||(k==20||k==24)))
mutual
def j5:CV->Bool->Bool
 | .mk t kids,top=> !JMm t.k&&(!(t.k==17&&top)&&((!jU t||H8 kids)&&K9 kids false))
def K9:List CV->Bool->Bool
 |[],_=>true
 |v::r,top=>j5 v top&&K9 r top
end
theorem JG7(t:Tk4)(kids:List CV)(top:Bool):j5 (.mk t kids) top=(!JMm t.k&&(!(t.k==17&&top)&&((!jU t||H8 kids)&&K9 kids false))):=by rw[j5]
abbrev jc(l:List CV)(top:Bool)(i:Int):Jr:=[(1,.v (.bool top)),(7,.list .no (JH l)),(8,.v (.int .i64 l.length)),(9,.v (.int .i64 i))]
theorem r24{l:List CV}{v:CV}{top:Bool}{i:Nat}(hlo:lo<=h.length)(hl:JL l<=10000000)(ho:Wp v)(hg:l[i]? =some v)
  (hk:∀lo h,lo<=h.length->E lo 24 [.list .no (JH v.ks),.v (.bool false)] h=some (.v (.bool (K9 v.ks false)),h)):
  evCode ⟨Aa,E,lo,h.length,h24⟩ JA QK (jc l top i,h)=if j5 v top=true then some (.normal,jc l top (i+1:Nat),h)else some (.ret,[(4,.v (.bool false))],h++[.cells (Jp v)]):=by
 have hll:=JT l;have hnv:=KH (Ah hg);have hkn:=WD v;obtain⟨t,kids⟩:=v;have ht:okT t:=jZ ho;have hko:Kq kids:=ZV ho;have l1:lo<=h.length+1:=om;have hlt:i<l.length:=(Ab.1 hg).1
 have hgr:(JH l)[i]? =some (Jp (.mk t kids)):=by rw[Jm,hg];rfl
 have q1:decide ((i:Int)<(l.length:Int))=true:=by rw[decide_eq_true_iff];omega
 have t1:Int.toNat (i:Int)=i:=om;have hwr:=Jd (i:=i) om;have hkids:JL kids<=10000000:=by have:(CV.mk t kids).ks=kids:=rfl;rw[this]at hkn;omega
 have c55:=λlo h hlo=>f55 (lo:=lo) (h:=h) (kids:=kids) ht.1 ht.2.1 hlo
 have c25:=λlo h hlo=>f25 (lo:=lo) (h:=h) (l:=kids) hlo om
 have c56:=λlo h hlo=>f56 (lo:=lo) (h:=h) (l:=Je kids) hlo (by have:=KX kids;omega) (Hn λv hv=>KU hko v (J9 hv))
 have c24:∀lo h,lo<=h.length->E lo 24 [.list .no (JH kids),.v (.bool false)] h=some (.v (.bool (K9 kids false)),h):=hk;rw[<-JG6]at c56;rw[JG7];rw[JN]at*;generalize H8 kids=uo at c56⊢;generalize K9 kids false=gk at c24⊢;unfold JMm
 cases q6:t.k==6 with
 |true=>
  rw[if_neg (by simp)]
  simp only[jc,go_sem,QK,zy,Tryz.f24,hlo,l1,hgr,q1,t1,q6]<;>rfl
 |false=>
 cases q8:t.k==8 with
 |true=>
  rw[if_neg (by simp)]
  simp only[jc,go_sem,QK,zy,Tryz.f24,hlo,l1,hgr,q1,t1,q6,q8]<;>rfl
 |false=>
 cases q22:t.k==22 with
 |true=>
  rw[if_neg (by simp)]
  simp only[jc,go_sem,QK,zy,Tryz.f24,hlo,l1,hgr,q1,t1,q6,q8,q22]<;>rfl
 |false=>
 cases q20:t.k==20 with
 |true=>
  rw[if_neg (by simp)]
  simp only[jc,go_sem,QK,zy,Tryz.f24,hlo,l1,hgr,q1,t1,q6,q8,q22,q20]<;>rfl
 |false=>
 cases q24:t.k==24 with
 |true=>
  rw[if_neg (by simp)]
  simp only[jc,go_sem,QK,zy,Tryz.f24,hlo,l1,hgr,q1,t1,q6,q8,q22,q20,q24]<;>rfl
 |false=>
 have main:∀b9:Bool,(t.k==17)=b9->(b9&&top)=false->
   evCode ⟨Aa,E,lo,h.length,h24⟩ JA QK (jc l top i,h)=if((!jU t||uo)&&gk)=true then some (.normal,jc l top (i+1:Nat),h)else some (.ret,[(4,.v (.bool false))],h++[.cells [.v (.int .i64 t.k),.v (.string (Rul.bs t.b)),.v (.int .i64 t.n),.v (.int .i64 t.d),.v (.bool t.w),.v (.bool t.i),.list .no (JH kids)]]):=by
  intro b9 q17 hb
  have fin:∀tp:Bool,(b9&&tp)=false->evCode ⟨Aa,E,lo,h.length,h24⟩ JA QK (jc l tp i,h)=if((!jU t||uo)&&gk)=true then some (.normal,jc l tp (i+1:Nat),h)else some (.ret,[(4,.v (.bool false))],h++[.cells [.v (.int .i64 t.k),.v (.string (Rul.bs t.b)),.v (.int .i64 t.n),.v (.int .i64 t.d),.v (.bool t.w),.v (.bool t.i),.list .no (JH kids)]]):=by
   intro tp hb
   cases hu:jU t with
   |true=>
    rw[hu]at c55
    cases uo with
    |false=>
     rw[if_neg (by simp)]
     cases b9 with
     |true=>
      cases tp with
      |true=>cases hb
      |false=>simp only[jc,go_sem,QK,zy,Tryz.f24,hlo,l1,hgr,q1,t1,q6,q8,q22,q20,q24,q17,c55,c25,c56,c24,hwr]<;>rfl
     |false=>simp only[jc,go_sem,QK,zy,Tryz.f24,hlo,l1,hgr,q1,t1,q6,q8,q22,q20,q24,q17,c55,c25,c56,c24,hwr]<;>rfl
    |true=>
     cases gk with
     |false=>
      rw[if_neg (by simp)]
      cases b9 with
      |true=>
       cases tp with
       |true=>cases hb
       |false=>simp only[jc,go_sem,QK,zy,Tryz.f24,hlo,l1,hgr,q1,t1,q6,q8,q22,q20,q24,q17,c55,c25,c56,c24,hwr]<;>rfl
      |false=>simp only[jc,go_sem,QK,zy,Tryz.f24,hlo,l1,hgr,q1,t1,q6,q8,q22,q20,q24,q17,c55,c25,c56,c24,hwr]<;>rfl
     |true=>
      rw[if_pos (by simp)]
      cases b9 with
      |true=>
       cases tp with
       |true=>cases hb
       |false=>simp only[jc,go_sem,QK,zy,Tryz.f24,hlo,l1,hgr,q1,t1,q6,q8,q22,q20,q24,q17,c55,c25,c56,c24,hwr]<;>rfl
      |false=>simp only[jc,go_sem,QK,zy,Tryz.f24,hlo,l1,hgr,q1,t1,q6,q8,q22,q20,q24,q17,c55,c25,c56,c24,hwr]<;>rfl
   |false=>
    rw[hu]at c55
    cases gk with
    |false=>
     rw[if_neg (by simp)]
     cases b9 with
     |true=>
      cases tp with
      |true=>cases hb
      |false=>simp only[jc,go_sem,QK,zy,Tryz.f24,hlo,l1,hgr,q1,t1,q6,q8,q22,q20,q24,q17,c55,c25,c56,c24,hwr]<;>rfl
     |false=>simp only[jc,go_sem,QK,zy,Tryz.f24,hlo,l1,hgr,q1,t1,q6,q8,q22,q20,q24,q17,c55,c25,c56,c24,hwr]<;>rfl
    |true=>
     rw[if_pos (by simp)]
     cases b9 with
     |true=>
      cases tp with
      |true=>cases hb
      |false=>simp only[jc,go_sem,QK,zy,Tryz.f24,hlo,l1,hgr,q1,t1,q6,q8,q22,q20,q24,q17,c55,c25,c56,c24,hwr]<;>rfl
     |false=>simp only[jc,go_sem,QK,zy,Tryz.f24,hlo,l1,hgr,q1,t1,q6,q8,q22,q20,q24,q17,c55,c25,c56,c24,hwr]<;>rfl
  exact fin top hb
 cases q17:t.k==17 with
 |false=>
  rw[main false q17 rfl]
  simp only[An,Cz,AO,Au]
 |true=>
  cases top with
  |false=>
   rw[main true q17 rfl]
   simp only[Bool.and_false,Cz,AO,Au]
  |true=>
   rw[if_neg (by simp)]
   simp only[jc,go_sem,QK,zy,Tryz.f24,hlo,l1,hgr,q1,t1,q6,q8,q22,q20,q24,q17]<;>rfl
theorem JkP{l:List CV}{top:Bool}(hlo:lo<=h.length):evCode ⟨Aa,E,lo,h.length,h24⟩ JA QK (jc l top (l.length:Nat),h)=some (.exit 0,jc l top (l.length:Nat)++[(10,.v (.bool false))],h):=by
 have q1:decide ((l.length:Int)<(l.length:Int))=false:=by rw[decide_eq_false_iff_not];omega
 simp only[jc,go_sem,QK,zy,Tryz.f24,hlo,q1]<;>rfl
theorem JJh{l:List CV}{v:CV}{top:Bool}{i:Nat}(hg:l[i]? =some v):K9 (l.drop i) top=(j5 v top&&K9 (l.drop (i+1)) top):=by
 obtain⟨hlt,rfl⟩:=Ab.1 hg
 rw[Ap hlt,K9]
theorem JKl{l:List CV}{top:Bool}(hlo:lo<=h.length)(hl:JL l<=10000000)(ho:Kq l)
  (hk:∀v∈l,∀lo h,lo<=h.length->E lo 24 [.list .no (JH v.ks),.v (.bool false)] h=some (.v (.bool (K9 v.ks false)),h)):∀m i:Nat,i+m=l.length->
  if K9 (l.drop i) top=true then JA (evCode ⟨Aa,E,lo,h.length,h24⟩ JA QK) (jc l top i,h)=some (.exit 0,jc l top (l.length:Nat)++[(10,.v (.bool false))],h)
  else∃v,JA (evCode ⟨Aa,E,lo,h.length,h24⟩ JA QK) (jc l top i,h)=some (.ret,[(4,.v (.bool false))],h++[.cells (Jp v)])
 |0,i,hm=>by
  obtain rfl:i=l.length:=om
  rw[AY,K9,if_pos rfl,JJ,JkP hlo,Jx]
 |m+1,i,hm=>by
  have hlt:i<l.length:=om;have hg:=Ac hlt
  have hmem:=AN hlt;rw[JJh hg,JJ,r24 hlo hl (KU ho _ hmem) hg (hk _ hmem)]
  cases q:j5 l[i] top with
  |false=>
   rw[An,if_neg (by simp),if_neg (by simp),Ki]
   exact⟨_,rfl⟩
  |true=>rw[Au,if_pos rfl,Jg];exact JKl hlo hl ho hk m (i+1) om
theorem JdD:∀(n:Nat) (l:List CV),JL l<n->JL l<=10000000->Kq l->∀(top:Bool) lo h,lo<=h.length->E lo 24 [.list .no (JH l),.v (.bool top)] h=some (.v (.bool (K9 l top)),h)
 |0,l,hn,_,_=>by omega
 |n+1,l,hn,hl,ho=>by
  intro top lo h hlo
  have hk:∀v∈l,∀lo h,lo<=h.length->E lo 24 [.list .no (JH v.ks),.v (.bool false)] h=some (.v (.bool (K9 v.ks false)),h):=λv hv lo h hlo=>by have h1:=KH hv;have h2:=WD v;exact JdD n v.ks om om (ZV (KU ho v hv)) false lo h hlo
  have hL:=JKl (lo:=lo) (h:=h) (top:=top) hlo hl ho hk l.length 0 om;rw[AJ]at hL;rw[e24]
  cases q:K9 l top with
  |true=>
   rw[q,if_pos rfl]at hL;simp only[QK,zy,Tryz.f24,JK,loops,JB,jc,show((0:Nat):Int)=0 from rfl,go_sem]at hL
   simp only[go_sem,zy,Tryz.f24,hlo,JC,hL]<;>rfl
  |false=>
   rw[q,if_neg (by simp)]at hL
   obtain⟨v,hL⟩:=hL;simp only[QK,zy,Tryz.f24,JK,loops,JB,jc,show((0:Nat):Int)=0 from rfl,go_sem]at hL
   simp only[go_sem,zy,Tryz.f24,hlo,JC,hL]<;>rfl
theorem f24{l:List CV}{top:Bool}(hlo:lo<=h.length)(hl:JL l<=10000000)(ho:Kq l):E lo 24 [.list .no (JH l),.v (.bool top)] h=some (.v (.bool (K9 l top)),h):=
 JdD (JL l+1) l om hl ho top lo h hlo
mutual
def qf:CV->Bool
 | .mk t kids=>(jU t&& !H8 kids)||Qm kids
def Qm:List CV->Bool
 |[]=>false
 |v::r=>qf v||Qm r
end
def V24(l:List CV):Prop:=∀lo h,lo<=h.length->E lo 34 [.list .no (JH l)] h=some (.tup [.v (.bool (QY l)),.v (.bool (Qm l))],h)
noncomputable abbrev X24(lo:Nat)(h:JM):Go.Lift.Cx:=⟨Aa,E,lo,h.length,h34⟩
abbrev N24(s w:Bool)(l:List CV)(k:Int):Jr:=[(4,.v (.bool s)),(5,.v (.bool w)),(14,.list .no (JH l)),(15,.v (.int .i64 l.length)),(16,.v (.int .i64 k))]
theorem r34{l:List CV}{t:Tk4}{kids:List CV}{k:Nat}{s w:Bool}(hlo:lo<=h.length)(hl:l.length<=1000000000)(hg:l[k]? =some (.mk t kids))(hv:okCV (.mk t kids))(hc:V24 kids):
  evCode (X24 lo h) JA z6 (N24 s w l k,h)=some (.normal,N24 (s||JA3 (.mk t kids)) (w||qf (.mk t kids)) l (k+1:Nat),h):=by
 have hlt:k<l.length:=(Ab.1 hg).1
 have hgr:(JH l)[k]? =some (Jp (.mk t kids)):=by simp[rowsC_map,hg]
 rw[okCV]at hv;have l1:lo<=h.length+1:=om;have c34:=λlo h hlo=>hc lo h hlo
 have c66:=λlo h hlo=>f66 (lo:=lo) (h:=h) (kids:=kids) hv.1.1 hv.1.2.1 hlo
 obtain⟨a,b,c,c67⟩:=f67 (t:=t) hv.2 hv.1.2.2;rw[JN]at hgr c66 c67;have q1:decide ((k:Int)<(l.length:Int))=true:=by simp;omega
 have hw:=Jd (i:=k) om;rw[JA3,qf];generalize QY kids=x1 at c34⊢;generalize Qm kids=x2 at c34⊢;generalize jU t=x3 at c66⊢;generalize H8 kids=x4 at c67⊢
 cases s<;>cases w<;>cases x3<;>first
  |(
    simp only[go_sem,z6,b34,Tryz.f34,hlo,l1,q1,hgr,hw,c34,c66,Au,An,D3,Bv,A2,Cz]
    done)
  |(
    cases x4<;>simp only[go_sem,z6,b34,Tryz.f34,hlo,l1,q1,hgr,hw,c34,c66,c67,Au,An,D3,Bv,A2,Cz,AB,AO]
    done)
theorem JXK{l:List CV}:evCode (X41 lo h) JA yL (N41 l l.length,h)=some (.exit 0,N41 l l.length++[(9,.v (.bool false))],h):=by
 have q1:decide ((l.length:Int)<(l.length:Int))=false:=by simp
 simp only[go_sem,yL,b91,Tryz.f91,q1]<;>rfl
theorem JPM{l:List CV}(hlo:lo<=h.length)(hl:l.length<=1000000000)(hc:∀v∈l,V22 v):∀(m k:Nat),k+m=l.length->∃j:Nat,
  JA (evCode (X41 lo h) JA yL) (N41 l k,h)=if QY (l.drop k)=true then some (.ret,[(4,.v (.int .i64 j))],h)else some (.exit 0,N41 l l.length++[(9,.v (.bool false))],h)
 |0,k,hk=>by
  have e:k=l.length:=om;subst e;refine⟨0,?_⟩
  rw[AY,QY,if_neg (by simp),JJ,JXK,Jx]
 |m+1,k,hk=>by
  have hlt:k<l.length:=om;obtain⟨v,hg⟩:∃v,l[k]? =some v:=⟨l[k],Ac hlt⟩
  have hd:l.drop k=v::l.drop (k+1):=by
   rw[Ap hlt];rw[Ac hlt]at hg
   rw[Option.some.inj hg]
  have hm:v∈l:=Ah hg;have hr:=r91 (lo:=lo) (h:=h) hlo hl hg (hc v hm);obtain⟨j,hj⟩:=JPM hlo hl hc m (k+1) om;rw[hd,QY]
  cases hv:JA3 v with
  |true=>
   rw[if_pos hv]at hr;refine⟨k,?_⟩
   rw[JJ,hr,Ki,Bv,if_pos rfl]
  |false=>
   rw[if_neg (by simp[hv])]at hr
   refine⟨j,?_⟩
   rw[JJ,hr,Jg,A2];exact hj
theorem f91{l:List CV}(hlo:lo<=h.length)(hl:l.length<=1000000000)(hc:∀v∈l,V22 v):∃j:Nat,E lo 91 [.list .no (JH l),.fn 60 []] h=some (.v (.int .i64 (if QY l=true then(j:Int)else-1)),h):=by
 obtain⟨j,hj⟩:=JPM (lo:=lo) (h:=h) hlo hl hc l.length 0 om;refine⟨j,?_⟩
 rw[AJ]at hj;have n0:((0:Nat):Int)=0:=rfl;rw[e91]
 cases hv:QY l with
 |true=>
  rw[hv,if_pos rfl]at hj;simp only[yL,b91,Tryz.f91,JK,loops,JB,go_sem,N41,X41,n0]at hj
  simp only[go_sem,b91,Tryz.f91,hlo,hj,JC,n0]<;>rfl
 |false=>
  rw[hv,if_neg (by simp)]at hj
  simp only[yL,b91,Tryz.f91,JK,loops,JB,go_sem,N41,X41,n0]at hj;simp only[go_sem,b91,Tryz.f91,hlo,hj,JC,n0]<;>rfl
theorem f59{l:List CV}(hlo:lo<=h.length)(hl:l.length<=1000000000)(hc:∀v∈l,V22 v):E lo 59 [.list .no (JH l),.fn 60 []] h=some (.v (.bool (QY l)),h):=by
 obtain⟨j,hj⟩:=f91 (lo:=lo) (h:=h) hlo hl hc;obtain⟨j2,hj2⟩:=f91 (lo:=h.length) (h:=h) (Ag _) hl hc;rw[e59]
 cases hv:QY l with
 |true=>
  rw[hv,if_pos rfl]at hj hj2;have q:decide ((j:Int)>=0)=true:=by simp
  have q2:decide ((j2:Int)>=0)=true:=by simp
  have q':decide ((0:Int)<=j)=true:=by simp
  have q2':decide ((0:Int)<=j2)=true:=by simp
  simp only[go_sem,b59,Tryz.f59,hlo,hj,hj2,q,q2,q',q2']<;>rfl
 |false=>
  rw[hv,if_neg (by simp)]at hj hj2
  simp only[go_sem,b59,Tryz.f59,hlo,hj,hj2]<;>rfl
theorem f7_of{l:List CV}(hl:l.length<=1000000000)(hc:∀v∈l,V22 v):V7 l:=by intro lo h hlo;have k1:=f59 (lo:=lo) (h:=h) hlo hl hc;have k2:=f59 (lo:=h.length) (h:=h) (Ag _) hl hc;rw[e27];simp only[go_sem,b27,Tryz.f27,hlo,k1,k2]<;>rfl
mutual
theorem JdG:∀v:CV,okCV v->V22 v
 | .mk t kids=>by have ih:=JPN kids;intro hs;rw[okCV]at hs;exact f60 hs.1.1 hs.1.2.1 (f7_of hs.1.2.2 (ih hs.2))
theorem JPN:∀l:List CV,okCL l->∀v∈l,V22 v
 |[]=>λ_ _ h=>nomatch h
 |x::r=>by
  have i1:=JdG x;have i2:=JPN r;intro hs v hm;rw[okCL]at hs;rcases A1.1 hm with rfl|hm
  ·exact i1 hs.1
  ·exact i2 hs.2 v hm
end
theorem f27{l:List CV}(hlo:lo<=h.length)(hl:l.length<=1000000000)(hs:okCL l):E lo 27 [.list .no (JH l)] h=some (.v (.bool (QY l)),h):=f7_of hl (JPN l hs) lo h hlo
theorem JXL{s w:Bool}{l:List CV}:evCode (X24 lo h) JA z6 (N24 s w l l.length,h)=some (.exit 0,N24 s w l l.length++[(17,.v (.bool false))],h):=by
 have q1:decide ((l.length:Int)<(l.length:Int))=false:=by simp
 simp only[go_sem,z6,b34,Tryz.f34,q1]<;>rfl
theorem JPO{l:List CV}(hlo:lo<=h.length)(hl:l.length<=1000000000)(hv:∀v∈l,okCV v)(hc:∀t kids,CV.mk t kids∈l->V24 kids):∀(m k:Nat) (s w:Bool),k+m=l.length->
  JA (evCode (X24 lo h) JA z6) (N24 s w l k,h)=some (.exit 0,N24 (s||QY (l.drop k)) (w||Qm (l.drop k)) l l.length++[(17,.v (.bool false))],h)
 |0,k,s,w,hk=>by
  have e:k=l.length:=om;subst e
  rw[AY,QY,Qm,JJ,JXL,Jx,Cz,Cz]
 |m+1,k,s,w,hk=>by
  have hlt:k<l.length:=om;obtain⟨v,hg⟩:∃v,l[k]? =some v:=⟨l[k],Ac hlt⟩
  have hd:l.drop k=v::l.drop (k+1):=by
   rw[Ap hlt];rw[Ac hlt]at hg
   rw[Option.some.inj hg]
  have hm:v∈l:=Ah hg;have hj:=JPO hlo hl hv hc m (k+1);obtain⟨t,kids⟩:=v;have hr:=r34 (s:=s) (w:=w) (lo:=lo) (h:=h) hlo hl hg (hv _ hm) (hc t kids hm);rw[hd,QY,Qm,JJ,hr,Jg,hj _ _ om,Lq,Lq]
theorem JPP{l:List CV}(hl:l.length<=1000000000)(hv:∀v∈l,okCV v)(hc:∀t kids,CV.mk t kids∈l->V24 kids):V24 l:=by intro lo h hlo;have hj:=JPO (lo:=lo) (h:=h) hlo hl hv hc l.length 0 false false om;rw[AJ,A2,A2]at hj;have n0:((0:Nat):Int)=0:=rfl;rw[e34];simp only[z6,b34,Tryz.f34,JK,loops,JB,go_sem,N24,X24,n0]at hj;simp only[go_sem,b34,Tryz.f34,hlo,hj,JC,n0]<;>rfl
mutual
theorem JdH:∀v:CV,okCV v->∀t kids,v= .mk t kids->V24 kids
 | .mk t' kids'=>by have ih:=JPQ kids';intro hs t kids he;obtain⟨rfl,rfl⟩:=CV.mk.inj he;rw[okCV]at hs;exact JPP hs.1.2.2 (kJ hs.2) (ih hs.2)
theorem JPQ:∀l:List CV,okCL l->∀t kids,CV.mk t kids∈l->V24 kids
 |[]=>λ_ _ _ h=>nomatch h
 |x::r=>by
  have i1:=JdH x;have i2:=JPQ r;intro hs t kids hm;rw[okCL]at hs;rcases A1.1 hm with he|hm
  ·exact i1 hs.1 t kids he.symm
  ·exact i2 hs.2 t kids hm
end
theorem f34{l:List CV}(hl:l.length<=1000000000)(hs:okCL l):V24 l:=JPP hl (kJ hs) (JPQ l hs)
def JPR(k:Int)(top:Bool):Bool:=(k==6||(k==8||(k==22||(k==20||k==24))))||(k==17&&top)
mutual
def JG8:CV->Bool->Bool
 | .mk t kids,top=>JPR t.k top||ZJ kids false
def ZJ:List CV->Bool->Bool
 |[],_=>false
 |v::r,top=>JG8 v top||ZJ r top
end
theorem JKm(t:Tk4)(kids:List CV)(top:Bool):JG8 (.mk t kids) top=(JPR t.k top||ZJ kids false):=by rw[JG8]
theorem JCe(v:CV)(r:List CV)(top:Bool):ZJ (v::r) top=(JG8 v top||ZJ r top):=by rw[ZJ]
theorem JG9(top:Bool):ZJ [] top=false:=by rw[ZJ]
abbrev ZK(l:List CV)(top:Bool)(i:Int):Jr:=[(1,.v (.bool top)),(7,.list .no (JH l)),(8,.v (.int .i64 l.length)),(9,.v (.int .i64 i))]
theorem JkQ{l:List CV}{t:Tk4}{kids:List CV}{i:Nat}{top:Bool}(hlo:lo<=h.length)(hl:l.length<=1000000000)(hg:l[i]? =some (.mk t kids))
  (hc:∀lo h,lo<=h.length->E lo 35 [.list .no (JH kids),.v (.bool false)] h=some (.v (.bool (ZJ kids false)),h)):
  evCode ⟨Aa,E,lo,h.length,h35⟩ JA WA (ZK l top i,h)=if JG8 (.mk t kids) top=true then some (.ret,[(4,.v (.bool true))],h++[.cells (Jp (.mk t kids))])else some (.normal,ZK l top (i+1:Nat),h):=by
 have hlt:i<l.length:=(Ab.1 hg).1
 have hgr:(JH l)[i]? =some (Jp (.mk t kids)):=by rw[Jm,hg];rfl
 have q:decide ((i:Int)<(l.length:Int))=true:=by simpa using hlt
 have hw:=Jd (i:=i) om;have l1:lo<=h.length+1:=om;rw[JKm];unfold JPR;generalize ZJ kids false=bb at hc⊢;rw[JN]at*
 cases k6:t.k==6 with
 |true=>
  rw[if_pos (by simp)]
  simp only[ZK,go_sem,WA,b35,Tryz.f35,hlo,l1,q,hgr,hw,k6]<;>rfl
 |false=>
 cases k8:t.k==8 with
 |true=>
  rw[if_pos (by simp)]
  simp only[ZK,go_sem,WA,b35,Tryz.f35,hlo,l1,q,hgr,hw,k6,k8]<;>rfl
 |false=>
 cases k22:t.k==22 with
 |true=>
  rw[if_pos (by simp)]
  simp only[ZK,go_sem,WA,b35,Tryz.f35,hlo,l1,q,hgr,hw,k6,k8,k22]<;>rfl
 |false=>
 cases k20:t.k==20 with
 |true=>
  rw[if_pos (by simp)]
  simp only[ZK,go_sem,WA,b35,Tryz.f35,hlo,l1,q,hgr,hw,k6,k8,k22,k20]<;>rfl
 |false=>
 cases k24:t.k==24 with
 |true=>
  rw[if_pos (by simp)]
  simp only[ZK,go_sem,WA,b35,Tryz.f35,hlo,l1,q,hgr,hw,k6,k8,k22,k20,k24]<;>rfl
 |false=>
 cases k17:t.k==17 with
 |true=>
  cases top with
  |true=>
   rw[if_pos (by simp)]
   simp only[ZK,go_sem,WA,b35,Tryz.f35,hlo,l1,q,hgr,hw,k6,k8,k22,k20,k24,k17]<;>rfl
  |false=>
   cases bb with
   |true=>
    rw[if_pos (by simp)]
    simp only[ZK,go_sem,WA,b35,Tryz.f35,hlo,l1,q,hgr,hw,k6,k8,k22,k20,k24,k17,hc]<;>rfl
   |false=>
    rw[if_neg (by simp)]
    simp only[ZK,go_sem,WA,b35,Tryz.f35,hlo,l1,q,hgr,hw,k6,k8,k22,k20,k24,k17,hc]<;>rfl
 |false=>
  cases bb with
  |true=>
   rw[if_pos (by simp)]
   simp only[ZK,go_sem,WA,b35,Tryz.f35,hlo,l1,q,hgr,hw,k6,k8,k22,k20,k24,k17,hc]<;>rfl
  |false=>
   rw[if_neg (by simp)]
   simp only[ZK,go_sem,WA,b35,Tryz.f35,hlo,l1,q,hgr,hw,k6,k8,k22,k20,k24,k17,hc]<;>rfl
theorem JkR{l:List CV}{top:Bool}(hlo:lo<=h.length):evCode ⟨Aa,E,lo,h.length,h35⟩ JA WA (ZK l top (l.length:Nat),h)=some (.exit 0,ZK l top (l.length:Nat)++[(10,.v (.bool false))],h):=by
 have q:decide ((l.length:Int)<(l.length:Int))=false:=by simp
 simp only[ZK,go_sem,WA,b35,Tryz.f35,hlo,q]<;>rfl
theorem JKn{l:List CV}{top:Bool}(hlo:lo<=h.length)(hl:l.length<=1000000000)(hc:∀t kids,CV.mk t kids∈l->∀lo h,lo<=h.length->E lo 35 [.list .no (JH kids),.v (.bool false)] h=some (.v (.bool (ZJ kids false)),h)):∀m i:Nat,i+m=l.length->
  if ZJ (l.drop i) top=true then∃v,JA (evCode ⟨Aa,E,lo,h.length,h35⟩ JA WA) (ZK l top i,h)=some (.ret,[(4,.v (.bool true))],h++[.cells (Jp v)])
  else JA (evCode ⟨Aa,E,lo,h.length,h35⟩ JA WA) (ZK l top i,h)=some (.exit 0,ZK l top (l.length:Nat)++[(10,.v (.bool false))],h)
 |0,i,hm=>by
  obtain rfl:i=l.length:=om
  rw[AY,JG9,if_neg (by simp),JJ,JkR hlo,Jx]
 |m+1,i,hm=>by
  have hlt:i<l.length:=om;have hg:=Ac hlt
  have ih:=JKn (top:=top) hlo hl hc m (i+1) om;have hmem:=AN hlt;rw[Ap hlt,JCe];generalize l[i]=v at hg hmem;obtain⟨t,kids⟩:=v;have hr:=JkQ (lo:=lo) (h:=h) (top:=top) hlo hl hg (hc t kids hmem)
  cases hb:JG8 (.mk t kids) top with
  |true=>
   rw[hb,if_pos rfl]at hr;rw[Bv,if_pos rfl]
   exact⟨_,by rw[JJ,hr,Ki]⟩
  |false=>
   rw[hb,if_neg (by simp)]at hr
   rw[A2]
   have e:JA (evCode ⟨Aa,E,lo,h.length,h35⟩ JA WA) (ZK l top i,h)=JA (evCode ⟨Aa,E,lo,h.length,h35⟩ JA WA) (ZK l top (i+1:Nat),h):=by conv=>lhs;rw[JJ,hr,Jg]
   rw[e];exact ih
theorem JXM{l:List CV}(hl:l.length<=1000000000)(hc:∀t kids,CV.mk t kids∈l->∀lo h,lo<=h.length->E lo 35 [.list .no (JH kids),.v (.bool false)] h=some (.v (.bool (ZJ kids false)),h))(top:Bool)(lo:Nat)(h:JM)(hlo:lo<=h.length):
  E lo 35 [.list .no (JH l),.v (.bool top)] h=some (.v (.bool (ZJ l top)),h):=by
 have hL:=JKn (top:=top) hlo hl hc l.length 0 om;rw[AJ]at hL;have n0:((0:Nat):Int)=0:=rfl;rw[e35]
 cases hb:ZJ l top with
 |true=>
  rw[hb,if_pos rfl]at hL;obtain⟨⟨t,kids⟩,hL⟩:=hL;rw[JN]at hL;simp only[WA,b35,Tryz.f35,JK,loops,JB,ZK,n0,go_sem]at hL
  simp only[go_sem,b35,Tryz.f35,hlo,hL,JC]<;>rfl
 |false=>
  rw[hb,if_neg (by simp)]at hL
  simp only[WA,b35,Tryz.f35,JK,loops,JB,ZK,n0,go_sem]at hL;simp only[go_sem,b35,Tryz.f35,hlo,hL,JC]<;>rfl
theorem f35:∀(n:Nat) (l:List CV),JL l<n->JL l<=1000000000->∀(top:Bool) (lo:Nat) (h:JM),lo<=h.length->E lo 35 [.list .no (JH l),.v (.bool top)] h=some (.v (.bool (ZJ l top)),h)
 |0,l,hn,_=>by omega
 |n+1,l,hn,hl=>by
  have hll:=JT l;refine JXM om λt kids hm=>?_
  have h1:JL kids+1<=JL l:=by have:=KH hm;rw[QA]at this;have e:(CV.mk t kids).ks=kids:=rfl;rw[e]at this;omega
  exact f35 n kids om om false
theorem JRk(k:Int)(top:Bool):JPR k top=(JMm k||(k==17&&top)):=by unfold JPR JMm;cases k==6<;>cases k==8<;>cases k==20<;>cases k==22<;>cases k==24<;>rfl
mutual
theorem JMn:∀(v:CV) (top:Bool),j5 v top= !(JG8 v top||qf v)
 | .mk t kids,top=>by rw[JG7,JKm,JRk,qf,qg kids false];cases JMm t.k<;>cases(t.k==17&&top)<;>cases jU t<;>cases H8 kids<;>cases ZJ kids false<;>cases Qm kids<;>rfl
theorem qg:∀(l:List CV) (top:Bool),K9 l top= !(ZJ l top||Qm l)
 |[],top=>by rw[K9,JG9,Qm];rfl
 |v::r,top=>by rw[K9,JCe,Qm,JMn v top,qg r top];cases JG8 v top<;>cases ZJ r top<;>cases qf v<;>cases Qm r<;>rfl
end
end Go.Lift.Y1
end

section
namespace Go.Lift.Rul
def ZD(k:Int)(n:Nat):Bool:=
 if(k==2||k==4||k==6||k==7)=true then decide ((n:Int)>=1)
 else if(k==3||k==5)=true then((n:Int)==1)
 else if(k==8)=true then((n:Int)==3)
 else false
mutual
def W5:X->Int->Bool
 | .mk k n d u kids,dep=>
  if dep>340 then false
  else if(k==1)=true then kids.length==0&&(Spell.kK n d&&(decide (u>=0)&&decide (u<=7)))
  else if(!(n==0&&d==0)||u !=0)=true then false
  else ZD k kids.length&&Z0 kids (dep+1)
def Z0:List X->Int->Bool
 |[],_=>true
 |x::r,dep=>W5 x dep&&Z0 r dep
end
mutual
def K2:X->Int
 | .mk k n d u kids=>
  if(k==1)=true then(if(u==0)=true then 1 else 2)
  else match GY kids 0 with
   |none=>0
   |some c=>if(c==0)=true then 1 else if((k==4&&c==1)||(k !=4&&(k !=5&&c==(kids.length:Int))))=true then 2 else 0
def GY:List X->Int->Option Int
 |[],c=>some c
 |x::r,c=>if(K2 x==0)=true then none else GY r (if(K2 x==2)=true then c+1 else c)
end
theorem kR:∀x:X,K2 x=0\/K2 x=1\/K2 x=2
 | .mk k n d u kids=>by
  unfold K2
  split
  ·split<;>simp
  ·split
   ·simp
   ·split
    ·simp
    ·split<;>simp
mutual
def Ws:X->Prop
 | .mk k n d u kids=>((-9223372036854775808<=n/\n<=9223372036854775807)/\d<=9223372036854775807)/\kids.length<=100000000/\Qc kids
def Qc:List X->Prop
 |[]=>True
 |x::r=>Ws x/\Qc r
end
theorem JHA:∀{a b:List X},Qc a->Qc b->Qc (a++b)
 |[],_,_,h=>h
 |x::r,b,ha,hb=>by rw[Qc]at ha;rw[AK,Qc];exact⟨ha.1,JHA ha.2 hb⟩
end Go.Lift.Rul
end

section
open Go.Proofs
namespace Go.Lift.Y1
open Rul
open Utf (By)
variable{lo:Nat}{h:JM}
theorem kS(l:List X)(k:Nat):(ZG l)[k]? =(l[k]?).map xC:=by rw[GN,List.getElem?_map]
theorem JDb(k n d u dep:Int)(kids:List X):W5 (.mk k n d u kids) dep=(if dep>340 then false
  else if(k==1)=true then kids.length==0&&(Spell.kK n d&&(decide (u>=0)&&decide (u<=7)))
  else if(!(n==0&&d==0)||u !=0)=true then false
  else ZD k kids.length&&Z0 kids (dep+1)):=by rw[W5]
abbrev N99(h:JM)(dep:Int)(n:Nat)(ok:Bool)(i:Int):Jr:=[(1,.v (.int .i64 dep)),(2,.ptr h.length 0),(5,.v (.int .i64 n)),(6,.v (.bool ok)),(7,.v (.int .i64 i))]
section
variable{k n d u dep:Int}{kids:List X}
theorem JkS{x:X}{i:Nat}(hlo:lo<=h.length)(hl:kids.length<=100000000)(hd:0<=dep/\dep<=340)(hg:kids[i]? =some x)
  (hx:∀lo h,lo<=h.length->E lo 120 [.agg (xC x),.v (.int .i64 (dep+1))] h=some (.v (.bool (W5 x (dep+1))),h)):
  evCode ⟨Aa,E,lo,h.length,JMG⟩ JA G2 (N99 h dep kids.length true i,h++[.cells (xC (.mk k n d u kids))])=some (.normal,N99 h dep kids.length (W5 x (dep+1)) (i+1:Nat),h++[.cells (xC (.mk k n d u kids))]):=by
 have l1:lo<=h.length+1:=om;have hlt:i<kids.length:=(Ab.1 hg).1
 have hgr:(ZG kids)[i]? =some (xC x):=by rw[kS,hg];rfl
 have q1:decide ((i:Int)<(kids.length:Int))=true:=by rw[decide_eq_true_iff];omega
 have t1:Int.toNat (i:Int)=i:=om;have hwr:=Jd (i:=i) om;have hwd:AQ.wrap (dep+1)=dep+1:=KY om om;obtain⟨ek,en,ed,eu,el⟩:=x;simp only[JP]at hx hgr⊢;simp only[N99,go_sem,G2,Zf,Tryz.f120,hlo,l1,hgr,q1,t1,hwr,hwd,hx]<;>rfl
theorem JkT{i:Nat}(hlo:lo<=h.length)(hg:i=kids.length)(ok:Bool):
  evCode ⟨Aa,E,lo,h.length,JMG⟩ JA G2 (N99 h dep kids.length ok i,h++[.cells (xC (.mk k n d u kids))])=some (.exit 1,N99 h dep kids.length ok i++[(65,.v (.bool false))],h++[.cells (xC (.mk k n d u kids))]):=by
 have l1:lo<=h.length+1:=om;have q1:decide ((i:Int)<(kids.length:Int))=false:=by rw[decide_eq_false_iff_not];omega
 simp only[N99,JP,go_sem,G2,Zf,Tryz.f120,hlo,l1,q1]<;>rfl
theorem JkU{i:Nat}(hlo:lo<=h.length)(hg:i<kids.length):
  evCode ⟨Aa,E,lo,h.length,JMG⟩ JA G2 (N99 h dep kids.length false i,h++[.cells (xC (.mk k n d u kids))])=some (.exit 1,N99 h dep kids.length false i++[(65,.v (.bool false))],h++[.cells (xC (.mk k n d u kids))]):=by
 have l1:lo<=h.length+1:=om;have q1:decide ((i:Int)<(kids.length:Int))=true:=by rw[decide_eq_true_iff];omega
 simp only[N99,JP,go_sem,G2,Zf,Tryz.f120,hlo,l1,q1]<;>rfl
theorem JAR{i:Nat}{x:X}{dep:Int}(hg:kids[i]? =some x):Z0 (kids.drop i) dep=(W5 x dep&&Z0 (kids.drop (i+1)) dep):=by
 obtain⟨hlt,rfl⟩:=Ab.1 hg
 rw[Ap hlt,Z0]
def P99(x:X):Prop:=∀(dep:Int) (lo:Nat) (h:JM),0<=dep->dep<=341->lo<=h.length->E lo 120 [.agg (xC x),.v (.int .i64 dep)] h=some (.v (.bool (W5 x dep)),h)
theorem JKo(hlo:lo<=h.length)(hl:kids.length<=100000000)(hd:0<=dep/\dep<=340)(hk:∀x∈kids,P99 x):∀(m i:Nat) (ok:Bool),i+m=kids.length->
  ∃j:Int,JA (evCode ⟨Aa,E,lo,h.length,JMG⟩ JA G2) (N99 h dep kids.length ok i,h++[.cells (xC (.mk k n d u kids))])=some (.exit 1,N99 h dep kids.length (ok&&Z0 (kids.drop i) (dep+1)) j++[(65,.v (.bool false))],h++[.cells (xC (.mk k n d u kids))])
 |0,i,ok,hm=>by
  have hi:i=kids.length:=om;refine⟨i,?_⟩
  rw[JJ,JkT hlo hi ok,Jx,hi,AY,Z0,BR]
 |m+1,i,ok,hm=>by
  have hlt:i<kids.length:=om
  cases ok with
  |false=>
   refine⟨i,?_⟩
   rw[JJ,JkU hlo hlt,Jx,An]
  |true=>
   have hg:=Ac hlt
   obtain⟨j,ih⟩:=JKo hlo hl hd hk m (i+1) (W5 kids[i] (dep+1)) om;refine⟨j,?_⟩
   rw[JJ,JkS hlo hl hd hg (λlo h hlo=>hk _ (AN hlt) (dep+1) lo h om om hlo),Jg,ih,JAR hg,Au]
theorem JdJ(hlo:lo<=h.length)(hl:kids.length<=100000000)(hd0:0<=dep)(hd1:dep<=340)(hk:∀x∈kids,P99 x)(h1:(k==1)=false):
  E lo 120 [.agg (xC (.mk k 0 0 0 kids)),.v (.int .i64 dep)] h=some (.v (.bool (ZD k kids.length&&Z0 kids (dep+1))),h):=by
 have l1:lo<=h.length+1:=om;have d1:decide (340<dep)=false:=by rw[decide_eq_false_iff_not];omega
 have e:=Zh 0 0 0 0;obtain⟨j,hL⟩:=JKo (k:=k) (n:=0) (d:=0) (u:=0) (dep:=dep) (h:=h) hlo hl ⟨hd0,hd1⟩ hk kids.length 0 (ZD k kids.length) om;rw[AJ]at hL;simp only[show((0:Nat):Int)=0 from rfl]at hL
 rw[JO3];unfold ZD at hL⊢;have z0:((0:Int)==0&&(0:Int)==0)=true:=rfl;have z1:((0:Int) !=0)=false:=rfl;rw[z0]at e;simp only[G2,Zf,Tryz.f120,JK,loops,JB,N99,JP,go_sem]at hL;simp only[JP]
 cases q2:k==2 with
 |true=>
  simp only[q2,Bv,if_true]at hL⊢
  simp only[go_sem,Zf,Tryz.f120,hlo,l1,d1,h1,K4,e,z1,q2,Jf,hL]<;>rfl
 |false=>
  cases q4:k==4 with
  |true=>
   simp only[q2,q4,Bv,A2,if_true]at hL⊢
   simp only[go_sem,Zf,Tryz.f120,hlo,l1,d1,h1,K4,e,z1,q2,q4,Jf,hL]<;>rfl
  |false=>
   cases q6:k==6 with
   |true=>
    simp only[q2,q4,q6,Bv,A2,if_true]at hL⊢
    simp only[go_sem,Zf,Tryz.f120,hlo,l1,d1,h1,K4,e,z1,q2,q4,q6,Jf,hL]<;>rfl
   |false=>
    cases q7:k==7 with
    |true=>
     simp only[q2,q4,q6,q7,Bv,A2,if_true]at hL⊢
     simp only[go_sem,Zf,Tryz.f120,hlo,l1,d1,h1,K4,e,z1,q2,q4,q6,q7,Jf,hL]<;>rfl
    |false=>
     cases q3:k==3 with
     |true=>
      simp only[q2,q4,q6,q7,q3,Bv,A2,if_true,Al,if_false]at hL⊢
      simp only[go_sem,Zf,Tryz.f120,hlo,l1,d1,h1,K4,e,z1,q2,q4,q6,q7,q3,Jf,hL]<;>rfl
     |false=>
      cases q5:k==5 with
      |true=>
       simp only[q2,q4,q6,q7,q3,q5,Bv,A2,if_true,Al,if_false]at hL⊢
       simp only[go_sem,Zf,Tryz.f120,hlo,l1,d1,h1,K4,e,z1,q2,q4,q6,q7,q3,q5,Jf,hL]<;>rfl
      |false=>
       cases q8:k==8 with
       |true=>
        simp only[q2,q4,q6,q7,q3,q5,q8,Bv,A2,if_true,Al,if_false]at hL⊢
        simp only[go_sem,Zf,Tryz.f120,hlo,l1,d1,h1,K4,e,z1,q2,q4,q6,q7,q3,q5,q8,Jf,hL]<;>rfl
       |false=>simp only[q2,q4,q6,q7,q3,q5,q8,Bv,A2,if_true,Al,if_false]at hL⊢;simp only[go_sem,Zf,Tryz.f120,hlo,l1,d1,h1,K4,e,z1,q2,q4,q6,q7,q3,q5,q8,Jf,hL]<;>rfl
theorem JdK(hl:kids.length<=100000000)(hn:(-9223372036854775808<=n/\n<=9223372036854775807)/\d<=9223372036854775807)(hk:∀x∈kids,P99 x):P99 (.mk k n d u kids):=by
 intro dep lo h hd0 hd1 hlo;have l1:lo<=h.length+1:=om;rw[JDb];by_cases hd:dep>340
 ·have d1:decide (340<dep)=true:=by rw[decide_eq_true_iff];omega
  rw[if_pos hd,JO3,JP];simp only[go_sem,Zf,Tryz.f120,hlo,l1,d1]<;>rfl
 have d1:decide (340<dep)=false:=by rw[decide_eq_false_iff_not];omega
 rw[if_neg hd]
 cases h1:k==1 with
 |true=>
  rw[if_pos rfl];have hz:(((kids.length:Nat):Int)==0)=(kids.length==0):=by rw[Bool.eq_iff_iff,beq_iff_eq,beq_iff_eq];omega
  have c136:=λlo h hlo=>f136 (lo:=lo) (h:=h) hn.1.1 hn.1.2 hn.2 hlo
  rw[JO3,JP]
  cases q1:kids.length==0 with
  |false=>
   rw[q1]at hz
   simp only[go_sem,Zf,Tryz.f120,hlo,l1,d1,h1,Jf,hz,An]<;>rfl
  |true=>
   rw[q1]at hz
   cases q2:Spell.kK n d with
   |false=>
    rw[q2]at c136
    simp only[go_sem,Zf,Tryz.f120,hlo,l1,d1,h1,Jf,hz,c136,An,Au]<;>rfl
   |true=>
    rw[q2]at c136
    cases q3:decide (u>=0)with
    |false=>
     have q3':decide (0<=u)=false:=q3
     simp only[go_sem,Zf,Tryz.f120,hlo,l1,d1,h1,Jf,hz,c136,q3',An,Au]<;>rfl
    |true=>
     have q3':decide (0<=u)=true:=q3
     simp only[go_sem,Zf,Tryz.f120,hlo,l1,d1,h1,Jf,hz,c136,q3',An,Au]<;>rfl
 |false=>
  rw[if_neg (by simp)]
  have e:=Zh n d 0 0
  cases q1:(n==0&&d==0)with
  |false=>
   rw[q1]at e;rw[if_pos (by simp),JO3,JP]
   simp only[go_sem,Zf,Tryz.f120,hlo,l1,d1,h1,Jf,K4,e,AO]<;>rfl
  |true=>
   cases q2:u !=0 with
   |true=>
    rw[q1]at e;rw[if_pos (by simp),JO3,JP]
    simp only[go_sem,Zf,Tryz.f120,hlo,l1,d1,h1,Jf,K4,e,q2,AB]<;>rfl
   |false=>
    rw[if_neg (by simp)]
    simp only[Af,beq_iff_eq]at q1;obtain⟨rfl,rfl⟩:=q1;obtain rfl:u=0:=by simpa using q2
    exact JdJ hlo hl hd0 om hk h1
end
mutual
theorem JSe:∀(x:X),Ws x->P99 x
 | .mk k n d u kids,h=>by rw[Ws]at h;exact JdK h.2.1 h.1 (JSf kids h.2.2)
theorem JSf:∀(l:List X),Qc l->∀x∈l,P99 x
 |[],_=>λx hx=>nomatch hx
 |y::r,h=>by rw[Qc]at h;exact Ct.2 ⟨JSe y h.1,JSf r h.2⟩
end
theorem f93{x:X}(hlo:lo<=h.length)(hx:Ws x):E lo 93 [.agg (xC x)] h=some (.v (.bool (W5 x 1)),h):=by
 have c120:=λlo h hlo=>JSe x hx 1 lo h om om hlo
 have l1:lo<=h.length+1:=om;generalize W5 x 1=b at c120⊢;obtain⟨k,n,d,u,kids⟩:=x;simp only[JP]at c120⊢;rw[e93];simp only[go_sem,b93,Tryz.f93,hlo,l1,c120]<;>rfl
theorem kT(k n d u:Int)(kids:List X):K2 (.mk k n d u kids)=(if(k==1)=true then(if(u==0)=true then 1 else 2)
  else match GY kids 0 with
   |none=>0
   |some c=>if(c==0)=true then 1 else if((k==4&&c==1)||(k !=4&&(k !=5&&c==(kids.length:Int))))=true then 2 else 0):=by rw[K2];all_goals rfl
def P74(x:X):Prop:=∀(lo:Nat) (h:JM),lo<=h.length->E lo 94 [.agg (xC x)] h=some (.v (.int .i64 (K2 x)),h)
abbrev N74(h:JM)(kids:List X)(c i:Int):Jr:=[(1,.ptr h.length 0),(3,.v (.int .i64 c)),(13,.list .no (ZG kids)),(14,.v (.int .i64 kids.length)),(15,.v (.int .i64 i))]
section
variable{k n d u:Int}{kids:List X}
theorem r94{x:X}{i:Nat}{c:Int}(hlo:lo<=h.length)(hl:kids.length<=100000000)(hc:0<=c/\c<=1000000000)(hg:kids[i]? =some x)(hx:P74 x):
  evCode ⟨Aa,E,lo,h.length,h94⟩ JA H7 (N74 h kids c i,h++[.cells (xC (.mk k n d u kids))])=
   if(K2 x==0)=true then some (.ret,[(2,.v (.int .i64 0))],h++[.cells (xC (.mk k n d u kids)),.cells (xC x)])
   else some (.normal,N74 h kids (if(K2 x==2)=true then c+1 else c) (i+1:Nat),h++[.cells (xC (.mk k n d u kids))]):=by
 have l1:lo<=h.length+1:=om;have l2:lo<=h.length+1+1:=om;have hlt:i<kids.length:=(Ab.1 hg).1
 have hgr:(ZG kids)[i]? =some (xC x):=by rw[kS,hg];rfl
 have q1:decide ((i:Int)<(kids.length:Int))=true:=by rw[decide_eq_true_iff];omega
 have t1:Int.toNat (i:Int)=i:=om;have hwr:=Jd (i:=i) om;have hwc:AQ.wrap (c+1)=c+1:=KY om om;unfold P74 at hx;generalize K2 x=K at hx⊢;obtain⟨ek,en,ed,eu,el⟩:=x;simp only[JP]at hx hgr⊢
 cases k0:K==0 with
 |true=>
  rw[if_pos rfl]
  simp only[N74,go_sem,H7,b94,Tryz.f94,hlo,l1,l2,hgr,q1,t1,hwr,hx,k0]<;>rfl
 |false=>
  rw[if_neg (by simp)]
  cases k2:K==2 with
  |true=>
   rw[if_pos rfl]
   simp only[N74,go_sem,H7,b94,Tryz.f94,hlo,l1,l2,hgr,q1,t1,hwr,hwc,hx,k0,k2]<;>rfl
  |false=>
   rw[if_neg (by simp)]
   simp only[N74,go_sem,H7,b94,Tryz.f94,hlo,l1,l2,hgr,q1,t1,hwr,hx,k0,k2]<;>rfl
theorem s74{c:Int}(hlo:lo<=h.length):
  evCode ⟨Aa,E,lo,h.length,h94⟩ JA H7 (N74 h kids c (kids.length:Nat),h++[.cells (xC (.mk k n d u kids))])=some (.exit 0,N74 h kids c (kids.length:Nat)++[(16,.v (.bool false))],h++[.cells (xC (.mk k n d u kids))]):=by
 have l1:lo<=h.length+1:=om;have q1:decide ((kids.length:Int)<(kids.length:Int))=false:=by rw[decide_eq_false_iff_not];omega
 simp only[N74,JP,go_sem,H7,b94,Tryz.f94,hlo,l1,q1]<;>rfl
theorem JMp{i:Nat}{x:X}{c:Int}(hg:kids[i]? =some x):GY (kids.drop i) c=if(K2 x==0)=true then none else GY (kids.drop (i+1)) (if(K2 x==2)=true then c+1 else c):=by
 obtain⟨hlt,rfl⟩:=Ab.1 hg
 rw[Ap hlt,GY]
theorem JPS(hlo:lo<=h.length)(hl:kids.length<=100000000)(hk:∀x∈kids,P74 x):∀(m i:Nat) (c:Int),i+m=kids.length->0<=c->c+m<=1000000000->
  match GY (kids.drop i) c with
  |none=>∃x,JA (evCode ⟨Aa,E,lo,h.length,h94⟩ JA H7) (N74 h kids c i,h++[.cells (xC (.mk k n d u kids))])=some (.ret,[(2,.v (.int .i64 0))],h++[.cells (xC (.mk k n d u kids)),.cells (xC x)])
  |some c'=>JA (evCode ⟨Aa,E,lo,h.length,h94⟩ JA H7) (N74 h kids c i,h++[.cells (xC (.mk k n d u kids))])=some (.exit 0,N74 h kids c' (kids.length:Nat)++[(16,.v (.bool false))],h++[.cells (xC (.mk k n d u kids))])
 |0,i,c,hm,h0,h1=>by
  obtain rfl:i=kids.length:=om;rw[AY,GY];show JA _ _=_
  rw[JJ,s74 hlo,Jx]
 |m+1,i,c,hm,h0,h1=>by
  have hlt:i<kids.length:=om;have hg:=Ac hlt
  rw[JMp hg];by_cases q0:(K2 kids[i]==0)=true
  ·rw[if_pos q0]
   exact⟨kids[i],by rw[JJ,r94 hlo hl ⟨h0,om⟩ hg (hk _ (AN hlt)),if_pos q0,Ki]⟩
  ·rw[if_neg q0,JJ,r94 hlo hl ⟨h0,om⟩ hg (hk _ (AN hlt)),if_neg q0,Jg]
   exact JPS hlo hl hk m (i+1) _ om (by split<;>omega) (by split<;>omega)
theorem JkV(hl:kids.length<=100000000)(hk:∀x∈kids,P74 x):P74 (.mk k n d u kids):=by
 intro lo h hlo;have l1:lo<=h.length+1:=om;rw[kT,e94]
 cases h1:k==1 with
 |true=>
  rw[if_pos rfl]
  cases h2:u==0 with
  |true=>
   rw[if_pos rfl,JP]
   simp only[go_sem,b94,Tryz.f94,hlo,l1,h1,h2]<;>rfl
  |false=>
   rw[if_neg (by simp),JP]
   simp only[go_sem,b94,Tryz.f94,hlo,l1,h1,h2]<;>rfl
 |false=>
  rw[if_neg (by simp)]
  have hL:=JPS (k:=k) (n:=n) (d:=d) (u:=u) (lo:=lo) (h:=h) hlo hl hk kids.length 0 0 om om om;rw[AJ]at hL;simp only[show((0:Nat):Int)=0 from rfl]at hL
  cases hx:GY kids 0 with
  |none=>
   rw[hx]at hL;obtain⟨⟨ek,en,ed,eu,el⟩,hL⟩:=hL;simp only[H7,b94,Tryz.f94,JK,loops,JB,N74,JP,go_sem]at hL
   simp only[JP,go_sem,b94,Tryz.f94,hlo,l1,h1,Jf,hL]<;>rfl
  |some c=>
   rw[hx]at hL;simp only;simp only[H7,b94,Tryz.f94,JK,loops,JB,N74,JP,go_sem]at hL
   cases q0:c==0 with
   |true=>
    rw[if_pos rfl]
    simp only[JP,go_sem,b94,Tryz.f94,hlo,l1,h1,Jf,hL,q0]<;>rfl
   |false=>
    rw[if_neg (by simp)]
    have n4:(k !=4)= !(k==4):=rfl;have n5:(k !=5)= !(k==5):=rfl;rw[n4,n5]
    cases q4:k==4 with
    |true=>
     rw[q4]at n4
     cases q1:c==1 with
     |true=>
      rw[if_pos (by simp)]
      simp only[JP,go_sem,b94,Tryz.f94,hlo,l1,h1,Jf,hL,q0,q4,q1]<;>rfl
     |false=>
      rw[if_neg (by simp)]
      simp only[JP,go_sem,b94,Tryz.f94,hlo,l1,h1,Jf,hL,q0,q4,q1,n4,AB]<;>rfl
    |false=>
     rw[q4]at n4
     cases q5:k==5 with
     |true=>
      rw[q5]at n5;rw[if_neg (by simp)]
      simp only[JP,go_sem,b94,Tryz.f94,hlo,l1,h1,Jf,hL,q0,q4,n4,n5,AB,AO]<;>rfl
     |false=>
      rw[q5]at n5
      cases q6:c==(kids.length:Int)with
      |true=>
       rw[if_pos (by simp)]
       simp only[JP,go_sem,b94,Tryz.f94,hlo,l1,h1,Jf,hL,q0,q4,n4,n5,q6,AB,AO]<;>rfl
      |false=>
       rw[if_neg (by simp)]
       simp only[JP,go_sem,b94,Tryz.f94,hlo,l1,h1,Jf,hL,q0,q4,n4,n5,q6,AB,AO]<;>rfl
end
mutual
theorem JdL:∀(x:X),Ws x->P74 x
 | .mk k n d u kids,h=>by rw[Ws]at h;exact JkV h.2.1 (JdM kids h.2.2)
theorem JdM:∀(l:List X),Qc l->∀x∈l,P74 x
 |[],_=>λx hx=>nomatch hx
 |y::r,h=>by rw[Qc]at h;exact Ct.2 ⟨JdL y h.1,JdM r h.2⟩
end
def G7(x:X):Int×Int:=if W5 x 1=true then(if(K2 x==0)=true then(0,4)else(K2 x,0))else(0,1)
theorem f64{x:X}(hlo:lo<=h.length)(hx:Ws x):E lo 64 [.agg (xC x)] h=some (.tup [.v (.int .i64 (G7 x).1),.v (.int .i64 (G7 x).2)],h):=by
 have l1:lo<=h.length+1:=om;have c93:=λlo h hlo=>f93 (lo:=lo) (h:=h) hlo hx
 have c94:=JdL x hx;unfold P74 at c94;unfold G7;generalize W5 x 1=b at c93⊢;generalize K2 x=K at c94⊢;obtain⟨k,n,d,u,kids⟩:=x;simp only[JP]at c93 c94⊢;rw[e64]
 cases b with
 |false=>
  rw[if_neg (by simp)]
  simp only[go_sem,b64,Tryz.f64,hlo,l1,c93,c94]<;>rfl
 |true=>
  rw[if_pos rfl]
  cases q:K==0 with
  |true=>
   rw[if_pos rfl]
   simp only[go_sem,b64,Tryz.f64,hlo,l1,c93,c94,q]<;>rfl
  |false=>
   rw[if_neg (by simp)]
   simp only[go_sem,b64,Tryz.f64,hlo,l1,c93,c94,q]<;>rfl
end Go.Lift.Y1
end

section
open Go.Proofs
namespace Go.Lift.Y1
open Rul
open Utf (By)
theorem Qd:Ws Jq:=by unfold Jq;rw[Ws,Qc];exact⟨om,by simp,trivial⟩
theorem JKp{n d u:Int}(h:(-9223372036854775808<=n/\n<=9223372036854775807)/\d<=9223372036854775807):Ws (yW n d u):=by
 unfold yW
 split
 ·rw[Ws,Qc];exact⟨h,by simp,trivial⟩
 ·rw[Ws,Qc];exact⟨om,by simp,trivial⟩
theorem JRl{k:Int}{e:X}(h:Ws e):Ws (.mk k 0 0 0 [e]):=by rw[Ws,Qc,Qc];exact⟨om,by simp,h,trivial⟩
theorem JJi{k:Int}{ks:List X}(h:Qc ks)(hl:ks.length<=100000000):Ws (J8 (.mk k 0 0 0 ks)):=by
 match ks,h,hl with
 |[],h,hl=>show Ws (.mk k 0 0 0 []);rw[Ws];exact⟨by omega,hl,h⟩
 |[e],h,hl=>show Ws e;rw[Qc]at h;exact h.1
 |e::f::r,h,hl=>show Ws (.mk k 0 0 0 (e::f::r));rw[Ws];exact⟨by omega,hl,h⟩
theorem JCf{step:Nat->X×Bool×Nat}{sg:Nat->Option Bool×Nat}{inv:Int}(hs:∀a,Ws (step a).1):∀(f a:Nat) (ks:List X),Qc ks->
  match KJ step sg inv f a ks with
  | .inl (e,_)=>Ws e
  | .inr (ks',_)=>Qc ks'
 |0,a,ks,h=>by unfold KJ;exact h
 |f+1,a,ks,h=>by
  unfold KJ;generalize sg a=r;obtain⟨o,a1⟩:=r
  cases o with
  |none=>exact h
  |some b=>
   have h2:=hs a1;simp only;generalize step a1=t at h2⊢;obtain⟨e,ok,a2⟩:=t
   cases ok with
   |false=>exact h2
   |true=>
    refine JCf hs f a2 _ (JHA h ?_)
    rw[Qc,Qc];refine⟨?_,trivial⟩
    cases b with
    |true=>exact JRl h2
    |false=>exact h2
theorem JCg{step:Nat->X×Bool×Nat}{sg:Nat->Option Bool×Nat}{kind inv:Int}{f a:Nat}(hs:∀a,Ws (step a).1)(hf:f<=10000000):Ws (Qa step sg kind inv f a).1:=by
 have h1:=hs a;unfold Qa;generalize step a=t at h1⊢;obtain⟨e,ok,a1⟩:=t
 cases ok with
 |false=>exact h1
 |true=>
  simp only;have h2:=JCf (sg:=sg) (inv:=inv) hs f a1 [e] (by rw[Qc,Qc];exact⟨h1,trivial⟩)
  have h3:=Hm (step:=step) (sg:=sg) (inv:=inv) f a1 [e];generalize KJ step sg inv f a1 [e]=r at h2 h3⊢
  match r,h2,h3 with
  | .inl (e',_),h2,_=>exact h2
  | .inr (ks',a'),h2,h3=>exact JJi h2 (by have:=h3 ks' a' rfl;simp at this;omega)
theorem JAS{w:List CV->X×Bool}:∀{ps:List (List CV)} {xs:List X},(∀p∈ps,Ws (w p).1)->K5 w ps=some xs->Qc xs
 |[],xs,_,h=>by cases h;rw[Qc];trivial
 |p::r,xs,hw,h=>by
  have h1:=hw p (List.mem_cons_self ..);unfold K5 at h
  split at h
  ·cases h
  ·rename_i e he
   obtain⟨ys,hy,rfl⟩:=Option.map_eq_some_iff.1 h;rw[he]at h1;rw[Qc];exact⟨h1,JAS (λp hp=>hw p (List.mem_cons_of_mem _ hp)) hy⟩
theorem JAT{w:List CV->X×Bool}{K:Int}{kids:List CV}(hl:JL kids<=10000000)(hw:∀p∈J1 kids,Ws (w p).1):Ws (Wo K w kids).1:=by
 have hln:=JT kids;have hsl:=ZB [] kids;unfold Wo
 cases hx:K5 w (J1 kids)with
 |none=>exact Qd
 |some xs=>
  have:=GO hx;unfold J1 at this;show Ws (.mk K 0 0 0 xs)
  rw[Ws];exact⟨om,om,JAS hw hx⟩
theorem JHB{w:List CV->X×Bool}{v:CV}(hv:Wp v)(hl:Km v<=10000000)(h1:Ws (w v.ks).1)(h2:∀p∈J1 v.ks,Ws (w p).1):Ws (KA w v).1:=by
 obtain⟨t,kids⟩:=v;have hk:=WD (.mk t kids);have ht:=jZ hv;have hkl:JL kids<=10000000:=by have:(CV.mk t kids).ks=kids:=rfl;rw[this]at hk;omega
 unfold KA;simp only
 split
 ·exact JKp ⟨ht.2.2.1,ht.2.2.2.2⟩
 ·split
  ·exact JKp ⟨ht.2.2.1,ht.2.2.2.2⟩
  ·split
   ·split
    ·exact h1
    ·split
     ·exact JAT hkl h2
     ·split
      ·exact JAT hkl h2
      ·split
       ·exact JAT hkl h2
       ·exact Qd
   ·exact Qd
theorem Ho:∀(n:Nat) (l:List CV),JL l<=2000000->Kq l->Ws (KZ n l).1
 |0,l,_,_=>Qd
 |n+1,l,hl,ho=>by
  have hll:=JT (Je l);have htl:=KX l
  have hop:∀a,Ws (J2 (kz (KZ n)) (Je l) a).1:=λa=>by
   unfold J2
   cases hg:(Je l)[a]? with
   |none=>exact Qd
   |some v=>
    have hm:=J9 (Ah hg);have hv:=KU ho v hm;have hn:=KH hm;have hk:=WD v;have a1:=Ho n v.ks om (ZV hv);show Ws (kz (KZ n) v).1
    unfold kz
    split
    ·exact a1
    ·exact JHB hv om a1 λp hp=>Ho n p (by have:=Kp hp;omega) (Zz (ZV hv) hp)
  exact JCg (λa=>JCg hop om) om
theorem qh{n:Nat}{l:List CV}(hl:JL l<=2000000)(ho:Kq l):Ws (Jk n l).1:=by
 unfold Jk
 split
 ·have hm:∀v∈Je l,Wp v/\Km v<=JL l:=λv hv=>⟨KU ho v (J9 hv),KH (J9 hv)⟩
  generalize Je l=L at hm⊢
  match L,hm with
  |[],_=>exact Qd
  |[v],hm=>
   have hv:=hm v (AL.2 rfl);have hk:=WD v;have h1:=JHB (w:=KZ n) hv.1 om (Ho n v.ks om (ZV hv.1)) λp hp=>Ho n p (by have:=Kp hp;omega) (Zz (ZV hv.1) hp)
   simp only;unfold JG2;generalize KA (KZ n) v=r at h1⊢;obtain⟨e,b⟩:=r
   cases b with
   |true=>exact h1
   |false=>exact Qd
  |v::u::r,_=>exact Qd
 ·exact Qd
end Go.Lift.Y1
end

section
open Go.Proofs
namespace Go.Lift.Y1
open Rul
open Utf (By)
variable{lo:Nat}{h:JM}
def ZL(kind:Int)(x:X)(word:ByteArray)(toks:List (List V)):List V:=[.v (.int .i64 kind)]++xC x++[.v (.string word),.list .no toks]
theorem QP(kind k n d u:Int)(kids:List X)(word:ByteArray)(toks:List (List V)):ZL kind (.mk k n d u kids) word toks=[.v (.int .i64 kind),.v (.int .i64 k),.v (.int .i64 n),.v (.int .i64 d),.v (.int .i64 u),.list .no (ZG kids),.v (.string word),.list .no toks]:=by unfold ZL;rw[JP];rfl
def Z1(l:List CV):Bool:=match l with
 |[.mk t _]=>t.k==10&&(t.n==0&&t.d==1)
 |_=>false
def JHC:X->Int
 | .mk _ n _ _ _=>n
def Wa(k:Int)(low:Bool)(n:Nat)(l:List CV):Option X:=
 if(k==3)=true then none
 else if(k==1&&Z1 l)=true then some (.mk 1 0 1 1 [])
 else if((Jk n l).2 !=0)=true then none
 else if((G7 (Jk n l).1).1 !=(if(k==1)=true then 2 else 1))=true then none
 else if(!low&&((Jk n l).1.k==1&&decide (JHC (Jk n l).1<0)))=true then none
 else some (Jk n l).1
def Gb:Option X->List V×Int
 |none=>(ZL 0 Jq ⟨#[]⟩ [],3)
 |some x=>(ZL 1 x ⟨#[]⟩ [],0)
section
variable{nm:ByteArray}{k:Int}{dn low:Bool}{ws:List ByteArray}{ck a b:Int}{w:ByteArray}{l:List CV}{n:Nat}
theorem JkW(hlo:lo<=h.length)(hk:(k==3)=true):E lo 30 [.agg (JG nm k dn low ws ck a b w),.list .no (JH l)] h=some (.tup [.agg (Gb none).1,.v (.int .i64 (Gb none).2)],h):=by have l1:lo<=h.length+1:=om;unfold Gb Jq;simp only[QP,JW];rw[e30];simp only[JG,go_sem,b30,Tryz.f30,hlo,l1,hk]<;>rfl
theorem JkX(hlo:lo<=h.length)(hk:(k==3)=false)(k1:(k==1)=true)(hz:Z1 l=true):E lo 30 [.agg (JG nm k dn low ws ck a b w),.list .no (JH l)] h=some (.tup [.agg (Gb (some (.mk 1 0 1 1 []))).1,.v (.int .i64 (Gb (some (.mk 1 0 1 1 []))).2)],h):=by
 have l1:lo<=h.length+1:=om;have l2:lo<=h.length+1+1:=om
 match l,hz with
 |[.mk t kids],hz=>unfold Z1 at hz;simp only[Af]at hz;obtain⟨z1,z2,z3⟩:=hz;have e:=Zh t.n t.d 0 1;rw[z2,z3]at e;have q1':((1:Int)==1)=true:=rfl;have q1:(((0+1:Nat):Int)==1)=true:=rfl;unfold Gb;simp only[QP,JW];rw[e30,JY,JZ,JN];simp only[JG,go_sem,b30,Tryz.f30,hlo,l1,l2,hk,k1,q1,q1',z1,K4,e,Ai,Ak,BR]<;>rfl
noncomputable abbrev X38(lo:Nat)(h:JM):Go.Lift.Cx:=⟨Aa,E,lo,h.length,h30⟩
def vZ:List V:=[.v (.int .i64 0),.v (.int .i64 0),.v (.int .i64 0),.v (.int .i64 0),.v (.int .i64 0),.list .yes [],.v (.string AE),.list .yes []]
abbrev N38(h:JM)(l:List CV):Jr:=[(1,.list .no (JH l)),(2,.ptr h.length 0),(4,.ptr (h.length+1) 0),(6,.ptr (h.length+2) 0),(41,.v (.bool false))]
abbrev H38(h:JM)(cs:List V):JM:=h++[.cells cs,.cells vZ,.cells [.v (.int .i64 0),.v (.int .i64 1)]]
theorem JkY(hlo:lo<=h.length)(hk:(k==3)=false)(k1:(k==1)=false):H0 (X38 lo h) JA (pc b30 0 6) (QJ [.agg (JG nm k dn low ws ck a b w),.list .no (JH l)],h)=some (.normal,N38 h l,H38 h (JG nm k dn low ws ck a b w)):=by have l1:lo<=h.length+1:=om;have l2:lo<=h.length+1+1:=om;simp only[X38,N38,H38,vZ,JG,go_sem,b30,Tryz.f30,hlo,l1,l2,hk,k1]<;>rfl
theorem p38(hlo:lo<=h.length)(hk:(k==3)=false)(hz:(k==1&&Z1 l)=false):H0 (X38 lo h) JA (pc b30 0 6) (QJ [.agg (JG nm k dn low ws ck a b w),.list .no (JH l)],h)=some (.normal,N38 h l,H38 h (JG nm k dn low ws ck a b w)):=by
 cases k1:k==1 with
 |false=>exact JkY hlo hk k1
 |true=>
  rw[k1,Au]at hz;have l1:lo<=h.length+1:=om;have l2:lo<=h.length+1+1:=om
  match l,hz with
  |[],_=>
   have q1:(((0:Nat):Int)==1)=false:=rfl;have q1':((0:Int)==1)=false:=rfl;rw[JZ]
   simp only[X38,N38,H38,vZ,JG,JZ,go_sem,b30,Tryz.f30,hlo,l1,l2,hk,k1,q1,q1',Ak]<;>rfl
  |v::u::r,_=>
   have q1:(((r.length+1+1:Nat):Int)==1)=false:=by rw[beq_eq_false_iff_ne];omega
   rw[JY,JY]
   simp only[X38,N38,H38,vZ,JG,JY,go_sem,b30,Tryz.f30,hlo,l1,l2,hk,k1,q1,Ai,JC]<;>rfl
  |[.mk t kids],hz=>
   have q1:(((0+1:Nat):Int)==1)=true:=rfl;have q1':((1:Int)==1)=true:=rfl;have hz':(t.k==10&&(t.n==0&&t.d==1))=false:=hz;rw[JY,JZ,JN]
   cases z1:t.k==10 with
   |false=>simp only[X38,N38,H38,vZ,JG,JY,JZ,JN,go_sem,b30,Tryz.f30,hlo,l1,l2,hk,k1,q1,q1',z1,Ai,Ak]<;>rfl
   |true=>rw[z1,Au]at hz';have e:=Zh t.n t.d 0 1;rw[hz']at e;simp only[X38,N38,H38,vZ,JG,JY,JZ,JN,go_sem,b30,Tryz.f30,hlo,l1,l2,hk,k1,q1,q1',z1,K4,e,Ai,Ak]<;>rfl
def JDf(kind:Int)(x:X):List V:=[.v (.int .i64 kind)]++xC x++[.v (.string AE),.list .yes []]
theorem GQ(kind k n d u:Int)(kids:List X):JDf kind (.mk k n d u kids)=[.v (.int .i64 kind),.v (.int .i64 k),.v (.int .i64 n),.v (.int .i64 d),.v (.int .i64 u),.list .no (ZG kids),.v (.string AE),.list .yes []]:=by unfold JDf;rw[JP];rfl
abbrev R38(h:JM)(cs vc:List V)(e:X)(er:Int):Option (Ex×Jr×JM):=some (.ret,[(4,.ptr (h.length+1) 0),(5,.v (.int .i64 er))],h++[.cells cs,.cells vc,.cells [.v (.int .i64 0),.v (.int .i64 1)],.cells (xC e)])
theorem JkZ(hlo:lo<=h.length)(hn:JL l<=n)(hl:JL l<=2000000)(ho:Kq l)(hk:(k==3)=false):∃e,H0 (X38 lo h) JA (pc b30 6 20) (N38 h l,H38 h (JG nm k dn low ws ck a b w))=
  (if((Jk n l).2 !=0)=true then R38 h (JG nm k dn low ws ck a b w) vZ e 3
   else if((G7 (Jk n l).1).1 !=(if(k==1)=true then 2 else 1))=true then R38 h (JG nm k dn low ws ck a b w) vZ e 3
   else if(!low&&((Jk n l).1.k==1&&decide (JHC (Jk n l).1<0)))=true then R38 h (JG nm k dn low ws ck a b w) vZ e 3
   else R38 h (JG nm k dn low ws ck a b w) (JDf 1 (Jk n l).1) e 0):=by
 have l1:lo<=h.length+1:=om;have l2:lo<=h.length+1+1:=om;have l3:lo<=h.length+3:=om;have l4:lo<=h.length+4:=om;have c63:=λlo h hlo=>f63 (lo:=lo) (h:=h) (l:=l) (n:=n) hlo hn om ho
 have hx:=qh (n:=n) hl ho;have c64:=λlo h hlo=>f64 (lo:=lo) (h:=h) (x:=(Jk n l).1) hlo hx
 refine⟨(Jk n l).1,?_⟩
 generalize Jk n l=r at c63 c64 hx⊢;obtain⟨x,er⟩:=r;simp only at c63 c64⊢;generalize G7 x=ke at c64⊢;obtain⟨kd,ke2⟩:=ke;obtain⟨ek,en,ed,eu,el⟩:=x;simp only[JP,GQ,JHC,X.k]at c63 c64⊢
 cases qe:er !=0 with
 |true=>
  rw[if_pos rfl]
  simp only[X38,N38,H38,R38,vZ,JP,JG,go_sem,b30,Tryz.f30,hlo,l1,l2,l3,l4,hk,c63,c64,qe]<;>rfl
 |false=>
  rw[if_neg (by simp)]
  cases k1:k==1 with
  |true=>
   rw[if_pos rfl]
   cases qk:kd !=2 with
   |true=>
    rw[if_pos rfl]
    simp only[X38,N38,H38,R38,vZ,JP,JG,go_sem,b30,Tryz.f30,hlo,l1,l2,l3,l4,hk,k1,c63,c64,qe,qk]<;>rfl
   |false=>
    rw[if_neg (by simp)]
    cases low with
    |true=>
     rw[if_neg (by simp)]
     simp only[X38,N38,H38,R38,vZ,JP,JG,go_sem,b30,Tryz.f30,hlo,l1,l2,l3,l4,hk,k1,c63,c64,qe,qk]<;>rfl
    |false=>
     cases q1:ek==1 with
     |false=>
      rw[if_neg (by simp)]
      simp only[X38,N38,H38,R38,vZ,JP,JG,go_sem,b30,Tryz.f30,hlo,l1,l2,l3,l4,hk,k1,c63,c64,qe,qk,q1]<;>rfl
     |true=>
      cases q2:decide (en<0)with
      |true=>
       refine Eq.trans ?_ (if_pos (show _=true from q2)).symm
       simp only[X38,N38,H38,R38,vZ,JP,JG,go_sem,b30,Tryz.f30,hlo,l1,l2,l3,l4,hk,k1,c63,c64,qe,qk,q1,q2]<;>rfl
      |false=>
       refine Eq.trans ?_ (if_neg (λhc=>by have hc':decide (en<0)=true:=hc;rw[q2]at hc';cases hc')).symm
       simp only[X38,N38,H38,R38,vZ,JP,JG,go_sem,b30,Tryz.f30,hlo,l1,l2,l3,l4,hk,k1,c63,c64,qe,qk,q1,q2]<;>rfl
  |false=>
   rw[if_neg (show¬(false=true)by simp)]
   cases qk:kd !=1 with
   |true=>
    rw[if_pos rfl]
    simp only[X38,N38,H38,R38,vZ,JP,JG,go_sem,b30,Tryz.f30,hlo,l1,l2,l3,l4,hk,k1,c63,c64,qe,qk]<;>rfl
   |false=>
    rw[if_neg (by simp)]
    cases low with
    |true=>
     rw[if_neg (by simp)]
     simp only[X38,N38,H38,R38,vZ,JP,JG,go_sem,b30,Tryz.f30,hlo,l1,l2,l3,l4,hk,k1,c63,c64,qe,qk]<;>rfl
    |false=>
     cases q1:ek==1 with
     |false=>
      rw[if_neg (by simp)]
      simp only[X38,N38,H38,R38,vZ,JP,JG,go_sem,b30,Tryz.f30,hlo,l1,l2,l3,l4,hk,k1,c63,c64,qe,qk,q1]<;>rfl
     |true=>
      cases q2:decide (en<0)with
      |true=>
       refine Eq.trans ?_ (if_pos (show _=true from q2)).symm
       simp only[X38,N38,H38,R38,vZ,JP,JG,go_sem,b30,Tryz.f30,hlo,l1,l2,l3,l4,hk,k1,c63,c64,qe,qk,q1,q2]<;>rfl
      |false=>
       refine Eq.trans ?_ (if_neg (λhc=>by have hc':decide (en<0)=true:=hc;rw[q2]at hc';cases hc')).symm
       simp only[X38,N38,H38,R38,vZ,JP,JG,go_sem,b30,Tryz.f30,hlo,l1,l2,l3,l4,hk,k1,c63,c64,qe,qk,q1,q2]<;>rfl
theorem JKq{cs vc:List V}{e:X}{er:Int}{r:List V}(hv:vc=vZ/\r=ZL 0 Jq ⟨#[]⟩ []\/ ∃x,vc=JDf 1 x/\r=ZL 1 x ⟨#[]⟩ []):
  fin Aa [.cell 4 41,.tmp 5] h.length (R38 h cs vc e er)=some (.tup [.agg r,.v (.int .i64 er)],h):=by
 obtain⟨ek,en,ed,eu,el⟩:=e;rcases hv with⟨rfl,rfl⟩|⟨⟨fk,fn,fd,fu,fl⟩,rfl,rfl⟩
 ·unfold Jq
  simp only[R38,QP,JW,vZ,JP,go_sem]<;>rfl
 ·simp only[R38,QP,GQ,JP,go_sem]<;>rfl
theorem f30(hlo:lo<=h.length)(hn:JL l<=n)(hl:JL l<=2000000)(ho:Kq l):E lo 30 [.agg (JG nm k dn low ws ck a b w),.list .no (JH l)] h=some (.tup [.agg (Gb (Wa k low n l)).1,.v (.int .i64 (Gb (Wa k low n l)).2)],h):=by
 cases hk:k==3 with
 |true=>
  have e:Wa k low n l=none:=by unfold Wa;rw[if_pos hk]
  rw[e]
  exact JkW hlo hk
 |false=>
  cases hz:(k==1&&Z1 l)with
  |true=>
   have e:Wa k low n l=some (.mk 1 0 1 1 []):=by unfold Wa;rw[if_neg (by rw[hk];simp),if_pos hz]
   rw[e];rw[Af]at hz
   exact JkX hlo hk hz.1 hz.2
  |false=>
   obtain⟨e,hr⟩:=JkZ (nm:=nm) (dn:=dn) (low:=low) (ws:=ws) (ck:=ck) (a:=a) (b:=b) (w:=w) hlo hn hl ho hk;have hp:=p38 (nm:=nm) (dn:=dn) (low:=low) (ws:=ws) (ck:=ck) (a:=a) (b:=b) (w:=w) (l:=l) hlo hk hz;unfold Wa;rw[if_neg (by rw[hk];simp),if_neg (by rw[hz];simp),e30,JOl,W0 _ _ _ _ 0 6,hp,W0 _ _ _ _ _ 20,hr]
   by_cases c1:((Jk n l).2 !=0)=true
   ·rw[if_pos c1,if_pos c1,R38,Zs];exact JKq (.inl ⟨rfl,rfl⟩)
   ·rw[if_neg c1,if_neg c1]
    by_cases c2:((G7 (Jk n l).1).1 !=(if(k==1)=true then 2 else 1))=true
    ·rw[if_pos c2,if_pos c2,R38,Zs];exact JKq (.inl ⟨rfl,rfl⟩)
    ·rw[if_neg c2,if_neg c2]
     by_cases c3:(!low&&((Jk n l).1.k==1&&decide (JHC (Jk n l).1<0)))=true
     ·rw[if_pos c3,if_pos c3,R38,Zs];exact JKq (.inl ⟨rfl,rfl⟩)
     ·rw[if_neg c3,if_neg c3,R38,Zs];exact JKq (.inr ⟨_,rfl,rfl⟩)
end
end Go.Lift.Y1
end

section
open Go.Proofs
namespace Go.Lift.Y1
open Rul
variable{lo:Nat}{h:JM}
theorem JKr{n:Nat}(h:n<=1000000000):(n+1)*48<=140737488355328:=om
theorem JdN{n:Nat}(h:n<=1000000000):(n+1+1)*32<=140737488355328:=om
theorem JPT{n:Nat}(h:n<=1000000000):n<=9223372036854775806:=om
theorem Jka{n:Nat}(h:n<=1000000000):n+1+1<=9223372036854775807:=om
def Gc:List (List CV×Int)->List V
 |[]=>[]
 |p::r=> .list .no (JH p.1):: .v (.int .i64 p.2)::Gc r
theorem We:∀l,(Gc l).length=l.length*2
 |[]=>rfl
 |p::r=>by simp[Gc,We r];omega
theorem ZW:∀l m,Gc (l++m)=Gc l++Gc m
 |[],m=>rfl
 |p::r,m=>by simp[Gc,ZW r m]
theorem JDg(n:Nat):∀l,(Gc l).all (okv n)=true
 |[]=>rfl
 |p::r=>by simp only[Gc,Bj,JDg n r];rfl
theorem JKs(n:Nat):∀l,(Gc l).all (JK7 n)=true
 |[]=>rfl
 |p::r=>by simp only[Gc,Bj,JKs n r];rfl
theorem JKt(f:List (List CV×Int))(p:List CV×Int)(r:List (List CV×Int)):(Gc (f++p::r))[f.length*2]? =some (.list .no (JH p.1)):=by
 rw[ZW,A8 (by rw[We];omega),We,CY]
 rfl
theorem JKu(f:List (List CV×Int))(p:List CV×Int)(r:List (List CV×Int)):(Gc (f++p::r))[f.length*2+1]? =some (.v (.int .i64 p.2)):=by
 rw[ZW,A8 (by rw[We];omega),We,Nat.add_sub_cancel_left]
 rfl
theorem JRm(f:List (List CV×Int))(p:List CV×Int)(r:List (List CV×Int))(l:List CV):(Gc (f++p::r)).set (f.length*2) (.list .no (JH l))=Gc (f++(l,p.2)::r):=by
 rw[ZW,List.set_append,if_neg (by rw[We];omega),We,CY,ZW]
 rfl
theorem JPU(f r:List (List CV×Int)):(Gc (f++r)).take (f.length*2)=Gc f:=by rw[ZW,<-We,List.take_left]
abbrev JAU(h:JM)(out:List Tk4)(n:Nat)(ex:Jr):Jr:=(3,.list .yes (out.map row))::(4,.stk h.length n 2)::ex
def JKv(ex:Jr):Prop:=ex=[]\/ ∃p c b,ex=[(6,p),(7,c),(73,b)]
theorem kU(out:List Tk4)(c:Int):out.map row++[[V.v (Bb AQ c),V.v (BX AE),V.v (Bb AQ 0),V.v (Bb AQ 0),V.v (Cs false),V.v (Cs false)]]=(out++[Rul.bare c]).map row:=by rw[Dh];rfl
theorem JPV{fs js:List (List CV×Int)}{c:Int}{Y:JM}{out:List Tk4}{ex:Jr}(hlo:lo<=h.length)(hn:fs.length<=1000000000000000000)(ho:out.length<=1000000000)(he:JKv ex):
  evCode ⟨Aa,E,lo,h.length,h28⟩ JA Wm (JAU h out (fs.length+1) ex,h++ .cells (Gc (fs++([],c)::js))::Y)=
   some (.normal,JAU h (out++(if 0<c then[Rul.bare c]else[])) fs.length [],h++[.cells (Gc (fs++([],c)::js))]):=by
 have hgr:=JKt fs ([],c) js;have hgc:=JKu fs ([],c) js;have hok:=JDg (h.length+1) (fs++([],c)::js);have hlt:h.length<h.length+1:=om;have hle:fs.length<=fs.length+1:=om;generalize Gc (fs++([],c)::js)=C at*;rw[JZ]at hgr;have q:decide ((0:Int)<((fs.length+1:Nat):Int))=true:=by rw[decide_eq_true_iff];omega
 have w1:AQ.wrap (((fs.length+1:Nat):Int)-1)=(fs.length:Int):=by rw[KY om om];omega
 have a1:(0:Int)<=(fs.length:Int)/\(fs.length:Int)<((fs.length+1:Nat):Int):=om;have ra:=GH out;have o1:(out.length+1)*48<=140737488355328:=JKr ho;have o2:out.length<=9223372036854775806:=JPT ho;have q3:(((0:Nat):Int)==0)=true:=rfl;by_cases hc:0<c
 ·have qc:decide (0<c)=true:=by simpa using hc
  rw[if_pos hc];rcases he with rfl|⟨x,y,b,rfl⟩
  ·simp only[go_sem,Wm,b28,Tryz.f28,hlo,hlt,hle,q,q3,w1,a1,hgr,hgc,hok,ra,o1,o2,qc,kU,Ao]<;>rfl
  ·simp only[go_sem,Wm,b28,Tryz.f28,hlo,hlt,hle,q,q3,w1,a1,hgr,hgc,hok,ra,o1,o2,qc,kU,Ao]<;>rfl
 ·have qc:decide (0<c)=false:=by simpa using hc
  rw[if_neg hc,AH];rcases he with rfl|⟨x,y,b,rfl⟩
  ·simp only[go_sem,Wm,b28,Tryz.f28,hlo,hlt,hle,q,q3,w1,a1,hgr,hgc,hok,qc,Ao]<;>rfl
  ·simp only[go_sem,Wm,b28,Tryz.f28,hlo,hlt,hle,q,q3,w1,a1,hgr,hgc,hok,qc,Ao]<;>rfl
theorem ZX(out:List Tk4)(t:Tk4):out.map row++[[V.v (Bb AQ t.k),V.v (BX (Rul.bs t.b)),V.v (Bb AQ t.n),V.v (Bb AQ t.d),V.v (Cs t.w),V.v (Cs t.i)]]=(out++[t]).map row:=by rw[Dh];rfl
theorem JdO{fs js:List (List CV×Int)}{l ks:List CV}{t:Tk4}{c:Int}{Y:JM}{out:List Tk4}{ex:Jr}(hlo:lo<=h.length)(hn:fs.length<=1000000000)(ho:out.length<=1000000000)(he:JKv ex):
  ∃ex' Y',JKv ex'/\evCode ⟨Aa,E,lo,h.length,h28⟩ JA Wm (JAU h out (fs.length+1) ex,h++ .cells (Gc (fs++(.mk t ks::l,c)::js))::Y)=
   if(decide (Jj t.k=0)&&ks.isEmpty)=true then some (.normal,JAU h (out++[t]) (fs.length+1) ex',h++ .cells (Gc (fs++(l,c)::js))::Y')
   else some (.normal,JAU h (out++[t]) (fs.length+1+1) ex',h++ .cells (Gc (fs++[(l,c),(ks,Jj t.k)]))::Y'):=by
 have hgr:=JKt fs (.mk t ks::l,c) js;have hgc:=JKu fs (.mk t ks::l,c) js;have hok:=JDg (h.length+1) (fs++(.mk t ks::l,c)::js);have hst:=JRm fs (.mk t ks::l,c) js l
 have htk:(Gc (fs++(l,c)::js)).take ((fs.length+1)*2)=Gc (fs++[(l,c)]):=by
  have e:fs++(l,c)::js=(fs++[(l,c)])++js:=by simp
  rw[e,<-JPU (fs++[(l,c)]) js,Ax];rfl
 have hC:fs.length*2+1<=(Gc (fs++(.mk t ks::l,c)::js)).length:=by rw[We];simp;omega
 have hsk:=JKs h.length (fs++[(l,c)]);have hln:(fs.length+1)*2<=(Gc (fs++(l,c)::js)).length:=by rw[We];simp;omega
 have hpp:Gc (fs++[(l,c)])++[.list .no (JH ks),.v (.int .i64 (Jj t.k))]=Gc (fs++[(l,c),(ks,Jj t.k)]):=by rw[ZW,ZW,AM];rfl
 have hlt:h.length<h.length+1:=om;have hle:fs.length<=fs.length+1:=om;generalize Gc (fs++(.mk t ks::l,c)::js)=C at*;generalize Gc (fs++(l,c)::js)=D at*;generalize Gc (fs++[(l,c)])=F at*;simp only[JY,JN,JZ]at hgr;have q:decide ((0:Int)<((fs.length+1:Nat):Int))=true:=by rw[decide_eq_true_iff];omega
 have w1:AQ.wrap (((fs.length+1:Nat):Int)-1)=(fs.length:Int):=by rw[KY om om];omega
 have a1:(0:Int)<=(fs.length:Int)/\(fs.length:Int)<((fs.length+1:Nat):Int):=om;have ra:=GH out;have q3:(((l.length+1:Nat):Int)==0)=false:=by rw[beq_eq_false_iff_ne];omega
 have c46:=λlo hlo=>f61 (lo:=lo) (h:=h++[.cells D,.cells (Jp (.mk t ks))]) hlo t.k
 rw[JN]at c46;have c46a:=c46 lo (by simp;omega);have c46b:=c46 h.length (by simp);have c46c:=c46 (h.length+1) (by simp);have c46d:=c46 (h.length+2) (by simp)
 clear c46;have hcl:=qQ t.k;have hlo1:lo<=h.length+1:=om;have rl:=Jn l;have tl:(JH l).take l.length=JH l:=by rw[<-JC l,List.take_length]
 have hne:0<Jj t.k->¬(decide (Jj t.k=0)&&ks.isEmpty)=true:=λhc=>by rw[show decide (Jj t.k=0)=false by rw[decide_eq_false_iff_not];omega,An];simp
 have o1:(out.length+1)*48<=140737488355328:=JKr ho;have o2:out.length<=9223372036854775806:=JPT ho;have o3:(fs.length+1+1)*32<=140737488355328:=JdN hn;have o4:fs.length+1+1<=9223372036854775807:=Jka hn;by_cases hc:0<Jj t.k
 ·have qc:decide (0<Jj t.k)=true:=by simpa using hc
  refine⟨[],[.cells (Jp (.mk t ks))],.inl rfl,?_⟩
  rw[if_neg (hne hc),JN];rcases he with rfl|⟨x,y,b,rfl⟩
  ·simp only[go_sem,Wm,b28,Tryz.f28,hlo,hlo1,rl,tl,Ag,hC,hlt,hle,q,q3,w1,a1,hgr,hgc,hok,ra,o1,o2,o3,o4,hst,htk,hsk,hln,hpp,qc,c46a,c46b,c46c,c46d,ZX,Ao,JC,Ai]<;>rfl
  ·simp only[go_sem,Wm,b28,Tryz.f28,hlo,hlo1,rl,tl,Ag,hC,hlt,hle,q,q3,w1,a1,hgr,hgc,hok,ra,o1,o2,o3,o4,hst,htk,hsk,hln,hpp,qc,c46a,c46b,c46c,c46d,ZX,Ao,JC,Ai]<;>rfl
 ·have qc:decide (0<Jj t.k)=false:=by simpa using hc
  have q0:decide (Jj t.k=0)=true:=by rw[decide_eq_true_iff];omega
  rw[q0,Au]
  cases ks with
  |nil=>
   refine⟨[(6,.ptr (h.length+1) 0),(7,.v (.int .i64 (Jj t.k))),(73,.v (.bool false))],[.cells (Jp (.mk t []))],.inr ⟨_,_,_,rfl⟩,?_⟩
   have q4:decide ((0:Int)<((0:Nat):Int))=false:=rfl;rw[if_pos (show([]:List CV).isEmpty=true from rfl),JN]
   rcases he with rfl|⟨x,y,b,rfl⟩
   ·simp only[go_sem,Wm,b28,Tryz.f28,hlo,hlo1,rl,tl,Ag,hC,hlt,hle,q,q3,q4,w1,a1,hgr,hgc,hok,ra,o1,o2,o3,o4,hst,htk,hsk,hln,hpp,qc,c46a,c46b,c46c,c46d,ZX,Ao,JC,Ai,Ak]<;>rfl
   ·simp only[go_sem,Wm,b28,Tryz.f28,hlo,hlo1,rl,tl,Ag,hC,hlt,hle,q,q3,q4,w1,a1,hgr,hgc,hok,ra,o1,o2,o3,o4,hst,htk,hsk,hln,hpp,qc,c46a,c46b,c46c,c46d,ZX,Ao,JC,Ai,Ak]<;>rfl
  |cons z ks=>
   refine⟨[],[.cells (Jp (.mk t (z::ks)))],.inl rfl,?_⟩
   have q4:decide ((0:Int)<((ks.length+1:Nat):Int))=true:=by rw[decide_eq_true_iff];omega
   rw[if_neg (show¬(z::ks).isEmpty=true by simp),JN]
   rcases he with rfl|⟨x,y,b,rfl⟩
   ·simp only[go_sem,Wm,b28,Tryz.f28,hlo,hlo1,rl,tl,Ag,hC,hlt,hle,q,q3,q4,w1,a1,hgr,hgc,hok,ra,o1,o2,o3,o4,hst,htk,hsk,hln,hpp,qc,c46a,c46b,c46c,c46d,ZX,Ao,JC,Ai]<;>rfl
   ·simp only[go_sem,Wm,b28,Tryz.f28,hlo,hlo1,rl,tl,Ag,hC,hlt,hle,q,q3,q4,w1,a1,hgr,hgc,hok,ra,o1,o2,o3,o4,hst,htk,hsk,hln,hpp,qc,c46a,c46b,c46c,c46d,ZX,Ao,JC,Ai]<;>rfl
def clT(c:Int):List Tk4:=if 0<c then[Rul.bare c]else[]
theorem JAV(t:Tk4)(ks r:List CV):KT (.mk t ks::r)=t::(KT ks++(clT (Jj t.k)++KT r)):=by
 rw[KT,zq];unfold clT;have hcl:=qQ t.k;by_cases hc:Jj t.k=0
 ·rw[if_pos hc,if_neg om];simp
 ·rw[if_neg hc,if_pos om];simp
theorem Q3:KT []=[]:=by rw[KT]
theorem JRn(hlo:lo<=h.length):∀(n:Nat) (l:List CV),JL l<=n->∀(fs js:List (List CV×Int)) (c:Int) (Y:JM) (out:List Tk4) (ex:Jr),JKv ex->fs.length+JL l<=1000000000->out.length+2*JL l<=1000000000->
  ∃js',JA (evCode ⟨Aa,E,lo,h.length,h28⟩ JA Wm) (JAU h out (fs.length+1) ex,h++ .cells (Gc (fs++(l,c)::js))::Y)=
   JA (evCode ⟨Aa,E,lo,h.length,h28⟩ JA Wm) (JAU h (out++(KT l++clT c)) fs.length [],h++[.cells (Gc (fs++js'))]):=by
 intro n
 induction n with
 |zero=>
  intro l hl fs js c Y out ex he hf ho
  have:l=[]:=by have:=JT l;exact List.eq_nil_of_length_eq_zero om
  subst this;refine⟨([],c)::js,?_⟩
  rw[JJ,JPV hlo om om he,Jg,Q3,Aq]
  rfl
 |succ n ih=>
  intro l hl fs js c Y out ex he hf ho
  cases l with
  |nil=>
   refine⟨([],c)::js,?_⟩
   rw[JJ,JPV hlo om om he,Jg,Q3,Aq]
   rfl
  |cons v r=>
   obtain⟨t,ks⟩:=v;rw[J4,Km]at hl hf ho;obtain⟨ex',Y',he',hr⟩:=JdO (js:=js) (l:=r) (ks:=ks) (t:=t) (c:=c) (Y:=Y) (out:=out) hlo (by omega:fs.length<=1000000000) om he
   rw[JAV];by_cases hq:(decide (Jj t.k=0)&&ks.isEmpty)=true
   ·rw[if_pos hq]at hr
    simp only[Af,decide_eq_true_eq,List.isEmpty_iff]at hq;obtain⟨hq,rfl⟩:=hq;obtain⟨js',h1⟩:=ih r om fs js c Y' (out++[t]) ex' he' om (by simp only[Ax,Ai,Ak];omega)
    refine⟨js',?_⟩
    rw[JJ,hr,Jg,h1,hq,Q3];have:clT 0=[]:=rfl;rw[this];simp only[AM,Aq,AK]
   ·rw[if_neg hq]at hr
    have e1:fs++[(r,c),(ks,Jj t.k)]=(fs++[(r,c)])++(ks,Jj t.k)::[]:=by simp
    have e2:fs.length+1=(fs++[(r,c)]).length:=by simp
    obtain⟨js1,h1⟩:=ih ks om (fs++[(r,c)]) [] (Jj t.k) Y' (out++[t]) ex' he' (by simp only[Ax,Ai,Ak];omega) (by simp only[Ax,Ai,Ak];omega)
    have hfl:=Zt ks;have hcl:(clT (Jj t.k)).length<=1:=by unfold clT;split<;>simp
    obtain⟨js2,h2⟩:=ih r om fs js1 c [] (out++[t]++(KT ks++clT (Jj t.k))) [] (.inl rfl) om (by simp only[Ax,Ai,Ak];omega)
    refine⟨js2,?_⟩
    rw[JJ,hr,Jg,e1];rw[<-e2]at h1;rw[h1];have e3:(fs++[(r,c)])++js1=fs++(r,c)::js1:=by simp
    rw[e3,h2];simp only[AM,Aq,AK]
theorem JXN{js:List (List CV×Int)}{out:List Tk4}(hlo:lo<=h.length):evCode ⟨Aa,E,lo,h.length,h28⟩ JA Wm (JAU h out 0 [],h++[.cells (Gc js)])=
   some (.exit 0,JAU h out 0 [(13,.v (.bool false))],h++[.cells (Gc js)]):=by
 have q:decide ((0:Int)<((0:Nat):Int))=false:=rfl;have hok:=JDg (h.length+1) js;have hlt:h.length<h.length+1:=om;simp only[go_sem,Wm,b28,Tryz.f28,hlo,q,hok,hlt]<;>rfl
theorem f28{l:List CV}(hlo:lo<=h.length)(hl:JL l<=100000000):E lo 28 [.list .no (JH l)] h=some (.list .no ((KT l).map row),h):=by
 obtain⟨js,hL⟩:=JRn hlo (JL l) l (Ag _) [] [] 0 [] [] [] (.inl rfl) (by simp;omega) (by simp;omega)
 rw[JJ (s:=(JAU h _ ([]:List (List CV×Int)).length _,_)),Ak,Aq js,JXN hlo,Jx]at hL;have e:clT 0=[]:=rfl;rw[e,AH,Aq]at hL;have e2:Gc [(l,0)]=[.list .no (JH l),.v (.int .i64 0)]:=rfl;rw[e2]at hL;rw[e28];simp only[Wm,b28,Tryz.f28,JK,loops,JB,go_sem,JAU,List.map_nil,AK,Aq,Nat.zero_add]at hL
 have nb:((1:Nat) !=0)=true:=rfl;have rl:=Jn l;simp only[go_sem,b28,Tryz.f28,hlo,hL,nb,rl]<;>rfl
end Go.Lift.Y1
end

section
open Go.Proofs
namespace Go.Lift.Y1
open Rul
open Utf (By)
variable{lo:Nat}{h:JM}
theorem yi:∀{l:List CV},Kq l->JL l<=1000000000->okCL l
 |[],_,_=>by rw[okCL];trivial
 | .mk t kids::r,ho,hn=>by
  rw[Kq,Wp]at ho;have e:=QA (.mk t kids);rw[show(CV.mk t kids).ks=kids from rfl]at e
  rw[J4,e]at hn;have hk:=JT kids;rw[okCL,okCV];exact⟨⟨⟨ho.1.1.1,ho.1.1.2.1,om⟩,yi ho.1.2 om⟩,yi ho.2 om⟩
theorem Jkb{l:List CV}(hlo:lo<=h.length)(hl:JL l<=1000000000)(ho:Kq l):E lo 27 [.list .no (JH l)] h=some (.v (.bool (QY l)),h):=
 f27 hlo (by have:=JT l;omega) (yi ho hl)
noncomputable abbrev yY(lo:Nat)(h:JM):Go.Lift.Cx:=⟨Aa,E,lo,h.length,h9⟩
section
variable{nm:ByteArray}{k:Int}{dn low kn:Bool}{ws:List ByteArray}{ck a b:Int}{w:ByteArray}{l:List CV}{n:Nat}{name:List Int}
abbrev WL(h:JM)(cs:List V):JM:=h++[.cells vZ,.cells cs]
abbrev N17(h:JM)(l:List CV)(kn:Bool)(ex:Jr):Jr:=[(1,.list .no (JH l)),(4,.ptr h.length 0),(6,.ptr (h.length+1) 0),(7,.v (.bool kn))]++ex
abbrev Qe(h:JM)(cs vc:List V)(er:Int):Option (Ex×Jr×JM):=some (.ret,[(4,.ptr h.length 0),(5,.v (.int .i64 er))],h++[.cells vc,.cells cs])
theorem Jkc(hlo:lo<=h.length)(hy:By name)(hnl:name.length<=1000000000)(hl:JL l<=2000000)(ho:Kq l)
  (c21:∀lo h,lo<=h.length->E lo 21 [.v (.string (Rul.bs name))] h=some (.tup [.agg (JG nm k dn low ws ck a b w),.v (.bool kn)],h)):
  H0 (yY lo h) JA (pc b9 0 3) (QJ [.v (.string (Rul.bs name)),.list .no (JH l)],h)=
   if(!kn&& !Kw name)=true then Qe h (JG nm k dn low ws ck a b w) vZ 10
   else if(!Ky 64 l)=true then Qe h (JG nm k dn low ws ck a b w) vZ 1
   else if(!K9 l true)=true then Qe h (JG nm k dn low ws ck a b w) vZ 3
   else some (.normal,N17 h l kn [(28,.v (.bool false))],WL h (JG nm k dn low ws ck a b w)):=by
 have l1:lo<=h.length+1:=om;have l2:lo<=h.length+1+1:=om;have c22:=λlo h hlo=>f22 (lo:=lo) (h:=h) hy hlo om
 have c23:=λlo h hlo=>f23 (lo:=lo) (h:=h) (l:=l) hlo om
 have c24:=λlo h hlo=>f24 (lo:=lo) (h:=h) (l:=l) (top:=true) hlo om ho
 simp only[JG]at c21;generalize Kw name=cu at c22⊢;generalize Ky 64 l=my at c23⊢;generalize K9 l true=gd at c24⊢
 have rest:∀(q:(!kn&& !cu)=false),H0 (yY lo h) JA (pc b9 0 3) (QJ [.v (.string (Rul.bs name)),.list .no (JH l)],h)=if(!my)=true then Qe h (JG nm k dn low ws ck a b w) vZ 1
   else if(!gd)=true then Qe h (JG nm k dn low ws ck a b w) vZ 3
   else some (.normal,N17 h l kn [(28,.v (.bool false))],WL h (JG nm k dn low ws ck a b w)):=by
  intro q
  cases kn with
  |true=>
   cases my with
   |false=>
    rw[if_pos (by simp)]
    simp only[yY,Qe,vZ,JG,go_sem,b9,Tryz.f9,hlo,l1,l2,c21,c23]<;>rfl
   |true=>
    rw[if_neg (by simp)]
    cases gd with
    |false=>
     rw[if_pos (by simp)]
     simp only[yY,Qe,vZ,JG,go_sem,b9,Tryz.f9,hlo,l1,l2,c21,c23,c24]<;>rfl
    |true=>
     rw[if_neg (by simp)]
     simp only[yY,Qe,N17,WL,vZ,JG,go_sem,b9,Tryz.f9,hlo,l1,l2,c21,c23,c24]<;>rfl
  |false=>
   cases cu with
   |false=>cases q
   |true=>
    cases my with
    |false=>
     rw[if_pos (by simp)]
     simp only[yY,Qe,vZ,JG,go_sem,b9,Tryz.f9,hlo,l1,l2,c21,c22,c23]<;>rfl
    |true=>
     rw[if_neg (by simp)]
     cases gd with
     |false=>
      rw[if_pos (by simp)]
      simp only[yY,Qe,vZ,JG,go_sem,b9,Tryz.f9,hlo,l1,l2,c21,c22,c23,c24]<;>rfl
     |true=>
      rw[if_neg (by simp)]
      simp only[yY,Qe,N17,WL,vZ,JG,go_sem,b9,Tryz.f9,hlo,l1,l2,c21,c22,c23,c24]<;>rfl
 by_cases q:(!kn&& !cu)=true
 ·rw[if_pos q]
  cases kn with
  |true=>cases q
  |false=>
   cases cu with
   |true=>cases q
   |false=>simp only[yY,Qe,vZ,JG,go_sem,b9,Tryz.f9,hlo,l1,l2,c21,c22]<;>rfl
 ·rw[if_neg q]
  exact rest (by simpa using q)
def QL(l:List CV):List Int:=match l with
 |[.mk t _]=>if(t.k==1)=true then Jc t.b else[]
 |_=>[]
theorem Jkd{L:List CV}(hlo:lo<=h.length)(hl:JL l<=2000000)(ho:Kq l)(hL:Je l=L):
  ∃q:Bool,H0 (yY lo h) JA (pc b9 3 4) (N17 h l kn [(28,.v (.bool false))],WL h (JG nm k dn low ws ck a b w))=
   some (.normal,N17 h L kn [(8,.v (.string (Rul.bs (QL L)))),(45,.v (.bool q))],WL h (JG nm k dn low ws ck a b w)):=by
 have l1:lo<=h.length+1:=om;have l2:lo<=h.length+1+1:=om;have hm:∀v∈L,Wp v:=λv hv=>by rw[<-hL]at hv;exact KU ho v (J9 hv)
 have c25:=λlo h hlo=>f25 (lo:=lo) (h:=h) (l:=l) hlo om
 rw[hL]at c25
 match L,c25,hm with
 |[],c25,hm=>
  have q1:(((0:Nat):Int)==1)=false:=rfl;have q1':((0:Int)==1)=false:=rfl;rw[JZ]at c25;refine⟨false,?_⟩
  simp only[yY,N17,WL,vZ,JG,JZ,go_sem,b9,Tryz.f9,hlo,l1,l2,c25,q1,q1',Ak]<;>rfl
 |v::u::r,c25,hm=>
  have q1:(((r.length+1+1:Nat):Int)==1)=false:=by rw[beq_eq_false_iff_ne];omega
  rw[JY,JY]at c25;refine⟨false,?_⟩
  rw[show QL (v::u::r)=[]by obtain⟨t,ks⟩:=v;rfl]
  simp only[yY,N17,WL,vZ,JG,JY,go_sem,b9,Tryz.f9,hlo,l1,l2,c25,q1,Ai,JC]<;>rfl
 |[.mk t kids],c25,hm=>
  have ht:okT t:=jZ (hm _ (AL.2 rfl));have q1:(((0+1:Nat):Int)==1)=true:=rfl;have q1':((1:Int)==1)=true:=rfl;have c26:=λlo h hlo=>f26 (lo:=lo) (h:=h) (l:=t.b) hlo (by have:=ht.2.1;omega) ht.1
  rw[JY,JZ,JN]at c25;unfold QL;simp only
  cases z1:t.k==1 with
  |false=>
   rw[if_neg (by simp)]
   refine⟨false,?_⟩
   simp only[yY,N17,WL,vZ,JG,JY,JZ,JN,go_sem,b9,Tryz.f9,hlo,l1,l2,c25,q1,q1',z1,Ai,Ak]<;>rfl
  |true=>
   rw[if_pos rfl];refine⟨true,?_⟩
   simp only[yY,N17,WL,vZ,JG,JY,JZ,JN,go_sem,b9,Tryz.f9,hlo,l1,l2,c25,c26,q1,q1',z1,Ai,Ak]<;>rfl
def JJj:List Int:=[105,110,104,101,114,105,116]
def JJk:List Int:=[105,110,105,116,105,97,108]
def JJl:List Int:=[117,110,115,101,116]
def JAW(b:List Int):Bool:=b==JJj||(b==JJk||b==JJl)
theorem byW{b:List Int}(h:b.all (λc=>decide (0<=c)&&decide (c<256))=true):By b:=λc hc=>by have:=List.all_eq_true.1 h c hc;simp only[Af,decide_eq_true_eq]at this;omega
def G8(kind:Int)(word:ByteArray):List V:=[.v (.int .i64 kind),.v (.int .i64 0),.v (.int .i64 0),.v (.int .i64 0),.v (.int .i64 0),.list .yes [],.v (.string word),.list .yes []]
def JHD(toks:List (List V)):List V:=[.v (.int .i64 4),.v (.int .i64 0),.v (.int .i64 0),.v (.int .i64 0),.v (.int .i64 0),.list .yes [],.v (.string AE),.list .no toks]
abbrev M17(h:JM)(l:List CV)(wd:List Int):Jr:=[(1,.list .no (JH l)),(4,.ptr h.length 0),(6,.ptr (h.length+1) 0),(8,.v (.string (Rul.bs wd))),(75,.v (.bool false))]
theorem Jke{L:List CV}{q:Bool}{wd:List Int}(hlo:lo<=h.length)(hl:JL L<=2000000)(ho:Kq L)(hwd:By wd)(hws:ws.length<=1000000000):
  H0 (yY lo h) JA (pc b9 7 1) (N17 h L kn [(8,.v (.string (Rul.bs wd))),(45,.v (.bool q))],WL h (JG nm k dn low ws ck a b w))=
   (
    if JAW wd=true then Qe h (JG nm k dn low ws ck a b w) (G8 3 (Rul.bs wd)) 0
    else if(!kn||QY L)=true then Qe h (JG nm k dn low ws ck a b w) (JHD ((KT L).map row)) 0
    else if(!(wd==[])&&W4 ws (Rul.bs wd))=true then Qe h (JG nm k dn low ws ck a b w) (G8 2 (Rul.bs wd)) 0
    else some (.normal,M17 h L wd,WL h (JG nm k dn low ws ck a b w))):=by
 have l1:lo<=h.length+1:=om;have l2:lo<=h.length+1+1:=om;have e1:=K1 hwd (byW (b:=JJj) (by decide))
 have e2:=K1 hwd (byW (b:=JJk) (by decide))
 have e3:=K1 hwd (byW (b:=JJl) (by decide))
 have e4:=K1 hwd (byW (b:=[]) (by decide))
 rw[show Rul.bs JJj=⟨#[105,110,104,101,114,105,116]⟩from rfl]at e1
 rw[show Rul.bs JJk=⟨#[105,110,105,116,105,97,108]⟩from rfl]at e2
 rw[show Rul.bs JJl=⟨#[117,110,115,101,116]⟩from rfl]at e3
 rw[show Rul.bs []=⟨#[]⟩from rfl]at e4
 have c7:=λlo h hlo=>Jkb (lo:=lo) (h:=h) (l:=L) hlo om ho
 have c28:=λlo h hlo=>f28 (lo:=lo) (h:=h) (l:=L) hlo om
 have c29:=λlo h hlo=>f29 (lo:=lo) (h:=h) (ws:=ws) (s:=Rul.bs wd) hlo hws
 unfold JAW;generalize (wd==JJj)=b1 at e1⊢;generalize (wd==JJk)=b2 at e2⊢;generalize (wd==JJl)=b3 at e3⊢;generalize (wd==[])=b4 at e4⊢;generalize QY L=vl at c7⊢;generalize W4 ws (Rul.bs wd)=hs at c29⊢;unfold WO at c29;generalize (KT L).map row=FL at c28⊢
 cases b1 with
 |true=>
  rw[if_pos (by simp)]
  simp only[yY,N17,M17,WL,Qe,vZ,G8,JG,go_sem,b9,Tryz.f9,hlo,l1,l2,e1]<;>rfl
 |false=>
  cases b2 with
  |true=>
   rw[if_pos (by simp)]
   simp only[yY,N17,M17,WL,Qe,vZ,G8,JG,go_sem,b9,Tryz.f9,hlo,l1,l2,e1,e2]<;>rfl
  |false=>
   cases b3 with
   |true=>
    rw[if_pos (by simp)]
    simp only[yY,N17,M17,WL,Qe,vZ,G8,JG,go_sem,b9,Tryz.f9,hlo,l1,l2,e1,e2,e3]<;>rfl
   |false=>
    rw[if_neg (by simp)]
    cases kn with
    |false=>
     rw[if_pos (by simp)]
     simp only[yY,N17,M17,WL,Qe,vZ,JHD,JG,go_sem,b9,Tryz.f9,hlo,l1,l2,e1,e2,e3,c28]<;>rfl
    |true=>
     cases vl with
     |true=>
      rw[if_pos (by simp)]
      simp only[yY,N17,M17,WL,Qe,vZ,JHD,JG,go_sem,b9,Tryz.f9,hlo,l1,l2,e1,e2,e3,c7,c28]<;>rfl
     |false=>
      rw[if_neg (by simp)]
      cases b4 with
      |true=>
       rw[if_neg (by simp)]
       simp only[yY,N17,M17,WL,Qe,vZ,JG,go_sem,b9,Tryz.f9,hlo,l1,l2,e1,e2,e3,e4,c7,AB]<;>rfl
      |false=>
       cases hs with
       |true=>
        rw[if_pos (by simp)]
        simp only[yY,N17,M17,WL,Qe,vZ,G8,JG,go_sem,b9,Tryz.f9,hlo,l1,l2,e1,e2,e3,e4,c7,c29,AO]<;>rfl
       |false=>
        rw[if_neg (by simp)]
        simp only[yY,N17,M17,WL,Qe,vZ,JG,go_sem,b9,Tryz.f9,hlo,l1,l2,e1,e2,e3,e4,c7,c29,AO]<;>rfl
theorem JAX(o:Option X):∃kd ek en ed eu el,Gb o=([.v (.int .i64 kd),.v (.int .i64 ek),.v (.int .i64 en),.v (.int .i64 ed),.v (.int .i64 eu),.list .no (ZG el),.v (.string ⟨#[]⟩),.list .no []],(Gb o).2):=by
 cases o with
 |none=>exact⟨0,0,0,0,0,[],by unfold Gb Jq;simp only[QP,JW]⟩
 |some x=>obtain⟨ek,en,ed,eu,el⟩:=x;exact⟨1,ek,en,ed,eu,el,by unfold Gb;simp only[QP]⟩
theorem Jkf{L:List CV}{wd:List Int}(hlo:lo<=h.length)(hn:JL L<=n)(hl:JL L<=2000000)(ho:Kq L):
  H0 (yY lo h) JA (pc b9 8 2) (M17 h L wd,WL h (JG nm k dn low ws ck a b w))=Qe h (JG nm k dn low ws ck a b w) (Gb (Wa k low n L)).1 (Gb (Wa k low n L)).2:=by
 have l1:lo<=h.length+1:=om;have l2:lo<=h.length+1+1:=om;have c30:=λlo h hlo=>f30 (lo:=lo) (h:=h) (nm:=nm) (k:=k) (dn:=dn) (low:=low) (ws:=ws) (ck:=ck) (a:=a) (b:=b) (w:=w) (l:=L) (n:=n) hlo hn hl ho
 obtain⟨kd,ek,en,ed,eu,el,e⟩:=JAX (Wa k low n L);generalize Gb (Wa k low n L)=r at c30 e⊢;obtain⟨vc,er⟩:=r;cases e;simp only[JG]at c30⊢;simp only[yY,M17,WL,Qe,vZ,go_sem,b9,Tryz.f9,hlo,l1,l2,c30]<;>rfl
theorem ZY{cs vc:List V}{er:Int}{r:List V}(hc:∃nm k dn low ws ck a b w,cs=JG nm k dn low ws ck a b w)(hv:vc=vZ/\r=ZL 0 Jq ⟨#[]⟩ []\/(∃kd wd,vc=G8 kd wd/\r=ZL kd Jq wd [])\/(∃toks,vc=JHD toks/\r=ZL 4 Jq ⟨#[]⟩ toks)\/ ∃o,vc=(Gb o).1/\r=(Gb o).1):
  fin Aa [.cell 4 41,.tmp 5] h.length (Qe h cs vc er)=some (.tup [.agg r,.v (.int .i64 er)],h):=by
 obtain⟨nm,k,dn,low,ws,ck,a,b,w,rfl⟩:=hc;rcases hv with⟨rfl,rfl⟩|⟨kd,wd,rfl,rfl⟩|⟨toks,rfl,rfl⟩|⟨o,rfl,rfl⟩
 ·unfold Jq
  simp only[Qe,JG,QP,JW,vZ,go_sem]<;>rfl
 ·unfold Jq
  simp only[Qe,JG,QP,JW,G8,go_sem]<;>rfl
 ·unfold Jq
  simp only[Qe,JG,QP,JW,JHD,go_sem]<;>rfl
 ·obtain⟨kd,ek,en,ed,eu,el,e⟩:=JAX o
  rw[e];simp only[Qe,JG,go_sem]<;>rfl
def GR(kn:Bool)(k:Int)(low:Bool)(ws:List ByteArray)(name:List Int)(n:Nat)(l:List CV):List V×Int:=
 if(!kn&& !Kw name)=true then(ZL 0 Jq ⟨#[]⟩ [],10)
 else if(!Ky 64 l)=true then(ZL 0 Jq ⟨#[]⟩ [],1)
 else if(!K9 l true)=true then(ZL 0 Jq ⟨#[]⟩ [],3)
 else if JAW (QL (Je l))=true then(ZL 3 Jq (Rul.bs (QL (Je l))) [],0)
 else if(!kn||QY (Je l))=true then(ZL 4 Jq ⟨#[]⟩ ((KT (Je l)).map row),0)
 else if(!(QL (Je l)==[])&&W4 ws (Rul.bs (QL (Je l))))=true then(ZL 2 Jq (Rul.bs (QL (Je l))) [],0)
 else Gb (Wa k low n (Je l))
theorem JDi{L:List CV}(ho:∀v∈L,Wp v):By (QL L):=by
 match L,ho with
 |[],_=>exact byW (by decide)
 |[.mk t kids],ho=>
  have ht:okT t:=jZ (ho _ (AL.2 rfl));unfold QL;simp only
  split
  ·exact Yn ht.1
  ·exact byW (by decide)
 | .mk t ks::u::r,_=>
  rw[show QL (.mk t ks::u::r)=[]from rfl]
  exact byW (by decide)
theorem f9(hlo:lo<=h.length)(hy:By name)(hnl:name.length<=1000000000)(hn:JL l<=n)(hl:JL l<=2000000)(ho:Kq l)(hws:ws.length<=1000000000)
  (c21:∀lo h,lo<=h.length->E lo 21 [.v (.string (Rul.bs name))] h=some (.tup [.agg (JG nm k dn low ws ck a b w),.v (.bool kn)],h)):
  E lo 9 [.v (.string (Rul.bs name)),.list .no (JH l)] h=some (.tup [.agg (GR kn k low ws name n l).1,.v (.int .i64 (GR kn k low ws name n l).2)],h):=by
 have htn:=KX l;have hot:Kq (Je l):=Hn λv hv=>KU ho v (J9 hv)
 have ha:=Jkc (k:=k) (lo:=lo) (h:=h) hlo hy hnl hl ho c21;obtain⟨q,hb⟩:=Jkd (lo:=lo) (h:=h) (nm:=nm) (k:=k) (dn:=dn) (low:=low) (kn:=kn) (ws:=ws) (ck:=ck) (a:=a) (b:=b) (w:=w) hlo hl ho rfl;have hc:=Jke (lo:=lo) (h:=h) (nm:=nm) (k:=k) (dn:=dn) (low:=low) (kn:=kn) (ws:=ws) (ck:=ck) (a:=a) (b:=b) (w:=w) (L:=Je l) (q:=q) (wd:=QL (Je l)) hlo om hot (JDi (KU hot)) hws
 have hd:=Jkf (lo:=lo) (h:=h) (nm:=nm) (k:=k) (dn:=dn) (low:=low) (ws:=ws) (ck:=ck) (a:=a) (b:=b) (w:=w) (L:=Je l) (wd:=QL (Je l)) (n:=n) hlo om om hot;have cs:∃nm' k' dn' low' ws' ck' a' b' w',JG nm k dn low ws ck a b w=JG nm' k' dn' low' ws' ck' a' b' w':=⟨_,_,_,_,_,_,_,_,_,rfl⟩;unfold GR;rw[e9,JOl,W0 _ _ _ _ 0 3,ha];by_cases c1:(!kn&& !Kw name)=true
 ·rw[if_pos c1,if_pos c1,Qe,Zs];exact ZY cs (.inl ⟨rfl,rfl⟩)
 rw[if_neg c1,if_neg c1];by_cases c2:(!Ky 64 l)=true
 ·rw[if_pos c2,if_pos c2,Qe,Zs];exact ZY cs (.inl ⟨rfl,rfl⟩)
 rw[if_neg c2,if_neg c2];by_cases c3:(!K9 l true)=true
 ·rw[if_pos c3,if_pos c3,Qe,Zs];exact ZY cs (.inl ⟨rfl,rfl⟩)
 rw[if_neg c3,if_neg c3,W0 _ _ _ _ _ 4,hb,W0 _ _ _ _ _ 1,hc];by_cases c4:JAW (QL (Je l))=true
 ·rw[if_pos c4,if_pos c4,Qe,Zs];exact ZY cs (.inr (.inl ⟨_,_,rfl,rfl⟩))
 rw[if_neg c4,if_neg c4];by_cases c5:(!kn||QY (Je l))=true
 ·rw[if_pos c5,if_pos c5,Qe,Zs];exact ZY cs (.inr (.inr (.inl ⟨_,rfl,rfl⟩)))
 rw[if_neg c5,if_neg c5];by_cases c6:(!(QL (Je l)==[])&&W4 ws (Rul.bs (QL (Je l))))=true
 ·rw[if_pos c6,if_pos c6,Qe,Zs];exact ZY cs (.inr (.inl ⟨_,_,rfl,rfl⟩))
 rw[if_neg c6,if_neg c6,W0 _ _ _ _ _ 2,hd,Qe,Zs];exact ZY cs (.inr (.inr (.inr ⟨_,rfl,rfl⟩)))
end
end Go.Lift.Y1
end
