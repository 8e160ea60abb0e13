/- jalousieref5.Same. -/
import Derived.Test.YtkmiddfplmnaoaaGreatDoorGKa
import Derived.Test.YtkmiddfplmnaoaaGreatDoorGKb
import Derived.Test.YtkmiddfplmnaoaaGreatDoorGKc
import Derived.Test.YtkmiddfplmnaoaaGreatDoorGKe
open Bool renaming and_false->BZ,and_self->BS,false_and->AZ,false_eq_true->As,false_or->Br,not_false->Bh,not_true->Bm,or_eq_true->AN,true_and->AR
open ByteArray renaming empty->A6
open Go.IntKind renaming i64->Ak
open Go.Proofs.Tryz renaming prog->Aa
open List renaming append_assoc->Aw,append_nil->Aq,concat_eq_append->LA,cons_append->Ae,dropWhile_cons->AD,dropWhile_suffix->AA,drop_drop->AC,drop_eq_getElem_cons->AE,drop_eq_nil_of_le->A4,drop_one->Ld,drop_suffix->Mt,drop_zero->AG,eq_nil_or_concat->DU,getElem?_drop->Bb,getElem?_eq_getElem->Ad,getElem?_eq_some_iff->Ab,getElem?_map->Ao,getElem_mem->Bq,length->Bf,length_append->An,length_cons->Ag,length_drop->Ay,length_nil->Am,length_pos_iff->Cg,length_reverse->Ch,length_set->AO,length_tail->DT,map_nil->Cm,mem_cons->Bg,mem_of_getElem? ->Ap,mem_of_mem_drop->BH,nil_append->Af,nil_suffix->My,reverse_append->CL,reverse_cons->BD,reverse_singleton->Lt,set_set->BL,suffix_refl->Ln,takeWhile_cons->BK,takeWhile_nil->Db,takeWhile_prefix->Bj,take_left'->D6,take_length->Co
open Nat renaming le_refl->Ac,le_succ->Mg,le_trans->A3,reduceBEq->LJ,zero_add->AB,zero_le->A0
open Option renaming getD->MJ,getD_some->CN
set_option linter.unusedVariables false
set_option linter.unusedSimpArgs false
set_option linter.unusedSectionVars false
set_option maxRecDepth 20000
set_option maxHeartbeats 40000000
section
open Go.Proofs
namespace Go.Lift.W1
variable[MX]
open Utf Tok Spell
variable{lo:Nat}{h:Heap}
def qQ:Rul.Ru->List Rul.Ru
 | .mk _ _ _ _ rs=>rs
mutual
def szR:Rul.Ru->Nat
 | .mk _ _ _ _ rs=>JG2 rs+1
def JG2:List Rul.Ru->Nat
 |[]=>0
 |r::l=>szR r+JG2 l
end
theorem JDz{r:Rul.Ru}{l:List Rul.Ru}:JG2 (r::l)=szR r+JG2 l:=by rw[JG2]
theorem JJg:∀{l:List Rul.Ru} {r:Rul.Ru},r∈l->szR r<=JG2 l
 |[],_,h=>by cases h
 |x::l,r,h=>by
  rw[JDz];rcases Bg.1 h with rfl|h
  ·omega
  ·have:=JJg h
   omega
theorem JJh{r:Rul.Ru}:JG2 (qQ r)+1<=szR r:=by
 obtain⟨kd,n,p,ds,rs⟩:=r;rw[szR];show JG2 rs+1<=_
 omega
mutual
def WkR:Rul.Ru->Prop
 | .mk k n p ds rs=>By n/\ByL p/\Rul.JM p<=100000000/\ds.length<=1000000000/\(∀d∈ds,OkE d)/\rs.length<=1000000000/\HZ rs
def HZ:List Rul.Ru->Prop
 |[]=>True
 |r::l=>WkR r/\HZ l
end
theorem JG3{k:Int}{n:List Int}{p:List Rul.CV}{ds:List Rul.Dc}{rs:List Rul.Ru}:
  WkR (.mk k n p ds rs)↔By n/\ByL p/\Rul.JM p<=100000000/\ds.length<=1000000000/\(∀d∈ds,OkE d)/\rs.length<=1000000000/\HZ rs:=by rw[WkR]
theorem JD0{r:Rul.Ru}{l:List Rul.Ru}:HZ (r::l)↔WkR r/\HZ l:=by rw[HZ]
theorem Ha:∀{l:List Rul.Ru} {r:Rul.Ru},HZ l->r∈l->WkR r
 |[],_,_,h=>by cases h
 |x::l,r,hk,h=>by
  rw[JD0]at hk;rcases Bg.1 h with rfl|h
  ·exact hk.1
  ·exact Ha hk.2 h
theorem JAB:∀{l:List Rul.Ru},(∀r∈l,WkR r)->HZ l
 |[],_=>by rw[HZ];trivial
 |x::l,h=>JD0.2 ⟨h x (by simp),JAB λr hr=>h r (by simp[hr])⟩
theorem JMf{r:Rul.Ru}(h:WkR r):HZ (qQ r)/\(qQ r).length<=1000000000:=by obtain⟨kd,n,p,ds,rs⟩:=r;rw[JG3]at h;exact⟨h.2.2.2.2.2.2,h.2.2.2.2.2.1⟩
theorem JLZ(k:Int)(n:List Int)(p:List Rul.CV)(ds:List Rul.Dc)(rs:List Rul.Ru):Rul.ruV (.mk k n p ds rs)=[.v (.int .i64 k),.v (.string (bs n)),.list .no (Rul.JH p),.list .no (ds.map Rul.J1),.list .no (Rul.J2 rs)]:=by rw[Rul.ruV];rfl
theorem JMg{l:List Rul.Ru}{k:Nat}{r:Rul.Ru}(hg:l[k]? =some r):(Rul.J2 l)[k]? =some (Rul.ruV r):=by rw[Rul.rusC_map,Ao,hg];rfl
abbrev NV6(l u:List Rul.Ru)(k:Int):Ja:=[(0,.list .no (Rul.J2 l)),(1,.list .no (Rul.J2 u)),(14,.v (.int .i64 l.length)),(15,.v (.int .i64 k))]
theorem Jmd{l u:List Rul.Ru}{k:Nat}{a0 b0:Int}{a1 b1:List Int}{a2 b2:List Rul.CV}{a3 b3:List Rul.Dc}{a4 b4:List Rul.Ru}(hlo:lo<=h.length)
  (hg:(Rul.J2 l)[k]? =some [.v (.int .i64 a0),.v (.string (bs a1)),.list .no (Rul.JH a2),.list .no (a3.map Rul.J1),.list .no (Rul.J2 a4)])
  (hu:(Rul.J2 u)[k]? =some [.v (.int .i64 b0),.v (.string (bs b1)),.list .no (Rul.JH b2),.list .no (b3.map Rul.J1),.list .no (Rul.J2 b4)]):
  Kk ⟨Aa,E,lo,h.length,h7⟩ 6 (JLY b7 6) true ([(0,.list .no (Rul.J2 l)),(1,.list .no (Rul.J2 u)),(5,.v (.int .i64 k)),(14,.v (.int .i64 l.length)),(15,.v (.int .i64 k))],h)=
   some ([(0,.list .no (Rul.J2 l)),(1,.list .no (Rul.J2 u)),(6,.ptr h.length 0),(7,.ptr (h.length+1) 0),(14,.v (.int .i64 l.length)),(15,.v (.int .i64 k))],
    h++[.cells [.v (.int .i64 a0),.v (.string (bs a1)),.list .no (Rul.JH a2),.list .no (a3.map Rul.J1),.list .no (Rul.J2 a4)],.cells [.v (.int .i64 b0),.v (.string (bs b1)),.list .no (Rul.JH b2),.list .no (b3.map Rul.J1),.list .no (Rul.J2 b4)]]):=by
 have hlo':lo<=h.length+1:=om;have hs:h.length+1<h.length+2:=om;simp only[JLY,jN,b7,Tryz.f7,JC,List.lookup,LJ,Ae,Af,Aw,MJ];simp only[go_sem,hlo,hlo',hs,hg,hu]<;>rfl
theorem rv6{l u:List Rul.Ru}{k:Nat}{a0 b0:Int}{a1 b1:List Int}{a2 b2:List Rul.CV}{a3 b3:List Rul.Dc}{a4 b4:List Rul.Ru}(hlo:lo<=h.length)(hl:l.length<=1000000000)(hg:l[k]? =some (.mk a0 a1 a2 a3 a4))(hu:u[k]? =some (.mk b0 b1 b2 b3 b4))(hb:WkR (.mk a0 a1 a2 a3 a4))(hc:WkR (.mk b0 b1 b2 b3 b4))
  (ih:∀lo h,lo<=h.length->E lo 7 [.list .no (Rul.J2 a4),.list .no (Rul.J2 b4)] h=some (.v (.bool (HW a4 b4)),h)):
  evCode ⟨Aa,E,lo,h.length,h7⟩ JA kn (NV6 l u k,h)=if eqR (.mk a0 a1 a2 a3 a4) (.mk b0 b1 b2 b3 b4)=true then some (.normal,NV6 l u (k+1:Nat),h)else some (.ret,[(4,.v (.bool false))],h++[.cells (Rul.ruV (.mk a0 a1 a2 a3 a4)),.cells (Rul.ruV (.mk b0 b1 b2 b3 b4))]):=by
 have hlt:k<l.length:=(Ab.1 hg).1
 have hgr:=JMg hg;have hur:=JMg hu;rw[JLZ]at hgr hur;rw[JLZ,JLZ];have hR:=Jmd hlo hgr hur;simp only[JLY,jN,b7,Tryz.f7,JC,List.lookup,LJ,Ae,Af,Aw,MJ]at hR;have q:decide ((k:Int)<(l.length:Int))=true:=by simp;omega
 have hw:=JD (i:=k) om;rw[JG3]at hb hc;have b1':=JGz hb.1 hc.1;have hlo1:lo<=h.length+1:=om;have hlo2:lo<=h.length+2:=om;have c10:=λlo hlo=>f13 _ a2 b2 lo (h++[.cells [.v (.int .i64 a0),.v (.string (bs a1)),.list .no (Rul.JH a2),.list .no (a3.map Rul.J1),.list .no (Rul.J2 a4)],.cells [.v (.int .i64 b0),.v (.string (bs b1)),.list .no (Rul.JH b2),.list .no (b3.map Rul.J1),.list .no (Rul.J2 b4)]]) (Ac _) hb.2.2.1 hc.2.2.1 hb.2.1 hc.2.1 hlo
 have c10a:=c10 lo (by simp;omega);have c10b:=c10 h.length (by simp);have c10c:=c10 (h.length+2) (by simp)
 have c11:=λlo hlo=>f14 (lo:=lo) (h:=h++[.cells [.v (.int .i64 a0),.v (.string (bs a1)),.list .no (Rul.JH a2),.list .no (a3.map Rul.J1),.list .no (Rul.J2 a4)],.cells [.v (.int .i64 b0),.v (.string (bs b1)),.list .no (Rul.JH b2),.list .no (b3.map Rul.J1),.list .no (Rul.J2 b4)]]) (l:=a3) (u:=b3) hlo hb.2.2.2.1 hc.2.2.2.1 (λd hd=>hb.2.2.2.2.1 d hd) (λd hd=>hc.2.2.2.2.1 d hd)
 have c11a:=c11 lo (by simp;omega);have c11b:=c11 h.length (by simp);have c11c:=c11 (h.length+2) (by simp)
 have c6:=λlo hlo=>ih lo (h++[.cells [.v (.int .i64 a0),.v (.string (bs a1)),.list .no (Rul.JH a2),.list .no (a3.map Rul.J1),.list .no (Rul.J2 a4)],.cells [.v (.int .i64 b0),.v (.string (bs b1)),.list .no (Rul.JH b2),.list .no (b3.map Rul.J1),.list .no (Rul.J2 b4)]]) hlo
 have c6a:=c6 lo (by simp;omega);have c6b:=c6 h.length (by simp);have c6c:=c6 (h.length+2) (by simp)
 clear c10 c11 c6;rw[eqR];have q1:(a0 !=b0)= !(a0==b0):=rfl
 cases e0:a0==b0 with
 |false=>
  rw[e0]at q1;rw[AZ,if_neg (by simp)]
  simp only[go_sem,kn,b7,Tryz.f7,hlo,hlo1,hlo2,q,↓hR,hw,q1,Rul.K8,Bh]<;>rfl
 |true=>
  rw[e0]at q1;rw[AR]
  cases e1:a1==b1 with
  |false=>
   rw[e1]at b1';rw[AZ,if_neg (by simp)]
   simp only[go_sem,kn,b7,Tryz.f7,hlo,hlo1,hlo2,q,↓hR,hw,q1,b1',Rul.K8,Bm,Bh]<;>rfl
  |true=>
   rw[e1]at b1';rw[AR]
   cases e2:eqL a2 b2 with
   |false=>
    rw[e2]at c10a c10b c10c;rw[AZ,if_neg (by simp)]
    simp only[go_sem,kn,b7,Tryz.f7,hlo,hlo1,hlo2,q,↓hR,hw,q1,b1',c10a,c10b,c10c,Rul.K8,Bm,Bh]<;>rfl
   |true=>
    rw[e2]at c10a c10b c10c;rw[AR]
    cases e3:jp a3 b3 with
    |false=>
     rw[e3]at c11a c11b c11c;rw[AZ,if_neg (by simp)]
     simp only[go_sem,kn,b7,Tryz.f7,hlo,hlo1,hlo2,q,↓hR,hw,q1,b1',c10a,c10b,c10c,c11a,c11b,c11c,Rul.K8,Bm,Bh]<;>rfl
    |true=>
     rw[e3]at c11a c11b c11c;rw[AR]
     cases e4:HW a4 b4 with
     |false=>
      rw[e4]at c6a c6b c6c;rw[if_neg (by simp)]
      simp only[go_sem,kn,b7,Tryz.f7,hlo,hlo1,hlo2,q,↓hR,hw,q1,b1',c10a,c10b,c10c,c11a,c11b,c11c,c6a,c6b,c6c,Rul.K8,Bm,Bh]<;>rfl
     |true=>rw[e4]at c6a c6b c6c;rw[if_pos rfl];simp only[go_sem,kn,b7,Tryz.f7,hlo,hlo1,hlo2,q,↓hR,hw,q1,b1',c10a,c10b,c10c,c11a,c11b,c11c,c6a,c6b,c6c,Rul.K8,Bm,Bh]<;>rfl
theorem sv6{l u:List Rul.Ru}(hlo:lo<=h.length):evCode ⟨Aa,E,lo,h.length,h7⟩ JA kn (NV6 l u l.length,h)=
   some (.exit 0,NV6 l u l.length++[(16,.v (.bool false))],h):=by
 have q:decide ((l.length:Int)<(l.length:Int))=false:=by simp
 simp only[go_sem,kn,b7,Tryz.f7,hlo,q]<;>rfl
theorem lv6{l u:List Rul.Ru}(hlo:lo<=h.length)(hl:l.length<=1000000000)(hlu:l.length=u.length)(hb:HZ l)(hc:HZ u)
  (ih:∀v∈l,∀y∈u,∀lo h,lo<=h.length->E lo 7 [.list .no (Rul.J2 (qQ v)),.list .no (Rul.J2 (qQ y))] h=some (.v (.bool (HW (qQ v) (qQ y))),h)):∀(m k:Nat),k+m=l.length->
  if HW (l.drop k) (u.drop k)=true then
   JA (evCode ⟨Aa,E,lo,h.length,h7⟩ JA kn) (NV6 l u k,h)=some (.exit 0,NV6 l u l.length++[(16,.v (.bool false))],h)
  else∃X,JA (evCode ⟨Aa,E,lo,h.length,h7⟩ JA kn) (NV6 l u k,h)=some (.ret,[(4,.v (.bool false))],h++X):=by
 intro m
 induction m with
 |zero=>
  intro k hk;obtain rfl:k=l.length:=om;have e:u.drop l.length=[]:=A4 om
  rw[List.drop_length,e,if_pos qO,JB,sv6 hlo,KP]
 |succ m ihm=>
  intro k hk;have hlt:k<l.length:=om;have hlt2:k<u.length:=om;have hg:l[k]? =some l[k]:=Ad hlt
  have hu:u[k]? =some u[k]:=Ad hlt2
  have m1:=Bq hlt;have m2:=Bq hlt2;have i1:=ih _ m1 _ m2;have o1:=Ha hb m1;have o2:=Ha hc m2;rw[AE hlt,AE hlt2,yQ];generalize l[k]=v at*;generalize u[k]=y at*;obtain⟨a0,a1,a2,a3,a4⟩:=v;obtain⟨b0,b1,b2,b3,b4⟩:=y;have hr:=rv6 (lo:=lo) (h:=h) hlo hl hg hu o1 o2 i1
  cases hm:eqR (.mk a0 a1 a2 a3 a4) (.mk b0 b1 b2 b3 b4)with
  |false=>
   rw[hm,if_neg (by simp)]at hr
   rw[AZ,if_neg (by simp)]
   exact⟨_,by rw[JB,hr,Wo]⟩
  |true=>rw[hm,if_pos rfl]at hr;rw[AR,JB,hr,JK];exact ihm (k+1) om
theorem f7:∀(n:Nat) (l u:List Rul.Ru) (lo:Nat) (h:Heap),JG2 l<=n->HZ l->HZ u->l.length<=1000000000->u.length<=1000000000->lo<=h.length->
  E lo 7 [.list .no (Rul.J2 l),.list .no (Rul.J2 u)] h=some (.v (.bool (HW l u)),h):=by
 intro n
 induction n with
 |zero=>
  intro l u lo h hn hb hc hl hul hlo
  have hz:l=[]:=by
   cases l with
   |nil=>rfl
   |cons r l=>rw[JDz]at hn;have:=JJh (r:=r);omega
  subst hz;have n0:((0:Nat):Int)=0:=rfl;rw[e7]
  cases u with
  |nil=>
   have hL:=lv6 (lo:=lo) (h:=h) (l:=[]) (u:=[]) hlo (by simp) rfl hb hc (λv hv=>by cases hv) 0 0 rfl
   rw[AG,if_pos qO]at hL;rw[qO];simp only[kn,b7,Tryz.f7,JG,JT,JC,go_sem,NV6,n0,Ae,Af,Am]at hL;have q:((0:Int) !=0)=false:=rfl
   simp only[go_sem,b7,Tryz.f7,hlo,hL,Rul.K8,n0,Am,q,Int.reduceBNe]<;>rfl
  |cons y r=>
   rw[JBy (by simp)]
   have q:((0:Int) !=((r.length+1:Nat):Int))=true:=by simp;omega
   simp only[go_sem,b7,Tryz.f7,hlo,Rul.K8,n0,Am,q]<;>rfl
 |succ n ihn=>
  intro l u lo h hn hb hc hl hul hlo;have n0:((0:Nat):Int)=0:=rfl;rw[e7];by_cases hq:l.length=u.length
  ·have q:((l.length:Int) !=(u.length:Int))=false:=by simp[hq]
   have hL:=lv6 (lo:=lo) (h:=h) (l:=l) (u:=u) hlo om hq hb hc (λv hv y hy lo h hlo=>by
    have h1:=JJg hv;have h2:=JJh (r:=v);have h3:=JMf (Ha hb hv);have h4:=JMf (Ha hc hy)
    exact ihn (qQ v) (qQ y) lo h om h3.1 h4.1 h3.2 h4.2 hlo) l.length 0 om
   rw[AG,AG]at hL
   cases hm:HW l u with
   |false=>
    rw[hm,if_neg (by simp)]at hL
    obtain⟨X,hL⟩:=hL;simp only[kn,b7,Tryz.f7,JG,JT,JC,go_sem,NV6,n0]at hL
    simp only[go_sem,b7,Tryz.f7,hlo,hL,Rul.K8,n0,q]<;>rfl
   |true=>rw[hm,if_pos rfl]at hL;simp only[kn,b7,Tryz.f7,JG,JT,JC,go_sem,NV6,n0,Ae,Af]at hL;simp only[go_sem,b7,Tryz.f7,hlo,hL,Rul.K8,n0,q]<;>rfl
  ·have q:((l.length:Int) !=(u.length:Int))=true:=by simp;omega
   rw[JBy hq];simp only[go_sem,b7,Tryz.f7,hlo,Rul.K8,n0,q]<;>rfl
end Go.Lift.W1
end

section
open Go.Proofs
namespace Go.Lift.W1
open Rul
open Utf (By)
variable[MX]
variable{lo:Nat}{h:Heap}
abbrev KK:Ob:= .cells [.v (.string A6),.list .yes [],.v (.bool false)]
theorem JZY{n:List Int}{v:List CV}{i:Bool}{ex:Ja}(hlo:lo<=h.length)(hy:By n)(hl:n.length<=1000000000)(hv:JM v<=1000000000):
  evCode ⟨Aa,E,lo,h.length,h68⟩ JA (Hv 7 zC) ((2,.ptr h.length 0)::(4,.ptr (h.length+1) 0)::(6,.list .no (JH v))::ex,h++[KK,.cells [.v (.string (Rul.bs n)),.list .yes [],.v (.bool i)]])=
   if Jf 64 v=true then some (.ret,[(2,.ptr h.length 0),(3,.v (.bool false))],h++[KK,.cells [.v (.string (Rul.bs n)),.list .yes [],.v (.bool i)]])
   else some (.ret,[(2,.ptr h.length 0),(3,.v (.bool true))],h++[.cells [.v (.string (Rul.bs (nameOf n))),.list .no (JH v),.v (.bool i)],.cells [.v (.string (Rul.bs (nameOf n))),.list .no (JH v),.v (.bool i)]]):=by
 have l1:lo<=h.length+1:=om;have c37:=f37 (lo:=lo) (h:=h++[KK,.cells [.v (.string (Rul.bs n)),.list .yes [],.v (.bool i)]]) (l:=v) (by simp;omega) om
 have hn:=JZU (lo:=lo) (h:=h) (n:=n) (i:=i) (R:=JH v) (ex:=[]) hlo hy hl;simp only[Hv,zC,Tryz.f68,JC,CN]at hn;generalize JH v=R at*
 cases hd:Jf 64 v with
 |true=>
  rw[hd]at c37;rw[if_pos rfl]
  simp only[go_sem,KK,Hv,zC,Tryz.f68,hlo,l1,c37]<;>rfl
 |false=>
  rw[hd]at c37;rw[if_neg (by simp)]
  simp only[go_sem,KK,Hv,zC,Tryz.f68,hlo,l1,c37,↓hn]
theorem jq(l:List CV):JM (impOf l).1<=JM l:=by
 unfold impOf
 split
 ·rename_i x y r e
  split
  ·split
   ·rename_i z s e2
    split
    ·show JM (trim s.reverse)<=_
     have h1:=Qs s.reverse;rw[Y2]at h1;have h2:JM (z::s)<=JM (y::r):=by rw[<-e2];exact Jy (AA _)
     rw[Jr]at h2;have h3:JM l=JM (x::y::r):=by rw[<-e,Y2]
     rw[Jr]at h3;omega
    ·exact Ac _
   ·exact Ac _
  ·exact Ac _
 ·exact Ac _
theorem JJi(u:List CV)(x:CV)(hu:u≠[]):impOf (u++[x])=if(x.k==1&&Js x.t.b==Kp)=true then(match u.reverse.dropWhile Jd with
  |z::s=>if(z.k==9&&z.t.b==[33])=true then(trim s.reverse,true)else(u++[x],false)
  |[]=>(u++[x],false))else(u++[x],false):=by
 unfold impOf;have e:(u++[x]).reverse=x::u.reverse:=by simp
 obtain⟨y,r,hr⟩:∃y r,u.reverse=y::r:=by
  cases hh:u.reverse with
  |nil=>exact absurd (List.reverse_eq_nil_iff.1 hh) hu
  |cons y r=>exact⟨y,r,rfl⟩
 rw[e,hr];rfl
theorem zL{u m:List CV}(h:ltrim (u++m)=u++m):ltrim u=u:=by
 cases u with
 |nil=>rfl
 |cons a u=>
  have ha:Jd a=false:=by
   cases hs:Jd a with
   |false=>rfl
   |true=>exfalso;unfold ltrim at h;rw[Ae,AD,hs,if_pos rfl]at h;have:=(AA (p:=Jd) (l:=u++m)).length_le;rw[h]at this;simp at this;omega
  unfold ltrim;rw[AD,ha];rfl
theorem JB0(l:List CV):ltrim (trim l)=trim l:=by rw[Ht,HJ,JJA]
def BtV(v:CV):Prop:=jM v.t
theorem JfV{n:List Int}{v:List CV}(hlo:lo<=h.length)(hb:∀x∈v,BtV x)(hl:v.length<=1000000000)(ht:ltrim v=v):
  ∃ex,evCode ⟨Aa,E,lo,h.length,h68⟩ JA (lft (Hv 6 zC)) ([(2,.ptr h.length 0),(4,.ptr (h.length+1) 0),(6,.list .no (JH v))],h++[KK,.cells [.v (.string (Rul.bs n)),.list .yes [],.v (.bool false)]])=
   some (.normal,(2,.ptr h.length 0)::(4,.ptr (h.length+1) 0)::(6,.list .no (JH (impOf v).1))::ex,h++[KK,.cells [.v (.string (Rul.bs n)),.list .yes [],.v (.bool (impOf v).2)]]):=by
 have l1:lo<=h.length+1:=om;have hlh:∀X:Ob,lo<=(h++[KK,X]).length:=λX=>by simp;omega
 rcases DU v with rfl|⟨u,x,rfl⟩
 ·have q:decide ((1:Int)<((0:Nat):Int))=false:=rfl
  have ei:impOf []=([],false):=rfl;rw[ei];refine⟨[(7,.v (.int .i64 0)),(64,.v (.bool false))],?_⟩
  simp only[go_sem,KK,lft,Hv,zC,Tryz.f68,hlo,l1,q,Jc,Am]
 ·simp only[LA]at*
  have hlen:(u++[x]).length=u.length+1:=by simp
  have rl:(JH (u++[x])).length=u.length+1:=by rw[JU,hlen]
  by_cases hu:u=[]
  ·subst hu
   have q:decide ((1:Int)<((0+1:Nat):Int))=false:=rfl;have ei:impOf ([]++[x])=([x],false):=rfl;rw[ei];refine⟨[(7,.v (.int .i64 1)),(64,.v (.bool false))],?_⟩
   simp only[Af,Am,AB]at rl q⊢;generalize JH [x]=R at*;simp only[go_sem,KK,lft,Hv,zC,Tryz.f68,hlo,l1,q,rl]<;>rfl
  ·have hup:0<u.length:=Cg.2 hu
   have q:decide ((1:Int)<((u.length+1:Nat):Int))=true:=by rw[decide_eq_true_iff];omega
   have w1:Ak.wrap (((u.length+1:Nat):Int)-1)=(u.length:Int):=by rw[JL om om];omega
   have hg:(JH (u++[x]))[u.length]? =some (Qy x):=by rw[KU];simp
   have htk:(JH (u++[x])).take u.length=JH u:=by rw[QX,List.take_left]
   have ra:=J7 (u++[x]);have hle:u.length<=u.length+1:=Mg _;have hbx:=hb x (by simp)
   have htu:=zL ht;have ei:=JJi u x hu;have hum:∀y∈u,BtV y:=λy hy=>hb y (by simp[hy])
   obtain⟨t,ks⟩:=x;rw[Jq]at hg;have c38:=λX=>f38 (lo:=lo) (h:=h++[KK,.cells X]) (l:=u) (hlh _) om
   generalize hR:JH (u++[CV.mk t ks])=R at*
   have ei:impOf (u++[CV.mk t ks])=if(t.k==1&&Js t.b==Kp)=true then(match u.reverse.dropWhile Jd with
     |z::s=>if(z.k==9&&z.t.b==[33])=true then(trim s.reverse,true)else(u++[CV.mk t ks],false)
     |[]=>(u++[CV.mk t ks],false))else(u++[CV.mk t ks],false):=ei
   cases hk:(t.k==1)with
   |false=>
    rw[hk,AZ,if_neg (by simp)]at ei
    rw[ei];simp only[hR];refine⟨[(7,.v (.int .i64 (u.length+1:Nat))),(64,.v (.bool false))],?_⟩
    simp only[go_sem,KK,lft,Hv,zC,Tryz.f68,hlo,l1,q,w1,rl,hg,hk]<;>rfl
   |true=>
    rw[hk,AR]at ei;have c98:=λX=>r92 (lo:=lo) (h:=h++[KK,.cells X]) (a:=t.b) (b:=Kp) (hlh _) (by have:=hbx.2;show t.b.length<=_;exact A3 this (by decide)) hbx.1 (by decide) qN
    have esi:Js Kp=Kp:=rfl;rw[esi]at c98
    cases hi:(Js t.b==Kp)with
    |false=>
     rw[hi,if_neg (by simp)]at ei
     rw[ei];simp only[hR];rw[hi]at c98;refine⟨[(7,.v (.int .i64 (u.length+1:Nat))),(64,.v (.bool false))],?_⟩
     simp only[go_sem,KK,lft,Hv,zC,Tryz.f68,hlo,l1,q,w1,rl,hg,hk,QA,c98]<;>rfl
    |true=>
     rw[hi,if_pos rfl]at ei;rw[hi]at c98;have etr:trim u=(u.reverse.dropWhile Jd).reverse:=by rw[Ht,htu];rfl
     cases hz:u.reverse.dropWhile Jd with
     |nil=>
      rw[hz]at etr;have e0:trim u=[]:=etr;rw[e0,Jc]at c38;have q0:decide ((0:Int)<((0:Nat):Int))=false:=rfl;rw[hz]at ei;simp only at ei;rw[ei];simp only[hR];refine⟨[(8,.list .no []),(9,.v (.int .i64 0)),(93,.v (.bool false))],?_⟩
      simp only[go_sem,KK,lft,Hv,zC,Tryz.f68,hlo,l1,A0,q,q0,w1,rl,hg,hk,hle,htk,ra,QA,c98,c38,Am]<;>rfl
     |cons z s=>
      rw[hz,BD]at etr
      have hzm:z∈u:=by
       have:z∈u.reverse:=(AA Jd).subset (by rw[hz];simp)
       simpa using this
      have hsl:s.length+1<=u.length:=by have:=(AA (p:=Jd) (l:=u.reverse)).length_le;rw[hz]at this;simpa using this
      have hbz:=hum z hzm;rw[etr]at c38;have rl2:(JH (s.reverse++[z])).length=s.length+1:=by rw[JU];simp
      have hg2:(JH (s.reverse++[z]))[s.length]? =some (Qy z):=by rw[KU];simp
      have htk2:(JH (s.reverse++[z])).take s.length=JH s.reverse:=by rw[QX,D6 (by simp)]
      have ra2:=J7 (s.reverse++[z]);have hle2:s.length<=s.length+1:=Mg _;have q2:decide ((0:Int)<((s.length+1:Nat):Int))=true:=by rw[decide_eq_true_iff];omega
      have w2:Ak.wrap (((s.length+1:Nat):Int)-1)=(s.length:Int):=by rw[JL om om];omega
      have c38b:=λX=>f38 (lo:=lo) (h:=h++[KK,.cells X]) (l:=s.reverse) (hlh _) (by rw[Ch];omega)
      obtain⟨tz,kz⟩:=z;rw[Jq]at hg2;generalize hR2:JH (s.reverse++[CV.mk tz kz])=R2 at*;have hbe:=WY hbz.1 JMb;have hbe:((Rul.bs tz.b).toList==(Rul.bs [33]).toList)=(tz.b==[33]):=hbe;rw[hz]at ei;have ei:impOf (u++[CV.mk t ks])=if(tz.k==9&&tz.b==[33])=true then(trim s.reverse,true)else(u++[CV.mk t ks],false):=ei
      cases hk9:(tz.k==9)with
      |false=>
       rw[hk9,AZ,if_neg (by simp)]at ei
       rw[ei];simp only[hR];refine⟨[(8,.list .no R2),(9,.v (.int .i64 (s.length+1:Nat))),(93,.v (.bool false))],?_⟩
       simp only[go_sem,KK,lft,Hv,zC,Tryz.f68,hlo,l1,A0,q,q2,w1,w2,rl,rl2,hg,hg2,hk,hk9,hle,htk,ra,QA,c98,c38]<;>rfl
      |true=>
       rw[hk9,AR]at ei
       cases hb33:(tz.b==[33])with
       |false=>
        rw[hb33]at hbe;rw[hb33,if_neg (by simp)]at ei
        rw[ei];simp only[hR];refine⟨[(8,.list .no R2),(9,.v (.int .i64 (s.length+1:Nat))),(93,.v (.bool false))],?_⟩
        simp only[go_sem,KK,lft,Hv,zC,Tryz.f68,hlo,l1,A0,q,q2,w1,w2,rl,rl2,hg,hg2,hk,hk9,hle,htk,ra,QA,JG0,hbe,c98,c38]<;>rfl
       |true=>
        rw[hb33]at hbe;rw[hb33,if_pos rfl]at ei;rw[ei];simp only;refine⟨[(7,.undef),(64,.undef)],?_⟩
        simp only[go_sem,KK,lft,Hv,zC,Tryz.f68,hlo,l1,A0,q,q2,w1,w2,rl,rl2,hg,hg2,hk,hk9,hle,hle2,htk,htk2,ra,ra2,QA,JG0,hbe,c98,c38,c38b]<;>rfl
theorem f68{x:CV}{m:List CV}(hlo:lo<=h.length)(hb:∀y∈x::m,BtV y)(hl:JM (x::m)<=1000000000):E lo 68 [.list .no (JH (x::m))] h=some (dcR (Wt (x::m)),h):=by
 have l1:lo<=h.length+1:=om;have hll:=Jk (x::m);rw[Jr]at hl;simp only[Ag]at hll;have hbx:=hb x (by simp)
 have hbm:∀y∈m,BtV y:=λy hy=>hb y (by simp[hy])
 have hml:=Jk m;have c38:=λX=>f38 (lo:=lo) (h:=h++[KK,.cells X]) (l:=m) (by simp;omega) om
 have ts:=JN5 m;obtain⟨t,ks⟩:=x;have hrl:(JH (.mk t ks::m)).length=m.length+1:=by rw[JU];rfl
 have hr0:(JH (.mk t ks::m))[0]? =some (Qy (.mk t ks)):=by rw[Kc];rfl
 have hr1:(JH (.mk t ks::m)).drop 1=JH m:=by rw[Kc];rfl
 have htk:(JH (.mk t ks::m)).take (m.length+1)=JH (.mk t ks::m):=by rw[<-hrl,Co]
 have ra:=J7 (.mk t ks::m);have h1l:1<=m.length+1:=om;rw[Jq]at hr0
 have ed:Wt (.mk t ks::m)=if(t.k !=1)=true then none else
  match ltrim m with
  |[]=>none
  |c::r=>if(c.k !=16)=true then none else if Jf 64 r=true then none else
   some ⟨nameOf t.b,(impOf (trim r)).1,(impOf (trim r)).2⟩:=by
  rw[Wt];rfl
 rw[ed]
 have ez:J1 zd=[.v (.string A6),.list .no [],.v (.bool false)]:=by have e0:Rul.bs []=A6:=rfl;simp only[J1,zd,e0,Jc]
 generalize JH (.mk t ks::m)=R at*;rw[e68]
 cases hk:(t.k !=1)with
 |true=>
  rw[if_pos rfl];simp only[dcR,ez]
  simp only[go_sem,zC,Tryz.f68,hlo,l1,hr0,hk]<;>rfl
 |false=>
  rw[if_neg (by simp)]
  cases hm:ltrim m with
  |nil=>
   rw[hm]at ts;rw[ts,Jc]at c38;have q0:(((0:Nat):Int)==0)=true:=rfl;simp only[dcR,ez];simp only[KK]at c38
   simp only[go_sem,zC,Tryz.f68,hlo,l1,hr0,hr1,hrl,htk,ra,h1l,hk,c38,q0,Am]<;>rfl
  |cons c r=>
   rw[hm]at ts;obtain⟨q,tq,tr⟩:=ts;have hcm:c∈m:=JBH (p:=Jd) (by show c∈ltrim m;rw[hm];simp)
   have hqm:∀y∈q,y∈m:=λy hy=>YK (by rw[tq];simp[hy])
   have hql:JM (c::q)<=JM m:=by rw[<-tq];exact Qs m
   rw[Jr]at hql;have hqn:=Jk q;rw[tq]at c38;have c38b:=λX=>f38 (lo:=lo) (h:=h++[KK,.cells X]) (l:=q) (by simp;omega) om
   rw[tr]at c38b;obtain⟨tc,kc⟩:=c;have hql2:(JH (.mk tc kc::q)).length=q.length+1:=by rw[JU];rfl
   have hq0:(JH (.mk tc kc::q))[0]? =some (Qy (.mk tc kc)):=by rw[Kc];rfl
   have hq1:(JH (.mk tc kc::q)).drop 1=JH q:=by rw[Kc];rfl
   have hqt:(JH (.mk tc kc::q)).take (q.length+1)=JH (.mk tc kc::q):=by rw[<-hql2,Co]
   have raq:=J7 (.mk tc kc::q);have q1l:1<=q.length+1:=om;have q0:(((q.length+1:Nat):Int)==0)=false:=by rw[beq_eq_false_iff_ne];omega
   rw[Jq]at hq0;generalize JH (.mk tc kc::q)=Q at*;simp only;show _=some (dcR (if(tc.k !=16)=true then none else _),h)
   cases hc16:(tc.k !=16)with
   |true=>
    rw[if_pos rfl];simp only[dcR,ez];simp only[KK]at c38
    simp only[go_sem,zC,Tryz.f68,hlo,l1,hr0,hr1,hrl,htk,ra,h1l,hk,c38,q0,hql2,hq0,hc16]<;>rfl
   |false=>
    rw[if_neg (by simp)]
    have hvb:∀y∈trim r,BtV y:=λy hy=>by rw[<-tr]at hy;exact hbm y (hqm y (YK hy))
    have hvn:JM (trim r)<=JM q:=by rw[<-tr];exact Qs q
    have hvl:=Jk (trim r);obtain⟨ex,hI⟩:=JfV (lo:=lo) (h:=h) (n:=t.b) (v:=trim r) hlo hvb om (JB0 r);have hT:=JZY (lo:=lo) (h:=h) (n:=t.b) (v:=(impOf (trim r)).1) (i:=(impOf (trim r)).2) (ex:=ex) hlo hbx.1 hbx.2 (by have:=jq (trim r);omega)
    rw[JQW,JDa]at hT;simp only[lft,Hv,zC,Tryz.f68,JC,CN,KK]at hI hT;simp only[KK]at c38 c38b
    cases hdp:Jf 64 r with
    |true=>
     rw[hdp,if_pos rfl]at hT;rw[if_pos rfl];simp only[dcR,ez]
     simp only[go_sem,zC,Tryz.f68,hlo,l1,hr0,hr1,hrl,htk,ra,h1l,hk,c38,q0,hql2,hq0,hq1,hqt,raq,q1l,hc16,c38b,↓hI,↓hT]<;>rfl
    |false=>
     rw[hdp,if_neg (by simp)]at hT
     rw[if_neg (by simp)]
     simp only[dcR,J1];generalize JH (impOf (trim r)).1=W at*;simp only[go_sem,zC,Tryz.f68,hlo,l1,hr0,hr1,hrl,htk,ra,h1l,hk,c38,q0,hql2,hq0,hq1,hqt,raq,q1l,hc16,c38b,↓hI,↓hT]<;>rfl
theorem TX.look{H:Heap}{l:List Tk4}{E' D:List Nat}{t:Nat}(h:TX H l E' D t):∃e d,(∀Q:Heap,(H++Q)[e]? =some (.cells (nt E')))/\(∀Q:Heap,(H++Q)[d]? =some (.cells (nt D)))/\ ∀Q:Heap,(H++Q)[t]? =some (.cells [.list .no (l.map row),.stk e l.length 1,.stk d l.length 1]):=by
 obtain⟨e,d,h1,h2,h3⟩:=h
 have k:∀{i:Nat} {x:Ob},H[i]? =some x->∀Q:Heap,(H++Q)[i]? =some x:=λhx Q=>by rw[List.getElem?_append_left (Ab.1 hx).1];exact hx
 exact⟨e,d,k h1,k h2,k h3⟩
theorem JZZ{n:List Int}{t a q:Nat}(hlo:lo<=h.length)(hy:By n)(hl:n.length<=1000000000):
  ∃b,evCode ⟨Aa,E,lo,h.length,h48⟩ JA (lft (Hv 2 qg)) ([(0,.ptr t 0),(1,.v (.int .i64 a)),(2,.v (.int .i64 q)),(6,.ptr h.length 0),(8,.ptr (h.length+1) 0)],h++[KK,.cells [.v (.string (Rul.bs n)),.list .yes [],.v (.bool false)]])=
   some (.normal,[(0,.ptr t 0),(1,.v (.int .i64 a)),(2,.v (.int .i64 q)),(6,.ptr h.length 0),(8,.ptr (h.length+1) 0),(26,.v (.bool b))],h++[KK,.cells [.v (.string (Rul.bs (nameOf n))),.list .yes [],.v (.bool false)]]):=by
 have l1:lo<=h.length+1:=om;have c97:=JmX (lo:=lo) (h:=h++[KK,.cells [.v (.string (Rul.bs n)),.list .yes [],.v (.bool false)]]) hy hl;have c27:=f27 (lo:=lo) (h:=h++[KK,.cells [.v (.string (Rul.bs n)),.list .yes [],.v (.bool false)]]) (l:=n) (by simp;omega) om hy
 have c27:E lo 27 [.v (.string (Rul.bs n))] (h++[KK,.cells [.v (.string (Rul.bs n)),.list .yes [],.v (.bool false)]])=some (.v (.string (Rul.bs (Js n))),h++[KK,.cells [.v (.string (Rul.bs n)),.list .yes [],.v (.bool false)]]):=c27;unfold nameOf;simp only[KK]at c97 c27
 cases hp:[45,45].isPrefixOf n with
 |true=>
  rw[hp]at c97;rw[if_pos rfl];refine⟨false,?_⟩
  simp only[go_sem,KK,lft,Hv,qg,Tryz.f48,hlo,l1,JJd,c97]<;>rfl
 |false=>
  rw[hp]at c97;rw[if_neg (by simp)]
  refine⟨true,?_⟩
  simp only[go_sem,KK,lft,Hv,qg,Tryz.f48,hlo,l1,JJd,c97,c27]<;>rfl
abbrev N76(h:Heap)(t q a:Nat):Ja:=[(0,.ptr t 0),(2,.v (.int .i64 q)),(6,.ptr h.length 0),(8,.ptr (h.length+1) 0),(9,.v (.int .i64 a))]
theorem JRZ{l:List Tk4}{E' D:List Nat}{t q a:Nat}{x:Tk4}{X Y:Ob}(hT:TX h l E' D t)(hlo:lo<=h.length)(hl:l.length<=1000000000)(hg:l[a]? =some x)(haq:a<q):
  evCode ⟨Aa,E,lo,h.length,h48⟩ JA JBS (N76 h t q a,h++[X,Y])=
   if(x.k==13)=true then some (.normal,N76 h t q (a+1),h++[X,Y])else some (.exit 0,N76 h t q a++[(46,.v (.bool false))],h++[X,Y]):=by
 obtain⟨e,d,h1,h2,h3⟩:=hT.look;have hgr:(l.map row)[a]? =some (row x):=by rw[Ao,hg];rfl
 have ha:a<l.length:=(Ab.1 hg).1
 have q1:decide ((a:Int)<(q:Int))=true:=by simpa using haq
 have hw:=JD (i:=a) om;simp only[row]at hgr
 cases hk:(x.k==13)with
 |true=>
  rw[if_pos rfl]
  simp only[N76,go_sem,JBS,qg,Tryz.f48,hlo,h3,hgr,q1,hk,hw]<;>rfl
 |false=>
  rw[if_neg (by simp)]
  simp only[N76,go_sem,JBS,qg,Tryz.f48,hlo,h3,hgr,q1,hk,hw]<;>rfl
theorem JUj{t q:Nat}{X Y:Ob}(hlo:lo<=h.length):evCode ⟨Aa,E,lo,h.length,h48⟩ JA JBS (N76 h t q q,h++[X,Y])=some (.exit 0,N76 h t q q++[(46,.v (.bool false))],h++[X,Y]):=by
 have q1:decide ((q:Int)<(q:Int))=false:=by simp
 simp only[N76,go_sem,JBS,qg,Tryz.f48,hlo,q1]<;>rfl
def spT(v:PV):Bool:=v.t.k==13
theorem JZa{x:Option Int}{b:Bool}{v:PV}(hg:QJ x b v)(h:spT v=true):(Jl v).length=1:=by
 cases v with
 |leaf t=>rw[Jl];rfl
 |node t ks c=>
  have hk:t.k=13:=by simpa[spT,PV.t]using h
  have hc:JN t.k≠0:=by
   cases c with
   |none=>exact(J9.1 hg).1
   |some e=>exact(KG.1 hg).1
  rw[hk]at hc;exact absurd rfl hc
theorem JMh{l:List Tk4}{E' D:List Nat}{t q:Nat}{X Y:Ob}(hT:TX h l E' D t)(hlo:lo<=h.length)(hl:l.length<=1000000000):∀(G:List PV) (a:Nat),LaidAt l E' D a q G->
  JA (evCode ⟨Aa,E,lo,h.length,h48⟩ JA JBS) (N76 h t q a,h++[X,Y])=some (.exit 0,N76 h t q (a+(toksL (G.takeWhile spT)).length)++[(46,.v (.bool false))],h++[X,Y])
 |[],a,hA=>by
  obtain rfl:=hA.nil;rw[JB,JUj hlo,KP,Db,toksL]
  rfl
 |v::r,a,hA=>by
  rw[JB,JRZ hT hlo hl hA.head hA.lt,BK];obtain⟨y,b,hg⟩:=hA.good;have hgv:=(Ju.1 hg).1
  cases hs:spT v with
  |true=>
   have hs':(v.t.k==13)=true:=hs;have h1:=JZa hgv hs;have hA2:=hA.tail;rw[h1]at hA2
   rw[hs',if_pos rfl,JK,JMh hT hlo hl r _ hA2,if_pos rfl,QZ,An,h1,Nat.add_assoc]
  |false=>
   have hs':(v.t.k==13)=false:=hs;rw[hs',if_neg (by simp),KP,if_neg (by simp),toksL]
   rfl
abbrev M76(h:Heap)(k:Nat):Ja:=[(6,.ptr h.length 0),(8,.ptr (h.length+1) 0),(13,.v (.int .i64 k))]
abbrev D76(n:List Int)(R:List (List V))(i:Bool):Ob:= .cells [.v (.string (Rul.bs n)),.list .no R,.v (.bool i)]
theorem JRc{n:List Int}{v:List CV}{y:CV}{k:Nat}(hlo:lo<=h.length)(hl:v.length<=1000000000)(hg:v[k+1]? =some y):
  evCode ⟨Aa,E,lo,h.length,h48⟩ JA JBT (M76 h (k+1),h++[KK,D76 n (JH v) false])=
   if Jd y=true then some (.normal,M76 h k,h++[KK,D76 n (JH v) false])else some (.exit 2,M76 h (k+1)++[(119,.v (.bool false))],h++[KK,D76 n (JH v) false]):=by
 have hlt:k+1<v.length:=(Ab.1 hg).1
 have hgr:(JH v)[k+1]? =some (Qy y):=by rw[KU,hg];rfl
 have c82:=f82 (lo:=lo) (h:=h++[KK,D76 n (JH v) false]) (by simp;omega) y
 have q1:decide ((0:Int)<((k+1:Nat):Int))=true:=by rw[decide_eq_true_iff];omega
 have w1:Ak.wrap (((k+1:Nat):Int)-1)=(k:Int):=by rw[JL om om];omega
 obtain⟨t,ks⟩:=y;rw[Jq]at hgr c82;simp only[D76,KK]at c82⊢;generalize JH v=R at*
 cases hs:Jd (.mk t ks)with
 |true=>
  rw[hs]at c82;rw[if_pos rfl]
  simp only[M76,go_sem,JBT,qg,Tryz.f48,hlo,hgr,q1,w1,c82]<;>rfl
 |false=>
  rw[hs]at c82;rw[if_neg (by simp)]
  simp only[M76,go_sem,JBT,qg,Tryz.f48,hlo,hgr,q1,w1,c82]<;>rfl
theorem JUk{X Y:Ob}(hlo:lo<=h.length):evCode ⟨Aa,E,lo,h.length,h48⟩ JA JBT (M76 h 0,h++[X,Y])=some (.exit 2,M76 h 0++[(119,.v (.bool false))],h++[X,Y]):=by have q1:decide ((0:Int)<((0:Nat):Int))=false:=rfl;simp only[M76,go_sem,JBT,qg,Tryz.f48,hlo,q1]<;>rfl
theorem JMi{n:List Int}{v:List CV}(hlo:lo<=h.length)(hl:v.length<=1000000000){a:CV}(ha:v[0]? =some a)(hs:Jd a=false):∀k,k<v.length->∃z s,(v.take (k+1)).reverse.dropWhile Jd=z::s/\
  JA (evCode ⟨Aa,E,lo,h.length,h48⟩ JA JBT) (M76 h k,h++[KK,D76 n (JH v) false])=some (.exit 2,M76 h s.length++[(119,.v (.bool false))],h++[KK,D76 n (JH v) false])
 |0,hk=>by
  have e:v.take 1=[a]:=by
   cases v with
   |nil=>simp at ha
   |cons x r=>simp at ha;subst ha;rfl
  refine⟨a,[],?_,?_⟩
  ·rw[e,Lt,AD,hs];rfl
  ·rw[JB,JUk hlo,KP];rfl
 |k+1,hk=>by
  have hg:v[k+1]? =some v[k+1]:=Ad hk
  have et:v.take (k+1+1)=v.take (k+1)++[v[k+1]]:=List.take_succ_eq_append_getElem hk;have hr:=JRc (n:=n) hlo hl hg;rw[et,CL,Lt,List.singleton_append,AD]
  cases hy:Jd v[k+1]with
  |true=>
   rw[hy,if_pos rfl]at hr;obtain⟨z,s,h1,h2⟩:=JMi (n:=n) hlo hl ha hs k om;refine⟨z,s,?_,?_⟩
   ·rw[if_pos rfl];exact h1
   ·rw[JB,hr,JK,h2]
  |false=>
   rw[hy,if_neg (by simp)]at hr
   refine⟨v[k+1],(v.take (k+1)).reverse,?_,?_⟩
   ·rw[if_neg (by simp)]
   ·have hlen:(v.take (k+1)).reverse.length=k+1:=by rw[Ch,List.length_take];omega
    rw[hlen,JB,hr,KP]
theorem JfW{n:List Int}{v:List CV}(hlo:lo<=h.length)(hb:∀x∈v,BtV x)(hl:v.length<=1000000000)(ht:ltrim v=v):
  ∃ex,evCode ⟨Aa,E,lo,h.length,h48⟩ JA (lft (Hv 8 qg)) ([(6,.ptr h.length 0),(8,.ptr (h.length+1) 0)],h++[KK,D76 n (JH v) false])=
   some (.normal,(6,.ptr h.length 0)::(8,.ptr (h.length+1) 0)::ex,h++[KK,D76 n (JH (impOf v).1) (impOf v).2]):=by
 have l1:lo<=h.length+1:=om;have hlh:∀X:Ob,lo<=(h++[KK,X]).length:=λX=>by simp;omega
 rcases DU v with rfl|⟨u,x,rfl⟩
 ·have w0:Ak.wrap (((0:Nat):Int)-1)= -1:=by rw[JL om om];rfl
  have q:decide ((1:Int)<= -1)=false:=rfl;have ei:impOf []=([],false):=rfl;rw[ei];refine⟨[(12,.v (.int .i64 (-1))),(107,.v (.bool false))],?_⟩
  have w00:Ak.wrap ((0:Int)-1)= -1:=w0;simp only[go_sem,KK,D76,lft,Hv,qg,Tryz.f48,hlo,l1,w0,w00,q,Jc,Am]<;>rfl
 ·simp only[LA]at*
  have hlen:(u++[x]).length=u.length+1:=by simp
  have rl:(JH (u++[x])).length=u.length+1:=by rw[JU,hlen]
  have w1:Ak.wrap (((u.length+1:Nat):Int)-1)=(u.length:Int):=by rw[JL om om];omega
  by_cases hu:u=[]
  ·subst hu
   have q:decide ((1:Int)<=((0:Nat):Int))=false:=rfl;have ei:impOf ([]++[x])=([x],false):=rfl;rw[ei];simp only[Af,Am,AB]at rl w1⊢;refine⟨[(12,.v (.int .i64 ((0:Nat):Int))),(107,.v (.bool false))],?_⟩
   generalize JH [x]=R at*;have n0:((0:Nat):Int)=0:=rfl;simp only[go_sem,KK,D76,lft,Hv,qg,Tryz.f48,hlo,l1,w1,q,rl]<;>rfl
  ·have hup:0<u.length:=Cg.2 hu
   have q:decide ((1:Int)<=(u.length:Int))=true:=by rw[decide_eq_true_iff];omega
   have hg:(JH (u++[x]))[u.length]? =some (Qy x):=by rw[KU];simp
   have ra:=J7 (u++[x]);have hbx:=hb x (by simp)
   have htu:=zL ht;have ei:=JJi u x hu;have hum:∀y∈u,BtV y:=λy hy=>hb y (by simp[hy])
   have w2:Ak.wrap ((u.length:Int)-1)=((u.length-1:Nat):Int):=by rw[JL om om];omega
   obtain⟨a,ha,hsa⟩:∃a,(u++[x])[0]? =some a/\Jd a=false:=by
    cases hu':u with
    |nil=>exact absurd hu' hu
    |cons a r=>
     refine⟨a,rfl,?_⟩
     rw[hu']at htu
     cases hs:Jd a with
     |false=>rfl
     |true=>exfalso;unfold ltrim at htu;rw[AD,hs,if_pos rfl]at htu;have:=(AA (p:=Jd) (l:=r)).length_le;rw[htu]at this;simp at this;omega
   obtain⟨z,s,hz,hL⟩:=JMi (lo:=lo) (h:=h) (n:=n) (v:=u++[x]) hlo hl ha hsa (u.length-1) (by rw[hlen];omega)
   have etk:(u++[x]).take (u.length-1+1)=u:=D6 om;rw[etk]at hz
   have hzm:z∈u:=by
    have:z∈u.reverse:=(AA Jd).subset (by rw[hz];simp)
    simpa using this
   have hbz:=hum z hzm
   obtain⟨p,hp⟩:∃p,u.reverse=p++z::s:=by have:=AA (p:=Jd) (l:=u.reverse);rw[hz]at this;obtain⟨p,hp⟩:=this;exact⟨p,hp.symm⟩
   have eu:u=s.reverse++(z::p.reverse):=by have:=congrArg List.reverse hp;rw[List.reverse_reverse,CL,BD]at this;rw[this];simp
   have hsl:s.length<=u.length:=by rw[eu];simp
   have hg2:(JH (u++[x]))[s.length]? =some (Qy z):=by
    rw[KU,eu]
    have:(s.reverse++z::p.reverse++[x])[s.length]? =some z:=by
     rw[Aw,List.getElem?_append_right (by simp)]
     simp
    rw[this];rfl
   have htk2:(JH (u++[x])).take s.length=JH s.reverse:=by rw[QX,eu,Aw,D6 (by simp)]
   have hsl2:s.length<=u.length+1:=om;have hL2:=hL;simp only[JBT,qg,Tryz.f48,JG,JT,JC,go_sem,M76,D76,KK,Ae,Af]at hL2;have c46:=λX=>f46 (lo:=lo) (h:=h++[KK,.cells X]) (l:=s.reverse) (hlh _) (by rw[Ch];rw[hlen]at hl;omega)
   obtain⟨t,ks⟩:=x;obtain⟨tz,kz⟩:=z;rw[Jq]at hg hg2;have hbe:=WY hbz.1 JMb;have hbe:((Rul.bs tz.b).toList==(Rul.bs [33]).toList)=(tz.b==[33]):=hbe;have hbi:=WY (Y1 hbx.1) qN;have hbi:((Rul.bs (Js t.b)).toList==(Rul.bs Kp).toList)=(Js t.b==Kp):=hbi;have c27:=λX=>f27 (lo:=lo) (h:=h++[KK,.cells X]) (l:=t.b) (hlh _) (by have:=hbx.2;show t.b.length<=_;exact A3 this (by decide)) hbx.1
   have c27:∀X,E lo 27 [.v (.string (Rul.bs t.b))] (h++[KK,.cells X])=some (.v (.string (Rul.bs (Js t.b))),h++[KK,.cells X]):=c27
   have ei:impOf (u++[CV.mk t ks])=if(t.k==1&&Js t.b==Kp)=true then(match u.reverse.dropWhile Jd with
     |z::s=>if(z.k==9&&z.t.b==[33])=true then(trim s.reverse,true)else(u++[CV.mk t ks],false)
     |[]=>(u++[CV.mk t ks],false))else(u++[CV.mk t ks],false):=ei
   rw[hz]at ei;have ei:impOf (u++[CV.mk t ks])=if(t.k==1&&Js t.b==Kp)=true then(if(tz.k==9&&tz.b==[33])=true then(trim s.reverse,true)else(u++[CV.mk t ks],false))else(u++[CV.mk t ks],false):=ei
   simp only[KK]at c46 c27;generalize hR:JH (u++[CV.mk t ks])=R at*
   cases hk:(t.k==1)with
   |false=>
    rw[hk,AZ,if_neg (by simp)]at ei
    rw[ei];simp only[hR];refine⟨[(12,.v (.int .i64 u.length)),(107,.v (.bool false))],?_⟩
    simp only[go_sem,KK,D76,lft,Hv,qg,Tryz.f48,hlo,l1,q,w1,rl,hg,hk]<;>rfl
   |true=>
    rw[hk,AR]at ei
    cases hi:(Js t.b==Kp)with
    |false=>
     rw[hi]at hbi;rw[hi,if_neg (by simp)]at ei
     rw[ei];simp only[hR];refine⟨[(12,.v (.int .i64 u.length)),(107,.v (.bool false))],?_⟩
     simp only[go_sem,KK,D76,lft,Hv,qg,Tryz.f48,hlo,l1,q,w1,rl,hg,hk,QA,c27,hbi]<;>rfl
    |true=>
     rw[hi]at hbi;rw[hi,if_pos rfl]at ei
     cases hk9:(tz.k==9)with
     |false=>
      rw[hk9,AZ,if_neg (by simp)]at ei
      rw[ei];simp only[hR];refine⟨[(13,.v (.int .i64 s.length)),(139,.v (.bool false))],?_⟩
      simp only[go_sem,KK,D76,lft,Hv,qg,Tryz.f48,hlo,l1,q,w1,w2,rl,hg,hg2,hk,hk9,QA,c27,hbi,hL2]<;>rfl
     |true=>
      rw[hk9,AR]at ei
      cases hb33:(tz.b==[33])with
      |false=>
       rw[hb33]at hbe;rw[hb33,if_neg (by simp)]at ei
       rw[ei];simp only[hR];refine⟨[(13,.v (.int .i64 s.length)),(139,.v (.bool false))],?_⟩
       simp only[go_sem,KK,D76,lft,Hv,qg,Tryz.f48,hlo,l1,q,w1,w2,rl,hg,hg2,hk,hk9,QA,JG0,hbe,c27,hbi,hL2]<;>rfl
      |true=>
       rw[hb33]at hbe;rw[hb33,if_pos rfl]at ei;rw[ei];simp only;refine⟨[(12,.undef),(107,.undef)],?_⟩
       simp only[go_sem,KK,D76,lft,Hv,qg,Tryz.f48,hlo,l1,q,w1,w2,rl,hg,hg2,hk,hk9,QA,JG0,hbe,c27,hbi,hL2,htk2,ra,hsl2,A0,c46]<;>rfl
theorem JZb(v:PV):spT v=Jd (cvV v):=by unfold spT Jd;rw[HG]
theorem ZW(G:List PV):Jh G=G.map cvV:=by
 induction G with
 |nil=>rw[Jh];rfl
 |cons v r ih=>rw[Jh,ih];rfl
theorem Z9(f:PV->Bool)(g:CV->Bool)(hfg:∀v,f v=g (cvV v)):∀G:List PV,Jh (G.dropWhile f)=(Jh G).dropWhile g
 |[]=>by rw[List.dropWhile_nil,Jh];rfl
 |v::r=>by
  rw[Jh,AD,AD,<-hfg]
  split
  ·exact Z9 f g hfg r
  ·rw[Jh]
theorem GA(f:PV->Bool)(g:CV->Bool)(hfg:∀v,f v=g (cvV v)):∀G:List PV,Jh (G.takeWhile f)=(Jh G).takeWhile g
 |[]=>by rw[Db,Jh];rfl
 |v::r=>by
  rw[Jh,BK,BK,<-hfg]
  split
  ·rw[Jh,GA f g hfg r]
  ·rw[Jh]
theorem JOR:JX []=λ_=>true:=by funext v;rfl
theorem JH8{α:Type}(l:List α):l.takeWhile (λ_=>true)=l:=by
 induction l with
 |nil=>rfl
 |cons a l ih=>rw[BK,if_pos rfl,ih]
theorem f48{l:List Tk4}{E' D:List Nat}{t p q:Nat}{v:PV}{F:List PV}(hT:TX h l E' D t)(hlo:lo<=h.length)(hE:E'.length=l.length)(hD:D.length=l.length)(hl:l.length<=1000000000)(hb:∀p,E'.getD p 0<=l.length)(hA:LaidAt l E' D p q (v::F))(hk:v.t.k=1)(hB:∀y∈Jh (v::F),BtV y)(hn:JM (Jh (v::F))<=1000000000):
  E lo 48 [.ptr t 0,.v (.int .i64 p),.v (.int .i64 q)] h=some (dcR (Wt (Jh (v::F))),h):=by
 have l1:lo<=h.length+1:=om;have hhd:=hA.head;have hp:p<l.length:=(Ab.1 hhd).1
 have hA1:=hA.tail;obtain⟨x0,b0,hg0⟩:=hA.good;have hgv:=(Ju.1 hg0).1
 have hone:(Jl v).length=1:=by
  cases v with
  |leaf t=>rw[Jl];rfl
  |node t ks c=>
   have hk':t.k=1:=hk
   have hc:JN t.k≠0:=by
    cases c with
    |none=>exact(J9.1 hgv).1
    |some e=>exact(KG.1 hgv).1
   rw[hk']at hc;exact absurd rfl hc
 rw[hone]at hA1;rw[Jh,Jr]at hn;rw[Jh]at hB⊢;have hBv:jM v.t:=by have:=hB (cvV v) (by simp);unfold BtV at this;rw[JQT]at this;exact this
 have hBF:∀y∈Jh F,BtV y:=λy hy=>hB y (by simp[hy])
 have hgr:(l.map row)[p]? =some (row v.t):=by rw[Ao,hhd];rfl
 have hw:=JD (i:=p) om;obtain⟨e,d,t1,t2,t3⟩:=hT.look;have t30:=t3 [];rw[Aq]at t30;obtain⟨bn,hN⟩:=JZZ (lo:=lo) (h:=h) (n:=v.t.b) (t:=t) (a:=p) (q:=q) hlo hBv.1 hBv.2;have hL:=JMh (X:=KK) (Y:= .cells [.v (.string (Rul.bs (nameOf v.t.b))),.list .yes [],.v (.bool false)]) hT hlo hl F (p+1) hA1;have hC:=hA1.cut spT;have hdF:Jh (F.dropWhile spT)=ltrim (Jh F):=Z9 spT Jd JZb F
 generalize p+1+(toksL (F.takeWhile spT)).length=a at*;generalize F.dropWhile spT=G at*
 have ed:Wt (cvV v::Jh F)=match Jh G with
  |[]=>none
  |c::r=>if(c.k !=16)=true then none else if Jf 64 r=true then none else
   some ⟨nameOf v.t.b,(impOf (trim r)).1,(impOf (trim r)).2⟩:=by
  rw[hdF,Wt];have e1:((cvV v).k !=1)=false:=by rw[HG,hk];rfl
  rw[e1,if_neg (by simp),JQT]
  rfl
 rw[ed]
 have ez:J1 zd=[.v (.string A6),.list .no [],.v (.bool false)]:=by have e0:Rul.bs []=A6:=rfl;simp only[J1,zd,e0,Jc]
 have haq:a<=q:=by have:=hC.len;omega
 have hql:=hC.le;simp only[row]at hgr;rw[e48];simp only[lft,Hv,qg,Tryz.f48,JC,CN,KK]at hN;simp only[JBS,qg,Tryz.f48,JG,JT,JC,go_sem,N76,KK,Ae,Af]at hL
 cases G with
 |nil=>
  obtain rfl:=hC.nil;have q1:decide ((a:Int)<=(a:Int))=true:=by simp
  rw[Jh];simp only[dcR,ez]
  simp only[go_sem,qg,Tryz.f48,hlo,l1,t3,t30,hgr,↓hN,hw,hL,q1]<;>rfl
 |cons c R=>
  have hlt:=hC.lt;have q1:decide ((q:Int)<=(a:Int))=false:=by rw[decide_eq_false_iff_not];omega
  have hcr:(l.map row)[a]? =some (row c.t):=by rw[Ao,hC.head];rfl
  have hwa:=JD (i:=a) om;simp only[row]at hcr;rw[Jh];simp only[HG]
  cases hc16:(c.t.k !=16)with
  |true=>
   rw[if_pos rfl];simp only[dcR,ez]
   simp only[go_sem,qg,Tryz.f48,hlo,l1,t3,t30,hgr,↓hN,hw,hL,q1,hcr,hc16]<;>rfl
  |false=>
   rw[if_neg (by simp)]
   have hck:c.t.k=16:=by simpa using hc16
   obtain⟨x1,b1,hg1⟩:=hC.good;have hcv:=(Ju.1 hg1).1
   have hcone:(Jl c).length=1:=by
    cases c with
    |leaf t=>rw[Jl];rfl
    |node t ks c'=>
     have hk':t.k=16:=hck
     have hcc:JN t.k≠0:=by
      cases c' with
      |none=>exact(J9.1 hcv).1
      |some e=>exact(KG.1 hcv).1
     rw[hk']at hcc;exact absurd rfl hcc
   have hA2:=hC.tail;rw[hcone]at hA2;have hTQ:∀X:List V,TX (h++[KK,.cells X]) l E' D t:=λX=>hT.app _
   have hlh:∀X:List V,lo<=(h++[KK,Ob.cells X]).length:=λX=>by simp;omega
   have c26:=λX=>f26 (ks:=[]) (hTQ X) (hlh X) (by simp) hE hD hl hb hA2
   have c29:=λX=>f29 (hTQ X) (hlh X) hl hA2
   rw[JOR,JH8]at c26;rw[hA2.len]at c26;have rn:ri .i64 []=[]:=rfl;rw[rn]at c26
   have hRsub:∀y∈Jh R,y∈Jh F:=λy hy=>by
    have:y∈ltrim (Jh F):=by rw[<-hdF,Jh];simp[hy]
    exact JBH this
   have hRn:JM (Jh R)<=JM (Jh F):=by have h1:JM (ltrim (Jh F))<=JM (Jh F):=Jy (AA _);rw[<-hdF,Jh,Jr]at h1;omega
   generalize Jh R=r at*;simp only[KK]at c26 c29
   cases hdp:Jf 64 r with
   |true=>
    rw[hdp]at c26;rw[if_pos rfl];simp only[dcR,ez]
    simp only[go_sem,qg,Tryz.f48,hlo,l1,t3,t30,hgr,↓hN,hw,hL,q1,hcr,hc16,hwa,c26,Bm]<;>rfl
   |false=>
    rw[hdp]at c26;rw[if_neg (by simp)]
    have hvb:∀y∈trim r,BtV y:=λy hy=>hBF y (hRsub y (YK hy))
    have hvn:=Qs r;have hvl:=Jk (trim r);obtain⟨ex,hI⟩:=JfW (lo:=lo) (h:=h) (n:=nameOf v.t.b) (v:=trim r) hlo hvb om (JB0 r);have c85:=λX=>f85 _ (impOf (trim r)).1 (jq (trim r)) om lo (h++[KK,.cells X]) (hlh X)
    simp only[lft,Hv,qg,Tryz.f48,JC,CN,KK,D76]at hI;simp only[KK]at c85;simp only[dcR,J1];generalize JH (impOf (trim r)).1=W at*;generalize JH (trim r)=W0 at*;simp only[go_sem,qg,Tryz.f48,hlo,l1,t3,t30,hgr,↓hN,hw,hL,q1,hcr,hc16,hwa,c26,c29,Bh,↓hI,c85]<;>rfl
abbrev N50(l:List CV)(out:List Dc)(i:Nat):Ja:=[(0,.list .no (JH l)),(3,.list .yes (out.map J1)),(4,.v (.int .i64 i))]
theorem JRd{n:Nat}(h:n<=1000000000):(n+1)*48<=140737488355328:=om
theorem jr{α:Type}(l:List α)(i:Nat)(f:α->Bool):(l.take (i+((l.drop i).takeWhile f).length)).drop i=(l.drop i).takeWhile f:=by rw[List.drop_take,Nat.add_sub_cancel_left];exact(List.prefix_iff_eq_take.1 (Bj f)).symm
theorem Ge{α:Type}(l:List α)(i:Nat)(f:α->Bool):l.drop (i+((l.drop i).takeWhile f).length)=(l.drop i).dropWhile f:=by
 rw[<-AC];have h:(l.drop i).takeWhile f++(l.drop i).dropWhile f=l.drop i:=List.takeWhile_append_dropWhile;generalize l.drop i=m at*
 conv=>lhs;rw[<-h]
 rw[List.drop_left'];rw[h]
theorem JUl{l:List CV}{out:List Dc}{i:Nat}{v:CV}{r:List CV}{X:Heap}(hlo:lo<=h.length)(hl:JM l<=1000000000)(ho:out.length<=1000000000)(hd:l.drop i=v::r)(hB:∀y∈l,BtV y):
  ∃X',evCode ⟨Aa,E,lo,h.length,h39⟩ JA jG (N50 l out i,h++X)=some (.normal,
   (
    if(v.k==13||v.k==17)=true then N50 l out (i+1)
    else if(v.k==3)=true then N50 l out (i+((v::r).takeWhile (KA 17 23)).length+1)
    else N50 l (out++(Wt ((v::r).takeWhile (KA 17 17))).toList) (i+((v::r).takeWhile (KA 17 17)).length)),h++X'):=by
 have hll:=Jk l
 have hlt:i<l.length:=by
  rcases Nat.lt_or_ge i l.length with hi|hi
  ·exact hi
  ·rw[A4 hi]at hd;cases hd
 have hg:l[i]? =some v:=by
  have:=Bb (xs:=l) (i:=i) (j:=0)
  rw[hd]at this;simpa using this.symm
 have hgr:(JH l)[i]? =some (Qy v):=by rw[KU,hg];rfl
 have q:decide ((i:Int)<(l.length:Int))=true:=by simpa using hlt
 have hw:=JD (i:=i) om;have rl:=JU l
 have htw:∀f,((l.drop i).takeWhile f).length<=l.length:=λf=>by have:=(Bj f (l:=l.drop i)).length_le;rw[Ay]at this;omega
 have c35:=λa b=>f35 (lo:=lo) (h:=h) (l:=l) (i:=i) (a:=a) (b:=b) hlo om om
 by_cases h1:(v.k==13)=true
 ·rw[if_pos (by rw[h1];rfl)]
  refine⟨[],?_⟩
  obtain⟨t,ks⟩:=v;have h1:(t.k==13)=true:=h1;rw[Jq]at hgr;simp only[N50];generalize JH l=R at*;simp only[N50,go_sem,jG,b39,Tryz.f39,hlo,q,hgr,hw,rl,h1,Aq]<;>rfl
 have h1:(v.k==13)=false:=by simpa using h1
 by_cases h2:(v.k==17)=true
 ·rw[if_pos (by rw[h2];simp)]
  refine⟨[],?_⟩
  obtain⟨t,ks⟩:=v;have h1:(t.k==13)=false:=h1;have h2:(t.k==17)=true:=h2;rw[Jq]at hgr;simp only[N50];generalize JH l=R at*;simp only[N50,go_sem,jG,b39,Tryz.f39,hlo,q,hgr,hw,rl,h1,h2,Aq]<;>rfl
 have h2:(v.k==17)=false:=by simpa using h2
 rw[if_neg (by rw[h1,h2];simp)]
 by_cases h3:(v.k==3)=true
 ·rw[if_pos h3]
  refine⟨[],?_⟩
  have c:=c35 17 23;have hx:=htw (KA 17 23);rw[hd]at c hx;have hw2:Ak.wrap (((i+((v::r).takeWhile (KA 17 23)).length:Nat):Int)+1)=((i+((v::r).takeWhile (KA 17 23)).length+1:Nat):Int):=JD om;generalize ((v::r).takeWhile (KA 17 23)).length=n at*;obtain⟨t,ks⟩:=v;have h1:(t.k==13)=false:=h1;have h2:(t.k==17)=false:=h2;have h3:(t.k==3)=true:=h3
  rw[Jq]at hgr;simp only[N50];generalize JH l=R at*;simp only[N50,go_sem,jG,b39,Tryz.f39,hlo,q,hgr,hw2,rl,h1,h2,h3,c,Aq]<;>rfl
 have h3:(v.k==3)=false:=by simpa using h3
 rw[if_neg (by rw[h3];simp)]
 have c:=c35 17 17;have hx:=htw (KA 17 17);have hsl:=jr l i (KA 17 17);rw[hd]at c hx hsl;have hnv:KA 17 17 v=true:=by unfold KA;simp[bne,h2]
 have etw:(v::r).takeWhile (KA 17 17)=v::r.takeWhile (KA 17 17):=by rw[BK,if_pos hnv]
 have hsub:∀y∈(v::r).takeWhile (KA 17 17),y∈l:=λy hy=>by have:=(Bj _).subset hy;rw[<-hd]at this;exact BH this
 have hnn:JM ((v::r).takeWhile (KA 17 17))<=JM l:=by
  refine A3 (QH (Bj _)) ?_
  rw[<-hd];exact Jy (Mt _ _)
 have c68:=f68 (lo:=lo) (h:=h) (x:=v) (m:=r.takeWhile (KA 17 17)) hlo (λy hy=>hB y (hsub y (by rw[etw];exact hy))) (by rw[<-etw];omega)
 rw[<-etw]at c68;have hle1:i<=i+((v::r).takeWhile (KA 17 17)).length:=om
 have hle2:i+((v::r).takeWhile (KA 17 17)).length<=l.length:=by have:=(Bj (KA 17 17) (l:=l.drop i)).length_le;rw[Ay,hd]at this;omega
 have hrs:((JH l).take (i+((v::r).takeWhile (KA 17 17)).length)).drop i=JH ((v::r).takeWhile (KA 17 17)):=by rw[QX,Yv,hsl]
 have ra:=J7 l;have l1:lo<=h.length+1:=om;generalize (v::r).takeWhile (KA 17 17)=m at*;obtain⟨t,ks⟩:=v;have h1:(t.k==13)=false:=h1;have h2:(t.k==17)=false:=h2;have h3:(t.k==3)=false:=h3;rw[Jq]at hgr;simp only[N50];generalize JH l=R at*;generalize i+m.length=j at*
 cases hdc:Wt m with
 |none=>
  rw[hdc]at c68;simp only[dcR,J1,zd,Jc]at c68;refine⟨[.cells [.v (.string (Rul.bs [])),.list .no [],.v (.bool false)]],?_⟩
  rw[Option.toList_none,Aq]
  simp only[N50,go_sem,jG,b39,Tryz.f39,hlo,l1,q,hgr,rl,h1,h2,h3,c,hle1,hle2,hrs,ra,c68]<;>rfl
 |some dd=>
  rw[hdc]at c68;simp only[dcR,J1]at c68;have eo:out.map J1++[[.v (.string (Rul.bs dd.name)),.list .no (JH dd.val),.v (.bool dd.imp)]]=(out++[dd]).map J1:=by rw[List.map_append];rfl
  have o1:=JRd ho;have o2:=Hy ho;have rao:=JDc out;have rbo:=km out;refine⟨[.cells [.v (.string (Rul.bs dd.name)),.list .no (JH dd.val),.v (.bool dd.imp)]],?_⟩
  rw[Option.toList_some,<-eo];have rlo:(out.map J1).length=out.length:=List.length_map _;generalize out.map J1=O at*;simp only[N50,go_sem,jG,b39,Tryz.f39,hlo,l1,q,hgr,rl,h1,h2,h3,c,hle1,hle2,hrs,ra,c68,o1,o2,rao,rbo,rlo]<;>rfl
theorem JZc{l:List CV}{out:List Dc}{i:Nat}{X:Heap}(hlo:lo<=h.length)(hi:l.length<=i):
  evCode ⟨Aa,E,lo,h.length,h39⟩ JA jG (N50 l out i,h++X)=some (.exit 0,N50 l out i++[(11,.v (.bool false))],h):=by
 have q:decide ((i:Int)<(l.length:Int))=false:=by rw[decide_eq_false_iff_not];omega
 have rl:=JU l;simp only[N50];generalize JH l=R at*;simp only[N50,go_sem,jG,b39,Tryz.f39,hlo,q,rl]<;>rfl
theorem Gf:∀(n:Nat) (l:List CV),(QC n l).length<=l.length
 |0,l=>by rw[QC];exact A0 _
 |n+1,[]=>Ac _
 |n+1,v::r=>by
  rw[QC]
  split
  ·have:=Gf n r;rw[Ag];omega
  ·rename_i h1
   split
   ·have:=Gf n ((v::r).dropWhile (KA 17 23)).tail
    have h2:=(AA (p:=KA 17 23) (l:=v::r)).length_le;rw[DT]at this;omega
   ·have hnv:KA 17 17 v=true:=by
     simp only[AN,beq_iff_eq,not_or]at h1;simp[KA,h1.2]
    have:=Gf n ((v::r).dropWhile (KA 17 17))
    have h3:((v::r).dropWhile (KA 17 17)).length<=r.length:=by rw[AD,if_pos hnv];exact(AA _).length_le
    rw[An,Ag];have h4:(Wt ((v::r).takeWhile (KA 17 17))).toList.length<=1:=by cases Wt ((v::r).takeWhile (KA 17 17))<;>simp
    omega
theorem JG4{l:List CV}(hlo:lo<=h.length)(hl:JM l<=1000000000)(hB:∀y∈l,BtV y):∀(n i:Nat) (out:List Dc) (X:Heap),(l.drop i).length<n->out.length+(l.drop i).length<=1000000000->
  ∃i',JA (evCode ⟨Aa,E,lo,h.length,h39⟩ JA jG) (N50 l out i,h++X)=some (.exit 0,N50 l (out++QC n (l.drop i)) i'++[(11,.v (.bool false))],h)
 |0,i,out,X,hn,_=>by omega
 |n+1,i,out,X,hn,ho=>by
  cases hd:l.drop i with
  |nil=>
   have hi:l.length<=i:=by have:=congrArg Bf hd;rw[Ay,Am]at this;omega
   refine⟨i,?_⟩
   rw[JB,JZc hlo hi,KP,QC,Aq]
  |cons v r=>
   rw[hd]at hn ho;simp only[Ag]at hn ho;obtain⟨X',hr⟩:=JUl (X:=X) (out:=out) hlo hl om hd hB;have hd1:l.drop (i+1)=r:=by rw[<-AC,hd];rfl
   rw[JB,hr,JK,QC];by_cases h1:(v.k==13||v.k==17)=true
   ·rw[if_pos h1,if_pos h1]
    have:=JG4 hlo hl hB n (i+1) out X' (by rw[hd1];omega) (by rw[hd1];omega)
    rw[hd1]at this;exact this
   ·rw[if_neg h1,if_neg h1]
    by_cases h3:(v.k==3)=true
    ·rw[if_pos h3,if_pos h3]
     have e1:=Ge l i (KA 17 23);rw[hd]at e1
     have e2:l.drop (i+((v::r).takeWhile (KA 17 23)).length+1)=((v::r).dropWhile (KA 17 23)).tail:=by rw[<-AC,e1,Ld]
     have hlen:=(AA (p:=KA 17 23) (l:=v::r)).length_le;simp only[Ag]at hlen;have:=JG4 hlo hl hB n (i+((v::r).takeWhile (KA 17 23)).length+1) out X' (by rw[e2,DT];omega) (by rw[e2,DT];omega)
     rw[e2]at this;exact this
    ·rw[if_neg h3,if_neg h3]
     have e1:=Ge l i (KA 17 17);rw[hd]at e1
     have hnv:KA 17 17 v=true:=by simp only[AN,beq_iff_eq,not_or]at h1;simp[KA,h1.2]
     have hlen:((v::r).dropWhile (KA 17 17)).length<=r.length:=by rw[AD,if_pos hnv];exact(AA _).length_le
     have h4:(Wt ((v::r).takeWhile (KA 17 17))).toList.length<=1:=by cases Wt ((v::r).takeWhile (KA 17 17))<;>simp
     have:=JG4 hlo hl hB n (i+((v::r).takeWhile (KA 17 17)).length) (out++(Wt ((v::r).takeWhile (KA 17 17))).toList) X' (by rw[e1];omega) (by rw[e1,An];omega)
     rw[e1,Aw]at this;exact this
theorem f39{l:List CV}(hlo:lo<=h.length)(hl:JM l<=1000000000)(hB:∀y∈l,BtV y):E lo 39 [.list .no (JH l)] h=some (.list .no ((decls l).map J1),h):=by
 have hll:=Jk l;obtain⟨i',hL⟩:=JG4 (lo:=lo) (h:=h) hlo hl hB (l.length+1) 0 [] [] (by rw[AG];omega) (by rw[AG,Am];omega)
 rw[AG,Af]at hL;have ed:QC (l.length+1) l=decls l:=rfl;rw[ed]at hL;have n0:((0:Nat):Int)=0:=rfl;rw[e39];simp only[jG,b39,Tryz.f39,JG,JT,JC,go_sem,N50,n0,Cm,Aq,Ae,Af]at hL;simp only[go_sem,b39,Tryz.f39,hlo,hL,n0]<;>rfl
end Go.Lift.W1
end

section
namespace Go.Lift.Rul
mutual
def JJk(P:Tk4->Prop):CV->Prop
 | .mk t ks=>P t/\Qf P ks
def Qf(P:Tk4->Prop):List CV->Prop
 |[]=>True
 |v::r=>JJk P v/\Qf P r
end
theorem JUm{P:Tk4->Prop}{v:CV}:JJk P v↔P v.t/\Qf P v.ks:=by cases v;rw[JJk];rfl
theorem Ks{P:Tk4->Prop}:∀{l:List CV},Qf P l↔ ∀v∈l,P v.t/\Qf P v.ks
 |[]=>by rw[Qf];simp
 |v::r=>by rw[Qf,JUm,Ks (l:=r)];simp
theorem WZ{P:Tk4->Prop}{l m:List CV}(h:Qf P l)(hs:∀v∈m,v∈l):Qf P m:=Ks.2 λv hv=>Ks.1 h v (hs v hv)
mutual
theorem JOS{P:Tk4->Prop}:∀v:PV,(∀t∈Jl v,P t)->JJk P (cvV v)
 | .leaf t,h=>by rw[cvV,JJk,Qf];exact⟨h t (by rw[Jl];simp),trivial⟩
 | .node t ks c,h=>by rw[Jl]at h;rw[cvV,JJk];exact⟨h t (by simp),yR ks λu hu=>h u (by simp[hu])⟩
theorem yR{P:Tk4->Prop}:∀F:List PV,(∀t∈toksL F,P t)->Qf P (Jh F)
 |[],_=>by rw[Jh,Qf];trivial
 |v::r,h=>by rw[toksL]at h;rw[Jh,Qf];exact⟨JOS v λt ht=>h t (by simp[ht]),yR r λt ht=>h t (by simp[ht])⟩
end
mutual
theorem JJl:∀v:PV,GS (cvV v)<=(Jl v).length
 | .leaf t=>by rw[cvV,GS,GU,Jl];simp
 | .node t ks c=>by have:=Hb ks;rw[cvV,GS,Jl];simp only[Ag,An];omega
theorem Hb:∀F:List PV,JM (Jh F)<=(toksL F).length
 |[]=>by rw[Jh,GU];exact A0 _
 |v::r=>by have:=Hb r;have:=JJl v;rw[Jh,Jr,toksL,An];omega
end
theorem yS{P:Tk4->Prop}{l:List Tk4}(h:∀t∈l,P t):Qf P (vals l):=by obtain⟨F,rfl,hg⟩:=zp l;rw[Hs hg];exact yR F h
theorem js(l:List Tk4):JM (vals l)<=l.length:=by obtain⟨F,rfl,hg⟩:=zp l;rw[Hs hg];exact Hb F
def KH(sub:List CV->List Ru)(live top:Bool)(v:CV)(r:List CV):List Ru×List CV:=
 if(v.k==13||(top&&(v.k==14||v.k==15)))=true then([],r)
 else if(v.k==3)=true then
  match(v::r).dropWhile (KA 17 23)with
  |[]=>([],[])
  |x::s=>(if(x.k==23&&Q7 (Js v.t.b)&& !Jf 64 (((v::r).takeWhile (KA 17 23)).tail)&&live)=true then[Ru.mk 2 (Js v.t.b) (trim ((v::r).takeWhile (KA 17 23)).tail) [] (sub x.ks)]else[],s)
 else
  match(v::r).dropWhile (KA 23 23)with
  |[]=>([],[])
  |x::s=>(if(!Jf 64 ((v::r).takeWhile (KA 23 23))&&live)=true then[Ru.mk 1 [] (trim ((v::r).takeWhile (KA 23 23))) (decls x.ks) []]else[],s)
theorem Gg(sub:List CV->List Ru)(live top:Bool)(n:Nat):Kr sub live top n []=[]:=by cases n<;>rw[Kr]
theorem ZX(sub:List CV->List Ru)(live top:Bool)(n:Nat)(v:CV)(r:List CV):Kr sub live top (n+1) (v::r)=(KH sub live top v r).1++Kr sub live top n (KH sub live top v r).2:=by
 rw[Kr];unfold KH;by_cases a:(v.k==13||(top&&(v.k==14||v.k==15)))=true
 ·rw[if_pos a,if_pos a];rfl
 ·rw[if_neg a,if_neg a]
  by_cases b:(v.k==3)=true
  ·rw[if_pos b,if_pos b]
   cases hx:(v::r).dropWhile (KA 17 23)with
   |nil=>simp only[Gg,Aq]
   |cons x s=>rfl
  ·rw[if_neg b,if_neg b]
   cases hx:(v::r).dropWhile (KA 23 23)with
   |nil=>simp only[Gg,Aq]
   |cons x s=>rfl
theorem jt{l m:List CV}(h:m<:+l):JM m<=JM l:=by obtain⟨p,rfl⟩:=h;rw[Wv];omega
theorem WP(sub:List CV->List Ru)(live top:Bool)(v:CV)(r:List CV):(KH sub live top v r).2<:+r/\(KH sub live top v r).1.length<=1:=by
 have key:∀(f:CV->Bool) (x:CV) (s:List CV),(v::r).dropWhile f=x::s->s<:+r:=λf x s e=>by
  rw[AD]at e
  split at e
  ·have h1:=AA (p:=f) (l:=r)
   rw[e]at h1;exact(List.suffix_cons x s).trans h1
  ·cases e;exact Ln _
 unfold KH
 split
 ·exact⟨Ln _,A0 _⟩
 ·split
  ·split
   ·exact⟨My,A0 _⟩
   ·rename_i x s e
    refine⟨key _ x s e,?_⟩
    split<;>simp
  ·split
   ·exact⟨My,A0 _⟩
   ·rename_i x s e
    refine⟨key _ x s e,?_⟩
    split<;>simp
theorem JOT(sub:List CV->List Ru)(live top:Bool)(v:CV)(r:List CV):(KH sub live top v r).2.length<=r.length/\(KH sub live top v r).1.length<=1:=
 ⟨(WP sub live top v r).1.length_le,(WP sub live top v r).2⟩
theorem JLa(sub sub':List CV->List Ru)(top:Bool)(v:CV)(r:List CV):KH sub false top v r=KH sub' false top v r:=by unfold KH;simp only[BZ,As,if_false]
def QL(n:Nat)(l:List CV):List Ru:=QD (65-n) (n==1) l
theorem JD2(n:Nat):QL n []=[]:=by unfold QL;cases 65-n<;>rw[QD,Gg]
theorem JB1{n:Nat}(h1:1<=n)(hn:n<=65)(v:CV)(r:List CV):QL n (v::r)=(KH (QL (n+1)) (decide (n<=64)) (n==1) v r).1++QL n (KH (QL (n+1)) (decide (n<=64)) (n==1) v r).2:=by
 have hl:=(WP (QL (n+1)) (decide (n<=64)) (n==1) v r).1.length_le;by_cases h:n<=64
 ·have e1:65-n=(64-n)+1:=om
  have e2:QL (n+1)=QD (64-n) false:=by
   funext l
   unfold QL;rw[show 65-(n+1)=64-n by omega,show(n+1==1)=false by simp;omega]
  have ed:decide (n<=64)=true:=by simpa using h
  rw[ed,e2]at hl⊢
  have er:∀l,QL n l=Kr (QD (64-n) false) true (n==1) (l.length+1) l:=λl=>by unfold QL;rw[e1,QD]
  rw[er,er,Ag,ZX]
  congr 1
  exact YJ _ _ _ _ _ _ om om
 ·obtain rfl:n=65:=om
  have ed:decide (65<=64)=false:=rfl;have e65:((65:Nat)==1)=false:=rfl;have hl2:=(WP (λ_=>[]) false false v r).1.length_le
  rw[ed,e65,JLa (QL (65+1)) (λ_=>[])]
  have er:∀l,QL 65 l=Kr (λ_=>[]) false false (l.length+1) l:=λl=>by unfold QL;rw[show 65-65=0 from rfl,QD];rfl
  rw[er,er,Ag,ZX]
  congr 1
  exact YJ _ _ _ _ _ _ om om
structure Fr where
 a:Nat
 q:Nat
 G:List PV
 out:List Ru
 nm:List Int
 pr:List CV
 hd:List V
def up:List Ru->Fr->List Fr->List Ru
 |V,_,[]=>V
 |V,f,g::r=>up (g.out++[Ru.mk 2 f.nm f.pr [] V]++QL (r.length+1) (Jh g.G)) g r
def fin:List Fr->List Ru
 |[]=>[]
 |f::r=>up (f.out++QL (r.length+1) (Jh f.G)) f r
theorem JG5{f f':Fr}(h1:f'.nm=f.nm)(h2:f'.pr=f.pr)(V:List Ru):∀r,up V f' r=up V f r
 |[]=>rfl
 |g::r=>by rw[up,up,h1,h2]
def ju(f:Fr):List V:= .v (.int .i64 f.a):: .v (.int .i64 f.q):: .list .yes (J2 f.out)::f.hd
def kB:List Fr->List V
 |[]=>[]
 |f::r=>kB r++ju f
def muF:List Fr->Nat
 |[]=>0
 |f::r=>2*JM (Jh f.G)+1+muF r
def hdF(f:Fr):List V:=[.v (.int .i64 2),.v (.string (bs f.nm)),.list .no (JH f.pr),.list .yes [],.list .yes []]
def hd0:List V:=[.v (.int .i64 0),.v (.string A6),.list .yes [],.list .yes [],.list .yes []]
end Go.Lift.Rul
end

section
open Go.Proofs
namespace Go.Lift.W1
open Rul
open Utf (By)
variable[MX]
variable{lo:Nat}{h:Heap}
theorem JRe{n:Nat}(h:n<=1000000000):(n+1)*96<=140737488355328:=om
abbrev N44(l:List CV)(top:Bool)(d:Nat)(out:List Ru)(i:Nat):Ja:=[(0,.list .no (JH l)),(1,.v (.bool top)),(2,.v (.int .i64 d)),(7,.list .yes (J2 out)),(8,.v (.int .i64 i))]
theorem Y3:J2 []=[]:=by rw[J2]
theorem qR(out:List Ru)(r:Ru):J2 out++[ruV r]=J2 (out++[r]):=by rw[JQY,J2,Y3]
theorem JB2{α:Type}{l:List α}{i:Nat}{v:α}{r:List α}(hd:l.drop i=v::r):l[i]? =some v:=by
 have:=Bb (xs:=l) (i:=i) (j:=0)
 rw[hd]at this;simpa using this.symm
theorem JUn{l:List CV}{top:Bool}{d:Nat}{out:List Ru}{i:Nat}{v:CV}{r:List CV}{sub:List CV->List Ru}(hlo:lo<=h.length)(hl:JM l<=1000000000)(ho:out.length<=1000000000)(hd:l.drop i=v::r)(hB:Qf jM l)(hdd:d<=1000)
  (hsub:d<=64->∀ks,Qf jM ks->JM ks<=1000000000->∀lo h,lo<=h.length->E lo 20 [.list .no (JH ks),.v (.bool false),.v (.int .i64 (d+1:Nat))] h=some (.list .no (J2 (sub ks)),h)):
  ∃i',evCode ⟨Aa,E,lo,h.length,h20⟩ JA K9 (N44 l top d out i,h)=some (.normal,N44 l top d (out++(KH sub (decide (d<=64)) top v r).1) i',h)/\l.drop i'=(KH sub (decide (d<=64)) top v r).2:=by
 have hll:=Jk l;have hg:=JB2 hd;have hlt:i<l.length:=(Ab.1 hg).1
 have hgr:(JH l)[i]? =some (Qy v):=by rw[KU,hg];rfl
 have q:decide ((i:Int)<(l.length:Int))=true:=by simpa using hlt
 have hw:=JD (i:=i) om;have hd1:l.drop (i+1)=r:=by rw[<-AC,hd];rfl
 have rl:=JU l;have ra:=J7 l;have qd:decide ((d:Int)<=64)=decide (d<=64):=by rw[decide_eq_decide];omega
 have hwd:=JD (i:=d) om;have c35:=λa b=>f35 (lo:=lo) (h:=h) (l:=l) (i:=i) (a:=a) (b:=b) hlo om om
 have hvm:v∈l:=Ap hg;have hBv:=(Ks.1 hB v hvm).1;have hmem:∀y∈v::r,y∈l:=λy hy=>by rw[<-hd]at hy;exact BH hy
 have hsuf:(v::r)<:+l:=by rw[<-hd];exact Mt _ _
 have o1:=JRe ho;have o2:=Hy ho;have rao:=JBM out;have rbo:=HK out;have rlo:=K8 out;by_cases h1:(v.k==13||(top&&(v.k==14||v.k==15)))=true
 ·refine⟨i+1,?_,?_⟩
  ·unfold KH
   rw[if_pos h1,Aq];obtain⟨t,ks⟩:=v;have g1:(t.k==13||(top&&(t.k==14||t.k==15)))=true:=h1;rw[Jq]at hgr;simp only[N44];generalize JH l=R at*
   cases k13:(t.k==13)with
   |true=>simp only[go_sem,K9,j9,Tryz.f20,hlo,q,hgr,hw,rl,k13]<;>rfl
   |false=>
    rw[k13,Br,Bool.and_eq_true]at g1;obtain⟨ht,g1⟩:=g1;subst ht
    cases k14:(t.k==14)with
    |true=>simp only[go_sem,K9,j9,Tryz.f20,hlo,q,hgr,hw,rl,k13,k14]<;>rfl
    |false=>rw[k14,Br]at g1;simp only[go_sem,K9,j9,Tryz.f20,hlo,q,hgr,hw,rl,k13,k14,g1]<;>rfl
  ·unfold KH
   rw[if_pos h1];exact hd1
 have k1:(v.k==13||(top&&(v.k==14||v.k==15)))=false:=by simpa using h1
 have k13:(v.k==13)=false:=by cases hh:(v.k==13)with|false=>rfl|true=>rw[hh]at k1;cases k1
 rw[k13,Br]at k1;by_cases h3:(v.k==3)=true
 ·have hk3:v.k=3:=by simpa using h3
  have hnv:KA 17 23 v=true:=by unfold KA;rw[hk3];rfl
  have c:=c35 17 23;have hdr:=Ge l i (KA 17 23);have hsl:=jr l i (KA 17 23);rw[hd]at c hdr hsl;have etw:(v::r).takeWhile (KA 17 23)=v::r.takeWhile (KA 17 23):=by rw[BK,if_pos hnv]
  have hn1:1<=((v::r).takeWhile (KA 17 23)).length:=by rw[etw];simp
  have hle2:i+((v::r).takeWhile (KA 17 23)).length<=l.length:=by have:=(Bj (KA 17 23) (l:=v::r)).length_le;have h5:=congrArg Bf hd;rw[Ay]at h5;omega
  have hrs:((JH l).take (i+((v::r).takeWhile (KA 17 23)).length)).drop (i+1)=JH ((v::r).takeWhile (KA 17 23)).tail:=by rw[QX,Yv,<-AC,hsl,Ld]
  have hpm:∀y∈((v::r).takeWhile (KA 17 23)).tail,y∈v::r:=λy hy=>JQS (List.mem_of_mem_tail hy)
  have hpn:JM ((v::r).takeWhile (KA 17 23)).tail<=JM l:=by refine A3 (Jy (List.tail_suffix _)) (A3 (QH (Bj _)) (Jy hsuf))
  have hpl:=Jk ((v::r).takeWhile (KA 17 23)).tail;have c37:=f37 (lo:=lo) (h:=h) (l:=((v::r).takeWhile (KA 17 23)).tail) hlo om;have c38:=λlo hlo=>f38 (lo:=lo) (h:=h) (l:=((v::r).takeWhile (KA 17 23)).tail) hlo om
  have c38a:=c38 lo hlo;have c38b:=c38 h.length (Ac _);clear c38;have c36:=f36 (lo:=lo) (h:=h) (n:=v.t.b) hlo (by have:=hBv.2;omega) hBv.1
  have hle1:i+1<=i+((v::r).takeWhile (KA 17 23)).length:=om;have hw2:Ak.wrap (((i+((v::r).takeWhile (KA 17 23)).length:Nat):Int)+1)=((i+((v::r).takeWhile (KA 17 23)).length+1:Nat):Int):=JD om;refine⟨i+((v::r).takeWhile (KA 17 23)).length+1,?_,?_⟩
  ·have es:(KH sub (decide (d<=64)) top v r).1=match(v::r).dropWhile (KA 17 23)with
     |[]=>[]
     |x::s=>if(x.k==23&&Q7 (Js v.t.b)&& !Jf 64 (((v::r).takeWhile (KA 17 23)).tail)&&decide (d<=64))=true then[Ru.mk 2 (Js v.t.b) (trim ((v::r).takeWhile (KA 17 23)).tail) [] (sub x.ks)]else[]:=by
    unfold KH;rw[if_neg h1,if_pos h3];cases(v::r).dropWhile (KA 17 23)<;>rfl
   rw[es];generalize hj:i+((v::r).takeWhile (KA 17 23)).length=j at*;generalize ((v::r).takeWhile (KA 17 23)).tail=P at*
   cases hx:(v::r).dropWhile (KA 17 23)with
   |nil=>
    rw[hx]at hdr
    have hjl:l.length<=j:=by have:=congrArg Bf hdr;rw[Ay,Am]at this;omega
    have q2:decide ((j:Int)<(l.length:Int))=false:=by rw[decide_eq_false_iff_not];omega
    simp only[Aq];obtain⟨t,ks⟩:=v;have k13:(t.k==13)=false:=k13;have k1:(top&&(t.k==14||t.k==15))=false:=k1;have h3:(t.k==3)=true:=h3;have c36:E lo 36 [.v (.string (Rul.bs t.b))] h=some (.tup [.v (.string (Rul.bs (Js t.b))),.v (.bool (Q7 (Js t.b)))],h):=c36;have hk3:t.k=3:=hk3;have k14:(t.k==14)=false:=by rw[hk3];rfl
    have k15:(t.k==15)=false:=by rw[hk3];rfl
    rw[Jq]at hgr;simp only[N44];generalize JH l=R at*
    cases top with
    |true=>simp only[go_sem,K9,j9,Tryz.f20,hlo,q,q2,hgr,hw,hw2,rl,k13,k14,k15,h3,c,c36]<;>rfl
    |false=>simp only[go_sem,K9,j9,Tryz.f20,hlo,q,q2,hgr,hw,hw2,rl,k13,k14,k15,h3,c,c36]<;>rfl
   |cons x s=>
    rw[hx]at hdr;have hjg:=JB2 hdr;have hjl:j<l.length:=(Ab.1 hjg).1
    have hxm:x∈l:=Ap hjg;have hxa:=(Ks.1 hB x hxm).2;have hxn:JM x.ks<=JM l:=jg hjg;have q2:decide ((j:Int)<(l.length:Int))=true:=by rw[decide_eq_true_iff];omega
    have hjr:(JH l)[j]? =some (Qy x):=by rw[KU,hjg];rfl
    obtain⟨t,ks⟩:=v;obtain⟨xt,xk⟩:=x;have k13:(t.k==13)=false:=k13;have h3:(t.k==3)=true:=h3;have c36:E lo 36 [.v (.string (Rul.bs t.b))] h=some (.tup [.v (.string (Rul.bs (Js t.b))),.v (.bool (Q7 (Js t.b)))],h):=c36;have hk3:t.k=3:=hk3;have k14:(t.k==14)=false:=by rw[hk3];rfl
    have k15:(t.k==15)=false:=by rw[hk3];rfl
    have hxa:Qf jM xk:=hxa;have hxn:JM xk<=JM l:=hxn;rw[Jq]at hgr hjr;show evCode _ _ _ _=some (.normal,N44 l top d (out++(if(xt.k==23&&Q7 (Js t.b)&& !Jf 64 P&&decide (d<=64))=true then[Ru.mk 2 (Js t.b) (trim P) [] (sub xk)]else[])) (j+1),h)
    have e1:∀b:Bool,top=b->(top&&(t.k==14||t.k==15))=false:=λb _=>by rw[k14,k15];simp
    simp only[N44];generalize JH l=R at*
    cases hk23:(xt.k==23)with
    |false=>
     simp only[AZ,As,if_false,Aq]
     cases top with
     |true=>simp only[go_sem,K9,j9,Tryz.f20,hlo,q,q2,hgr,hjr,hw,hw2,rl,k13,k14,k15,h3,c,c36,hk23]<;>rfl
     |false=>simp only[go_sem,K9,j9,Tryz.f20,hlo,q,q2,hgr,hjr,hw,hw2,rl,k13,k14,k15,h3,c,c36,hk23]<;>rfl
    |true=>
     cases hgp:Q7 (Js t.b)with
     |false=>
      rw[hgp]at c36;simp only[BZ,AZ,As,if_false,Aq]
      cases top with
      |true=>simp only[go_sem,K9,j9,Tryz.f20,hlo,q,q2,hgr,hjr,hw,hw2,rl,k13,k14,k15,h3,c,c36,hk23]<;>rfl
      |false=>simp only[go_sem,K9,j9,Tryz.f20,hlo,q,q2,hgr,hjr,hw,hw2,rl,k13,k14,k15,h3,c,c36,hk23]<;>rfl
     |true=>
      rw[hgp]at c36
      cases hdp:Jf 64 P with
      |true=>
       rw[hdp]at c37;simp only[Bm,BZ,AZ,As,if_false,Aq]
       cases top with
       |true=>simp only[go_sem,K9,j9,Tryz.f20,hlo,q,q2,hgr,hjr,hw,hw2,rl,ra,k13,k14,k15,h3,c,c36,hk23,hle1,hle2,hrs,c37]<;>rfl
       |false=>simp only[go_sem,K9,j9,Tryz.f20,hlo,q,q2,hgr,hjr,hw,hw2,rl,ra,k13,k14,k15,h3,c,c36,hk23,hle1,hle2,hrs,c37]<;>rfl
      |false=>
       rw[hdp]at c37;by_cases hlv:d<=64
       ·have qlv:decide (d<=64)=true:=by simpa using hlv
        rw[qlv]at qd;have c20:=λlo hlo=>hsub hlv xk hxa om lo h hlo
        have c20a:=c20 lo hlo;have c20b:=c20 h.length (Ac _);clear c20 hsub;rw[qlv,Bh,BS,BS,BS,if_pos rfl,<-qR,ruV,Cm];generalize J2 out=O at*;generalize JH (trim P)=W at*
        cases top with
        |true=>simp only[go_sem,K9,j9,Tryz.f20,hlo,q,q2,qd,hgr,hjr,hw,hw2,hwd,rl,ra,k13,k14,k15,h3,c,c36,hk23,hle1,hle2,hrs,c37,c38a,c38b,c20a,c20b,o1,o2,rao,rbo,rlo]<;>rfl
        |false=>simp only[go_sem,K9,j9,Tryz.f20,hlo,q,q2,qd,hgr,hjr,hw,hw2,hwd,rl,ra,k13,k14,k15,h3,c,c36,hk23,hle1,hle2,hrs,c37,c38a,c38b,c20a,c20b,o1,o2,rao,rbo,rlo]<;>rfl
       ·have qlv:decide (d<=64)=false:=by simpa using hlv
        rw[qlv]at qd;rw[qlv,BZ,if_neg (by simp),Aq]
        cases top with
        |true=>simp only[go_sem,K9,j9,Tryz.f20,hlo,q,q2,qd,hgr,hjr,hw,hw2,rl,ra,k13,k14,k15,h3,c,c36,hk23,hle1,hle2,hrs,c37]<;>rfl
        |false=>simp only[go_sem,K9,j9,Tryz.f20,hlo,q,q2,qd,hgr,hjr,hw,hw2,rl,ra,k13,k14,k15,h3,c,c36,hk23,hle1,hle2,hrs,c37]<;>rfl
  ·have es:(KH sub (decide (d<=64)) top v r).2=((v::r).dropWhile (KA 17 23)).tail:=by
    unfold KH;rw[if_neg h1,if_pos h3];cases(v::r).dropWhile (KA 17 23)<;>rfl
   rw[es,<-AC,hdr,Ld]
 have k3:(v.k==3)=false:=by simpa using h3
 have c:=c35 23 23;have hdr:=Ge l i (KA 23 23);have hsl:=jr l i (KA 23 23);rw[hd]at c hdr hsl
 have hle2:i+((v::r).takeWhile (KA 23 23)).length<=l.length:=by have:=(Bj (KA 23 23) (l:=v::r)).length_le;have h5:=congrArg Bf hd;rw[Ay]at h5;omega
 have hrs:((JH l).take (i+((v::r).takeWhile (KA 23 23)).length)).drop i=JH ((v::r).takeWhile (KA 23 23)):=by rw[QX,Yv,hsl]
 have hpn:JM ((v::r).takeWhile (KA 23 23))<=JM l:=A3 (QH (Bj _)) (Jy hsuf);have hpl:=Jk ((v::r).takeWhile (KA 23 23));have c37:=f37 (lo:=lo) (h:=h) (l:=(v::r).takeWhile (KA 23 23)) hlo om;have c38:=λlo hlo=>f38 (lo:=lo) (h:=h) (l:=(v::r).takeWhile (KA 23 23)) hlo om
 have c38a:=c38 lo hlo;have c38b:=c38 h.length (Ac _);clear c38;have hle1:i<=i+((v::r).takeWhile (KA 23 23)).length:=om;have hw2:Ak.wrap (((i+((v::r).takeWhile (KA 23 23)).length:Nat):Int)+1)=((i+((v::r).takeWhile (KA 23 23)).length+1:Nat):Int):=JD om;refine⟨i+((v::r).takeWhile (KA 23 23)).length+1,?_,?_⟩
 ·have es:(KH sub (decide (d<=64)) top v r).1=match(v::r).dropWhile (KA 23 23)with
    |[]=>[]
    |x::s=>if(!Jf 64 ((v::r).takeWhile (KA 23 23))&&decide (d<=64))=true then[Ru.mk 1 [] (trim ((v::r).takeWhile (KA 23 23))) (decls x.ks) []]else[]:=by
   unfold KH;rw[if_neg h1,if_neg h3];cases(v::r).dropWhile (KA 23 23)<;>rfl
  rw[es];generalize hj:i+((v::r).takeWhile (KA 23 23)).length=j at*;generalize (v::r).takeWhile (KA 23 23)=P at*;obtain⟨t,ks⟩:=v;have k13:(t.k==13)=false:=k13;have k3:(t.k==3)=false:=k3;have k1:(top&&(t.k==14||t.k==15))=false:=k1;rw[Jq]at hgr
  have ktop:(top=false)\/(top=true/\(t.k==14)=false/\(t.k==15)=false):=by
   cases top with
   |false=>exact .inl rfl
   |true=>rw[AR,Bool.or_eq_false_iff]at k1;exact .inr ⟨rfl,k1.1,k1.2⟩
  cases hx:(CV.mk t ks::r).dropWhile (KA 23 23)with
  |nil=>
   rw[hx]at hdr
   have hjl:l.length<=j:=by have:=congrArg Bf hdr;rw[Ay,Am]at this;omega
   have q2:decide ((j:Int)<(l.length:Int))=false:=by rw[decide_eq_false_iff_not];omega
   simp only[Aq,N44];generalize JH l=R at*;rcases ktop with rfl|⟨rfl,k14,k15⟩
   ·simp only[go_sem,K9,j9,Tryz.f20,hlo,q,q2,hgr,hw,hw2,rl,k13,k3,c]<;>rfl
   ·simp only[go_sem,K9,j9,Tryz.f20,hlo,q,q2,hgr,hw,hw2,rl,k13,k14,k15,k3,c]<;>rfl
  |cons x s=>
   rw[hx]at hdr;have hjg:=JB2 hdr;have hjl:j<l.length:=(Ab.1 hjg).1
   have hxm:x∈l:=Ap hjg;have hxa:=(Ks.1 hB x hxm).2;have hxn:JM x.ks<=JM l:=jg hjg;have q2:decide ((j:Int)<(l.length:Int))=true:=by rw[decide_eq_true_iff];omega
   have hjr:(JH l)[j]? =some (Qy x):=by rw[KU,hjg];rfl
   obtain⟨xt,xk⟩:=x;have hxa:Qf jM xk:=hxa;have hxn:JM xk<=JM l:=hxn;rw[Jq]at hjr;have c39:=λlo hlo=>f39 (lo:=lo) (h:=h) (l:=xk) hlo om (λy hy=>(Ks.1 hxa y hy).1)
   have c39a:=c39 lo hlo;have c39b:=c39 h.length (Ac _);clear c39;show evCode _ _ _ _=some (.normal,N44 l top d (out++(if(!Jf 64 P&&decide (d<=64))=true then[Ru.mk 1 [] (trim P) (decls xk) []]else[])) (j+1),h)
   simp only[N44];generalize JH l=R at*
   cases hdp:Jf 64 P with
   |true=>
    rw[hdp]at c37;simp only[Bm,BZ,AZ,As,if_false,Aq];rcases ktop with rfl|⟨rfl,k14,k15⟩
    ·simp only[go_sem,K9,j9,Tryz.f20,hlo,q,q2,hgr,hjr,hw,hw2,rl,ra,k13,k3,c,hle1,hle2,hrs,c37]<;>rfl
    ·simp only[go_sem,K9,j9,Tryz.f20,hlo,q,q2,hgr,hjr,hw,hw2,rl,ra,k13,k14,k15,k3,c,hle1,hle2,hrs,c37]<;>rfl
   |false=>
    rw[hdp]at c37;by_cases hlv:d<=64
    ·have qlv:decide (d<=64)=true:=by simpa using hlv
     rw[qlv]at qd;have e0:Rul.bs []=A6:=rfl;rw[qlv,Bh,BS,if_pos rfl,<-qR,ruV,Y3,e0];generalize J2 out=O at*;generalize JH (trim P)=W at*;generalize (decls xk).map J1=Z at*;rcases ktop with rfl|⟨rfl,k14,k15⟩
     ·simp only[go_sem,K9,j9,Tryz.f20,hlo,q,q2,qd,hgr,hjr,hw,hw2,rl,ra,k13,k3,c,hle1,hle2,hrs,c37,c38a,c38b,c39a,c39b,o1,o2,rao,rbo,rlo]<;>rfl
     ·simp only[go_sem,K9,j9,Tryz.f20,hlo,q,q2,qd,hgr,hjr,hw,hw2,rl,ra,k13,k14,k15,k3,c,hle1,hle2,hrs,c37,c38a,c38b,c39a,c39b,o1,o2,rao,rbo,rlo]<;>rfl
    ·have qlv:decide (d<=64)=false:=by simpa using hlv
     rw[qlv]at qd;rw[qlv,BZ,if_neg (by simp),Aq]
     rcases ktop with rfl|⟨rfl,k14,k15⟩
     ·simp only[go_sem,K9,j9,Tryz.f20,hlo,q,q2,qd,hgr,hjr,hw,hw2,rl,ra,k13,k3,c,hle1,hle2,hrs,c37]<;>rfl
     ·simp only[go_sem,K9,j9,Tryz.f20,hlo,q,q2,qd,hgr,hjr,hw,hw2,rl,ra,k13,k14,k15,k3,c,hle1,hle2,hrs,c37]<;>rfl
 ·have es:(KH sub (decide (d<=64)) top v r).2=((v::r).dropWhile (KA 23 23)).tail:=by
   unfold KH;rw[if_neg h1,if_neg h3];cases(v::r).dropWhile (KA 23 23)<;>rfl
  rw[es,<-AC,hdr,Ld]
end Go.Lift.W1
end

section
open Go.Proofs
namespace Go.Lift.W1
open Rul
variable[MX]
variable{lo:Nat}{h:Heap}
theorem Jme{p:List Ob}{F:List V}{n:Nat}{t:Tk4}{r ks:List CV}(hlo:lo<=p.length)(hn:n<=1000000000)
  (h1:F[n*7+6]? =some (.list .yes (JH r)))(h2:(F.drop ((n+1)*7)).take 7=row t++[.list .yes (JH ks)])(hl:(n+2)*7<=F.length)(hr:r.length<=1000000000):
  E lo 41 [.stk p.length (n+2) 7] (p++[.cells F])=
   some (.stk p.length (n+1) 7,p++[.cells (F.set (n*7+6) (.list .yes (JH (r++[.mk t ks]))))]):=by
 have w1:Ak.wrap (((n+2:Nat):Int)-1)=((n+1:Nat):Int):=by rw[JL]<;>omega
 have w2:Ak.wrap (((n+1:Nat):Int)-1)=(n:Int):=by rw[JL]<;>omega
 have q1:(n:Int)<((n+1:Nat):Int):=om;have q2:((n+1:Nat):Int)<((n+2:Nat):Int):=om;have hs:n*7+6<F.length:=om;have hs1:n*7+6+1<=F.length:=hs;have hs2:n*7+7<=F.length:=om;have e2:7<=(F.drop ((n+1)*7)).length:=by rw[Ay];omega
 have hk:∀(x y:V),(F.set (n*7+6) y).take (n*7+6)++x::(F.set (n*7+6) y).drop (n*7+6+1)=F.set (n*7+6) x:=λx y=>by rw[Zd (by rw[AO];exact hs),BL]
 have hk2:∀(x y:V),(F.set (n*7+6) y).take (n*7+6)++x::(F.set (n*7+6) y).drop (n*7+7)=F.set (n*7+6) x:=hk;have o1:=ky hr;have o2:=Hy hr;have ra:=J7 r;have rl:=JU r;have rb:=QG r;have l1:lo<=p.length+1:=om;have l2:lo<=p.length+2:=om;have l3:lo<=p.length+3:=om;have l4:lo<=p.length+4:=om;have l5:lo<=p.length+5:=om
 rw[Wu,Kc,Jc,Jq];generalize JH r=R at*;rw[e41];simp only[row,Ae,Af]at h2;simp only[go_sem,b41,Tryz.f41,hlo,w1,w2,q1,q2,h1,h2,hs,hs1,hs2,hk,hk2,e2,o1,o2,ra,rl,rb,l1,l2,l3,l4,l5,AO,BL]<;>rfl
theorem Jmf{p:List Ob}{F xs:List V}{n:Nat}{t:Tk4}{r ks:List CV}(hlo:lo<=p.length)(hn:n<=1000000000)
  (h1:F[n*7+6]? =some (.list .yes (JH r)))(h2:(F.drop ((n+1)*7)).take 7=row t++[.list .yes (JH ks)])(hl:(n+2)*7<=F.length)(hr:r.length<=1000000000):
  E lo 41 [.stk p.length (n+2) 7] (p++[.cells F,.cells xs])=
   some (.stk p.length (n+1) 7,p++[.cells (F.set (n*7+6) (.list .yes (JH (r++[.mk t ks])))),.cells xs]):=by
 have w1:Ak.wrap (((n+2:Nat):Int)-1)=((n+1:Nat):Int):=by rw[JL]<;>omega
 have w2:Ak.wrap (((n+1:Nat):Int)-1)=(n:Int):=by rw[JL]<;>omega
 have q1:(n:Int)<((n+1:Nat):Int):=om;have q2:((n+1:Nat):Int)<((n+2:Nat):Int):=om;have hs:n*7+6<F.length:=om;have hs1:n*7+6+1<=F.length:=hs;have hs2:n*7+7<=F.length:=om;have e2:7<=(F.drop ((n+1)*7)).length:=by rw[Ay];omega
 have hk:∀(x y:V),(F.set (n*7+6) y).take (n*7+6)++x::(F.set (n*7+6) y).drop (n*7+6+1)=F.set (n*7+6) x:=λx y=>by rw[Zd (by rw[AO];exact hs),BL]
 have hk2:∀(x y:V),(F.set (n*7+6) y).take (n*7+6)++x::(F.set (n*7+6) y).drop (n*7+7)=F.set (n*7+6) x:=hk;have o1:=ky hr;have o2:=Hy hr;have ra:=J7 r;have rl:=JU r;have rb:=QG r;have l1:lo<=p.length+1:=om;have l2:lo<=p.length+2:=om;have l3:lo<=p.length+3:=om;have l4:lo<=p.length+4:=om;have l5:lo<=p.length+5:=om
 rw[Wu,Kc,Jc,Jq];generalize JH r=R at*;rw[e41];simp only[row,Ae,Af]at h2;simp only[go_sem,b41,Tryz.f41,hlo,w1,w2,q1,q2,h1,h2,hs,hs1,hs2,hk,hk2,e2,o1,o2,ra,rl,rb,l1,l2,l3,l4,l5,AO,BL]<;>rfl
end Go.Lift.W1
end
