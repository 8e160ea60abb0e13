/- (*calc.reader).sign and its inner function. -/
import Derived.Test.YtolidijpmnompaaGreatDoorGKa
import Derived.Test.YtolidijpmnompaaGreatDoorGK3Basea
import Derived.Test.YtolidijpmnompaaGreatDoorGKb
open Bool renaming and_eq_true->Af,eq_iff_iff->BJ,false_and->An,not_true->AB,true_and->Au
open Go.IntKind renaming i64->AQ
open Go.Proofs.Tryz renaming prog->Aa
open Int renaming toNat->Bp
open List renaming all_eq_true->Aj,any_cons->Dq,append_assoc->AM,cons_append->AK,dropWhile_suffix->BC,drop_eq_getElem_cons->Ap,drop_eq_nil_of_le->A6,drop_length->AY,drop_suffix->Lg,drop_zero->AJ,getElem?_eq_getElem->Ac,getElem?_eq_none_iff->BV,getElem?_eq_some_iff->Ab,getElem?_map->Am,getElem_mem->AN,length_append->Ax,length_cons->Ai,length_nil->Ak,length_take->As,mem_cons->A1,mem_of_getElem? ->Ah,mem_singleton->AL,nil_append->Aq,takeWhile_cons->Cg,take_length->BQ,take_succ_eq_append_getElem->Bk,take_zero->B0
open Nat renaming le_refl->Ag,le_trans->Br
set_option linter.unusedVariables false
set_option linter.unusedSimpArgs false
set_option linter.unusedSectionVars false
set_option maxRecDepth 20000
set_option maxHeartbeats 4000000
section
open Go.Proofs
namespace Go.Lift.Y1
open Rul
open Utf (By)
variable{lo:Nat}{p q:List Ob}
abbrev Rc(l:List CV)(a:Nat):Ob:= .cells [.list .no (JH l),.v (.int .i64 a)]
abbrev Bx(p:List Ob):Ob:= .cells [.ptr p.length 0]
theorem JG3{l:List CV}{a:Nat}(hg:l[a]? =none):skipS l a=a:=by
 unfold skipS;rw[A6 (BV.1 hg)]
 rfl
theorem JRe{l:List CV}{a:Nat}{v:CV}(hg:l[a]? =some v)(hs:JS v=false):skipS l a=a:=by
 obtain⟨hlt,rfl⟩:=Ab.1 hg
 unfold skipS;rw[Ap hlt,Cg,if_neg (by rw[hs];simp)]
 rfl
theorem JPC{l:List CV}{a:Nat}{v:CV}(hg:l[a]? =some v)(hs:JS v=true):skipS l a=skipS l (a+1):=by
 obtain⟨hlt,rfl⟩:=Ab.1 hg
 unfold skipS;rw[Ap hlt,Cg,if_pos hs,Ai];omega
theorem JDW(l:List CV)(a:Nat):a<=skipS l a:=by unfold skipS;omega
abbrev yX(p q:List Ob)(f:Int):Jr:=[(0,.ptr (p.length+(q.length+1)) 0),(2,.v (.int .i64 f))]
noncomputable abbrev JPD(lo:Nat)(p q:List Ob):Go.Lift.Cx:=⟨Aa,E,lo,p.length+(q.length+1+1),JWs⟩
theorem Jc1{l:List CV}{v:CV}{a:Nat}{f:Int}(hlo:lo<=p.length)(hl:l.length<=1000000000)(hg:l[a]? =some v)(hs:JS v=true):
  evCode (JPD lo p q) JA G3 (yX p q f,p++Rc l a::(q++[Bx p]))=some (.normal,yX p q f,p++Rc l (a+1)::(q++[Bx p])):=by
 obtain⟨t,ks⟩:=v;have hlt:a<l.length:=(Ab.1 hg).1
 have hgr:(JH l)[a]? =some (Jp (.mk t ks)):=by rw[Jm,hg];rfl
 rw[JN]at hgr;have q1:decide ((a:Int)<(l.length:Int))=true:=by rw[decide_eq_true_iff];omega
 have t1:Bp (a:Int)=a:=om;have hw:=Jd (i:=a) om;have hk:(t.k==13)=true:=hs;simp only[yX,go_sem,G3,JJX,Tryz.f148,hlo,q1,hgr,t1,hw,hk,JC]<;>rfl
theorem Jc2{l:List CV}{v:CV}{a:Nat}{f:Int}(hlo:lo<=p.length)(hl:l.length<=1000000000)(hg:l[a]? =some v)(hs:JS v=false):
  evCode (JPD lo p q) JA G3 (yX p q f,p++Rc l a::(q++[Bx p]))=some (.exit 0,yX p q f++[(31,.v (.bool false))],p++Rc l a::(q++[Bx p])):=by
 obtain⟨t,ks⟩:=v;have hlt:a<l.length:=(Ab.1 hg).1
 have hgr:(JH l)[a]? =some (Jp (.mk t ks)):=by rw[Jm,hg];rfl
 rw[JN]at hgr;have q1:decide ((a:Int)<(l.length:Int))=true:=by rw[decide_eq_true_iff];omega
 have t1:Bp (a:Int)=a:=om;have hk:(t.k==13)=false:=hs;simp only[yX,go_sem,G3,JJX,Tryz.f148,hlo,q1,hgr,t1,hk,JC]<;>rfl
theorem JSU{l:List CV}{a:Nat}{f:Int}(hlo:lo<=p.length)(hl:l.length<=1000000000)(hg:l[a]? =none):
  evCode (JPD lo p q) JA G3 (yX p q f,p++Rc l a::(q++[Bx p]))=some (.exit 0,yX p q f++[(31,.v (.bool false))],p++Rc l a::(q++[Bx p])):=by
 have hle:=BV.1 hg
 have q1:decide ((a:Int)<(l.length:Int))=false:=by rw[decide_eq_false_iff_not];omega
 simp only[yX,go_sem,G3,JJX,Tryz.f148,hlo,q1,JC]<;>rfl
theorem JKe{l:List CV}{f:Int}(hlo:lo<=p.length)(hl:l.length<=1000000000):∀m a:Nat,l.length<=a+m->
  JA (evCode (JPD lo p q) JA G3) (yX p q f,p++Rc l a::(q++[Bx p]))=some (.exit 0,yX p q f++[(31,.v (.bool false))],p++Rc l (skipS l a)::(q++[Bx p]))
 |0,a,hm=>by
  have hg:l[a]? =none:=BV.2 om
  rw[JJ,JSU hlo hl hg,Jx,JG3 hg]
 |m+1,a,hm=>by
  cases hg:l[a]? with
  |none=>rw[JJ,JSU hlo hl hg,Jx,JG3 hg]
  |some v=>
   cases hs:JS v with
   |true=>
    rw[JJ,Jc1 hlo hl hg hs,Jg,JPC hg hs]
    exact JKe hlo hl m (a+1) om
   |false=>rw[JJ,Jc2 hlo hl hg hs,Jx,JRe hg hs]
theorem f148{l:List CV}{a:Nat}(hlo:lo<=p.length)(hl:l.length<=1000000000):
  E lo 148 [.ptr (p.length+(q.length+1)) 0] (p++Rc l a::(q++[Bx p]))=some (.v (.bool (decide (a<skipS l a))),p++Rc l (skipS l a)::(q++[Bx p])):=by
 have hL:=JKe (q:=q) (f:=a) hlo hl l.length a om;have hd:decide ((a:Int)<(skipS l a:Int))=decide (a<skipS l a):=by rw[BJ,decide_eq_true_iff,decide_eq_true_iff];omega
 rw[Jjt];simp only[G3,JJX,Tryz.f148,JK,loops,JB,yX,JPD,go_sem]at hL;simp only[go_sem,JJX,Tryz.f148,hlo,hL,hd]<;>rfl
def Jc3(one other:Int):Option Bool->ByteArray
 |none=>⟨#[]⟩
 |some false=>Rul.bs [one]
 |some true=>Rul.bs [other]
theorem JKf{b:List Int}{c:Int}(hy:By b)(h0:0<=c)(h1:c<256):((Rul.bs b).toList==(Rul.bs [c]).toList)=(b==[c]):=K1 hy (by intro x hx;simp at hx;omega)
theorem Jc4{l:List CV}{a:Nat}{one other:Int}{apart:Bool}(hlo:lo<=p.length)(hl:l.length<=1000000000)(hg:l[skipS l a]? =none):
  E lo 143 [.ptr p.length 0,.v (.string (Rul.bs [one])),.v (.string (Rul.bs [other])),.v (.bool apart)] (p++Rc l a::q)=some (.v (.string ⟨#[]⟩),p++Rc l a::q):=by
 have c148:=λlo hlo=>f148 (lo:=lo) (p:=p) (q:=q) (l:=l) (a:=a) hlo hl
 have hle:=BV.1 hg
 have l1:lo<=p.length+(q.length+1):=om;have q1:decide ((skipS l a:Int)<(l.length:Int))=false:=by rw[decide_eq_false_iff_not];omega
 rw[JWz];simp only[go_sem,yV,Tryz.f143,hlo,l1,c148,q1,JC]<;>rfl
theorem Jc5{l:List CV}{v:CV}{a:Nat}{one other:Int}{apart:Bool}(hlo:lo<=p.length)(hl:l.length<=1000000000)(hg:l[skipS l a]? =some v)(hk:(v.k==9)=false):
  E lo 143 [.ptr p.length 0,.v (.string (Rul.bs [one])),.v (.string (Rul.bs [other])),.v (.bool apart)] (p++Rc l a::q)=some (.v (.string ⟨#[]⟩),p++Rc l a::q):=by
 obtain⟨t,ks⟩:=v;have c148:=λlo hlo=>f148 (lo:=lo) (p:=p) (q:=q) (l:=l) (a:=a) hlo hl
 have hlt:skipS l a<l.length:=(Ab.1 hg).1
 have hgr:(JH l)[skipS l a]? =some (Jp (.mk t ks)):=by rw[Jm,hg];rfl
 rw[JN]at hgr;have l1:lo<=p.length+(q.length+1):=om;have q1:decide ((skipS l a:Int)<(l.length:Int))=true:=by rw[decide_eq_true_iff];omega
 have t1:Bp (skipS l a:Int)=skipS l a:=om;have hk':(t.k==9)=false:=hk;rw[JWz];simp only[go_sem,yV,Tryz.f143,hlo,l1,c148,q1,hgr,t1,hk',JC]<;>rfl
theorem Jc6{l:List CV}{t:Tk4}{ks:List CV}{a:Nat}{one other:Int}{apart:Bool}(hlo:lo<=p.length)(hl:l.length<=1000000000)(hg:l[skipS l a]? =some (.mk t ks))(hk:(t.k==9)=true)
  (hy:By t.b)(h0:0<=one/\one<256)(h1:0<=other/\other<256):
  E lo 143 [.ptr p.length 0,.v (.string (Rul.bs [one])),.v (.string (Rul.bs [other])),.v (.bool apart)] (p++Rc l a::q)=
   if((t.b==[one]||t.b==[other])&&(!apart||(decide (a<skipS l a)&&decide (skipS l a+1<skipS l (skipS l a+1)))))=true
   then some (.v (.string (Rul.bs t.b)),p++Rc l (skipS l (skipS l a+1))::q)else some (.v (.string ⟨#[]⟩),p++Rc l a::q):=by
 have c148:=λlo hlo=>f148 (lo:=lo) (p:=p) (q:=q) (l:=l) (a:=a) hlo hl
 have d133:=λlo hlo=>f148 (lo:=lo) (p:=p) (q:=q) (l:=l) (a:=skipS l a+1) hlo hl
 have hlt:skipS l a<l.length:=(Ab.1 hg).1
 have hgr:(JH l)[skipS l a]? =some (Jp (.mk t ks)):=by rw[Jm,hg];rfl
 rw[JN]at hgr;have l1:lo<=p.length+(q.length+1):=om;have q1:decide ((skipS l a:Int)<(l.length:Int))=true:=by rw[decide_eq_true_iff];omega
 have t1:Bp (skipS l a:Int)=skipS l a:=om;have hw:AQ.wrap ((skipS l a:Int)+1)=((skipS l a+1:Nat):Int):=Jd om;have e1:=JKf (c:=one) hy h0.1 h0.2;have e2:=JKf (c:=other) hy h1.1 h1.2;rw[JWz];generalize decide (a<skipS l a)=far at c148⊢;generalize decide (skipS l a+1<skipS l (skipS l a+1))=wide at d133⊢;generalize hb1:(t.b==[one])=b1 at e1⊢
 generalize hb2:(t.b==[other])=b2 at e2⊢
 cases b1 with
 |true=>
  cases apart with
  |false=>
   rw[if_pos (by simp)]
   simp only[go_sem,yV,Tryz.f143,hlo,l1,c148,d133,q1,hgr,t1,hw,hk,e1,e2,JC]<;>rfl
  |true=>
   cases far with
   |false=>
    rw[if_neg (by simp)]
    simp only[go_sem,yV,Tryz.f143,hlo,l1,c148,d133,q1,hgr,t1,hw,hk,e1,e2,JC]<;>rfl
   |true=>
    cases wide with
    |false=>
     rw[if_neg (by simp)]
     simp only[go_sem,yV,Tryz.f143,hlo,l1,c148,d133,q1,hgr,t1,hw,hk,e1,e2,JC]<;>rfl
    |true=>
     rw[if_pos (by simp)]
     simp only[go_sem,yV,Tryz.f143,hlo,l1,c148,d133,q1,hgr,t1,hw,hk,e1,e2,JC]<;>rfl
 |false=>
  cases b2 with
  |false=>
   rw[if_neg (by simp)]
   simp only[go_sem,yV,Tryz.f143,hlo,l1,c148,d133,q1,hgr,t1,hw,hk,e1,e2,JC]<;>rfl
  |true=>
   cases apart with
   |false=>
    rw[if_pos (by simp)]
    simp only[go_sem,yV,Tryz.f143,hlo,l1,c148,d133,q1,hgr,t1,hw,hk,e1,e2,JC]<;>rfl
   |true=>
    cases far with
    |false=>
     rw[if_neg (by simp)]
     simp only[go_sem,yV,Tryz.f143,hlo,l1,c148,d133,q1,hgr,t1,hw,hk,e1,e2,JC]<;>rfl
    |true=>
     cases wide with
     |false=>
      rw[if_neg (by simp)]
      simp only[go_sem,yV,Tryz.f143,hlo,l1,c148,d133,q1,hgr,t1,hw,hk,e1,e2,JC]<;>rfl
     |true=>
      rw[if_pos (by simp)]
      simp only[go_sem,yV,Tryz.f143,hlo,l1,c148,d133,q1,hgr,t1,hw,hk,e1,e2,JC]<;>rfl
theorem JMi{l:List CV}{a:Nat}{one other:Int}{apart:Bool}(hg:l[skipS l a]? =none):KM l a one other apart=(none,a):=by unfold KM;rw[hg]
theorem f143{l:List CV}{a:Nat}{one other:Int}{apart:Bool}(hlo:lo<=p.length)(hl:l.length<=1000000000)(hy:∀v∈l,By v.t.b)(h0:0<=one/\one<256)(h1:0<=other/\other<256):
  E lo 143 [.ptr p.length 0,.v (.string (Rul.bs [one])),.v (.string (Rul.bs [other])),.v (.bool apart)] (p++Rc l a::q)=
   some (.v (.string (Jc3 one other (KM l a one other apart).1)),p++Rc l (KM l a one other apart).2::q):=by
 unfold KM
 cases hg:l[skipS l a]? with
 |none=>exact Jc4 hlo hl hg
 |some v=>
  simp only
  cases hk:v.k==9 with
  |false=>
   rw[if_neg (by simp)]
   exact Jc5 hlo hl hg hk
  |true=>
   rw[if_pos rfl];obtain⟨t,ks⟩:=v;rw[Jc6 hlo hl hg hk (hy _ (Ah hg)) h0 h1];show(if((t.b==[one]||t.b==[other])&&(!apart||(decide (a<skipS l a)&&decide (skipS l a+1<skipS l (skipS l a+1)))))=true then _ else _)=_
   have e:(Rul.CV.mk t ks).t.b=t.b:=rfl;rw[e];by_cases hc:((t.b==[one]||t.b==[other])&&(!apart||(decide (a<skipS l a)&&decide (skipS l a+1<skipS l (skipS l a+1)))))=true
   ·rw[if_pos hc,if_pos hc]
    simp only[Af,Bool.or_eq_true]at hc
    cases hb:t.b==[one]with
    |true=>rw[show t.b=[one]from by simpa using hb];rfl
    |false=>
     rcases hc.1 with h|h
     ·rw[hb]at h;cases h
     ·rw[show t.b=[other]from by simpa using h];rfl
   ·rw[if_neg hc,if_neg hc];rfl
def W97(w:List CV->X×Bool)(l:List CV):Prop:=∀lo h,lo<=h.length->E lo 118 [.list .no (JH l)] h=some (.tup [.agg (xC (w l).1),.v (.bool (w l).2)],h)
def W72(w:List CV->X×Bool)(v:CV):Prop:=∀lo h,lo<=h.length->E lo 92 [.agg (Jp v)] h=some (.tup [.agg (xC (KA w v).1),.v (.bool (KA w v).2)],h)
theorem Jc7{l:List CV}{a:Nat}(hlo:lo<=p.length)(hl:l.length<=1000000000)(hg:l[a]? =none):
  E lo 147 [.ptr p.length 0] (p++Rc l a::q)=some (.tup [.agg (xC Jq),.v (.bool false)],p++Rc l a::q):=by
 have hle:=BV.1 hg
 have l1:lo<=p.length+(q.length+1):=om;have q1:decide ((l.length:Int)<=(a:Int))=true:=by rw[decide_eq_true_iff];omega
 rw[Jcp,Jq,JP,JW];simp only[go_sem,JRS,Tryz.f147,hlo,l1,q1,JC]<;>rfl
theorem Jc8{l:List CV}{v:CV}{a:Nat}{w:List CV->X×Bool}(hlo:lo<=p.length)(hl:l.length<=1000000000)(hg:l[a]? =some v)(h1:W97 w v.ks)(h2:W72 w v):
  E lo 147 [.ptr p.length 0] (p++Rc l a::q)=some (.tup [.agg (xC (kz w v).1),.v (.bool (kz w v).2)],p++Rc l (a+1)::q):=by
 obtain⟨t,ks⟩:=v;have hlt:a<l.length:=(Ab.1 hg).1
 have hgr:(JH l)[a]? =some (Jp (.mk t ks)):=by rw[Jm,hg];rfl
 rw[JN]at hgr;have l1:lo<=p.length+(q.length+1):=om;have l2:lo<=p.length+(q.length+1+1):=om;have l3:lo<=p.length+(q.length+1+1+1):=om;have l4:lo<=p.length+(q.length+(1+1)+1):=om;have q1:decide ((l.length:Int)<=(a:Int))=false:=by rw[decide_eq_false_iff_not];omega
 have t1:Bp (a:Int)=a:=om;have hw:=Jd (i:=a) om;unfold kz;rw[Jcp]
 cases hk:(Rul.CV.mk t ks).k==21 with
 |true=>
  rw[if_pos rfl];have hk':(t.k==21)=true:=hk;have c118:∀lo h,lo<=h.length->E lo 118 [.list .no (JH ks)] h=some (.tup [.agg (xC (w ks).1),.v (.bool (w ks).2)],h):=λlo h hlo=>h1 lo h hlo
  show _=some (V.tup [.agg (xC (w ks).1),.v (.bool (w ks).2)],_)
  generalize w ks=r at c118⊢;obtain⟨⟨ek,en,ed,eu,ekids⟩,eb⟩:=r;simp only[JP]at c118⊢
  simp only[go_sem,JRS,Tryz.f147,hlo,l1,l2,l3,l4,q1,hgr,t1,hw,hk',c118,JC]<;>rfl
 |false=>
  rw[if_neg (by simp)]
  have hk':(t.k==21)=false:=hk;have c92:∀lo h,lo<=h.length->E lo 92 [.agg (Jp (.mk t ks))] h=some (.tup [.agg (xC (KA w (.mk t ks)).1),.v (.bool (KA w (.mk t ks)).2)],h):=λlo h hlo=>h2 lo h hlo
  generalize KA w (.mk t ks)=r at c92⊢;obtain⟨⟨ek,en,ed,eu,ekids⟩,eb⟩:=r;simp only[JP,JN]at c92⊢;simp only[go_sem,JRS,Tryz.f147,hlo,l1,l2,l3,l4,q1,hgr,t1,hw,hk',c92,JC]<;>rfl
theorem f147{l:List CV}{a:Nat}{w:List CV->X×Bool}(hlo:lo<=p.length)(hl:l.length<=1000000000)(h:∀v∈l,W97 w v.ks/\W72 w v):
  E lo 147 [.ptr p.length 0] (p++Rc l a::q)=some (.tup [.agg (xC (J2 (kz w) l a).1),.v (.bool (J2 (kz w) l a).2.1)],p++Rc l (J2 (kz w) l a).2.2::q):=by
 unfold J2
 cases hg:l[a]? with
 |none=>exact Jc7 hlo hl hg
 |some v=>have hv:=h v (Ah hg);exact Jc8 hlo hl hg hv.1 hv.2
def xZ:List V:=[.v (.int .i64 0),.v (.int .i64 0),.v (.int .i64 0),.v (.int .i64 0),.list .yes []]
def xO(k:Int)(ks:List X):List V:=[.v (.int .i64 k),.v (.int .i64 0),.v (.int .i64 0),.v (.int .i64 0),.list .yes (ZG ks)]
theorem Qp(a b:List X):ZG a++ZG b=ZG (a++b):=by rw[GN,GN,GN,List.map_append]
theorem Hk(l:List X):(ZG l).all (λx=>x.length==5)=true:=by rw[GN,List.all_map];exact Aj.2 λx _=>by obtain⟨k,n,d,u,ks⟩:=x;simp only[Function.comp,JP];rfl
theorem Hl(l:List X):(!J3 (ZG l))=true:=by
 cases l with
 |nil=>rw[JW];rfl
 |cons x r=>obtain⟨k,n,d,u,ks⟩:=x;rw[J6,JP];rfl
theorem JCc{n:Nat}(h:n<=1000000000):(n+1)*56<=140737488355328:=om
theorem JCd{n:Nat}(h:n<=1000000000):n<=9223372036854775806:=om
theorem JSV:((⟨#[]⟩:ByteArray).toList==(⟨#[]⟩:ByteArray).toList)=true:=by simp
theorem JKg(c:UInt8):((⟨#[c]⟩:ByteArray).toList==(⟨#[]⟩:ByteArray).toList)=false:=by rw[ByteArray.toList_eq,ByteArray.toList_eq];rfl
theorem Jc9{c d:UInt8}(h:(c==d)=false):((⟨#[c]⟩:ByteArray).toList==(⟨#[d]⟩:ByteArray).toList)=false:=by rw[ByteArray.toList_eq,ByteArray.toList_eq];simp only[List.cons_beq_cons,h,An]
theorem JdA{c:UInt8}:((⟨#[c]⟩:ByteArray).toList==(⟨#[c]⟩:ByteArray).toList)=true:=by simp
def JW8(step:Nat->X×Bool×Nat)(l:List CV):Prop:=∀lo (p q:List Ob) a,lo<=p.length->E lo 147 [.ptr p.length 0] (p++Rc l a::q)=some (.tup [.agg (xC (step a).1),.v (.bool (step a).2.1)],p++Rc l (step a).2.2::q)
abbrev kM(p q:List Ob):Jr:=[(0,.ptr p.length 0),(2,.ptr (p.length+(q.length+1)) 0),(4,.ptr (p.length+(q.length+1+1)) 0),(6,.ptr (p.length+(q.length+(1+1)+1)) 0)]
abbrev kN(p q:List Ob)(l:List CV)(a:Nat)(e:X)(ks:List X):JM:=p++Rc l a::(q++[.cells xZ,.cells (xC e),.cells (xO 4 ks)])
noncomputable abbrev JAM(lo:Nat)(p q:List Ob):Go.Lift.Cx:=⟨Aa,E,lo,p.length+(q.length+1),JWr⟩
section
variable{l:List CV}{a a1:Nat}{e:X}{ks:List X}{step:Nat->X×Bool×Nat}
theorem JSW(hlo:lo<=p.length)(hs:∀lo (p q:List Ob),lo<=p.length->E lo 143 [.ptr p.length 0,.v (.string ⟨#[42]⟩),.v (.string ⟨#[47]⟩),.v (.bool false)] (p++Rc l a::q)=some (.v (.string ⟨#[]⟩),p++Rc l a1::q)):
  evCode (JAM lo p q) JA Y8 (kM p q,kN p q l a e ks)=some (.exit 0,kM p q++[(7,.v (.string ⟨#[]⟩)),(22,.v (.bool true))],kN p q l a1 e ks):=by
 have l1:lo<=p.length+(q.length+1):=om;obtain⟨ek,en,ed,eu,el⟩:=e;simp only[kM,kN,JAM,JP,xZ,xO,go_sem,Y8,JAG,Tryz.f142,hlo,l1,hs,JSV]<;>rfl
theorem JSX{c:UInt8}{e':X}{a2:Nat}(hlo:lo<=p.length)(hs:∀lo (p q:List Ob),lo<=p.length->E lo 143 [.ptr p.length 0,.v (.string ⟨#[42]⟩),.v (.string ⟨#[47]⟩),.v (.bool false)] (p++Rc l a::q)=some (.v (.string ⟨#[c]⟩),p++Rc l a1::q))
  (ht:∀lo (p q:List Ob),lo<=p.length->E lo 147 [.ptr p.length 0] (p++Rc l a1::q)=some (.tup [.agg (xC e'),.v (.bool false)],p++Rc l a2::q)):
  evCode (JAM lo p q) JA Y8 (kM p q,kN p q l a e ks)=some (.ret,[(2,.ptr (p.length+(q.length+1)) 0),(3,.v (.bool false))],p++Rc l a2::(q++[.cells (xC e'),.cells (xC e'),.cells (xO 4 ks)])):=by
 have l1:lo<=p.length+(q.length+1):=om;have l2:lo<=p.length+(q.length+1+1):=om;obtain⟨ek,en,ed,eu,el⟩:=e;obtain⟨fk,fn,fd,fu,fl⟩:=e';simp only[JP]at ht;have z:=JKg c;simp only[kM,kN,JAM,JP,xZ,xO,go_sem,Y8,JAG,Tryz.f142,hlo,l1,l2,hs,ht,z]<;>rfl
theorem JSY{c:UInt8}{e':X}{a2:Nat}{b:Bool}(hlo:lo<=p.length)(hk:ks.length<=1000000000)(hb:((⟨#[c]⟩:ByteArray).toList==(⟨#[47]⟩:ByteArray).toList)=b)
  (hs:∀lo (p q:List Ob),lo<=p.length->E lo 143 [.ptr p.length 0,.v (.string ⟨#[42]⟩),.v (.string ⟨#[47]⟩),.v (.bool false)] (p++Rc l a::q)=some (.v (.string ⟨#[c]⟩),p++Rc l a1::q))
  (ht:∀lo (p q:List Ob),lo<=p.length->E lo 147 [.ptr p.length 0] (p++Rc l a1::q)=some (.tup [.agg (xC e'),.v (.bool true)],p++Rc l a2::q)):
  evCode (JAM lo p q) JA Y8 (kM p q,kN p q l a e ks)=some (.normal,kM p q,kN p q l a2 (if b=true then .mk 5 0 0 0 [e']else e') (ks++[if b=true then .mk 5 0 0 0 [e']else e'])):=by
 have l1:lo<=p.length+(q.length+1):=om;have l2:lo<=p.length+(q.length+1+1):=om;have l3:lo<=p.length+(q.length+(1+1)+1):=om;obtain⟨ek,en,ed,eu,el⟩:=e;obtain⟨fk,fn,fd,fu,fl⟩:=e';simp only[JP]at ht;have z:=JKg c;have o1:=JCc hk;have o2:=JCd hk;have ra:=Hk ks;have rl:=Jf ks;have rb:=Hl ks
 cases b with
 |false=>
  rw[if_neg (by simp)]
  simp only[kM,kN,JAM,JP,xZ,xO,<-Qp,J6,JW];generalize ZG ks=K at ra rl rb⊢
  simp only[go_sem,Y8,JAG,Tryz.f142,hlo,l1,l2,l3,hs,ht,z,hb,o1,o2,ra,rl,rb]<;>rfl
 |true=>rw[if_pos rfl];simp only[kM,kN,JAM,JP,xZ,xO,<-Qp,J6,JW];generalize ZG ks=K at ra rl rb⊢;simp only[go_sem,Y8,JAG,Tryz.f142,hlo,l1,l2,l3,hs,ht,z,hb,o1,o2,ra,rl,rb]<;>rfl
theorem JG4{l:List CV}{a:Nat}{one other:Int}{apart:Bool}(h:l.length<=a):KM l a one other apart=(none,a):=
 JMi (BV.2 (by have:=JDW l a;omega))
theorem JDX{l:List CV}{a:Nat}{one other:Int}{apart b:Bool}(h:(KM l a one other apart).1=some b):a+1<=(KM l a one other apart).2:=by
 have h1:=JDW l a;have h2:=JDW l (skipS l a+1);unfold KM at h⊢
 cases hg:l[skipS l a]? with
 |none=>rw[hg]at h;cases h
 |some v=>
  rw[hg]at h;simp only at h⊢
  split at h
  ·rename_i hk
   rw[if_pos hk]
   split at h
   ·rename_i hc
    rw[if_pos hc];show a+1<=skipS l (skipS l a+1)
    omega
   ·cases h
  ·cases h
def JG5(step:Nat->X×Bool×Nat):Prop:=∀a,a<=(step a).2.2
theorem Hm{step:Nat->X×Bool×Nat}{sg:Nat->Option Bool×Nat}{inv:Int}:∀(f a:Nat) (ks ks':List X) (a':Nat),KJ step sg inv f a ks= .inr (ks',a')->ks'.length<=ks.length+f
 |0,a,ks,ks',a',h=>by unfold KJ at h;cases h;omega
 |f+1,a,ks,ks',a',h=>by
  unfold KJ at h
  split at h
  ·cases h;omega
  ·split at h
   ·cases h
   ·have:=Hm f _ _ _ _ h
    simp at this;omega
theorem JKh(hlo:lo<=p.length)(hl:l.length<=1000000000)(hy:∀v∈l,By v.t.b)(hst:JW8 step l)(hmo:JG5 step):∀(f a:Nat) (e:X) (ks:List X),l.length<=a+f->ks.length+f<=1000000000+1->
  match KJ step (λa=>KM l a 42 47 false) 5 f a ks with
  | .inl (e',a')=>∃ks',JA (evCode (JAM lo p q) JA Y8) (kM p q,kN p q l a e ks)=some (.ret,[(2,.ptr (p.length+(q.length+1)) 0),(3,.v (.bool false))],p++Rc l a'::(q++[.cells (xC e'),.cells (xC e'),.cells (xO 4 ks')]))
  | .inr (ks',a')=>∃e',JA (evCode (JAM lo p q) JA Y8) (kM p q,kN p q l a e ks)=some (.exit 0,kM p q++[(7,.v (.string ⟨#[]⟩)),(22,.v (.bool true))],kN p q l a' e' ks')
 |0,a,e,ks,hf,hk=>by
  have hs:=λlo (p q:List Ob) hlo=>f143 (lo:=lo) (p:=p) (q:=q) (l:=l) (a:=a) (one:=42) (other:=47) (apart:=false) hlo hl hy om om
  rw[JG4 om]at hs;unfold KJ
  exact⟨e,by rw[JJ,JSW hlo hs,Jx]⟩
 |f+1,a,e,ks,hf,hk=>by
  have hs:=λlo (p q:List Ob) hlo=>f143 (lo:=lo) (p:=p) (q:=q) (l:=l) (a:=a) (one:=42) (other:=47) (apart:=false) hlo hl hy om om
  have hon:=λb=>JDX (l:=l) (a:=a) (one:=42) (other:=47) (apart:=false) (b:=b)
  unfold KJ;generalize KM l a 42 47 false=r at hs hon⊢;obtain⟨o,a1⟩:=r
  cases o with
  |none=>exact⟨e,by rw[JJ,JSW hlo hs,Jx]⟩
  |some b=>
   have h1:=hon b rfl;have ht:=λlo (p q:List Ob) hlo=>hst lo p q a1 hlo
   have hm:=hmo a1;simp only;generalize step a1=t at ht hm⊢;obtain⟨e',ok,a2⟩:=t
   cases ok with
   |false=>
    refine⟨ks,?_⟩
    cases b with
    |false=>rw[JJ,JSX (c:=42) hlo hs ht,Ki]
    |true=>rw[JJ,JSX (c:=47) hlo hs ht,Ki]
   |true=>
    simp only at h1 hm;have ih:=JKh hlo hl hy hst hmo f a2 (if b=true then .mk 5 0 0 0 [e']else e') (ks++[if b=true then .mk 5 0 0 0 [e']else e']) om (by simp;omega)
    cases b with
    |false=>
     rw[JJ,JSY (c:=42) (b:=false) hlo om (Jc9 (by decide)) hs ht,Jg]
     exact ih
    |true=>rw[JJ,JSY (c:=47) (b:=true) hlo om JdA hs ht,Jg];exact ih
attribute [go_sem] List.getLast?_cons_cons List.getLast?_singleton
theorem f142(hlo:lo<=p.length)(hl:l.length<=100000000)(hy:∀v∈l,By v.t.b)(hst:JW8 step l)(hmo:JG5 step):
  E lo 142 [.ptr p.length 0] (p++Rc l a::q)=some (.tup [.agg (xC (Qa step (λa=>KM l a 42 47 false) 4 5 (l.length+1) a).1),.v (.bool (Qa step (λa=>KM l a 42 47 false) 4 5 (l.length+1) a).2.1)],
   p++Rc l (Qa step (λa=>KM l a 42 47 false) 4 5 (l.length+1) a).2.2::q):=by
 have l1:lo<=p.length+(q.length+1):=om;have l2:lo<=p.length+(q.length+1+1):=om;have l3:lo<=p.length+(q.length+(1+1)+1):=om;have l4:lo<=p.length+(q.length+3+1):=om;have ht:=λlo (p q:List Ob) hlo=>hst lo p q a hlo
 have hm:=hmo a;unfold Qa;rw[Jjp];generalize step a=t at ht hm⊢;obtain⟨e,ok,a1⟩:=t
 cases ok with
 |false=>
  simp only;obtain⟨ek,en,ed,eu,el⟩:=e;simp only[JP]at ht⊢
  simp only[go_sem,JAG,Tryz.f142,hlo,l1,l2,ht]<;>rfl
 |true=>
  simp only at hm⊢;have hL:=JKh (lo:=lo) (p:=p) (q:=q) hlo om hy hst hmo (l.length+1) a1 e [e] om (by simp;omega)
  have hcl:=Hm (step:=step) (sg:=λa=>KM l a 42 47 false) (inv:=5) (l.length+1) a1 [e]
  generalize KJ step (λa=>KM l a 42 47 false) 5 (l.length+1) a1 [e]=r at hL hcl⊢
  obtain⟨ek,en,ed,eu,el⟩:=e
  cases r with
  |inl r=>
   obtain⟨e',a'⟩:=r;obtain⟨ks',hL⟩:=hL;obtain⟨fk,fn,fd,fu,fl⟩:=e';simp only[JP]at ht⊢;simp only[Y8,JAG,Tryz.f142,JK,loops,JB,kM,kN,JAM,JP,xZ,xO,J6,JW,go_sem]at hL
   simp only[go_sem,JAG,Tryz.f142,hlo,l1,l2,l3,ht,hL]<;>rfl
  |inr r=>
   obtain⟨ks',a'⟩:=r;obtain⟨e',hL⟩:=hL;have hks:=hcl ks' a' rfl;have c144:=λlo h hlo=>f144 (lo:=lo) (h:=h) (e:= .mk 4 0 0 0 ks') hlo (by simp at hks;show ks'.length<=_;omega)
   obtain⟨fk,fn,fd,fu,fl⟩:=e';simp only;generalize J8 (.mk 4 0 0 0 ks')=sx at c144⊢;obtain⟨gk,gn,gd,gu,gl⟩:=sx;simp only[JP]at ht c144⊢;simp only[Y8,JAG,Tryz.f142,JK,loops,JB,kM,kN,JAM,JP,xZ,xO,J6,JW,go_sem]at hL;simp only[go_sem,JAG,Tryz.f142,hlo,l1,l2,l3,l4,ht,c144,hL]<;>rfl
end
def JW9(step:Nat->X×Bool×Nat)(l:List CV):Prop:=∀lo (p q:List Ob) a,lo<=p.length->E lo 142 [.ptr p.length 0] (p++Rc l a::q)=some (.tup [.agg (xC (step a).1),.v (.bool (step a).2.1)],p++Rc l (step a).2.2::q)
abbrev kO(p q:List Ob):Jr:=[(0,.ptr p.length 0),(2,.ptr (p.length+(q.length+1)) 0),(4,.ptr (p.length+(q.length+1+1)) 0),(6,.ptr (p.length+(q.length+(1+1)+1)) 0)]
abbrev kP(p q:List Ob)(l:List CV)(a:Nat)(e:X)(ks:List X):JM:=p++Rc l a::(q++[.cells xZ,.cells (xC e),.cells (xO 2 ks)])
noncomputable abbrev JAN(lo:Nat)(p q:List Ob):Go.Lift.Cx:=⟨Aa,E,lo,p.length+(q.length+1),JWq⟩
section
variable{l:List CV}{a a1:Nat}{e:X}{ks:List X}{step:Nat->X×Bool×Nat}
theorem JSZ(hlo:lo<=p.length)(hs:∀lo (p q:List Ob),lo<=p.length->E lo 143 [.ptr p.length 0,.v (.string ⟨#[43]⟩),.v (.string ⟨#[45]⟩),.v (.bool true)] (p++Rc l a::q)=some (.v (.string ⟨#[]⟩),p++Rc l a1::q)):
  evCode (JAN lo p q) JA Y7 (kO p q,kP p q l a e ks)=some (.exit 0,kO p q++[(7,.v (.string ⟨#[]⟩)),(22,.v (.bool true))],kP p q l a1 e ks):=by
 have l1:lo<=p.length+(q.length+1):=om;obtain⟨ek,en,ed,eu,el⟩:=e;simp only[kO,kP,JAN,JP,xZ,xO,go_sem,Y7,JAD,Tryz.f138,hlo,l1,hs,JSV]<;>rfl
theorem JSa{c:UInt8}{e':X}{a2:Nat}(hlo:lo<=p.length)(hs:∀lo (p q:List Ob),lo<=p.length->E lo 143 [.ptr p.length 0,.v (.string ⟨#[43]⟩),.v (.string ⟨#[45]⟩),.v (.bool true)] (p++Rc l a::q)=some (.v (.string ⟨#[c]⟩),p++Rc l a1::q))
  (ht:∀lo (p q:List Ob),lo<=p.length->E lo 142 [.ptr p.length 0] (p++Rc l a1::q)=some (.tup [.agg (xC e'),.v (.bool false)],p++Rc l a2::q)):
  evCode (JAN lo p q) JA Y7 (kO p q,kP p q l a e ks)=some (.ret,[(2,.ptr (p.length+(q.length+1)) 0),(3,.v (.bool false))],p++Rc l a2::(q++[.cells (xC e'),.cells (xC e'),.cells (xO 2 ks)])):=by
 have l1:lo<=p.length+(q.length+1):=om;have l2:lo<=p.length+(q.length+1+1):=om;obtain⟨ek,en,ed,eu,el⟩:=e;obtain⟨fk,fn,fd,fu,fl⟩:=e';simp only[JP]at ht;have z:=JKg c;simp only[kO,kP,JAN,JP,xZ,xO,go_sem,Y7,JAD,Tryz.f138,hlo,l1,l2,hs,ht,z]<;>rfl
theorem JSb{c:UInt8}{e':X}{a2:Nat}{b:Bool}(hlo:lo<=p.length)(hk:ks.length<=1000000000)(hb:((⟨#[c]⟩:ByteArray).toList==(⟨#[45]⟩:ByteArray).toList)=b)
  (hs:∀lo (p q:List Ob),lo<=p.length->E lo 143 [.ptr p.length 0,.v (.string ⟨#[43]⟩),.v (.string ⟨#[45]⟩),.v (.bool true)] (p++Rc l a::q)=some (.v (.string ⟨#[c]⟩),p++Rc l a1::q))
  (ht:∀lo (p q:List Ob),lo<=p.length->E lo 142 [.ptr p.length 0] (p++Rc l a1::q)=some (.tup [.agg (xC e'),.v (.bool true)],p++Rc l a2::q)):
  evCode (JAN lo p q) JA Y7 (kO p q,kP p q l a e ks)=some (.normal,kO p q,kP p q l a2 (if b=true then .mk 3 0 0 0 [e']else e') (ks++[if b=true then .mk 3 0 0 0 [e']else e'])):=by
 have l1:lo<=p.length+(q.length+1):=om;have l2:lo<=p.length+(q.length+1+1):=om;have l3:lo<=p.length+(q.length+(1+1)+1):=om;obtain⟨ek,en,ed,eu,el⟩:=e;obtain⟨fk,fn,fd,fu,fl⟩:=e';simp only[JP]at ht;have z:=JKg c;have o1:=JCc hk;have o2:=JCd hk;have ra:=Hk ks;have rl:=Jf ks;have rb:=Hl ks
 cases b with
 |false=>
  rw[if_neg (by simp)]
  simp only[kO,kP,JAN,JP,xZ,xO,<-Qp,J6,JW];generalize ZG ks=K at ra rl rb⊢
  simp only[go_sem,Y7,JAD,Tryz.f138,hlo,l1,l2,l3,hs,ht,z,hb,o1,o2,ra,rl,rb]<;>rfl
 |true=>rw[if_pos rfl];simp only[kO,kP,JAN,JP,xZ,xO,<-Qp,J6,JW];generalize ZG ks=K at ra rl rb⊢;simp only[go_sem,Y7,JAD,Tryz.f138,hlo,l1,l2,l3,hs,ht,z,hb,o1,o2,ra,rl,rb]<;>rfl
theorem JKi(hlo:lo<=p.length)(hl:l.length<=1000000000)(hy:∀v∈l,By v.t.b)(hst:JW9 step l)(hmo:JG5 step):∀(f a:Nat) (e:X) (ks:List X),l.length<=a+f->ks.length+f<=1000000000+1->
  match KJ step (λa=>KM l a 43 45 true) 3 f a ks with
  | .inl (e',a')=>∃ks',JA (evCode (JAN lo p q) JA Y7) (kO p q,kP p q l a e ks)=some (.ret,[(2,.ptr (p.length+(q.length+1)) 0),(3,.v (.bool false))],p++Rc l a'::(q++[.cells (xC e'),.cells (xC e'),.cells (xO 2 ks')]))
  | .inr (ks',a')=>∃e',JA (evCode (JAN lo p q) JA Y7) (kO p q,kP p q l a e ks)=some (.exit 0,kO p q++[(7,.v (.string ⟨#[]⟩)),(22,.v (.bool true))],kP p q l a' e' ks')
 |0,a,e,ks,hf,hk=>by
  have hs:=λlo (p q:List Ob) hlo=>f143 (lo:=lo) (p:=p) (q:=q) (l:=l) (a:=a) (one:=43) (other:=45) (apart:=true) hlo hl hy om om
  rw[JG4 om]at hs;unfold KJ
  exact⟨e,by rw[JJ,JSZ hlo hs,Jx]⟩
 |f+1,a,e,ks,hf,hk=>by
  have hs:=λlo (p q:List Ob) hlo=>f143 (lo:=lo) (p:=p) (q:=q) (l:=l) (a:=a) (one:=43) (other:=45) (apart:=true) hlo hl hy om om
  have hon:=λb=>JDX (l:=l) (a:=a) (one:=43) (other:=45) (apart:=true) (b:=b)
  unfold KJ;generalize KM l a 43 45 true=r at hs hon⊢;obtain⟨o,a1⟩:=r
  cases o with
  |none=>exact⟨e,by rw[JJ,JSZ hlo hs,Jx]⟩
  |some b=>
   have h1:=hon b rfl;have ht:=λlo (p q:List Ob) hlo=>hst lo p q a1 hlo
   have hm:=hmo a1;simp only;generalize step a1=t at ht hm⊢;obtain⟨e',ok,a2⟩:=t
   cases ok with
   |false=>
    refine⟨ks,?_⟩
    cases b with
    |false=>rw[JJ,JSa (c:=43) hlo hs ht,Ki]
    |true=>rw[JJ,JSa (c:=45) hlo hs ht,Ki]
   |true=>
    simp only at h1 hm;have ih:=JKi hlo hl hy hst hmo f a2 (if b=true then .mk 3 0 0 0 [e']else e') (ks++[if b=true then .mk 3 0 0 0 [e']else e']) om (by simp;omega)
    cases b with
    |false=>
     rw[JJ,JSb (c:=43) (b:=false) hlo om (Jc9 (by decide)) hs ht,Jg]
     exact ih
    |true=>rw[JJ,JSb (c:=45) (b:=true) hlo om JdA hs ht,Jg];exact ih
theorem f138(hlo:lo<=p.length)(hl:l.length<=100000000)(hy:∀v∈l,By v.t.b)(hst:JW9 step l)(hmo:JG5 step):
  E lo 138 [.ptr p.length 0] (p++Rc l a::q)=some (.tup [.agg (xC (Qa step (λa=>KM l a 43 45 true) 2 3 (l.length+1) a).1),.v (.bool (Qa step (λa=>KM l a 43 45 true) 2 3 (l.length+1) a).2.1)],
   p++Rc l (Qa step (λa=>KM l a 43 45 true) 2 3 (l.length+1) a).2.2::q):=by
 have l1:lo<=p.length+(q.length+1):=om;have l2:lo<=p.length+(q.length+1+1):=om;have l3:lo<=p.length+(q.length+(1+1)+1):=om;have l4:lo<=p.length+(q.length+3+1):=om;have ht:=λlo (p q:List Ob) hlo=>hst lo p q a hlo
 have hm:=hmo a;unfold Qa;rw[Jjm];generalize step a=t at ht hm⊢;obtain⟨e,ok,a1⟩:=t
 cases ok with
 |false=>
  simp only;obtain⟨ek,en,ed,eu,el⟩:=e;simp only[JP]at ht⊢
  simp only[go_sem,JAD,Tryz.f138,hlo,l1,l2,ht]<;>rfl
 |true=>
  simp only at hm⊢;have hL:=JKi (lo:=lo) (p:=p) (q:=q) hlo om hy hst hmo (l.length+1) a1 e [e] om (by simp;omega)
  have hcl:=Hm (step:=step) (sg:=λa=>KM l a 43 45 true) (inv:=3) (l.length+1) a1 [e]
  generalize KJ step (λa=>KM l a 43 45 true) 3 (l.length+1) a1 [e]=r at hL hcl⊢
  obtain⟨ek,en,ed,eu,el⟩:=e
  cases r with
  |inl r=>
   obtain⟨e',a'⟩:=r;obtain⟨ks',hL⟩:=hL;obtain⟨fk,fn,fd,fu,fl⟩:=e';simp only[JP]at ht⊢;simp only[Y7,JAD,Tryz.f138,JK,loops,JB,kO,kP,JAN,JP,xZ,xO,J6,JW,go_sem]at hL
   simp only[go_sem,JAD,Tryz.f138,hlo,l1,l2,l3,ht,hL]<;>rfl
  |inr r=>
   obtain⟨ks',a'⟩:=r;obtain⟨e',hL⟩:=hL;have hks:=hcl ks' a' rfl;have c144:=λlo h hlo=>f144 (lo:=lo) (h:=h) (e:= .mk 2 0 0 0 ks') hlo (by simp at hks;show ks'.length<=_;omega)
   obtain⟨fk,fn,fd,fu,fl⟩:=e';simp only;generalize J8 (.mk 2 0 0 0 ks')=sx at c144⊢;obtain⟨gk,gn,gd,gu,gl⟩:=sx;simp only[JP]at ht c144⊢;simp only[Y7,JAD,Tryz.f138,JK,loops,JB,kO,kP,JAN,JP,xZ,xO,J6,JW,go_sem]at hL;simp only[go_sem,JAD,Tryz.f138,hlo,l1,l2,l3,l4,ht,c144,hL]<;>rfl
end
end Go.Lift.Y1
end

section
open Go.Proofs
namespace Go.Lift.Y1
open Rul
variable{lo:Nat}{h:JM}
abbrev N55(l out:List CV)(k:Int):Jr:=[(3,.list .yes (JH out)),(6,.list .no (JH l)),(7,.v (.int .i64 l.length)),(8,.v (.int .i64 k))]
theorem JdB{n:Nat}(h:n<=1000000000):(n+1)*72<=140737488355328:=om
theorem JkG{n:Nat}(h:n<=1000000000):n<=9223372036854775806:=om
theorem JMj(out:List CV)(t:Tk4)(ks:List CV):JH out++[[V.v (Value.int AQ t.k),V.v (Value.string (Rul.bs t.b)),V.v (Value.int AQ t.n),V.v (Value.int AQ t.d),V.v (Value.bool t.w),V.v (Value.bool t.i),V.list .no (JH ks)]]=JH (out++[.mk t ks]):=by
 rw[JMA,JY,JZ,JN]
theorem JRf{l out:List CV}{v:CV}{k:Nat}(hlo:lo<=h.length)(hl:JL l<=1000000000)(hg:l[k]? =some v)(ho:out.length<=1000000000)
  (ih:∀lo h,lo<=h.length->E lo 57 [.list .no (JH v.ks)] h=some (.list .no (JH v.ks),h)):
  evCode ⟨Aa,E,lo,h.length,h57⟩ JA JBr (N55 l out k,h)=some (.normal,N55 l (out++[v]) (k+1:Nat),h):=by
 obtain⟨t,ks⟩:=v;have hlt:k<l.length:=(Ab.1 hg).1
 have hgr:(JH l)[k]? =some (Jp (.mk t ks)):=by rw[Jm,hg];rfl
 have q:decide ((k:Int)<(l.length:Int))=true:=by simp;omega
 have hll:=JT l;have hw:=Jd (i:=k) om;have hlo':lo<=h.length+1:=om;have c55:=λlo hlo=>ih lo (h++[.cells (Jp (.mk t ks))]) hlo
 rw[JN]at*;have c55a:=c55 lo (by simp;omega);have c55b:=c55 (h.length+1) (by simp)
 clear c55 ih;have o1:=JdB ho;have o2:=JkG ho;have ra:=Jn out;have rl:=JC out;have rb:=JA2 out;simp only[CV.ks]at c55a c55b;simp only[N55];rw[<-JMj];generalize JH out=R at*;simp only[N55,go_sem,JBr,b57,Tryz.f57,hlo,hlo',q,hgr,hw,c55a,c55b,o1,o2,ra,rl,rb,JC]<;>rfl
theorem JXA{l out:List CV}(hlo:lo<=h.length):evCode ⟨Aa,E,lo,h.length,h57⟩ JA JBr (N55 l out l.length,h)=
   some (.exit 0,N55 l out l.length++[(9,.v (.bool false))],h):=by
 have q:decide ((l.length:Int)<(l.length:Int))=false:=by simp
 simp only[N55,go_sem,JBr,b57,Tryz.f57,hlo,q]<;>rfl
theorem JPG{l:List CV}(hlo:lo<=h.length)(hl:JL l<=1000000000)
  (ih:∀v∈l,∀lo h,lo<=h.length->E lo 57 [.list .no (JH v.ks)] h=some (.list .no (JH v.ks),h)):
  ∀(m k:Nat),k+m=l.length->JA (evCode ⟨Aa,E,lo,h.length,h57⟩ JA JBr) (N55 l (l.take k) k,h)=some (.exit 0,N55 l l l.length++[(9,.v (.bool false))],h)
 |0,k,hk=>by
  obtain rfl:k=l.length:=om
  rw[BQ,JJ,JXA hlo,Jx]
 |m+1,k,hk=>by
  have hlt:k<l.length:=om;have hll:=JT l;have hr:=JRf (h:=h) (out:=l.take k) hlo hl (Ac hlt) (by rw[As];omega) (ih _ (AN hlt))
  rw[JJ,hr,Jg,<-Bk hlt];exact JPG hlo hl ih m (k+1) om
theorem f57:∀(n:Nat) (l:List CV),JL l<=n->n<=1000000000->∀(lo:Nat) (h:JM),lo<=h.length->E lo 57 [.list .no (JH l)] h=some (.list .no (JH l),h)
 |n,l,hl,hn,lo,h,hlo=>by
  have hL:=JPG (lo:=lo) (h:=h) (l:=l) hlo om (λv hv lo' h' hlo'=>by
   have h1:=KH hv;rw[QA]at h1
   exact f57 (n-1) v.ks om om lo' h' hlo') l.length 0 om
  have n0:((0:Nat):Int)=0:=rfl;rw[B0]at hL;rw[e57];simp only[JBr,b57,Tryz.f57,JK,loops,JB,go_sem,N55,n0,JZ,AK,Aq]at hL;simp only[go_sem,b57,Tryz.f57,hlo,hL,JC,n0]<;>rfl
 termination_by n=>n
 decreasing_by
  have h1:=KH hv;rw[QA]at h1;omega
theorem Wd{l m:List CV}(h:m<:+l):JL m<=JL l:=by obtain⟨p,rfl⟩:=h;rw[GJ];omega
theorem JA4{l m:List CV}(h:m<+:l):JL m<=JL l:=by obtain⟨p,rfl⟩:=h;rw[GJ];omega
theorem jY:∀l:List CV,JL l.reverse=JL l
 |[]=>rfl
 |v::r=>by rw[List.reverse_cons,GJ,jY r,J4,J4,QG];omega
theorem KX(l:List CV):JL (Je l)<=JL l:=by
 unfold Je;rw[jY];refine Br (Wd (BC _)) ?_
 rw[jY];exact Wd (BC _)
theorem f25{l:List CV}(hlo:lo<=h.length)(hl:JL l<=1000000000):E lo 25 [.list .no (JH l)] h=some (.list .no (JH (Je l)),h):=by have hll:=JT l;have c57:=f58 (lo:=lo) (h:=h) (l:=l) hlo om;have c55:=f57 _ (Je l) (KX l) om lo h hlo;rw[e25];simp only[go_sem,b25,Tryz.f25,hlo,c57,c55]<;>rfl
theorem Wb{l:List CV}{i f:Nat}:JL ((l.take i).drop f)<=JL l:=Br (Wd (Lg ..)) (JA4 (List.take_prefix ..))
theorem yM{l:List CV}{f:Nat}:JL (l.drop f)<=JL l:=Wd (Lg ..)
abbrev JA5(l:List CV)(out:List (List CV))(f i:Nat):Jr:=[(0,.list .no (JH l)),(3,.list .yes (Wn out)),(4,.v (.int .i64 f)),(7,.list .no (JH l)),(8,.v (.int .i64 l.length)),(9,.v (.int .i64 i))]
theorem JRg{l:List CV}{out:List (List CV)}{v:CV}{f i:Nat}(hlo:lo<=h.length)(hl:JL l<=1000000000)(hg:l[i]? =some v)(hf:f<=i)(ho:out.length<=1000000000)(hk:v.k=18):
  evCode ⟨Aa,E,lo,h.length,JOw⟩ JA jT (JA5 l out f i,h)=some (.normal,JA5 l (out++[Je ((l.take i).drop f)]) (i+1) (i+1),h):=by
 obtain⟨t,ks⟩:=v;have hlt:i<l.length:=(Ab.1 hg).1
 have hll:l.length<=1000000000:=by have:=JT l;omega
 have hgr:(JH l)[i]? =some (Jp (.mk t ks)):=by rw[Jm,hg];rfl
 have q:decide ((i:Int)<(l.length:Int))=true:=by simpa using hlt
 have hw:=Jd (i:=i) om;have qk:(t.k==18)=true:=by rw[beq_iff_eq];exact hk
 have l1:lo<=h.length+1:=om;have hi:i<=l.length:=om;have hc:=λlo hlo=>f25 (lo:=lo) (h:=h++[.cells (Jp (.mk t ks))]) (l:=(l.take i).drop f) hlo (by have:=Wb (l:=l) (i:=i) (f:=f);omega)
 rw[JN]at*;have ca:=hc lo (by simp;omega);have cb:=hc (h.length+1) (by simp)
 clear hc;have ed:((JH l).take i).drop f=JH ((l.take i).drop f):=by rw[Ku,K3]
 have ra:=Jn ((l.take i).drop f);have rl:=Jn l;have pa:=yg out;have pl:=Hj out;have pi:=yh out;have o1:(out.length+1)*24<=140737488355328:=om;have o2:out.length<=9223372036854775806:=om;simp only[JA5];rw[kL];generalize Wn out=R at*;simp only[go_sem,jT,JJW,Tryz.f119,hlo,q,hgr,hw,qk,l1,hi,hf,ca,cb,ed,ra,rl,pa,pl,pi,o1,o2,JC]<;>rfl
theorem JXB{l:List CV}{out:List (List CV)}{v:CV}{f i:Nat}(hlo:lo<=h.length)(hl:l.length<=1000000000)(hg:l[i]? =some v)(hk:v.k≠18):
  evCode ⟨Aa,E,lo,h.length,JOw⟩ JA jT (JA5 l out f i,h)=some (.normal,JA5 l out f (i+1),h):=by
 obtain⟨t,ks⟩:=v;have hlt:i<l.length:=(Ab.1 hg).1
 have hgr:(JH l)[i]? =some (Jp (.mk t ks)):=by rw[Jm,hg];rfl
 have q:decide ((i:Int)<(l.length:Int))=true:=by simpa using hlt
 have hw:=Jd (i:=i) om;have qk:(t.k==18)=false:=by rw[beq_eq_false_iff_ne];exact hk
 have l1:lo<=h.length+1:=om;rw[JN]at*;simp only[JA5,go_sem,jT,JJW,Tryz.f119,hlo,q,hgr,hw,qk,l1,JC]<;>rfl
theorem JDY{l:List CV}(hlo:lo<=h.length)(hl:JL l<=1000000000):∀(m i f:Nat) (out:List (List CV)),m=l.length-i->i<=l.length->f<=i->out.length<=i->
  ∃(f':Nat) (o:List (List CV)),f'<=l.length/\o.length<=l.length/\out++QZ ((l.take i).drop f) (l.drop i)=o++[Je (l.drop f')]/\
   JA (evCode ⟨Aa,E,lo,h.length,JOw⟩ JA jT) (JA5 l out f i,h)=some (.exit 0,JA5 l o f' l.length++[(10,.v (.bool false))],h)
 |0,i,f,out,hm,hi,hf,ho=>by
  obtain rfl:i=l.length:=om;have hd:decide ((l.length:Int)<(l.length:Int))=false:=by simp
  refine⟨f,out,hf,ho,?_,?_⟩
  ·rw[AY,QZ,BQ]
  ·rw[JJ]
   simp only[JA5,go_sem,jT,JJW,Tryz.f119,hlo,hd]<;>rfl
 |m+1,i,f,out,hm,hi,hf,ho=>by
  have hlt:i<l.length:=om;have hll:l.length<=1000000000:=by have:=JT l;omega
  have hg:=Ac hlt
  rw[Ap hlt,QZ,JJ];by_cases hk:(l[i]).k=18
  ·rw[if_pos hk,JRg hlo hl hg hf om hk,Jg]
   obtain⟨f',o,h1,h2,h3,h4⟩:=JDY hlo hl m (i+1) (i+1) (out++[Je ((l.take i).drop f)]) om om (Ag _) (by rw[Ax,List.length_singleton];omega)
   have e0:(l.take (i+1)).drop (i+1)=[]:=A6 (by rw[As];omega)
   rw[e0,AM,List.singleton_append]at h3;exact⟨f',o,h1,h2,h3,h4⟩
  ·rw[if_neg hk,JXB hlo hll hg hk,Jg]
   obtain⟨f',o,h1,h2,h3,h4⟩:=JDY hlo hl m (i+1) f out om om om om
   have hd:(l.take (i+1)).drop f=(l.take i).drop f++[l[i]]:=by rw[Bk hlt,List.drop_append_of_le_length (by rw[As];omega)]
   rw[hd]at h3;exact⟨f',o,h1,h2,h3,h4⟩
theorem f119{l:List CV}(hlo:lo<=h.length)(hl:JL l<=1000000000):E lo 119 [.list .no (JH l)] h=some (.list .no (Wn (J1 l)),h):=by
 have hll:l.length<=1000000000:=by have:=JT l;omega
 obtain⟨f',o,h1,h2,h3,h4⟩:=JDY (lo:=lo) (h:=h) hlo hl l.length 0 0 [] om (Nat.zero_le _) (Ag _) (Ag _);simp only[Aq,AJ,B0,List.drop_nil]at h3;have e:J1 l=o++[Je (l.drop f')]:=h3;rw[e,kL];simp only[JA5,jT,JJW,Tryz.f119,JK,loops,JB,go_sem,Wn,List.map_nil]at h4;have hc:=λlo hlo=>f25 (lo:=lo) (h:=h) (l:=l.drop f') hlo (by have:=yM (l:=l) (f:=f');omega)
 have ca:=hc lo hlo;have cb:=hc h.length (Ag _);have n0:((0:Nat):Int)=0:=rfl;have ed:(JH l).drop f'=JH (l.drop f'):=K3 l f';have et:(JH l).take l.length=JH l:=by rw[Ku,BQ]
 have ra:=Jn (l.drop f');have rl:=Jn l;have pa:=yg o;have pl:=Hj o;have pi:=yh o;have o1:(o.length+1)*24<=140737488355328:=om;have o2:o.length<=9223372036854775806:=om;unfold Wn at pa pl pi⊢;rw[JjQ];simp only[go_sem,JJW,Tryz.f119,hlo,n0,h4,h1,ca,cb,ed,et,ra,rl,pa,pl,pi,o1,o2,JC]<;>rfl
end Go.Lift.Y1
end

section
open Go.Proofs
namespace Go.Lift.Y1
open Rul
open Utf (By)
variable{lo:Nat}{h:JM}
theorem JPH{l:List CV}{a:Nat}{one other:Int}{apart:Bool}(h:(KM l a one other apart).1=none):(KM l a one other apart).2=a:=by
 unfold KM at h⊢
 cases hg:l[skipS l a]? with
 |none=>rfl
 |some v=>
  rw[hg]at h;simp only at h⊢
  split at h
  ·rename_i hk
   rw[if_pos hk]
   split at h
   ·cases h
   ·rename_i hc
    rw[if_neg hc]
  ·rename_i hk
   rw[if_neg hk]
theorem JRh(l:List CV)(a:Nat)(one other:Int)(apart:Bool):a<=(KM l a one other apart).2:=by
 cases hs:(KM l a one other apart).1 with
 |none=>rw[JPH hs];exact Ag _
 |some b=>have:=JDX hs;omega
theorem JDZ(op:CV->X×Bool)(l:List CV):JG5 (J2 op l):=λa=>by
 unfold J2
 cases l[a]? with
 |none=>exact Ag _
 |some v=>exact Nat.le_succ _
theorem JAO{step:Nat->X×Bool×Nat}{sg:Nat->Option Bool×Nat}{inv:Int}(hm:JG5 step)(hs:∀a,a<=(sg a).2):∀(f a:Nat) (ks:List X),
  match KJ step sg inv f a ks with
  | .inl (_,a')=>a<=a'
  | .inr (_,a')=>a<=a'
 |0,a,ks=>by unfold KJ;exact Ag _
 |f+1,a,ks=>by
  have h1:=hs a;unfold KJ;generalize sg a=r at h1⊢;obtain⟨o,a1⟩:=r
  cases o with
  |none=>exact h1
  |some b=>
   have h2:=hm a1;simp only;generalize step a1=t at h2⊢;obtain⟨e,ok,a2⟩:=t;simp only at h1 h2
   cases ok with
   |false=>simp only;omega
   |true=>
    simp only;have ih:=JAO (inv:=inv) hm hs f a2 (ks++[if b=true then .mk inv 0 0 0 [e]else e])
    revert ih;generalize KJ step sg inv f a2 (ks++[if b=true then .mk inv 0 0 0 [e]else e])=r
    intro ih
    match r,ih with
    | .inl (_,a'),ih=>simp only at ih⊢;omega
    | .inr (_,a'),ih=>simp only at ih⊢;omega
theorem JJd{step:Nat->X×Bool×Nat}{sg:Nat->Option Bool×Nat}{kind inv:Int}{f:Nat}(hm:JG5 step)(hs:∀a,a<=(sg a).2):JG5 (Qa step sg kind inv f):=λa=>by
 have h1:=hm a;unfold Qa;generalize step a=t at h1⊢;obtain⟨e,ok,a1⟩:=t
 cases ok with
 |false=>exact h1
 |true=>
  simp only at h1⊢;have h2:=JAO (inv:=inv) hm hs f a1 [e];revert h2;generalize KJ step sg inv f a1 [e]=r;intro h2
  match r,h2 with
  | .inl (_,a'),h2=>simp only at h2⊢;omega
  | .inr (_,a'),h2=>simp only at h2⊢;omega
theorem JdC{l:List CV}{a:Nat}{w:List CV->X×Bool}{p q:List Ob}(hlo:lo<=p.length)(hl:l.length<=100000000)(hy:∀v∈l,By v.t.b)(h:∀v∈l,W97 w v.ks/\W72 w v):
  E lo 138 [.ptr p.length 0] (p++Rc l a::q)=some (.tup [.agg (xC (JJc (kz w) l a).1),.v (.bool (JJc (kz w) l a).2.1)],p++Rc l (JJc (kz w) l a).2.2::q):=by
 have m1:=JDZ (kz w) l;have s1:JW8 (J2 (kz w) l) l:=λlo p q a hlo=>f147 hlo om h
 have s2:JW9 (Qn (kz w) l) l:=λlo p q a hlo=>f142 hlo hl hy s1 m1
 exact f138 hlo hl hy s2 (JJd m1 λa=>JRh ..)
theorem f118{l:List CV}{n:Nat}(hlo:lo<=h.length)(hl:JL l<=100000000)(hy:∀v∈Je l,By v.t.b)(hv:∀v∈Je l,W97 (KZ n) v.ks/\W72 (KZ n) v):
  E lo 118 [.list .no (JH l)] h=some (.tup [.agg (xC (KZ (n+1) l).1),.v (.bool (KZ (n+1) l).2)],h):=by
 have l1:lo<=h.length+1:=om;have l2:lo<=h.length+1+1:=om;have hll:=JT (Je l);have htl:=KX l;have c25:=λlo h hlo=>f25 (lo:=lo) (h:=h) (l:=l) hlo om
 have c138:=λlo h hlo=>JdC (lo:=lo) (l:=Je l) (a:=0) (w:=KZ n) (p:=h++[.cells xZ]) (q:=[]) hlo om hy hv
 simp only[Ax,Ai,Ak,AM,AK,Aq,Nat.zero_add,Rc,show((0:Nat):Int)=0 from rfl]at c138
 unfold KZ;simp only;generalize Je l=L at c25 c138 hll⊢;generalize JJc (kz (KZ n)) L 0=r at c138⊢;obtain⟨⟨ek,en,ed,eu,el⟩,ok,a1⟩:=r;have hq:((a1:Int)==(L.length:Int))=(a1==L.length):=by rw[BJ,beq_iff_eq,beq_iff_eq];omega
 rw[JjP (by simp) (by rfl)]
 simp only[JP,xZ,Rc]at c138⊢
 cases ok with
 |false=>
  rw[An];simp(config:={maxSteps:=4000000})only[go_sem,JMJ,Tryz.f118,hlo,l1,l2,c25,c138,JC,hq]
  all_goals rfl
 |true=>rw[Au];simp(config:={maxSteps:=4000000})only[go_sem,JMJ,Tryz.f118,hlo,l1,l2,c25,c138,JC,hq];all_goals rfl
def okT(t:Tk4):Prop:=By t.b/\t.b.length<=1000000000/\(-9223372036854775808<=t.n/\t.n<=9223372036854775807)/\(-9223372036854775808<=t.d/\t.d<=9223372036854775807)
theorem JkH{t:Tk4}{kids:List CV}{w:List CV->X×Bool}(hlo:lo<=h.length)(ht:okT t)(hk:(t.k==10)=true):
  E lo 92 [.agg (Jp (.mk t kids))] h=some (.tup [.agg (xC (KA w (.mk t kids)).1),.v (.bool (KA w (.mk t kids)).2)],h):=by
 have l1:lo<=h.length+1:=om;have l2:lo<=h.length+1+1:=om;have l3:lo<=h.length+3:=om;have c115:=λlo h hlo=>f115 (lo:=lo) (h:=h) (n:=t.n) (d:=t.d) (u:=0) ht.2.2.1.1 ht.2.2.1.2 ht.2.2.2.2 hlo
 rw[qX hk,e92];simp only;generalize yW t.n t.d 0=x at c115⊢;obtain⟨ek,en,ed,eu,el⟩:=x;simp only[JP,JN]at c115⊢;simp only[go_sem,b92,Tryz.f92,hlo,l1,l2,l3,hk,c115]<;>rfl
theorem JkJ{t:Tk4}{kids:List CV}{w:List CV->X×Bool}(hlo:lo<=h.length)(ht:okT t)(h0:(t.k==10)=false)(hk:(t.k==12)=true):
  E lo 92 [.agg (Jp (.mk t kids))] h=some (.tup [.agg (xC (KA w (.mk t kids)).1),.v (.bool (KA w (.mk t kids)).2)],h):=by
 have l1:lo<=h.length+1:=om;have l2:lo<=h.length+1+1:=om;have l3:lo<=h.length+3:=om;have c116:=λlo h hlo=>f116 (lo:=lo) (h:=h) (b:=t.b) hlo ht.1 ht.2.1
 have c115:=λlo h hlo=>f115 (lo:=lo) (h:=h) (n:=t.n) (d:=t.d) (u:=ZC t.b) ht.2.2.1.1 ht.2.2.1.2 ht.2.2.2.2 hlo
 rw[JCa h0 hk,e92];simp only;generalize yW t.n t.d (ZC t.b)=x at c115⊢;obtain⟨ek,en,ed,eu,el⟩:=x;simp only[JP,JN]at c115⊢;simp only[go_sem,b92,Tryz.f92,hlo,l1,l2,l3,h0,hk,c115,c116]<;>rfl
theorem JkK{t:Tk4}{kids:List CV}{w:List CV->X×Bool}(hlo:lo<=h.length)(h0:(t.k==10)=false)(h1:(t.k==12)=false)(hk:(t.k==2)=false):
  E lo 92 [.agg (Jp (.mk t kids))] h=some (.tup [.agg (xC (KA w (.mk t kids)).1),.v (.bool (KA w (.mk t kids)).2)],h):=by
 have l1:lo<=h.length+1:=om;have l2:lo<=h.length+1+1:=om;rw[JG1 h0 h1 hk,e92];simp only[Jq,JP,JN,JW];simp only[go_sem,b92,Tryz.f92,hlo,l1,l2,h0,h1,hk]<;>rfl
theorem WC{t:Tk4}(ht:okT t){w:List Int}(hw:w.all (λc=>decide (0<=c)&&decide (c<256))=true):((Rul.bs (Jc t.b)).toList==(Rul.bs w).toList)=(Jc t.b==w):=
 K1 (Yn ht.1) λc hc=>by have:=Aj.1 hw c hc;simp only[Af,decide_eq_true_eq]at this;omega
theorem JJe:Rul.bs W3=⟨#[99,97,108,99]⟩:=rfl
theorem JSc:Rul.bs G5=⟨#[109,105,110]⟩:=rfl
theorem JSd:Rul.bs G6=⟨#[109,97,120]⟩:=rfl
theorem JKj:Rul.bs Qb=⟨#[99,108,97,109,112]⟩:=rfl
section
variable{t:Tk4}{kids:List CV}{w:List CV->X×Bool}
theorem JkL(hlo:lo<=h.length)(ht:okT t)(h0:(t.k==10)=false)(h1:(t.k==12)=false)(hk:(t.k==2)=true)(hn:(Jc t.b==W3)=true)(hw:W97 w kids):
  E lo 92 [.agg (Jp (.mk t kids))] h=some (.tup [.agg (xC (KA w (.mk t kids)).1),.v (.bool (KA w (.mk t kids)).2)],h):=by
 have l1:lo<=h.length+1:=om;have l2:lo<=h.length+1+1:=om;have l3:lo<=h.length+3:=om;have c117:=λlo h hlo=>f117 (lo:=lo) (h:=h) (l:=t.b) hlo (by have:=ht.2.1;omega) ht.1
 have c118:∀lo h,lo<=h.length->E lo 118 [.list .no (JH kids)] h=some (.tup [.agg (xC (w kids).1),.v (.bool (w kids).2)],h):=hw;have q1:=WC ht (w:=W3) (by decide)
 rw[hn,JJe]at q1;rw[Yo h0 h1 hk,if_pos hn,e92];generalize w kids=r at c118⊢;obtain⟨⟨ek,en,ed,eu,el⟩,eb⟩:=r;simp only[JP,JN]at c118⊢;simp only[go_sem,b92,Tryz.f92,hlo,l1,l2,l3,h0,h1,hk,c117,q1,c118]<;>rfl
theorem JkM(hlo:lo<=h.length)(ht:okT t)(h0:(t.k==10)=false)(h1:(t.k==12)=false)(hk:(t.k==2)=true)(n1:(Jc t.b==W3)=false)(n2:(Jc t.b==G5)=false)(n3:(Jc t.b==G6)=false)(n4:(Jc t.b==Qb)=false):
  E lo 92 [.agg (Jp (.mk t kids))] h=some (.tup [.agg (xC (KA w (.mk t kids)).1),.v (.bool (KA w (.mk t kids)).2)],h):=by
 have l1:lo<=h.length+1:=om;have l2:lo<=h.length+1+1:=om;have l3:lo<=h.length+3:=om;have c117:=λlo h hlo=>f117 (lo:=lo) (h:=h) (l:=t.b) hlo (by have:=ht.2.1;omega) ht.1
 have q1:=WC ht (w:=W3) (by decide)
 have q2:=WC ht (w:=G5) (by decide)
 have q3:=WC ht (w:=G6) (by decide)
 have q4:=WC ht (w:=Qb) (by decide)
 rw[n1,JJe]at q1;rw[n2,JSc]at q2;rw[n3,JSd]at q3;rw[n4,JKj]at q4;rw[Yo h0 h1 hk,if_neg (by rw[n1];simp),if_neg (by rw[n2];simp),if_neg (by rw[n3];simp),if_neg (by rw[n4];simp),e92]
 simp only[Jq,JP,JN,JW];simp only[go_sem,b92,Tryz.f92,hlo,l1,l2,l3,h0,h1,hk,c117,q1,q2,q3,q4]<;>rfl
abbrev N72(h:JM)(K:Int)(ps:List (List CV))(j:Int):Jr:=[(2,.ptr (h.length+1) 0),(5,.v (.int .i64 K)),(6,.ptr (h.length+3) 0),(56,.list .no (Wn ps)),(57,.v (.int .i64 ps.length)),(58,.v (.int .i64 j))]
abbrev H72(h:JM)(t:Tk4)(kids:List CV)(K:Int)(ks:List X):JM:=h++[.cells (Jp (.mk t kids)),.cells xZ,.cells [.v (.int .i64 t.k),.v (.string (Rul.bs t.b)),.v (.int .i64 t.n),.v (.int .i64 t.d),.v (.bool t.w),.v (.bool t.i)],.cells (xO K ks)]
theorem JkN{K:Int}{ps:List (List CV)}{p:List CV}{j:Nat}{ks:List X}{e:X}(hlo:lo<=h.length)(hl:ps.length<=1000000000)(hks:ks.length<=1000000000)(hg:ps[j]? =some p)
  (hw:∀lo h,lo<=h.length->E lo 118 [.list .no (JH p)] h=some (.tup [.agg (xC e),.v (.bool true)],h)):
  evCode ⟨Aa,E,lo,h.length,h92⟩ JA H6 (N72 h K ps j,H72 h t kids K ks)=some (.normal,N72 h K ps (j+1:Nat),H72 h t kids K (ks++[e])):=by
 have l1:lo<=h.length+1:=om;have l2:lo<=h.length+1+1:=om;have l3:lo<=h.length+3:=om;have l4:lo<=h.length+4:=om;have hlt:j<ps.length:=(Ab.1 hg).1
 have hgr:(Wn ps)[j]? =some [.list .no (JH p)]:=by unfold Wn;rw[Am,hg];rfl
 have q1:decide ((j:Int)<(ps.length:Int))=true:=by rw[decide_eq_true_iff];omega
 have t1:Bp (j:Int)=j:=om;have hwr:=Jd (i:=j) om;obtain⟨ek,en,ed,eu,el⟩:=e;simp only[JP]at hw;have o1:=JCc hks;have o2:=JCd hks;have ra:=Hk ks;have rl:=Jf ks;have rb:=Hl ks;simp only[N72,H72,JN,xZ,xO,<-Qp,J6,JW,JP];generalize ZG ks=Q at ra rl rb⊢;simp only[go_sem,H6,b92,Tryz.f92,hlo,l1,l2,l3,l4,hgr,q1,t1,hwr,hw,o1,o2,ra,rl,rb]<;>rfl
theorem JkO{K:Int}{ps:List (List CV)}{p:List CV}{j:Nat}{ks:List X}{e:X}(hlo:lo<=h.length)(hl:ps.length<=1000000000)(hg:ps[j]? =some p)
  (hw:∀lo h,lo<=h.length->E lo 118 [.list .no (JH p)] h=some (.tup [.agg (xC e),.v (.bool false)],h)):
  evCode ⟨Aa,E,lo,h.length,h92⟩ JA H6 (N72 h K ps j,H72 h t kids K ks)=some (.ret,[(2,.ptr (h.length+1) 0),(3,.v (.bool false))],h++[.cells (Jp (.mk t kids)),.cells xZ,.cells [.v (.int .i64 t.k),.v (.string (Rul.bs t.b)),.v (.int .i64 t.n),.v (.int .i64 t.d),.v (.bool t.w),.v (.bool t.i)],.cells (xO K ks),.cells (xC e)]):=by
 have l1:lo<=h.length+1:=om;have l2:lo<=h.length+1+1:=om;have l3:lo<=h.length+3:=om;have l4:lo<=h.length+4:=om;have hlt:j<ps.length:=(Ab.1 hg).1
 have hgr:(Wn ps)[j]? =some [.list .no (JH p)]:=by unfold Wn;rw[Am,hg];rfl
 have q1:decide ((j:Int)<(ps.length:Int))=true:=by rw[decide_eq_true_iff];omega
 have t1:Bp (j:Int)=j:=om;obtain⟨ek,en,ed,eu,el⟩:=e;simp only[JP]at hw;simp only[N72,H72,JN,xZ,xO,JP,Jq,JW];simp only[go_sem,H6,b92,Tryz.f92,hlo,l1,l2,l3,l4,hgr,q1,t1,hw]<;>rfl
theorem JXC{K:Int}{ps:List (List CV)}{ks:List X}(hlo:lo<=h.length):
  evCode ⟨Aa,E,lo,h.length,h92⟩ JA H6 (N72 h K ps (ps.length:Nat),H72 h t kids K ks)=some (.exit 2,N72 h K ps (ps.length:Nat)++[(59,.v (.bool false))],H72 h t kids K ks):=by
 have l1:lo<=h.length+1:=om;have l3:lo<=h.length+3:=om;have q1:decide ((ps.length:Int)<(ps.length:Int))=false:=by rw[decide_eq_false_iff_not];omega
 simp only[N72,H72,JN,xZ,xO,go_sem,H6,b92,Tryz.f92,hlo,l1,l3,q1]<;>rfl
theorem d66:decide ((6:Int)=6)=true:=by decide
theorem d67:decide ((6:Int)=7)=false:=by decide
theorem d68:decide ((6:Int)=8)=false:=by decide
theorem d76:decide ((7:Int)=6)=false:=by decide
theorem d77:decide ((7:Int)=7)=true:=by decide
theorem d78:decide ((7:Int)=8)=false:=by decide
theorem d86:decide ((8:Int)=6)=false:=by decide
theorem d87:decide ((8:Int)=7)=false:=by decide
theorem d88:decide ((8:Int)=8)=true:=by decide
theorem JAP{ps:List (List CV)}{p:List CV}{j:Nat}(hg:ps[j]? =some p):K5 w (ps.drop j)=match w p with
  |(_,false)=>none
  |(e,true)=>(K5 w (ps.drop (j+1))).map (e:: ·):=by
 obtain⟨hlt,rfl⟩:=Ab.1 hg
 rw[Ap hlt];rfl
theorem JPJ{K:Int}{ps:List (List CV)}(hlo:lo<=h.length)(hl:ps.length<=100000000)(hw:∀p∈ps,W97 w p):∀(m j:Nat) (ks:List X),j+m=ps.length->ks.length+m<=1000000000->
  match K5 w (ps.drop j)with
  |none=>∃e ks',JA (evCode ⟨Aa,E,lo,h.length,h92⟩ JA H6) (N72 h K ps j,H72 h t kids K ks)=some (.ret,[(2,.ptr (h.length+1) 0),(3,.v (.bool false))],h++[.cells (Jp (.mk t kids)),.cells xZ,.cells [.v (.int .i64 t.k),.v (.string (Rul.bs t.b)),.v (.int .i64 t.n),.v (.int .i64 t.d),.v (.bool t.w),.v (.bool t.i)],.cells (xO K ks'),.cells (xC e)])
  |some xs=>JA (evCode ⟨Aa,E,lo,h.length,h92⟩ JA H6) (N72 h K ps j,H72 h t kids K ks)=some (.exit 2,N72 h K ps (ps.length:Nat)++[(59,.v (.bool false))],H72 h t kids K (ks++xs))
 |0,j,ks,hj,hk=>by
  obtain rfl:j=ps.length:=om;rw[AY];show JA _ _=_
  rw[JJ,JXC hlo,Jx,List.append_nil]
 |m+1,j,ks,hj,hk=>by
  have hlt:j<ps.length:=om;have hg:=Ac hlt
  have hp:W97 w ps[j]:=hw _ (AN hlt);rw[JAP hg];unfold W97 at hp;generalize w ps[j]=r at hp⊢;obtain⟨e,b⟩:=r
  cases b with
  |false=>
   simp only
   exact⟨e,ks,by rw[JJ,JkO hlo om hg hp,Ki]⟩
  |true=>
   simp only;have ih:=JPJ (K:=K) hlo hl hw m (j+1) (ks++[e]) om (by simp;omega)
   rw[JJ,JkN hlo om om hg hp,Jg]
   cases hx:K5 w (ps.drop (j+1))with
   |none=>rw[hx]at ih;exact ih
   |some xs=>rw[hx]at ih;simp only[Option.map_some];rw[ih,AM];rfl
theorem GO:∀{ps:List (List CV)} {xs:List X},K5 w ps=some xs->xs.length<=ps.length
 |[],xs,h=>by cases h;exact Ag _
 |p::r,xs,h=>by
  unfold K5 at h
  split at h
  ·cases h
  ·obtain⟨ys,hy,rfl⟩:=Option.map_eq_some_iff.1 h
   have:=GO hy;simp;omega
theorem JXD{K:Int}(hK:K=6\/K=7\/K=8)(hlo:lo<=h.length)(ht:okT t)(hl:JL kids<=10000000)(h0:(t.k==10)=false)(h1:(t.k==12)=false)(hk:(t.k==2)=true)
  (n1:(Jc t.b==W3)=false)(n2:(Jc t.b==G5)=decide (K=6))(n3:(Jc t.b==G6)=decide (K=7))(n4:(Jc t.b==Qb)=decide (K=8))(hw:∀p∈J1 kids,W97 w p):
  E lo 92 [.agg (Jp (.mk t kids))] h=some (.tup [.agg (xC (Wo K w kids).1),.v (.bool (Wo K w kids).2)],h):=by
 have l1:lo<=h.length+1:=om;have l2:lo<=h.length+1+1:=om;have l3:lo<=h.length+3:=om;have l4:lo<=h.length+4:=om;have hln:=JT kids;have hsl:=ZB [] kids;have c117:=λlo h hlo=>f117 (lo:=lo) (h:=h) (l:=t.b) hlo (by have:=ht.2.1;omega) ht.1
 have c119:=λlo h hlo=>f119 (lo:=lo) (h:=h) (l:=kids) hlo om
 have hL:=JPJ (t:=t) (kids:=kids) (w:=w) (K:=K) hlo (show(J1 kids).length<=_ by unfold J1;omega) hw (J1 kids).length 0 [] om (by show 0+(J1 kids).length<=_;unfold J1;omega)
 have q1:=WC ht (w:=W3) (by decide)
 have q2:=WC ht (w:=G5) (by decide)
 have q3:=WC ht (w:=G6) (by decide)
 have q4:=WC ht (w:=Qb) (by decide)
 have pl:=Hj (J1 kids);rw[n1,JJe]at q1;rw[n2,JSc]at q2;rw[n3,JSd]at q3;rw[n4,JKj]at q4;rw[AJ]at hL;rw[e92]
 have hkl:∀xs,K5 w (J1 kids)=some xs->xs.length<=1000000000:=λxs hx=>by have:=GO hx;unfold J1 at this;omega
 unfold Wo
 cases hx:K5 w (J1 kids)with
 |none=>
  rw[hx]at hL;obtain⟨e,ks',hL⟩:=hL;generalize J1 kids=PS at c119 pl hL;simp only[Jq,JP,JW];rcases hK with rfl|rfl|rfl<;>
  simp only[H6,b92,Tryz.f92,JK,loops,JB,N72,H72,JN,xZ,xO,JW,go_sem]at hL<;>
  simp only[JN,go_sem,b92,Tryz.f92,hlo,l1,l2,l3,l4,h0,h1,hk,c117,c119,pl,q1,q2,q3,q4,d66,d67,d68,d76,d77,d78,d86,d87,d88,hL]<;>rfl
 |some xs=>
  rw[hx]at hL;have hxl:=hkl xs hx;simp only[Aq]at hL;generalize J1 kids=PS at c119 pl hL;simp only[JP];have xl:=Jf xs;rcases hK with rfl|rfl|rfl<;>
  simp only[H6,b92,Tryz.f92,JK,loops,JB,N72,H72,JN,xZ,xO,JW,go_sem]at hL<;>
  simp only[JN,go_sem,b92,Tryz.f92,hlo,l1,l2,l3,l4,h0,h1,hk,c117,c119,pl,q1,q2,q3,q4,d66,d67,d68,d76,d77,d78,d86,d87,d88,hL,xl]<;>rfl
end
end Go.Lift.Y1
end

section
open Go.Proofs
namespace Go.Lift.Y1
open Rul
variable{lo:Nat}{h:JM}
theorem f61(hlo:lo<=h.length)(k:Int):E lo 61 [.v (.int .i64 k)] h=some (.v (.int .i64 (Jj k)),h):=by
 rw[e61];unfold Jj;by_cases a:k=19
 ·subst a;simp only[go_sem,b61,Tryz.f61,hlo];all_goals rfl
 ·by_cases b:k=23
  ·subst b;simp only[go_sem,b61,Tryz.f61,hlo];all_goals rfl
  ·by_cases c:k=2
   ·subst c;simp only[go_sem,b61,Tryz.f61,hlo];all_goals rfl
   ·by_cases d:k=21
    ·subst d;simp only[go_sem,b61,Tryz.f61,hlo];all_goals rfl
    ·have ha:(k==19)=false:=by simpa using a
     have hb:(k==23)=false:=by simpa using b
     have hc:(k==2)=false:=by simpa using c
     have hd:(k==21)=false:=by simpa using d
     simp only[go_sem,b61,Tryz.f61,hlo,ha,hb,hc,hd,a,b,c,d,or_self,if_false]
theorem f17(hlo:lo<=h.length)(k:Int):E lo 17 [.v (.int .i64 k)] h=some (.v (.int .i64 (Jj k)),h):=by
 rw[e17];unfold Jj;by_cases a:k=19
 ·subst a;simp only[go_sem,b17,Tryz.f17,hlo];all_goals rfl
 ·by_cases b:k=23
  ·subst b;simp only[go_sem,b17,Tryz.f17,hlo];all_goals rfl
  ·by_cases c:k=2
   ·subst c;simp only[go_sem,b17,Tryz.f17,hlo];all_goals rfl
   ·by_cases d:k=21
    ·subst d;simp only[go_sem,b17,Tryz.f17,hlo];all_goals rfl
    ·have ha:(k==19)=false:=by simpa using a
     have hb:(k==23)=false:=by simpa using b
     have hc:(k==2)=false:=by simpa using c
     have hd:(k==21)=false:=by simpa using d
     simp only[go_sem,b17,Tryz.f17,hlo,ha,hb,hc,hd,a,b,c,d,or_self,if_false]
abbrev N47(l:List CV)(d k:Int):Jr:=[(1,.v (.int .i64 d)),(7,.list .no (JH l)),(8,.v (.int .i64 l.length)),(9,.v (.int .i64 k))]
theorem JDa(n:Nat)(t:Tk4)(ks:List CV):JDO n (.mk t ks)=(decide (1<=t.k/\t.k<=24)&&(if Jj t.k=0 then ks.isEmpty else match n with
  |0=>false
  |n+1=>Ky n ks)):=by
 cases n<;>rw[JDO]
theorem JRi{l:List CV}{v:CV}{n k:Nat}(hn:n<=64)(hlo:lo<=h.length)(hl:JL l<=1000000000000000000)(hg:l[k]? =some v)
  (ih:∀m,n=m+1->∀lo ks h,lo<=h.length->JL ks<=1000000000000000000->E lo 54 [.list .no (JH ks),.v (.int .i64 (64-(m:Int)))] h=some (.v (.bool (Ky m ks)),h)):
  evCode ⟨Aa,E,lo,h.length,h54⟩ JA W1 (N47 l (64-(n:Int)) k,h)=
   if JDO n v=true then some (.normal,N47 l (64-(n:Int)) (k+1:Nat),h)else some (.ret,[(4,.v (.bool false))],h++[.cells (Jp v)]):=by
 obtain⟨t,ks⟩:=v;have hlt:k<l.length:=(Ab.1 hg).1
 have hgr:(JH l)[k]? =some (Jp (.mk t ks)):=by rw[Jm,hg];rfl
 have q:decide ((k:Int)<(l.length:Int))=true:=by simp;omega
 have hll:=JT l;have hkk:JL ks<=JL l:=zx (v:= .mk t ks) hg;have hw:=Jd (i:=k) om;have hlo':lo<=h.length+1:=om;have c46:=λlo hlo=>f61 (lo:=lo) (h:=h++[.cells (Jp (.mk t ks))]) hlo t.k
 have c46a:=c46 lo (by simp;omega);have c46b:=c46 h.length (by simp);have c46c:=c46 (h.length+1) (by simp)
 clear c46;rw[JDa];rw[JN]at*;by_cases a1:t.k<1
 ·have q1:decide (t.k<1)=true:=by simpa using a1
  have:decide (1<=t.k/\t.k<=24)=false:=by rw[decide_eq_false_iff_not];omega
  rw[this,An,if_neg (by simp)]
  simp only[go_sem,W1,b54,Tryz.f54,hlo,hlo',q,hgr,q1,JC]<;>rfl
 have q1:decide (t.k<1)=false:=by simpa using a1
 by_cases a2:24<t.k
 ·have q2:decide (24<t.k)=true:=by simpa using a2
  have:decide (1<=t.k/\t.k<=24)=false:=by rw[decide_eq_false_iff_not];omega
  rw[this,An,if_neg (by simp)]
  simp only[go_sem,W1,b54,Tryz.f54,hlo,hlo',q,hgr,q1,q2,JC]<;>rfl
 have q2:decide (24<t.k)=false:=by simpa using a2
 have:decide (1<=t.k/\t.k<=24)=true:=by rw[decide_eq_true_iff];omega
 rw[this,Au];by_cases a3:Jj t.k=0
 ·rw[if_pos a3]
  have q3:(Jj t.k==0)=true:=by simpa using a3
  cases ks with
  |nil=>
   have q4:decide ((0:Int)<((0:Nat):Int))=false:=rfl;rw[if_pos (show([]:List CV).isEmpty=true from rfl)]
   simp only[go_sem,W1,b54,Tryz.f54,hlo,hlo',q,hgr,q1,q2,q3,q4,hw,c46a,c46b,c46c,JC,Ak]<;>rfl
  |cons x r=>
   have q4:decide ((0:Int)<((r.length+1:Nat):Int))=true:=by rw[decide_eq_true_iff];omega
   rw[if_neg (show¬(x::r).isEmpty=true by simp)]
   simp only[go_sem,W1,b54,Tryz.f54,hlo,hlo',q,hgr,q1,q2,q3,q4,hw,c46a,c46b,c46c,JC,Ai]<;>rfl
 ·rw[if_neg a3]
  have q3:(Jj t.k==0)=false:=by simpa using a3
  cases n with
  |zero=>
   have q5:decide ((64:Int)<=64-((0:Nat):Int))=true:=rfl;rw[if_neg (show¬false=true by simp)]
   simp only[go_sem,W1,b54,Tryz.f54,hlo,hlo',q,hgr,q1,q2,q3,q5,hw,c46a,c46b,c46c,JC]<;>rfl
  |succ m=>
   have q5:decide ((64:Int)<=64-((m+1:Nat):Int))=false:=by rw[decide_eq_false_iff_not];omega
   have w2:AQ.wrap (64-((m+1:Nat):Int)+1)=64-(m:Int):=by rw[KY om om];omega
   have c47:=λlo hlo=>ih m rfl lo ks (h++[.cells (Jp (.mk t ks))]) hlo om
   rw[JN]at c47;have c47a:=c47 lo (by simp;omega);have c47b:=c47 h.length (by simp);have c47c:=c47 (h.length+1) (by simp)
   clear c47 ih;show _=if Ky m ks=true then _ else _
   cases hm:Ky m ks with
   |true=>
    rw[hm]at c47a c47b c47c;rw[if_pos rfl]
    simp only[go_sem,W1,b54,Tryz.f54,hlo,hlo',q,hgr,q1,q2,q3,q5,hw,w2,c46a,c46b,c46c,c47a,c47b,c47c,JC]<;>rfl
   |false=>
    rw[hm]at c47a c47b c47c;rw[if_neg (by simp)]
    simp only[go_sem,W1,b54,Tryz.f54,hlo,hlo',q,hgr,q1,q2,q3,q5,hw,w2,c46a,c46b,c46c,c47a,c47b,c47c,JC]<;>rfl
theorem JXG{l:List CV}{d:Int}(hlo:lo<=h.length):evCode ⟨Aa,E,lo,h.length,h54⟩ JA W1 (N47 l d l.length,h)=
   some (.exit 0,N47 l d l.length++[(10,.v (.bool false))],h):=by
 have q:decide ((l.length:Int)<(l.length:Int))=false:=by simp
 simp only[go_sem,W1,b54,Tryz.f54,hlo,q]<;>rfl
theorem qY(n:Nat)(v:CV)(r:List CV):Ky n (v::r)=(JDO n v&&Ky n r):=by rw[Ky]
theorem JAQ(n:Nat):Ky n []=true:=by rw[Ky]
theorem JPL{l:List CV}{n:Nat}(hn:n<=64)(hlo:lo<=h.length)(hl:JL l<=1000000000000000000)
  (ih:∀m,n=m+1->∀lo ks h,lo<=h.length->JL ks<=1000000000000000000->E lo 54 [.list .no (JH ks),.v (.int .i64 (64-(m:Int)))] h=some (.v (.bool (Ky m ks)),h)):
  ∀(m k:Nat),k+m=l.length->if Ky n (l.drop k)=true then
    JA (evCode ⟨Aa,E,lo,h.length,h54⟩ JA W1) (N47 l (64-(n:Int)) k,h)=some (.exit 0,N47 l (64-(n:Int)) l.length++[(10,.v (.bool false))],h)
   else∃X,JA (evCode ⟨Aa,E,lo,h.length,h54⟩ JA W1) (N47 l (64-(n:Int)) k,h)=some (.ret,[(4,.v (.bool false))],h++X):=by
 intro m
 induction m with
 |zero=>
  intro k hk;obtain rfl:k=l.length:=om
  rw[AY,if_pos (JAQ n),JJ,JXG hlo,Jx]
 |succ m ihm=>
  intro k hk;have hlt:k<l.length:=om;have hg:l[k]? =some l[k]:=Ac hlt
  have hd:l.drop k=l[k]::l.drop (k+1):=Ap hlt;rw[hd,qY];generalize l[k]=v at*;have hr:=JRi hn hlo hl hg ih
  cases hm:JDO n v with
  |false=>
   rw[hm,if_neg (by simp)]at hr
   rw[An,if_neg (by simp)]
   exact⟨_,by rw[JJ,hr,Ki]⟩
  |true=>rw[hm,if_pos rfl]at hr;rw[Au,JJ,hr,Jg];exact ihm (k+1) om
theorem f54:∀(n:Nat),n<=64->∀(lo:Nat) (l:List CV) (h:JM),lo<=h.length->JL l<=1000000000000000000->E lo 54 [.list .no (JH l),.v (.int .i64 (64-(n:Int)))] h=some (.v (.bool (Ky n l)),h):=by
 intro n
 induction n with
 |zero=>
  intro hn lo l h hlo hl;have hL:=JPL (lo:=lo) (h:=h) hn hlo hl (λm hm=>by omega) l.length 0 om
  have n0:((0:Nat):Int)=0:=rfl;rw[AJ]at hL;rw[e54]
  cases hm:Ky 0 l with
  |false=>
   rw[hm,if_neg (by simp)]at hL
   obtain⟨X,hL⟩:=hL;simp only[W1,b54,Tryz.f54,JK,loops,JB,go_sem,N47,n0]at hL
   simp only[go_sem,b54,Tryz.f54,hlo,hL,JC,n0]<;>rfl
  |true=>
   rw[hm,if_pos rfl]at hL;simp only[W1,b54,Tryz.f54,JK,loops,JB,go_sem,N47,n0,AK,Aq]at hL
   simp only[go_sem,b54,Tryz.f54,hlo,hL,JC,n0]<;>rfl
 |succ n ih=>
  intro hn lo l h hlo hl
  have hL:=JPL (lo:=lo) (h:=h) hn hlo hl (λm hm=>by
   obtain rfl:n=m:=om
   exact λlo ks h hlo hk=>ih om lo ks h hlo hk) l.length 0 om
  have n0:((0:Nat):Int)=0:=rfl;rw[AJ]at hL;rw[e54]
  cases hm:Ky (n+1) l with
  |false=>
   rw[hm,if_neg (by simp)]at hL
   obtain⟨X,hL⟩:=hL;simp only[W1,b54,Tryz.f54,JK,loops,JB,go_sem,N47,n0]at hL
   simp only[go_sem,b54,Tryz.f54,hlo,hL,JC,n0]<;>rfl
  |true=>rw[hm,if_pos rfl]at hL;simp only[W1,b54,Tryz.f54,JK,loops,JB,go_sem,N47,n0,AK,Aq]at hL;simp only[go_sem,b54,Tryz.f54,hlo,hL,JC,n0]<;>rfl
theorem f23{l:List CV}(hlo:lo<=h.length)(hl:JL l<=1000000000000000000):E lo 23 [.list .no (JH l)] h=some (.v (.bool (Ky 64 l)),h):=by
 have k:=λlo hlo=>f54 64 om lo l h hlo hl
 rw[show(64:Int)-((64:Nat):Int)=0 from rfl]at k
 have ka:=k lo hlo;have kb:=k h.length (Ag _);rw[e23];simp only[go_sem,b23,Tryz.f23,hlo,ka,kb]<;>rfl
end Go.Lift.Y1
end

section
open Go.Proofs
namespace Go.Lift.Y1
open Rul
open Utf (By)
variable{lo:Nat}{h:JM}
mutual
def Wp:CV->Prop
 | .mk t kids=>okT t/\Kq kids
def Kq:List CV->Prop
 |[]=>True
 |v::r=>Wp v/\Kq r
end
theorem KU:∀{l:List CV},Kq l->∀v∈l,Wp v
 |[],_,_,h=>nomatch h
 |x::r,hs,v,h=>by
  rw[Kq]at hs;rcases A1.1 h with rfl|h
  ·exact hs.1
  ·exact KU hs.2 v h
theorem Hn:∀{l:List CV},(∀v∈l,Wp v)->Kq l
 |[],_=>by rw[Kq];trivial
 |x::r,hs=>by rw[Kq];exact⟨hs x (List.mem_cons_self ..),Hn λv hv=>hs v (List.mem_cons_of_mem _ hv)⟩
theorem KH{l:List CV}{v:CV}(h:v∈l):Km v<=JL l:=by
 induction l with
 |nil=>cases h
 |cons x r ih=>
  rw[J4];rcases A1.1 h with rfl|h
  ·omega
  ·have:=ih h;omega
theorem JA6(a b:List CV):JL (a++b)=JL a+JL b:=by
 induction a with
 |nil=>rw[Aq,QG];omega
 |cons x r ih=>rw[AK,J4,J4,ih];omega
theorem GP:∀(acc l p:List CV),p∈QZ acc l->JL p<=JL acc+JL l
 |acc,[],p,hp=>by
  rw[QZ,AL]at hp;subst hp;have:=KX acc
  omega
 |acc,u::r,p,hp=>by
  rw[J4];rw[QZ]at hp
  split at hp
  ·rcases A1.1 hp with rfl|hp
   ·have:=KX acc;omega
   ·have:=GP [] r p hp
    rw[QG]at this;omega
  ·have:=GP (acc++[u]) r p hp
   rw[JA6,J4,QG]at this;omega
theorem Zz{l p:List CV}(hl:Kq l)(hp:p∈J1 l):Kq p:=Hn λv hv=>by
 rcases jX [] l p hp v hv with h|h
 ·cases h
 ·exact KU hl v h
theorem Kp{l p:List CV}(hp:p∈J1 l):JL p<=JL l:=by have:=GP [] l p hp;rw[QG]at this;omega
theorem qZ{a b c:List Int}(h:(a==b)=true)(hn:b≠c):(a==c)=false:=by rw[beq_iff_eq]at h;subst h;exact beq_eq_false_iff_ne.2 hn
theorem JKk{w:List CV->X×Bool}{v:CV}(hv:Wp v)(hl:Km v<=10000000)(h1:W97 w v.ks)(h2:∀p∈J1 v.ks,W97 w p):W72 w v:=by
 obtain⟨t,kids⟩:=v;rw[Wp]at hv
 have hk:JL kids<=10000000:=by
  rw[QA,show(CV.mk t kids).ks=kids from rfl]at hl
  omega
 intro lo h hlo
 cases q0:t.k==10 with
 |true=>exact JkH hlo hv.1 q0
 |false=>
  cases q1:t.k==12 with
  |true=>exact JkJ hlo hv.1 q0 q1
  |false=>
   cases q2:t.k==2 with
   |false=>exact JkK hlo q0 q1 q2
   |true=>
    cases n1:Jc t.b==W3 with
    |true=>exact JkL hlo hv.1 q0 q1 q2 n1 h1
    |false=>
     cases n2:Jc t.b==G5 with
     |true=>
      have n3:=qZ n2 (show G5≠G6 by decide)
      have n4:=qZ n2 (show G5≠Qb by decide)
      rw[Yo q0 q1 q2,if_neg (by rw[n1];simp),if_pos n2]
      exact JXD (K:=6) (.inl rfl) hlo hv.1 hk q0 q1 q2 n1 (by rw[n2];rfl) (by rw[n3];rfl) (by rw[n4];rfl) h2
     |false=>
      cases n3:Jc t.b==G6 with
      |true=>
       have n4:=qZ n3 (show G6≠Qb by decide)
       rw[Yo q0 q1 q2,if_neg (by rw[n1];simp),if_neg (by rw[n2];simp),if_pos n3]
       exact JXD (K:=7) (.inr (.inl rfl)) hlo hv.1 hk q0 q1 q2 n1 (by rw[n2];rfl) (by rw[n3];rfl) (by rw[n4];rfl) h2
      |false=>
       cases n4:Jc t.b==Qb with
       |true=>
        rw[Yo q0 q1 q2,if_neg (by rw[n1];simp),if_neg (by rw[n2];simp),if_neg (by rw[n3];simp),if_pos n4]
        exact JXD (K:=8) (.inr (.inr rfl)) hlo hv.1 hk q0 q1 q2 n1 (by rw[n2];rfl) (by rw[n3];rfl) (by rw[n4];rfl) h2
       |false=>exact JkM hlo hv.1 q0 q1 q2 n1 n2 n3 n4
theorem WD(v:CV):JL v.ks+1<=Km v:=by rw[QA];omega
theorem ZV{v:CV}(h:Wp v):Kq v.ks:=by obtain⟨t,kids⟩:=v;rw[Wp]at h;exact h.2
theorem jZ{v:CV}(h:Wp v):okT v.t:=by obtain⟨t,kids⟩:=v;rw[Wp]at h;exact h.1
theorem kQ:∀(n:Nat) (l:List CV),JL l<n->JL l<=10000000->Kq l->W97 (KZ n) l
 |0,l,hn,_,_=>by omega
 |n+1,l,hn,hl,ho=>by
  intro lo h hlo;have hm:∀v∈Je l,Wp v/\Km v<=JL l:=λv hv=>⟨KU ho v (J9 hv),KH (J9 hv)⟩
  refine f118 hlo om (λv hv=>(jZ (hm v hv).1).1) λv hv=>?_
  obtain⟨o,hnv⟩:=hm v hv;have hk:=WD v;have a1:=kQ n v.ks om om (ZV o);exact⟨a1,JKk o om a1 λp hp=>kQ n p (by have:=Kp hp;omega) (by have:=Kp hp;omega) (Zz (ZV o) hp)⟩
theorem JRj{n:Nat}{v:CV}(hn:Km v<=n)(hl:Km v<=10000000)(ho:Wp v):W72 (KZ n) v:=by have hk:=WD v;exact JKk ho hl (kQ n v.ks om om (ZV ho)) λp hp=>kQ n p (by have:=Kp hp;omega) (by have:=Kp hp;omega) (Zz (ZV ho) hp)
theorem f63{l:List CV}{n:Nat}(hlo:lo<=h.length)(hn:JL l<=n)(hl:JL l<=10000000)(ho:Kq l):
  E lo 63 [.list .no (JH l)] h=some (.tup [.agg (xC (Jk n l).1),.v (.int .i64 (Jk n l).2)],h):=by
 have l1:lo<=h.length+1:=om;have l2:lo<=h.length+1+1:=om;have c23:=λlo h hlo=>f23 (lo:=lo) (h:=h) (l:=l) hlo om
 have c25:=λlo h hlo=>f25 (lo:=lo) (h:=h) (l:=l) hlo om
 have hm:∀v∈Je l,Wp v/\Km v<=JL l:=λv hv=>⟨KU ho v (J9 hv),KH (J9 hv)⟩
 have hll:=JT (Je l);have htl:=KX l;unfold Jk;rw[e63]
 cases q:Ky 64 l with
 |false=>
  rw[q]at c23;rw[if_neg (by simp)]
  simp only[Jq,JP,JW]
  simp only[go_sem,b63,Tryz.f63,hlo,l1,l2,c23]<;>rfl
 |true=>
  rw[q]at c23;rw[if_pos rfl];generalize Je l=L at c25 hm hll htl⊢
  match L,c25,hm,hll,htl with
  |[],c25,_,_,_=>
   have q1:(((0:Nat):Int) !=1)=true:=rfl;have q1':((0:Int) !=1)=true:=rfl;rw[JZ]at c25;simp only[Jq,JP,JW]
   simp only[go_sem,b63,Tryz.f63,hlo,l1,l2,c23,c25,q1,q1',Ak]<;>rfl
  |[v],c25,hm,_,_=>
   have hv:=hm v (AL.2 rfl);have c72:=JRj (n:=n) (v:=v) om om hv.1;unfold W72 at c72;unfold JG2;have q1:(((0+1:Nat):Int) !=1)=false:=rfl;have q1':((1:Int) !=1)=false:=rfl;rw[JY,JZ]at c25;simp only;generalize KA (KZ n) v=r at c72⊢;obtain⟨⟨ek,en,ed,eu,el⟩,b⟩:=r;obtain⟨t,kids⟩:=v
   cases b with
   |true=>
    simp only[JP,JN]at c25 c72⊢
    simp only[go_sem,b63,Tryz.f63,hlo,l1,l2,c23,c25,c72,q1,q1',Ak,Ai]<;>rfl
   |false=>
    simp only[Jq,JP,JN,JW]at c25 c72⊢
    simp only[go_sem,b63,Tryz.f63,hlo,l1,l2,c23,c25,c72,q1,q1',Ak,Ai]<;>rfl
  |v::u::r,c25,_,hll,htl=>
   have q1:(((r.length+1+1:Nat):Int) !=1)=true:=by rw[bne_iff_ne];omega
   rw[JY,JY]at c25;simp only[Jq,JP,JW];simp only[go_sem,b63,Tryz.f63,hlo,l1,l2,c23,c25,q1,Ai,JC]<;>rfl
def WO(ws:List ByteArray):List (List V):=ws.map λx=>[.v (.string x)]
def W4(ws:List ByteArray)(s:ByteArray):Bool:=ws.any λx=>s.toList==x.toList
abbrev N59(ws:List ByteArray)(s:ByteArray)(i:Int):Jr:=[(0,.list .no (WO ws)),(1,.v (.string s)),(7,.v (.int .i64 ws.length)),(8,.v (.int .i64 i))]
section
variable{ws:List ByteArray}{s:ByteArray}
theorem r62{x:ByteArray}{i:Nat}(hlo:lo<=h.length)(hl:ws.length<=1000000000)(hg:ws[i]? =some x):
  evCode ⟨Aa,E,lo,h.length,h62⟩ JA kH (N59 ws s i,h)=if(s.toList==x.toList)=true then some (.ret,[(4,.v (.int .i64 i))],h)else some (.normal,N59 ws s (i+1:Nat),h):=by
 have hlt:i<ws.length:=(Ab.1 hg).1
 have hgr:(WO ws)[i]? =some [.v (.string x)]:=by unfold WO;rw[Am,hg];rfl
 have q1:decide ((i:Int)<(ws.length:Int))=true:=by rw[decide_eq_true_iff];omega
 have t1:Bp (i:Int)=i:=om;have hwr:=Jd (i:=i) om
 cases q:s.toList==x.toList with
 |true=>
  rw[if_pos rfl]
  simp only[N59,go_sem,kH,b62,Tryz.f62,hlo,hgr,q1,t1,hwr,q]<;>rfl
 |false=>
  rw[if_neg (by simp)]
  simp only[N59,go_sem,kH,b62,Tryz.f62,hlo,hgr,q1,t1,hwr,q]<;>rfl
theorem s59(hlo:lo<=h.length):evCode ⟨Aa,E,lo,h.length,h62⟩ JA kH (N59 ws s (ws.length:Nat),h)=some (.exit 0,N59 ws s (ws.length:Nat)++[(9,.v (.bool false))],h):=by
 have q1:decide ((ws.length:Int)<(ws.length:Int))=false:=by rw[decide_eq_false_iff_not];omega
 simp only[N59,go_sem,kH,b62,Tryz.f62,hlo,q1]<;>rfl
theorem JJf(hlo:lo<=h.length)(hl:ws.length<=1000000000):∀m i:Nat,i+m=ws.length->
  (W4 (ws.drop i) s=true/\ ∃j:Nat,JA (evCode ⟨Aa,E,lo,h.length,h62⟩ JA kH) (N59 ws s i,h)=some (.ret,[(4,.v (.int .i64 j))],h))\/
  (W4 (ws.drop i) s=false/\JA (evCode ⟨Aa,E,lo,h.length,h62⟩ JA kH) (N59 ws s i,h)=some (.exit 0,N59 ws s (ws.length:Nat)++[(9,.v (.bool false))],h))
 |0,i,hm=>by
  obtain rfl:i=ws.length:=om;rw[AY]
  exact .inr ⟨rfl,by rw[JJ,s59 hlo,Jx]⟩
 |m+1,i,hm=>by
  have hlt:i<ws.length:=om;rw[JJ,r62 hlo hl (Ac hlt),Ap hlt]
  by_cases q:(s.toList==ws[i].toList)=true
  ·rw[if_pos q,Ki]
   exact .inl ⟨by unfold W4;rw[Dq,q,Bool.true_or],i,rfl⟩
  ·rw[if_neg q,Jg]
   have e:W4 (ws[i]::ws.drop (i+1)) s=W4 (ws.drop (i+1)) s:=by unfold W4;rw[Dq,show(s.toList==ws[i].toList)=false from by simpa using q,Bool.false_or]
   rw[e];exact JJf hlo hl m (i+1) om
theorem f29(hlo:lo<=h.length)(hl:ws.length<=1000000000):E lo 29 [.list .no (WO ws),.v (.string s)] h=some (.v (.bool (W4 ws s)),h):=by
 have sl:(WO ws).length=ws.length:=by unfold WO;rw[List.length_map]
 have c62:(W4 ws s=true/\ ∀lo h,lo<=h.length->∃j:Nat,E lo 62 [.list .no (WO ws),.v (.string s)] h=some (.v (.int .i64 j),h))\/
   (W4 ws s=false/\ ∀lo h,lo<=h.length->E lo 62 [.list .no (WO ws),.v (.string s)] h=some (.v (.int .i64 (-1)),h)):=by
  cases hs:W4 ws s with
  |true=>
   refine .inl ⟨rfl,λlo h hlo=>?_⟩
   rcases JJf (s:=s) hlo hl ws.length 0 om with⟨_,j,hL⟩|⟨h0,_⟩
   ·refine⟨j,?_⟩
    rw[e62];simp only[kH,b62,Tryz.f62,JK,loops,JB,N59,show((0:Nat):Int)=0 from rfl,go_sem]at hL
    simp only[go_sem,b62,Tryz.f62,hlo,sl,hL]<;>rfl
   ·rw[AJ,hs]at h0;cases h0
  |false=>
   refine .inr ⟨rfl,λlo h hlo=>?_⟩
   rcases JJf (s:=s) hlo hl ws.length 0 om with⟨h0,_⟩|⟨_,hL⟩
   ·rw[AJ,hs]at h0;cases h0
   ·rw[e62]
    simp only[kH,b62,Tryz.f62,JK,loops,JB,N59,show((0:Nat):Int)=0 from rfl,go_sem]at hL
    simp only[go_sem,b62,Tryz.f62,hlo,sl,hL]<;>rfl
 rw[e29];rcases c62 with⟨h1,c⟩|⟨h1,c⟩
 ·rw[h1]
  obtain⟨j,cj⟩:=c lo h hlo;have q:decide ((0:Int)<=(j:Int))=true:=by rw[decide_eq_true_iff];omega
  simp only[go_sem,b29,Tryz.f29,hlo,cj,q]<;>rfl
 ·rw[h1]
  have q:decide ((0:Int)<=(-1:Int))=false:=rfl;simp only[go_sem,b29,Tryz.f29,hlo,c,q]<;>rfl
end
def JJg:List CV->Bool
 |[]=>false
 | .mk u _::r=>u.k==1&&Kw u.b&&jW r
theorem JG6(kids:List CV):H8 kids=JJg (Je kids):=by unfold H8 JJg;rfl
theorem f56{l:List CV}(hlo:lo<=h.length)(hl:JL l<=10000000)(ho:Kq l):E lo 56 [.list .no (JH l)] h=some (.v (.bool (JJg l)),h):=by
 match l,hl,ho with
 |[],_,_=>
  have q1':((0:Int)==0)=true:=rfl;rw[e56,JZ]
  simp only[go_sem,b56,Tryz.f56,hlo,q1',Ak]<;>rfl
 | .mk u ks::r,hl,ho=>
  rw[Kq,Wp]at ho;rw[J4]at hl;have ht:=ho.1.1;have hln:=JT r;have c22:=λlo h hlo=>f22 (lo:=lo) (h:=h) ht.1 hlo (by have:=ht.2.1;omega)
  have c25:=λlo h hlo=>f25 (lo:=lo) (h:=h) (l:=r) hlo om
  have q0:(((r.length+1:Nat):Int)==0)=false:=by rw[beq_eq_false_iff_ne];omega
  have s1:(1:Nat)<=r.length+1:=om;show _=some (V.v (.bool (u.k==1&&Kw u.b&&jW r)),h)
  rw[e56,JY,JN];have nk:(u.k !=1)= !(u.k==1):=rfl
  cases hk:u.k==1 with
  |false=>
   rw[hk]at nk;rw[An,An]
   simp only[go_sem,b56,Tryz.f56,hlo,q0,nk,JC,Ai,Bool.not_false]<;>rfl
  |true=>
   rw[hk]at nk
   cases hc:Kw u.b with
   |false=>
    rw[hc]at c22;rw[Bool.and_false,An]
    simp only[go_sem,b56,Tryz.f56,hlo,q0,nk,c22,JC,Ai,AB]<;>rfl
   |true=>
    rw[hc]at c22;rw[Bool.and_true,Au];unfold jW;generalize Je r=T at c25⊢;have d1:List.drop 1 ([V.v (.int .i64 u.k),.v (.string (Rul.bs u.b)),.v (.int .i64 u.n),.v (.int .i64 u.d),.v (.bool u.w),.v (.bool u.i),.list .no (JH ks)]::JH r)=JH r:=rfl
    match T,c25 with
    |[],c25=>
     have q1':((0:Int)==0)=true:=rfl;rw[JZ]at c25
     simp only[go_sem,b56,Tryz.f56,hlo,q0,nk,c22,c25,q1',JC,QX,Jn,Ai,Ak,AB]<;>rfl
    | .mk y yk::T',c25=>
     have q2:(((T'.length+1:Nat):Int)==0)=false:=by rw[beq_eq_false_iff_ne];omega
     rw[JY,JN]at c25;simp only[go_sem,b56,Tryz.f56,hlo,q0,nk,c22,c25,q2,JC,QX,Jn,Ai,AB]<;>rfl
end Go.Lift.Y1
end
