/- Expressions of component values: what calc.Parse tells; in plain Lean. -/
import Derived.Test.YtolidijpmnompaaGreatDoorGKa
import Derived.Test.YtolidijpmnompaaGreatDoorGK4Basea
import Derived.Test.YtolidijpmnompaaGreatDoorGKb
open Bool renaming and_eq_true->Af,eq_iff_iff->BO,false_and->As,true_and->Aw
open Go.IntKind renaming i64->Am
open Go.Proofs.Tryz renaming prog->Aa
open Int renaming toNat->Bw
open List renaming all_eq_true->Ak,append_assoc->Ax,cons_append->AA,dropWhile_suffix->BR,drop_eq_getElem_cons->Av,drop_eq_nil_of_le->AZ,drop_length->A0,drop_suffix->LX,drop_zero->AD,getElem?_eq_getElem->Ac,getElem?_eq_none_iff->Cc,getElem?_eq_some_iff->Ab,getElem?_map->An,getElem_mem->AW,length_append->Ao,length_cons->Ae,length_nil->Ai,length_take->Az,mem_cons->AP,mem_of_getElem? ->Aj,mem_singleton->A1,nil_append->Au,takeWhile_cons->CD,take_length->BP,take_succ_eq_append_getElem->Bu,take_zero->Cd
open Nat renaming le_refl->Ad,le_trans->Bt
set_option linter.unusedVariables false
set_option linter.unusedSimpArgs false
set_option linter.unusedSectionVars false
set_option maxRecDepth 20000
set_option maxHeartbeats 4000000
section
namespace Go.Lift.Rul
inductive X
 |mk (k n d u:Int) (kids:List X)
def X.k:X->Int
 | .mk k _ _ _ _=>k
def X.kids:X->List X
 | .mk _ _ _ _ l=>l
def Jt:X:= .mk 0 0 0 0 []
def Wq:List (List Int):=[[112,120],[101,109],[114,101,109],[118,119],[118,104],[99,113,119],[99,113,104]]
def unitF(s:List Int):List (List Int)->Nat->Int
 |[],_=>0
 |n::r,i=>if(n==s)=true then(i:Int)+1 else unitF s r (i+1)
def GD(b:List Int):Int:=unitF (Jg b) Wq 0
def JA6(n d u:Int):X:=if Spell.y0 n d=true then .mk 1 n d u []else .mk 1 0 0 u []
def skipS(l:List CV)(at':Nat):Nat:=at'+((l.drop at').takeWhile JU).length
def KS(l:List CV)(at':Nat)(one other:Int)(apart:Bool):Option Bool×Nat:=
 match l[skipS l at']? with
 |none=>(none,at')
 |some v=>if(v.k==9)=true then
   (
    if((v.t.b==[one]||v.t.b==[other])&&(!apart||(decide (at'<skipS l at')&&decide (skipS l at'+1<skipS l (skipS l at'+1)))))=true
    then(some (!(v.t.b==[one])),skipS l (skipS l at'+1))else(none,at'))
  else(none,at')
def J5(op:CV->X×Bool)(l:List CV)(at':Nat):X×Bool×Nat:=
 match l[at']? with
 |none=>(Jt,false,at')
 |some v=>((op v).1,(op v).2,at'+1)
def KP(step:Nat->X×Bool×Nat)(sg:Nat->Option Bool×Nat)(inv:Int):Nat->Nat->List X->Sum (X×Nat) (List X×Nat)
 |0,at',ks=> .inr (ks,at')
 |f+1,at',ks=>match sg at' with
  |(none,a)=> .inr (ks,a)
  |(some b,a)=>match step a with
   |(e,false,a')=> .inl (e,a')
   |(e,true,a')=>KP step sg inv f a' (ks++[if b=true then .mk inv 0 0 0 [e]else e])
def KC:X->X
 | .mk _ _ _ _ [e]=>e
 |e=>e
def Q1(step:Nat->X×Bool×Nat)(sg:Nat->Option Bool×Nat)(kind inv:Int)(f at':Nat):X×Bool×Nat:=
 match step at' with
 |(e,false,a)=>(e,false,a)
 |(e,true,a)=>match KP step sg inv f a [e]with
  | .inl (e',a')=>(e',false,a')
  | .inr (ks,a')=>(KC (.mk kind 0 0 0 ks),true,a')
def WO(op:CV->X×Bool)(l:List CV)(at':Nat):X×Bool×Nat:=Q1 (J5 op l) (λa=>KS l a 42 47 false) 4 5 (l.length+1) at'
def JNx(op:CV->X×Bool)(l:List CV)(at':Nat):X×Bool×Nat:=Q1 (WO op l) (λa=>KS l a 43 45 true) 2 3 (l.length+1) at'
def QX(w:List CV->X×Bool):List (List CV)->Option (List X)
 |[]=>some []
 |p::r=>match w p with
  |(_,false)=>none
  |(e,true)=>(QX w r).map (e:: ·)
def Yi(kind:Int)(w:List CV->X×Bool)(kids:List CV):X×Bool:=
 match QX w (J4 kids)with
 |none=>(Jt,false)
 |some ks=>(.mk kind 0 0 0 ks,kind !=8||((ks.length:Int)==3))
def Y2:List Int:=[99,97,108,99]
def jW:List Int:=[109,105,110]
def jX:List Int:=[109,97,120]
def Q2:List Int:=[99,108,97,109,112]
def KJ(w:List CV->X×Bool):CV->X×Bool
 | .mk t kids=>
  if(t.k==10)=true then(JA6 t.n t.d 0,true)
  else if(t.k==12)=true then(JA6 t.n t.d (GD t.b),GD t.b !=0)
  else if(t.k==2)=true then
   (
    if(Jg t.b==Y2)=true then w kids
    else if(Jg t.b==jW)=true then Yi 6 w kids
    else if(Jg t.b==jX)=true then Yi 7 w kids
    else if(Jg t.b==Q2)=true then Yi 8 w kids
    else(Jt,false))
  else(Jt,false)
theorem JAH{w:List CV->X×Bool}{t:Tk4}{kids:List CV}(h:(t.k==10)=true):KJ w (.mk t kids)=(JA6 t.n t.d 0,true):=by unfold KJ;simp only;rw[if_pos h]
theorem JHi{w:List CV->X×Bool}{t:Tk4}{kids:List CV}(h0:(t.k==10)=false)(h:(t.k==12)=true):KJ w (.mk t kids)=(JA6 t.n t.d (GD t.b),GD t.b !=0):=by unfold KJ;simp only;rw[if_neg (by rw[h0];simp),if_pos h]
theorem JLo{w:List CV->X×Bool}{t:Tk4}{kids:List CV}(h0:(t.k==10)=false)(h1:(t.k==12)=false)(h:(t.k==2)=false):KJ w (.mk t kids)=(Jt,false):=by unfold KJ;simp only;rw[if_neg (by rw[h0];simp),if_neg (by rw[h1];simp),if_neg (by rw[h];simp)]
theorem Zp{w:List CV->X×Bool}{t:Tk4}{kids:List CV}(h0:(t.k==10)=false)(h1:(t.k==12)=false)(h:(t.k==2)=true):KJ w (.mk t kids)=
  (if(Jg t.b==Y2)=true then w kids
    else if(Jg t.b==jW)=true then Yi 6 w kids
    else if(Jg t.b==jX)=true then Yi 7 w kids
    else if(Jg t.b==Q2)=true then Yi 8 w kids
    else(Jt,false)):=by
 unfold KJ;simp only;rw[if_neg (by rw[h0];simp),if_neg (by rw[h1];simp),if_pos h]
def zZ(w:List CV->X×Bool)(v:CV):X×Bool:=if(v.k==21)=true then w v.ks else KJ w v
def Ki:Nat->List CV->X×Bool
 |0,_=>(Jt,false)
 |n+1,l=>let r:=JNx (zZ (Ki n)) (Jh l) 0;(r.1,r.2.1&&r.2.2==(Jh l).length)
def JLp(n:Nat)(v:CV):X×Bool:=KJ (Ki n) v
def Jo(n:Nat)(l:List CV):X×Int:=
 if QN 64 l=true then
  (
   match Jh l with
   |[v]=>(match JLp n v with
    |(e,true)=>(e,0)
    |(_,false)=>(Jt,3))
   |_=>(Jt,3))
 else(Jt,1)
end Go.Lift.Rul
end

section
open Go.Proofs
namespace Go.Lift.Y1
open Rul
open Utf (By)
variable{lo:Nat}{h:JG}
mutual
def xC:X->List V
 | .mk k n d u kids=>[.v (.int .i64 k),.v (.int .i64 n),.v (.int .i64 d),.v (.int .i64 u),.list .no (GL kids)]
def GL:List X->List (List V)
 |[]=>[]
 |x::r=>xC x::GL r
end
theorem JR(k n d u:Int)(l:List X):xC (.mk k n d u l)=[.v (.int .i64 k),.v (.int .i64 n),.v (.int .i64 d),.v (.int .i64 u),.list .no (GL l)]:=by rw[xC]
theorem Jc:GL []=[]:=by rw[GL]
theorem J8(x:X)(l:List X):GL (x::l)=xC x::GL l:=by rw[GL]
theorem Hg:∀l,GL l=l.map xC
 |[]=>by rw[GL]<;>rfl
 |x::r=>by rw[GL,Hg r]<;>rfl
theorem Ji(l:List X):(GL l).length=l.length:=by rw[Hg,List.length_map]
def JC0:List (List V):=Wq.map λn=>[.v (.string (Rul.bs n))]
theorem f137:E lo 137 [] h=some (.list .no JC0,h):=by rw[JrU];simp only[go_sem,Jj3,Tryz.f137]<;>rfl
abbrev N95(b:List Int)(j:Int):Jl:=[(0,.v (.string (Rul.bs b))),(5,.list .no JC0),(6,.v (.int .i64 7)),(7,.v (.int .i64 j))]
theorem Jrw{b n:List Int}{j:Nat}(hlo:lo<=h.length)(hy:By b)(hl:b.length<=1000000000)(hg:Wq[j]? =some n):
  evCode ⟨Aa,E,lo,h.length,JQw⟩ JA Hd (N95 b j,h)=if(n==Jg b)=true then some (.ret,[(2,.v (.int .i64 ((j:Int)+1)))],h)else some (.normal,N95 b (j+1:Nat),h):=by
 have hlt:j<7:=(Ab.1 hg).1
 have hgr:JC0[j]? =some [.v (.string (Rul.bs n))]:=by unfold JC0;rw[An,hg]<;>rfl
 have hn:By n:=by have hm:=Aj hg;simp only[Wq,AP,List.not_mem_nil,or_false]at hm;rcases hm with rfl|rfl|rfl|rfl|rfl|rfl|rfl<;>(intro c hc;simp at hc;omega)
 have q1:decide ((j:Int)<7)=true:=by rw[decide_eq_true_iff];omega
 have t1:Bw (j:Int)=j:=om;have hw:Am.wrap ((j:Int)+1)=(j:Int)+1:=by rw[JW om om]
 have hw2:((j+1:Nat):Int)=(j:Int)+1:=om;have c117:=λlo h hlo=>f117 (lo:=lo) (h:=h) (l:=b) hlo om hy
 have q:=QR hn (Zn hy);rw[hw2]
 cases hq:n==Jg b with
 |true=>
  rw[hq]at q;rw[if_pos rfl]
  simp only[N95,go_sem,Hd,JJo,Tryz.f116,hlo,q1,hgr,t1,hw,c117,q]<;>rfl
 |false=>
  rw[hq]at q;rw[if_neg (by simp)]
  simp only[N95,go_sem,Hd,JJo,Tryz.f116,hlo,q1,hgr,t1,hw,c117,q]<;>rfl
theorem JXp{b:List Int}(hlo:lo<=h.length):
  evCode ⟨Aa,E,lo,h.length,JQw⟩ JA Hd (N95 b (7:Nat),h)=some (.exit 0,N95 b (7:Nat)++[(8,.v (.bool false))],h):=by
 have q1:decide (((7:Nat):Int)<7)=false:=rfl;simp only[N95,go_sem,Hd,JJo,Tryz.f116,hlo,q1]<;>rfl
theorem JHj{s n:List Int}{j:Nat}(hg:Wq[j]? =some n):unitF s (Wq.drop j) j=if(n==s)=true then(j:Int)+1 else unitF s (Wq.drop (j+1)) (j+1):=by
 obtain⟨hlt,rfl⟩:=Ab.1 hg
 rw[Av hlt]<;>rfl
theorem JO8{b:List Int}(hlo:lo<=h.length)(hy:By b)(hl:b.length<=1000000000):∀m j:Nat,j+m=7->
  JA (evCode ⟨Aa,E,lo,h.length,JQw⟩ JA Hd) (N95 b j,h)=some (.ret,[(2,.v (.int .i64 (unitF (Jg b) (Wq.drop j) j)))],h)\/
  (unitF (Jg b) (Wq.drop j) j=0/\JA (evCode ⟨Aa,E,lo,h.length,JQw⟩ JA Hd) (N95 b j,h)=some (.exit 0,N95 b (7:Nat)++[(8,.v (.bool false))],h))
 |0,j,hk=>by
  obtain rfl:j=7:=om
  exact .inr ⟨rfl,by rw[JB,JXp hlo,Jx]⟩
 |m+1,j,hk=>by
  have hlt:j<Wq.length:=by show j<7;omega
  have hp:=Ac hlt
  rw[JHj hp,JB,Jrw hlo hy hl hp];by_cases hq:(Wq[j]==Jg b)=true
  ·rw[if_pos hq,if_pos hq,Kh]
   exact .inl rfl
  ·rw[if_neg hq,if_neg hq,JO]
   exact JO8 hlo hy hl m (j+1) om
theorem f116{b:List Int}(hlo:lo<=h.length)(hy:By b)(hl:b.length<=1000000000):E lo 116 [.v (.string (Rul.bs b))] h=some (.v (.int .i64 (GD b)),h):=by
 have c137:=λlo h=>f137 (lo:=lo) (h:=h)
 have hn:(JC0.length:Int)=7:=rfl;unfold GD;rw[JrA];rcases JO8 hlo hy hl 7 0 rfl with hL|⟨h0,hL⟩
 ·rw[AD]at hL
  simp only[Hd,JJo,Tryz.f116,JK,loops,JC,N95,go_sem]at hL;simp only[go_sem,JJo,Tryz.f116,hlo,c137,hn,hL]<;>rfl
 ·rw[AD]at h0
  rw[h0];simp only[Hd,JJo,Tryz.f116,JK,loops,JC,N95,go_sem]at hL;simp only[go_sem,JJo,Tryz.f116,hlo,c137,hn,hL]<;>rfl
theorem f115{n d u:Int}(h0: -9223372036854775808<=n)(h1:n<=9223372036854775807)(h2:d<=9223372036854775807)(hlo:lo<=h.length):
  E lo 115 [.agg [.v (.int .i64 n),.v (.int .i64 d)],.v (.int .i64 u)] h=some (.agg (xC (JA6 n d u)),h):=by
 have l1:lo<=h.length+1:=om;have l2:lo<=h.length+1+1:=om;have c:=λlo h hlo=>f136 (lo:=lo) (h:=h) h0 h1 h2 hlo
 rw[Jq9];unfold JA6
 cases hm:Spell.y0 n d with
 |true=>
  rw[hm]at c;rw[if_pos rfl,JR,Jc]
  simp only[go_sem,Jdo,Tryz.f115,hlo,l1,l2,c]<;>rfl
 |false=>
  rw[hm]at c;rw[if_neg (by simp),JR,Jc]
  simp only[go_sem,Jdo,Tryz.f115,hlo,l1,l2,c]<;>rfl
theorem f144{e:X}(hlo:lo<=h.length)(hl:e.kids.length<=1000000000):E lo 144 [.agg (xC e)] h=some (.agg (xC (KC e)),h):=by
 have l1:lo<=h.length+1:=om;obtain⟨k,n,d,u,kids⟩:=e;rw[JrZ,JR]
 match kids,hl with
 |[],_=>
  have q:(((0:Nat):Int)==1)=false:=rfl;have q':((0:Int)==1)=false:=rfl;rw[Jc];show _=some (V.agg (xC (.mk k n d u [])),h)
  rw[JR,Jc]
  simp only[go_sem,JXZ,Tryz.f144,hlo,l1,q,q',Ai]<;>rfl
 |[x],_=>
  obtain⟨k',n',d',u',kids'⟩:=x;have q:(((0+1:Nat):Int)==1)=true:=rfl;have q':((1:Int)==1)=true:=rfl;rw[J8,Jc];show _=some (V.agg (xC (.mk k' n' d' u' kids')),h)
  rw[JR]
  simp only[go_sem,JXZ,Tryz.f144,hlo,l1,q,q',Ae,Ai]<;>rfl
 |x::y::r,hl=>
  have q:(((r.length+1+1:Nat):Int)==1)=false:=by rw[beq_eq_false_iff_ne];omega
  show _=some (V.agg (xC (.mk k n d u (x::y::r))),h)
  rw[JR,J8,J8];simp only[go_sem,JXZ,Tryz.f144,hlo,l1,q,Ae,Ji]<;>rfl
end Go.Lift.Y1
end

section
open Go.Proofs
namespace Go.Lift.Y1
open Rul
open Utf (By)
variable{lo:Nat}{p q:List Ob}
abbrev Rc(l:List CV)(a:Nat):Ob:= .cells [.list .no (JJ l),.v (.int .i64 a)]
abbrev Bx(p:List Ob):Ob:= .cells [.ptr p.length 0]
theorem JLq{l:List CV}{a:Nat}(hg:l[a]? =none):skipS l a=a:=by
 unfold skipS;rw[AZ (Cc.1 hg)]
 rfl
theorem JXq{l:List CV}{a:Nat}{v:CV}(hg:l[a]? =some v)(hs:JU v=false):skipS l a=a:=by
 obtain⟨hlt,rfl⟩:=Ab.1 hg
 unfold skipS;rw[Av hlt,CD,if_neg (by rw[hs];simp)]
 rfl
theorem JUY{l:List CV}{a:Nat}{v:CV}(hg:l[a]? =some v)(hs:JU v=true):skipS l a=skipS l (a+1):=by
 obtain⟨hlt,rfl⟩:=Ab.1 hg
 unfold skipS;rw[Av hlt,CD,if_pos hs,Ae];omega
theorem JJw(l:List CV)(a:Nat):a<=skipS l a:=by unfold skipS;omega
abbrev JA7(p q:List Ob)(f:Int):Jl:=[(0,.ptr (p.length+(q.length+1)) 0),(2,.v (.int .i64 f))]
noncomputable abbrev JUZ(lo:Nat)(p q:List Ob):Go.Lift.Cx:=⟨Aa,E,lo,p.length+(q.length+1+1),Jdh⟩
theorem JkK{l:List CV}{v:CV}{a:Nat}{f:Int}(hlo:lo<=p.length)(hl:l.length<=1000000000)(hg:l[a]? =some v)(hs:JU v=true):
  evCode (JUZ lo p q) JA jT (JA7 p q f,p++Rc l a::(q++[Bx p]))=some (.normal,JA7 p q f,p++Rc l (a+1)::(q++[Bx p])):=by
 obtain⟨t,ks⟩:=v;have hlt:a<l.length:=(Ab.1 hg).1
 have hgr:(JJ l)[a]? =some (Js (.mk t ks)):=by rw[Jq,hg]<;>rfl
 rw[JP]at hgr;have q1:decide ((a:Int)<(l.length:Int))=true:=by rw[decide_eq_true_iff];omega
 have t1:Bw (a:Int)=a:=om;have hw:=JM (i:=a) om;have hk:(t.k==13)=true:=hs;simp only[JA7,go_sem,jT,JNp,Tryz.f148,hlo,q1,hgr,t1,hw,hk,JD]<;>rfl
theorem JkL{l:List CV}{v:CV}{a:Nat}{f:Int}(hlo:lo<=p.length)(hl:l.length<=1000000000)(hg:l[a]? =some v)(hs:JU v=false):
  evCode (JUZ lo p q) JA jT (JA7 p q f,p++Rc l a::(q++[Bx p]))=some (.exit 0,JA7 p q f++[(31,.v (.bool false))],p++Rc l a::(q++[Bx p])):=by
 obtain⟨t,ks⟩:=v;have hlt:a<l.length:=(Ab.1 hg).1
 have hgr:(JJ l)[a]? =some (Js (.mk t ks)):=by rw[Jq,hg]<;>rfl
 rw[JP]at hgr;have q1:decide ((a:Int)<(l.length:Int))=true:=by rw[decide_eq_true_iff];omega
 have t1:Bw (a:Int)=a:=om;have hk:(t.k==13)=false:=hs;simp only[JA7,go_sem,jT,JNp,Tryz.f148,hlo,q1,hgr,t1,hk,JD]<;>rfl
theorem JZB{l:List CV}{a:Nat}{f:Int}(hlo:lo<=p.length)(hl:l.length<=1000000000)(hg:l[a]? =none):
  evCode (JUZ lo p q) JA jT (JA7 p q f,p++Rc l a::(q++[Bx p]))=some (.exit 0,JA7 p q f++[(31,.v (.bool false))],p++Rc l a::(q++[Bx p])):=by
 have hle:=Cc.1 hg
 have q1:decide ((a:Int)<(l.length:Int))=false:=by rw[decide_eq_false_iff_not];omega
 simp only[JA7,go_sem,jT,JNp,Tryz.f148,hlo,q1,JD]<;>rfl
theorem JO9{l:List CV}{f:Int}(hlo:lo<=p.length)(hl:l.length<=1000000000):∀m a:Nat,l.length<=a+m->
  JA (evCode (JUZ lo p q) JA jT) (JA7 p q f,p++Rc l a::(q++[Bx p]))=some (.exit 0,JA7 p q f++[(31,.v (.bool false))],p++Rc l (skipS l a)::(q++[Bx p]))
 |0,a,hm=>by
  have hg:l[a]? =none:=Cc.2 om
  rw[JB,JZB hlo hl hg,Jx,JLq hg]
 |m+1,a,hm=>by
  cases hg:l[a]? with
  |none=>rw[JB,JZB hlo hl hg,Jx,JLq hg]
  |some v=>
   cases hs:JU v with
   |true=>
    rw[JB,JkK hlo hl hg hs,JO,JUY hg hs]
    exact JO9 hlo hl m (a+1) om
   |false=>rw[JB,JkL hlo hl hg hs,Jx,JXq hg hs]
theorem f148{l:List CV}{a:Nat}(hlo:lo<=p.length)(hl:l.length<=1000000000):
  E lo 148 [.ptr (p.length+(q.length+1)) 0] (p++Rc l a::(q++[Bx p]))=some (.v (.bool (decide (a<skipS l a))),p++Rc l (skipS l a)::(q++[Bx p])):=by
 have hL:=JO9 (q:=q) (f:=a) hlo hl l.length a om;have hd:decide ((a:Int)<(skipS l a:Int))=decide (a<skipS l a):=by rw[BO,decide_eq_true_iff,decide_eq_true_iff];omega
 rw[Jrc];simp only[jT,JNp,Tryz.f148,JK,loops,JC,JA7,JUZ,go_sem]at hL;simp only[go_sem,JNp,Tryz.f148,hlo,hL,hd]<;>rfl
def JkM(one other:Int):Option Bool->ByteArray
 |none=>⟨#[]⟩
 |some false=>Rul.bs [one]
 |some true=>Rul.bs [other]
theorem JPA{b:List Int}{c:Int}(hy:By b)(h0:0<=c)(h1:c<256):((Rul.bs b).toList==(Rul.bs [c]).toList)=(b==[c]):=QR hy (by intro x hx;simp at hx;omega)
theorem JkN{l:List CV}{a:Nat}{one other:Int}{apart:Bool}(hlo:lo<=p.length)(hl:l.length<=1000000000)(hg:l[skipS l a]? =none):
  E lo 143 [.ptr p.length 0,.v (.string (Rul.bs [one])),.v (.string (Rul.bs [other])),.v (.bool apart)] (p++Rc l a::q)=some (.v (.string ⟨#[]⟩),p++Rc l a::q):=by
 have c148:=λlo hlo=>f148 (lo:=lo) (p:=p) (q:=q) (l:=l) (a:=a) hlo hl
 have hle:=Cc.1 hg
 have l1:lo<=p.length+(q.length+1):=om;have q1:decide ((skipS l a:Int)<(l.length:Int))=false:=by rw[decide_eq_false_iff_not];omega
 rw[Jdq];simp only[go_sem,JA5,Tryz.f143,hlo,l1,c148,q1,JD]<;>rfl
theorem JkO{l:List CV}{v:CV}{a:Nat}{one other:Int}{apart:Bool}(hlo:lo<=p.length)(hl:l.length<=1000000000)(hg:l[skipS l a]? =some v)(hk:(v.k==9)=false):
  E lo 143 [.ptr p.length 0,.v (.string (Rul.bs [one])),.v (.string (Rul.bs [other])),.v (.bool apart)] (p++Rc l a::q)=some (.v (.string ⟨#[]⟩),p++Rc l a::q):=by
 obtain⟨t,ks⟩:=v;have c148:=λlo hlo=>f148 (lo:=lo) (p:=p) (q:=q) (l:=l) (a:=a) hlo hl
 have hlt:skipS l a<l.length:=(Ab.1 hg).1
 have hgr:(JJ l)[skipS l a]? =some (Js (.mk t ks)):=by rw[Jq,hg]<;>rfl
 rw[JP]at hgr;have l1:lo<=p.length+(q.length+1):=om;have q1:decide ((skipS l a:Int)<(l.length:Int))=true:=by rw[decide_eq_true_iff];omega
 have t1:Bw (skipS l a:Int)=skipS l a:=om;have hk':(t.k==9)=false:=hk;rw[Jdq];simp only[go_sem,JA5,Tryz.f143,hlo,l1,c148,q1,hgr,t1,hk',JD]<;>rfl
theorem JkP{l:List CV}{t:Tk4}{ks:List CV}{a:Nat}{one other:Int}{apart:Bool}(hlo:lo<=p.length)(hl:l.length<=1000000000)(hg:l[skipS l a]? =some (.mk t ks))(hk:(t.k==9)=true)
  (hy:By t.b)(h0:0<=one/\one<256)(h1:0<=other/\other<256):
  E lo 143 [.ptr p.length 0,.v (.string (Rul.bs [one])),.v (.string (Rul.bs [other])),.v (.bool apart)] (p++Rc l a::q)=
   if((t.b==[one]||t.b==[other])&&(!apart||(decide (a<skipS l a)&&decide (skipS l a+1<skipS l (skipS l a+1)))))=true
   then some (.v (.string (Rul.bs t.b)),p++Rc l (skipS l (skipS l a+1))::q)else some (.v (.string ⟨#[]⟩),p++Rc l a::q):=by
 have c148:=λlo hlo=>f148 (lo:=lo) (p:=p) (q:=q) (l:=l) (a:=a) hlo hl
 have d133:=λlo hlo=>f148 (lo:=lo) (p:=p) (q:=q) (l:=l) (a:=skipS l a+1) hlo hl
 have hlt:skipS l a<l.length:=(Ab.1 hg).1
 have hgr:(JJ l)[skipS l a]? =some (Js (.mk t ks)):=by rw[Jq,hg]<;>rfl
 rw[JP]at hgr;have l1:lo<=p.length+(q.length+1):=om;have q1:decide ((skipS l a:Int)<(l.length:Int))=true:=by rw[decide_eq_true_iff];omega
 have t1:Bw (skipS l a:Int)=skipS l a:=om;have hw:Am.wrap ((skipS l a:Int)+1)=((skipS l a+1:Nat):Int):=JM om;have e1:=JPA (c:=one) hy h0.1 h0.2;have e2:=JPA (c:=other) hy h1.1 h1.2;rw[Jdq];generalize decide (a<skipS l a)=far at c148⊢;generalize decide (skipS l a+1<skipS l (skipS l a+1))=wide at d133⊢;generalize hb1:(t.b==[one])=b1 at e1⊢
 generalize hb2:(t.b==[other])=b2 at e2⊢
 cases b1 with
 |true=>
  cases apart with
  |false=>
   rw[if_pos (by simp)]
   simp only[go_sem,JA5,Tryz.f143,hlo,l1,c148,d133,q1,hgr,t1,hw,hk,e1,e2,JD]<;>rfl
  |true=>
   cases far with
   |false=>
    rw[if_neg (by simp)]
    simp only[go_sem,JA5,Tryz.f143,hlo,l1,c148,d133,q1,hgr,t1,hw,hk,e1,e2,JD]<;>rfl
   |true=>
    cases wide with
    |false=>
     rw[if_neg (by simp)]
     simp only[go_sem,JA5,Tryz.f143,hlo,l1,c148,d133,q1,hgr,t1,hw,hk,e1,e2,JD]<;>rfl
    |true=>
     rw[if_pos (by simp)]
     simp only[go_sem,JA5,Tryz.f143,hlo,l1,c148,d133,q1,hgr,t1,hw,hk,e1,e2,JD]<;>rfl
 |false=>
  cases b2 with
  |false=>
   rw[if_neg (by simp)]
   simp only[go_sem,JA5,Tryz.f143,hlo,l1,c148,d133,q1,hgr,t1,hw,hk,e1,e2,JD]<;>rfl
  |true=>
   cases apart with
   |false=>
    rw[if_pos (by simp)]
    simp only[go_sem,JA5,Tryz.f143,hlo,l1,c148,d133,q1,hgr,t1,hw,hk,e1,e2,JD]<;>rfl
   |true=>
    cases far with
    |false=>
     rw[if_neg (by simp)]
     simp only[go_sem,JA5,Tryz.f143,hlo,l1,c148,d133,q1,hgr,t1,hw,hk,e1,e2,JD]<;>rfl
    |true=>
     cases wide with
     |false=>
      rw[if_neg (by simp)]
      simp only[go_sem,JA5,Tryz.f143,hlo,l1,c148,d133,q1,hgr,t1,hw,hk,e1,e2,JD]<;>rfl
     |true=>
      rw[if_pos (by simp)]
      simp only[go_sem,JA5,Tryz.f143,hlo,l1,c148,d133,q1,hgr,t1,hw,hk,e1,e2,JD]<;>rfl
theorem JRW{l:List CV}{a:Nat}{one other:Int}{apart:Bool}(hg:l[skipS l a]? =none):KS l a one other apart=(none,a):=by unfold KS;rw[hg]
theorem f143{l:List CV}{a:Nat}{one other:Int}{apart:Bool}(hlo:lo<=p.length)(hl:l.length<=1000000000)(hy:∀v∈l,By v.t.b)(h0:0<=one/\one<256)(h1:0<=other/\other<256):
  E lo 143 [.ptr p.length 0,.v (.string (Rul.bs [one])),.v (.string (Rul.bs [other])),.v (.bool apart)] (p++Rc l a::q)=
   some (.v (.string (JkM one other (KS l a one other apart).1)),p++Rc l (KS l a one other apart).2::q):=by
 unfold KS
 cases hg:l[skipS l a]? with
 |none=>exact JkN hlo hl hg
 |some v=>
  simp only
  cases hk:v.k==9 with
  |false=>
   rw[if_neg (by simp)]
   exact JkO hlo hl hg hk
  |true=>
   rw[if_pos rfl];obtain⟨t,ks⟩:=v;rw[JkP hlo hl hg hk (hy _ (Aj hg)) h0 h1];show(if((t.b==[one]||t.b==[other])&&(!apart||(decide (a<skipS l a)&&decide (skipS l a+1<skipS l (skipS l a+1)))))=true then _ else _)=_
   have e:(Rul.CV.mk t ks).t.b=t.b:=rfl;rw[e];by_cases hc:((t.b==[one]||t.b==[other])&&(!apart||(decide (a<skipS l a)&&decide (skipS l a+1<skipS l (skipS l a+1)))))=true
   ·rw[if_pos hc,if_pos hc]
    simp only[Af,Bool.or_eq_true]at hc
    cases hb:t.b==[one]with
    |true=>rw[show t.b=[one]from by simpa using hb]<;>rfl
    |false=>
     rcases hc.1 with h|h
     ·rw[hb]at h;cases h
     ·rw[show t.b=[other]from by simpa using h]<;>rfl
   ·rw[if_neg hc,if_neg hc]<;>rfl
def W97(w:List CV->X×Bool)(l:List CV):Prop:=∀lo h,lo<=h.length->E lo 118 [.list .no (JJ l)] h=some (.tup [.agg (xC (w l).1),.v (.bool (w l).2)],h)
def W72(w:List CV->X×Bool)(v:CV):Prop:=∀lo h,lo<=h.length->E lo 92 [.agg (Js v)] h=some (.tup [.agg (xC (KJ w v).1),.v (.bool (KJ w v).2)],h)
theorem JkQ{l:List CV}{a:Nat}(hlo:lo<=p.length)(hl:l.length<=1000000000)(hg:l[a]? =none):
  E lo 147 [.ptr p.length 0] (p++Rc l a::q)=some (.tup [.agg (xC Jt),.v (.bool false)],p++Rc l a::q):=by
 have hle:=Cc.1 hg
 have l1:lo<=p.length+(q.length+1):=om;have q1:decide ((l.length:Int)<=(a:Int))=true:=by rw[decide_eq_true_iff];omega
 rw[Jj5,Jt,JR,Jc];simp only[go_sem,JXa,Tryz.f147,hlo,l1,q1,JD]<;>rfl
theorem JkR{l:List CV}{v:CV}{a:Nat}{w:List CV->X×Bool}(hlo:lo<=p.length)(hl:l.length<=1000000000)(hg:l[a]? =some v)(h1:W97 w v.ks)(h2:W72 w v):
  E lo 147 [.ptr p.length 0] (p++Rc l a::q)=some (.tup [.agg (xC (zZ w v).1),.v (.bool (zZ w v).2)],p++Rc l (a+1)::q):=by
 obtain⟨t,ks⟩:=v;have hlt:a<l.length:=(Ab.1 hg).1
 have hgr:(JJ l)[a]? =some (Js (.mk t ks)):=by rw[Jq,hg]<;>rfl
 rw[JP]at hgr;have l1:lo<=p.length+(q.length+1):=om;have l2:lo<=p.length+(q.length+1+1):=om;have l3:lo<=p.length+(q.length+1+1+1):=om;have l4:lo<=p.length+(q.length+(1+1)+1):=om;have q1:decide ((l.length:Int)<=(a:Int))=false:=by rw[decide_eq_false_iff_not];omega
 have t1:Bw (a:Int)=a:=om;have hw:=JM (i:=a) om;unfold zZ;rw[Jj5]
 cases hk:(Rul.CV.mk t ks).k==21 with
 |true=>
  rw[if_pos rfl];have hk':(t.k==21)=true:=hk;have c118:∀lo h,lo<=h.length->E lo 118 [.list .no (JJ ks)] h=some (.tup [.agg (xC (w ks).1),.v (.bool (w ks).2)],h):=λlo h hlo=>h1 lo h hlo
  show _=some (V.tup [.agg (xC (w ks).1),.v (.bool (w ks).2)],_)
  generalize w ks=r at c118⊢;obtain⟨⟨ek,en,ed,eu,ekids⟩,eb⟩:=r;simp only[JR]at c118⊢
  simp only[go_sem,JXa,Tryz.f147,hlo,l1,l2,l3,l4,q1,hgr,t1,hw,hk',c118,JD]<;>rfl
 |false=>
  rw[if_neg (by simp)]
  have hk':(t.k==21)=false:=hk;have c92:∀lo h,lo<=h.length->E lo 92 [.agg (Js (.mk t ks))] h=some (.tup [.agg (xC (KJ w (.mk t ks)).1),.v (.bool (KJ w (.mk t ks)).2)],h):=λlo h hlo=>h2 lo h hlo
  generalize KJ w (.mk t ks)=r at c92⊢;obtain⟨⟨ek,en,ed,eu,ekids⟩,eb⟩:=r;simp only[JR,JP]at c92⊢;simp only[go_sem,JXa,Tryz.f147,hlo,l1,l2,l3,l4,q1,hgr,t1,hw,hk',c92,JD]<;>rfl
theorem f147{l:List CV}{a:Nat}{w:List CV->X×Bool}(hlo:lo<=p.length)(hl:l.length<=1000000000)(h:∀v∈l,W97 w v.ks/\W72 w v):
  E lo 147 [.ptr p.length 0] (p++Rc l a::q)=some (.tup [.agg (xC (J5 (zZ w) l a).1),.v (.bool (J5 (zZ w) l a).2.1)],p++Rc l (J5 (zZ w) l a).2.2::q):=by
 unfold J5
 cases hg:l[a]? with
 |none=>exact JkQ hlo hl hg
 |some v=>have hv:=h v (Aj hg);exact JkR hlo hl hg hv.1 hv.2
def xZ:List V:=[.v (.int .i64 0),.v (.int .i64 0),.v (.int .i64 0),.v (.int .i64 0),.list .yes []]
def xO(k:Int)(ks:List X):List V:=[.v (.int .i64 k),.v (.int .i64 0),.v (.int .i64 0),.v (.int .i64 0),.list .yes (GL ks)]
theorem WR(a b:List X):GL a++GL b=GL (a++b):=by rw[Hg,Hg,Hg,List.map_append]
theorem kP(l:List X):(GL l).all (λx=>x.length==5)=true:=by rw[Hg,List.all_map];exact Ak.2 λx _=>by obtain⟨k,n,d,u,ks⟩:=x;simp only[Function.comp,JR];rfl
theorem kQ(l:List X):(!J2 (GL l))=true:=by
 cases l with
 |nil=>rw[Jc]<;>rfl
 |cons x r=>obtain⟨k,n,d,u,ks⟩:=x;rw[J8,JR]<;>rfl
theorem JHk{n:Nat}(h:n<=1000000000):(n+1)*56<=140737488355328:=om
theorem JHl{n:Nat}(h:n<=1000000000):n<=9223372036854775806:=om
theorem JZC:((⟨#[]⟩:ByteArray).toList==(⟨#[]⟩:ByteArray).toList)=true:=by simp
theorem JPB(c:UInt8):((⟨#[c]⟩:ByteArray).toList==(⟨#[]⟩:ByteArray).toList)=false:=by rw[ByteArray.toList_eq,ByteArray.toList_eq]<;>rfl
theorem JkS{c d:UInt8}(h:(c==d)=false):((⟨#[c]⟩:ByteArray).toList==(⟨#[d]⟩:ByteArray).toList)=false:=by rw[ByteArray.toList_eq,ByteArray.toList_eq];simp only[List.cons_beq_cons,h,As]
theorem JkT{c:UInt8}:((⟨#[c]⟩:ByteArray).toList==(⟨#[c]⟩:ByteArray).toList)=true:=by simp
def Jdy(step:Nat->X×Bool×Nat)(l:List CV):Prop:=∀lo (p q:List Ob) a,lo<=p.length->E lo 147 [.ptr p.length 0] (p++Rc l a::q)=some (.tup [.agg (xC (step a).1),.v (.bool (step a).2.1)],p++Rc l (step a).2.2::q)
abbrev y5(p q:List Ob):Jl:=[(0,.ptr p.length 0),(2,.ptr (p.length+(q.length+1)) 0),(4,.ptr (p.length+(q.length+1+1)) 0),(6,.ptr (p.length+(q.length+(1+1)+1)) 0)]
abbrev y6(p q:List Ob)(l:List CV)(a:Nat)(e:X)(ks:List X):JG:=p++Rc l a::(q++[.cells xZ,.cells (xC e),.cells (xO 4 ks)])
noncomputable abbrev JC1(lo:Nat)(p q:List Ob):Go.Lift.Cx:=⟨Aa,E,lo,p.length+(q.length+1),Jdg⟩
section
variable{l:List CV}{a a1:Nat}{e:X}{ks:List X}{step:Nat->X×Bool×Nat}
theorem JZD(hlo:lo<=p.length)(hs:∀lo (p q:List Ob),lo<=p.length->E lo 143 [.ptr p.length 0,.v (.string ⟨#[42]⟩),.v (.string ⟨#[47]⟩),.v (.bool false)] (p++Rc l a::q)=some (.v (.string ⟨#[]⟩),p++Rc l a1::q)):
  evCode (JC1 lo p q) JA Z9 (y5 p q,y6 p q l a e ks)=some (.exit 0,y5 p q++[(7,.v (.string ⟨#[]⟩)),(22,.v (.bool true))],y6 p q l a1 e ks):=by
 have l1:lo<=p.length+(q.length+1):=om;obtain⟨ek,en,ed,eu,el⟩:=e;simp only[y5,y6,JC1,JR,xZ,xO,go_sem,Z9,JCs,Tryz.f142,hlo,l1,hs,JZC]<;>rfl
theorem JZG{c:UInt8}{e':X}{a2:Nat}(hlo:lo<=p.length)(hs:∀lo (p q:List Ob),lo<=p.length->E lo 143 [.ptr p.length 0,.v (.string ⟨#[42]⟩),.v (.string ⟨#[47]⟩),.v (.bool false)] (p++Rc l a::q)=some (.v (.string ⟨#[c]⟩),p++Rc l a1::q))
  (ht:∀lo (p q:List Ob),lo<=p.length->E lo 147 [.ptr p.length 0] (p++Rc l a1::q)=some (.tup [.agg (xC e'),.v (.bool false)],p++Rc l a2::q)):
  evCode (JC1 lo p q) JA Z9 (y5 p q,y6 p q l a e ks)=some (.ret,[(2,.ptr (p.length+(q.length+1)) 0),(3,.v (.bool false))],p++Rc l a2::(q++[.cells (xC e'),.cells (xC e'),.cells (xO 4 ks)])):=by
 have l1:lo<=p.length+(q.length+1):=om;have l2:lo<=p.length+(q.length+1+1):=om;obtain⟨ek,en,ed,eu,el⟩:=e;obtain⟨fk,fn,fd,fu,fl⟩:=e';simp only[JR]at ht;have z:=JPB c;simp only[y5,y6,JC1,JR,xZ,xO,go_sem,Z9,JCs,Tryz.f142,hlo,l1,l2,hs,ht,z]<;>rfl
theorem JZH{c:UInt8}{e':X}{a2:Nat}{b:Bool}(hlo:lo<=p.length)(hk:ks.length<=1000000000)(hb:((⟨#[c]⟩:ByteArray).toList==(⟨#[47]⟩:ByteArray).toList)=b)
  (hs:∀lo (p q:List Ob),lo<=p.length->E lo 143 [.ptr p.length 0,.v (.string ⟨#[42]⟩),.v (.string ⟨#[47]⟩),.v (.bool false)] (p++Rc l a::q)=some (.v (.string ⟨#[c]⟩),p++Rc l a1::q))
  (ht:∀lo (p q:List Ob),lo<=p.length->E lo 147 [.ptr p.length 0] (p++Rc l a1::q)=some (.tup [.agg (xC e'),.v (.bool true)],p++Rc l a2::q)):
  evCode (JC1 lo p q) JA Z9 (y5 p q,y6 p q l a e ks)=some (.normal,y5 p q,y6 p q l a2 (if b=true then .mk 5 0 0 0 [e']else e') (ks++[if b=true then .mk 5 0 0 0 [e']else e'])):=by
 have l1:lo<=p.length+(q.length+1):=om;have l2:lo<=p.length+(q.length+1+1):=om;have l3:lo<=p.length+(q.length+(1+1)+1):=om;obtain⟨ek,en,ed,eu,el⟩:=e;obtain⟨fk,fn,fd,fu,fl⟩:=e';simp only[JR]at ht;have z:=JPB c;have o1:=JHk hk;have o2:=JHl hk;have ra:=kP ks;have rl:=Ji ks;have rb:=kQ ks
 cases b with
 |false=>
  rw[if_neg (by simp)]
  simp only[y5,y6,JC1,JR,xZ,xO,<-WR,J8,Jc];generalize GL ks=K at ra rl rb⊢
  simp only[go_sem,Z9,JCs,Tryz.f142,hlo,l1,l2,l3,hs,ht,z,hb,o1,o2,ra,rl,rb]<;>rfl
 |true=>rw[if_pos rfl];simp only[y5,y6,JC1,JR,xZ,xO,<-WR,J8,Jc];generalize GL ks=K at ra rl rb⊢;simp only[go_sem,Z9,JCs,Tryz.f142,hlo,l1,l2,l3,hs,ht,z,hb,o1,o2,ra,rl,rb]<;>rfl
theorem JLr{l:List CV}{a:Nat}{one other:Int}{apart:Bool}(h:l.length<=a):KS l a one other apart=(none,a):=
 JRW (Cc.2 (by have:=JJw l a;omega))
theorem JJx{l:List CV}{a:Nat}{one other:Int}{apart b:Bool}(h:(KS l a one other apart).1=some b):a+1<=(KS l a one other apart).2:=by
 have h1:=JJw l a;have h2:=JJw l (skipS l a+1);unfold KS at h⊢
 cases hg:l[skipS l a]? with
 |none=>rw[hg]at h;cases h
 |some v=>
  rw[hg]at h;simp only at h⊢
  split at h
  ·rename_i hk
   rw[if_pos hk]
   split at h
   ·rename_i hc
    rw[if_pos hc];show a+1<=skipS l (skipS l a+1)
    omega
   ·cases h
  ·cases h
def JLs(step:Nat->X×Bool×Nat):Prop:=∀a,a<=(step a).2.2
theorem kR{step:Nat->X×Bool×Nat}{sg:Nat->Option Bool×Nat}{inv:Int}:∀(f a:Nat) (ks ks':List X) (a':Nat),KP step sg inv f a ks= .inr (ks',a')->ks'.length<=ks.length+f
 |0,a,ks,ks',a',h=>by unfold KP at h;cases h;omega
 |f+1,a,ks,ks',a',h=>by
  unfold KP at h
  split at h
  ·cases h;omega
  ·split at h
   ·cases h
   ·have:=kR f _ _ _ _ h
    simp at this;omega
theorem JPC(hlo:lo<=p.length)(hl:l.length<=1000000000)(hy:∀v∈l,By v.t.b)(hst:Jdy step l)(hmo:JLs step):∀(f a:Nat) (e:X) (ks:List X),l.length<=a+f->ks.length+f<=1000000000+1->
  match KP step (λa=>KS l a 42 47 false) 5 f a ks with
  | .inl (e',a')=>∃ks',JA (evCode (JC1 lo p q) JA Z9) (y5 p q,y6 p q l a e ks)=some (.ret,[(2,.ptr (p.length+(q.length+1)) 0),(3,.v (.bool false))],p++Rc l a'::(q++[.cells (xC e'),.cells (xC e'),.cells (xO 4 ks')]))
  | .inr (ks',a')=>∃e',JA (evCode (JC1 lo p q) JA Z9) (y5 p q,y6 p q l a e ks)=some (.exit 0,y5 p q++[(7,.v (.string ⟨#[]⟩)),(22,.v (.bool true))],y6 p q l a' e' ks')
 |0,a,e,ks,hf,hk=>by
  have hs:=λlo (p q:List Ob) hlo=>f143 (lo:=lo) (p:=p) (q:=q) (l:=l) (a:=a) (one:=42) (other:=47) (apart:=false) hlo hl hy om om
  rw[JLr om]at hs;unfold KP
  exact⟨e,by rw[JB,JZD hlo hs,Jx]⟩
 |f+1,a,e,ks,hf,hk=>by
  have hs:=λlo (p q:List Ob) hlo=>f143 (lo:=lo) (p:=p) (q:=q) (l:=l) (a:=a) (one:=42) (other:=47) (apart:=false) hlo hl hy om om
  have hon:=λb=>JJx (l:=l) (a:=a) (one:=42) (other:=47) (apart:=false) (b:=b)
  unfold KP;generalize KS l a 42 47 false=r at hs hon⊢;obtain⟨o,a1⟩:=r
  cases o with
  |none=>exact⟨e,by rw[JB,JZD hlo hs,Jx]⟩
  |some b=>
   have h1:=hon b rfl;have ht:=λlo (p q:List Ob) hlo=>hst lo p q a1 hlo
   have hm:=hmo a1;simp only;generalize step a1=t at ht hm⊢;obtain⟨e',ok,a2⟩:=t
   cases ok with
   |false=>
    refine⟨ks,?_⟩
    cases b with
    |false=>rw[JB,JZG (c:=42) hlo hs ht,Kh]
    |true=>rw[JB,JZG (c:=47) hlo hs ht,Kh]
   |true=>
    simp only at h1 hm;have ih:=JPC hlo hl hy hst hmo f a2 (if b=true then .mk 5 0 0 0 [e']else e') (ks++[if b=true then .mk 5 0 0 0 [e']else e']) om (by simp;omega)
    cases b with
    |false=>
     rw[JB,JZH (c:=42) (b:=false) hlo om (JkS (by decide)) hs ht,JO]
     exact ih
    |true=>rw[JB,JZH (c:=47) (b:=true) hlo om JkT hs ht,JO];exact ih
attribute [go_sem] List.getLast?_cons_cons List.getLast?_singleton
theorem f142(hlo:lo<=p.length)(hl:l.length<=100000000)(hy:∀v∈l,By v.t.b)(hst:Jdy step l)(hmo:JLs step):
  E lo 142 [.ptr p.length 0] (p++Rc l a::q)=some (.tup [.agg (xC (Q1 step (λa=>KS l a 42 47 false) 4 5 (l.length+1) a).1),.v (.bool (Q1 step (λa=>KS l a 42 47 false) 4 5 (l.length+1) a).2.1)],
   p++Rc l (Q1 step (λa=>KS l a 42 47 false) 4 5 (l.length+1) a).2.2::q):=by
 have l1:lo<=p.length+(q.length+1):=om;have l2:lo<=p.length+(q.length+1+1):=om;have l3:lo<=p.length+(q.length+(1+1)+1):=om;have l4:lo<=p.length+(q.length+3+1):=om;have ht:=λlo (p q:List Ob) hlo=>hst lo p q a hlo
 have hm:=hmo a;unfold Q1;rw[JrY];generalize step a=t at ht hm⊢;obtain⟨e,ok,a1⟩:=t
 cases ok with
 |false=>
  simp only;obtain⟨ek,en,ed,eu,el⟩:=e;simp only[JR]at ht⊢
  simp only[go_sem,JCs,Tryz.f142,hlo,l1,l2,ht]<;>rfl
 |true=>
  simp only at hm⊢;have hL:=JPC (lo:=lo) (p:=p) (q:=q) hlo om hy hst hmo (l.length+1) a1 e [e] om (by simp;omega)
  have hcl:=kR (step:=step) (sg:=λa=>KS l a 42 47 false) (inv:=5) (l.length+1) a1 [e]
  generalize KP step (λa=>KS l a 42 47 false) 5 (l.length+1) a1 [e]=r at hL hcl⊢
  obtain⟨ek,en,ed,eu,el⟩:=e
  cases r with
  |inl r=>
   obtain⟨e',a'⟩:=r;obtain⟨ks',hL⟩:=hL;obtain⟨fk,fn,fd,fu,fl⟩:=e';simp only[JR]at ht⊢;simp only[Z9,JCs,Tryz.f142,JK,loops,JC,y5,y6,JC1,JR,xZ,xO,J8,Jc,go_sem]at hL
   simp only[go_sem,JCs,Tryz.f142,hlo,l1,l2,l3,ht,hL]<;>rfl
  |inr r=>
   obtain⟨ks',a'⟩:=r;obtain⟨e',hL⟩:=hL;have hks:=hcl ks' a' rfl;have c144:=λlo h hlo=>f144 (lo:=lo) (h:=h) (e:= .mk 4 0 0 0 ks') hlo (by simp at hks;show ks'.length<=_;omega)
   obtain⟨fk,fn,fd,fu,fl⟩:=e';simp only;generalize KC (.mk 4 0 0 0 ks')=sx at c144⊢;obtain⟨gk,gn,gd,gu,gl⟩:=sx;simp only[JR]at ht c144⊢;simp only[Z9,JCs,Tryz.f142,JK,loops,JC,y5,y6,JC1,JR,xZ,xO,J8,Jc,go_sem]at hL;simp only[go_sem,JCs,Tryz.f142,hlo,l1,l2,l3,l4,ht,c144,hL]<;>rfl
end
def Jdz(step:Nat->X×Bool×Nat)(l:List CV):Prop:=∀lo (p q:List Ob) a,lo<=p.length->E lo 142 [.ptr p.length 0] (p++Rc l a::q)=some (.tup [.agg (xC (step a).1),.v (.bool (step a).2.1)],p++Rc l (step a).2.2::q)
abbrev y7(p q:List Ob):Jl:=[(0,.ptr p.length 0),(2,.ptr (p.length+(q.length+1)) 0),(4,.ptr (p.length+(q.length+1+1)) 0),(6,.ptr (p.length+(q.length+(1+1)+1)) 0)]
abbrev y8(p q:List Ob)(l:List CV)(a:Nat)(e:X)(ks:List X):JG:=p++Rc l a::(q++[.cells xZ,.cells (xC e),.cells (xO 2 ks)])
noncomputable abbrev JC2(lo:Nat)(p q:List Ob):Go.Lift.Cx:=⟨Aa,E,lo,p.length+(q.length+1),Jdf⟩
section
variable{l:List CV}{a a1:Nat}{e:X}{ks:List X}{step:Nat->X×Bool×Nat}
theorem JZJ(hlo:lo<=p.length)(hs:∀lo (p q:List Ob),lo<=p.length->E lo 143 [.ptr p.length 0,.v (.string ⟨#[43]⟩),.v (.string ⟨#[45]⟩),.v (.bool true)] (p++Rc l a::q)=some (.v (.string ⟨#[]⟩),p++Rc l a1::q)):
  evCode (JC2 lo p q) JA Z8 (y7 p q,y8 p q l a e ks)=some (.exit 0,y7 p q++[(7,.v (.string ⟨#[]⟩)),(22,.v (.bool true))],y8 p q l a1 e ks):=by
 have l1:lo<=p.length+(q.length+1):=om;obtain⟨ek,en,ed,eu,el⟩:=e;simp only[y7,y8,JC2,JR,xZ,xO,go_sem,Z8,JCr,Tryz.f138,hlo,l1,hs,JZC]<;>rfl
theorem JZK{c:UInt8}{e':X}{a2:Nat}(hlo:lo<=p.length)(hs:∀lo (p q:List Ob),lo<=p.length->E lo 143 [.ptr p.length 0,.v (.string ⟨#[43]⟩),.v (.string ⟨#[45]⟩),.v (.bool true)] (p++Rc l a::q)=some (.v (.string ⟨#[c]⟩),p++Rc l a1::q))
  (ht:∀lo (p q:List Ob),lo<=p.length->E lo 142 [.ptr p.length 0] (p++Rc l a1::q)=some (.tup [.agg (xC e'),.v (.bool false)],p++Rc l a2::q)):
  evCode (JC2 lo p q) JA Z8 (y7 p q,y8 p q l a e ks)=some (.ret,[(2,.ptr (p.length+(q.length+1)) 0),(3,.v (.bool false))],p++Rc l a2::(q++[.cells (xC e'),.cells (xC e'),.cells (xO 2 ks)])):=by
 have l1:lo<=p.length+(q.length+1):=om;have l2:lo<=p.length+(q.length+1+1):=om;obtain⟨ek,en,ed,eu,el⟩:=e;obtain⟨fk,fn,fd,fu,fl⟩:=e';simp only[JR]at ht;have z:=JPB c;simp only[y7,y8,JC2,JR,xZ,xO,go_sem,Z8,JCr,Tryz.f138,hlo,l1,l2,hs,ht,z]<;>rfl
theorem JZL{c:UInt8}{e':X}{a2:Nat}{b:Bool}(hlo:lo<=p.length)(hk:ks.length<=1000000000)(hb:((⟨#[c]⟩:ByteArray).toList==(⟨#[45]⟩:ByteArray).toList)=b)
  (hs:∀lo (p q:List Ob),lo<=p.length->E lo 143 [.ptr p.length 0,.v (.string ⟨#[43]⟩),.v (.string ⟨#[45]⟩),.v (.bool true)] (p++Rc l a::q)=some (.v (.string ⟨#[c]⟩),p++Rc l a1::q))
  (ht:∀lo (p q:List Ob),lo<=p.length->E lo 142 [.ptr p.length 0] (p++Rc l a1::q)=some (.tup [.agg (xC e'),.v (.bool true)],p++Rc l a2::q)):
  evCode (JC2 lo p q) JA Z8 (y7 p q,y8 p q l a e ks)=some (.normal,y7 p q,y8 p q l a2 (if b=true then .mk 3 0 0 0 [e']else e') (ks++[if b=true then .mk 3 0 0 0 [e']else e'])):=by
 have l1:lo<=p.length+(q.length+1):=om;have l2:lo<=p.length+(q.length+1+1):=om;have l3:lo<=p.length+(q.length+(1+1)+1):=om;obtain⟨ek,en,ed,eu,el⟩:=e;obtain⟨fk,fn,fd,fu,fl⟩:=e';simp only[JR]at ht;have z:=JPB c;have o1:=JHk hk;have o2:=JHl hk;have ra:=kP ks;have rl:=Ji ks;have rb:=kQ ks
 cases b with
 |false=>
  rw[if_neg (by simp)]
  simp only[y7,y8,JC2,JR,xZ,xO,<-WR,J8,Jc];generalize GL ks=K at ra rl rb⊢
  simp only[go_sem,Z8,JCr,Tryz.f138,hlo,l1,l2,l3,hs,ht,z,hb,o1,o2,ra,rl,rb]<;>rfl
 |true=>rw[if_pos rfl];simp only[y7,y8,JC2,JR,xZ,xO,<-WR,J8,Jc];generalize GL ks=K at ra rl rb⊢;simp only[go_sem,Z8,JCr,Tryz.f138,hlo,l1,l2,l3,hs,ht,z,hb,o1,o2,ra,rl,rb]<;>rfl
theorem JPD(hlo:lo<=p.length)(hl:l.length<=1000000000)(hy:∀v∈l,By v.t.b)(hst:Jdz step l)(hmo:JLs step):∀(f a:Nat) (e:X) (ks:List X),l.length<=a+f->ks.length+f<=1000000000+1->
  match KP step (λa=>KS l a 43 45 true) 3 f a ks with
  | .inl (e',a')=>∃ks',JA (evCode (JC2 lo p q) JA Z8) (y7 p q,y8 p q l a e ks)=some (.ret,[(2,.ptr (p.length+(q.length+1)) 0),(3,.v (.bool false))],p++Rc l a'::(q++[.cells (xC e'),.cells (xC e'),.cells (xO 2 ks')]))
  | .inr (ks',a')=>∃e',JA (evCode (JC2 lo p q) JA Z8) (y7 p q,y8 p q l a e ks)=some (.exit 0,y7 p q++[(7,.v (.string ⟨#[]⟩)),(22,.v (.bool true))],y8 p q l a' e' ks')
 |0,a,e,ks,hf,hk=>by
  have hs:=λlo (p q:List Ob) hlo=>f143 (lo:=lo) (p:=p) (q:=q) (l:=l) (a:=a) (one:=43) (other:=45) (apart:=true) hlo hl hy om om
  rw[JLr om]at hs;unfold KP
  exact⟨e,by rw[JB,JZJ hlo hs,Jx]⟩
 |f+1,a,e,ks,hf,hk=>by
  have hs:=λlo (p q:List Ob) hlo=>f143 (lo:=lo) (p:=p) (q:=q) (l:=l) (a:=a) (one:=43) (other:=45) (apart:=true) hlo hl hy om om
  have hon:=λb=>JJx (l:=l) (a:=a) (one:=43) (other:=45) (apart:=true) (b:=b)
  unfold KP;generalize KS l a 43 45 true=r at hs hon⊢;obtain⟨o,a1⟩:=r
  cases o with
  |none=>exact⟨e,by rw[JB,JZJ hlo hs,Jx]⟩
  |some b=>
   have h1:=hon b rfl;have ht:=λlo (p q:List Ob) hlo=>hst lo p q a1 hlo
   have hm:=hmo a1;simp only;generalize step a1=t at ht hm⊢;obtain⟨e',ok,a2⟩:=t
   cases ok with
   |false=>
    refine⟨ks,?_⟩
    cases b with
    |false=>rw[JB,JZK (c:=43) hlo hs ht,Kh]
    |true=>rw[JB,JZK (c:=45) hlo hs ht,Kh]
   |true=>
    simp only at h1 hm;have ih:=JPD hlo hl hy hst hmo f a2 (if b=true then .mk 3 0 0 0 [e']else e') (ks++[if b=true then .mk 3 0 0 0 [e']else e']) om (by simp;omega)
    cases b with
    |false=>
     rw[JB,JZL (c:=43) (b:=false) hlo om (JkS (by decide)) hs ht,JO]
     exact ih
    |true=>rw[JB,JZL (c:=45) (b:=true) hlo om JkT hs ht,JO];exact ih
theorem f138(hlo:lo<=p.length)(hl:l.length<=100000000)(hy:∀v∈l,By v.t.b)(hst:Jdz step l)(hmo:JLs step):
  E lo 138 [.ptr p.length 0] (p++Rc l a::q)=some (.tup [.agg (xC (Q1 step (λa=>KS l a 43 45 true) 2 3 (l.length+1) a).1),.v (.bool (Q1 step (λa=>KS l a 43 45 true) 2 3 (l.length+1) a).2.1)],
   p++Rc l (Q1 step (λa=>KS l a 43 45 true) 2 3 (l.length+1) a).2.2::q):=by
 have l1:lo<=p.length+(q.length+1):=om;have l2:lo<=p.length+(q.length+1+1):=om;have l3:lo<=p.length+(q.length+(1+1)+1):=om;have l4:lo<=p.length+(q.length+3+1):=om;have ht:=λlo (p q:List Ob) hlo=>hst lo p q a hlo
 have hm:=hmo a;unfold Q1;rw[JrV];generalize step a=t at ht hm⊢;obtain⟨e,ok,a1⟩:=t
 cases ok with
 |false=>
  simp only;obtain⟨ek,en,ed,eu,el⟩:=e;simp only[JR]at ht⊢
  simp only[go_sem,JCr,Tryz.f138,hlo,l1,l2,ht]<;>rfl
 |true=>
  simp only at hm⊢;have hL:=JPD (lo:=lo) (p:=p) (q:=q) hlo om hy hst hmo (l.length+1) a1 e [e] om (by simp;omega)
  have hcl:=kR (step:=step) (sg:=λa=>KS l a 43 45 true) (inv:=3) (l.length+1) a1 [e]
  generalize KP step (λa=>KS l a 43 45 true) 3 (l.length+1) a1 [e]=r at hL hcl⊢
  obtain⟨ek,en,ed,eu,el⟩:=e
  cases r with
  |inl r=>
   obtain⟨e',a'⟩:=r;obtain⟨ks',hL⟩:=hL;obtain⟨fk,fn,fd,fu,fl⟩:=e';simp only[JR]at ht⊢;simp only[Z8,JCr,Tryz.f138,JK,loops,JC,y7,y8,JC2,JR,xZ,xO,J8,Jc,go_sem]at hL
   simp only[go_sem,JCr,Tryz.f138,hlo,l1,l2,l3,ht,hL]<;>rfl
  |inr r=>
   obtain⟨ks',a'⟩:=r;obtain⟨e',hL⟩:=hL;have hks:=hcl ks' a' rfl;have c144:=λlo h hlo=>f144 (lo:=lo) (h:=h) (e:= .mk 2 0 0 0 ks') hlo (by simp at hks;show ks'.length<=_;omega)
   obtain⟨fk,fn,fd,fu,fl⟩:=e';simp only;generalize KC (.mk 2 0 0 0 ks')=sx at c144⊢;obtain⟨gk,gn,gd,gu,gl⟩:=sx;simp only[JR]at ht c144⊢;simp only[Z8,JCr,Tryz.f138,JK,loops,JC,y7,y8,JC2,JR,xZ,xO,J8,Jc,go_sem]at hL;simp only[go_sem,JCr,Tryz.f138,hlo,l1,l2,l3,l4,ht,c144,hL]<;>rfl
end
end Go.Lift.Y1
end

section
open Go.Proofs
namespace Go.Lift.Y1
open Rul
variable{lo:Nat}{h:JG}
abbrev N55(l out:List CV)(k:Int):Jl:=[(3,.list .yes (JJ out)),(6,.list .no (JJ l)),(7,.v (.int .i64 l.length)),(8,.v (.int .i64 k))]
theorem JLt{n:Nat}(h:n<=1000000000):(n+1)*72<=140737488355328:=om
theorem JUa{n:Nat}(h:n<=1000000000):n<=9223372036854775806:=om
theorem JRX(out:List CV)(t:Tk4)(ks:List CV):JJ out++[[V.v (Value.int Am t.k),V.v (Value.string (Rul.bs t.b)),V.v (Value.int Am t.n),V.v (Value.int Am t.d),V.v (Value.bool t.w),V.v (Value.bool t.i),V.list .no (JJ ks)]]=JJ (out++[.mk t ks]):=by
 rw[jr,JZ,JX,JP]
theorem JXr{l out:List CV}{v:CV}{k:Nat}(hlo:lo<=h.length)(hl:JN l<=1000000000)(hg:l[k]? =some v)(ho:out.length<=1000000000)
  (ih:∀lo h,lo<=h.length->E lo 57 [.list .no (JJ v.ks)] h=some (.list .no (JJ v.ks),h)):
  evCode ⟨Aa,E,lo,h.length,h57⟩ JA JGv (N55 l out k,h)=some (.normal,N55 l (out++[v]) (k+1:Nat),h):=by
 obtain⟨t,ks⟩:=v;have hlt:k<l.length:=(Ab.1 hg).1
 have hgr:(JJ l)[k]? =some (Js (.mk t ks)):=by rw[Jq,hg]<;>rfl
 have q:decide ((k:Int)<(l.length:Int))=true:=by simp;omega
 have hll:=JV l;have hw:=JM (i:=k) om;have hlo':lo<=h.length+1:=om;have c55:=λlo hlo=>ih lo (h++[.cells (Js (.mk t ks))]) hlo
 rw[JP]at*;have c55a:=c55 lo (by simp;omega);have c55b:=c55 (h.length+1) (by simp)
 clear c55 ih;have o1:=JLt ho;have o2:=JUa ho;have ra:=Jn out;have rl:=JD out;have rb:=YU out;simp only[CV.ks]at c55a c55b;simp only[N55];rw[<-JRX];generalize JJ out=R at*;simp only[N55,go_sem,JGv,b57,Tryz.f57,hlo,hlo',q,hgr,hw,c55a,c55b,o1,o2,ra,rl,rb,JD]<;>rfl
theorem Jd0{l out:List CV}(hlo:lo<=h.length):evCode ⟨Aa,E,lo,h.length,h57⟩ JA JGv (N55 l out l.length,h)=
   some (.exit 0,N55 l out l.length++[(9,.v (.bool false))],h):=by
 have q:decide ((l.length:Int)<(l.length:Int))=false:=by simp
 simp only[N55,go_sem,JGv,b57,Tryz.f57,hlo,q]<;>rfl
theorem JUb{l:List CV}(hlo:lo<=h.length)(hl:JN l<=1000000000)
  (ih:∀v∈l,∀lo h,lo<=h.length->E lo 57 [.list .no (JJ v.ks)] h=some (.list .no (JJ v.ks),h)):
  ∀(m k:Nat),k+m=l.length->JA (evCode ⟨Aa,E,lo,h.length,h57⟩ JA JGv) (N55 l (l.take k) k,h)=some (.exit 0,N55 l l l.length++[(9,.v (.bool false))],h)
 |0,k,hk=>by
  obtain rfl:k=l.length:=om
  rw[BP,JB,Jd0 hlo,Jx]
 |m+1,k,hk=>by
  have hlt:k<l.length:=om;have hll:=JV l;have hr:=JXr (h:=h) (out:=l.take k) hlo hl (Ac hlt) (by rw[Az];omega) (ih _ (AW hlt))
  rw[JB,hr,JO,<-Bu hlt];exact JUb hlo hl ih m (k+1) om
theorem f57:∀(n:Nat) (l:List CV),JN l<=n->n<=1000000000->∀(lo:Nat) (h:JG),lo<=h.length->E lo 57 [.list .no (JJ l)] h=some (.list .no (JJ l),h)
 |n,l,hl,hn,lo,h,hlo=>by
  have hL:=JUb (lo:=lo) (h:=h) (l:=l) hlo om (λv hv lo' h' hlo'=>by
   have h1:=KO hv;rw[Qj]at h1
   exact f57 (n-1) v.ks om om lo' h' hlo') l.length 0 om
  have n0:((0:Nat):Int)=0:=rfl;rw[Cd]at hL;rw[e57];simp only[JGv,b57,Tryz.f57,JK,loops,JC,go_sem,N55,n0,JX,AA,Au]at hL;simp only[go_sem,b57,Tryz.f57,hlo,hL,JD,n0]<;>rfl
 termination_by n=>n
 decreasing_by
  have h1:=KO hv;rw[Qj]at h1;omega
theorem YV{l m:List CV}(h:m<:+l):JN m<=JN l:=by obtain⟨p,rfl⟩:=h;rw[Ha];omega
theorem JD2{l m:List CV}(h:m<+:l):JN m<=JN l:=by obtain⟨p,rfl⟩:=h;rw[Ha];omega
theorem qx:∀l:List CV,JN l.reverse=JN l
 |[]=>rfl
 |v::r=>by rw[List.reverse_cons,Ha,qx r,J6,J6,Qd];omega
theorem Kf(l:List CV):JN (Jh l)<=JN l:=by
 unfold Jh;rw[qx];refine Bt (YV (BR _)) ?_
 rw[qx];exact YV (BR _)
theorem f25{l:List CV}(hlo:lo<=h.length)(hl:JN l<=1000000000):E lo 25 [.list .no (JJ l)] h=some (.list .no (JJ (Jh l)),h):=by have hll:=JV l;have c57:=f58 (lo:=lo) (h:=h) (l:=l) hlo om;have c55:=f57 _ (Jh l) (Kf l) om lo h hlo;rw[e25];simp only[go_sem,b25,Tryz.f25,hlo,c57,c55]<;>rfl
theorem YP{l:List CV}{i f:Nat}:JN ((l.take i).drop f)<=JN l:=Bt (YV (LX ..)) (JD2 (List.take_prefix ..))
theorem JAs{l:List CV}{f:Nat}:JN (l.drop f)<=JN l:=YV (LX ..)
abbrev JD3(l:List CV)(out:List (List CV))(f i:Nat):Jl:=[(0,.list .no (JJ l)),(3,.list .yes (Yh out)),(4,.v (.int .i64 f)),(7,.list .no (JJ l)),(8,.v (.int .i64 l.length)),(9,.v (.int .i64 i))]
theorem JXs{l:List CV}{out:List (List CV)}{v:CV}{f i:Nat}(hlo:lo<=h.length)(hl:JN l<=1000000000)(hg:l[i]? =some v)(hf:f<=i)(ho:out.length<=1000000000)(hk:v.k=18):
  evCode ⟨Aa,E,lo,h.length,JT8⟩ JA qm (JD3 l out f i,h)=some (.normal,JD3 l (out++[Jh ((l.take i).drop f)]) (i+1) (i+1),h):=by
 obtain⟨t,ks⟩:=v;have hlt:i<l.length:=(Ab.1 hg).1
 have hll:l.length<=1000000000:=by have:=JV l;omega
 have hgr:(JJ l)[i]? =some (Js (.mk t ks)):=by rw[Jq,hg]<;>rfl
 have q:decide ((i:Int)<(l.length:Int))=true:=by simpa using hlt
 have hw:=JM (i:=i) om;have qk:(t.k==18)=true:=by rw[beq_iff_eq];exact hk
 have l1:lo<=h.length+1:=om;have hi:i<=l.length:=om;have hc:=λlo hlo=>f25 (lo:=lo) (h:=h++[.cells (Js (.mk t ks))]) (l:=(l.take i).drop f) hlo (by have:=YP (l:=l) (i:=i) (f:=f);omega)
 rw[JP]at*;have ca:=hc lo (by simp;omega);have cb:=hc (h.length+1) (by simp)
 clear hc;have ed:((JJ l).take i).drop f=JJ ((l.take i).drop f):=by rw[K9,QV]
 have ra:=Jn ((l.take i).drop f);have rl:=Jn l;have pa:=JBN out;have pl:=kO out;have pi:=JBO out;have o1:(out.length+1)*24<=140737488355328:=om;have o2:out.length<=9223372036854775806:=om;simp only[JD3];rw[y4];generalize Yh out=R at*;simp only[go_sem,qm,JNo,Tryz.f119,hlo,q,hgr,hw,qk,l1,hi,hf,ca,cb,ed,ra,rl,pa,pl,pi,o1,o2,JD]<;>rfl
theorem Jd1{l:List CV}{out:List (List CV)}{v:CV}{f i:Nat}(hlo:lo<=h.length)(hl:l.length<=1000000000)(hg:l[i]? =some v)(hk:v.k≠18):
  evCode ⟨Aa,E,lo,h.length,JT8⟩ JA qm (JD3 l out f i,h)=some (.normal,JD3 l out f (i+1),h):=by
 obtain⟨t,ks⟩:=v;have hlt:i<l.length:=(Ab.1 hg).1
 have hgr:(JJ l)[i]? =some (Js (.mk t ks)):=by rw[Jq,hg]<;>rfl
 have q:decide ((i:Int)<(l.length:Int))=true:=by simpa using hlt
 have hw:=JM (i:=i) om;have qk:(t.k==18)=false:=by rw[beq_eq_false_iff_ne];exact hk
 have l1:lo<=h.length+1:=om;rw[JP]at*;simp only[JD3,go_sem,qm,JNo,Tryz.f119,hlo,q,hgr,hw,qk,l1,JD]<;>rfl
theorem JJy{l:List CV}(hlo:lo<=h.length)(hl:JN l<=1000000000):∀(m i f:Nat) (out:List (List CV)),m=l.length-i->i<=l.length->f<=i->out.length<=i->
  ∃(f':Nat) (o:List (List CV)),f'<=l.length/\o.length<=l.length/\out++Q0 ((l.take i).drop f) (l.drop i)=o++[Jh (l.drop f')]/\
   JA (evCode ⟨Aa,E,lo,h.length,JT8⟩ JA qm) (JD3 l out f i,h)=some (.exit 0,JD3 l o f' l.length++[(10,.v (.bool false))],h)
 |0,i,f,out,hm,hi,hf,ho=>by
  obtain rfl:i=l.length:=om;have hd:decide ((l.length:Int)<(l.length:Int))=false:=by simp
  refine⟨f,out,hf,ho,?_,?_⟩
  ·rw[A0,Q0,BP]
  ·rw[JB]
   simp only[JD3,go_sem,qm,JNo,Tryz.f119,hlo,hd]<;>rfl
 |m+1,i,f,out,hm,hi,hf,ho=>by
  have hlt:i<l.length:=om;have hll:l.length<=1000000000:=by have:=JV l;omega
  have hg:=Ac hlt
  rw[Av hlt,Q0,JB];by_cases hk:(l[i]).k=18
  ·rw[if_pos hk,JXs hlo hl hg hf om hk,JO]
   obtain⟨f',o,h1,h2,h3,h4⟩:=JJy hlo hl m (i+1) (i+1) (out++[Jh ((l.take i).drop f)]) om om (Ad _) (by rw[Ao,List.length_singleton];omega)
   have e0:(l.take (i+1)).drop (i+1)=[]:=AZ (by rw[Az];omega)
   rw[e0,Ax,List.singleton_append]at h3;exact⟨f',o,h1,h2,h3,h4⟩
  ·rw[if_neg hk,Jd1 hlo hll hg hk,JO]
   obtain⟨f',o,h1,h2,h3,h4⟩:=JJy hlo hl m (i+1) f out om om om om
   have hd:(l.take (i+1)).drop f=(l.take i).drop f++[l[i]]:=by rw[Bu hlt,List.drop_append_of_le_length (by rw[Az];omega)]
   rw[hd]at h3;exact⟨f',o,h1,h2,h3,h4⟩
theorem f119{l:List CV}(hlo:lo<=h.length)(hl:JN l<=1000000000):E lo 119 [.list .no (JJ l)] h=some (.list .no (Yh (J4 l)),h):=by
 have hll:l.length<=1000000000:=by have:=JV l;omega
 obtain⟨f',o,h1,h2,h3,h4⟩:=JJy (lo:=lo) (h:=h) hlo hl l.length 0 0 [] om (Nat.zero_le _) (Ad _) (Ad _);simp only[Au,AD,Cd,List.drop_nil]at h3;have e:J4 l=o++[Jh (l.drop f')]:=h3;rw[e,y4];simp only[JD3,qm,JNo,Tryz.f119,JK,loops,JC,go_sem,Yh,List.map_nil]at h4;have hc:=λlo hlo=>f25 (lo:=lo) (h:=h) (l:=l.drop f') hlo (by have:=JAs (l:=l) (f:=f');omega)
 have ca:=hc lo hlo;have cb:=hc h.length (Ad _);have n0:((0:Nat):Int)=0:=rfl;have ed:(JJ l).drop f'=JJ (l.drop f'):=QV l f';have et:(JJ l).take l.length=JJ l:=by rw[K9,BP]
 have ra:=Jn (l.drop f');have rl:=Jn l;have pa:=JBN o;have pl:=kO o;have pi:=JBO o;have o1:(o.length+1)*24<=140737488355328:=om;have o2:o.length<=9223372036854775806:=om;unfold Yh at pa pl pi⊢;rw[JrD];simp only[go_sem,JNo,Tryz.f119,hlo,n0,h4,h1,ca,cb,ed,et,ra,rl,pa,pl,pi,o1,o2,JD]<;>rfl
end Go.Lift.Y1
end

section
open Go.Proofs
namespace Go.Lift.Y1
open Rul
open Utf (By)
variable{lo:Nat}{h:JG}
theorem JUc{l:List CV}{a:Nat}{one other:Int}{apart:Bool}(h:(KS l a one other apart).1=none):(KS l a one other apart).2=a:=by
 unfold KS at h⊢
 cases hg:l[skipS l a]? with
 |none=>rfl
 |some v=>
  rw[hg]at h;simp only at h⊢
  split at h
  ·rename_i hk
   rw[if_pos hk]
   split at h
   ·cases h
   ·rename_i hc
    rw[if_neg hc]
  ·rename_i hk
   rw[if_neg hk]
theorem JXt(l:List CV)(a:Nat)(one other:Int)(apart:Bool):a<=(KS l a one other apart).2:=by
 cases hs:(KS l a one other apart).1 with
 |none=>rw[JUc hs];exact Ad _
 |some b=>have:=JJx hs;omega
theorem JJz(op:CV->X×Bool)(l:List CV):JLs (J5 op l):=λa=>by
 unfold J5
 cases l[a]? with
 |none=>exact Ad _
 |some v=>exact Nat.le_succ _
theorem JC3{step:Nat->X×Bool×Nat}{sg:Nat->Option Bool×Nat}{inv:Int}(hm:JLs step)(hs:∀a,a<=(sg a).2):∀(f a:Nat) (ks:List X),
  match KP step sg inv f a ks with
  | .inl (_,a')=>a<=a'
  | .inr (_,a')=>a<=a'
 |0,a,ks=>by unfold KP;exact Ad _
 |f+1,a,ks=>by
  have h1:=hs a;unfold KP;generalize sg a=r at h1⊢;obtain⟨o,a1⟩:=r
  cases o with
  |none=>exact h1
  |some b=>
   have h2:=hm a1;simp only;generalize step a1=t at h2⊢;obtain⟨e,ok,a2⟩:=t;simp only at h1 h2
   cases ok with
   |false=>simp only;omega
   |true=>
    simp only;have ih:=JC3 (inv:=inv) hm hs f a2 (ks++[if b=true then .mk inv 0 0 0 [e]else e])
    revert ih;generalize KP step sg inv f a2 (ks++[if b=true then .mk inv 0 0 0 [e]else e])=r
    intro ih
    match r,ih with
    | .inl (_,a'),ih=>simp only at ih⊢;omega
    | .inr (_,a'),ih=>simp only at ih⊢;omega
theorem JNy{step:Nat->X×Bool×Nat}{sg:Nat->Option Bool×Nat}{kind inv:Int}{f:Nat}(hm:JLs step)(hs:∀a,a<=(sg a).2):JLs (Q1 step sg kind inv f):=λa=>by
 have h1:=hm a;unfold Q1;generalize step a=t at h1⊢;obtain⟨e,ok,a1⟩:=t
 cases ok with
 |false=>exact h1
 |true=>
  simp only at h1⊢;have h2:=JC3 (inv:=inv) hm hs f a1 [e];revert h2;generalize KP step sg inv f a1 [e]=r;intro h2
  match r,h2 with
  | .inl (_,a'),h2=>simp only at h2⊢;omega
  | .inr (_,a'),h2=>simp only at h2⊢;omega
theorem JkU{l:List CV}{a:Nat}{w:List CV->X×Bool}{p q:List Ob}(hlo:lo<=p.length)(hl:l.length<=100000000)(hy:∀v∈l,By v.t.b)(h:∀v∈l,W97 w v.ks/\W72 w v):
  E lo 138 [.ptr p.length 0] (p++Rc l a::q)=some (.tup [.agg (xC (JNx (zZ w) l a).1),.v (.bool (JNx (zZ w) l a).2.1)],p++Rc l (JNx (zZ w) l a).2.2::q):=by
 have m1:=JJz (zZ w) l;have s1:Jdy (J5 (zZ w) l) l:=λlo p q a hlo=>f147 hlo om h
 have s2:Jdz (WO (zZ w) l) l:=λlo p q a hlo=>f142 hlo hl hy s1 m1
 exact f138 hlo hl hy s2 (JNy m1 λa=>JXt ..)
theorem f118{l:List CV}{n:Nat}(hlo:lo<=h.length)(hl:JN l<=100000000)(hy:∀v∈Jh l,By v.t.b)(hv:∀v∈Jh l,W97 (Ki n) v.ks/\W72 (Ki n) v):
  E lo 118 [.list .no (JJ l)] h=some (.tup [.agg (xC (Ki (n+1) l).1),.v (.bool (Ki (n+1) l).2)],h):=by
 have l1:lo<=h.length+1:=om;have l2:lo<=h.length+1+1:=om;have hll:=JV (Jh l);have htl:=Kf l;have c25:=λlo h hlo=>f25 (lo:=lo) (h:=h) (l:=l) hlo om
 have c138:=λlo h hlo=>JkU (lo:=lo) (l:=Jh l) (a:=0) (w:=Ki n) (p:=h++[.cells xZ]) (q:=[]) hlo om hy hv
 simp only[Ao,Ae,Ai,Ax,AA,Au,Nat.zero_add,Rc,show((0:Nat):Int)=0 from rfl]at c138
 unfold Ki;simp only;generalize Jh l=L at c25 c138 hll⊢;generalize JNx (zZ (Ki n)) L 0=r at c138⊢;obtain⟨⟨ek,en,ed,eu,el⟩,ok,a1⟩:=r;have hq:((a1:Int)==(L.length:Int))=(a1==L.length):=by rw[BO,beq_iff_eq,beq_iff_eq];omega
 rw[JrC (by simp) (by rfl)]
 simp only[JR,xZ,Rc]at c138⊢
 cases ok with
 |false=>
  rw[As];simp(config:={maxSteps:=4000000})only[go_sem,JQ3,Tryz.f118,hlo,l1,l2,c25,c138,JD,hq]
  all_goals rfl
 |true=>rw[Aw];simp(config:={maxSteps:=4000000})only[go_sem,JQ3,Tryz.f118,hlo,l1,l2,c25,c138,JD,hq];all_goals rfl
def okT(t:Tk4):Prop:=By t.b/\t.b.length<=1000000000/\(-9223372036854775808<=t.n/\t.n<=9223372036854775807)/\(-9223372036854775808<=t.d/\t.d<=9223372036854775807)
theorem Jrx{t:Tk4}{kids:List CV}{w:List CV->X×Bool}(hlo:lo<=h.length)(ht:okT t)(hk:(t.k==10)=true):
  E lo 92 [.agg (Js (.mk t kids))] h=some (.tup [.agg (xC (KJ w (.mk t kids)).1),.v (.bool (KJ w (.mk t kids)).2)],h):=by
 have l1:lo<=h.length+1:=om;have l2:lo<=h.length+1+1:=om;have l3:lo<=h.length+3:=om;have c115:=λlo h hlo=>f115 (lo:=lo) (h:=h) (n:=t.n) (d:=t.d) (u:=0) ht.2.2.1.1 ht.2.2.1.2 ht.2.2.2.2 hlo
 rw[JAH hk,e92];simp only;generalize JA6 t.n t.d 0=x at c115⊢;obtain⟨ek,en,ed,eu,el⟩:=x;simp only[JR,JP]at c115⊢;simp only[go_sem,b92,Tryz.f92,hlo,l1,l2,l3,hk,c115]<;>rfl
theorem Jry{t:Tk4}{kids:List CV}{w:List CV->X×Bool}(hlo:lo<=h.length)(ht:okT t)(h0:(t.k==10)=false)(hk:(t.k==12)=true):
  E lo 92 [.agg (Js (.mk t kids))] h=some (.tup [.agg (xC (KJ w (.mk t kids)).1),.v (.bool (KJ w (.mk t kids)).2)],h):=by
 have l1:lo<=h.length+1:=om;have l2:lo<=h.length+1+1:=om;have l3:lo<=h.length+3:=om;have c116:=λlo h hlo=>f116 (lo:=lo) (h:=h) (b:=t.b) hlo ht.1 ht.2.1
 have c115:=λlo h hlo=>f115 (lo:=lo) (h:=h) (n:=t.n) (d:=t.d) (u:=GD t.b) ht.2.2.1.1 ht.2.2.1.2 ht.2.2.2.2 hlo
 rw[JHi h0 hk,e92];simp only;generalize JA6 t.n t.d (GD t.b)=x at c115⊢;obtain⟨ek,en,ed,eu,el⟩:=x;simp only[JR,JP]at c115⊢;simp only[go_sem,b92,Tryz.f92,hlo,l1,l2,l3,h0,hk,c115,c116]<;>rfl
theorem Jrz{t:Tk4}{kids:List CV}{w:List CV->X×Bool}(hlo:lo<=h.length)(h0:(t.k==10)=false)(h1:(t.k==12)=false)(hk:(t.k==2)=false):
  E lo 92 [.agg (Js (.mk t kids))] h=some (.tup [.agg (xC (KJ w (.mk t kids)).1),.v (.bool (KJ w (.mk t kids)).2)],h):=by
 have l1:lo<=h.length+1:=om;have l2:lo<=h.length+1+1:=om;rw[JLo h0 h1 hk,e92];simp only[Jt,JR,JP,Jc];simp only[go_sem,b92,Tryz.f92,hlo,l1,l2,h0,h1,hk]<;>rfl
theorem Ws{t:Tk4}(ht:okT t){w:List Int}(hw:w.all (λc=>decide (0<=c)&&decide (c<256))=true):((Rul.bs (Jg t.b)).toList==(Rul.bs w).toList)=(Jg t.b==w):=
 QR (Zn ht.1) λc hc=>by have:=Ak.1 hw c hc;simp only[Af,decide_eq_true_eq]at this;omega
theorem JNz:Rul.bs Y2=⟨#[99,97,108,99]⟩:=rfl
theorem JZM:Rul.bs jW=⟨#[109,105,110]⟩:=rfl
theorem JZN:Rul.bs jX=⟨#[109,97,120]⟩:=rfl
theorem JPG:Rul.bs Q2=⟨#[99,108,97,109,112]⟩:=rfl
section
variable{t:Tk4}{kids:List CV}{w:List CV->X×Bool}
theorem Jr0(hlo:lo<=h.length)(ht:okT t)(h0:(t.k==10)=false)(h1:(t.k==12)=false)(hk:(t.k==2)=true)(hn:(Jg t.b==Y2)=true)(hw:W97 w kids):
  E lo 92 [.agg (Js (.mk t kids))] h=some (.tup [.agg (xC (KJ w (.mk t kids)).1),.v (.bool (KJ w (.mk t kids)).2)],h):=by
 have l1:lo<=h.length+1:=om;have l2:lo<=h.length+1+1:=om;have l3:lo<=h.length+3:=om;have c117:=λlo h hlo=>f117 (lo:=lo) (h:=h) (l:=t.b) hlo (by have:=ht.2.1;omega) ht.1
 have c118:∀lo h,lo<=h.length->E lo 118 [.list .no (JJ kids)] h=some (.tup [.agg (xC (w kids).1),.v (.bool (w kids).2)],h):=hw;have q1:=Ws ht (w:=Y2) (by decide)
 rw[hn,JNz]at q1;rw[Zp h0 h1 hk,if_pos hn,e92];generalize w kids=r at c118⊢;obtain⟨⟨ek,en,ed,eu,el⟩,eb⟩:=r;simp only[JR,JP]at c118⊢;simp only[go_sem,b92,Tryz.f92,hlo,l1,l2,l3,h0,h1,hk,c117,q1,c118]<;>rfl
theorem Jr1(hlo:lo<=h.length)(ht:okT t)(h0:(t.k==10)=false)(h1:(t.k==12)=false)(hk:(t.k==2)=true)(n1:(Jg t.b==Y2)=false)(n2:(Jg t.b==jW)=false)(n3:(Jg t.b==jX)=false)(n4:(Jg t.b==Q2)=false):
  E lo 92 [.agg (Js (.mk t kids))] h=some (.tup [.agg (xC (KJ w (.mk t kids)).1),.v (.bool (KJ w (.mk t kids)).2)],h):=by
 have l1:lo<=h.length+1:=om;have l2:lo<=h.length+1+1:=om;have l3:lo<=h.length+3:=om;have c117:=λlo h hlo=>f117 (lo:=lo) (h:=h) (l:=t.b) hlo (by have:=ht.2.1;omega) ht.1
 have q1:=Ws ht (w:=Y2) (by decide)
 have q2:=Ws ht (w:=jW) (by decide)
 have q3:=Ws ht (w:=jX) (by decide)
 have q4:=Ws ht (w:=Q2) (by decide)
 rw[n1,JNz]at q1;rw[n2,JZM]at q2;rw[n3,JZN]at q3;rw[n4,JPG]at q4;rw[Zp h0 h1 hk,if_neg (by rw[n1];simp),if_neg (by rw[n2];simp),if_neg (by rw[n3];simp),if_neg (by rw[n4];simp),e92]
 simp only[Jt,JR,JP,Jc];simp only[go_sem,b92,Tryz.f92,hlo,l1,l2,l3,h0,h1,hk,c117,q1,q2,q3,q4]<;>rfl
abbrev N72(h:JG)(K:Int)(ps:List (List CV))(j:Int):Jl:=[(2,.ptr (h.length+1) 0),(5,.v (.int .i64 K)),(6,.ptr (h.length+3) 0),(56,.list .no (Yh ps)),(57,.v (.int .i64 ps.length)),(58,.v (.int .i64 j))]
abbrev H72(h:JG)(t:Tk4)(kids:List CV)(K:Int)(ks:List X):JG:=h++[.cells (Js (.mk t kids)),.cells xZ,.cells [.v (.int .i64 t.k),.v (.string (Rul.bs t.b)),.v (.int .i64 t.n),.v (.int .i64 t.d),.v (.bool t.w),.v (.bool t.i)],.cells (xO K ks)]
theorem Jr2{K:Int}{ps:List (List CV)}{p:List CV}{j:Nat}{ks:List X}{e:X}(hlo:lo<=h.length)(hl:ps.length<=1000000000)(hks:ks.length<=1000000000)(hg:ps[j]? =some p)
  (hw:∀lo h,lo<=h.length->E lo 118 [.list .no (JJ p)] h=some (.tup [.agg (xC e),.v (.bool true)],h)):
  evCode ⟨Aa,E,lo,h.length,h92⟩ JA qH (N72 h K ps j,H72 h t kids K ks)=some (.normal,N72 h K ps (j+1:Nat),H72 h t kids K (ks++[e])):=by
 have l1:lo<=h.length+1:=om;have l2:lo<=h.length+1+1:=om;have l3:lo<=h.length+3:=om;have l4:lo<=h.length+4:=om;have hlt:j<ps.length:=(Ab.1 hg).1
 have hgr:(Yh ps)[j]? =some [.list .no (JJ p)]:=by unfold Yh;rw[An,hg]<;>rfl
 have q1:decide ((j:Int)<(ps.length:Int))=true:=by rw[decide_eq_true_iff];omega
 have t1:Bw (j:Int)=j:=om;have hwr:=JM (i:=j) om;obtain⟨ek,en,ed,eu,el⟩:=e;simp only[JR]at hw;have o1:=JHk hks;have o2:=JHl hks;have ra:=kP ks;have rl:=Ji ks;have rb:=kQ ks;simp only[N72,H72,JP,xZ,xO,<-WR,J8,Jc,JR];generalize GL ks=Q at ra rl rb⊢;simp only[go_sem,qH,b92,Tryz.f92,hlo,l1,l2,l3,l4,hgr,q1,t1,hwr,hw,o1,o2,ra,rl,rb]<;>rfl
theorem Jr3{K:Int}{ps:List (List CV)}{p:List CV}{j:Nat}{ks:List X}{e:X}(hlo:lo<=h.length)(hl:ps.length<=1000000000)(hg:ps[j]? =some p)
  (hw:∀lo h,lo<=h.length->E lo 118 [.list .no (JJ p)] h=some (.tup [.agg (xC e),.v (.bool false)],h)):
  evCode ⟨Aa,E,lo,h.length,h92⟩ JA qH (N72 h K ps j,H72 h t kids K ks)=some (.ret,[(2,.ptr (h.length+1) 0),(3,.v (.bool false))],h++[.cells (Js (.mk t kids)),.cells xZ,.cells [.v (.int .i64 t.k),.v (.string (Rul.bs t.b)),.v (.int .i64 t.n),.v (.int .i64 t.d),.v (.bool t.w),.v (.bool t.i)],.cells (xO K ks),.cells (xC e)]):=by
 have l1:lo<=h.length+1:=om;have l2:lo<=h.length+1+1:=om;have l3:lo<=h.length+3:=om;have l4:lo<=h.length+4:=om;have hlt:j<ps.length:=(Ab.1 hg).1
 have hgr:(Yh ps)[j]? =some [.list .no (JJ p)]:=by unfold Yh;rw[An,hg]<;>rfl
 have q1:decide ((j:Int)<(ps.length:Int))=true:=by rw[decide_eq_true_iff];omega
 have t1:Bw (j:Int)=j:=om;obtain⟨ek,en,ed,eu,el⟩:=e;simp only[JR]at hw;simp only[N72,H72,JP,xZ,xO,JR,Jt,Jc];simp only[go_sem,qH,b92,Tryz.f92,hlo,l1,l2,l3,l4,hgr,q1,t1,hw]<;>rfl
theorem Jd2{K:Int}{ps:List (List CV)}{ks:List X}(hlo:lo<=h.length):
  evCode ⟨Aa,E,lo,h.length,h92⟩ JA qH (N72 h K ps (ps.length:Nat),H72 h t kids K ks)=some (.exit 2,N72 h K ps (ps.length:Nat)++[(59,.v (.bool false))],H72 h t kids K ks):=by
 have l1:lo<=h.length+1:=om;have l3:lo<=h.length+3:=om;have q1:decide ((ps.length:Int)<(ps.length:Int))=false:=by rw[decide_eq_false_iff_not];omega
 simp only[N72,H72,JP,xZ,xO,go_sem,qH,b92,Tryz.f92,hlo,l1,l3,q1]<;>rfl
theorem d66:decide ((6:Int)=6)=true:=by decide
theorem d67:decide ((6:Int)=7)=false:=by decide
theorem d68:decide ((6:Int)=8)=false:=by decide
theorem d76:decide ((7:Int)=6)=false:=by decide
theorem d77:decide ((7:Int)=7)=true:=by decide
theorem d78:decide ((7:Int)=8)=false:=by decide
theorem d86:decide ((8:Int)=6)=false:=by decide
theorem d87:decide ((8:Int)=7)=false:=by decide
theorem d88:decide ((8:Int)=8)=true:=by decide
theorem JC4{ps:List (List CV)}{p:List CV}{j:Nat}(hg:ps[j]? =some p):QX w (ps.drop j)=match w p with
  |(_,false)=>none
  |(e,true)=>(QX w (ps.drop (j+1))).map (e:: ·):=by
 obtain⟨hlt,rfl⟩:=Ab.1 hg
 rw[Av hlt]<;>rfl
theorem JUd{K:Int}{ps:List (List CV)}(hlo:lo<=h.length)(hl:ps.length<=100000000)(hw:∀p∈ps,W97 w p):∀(m j:Nat) (ks:List X),j+m=ps.length->ks.length+m<=1000000000->
  match QX w (ps.drop j)with
  |none=>∃e ks',JA (evCode ⟨Aa,E,lo,h.length,h92⟩ JA qH) (N72 h K ps j,H72 h t kids K ks)=some (.ret,[(2,.ptr (h.length+1) 0),(3,.v (.bool false))],h++[.cells (Js (.mk t kids)),.cells xZ,.cells [.v (.int .i64 t.k),.v (.string (Rul.bs t.b)),.v (.int .i64 t.n),.v (.int .i64 t.d),.v (.bool t.w),.v (.bool t.i)],.cells (xO K ks'),.cells (xC e)])
  |some xs=>JA (evCode ⟨Aa,E,lo,h.length,h92⟩ JA qH) (N72 h K ps j,H72 h t kids K ks)=some (.exit 2,N72 h K ps (ps.length:Nat)++[(59,.v (.bool false))],H72 h t kids K (ks++xs))
 |0,j,ks,hj,hk=>by
  obtain rfl:j=ps.length:=om;rw[A0];show JA _ _=_
  rw[JB,Jd2 hlo,Jx,List.append_nil]
 |m+1,j,ks,hj,hk=>by
  have hlt:j<ps.length:=om;have hg:=Ac hlt
  have hp:W97 w ps[j]:=hw _ (AW hlt);rw[JC4 hg];unfold W97 at hp;generalize w ps[j]=r at hp⊢;obtain⟨e,b⟩:=r
  cases b with
  |false=>
   simp only
   exact⟨e,ks,by rw[JB,Jr3 hlo om hg hp,Kh]⟩
  |true=>
   simp only;have ih:=JUd (K:=K) hlo hl hw m (j+1) (ks++[e]) om (by simp;omega)
   rw[JB,Jr2 hlo om om hg hp,JO]
   cases hx:QX w (ps.drop (j+1))with
   |none=>rw[hx]at ih;exact ih
   |some xs=>rw[hx]at ih;simp only[Option.map_some];rw[ih,Ax]<;>rfl
theorem Hh:∀{ps:List (List CV)} {xs:List X},QX w ps=some xs->xs.length<=ps.length
 |[],xs,h=>by cases h;exact Ad _
 |p::r,xs,h=>by
  unfold QX at h
  split at h
  ·cases h
  ·obtain⟨ys,hy,rfl⟩:=Option.map_eq_some_iff.1 h
   have:=Hh hy;simp;omega
theorem Jd3{K:Int}(hK:K=6\/K=7\/K=8)(hlo:lo<=h.length)(ht:okT t)(hl:JN kids<=10000000)(h0:(t.k==10)=false)(h1:(t.k==12)=false)(hk:(t.k==2)=true)
  (n1:(Jg t.b==Y2)=false)(n2:(Jg t.b==jW)=decide (K=6))(n3:(Jg t.b==jX)=decide (K=7))(n4:(Jg t.b==Q2)=decide (K=8))(hw:∀p∈J4 kids,W97 w p):
  E lo 92 [.agg (Js (.mk t kids))] h=some (.tup [.agg (xC (Yi K w kids).1),.v (.bool (Yi K w kids).2)],h):=by
 have l1:lo<=h.length+1:=om;have l2:lo<=h.length+1+1:=om;have l3:lo<=h.length+3:=om;have l4:lo<=h.length+4:=om;have hln:=JV kids;have hsl:=GC [] kids;have c117:=λlo h hlo=>f117 (lo:=lo) (h:=h) (l:=t.b) hlo (by have:=ht.2.1;omega) ht.1
 have c119:=λlo h hlo=>f119 (lo:=lo) (h:=h) (l:=kids) hlo om
 have hL:=JUd (t:=t) (kids:=kids) (w:=w) (K:=K) hlo (show(J4 kids).length<=_ by unfold J4;omega) hw (J4 kids).length 0 [] om (by show 0+(J4 kids).length<=_;unfold J4;omega)
 have q1:=Ws ht (w:=Y2) (by decide)
 have q2:=Ws ht (w:=jW) (by decide)
 have q3:=Ws ht (w:=jX) (by decide)
 have q4:=Ws ht (w:=Q2) (by decide)
 have pl:=kO (J4 kids);rw[n1,JNz]at q1;rw[n2,JZM]at q2;rw[n3,JZN]at q3;rw[n4,JPG]at q4;rw[AD]at hL;rw[e92]
 have hkl:∀xs,QX w (J4 kids)=some xs->xs.length<=1000000000:=λxs hx=>by have:=Hh hx;unfold J4 at this;omega
 unfold Yi
 cases hx:QX w (J4 kids)with
 |none=>
  rw[hx]at hL;obtain⟨e,ks',hL⟩:=hL;generalize J4 kids=PS at c119 pl hL;simp only[Jt,JR,Jc];rcases hK with rfl|rfl|rfl<;>
  simp only[qH,b92,Tryz.f92,JK,loops,JC,N72,H72,JP,xZ,xO,Jc,go_sem]at hL<;>
  simp only[JP,go_sem,b92,Tryz.f92,hlo,l1,l2,l3,l4,h0,h1,hk,c117,c119,pl,q1,q2,q3,q4,d66,d67,d68,d76,d77,d78,d86,d87,d88,hL]<;>rfl
 |some xs=>
  rw[hx]at hL;have hxl:=hkl xs hx;simp only[Au]at hL;generalize J4 kids=PS at c119 pl hL;simp only[JR];have xl:=Ji xs;rcases hK with rfl|rfl|rfl<;>
  simp only[qH,b92,Tryz.f92,JK,loops,JC,N72,H72,JP,xZ,xO,Jc,go_sem]at hL<;>
  simp only[JP,go_sem,b92,Tryz.f92,hlo,l1,l2,l3,l4,h0,h1,hk,c117,c119,pl,q1,q2,q3,q4,d66,d67,d68,d76,d77,d78,d86,d87,d88,hL,xl]<;>rfl
end
end Go.Lift.Y1
end

section
open Go.Proofs
namespace Go.Lift.Y1
open Rul
variable{lo:Nat}{h:JG}
theorem f61(hlo:lo<=h.length)(k:Int):E lo 61 [.v (.int .i64 k)] h=some (.v (.int .i64 (Ja k)),h):=by
 rw[e61];unfold Ja;by_cases a:k=19
 ·subst a;simp only[go_sem,b61,Tryz.f61,hlo];all_goals rfl
 ·by_cases b:k=23
  ·subst b;simp only[go_sem,b61,Tryz.f61,hlo];all_goals rfl
  ·by_cases c:k=2
   ·subst c;simp only[go_sem,b61,Tryz.f61,hlo];all_goals rfl
   ·by_cases d:k=21
    ·subst d;simp only[go_sem,b61,Tryz.f61,hlo];all_goals rfl
    ·have ha:(k==19)=false:=by simpa using a
     have hb:(k==23)=false:=by simpa using b
     have hc:(k==2)=false:=by simpa using c
     have hd:(k==21)=false:=by simpa using d
     simp only[go_sem,b61,Tryz.f61,hlo,ha,hb,hc,hd,a,b,c,d,or_self,if_false]
theorem f17(hlo:lo<=h.length)(k:Int):E lo 17 [.v (.int .i64 k)] h=some (.v (.int .i64 (Ja k)),h):=by
 rw[e17];unfold Ja;by_cases a:k=19
 ·subst a;simp only[go_sem,b17,Tryz.f17,hlo];all_goals rfl
 ·by_cases b:k=23
  ·subst b;simp only[go_sem,b17,Tryz.f17,hlo];all_goals rfl
  ·by_cases c:k=2
   ·subst c;simp only[go_sem,b17,Tryz.f17,hlo];all_goals rfl
   ·by_cases d:k=21
    ·subst d;simp only[go_sem,b17,Tryz.f17,hlo];all_goals rfl
    ·have ha:(k==19)=false:=by simpa using a
     have hb:(k==23)=false:=by simpa using b
     have hc:(k==2)=false:=by simpa using c
     have hd:(k==21)=false:=by simpa using d
     simp only[go_sem,b17,Tryz.f17,hlo,ha,hb,hc,hd,a,b,c,d,or_self,if_false]
abbrev N47(l:List CV)(d k:Int):Jl:=[(1,.v (.int .i64 d)),(7,.list .no (JJ l)),(8,.v (.int .i64 l.length)),(9,.v (.int .i64 k))]
theorem JJ0(n:Nat)(t:Tk4)(ks:List CV):JJl n (.mk t ks)=(decide (1<=t.k/\t.k<=24)&&(if Ja t.k=0 then ks.isEmpty else match n with
  |0=>false
  |n+1=>QN n ks)):=by
 cases n<;>rw[JJl]
theorem JXu{l:List CV}{v:CV}{n k:Nat}(hn:n<=64)(hlo:lo<=h.length)(hl:JN l<=1000000000000000000)(hg:l[k]? =some v)
  (ih:∀m,n=m+1->∀lo ks h,lo<=h.length->JN ks<=1000000000000000000->E lo 54 [.list .no (JJ ks),.v (.int .i64 (64-(m:Int)))] h=some (.v (.bool (QN m ks)),h)):
  evCode ⟨Aa,E,lo,h.length,h54⟩ JA Yz (N47 l (64-(n:Int)) k,h)=
   if JJl n v=true then some (.normal,N47 l (64-(n:Int)) (k+1:Nat),h)else some (.ret,[(4,.v (.bool false))],h++[.cells (Js v)]):=by
 obtain⟨t,ks⟩:=v;have hlt:k<l.length:=(Ab.1 hg).1
 have hgr:(JJ l)[k]? =some (Js (.mk t ks)):=by rw[Jq,hg]<;>rfl
 have q:decide ((k:Int)<(l.length:Int))=true:=by simp;omega
 have hll:=JV l;have hkk:JN ks<=JN l:=JCb (v:= .mk t ks) hg;have hw:=JM (i:=k) om;have hlo':lo<=h.length+1:=om;have c46:=λlo hlo=>f61 (lo:=lo) (h:=h++[.cells (Js (.mk t ks))]) hlo t.k
 have c46a:=c46 lo (by simp;omega);have c46b:=c46 h.length (by simp);have c46c:=c46 (h.length+1) (by simp)
 clear c46;rw[JJ0];rw[JP]at*;by_cases a1:t.k<1
 ·have q1:decide (t.k<1)=true:=by simpa using a1
  have:decide (1<=t.k/\t.k<=24)=false:=by rw[decide_eq_false_iff_not];omega
  rw[this,As,if_neg (by simp)]
  simp only[go_sem,Yz,b54,Tryz.f54,hlo,hlo',q,hgr,q1,JD]<;>rfl
 have q1:decide (t.k<1)=false:=by simpa using a1
 by_cases a2:24<t.k
 ·have q2:decide (24<t.k)=true:=by simpa using a2
  have:decide (1<=t.k/\t.k<=24)=false:=by rw[decide_eq_false_iff_not];omega
  rw[this,As,if_neg (by simp)]
  simp only[go_sem,Yz,b54,Tryz.f54,hlo,hlo',q,hgr,q1,q2,JD]<;>rfl
 have q2:decide (24<t.k)=false:=by simpa using a2
 have:decide (1<=t.k/\t.k<=24)=true:=by rw[decide_eq_true_iff];omega
 rw[this,Aw];by_cases a3:Ja t.k=0
 ·rw[if_pos a3]
  have q3:(Ja t.k==0)=true:=by simpa using a3
  cases ks with
  |nil=>
   have q4:decide ((0:Int)<((0:Nat):Int))=false:=rfl;rw[if_pos (show([]:List CV).isEmpty=true from rfl)]
   simp only[go_sem,Yz,b54,Tryz.f54,hlo,hlo',q,hgr,q1,q2,q3,q4,hw,c46a,c46b,c46c,JD,Ai]<;>rfl
  |cons x r=>
   have q4:decide ((0:Int)<((r.length+1:Nat):Int))=true:=by rw[decide_eq_true_iff];omega
   rw[if_neg (show¬(x::r).isEmpty=true by simp)]
   simp only[go_sem,Yz,b54,Tryz.f54,hlo,hlo',q,hgr,q1,q2,q3,q4,hw,c46a,c46b,c46c,JD,Ae]<;>rfl
 ·rw[if_neg a3]
  have q3:(Ja t.k==0)=false:=by simpa using a3
  cases n with
  |zero=>
   have q5:decide ((64:Int)<=64-((0:Nat):Int))=true:=rfl;rw[if_neg (show¬false=true by simp)]
   simp only[go_sem,Yz,b54,Tryz.f54,hlo,hlo',q,hgr,q1,q2,q3,q5,hw,c46a,c46b,c46c,JD]<;>rfl
  |succ m=>
   have q5:decide ((64:Int)<=64-((m+1:Nat):Int))=false:=by rw[decide_eq_false_iff_not];omega
   have w2:Am.wrap (64-((m+1:Nat):Int)+1)=64-(m:Int):=by rw[JW om om];omega
   have c47:=λlo hlo=>ih m rfl lo ks (h++[.cells (Js (.mk t ks))]) hlo om
   rw[JP]at c47;have c47a:=c47 lo (by simp;omega);have c47b:=c47 h.length (by simp);have c47c:=c47 (h.length+1) (by simp)
   clear c47 ih;show _=if QN m ks=true then _ else _
   cases hm:QN m ks with
   |true=>
    rw[hm]at c47a c47b c47c;rw[if_pos rfl]
    simp only[go_sem,Yz,b54,Tryz.f54,hlo,hlo',q,hgr,q1,q2,q3,q5,hw,w2,c46a,c46b,c46c,c47a,c47b,c47c,JD]<;>rfl
   |false=>
    rw[hm]at c47a c47b c47c;rw[if_neg (by simp)]
    simp only[go_sem,Yz,b54,Tryz.f54,hlo,hlo',q,hgr,q1,q2,q3,q5,hw,w2,c46a,c46b,c46c,c47a,c47b,c47c,JD]<;>rfl
theorem Jd4{l:List CV}{d:Int}(hlo:lo<=h.length):evCode ⟨Aa,E,lo,h.length,h54⟩ JA Yz (N47 l d l.length,h)=
   some (.exit 0,N47 l d l.length++[(10,.v (.bool false))],h):=by
 have q:decide ((l.length:Int)<(l.length:Int))=false:=by simp
 simp only[go_sem,Yz,b54,Tryz.f54,hlo,q]<;>rfl
theorem JAJ(n:Nat)(v:CV)(r:List CV):QN n (v::r)=(JJl n v&&QN n r):=by rw[QN]
theorem JC5(n:Nat):QN n []=true:=by rw[QN]
theorem JUf{l:List CV}{n:Nat}(hn:n<=64)(hlo:lo<=h.length)(hl:JN l<=1000000000000000000)
  (ih:∀m,n=m+1->∀lo ks h,lo<=h.length->JN ks<=1000000000000000000->E lo 54 [.list .no (JJ ks),.v (.int .i64 (64-(m:Int)))] h=some (.v (.bool (QN m ks)),h)):
  ∀(m k:Nat),k+m=l.length->if QN n (l.drop k)=true then
    JA (evCode ⟨Aa,E,lo,h.length,h54⟩ JA Yz) (N47 l (64-(n:Int)) k,h)=some (.exit 0,N47 l (64-(n:Int)) l.length++[(10,.v (.bool false))],h)
   else∃X,JA (evCode ⟨Aa,E,lo,h.length,h54⟩ JA Yz) (N47 l (64-(n:Int)) k,h)=some (.ret,[(4,.v (.bool false))],h++X):=by
 intro m
 induction m with
 |zero=>
  intro k hk;obtain rfl:k=l.length:=om
  rw[A0,if_pos (JC5 n),JB,Jd4 hlo,Jx]
 |succ m ihm=>
  intro k hk;have hlt:k<l.length:=om;have hg:l[k]? =some l[k]:=Ac hlt
  have hd:l.drop k=l[k]::l.drop (k+1):=Av hlt;rw[hd,JAJ];generalize l[k]=v at*;have hr:=JXu hn hlo hl hg ih
  cases hm:JJl n v with
  |false=>
   rw[hm,if_neg (by simp)]at hr
   rw[As,if_neg (by simp)]
   exact⟨_,by rw[JB,hr,Kh]⟩
  |true=>rw[hm,if_pos rfl]at hr;rw[Aw,JB,hr,JO];exact ihm (k+1) om
theorem f54:∀(n:Nat),n<=64->∀(lo:Nat) (l:List CV) (h:JG),lo<=h.length->JN l<=1000000000000000000->E lo 54 [.list .no (JJ l),.v (.int .i64 (64-(n:Int)))] h=some (.v (.bool (QN n l)),h):=by
 intro n
 induction n with
 |zero=>
  intro hn lo l h hlo hl;have hL:=JUf (lo:=lo) (h:=h) hn hlo hl (λm hm=>by omega) l.length 0 om
  have n0:((0:Nat):Int)=0:=rfl;rw[AD]at hL;rw[e54]
  cases hm:QN 0 l with
  |false=>
   rw[hm,if_neg (by simp)]at hL
   obtain⟨X,hL⟩:=hL;simp only[Yz,b54,Tryz.f54,JK,loops,JC,go_sem,N47,n0]at hL
   simp only[go_sem,b54,Tryz.f54,hlo,hL,JD,n0]<;>rfl
  |true=>
   rw[hm,if_pos rfl]at hL;simp only[Yz,b54,Tryz.f54,JK,loops,JC,go_sem,N47,n0,AA,Au]at hL
   simp only[go_sem,b54,Tryz.f54,hlo,hL,JD,n0]<;>rfl
 |succ n ih=>
  intro hn lo l h hlo hl
  have hL:=JUf (lo:=lo) (h:=h) hn hlo hl (λm hm=>by
   obtain rfl:n=m:=om
   exact λlo ks h hlo hk=>ih om lo ks h hlo hk) l.length 0 om
  have n0:((0:Nat):Int)=0:=rfl;rw[AD]at hL;rw[e54]
  cases hm:QN (n+1) l with
  |false=>
   rw[hm,if_neg (by simp)]at hL
   obtain⟨X,hL⟩:=hL;simp only[Yz,b54,Tryz.f54,JK,loops,JC,go_sem,N47,n0]at hL
   simp only[go_sem,b54,Tryz.f54,hlo,hL,JD,n0]<;>rfl
  |true=>rw[hm,if_pos rfl]at hL;simp only[Yz,b54,Tryz.f54,JK,loops,JC,go_sem,N47,n0,AA,Au]at hL;simp only[go_sem,b54,Tryz.f54,hlo,hL,JD,n0]<;>rfl
theorem f23{l:List CV}(hlo:lo<=h.length)(hl:JN l<=1000000000000000000):E lo 23 [.list .no (JJ l)] h=some (.v (.bool (QN 64 l)),h):=by
 have k:=λlo hlo=>f54 64 om lo l h hlo hl
 rw[show(64:Int)-((64:Nat):Int)=0 from rfl]at k
 have ka:=k lo hlo;have kb:=k h.length (Ad _);rw[e23];simp only[go_sem,b23,Tryz.f23,hlo,ka,kb]<;>rfl
end Go.Lift.Y1
end

section
open Go.Proofs
namespace Go.Lift.Y1
open Rul
open Utf (By)
variable{lo:Nat}{h:JG}
mutual
def YQ:CV->Prop
 | .mk t kids=>okT t/\QG kids
def QG:List CV->Prop
 |[]=>True
 |v::r=>YQ v/\QG r
end
theorem Kb:∀{l:List CV},QG l->∀v∈l,YQ v
 |[],_,_,h=>nomatch h
 |x::r,hs,v,h=>by
  rw[QG]at hs;rcases AP.1 h with rfl|h
  ·exact hs.1
  ·exact Kb hs.2 v h
theorem kS:∀{l:List CV},(∀v∈l,YQ v)->QG l
 |[],_=>by rw[QG];trivial
 |x::r,hs=>by rw[QG];exact⟨hs x (List.mem_cons_self ..),kS λv hv=>hs v (List.mem_cons_of_mem _ hv)⟩
theorem KO{l:List CV}{v:CV}(h:v∈l):Kj v<=JN l:=by
 induction l with
 |nil=>cases h
 |cons x r ih=>
  rw[J6];rcases AP.1 h with rfl|h
  ·omega
  ·have:=ih h;omega
theorem JD4(a b:List CV):JN (a++b)=JN a+JN b:=by
 induction a with
 |nil=>rw[Au,Qd];omega
 |cons x r ih=>rw[AA,J6,J6,ih];omega
theorem Hi:∀(acc l p:List CV),p∈Q0 acc l->JN p<=JN acc+JN l
 |acc,[],p,hp=>by
  rw[Q0,A1]at hp;subst hp;have:=Kf acc
  omega
 |acc,u::r,p,hp=>by
  rw[J6];rw[Q0]at hp
  split at hp
  ·rcases AP.1 hp with rfl|hp
   ·have:=Kf acc;omega
   ·have:=Hi [] r p hp
    rw[Qd]at this;omega
  ·have:=Hi (acc++[u]) r p hp
   rw[JD4,J6,Qd]at this;omega
theorem G9{l p:List CV}(hl:QG l)(hp:p∈J4 l):QG p:=kS λv hv=>by
 rcases qw [] l p hp v hv with h|h
 ·cases h
 ·exact Kb hl v h
theorem K2{l p:List CV}(hp:p∈J4 l):JN p<=JN l:=by have:=Hi [] l p hp;rw[Qd]at this;omega
theorem JAK{a b c:List Int}(h:(a==b)=true)(hn:b≠c):(a==c)=false:=by rw[beq_iff_eq]at h;subst h;exact beq_eq_false_iff_ne.2 hn
theorem JPH{w:List CV->X×Bool}{v:CV}(hv:YQ v)(hl:Kj v<=10000000)(h1:W97 w v.ks)(h2:∀p∈J4 v.ks,W97 w p):W72 w v:=by
 obtain⟨t,kids⟩:=v;rw[YQ]at hv
 have hk:JN kids<=10000000:=by
  rw[Qj,show(CV.mk t kids).ks=kids from rfl]at hl
  omega
 intro lo h hlo
 cases q0:t.k==10 with
 |true=>exact Jrx hlo hv.1 q0
 |false=>
  cases q1:t.k==12 with
  |true=>exact Jry hlo hv.1 q0 q1
  |false=>
   cases q2:t.k==2 with
   |false=>exact Jrz hlo q0 q1 q2
   |true=>
    cases n1:Jg t.b==Y2 with
    |true=>exact Jr0 hlo hv.1 q0 q1 q2 n1 h1
    |false=>
     cases n2:Jg t.b==jW with
     |true=>
      have n3:=JAK n2 (show jW≠jX by decide)
      have n4:=JAK n2 (show jW≠Q2 by decide)
      rw[Zp q0 q1 q2,if_neg (by rw[n1];simp),if_pos n2]
      exact Jd3 (K:=6) (.inl rfl) hlo hv.1 hk q0 q1 q2 n1 (by rw[n2]<;>rfl) (by rw[n3]<;>rfl) (by rw[n4]<;>rfl) h2
     |false=>
      cases n3:Jg t.b==jX with
      |true=>
       have n4:=JAK n3 (show jX≠Q2 by decide)
       rw[Zp q0 q1 q2,if_neg (by rw[n1];simp),if_neg (by rw[n2];simp),if_pos n3]
       exact Jd3 (K:=7) (.inr (.inl rfl)) hlo hv.1 hk q0 q1 q2 n1 (by rw[n2]<;>rfl) (by rw[n3]<;>rfl) (by rw[n4]<;>rfl) h2
      |false=>
       cases n4:Jg t.b==Q2 with
       |true=>
        rw[Zp q0 q1 q2,if_neg (by rw[n1];simp),if_neg (by rw[n2];simp),if_neg (by rw[n3];simp),if_pos n4]
        exact Jd3 (K:=8) (.inr (.inr rfl)) hlo hv.1 hk q0 q1 q2 n1 (by rw[n2]<;>rfl) (by rw[n3]<;>rfl) (by rw[n4]<;>rfl) h2
       |false=>exact Jr1 hlo hv.1 q0 q1 q2 n1 n2 n3 n4
theorem Wt(v:CV):JN v.ks+1<=Kj v:=by rw[Qj];omega
theorem Gf{v:CV}(h:YQ v):QG v.ks:=by obtain⟨t,kids⟩:=v;rw[YQ]at h;exact h.2
theorem qy{v:CV}(h:YQ v):okT v.t:=by obtain⟨t,kids⟩:=v;rw[YQ]at h;exact h.1
theorem y9:∀(n:Nat) (l:List CV),JN l<n->JN l<=10000000->QG l->W97 (Ki n) l
 |0,l,hn,_,_=>by omega
 |n+1,l,hn,hl,ho=>by
  intro lo h hlo;have hm:∀v∈Jh l,YQ v/\Kj v<=JN l:=λv hv=>⟨Kb ho v (KH hv),KO (KH hv)⟩
  refine f118 hlo om (λv hv=>(qy (hm v hv).1).1) λv hv=>?_
  obtain⟨o,hnv⟩:=hm v hv;have hk:=Wt v;have a1:=y9 n v.ks om om (Gf o);exact⟨a1,JPH o om a1 λp hp=>y9 n p (by have:=K2 hp;omega) (by have:=K2 hp;omega) (G9 (Gf o) hp)⟩
theorem JXv{n:Nat}{v:CV}(hn:Kj v<=n)(hl:Kj v<=10000000)(ho:YQ v):W72 (Ki n) v:=by have hk:=Wt v;exact JPH ho hl (y9 n v.ks om om (Gf ho)) λp hp=>y9 n p (by have:=K2 hp;omega) (by have:=K2 hp;omega) (G9 (Gf ho) hp)
theorem f63{l:List CV}{n:Nat}(hlo:lo<=h.length)(hn:JN l<=n)(hl:JN l<=10000000)(ho:QG l):
  E lo 63 [.list .no (JJ l)] h=some (.tup [.agg (xC (Jo n l).1),.v (.int .i64 (Jo n l).2)],h):=by
 have l1:lo<=h.length+1:=om;have l2:lo<=h.length+1+1:=om;have c23:=λlo h hlo=>f23 (lo:=lo) (h:=h) (l:=l) hlo om
 have c25:=λlo h hlo=>f25 (lo:=lo) (h:=h) (l:=l) hlo om
 have hm:∀v∈Jh l,YQ v/\Kj v<=JN l:=λv hv=>⟨Kb ho v (KH hv),KO (KH hv)⟩
 have hll:=JV (Jh l);have htl:=Kf l;unfold Jo;rw[e63]
 cases q:QN 64 l with
 |false=>
  rw[q]at c23;rw[if_neg (by simp)]
  simp only[Jt,JR,Jc]
  simp only[go_sem,b63,Tryz.f63,hlo,l1,l2,c23]<;>rfl
 |true=>
  rw[q]at c23;rw[if_pos rfl];generalize Jh l=L at c25 hm hll htl⊢
  match L,c25,hm,hll,htl with
  |[],c25,_,_,_=>
   have q1:(((0:Nat):Int) !=1)=true:=rfl;have q1':((0:Int) !=1)=true:=rfl;rw[JX]at c25;simp only[Jt,JR,Jc]
   simp only[go_sem,b63,Tryz.f63,hlo,l1,l2,c23,c25,q1,q1',Ai]<;>rfl
  |[v],c25,hm,_,_=>
   have hv:=hm v (A1.2 rfl);have c72:=JXv (n:=n) (v:=v) om om hv.1;unfold W72 at c72;unfold JLp;have q1:(((0+1:Nat):Int) !=1)=false:=rfl;have q1':((1:Int) !=1)=false:=rfl;rw[JZ,JX]at c25;simp only;generalize KJ (Ki n) v=r at c72⊢;obtain⟨⟨ek,en,ed,eu,el⟩,b⟩:=r;obtain⟨t,kids⟩:=v
   cases b with
   |true=>
    simp only[JR,JP]at c25 c72⊢
    simp only[go_sem,b63,Tryz.f63,hlo,l1,l2,c23,c25,c72,q1,q1',Ai,Ae]<;>rfl
   |false=>
    simp only[Jt,JR,JP,Jc]at c25 c72⊢
    simp only[go_sem,b63,Tryz.f63,hlo,l1,l2,c23,c25,c72,q1,q1',Ai,Ae]<;>rfl
  |v::u::r,c25,_,hll,htl=>
   have q1:(((r.length+1+1:Nat):Int) !=1)=true:=by rw[bne_iff_ne];omega
   rw[JZ,JZ]at c25;simp only[Jt,JR,Jc];simp only[go_sem,b63,Tryz.f63,hlo,l1,l2,c23,c25,q1,Ae,JD]<;>rfl
end Go.Lift.Y1
end
