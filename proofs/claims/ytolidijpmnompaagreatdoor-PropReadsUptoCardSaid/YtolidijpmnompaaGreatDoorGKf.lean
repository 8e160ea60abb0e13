/- jalousieref11.product: its loop, and what it tells. -/
import Derived.Test.YtolidijpmnompaaGreatDoorGKb
import Derived.Test.YtolidijpmnompaaGreatDoorGKc
import Derived.Test.YtolidijpmnompaaGreatDoorGKd
import Derived.Test.YtolidijpmnompaaGreatDoorGKe
open Bool renaming and_eq_true->Af,and_false->Bl,eq_iff_iff->BO,false_and->As,false_eq_true->Al,not_false->A5,not_true->AN,true_and->Aw
open Go.IntKind renaming i64->Am
open Go.Proofs.Tryz renaming prog->Aa
open Int renaming add_zero->D6,toNat->Bw,zero_add->D7
open List renaming append_assoc->Ax,drop_append_of_le_length->BK,drop_eq_getElem_cons->Av,drop_eq_nil_of_le->AZ,drop_length->A0,drop_nil->CB,drop_zero->AD,forall_mem_cons->CW,getElem?_eq_getElem->Ac,getElem?_eq_some_iff->Ab,getElem?_map->An,getElem_mem->AW,length_cons->Ae,length_nil->Ai,length_take->Az,mem_of_mem_drop->BL,mem_of_mem_take->Cz,mem_singleton->A1,nil_append->Au,take_length->BP,take_succ_eq_append_getElem->Bu,take_zero->Cd
open Nat renaming le_refl->Ad
open Option renaming map_none->DH,map_some->AK
set_option linter.unusedVariables false
set_option linter.unusedSimpArgs false
set_option linter.unusedSectionVars false
set_option maxRecDepth 20000
set_option maxHeartbeats 4000000
section
open Go.Proofs
namespace Go.Lift.Y1
open Rul
open Utf (By)
variable{lo:Nat}{h:JG}
section
variable{l:List CV}{w:List CV->Option X}
def Wv(w:List CV->Option X)(l:List CV):Prop:=∀v∈l,By v.t.b/\W69 w v/\((v.k==21)=true->W99 w v.ks)
theorem JUy{l:List CV}{i f:Nat}{v:CV}(h:v∈Jh ((l.take i).drop f)):v∈l:=Cz (BL (KH h))
theorem JL9{ks:List X}{f i:Nat}{o ov:Bool}(hlo:lo<=h.length)(hl:JN l<=1000000000)(hw:Wv w l)(hf:f<=i)(hi:i<=l.length)(hks:ks.length<=1000000000)(ht:Top l i ov):
  match Kk (opR w) ((l.take i).drop f) o ks with
  |none=>∃tl,(tl=[]\/ ∃e,tl=[.cells (xC e)])/\evCode (Y6 lo h) JA K1 (Wu h l ks f o i,KV h)=jb h tl
  |some ks'=>evCode (Y6 lo h) JA K1 (Wu h l ks f o i,KV h)=some (.normal,Wu h l ks' (i+1:Nat) ov (i+1:Nat),KV h):=by
 unfold Kk;have hm:∀v∈Jh ((l.take i).drop f),v∈l:=λv hv=>JUy hv
 generalize hP:Jh ((l.take i).drop f)=P at hm
 match P,hP,hm with
 |[],hP,_=>exact⟨[],.inl rfl,JZT hlo hl hf hi ht hP (by simp)⟩
 |v::u::r,hP,_=>exact⟨[],.inl rfl,JZT hlo hl hf hi ht hP (by simp)⟩
 |[.mk t kids],hP,hm=>
  obtain⟨hy,c69,c99⟩:=hw _ (hm _ (A1.2 rfl));have c99':(t.k==21)=true->W99 w kids:=c99;have c69':∀lo h,lo<=h.length->E lo 69 [.agg (Js (.mk t kids))] h=some (.tup [.agg (xC (KJ (λp=>yD (w p)) (.mk t kids)).1),.v (.bool (KJ (λp=>yD (w p)) (.mk t kids)).2)],h):=c69
  simp only;have ho:opR w (.mk t kids)=Hy (if(t.k==21)=true then yD (w kids)else KJ (λp=>yD (w p)) (.mk t kids)):=rfl
  rw[ho];clear ho c69 c99;generalize KJ (λp=>yD (w p)) (.mk t kids)=R at c69'⊢
  obtain⟨x,b⟩:=R
  cases hk:t.k==21 with
  |false=>
   rw[if_neg (by simp)]
   cases b with
   |false=>
    show∃tl,_
    obtain⟨e,he⟩:=JZU (ks:=ks) (o:=o) (y:=Jt) hlo hl hf hi ht hP c69' (λ_=>rfl) (λh=>by rw[hk]at h;cases h)
    exact⟨_,.inr ⟨e,rfl⟩,he⟩
   |true=>exact JZV (ks:=ks) (o:=o) (y:=Jt) (z:=x) hlo hl hf hi hks ht hP c69' (λ_=>⟨rfl,rfl⟩) (λh=>by rw[hk]at h;cases h)
  |true=>
   rw[if_pos rfl,JJ9];have c:=c99' hk;unfold W99 at c;generalize w kids=wk at c⊢
   cases wk with
   |none=>
    show∃tl,_
    obtain⟨e,he⟩:=JZU (ks:=ks) (o:=o) (y:=Jt) hlo hl hf hi ht hP c69' (λh=>by rw[hk]at h;cases h) (λ_=>c)
    exact⟨_,.inr ⟨e,rfl⟩,he⟩
   |some z=>exact JZV (ks:=ks) (o:=o) (y:=Jt) (z:=z) hlo hl hf hi hks ht hP c69' (λh=>by rw[hk]at h;cases h) (λ_=>c)
theorem JX6{ks:List X}{f:Int}(hlo:lo<=h.length)(hl:l.length<=1000000000):
  JA (evCode (Y6 lo h) JA K1) (Wu h l ks f false (l.length+1:Nat),KV h)=some (.exit 0,Wu h l ks f false (l.length+1:Nat)++[(14,.v (.bool false))],KV h):=by
 have q0:decide (((l.length+1:Nat):Int)<=(l.length:Int))=false:=by rw[decide_eq_false_iff_not];omega
 rw[JB];simp only[Y6,Wu,KV,xZ,go_sem,K1,GN,Tryz.f123,hlo,q0,JD]<;>rfl
theorem JRm{op:CV->Option X}{c:List CV}{o:Bool}{ks ks':List X}(h:Kk op c o ks=some ks'):ks'.length=ks.length+1:=by
 unfold Kk at h
 split at h
 ·obtain⟨x,_,rfl⟩:=Option.map_eq_some_iff.1 h
  simp
 ·cases h
theorem JKG(hlo:lo<=h.length)(hl:JN l<=100000000)(hw:Wv w l):∀(m i f:Nat) (o:Bool) (ks:List X),i+m=l.length->f<=i->ks.length<=i->
  match zH (opR w) ((l.take i).drop f) o ks (l.drop i)with
  |none=>∃tl,(tl=[]\/ ∃e,tl=[.cells (xC e)])/\JA (evCode (Y6 lo h) JA K1) (Wu h l ks f o i,KV h)=jb h tl
  |some ks'=>JA (evCode (Y6 lo h) JA K1) (Wu h l ks f o i,KV h)=some (.exit 0,Wu h l ks' (l.length+1:Nat) false (l.length+1:Nat)++[(14,.v (.bool false))],KV h)
 |0,i,f,o,ks,hm,hf,hk=>by
  have hll:=JV l;obtain rfl:i=l.length:=om;rw[A0,zH];have hc:=JL9 (ks:=ks) (f:=f) (i:=l.length) (o:=o) (ov:=false) hlo om hw hf (Ad _) om (.inl ⟨rfl,rfl⟩)
  cases hq:Kk (opR w) ((l.take l.length).drop f) o ks with
  |none=>
   rw[hq]at hc;obtain⟨tl,h1,h2⟩:=hc
   exact⟨tl,h1,by rw[JB,h2,Kh]⟩
  |some ks'=>
   rw[hq]at hc;simp only at hc⊢
   rw[JB,hc,JO,JX6 hlo om]
 |m+1,i,f,o,ks,hm,hf,hk=>by
  have hll:=JV l;have hlt:i<l.length:=om;have hg:=Ac hlt
  have hv:=hw _ (AW hlt);rw[Av hlt,zH];by_cases hmd:mdC l[i]=true
  ·rw[if_pos hmd]
   have ht:Top l i (l[i].t.b==[47]):=by
    refine .inr ⟨l[i].t,l[i].ks,?_,?_,hv.1,rfl⟩
    ·rw[hg]
     cases l[i];rfl
    ·generalize l[i]=v at hmd
     cases v;exact hmd
   have hc:=JL9 (ks:=ks) (f:=f) (o:=o) hlo om hw hf om om ht
   cases hq:Kk (opR w) ((l.take i).drop f) o ks with
   |none=>
    rw[hq]at hc;obtain⟨tl,h1,h2⟩:=hc
    exact⟨tl,h1,by rw[JB,h2,Kh]⟩
   |some ks'=>
    rw[hq]at hc;simp only at hc⊢;have hkl:=JRm hq;have ih:=JKG hlo hl hw m (i+1) (i+1) (l[i].t.b==[47]) ks' om (Ad _) om;have e0:(l.take (i+1)).drop (i+1)=[]:=AZ (by rw[Az];omega)
    rw[e0]at ih;rw[JB,hc,JO];exact ih
  ·rw[if_neg hmd]
   have hd:(l.take (i+1)).drop f=(l.take i).drop f++[l[i]]:=by rw[Bu hlt,BK (by rw[Az];omega)]
   have ih:=JKG hlo hl hw m (i+1) f o ks om om om;rw[hd]at ih;have hr:=Jkg (lo:=lo) (h:=h) (ks:=ks) (f:=f) (o:=o) hlo om hg hv.1 (by simpa using hmd)
   rw[JB,hr,JO];exact ih
theorem f123(hlo:lo<=h.length)(hl:JN l<=100000000)(hw:Wv w l):
  E lo 123 [.list .no (JJ l)] h=some (.tup [.agg (xC (yD (HC (opR w) l)).1),.v (.bool (yD (HC (opR w) l)).2)],h):=by
 have hll:=JV l;have l1:lo<=h.length+1:=om;have hL:=JKG (lo:=lo) (h:=h) hlo hl hw l.length 0 0 false [] om (Ad _) (Ad _);rw[Cd,CB,AD]at hL;unfold HC;rw[JrJ]
 cases hq:zH (opR w) [] false [] l with
 |none=>
  rw[hq]at hL;obtain⟨tl,h1,hL⟩:=hL;simp only[DH,yD,Jt,JR,Jc];rcases h1 with rfl|⟨e,rfl⟩
  ·simp only[K1,GN,Tryz.f123,JK,loops,JC,Y6,Wu,KV,jb,xZ,Jc,show((0:Nat):Int)=0 from rfl,go_sem]at hL
   simp only[go_sem,GN,Tryz.f123,hlo,l1,hL]<;>rfl
  ·obtain⟨ek,en,ed,eu,el⟩:=e
   simp only[K1,GN,Tryz.f123,JK,loops,JC,Y6,Wu,KV,jb,xZ,JR,Jc,show((0:Nat):Int)=0 from rfl,go_sem]at hL
   simp only[go_sem,GN,Tryz.f123,hlo,l1,hL]<;>rfl
 |some ks'=>
  rw[hq]at hL;simp only[K1,GN,Tryz.f123,JK,loops,JC,Y6,Wu,KV,xZ,Jc,show((0:Nat):Int)=0 from rfl,go_sem]at hL
  simp only[AK,yD]
  match ks',hL with
  |[],hL=>
   have q:(((0:Nat):Int)==1)=false:=rfl;have q':((0:Int)==1)=false:=rfl;rw[show KC (.mk 4 0 0 0 [])= .mk 4 0 0 0 []from rfl,JR]
   simp only[Jc]at hL⊢
   simp only[go_sem,GN,Tryz.f123,hlo,l1,hL,q,q',Ai]<;>rfl
  |[x],hL=>
   obtain⟨k',n',d',u',kids'⟩:=x;have q:(((0+1:Nat):Int)==1)=true:=rfl;have q':((1:Int)==1)=true:=rfl;rw[show KC (.mk 4 0 0 0 [.mk k' n' d' u' kids'])= .mk k' n' d' u' kids' from rfl]
   simp only[J8,Jc,JR]at hL⊢
   simp only[go_sem,GN,Tryz.f123,hlo,l1,hL,q,q',Ae,Ai]<;>rfl
  |x::y::r,hL=>
   have q:(((r.length+1+1:Nat):Int)==1)=false:=by rw[beq_eq_false_iff_ne];omega
   rw[show KC (.mk 4 0 0 0 (x::y::r))= .mk 4 0 0 0 (x::y::r)from rfl,JR]
   simp only[J8]at hL⊢;simp only[go_sem,GN,Tryz.f123,hlo,l1,hL,q,Ae,Ji]<;>rfl
end
noncomputable abbrev X99(lo:Nat)(h:JG):Go.Lift.Cx:=⟨Aa,E,lo,h.length,h99⟩
abbrev Wb(h:JG)(l:List CV)(ks:List X)(f:Int)(m:Bool)(i:Int):Jl:=[(0,.list .no (JJ l)),(2,.ptr h.length 0),(4,.list .yes (GL ks)),(5,.v (.int .i64 f)),(6,.v (.bool m)),(7,.v (.int .i64 i))]
theorem JeK:By [43]:=JKC om om
theorem JPW:By [45]:=JKC om om
theorem JsP{b:List Int}(hy:By b):((Rul.bs b).toList==(⟨#[45]⟩:ByteArray).toList)=(b==[45]):=QR hy JPW
section
variable{l:List CV}{ks:List X}{f i:Nat}{m:Bool}
theorem JZW{t:Tk4}{kids:List CV}(hy:By t.b):∀lo h,lo<=h.length->E lo 121 [.agg (Js (.mk t kids)),.v (.string ⟨#[43]⟩),.v (.string ⟨#[45]⟩)] h=some (.v (.bool (pmC (.mk t kids))),h):=λlo h hlo=>by
 have c121:=f121 (lo:=lo) (h:=h) (t:=t) (kids:=kids) (x:=43) (y:=45) hlo hy JeK JPW;rw[show Rul.bs [43]=⟨#[43]⟩from rfl,show Rul.bs [45]=⟨#[45]⟩from rfl]at c121
 exact c121
theorem Jki(hlo:lo<=h.length)(hl:l.length<=1000000000)(h0:0<l.length):
  evCode (X99 lo h) JA Qo (Wb h l ks f m (0:Int),KV h)=some (.normal,Wb h l ks f m (1:Int),KV h):=by
 have q0:decide ((0:Int)<=(l.length:Int))=true:=by rw[decide_eq_true_iff];omega
 have q:decide ((0:Int)<(l.length:Int))=true:=by rw[decide_eq_true_iff];omega
 have q2:decide ((0:Int)<(0:Int))=false:=rfl;have hw:Am.wrap ((0:Int)+1)=1:=rfl;simp only[X99,Wb,KV,xZ,go_sem,Qo,b99,Tryz.f99,hlo,q0,q,q2,hw,JD]<;>rfl
theorem Jkj(hlo:lo<=h.length)(hl:l.length<=1000000000)(h0:0<i)(h1:i+1=l.length):
  evCode (X99 lo h) JA Qo (Wb h l ks f m i,KV h)=some (.normal,Wb h l ks f m (i+1:Nat),KV h):=by
 have q0:decide ((i:Int)<=(l.length:Int))=true:=by rw[decide_eq_true_iff];omega
 have q:decide ((i:Int)<(l.length:Int))=true:=by rw[decide_eq_true_iff];omega
 have q2:decide ((0:Int)<(i:Int))=true:=by rw[decide_eq_true_iff];omega
 have q3:decide (((i+1:Nat):Int)<(l.length:Int))=false:=by rw[decide_eq_false_iff_not];omega
 have hw:=JM (i:=i) om;simp only[X99,Wb,KV,xZ,go_sem,Qo,b99,Tryz.f99,hlo,q0,q,q2,q3,hw,JD]<;>rfl
theorem Jkk{p:Nat}{u v n:CV}(hlo:lo<=h.length)(hl:l.length<=1000000000)(hi:i=p+1)(hgu:l[p]? =some u)(hg:l[i]? =some v)(hgn:l[i+1]? =some n)(hy:By v.t.b)(hc:(pmC v&&(JU u&&JU n))=false):
  evCode (X99 lo h) JA Qo (Wb h l ks f m i,KV h)=some (.normal,Wb h l ks f m (i+1:Nat),KV h):=by
 obtain⟨t,kids⟩:=v;obtain⟨tu,ku⟩:=u;obtain⟨tn,kn⟩:=n;have h1:i+1<l.length:=(Ab.1 hgn).1
 have l1:lo<=h.length+1:=om;have q0:decide ((i:Int)<=(l.length:Int))=true:=by rw[decide_eq_true_iff];omega
 have q:decide ((i:Int)<(l.length:Int))=true:=by rw[decide_eq_true_iff];omega
 have q2:decide ((0:Int)<(i:Int))=true:=by rw[decide_eq_true_iff];omega
 have q3:decide (((i+1:Nat):Int)<(l.length:Int))=true:=by rw[decide_eq_true_iff];omega
 have hw:=JM (i:=i) om;have hw1:Am.wrap ((i:Int)-1)=(p:Int):=by rw[JW om om];omega
 have g0:(JJ l)[i]? =some (Js (.mk t kids)):=by rw[Jq,hg]<;>rfl
 have g1:(JJ l)[p]? =some (Js (.mk tu ku)):=by rw[Jq,hgu]<;>rfl
 have g2:(JJ l)[i+1]? =some (Js (.mk tn kn)):=by rw[Jq,hgn]<;>rfl
 have c1:=JZW (t:=t) (kids:=kids) hy;have c2:=λlo h hlo=>f122 (lo:=lo) (h:=h) (t:=tu) (kids:=ku) hlo
 have c3:=λlo h hlo=>f122 (lo:=lo) (h:=h) (t:=tn) (kids:=kn) hlo
 rw[JP]at g0 g1 g2 c1 c2 c3;generalize pmC (.mk t kids)=b1 at c1 hc;generalize JU (.mk tu ku)=b2 at c2 hc;generalize JU (.mk tn kn)=b3 at c3 hc
 cases b1 with
 |false=>simp only[X99,Wb,KV,xZ,go_sem,Qo,b99,Tryz.f99,hlo,l1,q0,q,q2,q3,hw,g0,c1,JD]<;>rfl
 |true=>
  cases b2 with
  |false=>simp only[X99,Wb,KV,xZ,go_sem,Qo,b99,Tryz.f99,hlo,l1,q0,q,q2,q3,hw,hw1,g0,g1,c1,c2,JD]<;>rfl
  |true=>
   cases b3 with
   |true=>cases hc
   |false=>simp only[X99,Wb,KV,xZ,go_sem,Qo,b99,Tryz.f99,hlo,l1,q0,q,q2,q3,hw,hw1,g0,g1,g2,c1,c2,c3,JD]<;>rfl
def Jkl(l:List CV)(i:Nat)(m m':Bool):Prop:=(i=l.length/\m'=m)\/ ∃p u v n,i=p+1/\l[p]? =some u/\l[i]? =some v/\l[i+1]? =some n/\By v.t.b/\pmC v=true/\JU u=true/\JU n=true/\(v.t.b==[45])=m'
theorem Jkm{m' b:Bool}{x:X}(hlo:lo<=h.length)(hl:JN l<=1000000000)(hf:f<=i)(hi:i<=l.length)(hks:ks.length<=1000000000)(htp:Jkl l i m m')
  (c123:∀lo h,lo<=h.length->E lo 123 [.list .no (JJ ((l.take i).drop f))] h=some (.tup [.agg (xC x),.v (.bool b)],h)):
  evCode (X99 lo h) JA Qo (Wb h l ks f m i,KV h)=if b=true then some (.normal,Wb h l (ks++[kU 3 m x]) (i+1:Nat) m' (i+1:Nat),KV h)else jb h [.cells (xC x)]:=by
 have hll:l.length<=1000000000:=by have:=JV l;omega
 have l1:lo<=h.length+1:=om;have l2:lo<=h.length+1+1:=om;have q0:decide ((i:Int)<=(l.length:Int))=true:=by rw[decide_eq_true_iff];omega
 have ed:((JJ l).take i).drop f=JJ ((l.take i).drop f):=by rw[K9,QV]
 have ra:=Jn ((l.take i).drop f);have rl:=Jn l;have hw:=JM (i:=i) om;have o1:=JHk hks;have o2:=JHl hks;have ka:=kP ks;have kl:=Ji ks;have kb:=kQ ks;obtain⟨xk,xn,xd,xu,xl⟩:=x;simp only[JR]at c123;rcases htp with⟨he,rfl⟩|⟨p,u,v,n,hip,hgu,hg,hgn,hy,hpm,hu,hn,hm'⟩
 ·have q:decide ((i:Int)<(l.length:Int))=false:=by rw[decide_eq_false_iff_not];omega
  cases b with
  |false=>
   rw[if_neg (by simp)]
   simp only[JR,X99,Wb,KV,jb,xZ,go_sem,Qo,b99,Tryz.f99,hlo,l1,l2,q0,q,hi,hf,c123,ed,ra,rl,JD]<;>rfl
  |true=>
   rw[if_pos rfl];unfold kU;cases m'<;>
   simp only[Wb,<-WR,J8,Jc,JR,if_true,if_false,Al]<;>
   generalize GL ks=K at ka kl kb⊢ <;>
   simp only[X99,KV,xZ,go_sem,Qo,b99,Tryz.f99,hlo,l1,l2,q0,q,hi,hf,c123,ed,ra,rl,hw,o1,o2,ka,kl,kb,JD]<;>rfl
 ·obtain⟨t,kids⟩:=v
  obtain⟨tu,ku⟩:=u;obtain⟨tn,kn⟩:=n;have h1:i+1<l.length:=(Ab.1 hgn).1
  have q:decide ((i:Int)<(l.length:Int))=true:=by rw[decide_eq_true_iff];omega
  have q2:decide ((0:Int)<(i:Int))=true:=by rw[decide_eq_true_iff];omega
  have q3:decide (((i+1:Nat):Int)<(l.length:Int))=true:=by rw[decide_eq_true_iff];omega
  have hw1:Am.wrap ((i:Int)-1)=(p:Int):=by rw[JW om om];omega
  have g0:(JJ l)[i]? =some (Js (.mk t kids)):=by rw[Jq,hg]<;>rfl
  have g1:(JJ l)[p]? =some (Js (.mk tu ku)):=by rw[Jq,hgu]<;>rfl
  have g2:(JJ l)[i+1]? =some (Js (.mk tn kn)):=by rw[Jq,hgn]<;>rfl
  have c1:=JZW (t:=t) (kids:=kids) hy;have c2:=λlo h hlo=>f122 (lo:=lo) (h:=h) (t:=tu) (kids:=ku) hlo
  have c3:=λlo h hlo=>f122 (lo:=lo) (h:=h) (t:=tn) (kids:=kn) hlo
  rw[hpm]at c1;rw[hu]at c2;rw[hn]at c3;have e4:=JsP hy;rw[hm']at e4;have e4':((Rul.bs t.b).toList==(⟨#[45]⟩:ByteArray).toList)=m':=e4;rw[JP]at g0 g1 g2 c1 c2 c3
  cases b with
  |false=>
   rw[if_neg (by simp)]
   simp only[JR,X99,Wb,KV,jb,xZ,go_sem,Qo,b99,Tryz.f99,hlo,l1,l2,q0,q,q2,q3,hw,hw1,g0,g1,g2,c1,c2,c3,hi,hf,c123,ed,ra,rl,JD]<;>rfl
  |true=>
   rw[if_pos rfl];unfold kU;cases m<;>
   simp only[Wb,<-WR,J8,Jc,JR,if_true,if_false,Al]<;>
   generalize GL ks=K at ka kl kb⊢ <;>
   simp only[X99,KV,xZ,go_sem,Qo,b99,Tryz.f99,hlo,l1,l2,q0,q,q2,q3,hw,hw1,g0,g1,g2,c1,c2,c3,e4',hi,hf,c123,ed,ra,rl,o1,o2,ka,kl,kb,JD]<;>rfl
end
section
variable{l:List CV}{w:List CV->Option X}
def JD5(l:List CV):Nat->Bool
 |0=>false
 |p+1=>match l[p]? with
  |some v=>JU v
  |none=>false
theorem JAQ(l:List CV)(p:Nat):JD5 l (p+1)=match l[p]? with
  |some v=>JU v
  |none=>false:=rfl
abbrev Jkn(w:List CV->Option X)(l:List CV):Prop:=∀lo h,lo<=h.length->E lo 123 [.list .no (JJ l)] h=some (.tup [.agg (xC (yD (HC (opR w) l)).1),.v (.bool (yD (HC (opR w) l)).2)],h)
theorem JX7{ks:List X}{f:Int}{m:Bool}(hlo:lo<=h.length)(hl:l.length<=1000000000):
  JA (evCode (X99 lo h) JA Qo) (Wb h l ks f m (l.length+1:Nat),KV h)=some (.exit 0,Wb h l ks f m (l.length+1:Nat)++[(16,.v (.bool false))],KV h):=by
 have q0:decide (((l.length+1:Nat):Int)<=(l.length:Int))=false:=by rw[decide_eq_false_iff_not];omega
 rw[JB];simp only[X99,Wb,KV,xZ,go_sem,Qo,b99,Tryz.f99,hlo,q0,JD]<;>rfl
theorem JsQ{ks:List X}{f i:Nat}{m:Bool}(hlo:lo<=h.length)(hl:l.length<=1000000000)(hy:∀v∈l,By v.t.b)(hlt:i<l.length)(hc:(pmC l[i]&&(JD5 l i&&QK (l.drop (i+1))))=false):
  evCode (X99 lo h) JA Qo (Wb h l ks f m i,KV h)=some (.normal,Wb h l ks f m (i+1:Nat),KV h):=by
 cases i with
 |zero=>exact Jki hlo hl hlt
 |succ p=>
  by_cases h1:p+1+1=l.length
  ·exact Jkj hlo hl om h1
  ·have hp:p<l.length:=om
   have h2:p+1+1<l.length:=om;refine Jkk (p:=p) (u:=l[p]) (v:=l[p+1]) (n:=l[p+1+1]) hlo hl rfl (Ac hp) (Ac hlt) (Ac h2) (hy _ (AW hlt)) ?_
   have e1:JD5 l (p+1)=JU l[p]:=by rw[JAQ,Ac hp]
   have e2:QK (l.drop (p+1+1))=JU l[p+1+1]:=by rw[Av h2]<;>rfl
   rw[e1,e2]at hc;exact hc
theorem JX8{i:Nat}{m:Bool}(hy:∀v∈l,By v.t.b)(hlt:i<l.length)(hc:(pmC l[i]&&(JD5 l i&&QK (l.drop (i+1))))=true):Jkl l i m (l[i].t.b==[45]):=by
 simp only[Af]at hc;obtain⟨h1,h2,h3⟩:=hc
 cases i with
 |zero=>cases h2
 |succ p=>
  have hp:p<l.length:=om
  have hn:p+1+1<l.length:=by
   rcases Nat.lt_or_ge (p+1+1) l.length with h|h
   ·exact h
   ·rw[AZ h]at h3;cases h3
  have e1:JD5 l (p+1)=JU l[p]:=by rw[JAQ,Ac hp]
  have e2:QK (l.drop (p+1+1))=JU l[p+1+1]:=by rw[Av hn]<;>rfl
  rw[e1]at h2;rw[e2]at h3;exact .inr ⟨p,l[p],l[p+1],l[p+1+1],rfl,Ac hp,Ac hlt,Ac hn,hy _ (AW hlt),h1,h2,h3,rfl⟩
theorem JMA{v:CV}(h:pmC v=true):JU v=false:=by
 cases q:JU v with
 |false=>rfl
 |true=>rw[JDL q]at h;cases h
theorem JHw{i:Nat}(hlt:i<l.length):JD5 l (i+1)=JU l[i]:=by rw[JAQ,Ac hlt]
theorem JKH(hlo:lo<=h.length)(hl:JN l<=100000000)(hy:∀v∈l,By v.t.b)(hp:∀i f,Jkn w ((l.take i).drop f)):∀(n i f:Nat) (m:Bool) (ks:List X),i+n=l.length->f<=i->ks.length<=i->
  match WA (opR w) ((l.take i).drop f) (JD5 l i) m ks (l.drop i)with
  |none=>∃tl,(∃e,tl=[.cells (xC e)])/\JA (evCode (X99 lo h) JA Qo) (Wb h l ks f m i,KV h)=jb h tl
  |some ks'=>∃m',JA (evCode (X99 lo h) JA Qo) (Wb h l ks f m i,KV h)=some (.exit 0,Wb h l ks' (l.length+1:Nat) m' (l.length+1:Nat)++[(16,.v (.bool false))],KV h)
 |0,i,f,m,ks,hm,hf,hk=>by
  have hll:=JV l;obtain rfl:i=l.length:=om;rw[A0,WA];have hr:=Jkm (lo:=lo) (h:=h) (ks:=ks) (f:=f) (i:=l.length) (m:=m) (m':=m) hlo om hf (Ad _) om (.inl ⟨rfl,rfl⟩) (hp l.length f)
  cases hq:HC (opR w) ((l.take l.length).drop f)with
  |none=>
   rw[hq]at hr
   exact⟨_,⟨_,rfl⟩,by rw[JB,hr];exact Kh ..⟩
  |some x=>
   rw[hq]at hr;simp only[yD,↓reduceIte]at hr
   exact⟨m,by rw[JB,hr,JO,JX7 hlo om]⟩
 |n+1,i,f,m,ks,hm,hf,hk=>by
  have hll:=JV l;have hlt:i<l.length:=om;rw[Av hlt,WA];by_cases hc:(pmC l[i]&&(JD5 l i&&QK (l.drop (i+1))))=true
  ·rw[if_pos hc]
   have hr:=Jkm (lo:=lo) (h:=h) (ks:=ks) (f:=f) (i:=i) (m:=m) hlo om hf om om (JX8 hy hlt hc) (hp i f)
   cases hq:HC (opR w) ((l.take i).drop f)with
   |none=>
    rw[hq]at hr
    exact⟨_,⟨_,rfl⟩,by rw[JB,hr];exact Kh ..⟩
   |some x=>
    rw[hq]at hr;simp only[yD,↓reduceIte]at hr;simp only;have ih:=JKH hlo hl hy hp n (i+1) (i+1) (l[i].t.b==[45]) (ks++[kU 3 m x]) om (Ad _) (by simp;omega)
    have e0:(l.take (i+1)).drop (i+1)=[]:=AZ (by rw[Az];omega)
    have es:JD5 l (i+1)=false:=by rw[JHw hlt];exact JMA (by rw[Af]at hc;exact hc.1)
    rw[e0,es]at ih
    have e1:JA (evCode (X99 lo h) JA Qo) (Wb h l ks f m i,KV h)=JA (evCode (X99 lo h) JA Qo) (Wb h l (ks++[kU 3 m x]) (i+1:Nat) (l[i].t.b==[45]) (i+1:Nat),KV h):=by conv=>lhs;rw[JB,hr,JO]
    rw[e1];exact ih
  ·rw[if_neg hc]
   have hd:(l.take (i+1)).drop f=(l.take i).drop f++[l[i]]:=by rw[Bu hlt,BK (by rw[Az];omega)]
   have ih:=JKH hlo hl hy hp n (i+1) f m ks om om om;rw[hd,JHw hlt]at ih;have hr:=JsQ (lo:=lo) (h:=h) (ks:=ks) (f:=f) (m:=m) hlo om hy hlt (by simpa using hc)
   have e1:JA (evCode (X99 lo h) JA Qo) (Wb h l ks f m i,KV h)=JA (evCode (X99 lo h) JA Qo) (Wb h l ks f m (i+1:Nat),KV h):=by conv=>lhs;rw[JB,hr,JO]
   rw[e1];exact ih
theorem JsR{L:List CV}(hlo:lo<=h.length)(hl:JN L<=100000000)(hw:Wv w (Jh L)):
  E lo 99 [.list .no (JJ L)] h=some (.tup [.agg (xC (yD (JN9 (opR w) L)).1),.v (.bool (yD (JN9 (opR w) L)).2)],h):=by
 have htl:=Kf L;have hLl:=JV L;have l1:lo<=h.length+1:=om;have c36:=λlo h hlo=>f36 (lo:=lo) (h:=h) (l:=L) hlo om
 unfold JN9;generalize Jh L=l at hw htl c36⊢;have hll:=JV l;have hp:∀i f,Jkn w ((l.take i).drop f):=λi f lo h hlo=>f123 hlo (by have:=YP (l:=l) (i:=i) (f:=f);omega) (λv hv=>hw v (Cz (BL hv)))
 have hL:=JKH (lo:=lo) (h:=h) (w:=w) hlo om (λv hv=>(hw v hv).1) hp l.length 0 0 false [] om (Ad _) (Ad _)
 rw[Cd,CB,AD,show JD5 l 0=false from rfl]at hL
 rw[e99]
 cases hq:WA (opR w) [] false false [] l with
 |none=>
  rw[hq]at hL;obtain⟨tl,⟨e,rfl⟩,hL⟩:=hL;simp only[DH,yD,Jt,JR,Jc];obtain⟨ek,en,ed,eu,el⟩:=e;simp only[Qo,b99,Tryz.f99,JK,loops,JC,X99,Wb,KV,jb,xZ,JR,Jc,show((0:Nat):Int)=0 from rfl,go_sem]at hL
  simp only[go_sem,b99,Tryz.f99,hlo,l1,c36,hL]<;>rfl
 |some ks'=>
  rw[hq]at hL;obtain⟨m',hL⟩:=hL;simp only[Qo,b99,Tryz.f99,JK,loops,JC,X99,Wb,KV,xZ,Jc,show((0:Nat):Int)=0 from rfl,go_sem]at hL
  simp only[AK,yD]
  match ks',hL with
  |[],hL=>
   have q:(((0:Nat):Int)==1)=false:=rfl;have q':((0:Int)==1)=false:=rfl;rw[show KC (.mk 2 0 0 0 [])= .mk 2 0 0 0 []from rfl,JR]
   simp only[Jc]at hL⊢
   simp only[go_sem,b99,Tryz.f99,hlo,l1,c36,hL,q,q',Ai]<;>rfl
  |[x],hL=>
   obtain⟨k',n',d',u',kids'⟩:=x;have q:(((0+1:Nat):Int)==1)=true:=rfl;have q':((1:Int)==1)=true:=rfl;rw[show KC (.mk 2 0 0 0 [.mk k' n' d' u' kids'])= .mk k' n' d' u' kids' from rfl]
   simp only[J8,Jc,JR]at hL⊢
   simp only[go_sem,b99,Tryz.f99,hlo,l1,c36,hL,q,q',Ae,Ai]<;>rfl
  |x::y::r,hL=>
   have q:(((r.length+1+1:Nat):Int)==1)=false:=by rw[beq_eq_false_iff_ne];omega
   rw[show KC (.mk 2 0 0 0 (x::y::r))= .mk 2 0 0 0 (x::y::r)from rfl,JR]
   simp only[J8]at hL⊢;simp only[go_sem,b99,Tryz.f99,hlo,l1,c36,hL,q,Ae,Ji]<;>rfl
end
end Go.Lift.Y1
end

section
open Go.Proofs
namespace Go.Lift.Y1
open Rul
variable{lo:Nat}{h:JG}
theorem Jko{l:List CV}(hlo:lo<=h.length)(hl:JN l<=1000000000):E lo 36 [.list .no (JJ l)] h=some (.list .no (JJ (Jh l)),h):=f36 hlo (by have:=JV l;omega)
abbrev qL(l:List CV)(out:List (List CV))(f i:Nat):Jl:=[(0,.list .no (JJ l)),(3,.list .yes (Yh out)),(4,.v (.int .i64 f)),(7,.list .no (JJ l)),(8,.v (.int .i64 l.length)),(9,.v (.int .i64 i))]
theorem JUz{l:List CV}{out:List (List CV)}{v:CV}{f i:Nat}(hlo:lo<=h.length)(hl:JN l<=1000000000)(hg:l[i]? =some v)(hf:f<=i)(ho:out.length<=1000000000)(hk:v.k=18):
  evCode ⟨Aa,E,lo,h.length,JT7⟩ JA qi (qL l out f i,h)=some (.normal,qL l (out++[Jh ((l.take i).drop f)]) (i+1) (i+1),h):=by
 obtain⟨t,ks⟩:=v;have hlt:i<l.length:=(Ab.1 hg).1
 have hll:l.length<=1000000000:=by have:=JV l;omega
 have hgr:(JJ l)[i]? =some (Js (.mk t ks)):=by rw[Jq,hg]<;>rfl
 have q:decide ((i:Int)<(l.length:Int))=true:=by simpa using hlt
 have hw:=JM (i:=i) om;have qk:(t.k==18)=true:=by rw[beq_iff_eq];exact hk
 have l1:lo<=h.length+1:=om;have hi:i<=l.length:=om;have hc:=λlo hlo=>Jko (lo:=lo) (h:=h++[.cells (Js (.mk t ks))]) (l:=(l.take i).drop f) hlo (by have:=YP (l:=l) (i:=i) (f:=f);omega)
 rw[JP]at*;have ca:=hc lo (by simp;omega);have cb:=hc (h.length+1) (by simp)
 clear hc;have ed:((JJ l).take i).drop f=JJ ((l.take i).drop f):=by rw[K9,QV]
 have ra:=Jn ((l.take i).drop f);have rl:=Jn l;have pa:=JBN out;have pl:=kO out;have pi:=JBO out;have o1:(out.length+1)*24<=140737488355328:=om;have o2:out.length<=9223372036854775806:=om;simp only[qL];rw[y4];generalize Yh out=R at*;simp only[go_sem,qi,JNm,Tryz.f100,hlo,q,hgr,hw,qk,l1,hi,hf,ca,cb,ed,ra,rl,pa,pl,pi,o1,o2,JD]<;>rfl
theorem JX9{l:List CV}{out:List (List CV)}{v:CV}{f i:Nat}(hlo:lo<=h.length)(hl:l.length<=1000000000)(hg:l[i]? =some v)(hk:v.k≠18):
  evCode ⟨Aa,E,lo,h.length,JT7⟩ JA qi (qL l out f i,h)=some (.normal,qL l out f (i+1),h):=by
 obtain⟨t,ks⟩:=v;have hlt:i<l.length:=(Ab.1 hg).1
 have hgr:(JJ l)[i]? =some (Js (.mk t ks)):=by rw[Jq,hg]<;>rfl
 have q:decide ((i:Int)<(l.length:Int))=true:=by simpa using hlt
 have hw:=JM (i:=i) om;have qk:(t.k==18)=false:=by rw[beq_eq_false_iff_ne];exact hk
 have l1:lo<=h.length+1:=om;rw[JP]at*;simp only[qL,go_sem,qi,JNm,Tryz.f100,hlo,q,hgr,hw,qk,l1,JD]<;>rfl
theorem JDO{l:List CV}(hlo:lo<=h.length)(hl:JN l<=1000000000):∀(m i f:Nat) (out:List (List CV)),m=l.length-i->i<=l.length->f<=i->out.length<=i->
  ∃(f':Nat) (o:List (List CV)),f'<=l.length/\o.length<=l.length/\out++Q0 ((l.take i).drop f) (l.drop i)=o++[Jh (l.drop f')]/\
   JA (evCode ⟨Aa,E,lo,h.length,JT7⟩ JA qi) (qL l out f i,h)=some (.exit 0,qL l o f' l.length++[(10,.v (.bool false))],h)
 |0,i,f,out,hm,hi,hf,ho=>by
  obtain rfl:i=l.length:=om;have hd:decide ((l.length:Int)<(l.length:Int))=false:=by simp
  refine⟨f,out,hf,ho,?_,?_⟩
  ·rw[A0,Q0,BP]
  ·rw[JB]
   simp only[qL,go_sem,qi,JNm,Tryz.f100,hlo,hd]<;>rfl
 |m+1,i,f,out,hm,hi,hf,ho=>by
  have hlt:i<l.length:=om;have hll:l.length<=1000000000:=by have:=JV l;omega
  have hg:=Ac hlt
  rw[Av hlt,Q0,JB];by_cases hk:(l[i]).k=18
  ·rw[if_pos hk,JUz hlo hl hg hf om hk,JO]
   obtain⟨f',o,h1,h2,h3,h4⟩:=JDO hlo hl m (i+1) (i+1) (out++[Jh ((l.take i).drop f)]) om om (Ad _) (by rw[List.length_append,List.length_singleton];omega)
   have e0:(l.take (i+1)).drop (i+1)=[]:=AZ (by rw[Az];omega)
   rw[e0,Ax,List.singleton_append]at h3;exact⟨f',o,h1,h2,h3,h4⟩
  ·rw[if_neg hk,JX9 hlo hll hg hk,JO]
   obtain⟨f',o,h1,h2,h3,h4⟩:=JDO hlo hl m (i+1) f out om om om om
   have hd:(l.take (i+1)).drop f=(l.take i).drop f++[l[i]]:=by rw[Bu hlt,BK (by rw[Az];omega)]
   rw[hd]at h3;exact⟨f',o,h1,h2,h3,h4⟩
theorem f100{l:List CV}(hlo:lo<=h.length)(hl:JN l<=1000000000):E lo 100 [.list .no (JJ l)] h=some (.list .no (Yh (J4 l)),h):=by
 have hll:l.length<=1000000000:=by have:=JV l;omega
 obtain⟨f',o,h1,h2,h3,h4⟩:=JDO (lo:=lo) (h:=h) hlo hl l.length 0 0 [] om (Nat.zero_le _) (Ad _) (Ad _);simp only[Au,AD,Cd,CB]at h3;have e:J4 l=o++[Jh (l.drop f')]:=h3;rw[e,y4];simp only[qL,qi,JNm,Tryz.f100,JK,loops,JC,go_sem,Yh,List.map_nil]at h4;have hc:=λlo hlo=>Jko (lo:=lo) (h:=h) (l:=l.drop f') hlo (by have:=JAs (l:=l) (f:=f');omega)
 have ca:=hc lo hlo;have cb:=hc h.length (Ad _);have n0:((0:Nat):Int)=0:=rfl;have ed:(JJ l).drop f'=JJ (l.drop f'):=QV l f';have et:(JJ l).take l.length=JJ l:=by rw[K9,BP]
 have ra:=Jn (l.drop f');have rl:=Jn l;have pa:=JBN o;have pl:=kO o;have pi:=JBO o;have o1:(o.length+1)*24<=140737488355328:=om;have o2:o.length<=9223372036854775806:=om;unfold Yh at pa pl pi⊢;rw[Jqt];simp only[go_sem,JNm,Tryz.f100,hlo,n0,h4,h1,ca,cb,ed,et,ra,rl,pa,pl,pi,o1,o2,JD]<;>rfl
end Go.Lift.Y1
end

section
open Go.Proofs
namespace Go.Lift.Y1
open Rul
open Utf (By)
variable{lo:Nat}{h:JG}
theorem JsS{t:Tk4}{kids:List CV}{w:List CV->X×Bool}(hlo:lo<=h.length)(ht:okT t)(hk:(t.k==10)=true):
  E lo 69 [.agg (Js (.mk t kids))] h=some (.tup [.agg (xC (KJ w (.mk t kids)).1),.v (.bool (KJ w (.mk t kids)).2)],h):=by
 have l1:lo<=h.length+1:=om;have l2:lo<=h.length+1+1:=om;have l3:lo<=h.length+3:=om;have c96:=λlo h hlo=>f96 (lo:=lo) (h:=h) (n:=t.n) (d:=t.d) ht.2.2.1.1 ht.2.2.1.2 ht.2.2.2.2 hlo
 rw[JAH hk,e69];unfold JA6
 cases hm:Spell.y0 t.n t.d with
 |true=>
  simp only[hm,if_true]at c96;simp only[if_true,JR,JP,Jc]
  simp only[go_sem,b69,Tryz.f69,hlo,l1,l2,l3,hk,c96]<;>rfl
 |false=>simp only[hm,if_false,Al]at c96;simp only[if_false,Al,JR,JP,Jc];simp only[go_sem,b69,Tryz.f69,hlo,l1,l2,l3,hk,c96]<;>rfl
theorem JsT{t:Tk4}{kids:List CV}{w:List CV->X×Bool}(hlo:lo<=h.length)(ht:okT t)(h0:(t.k==10)=false)(hk:(t.k==12)=true):
  E lo 69 [.agg (Js (.mk t kids))] h=some (.tup [.agg (xC (KJ w (.mk t kids)).1),.v (.bool (KJ w (.mk t kids)).2)],h):=by
 have l1:lo<=h.length+1:=om;have l2:lo<=h.length+1+1:=om;have l3:lo<=h.length+3:=om;have c96:=λlo h hlo=>f96 (lo:=lo) (h:=h) (n:=t.n) (d:=t.d) ht.2.2.1.1 ht.2.2.1.2 ht.2.2.2.2 hlo
 have c97:=λlo h hlo=>f97 (lo:=lo) (h:=h) (b:=t.b) hlo ht.1 ht.2.1
 have hu:decide (0<GD t.b)=(GD t.b !=0):=by
  have:0<=GD t.b:=by
   unfold GD
   have:∀(l:List (List Int)) (i:Nat),0<=unitF (Jg t.b) l i:=by
    intro l
    induction l with
    |nil=>intro i;exact Int.le_refl _
    |cons a r ih=>
     intro i;unfold unitF
     split
     ·omega
     ·exact ih _
   exact this _ _
  rw[BO,decide_eq_true_iff,bne_iff_ne];omega
 rw[JHi h0 hk,e69];rw[<-hu];unfold JA6;generalize GD t.b=un at c97⊢
 cases hm:Spell.y0 t.n t.d with
 |true=>
  simp only[hm,if_true]at c96;simp only[if_true,JR,JP,Jc]
  simp only[go_sem,b69,Tryz.f69,hlo,l1,l2,l3,h0,hk,c96,c97]<;>rfl
 |false=>simp only[hm,if_false,Al]at c96;simp only[if_false,Al,JR,JP,Jc];simp only[go_sem,b69,Tryz.f69,hlo,l1,l2,l3,h0,hk,c96,c97]<;>rfl
theorem JYA{b:List Int}(h:b.all (λc=>decide (0<=c)&&decide (c<256))=true):By b:=λc hc=>by have:=List.all_eq_true.1 h c hc;simp only[Af,decide_eq_true_eq]at this;omega
theorem JeL{t:Tk4}{kids:List CV}(ht:okT t):∀lo h,lo<=h.length->E lo 98 [.agg (Js (.mk t kids)),.v (.int .i64 2),.v (.string ⟨#[99,97,108,99]⟩)] h=some (.v (.bool (t.k==2&&Jg t.b==Y2)),h):=
 λlo h hlo=>f98 (w:=Y2) hlo ht (JYA (by decide)) (by decide) (by decide)
theorem Jkp{t:Tk4}{kids:List CV}(ht:okT t):∀lo h,lo<=h.length->E lo 98 [.agg (Js (.mk t kids)),.v (.int .i64 2),.v (.string ⟨#[109,105,110]⟩)] h=some (.v (.bool (t.k==2&&Jg t.b==jW)),h):=
 λlo h hlo=>f98 (w:=jW) hlo ht (JYA (by decide)) (by decide) (by decide)
theorem Jkq{t:Tk4}{kids:List CV}(ht:okT t):∀lo h,lo<=h.length->E lo 98 [.agg (Js (.mk t kids)),.v (.int .i64 2),.v (.string ⟨#[109,97,120]⟩)] h=some (.v (.bool (t.k==2&&Jg t.b==jX)),h):=
 λlo h hlo=>f98 (w:=jX) hlo ht (JYA (by decide)) (by decide) (by decide)
theorem Jkr{t:Tk4}{kids:List CV}(ht:okT t):∀lo h,lo<=h.length->E lo 98 [.agg (Js (.mk t kids)),.v (.int .i64 2),.v (.string ⟨#[99,108,97,109,112]⟩)] h=some (.v (.bool (t.k==2&&Jg t.b==Q2)),h):=
 λlo h hlo=>f98 (w:=Q2) hlo ht (JYA (by decide)) (by decide) (by decide)
section
variable{t:Tk4}{kids:List CV}{w:List CV->X×Bool}
theorem Jks(hlo:lo<=h.length)(ht:okT t)(h0:(t.k==10)=false)(h1:(t.k==12)=false)(n1:(t.k==2&&Jg t.b==Y2)=false)(n2:(t.k==2&&Jg t.b==jW)=false)(n3:(t.k==2&&Jg t.b==jX)=false)(n4:(t.k==2&&Jg t.b==Q2)=false):
  E lo 69 [.agg (Js (.mk t kids))] h=some (.tup [.agg (xC Jt),.v (.bool false)],h):=by
 have l1:lo<=h.length+1:=om;have l2:lo<=h.length+1+1:=om;have l3:lo<=h.length+3:=om;have q1:=JeL (kids:=kids) ht;have q2:=Jkp (kids:=kids) ht;have q3:=Jkq (kids:=kids) ht;have q4:=Jkr (kids:=kids) ht;rw[n1]at q1;rw[n2]at q2;rw[n3]at q3;rw[n4]at q4;rw[e69];simp only[JP]at q1 q2 q3 q4;simp only[Jt,JR,JP,Jc];simp only[go_sem,b69,Tryz.f69,hlo,l1,l2,l3,h0,h1,q1,q2,q3,q4]<;>rfl
def JOC(w:List CV->X×Bool)(l:List CV):Prop:=∀lo h,lo<=h.length->E lo 99 [.list .no (JJ l)] h=some (.tup [.agg (xC (w l).1),.v (.bool (w l).2)],h)
theorem JsU(hlo:lo<=h.length)(ht:okT t)(h0:(t.k==10)=false)(h1:(t.k==12)=false)(n1:(t.k==2&&Jg t.b==Y2)=true)(hw:JOC w kids):
  E lo 69 [.agg (Js (.mk t kids))] h=some (.tup [.agg (xC (w kids).1),.v (.bool (w kids).2)],h):=by
 have l1:lo<=h.length+1:=om;have l2:lo<=h.length+1+1:=om;have l3:lo<=h.length+3:=om;have q1:=JeL (kids:=kids) ht;rw[n1]at q1;have c99:∀lo h,lo<=h.length->E lo 99 [.list .no (JJ kids)] h=some (.tup [.agg (xC (w kids).1),.v (.bool (w kids).2)],h):=hw;rw[e69];generalize w kids=r at c99⊢;obtain⟨⟨ek,en,ed,eu,el⟩,eb⟩:=r;simp only[JR,JP]at c99 q1⊢
 simp only[go_sem,b69,Tryz.f69,hlo,l1,l2,l3,h0,h1,q1,c99]<;>rfl
abbrev N69(h:JG)(K:Int)(ps:List (List CV))(j:Int):Jl:=[(2,.ptr (h.length+1) 0),(6,.v (.int .i64 K)),(7,.ptr (h.length+3) 0),(58,.list .no (Yh ps)),(59,.v (.int .i64 ps.length)),(60,.v (.int .i64 j))]
abbrev H69(h:JG)(t:Tk4)(kids:List CV)(K:Int)(ks:List X):JG:=h++[.cells (Js (.mk t kids)),.cells xZ,.cells [.v (.int .i64 t.k),.v (.string (Rul.bs t.b)),.v (.int .i64 t.n),.v (.int .i64 t.d),.v (.bool t.w),.v (.bool t.i)],.cells (xO K ks)]
theorem JsV{K:Int}{ps:List (List CV)}{p:List CV}{j:Nat}{ks:List X}{e:X}(hlo:lo<=h.length)(hl:ps.length<=1000000000)(hks:ks.length<=1000000000)(hg:ps[j]? =some p)
  (hw:∀lo h,lo<=h.length->E lo 99 [.list .no (JJ p)] h=some (.tup [.agg (xC e),.v (.bool true)],h)):
  evCode ⟨Aa,E,lo,h.length,h69⟩ JA qG (N69 h K ps j,H69 h t kids K ks)=some (.normal,N69 h K ps (j+1:Nat),H69 h t kids K (ks++[e])):=by
 have l1:lo<=h.length+1:=om;have l2:lo<=h.length+1+1:=om;have l3:lo<=h.length+3:=om;have l4:lo<=h.length+4:=om;have hlt:j<ps.length:=(Ab.1 hg).1
 have hgr:(Yh ps)[j]? =some [.list .no (JJ p)]:=by unfold Yh;rw[An,hg]<;>rfl
 have q1:decide ((j:Int)<(ps.length:Int))=true:=by rw[decide_eq_true_iff];omega
 have t1:Bw (j:Int)=j:=om;have hwr:=JM (i:=j) om;obtain⟨ek,en,ed,eu,el⟩:=e;simp only[JR]at hw;have o1:=JHk hks;have o2:=JHl hks;have ra:=kP ks;have rl:=Ji ks;have rb:=kQ ks;simp only[N69,H69,JP,xZ,xO,<-WR,J8,Jc,JR];generalize GL ks=Q at ra rl rb⊢;simp only[go_sem,qG,b69,Tryz.f69,hlo,l1,l2,l3,l4,hgr,q1,t1,hwr,hw,o1,o2,ra,rl,rb]<;>rfl
abbrev R69(h:JG)(t:Tk4)(kids:List CV)(K:Int)(ks:List X)(e:X):Option (Ex×Jl×JG):=some (.ret,[(2,.ptr (h.length+1) 0),(3,.v (.bool false))],h++[.cells (Js (.mk t kids)),.cells xZ,.cells [.v (.int .i64 t.k),.v (.string (Rul.bs t.b)),.v (.int .i64 t.n),.v (.int .i64 t.d),.v (.bool t.w),.v (.bool t.i)],.cells (xO K ks),.cells (xC e)])
theorem JsW{K:Int}{ps:List (List CV)}{p:List CV}{j:Nat}{ks:List X}{e:X}(hlo:lo<=h.length)(hl:ps.length<=1000000000)(hg:ps[j]? =some p)
  (hw:∀lo h,lo<=h.length->E lo 99 [.list .no (JJ p)] h=some (.tup [.agg (xC e),.v (.bool false)],h)):
  evCode ⟨Aa,E,lo,h.length,h69⟩ JA qG (N69 h K ps j,H69 h t kids K ks)=R69 h t kids K ks e:=by
 have l1:lo<=h.length+1:=om;have l2:lo<=h.length+1+1:=om;have l3:lo<=h.length+3:=om;have l4:lo<=h.length+4:=om;have hlt:j<ps.length:=(Ab.1 hg).1
 have hgr:(Yh ps)[j]? =some [.list .no (JJ p)]:=by unfold Yh;rw[An,hg]<;>rfl
 have q1:decide ((j:Int)<(ps.length:Int))=true:=by rw[decide_eq_true_iff];omega
 have t1:Bw (j:Int)=j:=om;obtain⟨ek,en,ed,eu,el⟩:=e;simp only[JR]at hw;simp only[N69,H69,R69,JP,xZ,xO,JR,Jt,Jc];simp only[go_sem,qG,b69,Tryz.f69,hlo,l1,l2,l3,l4,hgr,q1,t1,hw]<;>rfl
theorem JeM{K:Int}{ps:List (List CV)}{ks:List X}(hlo:lo<=h.length):
  evCode ⟨Aa,E,lo,h.length,h69⟩ JA qG (N69 h K ps (ps.length:Nat),H69 h t kids K ks)=some (.exit 2,N69 h K ps (ps.length:Nat)++[(61,.v (.bool false))],H69 h t kids K ks):=by
 have l1:lo<=h.length+1:=om;have l3:lo<=h.length+3:=om;have q1:decide ((ps.length:Int)<(ps.length:Int))=false:=by rw[decide_eq_false_iff_not];omega
 simp only[N69,H69,JP,xZ,xO,go_sem,qG,b69,Tryz.f69,hlo,l1,l3,q1]<;>rfl
theorem JU0{K:Int}{ps:List (List CV)}(hlo:lo<=h.length)(hl:ps.length<=100000000)(hw:∀p∈ps,JOC w p):∀(m j:Nat) (ks:List X),j+m=ps.length->ks.length+m<=1000000000->
  match QX w (ps.drop j)with
  |none=>∃e ks',JA (evCode ⟨Aa,E,lo,h.length,h69⟩ JA qG) (N69 h K ps j,H69 h t kids K ks)=R69 h t kids K ks' e
  |some xs=>JA (evCode ⟨Aa,E,lo,h.length,h69⟩ JA qG) (N69 h K ps j,H69 h t kids K ks)=some (.exit 2,N69 h K ps (ps.length:Nat)++[(61,.v (.bool false))],H69 h t kids K (ks++xs))
 |0,j,ks,hj,hk=>by
  obtain rfl:j=ps.length:=om;rw[A0];show JA _ _=_
  rw[JB,JeM hlo,Jx,List.append_nil]
 |m+1,j,ks,hj,hk=>by
  have hlt:j<ps.length:=om;have hg:=Ac hlt
  have hp:JOC w ps[j]:=hw _ (AW hlt);rw[JC4 hg];unfold JOC at hp;generalize w ps[j]=r at hp⊢;obtain⟨e,b⟩:=r
  cases b with
  |false=>
   simp only
   exact⟨e,ks,by rw[JB,JsW hlo om hg hp,R69,Kh]⟩
  |true=>
   simp only;have ih:=JU0 (K:=K) hlo hl hw m (j+1) (ks++[e]) om (by simp;omega)
   rw[JB,JsV hlo om om hg hp,JO]
   cases hx:QX w (ps.drop (j+1))with
   |none=>rw[hx]at ih;exact ih
   |some xs=>rw[hx]at ih;simp only[AK];rw[ih,Ax]<;>rfl
theorem n68:((8:Int) !=8)=false:=rfl
theorem n66:((6:Int) !=8)=true:=rfl
theorem n67:((7:Int) !=8)=true:=rfl
theorem JeN{K:Int}(hK:K=6\/K=7\/K=8)(hlo:lo<=h.length)(ht:okT t)(hl:JN kids<=10000000)(h0:(t.k==10)=false)(h1:(t.k==12)=false)
  (n1:(t.k==2&&Jg t.b==Y2)=false)(n2:(t.k==2&&Jg t.b==jW)=decide (K=6))(n3:(t.k==2&&Jg t.b==jX)=decide (K=7))(n4:(t.k==2&&Jg t.b==Q2)=decide (K=8))(hw:∀p∈J4 kids,JOC w p):
  E lo 69 [.agg (Js (.mk t kids))] h=some (.tup [.agg (xC (Yi K w kids).1),.v (.bool (Yi K w kids).2)],h):=by
 have l1:lo<=h.length+1:=om;have l2:lo<=h.length+1+1:=om;have l3:lo<=h.length+3:=om;have l4:lo<=h.length+4:=om;have hln:=JV kids;have hsl:=GC [] kids;have c100:=λlo h hlo=>f100 (lo:=lo) (h:=h) (l:=kids) hlo om
 have hL:=JU0 (t:=t) (kids:=kids) (w:=w) (K:=K) hlo (show(J4 kids).length<=_ by unfold J4;omega) hw (J4 kids).length 0 [] om (by show 0+(J4 kids).length<=_;unfold J4;omega)
 have q1:=JeL (kids:=kids) ht;have q2:=Jkp (kids:=kids) ht;have q3:=Jkq (kids:=kids) ht;have q4:=Jkr (kids:=kids) ht;have pl:=kO (J4 kids);rw[n1]at q1;rw[n2]at q2;rw[n3]at q3;rw[n4]at q4;simp only[JP]at q1 q2 q3 q4;rw[AD]at hL;rw[e69]
 have hkl:∀xs,QX w (J4 kids)=some xs->xs.length<=1000000000:=λxs hx=>by have:=Hh hx;unfold J4 at this;omega
 unfold Yi
 cases hx:QX w (J4 kids)with
 |none=>
  rw[hx]at hL;obtain⟨e,ks',hL⟩:=hL;obtain⟨ek,en,ed,eu,el⟩:=e;generalize J4 kids=PS at c100 pl hL;simp only[Jt,JR,Jc];rcases hK with rfl|rfl|rfl<;>
  simp only[qG,b69,Tryz.f69,JK,loops,JC,N69,H69,R69,JP,xZ,xO,JR,Jc,show((0:Nat):Int)=0 from rfl,go_sem]at hL<;>
  simp only[JP,go_sem,b69,Tryz.f69,hlo,l1,l2,l3,l4,h0,h1,c100,pl,q1,q2,q3,q4,d66,d67,d68,d76,d77,d78,d86,d87,d88,hL]<;>rfl
 |some xs=>
  rw[hx]at hL;have hxl:=hkl xs hx;simp only[Au]at hL;generalize J4 kids=PS at c100 pl hL;simp only[JR];have xl:=Ji xs;rcases hK with rfl|rfl|rfl<;>
  simp only[qG,b69,Tryz.f69,JK,loops,JC,N69,H69,JP,xZ,xO,Jc,show((0:Nat):Int)=0 from rfl,go_sem]at hL<;>
  simp only[JP,go_sem,b69,Tryz.f69,hlo,l1,l2,l3,l4,h0,h1,c100,pl,q1,q2,q3,q4,d66,d67,d68,d76,d77,d78,d86,d87,d88,n66,n67,n68,hL,xl]<;>rfl
end
theorem JPX{b:Bool}(h:b=false)(c:Bool):(b&&c)=false:=by rw[h]<;>rfl
theorem JU1{w:List CV->Option X}{v:CV}(hv:YQ v)(hl:Kj v<=10000000)(h1:W99 w v.ks)(h2:∀p∈J4 v.ks,W99 w p):W69 w v:=by
 obtain⟨t,kids⟩:=v;rw[YQ]at hv
 have hk:JN kids<=10000000:=by
  rw[Qj,show(CV.mk t kids).ks=kids from rfl]at hl
  omega
 have h2':∀p∈J4 kids,JOC (λp=>yD (w p)) p:=h2
 have h1':JOC (λp=>yD (w p)) kids:=h1
 intro lo h hlo
 cases q0:t.k==10 with
 |true=>exact JsS hlo hv.1 q0
 |false=>
  cases q1:t.k==12 with
  |true=>exact JsT hlo hv.1 q0 q1
  |false=>
   cases q2:t.k==2 with
   |false=>
    rw[JLo q0 q1 q2]
    exact Jks hlo hv.1 q0 q1 (JPX q2 _) (JPX q2 _) (JPX q2 _) (JPX q2 _)
   |true=>
    rw[Zp q0 q1 q2]
    cases n1:Jg t.b==Y2 with
    |true=>
     rw[if_pos rfl]
     exact JsU hlo hv.1 q0 q1 (by rw[q2,n1]<;>rfl) h1'
    |false=>
     rw[if_neg (by simp)]
     cases n2:Jg t.b==jW with
     |true=>
      have n3:=JAK n2 (show jW≠jX by decide)
      have n4:=JAK n2 (show jW≠Q2 by decide)
      rw[if_pos rfl]
      exact JeN (K:=6) (.inl rfl) hlo hv.1 hk q0 q1 (by rw[n1,Bl]) (by rw[q2,n2]<;>rfl) (by rw[n3,Bl]<;>rfl) (by rw[n4,Bl]<;>rfl) h2'
     |false=>
      rw[if_neg (by simp)]
      cases n3:Jg t.b==jX with
      |true=>
       have n4:=JAK n3 (show jX≠Q2 by decide)
       rw[if_pos rfl]
       exact JeN (K:=7) (.inr (.inl rfl)) hlo hv.1 hk q0 q1 (by rw[n1,Bl]) (by rw[n2,Bl]<;>rfl) (by rw[q2,n3]<;>rfl) (by rw[n4,Bl]<;>rfl) h2'
      |false=>
       rw[if_neg (by simp)]
       cases n4:Jg t.b==Q2 with
       |true=>
        rw[if_pos rfl]
        exact JeN (K:=8) (.inr (.inr rfl)) hlo hv.1 hk q0 q1 (by rw[n1,Bl]) (by rw[n2,Bl]<;>rfl) (by rw[n3,Bl]<;>rfl) (by rw[q2,n4]<;>rfl) h2'
       |false=>
        rw[if_neg (by simp)]
        exact Jks hlo hv.1 q0 q1 (by rw[n1,Bl]) (by rw[n2,Bl]) (by rw[n3,Bl]) (by rw[n4,Bl])
theorem JKJ:∀(n:Nat) (l:List CV),JN l<n->JN l<=10000000->QG l->W99 (jV n) l
 |0,l,hn,_,_=>by omega
 |n+1,l,hn,hl,ho=>by
  intro lo h hlo;have hm:∀v∈Jh l,YQ v/\Kj v<=JN l:=λv hv=>⟨Kb ho v (KH hv),KO (KH hv)⟩
  have e:jV (n+1) l=JN9 (opR (jV n)) l:=by rw[jV]
  rw[e];refine JsR (w:=jV n) hlo om λv hv=>?_
  obtain⟨o,hnv⟩:=hm v hv;have hk:=Wt v;have a1:=JKJ n v.ks om om (Gf o);exact⟨(qy o).1,JU1 o om a1 (λp hp=>JKJ n p (by have:=K2 hp;omega) (by have:=K2 hp;omega) (G9 (Gf o) hp)),λ_=>a1⟩
theorem JTz{n:Nat}{v:CV}(hn:Kj v<=n)(hl:Kj v<=10000000)(ho:YQ v):W69 (jV n) v:=by have hk:=Wt v;exact JU1 ho hl (JKJ n v.ks om om (Gf ho)) λp hp=>JKJ n p (by have:=K2 hp;omega) (by have:=K2 hp;omega) (G9 (Gf ho) hp)
def JHx(r:X×Bool):X×Int:=if r.2=true then(r.1,0)else(Jt,3)
theorem JU2{a b:X×Bool}(h:Hy a=Hy b):JHx a=JHx b:=by unfold Hy at h;unfold JHx;obtain⟨e,x⟩:=a;obtain⟨e',x'⟩:=b;cases x<;>cases x'<;>simp_all
theorem JRp{n:Nat}{l:List CV}(hm:QN 64 l=false):Jo n l=(Jt,1):=by unfold Jo;rw[hm,if_neg (by simp)]
theorem JHy{n:Nat}{l:List CV}{v:CV}(hm:QN 64 l=true)(ht:Jh l=[v]):Jo n l=JHx (KJ (λp=>yD (jV n p)) v):=by
 rw[<-JU2 (JRl n v)];unfold Jo JHx;rw[hm,if_pos rfl,ht];simp only;rcases JLp n v with⟨e,b⟩
 cases b<;>rfl
theorem JRq{n:Nat}{l:List CV}(hm:QN 64 l=true)(ht:(Jh l).length≠1):Jo n l=(Jt,3):=by
 unfold Jo;rw[hm,if_pos rfl];generalize Jh l=L at ht⊢
 match L,ht with
 |[],_=>rfl
 |[v],h=>exact absurd rfl h
 |v::u::r,_=>rfl
theorem f39{l:List CV}{n:Nat}(hlo:lo<=h.length)(hn:JN l<=n)(hl:JN l<=10000000)(ho:QG l):
  E lo 39 [.list .no (JJ l)] h=some (.tup [.agg (xC (Jo n l).1),.v (.int .i64 (Jo n l).2)],h):=by
 have l1:lo<=h.length+1:=om;have l2:lo<=h.length+1+1:=om;have c33:=λlo h hlo=>f33 (lo:=lo) (h:=h) (l:=l) hlo om
 have c36:=λlo h hlo=>f36 (lo:=lo) (h:=h) (l:=l) hlo (by have:=JV l;omega)
 have hm:∀v∈Jh l,YQ v/\Kj v<=JN l:=λv hv=>⟨Kb ho v (KH hv),KO (KH hv)⟩
 have hll:=JV (Jh l);have htl:=Kf l;rw[e39]
 cases q:QN 64 l with
 |false=>
  rw[q]at c33;rw[JRp q];simp only[Jt,JR,Jc]
  simp only[go_sem,b39,Tryz.f39,hlo,l1,l2,c33]<;>rfl
 |true=>
  rw[q]at c33;by_cases h1:(Jh l).length=1
  ·obtain⟨v,hv1⟩:=List.length_eq_one_iff.1 h1
   rw[JHy q hv1];have hv:=hm v (by rw[hv1];exact A1.2 rfl)
   have c69:=JTz (n:=n) (v:=v) om om hv.1;unfold W69 at c69;have q1:(((0+1:Nat):Int) !=1)=false:=rfl;have q1':((1:Int) !=1)=false:=rfl;rw[hv1,JZ,JX]at c36;unfold JHx;generalize KJ (λp=>yD (jV n p)) v=r at c69⊢
   obtain⟨⟨ek,en,ed,eu,el⟩,b⟩:=r;obtain⟨t,kids⟩:=v
   cases b with
   |true=>
    rw[if_pos rfl];simp only[JR,JP]at c36 c69⊢
    simp only[go_sem,b39,Tryz.f39,hlo,l1,l2,c33,c36,c69,q1,q1',Ai,Ae]<;>rfl
   |false=>
    rw[if_neg (by simp)]
    simp only[Jt,JR,JP,Jc]at c36 c69⊢;simp only[go_sem,b39,Tryz.f39,hlo,l1,l2,c33,c36,c69,q1,q1',Ai,Ae]<;>rfl
  ·rw[JRq q h1]
   have q1:(((Jh l).length:Int) !=1)=true:=by rw[bne_iff_ne];omega
   simp only[Jt,JR,Jc];simp only[go_sem,b39,Tryz.f39,hlo,l1,l2,c33,c36,q1,JD]<;>rfl
noncomputable abbrev Ww(lo:Nat)(h:JG):Go.Lift.Cx:=⟨Aa,E,lo,h.length,h10⟩
section
variable{nm:ByteArray}{k:Int}{dn low kn:Bool}{ws:List ByteArray}{ck a b:Int}{w:ByteArray}{l:List CV}{n:Nat}{name:List Int}{at':Int}
abbrev N10(h:JG)(l:List CV)(cu sm:Bool)(ex:Jl):Jl:=[(1,.list .no (JJ l)),(4,.ptr h.length 0),(6,.ptr (h.length+1) 0),(8,.v (.bool cu)),(9,.v (.bool sm))]++ex
theorem JsX(hlo:lo<=h.length)(hy:By name)(hnl:name.length<=1000000000)(hl:JN l<=2000000)(ho:QG l)
  (c31:∀lo h,lo<=h.length->E lo 31 [.v (.string (Rul.bs name))] h=some (.tup [.agg (JL nm k dn low ws ck a b w),.v (.int .i64 at')],h))(hat:decide (at'<0)= !kn):
  WD (Ww lo h) JA (pc Wy 0 10) (QH [.v (.string (Rul.bs name)),.list .no (JJ l)],h)=
   if(!kn&& !QJ name)=true then Q5 h (JL nm k dn low ws ck a b w) vZ 10
   else if(!QN 64 l)=true then Q5 h (JL nm k dn low ws ck a b w) vZ 1
   else if(GO l true||WL l)=true then Q5 h (JL nm k dn low ws ck a b w) vZ 3
   else some (.normal,N10 h l (QJ name) (Qz l) [(44,.v (.bool false))],W1 h (JL nm k dn low ws ck a b w)):=by
 have l1:lo<=h.length+1:=om;have l2:lo<=h.length+1+1:=om;have hll:=JV l;have c32:=λlo h=>f32 (lo:=lo) (h:=h) hy
 have c33:=λlo h hlo=>f33 (lo:=lo) (h:=h) (l:=l) hlo om
 have c34:∀lo h,lo<=h.length->E lo 34 [.list .no (JJ l)] h=some (.tup [.v (.bool (Qz l)),.v (.bool (WL l))],h):=f34 om (JBP ho om);have c35:=λlo h hlo=>f35 (JN l+1) l om om true lo h hlo
 simp only[JL]at c31;generalize QJ name=cu at c32⊢;generalize QN 64 l=my at c33⊢;generalize GO l true=bd at c35⊢;generalize Qz l=vl at c34⊢;generalize WL l=wl at c34⊢
 have rest:∀(q:(!kn&& !cu)=false),WD (Ww lo h) JA (pc Wy 0 10) (QH [.v (.string (Rul.bs name)),.list .no (JJ l)],h)=if(!my)=true then Q5 h (JL nm k dn low ws ck a b w) vZ 1
   else if(bd||wl)=true then Q5 h (JL nm k dn low ws ck a b w) vZ 3
   else some (.normal,N10 h l cu vl [(44,.v (.bool false))],W1 h (JL nm k dn low ws ck a b w)):=by
  intro q
  cases kn with
  |true=>
   rw[AN]at hat
   cases my with
   |false=>
    rw[if_pos (by simp)]
    simp only[Ww,Q5,vZ,JL,go_sem,Wy,Tryz.f10,hlo,l1,l2,c31,c32,c33,hat]<;>rfl
   |true=>
    rw[if_neg (by simp)]
    cases bd with
    |true=>
     rw[if_pos (by simp)]
     simp only[Ww,Q5,vZ,JL,go_sem,Wy,Tryz.f10,hlo,l1,l2,c31,c32,c33,c34,c35,hat]<;>rfl
    |false=>
     cases wl with
     |true=>
      rw[if_pos (by simp)]
      simp only[Ww,Q5,vZ,JL,go_sem,Wy,Tryz.f10,hlo,l1,l2,c31,c32,c33,c34,c35,hat]<;>rfl
     |false=>
      rw[if_neg (by simp)]
      simp only[Ww,N10,W1,vZ,JL,go_sem,Wy,Tryz.f10,hlo,l1,l2,c31,c32,c33,c34,c35,hat]<;>rfl
  |false=>
   rw[A5]at hat
   cases cu with
   |false=>cases q
   |true=>
    cases my with
    |false=>
     rw[if_pos (by simp)]
     simp only[Ww,Q5,vZ,JL,go_sem,Wy,Tryz.f10,hlo,l1,l2,c31,c32,c33,hat,AN]<;>rfl
    |true=>
     rw[if_neg (by simp)]
     cases bd with
     |true=>
      rw[if_pos (by simp)]
      simp only[Ww,Q5,vZ,JL,go_sem,Wy,Tryz.f10,hlo,l1,l2,c31,c32,c33,c34,c35,hat,AN]<;>rfl
     |false=>
      cases wl with
      |true=>
       rw[if_pos (by simp)]
       simp only[Ww,Q5,vZ,JL,go_sem,Wy,Tryz.f10,hlo,l1,l2,c31,c32,c33,c34,c35,hat,AN]<;>rfl
      |false=>
       rw[if_neg (by simp)]
       simp only[Ww,N10,W1,vZ,JL,go_sem,Wy,Tryz.f10,hlo,l1,l2,c31,c32,c33,c34,c35,hat,AN]<;>rfl
 by_cases q:(!kn&& !cu)=true
 ·rw[if_pos q]
  cases kn with
  |true=>cases q
  |false=>
   cases cu with
   |true=>cases q
   |false=>rw[A5]at hat;simp only[Ww,Q5,vZ,JL,go_sem,Wy,Tryz.f10,hlo,l1,l2,c31,c32,hat,A5]<;>rfl
 ·rw[if_neg q]
  exact rest (by simpa using q)
theorem JsY{L:List CV}{cu sm:Bool}(hlo:lo<=h.length)(hl:JN l<=2000000)(ho:QG l)(hL:Jh l=L):
  ∃q:Bool,WD (Ww lo h) JA (pc Wy 10 4) (N10 h l cu sm [(44,.v (.bool false))],W1 h (JL nm k dn low ws ck a b w))=
   some (.normal,N10 h L cu sm [(11,.v (.string (Rul.bs (Qh L)))),(58,.v (.bool q))],W1 h (JL nm k dn low ws ck a b w)):=by
 have l1:lo<=h.length+1:=om;have l2:lo<=h.length+1+1:=om;have hm:∀v∈L,YQ v:=λv hv=>by rw[<-hL]at hv;exact Kb ho v (KH hv)
 have c36:=λlo h hlo=>f36 (lo:=lo) (h:=h) (l:=l) hlo (by have:=JV l;omega)
 rw[hL]at c36
 match L,c36,hm with
 |[],c36,hm=>
  have q1:(((0:Nat):Int)==1)=false:=rfl;have q1':((0:Int)==1)=false:=rfl;rw[JX]at c36;refine⟨false,?_⟩
  simp only[Ww,N10,W1,vZ,JL,JX,go_sem,Wy,Tryz.f10,hlo,l1,l2,c36,q1,q1',Ai]<;>rfl
 |v::u::r,c36,hm=>
  have q1:(((r.length+1+1:Nat):Int)==1)=false:=by rw[beq_eq_false_iff_ne];omega
  rw[JZ,JZ]at c36;refine⟨false,?_⟩
  rw[show Qh (v::u::r)=[]by obtain⟨t,ks⟩:=v;rfl]
  simp only[Ww,N10,W1,vZ,JL,JZ,go_sem,Wy,Tryz.f10,hlo,l1,l2,c36,q1,Ae,JD]<;>rfl
 |[.mk t kids],c36,hm=>
  have ht:okT t:=qy (hm _ (A1.2 rfl));have q1:(((0+1:Nat):Int)==1)=true:=rfl;have q1':((1:Int)==1)=true:=rfl
  have c37:∀lo h,lo<=h.length->E lo 37 [.v (.string (Rul.bs t.b))] h=some (.v (.string (Rul.bs (Jg t.b))),h):=λlo h hlo=>by
   have c:=f37 (lo:=lo) (h:=h) (l:=t.b) hlo (by have:=ht.2.1;omega) ht.1
   rw[JAC]at c;exact c
  rw[JZ,JX,JP]at c36;unfold Qh;simp only
  cases z1:t.k==1 with
  |false=>
   rw[if_neg (by simp)]
   refine⟨false,?_⟩
   simp only[Ww,N10,W1,vZ,JL,JZ,JX,JP,go_sem,Wy,Tryz.f10,hlo,l1,l2,c36,q1,q1',z1,Ae,Ai]<;>rfl
  |true=>
   rw[if_pos rfl];refine⟨true,?_⟩
   simp only[Ww,N10,W1,vZ,JL,JZ,JX,JP,go_sem,Wy,Tryz.f10,hlo,l1,l2,c36,c37,q1,q1',z1,Ae,Ai]<;>rfl
abbrev M10(h:JG)(l:List CV)(wd:List Int):Jl:=[(1,.list .no (JJ l)),(4,.ptr h.length 0),(6,.ptr (h.length+1) 0),(11,.v (.string (Rul.bs wd))),(80,.v (.bool false))]
theorem JsZ{L:List CV}{q cu sm:Bool}{wd:List Int}(hlo:lo<=h.length)(hl:JN L<=2000000)(ho:QG L)(hwd:By wd):
  WD (Ww lo h) JA (pc Wy 14 4) (N10 h L cu sm [(11,.v (.string (Rul.bs wd))),(58,.v (.bool q))],W1 h (JL nm k dn low ws ck a b w))=
   (
    if JDB wd=true then Q5 h (JL nm k dn low ws ck a b w) (jZ 3 (Rul.bs wd)) 0
    else if(cu||sm)=true then Q5 h (JL nm k dn low ws ck a b w) (JL1 ((Ka L).map row)) 0
    else some (.normal,M10 h L wd,W1 h (JL nm k dn low ws ck a b w))):=by
 have l1:lo<=h.length+1:=om;have l2:lo<=h.length+1+1:=om;have e1:=QR hwd (byW (b:=JN4) (by decide))
 have e2:=QR hwd (byW (b:=JN5) (by decide))
 have e3:=QR hwd (byW (b:=JN6) (by decide))
 rw[show Rul.bs JN4=⟨#[105,110,104,101,114,105,116]⟩from rfl]at e1
 rw[show Rul.bs JN5=⟨#[105,110,105,116,105,97,108]⟩from rfl]at e2
 rw[show Rul.bs JN6=⟨#[117,110,115,101,116]⟩from rfl]at e3
 have c38:=λlo h hlo=>f38 (JN L) L (Ad _) om lo h hlo
 unfold JDB;generalize (wd==JN4)=b1 at e1⊢;generalize (wd==JN5)=b2 at e2⊢;generalize (wd==JN6)=b3 at e3⊢;generalize (Ka L).map row=FL at c38⊢
 cases b1 with
 |true=>
  rw[if_pos (by simp)]
  simp only[Ww,N10,W1,Q5,vZ,jZ,JL,go_sem,Wy,Tryz.f10,hlo,l1,l2,e1]<;>rfl
 |false=>
  cases b2 with
  |true=>
   rw[if_pos (by simp)]
   simp only[Ww,N10,W1,Q5,vZ,jZ,JL,go_sem,Wy,Tryz.f10,hlo,l1,l2,e1,e2]<;>rfl
  |false=>
   cases b3 with
   |true=>
    rw[if_pos (by simp)]
    simp only[Ww,N10,W1,Q5,vZ,jZ,JL,go_sem,Wy,Tryz.f10,hlo,l1,l2,e1,e2,e3]<;>rfl
   |false=>
    rw[if_neg (by simp)]
    cases cu with
    |true=>
     rw[if_pos (by simp)]
     simp only[Ww,N10,W1,Q5,vZ,JL1,JL,go_sem,Wy,Tryz.f10,hlo,l1,l2,e1,e2,e3,c38]<;>rfl
    |false=>
     cases sm with
     |true=>
      rw[if_pos (by simp)]
      simp only[Ww,N10,W1,Q5,vZ,JL1,JL,go_sem,Wy,Tryz.f10,hlo,l1,l2,e1,e2,e3,c38]<;>rfl
     |false=>
      rw[if_neg (by simp)]
      simp only[Ww,N10,M10,W1,vZ,JL,go_sem,Wy,Tryz.f10,hlo,l1,l2,e1,e2,e3]<;>rfl
end
def P70(x:X):Prop:=∀(dep:Int) (lo:Nat) (h:JG),0<=dep->dep<=341->lo<=h.length->E lo 70 [.agg (xC x),.v (.int .i64 (341-dep))] h=some (.v (.bool (Y4 x dep)),h)
abbrev N70(dep:Int)(kids:List X)(i:Int):Jl:=[(1,.v (.int .i64 (341-dep))),(80,.list .no (GL kids)),(81,.v (.int .i64 kids.length)),(82,.v (.int .i64 i))]
section
variable{k n d u dep:Int}{kids:List X}
theorem r70{x:X}{i:Nat}(hlo:lo<=h.length)(hl:kids.length<=100000000)(hd:0<=dep/\dep<=340)(hg:kids[i]? =some x)(hx:P70 x):
  evCode ⟨Aa,E,lo,h.length,h70⟩ JA Qx (N70 dep kids i,h++[.cells (xC (.mk k n d u kids))])=if Y4 x (dep+1)=true then some (.normal,N70 dep kids (i+1:Nat),h++[.cells (xC (.mk k n d u kids))])else some (.ret,[(4,.v (.bool false))],h++[.cells (xC (.mk k n d u kids)),.cells (xC x)]):=by
 have l1:lo<=h.length+1:=om;have l2:lo<=h.length+1+1:=om;have hlt:i<kids.length:=(Ab.1 hg).1
 have hgr:(GL kids)[i]? =some (xC x):=by rw[zB,hg]<;>rfl
 have q1:decide ((i:Int)<(kids.length:Int))=true:=by rw[decide_eq_true_iff];omega
 have t1:Bw (i:Int)=i:=om;have hw:=JM (i:=i) om;have hw2:Am.wrap (341-dep-1)=341-(dep+1):=by rw[JW om om];omega
 have c:=λlo h hlo=>hx (dep+1) lo h om om hlo
 obtain⟨xk,xn,xd,xu,xl⟩:=x;generalize Y4 (.mk xk xn xd xu xl) (dep+1)=b at c⊢;simp only[JR]at hgr c⊢
 cases b with
 |true=>
  rw[if_pos rfl]
  simp only[N70,go_sem,Qx,Ym,Tryz.f70,hlo,l1,l2,q1,hgr,t1,hw,hw2,c]<;>rfl
 |false=>
  rw[if_neg (by simp)]
  simp only[N70,go_sem,Qx,Ym,Tryz.f70,hlo,l1,l2,q1,hgr,t1,hw,hw2,c]<;>rfl
theorem s70(hlo:lo<=h.length):
  evCode ⟨Aa,E,lo,h.length,h70⟩ JA Qx (N70 dep kids (kids.length:Nat),h++[.cells (xC (.mk k n d u kids))])=some (.exit 0,N70 dep kids (kids.length:Nat)++[(83,.v (.bool false))],h++[.cells (xC (.mk k n d u kids))]):=by
 have q1:decide ((kids.length:Int)<(kids.length:Int))=false:=by rw[decide_eq_false_iff_not];omega
 simp only[N70,JR,go_sem,Qx,Ym,Tryz.f70,hlo,q1]<;>rfl
theorem JU3(hlo:lo<=h.length)(hl:kids.length<=100000000)(hd:0<=dep/\dep<=340)(hk:∀x∈kids,P70 x):∀(m i:Nat),i+m=kids.length->
  if HA (kids.drop i) (dep+1)=true then JA (evCode ⟨Aa,E,lo,h.length,h70⟩ JA Qx) (N70 dep kids i,h++[.cells (xC (.mk k n d u kids))])=some (.exit 0,N70 dep kids (kids.length:Nat)++[(83,.v (.bool false))],h++[.cells (xC (.mk k n d u kids))])
  else∃x,JA (evCode ⟨Aa,E,lo,h.length,h70⟩ JA Qx) (N70 dep kids i,h++[.cells (xC (.mk k n d u kids))])=some (.ret,[(4,.v (.bool false))],h++[.cells (xC (.mk k n d u kids)),.cells (xC x)])
 |0,i,hm=>by
  obtain rfl:i=kids.length:=om
  rw[A0,HA,if_pos rfl,JB,s70 hlo,Jx]
 |m+1,i,hm=>by
  have hlt:i<kids.length:=om;have hg:=Ac hlt
  have ih:=JU3 hlo hl hd hk m (i+1) om;have hr:=r70 (k:=k) (n:=n) (d:=d) (u:=u) (lo:=lo) (h:=h) hlo hl hd hg (hk _ (AW hlt));rw[JC6 hg]
  cases hb:Y4 kids[i] (dep+1)with
  |false=>
   rw[hb,if_neg (by simp)]at hr
   rw[As,if_neg (by simp)]
   exact⟨_,by rw[JB,hr,Kh]⟩
  |true=>
   rw[hb,if_pos rfl]at hr;rw[Aw]
   have e:JA (evCode ⟨Aa,E,lo,h.length,h70⟩ JA Qx) (N70 dep kids i,h++[.cells (xC (.mk k n d u kids))])=JA (evCode ⟨Aa,E,lo,h.length,h70⟩ JA Qx) (N70 dep kids (i+1:Nat),h++[.cells (xC (.mk k n d u kids))]):=by conv=>lhs;rw[JB,hr,JO]
   rw[e];exact ih
theorem Jsa(hlo:lo<=h.length)(hl:kids.length<=100000000)(hd0:0<=dep)(hd1:dep<=340)(hk:∀x∈kids,P70 x)(hr:2<=k/\k<=8):
  E lo 70 [.agg (xC (.mk k 0 0 0 kids)),.v (.int .i64 (341-dep))] h=some (.v (.bool (GG k kids.length&&HA kids (dep+1))),h):=by
 have l1:lo<=h.length+1:=om;have e:=Gs 0 0 0 0;have z0:((0:Int)==0&&(0:Int)==0)=true:=rfl;have z1:((0:Int) !=0)=false:=rfl;rw[z0]at e;have q0:((341-dep:Int)==0)=false:=by rw[beq_eq_false_iff_ne];omega
 have hL:=JU3 (k:=k) (n:=0) (d:=0) (u:=0) (dep:=dep) (h:=h) hlo hl ⟨hd0,hd1⟩ hk kids.length 0 om;rw[AD]at hL;simp only[show((0:Nat):Int)=0 from rfl]at hL
 have xl:=Ji kids;rw[e70];unfold GG;simp only[JR,N70]at hL⊢;generalize HA kids (dep+1)=mb at hL⊢;generalize GL kids=K at hL xl⊢;have h7:k=2\/k=3\/k=4\/k=5\/k=6\/k=7\/k=8:=om
 cases n0:((kids.length:Int)==0)with
 |true=>
  have nn:(kids.length:Int)=0:=by simpa using n0
  have o1:decide ((kids.length:Int)>=1)=false:=by rw[decide_eq_false_iff_not];omega
  have o2:((kids.length:Int)==1)=false:=by rw[beq_eq_false_iff_ne];omega
  have o3:((kids.length:Int)==3)=false:=by rw[beq_eq_false_iff_ne];omega
  rw[o1,o2,o3];rcases h7 with rfl|rfl|rfl|rfl|rfl|rfl|rfl
  ·have k1:decide ((2:Int)<1)=false:=rfl
   have k9:decide ((8:Int)<2)=false:=rfl;have ke:((2:Int)==1)=false:=rfl;have k3:((2:Int)==3)=false:=rfl;have k5:((2:Int)==5)=false:=rfl;have k8:((2:Int)==8)=false:=rfl;simp only[go_sem,Ym,Tryz.f70,hlo,l1,q0,k1,k9,ke,k3,k5,k8,QW,e,z1,n0,xl]<;>rfl
  ·have k1:decide ((3:Int)<1)=false:=rfl
   have k9:decide ((8:Int)<3)=false:=rfl;have ke:((3:Int)==1)=false:=rfl;have k3:((3:Int)==3)=true:=rfl;have k5:((3:Int)==5)=false:=rfl;have k8:((3:Int)==8)=false:=rfl;simp only[go_sem,Ym,Tryz.f70,hlo,l1,q0,k1,k9,ke,k3,k5,k8,QW,e,z1,n0,xl]<;>rfl
  ·have k1:decide ((4:Int)<1)=false:=rfl
   have k9:decide ((8:Int)<4)=false:=rfl;have ke:((4:Int)==1)=false:=rfl;have k3:((4:Int)==3)=false:=rfl;have k5:((4:Int)==5)=false:=rfl;have k8:((4:Int)==8)=false:=rfl;simp only[go_sem,Ym,Tryz.f70,hlo,l1,q0,k1,k9,ke,k3,k5,k8,QW,e,z1,n0,xl]<;>rfl
  ·have k1:decide ((5:Int)<1)=false:=rfl
   have k9:decide ((8:Int)<5)=false:=rfl;have ke:((5:Int)==1)=false:=rfl;have k3:((5:Int)==3)=false:=rfl;have k5:((5:Int)==5)=true:=rfl;have k8:((5:Int)==8)=false:=rfl;simp only[go_sem,Ym,Tryz.f70,hlo,l1,q0,k1,k9,ke,k3,k5,k8,QW,e,z1,n0,xl]<;>rfl
  ·have k1:decide ((6:Int)<1)=false:=rfl
   have k9:decide ((8:Int)<6)=false:=rfl;have ke:((6:Int)==1)=false:=rfl;have k3:((6:Int)==3)=false:=rfl;have k5:((6:Int)==5)=false:=rfl;have k8:((6:Int)==8)=false:=rfl;simp only[go_sem,Ym,Tryz.f70,hlo,l1,q0,k1,k9,ke,k3,k5,k8,QW,e,z1,n0,xl]<;>rfl
  ·have k1:decide ((7:Int)<1)=false:=rfl
   have k9:decide ((8:Int)<7)=false:=rfl;have ke:((7:Int)==1)=false:=rfl;have k3:((7:Int)==3)=false:=rfl;have k5:((7:Int)==5)=false:=rfl;have k8:((7:Int)==8)=false:=rfl;simp only[go_sem,Ym,Tryz.f70,hlo,l1,q0,k1,k9,ke,k3,k5,k8,QW,e,z1,n0,xl]<;>rfl
  ·have k1:decide ((8:Int)<1)=false:=rfl
   have k9:decide ((8:Int)<8)=false:=rfl;have ke:((8:Int)==1)=false:=rfl;have k3:((8:Int)==3)=false:=rfl;have k5:((8:Int)==5)=false:=rfl;have k8:((8:Int)==8)=true:=rfl
   simp only[go_sem,Ym,Tryz.f70,hlo,l1,q0,k1,k9,ke,k3,k5,k8,QW,e,z1,n0,xl]<;>rfl
 |false=>
  have nn:(kids.length:Int)≠0:=by simpa using n0
  have o1:decide ((kids.length:Int)>=1)=true:=by rw[decide_eq_true_iff];omega
  rw[o1];rcases h7 with rfl|rfl|rfl|rfl|rfl|rfl|rfl
  ·have k1:decide ((2:Int)<1)=false:=rfl
   have k9:decide ((8:Int)<2)=false:=rfl;have ke:((2:Int)==1)=false:=rfl;have k3:((2:Int)==3)=false:=rfl;have k5:((2:Int)==5)=false:=rfl;have k8:((2:Int)==8)=false:=rfl
   cases mb with
   |true=>
    rw[if_pos rfl]at hL;simp only[Qx,Ym,Tryz.f70,JK,loops,JC,N70,go_sem]at hL
    simp only[go_sem,Ym,Tryz.f70,hlo,l1,q0,k1,k9,ke,k3,k5,k8,QW,e,z1,n0,xl,hL]<;>rfl
   |false=>
    rw[if_neg (by simp)]at hL
    obtain⟨⟨xk,xn,xd,xu,xxl⟩,hL⟩:=hL;simp only[JR,Qx,Ym,Tryz.f70,JK,loops,JC,N70,go_sem]at hL;simp only[go_sem,Ym,Tryz.f70,hlo,l1,q0,k1,k9,ke,k3,k5,k8,QW,e,z1,n0,xl,hL]<;>rfl
  ·have k1:decide ((3:Int)<1)=false:=rfl
   have k9:decide ((8:Int)<3)=false:=rfl;have ke:((3:Int)==1)=false:=rfl;have k3:((3:Int)==3)=true:=rfl;have k5:((3:Int)==5)=false:=rfl;have k8:((3:Int)==8)=false:=rfl
   cases o2:((kids.length:Int)==1)with
   |false=>
    have o4:((kids.length:Int) !=1)=true:=by unfold bne;rw[o2]<;>rfl
    simp only[go_sem,Ym,Tryz.f70,hlo,l1,q0,k1,k9,ke,k3,k5,k8,QW,e,z1,n0,xl,o4]<;>rfl
   |true=>
    have o4:((kids.length:Int) !=1)=false:=by unfold bne;rw[o2]<;>rfl
    cases mb with
    |true=>
     rw[if_pos rfl]at hL;simp only[Qx,Ym,Tryz.f70,JK,loops,JC,N70,go_sem]at hL
     simp only[go_sem,Ym,Tryz.f70,hlo,l1,q0,k1,k9,ke,k3,k5,k8,QW,e,z1,n0,xl,o4,hL]<;>rfl
    |false=>
     rw[if_neg (by simp)]at hL
     obtain⟨⟨xk,xn,xd,xu,xxl⟩,hL⟩:=hL;simp only[JR,Qx,Ym,Tryz.f70,JK,loops,JC,N70,go_sem]at hL;simp only[go_sem,Ym,Tryz.f70,hlo,l1,q0,k1,k9,ke,k3,k5,k8,QW,e,z1,n0,xl,o4,hL]<;>rfl
  ·have k1:decide ((4:Int)<1)=false:=rfl
   have k9:decide ((8:Int)<4)=false:=rfl;have ke:((4:Int)==1)=false:=rfl;have k3:((4:Int)==3)=false:=rfl;have k5:((4:Int)==5)=false:=rfl;have k8:((4:Int)==8)=false:=rfl
   cases mb with
   |true=>
    rw[if_pos rfl]at hL;simp only[Qx,Ym,Tryz.f70,JK,loops,JC,N70,go_sem]at hL
    simp only[go_sem,Ym,Tryz.f70,hlo,l1,q0,k1,k9,ke,k3,k5,k8,QW,e,z1,n0,xl,hL]<;>rfl
   |false=>
    rw[if_neg (by simp)]at hL
    obtain⟨⟨xk,xn,xd,xu,xxl⟩,hL⟩:=hL;simp only[JR,Qx,Ym,Tryz.f70,JK,loops,JC,N70,go_sem]at hL;simp only[go_sem,Ym,Tryz.f70,hlo,l1,q0,k1,k9,ke,k3,k5,k8,QW,e,z1,n0,xl,hL]<;>rfl
  ·have k1:decide ((5:Int)<1)=false:=rfl
   have k9:decide ((8:Int)<5)=false:=rfl;have ke:((5:Int)==1)=false:=rfl;have k3:((5:Int)==3)=false:=rfl;have k5:((5:Int)==5)=true:=rfl;have k8:((5:Int)==8)=false:=rfl
   cases o2:((kids.length:Int)==1)with
   |false=>
    have o4:((kids.length:Int) !=1)=true:=by unfold bne;rw[o2]<;>rfl
    simp only[go_sem,Ym,Tryz.f70,hlo,l1,q0,k1,k9,ke,k3,k5,k8,QW,e,z1,n0,xl,o4]<;>rfl
   |true=>
    have o4:((kids.length:Int) !=1)=false:=by unfold bne;rw[o2]<;>rfl
    cases mb with
    |true=>
     rw[if_pos rfl]at hL;simp only[Qx,Ym,Tryz.f70,JK,loops,JC,N70,go_sem]at hL
     simp only[go_sem,Ym,Tryz.f70,hlo,l1,q0,k1,k9,ke,k3,k5,k8,QW,e,z1,n0,xl,o4,hL]<;>rfl
    |false=>
     rw[if_neg (by simp)]at hL
     obtain⟨⟨xk,xn,xd,xu,xxl⟩,hL⟩:=hL;simp only[JR,Qx,Ym,Tryz.f70,JK,loops,JC,N70,go_sem]at hL;simp only[go_sem,Ym,Tryz.f70,hlo,l1,q0,k1,k9,ke,k3,k5,k8,QW,e,z1,n0,xl,o4,hL]<;>rfl
  ·have k1:decide ((6:Int)<1)=false:=rfl
   have k9:decide ((8:Int)<6)=false:=rfl;have ke:((6:Int)==1)=false:=rfl;have k3:((6:Int)==3)=false:=rfl;have k5:((6:Int)==5)=false:=rfl;have k8:((6:Int)==8)=false:=rfl
   cases mb with
   |true=>
    rw[if_pos rfl]at hL;simp only[Qx,Ym,Tryz.f70,JK,loops,JC,N70,go_sem]at hL
    simp only[go_sem,Ym,Tryz.f70,hlo,l1,q0,k1,k9,ke,k3,k5,k8,QW,e,z1,n0,xl,hL]<;>rfl
   |false=>
    rw[if_neg (by simp)]at hL
    obtain⟨⟨xk,xn,xd,xu,xxl⟩,hL⟩:=hL;simp only[JR,Qx,Ym,Tryz.f70,JK,loops,JC,N70,go_sem]at hL;simp only[go_sem,Ym,Tryz.f70,hlo,l1,q0,k1,k9,ke,k3,k5,k8,QW,e,z1,n0,xl,hL]<;>rfl
  ·have k1:decide ((7:Int)<1)=false:=rfl
   have k9:decide ((8:Int)<7)=false:=rfl;have ke:((7:Int)==1)=false:=rfl;have k3:((7:Int)==3)=false:=rfl;have k5:((7:Int)==5)=false:=rfl;have k8:((7:Int)==8)=false:=rfl
   cases mb with
   |true=>
    rw[if_pos rfl]at hL;simp only[Qx,Ym,Tryz.f70,JK,loops,JC,N70,go_sem]at hL
    simp only[go_sem,Ym,Tryz.f70,hlo,l1,q0,k1,k9,ke,k3,k5,k8,QW,e,z1,n0,xl,hL]<;>rfl
   |false=>
    rw[if_neg (by simp)]at hL
    obtain⟨⟨xk,xn,xd,xu,xxl⟩,hL⟩:=hL;simp only[JR,Qx,Ym,Tryz.f70,JK,loops,JC,N70,go_sem]at hL;simp only[go_sem,Ym,Tryz.f70,hlo,l1,q0,k1,k9,ke,k3,k5,k8,QW,e,z1,n0,xl,hL]<;>rfl
  ·have k1:decide ((8:Int)<1)=false:=rfl
   have k9:decide ((8:Int)<8)=false:=rfl;have ke:((8:Int)==1)=false:=rfl;have k3:((8:Int)==3)=false:=rfl;have k5:((8:Int)==5)=false:=rfl;have k8:((8:Int)==8)=true:=rfl
   cases o2:((kids.length:Int)==3)with
   |false=>
    have o4:((kids.length:Int) !=3)=true:=by unfold bne;rw[o2]<;>rfl
    simp only[go_sem,Ym,Tryz.f70,hlo,l1,q0,k1,k9,ke,k3,k5,k8,QW,e,z1,n0,xl,o4]<;>rfl
   |true=>
    have o4:((kids.length:Int) !=3)=false:=by unfold bne;rw[o2]<;>rfl
    cases mb with
    |true=>
     rw[if_pos rfl]at hL;simp only[Qx,Ym,Tryz.f70,JK,loops,JC,N70,go_sem]at hL
     simp only[go_sem,Ym,Tryz.f70,hlo,l1,q0,k1,k9,ke,k3,k5,k8,QW,e,z1,n0,xl,o4,hL]<;>rfl
    |false=>
     rw[if_neg (by simp)]at hL
     obtain⟨⟨xk,xn,xd,xu,xxl⟩,hL⟩:=hL;simp only[JR,Qx,Ym,Tryz.f70,JK,loops,JC,N70,go_sem]at hL;simp only[go_sem,Ym,Tryz.f70,hlo,l1,q0,k1,k9,ke,k3,k5,k8,QW,e,z1,n0,xl,o4,hL]<;>rfl
theorem Jsb(hl:kids.length<=100000000)(hn:(-9223372036854775808<=n/\n<=9223372036854775807)/\d<=9223372036854775807)(hk:∀x∈kids,P70 x):P70 (.mk k n d u kids):=by
 intro dep lo h hd0 hd1 hlo;have l1:lo<=h.length+1:=om;rw[JJ1];by_cases hd:dep>340
 ·obtain rfl:dep=341:=om
  have q0:((341-341:Int)==0)=true:=rfl;have q0':((0:Int)==0)=true:=rfl;rw[if_pos hd,e70,JR];simp only[go_sem,Ym,Tryz.f70,hlo,l1,q0,q0']<;>rfl
 have q0:((341-dep:Int)==0)=false:=by rw[beq_eq_false_iff_ne];omega
 rw[if_neg hd];by_cases hk1:k<1
 ·have d1:decide (k<1)=true:=by rw[decide_eq_true_iff];exact hk1
  have a1:(k==1)=false:=by rw[beq_eq_false_iff_ne];omega
  have a2:GG k kids.length=false:=by unfold GG;rw[if_neg (by simp;omega),if_neg (by simp;omega),if_neg (by simp;omega)]
  rw[a1,if_neg (by simp),a2,As,e70,JR]
  simp only[go_sem,Ym,Tryz.f70,hlo,l1,q0,d1,ite_self]<;>rfl
 have d1:decide (k<1)=false:=by rw[decide_eq_false_iff_not];exact hk1
 by_cases hk8:8<k
 ·have d8:decide (8<k)=true:=by rw[decide_eq_true_iff];exact hk8
  have a1:(k==1)=false:=by rw[beq_eq_false_iff_ne];omega
  have a2:GG k kids.length=false:=by unfold GG;rw[if_neg (by simp;omega),if_neg (by simp;omega),if_neg (by simp;omega)]
  rw[a1,if_neg (by simp),a2,As,e70,JR]
  simp only[go_sem,Ym,Tryz.f70,hlo,l1,q0,d1,d8,ite_self]<;>rfl
 have d8:decide (8<k)=false:=by rw[decide_eq_false_iff_not];exact hk8
 cases h1:k==1 with
 |true=>
  rw[if_pos rfl];have hz:(((kids.length:Nat):Int)==0)=(kids.length==0):=by rw[BO,beq_iff_eq,beq_iff_eq];omega
  have c101:=λlo h hlo=>f101 (lo:=lo) (h:=h) hn.1.1 hn.1.2 hn.2 hlo
  rw[e70,JR]
  cases q1:kids.length==0 with
  |false=>
   rw[q1]at hz
   simp only[go_sem,Ym,Tryz.f70,hlo,l1,q0,d1,d8,h1,Ji,hz,As]<;>rfl
  |true=>
   rw[q1]at hz
   cases q2:Spell.y0 n d with
   |false=>
    rw[q2]at c101
    simp only[go_sem,Ym,Tryz.f70,hlo,l1,q0,d1,d8,h1,Ji,hz,c101,As,Aw]<;>rfl
   |true=>
    rw[q2]at c101
    cases q3:decide (u>=0)with
    |false=>
     have q3':decide (0<=u)=false:=q3
     simp only[go_sem,Ym,Tryz.f70,hlo,l1,q0,d1,d8,h1,Ji,hz,c101,q3',As,Aw]<;>rfl
    |true=>
     have q3':decide (0<=u)=true:=q3
     simp only[go_sem,Ym,Tryz.f70,hlo,l1,q0,d1,d8,h1,Ji,hz,c101,q3',As,Aw]<;>rfl
 |false=>
  rw[if_neg (by simp)]
  have e:=Gs n d 0 0
  cases q1:(n==0&&d==0)with
  |false=>
   rw[q1]at e;rw[if_pos (by simp),e70,JR]
   simp only[go_sem,Ym,Tryz.f70,hlo,l1,q0,d1,d8,h1,Ji,QW,e,A5]<;>rfl
  |true=>
   cases q2:u !=0 with
   |true=>
    rw[q1]at e;rw[if_pos (by simp),e70,JR]
    simp only[go_sem,Ym,Tryz.f70,hlo,l1,q0,d1,d8,h1,Ji,QW,e,q2,AN]<;>rfl
   |false=>
    rw[if_neg (by simp)]
    simp only[Af,beq_iff_eq]at q1;obtain⟨rfl,rfl⟩:=q1;obtain rfl:u=0:=by simpa using q2
    have:k≠1:=by simpa using h1
    exact Jsa hlo hl hd0 om hk ⟨om,om⟩
end
mutual
theorem Jku:∀(x:X),Yn x->P70 x
 | .mk k n d u kids,h=>by rw[Yn]at h;exact Jsb h.2.1 h.1 (Jkv kids h.2.2)
theorem Jkv:∀(l:List X),Q3 l->∀x∈l,P70 x
 |[],_=>λx hx=>nomatch hx
 |y::r,h=>by rw[Q3]at h;exact CW.2 ⟨Jku y h.1,Jkv r h.2⟩
end
theorem f41{x:X}(hlo:lo<=h.length)(hx:Yn x):E lo 41 [.agg (xC x)] h=some (.v (.bool (Y4 x 1)),h):=by
 have l1:lo<=h.length+1:=om;have c70:∀lo h,lo<=h.length->E lo 70 [.agg (xC x),.v (.int .i64 340)] h=some (.v (.bool (Y4 x 1)),h):=λlo h hlo=>Jku x hx 1 lo h om om hlo
 obtain⟨k,n,d,u,l⟩:=x;rw[JR]at c70;rw[e41,JR];simp only[go_sem,b41,Tryz.f41,hlo,l1,c70]<;>rfl
def P39(x:X):Prop:=∀(lo:Nat) (h:JG),lo<=h.length->E lo 43 [.agg (xC x),.agg (xC x)] h=some (.v (.bool true),h)
abbrev N39(h:JG)(m i:Int):Jl:=[(2,.ptr h.length 0),(3,.ptr (h.length+1) 0),(36,.v (.int .i64 m)),(37,.v (.int .i64 i))]
section
variable{k n d u:Int}{kids:List X}
theorem r43{x:X}{i:Nat}(hlo:lo<=h.length)(hl:kids.length<=100000000)(hg:kids[i]? =some x)(hx:P39 x):
  evCode ⟨Aa,E,lo,h.length,h43⟩ JA JGs (N39 h kids.length i,h++[.cells (xC (.mk k n d u kids)),.cells (xC (.mk k n d u kids))])=some (.normal,N39 h kids.length (i+1:Nat),h++[.cells (xC (.mk k n d u kids)),.cells (xC (.mk k n d u kids))]):=by
 have l1:lo<=h.length+1:=om;have l2:lo<=h.length+1+1:=om;have hlt:i<kids.length:=(Ab.1 hg).1
 have hgr:(GL kids)[i]? =some (xC x):=by rw[zB,hg]<;>rfl
 have q1:decide ((i:Int)<(kids.length:Int))=true:=by rw[decide_eq_true_iff];omega
 have t1:Bw (i:Int)=i:=om;have hwr:=JM (i:=i) om;unfold P39 at hx;obtain⟨ek,en,ed,eu,el⟩:=x;simp only[JR]at hx hgr⊢;simp only[N39,go_sem,JGs,b43,Tryz.f43,hlo,l1,l2,hgr,q1,t1,hwr,hx,AN]<;>rfl
theorem Jsc(hlo:lo<=h.length):
  evCode ⟨Aa,E,lo,h.length,h43⟩ JA JGs (N39 h kids.length (kids.length:Nat),h++[.cells (xC (.mk k n d u kids)),.cells (xC (.mk k n d u kids))])=some (.exit 0,N39 h kids.length (kids.length:Nat)++[(38,.v (.bool false))],h++[.cells (xC (.mk k n d u kids)),.cells (xC (.mk k n d u kids))]):=by
 have l1:lo<=h.length+1:=om;have q1:decide ((kids.length:Int)<(kids.length:Int))=false:=by rw[decide_eq_false_iff_not];omega
 simp only[N39,JR,go_sem,JGs,b43,Tryz.f43,hlo,l1,q1]<;>rfl
theorem JU4(hlo:lo<=h.length)(hl:kids.length<=100000000)(hk:∀x∈kids,P39 x):∀m i:Nat,i+m=kids.length->
  JA (evCode ⟨Aa,E,lo,h.length,h43⟩ JA JGs) (N39 h kids.length i,h++[.cells (xC (.mk k n d u kids)),.cells (xC (.mk k n d u kids))])=some (.exit 0,N39 h kids.length (kids.length:Nat)++[(38,.v (.bool false))],h++[.cells (xC (.mk k n d u kids)),.cells (xC (.mk k n d u kids))])
 |0,i,hm=>by
  obtain rfl:i=kids.length:=om
  rw[JB,Jsc hlo,Jx]
 |m+1,i,hm=>by
  have hlt:i<kids.length:=om;rw[JB,r43 hlo hl (Ac hlt) (hk _ (AW hlt)),JO]
  exact JU4 hlo hl hk m (i+1) om
theorem Jsd(hl:kids.length<=100000000)(hk:∀x∈kids,P39 x):P39 (.mk k n d u kids):=by
 intro lo h hlo;have l1:lo<=h.length+1:=om;have l2:lo<=h.length+1+1:=om;have hL:=JU4 (k:=k) (n:=n) (d:=d) (u:=u) (lo:=lo) (h:=h) hlo hl hk kids.length 0 om;have e:=Gs n d n d;have z1:(n==n&&d==d)=true:=by simp
 have z2:(k !=k)=false:=by simp
 have z3:(u !=u)=false:=by simp
 have z4:((kids.length:Int) !=(kids.length:Int))=false:=by simp
 rw[z1]at e;rw[e43,JR];simp only[JGs,b43,Tryz.f43,JK,loops,JC,N39,JR,show((0:Nat):Int)=0 from rfl,go_sem]at hL
 simp only[go_sem,b43,Tryz.f43,hlo,l1,l2,Ji,QW,e,z2,z3,z4,hL,AN]<;>rfl
end
mutual
theorem Jkw:∀(x:X),Yn x->P39 x
 | .mk k n d u kids,h=>by rw[Yn]at h;exact Jsd h.2.1 (Jkx kids h.2.2)
theorem Jkx:∀(l:List X),Q3 l->∀x∈l,P39 x
 |[],_=>λx hx=>nomatch hx
 |y::r,h=>by rw[Q3]at h;exact CW.2 ⟨Jkw y h.1,Jkx r h.2⟩
end
def kX(j:Int):List X->Int
 |[]=>0
 |x::r=>(if(QS x==j)=true then 1 else 0)+kX j r
theorem zP(j:Int):∀l:List X,0<=kX j l/\kX j l<=l.length
 |[]=>by simp[kX]
 |x::r=>by
  have:=zP j r;rw[kX,Ae]
  split<;>omega
theorem JPY:∀l:List X,kX 0 l+kX 1 l+kX 2 l=l.length
 |[]=>rfl
 |x::r=>by have:=JPY r;rw[kX,kX,kX,Ae];rcases zA x with h|h|h<;>rw[h]<;>simp<;>omega
theorem JKK:∀(l:List X) (c:Int),Ht l c=if kX 0 l=0 then some (c+kX 2 l)else none
 |[],c=>by rw[Ht];simp[kX]
 |x::r,c=>by
  have h0:=zP 0 r;rw[Ht,kX,kX];have a0:((0:Int)==0)=true:=rfl;have a2:((0:Int)==2)=false:=rfl;have b0:((1:Int)==0)=false:=rfl;have b2:((1:Int)==2)=false:=rfl;have c0:((2:Int)==0)=false:=rfl;have c2:((2:Int)==2)=true:=rfl;rcases zA x with h|h|h
  ·rw[h]
   simp only[a0,a2,if_true];rw[if_neg om]
  ·rw[h]
   simp only[b0,b2,Al,if_false,D7];exact JKK r c
  ·rw[h]
   simp only[c0,c2,Al,if_false,if_true,D7];rw[JKK r (c+1),Int.add_assoc]
def P20(x:X):Prop:=∀(lo:Nat) (h:JG),lo<=h.length->E lo 42 [.agg (xC x)] h=some (.v (.int .i64 (QS x)),h)
abbrev N20(h:JG)(kids:List X)(i:Int):Jl:=[(1,.ptr h.length 0),(3,.ptr (h.length+1) 0),(15,.list .no (GL kids)),(16,.v (.int .i64 kids.length)),(17,.v (.int .i64 i))]
abbrev C20(a b c:Int):Ob:= .cells [.v (.int .i64 a),.v (.int .i64 b),.v (.int .i64 c)]
section
variable{k n d u:Int}{kids:List X}
theorem r42{x:X}{i:Nat}{a b c:Int}(hlo:lo<=h.length)(hl:kids.length<=100000000)(hc:(0<=a/\a<=1000000000)/\(0<=b/\b<=1000000000)/\(0<=c/\c<=1000000000))(hg:kids[i]? =some x)(hx:P20 x):
  evCode ⟨Aa,E,lo,h.length,h42⟩ JA JAp (N20 h kids i,h++[.cells (xC (.mk k n d u kids)),C20 a b c])=
   some (.normal,N20 h kids (i+1:Nat),h++[.cells (xC (.mk k n d u kids)),C20 (if(QS x==0)=true then a+1 else a) (if(QS x==1)=true then b+1 else b) (if(QS x==2)=true then c+1 else c)]):=by
 have l1:lo<=h.length+1:=om;have l2:lo<=h.length+1+1:=om;have l3:lo<=h.length+3:=om;have hlt:i<kids.length:=(Ab.1 hg).1
 have hgr:(GL kids)[i]? =some (xC x):=by rw[zB,hg]<;>rfl
 have q1:decide ((i:Int)<(kids.length:Int))=true:=by rw[decide_eq_true_iff];omega
 have t1:Bw (i:Int)=i:=om;have hwr:=JM (i:=i) om;have wa:Am.wrap (a+1)=a+1:=JW om om;have wb:Am.wrap (b+1)=b+1:=JW om om;have wc:Am.wrap (c+1)=c+1:=JW om om;have i0:((0:Int)<((3:Nat):Int))=True:=by simp
 have i1:((1:Int)<((3:Nat):Int))=True:=by simp
 have i2:((2:Int)<((3:Nat):Int))=True:=by simp
 have p1:((0:Int)<=1)=True:=by simp
 have p2:((0:Int)<=2)=True:=by simp
 have p0:((0:Int)<=0)=True:=by simp
 unfold P20 at hx;have hK:=zA x;generalize QS x=K at hx hK⊢;obtain⟨ek,en,ed,eu,el⟩:=x;simp only[JR]at hx hgr⊢;rcases hK with rfl|rfl|rfl
 ·rw[if_pos (by rfl),if_neg (by decide),if_neg (by decide)]
  simp only[N20,C20,go_sem,JAp,b42,Tryz.f42,hlo,l1,l2,l3,hgr,q1,t1,hwr,wa,hx,i0,p0]<;>rfl
 ·rw[if_neg (by decide),if_pos (by rfl),if_neg (by decide)]
  simp only[N20,C20,go_sem,JAp,b42,Tryz.f42,hlo,l1,l2,l3,hgr,q1,t1,hwr,wb,hx,i1,p1]<;>rfl
 ·rw[if_neg (by decide),if_neg (by decide),if_pos (by rfl)]
  simp only[N20,C20,go_sem,JAp,b42,Tryz.f42,hlo,l1,l2,l3,hgr,q1,t1,hwr,wc,hx,i2,p2]<;>rfl
theorem s20{a b c:Int}(hlo:lo<=h.length):
  evCode ⟨Aa,E,lo,h.length,h42⟩ JA JAp (N20 h kids (kids.length:Nat),h++[.cells (xC (.mk k n d u kids)),C20 a b c])=some (.exit 0,N20 h kids (kids.length:Nat)++[(18,.v (.bool false))],h++[.cells (xC (.mk k n d u kids)),C20 a b c]):=by
 have l1:lo<=h.length+1:=om;have q1:decide ((kids.length:Int)<(kids.length:Int))=false:=by rw[decide_eq_false_iff_not];omega
 simp only[N20,C20,JR,go_sem,JAp,b42,Tryz.f42,hlo,l1,q1]<;>rfl
theorem JU7(hlo:lo<=h.length)(hl:kids.length<=100000000)(hk:∀x∈kids,P20 x):∀(m i:Nat) (a b c:Int),i+m=kids.length->(0<=a/\a+m<=1000000000)->(0<=b/\b+m<=1000000000)->(0<=c/\c+m<=1000000000)->
  JA (evCode ⟨Aa,E,lo,h.length,h42⟩ JA JAp) (N20 h kids i,h++[.cells (xC (.mk k n d u kids)),C20 a b c])=
   some (.exit 0,N20 h kids (kids.length:Nat)++[(18,.v (.bool false))],h++[.cells (xC (.mk k n d u kids)),C20 (a+kX 0 (kids.drop i)) (b+kX 1 (kids.drop i)) (c+kX 2 (kids.drop i))])
 |0,i,a,b,c,hm,h1,h2,h3=>by
  obtain rfl:i=kids.length:=om
  rw[JB,s20 hlo,Jx,A0,kX,kX,kX,D6,D6,D6]
 |m+1,i,a,b,c,hm,h1,h2,h3=>by
  have hlt:i<kids.length:=om;rw[JB,r42 hlo hl ⟨⟨h1.1,om⟩,⟨h2.1,om⟩,h3.1,om⟩ (Ac hlt) (hk _ (AW hlt)),JO]
  rw[JU7 hlo hl hk m (i+1) _ _ _ om (by split<;>omega) (by split<;>omega) (by split<;>omega),Av hlt,kX,kX,kX]
  have e:∀(q:Bool) (a z:Int),(if q=true then a+1 else a)+z=a+((if q=true then 1 else 0)+z):=λq a z=>by cases q<;>simp<;>omega
  rw[e,e,e]
def JeP(k:Int)(n:Nat)(c0 c1 c2:Int):Int:=
 if decide (c0>0)=true then 0
 else if(k==4&&c2==1)=true then 2
 else if(c1==(n:Int))=true then 1
 else if(c2==(n:Int)&&(!(k==4)&& !(k==5)))=true then 2
 else 0
theorem JYC(hk1:(k==1)=false):JeP k kids.length (kX 0 kids) (kX 1 kids) (kX 2 kids)=QS (.mk k n d u kids):=by
 rw[zC,if_neg (by rw[hk1];simp)]
 have h0:=zP 0 kids;have h1:=zP 1 kids;have h2:=zP 2 kids;have ha:=JPY kids;rw[JKK];unfold JeP;generalize kX 0 kids=a at*;generalize kX 1 kids=b at*;generalize kX 2 kids=c at*;by_cases z0:a=0
 ·subst z0
  rw[if_pos rfl,if_neg (by simp)]
  simp only[D7];by_cases z2:c=0
  ·subst z2
   rw[if_neg (by simp),if_pos (by rw[beq_iff_eq];omega),if_pos (by rfl)]
  ·rw[if_neg (show¬((c==0)=true)by simpa using z2)]
   by_cases k4:k=4
   ·subst k4
    by_cases c1:c=1
    ·subst c1;rw[if_pos (by rfl),if_pos (by rfl)]
    ·rw[if_neg (by simp[c1]),if_neg (by rw[beq_iff_eq];omega),if_neg (by simp),if_neg (by simp[c1])]
   ·have e4:(k==4)=false:=by simpa using k4
    rw[if_neg (by rw[e4];simp),if_neg (by rw[beq_iff_eq];omega)]
    have n4:(k !=4)=true:=by simpa using k4
    by_cases k5:k=5
    ·subst k5;rw[if_neg (by simp),if_neg (by simp)]
    ·have e5:(k==5)=false:=by simpa using k5
     have n5:(k !=5)=true:=by simpa using k5
     rw[e4,e5,n4,n5];simp
 ·rw[if_neg z0,if_pos (by rw[decide_eq_true_iff];omega)]
theorem Jse(hl:kids.length<=100000000)(hk:∀x∈kids,P20 x):P20 (.mk k n d u kids):=by
 intro lo h hlo;have l1:lo<=h.length+1:=om;have l2:lo<=h.length+1+1:=om;rw[e42]
 cases h1:k==1 with
 |true=>
  rw[zC,if_pos h1]
  cases h2:u==0 with
  |true=>
   rw[if_pos rfl,JR]
   simp only[go_sem,b42,Tryz.f42,hlo,l1,h1,h2]<;>rfl
  |false=>
   rw[if_neg (by simp),JR]
   simp only[go_sem,b42,Tryz.f42,hlo,l1,h1,h2]<;>rfl
 |false=>
  rw[<-JYC h1];have hL:=JU7 (k:=k) (n:=n) (d:=d) (u:=u) (lo:=lo) (h:=h) hlo hl hk kids.length 0 0 0 0 om om om om;rw[AD]at hL;simp only[show((0:Nat):Int)=0 from rfl,D7]at hL
  generalize kX 0 kids=A at hL⊢;generalize kX 1 kids=B at hL⊢;generalize kX 2 kids=C at hL⊢;have i0:((0:Int)<((3:Nat):Int))=True:=by simp
  have i1:((1:Int)<((3:Nat):Int))=True:=by simp
  have i2:((2:Int)<((3:Nat):Int))=True:=by simp
  have p1:((0:Int)<=1)=True:=by simp
  have p2:((0:Int)<=2)=True:=by simp
  have p0:((0:Int)<=0)=True:=by simp
  have n4:(k !=4)= !(k==4):=rfl;have n5:(k !=5)= !(k==5):=rfl;simp only[JAp,b42,Tryz.f42,JK,loops,JC,N20,C20,JR,go_sem]at hL;unfold JeP;simp only[JR]
  cases qa:decide (A>0)with
  |true=>
   have qa':decide (0<A)=true:=qa;rw[if_pos rfl]
   simp only[go_sem,b42,Tryz.f42,hlo,l1,l2,h1,Ji,hL,qa',i0,p0]<;>rfl
  |false=>
   have qa':decide (0<A)=false:=qa;rw[if_neg (by simp)]
   cases q4:k==4 with
   |true=>
    rw[q4]at n4
    cases qc:C==1 with
    |true=>
     rw[if_pos (by simp)]
     simp only[go_sem,b42,Tryz.f42,hlo,l1,l2,h1,Ji,hL,qa',q4,qc,i0,p0,i1,p1,i2,p2]<;>rfl
    |false=>
     rw[if_neg (by simp)]
     cases qb:B==(kids.length:Int)with
     |true=>
      rw[if_pos rfl]
      simp only[go_sem,b42,Tryz.f42,hlo,l1,l2,h1,Ji,hL,qa',q4,qc,qb,i0,p0,i1,p1,i2,p2]<;>rfl
     |false=>
      rw[if_neg (by simp),if_neg (by simp)]
      cases qn:C==(kids.length:Int)with
      |true=>simp only[go_sem,b42,Tryz.f42,hlo,l1,l2,h1,Ji,hL,qa',q4,qc,qb,qn,n4,i0,p0,i1,p1,i2,p2,AN]<;>rfl
      |false=>simp only[go_sem,b42,Tryz.f42,hlo,l1,l2,h1,Ji,hL,qa',q4,qc,qb,qn,n4,i0,p0,i1,p1,i2,p2,AN]<;>rfl
   |false=>
    rw[q4]at n4;rw[if_neg (by simp)]
    cases qb:B==(kids.length:Int)with
    |true=>
     rw[if_pos rfl]
     simp only[go_sem,b42,Tryz.f42,hlo,l1,l2,h1,Ji,hL,qa',q4,qb,i0,p0,i1,p1,i2,p2]<;>rfl
    |false=>
     rw[if_neg (by simp)]
     cases qn:C==(kids.length:Int)with
     |false=>
      rw[if_neg (by simp)]
      simp only[go_sem,b42,Tryz.f42,hlo,l1,l2,h1,Ji,hL,qa',q4,qb,qn,n4,i0,p0,i1,p1,i2,p2,A5]<;>rfl
     |true=>
      cases q5:k==5 with
      |true=>
       rw[q5]at n5;rw[if_neg (by simp)]
       simp only[go_sem,b42,Tryz.f42,hlo,l1,l2,h1,Ji,hL,qa',q4,qb,qn,n4,n5,i0,p0,i1,p1,i2,p2,A5,AN]<;>rfl
      |false=>
       rw[q5]at n5;rw[if_pos (by simp)]
       simp only[go_sem,b42,Tryz.f42,hlo,l1,l2,h1,Ji,hL,qa',q4,qb,qn,n4,n5,i0,p0,i1,p1,i2,p2,A5,AN]<;>rfl
end
mutual
theorem Jky:∀(x:X),Yn x->P20 x
 | .mk k n d u kids,h=>by rw[Yn]at h;exact Jse h.2.1 (Jkz kids h.2.2)
theorem Jkz:∀(l:List X),Q3 l->∀x∈l,P20 x
 |[],_=>λx hx=>nomatch hx
 |y::r,h=>by rw[Q3]at h;exact CW.2 ⟨Jky y h.1,Jkz r h.2⟩
end
end Go.Lift.Y1
end
