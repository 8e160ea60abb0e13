/- utf.Raw, jalousieref2.Raw: bytes to characters. -/
import Derived.Test.YtppjlemmgpnliaaGreatDoorGLd
import Derived.Test.YtppjlemmgpnliaaGreatDoorGKb
import Derived.Test.YtppjlemmgpnliaaGreatDoorGKc
open Bool renaming and_eq_true->Af,and_false->BG,and_true->Cz,false_and->Aw,false_eq_true->Am,false_or->Bb,true_and->AB
open ByteArray renaming empty->AA
open Go.IntKind renaming bits->B6,i32->AF,i64->Aq,signed->BW,wrap->Ch
open Go.Proofs.Tryz renaming prog->Aa
open Int renaming reduceBEq->Ap,toNat_natCast->Cq
open List renaming all_cons->Bg,append_assoc->Ao,append_nil->Av,cons_append->Al,contains_cons->DF,drop_drop->AV,drop_eq_getElem_cons->AD,drop_length->Be,drop_nil->DN,drop_zero->Az,eq_nil_of_length_eq_zero->AC,getElem?_eq_getElem->Ac,getElem?_eq_some_iff->Ad,getElem_mem->Ba,length_append->Ah,length_cons->Ae,length_drop->Ay,length_map->Ag,length_nil->An,map_congr_left->A4,map_id->DL,map_nil->CB,mem_append->AN,mem_cons->A2,nil_append->Ai
open Nat renaming le_refl->Ab,zero_add->AE
set_option linter.unusedVariables false
set_option linter.unusedSimpArgs false
set_option linter.unusedSectionVars false
set_option maxRecDepth 20000
set_option maxHeartbeats 4000000
section
open Go.Proofs
namespace Go.Lift.M1
variable[MX]
open Utf
theorem JPk{lo:Nat}{b:List Int}{h:JC}(hn:b≠[])(hb:b.length<=140737488355328)(hy:By b):E lo 98 [.list .no (ri .u8 b)] h=some (two (one b),h):=by
 cases b with
 |nil=>exact absurd rfl hn
 |cons c t=>exact f98 hb hy
theorem JHj{lo i:Nat}{b out:List Int}{h:JC}(hi:i<b.length)(hb:b.length<=1000000000)(ho:out.length<=1000000000)(hy:By b):
  evCode ⟨Aa,E,lo,h.length,h37⟩ JA HL ([(0,.list .no (ri .u8 b)),(3,.list .yes (ri .i32 out)),(4,.v (.int .i64 i))],h)=
   some (.normal,[(0,.list .no (ri .u8 b)),(3,.list .yes (ri .i32 (out++[(one (b.drop i)).1]))),(4,.v (.int .i64 (i+(one (b.drop i)).2.1:Nat)))],h):=by
 have hd:decide ((i:Int)<b.length)=true:=by simpa using hi
 have hn:b.drop i≠[]:=by simp;omega
 have hk:=jt hn;have hw:Aq.wrap ((i:Int)+(one (b.drop i)).2.1)=((i+(one (b.drop i)).2.1:Nat):Int):=by rw[JN om om];omega
 have hr:∀k,k<=4->(out.length+k)*4<=140737488355328:=by intro k hk;omega
 have hq:∀k,9223372036854775800<=k->out.length<=k:=by intro k hk;omega
 have e1:ri .i32 (out++[(one (b.drop i)).1])=ri .i32 out++[[V.v (.int .i32 (one (b.drop i)).1)]]:=by rw[<-ri_app]<;>rfl
 simp only[go_sem,HL,b37,Tryz.f37,hd,f65 hi om hy,JCl,hr,hq,hw,e1]
theorem JMf{lo:Nat}{b:List Int}{h:JC}(hb:b.length<=1000000000)(hy:By b):∀(n i:Nat) (out:List Int),b.length-i<=n->i<=b.length->out.length<=i->
  JA (evCode ⟨Aa,E,lo,h.length,h37⟩ JA HL) ([(0,.list .no (ri .u8 b)),(3,.list .yes (ri .i32 out)),(4,.v (.int .i64 i))],h)=
   some (.exit 0,[(0,.list .no (ri .u8 b)),(3,.list .yes (ri .i32 (out++WJ (b.drop i)))),(4,.v (.int .i64 b.length)),(11,.v (.bool false))],h):=by
 have stop:∀(i:Nat) (out:List Int),i=b.length->JA (evCode ⟨Aa,E,lo,h.length,h37⟩ JA HL) ([(0,.list .no (ri .u8 b)),(3,.list .yes (ri .i32 out)),(4,.v (.int .i64 i))],h)=
   some (.exit 0,[(0,.list .no (ri .u8 b)),(3,.list .yes (ri .i32 (out++WJ (b.drop i)))),(4,.v (.int .i64 b.length)),(11,.v (.bool false))],h):=by
  intro i out hi;subst hi;have hd:decide ((b.length:Int)<b.length)=false:=by simp
  rw[loop_eq];simp only[go_sem,HL,b37,Tryz.f37,hd,Be,JA4]
 intro n
 induction n with
 |zero=>intro i out h1 h2 h3;exact stop i out om
 |succ n ih=>
  intro i out h1 h2 h3;by_cases hi:i<b.length
  ·have hn:b.drop i≠[]:=by simp;omega
   have hk:=jt hn;rw[Ay]at hk;rw[loop_eq,JHj hi hb om hy,JK,ih _ _ om om (by rw[Ah,List.length_singleton];omega),JGK hn,Ao,AV]
   rfl
  ·exact stop i out om
theorem f37{lo:Nat}{b:List Int}{h:JC}(hb:b.length<=1000000000)(hy:By b):E lo 37 [.list .no (ri .u8 b)] h=some (.list .no (ri .i32 (WJ b)),h):=by
 rw[e37];have hL:=JMf (lo:=lo) (h:=h) hb hy b.length 0 [] om om (by simp)
 simp only[HL,b37,Tryz.f37,JD,JT,JB,go_sem,Ko,Az]at hL;simp only[go_sem,b37,Tryz.f37,hL]
theorem JST{lo i:Nat}{b:List Int}{h:JC}(hi:i<b.length)(hb:b.length<=140737488355328)(hy:By b):
  evCode ⟨Aa,E,lo,h.length,JRq⟩ JA kY ([(0,.list .no (ri .u8 b)),(3,.v (.int .i64 i))],h)=
   if(one (b.drop i)).2.2=true then some (.normal,[(0,.list .no (ri .u8 b)),(3,.v (.int .i64 (i+(one (b.drop i)).2.1:Nat)))],h)
   else some (.ret,[(2,.v (.bool false))],h):=by
 have hd:decide ((i:Int)<b.length)=true:=by simpa using hi
 have hn:b.drop i≠[]:=by simp;omega
 have hk:=jt hn;have hw:Aq.wrap ((i:Int)+(one (b.drop i)).2.1)=((i+(one (b.drop i)).2.1:Nat):Int):=by rw[JN om om];omega
 cases hx:(one (b.drop i)).2.2 with
 |true=>simp only[go_sem,kY,JKL,Tryz.f112,hd,f65 hi hb hy,JCl,hw,hx]
 |false=>simp only[go_sem,kY,JKL,Tryz.f112,hd,f65 hi hb hy,JCl,hw,hx,Am]
theorem JWC{lo:Nat}{b:List Int}{h:JC}(hb:b.length<=140737488355328)(hy:By b):∀(n i:Nat),b.length-i<=n->i<=b.length->
  JA (evCode ⟨Aa,E,lo,h.length,JRq⟩ JA kY) ([(0,.list .no (ri .u8 b)),(3,.v (.int .i64 i))],h)=
   if whole (b.drop i)=true then some (.exit 0,[(0,.list .no (ri .u8 b)),(3,.v (.int .i64 b.length)),(10,.v (.bool false))],h)
   else some (.ret,[(2,.v (.bool false))],h):=by
 have stop:∀(i:Nat),i=b.length->JA (evCode ⟨Aa,E,lo,h.length,JRq⟩ JA kY) ([(0,.list .no (ri .u8 b)),(3,.v (.int .i64 i))],h)=
   if whole (b.drop i)=true then some (.exit 0,[(0,.list .no (ri .u8 b)),(3,.v (.int .i64 b.length)),(10,.v (.bool false))],h)
   else some (.ret,[(2,.v (.bool false))],h):=by
  intro i hi;subst hi;have hd:decide ((b.length:Int)<b.length)=false:=by simp
  rw[loop_eq];simp only[go_sem,kY,JKL,Tryz.f112,hd,Be,JGJ]
 intro n
 induction n with
 |zero=>intro i h1 h2;exact stop i om
 |succ n ih=>
  intro i h1 h2;by_cases hi:i<b.length
  ·have hn:b.drop i≠[]:=by simp;omega
   have hk:=jt hn;rw[Ay]at hk;rw[loop_eq,JST hi hb hy,JA6 hn,AV]
   cases hx:(one (b.drop i)).2.2 with
   |true=>rw[if_pos rfl,JK,ih _ om om,AB]
   |false=>rw[if_neg (by simp),QY]<;>rfl
  ·exact stop i om
theorem f112{lo:Nat}{b:List Int}{h:JC}(hb:b.length<=140737488355328)(hy:By b):E lo 112 [.list .no (ri .u8 b)] h=some (.v (.bool (whole b)),h):=by
 rw[JoB];have hL:=JWC (lo:=lo) (h:=h) hb hy b.length 0 om om;simp only[kY,JKL,Tryz.f112,JD,JT,JB,go_sem,Ko,Az]at hL
 cases hx:whole b with
 |true=>
  rw[if_pos hx]at hL
  simp only[go_sem,JKL,Tryz.f112,hL]
 |false=>
  rw[if_neg (by simp[hx])]at hL
  simp only[go_sem,JKL,Tryz.f112,hL]
theorem JWD{lo:Nat}{b:List Int}{h:JC}(hn:b≠[])(hb:b.length<=140737488355328)(hy:By b):
  evCode ⟨Aa,E,lo,h.length,h72⟩ JA H4 ([(0,.list .no (ri .u8 b))],h)=
   if bad b=true then some (.ret,[(2,.v (.bool false))],h)else some (.normal,[(0,.list .no (ri .u8 (b.drop (one b).2.1)))],h):=by
 have hl:0<b.length:=List.length_pos_iff.mpr hn;have hd:decide ((0:Int)<b.length)=true:=by simpa using hl
 have hk:=(jt hn).2.2;have hs:0<=((one b).2.1:Int):=om;have fin:∀{v:Bool},(bad b=v)->(v=(bad b)):=λh=>h.symm
 cases h1:(one b).1==65533 with
 |false=>
  have hv:bad b=false:=by simp[bad,h1]
  simp only[go_sem,H4,b72,Tryz.f72,hd,JPk hn hb hy,two,hs,hk,Ab,Q9,WA,Cq,and_self,h1,hv,Am]
 |true=>
  by_cases h3:(one b).2.1<3
  ·have hv:bad b=true:=by simp[bad,h1,h3]
   have h4:decide (((one b).2.1:Int)<3)=true:=by simp;omega
   simp only[go_sem,H4,b72,Tryz.f72,hd,JPk hn hb hy,two,hs,hk,Ab,Q9,WA,Cq,and_self,h1,hv,h4]
  ·have h4:decide (((one b).2.1:Int)<3)=false:=by simp;omega
   obtain⟨a1,a2,a3,t,he⟩:∃a1 a2 a3 t,b=a1::a2::a3::t:=by
    match b,hk with
    |[],hk=>simp at hk;omega
    |[_],hk=>simp at hk;omega
    |[_,_],hk=>simp at hk;omega
    |a1::a2::a3::t,_=>exact⟨_,_,_,_,rfl⟩
   have x1:b[0]? =some a1:=by rw[he]<;>rfl
   have x2:b[1]? =some a2:=by rw[he]<;>rfl
   have x3:b[2]? =some a3:=by rw[he]<;>rfl
   have hv:bad b=(a1 !=239||(a2 !=191||a3 !=189)):=by
    have ht:JB8 b=(a1==239&&(a2==191&&a3==189)):=by rw[he];simp[JB8]
    simp only[bad,h1,h3,ht,decide_false,AB,Bb,bne,Bool.not_and]
   clear he;rw[hv]
   cases g1:a1 !=239 with
   |true=>simp only[go_sem,H4,b72,Tryz.f72,hd,JPk hn hb hy,two,hs,hk,Ab,Q9,WA,Cq,and_self,h1,h4,x1,x2,x3,g1]
   |false=>
    cases g2:a2 !=191 with
    |true=>simp only[go_sem,H4,b72,Tryz.f72,hd,JPk hn hb hy,two,hs,hk,Ab,Q9,WA,Cq,and_self,h1,h4,x1,x2,x3,g1,g2]
    |false=>
     cases g3:a3 !=189 with
     |true=>simp only[go_sem,H4,b72,Tryz.f72,hd,JPk hn hb hy,two,hs,hk,Ab,Q9,WA,Cq,and_self,h1,h4,x1,x2,x3,g1,g2,g3]
     |false=>simp only[go_sem,H4,b72,Tryz.f72,hd,JPk hn hb hy,two,hs,hk,Ab,Q9,WA,Cq,and_self,h1,h4,x1,x2,x3,g1,g2,g3,Am]
theorem JbT{lo:Nat}{h:JC}:∀(n:Nat) (b:List Int),b.length<=n->b.length<=140737488355328->By b->
  JA (evCode ⟨Aa,E,lo,h.length,h72⟩ JA H4) ([(0,.list .no (ri .u8 b))],h)=
   if whole b=true then some (.exit 0,[(0,.list .no []),(7,.v (.bool false))],h)else some (.ret,[(2,.v (.bool false))],h):=by
 have stop:JA (evCode ⟨Aa,E,lo,h.length,h72⟩ JA H4) ([(0,.list .no (ri .u8 []))],h)=
   if whole []=true then some (.exit 0,[(0,.list .no []),(7,.v (.bool false))],h)else some (.ret,[(2,.v (.bool false))],h):=by
  rw[loop_eq];simp only[go_sem,H4,b72,Tryz.f72,JGJ,Ko,An]<;>rfl
 intro n
 induction n with
 |zero=>
  intro b h1 h2 hy;obtain rfl:b=[]:=AC om
  exact stop
 |succ n ih=>
  intro b h1 h2 hy;by_cases hn:b=[]
  ·subst hn;exact stop
  ·have hk:=jt hn
   have hlen:(b.drop (one b).2.1).length=b.length-(one b).2.1:=Ay;rw[loop_eq,JWD hn h2 hy,Jaw hy hn,JA6 hn]
   cases hx:(one b).2.2 with
   |true=>rw[if_neg (by simp),JK,ih _ om om (hy.drop _),AB]
   |false=>rw[if_pos (by simp),QY]<;>rfl
theorem f72{lo:Nat}{b:List Int}{h:JC}(hb:b.length<=140737488355328)(hy:By b):E lo 72 [.list .no (ri .u8 b)] h=some (.v (.bool (whole b)),h):=by
 rw[e72];have hL:=JbT (lo:=lo) (h:=h) b.length b (Ab _) hb hy;simp only[H4,b72,Tryz.f72,JD,JT,JB,go_sem,Ko,Az]at hL
 cases hx:whole b with
 |true=>
  rw[if_pos hx]at hL
  simp only[go_sem,b72,Tryz.f72,hL]
 |false=>
  rw[if_neg (by simp[hx])]at hL
  simp only[go_sem,b72,Tryz.f72,hL]
end Go.Lift.M1
end

section
open Go.Proofs
namespace Go.Lift.M1
variable[MX]
open Utf Tok Spell
section
variable{lo:Nat}{h:JC}
theorem f96{x:Int}:E lo 96 [.v (.int .i32 x)] h=some (.v (.bool (dig x)),h):=by
 unfold dig;rw[e96]
 cases q:decide (48<=x)with
 |true=>simp only[go_sem,b96,Tryz.f96,q]<;>rfl
 |false=>simp only[go_sem,b96,Tryz.f96,q]<;>rfl
theorem f106{x:Int}:E lo 106 [.v (.int .i32 x)] h=some (.v (.bool (dig x)),h):=by
 unfold dig;rw[Jn6]
 cases q:decide (48<=x)with
 |true=>simp only[go_sem,Ja6,Tryz.f106,q]<;>rfl
 |false=>simp only[go_sem,Ja6,Tryz.f106,q]<;>rfl
theorem Jhx:(⟨#[0]⟩:ByteArray)=bs [0]:=rfl
theorem f68{l:List Int}(hy:By l)(hl:l.length<=1000000000):E lo 68 [.v (.string (bs l))] h=some (.v (.bool (KD l)),h):=by
 unfold KD;have k1:=λlo h=>f72 (lo:=lo) (h:=h) (b:=l) om hy
 have k2:=λlo h=>f73 (lo:=lo) (h:=h) hy (c:=0) om om
 rw[e68]
 cases q:whole l with
 |true=>
  rw[q]at k1
  simp only[go_sem,b68,Tryz.f68,QT hy,k1,Jhx,k2]<;>rfl
 |false=>rw[q]at k1;simp only[go_sem,b68,Tryz.f68,QT hy,k1]<;>rfl
theorem ya:∀{a b:List Int},By a->By b->Q1 a=Q1 b->a=b
 |[],[],_,_,_=>rfl
 |[],y::b,_,_,h=>by cases h
 |x::a,[],_,_,h=>by cases h
 |x::a,y::b,ha,hb,h=>by
  simp only[Q1,List.map_cons,List.cons.injEq]at h;have hx:=ha x (by simp)
  have hy:=hb y (by simp)
  have e:x=y:=by have:=congrArg UInt8.toNat h.1;simp only[UInt8.toNat_ofNat']at this;omega
  rw[e,ya (λc hc=>ha c (by simp[hc])) (λc hc=>hb c (by simp[hc])) h.2]
theorem W1{a b:List Int}(ha:By a)(hb:By b):((bs a).toList==(bs b).toList)=(a==b):=by rw[G1,G1,Bool.eq_iff_iff,beq_iff_eq,beq_iff_eq];exact⟨ya ha hb,λh=>by rw[h]⟩
theorem JNo:By [45]:=λx hx=>by simp at hx;omega
theorem wrap_i32{x:Int}(h0:0<=x)(h1:x<=255):AF.wrap x=x:=by simp only[Ch,BW,B6];simp;omega
theorem QM:(⟨#[45]⟩:ByteArray)=bs [45]:=rfl
variable[HasD][HasN]
theorem f69{l:List Int}(hy:By l)(hl:l.length<=1000000000):E lo 69 [.v (.string (bs l))] h=some (.v (.bool (Qi l)),h):=by
 rw[e69];have hb:=W1 hy JNo;have sz:=bs_size l;have t1:=Ky l
 match l,hy with
 |[],hy=>
  have q:decide ((1:Int)<(0:Nat))=false:=rfl;rw[decide_eq_true rfl]at t1;have hb2:(([]:List Int)==[45])=false:=rfl;rw[hb2]at hb
  simp only[go_sem,b69,Tryz.f69,sz,t1,QM,hb,q,An]<;>rfl
 |[x],hy=>
  have q:decide ((1:Int)<(1:Nat))=false:=rfl;rw[decide_eq_false (by simp)]at t1
  have hx:=hy x (by simp)
  have hc:([x])[0]? =some x:=rfl;have hi:=Kl hy 0;rw[hc]at hi;have w:=wrap_i32 hx.1 hx.2;have hb2:([x]==[45])=(x==45):=by simp
  rw[hb2]at hb;have sz1:(bs [x]).size=1:=sz;unfold Qi
  cases qd:dig x with
  |true=>
   have k:=λlo h=>f96 (lo:=lo) (h:=h) (x:=x)
   rw[qd]at k;simp only[go_sem,b69,Tryz.f69,sz1,t1,hi,w,k,q]
   all_goals simp[qd]
  |false=>
   have k:=λlo h=>f96 (lo:=lo) (h:=h) (x:=x)
   rw[qd]at k
   cases qx:(x==45)with
   |true=>
    rw[qx]at hb;simp only[go_sem,b69,Tryz.f69,sz1,t1,hi,w,k,q,QM,hb]
    all_goals simp[qd,qx]
   |false=>
    rw[qx]at hb;simp only[go_sem,b69,Tryz.f69,sz1,t1,hi,w,k,q,QM,hb]
    all_goals simp[qd,qx]
 |x::y::u,hy=>
  have q:decide ((1:Int)<((x::y::u).length:Nat))=true:=by simp;omega
  rw[decide_eq_false (by simp)]at t1
  have hx:=hy x (by simp)
  have hy1:=hy y (by simp)
  have hc:(x::y::u)[0]? =some x:=rfl;have hc1:(x::y::u)[1]? =some y:=rfl;have hi:=Kl hy 0;have hi1:=Kl hy 1;rw[hc]at hi;rw[hc1]at hi1;have w:=wrap_i32 hx.1 hx.2;have w1:=wrap_i32 hy1.1 hy1.2;have hb2:((x::y::u)==[45])=false:=by simp
  rw[hb2]at hb;have k:=λlo h=>f96 (lo:=lo) (h:=h) (x:=x)
  have k1:=λlo h=>f96 (lo:=lo) (h:=h) (x:=y)
  unfold Qi;simp only;generalize x::y::u=l at*
  cases qd:dig x with
  |true=>
   rw[qd]at k;simp only[go_sem,b69,Tryz.f69,sz,t1,hi,w,k,q]
   all_goals simp[qd]
  |false=>
   rw[qd]at k
   cases qx:(x==45)with
   |true=>
    simp only[go_sem,b69,Tryz.f69,sz,t1,hi,hi1,w,w1,k,k1,q,qx,QM,hb]
    all_goals simp[qd,qx]
   |false=>simp only[go_sem,b69,Tryz.f69,sz,t1,hi,hi1,w,w1,k,k1,q,qx,QM,hb];all_goals simp[qd,qx]
end
end Go.Lift.M1
end

section
open Go.Proofs
namespace Go.Lift.M1
variable[MX][HasD][HasN]
open Utf Tok Spell
section
variable{lo:Nat}{h:JC}
theorem Qf:(⟨#[35,36,37,38,42,43,45,46,47,60,61,62,63,64,92,94,96,124,126,33]⟩:ByteArray)=bs Wm:=rfl
theorem JKc:By Wm:=by decide
def ctl(c:Int):Bool:=decide (1<=c)&&decide (c<=8)||c==11||decide (14<=c)&&decide (c<=31)||c==127
theorem JGZ(c:Int):(decide (1<=c)=true/\decide (c<=8)=true)\/c=11\/(c=9\/c=10\/c=12\/c=13)\/(decide (1<=c)=true/\decide (c<=8)=false/\(c==11)=false/\decide (14<=c)=true)\/
  (decide (1<=c)=false/\(c==11)=false/\decide (14<=c)=false/\(c==127)=false):=by
 simp;omega
theorem f70{l:List Int}(hy:By l)(hl:l.length<=1000000000):E lo 70 [.v (.string (bs l))] h=some (.v (.bool (H7 l)),h):=by
 rw[e70]
 match l,hy with
 |[],hy=>
  have sz:(bs []).size=0:=rfl;have q:((0:Int) !=1)=true:=rfl;have n0:((0:Nat):Int)=0:=rfl
  simp only[go_sem,b70,Tryz.f70,sz,n0,q]<;>rfl
 |x::y::u,hy=>
  have sz:=bs_size (x::y::u);have q:(((x::y::u).length:Int) !=1)=true:=by simp;omega
  rw[<-sz]at q;have e:H7 (x::y::u)=false:=rfl;rw[e];generalize bs (x::y::u)=s at*
  simp only[go_sem,b70,Tryz.f70,q]<;>rfl
 |[c],hy=>
  have sz:(bs [c]).size=1:=bs_size [c];have q:((1:Int) !=1)=false:=rfl;have n1:((1:Nat):Int)=1:=rfl;have hx:=hy c (by simp)
  have hc:([c])[0]? =some c:=rfl;have hi:=Kl hy 0;rw[hc]at hi;have k:=λlo h=>f73 (lo:=lo) (h:=h) JKc hx.1 hx.2
  have e:H7 [c]=(Wm.contains c||ctl c):=rfl;rw[e];unfold ctl
  cases qs:Wm.contains c with
  |true=>
   rw[qs]at k
   simp only[go_sem,b70,Tryz.f70,sz,n1,q,hi,Qf,k]<;>rfl
  |false=>
   rw[qs]at k;rcases JGZ c with⟨c1,c8⟩|rfl|(rfl|rfl|rfl|rfl)|⟨c1,c8,c11,c14⟩|⟨c1,c11,c14,c127⟩
   ·simp only[go_sem,b70,Tryz.f70,sz,n1,q,hi,Qf,k,c1,c8]<;>rfl
   ·have d1:decide ((1:Int)<=11)=true:=rfl
    have d8:decide ((11:Int)<=8)=false:=rfl;have d11:((11:Int)==11)=true:=rfl;simp only[go_sem,b70,Tryz.f70,sz,n1,q,hi,Qf,k,d1,d8,d11]<;>rfl
   ·have d1:decide ((1:Int)<=9)=true:=rfl
    have d8:decide ((9:Int)<=8)=false:=rfl;have d11:((9:Int)==11)=false:=rfl;have d14:decide ((14:Int)<=9)=false:=rfl;have d127:((9:Int)==127)=false:=rfl;simp only[go_sem,b70,Tryz.f70,sz,n1,q,hi,Qf,k,d1,d8,d11,d14,d127]<;>rfl
   ·have d1:decide ((1:Int)<=10)=true:=rfl
    have d8:decide ((10:Int)<=8)=false:=rfl;have d11:((10:Int)==11)=false:=rfl;have d14:decide ((14:Int)<=10)=false:=rfl;have d127:((10:Int)==127)=false:=rfl;simp only[go_sem,b70,Tryz.f70,sz,n1,q,hi,Qf,k,d1,d8,d11,d14,d127]<;>rfl
   ·have d1:decide ((1:Int)<=12)=true:=rfl
    have d8:decide ((12:Int)<=8)=false:=rfl;have d11:((12:Int)==11)=false:=rfl;have d14:decide ((14:Int)<=12)=false:=rfl;have d127:((12:Int)==127)=false:=rfl;simp only[go_sem,b70,Tryz.f70,sz,n1,q,hi,Qf,k,d1,d8,d11,d14,d127]<;>rfl
   ·have d1:decide ((1:Int)<=13)=true:=rfl
    have d8:decide ((13:Int)<=8)=false:=rfl;have d11:((13:Int)==11)=false:=rfl;have d14:decide ((14:Int)<=13)=false:=rfl;have d127:((13:Int)==127)=false:=rfl;simp only[go_sem,b70,Tryz.f70,sz,n1,q,hi,Qf,k,d1,d8,d11,d14,d127]<;>rfl
   ·cases c31:decide (c<=31)with
    |true=>simp only[go_sem,b70,Tryz.f70,sz,n1,q,hi,Qf,k,c1,c8,c11,c14,c31]<;>rfl
    |false=>simp only[go_sem,b70,Tryz.f70,sz,n1,q,hi,Qf,k,c1,c8,c11,c14,c31]<;>rfl
   ·simp only[go_sem,b70,Tryz.f70,sz,n1,q,hi,Qf,k,c1,c11,c14,c127]
    all_goals simp
    all_goals rfl
theorem JWG{N:Nat}{c:Int}(hc:0<=c/\c<=255):∀(m k:Nat),k+m=20->
  JA (evCode ⟨Aa,E,lo,N,JVa⟩ JA kX) ([(3,.v (.int .u8 c)),(10,.v (.int .i64 k))],h)=
   if(Wm.drop k).contains c=true then some (.ret,[(2,.v (.bool true))],h)else some (.exit 0,[(3,.v (.int .u8 c)),(10,.v (.int .i64 20)),(11,.v (.bool false))],h):=by
 intro m
 induction m with
 |zero=>
  intro k hk;obtain rfl:k=20:=om;have q:decide (((20:Nat):Int)<20)=false:=rfl;have n20:((20:Nat):Int)=20:=rfl;have e:(Wm.drop 20).contains c=false:=rfl;rw[loop_eq,e,if_neg (by simp)]
  simp only[go_sem,kX,Gx,Tryz.f107,q,n20,Int.reduceLT,decide_false]<;>rfl
 |succ m ih=>
  intro k hk;have hlt:k<Wm.length:=by show k<20;omega
  have hg:Wm[k]? =some Wm[k]:=Ac hlt
  have hd:Wm.drop k=Wm[k]::Wm.drop (k+1):=AD hlt;have q:decide ((k:Int)<20)=true:=by simp;omega
  have hi:=Kl JKc k;rw[hg]at hi;have w1:=JH (i:=k) om;rw[loop_eq,hd,DF];generalize Wm[k]=x at*
  cases qx:(x==c)with
  |true=>
   have e:(c==x)=true:=by rw[beq_iff_eq]at qx⊢;exact qx.symm
   rw[e,if_pos (by simp)]
   simp only[go_sem,kX,Gx,Tryz.f107,q,Qf,hi,qx]<;>rfl
  |false=>
   have e:(c==x)=false:=by rw[beq_eq_false_iff_ne]at qx⊢;exact λh=>qx h.symm
   rw[e,Bb]
   have er:evCode ⟨Aa,E,lo,N,JVa⟩ JA kX ([(3,.v (.int .u8 c)),(10,.v (.int .i64 k))],h)=some (.normal,[(3,.v (.int .u8 c)),(10,.v (.int .i64 (k+1:Nat)))],h):=by simp only[go_sem,kX,Gx,Tryz.f107,q,Qf,hi,qx,w1]<;>rfl
   rw[er,JK,ih (k+1) om]
end
def JM(k:Int)(b:List Int)(n d:Int)(w i:Bool):List V:=[.v (.int .i64 k),.v (.string (bs b)),.v (.int .i64 n),.v (.int .i64 d),.v (.bool w),.v (.bool i)]
def JSU(k:Int):Bool:=k==1||k==3||k==4||k==10||k==12||k==9
def JMg(k:Int):Bool:=k==1||k==2||k==7||k==8||k==10||k==11||k==12||k==15||k==21||k==9
def qA(ka kb:Int):Bool:=ka==13&&kb==13||JSU ka&&JMg kb
theorem JCm(k:Int):(k=13)\/(k=1\/k=3\/k=4\/k=10\/k=12\/k=9)\/
  ((k==13)=false/\(k==1)=false/\(k==3)=false/\(k==4)=false/\(k==10)=false/\(k==12)=false/\(k==9)=false):=by
 simp only[beq_eq_false_iff_ne];omega
theorem JAh(k:Int):(k=1\/k=2\/k=7\/k=8\/k=10\/k=11\/k=12\/k=15\/k=21\/k=9)\/
  ((k==1)=false/\(k==2)=false/\(k==7)=false/\(k==8)=false/\(k==10)=false/\(k==11)=false/\(k==12)=false/\(k==15)=false/\(k==21)=false/\(k==9)=false):=by
 simp only[beq_eq_false_iff_ne];omega
section
variable{lo:Nat}{h:JC}{ka kb:Int}{ta tb:List Int}{na da nb db:Int}{wa ia wb ib:Bool}
theorem f100(hlo:lo<=h.length):E lo 100 [.agg (JM ka ta na da wa ia),.agg (JM kb tb nb db wb ib)] h=some (.v (.bool (qA ka kb)),h):=by
 have hlo2:lo<=h.length+1:=om;rw[Jn1];unfold qA JSU JMg JM;rcases JCm ka with rfl|hl|⟨l13,l1,l3,l4,l10,l12,l9⟩
 ·simp only[go_sem,JRz,Tryz.f100,Ap,hlo,hlo2]
  all_goals simp
  all_goals rfl
 ·rcases JAh kb with hr|⟨r1,r2,r7,r8,r10,r11,r12,r15,r21,r9⟩
  ·rcases hl with rfl|rfl|rfl|rfl|rfl|rfl<;>rcases hr with rfl|rfl|rfl|rfl|rfl|rfl|rfl|rfl|rfl|rfl<;>
    simp only[go_sem,JRz,Tryz.f100,Ap,hlo,hlo2]<;>rfl
  ·rcases hl with rfl|rfl|rfl|rfl|rfl|rfl<;>
    simp only[go_sem,JRz,Tryz.f100,Ap,hlo,hlo2,r1,r2,r7,r8,r10,r11,r12,r15,r21,r9]<;>rfl
 ·simp only[go_sem,JRz,Tryz.f100,Ap,hlo,hlo2,l13,l1,l3,l4,l10,l12,l9]<;>rfl
theorem f78(hlo:lo<=h.length):E lo 78 [.agg (JM ka ta na da wa ia),.agg (JM kb tb nb db wb ib)] h=some (.v (.bool (qA ka kb)),h):=by
 have hlo2:lo<=h.length+1:=om;rw[e78];unfold qA JSU JMg JM;rcases JCm ka with rfl|hl|⟨l13,l1,l3,l4,l10,l12,l9⟩
 ·cases q:(kb==13)with
  |true=>simp only[go_sem,b78,Tryz.f78,Ap,hlo,hlo2,q]<;>rfl
  |false=>simp only[go_sem,b78,Tryz.f78,Ap,hlo,hlo2,q]<;>rfl
 ·rcases JAh kb with hr|⟨r1,r2,r7,r8,r10,r11,r12,r15,r21,r9⟩
  ·rcases hl with rfl|rfl|rfl|rfl|rfl|rfl<;>rcases hr with rfl|rfl|rfl|rfl|rfl|rfl|rfl|rfl|rfl|rfl<;>
    simp only[go_sem,b78,Tryz.f78,Ap,hlo,hlo2]<;>rfl
  ·rcases hl with rfl|rfl|rfl|rfl|rfl|rfl<;>
    simp only[go_sem,b78,Tryz.f78,Ap,hlo,hlo2,r1,r2,r7,r8,r10,r11,r12,r15,r21,r9]<;>rfl
 ·simp only[go_sem,b78,Tryz.f78,Ap,hlo,hlo2,l13,l1,l3,l4,l10,l12,l9]<;>rfl
end
section
variable{lo:Nat}{h:JC}
theorem f107{l:List Int}(hy:By l)(hl:l.length<=1000000000):E lo 107 [.v (.string (bs l))] h=some (.v (.bool (H7 l)),h):=by
 rw[Jn7]
 match l,hy with
 |[],hy=>
  have sz:(bs []).size=0:=rfl;have q:((0:Int) !=1)=true:=rfl;have n0:((0:Nat):Int)=0:=rfl
  simp only[go_sem,Gx,Tryz.f107,sz,n0,q]<;>rfl
 |x::y::u,hy=>
  have sz:=bs_size (x::y::u);have q:(((x::y::u).length:Int) !=1)=true:=by simp;omega
  rw[<-sz]at q;have e:H7 (x::y::u)=false:=rfl;rw[e];generalize bs (x::y::u)=s at*
  simp only[go_sem,Gx,Tryz.f107,q]<;>rfl
 |[c],hy=>
  have sz:(bs [c]).size=1:=bs_size [c];have q:((1:Int) !=1)=false:=rfl;have n1:((1:Nat):Int)=1:=rfl;have hx:=hy c (by simp)
  have hc:([c])[0]? =some c:=rfl;have hi:=Kl hy 0;rw[hc]at hi;have hL:=JWG (lo:=lo) (h:=h) (N:=h.length) hx 20 0 rfl;have n0:((0:Nat):Int)=0:=rfl;have hdr:Wm.drop 0=Wm:=rfl;rw[hdr]at hL;have e:H7 [c]=(Wm.contains c||ctl c):=rfl;rw[e];unfold ctl
  cases qs:Wm.contains c with
  |true=>
   rw[qs,if_pos rfl]at hL;simp only[kX,Gx,Tryz.f107,JD,JT,JB,go_sem,n0]at hL
   simp only[go_sem,Gx,Tryz.f107,sz,n1,q,hi,hL]<;>rfl
  |false=>
   rw[qs,if_neg (by simp)]at hL
   simp only[kX,Gx,Tryz.f107,JD,JT,JB,go_sem,n0]at hL;rcases JGZ c with⟨c1,c8⟩|rfl|(rfl|rfl|rfl|rfl)|⟨c1,c8,c11,c14⟩|⟨c1,c11,c14,c127⟩
   ·simp only[go_sem,Gx,Tryz.f107,sz,n1,q,hi,hL,c1,c8]<;>rfl
   ·have d1:decide ((1:Int)<=11)=true:=rfl
    have d8:decide ((11:Int)<=8)=false:=rfl;have d11:((11:Int)==11)=true:=rfl;have d14:decide ((14:Int)<=11)=false:=rfl;have d127:((11:Int)==127)=false:=rfl;simp only[go_sem,Gx,Tryz.f107,sz,n1,q,hi,hL,d1,d8,d11,d14,d127]<;>rfl
   ·have d1:decide ((1:Int)<=9)=true:=rfl
    have d8:decide ((9:Int)<=8)=false:=rfl;have d11:((9:Int)==11)=false:=rfl;have d14:decide ((14:Int)<=9)=false:=rfl;have d127:((9:Int)==127)=false:=rfl;simp only[go_sem,Gx,Tryz.f107,sz,n1,q,hi,hL,d1,d8,d11,d14,d127]<;>rfl
   ·have d1:decide ((1:Int)<=10)=true:=rfl
    have d8:decide ((10:Int)<=8)=false:=rfl;have d11:((10:Int)==11)=false:=rfl;have d14:decide ((14:Int)<=10)=false:=rfl;have d127:((10:Int)==127)=false:=rfl;simp only[go_sem,Gx,Tryz.f107,sz,n1,q,hi,hL,d1,d8,d11,d14,d127]<;>rfl
   ·have d1:decide ((1:Int)<=12)=true:=rfl
    have d8:decide ((12:Int)<=8)=false:=rfl;have d11:((12:Int)==11)=false:=rfl;have d14:decide ((14:Int)<=12)=false:=rfl;have d127:((12:Int)==127)=false:=rfl;simp only[go_sem,Gx,Tryz.f107,sz,n1,q,hi,hL,d1,d8,d11,d14,d127]<;>rfl
   ·have d1:decide ((1:Int)<=13)=true:=rfl
    have d8:decide ((13:Int)<=8)=false:=rfl;have d11:((13:Int)==11)=false:=rfl;have d14:decide ((14:Int)<=13)=false:=rfl;have d127:((13:Int)==127)=false:=rfl;simp only[go_sem,Gx,Tryz.f107,sz,n1,q,hi,hL,d1,d8,d11,d14,d127]<;>rfl
   ·cases c31:decide (c<=31)with
    |true=>simp only[go_sem,Gx,Tryz.f107,sz,n1,q,hi,hL,c1,c8,c11,c14,c31]<;>rfl
    |false=>simp only[go_sem,Gx,Tryz.f107,sz,n1,q,hi,hL,c1,c8,c11,c14,c31]<;>rfl
   ·simp only[go_sem,Gx,Tryz.f107,sz,n1,q,hi,hL,c1,c11,c14,c127]
    all_goals simp
    all_goals rfl
theorem qB(x:Option (List Int)):∃t e,Qs x= .tup [.v (.string (bs t)),.v (.int .i64 e)]/\(e==0)=x.isSome:=by
 cases x with
 |none=>exact⟨[],1,rfl,rfl⟩
 |some t=>exact⟨t,0,rfl,rfl⟩
theorem f71(hlo:lo<=h.length){k n d:Int}{b:List Int}{w i:Bool}(h0: -9223372036854775808<=n)(h1:n<=9223372036854775807)(h2: -9223372036854775808<=d)(h3:d<=9223372036854775807):
  E lo 71 [.agg (JM k b n d w i)] h=some (.v (.bool (Ji n d w).isSome),h):=by
 have k1:=λlo h hlo=>f97 (lo:=lo) (h:=h) hlo (n:=n) (d:=d) (w:=w) h0 h1 h2 h3
 have k1:=k1 lo (h++[.cells (JM k b n d w i)]) (by simp;omega)
 obtain⟨t,e,he,hs⟩:=qB (Ji n d w);rw[he]at k1;rw[e71,<-hs];unfold JM at*;simp only[go_sem,b71,Tryz.f71,hlo,k1]<;>rfl
theorem JbU{N:Nat}{s:List Int}{l:List Int}(hl:l.length<=1000000000):∀(m k:Nat),k+m=l.length->
  JA (evCode ⟨Aa,E,lo,N,h82⟩ JA JCT) ([(0,.v (.string (bs s))),(4,.list .no (ri .i32 l)),(10,.list .no (ri .i32 l)),(11,.v (.int .i64 l.length)),(12,.v (.int .i64 k))],h)=
   if(l.drop k).contains 0=true then some (.ret,[(2,.list .yes []),(3,.v (.bool false))],h)
   else some (.exit 0,[(0,.v (.string (bs s))),(4,.list .no (ri .i32 l)),(10,.list .no (ri .i32 l)),(11,.v (.int .i64 l.length)),(12,.v (.int .i64 l.length)),(13,.v (.bool false))],h):=by
 intro m
 induction m with
 |zero=>
  intro k hk;obtain rfl:k=l.length:=om;have q:decide ((l.length:Int)<(l.length:Int))=false:=by simp
  rw[loop_eq,Be,if_neg (by simp)]
  simp only[go_sem,JCT,b82,Tryz.f82,q]<;>rfl
 |succ m ih=>
  intro k hk;have hlt:k<l.length:=om;have hg:l[k]? =some l[k]:=Ac hlt
  have hd:l.drop k=l[k]::l.drop (k+1):=AD hlt;have q:decide ((k:Int)<(l.length:Int))=true:=by simp;omega
  have w1:=JH (i:=k) om;rw[loop_eq,hd,DF];generalize l[k]=x at*
  cases qx:(x==0)with
  |true=>
   have e:((0:Int)==x)=true:=by rw[beq_iff_eq]at qx⊢;exact qx.symm
   rw[e,if_pos (by simp)]
   simp only[go_sem,JCT,b82,Tryz.f82,q,hg,qx]<;>rfl
  |false=>
   have e:((0:Int)==x)=false:=by rw[beq_eq_false_iff_ne]at qx⊢;exact λh=>qx h.symm
   rw[e,Bb]
   have er:evCode ⟨Aa,E,lo,N,h82⟩ JA JCT ([(0,.v (.string (bs s))),(4,.list .no (ri .i32 l)),(10,.list .no (ri .i32 l)),(11,.v (.int .i64 l.length)),(12,.v (.int .i64 k))],h)=some (.normal,[(0,.v (.string (bs s))),(4,.list .no (ri .i32 l)),(10,.list .no (ri .i32 l)),(11,.v (.int .i64 l.length)),(12,.v (.int .i64 (k+1:Nat)))],h):=by
    simp only[go_sem,JCT,b82,Tryz.f82,q,hg,qx,w1]<;>rfl
   rw[er,JK,ih (k+1) om]
def zp(l:List Int):List Int:=if(WJ l).contains 0=true then[]else WJ l
theorem f82{l:List Int}(hy:By l)(hl:l.length<=1000000000):E lo 82 [.v (.string (bs l))] h=some (.tup [.list .no (ri .i32 (zp l)),.v (.bool (KD l))],h):=by
 have k1:=λlo h=>f37 (lo:=lo) (h:=h) hl hy
 have k2:=λlo h=>f112 (lo:=lo) (h:=h) (b:=l) om hy
 have hc:=(zR l).1;have hL:=JbU (lo:=lo) (h:=h) (N:=h.length) (s:=l) (l:=WJ l) om (WJ l).length 0 om;have n0:((0:Nat):Int)=0:=rfl;have hs:=JPh hy;rw[Az]at hL;rw[e82];unfold zp
 cases q:(WJ l).contains 0 with
 |true=>
  rw[q,if_pos rfl]at hL hs;simp only[JCT,b82,Tryz.f82,JD,JT,JB,go_sem,n0]at hL;rw[<-hs]
  simp only[go_sem,b82,Tryz.f82,QT hy,k1,hL]<;>rfl
 |false=>
  rw[q,if_neg (by simp)]at hL hs
  simp only[JCT,b82,Tryz.f82,JD,JT,JB,go_sem,n0]at hL;rw[<-hs];simp only[go_sem,b82,Tryz.f82,QT hy,k1,hL,k2]<;>rfl
theorem WN:kC Aa 48=some [1,2,1,1,0,0]:=kr
theorem Wf{k k' n n' d d':Int}{s s':ByteArray}{w w' i i':Bool}:eqCells [1,2,1,1,0,0] [.v (.int .i64 k),.v (.string s),.v (.int .i64 n),.v (.int .i64 d),.v (.bool w),.v (.bool i)] [.v (.int .i64 k'),.v (.string s'),.v (.int .i64 n'),.v (.int .i64 d'),.v (.bool w'),.v (.bool i')]=
  some (k==k'&&(s.toList==s'.toList&&(n==n'&&(d==d'&&(w==w'&&i==i'))))):=by
 simp[eqCells,eqS]
end
def Z4(n d:Int)(w i:Bool):Bool:=n==0&&(d==0&&(w==false&&i==false))
section
variable{lo:Nat}{h:JC}{k n d:Int}{b:List Int}{w i:Bool}
theorem JSV:((⟨#[]⟩:ByteArray).toList==AA.toList)=true:=(WS []).trans (by simp)
theorem JMh:((0:Int)==0)=true:=rfl
theorem ZO(hb:b≠[]):b.isEmpty=false:=by cases b with
 |nil=>exact absurd rfl hb
 |cons c t=>rfl
theorem JpP(hlo:lo<=h.length)(hy:By b)(hl:b.length<=1000000000)(hk:k=1\/k=2\/k=3):
  E lo 40 [.agg (JM k b n d w i)] h=some (.v (.bool (!b.isEmpty&&KD b&&Z4 n d w i)),h):=by
 have hlo2:lo<=h.length+1:=om;have k1:=λlo h=>f68 (lo:=lo) (h:=h) hy hl
 have t1:=Ky b
 have e:eqCells [1,2,1,1,0,0] [.v (.int .i64 0),.v (.string ⟨#[]⟩),.v (.int .i64 n),.v (.int .i64 d),.v (.bool w),.v (.bool i)] [.v (.int .i64 0),.v (.string AA),.v (.int .i64 0),.v (.int .i64 0),.v (.bool false),.v (.bool false)]=some (Z4 n d w i):=by rw[Wf,JSV,JMh]<;>rfl
 rw[e40];unfold JM;by_cases hb:b=[]
 ·rw[decide_eq_true hb]at t1
  have eb:b.isEmpty=true:=by simp[hb]
  rw[eb];rcases hk with rfl|rfl|rfl<;>simp only[go_sem,b40,Tryz.f40,Ap,hlo,hlo2,t1]<;>rfl
 ·rw[decide_eq_false hb]at t1
  rw[ZO hb]
  cases qs:KD b with
  |true=>
   rw[qs]at k1
   rcases hk with rfl|rfl|rfl<;>simp only[go_sem,b40,Tryz.f40,Ap,hlo,hlo2,t1,k1,WN,e]<;>rfl
  |false=>rw[qs]at k1;rcases hk with rfl|rfl|rfl<;>simp only[go_sem,b40,Tryz.f40,Ap,hlo,hlo2,t1,k1]<;>rfl
theorem JpQ(hlo:lo<=h.length)(hy:By b)(hl:b.length<=1000000000):
  E lo 40 [.agg (JM 4 b n d w i)] h=some (.v (.bool (!b.isEmpty&&KD b&&(i||Qi b)&&Z4 n d w false)),h):=by
 have hlo2:lo<=h.length+1:=om;have k1:=λlo h=>f68 (lo:=lo) (h:=h) hy hl
 have k2:=λlo h=>f69 (lo:=lo) (h:=h) hy hl
 have t1:=Ky b
 have e:eqCells [1,2,1,1,0,0] [.v (.int .i64 0),.v (.string ⟨#[]⟩),.v (.int .i64 n),.v (.int .i64 d),.v (.bool w),.v (.bool false)] [.v (.int .i64 0),.v (.string AA),.v (.int .i64 0),.v (.int .i64 0),.v (.bool false),.v (.bool false)]=some (Z4 n d w false):=by rw[Wf,JSV,JMh]<;>rfl
 rw[e40];unfold JM;by_cases hb:b=[]
 ·rw[decide_eq_true hb]at t1
  have eb:b.isEmpty=true:=by simp[hb]
  rw[eb];simp only[go_sem,b40,Tryz.f40,Ap,hlo,hlo2,t1]<;>rfl
 ·rw[decide_eq_false hb]at t1
  rw[ZO hb]
  cases qs:KD b with
  |true=>
   rw[qs]at k1
   cases i with
   |true=>simp only[go_sem,b40,Tryz.f40,Ap,hlo,hlo2,t1,k1,WN,e]<;>rfl
   |false=>
    cases ql:Qi b with
    |true=>
     rw[ql]at k2
     simp only[go_sem,b40,Tryz.f40,Ap,hlo,hlo2,t1,k1,k2,WN,e]<;>rfl
    |false=>
     rw[ql]at k2
     simp only[go_sem,b40,Tryz.f40,Ap,hlo,hlo2,t1,k1,k2]<;>rfl
  |false=>rw[qs]at k1;simp only[go_sem,b40,Tryz.f40,Ap,hlo,hlo2,t1,k1]<;>rfl
theorem JpR(hlo:lo<=h.length)(hy:By b)(hl:b.length<=1000000000)(hk:k=5\/k=7):
  E lo 40 [.agg (JM k b n d w i)] h=some (.v (.bool (KD b&&Z4 n d w i)),h):=by
 have hlo2:lo<=h.length+1:=om;have k1:=λlo h=>f68 (lo:=lo) (h:=h) hy hl
 have e:eqCells [1,2,1,1,0,0] [.v (.int .i64 0),.v (.string ⟨#[]⟩),.v (.int .i64 n),.v (.int .i64 d),.v (.bool w),.v (.bool i)] [.v (.int .i64 0),.v (.string AA),.v (.int .i64 0),.v (.int .i64 0),.v (.bool false),.v (.bool false)]=some (Z4 n d w i):=by rw[Wf,JSV,JMh]<;>rfl
 rw[e40];unfold JM
 cases qs:KD b with
 |true=>
  rw[qs]at k1
  rcases hk with rfl|rfl<;>simp only[go_sem,b40,Tryz.f40,Ap,hlo,hlo2,k1,WN,e]<;>rfl
 |false=>rw[qs]at k1;rcases hk with rfl|rfl<;>simp only[go_sem,b40,Tryz.f40,Ap,hlo,hlo2,k1]<;>rfl
theorem JpS(hlo:lo<=h.length)(hy:By b)(hl:b.length<=1000000000):
  E lo 40 [.agg (JM 9 b n d w i)] h=some (.v (.bool (H7 b&&Z4 n d w i)),h):=by
 have hlo2:lo<=h.length+1:=om;have k1:=λlo h=>f70 (lo:=lo) (h:=h) hy hl
 have e:eqCells [1,2,1,1,0,0] [.v (.int .i64 0),.v (.string ⟨#[]⟩),.v (.int .i64 n),.v (.int .i64 d),.v (.bool w),.v (.bool i)] [.v (.int .i64 0),.v (.string AA),.v (.int .i64 0),.v (.int .i64 0),.v (.bool false),.v (.bool false)]=some (Z4 n d w i):=by rw[Wf,JSV,JMh]<;>rfl
 rw[e40];unfold JM
 cases qs:H7 b with
 |true=>
  rw[qs]at k1
  simp only[go_sem,b40,Tryz.f40,Ap,hlo,hlo2,k1,WN,e]<;>rfl
 |false=>rw[qs]at k1;simp only[go_sem,b40,Tryz.f40,Ap,hlo,hlo2,k1]<;>rfl
theorem JpT(hlo:lo<=h.length)(hy:By b)(hl:b.length<=1000000000)(h0: -9223372036854775808<=n)(h1:n<=9223372036854775807)(h2: -9223372036854775808<=d)(h3:d<=9223372036854775807):
  E lo 40 [.agg (JM 12 b n d w i)] h=some (.v (.bool (!b.isEmpty&&KD b&&(Ji n d w).isSome&&(i==false))),h):=by
 have hlo2:lo<=h.length+1:=om;have hlo3:∀x y:Ob,lo<=(h++[x,y]).length:=λx y=>by simp;omega
 have k1:=λlo h=>f68 (lo:=lo) (h:=h) hy hl
 have k2:=λ(lo:Nat) (h:JC) (hlo:lo<=h.length)=>f71 (lo:=lo) (h:=h) hlo (k:=12) (b:=b) (n:=n) (d:=d) (w:=w) (i:=i) h0 h1 h2 h3
 have k2:=k2 lo (h++[.cells (JM 12 b n d w i),.cells (JM 0 b n d w i)]) (hlo3 _ _);have t1:=Ky b
 have e:eqCells [1,2,1,1,0,0] [.v (.int .i64 0),.v (.string ⟨#[]⟩),.v (.int .i64 0),.v (.int .i64 0),.v (.bool false),.v (.bool i)] [.v (.int .i64 0),.v (.string AA),.v (.int .i64 0),.v (.int .i64 0),.v (.bool false),.v (.bool false)]=some (i==false):=by rw[Wf,JSV,JMh];simp
 rw[e40];unfold JM at*;by_cases hb:b=[]
 ·rw[decide_eq_true hb]at t1
  have eb:b.isEmpty=true:=by simp[hb]
  rw[eb];simp only[go_sem,b40,Tryz.f40,Ap,hlo,hlo2,t1]<;>rfl
 ·rw[decide_eq_false hb]at t1
  rw[ZO hb]
  cases qs:KD b with
  |true=>
   rw[qs]at k1
   cases qp:(Ji n d w).isSome with
   |true=>
    rw[qp]at k2
    simp only[go_sem,b40,Tryz.f40,Ap,hlo,hlo2,t1,k1,k2,WN,e]<;>rfl
   |false=>
    rw[qp]at k2
    simp only[go_sem,b40,Tryz.f40,Ap,hlo,hlo2,t1,k1,k2]<;>rfl
  |false=>rw[qs]at k1;simp only[go_sem,b40,Tryz.f40,Ap,hlo,hlo2,t1,k1]<;>rfl
theorem JpU(hlo:lo<=h.length)(hk:k=10\/k=11)(h0: -9223372036854775808<=n)(h1:n<=9223372036854775807)(h2: -9223372036854775808<=d)(h3:d<=9223372036854775807):
  E lo 40 [.agg (JM k b n d w i)] h=some (.v (.bool ((Ji n d w).isSome&&(b.isEmpty&&(i==false)))),h):=by
 have hlo2:lo<=h.length+1:=om;have hlo3:∀x y:Ob,lo<=(h++[x,y]).length:=λx y=>by simp;omega
 have k2:=λ(lo:Nat) (h:JC) (hlo:lo<=h.length)=>f71 (lo:=lo) (h:=h) hlo (k:=k) (b:=b) (n:=n) (d:=d) (w:=w) (i:=i) h0 h1 h2 h3
 have k2:=k2 lo (h++[.cells (JM k b n d w i),.cells (JM 0 b n d w i)]) (hlo3 _ _);have t1:=WS b;have eb:decide (b=[])=b.isEmpty:=by cases b<;>simp
 have e:eqCells [1,2,1,1,0,0] [.v (.int .i64 0),.v (.string (bs b)),.v (.int .i64 0),.v (.int .i64 0),.v (.bool false),.v (.bool i)] [.v (.int .i64 0),.v (.string AA),.v (.int .i64 0),.v (.int .i64 0),.v (.bool false),.v (.bool false)]=some (b.isEmpty&&(i==false)):=by
  rw[Wf,JMh,t1,eb];simp
 rw[e40];unfold JM at*
 cases qp:(Ji n d w).isSome with
 |true=>
  rw[qp]at k2
  rcases hk with rfl|rfl<;>simp only[go_sem,b40,Tryz.f40,Ap,hlo,hlo2,k2,WN,e]<;>rfl
 |false=>rw[qp]at k2;rcases hk with rfl|rfl<;>simp only[go_sem,b40,Tryz.f40,Ap,hlo,hlo2,k2]<;>rfl
theorem JpV(hlo:lo<=h.length)(hk:k=6\/k=8\/k=13\/k=14\/k=15\/k=16\/k=17\/k=18\/k=19\/k=20\/k=21\/k=22\/k=23\/k=24):
  E lo 40 [.agg (JM k b n d w i)] h=some (.v (.bool (b.isEmpty&&Z4 n d w i)),h):=by
 have hlo2:lo<=h.length+1:=om;have t1:=WS b;have eb:decide (b=[])=b.isEmpty:=by cases b<;>simp
 have e:eqCells [1,2,1,1,0,0] [.v (.int .i64 0),.v (.string (bs b)),.v (.int .i64 n),.v (.int .i64 d),.v (.bool w),.v (.bool i)] [.v (.int .i64 0),.v (.string AA),.v (.int .i64 0),.v (.int .i64 0),.v (.bool false),.v (.bool false)]=some (b.isEmpty&&Z4 n d w i):=by
  rw[Wf,JMh,t1,eb]<;>rfl
 rw[e40];unfold JM;rcases hk with rfl|rfl|rfl|rfl|rfl|rfl|rfl|rfl|rfl|rfl|rfl|rfl|rfl|rfl<;>simp only[go_sem,b40,Tryz.f40,Ap,hlo,hlo2,WN,e]<;>rfl
theorem JpW(hlo:lo<=h.length)(hk:k<1\/24<k):E lo 40 [.agg (JM k b n d w i)] h=some (.v (.bool false),h):=by
 have hlo2:lo<=h.length+1:=om;have q:∀x:Int,1<=x->x<=24->(k==x)=false:=λx h1 h2=>by simp;omega
 have q1:=q 1 om om;have q2:=q 2 om om;have q3:=q 3 om om;have q4:=q 4 om om;have q5:=q 5 om om;have q6:=q 6 om om;have q7:=q 7 om om;have q8:=q 8 om om;have q9:=q 9 om om;have q10:=q 10 om om;have q11:=q 11 om om;have q12:=q 12 om om;have q13:=q 13 om om;have q14:=q 14 om om;have q15:=q 15 om om;have q16:=q 16 om om;have q17:=q 17 om om;have q18:=q 18 om om
 have q19:=q 19 om om;have q20:=q 20 om om;have q21:=q 21 om om;have q22:=q 22 om om;have q23:=q 23 om om;have q24:=q 24 om om;rw[e40];unfold JM;simp only[go_sem,b40,Tryz.f40,hlo,hlo2,q1,q2,q3,q4,q5,q6,q7,q8,q9,q10,q11,q12,q13,q14,q15,q16,q17,q18,q19,q20,q21,q22,q23,q24]<;>rfl
end
section
variable{lo:Nat}{h:JC}{k n d:Int}{b:List Int}{w i:Bool}
theorem JCn(hy:By b)(h:KD b=true):zp b=WJ b:=by
 unfold KD at h;rw[Af]at h;unfold zp;rw[JCi hy h.1]
 cases q:b.contains 0 with
 |true=>rw[q]at h;cases h.2
 |false=>rw[if_neg (by simp)]
theorem JMi(hb:b≠[]):1<=(WJ b).length:=by
 cases b with
 |nil=>exact absurd rfl hb
 |cons c t=>rw[JJ4];simp
theorem JMj(s:ByteArray):(s.toList==s.toList)=true:=by simp
theorem JCo(k:Int):(k==k)=true:=by simp
theorem JpX(hlo:lo<=h.length)(hy:By b)(hl:b.length<=1000000000)(hk:k=1\/k=2\/k=3):
  E lo 79 [.agg (JM k b n d w i)] h=some (.v (.bool (!b.isEmpty&&KD b&&Z4 n d w i)),h):=by
 have hlo2:lo<=h.length+1:=om;have k1:=λlo h=>f82 (lo:=lo) (h:=h) hy hl
 have e:eqCells [1,2,1,1,0,0] [.v (.int .i64 k),.v (.string (bs b)),.v (.int .i64 n),.v (.int .i64 d),.v (.bool w),.v (.bool i)] [.v (.int .i64 k),.v (.string (bs b)),.v (.int .i64 0),.v (.int .i64 0),.v (.bool false),.v (.bool false)]=some (Z4 n d w i):=by rw[Wf,JMj,JCo]<;>rfl
 rw[e79];unfold JM
 cases qz:Z4 n d w i with
 |false=>
  rw[qz]at e;rw[BG]
  rcases hk with rfl|rfl|rfl<;>simp only[go_sem,y7,Tryz.f79,Ap,hlo,hlo2,k1,WN,e]<;>rfl
 |true=>
  rw[qz]at e
  cases qs:KD b with
  |false=>
   rw[qs]at k1;rw[BG]
   rcases hk with rfl|rfl|rfl<;>simp only[go_sem,y7,Tryz.f79,Ap,hlo,hlo2,k1,WN,e]<;>rfl
  |true=>
   rw[qs,JCn hy qs]at k1;by_cases hb:b=[]
   ·have q:decide (0<((WJ b).length:Int))=false:=by subst hb;rfl
    have eb:b.isEmpty=true:=by simp[hb]
    rw[eb];rcases hk with rfl|rfl|rfl<;>simp only[go_sem,y7,Tryz.f79,Ap,hlo,hlo2,k1,WN,e,q]<;>rfl
   ·have q:decide (0<((WJ b).length:Int))=true:=by have:=JMi hb;simp;omega
    rw[ZO hb];rcases hk with rfl|rfl|rfl<;>simp only[go_sem,y7,Tryz.f79,Ap,hlo,hlo2,k1,WN,e,q]<;>rfl
theorem JpY(hlo:lo<=h.length)(hy:By b)(hl:b.length<=1000000000):
  E lo 79 [.agg (JM 4 b n d w i)] h=some (.v (.bool (!b.isEmpty&&KD b&&(i||Qi b)&&Z4 n d w false)),h):=by
 have hlo2:lo<=h.length+1:=om;have k1:=λlo h=>f82 (lo:=lo) (h:=h) hy hl
 have e:eqCells [1,2,1,1,0,0] [.v (.int .i64 4),.v (.string (bs b)),.v (.int .i64 n),.v (.int .i64 d),.v (.bool w),.v (.bool i)] [.v (.int .i64 4),.v (.string (bs b)),.v (.int .i64 0),.v (.int .i64 0),.v (.bool false),.v (.bool i)]=some (Z4 n d w false):=by rw[Wf,JMj,JCo];unfold Z4;cases i<;>rfl
 rw[e79];unfold JM
 cases qz:Z4 n d w false with
 |false=>
  rw[qz]at e;rw[BG]
  simp only[go_sem,y7,Tryz.f79,Ap,hlo,hlo2,k1,WN,e]<;>rfl
 |true=>
  rw[qz]at e
  cases qs:KD b with
  |false=>
   rw[qs]at k1;rw[BG,Aw,Aw]
   simp only[go_sem,y7,Tryz.f79,Ap,hlo,hlo2,k1,WN,e]<;>rfl
  |true=>
   rw[qs,JCn hy qs]at k1;have hw:whole b=true:=by unfold KD at qs;rw[Af]at qs;exact qs.1
   rw[<-JPg hy hw];by_cases hb:b=[]
   ·have q:(((WJ b).length:Int)==0)=true:=by subst hb;rfl
    have eb:b.isEmpty=true:=by simp[hb]
    rw[eb];simp only[go_sem,y7,Tryz.f79,Ap,hlo,hlo2,k1,WN,e,q]<;>rfl
   ·have hr:=JMi hb
    rw[ZO hb];have q:(((WJ b).length:Int)==0)=false:=by rw[beq_eq_false_iff_ne];omega
    cases i with
    |true=>simp only[go_sem,y7,Tryz.f79,Ap,hlo,hlo2,k1,WN,e,q]<;>rfl
    |false=>
     have k2:=λlo h x=>f106 (lo:=lo) (h:=h) (x:=x)
     generalize WJ b=L at*
     have main:E lo 79 [.agg (JM 4 b n d w false)] h=some (.v (.bool (Qi L)),h):=by
      rw[e79];unfold JM
      match L,hr with
      |[x],_=>
       have g0:([x])[0]? =some x:=rfl;have sz:([x]).length=1:=rfl;have n1:((1:Nat):Int)=1:=rfl;have p1:((1:Int)==0)=false:=rfl;have p2:((1:Int)==1)=true:=rfl;have er:Qi [x]=(dig x||x==45):=by unfold Qi;simp
       rw[er];clear q;generalize [x]=M at*
       cases qd:dig x with
       |true=>
        have k3:=λlo h=>k2 lo h x
        rw[qd]at k3
        simp only[go_sem,y7,Tryz.f79,Ap,hlo,hlo2,k1,WN,e,sz,n1,p1,p2,g0,k3]<;>rfl
       |false=>
        have k3:=λlo h=>k2 lo h x
        rw[qd]at k3
        cases qx:(x==45)with
        |true=>simp only[go_sem,y7,Tryz.f79,Ap,hlo,hlo2,k1,WN,e,sz,n1,p1,p2,g0,k3,qx]<;>rfl
        |false=>simp only[go_sem,y7,Tryz.f79,Ap,hlo,hlo2,k1,WN,e,sz,n1,p1,p2,g0,k3,qx]<;>rfl
      |x::y::u,_=>
       have g0:(x::y::u)[0]? =some x:=rfl;have g1:(x::y::u)[1]? =some y:=rfl;have p2:(((x::y::u).length:Int)==1)=false:=by simp;omega
       have er:Qi (x::y::u)=(dig x||x==45&&dig y):=rfl;rw[er];generalize x::y::u=M at*;have k4:=λlo h=>k2 lo h y
       cases qd:dig x with
       |true=>
        have k3:=λlo h=>k2 lo h x
        rw[qd]at k3
        simp only[go_sem,y7,Tryz.f79,Ap,hlo,hlo2,k1,WN,e,q,p2,g0,g1,k3]<;>rfl
       |false=>
        have k3:=λlo h=>k2 lo h x
        rw[qd]at k3
        cases qx:(x==45)with
        |true=>simp only[go_sem,y7,Tryz.f79,Ap,hlo,hlo2,k1,WN,e,q,p2,g0,g1,k3,k4,qx]<;>rfl
        |false=>simp only[go_sem,y7,Tryz.f79,Ap,hlo,hlo2,k1,WN,e,q,p2,g0,g1,k3,k4,qx]<;>rfl
     rw[e79]at main;unfold JM at main;rw[main];simp
theorem JpZ(hlo:lo<=h.length)(hy:By b)(hl:b.length<=1000000000)(hk:k=5\/k=7):
  E lo 79 [.agg (JM k b n d w i)] h=some (.v (.bool (KD b&&Z4 n d w i)),h):=by
 have hlo2:lo<=h.length+1:=om;have k1:=λlo h=>f82 (lo:=lo) (h:=h) hy hl
 have e:eqCells [1,2,1,1,0,0] [.v (.int .i64 k),.v (.string (bs b)),.v (.int .i64 n),.v (.int .i64 d),.v (.bool w),.v (.bool i)] [.v (.int .i64 k),.v (.string (bs b)),.v (.int .i64 0),.v (.int .i64 0),.v (.bool false),.v (.bool false)]=some (Z4 n d w i):=by rw[Wf,JMj,JCo]<;>rfl
 rw[e79];unfold JM
 cases qz:Z4 n d w i with
 |false=>
  rw[qz]at e;rw[BG]
  rcases hk with rfl|rfl<;>simp only[go_sem,y7,Tryz.f79,Ap,hlo,hlo2,k1,WN,e]<;>rfl
 |true=>rw[qz]at e;rw[Cz];rcases hk with rfl|rfl<;>simp only[go_sem,y7,Tryz.f79,Ap,hlo,hlo2,k1,WN,e]<;>rfl
theorem Jpa(hlo:lo<=h.length)(hy:By b)(hl:b.length<=1000000000):
  E lo 79 [.agg (JM 9 b n d w i)] h=some (.v (.bool (H7 b&&Z4 n d w i)),h):=by
 have hlo2:lo<=h.length+1:=om;have k1:=λlo h=>f82 (lo:=lo) (h:=h) hy hl
 have k2:=λlo h=>f107 (lo:=lo) (h:=h) hy hl
 have e:eqCells [1,2,1,1,0,0] [.v (.int .i64 9),.v (.string (bs b)),.v (.int .i64 n),.v (.int .i64 d),.v (.bool w),.v (.bool i)] [.v (.int .i64 9),.v (.string (bs b)),.v (.int .i64 0),.v (.int .i64 0),.v (.bool false),.v (.bool false)]=some (Z4 n d w i):=by rw[Wf,JMj,JCo]<;>rfl
 rw[e79];unfold JM
 cases qz:Z4 n d w i with
 |false=>
  rw[qz]at e;rw[BG]
  simp only[go_sem,y7,Tryz.f79,Ap,hlo,hlo2,k1,WN,e]<;>rfl
 |true=>rw[qz]at e;rw[Cz];simp only[go_sem,y7,Tryz.f79,Ap,hlo,hlo2,k1,k2,WN,e]<;>rfl
theorem Jpb(hlo:lo<=h.length)(hy:By b)(hl:b.length<=1000000000)(h0: -9223372036854775808<=n)(h1:n<=9223372036854775807)(h2: -9223372036854775808<=d)(h3:d<=9223372036854775807):
  E lo 79 [.agg (JM 12 b n d w i)] h=some (.v (.bool (!b.isEmpty&&KD b&&(Ji n d w).isSome&&(i==false))),h):=by
 have hlo2:lo<=h.length+1:=om;have hlo3:∀x y:Ob,lo<=(h++[x,y]).length:=λx y=>by simp;omega
 have k1:=λlo h=>f82 (lo:=lo) (h:=h) hy hl
 have k2:=λ(lo:Nat) (h:JC) (hlo:lo<=h.length)=>f80 (lo:=lo) (h:=h) hlo (n:=n) (d:=d) (w:=w) h0 h1 h2 h3
 have k2:=k2 lo (h++[.cells (JM 12 b n d w i),.cells (JM 12 b n d w false)]) (hlo3 _ _);obtain⟨t,er,he,hs⟩:=qB (Ji n d w);rw[he]at k2
 have e:eqCells [1,2,1,1,0,0] [.v (.int .i64 12),.v (.string (bs b)),.v (.int .i64 n),.v (.int .i64 d),.v (.bool w),.v (.bool i)] [.v (.int .i64 12),.v (.string (bs b)),.v (.int .i64 n),.v (.int .i64 d),.v (.bool w),.v (.bool false)]=some (i==false):=by rw[Wf,JMj,JCo,JCo,JCo];cases w<;>rfl
 rw[e79];rw[<-hs];unfold JM at*
 cases qs:KD b with
 |false=>
  rw[qs]at k1;rw[BG,Aw,Aw]
  simp only[go_sem,y7,Tryz.f79,Ap,hlo,hlo2,k1]<;>rfl
 |true=>
  rw[qs,JCn hy qs]at k1;by_cases hb:b=[]
  ·have q:(((WJ b).length:Int)==0)=true:=by subst hb;rfl
   have eb:b.isEmpty=true:=by simp[hb]
   rw[eb];simp only[go_sem,y7,Tryz.f79,Ap,hlo,hlo2,k1,q]<;>rfl
  ·have hr:=JMi hb
   rw[ZO hb];have q:(((WJ b).length:Int)==0)=false:=by rw[beq_eq_false_iff_ne];omega
   cases qi:(i==false)with
   |true=>
    rw[qi]at e;simp only[go_sem,y7,Tryz.f79,Ap,hlo,hlo2,k1,k2,WN,e,q];all_goals simp
    all_goals rfl
   |false=>
    rw[qi]at e;simp only[go_sem,y7,Tryz.f79,Ap,hlo,hlo2,k1,k2,WN,e,q];all_goals simp
    all_goals rfl
theorem Jpc(hlo:lo<=h.length)(hy:By b)(hl:b.length<=1000000000)(hk:k=10\/k=11)(h0: -9223372036854775808<=n)(h1:n<=9223372036854775807)(h2: -9223372036854775808<=d)(h3:d<=9223372036854775807):
  E lo 79 [.agg (JM k b n d w i)] h=some (.v (.bool ((Ji n d w).isSome&&(b.isEmpty&&(i==false)))),h):=by
 have hlo2:lo<=h.length+1:=om;have hlo3:∀x y:Ob,lo<=(h++[x,y]).length:=λx y=>by simp;omega
 have k1:=λlo h=>f82 (lo:=lo) (h:=h) hy hl
 have k2:=λ(lo:Nat) (h:JC) (hlo:lo<=h.length)=>f80 (lo:=lo) (h:=h) hlo (n:=n) (d:=d) (w:=w) h0 h1 h2 h3
 have k2:=k2 lo (h++[.cells (JM k b n d w i),.cells [.v (.int .i64 k),.v (.string AA),.v (.int .i64 n),.v (.int .i64 d),.v (.bool w),.v (.bool false)]]) (hlo3 _ _);obtain⟨t,er,he,hs⟩:=qB (Ji n d w);rw[he]at k2;have t1:=WS b;have eb:decide (b=[])=b.isEmpty:=by cases b<;>simp
 have e:eqCells [1,2,1,1,0,0] [.v (.int .i64 k),.v (.string (bs b)),.v (.int .i64 n),.v (.int .i64 d),.v (.bool w),.v (.bool i)] [.v (.int .i64 k),.v (.string AA),.v (.int .i64 n),.v (.int .i64 d),.v (.bool w),.v (.bool false)]=some (b.isEmpty&&(i==false)):=by rw[Wf,t1,eb,JCo,JCo,JCo];cases w<;>rfl
 rw[e79];rw[<-hs];unfold JM at*
 cases qi:(b.isEmpty&&(i==false))with
 |true=>
  rw[qi]at e
  rcases hk with rfl|rfl<;>simp only[go_sem,y7,Tryz.f79,Ap,hlo,hlo2,k1,k2,WN,e]<;>simp<;>rfl
 |false=>rw[qi]at e;rcases hk with rfl|rfl<;>simp only[go_sem,y7,Tryz.f79,Ap,hlo,hlo2,k1,k2,WN,e]<;>simp<;>rfl
theorem Jpd(hlo:lo<=h.length)(hy:By b)(hl:b.length<=1000000000)(hk:k=6\/k=8\/k=13\/k=14\/k=15\/k=16\/k=17\/k=18\/k=19\/k=20\/k=21\/k=22\/k=23\/k=24):
  E lo 79 [.agg (JM k b n d w i)] h=some (.v (.bool (b.isEmpty&&Z4 n d w i)),h):=by
 have hlo2:lo<=h.length+1:=om;have k1:=λlo h=>f82 (lo:=lo) (h:=h) hy hl
 have t1:=WS b;have eb:decide (b=[])=b.isEmpty:=by cases b<;>simp
 have e:eqCells [1,2,1,1,0,0] [.v (.int .i64 k),.v (.string (bs b)),.v (.int .i64 n),.v (.int .i64 d),.v (.bool w),.v (.bool i)] [.v (.int .i64 k),.v (.string AA),.v (.int .i64 0),.v (.int .i64 0),.v (.bool false),.v (.bool false)]=some (b.isEmpty&&Z4 n d w i):=by
  rw[Wf,JCo,t1,eb]<;>rfl
 rw[e79];unfold JM;rcases hk with rfl|rfl|rfl|rfl|rfl|rfl|rfl|rfl|rfl|rfl|rfl|rfl|rfl|rfl<;>simp only[go_sem,y7,Tryz.f79,Ap,Int.reduceLE,decide_true,hlo,hlo2,k1,WN,e]<;>rfl
theorem Jpe(hlo:lo<=h.length)(hy:By b)(hl:b.length<=1000000000)(hk:k<1\/24<k):E lo 79 [.agg (JM k b n d w i)] h=some (.v (.bool false),h):=by
 have hlo2:lo<=h.length+1:=om;have k1:=λlo h=>f82 (lo:=lo) (h:=h) hy hl
 have q:∀x:Int,1<=x->x<=24->(k==x)=false:=λx h1 h2=>by simp;omega
 have q1:=q 1 om om;have q2:=q 2 om om;have q3:=q 3 om om;have q4:=q 4 om om;have q5:=q 5 om om;have q7:=q 7 om om;have q9:=q 9 om om;have q10:=q 10 om om;have q11:=q 11 om om;have q12:=q 12 om om;rw[e79];unfold JM;rcases hk with hk|hk
 ·have p1:decide (1<=k)=false:=by simp;omega
  simp only[go_sem,y7,Tryz.f79,hlo,hlo2,k1,q1,q2,q3,q4,q5,q7,q9,q10,q11,q12,p1]<;>rfl
 ·have p1:decide (1<=k)=true:=by simp;omega
  have p2:decide (k<=24)=false:=by simp;omega
  simp only[go_sem,y7,Tryz.f79,hlo,hlo2,k1,q1,q2,q3,q4,q5,q7,q9,q10,q11,q12,p1,p2]<;>rfl
end
section
variable{lo:Nat}{h:JC}{k n d:Int}{b:List Int}{w i:Bool}
theorem kinds(k:Int):(k=1\/k=2\/k=3)\/k=4\/(k=5\/k=7)\/k=9\/k=12\/(k=10\/k=11)\/
  (k=6\/k=8\/k=13\/k=14\/k=15\/k=16\/k=17\/k=18\/k=19\/k=20\/k=21\/k=22\/k=23\/k=24)\/(k<1\/24<k):=om
def KL(k:Int)(b:List Int)(n d:Int)(w i:Bool):Bool:=
 if k=1\/k=2\/k=3 then !b.isEmpty&&KD b&&Z4 n d w i
 else if k=4 then !b.isEmpty&&KD b&&(i||Qi b)&&Z4 n d w false
 else if k=5\/k=7 then KD b&&Z4 n d w i
 else if k=9 then H7 b&&Z4 n d w i
 else if k=12 then !b.isEmpty&&KD b&&(Ji n d w).isSome&&(i==false)
 else if k=10\/k=11 then(Ji n d w).isSome&&(b.isEmpty&&(i==false))
 else if 1<=k/\k<=24 then b.isEmpty&&Z4 n d w i else false
theorem f40(hlo:lo<=h.length)(hy:By b)(hl:b.length<=1000000000)(h0: -9223372036854775808<=n)(h1:n<=9223372036854775807)(h2: -9223372036854775808<=d)(h3:d<=9223372036854775807):
  E lo 40 [.agg (JM k b n d w i)] h=some (.v (.bool (KL k b n d w i)),h):=by
 unfold KL;rcases kinds k with hk|hk|hk|hk|hk|hk|hk|hk
 ·rw[if_pos hk];exact JpP hlo hy hl hk
 ·subst hk;exact JpQ hlo hy hl
 ·rw[if_neg om,if_neg om,if_pos hk];exact JpR hlo hy hl hk
 ·subst hk;exact JpS hlo hy hl
 ·subst hk;exact JpT hlo hy hl h0 h1 h2 h3
 ·rw[if_neg om,if_neg om,if_neg om,if_neg om,if_neg om,if_pos hk];exact JpU hlo hk h0 h1 h2 h3
 ·rw[if_neg om,if_neg om,if_neg om,if_neg om,if_neg om,if_neg om,if_pos om];exact JpV hlo hk
 ·rw[if_neg om,if_neg om,if_neg om,if_neg om,if_neg om,if_neg om,if_neg om];exact JpW hlo hk
theorem f79(hlo:lo<=h.length)(hy:By b)(hl:b.length<=1000000000)(h0: -9223372036854775808<=n)(h1:n<=9223372036854775807)(h2: -9223372036854775808<=d)(h3:d<=9223372036854775807):
  E lo 79 [.agg (JM k b n d w i)] h=some (.v (.bool (KL k b n d w i)),h):=by
 unfold KL;rcases kinds k with hk|hk|hk|hk|hk|hk|hk|hk
 ·rw[if_pos hk];exact JpX hlo hy hl hk
 ·subst hk;exact JpY hlo hy hl
 ·rw[if_neg om,if_neg om,if_pos hk];exact JpZ hlo hy hl hk
 ·subst hk;exact Jpa hlo hy hl
 ·subst hk;exact Jpb hlo hy hl h0 h1 h2 h3
 ·rw[if_neg om,if_neg om,if_neg om,if_neg om,if_neg om,if_pos hk];exact Jpc hlo hy hl hk h0 h1 h2 h3
 ·rw[if_neg om,if_neg om,if_neg om,if_neg om,if_neg om,if_neg om,if_pos om];exact Jpd hlo hy hl hk
 ·rw[if_neg om,if_neg om,if_neg om,if_neg om,if_neg om,if_neg om,if_neg om];exact Jpe hlo hy hl hk
end
end Go.Lift.M1
end

section
open Go.Proofs
namespace Go.Lift.M1
variable[MX][HasD][HasN]
open Utf Tok Spell
variable{lo:Nat}{h:JC}
structure OkT(t:Rul.Tk4):Prop where
 hy:By t.b
 hl:t.b.length<=10000000
 h0: -9223372036854775808<=t.n
 h1:t.n<=9223372036854775807
 h2: -9223372036854775808<=t.d
 h3:t.d<=9223372036854775807
def zl(t:Rul.Tk4):Bool:=KL t.k t.b t.n t.d t.w t.i
theorem JSW(t:Rul.Tk4):Rul.row t=JM t.k t.b t.n t.d t.w t.i:=rfl
abbrev N13(l:List Rul.Tk4)(k:Int):Jj:=[(9,.list .no (l.map Rul.row)),(10,.v (.int .i64 l.length)),(11,.v (.int .i64 k))]
theorem JWJ{l:List Rul.Tk4}{t:Rul.Tk4}{k:Nat}(hlo:lo<=h.length)(hl:l.length<=1000000000)(hg:l[k]? =some t)(hok:OkT t):
  evCode ⟨Aa,E,lo,h.length,h19⟩ JA yS (N13 l k,h)=
   if zl t=true then some (.normal,N13 l (k+1:Nat),h)else some (.ret,[(2,.v (.bool false))],h++[.cells (Rul.row t)]):=by
 have hlt:k<l.length:=(Ad.1 hg).1
 have hgr:(l.map Rul.row)[k]? =some (Rul.row t):=by simp[hg]
 have q:decide ((k:Int)<(l.length:Int))=true:=by simp;omega
 have hw:=JH (i:=k) om;have hlo':lo<=h.length+1:=om;have hb:t.b.length<=1000000000:=by have:=hok.hl;omega
 have c39:=λlo hlo=>f40 (lo:=lo) (h:=h++[.cells (Rul.row t)]) (k:=t.k) (b:=t.b) (n:=t.n) (d:=t.d) (w:=t.w) (i:=t.i) hlo hok.hy hb hok.h0 hok.h1 hok.h2 hok.h3
 have c39a:=c39 lo (by simp;omega);have c39b:=c39 h.length (by simp);have c39c:=c39 (h.length+1) (by simp)
 clear c39;unfold zl;rw[JSW]at*;unfold JM at*
 cases hm:KL t.k t.b t.n t.d t.w t.i with
 |true=>
  rw[hm]at c39a c39b c39c;rw[if_pos rfl]
  simp only[go_sem,yS,b19,Tryz.f19,hlo,hlo',q,hgr,hw,c39a,c39b,c39c,Ag]<;>rfl
 |false=>
  rw[hm]at c39a c39b c39c;rw[if_neg (show¬false=true by simp)]
  simp only[go_sem,yS,b19,Tryz.f19,hlo,hlo',q,hgr,hw,c39a,c39b,c39c,Ag]<;>rfl
theorem JbV{l:List Rul.Tk4}(hlo:lo<=h.length):evCode ⟨Aa,E,lo,h.length,h19⟩ JA yS (N13 l l.length,h)=
   some (.exit 0,N13 l l.length++[(12,.v (.bool false))],h):=by
 have q:decide ((l.length:Int)<(l.length:Int))=false:=by simp
 simp only[go_sem,yS,b19,Tryz.f19,hlo,q]<;>rfl
theorem JbW{l:List Rul.Tk4}(hlo:lo<=h.length)(hl:l.length<=1000000000)(hok:∀t∈l,OkT t):∀(m k:Nat),k+m=l.length->
  if(l.drop k).all zl=true then
   JA (evCode ⟨Aa,E,lo,h.length,h19⟩ JA yS) (N13 l k,h)=some (.exit 0,N13 l l.length++[(12,.v (.bool false))],h)
  else∃X,JA (evCode ⟨Aa,E,lo,h.length,h19⟩ JA yS) (N13 l k,h)=some (.ret,[(2,.v (.bool false))],h++X):=by
 intro m
 induction m with
 |zero=>
  intro k hk;obtain rfl:k=l.length:=om
  rw[Be,if_pos (show([]:List Rul.Tk4).all zl=true from rfl),loop_eq,JbV hlo,Kv]
 |succ m ih=>
  intro k hk;have hlt:k<l.length:=om;have hg:l[k]? =some l[k]:=Ac hlt
  have hd:l.drop k=l[k]::l.drop (k+1):=AD hlt;have hok1:=hok l[k] (Ba hlt);rw[hd];generalize l[k]=t at*;have hr:=JWJ hlo hl hg hok1
  cases hm:zl t with
  |false=>
   rw[hm,if_neg (by simp)]at hr
   rw[Bg,hm,Aw,if_neg (by simp)]
   exact⟨_,by rw[loop_eq,hr,QY]⟩
  |true=>rw[hm,if_pos rfl]at hr;rw[Bg,hm,AB,loop_eq,hr,JK];exact ih (k+1) om
def Q7(l:List Rul.CV):Bool:=Rul.Q5 64 l&&(Rul.Je l).all zl
theorem f19{l:List Rul.CV}(hlo:lo<=h.length)(hl:Rul.JO l<=100000000)(hok:∀t∈Rul.Je l,OkT t):E lo 19 [.list .no (Rul.JL l)] h=some (.v (.bool (Q7 l)),h):=by
 have c26:=λlo hlo=>f38 (lo:=lo) (h:=h) (l:=l) hlo om
 have c26a:=c26 lo hlo;have c26b:=c26 h.length (Ab _);have c15:=λlo hlo=>f39 (lo:=lo) (h:=h) (l:=l) hlo hl
 have c15a:=c15 lo hlo;have c15b:=c15 h.length (Ab _);clear c26 c15;have hfl:=Rul.Wz l;have hL:=JbW (lo:=lo) (h:=h) (l:=Rul.Je l) hlo om hok (Rul.Je l).length 0 om;rw[Az]at hL;have n0:((0:Nat):Int)=0:=rfl;unfold Q7;rw[e19]
 cases hm:Rul.Q5 64 l with
 |false=>
  rw[hm]at c26a c26b;rw[Aw]
  simp only[go_sem,b19,Tryz.f19,hlo,c26a,c26b]<;>rfl
 |true=>
  rw[hm]at c26a c26b;rw[AB]
  cases ha:(Rul.Je l).all zl with
  |false=>
   rw[ha,if_neg (by simp)]at hL
   obtain⟨X,hL⟩:=hL;simp only[yS,b19,Tryz.f19,JD,JT,JB,go_sem,N13,n0]at hL
   simp only[go_sem,b19,Tryz.f19,hlo,c26a,c26b,c15a,c15b,hL,Ag,n0]<;>rfl
  |true=>rw[ha,if_pos rfl]at hL;simp only[yS,b19,Tryz.f19,JD,JT,JB,go_sem,N13,n0,Al,Ai]at hL;simp only[go_sem,b19,Tryz.f19,hlo,c26a,c26b,c15a,c15b,hL,Ag,n0]<;>rfl
end Go.Lift.M1
end

section
open Go.Proofs
namespace Go.Lift.M1
open Rul
variable[MX]
variable{lo:Nat}{h:JC}
abbrev N30(out:List Tk4)(l:List CV)(k:Int):Jj:=[(3,.list .yes (out.map row)),(7,.list .no (JL l)),(8,.v (.int .i64 l.length)),(9,.v (.int .i64 k))]
theorem JNp(out m:List Tk4):out.map row++m.map row=(out++m).map row:=by rw[List.map_append]
theorem JX2{n:Nat}(h:n<=1000000000):n*48<=140737488355328:=om
theorem JX3{n:Nat}(h:n<=1000000000):n<=9223372036854775807:=om
theorem JWK{l ks:List CV}{t:Tk4}{out:List Tk4}{k:Nat}(hlo:lo<=h.length)(hl:l.length<=1000000000)(hg:l[k]? =some (.mk t ks))(ho:out.length+(Je ks).length+2<=1000000000)
  (ih:∀lo h,lo<=h.length->E lo 47 [.list .no (JL ks)] h=some (.list .no ((Je ks).map row),h)):
  evCode ⟨Aa,E,lo,h.length,h47⟩ JA JAd (N30 out l k,h)=some (.normal,N30 (out++GT (.mk t ks)) l (k+1:Nat),h):=by
 have hlt:k<l.length:=(Ad.1 hg).1
 have hgr:(JL l)[k]? =some (Qa (.mk t ks)):=by rw[Ks,hg]<;>rfl
 have q:decide ((k:Int)<(l.length:Int))=true:=by simp;omega
 have hw:=JH (i:=k) om;have hlo':lo<=h.length+1:=om;have c42:=λlo hlo=>f32 (lo:=lo) (h:=h++[.cells (Qa (.mk t ks))]) hlo t.k
 have c42a:=c42 lo (by simp;omega);have c42b:=c42 h.length (by simp);have c42c:=c42 (h.length+1) (by simp)
 have c30:=λlo hlo=>ih lo (h++[.cells (Qa (.mk t ks))]) hlo
 have c30a:=c30 lo (by simp;omega);have c30b:=c30 h.length (by simp);have c30c:=c30 (h.length+1) (by simp)
 clear c42 c30 ih
 have hf:GT (.mk t ks)=[t]++(Je ks++clT (JS t.k)):=by have:=ZK t ks [];rw[KU,Av,Je,KU,Av]at this;exact this
 rw[hf];rw[Jr]at*;have ra:=Gt out;have rb:=Gt (out++[t]);have rc:=Gt (out++[t]++Je ks);have rk:=Gt (Je ks);have rd:=Gt (out++t::Je ks);have o8:(out.length+((Je ks).length+1)+1)*48<=140737488355328:=JNe om;have o9:out.length+((Je ks).length+1)<=9223372036854775806:=JR5 om;have o1:(out.length+1)*48<=140737488355328:=JNe om
 have o2:out.length<=9223372036854775806:=JR5 om;have o3:(out.length+1+(Je ks).length)*48<=140737488355328:=JX2 om;have o4:out.length+1+(Je ks).length<=9223372036854775807:=JX3 om;have o5:(out.length+1+(Je ks).length+1)*48<=140737488355328:=JX2 om;have o6:out.length+1+(Je ks).length<=9223372036854775806:=JR5 om;have o7:out.length+1<=9223372036854775807:=JX3 om
 have hn:=GS t.k;by_cases hc:JS t.k=0
 ·have qc:(JS t.k !=0)=false:=by rw[hc]<;>rfl
  have e:clT (JS t.k)=[]:=by rw[hc]<;>rfl
  rw[e,Av,<-Ao];simp only[go_sem,JAd,b47,Tryz.f47,hlo,hlo',q,hgr,hw,qc,c42a,c42b,c42c,c30a,c30b,c30c,ra,rb,rc,rk,o1,o2,o3,o4,o5,o6,o7,o8,o9,rd,Zv,JNp,yW,JP,Ag,Ah,Ae,An,AE]<;>rfl
 ·have qc:(JS t.k !=0)=true:=by rw[bne_iff_ne];exact hc
  have e:clT (JS t.k)=[Rul.bare (JS t.k)]:=by unfold clT;rw[if_pos om]
  rw[e,<-Ao,<-Ao];simp only[go_sem,JAd,b47,Tryz.f47,hlo,hlo',q,hgr,hw,qc,c42a,c42b,c42c,c30a,c30b,c30c,ra,rb,rc,rk,o1,o2,o3,o4,o5,o6,o7,o8,o9,rd,Zv,JNp,yW,JP,Ag,Ah,Ae,An,AE]<;>rfl
theorem JbX{l:List CV}{out:List Tk4}(hlo:lo<=h.length):evCode ⟨Aa,E,lo,h.length,h47⟩ JA JAd (N30 out l l.length,h)=
   some (.exit 0,N30 out l l.length++[(10,.v (.bool false))],h):=by
 have q:decide ((l.length:Int)<(l.length:Int))=false:=by simp
 simp only[go_sem,JAd,b47,Tryz.f47,hlo,q]<;>rfl
theorem JPl(v:CV)(r:List CV):Je (v::r)=GT v++Je r:=by rw[Je]
theorem JSX{l:List CV}(hlo:lo<=h.length)(hl:JO l<=100000000)(ih:∀v∈l,∀lo h,lo<=h.length->E lo 47 [.list .no (JL v.ks)] h=some (.list .no ((Je v.ks).map row),h)):
  ∀(m k:Nat) (out:List Tk4),k+m=l.length->out.length+2*JO (l.drop k)<=900000000->
   JA (evCode ⟨Aa,E,lo,h.length,h47⟩ JA JAd) (N30 out l k,h)=some (.exit 0,N30 (out++Je (l.drop k)) l l.length++[(10,.v (.bool false))],h):=by
 have hlen:=Jq l;intro m
 induction m with
 |zero=>
  intro k out hk _;obtain rfl:k=l.length:=om
  rw[Be,KU,Av,loop_eq,JbX hlo,Kv]
 |succ m ihm=>
  intro k out hk ho;have hlt:k<l.length:=om;have hg:l[k]? =some l[k]:=Ac hlt
  have hd:l.drop k=l[k]::l.drop (k+1):=AD hlt;have him:=ih l[k] (Ba hlt);rw[hd,JPl];rw[hd,J5]at ho;generalize l[k]=v at*;obtain⟨t,ks⟩:=v;rw[Wy]at ho;have hfl:=Wz ks;have hfv:=JGO (.mk t ks);rw[Wy]at hfv;rw[loop_eq,JWK hlo om hg om him,JK,ihm (k+1) _ om (by rw[Ah];omega),Ao]
theorem f47:∀(n:Nat) (l:List CV),JO l<=n->n<=100000000->∀(lo:Nat) (h:JC),lo<=h.length->E lo 47 [.list .no (JL l)] h=some (.list .no ((Je l).map row),h):=by
 intro n
 induction n with
 |zero=>
  intro l hl hn lo h hlo
  have:l=[]:=by have:=Jq l;exact AC om
  subst this;have hL:=JSX (lo:=lo) (h:=h) (l:=[]) hlo om (λv hv=>by cases hv) 0 0 [] rfl (by rw[DN,WM];simp)
  have n0:((0:Nat):Int)=0:=rfl;rw[e47];simp only[JAd,b47,Tryz.f47,JD,JT,JB,go_sem,N30,n0,CB,Al,Ai,DN,KU,Jt,An]at hL
  simp only[go_sem,b47,Tryz.f47,hlo,hL,Jt,An,n0,KU,CB]<;>rfl
 |succ n ihn=>
  intro l hl hn lo h hlo;have hL:=JSX (lo:=lo) (h:=h) (l:=l) hlo om (λv hv lo h hlo=>ihn v.ks (by have:=Gu hv;rw[GU]at this;omega) om lo h hlo) l.length 0 [] om (by rw[Az];simp;omega)
  have n0:((0:Nat):Int)=0:=rfl;rw[Az,Ai]at hL;rw[e47];simp only[JAd,b47,Tryz.f47,JD,JT,JB,go_sem,N30,n0,CB,Al,Ai]at hL;simp only[go_sem,b47,Tryz.f47,hlo,hL,JP,n0]<;>rfl
end Go.Lift.M1
end

section
open Go.Proofs
namespace Go.Lift.M1
variable[MX]
open Utf Tok Spell
theorem JHk(l:List Int):ZG (ri .u8 l)=some l:=by
 induction l with
 |nil=>rfl
 |cons n l ih=>rw[Zn];unfold ZG;rw[ih]<;>rfl
theorem JSY{l:List Int}(hy:By l):(l.all λc=>decide (0<=c)&&decide (c<=255))=true:=by rw[List.all_eq_true];intro c hc;have:=hy c hc;simp;exact this
section
variable{lo:Nat}{p q:JC}{p0 x:V}{out:List Int}
theorem JKd(o:Ob):(p++o::q)[p.length]? =some o:=by simp
theorem JCp(o:Ob)(cs:List V):Lift.setOb (p++o::q) p.length cs=p++ .cells cs::q:=by unfold Lift.setOb;rw[List.set_append_right _ _ (Ab _)];simp
theorem KJ:H0 p.length (.ptr p.length 0)=true:=by simp[H0]
theorem JbY(i:Nat):H0 i (.v (.pointer none))=true:=rfl
theorem f42(hlo:lo<=p.length)(hp:H0 p.length p0=true):E lo 42 [.ptr p.length 0] (p++ .cells [p0,x]::q)=some (.tup [],p++ .cells [.ptr p.length 0,x]::q):=by
 show ev _ hints primz lo _ _ _=_
 rw[W6 (p:=ccP) rfl];unfold ccP;simp only[JKd];rw[if_pos ⟨hlo,hp,by simp⟩,JCp]
theorem JWL(hlo:lo<=p.length)(hp:H0 p.length p0=true){r:Int}(h0: -2147483648<=r)(h1:r<=2147483647)(hl:out.length<=1000000000):
  E lo 131 [.ptr p.length 0,.v (.int .i32 r)] (p++ .cells [p0,.list .yes (ri .u8 out)]::q)=
   some (.tup [.v (.int .i64 ((enc (JQ r)).length:Nat)),.v .nilIface],p++ .cells [.ptr p.length 0,.list .yes (ri .u8 (out++enc (JQ r)))]::q):=by
 show ev _ hints primz lo _ _ _=_
 rw[W6 (p:=wrP) rfl];unfold wrP;simp only[JKd,JHk];rw[if_pos ⟨hlo,hp,h0,h1,hl⟩,JCp]
theorem f24(hlo:lo<=p.length)(hy:By out)(hl:out.length<=1000000000):
  E lo 24 [.ptr p.length 0] (p++ .cells [p0,.list .yes (ri .u8 out)]::q)=some (.v (.string (bs out)),p++ .cells [p0,.list .no (ri .u8 out)]::q):=by
 show ev _ hints primz lo _ _ _=_
 rw[W6 (p:=stP) rfl];unfold stP;simp only[JKd,JHk];rw[if_pos ⟨hlo,JSY hy,hl⟩,JCp]<;>rfl
theorem f132(hlo:lo<=p.length)(hp:H0 p.length p0=true){c:Int}(hl:out.length<=1000000000):
  E lo 132 [.ptr p.length 0,.v (.int .u8 c)] (p++ .cells [p0,.list .yes (ri .u8 out)]::q)=
   some (.v .nilIface,p++ .cells [.ptr p.length 0,.list .yes (ri .u8 (out++[c]))]::q):=by
 have k:=f42 (lo:=lo) (p:=p) (q:=q) (p0:=p0) (x:= .list .yes (ri .u8 out)) hlo hp;have hr:∀k,k<=4->(out.length+k)*1<=140737488355328:=by intro k hk;omega
 have hq:∀k,9223372036854775800<=k->out.length<=k:=by intro k hk;omega
 have e:ri .u8 (out++[c])=ri .u8 out++[[V.v (.int .u8 c)]]:=by rw[<-ri_app]<;>rfl
 rw[JoV,e];simp only[go_sem,Jhk,Tryz.f132,k,hr,hq,hlo]<;>rfl
theorem f21(hlo:lo<=p.length)(hp:H0 p.length p0=true){s:List Int}(hs:By s)(hl:out.length<=1000000000)(hl2:s.length<=1000000000):
  E lo 21 [.ptr p.length 0,.v (.string (bs s))] (p++ .cells [p0,.list .yes (ri .u8 out)]::q)=
   some (.tup [.v (.int .i64 s.length),.v .nilIface],p++ .cells [.ptr p.length 0,.list .yes (ri .u8 (out++s))]::q):=by
 have k:=f42 (lo:=lo) (p:=p) (q:=q) (p0:=p0) (x:= .list .yes (ri .u8 out)) hlo hp;have e:ri .u8 (out++s)=ri .u8 out++ri .u8 s:=by rw[<-ri_app]
 have sz:=bs_size s;have h1:(out.length+s.length)*1<=140737488355328:=om;have h2:out.length+s.length<=9223372036854775807:=om;rw[e21,e];simp only[go_sem,b21,Tryz.f21,k,hlo,QT hs,sz,h1,h2]<;>rfl
theorem Jpf{r:List V}(hr:r.length<=1)(hlo:lo<=p.length)(hp:H0 p.length p0=true):E lo 42 [.ptr p.length 0] (p++ .cells (p0::x::r)::q)=some (.tup [],p++ .cells (.ptr p.length 0::x::r)::q):=by
 show ev _ hints primz lo _ _ _=_
 rw[W6 (p:=ccP) rfl];unfold ccP;simp only[JKd];rw[if_pos ⟨hlo,hp,hr⟩,JCp]
theorem Jpg{r:List V}(hlo:lo<=p.length)(hy:By out)(hl:out.length<=1000000000):
  E lo 24 [.ptr p.length 0] (p++ .cells (p0:: .list .yes (ri .u8 out)::r)::q)=some (.v (.string (bs out)),p++ .cells (p0:: .list .no (ri .u8 out)::r)::q):=by
 show ev _ hints primz lo _ _ _=_
 rw[W6 (p:=stP) rfl];unfold stP;simp only[JKd,JHk];rw[if_pos ⟨hlo,JSY hy,hl⟩,JCp]<;>rfl
theorem ZP{n:Int}(hlo:lo<=p.length)(hp:H0 p.length p0=true){s:List Int}(hs:By s)(hl:out.length<=1000000000)(hl2:s.length<=1000000000):
  E lo 21 [.ptr p.length 0,.v (.string (bs s))] (p++ .cells [p0,.list .yes (ri .u8 out),.v (.int .i64 n)]::q)=
   some (.tup [.v (.int .i64 s.length),.v .nilIface],p++ .cells [.ptr p.length 0,.list .yes (ri .u8 (out++s)),.v (.int .i64 n)]::q):=by
 have k:=Jpf (lo:=lo) (p:=p) (q:=q) (p0:=p0) (x:= .list .yes (ri .u8 out)) (r:=[.v (.int .i64 n)]) (by simp) hlo hp
 have e:ri .u8 (out++s)=ri .u8 out++ri .u8 s:=by rw[<-ri_app]
 have sz:=bs_size s;have h1:(out.length+s.length)*1<=140737488355328:=om;have h2:out.length+s.length<=9223372036854775807:=om;rw[e21,e];simp only[go_sem,b21,Tryz.f21,k,hlo,QT hs,sz,h1,h2]<;>rfl
end
end Go.Lift.M1
end

section
namespace Go.Lift.Spell
open Utf Tok
def hexD(n:Int):Int:=if n<10 then 48+n else 87+n
def JWM:List Int:=[48,49,50,51,52,53,54,55,56,57,97,98,99,100,101,102]
theorem JWN{n:Int}(h0:0<=n)(h1:n<16):JWM[n.toNat]? =some (hexD n):=by
 obtain⟨k,rfl⟩:∃k:Nat,n=k:=⟨n.toNat,om⟩;have hk:k<16:=om;have:∀k:Fin 16,JWM[((k.val:Nat):Int).toNat]? =some (hexD (k.val:Int)):=by decide
 exact this ⟨k,hk⟩
theorem JWO{n:Int}(h0:0<=n)(h1:n<16):48<=hexD n/\hexD n<=102:=by
 unfold hexD
 split<;>omega
def rdN:Nat->Int->List Int
 |0,_=>[]
 |k+1,r=>if r<=0 then[]else hexD (r%16)::rdN k (r/16)
theorem JHl:∀(k:Nat) (r:Int),(rdN k r).length<=k
 |0,_=>Ab _
 |k+1,r=>by
  simp only[rdN]
  split
  ·simp
  ·have:=JHl k (r/16)
   simp;omega
theorem JMk:∀(k:Nat) (r:Int),By (rdN k r)
 |0,_=>λc hc=>by cases hc
 |k+1,r=>by
  simp only[rdN]
  split
  ·exact λc hc=>by cases hc
  ·intro c hc
   rcases A2.1 hc with rfl|hc
   ·have:=JWO (n:=r%16) om om;omega
   ·exact JMk k _ c hc
def J1(r:Int):List Int:=92::((rdN 8 r).reverse++[32])
theorem YK(r:Int):By (J1 r):=λc hc=>by
 unfold J1 at hc;simp only[A2,AN,List.mem_reverse,List.not_mem_nil,or_false]at hc;rcases hc with rfl|hc|rfl
 ·omega
 ·exact JMk 8 r c hc
 ·omega
theorem Jw(r:Int):(J1 r).length<=10:=by unfold J1;have:=JHl 8 r;simp;omega
def yb(x:Int):Bool:=decide (1<=x)&&decide (x<=31)||x==127||x==65279
def Jl:List Int->List Int
 |[]=>[]
 |x::l=>(if yb x=true then J1 x else if GR x=true then enc (JQ x)else 92::enc (JQ x))++Jl l
theorem W8(x:Int):1<=(enc x).length/\(enc x).length<=4:=by
 unfold enc
 split
 ·simp
 ·split
  ·simp
  ·split<;>simp
def j9(x:Int):List Int:=if yb x=true then J1 x else if GR x=true then enc (JQ x)else 92::enc (JQ x)
theorem G3(x:Int)(l:List Int):Jl (x::l)=j9 x++Jl l:=rfl
theorem zq(x:Int):(j9 x).length<=10:=by
 unfold j9;have:=W8 (JQ x)
 split
 ·exact Jw x
 ·split
  ·omega
  ·simp;omega
theorem JSZ(x:Int):By (j9 x):=by
 have hs:=KO x;have hb:=zS (JQ x) hs.1 hs.2;unfold j9
 split
 ·exact YK x
 ·split
  ·exact hb
  ·intro c hc
   rcases A2.1 hc with rfl|hc
   ·omega
   ·exact hb c hc
theorem KV:∀l:List Int,(Jl l).length<=10*l.length
 |[]=>by simp[Jl]
 |x::l=>by rw[G3,Ah,Ae];have:=zq x;have:=KV l;omega
theorem YL:∀l:List Int,By (Jl l)
 |[]=>λc hc=>by cases hc
 |x::l=>by
  rw[G3];intro c hc;rcases AN.1 hc with h|h
  ·exact JSZ x c h
  ·exact YL l c h
def Ja(l:List Int):List Int:=
 if l=[45]then[92,45]else match l with
 |[]=>[]
 |x::t=>if dig x=true then J1 x++Jl t else match t with
  |[]=>Jl [x]
  |y::u=>if x=45/\dig y=true then 45::(J1 y++Jl u)else Jl (x::y::u)
theorem yc{l:List Int}(hs:∀x∈l,JQ x=x):JJ l=[45]↔l=[45]:=by
 constructor
 ·intro h
  have h1:=(Hv l).1;rw[h]at h1
  have h2:l.map JQ=l:=by
   conv=>rhs;rw[<-DL l]
   exact A4 λx hx=>hs x hx
  rw[h2]at h1;rw[<-h1]
  decide
 ·rintro rfl
  decide
theorem JNq{l:List Int}(hs:∀x∈l,JQ x=x):WJ (JJ l)=l:=by
 rw[(Hv l).1]
 conv=>rhs;rw[<-DL l]
 exact A4 λx hx=>hs x hx
end Go.Lift.Spell
end

section
open Go.Proofs
namespace Go.Lift.M1
variable[MX]
open Utf Tok Spell
section
variable{lo:Nat}{h:JC}
theorem JbZ:(⟨#[48,49,50,51,52,53,54,55,56,57,97,98,99,100,101,102]⟩:ByteArray)=bs JWM:=rfl
theorem Jba:By JWM:=by decide
theorem JGa{n:Int}(h0: -2147483648<=n)(h1:n<=2147483647):AF.wrap n=n:=by simp only[Ch,BW,B6];simp;omega
theorem JSa:∀(k:Nat) (r:Int) (out:List Int),0<=r->r<16^k->r<=2147483647->out.length+k<=1000->
  JA (evCode ⟨Aa,E,lo,h.length,JPT⟩ JA zb) ([(0,.v (.int .i32 r)),(3,.list .yes (ri .u8 out))],h)=
   some (.exit 0,[(0,.v (.int .i32 0)),(3,.list .yes (ri .u8 (out++rdN k r))),(7,.v (.bool false))],h):=by
 intro k
 induction k with
 |zero=>
  intro r out h0 h1 _ _;obtain rfl:r=0:=by simp at h1;omega
  have q:decide ((0:Int)<0)=false:=rfl;rw[loop_eq,rdN,Av]
  simp only[go_sem,zb,JCc,Tryz.f128,q]<;>rfl
 |succ k ih=>
  intro r out h0 h1 h2 h3;by_cases hr:r<=0
  ·obtain rfl:r=0:=om
   have q:decide ((0:Int)<0)=false:=rfl;rw[loop_eq,rdN,if_pos om,Av];simp only[go_sem,zb,JCc,Tryz.f128,q]<;>rfl
  ·have q:decide (0<r)=true:=by simp;omega
   have t1:r.tmod 16=r%16:=Int.tmod_eq_emod_of_nonneg om;have t2:r.tdiv 16=r/16:=Int.tdiv_eq_ediv_of_nonneg om;have z:¬((16:Int)=0):=om;have w1:AF.wrap (r%16)=r%16:=JGa om om;have w2:AF.wrap (r/16)=r/16:=JGa om om;have hi:=Kl Jba (r%16).toNat;rw[JWN om om]at hi;have hn:0<=r%16:=om;have hr1:∀k,k<=4->(out.length+k)*1<=140737488355328:=by intro k hk;omega
   have hq:∀k,9223372036854775800<=k->out.length<=k:=by intro k hk;omega
   have e:ri .u8 out++[[V.v (.int .u8 (hexD (r%16)))]]=ri .u8 (out++[hexD (r%16)]):=by rw[<-ri_app]<;>rfl
   have er:evCode ⟨Aa,E,lo,h.length,JPT⟩ JA zb ([(0,.v (.int .i32 r)),(3,.list .yes (ri .u8 out))],h)=some (.normal,[(0,.v (.int .i32 (r/16))),(3,.list .yes (ri .u8 (out++[hexD (r%16)])))],h):=by simp only[go_sem,zb,JCc,Tryz.f128,q,t1,t2,z,w1,w2,JbZ,hi,hn,hr1,hq,e]<;>rfl
   rw[loop_eq,er,JK,ih (r/16) _ om (by rw[Int.pow_succ]at h1;omega) om (by simp;omega),rdN,if_neg hr,Ao]
   rfl
theorem JSb{b:List Int}(hlo:lo<=h.length)(hb:b.length<=1000):∀(n:Nat) (out:List Int),n<=b.length->out.length+n<=2000->
  JA (evCode ⟨Aa,E,lo,h.length,JPT⟩ JA JCd) ([(3,.list .yes (ri .u8 b)),(4,.ptr h.length 0),(5,.v (.int .i64 ((n:Int)-1)))],h++[.cells [.ptr h.length 0,.list .yes (ri .u8 out)]])=
   some (.exit 2,[(3,.list .yes (ri .u8 b)),(4,.ptr h.length 0),(5,.v (.int .i64 (-1))),(21,.v (.bool false))],h++[.cells [.ptr h.length 0,.list .yes (ri .u8 (out++(b.take n).reverse))]]):=by
 intro n
 induction n with
 |zero=>
  intro out h1 h2;have e:((0:Nat):Int)-1= -1:=rfl;have q:decide ((0:Int)<= -1)=false:=rfl;rw[loop_eq,e]
  simp only[go_sem,JCd,JCc,Tryz.f128,q,List.take_zero,List.reverse_nil,Av]<;>rfl
 |succ n ih=>
  intro out h1 h2;have e:((n+1:Nat):Int)-1=(n:Int):=om;have q:decide ((0:Int)<=(n:Int))=true:=by simp
  have hg:b[n]? =some b[n]:=Ac om
  have ht:b.take (n+1)=b.take n++[b[n]]:=List.take_succ_eq_append_getElem om;have w1:Aq.wrap ((n:Int)-1)=(n:Int)-1:=JN om om;generalize b[n]=x at*;have k:=f132 (lo:=lo) (p:=h) (q:=[]) (p0:= .ptr h.length 0) (out:=out) hlo KJ (c:=x) om;have k2:=f132 (lo:=h.length) (p:=h) (q:=[]) (p0:= .ptr h.length 0) (out:=out) (Ab _) KJ (c:=x) om
  have er:evCode ⟨Aa,E,lo,h.length,JPT⟩ JA JCd ([(3,.list .yes (ri .u8 b)),(4,.ptr h.length 0),(5,.v (.int .i64 (n:Int)))],h++[.cells [.ptr h.length 0,.list .yes (ri .u8 out)]])=
    some (.normal,[(3,.list .yes (ri .u8 b)),(4,.ptr h.length 0),(5,.v (.int .i64 ((n:Int)-1)))],h++[.cells [.ptr h.length 0,.list .yes (ri .u8 (out++[x]))]]):=by
   simp only[go_sem,JCd,JCc,Tryz.f128,q,hg,w1,k,k2]<;>rfl
  rw[loop_eq,e,er,JK,ih _ om (by simp;omega),ht,List.reverse_append,Ao]
  rfl
theorem f128(hlo:lo<=h.length){r:Int}(h0:0<=r)(h1:r<=2147483647):E lo 128 [.v (.int .i32 r)] h=some (.v (.string (bs (J1 r))),h):=by
 have hA:=JSa (lo:=lo) (h:=h) 8 r [] h0 (by have:(16:Int)^8=4294967296:=(by decide);omega) h1 (by simp)
 have hlen:=JHl 8 r;generalize hR:rdN 8 r=R at*;have hby:By R:=hR▸JMk 8 r;have hB:=JSb (lo:=lo) (h:=h) (b:=R) hlo om R.length [92] (Ab _) (by simp;omega)
 rw[List.take_length]at hB;simp only[zb,JCc,Tryz.f128,JD,JT,JB,go_sem,Ko]at hA;simp only[JCd,JCc,Tryz.f128,JD,JT,JB,go_sem]at hB;have k1:=λlo hlo=>f132 (lo:=lo) (p:=h) (q:=[]) (p0:= .v (.pointer none)) (out:=[]) hlo (JbY _) (c:=92) (by simp)
 have k2:=λlo hlo=>f132 (lo:=lo) (p:=h) (q:=[]) (p0:= .ptr h.length 0) (out:=92::R.reverse) hlo KJ (c:=32) (by simp;omega)
 have k3:=λlo hlo=>f24 (lo:=lo) (p:=h) (q:=[]) (p0:= .ptr h.length 0) (out:=J1 r) hlo (YK r) (by have:=Jw r;omega)
 have ec:92::R.reverse++[32]=J1 r:=by unfold J1;rw[hR];simp
 rw[ec]at k2;have k1a:=k1 lo hlo;have k1b:=k1 h.length (Ab _);have k2a:=k2 lo hlo;have k2b:=k2 h.length (Ab _);have k3a:=k3 lo hlo;have k3b:=k3 h.length (Ab _);have w1:Aq.wrap ((R.length:Int)-1)=(R.length:Int)-1:=JN om om;rw[Ko,Ai]at k1a k1b;rw[JoS];simp only[go_sem,JCc,Tryz.f128,hA,k1a,k1b,w1,hB,k2a,k2b,k3a,k3b]<;>rfl
end
end Go.Lift.M1
end
