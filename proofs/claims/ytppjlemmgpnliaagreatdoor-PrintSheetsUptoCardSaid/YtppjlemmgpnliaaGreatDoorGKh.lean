/- utf.Decode, jalousieref2.Decode: bytes as a stylesheet's. -/
import Derived.Test.YtppjlemmgpnliaaGreatDoorGKe
import Derived.Test.YtppjlemmgpnliaaGreatDoorGKg
open Bool renaming and_eq_true->Af,false_and->Aw,false_eq_true->Am,true_and->AB
open ByteArray renaming empty->AA,size->Lx
open Go.IntKind renaming i32->AF,i64->Aq
open Go.Proofs.Tryz renaming prog->Aa
open List renaming append_assoc->Ao,append_nil->Av,cons_append->Al,dropWhile_suffix->AR,drop_drop->AV,drop_eq_getElem_cons->AD,drop_length->Be,drop_zero->Az,eq_nil_of_length_eq_zero->AC,getElem?_eq_getElem->Ac,getElem?_eq_some_iff->Ad,isPrefixOf->Lr,length_cons->Ae,length_nil->An,length_take->AM,map_congr_left->A4,map_nil->CB,nil_append->Ai
open Nat renaming add_zero->BH,le_refl->Ab,lt_or_ge->AG,zero_add->AE
open UInt8 renaming ofNat->Bh,toNat_ofNat'->BU
set_option linter.unusedVariables false
set_option linter.unusedSimpArgs false
set_option linter.unusedSectionVars false
set_option maxRecDepth 20000
set_option maxHeartbeats 4000000
section
open Go.Proofs
namespace Go.Lift.M1.T
variable[MX]
open Utf
theorem JGl(back:Bool)(x:Int):(HJ back x).length<=1:=by
 unfold HJ
 split<;>simp
theorem JWr{lo i:Nat}{l out:List Int}{h:JC}{x last:Int}(hx:l[i]? =some x)(hi:i<l.length)(hl:l.length<=1000000000)(ho:out.length<=1000000000):
  evCode ⟨Aa,E,lo,h.length,h18⟩ JA jw ([(3,.list .yes (ri .i32 out)),(4,.v (.int .i32 last)),(32,.list .no (ri .i32 l)),(33,.v (.int .i64 l.length)),(34,.v (.int .i64 i))],h)=
   some (.normal,[(3,.list .yes (ri .i32 (out++HJ (last==13) x))),(4,.v (.int .i32 x)),(32,.list .no (ri .i32 l)),(33,.v (.int .i64 l.length)),(34,.v (.int .i64 (i+1:Nat)))],h):=by
 have hd:decide ((i:Int)<l.length)=true:=by simpa using hi
 have hr:∀k,k<=4->(out.length+k)*4<=140737488355328:=by intro k hk;omega
 have hq:∀k,9223372036854775800<=k->out.length<=k:=by intro k hk;omega
 have hw:=JH (i:=i) om;have app:∀y:Int,ri .i32 (out++[y])=ri .i32 out++[[V.v (.int .i32 y)]]:=by intro y;rw[<-ri_app]<;>rfl
 by_cases h10:x=10
 ·subst h10
  have e13:((10:Int)==13)=false:=rfl;have e3:((10:Int)==12)=false:=rfl;have e0:((10:Int)==0)=false:=rfl;have n10:((10:Int) !=10)=false:=rfl
  cases hb:last==13 with
  |true=>
   have nl:(last !=13)=false:=by simp[bne,hb]
   have ed:HJ true 10=[]:=rfl
   simp only[go_sem,jw,b18,Tryz.f18,hd,hx,hr,hq,hw,ed,e13,e3,e0,n10,nl,Av]
  |false=>
   have nl:(last !=13)=true:=by simp[bne,hb]
   have ed:HJ false 10=[10]:=rfl;simp only[go_sem,jw,b18,Tryz.f18,hd,hx,hr,hq,hw,ed,e13,e3,e0,n10,nl,app]
 have n10:(x !=10)=true:=by simp[h10]
 have e10:(x==10)=false:=by simp[h10]
 by_cases h13:x=13
 ·subst h13
  have e13:((13:Int)==13)=true:=rfl;have ed:HJ (last==13) 13=[10]:=rfl;simp only[go_sem,jw,b18,Tryz.f18,hd,hx,hr,hq,hw,ed,e13,n10,app]
 have e13:(x==13)=false:=by simp[h13]
 by_cases h12:x=12
 ·subst h12
  have e3:((12:Int)==12)=true:=rfl;have ed:HJ (last==13) 12=[10]:=rfl;simp only[go_sem,jw,b18,Tryz.f18,hd,hx,hr,hq,hw,ed,e13,n10,e3,app]
 have e3:(x==12)=false:=by simp[h12]
 by_cases h0:x=0
 ·subst h0
  have e0:((0:Int)==0)=true:=rfl;have ed:HJ (last==13) 0=[65533]:=rfl;simp only[go_sem,jw,b18,Tryz.f18,hd,hx,hr,hq,hw,ed,e13,n10,e3,e0,app]
 have e0:(x==0)=false:=by simp[h0]
 have ed:HJ (last==13) x=[x]:=by simp[HJ,e10,e13,e3,e0]
 simp only[go_sem,jw,b18,Tryz.f18,hd,hx,hr,hq,hw,ed,e13,n10,e3,e0,app]
theorem Jb5{lo:Nat}{l:List Int}{h:JC}(hl:l.length<=1000000000):∀(n i:Nat) (out:List Int) (last:Int),n=l.length-i->i<=l.length->out.length<=i->
  ∃last':Int,JA (evCode ⟨Aa,E,lo,h.length,h18⟩ JA jw) ([(3,.list .yes (ri .i32 out)),(4,.v (.int .i32 last)),(32,.list .no (ri .i32 l)),(33,.v (.int .i64 l.length)),(34,.v (.int .i64 i))],h)=
   some (.exit 0,[(3,.list .yes (ri .i32 (out++dec (last==13) (l.drop i)))),(4,.v (.int .i32 last')),(32,.list .no (ri .i32 l)),(33,.v (.int .i64 l.length)),(34,.v (.int .i64 l.length)),(35,.v (.bool false))],h):=by
 intro n
 induction n with
 |zero=>
  intro i out last hn hi ho;obtain rfl:i=l.length:=om;rw[loop_eq];have hd:decide ((l.length:Int)<l.length)=false:=by simp
  refine⟨last,?_⟩
  simp only[go_sem,jw,b18,Tryz.f18,hd,Be,dec]
 |succ n ih=>
  intro i out last hn hi ho;have hlt:i<l.length:=om;have hx:l[i]? =some l[i]:=Ac hlt
  have he:=JGl (last==13) l[i];obtain⟨b',hb⟩:=ih (i+1) (out++HJ (last==13) l[i]) l[i] om om (by rw[List.length_append];omega)
  refine⟨b',?_⟩
  rw[loop_eq,JWr hx hlt hl om,JK,hb,AD hlt,dec,Ao]
theorem JKu(b:List Int):(WJ b).length<=b.length:=(zR b).1
theorem JGm(b:List Int):(Wl b).length<=b.length:=by
 unfold Wl
 split
 ·rw[List.length_drop];omega
 ·omega
theorem f18{lo:Nat}{b:List Int}{h:JC}(hb:b.length<=1000000000)(hy:By b):E lo 18 [.list .no (ri .u8 b)] h=some (.list .no (ri .i32 (Utf.decode b)),h):=by
 rw[e18];have hr:=JKu (Wl b);have hs:=JGm b;have hf:=λlo h=>f37 (lo:=lo) (h:=h) (b:=Wl b) om (JRd hy)
 obtain⟨q,hL⟩:=Jb5 (lo:=lo) (h:=h) (l:=WJ (Wl b)) om _ 0 [] 0 rfl om (by simp)
 have z:((0:Int)==13)=false:=rfl;simp only[jw,b18,Tryz.f18,JD,JT,JB,go_sem,Ko,Az,z]at hL;rw[Utf.decode];by_cases h3:3<=b.length
 ·have t3:decide ((3:Int)<=b.length)=true:=by simp;omega
  obtain⟨a1,a2,a3,t,he⟩:∃a1 a2 a3 t,b=a1::a2::a3::t:=by
   match b,h3 with
   |a1::a2::a3::t,_=>exact⟨_,_,_,_,rfl⟩
  have x1:b[0]? =some a1:=by rw[he]<;>rfl
  have x2:b[1]? =some a2:=by rw[he]<;>rfl
  have x3:b[2]? =some a3:=by rw[he]<;>rfl
  have hv:bom b=(a1==239&&(a2==187&&a3==191)):=by rw[he];simp[bom]
  cases hm:bom b with
  |true=>
   have hd:Wl b=b.drop 3:=by rw[Wl,if_pos hm]
   rw[hv]at hm;simp only[Af]at hm;rw[hd]at hf hL⊢
   simp only[go_sem,b18,Tryz.f18,t3,x1,x2,x3,hm.1,hm.2.1,hm.2.2,Q9,WA,h3,Ab,and_self,hf,hL]
  |false=>
   have hd:Wl b=b:=by rw[Wl,if_neg (by simp[hm])]
   rw[hv]at hm;rw[hd]at hf hL⊢
   cases g1:a1==239 with
   |false=>simp only[go_sem,b18,Tryz.f18,t3,x1,x2,x3,g1,hf,hL]
   |true=>
    cases g2:a2==187 with
    |false=>simp only[go_sem,b18,Tryz.f18,t3,x1,x2,x3,g1,g2,hf,hL]
    |true=>
     cases g3:a3==191 with
     |false=>simp only[go_sem,b18,Tryz.f18,t3,x1,x2,x3,g1,g2,g3,hf,hL]
     |true=>simp[g1,g2,g3]at hm
 ·have t3:decide ((3:Int)<=b.length)=false:=by simp;omega
  have hm:bom b=false:=by
   match b,h3 with
   |[],_=>rfl
   |[_],_=>simp[bom]
   |[_,_],_=>simp[bom]
   |_::_::_::_,h3=>simp at h3
  have hd:Wl b=b:=by rw[Wl,if_neg (by simp[hm])]
  rw[hd]at hf hL⊢;simp only[go_sem,b18,Tryz.f18,t3,hf,hL]
end Go.Lift.M1.T
end

section
open Go.Proofs
namespace Go.Lift.M1.T
variable[MX]
open Utf Tok
def str(l:List Int):ByteArray:=⟨(Q1 (JJ l)).toArray⟩
theorem jH(c:Int)(t:List Int):chr (c::t) 0=c:=rfl
theorem ZY(c:Int)(t:List Int)(k:Nat):chr (c::t) (k+1)=chr t k:=by simp[chr]
section
variable{lo i:Nat}{l:List Int}{p q:List Ob}
end
theorem f90{lo:Nat}{c:Int}{h:JC}:E lo 90 [.v (.int .i32 c)] h=some (.v (.bool (dig c)),h):=by rw[e90];simp only[go_sem,b90,Tryz.f90,dig]
theorem f89{lo:Nat}{c:Int}{h:JC}:E lo 89 [.v (.int .i32 c)] h=some (.v (.bool (kW c)),h):=by rw[e89];simp only[go_sem,b89,Tryz.f89,kW]
theorem f57{lo:Nat}{c:Int}{h:JC}:E lo 57 [.v (.int .i32 c)] h=some (.v (.bool (GR c)),h):=by rw[e57];simp only[go_sem,b57,Tryz.f57,f89,f90,GR]
theorem f54{lo:Nat}{c:Int}{h:JC}:E lo 54 [.v (.int .i32 c)] h=some (.v (.bool (blk c)),h):=by rw[e54];simp only[go_sem,b54,Tryz.f54,blk]
theorem f119{lo:Nat}{c:Int}{h:JC}:E lo 119 [.v (.int .i32 c)] h=some (.v (.bool (unp c)),h):=by rw[JoL];simp only[go_sem,Jhh,Tryz.f119,unp]
theorem f58{lo:Nat}{a b:Int}{h:JC}:E lo 58 [.v (.int .i32 a),.v (.int .i32 b)] h=some (.v (.bool (esc a b)),h):=by rw[e58];simp only[go_sem,b58,Tryz.f58,esc]
theorem f59{lo:Nat}{a b c:Int}{h:JC}:E lo 59 [.v (.int .i32 a),.v (.int .i32 b),.v (.int .i32 c)] h=some (.v (.bool (beg a b c)),h):=by
 rw[e59]
 cases ha:a==45 with
 |true=>simp only[go_sem,b59,Tryz.f59,f89,f58,ha,beg]
 |false=>simp only[go_sem,b59,Tryz.f59,f89,f58,ha,beg,Am]
theorem f61{lo:Nat}{a b c:Int}{h:JC}:E lo 61 [.v (.int .i32 a),.v (.int .i32 b),.v (.int .i32 c)] h=some (.v (.bool (num a b c)),h):=by
 rw[e61]
 cases ha:a==43||a==45 with
 |true=>simp only[go_sem,b61,Tryz.f61,f90,ha,num]
 |false=>simp only[go_sem,b61,Tryz.f61,f90,ha,num,Am]
def JWs(c:Int):V:= .tup [.v (.int .i32 (if hex c<0 then 0 else hex c)),.v (.bool (decide (0<=hex c)))]
theorem f114{lo:Nat}{c:Int}{h:JC}(h0: -1<=c)(h1:c<=1114111):E lo 114 [.v (.int .i32 c)] h=some (JWs c,h):=by
 rw[JoD];have w1:AF.wrap (c-48)=c-48:=Go.Lift.wrap_i32 om om;have w2:AF.wrap (c-97)=c-97:=Go.Lift.wrap_i32 om om;have w3:AF.wrap (c-97+10)=c-97+10:=Go.Lift.wrap_i32 om om;have w4:AF.wrap (c-65)=c-65:=Go.Lift.wrap_i32 om om;have w5:AF.wrap (c-65+10)=c-65+10:=Go.Lift.wrap_i32 om om;unfold JWs hex
 cases hd:dig c with
 |true=>
  simp only[dig,Af,decide_eq_true_eq]at hd;have hp:¬(c-48<0):=om;have hp2:0<=c-48:=om;have hd':dig c=true:=by simp[dig];omega
  simp only[go_sem,JR1,Tryz.f114,f90,hd',w1,hp,hp2]
 |false=>
  cases ha:decide (97<=c)&&decide (c<=102)with
  |true=>
   have hb:=ha;simp only[Af,decide_eq_true_eq]at hb;have hp:¬(c-97+10<0):=om;have hp2:0<=c-97+10:=om
   simp only[go_sem,JR1,Tryz.f114,f90,hd,ha,w2,w3,hp,hp2,Am]
  |false=>
   cases hb:decide (65<=c)&&decide (c<=70)with
   |true=>
    have hb2:=hb;simp only[Af,decide_eq_true_eq]at hb2;have hp:¬(c-65+10<0):=om;have hp2:0<=c-65+10:=om
    simp only[go_sem,JR1,Tryz.f114,f90,hd,ha,hb,w4,w5,hp,hp2,Am]
   |false=>simp only[go_sem,JR1,Tryz.f114,f90,hd,ha,hb,Am]
section
variable{lo i:Nat}{l:List Int}{p q:List Ob}
theorem f35{k:Nat}(hi:i+k<=1000000000000):E lo 35 [.ptr p.length 0,.v (.int .i64 k)] (p++R l i::q)=some (.v (.int .i32 (chr (suf l i) k)),p++R l i::q):=by
 have hw:Aq.wrap ((i:Int)+k)=((i+k:Nat):Int):=by rw[JN om om];omega
 rw[e35,JBG];by_cases hl:i+k<l.length
 ·have hx:l[i+k]? =some l[i+k]:=Ac hl
  have hd:decide ((l.length:Int)<=(i+k:Nat))=false:=by simp;omega
  rw[hx];generalize l[i+k]=x at hx;have hsc:=yZ x
  cases hs:isc x with
  |true=>
   have:JQ x=x:=by rw[<-hsc,hs]<;>rfl
   simp only[go_sem,b35,Tryz.f35,hw,hd,hx,f53,hs,this]
  |false=>
   have:JQ x=65533:=by rw[<-hsc,hs]<;>rfl
   simp only[go_sem,b35,Tryz.f35,hw,hd,hx,f53,hs,this]
 ·have hx:l[i+k]? =none:=List.getElem?_eq_none om
  have hd:decide ((l.length:Int)<=(i+k:Nat))=true:=by simp;omega
  rw[hx];simp only[go_sem,b35,Tryz.f35,hw,hd,hx]
theorem Jps{lo:Nat}{l:List Int}{h:JC}(hl:l.length<=35184372088832):E lo 94 [.list .no (ri .i32 l)] h=some (.list .no (ri .u8 (JJ l)),h):=f94 hl
theorem f64{lo:Nat}{l:List Int}{h:JC}(hl:l.length<=35184372088832):E lo 64 [.list .no (ri .i32 l)] h=some (.v (.string (str l)),h):=by rw[e64];simp only[go_sem,b64,Tryz.f64,Jps hl];rfl
theorem Jb6(hl:l.length<=100000000000):∀(n i:Nat),l.length-i<=n->i<=l.length->
  ∃j,j<=l.length/\i<=j/\suf l j=K5 (suf l i)/\
   ∀lo (p q:List Ob),lo<=p.length->JA (evCode ⟨Aa,E,lo,p.length+(q.length+1),h55⟩ JA JGQ) ([(0,.ptr p.length 0)],p++R l i::q)=some (.exit 0,[(0,.ptr p.length 0),(4,.v (.bool false))],p++R l j::q):=by
 intro n
 induction n with
 |zero=>
  intro i h1 h2;obtain rfl:i=l.length:=om;have k0:=λlo p q=>f35 (lo:=lo) (l:=l) (i:=l.length) (p:=p) (q:=q) (k:=0) om
  have hs:suf l l.length=[]:=Jz (Ab _);simp only[n0,hs,QJ]at k0;refine⟨l.length,Ab _,Ab _,by rw[hs]<;>rfl,λlo p q hlo=>?_⟩
  rw[loop_eq]
  simp only[go_sem,JGQ,b55,Tryz.f55,k0,f54,JKt]
 |succ n ih=>
  intro i h1 h2;have k0:=λlo p q=>f35 (lo:=lo) (l:=l) (i:=i) (p:=p) (q:=q) (k:=0) om
  simp only[n0]at k0;have hw:=JH (i:=i) om
  cases hb:blk (chr (suf l i) 0)with
  |false=>
   refine⟨i,h2,Ab _,?_,λlo p q hlo=>?_⟩
   ·by_cases hi:i<l.length
    ·rw[KK hi]at hb⊢
     exact(List.dropWhile_cons_of_neg (by simpa[chr]using hb)).symm
    ·rw[Jz om]<;>rfl
   ·rw[loop_eq]
    simp only[go_sem,JGQ,b55,Tryz.f55,k0,f54,hb]
  |true=>
   have hi:i<l.length:=by
    rcases AG i l.length with h|h
    ·exact h
    ·rw[Jz h]at hb;exact absurd hb (by decide)
   obtain⟨j,j1,j2,j3,j4⟩:=ih (i+1) om om;refine⟨j,j1,om,?_,λlo p q hlo=>?_⟩
   ·rw[j3,KK hi]
    exact(List.dropWhile_cons_of_pos (by simpa using hb)).symm
   ·rw[loop_eq]
    have e:evCode ⟨Aa,E,lo,p.length+(q.length+1),h55⟩ JA JGQ ([(0,.ptr p.length 0)],p++R l i::q)=some (.normal,[(0,.ptr p.length 0)],p++R l (i+1)::q):=by simp only[go_sem,JGQ,b55,Tryz.f55,k0,f54,hb,hw,hlo]
    rw[e,JK];exact j4 lo p q hlo
theorem f55(hl:l.length<=100000000000)(hi:i<=l.length):∃j,j<=l.length/\i<=j/\suf l j=K5 (suf l i)/\
  ∀lo p q,lo<=p.length->E lo 55 [.ptr p.length 0] (p++R l i::q)=some (.tup [],p++R l j::q):=by
 obtain⟨j,j1,j2,j3,j4⟩:=Jb6 (l:=l) hl l.length i om hi;refine⟨j,j1,j2,j3,λlo p q hlo=>?_⟩
 have hL:=j4 lo p q hlo;rw[e55];simp only[JGQ,b55,Tryz.f55,JD,JT,JB,go_sem]at hL;simp only[go_sem,b55,Tryz.f55,hL]
theorem Jb7(hl:l.length<=100000000000):∀(n k i:Nat) (v:Int),n+k=6->i<=l.length->0<=v->v<16^k->
  ∃(j:Nat) (t x:Int) (b:Bool),j<=l.length/\i<=j/\suf l j=(YU n v (suf l i)).2/\0<=(YU n v (suf l i)).1/\(YU n v (suf l i)).1<16777216/\
   ∀lo (p q:List Ob),lo<=p.length->JA (evCode ⟨Aa,E,lo,p.length+(q.length+1),h88⟩ JA JCV)
    ([(0,.ptr p.length 0),(3,.v (.int .i32 (if hex (chr (suf l i) 0)<0 then 0 else hex (chr (suf l i) 0)))),(4,.v (.bool (decide (0<=hex (chr (suf l i) 0))))),(6,.v (.int .i32 v)),(7,.v (.int .i64 k))],p++R l i::q)=
    some (.exit 0,[(0,.ptr p.length 0),(3,.v (.int .i32 x)),(6,.v (.int .i32 (YU n v (suf l i)).1)),(7,.v (.int .i64 t)),(32,.v (.bool false))],p++R l j::q):=by
 intro n
 induction n with
 |zero=>
  intro k i v hk hi h0 h1;obtain rfl:k=6:=om;refine⟨i,6,(if hex (chr (suf l i) 0)<0 then 0 else hex (chr (suf l i) 0)),false,hi,Ab _,rfl,h0,by simpa[YU]using h1,λlo p q hlo=>?_⟩
  have n6:((6:Nat):Int)=6:=rfl;rw[loop_eq];simp only[n6]
  simp only[go_sem,JCV,b88,Tryz.f88,YU]
 |succ n ih=>
  intro k i v hk hi h0 h1;have hd:decide ((k:Int)<6)=true:=by simp;omega
  have hw:=JH (i:=k) om;have hwi:=JH (i:=i) om
  have hp:(16:Int)^k<=1048576:=by have:k=0\/k=1\/k=2\/k=3\/k=4\/k=5:=om;rcases this with h|h|h|h|h|h<;>rw[h]<;>decide
  have hup:=Jb4 (chr (suf l i) 0);by_cases hx:hex (chr (suf l i) 0)<0
  ·have hd2:decide (0<=hex (chr (suf l i) 0))=false:=by simp;omega
   have e1:YU (n+1) v (suf l i)=(v,suf l i):=by
    by_cases hi':i<l.length
    ·rw[KK hi']at hx⊢
     simp only[YU];rw[if_pos (by simpa[chr]using hx)]
    ·rw[Jz om]<;>rfl
   rw[e1,if_pos hx];refine⟨i,k,0,false,hi,Ab _,rfl,h0,by simp only;omega,λlo p q hlo=>?_⟩
   rw[loop_eq];simp only[go_sem,JCV,b88,Tryz.f88,hd,hd2]
  ·have hd2:decide (0<=hex (chr (suf l i) 0))=true:=by simp;omega
   have hi':i<l.length:=by
    rcases AG i l.length with h|h
    ·exact h
    ·rw[Jz h,QJ,JKs]at hx;omega
   have e1:YU (n+1) v (suf l i)=YU n (v*16+hex (chr (suf l i) 0)) (suf l (i+1)):=by
    rw[KK hi']at hx;rw[KK hi'];simp only[YU];rw[if_neg (by simpa[chr]using hx)]
    simp[chr]
   have w1:AF.wrap (v*16)=v*16:=Go.Lift.wrap_i32 om om;have w2:AF.wrap (v*16+hex (chr (suf l i) 0))=v*16+hex (chr (suf l i) 0):=Go.Lift.wrap_i32 om om;have hpow:(16:Int)^ (k+1)=16^k*16:=Int.pow_succ ..;obtain⟨j,t,x,b,j1,j2,j3,j4,j5,j6⟩:=ih (k+1) (i+1) (v*16+hex (chr (suf l i) 0)) om om om (by rw[hpow];omega)
   have k0:=λlo p q=>f35 (lo:=lo) (l:=l) (i:=i+1) (p:=p) (q:=q) (k:=0) om
   have hc:=JS6 l (i+1) 0;have kh:=λlo h=>f114 (lo:=lo) (h:=h) hc.1 hc.2
   simp only[n0,JWs]at k0 kh;rw[e1,if_neg hx];refine⟨j,t,x,b,j1,om,j3,j4,j5,λlo p q hlo=>?_⟩
   have e:evCode ⟨Aa,E,lo,p.length+(q.length+1),h88⟩ JA JCV ([(0,.ptr p.length 0),(3,.v (.int .i32 (hex (chr (suf l i) 0)))),(4,.v (.bool (decide (0<=hex (chr (suf l i) 0))))),(6,.v (.int .i32 v)),(7,.v (.int .i64 k))],p++R l i::q)=
     some (.normal,[(0,.ptr p.length 0),(3,.v (.int .i32 (if hex (chr (suf l (i+1)) 0)<0 then 0 else hex (chr (suf l (i+1)) 0)))),(4,.v (.bool (decide (0<=hex (chr (suf l (i+1)) 0))))),(6,.v (.int .i32 (v*16+hex (chr (suf l i) 0)))),(7,.v (.int .i64 (k+1:Nat)))],p++R l (i+1)::q):=by
    simp only[go_sem,JCV,b88,Tryz.f88,hd,k0,kh,hd2,w1,w2,hw,hwi,hlo]
   rw[loop_eq,e,JK];exact j6 lo p q hlo
end
def JCv:List Int->List Int
 |[]=>[]
 |[_]=>[]
 |c::d::t=>if c=42/\d=47 then c::d::t else JCv (d::t)
theorem JN9:∀s:List Int,yO s=(JCv s).drop 2
 |[]=>rfl
 |[_]=>rfl
 |c::d::t=>by
  unfold yO JCv
  split
  ·rfl
  ·exact JN9 (d::t)
section
variable{lo i:Nat}{l:List Int}{p q:List Ob}
theorem JWt(l:List Int)(i:Nat)(a b:Int)(t:List Int)(h:suf l i=a::b::t):suf l (i+2)=t/\i+2<=l.length:=by
 have h1:suf l (i+2)=(suf l i).drop 2:=by simp[suf,AV]
 have h2:=Kz l i;rw[h,Ae,Ae]at h2;exact⟨by rw[h1,h]<;>rfl,om⟩
end
def tokC(k:Int)(t:List Int):List V:=[.v (.int .i64 k),.v (.string (str t)),.v (.int .i64 0),.v (.int .i64 0),.v (.bool false),.v (.bool false)]
theorem str_nil:str []=AA:=rfl
theorem JCw(sign:Int)(m:Nat):QP sign m []=(true,[],[]):=by cases m<;>rfl
theorem Yk{l:List Int}{i:Nat}(hi:i<l.length):0<=chr (suf l i) 0:=by
 rw[JBG,BH,Ac hi]
 exact(KO _).1
section
variable{lo i:Nat}{l:List Int}{p q:List Ob}
end
section
variable{lo i:Nat}{l:List Int}{p q:List Ob}
theorem JS8(m:Nat):jl m []=[]:=by cases m<;>rfl
end
section
variable{lo i:Nat}{l:List Int}{p q:List Ob}
theorem f88(hl:l.length<=100000000000)(hi:i<=l.length):∃j,j<=l.length/\i<=j/\suf l j=(K6 (suf l i)).2/\
  ∀lo p q,lo<=p.length->E lo 88 [.ptr p.length 0] (p++R l i::q)=some (.v (.int .i32 (K6 (suf l i)).1),p++R l j::q):=by
 have k0:=λlo p q=>f35 (lo:=lo) (l:=l) (i:=i) (p:=p) (q:=q) (k:=0) om
 have hc:=JS6 l i 0;have kh:=λlo h=>f114 (lo:=lo) (h:=h) hc.1 hc.2
 have hwi:=JH (i:=i) om;simp only[n0,JWs]at k0 kh;by_cases hx:hex (chr (suf l i) 0)<0
 ·have hd:decide (0<=hex (chr (suf l i) 0))=false:=by simp;omega
  by_cases hi':i<l.length
  ·have hne:(chr (suf l i) 0== -1)=false:=by
    have:=Yk hi';simp;omega
   have e1:K6 (suf l i)=(chr (suf l i) 0,suf l (i+1)):=by have h1:=KK hi';generalize chr (suf l i) 0=c at h1 hx;rw[h1];simp only[K6];rw[if_pos hx]
   rw[e1];refine⟨i+1,om,om,rfl,λlo p q hlo=>?_⟩
   rw[e88];simp only[go_sem,b88,Tryz.f88,k0,kh,hd,hne,hwi,hlo]
  ·have hs:suf l i=[]:=Jz om
   have hd':decide (0<=hex (-1))=false:=by decide
   have hne:((-1:Int)== -1)=true:=rfl;simp only[hs,QJ]at k0 kh;rw[hs];refine⟨i,hi,Ab _,by rw[hs]<;>rfl,λlo p q hlo=>?_⟩
   rw[e88];simp only[go_sem,b88,Tryz.f88,k0,kh,hd',hne];rfl
 ·have hd:decide (0<=hex (chr (suf l i) 0))=true:=by simp;omega
  have hi':i<l.length:=by
   rcases AG i l.length with h|h
   ·exact h
   ·rw[Jz h,QJ,JKs]at hx;omega
  have e1:K6 (suf l i)=(if(YU 6 0 (suf l i)).1=0 then 65533 else JQ (YU 6 0 (suf l i)).1,JDe (YU 6 0 (suf l i)).2):=by have h1:=KK hi';generalize chr (suf l i) 0=c at h1 hx;rw[h1];simp only[K6];rw[if_neg hx]
  obtain⟨j,t,x,b,j1,j2,j3,j4,j5,j6⟩:=Jb7 (l:=l) hl 6 0 i 0 rfl hi (Int.le_refl _) (by decide)
  have hone:=JS7 l j1;have kj:=λlo p q=>f35 (lo:=lo) (l:=l) (i:=j) (p:=p) (q:=q) (k:=0) om
  have hwj:=JH (i:=j) om;simp only[n0]at kj;rw[e1];rw[if_neg hx]at j6 kh;generalize hv:(YU 6 0 (suf l i)).1=v at j4 j5 j6
  cases hb:blk (chr (suf l j) 0)with
  |true=>
   obtain⟨hj',hone⟩:=hone.1 hb;refine⟨j+1,om,om,by rw[<-j3,hone],λlo p q hlo=>?_⟩
   have hL:=j6 lo p q hlo;rw[e88];simp only[JCV,b88,Tryz.f88,JD,JT,JB,go_sem,hd]at hL;by_cases v0:v=0
   ·subst v0
    have t0:((0:Int)==0)=true:=rfl;simp only[go_sem,b88,Tryz.f88,k0,kh,hd,hL,kj,f54,hb,hwj,hlo,t0]
   ·have t0:(v==0)=false:=by simp[v0]
    rw[if_neg v0,<-yZ]
    cases hs:isc v with
    |true=>simp only[go_sem,b88,Tryz.f88,k0,kh,hd,hL,kj,f54,hb,hwj,hlo,t0,f53,hs]
    |false=>simp only[go_sem,b88,Tryz.f88,k0,kh,hd,hL,kj,f54,hb,hwj,hlo,t0,f53,hs]
  |false=>
   refine⟨j,j1,j2,by rw[<-j3,hone.2 hb],λlo p q hlo=>?_⟩
   have hL:=j6 lo p q hlo;rw[e88];simp only[JCV,b88,Tryz.f88,JD,JT,JB,go_sem,hd]at hL;by_cases v0:v=0
   ·subst v0
    have t0:((0:Int)==0)=true:=rfl;simp only[go_sem,b88,Tryz.f88,k0,kh,hd,hL,kj,f54,hb,t0]
   ·have t0:(v==0)=false:=by simp[v0]
    rw[if_neg v0,<-yZ]
    cases hs:isc v with
    |true=>simp only[go_sem,b88,Tryz.f88,k0,kh,hd,hL,kj,f54,hb,t0,f53,hs]
    |false=>simp only[go_sem,b88,Tryz.f88,k0,kh,hd,hL,kj,f54,hb,t0,f53,hs]
theorem Jb8(hl:l.length<=100000000000):∀(m i:Nat) (out:List Int),(suf l i).length<=m->i<=l.length->out.length<=i->
  ∃j,j<=l.length/\i<=j/\suf l j=(QD m (suf l i)).2/\
   ∀lo (p q:List Ob),lo<=p.length->JA (evCode ⟨Aa,E,lo,p.length+(q.length+1),h60⟩ JA yT) ([(0,.ptr p.length 0),(3,.list .yes (ri .i32 out))],p++R l i::q)=
    some (.ret,[(2,.v (.string (str (out++(QD m (suf l i)).1))))],p++R l j::q):=by
 have stop:∀(m i:Nat) (out:List Int),suf l i=[]->i<=l.length->out.length<=i->
  ∃j,j<=l.length/\i<=j/\suf l j=(QD m (suf l i)).2/\
   ∀lo (p q:List Ob),lo<=p.length->JA (evCode ⟨Aa,E,lo,p.length+(q.length+1),h60⟩ JA yT) ([(0,.ptr p.length 0),(3,.list .yes (ri .i32 out))],p++R l i::q)=
    some (.ret,[(2,.v (.string (str (out++(QD m (suf l i)).1))))],p++R l j::q):=by
  intro m i out hs h2 h3;have k0:=λlo p q=>f35 (lo:=lo) (l:=l) (i:=i) (p:=p) (q:=q) (k:=0) om
  have k1:=λlo p q=>f35 (lo:=lo) (l:=l) (i:=i) (p:=p) (q:=q) (k:=1) om
  have n1:((1:Nat):Int)=1:=rfl;have kf:=λlo h=>f64 (lo:=lo) (l:=out) (h:=h) om
  simp only[n0,n1,hs,QJ]at k0 k1;have e:QD m []=([],[]):=by cases m<;>rfl
  have t0:((-1:Int) != -1)=false:=rfl;have t1:esc (-1) (-1)=false:=by decide
  refine⟨i,h2,Ab _,by rw[hs,e],λlo p q hlo=>?_⟩
  rw[loop_eq,hs,e,Av];simp only[go_sem,yT,b60,Tryz.f60,k0,k1,f58,t0,t1,kf]
 intro m
 induction m with
 |zero=>
  intro i out h1 h2 h3
  exact stop 0 i out (AC om) h2 h3
 |succ m ih=>
  intro i out h1 h2 h3;rcases AG i l.length with hi|hi
  rotate_left
  ·exact stop (m+1) i out (Jz hi) h2 h3
  have hcp:=Yk hi;have k0:=λlo p q=>f35 (lo:=lo) (l:=l) (i:=i) (p:=p) (q:=q) (k:=0) om
  have k1:=λlo p q=>f35 (lo:=lo) (l:=l) (i:=i) (p:=p) (q:=q) (k:=1) om
  have n1:((1:Nat):Int)=1:=rfl;have kf:=λlo h=>f64 (lo:=lo) (l:=out) (h:=h) om
  have hwi:=JH (i:=i) om;have hr:∀k,k<=4->(out.length+k)*4<=140737488355328:=by intro k hk;omega
  have hq:∀k,9223372036854775800<=k->out.length<=k:=by intro k hk;omega
  have app:∀y:Int,ri .i32 out++[[V.v (.int .i32 y)]]=ri .i32 (out++[y]):=by intro y;rw[<-ri_app]<;>rfl
  simp only[n0,n1]at k0 k1;have hs:=KK hi;have hn:chr (suf l i) 1=chr (suf l (i+1)) 0:=by rw[hs];exact ZY _ _ 0
  rw[hn]at k1;generalize chr (suf l i) 0=c at hs k0 hcp;rw[hs]at h1⊢;simp only[Ae]at h1;have te:(c != -1)=true:=by simp;omega
  cases hc:GR c with
  |true=>
   obtain⟨j,j1,j2,j3,j4⟩:=ih (i+1) (out++[c]) om om (by simp;omega)
   refine⟨j,j1,om,?_,λlo p q hlo=>?_⟩
   ·rw[j3];simp only[QD];rw[if_pos hc]
   ·have e:evCode ⟨Aa,E,lo,p.length+(q.length+1),h60⟩ JA yT ([(0,.ptr p.length 0),(3,.list .yes (ri .i32 out))],p++R l i::q)=
      some (.normal,[(0,.ptr p.length 0),(3,.list .yes (ri .i32 (out++[c])))],p++R l (i+1)::q):=by
     simp only[go_sem,yT,b60,Tryz.f60,k0,f57,te,hc,hwi,hlo,hr,hq,and_self,app]
    rw[loop_eq,e,JK,j4 lo p q hlo];simp only[QD];rw[if_pos hc,Ao]
    rfl
  |false=>
   cases he:esc c (chr (suf l (i+1)) 0)with
   |true=>
    obtain⟨j0,a1,a2,a3,a4⟩:=f88 (l:=l) (i:=i+1) hl om;obtain⟨j,j1,j2,j3,j4⟩:=ih j0 (out++[(K6 (suf l (i+1))).1]) (by rw[Kz]at h1⊢;omega) a1 (by simp;omega)
    refine⟨j,j1,om,?_,λlo p q hlo=>?_⟩
    ·rw[j3,a3];simp only[QD];rw[hc,he];simp
    ·have e:evCode ⟨Aa,E,lo,p.length+(q.length+1),h60⟩ JA yT ([(0,.ptr p.length 0),(3,.list .yes (ri .i32 out))],p++R l i::q)=
       some (.normal,[(0,.ptr p.length 0),(3,.list .yes (ri .i32 (out++[(K6 (suf l (i+1))).1])))],p++R l j0::q):=by
      simp only[go_sem,yT,b60,Tryz.f60,k0,k1,f57,f58,te,hc,he,hwi,hlo,a4 _ _ _ hlo,hr,hq,and_self,app]
     rw[loop_eq,e,JK,j4 lo p q hlo,a3];simp only[QD];rw[hc,he]
     simp
   |false=>
    refine⟨i,h2,Ab _,?_,λlo p q hlo=>?_⟩
    ·simp only[QD];rw[hc,he,hs];simp
    ·rw[loop_eq]
     simp only[go_sem,yT,b60,Tryz.f60,k0,k1,f57,f58,te,hc,he,kf];simp only[QD];rw[hc,he];simp[str]
theorem f60(hl:l.length<=100000000000)(hi:i<=l.length):∃j,j<=l.length/\i<=j/\suf l j=(name (suf l i)).2/\
  ∀lo p q,lo<=p.length->E lo 60 [.ptr p.length 0] (p++R l i::q)=some (.v (.string (str (name (suf l i)).1)),p++R l j::q):=by
 obtain⟨j,j1,j2,j3,j4⟩:=Jb8 (l:=l) hl (suf l i).length i [] (Ab _) hi (by simp)
 refine⟨j,j1,j2,j3,λlo p q hlo=>?_⟩
 have hL:=j4 lo p q hlo;rw[e60];simp only[yT,b60,Tryz.f60,JD,JT,JB,go_sem,Ko]at hL;simp only[go_sem,b60,Tryz.f60,hL];rfl
end
section
variable{lo i:Nat}{l:List Int}{p q:List Ob}
theorem JWu(hl:l.length<=100000000000):∀(m i:Nat),(suf l i).length<=m->i<=l.length->
  ∃j,j<=l.length+2/\i<=j/\suf l j=jl m (suf l i)/\
   ∀lo (p q:List Ob) (ex:Jj),(ex=[]\/ ∃b,ex=[(23,.v (.bool b))])->lo<=p.length->lo<=p.length+(q.length+1)->
   JA (evCode ⟨Aa,E,lo,p.length+(q.length+1),JPS⟩ JA W0) ((0,.ptr p.length 0)::(2,.ptr (p.length+(q.length+1)) 0)::ex,p++R l i::(q++[.cells (tokC 0 [])]))=
    some (.ret,[(2,.ptr (p.length+(q.length+1)) 0)],p++R l j::(q++[.cells (tokC 8 [])])):=by
 have stop:∀(m i:Nat),suf l i=[]->i<=l.length->
  ∃j,j<=l.length+2/\i<=j/\suf l j=jl m (suf l i)/\
   ∀lo (p q:List Ob) (ex:Jj),(ex=[]\/ ∃b,ex=[(23,.v (.bool b))])->lo<=p.length->lo<=p.length+(q.length+1)->
   JA (evCode ⟨Aa,E,lo,p.length+(q.length+1),JPS⟩ JA W0) ((0,.ptr p.length 0)::(2,.ptr (p.length+(q.length+1)) 0)::ex,p++R l i::(q++[.cells (tokC 0 [])]))=
    some (.ret,[(2,.ptr (p.length+(q.length+1)) 0)],p++R l j::(q++[.cells (tokC 8 [])])):=by
  intro m i hs h2;have hlen:=Kz l i;rw[hs,An]at hlen;have k0:=λlo p q=>f35 (lo:=lo) (l:=l) (i:=i) (p:=p) (q:=q) (k:=0) om
  have hwi:=JH (i:=i) om;simp only[n0,hs,QJ]at k0;refine⟨i+1,om,om,by rw[hs,JS8,Jz om],λlo p q ex hex hlo hlo2=>?_⟩
  have t1:((-1:Int)== -1)=true:=rfl;rw[loop_eq];rcases hex with rfl|⟨b,rfl⟩
  ·simp only[go_sem,W0,JAz,Tryz.f118,k0,t1,hlo,hlo2,hwi,tokC]
   rfl
  ·simp only[go_sem,W0,JAz,Tryz.f118,k0,t1,hlo,hlo2,hwi,tokC]
   rfl
 intro m
 induction m with
 |zero=>
  intro i h1 h2
  exact stop 0 i (AC om) h2
 |succ m ih=>
  intro i h1 h2;rcases AG i l.length with hi|hi
  rotate_left
  ·exact stop (m+1) i (Jz hi) h2
  have hcp:=Yk hi;have k0:=λlo p q=>f35 (lo:=lo) (l:=l) (i:=i) (p:=p) (q:=q) (k:=0) om
  have k1:=λlo p q=>f35 (lo:=lo) (l:=l) (i:=i+1) (p:=p) (q:=q) (k:=0) om
  have hwi:=JH (i:=i) om;simp only[n0]at k0 k1;have hs:=KK hi;generalize chr (suf l i) 0=c at hs k0 hcp;rw[hs]at h1⊢;simp only[Ae]at h1;have te:(c== -1)=false:=by simp;omega
  by_cases c41:c=41
  ·subst c41
   have t0:((41:Int)==41)=true:=rfl;have e:jl (m+1) (41::suf l (i+1))=suf l (i+1):=by simp[jl]
   refine⟨i+1,om,om,by rw[e],λlo p q ex hex hlo hlo2=>?_⟩
   rw[loop_eq];rcases hex with rfl|⟨b,rfl⟩
   ·simp only[go_sem,W0,JAz,Tryz.f118,k0,te,t0,hlo,hlo2,hwi,tokC]
    rfl
   ·simp only[go_sem,W0,JAz,Tryz.f118,k0,te,t0,hlo,hlo2,hwi,tokC]
    rfl
  have t0:(c==41)=false:=by simp[c41]
  cases he:esc c (chr (suf l (i+1)) 0)with
  |true=>
   obtain⟨j0,a1,a2,a3,a4⟩:=f88 (l:=l) (i:=i+1) hl om
   have e:jl (m+1) (c::suf l (i+1))=jl m (K6 (suf l (i+1))).2:=by simp only[jl];rw[if_neg c41,if_pos he]
   obtain⟨j,j1,j2,j3,j4⟩:=ih j0 (by rw[Kz]at h1⊢;omega) a1
   refine⟨j,j1,om,by rw[j3,e,a3],λlo p q ex hex hlo hlo2=>?_⟩
   have er:evCode ⟨Aa,E,lo,p.length+(q.length+1),JPS⟩ JA W0 ((0,.ptr p.length 0)::(2,.ptr (p.length+(q.length+1)) 0)::ex,p++R l i::(q++[.cells (tokC 0 [])]))=
     some (.normal,[(0,.ptr p.length 0),(2,.ptr (p.length+(q.length+1)) 0)],p++R l j0::(q++[.cells (tokC 0 [])])):=by
    rcases hex with rfl|⟨b,rfl⟩
    ·simp only[go_sem,W0,JAz,Tryz.f118,k0,k1,f58,te,t0,he,hlo,hlo2,hwi,a4 _ _ _ hlo,tokC]
    ·simp only[go_sem,W0,JAz,Tryz.f118,k0,k1,f58,te,t0,he,hlo,hlo2,hwi,a4 _ _ _ hlo,tokC]
   rw[loop_eq,er,JK]
   exact j4 lo p q [] (.inl rfl) hlo hlo2
  |false=>
   have e:jl (m+1) (c::suf l (i+1))=jl m (suf l (i+1)):=by simp only[jl];rw[if_neg c41,if_neg (by simp[he])]
   obtain⟨j,j1,j2,j3,j4⟩:=ih (i+1) om om;refine⟨j,j1,om,by rw[j3,e],λlo p q ex hex hlo hlo2=>?_⟩
   have er:evCode ⟨Aa,E,lo,p.length+(q.length+1),JPS⟩ JA W0 ((0,.ptr p.length 0)::(2,.ptr (p.length+(q.length+1)) 0)::ex,p++R l i::(q++[.cells (tokC 0 [])]))=
     some (.normal,[(0,.ptr p.length 0),(2,.ptr (p.length+(q.length+1)) 0),(23,.v (.bool false))],p++R l (i+1)::(q++[.cells (tokC 0 [])])):=by
    rcases hex with rfl|⟨b,rfl⟩
    ·simp only[go_sem,W0,JAz,Tryz.f118,k0,k1,f58,te,t0,he,hlo,hlo2,hwi,tokC]
    ·simp only[go_sem,W0,JAz,Tryz.f118,k0,k1,f58,te,t0,he,hlo,hlo2,hwi,tokC]
   rw[loop_eq,er,JK];exact j4 lo p q [(23,.v (.bool false))] (.inr ⟨_,rfl⟩) hlo hlo2
theorem f118(hl:l.length<=100000000000)(hi:i<=l.length):∃j,j<=l.length+2/\i<=j/\suf l j=JCC (suf l i)/\
  ∀lo p q,lo<=p.length->E lo 118 [.ptr p.length 0] (p++R l i::q)=some (.agg (tokC 8 []),p++R l j::q):=by
 obtain⟨j,j1,j2,j3,j4⟩:=JWu (l:=l) hl (suf l i).length i (Ab _) hi;refine⟨j,j1,j2,j3,λlo p q hlo=>?_⟩
 have hL:=j4 lo p q [] (.inl rfl) hlo om;rw[JoK];simp only[tokC,W0,JAz,Tryz.f118,JD,JT,JB,go_sem,str_nil]at hL;simp only[go_sem,JAz,Tryz.f118,hL];rfl
abbrev B74(lo:Nat)(p q:List Ob)(l:List Int)(i:Nat)(sign:Int)(out:List Int):Jj×JC:=
 ([(0,.ptr p.length 0),(1,.v (.int .i32 sign)),(4,.ptr (p.length+(q.length+1)) 0),(5,.list .yes (ri .i32 out))],p++R l i::(q++[.cells (tokC 0 [])]))
theorem Jb9{sign:Int}(hl:l.length<=100000000000)(hsg:quo sign=true):∀(m i:Nat) (out:List Int),(suf l i).length<=m->i<=l.length->out.length<=i->
  ∃j,j<=l.length+2/\i<=j/\suf l j=(QP sign m (suf l i)).2.2/\
   ∀lo (p q:List Ob),lo<=p.length->lo<=p.length+(q.length+1)->
   JA (evCode ⟨Aa,E,lo,p.length+(q.length+1),h56⟩ JA Zs) (B74 lo p q l i sign out)=
    some (.ret,[(4,.ptr (p.length+(q.length+1)) 0)],p++R l j::(q++[.cells (if(QP sign m (suf l i)).1=true then tokC 5 (out++(QP sign m (suf l i)).2.1)else tokC 6 [])])):=by
 have sg:sign≠92/\sign≠10/\0<=sign:=by simp only[quo,Bool.or_eq_true,beq_iff_eq]at hsg;omega
 have stop:∀(m i:Nat) (out:List Int),suf l i=[]->i<=l.length->out.length<=i->
  ∃j,j<=l.length+2/\i<=j/\suf l j=(QP sign m (suf l i)).2.2/\
   ∀lo (p q:List Ob),lo<=p.length->lo<=p.length+(q.length+1)->
   JA (evCode ⟨Aa,E,lo,p.length+(q.length+1),h56⟩ JA Zs) (B74 lo p q l i sign out)=
    some (.ret,[(4,.ptr (p.length+(q.length+1)) 0)],p++R l j::(q++[.cells (if(QP sign m (suf l i)).1=true then tokC 5 (out++(QP sign m (suf l i)).2.1)else tokC 6 [])])):=by
  intro m i out hs h2 h3;have hlen:=Kz l i;rw[hs,An]at hlen;have k0:=λlo p q=>f35 (lo:=lo) (l:=l) (i:=i) (p:=p) (q:=q) (k:=0) om
  have kf:=λlo h=>f64 (lo:=lo) (l:=out) (h:=h) om
  have hwi:=JH (i:=i) om;simp only[n0,hs,QJ]at k0;refine⟨i+1,om,om,by rw[hs,JCw,Jz om],λlo p q hlo hlo2=>?_⟩
  have t0:((-1:Int)==10)=false:=rfl;have t1:((-1:Int)== -1)=true:=rfl;have t2:((-1:Int)==92)=false:=rfl;rw[hs,JCw,if_pos rfl,Av,loop_eq];simp only[go_sem,Zs,b56,Tryz.f56,k0,kf,t0,t1,t2,hlo,hlo2,hwi,tokC]<;>rfl
 intro m
 induction m with
 |zero=>
  intro i out h1 h2 h3
  exact stop 0 i out (AC om) h2 h3
 |succ m ih=>
  intro i out h1 h2 h3;rcases AG i l.length with hi|hi
  rotate_left
  ·exact stop (m+1) i out (Jz hi) h2 h3
  have hcp:=Yk hi;have k0:=λlo p q=>f35 (lo:=lo) (l:=l) (i:=i) (p:=p) (q:=q) (k:=0) om
  have k1:=λlo p q=>f35 (lo:=lo) (l:=l) (i:=i) (p:=p) (q:=q) (k:=1) om
  have kf:=λlo h=>f64 (lo:=lo) (l:=out) (h:=h) om
  have hr:∀k,k<=4->(out.length+k)*4<=140737488355328:=by intro k hk;omega
  have hq:∀k,9223372036854775800<=k->out.length<=k:=by intro k hk;omega
  have app:∀y:Int,ri .i32 out++[[V.v (.int .i32 y)]]=ri .i32 (out++[y]):=by intro y;rw[<-ri_app]<;>rfl
  have hw1:=JH (i:=i) om;have hw2:Aq.wrap ((i:Int)+2)=((i+2:Nat):Int):=by rw[JN om om];omega
  have n1:((1:Nat):Int)=1:=rfl;simp only[n0,n1]at k0 k1;have hs:=KK hi;have hn:chr (suf l i) 1=chr (suf l (i+1)) 0:=by rw[hs];exact ZY _ _ 0
  rw[hn]at k1;generalize chr (suf l i) 0=c at hs k0 hcp;rw[hs]at h1⊢;simp only[Ae]at h1;have te:(c== -1)=false:=by simp;omega
  by_cases c10:c=10
  ·subst c10
   have t0:((10:Int)==10)=true:=rfl;have e:QP sign (m+1) (10::suf l (i+1))=(false,[],10::suf l (i+1)):=by simp[QP]
   refine⟨i,om,Ab _,by rw[e,hs],λlo p q hlo hlo2=>?_⟩
   rw[e,if_neg (by simp),loop_eq]
   simp only[go_sem,Zs,b56,Tryz.f56,k0,t0,hlo2,tokC];rfl
  have t0:(c==10)=false:=by simp[c10]
  by_cases csg:c=sign
  ·subst csg
   have t1:(c==c)=true:=by simp
   have t2:(c==92)=false:=by simp;omega
   have e:QP c (m+1) (c::suf l (i+1))=(true,[],suf l (i+1)):=by simp[QP,c10]
   refine⟨i+1,om,om,by rw[e],λlo p q hlo hlo2=>?_⟩
   rw[e,if_pos rfl,Av,loop_eq];simp only[go_sem,Zs,b56,Tryz.f56,k0,t0,te,t1,t2,hlo,hlo2,hw1,kf,tokC]<;>rfl
  have t1:(c==sign)=false:=by simp[csg]
  by_cases c92:c=92
  ·subst c92
   have t2:((92:Int)==92)=true:=rfl;rcases AG (i+1) l.length with hi2|hi2
   ·have hs2:=KK hi2
    have hdp:=Yk hi2;by_cases d10:chr (suf l (i+1)) 0=10
    ·rw[d10]at hs2 k1
     have t3:((10:Int)== -1)=false:=rfl;have t4:((10:Int)==10)=true:=rfl
     have e:QP sign (m+1) (92::suf l (i+1))=QP sign m (suf l (i+2)):=by rw[hs2];simp only[QP];rw[if_neg c10,if_neg csg];simp
     obtain⟨j,j1,j2,j3,j4⟩:=ih (i+2) out (by rw[Kz]at h1⊢;omega) om om
     refine⟨j,j1,om,by rw[j3,e],λlo p q hlo hlo2=>?_⟩
     have er:evCode ⟨Aa,E,lo,p.length+(q.length+1),h56⟩ JA Zs (B74 lo p q l i sign out)=some (.normal,B74 lo p q l (i+2) sign out):=by simp only[go_sem,Zs,b56,Tryz.f56,k0,k1,t0,te,t1,t2,t3,t4,hlo,hw2,tokC]<;>rfl
     rw[loop_eq,er,JK,e];exact j4 lo p q hlo hlo2
    ·have t3:(chr (suf l (i+1)) 0== -1)=false:=by simp;omega
     have t4:(chr (suf l (i+1)) 0==10)=false:=by simp[d10]
     obtain⟨j0,a1,a2,a3,a4⟩:=f88 (l:=l) (i:=i+1) hl om
     have e:QP sign (m+1) (92::suf l (i+1))=((QP sign m (K6 (suf l (i+1))).2).1,(K6 (suf l (i+1))).1::(QP sign m (K6 (suf l (i+1))).2).2.1,(QP sign m (K6 (suf l (i+1))).2).2.2):=by generalize hd:chr (suf l (i+1)) 0=d at hs2 d10;rw[hs2];simp only[QP];rw[if_neg c10,if_neg csg];simp[d10]
     obtain⟨j,j1,j2,j3,j4⟩:=ih j0 (out++[(K6 (suf l (i+1))).1]) (by rw[Kz]at h1⊢;omega) a1 (by simp;omega)
     refine⟨j,j1,om,by rw[j3,e,a3],λlo p q hlo hlo2=>?_⟩
     have er:evCode ⟨Aa,E,lo,p.length+(q.length+1),h56⟩ JA Zs (B74 lo p q l i sign out)=some (.normal,B74 lo p q l j0 sign (out++[(K6 (suf l (i+1))).1])):=by simp only[go_sem,Zs,b56,Tryz.f56,k0,k1,t0,te,t1,t2,t3,t4,hlo,hw1,a4 _ _ _ hlo,hr,hq,app,and_self,tokC]<;>rfl
     rw[loop_eq,er,JK,j4 lo p q hlo hlo2,e,a3,Ao]<;>rfl
   ·have hs2:suf l (i+1)=[]:=Jz hi2
    rw[hs2,QJ]at k1;have t3:((-1:Int)== -1)=true:=rfl
    have e:QP sign (m+1) (92::suf l (i+1))=(true,[],[]):=by rw[hs2];simp only[QP];rw[if_neg c10,if_neg csg];simp
    have hil:i+1=l.length:=om;obtain⟨j,j1,j2,j3,j4⟩:=stop m (i+1) out hs2 om om;rw[hs2,JCw]at j3 j4;refine⟨j,j1,om,by rw[j3,e],λlo p q hlo hlo2=>?_⟩
    have er:evCode ⟨Aa,E,lo,p.length+(q.length+1),h56⟩ JA Zs (B74 lo p q l i sign out)=some (.normal,B74 lo p q l (i+1) sign out):=by simp only[go_sem,Zs,b56,Tryz.f56,k0,k1,t0,te,t1,t2,t3,hlo,hw1,tokC]<;>rfl
    rw[loop_eq,er,JK,e];exact j4 lo p q hlo hlo2
  ·have t2:(c==92)=false:=by simp[c92]
   have e:QP sign (m+1) (c::suf l (i+1))=((QP sign m (suf l (i+1))).1,c::(QP sign m (suf l (i+1))).2.1,(QP sign m (suf l (i+1))).2.2):=by simp only[QP];rw[if_neg c10,if_neg csg,if_neg c92]
   obtain⟨j,j1,j2,j3,j4⟩:=ih (i+1) (out++[c]) om om (by simp;omega)
   refine⟨j,j1,om,by rw[j3,e],λlo p q hlo hlo2=>?_⟩
   have er:evCode ⟨Aa,E,lo,p.length+(q.length+1),h56⟩ JA Zs (B74 lo p q l i sign out)=some (.normal,B74 lo p q l (i+1) sign (out++[c])):=by simp only[go_sem,Zs,b56,Tryz.f56,k0,t0,te,t1,t2,hlo,hw1,hr,hq,app,and_self,tokC]<;>rfl
   rw[loop_eq,er,JK,j4 lo p q hlo hlo2,e,Ao]<;>rfl
theorem f56{sign:Int}(hl:l.length<=100000000000)(hi:i<=l.length)(hsg:quo sign=true):∃j,j<=l.length+2/\i<=j/\suf l j=(txt sign (suf l i)).2.2/\
  ∀lo p q,lo<=p.length->E lo 56 [.ptr p.length 0,.v (.int .i32 sign)] (p++R l i::q)=some (.agg (if(txt sign (suf l i)).1=true then tokC 5 (txt sign (suf l i)).2.1 else tokC 6 []),p++R l j::q):=by
 obtain⟨j,j1,j2,j3,j4⟩:=Jb9 (l:=l) hl hsg (suf l i).length i [] (Ab _) hi (by simp)
 refine⟨j,j1,j2,j3,λlo p q hlo=>?_⟩
 have hL:=j4 lo p q hlo om;rw[e56];simp only[B74,tokC,Zs,b56,Tryz.f56,JD,JT,JB,go_sem,Ko,str_nil]at hL;simp only[go_sem,b56,Tryz.f56,hL];unfold txt;cases(QP sign (suf l i).length (suf l i)).1<;>rfl
end
section
variable{lo i:Nat}{l:List Int}{p q:List Ob}
theorem JcA{l:List Int}{i:Nat}(hi:i<l.length):(chr (suf l i) 0 != -1)=true:=by have:=Yk hi;simp;omega
theorem JPs(hl:l.length<=100000000000):∀(n i:Nat),l.length-i<=n->i<=l.length->
  ∃j,j<=l.length/\i<=j/\suf l j=JCv (suf l i)/\
   ∀lo (p q:List Ob),lo<=p.length->JA (evCode ⟨Aa,E,lo,p.length+(q.length+1),h34⟩ JA JAc) ([(0,.ptr p.length 0)],p++R l i::q)=some (.exit 2,[(0,.ptr p.length 0),(29,.v (.bool false))],p++R l j::q):=by
 have stop:∀(i:Nat),i=l.length->
  ∃j,j<=l.length/\i<=j/\suf l j=JCv (suf l i)/\
   ∀lo (p q:List Ob),lo<=p.length->JA (evCode ⟨Aa,E,lo,p.length+(q.length+1),h34⟩ JA JAc) ([(0,.ptr p.length 0)],p++R l i::q)=some (.exit 2,[(0,.ptr p.length 0),(29,.v (.bool false))],p++R l j::q):=by
  intro i hi;subst hi;have k0:=λlo p q=>f35 (lo:=lo) (l:=l) (i:=l.length) (p:=p) (q:=q) (k:=0) om
  have hs:suf l l.length=[]:=Jz (Ab _);simp only[n0,hs,QJ]at k0;refine⟨l.length,Ab _,Ab _,by rw[hs]<;>rfl,λlo p q hlo=>?_⟩
  have hne:((-1:Int) != -1)=false:=rfl;rw[loop_eq];simp only[go_sem,JAc,b34,Tryz.f34,k0,hne]
 intro n
 induction n with
 |zero=>intro i h1 h2;exact stop i om
 |succ n ih=>
  intro i h1 h2;rcases AG i l.length with hi|hi
  rotate_left
  ·exact stop i om
  have k0:=λlo p q=>f35 (lo:=lo) (l:=l) (i:=i) (p:=p) (q:=q) (k:=0) om
  have k1:=λlo p q=>f35 (lo:=lo) (l:=l) (i:=i) (p:=p) (q:=q) (k:=1) om
  have n1:((1:Nat):Int)=1:=rfl;simp only[n0,n1]at k0 k1;have hw:=JH (i:=i) om;have hne:=JcA hi;have hs:=KK hi;have hn:chr (suf l i) 1=chr (suf l (i+1)) 0:=by rw[hs];exact ZY _ _ 0
  rw[hn]at k1;generalize chr (suf l i) 0=c at hs k0 hne;by_cases hx:c=42/\chr (suf l (i+1)) 0=47
  ·obtain⟨rfl,hd⟩:=hx
   have t0:((42:Int) !=42)=false:=rfl;have t1:((47:Int) !=47)=false:=rfl;rw[hd]at k1;refine⟨i,h2,Ab _,?_,λlo p q hlo=>?_⟩
   ·rcases AG (i+1) l.length with hi2|hi2
    ·have h4:=KK hi2
     rw[hd]at h4;rw[hs,h4];unfold JCv;rw[if_pos ⟨rfl,rfl⟩]
    ·rw[Jz hi2,QJ]at hd;omega
   ·rw[loop_eq]
    simp only[go_sem,JAc,b34,Tryz.f34,k0,k1,hne,t0,t1]
  ·obtain⟨j,j1,j2,j3,j4⟩:=ih (i+1) om om
   refine⟨j,j1,om,?_,λlo p q hlo=>?_⟩
   ·rw[j3,hs]
    rcases AG (i+1) l.length with hi2|hi2
    ·have h4:=KK hi2
     generalize chr (suf l (i+1)) 0=d at h4 hx;rw[h4]
     conv=>rhs;unfold JCv
     rw[if_neg hx]
    ·rw[Jz hi2]<;>rfl
   ·have e:evCode ⟨Aa,E,lo,p.length+(q.length+1),h34⟩ JA JAc ([(0,.ptr p.length 0)],p++R l i::q)=some (.normal,[(0,.ptr p.length 0)],p++R l (i+1)::q):=by
     by_cases hc:c=42
     ·subst hc
      have t0:((42:Int) !=42)=false:=rfl;have t1:(chr (suf l (i+1)) 0 !=47)=true:=by simp;exact λh=>hx ⟨rfl,h⟩
      simp only[go_sem,JAc,b34,Tryz.f34,k0,k1,hne,t0,t1,hw,hlo]
     ·have t0:(c !=42)=true:=by simp[hc]
      simp only[go_sem,JAc,b34,Tryz.f34,k0,k1,hne,t0,hw,hlo]
    rw[loop_eq,e,JK];exact j4 lo p q hlo
theorem JTA(m:Nat)(c d:Int)(t:List Int)(h:¬(c=47/\d=42)):JCB m (c::d::t)=c::d::t:=by
 cases m with
 |zero=>rfl
 |succ m=>simp only[JCB];rw[if_neg h]
theorem JTB(m:Nat):JCB m []=[]:=by cases m<;>rfl
theorem JKv(m:Nat)(c:Int):JCB m [c]=[c]:=by cases m<;>rfl
theorem JcB(hl:l.length<=100000000000):∀(m i:Nat),(suf l i).length<=m->i<=l.length+4->
  ∃j,j<=l.length+6/\i<=j/\suf l j=JCB m (suf l i)/\
   ∀lo (p q:List Ob),lo<=p.length->JA (evCode ⟨Aa,E,lo,p.length+(q.length+1),h34⟩ JA JCQ) ([(0,.ptr p.length 0)],p++R l i::q)=some (.exit 0,[(0,.ptr p.length 0),(9,.v (.bool false))],p++R l j::q):=by
 have stop:∀(m i:Nat),i<=l.length+6->¬(chr (suf l i) 0=47/\chr (suf l i) 1=42)->
  ∃j,j<=l.length+6/\i<=j/\suf l j=JCB m (suf l i)/\
   ∀lo (p q:List Ob),lo<=p.length->JA (evCode ⟨Aa,E,lo,p.length+(q.length+1),h34⟩ JA JCQ) ([(0,.ptr p.length 0)],p++R l i::q)=some (.exit 0,[(0,.ptr p.length 0),(9,.v (.bool false))],p++R l j::q):=by
  intro m i h2 hx;have k0:=λlo p q=>f35 (lo:=lo) (l:=l) (i:=i) (p:=p) (q:=q) (k:=0) om
  have k1:=λlo p q=>f35 (lo:=lo) (l:=l) (i:=i) (p:=p) (q:=q) (k:=1) om
  have n1:((1:Nat):Int)=1:=rfl;simp only[n0,n1]at k0 k1;refine⟨i,h2,Ab _,?_,λlo p q hlo=>?_⟩
  ·match hs:suf l i with
   |[]=>rw[JTB]
   |[c]=>rw[JKv]
   |c::d::t=>rw[JTA];rw[hs,jH,ZY,jH]at hx;exact hx
  ·rw[loop_eq]
   by_cases hc:chr (suf l i) 0=47
   ·have t0:(chr (suf l i) 0==47)=true:=by simp[hc]
    have t1:(chr (suf l i) 1==42)=false:=by simp;exact λh=>hx ⟨hc,h⟩
    simp only[go_sem,JCQ,b34,Tryz.f34,k0,k1,t0,t1]
   ·have t0:(chr (suf l i) 0==47)=false:=by simp[hc]
    simp only[go_sem,JCQ,b34,Tryz.f34,k0,k1,t0]
 intro m
 induction m with
 |zero=>
  intro i h1 h2;have hs:suf l i=[]:=AC om
  exact stop 0 i om (by rw[hs,QJ];omega)
 |succ m ih=>
  intro i h1 h2;by_cases hx:chr (suf l i) 0=47/\chr (suf l i) 1=42
  rotate_left
  ·exact stop (m+1) i om hx
  have hs:∃t,suf l i=47::42::t:=by
   match hs:suf l i with
   |[]=>rw[hs,QJ]at hx;omega
   |[c]=>rw[hs,ZY,QJ]at hx;omega
   |c::d::t=>rw[hs,jH,ZY,jH]at hx;exact⟨t,by rw[hx.1,hx.2]⟩
  obtain⟨t,hs⟩:=hs;obtain⟨ht,hi2⟩:=JWt l i _ _ _ hs;have k0:=λlo p q=>f35 (lo:=lo) (l:=l) (i:=i) (p:=p) (q:=q) (k:=0) om
  have k1:=λlo p q=>f35 (lo:=lo) (l:=l) (i:=i) (p:=p) (q:=q) (k:=1) om
  have n1:((1:Nat):Int)=1:=rfl;simp only[n0,n1,hx.1,hx.2]at k0 k1;have t0:((47:Int)==47)=true:=rfl;have t1:((42:Int)==42)=true:=rfl;obtain⟨j,j1,j2,j3,jL⟩:=JPs (l:=l) hl l.length (i+2) om hi2;have hw:Aq.wrap ((i:Int)+2)=((i+2:Nat):Int):=by rw[JN om om];omega
  have hw2:Aq.wrap ((j:Int)+2)=((j+2:Nat):Int):=by rw[JN om om];omega
  rw[ht]at j3
  have hj2:suf l (j+2)=yO t:=by rw[JN9,<-j3];simp[suf,AV]
  have hlen:(suf l (j+2)).length<=m:=by rw[Kz]at h1⊢;omega
  obtain⟨z,z1,z2,z3,z4⟩:=ih (j+2) hlen om;refine⟨z,z1,om,?_,λlo p q hlo=>?_⟩
  ·rw[z3,hs,hj2]
   simp[JCB]
  ·have hL:=jL lo p q hlo
   simp only[JAc,b34,Tryz.f34,JD,JT,JB,go_sem]at hL
   have e:evCode ⟨Aa,E,lo,p.length+(q.length+1),h34⟩ JA JCQ ([(0,.ptr p.length 0)],p++R l i::q)=some (.normal,[(0,.ptr p.length 0)],p++R l (j+2)::q):=by simp only[go_sem,JCQ,b34,Tryz.f34,k0,k1,t0,t1,hw,hw2,hlo,hL]
   rw[loop_eq,e,JK];exact z4 lo p q hlo
theorem f34(hl:l.length<=100000000000)(hi:i<=l.length+4):∃j,j<=l.length+6/\i<=j/\suf l j=Gp (suf l i)/\
  ∀lo p q,lo<=p.length->E lo 34 [.ptr p.length 0] (p++R l i::q)=some (.tup [],p++R l j::q):=by
 obtain⟨j,j1,j2,j3,j4⟩:=JcB (l:=l) hl (suf l i).length i (Ab _) hi;refine⟨j,j1,j2,j3,λlo p q hlo=>?_⟩
 have hL:=j4 lo p q hlo;rw[e34];simp only[JCQ,b34,Tryz.f34,JD,JT,JB,go_sem]at hL;simp only[go_sem,b34,Tryz.f34,hL]
end
def low(c:Int):Int:=if(decide (65<=c)&&decide (c<=90))=true then c+32 else c
def bl(l:List Int):List V:=l.map λn=> .v (.int .u8 n)
theorem JH1(l:List Int):(bl l).length=l.length:=by simp[bl]
theorem JTC(l:List Int)(i:Nat):(bl l)[i]? =(l[i]?).map λn=>V.v (.int .u8 n):=by simp[bl]
theorem JTD(l:List Int)(i:Nat)(n:Int):(bl l).set i (.v (.int .u8 n))=bl (l.set i n):=by simp[bl,List.map_set]
theorem kA{l:List Int}(hy:By l):QR ⟨(Q1 l).toArray⟩=bl l:=by
 simp only[QR,Q1,bl,List.map_map];refine A4 λn hn=>?_
 have:=hy n hn
 have e:((Bh n.toNat).toNat:Int)=n:=by rw[BU];omega
 simp only[Function.comp,e]
theorem JcC{lo:Nat}{h:JC}(hlo:lo<=h.length):∀(n:Nat) (a b:List Int),b.length<=n->a.length+b.length<=1000000000000->By b->
  JA (evCode ⟨Aa,E,lo,h.length,h49⟩ JA JAe) ([(3,.buf h.length 0 (a.length+b.length)),(8,.buf h.length 0 (a.length+b.length)),(9,.v (.int .i64 (a.length+b.length:Nat))),(10,.v (.int .i64 a.length))],h++[.cells (bl (a++b))])=
   some (.exit 0,[(3,.buf h.length 0 (a.length+b.length)),(8,.buf h.length 0 (a.length+b.length)),(9,.v (.int .i64 (a.length+b.length:Nat))),(10,.v (.int .i64 (a.length+b.length:Nat))),(11,.v (.bool false))],h++[.cells (bl (a++b.map low))]):=by
 intro n
 induction n with
 |zero=>
  intro a b hb hab hy;obtain rfl:b=[]:=AC om;have hd:decide (((a.length:Nat):Int)<((a.length+([]:List Int).length:Nat):Int))=false:=by simp
  rw[loop_eq];simp only[An,BH]at hd⊢
  simp only[go_sem,JAe,b49,Tryz.f49,hd,CB]
 |succ n ih=>
  intro a b hb hab hy
  cases b with
  |nil=>
   have hd:decide (((a.length:Nat):Int)<((a.length+([]:List Int).length:Nat):Int))=false:=by simp
   rw[loop_eq];simp only[An,BH]at hd⊢
   simp only[go_sem,JAe,b49,Tryz.f49,hd,CB]
  |cons c b=>
   have hcy:=hy c (List.mem_cons_self ..);have hd:decide ((a.length:Int)<((a.length+(c::b).length:Nat):Int))=true:=by simp;omega
   have hx:(bl (a++c::b))[a.length]? =some (.v (.int .u8 c)):=by simp[JTC]
   have hw:Aq.wrap ((a.length:Int)+1)=((a.length+1:Nat):Int):=JH om;have hlt:a.length<a.length+(c::b).length:=by simp
   have hih:=ih (a++[low c]) b (by simp at hb;omega) (by simp at hab⊢;omega) (λx hx=>hy x (List.mem_cons_of_mem _ hx))
   have el:(a++[low c]).length+b.length=a.length+(c::b).length:=by simp;omega
   have el2:(a++[low c]).length=a.length+1:=by simp
   have el3:a++[low c]++b.map low=a++(c::b).map low:=by simp
   rw[el,el2,el3]at hih;by_cases hc:(decide (65<=c)&&decide (c<=90))=true
   ·have hs:(bl (a++c::b)).set a.length (.v (.int .u8 (c+32)))=bl (a++[low c]++b):=by
     rw[JTD,low,if_pos hc];simp
    have hc':=hc;simp only[Af,decide_eq_true_eq]at hc';have hwc:IntKind.u8.wrap (c+32)=c+32:=QC om om;have hbl:a.length+1<=(bl (a++c::b)).length:=by rw[JH1];simp
    generalize hcs:a.length+(c::b).length=k at*
    have er:evCode ⟨Aa,E,lo,h.length,h49⟩ JA JAe ([(3,.buf h.length 0 k),(8,.buf h.length 0 k),(9,.v (.int .i64 (k:Nat))),(10,.v (.int .i64 a.length))],h++[.cells (bl (a++c::b))])=
      some (.normal,[(3,.buf h.length 0 k),(8,.buf h.length 0 k),(9,.v (.int .i64 (k:Nat))),(10,.v (.int .i64 (a.length+1:Nat)))],h++[.cells (bl (a++[low c]++b))]):=by
     have hlt':(a.length:Int)<k:=om;have h0':(0:Int)<=a.length:=om;simp only[go_sem,JAe,b49,Tryz.f49,hd,hx,hw,hc,hwc,hs,hlo,hlt,hlt',h0',hbl,AE,Int.toNat_natCast,and_self]
    rw[loop_eq,er,JK];exact hih
   ·have hl2:low c=c:=by rw[low,if_neg hc]
    have hc2:(decide (65<=c)&&decide (c<=90))=false:=by simpa using hc
    rw[hl2]at hih;generalize hcs:a.length+(c::b).length=k at*
    have er:evCode ⟨Aa,E,lo,h.length,h49⟩ JA JAe ([(3,.buf h.length 0 k),(8,.buf h.length 0 k),(9,.v (.int .i64 (k:Nat))),(10,.v (.int .i64 a.length))],h++[.cells (bl (a++c::b))])=
      some (.normal,[(3,.buf h.length 0 k),(8,.buf h.length 0 k),(9,.v (.int .i64 (k:Nat))),(10,.v (.int .i64 (a.length+1:Nat)))],h++[.cells (bl (a++c::b))]):=by
     have hlt':(a.length:Int)<k:=om;have h0':(0:Int)<=a.length:=om;simp only[go_sem,JAe,b49,Tryz.f49,hd,hx,hw,hc2,hlo,hlt,hlt',h0',AE,Int.toNat_natCast,and_self]
    rw[loop_eq,er,JK];have e4:a++c::b=a++[c]++b:=by simp
    rw[e4];exact hih
theorem f49{lo:Nat}{l:List Int}{h:JC}(hlo:lo<=h.length)(hl:l.length<=1000000000000)(hy:By l):E lo 49 [.v (.string ⟨(Q1 l).toArray⟩)] h=some (.v (.string ⟨(Q1 (l.map low)).toArray⟩),h):=by
 have hL:=JcC (lo:=lo) (h:=h) hlo l.length [] l (Ab _) (by simpa using hl) hy
 have hz:(⟨(Q1 l).toArray⟩:ByteArray).size=l.length:=by simp[Lx,Q1]
 rw[e49];simp only[JAe,b49,Tryz.f49,JD,JT,JB,go_sem,An,AE]at hL;have hb1:decide (0+l.length<=(bl (l.map low)).length)=true:=by rw[JH1];simp
 have hb2:((bl (l.map low)).take l.length).map (λx=>[x])=ri .u8 (l.map low):=by
  rw[List.take_of_length_le (by rw[JH1];simp)]
  simp[bl,ri]
 simp only[go_sem,b49,Tryz.f49,hz,kA hy,hL,hb1,hb2]
def JWv(a b:List Int):Bool:=(Q1 (a.map low))==(Q1 (b.map low))
theorem f87{lo:Nat}{a b:List Int}{h:JC}(hlo:lo<=h.length)(ha:a.length<=1000000000000)(hya:By a)(hb:b.length<=1000000000000)(hyb:By b):
  E lo 87 [.v (.string ⟨(Q1 a).toArray⟩),.v (.string ⟨(Q1 b).toArray⟩)] h=some (.v (.bool (JWv a b)),h):=by
 have k1:=f49 (lo:=lo) (h:=h) hlo ha hya;have k2:=f49 (lo:=lo) (h:=h) hlo hb hyb;rw[e87];simp only[go_sem,b87,Tryz.f87,k1,k2,ByteArray.toList_eq];rfl
end Go.Lift.M1.T
end

section
open Go.Proofs
namespace Go.Lift.M1
open Rul
open Utf (By)
open T (bl JH1 JTC JTD kA)
variable[MX]
variable{lo:Nat}{h:JC}
theorem JTG(c:Int):T.low c=JVV c:=by unfold T.low JVV;simp only[Af,decide_eq_true_eq]
theorem z7(l:List Int):l.map T.low=KR l:=A4 λc _=>JTG c
end Go.Lift.M1
end

section
open Go.Proofs
namespace Go.Lift.M1
open Rul
open Utf (By)
variable[MX]
variable{lo:Nat}{h:JC}
theorem yi{a b:List Int}(ha:By a)(hb:By b):((Rul.bs a).toList==(Rul.bs b).toList)=(a==b):=W1 ha hb
theorem JTH(l:List Int):(Rul.bs l).size=l.length:=bs_size l
theorem jJ{l:List Int}(h:By l):By (KR l):=λc hc=>by
 obtain⟨x,hx,rfl⟩:=List.mem_map.1 hc;have:=h x hx;unfold JVV
 split<;>omega
theorem jh(l:List Int):(KR l).length=l.length:=List.length_map _
theorem JCx{l:List Int}(h:l.all (λc=>decide (0<=c)&&decide (c<=255))=true):By l:=λc hc=>by have:=List.all_eq_true.1 h c hc;simpa using this
def JH2:List Int:=[109,101,100,105,97]
def ji:List Int:=[115,117,112,112,111,114,116,115]
def qK:List Int:=[99,111,110,116,97,105,110,101,114]
theorem JTJ:By JH2:=JCx rfl
theorem JKw:By ji:=JCx rfl
theorem JH3:By qK:=JCx rfl
theorem JH4:By Qx:=JCx rfl
theorem JH5:(⟨#[109,101,100,105,97]⟩:ByteArray)=Rul.bs JH2:=rfl
theorem qL:(⟨#[115,117,112,112,111,114,116,115]⟩:ByteArray)=Rul.bs ji:=rfl
theorem jK:(⟨#[99,111,110,116,97,105,110,101,114]⟩:ByteArray)=Rul.bs qK:=rfl
theorem YO:(⟨#[105,109,112,111,114,116,97,110,116]⟩:ByteArray)=Rul.bs Qx:=rfl
theorem JTK:(⟨#[33]⟩:ByteArray)=Rul.bs [33]:=rfl
theorem JWw:By [33]:=JCx rfl
theorem JMv(n:List Int):WC n=(n==JH2||n==ji||n==qK):=rfl
theorem r49{l:List Int}(hlo:lo<=h.length)(hl:l.length<=1000000000000)(hy:By l):E lo 49 [.v (.string (Rul.bs l))] h=some (.v (.string (Rul.bs (KR l))),h):=by have:=T.f49 (lo:=lo) (h:=h) hlo hl hy;rw[z7]at this;exact this
theorem r87{a b:List Int}(hlo:lo<=h.length)(ha:a.length<=1000000000000)(hya:By a)(hb:b.length<=1000000000000)(hyb:By b):E lo 87 [.v (.string (Rul.bs a)),.v (.string (Rul.bs b))] h=some (.v (.bool (KR a==KR b)),h):=by
 have:=T.f87 (lo:=lo) (h:=h) hlo ha hya hb hyb;unfold T.JWv at this;rw[z7,z7]at this
 have e:((Q1 (KR a))==(Q1 (KR b)))=(KR a==KR b):=by have:=yi (jJ hya) (jJ hyb);rw[<-this];simp only[Rul.bs,ByteArray.toList_eq]
 rw[e]at this;exact this
theorem f28{n:List Int}(hlo:lo<=h.length)(hl:n.length<=1000000000000)(hy:By n):E lo 28 [.v (.string (Rul.bs n))] h=some (.tup [.v (.string (Rul.bs (KR n))),.v (.bool (WC (KR n)))],h):=by
 have c49:=r49 (lo:=lo) (h:=h) hlo hl hy;have hs:=jJ hy;have e1:=yi hs JTJ;have e2:=yi hs JKw;have e3:=yi hs JH3;rw[JMv];rw[e28];generalize KR n=m at*
 cases h1:(m==JH2)with
 |true=>
  rw[h1]at e1
  simp only[go_sem,b28,Tryz.f28,hlo,c49,JH5,qL,jK,e1,e2,e3]<;>rfl
 |false=>
  rw[h1]at e1
  cases h2:(m==ji)with
  |true=>
   rw[h2]at e2
   simp only[go_sem,b28,Tryz.f28,hlo,c49,JH5,qL,jK,e1,e2,e3]<;>rfl
  |false=>rw[h2]at e2;simp only[go_sem,b28,Tryz.f28,hlo,c49,JH5,qL,jK,e1,e2,e3]<;>rfl
end Go.Lift.M1
end

section
open Go.Proofs
namespace Go.Lift.M1
open Rul
variable[MX]
variable{lo:Nat}{h:JC}
abbrev N35(l:List CV)(a b:Nat):Jj:=[(0,.list .no (JL l)),(3,.v (.int .i64 a)),(4,.v (.int .i64 b))]
theorem JTL{l:List CV}{v:CV}{a b:Nat}(hlo:lo<=h.length)(hl:l.length<=1000000000)(hg:l[a]? =some v)(hab:a<b):
  evCode ⟨Aa,E,lo,h.length,h30⟩ JA JCP (N35 l a b,h)=
   if J3 v=true then some (.normal,N35 l (a+1) b,h)else some (.exit 0,N35 l a b++[(16,.v (.bool false))],h):=by
 obtain⟨t,ks⟩:=v;have hlt:a<l.length:=(Ad.1 hg).1
 have q:decide ((a:Int)<(b:Int))=true:=by simpa using hab
 have hw:=JH (i:=a) om;have hgr:(JL l)[a]? =some (Qa (.mk t ks)):=by rw[Ks,hg]<;>rfl
 have c:=λlo hlo=>f51 (lo:=lo) (h:=h) hlo (.mk t ks)
 rw[Jr]at c hgr;have ca:=c lo hlo;have cb:=c h.length (Ab _);clear c
 cases hs:J3 (.mk t ks)with
 |true=>
  rw[hs]at ca cb;rw[if_pos rfl]
  simp only[N35,go_sem,JCP,b30,Tryz.f30,hlo,q,ca,cb,hgr,hw]<;>rfl
 |false=>
  rw[hs]at ca cb;rw[if_neg (by simp)]
  simp only[N35,go_sem,JCP,b30,Tryz.f30,hlo,q,ca,cb,hgr,hw]<;>rfl
theorem JWx{l:List CV}{b:Nat}(hlo:lo<=h.length):evCode ⟨Aa,E,lo,h.length,h30⟩ JA JCP (N35 l b b,h)=some (.exit 0,N35 l b b++[(16,.v (.bool false))],h):=by
 have q:decide ((b:Int)<(b:Int))=false:=by simp
 simp only[N35,go_sem,JCP,b30,Tryz.f30,hlo,q]<;>rfl
theorem JOA{l:List CV}(hlo:lo<=h.length)(hl:l.length<=1000000000):∀(m a:Nat),a+m=l.length->∃a',a<=a'/\a'<=l.length/\ltrim (l.drop a)=l.drop a'/\
   JA (evCode ⟨Aa,E,lo,h.length,h30⟩ JA JCP) (N35 l a l.length,h)=some (.exit 0,N35 l a' l.length++[(16,.v (.bool false))],h)
 |0,a,hm=>by
  obtain rfl:a=l.length:=om
  exact⟨l.length,Ab _,Ab _,by rw[Be]<;>rfl,by rw[loop_eq,JWx hlo,Kv]⟩
 |m+1,a,hm=>by
  have hlt:a<l.length:=om;have hd:l.drop a=l[a]::l.drop (a+1):=AD hlt;have hr:=JTL (h:=h) hlo hl (Ac hlt) hlt
  have he:ltrim (l.drop a)=if J3 l[a]=true then ltrim (l.drop (a+1))else l.drop a:=by rw[hd];unfold ltrim;rw[List.dropWhile_cons]
  rw[he,loop_eq,hr]
  split
  ·rw[JK]
   obtain⟨a',h1,h2,h3,h4⟩:=JOA hlo hl m (a+1) om;exact⟨a',om,h2,h3,h4⟩
  ·exact⟨a,Ab _,om,rfl,by rw[Kv]⟩
theorem JTM{l:List CV}{v:CV}{a b:Nat}{ex:Jj}(hex:ex=[]\/ex=[(16,.v (.bool false))])(hlo:lo<=h.length)(hl:l.length<=1000000000)(hg:l[b]? =some v)(hab:a<b+1):
  evCode ⟨Aa,E,lo,h.length,h30⟩ JA jy (N35 l a (b+1)++ex,h)=
   if J3 v=true then some (.normal,N35 l a b,h)else some (.exit 2,N35 l a (b+1)++[(29,.v (.bool false))],h):=by
 obtain⟨t,ks⟩:=v;have hlt:b<l.length:=(Ad.1 hg).1
 have q:decide ((a:Int)<((b+1:Nat):Int))=true:=by simp;omega
 have hw:Aq.wrap (((b+1:Nat):Int)-1)=(b:Int):=by rw[JN]<;>omega
 have hgr:(JL l)[b]? =some (Qa (.mk t ks)):=by rw[Ks,hg]<;>rfl
 have c:=λlo hlo=>f51 (lo:=lo) (h:=h) hlo (.mk t ks)
 rw[Jr]at c hgr;have ca:=c lo hlo;have cb:=c h.length (Ab _);clear c
 cases hs:J3 (.mk t ks)with
 |true=>
  rw[hs]at ca cb;rw[if_pos rfl];rcases hex with rfl|rfl
  ·simp only[N35,go_sem,jy,b30,Tryz.f30,hlo,q,ca,cb,hgr,hw]<;>rfl
  ·simp only[N35,go_sem,jy,b30,Tryz.f30,hlo,q,ca,cb,hgr,hw]<;>rfl
 |false=>
  rw[hs]at ca cb;rw[if_neg (by simp)]
  rcases hex with rfl|rfl
  ·simp only[N35,go_sem,jy,b30,Tryz.f30,hlo,q,ca,cb,hgr,hw]<;>rfl
  ·simp only[N35,go_sem,jy,b30,Tryz.f30,hlo,q,ca,cb,hgr,hw]<;>rfl
theorem JWy{l:List CV}{b:Nat}{ex:Jj}(hex:ex=[]\/ex=[(16,.v (.bool false))])(hlo:lo<=h.length):evCode ⟨Aa,E,lo,h.length,h30⟩ JA jy (N35 l b b++ex,h)=some (.exit 2,N35 l b b++[(29,.v (.bool false))],h):=by
 have q:decide ((b:Int)<(b:Int))=false:=by simp
 rcases hex with rfl|rfl
 ·simp only[N35,go_sem,jy,b30,Tryz.f30,hlo,q]<;>rfl
 ·simp only[N35,go_sem,jy,b30,Tryz.f30,hlo,q]<;>rfl
theorem JOB{l:List CV}{a:Nat}(hlo:lo<=h.length)(hl:l.length<=1000000000):∀(m b:Nat) (ex:Jj),a+m=b->b<=l.length->(ex=[]\/ex=[(16,.v (.bool false))])->∃b',a<=b'/\b'<=l.length/\QG ((l.take b).drop a)=(l.take b').drop a/\
   JA (evCode ⟨Aa,E,lo,h.length,h30⟩ JA jy) (N35 l a b++ex,h)=some (.exit 2,N35 l a b'++[(29,.v (.bool false))],h)
 |0,b,ex,hm,hb,hex=>by
  obtain rfl:a=b:=om;have e0:(l.take a).drop a=[]:=List.drop_eq_nil_of_le (by rw[AM];omega)
  exact⟨a,Ab _,hb,by rw[e0,JPN],by rw[loop_eq,JWy hex hlo,Kv]⟩
 |m+1,b,ex,hm,hb,hex=>by
  obtain⟨c,rfl⟩:∃c,b=c+1:=⟨b-1,om⟩;have hlt:c<l.length:=om;have hr:=JTM (h:=h) (a:=a) hex hlo hl (Ac hlt) om
  have hd:(l.take (c+1)).drop a=(l.take c).drop a++[l[c]]:=by rw[List.take_succ_eq_append_getElem hlt,List.drop_append_of_le_length (by rw[AM];omega)]
  rw[hd,JMJ,loop_eq,hr]
  split
  ·rw[JK]
   obtain⟨b',h1,h2,h3,h4⟩:=JOB (a:=a) hlo hl m c [] om om (.inl rfl);rw[Av]at h4;exact⟨b',h1,h2,h3,h4⟩
  ·exact⟨c+1,om,hb,by rw[hd],by rw[Kv]⟩
theorem f30{l:List CV}(hlo:lo<=h.length)(hl:l.length<=1000000000):E lo 30 [.list .no (JL l)] h=some (.list .no (JL (trim l)),h):=by
 obtain⟨a,a1,a2,a3,h1⟩:=JOA (lo:=lo) (h:=h) hlo hl l.length 0 om;obtain⟨b,b1,b2,b3,h2⟩:=JOB (lo:=lo) (h:=h) (a:=a) hlo hl (l.length-a) l.length _ om (Ab _) (.inr rfl);rw[List.take_length,<-a3,Az,<-yQ]at b3;rw[b3];have n0:((0:Nat):Int)=0:=rfl;have q1:a<=b:=b1;have q2:b<=l.length:=b2;have hs:(JL l).drop a=JL (l.drop a):=ZC l a
 have ht:((JL l).take b).drop a=JL ((l.take b).drop a):=by rw[Wx,ZC]
 rw[e30];simp only[JCP,jy,b30,Tryz.f30,JD,JT,JB,go_sem,N35,n0]at h1 h2;simp only[go_sem,b30,Tryz.f30,hlo,h1,h2,JP,QA,q1,q2,ht,n0]<;>rfl
theorem Kr{l m:List CV}(h:m<:+l):JO m<=JO l:=by obtain⟨p,rfl⟩:=h;rw[Gv];omega
theorem YA{l m:List CV}(h:m<+:l):JO m<=JO l:=by obtain⟨p,rfl⟩:=h;rw[Gv];omega
theorem ZZ:∀l:List CV,JO l.reverse=JO l
 |[]=>rfl
 |v::r=>by rw[List.reverse_cons,Gv,ZZ r,J5,J5,WM];omega
theorem Z0(l:List CV):JO (trim l)<=JO l:=by
 unfold trim;rw[ZZ];refine Nat.le_trans (Kr (AR _)) ?_
 rw[ZZ];exact Kr (AR _)
abbrev N88(l:List CV)(n k:Int):Jj:=[(1,.v (.int .i64 n)),(7,.list .no (JL l)),(8,.v (.int .i64 l.length)),(9,.v (.int .i64 k))]
theorem JTN(n:Nat)(t:Rul.Tk4)(ks:List CV):HK n (.mk t ks)=(JS t.k !=0&&(match n with
  |0=>true
  |n+1=>Js n ks)):=by cases n<;>rw[HK]
theorem JMw(n:Nat)(v:CV)(r:List CV):Js n (v::r)=(HK n v||Js n r):=by rw[Js]
theorem JPt(n:Nat):Js n []=false:=by rw[Js]
theorem JWz{l:List CV}{v:CV}{n k:Nat}(hn:n<=64)(hlo:lo<=h.length)(hl:JO l<=1000000000000000000)(hg:l[k]? =some v)
  (ih:∀m,n=m+1->∀lo ks h,lo<=h.length->JO ks<=1000000000000000000->E lo 50 [.list .no (JL ks),.v (.int .i64 (m:Int))] h=some (.v (.bool (Js m ks)),h)):
  evCode ⟨Aa,E,lo,h.length,h50⟩ JA GW (N88 l n k,h)=
   if HK n v=true then some (.ret,[(4,.v (.bool true))],h++[.cells (Qa v)])else some (.normal,N88 l n (k+1:Nat),h):=by
 obtain⟨t,ks⟩:=v;have hlt:k<l.length:=(Ad.1 hg).1
 have hgr:(JL l)[k]? =some (Qa (.mk t ks)):=by rw[Ks,hg]<;>rfl
 have q:decide ((k:Int)<(l.length:Int))=true:=by simp;omega
 have hll:=Jq l;have hkk:JO ks<=JO l:=ZD (v:= .mk t ks) hg;have hw:=JH (i:=k) om;have hlo':lo<=h.length+1:=om;have c32:=λlo hlo=>f32 (lo:=lo) (h:=h++[.cells (Qa (.mk t ks))]) hlo t.k
 rw[Jr]at*;have c32a:=c32 lo (by simp;omega);have c32b:=c32 (h.length+1) (by simp)
 clear c32;rw[JTN];by_cases hc:JS t.k=0
 ·have q3:(JS t.k !=0)=false:=by simpa using hc
  rw[q3,Aw,if_neg (by simp)]
  simp only[N88,go_sem,GW,b50,Tryz.f50,hlo,hlo',q,hgr,q3,hw,c32a,c32b,JP]<;>rfl
 ·have q3:(JS t.k !=0)=true:=by simpa using hc
  rw[q3,AB]
  cases n with
  |zero=>
   have q5:(((0:Nat):Int)==0)=true:=rfl;rw[if_pos rfl]
   simp only[N88,go_sem,GW,b50,Tryz.f50,hlo,hlo',q,hgr,q3,q5,hw,c32a,c32b,JP]<;>rfl
  |succ m=>
   have q5:(((m+1:Nat):Int)==0)=false:=by rw[beq_eq_false_iff_ne];omega
   have w2:Aq.wrap (((m+1:Nat):Int)-1)=(m:Int):=by rw[JN om om];omega
   have c50:=λlo hlo=>ih m rfl lo ks (h++[.cells (Qa (.mk t ks))]) hlo om
   rw[Jr]at c50;have c50a:=c50 lo (by simp;omega);have c50b:=c50 (h.length+1) (by simp)
   clear c50 ih;show _=if Js m ks=true then _ else _
   cases hm:Js m ks with
   |true=>
    rw[hm]at c50a c50b;rw[if_pos rfl]
    simp only[N88,go_sem,GW,b50,Tryz.f50,hlo,hlo',q,hgr,q3,q5,hw,w2,c32a,c32b,c50a,c50b,JP]<;>rfl
   |false=>
    rw[hm]at c50a c50b;rw[if_neg (by simp)]
    simp only[N88,go_sem,GW,b50,Tryz.f50,hlo,hlo',q,hgr,q3,q5,hw,w2,c32a,c32b,c50a,c50b,JP]<;>rfl
theorem JcD{l:List CV}{d:Int}(hlo:lo<=h.length):evCode ⟨Aa,E,lo,h.length,h50⟩ JA GW (N88 l d l.length,h)=
   some (.exit 0,N88 l d l.length++[(10,.v (.bool false))],h):=by
 have q:decide ((l.length:Int)<(l.length:Int))=false:=by simp
 simp only[N88,go_sem,GW,b50,Tryz.f50,hlo,q]<;>rfl
theorem JTO{l:List CV}{n:Nat}(hn:n<=64)(hlo:lo<=h.length)(hl:JO l<=1000000000000000000)
  (ih:∀m,n=m+1->∀lo ks h,lo<=h.length->JO ks<=1000000000000000000->E lo 50 [.list .no (JL ks),.v (.int .i64 (m:Int))] h=some (.v (.bool (Js m ks)),h)):
  ∀(m k:Nat),k+m=l.length->if Js n (l.drop k)=true then
    ∃X,JA (evCode ⟨Aa,E,lo,h.length,h50⟩ JA GW) (N88 l n k,h)=some (.ret,[(4,.v (.bool true))],h++X)
   else JA (evCode ⟨Aa,E,lo,h.length,h50⟩ JA GW) (N88 l n k,h)=some (.exit 0,N88 l n l.length++[(10,.v (.bool false))],h):=by
 intro m
 induction m with
 |zero=>
  intro k hk;obtain rfl:k=l.length:=om
  rw[Be,JPt,if_neg (by simp),loop_eq,JcD hlo,Kv]
 |succ m ihm=>
  intro k hk;have hlt:k<l.length:=om;have hg:l[k]? =some l[k]:=Ac hlt
  have hd:l.drop k=l[k]::l.drop (k+1):=AD hlt;rw[hd,JMw];generalize l[k]=v at*;have hr:=JWz hn hlo hl hg ih
  cases hm:HK n v with
  |true=>
   rw[hm,if_pos rfl]at hr;rw[Bool.true_or,if_pos rfl]
   exact⟨_,by rw[loop_eq,hr,QY]⟩
  |false=>
   rw[hm,if_neg (by simp)]at hr
   rw[Bool.false_or,loop_eq,hr,JK];exact ihm (k+1) om
theorem f50:∀(n:Nat),n<=64->∀(lo:Nat) (l:List CV) (h:JC),lo<=h.length->JO l<=1000000000000000000->E lo 50 [.list .no (JL l),.v (.int .i64 (n:Int))] h=some (.v (.bool (Js n l)),h):=by
 intro n
 induction n with
 |zero=>
  intro hn lo l h hlo hl;have hL:=JTO (lo:=lo) (h:=h) hn hlo hl (λm hm=>by omega) l.length 0 om
  have n0:((0:Nat):Int)=0:=rfl;rw[Az]at hL;rw[e50]
  cases hm:Js 0 l with
  |false=>
   rw[hm,if_neg (by simp)]at hL
   simp only[GW,b50,Tryz.f50,JD,JT,JB,go_sem,N88,n0,Al,Ai]at hL
   simp only[go_sem,b50,Tryz.f50,hlo,hL,JP,n0]<;>rfl
  |true=>
   rw[hm,if_pos rfl]at hL;obtain⟨X,hL⟩:=hL;simp only[GW,b50,Tryz.f50,JD,JT,JB,go_sem,N88,n0,Al,Ai]at hL
   simp only[go_sem,b50,Tryz.f50,hlo,hL,JP,n0]<;>rfl
 |succ n ih=>
  intro hn lo l h hlo hl
  have hL:=JTO (lo:=lo) (h:=h) hn hlo hl (λm hm=>by
   obtain rfl:n=m:=om
   exact λlo ks h hlo hk=>ih om lo ks h hlo hk) l.length 0 om
  have n0:((0:Nat):Int)=0:=rfl;rw[Az]at hL;rw[e50]
  cases hm:Js (n+1) l with
  |false=>
   rw[hm,if_neg (by simp)]at hL
   simp only[GW,b50,Tryz.f50,JD,JT,JB,go_sem,N88,n0,Al,Ai]at hL
   simp only[go_sem,b50,Tryz.f50,hlo,hL,JP,n0]<;>rfl
  |true=>rw[hm,if_pos rfl]at hL;obtain⟨X,hL⟩:=hL;simp only[GW,b50,Tryz.f50,JD,JT,JB,go_sem,N88,n0,Al,Ai]at hL;simp only[go_sem,b50,Tryz.f50,hlo,hL,JP,n0]<;>rfl
theorem f29{l:List CV}(hlo:lo<=h.length)(hl:JO l<=1000000000000000000):E lo 29 [.list .no (JL l)] h=some (.v (.bool (Js 64 l)),h):=by have c50:=f50 64 (Ab _) lo l h hlo hl;have e64:((64:Nat):Int)=64:=rfl;rw[e64]at c50;rw[e29];simp only[go_sem,b29,Tryz.f29,hlo,c50]<;>rfl
abbrev N68(l:List CV)(i:Nat)(a b:Int):Jj:=[(0,.list .no (JL l)),(1,.v (.int .i64 i)),(2,.v (.int .i64 a)),(3,.v (.int .i64 b))]
theorem JW0{l:List CV}{v:CV}{i:Nat}{a b:Int}(hlo:lo<=h.length)(hl:l.length<=1000000000)(hg:l[i]? =some v):
  evCode ⟨Aa,E,lo,h.length,h27⟩ JA JAb (N68 l i a b,h)=
   if J4 a b v=true then some (.normal,N68 l (i+1) a b,h)else some (.exit 0,N68 l i a b++[(32,.v (.bool false))],h):=by
 obtain⟨t,ks⟩:=v;have hlt:i<l.length:=(Ad.1 hg).1
 have hgr:(JL l)[i]? =some (Qa (.mk t ks)):=by rw[Ks,hg]<;>rfl
 have q:decide ((i:Int)<(l.length:Int))=true:=by simp;omega
 have hw:=JH (i:=i) om;rw[Jr]at hgr;have hn:J4 a b (.mk t ks)=(t.k !=a&&t.k !=b):=rfl;rw[hn]
 cases ha:(t.k !=a)with
 |false=>
  rw[Aw,if_neg (by simp)]
  simp only[N68,go_sem,JAb,b27,Tryz.f27,hlo,q,hgr,hw,ha,JP]<;>rfl
 |true=>
  rw[AB]
  cases hb:(t.k !=b)with
  |false=>
   rw[if_neg (by simp)]
   simp only[N68,go_sem,JAb,b27,Tryz.f27,hlo,q,hgr,hw,ha,hb,JP]<;>rfl
  |true=>rw[if_pos rfl];simp only[N68,go_sem,JAb,b27,Tryz.f27,hlo,q,hgr,hw,ha,hb,JP]<;>rfl
theorem JcG{l:List CV}{a b:Int}(hlo:lo<=h.length):evCode ⟨Aa,E,lo,h.length,h27⟩ JA JAb (N68 l l.length a b,h)=some (.exit 0,N68 l l.length a b++[(32,.v (.bool false))],h):=by
 have q:decide ((l.length:Int)<(l.length:Int))=false:=by simp
 simp only[N68,go_sem,JAb,b27,Tryz.f27,hlo,q,JP]<;>rfl
theorem JTP{l:List CV}{a b:Int}(hlo:lo<=h.length)(hl:l.length<=1000000000):∀(m i:Nat),i+m=l.length->
  JA (evCode ⟨Aa,E,lo,h.length,h27⟩ JA JAb) (N68 l i a b,h)=some (.exit 0,N68 l (i+((l.drop i).takeWhile (J4 a b)).length) a b++[(32,.v (.bool false))],h)
 |0,i,hm=>by
  obtain rfl:i=l.length:=om
  rw[Be,List.takeWhile_nil,An,BH,loop_eq,JcG hlo,Kv]
 |m+1,i,hm=>by
  have hlt:i<l.length:=om;have hd:l.drop i=l[i]::l.drop (i+1):=AD hlt;have hr:=JW0 (h:=h) (a:=a) (b:=b) hlo hl (Ac hlt)
  rw[hd,List.takeWhile_cons,loop_eq,hr]
  split
  ·have e:i+1+((l.drop (i+1)).takeWhile (J4 a b)).length=i+(((l.drop (i+1)).takeWhile (J4 a b)).length+1):=om
   rw[JK,JTP hlo hl m (i+1) om,Ae,e]
  ·rw[Kv,An,BH]
theorem f27{l:List CV}{i:Nat}{a b:Int}(hlo:lo<=h.length)(hl:l.length<=1000000000)(hi:i<=l.length):E lo 27 [.list .no (JL l),.v (.int .i64 i),.v (.int .i64 a),.v (.int .i64 b)] h=some (.v (.int .i64 ((i+((l.drop i).takeWhile (J4 a b)).length:Nat):Int)),h):=by
 have hL:=JTP (lo:=lo) (h:=h) (a:=a) (b:=b) hlo hl (l.length-i) i om;rw[e27];simp only[JAb,b27,Tryz.f27,JD,JT,JB,go_sem,N68,Al,Ai]at hL;simp only[go_sem,b27,Tryz.f27,hlo,hL]<;>rfl
end Go.Lift.M1
end

section
open Go.Proofs
namespace Go.Lift.M1
open Rul
open Utf (By)
variable[MX]
variable{lo:Nat}{h:JC}
def rgt:Nat->Code->Code
 |0,c=>c
 |n+1,.seq _ b=>rgt n b
 |_,c=>c
def lft:Code->Code
 | .seq a _=>a
 |c=>c
def zd:Dc:=⟨[],[],false⟩
def dcR:Option Dc->V
 |some d=> .tup [.agg (Jv d),.v (.bool true)]
 |none=> .tup [.agg (Jv zd),.v (.bool false)]
def BtT(t:Rul.Tk4):Prop:=By t.b/\t.b.length<=1000000000
theorem JGn{b:List Int}{i:Nat}{c:Int}(hy:By b)(h:b[i]? =some c):((Rul.bs b).data[i]?).map (λx:UInt8=>V.v (.int .u8 x.toNat))=some (.v (.int .u8 c)):=by
 have hc:=hy c (List.mem_of_getElem? h);have e:(Rul.bs b).data[i]? =some (Bh c.toNat):=by simp[Rul.bs,Q1,h]
 rw[e];simp only[Option.map_some]
 have:((Bh c.toNat).toNat:Int)=c:=by rw[BU];omega
 rw[this]
theorem JcH{n:List Int}{i:Bool}{R:List (List V)}{ex:Jj}(hlo:lo<=h.length)(hy:By n)(hl:n.length<=1000000000):
  evCode ⟨Aa,E,lo,h.length,h52⟩ JA (rgt 9 b52) ((2,.ptr h.length 0)::(4,.ptr (h.length+1) 0)::ex,h++[.cells [.v (.string AA),.list .yes [],.v (.bool false)],.cells [.v (.string (Rul.bs n)),.list .no R,.v (.bool i)]])=
   some (.ret,[(2,.ptr h.length 0),(3,.v (.bool true))],h++[.cells [.v (.string (Rul.bs (nameOf n))),.list .no R,.v (.bool i)],.cells [.v (.string (Rul.bs (nameOf n))),.list .no R,.v (.bool i)]]):=by
 have l1:lo<=h.length+1:=om;have c87:=λX=>r49 (lo:=lo) (h:=h++[.cells [.v (.string AA),.list .yes [],.v (.bool false)],.cells X]) (by simp;omega) om hy
 have sz:=JTH n
 match n,hl,hy,c87,sz with
 |[],hl,hy,c87,sz=>
  have q:decide (((0:Nat):Int)<2)=true:=rfl;have en:nameOf []=KR []:=rfl;rw[en];simp only[An]at sz
  simp only[go_sem,rgt,b52,Tryz.f52,hlo,l1,sz,q,c87]<;>rfl
 |[a],hl,hy,c87,sz=>
  have q:decide (((1:Nat):Int)<2)=true:=rfl;have en:nameOf [a]=KR [a]:=by simp[nameOf,Lr]
  rw[en];simp only[Ae,An,AE]at sz
  simp only[go_sem,rgt,b52,Tryz.f52,hlo,l1,sz,q,c87]<;>rfl
 |a::b::r,hl,hy,c87,sz=>
  have q:decide (((r.length+1+1:Nat):Int)<2)=false:=by rw[decide_eq_false_iff_not];omega
  have i0:=JGn (b:=a::b::r) (i:=0) (c:=a) hy rfl;have i1:=JGn (b:=a::b::r) (i:=1) (c:=b) hy rfl;simp only[Ae]at sz
  have en:nameOf (a::b::r)=if a=45/\b=45 then a::b::r else KR (a::b::r):=by
   have ep:[45,45].isPrefixOf (a::b::r)=((45==a)&&(45==b)):=by simp[Lr]
   unfold nameOf;rw[ep];by_cases h1:45=a
   ·by_cases h2:45=b
    ·subst h1 h2;rfl
    ·have e2:((45:Int)==b)=false:=by simpa using h2
     rw[e2,Bool.and_false,if_neg (by simp),if_neg (λhh=>h2 hh.2.symm)]
   ·have e1:((45:Int)==a)=false:=by simpa using h1
    rw[e1,Aw,if_neg (by simp),if_neg (λhh=>h1 hh.1.symm)]
  rw[en];generalize a::b::r=N at*
  cases h1:(a !=45)with
  |true=>
   rw[if_neg (by intro hh;simp[hh.1]at h1)]
   simp only[go_sem,rgt,b52,Tryz.f52,hlo,l1,sz,q,i0,h1,c87]<;>rfl
  |false=>
   cases h2:(b !=45)with
   |true=>
    rw[if_neg (by intro hh;simp[hh.2]at h2)]
    simp only[go_sem,rgt,b52,Tryz.f52,hlo,l1,sz,q,i0,i1,h1,h2,c87]<;>rfl
   |false=>
    rw[if_pos (by simp at h1 h2;exact⟨h1,h2⟩)]
    simp only[go_sem,rgt,b52,Tryz.f52,hlo,l1,sz,q,i0,i1,h1,h2,c87]<;>rfl
end Go.Lift.M1
end
