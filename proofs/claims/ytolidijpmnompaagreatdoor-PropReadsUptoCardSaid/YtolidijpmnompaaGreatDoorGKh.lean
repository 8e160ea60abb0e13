/- The program's reader of characters: names, remarks, bad urls. -/
import Derived.Test.YtolidijpmnompaaGreatDoorGLd
import Derived.Test.YtolidijpmnompaaGreatDoorGKb
import Derived.Test.YtolidijpmnompaaGreatDoorGKg
open Bool renaming and_eq_true->Af,false_eq_true->Al,or_eq_true->AU
open ByteArray renaming empty->AQ,ext->DS,size->De
open Go.IntKind renaming i32->AR,i64->Am,u64->Ba,u8->BM
open Go.Proofs.Tryz renaming prog->Aa
open List renaming append_assoc->Ax,append_nil->AE,dropWhile_cons_of_neg->Bn,dropWhile_cons_of_pos->Bz,drop_drop->AY,drop_eq_nil_of_le->AZ,eq_nil_of_length_eq_zero->Ar,getElem?_eq_getElem->Ac,length_cons->Ae,length_nil->Ai,map_nil->BJ,mem_of_getElem? ->Aj,takeWhile_cons_of_neg->Ci,takeWhile_cons_of_pos->Be
open Nat renaming add_zero->Bo,le_refl->Ad,lt_or_ge->Ay,zero_add->AC
open UInt8 renaming ofNat->B8,toNat_ofNat'->Cr
set_option linter.unusedVariables false
set_option linter.unusedSimpArgs false
set_option linter.unusedSectionVars false
set_option maxRecDepth 20000
set_option maxHeartbeats 4000000
section
open Go.Proofs
namespace Go.Lift.Y1.P.T
open Utf Tok
def str(l:List Int):ByteArray:=⟨(YK (Yr l)).toArray⟩
theorem jc(c:Int)(t:List Int):chr (c::t) 0=c:=rfl
theorem GH(c:Int)(t:List Int)(k:Nat):chr (c::t) (k+1)=chr t k:=by simp[chr]
section
variable{lo i:Nat}{l:List Int}{p q:List Ob}
end
def skipS:List Int->List Int
 |[]=>[]
 |[_]=>[]
 |c::d::t=>if c=42/\d=47 then c::d::t else skipS (d::t)
theorem JPf:∀s:List Int,yh s=(skipS s).drop 2
 |[]=>rfl
 |[_]=>rfl
 |c::d::t=>by
  unfold yh skipS
  split
  ·rfl
  ·exact JPf (d::t)
section
variable{lo i:Nat}{l:List Int}{p q:List Ob}
theorem JYO(l:List Int)(i:Nat)(a b:Int)(t:List Int)(h:suf l i=a::b::t):suf l (i+2)=t/\i+2<=l.length:=by
 have h1:suf l (i+2)=(suf l i).drop 2:=by simp[suf,AY]
 have h2:=QD l i;rw[h,Ae,Ae]at h2;exact⟨by rw[h1,h]<;>rfl,om⟩
end
def tokC(k:Int)(t:List Int):List V:=[.v (.int .i64 k),.v (.string (str t)),.v (.int .i64 0),.v (.int .i64 0),.v (.bool false),.v (.bool false)]
theorem str_nil:str []=AQ:=rfl
theorem JDU(sign:Int)(m:Nat):QY sign m []=(true,[],[]):=by cases m<;>rfl
theorem Y7{l:List Int}{i:Nat}(hi:i<l.length):0<=chr (suf l i) 0:=by
 rw[JBU,Bo,Ac hi]
 exact(yg _).1
section
variable{lo i:Nat}{l:List Int}{p q:List Ob}
end
section
variable{lo i:Nat}{l:List Int}{p q:List Ob}
theorem JVQ(m:Nat):kZ m []=[]:=by cases m<;>rfl
end
theorem f108{lo:Nat}{c:Int}{h:JG}:E lo 108 [.v (.int .i32 c)] h=some (.v (.bool (KD c)),h):=by rw[Jq3];simp only[go_sem,Jj0,Tryz.f108,KD]
theorem f107{lo:Nat}{c:Int}{h:JG}:E lo 107 [.v (.int .i32 c)] h=some (.v (.bool (JT1 c)),h):=by rw[Jq2];simp only[go_sem,Jjz,Tryz.f107,JT1]
theorem f77{lo:Nat}{c:Int}{h:JG}:E lo 77 [.v (.int .i32 c)] h=some (.v (.bool (ltr c)),h):=by rw[e77];simp only[go_sem,b77,Tryz.f77,f107,f108,ltr]
theorem f74{lo:Nat}{c:Int}{h:JG}:E lo 74 [.v (.int .i32 c)] h=some (.v (.bool (blk c)),h):=by rw[e74];simp only[go_sem,b74,Tryz.f74,blk]
theorem f133{lo:Nat}{c:Int}{h:JG}:E lo 133 [.v (.int .i32 c)] h=some (.v (.bool (unp c)),h):=by rw[JrS];simp only[go_sem,Jj2,Tryz.f133,unp]
theorem f78{lo:Nat}{a b:Int}{h:JG}:E lo 78 [.v (.int .i32 a),.v (.int .i32 b)] h=some (.v (.bool (esc a b)),h):=by rw[e78];simp only[go_sem,b78,Tryz.f78,esc]
theorem f79{lo:Nat}{a b c:Int}{h:JG}:E lo 79 [.v (.int .i32 a),.v (.int .i32 b),.v (.int .i32 c)] h=some (.v (.bool (beg a b c)),h):=by
 rw[e79]
 cases ha:a==45 with
 |true=>simp only[go_sem,b79,Tryz.f79,f107,f78,ha,beg]
 |false=>simp only[go_sem,b79,Tryz.f79,f107,f78,ha,beg,Al]
theorem f81{lo:Nat}{a b c:Int}{h:JG}:E lo 81 [.v (.int .i32 a),.v (.int .i32 b),.v (.int .i32 c)] h=some (.v (.bool (num a b c)),h):=by
 rw[e81]
 cases ha:a==43||a==45 with
 |true=>simp only[go_sem,b81,Tryz.f81,f108,ha,num]
 |false=>simp only[go_sem,b81,Tryz.f81,f108,ha,num,Al]
def JYP(c:Int):V:= .tup [.v (.int .i32 (if hex c<0 then 0 else hex c)),.v (.bool (decide (0<=hex c)))]
theorem f129{lo:Nat}{c:Int}{h:JG}(h0: -1<=c)(h1:c<=1114111):E lo 129 [.v (.int .i32 c)] h=some (JYP c,h):=by
 rw[JrO];have w1:AR.wrap (c-48)=c-48:=wrap_i32 om om;have w2:AR.wrap (c-97)=c-97:=wrap_i32 om om;have w3:AR.wrap (c-97+10)=c-97+10:=wrap_i32 om om;have w4:AR.wrap (c-65)=c-65:=wrap_i32 om om;have w5:AR.wrap (c-65+10)=c-65+10:=wrap_i32 om om;unfold JYP hex
 cases hd:KD c with
 |true=>
  simp only[KD,Af,decide_eq_true_eq]at hd;have hp:¬(c-48<0):=om;have hp2:0<=c-48:=om;have hd':KD c=true:=by simp[KD];omega
  simp only[go_sem,JUL,Tryz.f129,f108,hd',w1,hp,hp2]
 |false=>
  cases ha:decide (97<=c)&&decide (c<=102)with
  |true=>
   have hb:=ha;simp only[Af,decide_eq_true_eq]at hb;have hp:¬(c-97+10<0):=om;have hp2:0<=c-97+10:=om
   simp only[go_sem,JUL,Tryz.f129,f108,hd,ha,w2,w3,hp,hp2,Al]
  |false=>
   cases hb:decide (65<=c)&&decide (c<=70)with
   |true=>
    have hb2:=hb;simp only[Af,decide_eq_true_eq]at hb2;have hp:¬(c-65+10<0):=om;have hp2:0<=c-65+10:=om
    simp only[go_sem,JUL,Tryz.f129,f108,hd,ha,hb,w4,w5,hp,hp2,Al]
   |false=>simp only[go_sem,JUL,Tryz.f129,f108,hd,ha,hb,Al]
section
variable{lo i:Nat}{l:List Int}{p q:List Ob}
theorem f47{k:Nat}(hi:i+k<=1000000000000):E lo 47 [.ptr p.length 0,.v (.int .i64 k)] (p++R l i::q)=some (.v (.int .i32 (chr (suf l i) k)),p++R l i::q):=by
 have hw:Am.wrap ((i:Int)+k)=((i+k:Nat):Int):=by rw[JW om om];omega
 rw[e47,JBU];by_cases hl:i+k<l.length
 ·have hx:l[i+k]? =some l[i+k]:=Ac hl
  have hd:decide ((l.length:Int)<=(i+k:Nat))=false:=by simp;omega
  rw[hx];generalize l[i+k]=x at hx;have hsc:=zQ x
  cases hs:isc x with
  |true=>
   have:K7 x=x:=by rw[<-hsc,hs]<;>rfl
   simp only[go_sem,b47,Tryz.f47,hw,hd,hx,f73,hs,this]
  |false=>
   have:K7 x=65533:=by rw[<-hsc,hs]<;>rfl
   simp only[go_sem,b47,Tryz.f47,hw,hd,hx,f73,hs,this]
 ·have hx:l[i+k]? =none:=List.getElem?_eq_none om
  have hd:decide ((l.length:Int)<=(i+k:Nat))=true:=by simp;omega
  rw[hx];simp only[go_sem,b47,Tryz.f47,hw,hd,hx]
theorem Jk9{lo:Nat}{l:List Int}{h:JG}(hl:l.length<=35184372088832):E lo 112 [.list .no (ri .i32 l)] h=some (.list .no (ri .u8 (Yr l)),h):=f112 hl
theorem f84{lo:Nat}{l:List Int}{h:JG}(hl:l.length<=35184372088832):E lo 84 [.list .no (ri .i32 l)] h=some (.v (.string (str l)),h):=by rw[e84];simp only[go_sem,b84,Tryz.f84,Jk9 hl];rfl
theorem Jed(hl:l.length<=100000000000):∀(n i:Nat),l.length-i<=n->i<=l.length->
  ∃j,j<=l.length/\i<=j/\suf l j=QL (suf l i)/\
   ∀lo (p q:List Ob),lo<=p.length->JA (evCode ⟨Aa,E,lo,p.length+(q.length+1),h75⟩ JA JGw) ([(0,.ptr p.length 0)],p++R l i::q)=some (.exit 0,[(0,.ptr p.length 0),(4,.v (.bool false))],p++R l j::q):=by
 intro n
 induction n with
 |zero=>
  intro i h1 h2;obtain rfl:i=l.length:=om;have k0:=λlo p q=>f47 (lo:=lo) (l:=l) (i:=l.length) (p:=p) (q:=q) (k:=0) om
  have hs:suf l l.length=[]:=J9 (Ad _);simp only[n0,hs,QT]at k0;refine⟨l.length,Ad _,Ad _,by rw[hs]<;>rfl,λlo p q hlo=>?_⟩
  rw[JB]
  simp only[go_sem,JGw,b75,Tryz.f75,k0,f74,JML]
 |succ n ih=>
  intro i h1 h2;have k0:=λlo p q=>f47 (lo:=lo) (l:=l) (i:=i) (p:=p) (q:=q) (k:=0) om
  simp only[n0]at k0;have hw:=JM (i:=i) om
  cases hb:blk (chr (suf l i) 0)with
  |false=>
   refine⟨i,h2,Ad _,?_,λlo p q hlo=>?_⟩
   ·by_cases hi:i<l.length
    ·rw[Kc hi]at hb⊢
     exact(Bn (by simpa[chr]using hb)).symm
    ·rw[J9 om]<;>rfl
   ·rw[JB]
    simp only[go_sem,JGw,b75,Tryz.f75,k0,f74,hb]
  |true=>
   have hi:i<l.length:=by
    rcases Ay i l.length with h|h
    ·exact h
    ·rw[J9 h]at hb;exact absurd hb (by decide)
   obtain⟨j,j1,j2,j3,j4⟩:=ih (i+1) om om;refine⟨j,j1,om,?_,λlo p q hlo=>?_⟩
   ·rw[j3,Kc hi]
    exact(Bz (by simpa using hb)).symm
   ·rw[JB]
    have e:evCode ⟨Aa,E,lo,p.length+(q.length+1),h75⟩ JA JGw ([(0,.ptr p.length 0)],p++R l i::q)=some (.normal,[(0,.ptr p.length 0)],p++R l (i+1)::q):=by simp only[go_sem,JGw,b75,Tryz.f75,k0,f74,hb,hw,hlo]
    rw[e,JO];exact j4 lo p q hlo
theorem f75(hl:l.length<=100000000000)(hi:i<=l.length):∃j,j<=l.length/\i<=j/\suf l j=QL (suf l i)/\
  ∀lo p q,lo<=p.length->E lo 75 [.ptr p.length 0] (p++R l i::q)=some (.tup [],p++R l j::q):=by
 obtain⟨j,j1,j2,j3,j4⟩:=Jed (l:=l) hl l.length i om hi;refine⟨j,j1,j2,j3,λlo p q hlo=>?_⟩
 have hL:=j4 lo p q hlo;rw[e75];simp only[JGw,b75,Tryz.f75,JK,loops,JC,go_sem]at hL;simp only[go_sem,b75,Tryz.f75,hL]
theorem JYQ(hl:l.length<=100000000000):∀(n k i:Nat) (v:Int),n+k=6->i<=l.length->0<=v->v<16^k->
  ∃(j:Nat) (t x:Int) (b:Bool),j<=l.length/\i<=j/\suf l j=(Ys n v (suf l i)).2/\0<=(Ys n v (suf l i)).1/\(Ys n v (suf l i)).1<16777216/\
   ∀lo (p q:List Ob),lo<=p.length->JA (evCode ⟨Aa,E,lo,p.length+(q.length+1),JXN⟩ JA ql)
    ([(0,.ptr p.length 0),(3,.v (.int .i32 (if hex (chr (suf l i) 0)<0 then 0 else hex (chr (suf l i) 0)))),(4,.v (.bool (decide (0<=hex (chr (suf l i) 0))))),(6,.v (.int .i32 v)),(7,.v (.int .i64 k))],p++R l i::q)=
    some (.exit 0,[(0,.ptr p.length 0),(3,.v (.int .i32 x)),(6,.v (.int .i32 (Ys n v (suf l i)).1)),(7,.v (.int .i64 t)),(32,.v (.bool false))],p++R l j::q):=by
 intro n
 induction n with
 |zero=>
  intro k i v hk hi h0 h1;obtain rfl:k=6:=om;refine⟨i,6,(if hex (chr (suf l i) 0)<0 then 0 else hex (chr (suf l i) 0)),false,hi,Ad _,rfl,h0,by simpa[Ys]using h1,λlo p q hlo=>?_⟩
  have n6:((6:Nat):Int)=6:=rfl;rw[JB];simp only[n6]
  simp only[go_sem,ql,qj,Tryz.f106,Ys]
 |succ n ih=>
  intro k i v hk hi h0 h1;have hd:decide ((k:Int)<6)=true:=by simp;omega
  have hw:=JM (i:=k) om;have hwi:=JM (i:=i) om
  have hp:(16:Int)^k<=1048576:=by have:k=0\/k=1\/k=2\/k=3\/k=4\/k=5:=om;rcases this with h|h|h|h|h|h<;>rw[h]<;>decide
  have hup:=JeY (chr (suf l i) 0);by_cases hx:hex (chr (suf l i) 0)<0
  ·have hd2:decide (0<=hex (chr (suf l i) 0))=false:=by simp;omega
   have e1:Ys (n+1) v (suf l i)=(v,suf l i):=by
    by_cases hi':i<l.length
    ·rw[Kc hi']at hx⊢
     simp only[Ys];rw[if_pos (by simpa[chr]using hx)]
    ·rw[J9 om]<;>rfl
   rw[e1,if_pos hx];refine⟨i,k,0,false,hi,Ad _,rfl,h0,by simp only;omega,λlo p q hlo=>?_⟩
   rw[JB];simp only[go_sem,ql,qj,Tryz.f106,hd,hd2]
  ·have hd2:decide (0<=hex (chr (suf l i) 0))=true:=by simp;omega
   have hi':i<l.length:=by
    rcases Ay i l.length with h|h
    ·exact h
    ·rw[J9 h,QT,JMK]at hx;omega
   have e1:Ys (n+1) v (suf l i)=Ys n (v*16+hex (chr (suf l i) 0)) (suf l (i+1)):=by
    rw[Kc hi']at hx;rw[Kc hi'];simp only[Ys];rw[if_neg (by simpa[chr]using hx)]
    simp[chr]
   have w1:AR.wrap (v*16)=v*16:=wrap_i32 om om;have w2:AR.wrap (v*16+hex (chr (suf l i) 0))=v*16+hex (chr (suf l i) 0):=wrap_i32 om om;have hpow:(16:Int)^ (k+1)=16^k*16:=Int.pow_succ ..;obtain⟨j,t,x,b,j1,j2,j3,j4,j5,j6⟩:=ih (k+1) (i+1) (v*16+hex (chr (suf l i) 0)) om om om (by rw[hpow];omega)
   have k0:=λlo p q=>f47 (lo:=lo) (l:=l) (i:=i+1) (p:=p) (q:=q) (k:=0) om
   have hc:=JVL l (i+1) 0;have kh:=λlo h=>f129 (lo:=lo) (h:=h) hc.1 hc.2
   simp only[n0,JYP]at k0 kh;rw[e1,if_neg hx];refine⟨j,t,x,b,j1,om,j3,j4,j5,λlo p q hlo=>?_⟩
   have e:evCode ⟨Aa,E,lo,p.length+(q.length+1),JXN⟩ JA ql ([(0,.ptr p.length 0),(3,.v (.int .i32 (hex (chr (suf l i) 0)))),(4,.v (.bool (decide (0<=hex (chr (suf l i) 0))))),(6,.v (.int .i32 v)),(7,.v (.int .i64 k))],p++R l i::q)=
     some (.normal,[(0,.ptr p.length 0),(3,.v (.int .i32 (if hex (chr (suf l (i+1)) 0)<0 then 0 else hex (chr (suf l (i+1)) 0)))),(4,.v (.bool (decide (0<=hex (chr (suf l (i+1)) 0))))),(6,.v (.int .i32 (v*16+hex (chr (suf l i) 0)))),(7,.v (.int .i64 (k+1:Nat)))],p++R l (i+1)::q):=by
    simp only[go_sem,ql,qj,Tryz.f106,hd,k0,kh,hd2,w1,w2,hw,hwi,hlo]
   rw[JB,e,JO];exact j6 lo p q hlo
end
section
variable{lo i:Nat}{l:List Int}{p q:List Ob}
theorem f106(hl:l.length<=100000000000)(hi:i<=l.length):∃j,j<=l.length/\i<=j/\suf l j=(QM (suf l i)).2/\
  ∀lo p q,lo<=p.length->E lo 106 [.ptr p.length 0] (p++R l i::q)=some (.v (.int .i32 (QM (suf l i)).1),p++R l j::q):=by
 have k0:=λlo p q=>f47 (lo:=lo) (l:=l) (i:=i) (p:=p) (q:=q) (k:=0) om
 have hc:=JVL l i 0;have kh:=λlo h=>f129 (lo:=lo) (h:=h) hc.1 hc.2
 have hwi:=JM (i:=i) om;simp only[n0,JYP]at k0 kh;by_cases hx:hex (chr (suf l i) 0)<0
 ·have hd:decide (0<=hex (chr (suf l i) 0))=false:=by simp;omega
  by_cases hi':i<l.length
  ·have hne:(chr (suf l i) 0== -1)=false:=by
    have:=Y7 hi';simp;omega
   have e1:QM (suf l i)=(chr (suf l i) 0,suf l (i+1)):=by have h1:=Kc hi';generalize chr (suf l i) 0=c at h1 hx;rw[h1];simp only[QM];rw[if_pos hx]
   rw[e1];refine⟨i+1,om,om,rfl,λlo p q hlo=>?_⟩
   rw[JXW];simp only[go_sem,qj,Tryz.f106,k0,kh,hd,hne,hwi,hlo]
  ·have hs:suf l i=[]:=J9 om
   have hd':decide (0<=hex (-1))=false:=by decide
   have hne:((-1:Int)== -1)=true:=rfl;simp only[hs,QT]at k0 kh;rw[hs];refine⟨i,hi,Ad _,by rw[hs]<;>rfl,λlo p q hlo=>?_⟩
   rw[JXW];simp only[go_sem,qj,Tryz.f106,k0,kh,hd',hne];rfl
 ·have hd:decide (0<=hex (chr (suf l i) 0))=true:=by simp;omega
  have hi':i<l.length:=by
   rcases Ay i l.length with h|h
   ·exact h
   ·rw[J9 h,QT,JMK]at hx;omega
  have e1:QM (suf l i)=(if(Ys 6 0 (suf l i)).1=0 then 65533 else K7 (Ys 6 0 (suf l i)).1,JDz (Ys 6 0 (suf l i)).2):=by have h1:=Kc hi';generalize chr (suf l i) 0=c at h1 hx;rw[h1];simp only[QM];rw[if_neg hx]
  obtain⟨j,t,x,b,j1,j2,j3,j4,j5,j6⟩:=JYQ (l:=l) hl 6 0 i 0 rfl hi (Int.le_refl _) (by decide)
  have hone:=JVM l j1;have kj:=λlo p q=>f47 (lo:=lo) (l:=l) (i:=j) (p:=p) (q:=q) (k:=0) om
  have hwj:=JM (i:=j) om;simp only[n0]at kj;rw[e1];rw[if_neg hx]at j6 kh;generalize hv:(Ys 6 0 (suf l i)).1=v at j4 j5 j6
  cases hb:blk (chr (suf l j) 0)with
  |true=>
   obtain⟨hj',hone⟩:=hone.1 hb;refine⟨j+1,om,om,by rw[<-j3,hone],λlo p q hlo=>?_⟩
   have hL:=j6 lo p q hlo;rw[JXW];simp only[ql,qj,Tryz.f106,JK,loops,JC,go_sem,hd]at hL;by_cases v0:v=0
   ·subst v0
    have t0:((0:Int)==0)=true:=rfl;simp only[go_sem,qj,Tryz.f106,k0,kh,hd,hL,kj,f74,hb,hwj,hlo,t0]
   ·have t0:(v==0)=false:=by simp[v0]
    rw[if_neg v0,<-zQ]
    cases hs:isc v with
    |true=>simp only[go_sem,qj,Tryz.f106,k0,kh,hd,hL,kj,f74,hb,hwj,hlo,t0,f73,hs]
    |false=>simp only[go_sem,qj,Tryz.f106,k0,kh,hd,hL,kj,f74,hb,hwj,hlo,t0,f73,hs]
  |false=>
   refine⟨j,j1,j2,by rw[<-j3,hone.2 hb],λlo p q hlo=>?_⟩
   have hL:=j6 lo p q hlo;rw[JXW];simp only[ql,qj,Tryz.f106,JK,loops,JC,go_sem,hd]at hL;by_cases v0:v=0
   ·subst v0
    have t0:((0:Int)==0)=true:=rfl;simp only[go_sem,qj,Tryz.f106,k0,kh,hd,hL,kj,f74,hb,t0]
   ·have t0:(v==0)=false:=by simp[v0]
    rw[if_neg v0,<-zQ]
    cases hs:isc v with
    |true=>simp only[go_sem,qj,Tryz.f106,k0,kh,hd,hL,kj,f74,hb,t0,f73,hs]
    |false=>simp only[go_sem,qj,Tryz.f106,k0,kh,hd,hL,kj,f74,hb,t0,f73,hs]
theorem Jee(hl:l.length<=100000000000):∀(m i:Nat) (out:List Int),(suf l i).length<=m->i<=l.length->out.length<=i->
  ∃j,j<=l.length/\i<=j/\suf l j=(QQ m (suf l i)).2/\
   ∀lo (p q:List Ob),lo<=p.length->JA (evCode ⟨Aa,E,lo,p.length+(q.length+1),h80⟩ JA yw) ([(0,.ptr p.length 0),(3,.list .yes (ri .i32 out))],p++R l i::q)=
    some (.ret,[(2,.v (.string (str (out++(QQ m (suf l i)).1))))],p++R l j::q):=by
 have stop:∀(m i:Nat) (out:List Int),suf l i=[]->i<=l.length->out.length<=i->
  ∃j,j<=l.length/\i<=j/\suf l j=(QQ m (suf l i)).2/\
   ∀lo (p q:List Ob),lo<=p.length->JA (evCode ⟨Aa,E,lo,p.length+(q.length+1),h80⟩ JA yw) ([(0,.ptr p.length 0),(3,.list .yes (ri .i32 out))],p++R l i::q)=
    some (.ret,[(2,.v (.string (str (out++(QQ m (suf l i)).1))))],p++R l j::q):=by
  intro m i out hs h2 h3;have k0:=λlo p q=>f47 (lo:=lo) (l:=l) (i:=i) (p:=p) (q:=q) (k:=0) om
  have k1:=λlo p q=>f47 (lo:=lo) (l:=l) (i:=i) (p:=p) (q:=q) (k:=1) om
  have n1:((1:Nat):Int)=1:=rfl;have kf:=λlo h=>f84 (lo:=lo) (l:=out) (h:=h) om
  simp only[n0,n1,hs,QT]at k0 k1;have e:QQ m []=([],[]):=by cases m<;>rfl
  have t0:((-1:Int) != -1)=false:=rfl;have t1:esc (-1) (-1)=false:=by decide
  refine⟨i,h2,Ad _,by rw[hs,e],λlo p q hlo=>?_⟩
  rw[JB,hs,e,AE];simp only[go_sem,yw,b80,Tryz.f80,k0,k1,f78,t0,t1,kf]
 intro m
 induction m with
 |zero=>
  intro i out h1 h2 h3
  exact stop 0 i out (Ar om) h2 h3
 |succ m ih=>
  intro i out h1 h2 h3;rcases Ay i l.length with hi|hi
  rotate_left
  ·exact stop (m+1) i out (J9 hi) h2 h3
  have hcp:=Y7 hi;have k0:=λlo p q=>f47 (lo:=lo) (l:=l) (i:=i) (p:=p) (q:=q) (k:=0) om
  have k1:=λlo p q=>f47 (lo:=lo) (l:=l) (i:=i) (p:=p) (q:=q) (k:=1) om
  have n1:((1:Nat):Int)=1:=rfl;have kf:=λlo h=>f84 (lo:=lo) (l:=out) (h:=h) om
  have hwi:=JM (i:=i) om;have hr:∀k,k<=4->(out.length+k)*4<=140737488355328:=by intro k hk;omega
  have hq:∀k,9223372036854775800<=k->out.length<=k:=by intro k hk;omega
  have app:∀y:Int,ri .i32 out++[[V.v (.int .i32 y)]]=ri .i32 (out++[y]):=by intro y;rw[<-ri_app]<;>rfl
  simp only[n0,n1]at k0 k1;have hs:=Kc hi;have hn:chr (suf l i) 1=chr (suf l (i+1)) 0:=by rw[hs];exact GH _ _ 0
  rw[hn]at k1;generalize chr (suf l i) 0=c at hs k0 hcp;rw[hs]at h1⊢;simp only[Ae]at h1;have te:(c != -1)=true:=by simp;omega
  cases hc:ltr c with
  |true=>
   obtain⟨j,j1,j2,j3,j4⟩:=ih (i+1) (out++[c]) om om (by simp;omega)
   refine⟨j,j1,om,?_,λlo p q hlo=>?_⟩
   ·rw[j3];simp only[QQ];rw[if_pos hc]
   ·have e:evCode ⟨Aa,E,lo,p.length+(q.length+1),h80⟩ JA yw ([(0,.ptr p.length 0),(3,.list .yes (ri .i32 out))],p++R l i::q)=
      some (.normal,[(0,.ptr p.length 0),(3,.list .yes (ri .i32 (out++[c])))],p++R l (i+1)::q):=by
     simp only[go_sem,yw,b80,Tryz.f80,k0,f77,te,hc,hwi,hlo,hr,hq,and_self,app]
    rw[JB,e,JO,j4 lo p q hlo];simp only[QQ];rw[if_pos hc,Ax]
    rfl
  |false=>
   cases he:esc c (chr (suf l (i+1)) 0)with
   |true=>
    obtain⟨j0,a1,a2,a3,a4⟩:=f106 (l:=l) (i:=i+1) hl om;obtain⟨j,j1,j2,j3,j4⟩:=ih j0 (out++[(QM (suf l (i+1))).1]) (by rw[QD]at h1⊢;omega) a1 (by simp;omega)
    refine⟨j,j1,om,?_,λlo p q hlo=>?_⟩
    ·rw[j3,a3];simp only[QQ];rw[hc,he];simp
    ·have e:evCode ⟨Aa,E,lo,p.length+(q.length+1),h80⟩ JA yw ([(0,.ptr p.length 0),(3,.list .yes (ri .i32 out))],p++R l i::q)=
       some (.normal,[(0,.ptr p.length 0),(3,.list .yes (ri .i32 (out++[(QM (suf l (i+1))).1])))],p++R l j0::q):=by
      simp only[go_sem,yw,b80,Tryz.f80,k0,k1,f77,f78,te,hc,he,hwi,hlo,a4 _ _ _ hlo,hr,hq,and_self,app]
     rw[JB,e,JO,j4 lo p q hlo,a3];simp only[QQ];rw[hc,he]
     simp
   |false=>
    refine⟨i,h2,Ad _,?_,λlo p q hlo=>?_⟩
    ·simp only[QQ];rw[hc,he,hs];simp
    ·rw[JB]
     simp only[go_sem,yw,b80,Tryz.f80,k0,k1,f77,f78,te,hc,he,kf];simp only[QQ];rw[hc,he];simp[str]
theorem f80(hl:l.length<=100000000000)(hi:i<=l.length):∃j,j<=l.length/\i<=j/\suf l j=(name (suf l i)).2/\
  ∀lo p q,lo<=p.length->E lo 80 [.ptr p.length 0] (p++R l i::q)=some (.v (.string (str (name (suf l i)).1)),p++R l j::q):=by
 obtain⟨j,j1,j2,j3,j4⟩:=Jee (l:=l) hl (suf l i).length i [] (Ad _) hi (by simp)
 refine⟨j,j1,j2,j3,λlo p q hlo=>?_⟩
 have hL:=j4 lo p q hlo;rw[e80];simp only[yw,b80,Tryz.f80,JK,loops,JC,go_sem,Z6]at hL;simp only[go_sem,b80,Tryz.f80,hL];rfl
end
section
variable{lo i:Nat}{l:List Int}{p q:List Ob}
theorem JYR(hl:l.length<=100000000000):∀(m i:Nat),(suf l i).length<=m->i<=l.length->
  ∃j,j<=l.length+2/\i<=j/\suf l j=kZ m (suf l i)/\
   ∀lo (p q:List Ob) (ex:Jl),(ex=[]\/ ∃b,ex=[(23,.v (.bool b))])->lo<=p.length->lo<=p.length+(q.length+1)->
   JA (evCode ⟨Aa,E,lo,p.length+(q.length+1),JQz⟩ JA YN) ((0,.ptr p.length 0)::(2,.ptr (p.length+(q.length+1)) 0)::ex,p++R l i::(q++[.cells (tokC 0 [])]))=
    some (.ret,[(2,.ptr (p.length+(q.length+1)) 0)],p++R l j::(q++[.cells (tokC 8 [])])):=by
 have stop:∀(m i:Nat),suf l i=[]->i<=l.length->
  ∃j,j<=l.length+2/\i<=j/\suf l j=kZ m (suf l i)/\
   ∀lo (p q:List Ob) (ex:Jl),(ex=[]\/ ∃b,ex=[(23,.v (.bool b))])->lo<=p.length->lo<=p.length+(q.length+1)->
   JA (evCode ⟨Aa,E,lo,p.length+(q.length+1),JQz⟩ JA YN) ((0,.ptr p.length 0)::(2,.ptr (p.length+(q.length+1)) 0)::ex,p++R l i::(q++[.cells (tokC 0 [])]))=
    some (.ret,[(2,.ptr (p.length+(q.length+1)) 0)],p++R l j::(q++[.cells (tokC 8 [])])):=by
  intro m i hs h2;have hlen:=QD l i;rw[hs,Ai]at hlen;have k0:=λlo p q=>f47 (lo:=lo) (l:=l) (i:=i) (p:=p) (q:=q) (k:=0) om
  have hwi:=JM (i:=i) om;simp only[n0,hs,QT]at k0;refine⟨i+1,om,om,by rw[hs,JVQ,J9 om],λlo p q ex hex hlo hlo2=>?_⟩
  have t1:((-1:Int)== -1)=true:=rfl;rw[JB];rcases hex with rfl|⟨b,rfl⟩
  ·simp only[go_sem,YN,JA4,Tryz.f132,k0,t1,hlo,hlo2,hwi,tokC]
   rfl
  ·simp only[go_sem,YN,JA4,Tryz.f132,k0,t1,hlo,hlo2,hwi,tokC]
   rfl
 intro m
 induction m with
 |zero=>
  intro i h1 h2
  exact stop 0 i (Ar om) h2
 |succ m ih=>
  intro i h1 h2;rcases Ay i l.length with hi|hi
  rotate_left
  ·exact stop (m+1) i (J9 hi) h2
  have hcp:=Y7 hi;have k0:=λlo p q=>f47 (lo:=lo) (l:=l) (i:=i) (p:=p) (q:=q) (k:=0) om
  have k1:=λlo p q=>f47 (lo:=lo) (l:=l) (i:=i+1) (p:=p) (q:=q) (k:=0) om
  have hwi:=JM (i:=i) om;simp only[n0]at k0 k1;have hs:=Kc hi;generalize chr (suf l i) 0=c at hs k0 hcp;rw[hs]at h1⊢;simp only[Ae]at h1;have te:(c== -1)=false:=by simp;omega
  by_cases c41:c=41
  ·subst c41
   have t0:((41:Int)==41)=true:=rfl;have e:kZ (m+1) (41::suf l (i+1))=suf l (i+1):=by simp[kZ]
   refine⟨i+1,om,om,by rw[e],λlo p q ex hex hlo hlo2=>?_⟩
   rw[JB];rcases hex with rfl|⟨b,rfl⟩
   ·simp only[go_sem,YN,JA4,Tryz.f132,k0,te,t0,hlo,hlo2,hwi,tokC]
    rfl
   ·simp only[go_sem,YN,JA4,Tryz.f132,k0,te,t0,hlo,hlo2,hwi,tokC]
    rfl
  have t0:(c==41)=false:=by simp[c41]
  cases he:esc c (chr (suf l (i+1)) 0)with
  |true=>
   obtain⟨j0,a1,a2,a3,a4⟩:=f106 (l:=l) (i:=i+1) hl om
   have e:kZ (m+1) (c::suf l (i+1))=kZ m (QM (suf l (i+1))).2:=by simp only[kZ];rw[if_neg c41,if_pos he]
   obtain⟨j,j1,j2,j3,j4⟩:=ih j0 (by rw[QD]at h1⊢;omega) a1
   refine⟨j,j1,om,by rw[j3,e,a3],λlo p q ex hex hlo hlo2=>?_⟩
   have er:evCode ⟨Aa,E,lo,p.length+(q.length+1),JQz⟩ JA YN ((0,.ptr p.length 0)::(2,.ptr (p.length+(q.length+1)) 0)::ex,p++R l i::(q++[.cells (tokC 0 [])]))=
     some (.normal,[(0,.ptr p.length 0),(2,.ptr (p.length+(q.length+1)) 0)],p++R l j0::(q++[.cells (tokC 0 [])])):=by
    rcases hex with rfl|⟨b,rfl⟩
    ·simp only[go_sem,YN,JA4,Tryz.f132,k0,k1,f78,te,t0,he,hlo,hlo2,hwi,a4 _ _ _ hlo,tokC]
    ·simp only[go_sem,YN,JA4,Tryz.f132,k0,k1,f78,te,t0,he,hlo,hlo2,hwi,a4 _ _ _ hlo,tokC]
   rw[JB,er,JO]
   exact j4 lo p q [] (.inl rfl) hlo hlo2
  |false=>
   have e:kZ (m+1) (c::suf l (i+1))=kZ m (suf l (i+1)):=by simp only[kZ];rw[if_neg c41,if_neg (by simp[he])]
   obtain⟨j,j1,j2,j3,j4⟩:=ih (i+1) om om;refine⟨j,j1,om,by rw[j3,e],λlo p q ex hex hlo hlo2=>?_⟩
   have er:evCode ⟨Aa,E,lo,p.length+(q.length+1),JQz⟩ JA YN ((0,.ptr p.length 0)::(2,.ptr (p.length+(q.length+1)) 0)::ex,p++R l i::(q++[.cells (tokC 0 [])]))=
     some (.normal,[(0,.ptr p.length 0),(2,.ptr (p.length+(q.length+1)) 0),(23,.v (.bool false))],p++R l (i+1)::(q++[.cells (tokC 0 [])])):=by
    rcases hex with rfl|⟨b,rfl⟩
    ·simp only[go_sem,YN,JA4,Tryz.f132,k0,k1,f78,te,t0,he,hlo,hlo2,hwi,tokC]
    ·simp only[go_sem,YN,JA4,Tryz.f132,k0,k1,f78,te,t0,he,hlo,hlo2,hwi,tokC]
   rw[JB,er,JO];exact j4 lo p q [(23,.v (.bool false))] (.inr ⟨_,rfl⟩) hlo hlo2
theorem f132(hl:l.length<=100000000000)(hi:i<=l.length):∃j,j<=l.length+2/\i<=j/\suf l j=JCP (suf l i)/\
  ∀lo p q,lo<=p.length->E lo 132 [.ptr p.length 0] (p++R l i::q)=some (.agg (tokC 8 []),p++R l j::q):=by
 obtain⟨j,j1,j2,j3,j4⟩:=JYR (l:=l) hl (suf l i).length i (Ad _) hi;refine⟨j,j1,j2,j3,λlo p q hlo=>?_⟩
 have hL:=j4 lo p q [] (.inl rfl) hlo om;rw[JrR];simp only[tokC,YN,JA4,Tryz.f132,JK,loops,JC,go_sem,str_nil]at hL;simp only[go_sem,JA4,Tryz.f132,hL];rfl
abbrev B74(lo:Nat)(p q:List Ob)(l:List Int)(i:Nat)(sign:Int)(out:List Int):Jl×JG:=
 ([(0,.ptr p.length 0),(1,.v (.int .i32 sign)),(4,.ptr (p.length+(q.length+1)) 0),(5,.list .yes (ri .i32 out))],p++R l i::(q++[.cells (tokC 0 [])]))
theorem Jef{sign:Int}(hl:l.length<=100000000000)(hsg:quo sign=true):∀(m i:Nat) (out:List Int),(suf l i).length<=m->i<=l.length->out.length<=i->
  ∃j,j<=l.length+2/\i<=j/\suf l j=(QY sign m (suf l i)).2.2/\
   ∀lo (p q:List Ob),lo<=p.length->lo<=p.length+(q.length+1)->
   JA (evCode ⟨Aa,E,lo,p.length+(q.length+1),h76⟩ JA Gc) (B74 lo p q l i sign out)=
    some (.ret,[(4,.ptr (p.length+(q.length+1)) 0)],p++R l j::(q++[.cells (if(QY sign m (suf l i)).1=true then tokC 5 (out++(QY sign m (suf l i)).2.1)else tokC 6 [])])):=by
 have sg:sign≠92/\sign≠10/\0<=sign:=by simp only[quo,AU,beq_iff_eq]at hsg;omega
 have stop:∀(m i:Nat) (out:List Int),suf l i=[]->i<=l.length->out.length<=i->
  ∃j,j<=l.length+2/\i<=j/\suf l j=(QY sign m (suf l i)).2.2/\
   ∀lo (p q:List Ob),lo<=p.length->lo<=p.length+(q.length+1)->
   JA (evCode ⟨Aa,E,lo,p.length+(q.length+1),h76⟩ JA Gc) (B74 lo p q l i sign out)=
    some (.ret,[(4,.ptr (p.length+(q.length+1)) 0)],p++R l j::(q++[.cells (if(QY sign m (suf l i)).1=true then tokC 5 (out++(QY sign m (suf l i)).2.1)else tokC 6 [])])):=by
  intro m i out hs h2 h3;have hlen:=QD l i;rw[hs,Ai]at hlen;have k0:=λlo p q=>f47 (lo:=lo) (l:=l) (i:=i) (p:=p) (q:=q) (k:=0) om
  have kf:=λlo h=>f84 (lo:=lo) (l:=out) (h:=h) om
  have hwi:=JM (i:=i) om;simp only[n0,hs,QT]at k0;refine⟨i+1,om,om,by rw[hs,JDU,J9 om],λlo p q hlo hlo2=>?_⟩
  have t0:((-1:Int)==10)=false:=rfl;have t1:((-1:Int)== -1)=true:=rfl;have t2:((-1:Int)==92)=false:=rfl;rw[hs,JDU,if_pos rfl,AE,JB];simp only[go_sem,Gc,b76,Tryz.f76,k0,kf,t0,t1,t2,hlo,hlo2,hwi,tokC]<;>rfl
 intro m
 induction m with
 |zero=>
  intro i out h1 h2 h3
  exact stop 0 i out (Ar om) h2 h3
 |succ m ih=>
  intro i out h1 h2 h3;rcases Ay i l.length with hi|hi
  rotate_left
  ·exact stop (m+1) i out (J9 hi) h2 h3
  have hcp:=Y7 hi;have k0:=λlo p q=>f47 (lo:=lo) (l:=l) (i:=i) (p:=p) (q:=q) (k:=0) om
  have k1:=λlo p q=>f47 (lo:=lo) (l:=l) (i:=i) (p:=p) (q:=q) (k:=1) om
  have kf:=λlo h=>f84 (lo:=lo) (l:=out) (h:=h) om
  have hr:∀k,k<=4->(out.length+k)*4<=140737488355328:=by intro k hk;omega
  have hq:∀k,9223372036854775800<=k->out.length<=k:=by intro k hk;omega
  have app:∀y:Int,ri .i32 out++[[V.v (.int .i32 y)]]=ri .i32 (out++[y]):=by intro y;rw[<-ri_app]<;>rfl
  have hw1:=JM (i:=i) om;have hw2:Am.wrap ((i:Int)+2)=((i+2:Nat):Int):=by rw[JW om om];omega
  have n1:((1:Nat):Int)=1:=rfl;simp only[n0,n1]at k0 k1;have hs:=Kc hi;have hn:chr (suf l i) 1=chr (suf l (i+1)) 0:=by rw[hs];exact GH _ _ 0
  rw[hn]at k1;generalize chr (suf l i) 0=c at hs k0 hcp;rw[hs]at h1⊢;simp only[Ae]at h1;have te:(c== -1)=false:=by simp;omega
  by_cases c10:c=10
  ·subst c10
   have t0:((10:Int)==10)=true:=rfl;have e:QY sign (m+1) (10::suf l (i+1))=(false,[],10::suf l (i+1)):=by simp[QY]
   refine⟨i,om,Ad _,by rw[e,hs],λlo p q hlo hlo2=>?_⟩
   rw[e,if_neg (by simp),JB]
   simp only[go_sem,Gc,b76,Tryz.f76,k0,t0,hlo2,tokC];rfl
  have t0:(c==10)=false:=by simp[c10]
  by_cases csg:c=sign
  ·subst csg
   have t1:(c==c)=true:=by simp
   have t2:(c==92)=false:=by simp;omega
   have e:QY c (m+1) (c::suf l (i+1))=(true,[],suf l (i+1)):=by simp[QY,c10]
   refine⟨i+1,om,om,by rw[e],λlo p q hlo hlo2=>?_⟩
   rw[e,if_pos rfl,AE,JB];simp only[go_sem,Gc,b76,Tryz.f76,k0,t0,te,t1,t2,hlo,hlo2,hw1,kf,tokC]<;>rfl
  have t1:(c==sign)=false:=by simp[csg]
  by_cases c92:c=92
  ·subst c92
   have t2:((92:Int)==92)=true:=rfl;rcases Ay (i+1) l.length with hi2|hi2
   ·have hs2:=Kc hi2
    have hdp:=Y7 hi2;by_cases d10:chr (suf l (i+1)) 0=10
    ·rw[d10]at hs2 k1
     have t3:((10:Int)== -1)=false:=rfl;have t4:((10:Int)==10)=true:=rfl
     have e:QY sign (m+1) (92::suf l (i+1))=QY sign m (suf l (i+2)):=by rw[hs2];simp only[QY];rw[if_neg c10,if_neg csg];simp
     obtain⟨j,j1,j2,j3,j4⟩:=ih (i+2) out (by rw[QD]at h1⊢;omega) om om
     refine⟨j,j1,om,by rw[j3,e],λlo p q hlo hlo2=>?_⟩
     have er:evCode ⟨Aa,E,lo,p.length+(q.length+1),h76⟩ JA Gc (B74 lo p q l i sign out)=some (.normal,B74 lo p q l (i+2) sign out):=by simp only[go_sem,Gc,b76,Tryz.f76,k0,k1,t0,te,t1,t2,t3,t4,hlo,hw2,tokC]<;>rfl
     rw[JB,er,JO,e];exact j4 lo p q hlo hlo2
    ·have t3:(chr (suf l (i+1)) 0== -1)=false:=by simp;omega
     have t4:(chr (suf l (i+1)) 0==10)=false:=by simp[d10]
     obtain⟨j0,a1,a2,a3,a4⟩:=f106 (l:=l) (i:=i+1) hl om
     have e:QY sign (m+1) (92::suf l (i+1))=((QY sign m (QM (suf l (i+1))).2).1,(QM (suf l (i+1))).1::(QY sign m (QM (suf l (i+1))).2).2.1,(QY sign m (QM (suf l (i+1))).2).2.2):=by generalize hd:chr (suf l (i+1)) 0=d at hs2 d10;rw[hs2];simp only[QY];rw[if_neg c10,if_neg csg];simp[d10]
     obtain⟨j,j1,j2,j3,j4⟩:=ih j0 (out++[(QM (suf l (i+1))).1]) (by rw[QD]at h1⊢;omega) a1 (by simp;omega)
     refine⟨j,j1,om,by rw[j3,e,a3],λlo p q hlo hlo2=>?_⟩
     have er:evCode ⟨Aa,E,lo,p.length+(q.length+1),h76⟩ JA Gc (B74 lo p q l i sign out)=some (.normal,B74 lo p q l j0 sign (out++[(QM (suf l (i+1))).1])):=by simp only[go_sem,Gc,b76,Tryz.f76,k0,k1,t0,te,t1,t2,t3,t4,hlo,hw1,a4 _ _ _ hlo,hr,hq,app,and_self,tokC]<;>rfl
     rw[JB,er,JO,j4 lo p q hlo hlo2,e,a3,Ax]<;>rfl
   ·have hs2:suf l (i+1)=[]:=J9 hi2
    rw[hs2,QT]at k1;have t3:((-1:Int)== -1)=true:=rfl
    have e:QY sign (m+1) (92::suf l (i+1))=(true,[],[]):=by rw[hs2];simp only[QY];rw[if_neg c10,if_neg csg];simp
    have hil:i+1=l.length:=om;obtain⟨j,j1,j2,j3,j4⟩:=stop m (i+1) out hs2 om om;rw[hs2,JDU]at j3 j4;refine⟨j,j1,om,by rw[j3,e],λlo p q hlo hlo2=>?_⟩
    have er:evCode ⟨Aa,E,lo,p.length+(q.length+1),h76⟩ JA Gc (B74 lo p q l i sign out)=some (.normal,B74 lo p q l (i+1) sign out):=by simp only[go_sem,Gc,b76,Tryz.f76,k0,k1,t0,te,t1,t2,t3,hlo,hw1,tokC]<;>rfl
    rw[JB,er,JO,e];exact j4 lo p q hlo hlo2
  ·have t2:(c==92)=false:=by simp[c92]
   have e:QY sign (m+1) (c::suf l (i+1))=((QY sign m (suf l (i+1))).1,c::(QY sign m (suf l (i+1))).2.1,(QY sign m (suf l (i+1))).2.2):=by simp only[QY];rw[if_neg c10,if_neg csg,if_neg c92]
   obtain⟨j,j1,j2,j3,j4⟩:=ih (i+1) (out++[c]) om om (by simp;omega)
   refine⟨j,j1,om,by rw[j3,e],λlo p q hlo hlo2=>?_⟩
   have er:evCode ⟨Aa,E,lo,p.length+(q.length+1),h76⟩ JA Gc (B74 lo p q l i sign out)=some (.normal,B74 lo p q l (i+1) sign (out++[c])):=by simp only[go_sem,Gc,b76,Tryz.f76,k0,t0,te,t1,t2,hlo,hw1,hr,hq,app,and_self,tokC]<;>rfl
   rw[JB,er,JO,j4 lo p q hlo hlo2,e,Ax]<;>rfl
theorem f76{sign:Int}(hl:l.length<=100000000000)(hi:i<=l.length)(hsg:quo sign=true):∃j,j<=l.length+2/\i<=j/\suf l j=(txt sign (suf l i)).2.2/\
  ∀lo p q,lo<=p.length->E lo 76 [.ptr p.length 0,.v (.int .i32 sign)] (p++R l i::q)=some (.agg (if(txt sign (suf l i)).1=true then tokC 5 (txt sign (suf l i)).2.1 else tokC 6 []),p++R l j::q):=by
 obtain⟨j,j1,j2,j3,j4⟩:=Jef (l:=l) hl hsg (suf l i).length i [] (Ad _) hi (by simp)
 refine⟨j,j1,j2,j3,λlo p q hlo=>?_⟩
 have hL:=j4 lo p q hlo om;rw[e76];simp only[B74,tokC,Gc,b76,Tryz.f76,JK,loops,JC,go_sem,Z6,str_nil]at hL;simp only[go_sem,b76,Tryz.f76,hL];unfold txt;cases(QY sign (suf l i).length (suf l i)).1<;>rfl
end
section
variable{lo i:Nat}{l:List Int}{p q:List Ob}
theorem Jeg{l:List Int}{i:Nat}(hi:i<l.length):(chr (suf l i) 0 != -1)=true:=by have:=Y7 hi;simp;omega
theorem JRy(hl:l.length<=100000000000):∀(n i:Nat),l.length-i<=n->i<=l.length->
  ∃j,j<=l.length/\i<=j/\suf l j=skipS (suf l i)/\
   ∀lo (p q:List Ob),lo<=p.length->JA (evCode ⟨Aa,E,lo,p.length+(q.length+1),h46⟩ JA JAq) ([(0,.ptr p.length 0)],p++R l i::q)=some (.exit 2,[(0,.ptr p.length 0),(29,.v (.bool false))],p++R l j::q):=by
 have stop:∀(i:Nat),i=l.length->
  ∃j,j<=l.length/\i<=j/\suf l j=skipS (suf l i)/\
   ∀lo (p q:List Ob),lo<=p.length->JA (evCode ⟨Aa,E,lo,p.length+(q.length+1),h46⟩ JA JAq) ([(0,.ptr p.length 0)],p++R l i::q)=some (.exit 2,[(0,.ptr p.length 0),(29,.v (.bool false))],p++R l j::q):=by
  intro i hi;subst hi;have k0:=λlo p q=>f47 (lo:=lo) (l:=l) (i:=l.length) (p:=p) (q:=q) (k:=0) om
  have hs:suf l l.length=[]:=J9 (Ad _);simp only[n0,hs,QT]at k0;refine⟨l.length,Ad _,Ad _,by rw[hs]<;>rfl,λlo p q hlo=>?_⟩
  have hne:((-1:Int) != -1)=false:=rfl;rw[JB];simp only[go_sem,JAq,b46,Tryz.f46,k0,hne]
 intro n
 induction n with
 |zero=>intro i h1 h2;exact stop i om
 |succ n ih=>
  intro i h1 h2;rcases Ay i l.length with hi|hi
  rotate_left
  ·exact stop i om
  have k0:=λlo p q=>f47 (lo:=lo) (l:=l) (i:=i) (p:=p) (q:=q) (k:=0) om
  have k1:=λlo p q=>f47 (lo:=lo) (l:=l) (i:=i) (p:=p) (q:=q) (k:=1) om
  have n1:((1:Nat):Int)=1:=rfl;simp only[n0,n1]at k0 k1;have hw:=JM (i:=i) om;have hne:=Jeg hi;have hs:=Kc hi;have hn:chr (suf l i) 1=chr (suf l (i+1)) 0:=by rw[hs];exact GH _ _ 0
  rw[hn]at k1;generalize chr (suf l i) 0=c at hs k0 hne;by_cases hx:c=42/\chr (suf l (i+1)) 0=47
  ·obtain⟨rfl,hd⟩:=hx
   have t0:((42:Int) !=42)=false:=rfl;have t1:((47:Int) !=47)=false:=rfl;rw[hd]at k1;refine⟨i,h2,Ad _,?_,λlo p q hlo=>?_⟩
   ·rcases Ay (i+1) l.length with hi2|hi2
    ·have h4:=Kc hi2
     rw[hd]at h4;rw[hs,h4];unfold skipS;rw[if_pos ⟨rfl,rfl⟩]
    ·rw[J9 hi2,QT]at hd;omega
   ·rw[JB]
    simp only[go_sem,JAq,b46,Tryz.f46,k0,k1,hne,t0,t1]
  ·obtain⟨j,j1,j2,j3,j4⟩:=ih (i+1) om om
   refine⟨j,j1,om,?_,λlo p q hlo=>?_⟩
   ·rw[j3,hs]
    rcases Ay (i+1) l.length with hi2|hi2
    ·have h4:=Kc hi2
     generalize chr (suf l (i+1)) 0=d at h4 hx;rw[h4]
     conv=>rhs;unfold skipS
     rw[if_neg hx]
    ·rw[J9 hi2]<;>rfl
   ·have e:evCode ⟨Aa,E,lo,p.length+(q.length+1),h46⟩ JA JAq ([(0,.ptr p.length 0)],p++R l i::q)=some (.normal,[(0,.ptr p.length 0)],p++R l (i+1)::q):=by
     by_cases hc:c=42
     ·subst hc
      have t0:((42:Int) !=42)=false:=rfl;have t1:(chr (suf l (i+1)) 0 !=47)=true:=by simp;exact λh=>hx ⟨rfl,h⟩
      simp only[go_sem,JAq,b46,Tryz.f46,k0,k1,hne,t0,t1,hw,hlo]
     ·have t0:(c !=42)=true:=by simp[hc]
      simp only[go_sem,JAq,b46,Tryz.f46,k0,k1,hne,t0,hw,hlo]
    rw[JB,e,JO];exact j4 lo p q hlo
theorem JVS(m:Nat)(c d:Int)(t:List Int)(h:¬(c=47/\d=42)):JCO m (c::d::t)=c::d::t:=by
 cases m with
 |zero=>rfl
 |succ m=>simp only[JCO];rw[if_neg h]
theorem JVT(m:Nat):JCO m []=[]:=by cases m<;>rfl
theorem JMO(m:Nat)(c:Int):JCO m [c]=[c]:=by cases m<;>rfl
theorem Jeh(hl:l.length<=100000000000):∀(m i:Nat),(suf l i).length<=m->i<=l.length+4->
  ∃j,j<=l.length+6/\i<=j/\suf l j=JCO m (suf l i)/\
   ∀lo (p q:List Ob),lo<=p.length->JA (evCode ⟨Aa,E,lo,p.length+(q.length+1),h46⟩ JA JCf) ([(0,.ptr p.length 0)],p++R l i::q)=some (.exit 0,[(0,.ptr p.length 0),(9,.v (.bool false))],p++R l j::q):=by
 have stop:∀(m i:Nat),i<=l.length+6->¬(chr (suf l i) 0=47/\chr (suf l i) 1=42)->
  ∃j,j<=l.length+6/\i<=j/\suf l j=JCO m (suf l i)/\
   ∀lo (p q:List Ob),lo<=p.length->JA (evCode ⟨Aa,E,lo,p.length+(q.length+1),h46⟩ JA JCf) ([(0,.ptr p.length 0)],p++R l i::q)=some (.exit 0,[(0,.ptr p.length 0),(9,.v (.bool false))],p++R l j::q):=by
  intro m i h2 hx;have k0:=λlo p q=>f47 (lo:=lo) (l:=l) (i:=i) (p:=p) (q:=q) (k:=0) om
  have k1:=λlo p q=>f47 (lo:=lo) (l:=l) (i:=i) (p:=p) (q:=q) (k:=1) om
  have n1:((1:Nat):Int)=1:=rfl;simp only[n0,n1]at k0 k1;refine⟨i,h2,Ad _,?_,λlo p q hlo=>?_⟩
  ·match hs:suf l i with
   |[]=>rw[JVT]
   |[c]=>rw[JMO]
   |c::d::t=>rw[JVS];rw[hs,jc,GH,jc]at hx;exact hx
  ·rw[JB]
   by_cases hc:chr (suf l i) 0=47
   ·have t0:(chr (suf l i) 0==47)=true:=by simp[hc]
    have t1:(chr (suf l i) 1==42)=false:=by simp;exact λh=>hx ⟨hc,h⟩
    simp only[go_sem,JCf,b46,Tryz.f46,k0,k1,t0,t1]
   ·have t0:(chr (suf l i) 0==47)=false:=by simp[hc]
    simp only[go_sem,JCf,b46,Tryz.f46,k0,k1,t0]
 intro m
 induction m with
 |zero=>
  intro i h1 h2;have hs:suf l i=[]:=Ar om
  exact stop 0 i om (by rw[hs,QT];omega)
 |succ m ih=>
  intro i h1 h2;by_cases hx:chr (suf l i) 0=47/\chr (suf l i) 1=42
  rotate_left
  ·exact stop (m+1) i om hx
  have hs:∃t,suf l i=47::42::t:=by
   match hs:suf l i with
   |[]=>rw[hs,QT]at hx;omega
   |[c]=>rw[hs,GH,QT]at hx;omega
   |c::d::t=>rw[hs,jc,GH,jc]at hx;exact⟨t,by rw[hx.1,hx.2]⟩
  obtain⟨t,hs⟩:=hs;obtain⟨ht,hi2⟩:=JYO l i _ _ _ hs;have k0:=λlo p q=>f47 (lo:=lo) (l:=l) (i:=i) (p:=p) (q:=q) (k:=0) om
  have k1:=λlo p q=>f47 (lo:=lo) (l:=l) (i:=i) (p:=p) (q:=q) (k:=1) om
  have n1:((1:Nat):Int)=1:=rfl;simp only[n0,n1,hx.1,hx.2]at k0 k1;have t0:((47:Int)==47)=true:=rfl;have t1:((42:Int)==42)=true:=rfl;obtain⟨j,j1,j2,j3,jL⟩:=JRy (l:=l) hl l.length (i+2) om hi2;have hw:Am.wrap ((i:Int)+2)=((i+2:Nat):Int):=by rw[JW om om];omega
  have hw2:Am.wrap ((j:Int)+2)=((j+2:Nat):Int):=by rw[JW om om];omega
  rw[ht]at j3
  have hj2:suf l (j+2)=yh t:=by rw[JPf,<-j3];simp[suf,AY]
  have hlen:(suf l (j+2)).length<=m:=by rw[QD]at h1⊢;omega
  obtain⟨z,z1,z2,z3,z4⟩:=ih (j+2) hlen om;refine⟨z,z1,om,?_,λlo p q hlo=>?_⟩
  ·rw[z3,hs,hj2]
   simp[JCO]
  ·have hL:=jL lo p q hlo
   simp only[JAq,b46,Tryz.f46,JK,loops,JC,go_sem]at hL
   have e:evCode ⟨Aa,E,lo,p.length+(q.length+1),h46⟩ JA JCf ([(0,.ptr p.length 0)],p++R l i::q)=some (.normal,[(0,.ptr p.length 0)],p++R l (j+2)::q):=by simp only[go_sem,JCf,b46,Tryz.f46,k0,k1,t0,t1,hw,hw2,hlo,hL]
   rw[JB,e,JO];exact z4 lo p q hlo
theorem f46(hl:l.length<=100000000000)(hi:i<=l.length+4):∃j,j<=l.length+6/\i<=j/\suf l j=HV (suf l i)/\
  ∀lo p q,lo<=p.length->E lo 46 [.ptr p.length 0] (p++R l i::q)=some (.tup [],p++R l j::q):=by
 obtain⟨j,j1,j2,j3,j4⟩:=Jeh (l:=l) hl (suf l i).length i (Ad _) hi;refine⟨j,j1,j2,j3,λlo p q hlo=>?_⟩
 have hL:=j4 lo p q hlo;rw[e46];simp only[JCf,b46,Tryz.f46,JK,loops,JC,go_sem]at hL;simp only[go_sem,b46,Tryz.f46,hL]
end
def low(c:Int):Int:=if(decide (65<=c)&&decide (c<=90))=true then c+32 else c
def bl(l:List Int):List V:=l.map λn=> .v (.int .u8 n)
theorem YO(l:List Int):(bl l).length=l.length:=by simp[bl]
theorem JCv(l:List Int)(i:Nat):(bl l)[i]? =(l[i]?).map λn=>V.v (.int .u8 n):=by simp[bl]
theorem JCw(l:List Int)(i:Nat)(n:Int):(bl l).set i (.v (.int .u8 n))=bl (l.set i n):=by simp[bl,List.map_set]
theorem WM{l:List Int}(hy:By l):K3 ⟨(YK l).toArray⟩=bl l:=by
 simp only[K3,YK,bl,List.map_map];refine List.map_congr_left λn hn=>?_
 have:=hy n hn
 have e:((B8 n.toNat).toNat:Int)=n:=by rw[Cr];omega
 simp only[Function.comp,e]
theorem JNr{lo:Nat}{h:JG}(hlo:lo<=h.length):∀(n:Nat) (a b:List Int),b.length<=n->a.length+b.length<=1000000000000->By b->
  JA (evCode ⟨Aa,E,lo,h.length,h37⟩ JA Yy) ([(3,.buf h.length 0 (a.length+b.length)),(8,.buf h.length 0 (a.length+b.length)),(9,.v (.int .i64 (a.length+b.length:Nat))),(10,.v (.int .i64 a.length))],h++[.cells (bl (a++b))])=
   some (.exit 0,[(3,.buf h.length 0 (a.length+b.length)),(8,.buf h.length 0 (a.length+b.length)),(9,.v (.int .i64 (a.length+b.length:Nat))),(10,.v (.int .i64 (a.length+b.length:Nat))),(11,.v (.bool false))],h++[.cells (bl (a++b.map low))]):=by
 intro n
 induction n with
 |zero=>
  intro a b hb hab hy;obtain rfl:b=[]:=Ar om;have hd:decide (((a.length:Nat):Int)<((a.length+([]:List Int).length:Nat):Int))=false:=by simp
  rw[JB];simp only[Ai,Bo]at hd⊢
  simp only[go_sem,Yy,b37,Tryz.f37,hd,BJ]
 |succ n ih=>
  intro a b hb hab hy
  cases b with
  |nil=>
   have hd:decide (((a.length:Nat):Int)<((a.length+([]:List Int).length:Nat):Int))=false:=by simp
   rw[JB];simp only[Ai,Bo]at hd⊢
   simp only[go_sem,Yy,b37,Tryz.f37,hd,BJ]
  |cons c b=>
   have hcy:=hy c (List.mem_cons_self ..);have hd:decide ((a.length:Int)<((a.length+(c::b).length:Nat):Int))=true:=by simp;omega
   have hx:(bl (a++c::b))[a.length]? =some (.v (.int .u8 c)):=by simp[JCv]
   have hw:Am.wrap ((a.length:Int)+1)=((a.length+1:Nat):Int):=JM om;have hlt:a.length<a.length+(c::b).length:=by simp
   have hih:=ih (a++[low c]) b (by simp at hb;omega) (by simp at hab⊢;omega) (λx hx=>hy x (List.mem_cons_of_mem _ hx))
   have el:(a++[low c]).length+b.length=a.length+(c::b).length:=by simp;omega
   have el2:(a++[low c]).length=a.length+1:=by simp
   have el3:a++[low c]++b.map low=a++(c::b).map low:=by simp
   rw[el,el2,el3]at hih;by_cases hc:(decide (65<=c)&&decide (c<=90))=true
   ·have hs:(bl (a++c::b)).set a.length (.v (.int .u8 (c+32)))=bl (a++[low c]++b):=by
     rw[JCw,low,if_pos hc];simp
    have hc':=hc;simp only[Af,decide_eq_true_eq]at hc';have hwc:BM.wrap (c+32)=c+32:=Qm om om;have hbl:a.length+1<=(bl (a++c::b)).length:=by rw[YO];simp
    generalize hcs:a.length+(c::b).length=k at*
    have er:evCode ⟨Aa,E,lo,h.length,h37⟩ JA Yy ([(3,.buf h.length 0 k),(8,.buf h.length 0 k),(9,.v (.int .i64 (k:Nat))),(10,.v (.int .i64 a.length))],h++[.cells (bl (a++c::b))])=
      some (.normal,[(3,.buf h.length 0 k),(8,.buf h.length 0 k),(9,.v (.int .i64 (k:Nat))),(10,.v (.int .i64 (a.length+1:Nat)))],h++[.cells (bl (a++[low c]++b))]):=by
     have hlt':(a.length:Int)<k:=om;have h0':(0:Int)<=a.length:=om;simp only[go_sem,Yy,b37,Tryz.f37,hd,hx,hw,hc,hwc,hs,hlo,hlt,hlt',h0',hbl,AC,Int.toNat_natCast,and_self]
    rw[JB,er,JO];exact hih
   ·have hl2:low c=c:=by rw[low,if_neg hc]
    have hc2:(decide (65<=c)&&decide (c<=90))=false:=by simpa using hc
    rw[hl2]at hih;generalize hcs:a.length+(c::b).length=k at*
    have er:evCode ⟨Aa,E,lo,h.length,h37⟩ JA Yy ([(3,.buf h.length 0 k),(8,.buf h.length 0 k),(9,.v (.int .i64 (k:Nat))),(10,.v (.int .i64 a.length))],h++[.cells (bl (a++c::b))])=
      some (.normal,[(3,.buf h.length 0 k),(8,.buf h.length 0 k),(9,.v (.int .i64 (k:Nat))),(10,.v (.int .i64 (a.length+1:Nat)))],h++[.cells (bl (a++c::b))]):=by
     have hlt':(a.length:Int)<k:=om;have h0':(0:Int)<=a.length:=om;simp only[go_sem,Yy,b37,Tryz.f37,hd,hx,hw,hc2,hlo,hlt,hlt',h0',AC,Int.toNat_natCast,and_self]
    rw[JB,er,JO];have e4:a++c::b=a++[c]++b:=by simp
    rw[e4];exact hih
theorem f37{lo:Nat}{l:List Int}{h:JG}(hlo:lo<=h.length)(hl:l.length<=1000000000000)(hy:By l):E lo 37 [.v (.string ⟨(YK l).toArray⟩)] h=some (.v (.string ⟨(YK (l.map low)).toArray⟩),h):=by
 have hL:=JNr (lo:=lo) (h:=h) hlo l.length [] l (Ad _) (by simpa using hl) hy
 have hz:(⟨(YK l).toArray⟩:ByteArray).size=l.length:=by simp[De,YK]
 rw[e37];simp only[Yy,b37,Tryz.f37,JK,loops,JC,go_sem,Ai,AC]at hL;have hb1:decide (0+l.length<=(bl (l.map low)).length)=true:=by rw[YO];simp
 have hb2:((bl (l.map low)).take l.length).map (λx=>[x])=ri .u8 (l.map low):=by
  rw[List.take_of_length_le (by rw[YO];simp)]
  simp[bl,ri]
 simp only[go_sem,b37,Tryz.f37,hz,WM hy,hL,hb1,hb2]
def JNs(a b:List Int):Bool:=(YK (a.map low))==(YK (b.map low))
theorem f95{lo:Nat}{a b:List Int}{h:JG}(hlo:lo<=h.length)(ha:a.length<=1000000000000)(hya:By a)(hb:b.length<=1000000000000)(hyb:By b):
  E lo 95 [.v (.string ⟨(YK a).toArray⟩),.v (.string ⟨(YK b).toArray⟩)] h=some (.v (.bool (JNs a b)),h):=by
 have k1:=f37 (lo:=lo) (h:=h) hlo ha hya;have k2:=f37 (lo:=lo) (h:=h) hlo hb hyb;rw[e95];simp only[go_sem,b95,Tryz.f95,k1,k2,ByteArray.toList_eq];rfl
section
variable{lo i:Nat}{l:List Int}{p q:List Ob}
abbrev JKN(p q:List Ob)(l:List Int)(i:Nat)(out:List Int)(ex:Jl):Jl×JG:=
 ((0,.ptr p.length 0)::(2,.ptr (p.length+(q.length+1)) 0)::(3,.list .yes (ri .i32 out))::ex,p++R l i::(q++[.cells (tokC 0 [])]))
def GJ(out:List Int)(x:Bool×List Int×List Int):List V:=if x.1=true then tokC 7 (out++x.2.1)else tokC 8 []
theorem JYS(hl:l.length<=100000000000):∀(m i:Nat) (out:List Int),(suf l i).length<=m->i<=l.length->out.length<=i->
  ∃j,j<=l.length+2/\i<=j/\suf l j=(QZ m (suf l i)).2.2/\
   ∀lo (p q:List Ob) (ex:Jl),(ex=[]\/ ∃b,ex=[(49,.v (.bool b))])->lo<=p.length->lo<=p.length+(q.length+1)->
   JA (evCode ⟨Aa,E,lo,p.length+(q.length+1),JNi⟩ JA KT) (JKN p q l i out ex)=
    some (.ret,[(2,.ptr (p.length+(q.length+1)) 0)],p++R l j::(q++[.cells (GJ out (QZ m (suf l i)))])):=by
 have stop:∀(m i:Nat) (out:List Int),(suf l i=[]\/ ∃t,suf l i=41::t)->i<=l.length->out.length<=i->
  ∃j,j<=l.length+2/\i<=j/\suf l j=(suf l i).drop 1/\
   ∀lo (p q:List Ob) (ex:Jl),(ex=[]\/ ∃b,ex=[(49,.v (.bool b))])->lo<=p.length->lo<=p.length+(q.length+1)->
   JA (evCode ⟨Aa,E,lo,p.length+(q.length+1),JNi⟩ JA KT) (JKN p q l i out ex)=
    some (.ret,[(2,.ptr (p.length+(q.length+1)) 0)],p++R l j::(q++[.cells (tokC 7 out)])):=by
  intro m i out hs h2 h3;have k0:=λlo p q=>f47 (lo:=lo) (l:=l) (i:=i) (p:=p) (q:=q) (k:=0) om
  have kf:=λlo h=>f84 (lo:=lo) (l:=out) (h:=h) om
  have hwi:=JM (i:=i) om;simp only[n0]at k0;refine⟨i+1,om,om,by simp[suf,AY],λlo p q ex hex hlo hlo2=>?_⟩
  rw[JB];rcases hs with hs|⟨t,hs⟩
  ·have t1:((-1:Int)== -1)=true:=rfl
   rw[hs,QT]at k0;rcases hex with rfl|⟨b,rfl⟩
   ·simp only[go_sem,KT,W0,Tryz.f111,k0,kf,t1,hlo,hlo2,hwi,tokC]<;>rfl
   ·simp only[go_sem,KT,W0,Tryz.f111,k0,kf,t1,hlo,hlo2,hwi,tokC]<;>rfl
  ·have t0:((41:Int)== -1)=false:=rfl
   have t1:((41:Int)==41)=true:=rfl;rw[hs,jc]at k0;rcases hex with rfl|⟨b,rfl⟩
   ·simp only[go_sem,KT,W0,Tryz.f111,k0,kf,t0,t1,hlo,hlo2,hwi,tokC]<;>rfl
   ·simp only[go_sem,KT,W0,Tryz.f111,k0,kf,t0,t1,hlo,hlo2,hwi,tokC]<;>rfl
 intro m
 induction m with
 |zero=>
  intro i out h1 h2 h3;have hs:suf l i=[]:=Ar om;obtain⟨j,j1,j2,j3,j4⟩:=stop 0 i out (.inl hs) h2 h3;refine⟨j,j1,j2,by rw[j3,hs]<;>rfl,λlo p q ex hex hlo hlo2=>?_⟩
  rw[j4 lo p q ex hex hlo hlo2,hs]
  simp[GJ,QZ]
 |succ m ih=>
  intro i out h1 h2 h3;rcases Ay i l.length with hi|hi
  rotate_left
  ·have hs:suf l i=[]:=J9 hi
   obtain⟨j,j1,j2,j3,j4⟩:=stop 0 i out (.inl hs) h2 h3;refine⟨j,j1,j2,by rw[j3,hs]<;>rfl,λlo p q ex hex hlo hlo2=>?_⟩
   rw[j4 lo p q ex hex hlo hlo2,hs];simp[GJ,QZ]
  have hcp:=Y7 hi;have k0:=λlo p q=>f47 (lo:=lo) (l:=l) (i:=i) (p:=p) (q:=q) (k:=0) om
  have k1:=λlo p q=>f47 (lo:=lo) (l:=l) (i:=i) (p:=p) (q:=q) (k:=1) om
  have hr:∀k,k<=4->(out.length+k)*4<=140737488355328:=by intro k hk;omega
  have hq:∀k,9223372036854775800<=k->out.length<=k:=by intro k hk;omega
  have app:∀y:Int,ri .i32 out++[[V.v (.int .i32 y)]]=ri .i32 (out++[y]):=by intro y;rw[<-ri_app]<;>rfl
  have hw1:=JM (i:=i) om;have n1:((1:Nat):Int)=1:=rfl;simp only[n0,n1]at k0 k1;have hs:=Kc hi;have hs0:=hs;have hn:chr (suf l i) 1=chr (suf l (i+1)) 0:=by rw[hs];exact GH _ _ 0
  rw[hn]at k1;generalize chr (suf l i) 0=c at hs k0 hcp;have te:(c== -1)=false:=by simp;omega
  by_cases c41:c=41
  ·subst c41
   obtain⟨j,j1,j2,j3,j4⟩:=stop 0 i out (.inr ⟨_,hs⟩) h2 h3;have e:QZ (m+1) (41::suf l (i+1))=(true,[],suf l (i+1)):=by simp[QZ]
   refine⟨j,j1,j2,by rw[j3,hs,e]<;>rfl,λlo p q ex hex hlo hlo2=>?_⟩
   rw[j4 lo p q ex hex hlo hlo2,hs,e];simp[GJ]
  have t41:(c==41)=false:=by simp[c41]
  cases hb:blk c with
  |true=>
   obtain⟨j0,a1,a2,a3,a4⟩:=f75 (l:=l) (i:=i) hl h2;have hbl:QL (suf l i)=QL (suf l (i+1)):=by rw[hs];exact Bz hb
   have kj:=λlo p q=>f47 (lo:=lo) (l:=l) (i:=j0) (p:=p) (q:=q) (k:=0) om
   simp only[n0]at kj;by_cases hend:chr (suf l j0) 0= -1\/chr (suf l j0) 0=41
   ·have hs2:suf l j0=[]\/ ∃t,suf l j0=41::t:=by
     rcases Ay j0 l.length with h|h
     ·have h4:=Kc h
      have h5:=Y7 h;rcases hend with h6|h6
      ·omega
      ·rw[h6]at h4;exact .inr ⟨_,h4⟩
     ·exact .inl (J9 h)
    obtain⟨j,j1,j2,j3,j4⟩:=stop 0 j0 out hs2 a1 om
    have e:QZ (m+1) (suf l i)=(true,[],(suf l j0).drop 1):=by rw[hs,a3,hbl]at*;simp only[QZ];rw[if_neg c41,if_pos hb,if_pos hend]
    refine⟨j,j1,om,by rw[j3,e],λlo p q ex hex hlo hlo2=>?_⟩
    have er:evCode ⟨Aa,E,lo,p.length+(q.length+1),JNi⟩ JA KT (JKN p q l i out ex)=some (.normal,JKN p q l j0 out [(49,.v (.bool false))]):=by
     rcases hend with h6|h6
     ·have u0:(chr (suf l j0) 0 != -1)=false:=by simp[h6]
      rcases hex with rfl|⟨b,rfl⟩
      ·simp only[go_sem,KT,W0,Tryz.f111,k0,f74,te,t41,hb,a4 _ _ _ hlo,kj,u0,tokC]<;>rfl
      ·simp only[go_sem,KT,W0,Tryz.f111,k0,f74,te,t41,hb,a4 _ _ _ hlo,kj,u0,tokC]<;>rfl
     ·have u0:(chr (suf l j0) 0 != -1)=true:=by simp[h6]
      have u1:(chr (suf l j0) 0 !=41)=false:=by simp[h6]
      rcases hex with rfl|⟨b,rfl⟩
      ·simp only[go_sem,KT,W0,Tryz.f111,k0,f74,te,t41,hb,a4 _ _ _ hlo,kj,u0,u1,tokC]<;>rfl
      ·simp only[go_sem,KT,W0,Tryz.f111,k0,f74,te,t41,hb,a4 _ _ _ hlo,kj,u0,u1,tokC]<;>rfl
    rw[JB,er,JO,j4 lo p q _ (.inr ⟨_,rfl⟩) hlo hlo2,e];simp[GJ]
   ·obtain⟨j,j1,j2,j3,j4⟩:=f132 (l:=l) (i:=j0) hl a1
    have e:QZ (m+1) (suf l i)=(false,[],JCP (suf l j0)):=by rw[hs,a3,hbl]at*;simp only[QZ];rw[if_neg c41,if_pos hb,if_neg hend]
    refine⟨j,j1,om,by rw[j3,e],λlo p q ex hex hlo hlo2=>?_⟩
    have u0:(chr (suf l j0) 0 != -1)=true:=by simp;exact λh=>hend (.inl h)
    have u1:(chr (suf l j0) 0 !=41)=true:=by simp;exact λh=>hend (.inr h)
    rw[JB,e];rcases hex with rfl|⟨b,rfl⟩
    ·simp only[go_sem,KT,W0,Tryz.f111,k0,f74,te,t41,hb,a4 _ _ _ hlo,kj,u0,u1,j4 _ _ _ hlo,hlo2,GJ,tokC]<;>rfl
    ·simp only[go_sem,KT,W0,Tryz.f111,k0,f74,te,t41,hb,a4 _ _ _ hlo,kj,u0,u1,j4 _ _ _ hlo,hlo2,GJ,tokC]<;>rfl
  |false=>
   by_cases hq1:(quo c||c==40||unp c)=true
   ·obtain⟨j,j1,j2,j3,j4⟩:=f132 (l:=l) (i:=i) hl h2
    have e:QZ (m+1) (suf l i)=(false,[],JCP (suf l i)):=by rw[hs];simp only[QZ];rw[if_neg c41,if_neg (by simp[hb]),if_pos hq1]
    refine⟨j,j1,om,by rw[j3,e],λlo p q ex hex hlo hlo2=>?_⟩
    have hcase:(c==34)=true\/((c==34)=false/\((c==39)=true\/((c==39)=false/\((c==40)=true\/((c==40)=false/\unp c=true))))):=by
     simp only[quo,AU]at hq1;cases a1:(c==34)<;>cases a2:(c==39)<;>cases a3:(c==40)<;>simp[a1,a2,a3]at hq1⊢
     exact hq1
    rw[JB,e];rcases hcase with u1|⟨u1,u2|⟨u2,u3|⟨u3,u4⟩⟩⟩
    ·rcases hex with rfl|⟨b,rfl⟩
     ·simp only[go_sem,KT,W0,Tryz.f111,k0,f74,te,t41,hb,u1,j4 _ _ _ hlo,hlo2,GJ,tokC]<;>rfl
     ·simp only[go_sem,KT,W0,Tryz.f111,k0,f74,te,t41,hb,u1,j4 _ _ _ hlo,hlo2,GJ,tokC]<;>rfl
    ·rcases hex with rfl|⟨b,rfl⟩
     ·simp only[go_sem,KT,W0,Tryz.f111,k0,f74,te,t41,hb,u1,u2,j4 _ _ _ hlo,hlo2,GJ,tokC]<;>rfl
     ·simp only[go_sem,KT,W0,Tryz.f111,k0,f74,te,t41,hb,u1,u2,j4 _ _ _ hlo,hlo2,GJ,tokC]<;>rfl
    ·rcases hex with rfl|⟨b,rfl⟩
     ·simp only[go_sem,KT,W0,Tryz.f111,k0,f74,te,t41,hb,u1,u2,u3,j4 _ _ _ hlo,hlo2,GJ,tokC]<;>rfl
     ·simp only[go_sem,KT,W0,Tryz.f111,k0,f74,te,t41,hb,u1,u2,u3,j4 _ _ _ hlo,hlo2,GJ,tokC]<;>rfl
    ·rcases hex with rfl|⟨b,rfl⟩
     ·simp only[go_sem,KT,W0,Tryz.f111,k0,f74,f133,te,t41,hb,u1,u2,u3,u4,j4 _ _ _ hlo,hlo2,GJ,tokC]<;>rfl
     ·simp only[go_sem,KT,W0,Tryz.f111,k0,f74,f133,te,t41,hb,u1,u2,u3,u4,j4 _ _ _ hlo,hlo2,GJ,tokC]<;>rfl
   ·have hcase:(c==34)=false/\(c==39)=false/\(c==40)=false/\unp c=false:=by
     simp only[quo,AU]at hq1;cases a1:(c==34)<;>cases a2:(c==39)<;>cases a3:(c==40)<;>cases a4:unp c<;>simp[a1,a2,a3,a4]at hq1⊢
    obtain⟨u1,u2,u3,u4⟩:=hcase;by_cases c92:c=92
    ·have t92:(c==92)=true:=by simp[c92]
     cases he:esc c (chr (suf l (i+1)) 0)with
     |true=>
      obtain⟨j0,a1,a2,a3,a4⟩:=f106 (l:=l) (i:=i+1) hl om
      have e:QZ (m+1) (suf l i)=((QZ m (QM (suf l (i+1))).2).1,(QM (suf l (i+1))).1::(QZ m (QM (suf l (i+1))).2).2.1,(QZ m (QM (suf l (i+1))).2).2.2):=by rw[hs];simp only[QZ];rw[if_neg c41,if_neg (by simp[hb]),if_neg hq1,if_pos c92,if_pos he]
      obtain⟨j,j1,j2,j3,j4⟩:=ih j0 (out++[(QM (suf l (i+1))).1]) (by rw[QD]at h1⊢;omega) a1 (by simp;omega)
      refine⟨j,j1,om,by rw[j3,e,a3],λlo p q ex hex hlo hlo2=>?_⟩
      have er:evCode ⟨Aa,E,lo,p.length+(q.length+1),JNi⟩ JA KT (JKN p q l i out ex)=some (.normal,JKN p q l j0 (out++[(QM (suf l (i+1))).1]) []):=by
       rcases hex with rfl|⟨b,rfl⟩
       ·simp only[go_sem,KT,W0,Tryz.f111,k0,k1,f74,f133,f78,te,t41,hb,u1,u2,u3,u4,t92,he,hlo,hw1,a4 _ _ _ hlo,hr,hq,app,and_self,tokC]<;>rfl
       ·simp only[go_sem,KT,W0,Tryz.f111,k0,k1,f74,f133,f78,te,t41,hb,u1,u2,u3,u4,t92,he,hlo,hw1,a4 _ _ _ hlo,hr,hq,app,and_self,tokC]<;>rfl
      rw[JB,er,JO,j4 lo p q _ (.inl rfl) hlo hlo2,e,a3]
      simp[GJ]
     |false=>
      obtain⟨j,j1,j2,j3,j4⟩:=f132 (l:=l) (i:=i) hl h2
      have e:QZ (m+1) (suf l i)=(false,[],JCP (suf l i)):=by rw[hs];simp only[QZ];rw[if_neg c41,if_neg (by simp[hb]),if_neg hq1,if_pos c92,if_neg (by simp[he])]
      refine⟨j,j1,om,by rw[j3,e],λlo p q ex hex hlo hlo2=>?_⟩
      rw[JB,e];rcases hex with rfl|⟨b,rfl⟩
      ·simp only[go_sem,KT,W0,Tryz.f111,k0,k1,f74,f133,f78,te,t41,hb,u1,u2,u3,u4,t92,he,j4 _ _ _ hlo,hlo2,GJ,tokC]<;>rfl
      ·simp only[go_sem,KT,W0,Tryz.f111,k0,k1,f74,f133,f78,te,t41,hb,u1,u2,u3,u4,t92,he,j4 _ _ _ hlo,hlo2,GJ,tokC]<;>rfl
    ·have t92:(c==92)=false:=by simp[c92]
     have e:QZ (m+1) (suf l i)=((QZ m (suf l (i+1))).1,c::(QZ m (suf l (i+1))).2.1,(QZ m (suf l (i+1))).2.2):=by rw[hs];simp only[QZ];rw[if_neg c41,if_neg (by simp[hb]),if_neg hq1,if_neg c92]
     obtain⟨j,j1,j2,j3,j4⟩:=ih (i+1) (out++[c]) (by rw[QD]at h1⊢;omega) om (by simp;omega)
     refine⟨j,j1,om,by rw[j3,e],λlo p q ex hex hlo hlo2=>?_⟩
     have er:evCode ⟨Aa,E,lo,p.length+(q.length+1),JNi⟩ JA KT (JKN p q l i out ex)=some (.normal,JKN p q l (i+1) (out++[c]) []):=by
      rcases hex with rfl|⟨b,rfl⟩
      ·simp only[go_sem,KT,W0,Tryz.f111,k0,f74,f133,te,t41,hb,u1,u2,u3,u4,t92,hlo,hw1,hr,hq,app,and_self,tokC]<;>rfl
      ·simp only[go_sem,KT,W0,Tryz.f111,k0,f74,f133,te,t41,hb,u1,u2,u3,u4,t92,hlo,hw1,hr,hq,app,and_self,tokC]<;>rfl
     rw[JB,er,JO,j4 lo p q _ (.inl rfl) hlo hlo2,e];simp[GJ]
theorem f111(hl:l.length<=100000000000)(hi:i<=l.length):∃j,j<=l.length+2/\i<=j/\suf l j=(url (suf l i)).2.2/\
  ∀lo p q,lo<=p.length->E lo 111 [.ptr p.length 0] (p++R l i::q)=some (.agg (GJ [] (url (suf l i))),p++R l j::q):=by
 obtain⟨j0,a1,a2,a3,a4⟩:=f75 (l:=l) (i:=i) hl hi;obtain⟨j,j1,j2,j3,j4⟩:=JYS (l:=l) hl (suf l j0).length j0 [] (Ad _) a1 (by simp)
 have e:url (suf l i)=QZ (suf l j0).length (suf l j0):=by unfold url;rw[a3]
 refine⟨j,j1,om,by rw[j3,e],λlo p q hlo=>?_⟩
 have hL:=j4 lo p q [] (.inl rfl) hlo om;rw[Jq6,e];simp only[JKN,tokC,KT,W0,Tryz.f111,JK,loops,JC,go_sem,Z6,str_nil]at hL;simp only[go_sem,W0,Tryz.f111,a4 _ _ _ hlo,hL];unfold GJ;cases(QZ (suf l j0).length (suf l j0)).1<;>rfl
end
def bs(l:List Int):ByteArray:=⟨(YK l).toArray⟩
theorem Kg(l:List Int):(bs l).size=l.length:=by simp[bs,De,YK]
theorem JKO(l:List Int)(a b:Nat):(bs l).extract a b=bs ((l.take b).drop a):=by
 apply DS;simp only[bs,ByteArray.data_extract];apply Array.toList_inj.1;rw[Array.toList_extract];simp only[List.extract,YK,List.toList_toArray,List.map_drop,List.map_take];rw[List.take_drop];rcases Nat.le_total a b with h|h
 ·rw[Nat.add_sub_cancel' h]
 ·rw[AZ (by simp;omega),AZ (by simp;omega)]
theorem Jei(a b:List Int):bs a++bs b=bs (a++b):=by apply DS;simp[bs,YK]
theorem Yj{l:List Int}(hy:By l)(i:Nat):((bs l).data[i]?).map (λc=>V.v (.int .u8 c.toNat))=(l[i]?).map λc=>V.v (.int .u8 c):=by
 simp only[bs,List.getElem?_toArray,YK,List.getElem?_map]
 cases h:l[i]? with
 |none=>rfl
 |some c=>
  have:=hy c (Aj h);simp only[Option.map_some]
  congr 4
  show((B8 c.toNat).toNat:Int)=c
  simp only[Cr];omega
theorem JPg(l:List Int):(bs l).toList=YK l:=by simp[bs,ByteArray.toList_eq]
theorem Jej:bs []=AQ:=rfl
theorem JRz(l:List Int):((bs l).toList==(AQ).toList)=decide (l=[]):=by
 rw[<-Jej,JPg,JPg]
 cases l with
 |nil=>rfl
 |cons c t=>simp[YK]
theorem By.take{l:List Int}(h:By l)(n:Nat):By (l.take n):=λc hc=>h c (List.mem_of_mem_take hc)
theorem By.drop{l:List Int}(h:By l)(n:Nat):By (l.drop n):=λc hc=>h c (List.mem_of_mem_drop hc)
section
variable{lo i:Nat}{l:List Int}{p q:List Ob}
theorem JYT(hl:l.length<=100000000000):∀(n i:Nat),l.length-i<=n->i<=l.length->
  ∃j,j<=l.length/\i<=j/\suf l j=(suf l i).dropWhile KD/\
   ∀lo (p q:List Ob),lo<=p.length->JA (evCode ⟨Aa,E,lo,p.length+(q.length+1),JXO⟩ JA zx) ([(0,.ptr p.length 0)],p++R l i::q)=some (.exit 0,[(0,.ptr p.length 0),(4,.v (.bool false))],p++R l j::q):=by
 intro n
 induction n with
 |zero=>
  intro i h1 h2;obtain rfl:i=l.length:=om;have k0:=λlo p q=>f47 (lo:=lo) (l:=l) (i:=l.length) (p:=p) (q:=q) (k:=0) om
  have hs:suf l l.length=[]:=J9 (Ad _);have hb:KD (-1)=false:=rfl;simp only[n0,hs,QT]at k0;refine⟨l.length,Ad _,Ad _,by rw[hs]<;>rfl,λlo p q hlo=>?_⟩
  rw[JB]
  simp only[go_sem,zx,JNn,Tryz.f109,k0,f108,hb]
 |succ n ih=>
  intro i h1 h2;have k0:=λlo p q=>f47 (lo:=lo) (l:=l) (i:=i) (p:=p) (q:=q) (k:=0) om
  simp only[n0]at k0;have hw:=JM (i:=i) om
  cases hb:KD (chr (suf l i) 0)with
  |false=>
   refine⟨i,h2,Ad _,?_,λlo p q hlo=>?_⟩
   ·by_cases hi:i<l.length
    ·rw[Kc hi]at hb⊢
     exact(Bn (by simpa[chr]using hb)).symm
    ·rw[J9 om]<;>rfl
   ·rw[JB]
    simp only[go_sem,zx,JNn,Tryz.f109,k0,f108,hb]
  |true=>
   have hi:i<l.length:=by
    rcases Ay i l.length with h|h
    ·exact h
    ·rw[J9 h]at hb;exact absurd hb (by decide)
   obtain⟨j,j1,j2,j3,j4⟩:=ih (i+1) om om;refine⟨j,j1,om,?_,λlo p q hlo=>?_⟩
   ·rw[j3,Kc hi]
    exact(Bz (by simpa using hb)).symm
   ·rw[JB]
    have e:evCode ⟨Aa,E,lo,p.length+(q.length+1),JXO⟩ JA zx ([(0,.ptr p.length 0)],p++R l i::q)=some (.normal,[(0,.ptr p.length 0)],p++R l (i+1)::q):=by simp only[go_sem,zx,JNn,Tryz.f109,k0,f108,hb,hw,hlo]
    rw[e,JO];exact j4 lo p q hlo
theorem f109(hl:l.length<=100000000000)(hi:i<=l.length):∃j,j<=l.length/\i<=j/\suf l j=(suf l i).dropWhile KD/\
  ∀lo p q,lo<=p.length->E lo 109 [.ptr p.length 0] (p++R l i::q)=some (.tup [],p++R l j::q):=by
 obtain⟨j,j1,j2,j3,j4⟩:=JYT (l:=l) hl l.length i om hi;refine⟨j,j1,j2,j3,λlo p q hlo=>?_⟩
 have hL:=j4 lo p q hlo;rw[Jq4];simp only[zx,JNn,Tryz.f109,JK,loops,JC,go_sem]at hL;simp only[go_sem,JNn,Tryz.f109,hL]
end
theorem f140{lo:Nat}{c:Int}{h:JG}:E lo 140 [.v (.int .u8 c)] h=some (.v (.bool (KD c)),h):=by rw[JrW];simp only[go_sem,Jj4,Tryz.f140,KD]
def Jj(x:Int×Int):List V:=[.v (.int .i64 x.1),.v (.int .i64 x.2)]
theorem f103{lo:Nat}{h:JG}(hlo:lo<=h.length):E lo 103 [] h=some (.agg (Jj (0,0)),h):=by rw[Jjx];simp only[go_sem,Jdn,Tryz.f103,hlo];rfl
theorem f40{lo:Nat}{n:Int}{h:JG}(hlo:lo<=h.length):E lo 40 [.v (.int .i64 n)] h=some (.agg (Jj (n,1)),h):=by rw[e40];simp only[go_sem,b40,Tryz.f40,hlo];rfl
theorem JH6{t:List Int}{i:Nat}{c:Int}(h:t[i]? =some c):t.drop i=c::t.drop (i+1):=by
 obtain⟨hi,rfl⟩:=List.getElem?_eq_some_iff.1 h
 exact List.drop_eq_getElem_cons hi
theorem JYU{lo:Nat}{t:List Int}{h:JG}(hy:By t)(hl:t.length<=100000000000):∀(m i:Nat) (ex:Jl),(ex=[]\/ex=[(14,.v (.bool true))])->t.length-i<=m->i<=t.length->
  JA (evCode ⟨Aa,E,lo,h.length,JXQ⟩ JA He) ((0,.v (.string (bs t)))::(1,.v (.int .i64 i))::ex,h)=
   some (.exit 0,[(0,.v (.string (bs t))),(1,.v (.int .i64 (i+((t.drop i).takeWhile KD).length:Nat))),(14,.v (.bool false))],h):=by
 intro m
 induction m with
 |zero=>
  intro i ex hex h1 h2;obtain rfl:i=t.length:=om;have hd:decide ((t.length:Int)<(t.length:Int))=false:=by simp
  rw[JB];rcases hex with rfl|rfl
  ·simp only[go_sem,He,JD0,Tryz.f130,Kg,hd]
   all_goals simp
  ·simp only[go_sem,He,JD0,Tryz.f130,Kg,hd]
   all_goals simp
 |succ m ih=>
  intro i ex hex h1 h2;rcases Ay i t.length with hi|hi
  rotate_left
  ·exact ih i ex hex om h2
  have hd:decide ((i:Int)<(t.length:Int))=true:=by simp;omega
  have hw:=JM (i:=i) om;have hc:t[i]? =some t[i]:=Ac hi
  have hdr:=JH6 hc;generalize t[i]=c at hc hdr
  cases hb:KD c with
  |false=>
   rw[hdr,Ci (by simp[hb]),JB]
   rcases hex with rfl|rfl
   ·simp only[go_sem,He,JD0,Tryz.f130,Kg,hd,Yj hy,hc,f140,hb]
    all_goals simp
   ·simp only[go_sem,He,JD0,Tryz.f130,Kg,hd,Yj hy,hc,f140,hb]
    all_goals simp
  |true=>
   rw[hdr,Be hb,JB]
   have e:∀ex,(ex=[]\/ex=[(14,.v (.bool true))])->evCode ⟨Aa,E,lo,h.length,JXQ⟩ JA He ((0,.v (.string (bs t)))::(1,.v (.int .i64 i))::ex,h)=some (.normal,[(0,.v (.string (bs t))),(1,.v (.int .i64 (i+1:Nat)))],h):=by
    intro ex hex;rcases hex with rfl|rfl
    ·simp only[go_sem,He,JD0,Tryz.f130,Kg,hd,Yj hy,hc,f140,hb,hw]
    ·simp only[go_sem,He,JD0,Tryz.f130,Kg,hd,Yj hy,hc,f140,hb,hw]
   rw[e ex hex,JO,ih (i+1) [] (.inl rfl) om om];have e2:i+(c::(t.drop (i+1)).takeWhile KD).length=i+1+((t.drop (i+1)).takeWhile KD).length:=by simp;omega
   rw[e2]
theorem f130{lo i:Nat}{t:List Int}{h:JG}(hy:By t)(hl:t.length<=100000000000)(hi:i<=t.length):
  E lo 130 [.v (.string (bs t)),.v (.int .i64 i)] h=some (.v (.int .i64 (i+((t.drop i).takeWhile KD).length:Nat)),h):=by
 have hL:=JYU (lo:=lo) (h:=h) hy hl t.length i [] (.inl rfl) om hi;rw[JrP];simp only[He,JD0,Tryz.f130,JK,loops,JC,go_sem]at hL;simp only[go_sem,JD0,Tryz.f130,hL]
theorem QB{n:Int}(h0:0<=n)(h1:n<=18446744073709551615):Ba.wrap n=n:=by unfold IntKind.wrap;simp only[IntKind.bits,IntKind.signed];simp;omega
theorem JR0(l:List Int)(c:Int):core (l++[c])=if c=48 then core l else l++[c]:=by
 unfold core;rw[List.reverse_append];simp only[List.reverse_cons,List.reverse_nil,List.nil_append,List.cons_append,List.dropWhile_cons,beq_iff_eq]
 split<;>simp
abbrev HJ(below:Bool)(ds:List Int)(e:Int)(h:JG)(a b:Int)(ex:Jl):Jl×JG:=
 ((0,.v (.bool below))::(1,.v (.string (bs ds)))::(2,.v (.int .i64 e))::(6,.ptr h.length 0)::(7,.v (.int .i64 a))::(8,.v (.int .i64 b))::ex,h++[.cells (Jj (0,0))])
theorem JVU{lo:Nat}{below:Bool}{ds:List Int}{e:Int}{h:JG}(hy:By ds)(hl:ds.length<=100000000000):∀(m a:Nat),ds.length-a<=m->a<=ds.length->
  JA (evCode ⟨Aa,E,lo,h.length,Hc⟩ JA z8) (HJ below ds e h a ds.length [])=
   some (.exit 0,HJ below ds e h (a+((ds.drop a).takeWhile (· ==48)).length:Nat) ds.length [(25,.v (.bool false))]):=by
 intro m
 induction m with
 |zero=>
  intro a h1 h2;obtain rfl:a=ds.length:=om;have hd:decide ((ds.length:Int)<(ds.length:Int))=false:=by simp
  rw[JB];simp only[go_sem,z8,KB,Tryz.f131,Kg,hd,Jj];all_goals simp
  all_goals rfl
 |succ m ih=>
  intro i h1 h2;rcases Ay i ds.length with hi|hi
  rotate_left
  ·exact ih i om h2
  have hd:decide ((i:Int)<(ds.length:Int))=true:=by simp;omega
  have hw:=JM (i:=i) om;have hc:ds[i]? =some ds[i]:=Ac hi
  have hdr:=JH6 hc;generalize ds[i]=c at hc hdr
  cases hb:(c==48)with
  |false=>
   rw[hdr,Ci (by simp[hb]),JB]
   simp only[go_sem,z8,KB,Tryz.f131,Kg,hd,Yj hy,hc,hb,Jj];all_goals simp
   all_goals rfl
  |true=>
   rw[hdr,Be (p:=(· ==48)) (by simpa using hb),JB]
   have e1:evCode ⟨Aa,E,lo,h.length,Hc⟩ JA z8 (HJ below ds e h i ds.length [])=some (.normal,HJ below ds e h (i+1:Nat) ds.length []):=by simp only[go_sem,z8,KB,Tryz.f131,Kg,hd,Yj hy,hc,hb,hw,Jj]<;>rfl
   rw[e1,JO,ih (i+1) om om];have e2:i+(c::(ds.drop (i+1)).takeWhile (· ==48)).length=i+1+((ds.drop (i+1)).takeWhile (· ==48)).length:=by simp;omega
   rw[e2]
theorem JVV{lo:Nat}{below:Bool}{ds:List Int}{h:JG}{a:Nat}{c0:Int}(hy:By ds)(hl:ds.length<=100000000000)(ha:ds[a]? =some c0)(hc0:c0≠48):
  ∀(m b:Nat) (e:Int) (x:V),b-a<=m->a<b->b<=ds.length-> -4000000000000<=e->e+b<=4000000000000->
  ∃b',a<b'/\b'<=b/\(ds.take b').drop a=core ((ds.take b).drop a)/\
   JA (evCode ⟨Aa,E,lo,h.length,Hc⟩ JA JCo) (HJ below ds e h a b [(30,x)])=
    some (.exit 2,HJ below ds (e+b-b') h a b' [(36,.v (.bool false))]):=by
 intro m
 induction m with
 |zero=>intro b e x h1 h2;omega
 |succ m ih=>
  intro b e x h1 h2 h3 h4 h5;obtain⟨k,rfl⟩:∃k,b=k+1:=⟨b-1,om⟩;have hw:Am.wrap (((k+1:Nat):Int)-1)=(k:Int):=by rw[JW]<;>omega
  have hwe:Am.wrap (e+1)=e+1:=by rw[JW]<;>omega
  have hc:ds[k]? =some ds[k]:=Ac om
  have hsn:(ds.take (k+1)).drop a=(ds.take k).drop a++[ds[k]]:=by
   rw[List.take_add_one,hc];rw[List.drop_append_of_le_length (by simp;omega)]
   rfl
  generalize ds[k]=c at hc hsn;rw[hsn,JR0]
  cases hb:(c==48)with
  |false=>
   have hn:¬c=48:=by simpa using hb
   rw[if_neg hn];refine⟨k+1,h2,Ad _,hsn,?_⟩
   rw[JB];have e2:e+((k+1:Nat):Int)-((k+1:Nat):Int)=e:=om;rw[e2]
   simp only[go_sem,JCo,KB,Tryz.f131,hw,Yj hy,hc,hb,Jj]<;>rfl
  |true=>
   have hn:c=48:=by simpa using hb
   rw[if_pos hn]
   have hka:a<k:=by
    rcases Ay a k with h|h
    ·exact h
    ·have:a=k:=om
     subst this;rw[hc]at ha;cases ha;exact absurd hn hc0
   obtain⟨b',q1,q2,q3,q4⟩:=ih k (e+1) .undef om hka om om om;refine⟨b',q1,om,q3,?_⟩
   have e1:evCode ⟨Aa,E,lo,h.length,Hc⟩ JA JCo (HJ below ds e h a (k+1:Nat) [(30,x)])=some (.normal,HJ below ds (e+1) h a k [(30,.undef)]):=by simp only[go_sem,JCo,KB,Tryz.f131,hw,hwe,Yj hy,hc,hb,Jj]<;>rfl
   rw[JB,e1,JO,q4];have e2:e+1+(k:Int)-(b':Int)=e+((k+1:Nat):Int)-(b':Int):=om;rw[e2]
abbrev JD6(below:Bool)(e:Int)(h:JG)(n:Int)(rows:List (List V))(len k:Int)(ex:Jl):Jl×JG:=
 ((0,.v (.bool below))::(2,.v (.int .i64 e))::(6,.ptr h.length 0)::(9,.v (.int .u64 n))::(50,.list .no rows)::(51,.v (.int .i64 len))::(52,.v (.int .i64 k))::ex,h++[.cells (Jj (0,0))])
theorem JVW{lo:Nat}{below:Bool}{e:Int}{h:JG}{d:List Int}(hd:∀c∈d,KD c=true)(hl:d.length<=18):∀(r:List Int) (k:Nat) (n:Int),d.drop k=r->k+r.length=d.length->0<=n->n<10^k->
  JA (evCode ⟨Aa,E,lo,h.length,Hc⟩ JA JCp) (JD6 below e h n (ri .u8 d) d.length k [])=
   some (.exit 4,JD6 below e h (GB n r) (ri .u8 d) d.length d.length [(53,.v (.bool false))]):=by
 intro r
 induction r with
 |nil=>
  intro k n hr hk h0 h1;have hk':k=d.length:=by simpa using hk
  subst hk';have hlt:decide ((d.length:Int)<(d.length:Int))=false:=by simp
  rw[JB]
  simp only[go_sem,JCp,KB,Tryz.f131,hlt,GB,Jj]<;>rfl
 |cons c r ih=>
  intro k n hr hk h0 h1;simp only[Ae]at hk;have hlt:decide ((k:Int)<(d.length:Int))=true:=by simp;omega
  have hc:d[k]? =some c:=by
   have:=congrArg (·[0]?) hr
   simpa using this
  have hcd:=hd c (Aj hc);simp only[KD,Af,decide_eq_true_eq]at hcd;have hw:=JM (i:=k) om
  have h17:(10:Int)^k<=100000000000000000:=by
   have:(10:Int)^k<=10^17:=by obtain⟨j,hj⟩:∃j,17=k+j:=⟨17-k,om⟩;rw[hj,Int.pow_add];have h0:=Kt (y:=10) om k;exact kN om (Kt om j)
   exact this
  have w1:Ba.wrap (n*10)=n*10:=QB om om;have w2:BM.wrap (c-48)=c-48:=Qm om om;have w3:Ba.wrap (c-48)=c-48:=QB om om;have w4:Ba.wrap (n*10+(c-48))=n*10+(c-48):=QB om om
  have e1:evCode ⟨Aa,E,lo,h.length,Hc⟩ JA JCp (JD6 below e h n (ri .u8 d) d.length k [])=some (.normal,JD6 below e h (n*10+(c-48)) (ri .u8 d) d.length (k+1:Nat) []):=by simp only[go_sem,JCp,KB,Tryz.f131,hlt,hc,w1,w2,w3,w4,hw,Jj]<;>rfl
  have hp:(10:Int)^ (k+1)=10^k*10:=Int.pow_succ 10 k;rw[JB,e1,JO,ih (k+1) (n*10+(c-48)) (by rw[<-AY,hr]<;>rfl) om om om]
  rfl
end Go.Lift.Y1.P.T
end
