/- The program's reader of characters: names, remarks, bad urls. -/
import Derived.Test.YtkmiddfplmnaoaaGreatDoorGKc
open Bool renaming and_eq_true->Ah,and_true->Cq,false_eq_true->As
open Go.IntKind renaming i32->Az,i64->Ak,u8->AX
open Go.Proofs.Tryz renaming prog->Aa
open Int renaming toNat_natCast->CJ
open List renaming append_assoc->Aw,append_nil->Aq,drop_drop->AC,eq_nil_of_length_eq_zero->Au,getElem?_eq_getElem->Ad,getElem?_eq_none->Bi,length_cons->Ag,length_nil->Am,map_congr_left->A2,map_nil->Cm,mem_cons_of_mem->AV,mem_cons_self->Be,nil_append->Af,take_of_length_le->Cw
open Nat renaming add_zero->Bl,le_refl->Ac,lt_or_ge->Ax,zero_add->AB,zero_le->A0
set_option linter.unusedVariables false
set_option linter.unusedSimpArgs false
set_option linter.unusedSectionVars false
set_option maxRecDepth 20000
set_option maxHeartbeats 4000000
section
open Go.Proofs
namespace Go.Lift.W1.T
variable[MX]
open Utf Tok
def str(l:List Int):ByteArray:=⟨(WN (Q2 l)).toArray⟩
theorem QP(c:Int)(t:List Int):chr (c::t) 0=c:=rfl
theorem Kl(c:Int)(t:List Int)(k:Nat):chr (c::t) (k+1)=chr t k:=by simp[chr]
theorem JMV(b:Int):Gi (-1) b=false:=by simp[Gi]
theorem JMW:j8 (-1)=false:=by decide
section
variable{lo i:Nat}{l:List Int}{p q:List Ob}
theorem JOJ{lo:Nat}{l:List Int}{h:Heap}(hl:l.length<=35184372088832):E lo 62 [.list .no (ri .i32 l)] h=some (.list .no (ri .u8 (Q2 l)),h):=f62 hl
theorem JQ2(hlo:lo<=p.length)(hl:l.length<=100000000000):∀(m i:Nat) (out:List Int),(suf l i).length<=m->i<=l.length->out.length<=i->
  ∃j,j<=l.length/\i<=j/\suf l j=(KW m (suf l i)).2/\
   JA (evCode ⟨Aa,E,lo,(p++R l i::q).length,h60⟩ JA ko) ([(0,.ptr p.length 0),(3,.list .yes (ri .i32 out))],p++R l i::q)=
    some (.ret,[(2,.v (.string (str (out++(KW m (suf l i)).1))))],p++R l j::q):=by
 intro m
 induction m with
 |zero=>
  intro i out h1 h2 h3;have hs:suf l i=[]:=Au om;have k0:=λlo p q=>f32 (lo:=lo) (l:=l) (i:=i) (p:=p) (q:=q) (k:=0) om
  have k1:=λlo p q=>f58 (lo:=lo) (l:=l) (i:=i) (p:=p) (q:=q) (k:=0) om
  have kf:=λlo h=>JOJ (lo:=lo) (l:=out) (h:=h) om
  simp only[n0,hs,Jw]at k0 k1;refine⟨i,h2,Ac _,by rw[hs];rfl,?_⟩
  rw[JB,hs];simp only[go_sem,ko,b60,Tryz.f60,k0,k1,f57,JMW,JMV,kf,KW,Aq]
  rfl
 |succ m ih=>
  intro i out h1 h2 h3;have k0:=λlo p q=>f32 (lo:=lo) (l:=l) (i:=i) (p:=p) (q:=q) (k:=0) om
  have k1:=λlo p q=>f58 (lo:=lo) (l:=l) (i:=i) (p:=p) (q:=q) (k:=0) om
  have kt:=λlo p q h=>f63 (lo:=lo) (l:=l) (i:=i) (p:=p) (q:=q) h om
  have kf:=λlo h=>JOJ (lo:=lo) (l:=out) (h:=h) om
  have hr:∀k,k<=4->(out.length+k)*4<=140737488355328:=by intro k hk;omega
  have hq:∀k,9223372036854775800<=k->out.length<=k:=by intro k hk;omega
  have app:∀y:Int,ri .i32 out++[[V.v (.int .i32 y)]]=ri .i32 (out++[y]):=by intro y;rw[<-ri_app];rfl
  simp only[n0]at k0 k1;rcases Ax i l.length with hi|hi
  ·have hs:=Jb hi
   have hn:chr (suf l i) (0+1)=chr (suf l (i+1)) 0:=by rw[hs,Kl]
   rw[hn]at k1;generalize chr (suf l i) 0=c at hs k0 k1 kt;rw[hs]at h1⊢;simp only[Ag]at h1
   cases hc:j8 c with
   |true=>
    obtain⟨j,j1,j2,j3,j4⟩:=ih (i+1) (out++[c]) om om (by simp;omega)
    refine⟨j,j1,om,?_,?_⟩
    ·rw[j3];simp only[KW];rw[if_pos hc]
    ·have e:evCode ⟨Aa,E,lo,(p++R l i::q).length,h60⟩ JA ko ([(0,.ptr p.length 0),(3,.list .yes (ri .i32 out))],p++R l i::q)=
       some (.normal,[(0,.ptr p.length 0),(3,.list .yes (ri .i32 (out++[c])))],p++R l (i+1)::q):=by
      simp only[go_sem,ko,b60,Tryz.f60,k0,f57,hc,kt _ _ _ hlo,hr,hq,and_self,app]
     rw[JB,e,JK];simp only[G6,ZO]at j4⊢;rw[j4];simp only[KW];rw[if_pos hc,Aw]
     rfl
   |false=>
    cases he:Gi c (chr (suf l (i+1)) 0)with
    |true=>
     obtain⟨j0,a1,a2,a3,a4⟩:=f86 (l:=l) (i:=i+1) hl om;have hlen:(suf l j0).length<=m:=by rw[Jv];rw[Jv]at h1;omega
     obtain⟨j,j1,j2,j3,j4⟩:=ih j0 (out++[(KD (suf l (i+1))).1]) hlen a1 (by simp;omega)
     refine⟨j,j1,om,?_,?_⟩
     ·rw[j3,a3];simp only[KW];rw[hc,he];simp
     ·have e:evCode ⟨Aa,E,lo,(p++R l i::q).length,h60⟩ JA ko ([(0,.ptr p.length 0),(3,.list .yes (ri .i32 out))],p++R l i::q)=
        some (.normal,[(0,.ptr p.length 0),(3,.list .yes (ri .i32 (out++[(KD (suf l (i+1))).1])))],p++R l j0::q):=by
       simp only[go_sem,ko,b60,Tryz.f60,k0,k1,f57,hc,he,kt _ _ _ hlo,a4 _ _ _ hlo,hr,hq,and_self,app]
      rw[JB,e,JK];simp only[G6,ZO]at j4⊢;rw[j4,a3];simp only[KW];rw[hc,he]
      simp
    |false=>
     refine⟨i,h2,Ac _,?_,?_⟩
     ·simp only[KW];rw[hc,he,hs];simp
     ·rw[JB]
      simp only[go_sem,ko,b60,Tryz.f60,k0,k1,f57,hc,he,kf];simp only[KW];rw[hc,he];simp[str]
  ·have hs:suf l i=[]:=JV hi
   simp only[hs,Jw]at k0 k1;refine⟨i,h2,Ac _,by rw[hs];rfl,?_⟩
   rw[JB,hs];simp only[go_sem,ko,b60,Tryz.f60,k0,k1,f57,JMW,JMV,kf,KW,Aq];rfl
theorem f60(hl:l.length<=100000000000)(hi:i<=l.length):∃j,j<=l.length/\i<=j/\suf l j=(name (suf l i)).2/\
  ∀lo p q,lo<=p.length->E lo 60 [.ptr p.length 0] (p++R l i::q)=some (.v (.string (str (name (suf l i)).1)),p++R l j::q):=by
 obtain⟨j,j1,j2,j3,_⟩:=JQ2 (lo:=0) (p:=[]) (q:=[]) (l:=l) (Ac _) hl (suf l i).length i [] (Ac _) hi (by simp)
 refine⟨j,j1,j2,j3,λlo p q hlo=>?_⟩
 obtain⟨j',j1',_,j3',hL⟩:=JQ2 (lo:=lo) (p:=p) (q:=q) (l:=l) hlo hl (suf l i).length i [] (Ac _) hi (by simp)
 obtain rfl:j'=j:=Gc j1' j1 (by rw[j3',j3])
 rw[e60];simp only[ko,b60,Tryz.f60,JG,JT,JC,go_sem,J4]at hL;simp only[go_sem,b60,Tryz.f60,hL];rfl
end
theorem f95{lo:Nat}{c:Int}{h:Heap}:E lo 95 [.v (.int .i32 c)] h=some (.v (.bool (Jn c)),h):=by rw[e95];simp only[go_sem,b95,Tryz.f95,Jn]
theorem f94{lo:Nat}{c:Int}{h:Heap}:E lo 94 [.v (.int .i32 c)] h=some (.v (.bool (JH5 c)),h):=by rw[e94];simp only[go_sem,b94,Tryz.f94,JH5]
theorem f73{lo:Nat}{c:Int}{h:Heap}:E lo 73 [.v (.int .i32 c)] h=some (.v (.bool (j8 c)),h):=by rw[e73];simp only[go_sem,b73,Tryz.f73,f94,f95,j8]
theorem f70{lo:Nat}{c:Int}{h:Heap}:E lo 70 [.v (.int .i32 c)] h=some (.v (.bool (blk c)),h):=by rw[e70];simp only[go_sem,b70,Tryz.f70,blk]
theorem f117{lo:Nat}{c:Int}{h:Heap}:E lo 117 [.v (.int .i32 c)] h=some (.v (.bool (unp c)),h):=by rw[Jll];simp only[go_sem,Je5,Tryz.f117,unp]
theorem f74{lo:Nat}{a b:Int}{h:Heap}:E lo 74 [.v (.int .i32 a),.v (.int .i32 b)] h=some (.v (.bool (Gi a b)),h):=by rw[e74];simp only[go_sem,b74,Tryz.f74,Gi]
theorem f75{lo:Nat}{a b c:Int}{h:Heap}:E lo 75 [.v (.int .i32 a),.v (.int .i32 b),.v (.int .i32 c)] h=some (.v (.bool (beg a b c)),h):=by
 rw[e75]
 cases ha:a==45 with
 |true=>simp only[go_sem,b75,Tryz.f75,f94,f74,ha,beg]
 |false=>simp only[go_sem,b75,Tryz.f75,f94,f74,ha,beg,As]
theorem f77{lo:Nat}{a b c:Int}{h:Heap}:E lo 77 [.v (.int .i32 a),.v (.int .i32 b),.v (.int .i32 c)] h=some (.v (.bool (num a b c)),h):=by
 rw[e77]
 cases ha:a==43||a==45 with
 |true=>simp only[go_sem,b77,Tryz.f77,f95,ha,num]
 |false=>simp only[go_sem,b77,Tryz.f77,f95,ha,num,As]
def JUQ(c:Int):V:= .tup [.v (.int .i32 (if hex c<0 then 0 else hex c)),.v (.bool (decide (0<=hex c)))]
theorem f112{lo:Nat}{c:Int}{h:Heap}(h0: -1<=c)(h1:c<=1114111):E lo 112 [.v (.int .i32 c)] h=some (JUQ c,h):=by
 rw[Jlg];have w1:Az.wrap (c-48)=c-48:=wrap_i32 om om;have w2:Az.wrap (c-97)=c-97:=wrap_i32 om om;have w3:Az.wrap (c-97+10)=c-97+10:=wrap_i32 om om;have w4:Az.wrap (c-65)=c-65:=wrap_i32 om om;have w5:Az.wrap (c-65+10)=c-65+10:=wrap_i32 om om;unfold JUQ hex
 cases hd:Jn c with
 |true=>
  simp only[Jn,Ah,decide_eq_true_eq]at hd;have hp:¬(c-48<0):=om;have hp2:0<=c-48:=om;have hd':Jn c=true:=by simp[Jn];omega
  simp only[go_sem,JQi,Tryz.f112,f95,hd',w1,hp,hp2]
 |false=>
  cases ha:decide (97<=c)&&decide (c<=102)with
  |true=>
   have hb:=ha;simp only[Ah,decide_eq_true_eq]at hb;have hp:¬(c-97+10<0):=om;have hp2:0<=c-97+10:=om
   simp only[go_sem,JQi,Tryz.f112,f95,hd,ha,w2,w3,hp,hp2,As]
  |false=>
   cases hb:decide (65<=c)&&decide (c<=70)with
   |true=>
    have hb2:=hb;simp only[Ah,decide_eq_true_eq]at hb2;have hp:¬(c-65+10<0):=om;have hp2:0<=c-65+10:=om
    simp only[go_sem,JQi,Tryz.f112,f95,hd,ha,hb,w4,w5,hp,hp2,As]
   |false=>simp only[go_sem,JQi,Tryz.f112,f95,hd,ha,hb,As]
section
variable{lo i:Nat}{l:List Int}{p q:List Ob}
theorem f43{k:Nat}(hi:i+k<=1000000000000):E lo 43 [.ptr p.length 0,.v (.int .i64 k)] (p++R l i::q)=some (.v (.int .i32 (chr (suf l i) k)),p++R l i::q):=by
 have hw:Ak.wrap ((i:Int)+k)=((i+k:Nat):Int):=by rw[JL om om];omega
 rw[e43,Gb];by_cases hl:i+k<l.length
 ·have hx:l[i+k]? =some l[i+k]:=Ad hl
  have hd:decide ((l.length:Int)<=(i+k:Nat))=false:=by simp;omega
  rw[hx];generalize l[i+k]=x at hx;have hsc:=qC x
  cases hs:isc x with
  |true=>
   have:KQ x=x:=by rw[<-hsc,hs];rfl
   simp only[go_sem,b43,Tryz.f43,hw,hd,hx,f69,hs,this]
  |false=>
   have:KQ x=65533:=by rw[<-hsc,hs];rfl
   simp only[go_sem,b43,Tryz.f43,hw,hd,hx,f69,hs,this]
 ·have hx:l[i+k]? =none:=Bi om
  have hd:decide ((l.length:Int)<=(i+k:Nat))=true:=by simp;omega
  rw[hx];simp only[go_sem,b43,Tryz.f43,hw,hd,hx]
theorem JmW{lo:Nat}{l:List Int}{h:Heap}(hl:l.length<=35184372088832):E lo 99 [.list .no (ri .i32 l)] h=some (.list .no (ri .u8 (Q2 l)),h):=f99 hl
theorem f80{lo:Nat}{l:List Int}{h:Heap}(hl:l.length<=35184372088832):E lo 80 [.list .no (ri .i32 l)] h=some (.v (.string (str l)),h):=by rw[e80];simp only[go_sem,b80,Tryz.f80,JmW hl];rfl
theorem JZG(hl:l.length<=100000000000):∀(n i:Nat),l.length-i<=n->i<=l.length->
  ∃j,j<=l.length/\i<=j/\suf l j=Kb (suf l i)/\
   ∀lo (p q:List Ob),lo<=p.length->JA (evCode ⟨Aa,E,lo,p.length+(q.length+1),h71⟩ JA JDi) ([(0,.ptr p.length 0)],p++R l i::q)=some (.exit 0,[(0,.ptr p.length 0),(4,.v (.bool false))],p++R l j::q):=by
 intro n
 induction n with
 |zero=>
  intro i h1 h2;obtain rfl:i=l.length:=om;have k0:=λlo p q=>f43 (lo:=lo) (l:=l) (i:=l.length) (p:=p) (q:=q) (k:=0) om
  have hs:suf l l.length=[]:=JV (Ac _);simp only[n0,hs,Jw]at k0;refine⟨l.length,Ac _,Ac _,by rw[hs];rfl,λlo p q hlo=>?_⟩
  rw[JB]
  simp only[go_sem,JDi,b71,Tryz.f71,k0,f70,JJW]
 |succ n ih=>
  intro i h1 h2;have k0:=λlo p q=>f43 (lo:=lo) (l:=l) (i:=i) (p:=p) (q:=q) (k:=0) om
  simp only[n0]at k0;have hw:=JD (i:=i) om
  cases hb:blk (chr (suf l i) 0)with
  |false=>
   refine⟨i,h2,Ac _,?_,λlo p q hlo=>?_⟩
   ·by_cases hi:i<l.length
    ·rw[Jb hi]at hb⊢
     exact(List.dropWhile_cons_of_neg (by simpa[chr]using hb)).symm
    ·rw[JV om];rfl
   ·rw[JB]
    simp only[go_sem,JDi,b71,Tryz.f71,k0,f70,hb]
  |true=>
   have hi:i<l.length:=by
    rcases Ax i l.length with h|h
    ·exact h
    ·rw[JV h]at hb;exact absurd hb (by decide)
   obtain⟨j,j1,j2,j3,j4⟩:=ih (i+1) om om;refine⟨j,j1,om,?_,λlo p q hlo=>?_⟩
   ·rw[j3,Jb hi]
    exact(List.dropWhile_cons_of_pos (by simpa using hb)).symm
   ·rw[JB]
    have e:evCode ⟨Aa,E,lo,p.length+(q.length+1),h71⟩ JA JDi ([(0,.ptr p.length 0)],p++R l i::q)=some (.normal,[(0,.ptr p.length 0)],p++R l (i+1)::q):=by simp only[go_sem,JDi,b71,Tryz.f71,k0,f70,hb,hw,hlo]
    rw[e,JK];exact j4 lo p q hlo
theorem f71(hl:l.length<=100000000000)(hi:i<=l.length):∃j,j<=l.length/\i<=j/\suf l j=Kb (suf l i)/\
  ∀lo p q,lo<=p.length->E lo 71 [.ptr p.length 0] (p++R l i::q)=some (.tup [],p++R l j::q):=by
 obtain⟨j,j1,j2,j3,j4⟩:=JZG (l:=l) hl l.length i om hi;refine⟨j,j1,j2,j3,λlo p q hlo=>?_⟩
 have hL:=j4 lo p q hlo;rw[e71];simp only[JDi,b71,Tryz.f71,JG,JT,JC,go_sem]at hL;simp only[go_sem,b71,Tryz.f71,hL]
theorem JZH(hl:l.length<=100000000000):∀(n k i:Nat) (v:Int),n+k=6->i<=l.length->0<=v->v<16^k->
  ∃(j:Nat) (t x:Int) (b:Bool),j<=l.length/\i<=j/\suf l j=(QR n v (suf l i)).2/\0<=(QR n v (suf l i)).1/\(QR n v (suf l i)).1<16777216/\
   ∀lo (p q:List Ob),lo<=p.length->JA (evCode ⟨Aa,E,lo,p.length+(q.length+1),h93⟩ JA JBa)
    ([(0,.ptr p.length 0),(3,.v (.int .i32 (if hex (chr (suf l i) 0)<0 then 0 else hex (chr (suf l i) 0)))),(4,.v (.bool (decide (0<=hex (chr (suf l i) 0))))),(6,.v (.int .i32 v)),(7,.v (.int .i64 k))],p++R l i::q)=
    some (.exit 0,[(0,.ptr p.length 0),(3,.v (.int .i32 x)),(6,.v (.int .i32 (QR n v (suf l i)).1)),(7,.v (.int .i64 t)),(32,.v (.bool false))],p++R l j::q):=by
 intro n
 induction n with
 |zero=>
  intro k i v hk hi h0 h1;obtain rfl:k=6:=om;refine⟨i,6,(if hex (chr (suf l i) 0)<0 then 0 else hex (chr (suf l i) 0)),false,hi,Ac _,rfl,h0,by simpa[QR]using h1,λlo p q hlo=>?_⟩
  have n6:((6:Nat):Int)=6:=rfl;rw[JB];simp only[n6]
  simp only[go_sem,JBa,b93,Tryz.f93,QR]
 |succ n ih=>
  intro k i v hk hi h0 h1;have hd:decide ((k:Int)<6)=true:=by simp;omega
  have hw:=JD (i:=k) om;have hwi:=JD (i:=i) om
  have hp:(16:Int)^k<=1048576:=by have:k=0\/k=1\/k=2\/k=3\/k=4\/k=5:=om;rcases this with h|h|h|h|h|h<;>rw[h]<;>decide
  have hup:=JQx (chr (suf l i) 0);by_cases hx:hex (chr (suf l i) 0)<0
  ·have hd2:decide (0<=hex (chr (suf l i) 0))=false:=by simp;omega
   have e1:QR (n+1) v (suf l i)=(v,suf l i):=by
    by_cases hi':i<l.length
    ·rw[Jb hi']at hx⊢
     simp only[QR];rw[if_pos (by simpa[chr]using hx)]
    ·rw[JV om];rfl
   rw[e1,if_pos hx];refine⟨i,k,0,false,hi,Ac _,rfl,h0,by simp only;omega,λlo p q hlo=>?_⟩
   rw[JB];simp only[go_sem,JBa,b93,Tryz.f93,hd,hd2]
  ·have hd2:decide (0<=hex (chr (suf l i) 0))=true:=by simp;omega
   have hi':i<l.length:=by
    rcases Ax i l.length with h|h
    ·exact h
    ·rw[JV h,Jw,qB]at hx;omega
   have e1:QR (n+1) v (suf l i)=QR n (v*16+hex (chr (suf l i) 0)) (suf l (i+1)):=by
    rw[Jb hi']at hx;rw[Jb hi'];simp only[QR];rw[if_neg (by simpa[chr]using hx)]
    simp[chr]
   have w1:Az.wrap (v*16)=v*16:=wrap_i32 om om;have w2:Az.wrap (v*16+hex (chr (suf l i) 0))=v*16+hex (chr (suf l i) 0):=wrap_i32 om om;have hpow:(16:Int)^ (k+1)=16^k*16:=Int.pow_succ ..;obtain⟨j,t,x,b,j1,j2,j3,j4,j5,j6⟩:=ih (k+1) (i+1) (v*16+hex (chr (suf l i) 0)) om om om (by rw[hpow];omega)
   have k0:=λlo p q=>f43 (lo:=lo) (l:=l) (i:=i+1) (p:=p) (q:=q) (k:=0) om
   have hc:=JGs l (i+1) 0;have kh:=λlo h=>f112 (lo:=lo) (h:=h) hc.1 hc.2
   simp only[n0,JUQ]at k0 kh;rw[e1,if_neg hx];refine⟨j,t,x,b,j1,om,j3,j4,j5,λlo p q hlo=>?_⟩
   have e:evCode ⟨Aa,E,lo,p.length+(q.length+1),h93⟩ JA JBa ([(0,.ptr p.length 0),(3,.v (.int .i32 (hex (chr (suf l i) 0)))),(4,.v (.bool (decide (0<=hex (chr (suf l i) 0))))),(6,.v (.int .i32 v)),(7,.v (.int .i64 k))],p++R l i::q)=
     some (.normal,[(0,.ptr p.length 0),(3,.v (.int .i32 (if hex (chr (suf l (i+1)) 0)<0 then 0 else hex (chr (suf l (i+1)) 0)))),(4,.v (.bool (decide (0<=hex (chr (suf l (i+1)) 0))))),(6,.v (.int .i32 (v*16+hex (chr (suf l i) 0)))),(7,.v (.int .i64 (k+1:Nat)))],p++R l (i+1)::q):=by
    simp only[go_sem,JBa,b93,Tryz.f93,hd,k0,kh,hd2,w1,w2,hw,hwi,hlo]
   rw[JB,e,JK];exact j6 lo p q hlo
end
def Z6:List Int->List Int
 |[]=>[]
 |[_]=>[]
 |c::d::t=>if c=42/\d=47 then c::d::t else Z6 (d::t)
theorem zw:∀s:List Int,G9 s=(Z6 s).drop 2
 |[]=>rfl
 |[_]=>rfl
 |c::d::t=>by
  unfold G9 Z6
  split
  ·rfl
  ·exact zw (d::t)
theorem JBp:∀s:List Int,Z6 s=[]\/ ∃t,Z6 s=42::47::t
 |[]=> .inl rfl
 |[_]=> .inl rfl
 |c::d::t=>by
  unfold Z6
  split
  ·rename_i h;obtain⟨rfl,rfl⟩:=h;exact .inr ⟨t,rfl⟩
  ·exact JBp (d::t)
section
variable{lo i:Nat}{l:List Int}{p q:List Ob}
theorem JUR(l:List Int)(i:Nat)(k:Nat):(chr (suf l i) k== -1)=decide (l.length<=i+k):=by
 rw[Gb];rcases Ax (i+k) l.length with h|h
 ·rw[Ad h]
  have:=ZQ l[i+k];have h1:¬l.length<=i+k:=om;simp only[h1,decide_false,beq_eq_false_iff_ne,ne_eq];omega
 ·rw[Bi h]
  simp[h]
theorem JOK(hlo:lo<=p.length)(hl:l.length<=100000000000):∀(n i:Nat),l.length-i<=n->i<=l.length->
  ∃j,j<=l.length/\i<=j/\suf l j=Z6 (suf l i)/\
   JA (evCode ⟨Aa,E,lo,(p++R l i::q).length,h31⟩ JA JBO) ([(0,.ptr p.length 0)],p++R l i::q)=some (.exit 2,[(0,.ptr p.length 0),(20,.v (.bool false))],p++R l j::q):=by
 intro n
 induction n with
 |zero=>
  intro i h1 h2;obtain rfl:i=l.length:=om;have k0:=λlo p q=>f32 (lo:=lo) (l:=l) (i:=l.length) (p:=p) (q:=q) (k:=0) om
  have hs:suf l l.length=[]:=JV (Ac _);simp only[n0,hs,Jw]at k0;refine⟨l.length,Ac _,Ac _,by rw[hs];rfl,?_⟩
  have hne:((-1:Int) != -1)=false:=rfl;rw[JB]
  simp only[go_sem,JBO,b31,Tryz.f31,k0,hne]
 |succ n ih=>
  intro i h1 h2;rcases Ax i l.length with hi|hi
  ·have k0:=λlo p q=>f32 (lo:=lo) (l:=l) (i:=i) (p:=p) (q:=q) (k:=0) om
   have ks:=λlo p q=>f49 (lo:=lo) (l:=l) (i:=i) (p:=p) (q:=q) (cs:=[42,47]) (by simp;omega)
   simp only[n0,Ka,J4]at k0 ks;have hw:=JD (i:=i) om
   have hne:(chr (suf l i) 0 != -1)=true:=by have:=JUR l i 0;simp only[bne,this];simp;omega
   cases hx:isN (suf l i) 0 [42,47]with
   |true=>
    refine⟨i,h2,Ac _,?_,?_⟩
    ·have h3:=Jb hi
     simp only[isN,Cq,Ah,beq_iff_eq]at hx;rw[h3]at hx⊢;rw[QP,Kl]at hx;rcases Ax (i+1) l.length with hi2|hi2
     ·have h4:=Jb hi2
      rw[h4]at hx⊢;rw[QP]at hx;unfold Z6;rw[if_pos ⟨by simpa using hx.1,by simpa using hx.2⟩]
     ·rw[JV hi2,Jw]at hx
      omega
    ·rw[JB]
     simp only[go_sem,JBO,b31,Tryz.f31,k0,ks,hne,hx]
   |false=>
    obtain⟨j,j1,j2,j3,j4⟩:=ih (i+1) om om;refine⟨j,j1,om,?_,?_⟩
    ·rw[j3]
     have h3:=Jb hi;simp only[isN,Cq,Bool.and_eq_false_iff,beq_eq_false_iff_ne,ne_eq]at hx;rw[h3]at hx⊢;rw[QP,Kl]at hx;rcases Ax (i+1) l.length with hi2|hi2
     ·have h4:=Jb hi2
      rw[h4]at hx⊢;rw[QP]at hx
      conv=>rhs;unfold Z6
      rw[if_neg (by intro⟨a,b⟩;rcases hx with h|h;exact h a;exact h b)]
     ·rw[JV hi2]
      rfl
    ·have e:evCode ⟨Aa,E,lo,(p++R l i::q).length,h31⟩ JA JBO ([(0,.ptr p.length 0)],p++R l i::q)=some (.normal,[(0,.ptr p.length 0)],p++R l (i+1)::q):=by
      simp only[go_sem,JBO,b31,Tryz.f31,k0,ks,hne,hx,hw,hlo]
     rw[JB,e,JK];simp only[G6,ZO]at j4⊢;exact j4
  ·obtain rfl:i=l.length:=om
   have k0:=λlo p q=>f32 (lo:=lo) (l:=l) (i:=l.length) (p:=p) (q:=q) (k:=0) om
   have hs:suf l l.length=[]:=JV (Ac _);simp only[n0,hs,Jw]at k0;refine⟨l.length,Ac _,Ac _,by rw[hs];rfl,?_⟩
   have hne:((-1:Int) != -1)=false:=rfl;rw[JB];simp only[go_sem,JBO,b31,Tryz.f31,k0,hne]
theorem JUS(s:List Int)(a b:Int)(h:isN s 0 [a,b]=true)(ha:a≠ -1)(hb:b≠ -1):∃t,s=a::b::t:=by
 simp only[isN,Cq,Ah,beq_iff_eq]at h
 match s,h with
 |[],h=>rw[Jw]at h;exact absurd h.1.symm ha
 |[c],h=>rw[Kl,Jw]at h;exact absurd h.2.symm hb
 |c::d::t,h=>rw[QP,Kl,QP]at h;exact⟨t,by rw[h.1,h.2]⟩
theorem JQ3(a b:Int)(t:List Int):isN (a::b::t) 0 [a,b]=true:=by simp[isN,QP,Kl]
theorem JGt(l:List Int)(i:Nat)(a b:Int)(t:List Int)(h:suf l i=a::b::t):suf l (i+2)=t/\i+2<=l.length:=by
 have h1:suf l (i+2)=(suf l i).drop 2:=by simp[suf,AC]
 have h2:=Jv l i;rw[h,Ag,Ag]at h2;exact⟨by rw[h1,h];rfl,om⟩
theorem JQ4(hlo:lo<=p.length)(hl:l.length<=100000000000):∀(m i:Nat) (ex:Ja),(ex=[]\/ ∃b,ex=[(30,.v (.bool b))])->(suf l i).length<=m->i<=l.length->
  ∃j,j<=l.length/\i<=j/\suf l j=Z1 m (suf l i)/\
   JA (evCode ⟨Aa,E,lo,(p++R l i::q).length,h31⟩ JA HO) ((0,.ptr p.length 0)::ex,p++R l i::q)=some (.exit 0,[(0,.ptr p.length 0),(4,.v (.bool false))],p++R l j::q):=by
 have stop:∀(m i:Nat) (ex:Ja),(ex=[]\/ ∃b,ex=[(30,.v (.bool b))])->i<=l.length->isN (suf l i) 0 [47,42]=false->
  ∃j,j<=l.length/\i<=j/\suf l j=Z1 m (suf l i)/\
   JA (evCode ⟨Aa,E,lo,(p++R l i::q).length,h31⟩ JA HO) ((0,.ptr p.length 0)::ex,p++R l i::q)=some (.exit 0,[(0,.ptr p.length 0),(4,.v (.bool false))],p++R l j::q):=by
  intro m i ex hex h2 hx;have ks:=λlo p q=>f49 (lo:=lo) (l:=l) (i:=i) (p:=p) (q:=q) (cs:=[47,42]) (by simp;omega)
  simp only[Ka,J4]at ks;refine⟨i,h2,Ac _,?_,?_⟩
  ·cases m with
   |zero=>rfl
   |succ m=>
    match hs:suf l i with
    |[]=>rfl
    |[c]=>rfl
    |c::d::t=>
     simp only[Z1];rw[if_neg]
     rintro⟨rfl,rfl⟩
     rw[hs,JQ3]at hx;simp at hx
  ·rw[JB]
   rcases hex with rfl|⟨b,rfl⟩
   ·simp only[go_sem,HO,b31,Tryz.f31,ks,hx]
   ·simp only[go_sem,HO,b31,Tryz.f31,ks,hx]
 intro m
 induction m with
 |zero=>
  intro i ex hex h1 h2;have hs:suf l i=[]:=Au om
  exact stop 0 i ex hex h2 (by rw[hs];decide)
 |succ m ih=>
  intro i ex hex h1 h2
  cases hx:isN (suf l i) 0 [47,42]with
  |false=>exact stop (m+1) i ex hex h2 hx
  |true=>
   obtain⟨t,hs⟩:=JUS _ _ _ hx (by decide) (by decide)
   obtain⟨ht,hi2⟩:=JGt l i _ _ _ hs;have ks:=λlo p q=>f49 (lo:=lo) (l:=l) (i:=i) (p:=p) (q:=q) (cs:=[47,42]) (by simp;omega)
   simp only[Ka,J4]at ks;obtain⟨j,j1,j2,j3,hL⟩:=JOK (lo:=lo) (p:=p) (q:=q) hlo hl l.length (i+2) om hi2;have kj:=λlo p q=>f32 (lo:=lo) (l:=l) (i:=j) (p:=p) (q:=q) (k:=0) om
   simp only[n0]at kj;have hw:Ak.wrap ((i:Int)+2)=((i+2:Nat):Int):=by rw[JL om om];omega
   have hw2:Ak.wrap ((j:Int)+2)=((j+2:Nat):Int):=by rw[JL om om];omega
   simp only[JBO,b31,Tryz.f31,JG,JT,JC,go_sem]at hL;rw[ht]at j3;rcases JBp t with hn|⟨u,hn⟩
   ·-- no end
    have hj:suf l j=[]:=by rw[j3,hn]
    have hne:(chr (suf l j) 0 != -1)=false:=by rw[hj,Jw];rfl
    have e:evCode ⟨Aa,E,lo,(p++R l i::q).length,h31⟩ JA HO ((0,.ptr p.length 0)::ex,p++R l i::q)=some (.normal,[(0,.ptr p.length 0),(30,.v (.bool false))],p++R l j::q):=by
     rcases hex with rfl|⟨b,rfl⟩
     ·simp only[go_sem,HO,b31,Tryz.f31,ks,hx,hw,hlo,hL,kj,hne]
     ·simp only[go_sem,HO,b31,Tryz.f31,ks,hx,hw,hlo,hL,kj,hne]
    have hlen:(suf l j).length<=m:=by rw[hj];simp
    obtain⟨z,z1,z2,z3,z4⟩:=ih j [(30,.v (.bool false))] (.inr ⟨_,rfl⟩) hlen j1;refine⟨z,z1,om,?_,?_⟩
    ·rw[z3,hs]
     rw[show Z1 (m+1) (47::42::t)=Z1 m (G9 t)by simp[Z1],zw,hn,hj]
     rfl
    ·rw[JB,e,JK]
     simp only[G6,ZO]at z4⊢;exact z4
   ·have hj:suf l j=42::47::u:=by rw[j3,hn]
    obtain⟨hu,hj2⟩:=JGt l j _ _ _ hj;have hne:(chr (suf l j) 0 != -1)=true:=by rw[hj,QP];rfl
    have e:evCode ⟨Aa,E,lo,(p++R l i::q).length,h31⟩ JA HO ((0,.ptr p.length 0)::ex,p++R l i::q)=some (.normal,[(0,.ptr p.length 0)],p++R l (j+2)::q):=by
     rcases hex with rfl|⟨b,rfl⟩
     ·simp only[go_sem,HO,b31,Tryz.f31,ks,hx,hw,hw2,hlo,hL,kj,hne]
     ·simp only[go_sem,HO,b31,Tryz.f31,ks,hx,hw,hw2,hlo,hL,kj,hne]
    have hlen:(suf l (j+2)).length<=m:=by rw[Jv]at h1⊢;omega
    obtain⟨z,z1,z2,z3,z4⟩:=ih (j+2) [] (.inl rfl) hlen hj2;refine⟨z,z1,om,?_,?_⟩
    ·rw[z3,hs]
     rw[show Z1 (m+1) (47::42::t)=Z1 m (G9 t)by simp[Z1],zw,hn,hu]
     rfl
    ·rw[JB,e,JK]
     simp only[G6,ZO]at z4⊢;exact z4
theorem f31(hl:l.length<=100000000000)(hi:i<=l.length):∃j,j<=l.length/\i<=j/\suf l j=Y9 (suf l i)/\
  ∀lo p q,lo<=p.length->E lo 31 [.ptr p.length 0] (p++R l i::q)=some (.tup [],p++R l j::q):=by
 obtain⟨j,j1,j2,j3,_⟩:=JQ4 (lo:=0) (p:=[]) (q:=[]) (l:=l) (Ac _) hl (suf l i).length i [] (.inl rfl) (Ac _) hi;refine⟨j,j1,j2,j3,λlo p q hlo=>?_⟩
 obtain⟨j',j1',_,j3',hL⟩:=JQ4 (lo:=lo) (p:=p) (q:=q) (l:=l) hlo hl (suf l i).length i [] (.inl rfl) (Ac _) hi;obtain rfl:j'=j:=Gc j1' j1 (by rw[j3',j3])
 rw[e31];simp only[HO,b31,Tryz.f31,JG,JT,JC,go_sem]at hL;simp only[go_sem,b31,Tryz.f31,hL]
end
def tokC(k:Int)(t:List Int):List V:=[.v (.int .i64 k),.v (.string (str t)),.v (.int .i64 0),.v (.int .i64 0),.v (.bool false),.v (.bool false)]
theorem str_nil:str []=ByteArray.empty:=rfl
theorem Z7(sign:Int)(m:Nat):KC sign m []=(true,[],[]):=by cases m<;>rfl
theorem Qa{l:List Int}{i:Nat}(hi:i<l.length):0<=chr (suf l i) 0:=by
 rw[Gb,Bl,Ad hi]
 exact(ZQ _).1
section
variable{lo i:Nat}{l:List Int}{p q:List Ob}
abbrev B59(lo:Nat)(p q:List Ob)(l:List Int)(i:Nat)(sign:Int)(out:List Int):Ja×Heap:=
 ([(0,.ptr p.length 0),(2,.ptr (p.length+(q.length+1)) 0),(3,.v (.int .i32 sign)),(4,.list .yes (ri .i32 out))],p++R l i::(q++[.cells (tokC 0 [])]))
theorem JQ6{sign:Int}(hlo:lo<=p.length)(hlo2:lo<=p.length+(q.length+1))(hl:l.length<=100000000000)(hsg:quo sign=true):∀(m i:Nat) (out:List Int),(suf l i).length<=m->i<=l.length->out.length<=i->
  ∃j,j<=l.length/\i<=j/\suf l j=(KC sign m (suf l i)).2.2/\
   JA (evCode ⟨Aa,E,lo,p.length+(q.length+1),h52⟩ JA ZS) (B59 lo p q l i sign out)=
    some (.ret,[(2,.ptr (p.length+(q.length+1)) 0)],p++R l j::(q++[.cells (if(KC sign m (suf l i)).1=true then tokC 5 (out++(KC sign m (suf l i)).2.1)else tokC 6 [])])):=by
 have stop:∀(m i:Nat) (out:List Int),suf l i=[]->i<=l.length->out.length<=i->
   ∃j,j<=l.length/\i<=j/\suf l j=(KC sign m (suf l i)).2.2/\
   JA (evCode ⟨Aa,E,lo,p.length+(q.length+1),h52⟩ JA ZS) (B59 lo p q l i sign out)=
    some (.ret,[(2,.ptr (p.length+(q.length+1)) 0)],p++R l j::(q++[.cells (if(KC sign m (suf l i)).1=true then tokC 5 (out++(KC sign m (suf l i)).2.1)else tokC 6 [])])):=by
  intro m i out hs h2 h3;have k0:=λlo p q=>f32 (lo:=lo) (l:=l) (i:=i) (p:=p) (q:=q) (k:=0) om
  have kf:=λlo h=>JOJ (lo:=lo) (l:=out) (h:=h) om
  simp only[n0,hs,Jw]at k0;refine⟨i,h2,Ac _,by rw[hs,Z7],?_⟩
  have t0:((-1:Int)==10)=false:=rfl;have t1:((-1:Int)== -1)=true:=rfl;rw[hs,Z7,if_pos rfl,Aq,JB];simp only[go_sem,ZS,b52,Tryz.f52,k0,kf,t0,t1,hlo2,tokC];rfl
 intro m
 induction m with
 |zero=>
  intro i out h1 h2 h3
  exact stop 0 i out (Au om) h2 h3
 |succ m ih=>
  intro i out h1 h2 h3;rcases Ax i l.length with hi|hi
  rotate_left
  ·exact stop (m+1) i out (JV hi) h2 h3
  have hcp:=Qa hi;have k0:=λlo p q=>f32 (lo:=lo) (l:=l) (i:=i) (p:=p) (q:=q) (k:=0) om
  have k1:=λlo p q=>f32 (lo:=lo) (l:=l) (i:=i) (p:=p) (q:=q) (k:=1) om
  have kt:=λlo p q h=>f63 (lo:=lo) (l:=l) (i:=i) (p:=p) (q:=q) h om
  have kf:=λlo h=>JOJ (lo:=lo) (l:=out) (h:=h) om
  have hr:∀k,k<=4->(out.length+k)*4<=140737488355328:=by intro k hk;omega
  have hq:∀k,9223372036854775800<=k->out.length<=k:=by intro k hk;omega
  have app:∀y:Int,ri .i32 out++[[V.v (.int .i32 y)]]=ri .i32 (out++[y]):=by intro y;rw[<-ri_app];rfl
  have hw1:=JD (i:=i) om;have hw2:Ak.wrap ((i:Int)+2)=((i+2:Nat):Int):=by rw[JL om om];omega
  have n1:((1:Nat):Int)=1:=rfl;simp only[n0,n1]at k0 k1;have hs:=Jb hi;have hn:chr (suf l i) 1=chr (suf l (i+1)) 0:=by rw[hs];exact Kl _ _ 0
  rw[hn]at k1;generalize chr (suf l i) 0=c at hs k0 kt hcp;rw[hs]at h1⊢;simp only[Ag]at h1;have te:(c== -1)=false:=by simp;omega
  by_cases c10:c=10
  ·subst c10
   have t0:((10:Int)==10)=true:=rfl;have e:KC sign (m+1) (10::suf l (i+1))=(false,[],10::suf l (i+1)):=by simp[KC]
   refine⟨i,h2,Ac _,by rw[e,hs],?_⟩
   rw[e,if_neg (by simp),JB]
   simp only[go_sem,ZS,b52,Tryz.f52,k0,t0,hlo2,tokC];rfl
  have t0:(c==10)=false:=by simp[c10]
  by_cases csg:c=sign
  ·subst csg
   have t1:(c==c)=true:=by simp
   have e:KC c (m+1) (c::suf l (i+1))=(true,[],suf l (i+1)):=by simp[KC,c10]
   refine⟨i+1,om,om,by rw[e],?_⟩
   rw[e,if_pos rfl,Aq,JB];simp only[go_sem,ZS,b52,Tryz.f52,k0,t0,te,t1,hlo,hlo2,hw1,kf,tokC];rfl
  have t1:(c==sign)=false:=by simp[csg]
  by_cases c92:c=92
  ·subst c92
   have t2:((92:Int)==92)=true:=rfl;rcases Ax (i+1) l.length with hi2|hi2
   ·have hs2:=Jb hi2
    have hdp:=Qa hi2;by_cases d10:chr (suf l (i+1)) 0=10
    ·rw[d10]at hs2 k1
     have t3:((10:Int)== -1)=false:=rfl;have t4:((10:Int)==10)=true:=rfl;have hmin:¬((l.length:Int)<((i+2:Nat):Int)):=om
     have e:KC sign (m+1) (92::suf l (i+1))=KC sign m (suf l (i+2)):=by rw[hs2];simp only[KC];rw[if_neg c10,if_neg csg];simp
     obtain⟨j,j1,j2,j3,j4⟩:=ih (i+2) out (by rw[Jv]at h1⊢;omega) om om
     refine⟨j,j1,om,by rw[j3,e],?_⟩
     have er:evCode ⟨Aa,E,lo,p.length+(q.length+1),h52⟩ JA ZS (B59 lo p q l i sign out)=some (.normal,B59 lo p q l (i+2) sign out):=by simp only[go_sem,ZS,b52,Tryz.f52,k0,k1,t0,te,t1,t2,t3,t4,hlo,hw2,hmin,tokC];rfl
     rw[JB,er,JK,e];exact j4
    ·have t3:(chr (suf l (i+1)) 0== -1)=false:=by simp;omega
     have t4:(chr (suf l (i+1)) 0==10)=false:=by simp[d10]
     obtain⟨j0,a1,a2,a3,a4⟩:=f86 (l:=l) (i:=i+1) hl om
     have e:KC sign (m+1) (92::suf l (i+1))=((KC sign m (KD (suf l (i+1))).2).1,(KD (suf l (i+1))).1::(KC sign m (KD (suf l (i+1))).2).2.1,(KC sign m (KD (suf l (i+1))).2).2.2):=by generalize hd:chr (suf l (i+1)) 0=d at hs2 d10;rw[hs2];simp only[KC];rw[if_neg c10,if_neg csg];simp[d10]
     obtain⟨j,j1,j2,j3,j4⟩:=ih j0 (out++[(KD (suf l (i+1))).1]) (by rw[Jv]at h1⊢;omega) a1 (by simp;omega)
     refine⟨j,j1,om,by rw[j3,e,a3],?_⟩
     have er:evCode ⟨Aa,E,lo,p.length+(q.length+1),h52⟩ JA ZS (B59 lo p q l i sign out)=some (.normal,B59 lo p q l j0 sign (out++[(KD (suf l (i+1))).1])):=by simp only[go_sem,ZS,b52,Tryz.f52,k0,k1,t0,te,t1,t2,t3,t4,hlo,hw1,a4 _ _ _ hlo,hr,hq,app,and_self,tokC];rfl
     rw[JB,er,JK,j4,e,a3,Aw];rfl
   ·have hs2:suf l (i+1)=[]:=JV hi2
    rw[hs2,Jw]at k1;have t3:((-1:Int)== -1)=true:=rfl;have hmin:((l.length:Int)<((i+2:Nat):Int)):=om
    have e:KC sign (m+1) (92::suf l (i+1))=(true,[],[]):=by rw[hs2];simp only[KC];rw[if_neg c10,if_neg csg];simp
    obtain⟨j,j1,j2,j3,j4⟩:=stop m l.length out (JV (Ac _)) (Ac _) om;rw[JV (Ac _),Z7]at j3 j4;refine⟨j,j1,om,by rw[j3,e],?_⟩
    have er:evCode ⟨Aa,E,lo,p.length+(q.length+1),h52⟩ JA ZS (B59 lo p q l i sign out)=some (.normal,B59 lo p q l l.length sign out):=by simp only[go_sem,ZS,b52,Tryz.f52,k0,k1,t0,te,t1,t2,t3,hlo,hw2,hmin,tokC];rfl
    rw[JB,er,JK,e];exact j4
  ·have t2:(c==92)=false:=by simp[c92]
   have e:KC sign (m+1) (c::suf l (i+1))=((KC sign m (suf l (i+1))).1,c::(KC sign m (suf l (i+1))).2.1,(KC sign m (suf l (i+1))).2.2):=by simp only[KC];rw[if_neg c10,if_neg csg,if_neg c92]
   obtain⟨j,j1,j2,j3,j4⟩:=ih (i+1) (out++[c]) om om (by simp;omega)
   refine⟨j,j1,om,by rw[j3,e],?_⟩
   have er:evCode ⟨Aa,E,lo,p.length+(q.length+1),h52⟩ JA ZS (B59 lo p q l i sign out)=some (.normal,B59 lo p q l (i+1) sign (out++[c])):=by simp only[go_sem,ZS,b52,Tryz.f52,k0,t0,te,t1,t2,hlo,kt _ _ _ hlo,hr,hq,app,and_self,tokC];rfl
   rw[JB,er,JK,j4,e,Aw];rfl
theorem f52{sign:Int}{t:List Int}(hl:l.length<=100000000000)(hi:i<l.length)(hsg:quo sign=true)(hs:suf l i=sign::t):∃j,j<=l.length/\i<j/\suf l j=(txt sign t).2.2/\
  ∀lo p q,lo<=p.length->E lo 52 [.ptr p.length 0] (p++R l i::q)=some (.agg (if(txt sign t).1=true then tokC 5 (txt sign t).2.1 else tokC 6 []),p++R l j::q):=by
 have ht:suf l (i+1)=t:=by have:=Jb hi;rw[hs]at this;simp only[List.cons.injEq]at this;exact this.2.symm
 have hc:chr (suf l i) 0=sign:=by rw[hs];rfl
 obtain⟨j,j1,j2,j3,_⟩:=JQ6 (lo:=0) (p:=[]) (q:=[]) (l:=l) (Ac _) (A0 _) hl hsg t.length (i+1) [] (by rw[ht];exact Ac _) om (by simp)
 rw[ht]at j3;refine⟨j,j1,om,j3,λlo p q hlo=>?_⟩
 have hlo2:lo<=p.length+(q.length+1):=om;obtain⟨j',j1',_,j3',hL⟩:=JQ6 (lo:=lo) (p:=p) (q:=q) (l:=l) hlo hlo2 hl hsg t.length (i+1) [] (by rw[ht];exact Ac _) om (by simp)
 rw[ht]at j3' hL;obtain rfl:j'=j:=Gc j1' j1 (by rw[j3',j3])
 have kt:=λlo p q h=>f63 (lo:=lo) (l:=l) (i:=i) (p:=p) (q:=q) h om
 rw[hc]at kt;rw[e52];simp only[B59,tokC,ZS,b52,Tryz.f52,JG,JT,JC,go_sem,J4,str_nil]at hL;simp only[go_sem,b52,Tryz.f52,kt _ _ _ hlo,hL];unfold txt;cases(KC sign t.length t).1<;>rfl
end
section
variable{lo i:Nat}{l:List Int}{p q:List Ob}
theorem JJY(m:Nat):YH m []=[]:=by cases m<;>rfl
theorem qD(s:List Int)(a:Int):isN s 0 [a]=(chr s 0==a):=by simp[isN]
theorem JMX(hlo:lo<=p.length)(hlo2:lo<=p.length+(q.length+1))(hl:l.length<=100000000000):∀(m i:Nat) (ex:Ja),(ex=[]\/ ∃b,ex=[(35,.v (.bool b))])->(suf l i).length<=m->i<=l.length->
  ∃j,j<=l.length/\i<=j/\suf l j=YH m (suf l i)/\
   JA (evCode ⟨Aa,E,lo,p.length+(q.length+1),JN6⟩ JA Ww) ((0,.ptr p.length 0)::(2,.ptr (p.length+(q.length+1)) 0)::ex,p++R l i::(q++[.cells (tokC 0 [])]))=
    some (.ret,[(2,.ptr (p.length+(q.length+1)) 0)],p++R l j::(q++[.cells (tokC 8 [])])):=by
 have stop:∀(m i:Nat) (ex:Ja),(ex=[]\/ ∃b,ex=[(35,.v (.bool b))])->suf l i=[]->i<=l.length->
  ∃j,j<=l.length/\i<=j/\suf l j=YH m (suf l i)/\
   JA (evCode ⟨Aa,E,lo,p.length+(q.length+1),JN6⟩ JA Ww) ((0,.ptr p.length 0)::(2,.ptr (p.length+(q.length+1)) 0)::ex,p++R l i::(q++[.cells (tokC 0 [])]))=
    some (.ret,[(2,.ptr (p.length+(q.length+1)) 0)],p++R l j::(q++[.cells (tokC 8 [])])):=by
  intro m i ex hex hs h2;have k0:=λlo p q=>f32 (lo:=lo) (l:=l) (i:=i) (p:=p) (q:=q) (k:=0) om
  simp only[n0,hs,Jw]at k0;refine⟨i,h2,Ac _,by rw[hs,JJY],?_⟩
  have t1:((-1:Int)== -1)=true:=rfl;rw[JB];rcases hex with rfl|⟨b,rfl⟩
  ·simp only[go_sem,Ww,zY,Tryz.f110,k0,t1,hlo2,tokC]
   rfl
  ·simp only[go_sem,Ww,zY,Tryz.f110,k0,t1,hlo2,tokC]
   rfl
 intro m
 induction m with
 |zero=>
  intro i ex hex h1 h2
  exact stop 0 i ex hex (Au om) h2
 |succ m ih=>
  intro i ex hex h1 h2;rcases Ax i l.length with hi|hi
  rotate_left
  ·exact stop (m+1) i ex hex (JV hi) h2
  have hcp:=Qa hi;have k0:=λlo p q=>f32 (lo:=lo) (l:=l) (i:=i) (p:=p) (q:=q) (k:=0) om
  have ks:=λlo p q=>f49 (lo:=lo) (l:=l) (i:=i) (p:=p) (q:=q) (cs:=[41]) (by simp;omega)
  have ke:=λlo p q=>f58 (lo:=lo) (l:=l) (i:=i) (p:=p) (q:=q) (k:=0) om
  have hw1:=JD (i:=i) om;simp only[n0,Ka,J4,qD]at k0 ks ke;have hs:=Jb hi;have hn:chr (suf l i) (0+1)=chr (suf l (i+1)) 0:=by rw[hs];exact Kl _ _ 0
  rw[hn]at ke;generalize chr (suf l i) 0=c at hs k0 ks ke hcp;rw[hs]at h1⊢;simp only[Ag]at h1;have te:(c== -1)=false:=by simp;omega
  by_cases c41:c=41
  ·subst c41
   have t0:((41:Int)==41)=true:=rfl;have e:YH (m+1) (41::suf l (i+1))=suf l (i+1):=by simp[YH]
   refine⟨i+1,om,om,by rw[e],?_⟩
   rw[JB];rcases hex with rfl|⟨b,rfl⟩
   ·simp only[go_sem,Ww,zY,Tryz.f110,k0,ks,te,t0,hlo,hlo2,hw1,tokC]
    rfl
   ·simp only[go_sem,Ww,zY,Tryz.f110,k0,ks,te,t0,hlo,hlo2,hw1,tokC]
    rfl
  have t0:(c==41)=false:=by simp[c41]
  cases he:Gi c (chr (suf l (i+1)) 0)with
  |true=>
   obtain⟨j0,a1,a2,a3,a4⟩:=f86 (l:=l) (i:=i+1) hl om
   have e:YH (m+1) (c::suf l (i+1))=YH m (KD (suf l (i+1))).2:=by simp only[YH];rw[if_neg c41,if_pos he]
   obtain⟨j,j1,j2,j3,j4⟩:=ih j0 [] (.inl rfl) (by rw[Jv]at h1⊢;omega) a1
   refine⟨j,j1,om,by rw[j3,e,a3],?_⟩
   have er:evCode ⟨Aa,E,lo,p.length+(q.length+1),JN6⟩ JA Ww ((0,.ptr p.length 0)::(2,.ptr (p.length+(q.length+1)) 0)::ex,p++R l i::(q++[.cells (tokC 0 [])]))=
     some (.normal,[(0,.ptr p.length 0),(2,.ptr (p.length+(q.length+1)) 0)],p++R l j0::(q++[.cells (tokC 0 [])])):=by
    rcases hex with rfl|⟨b,rfl⟩
    ·simp only[go_sem,Ww,zY,Tryz.f110,k0,ks,ke,te,t0,he,hlo,hlo2,hw1,a4 _ _ _ hlo,tokC]
    ·simp only[go_sem,Ww,zY,Tryz.f110,k0,ks,ke,te,t0,he,hlo,hlo2,hw1,a4 _ _ _ hlo,tokC]
   rw[JB,er,JK]
   exact j4
  |false=>
   have e:YH (m+1) (c::suf l (i+1))=YH m (suf l (i+1)):=by simp only[YH];rw[if_neg c41,if_neg (by simp[he])]
   obtain⟨j,j1,j2,j3,j4⟩:=ih (i+1) [] (.inl rfl) om om;refine⟨j,j1,om,by rw[j3,e],?_⟩
   have er:evCode ⟨Aa,E,lo,p.length+(q.length+1),JN6⟩ JA Ww ((0,.ptr p.length 0)::(2,.ptr (p.length+(q.length+1)) 0)::ex,p++R l i::(q++[.cells (tokC 0 [])]))=
     some (.normal,[(0,.ptr p.length 0),(2,.ptr (p.length+(q.length+1)) 0)],p++R l (i+1)::(q++[.cells (tokC 0 [])])):=by
    rcases hex with rfl|⟨b,rfl⟩
    ·simp only[go_sem,Ww,zY,Tryz.f110,k0,ks,ke,te,t0,he,hlo,hlo2,hw1,tokC]
    ·simp only[go_sem,Ww,zY,Tryz.f110,k0,ks,ke,te,t0,he,hlo,hlo2,hw1,tokC]
   rw[JB,er,JK];exact j4
theorem f110(hl:l.length<=100000000000)(hi:i<=l.length):∃j,j<=l.length/\i<=j/\suf l j=HC (suf l i)/\
  ∀lo p q,lo<=p.length->E lo 110 [.ptr p.length 0] (p++R l i::q)=some (.agg (tokC 8 []),p++R l j::q):=by
 obtain⟨j,j1,j2,j3,_⟩:=JMX (lo:=0) (p:=[]) (q:=[]) (l:=l) (Ac _) (A0 _) hl (suf l i).length i [] (.inl rfl) (Ac _) hi;refine⟨j,j1,j2,j3,λlo p q hlo=>?_⟩
 have hlo2:lo<=p.length+(q.length+1):=om;obtain⟨j',j1',_,j3',hL⟩:=JMX (lo:=lo) (p:=p) (q:=q) (l:=l) hlo hlo2 hl (suf l i).length i [] (.inl rfl) (Ac _) hi;obtain rfl:j'=j:=Gc j1' j1 (by rw[j3',j3])
 rw[Jle];simp only[tokC,Ww,zY,Tryz.f110,JG,JT,JC,go_sem,str_nil]at hL;simp only[go_sem,zY,Tryz.f110,hL];rfl
end
section
variable{lo i:Nat}{l:List Int}{p q:List Ob}
theorem f93(hl:l.length<=100000000000)(hi:i<=l.length):∃j,j<=l.length/\i<=j/\suf l j=(KD (suf l i)).2/\
  ∀lo p q,lo<=p.length->E lo 93 [.ptr p.length 0] (p++R l i::q)=some (.v (.int .i32 (KD (suf l i)).1),p++R l j::q):=by
 have k0:=λlo p q=>f43 (lo:=lo) (l:=l) (i:=i) (p:=p) (q:=q) (k:=0) om
 have hc:=JGs l i 0;have kh:=λlo h=>f112 (lo:=lo) (h:=h) hc.1 hc.2
 have hwi:=JD (i:=i) om;simp only[n0,JUQ]at k0 kh;by_cases hx:hex (chr (suf l i) 0)<0
 ·have hd:decide (0<=hex (chr (suf l i) 0))=false:=by simp;omega
  by_cases hi':i<l.length
  ·have hne:(chr (suf l i) 0== -1)=false:=by
    have:=Qa hi';simp;omega
   have e1:KD (suf l i)=(chr (suf l i) 0,suf l (i+1)):=by have h1:=Jb hi';generalize chr (suf l i) 0=c at h1 hx;rw[h1];simp only[KD];rw[if_pos hx]
   rw[e1];refine⟨i+1,om,om,rfl,λlo p q hlo=>?_⟩
   rw[e93];simp only[go_sem,b93,Tryz.f93,k0,kh,hd,hne,hwi,hlo]
  ·have hs:suf l i=[]:=JV om
   have hd':decide (0<=hex (-1))=false:=by decide
   have hne:((-1:Int)== -1)=true:=rfl;simp only[hs,Jw]at k0 kh;rw[hs];refine⟨i,hi,Ac _,by rw[hs];rfl,λlo p q hlo=>?_⟩
   rw[e93];simp only[go_sem,b93,Tryz.f93,k0,kh,hd',hne];rfl
 ·have hd:decide (0<=hex (chr (suf l i) 0))=true:=by simp;omega
  have hi':i<l.length:=by
   rcases Ax i l.length with h|h
   ·exact h
   ·rw[JV h,Jw,qB]at hx;omega
  have e1:KD (suf l i)=(if(QR 6 0 (suf l i)).1=0 then 65533 else KQ (QR 6 0 (suf l i)).1,JA6 (QR 6 0 (suf l i)).2):=by have h1:=Jb hi';generalize chr (suf l i) 0=c at h1 hx;rw[h1];simp only[KD];rw[if_neg hx]
  obtain⟨j,t,x,b,j1,j2,j3,j4,j5,j6⟩:=JZH (l:=l) hl 6 0 i 0 rfl hi (Int.le_refl _) (by decide)
  have hone:=JJX l j1;have kj:=λlo p q=>f43 (lo:=lo) (l:=l) (i:=j) (p:=p) (q:=q) (k:=0) om
  have hwj:=JD (i:=j) om;simp only[n0]at kj;rw[e1];rw[if_neg hx]at j6 kh;generalize hv:(QR 6 0 (suf l i)).1=v at j4 j5 j6
  cases hb:blk (chr (suf l j) 0)with
  |true=>
   obtain⟨hj',hone⟩:=hone.1 hb;refine⟨j+1,om,om,by rw[<-j3,hone],λlo p q hlo=>?_⟩
   have hL:=j6 lo p q hlo;rw[e93];simp only[JBa,b93,Tryz.f93,JG,JT,JC,go_sem,hd]at hL;by_cases v0:v=0
   ·subst v0
    have t0:((0:Int)==0)=true:=rfl;simp only[go_sem,b93,Tryz.f93,k0,kh,hd,hL,kj,f70,hb,hwj,hlo,t0]
   ·have t0:(v==0)=false:=by simp[v0]
    rw[if_neg v0,<-qC]
    cases hs:isc v with
    |true=>simp only[go_sem,b93,Tryz.f93,k0,kh,hd,hL,kj,f70,hb,hwj,hlo,t0,f69,hs]
    |false=>simp only[go_sem,b93,Tryz.f93,k0,kh,hd,hL,kj,f70,hb,hwj,hlo,t0,f69,hs]
  |false=>
   refine⟨j,j1,j2,by rw[<-j3,hone.2 hb],λlo p q hlo=>?_⟩
   have hL:=j6 lo p q hlo;rw[e93];simp only[JBa,b93,Tryz.f93,JG,JT,JC,go_sem,hd]at hL;by_cases v0:v=0
   ·subst v0
    have t0:((0:Int)==0)=true:=rfl;simp only[go_sem,b93,Tryz.f93,k0,kh,hd,hL,kj,f70,hb,t0]
   ·have t0:(v==0)=false:=by simp[v0]
    rw[if_neg v0,<-qC]
    cases hs:isc v with
    |true=>simp only[go_sem,b93,Tryz.f93,k0,kh,hd,hL,kj,f70,hb,t0,f69,hs]
    |false=>simp only[go_sem,b93,Tryz.f93,k0,kh,hd,hL,kj,f70,hb,t0,f69,hs]
theorem JZJ(hl:l.length<=100000000000):∀(m i:Nat) (out:List Int),(suf l i).length<=m->i<=l.length->out.length<=i->
  ∃j,j<=l.length/\i<=j/\suf l j=(KW m (suf l i)).2/\
   ∀lo (p q:List Ob),lo<=p.length->JA (evCode ⟨Aa,E,lo,p.length+(q.length+1),h76⟩ JA kp) ([(0,.ptr p.length 0),(3,.list .yes (ri .i32 out))],p++R l i::q)=
    some (.ret,[(2,.v (.string (str (out++(KW m (suf l i)).1))))],p++R l j::q):=by
 have stop:∀(m i:Nat) (out:List Int),suf l i=[]->i<=l.length->out.length<=i->
  ∃j,j<=l.length/\i<=j/\suf l j=(KW m (suf l i)).2/\
   ∀lo (p q:List Ob),lo<=p.length->JA (evCode ⟨Aa,E,lo,p.length+(q.length+1),h76⟩ JA kp) ([(0,.ptr p.length 0),(3,.list .yes (ri .i32 out))],p++R l i::q)=
    some (.ret,[(2,.v (.string (str (out++(KW m (suf l i)).1))))],p++R l j::q):=by
  intro m i out hs h2 h3;have k0:=λlo p q=>f43 (lo:=lo) (l:=l) (i:=i) (p:=p) (q:=q) (k:=0) om
  have k1:=λlo p q=>f43 (lo:=lo) (l:=l) (i:=i) (p:=p) (q:=q) (k:=1) om
  have n1:((1:Nat):Int)=1:=rfl;have kf:=λlo h=>f80 (lo:=lo) (l:=out) (h:=h) om
  simp only[n0,n1,hs,Jw]at k0 k1;have e:KW m []=([],[]):=by cases m<;>rfl
  have t0:((-1:Int) != -1)=false:=rfl;have t1:Gi (-1) (-1)=false:=by decide
  refine⟨i,h2,Ac _,by rw[hs,e],λlo p q hlo=>?_⟩
  rw[JB,hs,e,Aq];simp only[go_sem,kp,b76,Tryz.f76,k0,k1,f74,t0,t1,kf]
 intro m
 induction m with
 |zero=>
  intro i out h1 h2 h3
  exact stop 0 i out (Au om) h2 h3
 |succ m ih=>
  intro i out h1 h2 h3;rcases Ax i l.length with hi|hi
  rotate_left
  ·exact stop (m+1) i out (JV hi) h2 h3
  have hcp:=Qa hi;have k0:=λlo p q=>f43 (lo:=lo) (l:=l) (i:=i) (p:=p) (q:=q) (k:=0) om
  have k1:=λlo p q=>f43 (lo:=lo) (l:=l) (i:=i) (p:=p) (q:=q) (k:=1) om
  have n1:((1:Nat):Int)=1:=rfl;have kf:=λlo h=>f80 (lo:=lo) (l:=out) (h:=h) om
  have hwi:=JD (i:=i) om;have hr:∀k,k<=4->(out.length+k)*4<=140737488355328:=by intro k hk;omega
  have hq:∀k,9223372036854775800<=k->out.length<=k:=by intro k hk;omega
  have app:∀y:Int,ri .i32 out++[[V.v (.int .i32 y)]]=ri .i32 (out++[y]):=by intro y;rw[<-ri_app];rfl
  simp only[n0,n1]at k0 k1;have hs:=Jb hi;have hn:chr (suf l i) 1=chr (suf l (i+1)) 0:=by rw[hs];exact Kl _ _ 0
  rw[hn]at k1;generalize chr (suf l i) 0=c at hs k0 hcp;rw[hs]at h1⊢;simp only[Ag]at h1;have te:(c != -1)=true:=by simp;omega
  cases hc:j8 c with
  |true=>
   obtain⟨j,j1,j2,j3,j4⟩:=ih (i+1) (out++[c]) om om (by simp;omega)
   refine⟨j,j1,om,?_,λlo p q hlo=>?_⟩
   ·rw[j3];simp only[KW];rw[if_pos hc]
   ·have e:evCode ⟨Aa,E,lo,p.length+(q.length+1),h76⟩ JA kp ([(0,.ptr p.length 0),(3,.list .yes (ri .i32 out))],p++R l i::q)=
      some (.normal,[(0,.ptr p.length 0),(3,.list .yes (ri .i32 (out++[c])))],p++R l (i+1)::q):=by
     simp only[go_sem,kp,b76,Tryz.f76,k0,f73,te,hc,hwi,hlo,hr,hq,and_self,app]
    rw[JB,e,JK,j4 lo p q hlo];simp only[KW];rw[if_pos hc,Aw]
    rfl
  |false=>
   cases he:Gi c (chr (suf l (i+1)) 0)with
   |true=>
    obtain⟨j0,a1,a2,a3,a4⟩:=f93 (l:=l) (i:=i+1) hl om;obtain⟨j,j1,j2,j3,j4⟩:=ih j0 (out++[(KD (suf l (i+1))).1]) (by rw[Jv]at h1⊢;omega) a1 (by simp;omega)
    refine⟨j,j1,om,?_,λlo p q hlo=>?_⟩
    ·rw[j3,a3];simp only[KW];rw[hc,he];simp
    ·have e:evCode ⟨Aa,E,lo,p.length+(q.length+1),h76⟩ JA kp ([(0,.ptr p.length 0),(3,.list .yes (ri .i32 out))],p++R l i::q)=
       some (.normal,[(0,.ptr p.length 0),(3,.list .yes (ri .i32 (out++[(KD (suf l (i+1))).1])))],p++R l j0::q):=by
      simp only[go_sem,kp,b76,Tryz.f76,k0,k1,f73,f74,te,hc,he,hwi,hlo,a4 _ _ _ hlo,hr,hq,and_self,app]
     rw[JB,e,JK,j4 lo p q hlo,a3];simp only[KW];rw[hc,he]
     simp
   |false=>
    refine⟨i,h2,Ac _,?_,λlo p q hlo=>?_⟩
    ·simp only[KW];rw[hc,he,hs];simp
    ·rw[JB]
     simp only[go_sem,kp,b76,Tryz.f76,k0,k1,f73,f74,te,hc,he,kf];simp only[KW];rw[hc,he];simp[str]
theorem f76(hl:l.length<=100000000000)(hi:i<=l.length):∃j,j<=l.length/\i<=j/\suf l j=(name (suf l i)).2/\
  ∀lo p q,lo<=p.length->E lo 76 [.ptr p.length 0] (p++R l i::q)=some (.v (.string (str (name (suf l i)).1)),p++R l j::q):=by
 obtain⟨j,j1,j2,j3,j4⟩:=JZJ (l:=l) hl (suf l i).length i [] (Ac _) hi (by simp)
 refine⟨j,j1,j2,j3,λlo p q hlo=>?_⟩
 have hL:=j4 lo p q hlo;rw[e76];simp only[kp,b76,Tryz.f76,JG,JT,JC,go_sem,J4]at hL;simp only[go_sem,b76,Tryz.f76,hL];rfl
end
section
variable{lo i:Nat}{l:List Int}{p q:List Ob}
theorem JUT(hl:l.length<=100000000000):∀(m i:Nat),(suf l i).length<=m->i<=l.length->
  ∃j,j<=l.length+2/\i<=j/\suf l j=YH m (suf l i)/\
   ∀lo (p q:List Ob) (ex:Ja),(ex=[]\/ ∃b,ex=[(23,.v (.bool b))])->lo<=p.length->lo<=p.length+(q.length+1)->
   JA (evCode ⟨Aa,E,lo,p.length+(q.length+1),JN7⟩ JA Wx) ((0,.ptr p.length 0)::(2,.ptr (p.length+(q.length+1)) 0)::ex,p++R l i::(q++[.cells (tokC 0 [])]))=
    some (.ret,[(2,.ptr (p.length+(q.length+1)) 0)],p++R l j::(q++[.cells (tokC 8 [])])):=by
 have stop:∀(m i:Nat),suf l i=[]->i<=l.length->
  ∃j,j<=l.length+2/\i<=j/\suf l j=YH m (suf l i)/\
   ∀lo (p q:List Ob) (ex:Ja),(ex=[]\/ ∃b,ex=[(23,.v (.bool b))])->lo<=p.length->lo<=p.length+(q.length+1)->
   JA (evCode ⟨Aa,E,lo,p.length+(q.length+1),JN7⟩ JA Wx) ((0,.ptr p.length 0)::(2,.ptr (p.length+(q.length+1)) 0)::ex,p++R l i::(q++[.cells (tokC 0 [])]))=
    some (.ret,[(2,.ptr (p.length+(q.length+1)) 0)],p++R l j::(q++[.cells (tokC 8 [])])):=by
  intro m i hs h2;have hlen:=Jv l i;rw[hs,Am]at hlen;have k0:=λlo p q=>f43 (lo:=lo) (l:=l) (i:=i) (p:=p) (q:=q) (k:=0) om
  have hwi:=JD (i:=i) om;simp only[n0,hs,Jw]at k0;refine⟨i+1,om,om,by rw[hs,JJY,JV om],λlo p q ex hex hlo hlo2=>?_⟩
  have t1:((-1:Int)== -1)=true:=rfl;rw[JB];rcases hex with rfl|⟨b,rfl⟩
  ·simp only[go_sem,Wx,zZ,Tryz.f116,k0,t1,hlo,hlo2,hwi,tokC]
   rfl
  ·simp only[go_sem,Wx,zZ,Tryz.f116,k0,t1,hlo,hlo2,hwi,tokC]
   rfl
 intro m
 induction m with
 |zero=>
  intro i h1 h2
  exact stop 0 i (Au om) h2
 |succ m ih=>
  intro i h1 h2;rcases Ax i l.length with hi|hi
  rotate_left
  ·exact stop (m+1) i (JV hi) h2
  have hcp:=Qa hi;have k0:=λlo p q=>f43 (lo:=lo) (l:=l) (i:=i) (p:=p) (q:=q) (k:=0) om
  have k1:=λlo p q=>f43 (lo:=lo) (l:=l) (i:=i+1) (p:=p) (q:=q) (k:=0) om
  have hwi:=JD (i:=i) om;simp only[n0]at k0 k1;have hs:=Jb hi;generalize chr (suf l i) 0=c at hs k0 hcp;rw[hs]at h1⊢;simp only[Ag]at h1;have te:(c== -1)=false:=by simp;omega
  by_cases c41:c=41
  ·subst c41
   have t0:((41:Int)==41)=true:=rfl;have e:YH (m+1) (41::suf l (i+1))=suf l (i+1):=by simp[YH]
   refine⟨i+1,om,om,by rw[e],λlo p q ex hex hlo hlo2=>?_⟩
   rw[JB];rcases hex with rfl|⟨b,rfl⟩
   ·simp only[go_sem,Wx,zZ,Tryz.f116,k0,te,t0,hlo,hlo2,hwi,tokC]
    rfl
   ·simp only[go_sem,Wx,zZ,Tryz.f116,k0,te,t0,hlo,hlo2,hwi,tokC]
    rfl
  have t0:(c==41)=false:=by simp[c41]
  cases he:Gi c (chr (suf l (i+1)) 0)with
  |true=>
   obtain⟨j0,a1,a2,a3,a4⟩:=f93 (l:=l) (i:=i+1) hl om
   have e:YH (m+1) (c::suf l (i+1))=YH m (KD (suf l (i+1))).2:=by simp only[YH];rw[if_neg c41,if_pos he]
   obtain⟨j,j1,j2,j3,j4⟩:=ih j0 (by rw[Jv]at h1⊢;omega) a1
   refine⟨j,j1,om,by rw[j3,e,a3],λlo p q ex hex hlo hlo2=>?_⟩
   have er:evCode ⟨Aa,E,lo,p.length+(q.length+1),JN7⟩ JA Wx ((0,.ptr p.length 0)::(2,.ptr (p.length+(q.length+1)) 0)::ex,p++R l i::(q++[.cells (tokC 0 [])]))=
     some (.normal,[(0,.ptr p.length 0),(2,.ptr (p.length+(q.length+1)) 0)],p++R l j0::(q++[.cells (tokC 0 [])])):=by
    rcases hex with rfl|⟨b,rfl⟩
    ·simp only[go_sem,Wx,zZ,Tryz.f116,k0,k1,f74,te,t0,he,hlo,hlo2,hwi,a4 _ _ _ hlo,tokC]
    ·simp only[go_sem,Wx,zZ,Tryz.f116,k0,k1,f74,te,t0,he,hlo,hlo2,hwi,a4 _ _ _ hlo,tokC]
   rw[JB,er,JK]
   exact j4 lo p q [] (.inl rfl) hlo hlo2
  |false=>
   have e:YH (m+1) (c::suf l (i+1))=YH m (suf l (i+1)):=by simp only[YH];rw[if_neg c41,if_neg (by simp[he])]
   obtain⟨j,j1,j2,j3,j4⟩:=ih (i+1) om om;refine⟨j,j1,om,by rw[j3,e],λlo p q ex hex hlo hlo2=>?_⟩
   have er:evCode ⟨Aa,E,lo,p.length+(q.length+1),JN7⟩ JA Wx ((0,.ptr p.length 0)::(2,.ptr (p.length+(q.length+1)) 0)::ex,p++R l i::(q++[.cells (tokC 0 [])]))=
     some (.normal,[(0,.ptr p.length 0),(2,.ptr (p.length+(q.length+1)) 0),(23,.v (.bool false))],p++R l (i+1)::(q++[.cells (tokC 0 [])])):=by
    rcases hex with rfl|⟨b,rfl⟩
    ·simp only[go_sem,Wx,zZ,Tryz.f116,k0,k1,f74,te,t0,he,hlo,hlo2,hwi,tokC]
    ·simp only[go_sem,Wx,zZ,Tryz.f116,k0,k1,f74,te,t0,he,hlo,hlo2,hwi,tokC]
   rw[JB,er,JK];exact j4 lo p q [(23,.v (.bool false))] (.inr ⟨_,rfl⟩) hlo hlo2
theorem f116(hl:l.length<=100000000000)(hi:i<=l.length):∃j,j<=l.length+2/\i<=j/\suf l j=HC (suf l i)/\
  ∀lo p q,lo<=p.length->E lo 116 [.ptr p.length 0] (p++R l i::q)=some (.agg (tokC 8 []),p++R l j::q):=by
 obtain⟨j,j1,j2,j3,j4⟩:=JUT (l:=l) hl (suf l i).length i (Ac _) hi;refine⟨j,j1,j2,j3,λlo p q hlo=>?_⟩
 have hL:=j4 lo p q [] (.inl rfl) hlo om;rw[Jlk];simp only[tokC,Wx,zZ,Tryz.f116,JG,JT,JC,go_sem,str_nil]at hL;simp only[go_sem,zZ,Tryz.f116,hL];rfl
abbrev B74(lo:Nat)(p q:List Ob)(l:List Int)(i:Nat)(sign:Int)(out:List Int):Ja×Heap:=
 ([(0,.ptr p.length 0),(1,.v (.int .i32 sign)),(4,.ptr (p.length+(q.length+1)) 0),(5,.list .yes (ri .i32 out))],p++R l i::(q++[.cells (tokC 0 [])]))
theorem JZK{sign:Int}(hl:l.length<=100000000000)(hsg:quo sign=true):∀(m i:Nat) (out:List Int),(suf l i).length<=m->i<=l.length->out.length<=i->
  ∃j,j<=l.length+2/\i<=j/\suf l j=(KC sign m (suf l i)).2.2/\
   ∀lo (p q:List Ob),lo<=p.length->lo<=p.length+(q.length+1)->
   JA (evCode ⟨Aa,E,lo,p.length+(q.length+1),h72⟩ JA ZT) (B74 lo p q l i sign out)=
    some (.ret,[(4,.ptr (p.length+(q.length+1)) 0)],p++R l j::(q++[.cells (if(KC sign m (suf l i)).1=true then tokC 5 (out++(KC sign m (suf l i)).2.1)else tokC 6 [])])):=by
 have sg:sign≠92/\sign≠10/\0<=sign:=by simp only[quo,Bool.or_eq_true,beq_iff_eq]at hsg;omega
 have stop:∀(m i:Nat) (out:List Int),suf l i=[]->i<=l.length->out.length<=i->
  ∃j,j<=l.length+2/\i<=j/\suf l j=(KC sign m (suf l i)).2.2/\
   ∀lo (p q:List Ob),lo<=p.length->lo<=p.length+(q.length+1)->
   JA (evCode ⟨Aa,E,lo,p.length+(q.length+1),h72⟩ JA ZT) (B74 lo p q l i sign out)=
    some (.ret,[(4,.ptr (p.length+(q.length+1)) 0)],p++R l j::(q++[.cells (if(KC sign m (suf l i)).1=true then tokC 5 (out++(KC sign m (suf l i)).2.1)else tokC 6 [])])):=by
  intro m i out hs h2 h3;have hlen:=Jv l i;rw[hs,Am]at hlen;have k0:=λlo p q=>f43 (lo:=lo) (l:=l) (i:=i) (p:=p) (q:=q) (k:=0) om
  have kf:=λlo h=>f80 (lo:=lo) (l:=out) (h:=h) om
  have hwi:=JD (i:=i) om;simp only[n0,hs,Jw]at k0;refine⟨i+1,om,om,by rw[hs,Z7,JV om],λlo p q hlo hlo2=>?_⟩
  have t0:((-1:Int)==10)=false:=rfl;have t1:((-1:Int)== -1)=true:=rfl;have t2:((-1:Int)==92)=false:=rfl;rw[hs,Z7,if_pos rfl,Aq,JB];simp only[go_sem,ZT,b72,Tryz.f72,k0,kf,t0,t1,t2,hlo,hlo2,hwi,tokC]<;>rfl
 intro m
 induction m with
 |zero=>
  intro i out h1 h2 h3
  exact stop 0 i out (Au om) h2 h3
 |succ m ih=>
  intro i out h1 h2 h3;rcases Ax i l.length with hi|hi
  rotate_left
  ·exact stop (m+1) i out (JV hi) h2 h3
  have hcp:=Qa hi;have k0:=λlo p q=>f43 (lo:=lo) (l:=l) (i:=i) (p:=p) (q:=q) (k:=0) om
  have k1:=λlo p q=>f43 (lo:=lo) (l:=l) (i:=i) (p:=p) (q:=q) (k:=1) om
  have kf:=λlo h=>f80 (lo:=lo) (l:=out) (h:=h) om
  have hr:∀k,k<=4->(out.length+k)*4<=140737488355328:=by intro k hk;omega
  have hq:∀k,9223372036854775800<=k->out.length<=k:=by intro k hk;omega
  have app:∀y:Int,ri .i32 out++[[V.v (.int .i32 y)]]=ri .i32 (out++[y]):=by intro y;rw[<-ri_app];rfl
  have hw1:=JD (i:=i) om;have hw2:Ak.wrap ((i:Int)+2)=((i+2:Nat):Int):=by rw[JL om om];omega
  have n1:((1:Nat):Int)=1:=rfl;simp only[n0,n1]at k0 k1;have hs:=Jb hi;have hn:chr (suf l i) 1=chr (suf l (i+1)) 0:=by rw[hs];exact Kl _ _ 0
  rw[hn]at k1;generalize chr (suf l i) 0=c at hs k0 hcp;rw[hs]at h1⊢;simp only[Ag]at h1;have te:(c== -1)=false:=by simp;omega
  by_cases c10:c=10
  ·subst c10
   have t0:((10:Int)==10)=true:=rfl;have e:KC sign (m+1) (10::suf l (i+1))=(false,[],10::suf l (i+1)):=by simp[KC]
   refine⟨i,om,Ac _,by rw[e,hs],λlo p q hlo hlo2=>?_⟩
   rw[e,if_neg (by simp),JB]
   simp only[go_sem,ZT,b72,Tryz.f72,k0,t0,hlo2,tokC];rfl
  have t0:(c==10)=false:=by simp[c10]
  by_cases csg:c=sign
  ·subst csg
   have t1:(c==c)=true:=by simp
   have t2:(c==92)=false:=by simp;omega
   have e:KC c (m+1) (c::suf l (i+1))=(true,[],suf l (i+1)):=by simp[KC,c10]
   refine⟨i+1,om,om,by rw[e],λlo p q hlo hlo2=>?_⟩
   rw[e,if_pos rfl,Aq,JB];simp only[go_sem,ZT,b72,Tryz.f72,k0,t0,te,t1,t2,hlo,hlo2,hw1,kf,tokC]<;>rfl
  have t1:(c==sign)=false:=by simp[csg]
  by_cases c92:c=92
  ·subst c92
   have t2:((92:Int)==92)=true:=rfl;rcases Ax (i+1) l.length with hi2|hi2
   ·have hs2:=Jb hi2
    have hdp:=Qa hi2;by_cases d10:chr (suf l (i+1)) 0=10
    ·rw[d10]at hs2 k1
     have t3:((10:Int)== -1)=false:=rfl;have t4:((10:Int)==10)=true:=rfl
     have e:KC sign (m+1) (92::suf l (i+1))=KC sign m (suf l (i+2)):=by rw[hs2];simp only[KC];rw[if_neg c10,if_neg csg];simp
     obtain⟨j,j1,j2,j3,j4⟩:=ih (i+2) out (by rw[Jv]at h1⊢;omega) om om
     refine⟨j,j1,om,by rw[j3,e],λlo p q hlo hlo2=>?_⟩
     have er:evCode ⟨Aa,E,lo,p.length+(q.length+1),h72⟩ JA ZT (B74 lo p q l i sign out)=some (.normal,B74 lo p q l (i+2) sign out):=by simp only[go_sem,ZT,b72,Tryz.f72,k0,k1,t0,te,t1,t2,t3,t4,hlo,hw2,tokC]<;>rfl
     rw[JB,er,JK,e];exact j4 lo p q hlo hlo2
    ·have t3:(chr (suf l (i+1)) 0== -1)=false:=by simp;omega
     have t4:(chr (suf l (i+1)) 0==10)=false:=by simp[d10]
     obtain⟨j0,a1,a2,a3,a4⟩:=f93 (l:=l) (i:=i+1) hl om
     have e:KC sign (m+1) (92::suf l (i+1))=((KC sign m (KD (suf l (i+1))).2).1,(KD (suf l (i+1))).1::(KC sign m (KD (suf l (i+1))).2).2.1,(KC sign m (KD (suf l (i+1))).2).2.2):=by generalize hd:chr (suf l (i+1)) 0=d at hs2 d10;rw[hs2];simp only[KC];rw[if_neg c10,if_neg csg];simp[d10]
     obtain⟨j,j1,j2,j3,j4⟩:=ih j0 (out++[(KD (suf l (i+1))).1]) (by rw[Jv]at h1⊢;omega) a1 (by simp;omega)
     refine⟨j,j1,om,by rw[j3,e,a3],λlo p q hlo hlo2=>?_⟩
     have er:evCode ⟨Aa,E,lo,p.length+(q.length+1),h72⟩ JA ZT (B74 lo p q l i sign out)=some (.normal,B74 lo p q l j0 sign (out++[(KD (suf l (i+1))).1])):=by simp only[go_sem,ZT,b72,Tryz.f72,k0,k1,t0,te,t1,t2,t3,t4,hlo,hw1,a4 _ _ _ hlo,hr,hq,app,and_self,tokC]<;>rfl
     rw[JB,er,JK,j4 lo p q hlo hlo2,e,a3,Aw];rfl
   ·have hs2:suf l (i+1)=[]:=JV hi2
    rw[hs2,Jw]at k1;have t3:((-1:Int)== -1)=true:=rfl
    have e:KC sign (m+1) (92::suf l (i+1))=(true,[],[]):=by rw[hs2];simp only[KC];rw[if_neg c10,if_neg csg];simp
    have hil:i+1=l.length:=om;obtain⟨j,j1,j2,j3,j4⟩:=stop m (i+1) out hs2 om om;rw[hs2,Z7]at j3 j4;refine⟨j,j1,om,by rw[j3,e],λlo p q hlo hlo2=>?_⟩
    have er:evCode ⟨Aa,E,lo,p.length+(q.length+1),h72⟩ JA ZT (B74 lo p q l i sign out)=some (.normal,B74 lo p q l (i+1) sign out):=by simp only[go_sem,ZT,b72,Tryz.f72,k0,k1,t0,te,t1,t2,t3,hlo,hw1,tokC]<;>rfl
    rw[JB,er,JK,e];exact j4 lo p q hlo hlo2
  ·have t2:(c==92)=false:=by simp[c92]
   have e:KC sign (m+1) (c::suf l (i+1))=((KC sign m (suf l (i+1))).1,c::(KC sign m (suf l (i+1))).2.1,(KC sign m (suf l (i+1))).2.2):=by simp only[KC];rw[if_neg c10,if_neg csg,if_neg c92]
   obtain⟨j,j1,j2,j3,j4⟩:=ih (i+1) (out++[c]) om om (by simp;omega)
   refine⟨j,j1,om,by rw[j3,e],λlo p q hlo hlo2=>?_⟩
   have er:evCode ⟨Aa,E,lo,p.length+(q.length+1),h72⟩ JA ZT (B74 lo p q l i sign out)=some (.normal,B74 lo p q l (i+1) sign (out++[c])):=by simp only[go_sem,ZT,b72,Tryz.f72,k0,t0,te,t1,t2,hlo,hw1,hr,hq,app,and_self,tokC]<;>rfl
   rw[JB,er,JK,j4 lo p q hlo hlo2,e,Aw];rfl
theorem f72{sign:Int}(hl:l.length<=100000000000)(hi:i<=l.length)(hsg:quo sign=true):∃j,j<=l.length+2/\i<=j/\suf l j=(txt sign (suf l i)).2.2/\
  ∀lo p q,lo<=p.length->E lo 72 [.ptr p.length 0,.v (.int .i32 sign)] (p++R l i::q)=some (.agg (if(txt sign (suf l i)).1=true then tokC 5 (txt sign (suf l i)).2.1 else tokC 6 []),p++R l j::q):=by
 obtain⟨j,j1,j2,j3,j4⟩:=JZK (l:=l) hl hsg (suf l i).length i [] (Ac _) hi (by simp)
 refine⟨j,j1,j2,j3,λlo p q hlo=>?_⟩
 have hL:=j4 lo p q hlo om;rw[e72];simp only[B74,tokC,ZT,b72,Tryz.f72,JG,JT,JC,go_sem,J4,str_nil]at hL;simp only[go_sem,b72,Tryz.f72,hL];unfold txt;cases(KC sign (suf l i).length (suf l i)).1<;>rfl
end
section
variable{lo i:Nat}{l:List Int}{p q:List Ob}
theorem JZL{l:List Int}{i:Nat}(hi:i<l.length):(chr (suf l i) 0 != -1)=true:=by have:=Qa hi;simp;omega
theorem JUU(hl:l.length<=100000000000):∀(n i:Nat),l.length-i<=n->i<=l.length->
  ∃j,j<=l.length/\i<=j/\suf l j=Z6 (suf l i)/\
   ∀lo (p q:List Ob),lo<=p.length->JA (evCode ⟨Aa,E,lo,p.length+(q.length+1),h42⟩ JA zA) ([(0,.ptr p.length 0)],p++R l i::q)=some (.exit 2,[(0,.ptr p.length 0),(29,.v (.bool false))],p++R l j::q):=by
 have stop:∀(i:Nat),i=l.length->
  ∃j,j<=l.length/\i<=j/\suf l j=Z6 (suf l i)/\
   ∀lo (p q:List Ob),lo<=p.length->JA (evCode ⟨Aa,E,lo,p.length+(q.length+1),h42⟩ JA zA) ([(0,.ptr p.length 0)],p++R l i::q)=some (.exit 2,[(0,.ptr p.length 0),(29,.v (.bool false))],p++R l j::q):=by
  intro i hi;subst hi;have k0:=λlo p q=>f43 (lo:=lo) (l:=l) (i:=l.length) (p:=p) (q:=q) (k:=0) om
  have hs:suf l l.length=[]:=JV (Ac _);simp only[n0,hs,Jw]at k0;refine⟨l.length,Ac _,Ac _,by rw[hs];rfl,λlo p q hlo=>?_⟩
  have hne:((-1:Int) != -1)=false:=rfl;rw[JB];simp only[go_sem,zA,b42,Tryz.f42,k0,hne]
 intro n
 induction n with
 |zero=>intro i h1 h2;exact stop i om
 |succ n ih=>
  intro i h1 h2;rcases Ax i l.length with hi|hi
  rotate_left
  ·exact stop i om
  have k0:=λlo p q=>f43 (lo:=lo) (l:=l) (i:=i) (p:=p) (q:=q) (k:=0) om
  have k1:=λlo p q=>f43 (lo:=lo) (l:=l) (i:=i) (p:=p) (q:=q) (k:=1) om
  have n1:((1:Nat):Int)=1:=rfl;simp only[n0,n1]at k0 k1;have hw:=JD (i:=i) om;have hne:=JZL hi;have hs:=Jb hi;have hn:chr (suf l i) 1=chr (suf l (i+1)) 0:=by rw[hs];exact Kl _ _ 0
  rw[hn]at k1;generalize chr (suf l i) 0=c at hs k0 hne;by_cases hx:c=42/\chr (suf l (i+1)) 0=47
  ·obtain⟨rfl,hd⟩:=hx
   have t0:((42:Int) !=42)=false:=rfl;have t1:((47:Int) !=47)=false:=rfl;rw[hd]at k1;refine⟨i,h2,Ac _,?_,λlo p q hlo=>?_⟩
   ·rcases Ax (i+1) l.length with hi2|hi2
    ·have h4:=Jb hi2
     rw[hd]at h4;rw[hs,h4];unfold Z6;rw[if_pos ⟨rfl,rfl⟩]
    ·rw[JV hi2,Jw]at hd;omega
   ·rw[JB]
    simp only[go_sem,zA,b42,Tryz.f42,k0,k1,hne,t0,t1]
  ·obtain⟨j,j1,j2,j3,j4⟩:=ih (i+1) om om
   refine⟨j,j1,om,?_,λlo p q hlo=>?_⟩
   ·rw[j3,hs]
    rcases Ax (i+1) l.length with hi2|hi2
    ·have h4:=Jb hi2
     generalize chr (suf l (i+1)) 0=d at h4 hx;rw[h4]
     conv=>rhs;unfold Z6
     rw[if_neg hx]
    ·rw[JV hi2];rfl
   ·have e:evCode ⟨Aa,E,lo,p.length+(q.length+1),h42⟩ JA zA ([(0,.ptr p.length 0)],p++R l i::q)=some (.normal,[(0,.ptr p.length 0)],p++R l (i+1)::q):=by
     by_cases hc:c=42
     ·subst hc
      have t0:((42:Int) !=42)=false:=rfl;have t1:(chr (suf l (i+1)) 0 !=47)=true:=by simp;exact λh=>hx ⟨rfl,h⟩
      simp only[go_sem,zA,b42,Tryz.f42,k0,k1,hne,t0,t1,hw,hlo]
     ·have t0:(c !=42)=true:=by simp[hc]
      simp only[go_sem,zA,b42,Tryz.f42,k0,k1,hne,t0,hw,hlo]
    rw[JB,e,JK];exact j4 lo p q hlo
theorem JQ8(m:Nat)(c d:Int)(t:List Int)(h:¬(c=47/\d=42)):Z1 m (c::d::t)=c::d::t:=by
 cases m with
 |zero=>rfl
 |succ m=>simp only[Z1];rw[if_neg h]
theorem JQ9(m:Nat):Z1 m []=[]:=by cases m<;>rfl
theorem JJZ(m:Nat)(c:Int):Z1 m [c]=[c]:=by cases m<;>rfl
theorem JZM(hl:l.length<=100000000000):∀(m i:Nat),(suf l i).length<=m->i<=l.length+4->
  ∃j,j<=l.length+6/\i<=j/\suf l j=Z1 m (suf l i)/\
   ∀lo (p q:List Ob),lo<=p.length->JA (evCode ⟨Aa,E,lo,p.length+(q.length+1),h42⟩ JA JBQ) ([(0,.ptr p.length 0)],p++R l i::q)=some (.exit 0,[(0,.ptr p.length 0),(9,.v (.bool false))],p++R l j::q):=by
 have stop:∀(m i:Nat),i<=l.length+6->¬(chr (suf l i) 0=47/\chr (suf l i) 1=42)->
  ∃j,j<=l.length+6/\i<=j/\suf l j=Z1 m (suf l i)/\
   ∀lo (p q:List Ob),lo<=p.length->JA (evCode ⟨Aa,E,lo,p.length+(q.length+1),h42⟩ JA JBQ) ([(0,.ptr p.length 0)],p++R l i::q)=some (.exit 0,[(0,.ptr p.length 0),(9,.v (.bool false))],p++R l j::q):=by
  intro m i h2 hx;have k0:=λlo p q=>f43 (lo:=lo) (l:=l) (i:=i) (p:=p) (q:=q) (k:=0) om
  have k1:=λlo p q=>f43 (lo:=lo) (l:=l) (i:=i) (p:=p) (q:=q) (k:=1) om
  have n1:((1:Nat):Int)=1:=rfl;simp only[n0,n1]at k0 k1;refine⟨i,h2,Ac _,?_,λlo p q hlo=>?_⟩
  ·match hs:suf l i with
   |[]=>rw[JQ9]
   |[c]=>rw[JJZ]
   |c::d::t=>rw[JQ8];rw[hs,QP,Kl,QP]at hx;exact hx
  ·rw[JB]
   by_cases hc:chr (suf l i) 0=47
   ·have t0:(chr (suf l i) 0==47)=true:=by simp[hc]
    have t1:(chr (suf l i) 1==42)=false:=by simp;exact λh=>hx ⟨hc,h⟩
    simp only[go_sem,JBQ,b42,Tryz.f42,k0,k1,t0,t1]
   ·have t0:(chr (suf l i) 0==47)=false:=by simp[hc]
    simp only[go_sem,JBQ,b42,Tryz.f42,k0,k1,t0]
 intro m
 induction m with
 |zero=>
  intro i h1 h2;have hs:suf l i=[]:=Au om
  exact stop 0 i om (by rw[hs,Jw];omega)
 |succ m ih=>
  intro i h1 h2;by_cases hx:chr (suf l i) 0=47/\chr (suf l i) 1=42
  rotate_left
  ·exact stop (m+1) i om hx
  have hs:∃t,suf l i=47::42::t:=by
   match hs:suf l i with
   |[]=>rw[hs,Jw]at hx;omega
   |[c]=>rw[hs,Kl,Jw]at hx;omega
   |c::d::t=>rw[hs,QP,Kl,QP]at hx;exact⟨t,by rw[hx.1,hx.2]⟩
  obtain⟨t,hs⟩:=hs;obtain⟨ht,hi2⟩:=JGt l i _ _ _ hs;have k0:=λlo p q=>f43 (lo:=lo) (l:=l) (i:=i) (p:=p) (q:=q) (k:=0) om
  have k1:=λlo p q=>f43 (lo:=lo) (l:=l) (i:=i) (p:=p) (q:=q) (k:=1) om
  have n1:((1:Nat):Int)=1:=rfl;simp only[n0,n1,hx.1,hx.2]at k0 k1;have t0:((47:Int)==47)=true:=rfl;have t1:((42:Int)==42)=true:=rfl;obtain⟨j,j1,j2,j3,jL⟩:=JUU (l:=l) hl l.length (i+2) om hi2;have hw:Ak.wrap ((i:Int)+2)=((i+2:Nat):Int):=by rw[JL om om];omega
  have hw2:Ak.wrap ((j:Int)+2)=((j+2:Nat):Int):=by rw[JL om om];omega
  rw[ht]at j3
  have hj2:suf l (j+2)=G9 t:=by rw[zw,<-j3];simp[suf,AC]
  have hlen:(suf l (j+2)).length<=m:=by rw[Jv]at h1⊢;omega
  obtain⟨z,z1,z2,z3,z4⟩:=ih (j+2) hlen om;refine⟨z,z1,om,?_,λlo p q hlo=>?_⟩
  ·rw[z3,hs,hj2]
   simp[Z1]
  ·have hL:=jL lo p q hlo
   simp only[zA,b42,Tryz.f42,JG,JT,JC,go_sem]at hL
   have e:evCode ⟨Aa,E,lo,p.length+(q.length+1),h42⟩ JA JBQ ([(0,.ptr p.length 0)],p++R l i::q)=some (.normal,[(0,.ptr p.length 0)],p++R l (j+2)::q):=by simp only[go_sem,JBQ,b42,Tryz.f42,k0,k1,t0,t1,hw,hw2,hlo,hL]
   rw[JB,e,JK];exact z4 lo p q hlo
theorem f42(hl:l.length<=100000000000)(hi:i<=l.length+4):∃j,j<=l.length+6/\i<=j/\suf l j=Y9 (suf l i)/\
  ∀lo p q,lo<=p.length->E lo 42 [.ptr p.length 0] (p++R l i::q)=some (.tup [],p++R l j::q):=by
 obtain⟨j,j1,j2,j3,j4⟩:=JZM (l:=l) hl (suf l i).length i (Ac _) hi;refine⟨j,j1,j2,j3,λlo p q hlo=>?_⟩
 have hL:=j4 lo p q hlo;rw[e42];simp only[JBQ,b42,Tryz.f42,JG,JT,JC,go_sem]at hL;simp only[go_sem,b42,Tryz.f42,hL]
end
def low(c:Int):Int:=if(decide (65<=c)&&decide (c<=90))=true then c+32 else c
def bl(l:List Int):List V:=l.map λn=> .v (.int .u8 n)
theorem jm(l:List Int):(bl l).length=l.length:=by simp[bl]
theorem JLP(l:List Int)(i:Nat):(bl l)[i]? =(l[i]?).map λn=>V.v (.int .u8 n):=by simp[bl]
theorem JLQ(l:List Int)(i:Nat)(n:Int):(bl l).set i (.v (.int .u8 n))=bl (l.set i n):=by simp[bl,List.map_set]
theorem Zk{l:List Int}(hy:By l):QN ⟨(WN l).toArray⟩=bl l:=by
 simp only[QN,WN,bl,List.map_map];refine A2 λn hn=>?_
 have:=hy n hn
 have e:((UInt8.ofNat n.toNat).toNat:Int)=n:=by rw[UInt8.toNat_ofNat'];omega
 simp only[Function.comp,e]
theorem JZN{lo:Nat}{h:Heap}(hlo:lo<=h.length):∀(n:Nat) (a b:List Int),b.length<=n->a.length+b.length<=1000000000000->By b->
  JA (evCode ⟨Aa,E,lo,h.length,h65⟩ JA zB) ([(3,.buf h.length 0 (a.length+b.length)),(8,.buf h.length 0 (a.length+b.length)),(9,.v (.int .i64 (a.length+b.length:Nat))),(10,.v (.int .i64 a.length))],h++[.cells (bl (a++b))])=
   some (.exit 0,[(3,.buf h.length 0 (a.length+b.length)),(8,.buf h.length 0 (a.length+b.length)),(9,.v (.int .i64 (a.length+b.length:Nat))),(10,.v (.int .i64 (a.length+b.length:Nat))),(11,.v (.bool false))],h++[.cells (bl (a++b.map low))]):=by
 intro n
 induction n with
 |zero=>
  intro a b hb hab hy;obtain rfl:b=[]:=Au om;have hd:decide (((a.length:Nat):Int)<((a.length+([]:List Int).length:Nat):Int))=false:=by simp
  rw[JB];simp only[Am,Bl]at hd⊢
  simp only[go_sem,zB,b65,Tryz.f65,hd,Cm]
 |succ n ih=>
  intro a b hb hab hy
  cases b with
  |nil=>
   have hd:decide (((a.length:Nat):Int)<((a.length+([]:List Int).length:Nat):Int))=false:=by simp
   rw[JB];simp only[Am,Bl]at hd⊢
   simp only[go_sem,zB,b65,Tryz.f65,hd,Cm]
  |cons c b=>
   have hcy:=hy c (Be ..);have hd:decide ((a.length:Int)<((a.length+(c::b).length:Nat):Int))=true:=by simp;omega
   have hx:(bl (a++c::b))[a.length]? =some (.v (.int .u8 c)):=by simp[JLP]
   have hw:Ak.wrap ((a.length:Int)+1)=((a.length+1:Nat):Int):=JD om;have hlt:a.length<a.length+(c::b).length:=by simp
   have hih:=ih (a++[low c]) b (by simp at hb;omega) (by simp at hab⊢;omega) (λx hx=>hy x (AV _ hx))
   have el:(a++[low c]).length+b.length=a.length+(c::b).length:=by simp;omega
   have el2:(a++[low c]).length=a.length+1:=by simp
   have el3:a++[low c]++b.map low=a++(c::b).map low:=by simp
   rw[el,el2,el3]at hih;by_cases hc:(decide (65<=c)&&decide (c<=90))=true
   ·have hs:(bl (a++c::b)).set a.length (.v (.int .u8 (c+32)))=bl (a++[low c]++b):=by
     rw[JLQ,low,if_pos hc];simp
    have hc':=hc;simp only[Ah,decide_eq_true_eq]at hc';have hwc:AX.wrap (c+32)=c+32:=wrap_u8 om om;have hbl:a.length+1<=(bl (a++c::b)).length:=by rw[jm];simp
    generalize hcs:a.length+(c::b).length=k at*
    have er:evCode ⟨Aa,E,lo,h.length,h65⟩ JA zB ([(3,.buf h.length 0 k),(8,.buf h.length 0 k),(9,.v (.int .i64 (k:Nat))),(10,.v (.int .i64 a.length))],h++[.cells (bl (a++c::b))])=
      some (.normal,[(3,.buf h.length 0 k),(8,.buf h.length 0 k),(9,.v (.int .i64 (k:Nat))),(10,.v (.int .i64 (a.length+1:Nat)))],h++[.cells (bl (a++[low c]++b))]):=by
     have hlt':(a.length:Int)<k:=om;have h0':(0:Int)<=a.length:=om;simp only[go_sem,zB,b65,Tryz.f65,hd,hx,hw,hc,hwc,hs,hlo,hlt,hlt',h0',hbl,AB,CJ,and_self]
    rw[JB,er,JK];exact hih
   ·have hl2:low c=c:=by rw[low,if_neg hc]
    have hc2:(decide (65<=c)&&decide (c<=90))=false:=by simpa using hc
    rw[hl2]at hih;generalize hcs:a.length+(c::b).length=k at*
    have er:evCode ⟨Aa,E,lo,h.length,h65⟩ JA zB ([(3,.buf h.length 0 k),(8,.buf h.length 0 k),(9,.v (.int .i64 (k:Nat))),(10,.v (.int .i64 a.length))],h++[.cells (bl (a++c::b))])=
      some (.normal,[(3,.buf h.length 0 k),(8,.buf h.length 0 k),(9,.v (.int .i64 (k:Nat))),(10,.v (.int .i64 (a.length+1:Nat)))],h++[.cells (bl (a++c::b))]):=by
     have hlt':(a.length:Int)<k:=om;have h0':(0:Int)<=a.length:=om;simp only[go_sem,zB,b65,Tryz.f65,hd,hx,hw,hc2,hlo,hlt,hlt',h0',AB,CJ,and_self]
    rw[JB,er,JK];have e4:a++c::b=a++[c]++b:=by simp
    rw[e4];exact hih
theorem f65{lo:Nat}{l:List Int}{h:Heap}(hlo:lo<=h.length)(hl:l.length<=1000000000000)(hy:By l):E lo 65 [.v (.string ⟨(WN l).toArray⟩)] h=some (.v (.string ⟨(WN (l.map low)).toArray⟩),h):=by
 have hL:=JZN (lo:=lo) (h:=h) hlo l.length [] l (Ac _) (by simpa using hl) hy
 have hz:(⟨(WN l).toArray⟩:ByteArray).size=l.length:=by simp[ByteArray.size,WN]
 rw[e65];simp only[zB,b65,Tryz.f65,JG,JT,JC,go_sem,Am,AB]at hL;have hb1:decide (0+l.length<=(bl (l.map low)).length)=true:=by rw[jm];simp
 have hb2:((bl (l.map low)).take l.length).map (λx=>[x])=ri .u8 (l.map low):=by
  rw[Cw (by rw[jm];simp)]
  simp[bl,ri]
 simp only[go_sem,b65,Tryz.f65,hz,Zk hy,hL,hb1,hb2]
def JUV(a b:List Int):Bool:=(WN (a.map low))==(WN (b.map low))
theorem f92{lo:Nat}{a b:List Int}{h:Heap}(hlo:lo<=h.length)(ha:a.length<=1000000000000)(hya:By a)(hb:b.length<=1000000000000)(hyb:By b):
  E lo 92 [.v (.string ⟨(WN a).toArray⟩),.v (.string ⟨(WN b).toArray⟩)] h=some (.v (.bool (JUV a b)),h):=by
 have k1:=f65 (lo:=lo) (h:=h) hlo ha hya;have k2:=f65 (lo:=lo) (h:=h) hlo hb hyb;rw[e92];simp only[go_sem,b92,Tryz.f92,k1,k2,ByteArray.toList_eq];rfl
end Go.Lift.W1.T
end

section
open Go.Proofs
namespace Go.Lift.W1
open Rul
open Utf (By)
open T (bl jm JLP JLQ Zk)
variable[MX]
variable{lo:Nat}{h:Heap}
theorem JRA(c:Int):T.low c=Hx c:=by unfold T.low Hx;simp only[Ah,decide_eq_true_eq]
theorem yL(l:List Int):l.map T.low=Js l:=A2 λc _=>JRA c
theorem JZO(hlo:lo<=h.length):∀(n:Nat) (a b:List Int),b.length<=n->a.length+b.length<=1000000000000->By b->
  JA (evCode ⟨Aa,E,lo,h.length,h27⟩ JA jC) ([(3,.buf h.length 0 (a.length+b.length)),(8,.buf h.length 0 (a.length+b.length)),(9,.v (.int .i64 (a.length+b.length:Nat))),(10,.v (.int .i64 a.length))],h++[.cells (bl (a++b))])=
   some (.exit 0,[(3,.buf h.length 0 (a.length+b.length)),(8,.buf h.length 0 (a.length+b.length)),(9,.v (.int .i64 (a.length+b.length:Nat))),(10,.v (.int .i64 (a.length+b.length:Nat))),(11,.v (.bool false))],h++[.cells (bl (a++Js b))]):=by
 intro n
 induction n with
 |zero=>
  intro a b hb hab hy;obtain rfl:b=[]:=Au om;have hd:decide (((a.length:Nat):Int)<((a.length+([]:List Int).length:Nat):Int))=false:=by simp
  rw[JB];simp only[Am,Bl]at hd⊢
  simp only[go_sem,jC,b27,Tryz.f27,hd,Js,Cm]
 |succ n ih=>
  intro a b hb hab hy
  cases b with
  |nil=>
   have hd:decide (((a.length:Nat):Int)<((a.length+([]:List Int).length:Nat):Int))=false:=by simp
   rw[JB];simp only[Am,Bl]at hd⊢
   simp only[go_sem,jC,b27,Tryz.f27,hd,Js,Cm]
  |cons c b=>
   have hcy:=hy c (Be ..);have hd:decide ((a.length:Int)<((a.length+(c::b).length:Nat):Int))=true:=by simp;omega
   have hx:(bl (a++c::b))[a.length]? =some (.v (.int .u8 c)):=by simp[JLP]
   have hw:Ak.wrap ((a.length:Int)+1)=((a.length+1:Nat):Int):=JD om;have hlt:a.length<a.length+(c::b).length:=by simp
   have hih:=ih (a++[Hx c]) b (by simp at hb;omega) (by simp at hab⊢;omega) (λx hx=>hy x (AV _ hx))
   have el:(a++[Hx c]).length+b.length=a.length+(c::b).length:=by simp;omega
   have el2:(a++[Hx c]).length=a.length+1:=by simp
   have el3:a++[Hx c]++Js b=a++Js (c::b):=by simp[Js]
   rw[el,el2,el3]at hih;by_cases h1:65<=c
   ·have q1:decide (65<=c)=true:=by simpa using h1
    by_cases h2:c<=90
    ·have q2:decide (c<=90)=true:=by simpa using h2
     have hlc:Hx c=c+32:=by unfold Hx;rw[if_pos ⟨h1,h2⟩]
     have hs:(bl (a++c::b)).set a.length (.v (.int .u8 (c+32)))=bl (a++[Hx c]++b):=by rw[JLQ,hlc];simp
     have hwa:AX.wrap (c+97)=c+97:=wrap_u8 om om;have hwc:AX.wrap (c+97-65)=c+32:=by rw[wrap_u8 om om];omega
     have hbl:a.length+1<=(bl (a++c::b)).length:=by rw[jm];simp
     generalize hcs:a.length+(c::b).length=k at*
     have er:evCode ⟨Aa,E,lo,h.length,h27⟩ JA jC ([(3,.buf h.length 0 k),(8,.buf h.length 0 k),(9,.v (.int .i64 (k:Nat))),(10,.v (.int .i64 a.length))],h++[.cells (bl (a++c::b))])=
       some (.normal,[(3,.buf h.length 0 k),(8,.buf h.length 0 k),(9,.v (.int .i64 (k:Nat))),(10,.v (.int .i64 (a.length+1:Nat)))],h++[.cells (bl (a++[Hx c]++b))]):=by
      have hlt':(a.length:Int)<k:=om;have h0':(0:Int)<=a.length:=om;simp only[go_sem,jC,b27,Tryz.f27,hd,hx,hw,q1,q2,hwa,hwc,hs,hlo,hlt,hlt',h0',hbl,AB,CJ,and_self]<;>rfl
     rw[JB,er,JK];exact hih
    ·have q2:decide (c<=90)=false:=by simpa using h2
     have hlc:Hx c=c:=by unfold Hx;rw[if_neg om]
     rw[hlc]at hih;generalize hcs:a.length+(c::b).length=k at*
     have er:evCode ⟨Aa,E,lo,h.length,h27⟩ JA jC ([(3,.buf h.length 0 k),(8,.buf h.length 0 k),(9,.v (.int .i64 (k:Nat))),(10,.v (.int .i64 a.length))],h++[.cells (bl (a++c::b))])=
       some (.normal,[(3,.buf h.length 0 k),(8,.buf h.length 0 k),(9,.v (.int .i64 (k:Nat))),(10,.v (.int .i64 (a.length+1:Nat)))],h++[.cells (bl (a++c::b))]):=by
      have hlt':(a.length:Int)<k:=om;have h0':(0:Int)<=a.length:=om;simp only[go_sem,jC,b27,Tryz.f27,hd,hx,hw,q1,q2,hlo,hlt,hlt',h0',AB,CJ,and_self]<;>rfl
     rw[JB,er,JK];have e4:a++c::b=a++[c]++b:=by simp
     rw[e4];exact hih
   ·have q1:decide (65<=c)=false:=by simpa using h1
    have hlc:Hx c=c:=by unfold Hx;rw[if_neg om]
    rw[hlc]at hih;generalize hcs:a.length+(c::b).length=k at*
    have er:evCode ⟨Aa,E,lo,h.length,h27⟩ JA jC ([(3,.buf h.length 0 k),(8,.buf h.length 0 k),(9,.v (.int .i64 (k:Nat))),(10,.v (.int .i64 a.length))],h++[.cells (bl (a++c::b))])=
      some (.normal,[(3,.buf h.length 0 k),(8,.buf h.length 0 k),(9,.v (.int .i64 (k:Nat))),(10,.v (.int .i64 (a.length+1:Nat)))],h++[.cells (bl (a++c::b))]):=by
     have hlt':(a.length:Int)<k:=om;have h0':(0:Int)<=a.length:=om;simp only[go_sem,jC,b27,Tryz.f27,hd,hx,hw,q1,hlo,hlt,hlt',h0',AB,CJ,and_self]<;>rfl
    rw[JB,er,JK];have e4:a++c::b=a++[c]++b:=by simp
    rw[e4];exact hih
theorem f27{l:List Int}(hlo:lo<=h.length)(hl:l.length<=1000000000000)(hy:By l):E lo 27 [.v (.string (Rul.bs l))] h=some (.v (.string (Rul.bs (Js l))),h):=by
 have hL:=JZO (lo:=lo) (h:=h) hlo l.length [] l (Ac _) (by simpa using hl) hy
 have hz:(⟨(WN l).toArray⟩:ByteArray).size=l.length:=by simp[ByteArray.size,WN]
 have hsl:(Js l).length=l.length:=List.length_map _;rw[e27];simp only[jC,b27,Tryz.f27,JG,JT,JC,go_sem,Am,AB,Af]at hL;have hb1:decide (0+l.length<=(bl (Js l)).length)=true:=by rw[jm,hsl];simp
 have hb2:((bl (Js l)).take l.length).map (λx=>[x])=ri .u8 (Js l):=by
  rw[Cw (by rw[jm,hsl];exact Ac _)]
  simp[bl,ri]
 simp only[go_sem,b27,Tryz.f27,hz,Rul.bs,Zk hy,hL,hb1,hb2,Af]<;>rfl
end Go.Lift.W1
end
