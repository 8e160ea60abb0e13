/- The reference's figure, whole. -/
import Derived.Lib.MapLaws
import Derived.Lib.DecodeN
import Derived.Test.YtkmiddfplmnaoaaGreatDoorGKd
import Derived.Test.YtkmiddfplmnaoaaGreatDoorGKh
open Bool renaming and_eq_true->Ah,eq_iff_iff->Cu,false_eq_true->As,or_eq_true->AN
open Go.IntKind renaming i64->Ak,u64->BP
open Go.Proofs.Tryz renaming prog->Aa
open Int renaming ediv_le_self->Lm,lt_or_le->L8,mul_le_mul_of_nonneg_right->Cj,tdiv->Mv
open List renaming cons_append->Ae,dropWhile_cons_of_pos->Bu,drop_drop->AC,eq_nil_of_length_eq_zero->Au,length_append->An,length_cons->Ag,length_pos_iff->Cg,map_cons->AU,nil_append->Af
open List.cons renaming injEq->BM
open Nat renaming add_comm->Lh,le_refl->Ac,le_trans->A3,lt_or_ge->Ax,zero_le->A0
open UInt8 renaming ofNat->BE,toNat->B7,toNat_ofNat'->BR
set_option linter.unusedVariables false
set_option linter.unusedSimpArgs false
set_option linter.unusedSectionVars false
set_option maxRecDepth 20000
set_option maxHeartbeats 8000000
section
open Go.Proofs
namespace Go.Lift.W1.T
variable[MX]
open Utf Tok
section
variable{lo i j:Nat}{l:List Int}{p q:List Ob}
theorem JU1{t:List Int}(h:Asc t):str t=bs t:=by unfold str bs;rw[JJq h]
theorem Jmm{n:Nm}(hl:l.length<=100000000000)(hij:i<=j)(hj:j<=l.length)(ok:n.Ok)(hs:suf l i=n.text++suf l j){ex:Ja}(hex:(∃x,ex=[(57,x)])\/ ∃x y,ex=[(6,x),(69,y)])(hlo:lo<=p.length)(hlo2:lo<=p.length+(q.length+2)):
  QM (Y5 lo p q) JA (pc zq 11 1) (P80 p q l i j ex)=some (.normal,[(0,.ptr p.length 0),(2,.ptr (p.length+(q.length+1)) 0),(8,.ptr (p.length+(q.length+2)) 0),(9,.v (.bool n.num.2))],H80 p q l j [.cells (JO n.num.1)]):=by
 have hasc:=JRy ok;have hbt:=JMm hij hj hs hasc
 have hlen:n.text.length<=100000000000:=by have:=congrArg List.length hs;rw[Jv,An]at this;omega
 have k82:∀lo h,E lo 80 [.list .no (ri .i32 n.text)] h=some (.v (.string (bs n.text)),h):=λlo h=>by rw[f80 om,JU1 hasc]
 have k120:∀lo h,lo<=h.length->E lo 97 [.v (.string (bs n.text))] h=some (.tup [.agg (JO n.num.1),.v (.bool n.num.2),.v (.int .i64 0)],h):=λlo h hh=>f97 ok hlen hh
 simp only[JO]at k120;have hlA:∀h:Heap,h.length<=h.length:=λh=>Ac _
 rcases hex with⟨x,rfl⟩|⟨x,y,rfl⟩
 ·simp only[go_sem,Y5,P80,H80,zq,Tryz.f78,JG7,hbt,hij,hj,k82,k120,Ac,hlo,hlo2,tokC,str_nil,JO]<;>rfl
 ·simp only[go_sem,Y5,P80,H80,zq,Tryz.f78,JG7,hbt,hij,hj,k82,k120,Ac,hlo,hlo2,tokC,str_nil,JO]<;>rfl
theorem Jmn{n:Nm}(hlo:lo<=p.length)(hlo2:lo<=p.length+(q.length+3)):
  QM (Y5 lo p q) JA (pc zq 12 1) ([(0,.ptr p.length 0),(2,.ptr (p.length+(q.length+1)) 0),(8,.ptr (p.length+(q.length+2)) 0),(9,.v (.bool n.num.2))],H80 p q l j [.cells (JO n.num.1)])=
   some (.normal,[(0,.ptr p.length 0),(2,.ptr (p.length+(q.length+1)) 0),(11,.ptr (p.length+(q.length+3)) 0)],H80 p q l j [.cells (JO n.num.1),.cells (tkC ⟨10,[],n.num.1,n.num.2,false⟩)]):=by
 simp only[go_sem,Y5,H80,zq,Tryz.f78,hlo2,tokC,tkC,str_nil,JO]<;>rfl
theorem Jmo{r:List V}{m:Int×Int}{w:Bool}(hl:l.length<=100000000000)(hj:j<=l.length):∃j',j'<=l.length/\j<=j'/\
  ∃t:Tk,(t,suf l j')=(if beg (chr (suf l j) 0) (chr (suf l j) 1) (chr (suf l j) 2)=true then(⟨12,(name (suf l j)).1,m,w,false⟩,(name (suf l j)).2)
   else if chr (suf l j) 0=37 then(⟨11,[],m,w,false⟩,(suf l j).drop 1)else(⟨10,[],m,w,false⟩,suf l j))/\
  ∀lo p q,lo<=p.length->lo<=p.length+(q.length+1)->lo<=p.length+(q.length+3)->
   QM (Y5 lo p q) JA (pc zq 13 4) ([(0,.ptr p.length 0),(2,.ptr (p.length+(q.length+1)) 0),(11,.ptr (p.length+(q.length+3)) 0)],H80 p q l j [.cells r,.cells (tkC ⟨10,[],m,w,false⟩)])=
    some (.ret,[(2,.ptr (p.length+(q.length+1)) 0)],p++R l j'::(q++[.cells (tkC t),.cells r,.cells (tkC t)])):=by
 have k0:=λlo p q=>f43 (lo:=lo) (l:=l) (i:=j) (p:=p) (q:=q) (k:=0) om
 have k1:=λlo p q=>f43 (lo:=lo) (l:=l) (i:=j) (p:=p) (q:=q) (k:=1) om
 have k2:=λlo p q=>f43 (lo:=lo) (l:=l) (i:=j) (p:=p) (q:=q) (k:=2) om
 have hw1:=JD (i:=j) om;have n1:((1:Nat):Int)=1:=rfl;have n2:((2:Nat):Int)=2:=rfl;simp only[n0,n1,n2]at k0 k1 k2;by_cases hb:beg (chr (suf l j) 0) (chr (suf l j) 1) (chr (suf l j) 2)=true
 ·obtain⟨j2,b1,b2,b3,b4⟩:=f76 (l:=l) (i:=j) hl hj
  refine⟨j2,b1,b2,⟨12,(name (suf l j)).1,m,w,false⟩,by rw[if_pos hb,b3],λlo p q hlo hlo2 hlo3=>?_⟩
  simp only[go_sem,Y5,H80,zq,Tryz.f78,k0,k1,k2,f75,hb,b4 _ _ _ hlo,hlo,hlo2,hlo3,tokC,tkC,str_nil]<;>rfl
 ·rw[if_neg hb]
  rw[Bool.not_eq_true]at hb;by_cases h37:chr (suf l j) 0=37
  ·have hne:j<l.length:=by
    rcases Ax j l.length with h|h
    ·exact h
    ·rw[JV h]at h37;cases h37
   rw[if_pos h37];have t37:(chr (suf l j) 0==37)=true:=by simp[h37]
   refine⟨j+1,om,om,⟨11,[],m,w,false⟩,by simp[suf,AC],λlo p q hlo hlo2 hlo3=>?_⟩
   simp only[go_sem,Y5,H80,zq,Tryz.f78,k0,k1,k2,f75,hb,t37,hw1,hlo,hlo2,hlo3,tokC,tkC,str_nil]<;>rfl
  ·rw[if_neg h37]
   have t37:(chr (suf l j) 0==37)=false:=by simp[h37]
   refine⟨j,hj,Ac _,⟨10,[],m,w,false⟩,rfl,λlo p q hlo hlo2 hlo3=>?_⟩
   simp only[go_sem,Y5,H80,zq,Tryz.f78,k0,k1,k2,f75,hb,t37,hlo,hlo2,hlo3,tokC,tkC,str_nil]<;>rfl
theorem JRz{t:Tk}{h r r2:List Ob}{o:Ob}:fin Aa [.cell 2 51] (p.length+(q.length+1)) (some (.ret,[(2,.ptr (p.length+(q.length+1)) 0)],p++o::(q++ .cells (tkC t)::r)))=some (.agg (tkC t),p++o::q):=by simp only[go_sem,tkC]<;>rfl
theorem f78(hl:l.length<=100000000000)(hi:i<=l.length)(hn:num (chr (suf l i) 0) (chr (suf l i) 1) (chr (suf l i) 2)=true):
  ∃j,j<=l.length/\i<=j/\suf l j=(Qb (suf l i)).2/\
   ∀lo p q,lo<=p.length->E lo 78 [.ptr p.length 0] (p++R l i::q)=some (.agg (tkC (Qb (suf l i)).1),p++R l j::q):=by
 obtain⟨j1,a1,a2,a3,x,a4⟩:=Jmj (l:=l) (i:=i) hl hi;obtain⟨j2,b1,b2,b3,y,b4⟩:=Jmk (l:=l) (j:=j1) (x:=x) hl a1;obtain⟨j3,c1,c2,c3,ex,hex,c4⟩:=Jml (l:=l) (j:=j2) (x:=y) hl b1
 have hrest:suf l j3=(numP (suf l i)).2:=by rw[c3,b3,a3];unfold numP;simp only
 have hok:=zx hn;have htext:=Hu (suf l i);rw[<-hrest]at htext;obtain⟨j4,d1,d2,t,d3,d4⟩:=Jmo (l:=l) (j:=j3) (r:=JO (numP (suf l i)).1.num.1) (m:=(numP (suf l i)).1.num.1) (w:=(numP (suf l i)).1.num.2) hl c1
 have hfig:(t,suf l j4)=Qb (suf l i):=by rw[d3,hrest];unfold Qb;simp only
 refine⟨j4,d1,om,by rw[<-hfig],λlo p q hlo=>?_⟩
 have hlo1:lo<=p.length+(q.length+1):=om;have hlo2:lo<=p.length+(q.length+2):=om;have hlo3:lo<=p.length+(q.length+3):=om;have hH:(p++R l i::q).length=p.length+(q.length+1):=by simp
 rw[e78,hH]
 rw[pc_in,pc_go _ _ _ _ 0 5,a4 lo p q hlo,pc_go _ _ _ _ _ 3,b4 lo p q i hlo,pc_go _ _ _ _ _ 3,c4 lo p q i hlo,pc_go _ _ _ _ _ 1,
  Jmm hl om c1 hok htext.symm hex hlo hlo2,pc_go _ _ _ _ _ 1,Jmn hlo hlo3,pc_go _ _ _ _ _ 4,d4 lo p q hlo hlo1 hlo3,Qw,<-hfig]
 exact JRz (h:=[]) (r2:=[])
end
theorem JJr(x:Int):(enc x).length<=4:=by
 unfold enc
 split
 ·simp
 ·split
  ·simp
  ·split<;>simp
theorem JCD:∀l:List Int,(Q2 l).length<=4*l.length
 |[]=>by simp[Q2]
 |c::t=>by have e:Q2 (c::t)=enc (KQ c)++Q2 t:=rfl;have:=JCD t;have:=JJr (KQ c);rw[e,An,Ag];omega
theorem JJs:∀(k:Nat) (n:Int) (s:List Int),(QR k n s).2.length<=s.length
 |0,n,s=>Ac _
 |k+1,n,[]=>Ac _
 |k+1,n,c::t=>by
  simp only[QR]
  split
  ·exact Ac _
  ·have:=JJs k (n*16+hex c) t
   simp;omega
theorem JR0(s:List Int):(JA6 s).length<=s.length:=by
 cases s with
 |nil=>exact Ac _
 |cons d u=>simp only[JA6];split<;>simp
theorem JR1(s:List Int):(KD s).2.length<=s.length:=by
 cases s with
 |nil=>exact Ac _
 |cons c t=>
  simp only[KD]
  split
  ·simp
  ·have:=JR0 (QR 6 0 (c::t)).2
   have:=JJs 6 0 (c::t);simp only at*;omega
theorem yW:∀(n:Nat) (s:List Int),(KW n s).1.length+(KW n s).2.length<=s.length
 |0,s=>by simp[KW]
 |n+1,[]=>by simp[KW]
 |n+1,c::t=>by
  simp only[KW]
  split
  ·have:=yW n t
   simp;omega
  ·split
   ·have:=yW n (KD t).2
    have:=JR1 t;simp;omega
   ·simp
theorem JJt(s:List Int):(name s).1.length<=s.length:=by have:=yW s.length s;unfold name;omega
theorem qL:∀{a b:List Int},By a->By b->WN a=WN b->a=b
 |[],[],_,_,_=>rfl
 |[],_::_,_,_,h=>by simp[WN]at h
 |_::_,[],_,_,h=>by simp[WN]at h
 |x::a,y::b,ha,hb,h=>by
  simp only[WN,AU,BM]at h;have hx:=ha x (by simp)
  have hy:=hb y (by simp)
  have h1:x=y:=by have:=congrArg B7 h.1;simp only[BR]at this;omega
  rw[h1,qL (λc hc=>ha c (by simp[hc])) (λc hc=>hb c (by simp[hc])) h.2]
theorem JOZ(x:Int)(h0:0<=x)(h1:128<=x)(h2:x<=1114111):∃b r,enc x=b::r/\128<=b/\b<=255:=by
 unfold enc;rw[if_neg om]
 split
 ·exact⟨_,_,rfl,om,om⟩
 ·split
  ·exact⟨_,_,rfl,om,om⟩
  ·exact⟨_,_,rfl,om,om⟩
theorem JG9:∀(n ks:List Int),(∀k∈ks,97<=k/\k<128)->(((Q2 n).map yN=ks)↔(n.map yN=ks))
 |[],ks,_=>Iff.rfl
 |c::t,ks,hk=>by
  have e:Q2 (c::t)=enc (KQ c)++Q2 t:=rfl;have hs:=ZQ c;by_cases hc:0<=c/\c<128
  ·have e1:enc (KQ c)=[c]:=by
    rw[JJp hc];unfold enc;rw[if_pos hc.2]
   rw[e,e1]
   cases ks with
   |nil=>simp
   |cons k ks=>simp only[Ae,Af,AU,BM];rw[JG9 t ks λx hx=>hk x (by simp[hx])]
  ·have hsc:128<=KQ c:=by
    rcases L8 (KQ c) 128 with h|h
    ·have:=qU rfl h
     omega
    ·exact h
   obtain⟨b,r,e1,b1,b2⟩:=JOZ (KQ c) hs.1 hsc hs.2;rw[e,e1]
   cases ks with
   |nil=>simp
   |cons k ks=>
    have hk0:=hk k (by simp)
    simp only[Ae,AU,BM]
    constructor
    ·rintro⟨h,_⟩
     exfalso;unfold yN at h
     split at h
     ·rename_i h2;simp at h2;omega
     ·omega
    ·rintro⟨h,_⟩
     exfalso;unfold yN at h
     split at h
     ·rename_i h2;simp at h2;omega
     ·omega
theorem JZ4{l:List Int}(h:By l):By (l.map yN):=by
 intro c hc;obtain⟨x,hx,rfl⟩:=List.mem_map.1 hc;have:=h x hx;unfold yN
 split
 ·rename_i h2;simp at h2;omega
 ·exact this
theorem JR2(n:List Int):JUV (Q2 n) [117,114,108]=Gn n:=by
 unfold JUV Gn;have h1:([117,114,108]:List Int).map low=[117,114,108]:=by decide
 have h2:(Q2 n).map low=(Q2 n).map yN:=rfl;rw[h1,h2,Cu,beq_iff_eq,beq_iff_eq,<-JG9 n [117,114,108] (by decide)]
 constructor
 ·exact qL (JZ4 (zo n)) (by decide)
 ·intro h;rw[h]
section
variable{lo i j:Nat}{l:List Int}{p q:List Ob}
noncomputable abbrev Yd(lo:Nat)(p q:List Ob):Cx:=⟨Aa,E,lo,p.length+(q.length+1),h79⟩
abbrev kC(p q:List Ob)(l:List Int)(j:Nat)(n:List Int)(ex:Ja):Ja×Heap:=
 ((0,.ptr p.length 0)::(2,.ptr (p.length+(q.length+1)) 0)::(3,.v (.string (str n)))::ex,p++R l j::(q++[.cells (tokC 0 [])]))
abbrev zM(p q:List Ob)(l:List Int)(j:Nat)(t:Tk):Option (Ex×Ja×Heap):=some (.ret,[(2,.ptr (p.length+(q.length+1)) 0)],p++R l j::(q++[.cells (tkC t)]))
theorem Jmp(hl:l.length<=100000000000)(hi:i<=l.length):∃j,j<=l.length/\i<=j/\suf l j=(name (suf l i)).2/\
  ∀lo p q,lo<=p.length->lo<=p.length+(q.length+1)->QM (Yd lo p q) JA (pc b79 0 4) (K2 [.ptr p.length 0],p++R l i::q)=
   if chr (suf l j) 0=40 then some (.normal,kC p q l j (name (suf l i)).1 [(9,.v (.bool false))])else zM p q l j (tk 1 (name (suf l i)).1):=by
 obtain⟨j,a1,a2,a3,a4⟩:=f76 (l:=l) (i:=i) hl hi;have k0:=λlo p q=>f43 (lo:=lo) (l:=l) (i:=j) (p:=p) (q:=q) (k:=0) om
 simp only[n0]at k0;refine⟨j,a1,a2,a3,λlo p q hlo hlo2=>?_⟩
 by_cases hc:chr (suf l j) 0=40
 ·have t:(chr (suf l j) 0 !=40)=false:=by simp[hc]
  rw[if_pos hc];simp only[go_sem,Yd,kC,b79,Tryz.f79,a4 _ _ _ hlo,k0,t,tokC,str_nil]<;>rfl
 ·have t:(chr (suf l j) 0 !=40)=true:=by simp[hc]
  rw[if_neg hc];simp only[go_sem,Yd,kC,b79,Tryz.f79,a4 _ _ _ hlo,k0,t,hlo2,tokC,tkC,tk,str_nil]<;>rfl
theorem JZ5{n:List Int}(hn:n.length<=200000000000)(hj:j<=100000000000):∀lo p q,lo<=p.length->lo<=p.length+(q.length+1)->
  QM (Yd lo p q) JA (pc b79 4 3) (kC p q l j n [(9,.v (.bool false))])=
   if Gn n=true then some (.normal,kC p q l (j+1) n [(21,.v (.bool false))])else zM p q l (j+1) (tk 2 n):=by
 intro lo p q hlo hlo2;have hw1:=JD (i:=j) om
 have hel:(Q2 n).length<=1000000000000:=by have:=JCD n;omega
 have k24:=λ(h:Heap) (hh:lo<=h.length)=>f92 (lo:=lo) (h:=h) (a:=Q2 n) (b:=[117,114,108]) hh hel (zo n) (by decide) (by decide)
 have es:(⟨(WN (Q2 n)).toArray⟩:ByteArray)=str n:=rfl;have eu:(⟨(WN [117,114,108]).toArray⟩:ByteArray)=⟨#[117,114,108]⟩:=rfl;simp only[es,eu,JR2]at k24;have k:=k24 (p++R l (j+1)::(q++[.cells (tokC 0 [])])) (by simp;omega)
 simp only[tokC,str_nil]at k
 cases hu:Gn n with
 |true=>
  rw[hu]at k;rw[if_pos rfl]
  simp only[go_sem,Yd,kC,b79,Tryz.f79,hw1,hlo,k,tokC,str_nil]<;>rfl
 |false=>
  rw[hu]at k;rw[if_neg (by simp)]
  simp only[go_sem,Yd,kC,b79,Tryz.f79,hw1,hlo,hlo2,k,tokC,tkC,tk,str_nil]<;>rfl
theorem JZ6{n:List Int}(hl:l.length<=100000000000):∀(m i:Nat) (x:V),(suf l i).length<=m->i<=l.length->
  ∃j,j<=l.length/\i<=j/\suf l j=Zm m (suf l i)/\
   ∀lo (p q:List Ob),lo<=p.length->JA (evCode (Yd lo p q) JA JBY) (kC p q l i n [(21,x)])=some (.exit 0,kC p q l j n [(31,.v (.bool false))]):=by
 have stop:∀(i:Nat) (x:V),i<=l.length->(blk (chr (suf l i) 0)&&blk (chr (suf l i) 1))=false->
   ∀lo (p q:List Ob),lo<=p.length->JA (evCode (Yd lo p q) JA JBY) (kC p q l i n [(21,x)])=some (.exit 0,kC p q l i n [(31,.v (.bool false))]):=by
  intro i x hi hb lo p q hlo;have k0:=λlo p q=>f43 (lo:=lo) (l:=l) (i:=i) (p:=p) (q:=q) (k:=0) om
  have k1:=λlo p q=>f43 (lo:=lo) (l:=l) (i:=i) (p:=p) (q:=q) (k:=1) om
  have n1:((1:Nat):Int)=1:=rfl;simp only[n0,n1]at k0 k1;rw[JB]
  cases h0:blk (chr (suf l i) 0)with
  |true=>
   have h1:blk (chr (suf l i) 1)=false:=by simpa[h0]using hb
   simp only[go_sem,Yd,kC,JBY,b79,Tryz.f79,k0,k1,f70,h0,h1,tokC,str_nil]<;>rfl
  |false=>simp only[go_sem,Yd,kC,JBY,b79,Tryz.f79,k0,k1,f70,h0,tokC,str_nil]<;>rfl
 intro m
 induction m with
 |zero=>
  intro i x h1 h2;have hs:suf l i=[]:=Au om
  exact⟨i,h2,Ac _,rfl,stop i x h2 (by rw[hs];rfl)⟩
 |succ m ih=>
  intro i x h1 h2;by_cases hb:(blk (chr (suf l i) 0)&&blk (chr (suf l i) 1))=true
  ·have hi:i<l.length:=by
    rcases Ax i l.length with h|h
    ·exact h
    ·rw[JV h]at hb;exact absurd hb (by decide)
   have k0:=λlo p q=>f43 (lo:=lo) (l:=l) (i:=i) (p:=p) (q:=q) (k:=0) om
   have k1:=λlo p q=>f43 (lo:=lo) (l:=l) (i:=i) (p:=p) (q:=q) (k:=1) om
   have hw1:=JD (i:=i) om;have n1:((1:Nat):Int)=1:=rfl;simp only[n0,n1]at k0 k1;obtain⟨j,j1,j2,j3,j4⟩:=ih (i+1) .undef (by rw[Jv]at h1⊢;omega) om
   have e1:suf l (i+1)=(suf l i).drop 1:=by simp[suf,AC]
   refine⟨j,j1,om,by rw[j3,e1];simp only[Zm];rw[if_pos hb],λlo p q hlo=>?_⟩
   rw[Ah]at hb
   have e:evCode (Yd lo p q) JA JBY (kC p q l i n [(21,x)])=some (.normal,kC p q l (i+1) n [(21,.undef)]):=by simp only[go_sem,Yd,kC,JBY,b79,Tryz.f79,k0,k1,f70,hb.1,hb.2,hw1,hlo,tokC,str_nil]<;>rfl
   rw[JB,e,JK];exact j4 lo p q hlo
  ·refine⟨i,h2,Ac _,by simp only[Zm];rw[if_neg hb],stop i x h2 (by simpa using hb)⟩
theorem Jmq{n:List Int}(hl:l.length<=100000000000)(hi:i<=l.length):∃j,j<=l.length/\i<=j/\suf l j=Qq (suf l i)/\
  ∀lo p q,lo<=p.length->QM (Yd lo p q) JA (pc b79 7 1) (kC p q l i n [(21,.v (.bool false))])=some (.normal,kC p q l j n [(31,.v (.bool false))]):=by
 obtain⟨j,j1,j2,j3,j4⟩:=JZ6 (n:=n) hl (suf l i).length i (.v (.bool false)) (Ac _) hi;refine⟨j,j1,j2,j3,λlo p q hlo=>?_⟩
 have hL:=j4 lo p q hlo;simp only[Yd,kC,JBY,b79,Tryz.f79,JG,JT,JC,go_sem,tokC,str_nil]at hL;simp only[go_sem,Yd,kC,b79,Tryz.f79,hL,tokC,str_nil]
theorem Jfn{n:List Int}(hj:j<=100000000000):∀lo p q,lo<=p.length->lo<=p.length+(q.length+1)->
  QM (Yd lo p q) JA (pc b79 8 5) (kC p q l j n [(31,.v (.bool false))])=
   if quo (if blk (chr (suf l j) 0)=true then chr (suf l j) 1 else chr (suf l j) 0)=true then zM p q l j (tk 2 n)else some (.normal,kC p q l j n [(50,.v (.bool false))]):=by
 intro lo p q hlo hlo2;have k0:=λlo p q=>f43 (lo:=lo) (l:=l) (i:=j) (p:=p) (q:=q) (k:=0) om
 have k1:=λlo p q=>f43 (lo:=lo) (l:=l) (i:=j) (p:=p) (q:=q) (k:=1) om
 have n1:((1:Nat):Int)=1:=rfl;simp only[n0,n1]at k0 k1
 cases hb:blk (chr (suf l j) 0)with
 |true=>
  simp only[if_true];generalize chr (suf l j) 1=c at*
  cases h34:(c==34)with
  |true=>
   rw[if_pos (by simp[quo,h34])]
   simp only[go_sem,Yd,kC,b79,Tryz.f79,k0,k1,f70,hb,h34,hlo2,tokC,tkC,tk,str_nil]<;>rfl
  |false=>
   cases h39:(c==39)with
   |true=>
    rw[if_pos (by simp[quo,h39])]
    simp only[go_sem,Yd,kC,b79,Tryz.f79,k0,k1,f70,hb,h34,h39,hlo2,tokC,tkC,tk,str_nil]<;>rfl
   |false=>
    rw[if_neg (by simp[quo,h34,h39])]
    simp only[go_sem,Yd,kC,b79,Tryz.f79,k0,k1,f70,hb,h34,h39,tokC,str_nil]<;>rfl
 |false=>
  simp only[As,if_false];generalize chr (suf l j) 0=c at*
  cases h34:(c==34)with
  |true=>
   rw[if_pos (by simp[quo,h34])]
   simp only[go_sem,Yd,kC,b79,Tryz.f79,k0,k1,f70,hb,h34,hlo2,tokC,tkC,tk,str_nil]<;>rfl
  |false=>
   cases h39:(c==39)with
   |true=>
    rw[if_pos (by simp[quo,h39])]
    simp only[go_sem,Yd,kC,b79,Tryz.f79,k0,k1,f70,hb,h34,h39,hlo2,tokC,tkC,tk,str_nil]<;>rfl
   |false=>
    rw[if_neg (by simp[quo,h34,h39])]
    simp only[go_sem,Yd,kC,b79,Tryz.f79,k0,k1,f70,hb,h34,h39,tokC,str_nil]<;>rfl
theorem JU2(x:Bool×List Int×List Int):Y4 [] x=tkC (Hz x):=by unfold Y4 Hz;cases x.1<;>rfl
theorem Jmr{n:List Int}(hl:l.length<=100000000000)(hi:i<=l.length):∃j,j<=l.length+2/\i<=j/\suf l j=(yy (suf l i)).2.2/\
  ∀lo p q,lo<=p.length->lo<=p.length+(q.length+1)->QM (Yd lo p q) JA (pc b79 13 2) (kC p q l i n [(50,.v (.bool false))])=zM p q l j (Hz (yy (suf l i))):=by
 obtain⟨j,a1,a2,a3,a4⟩:=f98 (l:=l) (i:=i) hl hi;refine⟨j,a1,a2,a3,λlo p q hlo hlo2=>?_⟩
 have k:=a4 lo p (q++[.cells (tokC 0 [])]) hlo;rw[JU2]at k;simp only[tokC,tkC,str_nil]at k;simp only[go_sem,Yd,kC,b79,Tryz.f79,k,hlo2,tokC,tkC,str_nil]<;>rfl
theorem qV{t:Tk}{o:Ob}:fin Aa [.cell 2 51] (p.length+(q.length+1)) (some (.ret,[(2,.ptr (p.length+(q.length+1)) 0)],p++o::(q++[.cells (tkC t)])))=some (.agg (tkC t),p++o::q):=JRz (h:=[]) (r2:=[])
theorem f79(hl:l.length<=100000000000)(hi:i<=l.length):∃j,j<=l.length+2/\i<=j/\suf l j=(HT (suf l i)).2/\
  ∀lo p q,lo<=p.length->E lo 79 [.ptr p.length 0] (p++R l i::q)=some (.agg (tkC (HT (suf l i)).1),p++R l j::q):=by
 obtain⟨j1,a1,a2,a3,a4⟩:=Jmp (l:=l) (i:=i) hl hi;have hnl:=JJt (suf l i);rw[Jv]at hnl;have hH:∀p q:List Ob,(p++R l i::q).length=p.length+(q.length+1):=λp q=>by simp
 unfold HT;simp only;rw[<-a3];by_cases h40:chr (suf l j1) 0=40
 ·have hne:j1<l.length:=by
   rcases Ax j1 l.length with h|h
   ·exact h
   ·rw[JV h]at h40;cases h40
  have e1:suf l (j1+1)=(suf l j1).drop 1:=by simp[suf,AC]
  rw[if_pos h40]
  cases hu:Gn (name (suf l i)).1 with
  |true=>
   obtain⟨j2,b1,b2,b3,b4⟩:=Jmq (n:=(name (suf l i)).1) (l:=l) (i:=j1+1) hl om;rw[if_pos rfl,<-e1,<-b3];by_cases hq:quo (if blk (chr (suf l j2) 0)=true then chr (suf l j2) 1 else chr (suf l j2) 0)=true
   ·rw[if_pos hq]
    refine⟨j2,om,om,rfl,λlo p q hlo=>?_⟩
    rw[e79,hH,pc_in,pc_go _ _ _ _ 0 4,a4 lo p q hlo om,if_pos h40,pc_go _ _ _ _ _ 3,JZ5 om om lo p q hlo om,hu,if_pos rfl,
     pc_go _ _ _ _ _ 1,b4 lo p q hlo,pc_go _ _ _ _ _ 5,Jfn om lo p q hlo om,if_pos hq,zM,Qw]
    exact qV
   ·obtain⟨j3,c1,c2,c3,c4⟩:=Jmr (n:=(name (suf l i)).1) (l:=l) (i:=j2) hl b1
    rw[if_neg hq];refine⟨j3,c1,om,c3,λlo p q hlo=>?_⟩
    rw[e79,hH,pc_in,pc_go _ _ _ _ 0 4,a4 lo p q hlo om,if_pos h40,pc_go _ _ _ _ _ 3,JZ5 om om lo p q hlo om,hu,if_pos rfl,
     pc_go _ _ _ _ _ 1,b4 lo p q hlo,pc_go _ _ _ _ _ 5,Jfn om lo p q hlo om,if_neg hq,pc_go _ _ _ _ _ 2,c4 lo p q hlo om,zM,Qw]
    exact qV
  |false=>
   rw[if_neg (by simp)]
   refine⟨j1+1,om,om,e1,λlo p q hlo=>?_⟩
   rw[e79,hH,pc_in,pc_go _ _ _ _ 0 4,a4 lo p q hlo om,if_pos h40,pc_go _ _ _ _ _ 3,JZ5 om om lo p q hlo om,hu,if_neg (by simp),zM,Qw]
   exact qV
 ·rw[if_neg h40]
  refine⟨j1,om,om,rfl,λlo p q hlo=>?_⟩
  rw[e79,hH,pc_in,pc_go _ _ _ _ 0 4,a4 lo p q hlo om,if_neg h40,zM,Qw];exact qV
end
section
variable{lo i j:Nat}{l:List Int}{p q:List Ob}
def Gp(l:List Int)(i:Nat):Nat:=if chr (suf l i) 0=41 then i+1 else i
theorem f109{out:List Int}(hl:l.length<=100000000000)(hi:i<=l.length)(ho:out.length<=100000000000)(hlo:lo<=p.length):
  E lo 109 [.ptr (p.length+(q.length+1)) 0,.ptr (p.length+(q.length+3)) 0] (p++R l i::(q++[.cells [.ptr p.length 0],.cells (tokC 0 []),.cells [.list .yes (ri .i32 out)]]))=
   some (.agg (tokC 7 out),p++R l (Gp l i)::(q++[.cells [.ptr p.length 0],.cells (tokC 0 []),.cells [.list .yes (ri .i32 out)]])):=by
 have ks:=λlo p q=>f49 (lo:=lo) (l:=l) (i:=i) (p:=p) (q:=q) (cs:=[41]) (by simp;omega)
 have hw:=JD (i:=i) om;have k69:=λlo h=>JOJ (lo:=lo) (l:=out) (h:=h) om
 have es:(⟨(WN (Q2 out)).toArray⟩:ByteArray)=str out:=rfl;simp only[Ka,J4,qD]at ks;have hloA:lo<=p.length+(q.length+4):=om;rw[Jld];unfold Gp;by_cases hc:chr (suf l i) 0=41
 ·have t:(chr (suf l i) 0==41)=true:=by simp[hc]
  rw[if_pos hc];simp only[go_sem,JYr,Tryz.f109,ks,t,hw,hlo,hloA,k69,es,tokC,str_nil]<;>rfl
 ·have t:(chr (suf l i) 0==41)=false:=by simp[hc]
  rw[if_neg hc];simp only[go_sem,JYr,Tryz.f109,ks,t,hloA,k69,es,tokC,str_nil]<;>rfl
noncomputable abbrev X159(lo:Nat)(p q:List Ob):Cx:=⟨Aa,E,lo,p.length+(q.length+1),h91⟩
abbrev H115(p q:List Ob)(l:List Int)(i:Nat)(t:List V)(out:List Int):Heap:=p++R l i::(q++[.cells [.ptr p.length 0],.cells t,.cells [.list .yes (ri .i32 out)]])
abbrev P115(p q:List Ob)(l:List Int)(i:Nat)(out:List Int):Ja×Heap:=
 ([(1,.ptr (p.length+(q.length+1)) 0),(2,.ptr (p.length+(q.length+2)) 0),(3,.ptr (p.length+(q.length+3)) 0),(4,.fn 109 [.ptr (p.length+(q.length+1)) 0,.ptr (p.length+(q.length+3)) 0])],H115 p q l i (tokC 0 []) out)
theorem Jfo(hl:l.length<=100000000000)(hi:i<=l.length):∃j,j<=l.length/\i<=j/\suf l j=Kb (suf l i)/\
  ∀lo p q,lo<=p.length->QM (X159 lo p q) JA (pc b91 0 4) (K2 [.ptr p.length 0],p++R l i::q)=some (.normal,P115 p q l j []):=by
 obtain⟨j,a1,a2,a3,a4⟩:=f51 (l:=l) (i:=i) hl hi;refine⟨j,a1,a2,a3,λlo p q hlo=>?_⟩
 simp only[go_sem,X159,P115,H115,b91,Tryz.f91,a4 _ _ _ hlo,tokC,str_nil,J4]<;>rfl
theorem Jfp{out:List Int}{c d:Int}(hl:l.length<=100000000000)(hi:i<l.length)(hol:out.length<=100000000000)(hcc:chr (suf l i) 0=c)(hdd:chr (suf l (i+1)) 0=d)(hs:suf l i=c::suf l (i+1))
  (hb:blk c=false)(t41:(c==41)=false)(te:(c== -1)=false)(u1:(c==34)=false)(u2:(c==39)=false)(u3:(c==40)=false)(u4:unp c=false)(t92:(c==92)=true)(he:Gi c d=true):
  ∃j0,j0<=l.length/\i+1<=j0/\suf l j0=(KD (suf l (i+1))).2/\ ∀lo p q,lo<=p.length->lo<=p.length+(q.length+3)->
   evCode (X159 lo p q) JA l91x0 (P115 p q l i out)=some (.normal,P115 p q l j0 (out++[(KD (suf l (i+1))).1])):=by
 have k0:=λlo p q=>f32 (lo:=lo) (l:=l) (i:=i) (p:=p) (q:=q) (k:=0) om
 have ke:=λlo p q=>f58 (lo:=lo) (l:=l) (i:=i) (p:=p) (q:=q) (k:=0) om
 have hw1:=JD (i:=i) om;have hn:chr (suf l i) (0+1)=chr (suf l (i+1)) 0:=by rw[hs];exact Kl _ _ 0
 have hr:∀k,k<=4->(out.length+k)*4<=140737488355328:=by intro k hk;omega
 have hq:∀k,9223372036854775800<=k->out.length<=k:=by intro k hk;omega
 have app:∀y:Int,ri .i32 out++[[V.v (.int .i32 y)]]=ri .i32 (out++[y]):=by intro y;rw[<-ri_app];rfl
 simp only[n0,hcc,hn,hdd,he]at k0 ke;obtain⟨j0,a1,a2,a3,a4⟩:=f86 (l:=l) (i:=i+1) hl om;refine⟨j0,a1,a2,a3,λlo p q hlo hlo3=>?_⟩
 simp only[go_sem,X159,P115,H115,l91x0,b91,Tryz.f91,k0,f50,f111,te,t41,hb,u1,u2,u3,u4,t92,ke,hw1,hlo,hlo3,a4 _ _ _ hlo,hr,hq,app,and_self,tokC,str_nil]<;>rfl
theorem Jfq{out:List Int}{c:Int}(hl:l.length<=100000000000)(hi:i<l.length)(hol:out.length<=100000000000)(hcc:chr (suf l i) 0=c)
  (hb:blk c=false)(t41:(c==41)=false)(te:(c== -1)=false)(u1:(c==34)=false)(u2:(c==39)=false)(u3:(c==40)=false)(u4:unp c=false)(t92:(c==92)=false):
  ∀lo p q,lo<=p.length->lo<=p.length+(q.length+3)->
   evCode (X159 lo p q) JA l91x0 (P115 p q l i out)=some (.normal,P115 p q l (i+1) (out++[c])):=by
 have k0:=λlo p q=>f32 (lo:=lo) (l:=l) (i:=i) (p:=p) (q:=q) (k:=0) om
 have kt:=λlo p q hlo=>f63 (lo:=lo) (l:=l) (i:=i) (p:=p) (q:=q) hlo om
 have hr:∀k,k<=4->(out.length+k)*4<=140737488355328:=by intro k hk;omega
 have hq:∀k,9223372036854775800<=k->out.length<=k:=by intro k hk;omega
 have app:∀y:Int,ri .i32 out++[[V.v (.int .i32 y)]]=ri .i32 (out++[y]):=by intro y;rw[<-ri_app];rfl
 simp only[n0,hcc]at k0 kt;intro lo p q hlo hlo3;simp only[go_sem,X159,P115,H115,l91x0,b91,Tryz.f91,k0,f50,f111,te,t41,hb,u1,u2,u3,u4,t92,hlo,hlo3,kt _ _ _ hlo,hr,hq,app,and_self,tokC,str_nil]<;>rfl
abbrev Zn(p q:List Ob)(l:List Int)(j:Nat)(t:Tk)(out:List Int):Option (Ex×Ja×Heap):=some (.ret,[(2,.ptr (p.length+(q.length+2)) 0)],H115 p q l j (tkC t) out)
theorem Jfr{out:List Int}(hl:l.length<=100000000000)(hi:i<=l.length)(hol:out.length<=100000000000)(hcc:chr (suf l i) 0=41\/chr (suf l i) 0= -1):
  ∀lo p q,lo<=p.length->lo<=p.length+(q.length+2)->evCode (X159 lo p q) JA l91x0 (P115 p q l i out)=Zn p q l (Gp l i) (tk 7 out) out:=by
 intro lo p q hlo hlo2;have k0:=λlo p q=>f32 (lo:=lo) (l:=l) (i:=i) (p:=p) (q:=q) (k:=0) om
 have kd:=f109 (lo:=lo) (l:=l) (i:=i) (p:=p) (q:=q) (out:=out) hl hi hol hlo;simp only[n0]at k0;simp only[tokC,str_nil]at kd;rcases hcc with hcc|hcc
 ·have t:((41:Int)==41)=true:=rfl
  rw[hcc]at k0;simp only[go_sem,X159,P115,H115,l91x0,b91,Tryz.f91,k0,t,kd,hlo2,tokC,tkC,tk,str_nil]<;>rfl
 ·have t:((-1:Int)==41)=false:=rfl
  have t2:((-1:Int)== -1)=true:=rfl;rw[hcc]at k0;simp only[go_sem,X159,P115,H115,l91x0,b91,Tryz.f91,k0,t,t2,kd,hlo2,tokC,tkC,tk,str_nil]<;>rfl
theorem Jfs{out:List Int}{c:Int}(hl:l.length<=100000000000)(hi:i<l.length)(hol:out.length<=100000000000)(hcc:chr (suf l i) 0=c)(hb:blk c=true):
  ∃j0,j0<=l.length/\i<=j0/\suf l j0=Kb (suf l i)/\ ∃j,j<=l.length/\j0<=j/\
   suf l j=(if chr (suf l j0) 0= -1\/chr (suf l j0) 0=41 then(suf l j0).drop 1 else HC (suf l j0))/\
   ∀lo p q,lo<=p.length->lo<=p.length+(q.length+2)->evCode (X159 lo p q) JA l91x0 (P115 p q l i out)=
    Zn p q l j (if chr (suf l j0) 0= -1\/chr (suf l j0) 0=41 then tk 7 out else tk 8 []) out:=by
 have k0:=λlo p q=>f32 (lo:=lo) (l:=l) (i:=i) (p:=p) (q:=q) (k:=0) om
 obtain⟨j0,a1,a2,a3,a4⟩:=f51 (l:=l) (i:=i) hl om;have kj:=λlo p q=>f32 (lo:=lo) (l:=l) (i:=j0) (p:=p) (q:=q) (k:=0) om
 have t41:(c==41)=false:=by simp only[blk,AN,beq_iff_eq]at hb;simp;omega
 have te:(c== -1)=false:=by simp only[blk,AN,beq_iff_eq]at hb;simp;omega
 simp only[n0,hcc]at k0;simp only[n0]at kj;refine⟨j0,a1,a2,a3,?_⟩
 by_cases hend:chr (suf l j0) 0= -1\/chr (suf l j0) 0=41
 ·rw[if_pos hend,if_pos hend]
  have hstep:suf l (Gp l j0)=(suf l j0).drop 1/\Gp l j0<=l.length/\j0<=Gp l j0:=by
   unfold Gp
   split
   ·rename_i h41
    have:j0<l.length:=by
     rcases Ax j0 l.length with h|h
     ·exact h
     ·rw[JV h]at h41;cases h41
    exact⟨by simp[suf,AC],om,om⟩
   ·rename_i h41
    have hs:suf l j0=[]:=by
     rcases Ax j0 l.length with h|h
     ·have:=Qa h
      omega
     ·exact JV h
    exact⟨by rw[hs];rfl,a1,Ac _⟩
  refine⟨Gp l j0,hstep.2.1,hstep.2.2,hstep.1,λlo p q hlo hlo2=>?_⟩
  have kd:=f109 (lo:=lo) (l:=l) (i:=j0) (p:=p) (q:=q) (out:=out) hl a1 hol hlo;simp only[tokC,str_nil]at kd;rcases hend with h|h
  ·have t:((-1:Int)==41)=false:=rfl
   have t2:((-1:Int)== -1)=true:=rfl;rw[h]at kj;simp only[go_sem,X159,P115,H115,l91x0,b91,Tryz.f91,k0,t41,te,f50,hb,a4 _ _ _ hlo,kj,t,t2,kd,hlo2,tokC,tkC,tk,str_nil]<;>rfl
  ·have t:((41:Int)==41)=true:=rfl
   rw[h]at kj;simp only[go_sem,X159,P115,H115,l91x0,b91,Tryz.f91,k0,t41,te,f50,hb,a4 _ _ _ hlo,kj,t,kd,hlo2,tokC,tkC,tk,str_nil]<;>rfl
 ·rw[if_neg hend,if_neg hend]
  obtain⟨j,b1,b2,b3,b4⟩:=f110 (l:=l) (i:=j0) hl a1;have t:(chr (suf l j0) 0==41)=false:=by simp;exact λh=>hend (.inr h)
  have t2:(chr (suf l j0) 0== -1)=false:=by simp;exact λh=>hend (.inl h)
  refine⟨j,b1,b2,b3,λlo p q hlo hlo2=>?_⟩
  simp only[tokC,str_nil]at b4;simp only[go_sem,X159,P115,H115,l91x0,b91,Tryz.f91,k0,t41,te,f50,hb,a4 _ _ _ hlo,kj,t,t2,b4 _ _ _ hlo,hlo2,tokC,tkC,tk,str_nil]<;>rfl
theorem JVl{out:List Int}{c:Int}(hl:l.length<=100000000000)(hi:i<l.length)(hcc:chr (suf l i) 0=c)(hb:blk c=false)(t41:(c==41)=false)(te:(c== -1)=false)
  (hbad:(quo c||c==40||unp c)=true\/((quo c||c==40||unp c)=false/\(c==92)=true/\Gi c (chr (suf l (i+1)) 0)=false)):
  ∃j,j<=l.length/\i<=j/\suf l j=HC (suf l i)/\ ∀lo p q,lo<=p.length->lo<=p.length+(q.length+2)->evCode (X159 lo p q) JA l91x0 (P115 p q l i out)=Zn p q l j (tk 8 []) out:=by
 have k0:=λlo p q=>f32 (lo:=lo) (l:=l) (i:=i) (p:=p) (q:=q) (k:=0) om
 have ke:=λlo p q=>f58 (lo:=lo) (l:=l) (i:=i) (p:=p) (q:=q) (k:=0) om
 have hn:chr (suf l i) (0+1)=chr (suf l (i+1)) 0:=by rw[Jb hi];exact Kl _ _ 0
 obtain⟨j,b1,b2,b3,b4⟩:=f110 (l:=l) (i:=i) hl om;simp only[n0,hcc,hn]at k0 ke;refine⟨j,b1,b2,b3,λlo p q hlo hlo2=>?_⟩
 simp only[tokC,str_nil]at b4
 have hcase:(c==34)=true\/((c==34)=false/\((c==39)=true\/((c==39)=false/\((c==40)=true\/((c==40)=false/\(unp c=true\/(unp c=false/\(c==92)=true/\Gi c (chr (suf l (i+1)) 0)=false))))))):=by
  simp only[quo]at hbad;cases a1:(c==34)<;>cases a2:(c==39)<;>cases a3:(c==40)<;>cases a4:unp c<;>simp[a1,a2,a3,a4]at hbad⊢
  exact hbad
 rcases hcase with u1|⟨u1,u2|⟨u2,u3|⟨u3,u4|⟨u4,u5,u6⟩⟩⟩⟩
 ·simp only[go_sem,X159,P115,H115,l91x0,b91,Tryz.f91,k0,f50,f111,te,t41,hb,u1,b4 _ _ _ hlo,hlo2,tokC,tkC,tk,str_nil]<;>rfl
 ·simp only[go_sem,X159,P115,H115,l91x0,b91,Tryz.f91,k0,f50,f111,te,t41,hb,u1,u2,b4 _ _ _ hlo,hlo2,tokC,tkC,tk,str_nil]<;>rfl
 ·simp only[go_sem,X159,P115,H115,l91x0,b91,Tryz.f91,k0,f50,f111,te,t41,hb,u1,u2,u3,b4 _ _ _ hlo,hlo2,tokC,tkC,tk,str_nil]<;>rfl
 ·simp only[go_sem,X159,P115,H115,l91x0,b91,Tryz.f91,k0,f50,f111,te,t41,hb,u1,u2,u3,u4,b4 _ _ _ hlo,hlo2,tokC,tkC,tk,str_nil]<;>rfl
 ·simp only[go_sem,X159,P115,H115,l91x0,b91,Tryz.f91,k0,ke,f50,f111,te,t41,hb,u1,u2,u3,u4,u5,u6,b4 _ _ _ hlo,hlo2,tokC,tkC,tk,str_nil]<;>rfl
theorem JZ7(hl:l.length<=100000000000):∀(m i:Nat) (out:List Int),(suf l i).length<=m->i<=l.length->out.length<=i->
  ∃j,j<=l.length/\i<=j/\suf l j=(KJ m (suf l i)).2.2/\ ∃o2,∀lo (p q:List Ob),lo<=p.length->lo<=p.length+(q.length+2)->lo<=p.length+(q.length+3)->
   JA (evCode (X159 lo p q) JA l91x0) (P115 p q l i out)=Zn p q l j (if(KJ m (suf l i)).1=true then tk 7 (out++(KJ m (suf l i)).2.1)else tk 8 []) o2:=by
 have stop:∀(i:Nat) (out:List Int),(suf l i=[]\/ ∃t,suf l i=41::t)->i<=l.length->out.length<=i->
  ∃j,j<=l.length/\i<=j/\suf l j=(suf l i).drop 1/\ ∃o2,∀lo (p q:List Ob),lo<=p.length->lo<=p.length+(q.length+2)->lo<=p.length+(q.length+3)->
   JA (evCode (X159 lo p q) JA l91x0) (P115 p q l i out)=Zn p q l j (tk 7 out) o2:=by
  intro i out hs h2 h3
  have hcc:chr (suf l i) 0=41\/chr (suf l i) 0= -1:=by
   rcases hs with hs|⟨t,hs⟩
   ·right;rw[hs];rfl
   ·left;rw[hs];rfl
  refine⟨Gp l i,?_,?_,?_,out,λlo p q hlo hlo2 hlo3=>?_⟩
  ·unfold Gp
   split
   ·rename_i h41
    rcases Ax i l.length with h|h
    ·omega
    ·rw[JV h]at h41;cases h41
   ·exact h2
  ·unfold Gp;split<;>omega
  ·unfold Gp
   rcases hs with hs|⟨t,hs⟩
   ·rw[if_neg (by rw[hs];decide),hs];rfl
   ·rw[if_pos (by rw[hs];rfl)];simp[suf,AC]
  ·rw[JB,Jfr hl h2 om hcc lo p q hlo hlo2]
   rfl
 intro m
 induction m with
 |zero=>
  intro i out h1 h2 h3;have hs:suf l i=[]:=Au om;obtain⟨j,j1,j2,j3,o2,j4⟩:=stop i out (.inl hs) h2 h3;refine⟨j,j1,j2,by rw[j3,hs];rfl,o2,λlo p q hlo hlo2 hlo3=>?_⟩
  rw[j4 lo p q hlo hlo2 hlo3,hs]
  simp[KJ]
 |succ m ih=>
  intro i out h1 h2 h3;rcases Ax i l.length with hi|hi
  rotate_left
  ·have hs:suf l i=[]:=JV hi
   obtain⟨j,j1,j2,j3,o2,j4⟩:=stop i out (.inl hs) h2 h3;refine⟨j,j1,j2,by rw[j3,hs];rfl,o2,λlo p q hlo hlo2 hlo3=>?_⟩
   rw[j4 lo p q hlo hlo2 hlo3,hs];simp[KJ]
  have hcp:=Qa hi;have hs:=Jb hi;obtain⟨c,hcc⟩:∃c,chr (suf l i) 0=c:=⟨_,rfl⟩;rw[hcc]at hs hcp;have te:(c== -1)=false:=by simp;omega
  by_cases c41:c=41
  ·subst c41
   obtain⟨j,j1,j2,j3,o2,j4⟩:=stop i out (.inr ⟨_,hs⟩) h2 h3;have e:KJ (m+1) (41::suf l (i+1))=(true,[],suf l (i+1)):=by simp[KJ]
   refine⟨j,j1,j2,by rw[j3,hs,e];rfl,o2,λlo p q hlo hlo2 hlo3=>?_⟩
   rw[j4 lo p q hlo hlo2 hlo3,hs,e];simp
  have t41:(c==41)=false:=by simp[c41]
  cases hb:blk c with
  |true=>
   obtain⟨j0,a1,a2,a3,j,b1,b2,b3,b4⟩:=Jfs (out:=out) hl hi om hcc hb;have hbl:Kb (suf l i)=Kb (suf l (i+1)):=by rw[hs];exact Bu hb
   have e:KJ (m+1) (suf l i)=if chr (suf l j0) 0= -1\/chr (suf l j0) 0=41 then(true,[],(suf l j0).drop 1)else(false,[],HC (suf l j0)):=by rw[hs,a3,hbl]at*;simp only[KJ];rw[if_neg c41,if_pos hb]
   refine⟨j,b1,om,by rw[b3,e];split<;>rfl,out,λlo p q hlo hlo2 hlo3=>?_⟩
   rw[JB,b4 lo p q hlo hlo2,e];show Zn _ _ _ _ _ _=_
   congr 1
   split<;>simp
  |false=>
   by_cases hq1:(quo c||c==40||unp c)=true
   ·obtain⟨j,j1,j2,j3,j4⟩:=JVl (out:=out) hl hi hcc hb t41 te (.inl hq1)
    have e:KJ (m+1) (suf l i)=(false,[],HC (suf l i)):=by rw[hs];simp only[KJ];rw[if_neg c41,if_neg (by simp[hb]),if_pos hq1]
    refine⟨j,j1,om,by rw[j3,e],out,λlo p q hlo hlo2 hlo3=>?_⟩
    rw[JB,j4 lo p q hlo hlo2,e];rfl
   ·have hcase:(c==34)=false/\(c==39)=false/\(c==40)=false/\unp c=false:=by
     simp only[quo,AN]at hq1;cases a1:(c==34)<;>cases a2:(c==39)<;>cases a3:(c==40)<;>cases a4:unp c<;>simp[a1,a2,a3,a4]at hq1⊢
    obtain⟨u1,u2,u3,u4⟩:=hcase;by_cases c92:c=92
    ·have t92:(c==92)=true:=by simp[c92]
     cases he:Gi c (chr (suf l (i+1)) 0)with
     |true=>
      obtain⟨j0,a1,a2,a3,a4⟩:=Jfp (out:=out) (d:=chr (suf l (i+1)) 0) hl hi om hcc rfl hs hb t41 te u1 u2 u3 u4 t92 he
      have e:KJ (m+1) (suf l i)=((KJ m (KD (suf l (i+1))).2).1,(KD (suf l (i+1))).1::(KJ m (KD (suf l (i+1))).2).2.1,(KJ m (KD (suf l (i+1))).2).2.2):=by rw[hs];simp only[KJ];rw[if_neg c41,if_neg (by simp[hb]),if_neg hq1,if_pos c92,if_pos he]
      obtain⟨j,j1,j2,j3,o2,j4⟩:=ih j0 (out++[(KD (suf l (i+1))).1]) (by rw[Jv]at h1⊢;omega) a1 (by simp;omega)
      refine⟨j,j1,om,by rw[j3,e,a3],o2,λlo p q hlo hlo2 hlo3=>?_⟩
      rw[JB,a4 lo p q hlo hlo3,JK,j4 lo p q hlo hlo2 hlo3,e,a3]
      simp
     |false=>
      obtain⟨j,j1,j2,j3,j4⟩:=JVl (out:=out) hl hi hcc hb t41 te (.inr ⟨by simpa using hq1,t92,he⟩)
      have e:KJ (m+1) (suf l i)=(false,[],HC (suf l i)):=by rw[hs];simp only[KJ];rw[if_neg c41,if_neg (by simp[hb]),if_neg hq1,if_pos c92,if_neg (by simp[he])]
      refine⟨j,j1,om,by rw[j3,e],out,λlo p q hlo hlo2 hlo3=>?_⟩
      rw[JB,j4 lo p q hlo hlo2,e];rfl
    ·have t92:(c==92)=false:=by simp[c92]
     have e:KJ (m+1) (suf l i)=((KJ m (suf l (i+1))).1,c::(KJ m (suf l (i+1))).2.1,(KJ m (suf l (i+1))).2.2):=by rw[hs];simp only[KJ];rw[if_neg c41,if_neg (by simp[hb]),if_neg hq1,if_neg c92]
     obtain⟨j,j1,j2,j3,o2,j4⟩:=ih (i+1) (out++[c]) (by rw[Jv]at h1⊢;omega) om (by simp;omega)
     refine⟨j,j1,om,by rw[j3,e],o2,λlo p q hlo hlo2 hlo3=>?_⟩
     rw[JB,Jfq hl hi om hcc hb t41 te u1 u2 u3 u4 t92 lo p q hlo hlo3,JK,j4 lo p q hlo hlo2 hlo3,e];simp
theorem f91(hl:l.length<=100000000000)(hi:i<=l.length):∃j,j<=l.length/\i<=j/\suf l j=(yy (suf l i)).2.2/\
  ∀lo p q,lo<=p.length->E lo 91 [.ptr p.length 0] (p++R l i::q)=some (.agg (tkC (Hz (yy (suf l i)))),p++R l j::q):=by
 obtain⟨j0,a1,a2,a3,a4⟩:=Jfo (l:=l) (i:=i) hl hi;obtain⟨j,j1,j2,j3,o2,j4⟩:=JZ7 (l:=l) hl (suf l j0).length j0 [] (Ac _) a1 (by simp)
 have e:yy (suf l i)=KJ (suf l j0).length (suf l j0):=by unfold yy;rw[a3]
 have hH:∀p q:List Ob,(p++R l i::q).length=p.length+(q.length+1):=λp q=>by simp
 refine⟨j,j1,om,by rw[j3,e],λlo p q hlo=>?_⟩
 have hL:=j4 lo p q hlo om om;rw[Af]at hL;have e2:(if(KJ (suf l j0).length (suf l j0)).1=true then tk 7 (KJ (suf l j0).length (suf l j0)).2.1 else tk 8 [])=Hz (yy (suf l i)):=by rw[e];rfl
 rw[e2]at hL
 have hB:QM (X159 lo p q) JA (pc b91 4 1) (P115 p q l j0 [])=Zn p q l j (Hz (yy (suf l i))) o2:=by simp only[X159,P115,H115,Zn,l91x0,b91,Tryz.f91,JG,JT,JC,go_sem,tokC,tkC,str_nil,J4]at hL;simp only[go_sem,X159,P115,H115,Zn,b91,Tryz.f91,hL,tokC,tkC,str_nil,J4]
 rw[e91,hH,pc_in,pc_go _ _ _ _ 0 4,a4 lo p q hlo,pc_go _ _ _ _ _ 1,hB,Zn,Qw];simp only[go_sem,tkC]<;>rfl
end
theorem JJu(c:UInt8)(t:List UInt8):∃n b1 b2 b3,0<n/\Go.Lib.decodeL (c::t)=Go.Lib.decodeN n c.toNat b1 b2 b3:=by unfold Go.Lib.decodeL;rw[Go.Lib.decode_at];exact⟨_,_,_,_,by simp[ByteArray.size],rfl⟩
theorem JU3{c:UInt8}{t:List UInt8}(h:c.toNat<128):Go.Lib.decodeL (c::t)=(c.toNat,1):=by obtain⟨n,b1,b2,b3,_,e⟩:=JJu c t;rw[e];unfold Go.Lib.decodeN;rw[if_pos h]
theorem JU4{c:UInt8}{t:List UInt8}(h:128<=c.toNat):128<=(Go.Lib.decodeL (c::t)).1:=by
 obtain⟨n,b1,b2,b3,_,e⟩:=JJu c t;rw[e];unfold Go.Lib.decodeN;rw[if_neg om]
 split
 ·split
  ·rename_i h2;exact h2
  ·decide
 ·split
  ·split
   ·rename_i h2
    have:=h2.1;exact A3 (by decide) this
   ·decide
  ·split
   ·split
    ·rename_i h2
     have:=h2.1;exact A3 (by decide) this
    ·decide
   ·decide
theorem JR3{r:Int}(h:128<=r):∃b u,Go.Lib.encodeRune r=b::u/\128<=b.toNat:=by
 unfold Go.Lib.encodeRune Go.Lib.encodeRuneZ
 have toN:∀z:Int,128<=z->z<=255->128<=(z.toNat.toUInt8).toNat:=λz h1 h2=>by
  show 128<=(BE z.toNat).toNat
  simp only[BR];omega
 rw[if_neg om]
 split
 ·exact⟨_,_,rfl,toN _ om om⟩
 ·split
  ·exact⟨_,_,rfl,toN _ om om⟩
  ·split
   ·exact⟨_,_,rfl,toN _ om om⟩
   ·exact⟨_,_,rfl,by decide⟩
theorem JU5(c:Int):YS c=yN c:=rfl
theorem JMn:∀(b ks:List Int),By b->(∀k∈ks,97<=k/\k<128)->(Go.Lib.mapD YS (WN b)=WN ks↔b.map yN=ks)
 |[],ks,_,_=>by
  rw[show WN []=[]from rfl,Go.Lib.mapD_nil]
  cases ks with
  |nil=>simp[WN]
  |cons k t=>simp[WN]
 |c::t,ks,hy,hk=>by
  have hc:=hy c (by simp)
  have hyt:By t:=λx hx=>hy x (by simp[hx])
  have e:WN (c::t)=BE c.toNat::WN t:=rfl;have hn:(BE c.toNat).toNat=c.toNat:=by simp only[BR];omega
  rw[e,Go.Lib.mapD_step _ _ (by simp)]
  by_cases h128:c<128
  ·rw[JU3 (by rw[hn];omega),hn]
   simp only;have hci:((c.toNat:Nat):Int)=c:=om;rw[hci];have hl0:0<=YS c:=by unfold YS;split<;>omega
   have hl1:YS c<=127:=by
    unfold YS
    split
    ·rename_i h2;simp at h2;omega
    ·omega
   rw[if_pos hl0]
   have e2:Go.Lib.encodeRune (YS c)=[BE (YS c).toNat]:=by unfold Go.Lib.encodeRune;rw[Go.Lib.encodeRuneZ_one hl0 hl1];rfl
   rw[e2,List.drop_succ_cons,List.drop_zero]
   cases ks with
   |nil=>simp[WN]
   |cons k ks=>
    have hk0:=hk k (by simp)
    have e3:WN (k::ks)=BE k.toNat::WN ks:=rfl;rw[e3,Ae,Af,AU,BM,BM,JMn t ks hyt λx hx=>hk x (by simp[hx])]
    have hb:BE (YS c).toNat=BE k.toNat↔yN c=k:=by
     rw[<-JU5]
     constructor
     ·intro h
      have:=congrArg B7 h;simp only[BR]at this;omega
     ·intro h;rw[h]
    rw[hb]
  ·have h1:=JU4 (c:=BE c.toNat) (t:=WN t) (by rw[hn];omega)
   obtain⟨b,u,e2,hb⟩:=JR3 (r:=YS (Go.Lib.decodeL (BE c.toNat::WN t)).1) (by
    unfold YS
    split
    ·rename_i h2;simp at h2;omega
    ·omega)
   rw[if_pos (by unfold YS;split<;>omega),e2]
   have hlc:yN c=c:=by
    unfold yN
    split
    ·rename_i h2;simp at h2;omega
    ·rfl
   cases ks with
   |nil=>simp[WN]
   |cons k ks=>
    have hk0:=hk k (by simp)
    have e3:WN (k::ks)=BE k.toNat::WN ks:=rfl;rw[e3,Ae,AU,BM,BM,hlc]
    constructor
    ·rintro⟨h,_⟩
     exfalso;have:=congrArg B7 h;simp only[BR]at this;omega
    ·rintro⟨h,_⟩
     exfalso;omega
theorem Jms{lo:Nat}{s:ByteArray}{h:Heap}(hs:s.size<35184372088832):E lo 107 [.fn 108 [],.v (.string s)] h=some (.v (.string ⟨(Go.Lib.mapD YS s.data.toList).toArray⟩),h):=by
 show ev Aa hints primz lo 107 [.fn 108 [],.v (.string s)] h=_
 rw[JS3 (p:=JQZ) rfl];unfold JQZ;simp only[hs,and_self,if_true]
theorem f90{lo:Nat}{n:List Int}{h:Heap}(hn:n.length<=1000000000000):E lo 90 [.v (.string (str n)),.v (.string ⟨#[117,114,108]⟩)] h=some (.v (.bool (Gn n)),h):=by
 have hel:=JCD n
 have hsz:(str n).size<35184372088832:=by have:(str n).size=(Q2 n).length:=JZ (Q2 n);omega
 have hd:(str n).data.toList=WN (Q2 n):=by simp[str]
 have k:=λlo h=>Jms (lo:=lo) (h:=h) hsz
 simp only[hd]at k
 have hq:((⟨(Go.Lib.mapD YS (WN (Q2 n))).toArray⟩:ByteArray).toList==(⟨#[117,114,108]⟩:ByteArray).toList)=Gn n:=by
  rw[ByteArray.toList_eq,ByteArray.toList_eq];unfold Gn;rw[Cu,beq_iff_eq,beq_iff_eq,<-JG9 n [117,114,108] (by decide),<-JMn (Q2 n) [117,114,108] (zo n) (by decide)]
  exact Iff.rfl
 rw[e90];simp only[go_sem,b90,Tryz.f90,k,hq]
section
variable{lo i j:Nat}{l:List Int}{p q:List Ob}
noncomputable abbrev Ye(lo:Nat)(p q:List Ob):Cx:=⟨Aa,E,lo,p.length+(q.length+1),h61⟩
abbrev kD(p q:List Ob)(l:List Int)(j:Nat)(n:List Int)(ex:Ja):Ja×Heap:=
 ((0,.ptr p.length 0)::(2,.ptr (p.length+(q.length+1)) 0)::(3,.v (.string (str n)))::ex,p++R l j::(q++[.cells (tokC 0 [])]))
abbrev zN(p q:List Ob)(l:List Int)(j:Nat)(t:Tk):Option (Ex×Ja×Heap):=some (.ret,[(2,.ptr (p.length+(q.length+1)) 0)],p++R l j::(q++[.cells (tkC t)]))
theorem Jmt(hl:l.length<=100000000000)(hi:i<=l.length):∃j,j<=l.length/\i<=j/\suf l j=(name (suf l i)).2/\
  ∀lo p q,lo<=p.length->lo<=p.length+(q.length+1)->QM (Ye lo p q) JA (pc b61 0 4) (K2 [.ptr p.length 0],p++R l i::q)=
   if chr (suf l j) 0=40 then some (.normal,kD p q l j (name (suf l i)).1 [(15,.v (.bool false))])else zN p q l j (tk 1 (name (suf l i)).1):=by
 obtain⟨j,a1,a2,a3,a4⟩:=f60 (l:=l) (i:=i) hl hi;have k0:=λlo p q=>f49 (lo:=lo) (l:=l) (i:=j) (p:=p) (q:=q) (cs:=[40]) (by simp;omega)
 simp only[Ka,J4,qD]at k0;refine⟨j,a1,a2,a3,λlo p q hlo hlo2=>?_⟩
 by_cases hc:chr (suf l j) 0=40
 ·have t:(chr (suf l j) 0==40)=true:=by simp[hc]
  rw[if_pos hc];simp only[go_sem,Ye,kD,b61,Tryz.f61,a4 _ _ _ hlo,k0,t,tokC,str_nil]<;>rfl
 ·have t:(chr (suf l j) 0==40)=false:=by simp[hc]
  rw[if_neg hc];simp only[go_sem,Ye,kD,b61,Tryz.f61,a4 _ _ _ hlo,k0,t,hlo2,tokC,tkC,tk,str_nil]<;>rfl
theorem JZ8{n:List Int}(hn:n.length<=200000000000)(hj:j<=100000000000):∀lo p q,lo<=p.length->lo<=p.length+(q.length+1)->
  QM (Ye lo p q) JA (pc b61 4 3) (kD p q l j n [(15,.v (.bool false))])=
   if Gn n=true then some (.normal,kD p q l (j+1) n [(29,.v (.bool false))])else zN p q l (j+1) (tk 2 n):=by
 intro lo p q hlo hlo2;have hw1:=JD (i:=j) om;have k:=λh=>f90 (lo:=lo) (n:=n) (h:=h) om
 cases hu:Gn n with
 |true=>
  rw[hu]at k;rw[if_pos rfl]
  simp only[go_sem,Ye,kD,b61,Tryz.f61,hw1,hlo,k,tokC,str_nil]<;>rfl
 |false=>
  rw[hu]at k;rw[if_neg (by simp)]
  simp only[go_sem,Ye,kD,b61,Tryz.f61,hw1,hlo,hlo2,k,tokC,tkC,tk,str_nil]<;>rfl
theorem JZ9{n:List Int}(hl:l.length<=100000000000):∀(m i:Nat) (x:V),(suf l i).length<=m->i<=l.length->
  ∃j,j<=l.length/\i<=j/\suf l j=Zm m (suf l i)/\
   ∀lo (p q:List Ob),lo<=p.length->JA (evCode (Ye lo p q) JA JBW) (kD p q l i n [(29,x)])=some (.exit 0,kD p q l j n [(43,.v (.bool false))]):=by
 have stop:∀(i:Nat) (x:V),i<=l.length->(blk (chr (suf l i) 0)&&blk (chr (suf l i) 1))=false->
   ∀lo (p q:List Ob),lo<=p.length->JA (evCode (Ye lo p q) JA JBW) (kD p q l i n [(29,x)])=some (.exit 0,kD p q l i n [(43,.v (.bool false))]):=by
  intro i x hi hb lo p q hlo;have k0:=λlo p q=>f32 (lo:=lo) (l:=l) (i:=i) (p:=p) (q:=q) (k:=0) om
  have k1:=λlo p q=>f32 (lo:=lo) (l:=l) (i:=i) (p:=p) (q:=q) (k:=1) om
  have n1:((1:Nat):Int)=1:=rfl;simp only[n0,n1]at k0 k1;rw[JB]
  cases h0:blk (chr (suf l i) 0)with
  |true=>
   have h1:blk (chr (suf l i) 1)=false:=by simpa[h0]using hb
   simp only[go_sem,Ye,kD,JBW,b61,Tryz.f61,k0,k1,f50,h0,h1,tokC,str_nil]<;>rfl
  |false=>simp only[go_sem,Ye,kD,JBW,b61,Tryz.f61,k0,k1,f50,h0,tokC,str_nil]<;>rfl
 intro m
 induction m with
 |zero=>
  intro i x h1 h2;have hs:suf l i=[]:=Au om
  exact⟨i,h2,Ac _,rfl,stop i x h2 (by rw[hs];rfl)⟩
 |succ m ih=>
  intro i x h1 h2;by_cases hb:(blk (chr (suf l i) 0)&&blk (chr (suf l i) 1))=true
  ·have hi:i<l.length:=by
    rcases Ax i l.length with h|h
    ·exact h
    ·rw[JV h]at hb;exact absurd hb (by decide)
   have k0:=λlo p q=>f32 (lo:=lo) (l:=l) (i:=i) (p:=p) (q:=q) (k:=0) om
   have k1:=λlo p q=>f32 (lo:=lo) (l:=l) (i:=i) (p:=p) (q:=q) (k:=1) om
   have hw1:=JD (i:=i) om;have n1:((1:Nat):Int)=1:=rfl;simp only[n0,n1]at k0 k1;obtain⟨j,j1,j2,j3,j4⟩:=ih (i+1) .undef (by rw[Jv]at h1⊢;omega) om
   have e1:suf l (i+1)=(suf l i).drop 1:=by simp[suf,AC]
   refine⟨j,j1,om,by rw[j3,e1];simp only[Zm];rw[if_pos hb],λlo p q hlo=>?_⟩
   rw[Ah]at hb
   have e:evCode (Ye lo p q) JA JBW (kD p q l i n [(29,x)])=some (.normal,kD p q l (i+1) n [(29,.undef)]):=by simp only[go_sem,Ye,kD,JBW,b61,Tryz.f61,k0,k1,f50,hb.1,hb.2,hw1,hlo,tokC,str_nil]<;>rfl
   rw[JB,e,JK];exact j4 lo p q hlo
  ·refine⟨i,h2,Ac _,by simp only[Zm];rw[if_neg hb],stop i x h2 (by simpa using hb)⟩
theorem Jmu{n:List Int}(hl:l.length<=100000000000)(hi:i<=l.length):∃j,j<=l.length/\i<=j/\suf l j=Qq (suf l i)/\
  ∀lo p q,lo<=p.length->QM (Ye lo p q) JA (pc b61 7 1) (kD p q l i n [(29,.v (.bool false))])=some (.normal,kD p q l j n [(43,.v (.bool false))]):=by
 obtain⟨j,j1,j2,j3,j4⟩:=JZ9 (n:=n) hl (suf l i).length i (.v (.bool false)) (Ac _) hi;refine⟨j,j1,j2,j3,λlo p q hlo=>?_⟩
 have hL:=j4 lo p q hlo;simp only[Ye,kD,JBW,b61,Tryz.f61,JG,JT,JC,go_sem,tokC,str_nil]at hL;simp only[go_sem,Ye,kD,b61,Tryz.f61,hL,tokC,str_nil]
theorem Jft{n:List Int}(hj:j<=100000000000):∀lo p q,lo<=p.length->lo<=p.length+(q.length+1)->
  QM (Ye lo p q) JA (pc b61 8 6) (kD p q l j n [(43,.v (.bool false))])=
   if quo (if blk (chr (suf l j) 0)=true then chr (suf l j) 1 else chr (suf l j) 0)=true then zN p q l j (tk 2 n)else some (.normal,kD p q l j n [(68,.v (.bool false))]):=by
 intro lo p q hlo hlo2;have k0:=λlo p q=>f32 (lo:=lo) (l:=l) (i:=j) (p:=p) (q:=q) (k:=0) om
 have k1:=λlo p q=>f32 (lo:=lo) (l:=l) (i:=j) (p:=p) (q:=q) (k:=1) om
 have n1:((1:Nat):Int)=1:=rfl;simp only[n0,n1]at k0 k1
 cases hb:blk (chr (suf l j) 0)with
 |true=>
  simp only[if_true];generalize chr (suf l j) 1=c at*
  cases h34:(c==34)with
  |true=>
   rw[if_pos (by simp[quo,h34])]
   simp only[go_sem,Ye,kD,b61,Tryz.f61,k0,k1,f50,hb,h34,hlo2,tokC,tkC,tk,str_nil]<;>rfl
  |false=>
   cases h39:(c==39)with
   |true=>
    rw[if_pos (by simp[quo,h39])]
    simp only[go_sem,Ye,kD,b61,Tryz.f61,k0,k1,f50,hb,h34,h39,hlo2,tokC,tkC,tk,str_nil]<;>rfl
   |false=>
    rw[if_neg (by simp[quo,h34,h39])]
    simp only[go_sem,Ye,kD,b61,Tryz.f61,k0,k1,f50,hb,h34,h39,tokC,str_nil]<;>rfl
 |false=>
  simp only[As,if_false];generalize chr (suf l j) 0=c at*
  cases h34:(c==34)with
  |true=>
   rw[if_pos (by simp[quo,h34])]
   simp only[go_sem,Ye,kD,b61,Tryz.f61,k0,k1,f50,hb,h34,hlo2,tokC,tkC,tk,str_nil]<;>rfl
  |false=>
   cases h39:(c==39)with
   |true=>
    rw[if_pos (by simp[quo,h39])]
    simp only[go_sem,Ye,kD,b61,Tryz.f61,k0,k1,f50,hb,h34,h39,hlo2,tokC,tkC,tk,str_nil]<;>rfl
   |false=>
    rw[if_neg (by simp[quo,h34,h39])]
    simp only[go_sem,Ye,kD,b61,Tryz.f61,k0,k1,f50,hb,h34,h39,tokC,str_nil]<;>rfl
theorem Jmv{n:List Int}(hl:l.length<=100000000000)(hi:i<=l.length):∃j,j<=l.length/\i<=j/\suf l j=(yy (suf l i)).2.2/\
  ∀lo p q,lo<=p.length->lo<=p.length+(q.length+1)->QM (Ye lo p q) JA (pc b61 14 2) (kD p q l i n [(68,.v (.bool false))])=zN p q l j (Hz (yy (suf l i))):=by
 obtain⟨j,a1,a2,a3,a4⟩:=f91 (l:=l) (i:=i) hl hi;refine⟨j,a1,a2,a3,λlo p q hlo hlo2=>?_⟩
 have k:=a4 lo p (q++[.cells (tokC 0 [])]) hlo;simp only[tokC,tkC,str_nil]at k;simp only[go_sem,Ye,kD,b61,Tryz.f61,k,hlo2,tokC,tkC,str_nil]<;>rfl
theorem JMo{t:Tk}{o:Ob}:fin Aa [.cell 2 51] (p.length+(q.length+1)) (some (.ret,[(2,.ptr (p.length+(q.length+1)) 0)],p++o::(q++[.cells (tkC t)])))=some (.agg (tkC t),p++o::q):=JRz (h:=[]) (r2:=[])
theorem f61(hl:l.length<=100000000000)(hi:i<=l.length):∃j,j<=l.length/\i<=j/\suf l j=(HT (suf l i)).2/\
  ∀lo p q,lo<=p.length->E lo 61 [.ptr p.length 0] (p++R l i::q)=some (.agg (tkC (HT (suf l i)).1),p++R l j::q):=by
 obtain⟨j1,a1,a2,a3,a4⟩:=Jmt (l:=l) (i:=i) hl hi;have hnl:=JJt (suf l i);rw[Jv]at hnl;have hH:∀p q:List Ob,(p++R l i::q).length=p.length+(q.length+1):=λp q=>by simp
 unfold HT;simp only;rw[<-a3];by_cases h40:chr (suf l j1) 0=40
 ·have hne:j1<l.length:=by
   rcases Ax j1 l.length with h|h
   ·exact h
   ·rw[JV h]at h40;cases h40
  have e1:suf l (j1+1)=(suf l j1).drop 1:=by simp[suf,AC]
  rw[if_pos h40]
  cases hu:Gn (name (suf l i)).1 with
  |true=>
   obtain⟨j2,b1,b2,b3,b4⟩:=Jmu (n:=(name (suf l i)).1) (l:=l) (i:=j1+1) hl om;rw[if_pos rfl,<-e1,<-b3];by_cases hq:quo (if blk (chr (suf l j2) 0)=true then chr (suf l j2) 1 else chr (suf l j2) 0)=true
   ·rw[if_pos hq]
    refine⟨j2,om,om,rfl,λlo p q hlo=>?_⟩
    rw[e61,hH,pc_in,pc_go _ _ _ _ 0 4,a4 lo p q hlo om,if_pos h40,pc_go _ _ _ _ _ 3,JZ8 om om lo p q hlo om,hu,if_pos rfl,
     pc_go _ _ _ _ _ 1,b4 lo p q hlo,pc_go _ _ _ _ _ 6,Jft om lo p q hlo om,if_pos hq,zN,Qw]
    exact JMo
   ·obtain⟨j3,c1,c2,c3,c4⟩:=Jmv (n:=(name (suf l i)).1) (l:=l) (i:=j2) hl b1
    rw[if_neg hq];refine⟨j3,c1,om,c3,λlo p q hlo=>?_⟩
    rw[e61,hH,pc_in,pc_go _ _ _ _ 0 4,a4 lo p q hlo om,if_pos h40,pc_go _ _ _ _ _ 3,JZ8 om om lo p q hlo om,hu,if_pos rfl,
     pc_go _ _ _ _ _ 1,b4 lo p q hlo,pc_go _ _ _ _ _ 6,Jft om lo p q hlo om,if_neg hq,pc_go _ _ _ _ _ 2,c4 lo p q hlo om,zN,Qw]
    exact JMo
  |false=>
   rw[if_neg (by simp)]
   refine⟨j1+1,om,om,e1,λlo p q hlo=>?_⟩
   rw[e61,hH,pc_in,pc_go _ _ _ _ 0 4,a4 lo p q hlo om,if_pos h40,pc_go _ _ _ _ _ 3,JZ8 om om lo p q hlo om,hu,if_neg (by simp),zN,Qw]
   exact JMo
 ·rw[if_neg h40]
  refine⟨j1,om,om,rfl,λlo p q hlo=>?_⟩
  rw[e61,hH,pc_in,pc_go _ _ _ _ 0 4,a4 lo p q hlo om,if_neg h40,zN,Qw];exact JMo
end
theorem JU6{lo:Nat}{t:List Int}{h:Heap}(hy:By t)(hl:t.length<=100000000000):∀(m i:Nat),t.length-i<=m->i<=t.length->
  JA (evCode ⟨Aa,E,lo,h.length,JTw⟩ JA jj) ([(0,.v (.string (bs t))),(3,.v (.int .i64 i))],h)=
   some (.exit 0,[(0,.v (.string (bs t))),(3,.v (.int .i64 (i+((t.drop i).takeWhile Jn).length:Nat))),(19,.v (.bool false))],h):=by
 intro m
 induction m with
 |zero=>
  intro i h1 h2;obtain rfl:i=t.length:=om;have hd:decide ((t.length:Int)<(t.length:Int))=false:=by simp
  rw[JB];simp only[go_sem,jj,JJL,Tryz.f118,JZ,hd]
  all_goals simp
 |succ m ih=>
  intro i h1 h2;rcases Ax i t.length with hi|hi
  rotate_left
  ·exact ih i om h2
  have hd:decide ((i:Int)<(t.length:Int))=true:=by simp;omega
  have hw:=JD (i:=i) om;have hc:t[i]? =some t[i]:=List.getElem?_eq_getElem hi
  have hdr:=yU hc;generalize t[i]=c at hc hdr;rw[hdr]
  cases hb:Jn c with
  |false=>
   rw[List.takeWhile_cons_of_neg (by simp[hb]),JB]
   simp only[Jn,Bool.and_eq_false_iff]at hb
   cases h48:decide (48<=c)with
   |false=>
    simp only[go_sem,jj,JJL,Tryz.f118,JZ,hd,QU hy,hc,h48]
    all_goals simp
   |true=>
    have h57:decide (c<=57)=false:=by rcases hb with h|h;rw[h48]at h;cases h;exact h
    simp only[go_sem,jj,JJL,Tryz.f118,JZ,hd,QU hy,hc,h48,h57]
    all_goals simp
  |true=>
   rw[List.takeWhile_cons_of_pos hb,JB];simp only[Jn,Ah]at hb;obtain⟨h48,h57⟩:=hb
   have e:evCode ⟨Aa,E,lo,h.length,JTw⟩ JA jj ([(0,.v (.string (bs t))),(3,.v (.int .i64 i))],h)=some (.normal,[(0,.v (.string (bs t))),(3,.v (.int .i64 (i+1:Nat)))],h):=by simp only[go_sem,jj,JJL,Tryz.f118,JZ,hd,QU hy,hc,h48,h57,hw]
   rw[e,JK,ih (i+1) om om];have e2:i+(c::(t.drop (i+1)).takeWhile Jn).length=i+1+((t.drop (i+1)).takeWhile Jn).length:=by simp;omega
   rw[e2]
theorem f118{lo:Nat}{t:List Int}{h:Heap}(hy:By t)(hl:t.length<=100000000000):
  E lo 118 [.v (.string (bs t))] h=some (.v (.int .i64 ((t.takeWhile Jn).length:Nat)),h):=by
 have hL:=JU6 (lo:=lo) (h:=h) hy hl t.length 0 om om;rw[Jlm];simp only[jj,JJL,Tryz.f118,JG,JT,JC,go_sem,Nat.zero_add]at hL;simp only[go_sem,JJL,Tryz.f118,hL]
theorem JMp{lo:Nat}{h:Heap}:∀(l:List Int),By l->l.length<=100000000000->
  JA (evCode ⟨Aa,E,lo,h.length,JTx⟩ JA yG) ([(0,.v (.string (bs l))),(1,.v (.int .u8 48))],h)=
   some (.exit 0,[(0,.v (.string (bs (l.dropWhile (· ==48))))),(1,.v (.int .u8 48)),(13,.v (.bool false))],h)
 |[],hy,hl=>by
  have hd:decide ((0:Int)<0)=false:=rfl;rw[JB];simp only[go_sem,yG,JLK,Tryz.f119,JZ,hd]
  rfl
 |c::t,hy,hl=>by
  have hd:decide ((0:Int)<((t.length+1:Nat):Int))=true:=by simp
  have hc:(c::t)[0]? =some c:=rfl;have hix:=QU hy 0;rw[hc]at hix;rw[JB]
  cases hb:(c==48)with
  |false=>
   rw[List.dropWhile_cons_of_neg (by simp[hb])]
   simp only[go_sem,yG,JLK,Tryz.f119,JZ,hd,hix,hb]
  |true=>
   rw[Bu (p:=(· ==48)) hb]
   have h1:1<=t.length+1:=om
   have e:evCode ⟨Aa,E,lo,h.length,JTx⟩ JA yG ([(0,.v (.string (bs (c::t)))),(1,.v (.int .u8 48))],h)=some (.normal,[(0,.v (.string (bs t))),(1,.v (.int .u8 48))],h):=by simp only[go_sem,yG,JLK,Tryz.f119,JZ,hd,hix,hb,h1,Ac,Q3]
   rw[e,JK];exact JMp t (λx hx=>hy x (by simp[hx])) (by simp at hl;omega)
theorem f119{lo:Nat}{l:List Int}{h:Heap}(hy:By l)(hl:l.length<=100000000000):E lo 119 [.v (.string (bs l)),.v (.int .u8 48)] h=some (.v (.string (bs (l.dropWhile (· ==48)))),h):=by have hL:=JMp (lo:=lo) (h:=h) l hy hl;rw[Jln];simp only[yG,JLK,Tryz.f119,JG,JT,JC,go_sem]at hL;simp only[go_sem,JLK,Tryz.f119,hL]
theorem JR4:core []=[]:=rfl
theorem JU7{lo:Nat}{h:Heap}:∀(m:Nat) (l:List Int),l.length=m->By l->l.length<=100000000000->
  JA (evCode ⟨Aa,E,lo,h.length,JTy⟩ JA yH) ([(0,.v (.string (bs l))),(1,.v (.int .u8 48))],h)=
   some (.exit 0,[(0,.v (.string (bs (core l)))),(1,.v (.int .u8 48)),(16,.v (.bool false))],h):=by
 intro m
 induction m with
 |zero=>
  intro l hm hy hl;obtain rfl:=Au hm;have hd:decide ((0:Int)<0)=false:=rfl;rw[JB]
  simp only[go_sem,yH,JLL,Tryz.f123,JZ,hd,JR4]
 |succ m ih=>
  intro l hm hy hl
  obtain⟨t,c,rfl⟩:∃t c,l=t++[c]:=by
   rcases List.eq_nil_or_concat l with h|⟨t,c,h⟩
   ·rw[h]at hm;cases hm
   ·exact⟨t,c,by simpa using h⟩
  have hsz:(t++[c]).length=t.length+1:=by simp
  have htm:t.length=m:=om;have hd:decide ((0:Int)<((t.length+1:Nat):Int))=true:=by simp
  have hc:(t++[c])[t.length]? =some c:=by simp
  have hw:Ak.wrap (((t.length+1:Nat):Int)-1)=(t.length:Int):=by rw[JL om om];omega
  have hix:=QU hy t.length;rw[hc]at hix;have htk:(t++[c]).take t.length=t:=by simp
  rw[JB,JD6]
  cases hb:(c==48)with
  |false=>
   rw[if_neg (by simpa using hb)]
   simp only[go_sem,yH,JLL,Tryz.f123,JZ,hsz,hd,hw,hix,hb]
  |true=>
   rw[if_pos (by simpa using hb)]
   have h1:t.length<=t.length+1:=om
   have e:evCode ⟨Aa,E,lo,h.length,JTy⟩ JA yH ([(0,.v (.string (bs (t++[c])))),(1,.v (.int .u8 48))],h)=some (.normal,[(0,.v (.string (bs t))),(1,.v (.int .u8 48))],h):=by simp only[go_sem,yH,JLL,Tryz.f123,JZ,hsz,hd,hw,hix,hb,h1,A0,Q3,htk]
   rw[e,JK];exact ih t htm (λx hx=>hy x (by simp[hx])) om
theorem f123{lo:Nat}{l:List Int}{h:Heap}(hy:By l)(hl:l.length<=100000000000):E lo 123 [.v (.string (bs l)),.v (.int .u8 48)] h=some (.v (.string (bs (core l))),h):=by have hL:=JU7 (lo:=lo) (h:=h) l.length l rfl hy hl;rw[Jlr];simp only[yH,JLL,Tryz.f123,JG,JT,JC,go_sem]at hL;simp only[go_sem,JLL,Tryz.f123,hL]
theorem KR(l:List Int):((bs l).toList==(⟨#[]⟩:ByteArray).toList)=decide (l=[]):=JD5 l
theorem JVm:((⟨#[48]⟩:ByteArray).toList==(⟨#[]⟩:ByteArray).toList)=false:=(KR [48]).trans (by simp)
theorem f104{lo:Nat}{l:List Int}{h:Heap}(hy:By l)(hl:l.length<=100000000000):E lo 104 [.v (.string (bs l)),.v (.string ⟨#[48]⟩)] h=some (.v (.string (bs (l.dropWhile (· ==48)))),h):=by
 rw[JlZ]
 cases l with
 |nil=>
  have t1:=KR [];simp only[decide_true]at t1;simp only[go_sem,JYp,Tryz.f104,t1]
  rfl
 |cons c t=>
  have t1:=KR (c::t);rw[decide_eq_false (by simp)]at t1
  have t2:((1:Nat):Int)=1:=rfl;have t3:((1:Int)==1)=true:=rfl;have t4:decide ((48:Int)<128)=true:=rfl;have t5:((B7 48:Nat):Int)=48:=rfl;have t6:(⟨#[48]⟩:ByteArray).size=1:=rfl;simp only[go_sem,JYp,Tryz.f104,t1,JVm,t2,t3,t4,t5,t6,f119 hy hl]
theorem f105{lo:Nat}{l:List Int}{h:Heap}(hy:By l)(hl:l.length<=100000000000):E lo 105 [.v (.string (bs l)),.v (.string ⟨#[48]⟩)] h=some (.v (.string (bs (core l))),h):=by
 rw[Jla]
 cases l with
 |nil=>
  have t1:=KR [];simp only[decide_true]at t1;simp only[go_sem,JYq,Tryz.f105,t1]
  rfl
 |cons c t=>
  have t1:=KR (c::t);rw[decide_eq_false (by simp)]at t1
  have t2:((1:Nat):Int)=1:=rfl;have t3:((1:Int)==1)=true:=rfl;have t4:decide ((48:Int)<128)=true:=rfl;have t5:((B7 48:Nat):Int)=48:=rfl;have t6:(⟨#[48]⟩:ByteArray).size=1:=rfl;simp only[go_sem,JYq,Tryz.f105,t1,JVm,t2,t3,t4,t5,t6,f123 hy hl]
theorem f126{lo:Nat}{below:Bool}{n d:Int}{h:Heap}(hlo:lo<=h.length)(h0:0<=n)(h1:n<=9223372036854775807)(g0:1<=d)(g1:d<=9223372036854775807):
  E lo 126 [.v (.bool below),.v (.int .u64 n),.v (.int .u64 d)] h=some (.agg (JO (turn below (some (n,d)))),h):=by
 have t1:decide (9223372036854775807<n)=false:=by simp;omega
 have t2:decide (9223372036854775807<d)=false:=by simp;omega
 have t3:(d==0)=false:=by simp;omega
 have w1:Ak.wrap n=n:=by rw[JL]<;>omega
 have w2:Ak.wrap d=d:=by rw[JL]<;>omega
 have w3:Ak.wrap (0-n)= -n:=by rw[JL]<;>omega
 rw[Jlu]
 cases below with
 |true=>simp only[go_sem,JYs,Tryz.f126,t1,t2,t3,w1,w2,w3,hlo,turn,JO]<;>rfl
 |false=>simp only[go_sem,JYs,Tryz.f126,t1,t2,t3,w1,w2,w3,hlo,turn,JO]<;>rfl
section
variable{lo:Nat}{below:Bool}{h:Heap}{p:Int}
noncomputable abbrev QQ(lo:Nat)(h:Heap):Cx:=⟨Aa,E,lo,h.length,JYi⟩
abbrev Kd(h:Heap):Option (Ex×Ja×Heap):=some (.ret,[(6,.ptr h.length 0)],h++[.cells (JO (0,0))])
abbrev jx(below:Bool)(h:Heap)(n p:Int)(ex:Ja):Ja×Heap:=
 ((0,.v (.bool below))::(1,.v (.int .u64 n))::(2,.v (.int .i64 p))::(6,.ptr h.length 0)::ex,h++[.cells (JO (0,0))])
theorem JR5(hlo:lo<=h.length):∀(m:Nat) (p n:Int) (x:V),p.toNat=m->p<=4000000000000->0<=n->n<=9223372036854775807->
  JA (evCode (QQ lo h) JA jh) (jx below h n p [(16,x)])=
   match za m n with
   |some n'=>some (.exit 0,jx below h n' (if 0<p then 0 else p) [(19,.v (.bool false))])
   |none=>Kd h:=by
 intro m
 induction m with
 |zero=>
  intro p n x hm he h0 h1;have hd:decide (0<p)=false:=by simp;omega
  rw[JB,if_neg om]
  simp only[go_sem,QQ,jh,Qe,Tryz.f106,hd,za,JO]<;>rfl
 |succ m ih=>
  intro p n x hm he h0 h1;have hd:decide (0<p)=true:=by simp;omega
  have hw:Ak.wrap (p-1)=p-1:=by rw[JL]<;>omega
  rw[JB];simp only[za];by_cases hb:922337203685477580<n
  ·have hb':decide (922337203685477580<n)=true:=by simp[hb]
   rw[if_pos hb];simp only[go_sem,QQ,jh,Qe,Tryz.f106,hd,hb',hlo,JO]<;>rfl
  ·have hb':decide (922337203685477580<n)=false:=by simp[hb]
   rw[if_neg hb];have w1:BP.wrap (n*10)=n*10:=K1 om om
   have e1:evCode (QQ lo h) JA jh (jx below h n p [(16,x)])=some (.normal,jx below h (n*10) (p-1) [(16,.undef)]):=by simp only[go_sem,QQ,jh,Qe,Tryz.f106,hd,hb',w1,hw,JO]<;>rfl
   rw[e1,JK,ih (p-1) (n*10) .undef om om om om];have e2:(if 0<p-1 then(0:Int)else p-1)=if 0<p then 0 else p:=by split<;>split<;>omega
   rw[e2]
abbrev JR6:List (List V):=[[.v (.int .u64 2)],[.v (.int .u64 5)]]
abbrev JCr(below:Bool)(h:Heap)(n p d y k i:Int)(ex:Ja):Ja×Heap:=
 ((0,.v (.bool below))::(1,.v (.int .u64 n))::(2,.v (.int .i64 p))::(6,.ptr h.length 0)::(7,.v (.int .u64 d))::(9,.v (.int .u64 y))::(10,.v (.int .i64 k))::(27,.list .yes JR6)::(28,.v (.int .i64 2))::(29,.v (.int .i64 i))::ex,h++[.cells (JO (0,0))])
theorem JR7{y b i:Int}(hlo:lo<=h.length)(hyb:(y=2/\b=4611686018427387903)\/(y=5/\b=1844674407370955161)):
  ∀(m:Nat) (k n d:Int),(-k).toNat=m->k<=0-> -4000000000000<=k->0<=n->n<=9223372036854775807->0<=d->d<=9223372036854775807->
  JA (evCode (QQ lo h) JA Yx) (JCr below h n p d y k i [])=
   match QT y b m n d with
   |some r=>some (.exit 4,JCr below h r.1 p r.2 y 0 i [(35,.v (.bool false))])
   |none=>Kd h:=by
 have hy0:0<y:=om;have hyz:(y=0)=False:=by simp;omega
 have hbq:Mv 9223372036854775807 y=b:=by rcases hyb with⟨rfl,rfl⟩|⟨rfl,rfl⟩<;>rfl
 have wb:BP.wrap b=b:=K1 om om;have hby:b*y<=9223372036854775807:=by rcases hyb with⟨rfl,rfl⟩|⟨rfl,rfl⟩<;>decide
 have hb0:0<=b:=om;intro m
 induction m with
 |zero=>
  intro k n d hm hk hk2 h0 h1 g0 g1;obtain rfl:k=0:=om;have hd:decide ((0:Int)<0)=false:=rfl;rw[JB];simp only[QT]
  simp only[go_sem,QQ,Yx,Qe,Tryz.f106,hd,JO]<;>rfl
 |succ m ih=>
  intro k n d hm hk hk2 h0 h1 g0 g1;have hd:decide (k<0)=true:=by simp;omega
  have hw:Ak.wrap (k+1)=k+1:=by rw[JL]<;>omega
  have hr:Int.tmod n y=n%y:=Int.tmod_eq_emod_of_nonneg h0;have hq:Mv n y=n/y:=Int.tdiv_eq_ediv_of_nonneg h0;have hq0:0<=n/y:=Int.ediv_nonneg h0 om;have hq1:n/y<=n:=Lm y h0;have wq:BP.wrap (n/y)=n/y:=K1 om om;rw[JB];simp only[QT];by_cases hm0:n%y=0
  ·have hb:(n%y==0)=true:=by simp[hm0]
   have e1:evCode (QQ lo h) JA Yx (JCr below h n p d y k i [])=some (.normal,JCr below h (n/y) p d y (k+1) i []):=by simp only[go_sem,QQ,Yx,Qe,Tryz.f106,hd,hr,hq,wq,hb,hw,hyz,JO]<;>rfl
   rw[e1,JK,ih (k+1) (n/y) d om om om om om g0 g1,if_pos hm0]
  ·have hb:(n%y==0)=false:=by simp[hm0]
   rw[if_neg hm0];by_cases hbd:b<d
   ·have hbd':decide (b<d)=true:=by simp[hbd]
    rw[if_pos hbd];simp only[go_sem,QQ,Yx,Qe,Tryz.f106,hd,hr,hb,hbq,wb,hbd',hyz,hlo,JO]<;>rfl
   ·have hbd':decide (b<d)=false:=by simp[hbd]
    rw[if_neg hbd];have hdy:d*y<=b*y:=Cj om om;have hdy0:0<=d*y:=Int.mul_nonneg g0 om;have w1:BP.wrap (d*y)=d*y:=K1 om om
    have e1:evCode (QQ lo h) JA Yx (JCr below h n p d y k i [])=some (.normal,JCr below h n p (d*y) y (k+1) i []):=by simp only[go_sem,QQ,Yx,Qe,Tryz.f106,hd,hr,hb,hbq,wb,hbd',w1,hw,hyz,JO]<;>rfl
    rw[e1,JK,ih (k+1) n (d*y) om om om h0 h1 hdy0 om]
abbrev H0(below:Bool)(h:Heap)(n p d i:Int)(ex:Ja):Ja×Heap:=
 ((0,.v (.bool below))::(1,.v (.int .u64 n))::(2,.v (.int .i64 p))::(6,.ptr h.length 0)::(7,.v (.int .u64 d))::(27,.list .yes JR6)::(28,.v (.int .i64 2))::(29,.v (.int .i64 i))::ex,h++[.cells (JO (0,0))])
theorem JJv{y b:Int}{i:Nat}(hlo:lo<=h.length)(hyb:(i=0/\y=2/\b=4611686018427387903)\/(i=1/\y=5/\b=1844674407370955161))
  {n d:Int}(hk:p<=0)(hk2: -4000000000000<=p)(h0:0<=n)(h1:n<=9223372036854775807)(g0:0<=d)(g1:d<=9223372036854775807):
  evCode (QQ lo h) JA Zf (H0 below h n p d i [])=match QT y b (-p).toNat n d with
   |some r=>some (.normal,H0 below h r.1 p r.2 (i+1:Nat) [])
   |none=>Kd h:=by
 have hL:=JR7 (lo:=lo) (below:=below) (h:=h) (p:=p) (y:=y) (b:=b) (i:=i) hlo om (-p).toNat p n d rfl hk hk2 h0 h1 g0 g1
 cases hu:QT y b (-p).toNat n d with
 |some r=>
  rw[hu]at hL;rcases hyb with⟨rfl,rfl,rfl⟩|⟨rfl,rfl,rfl⟩
  ·have hd:decide (((0:Nat):Int)<2)=true:=rfl
   have hw:Ak.wrap (((0:Nat):Int)+1)=((0+1:Nat):Int):=rfl;simp only[JCr,Yx,QQ,Qe,Tryz.f106,JG,JT,JC,go_sem,JO]at hL hd hw;simp only[go_sem,QQ,H0,Zf,Qe,Tryz.f106,hd,hw,hL,JO]<;>rfl
  ·have hd:decide (((1:Nat):Int)<2)=true:=rfl
   have hw:Ak.wrap (((1:Nat):Int)+1)=((1+1:Nat):Int):=rfl;simp only[JCr,Yx,QQ,Qe,Tryz.f106,JG,JT,JC,go_sem,JO]at hL hd hw
   simp only[go_sem,QQ,H0,Zf,Qe,Tryz.f106,hd,hw,hL,JO]<;>rfl
 |none=>
  rw[hu]at hL;rcases hyb with⟨rfl,rfl,rfl⟩|⟨rfl,rfl,rfl⟩
  ·have hd:decide (((0:Nat):Int)<2)=true:=rfl
   simp only[JCr,Kd,Yx,QQ,Qe,Tryz.f106,JG,JT,JC,go_sem,JO]at hL hd;simp only[go_sem,QQ,H0,Kd,Zf,Qe,Tryz.f106,hd,hL,JO]<;>rfl
  ·have hd:decide (((1:Nat):Int)<2)=true:=rfl
   simp only[JCr,Kd,Yx,QQ,Qe,Tryz.f106,JG,JT,JC,go_sem,JO]at hL hd;simp only[go_sem,QQ,H0,Kd,Zf,Qe,Tryz.f106,hd,hL,JO]<;>rfl
end
theorem Hf{y b:Int}(hy:0<y)(hb:b*y<=9223372036854775807):∀(k:Nat) (n d:Int) (r:Int×Int),1<=n->n<=9223372036854775807->1<=d->d<=9223372036854775807->QT y b k n d=some r->
  1<=r.1/\r.1<=9223372036854775807/\1<=r.2/\r.2<=9223372036854775807
 |0,n,d,r,h0,h1,g0,g1,h=>by simp only[QT,Option.some.injEq]at h;subst h;exact⟨h0,h1,g0,g1⟩
 |k+1,n,d,r,h0,h1,g0,g1,h=>by
  simp only[QT]at h
  split at h
  ·rename_i hm
   have hq1:n/y<=n:=Lm y om
   have h3:1<=n/y:=by
    rcases L8 (n/y) 1 with h4|h4
    ·have h2:n=n/y*y:=by have:=Int.mul_ediv_add_emod n y;rw[hm,Int.add_zero]at this;rw[Int.mul_comm];exact this.symm
     have:n/y*y<=0:=Int.mul_nonpos_of_nonpos_of_nonneg om om;omega
    ·exact h4
   exact Hf hy hb k (n/y) d r h3 om g0 g1 h
  ·split at h
   ·cases h
   ·have hdy:d*y<=b*y:=Cj om om
    have hdy0:1<=d*y:=by have:=Q8 (a:=d) (b:=y) om om;omega
    exact Hf hy hb k n (d*y) r h0 h1 hdy0 om h
section
variable{lo:Nat}{below:Bool}{h:Heap}{p:Int}
theorem Jfu{n:Int}(hlo:lo<=h.length):QM (QQ lo h) JA (pc Qe 0 3) (K2 [.v (.bool below),.v (.int .u64 n),.v (.int .i64 p)],h)=
  if 18<p\/p< -100 then Kd h else some (.normal,jx below h n p [(16,.v (.bool false))]):=by
 by_cases h18:18<p
 ·have t1:decide (18<p)=true:=by simp[h18]
  rw[if_pos (.inl h18)];simp only[go_sem,QQ,Qe,Tryz.f106,t1,hlo,JO]<;>rfl
 ·have t1:decide (18<p)=false:=by simp[h18]
  by_cases h100:p< -100
  ·have t2:decide (p< -100)=true:=by simp[h100]
   rw[if_pos (.inr h100)];simp only[go_sem,QQ,Qe,Tryz.f106,t1,t2,hlo,JO]<;>rfl
  ·have t2:decide (p< -100)=false:=by simp[h100]
   rw[if_neg om];simp only[go_sem,QQ,Qe,Tryz.f106,t1,t2,JO]<;>rfl
theorem Jfv{n:Int}(hlo:lo<=h.length)(hp:p<=4000000000000)(h0:0<=n)(h1:n<=9223372036854775807):QM (QQ lo h) JA (pc Qe 3 1) (jx below h n p [(16,.v (.bool false))])=
  match za p.toNat n with
  |some n'=>some (.normal,jx below h n' (if 0<p then 0 else p) [(19,.v (.bool false))])
  |none=>Kd h:=by
 have hL:=JR5 (lo:=lo) (below:=below) (h:=h) hlo p.toNat p n (.v (.bool false)) rfl hp h0 h1
 cases hu:za p.toNat n with
 |some n'=>
  rw[hu]at hL;simp only[jx,jh,QQ,Qe,Tryz.f106,JG,JT,JC,go_sem,JO]at hL
  simp only[go_sem,QQ,jx,Qe,Tryz.f106,hL,JO]
 |none=>rw[hu]at hL;simp only[jx,Kd,jh,QQ,Qe,Tryz.f106,JG,JT,JC,go_sem,JO]at hL;simp only[go_sem,QQ,jx,Kd,Qe,Tryz.f106,hL,JO]
theorem JR8{n:Int}(hlo:lo<=h.length)(hk:p<=0)(hk2: -4000000000000<=p)(h0:1<=n)(h1:n<=9223372036854775807):
  JA (evCode (QQ lo h) JA Zf) (H0 below h n p 1 0 [])=
   match QT 2 4611686018427387903 (-p).toNat n 1 with
   |some r=>match QT 5 1844674407370955161 (-p).toNat r.1 r.2 with
    |some s=>some (.exit 2,H0 below h s.1 p s.2 2 [(30,.v (.bool false))])
    |none=>Kd h
   |none=>Kd h:=by
 have hA:=JJv (lo:=lo) (below:=below) (h:=h) (p:=p) (i:=0) hlo (.inl ⟨rfl,rfl,rfl⟩) (n:=n) (d:=1) hk hk2 om h1 om om;rw[JB];simp only[n0]at hA;rw[hA]
 cases hu:QT 2 4611686018427387903 (-p).toNat n 1 with
 |none=>rfl
 |some r=>
  obtain⟨q0,q1,q2,q3⟩:=Hf om om _ _ _ _ h0 h1 om om hu;have hB:=JJv (lo:=lo) (below:=below) (h:=h) (p:=p) (i:=1) hlo (.inr ⟨rfl,rfl,rfl⟩) (n:=r.1) (d:=r.2) hk hk2 om q1 om q3;simp only;rw[JK,JB];have e1:((0+1:Nat):Int)=((1:Nat):Int):=rfl;rw[e1,hB]
  cases hv:QT 5 1844674407370955161 (-p).toNat r.1 r.2 with
  |none=>rfl
  |some s=>simp only;rw[JK,JB];have hd:decide (((1+1:Nat):Int)<2)=false:=rfl;simp only[go_sem,QQ,H0,Zf,Qe,Tryz.f106,hd,JO]<;>rfl
theorem Jfw{n:Int}(hlo:lo<=h.length)(hk:p<=0)(hk2: -4000000000000<=p)(h0:1<=n)(h1:n<=9223372036854775807):QM (QQ lo h) JA (pc Qe 4 3) (jx below h n p [(19,.v (.bool false))])=
  match QT 2 4611686018427387903 (-p).toNat n 1 with
   |some r=>match QT 5 1844674407370955161 (-p).toNat r.1 r.2 with
    |some s=>some (.normal,H0 below h s.1 p s.2 2 [(30,.v (.bool false))])
    |none=>Kd h
   |none=>Kd h:=by
 have n2:((2:Nat):Int)=2:=rfl;have hL:=JR8 (lo:=lo) (below:=below) (h:=h) hlo hk hk2 h0 h1
 cases hu:QT 2 4611686018427387903 (-p).toNat n 1 with
 |none=>
  rw[hu]at hL;simp only[H0,Kd,Zf,QQ,Qe,Tryz.f106,JG,JT,JC,go_sem,JO]at hL
  simp only[go_sem,QQ,jx,Kd,Qe,Tryz.f106,n2,hL,JO]<;>rfl
 |some r=>
  rw[hu]at hL;simp only at hL⊢
  cases hv:QT 5 1844674407370955161 (-p).toNat r.1 r.2 with
  |none=>
   rw[hv]at hL;simp only[H0,Kd,Zf,QQ,Qe,Tryz.f106,JG,JT,JC,go_sem,JO]at hL
   simp only[go_sem,QQ,jx,Kd,Qe,Tryz.f106,n2,hL,JO]<;>rfl
  |some s=>rw[hv]at hL;simp only[H0,Zf,QQ,Qe,Tryz.f106,JG,JT,JC,go_sem,JO]at hL;simp only[go_sem,QQ,jx,H0,Qe,Tryz.f106,n2,hL,JO]<;>rfl
theorem Jfx{n d:Int}(hlo:lo<=h.length)(h0:1<=n)(h1:n<=9223372036854775807)(g0:1<=d)(g1:d<=9223372036854775807):QM (QQ lo h) JA (pc Qe 7 2) (H0 below h n p d 2 [(30,.v (.bool false))])=
  some (.ret,[(6,.ptr h.length 0)],h++[.cells (JO (turn below (some (n,d))))]):=by
 have k:=f126 (lo:=lo) (below:=below) (n:=n) (d:=d) (h:=h++[.cells (JO (0,0))]) (by simp;omega) om h1 g0 g1
 simp only[JO]at k;simp only[go_sem,QQ,H0,Qe,Tryz.f106,k,hlo,JO]<;>rfl
theorem JCG{h:Heap}{x:Int×Int}:fin Aa [.cell 6 49] h.length (some (.ret,[(6,.ptr h.length 0)],h++[.cells (JO x)]))=some (.agg (JO x),h):=jw
theorem f106{n:Int}(hlo:lo<=h.length)(hp0: -4000000000000<=p)(hp1:p<=4000000000000)(h0:1<=n)(h1:n<10^18):
  E lo 106 [.v (.bool below),.v (.int .u64 n),.v (.int .i64 p)] h=some (.agg (JO (turn below (Zl n p))),h):=by
 have h18:(10:Int)^18=1000000000000000000:=by decide
 rw[<-JRC h0 h1,Jlb,pc_in,pc_go _ _ _ _ 0 3,Jfu hlo];unfold JLR;by_cases hov:18<p\/p< -100
 ·rw[if_pos hov,if_pos hov,Kd,Qw]
  exact JCG
 rw[if_neg hov,if_neg hov,pc_go _ _ _ _ _ 1,Jfv hlo hp1 om om]
 cases hu:za p.toNat n with
 |none=>
  simp only;rw[Kd,Qw]
  exact JCG
 |some m=>
  obtain⟨m0,m1⟩:=JLf _ _ _ h0 om hu;simp only;have hp0:(if 0<p then(0:Int)else p)<=0:=by split<;>omega
  have hpn:(-(if 0<p then(0:Int)else p)).toNat=(-p).toNat:=by split<;>omega
  rw[pc_go _ _ _ _ _ 3,Jfw hlo hp0 (by split<;>omega) m0 m1,hpn]
  cases hv:QT 2 4611686018427387903 (-p).toNat m 1 with
  |none=>
   simp only;rw[Kd,Qw]
   exact JCG
  |some r=>
   obtain⟨q0,q1,q2,q3⟩:=Hf om om _ _ _ _ m0 m1 om om hv;obtain⟨r1,r2⟩:=r;simp only
   cases hw:QT 5 1844674407370955161 (-p).toNat r1 r2 with
   |none=>
    simp only;rw[Kd,Qw]
    exact JCG
   |some s=>obtain⟨s0,s1,s2,s3⟩:=Hf om om _ _ _ _ q0 q1 q2 q3 hw;simp only;rw[pc_go _ _ _ _ _ 2,Jfx hlo s0 s1 s2 s3,Qw];exact JCG
end
def Yc(below:Bool)(d:List Int)(behind exp:Int)(whole:Bool):List V:=[.v (.bool below),.v (.string (bs d)),.v (.int .i64 behind),.v (.int .i64 exp),.v (.bool whole)]
section
variable{lo:Nat}{t:List Int}{h:Heap}{neg:Bool}
noncomputable abbrev YW(lo:Nat)(h:Heap):Cx:=⟨Aa,E,lo,h.length,JYh⟩
abbrev ZC(t:List Int)(h:Heap)(ex:Ja)(w:List V):Ja×Heap:=
 ((0,.v (.string (bs t)))::(2,.ptr h.length 0)::(4,.ptr (h.length+1) 0)::ex,h++[.cells (Yc false [] 0 0 false),.cells w])
theorem Jfy{k:Nat}(hy:By t)(hl:t.length<=100000000000)(hlo:lo<=h.length)(hlo2:lo<=h.length+1)
  (ht:(∃c,t[0]? =some c/\(c==43)=false/\(c==45)=false/\k=0/\neg=false)\/(t[0]? =some 43/\k=1/\neg=false)\/(t[0]? =some 45/\k=1/\neg=true)):
  ∃x,QM (YW lo h) JA (pc YT 0 4) (K2 [.v (.string (bs t))],h)=some (.normal,ZC (t.drop k) h [(21,x)] (Yc neg [] 0 0 false)):=by
 have hlen:0<t.length:=by rcases ht with⟨c,h,_⟩|⟨h,_⟩|⟨h,_⟩<;>exact(List.getElem?_eq_some_iff.1 h).1
 have t0:=KR t;rw[decide_eq_false (by intro h;rw[h]at hlen;simp at hlen)]at t0
 have hix:=QU hy 0;have h1:1<=t.length:=hlen;rcases ht with⟨c,hc,c1,c2,rfl,rfl⟩|⟨hc,rfl,rfl⟩|⟨hc,rfl,rfl⟩
 ·refine⟨.v (.bool false),?_⟩
  rw[hc]at hix;simp only[go_sem,YW,YT,Tryz.f103,t0,hix,c1,c2,Yc]<;>rfl
 ·have c1:((43:Int)==43)=true:=rfl
  have c2:((43:Int)==45)=false:=rfl;refine⟨.v (.bool true),?_⟩
  rw[hc]at hix;simp only[go_sem,YW,YT,Tryz.f103,t0,hix,c1,c2,JZ,Q3,h1,Ac,hlo,hlo2,Yc]<;>rfl
 ·have c1:((45:Int)==43)=false:=rfl
  have c2:((45:Int)==45)=true:=rfl;refine⟨.v (.bool true),?_⟩
  rw[hc]at hix;simp only[go_sem,YW,YT,Tryz.f103,t0,hix,c1,c2,JZ,Q3,h1,Ac,hlo,hlo2,Yc]<;>rfl
theorem Jfz{d r:List Int}{x:V}{pt:Bool}(hy:By t)(hl:t.length<=100000000000)(hlo2:lo<=h.length+1)(hT:t=d++r)(htw:t.takeWhile Jn=d)
  (hpt:(∃c,r[0]? =some c/\(c==46)=pt)\/(r=[]/\pt=false)):
  QM (YW lo h) JA (pc YT 4 3) (ZC t h [(21,x)] (Yc neg [] 0 0 false))=some (.normal,ZC r h [(44,.v (.bool pt))] (Yc neg d 0 0 true)):=by
 have k172:=λh=>f118 (lo:=lo) (h:=h) hy hl
 simp only[htw]at k172;have hyr:By r:=λc hc=>hy c (by rw[hT];simp[hc])
 have e1:t.take d.length=d:=by rw[hT];simp
 have e2:t.drop d.length=r:=by rw[hT];simp
 have h1:d.length<=t.length:=by rw[hT];simp
 have hix:=QU hyr 0;rcases hpt with⟨c,hc,rfl⟩|⟨rfl,rfl⟩
 ·have t0:=KR r
  rw[decide_eq_false (by intro h;rw[h]at hc;simp at hc)]at t0
  rw[hc]at hix;simp only[go_sem,YW,ZC,YT,Tryz.f103,k172,JZ,Q3,h1,Ac,A0,hlo2,e1,e2,t0,hix,Yc]<;>rfl
 ·have t0:=KR []
  rw[decide_eq_true rfl]at t0;have hn:([]:List Int)[0]? =none:=rfl;rw[hn]at hix;simp only[go_sem,YW,ZC,YT,Tryz.f103,k172,JZ,Q3,h1,Ac,A0,hlo2,e1,e2,t0,hix,Yc]<;>rfl
theorem JaA{w:List V}:QM (YW lo h) JA (pc YT 7 1) (ZC t h [(44,.v (.bool false))] w)=some (.normal,ZC t h [(44,.v (.bool false))] w):=by simp only[go_sem,YW,ZC,YT,Tryz.f103,Yc]
theorem JaB{d f r:List Int}(hy:By t)(hl:t.length<=100000000000)(hdl:d.length<=100000000000)(hlo2:lo<=h.length+1)(hT:t=46::(f++r))(htw:(f++r).takeWhile Jn=f)(hf:f≠[]):
  QM (YW lo h) JA (pc YT 7 1) (ZC t h [(44,.v (.bool true))] (Yc neg d 0 0 true))=some (.normal,ZC r h [(44,.undef)] (Yc neg (d++f) f.length 0 false)):=by
 have hyr:By (f++r):=λc hc=>hy c (by rw[hT];simp only[List.mem_cons];exact .inr hc)
 have hlen:t.length=1+(f.length+r.length):=by rw[hT];simp;omega
 have k172:=λh=>f118 (lo:=lo) (h:=h) hyr (by simp;omega)
 simp only[htw]at k172;have e0:t.drop 1=f++r:=by rw[hT];rfl
 have e1:(t.take (1+f.length)).drop 1=f:=by rw[hT,Lh];simp
 have e2:t.drop (1+f.length)=r:=by rw[hT,Lh];simp
 have h1:1<=t.length:=om;have h2:1+f.length<=t.length:=om;have h3:1<=1+f.length:=om;have hfl:0<f.length:=Cg.2 hf;have t1:((f.length:Int)==0)=false:=by simp;omega
 have w1:Ak.wrap (1+(f.length:Int))=((1+f.length:Nat):Int):=by rw[JL om om];omega
 have hsz:d.length+f.length<=9223372036854775807:=om;simp only[go_sem,YW,ZC,YT,Tryz.f103,k172,JZ,Q3,h1,h2,h3,Ac,A0,hlo2,e0,e1,e2,t1,w1,hsz,bs_app,Yc]<;>rfl
theorem JaC{d:List Int}{fr e:Int}{wh:Bool}{x:V}(hlo:lo<=h.length)(hd:d≠[]):
  QM (YW lo h) JA (pc YT 8 4) (ZC [] h [(44,x)] (Yc neg d fr e wh))=some (.ret,[(2,.ptr h.length 0),(3,.v (.bool true))],h++[.cells (Yc neg d fr e wh),.cells (Yc neg d fr e wh)]):=by
 have t0:=KR d;rw[decide_eq_false hd]at t0;have t1:=KR [];rw[decide_eq_true rfl]at t1;simp only[go_sem,YW,ZC,YT,Tryz.f103,t0,t1,hlo,Yc]<;>rfl
theorem JaD{d:List Int}{fr e:Int}{wh:Bool}{x:V}(hd:d≠[])(ht:t≠[]):
  QM (YW lo h) JA (pc YT 8 4) (ZC t h [(44,x)] (Yc neg d fr e wh))=some (.normal,ZC t h [(71,.v (.bool false))] (Yc neg d fr e wh)):=by
 have t0:=KR d;rw[decide_eq_false hd]at t0;have t1:=KR t;rw[decide_eq_false ht]at t1;simp only[go_sem,YW,ZC,YT,Tryz.f103,t0,t1,Yc]<;>rfl
abbrev JR9(h:Heap)(neg down:Bool)(ds:List Int)(fr e:Int)(wh:Bool)(rows:List (List V))(len k:Int)(ex:Ja):Ja×Heap:=
 ((2,.ptr h.length 0)::(4,.ptr (h.length+1) 0)::(7,.v (.bool down))::(113,.list .no rows)::(114,.v (.int .i64 len))::(115,.v (.int .i64 k))::ex,h++[.cells (Yc false [] 0 0 false),.cells (Yc neg ds fr e wh)])
theorem JU8{down wh:Bool}{ds d:List Int}{fr:Int}(hlo2:lo<=h.length+1)(hd:∀c∈d,Jn c=true)(hl:d.length<=100000000000):∀(r:List Int) (k:Nat) (e:Int),d.drop k=r->k+r.length=d.length->0<=e->e<=1099511627776->
  JA (evCode (YW lo h) JA JBb) (JR9 h neg down ds fr e wh (ri .u8 d) d.length k [])=
   some (.exit 0,JR9 h neg down ds fr (WQ e r) wh (ri .u8 d) d.length d.length [(116,.v (.bool false))]):=by
 intro r
 induction r with
 |nil=>
  intro k e hr hk h0 h1;have hk':k=d.length:=by simpa using hk
  subst hk';have hlt:decide ((d.length:Int)<(d.length:Int))=false:=by simp
  rw[JB]
  simp only[go_sem,YW,JBb,YT,Tryz.f103,hlt,WQ,Yc]<;>rfl
 |cons c r ih=>
  intro k e hr hk h0 h1;simp only[Ag]at hk;have hlt:decide ((k:Int)<(d.length:Int))=true:=by simp;omega
  have hc:d[k]? =some c:=by
   have:=congrArg (·[0]?) hr
   simpa using this
  have hcd:=hd c (List.mem_of_getElem? hc);simp only[Jn,Ah,decide_eq_true_eq]at hcd;have hw:=JD (i:=k) om;have w1:Ak.wrap (e*10)=e*10:=JL om om;have w2:IntKind.u8.wrap (c-48)=c-48:=wrap_u8 om om;have w3:Ak.wrap (c-48)=c-48:=JL om om;have w4:Ak.wrap (e*10+(c-48))=e*10+(c-48):=JL om om
  have hmin:(if e*10+(c-48)<1099511627776 then e*10+(c-48)else 1099511627776)=if 1099511627776<e*10+(c-48)then 1099511627776 else e*10+(c-48):=by split<;>split<;>omega
  have e1:evCode (YW lo h) JA JBb (JR9 h neg down ds fr e wh (ri .u8 d) d.length k [])=
    some (.normal,JR9 h neg down ds fr (if 1099511627776<e*10+(c-48)then 1099511627776 else e*10+(c-48)) wh (ri .u8 d) d.length (k+1:Nat) []):=by
   simp only[go_sem,YW,JBb,YT,Tryz.f103,hlt,hc,w1,w2,w3,w4,hmin,hw,hlo2,Yc]<;>rfl
  rw[JB,e1,JK,ih (k+1) _ (by rw[<-AC,hr];rfl) om (by split<;>omega) (by split<;>omega)]
  rfl
theorem Jf0{d r u:List Int}{fr c:Int}{wh down:Bool}(hy:By t)(hl:t.length<=100000000000)(hlo:lo<=h.length)(hlo2:lo<=h.length+1)
  (hT:t=c::u)(hce:(c !=101&&c !=69)=false)
  (hu:(∃s,u=s::r/\(s==43||s==45)=true/\down=(s==45))\/(∃s,u[0]? =some s/\(s==43||s==45)=false/\u=r/\down=false))
  (hrd:∀x∈r,Jn x=true)(hr0:r≠[]):
  QM (YW lo h) JA (pc YT 12 14) (ZC t h [(71,.v (.bool false))] (Yc neg d fr 0 wh))=
   some (.ret,[(2,.ptr h.length 0),(3,.v (.bool true))],h++[.cells (Yc neg d fr (if down=true then-WQ 0 r else WQ 0 r) false),.cells (Yc neg d fr (if down=true then-WQ 0 r else WQ 0 r) false)]):=by
 have hyu:By u:=λx hx=>hy x (by rw[hT];simp[hx])
 have hyr:By r:=λx hx=>by have:=hrd x hx;simp only[Jn,Ah,decide_eq_true_eq]at this;omega
 have hix:=QU hy 0;have hc0:t[0]? =some c:=by rw[hT];rfl
 rw[hc0]at hix;have e0:t.drop 1=u:=by rw[hT];rfl
 have h1:1<=t.length:=by rw[hT];simp
 have hrl:0<r.length:=Cg.2 hr0;have hul:u.length<t.length:=by rw[hT];simp
 have hix2:=QU hyu 0
 have hrl2:r.length<=100000000000:=by
  rcases hu with⟨s,hs,_⟩|⟨s,_,_,hs,_⟩
  ·rw[hs]at hul;simp at hul;omega
  ·rw[<-hs];omega
 have k172:=λh=>f118 (lo:=lo) (t:=r) (h:=h) hyr hrl2
 simp only[JLg hrd]at k172;have t0:=KR r;rw[decide_eq_false hr0]at t0;have t1:decide ((r.length:Int)<(r.length:Int))=false:=by simp
 have hL:=JU8 (lo:=lo) (h:=h) (neg:=neg) (down:=down) (wh:=false) (ds:=d) (d:=r) (fr:=fr) hlo2 hrd hrl2 r 0 0 rfl om om om;obtain⟨x0,x1⟩:=qT r 0 hrd om om;generalize WQ 0 r=ee at*;simp only[JR9,YW,JBb,YT,Tryz.f103,JG,JT,JC,go_sem,Yc]at hL
 have hune:u≠[]:=by
  rcases hu with⟨s,hs,_⟩|⟨s,hs,_,_,_⟩
  ·rw[hs];simp
  ·intro h;rw[h]at hs;cases hs
 have tu:=KR u;rw[decide_eq_false hune]at tu;rcases hu with⟨s,hs,hss,rfl⟩|⟨s,hs,hss,rfl,rfl⟩
 ·have hs0:u[0]? =some s:=by rw[hs];rfl
  have e1:u.drop 1=r:=by rw[hs];rfl
  have h2:1<=u.length:=by rw[hs];simp
  rw[hs0]at hix2
  cases hdn:(s==45)with
  |true=>
   rw[hdn]at hL;simp only[hdn,Bool.or_true]at hss;have w3:Ak.wrap (0-ee)= -ee:=by rw[JL om om];omega
   simp only[go_sem,YW,ZC,YT,Tryz.f103,hix,hce,JZ,Q3,h1,Ac,e0,tu,hix2,hss,hdn,e1,h2,k172,t0,t1,Y0 hyr,hL,w3,hlo,hlo2,Yc]<;>rfl
  |false=>
   have h43:(s==43)=true:=by simpa[hdn]using hss
   rw[hdn]at hL;simp only[go_sem,YW,ZC,YT,Tryz.f103,hix,hce,JZ,Q3,h1,Ac,e0,tu,hix2,h43,hdn,e1,h2,k172,t0,t1,Y0 hyr,hL,hlo,hlo2,Yc]<;>rfl
 ·rw[hs]at hix2
  simp only[go_sem,YW,ZC,YT,Tryz.f103,hix,hce,JZ,Q3,h1,Ac,e0,tu,hix2,hss,k172,t0,t1,Y0 hyr,hL,hlo,hlo2,Yc]<;>rfl
end
end Go.Lift.W1.T
end
