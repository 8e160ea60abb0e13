/- The reference's word: names, functions, urls. -/
import Derived.Lib.MapLaws
import Derived.Lib.DecodeN
import Derived.Shelf.LaysM
import Derived.Shelf.Strings.Repeat
import Derived.Shelf.Strings.Search2
import Derived.Shelf.Strconv.Itoa3
import Derived.Test.YtppjlemmgpnliaaGreatDoorProg
import Derived.Test.YtppjlemmgpnliaaGreatDoorGLd
import Derived.Test.YtppjlemmgpnliaaGreatDoorGKb
import Derived.Test.YtppjlemmgpnliaaGreatDoorGKc
import Derived.Test.YtppjlemmgpnliaaGreatDoorGKe
import Derived.Test.YtppjlemmgpnliaaGreatDoorGKg
import Derived.Test.YtppjlemmgpnliaaGreatDoorGKh
import Derived.Test.YtppjlemmgpnliaaGreatDoorGKi
import Derived.Test.YtppjlemmgpnliaaGreatDoorGKj
open Bool renaming and_eq_true->Af,false_and->Aw,true_and->AB
open Go.IntKind renaming bits->B6,i32->AF,i64->Aq,signed->BW,u32->Mb,wrap->Ch
open Go.Proofs.Tryz renaming prog->Aa
open List renaming all_eq_true->As,append_nil->Av,cons_append->Al,dropWhile_cons_of_neg->Br,dropWhile_cons_of_pos->BM,dropWhile_sublist->Cp,drop_drop->AV,eq_nil_of_length_eq_zero->AC,length_append->Ah,length_cons->Ae,length_drop->Ay,length_map->Ag,length_nil->An,map_cons->A3,mem_cons->A2,mem_map->AP,nil_append->Ai
open List.cons renaming injEq->BV
open Nat renaming le_of_lt->D4,le_refl->Ab,lt_or_ge->AG,zero_le->A9
open UInt8 renaming toNat->Cj
set_option linter.unusedVariables false
set_option linter.unusedSimpArgs false
set_option linter.unusedSectionVars false
set_option maxRecDepth 20000
set_option maxHeartbeats 4000000
section
open Go.Proofs
namespace Go.Lift.M1.T
variable[MX]
open Utf Tok
theorem JK6(x:Int):(enc x).length<=4:=by
 unfold enc
 split
 ·simp
 ·split
  ·simp
  ·split<;>simp
theorem YN:∀l:List Int,(JJ l).length<=4*l.length
 |[]=>by simp[JJ]
 |c::t=>by have e:JJ (c::t)=enc (JQ c)++JJ t:=rfl;have:=YN t;have:=JK6 (JQ c);rw[e,Ah,Ae];omega
theorem JK7:∀(k:Nat) (n:Int) (s:List Int),(YU k n s).2.length<=s.length
 |0,n,s=>Ab _
 |k+1,n,[]=>Ab _
 |k+1,n,c::t=>by
  simp only[YU]
  split
  ·exact Ab _
  ·have:=JK7 k (n*16+hex c) t
   simp;omega
theorem JTn(s:List Int):(JDe s).length<=s.length:=by
 cases s with
 |nil=>exact Ab _
 |cons d u=>simp only[JDe];split<;>simp
theorem JTo(s:List Int):(K6 s).2.length<=s.length:=by
 cases s with
 |nil=>exact Ab _
 |cons c t=>
  simp only[K6]
  split
  ·simp
  ·have:=JTn (YU 6 0 (c::t)).2
   have:=JK7 6 0 (c::t);simp only at*;omega
theorem JAG:∀(n:Nat) (s:List Int),(QD n s).1.length+(QD n s).2.length<=s.length
 |0,s=>by simp[QD]
 |n+1,[]=>by simp[QD]
 |n+1,c::t=>by
  simp only[QD]
  split
  ·have:=JAG n t
   simp;omega
  ·split
   ·have:=JAG n (K6 t).2
    have:=JTo t;simp;omega
   ·simp
theorem yh(s:List Int):(name s).1.length<=s.length:=by have:=JAG s.length s;unfold name;omega
theorem ya:∀{a b:List Int},By a->By b->Q1 a=Q1 b->a=b
 |[],[],_,_,_=>rfl
 |[],_::_,_,_,h=>by simp[Q1]at h
 |_::_,[],_,_,h=>by simp[Q1]at h
 |x::a,y::b,ha,hb,h=>by
  simp only[Q1,A3,BV]at h;have hx:=ha x (by simp)
  have hy:=hb y (by simp)
  have h1:x=y:=by have:=congrArg Cj h.1;simp only[UInt8.toNat_ofNat']at this;omega
  rw[h1,ya (λc hc=>ha c (by simp[hc])) (λc hc=>hb c (by simp[hc])) h.2]
theorem JP4(x:Int)(h0:0<=x)(h1:128<=x)(h2:x<=1114111):∃b r,enc x=b::r/\128<=b/\b<=255:=by
 unfold enc;rw[if_neg om]
 split
 ·exact⟨_,_,rfl,om,om⟩
 ·split
  ·exact⟨_,_,rfl,om,om⟩
  ·exact⟨_,_,rfl,om,om⟩
theorem JON:∀(n ks:List Int),(∀k∈ks,97<=k/\k<128)->(((JJ n).map JKP=ks)↔(n.map JKP=ks))
 |[],ks,_=>Iff.rfl
 |c::t,ks,hk=>by
  have e:JJ (c::t)=enc (JQ c)++JJ t:=rfl;have hs:=KO c;by_cases hc:0<=c/\c<128
  ·have e1:enc (JQ c)=[c]:=by
    rw[JK4 hc];unfold enc;rw[if_pos hc.2]
   rw[e,e1]
   cases ks with
   |nil=>simp
   |cons k ks=>simp only[Al,Ai,A3,BV];rw[JON t ks λx hx=>hk x (by simp[hx])]
  ·have hsc:128<=JQ c:=by
    rcases Int.lt_or_le (JQ c) 128 with h|h
    ·have:=ym rfl h
     omega
    ·exact h
   obtain⟨b,r,e1,b1,b2⟩:=JP4 (JQ c) hs.1 hsc hs.2;rw[e,e1]
   cases ks with
   |nil=>simp
   |cons k ks=>
    have hk0:=hk k (by simp)
    simp only[Al,A3,BV]
    constructor
    ·rintro⟨h,_⟩
     exfalso;unfold JKP at h
     split at h
     ·rename_i h2;simp at h2;omega
     ·omega
    ·rintro⟨h,_⟩
     exfalso;unfold JKP at h
     split at h
     ·rename_i h2;simp at h2;omega
     ·omega
theorem Jce{l:List Int}(h:By l):By (l.map JKP):=by
 intro c hc;obtain⟨x,hx,rfl⟩:=AP.1 hc;have:=h x hx;unfold JKP
 split
 ·rename_i h2;simp at h2;omega
 ·exact this
theorem JTp(n:List Int):JWv (JJ n) [117,114,108]=JGV n:=by
 unfold JWv JGV;have h1:([117,114,108]:List Int).map low=[117,114,108]:=by decide
 have h2:(JJ n).map low=(JJ n).map JKP:=rfl;rw[h1,h2,Bool.eq_iff_iff,beq_iff_eq,beq_iff_eq,<-JON n [117,114,108] (by decide)]
 constructor
 ·exact ya (Jce (J8 n)) (by decide)
 ·intro h;rw[h]
section
variable{lo i j:Nat}{l:List Int}{p q:List Ob}
noncomputable abbrev Yn(lo:Nat)(p q:List Ob):Cx:=⟨Aa,E,lo,p.length+(q.length+1),h63⟩
abbrev qb(p q:List Ob)(l:List Int)(j:Nat)(n:List Int)(ex:Jj):Jj×JC:=
 ((0,.ptr p.length 0)::(2,.ptr (p.length+(q.length+1)) 0)::(3,.v (.string (str n)))::ex,p++R l j::(q++[.cells (tokC 0 [])]))
abbrev JAp(p q:List Ob)(l:List Int)(j:Nat)(t:Tk):Option (Ex×Jj×JC):=some (.ret,[(2,.ptr (p.length+(q.length+1)) 0)],p++R l j::(q++[.cells (tkC t)]))
theorem Jp1(hl:l.length<=100000000000)(hi:i<=l.length):∃j,j<=l.length/\i<=j/\suf l j=(name (suf l i)).2/\
  ∀lo p q,lo<=p.length->lo<=p.length+(q.length+1)->Wc (Yn lo p q) JA (pc b63 0 4) (Ku [.ptr p.length 0],p++R l i::q)=
   if chr (suf l j) 0=40 then some (.normal,qb p q l j (name (suf l i)).1 [(9,.v (.bool false))])else JAp p q l j (tk 1 (name (suf l i)).1):=by
 obtain⟨j,a1,a2,a3,a4⟩:=f60 (l:=l) (i:=i) hl hi;have k0:=λlo p q=>f35 (lo:=lo) (l:=l) (i:=j) (p:=p) (q:=q) (k:=0) om
 simp only[n0]at k0;refine⟨j,a1,a2,a3,λlo p q hlo hlo2=>?_⟩
 by_cases hc:chr (suf l j) 0=40
 ·have t:(chr (suf l j) 0 !=40)=false:=by simp[hc]
  rw[if_pos hc];simp only[go_sem,Yn,qb,b63,Tryz.f63,a4 _ _ _ hlo,k0,t,tokC,str_nil]<;>rfl
 ·have t:(chr (suf l j) 0 !=40)=true:=by simp[hc]
  rw[if_neg hc];simp only[go_sem,Yn,qb,b63,Tryz.f63,a4 _ _ _ hlo,k0,t,hlo2,tokC,tkC,tk,str_nil]<;>rfl
theorem Jcf{n:List Int}(hn:n.length<=200000000000)(hj:j<=100000000000):∀lo p q,lo<=p.length->lo<=p.length+(q.length+1)->
  Wc (Yn lo p q) JA (pc b63 4 3) (qb p q l j n [(9,.v (.bool false))])=
   if JGV n=true then some (.normal,qb p q l (j+1) n [(21,.v (.bool false))])else JAp p q l (j+1) (tk 2 n):=by
 intro lo p q hlo hlo2;have hw1:=JH (i:=j) om
 have hel:(JJ n).length<=1000000000000:=by have:=YN n;omega
 have k24:=λ(h:JC) (hh:lo<=h.length)=>f87 (lo:=lo) (h:=h) (a:=JJ n) (b:=[117,114,108]) hh hel (J8 n) (by decide) (by decide)
 have es:(⟨(Q1 (JJ n)).toArray⟩:ByteArray)=str n:=rfl;have eu:(⟨(Q1 [117,114,108]).toArray⟩:ByteArray)=⟨#[117,114,108]⟩:=rfl;simp only[es,eu,JTp]at k24;have k:=k24 (p++R l (j+1)::(q++[.cells (tokC 0 [])])) (by simp;omega)
 simp only[tokC,str_nil]at k
 cases hu:JGV n with
 |true=>
  rw[hu]at k;rw[if_pos rfl]
  simp only[go_sem,Yn,qb,b63,Tryz.f63,hw1,hlo,k,tokC,str_nil]<;>rfl
 |false=>
  rw[hu]at k;rw[if_neg (by simp)]
  simp only[go_sem,Yn,qb,b63,Tryz.f63,hw1,hlo,hlo2,k,tokC,tkC,tk,str_nil]<;>rfl
theorem Jcg{n:List Int}(hl:l.length<=100000000000):∀(m i:Nat) (x:V),(suf l i).length<=m->i<=l.length->
  ∃j,j<=l.length/\i<=j/\suf l j=kn m (suf l i)/\
   ∀lo (p q:List Ob),lo<=p.length->JA (evCode (Yn lo p q) JA JCS) (qb p q l i n [(21,x)])=some (.exit 0,qb p q l j n [(31,.v (.bool false))]):=by
 have stop:∀(i:Nat) (x:V),i<=l.length->(blk (chr (suf l i) 0)&&blk (chr (suf l i) 1))=false->
   ∀lo (p q:List Ob),lo<=p.length->JA (evCode (Yn lo p q) JA JCS) (qb p q l i n [(21,x)])=some (.exit 0,qb p q l i n [(31,.v (.bool false))]):=by
  intro i x hi hb lo p q hlo;have k0:=λlo p q=>f35 (lo:=lo) (l:=l) (i:=i) (p:=p) (q:=q) (k:=0) om
  have k1:=λlo p q=>f35 (lo:=lo) (l:=l) (i:=i) (p:=p) (q:=q) (k:=1) om
  have n1:((1:Nat):Int)=1:=rfl;simp only[n0,n1]at k0 k1;rw[loop_eq]
  cases h0:blk (chr (suf l i) 0)with
  |true=>
   have h1:blk (chr (suf l i) 1)=false:=by simpa[h0]using hb
   simp only[go_sem,Yn,qb,JCS,b63,Tryz.f63,k0,k1,f54,h0,h1,tokC,str_nil]<;>rfl
  |false=>simp only[go_sem,Yn,qb,JCS,b63,Tryz.f63,k0,k1,f54,h0,tokC,str_nil]<;>rfl
 intro m
 induction m with
 |zero=>
  intro i x h1 h2;have hs:suf l i=[]:=AC om
  exact⟨i,h2,Ab _,rfl,stop i x h2 (by rw[hs]<;>rfl)⟩
 |succ m ih=>
  intro i x h1 h2;by_cases hb:(blk (chr (suf l i) 0)&&blk (chr (suf l i) 1))=true
  ·have hi:i<l.length:=by
    rcases AG i l.length with h|h
    ·exact h
    ·rw[Jz h]at hb;exact absurd hb (by decide)
   have k0:=λlo p q=>f35 (lo:=lo) (l:=l) (i:=i) (p:=p) (q:=q) (k:=0) om
   have k1:=λlo p q=>f35 (lo:=lo) (l:=l) (i:=i) (p:=p) (q:=q) (k:=1) om
   have hw1:=JH (i:=i) om;have n1:((1:Nat):Int)=1:=rfl;simp only[n0,n1]at k0 k1;obtain⟨j,j1,j2,j3,j4⟩:=ih (i+1) .undef (by rw[Kz]at h1⊢;omega) om
   have e1:suf l (i+1)=(suf l i).drop 1:=by simp[suf,AV]
   refine⟨j,j1,om,by rw[j3,e1];simp only[kn];rw[if_pos hb],λlo p q hlo=>?_⟩
   rw[Af]at hb
   have e:evCode (Yn lo p q) JA JCS (qb p q l i n [(21,x)])=some (.normal,qb p q l (i+1) n [(21,.undef)]):=by simp only[go_sem,Yn,qb,JCS,b63,Tryz.f63,k0,k1,f54,hb.1,hb.2,hw1,hlo,tokC,str_nil]<;>rfl
   rw[loop_eq,e,JK];exact j4 lo p q hlo
  ·refine⟨i,h2,Ab _,by simp only[kn];rw[if_neg hb],stop i x h2 (by simpa using hb)⟩
theorem Jp2{n:List Int}(hl:l.length<=100000000000)(hi:i<=l.length):∃j,j<=l.length/\i<=j/\suf l j=Q0 (suf l i)/\
  ∀lo p q,lo<=p.length->Wc (Yn lo p q) JA (pc b63 7 1) (qb p q l i n [(21,.v (.bool false))])=some (.normal,qb p q l j n [(31,.v (.bool false))]):=by
 obtain⟨j,j1,j2,j3,j4⟩:=Jcg (n:=n) hl (suf l i).length i (.v (.bool false)) (Ab _) hi;refine⟨j,j1,j2,j3,λlo p q hlo=>?_⟩
 have hL:=j4 lo p q hlo;simp only[Yn,qb,JCS,b63,Tryz.f63,JD,JT,JB,go_sem,tokC,str_nil]at hL;simp only[go_sem,Yn,qb,b63,Tryz.f63,hL,tokC,str_nil]
theorem JiX{n:List Int}(hj:j<=100000000000):∀lo p q,lo<=p.length->lo<=p.length+(q.length+1)->
  Wc (Yn lo p q) JA (pc b63 8 5) (qb p q l j n [(31,.v (.bool false))])=
   if quo (if blk (chr (suf l j) 0)=true then chr (suf l j) 1 else chr (suf l j) 0)=true then JAp p q l j (tk 2 n)else some (.normal,qb p q l j n [(50,.v (.bool false))]):=by
 intro lo p q hlo hlo2;have k0:=λlo p q=>f35 (lo:=lo) (l:=l) (i:=j) (p:=p) (q:=q) (k:=0) om
 have k1:=λlo p q=>f35 (lo:=lo) (l:=l) (i:=j) (p:=p) (q:=q) (k:=1) om
 have n1:((1:Nat):Int)=1:=rfl;simp only[n0,n1]at k0 k1
 cases hb:blk (chr (suf l j) 0)with
 |true=>
  simp only[if_true];generalize chr (suf l j) 1=c at*
  cases h34:(c==34)with
  |true=>
   rw[if_pos (by simp[quo,h34])]
   simp only[go_sem,Yn,qb,b63,Tryz.f63,k0,k1,f54,hb,h34,hlo2,tokC,tkC,tk,str_nil]<;>rfl
  |false=>
   cases h39:(c==39)with
   |true=>
    rw[if_pos (by simp[quo,h39])]
    simp only[go_sem,Yn,qb,b63,Tryz.f63,k0,k1,f54,hb,h34,h39,hlo2,tokC,tkC,tk,str_nil]<;>rfl
   |false=>
    rw[if_neg (by simp[quo,h34,h39])]
    simp only[go_sem,Yn,qb,b63,Tryz.f63,k0,k1,f54,hb,h34,h39,tokC,str_nil]<;>rfl
 |false=>
  simp only[Bool.false_eq_true,if_false];generalize chr (suf l j) 0=c at*
  cases h34:(c==34)with
  |true=>
   rw[if_pos (by simp[quo,h34])]
   simp only[go_sem,Yn,qb,b63,Tryz.f63,k0,k1,f54,hb,h34,hlo2,tokC,tkC,tk,str_nil]<;>rfl
  |false=>
   cases h39:(c==39)with
   |true=>
    rw[if_pos (by simp[quo,h39])]
    simp only[go_sem,Yn,qb,b63,Tryz.f63,k0,k1,f54,hb,h34,h39,hlo2,tokC,tkC,tk,str_nil]<;>rfl
   |false=>
    rw[if_neg (by simp[quo,h34,h39])]
    simp only[go_sem,Yn,qb,b63,Tryz.f63,k0,k1,f54,hb,h34,h39,tokC,str_nil]<;>rfl
theorem JXJ(x:Bool×List Int×List Int):Za [] x=tkC (JCe x):=by unfold Za JCe;cases x.1<;>rfl
theorem Jp3{n:List Int}(hl:l.length<=100000000000)(hi:i<=l.length):∃j,j<=l.length+2/\i<=j/\suf l j=(url (suf l i)).2.2/\
  ∀lo p q,lo<=p.length->lo<=p.length+(q.length+1)->Wc (Yn lo p q) JA (pc b63 13 2) (qb p q l i n [(50,.v (.bool false))])=JAp p q l j (JCe (url (suf l i))):=by
 obtain⟨j,a1,a2,a3,a4⟩:=f93 (l:=l) (i:=i) hl hi;refine⟨j,a1,a2,a3,λlo p q hlo hlo2=>?_⟩
 have k:=a4 lo p (q++[.cells (tokC 0 [])]) hlo;rw[JXJ]at k;simp only[tokC,tkC,str_nil]at k;simp only[go_sem,Yn,qb,b63,Tryz.f63,k,hlo2,tokC,tkC,str_nil]<;>rfl
theorem JDB{t:Tk}{o:Ob}:fin Aa [.cell 2 48] (p.length+(q.length+1)) (some (.ret,[(2,.ptr (p.length+(q.length+1)) 0)],p++o::(q++[.cells (tkC t)])))=some (.agg (tkC t),p++o::q):=JYM (h:=[]) (r2:=[])
theorem f63(hl:l.length<=100000000000)(hi:i<=l.length):∃j,j<=l.length+2/\i<=j/\suf l j=(JCf (suf l i)).2/\
  ∀lo p q,lo<=p.length->E lo 63 [.ptr p.length 0] (p++R l i::q)=some (.agg (tkC (JCf (suf l i)).1),p++R l j::q):=by
 obtain⟨j1,a1,a2,a3,a4⟩:=Jp1 (l:=l) (i:=i) hl hi;have hnl:=yh (suf l i);rw[Kz]at hnl;have hH:∀p q:List Ob,(p++R l i::q).length=p.length+(q.length+1):=λp q=>by simp
 unfold JCf;simp only;rw[<-a3];by_cases h40:chr (suf l j1) 0=40
 ·have hne:j1<l.length:=by
   rcases AG j1 l.length with h|h
   ·exact h
   ·rw[Jz h]at h40;cases h40
  have e1:suf l (j1+1)=(suf l j1).drop 1:=by simp[suf,AV]
  rw[if_pos h40]
  cases hu:JGV (name (suf l i)).1 with
  |true=>
   obtain⟨j2,b1,b2,b3,b4⟩:=Jp2 (n:=(name (suf l i)).1) (l:=l) (i:=j1+1) hl om;rw[if_pos rfl,<-e1,<-b3];by_cases hq:quo (if blk (chr (suf l j2) 0)=true then chr (suf l j2) 1 else chr (suf l j2) 0)=true
   ·rw[if_pos hq]
    refine⟨j2,om,om,rfl,λlo p q hlo=>?_⟩
    rw[e63,hH,pc_in,pc_go _ _ _ _ 0 4,a4 lo p q hlo om,if_pos h40,pc_go _ _ _ _ _ 3,Jcf om om lo p q hlo om,hu,if_pos rfl,
     pc_go _ _ _ _ _ 1,b4 lo p q hlo,pc_go _ _ _ _ _ 5,JiX om lo p q hlo om,if_pos hq,JAp,Zd]
    exact JDB
   ·obtain⟨j3,c1,c2,c3,c4⟩:=Jp3 (n:=(name (suf l i)).1) (l:=l) (i:=j2) hl b1
    rw[if_neg hq];refine⟨j3,c1,om,c3,λlo p q hlo=>?_⟩
    rw[e63,hH,pc_in,pc_go _ _ _ _ 0 4,a4 lo p q hlo om,if_pos h40,pc_go _ _ _ _ _ 3,Jcf om om lo p q hlo om,hu,if_pos rfl,
     pc_go _ _ _ _ _ 1,b4 lo p q hlo,pc_go _ _ _ _ _ 5,JiX om lo p q hlo om,if_neg hq,pc_go _ _ _ _ _ 2,c4 lo p q hlo om,JAp,Zd]
    exact JDB
  |false=>
   rw[if_neg (by simp)]
   refine⟨j1+1,om,om,e1,λlo p q hlo=>?_⟩
   rw[e63,hH,pc_in,pc_go _ _ _ _ 0 4,a4 lo p q hlo om,if_pos h40,pc_go _ _ _ _ _ 3,Jcf om om lo p q hlo om,hu,if_neg (by simp),JAp,Zd]
   exact JDB
 ·rw[if_neg h40]
  refine⟨j1,om,om,rfl,λlo p q hlo=>?_⟩
  rw[e63,hH,pc_in,pc_go _ _ _ _ 0 4,a4 lo p q hlo om,if_neg h40,JAp,Zd];exact JDB
end
def hdC:Code->Code
 | .seq a _=>a
 |_=> .skip
def cdC:Code->Operand
 | .seq _ (.cond x _ _)=>x
 |_=> .const (.bool false)
def thC:Code->Code
 | .seq _ (.cond _ a _)=>a
 |_=> .skip
def elC:Code->Code
 | .seq _ (.cond _ _ b)=>b
 |_=> .skip
def inC:Code->Code
 | .block _ a=>a
 |_=> .skip
def nthC(b:Code)(n:Nat):Code:=((flat b)[n]?).getD .skip
theorem JK8(a b:Code):hdC (.seq a b)=a:=rfl
theorem th_s(r:Code)(x:Operand)(a b:Code):thC (.seq r (.cond x a b))=a:=rfl
theorem el_s(r:Code)(x:Operand)(a b:Code):elC (.seq r (.cond x a b))=b:=rfl
theorem in_s(id:Nat)(a:Code):inC (.block id a)=a:=rfl
theorem JXK{c:Cx}{lp:Yc}{N:Code}{s s':St}{b:Bool}(hN:N= .seq (hdC N) (.cond (cdC N) (thC N) (elC N)))(hR:evCode c lp (hdC N) s=some (.normal,s'))(hx:opd s'.1 (cdC N)= .v (.bool b)):
  evCode c lp N s=if b=true then evCode c lp (thC N) s' else evCode c lp (elC N) s':=by
 have e1:evCode c lp N s=evCode c lp (.seq (hdC N) (.cond (cdC N) (thC N) (elC N))) s:=congrArg (λx=>evCode c lp x s) hN
 rw[e1,c_seq,hR,JL0,JQs,hx,JQv]
section
variable{lo i j:Nat}{l:List Int}{p q:List Ob}
abbrev H27(p q:List Ob)(l:List Int)(i:Nat):JC:=p++R l i::(q++[.cells (tokC 0 [])])
abbrev ret27(p q:List Ob)(l:List Int)(j:Nat)(t:Tk):Option (Ex×Jj×JC):=some (.ret,[(2,.ptr (p.length+(q.length+1)) 0)],p++R l j::(q++[.cells (tkC t)]))
theorem JXL(x:Bool×List Int×List Int):(if x.1=true then tokC 5 x.2.1 else tokC 6 [])=tkC (JKQ x):=by unfold JKQ;cases x.1<;>rfl
end
end Go.Lift.M1.T
end

section
open Go.Proofs
namespace Go.Lift.M1.T
variable[MX]
@[go_sem] theorem Jtx[HasK]:GTab.tab 0=some [.v (.int .i64 21),.v (.int .i64 22),.v (.int .i64 19),.v (.int .i64 20),.v (.int .i64 23),.v (.int .i64 24),.v (.int .i64 18),.v (.int .i64 16),.v (.int .i64 17)]:=if_pos HasK.h
variable[HasK]
open Utf Tok
theorem JGv(c:Int):(plK c=0/\c≠40/\c≠41/\c≠91/\c≠93/\c≠123/\c≠125/\c≠44/\c≠58/\c≠59)\/(0<plK c/\blk c=false/\quo c=false):=by
 unfold plK;by_cases h1:c=40;· subst h1;right;decide
 by_cases h2:c=41;· subst h2;right;decide
 by_cases h3:c=44;· subst h3;right;decide
 by_cases h4:c=58;· subst h4;right;decide
 by_cases h5:c=59;· subst h5;right;decide
 by_cases h6:c=91;· subst h6;right;decide
 by_cases h7:c=93;· subst h7;right;decide
 by_cases h8:c=123;· subst h8;right;decide
 by_cases h9:c=125;· subst h9;right;decide
 left
 simp only[h1,h2,h3,h4,h5,h6,h7,h8,h9,if_false];exact⟨trivial,om⟩
theorem JP5(s:List Int):Q6 s=
  if 0<plK (chr s 0)then(tk (plK (chr s 0)) [],s.drop 1)
  else if blk (chr s 0)=true then(tk 13 [],K5 s)
  else if quo (chr s 0)=true then(JKQ (txt (chr s 0) (s.drop 1)),(txt (chr s 0) (s.drop 1)).2.2)
  else if chr s 0=35/\(GR (chr s 1)||esc (chr s 1) (chr s 2))=true then(⟨4,(name (s.drop 1)).1,(0,0),false,beg (chr s 1) (chr s 2) (chr s 3)⟩,(name (s.drop 1)).2)
  else if num (chr s 0) (chr s 1) (chr s 2)=true then YW s
  else if chr s 0=45/\chr s 1=45/\chr s 2=62 then(tk 15 [],s.drop 3)
  else if chr s 0=60/\chr s 1=33/\chr s 2=45/\chr s 3=45 then(tk 14 [],s.drop 4)
  else if chr s 0=64/\beg (chr s 1) (chr s 2) (chr s 3)=true then(tk 3 (name (s.drop 1)).1,(name (s.drop 1)).2)
  else if beg (chr s 0) (chr s 1) (chr s 2)=true then JCf s
  else(tk 9 [chr s 0],s.drop 1):=by
 unfold Q6;simp only;rcases JGv (chr s 0)with⟨h0,_⟩|⟨h0,h1,h2⟩
 ·rw[h0]
  simp only[Int.lt_irrefl,if_false];by_cases h35:chr s 0=35/\(GR (chr s 1)||esc (chr s 1) (chr s 2))=true
  ·have hc:=h35.1
   rw[if_pos h35,if_pos h35,hc];have e1:num 35 (chr s 1) (chr s 2)=false:=by simp[num,dig]
   rw[e1];simp
  ·rw[if_neg h35,if_neg h35]
 ·rw[h1,h2]
  simp[h0]
noncomputable def Zc:Nat->Code
 |0=>inC (nthC b36 4)
 |k+1=>elC (Zc k)
theorem n30_0:Zc 0=inC (nthC b36 4):=rfl
theorem n30_s(k:Nat):Zc (k+1)=elC (Zc k):=rfl
theorem s30:∀k,k<=7->Zc k= .seq (hdC (Zc k)) (.cond (cdC (Zc k)) (thC (Zc k)) (elC (Zc k))):=by intro k hk;have:k=0\/k=1\/k=2\/k=3\/k=4\/k=5\/k=6\/k=7:=om;rcases this with rfl|rfl|rfl|rfl|rfl|rfl|rfl|rfl<;>rfl
theorem JiY:flat b36=[nthC b36 0,nthC b36 1,nthC b36 2,nthC b36 3,.block 2 (Zc 0),nthC b36 5,nthC b36 6,nthC b36 7]:=rfl
theorem YP{c:Cx}{lp:Yc}{N:Code}{s:St}{S:Bool->St}{b:Bool}(hN:N= .seq (hdC N) (.cond (cdC N) (thC N) (elC N)))(hR:evCode c lp (hdC N) s=some (.normal,S b))(hx:opd (S b).1 (cdC N)= .v (.bool b)):
  evCode c lp N s=if b=true then evCode c lp (thC N) (S true)else evCode c lp (elC N) (S false):=by
 rw[JXK hN hR hx];cases b<;>rfl
section
variable{lo i j:Nat}{l:List Int}{p q:List Ob}{c d e:Int}
noncomputable abbrev X95(lo:Nat)(p q:List Ob):Cx:=⟨Aa,E,lo,p.length+(q.length+1),h36⟩
abbrev P30(p q:List Ob)(l:List Int)(i:Nat)(c d e:Int)(ex:Jj):Jj×JC:=
 ((0,.ptr p.length 0)::(2,.ptr (p.length+(q.length+1)) 0)::(3,.v (.int .i32 c))::(4,.v (.int .i32 d))::(5,.v (.int .i32 e))::ex,H27 p q l i)
theorem tk30a(hi:i<=100000000000):Wc (X95 lo p q) JA (pc b36 0 3) (Ku [.ptr p.length 0],p++R l i::q)=some (.normal,P30 p q l i (chr (suf l i) 0) (chr (suf l i) 1) (chr (suf l i) 2) [(14,.v (.int .i64 0))]):=by
 have k0:=λlo p q=>f35 (lo:=lo) (l:=l) (i:=i) (p:=p) (q:=q) (k:=0) om
 have k1:=λlo p q=>f35 (lo:=lo) (l:=l) (i:=i) (p:=p) (q:=q) (k:=1) om
 have k2:=λlo p q=>f35 (lo:=lo) (l:=l) (i:=i) (p:=p) (q:=q) (k:=2) om
 have n1:((1:Nat):Int)=1:=rfl;have n2:((2:Nat):Int)=2:=rfl;simp only[n0,n1,n2]at k0 k1 k2;simp only[go_sem,X95,P30,H27,b36,Tryz.f36,k0,k1,k2,tokC,str_nil]<;>rfl
theorem kB(hi:i<=100000000000)(hlo:lo<=p.length)(hlo2:lo<=p.length+(q.length+1)):evCode (X95 lo p q) JA Kw (P30 p q l i c d e [(14,.v (.int .i64 0))])=if c=40 then ret27 p q l (i+1) (tk 21 [])else some (.normal,P30 p q l i c d e [(14,.v (.int .i64 1))]):=by
 have hw1:=JH (i:=i) om;have hlt:decide ((0:Int)<9)=true:=rfl;have hw:Aq.wrap ((0:Int)+1)=1:=rfl;have hu:((Cj 40:Nat):Int)=40:=rfl;have hi3:AF.wrap 40=40:=rfl;have hz:(((0:Int)).toNat)=0:=rfl;have n9:((9:Nat):Int)=9:=rfl;have hlt2:(0:Int)<9:=by decide
 by_cases h:c=40
 ·have t:((40:Int)==c)=true:=by simp[h]
  rw[if_pos h];simp only[go_sem,X95,P30,H27,ret27,Kw,b36,Tryz.f36,hlt,hu,hi3,hz,n9,hlt2,t,hw1,hlo,hlo2,tokC,tkC,tk,str_nil]<;>rfl
 ·have t:((40:Int)==c)=false:=by simp;omega
  rw[if_neg h];simp only[go_sem,X95,P30,H27,ret27,Kw,b36,Tryz.f36,hlt,hu,hi3,hz,t,hw,tokC,str_nil]<;>rfl
theorem yo(hi:i<=100000000000)(hlo:lo<=p.length)(hlo2:lo<=p.length+(q.length+1)):evCode (X95 lo p q) JA Kw (P30 p q l i c d e [(14,.v (.int .i64 1))])=if c=41 then ret27 p q l (i+1) (tk 22 [])else some (.normal,P30 p q l i c d e [(14,.v (.int .i64 2))]):=by
 have hw1:=JH (i:=i) om;have hlt:decide ((1:Int)<9)=true:=rfl;have hw:Aq.wrap ((1:Int)+1)=2:=rfl;have hu:((Cj 41:Nat):Int)=41:=rfl;have hi3:AF.wrap 41=41:=rfl;have hz:(((1:Int)).toNat)=1:=rfl;have n9:((9:Nat):Int)=9:=rfl;have hlt2:(1:Int)<9:=by decide
 by_cases h:c=41
 ·have t:((41:Int)==c)=true:=by simp[h]
  rw[if_pos h];simp only[go_sem,X95,P30,H27,ret27,Kw,b36,Tryz.f36,hlt,hu,hi3,hz,n9,hlt2,t,hw1,hlo,hlo2,tokC,tkC,tk,str_nil]<;>rfl
 ·have t:((41:Int)==c)=false:=by simp;omega
  rw[if_neg h];simp only[go_sem,X95,P30,H27,ret27,Kw,b36,Tryz.f36,hlt,hu,hi3,hz,t,hw,tokC,str_nil]<;>rfl
theorem JAq(hi:i<=100000000000)(hlo:lo<=p.length)(hlo2:lo<=p.length+(q.length+1)):evCode (X95 lo p q) JA Kw (P30 p q l i c d e [(14,.v (.int .i64 2))])=if c=91 then ret27 p q l (i+1) (tk 19 [])else some (.normal,P30 p q l i c d e [(14,.v (.int .i64 3))]):=by
 have hw1:=JH (i:=i) om;have hlt:decide ((2:Int)<9)=true:=rfl;have hw:Aq.wrap ((2:Int)+1)=3:=rfl;have hu:((Cj 91:Nat):Int)=91:=rfl;have hi3:AF.wrap 91=91:=rfl;have hz:(((2:Int)).toNat)=2:=rfl;have n9:((9:Nat):Int)=9:=rfl;have hlt2:(2:Int)<9:=by decide
 by_cases h:c=91
 ·have t:((91:Int)==c)=true:=by simp[h]
  rw[if_pos h];simp only[go_sem,X95,P30,H27,ret27,Kw,b36,Tryz.f36,hlt,hu,hi3,hz,n9,hlt2,t,hw1,hlo,hlo2,tokC,tkC,tk,str_nil]<;>rfl
 ·have t:((91:Int)==c)=false:=by simp;omega
  rw[if_neg h];simp only[go_sem,X95,P30,H27,ret27,Kw,b36,Tryz.f36,hlt,hu,hi3,hz,t,hw,tokC,str_nil]<;>rfl
theorem JDD(hi:i<=100000000000)(hlo:lo<=p.length)(hlo2:lo<=p.length+(q.length+1)):evCode (X95 lo p q) JA Kw (P30 p q l i c d e [(14,.v (.int .i64 3))])=if c=93 then ret27 p q l (i+1) (tk 20 [])else some (.normal,P30 p q l i c d e [(14,.v (.int .i64 4))]):=by
 have hw1:=JH (i:=i) om;have hlt:decide ((3:Int)<9)=true:=rfl;have hw:Aq.wrap ((3:Int)+1)=4:=rfl;have hu:((Cj 93:Nat):Int)=93:=rfl;have hi3:AF.wrap 93=93:=rfl;have hz:(((3:Int)).toNat)=3:=rfl;have n9:((9:Nat):Int)=9:=rfl;have hlt2:(3:Int)<9:=by decide
 by_cases h:c=93
 ·have t:((93:Int)==c)=true:=by simp[h]
  rw[if_pos h];simp only[go_sem,X95,P30,H27,ret27,Kw,b36,Tryz.f36,hlt,hu,hi3,hz,n9,hlt2,t,hw1,hlo,hlo2,tokC,tkC,tk,str_nil]<;>rfl
 ·have t:((93:Int)==c)=false:=by simp;omega
  rw[if_neg h];simp only[go_sem,X95,P30,H27,ret27,Kw,b36,Tryz.f36,hlt,hu,hi3,hz,t,hw,tokC,str_nil]<;>rfl
theorem JGw(hi:i<=100000000000)(hlo:lo<=p.length)(hlo2:lo<=p.length+(q.length+1)):evCode (X95 lo p q) JA Kw (P30 p q l i c d e [(14,.v (.int .i64 4))])=if c=123 then ret27 p q l (i+1) (tk 23 [])else some (.normal,P30 p q l i c d e [(14,.v (.int .i64 5))]):=by
 have hw1:=JH (i:=i) om;have hlt:decide ((4:Int)<9)=true:=rfl;have hw:Aq.wrap ((4:Int)+1)=5:=rfl;have hu:((Cj 123:Nat):Int)=123:=rfl;have hi3:AF.wrap 123=123:=rfl;have hz:(((4:Int)).toNat)=4:=rfl;have n9:((9:Nat):Int)=9:=rfl;have hlt2:(4:Int)<9:=by decide
 by_cases h:c=123
 ·have t:((123:Int)==c)=true:=by simp[h]
  rw[if_pos h];simp only[go_sem,X95,P30,H27,ret27,Kw,b36,Tryz.f36,hlt,hu,hi3,hz,n9,hlt2,t,hw1,hlo,hlo2,tokC,tkC,tk,str_nil]<;>rfl
 ·have t:((123:Int)==c)=false:=by simp;omega
  rw[if_neg h];simp only[go_sem,X95,P30,H27,ret27,Kw,b36,Tryz.f36,hlt,hu,hi3,hz,t,hw,tokC,str_nil]<;>rfl
theorem JK9(hi:i<=100000000000)(hlo:lo<=p.length)(hlo2:lo<=p.length+(q.length+1)):evCode (X95 lo p q) JA Kw (P30 p q l i c d e [(14,.v (.int .i64 5))])=if c=125 then ret27 p q l (i+1) (tk 24 [])else some (.normal,P30 p q l i c d e [(14,.v (.int .i64 6))]):=by
 have hw1:=JH (i:=i) om;have hlt:decide ((5:Int)<9)=true:=rfl;have hw:Aq.wrap ((5:Int)+1)=6:=rfl;have hu:((Cj 125:Nat):Int)=125:=rfl;have hi3:AF.wrap 125=125:=rfl;have hz:(((5:Int)).toNat)=5:=rfl;have n9:((9:Nat):Int)=9:=rfl;have hlt2:(5:Int)<9:=by decide
 by_cases h:c=125
 ·have t:((125:Int)==c)=true:=by simp[h]
  rw[if_pos h];simp only[go_sem,X95,P30,H27,ret27,Kw,b36,Tryz.f36,hlt,hu,hi3,hz,n9,hlt2,t,hw1,hlo,hlo2,tokC,tkC,tk,str_nil]<;>rfl
 ·have t:((125:Int)==c)=false:=by simp;omega
  rw[if_neg h];simp only[go_sem,X95,P30,H27,ret27,Kw,b36,Tryz.f36,hlt,hu,hi3,hz,t,hw,tokC,str_nil]<;>rfl
theorem JOO(hi:i<=100000000000)(hlo:lo<=p.length)(hlo2:lo<=p.length+(q.length+1)):evCode (X95 lo p q) JA Kw (P30 p q l i c d e [(14,.v (.int .i64 6))])=if c=44 then ret27 p q l (i+1) (tk 18 [])else some (.normal,P30 p q l i c d e [(14,.v (.int .i64 7))]):=by
 have hw1:=JH (i:=i) om;have hlt:decide ((6:Int)<9)=true:=rfl;have hw:Aq.wrap ((6:Int)+1)=7:=rfl;have hu:((Cj 44:Nat):Int)=44:=rfl;have hi3:AF.wrap 44=44:=rfl;have hz:(((6:Int)).toNat)=6:=rfl;have n9:((9:Nat):Int)=9:=rfl;have hlt2:(6:Int)<9:=by decide
 by_cases h:c=44
 ·have t:((44:Int)==c)=true:=by simp[h]
  rw[if_pos h];simp only[go_sem,X95,P30,H27,ret27,Kw,b36,Tryz.f36,hlt,hu,hi3,hz,n9,hlt2,t,hw1,hlo,hlo2,tokC,tkC,tk,str_nil]<;>rfl
 ·have t:((44:Int)==c)=false:=by simp;omega
  rw[if_neg h];simp only[go_sem,X95,P30,H27,ret27,Kw,b36,Tryz.f36,hlt,hu,hi3,hz,t,hw,tokC,str_nil]<;>rfl
theorem JTq(hi:i<=100000000000)(hlo:lo<=p.length)(hlo2:lo<=p.length+(q.length+1)):evCode (X95 lo p q) JA Kw (P30 p q l i c d e [(14,.v (.int .i64 7))])=if c=58 then ret27 p q l (i+1) (tk 16 [])else some (.normal,P30 p q l i c d e [(14,.v (.int .i64 8))]):=by
 have hw1:=JH (i:=i) om;have hlt:decide ((7:Int)<9)=true:=rfl;have hw:Aq.wrap ((7:Int)+1)=8:=rfl;have hu:((Cj 58:Nat):Int)=58:=rfl;have hi3:AF.wrap 58=58:=rfl;have hz:(((7:Int)).toNat)=7:=rfl;have n9:((9:Nat):Int)=9:=rfl;have hlt2:(7:Int)<9:=by decide
 by_cases h:c=58
 ·have t:((58:Int)==c)=true:=by simp[h]
  rw[if_pos h];simp only[go_sem,X95,P30,H27,ret27,Kw,b36,Tryz.f36,hlt,hu,hi3,hz,n9,hlt2,t,hw1,hlo,hlo2,tokC,tkC,tk,str_nil]<;>rfl
 ·have t:((58:Int)==c)=false:=by simp;omega
  rw[if_neg h];simp only[go_sem,X95,P30,H27,ret27,Kw,b36,Tryz.f36,hlt,hu,hi3,hz,t,hw,tokC,str_nil]<;>rfl
theorem JYO(hi:i<=100000000000)(hlo:lo<=p.length)(hlo2:lo<=p.length+(q.length+1)):evCode (X95 lo p q) JA Kw (P30 p q l i c d e [(14,.v (.int .i64 8))])=if c=59 then ret27 p q l (i+1) (tk 17 [])else some (.normal,P30 p q l i c d e [(14,.v (.int .i64 9))]):=by
 have hw1:=JH (i:=i) om;have hlt:decide ((8:Int)<9)=true:=rfl;have hw:Aq.wrap ((8:Int)+1)=9:=rfl;have hu:((Cj 59:Nat):Int)=59:=rfl;have hi3:AF.wrap 59=59:=rfl;have hz:(((8:Int)).toNat)=8:=rfl;have n9:((9:Nat):Int)=9:=rfl;have hlt2:(8:Int)<9:=by decide
 by_cases h:c=59
 ·have t:((59:Int)==c)=true:=by simp[h]
  rw[if_pos h];simp only[go_sem,X95,P30,H27,ret27,Kw,b36,Tryz.f36,hlt,hu,hi3,hz,n9,hlt2,t,hw1,hlo,hlo2,tokC,tkC,tk,str_nil]<;>rfl
 ·have t:((59:Int)==c)=false:=by simp;omega
  rw[if_neg h];simp only[go_sem,X95,P30,H27,ret27,Kw,b36,Tryz.f36,hlt,hu,hi3,hz,t,hw,tokC,str_nil]<;>rfl
theorem Jch(hi:i<=100000000000)(hlo:lo<=p.length)(hlo2:lo<=p.length+(q.length+1)):JA (evCode (X95 lo p q) JA Kw) (P30 p q l i c d e [(14,.v (.int .i64 0))])=
  if 0<plK c then ret27 p q l (i+1) (tk (plK c) [])else some (.exit 0,P30 p q l i c d e [(14,.v (.int .i64 9)),(15,.v (.bool false))]):=by
 by_cases h0:c=40
 ·rw[loop_eq,kB hi hlo hlo2,if_pos h0]
  subst h0;rfl
 by_cases h1:c=41
 ·rw[loop_eq,kB hi hlo hlo2,if_neg h0,JK,loop_eq,yo hi hlo hlo2,if_pos h1]
  subst h1;rfl
 by_cases h2:c=91
 ·rw[loop_eq,kB hi hlo hlo2,if_neg h0,JK,loop_eq,yo hi hlo hlo2,if_neg h1,JK,loop_eq,JAq hi hlo hlo2,if_pos h2]
  subst h2;rfl
 by_cases h3:c=93
 ·rw[loop_eq,kB hi hlo hlo2,if_neg h0,JK,loop_eq,yo hi hlo hlo2,if_neg h1,JK,loop_eq,JAq hi hlo hlo2,if_neg h2,JK,loop_eq,JDD hi hlo hlo2,if_pos h3]
  subst h3;rfl
 by_cases h4:c=123
 ·rw[loop_eq,kB hi hlo hlo2,if_neg h0,JK,loop_eq,yo hi hlo hlo2,if_neg h1,JK,loop_eq,JAq hi hlo hlo2,if_neg h2,JK,loop_eq,JDD hi hlo hlo2,if_neg h3,JK,loop_eq,JGw hi hlo hlo2,if_pos h4]
  subst h4;rfl
 by_cases h5:c=125
 ·rw[loop_eq,kB hi hlo hlo2,if_neg h0,JK,loop_eq,yo hi hlo hlo2,if_neg h1,JK,loop_eq,JAq hi hlo hlo2,if_neg h2,JK,loop_eq,JDD hi hlo hlo2,if_neg h3,JK,loop_eq,JGw hi hlo hlo2,if_neg h4,JK,loop_eq,JK9 hi hlo hlo2,if_pos h5]
  subst h5;rfl
 by_cases h6:c=44
 ·rw[loop_eq,kB hi hlo hlo2,if_neg h0,JK,loop_eq,yo hi hlo hlo2,if_neg h1,JK,loop_eq,JAq hi hlo hlo2,if_neg h2,JK,loop_eq,JDD hi hlo hlo2,if_neg h3,JK,loop_eq,JGw hi hlo hlo2,if_neg h4,JK,loop_eq,JK9 hi hlo hlo2,if_neg h5,JK,loop_eq,JOO hi hlo hlo2,if_pos h6]
  subst h6;rfl
 by_cases h7:c=58
 ·rw[loop_eq,kB hi hlo hlo2,if_neg h0,JK,loop_eq,yo hi hlo hlo2,if_neg h1,JK,loop_eq,JAq hi hlo hlo2,if_neg h2,JK,loop_eq,JDD hi hlo hlo2,if_neg h3,JK,loop_eq,JGw hi hlo hlo2,if_neg h4,JK,loop_eq,JK9 hi hlo hlo2,if_neg h5,JK,loop_eq,JOO hi hlo hlo2,if_neg h6,JK,loop_eq,JTq hi hlo hlo2,if_pos h7]
  subst h7;rfl
 by_cases h8:c=59
 ·rw[loop_eq,kB hi hlo hlo2,if_neg h0,JK,loop_eq,yo hi hlo hlo2,if_neg h1,JK,loop_eq,JAq hi hlo hlo2,if_neg h2,JK,loop_eq,JDD hi hlo hlo2,if_neg h3,JK,loop_eq,JGw hi hlo hlo2,if_neg h4,JK,loop_eq,JK9 hi hlo hlo2,if_neg h5,JK,loop_eq,JOO hi hlo hlo2,if_neg h6,JK,loop_eq,JTq hi hlo hlo2,if_neg h7,JK,loop_eq,JYO hi hlo hlo2,if_pos h8]
  subst h8;rfl
 rw[loop_eq,kB hi hlo hlo2,if_neg h0,JK,loop_eq,yo hi hlo hlo2,if_neg h1,JK,loop_eq,JAq hi hlo hlo2,if_neg h2,JK,loop_eq,JDD hi hlo hlo2,if_neg h3,JK,loop_eq,JGw hi hlo hlo2,if_neg h4,JK,loop_eq,JK9 hi hlo hlo2,if_neg h5,JK,loop_eq,JOO hi hlo hlo2,if_neg h6,JK,loop_eq,JTq hi hlo hlo2,if_neg h7,JK,loop_eq,JYO hi hlo hlo2,if_neg h8,JK,loop_eq]
 have hp:¬0<plK c:=by
  rcases JGv c with h|h
  ·omega
  ·have:=h.1
   unfold plK at this;simp only[h0,h1,h2,h3,h4,h5,h6,h7,h8,if_false]at this;omega
 rw[if_neg hp];have hlt:decide ((9:Int)<9)=false:=rfl;simp only[go_sem,X95,P30,H27,Kw,b36,Tryz.f36,hlt,tokC,str_nil]<;>rfl
theorem tk30b(hi:i<=100000000000)(hlo:lo<=p.length)(hlo2:lo<=p.length+(q.length+1)):Wc (X95 lo p q) JA (pc b36 3 1) (P30 p q l i c d e [(14,.v (.int .i64 0))])=
  if 0<plK c then ret27 p q l (i+1) (tk (plK c) [])else some (.normal,P30 p q l i c d e [(14,.v (.int .i64 9)),(15,.v (.bool false))]):=by
 have hL:=Jch (l:=l) (c:=c) (d:=d) (e:=e) hi hlo hlo2;by_cases h:0<plK c
 ·rw[if_pos h]at hL⊢
  simp only[X95,P30,H27,ret27,Kw,b36,Tryz.f36,JD,JT,JB,go_sem,tokC,tkC,tk,str_nil]at hL;simp only[go_sem,X95,P30,H27,ret27,b36,Tryz.f36,hL,tokC,tkC,tk,str_nil]
 ·rw[if_neg h]at hL⊢
  simp only[X95,P30,H27,Kw,b36,Tryz.f36,JD,JT,JB,go_sem,tokC,str_nil]at hL;simp only[go_sem,X95,P30,H27,b36,Tryz.f36,hL,tokC,str_nil]
theorem vq0{x y:V}:evCode (X95 lo p q) JA (Zc 0) (P30 p q l i c d e [(14,x),(15,y)])=if(blk c)=true then evCode (X95 lo p q) JA (thC (Zc 0)) (P30 p q l i c d e [(34,.v (.bool true))])else evCode (X95 lo p q) JA (Zc 1) (P30 p q l i c d e [(34,.v (.bool false))]):=by
 refine YP (S:=λb=>P30 p q l i c d e [(34,.v (.bool b))]) (b:=(blk c)) (s30 0 om) ?_ rfl
 simp only[go_sem,n30_0,n30_s,nthC,JK8,in_s,el_s,X95,P30,H27,b36,Tryz.f36,f54,tokC,str_nil]
theorem vq1{x:V}:evCode (X95 lo p q) JA (Zc 1) (P30 p q l i c d e [(34,x)])=if(quo c)=true then evCode (X95 lo p q) JA (thC (Zc 1)) (P30 p q l i c d e [(40,.v (.bool true))])else evCode (X95 lo p q) JA (Zc 2) (P30 p q l i c d e [(40,.v (.bool false))]):=by
 refine YP (S:=λb=>P30 p q l i c d e [(40,.v (.bool b))]) (b:=(quo c)) (s30 1 om) ?_ rfl
 simp only[go_sem,n30_0,n30_s,nthC,JK8,in_s,el_s,X95,P30,H27,b36,Tryz.f36,quo,tokC,str_nil]
theorem vq2{x:V}:evCode (X95 lo p q) JA (Zc 2) (P30 p q l i c d e [(40,x)])=if(c==35&&((d != -1&&GR d)||esc d e))=true then evCode (X95 lo p q) JA (thC (Zc 2)) (P30 p q l i c d e [(57,.v (.bool true))])else evCode (X95 lo p q) JA (Zc 3) (P30 p q l i c d e [(57,.v (.bool false))]):=by
 refine YP (S:=λb=>P30 p q l i c d e [(57,.v (.bool b))]) (b:=(c==35&&((d != -1&&GR d)||esc d e))) (s30 2 om) ?_ rfl
 cases h1:(c==35)<;>cases h2:(d != -1)<;>cases h3:GR d<;>
   simp only[go_sem,n30_0,n30_s,nthC,JK8,in_s,el_s,X95,P30,H27,b36,Tryz.f36,f57,f58,h1,h2,h3,AB,Aw,Bool.true_or,Bool.false_or,tokC,str_nil]
theorem vq3{x:V}:evCode (X95 lo p q) JA (Zc 3) (P30 p q l i c d e [(57,x)])=if(num c d e)=true then evCode (X95 lo p q) JA (thC (Zc 3)) (P30 p q l i c d e [(89,.v (.bool true))])else evCode (X95 lo p q) JA (Zc 4) (P30 p q l i c d e [(89,.v (.bool false))]):=by
 refine YP (S:=λb=>P30 p q l i c d e [(89,.v (.bool b))]) (b:=(num c d e)) (s30 3 om) ?_ rfl
 simp only[go_sem,n30_0,n30_s,nthC,JK8,in_s,el_s,X95,P30,H27,b36,Tryz.f36,f61,tokC,str_nil]
theorem vq4{x:V}:evCode (X95 lo p q) JA (Zc 4) (P30 p q l i c d e [(89,x)])=if(c==45&&(d==45&&e==62))=true then evCode (X95 lo p q) JA (thC (Zc 4)) (P30 p q l i c d e [(96,.v (.bool true))])else evCode (X95 lo p q) JA (Zc 5) (P30 p q l i c d e [(96,.v (.bool false))]):=by
 refine YP (S:=λb=>P30 p q l i c d e [(96,.v (.bool b))]) (b:=(c==45&&(d==45&&e==62))) (s30 4 om) ?_ rfl
 cases h1:(c==45)<;>cases h2:(d==45)<;>
   simp only[go_sem,n30_0,n30_s,nthC,JK8,in_s,el_s,X95,P30,H27,b36,Tryz.f36,h1,h2,AB,Aw,tokC,str_nil]
theorem vq5{x:V}(hi:i<=100000000000):evCode (X95 lo p q) JA (Zc 5) (P30 p q l i c d e [(96,x)])=if(c==60&&(d==33&&(e==45&&chr (suf l i) 3==45)))=true then evCode (X95 lo p q) JA (thC (Zc 5)) (P30 p q l i c d e [(115,.v (.bool true))])else evCode (X95 lo p q) JA (Zc 6) (P30 p q l i c d e [(115,.v (.bool false))]):=by
 have k3:=λlo p q=>f35 (lo:=lo) (l:=l) (i:=i) (p:=p) (q:=q) (k:=3) om
 have n3:((3:Nat):Int)=3:=rfl;simp only[n3]at k3;refine YP (S:=λb=>P30 p q l i c d e [(115,.v (.bool b))]) (b:=(c==60&&(d==33&&(e==45&&chr (suf l i) 3==45)))) (s30 5 om) ?_ rfl
 cases h1:(c==60)<;>cases h2:(d==33)<;>cases h3:(e==45)<;>
   simp only[go_sem,n30_0,n30_s,nthC,JK8,in_s,el_s,X95,P30,H27,b36,Tryz.f36,k3,h1,h2,h3,AB,Aw,tokC,str_nil]
theorem vq6{x:V}(hi:i<=100000000000):evCode (X95 lo p q) JA (Zc 6) (P30 p q l i c d e [(115,x)])=if(c==64&&beg d e (chr (suf l i) 3))=true then evCode (X95 lo p q) JA (thC (Zc 6)) (P30 p q l i c d e [(139,.v (.bool true))])else evCode (X95 lo p q) JA (Zc 7) (P30 p q l i c d e [(139,.v (.bool false))]):=by
 have k3:=λlo p q=>f35 (lo:=lo) (l:=l) (i:=i) (p:=p) (q:=q) (k:=3) om
 have n3:((3:Nat):Int)=3:=rfl;simp only[n3]at k3;refine YP (S:=λb=>P30 p q l i c d e [(139,.v (.bool b))]) (b:=(c==64&&beg d e (chr (suf l i) 3))) (s30 6 om) ?_ rfl
 cases h1:(c==64)<;>
   simp only[go_sem,n30_0,n30_s,nthC,JK8,in_s,el_s,X95,P30,H27,b36,Tryz.f36,k3,f59,h1,AB,Aw,tokC,str_nil]
abbrev W30(p q:List Ob)(l:List Int)(i:Nat)(c:Int)(ex:Jj):Jj×JC:=((0,.ptr p.length 0)::(2,.ptr (p.length+(q.length+1)) 0)::(3,.v (.int .i32 c))::ex,H27 p q l i)
theorem Jp6:elC (Zc 7)= .skip:=rfl
theorem vq7{x:V}:evCode (X95 lo p q) JA (Zc 7) (P30 p q l i c d e [(139,x)])=if(beg c d e)=true then evCode (X95 lo p q) JA (thC (Zc 7)) (W30 p q l i c [(159,.v (.bool true))])else some (.normal,W30 p q l i c [(159,.v (.bool false))]):=by
 have h:=YP (c:=X95 lo p q) (lp:=JA) (s:=P30 p q l i c d e [(139,x)]) (S:=λb=>W30 p q l i c [(159,.v (.bool b))]) (b:=(beg c d e)) (s30 7 om) (by simp only[go_sem,n30_0,n30_s,nthC,JK8,in_s,el_s,X95,P30,H27,b36,Tryz.f36,W30,f59,tokC,str_nil]) rfl
 rw[h,Jp6,JQq]
theorem an0{x:V}(hl:l.length<=100000000000)(hi:i<=l.length):∃j,j<=l.length+2/\suf l j=K5 (suf l i)/\ ∀lo p q,lo<=p.length->lo<=p.length+(q.length+1)->
  evCode (X95 lo p q) JA (thC (Zc 0)) (P30 p q l i c d e [(34,x)])=ret27 p q l j (tk 13 []):=by
 obtain⟨j,a1,a2,a3,a4⟩:=f55 (l:=l) (i:=i) hl hi;refine⟨j,om,a3,λlo p q hlo hlo2=>?_⟩
 simp only[go_sem,n30_0,n30_s,nthC,th_s,in_s,el_s,X95,P30,H27,ret27,b36,Tryz.f36,a4 _ _ _ hlo,hlo2,tokC,tkC,tk,str_nil]<;>rfl
theorem an1{x:V}(hl:l.length<=100000000000)(hi:i<l.length)(hq:quo c=true):∃j,j<=l.length+2/\suf l j=(txt c (suf l (i+1))).2.2/\ ∀lo p q,lo<=p.length->lo<=p.length+(q.length+1)->
  evCode (X95 lo p q) JA (thC (Zc 1)) (P30 p q l i c d e [(40,x)])=ret27 p q l j (JKQ (txt c (suf l (i+1)))):=by
 have hw1:=JH (i:=i) om;obtain⟨j,a1,a2,a3,a4⟩:=f56 (l:=l) (i:=i+1) (sign:=c) hl om hq;simp only[JXL,tkC]at a4;refine⟨j,a1,a3,λlo p q hlo hlo2=>?_⟩
 simp only[go_sem,n30_0,n30_s,nthC,th_s,in_s,el_s,X95,P30,H27,ret27,b36,Tryz.f36,hw1,hlo,a4 _ _ _ hlo,hlo2,tokC,tkC,str_nil]<;>rfl
theorem an2{x:V}(hl:l.length<=100000000000)(hi:i<l.length):∃j,j<=l.length+2/\suf l j=(name ((suf l i).drop 1)).2/\ ∀lo p q,lo<=p.length->lo<=p.length+(q.length+1)->
  evCode (X95 lo p q) JA (thC (Zc 2)) (P30 p q l i c d e [(57,x)])=ret27 p q l j ⟨4,(name ((suf l i).drop 1)).1,(0,0),false,beg d e (chr (suf l i) 3)⟩:=by
 have hw1:=JH (i:=i) om;have k2:=λlo p q=>f35 (lo:=lo) (l:=l) (i:=i+1) (p:=p) (q:=q) (k:=2) om
 have n2:((2:Nat):Int)=2:=rfl;have e1:suf l (i+1)=(suf l i).drop 1:=by simp[suf,AV]
 have e2:chr (suf l (i+1)) 2=chr (suf l i) 3:=by rw[e1,JCh]
 simp only[n2,e2]at k2;obtain⟨j,a1,a2,a3,a4⟩:=f60 (l:=l) (i:=i+1) hl om;rw[e1]at a3 a4;refine⟨j,om,a3,λlo p q hlo hlo2=>?_⟩
 simp only[go_sem,n30_0,n30_s,nthC,th_s,in_s,el_s,X95,P30,H27,ret27,b36,Tryz.f36,k2,f59,hw1,a4 _ _ _ hlo,hlo,hlo2,tokC,tkC,str_nil]<;>rfl
theorem an3{x:V}(hl:l.length<=100000000000)(hi:i<=l.length)(hn:num (chr (suf l i) 0) (chr (suf l i) 1) (chr (suf l i) 2)=true):∃j,j<=l.length+2/\suf l j=(YW (suf l i)).2/\ ∀lo p q,lo<=p.length->lo<=p.length+(q.length+1)->
  evCode (X95 lo p q) JA (thC (Zc 3)) (P30 p q l i c d e [(89,x)])=ret27 p q l j (YW (suf l i)).1:=by
 obtain⟨j,a1,a2,a3,a4⟩:=f62 (l:=l) (i:=i) hl hi hn;simp only[tkC]at a4;refine⟨j,om,a3,λlo p q hlo hlo2=>?_⟩
 simp only[go_sem,n30_0,n30_s,nthC,th_s,in_s,el_s,X95,P30,H27,ret27,b36,Tryz.f36,a4 _ _ _ hlo,hlo2,tokC,tkC,str_nil]<;>rfl
theorem an4{x:V}(hl:i<=100000000000):∀lo p q,lo<=p.length->lo<=p.length+(q.length+1)->
  evCode (X95 lo p q) JA (thC (Zc 4)) (P30 p q l i c d e [(96,x)])=ret27 p q l (i+3) (tk 15 []):=by
 have hw1:Aq.wrap ((i:Int)+3)=((i+3:Nat):Int):=by rw[JN om om];omega
 intro lo p q hlo hlo2;simp only[go_sem,n30_0,n30_s,nthC,th_s,in_s,el_s,X95,P30,H27,ret27,b36,Tryz.f36,hw1,hlo,hlo2,tokC,tkC,tk,str_nil]<;>rfl
theorem an5{x:V}(hl:i<=100000000000):∀lo p q,lo<=p.length->lo<=p.length+(q.length+1)->
  evCode (X95 lo p q) JA (thC (Zc 5)) (P30 p q l i c d e [(115,x)])=ret27 p q l (i+4) (tk 14 []):=by
 have hw1:Aq.wrap ((i:Int)+4)=((i+4:Nat):Int):=by rw[JN om om];omega
 intro lo p q hlo hlo2;simp only[go_sem,n30_0,n30_s,nthC,th_s,in_s,el_s,X95,P30,H27,ret27,b36,Tryz.f36,hw1,hlo,hlo2,tokC,tkC,tk,str_nil]<;>rfl
theorem an6{x:V}(hl:l.length<=100000000000)(hi:i<l.length):∃j,j<=l.length+2/\suf l j=(name ((suf l i).drop 1)).2/\ ∀lo p q,lo<=p.length->lo<=p.length+(q.length+1)->
  evCode (X95 lo p q) JA (thC (Zc 6)) (P30 p q l i c d e [(139,x)])=ret27 p q l j (tk 3 (name ((suf l i).drop 1)).1):=by
 have hw1:=JH (i:=i) om;obtain⟨j,a1,a2,a3,a4⟩:=f60 (l:=l) (i:=i+1) hl om;have e1:suf l (i+1)=(suf l i).drop 1:=by simp[suf,AV]
 rw[e1]at a3 a4;refine⟨j,om,a3,λlo p q hlo hlo2=>?_⟩
 simp only[go_sem,n30_0,n30_s,nthC,th_s,in_s,el_s,X95,P30,H27,ret27,b36,Tryz.f36,hw1,a4 _ _ _ hlo,hlo,hlo2,tokC,tkC,tk,str_nil]<;>rfl
theorem an7{x:V}(hl:l.length<=100000000000)(hi:i<=l.length):∃j,j<=l.length+2/\suf l j=(JCf (suf l i)).2/\ ∀lo p q,lo<=p.length->lo<=p.length+(q.length+1)->
  evCode (X95 lo p q) JA (thC (Zc 7)) (W30 p q l i c [(159,x)])=ret27 p q l j (JCf (suf l i)).1:=by
 obtain⟨j,a1,a2,a3,a4⟩:=f63 (l:=l) (i:=i) hl hi;simp only[tkC]at a4;refine⟨j,a1,a3,λlo p q hlo hlo2=>?_⟩
 simp only[go_sem,n30_0,n30_s,nthC,th_s,in_s,el_s,X95,P30,H27,ret27,b36,Tryz.f36,W30,a4 _ _ _ hlo,hlo2,tokC,tkC,str_nil]<;>rfl
theorem an8{x:V}(hi:i<=100000000000):∀lo p q,lo<=p.length->lo<=p.length+(q.length+1)->
  Wc (X95 lo p q) JA (pc b36 5 3) (W30 p q l i c [(159,x)])=ret27 p q l (i+1) (tk 9 [c]):=by
 have hw1:=JH (i:=i) om;have k82:=λlo h=>f64 (lo:=lo) (l:=[c]) (h:=h) (by simp)
 simp only[Zn,Ko]at k82;intro lo p q hlo hlo2;simp only[go_sem,X95,W30,H27,ret27,b36,Tryz.f36,hw1,hlo,k82,hlo2,tokC,tkC,tk,str_nil]<;>rfl
theorem f36(hl:l.length<=100000000000)(hi:i<l.length):∃j,j<=l.length+2/\suf l j=(Q6 (suf l i)).2/\
  ∀lo p q,lo<=p.length->E lo 36 [.ptr p.length 0] (p++R l i::q)=some (.agg (tkC (Q6 (suf l i)).1),p++R l j::q):=by
 have hH:∀p q:List Ob,(p++R l i::q).length=p.length+(q.length+1):=λp q=>by simp
 have hin:i<=100000000000:=om
 have hdd:(chr (suf l i) 1 != -1&&GR (chr (suf l i) 1))=GR (chr (suf l i) 1):=by
  cases h:(chr (suf l i) 1 != -1)with
  |true=>simp
  |false=>
   have:chr (suf l i) 1= -1:=by simpa using h
   rw[this]<;>rfl
 have hd1:∀k,suf l (i+k)=(suf l i).drop k:=λk=>by simp[suf,AV]
 have hgt:∀k c,chr (suf l i) k=c->c≠ -1->i+k<l.length:=λk c h hc=>by
  rcases AG (i+k) l.length with h2|h2
  ·exact h2
  ·exfalso
   have:(suf l i)[k]? =none:=List.getElem?_eq_none (by rw[Kz];omega)
   simp only[chr,this]at h;exact hc h.symm
 rw[JP5];by_cases hp:0<plK (chr (suf l i) 0)
 ·rw[if_pos hp]
  refine⟨i+1,om,hd1 1,λlo p q hlo=>?_⟩
  rw[e36,hH,pc_in,pc_go _ _ _ _ 0 3,tk30a hin,pc_go _ _ _ _ _ 1,tk30b hin hlo om,if_pos hp,ret27,Zd];exact JDB
 rw[if_neg hp]
 have fin_:∀(j:Nat) (t:Tk),(∀lo p q,lo<=p.length->lo<=p.length+(q.length+1)->evCode (X95 lo p q) JA (Zc 0) (P30 p q l i (chr (suf l i) 0) (chr (suf l i) 1) (chr (suf l i) 2) [(14,.v (.int .i64 9)),(15,.v (.bool false))])=ret27 p q l j t)->
   ∀lo p q,lo<=p.length->E lo 36 [.ptr p.length 0] (p++R l i::q)=some (.agg (tkC t),p++R l j::q):=by
  intro j t hq lo p q hlo;rw[e36,hH,pc_in,pc_go _ _ _ _ 0 3,tk30a hin,pc_go _ _ _ _ _ 1,tk30b hin hlo om,if_neg hp,pc_go _ _ _ _ _ 1]
  have hB:Wc (X95 lo p q) JA (pc b36 4 1) (P30 p q l i (chr (suf l i) 0) (chr (suf l i) 1) (chr (suf l i) 2) [(14,.v (.int .i64 9)),(15,.v (.bool false))])=ret27 p q l j t:=by
   unfold pc;rw[JiY];show Wc (X95 lo p q) JA [.block 2 (Zc 0)] _=_
   rw[one_l,JHQ,hq lo p q hlo om]<;>rfl
  rw[hB,ret27,Zd];exact JDB
 have fin2:(∀lo p q,lo<=p.length->lo<=p.length+(q.length+1)->evCode (X95 lo p q) JA (Zc 0) (P30 p q l i (chr (suf l i) 0) (chr (suf l i) 1) (chr (suf l i) 2) [(14,.v (.int .i64 9)),(15,.v (.bool false))])=some (.normal,W30 p q l i (chr (suf l i) 0) [(159,.v (.bool false))]))->
   ∀lo p q,lo<=p.length->E lo 36 [.ptr p.length 0] (p++R l i::q)=some (.agg (tkC (tk 9 [chr (suf l i) 0])),p++R l (i+1)::q):=by
  intro hq lo p q hlo;rw[e36,hH,pc_in,pc_go _ _ _ _ 0 3,tk30a hin,pc_go _ _ _ _ _ 1,tk30b hin hlo om,if_neg hp,pc_go _ _ _ _ _ 1]
  have hB:Wc (X95 lo p q) JA (pc b36 4 1) (P30 p q l i (chr (suf l i) 0) (chr (suf l i) 1) (chr (suf l i) 2) [(14,.v (.int .i64 9)),(15,.v (.bool false))])=some (.normal,W30 p q l i (chr (suf l i) 0) [(159,.v (.bool false))]):=by
   unfold pc;rw[JiY];show Wc (X95 lo p q) JA [.block 2 (Zc 0)] _=_
   rw[one_l,JHQ,hq lo p q hlo om]<;>rfl
  rw[hB,pc_go _ _ _ _ _ 3,an8 hin lo p q hlo om,ret27,Zd];exact JDB
 by_cases h0:blk (chr (suf l i) 0)=true
 ·obtain⟨j,a1,a2,a3⟩:=an0 (c:=chr (suf l i) 0) (d:=chr (suf l i) 1) (e:=chr (suf l i) 2) (x:= .v (.bool true)) hl (D4 hi)
  rw[if_pos h0];exact⟨j,a1,a2,fin_ j _ λlo p q hlo hlo2=>by rw[vq0,if_pos h0,a3 lo p q hlo hlo2]⟩
 rw[if_neg h0];by_cases h1:quo (chr (suf l i) 0)=true
 ·obtain⟨j,b1,b2,b3⟩:=an1 (d:=chr (suf l i) 1) (e:=chr (suf l i) 2) (x:= .v (.bool true)) hl hi h1
  rw[if_pos h1,<-hd1];exact⟨j,b1,b2,fin_ j _ λlo p q hlo hlo2=>by rw[vq0,if_neg h0,vq1,if_pos h1,b3 lo p q hlo hlo2]⟩
 rw[if_neg h1];by_cases h2:chr (suf l i) 0=35/\(GR (chr (suf l i) 1)||esc (chr (suf l i) 1) (chr (suf l i) 2))=true
 ·obtain⟨j,b1,b2,b3⟩:=an2 (c:=chr (suf l i) 0) (d:=chr (suf l i) 1) (e:=chr (suf l i) 2) (x:= .v (.bool true)) hl hi
  have h2':(chr (suf l i) 0==35&&(GR (chr (suf l i) 1)||esc (chr (suf l i) 1) (chr (suf l i) 2)))=true:=by rw[Af,beq_iff_eq];exact h2
  rw[if_pos h2];exact⟨j,b1,b2,fin_ j _ λlo p q hlo hlo2=>by rw[vq0,if_neg h0,vq1,if_neg h1,vq2,hdd,if_pos h2',b3 lo p q hlo hlo2]⟩
 have h2':¬(chr (suf l i) 0==35&&(GR (chr (suf l i) 1)||esc (chr (suf l i) 1) (chr (suf l i) 2)))=true:=by rw[Af,beq_iff_eq];exact h2
 rw[if_neg h2];by_cases h3:num (chr (suf l i) 0) (chr (suf l i) 1) (chr (suf l i) 2)=true
 ·obtain⟨j,b1,b2,b3⟩:=an3 (c:=chr (suf l i) 0) (d:=chr (suf l i) 1) (e:=chr (suf l i) 2) (x:= .v (.bool true)) hl (D4 hi) h3
  rw[if_pos h3];exact⟨j,b1,b2,fin_ j _ λlo p q hlo hlo2=>by rw[vq0,if_neg h0,vq1,if_neg h1,vq2,hdd,if_neg h2',vq3,if_pos h3,b3 lo p q hlo hlo2]⟩
 rw[if_neg h3];by_cases h4:chr (suf l i) 0=45/\chr (suf l i) 1=45/\chr (suf l i) 2=62
 ·have:=hgt 2 62 h4.2.2 (by decide)
  have h4':(chr (suf l i) 0==45&&(chr (suf l i) 1==45&&chr (suf l i) 2==62))=true:=by simpa using h4
  rw[if_pos h4];exact⟨i+3,om,hd1 3,fin_ (i+3) _ λlo p q hlo hlo2=>by rw[vq0,if_neg h0,vq1,if_neg h1,vq2,hdd,if_neg h2',vq3,if_neg h3,vq4,if_pos h4',an4 hin lo p q hlo hlo2]⟩
 have h4':¬(chr (suf l i) 0==45&&(chr (suf l i) 1==45&&chr (suf l i) 2==62))=true:=by simpa using h4
 rw[if_neg h4];by_cases h5:chr (suf l i) 0=60/\chr (suf l i) 1=33/\chr (suf l i) 2=45/\chr (suf l i) 3=45
 ·have:=hgt 3 45 h5.2.2.2 (by decide)
  have h5':(chr (suf l i) 0==60&&(chr (suf l i) 1==33&&(chr (suf l i) 2==45&&chr (suf l i) 3==45)))=true:=by simpa using h5
  rw[if_pos h5];exact⟨i+4,om,hd1 4,fin_ (i+4) _ λlo p q hlo hlo2=>by rw[vq0,if_neg h0,vq1,if_neg h1,vq2,hdd,if_neg h2',vq3,if_neg h3,vq4,if_neg h4',vq5 hin,if_pos h5',an5 hin lo p q hlo hlo2]⟩
 have h5':¬(chr (suf l i) 0==60&&(chr (suf l i) 1==33&&(chr (suf l i) 2==45&&chr (suf l i) 3==45)))=true:=by simpa using h5
 rw[if_neg h5];by_cases h7:chr (suf l i) 0=64/\beg (chr (suf l i) 1) (chr (suf l i) 2) (chr (suf l i) 3)=true
 ·obtain⟨j,b1,b2,b3⟩:=an6 (c:=chr (suf l i) 0) (d:=chr (suf l i) 1) (e:=chr (suf l i) 2) (x:= .v (.bool true)) hl hi
  have h7':(chr (suf l i) 0==64&&beg (chr (suf l i) 1) (chr (suf l i) 2) (chr (suf l i) 3))=true:=by rw[Af,beq_iff_eq];exact h7
  rw[if_pos h7];exact⟨j,b1,b2,fin_ j _ λlo p q hlo hlo2=>by rw[vq0,if_neg h0,vq1,if_neg h1,vq2,hdd,if_neg h2',vq3,if_neg h3,vq4,if_neg h4',vq5 hin,if_neg h5',vq6 hin,if_pos h7',b3 lo p q hlo hlo2]⟩
 have h7':¬(chr (suf l i) 0==64&&beg (chr (suf l i) 1) (chr (suf l i) 2) (chr (suf l i) 3))=true:=by rw[Af,beq_iff_eq];exact h7
 rw[if_neg h7];by_cases h8:beg (chr (suf l i) 0) (chr (suf l i) 1) (chr (suf l i) 2)=true
 ·obtain⟨j,b1,b2,b3⟩:=an7 (c:=chr (suf l i) 0) (x:= .v (.bool true)) hl (D4 hi)
  rw[if_pos h8];exact⟨j,b1,b2,fin_ j _ λlo p q hlo hlo2=>by rw[vq0,if_neg h0,vq1,if_neg h1,vq2,hdd,if_neg h2',vq3,if_neg h3,vq4,if_neg h4',vq5 hin,if_neg h5',vq6 hin,if_neg h7',vq7,if_pos h8,b3 lo p q hlo hlo2]⟩
 rw[if_neg h8];exact⟨i+1,om,hd1 1,fin2 λlo p q hlo hlo2=>by rw[vq0,if_neg h0,vq1,if_neg h1,vq2,hdd,if_neg h2',vq3,if_neg h3,vq4,if_neg h4',vq5 hin,if_neg h5',vq6 hin,if_neg h7',vq7,if_neg h8]⟩
end
end Go.Lift.M1.T
end

section
open Go.Proofs
namespace Go.Lift.M1.T
variable[MX]
open Utf Tok
theorem Jcj(ts:List Tk):J0 (ts.map tkC)=false:=by cases ts<;>rfl
theorem Jck(ts:List Tk):((ts.map tkC).all λx=>x.length==6)=true:=by rw[As];intro x hx;obtain⟨t,_,rfl⟩:=AP.1 hx;rfl
theorem JP6(n:Nat):toksN n []=[]:=by
 cases n with
 |zero=>rfl
 |succ n=>simp only[toksN];rw[if_pos (show Gp []=[]from rfl)]
section
variable{lo i j:Nat}{l:List Int}{h:JC}
theorem Jp7(l:List Int):suf l 0=l.map JQ:=by simp[suf]
noncomputable abbrev X74(lo:Nat)(h:JC):Cx:=⟨Aa,E,lo,h.length,h17⟩
section
variable[HasK]
theorem Jcl(hl:l.length<=100000000000):∀(m i:Nat) (out:List Tk),(suf l i).length<=m->i<=l.length+2->out.length+(suf l i).length<=l.length->
  ∃j,∀lo (h:JC),lo<=h.length->JA (evCode (X74 lo h) JA JGP) ([(3,.list .yes (out.map tkC)),(4,.ptr h.length 0)],h++[R l i])=
   some (.ret,[(2,.list .no ((out++toksN m (suf l i)).map tkC))],h++[R l j]):=by
 have stop:∀(i:Nat) (out:List Tk),i<=l.length+2->Gp (suf l i)=[]->∃j,∀lo (h:JC),lo<=h.length->JA (evCode (X74 lo h) JA JGP) ([(3,.list .yes (out.map tkC)),(4,.ptr h.length 0)],h++[R l i])=
   some (.ret,[(2,.list .no (out.map tkC))],h++[R l j]):=by
  intro i out hi hr;obtain⟨j,a1,a2,a3,a4⟩:=f34 (l:=l) (i:=i) hl om;rw[hr]at a3;have k0:=λlo p q=>f35 (lo:=lo) (l:=l) (i:=j) (p:=p) (q:=q) (k:=0) om
  have t:((-1:Int)== -1)=true:=rfl;simp only[n0,a3,QJ]at k0;refine⟨j,λlo h hlo=>?_⟩
  rw[loop_eq];simp only[go_sem,X74,JGP,b17,Tryz.f17,a4 _ _ _ hlo,k0,t]<;>rfl
 intro m
 induction m with
 |zero=>
  intro i out h1 h2 h3;have hs:suf l i=[]:=AC om;obtain⟨j,hj⟩:=stop i out h2 (by rw[hs]<;>rfl)
  refine⟨j,λlo h hlo=>?_⟩
  rw[hj lo h hlo,hs,JP6,Av]
 |succ m ih=>
  intro i out h1 h2 h3;by_cases hr:Gp (suf l i)=[]
  ·obtain⟨j,hj⟩:=stop i out h2 hr
   refine⟨j,λlo h hlo=>?_⟩
   rw[hj lo h hlo];simp only[toksN];rw[if_pos hr,Av]
  ·obtain⟨j0,a1,a2,a3,a4⟩:=f34 (l:=l) (i:=i) hl om
   have hj0:j0<l.length:=by
    rcases AG j0 l.length with h|h
    ·exact h
    ·rw[Jz h]at a3;exact absurd a3.symm hr
   obtain⟨j1,b1,b2,b3⟩:=f36 (l:=l) (i:=j0) hl hj0;have hlt:=yX (s:=suf l j0) (by rw[a3];exact hr)
   have hle:=JA9 (suf l i);rw[<-a3]at hle;rw[<-b2]at hlt;obtain⟨j,hj⟩:=ih j1 (out++[(Q6 (suf l j0)).1]) om b1 (by simp;omega)
   refine⟨j,λlo h hlo=>?_⟩
   have k0:=λlo p q=>f35 (lo:=lo) (l:=l) (i:=j0) (p:=p) (q:=q) (k:=0) om
   have hcp:=Yk hj0;have t:(chr (suf l j0) 0== -1)=false:=by simp;omega
   simp only[n0]at k0
   have e:toksN (m+1) (suf l i)=(Q6 (suf l j0)).1::toksN m (suf l j1):=by simp only[toksN];rw[if_neg hr,<-a3,b2]
   rw[e];have hT:∀lo (p q:List Ob),lo<=p.length->E lo 36 [.ptr p.length 0] (p++R l j0::q)=some (.agg (tkC (Q6 (suf l j0)).1),p++R l j1::q):=b3;generalize (Q6 (suf l j0)).1=T at*;have hr1:(out.length+1)*48<=140737488355328:=om;have hr2:out.length+1<=9223372036854775807:=om;have app:out.map tkC++[tkC T]=(out++[T]).map tkC:=by simp
   have all:=Jck out;have ibr:=Jcj out
   have er:evCode (X74 lo h) JA JGP ([(3,.list .yes (out.map tkC)),(4,.ptr h.length 0)],h++[R l i])=some (.normal,[(3,.list .yes ((out++[T]).map tkC)),(4,.ptr h.length 0)],h++[R l j1]):=by rw[<-app];simp only[tkC]at hT⊢;simp only[go_sem,X74,JGP,b17,Tryz.f17,a4 _ _ _ hlo,k0,t,hT _ _ _ hlo,Ag,all,ibr,hr1,hr2]<;>rfl
   rw[loop_eq,er,JK,hj lo h hlo];simp
theorem f17(hl:l.length<=100000000000)(hlo:lo<=h.length):E lo 17 [.list .no (ri .i32 l)] h=some (.list .no ((JCg (l.map JQ)).map tkC),h):=by
 obtain⟨j,hj⟩:=Jcl (l:=l) hl (suf l 0).length 0 [] (Ab _) (A9 _) (by rw[Kz];simp)
 have hL:=hj lo h hlo;have hR:R l 0= .cells [.list .no (ri .i32 l),.v (.int .i64 0)]:=rfl;rw[Ai,Jp7,hR]at hL;have e:JCg (l.map JQ)=toksN (l.map JQ).length (l.map JQ):=rfl;rw[e17,e];generalize toksN (l.map JQ).length (l.map JQ)=ts at*;simp only[X74,JGP,b17,Tryz.f17,JD,JT,JB,go_sem]at hL;simp only[go_sem,b17,Tryz.f17,hL,hlo]
end
end
section
variable{lo:Nat}{l b:List Int}{h:JC}
theorem JXN(p:Bool):∀l:List Int,(Utf.dec p l).length<=l.length:=by
 intro l
 induction l generalizing p with
 |nil=>simp[Utf.dec]
 |cons x t ih=>have:=ih (x==13);have h1:=JGl p x;simp only[Utf.dec,Ah,Ae];omega
theorem JDG(b:List Int):(Utf.decode b).length<=b.length:=by unfold Utf.decode;have h1:=JXN false (WJ (Wl b));have h2:=JKu (Wl b);have h3:=JGm b;omega
def yp(b:List Int):List Tk:=JCg ((Utf.decode b).map JQ)
theorem f9[HasK](hb:b.length<=1000000000)(hy:By b)(hlo:lo<=h.length):E lo 9 [.list .no (ri .u8 b)] h=some (.list .no ((yp b).map tkC),h):=by have hl:=JDG b;have k:=f17 (lo:=lo) (l:=Utf.decode b) (h:=h) om hlo;rw[e9];unfold yp;generalize JCg ((Utf.decode b).map JQ)=ts at*;simp only[go_sem,b9,Tryz.f9,f18 hb hy,k]
end
end Go.Lift.M1.T
end

section
namespace Go.Lift.Tok
open Utf
section
variable{σ:Int}{y s:List Int}
theorem JDH:∀(n m:Nat) (s:List Int),s.length<=n->s.length<=m->toksN n s=toksN m s
 |0,m,s,h1,h2=>by
  obtain rfl:=AC (by omega:s.length=0)
  cases m with
  |zero=>rfl
  |succ m=>simp only[toksN];rw[if_pos (show Gp []=[]from rfl)]
 |n+1,0,s,h1,h2=>by
  obtain rfl:=AC (by omega:s.length=0)
  simp only[toksN];rw[if_pos (show Gp []=[]from rfl)]
 |n+1,m+1,s,h1,h2=>by
  simp only[toksN];by_cases hr:Gp s=[]
  ·rw[if_pos hr,if_pos hr]
  ·rw[if_neg hr,if_neg hr]
   have a:=yX hr;have b:=JA9 s;rw[JDH n m _ om om]
theorem JXO(s:List Int):JCg s=if Gp s=[]then[]else(Q6 (Gp s)).1::JCg (Q6 (Gp s)).2:=by
 by_cases hr:Gp s=[]
 ·rw[if_pos hr]
  unfold JCg
  cases h:s.length with
  |zero=>rfl
  |succ n=>simp only[toksN];rw[if_pos hr]
 ·rw[if_neg hr]
  have a:=yX hr;have b:=JA9 s;unfold JCg;obtain⟨n,hn⟩:∃n,s.length=n+1:=⟨s.length-1,om⟩;rw[hn];simp only[toksN];rw[if_neg hr,JDH n (Q6 (Gp s)).2.length _ om (Ab _)]
end
end Go.Lift.Tok
end

section
namespace Go.Lift.Spell
open Utf Tok
theorem JTr{l:List Int}(h:∀c∈l,dig c=true):∀c∈core l,dig c=true:=λc hc=>by unfold core at hc;rw[List.mem_reverse]at hc;exact h c (by simpa using(Cp _).subset hc)
theorem JP7(c:Int)(t:List Int)(hc:c≠48):∃u,core (c::t)=c::u:=by
 unfold core;rw[List.reverse_cons]
 have:∀l:List Int,∃u,(l++[c]).dropWhile (· ==48)=u++[c]:=by
  intro l
  induction l with
  |nil=>exact⟨[],by rw[Ai,Br (by simpa using hc)]⟩
  |cons x l ih=>
   rw[Al]
   cases hx:(x==(48:Int))with
   |true=>rw[BM (p:=(· ==48)) hx];exact ih
   |false=>rw[Br (p:=(· ==48)) (by simp[hx])];exact⟨x::l,rfl⟩
 obtain⟨u,hu⟩:=this t.reverse;rw[hu];exact⟨u.reverse,by simp⟩
theorem JTs{c:Int}{t:List Int}(hd:∀x∈c::t,dig x=true)(hc:c≠48)(hl:(core (c::t)).length<=18):1<=ZL 0 (core (c::t))/\ZL 0 (core (c::t))<10^18:=by
 obtain⟨u,hu⟩:=JP7 c t hc;have hmem:=JTr hd;rw[hu]at hl hmem⊢;have h1:=hmem c (by simp)
 simp only[dig,Af,decide_eq_true_eq]at h1;have h2:ZL 0 (c::u)=ZL (c-48) u:=by simp[ZL]
 rw[h2];obtain⟨a,b,d⟩:=ke u (c-48) 1 (λx hx=>hmem x (by simp[hx])) om om
 refine⟨om,?_⟩
 simp only[Ae]at hl;obtain⟨j,hj⟩:∃j,18=1+u.length+j:=⟨18-(1+u.length),om⟩
 have h3:(10:Int)^ (1+u.length)<=10^18:=by rw[hj,Int.pow_add _ (1+u.length) j];have h0:=Ki (y:=10) om (1+u.length);exact Zw om (Ki om j)
 omega
theorem JDJ{y:Int}:∀(k:Nat) (n:Int),0<(Kk y k n).1->(Kk y k n).2%y≠0
 |0,n,h=>by simp[Kk]at h
 |k+1,n,h=>by
  simp only[Kk]at h⊢
  split
  ·rename_i h1
   rw[if_pos h1]at h;exact JDJ k _ h
  ·rename_i h1
   exact h1
theorem JM4{M e N D:Int}(h1:1<=M)(h2:M<10^18)(h:zi M e=some (N,D)):
  (D=1/\N=M*10^e.toNat/\N<=9223372036854775807/\1<=N)\/
  (e<0/\1<=N/\N<=M/\ ∃a b k:Nat,a<=62/\b<=27/\D=2^a*5^b/\a<=k/\b<=k/\M=N*5^ (k-b)*2^ (k-a)/\(0<a->N%2≠0)/\(0<b->N%5≠0)/\D<=9223372036854775807):=by
 have h18:(10:Int)^18=1000000000000000000:=by decide
 unfold zi at h
 split at h
 ·cases h
 ·rename_i m hu
  obtain⟨um,ub⟩:=JKO _ _ _ hu;have hp:=pow_pos (x:=10) om e.toNat;have hm1:1<=m:=by rw[um];exact Int.le_trans h1 (Zw om hp)
  split at h
  ·cases h
  ·rename_i hnot
   cases hk:jn 5 1844674407370955161 (Kk 5 (-e).toNat (Kk 2 (-e).toNat m).2).1 (2^ (Kk 2 (-e).toNat m).1)with
   |none=>rw[hk]at h;cases h
   |some z=>
    rw[hk]at h;simp only[Option.map_some,Option.some.injEq,Prod.mk.injEq]at h;obtain⟨hN,rfl⟩:=h;by_cases he:0<=e
    ·left
     have e0:(-e).toNat=0:=om;rw[e0]at hN hk;simp only[Kk,jn,Option.some.injEq]at hN hk;subst hN;refine⟨by rw[<-hk]<;>rfl,um,?_,hm1⟩
     rcases ub with ub|ub
     ·rw[ub]at um;simp at um;omega
     ·omega
    ·right
     have e0:e.toNat=0:=om;rw[e0,Int.pow_zero,Int.mul_one]at um;subst um;obtain⟨a1,b1,c1,d1⟩:=Yp (y:=2) om (-e).toNat m hm1;obtain⟨a2,b2,c2,d2⟩:=Yp (y:=5) om (-e).toNat _ b1;have o1:=JDJ (y:=2) (-e).toNat m;have o2:=JDJ (y:=5) (-e).toNat (Kk 2 (-e).toNat m).2;generalize (-e).toNat=k at*;generalize (Kk 2 k m).1=a at*;generalize (Kk 2 k m).2=r at*
     generalize (Kk 5 k r).1=b at*;rw[hN]at b2 c2 d2 o2;obtain⟨v1,v2⟩:=JGU om _ _ _ hk;refine⟨om,b2,om,a,b,k,om,om,v1,a1,a2,by rw[<-d2];exact d1,λha=>?_,o2,?_⟩
     ·have:=o1 ha
      rw[d2]at this;have p5:=JKT (k-b);rw[Int.mul_emod,p5]at this;omega
     ·rcases v2 with v2|v2
      ·rw[v2,Int.pow_zero,Int.mul_one]at v1
       have:=kg (show a<=62 by omega)
       have h62:(2:Int)^62=4611686018427387904:=by decide
       omega
      ·omega
theorem JLA{nm:Nm}(ok:nm.Ok): -9223372036854775808<=nm.num.1.1/\nm.num.1.1<=9223372036854775807/\0<=nm.num.1.2/\nm.num.1.2<=9223372036854775807:=by
 have h18:(10:Int)^18=1000000000000000000:=by decide
 unfold Nm.num;simp only
 have hdig:∀c∈nm.wr.digits,dig c=true:=by
  intro c hc;rcases List.mem_append.1 (show c∈nm.d1++nm.fr from hc)with h|h
  ·exact As.1 ok.d1 c h
  ·exact As.1 ok.fr c h
 generalize nm.wr=wr at*;unfold JSA;simp only
 split
 ·simp
 ·rename_i hne
  split
  ·simp
  ·rename_i h18'
   have hsub:∀c∈wr.digits.dropWhile (· ==48),dig c=true:=λc hc=>hdig c ((Cp _).subset hc)
   have hhead:∀c t,wr.digits.dropWhile (· ==48)=c::t->c≠48:=by
    intro c t e
    have:∀l:List Int,∀c t,l.dropWhile (· ==48)=c::t->c≠48:=by
     intro l
     induction l with
     |nil=>intro c t h;cases h
     |cons x l ih=>
      intro c t h
      cases hx:(x==(48:Int))with
      |true=>rw[BM (p:=(· ==48)) hx]at h;exact ih c t h
      |false=>
       rw[Br (p:=(· ==48)) (by simp[hx])]at h
       cases h;simpa using hx
    exact this _ c t e
   generalize wr.digits.dropWhile (· ==48)=d at*
   obtain⟨c,t,rfl⟩:∃c t,d=c::t:=by
    cases d with
    |nil=>exact absurd rfl hne
    |cons c t=>exact⟨c,t,rfl⟩
   obtain⟨v0,v1⟩:=JTs hsub (hhead c t rfl) om;generalize ZL 0 (core (c::t))=M at*;generalize wr.exp-wr.behind+(((c::t).length:Int)-((core (c::t)).length:Int))=e at*
   cases hs:zi M e with
   |none=>simp[turn]
   |some nd=>
    obtain⟨N,D⟩:=nd;simp only[turn]
    have hb:1<=N/\N<=9223372036854775807/\0<=D/\D<=9223372036854775807:=by
     rcases JM4 v0 v1 hs with⟨rfl,hN,hN2,hN1⟩|⟨he,hN1,hNM,a,b,k,ha,hb,hD,hak,hbk,hM,o2,o5,hD2⟩
     ·omega
     ·have pa:=pow_pos (x:=2) om a
      have pb:=pow_pos (x:=5) om b;have:0<=D:=by rw[hD];exact Int.mul_nonneg om om
      omega
    cases wr.below<;>simp<;>omega
theorem JAH:∀(n:Nat) (s:List Int),(QD n s).1.length+(QD n s).2.length<=s.length
 |0,s=>by simp[QD]
 |n+1,[]=>by simp[QD]
 |n+1,c::t=>by
  simp only[QD]
  split
  ·have:=JAH n t
   simp only[Ae];omega
  ·split
   ·have:=JAH n (K6 t).2
    have:=Zx t;simp only[Ae];omega
   ·simp
theorem yq(s:List Int):(Tok.name s).1.length+(Tok.name s).2.length<=s.length:=JAH _ s
theorem yr(sign:Int):∀(n:Nat) (s:List Int),(QP sign n s).2.1.length+(QP sign n s).2.2.length<=s.length
 |0,s=>by simp[QP]
 |n+1,[]=>by simp[QP]
 |n+1,c::t=>by
  simp only[QP]
  split
  ·simp
  ·split
   ·simp
   ·split
    ·cases t with
     |nil=>simp
     |cons d u=>
      simp only
      split
      ·have:=yr sign n u
       simp only[Ae];omega
      ·have:=yr sign n (K6 (d::u)).2
       have:=Zx (d::u);simp only[Ae]at*;omega
    ·have:=yr sign n t
     simp only[Ae];omega
theorem JDK:∀(n:Nat) (s:List Int),(QU n s).2.1.length+(QU n s).2.2.length<=s.length
 |0,s=>by simp[QU]
 |n+1,[]=>by simp[QU]
 |n+1,c::t=>by
  simp only[QU]
  split
  ·simp
  ·split
   ·have:=GX t
    split
    ·simp only[An,Ay,Ae]
     omega
    ·have:=Zy (K5 t).length (K5 t)
     simp only[JCC,An,Ae];omega
   ·split
    ·have:=Zy (c::t).length (c::t)
     simp only[JCC,An,Ae]at*;omega
    ·split
     ·split
      ·have:=JDK n (K6 t).2
       have:=Zx t;simp only[Ae];omega
      ·have:=Zy (c::t).length (c::t)
       simp only[JCC,An,Ae]at*;omega
     ·have:=JDK n t
      simp only[Ae];omega
theorem JTt(x:Bool×List Int×List Int){n:Nat}(h:x.2.1.length+x.2.2.length<=n):(JCe x).text.length+x.2.2.length<=n:=by
 unfold JCe tk
 split
 ·exact h
 ·simp only[An];omega
theorem JXP(s:List Int):(HW s).2.length<=s.length:=by have:=congrArg List.length (zj s);rw[Ah]at this;omega
theorem JP8(s:List Int)(hne:s≠[]):(Q6 s).1.text.length+(Q6 s).2.length<=s.length:=by
 unfold Q6;simp only
 split
 ·have:=GX s
  simp only[tk,An];omega
 ·split
  ·have h1:=yr (chr s 0) (s.drop 1).length (s.drop 1)
   have h2:(s.drop 1).length<=s.length:=by rw[Ay];omega
   show(JKQ (txt (chr s 0) (s.drop 1))).text.length+(txt (chr s 0) (s.drop 1)).2.2.length<=_
   have h1:(txt (chr s 0) (s.drop 1)).2.1.length+(txt (chr s 0) (s.drop 1)).2.2.length<=(s.drop 1).length:=h1;unfold JKQ tk
   split
   ·show(txt (chr s 0) (s.drop 1)).2.1.length+_<=_
    omega
   ·simp only[An];omega
  ·split
   ·simp only[tk,An,Ay];omega
   ·split
    ·have h1:=JXP s
     unfold YW;simp only
     split
     ·have:=yq (HW s).2
      simp only;omega
     ·split
      ·simp only[An,Ay];omega
      ·simp only[An];omega
    ·split
     ·simp only[tk,An,Ay];omega
     ·split
      ·simp only[tk,An,Ay];omega
      ·split
       ·have h1:=yq (s.drop 1)
        rw[Ay]at h1;simp only;omega
       ·split
        ·have h1:=yq (s.drop 1)
         rw[Ay]at h1;simp only[tk];omega
        ·split
         ·have h1:=yq s
          unfold JCf;simp only
          split
          ·split
           ·have h2:=JKR ((Tok.name s).2.drop 1)
            rw[Ay]at h2;have h3:=JDK (K5 (Q0 ((Tok.name s).2.drop 1))).length (K5 (Q0 ((Tok.name s).2.drop 1)));have h4:=GX (Q0 ((Tok.name s).2.drop 1))
            have key:∀q:Bool,(if q=true then(tk 2 (Tok.name s).1,Q0 ((Tok.name s).2.drop 1))else(JCe (url (Q0 ((Tok.name s).2.drop 1))),(url (Q0 ((Tok.name s).2.drop 1))).2.2)).1.text.length+
              (if q=true then(tk 2 (Tok.name s).1,Q0 ((Tok.name s).2.drop 1))else(JCe (url (Q0 ((Tok.name s).2.drop 1))),(url (Q0 ((Tok.name s).2.drop 1))).2.2)).2.length<=s.length:=by
             intro q
             cases q with
             |true=>rw[if_pos rfl];show(Tok.name s).1.length+(Q0 ((Tok.name s).2.drop 1)).length<=_;omega
             |false=>
              rw[if_neg (by simp)]
              exact JTt _ (Nat.le_trans h3 om)
            exact key _
           ·simp only[tk,Ay];omega
          ·simp only[tk];omega
         ·cases s with
          |nil=>exact absurd rfl hne
          |cons c t=>simp only[tk,Ae,An,List.drop_succ_cons,List.drop_zero];omega
def HG:List Tk->Nat
 |[]=>0
 |t::l=>t.text.length+HG l
theorem JLB:∀(n:Nat) (s:List Int),s.length<=n->HG (JCg s)+(JCg s).length<=2*s.length
 |0,s,h=>by
  have:s=[]:=AC om;subst this
  exact Ab _
 |n+1,s,h=>by
  have hl:=JA9 s;rw[JXO];by_cases h0:Gp s=[]
  ·rw[if_pos h0]
   exact A9 _
  ·rw[if_neg h0]
   have hlt:=yX h0;have hs:=JP8 (Gp s) h0;have:=JLB n (Q6 (Gp s)).2 om;simp only[HG,Ae];omega
abbrev JTu(t:Tk):Prop:= -9223372036854775808<=t.num.1/\t.num.1<=9223372036854775807/\0<=t.num.2/\t.num.2<=9223372036854775807
theorem Qy{t:Tk}(h:t.num=(0,0)):JTu t:=by unfold JTu;rw[h];omega
theorem JM5(s:List Int):JTu (Q6 s).1:=by
 unfold Q6;simp only
 split
 ·exact Qy rfl
 ·split
  ·exact Qy (by unfold JKQ;split<;>rfl)
  ·split
   ·exact Qy rfl
   ·split
    ·rename_i hn
     have hb:=JLA (JHc hn);unfold YW;simp only
     split
     ·exact hb
     ·split
      ·exact hb
      ·exact hb
    ·split
     ·exact Qy rfl
     ·split
      ·exact Qy rfl
      ·split
       ·exact Qy rfl
       ·split
        ·exact Qy rfl
        ·split
         ·refine Qy ?_
          unfold JCf;simp only
          split
          ·split
           ·have key:∀q:Bool,(if q=true then(tk 2 (Tok.name s).1,Q0 ((Tok.name s).2.drop 1))else(JCe (url (Q0 ((Tok.name s).2.drop 1))),(url (Q0 ((Tok.name s).2.drop 1))).2.2)).1.num=(0,0):=by
             intro q
             cases q with
             |true=>rw[if_pos rfl]<;>rfl
             |false=>rw[if_neg (by simp)];unfold JCe;split<;>rfl
            exact key _
           ·rfl
          ·rfl
         ·exact Qy rfl
theorem JGx:∀(n:Nat) (s:List Int),∀t∈toksN n s,JTu t
 |0,s=>λt ht=>by cases ht
 |n+1,s=>by
  intro t ht;simp only[toksN]at ht
  split at ht
  ·cases ht
  ·rcases A2.1 ht with rfl|ht
   ·exact JM5 _
   ·exact JGx n _ t ht
end Go.Lift.Spell
end

section
open Go.Proofs
namespace Go.Lift.M1
open Rul (rules Hw Kq wtT)
open Utf (By)
variable[MX][HasD][HasN]
def ofK(t:Tok.Tk):Rul.Tk4:=⟨t.kind,Utf.JJ t.text,t.num.1,t.num.2,t.whole,t.id⟩
theorem JTv(l:List Tok.Tk):l.map T.tkC=(l.map ofK).map Rul.row:=by rw[List.map_map];all_goals rfl
theorem JTw{l:List Tok.Tk}{t:Tok.Tk}(h:t∈l):t.text.length<=Spell.HG l:=by
 induction l with
 |nil=>cases h
 |cons x l ih=>
  simp only[Spell.HG];rcases A2.1 h with rfl|h
  ·omega
  ·have:=ih h;omega
theorem JGy(L:List Int):(Utf.JJ L).length<=4*L.length:=by
 induction L with
 |nil=>simp[Utf.JJ]
 |cons x L ih=>have:=T.JK6 (Utf.JQ x);rw[Utf.KT,Ah,Ae];omega
theorem JXQ(l:List Tok.Tk):wtT (l.map ofK)<=80*Spell.HG l+1200*l.length:=by
 induction l with
 |nil=>simp[wtT]
 |cons t l ih=>have h2:=JGy t.text;have e:(ofK t).b=Utf.JJ t.text:=rfl;rw[A3,wtT,e,Ae,Spell.HG];omega
theorem JLC{b:List Int}(hl:b.length<=16384):((T.yp b).map ofK).length<=32768/\wtT ((T.yp b).map ofK)<=100000000/\ ∀t∈(T.yp b).map ofK,BtT t/\OkT t:=by
 have hd:((Utf.decode b).map Utf.JQ).length<=16384:=by rw[Ag];have:=T.JDG b;omega
 have hs:=Spell.JLB _ ((Utf.decode b).map Utf.JQ) (Ab _);have hw:=Spell.JGx ((Utf.decode b).map Utf.JQ).length ((Utf.decode b).map Utf.JQ);unfold T.yp;refine⟨by rw[Ag];omega,?_,λx hx=>?_⟩
 ·have:=JXQ (Tok.JCg ((Utf.decode b).map Utf.JQ))
  omega
 obtain⟨t,ht,rfl⟩:=AP.1 hx;have h1:=JTw ht;have h2:=JGy t.text;have h3:=hw t ht;unfold Spell.JTu at h3;have hb:(ofK t).b.length<=1000000:=by show(Utf.JJ t.text).length<=_;omega
 have n1:(-9223372036854775808:Int)<=(ofK t).n:=by show _<=t.num.1;omega
 have n2:(ofK t).n<=9223372036854775807:=by show t.num.1<=_;omega
 have n3:(-9223372036854775808:Int)<=(ofK t).d:=by show _<=t.num.2;omega
 have n4:(ofK t).d<=9223372036854775807:=by show t.num.2<=_;omega
 exact⟨⟨Utf.J8 _,om⟩,⟨Utf.J8 _,om,n1,n2,n3,n4⟩⟩
theorem f4s[HasK]{lo:Nat}{h:JC}{b:List Int}(hlo:lo<=h.length)(hb:b.length<=16384)(hy:By b):
  E lo 4 [.list .no (ri .u8 b)] h=some (.tup [.list .no (Kq (rules (Hw ((T.yp b).map ofK)))),.v (.int .i64 0)],h):=by
 have hk:=JLC (b:=b) hb;have c9:=T.f9 (lo:=lo) (h:=h) (b:=b) om hy hlo;rw[JTv]at c9;have c8:=f8 (lo:=lo) (h:=h) (l:=(T.yp b).map ofK) hlo om λt ht=>(hk.2.2 t ht).1
 have q:decide ((16384:Int)<(b.length:Int))=false:=by simp;omega
 rw[e4];simp only[go_sem,b4,Tryz.f4,hlo,c9,c8,q]<;>rfl
theorem f4l{lo:Nat}{h:JC}{b:List Int}(hlo:lo<=h.length)(hb:¬b.length<=16384):
  E lo 4 [.list .no (ri .u8 b)] h=some (.tup [.list .no (Kq []),.v (.int .i64 2)],h):=by
 have q:decide ((16384:Int)<(b.length:Int))=true:=by simp;omega
 rw[e4];simp only[go_sem,b4,Tryz.f4,hlo,q]<;>rfl
theorem Jia[HasK]{b:List Int}(hy:By b):∃(R:List Rul.Ru) (e:Int),(∀(lo:Nat) (h:JC),lo<=h.length->E lo 4 [.list .no (ri .u8 b)] h=some (.tup [.list .no (Kq R),.v (.int .i64 e)],h))/\
  R.length<=1000000000/\ZV R/\J7 R<=1000000000:=by
 by_cases hb:b.length<=16384
 ·have hk:=JLC (b:=b) hb
  have hw:=JP2 (l:=(T.yp b).map ofK) om om λt ht=>(hk.2.2 t ht).2
  exact⟨_,0,λlo h hlo=>f4s hlo hb hy,hw.1,hw.2.1,om⟩
 ·refine⟨[],2,λlo h hlo=>f4l hlo hb,by simp,by rw[ZV];trivial,by rw[J7];omega⟩
theorem f3[HasK]{b:List Int}(hl:b.length<=1048576)(hy:By b):E 0 3 [.list .no (ri .u8 b)] []=some (.v (.bool true),[]):=by have c7:=f7 (lo:=0) (h:=[]) (Ab _);obtain⟨R,e,c4,h1,h2,h3⟩:=Jia hy;have c4:=c4 0 [] (A9 _);have c5:=f5 (lo:=0) (h:=[]) (l:=R) (Ab _) h1 h2 h3;have c6:=f6 (lo:=0) (h:=[]) (l:=R) (Ab _) h1 h2 h3;obtain⟨s,x,er⟩:=JKn R;rw[er]at c5 c6;have q:(x==x)=true:=beq_self_eq_true x;have q2:=JMj (bs s);rw[e3];simp only[go_sem,b3,Tryz.f3,c7,c4,c5,c6,q,q2,An,Ab]<;>rfl
end Go.Lift.M1
end

section
namespace Go.Proofs
open Go.Shelf
def Tryz.lays105_ren:Go.Shelf.Ren:=⟨λ|105=>121|212=>140|99=>127|165=>141|166=>21|170=>142|169=>24|263=>161|264=>162|206=>152|240=>42|241=>163|276=>74|277=>175|n=>n,λ|9=>9|3=>3|4=>4|20=>20|0=>0|46=>125|109=>155|5=>5|72=>38|76=>68|51=>174|146=>175|53=>132|148=>177|70=>36|37=>22|75=>67|127=>91|164=>112|80=>70|n=>n,λ|n=>n⟩
theorem Tryz.lays105:Go.Proofs.Lays.n105 Aa Tryz.lays105_ren:={
 mixed:=kr
 f99:=Tryz.func127.trans (congrArg some kr)
 f105:=Tryz.func121.trans (congrArg some kr)
 f165:=Tryz.func141.trans (congrArg some kr)
 f166:=Tryz.func21.trans (congrArg some kr)
 f169:=Tryz.func24.trans (congrArg some kr)
 f170:=Tryz.func142.trans (congrArg some kr)
 f206:=Tryz.func152.trans (congrArg some kr)
 f212:=Tryz.func140.trans (congrArg some kr)
 f240:=Tryz.func42.trans (congrArg some kr)
 f241:=Tryz.func163.trans (congrArg some kr)
 f263:=Tryz.func161.trans (congrArg some kr)
 f264:=Tryz.func162.trans (congrArg some kr)
 f276:=Tryz.func74.trans (congrArg some kr)
 f277:=Tryz.func175.trans (congrArg some kr)
 t0:=Tryz.underlying0
 a0:=Tryz.isAgg0
 z0:=Tryz.sizeOf0
 v0:=Tryz.zeroValue0
 t3:=Tryz.underlying3
 a3:=Tryz.isAgg3
 z3:=Tryz.sizeOf3
 v3:=Tryz.zeroValue3
 t4:=Tryz.underlying4
 a4:=Tryz.isAgg4
 z4:=Tryz.sizeOf4
 v4:=Tryz.zeroValue4
 t5:=Tryz.underlying5
 a5:=Tryz.isAgg5
 z5:=Tryz.sizeOf5
 v5:=Tryz.zeroValue5
 t9:=Tryz.underlying9
 a9:=Tryz.isAgg9
 z9:=Tryz.sizeOf9
 v9:=Tryz.zeroValue9
 t20:=Tryz.underlying20
 a20:=Tryz.isAgg20
 z20:=Tryz.sizeOf20
 v20:=Tryz.zeroValue20
 t37:=Tryz.underlying22
 a37:=Tryz.isAgg22
 z37:=Tryz.sizeOf22
 v37:=Tryz.zeroValue22
 t46:=Tryz.underlying125
 a46:=Tryz.isAgg125
 z46:=Tryz.sizeOf125
 v46:=Tryz.zeroValue125
 t51:=Tryz.underlying174
 a51:=Tryz.isAgg174
 z51:=Tryz.sizeOf174
 v51:=Tryz.zeroValue174
 t53:=Tryz.underlying132
 a53:=Tryz.isAgg132
 z53:=Tryz.sizeOf132
 v53:=Tryz.zeroValue132
 t70:=Tryz.underlying36
 a70:=Tryz.isAgg36
 z70:=Tryz.sizeOf36
 v70:=Tryz.zeroValue36
 t72:=Tryz.underlying38
 a72:=Tryz.isAgg38
 z72:=Tryz.sizeOf38
 v72:=Tryz.zeroValue38
 t75:=Tryz.underlying67
 a75:=Tryz.isAgg67
 z75:=Tryz.sizeOf67
 v75:=Tryz.zeroValue67
 t76:=Tryz.underlying68
 a76:=Tryz.isAgg68
 z76:=Tryz.sizeOf68
 v76:=Tryz.zeroValue68
 t109:=Tryz.underlying155
 a109:=Tryz.isAgg155
 z109:=Tryz.sizeOf155
 v109:=Tryz.zeroValue155
 t127:=Tryz.underlying91
 a127:=Tryz.isAgg91
 z127:=Tryz.sizeOf91
 v127:=Tryz.zeroValue91
 t146:=Tryz.underlying175
 a146:=Tryz.isAgg175
 z146:=Tryz.sizeOf175
 v146:=Tryz.zeroValue175
 t148:=Tryz.underlying177
 a148:=Tryz.isAgg177
 z148:=Tryz.sizeOf177
 v148:=Tryz.zeroValue177
 t164:=Tryz.underlying112
 a164:=Tryz.isAgg112
 z164:=Tryz.sizeOf112
 v164:=Tryz.zeroValue112}
def Tryz.lays219_ren:Go.Shelf.Ren:=⟨λ|219=>126|217=>148|225=>149|224=>150|267=>151|266=>167|314=>168|n=>n,λ|9=>9|3=>3|4=>4|5=>5|46=>125|146=>175|51=>174|n=>n,λ|1=>1|n=>n⟩
theorem Tryz.lays219:Go.Proofs.LaysM.n219 Aa Tryz.lays219_ren:={
 mixed:=kr
 f217:=Tryz.func148.trans (congrArg some kr)
 f219:=Tryz.func126.trans (congrArg some kr)
 f224:=Tryz.func150.trans (congrArg some kr)
 f225:=Tryz.func149.trans (congrArg some kr)
 f266:=Tryz.func167.trans (congrArg some kr)
 f267:=Tryz.func151.trans (congrArg some kr)
 f314:=Tryz.func168.trans (congrArg some kr)
 t3:=Tryz.underlying3
 a3:=Tryz.isAgg3
 z3:=Tryz.sizeOf3
 v3:=Tryz.zeroValue3
 t4:=Tryz.underlying4
 a4:=Tryz.isAgg4
 z4:=Tryz.sizeOf4
 v4:=Tryz.zeroValue4
 t5:=Tryz.underlying5
 a5:=Tryz.isAgg5
 z5:=Tryz.sizeOf5
 v5:=Tryz.zeroValue5
 t9:=Tryz.underlying9
 a9:=Tryz.isAgg9
 z9:=Tryz.sizeOf9
 v9:=Tryz.zeroValue9
 t46:=Tryz.underlying125
 a46:=Tryz.isAgg125
 z46:=Tryz.sizeOf125
 v46:=Tryz.zeroValue125
 t51:=Tryz.underlying174
 a51:=Tryz.isAgg174
 z51:=Tryz.sizeOf174
 v51:=Tryz.zeroValue174
 t146:=Tryz.underlying175
 a146:=Tryz.isAgg175
 z146:=Tryz.sizeOf175
 v146:=Tryz.zeroValue175
 g1:=kr
 i3:=kr
 i4:=kr
 i5:=kr
 i9:=kr
 i46:=kr
 i51:=kr
 i146:=kr
 m1:=kr
 s1_3:=λw h=>Go.Proofs.cell_of_shapedOpen_int (zero:= #[.int .i64 0]) (t:=3) h (of_decide_eq_true kr) kr rfl kr kr Tryz.underlying3}
def Tryz.lays283_ren:Go.Shelf.Ren:=⟨λ|283=>155|n=>n,λ|3=>3|9=>9|4=>4|n=>n,λ|n=>n⟩
theorem Tryz.lays283:Go.Proofs.Lays.n283 Aa Tryz.lays283_ren:={
 mixed:=kr
 f283:=Tryz.func155.trans (congrArg some kr)
 t3:=Tryz.underlying3
 a3:=Tryz.isAgg3
 z3:=Tryz.sizeOf3
 v3:=Tryz.zeroValue3
 t4:=Tryz.underlying4
 a4:=Tryz.isAgg4
 z4:=Tryz.sizeOf4
 v4:=Tryz.zeroValue4
 t9:=Tryz.underlying9
 a9:=Tryz.isAgg9
 z9:=Tryz.sizeOf9
 v9:=Tryz.zeroValue9}
def Tryz.lays284_ren:Go.Shelf.Ren:=⟨λ|284=>156|129=>171|317=>170|318=>172|n=>n,λ|53=>132|3=>3|212=>184|0=>0|4=>4|46=>125|5=>5|9=>9|n=>n,λ|17=>3|n=>n⟩
theorem Tryz.lays284:Go.Proofs.LaysM.n284 Aa Tryz.lays284_ren:={
 mixed:=kr
 f129:=Tryz.func171.trans (congrArg some kr)
 f284:=Tryz.func156.trans (congrArg some kr)
 f317:=Tryz.func170.trans (congrArg some kr)
 f318:=Tryz.func172.trans (congrArg some kr)
 t0:=Tryz.underlying0
 a0:=Tryz.isAgg0
 z0:=Tryz.sizeOf0
 v0:=Tryz.zeroValue0
 t3:=Tryz.underlying3
 a3:=Tryz.isAgg3
 z3:=Tryz.sizeOf3
 v3:=Tryz.zeroValue3
 t4:=Tryz.underlying4
 a4:=Tryz.isAgg4
 z4:=Tryz.sizeOf4
 v4:=Tryz.zeroValue4
 t5:=Tryz.underlying5
 a5:=Tryz.isAgg5
 z5:=Tryz.sizeOf5
 v5:=Tryz.zeroValue5
 t9:=Tryz.underlying9
 a9:=Tryz.isAgg9
 z9:=Tryz.sizeOf9
 v9:=Tryz.zeroValue9
 t46:=Tryz.underlying125
 a46:=Tryz.isAgg125
 z46:=Tryz.sizeOf125
 v46:=Tryz.zeroValue125
 t53:=Tryz.underlying132
 a53:=Tryz.isAgg132
 z53:=Tryz.sizeOf132
 v53:=Tryz.zeroValue132
 t212:=Tryz.underlying184
 a212:=Tryz.isAgg184
 z212:=Tryz.sizeOf184
 v212:=Tryz.zeroValue184
 g17:=kr
 i0:=kr
 i3:=kr
 i4:=kr
 i5:=kr
 i9:=kr
 i46:=kr
 i53:=kr
 i212:=kr
 m17:=by kernel_rfl}
def Tryz.lays285_ren:Go.Shelf.Ren:=⟨λ|285=>157|n=>n,λ|37=>22|53=>132|3=>3|4=>4|51=>174|9=>9|5=>5|0=>0|n=>n,λ|n=>n⟩
theorem Tryz.lays285:Go.Proofs.Lays.n285 Aa Tryz.lays285_ren:={
 mixed:=kr
 f285:=Tryz.func157.trans (congrArg some kr)
 t0:=Tryz.underlying0
 a0:=Tryz.isAgg0
 z0:=Tryz.sizeOf0
 v0:=Tryz.zeroValue0
 t3:=Tryz.underlying3
 a3:=Tryz.isAgg3
 z3:=Tryz.sizeOf3
 v3:=Tryz.zeroValue3
 t4:=Tryz.underlying4
 a4:=Tryz.isAgg4
 z4:=Tryz.sizeOf4
 v4:=Tryz.zeroValue4
 t5:=Tryz.underlying5
 a5:=Tryz.isAgg5
 z5:=Tryz.sizeOf5
 v5:=Tryz.zeroValue5
 t9:=Tryz.underlying9
 a9:=Tryz.isAgg9
 z9:=Tryz.sizeOf9
 v9:=Tryz.zeroValue9
 t37:=Tryz.underlying22
 a37:=Tryz.isAgg22
 z37:=Tryz.sizeOf22
 v37:=Tryz.zeroValue22
 t51:=Tryz.underlying174
 a51:=Tryz.isAgg174
 z51:=Tryz.sizeOf174
 v51:=Tryz.zeroValue174
 t53:=Tryz.underlying132
 a53:=Tryz.isAgg132
 z53:=Tryz.sizeOf132
 v53:=Tryz.zeroValue132}
end Go.Proofs
end

section
open Go.Proofs
namespace Go.Lift.M1
variable[MX]
open Utf
noncomputable abbrev JTx:Nat->Option (Nat->List V->JC->Option (V×JC)):=λ_=>none
noncomputable abbrev E0:GH:=ev Aa hints JTx
theorem u8w(z:Int):IntKind.u8.wrap z=z%256:=by simp only[Ch,BW,B6];simp
theorem Jcm(r:Int)(k:Nat)(hk:k<=32):JB4 AF r (k:Int)=r/2^k:=by
 unfold JB4
 have e:min ((k:Int)).toNat AF.bits=k:=by
  show min ((k:Int)).toNat 32=k
  omega
 rw[e,Int.fdiv_eq_ediv_of_nonneg _ (Int.le_of_lt (Int.pow_pos om))]
theorem Jcn(z:Int):YH .u8 (z%256) 63=z%64:=by rw[a63 (y:=z%256) om om];omega
theorem JM6{y:Int}(h0:0<=y)(h1:y<64):ior .u8 128 y=128+y:=Utf.o8 (n:=64) om h0 om
theorem Jco{y:Int}(h0:0<=y)(h1:y<32):ior .u8 192 y=192+y:=Utf.o8 (n:=32) om h0 om
theorem Jcp{y:Int}(h0:0<=y)(h1:y<16):ior .u8 224 y=224+y:=Utf.o8 (n:=16) om h0 om
theorem Jcq{y:Int}(h0:0<=y)(h1:y<8):ior .u8 240 y=240+y:=Utf.o8 (n:=8) om h0 om
theorem yt{r:Int}(h0:0<=r)(h1:r<=2147483647):Mb.wrap r=r:=by simp only[Ch,BW,B6];simp;omega
theorem JLD{r:Int}(h0: -2147483648<=r)(h1:r<0):Mb.wrap r=r+4294967296:=by simp only[Ch,BW,B6];simp;omega
section
variable{N:Nat}{h:JC}{out:List Int}{r:Int}
theorem Jic(h0: -2147483648<=r)(h1:r<=2147483647)(hna:r<0\/128<=r)(hl:out.length<=1000000000):
  evCode ⟨Aa,E0,N,N,JVf⟩ JA JHY (Ku [.list .yes (ri .u8 out),.v (.int .i32 r)],h)=some (.ret,[(4,.list .yes (ri .u8 (out++enc (JQ r))))],h):=by
 have hr:∀k,k<=4->(out.length+k)*1<=140737488355328:=by intro k hk;omega
 have hq:∀k,9223372036854775800<=k->out.length<=k:=by intro k hk;omega
 by_cases hbad:r<0\/1114111<r\/(55296<=r/\r<=57343)
 ·have hs:JQ r=65533:=by
   unfold JQ;rw[if_pos];simp;omega
  have he:enc (JQ r)=[239,191,189]:=by rw[hs]<;>rfl
  rw[he,<-ri_app];have e1:ri .u8 [239,191,189]=[[V.v (.int .u8 239)],[V.v (.int .u8 191)],[V.v (.int .u8 189)]]:=rfl;rw[e1];by_cases hn:r<0
  ·have w:=JLD h0 hn
   have q1:decide (r+4294967296<=2047)=false:=by simp;omega
   have q2:decide (r+4294967296<55296)=false:=by simp;omega
   have q3:decide (57343<r+4294967296)=true:=by simp;omega
   have q4:decide (r+4294967296<=65535)=false:=by simp;omega
   have q5:decide (65535<r+4294967296)=true:=by simp;omega
   have q6:decide (r+4294967296<=1114111)=false:=by simp;omega
   simp only[go_sem,JHY,Tryz.f169,w,q1,q2,q3,q4,q5,q6,hr,hq]<;>rfl
  ·have w:=yt om h1
   have q1:decide (r<=2047)=false:=by simp;omega
   have q2:decide (r<55296)=false:=by simp;omega
   by_cases hb:1114111<r
   ·have q3:decide (57343<r)=true:=by simp;omega
    have q4:decide (r<=65535)=false:=by simp;omega
    have q5:decide (65535<r)=true:=by simp;omega
    have q6:decide (r<=1114111)=false:=by simp;omega
    simp only[go_sem,JHY,Tryz.f169,w,q1,q2,q3,q4,q5,q6,hr,hq]<;>rfl
   ·have q3:decide (57343<r)=false:=by simp;omega
    have q5:decide (65535<r)=false:=by simp;omega
    simp only[go_sem,JHY,Tryz.f169,w,q1,q2,q3,q5,hr,hq]<;>rfl
 ·have hs:JQ r=r:=by
   unfold JQ;rw[if_neg];simp;omega
  have w:=yt (r:=r) om h1;have s6:JB4 AF r 6=r/64:=Jcm r 6 om;have s12:JB4 AF r 12=r/4096:=Jcm r 12 om;have s18:JB4 AF r 18=r/262144:=Jcm r 18 om;have l0:=Jcn r;have l6:=Jcn (r/64);have l12:=Jcn (r/4096);have o0:=JM6 (y:=r%64) om om;have o6:=JM6 (y:=r/64%64) om om;have o12:=JM6 (y:=r/4096%64) om om
  have m0:r%64%256=r%64:=om;have m6:r/64%64%256=r/64%64:=om;have m12:r/4096%64%256=r/4096%64:=om;have n0:(128+r%64)%256=128+r%64:=om;have n6:(128+r/64%64)%256=128+r/64%64:=om;have n12:(128+r/4096%64)%256=128+r/4096%64:=om;rw[hs,<-ri_app];by_cases c1:r<=2047
  ·have q1:decide (r<=2047)=true:=by simp[c1]
   have t:r/64%256=r/64:=om;have o:=Jco (y:=r/64) om om;have no:(192+r/64)%256=192+r/64:=om;have e:ri .u8 (enc r)=[[V.v (.int .u8 (192+r/64))],[V.v (.int .u8 (128+r%64))]]:=by unfold enc;rw[if_neg om,if_pos om]<;>rfl
   rw[e];simp only[go_sem,JHY,Tryz.f169,w,q1,u8w,s6,l0,o0,m0,n0,t,o,no,hr,hq]<;>rfl
  ·have q1:decide (r<=2047)=false:=by simp;omega
   by_cases c2:r<=65535
   ·have t:r/4096%256=r/4096:=om
    have o:=Jcp (y:=r/4096) om om;have no:(224+r/4096)%256=224+r/4096:=om;have e:ri .u8 (enc r)=[[V.v (.int .u8 (224+r/4096))],[V.v (.int .u8 (128+r/64%64))],[V.v (.int .u8 (128+r%64))]]:=by unfold enc;rw[if_neg om,if_neg om,if_pos om]<;>rfl
    rw[e];by_cases c3:r<55296
    ·have q2:decide (r<55296)=true:=by simp[c3]
     simp only[go_sem,JHY,Tryz.f169,w,q1,q2,u8w,s6,s12,l0,l6,o0,o6,m0,m6,n0,n6,t,o,no,hr,hq]<;>rfl
    ·have q2:decide (r<55296)=false:=by simp;omega
     have q3:decide (57343<r)=true:=by simp;omega
     have q4:decide (r<=65535)=true:=by simp[c2]
     simp only[go_sem,JHY,Tryz.f169,w,q1,q2,q3,q4,u8w,s6,s12,l0,l6,o0,o6,m0,m6,n0,n6,t,o,no,hr,hq]<;>rfl
   ·have q2:decide (r<55296)=false:=by simp;omega
    have q3:decide (57343<r)=true:=by simp;omega
    have q4:decide (r<=65535)=false:=by simp;omega
    have q5:decide (65535<r)=true:=by simp;omega
    have q6:decide (r<=1114111)=true:=by simp;omega
    have t:r/262144%256=r/262144:=om;have o:=Jcq (y:=r/262144) om om;have no:(240+r/262144)%256=240+r/262144:=om;have e:ri .u8 (enc r)=[[V.v (.int .u8 (240+r/262144))],[V.v (.int .u8 (128+r/4096%64))],[V.v (.int .u8 (128+r/64%64))],[V.v (.int .u8 (128+r%64))]]:=by unfold enc;rw[if_neg om,if_neg om,if_neg om]<;>rfl
    rw[e];simp only[go_sem,JHY,Tryz.f169,w,q1,q2,q3,q4,q5,q6,u8w,s6,s12,s18,l0,l6,l12,o0,o6,o12,m0,m6,m12,n0,n6,n12,t,o,no,hr,hq]<;>rfl
theorem Jid(h0:0<=r)(h1:r<128)(hl:out.length<=1000000000):
  evCode ⟨Aa,E0,N,N,JVe⟩ JA JbC (Ku [.list .yes (ri .u8 out),.v (.int .i32 r)],h)=some (.ret,[(4,.list .yes (ri .u8 (out++enc (JQ r))))],h):=by
 have hr:∀k,k<=4->(out.length+k)*1<=140737488355328:=by intro k hk;omega
 have hq:∀k,9223372036854775800<=k->out.length<=k:=by intro k hk;omega
 have hs:JQ r=r:=by unfold JQ;rw[if_neg];simp;omega
 have e:ri .u8 (enc r)=[[V.v (.int .u8 r)]]:=by unfold enc;rw[if_pos h1]<;>rfl
 have w:=yt (r:=r) om om;have q:decide (r<=127)=true:=by simp;omega
 have t:r%256=r:=om;rw[hs,<-ri_app,e];simp only[go_sem,JbC,Tryz.f153,w,q,u8w,t,hr,hq]<;>rfl
end
end Go.Lift.M1
end
