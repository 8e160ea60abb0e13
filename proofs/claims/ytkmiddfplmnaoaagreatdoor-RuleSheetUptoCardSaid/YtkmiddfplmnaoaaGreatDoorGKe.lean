/- A number of a stylesheet, from its digits: what is computed, in plain Lean. -/
import Derived.Lib.IndexLaws
import Derived.Lib.TrailingZeros
import Derived.Lib.ItoaNum
import Derived.Test.YtkmiddfplmnaoaaGreatDoorGLd
import Derived.Test.YtkmiddfplmnaoaaGreatDoorGKa
import Derived.Test.YtkmiddfplmnaoaaGreatDoorGK1Basea
import Derived.Test.YtkmiddfplmnaoaaGreatDoorGKb
import Derived.Test.YtkmiddfplmnaoaaGreatDoorGKc
import Derived.Test.YtkmiddfplmnaoaaGreatDoorGKd
open Bool renaming and_eq_true->Ah,and_false->BZ,eq_iff_iff->Cu,false_and->AZ,or_eq_true->AN,true_and->AR
open ByteArray renaming data_extract->Ls,empty->A6,ext->DR,size->DH
open Go.IntKind renaming i64->Ak
open Go.Proofs.Tryz renaming prog->Aa
open Int renaming le_refl->CZ,le_trans->L7,mul_assoc->DQ,mul_comm->C3,pow_add->Dx,pow_succ->Cc
open List renaming append_eq_nil_iff->CP,cons_append->Ae,dropWhile_cons_of_neg->Bt,dropWhile_sublist->B3,dropWhile_suffix->AA,drop_eq_getElem_cons->AE,drop_eq_nil_of_le->A4,drop_length->Bw,drop_succ_cons->BV,drop_zero->AG,getElem?_eq_getElem->Ad,getElem?_eq_some_iff->Ab,getElem_mem->Bq,isPrefixOf->D5,length_cons->Ag,length_map->Av,length_nil->Am,length_take->AP,mem_of_getElem? ->Ap,mem_of_mem_drop->BH,mem_of_mem_take->CH,nil_append->Af,takeWhile_cons_of_pos->Ba,take_append_drop->CA,take_length->Co,take_succ_eq_append_getElem->B9
open Nat renaming add_zero->Bl,le_refl->Ac,le_trans->A3,zero_add->AB,zero_le->A0
open Option renaming map_some->A5
open Option.some renaming injEq->Ai
open UInt8 renaming ofNat->BE,toNat_ofNat'->BR
set_option linter.unusedVariables false
set_option linter.unusedSimpArgs false
set_option linter.unusedSectionVars false
set_option maxRecDepth 20000
set_option maxHeartbeats 40000000
section
namespace Go.Lift.Tok
open Utf
theorem Q8{a b:Int}(ha:0<=a)(hb:1<=b):a<=a*b:=by have:=Int.mul_le_mul_of_nonneg_left hb ha;omega
theorem JGu{a b:Int}(ha:0<=a)(hb:1<=b):a<=b*a:=by rw[C3];exact Q8 ha hb
theorem Jm{y:Int}(hy:1<=y):∀j:Nat,1<=y^j
 |0=>by simp
 |j+1=>by rw[Cc];exact L7 (Jm hy j) (Q8 (by have:=Jm hy j;omega) hy)
def WQ(n:Int):List Int->Int
 |[]=>n
 |c::t=>WQ (if 1099511627776<n*10+(c-48)then 1099511627776 else n*10+(c-48)) t
def ZA(n:Int):List Int->Int
 |[]=>n
 |c::t=>ZA (n*10+(c-48)) t
theorem JBq:∀(l:List Int) (n:Int) (k:Nat),(∀c∈l,Jn c=true)->0<=n->n<10^k->0<=ZA n l/\ZA n l<10^ (k+l.length)/\n<=ZA n l
 |[],n,k,_,h0,h1=>⟨h0,by simpa[ZA]using h1,CZ _⟩
 |c::t,n,k,hl,h0,h1=>by
  have hc:Jn c=true:=hl c (by simp)
  simp only[Jn,Ah,decide_eq_true_eq]at hc;have h2:(10:Int)^ (k+1)=10^k*10:=Cc 10 k;obtain⟨a,b,d⟩:=JBq t (n*10+(c-48)) (k+1) (λx hx=>hl x (by simp[hx])) om om
  refine⟨a,?_,?_⟩
  ·have e:k+(c::t).length=k+1+t.length:=by simp;omega
   rw[e];exact b
  ·simp only[ZA];omega
def za:Nat->Int->Option Int
 |0,n=>some n
 |k+1,n=>if 922337203685477580<n then none else za k (n*10)
def Kh(y:Int):Nat->Int->Nat×Int
 |0,n=>(0,n)
 |k+1,n=>if n%y=0 then Kh y k (n/y)else(k+1,n)
def ZB(y b:Int):Nat->Int->Option Int
 |0,d=>some d
 |k+1,d=>if b<d then none else ZB y b k (d*y)
def QT(y b:Int):Nat->Int->Int->Option (Int×Int)
 |0,n,d=>some (n,d)
 |k+1,n,d=>if n%y=0 then QT y b k (n/y) d else if b<d then none else QT y b k n (d*y)
theorem JDs{y b:Int}:∀(k:Nat) (n d:Int),n%y≠0->QT y b k n d=(ZB y b k d).map λx=>(n,x)
 |0,n,d,_=>rfl
 |k+1,n,d,h=>by
  simp only[QT,ZB];rw[if_neg h]
  split
  ·rfl
  ·exact JDs k n (d*y) h
theorem JBr{y b:Int}:∀(k:Nat) (n d:Int),QT y b k n d=(ZB y b (Kh y k n).1 d).map λx=>((Kh y k n).2,x)
 |0,n,d=>rfl
 |k+1,n,d=>by
  by_cases h:n%y=0
  ·simp only[QT,Kh]
   rw[if_pos h,if_pos h];exact JBr k (n/y) d
  ·have e:Kh y (k+1) n=(k+1,n):=by simp only[Kh];rw[if_neg h]
   rw[e];exact JDs (k+1) n d h
theorem JBs:∀(k:Nat) (n m:Int),za k n=some m->m=n*10^k/\(k=0\/m<=9223372036854775800)
 |0,n,m,h=>by simp only[za,Ai]at h;exact⟨by simp[h],.inl rfl⟩
 |k+1,n,m,h=>by
  simp only[za]at h
  split at h
  ·cases h
  ·rename_i h1
   obtain⟨a,b⟩:=JBs k (n*10) m h;refine⟨by rw[a,Cc,DQ,C3 10],.inr ?_⟩
   rcases b with b|b
   ·subst b
    simp at a;omega
   ·exact b
theorem JUW{k:Nat}{n:Int}(hk:18<k)(hn:1<=n):za k n=none:=by
 cases h:za k n with
 |none=>rfl
 |some m=>
  obtain⟨a,b⟩:=JBs k n m h
  have h1:(10:Int)^19<=10^k:=by obtain⟨j,rfl⟩:∃j,k=19+j:=⟨k-19,om⟩;rw[Dx];have:(1:Int)<=10^j:=Jm om j;exact Q8 (by decide) this
  have h2:(10:Int)^k<=n*10^k:=JGu (by have:=Jm (y:=10) om k;omega) hn
  have h3:(10:Int)^19=10000000000000000000:=by decide
  omega
theorem yM{y b:Int}(hy:0<y):∀(k:Nat) (n m:Int),ZB y b k n=some m->m=n*y^k/\(k=0\/m<=b*y)
 |0,n,m,h=>by simp only[ZB,Ai]at h;exact⟨by simp[h],.inl rfl⟩
 |k+1,n,m,h=>by
  simp only[ZB]at h
  split at h
  ·cases h
  ·rename_i h1
   obtain⟨a,c⟩:=yM hy k (n*y) m h;refine⟨by rw[a,Cc,DQ,C3 y],.inr ?_⟩
   rcases c with c|c
   ·subst c
    simp at a;rw[a];exact Int.mul_le_mul_of_nonneg_right om om
   ·exact c
theorem JRB{k:Nat}{d:Int}(hk:27<k)(hd:1<=d):ZB 5 1844674407370955161 k d=none:=by
 cases h:ZB 5 1844674407370955161 k d with
 |none=>rfl
 |some m=>
  obtain⟨a,b⟩:=yM om k d m h
  have h1:(5:Int)^28<=5^k:=by obtain⟨j,rfl⟩:∃j,k=28+j:=⟨k-28,om⟩;rw[Dx];have:(1:Int)<=5^j:=Jm om j;exact Q8 (by decide) this
  have h2:(5:Int)^k<=d*5^k:=JGu (by have:=Jm (y:=5) om k;omega) hd
  have h3:(5:Int)^28=37252902984619140625:=by decide
  omega
theorem jn{a c:Nat}(h:a<=c):(2:Int)^a<=2^c:=by obtain⟨j,rfl⟩:∃j,c=a+j:=⟨c-a,om⟩;rw[Dx];have h0:(0:Int)<2^a:=Jm om a;have:(1:Int)<=2^j:=Jm om j;exact Q8 om this
theorem JMY:∀(k a:Nat),a<=62->ZB 2 4611686018427387903 k (2^a)=if 62<a+k then none else some (2^ (a+k))
 |0,a,h=>by rw[if_neg om];rfl
 |k+1,a,h=>by
  have h62:(2:Int)^62=4611686018427387904:=by decide
  have h61:(2:Int)^61=2305843009213693952:=by decide
  simp only[ZB];by_cases ha:a=62
  ·subst ha
   rw[if_pos om,if_pos om]
  ·have:=jn (show a<=61 by omega)
   rw[if_neg om,<-Cc,JMY k (a+1) om];have e:a+1+k=a+(k+1):=om;rw[e]
theorem Wy{y:Int}(hy:0<y):∀(k:Nat) (n:Int),1<=n->(Kh y k n).1<=k/\1<=(Kh y k n).2/\(Kh y k n).2<=n/\n=(Kh y k n).2*y^ (k-(Kh y k n).1)
 |0,n,h=>by simp[Kh,h]
 |k+1,n,h=>by
  simp only[Kh]
  split
  ·rename_i h1
   have h2:n=n/y*y:=by have:=Int.mul_ediv_add_emod n y;rw[h1,Int.add_zero]at this;rw[C3];exact this.symm
   have h3:1<=n/y:=by
    rcases Int.lt_or_le (n/y) 1 with h4|h4
    ·have:n/y*y<=0:=Int.mul_nonpos_of_nonpos_of_nonneg om om
     omega
    ·exact h4
   obtain⟨a,b,c,d⟩:=Wy hy k (n/y) h3;have h5:n/y<=n:=Int.ediv_le_self y om;refine⟨om,b,om,?_⟩
   have e:k+1-(Kh y k (n/y)).1=k-(Kh y k (n/y)).1+1:=om;rw[e,Cc,<-DQ,<-d];exact h2
  ·simp[h]
def Zl(n p:Int):Option (Int×Int):=
 match za p.toNat n with
 |none=>none
 |some m=>
  if 62<(Kh 2 (-p).toNat m).1\/27<(Kh 5 (-p).toNat (Kh 2 (-p).toNat m).2).1 then none
  else(ZB 5 1844674407370955161 (Kh 5 (-p).toNat (Kh 2 (-p).toNat m).2).1 (2^ (Kh 2 (-p).toNat m).1)).map λd=>((Kh 5 (-p).toNat (Kh 2 (-p).toNat m).2).2,d)
def JLR(n p:Int):Option (Int×Int):=
 if 18<p\/p< -100 then none else
 match za p.toNat n with
 |none=>none
 |some m=>match QT 2 4611686018427387903 (-p).toNat m 1 with
  |none=>none
  |some (n2,d2)=>QT 5 1844674407370955161 (-p).toNat n2 d2
theorem JRC{n p:Int}(h1:1<=n)(h2:n<10^18):JLR n p=Zl n p:=by
 unfold JLR Zl;by_cases hp:18<p
 ·rw[if_pos (.inl hp),JUW om h1]
 by_cases hq:p< -100
 ·have e:p.toNat=0:=om
  rw[if_pos (.inr hq),e];simp only[za];rw[if_pos]
  right
  obtain⟨a1,b1,c1,d1⟩:=Wy (y:=2) om (-p).toNat n h1;obtain⟨a,b,c,d⟩:=Wy (y:=5) om (-p).toNat _ b1;generalize (Kh 2 (-p).toNat n).2=n2 at*;generalize (Kh 5 (-p).toNat n2).1=k at*;generalize (Kh 5 (-p).toNat n2).2=n3 at*;rcases Nat.lt_or_ge 27 k with h|h
  ·exact h
  ·exfalso
   have h4:(5:Int)^26<=5^ ((-p).toNat-k):=by obtain⟨j,e⟩:∃j,(-p).toNat-k=26+j:=⟨(-p).toNat-k-26,om⟩;rw[e,Dx];have:(1:Int)<=5^j:=Jm om j;exact Q8 (by decide) this
   have h5:(5:Int)^ ((-p).toNat-k)<=n3*5^ ((-p).toNat-k):=JGu (by have:=Jm (y:=5) om ((-p).toNat-k);omega) b
   have h6:(5:Int)^26=1490116119384765625:=by decide
   have h7:(10:Int)^18=1000000000000000000:=by decide
   omega
 rw[if_neg om]
 cases hu:za p.toNat n with
 |none=>rfl
 |some m=>
  have hm:1<=m:=by obtain⟨a,_⟩:=JBs _ _ _ hu;have:(0:Int)<10^p.toNat:=Jm om _;rw[a];exact L7 h1 (Q8 om this)
  simp only;rw[JBr];have e1:(1:Int)=2^0:=rfl;have e2:=JMY (Kh 2 (-p).toNat m).1 0 om;rw[AB]at e2;rw[e1,e2];obtain⟨_,b1,_,_⟩:=Wy (y:=2) om (-p).toNat m hm;by_cases h62:62<(Kh 2 (-p).toNat m).1
  ·rw[if_pos h62,if_pos (.inl h62)];rfl
  ·rw[if_neg h62]
   simp only[A5];rw[JBr];by_cases h27:27<(Kh 5 (-p).toNat (Kh 2 (-p).toNat m).2).1
   ·rw[if_pos (.inr h27),JRB h27]
    ·rfl
    ·exact Jm om _
   ·rw[if_neg om]
structure Wr where
 below:Bool
 digits:List Int
 behind:Nat
 exp:Int
 whole:Bool
def core(d:List Int):List Int:=(d.reverse.dropWhile (· ==48)).reverse
def turn(below:Bool)(x:Option (Int×Int)):Int×Int:=match x with
 |none=>(0,0)
 |some (n,d)=>(if below=true then-n else n,d)
def qG(w:Wr):Int×Int:=
 let d:=w.digits.dropWhile (· ==48)
 if d=[]then(0,1)else
 if 18<(core d).length then(0,0)else
 turn w.below (Zl (ZA 0 (core d)) (w.exp-w.behind+(d.length-(core d).length)))
structure Nm where
 sg:List Int
 d1:List Int
 fr:List Int
 ex:List Int
 d3:List Int
def Nm.text(n:Nm):List Int:=n.sg++n.d1++(if n.fr=[]then[]else 46::n.fr)++n.ex++n.d3
def Nm.wr(n:Nm):Wr:=⟨n.sg==[45],n.d1++n.fr,n.fr.length,if chr n.ex 1=45 then-WQ 0 n.d3 else WQ 0 n.d3,n.fr.isEmpty&&n.ex.isEmpty⟩
def Nm.num(n:Nm):(Int×Int)×Bool:=(qG n.wr,n.wr.whole)
structure Nm.Ok(n:Nm):Prop where
 sg:n.sg=[]\/n.sg=[43]\/n.sg=[45]
 d1:n.d1.all Jn=true
 fr:n.fr.all Jn=true
 some:n.d1++n.fr≠[]
 ex:(n.ex=[]/\n.d3=[])\/((∃e,(e=101\/e=69)/\(n.ex=[e]\/n.ex=[e,43]\/n.ex=[e,45]))/\n.d3≠[])
 d3:n.d3.all Jn=true
def numP(s:List Int):Nm×List Int:=
 let a:=if(chr s 0==43||chr s 0==45)=true then s.drop 1 else s
 let b:=a.dropWhile Jn
 let f:=(chr b 0==46&&Jn (chr b 1))
 let c:=if f=true then(b.drop 1).dropWhile Jn else b
 let k:=if(chr c 1==43||chr c 1==45)=true then 2 else 1
 let x:=((chr c 0==101||chr c 0==69)&&Jn (chr c k))
 (⟨if(chr s 0==43||chr s 0==45)=true then s.take 1 else[],a.takeWhile Jn,if f=true then(b.drop 1).takeWhile Jn else[],
  if x=true then c.take k else[],if x=true then(c.drop k).takeWhile Jn else[]⟩,if x=true then(c.drop k).dropWhile Jn else c)
def yN(c:Int):Int:=if(decide (65<=c)&&decide (c<=90))=true then c+32 else c
def Gn(n:List Int):Bool:=n.map yN==[117,114,108]
def Zm:Nat->List Int->List Int
 |0,s=>s
 |n+1,s=>if(blk (chr s 0)&&blk (chr s 1))=true then Zm n (s.drop 1)else s
def Qq(s:List Int):List Int:=Zm s.length s
def tk(k:Int)(t:List Int):Tk:=⟨k,t,(0,0),false,false⟩
def Hz(x:Bool×List Int×List Int):Tk:=if x.1=true then tk 7 x.2.1 else tk 8 []
def JCm(x:Bool×List Int×List Int):Tk:=if x.1=true then tk 5 x.2.1 else tk 6 []
def HT(s:List Int):Tk×List Int:=
 let n:=(name s).1
 let r:=(name s).2
 if chr r 0=40 then
  if Gn n=true then
   let b:=Qq (r.drop 1)
   if quo (if blk (chr b 0)=true then chr b 1 else chr b 0)=true then(tk 2 n,b)else(Hz (yy b),(yy b).2.2)
  else(tk 2 n,r.drop 1)
 else(tk 1 n,r)
def Qb(s:List Int):Tk×List Int:=
 let d:=(numP s).1.num
 let r:=(numP s).2
 if beg (chr r 0) (chr r 1) (chr r 2)=true then(⟨12,(name r).1,d.1,d.2,false⟩,(name r).2)
 else if chr r 0=37 then(⟨11,[],d.1,d.2,false⟩,r.drop 1)
 else(⟨10,[],d.1,d.2,false⟩,r)
def zJ(c:Int):Int:=
 if c=40 then 21 else if c=41 then 22 else if c=44 then 18 else if c=58 then 16 else if c=59 then 17
 else if c=91 then 19 else if c=93 then 20 else if c=123 then 23 else if c=125 then 24 else 0
def QK(s:List Int):Tk×List Int:=
 let c:=chr s 0
 let d:=chr s 1
 let e:=chr s 2
 if blk c=true then(tk 13 [],Kb s)
 else if quo c=true then(JCm (txt c (s.drop 1)),(txt c (s.drop 1)).2.2)
 else if 0<zJ c then(tk (zJ c) [],s.drop 1)
 else if num c d e=true then Qb s
 else if c=45/\d=45/\e=62 then(tk 15 [],s.drop 3)
 else if c=60/\d=33/\e=45/\chr s 3=45 then(tk 14 [],s.drop 4)
 else if c=35/\(j8 d||Gi d e)=true then(⟨4,(name (s.drop 1)).1,(0,0),false,beg d e (chr s 3)⟩,(name (s.drop 1)).2)
 else if c=64/\beg d e (chr s 3)=true then(tk 3 (name (s.drop 1)).1,(name (s.drop 1)).2)
 else if beg c d e=true then HT s
 else(tk 9 [c],s.drop 1)
def toksN:Nat->List Int->List Tk
 |0,_=>[]
 |n+1,s=>if Y9 s=[]then[]else(QK (Y9 s)).1::toksN n (QK (Y9 s)).2
def qH(s:List Int):List Tk:=toksN s.length s
theorem JLS{s:List Int}{c:Int}(h:chr s 0=c)(hc:c≠ -1):∃t,s=c::t:=by
 cases s with
 |nil=>simp only[chr,List.getElem?_nil]at h;exact absurd h.symm hc
 |cons x t=>simp only[chr,List.getElem?_cons_zero]at h;exact⟨t,by rw[h]⟩
theorem JGv{s:List Int}(h:Jn (chr s 1)=true):∃a b t,s=a::b::t/\Jn b=true:=by
 match s with
 |[]=>simp[chr,Jn]at h
 |[x]=>simp[chr,Jn]at h
 |a::b::t=>exact⟨a,b,t,rfl,by simpa[chr]using h⟩
theorem YN(s:List Int)(n k:Nat):chr (s.drop n) k=chr s (n+k):=by simp[chr]
theorem JRD(p:Int->Bool)(l:List Int):l.takeWhile p++l.dropWhile p=l:=List.takeWhile_append_dropWhile
theorem JLT:∀l:List Int,(l.takeWhile Jn).all Jn=true
 |[]=>rfl
 |c::t=>by
  cases hc:Jn c with
  |true=>rw[Ba hc,List.all_cons,hc,JLT t];rfl
  |false=>rw[List.takeWhile_cons_of_neg (by simp[hc])];rfl
theorem JRG{b:Bool}{l:List Int}:(if b=true then l.takeWhile Jn else[]).all Jn=true:=by
 cases b with
 |true=>exact JLT l
 |false=>rfl
theorem Hu(s:List Int):(numP s).1.text++(numP s).2=s:=by
 unfold numP Nm.text;simp only;generalize hf:(chr ((if(chr s 0==43||chr s 0==45)=true then s.drop 1 else s).dropWhile Jn) 0==46&&Jn (chr ((if(chr s 0==43||chr s 0==45)=true then s.drop 1 else s).dropWhile Jn) 1))=f
 have hs:(if(chr s 0==43||chr s 0==45)=true then s.take 1 else[])++(if(chr s 0==43||chr s 0==45)=true then s.drop 1 else s)=s:=by
  split
  ·exact CA 1 s
  ·rfl
 generalize (if(chr s 0==43||chr s 0==45)=true then s.drop 1 else s)=a at*
 generalize (if(chr s 0==43||chr s 0==45)=true then s.take 1 else[])=sg at*
 have ha:=JRD Jn a;generalize a.takeWhile Jn=d1 at*;generalize a.dropWhile Jn=b at*
 have hb:(if(if f=true then(b.drop 1).takeWhile Jn else[])=[]then[]else 46::(if f=true then(b.drop 1).takeWhile Jn else[]))++(if f=true then(b.drop 1).dropWhile Jn else b)=b:=by
  cases f with
  |false=>simp
  |true=>
   simp only[Ah,beq_iff_eq]at hf;obtain⟨u,hu⟩:=JLS hf.1 (by decide)
   obtain⟨x,y,v,hv,hy⟩:=JGv hf.2;rw[hu]at hv;cases hv;rw[hu];simp only[BV,AG,if_true];rw[if_neg (by rw[Ba hy];simp),Ae,JRD]
 generalize (if f=true then(b.drop 1).takeWhile Jn else[])=fr at*
 generalize (if f=true then(b.drop 1).dropWhile Jn else b)=c at*
 generalize (if(chr c 1==43||chr c 1==45)=true then 2 else 1)=k at*
 have hc:(if((chr c 0==101||chr c 0==69)&&Jn (chr c k))=true then c.take k else[])++((if((chr c 0==101||chr c 0==69)&&Jn (chr c k))=true then(c.drop k).takeWhile Jn else[])++(if((chr c 0==101||chr c 0==69)&&Jn (chr c k))=true then(c.drop k).dropWhile Jn else c))=c:=by
  split
  ·rw[JRD,CA]
  ·rfl
 simp only[List.append_assoc];rw[hc,hb,ha,hs]
theorem zx{s:List Int}(hn:num (chr s 0) (chr s 1) (chr s 2)=true):(numP s).1.Ok:=by
 unfold numP;simp only;refine⟨?_,JLT _,?_,?_,?_,?_⟩
 ·simp only
  split
  ·rename_i h
   simp only[AN,beq_iff_eq]at h;rcases h with h|h
   ·obtain⟨t,ht⟩:=JLS h (by decide)
    right;left;rw[ht];rfl
   ·obtain⟨t,ht⟩:=JLS h (by decide)
    right;right;rw[ht];rfl
  ·exact .inl rfl
 ·exact JRG
 ·simp only
  unfold num at hn;by_cases hsg:(chr s 0==43||chr s 0==45)=true
  ·rw[if_pos hsg]at hn⊢
   have e0:chr (s.drop 1) 0=chr s 1:=YN s 1 0;have e1:chr (s.drop 1) 1=chr s 2:=YN s 1 1;rw[<-e0,<-e1]at hn;generalize s.drop 1=a at*;rw[AN,Ah,beq_iff_eq]at hn;intro h0;rw[CP]at h0;obtain⟨h1,h2⟩:=h0
   cases a with
   |nil=>rcases hn with hn|⟨hn,_⟩<;>simp[chr,Jn]at hn
   |cons c t=>
    have hc0:Jn c=false:=by
     cases hc:Jn c with
     |true=>rw[Ba hc]at h1;cases h1
     |false=>rfl
    rw[Bt (by simp[hc0])]at h2
    rcases hn with hn|⟨hn,hm⟩
    ·have:Jn c=true:=hn
     rw[hc0]at this;cases this
    ·have hf:(chr (c::t) 0==46&&Jn (chr (c::t) 1))=true:=by simp[hn,hm]
     rw[if_pos hf]at h2;obtain⟨x,y,v,hv,hy⟩:=JGv hm;cases hv;simp only[BV,AG]at h2;rw[Ba hy]at h2;cases h2
  ·rw[if_neg hsg]at hn⊢
   rw[AN,Ah,beq_iff_eq]at hn;intro h0;rw[CP]at h0;obtain⟨h1,h2⟩:=h0
   cases s with
   |nil=>rcases hn with hn|⟨hn,_⟩<;>simp[chr,Jn]at hn
   |cons c t=>
    have hc0:Jn c=false:=by
     cases hc:Jn c with
     |true=>rw[Ba hc]at h1;cases h1
     |false=>rfl
    rw[Bt (by simp[hc0])]at h2
    rcases hn with hn|⟨hn,hm⟩
    ·have:Jn c=true:=hn
     rw[hc0]at this;cases this
    ·have hf:(chr (c::t) 0==46&&Jn (chr (c::t) 1))=true:=by simp[hn,hm]
     rw[if_pos hf]at h2;obtain⟨x,y,v,hv,hy⟩:=JGv hm;cases hv;simp only[BV,AG]at h2;rw[Ba hy]at h2;cases h2
 ·simp only
  generalize (if(chr ((if(chr s 0==43||chr s 0==45)=true then s.drop 1 else s).dropWhile Jn) 0==46&&Jn (chr ((if(chr s 0==43||chr s 0==45)=true then s.drop 1 else s).dropWhile Jn) 1))=true then(((if(chr s 0==43||chr s 0==45)=true then s.drop 1 else s).dropWhile Jn).drop 1).dropWhile Jn else(if(chr s 0==43||chr s 0==45)=true then s.drop 1 else s).dropWhile Jn)=c
  by_cases hx:((chr c 0==101||chr c 0==69)&&Jn (chr c (if(chr c 1==43||chr c 1==45)=true then 2 else 1)))=true
  ·rw[if_pos hx,if_pos hx]
   right
   rw[Ah]at hx;obtain⟨he,hd⟩:=hx;rw[AN,beq_iff_eq,beq_iff_eq]at he
   obtain⟨e,t,hc⟩:∃e t,c=e::t:=by
    cases c with
    |nil=>simp[chr]at he
    |cons e t=>exact⟨e,t,rfl⟩
   subst hc;have he':e=101\/e=69:=by simpa[chr]using he
   by_cases hk:(chr (e::t) 1==43||chr (e::t) 1==45)=true
   ·rw[if_pos hk]
    rw[if_pos hk]at hd;rw[AN,beq_iff_eq,beq_iff_eq]at hk
    cases t with
    |nil=>simp[chr]at hk
    |cons s2 t2=>
     have hs2:s2=43\/s2=45:=by simpa[chr]using hk
     refine⟨⟨e,he',?_⟩,?_⟩
     ·rcases hs2 with rfl|rfl
      ·right;left;rfl
      ·right;right;rfl
     ·simp only[BV,AG]
      cases t2 with
      |nil=>simp[chr,Jn]at hd
      |cons y v=>
       have hy:Jn y=true:=by simpa[chr]using hd
       rw[Ba hy];simp
   ·rw[if_neg hk]
    rw[if_neg hk]at hd;refine⟨⟨e,he',.inl rfl⟩,?_⟩
    simp only[BV,AG]
    cases t with
    |nil=>simp[chr,Jn]at hd
    |cons y v=>
     have hy:Jn y=true:=by simpa[chr]using hd
     rw[Ba hy];simp
  ·rw[if_neg hx,if_neg hx]
   exact .inl ⟨rfl,rfl⟩
 ·exact JRG
theorem JMZ:∀(k:Nat) (n:Int) (s:List Int),(QR k n s).2.length<=s.length
 |0,n,s=>Ac _
 |k+1,n,[]=>Ac _
 |k+1,n,c::t=>by
  simp only[QR]
  split
  ·exact Ac _
  ·have:=JMZ k (n*16+hex c) t
   simp;omega
theorem JUX(s:List Int):(JA6 s).length<=s.length:=by
 cases s with
 |nil=>exact Ac _
 |cons d u=>simp only[JA6];split<;>simp
theorem ZU(s:List Int):(KD s).2.length<=s.length:=by
 cases s with
 |nil=>exact Ac _
 |cons c t=>
  simp only[KD]
  split
  ·simp
  ·have:=JUX (QR 6 0 (c::t)).2
   have:=JMZ 6 0 (c::t);simp only at*;omega
theorem HU:∀(n:Nat) (s:List Int),(KW n s).2.length<=s.length
 |0,s=>Ac _
 |n+1,[]=>Ac _
 |n+1,c::t=>by
  simp only[KW]
  split
  ·have:=HU n t
   simp;omega
  ·split
   ·have:=HU n (KD t).2
    have:=ZU t;simp;omega
   ·simp
theorem JGw(s:List Int):(name s).2.length<=s.length:=HU _ _
theorem JUY{c:Int}{t:List Int}(h:(j8 c||Gi c (chr t 0))=true):(name (c::t)).2.length<=t.length:=by
 unfold name;simp only[Ag,KW]
 split
 ·exact HU _ _
 ·rename_i h2
  rw[if_pos (by simpa[h2]using h)]
  exact A3 (HU _ _) (ZU t)
theorem zy(sign:Int):∀(n:Nat) (s:List Int),(KC sign n s).2.2.length<=s.length
 |0,s=>Ac _
 |n+1,[]=>Ac _
 |n+1,c::t=>by
  simp only[KC]
  split
  ·exact Ac _
  ·split
   ·simp
   ·split
    ·cases t with
     |nil=>simp
     |cons d u=>
      simp only
      split
      ·have:=zy sign n u
       simp;omega
      ·have:=zy sign n (KD (d::u)).2
       have:=ZU (d::u);simp at*;omega
    ·have:=zy sign n t
     simp;omega
theorem ZV:∀(n:Nat) (s:List Int),(YH n s).length<=s.length
 |0,s=>Ac _
 |n+1,[]=>Ac _
 |n+1,c::t=>by
  simp only[YH]
  split
  ·simp
  ·split
   ·have:=ZV n (KD t).2
    have:=ZU t;simp;omega
   ·have:=ZV n t
    simp;omega
theorem Z8(s:List Int):(Kb s).length<=s.length:=(B3 _).length_le
theorem JGx:∀(n:Nat) (s:List Int),(KJ n s).2.2.length<=s.length
 |0,s=>Ac _
 |n+1,[]=>Ac _
 |n+1,c::t=>by
  simp only[KJ]
  split
  ·simp
  ·split
   ·have:=Z8 t
    split
    ·simp
     omega
    ·have:=ZV (Kb t).length (Kb t)
     simp[HC];omega
   ·split
    ·exact ZV _ _
    ·split
     ·split
      ·have:=JGx n (KD t).2
       have:=ZU t;simp;omega
      ·exact ZV _ _
     ·have:=JGx n t
      simp;omega
theorem JZP(s:List Int):(yy s).2.2.length<=s.length:=A3 (JGx _ _) (Z8 s)
theorem JDt:∀(n:Nat) (s:List Int),(Zm n s).length<=s.length
 |0,s=>Ac _
 |n+1,s=>by
  simp only[Zm]
  split
  ·have:=JDt n (s.drop 1)
   simp at*;omega
  ·exact Ac _
theorem JJa(s:List Int):(Qq s).length<=s.length:=JDt _ _
theorem JJb:∀s:List Int,(G9 s).length<=s.length
 |[]=>Ac _
 |[_]=>by simp[G9]
 |c::d::t=>by
  simp only[G9]
  split
  ·simp;omega
  ·have:=JJb (d::t)
   simp at*;omega
theorem JMa:∀(n:Nat) (s:List Int),(Z1 n s).length<=s.length
 |0,s=>Ac _
 |n+1,[]=>Ac _
 |n+1,[_]=>Ac _
 |n+1,c::d::t=>by
  simp only[Z1]
  split
  ·have:=JMa n (G9 t)
   have:=JJb t;simp;omega
  ·exact Ac _
theorem qJ(s:List Int):(Y9 s).length<=s.length:=JMa _ _
theorem z6{c d e:Int}(h:beg c d e=true):(j8 c||Gi c d)=true:=by
 unfold beg at h
 split at h
 ·rename_i h45
  simp only[beq_iff_eq]at h45;subst h45;rfl
 ·rw[AN]at h
  rcases h with h|h
  ·unfold j8;simp[h]
  ·simp[h]
theorem JUZ{c:Int}{t:List Int}(h:beg c (chr t 0) (chr t 1)=true):(HT (c::t)).2.length<=t.length:=by
 have h1:=JUY (z6 h);unfold HT;simp only
 split
 ·split
  ·have h2:=JJa ((name (c::t)).2.drop 1)
   rw[List.length_drop]at h2;have h3:=JZP (Qq ((name (c::t)).2.drop 1))
   have key:∀b:Bool,(if b=true then(tk 2 (name (c::t)).1,Qq ((name (c::t)).2.drop 1))else(Hz (yy (Qq ((name (c::t)).2.drop 1))),(yy (Qq ((name (c::t)).2.drop 1))).2.2)).2.length<=t.length:=by
    intro b
    cases b with
    |true=>rw[if_pos rfl];show(Qq ((name (c::t)).2.drop 1)).length<=_;omega
    |false=>rw[if_neg (by simp)];show(yy (Qq ((name (c::t)).2.drop 1))).2.2.length<=_;omega
   exact key _
  ·simp
   omega
 ·exact h1
theorem JOL{c:Int}{t:List Int}(h:num c (chr t 0) (chr t 1)=true):(Qb (c::t)).2.length<=t.length:=by
 have h0:num (chr (c::t) 0) (chr (c::t) 1) (chr (c::t) 2)=true:=by
  have e1:chr (c::t) 1=chr t 0:=by simp[chr]
  have e2:chr (c::t) 2=chr t 1:=by simp[chr]
  rw[e1,e2];exact h
 have hok:=zx h0;have ht:=congrArg List.length (Hu (c::t));rw[List.length_append,Ag]at ht
 have hpos:0<(numP (c::t)).1.text.length:=by
  have:=hok.some;rcases Nat.eq_zero_or_pos (numP (c::t)).1.text.length with h2|h2
  ·exfalso
   have h3:=List.eq_nil_of_length_eq_zero h2;unfold Nm.text at h3;simp only[CP]at h3
   have h4:(numP (c::t)).1.fr=[]:=by
    have:=h3.1.1.2
    split at this
    ·assumption
    ·cases this
   exact this (by rw[h3.1.1.1.2,h4];rfl)
  ·exact h2
 unfold Qb;simp only
 split
 ·have:=JGw (numP (c::t)).2
  simp only;omega
 ·split
  ·simp
   omega
  ·simp only
   omega
theorem HV{s:List Int}(h:s≠[]):(QK s).2.length<s.length:=by
 obtain⟨c,t,rfl⟩:∃c t,s=c::t:=by
  cases s with
  |nil=>exact absurd rfl h
  |cons c t=>exact⟨c,t,rfl⟩
 have e0:chr (c::t) 0=c:=rfl;have e1:chr (c::t) 1=chr t 0:=by simp[chr]
 have e2:chr (c::t) 2=chr t 1:=by simp[chr]
 have e3:chr (c::t) 3=chr t 2:=by simp[chr]
 unfold QK;simp only[e0,e1,e2,e3,Ag,BV,AG]
 split
 ·rename_i hb
  have:(Kb (c::t)).length<=t.length:=by unfold Kb;rw[List.dropWhile_cons_of_pos hb];exact(B3 _).length_le
  simp only;omega
 ·split
  ·have:=zy c t.length t
   unfold txt;simp only;omega
  ·split
   ·simp
   ·split
    ·rename_i hn
     have:=JOL hn;omega
    ·split
     ·simp;omega
     ·split
      ·simp;omega
      ·split
       ·have:=JGw t
        simp only;omega
       ·split
        ·have:=JGw t
         simp only;omega
        ·split
         ·rename_i hb
          have:=JUZ hb;omega
         ·simp
end Go.Lift.Tok
end

section
open Go.Proofs
namespace Go.Lift.W1
variable[MX]
open Utf Tok Spell
def bs(l:List Int):ByteArray:=⟨(WN l).toArray⟩
theorem JZ(l:List Int):(bs l).size=l.length:=by simp[bs,DH,WN]
theorem Q3(l:List Int)(a b:Nat):(bs l).extract a b=bs ((l.take b).drop a):=by
 apply DR;simp only[bs,Ls];apply Array.toList_inj.1;rw[Array.toList_extract];simp only[List.extract,WN,List.toList_toArray,List.map_drop,List.map_take];rw[List.take_drop];rcases Nat.le_total a b with h|h
 ·rw[Nat.add_sub_cancel' h]
 ·rw[A4 (by simp;omega),A4 (by simp;omega)]
theorem bs_app(a b:List Int):bs a++bs b=bs (a++b):=by apply DR;simp[bs,WN]
theorem qK(l:List Int):(bs l).toList=WN l:=by simp[bs,ByteArray.toList_eq]
theorem By.take{l:List Int}(h:By l)(n:Nat):By (l.take n):=λc hc=>h c (CH hc)
theorem By.drop{l:List Int}(h:By l)(n:Nat):By (l.drop n):=λc hc=>h c (BH hc)
theorem Y0{l:List Int}(hy:By l):Kg (bs l)=ri .u8 l:=by
 unfold Kg bs WN ri;simp only[List.map_map];apply List.map_congr_left;intro c hc;have:=hy c hc;simp only[Function.comp]
 congr 4
 show((BE c.toNat).toNat:Int)=c
 simp only[BR];omega
end Go.Lift.W1
end

section
namespace Go.Lift.Tok
open Utf
structure Few(t:Tk):Prop where
 lo:1<=t.kind
 hi:t.kind<=24
 named:(t.kind=1\/t.kind=2\/t.kind=3\/t.kind=4\/t.kind=12\/t.kind=9)->t.text≠[]
 text:t.kind≠1->t.kind≠2->t.kind≠3->t.kind≠4->t.kind≠12->t.kind≠9->t.kind≠5->t.kind≠7->t.text=[]
 num:t.kind≠10->t.kind≠11->t.kind≠12->t.num=(0,0)/\t.whole=false
 id:t.id=true->t.kind=4
 den:0<=t.num.2
 zero:t.num.2=0->t.num.1=0
 one:t.whole=true->t.num.2<=1
theorem YU{k:Int}{t:List Int}(h1:1<=k)(h2:k<=24)(h3:(k=1\/k=2\/k=3\/k=4\/k=12\/k=9)->t≠[])
  (h4:k≠1->k≠2->k≠3->k≠4->k≠12->k≠9->k≠5->k≠7->t=[]):Few (tk k t):=
 ⟨h1,h2,h3,h4,λ_ _ _=>⟨rfl,rfl⟩,λh=>by simp[tk]at h,CZ _,λ_=>rfl,λh=>by simp[tk]at h⟩
theorem JUa{b:Bool}{x:Option (Int×Int)}(h:∀n d,x=some (n,d)->1<=d):0<=(turn b x).2/\((turn b x).2=0->(turn b x).1=0):=by
 cases x with
 |none=>exact⟨CZ 0,λ_=>rfl⟩
 |some p=>obtain⟨n,d⟩:=p;have:=h n d rfl;simp only[turn];exact⟨om,λh=>by omega⟩
theorem JBt{n p a d:Int}(h:Zl n p=some (a,d)):1<=d/\(0<=p->d=1):=by
 unfold Zl at h
 split at h
 ·cases h
 ·rename_i m hm
  split at h
  ·cases h
  ·cases hk:ZB 5 1844674407370955161 (Kh 5 (-p).toNat (Kh 2 (-p).toNat m).2).1 (2^ (Kh 2 (-p).toNat m).1)with
   |none=>rw[hk]at h;cases h
   |some z=>
    rw[hk]at h;simp only[A5,Ai,Prod.mk.injEq]at h;obtain⟨_,rfl⟩:=h;obtain⟨hz,_⟩:=yM om _ _ _ hk;refine⟨?_,λhp=>?_⟩
    ·rw[hz]
     have a1:(1:Int)<=2^ (Kh 2 (-p).toNat m).1:=Jm om _;have a2:(1:Int)<=5^ (Kh 5 (-p).toNat (Kh 2 (-p).toNat m).2).1:=Jm om _;exact L7 a1 (Q8 om a2)
    ·have e:(-p).toNat=0:=om
     rw[hz,e];rfl
theorem JUb(d:List Int):(core d).length<=d.length:=by
 unfold core;have h:(d.reverse.dropWhile (· ==48)).length<=d.reverse.length:=(B3 _).length_le
 simp at h⊢;exact h
theorem JRH(w:Wr):0<=(qG w).2/\((qG w).2=0->(qG w).1=0):=by
 unfold qG;simp only
 split
 ·exact⟨by decide,λh=>by simp at h⟩
 ·split
  ·exact⟨by decide,λ_=>rfl⟩
  ·exact JUa λn d h=>(JBt h).1
theorem JOM{w:Wr}(h1:w.exp=0)(h2:w.behind=0):(qG w).2<=1:=by
 unfold qG;simp only
 split
 ·decide
 ·split
  ·decide
  ·generalize hx:Zl (ZA 0 (core (w.digits.dropWhile λx=>x==48))) (w.exp-w.behind+(((w.digits.dropWhile λx=>x==48).length:Int)-((core (w.digits.dropWhile λx=>x==48)).length:Int)))=x
   cases x with
   |none=>show(0:Int)<=1;decide
   |some p=>
    obtain⟨n,d⟩:=p;have hc:=JUb (w.digits.dropWhile λx=>x==48)
    have:=(JBt hx).2 (by rw[h1,h2];omega)
    simp only[turn];omega
theorem z7{s:List Int}(h:(j8 (chr s 0)||Gi (chr s 0) (chr s 1))=true):(name s).1≠[]:=by
 cases s with
 |nil=>simp[chr,j8,Gi,JH5,Jn]at h
 |cons c t=>
  have e0:chr (c::t) 0=c:=by simp[chr]
  have e1:chr (c::t) 1=chr t 0:=by simp[chr]
  rw[e0,e1]at h;unfold name;simp only[Ag,KW]
  split
  ·simp
  ·rename_i h2
   rw[if_pos (by simpa[h2]using h)]
   simp
theorem JGy{k:Int}{t:List Int}{s:List Int}(hk:k=10\/k=11\/k=12/\t≠[])(ht:k≠12->t=[])(ok:(numP s).1.Ok):
  Few ⟨k,t,(numP s).1.num.1,(numP s).1.num.2,false⟩:=by
 have r:=JRH (numP s).1.wr
 have h12:k=12->t≠[]:=by
  rintro rfl
  rcases hk with h|h|h
  ·omega
  ·omega
  ·exact h.2
 refine⟨?_,?_,?_,?_,?_,?_,r.1,r.2,?_⟩
 ·simp only;omega
 ·simp only;omega
 ·intro h
  simp only at h⊢;exact h12 om
 ·intro _ _ _ _ h _ _ _
  exact ht h
 ·intro a b c
  simp only at a b c;omega
 ·intro h;simp at h
 ·intro h
  simp only[Nm.num,Nm.wr,Ah,List.isEmpty_iff]at h⊢;obtain⟨h1,h2⟩:=h;refine JOM ?_ ?_
  ·simp only
   rw[h2]
   have h3:(numP s).1.d3=[]:=by
    rcases ok.ex with h|⟨⟨e,_,h⟩,_⟩
    ·exact h.2
    ·rw[h2]at h
     rcases h with h|h|h<;>cases h
   rw[h3];rfl
  ·simp only
   rw[h1];rfl
theorem JLU{s:List Int}(h:num (chr s 0) (chr s 1) (chr s 2)=true):Few (Qb s).1:=by
 have ok:=zx h;unfold Qb;simp only
 split
 ·rename_i hb
  exact JGy (.inr (.inr ⟨rfl,z7 (z6 hb)⟩)) (λh=>absurd rfl h) ok
 ·split
  ·exact JGy (.inr (.inl rfl)) (λ_=>rfl) ok
  ·exact JGy (.inl rfl) (λ_=>rfl) ok
theorem JRJ(x:Bool×List Int×List Int):Few (Hz x):=by
 unfold Hz
 split
 ·exact YU (by decide) (by decide) (λh=>by omega) (λ_ _ _ _ _ _ _ h=>absurd rfl h)
 ·exact YU (by decide) (by decide) (λh=>by omega) (λ_ _ _ _ _ _ _ _=>rfl)
theorem JRK(x:Bool×List Int×List Int):Few (JCm x):=by
 unfold JCm
 split
 ·exact YU (by decide) (by decide) (λh=>by omega) (λ_ _ _ _ _ _ h _=>absurd rfl h)
 ·exact YU (by decide) (by decide) (λh=>by omega) (λ_ _ _ _ _ _ _ _=>rfl)
theorem JRL{s:List Int}(h:(name s).1≠[]):Few (HT s).1:=by
 have f1:Few (tk 1 (name s).1):=YU (by decide) (by decide) (λ_=>h) (λh=>absurd rfl h)
 have f2:Few (tk 2 (name s).1):=YU (by decide) (by decide) (λ_=>h) (λ_ h=>absurd rfl h)
 unfold HT;simp only
 split
 ·split
  ·have key:∀b:Bool,Few (if b=true then(tk 2 (name s).1,Qq ((name s).2.drop 1))else(Hz (yy (Qq ((name s).2.drop 1))),(yy (Qq ((name s).2.drop 1))).2.2)).1:=by
    intro b
    cases b with
    |true=>rw[if_pos rfl];exact f2
    |false=>rw[if_neg (by simp)];exact JRJ _
   exact key _
  ·exact f2
 ·exact f1
theorem JZQ{c:Int}(h:0<zJ c):16<=zJ c/\zJ c<=24:=by
 unfold zJ at*
 repeat (split at h)
 all_goals(try (split<;>first|omega|(simp_all;done)))
 all_goals simp_all
theorem JON{s:List Int}:Few (QK s).1:=by
 unfold QK;simp only
 split
 ·exact YU (by decide) (by decide) (λh=>by omega) (λ_ _ _ _ _ _ _ _=>rfl)
 ·split
  ·exact JRK _
  ·split
   ·rename_i hp
    have:=JZQ hp;exact YU om om (λh=>by omega) (λ_ _ _ _ _ _ _ _=>rfl)
   ·split
    ·rename_i hn
     exact JLU hn
    ·split
     ·exact YU (by decide) (by decide) (λh=>by omega) (λ_ _ _ _ _ _ _ _=>rfl)
     ·split
      ·exact YU (by decide) (by decide) (λh=>by omega) (λ_ _ _ _ _ _ _ _=>rfl)
      ·split
       ·rename_i hh
        have hne:(name (s.drop 1)).1≠[]:=z7 (by rw[YN,YN];exact hh.2)
        refine⟨by show(1:Int)<=4;decide,by show(4:Int)<=24;decide,λ_=>hne,λ_ _ _ h=>absurd rfl h,λ_ _ _=>⟨rfl,rfl⟩,λ_=>rfl,CZ _,λ_=>rfl,λh=>by simp at h⟩
       ·split
        ·rename_i hh
         have hne:(name (s.drop 1)).1≠[]:=z7 (z6 (e:=chr (s.drop 1) 2) (by rw[YN,YN,YN];exact hh.2))
         exact YU (by decide) (by decide) (λ_=>hne) (λ_ _ h=>absurd rfl h)
        ·split
         ·rename_i hb
          exact JRL (z7 (z6 hb))
         ·exact YU (by decide) (by decide) (λ_=>by simp) (λ_ _ _ _ _ h=>absurd rfl h)
theorem JDu:∀(n:Nat) (s:List Int),∀t∈toksN n s,Few t
 |0,s=>by simp[toksN]
 |n+1,s=>by
  intro t ht;simp only[toksN]at ht
  split at ht
  ·simp at ht
  ·rcases List.mem_cons.1 ht with rfl|ht
   ·exact JON
   ·exact JDu n _ t ht
theorem JRM(s:List Int):∀t∈qH s,Few t:=JDu _ _
end Go.Lift.Tok
end

section
open Go.Proofs
namespace Go.Lift.W1
variable[MX]
open Utf Tok Spell
section
variable{lo:Nat}{h:Heap}
theorem qL:∀{a b:List Int},By a->By b->WN a=WN b->a=b
 |[],[],_,_,_=>rfl
 |[],y::b,_,_,h=>by cases h
 |x::a,[],_,_,h=>by cases h
 |x::a,y::b,ha,hb,h=>by
  simp only[WN,List.map_cons,List.cons.injEq]at h;have hx:=ha x (by simp)
  have hy:=hb y (by simp)
  have e:x=y:=by have:=congrArg UInt8.toNat h.1;simp only[BR]at this;omega
  rw[e,qL (λc hc=>ha c (by simp[hc])) (λc hc=>hb c (by simp[hc])) h.2]
theorem JGz{a b:List Int}(ha:By a)(hb:By b):((bs a).toList==(bs b).toList)=(a==b):=by rw[qK,qK,Cu,beq_iff_eq,beq_iff_eq];exact⟨qL ha hb,λh=>by rw[h]⟩
variable[HasD][HasN]
end
end Go.Lift.W1
end

section
open Go.Proofs
namespace Go.Lift.W1
open Rul
open Utf (By)
variable[MX]
variable{lo:Nat}{h:Heap}
theorem WY{a b:List Int}(ha:By a)(hb:By b):((Rul.bs a).toList==(Rul.bs b).toList)=(a==b):=JGz ha hb
theorem JBu(l:List Int):(Rul.bs l).size=l.length:=JZ l
theorem JUc(b:List Int)(i j:Nat):(Rul.bs b).extract i j=Rul.bs ((b.take j).drop i):=Q3 b i j
theorem Y1{l:List Int}(h:By l):By (Js l):=λc hc=>by
 obtain⟨x,hx,rfl⟩:=List.mem_map.1 hc;have:=h x hx;unfold Hx
 split<;>omega
theorem yO{l:List Int}(h:l.all (λc=>decide (0<=c)&&decide (c<=255))=true):By l:=λc hc=>by have:=List.all_eq_true.1 h c hc;simpa using this
def jo:List Int:=[109,101,100,105,97]
def Wz:List Int:=[115,117,112,112,111,114,116,115]
def W2:List Int:=[99,111,110,116,97,105,110,101,114]
theorem JJc:By jo:=yO rfl
theorem zK:By Wz:=yO rfl
theorem qM:By W2:=yO rfl
theorem qN:By Kp:=yO rfl
theorem Gd:(⟨#[109,101,100,105,97]⟩:ByteArray)=Rul.bs jo:=rfl
theorem WK:(⟨#[115,117,112,112,111,114,116,115]⟩:ByteArray)=Rul.bs Wz:=rfl
theorem Qr:(⟨#[99,111,110,116,97,105,110,101,114]⟩:ByteArray)=Rul.bs W2:=rfl
theorem QA:(⟨#[105,109,112,111,114,116,97,110,116]⟩:ByteArray)=Rul.bs Kp:=rfl
theorem JG0:(⟨#[33]⟩:ByteArray)=Rul.bs [33]:=rfl
theorem JJd:(⟨#[45,45]⟩:ByteArray)=Rul.bs [45,45]:=rfl
theorem JMb:By [33]:=yO rfl
theorem JOO:By [45,45]:=yO rfl
theorem JBv(n:List Int):Q7 n=(n==jo||n==Wz||n==W2):=rfl
theorem r65{l:List Int}(hlo:lo<=h.length)(hl:l.length<=1000000000000)(hy:By l):E lo 65 [.v (.string (Rul.bs l))] h=some (.v (.string (Rul.bs (Js l))),h):=by have:=T.f65 (lo:=lo) (h:=h) hlo hl hy;rw[yL]at this;exact this
theorem r92{a b:List Int}(hlo:lo<=h.length)(ha:a.length<=1000000000000)(hya:By a)(hb:b.length<=1000000000000)(hyb:By b):E lo 92 [.v (.string (Rul.bs a)),.v (.string (Rul.bs b))] h=some (.v (.bool (Js a==Js b)),h):=by
 have:=T.f92 (lo:=lo) (h:=h) hlo ha hya hb hyb;unfold T.JUV at this;rw[yL,yL]at this
 have e:((WN (Js a))==(WN (Js b)))=(Js a==Js b):=by have:=WY (Y1 hya) (Y1 hyb);rw[<-this];simp only[Rul.bs,ByteArray.toList_eq]
 rw[e]at this;exact this
theorem f36{n:List Int}(hlo:lo<=h.length)(hl:n.length<=1000000000000)(hy:By n):E lo 36 [.v (.string (Rul.bs n))] h=some (.tup [.v (.string (Rul.bs (Js n))),.v (.bool (Q7 (Js n)))],h):=by
 have c65:=r65 (lo:=lo) (h:=h) hlo hl hy;have hs:=Y1 hy;have e1:=WY hs JJc;have e2:=WY hs zK;have e3:=WY hs qM;rw[JBv];rw[e36];generalize Js n=m at*
 cases h1:(m==jo)with
 |true=>
  rw[h1]at e1
  simp only[go_sem,b36,Tryz.f36,hlo,c65,Gd,WK,Qr,e1,e2,e3]<;>rfl
 |false=>
  rw[h1]at e1
  cases h2:(m==Wz)with
  |true=>
   rw[h2]at e2
   simp only[go_sem,b36,Tryz.f36,hlo,c65,Gd,WK,Qr,e1,e2,e3]<;>rfl
  |false=>rw[h2]at e2;simp only[go_sem,b36,Tryz.f36,hlo,c65,Gd,WK,Qr,e1,e2,e3]<;>rfl
theorem JfS{b:List Int}(hy:By b)(hl:b.length<=1000000000):E lo 101 [.v (.string (Rul.bs b)),.v (.string (Rul.bs [45,45]))] h=some (.v (.bool ([45,45].isPrefixOf b)),h):=by
 have s1:(Rul.bs [45,45]).size=2:=JBu [45,45];have n1:((2:Nat):Int)=2:=rfl;have sz:=JBu b;rw[JlW];by_cases h2:2<=b.length
 ·have q:decide ((2:Int)<=(b.length:Int))=true:=by rw[decide_eq_true_iff];omega
  have hb:=WY (a:=(b.take 2).drop 0) (b:=[45,45]) (λx hx=>hy x (CH (BH hx))) JOO
  have e:((b.take 2).drop 0==[45,45])=[45,45].isPrefixOf b:=by
   match b,h2 with
   |x::y::r,_=>simp[D5];rw[Cu];simp;constructor<;>(rintro⟨rfl,rfl⟩;exact⟨rfl,rfl⟩)
  rw[e,AG]at hb;simp only[go_sem,JYo,Tryz.f101,s1,n1,sz,q,h2,JUc,hb,A0]<;>rfl
 ·have q:decide ((2:Int)<=(b.length:Int))=false:=by rw[decide_eq_false_iff_not];omega
  have e:[45,45].isPrefixOf b=false:=by
   match b,h2 with
   |[],_=>rfl
   |[x],_=>simp[D5]
   |x::y::r,h2=>simp at h2
  rw[e];simp only[go_sem,JYo,Tryz.f101,s1,n1,sz,q,A0]<;>rfl
theorem JmX{b:List Int}(hy:By b)(hl:b.length<=1000000000):E lo 84 [.v (.string (Rul.bs b)),.v (.string (Rul.bs [45,45]))] h=some (.v (.bool ([45,45].isPrefixOf b)),h):=by
 have k:=λlo h=>JfS (lo:=lo) (h:=h) hy hl
 rw[e84];simp only[go_sem,b84,Tryz.f84,k]<;>rfl
end Go.Lift.W1
end

section
open Go.Proofs
namespace Go.Lift.W1
open Rul
variable[MX]
variable{lo:Nat}{h:Heap}
abbrev z8(l:List CV)(a b:Nat):Ja:=[(0,.list .no (JH l)),(3,.v (.int .i64 a)),(4,.v (.int .i64 b))]
theorem JRN{l:List CV}{v:CV}{a b:Nat}(hlo:lo<=h.length)(hl:l.length<=1000000000)(hg:l[a]? =some v)(hab:a<b):
  evCode ⟨Aa,E,lo,h.length,h38⟩ JA JBP (z8 l a b,h)=
   if Jd v=true then some (.normal,z8 l (a+1) b,h)else some (.exit 0,z8 l a b++[(16,.v (.bool false))],h):=by
 obtain⟨t,ks⟩:=v;have hlt:a<l.length:=(Ab.1 hg).1
 have q:decide ((a:Int)<(b:Int))=true:=by simpa using hab
 have hw:=JD (i:=a) om;have hgr:(JH l)[a]? =some (Qy (.mk t ks)):=by rw[KU,hg];rfl
 have c:=λlo hlo=>f67 (lo:=lo) (h:=h) hlo (.mk t ks)
 rw[Jq]at c hgr;have ca:=c lo hlo;have cb:=c h.length (Ac _);clear c
 cases hs:Jd (.mk t ks)with
 |true=>
  rw[hs]at ca cb;rw[if_pos rfl]
  simp only[z8,go_sem,JBP,b38,Tryz.f38,hlo,q,ca,cb,hgr,hw]<;>rfl
 |false=>
  rw[hs]at ca cb;rw[if_neg (by simp)]
  simp only[z8,go_sem,JBP,b38,Tryz.f38,hlo,q,ca,cb,hgr,hw]<;>rfl
theorem JUd{l:List CV}{b:Nat}(hlo:lo<=h.length):evCode ⟨Aa,E,lo,h.length,h38⟩ JA JBP (z8 l b b,h)=some (.exit 0,z8 l b b++[(16,.v (.bool false))],h):=by
 have q:decide ((b:Int)<(b:Int))=false:=by simp
 simp only[z8,go_sem,JBP,b38,Tryz.f38,hlo,q]<;>rfl
theorem JMc{l:List CV}(hlo:lo<=h.length)(hl:l.length<=1000000000):∀(m a:Nat),a+m=l.length->∃a',a<=a'/\a'<=l.length/\ltrim (l.drop a)=l.drop a'/\
   JA (evCode ⟨Aa,E,lo,h.length,h38⟩ JA JBP) (z8 l a l.length,h)=some (.exit 0,z8 l a' l.length++[(16,.v (.bool false))],h)
 |0,a,hm=>by
  obtain rfl:a=l.length:=om
  exact⟨l.length,Ac _,Ac _,by rw[Bw];rfl,by rw[JB,JUd hlo,KP]⟩
 |m+1,a,hm=>by
  have hlt:a<l.length:=om;have hd:l.drop a=l[a]::l.drop (a+1):=AE hlt;have hr:=JRN (h:=h) hlo hl (Ad hlt) hlt
  have he:ltrim (l.drop a)=if Jd l[a]=true then ltrim (l.drop (a+1))else l.drop a:=by rw[hd];unfold ltrim;rw[List.dropWhile_cons]
  rw[he,JB,hr]
  split
  ·rw[JK]
   obtain⟨a',h1,h2,h3,h4⟩:=JMc hlo hl m (a+1) om;exact⟨a',om,h2,h3,h4⟩
  ·exact⟨a,Ac _,om,rfl,by rw[KP]⟩
theorem JRO{l:List CV}{v:CV}{a b:Nat}{ex:Ja}(hex:ex=[]\/ex=[(16,.v (.bool false))])(hlo:lo<=h.length)(hl:l.length<=1000000000)(hg:l[b]? =some v)(hab:a<b+1):
  evCode ⟨Aa,E,lo,h.length,h38⟩ JA jD (z8 l a (b+1)++ex,h)=
   if Jd v=true then some (.normal,z8 l a b,h)else some (.exit 2,z8 l a (b+1)++[(29,.v (.bool false))],h):=by
 obtain⟨t,ks⟩:=v;have hlt:b<l.length:=(Ab.1 hg).1
 have q:decide ((a:Int)<((b+1:Nat):Int))=true:=by simp;omega
 have hw:Ak.wrap (((b+1:Nat):Int)-1)=(b:Int):=by rw[JL]<;>omega
 have hgr:(JH l)[b]? =some (Qy (.mk t ks)):=by rw[KU,hg];rfl
 have c:=λlo hlo=>f67 (lo:=lo) (h:=h) hlo (.mk t ks)
 rw[Jq]at c hgr;have ca:=c lo hlo;have cb:=c h.length (Ac _);clear c
 cases hs:Jd (.mk t ks)with
 |true=>
  rw[hs]at ca cb;rw[if_pos rfl];rcases hex with rfl|rfl
  ·simp only[z8,go_sem,jD,b38,Tryz.f38,hlo,q,ca,cb,hgr,hw]<;>rfl
  ·simp only[z8,go_sem,jD,b38,Tryz.f38,hlo,q,ca,cb,hgr,hw]<;>rfl
 |false=>
  rw[hs]at ca cb;rw[if_neg (by simp)]
  rcases hex with rfl|rfl
  ·simp only[z8,go_sem,jD,b38,Tryz.f38,hlo,q,ca,cb,hgr,hw]<;>rfl
  ·simp only[z8,go_sem,jD,b38,Tryz.f38,hlo,q,ca,cb,hgr,hw]<;>rfl
theorem JUe{l:List CV}{b:Nat}{ex:Ja}(hex:ex=[]\/ex=[(16,.v (.bool false))])(hlo:lo<=h.length):evCode ⟨Aa,E,lo,h.length,h38⟩ JA jD (z8 l b b++ex,h)=some (.exit 2,z8 l b b++[(29,.v (.bool false))],h):=by
 have q:decide ((b:Int)<(b:Int))=false:=by simp
 rcases hex with rfl|rfl
 ·simp only[z8,go_sem,jD,b38,Tryz.f38,hlo,q]<;>rfl
 ·simp only[z8,go_sem,jD,b38,Tryz.f38,hlo,q]<;>rfl
theorem JMd{l:List CV}{a:Nat}(hlo:lo<=h.length)(hl:l.length<=1000000000):∀(m b:Nat) (ex:Ja),a+m=b->b<=l.length->(ex=[]\/ex=[(16,.v (.bool false))])->∃b',a<=b'/\b'<=l.length/\K4 ((l.take b).drop a)=(l.take b').drop a/\
   JA (evCode ⟨Aa,E,lo,h.length,h38⟩ JA jD) (z8 l a b++ex,h)=some (.exit 2,z8 l a b'++[(29,.v (.bool false))],h)
 |0,b,ex,hm,hb,hex=>by
  obtain rfl:a=b:=om;have e0:(l.take a).drop a=[]:=A4 (by rw[AP];omega)
  exact⟨a,Ac _,hb,by rw[e0,JDZ],by rw[JB,JUe hex hlo,KP]⟩
 |m+1,b,ex,hm,hb,hex=>by
  obtain⟨c,rfl⟩:∃c,b=c+1:=⟨b-1,om⟩;have hlt:c<l.length:=om;have hr:=JRO (h:=h) (a:=a) hex hlo hl (Ad hlt) om
  have hd:(l.take (c+1)).drop a=(l.take c).drop a++[l[c]]:=by rw[B9 hlt,List.drop_append_of_le_length (by rw[AP];omega)]
  rw[hd,JBK,JB,hr]
  split
  ·rw[JK]
   obtain⟨b',h1,h2,h3,h4⟩:=JMd (a:=a) hlo hl m c [] om om (.inl rfl);rw[List.append_nil]at h4;exact⟨b',h1,h2,h3,h4⟩
  ·exact⟨c+1,om,hb,by rw[hd],by rw[KP]⟩
theorem f38{l:List CV}(hlo:lo<=h.length)(hl:l.length<=1000000000):E lo 38 [.list .no (JH l)] h=some (.list .no (JH (trim l)),h):=by
 obtain⟨a,a1,a2,a3,h1⟩:=JMc (lo:=lo) (h:=h) hlo hl l.length 0 om;obtain⟨b,b1,b2,b3,h2⟩:=JMd (lo:=lo) (h:=h) (a:=a) hlo hl (l.length-a) l.length _ om (Ac _) (.inr rfl);rw[Co,<-a3,AG,<-Ht]at b3;rw[b3];have n0:((0:Nat):Int)=0:=rfl;have q1:a<=b:=b1;have q2:b<=l.length:=b2;have hs:(JH l).drop a=JH (l.drop a):=Yv l a
 have ht:((JH l).take b).drop a=JH ((l.take b).drop a):=by rw[QX,Yv]
 rw[e38];simp only[JBP,jD,b38,Tryz.f38,JG,JT,JC,go_sem,z8,n0]at h1 h2;simp only[go_sem,b38,Tryz.f38,hlo,h1,h2,JU,J7,q1,q2,ht,n0]<;>rfl
abbrev N55(l out:List CV)(k:Int):Ja:=[(3,.list .yes (JH out)),(6,.list .no (JH l)),(7,.v (.int .i64 l.length)),(8,.v (.int .i64 k))]
theorem JOP(out:List CV)(t:Tk4)(ks:List CV):JH out++[[V.v (Value.int Ak t.k),V.v (Value.string (Rul.bs t.b)),V.v (Value.int Ak t.n),V.v (Value.int Ak t.d),V.v (Value.bool t.w),V.v (Value.bool t.i),V.list .no (JH ks)]]=JH (out++[.mk t ks]):=by
 rw[Wu,Kc,Jc,Jq]
theorem JUf{l out:List CV}{v:CV}{k:Nat}(hlo:lo<=h.length)(hl:JM l<=1000000000)(hg:l[k]? =some v)(ho:out.length<=1000000000)
  (ih:∀lo h,lo<=h.length->E lo 85 [.list .no (JH v.ks)] h=some (.list .no (JH v.ks),h)):
  evCode ⟨Aa,E,lo,h.length,h85⟩ JA JDj (N55 l out k,h)=some (.normal,N55 l (out++[v]) (k+1:Nat),h):=by
 obtain⟨t,ks⟩:=v;have hlt:k<l.length:=(Ab.1 hg).1
 have hgr:(JH l)[k]? =some (Qy (.mk t ks)):=by rw[KU,hg];rfl
 have q:decide ((k:Int)<(l.length:Int))=true:=by simp;omega
 have hll:=Jk l;have hw:=JD (i:=k) om;have hlo':lo<=h.length+1:=om;have c85:=λlo hlo=>ih lo (h++[.cells (Qy (.mk t ks))]) hlo
 rw[Jq]at*;have c85a:=c85 lo (by simp;omega);have c85b:=c85 (h.length+1) (by simp)
 clear c85 ih;have o1:=ky ho;have o2:=Hy ho;have ra:=J7 out;have rl:=JU out;have rb:=QG out;simp only[CV.ks]at c85a c85b;simp only[N55];rw[<-JOP];generalize JH out=R at*;simp only[N55,go_sem,JDj,b85,Tryz.f85,hlo,hlo',q,hgr,hw,c85a,c85b,o1,o2,ra,rl,rb,JU]<;>rfl
theorem JZR{l out:List CV}(hlo:lo<=h.length):evCode ⟨Aa,E,lo,h.length,h85⟩ JA JDj (N55 l out l.length,h)=
   some (.exit 0,N55 l out l.length++[(9,.v (.bool false))],h):=by
 have q:decide ((l.length:Int)<(l.length:Int))=false:=by simp
 simp only[N55,go_sem,JDj,b85,Tryz.f85,hlo,q]<;>rfl
theorem JRP{l:List CV}(hlo:lo<=h.length)(hl:JM l<=1000000000)
  (ih:∀v∈l,∀lo h,lo<=h.length->E lo 85 [.list .no (JH v.ks)] h=some (.list .no (JH v.ks),h)):
  ∀(m k:Nat),k+m=l.length->JA (evCode ⟨Aa,E,lo,h.length,h85⟩ JA JDj) (N55 l (l.take k) k,h)=some (.exit 0,N55 l l l.length++[(9,.v (.bool false))],h)
 |0,k,hk=>by
  obtain rfl:k=l.length:=om
  rw[Co,JB,JZR hlo,KP]
 |m+1,k,hk=>by
  have hlt:k<l.length:=om;have hll:=Jk l;have hr:=JUf (h:=h) (out:=l.take k) hlo hl (Ad hlt) (by rw[AP];omega) (ih _ (Bq hlt))
  rw[JB,hr,JK,<-B9 hlt];exact JRP hlo hl ih m (k+1) om
theorem f85:∀(n:Nat) (l:List CV),JM l<=n->n<=1000000000->∀(lo:Nat) (h:Heap),lo<=h.length->E lo 85 [.list .no (JH l)] h=some (.list .no (JH l),h)
 |n,l,hl,hn,lo,h,hlo=>by
  have hL:=JRP (lo:=lo) (h:=h) (l:=l) hlo om (λv hv lo' h' hlo'=>by
   have h1:=WJ hv;rw[Qh]at h1
   exact f85 (n-1) v.ks om om lo' h' hlo') l.length 0 om
  have n0:((0:Nat):Int)=0:=rfl;rw[List.take_zero]at hL;rw[e85];simp only[JDj,b85,Tryz.f85,JG,JT,JC,go_sem,N55,n0,Jc,Ae,Af]at hL;simp only[go_sem,b85,Tryz.f85,hlo,hL,JU,n0]<;>rfl
 termination_by n=>n
 decreasing_by
  have h1:=WJ hv;rw[Qh]at h1;omega
theorem Jy{l m:List CV}(h:m<:+l):JM m<=JM l:=by obtain⟨p,rfl⟩:=h;rw[Wv];omega
theorem QH{l m:List CV}(h:m<+:l):JM m<=JM l:=by obtain⟨p,rfl⟩:=h;rw[Wv];omega
theorem Y2:∀l:List CV,JM l.reverse=JM l
 |[]=>rfl
 |v::r=>by rw[List.reverse_cons,Wv,Y2 r,Jr,Jr,GU];omega
theorem Qs(l:List CV):JM (trim l)<=JM l:=by
 unfold trim;rw[Y2];refine A3 (Jy (AA _)) ?_
 rw[Y2];exact Jy (AA _)
abbrev N88(l:List CV)(n k:Int):Ja:=[(1,.v (.int .i64 n)),(7,.list .no (JH l)),(8,.v (.int .i64 l.length)),(9,.v (.int .i64 k))]
theorem JRQ(n:Nat)(t:Tk4)(ks:List CV):Ya n (.mk t ks)=(JN t.k !=0&&(match n with
  |0=>true
  |n+1=>Jf n ks)):=by cases n<;>rw[Ya]
theorem JLV(n:Nat)(v:CV)(r:List CV):Jf n (v::r)=(Ya n v||Jf n r):=by rw[Jf]
theorem JOQ(n:Nat):Jf n []=false:=by rw[Jf]
theorem JUg{l:List CV}{v:CV}{n k:Nat}(hn:n<=64)(hlo:lo<=h.length)(hl:JM l<=1000000000000000000)(hg:l[k]? =some v)
  (ih:∀m,n=m+1->∀lo ks h,lo<=h.length->JM ks<=1000000000000000000->E lo 66 [.list .no (JH ks),.v (.int .i64 (m:Int))] h=some (.v (.bool (Jf m ks)),h)):
  evCode ⟨Aa,E,lo,h.length,h66⟩ JA Z5 (N88 l n k,h)=
   if Ya n v=true then some (.ret,[(4,.v (.bool true))],h++[.cells (Qy v)])else some (.normal,N88 l n (k+1:Nat),h):=by
 obtain⟨t,ks⟩:=v;have hlt:k<l.length:=(Ab.1 hg).1
 have hgr:(JH l)[k]? =some (Qy (.mk t ks)):=by rw[KU,hg];rfl
 have q:decide ((k:Int)<(l.length:Int))=true:=by simp;omega
 have hll:=Jk l;have hkk:JM ks<=JM l:=jg (v:= .mk t ks) hg;have hw:=JD (i:=k) om;have hlo':lo<=h.length+1:=om;have c40:=λlo hlo=>f40 (lo:=lo) (h:=h++[.cells (Qy (.mk t ks))]) hlo t.k
 rw[Jq]at*;have c40a:=c40 lo (by simp;omega);have c40b:=c40 (h.length+1) (by simp)
 clear c40;rw[JRQ];by_cases hc:JN t.k=0
 ·have q3:(JN t.k !=0)=false:=by simpa using hc
  rw[q3,AZ,if_neg (by simp)]
  simp only[N88,go_sem,Z5,b66,Tryz.f66,hlo,hlo',q,hgr,q3,hw,c40a,c40b,JU]<;>rfl
 ·have q3:(JN t.k !=0)=true:=by simpa using hc
  rw[q3,AR]
  cases n with
  |zero=>
   have q5:(((0:Nat):Int)==0)=true:=rfl;rw[if_pos rfl]
   simp only[N88,go_sem,Z5,b66,Tryz.f66,hlo,hlo',q,hgr,q3,q5,hw,c40a,c40b,JU]<;>rfl
  |succ m=>
   have q5:(((m+1:Nat):Int)==0)=false:=by rw[beq_eq_false_iff_ne];omega
   have w2:Ak.wrap (((m+1:Nat):Int)-1)=(m:Int):=by rw[JL om om];omega
   have c66:=λlo hlo=>ih m rfl lo ks (h++[.cells (Qy (.mk t ks))]) hlo om
   rw[Jq]at c66;have c66a:=c66 lo (by simp;omega);have c66b:=c66 (h.length+1) (by simp)
   clear c66 ih;show _=if Jf m ks=true then _ else _
   cases hm:Jf m ks with
   |true=>
    rw[hm]at c66a c66b;rw[if_pos rfl]
    simp only[N88,go_sem,Z5,b66,Tryz.f66,hlo,hlo',q,hgr,q3,q5,hw,w2,c40a,c40b,c66a,c66b,JU]<;>rfl
   |false=>
    rw[hm]at c66a c66b;rw[if_neg (by simp)]
    simp only[N88,go_sem,Z5,b66,Tryz.f66,hlo,hlo',q,hgr,q3,q5,hw,w2,c40a,c40b,c66a,c66b,JU]<;>rfl
theorem JZS{l:List CV}{d:Int}(hlo:lo<=h.length):evCode ⟨Aa,E,lo,h.length,h66⟩ JA Z5 (N88 l d l.length,h)=
   some (.exit 0,N88 l d l.length++[(10,.v (.bool false))],h):=by
 have q:decide ((l.length:Int)<(l.length:Int))=false:=by simp
 simp only[N88,go_sem,Z5,b66,Tryz.f66,hlo,q]<;>rfl
theorem JRR{l:List CV}{n:Nat}(hn:n<=64)(hlo:lo<=h.length)(hl:JM l<=1000000000000000000)
  (ih:∀m,n=m+1->∀lo ks h,lo<=h.length->JM ks<=1000000000000000000->E lo 66 [.list .no (JH ks),.v (.int .i64 (m:Int))] h=some (.v (.bool (Jf m ks)),h)):
  ∀(m k:Nat),k+m=l.length->if Jf n (l.drop k)=true then
    ∃X,JA (evCode ⟨Aa,E,lo,h.length,h66⟩ JA Z5) (N88 l n k,h)=some (.ret,[(4,.v (.bool true))],h++X)
   else JA (evCode ⟨Aa,E,lo,h.length,h66⟩ JA Z5) (N88 l n k,h)=some (.exit 0,N88 l n l.length++[(10,.v (.bool false))],h):=by
 intro m
 induction m with
 |zero=>
  intro k hk;obtain rfl:k=l.length:=om
  rw[Bw,JOQ,if_neg (by simp),JB,JZS hlo,KP]
 |succ m ihm=>
  intro k hk;have hlt:k<l.length:=om;have hg:l[k]? =some l[k]:=Ad hlt
  have hd:l.drop k=l[k]::l.drop (k+1):=AE hlt;rw[hd,JLV];generalize l[k]=v at*;have hr:=JUg hn hlo hl hg ih
  cases hm:Ya n v with
  |true=>
   rw[hm,if_pos rfl]at hr;rw[Bool.true_or,if_pos rfl]
   exact⟨_,by rw[JB,hr,Wo]⟩
  |false=>
   rw[hm,if_neg (by simp)]at hr
   rw[Bool.false_or,JB,hr,JK];exact ihm (k+1) om
theorem f66:∀(n:Nat),n<=64->∀(lo:Nat) (l:List CV) (h:Heap),lo<=h.length->JM l<=1000000000000000000->E lo 66 [.list .no (JH l),.v (.int .i64 (n:Int))] h=some (.v (.bool (Jf n l)),h):=by
 intro n
 induction n with
 |zero=>
  intro hn lo l h hlo hl;have hL:=JRR (lo:=lo) (h:=h) hn hlo hl (λm hm=>by omega) l.length 0 om
  have n0:((0:Nat):Int)=0:=rfl;rw[AG]at hL;rw[e66]
  cases hm:Jf 0 l with
  |false=>
   rw[hm,if_neg (by simp)]at hL
   simp only[Z5,b66,Tryz.f66,JG,JT,JC,go_sem,N88,n0,Ae,Af]at hL
   simp only[go_sem,b66,Tryz.f66,hlo,hL,JU,n0]<;>rfl
  |true=>
   rw[hm,if_pos rfl]at hL;obtain⟨X,hL⟩:=hL;simp only[Z5,b66,Tryz.f66,JG,JT,JC,go_sem,N88,n0,Ae,Af]at hL
   simp only[go_sem,b66,Tryz.f66,hlo,hL,JU,n0]<;>rfl
 |succ n ih=>
  intro hn lo l h hlo hl
  have hL:=JRR (lo:=lo) (h:=h) hn hlo hl (λm hm=>by
   obtain rfl:n=m:=om
   exact λlo ks h hlo hk=>ih om lo ks h hlo hk) l.length 0 om
  have n0:((0:Nat):Int)=0:=rfl;rw[AG]at hL;rw[e66]
  cases hm:Jf (n+1) l with
  |false=>
   rw[hm,if_neg (by simp)]at hL
   simp only[Z5,b66,Tryz.f66,JG,JT,JC,go_sem,N88,n0,Ae,Af]at hL
   simp only[go_sem,b66,Tryz.f66,hlo,hL,JU,n0]<;>rfl
  |true=>rw[hm,if_pos rfl]at hL;obtain⟨X,hL⟩:=hL;simp only[Z5,b66,Tryz.f66,JG,JT,JC,go_sem,N88,n0,Ae,Af]at hL;simp only[go_sem,b66,Tryz.f66,hlo,hL,JU,n0]<;>rfl
theorem f37{l:List CV}(hlo:lo<=h.length)(hl:JM l<=1000000000000000000):E lo 37 [.list .no (JH l)] h=some (.v (.bool (Jf 64 l)),h):=by have c66:=f66 64 (Ac _) lo l h hlo hl;have e26:((64:Nat):Int)=64:=rfl;rw[e26]at c66;rw[e37];simp only[go_sem,b37,Tryz.f37,hlo,c66]<;>rfl
abbrev N68(l:List CV)(i:Nat)(a b:Int):Ja:=[(0,.list .no (JH l)),(1,.v (.int .i64 i)),(2,.v (.int .i64 a)),(3,.v (.int .i64 b))]
theorem JUh{l:List CV}{v:CV}{i:Nat}{a b:Int}(hlo:lo<=h.length)(hl:l.length<=1000000000)(hg:l[i]? =some v):
  evCode ⟨Aa,E,lo,h.length,h35⟩ JA y9 (N68 l i a b,h)=
   if KA a b v=true then some (.normal,N68 l (i+1) a b,h)else some (.exit 0,N68 l i a b++[(32,.v (.bool false))],h):=by
 obtain⟨t,ks⟩:=v;have hlt:i<l.length:=(Ab.1 hg).1
 have hgr:(JH l)[i]? =some (Qy (.mk t ks)):=by rw[KU,hg];rfl
 have q:decide ((i:Int)<(l.length:Int))=true:=by simp;omega
 have hw:=JD (i:=i) om;rw[Jq]at hgr;have hn:KA a b (.mk t ks)=(t.k !=a&&t.k !=b):=rfl;rw[hn]
 cases ha:(t.k !=a)with
 |false=>
  rw[AZ,if_neg (by simp)]
  simp only[N68,go_sem,y9,b35,Tryz.f35,hlo,q,hgr,hw,ha,JU]<;>rfl
 |true=>
  rw[AR]
  cases hb:(t.k !=b)with
  |false=>
   rw[if_neg (by simp)]
   simp only[N68,go_sem,y9,b35,Tryz.f35,hlo,q,hgr,hw,ha,hb,JU]<;>rfl
  |true=>rw[if_pos rfl];simp only[N68,go_sem,y9,b35,Tryz.f35,hlo,q,hgr,hw,ha,hb,JU]<;>rfl
theorem JZT{l:List CV}{a b:Int}(hlo:lo<=h.length):evCode ⟨Aa,E,lo,h.length,h35⟩ JA y9 (N68 l l.length a b,h)=some (.exit 0,N68 l l.length a b++[(32,.v (.bool false))],h):=by
 have q:decide ((l.length:Int)<(l.length:Int))=false:=by simp
 simp only[N68,go_sem,y9,b35,Tryz.f35,hlo,q,JU]<;>rfl
theorem JRS{l:List CV}{a b:Int}(hlo:lo<=h.length)(hl:l.length<=1000000000):∀(m i:Nat),i+m=l.length->
  JA (evCode ⟨Aa,E,lo,h.length,h35⟩ JA y9) (N68 l i a b,h)=some (.exit 0,N68 l (i+((l.drop i).takeWhile (KA a b)).length) a b++[(32,.v (.bool false))],h)
 |0,i,hm=>by
  obtain rfl:i=l.length:=om
  rw[Bw,List.takeWhile_nil,Am,Bl,JB,JZT hlo,KP]
 |m+1,i,hm=>by
  have hlt:i<l.length:=om;have hd:l.drop i=l[i]::l.drop (i+1):=AE hlt;have hr:=JUh (h:=h) (a:=a) (b:=b) hlo hl (Ad hlt)
  rw[hd,List.takeWhile_cons,JB,hr]
  split
  ·have e:i+1+((l.drop (i+1)).takeWhile (KA a b)).length=i+(((l.drop (i+1)).takeWhile (KA a b)).length+1):=om
   rw[JK,JRS hlo hl m (i+1) om,Ag,e]
  ·rw[KP,Am,Bl]
theorem f35{l:List CV}{i:Nat}{a b:Int}(hlo:lo<=h.length)(hl:l.length<=1000000000)(hi:i<=l.length):E lo 35 [.list .no (JH l),.v (.int .i64 i),.v (.int .i64 a),.v (.int .i64 b)] h=some (.v (.int .i64 ((i+((l.drop i).takeWhile (KA a b)).length:Nat):Int)),h):=by
 have hL:=JRS (lo:=lo) (h:=h) (a:=a) (b:=b) hlo hl (l.length-i) i om;rw[e35];simp only[y9,b35,Tryz.f35,JG,JT,JC,go_sem,N68,Ae,Af]at hL;simp only[go_sem,b35,Tryz.f35,hlo,hL]<;>rfl
end Go.Lift.W1
end

section
open Go.Proofs
namespace Go.Lift.W1
open Rul
open Utf (By)
variable[MX]
variable{lo:Nat}{h:Heap}
def Hv:Nat->Code->Code
 |0,c=>c
 |n+1,.seq _ b=>Hv n b
 |_,c=>c
def lft:Code->Code
 | .seq a _=>a
 |c=>c
def zd:Dc:=⟨[],[],false⟩
def dcR:Option Dc->V
 |some d=> .tup [.agg (J1 d),.v (.bool true)]
 |none=> .tup [.agg (J1 zd),.v (.bool false)]
def jM(t:Tk4):Prop:=By t.b/\t.b.length<=1000000000
theorem JDv{b:List Int}{i:Nat}{c:Int}(hy:By b)(h:b[i]? =some c):((Rul.bs b).data[i]?).map (λx:UInt8=>V.v (.int .u8 x.toNat))=some (.v (.int .u8 c)):=by
 have hc:=hy c (Ap h);have e:(Rul.bs b).data[i]? =some (BE c.toNat):=by simp[Rul.bs,WN,h]
 rw[e];simp only[A5]
 have:((BE c.toNat).toNat:Int)=c:=by rw[BR];omega
 rw[this]
theorem JZU{n:List Int}{i:Bool}{R:List (List V)}{ex:Ja}(hlo:lo<=h.length)(hy:By n)(hl:n.length<=1000000000):
  evCode ⟨Aa,E,lo,h.length,h68⟩ JA (Hv 9 zC) ((2,.ptr h.length 0)::(4,.ptr (h.length+1) 0)::ex,h++[.cells [.v (.string A6),.list .yes [],.v (.bool false)],.cells [.v (.string (Rul.bs n)),.list .no R,.v (.bool i)]])=
   some (.ret,[(2,.ptr h.length 0),(3,.v (.bool true))],h++[.cells [.v (.string (Rul.bs (nameOf n))),.list .no R,.v (.bool i)],.cells [.v (.string (Rul.bs (nameOf n))),.list .no R,.v (.bool i)]]):=by
 have l1:lo<=h.length+1:=om;have c87:=λX=>r65 (lo:=lo) (h:=h++[.cells [.v (.string A6),.list .yes [],.v (.bool false)],.cells X]) (by simp;omega) om hy
 have sz:=JBu n
 match n,hl,hy,c87,sz with
 |[],hl,hy,c87,sz=>
  have q:decide (((0:Nat):Int)<2)=true:=rfl;have en:nameOf []=Js []:=rfl;rw[en];simp only[Am]at sz
  simp only[go_sem,Hv,zC,Tryz.f68,hlo,l1,sz,q,c87]<;>rfl
 |[a],hl,hy,c87,sz=>
  have q:decide (((1:Nat):Int)<2)=true:=rfl;have en:nameOf [a]=Js [a]:=by simp[nameOf,D5]
  rw[en];simp only[Ag,Am,AB]at sz
  simp only[go_sem,Hv,zC,Tryz.f68,hlo,l1,sz,q,c87]<;>rfl
 |a::b::r,hl,hy,c87,sz=>
  have q:decide (((r.length+1+1:Nat):Int)<2)=false:=by rw[decide_eq_false_iff_not];omega
  have i0:=JDv (b:=a::b::r) (i:=0) (c:=a) hy rfl;have i1:=JDv (b:=a::b::r) (i:=1) (c:=b) hy rfl;simp only[Ag]at sz
  have en:nameOf (a::b::r)=if a=45/\b=45 then a::b::r else Js (a::b::r):=by
   have ep:[45,45].isPrefixOf (a::b::r)=((45==a)&&(45==b)):=by simp[D5]
   unfold nameOf;rw[ep];by_cases h1:45=a
   ·by_cases h2:45=b
    ·subst h1 h2;rfl
    ·have e2:((45:Int)==b)=false:=by simpa using h2
     rw[e2,BZ,if_neg (by simp),if_neg (λhh=>h2 hh.2.symm)]
   ·have e1:((45:Int)==a)=false:=by simpa using h1
    rw[e1,AZ,if_neg (by simp),if_neg (λhh=>h1 hh.1.symm)]
  rw[en];generalize a::b::r=N at*
  cases h1:(a !=45)with
  |true=>
   rw[if_neg (by intro hh;simp[hh.1]at h1)]
   simp only[go_sem,Hv,zC,Tryz.f68,hlo,l1,sz,q,i0,h1,c87]<;>rfl
  |false=>
   cases h2:(b !=45)with
   |true=>
    rw[if_neg (by intro hh;simp[hh.2]at h2)]
    simp only[go_sem,Hv,zC,Tryz.f68,hlo,l1,sz,q,i0,i1,h1,h2,c87]<;>rfl
   |false=>
    rw[if_pos (by simp at h1 h2;exact⟨h1,h2⟩)]
    simp only[go_sem,Hv,zC,Tryz.f68,hlo,l1,sz,q,i0,i1,h1,h2,c87]<;>rfl
end Go.Lift.W1
end

section
open Go.Proofs
namespace Go.Lift.W1
variable[MX]
open Utf Tok Spell
variable{lo:Nat}{h:Heap}
def eqT(a b:Rul.Tk4):Bool:=a.k==b.k&&(a.b==b.b&&(a.n==b.n&&(a.d==b.d&&(a.w==b.w&&a.i==b.i))))
mutual
def eqV:Rul.CV->Rul.CV->Bool
 | .mk t ks,.mk u ls=>eqT t u&&eqL ks ls
def eqL:List Rul.CV->List Rul.CV->Bool
 |[],[]=>true
 |v::r,u::q=>eqV v u&&eqL r q
 |_,_=>false
end
def eqD(a b:Rul.Dc):Bool:=a.name==b.name&&(a.imp==b.imp&&eqL a.val b.val)
def jp:List Rul.Dc->List Rul.Dc->Bool
 |[],[]=>true
 |v::r,u::q=>eqD v u&&jp r q
 |_,_=>false
mutual
def eqR:Rul.Ru->Rul.Ru->Bool
 | .mk k n p ds rs,.mk k' n' p' ds' rs'=>k==k'&&(n==n'&&(eqL p p'&&(jp ds ds'&&HW rs rs')))
def HW:List Rul.Ru->List Rul.Ru->Bool
 |[],[]=>true
 |v::r,u::q=>eqR v u&&HW r q
 |_,_=>false
end
theorem eqL_nil:eqL [] []=true:=by rw[eqL]
theorem JBx{v u:Rul.CV}{r q:List Rul.CV}:eqL (v::r) (u::q)=(eqV v u&&eqL r q):=by rw[eqL]
theorem Ho:∀{a b:List Rul.CV},a.length≠b.length->eqL a b=false
 |[],[],h=>absurd rfl h
 |v::r,u::q,h=>by rw[JBx,Ho (a:=r) (b:=q) (by simpa using h),BZ]
 |[],u::q,_=>by simp[eqL]
 |v::r,[],_=>by simp[eqL]
theorem JJe:jp [] []=true:=by rw[jp]
theorem yP{v u:Rul.Dc}{r q:List Rul.Dc}:jp (v::r) (u::q)=(eqD v u&&jp r q):=by rw[jp]
theorem JJf:∀{a b:List Rul.Dc},a.length≠b.length->jp a b=false
 |[],[],h=>absurd rfl h
 |v::r,u::q,h=>by rw[yP,JJf (a:=r) (b:=q) (by simpa using h),BZ]
 |[],u::q,_=>by simp[jp]
 |v::r,[],_=>by simp[jp]
theorem qO:HW [] []=true:=by rw[HW]
theorem yQ{v u:Rul.Ru}{r q:List Rul.Ru}:HW (v::r) (u::q)=(eqR v u&&HW r q):=by rw[HW]
theorem JBy:∀{a b:List Rul.Ru},a.length≠b.length->HW a b=false
 |[],[],h=>absurd rfl h
 |v::r,u::q,h=>by rw[yQ,JBy (a:=r) (b:=q) (by simpa using h),BZ]
 |[],u::q,_=>by simp[HW]
 |v::r,[],_=>by simp[HW]
theorem JRT(t:Rul.Tk4):eqT t t=true:=by simp[eqT]
mutual
theorem JRU:∀v:Rul.CV,eqV v v=true
 | .mk t ks=>by rw[eqV,JRT,qP ks];rfl
theorem qP:∀l:List Rul.CV,eqL l l=true
 |[]=>eqL_nil
 |v::r=>by rw[JBx,JRU v,qP r];rfl
end
theorem JDw:∀l:List Rul.Dc,jp l l=true
 |[]=>JJe
 |d::r=>by rw[yP,JDw r];simp[eqD,qP]
mutual
theorem JRV:∀v:Rul.Ru,eqR v v=true
 | .mk k n p ds rs=>by rw[eqR,qP,JDw,Hw rs];simp
theorem Hw:∀l:List Rul.Ru,HW l l=true
 |[]=>qO
 |v::r=>by rw[yQ,JRV v,Hw r];rfl
end
theorem JLW:qj Aa 51=some [1,2,1,1,0,0]:=kr
theorem JUi{a b:Rul.Tk4}(ha:By a.b)(hb:By b.b):eqCells [1,2,1,1,0,0] [.v (.int .i64 a.k),.v (.string (bs a.b)),.v (.int .i64 a.n),.v (.int .i64 a.d),.v (.bool a.w),.v (.bool a.i)] [.v (.int .i64 b.k),.v (.string (bs b.b)),.v (.int .i64 b.n),.v (.int .i64 b.d),.v (.bool b.w),.v (.bool b.i)]=some (eqT a b):=by
 have e:=JGz ha hb;simp[eqCells,eqS,eqT,e]
mutual
def ByV:Rul.CV->Prop
 | .mk t ks=>By t.b/\ByL ks
def ByL:List Rul.CV->Prop
 |[]=>True
 |v::r=>ByV v/\ByL r
end
theorem JBz{v:Rul.CV}{r:List Rul.CV}:ByL (v::r)↔ByV v/\ByL r:=by rw[ByL]
theorem JLX{t:Rul.Tk4}{ks:List Rul.CV}:ByV (.mk t ks)↔By t.b/\ByL ks:=by rw[ByV]
theorem JAA:∀{l:List Rul.CV} {k:Nat} {v:Rul.CV},ByL l->l[k]? =some v->ByV v
 |[],k,v,_,h=>by simp at h
 |x::l,0,v,hb,h=>by
  simp at h;subst h
  exact(JBz.1 hb).1
 |x::l,k+1,v,hb,h=>JAA (JBz.1 hb).2 (by simpa using h)
theorem JDy{l:List Rul.CV}{v:Rul.CV}{k:Nat}{n:Nat}(h:l[k]? =some v)(hn:Rul.JM l<=n+1):Rul.JM v.ks<=n:=by have:=Rul.WJ (Ap h);rw[Rul.Qh]at this;omega
theorem JRW{l:List Rul.CV}{v:Rul.CV}{k:Nat}(hb:ByL l)(h:l[k]? =some v):ByL v.ks:=by have:=JAA hb h;cases v;exact(JLX.1 this).2
abbrev JCn(l u:List Rul.CV)(k:Int):Ja:=[(0,.list .no (Rul.JH l)),(1,.list .no (Rul.JH u)),(12,.v (.int .i64 l.length)),(13,.v (.int .i64 k))]
theorem JmY{l u:List Rul.CV}{v y:Rul.CV}{k:Nat}(hlo:lo<=h.length)(hl:l.length<=1000000000)(hg:l[k]? =some v)(hu:u[k]? =some y)(hb:ByV v)(hc:ByV y)
  (ih:∀lo h,lo<=h.length->E lo 13 [.list .no (Rul.JH v.ks),.list .no (Rul.JH y.ks)] h=some (.v (.bool (eqL v.ks y.ks)),h)):
  evCode ⟨Aa,E,lo,h.length,h13⟩ JA HL (JCn l u k,h)=if eqV v y=true then some (.normal,JCn l u (k+1:Nat),h)else some (.ret,[(4,.v (.bool false))],h):=by
 have hlt:k<l.length:=(Ab.1 hg).1
 have hgr:(Rul.JH l)[k]? =some (Rul.Qy v):=by rw[Rul.KU,hg];rfl
 have hur:(Rul.JH u)[k]? =some (Rul.Qy y):=by rw[Rul.KU,hu];rfl
 rw[Rul.JBL]at hgr hur;have q:decide ((k:Int)<(l.length:Int))=true:=by simp;omega
 have hw:=JD (i:=k) om;obtain⟨t,ks⟩:=v;obtain⟨t',ks'⟩:=y;rw[JLX]at hb hc;have ct:=JUi hb.1 hc.1;have iha:=ih lo h hlo;have ihb:=ih h.length h (Ac _);rw[eqV];show _=if(eqT t t'&&eqL ks ks')=true then _ else _
 change E lo 13 [.list .no (Rul.JH ks),.list .no (Rul.JH ks')] h=some (.v (.bool (eqL ks ks')),h)at iha
 change E h.length 13 [.list .no (Rul.JH ks),.list .no (Rul.JH ks')] h=some (.v (.bool (eqL ks ks')),h)at ihb
 change (Rul.JH l)[k]? =some [.v (.int .i64 t.k),.v (.string (bs t.b)),.v (.int .i64 t.n),.v (.int .i64 t.d),.v (.bool t.w),.v (.bool t.i),.list .no (Rul.JH ks)]at hgr
 change (Rul.JH u)[k]? =some [.v (.int .i64 t'.k),.v (.string (bs t'.b)),.v (.int .i64 t'.n),.v (.int .i64 t'.d),.v (.bool t'.w),.v (.bool t'.i),.list .no (Rul.JH ks')]at hur
 cases he:eqT t t' with
 |false=>
  rw[he]at ct;rw[AZ,if_neg (by simp)]
  simp only[go_sem,HL,b13,Tryz.f13,hlo,q,hgr,hur,hw,JLW,ct,Rul.JU]<;>rfl
 |true=>
  rw[he]at ct;rw[AR]
  cases hk:eqL ks ks' with
  |false=>
   rw[hk]at iha ihb;rw[if_neg (by simp)]
   simp only[go_sem,HL,b13,Tryz.f13,hlo,q,hgr,hur,hw,JLW,ct,iha,ihb,Rul.JU]<;>rfl
  |true=>rw[hk]at iha ihb;rw[if_pos rfl];simp only[go_sem,HL,b13,Tryz.f13,hlo,q,hgr,hur,hw,JLW,ct,iha,ihb,Rul.JU]<;>rfl
theorem JmZ{l u:List Rul.CV}(hlo:lo<=h.length):evCode ⟨Aa,E,lo,h.length,h13⟩ JA HL (JCn l u l.length,h)=
   some (.exit 0,JCn l u l.length++[(14,.v (.bool false))],h):=by
 have q:decide ((l.length:Int)<(l.length:Int))=false:=by simp
 simp only[go_sem,HL,b13,Tryz.f13,hlo,q]<;>rfl
theorem JfT{l u:List Rul.CV}(hlo:lo<=h.length)(hl:l.length<=1000000000)(hlu:l.length=u.length)(hb:ByL l)(hc:ByL u)
  (ih:∀(k:Nat) v y,l[k]? =some v->u[k]? =some y->∀lo h,lo<=h.length->E lo 13 [.list .no (Rul.JH v.ks),.list .no (Rul.JH y.ks)] h=some (.v (.bool (eqL v.ks y.ks)),h)):∀(m k:Nat),k+m=l.length->
  if eqL (l.drop k) (u.drop k)=true then
   JA (evCode ⟨Aa,E,lo,h.length,h13⟩ JA HL) (JCn l u k,h)=some (.exit 0,JCn l u l.length++[(14,.v (.bool false))],h)
  else JA (evCode ⟨Aa,E,lo,h.length,h13⟩ JA HL) (JCn l u k,h)=some (.ret,[(4,.v (.bool false))],h):=by
 intro m
 induction m with
 |zero=>
  intro k hk;obtain rfl:k=l.length:=om;have e:u.drop l.length=[]:=A4 om
  rw[Bw,e,if_pos eqL_nil,JB,JmZ hlo,KP]
 |succ m ihm=>
  intro k hk;have hlt:k<l.length:=om;have hg:l[k]? =some l[k]:=Ad hlt
  have hu:u[k]? =some (u[k]'om):=Ad om
  have hr:=JmY (lo:=lo) (h:=h) hlo hl hg hu (JAA hb hg) (JAA hc hu) (ih k _ _ hg hu);rw[AE hlt,AE (show k<u.length by omega),JBx]
  cases hm:eqV l[k] (u[k]'om)with
  |false=>
   rw[hm,if_neg (by simp)]at hr
   rw[AZ,if_neg (by simp),JB,hr,Wo]
  |true=>rw[hm,if_pos rfl]at hr;rw[AR,JB,hr,JK];exact ihm (k+1) om
theorem f13:∀(n:Nat) (l u:List Rul.CV) (lo:Nat) (h:Heap),Rul.JM l<=n->n<=100000000->Rul.JM u<=100000000->ByL l->ByL u->lo<=h.length->
  E lo 13 [.list .no (Rul.JH l),.list .no (Rul.JH u)] h=some (.v (.bool (eqL l u)),h):=by
 intro n
 induction n with
 |zero=>
  intro l u lo h hn hN hu hb hc hlo
  have hz:l=[]:=by
   cases l with
   |nil=>rfl
   |cons v r=>rw[Rul.Jr,Rul.Qh]at hn;omega
  subst hz;have hlu:=Rul.Jk u;have n0:((0:Nat):Int)=0:=rfl;rw[e13]
  cases u with
  |nil=>
   have hL:=JfT (lo:=lo) (h:=h) (l:=[]) (u:=[]) hlo (by simp) rfl hb hc (λk v y hv=>by simp at hv) 0 0 rfl
   rw[AG,if_pos eqL_nil]at hL;rw[eqL_nil];simp only[HL,b13,Tryz.f13,JG,JT,JC,go_sem,JCn,n0,Ae,Af,Am]at hL;have q:((0:Int) !=0)=false:=rfl
   simp only[go_sem,b13,Tryz.f13,hlo,hL,Rul.JU,n0,Am,q,Int.reduceBNe]<;>rfl
  |cons y r=>
   rw[Ho (by simp)]
   have q:((0:Int) !=((r.length+1:Nat):Int))=true:=by simp;omega
   simp only[go_sem,b13,Tryz.f13,hlo,Rul.JU,n0,Am,q]<;>rfl
 |succ n ihn=>
  intro l u lo h hn hN hu hb hc hlo;have hll:=Rul.Jk l;have hlu:=Rul.Jk u;have n0:((0:Nat):Int)=0:=rfl;rw[e13];by_cases hq:l.length=u.length
  ·have q:((l.length:Int) !=(u.length:Int))=false:=by simp[hq]
   have hL:=JfT (lo:=lo) (h:=h) (l:=l) (u:=u) hlo om hq hb hc (λk v y hv hy lo h hlo=>by
    have h1:=JDy hv hn;have h2:=JDy (n:=100000000) hy om
    exact ihn v.ks y.ks lo h h1 om h2 (JRW hb hv) (JRW hc hy) hlo) l.length 0 om
   rw[AG,AG]at hL
   cases hm:eqL l u with
   |false=>
    rw[hm,if_neg (by simp)]at hL
    simp only[HL,b13,Tryz.f13,JG,JT,JC,go_sem,JCn,n0]at hL
    simp only[go_sem,b13,Tryz.f13,hlo,hL,Rul.JU,n0,q]<;>rfl
   |true=>rw[hm,if_pos rfl]at hL;simp only[HL,b13,Tryz.f13,JG,JT,JC,go_sem,JCn,n0,Ae,Af]at hL;simp only[go_sem,b13,Tryz.f13,hlo,hL,Rul.JU,n0,q]<;>rfl
  ·have q:((l.length:Int) !=(u.length:Int))=true:=by simp;omega
   rw[Ho hq];simp only[go_sem,b13,Tryz.f13,hlo,Rul.JU,n0,q]<;>rfl
def jN:Code->List (Nat×Array Oper)
 | .region id ops _=>[(id,ops)]
 | .seq a b=>jN a++jN b
 | .cond _ a b=>jN a++jN b
 | .block _ a=>jN a
 | .loop a=>jN a
 | .scope a=>jN a
 |_=>[]
def JLY(c:Code)(id:Nat):Array Oper:=((jN c).lookup id).getD #[]
theorem JRX(d:Rul.Dc):Rul.J1 d=[.v (.string (bs d.name)),.list .no (Rul.JH d.val),.v (.bool d.imp)]:=rfl
structure OkE(d:Rul.Dc):Prop where
 hy:By d.name
 hv:ByL d.val
 hn:Rul.JM d.val<=100000000
abbrev JG1(l u:List Rul.Dc)(k:Int):Ja:=[(0,.list .no (l.map Rul.J1)),(1,.list .no (u.map Rul.J1)),(12,.v (.int .i64 l.length)),(13,.v (.int .i64 k))]
theorem Jma{l u:List Rul.Dc}{v y:Rul.Dc}{k:Nat}(hlo:lo<=h.length)(hl:l.length<=1000000000)(hg:l[k]? =some v)(hu:u[k]? =some y)(hb:OkE v)(hc:OkE y):
  evCode ⟨Aa,E,lo,h.length,h14⟩ JA HN (JG1 l u k,h)=if eqD v y=true then some (.normal,JG1 l u (k+1:Nat),h)else some (.ret,[(4,.v (.bool false))],h):=by
 have hlt:k<l.length:=(Ab.1 hg).1
 have hgr:(l.map Rul.J1)[k]? =some (Rul.J1 v):=by simp[hg]
 have hur:(u.map Rul.J1)[k]? =some (Rul.J1 y):=by simp[hu]
 rw[JRX]at hgr hur;have q:decide ((k:Int)<(l.length:Int))=true:=by simp;omega
 have hw:=JD (i:=k) om;have b1:=JGz hb.hy hc.hy;have iha:=f13 _ v.val y.val lo h (Ac _) hb.hn hc.hn hb.hv hc.hv hlo;have ihb:=f13 _ v.val y.val h.length h (Ac _) hb.hn hc.hn hb.hv hc.hv (Ac _);unfold eqD
 cases he:v.name==y.name with
 |false=>
  rw[he]at b1;rw[AZ,if_neg (by simp)]
  simp only[go_sem,HN,b14,Tryz.f14,hlo,q,hgr,hur,hw,b1,Av]<;>rfl
 |true=>
  rw[he]at b1;rw[AR]
  cases hi:v.imp==y.imp with
  |false=>
   have hi2:(v.imp==y.imp)=false:=hi;rw[AZ,if_neg (by simp)]
   simp only[go_sem,HN,b14,Tryz.f14,hlo,q,hgr,hur,hw,b1,hi2,Av]<;>rfl
  |true=>
   have hi2:(v.imp==y.imp)=true:=hi;rw[AR]
   cases hk:eqL v.val y.val with
   |false=>
    rw[hk]at iha ihb;rw[if_neg (by simp)]
    simp only[go_sem,HN,b14,Tryz.f14,hlo,q,hgr,hur,hw,b1,hi2,iha,ihb,Av]<;>rfl
   |true=>rw[hk]at iha ihb;rw[if_pos rfl];simp only[go_sem,HN,b14,Tryz.f14,hlo,q,hgr,hur,hw,b1,hi2,iha,ihb,Av]<;>rfl
theorem Jmb{l u:List Rul.Dc}(hlo:lo<=h.length):evCode ⟨Aa,E,lo,h.length,h14⟩ JA HN (JG1 l u l.length,h)=
   some (.exit 0,JG1 l u l.length++[(14,.v (.bool false))],h):=by
 have q:decide ((l.length:Int)<(l.length:Int))=false:=by simp
 simp only[go_sem,HN,b14,Tryz.f14,hlo,q]<;>rfl
theorem Jmc{l u:List Rul.Dc}(hlo:lo<=h.length)(hl:l.length<=1000000000)(hlu:l.length=u.length)(hb:∀d∈l,OkE d)(hc:∀d∈u,OkE d):∀(m k:Nat),k+m=l.length->
  if jp (l.drop k) (u.drop k)=true then
   JA (evCode ⟨Aa,E,lo,h.length,h14⟩ JA HN) (JG1 l u k,h)=some (.exit 0,JG1 l u l.length++[(14,.v (.bool false))],h)
  else JA (evCode ⟨Aa,E,lo,h.length,h14⟩ JA HN) (JG1 l u k,h)=some (.ret,[(4,.v (.bool false))],h):=by
 intro m
 induction m with
 |zero=>
  intro k hk;obtain rfl:k=l.length:=om;have e:u.drop l.length=[]:=A4 om
  rw[Bw,e,if_pos JJe,JB,Jmb hlo,KP]
 |succ m ihm=>
  intro k hk;have hlt:k<l.length:=om;have hlt2:k<u.length:=om;have hg:l[k]? =some l[k]:=Ad hlt
  have hu:u[k]? =some u[k]:=Ad hlt2
  have hr:=Jma (lo:=lo) (h:=h) hlo hl hg hu (hb _ (Bq hlt)) (hc _ (Bq hlt2));rw[AE hlt,AE hlt2,yP]
  cases hm:eqD l[k] u[k]with
  |false=>
   rw[hm,if_neg (by simp)]at hr
   rw[AZ,if_neg (by simp),JB,hr,Wo]
  |true=>rw[hm,if_pos rfl]at hr;rw[AR,JB,hr,JK];exact ihm (k+1) om
theorem f14{l u:List Rul.Dc}(hlo:lo<=h.length)(hl:l.length<=1000000000)(hul:u.length<=1000000000)(hb:∀d∈l,OkE d)(hc:∀d∈u,OkE d):
  E lo 14 [.list .no (l.map Rul.J1),.list .no (u.map Rul.J1)] h=some (.v (.bool (jp l u)),h):=by
 have n0:((0:Nat):Int)=0:=rfl;rw[e14];by_cases hq:l.length=u.length
 ·have q:((l.length:Int) !=(u.length:Int))=false:=by simp[hq]
  have hL:=Jmc (lo:=lo) (h:=h) (l:=l) (u:=u) hlo hl hq hb hc l.length 0 om;rw[AG,AG]at hL
  cases hm:jp l u with
  |false=>
   rw[hm,if_neg (by simp)]at hL
   simp only[HN,b14,Tryz.f14,JG,JT,JC,go_sem,JG1,n0]at hL
   simp only[go_sem,b14,Tryz.f14,hlo,hL,Av,n0,q]<;>rfl
  |true=>rw[hm,if_pos rfl]at hL;simp only[HN,b14,Tryz.f14,JG,JT,JC,go_sem,JG1,n0,Ae,Af]at hL;simp only[go_sem,b14,Tryz.f14,hlo,hL,Av,n0,q]<;>rfl
 ·have q:((l.length:Int) !=(u.length:Int))=true:=by simp;omega
  rw[JJf hq];simp only[go_sem,b14,Tryz.f14,hlo,Av,n0,q]<;>rfl
end Go.Lift.W1
end
