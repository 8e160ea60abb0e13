/- Characters to bytes: the arithmetic. -/
import Derived.Test.YtolidijpmnompaaGreatDoorGLd
open BitVec renaming ofInt->Ap,toNat_and->D5,toNat_ofInt->Cq
open List renaming all_cons->Bi,all_eq_true->Ak,all_reverse->LV,append_nil->AE,cons_append->AA,dropWhile_cons->A8,dropWhile_suffix->BR,eq_nil_of_length_eq_zero->Ar,length_append->Ao,length_cons->Ae,length_drop->AB,mem_cons->AP,mem_map->AM,mem_reverse->B6,nil_append->Au,not_mem_nil->BG,reverse_append->Dn,reverse_cons->Cg,reverse_reverse->Lk
open Nat renaming and_two_pow_sub_one_eq_mod->C3,le_refl->Ad,one_le_two_pow->LC,pow_le_pow_right->Lj,shiftLeft_eq->LU
set_option linter.unusedVariables false
set_option linter.unusedSimpArgs false
set_option linter.unusedSectionVars false
section
namespace Go.Lift.Utf
def K7(x:Int):Int:=if(decide (x<0)||decide (1114111<x)||decide (55296<=x)&&decide (x<=57343))=true then 65533 else x
theorem yg(x:Int):0<=K7 x/\K7 x<=1114111:=by
 unfold K7
 split
 ·omega
 ·rename_i h
  simp at h;omega
def enc(y:Int):List Int:=
 if y<128 then[y]else if y<2048 then[192+y/64,128+y%64]else if y<65536 then[224+y/4096,128+y/64%64,128+y%64]
 else[240+y/262144,128+y/4096%64,128+y/64%64,128+y%64]
theorem JTr:∀z:Fin 32,(Ap 32 192|||Ap 32 (z.val:Int)).toNat=192+z.val:=by decide
theorem JTs:∀z:Fin 16,(Ap 32 224|||Ap 32 (z.val:Int)).toNat=224+z.val:=by decide
theorem JTt:∀z:Fin 8,(Ap 32 240|||Ap 32 (z.val:Int)).toNat=240+z.val:=by decide
theorem JTu:∀z:Fin 64,(Ap 32 128|||Ap 32 (z.val:Int)).toNat=128+z.val:=by decide
theorem and63{y:Int}(h0:0<=y)(h1:y<=2147483647):((Ap 32 y&&&Ap 32 63).toNat:Int)=y%64:=by
 rw[D5]
 have e1:(Ap 32 y).toNat=y.toNat:=by rw[Cq];omega
 have e2:(Ap 32 63).toNat=2^6-1:=by decide
 rw[e1,e2,C3];omega
theorem o32{c:Int}{n:Nat}(hc:(c=192/\n=32)\/(c=224/\n=16)\/(c=240/\n=8)\/(c=128/\n=64)){y:Int}(h0:0<=y)(h1:y<n):((Ap 32 c|||Ap 32 y).toNat:Int)=c+y:=by
 obtain⟨z,rfl⟩:∃z:Nat,y=z:=⟨y.toNat,om⟩;rcases hc with⟨rfl,rfl⟩|⟨rfl,rfl⟩|⟨rfl,rfl⟩|⟨rfl,rfl⟩
 ·have:=JTr ⟨z,om⟩;simp only at this;omega
 ·have:=JTs ⟨z,om⟩;simp only at this;omega
 ·have:=JTt ⟨z,om⟩;simp only at this;omega
 ·have:=JTu ⟨z,om⟩;simp only at this;omega
def nd(c:Int):Nat×Int×Int:=
 if 194<=c/\c<=223 then(1,128,191)
 else if c=224 then(2,160,191)
 else if c=237 then(2,128,159)
 else if 225<=c/\c<=239 then(2,128,191)
 else if c=240 then(3,144,191)
 else if 241<=c/\c<=243 then(3,128,191)
 else if c=244 then(3,128,143)
 else(0,0,0)
def more:Nat->Int->Int->Int->Nat->List Int->Int×Nat×Bool
 |0,r,_,_,k,_=>(r,k,true)
 |_+1,_,_,_,k,[]=>(65533,k,false)
 |n+1,r,lo,hi,k,c::t=>if c<lo\/hi<c then(65533,k,false)else more n (r*64+c%64) 128 191 (k+1) t
def one:List Int->Int×Nat×Bool
 |[]=>(65533,1,false)
 |c::t=>if c<128 then(c,1,true)else if(nd c).1=0 then(65533,1,false)else more (nd c).1 (c%2^ (6-(nd c).1)) (nd c).2.1 (nd c).2.2 1 t
abbrev By(b:List Int):Prop:=∀c∈b,0<=c/\c<=255
theorem Jof{r y:Int}(h0:0<=r)(h1:r<=1000000)(h2:0<=y)(h3:y<64):(ior .i32 (r*64) y)=r*64+y:=by
 obtain⟨m,rfl⟩:∃m:Nat,r=m:=⟨r.toNat,om⟩;obtain⟨z,rfl⟩:∃z:Nat,y=z:=⟨y.toNat,om⟩;show((Ap 32 ((m:Int)*64)|||Ap 32 (z:Int)).toNat:Int)=_
 rw[BitVec.toNat_or]
 have e1:(Ap 32 ((m:Int)*64)).toNat=m<<<6:=by rw[Cq,LU];omega
 have e2:(Ap 32 (z:Int)).toNat=z:=by rw[Cq];omega
 rw[e1,e2,<-Nat.shiftLeft_add_eq_or_of_lt om,LU];omega
theorem Jog{y:Int}{k:Nat}(hk:k<=7)(h0:0<=y)(h1:y<=255):JA0 .u8 y (2^k-1)=y%2^k:=by
 obtain⟨z,rfl⟩:∃z:Nat,y=z:=⟨y.toNat,om⟩;show((Ap 8 (z:Int)&&&Ap 8 ((2:Int)^k-1)).toNat:Int)=_
 rw[D5]
 have e1:(Ap 8 (z:Int)).toNat=z:=by rw[Cq];omega
 have hp:2^k<=128:=by have:2^k<=2^7:=Lj om hk;omega
 have hq:1<=2^k:=LC
 have e2:(Ap 8 ((2:Int)^k-1)).toNat=2^k-1:=by
  have e3:(2:Int)^k=((2^k:Nat):Int):=by simp
  rw[Cq,e3];omega
 rw[e1,e2,C3];simp
theorem JOq{y:Int}{k:Nat}(hk:k<=7)(h0:0<=y)(h1:y<=2147483647):JA0 .i32 y (2^k-1)=y%2^k:=by
 obtain⟨z,rfl⟩:∃z:Nat,y=z:=⟨y.toNat,om⟩;show((Ap 32 (z:Int)&&&Ap 32 ((2:Int)^k-1)).toNat:Int)=_
 rw[D5]
 have e1:(Ap 32 (z:Int)).toNat=z:=by rw[Cq];omega
 have hp:2^k<=128:=by have:2^k<=2^7:=Lj om hk;omega
 have hq:1<=2^k:=LC
 have e2:(Ap 32 ((2:Int)^k-1)).toNat=2^k-1:=by
  have e3:(2:Int)^k=((2^k:Nat):Int):=by simp
  rw[Cq,e3];omega
 rw[e1,e2,C3];simp
section
variable{y:Int}(h0:0<=y)(h1:y<=255)
include h0 h1
theorem a63:JA0 .u8 y 63=y%64:=Jog (k:=6) om h0 h1
theorem c63:JA0 .i32 y 63=y%64:=JOq (k:=6) om h0 om
theorem c31:JA0 .i32 y 31=y%32:=JOq (k:=5) om h0 om
theorem c15:JA0 .i32 y 15=y%16:=JOq (k:=4) om h0 om
theorem c7:JA0 .i32 y 7=y%8:=JOq (k:=3) om h0 om
end
def JQo:Nat->List Int->List Int
 |0,_=>[]
 |_+1,[]=>[]
 |n+1,c::t=>(one (c::t)).1::JQo n ((c::t).drop (one (c::t)).2.1)
def raw(b:List Int):List Int:=JQo b.length b
def Ki:Nat->List Int->Bool
 |0,_=>true
 |_+1,[]=>true
 |n+1,c::t=>(one (c::t)).2.2&&Ki n ((c::t).drop (one (c::t)).2.1)
def whole(b:List Int):Bool:=Ki b.length b
theorem JTv:∀(n:Nat) (r lo hi:Int) (k:Nat) (t:List Int),k<=(more n r lo hi k t).2.1/\(more n r lo hi k t).2.1<=k+n/\(more n r lo hi k t).2.1<=k+t.length
 |0,_,_,_,_,_=>by simp[more]
 |n+1,_,_,_,_,[]=>by simp[more]
 |n+1,r,lo,hi,k,c::t=>by
  unfold more
  split
  ·simp
  ·have:=JTv n (r*64+c%64) 128 191 (k+1) t
   simp only[Ae];omega
theorem JYt(c:Int):(nd c).1<=3:=by
 unfold nd
 repeat' split
 all_goals simp
theorem JTw(c:Int)(t:List Int):1<=(one (c::t)).2.1/\(one (c::t)).2.1<=4/\(one (c::t)).2.1<=(c::t).length:=by
 simp only[one]
 split
 ·simp
 ·split
  ·simp
  ·have:=JTv (nd c).1 (c%2^ (6-(nd c).1)) (nd c).2.1 (nd c).2.2 1 t
   have:=JYt c;simp only[Ae];omega
theorem JGm:∀(n m:Nat) (b:List Int),b.length<=n->b.length<=m->JQo n b=JQo m b
 |0,0,_,_,_=>rfl
 |0,m+1,[],_,_=>rfl
 |n+1,0,[],_,_=>rfl
 |n+1,m+1,[],_,_=>rfl
 |n+1,m+1,c::t,h1,h2=>by have:=JTw c t;simp only[JQo];rw[JGm n m _ (by rw[AB];omega) (by rw[AB];omega)]
theorem JOr:raw []=[]:=rfl
theorem JTx(c:Int)(t:List Int):raw (c::t)=(one (c::t)).1::raw ((c::t).drop (one (c::t)).2.1):=by
 have:=JTw c t;show(one (c::t)).1::JQo t.length ((c::t).drop (one (c::t)).2.1)=_
 rw[raw,JGm _ _ _ (by rw[AB,Ae];omega) (Ad _)]
theorem By.drop{b:List Int}(h:By b)(n:Nat):By (b.drop n):=λc hc=>h c (List.mem_of_mem_drop hc)
theorem Joh{r:Int}(h0:0<=r)(h1:r<=1000000):IntKind.i32.wrap (Jfr .i32 r 6)=r*64:=wrap_i32 (by show _<=r*64;omega) (by show r*64<=_;omega)
theorem JTy{c:Int}(h:(nd c).1≠0):((nd c).1=1/\194<=c/\c<=223/\(nd c).2=(128,191))\/
  ((nd c).1=2/\224<=c/\c<=239/\128<=(nd c).2.1/\(nd c).2.2<=191/\(c=224->160<=(nd c).2.1)/\(c=237->(nd c).2.2<=159)/\(c≠224->(nd c).2.1=128)/\(c≠237->(nd c).2.2=191)/\(c=224->(nd c).2.1=160)/\(c=237->(nd c).2.2=159))\/
  ((nd c).1=3/\240<=c/\c<=244/\128<=(nd c).2.1/\(nd c).2.2<=191/\(c=240->(nd c).2.1=144)/\(c=244->(nd c).2.2=143)/\(c≠240->(nd c).2.1=128)/\(c≠244->(nd c).2.2=191)):=by
 unfold nd at h⊢
 repeat' split
 all_goals simp_all
 all_goals omega
theorem JTz{b:List Int}(h:(one b).2.2=true)(hn:b≠[]):∃x k,one b=(x,k,true)/\(
  (∃t,b=x::t/\k=1/\x<128)\/
  (∃c d t,b=c::d::t/\k=2/\194<=c/\c<=223/\128<=d/\d<=191/\x=c%32*64+d%64)\/
  (∃c d e t,b=c::d::e::t/\k=3/\224<=c/\c<=239/\128<=d/\d<=191/\128<=e/\e<=191/\(c=224->160<=d)/\(c=237->d<=159)/\x=(c%16*64+d%64)*64+e%64)\/
  (∃c d e f t,b=c::d::e::f::t/\k=4/\240<=c/\c<=244/\128<=d/\d<=191/\128<=e/\e<=191/\128<=f/\f<=191/\(c=240->144<=d)/\(c=244->d<=143)/\x=((c%8*64+d%64)*64+e%64)*64+f%64)):=by
 match b,hn with
 |c::t,_=>
  simp only[one]at h⊢;by_cases h0:c<128
  ·rw[if_pos h0]
   exact⟨c,1,rfl,.inl ⟨t,rfl,rfl,h0⟩⟩
  rw[if_neg h0]at h⊢;by_cases hz:(nd c).1=0
  ·rw[if_pos hz]at h;simp at h
  rw[if_neg hz]at h⊢;rcases JTy hz with⟨e1,h1,h2,e2⟩|⟨e1,h1,h2,h3,h4,h5,h6,_⟩|⟨e1,h1,h2,h3,h4,h5,h6,_⟩
  ·rw[e1,e2]at h⊢
   match t,h with
   |[],h=>simp[more]at h
   |d::t,h=>
    simp only[more]at h⊢
    split at h
    ·simp at h
    ·rename_i hd
     rw[if_neg hd];exact⟨_,_,rfl,.inr (.inl ⟨c,d,t,rfl,rfl,h1,h2,om,om,rfl⟩)⟩
  ·rw[e1]at h⊢
   match t,h with
   |[],h=>simp[more]at h
   |[d],h=>simp only[more]at h;split at h<;>simp at h
   |d::e::t,h=>
    simp only[more]at h⊢
    split at h
    ·simp at h
    ·rename_i hd
     rw[if_neg hd]
     split at h
     ·simp at h
     ·rename_i he
      rw[if_neg he];exact⟨_,_,rfl,.inr (.inr (.inl ⟨c,d,e,t,rfl,rfl,h1,h2,om,om,om,om,om,om,rfl⟩))⟩
  ·rw[e1]at h⊢
   match t,h with
   |[],h=>simp[more]at h
   |[d],h=>simp only[more]at h;split at h<;>simp at h
   |[d,e],h=>
    simp only[more]at h
    split at h
    ·simp at h
    ·split at h<;>simp at h
   |d::e::f::t,h=>
    simp only[more]at h⊢
    split at h
    ·simp at h
    ·rename_i hd
     rw[if_neg hd]
     split at h
     ·simp at h
     ·rename_i he
      rw[if_neg he]
      split at h
      ·simp at h
      ·rename_i hf
       rw[if_neg hf];exact⟨_,_,rfl,.inr (.inr (.inr ⟨c,d,e,f,t,rfl,rfl,h1,h2,om,om,om,om,om,om,om,om,rfl⟩))⟩
theorem JYu{b:List Int}(h:b≠[]):raw b=(one b).1::raw (b.drop (one b).2.1):=by
 cases b with
 |nil=>exact absurd rfl h
 |cons c t=>exact JTx c t
theorem JOs{b:List Int}(h:b≠[]):1<=(one b).2.1/\(one b).2.1<=4/\(one b).2.1<=b.length:=by
 cases b with
 |nil=>exact absurd rfl h
 |cons c t=>exact JTw c t
theorem JQp{p:List Int->Prop}(h0:p [])(h1:∀b,b≠[]->p (b.drop (one b).2.1)->p b)(b:List Int):p b:=by
 suffices∀n (b:List Int),b.length<=n->p b from this b.length b (Ad _)
 intro n
 induction n with
 |zero=>intro b hb;obtain rfl:b=[]:=Ar om;exact h0
 |succ n ih=>
  intro b hb;by_cases hn:b=[]
  ·subst hn;exact h0
  ·have:=JOs hn
   exact h1 b hn (ih _ (by rw[AB];omega))
theorem JQq(b:List Int):(raw b).length<=b.length/\b.length<=4*(raw b).length:=by
 refine JQp (p:=λb=>(raw b).length<=b.length/\b.length<=4*(raw b).length) (by simp[JOr]) (λb hn ih=>?_) b
 have hk:=JOs hn;rw[JYu hn,Ae];rw[AB]at ih;omega
def Yr(l:List Int):List Int:=l.flatMap λx=>enc (K7 x)
theorem JcV(x:Int)(h0:0<=x)(h1:x<=1114111):By (enc x):=by
 unfold enc;intro c hc
 split at hc
 ·simp only[AP,BG,or_false]at hc;omega
 ·split at hc
  ·simp only[AP,BG,or_false]at hc;omega
  ·split at hc<;>simp only[AP,BG,or_false]at hc<;>omega
theorem JJi(l:List Int):By (Yr l):=by intro c hc;obtain⟨x,_,hx⟩:=List.mem_flatMap.mp hc;have:=yg x;exact JcV _ this.1 this.2 c hx
theorem JQr(x:Int)(l:List Int):Yr (x::l)=enc (K7 x)++Yr l:=rfl
def Hq(back:Bool)(x:Int):List Int:=if x==10&&back then[]else[if x==13||x==12 then 10 else if x==0 then 65533 else x]
def dec:Bool->List Int->List Int
 |_,[]=>[]
 |back,x::l=>Hq back x++dec (x==13) l
def bom(b:List Int):Bool:=b.take 3==[239,187,191]
def W5(b:List Int):List Int:=if bom b=true then b.drop 3 else b
def decode(b:List Int):List Int:=dec false (raw (W5 b))
theorem JT0{b:List Int}(hy:By b):By (W5 b):=by
 unfold W5
 split
 ·exact hy.drop _
 ·exact hy
end Go.Lift.Utf
end

section
namespace Go.Lift.Tok
open Utf
def chr(s:List Int)(k:Nat):Int:=match s[k]? with
 |some x=>x
 |none=> -1
def KD(c:Int):Bool:=decide (48<=c)&&decide (c<=57)
def JT1(c:Int):Bool:=decide (97<=c)&&decide (c<=122)||decide (65<=c)&&decide (c<=90)||c==95||decide (128<=c)
def ltr(c:Int):Bool:=JT1 c||KD c||c==45
def blk(c:Int):Bool:=c==10||c==9||c==32
def unp(c:Int):Bool:=decide (0<=c)&&decide (c<=8)||c==11||decide (14<=c)&&decide (c<=31)||c==127
def hex(c:Int):Int:=if KD c=true then c-48 else if(decide (97<=c)&&decide (c<=102))=true then c-97+10 else if(decide (65<=c)&&decide (c<=70))=true then c-65+10 else-1
def esc(a b:Int):Bool:=a==92&&b !=10
def beg(a b c:Int):Bool:=if(a==45)=true then JT1 b||b==45||esc b c else JT1 a||esc a b
def num(a b c:Int):Bool:=if(a==43||a==45)=true then KD b||b==46&&KD c else KD a||a==46&&KD b
def quo(c:Int):Bool:=c==34||c==39
def QL(s:List Int):List Int:=s.dropWhile blk
def Ys:Nat->Int->List Int->Int×List Int
 |0,n,s=>(n,s)
 |_+1,n,[]=>(n,[])
 |k+1,n,c::t=>if hex c<0 then(n,c::t)else Ys k (n*16+hex c) t
def JDz:List Int->List Int
 |[]=>[]
 |d::u=>if blk d=true then u else d::u
def QM:List Int->Int×List Int
 |[]=>(65533,[])
 |c::t=>if hex c<0 then(c,t)else
  (if(Ys 6 0 (c::t)).1=0 then 65533 else K7 (Ys 6 0 (c::t)).1,JDz (Ys 6 0 (c::t)).2)
def QQ:Nat->List Int->List Int×List Int
 |0,s=>([],s)
 |_+1,[]=>([],[])
 |n+1,c::t=>
  if ltr c=true then(c::(QQ n t).1,(QQ n t).2)
  else if esc c (chr t 0)=true then((QM t).1::(QQ n (QM t).2).1,(QQ n (QM t).2).2)
  else([],c::t)
def name(s:List Int):List Int×List Int:=QQ s.length s
def yh:List Int->List Int
 |[]=>[]
 |[_]=>[]
 |c::d::t=>if c=42/\d=47 then t else yh (d::t)
def JCO:Nat->List Int->List Int
 |0,s=>s
 |n+1,c::d::t=>if c=47/\d=42 then JCO n (yh t)else c::d::t
 |_+1,s=>s
def HV(s:List Int):List Int:=JCO s.length s
def QY(sign:Int):Nat->List Int->Bool×List Int×List Int
 |0,s=>(true,[],s)
 |_+1,[]=>(true,[],[])
 |n+1,c::t=>
  if c=10 then(false,[],c::t)
  else if c=sign then(true,[],t)
  else if c=92 then
   match t with
   |[]=>(true,[],[])
   |d::u=>if d=10 then QY sign n u else((QY sign n (QM t).2).1,(QM t).1::(QY sign n (QM t).2).2.1,(QY sign n (QM t).2).2.2)
  else((QY sign n t).1,c::(QY sign n t).2.1,(QY sign n t).2.2)
def txt(sign:Int)(s:List Int):Bool×List Int×List Int:=QY sign s.length s
def kZ:Nat->List Int->List Int
 |0,s=>s
 |_+1,[]=>[]
 |n+1,c::t=>if c=41 then t else if esc c (chr t 0)=true then kZ n (QM t).2 else kZ n t
def JCP(s:List Int):List Int:=kZ s.length s
def QZ:Nat->List Int->Bool×List Int×List Int
 |0,s=>(true,[],s)
 |_+1,[]=>(true,[],[])
 |n+1,c::t=>
  if c=41 then(true,[],t)
  else if blk c=true then(if chr (QL t) 0= -1\/chr (QL t) 0=41 then(true,[],(QL t).drop 1)else(false,[],JCP (QL t)))
  else if(quo c||c==40||unp c)=true then(false,[],JCP (c::t))
  else if c=92 then
   if esc c (chr t 0)=true then((QZ n (QM t).2).1,(QM t).1::(QZ n (QM t).2).2.1,(QZ n (QM t).2).2.2)
   else(false,[],JCP (c::t))
  else((QZ n t).1,c::(QZ n t).2.1,(QZ n t).2.2)
def url(s:List Int):Bool×List Int×List Int:=QZ (QL s).length (QL s)
structure Tk where
 kind:Int
 text:List Int
 num:Int×Int
 whole:Bool
 id:Bool
 deriving DecidableEq
end Go.Lift.Tok
end

section
namespace Go.Lift.Rul
structure Tk4 where
 k:Int
 b:List Int
 n:Int
 d:Int
 w:Bool
 i:Bool
 deriving DecidableEq
def Ja(k:Int):Int:=if k=2\/k=21 then 22 else if k=19 then 20 else if k=23 then 24 else 0
theorem jp(k:Int):Ja k=0\/Ja k=20\/Ja k=22\/Ja k=24:=by
 unfold Ja
 repeat' split
 all_goals simp
inductive CV where
 |mk (t:Tk4) (kids:List CV)
def CV.t:CV->Tk4
 | .mk t _=>t
def CV.ks:CV->List CV
 | .mk _ k=>k
abbrev Wx:=List (Tk4×List CV)
def K0(v:CV):Wx->List CV->Wx×List CV
 |[],b=>([],b++[v])
 |(o,ks)::r,b=>((o,ks++[v])::r,b)
def Qf:Wx->List CV->Wx×List CV
 |[],b=>([],b)
 |(o,ks)::r,b=>K0 (.mk o ks) r b
def ctx:Wx->Option Int
 |[]=>none
 |(o,_)::_=>some (Ja o.k)
def WG(t:Tk4)(s:Wx)(b:List CV):Wx×List CV:=
 if ctx s=some t.k then Qf s b else if Ja t.k≠0 then((t,[])::s,b)else K0 (.mk t []) s b
def runS:List Tk4->Wx->List CV->Wx×List CV
 |[],s,b=>(s,b)
 |t::l,s,b=>runS l (WG t s b).1 (WG t s b).2
theorem JCQ(v:CV)(s:Wx)(b:List CV):(K0 v s b).1.length=s.length:=by
 cases s with
 |nil=>rfl
 |cons p r=>rfl
theorem zq(o:Tk4×List CV)(r:Wx)(b:List CV):(Qf (o::r) b).1.length=r.length:=JCQ _ _ _
def JT2:Nat->Wx->List CV->List CV
 |0,_,b=>b
 |n+1,s,b=>JT2 n (Qf s b).1 (Qf s b).2
def Wo(s:Wx)(b:List CV):List CV:=JT2 s.length s b
def JLQ(l:List Tk4):List CV:=Wo (runS l [] []).1 (runS l [] []).2
inductive PV where
 |leaf (t:Tk4)
 |node (t:Tk4) (kids:List PV) (c:Option Tk4)
mutual
def Qn:PV->List Tk4
 | .leaf t=>[t]
 | .node t ks c=>t::(Kw ks++c.toList)
def Kw:List PV->List Tk4
 |[]=>[]
 |v::r=>Qn v++Kw r
end
mutual
def cvV:PV->CV
 | .leaf t=> .mk t []
 | .node t ks _=> .mk t (cvL ks)
def cvL:List PV->List CV
 |[]=>[]
 |v::r=>cvV v::cvL r
end
mutual
def K8(x:Option Int)(last:Bool):PV->Prop
 | .leaf t=>Ja t.k=0/\x≠some t.k
 | .node t ks c=>Ja t.k≠0/\x≠some t.k/\(match c with
  |some e=>e.k=Ja t.k/\KG (some (Ja t.k)) false ks
  |none=>last=true/\KG (some (Ja t.k)) true ks)
def KG(x:Option Int)(last:Bool):List PV->Prop
 |[]=>True
 |v::r=>K8 x (last&&r.isEmpty) v/\KG x last r
end
theorem HW{x:Option Int}{b:Bool}{t:Tk4}:K8 x b (.leaf t)↔Ja t.k=0/\x≠some t.k:=by rw[K8]
theorem WZ{x:Option Int}{b:Bool}{t:Tk4}{ks:List PV}:K8 x b (.node t ks none)↔Ja t.k≠0/\x≠some t.k/\b=true/\KG (some (Ja t.k)) true ks:=by rw[K8]
theorem Z7{x:Option Int}{b:Bool}{t e:Tk4}{ks:List PV}:K8 x b (.node t ks (some e))↔Ja t.k≠0/\x≠some t.k/\e.k=Ja t.k/\KG (some (Ja t.k)) false ks:=by rw[K8]
theorem Wa{x:Option Int}{b:Bool}{v:PV}{r:List PV}:KG x b (v::r)↔K8 x (b&&r.isEmpty) v/\KG x b r:=by rw[KG]
def JiZ(k:Int):Prop:=k=20\/k=22\/k=24
theorem JLR{k:Int}(h:Ja k≠0):JiZ (Ja k):=by
 rcases jp k with h'|h'|h'|h'
 ·exact absurd h' h
 ·exact .inl h'
 ·exact .inr (.inl h')
 ·exact .inr (.inr h')
theorem JT3:∀(n:Nat) (l:List Tk4),l.length<=n->∀x:Option Int,(∀k,x=some k->JiZ k)->
  ∃F rest,l=Kw F++rest/\((rest=[]/\KG x true F)\/ ∃e r,rest=e::r/\x=some e.k/\KG x false F):=by
 intro n
 induction n with
 |zero=>
  intro l hl x hx;obtain rfl:l=[]:=Ar om
  exact⟨[],[],rfl,.inl ⟨rfl,trivial⟩⟩
 |succ n ih=>
  intro l hl x hx
  cases l with
  |nil=>exact⟨[],[],rfl,.inl ⟨rfl,trivial⟩⟩
  |cons t l=>
   simp only[Ae]at hl;by_cases h1:x=some t.k
   ·exact⟨[],t::l,rfl,.inr ⟨t,l,rfl,h1,trivial⟩⟩
   by_cases h2:Ja t.k=0
   ·obtain⟨F,rest,e,h⟩:=ih l om x hx
    refine⟨.leaf t::F,rest,by rw[e,Kw,Qn]<;>rfl,?_⟩
    rcases h with⟨rfl,hg⟩|⟨e',r,rfl,he,hg⟩
    ·exact .inl ⟨rfl,Wa.2 ⟨by rw[K8];exact⟨h2,h1⟩,hg⟩⟩
    ·exact .inr ⟨e',r,rfl,he,Wa.2 ⟨by rw[K8];exact⟨h2,h1⟩,hg⟩⟩
   ·obtain⟨K,rest,e,h⟩:=ih l om (some (Ja t.k)) (λk hk=>by cases hk;exact JLR h2)
    rcases h with⟨rfl,hg⟩|⟨e',r,rfl,he,hg⟩
    ·refine⟨[.node t K none],[],?_,.inl ⟨rfl,Wa.2 ⟨by rw[K8];exact⟨h2,h1,rfl,hg⟩,trivial⟩⟩⟩
     rw[e,Kw,Qn,Kw];simp
    ·have hr:r.length<=n:=by
      have:=congrArg List.length e;simp only[Ao,Ae]at this;omega
     obtain⟨F,rest,e2,h⟩:=ih r hr x hx
     have hn:∀b,K8 x b (.node t K (some e')):=λb=>by rw[K8];exact⟨h2,h1,(Option.some.inj he).symm,hg⟩
     refine⟨.node t K (some e')::F,rest,?_,?_⟩
     ·rw[e,e2,Kw,Qn]
      simp
     ·rcases h with⟨rfl,hg2⟩|⟨e3,r3,rfl,he3,hg2⟩
      ·exact .inl ⟨rfl,Wa.2 ⟨hn _,hg2⟩⟩
      ·exact .inr ⟨e3,r3,rfl,he3,Wa.2 ⟨hn _,hg2⟩⟩
theorem JOt(l:List Tk4):∃F,l=Kw F/\KG none true F:=by
 obtain⟨F,rest,e,h⟩:=JT3 l.length l (Ad _) none (λk hk=>by cases hk)
 rcases h with⟨rfl,hg⟩|⟨e',r,rfl,he,hg⟩
 ·exact⟨F,by rw[e,AE],hg⟩
 ·cases he
theorem JLS:∀(F:List PV) {x:Option Int} {b:Bool},KG x b F->KG none b F
 |[],_,_,_=>trivial
 |v::r,x,b,h=>by
  rw[Wa]at h⊢;refine⟨?_,JLS r h.2⟩
  have h1:=h.1
  cases v with
  |leaf t=>exact HW.2 ⟨(HW.1 h1).1,λh=>by cases h⟩
  |node t ks c=>
   cases c with
   |none=>exact WZ.2 ⟨(WZ.1 h1).1,λh=>(by cases h),(WZ.1 h1).2.2⟩
   |some e=>exact Z7.2 ⟨(Z7.1 h1).1,λh=>(by cases h),(Z7.1 h1).2.2⟩
theorem JNf{v:PV}{x:Option Int}{b:Bool}(h:K8 x b v):K8 x true v:=by
 cases v with
 |leaf t=>exact HW.2 (HW.1 h)
 |node t ks c=>
  cases c with
  |none=>exact WZ.2 ⟨(WZ.1 h).1,(WZ.1 h).2.1,rfl,(WZ.1 h).2.2.2⟩
  |some e=>exact Z7.2 (Z7.1 h)
theorem JCR:∀(F:List PV) {x:Option Int} {b:Bool},KG x b F->KG x true F
 |[],_,_,_=>trivial
 |v::r,x,b,h=>by
  rw[Wa]at h⊢;refine⟨?_,JCR r h.2⟩
  cases r with
  |nil=>exact JNf h.1
  |cons u r=>
   have:(b&&(u::r).isEmpty)=(true&&(u::r).isEmpty):=by simp
   rw[<-this];exact h.1
def WQ(vs:List CV):Wx->List CV->Wx×List CV
 |[],b=>([],b++vs)
 |(o,ks)::r,b=>((o,ks++vs)::r,b)
theorem jQ(s:Wx)(b:List CV):WQ [] s b=(s,b):=by
 cases s with
 |nil=>simp[WQ]
 |cons p r=>obtain⟨o,ks⟩:=p;simp[WQ]
theorem HX(v:CV)(vs:List CV)(s:Wx)(b:List CV):WQ vs (K0 v s b).1 (K0 v s b).2=WQ (v::vs) s b:=by
 cases s with
 |nil=>simp[K0,WQ]
 |cons p r=>obtain⟨o,ks⟩:=p;simp[K0,WQ]
theorem JCS(v:CV)(s:Wx)(b:List CV):ctx (K0 v s b).1=ctx s:=by
 cases s with
 |nil=>rfl
 |cons p r=>obtain⟨o,ks⟩:=p;rfl
theorem JCT(l m:List Tk4):∀(s:Wx) (b:List CV),runS (l++m) s b=runS m (runS l s b).1 (runS l s b).2:=by
 induction l with
 |nil=>intro s b;rfl
 |cons t l ih=>intro s b;rw[AA,runS,ih,runS]
mutual
theorem Gb:∀(v:PV) (s:Wx) (b:List CV),K8 (ctx s) false v->runS (Qn v) s b=K0 (cvV v) s b
 | .leaf t,s,b,h=>by
  rw[K8]at h;rw[Qn,runS,runS,cvV];unfold WG
  rw[if_neg h.2,if_neg (by simp[h.1])]
 | .node t ks none,s,b,h=>by
  rw[K8]at h
  exact absurd h.2.2.1 (by decide)
 | .node t ks (some e),s,b,h=>by
  rw[K8]at h;obtain⟨h1,h2,h3,h4⟩:=h
  have e1:WG t s b=((t,[])::s,b):=by unfold WG;rw[if_neg h2,if_pos h1]
  rw[Qn,runS,e1,JCT];simp only;rw[JAn ks ((t,[])::s) b h4];simp only[WQ,Au,Option.toList];rw[runS,runS,cvV];unfold WG;rw[if_pos (by show some (Ja t.k)=some e.k;rw[h3])]
  rfl
theorem JAn:∀(F:List PV) (s:Wx) (b:List CV),KG (ctx s) false F->runS (Kw F) s b=WQ (cvL F) s b
 |[],s,b,_=>by rw[Kw,runS,cvL,jQ]
 |v::r,s,b,h=>by rw[KG]at h;rw[Kw,JCT,Gb v s b (by simpa using h.1),JAn r _ _ (by rw[JCS];exact h.2),cvL,HX]
end
theorem yi(p:Tk4×List CV)(s:Wx)(b:List CV):Wo (p::s) b=Wo (Qf (p::s) b).1 (Qf (p::s) b).2:=by unfold Wo;rw[Ae,JT2,zq]
mutual
theorem JQt:∀(v:PV) (s:Wx) (b:List CV),K8 (ctx s) true v->Wo (runS (Qn v) s b).1 (runS (Qn v) s b).2=Wo (K0 (cvV v) s b).1 (K0 (cvV v) s b).2
 | .leaf t,s,b,h=>by rw[Gb (.leaf t) s b (by rw[K8]at h⊢;exact h)]
 | .node t ks (some e),s,b,h=>by rw[Gb (.node t ks (some e)) s b (by rw[K8]at h⊢;exact h)]
 | .node t ks none,s,b,h=>by
  rw[K8]at h;obtain⟨h1,h2,_,h4⟩:=h
  have e1:WG t s b=((t,[])::s,b):=by unfold WG;rw[if_neg h2,if_pos h1]
  rw[Qn,runS,e1];simp only[Option.toList,AE];rw[zr ks ((t,[])::s) b h4];simp only[WQ,Au];rw[yi,cvV]<;>rfl
theorem zr:∀(F:List PV) (s:Wx) (b:List CV),KG (ctx s) true F->Wo (runS (Kw F) s b).1 (runS (Kw F) s b).2=Wo (WQ (cvL F) s b).1 (WQ (cvL F) s b).2
 |[],s,b,_=>by rw[Kw,runS,cvL,jQ]
 |[v],s,b,h=>by
  rw[KG]at h
  rw[Kw,Kw,AE,JQt v s b (by simpa using h.1),cvL,cvL,<-HX,jQ]
 |v::u::r,s,b,h=>by rw[KG]at h;rw[Kw,JCT,Gb v s b (by simpa using h.1),zr (u::r) _ _ (by rw[JCS];exact h.2),HX,<-cvL]
end
theorem JGn{F:List PV}{x:Option Int}{b:Bool}(h:KG x b F):JLQ (Kw F)=cvL F:=by
 have:=zr F [] [] (JCR F (JLS F h));unfold JLQ;rw[this];show Wo [] ([]++cvL F)=_
 rfl
mutual
def Joi:PV->Nat
 | .leaf _=>0
 | .node _ ks _=>JLT ks+1
def JLT:List PV->Nat
 |[]=>0
 |v::r=>max (Joi v) (JLT r)
end
structure LS where
 st:List Nat
 E:List Nat
 D:List Nat
mutual
def JGo(N:Nat)(E D:List Nat)(p:Nat):PV->Prop
 | .leaf _=>D.getD p 0=0
 | .node t ks c=>E.getD p 0=(match c with
  |some _=>p+1+(Kw ks).length
  |none=>N)/\D.getD p 0=JLT ks+1/\kz N E D (p+1) ks
def kz(N:Nat)(E D:List Nat)(p:Nat):List PV->Prop
 |[]=>True
 |v::r=>JGo N E D p v/\kz N E D (p+(Qn v).length) r
end
def Jia(N p:Nat)(ks:List PV)(c:Option Tk4):Nat:=match c with
 |some _=>p+1+(Kw ks).length
 |none=>N
theorem JNg{N p:Nat}{E D:List Nat}{t:Tk4}{ks:List PV}{c:Option Tk4}:JGo N E D p (.node t ks c)↔E.getD p 0=Jia N p ks c/\D.getD p 0=JLT ks+1/\kz N E D (p+1) ks:=by cases c<;>rw[JGo]<;>rfl
mutual
theorem JCU{N:Nat}{E D E' D':List Nat}:∀(v:PV) {p:Nat},(∀q,p<=q->q<p+(Qn v).length->E'.getD q 0=E.getD q 0/\D'.getD q 0=D.getD q 0)->JGo N E D p v->JGo N E' D' p v
 | .leaf t,p,h,hl=>by
  rw[JGo]at hl⊢;rw[(h p (Ad _) (by rw[Qn];simp)).2]
  exact hl
 | .node t ks c,p,h,hl=>by
  rw[JNg]at hl⊢;obtain⟨h1,h2,h3⟩:=hl;have hp:=h p (Ad _) (by rw[Qn];simp)
  refine⟨by rw[hp.1];exact h1,by rw[hp.2];exact h2,JCV ks (λq hq hq2=>h q om ?_) h3⟩
  rw[Qn];simp only[Ae,Ao];omega
theorem JCV{N:Nat}{E D E' D':List Nat}:∀(F:List PV) {p:Nat},(∀q,p<=q->q<p+(Kw F).length->E'.getD q 0=E.getD q 0/\D'.getD q 0=D.getD q 0)->kz N E D p F->kz N E' D' p F
 |[],p,_,_=>by rw[kz];trivial
 |v::r,p,h,hl=>by rw[kz]at hl⊢;rw[Kw]at h;simp only[Ao]at h;exact⟨JCU v (λq h1 h2=>h q h1 om) hl.1,JCV r (λq h1 h2=>h q om om) hl.2⟩
end
structure Lays(N p:Nat)(F:List PV)(s s':LS):Prop where
 st:s'.st=s.st
 le:s'.E.length=N
 ld:s'.D.length=N
 e:∀q,q<p->s'.E.getD q 0=s.E.getD q 0
 d:∀q,q<p->s.st.head? ≠some q->s'.D.getD q 0=s.D.getD q 0
 top:∀j,s.st.head? =some j->s'.D.getD j 0=max (s.D.getD j 0) (JLT F)
 new:∀q,p+(Kw F).length<=q->s'.D.getD q 0=0
 laid:kz N s'.E s'.D p F
structure Begins(N p:Nat)(s:LS):Prop where
 le:s.E.length=N
 ld:s.D.length=N
 lt:∀j∈s.st,j<p
 new:∀q,p<=q->s.D.getD q 0=0
theorem Lays.seq{N p:Nat}{v:PV}{r:List PV}{s s1 s2:LS}(hb:Begins N p s)(h1:Lays N p [v] s s1)(h2:Lays N (p+(Qn v).length) r s1 s2):Lays N p (v::r) s s2:=by
 have e1:(Kw [v]).length=(Qn v).length:=by rw[Kw,Kw,AE]
 have e2:(Kw (v::r)).length=(Qn v).length+(Kw r).length:=by rw[Kw,Ao]
 have htop:∀j,s.st.head? =some j->j<p:=λj hj=>hb.lt j (List.mem_of_mem_head? hj)
 refine⟨h2.st.trans h1.st,h2.le,h2.ld,λq hq=>?_,λq hq hn=>?_,λj hj=>?_,λq hq=>h2.new q om,?_⟩
 ·rw[h2.e q om,h1.e q hq]
 ·rw[h2.d q om (by rw[h1.st];exact hn),h1.d q hq hn]
 ·rw[h2.top j (by rw[h1.st];exact hj),h1.top j hj,JLT,JLT,JLT]
  omega
 ·rw[kz]
  refine⟨JCU v (λq q1 q2=>⟨h2.e q q2,h2.d q q2 (λe=>?_)⟩) (by have:=h1.laid;rw[kz]at this;exact this.1),h2.laid⟩
  rw[h1.st]at e;have:=htop q e;omega
def Lies(l:List Tk4)(p:Nat)(m:List Tk4):Prop:=∀k,k<m.length->l[p+k]? =m[k]?
theorem Lies.left{l a b:List Tk4}{p:Nat}(h:Lies l p (a++b)):Lies l p a:=λk hk=>by rw[h k (by simp;omega),List.getElem?_append_left hk]
theorem Lies.right{l a b:List Tk4}{p:Nat}(h:Lies l p (a++b)):Lies l (p+a.length) b:=λk hk=>by
 have:=h (a.length+k) (by simp;omega)
 rw[List.getElem?_append_right om,Nat.add_sub_cancel_left]at this
 rw[Nat.add_assoc];exact this
theorem Lies.le{l m:List Tk4}{p:Nat}(h:Lies l p m)(hm:m≠[]):p+m.length<=l.length:=by
 have hp:0<m.length:=List.length_pos_iff.2 hm;have h1:=h (m.length-1) om;rw[List.getElem?_eq_getElem (show m.length-1<m.length by omega)]at h1
 have:=(List.getElem?_eq_some_iff.1 h1).1
 omega
def CV.k(v:CV):Int:=v.t.k
def JU(v:CV):Bool:=v.k==13
def Jh(l:List CV):List CV:=((l.dropWhile JU).reverse.dropWhile JU).reverse
def nor(a b:Int)(v:CV):Bool:=v.k !=a&&v.k !=b
mutual
def Jib:Nat->CV->Bool
 |n,.mk t ks=>Ja t.k !=0&&(match n with
  |0=>true
  |n+1=>JLU n ks)
def JLU:Nat->List CV->Bool
 |_,[]=>false
 |n,v::r=>Jib n v||JLU n r
end
def Wz(c:Int):Int:=if 65<=c/\c<=90 then c+32 else c
def Jg(b:List Int):List Int:=b.map Wz
def JQu:List Int:=[105,109,112,111,114,116,97,110,116]
structure Dc where
 name:List Int
 val:List CV
 imp:Bool
def JcY(b:List Int):List Int:=if[45,45].isPrefixOf b then b else Jg b
def JYx(v:List CV):List CV×Bool:=
 match v.reverse with
 |x::y::r=>
  if x.k==1&&Jg x.t.b==JQu then
   match(y::r).dropWhile JU with
   |z::s=>if z.k==9&&z.t.b==[33]then(Jh s.reverse,true)else(v,false)
   |[]=>(v,false)
  else(v,false)
 |_=>(v,false)
def Joj:List CV->Option Dc
 |[]=>none
 |x::l=>if x.k !=1 then none else
  match l.dropWhile JU with
  |[]=>none
  |c::r=>if c.k !=16 then none else if JLU 64 r then none else
   some ⟨JcY x.t.b,(JYx (Jh r)).1,(JYx (Jh r)).2⟩
def JJk:Nat->List CV->List Dc
 |0,_=>[]
 |n+1,[]=>[]
 |n+1,v::r=>
  if v.k==13||v.k==17 then JJk n r
  else if v.k==3 then JJk n ((v::r).dropWhile (nor 17 23)).tail
  else(Joj ((v::r).takeWhile (nor 17 17))).toList++JJk n ((v::r).dropWhile (nor 17 17))
def decls(l:List CV):List Dc:=JJk (l.length+1) l
inductive Ru where
 |mk (kind:Int) (name:List Int) (prel:List CV) (decls:List Dc) (rules:List Ru)
def JXK(n:List Int):Bool:=n==[109,101,100,105,97]||n==[115,117,112,112,111,114,116,115]||n==[99,111,110,116,97,105,110,101,114]
def JCW(sub:List CV->List Ru)(live top:Bool):Nat->List CV->List Ru
 |0,_=>[]
 |n+1,[]=>[]
 |n+1,v::r=>
  if v.k==13||(top&&(v.k==14||v.k==15))then JCW sub live top n r
  else if v.k==3 then
   match(v::r).dropWhile (nor 17 23)with
   |[]=>[]
   |x::s=>(if x.k==23&&JXK (Jg v.t.b)&& !JLU 64 (((v::r).takeWhile (nor 17 23)).tail)&&live then[Ru.mk 2 (Jg v.t.b) (Jh ((v::r).takeWhile (nor 17 23)).tail) [] (sub x.ks)]else[])++JCW sub live top n s
  else
   match(v::r).dropWhile (nor 23 23)with
   |[]=>[]
   |x::s=>(if !JLU 64 ((v::r).takeWhile (nor 23 23))&&live then[Ru.mk 1 [] (Jh ((v::r).takeWhile (nor 23 23))) (decls x.ks) []]else[])++JCW sub live top n s
def JT4:Nat->Bool->List CV->List Ru
 |0,top,l=>JCW (λ_=>[]) false top (l.length+1) l
 |f+1,top,l=>JCW (JT4 f false) true top (l.length+1) l
def rules(l:List CV):List Ru:=JT4 64 true l
def bare(k:Int):Tk4:=⟨k,[],0,0,false,false⟩
mutual
def JCX:CV->List Tk4
 | .mk t ks=>t::(Ka ks++(if Ja t.k=0 then[]else[bare (Ja t.k)]))
def Ka:List CV->List Tk4
 |[]=>[]
 |v::r=>JCX v++Ka r
end
mutual
def JJl:Nat->CV->Bool
 |n,.mk t ks=>decide (1<=t.k/\t.k<=24)&&(if Ja t.k=0 then ks.isEmpty else match n with
  |0=>false
  |n+1=>QN n ks)
def QN:Nat->List CV->Bool
 |_,[]=>true
 |n,v::r=>JJl n v&&QN n r
end
def JNh:List CV->List (List CV)
 |[]=>[[]]
 |v::r=>if v.k==18 then[]::JNh r else match JNh r with
  |p::q=>(v::p)::q
  |[]=>[[v]]
def split(l:List CV):List (List CV):=(JNh l).map Jh
theorem Gn{p:CV->Bool}:∀(A B:List CV),(A++B).dropWhile p=if A.all p then B.dropWhile p else A.dropWhile p++B
 |[],B=>by simp
 |v::A,B=>by rw[AA,A8,A8,Gn A B,Bi];cases p v<;>simp
theorem yj{p:CV->Bool}{A:List CV}(h:A.all p=true):A.dropWhile p=[]:=by
 induction A with
 |nil=>rfl
 |cons v A ih=>rw[Bi,Bool.and_eq_true]at h;rw[A8,if_pos h.1,ih h.2]
theorem JLV{l:List CV}{v:CV}(h:v∈Jh l):v∈l:=by unfold Jh at h;rw[B6]at h;have h1:=(BR _).subset h;rw[B6]at h1;exact(BR _).subset h1
def PV.t:PV->Tk4
 | .leaf t=>t
 | .node t _ _=>t
def Ju(l:List CV):List CV:=l.dropWhile JU
def Kx(l:List CV):List CV:=(l.reverse.dropWhile JU).reverse
theorem jq(l:List CV):Jh l=Kx (Ju l):=rfl
theorem HY{v:CV}{r:List CV}(h:JU v=false):Kx (v::r)=v::Kx r:=by
 unfold Kx;rw[Cg,Gn]
 split
 ·rename_i ha
  rw[A8,h];simp only[Bool.false_eq_true,if_false];rw[yj ha]<;>rfl
 ·rw[Dn]
  rfl
theorem ym{l:List CV}(h:l.all JU=true):Kx l=[]:=by
 unfold Kx;rw[yj (by rw[LV];exact h)]
 rfl
theorem JCY(l:List CV)(v:CV):Kx (l++[v])=if JU v then Kx l else l++[v]:=by
 unfold Kx;rw[Dn,Cg,List.reverse_nil,Au,List.singleton_append,A8]
 split
 ·rfl
 ·rw[Cg,Lk]
theorem zt:Kx []=[]:=rfl
theorem JCZ{v:CV}{r:List CV}(h:JU v=true):Kx (v::r)=if r.all JU then[]else v::Kx r:=by
 by_cases ha:r.all JU=true
 ·rw[if_pos ha]
  exact ym (by rw[Bi,h,ha]<;>rfl)
 ·rw[if_neg ha]
  unfold Kx;rw[Cg,Gn,LV,if_neg ha,Dn]<;>rfl
theorem JGp:∀{r:List CV},Kx r=[]↔r.all JU=true
 |[]=>by simp[zt]
 |v::r=>by
  cases hv:JU v with
  |false=>rw[HY hv];simp[hv]
  |true=>
   rw[JCZ hv,Bi,hv,Bool.true_and]
   split
   ·rename_i h;simp[h]
   ·rename_i h;simp[h]
theorem jR:∀(r:List CV),Ju (Kx r)=Kx (Ju r)
 |[]=>rfl
 |v::r=>by
  cases hv:JU v with
  |false=>
   have h1:Ju (v::r)=v::r:=by unfold Ju;rw[A8,hv]<;>rfl
   rw[h1,HY hv];unfold Ju;rw[A8,hv]
   rfl
  |true=>
   have h1:Ju (v::r)=Ju r:=by unfold Ju;rw[A8,hv]<;>rfl
   rw[h1,JCZ hv]
   split
   ·rename_i ha
    have:Ju r=[]:=yj ha;rw[this]<;>rfl
   ·have h2:Ju (v::Kx r)=Ju (Kx r):=by unfold Ju;rw[A8,hv]<;>rfl
    rw[h2,jR r]
theorem JLW(r:List CV):Kx (Kx r)=Kx r:=by
 unfold Kx;rw[Lk]
 congr 1
 generalize r.reverse=l
 induction l with
 |nil=>rfl
 |cons v l ih=>
  rw[A8]
  split
  ·exact ih
  ·rename_i h;rw[A8,if_neg h]
theorem JLX(l:List CV):Ju (Ju l)=Ju l:=by
 unfold Ju
 induction l with
 |nil=>rfl
 |cons v l ih=>
  rw[A8]
  split
  ·exact ih
  ·rename_i h;rw[A8,if_neg h]
def bs(l:List Int):ByteArray:=⟨(YK l).toArray⟩
def row(t:Tk4):List V:=[.v (.int .i64 t.k),.v (.string (bs t.b)),.v (.int .i64 t.n),.v (.int .i64 t.d),.v (.bool t.w),.v (.bool t.i)]
mutual
def Js:CV->List V
 | .mk t ks=>row t++[.list .no (JJ ks)]
def JJ:List CV->List (List V)
 |[]=>[]
 |v::r=>Js v::JJ r
end
theorem JP(t:Tk4)(ks:List CV):Js (.mk t ks)=[.v (.int .i64 t.k),.v (.string (bs t.b)),.v (.int .i64 t.n),.v (.int .i64 t.d),.v (.bool t.w),.v (.bool t.i),.list .no (JJ ks)]:=by rw[Js]<;>rfl
theorem JLY(v:CV):Js v=[.v (.int .i64 v.t.k),.v (.string (bs v.t.b)),.v (.int .i64 v.t.n),.v (.int .i64 v.t.d),.v (.bool v.t.w),.v (.bool v.t.i),.list .no (JJ v.ks)]:=by obtain⟨t,ks⟩:=v;exact JP t ks
theorem rowsC_map:∀l:List CV,JJ l=l.map Js
 |[]=>by rw[JJ]<;>rfl
 |v::r=>by rw[JJ,rowsC_map r]<;>rfl
theorem JX:JJ []=[]:=by rw[JJ]
theorem JZ(v:CV)(r:List CV):JJ (v::r)=Js v::JJ r:=by rw[JJ]
theorem JD(l:List CV):(JJ l).length=l.length:=by rw[rowsC_map,List.length_map]
theorem Jq(l:List CV)(i:Nat):(JJ l)[i]? =(l[i]?).map Js:=by rw[rowsC_map,List.getElem?_map]
theorem jr(l m:List CV):JJ (l++m)=JJ l++JJ m:=by simp[rowsC_map]
theorem K9(l:List CV)(n:Nat):(JJ l).take n=JJ (l.take n):=by simp[rowsC_map,List.map_take]
theorem QV(l:List CV)(n:Nat):(JJ l).drop n=JJ (l.drop n):=by simp[rowsC_map,List.map_drop]
theorem JT5(v:CV):(Js v).length=7:=by rw[JLY]<;>rfl
theorem Jn(l:List CV):((JJ l).all λx=>x.length==7)=true:=by rw[Ak];intro x hx;rw[rowsC_map]at hx;obtain⟨v,_,rfl⟩:=AM.1 hx;rw[JT5]<;>rfl
theorem HZ(l:List Tk4):((l.map row).all λx=>x.length==6)=true:=by rw[Ak];intro x hx;obtain⟨v,_,rfl⟩:=AM.1 hx;rfl
def JYy(d:Dc):List V:=[.v (.string (bs d.name)),.list .no (JJ d.val),.v (.bool d.imp)]
mutual
def ruV:Ru->List V
 | .mk k n p ds rs=>[.v (.int .i64 k),.v (.string (bs n)),.list .no (JJ p),.list .no (ds.map JYy),.list .no (JQv rs)]
def JQv:List Ru->List (List V)
 |[]=>[]
 |r::l=>ruV r::JQv l
end
theorem JCa:∀l:List Ru,JQv l=l.map ruV
 |[]=>by rw[JQv]<;>rfl
 |v::r=>by rw[JQv,JCa r]<;>rfl
@[go_sem] theorem JYz(l:List Tk4):J2 (l.map row)=false:=by cases l<;>rfl
@[go_sem] theorem YU(l:List CV):J2 (JJ l)=false:=by
 cases l with
 |nil=>rw[JX]<;>rfl
 |cons v r=>rw[JZ,JLY]<;>rfl
@[go_sem] theorem JXL(l:List Dc):J2 (l.map JYy)=false:=by cases l<;>rfl
@[go_sem] theorem JY0(l:List Ru):J2 (JQv l)=false:=by
 cases l with
 |nil=>rw[JCa]<;>rfl
 |cons v r=>rw[JCa,List.map_cons];cases v;rw[ruV]<;>rfl
mutual
def Kj:CV->Nat
 | .mk _ ks=>1+JN ks
def JN:List CV->Nat
 |[]=>0
 |v::r=>Kj v+JN r
end
theorem Qj(v:CV):Kj v=1+JN v.ks:=by cases v;rw[Kj]<;>rfl
theorem Qd:JN []=0:=by rw[JN]
theorem J6(v:CV)(r:List CV):JN (v::r)=Kj v+JN r:=by rw[JN]
theorem JV:∀l:List CV,l.length<=JN l
 |[]=>by simp
 |v::r=>by have:=JV r;rw[J6,Qj,Ae];omega
theorem KO:∀{l:List CV} {v:CV},v∈l->Kj v<=JN l
 |[],v,h=>by cases h
 |x::r,v,h=>by
  rw[J6];rcases AP.1 h with rfl|h
  ·omega
  ·have:=KO h
   omega
theorem JCb{l:List CV}{v:CV}{k:Nat}(h:l[k]? =some v):JN v.ks<=JN l:=by have:=KO (List.mem_of_getElem? h);rw[Qj]at this;omega
theorem Ha:∀l m:List CV,JN (l++m)=JN l+JN m
 |[],m=>by simp[Qd]
 |v::r,m=>by rw[AA,J6,J6,Ha r m];omega
mutual
theorem JGq:∀v:CV,(JCX v).length<=2*Kj v
 | .mk t ks=>by
  have:=G3 ks;rw[JCX,Kj]
  split<;>simp<;>omega
theorem G3:∀l:List CV,(Ka l).length<=2*JN l
 |[]=>by rw[Ka];simp
 |v::r=>by have:=G3 r;have:=JGq v;rw[Ka,JN,Ao];omega
end
end Go.Lift.Rul
end
