/- Characters to bytes: the arithmetic. -/
import Derived.Test.YtppjlemmgpnliaaGreatDoorGLd
open BitVec renaming ofInt->Au,toNat_and->DS,toNat_ofInt->Cw
open Bool renaming and_eq_true->Af,false_or->Bb
open List renaming all_cons->Bg,all_eq_true->As,all_reverse->Ml,append_nil->Av,cons_append->Al,dropWhile_cons->A5,dropWhile_suffix->AR,eq_nil_of_length_eq_zero->AC,length->AW,length_append->Ah,length_cons->Ae,length_drop->Ay,length_map->Ag,length_nil->An,map_cons->A3,mem_cons->A2,mem_cons_of_mem->Bt,mem_map->AP,mem_reverse->CU,nil_append->Ai,not_mem_nil->Cc,reverse_append->CO,reverse_cons->BS,reverse_reverse->LD,take_succ_cons->CN,take_zero->CP
open List.cons renaming injEq->BV
open Nat renaming and_two_pow_sub_one_eq_mod->CK,le_refl->Ab,one_le_two_pow->L4,pow_le_pow_right->LC,shiftLeft_eq->Mk
open Prod.mk renaming injEq->AL
set_option linter.unusedVariables false
set_option linter.unusedSimpArgs false
set_option linter.unusedSectionVars false
section
namespace Go.Lift.Utf
def JQ(x:Int):Int:=if(decide (x<0)||decide (1114111<x)||decide (55296<=x)&&decide (x<=57343))=true then 65533 else x
theorem KO(x:Int):0<=JQ x/\JQ x<=1114111:=by
 unfold JQ
 split
 ·omega
 ·rename_i h
  simp at h;omega
def enc(y:Int):List Int:=
 if y<128 then[y]else if y<2048 then[192+y/64,128+y%64]else if y<65536 then[224+y/4096,128+y/64%64,128+y%64]
 else[240+y/262144,128+y/4096%64,128+y/64%64,128+y%64]
theorem JVQ:∀z:Fin 32,(Au 8 192|||Au 8 (z.val:Int)).toNat=192+z.val:=by decide
theorem JVR:∀z:Fin 16,(Au 8 224|||Au 8 (z.val:Int)).toNat=224+z.val:=by decide
theorem JVS:∀z:Fin 8,(Au 8 240|||Au 8 (z.val:Int)).toNat=240+z.val:=by decide
theorem JVT:∀z:Fin 64,(Au 8 128|||Au 8 (z.val:Int)).toNat=128+z.val:=by decide
theorem JRW:∀z:Fin 32,(Au 32 192|||Au 32 (z.val:Int)).toNat=192+z.val:=by decide
theorem JRX:∀z:Fin 16,(Au 32 224|||Au 32 (z.val:Int)).toNat=224+z.val:=by decide
theorem JRY:∀z:Fin 8,(Au 32 240|||Au 32 (z.val:Int)).toNat=240+z.val:=by decide
theorem JRZ:∀z:Fin 64,(Au 32 128|||Au 32 (z.val:Int)).toNat=128+z.val:=by decide
theorem and63{y:Int}(h0:0<=y)(h1:y<=2147483647):((Au 32 y&&&Au 32 63).toNat:Int)=y%64:=by
 rw[DS]
 have e1:(Au 32 y).toNat=y.toNat:=by rw[Cw];omega
 have e2:(Au 32 63).toNat=2^6-1:=by decide
 rw[e1,e2,CK];omega
theorem o8{c:Int}{n:Nat}(hc:(c=192/\n=32)\/(c=224/\n=16)\/(c=240/\n=8)\/(c=128/\n=64)){y:Int}(h0:0<=y)(h1:y<n):((Au 8 c|||Au 8 y).toNat:Int)=c+y:=by
 obtain⟨z,rfl⟩:∃z:Nat,y=z:=⟨y.toNat,om⟩;rcases hc with⟨rfl,rfl⟩|⟨rfl,rfl⟩|⟨rfl,rfl⟩|⟨rfl,rfl⟩
 ·have:=JVQ ⟨z,om⟩;simp only at this;omega
 ·have:=JVR ⟨z,om⟩;simp only at this;omega
 ·have:=JVS ⟨z,om⟩;simp only at this;omega
 ·have:=JVT ⟨z,om⟩;simp only at this;omega
theorem o32{c:Int}{n:Nat}(hc:(c=192/\n=32)\/(c=224/\n=16)\/(c=240/\n=8)\/(c=128/\n=64)){y:Int}(h0:0<=y)(h1:y<n):((Au 32 c|||Au 32 y).toNat:Int)=c+y:=by
 obtain⟨z,rfl⟩:∃z:Nat,y=z:=⟨y.toNat,om⟩;rcases hc with⟨rfl,rfl⟩|⟨rfl,rfl⟩|⟨rfl,rfl⟩|⟨rfl,rfl⟩
 ·have:=JRW ⟨z,om⟩;simp only at this;omega
 ·have:=JRX ⟨z,om⟩;simp only at this;omega
 ·have:=JRY ⟨z,om⟩;simp only at this;omega
 ·have:=JRZ ⟨z,om⟩;simp only at this;omega
def nd(c:Int):Nat×Int×Int:=
 if 194<=c/\c<=223 then(1,128,191)
 else if c=224 then(2,160,191)
 else if c=237 then(2,128,159)
 else if 225<=c/\c<=239 then(2,128,191)
 else if c=240 then(3,144,191)
 else if 241<=c/\c<=243 then(3,128,191)
 else if c=244 then(3,128,143)
 else(0,0,0)
def more:Nat->Int->Int->Int->Nat->List Int->Int×Nat×Bool
 |0,r,_,_,k,_=>(r,k,true)
 |_+1,_,_,_,k,[]=>(65533,k,false)
 |n+1,r,lo,hi,k,c::t=>if c<lo\/hi<c then(65533,k,false)else more n (r*64+c%64) 128 191 (k+1) t
def one:List Int->Int×Nat×Bool
 |[]=>(65533,1,false)
 |c::t=>if c<128 then(c,1,true)else if(nd c).1=0 then(65533,1,false)else more (nd c).1 (c%2^ (6-(nd c).1)) (nd c).2.1 (nd c).2.2 1 t
abbrev By(b:List Int):Prop:=∀c∈b,0<=c/\c<=255
theorem Jfo{r y:Int}(h0:0<=r)(h1:r<=1000000)(h2:0<=y)(h3:y<64):(ior .i32 (r*64) y)=r*64+y:=by
 obtain⟨m,rfl⟩:∃m:Nat,r=m:=⟨r.toNat,om⟩;obtain⟨z,rfl⟩:∃z:Nat,y=z:=⟨y.toNat,om⟩;show((Au 32 ((m:Int)*64)|||Au 32 (z:Int)).toNat:Int)=_
 rw[BitVec.toNat_or]
 have e1:(Au 32 ((m:Int)*64)).toNat=m<<<6:=by rw[Cw,Mk];omega
 have e2:(Au 32 (z:Int)).toNat=z:=by rw[Cw];omega
 rw[e1,e2,<-Nat.shiftLeft_add_eq_or_of_lt om,Mk];omega
theorem JVU{y:Int}{k:Nat}(hk:k<=7)(h0:0<=y)(h1:y<=255):YH .u8 y (2^k-1)=y%2^k:=by
 obtain⟨z,rfl⟩:∃z:Nat,y=z:=⟨y.toNat,om⟩;show((Au 8 (z:Int)&&&Au 8 ((2:Int)^k-1)).toNat:Int)=_
 rw[DS]
 have e1:(Au 8 (z:Int)).toNat=z:=by rw[Cw];omega
 have hp:2^k<=128:=by have:2^k<=2^7:=LC om hk;omega
 have hq:1<=2^k:=L4
 have e2:(Au 8 ((2:Int)^k-1)).toNat=2^k-1:=by
  have e3:(2:Int)^k=((2^k:Nat):Int):=by simp
  rw[Cw,e3];omega
 rw[e1,e2,CK];simp
theorem JNZ{y:Int}{k:Nat}(hk:k<=7)(h0:0<=y)(h1:y<=2147483647):YH .i32 y (2^k-1)=y%2^k:=by
 obtain⟨z,rfl⟩:∃z:Nat,y=z:=⟨y.toNat,om⟩;show((Au 32 (z:Int)&&&Au 32 ((2:Int)^k-1)).toNat:Int)=_
 rw[DS]
 have e1:(Au 32 (z:Int)).toNat=z:=by rw[Cw];omega
 have hp:2^k<=128:=by have:2^k<=2^7:=LC om hk;omega
 have hq:1<=2^k:=L4
 have e2:(Au 32 ((2:Int)^k-1)).toNat=2^k-1:=by
  have e3:(2:Int)^k=((2^k:Nat):Int):=by simp
  rw[Cw,e3];omega
 rw[e1,e2,CK];simp
section
variable{y:Int}(h0:0<=y)(h1:y<=255)
include h0 h1
theorem a63:YH .u8 y 63=y%64:=JVU (k:=6) om h0 h1
theorem a31:YH .u8 y 31=y%32:=JVU (k:=5) om h0 h1
theorem a15:YH .u8 y 15=y%16:=JVU (k:=4) om h0 h1
theorem a7:YH .u8 y 7=y%8:=JVU (k:=3) om h0 h1
theorem c63:YH .i32 y 63=y%64:=JNZ (k:=6) om h0 om
theorem c31:YH .i32 y 31=y%32:=JNZ (k:=5) om h0 om
theorem c15:YH .i32 y 15=y%16:=JNZ (k:=4) om h0 om
theorem c7:YH .i32 y 7=y%8:=JNZ (k:=3) om h0 om
end
def JDc:Nat->List Int->List Int
 |0,_=>[]
 |_+1,[]=>[]
 |n+1,c::t=>(one (c::t)).1::JDc n ((c::t).drop (one (c::t)).2.1)
def WJ(b:List Int):List Int:=JDc b.length b
def zP:Nat->List Int->Bool
 |0,_=>true
 |_+1,[]=>true
 |n+1,c::t=>(one (c::t)).2.2&&zP n ((c::t).drop (one (c::t)).2.1)
def whole(b:List Int):Bool:=zP b.length b
theorem JRa:∀(n:Nat) (r lo hi:Int) (k:Nat) (t:List Int),k<=(more n r lo hi k t).2.1/\(more n r lo hi k t).2.1<=k+n/\(more n r lo hi k t).2.1<=k+t.length
 |0,_,_,_,_,_=>by simp[more]
 |n+1,_,_,_,_,[]=>by simp[more]
 |n+1,r,lo,hi,k,c::t=>by
  unfold more
  split
  ·simp
  ·have:=JRa n (r*64+c%64) 128 191 (k+1) t
   simp only[Ae];omega
theorem JXn(c:Int):(nd c).1<=3:=by
 unfold nd
 repeat' split
 all_goals simp
theorem JB7(c:Int)(t:List Int):1<=(one (c::t)).2.1/\(one (c::t)).2.1<=4/\(one (c::t)).2.1<=(c::t).length:=by
 simp only[one]
 split
 ·simp
 ·split
  ·simp
  ·have:=JRa (nd c).1 (c%2^ (6-(nd c).1)) (nd c).2.1 (nd c).2.2 1 t
   have:=JXn c;simp only[Ae];omega
theorem JGH:∀(n m:Nat) (b:List Int),b.length<=n->b.length<=m->JDc n b=JDc m b
 |0,0,_,_,_=>rfl
 |0,m+1,[],_,_=>rfl
 |n+1,0,[],_,_=>rfl
 |n+1,m+1,[],_,_=>rfl
 |n+1,m+1,c::t,h1,h2=>by have:=JB7 c t;simp only[JDc];rw[JGH n m _ (by rw[Ay];omega) (by rw[Ay];omega)]
theorem JAX:∀(n m:Nat) (b:List Int),b.length<=n->b.length<=m->zP n b=zP m b
 |0,0,_,_,_=>rfl
 |0,m+1,[],_,_=>rfl
 |n+1,0,[],_,_=>rfl
 |n+1,m+1,[],_,_=>rfl
 |n+1,m+1,c::t,h1,h2=>by have:=JB7 c t;simp only[zP];rw[JAX n m _ (by rw[Ay];omega) (by rw[Ay];omega)]
theorem JA4:WJ []=[]:=rfl
theorem JJ4(c:Int)(t:List Int):WJ (c::t)=(one (c::t)).1::WJ ((c::t).drop (one (c::t)).2.1):=by
 have:=JB7 c t;show(one (c::t)).1::JDc t.length ((c::t).drop (one (c::t)).2.1)=_
 rw[WJ,JGH _ _ _ (by rw[Ay,Ae];omega) (Ab _)]
theorem JGJ:whole []=true:=rfl
theorem JMA(c:Int)(t:List Int):whole (c::t)=((one (c::t)).2.2&&whole ((c::t).drop (one (c::t)).2.1)):=by
 have:=JB7 c t;show((one (c::t)).2.2&&zP t.length ((c::t).drop (one (c::t)).2.1))=_
 rw[whole,JAX _ _ _ (by rw[Ay,Ae];omega) (Ab _)]
theorem By.drop{b:List Int}(h:By b)(n:Nat):By (b.drop n):=λc hc=>h c (List.mem_of_mem_drop hc)
theorem JA5:∀(n:Nat) (b:List Int),(JDc n b).length<=b.length
 |0,_=>by simp[JDc]
 |n+1,[]=>by simp[JDc]
 |n+1,c::t=>by have:=JB7 c t;have:=JA5 n ((c::t).drop (one (c::t)).2.1);rw[Ay]at this;simp only[JDc,Ae]at*;omega
theorem Jfp{r:Int}(h0:0<=r)(h1:r<=1000000):IntKind.i32.wrap (JdV .i32 r 6)=r*64:=wrap_i32 (by show _<=r*64;omega) (by show r*64<=_;omega)
theorem JJ5{c:Int}(h:(nd c).1≠0):((nd c).1=1/\194<=c/\c<=223/\(nd c).2=(128,191))\/
  ((nd c).1=2/\224<=c/\c<=239/\128<=(nd c).2.1/\(nd c).2.2<=191/\(c=224->160<=(nd c).2.1)/\(c=237->(nd c).2.2<=159)/\(c≠224->(nd c).2.1=128)/\(c≠237->(nd c).2.2=191)/\(c=224->(nd c).2.1=160)/\(c=237->(nd c).2.2=159))\/
  ((nd c).1=3/\240<=c/\c<=244/\128<=(nd c).2.1/\(nd c).2.2<=191/\(c=240->(nd c).2.1=144)/\(c=244->(nd c).2.2=143)/\(c≠240->(nd c).2.1=128)/\(c≠244->(nd c).2.2=191)):=by
 unfold nd at h⊢
 repeat' split
 all_goals simp_all
 all_goals omega
theorem Jav{b:List Int}(h:(one b).2.2=true)(hn:b≠[]):∃x k,one b=(x,k,true)/\(
  (∃t,b=x::t/\k=1/\x<128)\/
  (∃c d t,b=c::d::t/\k=2/\194<=c/\c<=223/\128<=d/\d<=191/\x=c%32*64+d%64)\/
  (∃c d e t,b=c::d::e::t/\k=3/\224<=c/\c<=239/\128<=d/\d<=191/\128<=e/\e<=191/\(c=224->160<=d)/\(c=237->d<=159)/\x=(c%16*64+d%64)*64+e%64)\/
  (∃c d e f t,b=c::d::e::f::t/\k=4/\240<=c/\c<=244/\128<=d/\d<=191/\128<=e/\e<=191/\128<=f/\f<=191/\(c=240->144<=d)/\(c=244->d<=143)/\x=((c%8*64+d%64)*64+e%64)*64+f%64)):=by
 match b,hn with
 |c::t,_=>
  simp only[one]at h⊢;by_cases h0:c<128
  ·rw[if_pos h0]
   exact⟨c,1,rfl,.inl ⟨t,rfl,rfl,h0⟩⟩
  rw[if_neg h0]at h⊢;by_cases hz:(nd c).1=0
  ·rw[if_pos hz]at h;simp at h
  rw[if_neg hz]at h⊢;rcases JJ5 hz with⟨e1,h1,h2,e2⟩|⟨e1,h1,h2,h3,h4,h5,h6,_⟩|⟨e1,h1,h2,h3,h4,h5,h6,_⟩
  ·rw[e1,e2]at h⊢
   match t,h with
   |[],h=>simp[more]at h
   |d::t,h=>
    simp only[more]at h⊢
    split at h
    ·simp at h
    ·rename_i hd
     rw[if_neg hd];exact⟨_,_,rfl,.inr (.inl ⟨c,d,t,rfl,rfl,h1,h2,om,om,rfl⟩)⟩
  ·rw[e1]at h⊢
   match t,h with
   |[],h=>simp[more]at h
   |[d],h=>simp only[more]at h;split at h<;>simp at h
   |d::e::t,h=>
    simp only[more]at h⊢
    split at h
    ·simp at h
    ·rename_i hd
     rw[if_neg hd]
     split at h
     ·simp at h
     ·rename_i he
      rw[if_neg he];exact⟨_,_,rfl,.inr (.inr (.inl ⟨c,d,e,t,rfl,rfl,h1,h2,om,om,om,om,om,om,rfl⟩))⟩
  ·rw[e1]at h⊢
   match t,h with
   |[],h=>simp[more]at h
   |[d],h=>simp only[more]at h;split at h<;>simp at h
   |[d,e],h=>
    simp only[more]at h
    split at h
    ·simp at h
    ·split at h<;>simp at h
   |d::e::f::t,h=>
    simp only[more]at h⊢
    split at h
    ·simp at h
    ·rename_i hd
     rw[if_neg hd]
     split at h
     ·simp at h
     ·rename_i he
      rw[if_neg he]
      split at h
      ·simp at h
      ·rename_i hf
       rw[if_neg hf];exact⟨_,_,rfl,.inr (.inr (.inr ⟨c,d,e,f,t,rfl,rfl,h1,h2,om,om,om,om,om,om,om,om,rfl⟩))⟩
theorem JNa:∀(n:Nat) (r lo hi:Int) (k:Nat) (t:List Int),(more n r lo hi k t).2.2=false->(more n r lo hi k t).1=65533/\(more n r lo hi k t).2.1<k+n
 |0,_,_,_,_,_,h=>by simp[more]at h
 |n+1,_,_,_,_,[],_=>by simp[more]
 |n+1,r,lo,hi,k,c::t,h=>by
  unfold more at h⊢
  split
  ·simp
  ·rename_i hc
   rw[if_neg hc]at h;have:=JNa n _ _ _ _ _ h;omega
theorem JRb{b:List Int}(h:(one b).2.2=false)(hn:b≠[]):(one b).1=65533/\((one b).2.1<3\/ ∃c t,b=c::t/\240<=c):=by
 match b,hn with
 |c::t,_=>
  simp only[one]at h⊢
  split
  ·rename_i h0;rw[if_pos h0]at h;simp at h
  ·rename_i h0
   rw[if_neg h0]at h
   split
   ·simp
   ·rename_i hz
    rw[if_neg hz]at h;have:=JNa _ _ _ _ _ _ h;refine⟨this.1,?_⟩
    rcases JJ5 hz with⟨e1,h1,h2,_⟩|⟨e1,h1,h2,_⟩|⟨e1,h1,h2,_⟩
    ·left;omega
    ·left;omega
    ·right;exact⟨c,t,rfl,h1⟩
theorem scal_ok{x:Int}(h0:0<=x)(h1:x<=1114111)(h2:x<55296\/57343<x):JQ x=x:=by unfold JQ;rw[if_neg];simp;omega
theorem Hu(x:Int):JQ x=x↔0<=x/\x<=1114111/\(x<55296\/57343<x):=by
 constructor
 ·intro h
  unfold JQ at h
  split at h
  ·subst h;omega
  ·rename_i h1;simp at h1;omega
 ·intro⟨h0,h1,h2⟩;exact scal_ok h0 h1 h2
theorem JPK(x:Int):JQ (JQ x)=JQ x:=by
 unfold JQ
 split
 ·rfl
 ·rfl
theorem JHS{b:List Int}(hy:By b)(h:(one b).2.2=true)(hn:b≠[]):JQ (one b).1=(one b).1/\enc (one b).1=b.take (one b).2.1:=by
 obtain⟨x,k,e,hc⟩:=Jav h hn;rw[e];simp only;rcases hc with⟨t,rfl,rfl,hx⟩|⟨c,d,t,rfl,rfl,h1,h2,h3,h4,rfl⟩|⟨c,d,f,t,rfl,rfl,h1,h2,h3,h4,h5,h6,h7,h8,rfl⟩|⟨c,d,f,g,t,rfl,rfl,h1,h2,h3,h4,h5,h6,h7,h8,h9,h10,rfl⟩
 ·have:=hy x (List.mem_cons_self ..)
  refine⟨scal_ok om om om,?_⟩
  unfold enc;rw[if_pos hx]<;>rfl
 ·refine⟨scal_ok om om om,?_⟩
  unfold enc;rw[if_neg om,if_pos om];simp only[CN,CP,BV,and_true];omega
 ·refine⟨scal_ok om om om,?_⟩
  unfold enc;rw[if_neg om,if_neg om,if_pos om];simp only[CN,CP,BV,and_true];omega
 ·refine⟨scal_ok om om om,?_⟩
  unfold enc;rw[if_neg om,if_neg om,if_neg om];simp only[CN,CP,BV,and_true];omega
theorem JRc{b:List Int}(hy:By b)(hn:b≠[]):JQ (one b).1=(one b).1:=by
 cases h:(one b).2.2 with
 |true=>exact(JHS hy h hn).1
 |false=>rw[(JRb h hn).1]<;>rfl
theorem JMB(c:Int):(194<=c/\c<=223->nd c=(1,128,191))/\(c=224->nd c=(2,160,191))/\(c=237->nd c=(2,128,159))/\(225<=c/\c<=239/\c≠237->nd c=(2,128,191))/\
  (c=240->nd c=(3,144,191))/\(241<=c/\c<=243->nd c=(3,128,191))/\(c=244->nd c=(3,128,143)):=by
 unfold nd;refine⟨?_,?_,?_,?_,?_,?_,?_⟩<;>intro h
 ·rw[if_pos h]
 ·rw[if_neg om,if_pos h]
 ·rw[if_neg om,if_neg om,if_pos h]
 ·rw[if_neg om,if_neg om,if_neg om,if_pos om]
 ·rw[if_neg om,if_neg om,if_neg om,if_neg om,if_pos h]
 ·rw[if_neg om,if_neg om,if_neg om,if_neg om,if_neg om,if_pos h]
 ·rw[if_neg om,if_neg om,if_neg om,if_neg om,if_neg om,if_neg om,if_pos h]
theorem JMC{x:Int}(hs:JQ x=x)(rest:List Int):one (enc x++rest)=(x,(enc x).length,true):=by
 obtain⟨h0,h1,h2⟩:=(Hu x).mp hs;unfold enc;by_cases c1:x<128
 ·rw[if_pos c1]
  simp only[Al,Ai,one,if_pos c1];rfl
 rw[if_neg c1];by_cases c2:x<2048
 ·rw[if_pos c2]
  have e:=(JMB (192+x/64)).1 om;simp only[Al,Ai,one,if_neg (show¬192+x/64<128 by omega),e,Nat.one_ne_zero,if_false,more,if_neg (show¬(128+x%64<128\/191<128+x%64)by omega)]
  simp only[Ae,An,AL,and_true];omega
 rw[if_neg c2];by_cases c3:x<65536
 ·rw[if_pos c3]
  have e:∃lo hi,nd (224+x/4096)=(2,lo,hi)/\ ¬(128+x/64%64<lo\/hi<128+x/64%64):=by
   by_cases g1:224+x/4096=224
   ·exact⟨_,_,(JMB _).2.1 g1,om⟩
   by_cases g2:224+x/4096=237
   ·exact⟨_,_,(JMB _).2.2.1 g2,om⟩
   exact⟨_,_,(JMB _).2.2.2.1 om,om⟩
  obtain⟨lo,hi,e,hd⟩:=e;simp only[Al,Ai,one,if_neg (show¬224+x/4096<128 by omega),e,if_neg (show¬((2:Nat)=0)by omega),more,if_neg hd,if_neg (show¬(128+x%64<128\/191<128+x%64)by omega)]
  simp only[Ae,An,AL,and_true];omega
 rw[if_neg c3]
 have e:∃lo hi,nd (240+x/262144)=(3,lo,hi)/\ ¬(128+x/4096%64<lo\/hi<128+x/4096%64):=by
  by_cases g1:240+x/262144=240
  ·exact⟨_,_,(JMB _).2.2.2.2.1 g1,om⟩
  by_cases g2:240+x/262144=244
  ·exact⟨_,_,(JMB _).2.2.2.2.2.2 g2,om⟩
  exact⟨_,_,(JMB _).2.2.2.2.2.1 om,om⟩
 obtain⟨lo,hi,e,hd⟩:=e;simp only[Al,Ai,one,if_neg (show¬240+x/262144<128 by omega),e,if_neg (show¬((3:Nat)=0)by omega),more,if_neg hd,if_neg (show¬(128+x/64%64<128\/191<128+x/64%64)by omega),if_neg (show¬(128+x%64<128\/191<128+x%64)by omega)]
 simp only[Ae,An,AL,and_true];omega
def JB8(b:List Int):Bool:=b.take 3==[239,191,189]
def bad(b:List Int):Bool:=(one b).1==65533&&(decide ((one b).2.1<3)|| !(JB8 b))
theorem Jaw{b:List Int}(hy:By b)(hn:b≠[]):bad b= !(one b).2.2:=by
 cases h:(one b).2.2 with
 |false=>
  obtain⟨h1,h2⟩:=JRb h hn;rw[bad,h1];rcases h2 with h2|⟨c,t,rfl,hc⟩
  ·simp[h2]
  ·have:JB8 (c::t)=false:=by
    simp only[JB8,CN,beq_eq_false_iff_ne,ne_eq,BV,not_and];omega
   simp[this]
 |true=>
  obtain⟨h1,h2⟩:=JHS hy h hn;by_cases hx:(one b).1=65533
  ·rw[hx]at h2
   have e:enc 65533=[239,191,189]:=by decide
   have hk:(one b).2.1=3:=by
    have:=congrArg AW h2;rw[e,List.length_take]at this
    have hk:=(show(one b).2.1<=b.length from by
     cases b with
     |nil=>exact absurd rfl hn
     |cons c t=>exact(JB7 c t).2.2)
    simp at this;omega
   rw[hk,e]at h2;have:JB8 b=true:=by rw[JB8,<-h2]<;>rfl
   simp[bad,hk,this]
  ·have:((one b).1==65533)=false:=by simp[hx]
   simp[bad,this]
theorem JGK{b:List Int}(h:b≠[]):WJ b=(one b).1::WJ (b.drop (one b).2.1):=by
 cases b with
 |nil=>exact absurd rfl h
 |cons c t=>exact JJ4 c t
theorem JA6{b:List Int}(h:b≠[]):whole b=((one b).2.2&&whole (b.drop (one b).2.1)):=by
 cases b with
 |nil=>exact absurd rfl h
 |cons c t=>exact JMA c t
theorem jt{b:List Int}(h:b≠[]):1<=(one b).2.1/\(one b).2.1<=4/\(one b).2.1<=b.length:=by
 cases b with
 |nil=>exact absurd rfl h
 |cons c t=>exact JB7 c t
theorem zQ{p:List Int->Prop}(h0:p [])(h1:∀b,b≠[]->p (b.drop (one b).2.1)->p b)(b:List Int):p b:=by
 suffices∀n (b:List Int),b.length<=n->p b from this b.length b (Ab _)
 intro n
 induction n with
 |zero=>intro b hb;obtain rfl:b=[]:=AC om;exact h0
 |succ n ih=>
  intro b hb;by_cases hn:b=[]
  ·subst hn;exact h0
  ·have:=jt hn
   exact h1 b hn (ih _ (by rw[Ay];omega))
theorem zR(b:List Int):(WJ b).length<=b.length/\b.length<=4*(WJ b).length:=by
 refine zQ (p:=λb=>(WJ b).length<=b.length/\b.length<=4*(WJ b).length) (by simp[JA4]) (λb hn ih=>?_) b
 have hk:=jt hn;rw[JGK hn,Ae];rw[Ay]at ih;omega
theorem JB9(b:List Int):By b->∀x∈WJ b,JQ x=x:=by
 refine zQ (p:=λb=>By b->∀x∈WJ b,JQ x=x) (by simp[JA4]) (λb hn ih hy=>?_) b
 rw[JGK hn];intro x hx;rcases A2.mp hx with rfl|hx
 ·exact JRc hy hn
 ·exact ih (hy.drop _) x hx
def JJ(l:List Int):List Int:=l.flatMap λx=>enc (JQ x)
theorem zS(x:Int)(h0:0<=x)(h1:x<=1114111):By (enc x):=by
 unfold enc;intro c hc
 split at hc
 ·simp only[A2,Cc,or_false]at hc;omega
 ·split at hc
  ·simp only[A2,Cc,or_false]at hc;omega
  ·split at hc<;>simp only[A2,Cc,or_false]at hc<;>omega
theorem J8(l:List Int):By (JJ l):=by intro c hc;obtain⟨x,_,hx⟩:=List.mem_flatMap.mp hc;have:=KO x;exact zS _ this.1 this.2 c hx
theorem Jax(x:Int):enc x≠[]:=by
 unfold enc
 split
 ·simp
 ·split
  ·simp
  ·split<;>simp
theorem KT(x:Int)(l:List Int):JJ (x::l)=enc (JQ x)++JJ l:=rfl
theorem Hv:∀l:List Int,WJ (JJ l)=l.map JQ/\whole (JJ l)=true
 |[]=>⟨rfl,rfl⟩
 |x::l=>by
  have ih:=Hv l;have h1:=JMC (JPK x) (JJ l);have hn:enc (JQ x)++JJ l≠[]:=by simp[Jax]
  rw[KT,JGK hn,JA6 hn,h1];simp only[List.drop_left,A3,ih.1,ih.2,Bool.and_self,and_self]
theorem JCA(b:List Int):By b->whole b=true->JJ (WJ b)=b:=by
 refine zQ (p:=λb=>By b->whole b=true->JJ (WJ b)=b) (λ_ _=>rfl) (λb hn ih hy h=>?_) b
 rw[JA6 hn,Af]at h;obtain⟨h1,h2⟩:=JHS hy h.1 hn;rw[JGK hn,KT,h1,h2,ih (hy.drop _) h.2,List.take_append_drop]
def HJ(back:Bool)(x:Int):List Int:=if x==10&&back then[]else[if x==13||x==12 then 10 else if x==0 then 65533 else x]
def dec:Bool->List Int->List Int
 |_,[]=>[]
 |back,x::l=>HJ back x++dec (x==13) l
def bom(b:List Int):Bool:=b.take 3==[239,187,191]
def Wl(b:List Int):List Int:=if bom b=true then b.drop 3 else b
def decode(b:List Int):List Int:=dec false (WJ (Wl b))
theorem JRd{b:List Int}(hy:By b):By (Wl b):=by
 unfold Wl
 split
 ·exact hy.drop _
 ·exact hy
end Go.Lift.Utf
end

section
namespace Go.Lift.Tok
open Utf
def chr(s:List Int)(k:Nat):Int:=match s[k]? with
 |some x=>x
 |none=> -1
def dig(c:Int):Bool:=decide (48<=c)&&decide (c<=57)
def kW(c:Int):Bool:=decide (97<=c)&&decide (c<=122)||decide (65<=c)&&decide (c<=90)||c==95||decide (128<=c)
def GR(c:Int):Bool:=kW c||dig c||c==45
def blk(c:Int):Bool:=c==10||c==9||c==32
def unp(c:Int):Bool:=decide (0<=c)&&decide (c<=8)||c==11||decide (14<=c)&&decide (c<=31)||c==127
def hex(c:Int):Int:=if dig c=true then c-48 else if(decide (97<=c)&&decide (c<=102))=true then c-97+10 else if(decide (65<=c)&&decide (c<=70))=true then c-65+10 else-1
def esc(a b:Int):Bool:=a==92&&b !=10
def beg(a b c:Int):Bool:=if(a==45)=true then kW b||b==45||esc b c else kW a||esc a b
def num(a b c:Int):Bool:=if(a==43||a==45)=true then dig b||b==46&&dig c else dig a||a==46&&dig b
def quo(c:Int):Bool:=c==34||c==39
def K5(s:List Int):List Int:=s.dropWhile blk
def YU:Nat->Int->List Int->Int×List Int
 |0,n,s=>(n,s)
 |_+1,n,[]=>(n,[])
 |k+1,n,c::t=>if hex c<0 then(n,c::t)else YU k (n*16+hex c) t
def JDe:List Int->List Int
 |[]=>[]
 |d::u=>if blk d=true then u else d::u
def K6:List Int->Int×List Int
 |[]=>(65533,[])
 |c::t=>if hex c<0 then(c,t)else
  (if(YU 6 0 (c::t)).1=0 then 65533 else JQ (YU 6 0 (c::t)).1,JDe (YU 6 0 (c::t)).2)
def QD:Nat->List Int->List Int×List Int
 |0,s=>([],s)
 |_+1,[]=>([],[])
 |n+1,c::t=>
  if GR c=true then(c::(QD n t).1,(QD n t).2)
  else if esc c (chr t 0)=true then((K6 t).1::(QD n (K6 t).2).1,(QD n (K6 t).2).2)
  else([],c::t)
def name(s:List Int):List Int×List Int:=QD s.length s
def yO:List Int->List Int
 |[]=>[]
 |[_]=>[]
 |c::d::t=>if c=42/\d=47 then t else yO (d::t)
def JCB:Nat->List Int->List Int
 |0,s=>s
 |n+1,c::d::t=>if c=47/\d=42 then JCB n (yO t)else c::d::t
 |_+1,s=>s
def Gp(s:List Int):List Int:=JCB s.length s
def QP(sign:Int):Nat->List Int->Bool×List Int×List Int
 |0,s=>(true,[],s)
 |_+1,[]=>(true,[],[])
 |n+1,c::t=>
  if c=10 then(false,[],c::t)
  else if c=sign then(true,[],t)
  else if c=92 then
   match t with
   |[]=>(true,[],[])
   |d::u=>if d=10 then QP sign n u else((QP sign n (K6 t).2).1,(K6 t).1::(QP sign n (K6 t).2).2.1,(QP sign n (K6 t).2).2.2)
  else((QP sign n t).1,c::(QP sign n t).2.1,(QP sign n t).2.2)
def txt(sign:Int)(s:List Int):Bool×List Int×List Int:=QP sign s.length s
def jl:Nat->List Int->List Int
 |0,s=>s
 |_+1,[]=>[]
 |n+1,c::t=>if c=41 then t else if esc c (chr t 0)=true then jl n (K6 t).2 else jl n t
def JCC(s:List Int):List Int:=jl s.length s
def QU:Nat->List Int->Bool×List Int×List Int
 |0,s=>(true,[],s)
 |_+1,[]=>(true,[],[])
 |n+1,c::t=>
  if c=41 then(true,[],t)
  else if blk c=true then(if chr (K5 t) 0= -1\/chr (K5 t) 0=41 then(true,[],(K5 t).drop 1)else(false,[],JCC (K5 t)))
  else if(quo c||c==40||unp c)=true then(false,[],JCC (c::t))
  else if c=92 then
   if esc c (chr t 0)=true then((QU n (K6 t).2).1,(K6 t).1::(QU n (K6 t).2).2.1,(QU n (K6 t).2).2.2)
   else(false,[],JCC (c::t))
  else((QU n t).1,c::(QU n t).2.1,(QU n t).2.2)
def url(s:List Int):Bool×List Int×List Int:=QU (K5 s).length (K5 s)
structure Tk where
 kind:Int
 text:List Int
 num:Int×Int
 whole:Bool
 id:Bool
 deriving DecidableEq
end Go.Lift.Tok
end

section
namespace Go.Lift.Rul
structure Tk4 where
 k:Int
 b:List Int
 n:Int
 d:Int
 w:Bool
 i:Bool
 deriving DecidableEq
def JS(k:Int):Int:=if k=2\/k=21 then 22 else if k=19 then 20 else if k=23 then 24 else 0
theorem GS(k:Int):JS k=0\/JS k=20\/JS k=22\/JS k=24:=by
 unfold JS
 repeat' split
 all_goals simp
inductive CV where
 |mk (t:Tk4) (kids:List CV)
def CV.t:CV->Tk4
 | .mk t _=>t
def CV.ks:CV->List CV
 | .mk _ k=>k
abbrev Wh:=List (Tk4×List CV)
def Kp(v:CV):Wh->List CV->Wh×List CV
 |[],b=>([],b++[v])
 |(o,ks)::r,b=>((o,ks++[v])::r,b)
def Qc:Wh->List CV->Wh×List CV
 |[],b=>([],b)
 |(o,ks)::r,b=>Kp (.mk o ks) r b
def ctx:Wh->Option Int
 |[]=>none
 |(o,_)::_=>some (JS o.k)
def Qz(t:Tk4)(s:Wh)(b:List CV):Wh×List CV:=
 if ctx s=some t.k then Qc s b else if JS t.k≠0 then((t,[])::s,b)else Kp (.mk t []) s b
def runS:List Tk4->Wh->List CV->Wh×List CV
 |[],s,b=>(s,b)
 |t::l,s,b=>runS l (Qz t s b).1 (Qz t s b).2
theorem JCD(v:CV)(s:Wh)(b:List CV):(Kp v s b).1.length=s.length:=by
 cases s with
 |nil=>rfl
 |cons p r=>rfl
theorem zT(o:Tk4×List CV)(r:Wh)(b:List CV):(Qc (o::r) b).1.length=r.length:=JCD _ _ _
def JRe:Nat->Wh->List CV->List CV
 |0,_,b=>b
 |n+1,s,b=>JRe n (Qc s b).1 (Qc s b).2
def Wd(s:Wh)(b:List CV):List CV:=JRe s.length s b
def Hw(l:List Tk4):List CV:=Wd (runS l [] []).1 (runS l [] []).2
inductive PV where
 |leaf (t:Tk4)
 |node (t:Tk4) (kids:List PV) (c:Option Tk4)
mutual
def QS:PV->List Tk4
 | .leaf t=>[t]
 | .node t ks c=>t::(Ka ks++c.toList)
def Ka:List PV->List Tk4
 |[]=>[]
 |v::r=>QS v++Ka r
end
mutual
def cvV:PV->CV
 | .leaf t=> .mk t []
 | .node t ks _=> .mk t (cvL ks)
def cvL:List PV->List CV
 |[]=>[]
 |v::r=>cvV v::cvL r
end
mutual
def Qq(x:Option Int)(last:Bool):PV->Prop
 | .leaf t=>JS t.k=0/\x≠some t.k
 | .node t ks c=>JS t.k≠0/\x≠some t.k/\(match c with
  |some e=>e.k=JS t.k/\Q4 (some (JS t.k)) false ks
  |none=>last=true/\Q4 (some (JS t.k)) true ks)
def Q4(x:Option Int)(last:Bool):List PV->Prop
 |[]=>True
 |v::r=>Qq x (last&&r.isEmpty) v/\Q4 x last r
end
theorem Gq{x:Option Int}{b:Bool}{t:Tk4}:Qq x b (.leaf t)↔JS t.k=0/\x≠some t.k:=by rw[Qq]
theorem WK{x:Option Int}{b:Bool}{t:Tk4}{ks:List PV}:Qq x b (.node t ks none)↔JS t.k≠0/\x≠some t.k/\b=true/\Q4 (some (JS t.k)) true ks:=by rw[Qq]
theorem ZB{x:Option Int}{b:Bool}{t e:Tk4}{ks:List PV}:Qq x b (.node t ks (some e))↔JS t.k≠0/\x≠some t.k/\e.k=JS t.k/\Q4 (some (JS t.k)) false ks:=by rw[Qq]
theorem WL{x:Option Int}{b:Bool}{v:PV}{r:List PV}:Q4 x b (v::r)↔Qq x (b&&r.isEmpty) v/\Q4 x b r:=by rw[Q4]
def Jfq(k:Int):Prop:=k=20\/k=22\/k=24
theorem JJ6{k:Int}(h:JS k≠0):Jfq (JS k):=by
 rcases GS k with h'|h'|h'|h'
 ·exact absurd h' h
 ·exact .inl h'
 ·exact .inr (.inl h')
 ·exact .inr (.inr h')
theorem JRf:∀(n:Nat) (l:List Tk4),l.length<=n->∀x:Option Int,(∀k,x=some k->Jfq k)->
  ∃F rest,l=Ka F++rest/\((rest=[]/\Q4 x true F)\/ ∃e r,rest=e::r/\x=some e.k/\Q4 x false F):=by
 intro n
 induction n with
 |zero=>
  intro l hl x hx;obtain rfl:l=[]:=AC om
  exact⟨[],[],rfl,.inl ⟨rfl,trivial⟩⟩
 |succ n ih=>
  intro l hl x hx
  cases l with
  |nil=>exact⟨[],[],rfl,.inl ⟨rfl,trivial⟩⟩
  |cons t l=>
   simp only[Ae]at hl;by_cases h1:x=some t.k
   ·exact⟨[],t::l,rfl,.inr ⟨t,l,rfl,h1,trivial⟩⟩
   by_cases h2:JS t.k=0
   ·obtain⟨F,rest,e,h⟩:=ih l om x hx
    refine⟨.leaf t::F,rest,by rw[e,Ka,QS]<;>rfl,?_⟩
    rcases h with⟨rfl,hg⟩|⟨e',r,rfl,he,hg⟩
    ·exact .inl ⟨rfl,WL.2 ⟨by rw[Qq];exact⟨h2,h1⟩,hg⟩⟩
    ·exact .inr ⟨e',r,rfl,he,WL.2 ⟨by rw[Qq];exact⟨h2,h1⟩,hg⟩⟩
   ·obtain⟨K,rest,e,h⟩:=ih l om (some (JS t.k)) (λk hk=>by cases hk;exact JJ6 h2)
    rcases h with⟨rfl,hg⟩|⟨e',r,rfl,he,hg⟩
    ·refine⟨[.node t K none],[],?_,.inl ⟨rfl,WL.2 ⟨by rw[Qq];exact⟨h2,h1,rfl,hg⟩,trivial⟩⟩⟩
     rw[e,Ka,QS,Ka];simp
    ·have hr:r.length<=n:=by
      have:=congrArg AW e;simp only[Ah,Ae]at this;omega
     obtain⟨F,rest,e2,h⟩:=ih r hr x hx
     have hn:∀b,Qq x b (.node t K (some e')):=λb=>by rw[Qq];exact⟨h2,h1,(Option.some.inj he).symm,hg⟩
     refine⟨.node t K (some e')::F,rest,?_,?_⟩
     ·rw[e,e2,Ka,QS]
      simp
     ·rcases h with⟨rfl,hg2⟩|⟨e3,r3,rfl,he3,hg2⟩
      ·exact .inl ⟨rfl,WL.2 ⟨hn _,hg2⟩⟩
      ·exact .inr ⟨e3,r3,rfl,he3,WL.2 ⟨hn _,hg2⟩⟩
theorem JHT(l:List Tk4):∃F,l=Ka F/\Q4 none true F:=by
 obtain⟨F,rest,e,h⟩:=JRf l.length l (Ab _) none (λk hk=>by cases hk)
 rcases h with⟨rfl,hg⟩|⟨e',r,rfl,he,hg⟩
 ·exact⟨F,by rw[e,Av],hg⟩
 ·cases he
theorem JJ7:∀(F:List PV) {x:Option Int} {b:Bool},Q4 x b F->Q4 none b F
 |[],_,_,_=>trivial
 |v::r,x,b,h=>by
  rw[WL]at h⊢;refine⟨?_,JJ7 r h.2⟩
  have h1:=h.1
  cases v with
  |leaf t=>exact Gq.2 ⟨(Gq.1 h1).1,λh=>by cases h⟩
  |node t ks c=>
   cases c with
   |none=>exact WK.2 ⟨(WK.1 h1).1,λh=>(by cases h),(WK.1 h1).2.2⟩
   |some e=>exact ZB.2 ⟨(ZB.1 h1).1,λh=>(by cases h),(ZB.1 h1).2.2⟩
theorem JMD{v:PV}{x:Option Int}{b:Bool}(h:Qq x b v):Qq x true v:=by
 cases v with
 |leaf t=>exact Gq.2 (Gq.1 h)
 |node t ks c=>
  cases c with
  |none=>exact WK.2 ⟨(WK.1 h).1,(WK.1 h).2.1,rfl,(WK.1 h).2.2.2⟩
  |some e=>exact ZB.2 (ZB.1 h)
theorem JCG:∀(F:List PV) {x:Option Int} {b:Bool},Q4 x b F->Q4 x true F
 |[],_,_,_=>trivial
 |v::r,x,b,h=>by
  rw[WL]at h⊢;refine⟨?_,JCG r h.2⟩
  cases r with
  |nil=>exact JMD h.1
  |cons u r=>
   have:(b&&(u::r).isEmpty)=(true&&(u::r).isEmpty):=by simp
   rw[<-this];exact h.1
def WB(vs:List CV):Wh->List CV->Wh×List CV
 |[],b=>([],b++vs)
 |(o,ks)::r,b=>((o,ks++vs)::r,b)
theorem Hx(s:Wh)(b:List CV):WB [] s b=(s,b):=by
 cases s with
 |nil=>simp[WB]
 |cons p r=>obtain⟨o,ks⟩:=p;simp[WB]
theorem Gr(v:CV)(vs:List CV)(s:Wh)(b:List CV):WB vs (Kp v s b).1 (Kp v s b).2=WB (v::vs) s b:=by
 cases s with
 |nil=>simp[Kp,WB]
 |cons p r=>obtain⟨o,ks⟩:=p;simp[Kp,WB]
theorem JCH(v:CV)(s:Wh)(b:List CV):ctx (Kp v s b).1=ctx s:=by
 cases s with
 |nil=>rfl
 |cons p r=>obtain⟨o,ks⟩:=p;rfl
theorem JCJ(l m:List Tk4):∀(s:Wh) (b:List CV),runS (l++m) s b=runS m (runS l s b).1 (runS l s b).2:=by
 induction l with
 |nil=>intro s b;rfl
 |cons t l ih=>intro s b;rw[Al,runS,ih,runS]
mutual
theorem Zq:∀(v:PV) (s:Wh) (b:List CV),Qq (ctx s) false v->runS (QS v) s b=Kp (cvV v) s b
 | .leaf t,s,b,h=>by
  rw[Qq]at h;rw[QS,runS,runS,cvV];unfold Qz
  rw[if_neg h.2,if_neg (by simp[h.1])]
 | .node t ks none,s,b,h=>by
  rw[Qq]at h
  exact absurd h.2.2.1 (by decide)
 | .node t ks (some e),s,b,h=>by
  rw[Qq]at h;obtain⟨h1,h2,h3,h4⟩:=h
  have e1:Qz t s b=((t,[])::s,b):=by unfold Qz;rw[if_neg h2,if_pos h1]
  rw[QS,runS,e1,JCJ];simp only;rw[JAY ks ((t,[])::s) b h4];simp only[WB,Ai,Option.toList];rw[runS,runS,cvV];unfold Qz;rw[if_pos (by show some (JS t.k)=some e.k;rw[h3])]
  rfl
theorem JAY:∀(F:List PV) (s:Wh) (b:List CV),Q4 (ctx s) false F->runS (Ka F) s b=WB (cvL F) s b
 |[],s,b,_=>by rw[Ka,runS,cvL,Hx]
 |v::r,s,b,h=>by rw[Q4]at h;rw[Ka,JCJ,Zq v s b (by simpa using h.1),JAY r _ _ (by rw[JCH];exact h.2),cvL,Gr]
end
theorem yP(p:Tk4×List CV)(s:Wh)(b:List CV):Wd (p::s) b=Wd (Qc (p::s) b).1 (Qc (p::s) b).2:=by unfold Wd;rw[Ae,JRe,zT]
mutual
theorem JPM:∀(v:PV) (s:Wh) (b:List CV),Qq (ctx s) true v->Wd (runS (QS v) s b).1 (runS (QS v) s b).2=Wd (Kp (cvV v) s b).1 (Kp (cvV v) s b).2
 | .leaf t,s,b,h=>by rw[Zq (.leaf t) s b (by rw[Qq]at h⊢;exact h)]
 | .node t ks (some e),s,b,h=>by rw[Zq (.node t ks (some e)) s b (by rw[Qq]at h⊢;exact h)]
 | .node t ks none,s,b,h=>by
  rw[Qq]at h;obtain⟨h1,h2,_,h4⟩:=h
  have e1:Qz t s b=((t,[])::s,b):=by unfold Qz;rw[if_neg h2,if_pos h1]
  rw[QS,runS,e1];simp only[Option.toList,Av];rw[zU ks ((t,[])::s) b h4];simp only[WB,Ai];rw[yP,cvV]<;>rfl
theorem zU:∀(F:List PV) (s:Wh) (b:List CV),Q4 (ctx s) true F->Wd (runS (Ka F) s b).1 (runS (Ka F) s b).2=Wd (WB (cvL F) s b).1 (WB (cvL F) s b).2
 |[],s,b,_=>by rw[Ka,runS,cvL,Hx]
 |[v],s,b,h=>by
  rw[Q4]at h
  rw[Ka,Ka,Av,JPM v s b (by simpa using h.1),cvL,cvL,<-Gr,Hx]
 |v::u::r,s,b,h=>by rw[Q4]at h;rw[Ka,JCJ,Zq v s b (by simpa using h.1),zU (u::r) _ _ (by rw[JCH];exact h.2),Gr,<-cvL]
end
theorem zV{F:List PV}{x:Option Int}{b:Bool}(h:Q4 x b F):Hw (Ka F)=cvL F:=by
 have:=zU F [] [] (JCG F (JJ7 F h));unfold Hw;rw[this];show Wd [] ([]++cvL F)=_
 rfl
mutual
def Jle:PV->Nat
 | .leaf _=>0
 | .node _ ks _=>JJ8 ks+1
def JJ8:List PV->Nat
 |[]=>0
 |v::r=>max (Jle v) (JJ8 r)
end
structure LS where
 st:List Nat
 E:List Nat
 D:List Nat
mutual
def JGL(N:Nat)(E D:List Nat)(p:Nat):PV->Prop
 | .leaf _=>D.getD p 0=0
 | .node t ks c=>E.getD p 0=(match c with
  |some _=>p+1+(Ka ks).length
  |none=>N)/\D.getD p 0=JJ8 ks+1/\ju N E D (p+1) ks
def ju(N:Nat)(E D:List Nat)(p:Nat):List PV->Prop
 |[]=>True
 |v::r=>JGL N E D p v/\ju N E D (p+(QS v).length) r
end
def Jfr(N p:Nat)(ks:List PV)(c:Option Tk4):Nat:=match c with
 |some _=>p+1+(Ka ks).length
 |none=>N
theorem JMG{N p:Nat}{E D:List Nat}{t:Tk4}{ks:List PV}{c:Option Tk4}:JGL N E D p (.node t ks c)↔E.getD p 0=Jfr N p ks c/\D.getD p 0=JJ8 ks+1/\ju N E D (p+1) ks:=by cases c<;>rw[JGL]<;>rfl
mutual
theorem JCK{N:Nat}{E D E' D':List Nat}:∀(v:PV) {p:Nat},(∀q,p<=q->q<p+(QS v).length->E'.getD q 0=E.getD q 0/\D'.getD q 0=D.getD q 0)->JGL N E D p v->JGL N E' D' p v
 | .leaf t,p,h,hl=>by
  rw[JGL]at hl⊢;rw[(h p (Ab _) (by rw[QS];simp)).2]
  exact hl
 | .node t ks c,p,h,hl=>by
  rw[JMG]at hl⊢;obtain⟨h1,h2,h3⟩:=hl;have hp:=h p (Ab _) (by rw[QS];simp)
  refine⟨by rw[hp.1];exact h1,by rw[hp.2];exact h2,JCL ks (λq hq hq2=>h q om ?_) h3⟩
  rw[QS];simp only[Ae,Ah];omega
theorem JCL{N:Nat}{E D E' D':List Nat}:∀(F:List PV) {p:Nat},(∀q,p<=q->q<p+(Ka F).length->E'.getD q 0=E.getD q 0/\D'.getD q 0=D.getD q 0)->ju N E D p F->ju N E' D' p F
 |[],p,_,_=>by rw[ju];trivial
 |v::r,p,h,hl=>by rw[ju]at hl⊢;rw[Ka]at h;simp only[Ah]at h;exact⟨JCK v (λq h1 h2=>h q h1 om) hl.1,JCL r (λq h1 h2=>h q om om) hl.2⟩
end
structure Lays(N p:Nat)(F:List PV)(s s':LS):Prop where
 st:s'.st=s.st
 le:s'.E.length=N
 ld:s'.D.length=N
 e:∀q,q<p->s'.E.getD q 0=s.E.getD q 0
 d:∀q,q<p->s.st.head? ≠some q->s'.D.getD q 0=s.D.getD q 0
 top:∀j,s.st.head? =some j->s'.D.getD j 0=max (s.D.getD j 0) (JJ8 F)
 new:∀q,p+(Ka F).length<=q->s'.D.getD q 0=0
 laid:ju N s'.E s'.D p F
structure Begins(N p:Nat)(s:LS):Prop where
 le:s.E.length=N
 ld:s.D.length=N
 lt:∀j∈s.st,j<p
 new:∀q,p<=q->s.D.getD q 0=0
theorem Lays.seq{N p:Nat}{v:PV}{r:List PV}{s s1 s2:LS}(hb:Begins N p s)(h1:Lays N p [v] s s1)(h2:Lays N (p+(QS v).length) r s1 s2):Lays N p (v::r) s s2:=by
 have e1:(Ka [v]).length=(QS v).length:=by rw[Ka,Ka,Av]
 have e2:(Ka (v::r)).length=(QS v).length+(Ka r).length:=by rw[Ka,Ah]
 have htop:∀j,s.st.head? =some j->j<p:=λj hj=>hb.lt j (List.mem_of_mem_head? hj)
 refine⟨h2.st.trans h1.st,h2.le,h2.ld,λq hq=>?_,λq hq hn=>?_,λj hj=>?_,λq hq=>h2.new q om,?_⟩
 ·rw[h2.e q om,h1.e q hq]
 ·rw[h2.d q om (by rw[h1.st];exact hn),h1.d q hq hn]
 ·rw[h2.top j (by rw[h1.st];exact hj),h1.top j hj,JJ8,JJ8,JJ8]
  omega
 ·rw[ju]
  refine⟨JCK v (λq q1 q2=>⟨h2.e q q2,h2.d q q2 (λe=>?_)⟩) (by have:=h1.laid;rw[ju]at this;exact this.1),h2.laid⟩
  rw[h1.st]at e;have:=htop q e;omega
def CV.k(v:CV):Int:=v.t.k
def J3(v:CV):Bool:=v.k==13
def trim(l:List CV):List CV:=((l.dropWhile J3).reverse.dropWhile J3).reverse
def J4(a b:Int)(v:CV):Bool:=v.k !=a&&v.k !=b
mutual
def HK:Nat->CV->Bool
 |n,.mk t ks=>JS t.k !=0&&(match n with
  |0=>true
  |n+1=>Js n ks)
def Js:Nat->List CV->Bool
 |_,[]=>false
 |n,v::r=>HK n v||Js n r
end
def JVV(c:Int):Int:=if 65<=c/\c<=90 then c+32 else c
def KR(b:List Int):List Int:=b.map JVV
def Qx:List Int:=[105,109,112,111,114,116,97,110,116]
structure Dc where
 name:List Int
 val:List CV
 imp:Bool
def nameOf(b:List Int):List Int:=if[45,45].isPrefixOf b then b else KR b
def impOf(v:List CV):List CV×Bool:=
 match v.reverse with
 |x::y::r=>
  if x.k==1&&KR x.t.b==Qx then
   match(y::r).dropWhile J3 with
   |z::s=>if z.k==9&&z.t.b==[33]then(trim s.reverse,true)else(v,false)
   |[]=>(v,false)
  else(v,false)
 |_=>(v,false)
def Z8:List CV->Option Dc
 |[]=>none
 |x::l=>if x.k !=1 then none else
  match l.dropWhile J3 with
  |[]=>none
  |c::r=>if c.k !=16 then none else if Js 64 r then none else
   some ⟨nameOf x.t.b,(impOf (trim r)).1,(impOf (trim r)).2⟩
def QZ:Nat->List CV->List Dc
 |0,_=>[]
 |n+1,[]=>[]
 |n+1,v::r=>
  if v.k==13||v.k==17 then QZ n r
  else if v.k==3 then QZ n ((v::r).dropWhile (J4 17 23)).tail
  else(Z8 ((v::r).takeWhile (J4 17 17))).toList++QZ n ((v::r).dropWhile (J4 17 17))
def decls(l:List CV):List Dc:=QZ (l.length+1) l
inductive Ru where
 |mk (kind:Int) (name:List Int) (prel:List CV) (decls:List Dc) (rules:List Ru)
def WC(n:List Int):Bool:=n==[109,101,100,105,97]||n==[115,117,112,112,111,114,116,115]||n==[99,111,110,116,97,105,110,101,114]
def K7(sub:List CV->List Ru)(live top:Bool):Nat->List CV->List Ru
 |0,_=>[]
 |n+1,[]=>[]
 |n+1,v::r=>
  if v.k==13||(top&&(v.k==14||v.k==15))then K7 sub live top n r
  else if v.k==3 then
   match(v::r).dropWhile (J4 17 23)with
   |[]=>[]
   |x::s=>(if x.k==23&&WC (KR v.t.b)&& !Js 64 (((v::r).takeWhile (J4 17 23)).tail)&&live then[Ru.mk 2 (KR v.t.b) (trim ((v::r).takeWhile (J4 17 23)).tail) [] (sub x.ks)]else[])++K7 sub live top n s
  else
   match(v::r).dropWhile (J4 23 23)with
   |[]=>[]
   |x::s=>(if !Js 64 ((v::r).takeWhile (J4 23 23))&&live then[Ru.mk 1 [] (trim ((v::r).takeWhile (J4 23 23))) (decls x.ks) []]else[])++K7 sub live top n s
def Qh:Nat->Bool->List CV->List Ru
 |0,top,l=>K7 (λ_=>[]) false top (l.length+1) l
 |f+1,top,l=>K7 (Qh f false) true top (l.length+1) l
def rules(l:List CV):List Ru:=Qh 64 true l
def bare(k:Int):Tk4:=⟨k,[],0,0,false,false⟩
mutual
def GT:CV->List Tk4
 | .mk t ks=>t::(Je ks++(if JS t.k=0 then[]else[bare (JS t.k)]))
def Je:List CV->List Tk4
 |[]=>[]
 |v::r=>GT v++Je r
end
mutual
def KL:Nat->CV->Bool
 |n,.mk t ks=>decide (1<=t.k/\t.k<=24)&&(if JS t.k=0 then ks.isEmpty else match n with
  |0=>false
  |n+1=>Q5 n ks)
def Q5:Nat->List CV->Bool
 |_,[]=>true
 |n,v::r=>KL n v&&Q5 n r
end
def JMH:List CV->List (List CV)
 |[]=>[[]]
 |v::r=>if v.k==18 then[]::JMH r else match JMH r with
  |p::q=>(v::p)::q
  |[]=>[[v]]
def split(l:List CV):List (List CV):=(JMH l).map trim
def Ji(t:Tk4):Tk4:=if t.k=20\/t.k=22\/t.k=24 then bare t.k else t
theorem Z9{p:CV->Bool}:∀(A B:List CV),(A++B).dropWhile p=if A.all p then B.dropWhile p else A.dropWhile p++B
 |[],B=>by simp
 |v::A,B=>by rw[Al,A5,A5,Z9 A B,Bg];cases p v<;>simp
theorem JCM{p:CV->Bool}{A:List CV}(h:A.all p=true):A.dropWhile p=[]:=by
 induction A with
 |nil=>rfl
 |cons v A ih=>rw[Bg,Af]at h;rw[A5,if_pos h.1,ih h.2]
theorem Hy{l:List CV}{v:CV}(h:v∈trim l):v∈l:=by unfold trim at h;rw[CU]at h;have h1:=(AR _).subset h;rw[CU]at h1;exact(AR _).subset h1
theorem JRg{p:CV->Bool}{l:List CV}{v:CV}(h:v∈l.takeWhile p):v∈l:=(List.takeWhile_prefix p).subset h
theorem JJ9{p:CV->Bool}{l:List CV}{v:CV}(h:v∈l.dropWhile p):v∈l:=(AR p).subset h
theorem JNb{l:List CV}{v:CV}(h:v∈(impOf l).1):v∈l:=by
 unfold impOf at h
 split at h
 ·rename_i x y r e
  split at h
  ·split at h
   ·rename_i z s e2
    split at h
    ·have h1:=Hy h
     rw[CU]at h1;have h2:v∈(y::r).dropWhile J3:=by rw[e2];exact Bt _ h1
     have h3:=JJ9 h2;rw[<-CU,e];exact Bt _ h3
    ·exact h
   ·exact h
  ·exact h
 ·exact h
def PV.t:PV->Tk4
 | .leaf t=>t
 | .node t _ _=>t
def ltrim(l:List CV):List CV:=l.dropWhile J3
def QG(l:List CV):List CV:=(l.reverse.dropWhile J3).reverse
theorem yQ(l:List CV):trim l=QG (ltrim l):=rfl
theorem JCN{v:CV}{r:List CV}(h:J3 v=false):QG (v::r)=v::QG r:=by
 unfold QG;rw[BS,Z9]
 split
 ·rename_i ha
  rw[A5,h];simp only[Bool.false_eq_true,if_false];rw[JCM ha]<;>rfl
 ·rw[CO]
  rfl
theorem JHU{l:List CV}(h:l.all J3=true):QG l=[]:=by
 unfold QG;rw[JCM (by rw[Ml];exact h)]
 rfl
theorem JMJ(l:List CV)(v:CV):QG (l++[v])=if J3 v then QG l else l++[v]:=by
 unfold QG;rw[CO,BS,List.reverse_nil,Ai,List.singleton_append,A5]
 split
 ·rfl
 ·rw[BS,LD]
theorem JPN:QG []=[]:=rfl
theorem JRh{v:CV}{r:List CV}(h:J3 v=true):QG (v::r)=if r.all J3 then[]else v::QG r:=by
 by_cases ha:r.all J3=true
 ·rw[if_pos ha]
  exact JHU (by rw[Bg,h,ha]<;>rfl)
 ·rw[if_neg ha]
  unfold QG;rw[BS,Z9,Ml,if_neg ha,CO]<;>rfl
theorem Hz:∀(r:List CV),ltrim (QG r)=QG (ltrim r)
 |[]=>rfl
 |v::r=>by
  cases hv:J3 v with
  |false=>
   have h1:ltrim (v::r)=v::r:=by unfold ltrim;rw[A5,hv]<;>rfl
   rw[h1,JCN hv];unfold ltrim;rw[A5,hv]
   rfl
  |true=>
   have h1:ltrim (v::r)=ltrim r:=by unfold ltrim;rw[A5,hv]<;>rfl
   rw[h1,JRh hv]
   split
   ·rename_i ha
    have:ltrim r=[]:=JCM ha;rw[this]<;>rfl
   ·have h2:ltrim (v::QG r)=ltrim (QG r):=by unfold ltrim;rw[A5,hv]<;>rfl
    rw[h2,Hz r]
theorem JKA(r:List CV):QG (QG r)=QG r:=by
 unfold QG;rw[LD]
 congr 1
 generalize r.reverse=l
 induction l with
 |nil=>rfl
 |cons v l ih=>
  rw[A5]
  split
  ·exact ih
  ·rename_i h;rw[A5,if_neg h]
theorem JKB(l:List CV):ltrim (ltrim l)=ltrim l:=by
 unfold ltrim
 induction l with
 |nil=>rfl
 |cons v l ih=>
  rw[A5]
  split
  ·exact ih
  ·rename_i h;rw[A5,if_neg h]
theorem JMK(r:List CV):trim (QG r)=trim r:=by
 show QG (ltrim (QG r))=QG (ltrim r)
 rw[Hz,JKA]
theorem JPO(m:List CV):match ltrim m with
  |[]=>trim m=[]
  |c::r=>∃q,trim m=c::q/\trim q=trim r:=by
 have h:=yQ m
 split
 ·rename_i e;rw[h,e]<;>rfl
 ·rename_i c r e
  have hc:J3 c=false:=by
   have:∀l:List CV,ltrim l=c::r->J3 c=false:=by
    intro l
    induction l with
    |nil=>intro h;cases h
    |cons v l ih=>
     intro h;unfold ltrim at h;rw[A5]at h
     split at h
     ·exact ih h
     ·rename_i hv;cases h;simpa using hv
   exact this m e
  rw[h,e,JCN hc];exact⟨QG r,rfl,JMK r⟩
theorem JML{n:Nat}{v:CV}(h:J3 v=true):HK n v=false:=by
 obtain⟨t,ks⟩:=v;have hk:t.k=13:=by simpa[J3,CV.k,CV.t]using h
 have:JS t.k=0:=by rw[hk]<;>rfl
 cases n<;>rw[HK]<;>simp[this]
theorem Gs(n:Nat):∀l:List CV,Js n (ltrim l)=Js n l
 |[]=>rfl
 |v::r=>by
  unfold ltrim;rw[A5]
  split
  ·rename_i h
   rw[Js,JML h,Bb];exact Gs n r
  ·rfl
theorem JRi(n:Nat)(a b:List CV):Js n (a++b)=(Js n a||Js n b):=by
 induction a with
 |nil=>simp[Js]
 |cons v a ih=>rw[Al,Js,ih,Js,Bool.or_assoc]
theorem yR(n:Nat)(a:List CV):Js n a.reverse=Js n a:=by
 induction a with
 |nil=>rfl
 |cons v a ih=>rw[BS,JRi,ih,Js,Js,Js,Bool.or_false,Bool.or_comm]
theorem JMM(n:Nat)(l:List CV):Js n (QG l)=Js n l:=by unfold QG;rw[yR];have:=Gs n l.reverse;unfold ltrim at this;rw[this,yR]
theorem JGM(n:Nat)(l:List CV):Js n (trim l)=Js n l:=by rw[yQ,JMM,Gs]
theorem JGN{n:Nat}{v:CV}(h:JS v.k=0):HK n v=false:=by obtain⟨t,ks⟩:=v;have:JS t.k=0:=h;cases n<;>rw[HK]<;>simp[this]
theorem JRj(n:Nat)(l:List CV):Js n (impOf l).1=Js n l:=by
 unfold impOf
 split
 ·rename_i x y r e
  split
  ·rename_i hx
   split
   ·rename_i z s e2
    split
    ·rename_i hz
     simp only[Af,beq_iff_eq]at hx hz;have hx1:HK n x=false:=JGN (by rw[hx.1]<;>rfl)
     have hz1:HK n z=false:=JGN (by rw[hz.1]<;>rfl)
     show Js n (trim s.reverse)=_
     rw[JGM,yR,<-yR n l,e,Js,hx1,Bb];have h3:=Gs n (y::r);unfold ltrim at h3;rw[<-h3,e2,Js,hz1,Bb]
    ·rfl
   ·rfl
  ·rfl
 ·rfl
def bs(l:List Int):ByteArray:=⟨(Q1 l).toArray⟩
def row(t:Tk4):List V:=[.v (.int .i64 t.k),.v (.string (bs t.b)),.v (.int .i64 t.n),.v (.int .i64 t.d),.v (.bool t.w),.v (.bool t.i)]
mutual
def Qa:CV->List V
 | .mk t ks=>row t++[.list .no (JL ks)]
def JL:List CV->List (List V)
 |[]=>[]
 |v::r=>Qa v::JL r
end
theorem Jr(t:Tk4)(ks:List CV):Qa (.mk t ks)=[.v (.int .i64 t.k),.v (.string (bs t.b)),.v (.int .i64 t.n),.v (.int .i64 t.d),.v (.bool t.w),.v (.bool t.i),.list .no (JL ks)]:=by rw[Qa]<;>rfl
theorem JKC(v:CV):Qa v=[.v (.int .i64 v.t.k),.v (.string (bs v.t.b)),.v (.int .i64 v.t.n),.v (.int .i64 v.t.d),.v (.bool v.t.w),.v (.bool v.t.i),.list .no (JL v.ks)]:=by obtain⟨t,ks⟩:=v;exact Jr t ks
theorem rowsC_map:∀l:List CV,JL l=l.map Qa
 |[]=>by rw[JL]<;>rfl
 |v::r=>by rw[JL,rowsC_map r]<;>rfl
theorem Jt:JL []=[]:=by rw[JL]
theorem QL(v:CV)(r:List CV):JL (v::r)=Qa v::JL r:=by rw[JL]
theorem JP(l:List CV):(JL l).length=l.length:=by rw[rowsC_map,Ag]
theorem Ks(l:List CV)(i:Nat):(JL l)[i]? =(l[i]?).map Qa:=by rw[rowsC_map,List.getElem?_map]
theorem zW(l m:List CV):JL (l++m)=JL l++JL m:=by simp[rowsC_map]
theorem Wx(l:List CV)(n:Nat):(JL l).take n=JL (l.take n):=by simp[rowsC_map,List.map_take]
theorem ZC(l:List CV)(n:Nat):(JL l).drop n=JL (l.drop n):=by simp[rowsC_map,List.map_drop]
theorem JRk(v:CV):(Qa v).length=7:=by rw[JKC]<;>rfl
theorem QA(l:List CV):((JL l).all λx=>x.length==7)=true:=by rw[As];intro x hx;rw[rowsC_map]at hx;obtain⟨v,_,rfl⟩:=AP.1 hx;rw[JRk]<;>rfl
theorem Gt(l:List Tk4):((l.map row).all λx=>x.length==6)=true:=by rw[As];intro x hx;obtain⟨v,_,rfl⟩:=AP.1 hx;rfl
def Jv(d:Dc):List V:=[.v (.string (bs d.name)),.list .no (JL d.val),.v (.bool d.imp)]
theorem JPP(l:List Dc):((l.map Jv).all λx=>x.length==3)=true:=by rw[As];intro x hx;obtain⟨v,_,rfl⟩:=AP.1 hx;rfl
mutual
def HU:Ru->List V
 | .mk k n p ds rs=>[.v (.int .i64 k),.v (.string (bs n)),.list .no (JL p),.list .no (ds.map Jv),.list .no (Kq rs)]
def Kq:List Ru->List (List V)
 |[]=>[]
 |r::l=>HU r::Kq l
end
theorem rusC_map:∀l:List Ru,Kq l=l.map HU
 |[]=>by rw[Kq]<;>rfl
 |v::r=>by rw[Kq,rusC_map r]<;>rfl
theorem JVW(r:Ru):(HU r).length=5:=by cases r;rw[HU]<;>rfl
theorem JRl(l:List Ru):((Kq l).all λx=>x.length==5)=true:=by rw[As];intro x hx;rw[rusC_map]at hx;obtain⟨v,_,rfl⟩:=AP.1 hx;rw[JVW]<;>rfl
theorem JRm(l m:List Ru):Kq (l++m)=Kq l++Kq m:=by simp[rusC_map]
theorem JW(l:List Ru):(Kq l).length=l.length:=by rw[rusC_map,Ag]
@[go_sem] theorem JXq(l:List Tk4):J0 (l.map row)=false:=by cases l<;>rfl
@[go_sem] theorem GA(l:List CV):J0 (JL l)=false:=by
 cases l with
 |nil=>rw[Jt]<;>rfl
 |cons v r=>rw[QL,JKC]<;>rfl
@[go_sem] theorem JHV(l:List Dc):J0 (l.map Jv)=false:=by cases l<;>rfl
@[go_sem] theorem JKD(l:List Ru):J0 (Kq l)=false:=by
 cases l with
 |nil=>rw[rusC_map]<;>rfl
 |cons v r=>rw[rusC_map,A3];cases v;rw[HU]<;>rfl
mutual
def Wy:CV->Nat
 | .mk _ ks=>1+JO ks
def JO:List CV->Nat
 |[]=>0
 |v::r=>Wy v+JO r
end
theorem GU(v:CV):Wy v=1+JO v.ks:=by cases v;rw[Wy]<;>rfl
theorem WM:JO []=0:=by rw[JO]
theorem J5(v:CV)(r:List CV):JO (v::r)=Wy v+JO r:=by rw[JO]
theorem Jq:∀l:List CV,l.length<=JO l
 |[]=>by simp
 |v::r=>by have:=Jq r;rw[J5,GU,Ae];omega
theorem Gu:∀{l:List CV} {v:CV},v∈l->Wy v<=JO l
 |[],v,h=>by cases h
 |x::r,v,h=>by
  rw[J5];rcases A2.1 h with rfl|h
  ·omega
  ·have:=Gu h
   omega
theorem ZD{l:List CV}{v:CV}{k:Nat}(h:l[k]? =some v):JO v.ks<=JO l:=by have:=Gu (List.mem_of_getElem? h);rw[GU]at this;omega
theorem Gv:∀l m:List CV,JO (l++m)=JO l+JO m
 |[],m=>by simp[WM]
 |v::r,m=>by rw[Al,J5,J5,Gv r m];omega
mutual
theorem JGO:∀v:CV,(GT v).length<=2*Wy v
 | .mk t ks=>by
  have:=Wz ks;rw[GT,Wy]
  split<;>simp<;>omega
theorem Wz:∀l:List CV,(Je l).length<=2*JO l
 |[]=>by rw[Je];simp
 |v::r=>by have:=Wz r;have:=JGO v;rw[Je,JO,Ah];omega
end
end Go.Lift.Rul
end
