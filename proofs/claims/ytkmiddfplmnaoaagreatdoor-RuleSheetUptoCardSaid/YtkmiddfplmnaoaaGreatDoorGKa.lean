/- Characters to bytes: the arithmetic. -/
import Derived.Test.YtkmiddfplmnaoaaGreatDoorGLd
open BitVec renaming ofInt->Al,toNat_and->Lk,toNat_ofInt->CB
open Bool renaming and_eq_true->Ah,false_or->Br
open List renaming all_cons->BF,all_eq_true->Ar,all_reverse->Mq,append_nil->Aq,cons_append->Ae,dropWhile_cons->AD,dropWhile_suffix->AA,eq_nil_of_length_eq_zero->Au,getD_eq_getElem?_getD->Bs,getElem?_eq_some_iff->Ab,length_append->An,length_cons->Ag,length_drop->Ay,length_map->Av,mem_cons->Bg,mem_cons_of_mem->AV,mem_map->AK,mem_reverse->Do,nil_append->Af,not_mem_nil->Cp,replicate->BB,reverse_append->CL,reverse_cons->BD,reverse_reverse->D0
open Nat renaming and_two_pow_sub_one_eq_mod->Da,le_refl->Ac,one_le_two_pow->L6,pow_le_pow_right->LE,shiftLeft_eq->Mp,zero_add->AB
open Option renaming toList->C7
set_option linter.unusedVariables false
set_option linter.unusedSimpArgs false
set_option linter.unusedSectionVars false
section
namespace Go.Lift.Utf
def KQ(x:Int):Int:=if(decide (x<0)||decide (1114111<x)||decide (55296<=x)&&decide (x<=57343))=true then 65533 else x
theorem ZQ(x:Int):0<=KQ x/\KQ x<=1114111:=by
 unfold KQ
 split
 ·omega
 ·rename_i h
  simp at h;omega
def enc(y:Int):List Int:=
 if y<128 then[y]else if y<2048 then[192+y/64,128+y%64]else if y<65536 then[224+y/4096,128+y/64%64,128+y%64]
 else[240+y/262144,128+y/4096%64,128+y/64%64,128+y%64]
theorem JTn:∀z:Fin 32,(Al 8 192|||Al 8 (z.val:Int)).toNat=192+z.val:=by decide
theorem JTo:∀z:Fin 16,(Al 8 224|||Al 8 (z.val:Int)).toNat=224+z.val:=by decide
theorem JTp:∀z:Fin 8,(Al 8 240|||Al 8 (z.val:Int)).toNat=240+z.val:=by decide
theorem JTq:∀z:Fin 64,(Al 8 128|||Al 8 (z.val:Int)).toNat=128+z.val:=by decide
theorem JQD:∀z:Fin 32,(Al 32 192|||Al 32 (z.val:Int)).toNat=192+z.val:=by decide
theorem JQG:∀z:Fin 16,(Al 32 224|||Al 32 (z.val:Int)).toNat=224+z.val:=by decide
theorem JQH:∀z:Fin 8,(Al 32 240|||Al 32 (z.val:Int)).toNat=240+z.val:=by decide
theorem JQJ:∀z:Fin 64,(Al 32 128|||Al 32 (z.val:Int)).toNat=128+z.val:=by decide
theorem and63{y:Int}(h0:0<=y)(h1:y<=2147483647):((Al 32 y&&&Al 32 63).toNat:Int)=y%64:=by
 rw[Lk]
 have e1:(Al 32 y).toNat=y.toNat:=by rw[CB];omega
 have e2:(Al 32 63).toNat=2^6-1:=by decide
 rw[e1,e2,Da];omega
theorem o8{c:Int}{n:Nat}(hc:(c=192/\n=32)\/(c=224/\n=16)\/(c=240/\n=8)\/(c=128/\n=64)){y:Int}(h0:0<=y)(h1:y<n):((Al 8 c|||Al 8 y).toNat:Int)=c+y:=by
 obtain⟨z,rfl⟩:∃z:Nat,y=z:=⟨y.toNat,om⟩;rcases hc with⟨rfl,rfl⟩|⟨rfl,rfl⟩|⟨rfl,rfl⟩|⟨rfl,rfl⟩
 ·have:=JTn ⟨z,om⟩;simp only at this;omega
 ·have:=JTo ⟨z,om⟩;simp only at this;omega
 ·have:=JTp ⟨z,om⟩;simp only at this;omega
 ·have:=JTq ⟨z,om⟩;simp only at this;omega
theorem o32{c:Int}{n:Nat}(hc:(c=192/\n=32)\/(c=224/\n=16)\/(c=240/\n=8)\/(c=128/\n=64)){y:Int}(h0:0<=y)(h1:y<n):((Al 32 c|||Al 32 y).toNat:Int)=c+y:=by
 obtain⟨z,rfl⟩:∃z:Nat,y=z:=⟨y.toNat,om⟩;rcases hc with⟨rfl,rfl⟩|⟨rfl,rfl⟩|⟨rfl,rfl⟩|⟨rfl,rfl⟩
 ·have:=JQD ⟨z,om⟩;simp only at this;omega
 ·have:=JQG ⟨z,om⟩;simp only at this;omega
 ·have:=JQH ⟨z,om⟩;simp only at this;omega
 ·have:=JQJ ⟨z,om⟩;simp only at this;omega
def nd(c:Int):Nat×Int×Int:=
 if 194<=c/\c<=223 then(1,128,191)
 else if c=224 then(2,160,191)
 else if c=237 then(2,128,159)
 else if 225<=c/\c<=239 then(2,128,191)
 else if c=240 then(3,144,191)
 else if 241<=c/\c<=243 then(3,128,191)
 else if c=244 then(3,128,143)
 else(0,0,0)
def more:Nat->Int->Int->Int->Nat->List Int->Int×Nat×Bool
 |0,r,_,_,k,_=>(r,k,true)
 |_+1,_,_,_,k,[]=>(65533,k,false)
 |n+1,r,lo,hi,k,c::t=>if c<lo\/hi<c then(65533,k,false)else more n (r*64+c%64) 128 191 (k+1) t
def one:List Int->Int×Nat×Bool
 |[]=>(65533,1,false)
 |c::t=>if c<128 then(c,1,true)else if(nd c).1=0 then(65533,1,false)else more (nd c).1 (c%2^ (6-(nd c).1)) (nd c).2.1 (nd c).2.2 1 t
abbrev By(b:List Int):Prop:=∀c∈b,0<=c/\c<=255
theorem Jde{r y:Int}(h0:0<=r)(h1:r<=1000000)(h2:0<=y)(h3:y<64):(ior .i32 (r*64) y)=r*64+y:=by
 obtain⟨m,rfl⟩:∃m:Nat,r=m:=⟨r.toNat,om⟩;obtain⟨z,rfl⟩:∃z:Nat,y=z:=⟨y.toNat,om⟩;show((Al 32 ((m:Int)*64)|||Al 32 (z:Int)).toNat:Int)=_
 rw[BitVec.toNat_or]
 have e1:(Al 32 ((m:Int)*64)).toNat=m<<<6:=by rw[CB,Mp];omega
 have e2:(Al 32 (z:Int)).toNat=z:=by rw[CB];omega
 rw[e1,e2,<-Nat.shiftLeft_add_eq_or_of_lt om,Mp];omega
theorem JTr{y:Int}{k:Nat}(hk:k<=7)(h0:0<=y)(h1:y<=255):Y8 .u8 y (2^k-1)=y%2^k:=by
 obtain⟨z,rfl⟩:∃z:Nat,y=z:=⟨y.toNat,om⟩;show((Al 8 (z:Int)&&&Al 8 ((2:Int)^k-1)).toNat:Int)=_
 rw[Lk]
 have e1:(Al 8 (z:Int)).toNat=z:=by rw[CB];omega
 have hp:2^k<=128:=by have:2^k<=2^7:=LE om hk;omega
 have hq:1<=2^k:=L6
 have e2:(Al 8 ((2:Int)^k-1)).toNat=2^k-1:=by
  have e3:(2:Int)^k=((2^k:Nat):Int):=by simp
  rw[CB,e3];omega
 rw[e1,e2,Da];simp
theorem JL8{y:Int}{k:Nat}(hk:k<=7)(h0:0<=y)(h1:y<=2147483647):Y8 .i32 y (2^k-1)=y%2^k:=by
 obtain⟨z,rfl⟩:∃z:Nat,y=z:=⟨y.toNat,om⟩;show((Al 32 (z:Int)&&&Al 32 ((2:Int)^k-1)).toNat:Int)=_
 rw[Lk]
 have e1:(Al 32 (z:Int)).toNat=z:=by rw[CB];omega
 have hp:2^k<=128:=by have:2^k<=2^7:=LE om hk;omega
 have hq:1<=2^k:=L6
 have e2:(Al 32 ((2:Int)^k-1)).toNat=2^k-1:=by
  have e3:(2:Int)^k=((2^k:Nat):Int):=by simp
  rw[CB,e3];omega
 rw[e1,e2,Da];simp
section
variable{y:Int}(h0:0<=y)(h1:y<=255)
include h0 h1
theorem a63:Y8 .u8 y 63=y%64:=JTr (k:=6) om h0 h1
theorem a31:Y8 .u8 y 31=y%32:=JTr (k:=5) om h0 h1
theorem a15:Y8 .u8 y 15=y%16:=JTr (k:=4) om h0 h1
theorem a7:Y8 .u8 y 7=y%8:=JTr (k:=3) om h0 h1
theorem c63:Y8 .i32 y 63=y%64:=JL8 (k:=6) om h0 om
theorem c31:Y8 .i32 y 31=y%32:=JL8 (k:=5) om h0 om
theorem c15:Y8 .i32 y 15=y%16:=JL8 (k:=4) om h0 om
theorem c7:Y8 .i32 y 7=y%8:=JL8 (k:=3) om h0 om
end
def JNw:Nat->List Int->List Int
 |0,_=>[]
 |_+1,[]=>[]
 |n+1,c::t=>(one (c::t)).1::JNw n ((c::t).drop (one (c::t)).2.1)
def raw(b:List Int):List Int:=JNw b.length b
def JQK:Nat->List Int->Bool
 |0,_=>true
 |_+1,[]=>true
 |n+1,c::t=>(one (c::t)).2.2&&JQK n ((c::t).drop (one (c::t)).2.1)
def whole(b:List Int):Bool:=JQK b.length b
theorem JQL:∀(n:Nat) (r lo hi:Int) (k:Nat) (t:List Int),k<=(more n r lo hi k t).2.1/\(more n r lo hi k t).2.1<=k+n/\(more n r lo hi k t).2.1<=k+t.length
 |0,_,_,_,_,_=>by simp[more]
 |n+1,_,_,_,_,[]=>by simp[more]
 |n+1,r,lo,hi,k,c::t=>by
  unfold more
  split
  ·simp
  ·have:=JQL n (r*64+c%64) 128 191 (k+1) t
   simp only[Ag];omega
theorem JVQ(c:Int):(nd c).1<=3:=by
 unfold nd
 repeat' split
 all_goals simp
theorem JQM(c:Int)(t:List Int):1<=(one (c::t)).2.1/\(one (c::t)).2.1<=4/\(one (c::t)).2.1<=(c::t).length:=by
 simp only[one]
 split
 ·simp
 ·split
  ·simp
  ·have:=JQL (nd c).1 (c%2^ (6-(nd c).1)) (nd c).2.1 (nd c).2.2 1 t
   have:=JVQ c;simp only[Ag];omega
theorem JDW:∀(n m:Nat) (b:List Int),b.length<=n->b.length<=m->JNw n b=JNw m b
 |0,0,_,_,_=>rfl
 |0,m+1,[],_,_=>rfl
 |n+1,0,[],_,_=>rfl
 |n+1,m+1,[],_,_=>rfl
 |n+1,m+1,c::t,h1,h2=>by have:=JQM c t;simp only[JNw];rw[JDW n m _ (by rw[Ay];omega) (by rw[Ay];omega)]
theorem zn:raw []=[]:=rfl
theorem JQN(c:Int)(t:List Int):raw (c::t)=(one (c::t)).1::raw ((c::t).drop (one (c::t)).2.1):=by
 have:=JQM c t;show(one (c::t)).1::JNw t.length ((c::t).drop (one (c::t)).2.1)=_
 rw[raw,JDW _ _ _ (by rw[Ay,Ag];omega) (Ac _)]
theorem By.drop{b:List Int}(h:By b)(n:Nat):By (b.drop n):=λc hc=>h c (List.mem_of_mem_drop hc)
theorem Jdf{r:Int}(h0:0<=r)(h1:r<=1000000):IntKind.i32.wrap (Jax .i32 r 6)=r*64:=wrap_i32 (by show _<=r*64;omega) (by show r*64<=_;omega)
theorem JQO{b:List Int}(h:b≠[]):raw b=(one b).1::raw (b.drop (one b).2.1):=by
 cases b with
 |nil=>exact absurd rfl h
 |cons c t=>exact JQN c t
theorem JDX{b:List Int}(h:b≠[]):1<=(one b).2.1/\(one b).2.1<=4/\(one b).2.1<=b.length:=by
 cases b with
 |nil=>exact absurd rfl h
 |cons c t=>exact JQM c t
theorem JNx{p:List Int->Prop}(h0:p [])(h1:∀b,b≠[]->p (b.drop (one b).2.1)->p b)(b:List Int):p b:=by
 suffices∀n (b:List Int),b.length<=n->p b from this b.length b (Ac _)
 intro n
 induction n with
 |zero=>intro b hb;obtain rfl:b=[]:=Au om;exact h0
 |succ n ih=>
  intro b hb;by_cases hn:b=[]
  ·subst hn;exact h0
  ·have:=JDX hn
   exact h1 b hn (ih _ (by rw[Ay];omega))
theorem JNy(b:List Int):(raw b).length<=b.length/\b.length<=4*(raw b).length:=by
 refine JNx (p:=λb=>(raw b).length<=b.length/\b.length<=4*(raw b).length) (by simp[zn]) (λb hn ih=>?_) b
 have hk:=JDX hn;rw[JQO hn,Ag];rw[Ay]at ih;omega
def Q2(l:List Int):List Int:=l.flatMap λx=>enc (KQ x)
theorem JYe(x:Int)(h0:0<=x)(h1:x<=1114111):By (enc x):=by
 unfold enc;intro c hc
 split at hc
 ·simp only[Bg,Cp,or_false]at hc;omega
 ·split at hc
  ·simp only[Bg,Cp,or_false]at hc;omega
  ·split at hc<;>simp only[Bg,Cp,or_false]at hc<;>omega
theorem zo(l:List Int):By (Q2 l):=by intro c hc;obtain⟨x,_,hx⟩:=List.mem_flatMap.mp hc;have:=ZQ x;exact JYe _ this.1 this.2 c hx
theorem JNz(x:Int)(l:List Int):Q2 (x::l)=enc (KQ x)++Q2 l:=rfl
def Q4(back:Bool)(x:Int):List Int:=if x==10&&back then[]else[if x==13||x==12 then 10 else if x==0 then 65533 else x]
def dec:Bool->List Int->List Int
 |_,[]=>[]
 |back,x::l=>Q4 back x++dec (x==13) l
def bom(b:List Int):Bool:=b.take 3==[239,187,191]
def QO(b:List Int):List Int:=if bom b=true then b.drop 3 else b
def decode(b:List Int):List Int:=dec false (raw (QO b))
def fine(x:Int):Prop:=x≠0/\x≠12/\x≠13/\KQ x=x
theorem JH4{b:List Int}(hy:By b):By (QO b):=by
 unfold QO
 split
 ·exact hy.drop _
 ·exact hy
end Go.Lift.Utf
end

section
namespace Go.Lift.Tok
open Utf
def chr(s:List Int)(k:Nat):Int:=match s[k]? with
 |some x=>x
 |none=> -1
def Jn(c:Int):Bool:=decide (48<=c)&&decide (c<=57)
def JH5(c:Int):Bool:=decide (97<=c)&&decide (c<=122)||decide (65<=c)&&decide (c<=90)||c==95||decide (128<=c)
def j8(c:Int):Bool:=JH5 c||Jn c||c==45
def blk(c:Int):Bool:=c==10||c==9||c==32
def unp(c:Int):Bool:=decide (0<=c)&&decide (c<=8)||c==11||decide (14<=c)&&decide (c<=31)||c==127
def hex(c:Int):Int:=if Jn c=true then c-48 else if(decide (97<=c)&&decide (c<=102))=true then c-97+10 else if(decide (65<=c)&&decide (c<=70))=true then c-65+10 else-1
def Gi(a b:Int):Bool:=a==92&&b !=10
def beg(a b c:Int):Bool:=if(a==45)=true then JH5 b||b==45||Gi b c else JH5 a||Gi a b
def num(a b c:Int):Bool:=if(a==43||a==45)=true then Jn b||b==46&&Jn c else Jn a||a==46&&Jn b
def quo(c:Int):Bool:=c==34||c==39
def Kb(s:List Int):List Int:=s.dropWhile blk
def QR:Nat->Int->List Int->Int×List Int
 |0,n,s=>(n,s)
 |_+1,n,[]=>(n,[])
 |k+1,n,c::t=>if hex c<0 then(n,c::t)else QR k (n*16+hex c) t
def JA6:List Int->List Int
 |[]=>[]
 |d::u=>if blk d=true then u else d::u
def KD:List Int->Int×List Int
 |[]=>(65533,[])
 |c::t=>if hex c<0 then(c,t)else
  (if(QR 6 0 (c::t)).1=0 then 65533 else KQ (QR 6 0 (c::t)).1,JA6 (QR 6 0 (c::t)).2)
def KW:Nat->List Int->List Int×List Int
 |0,s=>([],s)
 |_+1,[]=>([],[])
 |n+1,c::t=>
  if j8 c=true then(c::(KW n t).1,(KW n t).2)
  else if Gi c (chr t 0)=true then((KD t).1::(KW n (KD t).2).1,(KW n (KD t).2).2)
  else([],c::t)
def name(s:List Int):List Int×List Int:=KW s.length s
def G9:List Int->List Int
 |[]=>[]
 |[_]=>[]
 |c::d::t=>if c=42/\d=47 then t else G9 (d::t)
def Z1:Nat->List Int->List Int
 |0,s=>s
 |n+1,c::d::t=>if c=47/\d=42 then Z1 n (G9 t)else c::d::t
 |_+1,s=>s
def Y9(s:List Int):List Int:=Z1 s.length s
def KC(sign:Int):Nat->List Int->Bool×List Int×List Int
 |0,s=>(true,[],s)
 |_+1,[]=>(true,[],[])
 |n+1,c::t=>
  if c=10 then(false,[],c::t)
  else if c=sign then(true,[],t)
  else if c=92 then
   match t with
   |[]=>(true,[],[])
   |d::u=>if d=10 then KC sign n u else((KC sign n (KD t).2).1,(KD t).1::(KC sign n (KD t).2).2.1,(KC sign n (KD t).2).2.2)
  else((KC sign n t).1,c::(KC sign n t).2.1,(KC sign n t).2.2)
def txt(sign:Int)(s:List Int):Bool×List Int×List Int:=KC sign s.length s
def YH:Nat->List Int->List Int
 |0,s=>s
 |_+1,[]=>[]
 |n+1,c::t=>if c=41 then t else if Gi c (chr t 0)=true then YH n (KD t).2 else YH n t
def HC(s:List Int):List Int:=YH s.length s
def KJ:Nat->List Int->Bool×List Int×List Int
 |0,s=>(true,[],s)
 |_+1,[]=>(true,[],[])
 |n+1,c::t=>
  if c=41 then(true,[],t)
  else if blk c=true then(if chr (Kb t) 0= -1\/chr (Kb t) 0=41 then(true,[],(Kb t).drop 1)else(false,[],HC (Kb t)))
  else if(quo c||c==40||unp c)=true then(false,[],HC (c::t))
  else if c=92 then
   if Gi c (chr t 0)=true then((KJ n (KD t).2).1,(KD t).1::(KJ n (KD t).2).2.1,(KJ n (KD t).2).2.2)
   else(false,[],HC (c::t))
  else((KJ n t).1,c::(KJ n t).2.1,(KJ n t).2.2)
def yy(s:List Int):Bool×List Int×List Int:=KJ (Kb s).length (Kb s)
structure Tk where
 kind:Int
 text:List Int
 num:Int×Int
 whole:Bool
 id:Bool
 deriving DecidableEq
end Go.Lift.Tok
end

section
namespace Go.Lift.Rul
structure Tk4 where
 k:Int
 b:List Int
 n:Int
 d:Int
 w:Bool
 i:Bool
 deriving DecidableEq
def JN(k:Int):Int:=if k=2\/k=21 then 22 else if k=19 then 20 else if k=23 then 24 else 0
theorem H9(k:Int):JN (JN k)=0:=by
 unfold JN
 repeat' split
 all_goals first|rfl|(exfalso;omega)
theorem qx(k:Int):JN k=0\/JN k=20\/JN k=22\/JN k=24:=by
 unfold JN
 repeat' split
 all_goals simp
inductive CV where
 |mk (t:Tk4) (kids:List CV)
def CV.t:CV->Tk4
 | .mk t _=>t
def CV.ks:CV->List CV
 | .mk _ k=>k
abbrev K7:=List (Tk4×List CV)
def KM(v:CV):K7->List CV->K7×List CV
 |[],b=>([],b++[v])
 |(o,ks)::r,b=>((o,ks++[v])::r,b)
def KT:K7->List CV->K7×List CV
 |[],b=>([],b)
 |(o,ks)::r,b=>KM (.mk o ks) r b
def ctx:K7->Option Int
 |[]=>none
 |(o,_)::_=>some (JN o.k)
def K3(t:Tk4)(s:K7)(b:List CV):K7×List CV:=
 if ctx s=some t.k then KT s b else if JN t.k≠0 then((t,[])::s,b)else KM (.mk t []) s b
def runS:List Tk4->K7->List CV->K7×List CV
 |[],s,b=>(s,b)
 |t::l,s,b=>runS l (K3 t s b).1 (K3 t s b).2
theorem JA7(v:CV)(s:K7)(b:List CV):(KM v s b).1.length=s.length:=by
 cases s with
 |nil=>rfl
 |cons p r=>rfl
theorem Z2(o:Tk4×List CV)(r:K7)(b:List CV):(KT (o::r) b).1.length=r.length:=JA7 _ _ _
def JQQ:Nat->K7->List CV->List CV
 |0,_,b=>b
 |n+1,s,b=>JQQ n (KT s b).1 (KT s b).2
def Qx(s:K7)(b:List CV):List CV:=JQQ s.length s b
def vals(l:List Tk4):List CV:=Qx (runS l [] []).1 (runS l [] []).2
inductive PV where
 |leaf (t:Tk4)
 |node (t:Tk4) (kids:List PV) (c:Option Tk4)
mutual
def Jl:PV->List Tk4
 | .leaf t=>[t]
 | .node t ks c=>t::(toksL ks++c.toList)
def toksL:List PV->List Tk4
 |[]=>[]
 |v::r=>Jl v++toksL r
end
mutual
def cvV:PV->CV
 | .leaf t=> .mk t []
 | .node t ks _=> .mk t (Jh ks)
def Jh:List PV->List CV
 |[]=>[]
 |v::r=>cvV v::Jh r
end
mutual
def QJ(x:Option Int)(last:Bool):PV->Prop
 | .leaf t=>JN t.k=0/\x≠some t.k
 | .node t ks c=>JN t.k≠0/\x≠some t.k/\(match c with
  |some e=>e.k=JN t.k/\Ko (some (JN t.k)) false ks
  |none=>last=true/\Ko (some (JN t.k)) true ks)
def Ko(x:Option Int)(last:Bool):List PV->Prop
 |[]=>True
 |v::r=>QJ x (last&&r.isEmpty) v/\Ko x last r
end
theorem Ky{x:Option Int}{b:Bool}{t:Tk4}:QJ x b (.leaf t)↔JN t.k=0/\x≠some t.k:=by rw[QJ]
theorem J9{x:Option Int}{b:Bool}{t:Tk4}{ks:List PV}:QJ x b (.node t ks none)↔JN t.k≠0/\x≠some t.k/\b=true/\Ko (some (JN t.k)) true ks:=by rw[QJ]
theorem KG{x:Option Int}{b:Bool}{t e:Tk4}{ks:List PV}:QJ x b (.node t ks (some e))↔JN t.k≠0/\x≠some t.k/\e.k=JN t.k/\Ko (some (JN t.k)) false ks:=by rw[QJ]
theorem Ju{x:Option Int}{b:Bool}{v:PV}{r:List PV}:Ko x b (v::r)↔QJ x (b&&r.isEmpty) v/\Ko x b r:=by rw[Ko]
def Jdg(k:Int):Prop:=k=20\/k=22\/k=24
theorem JH6{k:Int}(h:JN k≠0):Jdg (JN k):=by
 rcases qx k with h'|h'|h'|h'
 ·exact absurd h' h
 ·exact .inl h'
 ·exact .inr (.inl h')
 ·exact .inr (.inr h')
theorem JQR:∀(n:Nat) (l:List Tk4),l.length<=n->∀x:Option Int,(∀k,x=some k->Jdg k)->
  ∃F rest,l=toksL F++rest/\((rest=[]/\Ko x true F)\/ ∃e r,rest=e::r/\x=some e.k/\Ko x false F):=by
 intro n
 induction n with
 |zero=>
  intro l hl x hx;obtain rfl:l=[]:=Au om
  exact⟨[],[],rfl,.inl ⟨rfl,trivial⟩⟩
 |succ n ih=>
  intro l hl x hx
  cases l with
  |nil=>exact⟨[],[],rfl,.inl ⟨rfl,trivial⟩⟩
  |cons t l=>
   simp only[Ag]at hl;by_cases h1:x=some t.k
   ·exact⟨[],t::l,rfl,.inr ⟨t,l,rfl,h1,trivial⟩⟩
   by_cases h2:JN t.k=0
   ·obtain⟨F,rest,e,h⟩:=ih l om x hx
    refine⟨.leaf t::F,rest,by rw[e,toksL,Jl];rfl,?_⟩
    rcases h with⟨rfl,hg⟩|⟨e',r,rfl,he,hg⟩
    ·exact .inl ⟨rfl,Ju.2 ⟨by rw[QJ];exact⟨h2,h1⟩,hg⟩⟩
    ·exact .inr ⟨e',r,rfl,he,Ju.2 ⟨by rw[QJ];exact⟨h2,h1⟩,hg⟩⟩
   ·obtain⟨K,rest,e,h⟩:=ih l om (some (JN t.k)) (λk hk=>by cases hk;exact JH6 h2)
    rcases h with⟨rfl,hg⟩|⟨e',r,rfl,he,hg⟩
    ·refine⟨[.node t K none],[],?_,.inl ⟨rfl,Ju.2 ⟨by rw[QJ];exact⟨h2,h1,rfl,hg⟩,trivial⟩⟩⟩
     rw[e,toksL,Jl,toksL];simp
    ·have hr:r.length<=n:=by
      have:=congrArg List.length e;simp only[An,Ag]at this;omega
     obtain⟨F,rest,e2,h⟩:=ih r hr x hx
     have hn:∀b,QJ x b (.node t K (some e')):=λb=>by rw[QJ];exact⟨h2,h1,(Option.some.inj he).symm,hg⟩
     refine⟨.node t K (some e')::F,rest,?_,?_⟩
     ·rw[e,e2,toksL,Jl]
      simp
     ·rcases h with⟨rfl,hg2⟩|⟨e3,r3,rfl,he3,hg2⟩
      ·exact .inl ⟨rfl,Ju.2 ⟨hn _,hg2⟩⟩
      ·exact .inr ⟨e3,r3,rfl,he3,Ju.2 ⟨hn _,hg2⟩⟩
theorem zp(l:List Tk4):∃F,l=toksL F/\Ko none true F:=by
 obtain⟨F,rest,e,h⟩:=JQR l.length l (Ac _) none (λk hk=>by cases hk)
 rcases h with⟨rfl,hg⟩|⟨e',r,rfl,he,hg⟩
 ·exact⟨F,by rw[e,Aq],hg⟩
 ·cases he
theorem JA8:∀(F:List PV) {x:Option Int} {b:Bool},Ko x b F->Ko none b F
 |[],_,_,_=>trivial
 |v::r,x,b,h=>by
  rw[Ju]at h⊢;refine⟨?_,JA8 r h.2⟩
  have h1:=h.1
  cases v with
  |leaf t=>exact Ky.2 ⟨(Ky.1 h1).1,λh=>by cases h⟩
  |node t ks c=>
   cases c with
   |none=>exact J9.2 ⟨(J9.1 h1).1,λh=>(by cases h),(J9.1 h1).2.2⟩
   |some e=>exact KG.2 ⟨(KG.1 h1).1,λh=>(by cases h),(KG.1 h1).2.2⟩
theorem JDY:∀(F G:List PV) {x:Option Int} {b:Bool},Ko x b (F++G)->Ko x (b&&G.isEmpty) F/\Ko x b G
 |[],G,x,b,h=>⟨trivial,h⟩
 |v::r,G,x,b,h=>by
  rw[Ae,Ju]at h;obtain⟨h1,h2⟩:=JDY r G h.2;refine⟨Ju.2 ⟨?_,h1⟩,h2⟩
  have:(b&&(r++G).isEmpty)=(b&&G.isEmpty&&r.isEmpty):=by cases b<;>cases r<;>cases G<;>rfl
  rw[<-this];exact h.1
theorem JK4{v:PV}{x:Option Int}{b:Bool}(h:QJ x b v):QJ x true v:=by
 cases v with
 |leaf t=>exact Ky.2 (Ky.1 h)
 |node t ks c=>
  cases c with
  |none=>exact J9.2 ⟨(J9.1 h).1,(J9.1 h).2.1,rfl,(J9.1 h).2.2.2⟩
  |some e=>exact KG.2 (KG.1 h)
theorem jd:∀(F:List PV) {x:Option Int} {b:Bool},Ko x b F->Ko x true F
 |[],_,_,_=>trivial
 |v::r,x,b,h=>by
  rw[Ju]at h⊢;refine⟨?_,jd r h.2⟩
  cases r with
  |nil=>exact JK4 h.1
  |cons u r=>
   have:(b&&(u::r).isEmpty)=(true&&(u::r).isEmpty):=by simp
   rw[<-this];exact h.1
theorem JN1(F G:List PV):toksL (F++G)=toksL F++toksL G:=by
 induction F with
 |nil=>rfl
 |cons v r ih=>rw[Ae,toksL,ih,toksL,List.append_assoc]
theorem JTs(F G:List PV):Jh (F++G)=Jh F++Jh G:=by
 induction F with
 |nil=>rfl
 |cons v r ih=>rw[Ae,Jh,ih,Jh,Ae]
theorem JGm(F:List PV):(Jh F).length=F.length:=by
 induction F with
 |nil=>rfl
 |cons v r ih=>rw[Jh,Ag,ih,Ag]
def Q6(vs:List CV):K7->List CV->K7×List CV
 |[],b=>([],b++vs)
 |(o,ks)::r,b=>((o,ks++vs)::r,b)
theorem HD(s:K7)(b:List CV):Q6 [] s b=(s,b):=by
 cases s with
 |nil=>simp[Q6]
 |cons p r=>obtain⟨o,ks⟩:=p;simp[Q6]
theorem GO(v:CV)(vs:List CV)(s:K7)(b:List CV):Q6 vs (KM v s b).1 (KM v s b).2=Q6 (v::vs) s b:=by
 cases s with
 |nil=>simp[KM,Q6]
 |cons p r=>obtain⟨o,ks⟩:=p;simp[KM,Q6]
theorem JA9(v:CV)(s:K7)(b:List CV):ctx (KM v s b).1=ctx s:=by
 cases s with
 |nil=>rfl
 |cons p r=>obtain⟨o,ks⟩:=p;rfl
theorem JBA(l m:List Tk4):∀(s:K7) (b:List CV),runS (l++m) s b=runS m (runS l s b).1 (runS l s b).2:=by
 induction l with
 |nil=>intro s b;rfl
 |cons t l ih=>intro s b;rw[Ae,runS,ih,runS]
mutual
theorem ZR:∀(v:PV) (s:K7) (b:List CV),QJ (ctx s) false v->runS (Jl v) s b=KM (cvV v) s b
 | .leaf t,s,b,h=>by
  rw[QJ]at h;rw[Jl,runS,runS,cvV];unfold K3
  rw[if_neg h.2,if_neg (by simp[h.1])]
 | .node t ks none,s,b,h=>by
  rw[QJ]at h
  exact absurd h.2.2.1 (by decide)
 | .node t ks (some e),s,b,h=>by
  rw[QJ]at h;obtain⟨h1,h2,h3,h4⟩:=h
  have e1:K3 t s b=((t,[])::s,b):=by unfold K3;rw[if_neg h2,if_pos h1]
  rw[Jl,runS,e1,JBA];simp only;rw[yz ks ((t,[])::s) b h4];simp only[Q6,Af,C7];rw[runS,runS,cvV];unfold K3;rw[if_pos (by show some (JN t.k)=some e.k;rw[h3])]
  rfl
theorem yz:∀(F:List PV) (s:K7) (b:List CV),Ko (ctx s) false F->runS (toksL F) s b=Q6 (Jh F) s b
 |[],s,b,_=>by rw[toksL,runS,Jh,HD]
 |v::r,s,b,h=>by rw[Ko]at h;rw[toksL,JBA,ZR v s b (by simpa using h.1),yz r _ _ (by rw[JA9];exact h.2),Jh,GO]
end
theorem GP(p:Tk4×List CV)(s:K7)(b:List CV):Qx (p::s) b=Qx (KT (p::s) b).1 (KT (p::s) b).2:=by unfold Qx;rw[Ag,JQQ,Z2]
mutual
theorem JN2:∀(v:PV) (s:K7) (b:List CV),QJ (ctx s) true v->Qx (runS (Jl v) s b).1 (runS (Jl v) s b).2=Qx (KM (cvV v) s b).1 (KM (cvV v) s b).2
 | .leaf t,s,b,h=>by rw[ZR (.leaf t) s b (by rw[QJ]at h⊢;exact h)]
 | .node t ks (some e),s,b,h=>by rw[ZR (.node t ks (some e)) s b (by rw[QJ]at h⊢;exact h)]
 | .node t ks none,s,b,h=>by
  rw[QJ]at h;obtain⟨h1,h2,_,h4⟩:=h
  have e1:K3 t s b=((t,[])::s,b):=by unfold K3;rw[if_neg h2,if_pos h1]
  rw[Jl,runS,e1];simp only[C7,Aq];rw[qy ks ((t,[])::s) b h4];simp only[Q6,Af];rw[GP,cvV];rfl
theorem qy:∀(F:List PV) (s:K7) (b:List CV),Ko (ctx s) true F->Qx (runS (toksL F) s b).1 (runS (toksL F) s b).2=Qx (Q6 (Jh F) s b).1 (Q6 (Jh F) s b).2
 |[],s,b,_=>by rw[toksL,runS,Jh,HD]
 |[v],s,b,h=>by
  rw[Ko]at h
  rw[toksL,toksL,Aq,JN2 v s b (by simpa using h.1),Jh,Jh,<-GO,HD]
 |v::u::r,s,b,h=>by rw[Ko]at h;rw[toksL,JBA,ZR v s b (by simpa using h.1),qy (u::r) _ _ (by rw[JA9];exact h.2),GO,<-Jh]
end
theorem Hs{F:List PV}{x:Option Int}{b:Bool}(h:Ko x b F):vals (toksL F)=Jh F:=by
 have:=qy F [] [] (jd F (JA8 F h));unfold vals;rw[this];show Qx [] ([]++Jh F)=_
 rfl
mutual
def kb:PV->Nat
 | .leaf _=>0
 | .node _ ks _=>depL ks+1
def depL:List PV->Nat
 |[]=>0
 |v::r=>max (kb v) (depL r)
end
structure LS where
 st:List Nat
 E:List Nat
 D:List Nat
def Qk(at_:Nat)(s:LS):LS:=
 match s.st with
 |[]=>s
 |[i]=>⟨[],s.E.set i at_,s.D.set i (s.D.getD i 0+1)⟩
 |i::j::r=>⟨j::r,s.E.set i at_,(s.D.set i (s.D.getD i 0+1)).set j (max (s.D.getD j 0) (s.D.getD i 0+1))⟩
def JYf(l:List Tk4)(j:Nat):Int:=match l[j]? with
 |some t=>JN t.k
 |none=>0
def JCj(l:List Tk4):List Nat->Option Int
 |[]=>none
 |j::_=>some (JYf l j)
def Gj(l:List Tk4)(i:Nat)(x:Tk4)(s:LS):LS:=
 if JN x.k≠0 then⟨i::s.st,s.E,s.D⟩else if JCj l s.st=some x.k then Qk i s else s
def runL(l:List Tk4):Nat->List Tk4->LS->LS
 |_,[],s=>s
 |i,x::r,s=>runL l (i+1) r (Gj l i x s)
def shutK(N:Nat):Nat->LS->LS
 |0,s=>s
 |k+1,s=>shutK N k (Qk N s)
def YZ(l:List Tk4):LS:=
 let s:=runL l 0 l ⟨[],BB l.length 0,BB l.length 0⟩
 shutK l.length s.st.length s
mutual
def y4(N:Nat)(E D:List Nat)(p:Nat):PV->Prop
 | .leaf _=>D.getD p 0=0
 | .node t ks c=>E.getD p 0=(match c with
  |some _=>p+1+(toksL ks).length
  |none=>N)/\D.getD p 0=depL ks+1/\Kz N E D (p+1) ks
def Kz(N:Nat)(E D:List Nat)(p:Nat):List PV->Prop
 |[]=>True
 |v::r=>y4 N E D p v/\Kz N E D (p+(Jl v).length) r
end
def Jdh(N p:Nat)(ks:List PV)(c:Option Tk4):Nat:=match c with
 |some _=>p+1+(toksL ks).length
 |none=>N
theorem Ws{N p:Nat}{E D:List Nat}{t:Tk4}{ks:List PV}{c:Option Tk4}:y4 N E D p (.node t ks c)↔E.getD p 0=Jdh N p ks c/\D.getD p 0=depL ks+1/\Kz N E D (p+1) ks:=by cases c<;>rw[y4]<;>rfl
theorem qz(v:PV):0<(Jl v).length:=by
 cases v with
 |leaf t=>rw[Jl];exact Nat.one_pos
 |node t ks c=>rw[Jl];simp
mutual
theorem JBB{N:Nat}{E D E' D':List Nat}:∀(v:PV) {p:Nat},(∀q,p<=q->q<p+(Jl v).length->E'.getD q 0=E.getD q 0/\D'.getD q 0=D.getD q 0)->y4 N E D p v->y4 N E' D' p v
 | .leaf t,p,h,hl=>by
  rw[y4]at hl⊢;rw[(h p (Ac _) (by rw[Jl];simp)).2]
  exact hl
 | .node t ks c,p,h,hl=>by
  rw[Ws]at hl⊢;obtain⟨h1,h2,h3⟩:=hl;have hp:=h p (Ac _) (by rw[Jl];simp)
  refine⟨by rw[hp.1];exact h1,by rw[hp.2];exact h2,GQ ks (λq hq hq2=>h q om ?_) h3⟩
  rw[Jl];simp only[Ag,An];omega
theorem GQ{N:Nat}{E D E' D':List Nat}:∀(F:List PV) {p:Nat},(∀q,p<=q->q<p+(toksL F).length->E'.getD q 0=E.getD q 0/\D'.getD q 0=D.getD q 0)->Kz N E D p F->Kz N E' D' p F
 |[],p,_,_=>by rw[Kz];trivial
 |v::r,p,h,hl=>by rw[Kz]at hl⊢;rw[toksL]at h;simp only[An]at h;exact⟨JBB v (λq h1 h2=>h q h1 om) hl.1,GQ r (λq h1 h2=>h q om om) hl.2⟩
end
structure Lays(N p:Nat)(F:List PV)(s s':LS):Prop where
 st:s'.st=s.st
 le:s'.E.length=N
 ld:s'.D.length=N
 e:∀q,q<p->s'.E.getD q 0=s.E.getD q 0
 d:∀q,q<p->s.st.head? ≠some q->s'.D.getD q 0=s.D.getD q 0
 top:∀j,s.st.head? =some j->s'.D.getD j 0=max (s.D.getD j 0) (depL F)
 new:∀q,p+(toksL F).length<=q->s'.D.getD q 0=0
 laid:Kz N s'.E s'.D p F
structure Begins(N p:Nat)(s:LS):Prop where
 le:s.E.length=N
 ld:s.D.length=N
 lt:∀j∈s.st,j<p
 new:∀q,p<=q->s.D.getD q 0=0
theorem Kv{l:List Nat}{i:Nat}{x:Nat}(h:i<l.length):(l.set i x).getD i 0=x:=by simp[Bs,h]
theorem Jp{l:List Nat}{i q:Nat}{x:Nat}(h:q≠i):(l.set i x).getD q 0=l.getD q 0:=by simp[Bs,List.getElem?_set,Ne.symm h]
theorem Begins.lays_nil{N p:Nat}{s:LS}(h:Begins N p s):Lays N p [] s s:=
 ⟨rfl,h.le,h.ld,λ_ _=>rfl,λ_ _ _=>rfl,λj _=>by rw[depL];omega,λq hq=>h.new q om,by rw[Kz];trivial⟩
theorem Lays.seq{N p:Nat}{v:PV}{r:List PV}{s s1 s2:LS}(hb:Begins N p s)(h1:Lays N p [v] s s1)(h2:Lays N (p+(Jl v).length) r s1 s2):Lays N p (v::r) s s2:=by
 have e1:(toksL [v]).length=(Jl v).length:=by rw[toksL,toksL,Aq]
 have e2:(toksL (v::r)).length=(Jl v).length+(toksL r).length:=by rw[toksL,An]
 have htop:∀j,s.st.head? =some j->j<p:=λj hj=>hb.lt j (List.mem_of_mem_head? hj)
 refine⟨h2.st.trans h1.st,h2.le,h2.ld,λq hq=>?_,λq hq hn=>?_,λj hj=>?_,λq hq=>h2.new q om,?_⟩
 ·rw[h2.e q om,h1.e q hq]
 ·rw[h2.d q om (by rw[h1.st];exact hn),h1.d q hq hn]
 ·rw[h2.top j (by rw[h1.st];exact hj),h1.top j hj,depL,depL,depL]
  omega
 ·rw[Kz]
  refine⟨JBB v (λq q1 q2=>⟨h2.e q q2,h2.d q q2 (λe=>?_)⟩) (by have:=h1.laid;rw[Kz]at this;exact this.1),h2.laid⟩
  rw[h1.st]at e;have:=htop q e;omega
theorem Lays.begins{N p:Nat}{F:List PV}{s s1:LS}(hb:Begins N p s)(h:Lays N p F s s1):Begins N (p+(toksL F).length) s1:=
 ⟨h.le,h.ld,λj hj=>by rw[h.st]at hj;have:=hb.lt j hj;omega,h.new⟩
theorem kg(l:List Tk4):∀(a b:List Tk4) (i:Nat) (s:LS),runL l i (a++b) s=runL l (i+a.length) b (runL l i a s)
 |[],b,i,s=>rfl
 |x::a,b,i,s=>by
  rw[Ae,runL,kg l a b,runL,Ag]
  congr 1
  omega
theorem JK5(N k:Nat)(s:LS):shutK N (k+1) s=Qk N (shutK N k s):=by
 induction k generalizing s with
 |zero=>rfl
 |succ k ih=>rw[shutK,ih,shutK]
theorem JBC{N p a:Nat}{t:Tk4}{ks:List PV}{c:Option Tk4}{s s1:LS}(hb:Begins N p s)(hp:p<N)(h:Lays N (p+1) ks ⟨p::s.st,s.E,s.D⟩ s1)
  (ha:a=match c with
   |some _=>p+1+(toksL ks).length
   |none=>N):Lays N p [.node t ks c] s (Qk a s1):=by
 have hlen:(toksL [PV.node t ks c]).length=1+(toksL ks).length+c.toList.length:=by rw[toksL,toksL,Jl];simp only[Aq,Ag,An];omega
 have htp:s1.D.getD p 0=depL ks:=by
  have:=h.top p rfl;rw[this];show max (s.D.getD p 0) _=_
  rw[hb.new p (Ac _)];omega
 have hdep:depL [PV.node t ks c]=depL ks+1:=by rw[depL,depL,kb];omega
 have hst:=h.st;simp only at hst;have hold:∀q,q<p->s1.D.getD q 0=s.D.getD q 0:=λq hq=>h.d q om (by simp;omega)
 have holdE:∀q,q<p->s1.E.getD q 0=s.E.getD q 0:=λq hq=>h.e q om
 obtain⟨st1,E1,D1⟩:=s1;subst hst;have hE:E1.length=N:=h.le;have hD:D1.length=N:=h.ld;simp only at htp hold holdE;have hnew:∀q,p+1+(toksL ks).length<=q->D1.getD q 0=0:=h.new;have hlaid:Kz N E1 D1 (p+1) ks:=h.laid
 cases hs:s.st with
 |nil=>
  have e:Qk a ⟨[p],E1,D1⟩=⟨[],E1.set p a,D1.set p (depL ks+1)⟩:=by
   show LS.mk [] _ (D1.set p (D1.getD p 0+1))=_
   rw[htp]
  rw[e];refine⟨hs.symm,by simpa using hE,by simpa using hD,λq hq=>?_,λq hq _=>?_,λj hj=>?_,λq hq=>?_,?_⟩
  ·show(E1.set p a).getD q 0=_
   rw[Jp om,holdE q hq]
  ·show(D1.set p _).getD q 0=_
   rw[Jp om,hold q hq]
  ·rw[hs]at hj;cases hj
  ·show(D1.set p _).getD q 0=_
   rw[Jp om];exact hnew q om
  ·show Kz N (E1.set p a) (D1.set p (depL ks+1)) p _
   rw[Kz,Ws];refine⟨⟨?_,?_,GQ ks (λq q1 q2=>⟨Jp om,Jp om⟩) hlaid⟩,by rw[Kz];trivial⟩
   ·rw[Kv om,ha]
    cases c<;>rfl
   ·rw[Kv om]
 |cons j r=>
  have hjp:j<p:=hb.lt j (by rw[hs];simp)
  have e:Qk a ⟨p::j::r,E1,D1⟩=⟨j::r,E1.set p a,(D1.set p (depL ks+1)).set j (max (D1.getD j 0) (depL ks+1))⟩:=by
   show LS.mk (j::r) _ ((D1.set p (D1.getD p 0+1)).set j (max (D1.getD j 0) (D1.getD p 0+1)))=_
   rw[htp]
  rw[e];refine⟨hs.symm,by simpa using hE,by simpa using hD,λq hq=>?_,λq hq hn=>?_,λk hk=>?_,λq hq=>?_,?_⟩
  ·show(E1.set p a).getD q 0=_
   rw[Jp om,holdE q hq]
  ·show((D1.set p _).set j _).getD q 0=_
   have hqj:q≠j:=λe=>hn (by rw[hs,e];rfl)
   rw[Jp hqj,Jp om,hold q hq]
  ·rw[hs]at hk
   obtain rfl:j=k:=by simpa using hk
   show((D1.set p _).set j _).getD j 0=_
   rw[Kv (by simp;omega),hold j hjp,hdep]
  ·show((D1.set p _).set j _).getD q 0=_
   rw[Jp om,Jp om];exact hnew q om
  ·show Kz N (E1.set p a) ((D1.set p (depL ks+1)).set j _) p _
   rw[Kz,Ws];refine⟨⟨?_,?_,GQ ks (λq q1 q2=>⟨Jp om,by rw[Jp om,Jp om]⟩) hlaid⟩,by rw[Kz];trivial⟩
   ·rw[Kv om,ha]
    cases c<;>rfl
   ·rw[Jp om,Kv om]
def Lies(l:List Tk4)(p:Nat)(m:List Tk4):Prop:=∀k,k<m.length->l[p+k]? =m[k]?
theorem Lies.left{l a b:List Tk4}{p:Nat}(h:Lies l p (a++b)):Lies l p a:=λk hk=>by rw[h k (by simp;omega),List.getElem?_append_left hk]
theorem Lies.right{l a b:List Tk4}{p:Nat}(h:Lies l p (a++b)):Lies l (p+a.length) b:=λk hk=>by
 have:=h (a.length+k) (by simp;omega)
 rw[List.getElem?_append_right om,Nat.add_sub_cancel_left]at this
 rw[Nat.add_assoc];exact this
theorem Lies.le{l m:List Tk4}{p:Nat}(h:Lies l p m)(hm:m≠[]):p+m.length<=l.length:=by
 have hp:0<m.length:=List.length_pos_iff.2 hm;have h1:=h (m.length-1) om;rw[List.getElem?_eq_getElem (show m.length-1<m.length by omega)]at h1
 have:=(Ab.1 h1).1
 omega
theorem JBD{l:List Tk4}{p:Nat}{t:Tk4}{s:LS}(h:JN t.k≠0):Gj l p t s=⟨p::s.st,s.E,s.D⟩:=by unfold Gj;rw[if_pos h]
theorem y5{N p:Nat}{s:LS}(hb:Begins N p s):Begins N (p+1) ⟨p::s.st,s.E,s.D⟩:=
 ⟨hb.le,hb.ld,λj hj=>by
  rcases Bg.1 hj with rfl|hj
  ·omega
  ·have:=hb.lt j hj;omega,λq hq=>hb.new q om⟩
theorem yA{l:List Tk4}{p:Nat}{t:Tk4}{st:List Nat}(h:l[p]? =some t):JCj l (p::st)=some (JN t.k):=by simp[JCj,JYf,h]
mutual
theorem JL9:∀(v:PV) (l:List Tk4) (p:Nat) (s:LS),QJ (JCj l s.st) false v->Lies l p (Jl v)->Begins l.length p s->Lays l.length p [v] s (runL l p (Jl v) s)
 | .leaf t,l,p,s,hg,hl,hb=>by
  rw[Ky]at hg;rw[Jl,runL,runL]
  have e:Gj l p t s=s:=by unfold Gj;rw[if_neg (by simp[hg.1]),if_neg hg.2]
  rw[e];refine⟨rfl,hb.le,hb.ld,λ_ _=>rfl,λ_ _ _=>rfl,λj _=>by rw[depL,depL,kb];omega,λq hq=>hb.new q (by rw[toksL,Jl]at hq;simp at hq;omega),?_⟩
  rw[Kz,y4,Kz]
  exact⟨hb.new p (Ac _),trivial⟩
 | .node t ks none,l,p,s,hg,_,_=>by
  rw[J9]at hg
  exact absurd hg.2.2.1 (by decide)
 | .node t ks (some e),l,p,s,hg,hl,hb=>by
  rw[KG]at hg;obtain⟨h1,h2,h3,h4⟩:=hg;rw[Jl]at hl⊢;have hp:l[p]? =some t:=hl 0 (by simp)
  have hpl:=(Ab.1 hp).1
  have hl2:Lies l (p+1) (toksL ks++[e]):=λk hk=>by
   have:=hl (k+1) (by simp at hk⊢;omega)
   rw[show p+(k+1)=p+1+k by omega]at this
   exact this
  rw[runL,JBD h1];show Lays l.length p _ s (runL l (p+1) (toksL ks++[e]) _)
  rw[kg,runL,runL];have hk:=JVR ks l (p+1) ⟨p::s.st,s.E,s.D⟩ (by rw[yA hp];exact h4) hl2.left (y5 hb)
  have hst:=hk.st;simp only at hst;have hc0:JN e.k=0:=by rw[h3];exact H9 _
  have e2:Gj l (p+1+(toksL ks).length) e (runL l (p+1) (toksL ks) ⟨p::s.st,s.E,s.D⟩)=Qk (p+1+(toksL ks).length) (runL l (p+1) (toksL ks) ⟨p::s.st,s.E,s.D⟩):=by unfold Gj;rw[if_neg (by simp[hc0]),if_pos (by rw[hst,yA hp,h3])]
  rw[e2];exact JBC hb hpl hk rfl
theorem JVR:∀(F:List PV) (l:List Tk4) (p:Nat) (s:LS),Ko (JCj l s.st) false F->Lies l p (toksL F)->Begins l.length p s->Lays l.length p F s (runL l p (toksL F) s)
 |[],l,p,s,_,_,hb=>by rw[toksL,runL];exact hb.lays_nil
 |v::r,l,p,s,hg,hl,hb=>by
  rw[Ko]at hg;rw[toksL]at hl⊢;rw[kg];have h1:=JL9 v l p s (by simpa using hg.1) hl.left hb
  have hb1:=h1.begins hb;have e1:(toksL [v]).length=(Jl v).length:=by rw[toksL,toksL,Aq]
  rw[e1]at hb1;exact h1.seq hb (JVR r l _ _ (by rw[h1.st];exact hg.2) hl.right hb1)
end
mutual
theorem JK6:∀(v:PV) (l:List Tk4) (p:Nat) (s:LS),QJ (JCj l s.st) true v->Lies l p (Jl v)->Begins l.length p s->
  ∃k,(runL l p (Jl v) s).st.length=k+s.st.length/\Lays l.length p [v] s (shutK l.length k (runL l p (Jl v) s))
 | .leaf t,l,p,s,hg,hl,hb=>by
  have h:=JL9 (.leaf t) l p s (Ky.2 (Ky.1 hg)) hl hb
  exact⟨0,by rw[h.st,AB],h⟩
 | .node t ks (some e),l,p,s,hg,hl,hb=>by
  have h:=JL9 (.node t ks (some e)) l p s (KG.2 (KG.1 hg)) hl hb
  exact⟨0,by rw[h.st,AB],h⟩
 | .node t ks none,l,p,s,hg,hl,hb=>by
  rw[J9]at hg;obtain⟨h1,h2,_,h4⟩:=hg;rw[Jl]at hl⊢;simp only[C7,Aq]at hl⊢;have hp:l[p]? =some t:=hl 0 (by simp)
  have hpl:=(Ab.1 hp).1
  have hl2:Lies l (p+1) (toksL ks):=λk hk=>by
   have:=hl (k+1) (by simp at hk⊢;omega)
   rw[show p+(k+1)=p+1+k by omega]at this
   exact this
  rw[runL,JBD h1];obtain⟨k,hk1,hk2⟩:=je ks l (p+1) ⟨p::s.st,s.E,s.D⟩ (by rw[yA hp];exact h4) hl2 (y5 hb)
  refine⟨k+1,by rw[hk1,Ag];omega,?_⟩
  rw[JK5];exact JBC hb hpl hk2 rfl
theorem je:∀(F:List PV) (l:List Tk4) (p:Nat) (s:LS),Ko (JCj l s.st) true F->Lies l p (toksL F)->Begins l.length p s->
  ∃k,(runL l p (toksL F) s).st.length=k+s.st.length/\Lays l.length p F s (shutK l.length k (runL l p (toksL F) s))
 |[],l,p,s,_,_,hb=>⟨0,by rw[toksL,runL,AB],by rw[toksL,runL];exact hb.lays_nil⟩
 |[v],l,p,s,hg,hl,hb=>by
  rw[Ko]at hg;rw[toksL,toksL,Aq]at hl⊢
  exact JK6 v l p s (by simpa using hg.1) hl hb
 |v::u::r,l,p,s,hg,hl,hb=>by
  rw[Ko]at hg;rw[toksL]at hl⊢;rw[kg];have h1:=JL9 v l p s (by simpa using hg.1) hl.left hb
  have hb1:=h1.begins hb;have e1:(toksL [v]).length=(Jl v).length:=by rw[toksL,toksL,Aq]
  rw[e1]at hb1;obtain⟨k,hk1,hk2⟩:=je (u::r) l _ _ (by rw[h1.st];exact hg.2) hl.right hb1
  exact⟨k,by rw[hk1,h1.st],h1.seq hb hk2⟩
end
theorem JMA{F:List PV}{x:Option Int}{b:Bool}(h:Ko x b F):Kz (toksL F).length (YZ (toksL F)).E (YZ (toksL F)).D 0 F/\(YZ (toksL F)).E.length=(toksL F).length/\(YZ (toksL F)).D.length=(toksL F).length:=by
 have hb:Begins (toksL F).length 0 ⟨[],BB (toksL F).length 0,BB (toksL F).length 0⟩:=
  ⟨by simp,by simp,λj hj=>(by cases hj),λq _=>by
   by_cases hq:q<(toksL F).length<;>simp[Bs,hq]⟩
 obtain⟨k,h1,h2⟩:=je F (toksL F) 0 ⟨[],BB (toksL F).length 0,BB (toksL F).length 0⟩ (jd F (JA8 F h)) (λk hk=>by rw[AB]) hb
 have hk:(runL (toksL F) 0 (toksL F) ⟨[],BB (toksL F).length 0,BB (toksL F).length 0⟩).st.length=k:=by rw[h1];rfl
 unfold YZ;simp only;rw[hk];exact⟨h2.laid,h2.le,h2.ld⟩
def CV.k(v:CV):Int:=v.t.k
def Jd(v:CV):Bool:=v.k==13
def trim(l:List CV):List CV:=((l.dropWhile Jd).reverse.dropWhile Jd).reverse
def KA(a b:Int)(v:CV):Bool:=v.k !=a&&v.k !=b
mutual
def Ya:Nat->CV->Bool
 |n,.mk t ks=>JN t.k !=0&&(match n with
  |0=>true
  |n+1=>Jf n ks)
def Jf:Nat->List CV->Bool
 |_,[]=>false
 |n,v::r=>Ya n v||Jf n r
end
def Hx(c:Int):Int:=if 65<=c/\c<=90 then c+32 else c
def Js(b:List Int):List Int:=b.map Hx
def Kp:List Int:=[105,109,112,111,114,116,97,110,116]
structure Dc where
 name:List Int
 val:List CV
 imp:Bool
def nameOf(b:List Int):List Int:=if[45,45].isPrefixOf b then b else Js b
def impOf(v:List CV):List CV×Bool:=
 match v.reverse with
 |x::y::r=>
  if x.k==1&&Js x.t.b==Kp then
   match(y::r).dropWhile Jd with
   |z::s=>if z.k==9&&z.t.b==[33]then(trim s.reverse,true)else(v,false)
   |[]=>(v,false)
  else(v,false)
 |_=>(v,false)
def Wt:List CV->Option Dc
 |[]=>none
 |x::l=>if x.k !=1 then none else
  match l.dropWhile Jd with
  |[]=>none
  |c::r=>if c.k !=16 then none else if Jf 64 r then none else
   some ⟨nameOf x.t.b,(impOf (trim r)).1,(impOf (trim r)).2⟩
def QC:Nat->List CV->List Dc
 |0,_=>[]
 |n+1,[]=>[]
 |n+1,v::r=>
  if v.k==13||v.k==17 then QC n r
  else if v.k==3 then QC n ((v::r).dropWhile (KA 17 23)).tail
  else(Wt ((v::r).takeWhile (KA 17 17))).toList++QC n ((v::r).dropWhile (KA 17 17))
def decls(l:List CV):List Dc:=QC (l.length+1) l
inductive Ru where
 |mk (kind:Int) (name:List Int) (prel:List CV) (decls:List Dc) (rules:List Ru)
def Q7(n:List Int):Bool:=n==[109,101,100,105,97]||n==[115,117,112,112,111,114,116,115]||n==[99,111,110,116,97,105,110,101,114]
def Kr(sub:List CV->List Ru)(live top:Bool):Nat->List CV->List Ru
 |0,_=>[]
 |n+1,[]=>[]
 |n+1,v::r=>
  if v.k==13||(top&&(v.k==14||v.k==15))then Kr sub live top n r
  else if v.k==3 then
   match(v::r).dropWhile (KA 17 23)with
   |[]=>[]
   |x::s=>(if x.k==23&&Q7 (Js v.t.b)&& !Jf 64 (((v::r).takeWhile (KA 17 23)).tail)&&live then[Ru.mk 2 (Js v.t.b) (trim ((v::r).takeWhile (KA 17 23)).tail) [] (sub x.ks)]else[])++Kr sub live top n s
  else
   match(v::r).dropWhile (KA 23 23)with
   |[]=>[]
   |x::s=>(if !Jf 64 ((v::r).takeWhile (KA 23 23))&&live then[Ru.mk 1 [] (trim ((v::r).takeWhile (KA 23 23))) (decls x.ks) []]else[])++Kr sub live top n s
def QD:Nat->Bool->List CV->List Ru
 |0,top,l=>Kr (λ_=>[]) false top (l.length+1) l
 |f+1,top,l=>Kr (QD f false) true top (l.length+1) l
def rules(l:List CV):List Ru:=QD 64 true l
theorem JH7{p:CV->Bool}(l:List CV):(l.dropWhile p).length<=l.length:=(AA p).length_le
theorem YJ(sub:List CV->List Ru)(live top:Bool):∀(n m:Nat) (l:List CV),l.length<n->l.length<m->Kr sub live top n l=Kr sub live top m l
 |0,_,l,h,_=>by omega
 |n+1,0,l,_,h=>by omega
 |n+1,m+1,[],_,_=>rfl
 |n+1,m+1,v::r,h1,h2=>by
  simp only[Ag]at h1 h2;have hd:=JH7 (p:=KA 17 23) (v::r);have hd2:=JH7 (p:=KA 23 23) (v::r);simp only[Ag]at hd hd2;rw[Kr,Kr]
  split
  ·exact YJ sub live top n m r om om
  ·split
   ·split
    ·rfl
    ·rename_i x s e
     rw[e]at hd;simp only[Ag]at hd;rw[YJ sub live top n m s om om]
   ·split
    ·rfl
    ·rename_i x s e
     rw[e]at hd2;simp only[Ag]at hd2;rw[YJ sub live top n m s om om]
def bare(k:Int):Tk4:=⟨k,[],0,0,false,false⟩
mutual
def JjH:Nat->CV->Bool
 |n,.mk t ks=>decide (1<=t.k/\t.k<=24)&&(if JN t.k=0 then ks.isEmpty else match n with
  |0=>false
  |n+1=>Jdi n ks)
def Jdi:Nat->List CV->Bool
 |_,[]=>true
 |n,v::r=>JjH n v&&Jdi n r
end
def JK7:List CV->List (List CV)
 |[]=>[[]]
 |v::r=>if v.k==18 then[]::JK7 r else match JK7 r with
  |p::q=>(v::p)::q
  |[]=>[[v]]
def split(l:List CV):List (List CV):=(JK7 l).map trim
theorem Ze{p:CV->Bool}:∀(A B:List CV),(A++B).dropWhile p=if A.all p then B.dropWhile p else A.dropWhile p++B
 |[],B=>by simp
 |v::A,B=>by rw[Ae,AD,AD,Ze A B,BF];cases p v<;>simp
theorem JBG{p:CV->Bool}{A:List CV}(h:A.all p=true):A.dropWhile p=[]:=by
 induction A with
 |nil=>rfl
 |cons v A ih=>rw[BF,Ah]at h;rw[AD,if_pos h.1,ih h.2]
theorem JH8{p:CV->Bool}{A:List CV}(h:A.all p=true):A.takeWhile p=A:=by
 induction A with
 |nil=>rfl
 |cons v A ih=>rw[BF,Ah]at h;rw[List.takeWhile_cons,if_pos h.1,ih h.2]
theorem YK{l:List CV}{v:CV}(h:v∈trim l):v∈l:=by unfold trim at h;rw[Do]at h;have h1:=(AA _).subset h;rw[Do]at h1;exact(AA _).subset h1
theorem JQS{p:CV->Bool}{l:List CV}{v:CV}(h:v∈l.takeWhile p):v∈l:=(List.takeWhile_prefix p).subset h
theorem JBH{p:CV->Bool}{l:List CV}{v:CV}(h:v∈l.dropWhile p):v∈l:=(AA p).subset h
theorem JMB{l:List CV}{v:CV}(h:v∈(impOf l).1):v∈l:=by
 unfold impOf at h
 split at h
 ·rename_i x y r e
  split at h
  ·split at h
   ·rename_i z s e2
    split at h
    ·have h1:=YK h
     rw[Do]at h1;have h2:v∈(y::r).dropWhile Jd:=by rw[e2];exact AV _ h1
     have h3:=JBH h2;rw[<-Do,e];exact AV _ h3
    ·exact h
   ·exact h
  ·exact h
 ·exact h
def PV.t:PV->Tk4
 | .leaf t=>t
 | .node t _ _=>t
theorem JQT(v:PV):(cvV v).t=v.t:=by
 cases v with
 |leaf t=>rw[cvV];rfl
 |node t ks c=>rw[cvV];rfl
theorem HG(v:PV):(cvV v).k=v.t.k:=by unfold CV.k;rw[JQT]
theorem JN3(v:PV):(Jl v)[0]? =some v.t:=by
 cases v with
 |leaf t=>rw[Jl];rfl
 |node t ks c=>rw[Jl];rfl
mutual
theorem JN4:∀(v:PV) {x:Option Int} {b:Bool} (n:Nat),QJ x b v->Ya n (cvV v)=decide (n<kb v)
 | .leaf t,x,b,n,h=>by
  rw[cvV];have h:=Ky.1 h
  cases n<;>rw[Ya,kb]<;>simp[h.1]
 | .node t ks c,x,b,n,h=>by
  have hc:JN t.k≠0:=by
   cases c with
   |none=>exact(J9.1 h).1
   |some e=>exact(KG.1 h).1
  have hk:∃y b',Ko y b' ks:=by
   cases c with
   |none=>exact⟨_,_,(J9.1 h).2.2.2⟩
   |some e=>exact⟨_,_,(KG.1 h).2.2.2⟩
  obtain⟨y,b',hk⟩:=hk;have hb:(JN t.k !=0)=true:=by simp[hc]
  rw[cvV]
  cases n with
  |zero=>rw[Ya,kb,hb];simp
  |succ n=>rw[Ya,kb,hb,Bool.true_and,yB ks n hk];simp
theorem yB:∀(F:List PV) {x:Option Int} {b:Bool} (n:Nat),Ko x b F->Jf n (Jh F)=decide (n<depL F)
 |[],x,b,n,_=>by rw[Jh,Jf,depL];simp
 |v::r,x,b,n,h=>by rw[Ju]at h;rw[Jh,Jf,depL,JN4 v n h.1,yB r n h.2];rw[Bool.eq_iff_iff];simp only[Bool.or_eq_true,decide_eq_true_eq];omega
end
def ltrim(l:List CV):List CV:=l.dropWhile Jd
def K4(l:List CV):List CV:=(l.reverse.dropWhile Jd).reverse
theorem Ht(l:List CV):trim l=K4 (ltrim l):=rfl
theorem JBJ{v:CV}{r:List CV}(h:Jd v=false):K4 (v::r)=v::K4 r:=by
 unfold K4;rw[BD,Ze]
 split
 ·rename_i ha
  rw[AD,h];simp only[Bool.false_eq_true,if_false];rw[JBG ha];rfl
 ·rw[CL]
  rfl
theorem JGn{l:List CV}(h:l.all Jd=true):K4 l=[]:=by
 unfold K4;rw[JBG (by rw[Mq];exact h)]
 rfl
theorem JBK(l:List CV)(v:CV):K4 (l++[v])=if Jd v then K4 l else l++[v]:=by
 unfold K4;rw[CL,BD,List.reverse_nil,Af,List.singleton_append,AD]
 split
 ·rfl
 ·rw[BD,D0]
theorem JDZ:K4 []=[]:=rfl
theorem JQU{v:CV}{r:List CV}(h:Jd v=true):K4 (v::r)=if r.all Jd then[]else v::K4 r:=by
 by_cases ha:r.all Jd=true
 ·rw[if_pos ha]
  exact JGn (by rw[BF,h,ha];rfl)
 ·rw[if_neg ha]
  unfold K4;rw[BD,Ze,Mq,if_neg ha,CL];rfl
theorem HJ:∀(r:List CV),ltrim (K4 r)=K4 (ltrim r)
 |[]=>rfl
 |v::r=>by
  cases hv:Jd v with
  |false=>
   have h1:ltrim (v::r)=v::r:=by unfold ltrim;rw[AD,hv];rfl
   rw[h1,JBJ hv];unfold ltrim;rw[AD,hv]
   rfl
  |true=>
   have h1:ltrim (v::r)=ltrim r:=by unfold ltrim;rw[AD,hv];rfl
   rw[h1,JQU hv]
   split
   ·rename_i ha
    have:ltrim r=[]:=JBG ha;rw[this];rfl
   ·have h2:ltrim (v::K4 r)=ltrim (K4 r):=by unfold ltrim;rw[AD,hv];rfl
    rw[h2,HJ r]
theorem JH9(r:List CV):K4 (K4 r)=K4 r:=by
 unfold K4;rw[D0]
 congr 1
 generalize r.reverse=l
 induction l with
 |nil=>rfl
 |cons v l ih=>
  rw[AD]
  split
  ·exact ih
  ·rename_i h;rw[AD,if_neg h]
theorem JJA(l:List CV):ltrim (ltrim l)=ltrim l:=by
 unfold ltrim
 induction l with
 |nil=>rfl
 |cons v l ih=>
  rw[AD]
  split
  ·exact ih
  ·rename_i h;rw[AD,if_neg h]
theorem JK8(r:List CV):trim (K4 r)=trim r:=by
 show K4 (ltrim (K4 r))=K4 (ltrim r)
 rw[HJ,JH9]
theorem JN5(m:List CV):match ltrim m with
  |[]=>trim m=[]
  |c::r=>∃q,trim m=c::q/\trim q=trim r:=by
 have h:=Ht m
 split
 ·rename_i e;rw[h,e];rfl
 ·rename_i c r e
  have hc:Jd c=false:=by
   have:∀l:List CV,ltrim l=c::r->Jd c=false:=by
    intro l
    induction l with
    |nil=>intro h;cases h
    |cons v l ih=>
     intro h;unfold ltrim at h;rw[AD]at h
     split at h
     ·exact ih h
     ·rename_i hv;cases h;simpa using hv
   exact this m e
  rw[h,e,JBJ hc];exact⟨K4 r,rfl,JK8 r⟩
theorem JK9{n:Nat}{v:CV}(h:Jd v=true):Ya n v=false:=by
 obtain⟨t,ks⟩:=v;have hk:t.k=13:=by simpa[Jd,CV.k,CV.t]using h
 have:JN t.k=0:=by rw[hk];rfl
 cases n<;>rw[Ya]<;>simp[this]
theorem GR(n:Nat):∀l:List CV,Jf n (ltrim l)=Jf n l
 |[]=>rfl
 |v::r=>by
  unfold ltrim;rw[AD]
  split
  ·rename_i h
   rw[Jf,JK9 h,Br];exact GR n r
  ·rfl
theorem JQV(n:Nat)(a b:List CV):Jf n (a++b)=(Jf n a||Jf n b):=by
 induction a with
 |nil=>simp[Jf]
 |cons v a ih=>rw[Ae,Jf,ih,Jf,Bool.or_assoc]
theorem ki(n:Nat)(a:List CV):Jf n a.reverse=Jf n a:=by
 induction a with
 |nil=>rfl
 |cons v a ih=>rw[BD,JQV,ih,Jf,Jf,Jf,Bool.or_false,Bool.or_comm]
theorem JLA(n:Nat)(l:List CV):Jf n (K4 l)=Jf n l:=by unfold K4;rw[ki];have:=GR n l.reverse;unfold ltrim at this;rw[this,ki]
theorem JDa(n:Nat)(l:List CV):Jf n (trim l)=Jf n l:=by rw[Ht,JLA,GR]
theorem JDb{n:Nat}{v:CV}(h:JN v.k=0):Ya n v=false:=by obtain⟨t,ks⟩:=v;have:JN t.k=0:=h;cases n<;>rw[Ya]<;>simp[this]
theorem JQW(n:Nat)(l:List CV):Jf n (impOf l).1=Jf n l:=by
 unfold impOf
 split
 ·rename_i x y r e
  split
  ·rename_i hx
   split
   ·rename_i z s e2
    split
    ·rename_i hz
     simp only[Ah,beq_iff_eq]at hx hz;have hx1:Ya n x=false:=JDb (by rw[hx.1];rfl)
     have hz1:Ya n z=false:=JDb (by rw[hz.1];rfl)
     show Jf n (trim s.reverse)=_
     rw[JDa,ki,<-ki n l,e,Jf,hx1,Br];have h3:=GR n (y::r);unfold ltrim at h3;rw[<-h3,e2,Jf,hz1,Br]
    ·rfl
   ·rfl
  ·rfl
 ·rfl
def bs(l:List Int):ByteArray:=⟨(WN l).toArray⟩
def row(t:Tk4):List V:=[.v (.int .i64 t.k),.v (.string (bs t.b)),.v (.int .i64 t.n),.v (.int .i64 t.d),.v (.bool t.w),.v (.bool t.i)]
mutual
def Qy:CV->List V
 | .mk t ks=>row t++[.list .no (JH ks)]
def JH:List CV->List (List V)
 |[]=>[]
 |v::r=>Qy v::JH r
end
theorem Jq(t:Tk4)(ks:List CV):Qy (.mk t ks)=[.v (.int .i64 t.k),.v (.string (bs t.b)),.v (.int .i64 t.n),.v (.int .i64 t.d),.v (.bool t.w),.v (.bool t.i),.list .no (JH ks)]:=by rw[Qy];rfl
theorem JBL(v:CV):Qy v=[.v (.int .i64 v.t.k),.v (.string (bs v.t.b)),.v (.int .i64 v.t.n),.v (.int .i64 v.t.d),.v (.bool v.t.w),.v (.bool v.t.i),.list .no (JH v.ks)]:=by obtain⟨t,ks⟩:=v;exact Jq t ks
theorem rowsC_map:∀l:List CV,JH l=l.map Qy
 |[]=>by rw[JH];rfl
 |v::r=>by rw[JH,rowsC_map r];rfl
theorem Jc:JH []=[]:=by rw[JH]
theorem Kc(v:CV)(r:List CV):JH (v::r)=Qy v::JH r:=by rw[JH]
theorem JU(l:List CV):(JH l).length=l.length:=by rw[rowsC_map,Av]
theorem KU(l:List CV)(i:Nat):(JH l)[i]? =(l[i]?).map Qy:=by rw[rowsC_map,List.getElem?_map]
theorem Wu(l m:List CV):JH (l++m)=JH l++JH m:=by simp[rowsC_map]
theorem QX(l:List CV)(n:Nat):(JH l).take n=JH (l.take n):=by simp[rowsC_map,List.map_take]
theorem Yv(l:List CV)(n:Nat):(JH l).drop n=JH (l.drop n):=by simp[rowsC_map,List.map_drop]
theorem JQX(v:CV):(Qy v).length=7:=by rw[JBL];rfl
theorem J7(l:List CV):((JH l).all λx=>x.length==7)=true:=by rw[Ar];intro x hx;rw[rowsC_map]at hx;obtain⟨v,_,rfl⟩:=AK.1 hx;rw[JQX];rfl
theorem JTt(l:List Tk4):((l.map row).all λx=>x.length==6)=true:=by rw[Ar];intro x hx;obtain⟨v,_,rfl⟩:=AK.1 hx;rfl
def J1(d:Dc):List V:=[.v (.string (bs d.name)),.list .no (JH d.val),.v (.bool d.imp)]
theorem JDc(l:List Dc):((l.map J1).all λx=>x.length==3)=true:=by rw[Ar];intro x hx;obtain⟨v,_,rfl⟩:=AK.1 hx;rfl
mutual
def ruV:Ru->List V
 | .mk k n p ds rs=>[.v (.int .i64 k),.v (.string (bs n)),.list .no (JH p),.list .no (ds.map J1),.list .no (J2 rs)]
def J2:List Ru->List (List V)
 |[]=>[]
 |r::l=>ruV r::J2 l
end
theorem rusC_map:∀l:List Ru,J2 l=l.map ruV
 |[]=>by rw[J2];rfl
 |v::r=>by rw[J2,rusC_map r];rfl
theorem JTu(r:Ru):(ruV r).length=5:=by cases r;rw[ruV];rfl
theorem JBM(l:List Ru):((J2 l).all λx=>x.length==5)=true:=by rw[Ar];intro x hx;rw[rusC_map]at hx;obtain⟨v,_,rfl⟩:=AK.1 hx;rw[JTu];rfl
theorem JQY(l m:List Ru):J2 (l++m)=J2 l++J2 m:=by simp[rusC_map]
theorem K8(l:List Ru):(J2 l).length=l.length:=by rw[rusC_map,Av]
@[go_sem] theorem JVS(l:List Tk4):J5 (l.map row)=false:=by cases l<;>rfl
@[go_sem] theorem QG(l:List CV):J5 (JH l)=false:=by
 cases l with
 |nil=>rw[Jc];rfl
 |cons v r=>rw[Kc,JBL];rfl
@[go_sem] theorem km(l:List Dc):J5 (l.map J1)=false:=by cases l<;>rfl
@[go_sem] theorem HK(l:List Ru):J5 (J2 l)=false:=by
 cases l with
 |nil=>rw[rusC_map];rfl
 |cons v r=>rw[rusC_map,List.map_cons];cases v;rw[ruV];rfl
mutual
def GS:CV->Nat
 | .mk _ ks=>1+JM ks
def JM:List CV->Nat
 |[]=>0
 |v::r=>GS v+JM r
end
theorem Qh(v:CV):GS v=1+JM v.ks:=by cases v;rw[GS];rfl
theorem GU:JM []=0:=by rw[JM]
theorem Jr(v:CV)(r:List CV):JM (v::r)=GS v+JM r:=by rw[JM]
theorem Jk:∀l:List CV,l.length<=JM l
 |[]=>by simp
 |v::r=>by have:=Jk r;rw[Jr,Qh,Ag];omega
theorem WJ:∀{l:List CV} {v:CV},v∈l->GS v<=JM l
 |[],v,h=>by cases h
 |x::r,v,h=>by
  rw[Jr];rcases Bg.1 h with rfl|h
  ·omega
  ·have:=WJ h
   omega
theorem jg{l:List CV}{v:CV}{k:Nat}(h:l[k]? =some v):JM v.ks<=JM l:=by have:=WJ (List.mem_of_getElem? h);rw[Qh]at this;omega
theorem Wv:∀l m:List CV,JM (l++m)=JM l+JM m
 |[],m=>by simp[GU]
 |v::r,m=>by rw[Ae,Jr,Jr,Wv r m];omega
end Go.Lift.Rul
end
