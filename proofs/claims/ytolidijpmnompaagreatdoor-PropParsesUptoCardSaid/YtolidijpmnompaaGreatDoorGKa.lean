/- Characters to bytes: the arithmetic. -/
import Derived.Test.YtolidijpmnompaaGreatDoorGLd
open BitVec renaming ofInt->A3,toNat_ofInt->D4
open List renaming all_cons->Bj,all_eq_true->Aj,all_reverse->Lf,cons_append->AK,dropWhile_cons->AV,dropWhile_suffix->BC,mem_map->AC,mem_reverse->B5,reverse_append->Dk,reverse_cons->CF,reverse_reverse->DM
set_option linter.unusedVariables false
set_option linter.unusedSimpArgs false
set_option linter.unusedSectionVars false
section
namespace Go.Lift.Utf
def Jgv(x:Int):Int:=if(decide (x<0)||decide (1114111<x)||decide (55296<=x)&&decide (x<=57343))=true then 65533 else x
theorem JOm:∀z:Fin 32,(A3 32 192|||A3 32 (z.val:Int)).toNat=192+z.val:=by decide
theorem JOn:∀z:Fin 16,(A3 32 224|||A3 32 (z.val:Int)).toNat=224+z.val:=by decide
theorem JOo:∀z:Fin 8,(A3 32 240|||A3 32 (z.val:Int)).toNat=240+z.val:=by decide
theorem JOp:∀z:Fin 64,(A3 32 128|||A3 32 (z.val:Int)).toNat=128+z.val:=by decide
theorem o32{c:Int}{n:Nat}(hc:(c=192/\n=32)\/(c=224/\n=16)\/(c=240/\n=8)\/(c=128/\n=64)){y:Int}(h0:0<=y)(h1:y<n):((A3 32 c|||A3 32 y).toNat:Int)=c+y:=by
 obtain⟨z,rfl⟩:∃z:Nat,y=z:=⟨y.toNat,om⟩;rcases hc with⟨rfl,rfl⟩|⟨rfl,rfl⟩|⟨rfl,rfl⟩|⟨rfl,rfl⟩
 ·have:=JOm ⟨z,om⟩;simp only at this;omega
 ·have:=JOn ⟨z,om⟩;simp only at this;omega
 ·have:=JOo ⟨z,om⟩;simp only at this;omega
 ·have:=JOp ⟨z,om⟩;simp only at this;omega
def nd(c:Int):Nat×Int×Int:=
 if 194<=c/\c<=223 then(1,128,191)
 else if c=224 then(2,160,191)
 else if c=237 then(2,128,159)
 else if 225<=c/\c<=239 then(2,128,191)
 else if c=240 then(3,144,191)
 else if 241<=c/\c<=243 then(3,128,191)
 else if c=244 then(3,128,143)
 else(0,0,0)
def more:Nat->Int->Int->Int->Nat->List Int->Int×Nat×Bool
 |0,r,_,_,k,_=>(r,k,true)
 |_+1,_,_,_,k,[]=>(65533,k,false)
 |n+1,r,lo,hi,k,c::t=>if c<lo\/hi<c then(65533,k,false)else more n (r*64+c%64) 128 191 (k+1) t
def one:List Int->Int×Nat×Bool
 |[]=>(65533,1,false)
 |c::t=>if c<128 then(c,1,true)else if(nd c).1=0 then(65533,1,false)else more (nd c).1 (c%2^ (6-(nd c).1)) (nd c).2.1 (nd c).2.2 1 t
abbrev By(b:List Int):Prop:=∀c∈b,0<=c/\c<=255
theorem JKS{y:Int}{k:Nat}(hk:k<=7)(h0:0<=y)(h1:y<=2147483647):JLd .i32 y (2^k-1)=y%2^k:=by
 obtain⟨z,rfl⟩:∃z:Nat,y=z:=⟨y.toNat,om⟩;show((A3 32 (z:Int)&&&A3 32 ((2:Int)^k-1)).toNat:Int)=_
 rw[BitVec.toNat_and]
 have e1:(A3 32 (z:Int)).toNat=z:=by rw[D4];omega
 have hp:2^k<=128:=by have:2^k<=2^7:=Nat.pow_le_pow_right om hk;omega
 have hq:1<=2^k:=Nat.one_le_two_pow
 have e2:(A3 32 ((2:Int)^k-1)).toNat=2^k-1:=by
  have e3:(2:Int)^k=((2^k:Nat):Int):=by simp
  rw[D4,e3];omega
 rw[e1,e2,Nat.and_two_pow_sub_one_eq_mod];simp
section
variable{y:Int}(h0:0<=y)(h1:y<=255)
include h0 h1
theorem c63:JLd .i32 y 63=y%64:=JKS (k:=6) om h0 om
theorem c31:JLd .i32 y 31=y%32:=JKS (k:=5) om h0 om
theorem c15:JLd .i32 y 15=y%16:=JKS (k:=4) om h0 om
theorem c7:JLd .i32 y 7=y%8:=JKS (k:=3) om h0 om
end
def Ja5:Nat->List Int->List Int
 |0,_=>[]
 |_+1,[]=>[]
 |n+1,c::t=>(one (c::t)).1::Ja5 n ((c::t).drop (one (c::t)).2.1)
def raw(b:List Int):List Int:=Ja5 b.length b
def KZ:Nat->List Int->Bool
 |0,_=>true
 |_+1,[]=>true
 |n+1,c::t=>(one (c::t)).2.2&&KZ n ((c::t).drop (one (c::t)).2.1)
def whole(b:List Int):Bool:=KZ b.length b
theorem By.drop{b:List Int}(h:By b)(n:Nat):By (b.drop n):=λc hc=>h c (List.mem_of_mem_drop hc)
theorem JOq{c:Int}(h:(nd c).1≠0):((nd c).1=1/\194<=c/\c<=223/\(nd c).2=(128,191))\/
  ((nd c).1=2/\224<=c/\c<=239/\128<=(nd c).2.1/\(nd c).2.2<=191/\(c=224->160<=(nd c).2.1)/\(c=237->(nd c).2.2<=159)/\(c≠224->(nd c).2.1=128)/\(c≠237->(nd c).2.2=191)/\(c=224->(nd c).2.1=160)/\(c=237->(nd c).2.2=159))\/
  ((nd c).1=3/\240<=c/\c<=244/\128<=(nd c).2.1/\(nd c).2.2<=191/\(c=240->(nd c).2.1=144)/\(c=244->(nd c).2.2=143)/\(c≠240->(nd c).2.1=128)/\(c≠244->(nd c).2.2=191)):=by
 unfold nd at h⊢
 repeat' split
 all_goals simp_all
 all_goals omega
theorem JOr{b:List Int}(h:(one b).2.2=true)(hn:b≠[]):∃x k,one b=(x,k,true)/\(
  (∃t,b=x::t/\k=1/\x<128)\/
  (∃c d t,b=c::d::t/\k=2/\194<=c/\c<=223/\128<=d/\d<=191/\x=c%32*64+d%64)\/
  (∃c d e t,b=c::d::e::t/\k=3/\224<=c/\c<=239/\128<=d/\d<=191/\128<=e/\e<=191/\(c=224->160<=d)/\(c=237->d<=159)/\x=(c%16*64+d%64)*64+e%64)\/
  (∃c d e f t,b=c::d::e::f::t/\k=4/\240<=c/\c<=244/\128<=d/\d<=191/\128<=e/\e<=191/\128<=f/\f<=191/\(c=240->144<=d)/\(c=244->d<=143)/\x=((c%8*64+d%64)*64+e%64)*64+f%64)):=by
 match b,hn with
 |c::t,_=>
  simp only[one]at h⊢;by_cases h0:c<128
  ·rw[if_pos h0]
   exact⟨c,1,rfl,.inl ⟨t,rfl,rfl,h0⟩⟩
  rw[if_neg h0]at h⊢;by_cases hz:(nd c).1=0
  ·rw[if_pos hz]at h;simp at h
  rw[if_neg hz]at h⊢;rcases JOq hz with⟨e1,h1,h2,e2⟩|⟨e1,h1,h2,h3,h4,h5,h6,_⟩|⟨e1,h1,h2,h3,h4,h5,h6,_⟩
  ·rw[e1,e2]at h⊢
   match t,h with
   |[],h=>simp[more]at h
   |d::t,h=>
    simp only[more]at h⊢
    split at h
    ·simp at h
    ·rename_i hd
     rw[if_neg hd];exact⟨_,_,rfl,.inr (.inl ⟨c,d,t,rfl,rfl,h1,h2,om,om,rfl⟩)⟩
  ·rw[e1]at h⊢
   match t,h with
   |[],h=>simp[more]at h
   |[d],h=>simp only[more]at h;split at h<;>simp at h
   |d::e::t,h=>
    simp only[more]at h⊢
    split at h
    ·simp at h
    ·rename_i hd
     rw[if_neg hd]
     split at h
     ·simp at h
     ·rename_i he
      rw[if_neg he];exact⟨_,_,rfl,.inr (.inr (.inl ⟨c,d,e,t,rfl,rfl,h1,h2,om,om,om,om,om,om,rfl⟩))⟩
  ·rw[e1]at h⊢
   match t,h with
   |[],h=>simp[more]at h
   |[d],h=>simp only[more]at h;split at h<;>simp at h
   |[d,e],h=>
    simp only[more]at h
    split at h
    ·simp at h
    ·split at h<;>simp at h
   |d::e::f::t,h=>
    simp only[more]at h⊢
    split at h
    ·simp at h
    ·rename_i hd
     rw[if_neg hd]
     split at h
     ·simp at h
     ·rename_i he
      rw[if_neg he]
      split at h
      ·simp at h
      ·rename_i hf
       rw[if_neg hf];exact⟨_,_,rfl,.inr (.inr (.inr ⟨c,d,e,f,t,rfl,rfl,h1,h2,om,om,om,om,om,om,om,om,rfl⟩))⟩
def Ja6(back:Bool)(x:Int):List Int:=if x==10&&back then[]else[if x==13||x==12 then 10 else if x==0 then 65533 else x]
def dec:Bool->List Int->List Int
 |_,[]=>[]
 |back,x::l=>Ja6 back x++dec (x==13) l
def bom(b:List Int):Bool:=b.take 3==[239,187,191]
def JOC(b:List Int):List Int:=if bom b=true then b.drop 3 else b
def decode(b:List Int):List Int:=dec false (raw (JOC b))
end Go.Lift.Utf
end

section
namespace Go.Lift.Tok
open Utf
def chr(s:List Int)(k:Nat):Int:=match s[k]? with
 |some x=>x
 |none=> -1
def dig(c:Int):Bool:=decide (48<=c)&&decide (c<=57)
def Jgw(c:Int):Bool:=decide (97<=c)&&decide (c<=122)||decide (65<=c)&&decide (c<=90)||c==95||decide (128<=c)
def ltr(c:Int):Bool:=Jgw c||dig c||c==45
def blk(c:Int):Bool:=c==10||c==9||c==32
def hex(c:Int):Int:=if dig c=true then c-48 else if(decide (97<=c)&&decide (c<=102))=true then c-97+10 else if(decide (65<=c)&&decide (c<=70))=true then c-65+10 else-1
def esc(a b:Int):Bool:=a==92&&b !=10
def JRC:Nat->Int->List Int->Int×List Int
 |0,n,s=>(n,s)
 |_+1,n,[]=>(n,[])
 |k+1,n,c::t=>if hex c<0 then(n,c::t)else JRC k (n*16+hex c) t
def Jgx:List Int->List Int
 |[]=>[]
 |d::u=>if blk d=true then u else d::u
def JVj:List Int->Int×List Int
 |[]=>(65533,[])
 |c::t=>if hex c<0 then(c,t)else
  (if(JRC 6 0 (c::t)).1=0 then 65533 else Jgv (JRC 6 0 (c::t)).1,Jgx (JRC 6 0 (c::t)).2)
def JGm:Nat->List Int->List Int×List Int
 |0,s=>([],s)
 |_+1,[]=>([],[])
 |n+1,c::t=>
  if ltr c=true then(c::(JGm n t).1,(JGm n t).2)
  else if esc c (chr t 0)=true then((JVj t).1::(JGm n (JVj t).2).1,(JGm n (JVj t).2).2)
  else([],c::t)
def name(s:List Int):List Int×List Int:=JGm s.length s
end Go.Lift.Tok
end

section
namespace Go.Lift.Rul
structure Tk4 where
 k:Int
 b:List Int
 n:Int
 d:Int
 w:Bool
 i:Bool
 deriving DecidableEq
def Jj(k:Int):Int:=if k=2\/k=21 then 22 else if k=19 then 20 else if k=23 then 24 else 0
theorem qQ(k:Int):Jj k=0\/Jj k=20\/Jj k=22\/Jj k=24:=by
 unfold Jj
 repeat' split
 all_goals simp
inductive CV where
 |mk (t:Tk4) (kids:List CV)
def CV.t:CV->Tk4
 | .mk t _=>t
def CV.ks:CV->List CV
 | .mk _ k=>k
inductive PV where
 |leaf (t:Tk4)
 |node (t:Tk4) (kids:List PV) (c:Option Tk4)
mutual
def j5(x:Option Int)(last:Bool):PV->Prop
 | .leaf t=>Jj t.k=0/\x≠some t.k
 | .node t ks c=>Jj t.k≠0/\x≠some t.k/\(match c with
  |some e=>e.k=Jj t.k/\K9 (some (Jj t.k)) false ks
  |none=>last=true/\K9 (some (Jj t.k)) true ks)
def K9(x:Option Int)(last:Bool):List PV->Prop
 |[]=>True
 |v::r=>j5 x (last&&r.isEmpty) v/\K9 x last r
end
def Lies(l:List Tk4)(p:Nat)(m:List Tk4):Prop:=∀k,k<m.length->l[p+k]? =m[k]?
theorem Lies.left{l a b:List Tk4}{p:Nat}(h:Lies l p (a++b)):Lies l p a:=λk hk=>by rw[h k (by simp;omega),List.getElem?_append_left hk]
theorem Lies.right{l a b:List Tk4}{p:Nat}(h:Lies l p (a++b)):Lies l (p+a.length) b:=λk hk=>by
 have:=h (a.length+k) (by simp;omega)
 rw[List.getElem?_append_right om,Nat.add_sub_cancel_left]at this
 rw[Nat.add_assoc];exact this
def CV.k(v:CV):Int:=v.t.k
def JS(v:CV):Bool:=v.k==13
def Je(l:List CV):List CV:=((l.dropWhile JS).reverse.dropWhile JS).reverse
def nor(a b:Int)(v:CV):Bool:=v.k !=a&&v.k !=b
mutual
def Ja7:Nat->CV->Bool
 |n,.mk t ks=>Jj t.k !=0&&(match n with
  |0=>true
  |n+1=>JGn n ks)
def JGn:Nat->List CV->Bool
 |_,[]=>false
 |n,v::r=>Ja7 n v||JGn n r
end
def WK(c:Int):Int:=if 65<=c/\c<=90 then c+32 else c
def Jc(b:List Int):List Int:=b.map WK
def JL9:List Int:=[105,109,112,111,114,116,97,110,116]
structure Dc where
 name:List Int
 val:List CV
 imp:Bool
def JVk(b:List Int):List Int:=if[45,45].isPrefixOf b then b else Jc b
def JSD(v:List CV):List CV×Bool:=
 match v.reverse with
 |x::y::r=>
  if x.k==1&&Jc x.t.b==JL9 then
   match(y::r).dropWhile JS with
   |z::s=>if z.k==9&&z.t.b==[33]then(Je s.reverse,true)else(v,false)
   |[]=>(v,false)
  else(v,false)
 |_=>(v,false)
def Jgy:List CV->Option Dc
 |[]=>none
 |x::l=>if x.k !=1 then none else
  match l.dropWhile JS with
  |[]=>none
  |c::r=>if c.k !=16 then none else if JGn 64 r then none else
   some ⟨JVk x.t.b,(JSD (Je r)).1,(JSD (Je r)).2⟩
def JDN:Nat->List CV->List Dc
 |0,_=>[]
 |n+1,[]=>[]
 |n+1,v::r=>
  if v.k==13||v.k==17 then JDN n r
  else if v.k==3 then JDN n ((v::r).dropWhile (nor 17 23)).tail
  else(Jgy ((v::r).takeWhile (nor 17 17))).toList++JDN n ((v::r).dropWhile (nor 17 17))
def decls(l:List CV):List Dc:=JDN (l.length+1) l
inductive Ru where
 |mk (kind:Int) (name:List Int) (prel:List CV) (decls:List Dc) (rules:List Ru)
def JRG(n:List Int):Bool:=n==[109,101,100,105,97]||n==[115,117,112,112,111,114,116,115]||n==[99,111,110,116,97,105,110,101,114]
def zp(sub:List CV->List Ru)(live top:Bool):Nat->List CV->List Ru
 |0,_=>[]
 |n+1,[]=>[]
 |n+1,v::r=>
  if v.k==13||(top&&(v.k==14||v.k==15))then zp sub live top n r
  else if v.k==3 then
   match(v::r).dropWhile (nor 17 23)with
   |[]=>[]
   |x::s=>(if x.k==23&&JRG (Jc v.t.b)&& !JGn 64 (((v::r).takeWhile (nor 17 23)).tail)&&live then[Ru.mk 2 (Jc v.t.b) (Je ((v::r).takeWhile (nor 17 23)).tail) [] (sub x.ks)]else[])++zp sub live top n s
  else
   match(v::r).dropWhile (nor 23 23)with
   |[]=>[]
   |x::s=>(if !JGn 64 ((v::r).takeWhile (nor 23 23))&&live then[Ru.mk 1 [] (Je ((v::r).takeWhile (nor 23 23))) (decls x.ks) []]else[])++zp sub live top n s
def JOs:Nat->Bool->List CV->List Ru
 |0,top,l=>zp (λ_=>[]) false top (l.length+1) l
 |f+1,top,l=>zp (JOs f false) true top (l.length+1) l
def rules(l:List CV):List Ru:=JOs 64 true l
def bare(k:Int):Tk4:=⟨k,[],0,0,false,false⟩
mutual
def zq:CV->List Tk4
 | .mk t ks=>t::(KT ks++(if Jj t.k=0 then[]else[bare (Jj t.k)]))
def KT:List CV->List Tk4
 |[]=>[]
 |v::r=>zq v++KT r
end
mutual
def JDO:Nat->CV->Bool
 |n,.mk t ks=>decide (1<=t.k/\t.k<=24)&&(if Jj t.k=0 then ks.isEmpty else match n with
  |0=>false
  |n+1=>Ky n ks)
def Ky:Nat->List CV->Bool
 |_,[]=>true
 |n,v::r=>JDO n v&&Ky n r
end
def JJS:List CV->List (List CV)
 |[]=>[[]]
 |v::r=>if v.k==18 then[]::JJS r else match JJS r with
  |p::q=>(v::p)::q
  |[]=>[[v]]
def split(l:List CV):List (List CV):=(JJS l).map Je
theorem Zd{p:CV->Bool}:∀(A B:List CV),(A++B).dropWhile p=if A.all p then B.dropWhile p else A.dropWhile p++B
 |[],B=>by simp
 |v::A,B=>by rw[AK,AV,AV,Zd A B,Bj];cases p v<;>simp
theorem j8{p:CV->Bool}{A:List CV}(h:A.all p=true):A.dropWhile p=[]:=by
 induction A with
 |nil=>rfl
 |cons v A ih=>rw[Bj,Bool.and_eq_true]at h;rw[AV,if_pos h.1,ih h.2]
theorem JGo{l:List CV}{v:CV}(h:v∈Je l):v∈l:=by unfold Je at h;rw[B5]at h;have h1:=(BC _).subset h;rw[B5]at h1;exact(BC _).subset h1
def PV.t:PV->Tk4
 | .leaf t=>t
 | .node t _ _=>t
def Js(l:List CV):List CV:=l.dropWhile JS
def Kk(l:List CV):List CV:=(l.reverse.dropWhile JS).reverse
theorem HP(l:List CV):Je l=Kk (Js l):=rfl
theorem GG{v:CV}{r:List CV}(h:JS v=false):Kk (v::r)=v::Kk r:=by
 unfold Kk;rw[CF,Zd]
 split
 ·rename_i ha
  rw[AV,h];simp only[Bool.false_eq_true,if_false];rw[j8 ha];rfl
 ·rw[Dk]
  rfl
theorem j9{l:List CV}(h:l.all JS=true):Kk l=[]:=by
 unfold Kk;rw[j8 (by rw[Lf];exact h)]
 rfl
theorem zr(l:List CV)(v:CV):Kk (l++[v])=if JS v then Kk l else l++[v]:=by
 unfold Kk;rw[Dk,CF,List.reverse_nil,List.nil_append,List.singleton_append,AV]
 split
 ·rfl
 ·rw[CF,DM]
theorem qR:Kk []=[]:=rfl
theorem zt{v:CV}{r:List CV}(h:JS v=true):Kk (v::r)=if r.all JS then[]else v::Kk r:=by
 by_cases ha:r.all JS=true
 ·rw[if_pos ha]
  exact j9 (by rw[Bj,h,ha];rfl)
 ·rw[if_neg ha]
  unfold Kk;rw[CF,Zd,Lf,if_neg ha,Dk];rfl
theorem JBn:∀{r:List CV},Kk r=[]↔r.all JS=true
 |[]=>by simp[qR]
 |v::r=>by
  cases hv:JS v with
  |false=>rw[GG hv];simp[hv]
  |true=>
   rw[zt hv,Bj,hv,Bool.true_and]
   split
   ·rename_i h;simp[h]
   ·rename_i h;simp[h]
theorem G1:∀(r:List CV),Js (Kk r)=Kk (Js r)
 |[]=>rfl
 |v::r=>by
  cases hv:JS v with
  |false=>
   have h1:Js (v::r)=v::r:=by unfold Js;rw[AV,hv];rfl
   rw[h1,GG hv];unfold Js;rw[AV,hv]
   rfl
  |true=>
   have h1:Js (v::r)=Js r:=by unfold Js;rw[AV,hv];rfl
   rw[h1,zt hv]
   split
   ·rename_i ha
    have:Js r=[]:=j8 ha;rw[this];rfl
   ·have h2:Js (v::Kk r)=Js (Kk r):=by unfold Js;rw[AV,hv];rfl
    rw[h2,G1 r]
theorem JGp(r:List CV):Kk (Kk r)=Kk r:=by
 unfold Kk;rw[DM]
 congr 1
 generalize r.reverse=l
 induction l with
 |nil=>rfl
 |cons v l ih=>
  rw[AV]
  split
  ·exact ih
  ·rename_i h;rw[AV,if_neg h]
theorem JGq(l:List CV):Js (Js l)=Js l:=by
 unfold Js
 induction l with
 |nil=>rfl
 |cons v l ih=>
  rw[AV]
  split
  ·exact ih
  ·rename_i h;rw[AV,if_neg h]
def bs(l:List Int):ByteArray:=⟨(j4 l).toArray⟩
def row(t:Tk4):List V:=[.v (.int .i64 t.k),.v (.string (bs t.b)),.v (.int .i64 t.n),.v (.int .i64 t.d),.v (.bool t.w),.v (.bool t.i)]
mutual
def Jp:CV->List V
 | .mk t ks=>row t++[.list .no (JH ks)]
def JH:List CV->List (List V)
 |[]=>[]
 |v::r=>Jp v::JH r
end
theorem JN(t:Tk4)(ks:List CV):Jp (.mk t ks)=[.v (.int .i64 t.k),.v (.string (bs t.b)),.v (.int .i64 t.n),.v (.int .i64 t.d),.v (.bool t.w),.v (.bool t.i),.list .no (JH ks)]:=by rw[Jp];rfl
theorem JGr(v:CV):Jp v=[.v (.int .i64 v.t.k),.v (.string (bs v.t.b)),.v (.int .i64 v.t.n),.v (.int .i64 v.t.d),.v (.bool v.t.w),.v (.bool v.t.i),.list .no (JH v.ks)]:=by obtain⟨t,ks⟩:=v;exact JN t ks
theorem rowsC_map:∀l:List CV,JH l=l.map Jp
 |[]=>by rw[JH];rfl
 |v::r=>by rw[JH,rowsC_map r];rfl
theorem JZ:JH []=[]:=by rw[JH]
theorem JY(v:CV)(r:List CV):JH (v::r)=Jp v::JH r:=by rw[JH]
theorem JC(l:List CV):(JH l).length=l.length:=by rw[rowsC_map,List.length_map]
theorem Jm(l:List CV)(i:Nat):(JH l)[i]? =(l[i]?).map Jp:=by rw[rowsC_map,List.getElem?_map]
theorem JMA(l m:List CV):JH (l++m)=JH l++JH m:=by simp[rowsC_map]
theorem Ku(l:List CV)(n:Nat):(JH l).take n=JH (l.take n):=by simp[rowsC_map,List.map_take]
theorem K3(l:List CV)(n:Nat):(JH l).drop n=JH (l.drop n):=by simp[rowsC_map,List.map_drop]
theorem JOt(v:CV):(Jp v).length=7:=by rw[JGr];rfl
theorem Jn(l:List CV):((JH l).all λx=>x.length==7)=true:=by rw[Aj];intro x hx;rw[rowsC_map]at hx;obtain⟨v,_,rfl⟩:=AC.1 hx;rw[JOt];rfl
theorem GH(l:List Tk4):((l.map row).all λx=>x.length==6)=true:=by rw[Aj];intro x hx;obtain⟨v,_,rfl⟩:=AC.1 hx;rfl
def JSG(d:Dc):List V:=[.v (.string (bs d.name)),.list .no (JH d.val),.v (.bool d.imp)]
mutual
def ruV:Ru->List V
 | .mk k n p ds rs=>[.v (.int .i64 k),.v (.string (bs n)),.list .no (JH p),.list .no (ds.map JSG),.list .no (JMB rs)]
def JMB:List Ru->List (List V)
 |[]=>[]
 |r::l=>ruV r::JMB l
end
theorem zw:∀l:List Ru,JMB l=l.map ruV
 |[]=>by rw[JMB];rfl
 |v::r=>by rw[JMB,zw r];rfl
@[go_sem] theorem JSH(l:List Tk4):J3 (l.map row)=false:=by cases l<;>rfl
@[go_sem] theorem JA2(l:List CV):J3 (JH l)=false:=by
 cases l with
 |nil=>rw[JZ];rfl
 |cons v r=>rw[JY,JGr];rfl
@[go_sem] theorem JRH(l:List Dc):J3 (l.map JSG)=false:=by cases l<;>rfl
@[go_sem] theorem JSJ(l:List Ru):J3 (JMB l)=false:=by
 cases l with
 |nil=>rw[zw];rfl
 |cons v r=>rw[zw,List.map_cons];cases v;rw[ruV];rfl
mutual
def Km:CV->Nat
 | .mk _ ks=>1+JL ks
def JL:List CV->Nat
 |[]=>0
 |v::r=>Km v+JL r
end
theorem QA(v:CV):Km v=1+JL v.ks:=by cases v;rw[Km];rfl
theorem QG:JL []=0:=by rw[JL]
theorem J4(v:CV)(r:List CV):JL (v::r)=Km v+JL r:=by rw[JL]
theorem JT:∀l:List CV,l.length<=JL l
 |[]=>by simp
 |v::r=>by have:=JT r;rw[J4,QA,List.length_cons];omega
theorem KH:∀{l:List CV} {v:CV},v∈l->Km v<=JL l
 |[],v,h=>by cases h
 |x::r,v,h=>by
  rw[J4];rcases List.mem_cons.1 h with rfl|h
  ·omega
  ·have:=KH h
   omega
theorem zx{l:List CV}{v:CV}{k:Nat}(h:l[k]? =some v):JL v.ks<=JL l:=by have:=KH (List.mem_of_getElem? h);rw[QA]at this;omega
theorem GJ:∀l m:List CV,JL (l++m)=JL l+JL m
 |[],m=>by simp[QG]
 |v::r,m=>by rw[AK,J4,J4,GJ r m];omega
mutual
theorem JBo:∀v:CV,(zq v).length<=2*Km v
 | .mk t ks=>by
  have:=Zt ks;rw[zq,Km]
  split<;>simp<;>omega
theorem Zt:∀l:List CV,(KT l).length<=2*JL l
 |[]=>by rw[KT];simp
 |v::r=>by have:=Zt r;have:=JBo v;rw[KT,JL,List.length_append];omega
end
end Go.Lift.Rul
end
