/- The lifting: values, states, evaluation, and that it is sound. -/
import Derived.Laws.AppendOwn
import Derived.Test.YtolidijpmnompaaGreatDoorGLc
open BitVec renaming ofInt->A3
open Bool renaming and_eq_true->Af,and_self->Ck,and_true->BR,false_and->An,false_eq_true->Al,false_or->A2,not_false->AO,not_true->AB,true_and->Au,true_or->Bv
open Go.IntKind renaming bits->CK,i64->AQ,signed->CL,wrap->Df
open Go.Op renaming bytesLess->Cu
open Go.Value renaming bool->Cs,int->Bb,string->BX
open Int renaming reducePow->DO
open List renaming all_cons->Bj,all_nil->C9,cons_append->AK,drop_nil->Ce,drop_succ_cons->Dj,length_map->Ao,map_cons->AZ,mem_append->A5,mem_of_getElem? ->Ah,nil_append->Aq,not_mem_nil->BK,range->A4,set_append->Dz,take_left->Dl,take_nil->Lo,take_succ_cons->DT,take_zero->B0
open Nat renaming add_sub_cancel_left->BD,add_zero->Bn,le_refl->Ag,sub_self->CY
open Option renaming isNone_none->D2,map_some->AD
set_option linter.unusedVariables false
set_option linter.unusedSimpArgs false
set_option linter.unusedSectionVars false
section
namespace Go.Lift
def JLd(k:IntKind)(a b:Int):Int:=((A3 k.bits a&&&A3 k.bits b).toNat:Int)
def ior(k:IntKind)(a b:Int):Int:=((A3 k.bits a|||A3 k.bits b).toNat:Int)
def JeM(k:IntKind)(a b:Int):Int:=((A3 k.bits a^^^A3 k.bits b).toNat:Int)
def JeN(k:IntKind)(a b:Int):Int:=a*2^ (min b.toNat k.bits)
def JeO(k:IntKind)(a b:Int):Int:=a.fdiv (2^ (min b.toNat k.bits))
section bin
variable(k:IntKind)(a b:Int)
theorem JYS:Kh .add (.int k a) (.int k b)=some (.int k (k.wrap (a+b))):=by unfold Kh;exact if_pos rfl
theorem JYT:Kh .sub (.int k a) (.int k b)=some (.int k (k.wrap (a-b))):=by unfold Kh;exact if_pos rfl
theorem JYU:Kh .mul (.int k a) (.int k b)=some (.int k (k.wrap (a*b))):=by unfold Kh;exact if_pos rfl
theorem JYV:Kh .quo (.int k a) (.int k b)=if b=0 then none else some (.int k (k.wrap (a.tdiv b))):=by unfold Kh;exact if_pos rfl
theorem JYW:Kh .rem (.int k a) (.int k b)=if b=0 then none else some (.int k (a.tmod b)):=by unfold Kh;exact if_pos rfl
theorem JYX:Kh .and (.int k a) (.int k b)=some (.int k (k.wrap (JLd k a b))):=by unfold Kh;exact if_pos rfl
theorem JeP:Kh .or (.int k a) (.int k b)=some (.int k (k.wrap (ior k a b))):=by unfold Kh;exact if_pos rfl
theorem JYY:Kh .xor (.int k a) (.int k b)=some (.int k (k.wrap (JeM k a b))):=by unfold Kh;exact if_pos rfl
theorem JYZ:Kh .eql (.int k a) (.int k b)=some (.bool (a==b)):=by unfold Kh;exact if_pos rfl
theorem JYa:Kh .neq (.int k a) (.int k b)=some (.bool (a !=b)):=by unfold Kh;exact if_pos rfl
theorem JYb:Kh .lss (.int k a) (.int k b)=some (.bool (decide (a<b))):=by unfold Kh;exact if_pos rfl
theorem JYc:Kh .leq (.int k a) (.int k b)=some (.bool (decide (a≤b))):=by unfold Kh;exact if_pos rfl
theorem JYd:Kh .gtr (.int k a) (.int k b)=some (.bool (decide (b<a))):=by unfold Kh;exact if_pos rfl
theorem JYe:Kh .geq (.int k a) (.int k b)=some (.bool (decide (b≤a))):=by unfold Kh;exact if_pos rfl
theorem JYf(k':IntKind):Kh .shl (.int k a) (.int k' b)=if 0≤b then some (.int k (k.wrap (JeN k a b)))else none:=by unfold Kh;rfl
theorem JYg(k':IntKind):Kh .shr (.int k a) (.int k' b)=if 0≤b then some (.int k (JeO k a b))else none:=by unfold Kh;rfl
theorem JSz(s t:ByteArray):Kh .add (.string s) (.string t)=if s.size+t.size≤9223372036854775807 then some (.string (s++t))else none:=by unfold Kh;rfl
theorem JS0(s t:ByteArray):Kh .eql (.string s) (.string t)=some (.bool (s.toList==t.toList)):=by unfold Kh;rfl
theorem JS1(s t:ByteArray):Kh .lss (.string s) (.string t)=some (.bool (Cu s.toList t.toList)):=by unfold Kh;rfl
theorem JS2(s t:ByteArray):Kh .leq (.string s) (.string t)=some (.bool (Cu s.toList t.toList||s.toList==t.toList)):=by unfold Kh;rfl
theorem JS3(s t:ByteArray):Kh .gtr (.string s) (.string t)=some (.bool (!(Cu s.toList t.toList||s.toList==t.toList))):=by unfold Kh;rfl
theorem JS4(s t:ByteArray):Kh .geq (.string s) (.string t)=some (.bool (!(Cu s.toList t.toList))):=by unfold Kh;rfl
theorem JS5(s t:ByteArray):Kh .neq (.string s) (.string t)=some (.bool (!(s.toList==t.toList))):=by unfold Kh;rfl
theorem JYh:unS .neg (.int k a)=some (.int k (k.wrap (0-a))):=rfl
theorem JYi(x:Bool):unS .not (.bool x)=some (.bool !x):=rfl
end bin
def loops:Code→List Code
 | .seq a b=>loops a++loops b
 | .cond _ a b=>loops a++loops b
 | .block _ a=>loops a
 | .loop a=>a::loops a
 | .scope a=>loops a
 |_=>[]
def JK(b:Code)(i:Nat):Code:=((loops b)[i]?).getD .skip
def JB(f:Func):Code:=f.body.getD .skip
theorem KY{n:Int}(h0: -9223372036854775808≤n)(h1:n≤9223372036854775807):AQ.wrap n=n:=by
 simp only[Df,CK,CL,Au,Nat.reduceSub,DO]
 split<;>simp_all<;>omega
theorem j3{n:Int}(h0:0≤n)(h1:n≤255):IntKind.u8.wrap n=n:=by simp only[Df,CK,CL,An,Al,if_false,DO];omega
theorem Jd{i:Nat}(h:i≤1000000000000000000):AQ.wrap ((i:Int)+1)=((i+1:Nat):Int):=by rw[KY]<;>omega
theorem n0:((0:Nat):Int)=0:=rfl
def ri(k:IntKind)(l:List Int):List (List V):=l.map λn=>[.v (.int k n)]
theorem JS6(k:IntKind)(l:List Int):(ri k l).length=l.length:=by simp[ri]
theorem JS7(k:IntKind)(l:List Int)(i:Nat):(ri k l)[i]? =(l[i]?).map λn=>[V.v (.int k n)]:=by simp[ri]
theorem JYj(h l:List Ob)(x:Ob):(h++x::l)[h.length]? =some x:=by simp
theorem JS8(h l:List Ob)(k:Nat):(h++l)[h.length+k]? =l[k]? :=by rw[List.getElem?_append_right om];congr 1;omega
theorem JS9(h l:List Ob)(x y:Ob):(h++x::l).set h.length y=h++y::l:=by rw[Dz,if_neg om,CY];rfl
theorem JQX(h l:List Ob)(k:Nat)(y:Ob):(h++l).set (h.length+k) y=h++l.set k y:=by rw[Dz,if_neg om,BD]
theorem JTA(h l:List Ob):(h++l).length=h.length+l.length:=List.length_append
theorem JQY(x:Ob)(l:List Ob):(x::l).length=l.length+1:=rfl
theorem JTB:([]:List Ob).length=0:=rfl
theorem JKJ(h l:List Ob)(k:Nat):(h++l).take (h.length+k)=h++l.take k:=by rw[List.take_append,List.take_of_length_le om,BD]
theorem JNw(h l:List Ob):(h++l).take h.length=h:=Dl
theorem JNx(x:Ob)(l:List Ob)(k:Nat):(x::l).take (k+1)=x::l.take k:=rfl
theorem JKK(k:IntKind)(n:Int)(l:List Int):ri k (n::l)=[.v (.int k n)]::ri k l:=rfl
theorem JNy(l:List Int):ZM (ri .i32 l)=some l:=by
 induction l with
 |nil=>rfl
 |cons n l ih=>rw[JKK];unfold ZM;rw[ih];rfl
def j4(l:List Int):List UInt8:=l.map λn=>UInt8.ofNat n.toNat
theorem JNz(l:List Int):bytesOf (ri .u8 l)=some (j4 l):=by
 induction l with
 |nil=>rfl
 |cons n l ih=>rw[JKK];unfold bytesOf;rw[ih];rfl
theorem JTC(k:IntKind)(l:List Int):((ri k l).all λx=>x.length==1)=true:=by simp[ri]
variable[GTab][BTy]
section step
variable(c:Cx)(lp:Yu)(s:St)
noncomputable def yD(b:Code):Option (Ex×St)→Option (Ex×St)
 |some (.normal,s')=>evCode c lp b s'
 |r=>r
noncomputable def JGd(a:Code):Option (Nat×Array Oper×Nat×Array Oper)→Option (Ex×St)
 |some (k,ops,id',ops')=>(Wu c k ops id' ops' s).map λs'=>(Ex.normal,s')
 |none=>evCode c lp a s
noncomputable def JBi(a b:Code):V→Option (Ex×St)
 | .v (.bool t)=>if t then evCode c lp a s else evCode c lp b s
 | .any=>jl (JGd c lp s a (ZZ c.P c.hint a)) (evCode c lp b s)
 |_=>none
def Gz(id:Nat):Option (Ex×St)→Option (Ex×St)
 |some (.exit j,s')=>if j=id then some (.normal,s')else some (.exit j,s')
 |r=>r
def zc:Option St→Option (Ex×St)
 |some s=>some (.normal,s)
 |none=>none
theorem JTD:evCode c lp .skip s=some (.normal,s):=rfl
theorem JN0(id:Nat)(ops:Array Oper)(draw:Bool):evCode c lp (.region id ops draw) s=zc (Kj c id ops draw s):=by simp only[evCode];cases Kj c id ops draw s<;>rfl
theorem c_seq(a b:Code):evCode c lp (.seq a b) s=yD c lp b (evCode c lp a s):=by
 simp only[evCode]
 cases h:evCode c lp a s with
 |none=>rfl
 |some p=>obtain⟨e,s'⟩:=p;cases e<;>rfl
theorem JTG(x:Operand)(a b:Code):evCode c lp (.cond x a b) s=JBi c lp s a b (opd s.1 x):=by
 simp only[evCode]
 cases opd s.1 x with
 |any=>simp only[JBi];congr 1
 |v x=>cases x<;>rfl
 |_=>rfl
theorem JQZ(id:Nat)(a:Code):evCode c lp (.block id a) s=Gz id (evCode c lp a s):=by
 simp only[evCode]
 cases h:evCode c lp a s with
 |none=>rfl
 |some p=>obtain⟨e,s'⟩:=p;cases e<;>rfl
theorem JTH(a:Code):evCode c lp (.loop a) s=lp (evCode c lp a) s:=rfl
theorem JTJ(id:Nat):evCode c lp (.exit id) s=some (.exit id,s):=rfl
theorem JQa(a:Code):evCode c lp (.scope a) s=evCode c lp a s:=rfl
theorem JQb(l:Nat):evCode c lp (.label l) s=some (.normal,s):=rfl
theorem JYk:evCode c lp .ret s=some (.ret,s):=rfl
theorem JN1(b:Code):yD c lp b (some (.normal,s))=evCode c lp b s:=rfl
theorem JTK(b:Code)(id:Nat):yD c lp b (some (.exit id,s))=some (.exit id,s):=rfl
theorem JTL(b:Code):yD c lp b (some (.ret,s))=some (.ret,s):=rfl
theorem JTM(b:Code):yD c lp b none=none:=rfl
theorem JTN(a b:Code):JBi c lp s a b (.v (.bool true))=evCode c lp a s:=rfl
theorem JTO(a b:Code):JBi c lp s a b (.v (.bool false))=evCode c lp b s:=rfl
theorem JN2(a b:Code):JBi c lp s a b .any=jl (JGd c lp s a (ZZ c.P c.hint a)) (evCode c lp b s):=rfl
def JKL(k:Nat)(ops:Array Oper)(id':Nat)(ops':Array Oper):Option Nat→Option Mix→Option (Nat×Array Oper×Nat×Array Oper)
 |some _,none=>some (k,ops,id',ops')
 |_,_=>none
theorem JeQ{P:Program}{hint:Hint}(id id':Nat)(ops ops':Array Oper):ZZ P hint (.seq (.region id ops true) (.region id' ops' false))=JKL (Ju P hint id ops) ops id' ops' (hint.late id) (hint.mix id):=by simp only[ZZ];cases hint.late id<;>cases hint.mix id<;>rfl
theorem JeR(k x:Nat)(ops:Array Oper)(id':Nat)(ops':Array Oper):JKL k ops id' ops' (some x) none=some (k,ops,id',ops'):=rfl
theorem JeS(k:Nat)(ops:Array Oper)(id':Nat)(ops':Array Oper)(m:Option Mix):JKL k ops id' ops' none m=none:=by cases m<;>rfl
theorem JeT(k:Nat)(x:Option Nat)(ops:Array Oper)(id':Nat)(ops':Array Oper)(m:Mix):JKL k ops id' ops' x (some m)=none:=by cases x<;>rfl
theorem JeU{P:Program}{hint:Hint}(id:Nat)(ops:Array Oper)(d:Bool):ZZ P hint (.region id ops d)=none:=rfl
theorem JeV(a:Code):JGd c lp s a none=evCode c lp a s:=rfl
noncomputable def JN3(k:Nat)(ops:Array Oper)(id':Nat)(ops':Array Oper):Option St→Option St
 |some s1=>evLate1 c.P c.lo c.base (c.hint.live id') (c.hint.keep id') k ops ops' s1
 |none=>none
theorem JeW(a:Code)(k id':Nat)(ops ops':Array Oper):JGd c lp s a (some (k,ops,id',ops'))=zc (JN3 c k ops id' ops' (J0 c ops (ops.toList.take k) s)):=by
 simp only[JGd,Wu]
 cases J0 c ops (ops.toList.take k) s with
 |none=>rfl
 |some s1=>simp only[JN3];cases evLate1 c.P c.lo c.base (c.hint.live id') (c.hint.keep id') k ops ops' s1<;>rfl
theorem JeX(k id':Nat)(ops ops':Array Oper):JN3 c k ops id' ops' (some s)=evLate1 c.P c.lo c.base (c.hint.live id') (c.hint.keep id') k ops ops' s:=rfl
theorem JTP(a b:Code)(t:Bool):JBi c lp s a b (.v (.bool t))=if t=true then evCode c lp a s else evCode c lp b s:=rfl
theorem JQc(id:Nat):Gz id (some (.normal,s))=some (.normal,s):=rfl
theorem JQd(id j:Nat):Gz id (some (.exit j,s))=if j=id then some (.normal,s)else some (.exit j,s):=rfl
theorem JQe(id:Nat):Gz id (some (.ret,s))=some (.ret,s):=rfl
theorem JQf(id:Nat):Gz id none=none:=rfl
theorem JTQ:zc (some s)=some (.normal,s):=rfl
theorem JTR:zc none=none:=rfl
def ze(lp:Yu)(f:St→Option (Ex×St)):Option (Ex×St)→Option (Ex×St)
 |some (.normal,s')=>lp f s'
 |r=>r
theorem JJ(f:St→Option (Ex×St)):JA f s=ze JA f (f s):=by
 rw[JNt]
 cases h:f s with
 |none=>rfl
 |some p=>obtain⟨e,s'⟩:=p;cases e<;>rfl
theorem Jg(lp:Yu)(f:St→Option (Ex×St)):ze lp f (some (.normal,s))=lp f s:=rfl
theorem Jx(lp:Yu)(f:St→Option (Ex×St))(id:Nat):ze lp f (some (.exit id,s))=some (.exit id,s):=rfl
theorem Ki(lp:Yu)(f:St→Option (Ex×St)):ze lp f (some (.ret,s))=some (.ret,s):=rfl
noncomputable def JLe(id:Nat):Option St→Option St
 |some s'=>WM c.base (c.hint.keep id) (untag (lives (c.hint.live id) s'.1),s'.2)
 |none=>none
theorem JN4(m:Option Mix)(k:Option Nat):once m false k=k:=by cases k<;>rfl
theorem JTS(d:Bool)(k:Option Nat):once none d k=k:=by cases k<;>cases d<;>rfl
theorem JTT(m:Option Mix)(d:Bool):once m d none=none:=rfl
theorem JTU(mx:Mix)(n:Nat):once (some mx) true (some n)=if(decide (1000≤n)&&decide (n<2000))=true then none else some n:=rfl
noncomputable def JH7(id:Nat)(k:Option Nat):Option St→Option St
 |some s'=>WM c.base k (untag (lives (c.hint.live id) s'.1),s'.2)
 |none=>none
theorem JTV(id:Nat)(ops:Array Oper):Kj c id ops false s=JLe c id (Yt c ops s (c.hint.tail id)):=by unfold Kj;simp only[Al,if_false,JN4];cases Yt c ops s (c.hint.tail id)<;>rfl
theorem JQg(ops:Array Oper):Yt c ops s none=KC c ops ops.toList s:=rfl
def JN5(ops:Array Oper)(k:Nat):Option St→Option St
 |some s1=>HG c ops k s1
 |none=>none
theorem JQh(ops:Array Oper)(k:Nat):Yt c ops s (some k)=JN5 c ops k (KC c ops (ops.toList.take k) s):=rfl
theorem JeY(ops:Array Oper)(k:Nat):JN5 c ops k (some s)=HG c ops k s:=rfl
noncomputable def zf(ops:Array Oper)(l:List Oper):Option St→Option St
 |some s'=>KC c ops l s'
 |none=>none
noncomputable def JKM(id:Nat)(ops:Array Oper):Option Mix→Option St
 |some mx=>Jt c mx id ops mx.tree s
 |none=>zf c ops (ops.toList.drop (Ju c.P c.hint id ops)) (J0 c ops (ops.toList.take (Ju c.P c.hint id ops)) s)
theorem JTW(id:Nat)(ops:Array Oper):Kj c id ops true s=JH7 c id (once (c.hint.mix id) true (c.hint.keep id)) (JKM c s id ops (c.hint.mix id)):=by
 unfold Kj;simp only[if_true];unfold Wt JKM
 cases c.hint.mix id with
 |some mx=>cases hq:Jt c mx id ops mx.tree s<;>simp only[hq,JH7]
 |none=>
 simp only;unfold Z7
 cases J0 c ops (ops.toList.take (Ju c.P c.hint id ops)) s with
 |none=>rfl
 |some s'=>simp only[zf];cases KC c ops (ops.toList.drop (Ju c.P c.hint id ops)) s'<;>rfl
theorem JeZ(id:Nat)(ops:Array Oper):JKM c s id ops none=zf c ops (ops.toList.drop (Ju c.P c.hint id ops)) (J0 c ops (ops.toList.take (Ju c.P c.hint id ops)) s):=rfl
theorem Jea(id:Nat)(ops:Array Oper)(hd tk:List Nat)(T:Tr):JKM c s id ops (some ⟨hd,tk,T⟩)=Jt c ⟨hd,tk,T⟩ id ops T s:=rfl
theorem JYl(mx:Mix)(id:Nat)(ops:Array Oper):Jt c mx id ops .fin s=WM c.base (c.hint.keep id) (untag (lives (c.hint.live id) s.1),s.2):=rfl
def JN6(base:Nat)(k:Option Nat):Option St→Option St
 |some s=>WM base k s
 |none=>none
theorem Jeb(base:Nat)(k:Option Nat)(s:St):JN6 base k (some s)=WM base k s:=rfl
def JYm(base:Nat)(l:List Nat):Option St→Option St
 |some s=>qC base l s
 |none=>none
theorem JYn(base:Nat)(l:List Nat)(s:St):JYm base l (some s)=qC base l s:=rfl
theorem JYo(base:Nat)(s:St):qC base [] s=some s:=rfl
theorem JYp(base i:Nat)(l:List Nat)(s:St):qC base (i::l) s=JYm base l (swS base i s):=by simp only[qC];cases swS base i s<;>rfl
theorem JTX(mx:Mix)(id:Nat)(ops:Array Oper)(l:List Nat):Jt c mx id ops (.finL l) s=JN6 c.base (c.hint.keep id) (qC c.base l (untag (lives (c.hint.live id) s.1),s.2)):=by simp only[Jt,Hx];cases qC c.base l (untag (lives (c.hint.live id) s.1),s.2)<;>rfl
theorem JTY(mx:Mix)(id:Nat)(ops:Array Oper)(i:Nat):Jt c mx id ops (.finS i) s=JN6 c.base (c.hint.keep id) (swS c.base i (untag (lives (c.hint.live id) s.1),s.2)):=by
 rw[show Jt c mx id ops (.finS i) s=Hx c.base (c.hint.live id) (c.hint.keep id) [i] s from rfl]
 simp only[Hx,qC];cases swS c.base i (untag (lives (c.hint.live id) s.1),s.2)<;>rfl
theorem Jec(base:Nat):WM base none s=some s:=rfl
theorem Jed(base n:Nat):WM base (some n) s=if n<1000 then yz base n s else if n<2000 then yz base ((s.2.drop base).length-(n-1000)) s else JJ4 base s (look s.1 (n-2000)):=rfl
noncomputable def JTZ(id:Nat):Option St→Option St
 |some s1=>WM c.base (c.hint.keep id) (untag (lives (c.hint.live id) s1.1),s1.2)
 |none=>none
theorem JYq(mx:Mix)(id:Nat)(ops:Array Oper)(k:Nat):Jt c mx id ops (.two k) s=JTZ c id (y0 c.P c.lo c.base k ops s):=by simp only[Jt];unfold JTZ;cases y0 c.P c.lo c.base k ops s<;>rfl
theorem JYr(id:Nat):JTZ c id (some s)=WM c.base (c.hint.keep id) (untag (lives (c.hint.live id) s.1),s.2):=rfl
noncomputable def JBj(mx:Mix)(id:Nat)(ops:Array Oper)(T:Tr):Option St→Option St
 |some s1=>Jt c mx id ops T s1
 |none=>none
theorem JTa(mx:Mix)(id:Nat)(ops:Array Oper)(k:Nat)(T:Tr):Jt c mx id ops (.head k T) s=JBj c mx id ops T (QB c mx ops k s):=by simp only[Jt];unfold JBj;cases QB c mx ops k s<;>rfl
theorem JYs(mx:Mix)(id:Nat)(ops:Array Oper)(k:Nat)(T:Tr):Jt c mx id ops (.one k T) s=JBj c mx id ops T (QB c mx ops k s):=by simp only[Jt];unfold JBj;cases QB c mx ops k s<;>rfl
theorem JYt(mx:Mix)(id:Nat)(ops:Array Oper)(a b:Tr):Jt c mx id ops (.alt a b) s=Hw (Jt c mx id ops a s) (Jt c mx id ops b s):=rfl
theorem Jee(mx:Mix)(id:Nat)(ops:Array Oper)(T:Tr):JBj c mx id ops T (some s)=Jt c mx id ops T s:=rfl
theorem Jef(mx:Mix)(id:Nat)(ops:Array Oper)(T:Tr):JBj c mx id ops T none=none:=rfl
theorem JQi(n i k:Nat):sw (n+i) (n+k)=n+sw i k:=by
 unfold sw
 repeat' split
 all_goals omega
theorem Jeg(n i:Nat):sw (n+i) n=n+sw i 0:=JQi n i 0
theorem Jeh(n k:Nat):sw n (n+k)=n+sw 0 k:=JQi n 0 k
theorem Jei(n:Nat):sw n n=n+1:=JQi n 0 0
theorem JYu:sw 0 0=1:=rfl
theorem JYv:sw 0 1=0:=rfl
theorem JYw:sw 0 2=2:=rfl
theorem JYx:sw 0 3=3:=rfl
theorem JYy:sw 1 0=0:=rfl
theorem JYz:sw 1 1=2:=rfl
theorem JY0:sw 1 2=1:=rfl
theorem JY1:sw 2 0=0:=rfl
theorem JY2:sw 2 1=1:=rfl
theorem JY3:sw 2 2=3:=rfl
theorem JY4:sw 2 3=2:=rfl
theorem JY5(j:Nat):swE j []=[]:=rfl
theorem JY6(j k:Nat)(v:V)(g:Jr):swE j ((k,v)::g)=(k,swr j v)::swE j g:=rfl
theorem JY7(j b o:Nat):swr j (.ptr b o)= .ptr (sw j b) o:=rfl
theorem JY8(j:Nat)(x:Value):swr j (.v x)= .v x:=rfl
theorem JY9(j:Nat)(k:Own)(r:List (List V)):swr j (.list k r)= .list k r:=rfl
theorem JZA(j:Nat):swr j .undef= .undef:=rfl
theorem JZB(j:Nat):swr j .nil= .nil:=rfl
theorem JZC(j:Nat)(cs:List V):swr j (.rp cs)= .rp cs:=rfl
theorem JZD(j b o n:Nat):swr j (.buf b o n)= .buf (sw j b) o n:=rfl
theorem JZG(j b n z:Nat):swr j (.stk b n z)= .stk (sw j b) n z:=rfl
theorem JZH(j b o:Nat):yy j (.ptr b o)= .ptr (sw j b) o:=rfl
theorem JZJ(j:Nat)(x:Value):yy j (.v x)= .v x:=rfl
theorem JZK(j:Nat)(k:Own)(r:List (List V)):yy j (.list k r)= .list k r:=rfl
theorem JZL(j:Nat):yy j .nil= .nil:=rfl
theorem JZM(j:Nat)(cs:List V):swO j (.cells cs)= .cells (cs.map (yy j)):=rfl
theorem JZN{α:Type}(x y:α)(l:List α):qB 0 (x::y::l)=y::x::l:=rfl
theorem JZO{α:Type}(u x y:α)(l:List α):qB 1 (u::x::y::l)=u::y::x::l:=rfl
theorem JZP{α:Type}(t u x y:α)(l:List α):qB 2 (t::u::x::y::l)=t::u::y::x::l:=rfl
theorem JTb(base i:Nat)(g:Jr)(h:JM):swS base i (g,h)=if base+i+1<h.length then some (swE (base+i) g,h.take base++qB i ((h.drop base).map (swO (base+i))))else none:=rfl
theorem JN7(v:V):qw v v=v:=by simp[qw,yw]
theorem JN8:∀g:Jr,Qy g g=some g
 |[]=>rfl
 |(k,v)::g=>by simp only[Qy,if_true,JN7,JN8 g,AD]
theorem JQj(x:Option St):Hw x x=x:=by
 cases x with
 |none=>rfl
 |some s=>simp only[Hw,jk,if_true,JN8,AD]
theorem Jej(g q:Jr)(h:JM):Hw (some (g,h)) (some (q,h))=(Qy g q).map λr=>(r,h):=by simp only[Hw,jk,if_true]
theorem Jek:Qy [] []=some []:=rfl
theorem Jel(k:Nat)(v:V)(r q:Jr):Qy ((k,v)::r) ((k,v)::q)=(Qy r q).map ((k,v):: ·):=by simp only[Qy,if_true,JN7]
theorem Jem(k:Nat)(r q:Jr):Qy ((k,.v (.bool true))::r) ((k,.v (.bool false))::q)=(Qy r q).map ((k,.any):: ·):=by simp[Qy,qw,HD,jb,Ys]
theorem Jen(k:Nat)(r q:Jr):Qy ((k,.v (.bool false))::r) ((k,.v (.bool true))::q)=(Qy r q).map ((k,.any):: ·):=by simp[Qy,qw,HD,jb,Ys]
theorem JZQ(x:Option (Ex×St)):jl x x=x:=by unfold jl;rw[if_pos (JBC x)]
noncomputable def zg(mx:Mix)(ops:Array Oper)(o:Oper):Bool→Bool→Option St
 |true,_=>J0 c ops [o] s
 |false,true=>if o.guard.isNone&& !Qj c.P o.op then yo c s o else none
 |false,false=>KC c ops [o] s
noncomputable def JN9(hd tk:List Nat)(T:Tr)(ops:Array Oper)(k:Nat):Option Oper→Option St
 |none=>none
 |some o=>zg c s ⟨hd,tk,T⟩ ops o (hd.contains k) (tk.contains k)
theorem JZR{hd tk:List Nat}{T:Tr}{ops:Array Oper}{k:Nat}:QB c ⟨hd,tk,T⟩ ops k s=JN9 c s hd tk T ops k (ops[k]?):=by
 unfold QB JN9
 cases ops[k]? with
 |none=>rfl
 |some o=>
 simp only;cases hd.contains k<;>cases tk.contains k<;>simp[zg]
theorem Jeo(hd tk:List Nat)(T:Tr)(ops:Array Oper)(k:Nat)(o:Oper):JN9 c s hd tk T ops k (some o)=zg c s ⟨hd,tk,T⟩ ops o (hd.contains k) (tk.contains k):=rfl
theorem Jep(mx:Mix)(ops:Array Oper)(o:Oper)(b:Bool):zg c s mx ops o true b=J0 c ops [o] s:=rfl
theorem Jeq(mx:Mix)(ops:Array Oper)(o:Oper):zg c s mx ops o false false=KC c ops [o] s:=rfl
noncomputable def JKN(d:Nat):Option V→Option St
 |some v=>match Zk c.lo (ins d v s.1,s.2) (.tmp d)with
  |some (r,g,h)=>some (ins d (.list .yes r) (untag g),h)
  |none=>none
 |none=>none
noncomputable def JKO(d:Nat)(v:Option V):Bool→Option St
 |false=>JKN c s d v
 |true=>none
theorem Jer(mx:Mix)(ops:Array Oper)(d:Nat)(op:Op)(ty:TypeId)(p:String)(a:Array Edge):zg c s mx ops ⟨some d,op,ty,p,a,none⟩ false true=JKO c s d (JX c.P c.hint.vars s op) (Qj c.P op):=by
 simp only[zg,D2]
 cases he:Qj c.P op with
 |true=>simp[JKO]
 |false=>simp only[AO,Ck,if_true,yo];unfold JKO JKN;cases JX c.P c.hint.vars s op<;>rfl
theorem Jes(d:Nat)(v:Option V):JKO c s d v false=JKN c s d v:=rfl
theorem Jet(d:Nat)(v:V):JKN c s d (some v)=match Zk c.lo (ins d v s.1,s.2) (.tmp d)with
  |some (r,g,h)=>some (ins d (.list .yes r) (untag g),h)
  |none=>none:=rfl
theorem JTc(ops:Array Oper)(l:List Oper):zf c ops l (some s)=KC c ops l s:=rfl
theorem JZS(id:Nat):JLe c id (some s)=WM c.base (c.hint.keep id) (untag (lives (c.hint.live id) s.1),s.2):=rfl
theorem JZT(id:Nat):JLe c id none=none:=rfl
theorem JTd(id:Nat)(k:Option Nat):JH7 c id k (some s)=WM c.base k (untag (lives (c.hint.live id) s.1),s.2):=rfl
theorem JTe(id:Nat)(k:Option Nat):JH7 c id k none=none:=rfl
def JLf(ops:Array Oper)(d:Option Nat)(l:List Oper):Option (V×St)→Option St
 |some (v,g,h)=>KC c ops l (put d v g,h)
 |none=>none
def JGe(ops:Array Oper)(o:Oper)(l:List Oper):Option Bool→Option St
 |some true=>JLf c ops o.dst l (WR c s o)
 |some false=>if Ks o.op then none else KC c ops l (put o.dst (.v undef) s.1,s.2)
 |none=>none
theorem JZU(ops:Array Oper):KC c ops [] s=some s:=rfl
theorem JTf(ops:Array Oper)(o:Oper)(l:List Oper):KC c ops (o::l) s=JGe c s ops o l (want ops s.1 o):=by
 simp only[KC];unfold JGe
 split<;>simp_all
 cases h:WR c s o with
 |none=>rfl
 |some p=>rfl
theorem w_t(ops:Array Oper)(o:Oper)(l:List Oper):JGe c s ops o l (some true)=JLf c ops o.dst l (WR c s o):=rfl
theorem w_f(ops:Array Oper)(o:Oper)(l:List Oper):JGe c s ops o l (some false)=if Ks o.op=true then none else KC c ops l (put o.dst (.v undef) s.1,s.2):=rfl
theorem a_s(ops:Array Oper)(d:Option Nat)(l:List Oper)(v:V)(g:Jr)(h:JM):JLf c ops d l (some (v,g,h))=KC c ops l (put d v g,h):=rfl
theorem a_0(ops:Array Oper)(d:Option Nat)(l:List Oper):JLf c ops d l none=none:=rfl
def KN:Option V→Option (V×St)
 |some v=>some (v,s)
 |none=>none
theorem JTg(v:V):KN s (some v)=some (v,s):=rfl
theorem JTh:KN s none=none:=rfl
def opC(o:Op):Bool→Option (V×St)
 |true=>KQ c.P c.call c.lo c.hint.mutc s o
 |false=>KN s (JX c.P c.hint.vars s o)
def JQk(o:Oper):Bool→Option (V×St)
 |true=>ZN c.P c.base c.lo (c.hint.mode o.dst) s o.op
 |false=>opC c s o.op (Qj c.P o.op)
theorem Jeu(o:Oper):JQk c s o true=ZN c.P c.base c.lo (c.hint.mode o.dst) s o.op:=rfl
theorem Jev(o:Oper):JQk c s o false=opC c s o.op (Qj c.P o.op):=rfl
theorem JZW(o:Oper):WR c s o=JQk c s o (Zl c.hint.mode o.dst o.op):=by
 unfold WR
 cases Zl c.hint.mode o.dst o.op with
 |true=>rfl
 |false=>
 simp only[Al,if_false,JQk]
 cases Qj c.P o.op with
 |true=>rfl
 |false=>simp only[Al,if_false];unfold opC;cases JX c.P c.hint.vars s o.op<;>rfl
theorem Jew(o:Op):opC c s o true=KQ c.P c.call c.lo c.hint.mutc s o:=rfl
theorem Jex(o:Op):opC c s o false=KN s (JX c.P c.hint.vars s o):=rfl
def JOA(ops:Array Oper)(d:Option Nat)(l:List Oper):Option V→Option St
 |some v=>J0 c ops l (put d v s.1,s.2)
 |none=>none
def JGf(ops:Array Oper)(o:Oper)(l:List Oper):Option Bool→Option St
 |some true=>JOA c s ops o.dst l (Kc c s o)
 |some false=>if Ks o.op then none else J0 c ops l (put o.dst (.v undef) s.1,s.2)
 |none=>none
theorem JZX(ops:Array Oper):J0 c ops [] s=some s:=rfl
theorem JTi(ops:Array Oper)(o:Oper)(l:List Oper):J0 c ops (o::l) s=JGf c s ops o l (want ops s.1 o):=by
 simp only[J0];unfold JGf
 split<;>simp_all
 cases h:Kc c s o with
 |none=>rfl
 |some p=>rfl
theorem JZY(ops:Array Oper)(o:Oper)(l:List Oper):JGf c s ops o l (some true)=JOA c s ops o.dst l (Kc c s o):=rfl
theorem JZZ(ops:Array Oper)(o:Oper)(l:List Oper):JGf c s ops o l (some false)=if Ks o.op=true then none else J0 c ops l (put o.dst (.v undef) s.1,s.2):=rfl
theorem Jey(ops:Array Oper)(d:Option Nat)(l:List Oper)(v:V):JOA c s ops d l (some v)=J0 c ops l (put d v s.1,s.2):=rfl
def hdC(o:Oper):Bool→Option V
 |true=>match o.op with
  | .call d=>match d.callee with
   | .value f=>match opd s.1 f with
    | .fn f caps=>qv s.2.length (c.call s.2.length f (Q4 caps++((d.args.toList.map (opd s.1)).map fzs++Q5 caps)) s.2)
    |_=>none
   |_=>none
  | .convert a b x=>if c.hint.mutc||isRow c.P a b then none else(KQ c.P c.call c.lo false s (.convert a b x)).map (·.1)
  | .buildSlice t n parts=>(KQ c.P c.call c.lo false s (.buildSlice t n parts)).map (·.1)
  |_=>none
 |false=>JX c.P c.hint.vars s o.op
theorem JZa(o:Oper):Kc c s o=hdC c s o (Qj c.P o.op):=by unfold Kc;cases Qj c.P o.op<;>rfl
theorem Je0(o:Oper):hdC c s o false=JX c.P c.hint.vars s o.op:=rfl
theorem Je1(o:Oper):hdC c s o true=match o.op with
  | .call d=>match d.callee with
   | .value f=>match opd s.1 f with
    | .fn f caps=>qv s.2.length (c.call s.2.length f (Q4 caps++((d.args.toList.map (opd s.1)).map fzs++Q5 caps)) s.2)
    |_=>none
   |_=>none
  | .convert a b x=>if c.hint.mutc||isRow c.P a b then none else(KQ c.P c.call c.lo false s (.convert a b x)).map (·.1)
  | .buildSlice t n parts=>(KQ c.P c.call c.lo false s (.buildSlice t n parts)).map (·.1)
  |_=>none:=rfl
end step
theorem Je2(n:Nat)(v:V)(h:JM):qv n (some (v,h))=if h.length=n then some v else none:=rfl
def fin(P:Program)(rs:List ResultVar)(base:Nat):Option (Ex×St)→Option (V×JM)
 |some (.exit _,_)=>none
 |some (_,s)=>match Ke P s rs with
  |some vs=>if okr base (qD vs)then some (qD vs,s.2.take base)else none
  |none=>none
 |none=>none
def JTj(P:Program)(rs:List ResultVar)(base ret:Nat)(rr:Bool):Option (Ex×St)→Option (V×JM)
 |some (.exit _,_)=>none
 |some (_,s)=>match(if rr then Kt P s rs else Ke P s rs)with
  |some vs=>if okr (base+ret) (qD vs)&&(((s.2.drop base).take ret).all (okO (base+ret))&&(ret==0||decide (base+ret≤s.2.length)))then some (qD vs,s.2.take (base+ret))else none
  |none=>none
 |none=>none
theorem JGg{P:Program}{hints:Nat→Hint}{prim:Nat→Option (Nat→List V→JM→Option (V×JM))}{lo f nt ret:Nat}{rr:Bool}{args:List V}{h:JM}{fn:Func}{b:Code}{rs:List ResultVar}{hi:Hint}
  (hp:prim f=none)(hf:P.funcs[f]? =some fn)(hb:fn.body=some b)(hn:fn.ntmps=nt)(hname:(fn.name != "runtime.NumGoroutine")=true) (hh:hints f=hi) (hcode:codeOk P hi nt b=true) (hrs:fn.results.toList=rs) (hret:hi.ret=ret) (hrr:hi.rawr=rr)
  (hargs:args.length≤nt) (hbare:args.all bare=true):
  ev P hints prim lo f args h=JTj P rs h.length ret rr (evCode ⟨P,ev P hints prim,lo,h.length,hi⟩ JA b (QJ args,h)):=by
 rw[JYQ hp];unfold Ww;subst hh hn hrs hret hrr;simp only[hf,hb];rw[if_pos (by simp[hcode,hargs,hbare,hname])]
 cases evCode ⟨P,ev P hints prim,lo,h.length,hints f⟩ JA b (QJ args,h)with
 |none=>rfl
 |some p=>obtain⟨e,s⟩:=p;cases e<;>rfl
theorem JKP{P:Program}{hints:Nat→Hint}{prim:Nat→Option (Nat→List V→JM→Option (V×JM))}{lo f nt:Nat}{args:List V}{h:JM}{fn:Func}{b:Code}{rs:List ResultVar}{hi:Hint}
  (hp:prim f=none)(hf:P.funcs[f]? =some fn)(hb:fn.body=some b)(hn:fn.ntmps=nt)(hname:(fn.name != "runtime.NumGoroutine")=true) (hh:hints f=hi) (hcode:codeOk P hi nt b=true) (hrs:fn.results.toList=rs) (hret:hi.ret=0) (hrr:hi.rawr=false)
  (hargs:args.length≤nt) (hbare:args.all bare=true):
  ev P hints prim lo f args h=fin P rs h.length (evCode ⟨P,ev P hints prim,lo,h.length,hi⟩ JA b (QJ args,h)):=by
 rw[JGg hp hf hb hn hname hh hcode hrs hret hrr hargs hbare]
 cases evCode ⟨P,ev P hints prim,lo,h.length,hi⟩ JA b (QJ args,h)with
 |none=>rfl
 |some p=>
  obtain⟨e,s⟩:=p
  have key:(match Ke P s rs with
    |some vs=>if okr (h.length+0) (qD vs)&&(((s.2.drop h.length).take 0).all (okO (h.length+0))&&((0:Nat)==0||decide (h.length+0≤s.2.length)))then some (qD vs,s.2.take (h.length+0))else none
    |none=>none)=match Ke P s rs with
    |some vs=>if okr h.length (qD vs)then some (qD vs,s.2.take h.length)else none
    |none=>none:=by
   simp only[B0,C9,Bn,beq_self_eq_true,Bv,BR]
  cases e<;>first|rfl|exact key
section merge
variable{p:Prop}[Decidable p]
theorem JTk(s t:St):(if p then some (Ex.normal,s)else some (Ex.normal,t))=some (Ex.normal,if p then s else t):=by split<;>rfl
theorem JZb(s t:St):(if p then some (Ex.ret,s)else some (Ex.ret,t))=some (Ex.ret,if p then s else t):=by split<;>rfl
theorem Je3(s t:St):(if p then some s else some t)=some (if p then s else t):=by split<;>rfl
theorem JTl(g g':Jr)(h h':JM):(if p then((g,h):St)else(g',h'))=(if p then g else g',if p then h else h'):=by split<;>rfl
theorem JTm(k:Nat)(v v':V)(g g':Jr):(if p then((k,v)::g:Jr)else(k,v')::g')=(k,if p then v else v')::(if p then g else g'):=by split<;>rfl
theorem m_v(x y:Value):(if p then V.v x else V.v y)=V.v (if p then x else y):=by split<;>rfl
theorem JTn(k:Own)(r q:List (List V)):(if p then V.list k r else V.list k q)=V.list k (if p then r else q):=by split<;>rfl
theorem JTo(x y:Bool):(if p then Cs x else Cs y)=Cs (if p then x else y):=by split<;>rfl
theorem JZc(k:IntKind)(x y:Int):(if p then Bb k x else Bb k y)=Bb k (if p then x else y):=by split<;>rfl
theorem JZd(x y:ByteArray):(if p then BX x else BX y)=BX (if p then x else y):=by split<;>rfl
theorem JZe(x y:List V):(if p then V.agg x else V.agg y)=V.agg (if p then x else y):=by split<;>rfl
theorem JQl(x y:V)(l m:List V):(if p then x::l else y::m)=(if p then x else y)::(if p then l else m):=by split<;>rfl
theorem JTp{α:Type}(x:α):(if p then x else x)=x:=by split<;>rfl
theorem JZf(c:Cx)(id:Nat)(x y:Option St):JLe c id (if p then x else y)=if p then JLe c id x else JLe c id y:=by split<;>rfl
theorem JTq(c:Cx)(id:Nat)(k:Option Nat)(x y:Option St):JH7 c id k (if p then x else y)=if p then JH7 c id k x else JH7 c id k y:=by split<;>rfl
theorem JTr(c:Cx)(lp:Yu)(b:Code)(x y:Option (Ex×St)):yD c lp b (if p then x else y)=if p then yD c lp b x else yD c lp b y:=by split<;>rfl
theorem JQm(id:Nat)(x y:Option (Ex×St)):Gz id (if p then x else y)=if p then Gz id x else Gz id y:=by split<;>rfl
theorem JZg(x y:Option St):zc (if p then x else y)=if p then zc x else zc y:=by split<;>rfl
theorem JTs(lp:Yu)(f:St→Option (Ex×St))(x y:Option (Ex×St)):ze lp f (if p then x else y)=if p then ze lp f x else ze lp f y:=by split<;>rfl
theorem JTt(c:Cx)(ops:Array Oper)(l:List Oper)(x y:Option St):zf c ops l (if p then x else y)=if p then zf c ops l x else zf c ops l y:=by split<;>rfl
theorem JZh(P:Program)(rs:List ResultVar)(b:Nat)(x y:Option (Ex×St)):fin P rs b (if p then x else y)=if p then fin P rs b x else fin P rs b y:=by split<;>rfl
end merge
def gV(b:Bool)(v:V):V:=if b then v else .v undef
theorem Je4(v:V):gV true v=v:=rfl
theorem Je5(v:V):gV false v= .v undef:=rfl
def WY(b:Bool)(s:St)(r:Option (V×St)):Option (V×St):=if b then r else some (.v undef,s)
theorem JSA(s:St)(r:Option (V×St)):WY true s r=r:=rfl
theorem JSB(s:St)(r:Option (V×St)):WY false s r=some (.v undef,s):=rfl
theorem JZi(b:Bool)(s:St)(v:V):WY b s (some (v,s))=some (gV b v,s):=by cases b<;>rfl
def gH(b:Bool)(r:Option V):Option V:=if b then r else some (.v undef)
theorem JZj(r:Option V):gH true r=r:=rfl
theorem JZk(r:Option V):gH false r=some (.v undef):=rfl
theorem Je6(b:Bool)(v:V):gH b (some v)=some (gV b v):=by cases b<;>rfl
theorem w_b(c:Cx)(s:St)(ops:Array Oper)(o:Oper)(l:List Oper)(b:Bool):JGe c s ops o l (some b)=if Ks o.op=true then(if b=true then JLf c ops o.dst l (WR c s o)else none)else JLf c ops o.dst l (WY b s (WR c s o)):=by
 cases b
 ·simp only[w_f,Al,if_false,JSB]
  rfl
 ·simp only[w_t,if_true,JSA]
  split<;>rfl
theorem Je7(c:Cx)(s:St)(ops:Array Oper)(o:Oper)(l:List Oper)(b:Bool):JGf c s ops o l (some b)=if Ks o.op=true then(if b=true then JOA c s ops o.dst l (Kc c s o)else none)else JOA c s ops o.dst l (gH b (Kc c s o)):=by
 cases b
 ·simp only[JZZ,Al,if_false,JZk]
  rfl
 ·simp only[JZY,if_true,JZj]
  split<;>rfl
def JKQ(b:Bool):V→Option Bool
 | .v (.bool x)=>some (x==b)
 | .v (.tuple _)=>some false
 |_=>none
theorem JQn(ops:Array Oper)(g:Jr)(o:Oper):want ops g o=match o.guard with
  |none=>some true
  |some (j,b)=>match(ops[j]?).bind (·.dst)with
   |some t=>JKQ b (look g t)
   |none=>some false:=by
 unfold want
 cases o.guard with
 |none=>rfl
 |some p=>obtain⟨j,b⟩:=p;simp only;cases(ops[j]?).bind (·.dst)<;>rfl
theorem Je8(b x:Bool):JKQ b (.v (.bool x))=some (x==b):=rfl
theorem Je9(b:Bool):JKQ b (.v undef)=some false:=rfl
theorem JfA(b c x:Bool):JKQ b (gV c (.v (.bool x)))=some (c&&(x==b)):=by cases c<;>rfl
def pickC(b:Bool)(x y:V):V:=if b then x else y
theorem JfB(x y:V):pickC true x y=x:=rfl
theorem JfC(x y:V):pickC false x y=y:=rfl
theorem JZl(b x:Bool):pickC b (.v (.bool true)) (.v (.bool x))= .v (.bool (b||x)):=by cases b<;>rfl
theorem JTu(b x:Bool):pickC b (.v (.bool x)) (.v (.bool false))= .v (.bool (b&&x)):=by cases b<;>rfl
theorem JfD(b:Bool)(x y:Value):pickC b (.v x) (.v y)= .v (if b=true then x else y):=by cases b<;>rfl
def ZU:V→V→V→Option V
 | .v (.bool x),p,q=>some (pickC x p q)
 |_,_,_=>none
theorem JTv{P:Program}{vars:List Nat}{s:St}{c a b:Operand}:JX P vars s (.pick c a b)=ZU (opd s.1 c) (cps (opd s.1 a)) (cps (opd s.1 b)):=by
 show(match opd s.1 c with
  | .v (.bool x)=>some (if x then cps (opd s.1 a)else cps (opd s.1 b))
  |_=>none)=_
 cases opd s.1 c with
 |v x=>cases x<;>rfl
 |_=>rfl
theorem JfG(x:Bool)(p q:V):ZU (.v (.bool x)) p q=some (pickC x p q):=rfl
theorem JZm(b:Bool)(v:V):cps (gV b v)=gV b (cps v):=by cases b<;>rfl
section ops
variable(P:Program)
def Q9(vars:List Nat)(t:Nat):V→Option V
 | .list .yes r=>some (.list (if t∈vars then .slot t else .no) r)
 |y=>some (cps y)
def G0(op:BinOp)(t:TypeId):V→V→Option V
 | .v a,.v b=>(JK6 P op t a b).map .v
 | .agg cs,.agg ds=>
  match jA P t with
  |some ks=>
   match op with
   | .eql=>(eqCells ks cs ds).map λr=> .v (.bool r)
   | .neq=>(eqCells ks cs ds).map λr=> .v (.bool !r)
   |_=>none
  |none=>none
 |_,_=>none
def unV(op:UnOp):V→Option V
 | .v a=>(unS op a).map .v
 |_=>none
def Q0:V→Option V
 | .ptr b o=>some (.ptr b o)
 | .rp cs=>some (.rp cs)
 | .fn f cs=>some (.fn f cs)
 |_=>none
def yG(h:JM)(a b:TypeId):V→Option V
 | .v y=>JDz P a b (.v y)
 | .list _ rows=>
  if Yq P b then
   match P.underlying a with
   |some (.slice e)=>if Ga P e then(bytesOf rows).map λl=> .v (.string ⟨l.toArray⟩)else if Gf P e then(ZM rows).map λl=> .v (.string (runesBytes l))else none
   |_=>none
  else none
 | .buf i o n=>
  if Yq P b then
   match P.underlying a,cellsOfOb h i with
   |some (.slice e),some cs=>if Ga P e&&decide (o+n≤cs.length)then(bytesOf (((cs.drop o).take n).map λx=>[x])).map λl=> .v (.string ⟨l.toArray⟩)else none
   |_,_=>none
  else none
 |_=>none
def QD(t:TypeId)(f:Nat)(x:V):Option V:=
 match x,JR P t f with
  | .ptr b o,some (k,u)=>if 0<JD P u then some (.ptr b (o+k))else none
  | .rp cs,some (k,u)=>if 0<JD P u∧k<cs.length then some (.rp (cs.drop k))else none
  |_,_=>none
def jR(t:TypeId)(f:Nat)(x:V):Option V:=
 match x,JR P t f with
  | .agg cs,some (k,u)=>KB P u (cs.drop k)
  |_,_=>none
def J5(t:TypeId)(x i:V):Option V:=
 match x,idx i,P.underlying t with
  | .list _ rows,some n,some (.slice e)=>
   if 0≤n then
    match rows[n.toNat]? with
    |some row=>if row.length=JD P e∧0<JD P e then some (.rp row)else none
    |none=>none
   else none
  | .buf b o m,some n,some (.slice e)=>if 0≤n∧n<m∧JD P e=1 then some (.ptr b (o+n.toNat))else none
  | .stk b m sz,some n,some (.slice e)=>if 0≤n∧n<m∧JD P e=sz∧0<sz then some (.ptr b (n.toNat*sz))else none
  | .ptr b o,some n,some (.array m e)=>if 0≤n∧n<m∧0<JD P e then some (.ptr b (o+n.toNat*JD P e))else none
  | .rp cs,some n,some (.array m e)=>if 0≤n∧n<m∧0<JD P e∧n.toNat*JD P e<cs.length then some (.rp (cs.drop (n.toNat*JD P e)))else none
  |_,_,_=>none
def WZ(t:TypeId)(x i:V):Option V:=
 match x,idx i,P.underlying t with
  | .v (.string b),some n,some .string=>if 0≤n then(b.data[n.toNat]?).map λc=> .v (.int .u8 c.toNat)else none
  | .agg cs,some n,some (.array m e)=>
   if 0≤n∧n<m then
    KB P e (cs.drop (n.toNat*JD P e))
   else none
  |_,_,_=>none
def Zr(i:Nat):V→Option V
 | .tup vs=>(vs[i]?).map cps
 |_=>none
def JAz(u:Option TypeDesc)(x:V):Option V:=
 match(some x:Option V),u with
   |some (.list _ rows),some (.slice _)=>some (.v (.int .i64 rows.length))
   |some .nil,some (.slice _)=>some (.v (.int .i64 0))
   |some (.buf _ _ n),some (.slice _)=>some (.v (.int .i64 n))
   |some (.stk _ n _),some (.slice _)=>some (.v (.int .i64 n))
   |some (.v (.string b)),some .string=>some (.v (.int .i64 b.size))
   |_,_=>none
variable{P}{vars:List Nat}{s:St}
theorem JTw(t:Nat):JX P vars s (.move (.tmp t))=Q9 vars t (look s.1 t):=rfl
theorem JQo(c:Value):JX P vars s (.move (.const c))=some (ofC c):=rfl
theorem JQp(n:Nat):JX P vars s (.move (.global n))=some (opd s.1 (.global n)):=rfl
theorem JQq(n:Nat):JX P vars s (.move (.func n))=some (.fn n []):=rfl
theorem JTx{t:TypeId}{a:Operand}:JX P vars s (.load t a)=Wf P s.2 t (opd s.1 a):=rfl
theorem JZn{op:BinOp}{t u:TypeId}{x y:Operand}:JX P vars s (.binOp op t x y u)=G0 P op t (opd s.1 x) (opd s.1 y):=rfl
theorem JfH{op:UnOp}{t:TypeId}{x:Operand}:JX P vars s (.unOp op t x)=unV op (opd s.1 x):=rfl
theorem JZo{x:Operand}:JX P vars s (.nilCheck x)=Q0 (opd s.1 x):=rfl
theorem JTy{a b:TypeId}{x:Operand}:JX P vars s (.convert a b x)=yG P s.2 a b (opd s.1 x):=rfl
theorem JfJ{t:TypeId}{x:Operand}{f:Nat}:JX P vars s (.fieldAddr t x f)=QD P t f (opd s.1 x):=rfl
theorem JfK{t:TypeId}{x:Operand}{f:Nat}:JX P vars s (.field t x f)=jR P t f (opd s.1 x):=rfl
theorem JfL{t:TypeId}{x i:Operand}:JX P vars s (.indexAddr t x i)=J5 P t (opd s.1 x) (opd s.1 i):=rfl
theorem JfM{t:TypeId}{x i:Operand}:JX P vars s (.index t x i)=WZ P t (opd s.1 x) (opd s.1 i):=rfl
theorem JfN{x:Operand}{i:Nat}:JX P vars s (.extract x i)=Zr i (opd s.1 x):=rfl
theorem JZp{x:Operand}{t:TypeId}:JX P vars s (.call {callee:= .builtin .len,args:= #[x],argTypes:= #[t]})=JAz (P.underlying t) (opd s.1 x):=rfl
def JZq(a b:V):Option V:=
 match[a,b]with
 |[.v (.int k x),.v (.int k' y)]=>if k=k' then some (.v (.int k (if y<x then y else x)))else none
 |_=>none
def JZr(a b:V):Option V:=
 match[a,b]with
 |[.v (.int k x),.v (.int k' y)]=>if k=k' then some (.v (.int k (if y>x then y else x)))else none
 |_=>none
theorem JZs{x y:Operand}{ts:Array TypeId}:JX P vars s (.call {callee:= .builtin .min,args:= #[x,y],argTypes:=ts})=JZq (opd s.1 x) (opd s.1 y):=rfl
theorem JZt{x y:Operand}{ts:Array TypeId}:JX P vars s (.call {callee:= .builtin .max,args:= #[x,y],argTypes:=ts})=JZr (opd s.1 x) (opd s.1 y):=rfl
theorem JfO(k:IntKind)(x y:Int):JZq (.v (.int k x)) (.v (.int k y))=some (.v (.int k (if y<x then y else x))):=if_pos rfl
theorem JfP(k:IntKind)(x y:Int):JZr (.v (.int k x)) (.v (.int k y))=some (.v (.int k (if y>x then y else x))):=if_pos rfl
theorem JQr{t:TypeId}{parts:Array (Nat×Operand)}:JX P vars s (.build t parts)=(match Kr P t with
  |none=>none
  |some z=>
   match P.underlying t with
   |some (.struct _)=>if structOk P t then
    (Gg (λi=>(JR P t i).map λp=>(p.1,JD P p.2)) (parts.toList.map λp=>(p.1,opd s.1 p.2)) (z.map KV)).map .agg else none
   |some (.array _ e)=>if(P.info? e).isSome then
    (Gg (λi=>some (i*JD P e,JD P e)) (parts.toList.map λp=>(p.1,opd s.1 p.2)) (z.map KV)).map .agg else none
   |_=>none):=rfl
theorem JQs{t:TypeId}{x:Operand}{lo hi mx:Option Operand}:JX P vars s (.slice t x lo hi mx)=(match mx,opd s.1 x,P.underlying t with
  |none,.v (.string b),some .string=>
   match ky s.1 hi b.size with
   |some h=>match ky s.1 lo 0 with
    |some l=>if l≤h∧h≤b.size then some (.v (.string (b.extract l h)))else none
    |none=>none
   |none=>none
  |none,.list _ rows,some (.slice e)=>
   match ky s.1 hi rows.length with
   |some h=>match ky s.1 lo 0 with
    |some l=>if l≤h∧h≤rows.length∧0<JD P e∧(rows.all λr=>r.length==JD P e)then some (.list .no ((rows.take h).drop l))else none
    |none=>none
   |none=>none
  |none,.stk b n sz,some (.slice e)=>
   match ky s.1 hi n with
   |some h=>match ky s.1 lo 0 with
    |some l=>if l=0∧h≤n∧JD P e=sz∧0<sz then some (.stk b h sz)else none
    |none=>none
   |none=>none
  |none,.ptr b o,some (.array n e)=>
   match ky s.1 hi n with
   |some h=>match ky s.1 lo 0 with
    |some l=>if l≤h∧h≤n∧l<n∧JD P e=1 then some (.buf b (o+l) (h-l))else none
    |none=>none
   |none=>none
  |_,_,_=>none):=rfl
theorem JfQ{f:Nat}{first caps:Array Operand}:JX P vars s (.makeFunc (.func f) first caps)=if((first.toList++caps.toList).all λc=>je (opd s.1 c)&& !isU (opd s.1 c))=true then(if first.size=0 then some (.fn f (caps.toList.map λc=>cp (opd s.1 c)))else if caps.size=0 then some (.fn f (.undef::first.toList.map λc=>cp (opd s.1 c)))else none)else none:=rfl
theorem JfR(t:Nat)(x:Value):Q9 vars t (.v x)=some (.v x):=rfl
theorem JfS(t:Nat)(r:List (List V)):Q9 vars t (.list .yes r)=some (.list (if t∈vars then .slot t else .no) r):=rfl
theorem JfT(t:Nat)(r:List (List V)):Q9 vars t (.list .no r)=some (.list .no r):=rfl
theorem JfU(t b o:Nat)(r:List (List V)):Q9 vars t (.list (.cell b o) r)=some (.list .no r):=rfl
theorem JfV(t u:Nat)(r:List (List V)):Q9 vars t (.list (.slot u) r)=some (.list .no r):=rfl
theorem JfW(t:Nat):Q9 vars t .nil=some .nil:=rfl
theorem JfX(t b o:Nat):Q9 vars t (.ptr b o)=some (.ptr b o):=rfl
theorem JfY(t:Nat)(cs:List V):Q9 vars t (.rp cs)=some (.rp cs):=rfl
theorem JfZ(t b o n:Nat):Q9 vars t (.buf b o n)=some (.buf b o n):=rfl
theorem Jfa(t b n sz:Nat):Q9 vars t (.stk b n sz)=some (.stk b n sz):=rfl
theorem Jfb(t:Nat)(cs:List V):Q9 vars t (.agg cs)=some (.agg (cs.map cp)):=rfl
theorem Jfc(t:Nat)(cs:List V):Q9 vars t (.tup cs)=some (.tup cs):=rfl
theorem Jfd(t f:Nat)(cs:List V):Q9 vars t (.fn f cs)=some (.fn f cs):=rfl
theorem Jfe(op:BinOp)(t:TypeId)(k:IntKind)(a:Int)(b:Value):G0 P op t (.v (.int k a)) (.v b)=(Kh op (.int k a) b).map .v:=rfl
theorem Jff(op:BinOp)(t:TypeId)(a:ByteArray)(b:Value):G0 P op t (.v (.string a)) (.v b)=(Kh op (.string a) b).map .v:=rfl
theorem JZu(t:TypeId)(a b:Bool)(h:P.underlying t=some .bool):G0 P .eql t (.v (.bool a)) (.v (.bool b))=some (.v (.bool (a==b))):=by simp only[G0,JK6,h];rfl
theorem JZv(t:TypeId)(a b:Bool)(h:P.underlying t=some .bool):G0 P .neq t (.v (.bool a)) (.v (.bool b))=some (.v (.bool (!(a==b)))):=by simp only[G0,JK6,h];rfl
theorem Jfg(t:TypeId)(a b:List V):G0 P .eql t (.agg a) (.agg b)=match jA P t with
  |some ks=>(eqCells ks a b).map λr=> .v (.bool r)
  |none=>none:=rfl
theorem Jfh(t:TypeId)(a b:List V):G0 P .neq t (.agg a) (.agg b)=match jA P t with
  |some ks=>(eqCells ks a b).map λr=> .v (.bool !r)
  |none=>none:=rfl
theorem Jfi(op:UnOp)(a:Value):unV op (.v a)=(unS op a).map .v:=rfl
theorem Jfj(b o:Nat):Q0 (.ptr b o)=some (V.ptr b o):=rfl
theorem Jfk(cs:List V):Q0 (.rp cs)=some (.rp cs):=rfl
theorem Jfl(f:Nat)(cs:List V):Q0 (.fn f cs)=some (.fn f cs):=rfl
theorem Jfm(h:JM)(a b:TypeId)(y:Value):yG P h a b (.v y)=JDz P a b (.v y):=rfl
theorem Jfn(h:JM)(a b:TypeId)(k:Own)(rows:List (List V)):yG P h a b (.list k rows)=if Yq P b then
   match P.underlying a with
   |some (.slice e)=>if Ga P e then(bytesOf rows).map λl=> .v (.string ⟨l.toArray⟩)else if Gf P e then(ZM rows).map λl=> .v (.string (runesBytes l))else none
   |_=>none
  else none:=rfl
theorem Jfo(h:JM)(a b:TypeId)(i o n:Nat):yG P h a b (.buf i o n)=if Yq P b then
   match P.underlying a,cellsOfOb h i with
   |some (.slice e),some cs=>if Ga P e&&decide (o+n≤cs.length)then(bytesOf (((cs.drop o).take n).map λx=>[x])).map λl=> .v (.string ⟨l.toArray⟩)else none
   |_,_=>none
  else none:=rfl
theorem Jfp(t:TypeId)(f b o:Nat):QD P t f (.ptr b o)=match JR P t f with
  |some (k,u)=>if 0<JD P u then some (V.ptr b (o+k))else none
  |none=>none:=by unfold QD;cases JR P t f<;>rfl
theorem Jfq(t:TypeId)(f:Nat)(cs:List V):QD P t f (.rp cs)=match JR P t f with
  |some (k,u)=>if 0<JD P u∧k<cs.length then some (V.rp (cs.drop k))else none
  |none=>none:=by unfold QD;cases JR P t f<;>rfl
theorem Jfr(t:TypeId)(f:Nat)(cs:List V):jR P t f (.agg cs)=match JR P t f with
  |some (k,u)=>KB P u (cs.drop k)
  |none=>none:=by unfold jR;cases JR P t f<;>rfl
theorem Jfs(t:TypeId)(k:Own)(rows:List (List V))(kk:IntKind)(n:Int):J5 P t (.list k rows) (.v (.int kk n))=match P.underlying t with
  |some (.slice e)=>if 0≤n then
    match rows[n.toNat]? with
    |some row=>if row.length=JD P e∧0<JD P e then some (V.rp row)else none
    |none=>none
   else none
  |_=>none:=by
 show(match V.list k rows,some n,P.underlying t with
  | .list _ rows,some n,some (.slice e)=>
   if 0≤n then
    match rows[n.toNat]? with
    |some row=>if row.length=JD P e∧0<JD P e then some (V.rp row)else none
    |none=>none
   else none
  | .buf b o m,some n,some (.slice e)=>if 0≤n∧n<m∧JD P e=1 then some (V.ptr b (o+n.toNat))else none
  | .stk b m sz,some n,some (.slice e)=>if 0≤n∧n<m∧JD P e=sz∧0<sz then some (V.ptr b (n.toNat*sz))else none
  | .ptr b o,some n,some (.array m e)=>if 0≤n∧n<m∧0<JD P e then some (V.ptr b (o+n.toNat*JD P e))else none
  | .rp cs,some n,some (.array m e)=>if 0≤n∧n<m∧0<JD P e∧n.toNat*JD P e<cs.length then some (.rp (cs.drop (n.toNat*JD P e)))else none
  |_,_,_=>none)=_
 cases P.underlying t with
 |none=>rfl
 |some d=>cases d<;>rfl
theorem Jft(t:TypeId)(b o m:Nat)(kk:IntKind)(n:Int):J5 P t (.buf b o m) (.v (.int kk n))=match P.underlying t with
  |some (.slice e)=>if 0≤n∧n<m∧JD P e=1 then some (V.ptr b (o+n.toNat))else none
  |_=>none:=by
 unfold J5
 cases P.underlying t with
 |none=>rfl
 |some d=>cases d<;>rfl
theorem Jfu(t:TypeId)(b m sz:Nat)(kk:IntKind)(n:Int):J5 P t (.stk b m sz) (.v (.int kk n))=match P.underlying t with
  |some (.slice e)=>if 0≤n∧n<m∧JD P e=sz∧0<sz then some (V.ptr b (n.toNat*sz))else none
  |_=>none:=by
 unfold J5
 cases P.underlying t with
 |none=>rfl
 |some d=>cases d<;>rfl
theorem Jfv(t:TypeId)(b o:Nat)(kk:IntKind)(n:Int):J5 P t (.ptr b o) (.v (.int kk n))=match P.underlying t with
  |some (.array m e)=>if 0≤n∧n<m∧0<JD P e then some (V.ptr b (o+n.toNat*JD P e))else none
  |_=>none:=by
 unfold J5
 cases P.underlying t with
 |none=>rfl
 |some d=>cases d<;>rfl
theorem Jfw(t:TypeId)(cs:List V)(kk:IntKind)(n:Int):J5 P t (.rp cs) (.v (.int kk n))=match P.underlying t with
  |some (.array m e)=>if 0≤n∧n<m∧0<JD P e∧n.toNat*JD P e<cs.length then some (.rp (cs.drop (n.toNat*JD P e)))else none
  |_=>none:=by
 unfold J5
 cases P.underlying t with
 |none=>rfl
 |some d=>cases d<;>rfl
theorem Jfx(t:TypeId)(b:ByteArray)(kk:IntKind)(n:Int)(hu:P.underlying t=some .string):WZ P t (.v (.string b)) (.v (.int kk n))=if 0≤n then(b.data[n.toNat]?).map λc=> .v (.int .u8 c.toNat)else none:=by unfold WZ;rw[hu];rfl
theorem Jfy(t:TypeId)(cs:List V)(kk:IntKind)(n:Int):WZ P t (.agg cs) (.v (.int kk n))=match P.underlying t with
  |some (.array m e)=>if 0≤n∧n<m then KB P e (cs.drop (n.toNat*JD P e))else none
  |_=>none:=by
 unfold WZ
 cases P.underlying t with
 |none=>rfl
 |some d=>cases d<;>rfl
theorem Jfz(i:Nat)(vs:List V):Zr i (.tup vs)=(vs[i]?).map cps:=rfl
theorem Jf0(e:TypeId)(k:Own)(rows:List (List V)):JAz (some (.slice e)) (.list k rows)=some (.v (.int .i64 rows.length)):=rfl
theorem Jf1(e:TypeId):JAz (some (.slice e)) .nil=some (.v (.int .i64 0)):=rfl
theorem Jf2(e:TypeId)(b o n:Nat):JAz (some (.slice e)) (.buf b o n)=some (.v (.int .i64 n)):=rfl
theorem Jf3(e:TypeId)(b n sz:Nat):JAz (some (.slice e)) (.stk b n sz)=some (.v (.int .i64 n)):=rfl
theorem Jf4(b:ByteArray):JAz (some .string) (.v (.string b))=some (.v (.int .i64 b.size)):=rfl
theorem Jf5(h:JM)(t:TypeId)(cs:List V):Wf P h t (.rp cs)=KB P t cs:=rfl
theorem Jf6(h:JM)(t:TypeId)(b o:Nat):Wf P h t (.ptr b o)=match cellsOfOb h b with
  |some cs=>match QQ P t with
   |some true=>KB P t (cs.drop o)
   |some false=>(cs[o]?).map (tagC b o)
   |none=>none
  |none=>none:=rfl
end ops
def pre(b c:Bool):Prop:=b=true→c=true
theorem JOB(b:Bool):pre b b=True:=eq_true λh=>h
theorem JQt{a x c:Bool}(h:pre a c):pre (a&&x) c=True:=eq_true λg=>h (by cases a<;>simp_all)
theorem J7{b c:Bool}(h:pre b c)(hb:b=true)(v:V):gV c v=v:=by rw[h hb];rfl
def GB(_:List V):Bool:=true
theorem JZw:GB []=true:=by unfold GB;rfl
theorem JZx(x:Value)(l:List V):GB (.v x::l)=GB l:=by unfold GB;rfl
theorem JZy(l:List V):GB (.nil::l)=GB l:=by unfold GB;rfl
theorem JZz(k:Own)(r:List (List V))(l:List V):GB (.list k r::l)=GB l:=by unfold GB;rfl
theorem JZ0(b o:Nat)(l:List V):GB (.ptr b o::l)=GB l:=by unfold GB;rfl
theorem JZ1(cs:List V)(l:List V):GB (.rp cs::l)=GB l:=by unfold GB;rfl
theorem JZ2(b o n:Nat)(l:List V):GB (.buf b o n::l)=GB l:=by unfold GB;rfl
theorem JZ3(b n sz:Nat)(l:List V):GB (.stk b n sz::l)=GB l:=by unfold GB;rfl
theorem JZ4(cs:List V)(l:List V):GB (.agg cs::l)=GB l:=by unfold GB;rfl
theorem JZ5(cs:List V)(l:List V):GB (.tup cs::l)=GB l:=by unfold GB;rfl
theorem JZ6(f:Nat)(cs:List V)(l:List V):GB (.fn f cs::l)=GB l:=by unfold GB;rfl
theorem JZ7(b:Bool)(x y:V)(l:List V):GB (pickC b x y::l)=GB l:=by unfold GB;rfl
theorem JZ8(p:Prop)[Decidable p](x y:V)(l:List V):GB ((if p then x else y)::l)=GB l:=by unfold GB;rfl
theorem JLg(call:Yr)(lo:Nat)(s:St)(f:Operand)(args:List V)(_:GB args=true):Qk call lo s f args=match opd s.1 f with
 | .fn f caps=>match call lo f (Q4 caps++(args.map fzs++Q5 caps)) s.2 with
  |some (r,h)=>some (r,(untagC s.1,h))
  |none=>none
 |_=>none:=by unfold Qk;rfl
section JOC
variable{b c:Bool}{s:St}{P:Program}(h:pre b c)
include h
theorem Jf7(v:V):WY b s (some (gV c v,s))=some (gV b v,s):=by
 cases hb:b with
 |true=>rw[J7 h hb];rfl
 |false=>rfl
theorem JLh(vars:List Nat)(t:Nat)(x:V):WY b s (KN s (Q9 vars t (gV c x)))=WY b s (KN s (Q9 vars t x)):=by
 cases hb:b with
 |true=>rw[J7 h hb]
 |false=>rfl
theorem JH8(vars:List Nat)(t:Nat)(x:V):gH b (Q9 vars t (gV c x))=gH b (Q9 vars t x):=by
 cases hb:b with
 |true=>rw[J7 h hb]
 |false=>rfl
theorem JOD(op:BinOp)(t:TypeId)(x y:V):WY b s (KN s (G0 P op t (gV c x) y))=WY b s (KN s (G0 P op t x y)):=by
 cases hb:b with
 |true=>rw[J7 h hb]
 |false=>rfl
theorem JLi(op:BinOp)(t:TypeId)(x y:V):gH b (G0 P op t (gV c x) y)=gH b (G0 P op t x y):=by
 cases hb:b with
 |true=>rw[J7 h hb]
 |false=>rfl
theorem JOG(op:BinOp)(t:TypeId)(x y:V):WY b s (KN s (G0 P op t x (gV c y)))=WY b s (KN s (G0 P op t x y)):=by
 cases hb:b with
 |true=>rw[J7 h hb]
 |false=>rfl
theorem JLj(op:BinOp)(t:TypeId)(x y:V):gH b (G0 P op t x (gV c y))=gH b (G0 P op t x y):=by
 cases hb:b with
 |true=>rw[J7 h hb]
 |false=>rfl
theorem JQu(op:UnOp)(x:V):WY b s (KN s (unV op (gV c x)))=WY b s (KN s (unV op x)):=by
 cases hb:b with
 |true=>rw[J7 h hb]
 |false=>rfl
theorem JOH(op:UnOp)(x:V):gH b (unV op (gV c x))=gH b (unV op x):=by
 cases hb:b with
 |true=>rw[J7 h hb]
 |false=>rfl
theorem JA0(x:V):WY b s (KN s (Q0 (gV c x)))=WY b s (KN s (Q0 x)):=by
 cases hb:b with
 |true=>rw[J7 h hb]
 |false=>rfl
theorem zh(x:V):gH b (Q0 (gV c x))=gH b (Q0 x):=by
 cases hb:b with
 |true=>rw[J7 h hb]
 |false=>rfl
theorem JLk(hp:JM)(t u:TypeId)(x:V):WY b s (KN s (yG P hp t u (gV c x)))=WY b s (KN s (yG P hp t u x)):=by
 cases hb:b with
 |true=>rw[J7 h hb]
 |false=>rfl
theorem JH9(hp:JM)(t u:TypeId)(x:V):gH b (yG P hp t u (gV c x))=gH b (yG P hp t u x):=by
 cases hb:b with
 |true=>rw[J7 h hb]
 |false=>rfl
theorem zi(t:TypeId)(f:Nat)(x:V):WY b s (KN s (QD P t f (gV c x)))=WY b s (KN s (QD P t f x)):=by
 cases hb:b with
 |true=>rw[J7 h hb]
 |false=>rfl
theorem yS(t:TypeId)(f:Nat)(x:V):gH b (QD P t f (gV c x))=gH b (QD P t f x):=by
 cases hb:b with
 |true=>rw[J7 h hb]
 |false=>rfl
theorem JJA(t:TypeId)(f:Nat)(x:V):WY b s (KN s (jR P t f (gV c x)))=WY b s (KN s (jR P t f x)):=by
 cases hb:b with
 |true=>rw[J7 h hb]
 |false=>rfl
theorem JGh(t:TypeId)(f:Nat)(x:V):gH b (jR P t f (gV c x))=gH b (jR P t f x):=by
 cases hb:b with
 |true=>rw[J7 h hb]
 |false=>rfl
theorem zj(t:TypeId)(x y:V):WY b s (KN s (J5 P t (gV c x) y))=WY b s (KN s (J5 P t x y)):=by
 cases hb:b with
 |true=>rw[J7 h hb]
 |false=>rfl
theorem yT(t:TypeId)(x y:V):gH b (J5 P t (gV c x) y)=gH b (J5 P t x y):=by
 cases hb:b with
 |true=>rw[J7 h hb]
 |false=>rfl
theorem zm(t:TypeId)(x y:V):WY b s (KN s (J5 P t x (gV c y)))=WY b s (KN s (J5 P t x y)):=by
 cases hb:b with
 |true=>rw[J7 h hb]
 |false=>rfl
theorem yU(t:TypeId)(x y:V):gH b (J5 P t x (gV c y))=gH b (J5 P t x y):=by
 cases hb:b with
 |true=>rw[J7 h hb]
 |false=>rfl
theorem JJB(t:TypeId)(x y:V):WY b s (KN s (WZ P t (gV c x) y))=WY b s (KN s (WZ P t x y)):=by
 cases hb:b with
 |true=>rw[J7 h hb]
 |false=>rfl
theorem JGi(t:TypeId)(x y:V):gH b (WZ P t (gV c x) y)=gH b (WZ P t x y):=by
 cases hb:b with
 |true=>rw[J7 h hb]
 |false=>rfl
theorem JJC(t:TypeId)(x y:V):WY b s (KN s (WZ P t x (gV c y)))=WY b s (KN s (WZ P t x y)):=by
 cases hb:b with
 |true=>rw[J7 h hb]
 |false=>rfl
theorem JGj(t:TypeId)(x y:V):gH b (WZ P t x (gV c y))=gH b (WZ P t x y):=by
 cases hb:b with
 |true=>rw[J7 h hb]
 |false=>rfl
theorem JDL(i:Nat)(x:V):WY b s (KN s (Zr i (gV c x)))=WY b s (KN s (Zr i x)):=by
 cases hb:b with
 |true=>rw[J7 h hb]
 |false=>rfl
theorem JA1(i:Nat)(x:V):gH b (Zr i (gV c x))=gH b (Zr i x):=by
 cases hb:b with
 |true=>rw[J7 h hb]
 |false=>rfl
theorem JOJ(u:Option TypeDesc)(x:V):WY b s (KN s (JAz u (gV c x)))=WY b s (KN s (JAz u x)):=by
 cases hb:b with
 |true=>rw[J7 h hb]
 |false=>rfl
theorem JLl(u:Option TypeDesc)(x:V):gH b (JAz u (gV c x))=gH b (JAz u x):=by
 cases hb:b with
 |true=>rw[J7 h hb]
 |false=>rfl
theorem JLm(hp:JM)(t:TypeId)(x:V):WY b s (KN s (Wf P hp t (gV c x)))=WY b s (KN s (Wf P hp t x)):=by
 cases hb:b with
 |true=>rw[J7 h hb]
 |false=>rfl
theorem JJD(hp:JM)(t:TypeId)(x:V):gH b (Wf P hp t (gV c x))=gH b (Wf P hp t x):=by
 cases hb:b with
 |true=>rw[J7 h hb]
 |false=>rfl
theorem JLn(x y z:V):WY b s (KN s (ZU (gV c x) y z))=WY b s (KN s (ZU x y z)):=by
 cases hb:b with
 |true=>rw[J7 h hb]
 |false=>rfl
theorem JJG(x y z:V):gH b (ZU (gV c x) y z)=gH b (ZU x y z):=by
 cases hb:b with
 |true=>rw[J7 h hb]
 |false=>rfl
theorem JLo(x y z:V):WY b s (KN s (ZU x (gV c y) z))=WY b s (KN s (ZU x y z)):=by
 cases hb:b with
 |true=>rw[J7 h hb]
 |false=>rfl
theorem JJH(x y z:V):gH b (ZU x (gV c y) z)=gH b (ZU x y z):=by
 cases hb:b with
 |true=>rw[J7 h hb]
 |false=>rfl
theorem JLp(x y z:V):WY b s (KN s (ZU x y (gV c z)))=WY b s (KN s (ZU x y z)):=by
 cases hb:b with
 |true=>rw[J7 h hb]
 |false=>rfl
theorem JJJ(x y z:V):gH b (ZU x y (gV c z))=gH b (ZU x y z):=by
 cases hb:b with
 |true=>rw[J7 h hb]
 |false=>rfl
theorem JOK(call:Yr)(lo:Nat)(s1:St)(f:Operand)(w:V)(l:List V):WY b s (Qk call lo s1 f (gV c w::l))=WY b s (Qk call lo s1 f (w::l)):=by
 cases hb:b with
 |true=>rw[J7 h hb]
 |false=>rfl
theorem JOL(call:Yr)(lo:Nat)(s1:St)(f:Operand)(x w:V)(l:List V):WY b s (Qk call lo s1 f (x::gV c w::l))=WY b s (Qk call lo s1 f (x::w::l)):=by
 cases hb:b with
 |true=>rw[J7 h hb]
 |false=>rfl
theorem JOM(call:Yr)(lo:Nat)(s1:St)(f:Operand)(x y w:V)(l:List V):WY b s (Qk call lo s1 f (x::y::gV c w::l))=WY b s (Qk call lo s1 f (x::y::w::l)):=by
 cases hb:b with
 |true=>rw[J7 h hb]
 |false=>rfl
theorem JON(call:Yr)(lo:Nat)(s1:St)(f:Operand)(x y z w:V)(l:List V):WY b s (Qk call lo s1 f (x::y::z::gV c w::l))=WY b s (Qk call lo s1 f (x::y::z::w::l)):=by
 cases hb:b with
 |true=>rw[J7 h hb]
 |false=>rfl
theorem JOO(call:Yr)(lo:Nat)(s1:St)(f:Operand)(x y z u w:V)(l:List V):WY b s (Qk call lo s1 f (x::y::z::u::gV c w::l))=WY b s (Qk call lo s1 f (x::y::z::u::w::l)):=by
 cases hb:b with
 |true=>rw[J7 h hb]
 |false=>rfl
end JOC
theorem Jf8{d c:Bool}(h:pre (d==true) c)(v q:V):pickC d (gV c v) q=pickC d v q:=by
 cases d with
 |true=>rw[J7 h (by rfl)]
 |false=>rfl
theorem Jf9{d c:Bool}(h:pre (d==false) c)(p v:V):pickC d p (gV c v)=pickC d p v:=by
 cases d with
 |true=>rfl
 |false=>rw[J7 h (by rfl)]
theorem JZ9{b d c:Bool}{s:St}(h:pre (b&&(d==true)) c)(v q:V):WY b s (some (pickC d (gV c v) q,s))=WY b s (some (pickC d v q,s)):=by
 cases hb:b with
 |false=>rfl
 |true=>
  cases hd:d with
  |false=>rfl
  |true=>rw[J7 h (by simp[hb,hd])]
theorem JaA{b d c:Bool}{s:St}(h:pre (b&&(d==false)) c)(p v:V):WY b s (some (pickC d p (gV c v),s))=WY b s (some (pickC d p v,s)):=by
 cases hb:b with
 |false=>rfl
 |true=>
  cases hd:d with
  |true=>rfl
  |false=>rw[J7 h (by simp[hb,hd])]
theorem JaB{b d c:Bool}(h:pre (b&&(d==true)) c)(v q:V):gH b (some (pickC d (gV c v) q))=gH b (some (pickC d v q)):=by
 cases hb:b with
 |false=>rfl
 |true=>
  cases hd:d with
  |false=>rfl
  |true=>rw[J7 h (by simp[hb,hd])]
theorem JaC{b d c:Bool}(h:pre (b&&(d==false)) c)(p v:V):gH b (some (pickC d p (gV c v)))=gH b (some (pickC d p v)):=by
 cases hb:b with
 |false=>rfl
 |true=>
  cases hd:d with
  |true=>rfl
  |false=>rw[J7 h (by simp[hb,hd])]
theorem JgA(x:Value):cp (.v x)= .v x:=rfl
theorem JgB:cp (.nil)= .nil:=rfl
theorem JaD(r:List (List V)):cp (.list .no r)= .list .no r:=rfl
theorem JgC(r:List (List V)):cp (.list .yes r)= .list .no r:=rfl
theorem JgD(b o:Nat)(r:List (List V)):cp (.list (.cell b o) r)= .list .no r:=rfl
theorem JgG(u:Nat)(r:List (List V)):cp (.list (.slot u) r)= .list .no r:=rfl
theorem JgH(b o:Nat):cp (.ptr b o)= .ptr b o:=rfl
theorem JgJ(cs:List V):cp (.rp cs)= .rp cs:=rfl
theorem JgK(b o n:Nat):cp (.buf b o n)= .buf b o n:=rfl
theorem JgL(b n sz:Nat):cp (.stk b n sz)= .stk b n sz:=rfl
theorem JgM(cs:List V):cp (.agg cs)= .agg cs:=rfl
theorem JgN(vs:List V):cp (.tup vs)= .tup vs:=rfl
theorem JgO(f:Nat)(cs:List V):cp (.fn f cs)= .fn f cs:=rfl
theorem JaG(x:Value):cps (.v x)= .v x:=rfl
theorem JaH:cps (.nil)= .nil:=rfl
theorem JTz(r:List (List V)):cps (.list .no r)= .list .no r:=rfl
theorem JaJ(r:List (List V)):cps (.list .yes r)= .list .no r:=rfl
theorem JaK(b o:Nat)(r:List (List V)):cps (.list (.cell b o) r)= .list .no r:=rfl
theorem JaL(u:Nat)(r:List (List V)):cps (.list (.slot u) r)= .list .no r:=rfl
theorem JaM(b o:Nat):cps (.ptr b o)= .ptr b o:=rfl
theorem JaN(cs:List V):cps (.rp cs)= .rp cs:=rfl
theorem JaO(b o n:Nat):cps (.buf b o n)= .buf b o n:=rfl
theorem JaP(b n sz:Nat):cps (.stk b n sz)= .stk b n sz:=rfl
theorem JaQ(cs:List V):cps (.agg cs)= .agg (cs.map cp):=rfl
theorem JaR(vs:List V):cps (.tup vs)= .tup vs:=rfl
theorem JaS(f:Nat)(cs:List V):cps (.fn f cs)= .fn f cs:=rfl
theorem JT0(x:Value):own1 (.v x)= .v x:=rfl
theorem JT1:own1 (.nil)= .list .yes []:=rfl
theorem JQv(r:List (List V)):own1 (.list .no r)= .list .no r:=rfl
theorem JT2(r:List (List V)):own1 (.list .yes r)= .list .yes r:=rfl
theorem JT3(b o:Nat)(r:List (List V)):own1 (.list (.cell b o) r)= .list (.cell b o) r:=rfl
theorem JT4(u:Nat)(r:List (List V)):own1 (.list (.slot u) r)= .list (.slot u) r:=rfl
theorem JT5(b o:Nat):own1 (.ptr b o)= .ptr b o:=rfl
theorem JT6(cs:List V):own1 (.rp cs)= .rp cs:=rfl
theorem JT7(b o n:Nat):own1 (.buf b o n)= .buf b o n:=rfl
theorem JT8(b n sz:Nat):own1 (.stk b n sz)= .stk b n sz:=rfl
theorem JT9(cs:List V):own1 (.agg cs)= .agg cs:=rfl
theorem JUA(vs:List V):own1 (.tup vs)= .tup vs:=rfl
theorem JUB(f:Nat)(cs:List V):own1 (.fn f cs)= .fn f cs:=rfl
theorem JQw(x:Value):Kd (.v x)= .v x:=rfl
theorem JQx:Kd (.nil)= .list .yes []:=rfl
theorem JOP(r:List (List V)):Kd (.list .no r)= .list .no r:=rfl
theorem JQy(r:List (List V)):Kd (.list .yes r)= .list .yes r:=rfl
theorem JQz(b o:Nat)(r:List (List V)):Kd (.list (.cell b o) r)= .list (.cell b o) r:=rfl
theorem JQ0(u:Nat)(r:List (List V)):Kd (.list (.slot u) r)= .list (.slot u) r:=rfl
theorem JQ1(b o:Nat):Kd (.ptr b o)= .ptr b o:=rfl
theorem JQ2(cs:List V):Kd (.rp cs)= .rp cs:=rfl
theorem JQ3(b o n:Nat):Kd (.buf b o n)= .buf b o n:=rfl
theorem JQ4(b n sz:Nat):Kd (.stk b n sz)= .stk b n sz:=rfl
theorem JQ5(cs:List V):Kd (.agg cs)= .agg (cs.map own1):=rfl
theorem JQ6(vs:List V):Kd (.tup vs)= .tup vs:=rfl
theorem JQ7(f:Nat)(cs:List V):Kd (.fn f cs)= .fn f cs:=rfl
theorem JgP(x:Value):fz (.v x)= .v x:=rfl
theorem JgQ:fz (.nil)= .list .no []:=rfl
theorem JaT(r:List (List V)):fz (.list .no r)= .list .no r:=rfl
theorem JgR(r:List (List V)):fz (.list .yes r)= .list .no r:=rfl
theorem JgS(b o:Nat)(r:List (List V)):fz (.list (.cell b o) r)= .list .no r:=rfl
theorem JgT(u:Nat)(r:List (List V)):fz (.list (.slot u) r)= .list .no r:=rfl
theorem JgU(b o:Nat):fz (.ptr b o)= .ptr b o:=rfl
theorem JgV(cs:List V):fz (.rp cs)= .rp cs:=rfl
theorem JgW(b o n:Nat):fz (.buf b o n)= .buf b o n:=rfl
theorem JgX(b n sz:Nat):fz (.stk b n sz)= .stk b n sz:=rfl
theorem JgY(cs:List V):fz (.agg cs)= .agg cs:=rfl
theorem JgZ(vs:List V):fz (.tup vs)= .tup vs:=rfl
theorem Jga(f:Nat)(cs:List V):fz (.fn f cs)= .fn f cs:=rfl
theorem JaU(x:Value):fzs (.v x)= .v x:=rfl
theorem JaV:fzs (.nil)= .list .no []:=rfl
theorem JUC(r:List (List V)):fzs (.list .no r)= .list .no r:=rfl
theorem JaW(r:List (List V)):fzs (.list .yes r)= .list .no r:=rfl
theorem JaX(b o:Nat)(r:List (List V)):fzs (.list (.cell b o) r)= .list .no r:=rfl
theorem JaY(u:Nat)(r:List (List V)):fzs (.list (.slot u) r)= .list .no r:=rfl
theorem JaZ(b o:Nat):fzs (.ptr b o)= .ptr b o:=rfl
theorem Jaa(cs:List V):fzs (.rp cs)= .rp cs:=rfl
theorem Jab(b o n:Nat):fzs (.buf b o n)= .buf b o n:=rfl
theorem Jac(b n sz:Nat):fzs (.stk b n sz)= .stk b n sz:=rfl
theorem Jad(cs:List V):fzs (.agg cs)= .agg (cs.map fz):=rfl
theorem Jae(vs:List V):fzs (.tup vs)= .tup vs:=rfl
theorem Jaf(f:Nat)(cs:List V):fzs (.fn f cs)= .fn f cs:=rfl
theorem JOQ(x:Value):Ji (.v x)= .v x:=rfl
theorem JOR:Ji (.nil)= .nil:=rfl
theorem JLq(r:List (List V)):Ji (.list .no r)= .list .no r:=rfl
theorem JOS(r:List (List V)):Ji (.list .yes r)= .list .yes r:=rfl
theorem JOT(b o:Nat)(r:List (List V)):Ji (.list (.cell b o) r)= .list .no r:=rfl
theorem JOU(u:Nat)(r:List (List V)):Ji (.list (.slot u) r)= .list .no r:=rfl
theorem JOV(b o:Nat):Ji (.ptr b o)= .ptr b o:=rfl
theorem JOW(cs:List V):Ji (.rp cs)= .rp cs:=rfl
theorem JOX(b o n:Nat):Ji (.buf b o n)= .buf b o n:=rfl
theorem JOY(b n sz:Nat):Ji (.stk b n sz)= .stk b n sz:=rfl
theorem JOZ(cs:List V):Ji (.agg cs)= .agg cs:=rfl
theorem JOa(vs:List V):Ji (.tup vs)= .tup vs:=rfl
theorem JOb(f:Nat)(cs:List V):Ji (.fn f cs)= .fn f cs:=rfl
theorem JLr(x:Value):Jy (.v x)= .v x:=rfl
theorem JLs:Jy (.nil)= .nil:=rfl
theorem JJK(r:List (List V)):Jy (.list .no r)= .list .no r:=rfl
theorem JLt(r:List (List V)):Jy (.list .yes r)= .list .yes r:=rfl
theorem JLu(b o:Nat)(r:List (List V)):Jy (.list (.cell b o) r)= .list .no r:=rfl
theorem JLv(u:Nat)(r:List (List V)):Jy (.list (.slot u) r)= .list (.slot u) r:=rfl
theorem JLw(b o:Nat):Jy (.ptr b o)= .ptr b o:=rfl
theorem JLx(cs:List V):Jy (.rp cs)= .rp cs:=rfl
theorem JLy(b o n:Nat):Jy (.buf b o n)= .buf b o n:=rfl
theorem JLz(b n sz:Nat):Jy (.stk b n sz)= .stk b n sz:=rfl
theorem JL0(cs:List V):Jy (.agg cs)= .agg cs:=rfl
theorem JL1(vs:List V):Jy (.tup vs)= .tup vs:=rfl
theorem JL2(f:Nat)(cs:List V):Jy (.fn f cs)= .fn f cs:=rfl
theorem JL3(b:Bool)(v:V):Jy (gV b v)=gV b (Jy v):=by cases b<;>rfl
theorem JOc(b:Bool)(v:V):Ji (gV b v)=gV b (Ji v):=by cases b<;>rfl
theorem Jgb(b:Bool)(v:V):fz (gV b v)=gV b (fz v):=by cases b<;>rfl
theorem Jag(b:Bool)(v:V):fzs (gV b v)=gV b (fzs v):=by cases b<;>rfl
theorem Jgc(b:Bool)(v:V):cp (gV b v)=gV b (cp v):=by cases b<;>rfl
theorem JKR(t u:Nat)(x:V):∀g:Jr,look (ins t x g) u=if t=u then x else look g u
 |[]=>by simp only[ins,look]
 |(k,y)::g=>by
  simp only[ins]
  split
  ·rfl
  ·split
   ·rename_i _ h
    subst h;simp only[look]
    split<;>rfl
   ·rename_i _ h
    simp only[look,JKR t u x g]
    split
    ·rename_i h2
     subst h2;rw[if_neg h]
    ·rfl
theorem JBk(t:Nat)(x:V):∀g:Jr,untag (ins t x g)=ins t (Ji x) (untag g)
 |[]=>rfl
 |(k,y)::g=>by
  simp only[ins]
  split
  ·rename_i h;simp only[untag,AZ,ins,if_pos h]
  ·rename_i h1
   split
   ·rename_i h;simp only[untag,AZ,ins,if_neg h1,if_pos h]
   ·rename_i h
    have:=JBk t x g;unfold untag at this⊢;simp only[AZ,ins,if_neg h1,if_neg h,this]
theorem JL4:untag []=[]:=rfl
theorem JJL(k:Nat)(x:V)(g:Jr):untag ((k,x)::g)=(k,Ji x)::untag g:=rfl
theorem JUD(b:Bool)(x y:V):cps (pickC b x y)=pickC b (cps x) (cps y):=by cases b<;>rfl
theorem zo(t:Nat)(x:V):∀g:Jr,untagC (ins t x g)=ins t (Jy x) (untagC g)
 |[]=>rfl
 |(k,y)::g=>by
  simp only[ins]
  split
  ·rename_i h;simp only[untagC,AZ,ins,if_pos h]
  ·rename_i h1
   split
   ·rename_i h;simp only[untagC,AZ,ins,if_neg h1,if_pos h]
   ·rename_i h
    have:=zo t x g;unfold untagC at this⊢;simp only[AZ,ins,if_neg h1,if_neg h,this]
theorem JJM:untagC []=[]:=rfl
theorem JGk(k:Nat)(x:V)(g:Jr):untagC ((k,x)::g)=(k,Jy x)::untagC g:=rfl
theorem JJN(b:Bool)(x y:V):Jy (pickC b x y)=pickC b (Jy x) (Jy y):=by cases b<;>rfl
theorem JL5(b:Bool)(x y:V):Ji (pickC b x y)=pickC b (Ji x) (Ji y):=by cases b<;>rfl
theorem JOd(i:Nat):kilE i []=[]:=rfl
theorem JL6(i k:Nat)(x:V)(g:Jr):kilE i ((k,x)::g)=(k,kil i x)::kilE i g:=rfl
theorem JGl(i t:Nat)(x:V):∀g:Jr,kilE i (ins t x g)=ins t (kil i x) (kilE i g)
 |[]=>rfl
 |(k,y)::g=>by
  simp only[ins]
  split
  ·rename_i h;simp only[kilE,AZ,ins,if_pos h]
  ·rename_i h1
   split
   ·rename_i h;simp only[kilE,AZ,ins,if_neg h1,if_pos h]
   ·rename_i h
    have:=JGl i t x g;unfold kilE at this⊢;simp only[AZ,ins,if_neg h1,if_neg h,this]
theorem JOe(h l:List Ob):(h++l).drop h.length=l:=List.drop_left
theorem JOf(h:List Ob):h.drop h.length=[]:=List.drop_length
theorem Jah(i:Nat)(x:Value):kil i (.v x)= .v x:=rfl
theorem Jai(i:Nat):kil i .nil= .nil:=rfl
theorem Jaj(i:Nat)(k:Own)(r:List (List V)):kil i (.list k r)= .list k r:=rfl
theorem Jak(i:Nat)(cs:List V):kil i (.rp cs)= .rp cs:=rfl
theorem Jal(i:Nat):kil i .undef= .undef:=rfl
theorem Jam(i b o:Nat):kil i (.ptr b o)=if decide (b≠i)=true then .ptr b o else .undef:=rfl
theorem Jan(i b o n:Nat):kil i (.buf b o n)=if decide (b≠i)=true then .buf b o n else .undef:=rfl
theorem Jao(i b n sz:Nat):kil i (.stk b n sz)=if decide (b≠i)=true then .stk b n sz else .undef:=rfl
theorem Jap(i:Nat)(cs:List V):kil i (.agg cs)=if cs.all (avf i)=true then .agg cs else .undef:=rfl
theorem Jaq(i f:Nat)(cs:List V):kil i (.fn f cs)=if cs.all (avc i)=true then .fn f cs else .undef:=rfl
theorem Jar(i:Nat)(cs:List V):kil i (.tup cs)=if cs.all (avv i)=true then .tup cs else .undef:=rfl
theorem Jas(i:Nat)(b:Bool)(v:V):kil i (gV b v)=gV b (kil i v):=by cases b<;>rfl
theorem rg0:A4 0=[]:=rfl
theorem rg1:A4 1=[0]:=rfl
theorem rg2:A4 2=[0,1]:=rfl
theorem rg3:A4 3=[0,1,2]:=rfl
theorem rg4:A4 4=[0,1,2,3]:=rfl
theorem rg5:A4 5=[0,1,2,3,4]:=rfl
theorem rg6:A4 6=[0,1,2,3,4,5]:=rfl
theorem rg7:A4 7=[0,1,2,3,4,5,6]:=rfl
theorem rg8:A4 8=[0,1,2,3,4,5,6,7]:=rfl
attribute [go_sem] List.mem_cons or_false false_or true_or or_true eq_self List.all_append rg0 rg1 rg2 rg3 rg4 rg5 rg6 rg7 rg8 Int.reduceLE Int.reduceLT Int.reduceToNat DO Nat.reduceLeDiff Nat.reduceMul true_and and_true Option.isSome_some CK C9 Value.oneCell'
attribute [go_sem] JKR JBk JL4 JJL JUD JL5 zo JJM JGk JJN JLr JLs JJK JLt JLu JLv JLw JLx JLy JL0 JL1 JL2 JL3 decide_true decide_false
attribute [go_sem high] Jf7 JZ9 JaA JaB JaC JZl JTu
attribute [go_sem low] JfD JZi Je6 w_b Je7
attribute [go_sem] JgA JgB JaD JgC JgD JgG JgH JgJ JgK JgM JgN JgO JaG JaH JTz JaJ JaK JaL JaM JaN JaO JaQ JaR JaS JT0 JT1 JQv JT2 JT3 JT4 JT5 JT6 JT7 JT9 JUA JUB JQw JQx JOP JQy JQz JQ0 JQ1 JQ2 JQ3 JQ5 JQ6 JQ7 JgP JgQ JaT JgR JgS JgT JgU JgV JgW JgY JgZ Jga JaU JaV JUC JaW JaX JaY JaZ Jaa Jab Jad Jae Jaf JOQ JOR JLq JOS JOT JOU JOV JOW JOX JOZ JOa JOb JOc Jgb Jag Jgc
attribute [go_sem] Q4 Q5 isU isRow ya List.isEmpty_cons Jeu Jev Zl Je2 Jfu Jf3 Jfa JZ3 JgL JaP JT8 JQ4 JgX Jac JOY JLz JOd JL6 JGl JOe JOf Jah Jai Jaj Jak Jal Jam Jan Jao Jap Jaq Jar Jas avc avf avv kilf JCu qA QH Ge Gj JK7 ZN JHT JTj y4 Kt okO Bn Ce List.flatten_cons List.flatten_nil
attribute [go_sem] JN4 JTS JTT JTU JTd JTe JTq
attribute [go_sem] JTk JZb Je3 JTl JTm m_v JTn JTo JZc JZd JZe JQl JTp JZf JTr JQm JZg JTs JTt JZh Je4 Je5 JSA JSB JZj JZk Je8 Je9 JfA JfB JfC JfG JZm JTP JQn JTw JQo JQp JQq JTx JZn JfH JZo JTy JfJ JfK JfL JfM JfN JZp JZs JZt JfO JfP JQr JQs JfQ JTv JfR JfS JfT JfU JfV JfW JfX JfY JfZ Jfb Jfc Jfd Jfe Jff JZu JZv Jfg Jfh Jfi Jfj Jfk Jfl Jfm Jfn Jfo Jfp Jfq Jfr Jfs Jft Jfv Jfw Jfx Jfy Jfz Jf0 Jf1 Jf2 Jf4 Jf5 Jf6 JOB JQt JLh JH8 JOD JLi JOG JLj JQu JOH JA0 zh JLk JH9 zi yS JJA JGh zj yT zm yU JJB JGi JJC JGj JDL JA1 JOJ JLl JLm JJD JLn JJG JLo JJH JLp JJJ JOK JOL JOM JON JOO Jf8 Jf9 JDz Ck Bool.or_true Bv Bool.or_false A2 Bool.and_false An Bool.true_beq Bool.false_beq JTD JN0 c_seq JTG JQZ JTH JTJ JQa JQb JYk JN1 JTK JTL JTM JTN JTO JQc JQd JQe JQf JTQ JTR Jg Jx Ki
 JTV JQg JQh JeY HG JCw JTW JeZ Jea JYl JTY JTX Jeb JYn JYo JYp Jec Jed yz JJ4 JQi Jeg Jeh Jei JYu JYv JYw JYx JYy JYz JY0 JY1 JY2 JY3 JY4 JY5 JY6 JY7 JY8 JY9 JZA JZB JZC JZD JZG JZH JZJ JZK JZL JZM JZN JZO JZP JTb JTa JYs JYt Jee Jef JQj Jej Jek Jel Jem Jen JZQ JN2 JeQ JeR JeS JeT JeU JeV JeW JeX JYq JYr y0 evLate1 Wz JZR Jeo Jep Jeq Jer Jes Jet List.contains_cons List.contains_nil JTc JZS JZT JZU JTf w_t w_f a_s a_0 JTg JTh JZW Jew Jex JZX JTi JZY JZZ Jey JZa Je0 Je1
 JYS JYT JYU JYV JYW JYX JeP JYY JYZ JYa JYb JYc JYd JYe JYf JYg JSz JS0 JS5 JS1 JS2 JS3 JS4 JYh JYi
 Yp Qj opd look put lives Ks KQ Jo ofC KV Ju idx ky KB tagC cellsV WP QR okc okv okr Gg fzr
 Zk Q6 Gh Hu JLg JZw JZx JZy JZz JZ0 JZ1 JZ2 JZ4 JZ5 JZ6 JZ7 JZ8 fin JBD Ke qD QJ setOb cellsOfOb bare je loops JK JB List.zipIdx Option.getD_some Aq List.append_nil AK JS6 JS7 JTC JNy JNz JTA JQY JTB JKJ JNw JNx JYj JS8 JS9 JQX List.set_cons_zero List.set_cons_succ List.take_length Dl List.append_assoc n0 bne_self_eq_false beq_self_eq_true AB AO
attribute [go_sem] Nat.reduceEqDiff Nat.reduceLT Nat.reduceAdd Nat.lt_irrefl reduceIte if_true if_false Option.some.injEq Nat.not_lt_zero Nat.reduceBEq
attribute [go_sem] AD Option.map_none Option.bind_some AZ List.map_nil DT B0 Dj List.drop_zero Lo Ce List.getElem?_cons_zero List.getElem?_cons_succ
 List.getElem?_toArray List.length_cons List.length_nil Int.toNat_natCast Al BK List.size_toArray and_self Bj C9 BR Au Int.natCast_nonneg
@[go_sem] theorem JSC(l:List Int):J3 (ri .i32 l)=false:=by cases l<;>rfl
@[go_sem] theorem JlG(r:List V)(l:List (List V)):J3 (r::l)=JCv r:=rfl
@[go_sem] theorem JlH:J3 []=false:=rfl
attribute [go_sem] yO jg Zj K6 byT JCv List.any_cons List.any_nil
end Go.Lift
end

section
namespace Go.Lift
theorem JOg(h l:List Ob)(k:Nat):(h++l).drop (h.length+k)=l.drop k:=by rw[List.drop_append,List.drop_of_length_le om,Aq,BD]
theorem JUG(h:List Ob)(a b c:Nat):decide (h.length+a<h.length+b+c)=decide (a<b+c):=by rw[decide_eq_decide];omega
theorem JUH(h:List Ob)(b c:Nat):decide (h.length<h.length+b+c)=decide (0<b+c):=by rw[decide_eq_decide];omega
theorem JOh(h l:List Ob)(a b:Nat):(h++l).take (h.length+a+b)=h++l.take (a+b):=by rw[Nat.add_assoc];exact JKJ h l (a+b)
theorem JL7:Ji .undef= .undef:=rfl
theorem JL8:Ji .any= .any:=rfl
theorem JJO:Jy .undef= .undef:=rfl
theorem JJP:Jy .any= .any:=rfl
attribute [go_sem] JL8 JJO JJP
theorem Jgd:((2:Nat) !=0)=true:=rfl
theorem Jge:((1:Nat) !=0)=true:=rfl
theorem Jgf:((0:Nat) !=0)=false:=rfl
attribute [go_sem] Jgd Jge Jgf
theorem JUJ:sw 0 4=4:=rfl
theorem JUK:sw 0 5=5:=rfl
theorem JUL:sw 0 6=6:=rfl
theorem JUM:sw 0 7=7:=rfl
theorem JUN:sw 0 8=8:=rfl
theorem JUO:sw 0 9=9:=rfl
theorem JUP:sw 1 3=3:=rfl
theorem JUQ:sw 1 4=4:=rfl
theorem JUR:sw 1 5=5:=rfl
theorem JUS:sw 1 6=6:=rfl
theorem JUT:sw 1 7=7:=rfl
theorem JUU:sw 1 8=8:=rfl
theorem JUV:sw 1 9=9:=rfl
theorem JUW:sw 2 4=4:=rfl
theorem JUX:sw 2 5=5:=rfl
theorem JUY:sw 2 6=6:=rfl
theorem JUZ:sw 2 7=7:=rfl
theorem JUa:sw 2 8=8:=rfl
theorem JUb:sw 2 9=9:=rfl
theorem JUc:sw 3 0=0:=rfl
theorem JUd:sw 3 1=1:=rfl
theorem JUe:sw 3 2=2:=rfl
theorem JUf:sw 3 3=4:=rfl
theorem JUg:sw 3 4=3:=rfl
theorem JUh:sw 3 5=5:=rfl
theorem JUi:sw 3 6=6:=rfl
theorem JUj:sw 3 7=7:=rfl
theorem JUk:sw 3 8=8:=rfl
theorem JUl:sw 3 9=9:=rfl
theorem JUm:sw 4 0=0:=rfl
theorem JUn:sw 4 1=1:=rfl
theorem JUo:sw 4 2=2:=rfl
theorem JUp:sw 4 3=3:=rfl
theorem JUq:sw 4 4=5:=rfl
theorem JUr:sw 4 5=4:=rfl
theorem JUs:sw 4 6=6:=rfl
theorem JUt:sw 4 7=7:=rfl
theorem JUu:sw 4 8=8:=rfl
theorem JUv:sw 4 9=9:=rfl
theorem JUw:sw 5 0=0:=rfl
theorem JUx:sw 5 1=1:=rfl
theorem JUy:sw 5 2=2:=rfl
theorem JUz:sw 5 3=3:=rfl
theorem JU0:sw 5 4=4:=rfl
theorem JU1:sw 5 5=6:=rfl
theorem JU2:sw 5 6=5:=rfl
theorem JU3:sw 5 7=7:=rfl
theorem JU4:sw 5 8=8:=rfl
theorem JU5:sw 5 9=9:=rfl
theorem JU6:sw 6 0=0:=rfl
theorem JU7:sw 6 1=1:=rfl
theorem JU8:sw 6 2=2:=rfl
theorem JU9:sw 6 3=3:=rfl
theorem JVA:sw 6 4=4:=rfl
theorem JVB:sw 6 5=5:=rfl
theorem JVC:sw 6 6=7:=rfl
theorem JVD:sw 6 7=6:=rfl
theorem JVG:sw 6 8=8:=rfl
theorem JVH:sw 6 9=9:=rfl
theorem JVJ:sw 7 0=0:=rfl
theorem JVK:sw 7 1=1:=rfl
theorem JVL:sw 7 2=2:=rfl
theorem JVM:sw 7 3=3:=rfl
theorem JVN:sw 7 4=4:=rfl
theorem JVO:sw 7 5=5:=rfl
theorem JVP:sw 7 6=6:=rfl
theorem JVQ:sw 7 7=8:=rfl
theorem JVR:sw 7 8=7:=rfl
theorem JVS:sw 7 9=9:=rfl
theorem Jat{α:Type}(a b c x y:α)(l:List α):qB 3 (a::b::c::x::y::l)=a::b::c::y::x::l:=rfl
theorem Jau{α:Type}(a b c d x y:α)(l:List α):qB 4 (a::b::c::d::x::y::l)=a::b::c::d::y::x::l:=rfl
theorem Jav{α:Type}(a b c d e x y:α)(l:List α):qB 5 (a::b::c::d::e::x::y::l)=a::b::c::d::e::y::x::l:=rfl
theorem Jaw{α:Type}(a b c d e f x y:α)(l:List α):qB 6 (a::b::c::d::e::f::x::y::l)=a::b::c::d::e::f::y::x::l:=rfl
theorem Jax{α:Type}(a b c d e f g x y:α)(l:List α):qB 7 (a::b::c::d::e::f::g::x::y::l)=a::b::c::d::e::f::g::y::x::l:=rfl
theorem JVT(j f:Nat)(cs:List V):swr j (.fn f cs)= .fn f (cs.map (swc j)):=rfl
theorem JVU(j f:Nat)(cs:List V):yy j (.fn f cs)= .fn f (cs.map (swc j)):=rfl
theorem Jay(j b n z:Nat):yy j (.stk b n z)= .stk (sw j b) n z:=rfl
theorem Jaz(j b n z:Nat):yy j (.buf b n z)= .buf (sw j b) n z:=rfl
theorem Ja0(j b o:Nat):swc j (.ptr b o)= .ptr (sw j b) o:=rfl
theorem JVV(j b n z:Nat):swc j (.stk b n z)= .stk (sw j b) n z:=rfl
theorem Ja1(j:Nat)(k:Own)(r:List (List V)):swc j (.list k r)= .list k r:=rfl
theorem Ja2(j:Nat)(x:Value):swc j (.v x)= .v x:=rfl
theorem JVW(j:Nat):swr j .any= .any:=rfl
theorem JVX(j:Nat)(cs:List V):swr j (.agg cs)= .agg (cs.map (yy j)):=rfl
attribute [go_sem] JUJ JUK JUL JUM JUN JUO JUP JUQ JUR JUS JUT JUU JUV JUW JUX JUY JUZ JUa JUb JUc JUd JUe JUf JUg JUh JUi JUj JUk JUl JUm JUn JUo JUp JUq JUr JUs JUt JUu JUv JUw JUx JUy JUz JU0 JU1 JU2 JU3 JU4 JU5 JU6 JU7 JU8 JU9 JVA JVB JVC JVD JVG JVH JVJ JVK JVL JVM JVN JVO JVP JVQ JVR JVS Jat Jau Jav Jaw Jax JVT JVU Jay Jaz Ja0 JVV Ja1 Ja2 JVW JVX BD CY
theorem JVY(h:List Ob)(a b c:Nat):(h.length+a+b<h.length+c)=(a+b<c):=by rw[eq_iff_iff];omega
theorem JVZ(h:List Ob)(k:Nat):decide (h.length+(k+1)≠h.length)=true:=by rw[decide_eq_true_iff];omega
theorem JVa(h:List Ob):decide (h.length≠h.length)=false:=by rw[decide_eq_false_iff_not];omega
theorem JVb(h:List Ob)(a b:Nat):decide (h.length+a≠h.length+b)=decide (a≠b):=by rw[decide_eq_decide];omega
theorem JVc(h:List Ob)(k:Nat):decide (h.length≠h.length+(k+1))=true:=by rw[decide_eq_true_iff];omega
theorem JVd(h:List Ob)(a b:Nat):decide (h.length+a<h.length+b)=decide (a<b):=by rw[decide_eq_decide];omega
theorem JVe(h:List Ob)(k:Nat):decide (h.length<h.length+(k+1))=true:=by rw[decide_eq_true_iff];omega
theorem JQ8(a:Nat):decide (a≠a)=false:=by simp
attribute [go_sem] JQ8
theorem JVf(h:List Ob)(k:Nat):(h.length+(k+1)=h.length)=False:=by rw[eq_iff_iff,iff_false];omega
theorem JVg(h:List Ob)(a b:Nat):(h.length+a<h.length+b)=(a<b):=by rw[eq_iff_iff];omega
theorem Jgg(n a b:Nat):sw n (n+a+b)=n+sw 0 (a+b):=by
 unfold sw
 repeat' split
 all_goals omega
theorem Jgh(n i a b:Nat):sw (n+i) (n+a+b)=n+sw i (a+b):=by
 unfold sw
 repeat' split
 all_goals omega
attribute [go_sem] JVg Jgg Jgh
attribute [go_sem] JVf
attribute [go_sem] JVY JVd JVe JVZ JVa JVb JVc
attribute [go_sem] Nat.le_add_right Ag Nat.add_le_add_iff_left
theorem JVh{a b:Nat}(h:(a==b)=false):(a≠b)=True:=by rw[eq_iff_iff,iff_true];intro e;rw[e,beq_self_eq_true]at h;cases h
attribute [go_sem] JVh D2 JL7
attribute [go_sem] JOg Nat.reduceSub JUG JUH JOh
end Go.Lift
end

section
namespace Go.Lift
variable{mx:Mix}{ops:Array Oper}{t a b:Tr}{n k:Nat}{top:Bool}{listed l':Array Bool}
theorem JVi(h:(Region.ready .any ops listed).isEmpty=true):Jh mx ops .fin 0 true listed=true:=by unfold Jh;rw[h];rfl
theorem Jw(hr:(Region.ready .any ops listed).contains k=true)(hf:jj mx ops listed k=true)(he:listed.setIfInBounds k true=l')(ht:Jh mx ops t n true l'=true):Jh mx ops (.head k t) (n+1) true listed=true:=by unfold Jh;rw[hr,hf,he];simp only[ht];rfl
theorem JOi(hr:(!(Region.ready .any ops listed).isEmpty&&(Region.ready .any ops listed).all (· ==k))=true)(he:listed.setIfInBounds k true=l')(ht:Jh mx ops t n true l'=true):Jh mx ops (.one k t) (n+1) true listed=true:=by unfold Jh;simp only[AB,A2];rw[hr,he,ht];rfl
theorem JQ(he:listed.setIfInBounds k true=l')(ht:Jh mx ops t n true l'=true):Jh mx ops (.one k t) (n+1) false listed=true:=by unfold Jh;rw[he];simp only[ht];rfl
theorem KG(hr:(!(Region.ready .any ops listed).isEmpty&&(Region.ready .any ops listed).all λk=>(a.firsts++b.firsts).contains k)=true)(ha:Jh mx ops a n false listed=true)(hb:Jh mx ops b n false listed=true):Jh mx ops (.alt a b) n true listed=true:=by unfold Jh;simp only[AB,A2];rw[hr,ha,hb];rfl
theorem Kf(ha:Jh mx ops a n false listed=true)(hb:Jh mx ops b n false listed=true):Jh mx ops (.alt a b) n false listed=true:=by unfold Jh;rw[ha,hb];rfl
def Kg(r:Nat)(P:Program)(h:Hint)(nt:Nat):Code->Bool
 | .region id ops draw=>ops.toList.all (JJ2 h nt)&&(!draw||id==r||Z6 P h id ops)
 | .seq a b=>Kg r P h nt a&&Kg r P h nt b
 | .cond _ a b=>Kg r P h nt a&&Kg r P h nt b
 | .block _ a=>Kg r P h nt a
 | .loop a=>Kg r P h nt a
 | .scope a=>Kg r P h nt a
 |_=>true
def Ql(r:Nat):Code->List (Array Oper)
 | .region id ops _=>if id==r then[ops]else[]
 | .seq a b=>Ql r a++Ql r b
 | .cond _ a b=>Ql r a++Ql r b
 | .block _ a=>Ql r a
 | .loop a=>Ql r a
 | .scope a=>Ql r a
 |_=>[]
theorem QV{r:Nat}{P:Program}{h:Hint}{nt:Nat}:∀{c:Code},Kg r P h nt c=true->(∀o∈Ql r c,Z6 P h r o=true)->codeOk P h nt c=true
 | .region id ops draw,h1,h2=>by
  unfold Kg at h1;unfold codeOk;simp only[Af,Bool.or_eq_true]at h1⊢;refine⟨h1.1,?_⟩
  rcases h1.2 with(h|h)|h
  ·exact .inl h
  ·obtain rfl:id=r:=by simpa using h
   exact .inr (h2 ops (by unfold Ql;rw[if_pos (by simp)];simp))
  ·exact .inr h
 | .seq a b,h1,h2=>by
  unfold Kg at h1;unfold codeOk;unfold Ql at h2;simp only[Af]at h1⊢
  exact⟨QV h1.1 λo ho=>h2 o (A5.2 (.inl ho)),QV h1.2 λo ho=>h2 o (A5.2 (.inr ho))⟩
 | .cond _ a b,h1,h2=>by
  unfold Kg at h1;unfold codeOk;unfold Ql at h2;simp only[Af]at h1⊢
  exact⟨QV h1.1 λo ho=>h2 o (A5.2 (.inl ho)),QV h1.2 λo ho=>h2 o (A5.2 (.inr ho))⟩
 | .block _ a,h1,h2=>by unfold Kg at h1;unfold codeOk;unfold Ql at h2;exact QV h1 h2
 | .loop a,h1,h2=>by unfold Kg at h1;unfold codeOk;unfold Ql at h2;exact QV h1 h2
 | .scope a,h1,h2=>by unfold Kg at h1;unfold codeOk;unfold Ql at h2;exact QV h1 h2
 | .exit _,_,_=>rfl
 | .ret,_,_=>rfl
 | .skip,_,_=>rfl
 | .rangeFunc ..,_,_=>rfl
 | .label ..,_,_=>rfl
 | .goto ..,_,_=>rfl
 | .refuse ..,_,_=>rfl
theorem JJQ{P:Program}{h:Hint}{id:Nat}{o:Array Oper}{mx:Mix}(hm:h.mix id=some mx)(hs:Region.noSelect o=true)(ht:Jh mx o mx.tree o.size true (Array.replicate o.size false)=true):Z6 P h id o=true:=by unfold Z6;rw[hm];simp only;rw[hs,ht];rfl
end Go.Lift
end

section
namespace Go.Lift
variable[GTab][BTy]
open Go.RowKit
section
variable{P:Program}{m:List Nat}{c:Cl}{w:World}{h:JM}
theorem JOj{w':World}{lo A n:Nat}{arr:Array Value}{e:TypeId}{f:Nat×Nat}(hH:HOK m c w h)(hlo:lo<=h.length)(hb:Below w.heap.size w w')(hA:w.heap.size<=A)(hw:w'.heap[A]? =some (.cells arr e f))(hn:n<=arr.size):
  HOK m (λb=>if b=A then n else c b) w' h/\Fr lo (hoOf m w h lo) w m c w' m (λb=>if b=A then n else c b)/\JBK lo (hoOf m w h lo) w m w' [] h zK:=by
 have hI:=Gt (vars:=[]) (args:=[]) (xs:= #[]) (nt:=0) (lo:=lo) hH R2.nil (by rfl) (Ag _) hlo
 have hI':=hI.grown (c':=λb=>if b=A then n else c b) (w':=w') none hb.size
  (λb hl _=>⟨hb.block b hl,if_neg om⟩) (λb hx=>by cases hx)
  (λb hl _ h0=>by
   have h0:0<(if b=A then n else c b):=h0
   by_cases hbA:b=A
   ·subst hbA
    exact⟨arr,e,f,hw,by show(if b=b then n else c b)<=_;rw[if_pos rfl];exact hn⟩
   ·rw[if_neg hbA,hI.core.c_zero hl]at h0;omega) hb.os hb.tape hb.output
 exact⟨hI'.hok,hI'.fr,hI'.owned⟩
theorem JJR{f lo:Nat}{args:List V}{xs:List Value}(hlo:lo<=h.length)(he:∀xs w,(callFunc f xs).run P w= .ok (.enter f xs) w)(hone:∀x∈xs,x.oneCell'=true)
  (hx:∀m c w (ys:Array Value),HOK m c w h->R2 (VRr m c w) args ys.toList->Calls P f ys w λe w'=>∃A cap arr ty fz,e= .returned (.slice (some ⟨A,0,none⟩) xs.length cap)/\w.heap.size<=A/\xs.length<=cap/\
   w'.heap[A]? =some (.cells arr ty fz)/\(∀(i:Nat) x,xs[i]? =some x->arr[i]? =some x)/\Below w.heap.size w w'):
  KR P lo f args h (.list .no (xs.map λx=>[.v x])) h:=
 CallOK0.ok ⟨rfl,he,λm c w ys hH ha=>⟨⟨rfl,rfl,Keeps.refl _ _⟩,(hx m c w ys hH ha).mono λe w' ⟨A,cap,arr,ty,fz,h1,h2,h3,h4,h5,hb⟩=>by
  have hn:xs.length<=arr.size:=by
   rcases Nat.eq_zero_or_pos xs.length with h0|h0
   ·omega
   ·have:=h5 (xs.length-1) (xs[xs.length-1]'om) (List.getElem?_eq_getElem om)
    have:=(Array.getElem?_eq_some_iff.1 this).1
    omega
  obtain⟨q1,q2,q3⟩:=JOj (lo:=lo) (n:=xs.length) hH hlo hb h2 h4 hn;refine⟨_,_,h1,?_,q1,q2,q3⟩
  have:=Gn (k:= .no) (c:=λb=>if b=A then xs.length else c b) (w:=w') (rows:=xs.map λx=>[.v x]) (b:=A) (cap:=cap) (sz:=1) h4 om
   (λrow hr=>by obtain⟨x,_,rfl⟩:=List.mem_map.1 hr;rfl) (by rw[Ao];exact h3) (by rw[Ao,if_pos rfl];omega)
   (λi j row v hi hj=>by
    rw[List.getElem?_map,Option.map_eq_some_iff]at hi
    obtain⟨x,hx,rfl⟩:=hi
    cases j with
    |zero=>cases hj;exact⟨x,by simpa using h5 i x hx,.v x (hone x (Ah hx))⟩
    |succ j=>simp at hj)
  rw[Ao]at this
  exact this⟩⟩
theorem JOk(hH:HOK m c w h):HOK [] c w []:=by
 have hn:∀{l r x},¬At [] w [] [] zK l r x:=λ{l r x} hl=>by
  cases l with
  |slot t=>exact absurd hl.1 (by simp[look])
  |cell i j=>obtain⟨cs,b,k1,_⟩:=hl;unfold cellsOfOb at k1;simp at k1
 have hl0:∀t:Nat,look [] t=V.undef:=λt=>rfl
 refine⟨⟨hH.1.wf1,λb hb=>(BK hb).elim,List.nodup_nil,rfl,λt=>?_,λi o b hi=>?_,λl r x hl=>absurd hl hn,λl l' r r' x x' b hl=>absurd hl hn,λt u r ht=>?_,λt i j r ht=>?_,hH.1.gt⟩,λi cs hi=>?_⟩
 ·rw[hl0];trivial
 ·simp at hi
 ·rw[hl0]at ht;cases ht
 ·rw[hl0]at ht;cases ht
 ·unfold cellsOfOb at hi;simp at hi
theorem JQ9(m:List Nat):Pre [] m:=λi b h=>by simp at h
theorem Ja3{f:Nat}{args:List V}{r:V}(hk:KR P 0 f args [] r [])(ha:args.all (okr 0)=true)(hr:okr 0 r=true)(lo:Nat)(h:JM)(hlo:lo<=h.length):KR P lo f args h r h:=
 CallOK0.ok ⟨hk.1,hk.2.1,λm c w ys hH hy=>⟨⟨rfl,rfl,Keeps.refl _ _⟩,by
  have hy':R2 (VRr [] c w) args ys.toList:=⟨hy.1,λi v x hv hx=>by
   have:=(hy.2 i v x hv hx).less (n:=0) (List.all_eq_true.1 ha v (Ah hv))
   simpa using this⟩
  refine(hk.2.2 [] c w ys (JOk hH) hy').2.mono λe w' ⟨x,c',m',h1,h2,h3,h4,_⟩=>?_
  have hI:=Gt (vars:=[]) (args:=[]) (xs:= #[]) (nt:=0) (lo:=lo) hH R2.nil (by rfl) (Ag _) hlo
  have hno:∀b,¬hoOf [] w [] 0 b:=λb ⟨i,j,r,z,_,hl,_⟩=>by obtain⟨cs,b',k1,_⟩:=hl;unfold cellsOfOb at k1;simp at k1
  have hI':=hI.grown (c':=c') (w':=w') none h4.size (λb hl _=>h4.fix b hl (λi _=>by simp) (hno b)) (λb hx=>by cases hx)
   (λb _ _ h0=>h3.1.wf1 b h0) h4.os h4.tape h4.output
  have hx:VRr [] c' w' r x:=by have:=h2.less (n:=0) hr;simpa using this
  exact⟨x,c',h1,hx.mono (JQ9 m) (Ext.refl c' w'),hI'.hok,hI'.fr,hI'.owned⟩⟩⟩
noncomputable def GC(l:List (List V×V))(lo:Nat)(args:List V)(h:JM):Option (V×JM):=
 match l with
 |[]=>none
 |(a,r)::l=>if Ht args a=true then some (r,h)else GC l lo args h
theorem GD{f:Nat}:∀{l:List (List V×V)},(∀p∈l,KR P 0 f p.1 [] p.2 [])->(l.all λp=>p.1.all (okr 0)&&okr 0 p.2)=true->∀lo args h r h',lo<=h.length->GC l lo args h=some (r,h')->KR P lo f args h r h'
 |[],_,_,lo,args,h,r,h',_,he=>by cases he
 |(a,q)::l,hl,hp,lo,args,h,r,h',hlo,he=>by
  simp only[Bj,Af]at hp;unfold GC at he
  split at he
  ·rename_i hv
   cases he;have e:args=a:=ZO _ _ hv;subst e;exact Ja3 (hl _ (List.mem_cons_self ..)) hp.1.1 hp.1.2 lo h hlo
  ·exact GD (λp hm=>hl p (List.mem_cons_of_mem _ hm)) hp.2 lo args h r h' hlo he
end
end Go.Lift
end

section
namespace Go.Lift
def flat:Code->List Code
 | .seq a b=>flat a++flat b
 |c=>[c]
variable[GTab][BTy]
section
variable(c:Cx)(lp:Yu)(s:St)
noncomputable def H0:List Code->St->Option (Ex×St)
 |[],s=>some (.normal,s)
 |a::l,s=>match evCode c lp a s with
  |some (.normal,s')=>H0 l s'
  |r=>r
noncomputable def JBl(l:List Code):Option (Ex×St)->Option (Ex×St)
 |some (.normal,s')=>H0 c lp l s'
 |r=>r
theorem Ja4:H0 c lp [] s=some (.normal,s):=rfl
theorem JDM(a:Code)(l:List Code):H0 c lp (a::l) s=JBl c lp l (evCode c lp a s):=by
 simp only[H0]
 cases evCode c lp a s with
 |none=>rfl
 |some p=>obtain⟨e,s'⟩:=p;cases e<;>rfl
theorem JRA(l:List Code):JBl c lp l (some (.normal,s))=H0 c lp l s:=rfl
theorem Jgi(l:List Code):JBl c lp l (some (.ret,s))=some (.ret,s):=rfl
theorem Jgj(l:List Code)(id:Nat):JBl c lp l (some (.exit id,s))=some (.exit id,s):=rfl
theorem Jgk(l:List Code):JBl c lp l none=none:=rfl
theorem l_app(m:List Code):∀(l:List Code) (s:St),H0 c lp (l++m) s=JBl c lp m (H0 c lp l s)
 |[],s=>rfl
 |a::l,s=>by
  rw[AK,JDM,JDM]
  cases evCode c lp a s with
  |none=>rfl
  |some p=>
   obtain⟨e,s'⟩:=p
   cases e with
   |normal=>rw[JRA,JRA];exact l_app m l s'
   |exit j=>rfl
   |ret=>rfl
theorem one_l(a:Code):H0 c lp [a] s=evCode c lp a s:=by
 rw[JDM]
 cases evCode c lp a s with
 |none=>rfl
 |some p=>obtain⟨e,s'⟩:=p;cases e<;>rfl
theorem JRB:∀(b:Code) (s:St),evCode c lp b s=H0 c lp (flat b) s:=by
 intro b
 induction b with
 |seq a b iha ihb=>
  intro s;rw[c_seq,flat,l_app,<-iha]
  cases evCode c lp a s with
  |none=>rfl
  |some p=>
   obtain⟨e,s'⟩:=p
   cases e with
   |normal=>rw[JN1,JRA];exact ihb s'
   |exit j=>rfl
   |ret=>rfl
 |_=>intro s;exact(one_l c lp s _).symm
def pc(b:Code)(i n:Nat):List Code:=((flat b).drop i).take n
noncomputable def JBm(b:Code)(i:Nat):Option (Ex×St)->Option (Ex×St)
 |some (.normal,s')=>H0 c lp ((flat b).drop i) s'
 |r=>r
theorem JOl(b:Code):evCode c lp b s=JBm c lp b 0 (some (.normal,s)):=by rw[JRB];rfl
theorem W0(b:Code)(i n:Nat):JBm c lp b i (some (.normal,s))=JBm c lp b (i+n) (H0 c lp (pc b i n) s):=by
 show H0 c lp ((flat b).drop i) s=_
 have e:(flat b).drop i=pc b i n++(flat b).drop (i+n):=by unfold pc;rw[<-List.drop_drop];exact(List.take_append_drop n _).symm
 rw[e,l_app];rfl
theorem Zs(b:Code)(i:Nat):JBm c lp b i (some (.ret,s))=some (.ret,s):=rfl
end
theorem Jgl(a b:Code):flat (.seq a b)=flat a++flat b:=rfl
theorem Jgm(id:Nat)(ops:Array Oper)(d:Bool):flat (.region id ops d)=[.region id ops d]:=rfl
theorem Jgn(x:Operand)(a b:Code):flat (.cond x a b)=[.cond x a b]:=rfl
theorem Jgo(id:Nat)(a:Code):flat (.block id a)=[.block id a]:=rfl
theorem Jgp(a:Code):flat (.loop a)=[.loop a]:=rfl
theorem Jgq(id:Nat):flat (.exit id)=[.exit id]:=rfl
theorem Jgr:flat .ret=[.ret]:=rfl
theorem Jgs:flat .skip=[.skip]:=rfl
theorem Jgt(a:Code):flat (.scope a)=[.scope a]:=rfl
theorem Jgu(l:List Code):l.drop 0=l:=rfl
attribute [go_sem] Ja4 JDM JRA Jgi Jgj Jgk pc Jgl Jgm Jgn Jgo Jgp Jgq Jgr Jgs Jgt Jgu Dj DT B0 Ce Lo
end Go.Lift
end
