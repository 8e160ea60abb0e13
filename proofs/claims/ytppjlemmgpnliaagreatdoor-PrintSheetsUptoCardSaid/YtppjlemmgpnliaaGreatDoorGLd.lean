/- The lifting: values, states, evaluation, and that it is sound. -/
import Derived.Test.YtppjlemmgpnliaaGreatDoorGLc
open Array renaming getD_eq_getD_getElem? ->BT,getElem?_append_left->BL,replicate->B8
open BitVec renaming ofInt->Au
open Bool renaming and_true->Cz,false_and->Aw,false_eq_true->Am,true_and->AB,true_or->B1
open Go.IntKind renaming bits->B6,i64->Aq,signed->BW,wrap->Ch
open Go.Value renaming bool->DI,int->AQ,string->D6
open Int renaming reducePow->Ld
open List renaming all_nil->Dm,cons_append->Al,drop_nil->DN,drop_succ_cons->Cd,getD_eq_getElem?_getD->BZ,getElem?_eq_getElem->Ac,getElem?_eq_none->Bv,map_cons->A3,nil_append->Ai,range->Bq,set_append->D5,take_length->BD,take_nil->My,take_of_length_le->B2,take_succ_cons->CN,take_zero->CP
open Nat renaming add_sub_cancel_left->BE,add_zero->BH,le_refl->Ab,reduceSub->LH,sub_self->Dn
open Option renaming getD_some->BJ,map_some->A6
set_option linter.unusedVariables false
set_option linter.unusedSimpArgs false
set_option linter.unusedSectionVars false
section
namespace Go.Lift
def YH(k:IntKind)(a b:Int):Int:=((Au k.bits a&&&Au k.bits b).toNat:Int)
def ior(k:IntKind)(a b:Int):Int:=((Au k.bits a|||Au k.bits b).toNat:Int)
def JdV(k:IntKind)(a b:Int):Int:=a*2^ (min b.toNat k.bits)
def JB4(k:IntKind)(a b:Int):Int:=a.fdiv (2^ (min b.toNat k.bits))
section bin
variable(k:IntKind)(a b:Int)
theorem JdW:QQ .add (.int k a) (.int k b)=some (.int k (k.wrap (a+b))):=by unfold QQ;exact if_pos rfl
theorem JdX:QQ .sub (.int k a) (.int k b)=some (.int k (k.wrap (a-b))):=by unfold QQ;exact if_pos rfl
theorem JdY:QQ .mul (.int k a) (.int k b)=some (.int k (k.wrap (a*b))):=by unfold QQ;exact if_pos rfl
theorem JdZ:QQ .quo (.int k a) (.int k b)=if b=0 then none else some (.int k (k.wrap (a.tdiv b))):=by unfold QQ;exact if_pos rfl
theorem Jda:QQ .rem (.int k a) (.int k b)=if b=0 then none else some (.int k (a.tmod b)):=by unfold QQ;exact if_pos rfl
theorem Jdb:QQ .and (.int k a) (.int k b)=some (.int k (k.wrap (YH k a b))):=by unfold QQ;exact if_pos rfl
theorem JjK:QQ .or (.int k a) (.int k b)=some (.int k (k.wrap (ior k a b))):=by unfold QQ;exact if_pos rfl
theorem Jdc:QQ .eql (.int k a) (.int k b)=some (.bool (a==b)):=by unfold QQ;exact if_pos rfl
theorem Jdd:QQ .neq (.int k a) (.int k b)=some (.bool (a !=b)):=by unfold QQ;exact if_pos rfl
theorem Jde:QQ .lss (.int k a) (.int k b)=some (.bool (decide (a<b))):=by unfold QQ;exact if_pos rfl
theorem Jdf:QQ .leq (.int k a) (.int k b)=some (.bool (decide (a≤b))):=by unfold QQ;exact if_pos rfl
theorem Jdg:QQ .gtr (.int k a) (.int k b)=some (.bool (decide (b<a))):=by unfold QQ;exact if_pos rfl
theorem Jdh:QQ .geq (.int k a) (.int k b)=some (.bool (decide (b≤a))):=by unfold QQ;exact if_pos rfl
theorem Jdi(k':IntKind):QQ .shl (.int k a) (.int k' b)=if 0≤b then some (.int k (k.wrap (JdV k a b)))else none:=by unfold QQ;rfl
theorem Jdj(k':IntKind):QQ .shr (.int k a) (.int k' b)=if 0≤b then some (.int k (JB4 k a b))else none:=by unfold QQ;rfl
theorem JYX(s t:ByteArray):QQ .add (.string s) (.string t)=if s.size+t.size≤9223372036854775807 then some (.string (s++t))else none:=by unfold QQ;rfl
theorem JYY(s t:ByteArray):QQ .eql (.string s) (.string t)=some (.bool (s.toList==t.toList)):=by unfold QQ;rfl
theorem JYZ(s t:ByteArray):QQ .neq (.string s) (.string t)=some (.bool (!(s.toList==t.toList))):=by unfold QQ;rfl
theorem Jdk:unS .neg (.int k a)=some (.int k (k.wrap (0-a))):=rfl
theorem Jdl(x:Bool):unS .not (.bool x)=some (.bool !x):=rfl
end bin
def JT:Code→List Code
 | .seq a b=>JT a++JT b
 | .cond _ a b=>JT a++JT b
 | .block _ a=>JT a
 | .loop a=>a::JT a
 | .scope a=>JT a
 |_=>[]
def JD(b:Code)(i:Nat):Code:=((JT b)[i]?).getD .skip
def JB(f:Func):Code:=f.body.getD .skip
theorem JN{n:Int}(h0: -9223372036854775808≤n)(h1:n≤9223372036854775807):Aq.wrap n=n:=by
 simp only[Ch,B6,BW,AB,LH,Ld]
 split<;>simp_all<;>omega
theorem wrap_i32{n:Int}(h0: -2147483648≤n)(h1:n≤2147483647):IntKind.i32.wrap n=n:=by
 simp only[Ch,B6,BW,AB,LH,Ld]
 split<;>simp_all<;>omega
theorem QC{n:Int}(h0:0≤n)(h1:n≤255):IntKind.u8.wrap n=n:=by simp only[Ch,B6,BW,Aw,Am,if_false,Ld];omega
theorem JH{i:Nat}(h:i≤1000000000000000000):Aq.wrap ((i:Int)+1)=((i+1:Nat):Int):=by rw[JN]<;>omega
theorem n0:((0:Nat):Int)=0:=rfl
def ri(k:IntKind)(l:List Int):List (List V):=l.map λn=>[.v (.int k n)]
theorem JQo(k:IntKind)(l:List Int):(ri k l).length=l.length:=by simp[ri]
theorem JYa(k:IntKind)(l:List Int)(i:Nat):(ri k l)[i]? =(l[i]?).map λn=>[V.v (.int k n)]:=by simp[ri]
theorem ri_app(k:IntKind)(l m:List Int):ri k l++ri k m=ri k (l++m):=by simp[ri]
theorem Q9(k:IntKind)(l:List Int)(n:Nat):(ri k l).drop n=ri k (l.drop n):=by simp[ri]
theorem WA(k:IntKind)(l:List Int):(ri k l).take l.length=ri k l:=by rw[←JQo k l,BD]
theorem Jdm(h l:List Ob)(x:Ob):(h++x::l)[h.length]? =some x:=by simp
theorem JYb(h l:List Ob)(k:Nat):(h++l)[h.length+k]? =l[k]? :=by rw[List.getElem?_append_right om];congr 1;omega
theorem JYc(h l:List Ob)(x y:Ob):(h++x::l).set h.length y=h++y::l:=by rw[D5,if_neg om,Dn]<;>rfl
theorem JUm(h l:List Ob)(k:Nat)(y:Ob):(h++l).set (h.length+k) y=h++l.set k y:=by rw[D5,if_neg om,BE]
theorem JYd(h l:List Ob):(h++l).length=h.length+l.length:=List.length_append
theorem JUn(x:Ob)(l:List Ob):(x::l).length=l.length+1:=rfl
theorem JYe:([]:List Ob).length=0:=rfl
theorem JNO(h l:List Ob)(k:Nat):(h++l).take (h.length+k)=h++l.take k:=by rw[List.take_append,B2 om,BE]
theorem JQp(x:Ob)(l:List Ob)(k:Nat):(x::l).take (k+1)=x::l.take k:=rfl
theorem Ko(k:IntKind):ri k []=[]:=rfl
theorem Zn(k:IntKind)(n:Int)(l:List Int):ri k (n::l)=[.v (.int k n)]::ri k l:=rfl
def Q1(l:List Int):List UInt8:=l.map λn=>UInt8.ofNat n.toNat
theorem Hs(l:List Int):bytesOf (ri .u8 l)=some (Q1 l):=by
 induction l with
 |nil=>rfl
 |cons n l ih=>rw[Zn];unfold bytesOf;rw[ih]<;>rfl
theorem JYf(k:IntKind)(l:List Int):((ri k l).all λx=>x.length==1)=true:=by simp[ri]
variable[GTab][BTy]
section step
variable(c:Cx)(lp:Yc)(s:St)
noncomputable def JAW(b:Code):Option (Ex×St)→Option (Ex×St)
 |some (.normal,s')=>evCode c lp b s'
 |r=>r
noncomputable def JJx(a:Code):Option (Nat×Array Oper×Nat×Array Oper)→Option (Ex×St)
 |some (k,ops,id',ops')=>(YR c k ops id' ops' s).map λs'=>(Ex.normal,s')
 |none=>evCode c lp a s
noncomputable def JGA(a b:Code):V→Option (Ex×St)
 | .v (.bool t)=>if t then evCode c lp a s else evCode c lp b s
 | .any=>qo (JJx c lp s a (Z3 c.P c.hint a)) (evCode c lp b s)
 |_=>none
def Ht(id:Nat):Option (Ex×St)→Option (Ex×St)
 |some (.exit j,s')=>if j=id then some (.normal,s')else some (.exit j,s')
 |r=>r
def JNP:Option St→Option (Ex×St)
 |some s=>some (.normal,s)
 |none=>none
theorem JQq:evCode c lp .skip s=some (.normal,s):=rfl
theorem JQr(id:Nat)(ops:Array Oper)(draw:Bool):evCode c lp (.region id ops draw) s=JNP (Kj c id ops draw s):=by simp only[evCode];cases Kj c id ops draw s<;>rfl
theorem c_seq(a b:Code):evCode c lp (.seq a b) s=JAW c lp b (evCode c lp a s):=by
 simp only[evCode]
 cases h:evCode c lp a s with
 |none=>rfl
 |some p=>obtain⟨e,s'⟩:=p;cases e<;>rfl
theorem JQs(x:Operand)(a b:Code):evCode c lp (.cond x a b) s=JGA c lp s a b (opd s.1 x):=by
 simp only[evCode]
 cases opd s.1 x with
 |any=>simp only[JGA];congr 1
 |v x=>cases x<;>rfl
 |_=>rfl
theorem JHQ(id:Nat)(a:Code):evCode c lp (.block id a) s=Ht id (evCode c lp a s):=by
 simp only[evCode]
 cases h:evCode c lp a s with
 |none=>rfl
 |some p=>obtain⟨e,s'⟩:=p;cases e<;>rfl
theorem JYg(a:Code):evCode c lp (.loop a) s=lp (evCode c lp a) s:=rfl
theorem JYh(id:Nat):evCode c lp (.exit id) s=some (.exit id,s):=rfl
theorem JUo(a:Code):evCode c lp (.scope a) s=evCode c lp a s:=rfl
theorem JUp(l:Nat):evCode c lp (.label l) s=some (.normal,s):=rfl
theorem Jdn:evCode c lp .ret s=some (.ret,s):=rfl
theorem JL0(b:Code):JAW c lp b (some (.normal,s))=evCode c lp b s:=rfl
theorem JYi(b:Code)(id:Nat):JAW c lp b (some (.exit id,s))=some (.exit id,s):=rfl
theorem JYj(b:Code):JAW c lp b (some (.ret,s))=some (.ret,s):=rfl
theorem JYk(b:Code):JAW c lp b none=none:=rfl
theorem JYl(a b:Code):JGA c lp s a b (.v (.bool true))=evCode c lp a s:=rfl
theorem JYm(a b:Code):JGA c lp s a b (.v (.bool false))=evCode c lp b s:=rfl
theorem JQt(a b:Code):JGA c lp s a b .any=qo (JJx c lp s a (Z3 c.P c.hint a)) (evCode c lp b s):=rfl
def JXj(k:Nat)(ops:Array Oper)(id':Nat)(ops':Array Oper):Option Nat→Option Mix→Option (Nat×Array Oper×Nat×Array Oper)
 |some _,none=>some (k,ops,id',ops')
 |_,_=>none
theorem JjL{P:Program}{hint:Hint}(id id':Nat)(ops ops':Array Oper):Z3 P hint (.seq (.region id ops true) (.region id' ops' false))=JXj (Jn P hint id ops) ops id' ops' (hint.late id) (hint.mix id):=by simp only[Z3];cases hint.late id<;>cases hint.mix id<;>rfl
theorem JjM(k x:Nat)(ops:Array Oper)(id':Nat)(ops':Array Oper):JXj k ops id' ops' (some x) none=some (k,ops,id',ops'):=rfl
theorem JjN{P:Program}{hint:Hint}(id:Nat)(ops:Array Oper)(d:Bool):Z3 P hint (.region id ops d)=none:=rfl
theorem JjO(a:Code):JJx c lp s a none=evCode c lp a s:=rfl
noncomputable def JQu(k:Nat)(ops:Array Oper)(id':Nat)(ops':Array Oper):Option St→Option St
 |some s1=>evLate1 c.P c.lo c.base (c.hint.live id') (c.hint.keep id') k ops ops' s1
 |none=>none
theorem JjP(a:Code)(k id':Nat)(ops ops':Array Oper):JJx c lp s a (some (k,ops,id',ops'))=JNP (JQu c k ops id' ops' (Ju c ops (ops.toList.take k) s)):=by
 simp only[JJx,YR]
 cases Ju c ops (ops.toList.take k) s with
 |none=>rfl
 |some s1=>simp only[JQu];cases evLate1 c.P c.lo c.base (c.hint.live id') (c.hint.keep id') k ops ops' s1<;>rfl
theorem JjQ(k id':Nat)(ops ops':Array Oper):JQu c k ops id' ops' (some s)=evLate1 c.P c.lo c.base (c.hint.live id') (c.hint.keep id') k ops ops' s:=rfl
theorem JQv(a b:Code)(t:Bool):JGA c lp s a b (.v (.bool t))=if t=true then evCode c lp a s else evCode c lp b s:=rfl
theorem JUq(id:Nat):Ht id (some (.normal,s))=some (.normal,s):=rfl
theorem JUr(id j:Nat):Ht id (some (.exit j,s))=if j=id then some (.normal,s)else some (.exit j,s):=rfl
theorem JUs(id:Nat):Ht id (some (.ret,s))=some (.ret,s):=rfl
theorem JUt(id:Nat):Ht id none=none:=rfl
theorem JYn:JNP (some s)=some (.normal,s):=rfl
theorem JYo:JNP none=none:=rfl
def JNQ(lp:Yc)(f:St→Option (Ex×St)):Option (Ex×St)→Option (Ex×St)
 |some (.normal,s')=>lp f s'
 |r=>r
theorem loop_eq(f:St→Option (Ex×St)):JA f s=JNQ JA f (f s):=by
 rw[JQl]
 cases h:f s with
 |none=>rfl
 |some p=>obtain⟨e,s'⟩:=p;cases e<;>rfl
theorem JK(lp:Yc)(f:St→Option (Ex×St)):JNQ lp f (some (.normal,s))=lp f s:=rfl
theorem Kv(lp:Yc)(f:St→Option (Ex×St))(id:Nat):JNQ lp f (some (.exit id,s))=some (.exit id,s):=rfl
theorem QY(lp:Yc)(f:St→Option (Ex×St)):JNQ lp f (some (.ret,s))=some (.ret,s):=rfl
noncomputable def JYp(id:Nat):Option St→Option St
 |some s'=>Wk c.base (c.hint.keep id) (untag (lives (c.hint.live id) s'.1),s'.2)
 |none=>none
theorem JQw(m:Option Mix)(k:Option Nat):once m false k=k:=by cases k<;>rfl
theorem JYq(m:Option Mix)(d:Bool):once m d none=none:=rfl
theorem JYr(mx:Mix)(n:Nat):once (some mx) true (some n)=if(decide (1000≤n)&&decide (n<2000))=true then none else some n:=rfl
noncomputable def JUu(id:Nat)(k:Option Nat):Option St→Option St
 |some s'=>Wk c.base k (untag (lives (c.hint.live id) s'.1),s'.2)
 |none=>none
theorem JYs(id:Nat)(ops:Array Oper):Kj c id ops false s=JYp c id (kD c ops s (c.hint.tail id)):=by unfold Kj;simp only[Am,if_false,JQw];cases kD c ops s (c.hint.tail id)<;>rfl
theorem JUv(ops:Array Oper):kD c ops s none=KQ c ops ops.toList s:=rfl
noncomputable def JNR(ops:Array Oper)(l:List Oper):Option St→Option St
 |some s'=>KQ c ops l s'
 |none=>none
noncomputable def JNS(id:Nat)(ops:Array Oper):Option Mix→Option St
 |some mx=>GK c mx id ops mx.tree s
 |none=>JNR c ops (ops.toList.drop (Jn c.P c.hint id ops)) (Ju c ops (ops.toList.take (Jn c.P c.hint id ops)) s)
theorem JYt(id:Nat)(ops:Array Oper):Kj c id ops true s=JUu c id (once (c.hint.mix id) true (c.hint.keep id)) (JNS c s id ops (c.hint.mix id)):=by
 unfold Kj;simp only[if_true];unfold YQ JNS
 cases c.hint.mix id with
 |some mx=>cases hq:GK c mx id ops mx.tree s<;>simp only[hq,JUu]
 |none=>
 simp only;unfold Gg
 cases Ju c ops (ops.toList.take (Jn c.P c.hint id ops)) s with
 |none=>rfl
 |some s'=>simp only[JNR];cases KQ c ops (ops.toList.drop (Jn c.P c.hint id ops)) s'<;>rfl
theorem JjR(id:Nat)(ops:Array Oper):JNS c s id ops none=JNR c ops (ops.toList.drop (Jn c.P c.hint id ops)) (Ju c ops (ops.toList.take (Jn c.P c.hint id ops)) s):=rfl
theorem JjS(id:Nat)(ops:Array Oper)(hd tk:List Nat)(T:Tr):JNS c s id ops (some ⟨hd,tk,T⟩)=GK c ⟨hd,tk,T⟩ id ops T s:=rfl
theorem Jdo(mx:Mix)(id:Nat)(ops:Array Oper):GK c mx id ops .fin s=Wk c.base (c.hint.keep id) (untag (lives (c.hint.live id) s.1),s.2):=rfl
def Jdp(base:Nat)(k:Option Nat):Option St→Option St
 |some s=>Wk base k s
 |none=>none
theorem JjT(base:Nat)(k:Option Nat)(s:St):Jdp base k (some s)=Wk base k s:=rfl
def JjU(base:Nat)(l:List Nat):Option St→Option St
 |some s=>JJQ base l s
 |none=>none
theorem Jdq(base:Nat)(l:List Nat)(s:St):JjU base l (some s)=JJQ base l s:=rfl
theorem Jdr(base:Nat)(s:St):JJQ base [] s=some s:=rfl
theorem JjV(base:Nat):Wk base none s=some s:=rfl
theorem JjW(base n:Nat):Wk base (some n) s=if n<1000 then JBa base n s else if n<2000 then JBa base ((s.2.drop base).length-(n-1000)) s else JNB base s (look s.1 (n-2000)):=rfl
noncomputable def JYu(id:Nat):Option St→Option St
 |some s1=>Wk c.base (c.hint.keep id) (untag (lives (c.hint.live id) s1.1),s1.2)
 |none=>none
theorem Jds(mx:Mix)(id:Nat)(ops:Array Oper)(k:Nat):GK c mx id ops (.two k) s=JYu c id (JBb c.P c.lo c.base k ops s):=by simp only[GK];unfold JYu;cases JBb c.P c.lo c.base k ops s<;>rfl
theorem Jdt(id:Nat):JYu c id (some s)=Wk c.base (c.hint.keep id) (untag (lives (c.hint.live id) s.1),s.2):=rfl
noncomputable def JGB(mx:Mix)(id:Nat)(ops:Array Oper)(T:Tr):Option St→Option St
 |some s1=>GK c mx id ops T s1
 |none=>none
theorem JYv(mx:Mix)(id:Nat)(ops:Array Oper)(k:Nat)(T:Tr):GK c mx id ops (.head k T) s=JGB c mx id ops T (QV c mx ops k s):=by simp only[GK];unfold JGB;cases QV c mx ops k s<;>rfl
theorem Jdu(mx:Mix)(id:Nat)(ops:Array Oper)(k:Nat)(T:Tr):GK c mx id ops (.one k T) s=JGB c mx id ops T (QV c mx ops k s):=by simp only[GK];unfold JGB;cases QV c mx ops k s<;>rfl
theorem Jdv(mx:Mix)(id:Nat)(ops:Array Oper)(a b:Tr):GK c mx id ops (.alt a b) s=jp (GK c mx id ops a s) (GK c mx id ops b s):=rfl
theorem JjX(mx:Mix)(id:Nat)(ops:Array Oper)(T:Tr):JGB c mx id ops T (some s)=GK c mx id ops T s:=rfl
theorem JjY(mx:Mix)(id:Nat)(ops:Array Oper)(T:Tr):JGB c mx id ops T none=none:=rfl
theorem Jdw:sw 0 0=1:=rfl
theorem Jdx:sw 0 1=0:=rfl
theorem Jdy:sw 0 2=2:=rfl
theorem Jdz:sw 0 3=3:=rfl
theorem Jd0:sw 1 0=0:=rfl
theorem Jd1:sw 1 1=2:=rfl
theorem Jd2:sw 1 2=1:=rfl
theorem Jd3:sw 2 0=0:=rfl
theorem Jd4:sw 2 1=1:=rfl
theorem Jd5:sw 2 2=3:=rfl
theorem Jd6:sw 2 3=2:=rfl
theorem Jd7(j:Nat):swE j []=[]:=rfl
theorem Jd8(j k:Nat)(v:V)(g:Jj):swE j ((k,v)::g)=(k,swr j v)::swE j g:=rfl
theorem Jd9(j b o:Nat):swr j (.ptr b o)= .ptr (sw j b) o:=rfl
theorem JeA(j:Nat)(x:Value):swr j (.v x)= .v x:=rfl
theorem JeB(j:Nat)(k:Own)(r:List (List V)):swr j (.list k r)= .list k r:=rfl
theorem JeC(j:Nat):swr j .undef= .undef:=rfl
theorem JeD(j:Nat):swr j .nil= .nil:=rfl
theorem JeG(j:Nat)(cs:List V):swr j (.rp cs)= .rp cs:=rfl
theorem JeH(j b o n:Nat):swr j (.buf b o n)= .buf (sw j b) o n:=rfl
theorem JeJ(j b n z:Nat):swr j (.stk b n z)= .stk (sw j b) n z:=rfl
theorem JeK(j b o:Nat):swf j (.ptr b o)= .ptr (sw j b) o:=rfl
theorem JeL(j:Nat)(x:Value):swf j (.v x)= .v x:=rfl
theorem JeM(j:Nat)(k:Own)(r:List (List V)):swf j (.list k r)= .list k r:=rfl
theorem JeN(j:Nat):swf j .nil= .nil:=rfl
theorem JeO(j:Nat)(cs:List V):swO j (.cells cs)= .cells (cs.map (swf j)):=rfl
theorem JeP{α:Type}(x y:α)(l:List α):zA 0 (x::y::l)=y::x::l:=rfl
theorem JeQ{α:Type}(u x y:α)(l:List α):zA 1 (u::x::y::l)=u::y::x::l:=rfl
theorem JeR{α:Type}(t u x y:α)(l:List α):zA 2 (t::u::x::y::l)=t::u::y::x::l:=rfl
theorem JYw(base i:Nat)(g:Jj)(h:JC):swS base i (g,h)=if base+i+1<h.length then some (swE (base+i) g,h.take base++zA i ((h.drop base).map (swO (base+i))))else none:=rfl
theorem JQx(v:V):JBY v v=v:=by simp[JBY,JBW]
theorem JQy:∀g:Jj,YC g g=some g
 |[]=>rfl
 |(k,v)::g=>by simp only[YC,if_true,JQx,JQy g,A6]
theorem JUw(x:Option St):jp x x=x:=by
 cases x with
 |none=>rfl
 |some s=>simp only[jp,qk,if_true,JQy,A6]
theorem JjZ(g q:Jj)(h:JC):jp (some (g,h)) (some (q,h))=(YC g q).map λr=>(r,h):=by simp only[jp,qk,if_true]
theorem Jja:YC [] []=some []:=rfl
theorem Jjb(k:Nat)(v:V)(r q:Jj):YC ((k,v)::r) ((k,v)::q)=(YC r q).map ((k,v):: ·):=by simp only[YC,if_true,JQx]
theorem Jjc(k:Nat)(r q:Jj):YC ((k,.v (.bool false))::r) ((k,.v (.bool true))::q)=(YC r q).map ((k,.any):: ·):=by simp[YC,JBY,qm,qj,Zi]
theorem JeS(x:Option (Ex×St)):qo x x=x:=by unfold qo;rw[if_pos (JDn x)]
noncomputable def JJy(mx:Mix)(ops:Array Oper)(o:Oper):Bool→Bool→Option St
 |true,_=>Ju c ops [o] s
 |false,true=>if o.guard.isNone&& !WP c.P o.op then JG1 c s o else none
 |false,false=>KQ c ops [o] s
noncomputable def JQz(hd tk:List Nat)(T:Tr)(ops:Array Oper)(k:Nat):Option Oper→Option St
 |none=>none
 |some o=>JJy c s ⟨hd,tk,T⟩ ops o (hd.contains k) (tk.contains k)
theorem JeT{hd tk:List Nat}{T:Tr}{ops:Array Oper}{k:Nat}:QV c ⟨hd,tk,T⟩ ops k s=JQz c s hd tk T ops k (ops[k]?):=by
 unfold QV JQz
 cases ops[k]? with
 |none=>rfl
 |some o=>
 simp only;cases hd.contains k<;>cases tk.contains k<;>simp[JJy]
theorem Jjd(hd tk:List Nat)(T:Tr)(ops:Array Oper)(k:Nat)(o:Oper):JQz c s hd tk T ops k (some o)=JJy c s ⟨hd,tk,T⟩ ops o (hd.contains k) (tk.contains k):=rfl
theorem Jje(mx:Mix)(ops:Array Oper)(o:Oper)(b:Bool):JJy c s mx ops o true b=Ju c ops [o] s:=rfl
theorem Jjf(mx:Mix)(ops:Array Oper)(o:Oper):JJy c s mx ops o false false=KQ c ops [o] s:=rfl
noncomputable def JQ0(d:Nat):Option V→Option St
 |some v=>match GG c.lo (ins d v s.1,s.2) (.tmp d)with
  |some (r,g,h)=>some (ins d (.list .yes r) (untag g),h)
  |none=>none
 |none=>none
noncomputable def JeU(d:Nat)(v:Option V):Bool→Option St
 |false=>JQ0 c s d v
 |true=>none
theorem Jjg(d:Nat)(v:Option V):JeU c s d v false=JQ0 c s d v:=rfl
theorem Jjh(d:Nat)(v:V):JQ0 c s d (some v)=match GG c.lo (ins d v s.1,s.2) (.tmp d)with
  |some (r,g,h)=>some (ins d (.list .yes r) (untag g),h)
  |none=>none:=rfl
theorem JYx(ops:Array Oper)(l:List Oper):JNR c ops l (some s)=KQ c ops l s:=rfl
theorem JeV(id:Nat):JYp c id (some s)=Wk c.base (c.hint.keep id) (untag (lives (c.hint.live id) s.1),s.2):=rfl
theorem JeW(id:Nat):JYp c id none=none:=rfl
theorem JYy(id:Nat)(k:Option Nat):JUu c id k (some s)=Wk c.base k (untag (lives (c.hint.live id) s.1),s.2):=rfl
theorem JYz(id:Nat)(k:Option Nat):JUu c id k none=none:=rfl
def JOt(ops:Array Oper)(d:Option Nat)(l:List Oper):Option (V×St)→Option St
 |some (v,g,h)=>KQ c ops l (put d v g,h)
 |none=>none
def JJz(ops:Array Oper)(o:Oper)(l:List Oper):Option Bool→Option St
 |some true=>JOt c ops o.dst l (Wq c s o)
 |some false=>if QB o.op then none else KQ c ops l (put o.dst (.v undef) s.1,s.2)
 |none=>none
theorem JeX(ops:Array Oper):KQ c ops [] s=some s:=rfl
theorem JY0(ops:Array Oper)(o:Oper)(l:List Oper):KQ c ops (o::l) s=JJz c s ops o l (want ops s.1 o):=by
 simp only[KQ];unfold JJz
 split<;>simp_all
 cases h:Wq c s o with
 |none=>rfl
 |some p=>rfl
theorem w_t(ops:Array Oper)(o:Oper)(l:List Oper):JJz c s ops o l (some true)=JOt c ops o.dst l (Wq c s o):=rfl
theorem w_f(ops:Array Oper)(o:Oper)(l:List Oper):JJz c s ops o l (some false)=if QB o.op=true then none else KQ c ops l (put o.dst (.v undef) s.1,s.2):=rfl
theorem a_s(ops:Array Oper)(d:Option Nat)(l:List Oper)(v:V)(g:Jj)(h:JC):JOt c ops d l (some (v,g,h))=KQ c ops l (put d v g,h):=rfl
theorem a_0(ops:Array Oper)(d:Option Nat)(l:List Oper):JOt c ops d l none=none:=rfl
def WR:Option V→Option (V×St)
 |some v=>some (v,s)
 |none=>none
theorem JY1(v:V):WR s (some v)=some (v,s):=rfl
theorem JY2:WR s none=none:=rfl
def opC(o:Op):Bool→Option (V×St)
 |true=>Kd c.P c.call c.lo c.hint.mutc s o
 |false=>WR s (JV c.P c.hint.vars s o)
def JUx(o:Oper):Bool→Option (V×St)
 |true=>Zh c.P c.base c.lo (c.hint.mode o.dst) s o.op
 |false=>opC c s o.op (WP c.P o.op)
theorem Jji(o:Oper):JUx c s o true=Zh c.P c.base c.lo (c.hint.mode o.dst) s o.op:=rfl
theorem Jjj(o:Oper):JUx c s o false=opC c s o.op (WP c.P o.op):=rfl
theorem JeZ(o:Oper):Wq c s o=JUx c s o (GJ c.hint.mode o.dst o.op):=by
 unfold Wq
 cases GJ c.hint.mode o.dst o.op with
 |true=>rfl
 |false=>
 simp only[Am,if_false,JUx]
 cases WP c.P o.op with
 |true=>rfl
 |false=>simp only[Am,if_false];unfold opC;cases JV c.P c.hint.vars s o.op<;>rfl
theorem Jjk(o:Op):opC c s o true=Kd c.P c.call c.lo c.hint.mutc s o:=rfl
theorem Jjl(o:Op):opC c s o false=WR s (JV c.P c.hint.vars s o):=rfl
def JY3(ops:Array Oper)(d:Option Nat)(l:List Oper):Option V→Option St
 |some v=>Ju c ops l (put d v s.1,s.2)
 |none=>none
def JNT(ops:Array Oper)(o:Oper)(l:List Oper):Option Bool→Option St
 |some true=>JY3 c s ops o.dst l (Kn c s o)
 |some false=>if QB o.op then none else Ju c ops l (put o.dst (.v undef) s.1,s.2)
 |none=>none
theorem Jea(ops:Array Oper):Ju c ops [] s=some s:=rfl
theorem JY4(ops:Array Oper)(o:Oper)(l:List Oper):Ju c ops (o::l) s=JNT c s ops o l (want ops s.1 o):=by
 simp only[Ju];unfold JNT
 split<;>simp_all
 cases h:Kn c s o with
 |none=>rfl
 |some p=>rfl
theorem Jjm(ops:Array Oper)(o:Oper)(l:List Oper):JNT c s ops o l (some true)=JY3 c s ops o.dst l (Kn c s o):=rfl
theorem Jjn(ops:Array Oper)(o:Oper)(l:List Oper):JNT c s ops o l (some false)=if QB o.op=true then none else Ju c ops l (put o.dst (.v undef) s.1,s.2):=rfl
theorem Jjo(ops:Array Oper)(d:Option Nat)(l:List Oper)(v:V):JY3 c s ops d l (some v)=Ju c ops l (put d v s.1,s.2):=rfl
def hdC(o:Oper):Bool→Option V
 |true=>match o.op with
  | .call d=>match d.callee with
   | .value f=>match opd s.1 f with
    | .fn f caps=>JAM s.2.length (c.call s.2.length f (WW caps++((d.args.toList.map (opd s.1)).map fzs++WX caps)) s.2)
    |_=>none
   |_=>none
  | .convert a b x=>if c.hint.mutc||isRow c.P a b then none else(Kd c.P c.call c.lo false s (.convert a b x)).map (·.1)
  | .buildSlice t n parts=>(Kd c.P c.call c.lo false s (.buildSlice t n parts)).map (·.1)
  |_=>none
 |false=>JV c.P c.hint.vars s o.op
theorem Jeb(o:Oper):Kn c s o=hdC c s o (WP c.P o.op):=by unfold Kn;cases WP c.P o.op<;>rfl
theorem Jjp(o:Oper):hdC c s o false=JV c.P c.hint.vars s o.op:=rfl
theorem Jjq(o:Oper):hdC c s o true=match o.op with
  | .call d=>match d.callee with
   | .value f=>match opd s.1 f with
    | .fn f caps=>JAM s.2.length (c.call s.2.length f (WW caps++((d.args.toList.map (opd s.1)).map fzs++WX caps)) s.2)
    |_=>none
   |_=>none
  | .convert a b x=>if c.hint.mutc||isRow c.P a b then none else(Kd c.P c.call c.lo false s (.convert a b x)).map (·.1)
  | .buildSlice t n parts=>(Kd c.P c.call c.lo false s (.buildSlice t n parts)).map (·.1)
  |_=>none:=rfl
end step
theorem Jjr(n:Nat)(v:V)(h:JC):JAM n (some (v,h))=if h.length=n then some v else none:=rfl
def fin(P:Program)(rs:List ResultVar)(base:Nat):Option (Ex×St)→Option (V×JC)
 |some (.exit _,_)=>none
 |some (_,s)=>match Ke P s rs with
  |some vs=>if okr base (zB vs)then some (zB vs,s.2.take base)else none
  |none=>none
 |none=>none
def Jec(P:Program)(rs:List ResultVar)(base ret:Nat)(rr:Bool):Option (Ex×St)→Option (V×JC)
 |some (.exit _,_)=>none
 |some (_,s)=>match(if rr then Kt P s rs else Ke P s rs)with
  |some vs=>if okr (base+ret) (zB vs)&&(((s.2.drop base).take ret).all (okO (base+ret))&&(ret==0||decide (base+ret≤s.2.length)))then some (zB vs,s.2.take (base+ret))else none
  |none=>none
 |none=>none
theorem JQ2{P:Program}{hints:Nat→Hint}{prim:Nat→Option (Nat→List V→JC→Option (V×JC))}{lo f nt ret:Nat}{rr:Bool}{args:List V}{h:JC}{fn:Func}{b:Code}{rs:List ResultVar}{hi:Hint}
  (hp:prim f=none)(hf:P.funcs[f]? =some fn)(hb:fn.body=some b)(hn:fn.ntmps=nt)(hname:(fn.name != "runtime.NumGoroutine")=true) (hh:hints f=hi) (hcode:codeOk P hi nt b=true) (hrs:fn.results.toList=rs) (hret:hi.ret=ret) (hrr:hi.rawr=rr)
  (hargs:args.length≤nt) (hbare:args.all bare=true):
  ev P hints prim lo f args h=Jec P rs h.length ret rr (evCode ⟨P,ev P hints prim,lo,h.length,hi⟩ JA b (Ku args,h)):=by
 rw[JdT hp];unfold YS;subst hh hn hrs hret hrr;simp only[hf,hb];rw[if_pos (by simp[hcode,hargs,hbare,hname])]
 cases evCode ⟨P,ev P hints prim,lo,h.length,hints f⟩ JA b (Ku args,h)with
 |none=>rfl
 |some p=>obtain⟨e,s⟩:=p;cases e<;>rfl
theorem JUy{P:Program}{hints:Nat→Hint}{prim:Nat→Option (Nat→List V→JC→Option (V×JC))}{lo f nt:Nat}{args:List V}{h:JC}{fn:Func}{b:Code}{rs:List ResultVar}{hi:Hint}
  (hp:prim f=none)(hf:P.funcs[f]? =some fn)(hb:fn.body=some b)(hn:fn.ntmps=nt)(hname:(fn.name != "runtime.NumGoroutine")=true) (hh:hints f=hi) (hcode:codeOk P hi nt b=true) (hrs:fn.results.toList=rs) (hret:hi.ret=0) (hrr:hi.rawr=false)
  (hargs:args.length≤nt) (hbare:args.all bare=true):
  ev P hints prim lo f args h=fin P rs h.length (evCode ⟨P,ev P hints prim,lo,h.length,hi⟩ JA b (Ku args,h)):=by
 rw[JQ2 hp hf hb hn hname hh hcode hrs hret hrr hargs hbare]
 cases evCode ⟨P,ev P hints prim,lo,h.length,hi⟩ JA b (Ku args,h)with
 |none=>rfl
 |some p=>
  obtain⟨e,s⟩:=p
  have key:(match Ke P s rs with
    |some vs=>if okr (h.length+0) (zB vs)&&(((s.2.drop h.length).take 0).all (okO (h.length+0))&&((0:Nat)==0||decide (h.length+0≤s.2.length)))then some (zB vs,s.2.take (h.length+0))else none
    |none=>none)=match Ke P s rs with
    |some vs=>if okr h.length (zB vs)then some (zB vs,s.2.take h.length)else none
    |none=>none:=by
   simp only[CP,Dm,BH,beq_self_eq_true,B1,Cz]
  cases e<;>first|rfl|exact key
section merge
variable{p:Prop}[Decidable p]
theorem JY5(s t:St):(if p then some (Ex.normal,s)else some (Ex.normal,t))=some (Ex.normal,if p then s else t):=by split<;>rfl
theorem Jed(s t:St):(if p then some (Ex.ret,s)else some (Ex.ret,t))=some (Ex.ret,if p then s else t):=by split<;>rfl
theorem JY6(g g':Jj)(h h':JC):(if p then((g,h):St)else(g',h'))=(if p then g else g',if p then h else h'):=by split<;>rfl
theorem JY7(k:Nat)(v v':V)(g g':Jj):(if p then((k,v)::g:Jj)else(k,v')::g')=(k,if p then v else v')::(if p then g else g'):=by split<;>rfl
theorem m_v(x y:Value):(if p then V.v x else V.v y)=V.v (if p then x else y):=by split<;>rfl
theorem JY8(k:Own)(r q:List (List V)):(if p then V.list k r else V.list k q)=V.list k (if p then r else q):=by split<;>rfl
theorem JY9(x y:Bool):(if p then DI x else DI y)=DI (if p then x else y):=by split<;>rfl
theorem Jee(k:IntKind)(x y:Int):(if p then AQ k x else AQ k y)=AQ k (if p then x else y):=by split<;>rfl
theorem Jef(x y:ByteArray):(if p then D6 x else D6 y)=D6 (if p then x else y):=by split<;>rfl
theorem JUz(x y:V)(l m:List V):(if p then x::l else y::m)=(if p then x else y)::(if p then l else m):=by split<;>rfl
theorem JZA{α:Type}(x:α):(if p then x else x)=x:=by split<;>rfl
theorem JZB(c:Cx)(lp:Yc)(b:Code)(x y:Option (Ex×St)):JAW c lp b (if p then x else y)=if p then JAW c lp b x else JAW c lp b y:=by split<;>rfl
theorem JU0(id:Nat)(x y:Option (Ex×St)):Ht id (if p then x else y)=if p then Ht id x else Ht id y:=by split<;>rfl
end merge
def gV(b:Bool)(v:V):V:=if b then v else .v undef
theorem Jjs(v:V):gV true v=v:=rfl
theorem Jjt(v:V):gV false v= .v undef:=rfl
def yz(b:Bool)(s:St)(r:Option (V×St)):Option (V×St):=if b then r else some (.v undef,s)
theorem JXk(s:St)(r:Option (V×St)):yz true s r=r:=rfl
theorem JXl(s:St)(r:Option (V×St)):yz false s r=some (.v undef,s):=rfl
theorem Jeg(b:Bool)(s:St)(v:V):yz b s (some (v,s))=some (gV b v,s):=by cases b<;>rfl
def gH(b:Bool)(r:Option V):Option V:=if b then r else some (.v undef)
theorem Jju(r:Option V):gH true r=r:=rfl
theorem Jjv(r:Option V):gH false r=some (.v undef):=rfl
theorem w_b(c:Cx)(s:St)(ops:Array Oper)(o:Oper)(l:List Oper)(b:Bool):JJz c s ops o l (some b)=if QB o.op=true then(if b=true then JOt c ops o.dst l (Wq c s o)else none)else JOt c ops o.dst l (yz b s (Wq c s o)):=by
 cases b
 ·simp only[w_f,Am,if_false,JXl]
  rfl
 ·simp only[w_t,if_true,JXk]
  split<;>rfl
def JNU(b:Bool):V→Option Bool
 | .v (.bool x)=>some (x==b)
 | .v (.tuple _)=>some false
 |_=>none
theorem JU1(ops:Array Oper)(g:Jj)(o:Oper):want ops g o=match o.guard with
  |none=>some true
  |some (j,b)=>match(ops[j]?).bind (·.dst)with
   |some t=>JNU b (look g t)
   |none=>some false:=by
 unfold want
 cases o.guard with
 |none=>rfl
 |some p=>obtain⟨j,b⟩:=p;simp only;cases(ops[j]?).bind (·.dst)<;>rfl
theorem Jjw(b x:Bool):JNU b (.v (.bool x))=some (x==b):=rfl
theorem Jjx(b:Bool):JNU b (.v undef)=some false:=rfl
theorem Jjy(b c x:Bool):JNU b (gV c (.v (.bool x)))=some (c&&(x==b)):=by cases c<;>rfl
def Zo(b:Bool)(x y:V):V:=if b then x else y
theorem Jjz(x y:V):Zo true x y=x:=rfl
theorem Jj0(x y:V):Zo false x y=y:=rfl
theorem Jeh(b x:Bool):Zo b (.v (.bool true)) (.v (.bool x))= .v (.bool (b||x)):=by cases b<;>rfl
theorem JZC(b x:Bool):Zo b (.v (.bool x)) (.v (.bool false))= .v (.bool (b&&x)):=by cases b<;>rfl
def JNV:V→V→V→Option V
 | .v (.bool x),p,q=>some (Zo x p q)
 |_,_,_=>none
theorem JZD{P:Program}{vars:List Nat}{s:St}{c a b:Operand}:JV P vars s (.pick c a b)=JNV (opd s.1 c) (cps (opd s.1 a)) (cps (opd s.1 b)):=by
 show(match opd s.1 c with
  | .v (.bool x)=>some (if x then cps (opd s.1 a)else cps (opd s.1 b))
  |_=>none)=_
 cases opd s.1 c with
 |v x=>cases x<;>rfl
 |_=>rfl
theorem Jj1(x:Bool)(p q:V):JNV (.v (.bool x)) p q=some (Zo x p q):=rfl
theorem Jei(b:Bool)(v:V):cps (gV b v)=gV b (cps v):=by cases b<;>rfl
section ops
variable(P:Program)
def Yd(vars:List Nat)(t:Nat):V→Option V
 | .list .yes r=>some (.list (if t∈vars then .slot t else .no) r)
 |y=>some (cps y)
def JL1(op:BinOp)(t:TypeId):V→V→Option V
 | .v a,.v b=>(JUL P op t a b).map .v
 | .agg cs,.agg ds=>
  match kC P t with
  |some ks=>
   match op with
   | .eql=>(eqCells ks cs ds).map λr=> .v (.bool r)
   | .neq=>(eqCells ks cs ds).map λr=> .v (.bool !r)
   |_=>none
  |none=>none
 |_,_=>none
def unV(op:UnOp):V→Option V
 | .v a=>(unS op a).map .v
 |_=>none
def jY:V→Option V
 | .ptr b o=>some (.ptr b o)
 | .rp cs=>some (.rp cs)
 | .fn f cs=>some (.fn f cs)
 |_=>none
def JNW(h:JC)(a b:TypeId):V→Option V
 | .v y=>JJN P a b (.v y)
 | .list _ rows=>
  if Ha P b then
   match P.underlying a with
   |some (.slice e)=>if qg P e then(bytesOf rows).map λl=> .v (.string ⟨l.toArray⟩)else if JBO P e then(jS rows).map λl=> .v (.string (runesBytes l))else none
   |_=>none
  else none
 | .buf i o n=>
  if Ha P b then
   match P.underlying a,cellsOfOb h i with
   |some (.slice e),some cs=>if qg P e&&decide (o+n≤cs.length)then(bytesOf (((cs.drop o).take n).map λx=>[x])).map λl=> .v (.string ⟨l.toArray⟩)else none
   |_,_=>none
  else none
 |_=>none
def ZA(t:TypeId)(f:Nat)(x:V):Option V:=
 match x,JZ P t f with
  | .ptr b o,some (k,u)=>if 0<JG P u then some (.ptr b (o+k))else none
  | .rp cs,some (k,u)=>if 0<JG P u∧k<cs.length then some (.rp (cs.drop k))else none
  |_,_=>none
def JZG(t:TypeId)(f:Nat)(x:V):Option V:=
 match x,JZ P t f with
  | .agg cs,some (k,u)=>KB P u (cs.drop k)
  |_,_=>none
def Kh(t:TypeId)(x i:V):Option V:=
 match x,idx i,P.underlying t with
  | .list _ rows,some n,some (.slice e)=>
   if 0≤n then
    match rows[n.toNat]? with
    |some row=>if row.length=JG P e∧0<JG P e then some (.rp row)else none
    |none=>none
   else none
  | .buf b o m,some n,some (.slice e)=>if 0≤n∧n<m∧JG P e=1 then some (.ptr b (o+n.toNat))else none
  | .stk b m sz,some n,some (.slice e)=>if 0≤n∧n<m∧JG P e=sz∧0<sz then some (.ptr b (n.toNat*sz))else none
  | .ptr b o,some n,some (.array m e)=>if 0≤n∧n<m∧0<JG P e then some (.ptr b (o+n.toNat*JG P e))else none
  | .rp cs,some n,some (.array m e)=>if 0≤n∧n<m∧0<JG P e∧n.toNat*JG P e<cs.length then some (.rp (cs.drop (n.toNat*JG P e)))else none
  |_,_,_=>none
def Gn(t:TypeId)(x i:V):Option V:=
 match x,idx i,P.underlying t with
  | .v (.string b),some n,some .string=>if 0≤n then(b.data[n.toNat]?).map λc=> .v (.int .u8 c.toNat)else none
  | .agg cs,some n,some (.array m e)=>
   if 0≤n∧n<m then
    KB P e (cs.drop (n.toNat*JG P e))
   else none
  |_,_,_=>none
def JJ0(i:Nat):V→Option V
 | .tup vs=>(vs[i]?).map cps
 |_=>none
def JJ1(u:Option TypeDesc)(x:V):Option V:=
 match(some x:Option V),u with
   |some (.list _ rows),some (.slice _)=>some (.v (.int .i64 rows.length))
   |some .nil,some (.slice _)=>some (.v (.int .i64 0))
   |some (.buf _ _ n),some (.slice _)=>some (.v (.int .i64 n))
   |some (.stk _ n _),some (.slice _)=>some (.v (.int .i64 n))
   |some (.v (.string b)),some .string=>some (.v (.int .i64 b.size))
   |_,_=>none
variable{P}{vars:List Nat}{s:St}
theorem JZH(t:Nat):JV P vars s (.move (.tmp t))=Yd vars t (look s.1 t):=rfl
theorem JU2(c:Value):JV P vars s (.move (.const c))=some (ofC c):=rfl
theorem JU3(n:Nat):JV P vars s (.move (.global n))=some (opd s.1 (.global n)):=rfl
theorem JU4(n:Nat):JV P vars s (.move (.func n))=some (.fn n []):=rfl
theorem JZJ{t:TypeId}{a:Operand}:JV P vars s (.load t a)=Yv P s.2 t (opd s.1 a):=rfl
theorem Jej{op:BinOp}{t u:TypeId}{x y:Operand}:JV P vars s (.binOp op t x y u)=JL1 P op t (opd s.1 x) (opd s.1 y):=rfl
theorem Jj2{op:UnOp}{t:TypeId}{x:Operand}:JV P vars s (.unOp op t x)=unV op (opd s.1 x):=rfl
theorem Jek{x:Operand}:JV P vars s (.nilCheck x)=jY (opd s.1 x):=rfl
theorem JZK{a b:TypeId}{x:Operand}:JV P vars s (.convert a b x)=JNW P s.2 a b (opd s.1 x):=rfl
theorem Jj3{t:TypeId}{x:Operand}{f:Nat}:JV P vars s (.fieldAddr t x f)=ZA P t f (opd s.1 x):=rfl
theorem Jj4{t:TypeId}{x:Operand}{f:Nat}:JV P vars s (.field t x f)=JZG P t f (opd s.1 x):=rfl
theorem Jj5{t:TypeId}{x i:Operand}:JV P vars s (.indexAddr t x i)=Kh P t (opd s.1 x) (opd s.1 i):=rfl
theorem Jj6{t:TypeId}{x i:Operand}:JV P vars s (.index t x i)=Gn P t (opd s.1 x) (opd s.1 i):=rfl
theorem Jj7{x:Operand}{i:Nat}:JV P vars s (.extract x i)=JJ0 i (opd s.1 x):=rfl
theorem Jel{x:Operand}{t:TypeId}:JV P vars s (.call {callee:= .builtin .len,args:= #[x],argTypes:= #[t]})=JJ1 (P.underlying t) (opd s.1 x):=rfl
def Jem(a b:V):Option V:=
 match[a,b]with
 |[.v (.int k x),.v (.int k' y)]=>if k=k' then some (.v (.int k (if y<x then y else x)))else none
 |_=>none
def Jen(a b:V):Option V:=
 match[a,b]with
 |[.v (.int k x),.v (.int k' y)]=>if k=k' then some (.v (.int k (if y>x then y else x)))else none
 |_=>none
theorem Jeo{x y:Operand}{ts:Array TypeId}:JV P vars s (.call {callee:= .builtin .min,args:= #[x,y],argTypes:=ts})=Jem (opd s.1 x) (opd s.1 y):=rfl
theorem Jep{x y:Operand}{ts:Array TypeId}:JV P vars s (.call {callee:= .builtin .max,args:= #[x,y],argTypes:=ts})=Jen (opd s.1 x) (opd s.1 y):=rfl
theorem Jj8(k:IntKind)(x y:Int):Jem (.v (.int k x)) (.v (.int k y))=some (.v (.int k (if y<x then y else x))):=if_pos rfl
theorem Jj9(k:IntKind)(x y:Int):Jen (.v (.int k x)) (.v (.int k y))=some (.v (.int k (if y>x then y else x))):=if_pos rfl
theorem JU5{t:TypeId}{parts:Array (Nat×Operand)}:JV P vars s (.build t parts)=(match K0 P t with
  |none=>none
  |some z=>
   match P.underlying t with
   |some (.struct _)=>if structOk P t then
    (Hb (λi=>(JZ P t i).map λp=>(p.1,JG P p.2)) (parts.toList.map λp=>(p.1,opd s.1 p.2)) (z.map KW)).map .agg else none
   |some (.array _ e)=>if(P.info? e).isSome then
    (Hb (λi=>some (i*JG P e,JG P e)) (parts.toList.map λp=>(p.1,opd s.1 p.2)) (z.map KW)).map .agg else none
   |_=>none):=rfl
theorem JU6{t:TypeId}{x:Operand}{lo hi mx:Option Operand}:JV P vars s (.slice t x lo hi mx)=(match mx,opd s.1 x,P.underlying t with
  |none,.v (.string b),some .string=>
   match yy s.1 hi b.size with
   |some h=>match yy s.1 lo 0 with
    |some l=>if l≤h∧h≤b.size then some (.v (.string (b.extract l h)))else none
    |none=>none
   |none=>none
  |none,.list _ rows,some (.slice e)=>
   match yy s.1 hi rows.length with
   |some h=>match yy s.1 lo 0 with
    |some l=>if l≤h∧h≤rows.length∧0<JG P e∧(rows.all λr=>r.length==JG P e)then some (.list .no ((rows.take h).drop l))else none
    |none=>none
   |none=>none
  |none,.stk b n sz,some (.slice e)=>
   match yy s.1 hi n with
   |some h=>match yy s.1 lo 0 with
    |some l=>if l=0∧h≤n∧JG P e=sz∧0<sz then some (.stk b h sz)else none
    |none=>none
   |none=>none
  |none,.ptr b o,some (.array n e)=>
   match yy s.1 hi n with
   |some h=>match yy s.1 lo 0 with
    |some l=>if l≤h∧h≤n∧l<n∧JG P e=1 then some (.buf b (o+l) (h-l))else none
    |none=>none
   |none=>none
  |_,_,_=>none):=rfl
theorem JkA{f:Nat}{first caps:Array Operand}:JV P vars s (.makeFunc (.func f) first caps)=if((first.toList++caps.toList).all λc=>qf (opd s.1 c)&& !isU (opd s.1 c))=true then(if first.size=0 then some (.fn f (caps.toList.map λc=>cp (opd s.1 c)))else if caps.size=0 then some (.fn f (.undef::first.toList.map λc=>cp (opd s.1 c)))else none)else none:=rfl
theorem JkB(t:Nat)(x:Value):Yd vars t (.v x)=some (.v x):=rfl
theorem JkC(t:Nat)(r:List (List V)):Yd vars t (.list .yes r)=some (.list (if t∈vars then .slot t else .no) r):=rfl
theorem JkD(t:Nat)(r:List (List V)):Yd vars t (.list .no r)=some (.list .no r):=rfl
theorem JkG(t b o:Nat)(r:List (List V)):Yd vars t (.list (.cell b o) r)=some (.list .no r):=rfl
theorem JkH(t u:Nat)(r:List (List V)):Yd vars t (.list (.slot u) r)=some (.list .no r):=rfl
theorem JkJ(t:Nat):Yd vars t .nil=some .nil:=rfl
theorem JkK(t b o:Nat):Yd vars t (.ptr b o)=some (.ptr b o):=rfl
theorem JkL(t:Nat)(cs:List V):Yd vars t (.rp cs)=some (.rp cs):=rfl
theorem JkM(t b o n:Nat):Yd vars t (.buf b o n)=some (.buf b o n):=rfl
theorem JkN(t b n sz:Nat):Yd vars t (.stk b n sz)=some (.stk b n sz):=rfl
theorem JkO(t:Nat)(cs:List V):Yd vars t (.agg cs)=some (.agg (cs.map cp)):=rfl
theorem JkP(t:Nat)(cs:List V):Yd vars t (.tup cs)=some (.tup cs):=rfl
theorem JkQ(t f:Nat)(cs:List V):Yd vars t (.fn f cs)=some (.fn f cs):=rfl
theorem JkR(op:BinOp)(t:TypeId)(k:IntKind)(a:Int)(b:Value):JL1 P op t (.v (.int k a)) (.v b)=(QQ op (.int k a) b).map .v:=rfl
theorem JkS(op:BinOp)(t:TypeId)(a:ByteArray)(b:Value):JL1 P op t (.v (.string a)) (.v b)=(QQ op (.string a) b).map .v:=rfl
theorem JkT(t:TypeId)(a b:List V):JL1 P .eql t (.agg a) (.agg b)=match kC P t with
  |some ks=>(eqCells ks a b).map λr=> .v (.bool r)
  |none=>none:=rfl
theorem JkU(t:TypeId)(a b:List V):JL1 P .neq t (.agg a) (.agg b)=match kC P t with
  |some ks=>(eqCells ks a b).map λr=> .v (.bool !r)
  |none=>none:=rfl
theorem JkV(op:UnOp)(a:Value):unV op (.v a)=(unS op a).map .v:=rfl
theorem JkW(b o:Nat):jY (.ptr b o)=some (V.ptr b o):=rfl
theorem JkX(cs:List V):jY (.rp cs)=some (.rp cs):=rfl
theorem JkY(f:Nat)(cs:List V):jY (.fn f cs)=some (.fn f cs):=rfl
theorem JkZ(h:JC)(a b:TypeId)(y:Value):JNW P h a b (.v y)=JJN P a b (.v y):=rfl
theorem Jka(h:JC)(a b:TypeId)(k:Own)(rows:List (List V)):JNW P h a b (.list k rows)=if Ha P b then
   match P.underlying a with
   |some (.slice e)=>if qg P e then(bytesOf rows).map λl=> .v (.string ⟨l.toArray⟩)else if JBO P e then(jS rows).map λl=> .v (.string (runesBytes l))else none
   |_=>none
  else none:=rfl
theorem Jkb(h:JC)(a b:TypeId)(i o n:Nat):JNW P h a b (.buf i o n)=if Ha P b then
   match P.underlying a,cellsOfOb h i with
   |some (.slice e),some cs=>if qg P e&&decide (o+n≤cs.length)then(bytesOf (((cs.drop o).take n).map λx=>[x])).map λl=> .v (.string ⟨l.toArray⟩)else none
   |_,_=>none
  else none:=rfl
theorem Jkc(t:TypeId)(f b o:Nat):ZA P t f (.ptr b o)=match JZ P t f with
  |some (k,u)=>if 0<JG P u then some (V.ptr b (o+k))else none
  |none=>none:=by unfold ZA;cases JZ P t f<;>rfl
theorem Jkd(t:TypeId)(f:Nat)(cs:List V):ZA P t f (.rp cs)=match JZ P t f with
  |some (k,u)=>if 0<JG P u∧k<cs.length then some (V.rp (cs.drop k))else none
  |none=>none:=by unfold ZA;cases JZ P t f<;>rfl
theorem Jke(t:TypeId)(k:Own)(rows:List (List V))(kk:IntKind)(n:Int):Kh P t (.list k rows) (.v (.int kk n))=match P.underlying t with
  |some (.slice e)=>if 0≤n then
    match rows[n.toNat]? with
    |some row=>if row.length=JG P e∧0<JG P e then some (V.rp row)else none
    |none=>none
   else none
  |_=>none:=by
 show(match V.list k rows,some n,P.underlying t with
  | .list _ rows,some n,some (.slice e)=>
   if 0≤n then
    match rows[n.toNat]? with
    |some row=>if row.length=JG P e∧0<JG P e then some (V.rp row)else none
    |none=>none
   else none
  | .buf b o m,some n,some (.slice e)=>if 0≤n∧n<m∧JG P e=1 then some (V.ptr b (o+n.toNat))else none
  | .stk b m sz,some n,some (.slice e)=>if 0≤n∧n<m∧JG P e=sz∧0<sz then some (V.ptr b (n.toNat*sz))else none
  | .ptr b o,some n,some (.array m e)=>if 0≤n∧n<m∧0<JG P e then some (V.ptr b (o+n.toNat*JG P e))else none
  | .rp cs,some n,some (.array m e)=>if 0≤n∧n<m∧0<JG P e∧n.toNat*JG P e<cs.length then some (.rp (cs.drop (n.toNat*JG P e)))else none
  |_,_,_=>none)=_
 cases P.underlying t with
 |none=>rfl
 |some d=>cases d<;>rfl
theorem Jkf(t:TypeId)(b o m:Nat)(kk:IntKind)(n:Int):Kh P t (.buf b o m) (.v (.int kk n))=match P.underlying t with
  |some (.slice e)=>if 0≤n∧n<m∧JG P e=1 then some (V.ptr b (o+n.toNat))else none
  |_=>none:=by
 unfold Kh
 cases P.underlying t with
 |none=>rfl
 |some d=>cases d<;>rfl
theorem Jkg(t:TypeId)(b m sz:Nat)(kk:IntKind)(n:Int):Kh P t (.stk b m sz) (.v (.int kk n))=match P.underlying t with
  |some (.slice e)=>if 0≤n∧n<m∧JG P e=sz∧0<sz then some (V.ptr b (n.toNat*sz))else none
  |_=>none:=by
 unfold Kh
 cases P.underlying t with
 |none=>rfl
 |some d=>cases d<;>rfl
theorem Jkh(t:TypeId)(b o:Nat)(kk:IntKind)(n:Int):Kh P t (.ptr b o) (.v (.int kk n))=match P.underlying t with
  |some (.array m e)=>if 0≤n∧n<m∧0<JG P e then some (V.ptr b (o+n.toNat*JG P e))else none
  |_=>none:=by
 unfold Kh
 cases P.underlying t with
 |none=>rfl
 |some d=>cases d<;>rfl
theorem Jki(t:TypeId)(cs:List V)(kk:IntKind)(n:Int):Kh P t (.rp cs) (.v (.int kk n))=match P.underlying t with
  |some (.array m e)=>if 0≤n∧n<m∧0<JG P e∧n.toNat*JG P e<cs.length then some (.rp (cs.drop (n.toNat*JG P e)))else none
  |_=>none:=by
 unfold Kh
 cases P.underlying t with
 |none=>rfl
 |some d=>cases d<;>rfl
theorem Jkj(t:TypeId)(b:ByteArray)(kk:IntKind)(n:Int)(hu:P.underlying t=some .string):Gn P t (.v (.string b)) (.v (.int kk n))=if 0≤n then(b.data[n.toNat]?).map λc=> .v (.int .u8 c.toNat)else none:=by unfold Gn;rw[hu]<;>rfl
theorem Jkk(t:TypeId)(cs:List V)(kk:IntKind)(n:Int):Gn P t (.agg cs) (.v (.int kk n))=match P.underlying t with
  |some (.array m e)=>if 0≤n∧n<m then KB P e (cs.drop (n.toNat*JG P e))else none
  |_=>none:=by
 unfold Gn
 cases P.underlying t with
 |none=>rfl
 |some d=>cases d<;>rfl
theorem Jkl(i:Nat)(vs:List V):JJ0 i (.tup vs)=(vs[i]?).map cps:=rfl
theorem Jkm(e:TypeId)(k:Own)(rows:List (List V)):JJ1 (some (.slice e)) (.list k rows)=some (.v (.int .i64 rows.length)):=rfl
theorem Jkn(e:TypeId):JJ1 (some (.slice e)) .nil=some (.v (.int .i64 0)):=rfl
theorem Jko(e:TypeId)(b o n:Nat):JJ1 (some (.slice e)) (.buf b o n)=some (.v (.int .i64 n)):=rfl
theorem Jkp(e:TypeId)(b n sz:Nat):JJ1 (some (.slice e)) (.stk b n sz)=some (.v (.int .i64 n)):=rfl
theorem Jkq(b:ByteArray):JJ1 (some .string) (.v (.string b))=some (.v (.int .i64 b.size)):=rfl
theorem Jkr(h:JC)(t:TypeId)(cs:List V):Yv P h t (.rp cs)=KB P t cs:=rfl
theorem Jks(h:JC)(t:TypeId)(b o:Nat):Yv P h t (.ptr b o)=match cellsOfOb h b with
  |some cs=>match Q3 P t with
   |some true=>KB P t (cs.drop o)
   |some false=>(cs[o]?).map (tagC b o)
   |none=>none
  |none=>none:=rfl
end ops
def pre(b c:Bool):Prop:=b=true→c=true
theorem JQ3(b:Bool):pre b b=True:=eq_true λh=>h
theorem Zp{b c:Bool}(h:pre b c)(hb:b=true)(v:V):gV c v=v:=by rw[h hb]<;>rfl
def noG(_:List V):Bool:=true
theorem Jeq:noG []=true:=by unfold noG;rfl
theorem Jer(x:Value)(l:List V):noG (.v x::l)=noG l:=by unfold noG;rfl
theorem Jes(l:List V):noG (.nil::l)=noG l:=by unfold noG;rfl
theorem Jet(k:Own)(r:List (List V))(l:List V):noG (.list k r::l)=noG l:=by unfold noG;rfl
theorem Jeu(b o:Nat)(l:List V):noG (.ptr b o::l)=noG l:=by unfold noG;rfl
theorem Jev(b n sz:Nat)(l:List V):noG (.stk b n sz::l)=noG l:=by unfold noG;rfl
theorem Jew(cs:List V)(l:List V):noG (.agg cs::l)=noG l:=by unfold noG;rfl
theorem JOu(call:GH)(lo:Nat)(s:St)(f:Operand)(args:List V)(_:noG args=true):Z2 call lo s f args=match opd s.1 f with
 | .fn f caps=>match call lo f (WW caps++(args.map fzs++WX caps)) s.2 with
  |some (r,h)=>some (r,(untagC s.1,h))
  |none=>none
 |_=>none:=by unfold Z2;rfl
section Wl
variable{b c:Bool}{s:St}{P:Program}(h:pre b c)
include h
theorem JOv(vars:List Nat)(t:Nat)(x:V):yz b s (WR s (Yd vars t (gV c x)))=yz b s (WR s (Yd vars t x)):=by
 cases hb:b with
 |true=>rw[Zp h hb]
 |false=>rfl
theorem JQ4(op:BinOp)(t:TypeId)(x y:V):yz b s (WR s (JL1 P op t (gV c x) y))=yz b s (WR s (JL1 P op t x y)):=by
 cases hb:b with
 |true=>rw[Zp h hb]
 |false=>rfl
theorem JB5(t:TypeId)(x y:V):yz b s (WR s (Kh P t (gV c x) y))=yz b s (WR s (Kh P t x y)):=by
 cases hb:b with
 |true=>rw[Zp h hb]
 |false=>rfl
theorem JL2(t:TypeId)(x y:V):yz b s (WR s (Gn P t (gV c x) y))=yz b s (WR s (Gn P t x y)):=by
 cases hb:b with
 |true=>rw[Zp h hb]
 |false=>rfl
theorem JL3(t:TypeId)(x y:V):yz b s (WR s (Gn P t x (gV c y)))=yz b s (WR s (Gn P t x y)):=by
 cases hb:b with
 |true=>rw[Zp h hb]
 |false=>rfl
theorem JQ5(u:Option TypeDesc)(x:V):yz b s (WR s (JJ1 u (gV c x)))=yz b s (WR s (JJ1 u x)):=by
 cases hb:b with
 |true=>rw[Zp h hb]
 |false=>rfl
theorem JOw(hp:JC)(t:TypeId)(x:V):yz b s (WR s (Yv P hp t (gV c x)))=yz b s (WR s (Yv P hp t x)):=by
 cases hb:b with
 |true=>rw[Zp h hb]
 |false=>rfl
theorem JOx(x y z:V):yz b s (WR s (JNV (gV c x) y z))=yz b s (WR s (JNV x y z)):=by
 cases hb:b with
 |true=>rw[Zp h hb]
 |false=>rfl
theorem JQ6(call:GH)(lo:Nat)(s1:St)(f:Operand)(w:V)(l:List V):yz b s (Z2 call lo s1 f (gV c w::l))=yz b s (Z2 call lo s1 f (w::l)):=by
 cases hb:b with
 |true=>rw[Zp h hb]
 |false=>rfl
theorem JQ7(call:GH)(lo:Nat)(s1:St)(f:Operand)(x w:V)(l:List V):yz b s (Z2 call lo s1 f (x::gV c w::l))=yz b s (Z2 call lo s1 f (x::w::l)):=by
 cases hb:b with
 |true=>rw[Zp h hb]
 |false=>rfl
end Wl
theorem Jkt{d c:Bool}(h:pre (d==true) c)(v q:V):Zo d (gV c v) q=Zo d v q:=by
 cases d with
 |true=>rw[Zp h (by rfl)]
 |false=>rfl
theorem Jku{d c:Bool}(h:pre (d==false) c)(p v:V):Zo d p (gV c v)=Zo d p v:=by
 cases d with
 |true=>rfl
 |false=>rw[Zp h (by rfl)]
theorem Jex{b d c:Bool}{s:St}(h:pre (b&&(d==true)) c)(v q:V):yz b s (some (Zo d (gV c v) q,s))=yz b s (some (Zo d v q,s)):=by
 cases hb:b with
 |false=>rfl
 |true=>
  cases hd:d with
  |false=>rfl
  |true=>rw[Zp h (by simp[hb,hd])]
theorem Jey{b d c:Bool}{s:St}(h:pre (b&&(d==false)) c)(p v:V):yz b s (some (Zo d p (gV c v),s))=yz b s (some (Zo d p v,s)):=by
 cases hb:b with
 |false=>rfl
 |true=>
  cases hd:d with
  |true=>rfl
  |false=>rw[Zp h (by simp[hb,hd])]
theorem Jkv(x:Value):cp (.v x)= .v x:=rfl
theorem Jkw:cp (.nil)= .nil:=rfl
theorem Jez(r:List (List V)):cp (.list .no r)= .list .no r:=rfl
theorem Jkx(r:List (List V)):cp (.list .yes r)= .list .no r:=rfl
theorem Jky(b o:Nat)(r:List (List V)):cp (.list (.cell b o) r)= .list .no r:=rfl
theorem Jkz(u:Nat)(r:List (List V)):cp (.list (.slot u) r)= .list .no r:=rfl
theorem Jk0(b o:Nat):cp (.ptr b o)= .ptr b o:=rfl
theorem Jk1(cs:List V):cp (.rp cs)= .rp cs:=rfl
theorem Jk2(b o n:Nat):cp (.buf b o n)= .buf b o n:=rfl
theorem Jk3(b n sz:Nat):cp (.stk b n sz)= .stk b n sz:=rfl
theorem Jk4(cs:List V):cp (.agg cs)= .agg cs:=rfl
theorem Jk5(vs:List V):cp (.tup vs)= .tup vs:=rfl
theorem Jk6(f:Nat)(cs:List V):cp (.fn f cs)= .fn f cs:=rfl
theorem Je0(x:Value):cps (.v x)= .v x:=rfl
theorem Je1:cps (.nil)= .nil:=rfl
theorem JZL(r:List (List V)):cps (.list .no r)= .list .no r:=rfl
theorem Je2(r:List (List V)):cps (.list .yes r)= .list .no r:=rfl
theorem Je3(b o:Nat)(r:List (List V)):cps (.list (.cell b o) r)= .list .no r:=rfl
theorem Je4(u:Nat)(r:List (List V)):cps (.list (.slot u) r)= .list .no r:=rfl
theorem Je5(b o:Nat):cps (.ptr b o)= .ptr b o:=rfl
theorem Je6(cs:List V):cps (.rp cs)= .rp cs:=rfl
theorem Je7(b o n:Nat):cps (.buf b o n)= .buf b o n:=rfl
theorem Je8(b n sz:Nat):cps (.stk b n sz)= .stk b n sz:=rfl
theorem Je9(cs:List V):cps (.agg cs)= .agg (cs.map cp):=rfl
theorem JfA(vs:List V):cps (.tup vs)= .tup vs:=rfl
theorem JfB(f:Nat)(cs:List V):cps (.fn f cs)= .fn f cs:=rfl
theorem JZM(x:Value):own1 (.v x)= .v x:=rfl
theorem JZN:own1 (.nil)= .list .yes []:=rfl
theorem JU7(r:List (List V)):own1 (.list .no r)= .list .no r:=rfl
theorem JZO(r:List (List V)):own1 (.list .yes r)= .list .yes r:=rfl
theorem JZP(b o:Nat)(r:List (List V)):own1 (.list (.cell b o) r)= .list (.cell b o) r:=rfl
theorem JZQ(u:Nat)(r:List (List V)):own1 (.list (.slot u) r)= .list (.slot u) r:=rfl
theorem JZR(b o:Nat):own1 (.ptr b o)= .ptr b o:=rfl
theorem JZS(cs:List V):own1 (.rp cs)= .rp cs:=rfl
theorem JZT(b o n:Nat):own1 (.buf b o n)= .buf b o n:=rfl
theorem JZU(b n sz:Nat):own1 (.stk b n sz)= .stk b n sz:=rfl
theorem JZV(cs:List V):own1 (.agg cs)= .agg cs:=rfl
theorem JZW(vs:List V):own1 (.tup vs)= .tup vs:=rfl
theorem JZX(f:Nat)(cs:List V):own1 (.fn f cs)= .fn f cs:=rfl
theorem JU8(x:Value):Kc (.v x)= .v x:=rfl
theorem JU9:Kc (.nil)= .list .yes []:=rfl
theorem JQ8(r:List (List V)):Kc (.list .no r)= .list .no r:=rfl
theorem JVA(r:List (List V)):Kc (.list .yes r)= .list .yes r:=rfl
theorem JVB(b o:Nat)(r:List (List V)):Kc (.list (.cell b o) r)= .list (.cell b o) r:=rfl
theorem JVC(u:Nat)(r:List (List V)):Kc (.list (.slot u) r)= .list (.slot u) r:=rfl
theorem JVD(b o:Nat):Kc (.ptr b o)= .ptr b o:=rfl
theorem JVG(cs:List V):Kc (.rp cs)= .rp cs:=rfl
theorem JVH(b o n:Nat):Kc (.buf b o n)= .buf b o n:=rfl
theorem JVJ(b n sz:Nat):Kc (.stk b n sz)= .stk b n sz:=rfl
theorem JVK(cs:List V):Kc (.agg cs)= .agg (cs.map own1):=rfl
theorem JVL(vs:List V):Kc (.tup vs)= .tup vs:=rfl
theorem JVM(f:Nat)(cs:List V):Kc (.fn f cs)= .fn f cs:=rfl
theorem Jk7(x:Value):fz (.v x)= .v x:=rfl
theorem Jk8:fz (.nil)= .list .no []:=rfl
theorem JfC(r:List (List V)):fz (.list .no r)= .list .no r:=rfl
theorem Jk9(r:List (List V)):fz (.list .yes r)= .list .no r:=rfl
theorem JlA(b o:Nat)(r:List (List V)):fz (.list (.cell b o) r)= .list .no r:=rfl
theorem JlB(u:Nat)(r:List (List V)):fz (.list (.slot u) r)= .list .no r:=rfl
theorem JlC(b o:Nat):fz (.ptr b o)= .ptr b o:=rfl
theorem JlD(cs:List V):fz (.rp cs)= .rp cs:=rfl
theorem JlG(b o n:Nat):fz (.buf b o n)= .buf b o n:=rfl
theorem JlH(b n sz:Nat):fz (.stk b n sz)= .stk b n sz:=rfl
theorem JlJ(cs:List V):fz (.agg cs)= .agg cs:=rfl
theorem JlK(vs:List V):fz (.tup vs)= .tup vs:=rfl
theorem JlL(f:Nat)(cs:List V):fz (.fn f cs)= .fn f cs:=rfl
theorem JfD(x:Value):fzs (.v x)= .v x:=rfl
theorem JfG:fzs (.nil)= .list .no []:=rfl
theorem JZY(r:List (List V)):fzs (.list .no r)= .list .no r:=rfl
theorem JfH(r:List (List V)):fzs (.list .yes r)= .list .no r:=rfl
theorem JfJ(b o:Nat)(r:List (List V)):fzs (.list (.cell b o) r)= .list .no r:=rfl
theorem JfK(u:Nat)(r:List (List V)):fzs (.list (.slot u) r)= .list .no r:=rfl
theorem JfL(b o:Nat):fzs (.ptr b o)= .ptr b o:=rfl
theorem JfM(cs:List V):fzs (.rp cs)= .rp cs:=rfl
theorem JfN(b o n:Nat):fzs (.buf b o n)= .buf b o n:=rfl
theorem JfO(b n sz:Nat):fzs (.stk b n sz)= .stk b n sz:=rfl
theorem JfP(cs:List V):fzs (.agg cs)= .agg (cs.map fz):=rfl
theorem JfQ(vs:List V):fzs (.tup vs)= .tup vs:=rfl
theorem JfR(f:Nat)(cs:List V):fzs (.fn f cs)= .fn f cs:=rfl
theorem JQ9(x:Value):Jf (.v x)= .v x:=rfl
theorem JRA:Jf (.nil)= .nil:=rfl
theorem JOy(r:List (List V)):Jf (.list .no r)= .list .no r:=rfl
theorem JRB(r:List (List V)):Jf (.list .yes r)= .list .yes r:=rfl
theorem JRC(b o:Nat)(r:List (List V)):Jf (.list (.cell b o) r)= .list .no r:=rfl
theorem JRD(u:Nat)(r:List (List V)):Jf (.list (.slot u) r)= .list .no r:=rfl
theorem JRG(b o:Nat):Jf (.ptr b o)= .ptr b o:=rfl
theorem JRH(cs:List V):Jf (.rp cs)= .rp cs:=rfl
theorem JRJ(b o n:Nat):Jf (.buf b o n)= .buf b o n:=rfl
theorem JRK(b n sz:Nat):Jf (.stk b n sz)= .stk b n sz:=rfl
theorem JRL(cs:List V):Jf (.agg cs)= .agg cs:=rfl
theorem JRM(vs:List V):Jf (.tup vs)= .tup vs:=rfl
theorem JRN(f:Nat)(cs:List V):Jf (.fn f cs)= .fn f cs:=rfl
theorem JOz(x:Value):Jx (.v x)= .v x:=rfl
theorem JO0:Jx (.nil)= .nil:=rfl
theorem JL4(r:List (List V)):Jx (.list .no r)= .list .no r:=rfl
theorem JO1(r:List (List V)):Jx (.list .yes r)= .list .yes r:=rfl
theorem JO2(b o:Nat)(r:List (List V)):Jx (.list (.cell b o) r)= .list .no r:=rfl
theorem JO3(u:Nat)(r:List (List V)):Jx (.list (.slot u) r)= .list (.slot u) r:=rfl
theorem JO4(b o:Nat):Jx (.ptr b o)= .ptr b o:=rfl
theorem JO5(cs:List V):Jx (.rp cs)= .rp cs:=rfl
theorem JO6(b o n:Nat):Jx (.buf b o n)= .buf b o n:=rfl
theorem JO7(b n sz:Nat):Jx (.stk b n sz)= .stk b n sz:=rfl
theorem JO8(cs:List V):Jx (.agg cs)= .agg cs:=rfl
theorem JO9(vs:List V):Jx (.tup vs)= .tup vs:=rfl
theorem JPA(f:Nat)(cs:List V):Jx (.fn f cs)= .fn f cs:=rfl
theorem JPB(b:Bool)(v:V):Jx (gV b v)=gV b (Jx v):=by cases b<;>rfl
theorem JRO(b:Bool)(v:V):Jf (gV b v)=gV b (Jf v):=by cases b<;>rfl
theorem JNX(t u:Nat)(x:V):∀g:Jj,look (ins t x g) u=if t=u then x else look g u
 |[]=>by simp only[ins,look]
 |(k,y)::g=>by
  simp only[ins]
  split
  ·rfl
  ·split
   ·rename_i _ h
    subst h;simp only[look]
    split<;>rfl
   ·rename_i _ h
    simp only[look,JNX t u x g]
    split
    ·rename_i h2
     subst h2;rw[if_neg h]
    ·rfl
theorem JGC(t:Nat)(x:V):∀g:Jj,untag (ins t x g)=ins t (Jf x) (untag g)
 |[]=>rfl
 |(k,y)::g=>by
  simp only[ins]
  split
  ·rename_i h;simp only[untag,A3,ins,if_pos h]
  ·rename_i h1
   split
   ·rename_i h;simp only[untag,A3,ins,if_neg h1,if_pos h]
   ·rename_i h
    have:=JGC t x g;unfold untag at this⊢;simp only[A3,ins,if_neg h1,if_neg h,this]
theorem JPC:untag []=[]:=rfl
theorem JL5(k:Nat)(x:V)(g:Jj):untag ((k,x)::g)=(k,Jf x)::untag g:=rfl
theorem JB6(t:Nat)(x:V):∀g:Jj,untagC (ins t x g)=ins t (Jx x) (untagC g)
 |[]=>rfl
 |(k,y)::g=>by
  simp only[ins]
  split
  ·rename_i h;simp only[untagC,A3,ins,if_pos h]
  ·rename_i h1
   split
   ·rename_i h;simp only[untagC,A3,ins,if_neg h1,if_pos h]
   ·rename_i h
    have:=JB6 t x g;unfold untagC at this⊢;simp only[A3,ins,if_neg h1,if_neg h,this]
theorem JL6:untagC []=[]:=rfl
theorem JJ2(k:Nat)(x:V)(g:Jj):untagC ((k,x)::g)=(k,Jx x)::untagC g:=rfl
theorem JRP(i:Nat):kilE i []=[]:=rfl
theorem JPD(i k:Nat)(x:V)(g:Jj):kilE i ((k,x)::g)=(k,kil i x)::kilE i g:=rfl
theorem JJ3(i t:Nat)(x:V):∀g:Jj,kilE i (ins t x g)=ins t (kil i x) (kilE i g)
 |[]=>rfl
 |(k,y)::g=>by
  simp only[ins]
  split
  ·rename_i h;simp only[kilE,A3,ins,if_pos h]
  ·rename_i h1
   split
   ·rename_i h;simp only[kilE,A3,ins,if_neg h1,if_pos h]
   ·rename_i h
    have:=JJ3 i t x g;unfold kilE at this⊢;simp only[A3,ins,if_neg h1,if_neg h,this]
theorem JRQ(h l:List Ob):(h++l).drop h.length=l:=List.drop_left
theorem JfS(i:Nat)(x:Value):kil i (.v x)= .v x:=rfl
theorem JfT(i:Nat):kil i .nil= .nil:=rfl
theorem JfU(i:Nat)(k:Own)(r:List (List V)):kil i (.list k r)= .list k r:=rfl
theorem JfV(i:Nat)(cs:List V):kil i (.rp cs)= .rp cs:=rfl
theorem JfW(i:Nat):kil i .undef= .undef:=rfl
theorem JfX(i b o:Nat):kil i (.ptr b o)=if decide (b≠i)=true then .ptr b o else .undef:=rfl
theorem JfY(i b o n:Nat):kil i (.buf b o n)=if decide (b≠i)=true then .buf b o n else .undef:=rfl
theorem JfZ(i b n sz:Nat):kil i (.stk b n sz)=if decide (b≠i)=true then .stk b n sz else .undef:=rfl
theorem Jfa(i:Nat)(cs:List V):kil i (.agg cs)=if cs.all (avf i)=true then .agg cs else .undef:=rfl
theorem Jfb(i f:Nat)(cs:List V):kil i (.fn f cs)=if cs.all (avc i)=true then .fn f cs else .undef:=rfl
theorem Jfc(i:Nat)(cs:List V):kil i (.tup cs)=if cs.all (avv i)=true then .tup cs else .undef:=rfl
theorem rg0:Bq 0=[]:=rfl
theorem rg1:Bq 1=[0]:=rfl
theorem rg2:Bq 2=[0,1]:=rfl
theorem rg3:Bq 3=[0,1,2]:=rfl
theorem rg4:Bq 4=[0,1,2,3]:=rfl
theorem rg5:Bq 5=[0,1,2,3,4]:=rfl
theorem rg6:Bq 6=[0,1,2,3,4,5]:=rfl
theorem rg7:Bq 7=[0,1,2,3,4,5,6]:=rfl
theorem rg8:Bq 8=[0,1,2,3,4,5,6,7]:=rfl
attribute [go_sem] List.mem_cons or_false false_or true_or or_true eq_self List.all_append rg0 rg1 rg2 rg3 rg4 rg5 rg6 rg7 rg8 Int.reduceLE Int.reduceLT Int.reduceToNat Ld Nat.reduceLeDiff Nat.reduceMul true_and and_true Option.isSome_some B6 Dm Value.oneCell'
attribute [go_sem] JNX JGC JPC JL5 JB6 JL6 JJ2 JOz JO0 JL4 JO1 JO2 JO3 JO4 JO5 JO6 JO8 JO9 JPA JPB decide_true decide_false
attribute [go_sem high] Jex Jey Jeh JZC
attribute [go_sem low] Jeg w_b
attribute [go_sem] Jkv Jkw Jez Jkx Jky Jkz Jk0 Jk1 Jk2 Jk4 Jk5 Jk6 Je0 Je1 JZL Je2 Je3 Je4 Je5 Je6 Je7 Je9 JfA JfB JZM JZN JU7 JZO JZP JZQ JZR JZS JZT JZV JZW JZX JU8 JU9 JQ8 JVA JVB JVC JVD JVG JVH JVK JVL JVM Jk7 Jk8 JfC Jk9 JlA JlB JlC JlD JlG JlJ JlK JlL JfD JfG JZY JfH JfJ JfK JfL JfM JfN JfP JfQ JfR JQ9 JRA JOy JRB JRC JRD JRG JRH JRJ JRL JRM JRN JRO
attribute [go_sem] WW WX isU isRow JA1 List.isEmpty_cons Jji Jjj GJ Jjr Jkg Jkp JkN Jev Jk3 Je8 JZU JVJ JlH JfO JRK JO7 JRP JPD JJ3 JRQ JfS JfT JfU JfV JfW JfX JfY JfZ Jfa Jfb Jfc avc avf avv kilf JGz y9 Qb HZ Hd JDR Zh JLQ Jec JBd Kt okO BH DN List.flatten_cons List.flatten_nil
attribute [go_sem] JQw JYq JYr JYy JYz
attribute [go_sem] JY5 Jed JY6 JY7 m_v JY8 JY9 Jee Jef JUz JZA JZB JU0 Jjs Jjt JXk JXl Jju Jjv Jjw Jjx Jjy Jjz Jj0 Jj1 Jei JQv JU1 JZH JU2 JU3 JU4 JZJ Jej Jj2 Jek JZK Jj3 Jj4 Jj5 Jj6 Jj7 Jel Jeo Jep Jj8 Jj9 JU5 JU6 JkA JZD JkB JkC JkD JkG JkH JkJ JkK JkL JkM JkO JkP JkQ JkR JkS JkT JkU JkV JkW JkX JkY JkZ Jka Jkb Jkc Jkd Jke Jkf Jkh Jki Jkj Jkk Jkl Jkm Jkn Jko Jkq Jkr Jks JQ3 JOv JQ4 JB5 JL2 JL3 JQ5 JOw JOx JQ6 JQ7 Jkt Jku JJN Bool.and_self Bool.or_true B1 Bool.or_false Bool.false_or Bool.and_false Aw Bool.true_beq Bool.false_beq JQq JQr c_seq JQs JHQ JYg JYh JUo JUp Jdn JL0 JYi JYj JYk JYl JYm JUq JUr JUs JUt JYn JYo JK Kv QY JYs JUv JYt JjR JjS Jdo JjT Jdq Jdr JjV JjW JBa JNB Jdw Jdx Jdy Jdz Jd0 Jd1 Jd2 Jd3 Jd4 Jd5 Jd6 Jd7 Jd8 Jd9 JeA JeB JeC JeD JeG JeH JeJ JeK JeL JeM JeN JeO JeP JeQ JeR JYw JYv Jdu Jdv JjX JjY JUw JjZ Jja Jjb Jjc JeS JQt JjL JjM JjN JjO JjP JjQ Jds Jdt JBb evLate1 Yb JeT Jjd Jje Jjf Jjg Jjh List.contains_cons List.contains_nil JYx JeV JeW JeX JY0 w_t w_f a_s a_0 JY1 JY2 JeZ Jjk Jjl Jea JY4 Jjm Jjn Jjo Jeb Jjp Jjq JdW JdX JdY JdZ Jda Jdb JjK Jdc Jdd Jde Jdf Jdg Jdh Jdi Jdj JYX JYY JYZ Jdk Jdl Yu WP opd look put lives QB Kd Jk ofC KW Jn idx yy KB tagC cellsV Wo WO okc okv okr Hb fzr GG WY Hc jo JOu Jeq Jer Jes Jet Jeu Jew fin JDo Ke zB Ku setOb cellsOfOb bare qf JT JD JB List.zipIdx BJ Ai List.append_nil Al JQo JYa JYf Hs JYd JUn JYe JNO JQp Jdm JYb JYc JUm List.set_cons_zero List.set_cons_succ BD List.take_left List.append_assoc n0 bne_self_eq_false beq_self_eq_true Bool.not_true Bool.not_false
attribute [go_sem] Nat.reduceEqDiff Nat.reduceLT Nat.reduceAdd Nat.lt_irrefl reduceIte if_true if_false Option.some.injEq Nat.not_lt_zero Nat.reduceBEq
attribute [go_sem] A6 Option.map_none Option.bind_some A3 List.map_nil CN CP Cd List.drop_zero My DN List.getElem?_cons_zero List.getElem?_cons_succ
 List.getElem?_toArray List.length_cons List.length_nil Int.toNat_natCast Am List.not_mem_nil List.size_toArray and_self List.all_cons Dm Cz AB Int.natCast_nonneg
@[go_sem] theorem JXm(l:List Int):J0 (ri .i32 l)=false:=by cases l<;>rfl
@[go_sem] theorem JqL(r:List V)(l:List (List V)):J0 (r::l)=JG0 r:=rfl
@[go_sem] theorem JqM:J0 []=false:=rfl
attribute [go_sem] JBN JAt Zg QK byT JG0 List.any_cons List.any_nil
end Go.Lift
end

section
namespace Go.Lift
theorem JRR(h l:List Ob)(k:Nat):(h++l).drop (h.length+k)=l.drop k:=by rw[List.drop_append,List.drop_of_length_le om,Ai,BE]
theorem JZZ(h:List Ob)(a b c:Nat):decide (h.length+a<h.length+b+c)=decide (a<b+c):=by rw[decide_eq_decide];omega
theorem JZa(h:List Ob)(b c:Nat):decide (h.length<h.length+b+c)=decide (0<b+c):=by rw[decide_eq_decide];omega
theorem JRS(h l:List Ob)(a b:Nat):(h++l).take (h.length+a+b)=h++l.take (a+b):=by rw[Nat.add_assoc];exact JNO h l (a+b)
theorem JPG:Jf .undef= .undef:=rfl
theorem JL7{α:Type}{l:List α}{n:Nat}{x:α}(hn:n<l.length):l.take n++x::l.drop (n+1)=l.set n x:=by rw[List.set_eq_take_append_cons_drop,if_pos hn]
theorem JPH:Jf .any= .any:=rfl
theorem JL8:Jx .undef= .undef:=rfl
theorem JL9:Jx .any= .any:=rfl
attribute [go_sem] JPH JL8 JL9
theorem JlM:((2:Nat) !=0)=true:=rfl
theorem JlN:((1:Nat) !=0)=true:=rfl
theorem JlO:((0:Nat) !=0)=false:=rfl
attribute [go_sem] JlM JlN JlO
theorem JZb:sw 0 4=4:=rfl
theorem JZc:sw 0 5=5:=rfl
theorem JZd:sw 0 6=6:=rfl
theorem JZe:sw 0 7=7:=rfl
theorem JZf:sw 0 8=8:=rfl
theorem JZg:sw 0 9=9:=rfl
theorem JZh:sw 1 3=3:=rfl
theorem JZi:sw 1 4=4:=rfl
theorem JZj:sw 1 5=5:=rfl
theorem JZk:sw 1 6=6:=rfl
theorem JZl:sw 1 7=7:=rfl
theorem JZm:sw 1 8=8:=rfl
theorem JZn:sw 1 9=9:=rfl
theorem JZo:sw 2 4=4:=rfl
theorem JZp:sw 2 5=5:=rfl
theorem JZq:sw 2 6=6:=rfl
theorem JZr:sw 2 7=7:=rfl
theorem JZs:sw 2 8=8:=rfl
theorem JZt:sw 2 9=9:=rfl
theorem JZu:sw 3 0=0:=rfl
theorem JZv:sw 3 1=1:=rfl
theorem JZw:sw 3 2=2:=rfl
theorem JZx:sw 3 3=4:=rfl
theorem JZy:sw 3 4=3:=rfl
theorem JZz:sw 3 5=5:=rfl
theorem JZ0:sw 3 6=6:=rfl
theorem JZ1:sw 3 7=7:=rfl
theorem JZ2:sw 3 8=8:=rfl
theorem JZ3:sw 3 9=9:=rfl
theorem JZ4:sw 4 0=0:=rfl
theorem JZ5:sw 4 1=1:=rfl
theorem JZ6:sw 4 2=2:=rfl
theorem JZ7:sw 4 3=3:=rfl
theorem JZ8:sw 4 4=5:=rfl
theorem JZ9:sw 4 5=4:=rfl
theorem JaA:sw 4 6=6:=rfl
theorem JaB:sw 4 7=7:=rfl
theorem JaC:sw 4 8=8:=rfl
theorem JaD:sw 4 9=9:=rfl
theorem JaG:sw 5 0=0:=rfl
theorem JaH:sw 5 1=1:=rfl
theorem JaJ:sw 5 2=2:=rfl
theorem JaK:sw 5 3=3:=rfl
theorem JaL:sw 5 4=4:=rfl
theorem JaM:sw 5 5=6:=rfl
theorem JaN:sw 5 6=5:=rfl
theorem JaO:sw 5 7=7:=rfl
theorem JaP:sw 5 8=8:=rfl
theorem JaQ:sw 5 9=9:=rfl
theorem JaR:sw 6 0=0:=rfl
theorem JaS:sw 6 1=1:=rfl
theorem JaT:sw 6 2=2:=rfl
theorem JaU:sw 6 3=3:=rfl
theorem JaV:sw 6 4=4:=rfl
theorem JaW:sw 6 5=5:=rfl
theorem JaX:sw 6 6=7:=rfl
theorem JaY:sw 6 7=6:=rfl
theorem JaZ:sw 6 8=8:=rfl
theorem Jaa:sw 6 9=9:=rfl
theorem Jab:sw 7 0=0:=rfl
theorem Jac:sw 7 1=1:=rfl
theorem Jad:sw 7 2=2:=rfl
theorem Jae:sw 7 3=3:=rfl
theorem Jaf:sw 7 4=4:=rfl
theorem Jag:sw 7 5=5:=rfl
theorem Jah:sw 7 6=6:=rfl
theorem Jai:sw 7 7=8:=rfl
theorem Jaj:sw 7 8=7:=rfl
theorem Jak:sw 7 9=9:=rfl
theorem Jfd{α:Type}(a b c x y:α)(l:List α):zA 3 (a::b::c::x::y::l)=a::b::c::y::x::l:=rfl
theorem Jfe{α:Type}(a b c d x y:α)(l:List α):zA 4 (a::b::c::d::x::y::l)=a::b::c::d::y::x::l:=rfl
theorem Jff{α:Type}(a b c d e x y:α)(l:List α):zA 5 (a::b::c::d::e::x::y::l)=a::b::c::d::e::y::x::l:=rfl
theorem Jfg{α:Type}(a b c d e f x y:α)(l:List α):zA 6 (a::b::c::d::e::f::x::y::l)=a::b::c::d::e::f::y::x::l:=rfl
theorem Jfh{α:Type}(a b c d e f g x y:α)(l:List α):zA 7 (a::b::c::d::e::f::g::x::y::l)=a::b::c::d::e::f::g::y::x::l:=rfl
theorem Jal(j f:Nat)(cs:List V):swr j (.fn f cs)= .fn f (cs.map (swc j)):=rfl
theorem Jam(j f:Nat)(cs:List V):swf j (.fn f cs)= .fn f (cs.map (swc j)):=rfl
theorem Jfi(j b n z:Nat):swf j (.stk b n z)= .stk (sw j b) n z:=rfl
theorem Jfj(j b n z:Nat):swf j (.buf b n z)= .buf (sw j b) n z:=rfl
theorem Jfk(j b o:Nat):swc j (.ptr b o)= .ptr (sw j b) o:=rfl
theorem Jan(j b n z:Nat):swc j (.stk b n z)= .stk (sw j b) n z:=rfl
theorem Jfl(j:Nat)(k:Own)(r:List (List V)):swc j (.list k r)= .list k r:=rfl
theorem Jfm(j:Nat)(x:Value):swc j (.v x)= .v x:=rfl
theorem Jao(j:Nat):swr j .any= .any:=rfl
theorem Jap(j:Nat)(cs:List V):swr j (.agg cs)= .agg (cs.map (swf j)):=rfl
attribute [go_sem] JZb JZc JZd JZe JZf JZg JZh JZi JZj JZk JZl JZm JZn JZo JZp JZq JZr JZs JZt JZu JZv JZw JZx JZy JZz JZ0 JZ1 JZ2 JZ3 JZ4 JZ5 JZ6 JZ7 JZ8 JZ9 JaA JaB JaC JaD JaG JaH JaJ JaK JaL JaM JaN JaO JaP JaQ JaR JaS JaT JaU JaV JaW JaX JaY JaZ Jaa Jab Jac Jad Jae Jaf Jag Jah Jai Jaj Jak Jfd Jfe Jff Jfg Jfh Jal Jam Jfi Jfj Jfk Jan Jfl Jfm Jao Jap BE Dn
theorem Jaq(h:List Ob)(k:Nat):decide (h.length+(k+1)≠h.length)=true:=by rw[decide_eq_true_iff];omega
theorem Jar(h:List Ob)(k:Nat):decide (h.length<h.length+(k+1))=true:=by rw[decide_eq_true_iff];omega
theorem JVN(a:Nat):decide (a≠a)=false:=by simp
attribute [go_sem] JVN
theorem Jas(h:List Ob)(a b:Nat):(h.length+a<h.length+b)=(a<b):=by rw[eq_iff_iff];omega
attribute [go_sem] Jas
attribute [go_sem] Jar Jaq
attribute [go_sem] Nat.le_add_right Ab Nat.add_le_add_iff_left
theorem Jat{a b:Nat}(h:(a==b)=false):(a≠b)=True:=by rw[eq_iff_iff,iff_true];intro e;rw[e,beq_self_eq_true]at h;cases h
attribute [go_sem] Jat Option.isNone_none JPG
attribute [go_sem] JRR LH JZZ JZa JRS
def flat:Code->List Code
 | .seq a b=>flat a++flat b
 |c=>[c]
variable[GTab][BTy]
section
variable(c:Cx)(lp:Yc)(s:St)
noncomputable def Wc:List Code->St->Option (Ex×St)
 |[],s=>some (.normal,s)
 |a::l,s=>match evCode c lp a s with
  |some (.normal,s')=>Wc l s'
  |r=>r
noncomputable def JGD(l:List Code):Option (Ex×St)->Option (Ex×St)
 |some (.normal,s')=>Wc c lp l s'
 |r=>r
theorem Jfn:Wc c lp [] s=some (.normal,s):=rfl
theorem JHR(a:Code)(l:List Code):Wc c lp (a::l) s=JGD c lp l (evCode c lp a s):=by
 simp only[Wc]
 cases evCode c lp a s with
 |none=>rfl
 |some p=>obtain⟨e,s'⟩:=p;cases e<;>rfl
theorem JVO(l:List Code):JGD c lp l (some (.normal,s))=Wc c lp l s:=rfl
theorem JlP(l:List Code):JGD c lp l (some (.ret,s))=some (.ret,s):=rfl
theorem JlQ(l:List Code)(id:Nat):JGD c lp l (some (.exit id,s))=some (.exit id,s):=rfl
theorem JlR(l:List Code):JGD c lp l none=none:=rfl
theorem l_app(m:List Code):∀(l:List Code) (s:St),Wc c lp (l++m) s=JGD c lp m (Wc c lp l s)
 |[],s=>rfl
 |a::l,s=>by
  rw[Al,JHR,JHR]
  cases evCode c lp a s with
  |none=>rfl
  |some p=>
   obtain⟨e,s'⟩:=p
   cases e with
   |normal=>rw[JVO,JVO];exact l_app m l s'
   |exit j=>rfl
   |ret=>rfl
theorem one_l(a:Code):Wc c lp [a] s=evCode c lp a s:=by
 rw[JHR]
 cases evCode c lp a s with
 |none=>rfl
 |some p=>obtain⟨e,s'⟩:=p;cases e<;>rfl
theorem JVP:∀(b:Code) (s:St),evCode c lp b s=Wc c lp (flat b) s:=by
 intro b
 induction b with
 |seq a b iha ihb=>
  intro s;rw[c_seq,flat,l_app,<-iha]
  cases evCode c lp a s with
  |none=>rfl
  |some p=>
   obtain⟨e,s'⟩:=p
   cases e with
   |normal=>rw[JL0,JVO];exact ihb s'
   |exit j=>rfl
   |ret=>rfl
 |_=>intro s;exact(one_l c lp s _).symm
def pc(b:Code)(i n:Nat):List Code:=((flat b).drop i).take n
noncomputable def JNY(b:Code)(i:Nat):Option (Ex×St)->Option (Ex×St)
 |some (.normal,s')=>Wc c lp ((flat b).drop i) s'
 |r=>r
theorem pc_in(b:Code):evCode c lp b s=JNY c lp b 0 (some (.normal,s)):=by rw[JVP]<;>rfl
theorem pc_go(b:Code)(i n:Nat):JNY c lp b i (some (.normal,s))=JNY c lp b (i+n) (Wc c lp (pc b i n) s):=by
 show Wc c lp ((flat b).drop i) s=_
 have e:(flat b).drop i=pc b i n++(flat b).drop (i+n):=by unfold pc;rw[<-List.drop_drop];exact(List.take_append_drop n _).symm
 rw[e,l_app]<;>rfl
theorem Zd(b:Code)(i:Nat):JNY c lp b i (some (.ret,s))=some (.ret,s):=rfl
end
theorem JlS(a b:Code):flat (.seq a b)=flat a++flat b:=rfl
theorem JlT(id:Nat)(ops:Array Oper)(d:Bool):flat (.region id ops d)=[.region id ops d]:=rfl
theorem JlU(x:Operand)(a b:Code):flat (.cond x a b)=[.cond x a b]:=rfl
theorem JlV(id:Nat)(a:Code):flat (.block id a)=[.block id a]:=rfl
theorem JlW(a:Code):flat (.loop a)=[.loop a]:=rfl
theorem JlX(id:Nat):flat (.exit id)=[.exit id]:=rfl
theorem JlY:flat .ret=[.ret]:=rfl
theorem JlZ:flat .skip=[.skip]:=rfl
theorem Jla(a:Code):flat (.scope a)=[.scope a]:=rfl
theorem Jlb(l:List Code):l.drop 0=l:=rfl
attribute [go_sem] Jfn JHR JVO JlP JlQ JlR pc JlS JlT JlU JlV JlW JlX JlY JlZ Jla Jlb Cd CN CP DN My
end Go.Lift
end

section
namespace Go.Lift
variable[GTab][BTy]
section
variable{vars:List Nat}{P:Program}{m:List Nat}{c:Cl}{w:World}{g:Jj}{h:JC}{a:Act}{E:Entry}
def yN(m:List Nat)(c:Cl)(w:World)(h:JC)(r:List (List V))(y:Value):Prop:=
 VP c w (.list .yes r) y/\OwnB m c w r y/\ ∀l r' x' b,At m w [] h YT l r' x'->Jo y=some b->Jo x'≠some b
def FrY(y:Value)(w0:World)(c0:Cl)(w:World)(c:Cl):Prop:=
 w.os=w0.os/\w.tape=w0.tape/\w.output=w0.output/\w0.heap.size<=w.heap.size/\Ext c0 w0 c w/\ ∀b,b<w0.heap.size->Jo y≠some b->w.heap[b]? =w0.heap[b]? /\c b=c0 b
theorem JPJ{r:List (List V)}{args:List V}{xs:Array Value}{nt:Nat}(hH:zK m c w h)(hO:yN m c w h r (xs.getD 0 undef))(hargs:R2 (VRr m c w) (.list .yes r::args) xs.toList)(hb:args.all bare=true)(hn:args.length+1<=nt):
  InvP vars ⟨h.length,h.length,w,m,c,λb=>Jo (xs.getD 0 undef)=some b,h,nt⟩ m c w (Ku (.list .yes r::args)) h ⟨xs++B8 (nt-xs.size) undef,[]⟩:=by
 obtain⟨hC,hold⟩:=hH;have hxs0:0<xs.size:=by have:=hargs.1;simp at this;omega
 have htm:∀t,t<xs.size->(xs++B8 (nt-xs.size) undef).getD t undef=xs.getD t undef:=λt ht=>by rw[BT,BL ht,BT]
 have hl0:look (Ku (.list .yes r::args)) 0= .list .yes r:=by rw[GQ]<;>rfl
 have hbl:∀t k r',look (Ku (.list .yes r::args)) t= .list k r'->(t=0/\k= .yes/\r'=r)\/k= .no:=λt k r' ht=>by
  rw[GQ]at ht
  cases t with
  |zero=>simp at ht;exact .inl ⟨rfl,ht.1.symm,ht.2.symm⟩
  |succ t=>
   right
   simp only[List.getD_cons_succ]at ht;by_cases hl:t<args.length
   ·rw[BZ,Ac hl]at ht
    have:=List.all_eq_true.1 hb _ (List.getElem_mem hl);simp only[BJ]at ht;rw[ht]at this;cases k<;>simp[bare]at this
    rfl
   ·rw[BZ,Bv om]at ht
    cases ht
 have hAt:∀{l r' x},At m w (Ku (.list .yes r::args)) h ⟨xs++B8 (nt-xs.size) undef,[]⟩ l r' x->(l= .slot 0/\r'=r/\x=xs.getD 0 undef)\/(∃i j,l= .cell i j)/\At m w [] h YT l r' x:=λ{l r' x} hl=>by
  cases l with
  |slot t=>
   rcases hbl t _ r' hl.1 with⟨rfl,_,rfl⟩|hk
   ·exact .inl ⟨rfl,rfl,by rw[hl.2];exact htm 0 hxs0⟩
   ·cases hk
  |cell i j=>exact .inr ⟨⟨i,j,rfl⟩,hl⟩
 refine⟨⟨hC.wf1,hC.wf2,hC.nd,hC.len,λt=>?_,hC.ob,λl r' x hl=>?_,λl l' r1 r2 x1 x2 b h1 h2 hb1 hb2=>?_,λt u r' ht=>?_,λt i j r' ht=>?_,hC.gt⟩,
  Fr.refl _ _ _ _ _,λl r' x b hl hu hb'=>?_,rfl,Ab _,hC.len,Ab _,?_,rfl,Keeps.refl _ _,hold⟩
 ·rw[GQ]
  by_cases hl:t<(V.list .yes r::args).length
  ·obtain⟨y,hy,hv⟩:=hargs.get (Ac hl)
   rw[BZ,Ac hl,BJ]
   have hxs:t<xs.size:=by have:=hargs.1;simp at this hl;omega
   have:(xs++B8 (nt-xs.size) undef).getD t undef=y:=by
    rw[BT,BL hxs]
    have:xs[t]? =some y:=by simpa using hy
    simp[this]
   show VRr m c w _ ((xs++B8 (nt-xs.size) undef).getD t undef)
   rw[this];exact hv
  ·rw[BZ,Bv om]
   trivial
 ·rcases hAt hl with⟨_,rfl,rfl⟩|⟨_,hl⟩
  ·exact hO.2.1
  ·exact hC.own _ _ _ hl
 ·rcases hAt h1 with⟨rfl,rfl,rfl⟩|⟨⟨i,j,rfl⟩,k1⟩
  ·rcases hAt h2 with⟨rfl,_,_⟩|⟨_,k2⟩
   ·rfl
   ·exact absurd hb2 (hO.2.2 _ _ _ b k2 hb1)
  ·rcases hAt h2 with⟨rfl,rfl,rfl⟩|⟨_,k2⟩
   ·exact absurd hb1 (hO.2.2 _ _ _ b k1 hb2)
   ·exact hC.uniq _ _ _ _ _ _ b k1 k2 hb1 hb2
 ·rcases hbl t _ r' ht with⟨_,hk,_⟩|hk<;>cases hk
 ·rcases hbl t _ r' ht with⟨_,hk,_⟩|hk<;>cases hk
 ·rcases hAt hl with⟨_,rfl,rfl⟩|⟨⟨i,j,rfl⟩,hl⟩
  ·exact .inr hb'
  ·exfalso
   obtain⟨cs,b',k1,_⟩:=hl;have:h.length<=i:=hu;unfold cellsOfOb at k1;rw[Bv this]at k1
   cases k1
 ·have:=hargs.1
  simp at this⊢;omega
theorem JRT{hints:Nat->Hint}{prim:Nat->Option (Nat->List V->JC->Option (V×JC))}(hm:P.follows .mixedOrders=true)
  (hprim:∀f p,prim f=some p->∀lo args h r h',lo<=h.length->p lo args h=some (r,h')->Ww P lo f args h r h')
  {f t nt:Nat}{fn:Func}{b:Code}{hi:Hint}(hfn:P.funcs[f]? =some fn)(hbd:fn.body=some b)(hnt:fn.ntmps=nt)(hh:hints f=hi)(hco:codeOk P hi nt b=true)(hrs:fn.results= #[.tmp t])
  {r r':List (List V)}{args:List V}{h:JC}{e:Ex}{g':Jj}(hba:args.all bare=true)(hn:args.length+1<=nt)
  (hev:evCode ⟨P,ev P hints prim,h.length,h.length,hi⟩ JA b (Ku (.list .yes r::args),h)=some (e,g',h))(hes:e= .normal\/e= .ret)(hg:look g' t= .list .yes r')
  {m:List Nat}{c:Cl}{w:World}{xs:Array Value}(hH:zK m c w h)(hO:yN m c w h r (xs.getD 0 undef))(hargs:R2 (VRr m c w) (.list .yes r::args) xs.toList):
  Calls P f xs w λe w'=>∃z c',e= .returned z/\zK m c' w' h/\yN m c' w' h r' z/\FrY (xs.getD 0 undef) w c w' c'/\ ∀b,Jo z=some b->w.heap.size<=b\/Jo (xs.getD 0 undef)=some b:=by
 subst hnt hh;obtain⟨N,hN⟩:=JAT (c:=⟨P,ev P hints prim,h.length,h.length,hints f⟩) rfl b _ _ hev;have hev':=hN N (Ab _)
 have hX:CxOK ⟨P,evFun P hints prim N,h.length,h.length,hints f⟩ ⟨h.length,h.length,w,m,c,λb=>Jo (xs.getD 0 undef)=some b,h,fn.ntmps⟩:=
  ⟨rfl,rfl,λlo f args h r h' hl hc=>JQk hm hprim N lo f args h r h' hl hc⟩
 have hI:=JPJ (vars:=(hints f).vars) (nt:=fn.ntmps) hH hO hargs hba hn;refine calls_of_wp hfn hbd ?_
 refine JHO hX hm N b m c w _ h _ e (g',h) _ hco hI hev' λm' c' w' a' hI'=>?_
 have hml:m'=m:=by have h1:m'.length=h.length:=hI'.core.len;have h2:=JQj hI'.fr.pre;have h3:m.length=h.length:=hH.1.len;have h4:m'.take m.length=m:=h2;rw[B2 om]at h4;exact h4
 subst hml;have hat:At m' w' g' h a' (.slot t) r' (a'.tmps.getD t undef):=⟨hg,rfl⟩;have hv:=hI'.core.env t;simp only[hg]at hv
 have hres:(results fn a'.tmps).run P w'= .ok (a'.tmps.getD t undef) w':=by rw[JBz,hrs];simp[JDY]
 have hpost:bodyPost P fn (λe w'=>∃z c',e= .returned z/\zK m' c' w' h/\yN m' c' w' h r' z/\FrY (xs.getD 0 undef) w c w' c'/\ ∀b,Jo z=some b->w.heap.size<=b\/Jo (xs.getD 0 undef)=some b) .normal a' w':=
  ⟨hI'.df,_,hres,_,c',rfl,hI'.hok,⟨hv,hI'.core.own _ _ _ hat,λl r2 x2 b2 hl hb2 hb3=>by
   cases l with
   |slot u=>exact absurd hl.1 (by simp[look])
   |cell i j=>
    have hl':At m' w' g' h a' (.cell i j) r2 x2:=hl;have:=hI'.core.uniq _ _ _ _ _ _ b2 hl' hat hb3 hb2
    cases this⟩,⟨hI'.fr.os,hI'.fr.tape,hI'.fr.output,hI'.fr.size,hI'.fr.ext,λb2 hl2 hn2=>hI'.fr.fix b2 hl2 (λi hi hib=>by
     have:=(List.getElem?_eq_some_iff.1 hib).1
     have h3:m'.length=h.length:=hH.1.len;have h4:h.length<=i:=hi;have h5:i<m'.length:=this
     omega) hn2⟩,λb2 hb2=>hI'.owned _ _ _ b2 hat trivial hb2⟩
 rcases hes with rfl|rfl
 ·exact hpost
 ·exact hpost
theorem Jau{lo:Nat}(hH:zK m c w h)(hlo:lo<=h.length):InvP [] ⟨lo,h.length,w,m,c,hoOf m w h lo,h,0⟩ m c w [] h YT:=
 JB0 (args:=[]) (xs:= #[]) (nt:=0) hH ⟨rfl,λi x y hx=>by simp at hx⟩ rfl (by simp) hlo
theorem JRU{lo:Nat}{h':JC}{c':Cl}{w':World}(hm:m.length=h.length)(hI:InvP [] ⟨lo,h.length,w,m,c,hoOf m w h lo,h,0⟩ m c' w' [] h' YT):
  (h'.length=h.length/\h'.take lo=h.take lo/\Keeps h.length h h')/\zK m c' w' h'/\Fr lo (hoOf m w h lo) w m c w' m c'/\JAN lo (hoOf m w h lo) w m w' [] h' YT:=
 ⟨⟨by rw[<-hm];exact hI.core.len.symm,hI.hlo,hI.old⟩,hI.hok,hI.fr,λl r x b hl hu hb=>by
  cases l with
  |slot t=>exact absurd hl.1 (by simp[look])
  |cell i j=>exact hI.owned (.cell i j) r x b hl hu hb⟩
theorem JRV{y:Value}{r:List (List V)}{c':Cl}{w':World}(hI:InvP [] E m c w [] h YT)(hy:OwnB m c w r y)(hyE:∀b,Jo y=some b->E.w.heap.size<=b\/E.ho b)(hH:zK m c' w' h)(hF:FrY y w c w' c'):
  InvP [] E m c' w' [] h YT:=by
 obtain⟨f1,f2,f3,f4,f5,f6⟩:=hF
 have hmb:∀{i b},m[i]? =some b->w'.heap[b]? =w.heap[b]? :=λ{i b} hi=>(f6 b (hI.core.m_lt hi) (λe=>(hy.lt e).2 (List.mem_of_getElem? hi))).1
 refine⟨hH.1,⟨f1.trans hI.fr.os,f2.trans hI.fr.tape,f3.trans hI.fr.output,Nat.le_trans hI.fr.size f4,hI.fr.pre,hI.fr.new,hI.fr.ext.trans f5,λb hb h1 h2=>?_⟩,λl r x b hl hu hb=>?_,hI.hlo,hI.hlen,hI.ml,hI.lole,hI.nt,hI.df,hI.old,hI.ent⟩
 ·have hne:Jo y≠some b:=λe=>by
   rcases hyE b e with h'|h'
   ·omega
   ·exact h2 h'
  have h3:=f6 b (Nat.lt_of_lt_of_le hb hI.fr.size) hne;have h4:=hI.fr.fix b hb h1 h2;exact⟨h3.1.trans h4.1,h3.2.trans h4.2⟩
 ·cases l with
  |slot t=>exact absurd hl.1 (by simp[look])
  |cell i j=>obtain⟨cs,bb,k1,k2,k3,k4⟩:=hl;exact hI.owned (.cell i j) r x b ⟨cs,bb,k1,k2,k3,by rw[<-JR (hmb k3)];exact k4⟩ hu hb
theorem JGG(hH:zK m c w h){i b:Nat}{cs:List V}(hcs:h[i]? =some (.cells cs))(hm:m[i]? =some b):
  ∃arr e f,w.heap[b]? =some (.cells arr e f)/\cs.length<=arr.size/\(∀j,j<cs.length->w.frozen? ⟨b,j,none⟩=false)/\
   (∀(j:Nat) v x,cs[j]? =some v->arr[j]? =some x->VR1 m c w v x/\x.oneCell'=true)/\ ∀T,JBM cs.length=some T->Zg cs=true->e=T/\arr.size=cs.length:=hH.1.ob i _ b hcs hm
end
end Go.Lift
end
