/- The lifting: values, states, evaluation, and that it is sound. -/
import Derived.Test.YtkmiddfplmnaoaaGreatDoorGLc
open BitVec renaming ofInt->Al
open Bool renaming and_self->BS,and_true->Cq,false_and->AZ,false_eq_true->As,not_false->Bh,true_and->AR,true_or->Cb
open Go.IntKind renaming bits->Dl,i64->Ak,signed->Dm,wrap->Lj
open Go.Op renaming bytesLess->C1
open Go.Value renaming bool->DG,int->Bp,string->C5
open Int renaming reducePow->Lb
open List renaming all_nil->CQ,cons_append->Ae,drop_nil->LI,drop_succ_cons->BV,map_cons->AU,nil_append->Af,range->A9,set_append->DZ,take_left->Cf,take_length->Co,take_nil->MH,take_succ_cons->LQ,take_zero->Di
open Nat renaming add_sub_cancel_left->Bv,add_zero->Bl,reduceSub->LH,sub_self->CR
open Option renaming isNone_none->L4,map_some->A5
set_option linter.unusedVariables false
set_option linter.unusedSimpArgs false
set_option linter.unusedSectionVars false
section
namespace Go.Lift
def Y8(k:IntKind)(a b:Int):Int:=((Al k.bits a&&&Al k.bits b).toNat:Int)
def ior(k:IntKind)(a b:Int):Int:=((Al k.bits a|||Al k.bits b).toNat:Int)
def Jgi(k:IntKind)(a b:Int):Int:=((Al k.bits a^^^Al k.bits b).toNat:Int)
def Jax(k:IntKind)(a b:Int):Int:=a*2^ (min b.toNat k.bits)
def Jay(k:IntKind)(a b:Int):Int:=a.fdiv (2^ (min b.toNat k.bits))
section bin
variable(k:IntKind)(a b:Int)
theorem Jaz:Kq .add (.int k a) (.int k b)=some (.int k (k.wrap (a+b))):=by unfold Kq;exact if_pos rfl
theorem Ja0:Kq .sub (.int k a) (.int k b)=some (.int k (k.wrap (a-b))):=by unfold Kq;exact if_pos rfl
theorem Ja1:Kq .mul (.int k a) (.int k b)=some (.int k (k.wrap (a*b))):=by unfold Kq;exact if_pos rfl
theorem Ja2:Kq .quo (.int k a) (.int k b)=if b=0 then none else some (.int k (k.wrap (a.tdiv b))):=by unfold Kq;exact if_pos rfl
theorem Ja3:Kq .rem (.int k a) (.int k b)=if b=0 then none else some (.int k (a.tmod b)):=by unfold Kq;exact if_pos rfl
theorem Ja4:Kq .and (.int k a) (.int k b)=some (.int k (k.wrap (Y8 k a b))):=by unfold Kq;exact if_pos rfl
theorem Jgj:Kq .or (.int k a) (.int k b)=some (.int k (k.wrap (ior k a b))):=by unfold Kq;exact if_pos rfl
theorem Ja5:Kq .xor (.int k a) (.int k b)=some (.int k (k.wrap (Jgi k a b))):=by unfold Kq;exact if_pos rfl
theorem Ja6:Kq .eql (.int k a) (.int k b)=some (.bool (a==b)):=by unfold Kq;exact if_pos rfl
theorem Ja7:Kq .neq (.int k a) (.int k b)=some (.bool (a !=b)):=by unfold Kq;exact if_pos rfl
theorem Ja8:Kq .lss (.int k a) (.int k b)=some (.bool (decide (a<b))):=by unfold Kq;exact if_pos rfl
theorem Ja9:Kq .leq (.int k a) (.int k b)=some (.bool (decide (a≤b))):=by unfold Kq;exact if_pos rfl
theorem JbA:Kq .gtr (.int k a) (.int k b)=some (.bool (decide (b<a))):=by unfold Kq;exact if_pos rfl
theorem JbB:Kq .geq (.int k a) (.int k b)=some (.bool (decide (b≤a))):=by unfold Kq;exact if_pos rfl
theorem JbC(k':IntKind):Kq .shl (.int k a) (.int k' b)=if 0≤b then some (.int k (k.wrap (Jax k a b)))else none:=by unfold Kq;rfl
theorem JbD(k':IntKind):Kq .shr (.int k a) (.int k' b)=if 0≤b then some (.int k (Jay k a b))else none:=by unfold Kq;rfl
theorem JV2(s t:ByteArray):Kq .add (.string s) (.string t)=if s.size+t.size≤9223372036854775807 then some (.string (s++t))else none:=by unfold Kq;rfl
theorem JV3(s t:ByteArray):Kq .eql (.string s) (.string t)=some (.bool (s.toList==t.toList)):=by unfold Kq;rfl
theorem JV4(s t:ByteArray):Kq .lss (.string s) (.string t)=some (.bool (C1 s.toList t.toList)):=by unfold Kq;rfl
theorem JV5(s t:ByteArray):Kq .leq (.string s) (.string t)=some (.bool (C1 s.toList t.toList||s.toList==t.toList)):=by unfold Kq;rfl
theorem JV6(s t:ByteArray):Kq .gtr (.string s) (.string t)=some (.bool (!(C1 s.toList t.toList||s.toList==t.toList))):=by unfold Kq;rfl
theorem JV7(s t:ByteArray):Kq .geq (.string s) (.string t)=some (.bool (!(C1 s.toList t.toList))):=by unfold Kq;rfl
theorem JV8(s t:ByteArray):Kq .neq (.string s) (.string t)=some (.bool (!(s.toList==t.toList))):=by unfold Kq;rfl
theorem JbG:unS .neg (.int k a)=some (.int k (k.wrap (0-a))):=rfl
theorem JbH(x:Bool):unS .not (.bool x)=some (.bool !x):=rfl
end bin
def JT:Code→List Code
 | .seq a b=>JT a++JT b
 | .cond _ a b=>JT a++JT b
 | .block _ a=>JT a
 | .loop a=>a::JT a
 | .scope a=>JT a
 |_=>[]
def JG(b:Code)(i:Nat):Code:=((JT b)[i]?).getD .skip
def JC(f:Func):Code:=f.body.getD .skip
theorem JL{n:Int}(h0: -9223372036854775808≤n)(h1:n≤9223372036854775807):Ak.wrap n=n:=by
 simp only[Lj,Dl,Dm,AR,LH,Lb]
 split<;>simp_all<;>omega
theorem wrap_i32{n:Int}(h0: -2147483648≤n)(h1:n≤2147483647):IntKind.i32.wrap n=n:=by
 simp only[Lj,Dl,Dm,AR,LH,Lb]
 split<;>simp_all<;>omega
theorem wrap_u8{n:Int}(h0:0≤n)(h1:n≤255):IntKind.u8.wrap n=n:=by simp only[Lj,Dl,Dm,AZ,As,if_false,Lb];omega
theorem JD{i:Nat}(h:i≤1000000000000000000):Ak.wrap ((i:Int)+1)=((i+1:Nat):Int):=by rw[JL]<;>omega
theorem n0:((0:Nat):Int)=0:=rfl
def ri(k:IntKind)(l:List Int):List (List V):=l.map λn=>[.v (.int k n)]
theorem JGg(k:IntKind)(l:List Int):(ri k l).length=l.length:=by simp[ri]
theorem JPS(k:IntKind)(l:List Int)(i:Nat):(ri k l)[i]? =(l[i]?).map λn=>[V.v (.int k n)]:=by simp[ri]
theorem ri_app(k:IntKind)(l m:List Int):ri k l++ri k m=ri k (l++m):=by simp[ri]
theorem JGh(k:IntKind)(l:List Int)(n:Nat):(ri k l).drop n=ri k (l.drop n):=by simp[ri]
theorem JGi(k:IntKind)(l:List Int):(ri k l).take l.length=ri k l:=by rw[←JGg k l,Co]
theorem JbJ(h l:List Ob)(x:Ob):(h++x::l)[h.length]? =some x:=by simp
theorem JV9(h l:List Ob)(k:Nat):(h++l)[h.length+k]? =l[k]? :=by rw[List.getElem?_append_right om];congr 1;omega
theorem JWA(h l:List Ob)(x y:Ob):(h++x::l).set h.length y=h++y::l:=by rw[DZ,if_neg om,CR];rfl
theorem JS6(h l:List Ob)(k:Nat)(y:Ob):(h++l).set (h.length+k) y=h++l.set k y:=by rw[DZ,if_neg om,Bv]
theorem G6(h l:List Ob):(h++l).length=h.length+l.length:=List.length_append
theorem ZO(x:Ob)(l:List Ob):(x::l).length=l.length+1:=rfl
theorem JWB:([]:List Ob).length=0:=rfl
theorem JL0(h l:List Ob)(k:Nat):(h++l).take (h.length+k)=h++l.take k:=by rw[List.take_append,List.take_of_length_le om,Bv]
theorem JPT(h l:List Ob):(h++l).take h.length=h:=Cf
theorem JPU(x:Ob)(l:List Ob)(k:Nat):(x::l).take (k+1)=x::l.take k:=rfl
theorem J4(k:IntKind):ri k []=[]:=rfl
theorem Ka(k:IntKind)(n:Int)(l:List Int):ri k (n::l)=[.v (.int k n)]::ri k l:=rfl
theorem JPV(l:List Int):ZD (ri .i32 l)=some l:=by
 induction l with
 |nil=>rfl
 |cons n l ih=>rw[Ka];unfold ZD;rw[ih];rfl
def WN(l:List Int):List UInt8:=l.map λn=>UInt8.ofNat n.toNat
theorem JPW(l:List Int):bytesOf (ri .u8 l)=some (WN l):=by
 induction l with
 |nil=>rfl
 |cons n l ih=>rw[Ka];unfold bytesOf;rw[ih];rfl
theorem JWC(k:IntKind)(l:List Int):((ri k l).all λx=>x.length==1)=true:=by simp[ri]
variable[GTab][BTy]
section step
variable(c:Cx)(lp:YB)(s:St)
noncomputable def yw(b:Code):Option (Ex×St)→Option (Ex×St)
 |some (.normal,s')=>evCode c lp b s'
 |r=>r
noncomputable def JHw(a:Code):Option (Nat×Array Oper×Nat×Array Oper)→Option (Ex×St)
 |some (k,ops,id',ops')=>(YQ c k ops id' ops' s).map λs'=>(Ex.normal,s')
 |none=>evCode c lp a s
noncomputable def JDR(a b:Code):V→Option (Ex×St)
 | .v (.bool t)=>if t then evCode c lp a s else evCode c lp b s
 | .any=>kK (JHw c lp s a (ZZ c.P c.hint a)) (evCode c lp b s)
 |_=>none
def G7(id:Nat):Option (Ex×St)→Option (Ex×St)
 |some (.exit j,s')=>if j=id then some (.normal,s')else some (.exit j,s')
 |r=>r
def JAw:Option St→Option (Ex×St)
 |some s=>some (.normal,s)
 |none=>none
theorem JPX:evCode c lp .skip s=some (.normal,s):=rfl
theorem JPY(id:Nat)(ops:Array Oper)(draw:Bool):evCode c lp (.region id ops draw) s=JAw (Kk c id ops draw s):=by simp only[evCode];cases Kk c id ops draw s<;>rfl
theorem c_seq(a b:Code):evCode c lp (.seq a b) s=yw c lp b (evCode c lp a s):=by
 simp only[evCode]
 cases h:evCode c lp a s with
 |none=>rfl
 |some p=>obtain⟨e,s'⟩:=p;cases e<;>rfl
theorem JPZ(x:Operand)(a b:Code):evCode c lp (.cond x a b) s=JDR c lp s a b (opd s.1 x):=by
 simp only[evCode]
 cases opd s.1 x with
 |any=>simp only[JDR];congr 1
 |v x=>cases x<;>rfl
 |_=>rfl
theorem ka(id:Nat)(a:Code):evCode c lp (.block id a) s=G7 id (evCode c lp a s):=by
 simp only[evCode]
 cases h:evCode c lp a s with
 |none=>rfl
 |some p=>obtain⟨e,s'⟩:=p;cases e<;>rfl
theorem JWD(a:Code):evCode c lp (.loop a) s=lp (evCode c lp a) s:=rfl
theorem JWG(id:Nat):evCode c lp (.exit id) s=some (.exit id,s):=rfl
theorem JS7(a:Code):evCode c lp (.scope a) s=evCode c lp a s:=rfl
theorem JS8(l:Nat):evCode c lp (.label l) s=some (.normal,s):=rfl
theorem JbK:evCode c lp .ret s=some (.ret,s):=rfl
theorem JKn(b:Code):yw c lp b (some (.normal,s))=evCode c lp b s:=rfl
theorem JWH(b:Code)(id:Nat):yw c lp b (some (.exit id,s))=some (.exit id,s):=rfl
theorem JWJ(b:Code):yw c lp b (some (.ret,s))=some (.ret,s):=rfl
theorem JWK(b:Code):yw c lp b none=none:=rfl
theorem JWL(a b:Code):JDR c lp s a b (.v (.bool true))=evCode c lp a s:=rfl
theorem JWM(a b:Code):JDR c lp s a b (.v (.bool false))=evCode c lp b s:=rfl
theorem JPa(a b:Code):JDR c lp s a b .any=kK (JHw c lp s a (ZZ c.P c.hint a)) (evCode c lp b s):=rfl
def JL1(k:Nat)(ops:Array Oper)(id':Nat)(ops':Array Oper):Option Nat→Option Mix→Option (Nat×Array Oper×Nat×Array Oper)
 |some _,none=>some (k,ops,id',ops')
 |_,_=>none
theorem Jgk{P:Program}{hint:Hint}(id id':Nat)(ops ops':Array Oper):ZZ P hint (.seq (.region id ops true) (.region id' ops' false))=JL1 (Jo P hint id ops) ops id' ops' (hint.late id) (hint.mix id):=by simp only[ZZ];cases hint.late id<;>cases hint.mix id<;>rfl
theorem Jgl(k x:Nat)(ops:Array Oper)(id':Nat)(ops':Array Oper):JL1 k ops id' ops' (some x) none=some (k,ops,id',ops'):=rfl
theorem Jgm(k:Nat)(ops:Array Oper)(id':Nat)(ops':Array Oper)(m:Option Mix):JL1 k ops id' ops' none m=none:=by cases m<;>rfl
theorem Jgn(k:Nat)(x:Option Nat)(ops:Array Oper)(id':Nat)(ops':Array Oper)(m:Mix):JL1 k ops id' ops' x (some m)=none:=by cases x<;>rfl
theorem Jgo{P:Program}{hint:Hint}(id:Nat)(ops:Array Oper)(d:Bool):ZZ P hint (.region id ops d)=none:=rfl
theorem Jgp(a:Code):JHw c lp s a none=evCode c lp a s:=rfl
noncomputable def JPb(k:Nat)(ops:Array Oper)(id':Nat)(ops':Array Oper):Option St→Option St
 |some s1=>evLate1 c.P c.lo c.base (c.hint.live id') (c.hint.keep id') k ops ops' s1
 |none=>none
theorem Jgq(a:Code)(k id':Nat)(ops ops':Array Oper):JHw c lp s a (some (k,ops,id',ops'))=JAw (JPb c k ops id' ops' (J0 c ops (ops.toList.take k) s)):=by
 simp only[JHw,YQ]
 cases J0 c ops (ops.toList.take k) s with
 |none=>rfl
 |some s1=>simp only[JPb];cases evLate1 c.P c.lo c.base (c.hint.live id') (c.hint.keep id') k ops ops' s1<;>rfl
theorem Jgr(k id':Nat)(ops ops':Array Oper):JPb c k ops id' ops' (some s)=evLate1 c.P c.lo c.base (c.hint.live id') (c.hint.keep id') k ops ops' s:=rfl
theorem JPc(a b:Code)(t:Bool):JDR c lp s a b (.v (.bool t))=if t=true then evCode c lp a s else evCode c lp b s:=rfl
theorem JS9(id:Nat):G7 id (some (.normal,s))=some (.normal,s):=rfl
theorem JTA(id j:Nat):G7 id (some (.exit j,s))=if j=id then some (.normal,s)else some (.exit j,s):=rfl
theorem JTB(id:Nat):G7 id (some (.ret,s))=some (.ret,s):=rfl
theorem JTC(id:Nat):G7 id none=none:=rfl
theorem JWN:JAw (some s)=some (.normal,s):=rfl
theorem JWO:JAw none=none:=rfl
def JAx(lp:YB)(f:St→Option (Ex×St)):Option (Ex×St)→Option (Ex×St)
 |some (.normal,s')=>lp f s'
 |r=>r
theorem JB(f:St→Option (Ex×St)):JA f s=JAx JA f (f s):=by
 rw[JPO]
 cases h:f s with
 |none=>rfl
 |some p=>obtain⟨e,s'⟩:=p;cases e<;>rfl
theorem JK(lp:YB)(f:St→Option (Ex×St)):JAx lp f (some (.normal,s))=lp f s:=rfl
theorem KP(lp:YB)(f:St→Option (Ex×St))(id:Nat):JAx lp f (some (.exit id,s))=some (.exit id,s):=rfl
theorem Wo(lp:YB)(f:St→Option (Ex×St)):JAx lp f (some (.ret,s))=some (.ret,s):=rfl
noncomputable def JNR(id:Nat):Option St→Option St
 |some s'=>Wc c.base (c.hint.keep id) (untag (lives (c.hint.live id) s'.1),s'.2)
 |none=>none
theorem JPd(m:Option Mix)(k:Option Nat):once m false k=k:=by cases k<;>rfl
theorem JWP(d:Bool)(k:Option Nat):once none d k=k:=by cases k<;>cases d<;>rfl
theorem JWQ(m:Option Mix)(d:Bool):once m d none=none:=rfl
theorem JWR(mx:Mix)(n:Nat):once (some mx) true (some n)=if(decide (1000≤n)&&decide (n<2000))=true then none else some n:=rfl
noncomputable def JKo(id:Nat)(k:Option Nat):Option St→Option St
 |some s'=>Wc c.base k (untag (lives (c.hint.live id) s'.1),s'.2)
 |none=>none
theorem JWS(id:Nat)(ops:Array Oper):Kk c id ops false s=JNR c id (Yj c ops s (c.hint.tail id)):=by unfold Kk;simp only[As,if_false,JPd];cases Yj c ops s (c.hint.tail id)<;>rfl
theorem JTD(ops:Array Oper):Yj c ops s none=KN c ops ops.toList s:=rfl
def JPe(ops:Array Oper)(k:Nat):Option St→Option St
 |some s1=>Hl c ops k s1
 |none=>none
theorem JTG(ops:Array Oper)(k:Nat):Yj c ops s (some k)=JPe c ops k (KN c ops (ops.toList.take k) s):=rfl
theorem Jgs(ops:Array Oper)(k:Nat):JPe c ops k (some s)=Hl c ops k s:=rfl
noncomputable def JAy(ops:Array Oper)(l:List Oper):Option St→Option St
 |some s'=>KN c ops l s'
 |none=>none
noncomputable def JL2(id:Nat)(ops:Array Oper):Option Mix→Option St
 |some mx=>Y7 c mx id ops mx.tree s
 |none=>JAy c ops (ops.toList.drop (Jo c.P c.hint id ops)) (J0 c ops (ops.toList.take (Jo c.P c.hint id ops)) s)
theorem JWT(id:Nat)(ops:Array Oper):Kk c id ops true s=JKo c id (once (c.hint.mix id) true (c.hint.keep id)) (JL2 c s id ops (c.hint.mix id)):=by
 unfold Kk;simp only[if_true];unfold YP JL2
 cases c.hint.mix id with
 |some mx=>cases hq:Y7 c mx id ops mx.tree s<;>simp only[hq,JKo]
 |none=>
 simp only;unfold GG
 cases J0 c ops (ops.toList.take (Jo c.P c.hint id ops)) s with
 |none=>rfl
 |some s'=>simp only[JAy];cases KN c ops (ops.toList.drop (Jo c.P c.hint id ops)) s'<;>rfl
theorem Jgt(id:Nat)(ops:Array Oper):JL2 c s id ops none=JAy c ops (ops.toList.drop (Jo c.P c.hint id ops)) (J0 c ops (ops.toList.take (Jo c.P c.hint id ops)) s):=rfl
theorem Jgu(id:Nat)(ops:Array Oper)(hd tk:List Nat)(T:Tr):JL2 c s id ops (some ⟨hd,tk,T⟩)=Y7 c ⟨hd,tk,T⟩ id ops T s:=rfl
theorem JbL(mx:Mix)(id:Nat)(ops:Array Oper):Y7 c mx id ops .fin s=Wc c.base (c.hint.keep id) (untag (lives (c.hint.live id) s.1),s.2):=rfl
def JPf(base:Nat)(k:Option Nat):Option St→Option St
 |some s=>Wc base k s
 |none=>none
theorem Jgv(base:Nat)(k:Option Nat)(s:St):JPf base k (some s)=Wc base k s:=rfl
def JbM(base:Nat)(l:List Nat):Option St→Option St
 |some s=>qm base l s
 |none=>none
theorem JbN(base:Nat)(l:List Nat)(s:St):JbM base l (some s)=qm base l s:=rfl
theorem JbO(base:Nat)(s:St):qm base [] s=some s:=rfl
theorem JbP(base i:Nat)(l:List Nat)(s:St):qm base (i::l) s=JbM base l (swS base i s):=by simp only[qm];cases swS base i s<;>rfl
theorem JWU(mx:Mix)(id:Nat)(ops:Array Oper)(l:List Nat):Y7 c mx id ops (.finL l) s=JPf c.base (c.hint.keep id) (qm c.base l (untag (lives (c.hint.live id) s.1),s.2)):=by simp only[Y7,H5];cases qm c.base l (untag (lives (c.hint.live id) s.1),s.2)<;>rfl
theorem JWV(mx:Mix)(id:Nat)(ops:Array Oper)(i:Nat):Y7 c mx id ops (.finS i) s=JPf c.base (c.hint.keep id) (swS c.base i (untag (lives (c.hint.live id) s.1),s.2)):=by
 rw[show Y7 c mx id ops (.finS i) s=H5 c.base (c.hint.live id) (c.hint.keep id) [i] s from rfl]
 simp only[H5,qm];cases swS c.base i (untag (lives (c.hint.live id) s.1),s.2)<;>rfl
theorem Jgw(base:Nat):Wc base none s=some s:=rfl
theorem Jgx(base n:Nat):Wc base (some n) s=if n<1000 then JAR base n s else if n<2000 then JAR base ((s.2.drop base).length-(n-1000)) s else JLo base s (look s.1 (n-2000)):=rfl
noncomputable def JWW(id:Nat):Option St→Option St
 |some s1=>Wc c.base (c.hint.keep id) (untag (lives (c.hint.live id) s1.1),s1.2)
 |none=>none
theorem JbQ(mx:Mix)(id:Nat)(ops:Array Oper)(k:Nat):Y7 c mx id ops (.two k) s=JWW c id (JAS c.P c.lo c.base k ops s):=by simp only[Y7];unfold JWW;cases JAS c.P c.lo c.base k ops s<;>rfl
theorem JbR(id:Nat):JWW c id (some s)=Wc c.base (c.hint.keep id) (untag (lives (c.hint.live id) s.1),s.2):=rfl
noncomputable def JDS(mx:Mix)(id:Nat)(ops:Array Oper)(T:Tr):Option St→Option St
 |some s1=>Y7 c mx id ops T s1
 |none=>none
theorem JWX(mx:Mix)(id:Nat)(ops:Array Oper)(k:Nat)(T:Tr):Y7 c mx id ops (.head k T) s=JDS c mx id ops T (QS c mx ops k s):=by simp only[Y7];unfold JDS;cases QS c mx ops k s<;>rfl
theorem JbS(mx:Mix)(id:Nat)(ops:Array Oper)(k:Nat)(T:Tr):Y7 c mx id ops (.one k T) s=JDS c mx id ops T (QS c mx ops k s):=by simp only[Y7];unfold JDS;cases QS c mx ops k s<;>rfl
theorem JbT(mx:Mix)(id:Nat)(ops:Array Oper)(a b:Tr):Y7 c mx id ops (.alt a b) s=H4 (Y7 c mx id ops a s) (Y7 c mx id ops b s):=rfl
theorem Jgy(mx:Mix)(id:Nat)(ops:Array Oper)(T:Tr):JDS c mx id ops T (some s)=Y7 c mx id ops T s:=rfl
theorem Jgz(mx:Mix)(id:Nat)(ops:Array Oper)(T:Tr):JDS c mx id ops T none=none:=rfl
theorem JTH(n i k:Nat):sw (n+i) (n+k)=n+sw i k:=by
 unfold sw
 repeat' split
 all_goals omega
theorem Jg0(n i:Nat):sw (n+i) n=n+sw i 0:=JTH n i 0
theorem Jg1(n k:Nat):sw n (n+k)=n+sw 0 k:=JTH n 0 k
theorem Jg2(n:Nat):sw n n=n+1:=JTH n 0 0
theorem JbU:sw 0 0=1:=rfl
theorem JbV:sw 0 1=0:=rfl
theorem JbW:sw 0 2=2:=rfl
theorem JbX:sw 0 3=3:=rfl
theorem JbY:sw 1 0=0:=rfl
theorem JbZ:sw 1 1=2:=rfl
theorem Jba:sw 1 2=1:=rfl
theorem Jbb:sw 2 0=0:=rfl
theorem Jbc:sw 2 1=1:=rfl
theorem Jbd:sw 2 2=3:=rfl
theorem Jbe:sw 2 3=2:=rfl
theorem Jbf(j:Nat):swE j []=[]:=rfl
theorem Jbg(j k:Nat)(v:V)(g:Ja):swE j ((k,v)::g)=(k,swr j v)::swE j g:=rfl
theorem Jbh(j b o:Nat):swr j (.ptr b o)= .ptr (sw j b) o:=rfl
theorem Jbi(j:Nat)(x:Value):swr j (.v x)= .v x:=rfl
theorem Jbj(j:Nat)(k:Own)(r:List (List V)):swr j (.list k r)= .list k r:=rfl
theorem Jbk(j:Nat):swr j .undef= .undef:=rfl
theorem Jbl(j:Nat):swr j .nil= .nil:=rfl
theorem Jbm(j:Nat)(cs:List V):swr j (.rp cs)= .rp cs:=rfl
theorem Jbn(j b o n:Nat):swr j (.buf b o n)= .buf (sw j b) o n:=rfl
theorem Jbo(j b n z:Nat):swr j (.stk b n z)= .stk (sw j b) n z:=rfl
theorem Jbp(j b o:Nat):zl j (.ptr b o)= .ptr (sw j b) o:=rfl
theorem Jbq(j:Nat)(x:Value):zl j (.v x)= .v x:=rfl
theorem Jbr(j:Nat)(k:Own)(r:List (List V)):zl j (.list k r)= .list k r:=rfl
theorem Jbs(j:Nat):zl j .nil= .nil:=rfl
theorem Jbt(j:Nat)(cs:List V):swO j (.cells cs)= .cells (cs.map (zl j)):=rfl
theorem Jbu{α:Type}(x y:α)(l:List α):ql 0 (x::y::l)=y::x::l:=rfl
theorem Jbv{α:Type}(u x y:α)(l:List α):ql 1 (u::x::y::l)=u::y::x::l:=rfl
theorem Jbw{α:Type}(t u x y:α)(l:List α):ql 2 (t::u::x::y::l)=t::u::y::x::l:=rfl
theorem JWY(base i:Nat)(g:Ja)(h:Heap):swS base i (g,h)=if base+i+1<h.length then some (swE (base+i) g,h.take base++ql i ((h.drop base).map (swO (base+i))))else none:=rfl
theorem JPg(v:V):ym v v=v:=by simp[ym,JAP]
theorem JPh:∀g:Ja,WL g g=some g
 |[]=>rfl
 |(k,v)::g=>by simp only[WL,if_true,JPg,JPh g,A5]
theorem JTJ(x:Option St):H4 x x=x:=by
 cases x with
 |none=>rfl
 |some s=>simp only[H4,kJ,if_true,JPh,A5]
theorem Jg3(g q:Ja)(h:Heap):H4 (some (g,h)) (some (q,h))=(WL g q).map λr=>(r,h):=by simp only[H4,kJ,if_true]
theorem Jg4:WL [] []=some []:=rfl
theorem Jg5(k:Nat)(v:V)(r q:Ja):WL ((k,v)::r) ((k,v)::q)=(WL r q).map ((k,v):: ·):=by simp only[WL,if_true,JPg]
theorem Jg6(k:Nat)(r q:Ja):WL ((k,.v (.bool true))::r) ((k,.v (.bool false))::q)=(WL r q).map ((k,.any):: ·):=by simp[WL,ym,Hk,jz,Yi]
theorem Jg7(k:Nat)(r q:Ja):WL ((k,.v (.bool false))::r) ((k,.v (.bool true))::q)=(WL r q).map ((k,.any):: ·):=by simp[WL,ym,Hk,jz,Yi]
theorem Jbx(x:Option (Ex×St)):kK x x=x:=by unfold kK;rw[if_pos (JCv x)]
noncomputable def JAz(mx:Mix)(ops:Array Oper)(o:Oper):Bool→Bool→Option St
 |true,_=>J0 c ops [o] s
 |false,true=>if o.guard.isNone&& !Q0 c.P o.op then JAJ c s o else none
 |false,false=>KN c ops [o] s
noncomputable def JPi(hd tk:List Nat)(T:Tr)(ops:Array Oper)(k:Nat):Option Oper→Option St
 |none=>none
 |some o=>JAz c s ⟨hd,tk,T⟩ ops o (hd.contains k) (tk.contains k)
theorem Jby{hd tk:List Nat}{T:Tr}{ops:Array Oper}{k:Nat}:QS c ⟨hd,tk,T⟩ ops k s=JPi c s hd tk T ops k (ops[k]?):=by
 unfold QS JPi
 cases ops[k]? with
 |none=>rfl
 |some o=>
 simp only;cases hd.contains k<;>cases tk.contains k<;>simp[JAz]
theorem Jg8(hd tk:List Nat)(T:Tr)(ops:Array Oper)(k:Nat)(o:Oper):JPi c s hd tk T ops k (some o)=JAz c s ⟨hd,tk,T⟩ ops o (hd.contains k) (tk.contains k):=rfl
theorem Jg9(mx:Mix)(ops:Array Oper)(o:Oper)(b:Bool):JAz c s mx ops o true b=J0 c ops [o] s:=rfl
theorem JhA(mx:Mix)(ops:Array Oper)(o:Oper):JAz c s mx ops o false false=KN c ops [o] s:=rfl
noncomputable def JL3(d:Nat):Option V→Option St
 |some v=>match Zt c.lo (ins d v s.1,s.2) (.tmp d)with
  |some (r,g,h)=>some (ins d (.list .yes r) (untag g),h)
  |none=>none
 |none=>none
noncomputable def JL4(d:Nat)(v:Option V):Bool→Option St
 |false=>JL3 c s d v
 |true=>none
theorem JhB(mx:Mix)(ops:Array Oper)(d:Nat)(op:Op)(ty:TypeId)(p:String)(a:Array Edge):JAz c s mx ops ⟨some d,op,ty,p,a,none⟩ false true=JL4 c s d (JS c.P c.hint.vars s op) (Q0 c.P op):=by
 simp only[JAz,L4]
 cases he:Q0 c.P op with
 |true=>simp[JL4]
 |false=>simp only[Bh,BS,if_true,JAJ];unfold JL4 JL3;cases JS c.P c.hint.vars s op<;>rfl
theorem JhC(d:Nat)(v:Option V):JL4 c s d v false=JL3 c s d v:=rfl
theorem JhD(d:Nat)(v:V):JL3 c s d (some v)=match Zt c.lo (ins d v s.1,s.2) (.tmp d)with
  |some (r,g,h)=>some (ins d (.list .yes r) (untag g),h)
  |none=>none:=rfl
theorem JWZ(ops:Array Oper)(l:List Oper):JAy c ops l (some s)=KN c ops l s:=rfl
theorem Jbz(id:Nat):JNR c id (some s)=Wc c.base (c.hint.keep id) (untag (lives (c.hint.live id) s.1),s.2):=rfl
theorem Jb0(id:Nat):JNR c id none=none:=rfl
theorem JWa(id:Nat)(k:Option Nat):JKo c id k (some s)=Wc c.base k (untag (lives (c.hint.live id) s.1),s.2):=rfl
theorem JWb(id:Nat)(k:Option Nat):JKo c id k none=none:=rfl
def JNS(ops:Array Oper)(d:Option Nat)(l:List Oper):Option (V×St)→Option St
 |some (v,g,h)=>KN c ops l (put d v g,h)
 |none=>none
def JHx(ops:Array Oper)(o:Oper)(l:List Oper):Option Bool→Option St
 |some true=>JNS c ops o.dst l (Wg c s o)
 |some false=>if Kw o.op then none else KN c ops l (put o.dst (.v undef) s.1,s.2)
 |none=>none
theorem Jb1(ops:Array Oper):KN c ops [] s=some s:=rfl
theorem JWc(ops:Array Oper)(o:Oper)(l:List Oper):KN c ops (o::l) s=JHx c s ops o l (want ops s.1 o):=by
 simp only[KN];unfold JHx
 split<;>simp_all
 cases h:Wg c s o with
 |none=>rfl
 |some p=>rfl
theorem w_t(ops:Array Oper)(o:Oper)(l:List Oper):JHx c s ops o l (some true)=JNS c ops o.dst l (Wg c s o):=rfl
theorem w_f(ops:Array Oper)(o:Oper)(l:List Oper):JHx c s ops o l (some false)=if Kw o.op=true then none else KN c ops l (put o.dst (.v undef) s.1,s.2):=rfl
theorem a_s(ops:Array Oper)(d:Option Nat)(l:List Oper)(v:V)(g:Ja)(h:Heap):JNS c ops d l (some (v,g,h))=KN c ops l (put d v g,h):=rfl
theorem a_0(ops:Array Oper)(d:Option Nat)(l:List Oper):JNS c ops d l none=none:=rfl
def KV:Option V→Option (V×St)
 |some v=>some (v,s)
 |none=>none
theorem JWd(v:V):KV s (some v)=some (v,s):=rfl
theorem JWe:KV s none=none:=rfl
def opC(o:Op):Bool→Option (V×St)
 |true=>KY c.P c.call c.lo c.hint.mutc s o
 |false=>KV s (JS c.P c.hint.vars s o)
def JTK(o:Oper):Bool→Option (V×St)
 |true=>ZG c.P c.base c.lo (c.hint.mode o.dst) s o.op
 |false=>opC c s o.op (Q0 c.P o.op)
theorem JhG(o:Oper):JTK c s o true=ZG c.P c.base c.lo (c.hint.mode o.dst) s o.op:=rfl
theorem JhH(o:Oper):JTK c s o false=opC c s o.op (Q0 c.P o.op):=rfl
theorem Jb3(o:Oper):Wg c s o=JTK c s o (Zu c.hint.mode o.dst o.op):=by
 unfold Wg
 cases Zu c.hint.mode o.dst o.op with
 |true=>rfl
 |false=>
 simp only[As,if_false,JTK]
 cases Q0 c.P o.op with
 |true=>rfl
 |false=>simp only[As,if_false];unfold opC;cases JS c.P c.hint.vars s o.op<;>rfl
theorem JhJ(o:Op):opC c s o true=KY c.P c.call c.lo c.hint.mutc s o:=rfl
theorem JhK(o:Op):opC c s o false=KV s (JS c.P c.hint.vars s o):=rfl
def JPj(ops:Array Oper)(d:Option Nat)(l:List Oper):Option V→Option St
 |some v=>J0 c ops l (put d v s.1,s.2)
 |none=>none
def JHy(ops:Array Oper)(o:Oper)(l:List Oper):Option Bool→Option St
 |some true=>JPj c s ops o.dst l (Kj c s o)
 |some false=>if Kw o.op then none else J0 c ops l (put o.dst (.v undef) s.1,s.2)
 |none=>none
theorem Jb4(ops:Array Oper):J0 c ops [] s=some s:=rfl
theorem JWf(ops:Array Oper)(o:Oper)(l:List Oper):J0 c ops (o::l) s=JHy c s ops o l (want ops s.1 o):=by
 simp only[J0];unfold JHy
 split<;>simp_all
 cases h:Kj c s o with
 |none=>rfl
 |some p=>rfl
theorem Jb5(ops:Array Oper)(o:Oper)(l:List Oper):JHy c s ops o l (some true)=JPj c s ops o.dst l (Kj c s o):=rfl
theorem Jb6(ops:Array Oper)(o:Oper)(l:List Oper):JHy c s ops o l (some false)=if Kw o.op=true then none else J0 c ops l (put o.dst (.v undef) s.1,s.2):=rfl
theorem JhL(ops:Array Oper)(d:Option Nat)(l:List Oper)(v:V):JPj c s ops d l (some v)=J0 c ops l (put d v s.1,s.2):=rfl
def hdC(o:Oper):Bool→Option V
 |true=>match o.op with
  | .call d=>match d.callee with
   | .value f=>match opd s.1 f with
    | .fn f caps=>yl s.2.length (c.call s.2.length f (WR caps++((d.args.toList.map (opd s.1)).map fzs++WS caps)) s.2)
    |_=>none
   |_=>none
  | .convert a b x=>if c.hint.mutc||isRow c.P a b then none else(KY c.P c.call c.lo false s (.convert a b x)).map (·.1)
  | .buildSlice t n parts=>(KY c.P c.call c.lo false s (.buildSlice t n parts)).map (·.1)
  |_=>none
 |false=>JS c.P c.hint.vars s o.op
theorem Jb7(o:Oper):Kj c s o=hdC c s o (Q0 c.P o.op):=by unfold Kj;cases Q0 c.P o.op<;>rfl
theorem JhM(o:Oper):hdC c s o false=JS c.P c.hint.vars s o.op:=rfl
theorem JhN(o:Oper):hdC c s o true=match o.op with
  | .call d=>match d.callee with
   | .value f=>match opd s.1 f with
    | .fn f caps=>yl s.2.length (c.call s.2.length f (WR caps++((d.args.toList.map (opd s.1)).map fzs++WS caps)) s.2)
    |_=>none
   |_=>none
  | .convert a b x=>if c.hint.mutc||isRow c.P a b then none else(KY c.P c.call c.lo false s (.convert a b x)).map (·.1)
  | .buildSlice t n parts=>(KY c.P c.call c.lo false s (.buildSlice t n parts)).map (·.1)
  |_=>none:=rfl
end step
theorem JhO(n:Nat)(v:V)(h:Heap):yl n (some (v,h))=if h.length=n then some v else none:=rfl
def fin(P:Program)(rs:List ResultVar)(base:Nat):Option (Ex×St)→Option (V×Heap)
 |some (.exit _,_)=>none
 |some (_,s)=>match Kn P s rs with
  |some vs=>if okr base (qn vs)then some (qn vs,s.2.take base)else none
  |none=>none
 |none=>none
def JTL(P:Program)(rs:List ResultVar)(base ret:Nat)(rr:Bool):Option (Ex×St)→Option (V×Heap)
 |some (.exit _,_)=>none
 |some (_,s)=>match(if rr then Kx P s rs else Kn P s rs)with
  |some vs=>if okr (base+ret) (qn vs)&&(((s.2.drop base).take ret).all (okO (base+ret))&&(ret==0||decide (base+ret≤s.2.length)))then some (qn vs,s.2.take (base+ret))else none
  |none=>none
 |none=>none
theorem JA0{P:Program}{hints:Nat→Hint}{prim:Nat→Option (Nat→List V→Heap→Option (V×Heap))}{lo f nt ret:Nat}{rr:Bool}{args:List V}{h:Heap}{fn:Func}{b:Code}{rs:List ResultVar}{hi:Hint}
  (hp:prim f=none)(hf:P.funcs[f]? =some fn)(hb:fn.body=some b)(hn:fn.ntmps=nt)(hname:(fn.name != "runtime.NumGoroutine")=true) (hh:hints f=hi) (hcode:codeOk P hi nt b=true) (hrs:fn.results.toList=rs) (hret:hi.ret=ret) (hrr:hi.rawr=rr)
  (hargs:args.length≤nt) (hbare:args.all bare=true):
  ev P hints prim lo f args h=JTL P rs h.length ret rr (evCode ⟨P,ev P hints prim,lo,h.length,hi⟩ JA b (K2 args,h)):=by
 rw[Jav hp];unfold YR;subst hh hn hrs hret hrr;simp only[hf,hb];rw[if_pos (by simp[hcode,hargs,hbare,hname])]
 cases evCode ⟨P,ev P hints prim,lo,h.length,hints f⟩ JA b (K2 args,h)with
 |none=>rfl
 |some p=>obtain⟨e,s⟩:=p;cases e<;>rfl
theorem JTM{P:Program}{hints:Nat→Hint}{prim:Nat→Option (Nat→List V→Heap→Option (V×Heap))}{lo f nt:Nat}{args:List V}{h:Heap}{fn:Func}{b:Code}{rs:List ResultVar}{hi:Hint}
  (hp:prim f=none)(hf:P.funcs[f]? =some fn)(hb:fn.body=some b)(hn:fn.ntmps=nt)(hname:(fn.name != "runtime.NumGoroutine")=true) (hh:hints f=hi) (hcode:codeOk P hi nt b=true) (hrs:fn.results.toList=rs) (hret:hi.ret=0) (hrr:hi.rawr=false)
  (hargs:args.length≤nt) (hbare:args.all bare=true):
  ev P hints prim lo f args h=fin P rs h.length (evCode ⟨P,ev P hints prim,lo,h.length,hi⟩ JA b (K2 args,h)):=by
 rw[JA0 hp hf hb hn hname hh hcode hrs hret hrr hargs hbare]
 cases evCode ⟨P,ev P hints prim,lo,h.length,hi⟩ JA b (K2 args,h)with
 |none=>rfl
 |some p=>
  obtain⟨e,s⟩:=p
  have key:(match Kn P s rs with
    |some vs=>if okr (h.length+0) (qn vs)&&(((s.2.drop h.length).take 0).all (okO (h.length+0))&&((0:Nat)==0||decide (h.length+0≤s.2.length)))then some (qn vs,s.2.take (h.length+0))else none
    |none=>none)=match Kn P s rs with
    |some vs=>if okr h.length (qn vs)then some (qn vs,s.2.take h.length)else none
    |none=>none:=by
   simp only[Di,CQ,Bl,beq_self_eq_true,Cb,Cq]
  cases e<;>first|rfl|exact key
section merge
variable{p:Prop}[Decidable p]
theorem JWg(s t:St):(if p then some (Ex.normal,s)else some (Ex.normal,t))=some (Ex.normal,if p then s else t):=by split<;>rfl
theorem Jb8(s t:St):(if p then some (Ex.ret,s)else some (Ex.ret,t))=some (Ex.ret,if p then s else t):=by split<;>rfl
theorem JhP(s t:St):(if p then some s else some t)=some (if p then s else t):=by split<;>rfl
theorem JWh(g g':Ja)(h h':Heap):(if p then((g,h):St)else(g',h'))=(if p then g else g',if p then h else h'):=by split<;>rfl
theorem JWi(k:Nat)(v v':V)(g g':Ja):(if p then((k,v)::g:Ja)else(k,v')::g')=(k,if p then v else v')::(if p then g else g'):=by split<;>rfl
theorem m_v(x y:Value):(if p then V.v x else V.v y)=V.v (if p then x else y):=by split<;>rfl
theorem JWj(k:Own)(r q:List (List V)):(if p then V.list k r else V.list k q)=V.list k (if p then r else q):=by split<;>rfl
theorem JWk(x y:Bool):(if p then DG x else DG y)=DG (if p then x else y):=by split<;>rfl
theorem Jb9(k:IntKind)(x y:Int):(if p then Bp k x else Bp k y)=Bp k (if p then x else y):=by split<;>rfl
theorem JcA(x y:ByteArray):(if p then C5 x else C5 y)=C5 (if p then x else y):=by split<;>rfl
theorem JcB(x y:List V):(if p then V.agg x else V.agg y)=V.agg (if p then x else y):=by split<;>rfl
theorem JTN(x y:V)(l m:List V):(if p then x::l else y::m)=(if p then x else y)::(if p then l else m):=by split<;>rfl
theorem JWl{α:Type}(x:α):(if p then x else x)=x:=by split<;>rfl
theorem JcC(c:Cx)(id:Nat)(x y:Option St):JNR c id (if p then x else y)=if p then JNR c id x else JNR c id y:=by split<;>rfl
theorem JWm(c:Cx)(id:Nat)(k:Option Nat)(x y:Option St):JKo c id k (if p then x else y)=if p then JKo c id k x else JKo c id k y:=by split<;>rfl
theorem JWn(c:Cx)(lp:YB)(b:Code)(x y:Option (Ex×St)):yw c lp b (if p then x else y)=if p then yw c lp b x else yw c lp b y:=by split<;>rfl
theorem JTO(id:Nat)(x y:Option (Ex×St)):G7 id (if p then x else y)=if p then G7 id x else G7 id y:=by split<;>rfl
theorem JcD(x y:Option St):JAw (if p then x else y)=if p then JAw x else JAw y:=by split<;>rfl
theorem JWo(lp:YB)(f:St→Option (Ex×St))(x y:Option (Ex×St)):JAx lp f (if p then x else y)=if p then JAx lp f x else JAx lp f y:=by split<;>rfl
theorem JWp(c:Cx)(ops:Array Oper)(l:List Oper)(x y:Option St):JAy c ops l (if p then x else y)=if p then JAy c ops l x else JAy c ops l y:=by split<;>rfl
theorem JcG(P:Program)(rs:List ResultVar)(b:Nat)(x y:Option (Ex×St)):fin P rs b (if p then x else y)=if p then fin P rs b x else fin P rs b y:=by split<;>rfl
end merge
def gV(b:Bool)(v:V):V:=if b then v else .v undef
theorem JhQ(v:V):gV true v=v:=rfl
theorem JhR(v:V):gV false v= .v undef:=rfl
def Wp(b:Bool)(s:St)(r:Option (V×St)):Option (V×St):=if b then r else some (.v undef,s)
theorem JVN(s:St)(r:Option (V×St)):Wp true s r=r:=rfl
theorem JVO(s:St)(r:Option (V×St)):Wp false s r=some (.v undef,s):=rfl
theorem JcH(b:Bool)(s:St)(v:V):Wp b s (some (v,s))=some (gV b v,s):=by cases b<;>rfl
def gH(b:Bool)(r:Option V):Option V:=if b then r else some (.v undef)
theorem JcJ(r:Option V):gH true r=r:=rfl
theorem JcK(r:Option V):gH false r=some (.v undef):=rfl
theorem JhS(b:Bool)(v:V):gH b (some v)=some (gV b v):=by cases b<;>rfl
theorem w_b(c:Cx)(s:St)(ops:Array Oper)(o:Oper)(l:List Oper)(b:Bool):JHx c s ops o l (some b)=if Kw o.op=true then(if b=true then JNS c ops o.dst l (Wg c s o)else none)else JNS c ops o.dst l (Wp b s (Wg c s o)):=by
 cases b
 ·simp only[w_f,As,if_false,JVO]
  rfl
 ·simp only[w_t,if_true,JVN]
  split<;>rfl
theorem JhT(c:Cx)(s:St)(ops:Array Oper)(o:Oper)(l:List Oper)(b:Bool):JHy c s ops o l (some b)=if Kw o.op=true then(if b=true then JPj c s ops o.dst l (Kj c s o)else none)else JPj c s ops o.dst l (gH b (Kj c s o)):=by
 cases b
 ·simp only[Jb6,As,if_false,JcK]
  rfl
 ·simp only[Jb5,if_true,JcJ]
  split<;>rfl
def JL5(b:Bool):V→Option Bool
 | .v (.bool x)=>some (x==b)
 | .v (.tuple _)=>some false
 |_=>none
theorem JTP(ops:Array Oper)(g:Ja)(o:Oper):want ops g o=match o.guard with
  |none=>some true
  |some (j,b)=>match(ops[j]?).bind (·.dst)with
   |some t=>JL5 b (look g t)
   |none=>some false:=by
 unfold want
 cases o.guard with
 |none=>rfl
 |some p=>obtain⟨j,b⟩:=p;simp only;cases(ops[j]?).bind (·.dst)<;>rfl
theorem JhU(b x:Bool):JL5 b (.v (.bool x))=some (x==b):=rfl
theorem JhV(b:Bool):JL5 b (.v undef)=some false:=rfl
theorem JhW(b c x:Bool):JL5 b (gV c (.v (.bool x)))=some (c&&(x==b)):=by cases c<;>rfl
def pickC(b:Bool)(x y:V):V:=if b then x else y
theorem JhX(x y:V):pickC true x y=x:=rfl
theorem JhY(x y:V):pickC false x y=y:=rfl
theorem JcL(b x:Bool):pickC b (.v (.bool true)) (.v (.bool x))= .v (.bool (b||x)):=by cases b<;>rfl
theorem JWq(b x:Bool):pickC b (.v (.bool x)) (.v (.bool false))= .v (.bool (b&&x)):=by cases b<;>rfl
theorem JhZ(b:Bool)(x y:Value):pickC b (.v x) (.v y)= .v (if b=true then x else y):=by cases b<;>rfl
def ZP:V→V→V→Option V
 | .v (.bool x),p,q=>some (pickC x p q)
 |_,_,_=>none
theorem JWr{P:Program}{vars:List Nat}{s:St}{c a b:Operand}:JS P vars s (.pick c a b)=ZP (opd s.1 c) (cps (opd s.1 a)) (cps (opd s.1 b)):=by
 show(match opd s.1 c with
  | .v (.bool x)=>some (if x then cps (opd s.1 a)else cps (opd s.1 b))
  |_=>none)=_
 cases opd s.1 c with
 |v x=>cases x<;>rfl
 |_=>rfl
theorem Jha(x:Bool)(p q:V):ZP (.v (.bool x)) p q=some (pickC x p q):=rfl
theorem JcM(b:Bool)(v:V):cps (gV b v)=gV b (cps v):=by cases b<;>rfl
section ops
variable(P:Program)
def We(vars:List Nat)(t:Nat):V→Option V
 | .list .yes r=>some (.list (if t∈vars then .slot t else .no) r)
 |y=>some (cps y)
def G8(op:BinOp)(t:TypeId):V→V→Option V
 | .v a,.v b=>(JMu P op t a b).map .v
 | .agg cs,.agg ds=>
  match qj P t with
  |some ks=>
   match op with
   | .eql=>(eqCells ks cs ds).map λr=> .v (.bool r)
   | .neq=>(eqCells ks cs ds).map λr=> .v (.bool !r)
   |_=>none
  |none=>none
 |_,_=>none
def unV(op:UnOp):V→Option V
 | .v a=>(unS op a).map .v
 |_=>none
def WO:V→Option V
 | .ptr b o=>some (.ptr b o)
 | .rp cs=>some (.rp cs)
 | .fn f cs=>some (.fn f cs)
 |_=>none
def yx(h:Heap)(a b:TypeId):V→Option V
 | .v y=>JHJ P a b (.v y)
 | .list _ rows=>
  if W8 P b then
   match P.underlying a with
   |some (.slice e)=>if Zr P e then(bytesOf rows).map λl=> .v (.string ⟨l.toArray⟩)else if Zs P e then(ZD rows).map λl=> .v (.string (runesBytes l))else none
   |_=>none
  else none
 | .buf i o n=>
  if W8 P b then
   match P.underlying a,cellsOfOb h i with
   |some (.slice e),some cs=>if Zr P e&&decide (o+n≤cs.length)then(bytesOf (((cs.drop o).take n).map λx=>[x])).map λl=> .v (.string ⟨l.toArray⟩)else none
   |_,_=>none
  else none
 |_=>none
def QW(t:TypeId)(f:Nat)(x:V):Option V:=
 match x,JP P t f with
  | .ptr b o,some (k,u)=>if 0<JJ P u then some (.ptr b (o+k))else none
  | .rp cs,some (k,u)=>if 0<JJ P u∧k<cs.length then some (.rp (cs.drop k))else none
  |_,_=>none
def jc(t:TypeId)(f:Nat)(x:V):Option V:=
 match x,JP P t f with
  | .agg cs,some (k,u)=>KL P u (cs.drop k)
  |_,_=>none
def J3(t:TypeId)(x i:V):Option V:=
 match x,idx i,P.underlying t with
  | .list _ rows,some n,some (.slice e)=>
   if 0≤n then
    match rows[n.toNat]? with
    |some row=>if row.length=JJ P e∧0<JJ P e then some (.rp row)else none
    |none=>none
   else none
  | .buf b o m,some n,some (.slice e)=>if 0≤n∧n<m∧JJ P e=1 then some (.ptr b (o+n.toNat))else none
  | .stk b m sz,some n,some (.slice e)=>if 0≤n∧n<m∧JJ P e=sz∧0<sz then some (.ptr b (n.toNat*sz))else none
  | .ptr b o,some n,some (.array m e)=>if 0≤n∧n<m∧0<JJ P e then some (.ptr b (o+n.toNat*JJ P e))else none
  | .rp cs,some n,some (.array m e)=>if 0≤n∧n<m∧0<JJ P e∧n.toNat*JJ P e<cs.length then some (.rp (cs.drop (n.toNat*JJ P e)))else none
  |_,_,_=>none
def Wq(t:TypeId)(x i:V):Option V:=
 match x,idx i,P.underlying t with
  | .v (.string b),some n,some .string=>if 0≤n then(b.data[n.toNat]?).map λc=> .v (.int .u8 c.toNat)else none
  | .agg cs,some n,some (.array m e)=>
   if 0≤n∧n<m then
    KL P e (cs.drop (n.toNat*JJ P e))
   else none
  |_,_,_=>none
def Z0(i:Nat):V→Option V
 | .tup vs=>(vs[i]?).map cps
 |_=>none
def JCg(u:Option TypeDesc)(x:V):Option V:=
 match(some x:Option V),u with
   |some (.list _ rows),some (.slice _)=>some (.v (.int .i64 rows.length))
   |some .nil,some (.slice _)=>some (.v (.int .i64 0))
   |some (.buf _ _ n),some (.slice _)=>some (.v (.int .i64 n))
   |some (.stk _ n _),some (.slice _)=>some (.v (.int .i64 n))
   |some (.v (.string b)),some .string=>some (.v (.int .i64 b.size))
   |_,_=>none
variable{P}{vars:List Nat}{s:St}
theorem JWs(t:Nat):JS P vars s (.move (.tmp t))=We vars t (look s.1 t):=rfl
theorem JTQ(c:Value):JS P vars s (.move (.const c))=some (ofC c):=rfl
theorem JTR(n:Nat):JS P vars s (.move (.global n))=some (opd s.1 (.global n)):=rfl
theorem JTS(n:Nat):JS P vars s (.move (.func n))=some (.fn n []):=rfl
theorem JWt{t:TypeId}{a:Operand}:JS P vars s (.load t a)=W9 P s.2 t (opd s.1 a):=rfl
theorem JcN{op:BinOp}{t u:TypeId}{x y:Operand}:JS P vars s (.binOp op t x y u)=G8 P op t (opd s.1 x) (opd s.1 y):=rfl
theorem Jhb{op:UnOp}{t:TypeId}{x:Operand}:JS P vars s (.unOp op t x)=unV op (opd s.1 x):=rfl
theorem JcO{x:Operand}:JS P vars s (.nilCheck x)=WO (opd s.1 x):=rfl
theorem JWu{a b:TypeId}{x:Operand}:JS P vars s (.convert a b x)=yx P s.2 a b (opd s.1 x):=rfl
theorem Jhc{t:TypeId}{x:Operand}{f:Nat}:JS P vars s (.fieldAddr t x f)=QW P t f (opd s.1 x):=rfl
theorem Jhd{t:TypeId}{x:Operand}{f:Nat}:JS P vars s (.field t x f)=jc P t f (opd s.1 x):=rfl
theorem Jhe{t:TypeId}{x i:Operand}:JS P vars s (.indexAddr t x i)=J3 P t (opd s.1 x) (opd s.1 i):=rfl
theorem Jhf{t:TypeId}{x i:Operand}:JS P vars s (.index t x i)=Wq P t (opd s.1 x) (opd s.1 i):=rfl
theorem Jhg{x:Operand}{i:Nat}:JS P vars s (.extract x i)=Z0 i (opd s.1 x):=rfl
theorem JcP{x:Operand}{t:TypeId}:JS P vars s (.call {callee:= .builtin .len,args:= #[x],argTypes:= #[t]})=JCg (P.underlying t) (opd s.1 x):=rfl
def JcQ(a b:V):Option V:=
 match[a,b]with
 |[.v (.int k x),.v (.int k' y)]=>if k=k' then some (.v (.int k (if y<x then y else x)))else none
 |_=>none
def JcR(a b:V):Option V:=
 match[a,b]with
 |[.v (.int k x),.v (.int k' y)]=>if k=k' then some (.v (.int k (if y>x then y else x)))else none
 |_=>none
theorem JcS{x y:Operand}{ts:Array TypeId}:JS P vars s (.call {callee:= .builtin .min,args:= #[x,y],argTypes:=ts})=JcQ (opd s.1 x) (opd s.1 y):=rfl
theorem JcT{x y:Operand}{ts:Array TypeId}:JS P vars s (.call {callee:= .builtin .max,args:= #[x,y],argTypes:=ts})=JcR (opd s.1 x) (opd s.1 y):=rfl
theorem Jhh(k:IntKind)(x y:Int):JcQ (.v (.int k x)) (.v (.int k y))=some (.v (.int k (if y<x then y else x))):=if_pos rfl
theorem Jhi(k:IntKind)(x y:Int):JcR (.v (.int k x)) (.v (.int k y))=some (.v (.int k (if y>x then y else x))):=if_pos rfl
theorem JTT{t:TypeId}{parts:Array (Nat×Operand)}:JS P vars s (.build t parts)=(match Ku P t with
  |none=>none
  |some z=>
   match P.underlying t with
   |some (.struct _)=>if structOk P t then
    (Gs (λi=>(JP P t i).map λp=>(p.1,JJ P p.2)) (parts.toList.map λp=>(p.1,opd s.1 p.2)) (z.map Ke)).map .agg else none
   |some (.array _ e)=>if(P.info? e).isSome then
    (Gs (λi=>some (i*JJ P e,JJ P e)) (parts.toList.map λp=>(p.1,opd s.1 p.2)) (z.map Ke)).map .agg else none
   |_=>none):=rfl
theorem JTU{t:TypeId}{x:Operand}{lo hi mx:Option Operand}:JS P vars s (.slice t x lo hi mx)=(match mx,opd s.1 x,P.underlying t with
  |none,.v (.string b),some .string=>
   match qf s.1 hi b.size with
   |some h=>match qf s.1 lo 0 with
    |some l=>if l≤h∧h≤b.size then some (.v (.string (b.extract l h)))else none
    |none=>none
   |none=>none
  |none,.list _ rows,some (.slice e)=>
   match qf s.1 hi rows.length with
   |some h=>match qf s.1 lo 0 with
    |some l=>if l≤h∧h≤rows.length∧0<JJ P e∧(rows.all λr=>r.length==JJ P e)then some (.list .no ((rows.take h).drop l))else none
    |none=>none
   |none=>none
  |none,.stk b n sz,some (.slice e)=>
   match qf s.1 hi n with
   |some h=>match qf s.1 lo 0 with
    |some l=>if l=0∧h≤n∧JJ P e=sz∧0<sz then some (.stk b h sz)else none
    |none=>none
   |none=>none
  |none,.ptr b o,some (.array n e)=>
   match qf s.1 hi n with
   |some h=>match qf s.1 lo 0 with
    |some l=>if l≤h∧h≤n∧l<n∧JJ P e=1 then some (.buf b (o+l) (h-l))else none
    |none=>none
   |none=>none
  |_,_,_=>none):=rfl
theorem Jhj{f:Nat}{first caps:Array Operand}:JS P vars s (.makeFunc (.func f) first caps)=if((first.toList++caps.toList).all λc=>kG (opd s.1 c)&& !isU (opd s.1 c))=true then(if first.size=0 then some (.fn f (caps.toList.map λc=>cp (opd s.1 c)))else if caps.size=0 then some (.fn f (.undef::first.toList.map λc=>cp (opd s.1 c)))else none)else none:=rfl
theorem Jhk(t:Nat)(x:Value):We vars t (.v x)=some (.v x):=rfl
theorem Jhl(t:Nat)(r:List (List V)):We vars t (.list .yes r)=some (.list (if t∈vars then .slot t else .no) r):=rfl
theorem Jhm(t:Nat)(r:List (List V)):We vars t (.list .no r)=some (.list .no r):=rfl
theorem Jhn(t b o:Nat)(r:List (List V)):We vars t (.list (.cell b o) r)=some (.list .no r):=rfl
theorem Jho(t u:Nat)(r:List (List V)):We vars t (.list (.slot u) r)=some (.list .no r):=rfl
theorem Jhp(t:Nat):We vars t .nil=some .nil:=rfl
theorem Jhq(t b o:Nat):We vars t (.ptr b o)=some (.ptr b o):=rfl
theorem Jhr(t:Nat)(cs:List V):We vars t (.rp cs)=some (.rp cs):=rfl
theorem Jhs(t b o n:Nat):We vars t (.buf b o n)=some (.buf b o n):=rfl
theorem Jht(t b n sz:Nat):We vars t (.stk b n sz)=some (.stk b n sz):=rfl
theorem Jhu(t:Nat)(cs:List V):We vars t (.agg cs)=some (.agg (cs.map cp)):=rfl
theorem Jhv(t:Nat)(cs:List V):We vars t (.tup cs)=some (.tup cs):=rfl
theorem Jhw(t f:Nat)(cs:List V):We vars t (.fn f cs)=some (.fn f cs):=rfl
theorem Jhx(op:BinOp)(t:TypeId)(k:IntKind)(a:Int)(b:Value):G8 P op t (.v (.int k a)) (.v b)=(Kq op (.int k a) b).map .v:=rfl
theorem Jhy(op:BinOp)(t:TypeId)(a:ByteArray)(b:Value):G8 P op t (.v (.string a)) (.v b)=(Kq op (.string a) b).map .v:=rfl
theorem JcU(t:TypeId)(a b:Bool)(h:P.underlying t=some .bool):G8 P .eql t (.v (.bool a)) (.v (.bool b))=some (.v (.bool (a==b))):=by simp only[G8,JMu,h];rfl
theorem JcV(t:TypeId)(a b:Bool)(h:P.underlying t=some .bool):G8 P .neq t (.v (.bool a)) (.v (.bool b))=some (.v (.bool (!(a==b)))):=by simp only[G8,JMu,h];rfl
theorem Jhz(t:TypeId)(a b:List V):G8 P .eql t (.agg a) (.agg b)=match qj P t with
  |some ks=>(eqCells ks a b).map λr=> .v (.bool r)
  |none=>none:=rfl
theorem Jh0(t:TypeId)(a b:List V):G8 P .neq t (.agg a) (.agg b)=match qj P t with
  |some ks=>(eqCells ks a b).map λr=> .v (.bool !r)
  |none=>none:=rfl
theorem Jh1(op:UnOp)(a:Value):unV op (.v a)=(unS op a).map .v:=rfl
theorem Jh2(b o:Nat):WO (.ptr b o)=some (V.ptr b o):=rfl
theorem Jh3(cs:List V):WO (.rp cs)=some (.rp cs):=rfl
theorem Jh4(f:Nat)(cs:List V):WO (.fn f cs)=some (.fn f cs):=rfl
theorem Jh5(h:Heap)(a b:TypeId)(y:Value):yx P h a b (.v y)=JHJ P a b (.v y):=rfl
theorem Jh6(h:Heap)(a b:TypeId)(k:Own)(rows:List (List V)):yx P h a b (.list k rows)=if W8 P b then
   match P.underlying a with
   |some (.slice e)=>if Zr P e then(bytesOf rows).map λl=> .v (.string ⟨l.toArray⟩)else if Zs P e then(ZD rows).map λl=> .v (.string (runesBytes l))else none
   |_=>none
  else none:=rfl
theorem Jh7(h:Heap)(a b:TypeId)(i o n:Nat):yx P h a b (.buf i o n)=if W8 P b then
   match P.underlying a,cellsOfOb h i with
   |some (.slice e),some cs=>if Zr P e&&decide (o+n≤cs.length)then(bytesOf (((cs.drop o).take n).map λx=>[x])).map λl=> .v (.string ⟨l.toArray⟩)else none
   |_,_=>none
  else none:=rfl
theorem Jh8(t:TypeId)(f b o:Nat):QW P t f (.ptr b o)=match JP P t f with
  |some (k,u)=>if 0<JJ P u then some (V.ptr b (o+k))else none
  |none=>none:=by unfold QW;cases JP P t f<;>rfl
theorem Jh9(t:TypeId)(f:Nat)(cs:List V):QW P t f (.rp cs)=match JP P t f with
  |some (k,u)=>if 0<JJ P u∧k<cs.length then some (V.rp (cs.drop k))else none
  |none=>none:=by unfold QW;cases JP P t f<;>rfl
theorem JiA(t:TypeId)(f:Nat)(cs:List V):jc P t f (.agg cs)=match JP P t f with
  |some (k,u)=>KL P u (cs.drop k)
  |none=>none:=by unfold jc;cases JP P t f<;>rfl
theorem JiB(t:TypeId)(k:Own)(rows:List (List V))(kk:IntKind)(n:Int):J3 P t (.list k rows) (.v (.int kk n))=match P.underlying t with
  |some (.slice e)=>if 0≤n then
    match rows[n.toNat]? with
    |some row=>if row.length=JJ P e∧0<JJ P e then some (V.rp row)else none
    |none=>none
   else none
  |_=>none:=by
 show(match V.list k rows,some n,P.underlying t with
  | .list _ rows,some n,some (.slice e)=>
   if 0≤n then
    match rows[n.toNat]? with
    |some row=>if row.length=JJ P e∧0<JJ P e then some (V.rp row)else none
    |none=>none
   else none
  | .buf b o m,some n,some (.slice e)=>if 0≤n∧n<m∧JJ P e=1 then some (V.ptr b (o+n.toNat))else none
  | .stk b m sz,some n,some (.slice e)=>if 0≤n∧n<m∧JJ P e=sz∧0<sz then some (V.ptr b (n.toNat*sz))else none
  | .ptr b o,some n,some (.array m e)=>if 0≤n∧n<m∧0<JJ P e then some (V.ptr b (o+n.toNat*JJ P e))else none
  | .rp cs,some n,some (.array m e)=>if 0≤n∧n<m∧0<JJ P e∧n.toNat*JJ P e<cs.length then some (.rp (cs.drop (n.toNat*JJ P e)))else none
  |_,_,_=>none)=_
 cases P.underlying t with
 |none=>rfl
 |some d=>cases d<;>rfl
theorem JiC(t:TypeId)(b o m:Nat)(kk:IntKind)(n:Int):J3 P t (.buf b o m) (.v (.int kk n))=match P.underlying t with
  |some (.slice e)=>if 0≤n∧n<m∧JJ P e=1 then some (V.ptr b (o+n.toNat))else none
  |_=>none:=by
 unfold J3
 cases P.underlying t with
 |none=>rfl
 |some d=>cases d<;>rfl
theorem JiD(t:TypeId)(b m sz:Nat)(kk:IntKind)(n:Int):J3 P t (.stk b m sz) (.v (.int kk n))=match P.underlying t with
  |some (.slice e)=>if 0≤n∧n<m∧JJ P e=sz∧0<sz then some (V.ptr b (n.toNat*sz))else none
  |_=>none:=by
 unfold J3
 cases P.underlying t with
 |none=>rfl
 |some d=>cases d<;>rfl
theorem JiG(t:TypeId)(b o:Nat)(kk:IntKind)(n:Int):J3 P t (.ptr b o) (.v (.int kk n))=match P.underlying t with
  |some (.array m e)=>if 0≤n∧n<m∧0<JJ P e then some (V.ptr b (o+n.toNat*JJ P e))else none
  |_=>none:=by
 unfold J3
 cases P.underlying t with
 |none=>rfl
 |some d=>cases d<;>rfl
theorem JiH(t:TypeId)(cs:List V)(kk:IntKind)(n:Int):J3 P t (.rp cs) (.v (.int kk n))=match P.underlying t with
  |some (.array m e)=>if 0≤n∧n<m∧0<JJ P e∧n.toNat*JJ P e<cs.length then some (.rp (cs.drop (n.toNat*JJ P e)))else none
  |_=>none:=by
 unfold J3
 cases P.underlying t with
 |none=>rfl
 |some d=>cases d<;>rfl
theorem JiJ(t:TypeId)(b:ByteArray)(kk:IntKind)(n:Int)(hu:P.underlying t=some .string):Wq P t (.v (.string b)) (.v (.int kk n))=if 0≤n then(b.data[n.toNat]?).map λc=> .v (.int .u8 c.toNat)else none:=by unfold Wq;rw[hu];rfl
theorem JiK(t:TypeId)(cs:List V)(kk:IntKind)(n:Int):Wq P t (.agg cs) (.v (.int kk n))=match P.underlying t with
  |some (.array m e)=>if 0≤n∧n<m then KL P e (cs.drop (n.toNat*JJ P e))else none
  |_=>none:=by
 unfold Wq
 cases P.underlying t with
 |none=>rfl
 |some d=>cases d<;>rfl
theorem JiL(i:Nat)(vs:List V):Z0 i (.tup vs)=(vs[i]?).map cps:=rfl
theorem JiM(e:TypeId)(k:Own)(rows:List (List V)):JCg (some (.slice e)) (.list k rows)=some (.v (.int .i64 rows.length)):=rfl
theorem JiN(e:TypeId):JCg (some (.slice e)) .nil=some (.v (.int .i64 0)):=rfl
theorem JiO(e:TypeId)(b o n:Nat):JCg (some (.slice e)) (.buf b o n)=some (.v (.int .i64 n)):=rfl
theorem JiP(e:TypeId)(b n sz:Nat):JCg (some (.slice e)) (.stk b n sz)=some (.v (.int .i64 n)):=rfl
theorem JiQ(b:ByteArray):JCg (some .string) (.v (.string b))=some (.v (.int .i64 b.size)):=rfl
theorem JiR(h:Heap)(t:TypeId)(cs:List V):W9 P h t (.rp cs)=KL P t cs:=rfl
theorem JiS(h:Heap)(t:TypeId)(b o:Nat):W9 P h t (.ptr b o)=match cellsOfOb h b with
  |some cs=>match Qc P t with
   |some true=>KL P t (cs.drop o)
   |some false=>(cs[o]?).map (tagC b o)
   |none=>none
  |none=>none:=rfl
end ops
def pre(b c:Bool):Prop:=b=true→c=true
theorem JPk(b:Bool):pre b b=True:=eq_true λh=>h
theorem JTV{a x c:Bool}(h:pre a c):pre (a&&x) c=True:=eq_true λg=>h (by cases a<;>simp_all)
theorem J6{b c:Bool}(h:pre b c)(hb:b=true)(v:V):gV c v=v:=by rw[h hb];rfl
def GN(_:List V):Bool:=true
theorem JcW:GN []=true:=by unfold GN;rfl
theorem JcX(x:Value)(l:List V):GN (.v x::l)=GN l:=by unfold GN;rfl
theorem JcY(l:List V):GN (.nil::l)=GN l:=by unfold GN;rfl
theorem JcZ(k:Own)(r:List (List V))(l:List V):GN (.list k r::l)=GN l:=by unfold GN;rfl
theorem Jca(b o:Nat)(l:List V):GN (.ptr b o::l)=GN l:=by unfold GN;rfl
theorem Jcb(cs:List V)(l:List V):GN (.rp cs::l)=GN l:=by unfold GN;rfl
theorem Jcc(b o n:Nat)(l:List V):GN (.buf b o n::l)=GN l:=by unfold GN;rfl
theorem Jcd(b n sz:Nat)(l:List V):GN (.stk b n sz::l)=GN l:=by unfold GN;rfl
theorem Jce(cs:List V)(l:List V):GN (.agg cs::l)=GN l:=by unfold GN;rfl
theorem Jcf(cs:List V)(l:List V):GN (.tup cs::l)=GN l:=by unfold GN;rfl
theorem Jcg(f:Nat)(cs:List V)(l:List V):GN (.fn f cs::l)=GN l:=by unfold GN;rfl
theorem Jch(b:Bool)(x y:V)(l:List V):GN (pickC b x y::l)=GN l:=by unfold GN;rfl
theorem Jci(p:Prop)[Decidable p](x y:V)(l:List V):GN ((if p then x else y)::l)=GN l:=by unfold GN;rfl
theorem JNT(call:Yh)(lo:Nat)(s:St)(f:Operand)(args:List V)(_:GN args=true):Q1 call lo s f args=match opd s.1 f with
 | .fn f caps=>match call lo f (WR caps++(args.map fzs++WS caps)) s.2 with
  |some (r,h)=>some (r,(untagC s.1,h))
  |none=>none
 |_=>none:=by unfold Q1;rfl
section QO
variable{b c:Bool}{s:St}{P:Program}(h:pre b c)
include h
theorem JiT(v:V):Wp b s (some (gV c v,s))=some (gV b v,s):=by
 cases hb:b with
 |true=>rw[J6 h hb];rfl
 |false=>rfl
theorem JNU(vars:List Nat)(t:Nat)(x:V):Wp b s (KV s (We vars t (gV c x)))=Wp b s (KV s (We vars t x)):=by
 cases hb:b with
 |true=>rw[J6 h hb]
 |false=>rfl
theorem JKp(vars:List Nat)(t:Nat)(x:V):gH b (We vars t (gV c x))=gH b (We vars t x):=by
 cases hb:b with
 |true=>rw[J6 h hb]
 |false=>rfl
theorem JPl(op:BinOp)(t:TypeId)(x y:V):Wp b s (KV s (G8 P op t (gV c x) y))=Wp b s (KV s (G8 P op t x y)):=by
 cases hb:b with
 |true=>rw[J6 h hb]
 |false=>rfl
theorem JNV(op:BinOp)(t:TypeId)(x y:V):gH b (G8 P op t (gV c x) y)=gH b (G8 P op t x y):=by
 cases hb:b with
 |true=>rw[J6 h hb]
 |false=>rfl
theorem JPm(op:BinOp)(t:TypeId)(x y:V):Wp b s (KV s (G8 P op t x (gV c y)))=Wp b s (KV s (G8 P op t x y)):=by
 cases hb:b with
 |true=>rw[J6 h hb]
 |false=>rfl
theorem JNW(op:BinOp)(t:TypeId)(x y:V):gH b (G8 P op t x (gV c y))=gH b (G8 P op t x y):=by
 cases hb:b with
 |true=>rw[J6 h hb]
 |false=>rfl
theorem JTW(op:UnOp)(x:V):Wp b s (KV s (unV op (gV c x)))=Wp b s (KV s (unV op x)):=by
 cases hb:b with
 |true=>rw[J6 h hb]
 |false=>rfl
theorem JPn(op:UnOp)(x:V):gH b (unV op (gV c x))=gH b (unV op x):=by
 cases hb:b with
 |true=>rw[J6 h hb]
 |false=>rfl
theorem JCh(x:V):Wp b s (KV s (WO (gV c x)))=Wp b s (KV s (WO x)):=by
 cases hb:b with
 |true=>rw[J6 h hb]
 |false=>rfl
theorem JA1(x:V):gH b (WO (gV c x))=gH b (WO x):=by
 cases hb:b with
 |true=>rw[J6 h hb]
 |false=>rfl
theorem JNX(hp:Heap)(t u:TypeId)(x:V):Wp b s (KV s (yx P hp t u (gV c x)))=Wp b s (KV s (yx P hp t u x)):=by
 cases hb:b with
 |true=>rw[J6 h hb]
 |false=>rfl
theorem JKq(hp:Heap)(t u:TypeId)(x:V):gH b (yx P hp t u (gV c x))=gH b (yx P hp t u x):=by
 cases hb:b with
 |true=>rw[J6 h hb]
 |false=>rfl
theorem JA2(t:TypeId)(f:Nat)(x:V):Wp b s (KV s (QW P t f (gV c x)))=Wp b s (KV s (QW P t f x)):=by
 cases hb:b with
 |true=>rw[J6 h hb]
 |false=>rfl
theorem zU(t:TypeId)(f:Nat)(x:V):gH b (QW P t f (gV c x))=gH b (QW P t f x):=by
 cases hb:b with
 |true=>rw[J6 h hb]
 |false=>rfl
theorem JKr(t:TypeId)(f:Nat)(x:V):Wp b s (KV s (jc P t f (gV c x)))=Wp b s (KV s (jc P t f x)):=by
 cases hb:b with
 |true=>rw[J6 h hb]
 |false=>rfl
theorem JHz(t:TypeId)(f:Nat)(x:V):gH b (jc P t f (gV c x))=gH b (jc P t f x):=by
 cases hb:b with
 |true=>rw[J6 h hb]
 |false=>rfl
theorem JA3(t:TypeId)(x y:V):Wp b s (KV s (J3 P t (gV c x) y))=Wp b s (KV s (J3 P t x y)):=by
 cases hb:b with
 |true=>rw[J6 h hb]
 |false=>rfl
theorem zV(t:TypeId)(x y:V):gH b (J3 P t (gV c x) y)=gH b (J3 P t x y):=by
 cases hb:b with
 |true=>rw[J6 h hb]
 |false=>rfl
theorem JA4(t:TypeId)(x y:V):Wp b s (KV s (J3 P t x (gV c y)))=Wp b s (KV s (J3 P t x y)):=by
 cases hb:b with
 |true=>rw[J6 h hb]
 |false=>rfl
theorem zW(t:TypeId)(x y:V):gH b (J3 P t x (gV c y))=gH b (J3 P t x y):=by
 cases hb:b with
 |true=>rw[J6 h hb]
 |false=>rfl
theorem JKs(t:TypeId)(x y:V):Wp b s (KV s (Wq P t (gV c x) y))=Wp b s (KV s (Wq P t x y)):=by
 cases hb:b with
 |true=>rw[J6 h hb]
 |false=>rfl
theorem JH0(t:TypeId)(x y:V):gH b (Wq P t (gV c x) y)=gH b (Wq P t x y):=by
 cases hb:b with
 |true=>rw[J6 h hb]
 |false=>rfl
theorem JKt(t:TypeId)(x y:V):Wp b s (KV s (Wq P t x (gV c y)))=Wp b s (KV s (Wq P t x y)):=by
 cases hb:b with
 |true=>rw[J6 h hb]
 |false=>rfl
theorem JH1(t:TypeId)(x y:V):gH b (Wq P t x (gV c y))=gH b (Wq P t x y):=by
 cases hb:b with
 |true=>rw[J6 h hb]
 |false=>rfl
theorem JGj(i:Nat)(x:V):Wp b s (KV s (Z0 i (gV c x)))=Wp b s (KV s (Z0 i x)):=by
 cases hb:b with
 |true=>rw[J6 h hb]
 |false=>rfl
theorem JCi(i:Nat)(x:V):gH b (Z0 i (gV c x))=gH b (Z0 i x):=by
 cases hb:b with
 |true=>rw[J6 h hb]
 |false=>rfl
theorem JPo(u:Option TypeDesc)(x:V):Wp b s (KV s (JCg u (gV c x)))=Wp b s (KV s (JCg u x)):=by
 cases hb:b with
 |true=>rw[J6 h hb]
 |false=>rfl
theorem JNY(u:Option TypeDesc)(x:V):gH b (JCg u (gV c x))=gH b (JCg u x):=by
 cases hb:b with
 |true=>rw[J6 h hb]
 |false=>rfl
theorem JNZ(hp:Heap)(t:TypeId)(x:V):Wp b s (KV s (W9 P hp t (gV c x)))=Wp b s (KV s (W9 P hp t x)):=by
 cases hb:b with
 |true=>rw[J6 h hb]
 |false=>rfl
theorem JKu(hp:Heap)(t:TypeId)(x:V):gH b (W9 P hp t (gV c x))=gH b (W9 P hp t x):=by
 cases hb:b with
 |true=>rw[J6 h hb]
 |false=>rfl
theorem JNa(x y z:V):Wp b s (KV s (ZP (gV c x) y z))=Wp b s (KV s (ZP x y z)):=by
 cases hb:b with
 |true=>rw[J6 h hb]
 |false=>rfl
theorem JKv(x y z:V):gH b (ZP (gV c x) y z)=gH b (ZP x y z):=by
 cases hb:b with
 |true=>rw[J6 h hb]
 |false=>rfl
theorem JNb(x y z:V):Wp b s (KV s (ZP x (gV c y) z))=Wp b s (KV s (ZP x y z)):=by
 cases hb:b with
 |true=>rw[J6 h hb]
 |false=>rfl
theorem JKw(x y z:V):gH b (ZP x (gV c y) z)=gH b (ZP x y z):=by
 cases hb:b with
 |true=>rw[J6 h hb]
 |false=>rfl
theorem JNc(x y z:V):Wp b s (KV s (ZP x y (gV c z)))=Wp b s (KV s (ZP x y z)):=by
 cases hb:b with
 |true=>rw[J6 h hb]
 |false=>rfl
theorem JKx(x y z:V):gH b (ZP x y (gV c z))=gH b (ZP x y z):=by
 cases hb:b with
 |true=>rw[J6 h hb]
 |false=>rfl
theorem JPp(call:Yh)(lo:Nat)(s1:St)(f:Operand)(w:V)(l:List V):Wp b s (Q1 call lo s1 f (gV c w::l))=Wp b s (Q1 call lo s1 f (w::l)):=by
 cases hb:b with
 |true=>rw[J6 h hb]
 |false=>rfl
theorem JPq(call:Yh)(lo:Nat)(s1:St)(f:Operand)(x w:V)(l:List V):Wp b s (Q1 call lo s1 f (x::gV c w::l))=Wp b s (Q1 call lo s1 f (x::w::l)):=by
 cases hb:b with
 |true=>rw[J6 h hb]
 |false=>rfl
theorem JPr(call:Yh)(lo:Nat)(s1:St)(f:Operand)(x y w:V)(l:List V):Wp b s (Q1 call lo s1 f (x::y::gV c w::l))=Wp b s (Q1 call lo s1 f (x::y::w::l)):=by
 cases hb:b with
 |true=>rw[J6 h hb]
 |false=>rfl
theorem JPs(call:Yh)(lo:Nat)(s1:St)(f:Operand)(x y z w:V)(l:List V):Wp b s (Q1 call lo s1 f (x::y::z::gV c w::l))=Wp b s (Q1 call lo s1 f (x::y::z::w::l)):=by
 cases hb:b with
 |true=>rw[J6 h hb]
 |false=>rfl
theorem JPt(call:Yh)(lo:Nat)(s1:St)(f:Operand)(x y z u w:V)(l:List V):Wp b s (Q1 call lo s1 f (x::y::z::u::gV c w::l))=Wp b s (Q1 call lo s1 f (x::y::z::u::w::l)):=by
 cases hb:b with
 |true=>rw[J6 h hb]
 |false=>rfl
end QO
theorem JiU{d c:Bool}(h:pre (d==true) c)(v q:V):pickC d (gV c v) q=pickC d v q:=by
 cases d with
 |true=>rw[J6 h (by rfl)]
 |false=>rfl
theorem JiV{d c:Bool}(h:pre (d==false) c)(p v:V):pickC d p (gV c v)=pickC d p v:=by
 cases d with
 |true=>rfl
 |false=>rw[J6 h (by rfl)]
theorem Jcj{b d c:Bool}{s:St}(h:pre (b&&(d==true)) c)(v q:V):Wp b s (some (pickC d (gV c v) q,s))=Wp b s (some (pickC d v q,s)):=by
 cases hb:b with
 |false=>rfl
 |true=>
  cases hd:d with
  |false=>rfl
  |true=>rw[J6 h (by simp[hb,hd])]
theorem Jck{b d c:Bool}{s:St}(h:pre (b&&(d==false)) c)(p v:V):Wp b s (some (pickC d p (gV c v),s))=Wp b s (some (pickC d p v,s)):=by
 cases hb:b with
 |false=>rfl
 |true=>
  cases hd:d with
  |true=>rfl
  |false=>rw[J6 h (by simp[hb,hd])]
theorem Jcl{b d c:Bool}(h:pre (b&&(d==true)) c)(v q:V):gH b (some (pickC d (gV c v) q))=gH b (some (pickC d v q)):=by
 cases hb:b with
 |false=>rfl
 |true=>
  cases hd:d with
  |false=>rfl
  |true=>rw[J6 h (by simp[hb,hd])]
theorem Jcm{b d c:Bool}(h:pre (b&&(d==false)) c)(p v:V):gH b (some (pickC d p (gV c v)))=gH b (some (pickC d p v)):=by
 cases hb:b with
 |false=>rfl
 |true=>
  cases hd:d with
  |true=>rfl
  |false=>rw[J6 h (by simp[hb,hd])]
theorem JiW(x:Value):cp (.v x)= .v x:=rfl
theorem JiX:cp (.nil)= .nil:=rfl
theorem Jcn(r:List (List V)):cp (.list .no r)= .list .no r:=rfl
theorem JiY(r:List (List V)):cp (.list .yes r)= .list .no r:=rfl
theorem JiZ(b o:Nat)(r:List (List V)):cp (.list (.cell b o) r)= .list .no r:=rfl
theorem Jia(u:Nat)(r:List (List V)):cp (.list (.slot u) r)= .list .no r:=rfl
theorem Jib(b o:Nat):cp (.ptr b o)= .ptr b o:=rfl
theorem Jic(cs:List V):cp (.rp cs)= .rp cs:=rfl
theorem Jid(b o n:Nat):cp (.buf b o n)= .buf b o n:=rfl
theorem Jie(b n sz:Nat):cp (.stk b n sz)= .stk b n sz:=rfl
theorem Jif(cs:List V):cp (.agg cs)= .agg cs:=rfl
theorem Jig(vs:List V):cp (.tup vs)= .tup vs:=rfl
theorem Jih(f:Nat)(cs:List V):cp (.fn f cs)= .fn f cs:=rfl
theorem Jco(x:Value):cps (.v x)= .v x:=rfl
theorem Jcp:cps (.nil)= .nil:=rfl
theorem JWv(r:List (List V)):cps (.list .no r)= .list .no r:=rfl
theorem Jcq(r:List (List V)):cps (.list .yes r)= .list .no r:=rfl
theorem Jcr(b o:Nat)(r:List (List V)):cps (.list (.cell b o) r)= .list .no r:=rfl
theorem Jcs(u:Nat)(r:List (List V)):cps (.list (.slot u) r)= .list .no r:=rfl
theorem Jct(b o:Nat):cps (.ptr b o)= .ptr b o:=rfl
theorem Jcu(cs:List V):cps (.rp cs)= .rp cs:=rfl
theorem Jcv(b o n:Nat):cps (.buf b o n)= .buf b o n:=rfl
theorem Jcw(b n sz:Nat):cps (.stk b n sz)= .stk b n sz:=rfl
theorem Jcx(cs:List V):cps (.agg cs)= .agg (cs.map cp):=rfl
theorem Jcy(vs:List V):cps (.tup vs)= .tup vs:=rfl
theorem Jcz(f:Nat)(cs:List V):cps (.fn f cs)= .fn f cs:=rfl
theorem JWw(x:Value):own1 (.v x)= .v x:=rfl
theorem JWx:own1 (.nil)= .list .yes []:=rfl
theorem JTX(r:List (List V)):own1 (.list .no r)= .list .no r:=rfl
theorem JWy(r:List (List V)):own1 (.list .yes r)= .list .yes r:=rfl
theorem JWz(b o:Nat)(r:List (List V)):own1 (.list (.cell b o) r)= .list (.cell b o) r:=rfl
theorem JW0(u:Nat)(r:List (List V)):own1 (.list (.slot u) r)= .list (.slot u) r:=rfl
theorem JW1(b o:Nat):own1 (.ptr b o)= .ptr b o:=rfl
theorem JW2(cs:List V):own1 (.rp cs)= .rp cs:=rfl
theorem JW3(b o n:Nat):own1 (.buf b o n)= .buf b o n:=rfl
theorem JW4(b n sz:Nat):own1 (.stk b n sz)= .stk b n sz:=rfl
theorem JW5(cs:List V):own1 (.agg cs)= .agg cs:=rfl
theorem JW6(vs:List V):own1 (.tup vs)= .tup vs:=rfl
theorem JW7(f:Nat)(cs:List V):own1 (.fn f cs)= .fn f cs:=rfl
theorem JTY(x:Value):Km (.v x)= .v x:=rfl
theorem JTZ:Km (.nil)= .list .yes []:=rfl
theorem JPu(r:List (List V)):Km (.list .no r)= .list .no r:=rfl
theorem JTa(r:List (List V)):Km (.list .yes r)= .list .yes r:=rfl
theorem JTb(b o:Nat)(r:List (List V)):Km (.list (.cell b o) r)= .list (.cell b o) r:=rfl
theorem JTc(u:Nat)(r:List (List V)):Km (.list (.slot u) r)= .list (.slot u) r:=rfl
theorem JTd(b o:Nat):Km (.ptr b o)= .ptr b o:=rfl
theorem JTe(cs:List V):Km (.rp cs)= .rp cs:=rfl
theorem JTf(b o n:Nat):Km (.buf b o n)= .buf b o n:=rfl
theorem JTg(b n sz:Nat):Km (.stk b n sz)= .stk b n sz:=rfl
theorem JTh(cs:List V):Km (.agg cs)= .agg (cs.map own1):=rfl
theorem JTi(vs:List V):Km (.tup vs)= .tup vs:=rfl
theorem JTj(f:Nat)(cs:List V):Km (.fn f cs)= .fn f cs:=rfl
theorem Jii(x:Value):fz (.v x)= .v x:=rfl
theorem Jij:fz (.nil)= .list .no []:=rfl
theorem Jc0(r:List (List V)):fz (.list .no r)= .list .no r:=rfl
theorem Jik(r:List (List V)):fz (.list .yes r)= .list .no r:=rfl
theorem Jil(b o:Nat)(r:List (List V)):fz (.list (.cell b o) r)= .list .no r:=rfl
theorem Jim(u:Nat)(r:List (List V)):fz (.list (.slot u) r)= .list .no r:=rfl
theorem Jin(b o:Nat):fz (.ptr b o)= .ptr b o:=rfl
theorem Jio(cs:List V):fz (.rp cs)= .rp cs:=rfl
theorem Jip(b o n:Nat):fz (.buf b o n)= .buf b o n:=rfl
theorem Jiq(b n sz:Nat):fz (.stk b n sz)= .stk b n sz:=rfl
theorem Jir(cs:List V):fz (.agg cs)= .agg cs:=rfl
theorem Jis(vs:List V):fz (.tup vs)= .tup vs:=rfl
theorem Jit(f:Nat)(cs:List V):fz (.fn f cs)= .fn f cs:=rfl
theorem Jc1(x:Value):fzs (.v x)= .v x:=rfl
theorem Jc2:fzs (.nil)= .list .no []:=rfl
theorem JW8(r:List (List V)):fzs (.list .no r)= .list .no r:=rfl
theorem Jc3(r:List (List V)):fzs (.list .yes r)= .list .no r:=rfl
theorem Jc4(b o:Nat)(r:List (List V)):fzs (.list (.cell b o) r)= .list .no r:=rfl
theorem Jc5(u:Nat)(r:List (List V)):fzs (.list (.slot u) r)= .list .no r:=rfl
theorem Jc6(b o:Nat):fzs (.ptr b o)= .ptr b o:=rfl
theorem Jc7(cs:List V):fzs (.rp cs)= .rp cs:=rfl
theorem Jc8(b o n:Nat):fzs (.buf b o n)= .buf b o n:=rfl
theorem Jc9(b n sz:Nat):fzs (.stk b n sz)= .stk b n sz:=rfl
theorem JdA(cs:List V):fzs (.agg cs)= .agg (cs.map fz):=rfl
theorem JdB(vs:List V):fzs (.tup vs)= .tup vs:=rfl
theorem JdC(f:Nat)(cs:List V):fzs (.fn f cs)= .fn f cs:=rfl
theorem JPv(x:Value):Je (.v x)= .v x:=rfl
theorem JPw:Je (.nil)= .nil:=rfl
theorem JNd(r:List (List V)):Je (.list .no r)= .list .no r:=rfl
theorem JPx(r:List (List V)):Je (.list .yes r)= .list .yes r:=rfl
theorem JPy(b o:Nat)(r:List (List V)):Je (.list (.cell b o) r)= .list .no r:=rfl
theorem JPz(u:Nat)(r:List (List V)):Je (.list (.slot u) r)= .list .no r:=rfl
theorem JP0(b o:Nat):Je (.ptr b o)= .ptr b o:=rfl
theorem JP1(cs:List V):Je (.rp cs)= .rp cs:=rfl
theorem JP2(b o n:Nat):Je (.buf b o n)= .buf b o n:=rfl
theorem JP3(b n sz:Nat):Je (.stk b n sz)= .stk b n sz:=rfl
theorem JP4(cs:List V):Je (.agg cs)= .agg cs:=rfl
theorem JP5(vs:List V):Je (.tup vs)= .tup vs:=rfl
theorem JP6(f:Nat)(cs:List V):Je (.fn f cs)= .fn f cs:=rfl
theorem JNe(x:Value):Jx (.v x)= .v x:=rfl
theorem JNf:Jx (.nil)= .nil:=rfl
theorem JKy(r:List (List V)):Jx (.list .no r)= .list .no r:=rfl
theorem JNg(r:List (List V)):Jx (.list .yes r)= .list .yes r:=rfl
theorem JNh(b o:Nat)(r:List (List V)):Jx (.list (.cell b o) r)= .list .no r:=rfl
theorem JNi(u:Nat)(r:List (List V)):Jx (.list (.slot u) r)= .list (.slot u) r:=rfl
theorem JNj(b o:Nat):Jx (.ptr b o)= .ptr b o:=rfl
theorem JNk(cs:List V):Jx (.rp cs)= .rp cs:=rfl
theorem JNl(b o n:Nat):Jx (.buf b o n)= .buf b o n:=rfl
theorem JNm(b n sz:Nat):Jx (.stk b n sz)= .stk b n sz:=rfl
theorem JNn(cs:List V):Jx (.agg cs)= .agg cs:=rfl
theorem JNo(vs:List V):Jx (.tup vs)= .tup vs:=rfl
theorem JNp(f:Nat)(cs:List V):Jx (.fn f cs)= .fn f cs:=rfl
theorem JNq(b:Bool)(v:V):Jx (gV b v)=gV b (Jx v):=by cases b<;>rfl
theorem JP7(b:Bool)(v:V):Je (gV b v)=gV b (Je v):=by cases b<;>rfl
theorem Jiu(b:Bool)(v:V):fz (gV b v)=gV b (fz v):=by cases b<;>rfl
theorem JdD(b:Bool)(v:V):fzs (gV b v)=gV b (fzs v):=by cases b<;>rfl
theorem Jiv(b:Bool)(v:V):cp (gV b v)=gV b (cp v):=by cases b<;>rfl
theorem JL6(t u:Nat)(x:V):∀g:Ja,look (ins t x g) u=if t=u then x else look g u
 |[]=>by simp only[ins,look]
 |(k,y)::g=>by
  simp only[ins]
  split
  ·rfl
  ·split
   ·rename_i _ h
    subst h;simp only[look]
    split<;>rfl
   ·rename_i _ h
    simp only[look,JL6 t u x g]
    split
    ·rename_i h2
     subst h2;rw[if_neg h]
    ·rfl
theorem JDT(t:Nat)(x:V):∀g:Ja,untag (ins t x g)=ins t (Je x) (untag g)
 |[]=>rfl
 |(k,y)::g=>by
  simp only[ins]
  split
  ·rename_i h;simp only[untag,AU,ins,if_pos h]
  ·rename_i h1
   split
   ·rename_i h;simp only[untag,AU,ins,if_neg h1,if_pos h]
   ·rename_i h
    have:=JDT t x g;unfold untag at this⊢;simp only[AU,ins,if_neg h1,if_neg h,this]
theorem JNr:untag []=[]:=rfl
theorem JKz(k:Nat)(x:V)(g:Ja):untag ((k,x)::g)=(k,Je x)::untag g:=rfl
theorem JW9(b:Bool)(x y:V):cps (pickC b x y)=pickC b (cps x) (cps y):=by cases b<;>rfl
theorem JA5(t:Nat)(x:V):∀g:Ja,untagC (ins t x g)=ins t (Jx x) (untagC g)
 |[]=>rfl
 |(k,y)::g=>by
  simp only[ins]
  split
  ·rename_i h;simp only[untagC,AU,ins,if_pos h]
  ·rename_i h1
   split
   ·rename_i h;simp only[untagC,AU,ins,if_neg h1,if_pos h]
   ·rename_i h
    have:=JA5 t x g;unfold untagC at this⊢;simp only[AU,ins,if_neg h1,if_neg h,this]
theorem JK0:untagC []=[]:=rfl
theorem JH2(k:Nat)(x:V)(g:Ja):untagC ((k,x)::g)=(k,Jx x)::untagC g:=rfl
theorem JK1(b:Bool)(x y:V):Jx (pickC b x y)=pickC b (Jx x) (Jx y):=by cases b<;>rfl
theorem JNs(b:Bool)(x y:V):Je (pickC b x y)=pickC b (Je x) (Je y):=by cases b<;>rfl
theorem JP8(i:Nat):kilE i []=[]:=rfl
theorem JNt(i k:Nat)(x:V)(g:Ja):kilE i ((k,x)::g)=(k,kil i x)::kilE i g:=rfl
theorem JH3(i t:Nat)(x:V):∀g:Ja,kilE i (ins t x g)=ins t (kil i x) (kilE i g)
 |[]=>rfl
 |(k,y)::g=>by
  simp only[ins]
  split
  ·rename_i h;simp only[kilE,AU,ins,if_pos h]
  ·rename_i h1
   split
   ·rename_i h;simp only[kilE,AU,ins,if_neg h1,if_pos h]
   ·rename_i h
    have:=JH3 i t x g;unfold kilE at this⊢;simp only[AU,ins,if_neg h1,if_neg h,this]
theorem JP9(h l:List Ob):(h++l).drop h.length=l:=List.drop_left
theorem JQA(h:List Ob):h.drop h.length=[]:=List.drop_length
theorem JdG(i:Nat)(x:Value):kil i (.v x)= .v x:=rfl
theorem JdH(i:Nat):kil i .nil= .nil:=rfl
theorem JdJ(i:Nat)(k:Own)(r:List (List V)):kil i (.list k r)= .list k r:=rfl
theorem JdK(i:Nat)(cs:List V):kil i (.rp cs)= .rp cs:=rfl
theorem JdL(i:Nat):kil i .undef= .undef:=rfl
theorem JdM(i b o:Nat):kil i (.ptr b o)=if decide (b≠i)=true then .ptr b o else .undef:=rfl
theorem JdN(i b o n:Nat):kil i (.buf b o n)=if decide (b≠i)=true then .buf b o n else .undef:=rfl
theorem JdO(i b n sz:Nat):kil i (.stk b n sz)=if decide (b≠i)=true then .stk b n sz else .undef:=rfl
theorem JdP(i:Nat)(cs:List V):kil i (.agg cs)=if cs.all (avf i)=true then .agg cs else .undef:=rfl
theorem JdQ(i f:Nat)(cs:List V):kil i (.fn f cs)=if cs.all (avc i)=true then .fn f cs else .undef:=rfl
theorem JdR(i:Nat)(cs:List V):kil i (.tup cs)=if cs.all (avv i)=true then .tup cs else .undef:=rfl
theorem JdS(i:Nat)(b:Bool)(v:V):kil i (gV b v)=gV b (kil i v):=by cases b<;>rfl
theorem rg0:A9 0=[]:=rfl
theorem rg1:A9 1=[0]:=rfl
theorem rg2:A9 2=[0,1]:=rfl
theorem rg3:A9 3=[0,1,2]:=rfl
theorem rg4:A9 4=[0,1,2,3]:=rfl
theorem rg5:A9 5=[0,1,2,3,4]:=rfl
theorem rg6:A9 6=[0,1,2,3,4,5]:=rfl
theorem rg7:A9 7=[0,1,2,3,4,5,6]:=rfl
theorem rg8:A9 8=[0,1,2,3,4,5,6,7]:=rfl
attribute [go_sem] List.mem_cons or_false false_or true_or or_true eq_self List.all_append rg0 rg1 rg2 rg3 rg4 rg5 rg6 rg7 rg8 Int.reduceLE Int.reduceLT Int.reduceToNat Lb Nat.reduceLeDiff Nat.reduceMul true_and and_true Option.isSome_some Dl CQ Value.oneCell'
attribute [go_sem] JL6 JDT JNr JKz JW9 JNs JA5 JK0 JH2 JK1 JNe JNf JKy JNg JNh JNi JNj JNk JNl JNn JNo JNp JNq decide_true decide_false
attribute [go_sem high] JiT Jcj Jck Jcl Jcm JcL JWq
attribute [go_sem low] JhZ JcH JhS w_b JhT
attribute [go_sem] JiW JiX Jcn JiY JiZ Jia Jib Jic Jid Jif Jig Jih Jco Jcp JWv Jcq Jcr Jcs Jct Jcu Jcv Jcx Jcy Jcz JWw JWx JTX JWy JWz JW0 JW1 JW2 JW3 JW5 JW6 JW7 JTY JTZ JPu JTa JTb JTc JTd JTe JTf JTh JTi JTj Jii Jij Jc0 Jik Jil Jim Jin Jio Jip Jir Jis Jit Jc1 Jc2 JW8 Jc3 Jc4 Jc5 Jc6 Jc7 Jc8 JdA JdB JdC JPv JPw JNd JPx JPy JPz JP0 JP1 JP2 JP4 JP5 JP6 JP7 Jiu JdD Jiv
attribute [go_sem] WR WS isU isRow zi List.isEmpty_cons JhG JhH Zu JhO JiD JiP Jht Jcd Jie Jcw JW4 JTg Jiq Jc9 JP3 JNm JP8 JNt JH3 JP9 JQA JdG JdH JdJ JdK JdL JdM JdN JdO JdP JdQ JdR JdS avc avf avv kilf JGC qi Qd Gr Gu qk ZG JJ6 JTL JAT Kx okO Bl LI List.flatten_cons List.flatten_nil
attribute [go_sem] JPd JWP JWQ JWR JWa JWb JWm
attribute [go_sem] JWg Jb8 JhP JWh JWi m_v JWj JWk Jb9 JcA JcB JTN JWl JcC JWn JTO JcD JWo JWp JcG JhQ JhR JVN JVO JcJ JcK JhU JhV JhW JhX JhY Jha JcM JPc JTP JWs JTQ JTR JTS JWt JcN Jhb JcO JWu Jhc Jhd Jhe Jhf Jhg JcP JcS JcT Jhh Jhi JTT JTU Jhj JWr Jhk Jhl Jhm Jhn Jho Jhp Jhq Jhr Jhs Jhu Jhv Jhw Jhx Jhy JcU JcV Jhz Jh0 Jh1 Jh2 Jh3 Jh4 Jh5 Jh6 Jh7 Jh8 Jh9 JiA JiB JiC JiG JiH JiJ JiK JiL JiM JiN JiO JiQ JiR JiS JPk JTV JNU JKp JPl JNV JPm JNW JTW JPn JCh JA1 JNX JKq JA2 zU JKr JHz JA3 zV JA4 zW JKs JH0 JKt JH1 JGj JCi JPo JNY JNZ JKu JNa JKv JNb JKw JNc JKx JPp JPq JPr JPs JPt JiU JiV JHJ BS Bool.or_true Cb Bool.or_false Bool.false_or Bool.and_false AZ Bool.true_beq Bool.false_beq JPX JPY c_seq JPZ ka JWD JWG JS7 JS8 JbK JKn JWH JWJ JWK JWL JWM JS9 JTA JTB JTC JWN JWO JK KP Wo
 JWS JTD JTG Jgs Hl JGJ JWT Jgt Jgu JbL JWV JWU Jgv JbN JbO JbP Jgw Jgx JAR JLo JTH Jg0 Jg1 Jg2 JbU JbV JbW JbX JbY JbZ Jba Jbb Jbc Jbd Jbe Jbf Jbg Jbh Jbi Jbj Jbk Jbl Jbm Jbn Jbo Jbp Jbq Jbr Jbs Jbt Jbu Jbv Jbw JWY JWX JbS JbT Jgy Jgz JTJ Jg3 Jg4 Jg5 Jg6 Jg7 Jbx JPa Jgk Jgl Jgm Jgn Jgo Jgp Jgq Jgr JbQ JbR JAS evLate1 YY Jby Jg8 Jg9 JhA JhB JhC JhD List.contains_cons List.contains_nil JWZ Jbz Jb0 Jb1 JWc w_t w_f a_s a_0 JWd JWe Jb3 JhJ JhK Jb4 JWf Jb5 Jb6 JhL Jb7 JhM JhN
 Jaz Ja0 Ja1 Ja2 Ja3 Ja4 Jgj Ja5 Ja6 Ja7 Ja8 Ja9 JbA JbB JbC JbD JV2 JV3 JV8 JV4 JV5 JV6 JV7 JbG JbH
 Yg Q0 opd look put lives Kw KY Jj ofC Ke Jo idx qf KL tagC cellsV Wf Qm okc okv okr Gs fzr
 Zt WT Gt H3 JNT JcW JcX JcY JcZ Jca Jcb Jcc Jce Jcf Jcg Jch Jci fin JCw Kn qn K2 setOb cellsOfOb bare kG JT JG JC List.zipIdx Option.getD_some Af List.append_nil Ae JGg JPS JWC JPV JPW G6 ZO JWB JL0 JPT JPU JbJ JV9 JWA JS6 List.set_cons_zero List.set_cons_succ Co Cf List.append_assoc n0 bne_self_eq_false beq_self_eq_true Bool.not_true Bh
attribute [go_sem] Nat.reduceEqDiff Nat.reduceLT Nat.reduceAdd Nat.lt_irrefl reduceIte if_true if_false Option.some.injEq Nat.not_lt_zero Nat.reduceBEq
attribute [go_sem] A5 Option.map_none Option.bind_some AU List.map_nil LQ Di BV List.drop_zero MH LI List.getElem?_cons_zero List.getElem?_cons_succ
 List.getElem?_toArray List.length_cons List.length_nil Int.toNat_natCast As List.not_mem_nil List.size_toArray and_self List.all_cons CQ Cq AR Int.natCast_nonneg
@[go_sem] theorem JVP(l:List Int):J5 (ri .i32 l)=false:=by cases l<;>rfl
@[go_sem] theorem JnD(r:List V)(l:List (List V)):J5 (r::l)=JGG r:=rfl
@[go_sem] theorem JnG:J5 []=false:=rfl
attribute [go_sem] zP kH Zq QB byT JGG List.any_cons List.any_nil
end Go.Lift
end

section
namespace Go.Lift
theorem JQB(h l:List Ob)(k:Nat):(h++l).drop (h.length+k)=l.drop k:=by rw[List.drop_append,List.drop_of_length_le om,Af,Bv]
theorem JXA(h:List Ob)(a b c:Nat):decide (h.length+a<h.length+b+c)=decide (a<b+c):=by rw[decide_eq_decide];omega
theorem JXB(h:List Ob)(b c:Nat):decide (h.length<h.length+b+c)=decide (0<b+c):=by rw[decide_eq_decide];omega
theorem JQC(h l:List Ob)(a b:Nat):(h++l).take (h.length+a+b)=h++l.take (a+b):=by rw[Nat.add_assoc];exact JL0 h l (a+b)
theorem JNu:Je .undef= .undef:=rfl
theorem Zd{α:Type}{l:List α}{n:Nat}{x:α}(hn:n<l.length):l.take n++x::l.drop (n+1)=l.set n x:=by rw[List.set_eq_take_append_cons_drop,if_pos hn]
theorem JNv:Je .any= .any:=rfl
theorem JK2:Jx .undef= .undef:=rfl
theorem JK3:Jx .any= .any:=rfl
attribute [go_sem] JNv JK2 JK3
theorem Jiw:((2:Nat) !=0)=true:=rfl
theorem Jix:((1:Nat) !=0)=true:=rfl
theorem Jiy:((0:Nat) !=0)=false:=rfl
attribute [go_sem] Jiw Jix Jiy
theorem JXC:sw 0 4=4:=rfl
theorem JXD:sw 0 5=5:=rfl
theorem JXG:sw 0 6=6:=rfl
theorem JXH:sw 0 7=7:=rfl
theorem JXJ:sw 0 8=8:=rfl
theorem JXK:sw 0 9=9:=rfl
theorem JXL:sw 1 3=3:=rfl
theorem JXM:sw 1 4=4:=rfl
theorem JXN:sw 1 5=5:=rfl
theorem JXO:sw 1 6=6:=rfl
theorem JXP:sw 1 7=7:=rfl
theorem JXQ:sw 1 8=8:=rfl
theorem JXR:sw 1 9=9:=rfl
theorem JXS:sw 2 4=4:=rfl
theorem JXT:sw 2 5=5:=rfl
theorem JXU:sw 2 6=6:=rfl
theorem JXV:sw 2 7=7:=rfl
theorem JXW:sw 2 8=8:=rfl
theorem JXX:sw 2 9=9:=rfl
theorem JXY:sw 3 0=0:=rfl
theorem JXZ:sw 3 1=1:=rfl
theorem JXa:sw 3 2=2:=rfl
theorem JXb:sw 3 3=4:=rfl
theorem JXc:sw 3 4=3:=rfl
theorem JXd:sw 3 5=5:=rfl
theorem JXe:sw 3 6=6:=rfl
theorem JXf:sw 3 7=7:=rfl
theorem JXg:sw 3 8=8:=rfl
theorem JXh:sw 3 9=9:=rfl
theorem JXi:sw 4 0=0:=rfl
theorem JXj:sw 4 1=1:=rfl
theorem JXk:sw 4 2=2:=rfl
theorem JXl:sw 4 3=3:=rfl
theorem JXm:sw 4 4=5:=rfl
theorem JXn:sw 4 5=4:=rfl
theorem JXo:sw 4 6=6:=rfl
theorem JXp:sw 4 7=7:=rfl
theorem JXq:sw 4 8=8:=rfl
theorem JXr:sw 4 9=9:=rfl
theorem JXs:sw 5 0=0:=rfl
theorem JXt:sw 5 1=1:=rfl
theorem JXu:sw 5 2=2:=rfl
theorem JXv:sw 5 3=3:=rfl
theorem JXw:sw 5 4=4:=rfl
theorem JXx:sw 5 5=6:=rfl
theorem JXy:sw 5 6=5:=rfl
theorem JXz:sw 5 7=7:=rfl
theorem JX0:sw 5 8=8:=rfl
theorem JX1:sw 5 9=9:=rfl
theorem JX2:sw 6 0=0:=rfl
theorem JX3:sw 6 1=1:=rfl
theorem JX4:sw 6 2=2:=rfl
theorem JX5:sw 6 3=3:=rfl
theorem JX6:sw 6 4=4:=rfl
theorem JX7:sw 6 5=5:=rfl
theorem JX8:sw 6 6=7:=rfl
theorem JX9:sw 6 7=6:=rfl
theorem JYA:sw 6 8=8:=rfl
theorem JYB:sw 6 9=9:=rfl
theorem JYC:sw 7 0=0:=rfl
theorem JYD:sw 7 1=1:=rfl
theorem JYG:sw 7 2=2:=rfl
theorem JYH:sw 7 3=3:=rfl
theorem JYJ:sw 7 4=4:=rfl
theorem JYK:sw 7 5=5:=rfl
theorem JYL:sw 7 6=6:=rfl
theorem JYM:sw 7 7=8:=rfl
theorem JYN:sw 7 8=7:=rfl
theorem JYO:sw 7 9=9:=rfl
theorem JdT{α:Type}(a b c x y:α)(l:List α):ql 3 (a::b::c::x::y::l)=a::b::c::y::x::l:=rfl
theorem JdU{α:Type}(a b c d x y:α)(l:List α):ql 4 (a::b::c::d::x::y::l)=a::b::c::d::y::x::l:=rfl
theorem JdV{α:Type}(a b c d e x y:α)(l:List α):ql 5 (a::b::c::d::e::x::y::l)=a::b::c::d::e::y::x::l:=rfl
theorem JdW{α:Type}(a b c d e f x y:α)(l:List α):ql 6 (a::b::c::d::e::f::x::y::l)=a::b::c::d::e::f::y::x::l:=rfl
theorem JdX{α:Type}(a b c d e f g x y:α)(l:List α):ql 7 (a::b::c::d::e::f::g::x::y::l)=a::b::c::d::e::f::g::y::x::l:=rfl
theorem JYP(j f:Nat)(cs:List V):swr j (.fn f cs)= .fn f (cs.map (swc j)):=rfl
theorem JYQ(j f:Nat)(cs:List V):zl j (.fn f cs)= .fn f (cs.map (swc j)):=rfl
theorem JdY(j b n z:Nat):zl j (.stk b n z)= .stk (sw j b) n z:=rfl
theorem JdZ(j b n z:Nat):zl j (.buf b n z)= .buf (sw j b) n z:=rfl
theorem Jda(j b o:Nat):swc j (.ptr b o)= .ptr (sw j b) o:=rfl
theorem JYR(j b n z:Nat):swc j (.stk b n z)= .stk (sw j b) n z:=rfl
theorem Jdb(j:Nat)(k:Own)(r:List (List V)):swc j (.list k r)= .list k r:=rfl
theorem Jdc(j:Nat)(x:Value):swc j (.v x)= .v x:=rfl
theorem JYS(j:Nat):swr j .any= .any:=rfl
theorem JYT(j:Nat)(cs:List V):swr j (.agg cs)= .agg (cs.map (zl j)):=rfl
attribute [go_sem] JXC JXD JXG JXH JXJ JXK JXL JXM JXN JXO JXP JXQ JXR JXS JXT JXU JXV JXW JXX JXY JXZ JXa JXb JXc JXd JXe JXf JXg JXh JXi JXj JXk JXl JXm JXn JXo JXp JXq JXr JXs JXt JXu JXv JXw JXx JXy JXz JX0 JX1 JX2 JX3 JX4 JX5 JX6 JX7 JX8 JX9 JYA JYB JYC JYD JYG JYH JYJ JYK JYL JYM JYN JYO JdT JdU JdV JdW JdX JYP JYQ JdY JdZ Jda JYR Jdb Jdc JYS JYT Bv CR
theorem JYU(h:List Ob)(a b c:Nat):(h.length+a+b<h.length+c)=(a+b<c):=by rw[eq_iff_iff];omega
theorem JYV(h:List Ob)(k:Nat):decide (h.length+(k+1)≠h.length)=true:=by rw[decide_eq_true_iff];omega
theorem JYW(h:List Ob):decide (h.length≠h.length)=false:=by rw[decide_eq_false_iff_not];omega
theorem JYX(h:List Ob)(a b:Nat):decide (h.length+a≠h.length+b)=decide (a≠b):=by rw[decide_eq_decide];omega
theorem JYY(h:List Ob)(k:Nat):decide (h.length≠h.length+(k+1))=true:=by rw[decide_eq_true_iff];omega
theorem JYZ(h:List Ob)(a b:Nat):decide (h.length+a<h.length+b)=decide (a<b):=by rw[decide_eq_decide];omega
theorem JYa(h:List Ob)(k:Nat):decide (h.length<h.length+(k+1))=true:=by rw[decide_eq_true_iff];omega
theorem JTk(a:Nat):decide (a≠a)=false:=by simp
attribute [go_sem] JTk
theorem JYb(h:List Ob)(k:Nat):(h.length+(k+1)=h.length)=False:=by rw[eq_iff_iff,iff_false];omega
theorem JYc(h:List Ob)(a b:Nat):(h.length+a<h.length+b)=(a<b):=by rw[eq_iff_iff];omega
theorem Jiz(n a b:Nat):sw n (n+a+b)=n+sw 0 (a+b):=by
 unfold sw
 repeat' split
 all_goals omega
theorem Ji0(n i a b:Nat):sw (n+i) (n+a+b)=n+sw i (a+b):=by
 unfold sw
 repeat' split
 all_goals omega
attribute [go_sem] JYc Jiz Ji0
attribute [go_sem] JYb
attribute [go_sem] JYU JYZ JYa JYV JYW JYX JYY
attribute [go_sem] Nat.le_add_right Nat.le_refl Nat.add_le_add_iff_left
theorem JYd{a b:Nat}(h:(a==b)=false):(a≠b)=True:=by rw[eq_iff_iff,iff_true];intro e;rw[e,beq_self_eq_true]at h;cases h
attribute [go_sem] JYd L4 JNu
attribute [go_sem] JQB LH JXA JXB JQC
def flat:Code->List Code
 | .seq a b=>flat a++flat b
 |c=>[c]
variable[GTab][BTy]
section
variable(c:Cx)(lp:YB)(s:St)
noncomputable def QM:List Code->St->Option (Ex×St)
 |[],s=>some (.normal,s)
 |a::l,s=>match evCode c lp a s with
  |some (.normal,s')=>QM l s'
  |r=>r
noncomputable def JDU(l:List Code):Option (Ex×St)->Option (Ex×St)
 |some (.normal,s')=>QM c lp l s'
 |r=>r
theorem Jdd:QM c lp [] s=some (.normal,s):=rfl
theorem JGk(a:Code)(l:List Code):QM c lp (a::l) s=JDU c lp l (evCode c lp a s):=by
 simp only[QM]
 cases evCode c lp a s with
 |none=>rfl
 |some p=>obtain⟨e,s'⟩:=p;cases e<;>rfl
theorem JTl(l:List Code):JDU c lp l (some (.normal,s))=QM c lp l s:=rfl
theorem Ji1(l:List Code):JDU c lp l (some (.ret,s))=some (.ret,s):=rfl
theorem Ji2(l:List Code)(id:Nat):JDU c lp l (some (.exit id,s))=some (.exit id,s):=rfl
theorem Ji3(l:List Code):JDU c lp l none=none:=rfl
theorem l_app(m:List Code):∀(l:List Code) (s:St),QM c lp (l++m) s=JDU c lp m (QM c lp l s)
 |[],s=>rfl
 |a::l,s=>by
  rw[Ae,JGk,JGk]
  cases evCode c lp a s with
  |none=>rfl
  |some p=>
   obtain⟨e,s'⟩:=p
   cases e with
   |normal=>rw[JTl,JTl];exact l_app m l s'
   |exit j=>rfl
   |ret=>rfl
theorem one_l(a:Code):QM c lp [a] s=evCode c lp a s:=by
 rw[JGk]
 cases evCode c lp a s with
 |none=>rfl
 |some p=>obtain⟨e,s'⟩:=p;cases e<;>rfl
theorem JTm:∀(b:Code) (s:St),evCode c lp b s=QM c lp (flat b) s:=by
 intro b
 induction b with
 |seq a b iha ihb=>
  intro s;rw[c_seq,flat,l_app,<-iha]
  cases evCode c lp a s with
  |none=>rfl
  |some p=>
   obtain⟨e,s'⟩:=p
   cases e with
   |normal=>rw[JKn,JTl];exact ihb s'
   |exit j=>rfl
   |ret=>rfl
 |_=>intro s;exact(one_l c lp s _).symm
def pc(b:Code)(i n:Nat):List Code:=((flat b).drop i).take n
noncomputable def JL7(b:Code)(i:Nat):Option (Ex×St)->Option (Ex×St)
 |some (.normal,s')=>QM c lp ((flat b).drop i) s'
 |r=>r
theorem pc_in(b:Code):evCode c lp b s=JL7 c lp b 0 (some (.normal,s)):=by rw[JTm];rfl
theorem pc_go(b:Code)(i n:Nat):JL7 c lp b i (some (.normal,s))=JL7 c lp b (i+n) (QM c lp (pc b i n) s):=by
 show QM c lp ((flat b).drop i) s=_
 have e:(flat b).drop i=pc b i n++(flat b).drop (i+n):=by unfold pc;rw[<-List.drop_drop];exact(List.take_append_drop n _).symm
 rw[e,l_app];rfl
theorem Qw(b:Code)(i:Nat):JL7 c lp b i (some (.ret,s))=some (.ret,s):=rfl
end
theorem Ji4(a b:Code):flat (.seq a b)=flat a++flat b:=rfl
theorem Ji5(id:Nat)(ops:Array Oper)(d:Bool):flat (.region id ops d)=[.region id ops d]:=rfl
theorem Ji6(x:Operand)(a b:Code):flat (.cond x a b)=[.cond x a b]:=rfl
theorem Ji7(id:Nat)(a:Code):flat (.block id a)=[.block id a]:=rfl
theorem Ji8(a:Code):flat (.loop a)=[.loop a]:=rfl
theorem Ji9(id:Nat):flat (.exit id)=[.exit id]:=rfl
theorem JjA:flat .ret=[.ret]:=rfl
theorem JjB:flat .skip=[.skip]:=rfl
theorem JjC(a:Code):flat (.scope a)=[.scope a]:=rfl
theorem JjD(l:List Code):l.drop 0=l:=rfl
attribute [go_sem] Jdd JGk JTl Ji1 Ji2 Ji3 pc Ji4 Ji5 Ji6 Ji7 Ji8 Ji9 JjA JjB JjC JjD BV LQ Di LI MH
end Go.Lift
end
