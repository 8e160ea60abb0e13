/- The lifting: values, states, evaluation, and that it is sound. -/
import Derived.Laws.AppendOwn
import Derived.Test.YtolidijpmnompaaGreatDoorGLc
open BitVec renaming ofInt->Ap
open Bool renaming and_eq_true->Af,and_self->CN,and_true->B7,false_and->As,false_eq_true->Al,false_or->A3,not_false->A5,not_true->AN,true_and->Aw,true_or->Bp
open Go.IntKind renaming bits->CA,i64->Am,signed->Cp,wrap->Dd
open Go.Op renaming bytesLess->CY
open Go.Value renaming bool->CU,int->A9,string->CK
open Int renaming reducePow->DO
open List renaming all_cons->Bi,all_nil->Dt,cons_append->AA,drop_nil->CB,drop_succ_cons->BQ,length_map->Aq,map_cons->A2,mem_append->AO,mem_of_getElem? ->Aj,nil_append->Au,not_mem_nil->BG,range->Bf,set_append->DG,take_left->CG,take_length->BP,take_nil->L4,take_succ_cons->Ls,take_zero->Cd
open Nat renaming add_sub_cancel_left->BD,add_zero->Bo,le_refl->Ad,reduceSub->Lm,sub_self->Db
open Option renaming isNone_none->LB,map_some->AK
set_option linter.unusedVariables false
set_option linter.unusedSimpArgs false
set_option linter.unusedSectionVars false
section
namespace Go.Lift
def JA0(k:IntKind)(a b:Int):Int:=((Ap k.bits a&&&Ap k.bits b).toNat:Int)
def ior(k:IntKind)(a b:Int):Int:=((Ap k.bits a|||Ap k.bits b).toNat:Int)
def Jl5(k:IntKind)(a b:Int):Int:=((Ap k.bits a^^^Ap k.bits b).toNat:Int)
def Jfr(k:IntKind)(a b:Int):Int:=a*2^ (min b.toNat k.bits)
def Jfs(k:IntKind)(a b:Int):Int:=a.fdiv (2^ (min b.toNat k.bits))
section bin
variable(k:IntKind)(a b:Int)
theorem Jft:Ks .add (.int k a) (.int k b)=some (.int k (k.wrap (a+b))):=by unfold Ks;exact if_pos rfl
theorem Jfu:Ks .sub (.int k a) (.int k b)=some (.int k (k.wrap (a-b))):=by unfold Ks;exact if_pos rfl
theorem Jfv:Ks .mul (.int k a) (.int k b)=some (.int k (k.wrap (a*b))):=by unfold Ks;exact if_pos rfl
theorem Jfw:Ks .quo (.int k a) (.int k b)=if b=0 then none else some (.int k (k.wrap (a.tdiv b))):=by unfold Ks;exact if_pos rfl
theorem Jfx:Ks .rem (.int k a) (.int k b)=if b=0 then none else some (.int k (a.tmod b)):=by unfold Ks;exact if_pos rfl
theorem Jfy:Ks .and (.int k a) (.int k b)=some (.int k (k.wrap (JA0 k a b))):=by unfold Ks;exact if_pos rfl
theorem Jl6:Ks .or (.int k a) (.int k b)=some (.int k (k.wrap (ior k a b))):=by unfold Ks;exact if_pos rfl
theorem Jfz:Ks .xor (.int k a) (.int k b)=some (.int k (k.wrap (Jl5 k a b))):=by unfold Ks;exact if_pos rfl
theorem Jf0:Ks .eql (.int k a) (.int k b)=some (.bool (a==b)):=by unfold Ks;exact if_pos rfl
theorem Jf1:Ks .neq (.int k a) (.int k b)=some (.bool (a !=b)):=by unfold Ks;exact if_pos rfl
theorem Jf2:Ks .lss (.int k a) (.int k b)=some (.bool (decide (a<b))):=by unfold Ks;exact if_pos rfl
theorem Jf3:Ks .leq (.int k a) (.int k b)=some (.bool (decide (a≤b))):=by unfold Ks;exact if_pos rfl
theorem Jf4:Ks .gtr (.int k a) (.int k b)=some (.bool (decide (b<a))):=by unfold Ks;exact if_pos rfl
theorem Jf5:Ks .geq (.int k a) (.int k b)=some (.bool (decide (b≤a))):=by unfold Ks;exact if_pos rfl
theorem Jf6(k':IntKind):Ks .shl (.int k a) (.int k' b)=if 0≤b then some (.int k (k.wrap (Jfr k a b)))else none:=by unfold Ks;rfl
theorem Jf7(k':IntKind):Ks .shr (.int k a) (.int k' b)=if 0≤b then some (.int k (Jfs k a b))else none:=by unfold Ks;rfl
theorem JZp(s t:ByteArray):Ks .add (.string s) (.string t)=if s.size+t.size≤9223372036854775807 then some (.string (s++t))else none:=by unfold Ks;rfl
theorem JZq(s t:ByteArray):Ks .eql (.string s) (.string t)=some (.bool (s.toList==t.toList)):=by unfold Ks;rfl
theorem JZr(s t:ByteArray):Ks .lss (.string s) (.string t)=some (.bool (CY s.toList t.toList)):=by unfold Ks;rfl
theorem JZs(s t:ByteArray):Ks .leq (.string s) (.string t)=some (.bool (CY s.toList t.toList||s.toList==t.toList)):=by unfold Ks;rfl
theorem JZt(s t:ByteArray):Ks .gtr (.string s) (.string t)=some (.bool (!(CY s.toList t.toList||s.toList==t.toList))):=by unfold Ks;rfl
theorem JZu(s t:ByteArray):Ks .geq (.string s) (.string t)=some (.bool (!(CY s.toList t.toList))):=by unfold Ks;rfl
theorem JZv(s t:ByteArray):Ks .neq (.string s) (.string t)=some (.bool (!(s.toList==t.toList))):=by unfold Ks;rfl
theorem Jf8:unS .neg (.int k a)=some (.int k (k.wrap (0-a))):=rfl
theorem Jf9(x:Bool):unS .not (.bool x)=some (.bool !x):=rfl
end bin
def loops:Code→List Code
 | .seq a b=>loops a++loops b
 | .cond _ a b=>loops a++loops b
 | .block _ a=>loops a
 | .loop a=>a::loops a
 | .scope a=>loops a
 |_=>[]
def JK(b:Code)(i:Nat):Code:=((loops b)[i]?).getD .skip
def JC(f:Func):Code:=f.body.getD .skip
theorem JW{n:Int}(h0: -9223372036854775808≤n)(h1:n≤9223372036854775807):Am.wrap n=n:=by
 simp only[Dd,CA,Cp,Aw,Lm,DO]
 split<;>simp_all<;>omega
theorem wrap_i32{n:Int}(h0: -2147483648≤n)(h1:n≤2147483647):IntKind.i32.wrap n=n:=by
 simp only[Dd,CA,Cp,Aw,Lm,DO]
 split<;>simp_all<;>omega
theorem Qm{n:Int}(h0:0≤n)(h1:n≤255):IntKind.u8.wrap n=n:=by simp only[Dd,CA,Cp,As,Al,if_false,DO];omega
theorem JM{i:Nat}(h:i≤1000000000000000000):Am.wrap ((i:Int)+1)=((i+1:Nat):Int):=by rw[JW]<;>omega
theorem n0:((0:Nat):Int)=0:=rfl
def ri(k:IntKind)(l:List Int):List (List V):=l.map λn=>[.v (.int k n)]
theorem JSz(k:IntKind)(l:List Int):(ri k l).length=l.length:=by simp[ri]
theorem JZw(k:IntKind)(l:List Int)(i:Nat):(ri k l)[i]? =(l[i]?).map λn=>[V.v (.int k n)]:=by simp[ri]
theorem ri_app(k:IntKind)(l m:List Int):ri k l++ri k m=ri k (l++m):=by simp[ri]
theorem JWa(k:IntKind)(l:List Int)(n:Nat):(ri k l).drop n=ri k (l.drop n):=by simp[ri]
theorem JWb(k:IntKind)(l:List Int):(ri k l).take l.length=ri k l:=by rw[←JSz k l,BP]
theorem JgA(h l:List Ob)(x:Ob):(h++x::l)[h.length]? =some x:=by simp
theorem JZx(h l:List Ob)(k:Nat):(h++l)[h.length+k]? =l[k]? :=by rw[List.getElem?_append_right om];congr 1;omega
theorem JZy(h l:List Ob)(x y:Ob):(h++x::l).set h.length y=h++y::l:=by rw[DG,if_neg om,Db]<;>rfl
theorem JWc(h l:List Ob)(k:Nat)(y:Ob):(h++l).set (h.length+k) y=h++l.set k y:=by rw[DG,if_neg om,BD]
theorem JZz(h l:List Ob):(h++l).length=h.length+l.length:=List.length_append
theorem JWd(x:Ob)(l:List Ob):(x::l).length=l.length+1:=rfl
theorem JZ0:([]:List Ob).length=0:=rfl
theorem JOi(h l:List Ob)(k:Nat):(h++l).take (h.length+k)=h++l.take k:=by rw[List.take_append,List.take_of_length_le om,BD]
theorem JS0(h l:List Ob):(h++l).take h.length=h:=CG
theorem JS1(x:Ob)(l:List Ob)(k:Nat):(x::l).take (k+1)=x::l.take k:=rfl
theorem Z6(k:IntKind):ri k []=[]:=rfl
theorem GZ(k:IntKind)(n:Int)(l:List Int):ri k (n::l)=[.v (.int k n)]::ri k l:=rfl
theorem JS2(l:List Int):GR (ri .i32 l)=some l:=by
 induction l with
 |nil=>rfl
 |cons n l ih=>rw[GZ];unfold GR;rw[ih]<;>rfl
def YK(l:List Int):List UInt8:=l.map λn=>UInt8.ofNat n.toNat
theorem JS3(l:List Int):bytesOf (ri .u8 l)=some (YK l):=by
 induction l with
 |nil=>rfl
 |cons n l ih=>rw[GZ];unfold bytesOf;rw[ih]<;>rfl
theorem JZ1(k:IntKind)(l:List Int):((ri k l).all λx=>x.length==1)=true:=by simp[ri]
variable[GTab][BTy]
section step
variable(c:Cx)(lp:YZ)(s:St)
noncomputable def JAl(b:Code):Option (Ex×St)→Option (Ex×St)
 |some (.normal,s')=>evCode c lp b s'
 |r=>r
noncomputable def JLD(a:Code):Option (Nat×Array Oper×Nat×Array Oper)→Option (Ex×St)
 |some (k,ops,id',ops')=>(Yp c k ops id' ops' s).map λs'=>(Ex.normal,s')
 |none=>evCode c lp a s
noncomputable def JGh(a b:Code):V→Option (Ex×St)
 | .v (.bool t)=>if t then evCode c lp a s else evCode c lp b s
 | .any=>yO (JLD c lp s a (Gj c.P c.hint a)) (evCode c lp b s)
 |_=>none
def jO(id:Nat):Option (Ex×St)→Option (Ex×St)
 |some (.exit j,s')=>if j=id then some (.normal,s')else some (.exit j,s')
 |r=>r
def JCC:Option St→Option (Ex×St)
 |some s=>some (.normal,s)
 |none=>none
theorem JS4:evCode c lp .skip s=some (.normal,s):=rfl
theorem JS5(id:Nat)(ops:Array Oper)(draw:Bool):evCode c lp (.region id ops draw) s=JCC (Kv c id ops draw s):=by simp only[evCode];cases Kv c id ops draw s<;>rfl
theorem c_seq(a b:Code):evCode c lp (.seq a b) s=JAl c lp b (evCode c lp a s):=by
 simp only[evCode]
 cases h:evCode c lp a s with
 |none=>rfl
 |some p=>obtain⟨e,s'⟩:=p;cases e<;>rfl
theorem JS6(x:Operand)(a b:Code):evCode c lp (.cond x a b) s=JGh c lp s a b (opd s.1 x):=by
 simp only[evCode]
 cases opd s.1 x with
 |any=>simp only[JGh];congr 1
 |v x=>cases x<;>rfl
 |_=>rfl
theorem JJf(id:Nat)(a:Code):evCode c lp (.block id a) s=jO id (evCode c lp a s):=by
 simp only[evCode]
 cases h:evCode c lp a s with
 |none=>rfl
 |some p=>obtain⟨e,s'⟩:=p;cases e<;>rfl
theorem JZ2(a:Code):evCode c lp (.loop a) s=lp (evCode c lp a) s:=rfl
theorem JZ3(id:Nat):evCode c lp (.exit id) s=some (.exit id,s):=rfl
theorem JWe(a:Code):evCode c lp (.scope a) s=evCode c lp a s:=rfl
theorem JWf(l:Nat):evCode c lp (.label l) s=some (.normal,s):=rfl
theorem JgB:evCode c lp .ret s=some (.ret,s):=rfl
theorem JNL(b:Code):JAl c lp b (some (.normal,s))=evCode c lp b s:=rfl
theorem JZ4(b:Code)(id:Nat):JAl c lp b (some (.exit id,s))=some (.exit id,s):=rfl
theorem JZ5(b:Code):JAl c lp b (some (.ret,s))=some (.ret,s):=rfl
theorem JZ6(b:Code):JAl c lp b none=none:=rfl
theorem JZ7(a b:Code):JGh c lp s a b (.v (.bool true))=evCode c lp a s:=rfl
theorem JZ8(a b:Code):JGh c lp s a b (.v (.bool false))=evCode c lp b s:=rfl
theorem JS7(a b:Code):JGh c lp s a b .any=yO (JLD c lp s a (Gj c.P c.hint a)) (evCode c lp b s):=rfl
def JOj(k:Nat)(ops:Array Oper)(id':Nat)(ops':Array Oper):Option Nat→Option Mix→Option (Nat×Array Oper×Nat×Array Oper)
 |some _,none=>some (k,ops,id',ops')
 |_,_=>none
theorem Jl7{P:Program}{hint:Hint}(id id':Nat)(ops ops':Array Oper):Gj P hint (.seq (.region id ops true) (.region id' ops' false))=JOj (Jw P hint id ops) ops id' ops' (hint.late id) (hint.mix id):=by simp only[Gj];cases hint.late id<;>cases hint.mix id<;>rfl
theorem Jl8(k x:Nat)(ops:Array Oper)(id':Nat)(ops':Array Oper):JOj k ops id' ops' (some x) none=some (k,ops,id',ops'):=rfl
theorem Jl9(k:Nat)(ops:Array Oper)(id':Nat)(ops':Array Oper)(m:Option Mix):JOj k ops id' ops' none m=none:=by cases m<;>rfl
theorem JmA(k:Nat)(x:Option Nat)(ops:Array Oper)(id':Nat)(ops':Array Oper)(m:Mix):JOj k ops id' ops' x (some m)=none:=by cases x<;>rfl
theorem JmB{P:Program}{hint:Hint}(id:Nat)(ops:Array Oper)(d:Bool):Gj P hint (.region id ops d)=none:=rfl
theorem JmC(a:Code):JLD c lp s a none=evCode c lp a s:=rfl
noncomputable def JS8(k:Nat)(ops:Array Oper)(id':Nat)(ops':Array Oper):Option St→Option St
 |some s1=>evLate1 c.P c.lo c.base (c.hint.live id') (c.hint.keep id') k ops ops' s1
 |none=>none
theorem JmD(a:Code)(k id':Nat)(ops ops':Array Oper):JLD c lp s a (some (k,ops,id',ops'))=JCC (JS8 c k ops id' ops' (J3 c ops (ops.toList.take k) s)):=by
 simp only[JLD,Yp]
 cases J3 c ops (ops.toList.take k) s with
 |none=>rfl
 |some s1=>simp only[JS8];cases evLate1 c.P c.lo c.base (c.hint.live id') (c.hint.keep id') k ops ops' s1<;>rfl
theorem JmG(k id':Nat)(ops ops':Array Oper):JS8 c k ops id' ops' (some s)=evLate1 c.P c.lo c.base (c.hint.live id') (c.hint.keep id') k ops ops' s:=rfl
theorem JS9(a b:Code)(t:Bool):JGh c lp s a b (.v (.bool t))=if t=true then evCode c lp a s else evCode c lp b s:=rfl
theorem JWg(id:Nat):jO id (some (.normal,s))=some (.normal,s):=rfl
theorem JWh(id j:Nat):jO id (some (.exit j,s))=if j=id then some (.normal,s)else some (.exit j,s):=rfl
theorem JWi(id:Nat):jO id (some (.ret,s))=some (.ret,s):=rfl
theorem JWj(id:Nat):jO id none=none:=rfl
theorem JZ9:JCC (some s)=some (.normal,s):=rfl
theorem JaA:JCC none=none:=rfl
def JCD(lp:YZ)(f:St→Option (Ex×St)):Option (Ex×St)→Option (Ex×St)
 |some (.normal,s')=>lp f s'
 |r=>r
theorem JB(f:St→Option (Ex×St)):JA f s=JCD JA f (f s):=by
 rw[JSv]
 cases h:f s with
 |none=>rfl
 |some p=>obtain⟨e,s'⟩:=p;cases e<;>rfl
theorem JO(lp:YZ)(f:St→Option (Ex×St)):JCD lp f (some (.normal,s))=lp f s:=rfl
theorem Jx(lp:YZ)(f:St→Option (Ex×St))(id:Nat):JCD lp f (some (.exit id,s))=some (.exit id,s):=rfl
theorem Kh(lp:YZ)(f:St→Option (Ex×St)):JCD lp f (some (.ret,s))=some (.ret,s):=rfl
noncomputable def JQJ(id:Nat):Option St→Option St
 |some s'=>W3 c.base (c.hint.keep id) (untag (lives (c.hint.live id) s'.1),s'.2)
 |none=>none
theorem JTA(m:Option Mix)(k:Option Nat):once m false k=k:=by cases k<;>rfl
theorem JaB(d:Bool)(k:Option Nat):once none d k=k:=by cases k<;>cases d<;>rfl
theorem JaC(m:Option Mix)(d:Bool):once m d none=none:=rfl
theorem JaD(mx:Mix)(n:Nat):once (some mx) true (some n)=if(decide (1000≤n)&&decide (n<2000))=true then none else some n:=rfl
noncomputable def JNM(id:Nat)(k:Option Nat):Option St→Option St
 |some s'=>W3 c.base k (untag (lives (c.hint.live id) s'.1),s'.2)
 |none=>none
theorem JaG(id:Nat)(ops:Array Oper):Kv c id ops false s=JQJ c id (Zu c ops s (c.hint.tail id)):=by unfold Kv;simp only[Al,if_false,JTA];cases Zu c ops s (c.hint.tail id)<;>rfl
theorem JWk(ops:Array Oper):Zu c ops s none=KL c ops ops.toList s:=rfl
def JTB(ops:Array Oper)(k:Nat):Option St→Option St
 |some s1=>jj c ops k s1
 |none=>none
theorem JWl(ops:Array Oper)(k:Nat):Zu c ops s (some k)=JTB c ops k (KL c ops (ops.toList.take k) s):=rfl
theorem JmH(ops:Array Oper)(k:Nat):JTB c ops k (some s)=jj c ops k s:=rfl
noncomputable def JCG(ops:Array Oper)(l:List Oper):Option St→Option St
 |some s'=>KL c ops l s'
 |none=>none
noncomputable def JOk(id:Nat)(ops:Array Oper):Option Mix→Option St
 |some mx=>Jv c mx id ops mx.tree s
 |none=>JCG c ops (ops.toList.drop (Jw c.P c.hint id ops)) (J3 c ops (ops.toList.take (Jw c.P c.hint id ops)) s)
theorem JaH(id:Nat)(ops:Array Oper):Kv c id ops true s=JNM c id (once (c.hint.mix id) true (c.hint.keep id)) (JOk c s id ops (c.hint.mix id)):=by
 unfold Kv;simp only[if_true];unfold Yo JOk
 cases c.hint.mix id with
 |some mx=>cases hq:Jv c mx id ops mx.tree s<;>simp only[hq,JNM]
 |none=>
 simp only;unfold HN
 cases J3 c ops (ops.toList.take (Jw c.P c.hint id ops)) s with
 |none=>rfl
 |some s'=>simp only[JCG];cases KL c ops (ops.toList.drop (Jw c.P c.hint id ops)) s'<;>rfl
theorem JmJ(id:Nat)(ops:Array Oper):JOk c s id ops none=JCG c ops (ops.toList.drop (Jw c.P c.hint id ops)) (J3 c ops (ops.toList.take (Jw c.P c.hint id ops)) s):=rfl
theorem JmK(id:Nat)(ops:Array Oper)(hd tk:List Nat)(T:Tr):JOk c s id ops (some ⟨hd,tk,T⟩)=Jv c ⟨hd,tk,T⟩ id ops T s:=rfl
theorem JgC(mx:Mix)(id:Nat)(ops:Array Oper):Jv c mx id ops .fin s=W3 c.base (c.hint.keep id) (untag (lives (c.hint.live id) s.1),s.2):=rfl
def JTC(base:Nat)(k:Option Nat):Option St→Option St
 |some s=>W3 base k s
 |none=>none
theorem JmL(base:Nat)(k:Option Nat)(s:St):JTC base k (some s)=W3 base k s:=rfl
def JgD(base:Nat)(l:List Nat):Option St→Option St
 |some s=>zc base l s
 |none=>none
theorem JgG(base:Nat)(l:List Nat)(s:St):JgD base l (some s)=zc base l s:=rfl
theorem JgH(base:Nat)(s:St):zc base [] s=some s:=rfl
theorem JgJ(base i:Nat)(l:List Nat)(s:St):zc base (i::l) s=JgD base l (swS base i s):=by simp only[zc];cases swS base i s<;>rfl
theorem JaJ(mx:Mix)(id:Nat)(ops:Array Oper)(l:List Nat):Jv c mx id ops (.finL l) s=JTC c.base (c.hint.keep id) (zc c.base l (untag (lives (c.hint.live id) s.1),s.2)):=by simp only[Jv,kp];cases zc c.base l (untag (lives (c.hint.live id) s.1),s.2)<;>rfl
theorem JaK(mx:Mix)(id:Nat)(ops:Array Oper)(i:Nat):Jv c mx id ops (.finS i) s=JTC c.base (c.hint.keep id) (swS c.base i (untag (lives (c.hint.live id) s.1),s.2)):=by
 rw[show Jv c mx id ops (.finS i) s=kp c.base (c.hint.live id) (c.hint.keep id) [i] s from rfl]
 simp only[kp,zc];cases swS c.base i (untag (lives (c.hint.live id) s.1),s.2)<;>rfl
theorem JmM(base:Nat):W3 base none s=some s:=rfl
theorem JmN(base n:Nat):W3 base (some n) s=if n<1000 then JBf base n s else if n<2000 then JBf base ((s.2.drop base).length-(n-1000)) s else JOW base s (look s.1 (n-2000)):=rfl
noncomputable def JaL(id:Nat):Option St→Option St
 |some s1=>W3 c.base (c.hint.keep id) (untag (lives (c.hint.live id) s1.1),s1.2)
 |none=>none
theorem JgK(mx:Mix)(id:Nat)(ops:Array Oper)(k:Nat):Jv c mx id ops (.two k) s=JaL c id (JBg c.P c.lo c.base k ops s):=by simp only[Jv];unfold JaL;cases JBg c.P c.lo c.base k ops s<;>rfl
theorem JgL(id:Nat):JaL c id (some s)=W3 c.base (c.hint.keep id) (untag (lives (c.hint.live id) s.1),s.2):=rfl
noncomputable def JGi(mx:Mix)(id:Nat)(ops:Array Oper)(T:Tr):Option St→Option St
 |some s1=>Jv c mx id ops T s1
 |none=>none
theorem JaM(mx:Mix)(id:Nat)(ops:Array Oper)(k:Nat)(T:Tr):Jv c mx id ops (.head k T) s=JGi c mx id ops T (Qa c mx ops k s):=by simp only[Jv];unfold JGi;cases Qa c mx ops k s<;>rfl
theorem JgM(mx:Mix)(id:Nat)(ops:Array Oper)(k:Nat)(T:Tr):Jv c mx id ops (.one k T) s=JGi c mx id ops T (Qa c mx ops k s):=by simp only[Jv];unfold JGi;cases Qa c mx ops k s<;>rfl
theorem JgN(mx:Mix)(id:Nat)(ops:Array Oper)(a b:Tr):Jv c mx id ops (.alt a b) s=ko (Jv c mx id ops a s) (Jv c mx id ops b s):=rfl
theorem JmO(mx:Mix)(id:Nat)(ops:Array Oper)(T:Tr):JGi c mx id ops T (some s)=Jv c mx id ops T s:=rfl
theorem JmP(mx:Mix)(id:Nat)(ops:Array Oper)(T:Tr):JGi c mx id ops T none=none:=rfl
theorem JWm(n i k:Nat):sw (n+i) (n+k)=n+sw i k:=by
 unfold sw
 repeat' split
 all_goals omega
theorem JmQ(n i:Nat):sw (n+i) n=n+sw i 0:=JWm n i 0
theorem JmR(n k:Nat):sw n (n+k)=n+sw 0 k:=JWm n 0 k
theorem JmS(n:Nat):sw n n=n+1:=JWm n 0 0
theorem JgO:sw 0 0=1:=rfl
theorem JgP:sw 0 1=0:=rfl
theorem JgQ:sw 0 2=2:=rfl
theorem JgR:sw 0 3=3:=rfl
theorem JgS:sw 1 0=0:=rfl
theorem JgT:sw 1 1=2:=rfl
theorem JgU:sw 1 2=1:=rfl
theorem JgV:sw 2 0=0:=rfl
theorem JgW:sw 2 1=1:=rfl
theorem JgX:sw 2 2=3:=rfl
theorem JgY:sw 2 3=2:=rfl
theorem JgZ(j:Nat):swE j []=[]:=rfl
theorem Jga(j k:Nat)(v:V)(g:Jl):swE j ((k,v)::g)=(k,swr j v)::swE j g:=rfl
theorem Jgb(j b o:Nat):swr j (.ptr b o)= .ptr (sw j b) o:=rfl
theorem Jgc(j:Nat)(x:Value):swr j (.v x)= .v x:=rfl
theorem Jgd(j:Nat)(k:Own)(r:List (List V)):swr j (.list k r)= .list k r:=rfl
theorem Jge(j:Nat):swr j .undef= .undef:=rfl
theorem Jgf(j:Nat):swr j .nil= .nil:=rfl
theorem Jgg(j:Nat)(cs:List V):swr j (.rp cs)= .rp cs:=rfl
theorem Jgh(j b o n:Nat):swr j (.buf b o n)= .buf (sw j b) o n:=rfl
theorem Jgi(j b n z:Nat):swr j (.stk b n z)= .stk (sw j b) n z:=rfl
theorem Jgj(j b o:Nat):swf j (.ptr b o)= .ptr (sw j b) o:=rfl
theorem Jgk(j:Nat)(x:Value):swf j (.v x)= .v x:=rfl
theorem Jgl(j:Nat)(k:Own)(r:List (List V)):swf j (.list k r)= .list k r:=rfl
theorem Jgm(j:Nat):swf j .nil= .nil:=rfl
theorem Jgn(j:Nat)(cs:List V):swO j (.cells cs)= .cells (cs.map (swf j)):=rfl
theorem Jgo{α:Type}(x y:α)(l:List α):zb 0 (x::y::l)=y::x::l:=rfl
theorem Jgp{α:Type}(u x y:α)(l:List α):zb 1 (u::x::y::l)=u::y::x::l:=rfl
theorem Jgq{α:Type}(t u x y:α)(l:List α):zb 2 (t::u::x::y::l)=t::u::y::x::l:=rfl
theorem JaN(base i:Nat)(g:Jl)(h:JG):swS base i (g,h)=if base+i+1<h.length then some (swE (base+i) g,h.take base++zb i ((h.drop base).map (swO (base+i))))else none:=rfl
theorem JTD(v:V):JAe v v=v:=by simp[JAe,JBc]
theorem JTG:∀g:Jl,Wc g g=some g
 |[]=>rfl
 |(k,v)::g=>by simp only[Wc,if_true,JTD,JTG g,AK]
theorem JWn(x:Option St):ko x x=x:=by
 cases x with
 |none=>rfl
 |some s=>simp only[ko,yN,if_true,JTG,AK]
theorem JmT(g q:Jl)(h:JG):ko (some (g,h)) (some (q,h))=(Wc g q).map λr=>(r,h):=by simp only[ko,yN,if_true]
theorem JmU:Wc [] []=some []:=rfl
theorem JmV(k:Nat)(v:V)(r q:Jl):Wc ((k,v)::r) ((k,v)::q)=(Wc r q).map ((k,v):: ·):=by simp only[Wc,if_true,JTD]
theorem JmW(k:Nat)(r q:Jl):Wc ((k,.v (.bool true))::r) ((k,.v (.bool false))::q)=(Wc r q).map ((k,.any):: ·):=by simp[Wc,JAe,ji,yB,Zt]
theorem JmX(k:Nat)(r q:Jl):Wc ((k,.v (.bool false))::r) ((k,.v (.bool true))::q)=(Wc r q).map ((k,.any):: ·):=by simp[Wc,JAe,ji,yB,Zt]
theorem Jgr(x:Option (Ex×St)):yO x x=x:=by unfold yO;rw[if_pos (JGB x)]
noncomputable def JCH(mx:Mix)(ops:Array Oper)(o:Oper):Bool→Bool→Option St
 |true,_=>J3 c ops [o] s
 |false,true=>if o.guard.isNone&& !WC c.P o.op then JBW c s o else none
 |false,false=>KL c ops [o] s
noncomputable def JTH(hd tk:List Nat)(T:Tr)(ops:Array Oper)(k:Nat):Option Oper→Option St
 |none=>none
 |some o=>JCH c s ⟨hd,tk,T⟩ ops o (hd.contains k) (tk.contains k)
theorem Jgs{hd tk:List Nat}{T:Tr}{ops:Array Oper}{k:Nat}:Qa c ⟨hd,tk,T⟩ ops k s=JTH c s hd tk T ops k (ops[k]?):=by
 unfold Qa JTH
 cases ops[k]? with
 |none=>rfl
 |some o=>
 simp only;cases hd.contains k<;>cases tk.contains k<;>simp[JCH]
theorem JmY(hd tk:List Nat)(T:Tr)(ops:Array Oper)(k:Nat)(o:Oper):JTH c s hd tk T ops k (some o)=JCH c s ⟨hd,tk,T⟩ ops o (hd.contains k) (tk.contains k):=rfl
theorem JmZ(mx:Mix)(ops:Array Oper)(o:Oper)(b:Bool):JCH c s mx ops o true b=J3 c ops [o] s:=rfl
theorem Jma(mx:Mix)(ops:Array Oper)(o:Oper):JCH c s mx ops o false false=KL c ops [o] s:=rfl
noncomputable def JOl(d:Nat):Option V→Option St
 |some v=>match Gv c.lo (ins d v s.1,s.2) (.tmp d)with
  |some (r,g,h)=>some (ins d (.list .yes r) (untag g),h)
  |none=>none
 |none=>none
noncomputable def JOm(d:Nat)(v:Option V):Bool→Option St
 |false=>JOl c s d v
 |true=>none
theorem Jmb(mx:Mix)(ops:Array Oper)(d:Nat)(op:Op)(ty:TypeId)(p:String)(a:Array Edge):JCH c s mx ops ⟨some d,op,ty,p,a,none⟩ false true=JOm c s d (Jd c.P c.hint.vars s op) (WC c.P op):=by
 simp only[JCH,LB]
 cases he:WC c.P op with
 |true=>simp[JOm]
 |false=>simp only[A5,CN,if_true,JBW];unfold JOm JOl;cases Jd c.P c.hint.vars s op<;>rfl
theorem Jmc(d:Nat)(v:Option V):JOm c s d v false=JOl c s d v:=rfl
theorem Jmd(d:Nat)(v:V):JOl c s d (some v)=match Gv c.lo (ins d v s.1,s.2) (.tmp d)with
  |some (r,g,h)=>some (ins d (.list .yes r) (untag g),h)
  |none=>none:=rfl
theorem JaO(ops:Array Oper)(l:List Oper):JCG c ops l (some s)=KL c ops l s:=rfl
theorem Jgt(id:Nat):JQJ c id (some s)=W3 c.base (c.hint.keep id) (untag (lives (c.hint.live id) s.1),s.2):=rfl
theorem Jgu(id:Nat):JQJ c id none=none:=rfl
theorem JaP(id:Nat)(k:Option Nat):JNM c id k (some s)=W3 c.base k (untag (lives (c.hint.live id) s.1),s.2):=rfl
theorem JaQ(id:Nat)(k:Option Nat):JNM c id k none=none:=rfl
def JQK(ops:Array Oper)(d:Option Nat)(l:List Oper):Option (V×St)→Option St
 |some (v,g,h)=>KL c ops l (put d v g,h)
 |none=>none
def JLG(ops:Array Oper)(o:Oper)(l:List Oper):Option Bool→Option St
 |some true=>JQK c ops o.dst l (YA c s o)
 |some false=>if K5 o.op then none else KL c ops l (put o.dst (.v undef) s.1,s.2)
 |none=>none
theorem Jgv(ops:Array Oper):KL c ops [] s=some s:=rfl
theorem JaR(ops:Array Oper)(o:Oper)(l:List Oper):KL c ops (o::l) s=JLG c s ops o l (want ops s.1 o):=by
 simp only[KL];unfold JLG
 split<;>simp_all
 cases h:YA c s o with
 |none=>rfl
 |some p=>rfl
theorem w_t(ops:Array Oper)(o:Oper)(l:List Oper):JLG c s ops o l (some true)=JQK c ops o.dst l (YA c s o):=rfl
theorem w_f(ops:Array Oper)(o:Oper)(l:List Oper):JLG c s ops o l (some false)=if K5 o.op=true then none else KL c ops l (put o.dst (.v undef) s.1,s.2):=rfl
theorem a_s(ops:Array Oper)(d:Option Nat)(l:List Oper)(v:V)(g:Jl)(h:JG):JQK c ops d l (some (v,g,h))=KL c ops l (put d v g,h):=rfl
theorem a_0(ops:Array Oper)(d:Option Nat)(l:List Oper):JQK c ops d l none=none:=rfl
def KU:Option V→Option (V×St)
 |some v=>some (v,s)
 |none=>none
theorem JaS(v:V):KU s (some v)=some (v,s):=rfl
theorem JaT:KU s none=none:=rfl
def opC(o:Op):Bool→Option (V×St)
 |true=>KX c.P c.call c.lo c.hint.mutc s o
 |false=>KU s (Jd c.P c.hint.vars s o)
def JWo(o:Oper):Bool→Option (V×St)
 |true=>GS c.P c.base c.lo (c.hint.mode o.dst) s o.op
 |false=>opC c s o.op (WC c.P o.op)
theorem Jme(o:Oper):JWo c s o true=GS c.P c.base c.lo (c.hint.mode o.dst) s o.op:=rfl
theorem Jmf(o:Oper):JWo c s o false=opC c s o.op (WC c.P o.op):=rfl
theorem Jgx(o:Oper):YA c s o=JWo c s o (Gw c.hint.mode o.dst o.op):=by
 unfold YA
 cases Gw c.hint.mode o.dst o.op with
 |true=>rfl
 |false=>
 simp only[Al,if_false,JWo]
 cases WC c.P o.op with
 |true=>rfl
 |false=>simp only[Al,if_false];unfold opC;cases Jd c.P c.hint.vars s o.op<;>rfl
theorem Jmg(o:Op):opC c s o true=KX c.P c.call c.lo c.hint.mutc s o:=rfl
theorem Jmh(o:Op):opC c s o false=KU s (Jd c.P c.hint.vars s o):=rfl
def JTJ(ops:Array Oper)(d:Option Nat)(l:List Oper):Option V→Option St
 |some v=>J3 c ops l (put d v s.1,s.2)
 |none=>none
def JLH(ops:Array Oper)(o:Oper)(l:List Oper):Option Bool→Option St
 |some true=>JTJ c s ops o.dst l (Km c s o)
 |some false=>if K5 o.op then none else J3 c ops l (put o.dst (.v undef) s.1,s.2)
 |none=>none
theorem Jgy(ops:Array Oper):J3 c ops [] s=some s:=rfl
theorem JaU(ops:Array Oper)(o:Oper)(l:List Oper):J3 c ops (o::l) s=JLH c s ops o l (want ops s.1 o):=by
 simp only[J3];unfold JLH
 split<;>simp_all
 cases h:Km c s o with
 |none=>rfl
 |some p=>rfl
theorem Jgz(ops:Array Oper)(o:Oper)(l:List Oper):JLH c s ops o l (some true)=JTJ c s ops o.dst l (Km c s o):=rfl
theorem Jg0(ops:Array Oper)(o:Oper)(l:List Oper):JLH c s ops o l (some false)=if K5 o.op=true then none else J3 c ops l (put o.dst (.v undef) s.1,s.2):=rfl
theorem Jmi(ops:Array Oper)(d:Option Nat)(l:List Oper)(v:V):JTJ c s ops d l (some v)=J3 c ops l (put d v s.1,s.2):=rfl
def hdC(o:Oper):Bool→Option V
 |true=>match o.op with
  | .call d=>match d.callee with
   | .value f=>match opd s.1 f with
    | .fn f caps=>JAd s.2.length (c.call s.2.length f (Wi caps++((d.args.toList.map (opd s.1)).map fzs++Wj caps)) s.2)
    |_=>none
   |_=>none
  | .convert a b x=>if c.hint.mutc||isRow c.P a b then none else(KX c.P c.call c.lo false s (.convert a b x)).map (·.1)
  | .buildSlice t n parts=>(KX c.P c.call c.lo false s (.buildSlice t n parts)).map (·.1)
  |_=>none
 |false=>Jd c.P c.hint.vars s o.op
theorem Jg1(o:Oper):Km c s o=hdC c s o (WC c.P o.op):=by unfold Km;cases WC c.P o.op<;>rfl
theorem Jmj(o:Oper):hdC c s o false=Jd c.P c.hint.vars s o.op:=rfl
theorem Jmk(o:Oper):hdC c s o true=match o.op with
  | .call d=>match d.callee with
   | .value f=>match opd s.1 f with
    | .fn f caps=>JAd s.2.length (c.call s.2.length f (Wi caps++((d.args.toList.map (opd s.1)).map fzs++Wj caps)) s.2)
    |_=>none
   |_=>none
  | .convert a b x=>if c.hint.mutc||isRow c.P a b then none else(KX c.P c.call c.lo false s (.convert a b x)).map (·.1)
  | .buildSlice t n parts=>(KX c.P c.call c.lo false s (.buildSlice t n parts)).map (·.1)
  |_=>none:=rfl
end step
theorem Jml(n:Nat)(v:V)(h:JG):JAd n (some (v,h))=if h.length=n then some v else none:=rfl
def fin(P:Program)(rs:List ResultVar)(base:Nat):Option (Ex×St)→Option (V×JG)
 |some (.exit _,_)=>none
 |some (_,s)=>match Kp P s rs with
  |some vs=>if okr base (ze vs)then some (ze vs,s.2.take base)else none
  |none=>none
 |none=>none
def JaV(P:Program)(rs:List ResultVar)(base ret:Nat)(rr:Bool):Option (Ex×St)→Option (V×JG)
 |some (.exit _,_)=>none
 |some (_,s)=>match(if rr then K6 P s rs else Kp P s rs)with
  |some vs=>if okr (base+ret) (ze vs)&&(((s.2.drop base).take ret).all (okO (base+ret))&&(ret==0||decide (base+ret≤s.2.length)))then some (ze vs,s.2.take (base+ret))else none
  |none=>none
 |none=>none
theorem JLJ{P:Program}{hints:Nat→Hint}{prim:Nat→Option (Nat→List V→JG→Option (V×JG))}{lo f nt ret:Nat}{rr:Bool}{args:List V}{h:JG}{fn:Func}{b:Code}{rs:List ResultVar}{hi:Hint}
  (hp:prim f=none)(hf:P.funcs[f]? =some fn)(hb:fn.body=some b)(hn:fn.ntmps=nt)(hname:(fn.name != "runtime.NumGoroutine")=true) (hh:hints f=hi) (hcode:codeOk P hi nt b=true) (hrs:fn.results.toList=rs) (hret:hi.ret=ret) (hrr:hi.rawr=rr)
  (hargs:args.length≤nt) (hbare:args.all bare=true):
  ev P hints prim lo f args h=JaV P rs h.length ret rr (evCode ⟨P,ev P hints prim,lo,h.length,hi⟩ JA b (QH args,h)):=by
 rw[Jfp hp];unfold Yq;subst hh hn hrs hret hrr;simp only[hf,hb];rw[if_pos (by simp[hcode,hargs,hbare,hname])]
 cases evCode ⟨P,ev P hints prim,lo,h.length,hints f⟩ JA b (QH args,h)with
 |none=>rfl
 |some p=>obtain⟨e,s⟩:=p;cases e<;>rfl
theorem JOn{P:Program}{hints:Nat→Hint}{prim:Nat→Option (Nat→List V→JG→Option (V×JG))}{lo f nt:Nat}{args:List V}{h:JG}{fn:Func}{b:Code}{rs:List ResultVar}{hi:Hint}
  (hp:prim f=none)(hf:P.funcs[f]? =some fn)(hb:fn.body=some b)(hn:fn.ntmps=nt)(hname:(fn.name != "runtime.NumGoroutine")=true) (hh:hints f=hi) (hcode:codeOk P hi nt b=true) (hrs:fn.results.toList=rs) (hret:hi.ret=0) (hrr:hi.rawr=false)
  (hargs:args.length≤nt) (hbare:args.all bare=true):
  ev P hints prim lo f args h=fin P rs h.length (evCode ⟨P,ev P hints prim,lo,h.length,hi⟩ JA b (QH args,h)):=by
 rw[JLJ hp hf hb hn hname hh hcode hrs hret hrr hargs hbare]
 cases evCode ⟨P,ev P hints prim,lo,h.length,hi⟩ JA b (QH args,h)with
 |none=>rfl
 |some p=>
  obtain⟨e,s⟩:=p
  have key:(match Kp P s rs with
    |some vs=>if okr (h.length+0) (ze vs)&&(((s.2.drop h.length).take 0).all (okO (h.length+0))&&((0:Nat)==0||decide (h.length+0≤s.2.length)))then some (ze vs,s.2.take (h.length+0))else none
    |none=>none)=match Kp P s rs with
    |some vs=>if okr h.length (ze vs)then some (ze vs,s.2.take h.length)else none
    |none=>none:=by
   simp only[Cd,Dt,Bo,beq_self_eq_true,Bp,B7]
  cases e<;>first|rfl|exact key
section merge
variable{p:Prop}[Decidable p]
theorem JaW(s t:St):(if p then some (Ex.normal,s)else some (Ex.normal,t))=some (Ex.normal,if p then s else t):=by split<;>rfl
theorem Jg2(s t:St):(if p then some (Ex.ret,s)else some (Ex.ret,t))=some (Ex.ret,if p then s else t):=by split<;>rfl
theorem Jmm(s t:St):(if p then some s else some t)=some (if p then s else t):=by split<;>rfl
theorem JaX(g g':Jl)(h h':JG):(if p then((g,h):St)else(g',h'))=(if p then g else g',if p then h else h'):=by split<;>rfl
theorem JaY(k:Nat)(v v':V)(g g':Jl):(if p then((k,v)::g:Jl)else(k,v')::g')=(k,if p then v else v')::(if p then g else g'):=by split<;>rfl
theorem m_v(x y:Value):(if p then V.v x else V.v y)=V.v (if p then x else y):=by split<;>rfl
theorem JaZ(k:Own)(r q:List (List V)):(if p then V.list k r else V.list k q)=V.list k (if p then r else q):=by split<;>rfl
theorem Jaa(x y:Bool):(if p then CU x else CU y)=CU (if p then x else y):=by split<;>rfl
theorem Jg3(k:IntKind)(x y:Int):(if p then A9 k x else A9 k y)=A9 k (if p then x else y):=by split<;>rfl
theorem Jg4(x y:ByteArray):(if p then CK x else CK y)=CK (if p then x else y):=by split<;>rfl
theorem Jg5(x y:List V):(if p then V.agg x else V.agg y)=V.agg (if p then x else y):=by split<;>rfl
theorem JWp(x y:V)(l m:List V):(if p then x::l else y::m)=(if p then x else y)::(if p then l else m):=by split<;>rfl
theorem Jab{α:Type}(x:α):(if p then x else x)=x:=by split<;>rfl
theorem Jg6(c:Cx)(id:Nat)(x y:Option St):JQJ c id (if p then x else y)=if p then JQJ c id x else JQJ c id y:=by split<;>rfl
theorem Jac(c:Cx)(id:Nat)(k:Option Nat)(x y:Option St):JNM c id k (if p then x else y)=if p then JNM c id k x else JNM c id k y:=by split<;>rfl
theorem Jad(c:Cx)(lp:YZ)(b:Code)(x y:Option (Ex×St)):JAl c lp b (if p then x else y)=if p then JAl c lp b x else JAl c lp b y:=by split<;>rfl
theorem JWq(id:Nat)(x y:Option (Ex×St)):jO id (if p then x else y)=if p then jO id x else jO id y:=by split<;>rfl
theorem Jg7(x y:Option St):JCC (if p then x else y)=if p then JCC x else JCC y:=by split<;>rfl
theorem Jae(lp:YZ)(f:St→Option (Ex×St))(x y:Option (Ex×St)):JCD lp f (if p then x else y)=if p then JCD lp f x else JCD lp f y:=by split<;>rfl
theorem Jaf(c:Cx)(ops:Array Oper)(l:List Oper)(x y:Option St):JCG c ops l (if p then x else y)=if p then JCG c ops l x else JCG c ops l y:=by split<;>rfl
theorem Jg8(P:Program)(rs:List ResultVar)(b:Nat)(x y:Option (Ex×St)):fin P rs b (if p then x else y)=if p then fin P rs b x else fin P rs b y:=by split<;>rfl
end merge
def gV(b:Bool)(v:V):V:=if b then v else .v undef
theorem Jmn(v:V):gV true v=v:=rfl
theorem Jmo(v:V):gV false v= .v undef:=rfl
def YL(b:Bool)(s:St)(r:Option (V×St)):Option (V×St):=if b then r else some (.v undef,s)
theorem JYq(s:St)(r:Option (V×St)):YL true s r=r:=rfl
theorem JYr(s:St)(r:Option (V×St)):YL false s r=some (.v undef,s):=rfl
theorem Jg9(b:Bool)(s:St)(v:V):YL b s (some (v,s))=some (gV b v,s):=by cases b<;>rfl
def gH(b:Bool)(r:Option V):Option V:=if b then r else some (.v undef)
theorem JhA(r:Option V):gH true r=r:=rfl
theorem JhB(r:Option V):gH false r=some (.v undef):=rfl
theorem Jmp(b:Bool)(v:V):gH b (some v)=some (gV b v):=by cases b<;>rfl
theorem w_b(c:Cx)(s:St)(ops:Array Oper)(o:Oper)(l:List Oper)(b:Bool):JLG c s ops o l (some b)=if K5 o.op=true then(if b=true then JQK c ops o.dst l (YA c s o)else none)else JQK c ops o.dst l (YL b s (YA c s o)):=by
 cases b
 ·simp only[w_f,Al,if_false,JYr]
  rfl
 ·simp only[w_t,if_true,JYq]
  split<;>rfl
theorem Jmq(c:Cx)(s:St)(ops:Array Oper)(o:Oper)(l:List Oper)(b:Bool):JLH c s ops o l (some b)=if K5 o.op=true then(if b=true then JTJ c s ops o.dst l (Km c s o)else none)else JTJ c s ops o.dst l (gH b (Km c s o)):=by
 cases b
 ·simp only[Jg0,Al,if_false,JhB]
  rfl
 ·simp only[Jgz,if_true,JhA]
  split<;>rfl
def JOo(b:Bool):V→Option Bool
 | .v (.bool x)=>some (x==b)
 | .v (.tuple _)=>some false
 |_=>none
theorem JWr(ops:Array Oper)(g:Jl)(o:Oper):want ops g o=match o.guard with
  |none=>some true
  |some (j,b)=>match(ops[j]?).bind (·.dst)with
   |some t=>JOo b (look g t)
   |none=>some false:=by
 unfold want
 cases o.guard with
 |none=>rfl
 |some p=>obtain⟨j,b⟩:=p;simp only;cases(ops[j]?).bind (·.dst)<;>rfl
theorem Jmr(b x:Bool):JOo b (.v (.bool x))=some (x==b):=rfl
theorem Jms(b:Bool):JOo b (.v undef)=some false:=rfl
theorem Jmt(b c x:Bool):JOo b (gV c (.v (.bool x)))=some (c&&(x==b)):=by cases c<;>rfl
def pickC(b:Bool)(x y:V):V:=if b then x else y
theorem Jmu(x y:V):pickC true x y=x:=rfl
theorem Jmv(x y:V):pickC false x y=y:=rfl
theorem JhC(b x:Bool):pickC b (.v (.bool true)) (.v (.bool x))= .v (.bool (b||x)):=by cases b<;>rfl
theorem Jag(b x:Bool):pickC b (.v (.bool x)) (.v (.bool false))= .v (.bool (b&&x)):=by cases b<;>rfl
theorem Jmw(b:Bool)(x y:Value):pickC b (.v x) (.v y)= .v (if b=true then x else y):=by cases b<;>rfl
def Ga:V→V→V→Option V
 | .v (.bool x),p,q=>some (pickC x p q)
 |_,_,_=>none
theorem Jah{P:Program}{vars:List Nat}{s:St}{c a b:Operand}:Jd P vars s (.pick c a b)=Ga (opd s.1 c) (cps (opd s.1 a)) (cps (opd s.1 b)):=by
 show(match opd s.1 c with
  | .v (.bool x)=>some (if x then cps (opd s.1 a)else cps (opd s.1 b))
  |_=>none)=_
 cases opd s.1 c with
 |v x=>cases x<;>rfl
 |_=>rfl
theorem Jmx(x:Bool)(p q:V):Ga (.v (.bool x)) p q=some (pickC x p q):=rfl
theorem JhD(b:Bool)(v:V):cps (gV b v)=gV b (cps v):=by cases b<;>rfl
section ops
variable(P:Program)
def Wn(vars:List Nat)(t:Nat):V→Option V
 | .list .yes r=>some (.list (if t∈vars then .slot t else .no) r)
 |y=>some (cps y)
def jP(op:BinOp)(t:TypeId):V→V→Option V
 | .v a,.v b=>(JPn P op t a b).map .v
 | .agg cs,.agg ds=>
  match qO P t with
  |some ks=>
   match op with
   | .eql=>(eqCells ks cs ds).map λr=> .v (.bool r)
   | .neq=>(eqCells ks cs ds).map λr=> .v (.bool !r)
   |_=>none
  |none=>none
 |_,_=>none
def unV(op:UnOp):V→Option V
 | .v a=>(unS op a).map .v
 |_=>none
def We:V→Option V
 | .ptr b o=>some (.ptr b o)
 | .rp cs=>some (.rp cs)
 | .fn f cs=>some (.fn f cs)
 |_=>none
def JAm(h:JG)(a b:TypeId):V→Option V
 | .v y=>JKc P a b (.v y)
 | .list _ rows=>
  if Zr P b then
   match P.underlying a with
   |some (.slice e)=>if Hv P e then(bytesOf rows).map λl=> .v (.string ⟨l.toArray⟩)else if H0 P e then(GR rows).map λl=> .v (.string (runesBytes l))else none
   |_=>none
  else none
 | .buf i o n=>
  if Zr P b then
   match P.underlying a,cellsOfOb h i with
   |some (.slice e),some cs=>if Hv P e&&decide (o+n≤cs.length)then(bytesOf (((cs.drop o).take n).map λx=>[x])).map λl=> .v (.string ⟨l.toArray⟩)else none
   |_,_=>none
  else none
 |_=>none
def Qc(t:TypeId)(f:Nat)(x:V):Option V:=
 match x,JT P t f with
  | .ptr b o,some (k,u)=>if 0<JH P u then some (.ptr b (o+k))else none
  | .rp cs,some (k,u)=>if 0<JH P u∧k<cs.length then some (.rp (cs.drop k))else none
  |_,_=>none
def qh(t:TypeId)(f:Nat)(x:V):Option V:=
 match x,JT P t f with
  | .agg cs,some (k,u)=>KK P u (cs.drop k)
  |_,_=>none
def J7(t:TypeId)(x i:V):Option V:=
 match x,idx i,P.underlying t with
  | .list _ rows,some n,some (.slice e)=>
   if 0≤n then
    match rows[n.toNat]? with
    |some row=>if row.length=JH P e∧0<JH P e then some (.rp row)else none
    |none=>none
   else none
  | .buf b o m,some n,some (.slice e)=>if 0≤n∧n<m∧JH P e=1 then some (.ptr b (o+n.toNat))else none
  | .stk b m sz,some n,some (.slice e)=>if 0≤n∧n<m∧JH P e=sz∧0<sz then some (.ptr b (n.toNat*sz))else none
  | .ptr b o,some n,some (.array m e)=>if 0≤n∧n<m∧0<JH P e then some (.ptr b (o+n.toNat*JH P e))else none
  | .rp cs,some n,some (.array m e)=>if 0≤n∧n<m∧0<JH P e∧n.toNat*JH P e<cs.length then some (.rp (cs.drop (n.toNat*JH P e)))else none
  |_,_,_=>none
def YM(t:TypeId)(x i:V):Option V:=
 match x,idx i,P.underlying t with
  | .v (.string b),some n,some .string=>if 0≤n then(b.data[n.toNat]?).map λc=> .v (.int .u8 c.toNat)else none
  | .agg cs,some n,some (.array m e)=>
   if 0≤n∧n<m then
    KK P e (cs.drop (n.toNat*JH P e))
   else none
  |_,_,_=>none
def G2(i:Nat):V→Option V
 | .tup vs=>(vs[i]?).map cps
 |_=>none
def JDv(u:Option TypeDesc)(x:V):Option V:=
 match(some x:Option V),u with
   |some (.list _ rows),some (.slice _)=>some (.v (.int .i64 rows.length))
   |some .nil,some (.slice _)=>some (.v (.int .i64 0))
   |some (.buf _ _ n),some (.slice _)=>some (.v (.int .i64 n))
   |some (.stk _ n _),some (.slice _)=>some (.v (.int .i64 n))
   |some (.v (.string b)),some .string=>some (.v (.int .i64 b.size))
   |_,_=>none
variable{P}{vars:List Nat}{s:St}
theorem Jai(t:Nat):Jd P vars s (.move (.tmp t))=Wn vars t (look s.1 t):=rfl
theorem JWs(c:Value):Jd P vars s (.move (.const c))=some (ofC c):=rfl
theorem JWt(n:Nat):Jd P vars s (.move (.global n))=some (opd s.1 (.global n)):=rfl
theorem JWu(n:Nat):Jd P vars s (.move (.func n))=some (.fn n []):=rfl
theorem Jaj{t:TypeId}{a:Operand}:Jd P vars s (.load t a)=YY P s.2 t (opd s.1 a):=rfl
theorem JhG{op:BinOp}{t u:TypeId}{x y:Operand}:Jd P vars s (.binOp op t x y u)=jP P op t (opd s.1 x) (opd s.1 y):=rfl
theorem Jmy{op:UnOp}{t:TypeId}{x:Operand}:Jd P vars s (.unOp op t x)=unV op (opd s.1 x):=rfl
theorem JhH{x:Operand}:Jd P vars s (.nilCheck x)=We (opd s.1 x):=rfl
theorem Jak{a b:TypeId}{x:Operand}:Jd P vars s (.convert a b x)=JAm P s.2 a b (opd s.1 x):=rfl
theorem Jmz{t:TypeId}{x:Operand}{f:Nat}:Jd P vars s (.fieldAddr t x f)=Qc P t f (opd s.1 x):=rfl
theorem Jm0{t:TypeId}{x:Operand}{f:Nat}:Jd P vars s (.field t x f)=qh P t f (opd s.1 x):=rfl
theorem Jm1{t:TypeId}{x i:Operand}:Jd P vars s (.indexAddr t x i)=J7 P t (opd s.1 x) (opd s.1 i):=rfl
theorem Jm2{t:TypeId}{x i:Operand}:Jd P vars s (.index t x i)=YM P t (opd s.1 x) (opd s.1 i):=rfl
theorem Jm3{x:Operand}{i:Nat}:Jd P vars s (.extract x i)=G2 i (opd s.1 x):=rfl
theorem JhJ{x:Operand}{t:TypeId}:Jd P vars s (.call {callee:= .builtin .len,args:= #[x],argTypes:= #[t]})=JDv (P.underlying t) (opd s.1 x):=rfl
def JhK(a b:V):Option V:=
 match[a,b]with
 |[.v (.int k x),.v (.int k' y)]=>if k=k' then some (.v (.int k (if y<x then y else x)))else none
 |_=>none
def JhL(a b:V):Option V:=
 match[a,b]with
 |[.v (.int k x),.v (.int k' y)]=>if k=k' then some (.v (.int k (if y>x then y else x)))else none
 |_=>none
theorem JhM{x y:Operand}{ts:Array TypeId}:Jd P vars s (.call {callee:= .builtin .min,args:= #[x,y],argTypes:=ts})=JhK (opd s.1 x) (opd s.1 y):=rfl
theorem JhN{x y:Operand}{ts:Array TypeId}:Jd P vars s (.call {callee:= .builtin .max,args:= #[x,y],argTypes:=ts})=JhL (opd s.1 x) (opd s.1 y):=rfl
theorem Jm4(k:IntKind)(x y:Int):JhK (.v (.int k x)) (.v (.int k y))=some (.v (.int k (if y<x then y else x))):=if_pos rfl
theorem Jm5(k:IntKind)(x y:Int):JhL (.v (.int k x)) (.v (.int k y))=some (.v (.int k (if y>x then y else x))):=if_pos rfl
theorem JWv{t:TypeId}{parts:Array (Nat×Operand)}:Jd P vars s (.build t parts)=(match K4 P t with
  |none=>none
  |some z=>
   match P.underlying t with
   |some (.struct _)=>if structOk P t then
    (H3 (λi=>(JT P t i).map λp=>(p.1,JH P p.2)) (parts.toList.map λp=>(p.1,opd s.1 p.2)) (z.map Kd)).map .agg else none
   |some (.array _ e)=>if(P.info? e).isSome then
    (H3 (λi=>some (i*JH P e,JH P e)) (parts.toList.map λp=>(p.1,opd s.1 p.2)) (z.map Kd)).map .agg else none
   |_=>none):=rfl
theorem JWw{t:TypeId}{x:Operand}{lo hi mx:Option Operand}:Jd P vars s (.slice t x lo hi mx)=(match mx,opd s.1 x,P.underlying t with
  |none,.v (.string b),some .string=>
   match zY s.1 hi b.size with
   |some h=>match zY s.1 lo 0 with
    |some l=>if l≤h∧h≤b.size then some (.v (.string (b.extract l h)))else none
    |none=>none
   |none=>none
  |none,.list _ rows,some (.slice e)=>
   match zY s.1 hi rows.length with
   |some h=>match zY s.1 lo 0 with
    |some l=>if l≤h∧h≤rows.length∧0<JH P e∧(rows.all λr=>r.length==JH P e)then some (.list .no ((rows.take h).drop l))else none
    |none=>none
   |none=>none
  |none,.stk b n sz,some (.slice e)=>
   match zY s.1 hi n with
   |some h=>match zY s.1 lo 0 with
    |some l=>if l=0∧h≤n∧JH P e=sz∧0<sz then some (.stk b h sz)else none
    |none=>none
   |none=>none
  |none,.ptr b o,some (.array n e)=>
   match zY s.1 hi n with
   |some h=>match zY s.1 lo 0 with
    |some l=>if l≤h∧h≤n∧l<n∧JH P e=1 then some (.buf b (o+l) (h-l))else none
    |none=>none
   |none=>none
  |_,_,_=>none):=rfl
theorem Jm6{f:Nat}{first caps:Array Operand}:Jd P vars s (.makeFunc (.func f) first caps)=if((first.toList++caps.toList).all λc=>yH (opd s.1 c)&& !isU (opd s.1 c))=true then(if first.size=0 then some (.fn f (caps.toList.map λc=>cp (opd s.1 c)))else if caps.size=0 then some (.fn f (.undef::first.toList.map λc=>cp (opd s.1 c)))else none)else none:=rfl
theorem Jm7(t:Nat)(x:Value):Wn vars t (.v x)=some (.v x):=rfl
theorem Jm8(t:Nat)(r:List (List V)):Wn vars t (.list .yes r)=some (.list (if t∈vars then .slot t else .no) r):=rfl
theorem Jm9(t:Nat)(r:List (List V)):Wn vars t (.list .no r)=some (.list .no r):=rfl
theorem JnA(t b o:Nat)(r:List (List V)):Wn vars t (.list (.cell b o) r)=some (.list .no r):=rfl
theorem JnB(t u:Nat)(r:List (List V)):Wn vars t (.list (.slot u) r)=some (.list .no r):=rfl
theorem JnC(t:Nat):Wn vars t .nil=some .nil:=rfl
theorem JnD(t b o:Nat):Wn vars t (.ptr b o)=some (.ptr b o):=rfl
theorem JnG(t:Nat)(cs:List V):Wn vars t (.rp cs)=some (.rp cs):=rfl
theorem JnH(t b o n:Nat):Wn vars t (.buf b o n)=some (.buf b o n):=rfl
theorem JnJ(t b n sz:Nat):Wn vars t (.stk b n sz)=some (.stk b n sz):=rfl
theorem JnK(t:Nat)(cs:List V):Wn vars t (.agg cs)=some (.agg (cs.map cp)):=rfl
theorem JnL(t:Nat)(cs:List V):Wn vars t (.tup cs)=some (.tup cs):=rfl
theorem JnM(t f:Nat)(cs:List V):Wn vars t (.fn f cs)=some (.fn f cs):=rfl
theorem JnN(op:BinOp)(t:TypeId)(k:IntKind)(a:Int)(b:Value):jP P op t (.v (.int k a)) (.v b)=(Ks op (.int k a) b).map .v:=rfl
theorem JnO(op:BinOp)(t:TypeId)(a:ByteArray)(b:Value):jP P op t (.v (.string a)) (.v b)=(Ks op (.string a) b).map .v:=rfl
theorem JhO(t:TypeId)(a b:Bool)(h:P.underlying t=some .bool):jP P .eql t (.v (.bool a)) (.v (.bool b))=some (.v (.bool (a==b))):=by simp only[jP,JPn,h];rfl
theorem JhP(t:TypeId)(a b:Bool)(h:P.underlying t=some .bool):jP P .neq t (.v (.bool a)) (.v (.bool b))=some (.v (.bool (!(a==b)))):=by simp only[jP,JPn,h];rfl
theorem JnP(t:TypeId)(a b:List V):jP P .eql t (.agg a) (.agg b)=match qO P t with
  |some ks=>(eqCells ks a b).map λr=> .v (.bool r)
  |none=>none:=rfl
theorem JnQ(t:TypeId)(a b:List V):jP P .neq t (.agg a) (.agg b)=match qO P t with
  |some ks=>(eqCells ks a b).map λr=> .v (.bool !r)
  |none=>none:=rfl
theorem JnR(op:UnOp)(a:Value):unV op (.v a)=(unS op a).map .v:=rfl
theorem JnS(b o:Nat):We (.ptr b o)=some (V.ptr b o):=rfl
theorem JnT(cs:List V):We (.rp cs)=some (.rp cs):=rfl
theorem JnU(f:Nat)(cs:List V):We (.fn f cs)=some (.fn f cs):=rfl
theorem JnV(h:JG)(a b:TypeId)(y:Value):JAm P h a b (.v y)=JKc P a b (.v y):=rfl
theorem JnW(h:JG)(a b:TypeId)(k:Own)(rows:List (List V)):JAm P h a b (.list k rows)=if Zr P b then
   match P.underlying a with
   |some (.slice e)=>if Hv P e then(bytesOf rows).map λl=> .v (.string ⟨l.toArray⟩)else if H0 P e then(GR rows).map λl=> .v (.string (runesBytes l))else none
   |_=>none
  else none:=rfl
theorem JnX(h:JG)(a b:TypeId)(i o n:Nat):JAm P h a b (.buf i o n)=if Zr P b then
   match P.underlying a,cellsOfOb h i with
   |some (.slice e),some cs=>if Hv P e&&decide (o+n≤cs.length)then(bytesOf (((cs.drop o).take n).map λx=>[x])).map λl=> .v (.string ⟨l.toArray⟩)else none
   |_,_=>none
  else none:=rfl
theorem JnY(t:TypeId)(f b o:Nat):Qc P t f (.ptr b o)=match JT P t f with
  |some (k,u)=>if 0<JH P u then some (V.ptr b (o+k))else none
  |none=>none:=by unfold Qc;cases JT P t f<;>rfl
theorem JnZ(t:TypeId)(f:Nat)(cs:List V):Qc P t f (.rp cs)=match JT P t f with
  |some (k,u)=>if 0<JH P u∧k<cs.length then some (V.rp (cs.drop k))else none
  |none=>none:=by unfold Qc;cases JT P t f<;>rfl
theorem Jna(t:TypeId)(f:Nat)(cs:List V):qh P t f (.agg cs)=match JT P t f with
  |some (k,u)=>KK P u (cs.drop k)
  |none=>none:=by unfold qh;cases JT P t f<;>rfl
theorem Jnb(t:TypeId)(k:Own)(rows:List (List V))(kk:IntKind)(n:Int):J7 P t (.list k rows) (.v (.int kk n))=match P.underlying t with
  |some (.slice e)=>if 0≤n then
    match rows[n.toNat]? with
    |some row=>if row.length=JH P e∧0<JH P e then some (V.rp row)else none
    |none=>none
   else none
  |_=>none:=by
 show(match V.list k rows,some n,P.underlying t with
  | .list _ rows,some n,some (.slice e)=>
   if 0≤n then
    match rows[n.toNat]? with
    |some row=>if row.length=JH P e∧0<JH P e then some (V.rp row)else none
    |none=>none
   else none
  | .buf b o m,some n,some (.slice e)=>if 0≤n∧n<m∧JH P e=1 then some (V.ptr b (o+n.toNat))else none
  | .stk b m sz,some n,some (.slice e)=>if 0≤n∧n<m∧JH P e=sz∧0<sz then some (V.ptr b (n.toNat*sz))else none
  | .ptr b o,some n,some (.array m e)=>if 0≤n∧n<m∧0<JH P e then some (V.ptr b (o+n.toNat*JH P e))else none
  | .rp cs,some n,some (.array m e)=>if 0≤n∧n<m∧0<JH P e∧n.toNat*JH P e<cs.length then some (.rp (cs.drop (n.toNat*JH P e)))else none
  |_,_,_=>none)=_
 cases P.underlying t with
 |none=>rfl
 |some d=>cases d<;>rfl
theorem Jnc(t:TypeId)(b o m:Nat)(kk:IntKind)(n:Int):J7 P t (.buf b o m) (.v (.int kk n))=match P.underlying t with
  |some (.slice e)=>if 0≤n∧n<m∧JH P e=1 then some (V.ptr b (o+n.toNat))else none
  |_=>none:=by
 unfold J7
 cases P.underlying t with
 |none=>rfl
 |some d=>cases d<;>rfl
theorem Jnd(t:TypeId)(b m sz:Nat)(kk:IntKind)(n:Int):J7 P t (.stk b m sz) (.v (.int kk n))=match P.underlying t with
  |some (.slice e)=>if 0≤n∧n<m∧JH P e=sz∧0<sz then some (V.ptr b (n.toNat*sz))else none
  |_=>none:=by
 unfold J7
 cases P.underlying t with
 |none=>rfl
 |some d=>cases d<;>rfl
theorem Jne(t:TypeId)(b o:Nat)(kk:IntKind)(n:Int):J7 P t (.ptr b o) (.v (.int kk n))=match P.underlying t with
  |some (.array m e)=>if 0≤n∧n<m∧0<JH P e then some (V.ptr b (o+n.toNat*JH P e))else none
  |_=>none:=by
 unfold J7
 cases P.underlying t with
 |none=>rfl
 |some d=>cases d<;>rfl
theorem Jnf(t:TypeId)(cs:List V)(kk:IntKind)(n:Int):J7 P t (.rp cs) (.v (.int kk n))=match P.underlying t with
  |some (.array m e)=>if 0≤n∧n<m∧0<JH P e∧n.toNat*JH P e<cs.length then some (.rp (cs.drop (n.toNat*JH P e)))else none
  |_=>none:=by
 unfold J7
 cases P.underlying t with
 |none=>rfl
 |some d=>cases d<;>rfl
theorem Jng(t:TypeId)(b:ByteArray)(kk:IntKind)(n:Int)(hu:P.underlying t=some .string):YM P t (.v (.string b)) (.v (.int kk n))=if 0≤n then(b.data[n.toNat]?).map λc=> .v (.int .u8 c.toNat)else none:=by unfold YM;rw[hu]<;>rfl
theorem Jnh(t:TypeId)(cs:List V)(kk:IntKind)(n:Int):YM P t (.agg cs) (.v (.int kk n))=match P.underlying t with
  |some (.array m e)=>if 0≤n∧n<m then KK P e (cs.drop (n.toNat*JH P e))else none
  |_=>none:=by
 unfold YM
 cases P.underlying t with
 |none=>rfl
 |some d=>cases d<;>rfl
theorem Jni(i:Nat)(vs:List V):G2 i (.tup vs)=(vs[i]?).map cps:=rfl
theorem Jnj(e:TypeId)(k:Own)(rows:List (List V)):JDv (some (.slice e)) (.list k rows)=some (.v (.int .i64 rows.length)):=rfl
theorem Jnl(e:TypeId):JDv (some (.slice e)) .nil=some (.v (.int .i64 0)):=rfl
theorem Jnm(e:TypeId)(b o n:Nat):JDv (some (.slice e)) (.buf b o n)=some (.v (.int .i64 n)):=rfl
theorem Jnn(e:TypeId)(b n sz:Nat):JDv (some (.slice e)) (.stk b n sz)=some (.v (.int .i64 n)):=rfl
theorem Jno(b:ByteArray):JDv (some .string) (.v (.string b))=some (.v (.int .i64 b.size)):=rfl
theorem Jnp(h:JG)(t:TypeId)(cs:List V):YY P h t (.rp cs)=KK P t cs:=rfl
theorem Jnq(h:JG)(t:TypeId)(b o:Nat):YY P h t (.ptr b o)=match cellsOfOb h b with
  |some cs=>match Qq P t with
   |some true=>KK P t (cs.drop o)
   |some false=>(cs[o]?).map (tagC b o)
   |none=>none
  |none=>none:=rfl
end ops
def pre(b c:Bool):Prop:=b=true→c=true
theorem JTL(b:Bool):pre b b=True:=eq_true λh=>h
theorem JWx{a x c:Bool}(h:pre a c):pre (a&&x) c=True:=eq_true λg=>h (by cases a<;>simp_all)
theorem KA{b c:Bool}(h:pre b c)(hb:b=true)(v:V):gV c v=v:=by rw[h hb]<;>rfl
def HS(_:List V):Bool:=true
theorem JhQ:HS []=true:=by unfold HS;rfl
theorem JhR(x:Value)(l:List V):HS (.v x::l)=HS l:=by unfold HS;rfl
theorem JhS(l:List V):HS (.nil::l)=HS l:=by unfold HS;rfl
theorem JhT(k:Own)(r:List (List V))(l:List V):HS (.list k r::l)=HS l:=by unfold HS;rfl
theorem JhU(b o:Nat)(l:List V):HS (.ptr b o::l)=HS l:=by unfold HS;rfl
theorem JhV(cs:List V)(l:List V):HS (.rp cs::l)=HS l:=by unfold HS;rfl
theorem JhW(b o n:Nat)(l:List V):HS (.buf b o n::l)=HS l:=by unfold HS;rfl
theorem JhX(b n sz:Nat)(l:List V):HS (.stk b n sz::l)=HS l:=by unfold HS;rfl
theorem JhY(cs:List V)(l:List V):HS (.agg cs::l)=HS l:=by unfold HS;rfl
theorem JhZ(cs:List V)(l:List V):HS (.tup cs::l)=HS l:=by unfold HS;rfl
theorem Jha(f:Nat)(cs:List V)(l:List V):HS (.fn f cs::l)=HS l:=by unfold HS;rfl
theorem Jhb(b:Bool)(x y:V)(l:List V):HS (pickC b x y::l)=HS l:=by unfold HS;rfl
theorem Jhc(p:Prop)[Decidable p](x y:V)(l:List V):HS ((if p then x else y)::l)=HS l:=by unfold HS;rfl
theorem JQL(call:Zs)(lo:Nat)(s:St)(f:Operand)(args:List V)(_:HS args=true):WJ call lo s f args=match opd s.1 f with
 | .fn f caps=>match call lo f (Wi caps++(args.map fzs++Wj caps)) s.2 with
  |some (r,h)=>some (r,(untagC s.1,h))
  |none=>none
 |_=>none:=by unfold WJ;rfl
section W5
variable{b c:Bool}{s:St}{P:Program}(h:pre b c)
include h
theorem Jnr(v:V):YL b s (some (gV c v,s))=some (gV b v,s):=by
 cases hb:b with
 |true=>rw[KA h hb]<;>rfl
 |false=>rfl
theorem JQM(vars:List Nat)(t:Nat)(x:V):YL b s (KU s (Wn vars t (gV c x)))=YL b s (KU s (Wn vars t x)):=by
 cases hb:b with
 |true=>rw[KA h hb]
 |false=>rfl
theorem JNN(vars:List Nat)(t:Nat)(x:V):gH b (Wn vars t (gV c x))=gH b (Wn vars t x):=by
 cases hb:b with
 |true=>rw[KA h hb]
 |false=>rfl
theorem JTM(op:BinOp)(t:TypeId)(x y:V):YL b s (KU s (jP P op t (gV c x) y))=YL b s (KU s (jP P op t x y)):=by
 cases hb:b with
 |true=>rw[KA h hb]
 |false=>rfl
theorem JQN(op:BinOp)(t:TypeId)(x y:V):gH b (jP P op t (gV c x) y)=gH b (jP P op t x y):=by
 cases hb:b with
 |true=>rw[KA h hb]
 |false=>rfl
theorem JTN(op:BinOp)(t:TypeId)(x y:V):YL b s (KU s (jP P op t x (gV c y)))=YL b s (KU s (jP P op t x y)):=by
 cases hb:b with
 |true=>rw[KA h hb]
 |false=>rfl
theorem JQO(op:BinOp)(t:TypeId)(x y:V):gH b (jP P op t x (gV c y))=gH b (jP P op t x y):=by
 cases hb:b with
 |true=>rw[KA h hb]
 |false=>rfl
theorem JWy(op:UnOp)(x:V):YL b s (KU s (unV op (gV c x)))=YL b s (KU s (unV op x)):=by
 cases hb:b with
 |true=>rw[KA h hb]
 |false=>rfl
theorem JTO(op:UnOp)(x:V):gH b (unV op (gV c x))=gH b (unV op x):=by
 cases hb:b with
 |true=>rw[KA h hb]
 |false=>rfl
theorem JDw(x:V):YL b s (KU s (We (gV c x)))=YL b s (KU s (We x)):=by
 cases hb:b with
 |true=>rw[KA h hb]
 |false=>rfl
theorem JCJ(x:V):gH b (We (gV c x))=gH b (We x):=by
 cases hb:b with
 |true=>rw[KA h hb]
 |false=>rfl
theorem JQP(hp:JG)(t u:TypeId)(x:V):YL b s (KU s (JAm P hp t u (gV c x)))=YL b s (KU s (JAm P hp t u x)):=by
 cases hb:b with
 |true=>rw[KA h hb]
 |false=>rfl
theorem JNO(hp:JG)(t u:TypeId)(x:V):gH b (JAm P hp t u (gV c x))=gH b (JAm P hp t u x):=by
 cases hb:b with
 |true=>rw[KA h hb]
 |false=>rfl
theorem JCK(t:TypeId)(f:Nat)(x:V):YL b s (KU s (Qc P t f (gV c x)))=YL b s (KU s (Qc P t f x)):=by
 cases hb:b with
 |true=>rw[KA h hb]
 |false=>rfl
theorem JA1(t:TypeId)(f:Nat)(x:V):gH b (Qc P t f (gV c x))=gH b (Qc P t f x):=by
 cases hb:b with
 |true=>rw[KA h hb]
 |false=>rfl
theorem JNP(t:TypeId)(f:Nat)(x:V):YL b s (KU s (qh P t f (gV c x)))=YL b s (KU s (qh P t f x)):=by
 cases hb:b with
 |true=>rw[KA h hb]
 |false=>rfl
theorem JLK(t:TypeId)(f:Nat)(x:V):gH b (qh P t f (gV c x))=gH b (qh P t f x):=by
 cases hb:b with
 |true=>rw[KA h hb]
 |false=>rfl
theorem JCL(t:TypeId)(x y:V):YL b s (KU s (J7 P t (gV c x) y))=YL b s (KU s (J7 P t x y)):=by
 cases hb:b with
 |true=>rw[KA h hb]
 |false=>rfl
theorem JA2(t:TypeId)(x y:V):gH b (J7 P t (gV c x) y)=gH b (J7 P t x y):=by
 cases hb:b with
 |true=>rw[KA h hb]
 |false=>rfl
theorem JCM(t:TypeId)(x y:V):YL b s (KU s (J7 P t x (gV c y)))=YL b s (KU s (J7 P t x y)):=by
 cases hb:b with
 |true=>rw[KA h hb]
 |false=>rfl
theorem JA3(t:TypeId)(x y:V):gH b (J7 P t x (gV c y))=gH b (J7 P t x y):=by
 cases hb:b with
 |true=>rw[KA h hb]
 |false=>rfl
theorem JNQ(t:TypeId)(x y:V):YL b s (KU s (YM P t (gV c x) y))=YL b s (KU s (YM P t x y)):=by
 cases hb:b with
 |true=>rw[KA h hb]
 |false=>rfl
theorem JLL(t:TypeId)(x y:V):gH b (YM P t (gV c x) y)=gH b (YM P t x y):=by
 cases hb:b with
 |true=>rw[KA h hb]
 |false=>rfl
theorem JNR(t:TypeId)(x y:V):YL b s (KU s (YM P t x (gV c y)))=YL b s (KU s (YM P t x y)):=by
 cases hb:b with
 |true=>rw[KA h hb]
 |false=>rfl
theorem JLM(t:TypeId)(x y:V):gH b (YM P t x (gV c y))=gH b (YM P t x y):=by
 cases hb:b with
 |true=>rw[KA h hb]
 |false=>rfl
theorem JJg(i:Nat)(x:V):YL b s (KU s (G2 i (gV c x)))=YL b s (KU s (G2 i x)):=by
 cases hb:b with
 |true=>rw[KA h hb]
 |false=>rfl
theorem JDx(i:Nat)(x:V):gH b (G2 i (gV c x))=gH b (G2 i x):=by
 cases hb:b with
 |true=>rw[KA h hb]
 |false=>rfl
theorem JTP(u:Option TypeDesc)(x:V):YL b s (KU s (JDv u (gV c x)))=YL b s (KU s (JDv u x)):=by
 cases hb:b with
 |true=>rw[KA h hb]
 |false=>rfl
theorem JQQ(u:Option TypeDesc)(x:V):gH b (JDv u (gV c x))=gH b (JDv u x):=by
 cases hb:b with
 |true=>rw[KA h hb]
 |false=>rfl
theorem JQR(hp:JG)(t:TypeId)(x:V):YL b s (KU s (YY P hp t (gV c x)))=YL b s (KU s (YY P hp t x)):=by
 cases hb:b with
 |true=>rw[KA h hb]
 |false=>rfl
theorem JNS(hp:JG)(t:TypeId)(x:V):gH b (YY P hp t (gV c x))=gH b (YY P hp t x):=by
 cases hb:b with
 |true=>rw[KA h hb]
 |false=>rfl
theorem JQS(x y z:V):YL b s (KU s (Ga (gV c x) y z))=YL b s (KU s (Ga x y z)):=by
 cases hb:b with
 |true=>rw[KA h hb]
 |false=>rfl
theorem JNT(x y z:V):gH b (Ga (gV c x) y z)=gH b (Ga x y z):=by
 cases hb:b with
 |true=>rw[KA h hb]
 |false=>rfl
theorem JQT(x y z:V):YL b s (KU s (Ga x (gV c y) z))=YL b s (KU s (Ga x y z)):=by
 cases hb:b with
 |true=>rw[KA h hb]
 |false=>rfl
theorem JNU(x y z:V):gH b (Ga x (gV c y) z)=gH b (Ga x y z):=by
 cases hb:b with
 |true=>rw[KA h hb]
 |false=>rfl
theorem JQU(x y z:V):YL b s (KU s (Ga x y (gV c z)))=YL b s (KU s (Ga x y z)):=by
 cases hb:b with
 |true=>rw[KA h hb]
 |false=>rfl
theorem JNV(x y z:V):gH b (Ga x y (gV c z))=gH b (Ga x y z):=by
 cases hb:b with
 |true=>rw[KA h hb]
 |false=>rfl
theorem JTQ(call:Zs)(lo:Nat)(s1:St)(f:Operand)(w:V)(l:List V):YL b s (WJ call lo s1 f (gV c w::l))=YL b s (WJ call lo s1 f (w::l)):=by
 cases hb:b with
 |true=>rw[KA h hb]
 |false=>rfl
theorem JTR(call:Zs)(lo:Nat)(s1:St)(f:Operand)(x w:V)(l:List V):YL b s (WJ call lo s1 f (x::gV c w::l))=YL b s (WJ call lo s1 f (x::w::l)):=by
 cases hb:b with
 |true=>rw[KA h hb]
 |false=>rfl
theorem JTS(call:Zs)(lo:Nat)(s1:St)(f:Operand)(x y w:V)(l:List V):YL b s (WJ call lo s1 f (x::y::gV c w::l))=YL b s (WJ call lo s1 f (x::y::w::l)):=by
 cases hb:b with
 |true=>rw[KA h hb]
 |false=>rfl
theorem JTT(call:Zs)(lo:Nat)(s1:St)(f:Operand)(x y z w:V)(l:List V):YL b s (WJ call lo s1 f (x::y::z::gV c w::l))=YL b s (WJ call lo s1 f (x::y::z::w::l)):=by
 cases hb:b with
 |true=>rw[KA h hb]
 |false=>rfl
theorem JTU(call:Zs)(lo:Nat)(s1:St)(f:Operand)(x y z u w:V)(l:List V):YL b s (WJ call lo s1 f (x::y::z::u::gV c w::l))=YL b s (WJ call lo s1 f (x::y::z::u::w::l)):=by
 cases hb:b with
 |true=>rw[KA h hb]
 |false=>rfl
end W5
theorem Jns{d c:Bool}(h:pre (d==true) c)(v q:V):pickC d (gV c v) q=pickC d v q:=by
 cases d with
 |true=>rw[KA h (by rfl)]
 |false=>rfl
theorem Jnt{d c:Bool}(h:pre (d==false) c)(p v:V):pickC d p (gV c v)=pickC d p v:=by
 cases d with
 |true=>rfl
 |false=>rw[KA h (by rfl)]
theorem Jhd{b d c:Bool}{s:St}(h:pre (b&&(d==true)) c)(v q:V):YL b s (some (pickC d (gV c v) q,s))=YL b s (some (pickC d v q,s)):=by
 cases hb:b with
 |false=>rfl
 |true=>
  cases hd:d with
  |false=>rfl
  |true=>rw[KA h (by simp[hb,hd])]
theorem Jhe{b d c:Bool}{s:St}(h:pre (b&&(d==false)) c)(p v:V):YL b s (some (pickC d p (gV c v),s))=YL b s (some (pickC d p v,s)):=by
 cases hb:b with
 |false=>rfl
 |true=>
  cases hd:d with
  |true=>rfl
  |false=>rw[KA h (by simp[hb,hd])]
theorem Jhf{b d c:Bool}(h:pre (b&&(d==true)) c)(v q:V):gH b (some (pickC d (gV c v) q))=gH b (some (pickC d v q)):=by
 cases hb:b with
 |false=>rfl
 |true=>
  cases hd:d with
  |false=>rfl
  |true=>rw[KA h (by simp[hb,hd])]
theorem Jhg{b d c:Bool}(h:pre (b&&(d==false)) c)(p v:V):gH b (some (pickC d p (gV c v)))=gH b (some (pickC d p v)):=by
 cases hb:b with
 |false=>rfl
 |true=>
  cases hd:d with
  |true=>rfl
  |false=>rw[KA h (by simp[hb,hd])]
theorem Jnu(x:Value):cp (.v x)= .v x:=rfl
theorem Jnv:cp (.nil)= .nil:=rfl
theorem Jhh(r:List (List V)):cp (.list .no r)= .list .no r:=rfl
theorem Jnw(r:List (List V)):cp (.list .yes r)= .list .no r:=rfl
theorem Jnx(b o:Nat)(r:List (List V)):cp (.list (.cell b o) r)= .list .no r:=rfl
theorem Jny(u:Nat)(r:List (List V)):cp (.list (.slot u) r)= .list .no r:=rfl
theorem Jnz(b o:Nat):cp (.ptr b o)= .ptr b o:=rfl
theorem Jn0(cs:List V):cp (.rp cs)= .rp cs:=rfl
theorem Jn1(b o n:Nat):cp (.buf b o n)= .buf b o n:=rfl
theorem Jn2(b n sz:Nat):cp (.stk b n sz)= .stk b n sz:=rfl
theorem Jn3(cs:List V):cp (.agg cs)= .agg cs:=rfl
theorem Jn4(vs:List V):cp (.tup vs)= .tup vs:=rfl
theorem Jn5(f:Nat)(cs:List V):cp (.fn f cs)= .fn f cs:=rfl
theorem Jhi(x:Value):cps (.v x)= .v x:=rfl
theorem Jhj:cps (.nil)= .nil:=rfl
theorem Jal(r:List (List V)):cps (.list .no r)= .list .no r:=rfl
theorem Jhk(r:List (List V)):cps (.list .yes r)= .list .no r:=rfl
theorem Jhl(b o:Nat)(r:List (List V)):cps (.list (.cell b o) r)= .list .no r:=rfl
theorem Jhm(u:Nat)(r:List (List V)):cps (.list (.slot u) r)= .list .no r:=rfl
theorem Jhn(b o:Nat):cps (.ptr b o)= .ptr b o:=rfl
theorem Jho(cs:List V):cps (.rp cs)= .rp cs:=rfl
theorem Jhp(b o n:Nat):cps (.buf b o n)= .buf b o n:=rfl
theorem Jhq(b n sz:Nat):cps (.stk b n sz)= .stk b n sz:=rfl
theorem Jhr(cs:List V):cps (.agg cs)= .agg (cs.map cp):=rfl
theorem Jhs(vs:List V):cps (.tup vs)= .tup vs:=rfl
theorem Jht(f:Nat)(cs:List V):cps (.fn f cs)= .fn f cs:=rfl
theorem Jam(x:Value):own1 (.v x)= .v x:=rfl
theorem Jan:own1 (.nil)= .list .yes []:=rfl
theorem JWz(r:List (List V)):own1 (.list .no r)= .list .no r:=rfl
theorem Jao(r:List (List V)):own1 (.list .yes r)= .list .yes r:=rfl
theorem Jap(b o:Nat)(r:List (List V)):own1 (.list (.cell b o) r)= .list (.cell b o) r:=rfl
theorem Jaq(u:Nat)(r:List (List V)):own1 (.list (.slot u) r)= .list (.slot u) r:=rfl
theorem Jar(b o:Nat):own1 (.ptr b o)= .ptr b o:=rfl
theorem Jas(cs:List V):own1 (.rp cs)= .rp cs:=rfl
theorem Jat(b o n:Nat):own1 (.buf b o n)= .buf b o n:=rfl
theorem Jau(b n sz:Nat):own1 (.stk b n sz)= .stk b n sz:=rfl
theorem Jav(cs:List V):own1 (.agg cs)= .agg cs:=rfl
theorem Jaw(vs:List V):own1 (.tup vs)= .tup vs:=rfl
theorem Jax(f:Nat)(cs:List V):own1 (.fn f cs)= .fn f cs:=rfl
theorem JW0(x:Value):Ko (.v x)= .v x:=rfl
theorem JW1:Ko (.nil)= .list .yes []:=rfl
theorem JTV(r:List (List V)):Ko (.list .no r)= .list .no r:=rfl
theorem JW2(r:List (List V)):Ko (.list .yes r)= .list .yes r:=rfl
theorem JW3(b o:Nat)(r:List (List V)):Ko (.list (.cell b o) r)= .list (.cell b o) r:=rfl
theorem JW4(u:Nat)(r:List (List V)):Ko (.list (.slot u) r)= .list (.slot u) r:=rfl
theorem JW5(b o:Nat):Ko (.ptr b o)= .ptr b o:=rfl
theorem JW6(cs:List V):Ko (.rp cs)= .rp cs:=rfl
theorem JW7(b o n:Nat):Ko (.buf b o n)= .buf b o n:=rfl
theorem JW8(b n sz:Nat):Ko (.stk b n sz)= .stk b n sz:=rfl
theorem JW9(cs:List V):Ko (.agg cs)= .agg (cs.map own1):=rfl
theorem JXA(vs:List V):Ko (.tup vs)= .tup vs:=rfl
theorem JXB(f:Nat)(cs:List V):Ko (.fn f cs)= .fn f cs:=rfl
theorem Jn6(x:Value):fz (.v x)= .v x:=rfl
theorem Jn7:fz (.nil)= .list .no []:=rfl
theorem Jhu(r:List (List V)):fz (.list .no r)= .list .no r:=rfl
theorem Jn8(r:List (List V)):fz (.list .yes r)= .list .no r:=rfl
theorem Jn9(b o:Nat)(r:List (List V)):fz (.list (.cell b o) r)= .list .no r:=rfl
theorem JoA(u:Nat)(r:List (List V)):fz (.list (.slot u) r)= .list .no r:=rfl
theorem JoB(b o:Nat):fz (.ptr b o)= .ptr b o:=rfl
theorem JoC(cs:List V):fz (.rp cs)= .rp cs:=rfl
theorem JoD(b o n:Nat):fz (.buf b o n)= .buf b o n:=rfl
theorem JoG(b n sz:Nat):fz (.stk b n sz)= .stk b n sz:=rfl
theorem JoH(cs:List V):fz (.agg cs)= .agg cs:=rfl
theorem JoJ(vs:List V):fz (.tup vs)= .tup vs:=rfl
theorem JoK(f:Nat)(cs:List V):fz (.fn f cs)= .fn f cs:=rfl
theorem Jhv(x:Value):fzs (.v x)= .v x:=rfl
theorem Jhw:fzs (.nil)= .list .no []:=rfl
theorem Jay(r:List (List V)):fzs (.list .no r)= .list .no r:=rfl
theorem Jhx(r:List (List V)):fzs (.list .yes r)= .list .no r:=rfl
theorem Jhy(b o:Nat)(r:List (List V)):fzs (.list (.cell b o) r)= .list .no r:=rfl
theorem Jhz(u:Nat)(r:List (List V)):fzs (.list (.slot u) r)= .list .no r:=rfl
theorem Jh0(b o:Nat):fzs (.ptr b o)= .ptr b o:=rfl
theorem Jh1(cs:List V):fzs (.rp cs)= .rp cs:=rfl
theorem Jh2(b o n:Nat):fzs (.buf b o n)= .buf b o n:=rfl
theorem Jh3(b n sz:Nat):fzs (.stk b n sz)= .stk b n sz:=rfl
theorem Jh4(cs:List V):fzs (.agg cs)= .agg (cs.map fz):=rfl
theorem Jh5(vs:List V):fzs (.tup vs)= .tup vs:=rfl
theorem Jh6(f:Nat)(cs:List V):fzs (.fn f cs)= .fn f cs:=rfl
theorem JTW(x:Value):Jm (.v x)= .v x:=rfl
theorem JTX:Jm (.nil)= .nil:=rfl
theorem JQV(r:List (List V)):Jm (.list .no r)= .list .no r:=rfl
theorem JTY(r:List (List V)):Jm (.list .yes r)= .list .yes r:=rfl
theorem JTZ(b o:Nat)(r:List (List V)):Jm (.list (.cell b o) r)= .list .no r:=rfl
theorem JTa(u:Nat)(r:List (List V)):Jm (.list (.slot u) r)= .list .no r:=rfl
theorem JTb(b o:Nat):Jm (.ptr b o)= .ptr b o:=rfl
theorem JTc(cs:List V):Jm (.rp cs)= .rp cs:=rfl
theorem JTd(b o n:Nat):Jm (.buf b o n)= .buf b o n:=rfl
theorem JTe(b n sz:Nat):Jm (.stk b n sz)= .stk b n sz:=rfl
theorem JTf(cs:List V):Jm (.agg cs)= .agg cs:=rfl
theorem JTg(vs:List V):Jm (.tup vs)= .tup vs:=rfl
theorem JTh(f:Nat)(cs:List V):Jm (.fn f cs)= .fn f cs:=rfl
theorem JQW(x:Value):J0 (.v x)= .v x:=rfl
theorem JQX:J0 (.nil)= .nil:=rfl
theorem JNW(r:List (List V)):J0 (.list .no r)= .list .no r:=rfl
theorem JQY(r:List (List V)):J0 (.list .yes r)= .list .yes r:=rfl
theorem JQZ(b o:Nat)(r:List (List V)):J0 (.list (.cell b o) r)= .list .no r:=rfl
theorem JQa(u:Nat)(r:List (List V)):J0 (.list (.slot u) r)= .list (.slot u) r:=rfl
theorem JQb(b o:Nat):J0 (.ptr b o)= .ptr b o:=rfl
theorem JQc(cs:List V):J0 (.rp cs)= .rp cs:=rfl
theorem JQd(b o n:Nat):J0 (.buf b o n)= .buf b o n:=rfl
theorem JQe(b n sz:Nat):J0 (.stk b n sz)= .stk b n sz:=rfl
theorem JQf(cs:List V):J0 (.agg cs)= .agg cs:=rfl
theorem JQg(vs:List V):J0 (.tup vs)= .tup vs:=rfl
theorem JQh(f:Nat)(cs:List V):J0 (.fn f cs)= .fn f cs:=rfl
theorem JQi(b:Bool)(v:V):J0 (gV b v)=gV b (J0 v):=by cases b<;>rfl
theorem JTi(b:Bool)(v:V):Jm (gV b v)=gV b (Jm v):=by cases b<;>rfl
theorem JoL(b:Bool)(v:V):fz (gV b v)=gV b (fz v):=by cases b<;>rfl
theorem Jh7(b:Bool)(v:V):fzs (gV b v)=gV b (fzs v):=by cases b<;>rfl
theorem JoM(b:Bool)(v:V):cp (gV b v)=gV b (cp v):=by cases b<;>rfl
theorem JOp(t u:Nat)(x:V):∀g:Jl,look (ins t x g) u=if t=u then x else look g u
 |[]=>by simp only[ins,look]
 |(k,y)::g=>by
  simp only[ins]
  split
  ·rfl
  ·split
   ·rename_i _ h
    subst h;simp only[look]
    split<;>rfl
   ·rename_i _ h
    simp only[look,JOp t u x g]
    split
    ·rename_i h2
     subst h2;rw[if_neg h]
    ·rfl
theorem JGj(t:Nat)(x:V):∀g:Jl,untag (ins t x g)=ins t (Jm x) (untag g)
 |[]=>rfl
 |(k,y)::g=>by
  simp only[ins]
  split
  ·rename_i h;simp only[untag,A2,ins,if_pos h]
  ·rename_i h1
   split
   ·rename_i h;simp only[untag,A2,ins,if_neg h1,if_pos h]
   ·rename_i h
    have:=JGj t x g;unfold untag at this⊢;simp only[A2,ins,if_neg h1,if_neg h,this]
theorem JQj:untag []=[]:=rfl
theorem JNX(k:Nat)(x:V)(g:Jl):untag ((k,x)::g)=(k,Jm x)::untag g:=rfl
theorem Jaz(b:Bool)(x y:V):cps (pickC b x y)=pickC b (cps x) (cps y):=by cases b<;>rfl
theorem JCN(t:Nat)(x:V):∀g:Jl,untagC (ins t x g)=ins t (J0 x) (untagC g)
 |[]=>rfl
 |(k,y)::g=>by
  simp only[ins]
  split
  ·rename_i h;simp only[untagC,A2,ins,if_pos h]
  ·rename_i h1
   split
   ·rename_i h;simp only[untagC,A2,ins,if_neg h1,if_pos h]
   ·rename_i h
    have:=JCN t x g;unfold untagC at this⊢;simp only[A2,ins,if_neg h1,if_neg h,this]
theorem JNY:untagC []=[]:=rfl
theorem JLN(k:Nat)(x:V)(g:Jl):untagC ((k,x)::g)=(k,J0 x)::untagC g:=rfl
theorem JNZ(b:Bool)(x y:V):J0 (pickC b x y)=pickC b (J0 x) (J0 y):=by cases b<;>rfl
theorem JQk(b:Bool)(x y:V):Jm (pickC b x y)=pickC b (Jm x) (Jm y):=by cases b<;>rfl
theorem JTj(i:Nat):kilE i []=[]:=rfl
theorem JQl(i k:Nat)(x:V)(g:Jl):kilE i ((k,x)::g)=(k,kil i x)::kilE i g:=rfl
theorem JLO(i t:Nat)(x:V):∀g:Jl,kilE i (ins t x g)=ins t (kil i x) (kilE i g)
 |[]=>rfl
 |(k,y)::g=>by
  simp only[ins]
  split
  ·rename_i h;simp only[kilE,A2,ins,if_pos h]
  ·rename_i h1
   split
   ·rename_i h;simp only[kilE,A2,ins,if_neg h1,if_pos h]
   ·rename_i h
    have:=JLO i t x g;unfold kilE at this⊢;simp only[A2,ins,if_neg h1,if_neg h,this]
theorem JTk(h l:List Ob):(h++l).drop h.length=l:=List.drop_left
theorem JTl(h:List Ob):h.drop h.length=[]:=List.drop_length
theorem Jh8(i:Nat)(x:Value):kil i (.v x)= .v x:=rfl
theorem Jh9(i:Nat):kil i .nil= .nil:=rfl
theorem JiA(i:Nat)(k:Own)(r:List (List V)):kil i (.list k r)= .list k r:=rfl
theorem JiB(i:Nat)(cs:List V):kil i (.rp cs)= .rp cs:=rfl
theorem JiC(i:Nat):kil i .undef= .undef:=rfl
theorem JiD(i b o:Nat):kil i (.ptr b o)=if decide (b≠i)=true then .ptr b o else .undef:=rfl
theorem JiG(i b o n:Nat):kil i (.buf b o n)=if decide (b≠i)=true then .buf b o n else .undef:=rfl
theorem JiH(i b n sz:Nat):kil i (.stk b n sz)=if decide (b≠i)=true then .stk b n sz else .undef:=rfl
theorem JiJ(i:Nat)(cs:List V):kil i (.agg cs)=if cs.all (avf i)=true then .agg cs else .undef:=rfl
theorem JiK(i f:Nat)(cs:List V):kil i (.fn f cs)=if cs.all (avc i)=true then .fn f cs else .undef:=rfl
theorem JiL(i:Nat)(cs:List V):kil i (.tup cs)=if cs.all (avv i)=true then .tup cs else .undef:=rfl
theorem JiM(i:Nat)(b:Bool)(v:V):kil i (gV b v)=gV b (kil i v):=by cases b<;>rfl
theorem rg0:Bf 0=[]:=rfl
theorem rg1:Bf 1=[0]:=rfl
theorem rg2:Bf 2=[0,1]:=rfl
theorem rg3:Bf 3=[0,1,2]:=rfl
theorem rg4:Bf 4=[0,1,2,3]:=rfl
theorem rg5:Bf 5=[0,1,2,3,4]:=rfl
theorem rg6:Bf 6=[0,1,2,3,4,5]:=rfl
theorem rg7:Bf 7=[0,1,2,3,4,5,6]:=rfl
theorem rg8:Bf 8=[0,1,2,3,4,5,6,7]:=rfl
attribute [go_sem] List.mem_cons or_false false_or true_or or_true eq_self List.all_append rg0 rg1 rg2 rg3 rg4 rg5 rg6 rg7 rg8 Int.reduceLE Int.reduceLT Int.reduceToNat DO Nat.reduceLeDiff Nat.reduceMul true_and and_true Option.isSome_some CA Dt Value.oneCell'
attribute [go_sem] JOp JGj JQj JNX Jaz JQk JCN JNY JLN JNZ JQW JQX JNW JQY JQZ JQa JQb JQc JQd JQf JQg JQh JQi decide_true decide_false
attribute [go_sem high] Jnr Jhd Jhe Jhf Jhg JhC Jag
attribute [go_sem low] Jmw Jg9 Jmp w_b Jmq
attribute [go_sem] Jnu Jnv Jhh Jnw Jnx Jny Jnz Jn0 Jn1 Jn3 Jn4 Jn5 Jhi Jhj Jal Jhk Jhl Jhm Jhn Jho Jhp Jhr Jhs Jht Jam Jan JWz Jao Jap Jaq Jar Jas Jat Jav Jaw Jax JW0 JW1 JTV JW2 JW3 JW4 JW5 JW6 JW7 JW9 JXA JXB Jn6 Jn7 Jhu Jn8 Jn9 JoA JoB JoC JoD JoH JoJ JoK Jhv Jhw Jay Jhx Jhy Jhz Jh0 Jh1 Jh2 Jh4 Jh5 Jh6 JTW JTX JQV JTY JTZ JTa JTb JTc JTd JTf JTg JTh JTi JoL Jh7 JoM
attribute [go_sem] Wi Wj isU isRow JBD List.isEmpty_cons Jme Jmf Gw Jml Jnd Jnn JnJ JhX Jn2 Jhq Jau JW8 JoG Jh3 JTe JQe JTj JQl JLO JTk JTl Jh8 Jh9 JiA JiB JiC JiD JiG JiH JiJ JiK JiL JiM avc avf avv kilf JJD za Qe Hz H6 JDl GS JMe JaV JBh K6 okO Bo CB List.flatten_cons List.flatten_nil
attribute [go_sem] JTA JaB JaC JaD JaP JaQ Jac
attribute [go_sem] JaW Jg2 Jmm JaX JaY m_v JaZ Jaa Jg3 Jg4 Jg5 JWp Jab Jg6 Jad JWq Jg7 Jae Jaf Jg8 Jmn Jmo JYq JYr JhA JhB Jmr Jms Jmt Jmu Jmv Jmx JhD JS9 JWr Jai JWs JWt JWu Jaj JhG Jmy JhH Jak Jmz Jm0 Jm1 Jm2 Jm3 JhJ JhM JhN Jm4 Jm5 JWv JWw Jm6 Jah Jm7 Jm8 Jm9 JnA JnB JnC JnD JnG JnH JnK JnL JnM JnN JnO JhO JhP JnP JnQ JnR JnS JnT JnU JnV JnW JnX JnY JnZ Jna Jnb Jnc Jne Jnf Jng Jnh Jni Jnj Jnl Jnm Jno Jnp Jnq JTL JWx JQM JNN JTM JQN JTN JQO JWy JTO JDw JCJ JQP JNO JCK JA1 JNP JLK JCL JA2 JCM JA3 JNQ JLL JNR JLM JJg JDx JTP JQQ JQR JNS JQS JNT JQT JNU JQU JNV JTQ JTR JTS JTT JTU Jns Jnt JKc CN Bool.or_true Bp Bool.or_false A3 Bool.and_false As Bool.true_beq Bool.false_beq JS4 JS5 c_seq JS6 JJf JZ2 JZ3 JWe JWf JgB JNL JZ4 JZ5 JZ6 JZ7 JZ8 JWg JWh JWi JWj JZ9 JaA JO Jx Kh
 JaG JWk JWl JmH jj JJH JaH JmJ JmK JgC JaK JaJ JmL JgG JgH JgJ JmM JmN JBf JOW JWm JmQ JmR JmS JgO JgP JgQ JgR JgS JgT JgU JgV JgW JgX JgY JgZ Jga Jgb Jgc Jgd Jge Jgf Jgg Jgh Jgi Jgj Jgk Jgl Jgm Jgn Jgo Jgp Jgq JaN JaM JgM JgN JmO JmP JWn JmT JmU JmV JmW JmX Jgr JS7 Jl7 Jl8 Jl9 JmA JmB JmC JmD JmG JgK JgL JBg evLate1 Yx Jgs JmY JmZ Jma Jmb Jmc Jmd List.contains_cons List.contains_nil JaO Jgt Jgu Jgv JaR w_t w_f a_s a_0 JaS JaT Jgx Jmg Jmh Jgy JaU Jgz Jg0 Jmi Jg1 Jmj Jmk
 Jft Jfu Jfv Jfw Jfx Jfy Jl6 Jfz Jf0 Jf1 Jf2 Jf3 Jf4 Jf5 Jf6 Jf7 JZp JZq JZv JZr JZs JZt JZu Jf8 Jf9
 Zq WC opd look put lives K5 KX Jr ofC Kd Jw idx zY KK tagC cellsV W8 Qs okc okv okr H3 fzr
 Gv Wk H4 ki JQL JhQ JhR JhS JhT JhU JhV JhW JhY JhZ Jha Jhb Jhc fin JGC Kp ze QH setOb cellsOfOb bare yH loops JK JC List.zipIdx Option.getD_some Au List.append_nil AA JSz JZw JZ1 JS2 JS3 JZz JWd JZ0 JOi JS0 JS1 JgA JZx JZy JWc List.set_cons_zero List.set_cons_succ BP CG List.append_assoc n0 bne_self_eq_false beq_self_eq_true AN A5
attribute [go_sem] Nat.reduceEqDiff Nat.reduceLT Nat.reduceAdd Nat.lt_irrefl reduceIte if_true if_false Option.some.injEq Nat.not_lt_zero Nat.reduceBEq
attribute [go_sem] AK Option.map_none Option.bind_some A2 List.map_nil Ls Cd BQ List.drop_zero L4 CB List.getElem?_cons_zero List.getElem?_cons_succ
 List.getElem?_toArray List.length_cons List.length_nil Int.toNat_natCast Al BG List.size_toArray and_self Bi Dt B7 Aw Int.natCast_nonneg
@[go_sem] theorem JYs(l:List Int):J2 (ri .i32 l)=false:=by cases l<;>rfl
@[go_sem] theorem JtG(r:List V)(l:List (List V)):J2 (r::l)=JJG r:=rfl
@[go_sem] theorem JtH:J2 []=false:=rfl
attribute [go_sem] JAw yJ Gu QU byT JJG List.any_cons List.any_nil
end Go.Lift
end

section
namespace Go.Lift
theorem JTm(h l:List Ob)(k:Nat):(h++l).drop (h.length+k)=l.drop k:=by rw[List.drop_append,List.drop_of_length_le om,Au,BD]
theorem Ja0(h:List Ob)(a b c:Nat):decide (h.length+a<h.length+b+c)=decide (a<b+c):=by rw[decide_eq_decide];omega
theorem Ja1(h:List Ob)(b c:Nat):decide (h.length<h.length+b+c)=decide (0<b+c):=by rw[decide_eq_decide];omega
theorem JTn(h l:List Ob)(a b:Nat):(h++l).take (h.length+a+b)=h++l.take (a+b):=by rw[Nat.add_assoc];exact JOi h l (a+b)
theorem JQm:Jm .undef= .undef:=rfl
theorem JNa{α:Type}{l:List α}{n:Nat}{x:α}(hn:n<l.length):l.take n++x::l.drop (n+1)=l.set n x:=by rw[List.set_eq_take_append_cons_drop,if_pos hn]
theorem JQn:Jm .any= .any:=rfl
theorem JNb:J0 .undef= .undef:=rfl
theorem JNc:J0 .any= .any:=rfl
attribute [go_sem] JQn JNb JNc
theorem JoN:((2:Nat) !=0)=true:=rfl
theorem JoO:((1:Nat) !=0)=true:=rfl
theorem JoP:((0:Nat) !=0)=false:=rfl
attribute [go_sem] JoN JoO JoP
theorem Ja2:sw 0 4=4:=rfl
theorem Ja3:sw 0 5=5:=rfl
theorem Ja4:sw 0 6=6:=rfl
theorem Ja5:sw 0 7=7:=rfl
theorem Ja6:sw 0 8=8:=rfl
theorem Ja7:sw 0 9=9:=rfl
theorem Ja8:sw 1 3=3:=rfl
theorem Ja9:sw 1 4=4:=rfl
theorem JbA:sw 1 5=5:=rfl
theorem JbB:sw 1 6=6:=rfl
theorem JbC:sw 1 7=7:=rfl
theorem JbD:sw 1 8=8:=rfl
theorem JbG:sw 1 9=9:=rfl
theorem JbH:sw 2 4=4:=rfl
theorem JbJ:sw 2 5=5:=rfl
theorem JbK:sw 2 6=6:=rfl
theorem JbL:sw 2 7=7:=rfl
theorem JbM:sw 2 8=8:=rfl
theorem JbN:sw 2 9=9:=rfl
theorem JbO:sw 3 0=0:=rfl
theorem JbP:sw 3 1=1:=rfl
theorem JbQ:sw 3 2=2:=rfl
theorem JbR:sw 3 3=4:=rfl
theorem JbS:sw 3 4=3:=rfl
theorem JbT:sw 3 5=5:=rfl
theorem JbU:sw 3 6=6:=rfl
theorem JbV:sw 3 7=7:=rfl
theorem JbW:sw 3 8=8:=rfl
theorem JbX:sw 3 9=9:=rfl
theorem JbY:sw 4 0=0:=rfl
theorem JbZ:sw 4 1=1:=rfl
theorem Jba:sw 4 2=2:=rfl
theorem Jbb:sw 4 3=3:=rfl
theorem Jbc:sw 4 4=5:=rfl
theorem Jbd:sw 4 5=4:=rfl
theorem Jbe:sw 4 6=6:=rfl
theorem Jbf:sw 4 7=7:=rfl
theorem Jbg:sw 4 8=8:=rfl
theorem Jbh:sw 4 9=9:=rfl
theorem Jbi:sw 5 0=0:=rfl
theorem Jbj:sw 5 1=1:=rfl
theorem Jbk:sw 5 2=2:=rfl
theorem Jbl:sw 5 3=3:=rfl
theorem Jbm:sw 5 4=4:=rfl
theorem Jbn:sw 5 5=6:=rfl
theorem Jbo:sw 5 6=5:=rfl
theorem Jbp:sw 5 7=7:=rfl
theorem Jbq:sw 5 8=8:=rfl
theorem Jbr:sw 5 9=9:=rfl
theorem Jbs:sw 6 0=0:=rfl
theorem Jbt:sw 6 1=1:=rfl
theorem Jbu:sw 6 2=2:=rfl
theorem Jbv:sw 6 3=3:=rfl
theorem Jbw:sw 6 4=4:=rfl
theorem Jbx:sw 6 5=5:=rfl
theorem Jby:sw 6 6=7:=rfl
theorem Jbz:sw 6 7=6:=rfl
theorem Jb0:sw 6 8=8:=rfl
theorem Jb1:sw 6 9=9:=rfl
theorem Jb2:sw 7 0=0:=rfl
theorem Jb3:sw 7 1=1:=rfl
theorem Jb4:sw 7 2=2:=rfl
theorem Jb5:sw 7 3=3:=rfl
theorem Jb6:sw 7 4=4:=rfl
theorem Jb7:sw 7 5=5:=rfl
theorem Jb8:sw 7 6=6:=rfl
theorem Jb9:sw 7 7=8:=rfl
theorem JcA:sw 7 8=7:=rfl
theorem JcB:sw 7 9=9:=rfl
theorem JiN{α:Type}(a b c x y:α)(l:List α):zb 3 (a::b::c::x::y::l)=a::b::c::y::x::l:=rfl
theorem JiO{α:Type}(a b c d x y:α)(l:List α):zb 4 (a::b::c::d::x::y::l)=a::b::c::d::y::x::l:=rfl
theorem JiP{α:Type}(a b c d e x y:α)(l:List α):zb 5 (a::b::c::d::e::x::y::l)=a::b::c::d::e::y::x::l:=rfl
theorem JiQ{α:Type}(a b c d e f x y:α)(l:List α):zb 6 (a::b::c::d::e::f::x::y::l)=a::b::c::d::e::f::y::x::l:=rfl
theorem JiR{α:Type}(a b c d e f g x y:α)(l:List α):zb 7 (a::b::c::d::e::f::g::x::y::l)=a::b::c::d::e::f::g::y::x::l:=rfl
theorem JcC(j f:Nat)(cs:List V):swr j (.fn f cs)= .fn f (cs.map (swc j)):=rfl
theorem JcD(j f:Nat)(cs:List V):swf j (.fn f cs)= .fn f (cs.map (swc j)):=rfl
theorem JiS(j b n z:Nat):swf j (.stk b n z)= .stk (sw j b) n z:=rfl
theorem JiT(j b n z:Nat):swf j (.buf b n z)= .buf (sw j b) n z:=rfl
theorem JiU(j b o:Nat):swc j (.ptr b o)= .ptr (sw j b) o:=rfl
theorem JcG(j b n z:Nat):swc j (.stk b n z)= .stk (sw j b) n z:=rfl
theorem JiV(j:Nat)(k:Own)(r:List (List V)):swc j (.list k r)= .list k r:=rfl
theorem JiW(j:Nat)(x:Value):swc j (.v x)= .v x:=rfl
theorem JcH(j:Nat):swr j .any= .any:=rfl
theorem JcJ(j:Nat)(cs:List V):swr j (.agg cs)= .agg (cs.map (swf j)):=rfl
attribute [go_sem] Ja2 Ja3 Ja4 Ja5 Ja6 Ja7 Ja8 Ja9 JbA JbB JbC JbD JbG JbH JbJ JbK JbL JbM JbN JbO JbP JbQ JbR JbS JbT JbU JbV JbW JbX JbY JbZ Jba Jbb Jbc Jbd Jbe Jbf Jbg Jbh Jbi Jbj Jbk Jbl Jbm Jbn Jbo Jbp Jbq Jbr Jbs Jbt Jbu Jbv Jbw Jbx Jby Jbz Jb0 Jb1 Jb2 Jb3 Jb4 Jb5 Jb6 Jb7 Jb8 Jb9 JcA JcB JiN JiO JiP JiQ JiR JcC JcD JiS JiT JiU JcG JiV JiW JcH JcJ BD Db
theorem JcK(h:List Ob)(a b c:Nat):(h.length+a+b<h.length+c)=(a+b<c):=by rw[eq_iff_iff];omega
theorem JcL(h:List Ob)(k:Nat):decide (h.length+(k+1)≠h.length)=true:=by rw[decide_eq_true_iff];omega
theorem JcM(h:List Ob):decide (h.length≠h.length)=false:=by rw[decide_eq_false_iff_not];omega
theorem JcN(h:List Ob)(a b:Nat):decide (h.length+a≠h.length+b)=decide (a≠b):=by rw[decide_eq_decide];omega
theorem JcO(h:List Ob)(k:Nat):decide (h.length≠h.length+(k+1))=true:=by rw[decide_eq_true_iff];omega
theorem JcP(h:List Ob)(a b:Nat):decide (h.length+a<h.length+b)=decide (a<b):=by rw[decide_eq_decide];omega
theorem JcQ(h:List Ob)(k:Nat):decide (h.length<h.length+(k+1))=true:=by rw[decide_eq_true_iff];omega
theorem JXC(a:Nat):decide (a≠a)=false:=by simp
attribute [go_sem] JXC
theorem JcR(h:List Ob)(k:Nat):(h.length+(k+1)=h.length)=False:=by rw[eq_iff_iff,iff_false];omega
theorem JcS(h:List Ob)(a b:Nat):(h.length+a<h.length+b)=(a<b):=by rw[eq_iff_iff];omega
theorem JoQ(n a b:Nat):sw n (n+a+b)=n+sw 0 (a+b):=by
 unfold sw
 repeat' split
 all_goals omega
theorem JoR(n i a b:Nat):sw (n+i) (n+a+b)=n+sw i (a+b):=by
 unfold sw
 repeat' split
 all_goals omega
attribute [go_sem] JcS JoQ JoR
attribute [go_sem] JcR
attribute [go_sem] JcK JcP JcQ JcL JcM JcN JcO
attribute [go_sem] Nat.le_add_right Ad Nat.add_le_add_iff_left
theorem JcT{a b:Nat}(h:(a==b)=false):(a≠b)=True:=by rw[eq_iff_iff,iff_true];intro e;rw[e,beq_self_eq_true]at h;cases h
attribute [go_sem] JcT LB JQm
attribute [go_sem] JTm Lm Ja0 Ja1 JTn
end Go.Lift
end

section
namespace Go.Lift
variable{mx:Mix}{ops:Array Oper}{t a b:Tr}{n k:Nat}{top:Bool}{listed l':Array Bool}
theorem JcU(h:(Region.ready .any ops listed).isEmpty=true):Jk mx ops .fin 0 true listed=true:=by unfold Jk;rw[h]<;>rfl
theorem Jz(hr:(Region.ready .any ops listed).contains k=true)(hf:yM mx ops listed k=true)(he:listed.setIfInBounds k true=l')(ht:Jk mx ops t n true l'=true):Jk mx ops (.head k t) (n+1) true listed=true:=by unfold Jk;rw[hr,hf,he];simp only[ht];rfl
theorem JTo(hr:(!(Region.ready .any ops listed).isEmpty&&(Region.ready .any ops listed).all (· ==k))=true)(he:listed.setIfInBounds k true=l')(ht:Jk mx ops t n true l'=true):Jk mx ops (.one k t) (n+1) true listed=true:=by unfold Jk;simp only[AN,A3];rw[hr,he,ht]<;>rfl
theorem JS(he:listed.setIfInBounds k true=l')(ht:Jk mx ops t n true l'=true):Jk mx ops (.one k t) (n+1) false listed=true:=by unfold Jk;rw[he];simp only[ht];rfl
theorem KN(hr:(!(Region.ready .any ops listed).isEmpty&&(Region.ready .any ops listed).all λk=>(a.firsts++b.firsts).contains k)=true)(ha:Jk mx ops a n false listed=true)(hb:Jk mx ops b n false listed=true):Jk mx ops (.alt a b) n true listed=true:=by unfold Jk;simp only[AN,A3];rw[hr,ha,hb]<;>rfl
theorem Kq(ha:Jk mx ops a n false listed=true)(hb:Jk mx ops b n false listed=true):Jk mx ops (.alt a b) n false listed=true:=by unfold Jk;rw[ha,hb]<;>rfl
def Kr(r:Nat)(P:Program)(h:Hint)(nt:Nat):Code->Bool
 | .region id ops draw=>ops.toList.all (JOU h nt)&&(!draw||id==r||HL P h id ops)
 | .seq a b=>Kr r P h nt a&&Kr r P h nt b
 | .cond _ a b=>Kr r P h nt a&&Kr r P h nt b
 | .block _ a=>Kr r P h nt a
 | .loop a=>Kr r P h nt a
 | .scope a=>Kr r P h nt a
 |_=>true
def WK(r:Nat):Code->List (Array Oper)
 | .region id ops _=>if id==r then[ops]else[]
 | .seq a b=>WK r a++WK r b
 | .cond _ a b=>WK r a++WK r b
 | .block _ a=>WK r a
 | .loop a=>WK r a
 | .scope a=>WK r a
 |_=>[]
theorem Qw{r:Nat}{P:Program}{h:Hint}{nt:Nat}:∀{c:Code},Kr r P h nt c=true->(∀o∈WK r c,HL P h r o=true)->codeOk P h nt c=true
 | .region id ops draw,h1,h2=>by
  unfold Kr at h1;unfold codeOk;simp only[Af,Bool.or_eq_true]at h1⊢;refine⟨h1.1,?_⟩
  rcases h1.2 with(h|h)|h
  ·exact .inl h
  ·obtain rfl:id=r:=by simpa using h
   exact .inr (h2 ops (by unfold WK;rw[if_pos (by simp)];simp))
  ·exact .inr h
 | .seq a b,h1,h2=>by
  unfold Kr at h1;unfold codeOk;unfold WK at h2;simp only[Af]at h1⊢
  exact⟨Qw h1.1 λo ho=>h2 o (AO.2 (.inl ho)),Qw h1.2 λo ho=>h2 o (AO.2 (.inr ho))⟩
 | .cond _ a b,h1,h2=>by
  unfold Kr at h1;unfold codeOk;unfold WK at h2;simp only[Af]at h1⊢
  exact⟨Qw h1.1 λo ho=>h2 o (AO.2 (.inl ho)),Qw h1.2 λo ho=>h2 o (AO.2 (.inr ho))⟩
 | .block _ a,h1,h2=>by unfold Kr at h1;unfold codeOk;unfold WK at h2;exact Qw h1 h2
 | .loop a,h1,h2=>by unfold Kr at h1;unfold codeOk;unfold WK at h2;exact Qw h1 h2
 | .scope a,h1,h2=>by unfold Kr at h1;unfold codeOk;unfold WK at h2;exact Qw h1 h2
 | .exit _,_,_=>rfl
 | .ret,_,_=>rfl
 | .skip,_,_=>rfl
 | .rangeFunc ..,_,_=>rfl
 | .label ..,_,_=>rfl
 | .goto ..,_,_=>rfl
 | .refuse ..,_,_=>rfl
theorem JNd{P:Program}{h:Hint}{id:Nat}{o:Array Oper}{mx:Mix}(hm:h.mix id=some mx)(hs:Region.noSelect o=true)(ht:Jk mx o mx.tree o.size true (Array.replicate o.size false)=true):HL P h id o=true:=by unfold HL;rw[hm];simp only;rw[hs,ht]<;>rfl
end Go.Lift
end

section
namespace Go.Lift
variable[GTab][BTy]
open Go.RowKit
section
variable{P:Program}{m:List Nat}{c:Cl}{w:World}{h:JG}
theorem JTp{w':World}{lo A n:Nat}{arr:Array Value}{e:TypeId}{f:Nat×Nat}(hH:HOK m c w h)(hlo:lo<=h.length)(hb:Below w.heap.size w w')(hA:w.heap.size<=A)(hw:w'.heap[A]? =some (.cells arr e f))(hn:n<=arr.size):
  HOK m (λb=>if b=A then n else c b) w' h/\Fr lo (hoOf m w h lo) w m c w' m (λb=>if b=A then n else c b)/\JGJ lo (hoOf m w h lo) w m w' [] h JBu:=by
 have hI:=jH (vars:=[]) (args:=[]) (xs:= #[]) (nt:=0) (lo:=lo) hH R2.nil (by rfl) (Ad _) hlo
 have hI':=hI.grown (c':=λb=>if b=A then n else c b) (w':=w') none hb.size
  (λb hl _=>⟨hb.block b hl,if_neg om⟩) (λb hx=>by cases hx)
  (λb hl _ h0=>by
   have h0:0<(if b=A then n else c b):=h0
   by_cases hbA:b=A
   ·subst hbA
    exact⟨arr,e,f,hw,by show(if b=b then n else c b)<=_;rw[if_pos rfl];exact hn⟩
   ·rw[if_neg hbA,hI.core.c_zero hl]at h0;omega) hb.os hb.tape hb.output
 exact⟨hI'.hok,hI'.fr,hI'.owned⟩
theorem JNe{f lo:Nat}{args:List V}{xs:List Value}(hlo:lo<=h.length)(he:∀xs w,(callFunc f xs).run P w= .ok (.enter f xs) w)(hone:∀x∈xs,x.oneCell'=true)
  (hx:∀m c w (ys:Array Value),HOK m c w h->R2 (VRr m c w) args ys.toList->Calls P f ys w λe w'=>∃A cap arr ty fz,e= .returned (.slice (some ⟨A,0,none⟩) xs.length cap)/\w.heap.size<=A/\xs.length<=cap/\
   w'.heap[A]? =some (.cells arr ty fz)/\(∀(i:Nat) x,xs[i]? =some x->arr[i]? =some x)/\Below w.heap.size w w'):
  KY P lo f args h (.list .no (xs.map λx=>[.v x])) h:=
 CallOK0.ok ⟨rfl,he,λm c w ys hH ha=>⟨⟨rfl,rfl,Keeps.refl _ _⟩,(hx m c w ys hH ha).mono λe w' ⟨A,cap,arr,ty,fz,h1,h2,h3,h4,h5,hb⟩=>by
  have hn:xs.length<=arr.size:=by
   rcases Nat.eq_zero_or_pos xs.length with h0|h0
   ·omega
   ·have:=h5 (xs.length-1) (xs[xs.length-1]'om) (List.getElem?_eq_getElem om)
    have:=(Array.getElem?_eq_some_iff.1 this).1
    omega
  obtain⟨q1,q2,q3⟩:=JTp (lo:=lo) (n:=xs.length) hH hlo hb h2 h4 hn;refine⟨_,_,h1,?_,q1,q2,q3⟩
  have:=jA (k:= .no) (c:=λb=>if b=A then xs.length else c b) (w:=w') (rows:=xs.map λx=>[.v x]) (b:=A) (cap:=cap) (sz:=1) h4 om
   (λrow hr=>by obtain⟨x,_,rfl⟩:=List.mem_map.1 hr;rfl) (by rw[Aq];exact h3) (by rw[Aq,if_pos rfl];omega)
   (λi j row v hi hj=>by
    rw[List.getElem?_map,Option.map_eq_some_iff]at hi
    obtain⟨x,hx,rfl⟩:=hi
    cases j with
    |zero=>cases hj;exact⟨x,by simpa using h5 i x hx,.v x (hone x (Aj hx))⟩
    |succ j=>simp at hj)
  rw[Aq]at this
  exact this⟩⟩
theorem JTq(hH:HOK m c w h):HOK [] c w []:=by
 have hn:∀{l r x},¬At [] w [] [] JBu l r x:=λ{l r x} hl=>by
  cases l with
  |slot t=>exact absurd hl.1 (by simp[look])
  |cell i j=>obtain⟨cs,b,k1,_⟩:=hl;unfold cellsOfOb at k1;simp at k1
 have hl0:∀t:Nat,look [] t=V.undef:=λt=>rfl
 refine⟨⟨hH.1.wf1,λb hb=>(BG hb).elim,List.nodup_nil,rfl,λt=>?_,λi o b hi=>?_,λl r x hl=>absurd hl hn,λl l' r r' x x' b hl=>absurd hl hn,λt u r ht=>?_,λt i j r ht=>?_,hH.1.gt⟩,λi cs hi=>?_⟩
 ·rw[hl0];trivial
 ·simp at hi
 ·rw[hl0]at ht;cases ht
 ·rw[hl0]at ht;cases ht
 ·unfold cellsOfOb at hi;simp at hi
theorem JXD(m:List Nat):Pre [] m:=λi b h=>by simp at h
theorem JiX{f:Nat}{args:List V}{r:V}(hk:KY P 0 f args [] r [])(ha:args.all (okr 0)=true)(hr:okr 0 r=true)(lo:Nat)(h:JG)(hlo:lo<=h.length):KY P lo f args h r h:=
 CallOK0.ok ⟨hk.1,hk.2.1,λm c w ys hH hy=>⟨⟨rfl,rfl,Keeps.refl _ _⟩,by
  have hy':R2 (VRr [] c w) args ys.toList:=⟨hy.1,λi v x hv hx=>by
   have:=(hy.2 i v x hv hx).less (n:=0) (List.all_eq_true.1 ha v (Aj hv))
   simpa using this⟩
  refine(hk.2.2 [] c w ys (JTq hH) hy').2.mono λe w' ⟨x,c',m',h1,h2,h3,h4,_⟩=>?_
  have hI:=jH (vars:=[]) (args:=[]) (xs:= #[]) (nt:=0) (lo:=lo) hH R2.nil (by rfl) (Ad _) hlo
  have hno:∀b,¬hoOf [] w [] 0 b:=λb ⟨i,j,r,z,_,hl,_⟩=>by obtain⟨cs,b',k1,_⟩:=hl;unfold cellsOfOb at k1;simp at k1
  have hI':=hI.grown (c':=c') (w':=w') none h4.size (λb hl _=>h4.fix b hl (λi _=>by simp) (hno b)) (λb hx=>by cases hx)
   (λb _ _ h0=>h3.1.wf1 b h0) h4.os h4.tape h4.output
  have hx:VRr [] c' w' r x:=by have:=h2.less (n:=0) hr;simpa using this
  exact⟨x,c',h1,hx.mono (JXD m) (Ext.refl c' w'),hI'.hok,hI'.fr,hI'.owned⟩⟩⟩
noncomputable def HT(l:List (List V×V))(lo:Nat)(args:List V)(h:JG):Option (V×JG):=
 match l with
 |[]=>none
 |(a,r)::l=>if kY args a=true then some (r,h)else HT l lo args h
theorem HU{f:Nat}:∀{l:List (List V×V)},(∀p∈l,KY P 0 f p.1 [] p.2 [])->(l.all λp=>p.1.all (okr 0)&&okr 0 p.2)=true->∀lo args h r h',lo<=h.length->HT l lo args h=some (r,h')->KY P lo f args h r h'
 |[],_,_,lo,args,h,r,h',_,he=>by cases he
 |(a,q)::l,hl,hp,lo,args,h,r,h',hlo,he=>by
  simp only[Bi,Af]at hp;unfold HT at he
  split at he
  ·rename_i hv
   cases he;have e:args=a:=GT _ _ hv;subst e;exact JiX (hl _ (List.mem_cons_self ..)) hp.1.1 hp.1.2 lo h hlo
  ·exact HU (λp hm=>hl p (List.mem_cons_of_mem _ hm)) hp.2 lo args h r h' hlo he
end
end Go.Lift
end

section
namespace Go.Lift
def flat:Code->List Code
 | .seq a b=>flat a++flat b
 |c=>[c]
variable[GTab][BTy]
section
variable(c:Cx)(lp:YZ)(s:St)
noncomputable def WD:List Code->St->Option (Ex×St)
 |[],s=>some (.normal,s)
 |a::l,s=>match evCode c lp a s with
  |some (.normal,s')=>WD l s'
  |r=>r
noncomputable def JGk(l:List Code):Option (Ex×St)->Option (Ex×St)
 |some (.normal,s')=>WD c lp l s'
 |r=>r
theorem JiY:WD c lp [] s=some (.normal,s):=rfl
theorem JJh(a:Code)(l:List Code):WD c lp (a::l) s=JGk c lp l (evCode c lp a s):=by
 simp only[WD]
 cases evCode c lp a s with
 |none=>rfl
 |some p=>obtain⟨e,s'⟩:=p;cases e<;>rfl
theorem JXG(l:List Code):JGk c lp l (some (.normal,s))=WD c lp l s:=rfl
theorem JoS(l:List Code):JGk c lp l (some (.ret,s))=some (.ret,s):=rfl
theorem JoT(l:List Code)(id:Nat):JGk c lp l (some (.exit id,s))=some (.exit id,s):=rfl
theorem JoU(l:List Code):JGk c lp l none=none:=rfl
theorem l_app(m:List Code):∀(l:List Code) (s:St),WD c lp (l++m) s=JGk c lp m (WD c lp l s)
 |[],s=>rfl
 |a::l,s=>by
  rw[AA,JJh,JJh]
  cases evCode c lp a s with
  |none=>rfl
  |some p=>
   obtain⟨e,s'⟩:=p
   cases e with
   |normal=>rw[JXG,JXG];exact l_app m l s'
   |exit j=>rfl
   |ret=>rfl
theorem one_l(a:Code):WD c lp [a] s=evCode c lp a s:=by
 rw[JJh]
 cases evCode c lp a s with
 |none=>rfl
 |some p=>obtain⟨e,s'⟩:=p;cases e<;>rfl
theorem JXH:∀(b:Code) (s:St),evCode c lp b s=WD c lp (flat b) s:=by
 intro b
 induction b with
 |seq a b iha ihb=>
  intro s;rw[c_seq,flat,l_app,<-iha]
  cases evCode c lp a s with
  |none=>rfl
  |some p=>
   obtain⟨e,s'⟩:=p
   cases e with
   |normal=>rw[JNL,JXG];exact ihb s'
   |exit j=>rfl
   |ret=>rfl
 |_=>intro s;exact(one_l c lp s _).symm
def pc(b:Code)(i n:Nat):List Code:=((flat b).drop i).take n
noncomputable def JGl(b:Code)(i:Nat):Option (Ex×St)->Option (Ex×St)
 |some (.normal,s')=>WD c lp ((flat b).drop i) s'
 |r=>r
theorem pc_in(b:Code):evCode c lp b s=JGl c lp b 0 (some (.normal,s)):=by rw[JXH]<;>rfl
theorem pc_go(b:Code)(i n:Nat):JGl c lp b i (some (.normal,s))=JGl c lp b (i+n) (WD c lp (pc b i n) s):=by
 show WD c lp ((flat b).drop i) s=_
 have e:(flat b).drop i=pc b i n++(flat b).drop (i+n):=by unfold pc;rw[<-List.drop_drop];exact(List.take_append_drop n _).symm
 rw[e,l_app]<;>rfl
theorem Qr(b:Code)(i:Nat):JGl c lp b i (some (.ret,s))=some (.ret,s):=rfl
end
theorem JoV(a b:Code):flat (.seq a b)=flat a++flat b:=rfl
theorem JoW(id:Nat)(ops:Array Oper)(d:Bool):flat (.region id ops d)=[.region id ops d]:=rfl
theorem JoX(x:Operand)(a b:Code):flat (.cond x a b)=[.cond x a b]:=rfl
theorem JoY(id:Nat)(a:Code):flat (.block id a)=[.block id a]:=rfl
theorem JoZ(a:Code):flat (.loop a)=[.loop a]:=rfl
theorem Joa(id:Nat):flat (.exit id)=[.exit id]:=rfl
theorem Job:flat .ret=[.ret]:=rfl
theorem Joc:flat .skip=[.skip]:=rfl
theorem Jod(a:Code):flat (.scope a)=[.scope a]:=rfl
theorem Joe(l:List Code):l.drop 0=l:=rfl
attribute [go_sem] JiY JJh JXG JoS JoT JoU pc JoV JoW JoX JoY JoZ Joa Job Joc Jod Joe BQ Ls Cd CB L4
end Go.Lift
end
